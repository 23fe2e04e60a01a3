/- S11, G8, P8, G10, G11, A24, A25, P9, Q4, Q5, Q6, G12, Q7, Q3, Q8, N1, N2, G2, N3, N4, G4, A27 -/
import Derived.Test.YthilboheomikjaaGreatDoorMRRexParses3
import Derived.Scope
import Derived.Control
set_option linter.unusedVariables false
set_option linter.unusedSimpArgs false
section
namespace Go.Proofs.YthilboheomikjaaGreatDoor
open Go.AL Go.Lib
set_option maxRecDepth 100000
theorem Zns {k a b:Nat} {v:List Zb} (hab:a<b) (hb:b≤v.length) (hv:v.length≤1073741824) (hk:v.length<k) (hk2:5<k) :
    ∃fl v',F154 k v (a:Int) (b:Int)=some (fl,v')∧List.Perm v' v∧(Small v→Bnd v a b→ZaK v v' a b∧(fl=true→ZL v' a b)):=by
  unfold F154
  rw [Zu (by omega) (by omega),show (a:Int)+1=((a+1:Nat):Int) by omega]
  obtain ⟨fl,v',e,p,c⟩:=Zjo (k:=k) hab k 0 (a+1) v (by omega) (by omega) (by omega) (by omega) hb hv hk
  exact ⟨fl,v',e,p,fun hs hbd=>c hs hbd fun p q x y h1 h2 h3=>by omega⟩
def Srt (v v':List Zb) (a b:Nat):Prop:=List.Perm v' v∧(Small v→Bnd v a b→ZaK v v' a b∧ZL v' a b)
def Pre (v v':List Zb) (a b:Nat):Prop:=List.Perm v' v∧(Small v→Bnd v a b→ZaK v v' a b)
theorem Kept.pre {v w:List Zb} {a b:Nat} (h:Kept v w a b):Pre v w a b:=⟨h.perm,fun _ _=>h.out⟩
theorem Pre.trans {u v w:List Zb} {a b:Nat} (hb:b≤u.length) (h:Pre u v a b) (g:Pre v w a b):Pre u w a b:=⟨g.1.trans h.1,fun hs hbd=>by
  have k:Kept u v a b:=⟨h.1,h.2 hs hbd⟩
  have o:=g.2 (hs.perm h.1) (hbd.kept k (Nat.le_refl _) (Nat.le_refl _) hb)
  exact fun p hp=>(o p hp).trans (k.out p hp)⟩
theorem Pre.srt {u v w:List Zb} {a b:Nat} (hb:b≤u.length) (h:Pre u v a b) (g:Srt v w a b):Srt u w a b:=⟨g.1.trans h.1,fun hs hbd=>by
  have k:Kept u v a b:=⟨h.1,h.2 hs hbd⟩
  obtain ⟨o,s⟩:=g.2 (hs.perm h.1) (hbd.kept k (Nat.le_refl _) (Nat.le_refl _) hb)
  exact ⟨fun p hp=>(o p hp).trans (k.out p hp),s⟩⟩
theorem Zf4 {t:List Zb} {a b q:Nat} {z:Zb} (hz:t[q]?=some z) (hq:q<b) (h1:∀p x,a≤p→p<q→t[p]?=some x→x.f_Lo≤z.f_Lo) (h2:∀p x,q<p→p<b→t[p]?=some x→z.f_Lo≤x.f_Lo)
    (s1:ZL t a q) (s2:ZL t (q+1) b):ZL t a b:=fun i j x y ha hij hj hx hy=>by
  by_cases jq:j<q
  · exact s1 i j x y ha hij jq hx hy
  · by_cases iq:q<i
    · exact s2 i j x y iq hij hj hx hy
    · have hxz:x.f_Lo≤z.f_Lo:=by
        by_cases e:i=q
        · subst e;rw [hz] at hx;obtain rfl:=Option.some.inj hx;omega
        · exact h1 i x ha (by omega) hx
      have hzy:z.f_Lo≤y.f_Lo:=by
        by_cases e:j=q
        · subst e;rw [hz] at hy;obtain rfl:=Option.some.inj hy;omega
        · exact h2 j y (by omega) hj hy
      omega
theorem Bnd.less {v:List Zb} {a b c:Nat} (h:Bnd v a b) (hc:c≤b):Bnd v a c:=fun p x y h0 hx hp hp2 hy=>h p x y h0 hx hp (by omega) hy
theorem Zjg {w:List Zb} {a b q:Nat} {z:Zb} (hs:Small w) (h:ZfB w a b q z):(∀p x,a≤p→p<q→w[p]?=some x→x.f_Lo≤z.f_Lo)∧(∀p x,q<p→p<b→w[p]?=some x→z.f_Lo≤x.f_Lo):=
  ⟨fun p x h1 h2 hx=>by have:=(ZcW hs hx h.here).1 (h.lo p x h1 h2 hx);omega,fun p x h1 h2 hx=>by
    have:=h.hi p x h1 h2 hx
    rw [ZcW hs hx h.here] at this
    omega⟩
theorem Znx {w u t:List Zb} {a b q:Nat} {z:Zb} (haq:a≤q) (hq:q<b) (hb:b≤w.length) (hp:ZfB w a b q z) (h1:Srt w u a q) (h2:Srt u t (q+1) b):Srt w t a b:=by
  refine ⟨h2.1.trans h1.1,fun hs hbd=>?_⟩
  obtain ⟨o1,s1⟩:=h1.2 hs (hbd.less (by omega))
  have k1:Kept w u a q:=⟨h1.1,o1⟩
  obtain ⟨lo,hi⟩:=Zjg hs hp
  have hus:=hs.perm k1.perm
  have bu:Bnd u (q+1) b:=fun p x y _ hx hp2 hp3 hy=>by
    rw [Nat.add_sub_cancel,k1.out q (by omega),hp.here] at hx
    obtain rfl:=Option.some.inj hx
    rw [k1.out p (by omega)] at hy
    exact hi p y (by omega) hp3 hy
  obtain ⟨o2,s2⟩:=h2.2 hus bu
  have k2:Kept u t (q+1) b:=⟨h2.1,o2⟩
  refine ⟨fun p hp=>(o2 p (by omega)).trans (o1 p (by omega)),Zf4 (z:=z) (q:=q) ?_ hq ?_ ?_ ?_ s2⟩
  · rw [o2 q (by omega),o1 q (by omega)];exact hp.here
  · intro p x hap hpq hx
    rw [o2 p (by omega)] at hx
    obtain ⟨r,r1,r2,hr⟩:=k1.mem (by omega) hap hpq hx
    exact lo r x r1 r2 hr
  · intro p x hqp hpb hx
    obtain ⟨r,r1,r2,hr⟩:=k2.mem (by rw [k1.len];exact hb) hqp hpb hx
    rw [o1 r (by omega)] at hr
    exact hi r x r1 r2 hr
  · intro i j x y ha hij hj hx hy
    rw [o2 i (by omega)] at hx
    rw [o2 j (by omega)] at hy
    exact s1 i j x y ha hij hj hx hy
theorem ZmO {w u t:List Zb} {a b q:Nat} {z:Zb} (haq:a≤q) (hq:q<b) (hb:b≤w.length) (hp:ZfB w a b q z) (h1:Srt w u (q+1) b) (h2:Srt u t a q):Srt w t a b:=by
  refine ⟨h2.1.trans h1.1,fun hs hbd=>?_⟩
  obtain ⟨lo,hi⟩:=Zjg hs hp
  have bw:Bnd w (q+1) b:=fun p x y _ hx hp2 hp3 hy=>by
    rw [Nat.add_sub_cancel,hp.here] at hx
    obtain rfl:=Option.some.inj hx
    exact hi p y (by omega) hp3 hy
  obtain ⟨o1,s1⟩:=h1.2 hs bw
  have k1:Kept w u (q+1) b:=⟨h1.1,o1⟩
  have hus:=hs.perm k1.perm
  have bu:Bnd u a q:=fun p x y h0 hx hp2 hp3 hy=>by
    rw [o1 (a-1) (by omega)] at hx
    rw [o1 p (by omega)] at hy
    exact hbd p x y h0 hx hp2 (by omega) hy
  obtain ⟨o2,s2⟩:=h2.2 hus bu
  have k2:Kept u t a q:=⟨h2.1,o2⟩
  refine ⟨fun p hp=>(o2 p (by omega)).trans (o1 p (by omega)),Zf4 (z:=z) (q:=q) ?_ hq ?_ ?_ s2 ?_⟩
  · rw [o2 q (by omega),o1 q (by omega)];exact hp.here
  · intro p x hap hpq hx
    obtain ⟨r,r1,r2,hr⟩:=k2.mem (by rw [k1.len];omega) hap hpq hx
    rw [o1 r (by omega)] at hr
    exact lo r x r1 r2 hr
  · intro p x hqp hpb hx
    rw [o2 p (by omega)] at hx
    obtain ⟨r,r1,r2,hr⟩:=k1.mem hb hqp hpb hx
    exact hi r x r1 r2 hr
  · intro i j x y ha hij hj hx hy
    rw [o2 i (by omega)] at hx
    rw [o2 j (by omega)] at hy
    exact s1 i j x y ha hij hj hx hy
theorem ZmN {v w t:List Zb} {a b q:Nat} {z:Zb} (haq:a<q) (hqb:q≤b) (hb:b≤v.length) (h0:0<a) (hz:∀x,v[a-1]?=some x→Small v→z.f_Lo≤x.f_Lo) (hzv:z∈v) (hk:Kept v w a b) (hp:ZiB w a b q z) (h:Srt w t q b):Srt v t a b:=by
  refine ⟨h.1.trans hk.perm,fun hs hbd=>?_⟩
  have hws:=hs.perm hk.perm
  have hzs:-4611686018427387904≤z.f_Lo∧z.f_Lo≤4611686018427387903:=hs z hzv
  have lo:∀p x,a≤p→p<q→w[p]?=some x→x.f_Lo≤z.f_Lo:=fun p x h1 h2 hx=>by
    have:=hp.lo p x h1 h2 hx
    unfold Le at this
    rw [ZeI hzs (hws.at hx)] at this
    omega
  have hi:∀p x,q≤p→p<b→w[p]?=some x→z.f_Lo<x.f_Lo:=fun p x h1 h2 hx=>by
    have:=hp.hi p x h1 h2 hx
    unfold Le at this
    rw [ZeI hzs (hws.at hx)] at this
    omega
  have bw:=hbd.kept hk (Nat.le_refl _) (Nat.le_refl _) hb
  obtain ⟨y0,hy0⟩:=ZP (v:=v) (i:=a-1) (by omega)
  have hwl:=hk.len
  have all:∀p x,a≤p→p<b→w[p]?=some x→z.f_Lo≤x.f_Lo:=fun p x h1 h2 hx=>by
    have h3:=bw p y0 x h0 (by rw [hk.out (a-1) (by omega)];exact hy0) h1 h2 hx
    have h4:=hz y0 hy0 hs
    omega
  have bq:Bnd w q b:=fun p x y _ hx hp2 hp3 hy=>by
    have h1:=lo (q-1) x (by omega) (by omega) hx
    have h2:=hi p y hp2 hp3 hy
    omega
  obtain ⟨o,s⟩:=h.2 hws bq
  have kt:Kept w t q b:=⟨h.1,o⟩
  refine ⟨fun p hp=>(o p (by omega)).trans (hk.out p hp),fun i j x y ha hij hj hx hy=>?_⟩
  by_cases iq:q≤i
  · exact s i j x y iq hij hj hx hy
  · rw [o i (by omega)] at hx
    have h1:=lo i x ha (by omega) hx
    by_cases jq:q≤j
    · obtain ⟨r,r1,r2,hr⟩:=kt.mem (by omega) jq hj hy
      have:=hi r y r1 r2 hr
      omega
    · rw [o j (by omega)] at hy
      have:=all j y (by omega) hj hy
      omega
def ZnF (R:List Zb→Int→Int→Int→Option (List Zb)) (k:Nat):Prop:=∀(v:List Zb) (a b:Nat) (l:Int),a≤b→b≤v.length→v.length≤1073741824→v.length+(b-a)+8≤k→∃v',R v (a:Int) (b:Int) l=some v'∧Srt v v' a b
theorem Zfl {R:List Zb→Int→Int→Int→Option (List Zb)} {k:Nat} (hR:ZnF R k):∀(m:Nat) (v:List Zb) (a b:Nat) (lim:Int) (wb wp:Bool),a≤b→b≤v.length→v.length≤1073741824→v.length+(b-a)+7≤k→b-a<m→
    ∃v',Zag R k m v (a:Int) (b:Int) lim wb wp=some v'∧Srt v v' a b
  | 0,v,a,b,lim,wb,wp,_,_,_,_,hm=>by omega
  | m+1,v,a,b,lim,wb,wp,hab,hb,hv,hk,hm=>by
    have e:Zag R k (m+1) v (a:Int) (b:Int) lim wb wp=ZeW R k (Zag R k m) v (a:Int) (b:Int) lim wb wp:=rfl
    rw [e]
    unfold ZeW
    rw [ZiS hab (by omega)]
    by_cases h12:b-a≤12
    · rw [dt (by omega)]
      obtain ⟨v',e1,p1,o1,s1⟩:=ZoZ (k:=k) (a:=a) (b:=b) (v:=v) (by omega) hab hb hv
      rw [cond_true,e1,Option.bind_some,if_pos p1.length_eq]
      exact ⟨v',rfl,p1,fun hs _=>⟨o1,s1 hs⟩⟩
    rw [df (by omega),cond_false]
    by_cases hl:lim=0
    · rw [ZaE hl,cond_true]
      obtain ⟨v',e1,k1,s1⟩:=Zol (k:=k) (a:=a) (b:=b) (v:=v) (by omega) (by omega) hb hv
      rw [e1,Option.bind_some,if_pos k1.len]
      exact ⟨v',rfl,k1.perm,fun hs _=>⟨k1.out,s1 hs⟩⟩
    rw [ZG hl,cond_false]
    have h17:∀(w:List Zb) (pv:Nat) (l2:Int),Pre v w a b→a≤pv→pv<b→∃v',Zdw R k (Zag R k m) (a:Int) (b:Int) wb wp l2 (pv:Int) w=some v'∧Srt v v' a b:=fun w pv l2 pw ha hpb=>by
      have hwl:=pw.1.length_eq
      obtain ⟨z,hz⟩:=ZP (v:=w) (i:=pv) (by omega)
      have h18f:∃v',Zcn R k (Zag R k m) (a:Int) (b:Int) wb wp l2 (pv:Int) w false=some v'∧Srt v v' a b:=by
        unfold Zcn
        obtain ⟨q,fl,u,z2,e1,q1,q2,k1,par⟩:=Zos (k:=k) (a:=a) (b:=b) (pp:=pv) (v:=w) (by omega) ha hpb (by omega) (by omega)
        have hul:=k1.len
        rw [cond_false,e1,Option.bind_some,if_pos hul,if_pos (by decide)]
        have ew:w64 ((q:Int)+1)=((q+1:Nat):Int):=by rw [Zu (by omega) (by omega)];omega
        simp only
        rw [ew]
        have pu:Pre v u a b:=pw.trans hb k1.pre
        cases decide (w64 ((q:Int)-(a:Int))<w64 ((b:Int)-(q:Int)))
        · obtain ⟨t,e2,t2⟩:=hR u (q+1) b l2 (by omega) (by omega) (by omega) (by omega)
          have htl:=t2.1.length_eq
          rw [cond_false,e2,Option.bind_some,if_pos htl]
          obtain ⟨v',e3,t3⟩:=Zfl hR m t a q l2 _ fl q1 (by omega) (by omega) (by omega) (by omega)
          exact ⟨v',e3,pu.srt hb (ZmO q1 q2 (by omega) par t2 t3)⟩
        · obtain ⟨t,e2,t2⟩:=hR u a q l2 (by omega) (by omega) (by omega) (by omega)
          have htl:=t2.1.length_eq
          rw [cond_true,e2,Option.bind_some,if_pos htl]
          obtain ⟨v',e3,t3⟩:=Zfl hR m t (q+1) b l2 _ fl (by omega) (by omega) (by omega) (by omega) (by omega)
          exact ⟨v',e3,pu.srt hb (Znx q1 q2 (by omega) par t2 t3)⟩
      unfold Zdw
      by_cases h0:0<a
      · rw [dt (by omega),cond_true]
        obtain ⟨x,hx⟩:=ZP (v:=w) (i:=a-1) (by omega)
        rw [Zg8 (by omega) (by omega),if_pos ⟨by omega,by omega⟩,Zy,hx,Option.bind_some,if_pos ⟨by omega,by omega⟩,Zy,hz,Option.bind_some]
        simp only [F104,Option.bind_some]
        by_cases hc:w64 (x.f_Lo-z.f_Lo)<0
        · rw [dt hc];exact h18f
        · rw [df hc]
          unfold Zcn
          obtain ⟨q,u,e1,q1,q2,k1,par⟩:=Zno (k:=k) (a:=a) (b:=b) (pp:=pv) (v:=w) (by omega) ha hpb (by omega) (by omega) hz
          have hul:=k1.len
          rw [Bool.not_false,cond_true,e1,Option.bind_some,if_pos hul]
          obtain ⟨v',e3,t3⟩:=Zfl hR m u q b l2 wb wp (by omega) (by omega) (by omega) (by omega) (by omega)
          refine ⟨v',e3,pw.srt hb (ZmN q1 q2 (by omega) h0 (fun y hy hs=>?_) (List.mem_of_getElem? hz) k1 par t3)⟩
          rw [hx] at hy
          obtain rfl:=Option.some.inj hy
          rw [ZeI (hs.at hx) (hs.at hz)] at hc
          omega
      · rw [df (by omega)];exact h18f
    have h15:∀(w:List Zb) (pv:Nat) (l2 h:Int),Pre v w a b→a≤pv→pv<b→∃v',Zdv R k (Zag R k m) (a:Int) (b:Int) wb wp l2 w (pv:Int) h=some v'∧Srt v v' a b:=fun w pv l2 h pw ha hpb=>by
      have hwl:=pw.1.length_eq
      have h16:∀c:Bool,∃v',Zcm R k (Zag R k m) (a:Int) (b:Int) wb wp l2 w (pv:Int) c=some v'∧Srt v v' a b:=fun c=>by
        unfold Zcm
        cases c
        · exact h17 w pv l2 pw ha hpb
        · obtain ⟨fl,u,e1,p1,c1⟩:=Zns (k:=k) (a:=a) (b:=b) (v:=w) (by omega) (by omega) (by omega) (by omega) (by omega)
          have hul:=p1.length_eq
          rw [cond_true,e1,Option.bind_some,if_pos hul]
          cases fl
          · exact h17 u pv l2 (pw.trans hb ⟨p1,fun hs hbd=>(c1 hs hbd).1⟩) ha hpb
          · exact ⟨u,rfl,pw.srt hb ⟨p1,fun hs hbd=>⟨(c1 hs hbd).1,(c1 hs hbd).2 rfl⟩⟩⟩
      unfold Zdv
      cases wb
      · rw [cond_false];exact h16 _
      · cases wp
        · rw [cond_true,cond_false];exact h16 _
        · rw [cond_true,cond_true];exact h16 _
    have h14:∀(w:List Zb) (l2:Int),Pre v w a b→∃v',Zdu R k (Zag R k m) (a:Int) (b:Int) wb wp w l2=some v'∧Srt v v' a b:=fun w l2 pw=>by
      have hwl:=pw.1.length_eq
      unfold Zdu
      obtain ⟨p,h,e1,p1,p2⟩:=Znq (k:=k) (a:=a) (b:=b) (v:=w) (by omega) (by omega) (by omega)
      rw [e1,Option.bind_some,if_pos rfl]
      simp only
      cases h == 2
      · exact h15 w p l2 h pw p1 p2
      · obtain ⟨u,e2,k2⟩:=Zo9 (k:=k) (a:=a) (b:=b) (v:=w) (by omega) (by omega) (by omega) (by omega)
        rw [cond_true,e2,Option.bind_some,if_pos k2.len,Zg8 (by omega) (by omega),ZiS p1 (by omega),show w64 (((b-1:Nat):Int)-((p-a:Nat):Int))=((b-1-(p-a):Nat):Int) by rw [Zu (by omega) (by omega)];omega]
        exact h15 u (b-1-(p-a)) l2 1 (pw.trans hb k2.pre) (by omega) (by omega)
    cases wb
    · obtain ⟨u,e1,k1⟩:=Zm9 (k:=k) (a:=a) (b:=b) (v:=v) (by omega) (by omega) hb hv
      rw [Bool.not_false,cond_true,e1,Option.bind_some,if_pos k1.len]
      exact h14 u _ k1.pre
    · exact h14 v lim ⟨List.Perm.refl _,fun _ _ _ _=>rfl⟩
theorem ZmH:∀k:Nat,ZnF (F121 k) k
  | 0=>fun v a b l _ _ _ hk=>by omega
  | k+1=>fun v a b l hab hb hv hk=>by
    show ∃v',Zag (F121 k) k k v (a:Int) (b:Int) l true true=some v'∧Srt v v' a b
    exact Zfl (ZmH k) k v a b l true true hab hb hv (by omega) (by omega)
theorem Zow {k:Nat} {v:List Zb} (hv:v.length≤1073741824) (hk:2*v.length+8≤k):∃v',F103 k v=some v'∧List.Perm v' v∧(Small v→ZL v' 0 v'.length):=by
  unfold F103
  obtain ⟨y,hy⟩:∃y,F112 k (IntKind.wrap .u64 (v.length:Int))=some y:=by
    have hw:IntKind.wrap .u64 (v.length:Int)=v.length:=by simp [IntKind.wrap,IntKind.bits,IntKind.signed];omega
    unfold F112
    rw [hw,if_pos (by omega)]
    exact ⟨_,rfl⟩
  obtain ⟨v',e,p,c⟩:=ZmH k v 0 v.length y (by omega) (by omega) hv (by omega)
  have e':F121 k v 0 (v.length:Int) y=some v':=e
  rw [hy,Option.bind_some,e',Option.bind_some,if_pos p.length_eq]
  exact ⟨v',rfl,p,fun hs=>by rw [p.length_eq];exact (c hs fun p x y h0=>by omega).2⟩
end Go.Proofs.YthilboheomikjaaGreatDoor
end
section
namespace Go.Proofs.YthilboheomikjaaGreatDoor
open Go.AL
set_option maxRecDepth 100000
def ZeE (self4:(List Zb)→Int→Option (List Zb)) (v137:Int) (v150:List Zb):Option (List Zb):=
  self4 v150 (w64 (v137+1))
def ZfA (self4:(List Zb)→Int→Option (List Zb)) (v135:List Zb) (v137:Int) (y139:Zb) (v143:Bool):Option (List Zb):=
  cond v143 (if (0:Int)≤(w64 ((v135.length:Int)-1))∧(w64 ((v135.length:Int)-1))<(v135.length:Int) then (idxL v135 (w64 ((v135.length:Int)-1))).bind fun y146=>if (0:Int)≤(w64 ((v135.length:Int)-1))∧(w64 ((v135.length:Int)-1))<(v135.length:Int) then (idxL v135 (w64 ((v135.length:Int)-1))).bind fun y148=>(ZeE self4 v137 (v135.set (Int.toNat (w64 ((v135.length:Int)-1))) ({ y148 with f_Hi:=(mx y146.f_Hi y139.f_Hi) }:Zb))) else none else none) (if v135.length+([y139]:List Zb).length≤1073741824 then (ZeE self4 v137 (v135 ++ ([y139]:List Zb))) else none)
def ZcN (self4:(List Zb)→Int→Option (List Zb)) (y102:List Zb) (v135:List Zb) (v137:Int):Option (List Zb):=
  (cond (decide (v137<(y102.length:Int))) ((idxL y102 v137).bind fun y139=>((cond (decide ((v135.length:Int) > 0)) (if (0:Int)≤(w64 ((v135.length:Int)-1))∧(w64 ((v135.length:Int)-1))<(v135.length:Int) then (idxL v135 (w64 ((v135.length:Int)-1))).bind fun y142=>(ZfA self4 v135 v137 y139 (decide (y139.f_Lo≤(w64 (y142.f_Hi+1))))) else none) ((ZfA self4 v135 v137 y139 false))))) (((some v135))))
def Zcd (y102:List Zb):Nat→(List Zb)→Int→Option (List Zb)
  | 0,_,_=>none
  | m_+1,v135,v137=>ZcN (Zcd y102 m_) y102 v135 v137
def F77 (k:Nat) (v0:List Zb):Option (List Zb):=
  (F102 k v0).bind fun y101=>(F103 k y101).bind fun y102=>if y102.length=y101.length then (((Zcd y102 k ([]:List Zb) 0))) else none
theorem ZhI (k:Nat) (v0:List Zb) (r:List Zb) (hF:F77 k v0=some r):Sim Tryz.prog GL0 77 [one (.sl (v0.map Za))] [] (one (.sl (r.map Za))) []:=by
 refine ZB [] Tryz.func77 rfl kr kr ?_
 show WA _ _ 53 _ _ _
 refine WA.seq ?_
 refine WA.reg [0] [] [] (env':=[(0,one (.sl (v0.map Za)))]) (os':=[]) (O:=[]) kr (sound _ _) trivial ?_
 refine WA.seq ?_
 obtain ⟨y101,hy101,hF⟩:=bind_some hF
 refine WA.reg [0] [108] [(1,.call [] (.val false [.arr 0 y101.length]) [.arr 2 (y101.map Za)] [108])] (env':=[(0,.val false [.arr 108 y101.length])]) (os':=[(108,.arr 2 (y101.map Za))]) (O:=[Sim Tryz.prog GL0 102 [one (.sl (v0.map Za))] [] (.val false [.arr 0 y101.length]) [.arr 2 (y101.map Za)],([]:List Nat).Nodup]) kr (sound _ _) ⟨(ZnO k _ _ hy101),(by decide),trivial⟩ ?_
 refine WA.seq ?_
 obtain ⟨y102,hy102,hF⟩:=bind_some hF
 obtain ⟨hl103,hF⟩:=Zo hF
 refine WA.reg [0] [108] [(1,.call [108] (.tup []) [.arr 2 (y102.map Za)] [])] (env':=[(0,.val false [.arr 108 y101.length])]) (os':=[(108,.arr 2 (y102.map Za))]) (O:=[Sim Tryz.prog GL0 103 [.val false [.arr 0 y101.length],.val false [.pv (.fn 104)]] [.arr 2 (y101.map Za)] (.tup []) [.arr 2 (y102.map Za)],([108]:List Nat).Nodup]) kr (sound _ _) ⟨(ZnP k _ _ hy102 (n0:=y101.length) zt),(by decide),trivial⟩ ?_
 refine WA.seq ?_
 refine WA.reg [0,3] [103,108] [(0,.obj 103)] (env':=[(0,.val false [.arr 108 y101.length]),(3,.val false [.arr 103 0])]) (os':=[(103,.arr 2 (([]:List Zb).map Za)),(108,.arr 2 (y102.map Za))]) (O:=[]) kr (sound _ _) trivial ?_
 refine WA.seq ?_
 refine WA.seq ?_
 refine WA.rm (α:=Int) (raw:=((y101.length:Nat):Int)) (can:=(y102.length:Int)) (fun m_=>([(3,.val false [.arr 103 0]),(11,.val false [.arr 108 y101.length]),(12,one (.int .i64 m_)),(13,one (.int .i64 0))],[(103,.arr 2 (([]:List Zb).map Za)),(108,.arr 2 (y102.map Za))],[])) ((by first | (simp only [zl,Zh];done) | (simp only [zl,Zh];omega) | omega)) [3,11,12,13] [103,108] [] kr (sound _ _) trivial ?_
 refine WA.freeze 108 11 (s:=2) (n:=y101.length) (els:=(y102.map Za)) rfl rfl zt ?_
 refine WA.keep [3,11,12,13] [103] (env':=[(3,.val false [.arr 103 0]),(11,one (.sl (y102.map Za))),(12,one (.int .i64 (y102.length:Int))),(13,one (.int .i64 0))]) (os':=[(103,.arr 2 (([]:List Zb).map Za))]) kr kr ?_
 refine WA.block ?_
 refine WA.loop (fun m s_=>∃(v135:List Zb) (v136:Nat) (v137:Int),Zl s_.env [3,11,12,13]=[(3,.val false [.arr 103 v136]),(11,one (.sl (y102.map Za))),(12,one (.int .i64 (y102.length:Int))),(13,one (.int .i64 v137))]∧Zl s_.os [103]=[(103,.arr 2 (v135.map Za))]∧v136=(v135:List _).length∧Zcd y102 m v135 v137=some r) k ⟨([]:List Zb),0,0,kr,kr,zt,hF⟩ ?_
 clear hF
 rintro m4 s_ ⟨v135,v136,v137,he,ho,hn_v136,hF⟩
 refine WA.keep _ _ he ho ?_
 clear he ho
 cases m4 with
 | zero=>cases hF
 | succ m4=>
  obtain ⟨self4,hself4⟩:∃g,g=Zcd y102 m4:=⟨_,rfl⟩
  have hF:ZcN self4 y102 v135 v137=some r:=by first | (rw [hself4];exact hF) | exact hF
  refine WA.seq ?_
  refine WA.reg [3,11,12,13,14] [103] [] (env':=[(3,.val false [.arr 103 v136]),(11,one (.sl (y102.map Za))),(12,one (.int .i64 (y102.length:Int))),(13,one (.int .i64 v137)),(14,one (.bool (decide (v137<(y102.length:Int)))))]) (os':=[(103,.arr 2 (v135.map Za))]) (O:=[]) kr (sound _ _) trivial ?_
  refine WA.seq ?_
  refine WA.cond (b:=(decide (v137<(y102.length:Int)))) rfl (fun hb138=>?_) (fun hb138=>?_)
  {
 have hF:=Zk hF hb138
 refine WA.skip ?_
 refine WA.join (fun s_=>∃(v150:List Zb) (v151:Nat),Zl s_.env [3,11,12,13]=[(3,.val false [.arr 103 v151]),(11,one (.sl (y102.map Za))),(12,one (.int .i64 (y102.length:Int))),(13,one (.int .i64 v137))]∧Zl s_.os [103]=[(103,.arr 2 (v150.map Za))]∧v151=(v150:List _).length∧ZeE self4 v137 v150=some r) ?_ ?_
 {
 rintro s_ ⟨v150,v151,he,ho,hn_v151,hF⟩
 refine WA.keep _ _ he ho ?_
 clear he ho
 refine WA.reg [3,11,12,13] [103] [] (env':=[(3,.val false [.arr 103 v151]),(11,one (.sl (y102.map Za))),(12,one (.int .i64 (y102.length:Int))),(13,one (.int .i64 (w64 (v137+1))))]) (os':=[(103,.arr 2 (v150.map Za))]) (O:=[]) kr (sound _ _) trivial ?_
 exact ⟨m4,Nat.lt_succ_self _,v150,v151,(w64 (v137+1)),kr,kr,zt,by rw [hself4] at hF;exact hF⟩ }
 {
 refine WA.block ?_
 refine WA.seq ?_
 obtain ⟨y139,hy139,hF⟩:=bind_some hF
 refine WA.reg [3,5,11,12,13] [103,105] [(0,.cells (Za y139)),(2,.obj 105)] (env':=[(3,.val false [.arr 103 v136]),(5,.val false [.ptr 105 1 0 0]),(11,one (.sl (y102.map Za))),(12,one (.int .i64 (y102.length:Int))),(13,one (.int .i64 v137))]) (os':=[(103,.arr 2 (v135.map Za)),(105,.box (pvL (Za y139)))]) (O:=[idxL (y102.map Za) v137=some (Za y139)]) kr (sound _ _) ⟨(Zs _ hy139),trivial⟩ ?_
 refine WA.seq ?_
 refine WA.rm (α:=Int) (raw:=((v136:Nat):Int)) (can:=(v135.length:Int)) (fun m_=>([(3,.val false [.arr 103 v136]),(5,.val false [.ptr 105 1 0 0]),(6,one (.int .i64 m_)),(11,one (.sl (y102.map Za))),(12,one (.int .i64 (y102.length:Int))),(13,one (.int .i64 v137))],[(103,.arr 2 (v135.map Za)),(105,.box (pvL (Za y139)))],[])) ((by first | (simp only [zl,Zh];done) | (simp only [zl,Zh];omega) | omega)) [3,5,6,11,12,13] [103,105] [] kr (sound _ _) trivial ?_
 refine WA.join (fun s_=>∃(v143:Bool),Zl s_.env [3,5,6,11,12,13,32]=[(3,.val false [.arr 103 v136]),(5,.val false [.ptr 105 1 0 0]),(6,one (.int .i64 (v135.length:Int))),(11,one (.sl (y102.map Za))),(12,one (.int .i64 (y102.length:Int))),(13,one (.int .i64 v137)),(32,one (.bool v143))]∧Zl s_.os [103,105]=[(103,.arr 2 (v135.map Za)),(105,.box (pvL (Za y139)))]∧ZfA self4 v135 v137 y139 v143=some r) ?_ ?_
 {
 rintro s_ ⟨v143,he,ho,hF⟩
 refine WA.keep _ _ he ho ?_
 clear he ho
 refine WA.cond (b:=v143) rfl (fun hb144=>?_) (fun hb144=>?_)
 {
 have hF:=Zk hF hb144
 obtain ⟨hc145,hF⟩:=Zo hF
 obtain ⟨y146,hy146,hF⟩:=bind_some hF
 obtain ⟨hc147,hF⟩:=Zo hF
 obtain ⟨y148,hy148,hF⟩:=bind_some hF
 have z0:(w64 ((v135.length:Int)-1))<((v136:Nat):Int):=(by have h_:=hc145.2;(try simp only [zl,Zh] at h_ ⊢);omega)
 refine WA.rdm (α:=(List (List PV))) (raw:=((v135.map Za).set (Int.toNat (w64 ((v135.length:Int)-1))) (Za ({ y148 with f_Hi:=(mx y146.f_Hi y139.f_Hi) }:Zb)))) (can:=((v135.set (Int.toNat (w64 ((v135.length:Int)-1))) ({ y148 with f_Hi:=(mx y146.f_Hi y139.f_Hi) }:Zb)).map Za)) (fun m_=>([(3,.val false [.arr 103 v136]),(11,one (.sl (y102.map Za))),(12,one (.int .i64 (y102.length:Int))),(13,one (.int .i64 v137))],[(103,.arr 2 m_)],[v136=(v135.map Za).length,(0:Int)≤(w64 ((v135.length:Int)-1)),(w64 ((v135.length:Int)-1))<((v136:Nat):Int),v136=(v135.map Za).length,0<v136,v136=(v135.map Za).length,(v135.map Za)[Int.toNat (w64 ((v135.length:Int)-1))]?=some (Za y146),v136=(v135.map Za).length,(0:Int)≤(w64 ((v135.length:Int)-1)),(w64 ((v135.length:Int)-1))<((v136:Nat):Int),v136=(v135.map Za).length,0<v136,v136=(v135.map Za).length,(v135.map Za)[Int.toNat (w64 ((v135.length:Int)-1))]?=some (Za y148)])) (zm) [3,11,12,13] [103] [(8,.cells (Za y146)),(14,.cells (Za y148))] kr kr kr (sound _ _) ⟨zt,hc145.1,z0,zt,(by omega),zt,(Zr (Zs _ hy146)),zt,hc147.1,z0,zt,(by omega),zt,(Zr (Zs _ hy148)),trivial⟩ ?_
 exact ⟨(v135.set (Int.toNat (w64 ((v135.length:Int)-1))) ({ y148 with f_Hi:=(mx y146.f_Hi y139.f_Hi) }:Zb)),v136,kr,kr,zt,hF⟩ }
 {
 have hF:=Zj hF hb144
 obtain ⟨hc149,hF⟩:=Zo hF
 refine WA.rm (α:=(List (List PV))) (raw:=((v135.map Za) ++ (([y139]:List Zb).map Za))) (can:=((v135 ++ ([y139]:List Zb)).map Za)) (fun m_=>([(3,.val false [.arr 103 (v136+1)]),(11,one (.sl (y102.map Za))),(12,one (.int .i64 (y102.length:Int))),(13,one (.int .i64 v137))],[(103,.arr 2 m_)],[v136=(v135.map Za).length,(v135.map Za).length+(([y139]:List Zb).map Za).length≤1073741824,∀es,es∈(([y139]:List Zb).map Za)→es.length=2])) (zm) [3,11,12,13] [103] [] kr (sound _ _) ⟨zt,(by first | exact hc149 | (simp only [List.length_map,Zh];exact hc149)),(ZN ([y139]:List Zb)),trivial⟩ ?_
 exact ⟨(v135 ++ ([y139]:List Zb)),(v136+1),kr,kr,zt,hF⟩ } }
 {
 rcases Bool.eq_false_or_eq_true (decide ((v135.length:Int) > 0)) with hb140 | hb140
 {
 have hF:=Zk hF hb140
 obtain ⟨hc141,hF⟩:=Zo hF
 obtain ⟨y142,hy142,hF⟩:=bind_some hF
 refine WA.regD kr [3,5,6,11,12,13,32] [103,105] [(2,.bool true),(10,.cells (Za y142))] (env':=[(3,.val false [.arr 103 v136]),(5,.val false [.ptr 105 1 0 0]),(6,one (.int .i64 (v135.length:Int))),(11,one (.sl (y102.map Za))),(12,one (.int .i64 (y102.length:Int))),(13,one (.int .i64 v137)),(32,one (.bool (decide (y139.f_Lo≤(w64 (y142.f_Hi+1))))))]) (os':=[(103,.arr 2 (v135.map Za)),(105,.box (pvL (Za y139)))]) (O:=[(decide ((v135.length:Int) > 0))=true,v136=(v135.map Za).length,(0:Int)≤(w64 ((v135.length:Int)-1)),(w64 ((v135.length:Int)-1))<((v136:Nat):Int),v136=(v135.map Za).length,0<v136,v136=(v135.map Za).length,(v135.map Za)[Int.toNat (w64 ((v135.length:Int)-1))]?=some (Za y142)]) kr kr (sound _ _) ⟨hb140,zt,hc141.1,(by have h_:=hc141.2;(try simp only [zl,Zh] at h_ ⊢);omega),zt,(by omega),zt,(Zr (Zs _ hy142)),trivial⟩ ?_
 exact ⟨(decide (y139.f_Lo≤(w64 (y142.f_Hi+1)))),kr,kr,hF⟩ }
 {
 have hF:=Zj hF hb140
 refine WA.regD kr [3,5,6,11,12,13,32] [103,105] [(2,.bool false)] (env':=[(3,.val false [.arr 103 v136]),(5,.val false [.ptr 105 1 0 0]),(6,one (.int .i64 (v135.length:Int))),(11,one (.sl (y102.map Za))),(12,one (.int .i64 (y102.length:Int))),(13,one (.int .i64 v137)),(32,one (.bool false))]) (os':=[(103,.arr 2 (v135.map Za)),(105,.box (pvL (Za y139)))]) (O:=[(decide ((v135.length:Int) > 0))=false]) kr kr (sound _ _) ⟨hb140,trivial⟩ ?_
 exact ⟨false,kr,kr,hF⟩ } } } }
  {
 have hF:=Zj hF hb138
 refine WA.exit ?_
 refine WA.seq ?_
 refine WA.reg [2] [103] [] (env':=[(2,.val false [.arr 103 v136])]) (os':=[(103,.arr 2 (v135.map Za))]) (O:=[]) kr (sound _ _) trivial ?_
 refine WA.freeze 103 2 (s:=2) (n:=v136) (els:=(v135.map Za)) rfl rfl zt ?_
 refine WA.keep [2] [] (env':=[(2,one (.sl (v135.map Za)))]) (os':=[]) kr kr ?_
 refine WA.ret ?_
 obtain rfl:=Option.some.inj hF
 exact Zp (one (.sl (v135.map Za))) [] kr kr kr kr (by decide) rfl rfl }
def Zgy (self11:(List Zb)→Int→Option (List Zb)) (v178:Int) (v183:List Zb):Option (List Zb):=
  self11 v183 (w64 (v178+1))
def Zdn (self8:(List Zb)→Int→Option (List Zb)) (self11:(List Zb)→Int→Option (List Zb)) (v1:List Zb) (v158:Int) (y160:Zb) (v176:List Zb) (v178:Int):Option (List Zb):=
  (cond (decide (v178<(v1.length:Int))) ((idxL v1 v178).bind fun y180=>(((cond (decide ((mx y160.f_Lo y180.f_Lo)≤(mn y160.f_Hi y180.f_Hi))) (if v176.length+([(⟨(mx y160.f_Lo y180.f_Lo),(mn y160.f_Hi y180.f_Hi)⟩:Zb)]:List Zb).length≤1073741824 then (Zgy self11 v178 (v176 ++ ([(⟨(mx y160.f_Lo y180.f_Lo),(mn y160.f_Hi y180.f_Hi)⟩:Zb)]:List Zb))) else none) ((Zgy self11 v178 v176)))))) ((self8 v176 (w64 (v158+1)))))
def Zcv (self8:(List Zb)→Int→Option (List Zb)) (v1:List Zb) (v158:Int) (y160:Zb):Nat→(List Zb)→Int→Option (List Zb)
  | 0,_,_=>none
  | m_+1,v176,v178=>Zdn self8 (Zcv self8 v1 v158 y160 m_) v1 v158 y160 v176 v178
def ZeD (k:Nat) (self8:(List Zb)→Int→Option (List Zb)) (v0:List Zb) (v1:List Zb) (v156:List Zb) (v158:Int):Option (List Zb):=
  (cond (decide (v158<(v0.length:Int))) ((idxL v0 v158).bind fun y160=>((Zcv self8 v1 v158 y160 k v156 0))) ((F77 k v156).bind fun y185=>(some y185)))
def Zcc (k:Nat) (v0:List Zb) (v1:List Zb):Nat→(List Zb)→Int→Option (List Zb)
  | 0,_,_=>none
  | m_+1,v156,v158=>ZeD k (Zcc k v0 v1 m_) v0 v1 v156 v158
def F76 (k:Nat) (v0:List Zb) (v1:List Zb):Option (List Zb):=
  (((Zcc k v0 v1 k ([]:List Zb) 0)))
theorem ZjT (k:Nat) (v0:List Zb) (v1:List Zb) (r:List Zb) (hF:F76 k v0 v1=some r):Sim Tryz.prog GL0 76 [one (.sl (v0.map Za)),one (.sl (v1.map Za))] [] (one (.sl (r.map Za))) []:=by
 refine ZB [] Tryz.func76 rfl kr kr ?_
 show WA _ _ 47 _ _ _
 refine WA.seq ?_
 refine WA.reg [0,1] [] [] (env':=[(0,one (.sl (v0.map Za))),(1,one (.sl (v1.map Za)))]) (os':=[]) (O:=[]) kr (sound _ _) trivial ?_
 refine WA.seq ?_
 refine WA.reg [0,1,5] [105] [(0,.obj 105)] (env':=[(0,one (.sl (v0.map Za))),(1,one (.sl (v1.map Za))),(5,.val false [.arr 105 0])]) (os':=[(105,.arr 2 (([]:List Zb).map Za))]) (O:=[]) kr (sound _ _) trivial ?_
 refine WA.seq ?_
 refine WA.seq ?_
 refine WA.rm (α:=Int) (raw:=((v0.map Za).length:Int)) (can:=(v0.length:Int)) (fun m_=>([(1,one (.sl (v1.map Za))),(5,.val false [.arr 105 0]),(12,one (.sl (v0.map Za))),(13,one (.int .i64 m_)),(14,one (.int .i64 0))],[(105,.arr 2 (([]:List Zb).map Za))],[])) ((by first | (simp only [zl,Zh];done) | (simp only [zl,Zh];omega) | omega)) [1,5,12,13,14] [105] [] kr (sound _ _) trivial ?_
 refine WA.block ?_
 refine WA.loop (fun m s_=>∃(v156:List Zb) (v157:Nat) (v158:Int),Zl s_.env [1,5,12,13,14]=[(1,one (.sl (v1.map Za))),(5,.val false [.arr 105 v157]),(12,one (.sl (v0.map Za))),(13,one (.int .i64 (v0.length:Int))),(14,one (.int .i64 v158))]∧Zl s_.os [105]=[(105,.arr 2 (v156.map Za))]∧v157=(v156:List _).length∧Zcc k v0 v1 m v156 v158=some r) k ⟨([]:List Zb),0,0,kr,kr,zt,hF⟩ ?_
 clear hF
 rintro m8 s_ ⟨v156,v157,v158,he,ho,hn_v157,hF⟩
 refine WA.keep _ _ he ho ?_
 clear he ho
 cases m8 with
 | zero=>cases hF
 | succ m8=>
  obtain ⟨self8,hself8⟩:∃g,g=Zcc k v0 v1 m8:=⟨_,rfl⟩
  have hF:ZeD k self8 v0 v1 v156 v158=some r:=by first | (rw [hself8];exact hF) | exact hF
  refine WA.seq ?_
  refine WA.reg [1,5,12,13,14,15] [105] [] (env':=[(1,one (.sl (v1.map Za))),(5,.val false [.arr 105 v157]),(12,one (.sl (v0.map Za))),(13,one (.int .i64 (v0.length:Int))),(14,one (.int .i64 v158)),(15,one (.bool (decide (v158<(v0.length:Int)))))]) (os':=[(105,.arr 2 (v156.map Za))]) (O:=[]) kr (sound _ _) trivial ?_
  refine WA.seq ?_
  refine WA.cond (b:=(decide (v158<(v0.length:Int)))) rfl (fun hb159=>?_) (fun hb159=>?_)
  {
 have hF:=Zk hF hb159
 refine WA.skip ?_
 refine WA.seq ?_
 refine WA.block ?_
 refine WA.seq ?_
 obtain ⟨y160,hy160,hF⟩:=bind_some hF
 refine WA.reg [1,5,7,12,13,14] [105,107] [(0,.cells (Za y160)),(2,.obj 107)] (env':=[(1,one (.sl (v1.map Za))),(5,.val false [.arr 105 v157]),(7,.val false [.ptr 107 1 0 0]),(12,one (.sl (v0.map Za))),(13,one (.int .i64 (v0.length:Int))),(14,one (.int .i64 v158))]) (os':=[(105,.arr 2 (v156.map Za)),(107,.box (pvL (Za y160)))]) (O:=[idxL (v0.map Za) v158=some (Za y160)]) kr (sound _ _) ⟨(Zs _ hy160),trivial⟩ ?_
 refine WA.seq ?_
 refine WA.rm (α:=Int) (raw:=((v1.map Za).length:Int)) (can:=(v1.length:Int)) (fun m_=>([(1,one (.sl (v1.map Za))),(5,.val false [.arr 105 v157]),(7,.val false [.ptr 107 1 0 0]),(12,one (.sl (v0.map Za))),(13,one (.int .i64 (v0.length:Int))),(14,one (.int .i64 v158)),(18,one (.sl (v1.map Za))),(19,one (.int .i64 m_)),(20,one (.int .i64 0))],[(105,.arr 2 (v156.map Za)),(107,.box (pvL (Za y160)))],[])) ((by first | (simp only [zl,Zh];done) | (simp only [zl,Zh];omega) | omega)) [1,5,7,12,13,14,18,19,20] [105,107] [] kr (sound _ _) trivial ?_
 refine WA.block ?_
 refine WA.loop (fun m s_=>∃(v176:List Zb) (v177:Nat) (v178:Int),Zl s_.env [1,5,7,12,13,14,18,19,20]=[(1,one (.sl (v1.map Za))),(5,.val false [.arr 105 v177]),(7,.val false [.ptr 107 1 0 0]),(12,one (.sl (v0.map Za))),(13,one (.int .i64 (v0.length:Int))),(14,one (.int .i64 v158)),(18,one (.sl (v1.map Za))),(19,one (.int .i64 (v1.length:Int))),(20,one (.int .i64 v178))]∧Zl s_.os [105,107]=[(105,.arr 2 (v176.map Za)),(107,.box (pvL (Za y160)))]∧v177=(v176:List _).length∧Zcv self8 v1 v158 y160 m v176 v178=some r) k ⟨v156,v157,0,kr,kr,zt,hF⟩ ?_
 clear hF
 rintro m11 s_ ⟨v176,v177,v178,he,ho,hn_v177,hF⟩
 refine WA.keep _ _ he ho ?_
 clear he ho
 cases m11 with
 | zero=>cases hF
 | succ m11=>
  obtain ⟨self11,hself11⟩:∃g,g=Zcv self8 v1 v158 y160 m11:=⟨_,rfl⟩
  have hF:Zdn self8 self11 v1 v158 y160 v176 v178=some r:=by first | (rw [hself11];exact hF) | exact hF
  refine WA.seq ?_
  refine WA.reg [1,5,7,12,13,14,18,19,20,21] [105,107] [] (env':=[(1,one (.sl (v1.map Za))),(5,.val false [.arr 105 v177]),(7,.val false [.ptr 107 1 0 0]),(12,one (.sl (v0.map Za))),(13,one (.int .i64 (v0.length:Int))),(14,one (.int .i64 v158)),(18,one (.sl (v1.map Za))),(19,one (.int .i64 (v1.length:Int))),(20,one (.int .i64 v178)),(21,one (.bool (decide (v178<(v1.length:Int)))))]) (os':=[(105,.arr 2 (v176.map Za)),(107,.box (pvL (Za y160)))]) (O:=[]) kr (sound _ _) trivial ?_
  refine WA.seq ?_
  refine WA.cond (b:=(decide (v178<(v1.length:Int)))) rfl (fun hb179=>?_) (fun hb179=>?_)
  {
 have hF:=Zk hF hb179
 refine WA.skip ?_
 refine WA.join (fun s_=>∃(v183:List Zb) (v184:Nat),Zl s_.env [1,5,7,12,13,14,18,19,20]=[(1,one (.sl (v1.map Za))),(5,.val false [.arr 105 v184]),(7,.val false [.ptr 107 1 0 0]),(12,one (.sl (v0.map Za))),(13,one (.int .i64 (v0.length:Int))),(14,one (.int .i64 v158)),(18,one (.sl (v1.map Za))),(19,one (.int .i64 (v1.length:Int))),(20,one (.int .i64 v178))]∧Zl s_.os [105,107]=[(105,.arr 2 (v183.map Za)),(107,.box (pvL (Za y160)))]∧v184=(v183:List _).length∧Zgy self11 v178 v183=some r) ?_ ?_
 {
 rintro s_ ⟨v183,v184,he,ho,hn_v184,hF⟩
 refine WA.keep _ _ he ho ?_
 clear he ho
 refine WA.reg [1,5,7,12,13,14,18,19,20] [105,107] [] (env':=[(1,one (.sl (v1.map Za))),(5,.val false [.arr 105 v184]),(7,.val false [.ptr 107 1 0 0]),(12,one (.sl (v0.map Za))),(13,one (.int .i64 (v0.length:Int))),(14,one (.int .i64 v158)),(18,one (.sl (v1.map Za))),(19,one (.int .i64 (v1.length:Int))),(20,one (.int .i64 (w64 (v178+1))))]) (os':=[(105,.arr 2 (v183.map Za)),(107,.box (pvL (Za y160)))]) (O:=[]) kr (sound _ _) trivial ?_
 exact ⟨m11,Nat.lt_succ_self _,v183,v184,(w64 (v178+1)),kr,kr,zt,by rw [hself11] at hF;exact hF⟩ }
 {
 refine WA.block ?_
 refine WA.seq ?_
 obtain ⟨y180,hy180,hF⟩:=bind_some hF
 refine WA.reg [1,5,7,9,12,13,14,18,19,20] [105,107,109] [(0,.cells (Za y180)),(2,.obj 109)] (env':=[(1,one (.sl (v1.map Za))),(5,.val false [.arr 105 v177]),(7,.val false [.ptr 107 1 0 0]),(9,.val false [.ptr 109 1 0 0]),(12,one (.sl (v0.map Za))),(13,one (.int .i64 (v0.length:Int))),(14,one (.int .i64 v158)),(18,one (.sl (v1.map Za))),(19,one (.int .i64 (v1.length:Int))),(20,one (.int .i64 v178))]) (os':=[(105,.arr 2 (v176.map Za)),(107,.box (pvL (Za y160))),(109,.box (pvL (Za y180)))]) (O:=[idxL (v1.map Za) v178=some (Za y180)]) kr (sound _ _) ⟨(Zs _ hy180),trivial⟩ ?_
 refine WA.seq ?_
 refine WA.regD kr [1,5,7,10,11,12,13,14,18,19,20] [105,107] [] (env':=[(1,one (.sl (v1.map Za))),(5,.val false [.arr 105 v177]),(7,.val false [.ptr 107 1 0 0]),(10,one (.int .i64 (mx y160.f_Lo y180.f_Lo))),(11,one (.int .i64 (mn y160.f_Hi y180.f_Hi))),(12,one (.sl (v0.map Za))),(13,one (.int .i64 (v0.length:Int))),(14,one (.int .i64 v158)),(18,one (.sl (v1.map Za))),(19,one (.int .i64 (v1.length:Int))),(20,one (.int .i64 v178))]) (os':=[(105,.arr 2 (v176.map Za)),(107,.box (pvL (Za y160)))]) (O:=[]) kr kr (sound _ _) trivial ?_
 refine WA.seq ?_
 refine WA.reg [1,5,7,10,11,12,13,14,18,19,20,36] [105,107] [] (env':=[(1,one (.sl (v1.map Za))),(5,.val false [.arr 105 v177]),(7,.val false [.ptr 107 1 0 0]),(10,one (.int .i64 (mx y160.f_Lo y180.f_Lo))),(11,one (.int .i64 (mn y160.f_Hi y180.f_Hi))),(12,one (.sl (v0.map Za))),(13,one (.int .i64 (v0.length:Int))),(14,one (.int .i64 v158)),(18,one (.sl (v1.map Za))),(19,one (.int .i64 (v1.length:Int))),(20,one (.int .i64 v178)),(36,one (.bool (decide ((mx y160.f_Lo y180.f_Lo)≤(mn y160.f_Hi y180.f_Hi)))))]) (os':=[(105,.arr 2 (v176.map Za)),(107,.box (pvL (Za y160)))]) (O:=[]) kr (sound _ _) trivial ?_
 refine WA.cond (b:=(decide ((mx y160.f_Lo y180.f_Lo)≤(mn y160.f_Hi y180.f_Hi)))) rfl (fun hb181=>?_) (fun hb181=>?_)
 {
 have hF:=Zk hF hb181
 obtain ⟨hc182,hF⟩:=Zo hF
 refine WA.rm (α:=(List (List PV))) (raw:=((v176.map Za) ++ (([(⟨(mx y160.f_Lo y180.f_Lo),(mn y160.f_Hi y180.f_Hi)⟩:Zb)]:List Zb).map Za))) (can:=((v176 ++ ([(⟨(mx y160.f_Lo y180.f_Lo),(mn y160.f_Hi y180.f_Hi)⟩:Zb)]:List Zb)).map Za)) (fun m_=>([(1,one (.sl (v1.map Za))),(5,.val false [.arr 105 (v177+1)]),(7,.val false [.ptr 107 1 0 0]),(12,one (.sl (v0.map Za))),(13,one (.int .i64 (v0.length:Int))),(14,one (.int .i64 v158)),(18,one (.sl (v1.map Za))),(19,one (.int .i64 (v1.length:Int))),(20,one (.int .i64 v178))],[(105,.arr 2 m_),(107,.box (pvL (Za y160)))],[v177=(v176.map Za).length,(v176.map Za).length+(([(⟨(mx y160.f_Lo y180.f_Lo),(mn y160.f_Hi y180.f_Hi)⟩:Zb)]:List Zb).map Za).length≤1073741824,∀es,es∈(([(⟨(mx y160.f_Lo y180.f_Lo),(mn y160.f_Hi y180.f_Hi)⟩:Zb)]:List Zb).map Za)→es.length=2])) (zm) [1,5,7,12,13,14,18,19,20] [105,107] [] kr (sound _ _) ⟨zt,(by first | exact hc182 | (simp only [List.length_map,Zh];exact hc182)),(ZN ([(⟨(mx y160.f_Lo y180.f_Lo),(mn y160.f_Hi y180.f_Hi)⟩:Zb)]:List Zb)),trivial⟩ ?_
 exact ⟨(v176 ++ ([(⟨(mx y160.f_Lo y180.f_Lo),(mn y160.f_Hi y180.f_Hi)⟩:Zb)]:List Zb)),(v177+1),kr,kr,zt,hF⟩ }
 {
 have hF:=Zj hF hb181
 refine WA.skip ?_
 exact ⟨v176,v177,kr,kr,zt,hF⟩ } } }
  {
 have hF:=Zj hF hb179
 refine WA.exit ?_
 refine WA.reg [1,5,12,13,14] [105] [] (env':=[(1,one (.sl (v1.map Za))),(5,.val false [.arr 105 v177]),(12,one (.sl (v0.map Za))),(13,one (.int .i64 (v0.length:Int))),(14,one (.int .i64 (w64 (v158+1))))]) (os':=[(105,.arr 2 (v176.map Za))]) (O:=[]) kr (sound _ _) trivial ?_
 exact ⟨m8,Nat.lt_succ_self _,v176,v177,(w64 (v158+1)),kr,kr,zt,by rw [hself8] at hF;exact hF⟩ } }
  {
 have hF:=Zj hF hb159
 refine WA.exit ?_
 refine WA.seq ?_
 refine WA.freeze 105 5 (s:=2) (n:=v157) (els:=(v156.map Za)) rfl rfl zt ?_
 refine WA.keep [5] [] (env':=[(5,one (.sl (v156.map Za)))]) (os':=[]) kr kr ?_
 obtain ⟨y185,hy185,hF⟩:=bind_some hF
 refine WA.reg [4] [] [(1,.callR [] (one (.sl (y185.map Za))))] (env':=[(4,one (.sl (y185.map Za)))]) (os':=[]) (O:=[Sim Tryz.prog GL0 77 [one (.sl (v156.map Za))] [] (one (.sl (y185.map Za))) [],([]:List Nat).Nodup]) kr (sound _ _) ⟨(ZhI k _ _ hy185),(by decide),trivial⟩ ?_
 refine WA.ret ?_
 obtain rfl:=Option.some.inj hF
 exact Zp (one (.sl (y185.map Za))) [] kr kr kr kr (by decide) rfl rfl }
def Zf6 (self2:(List Zb)→Int→Int→Option (List Zb)) (v121:Int) (y123:Zb) (v126:List Zb):Option (List Zb):=
  (self2 v126 (w64 (y123.f_Hi+1)) (w64 (v121+1)))
def Zee (k:Nat) (v130:List Zb):Option (List Zb):=
  (F59 k).bind fun y133=>(F76 k v130 y133).bind fun y134=>(some y134)
def ZcZ (k:Nat) (self2:(List Zb)→Int→Int→Option (List Zb)) (y101:List Zb) (v118:List Zb) (v120:Int) (v121:Int):Option (List Zb):=
  (cond (decide (v121<(y101.length:Int))) ((idxL y101 v121).bind fun y123=>((cond (decide (y123.f_Lo > v120)) (if v118.length+([(⟨v120,(w64 (y123.f_Lo-1))⟩:Zb)]:List Zb).length≤1073741824 then (Zf6 self2 v121 y123 (v118 ++ ([(⟨v120,(w64 (y123.f_Lo-1))⟩:Zb)]:List Zb))) else none) ((Zf6 self2 v121 y123 v118))))) (((cond (decide (v120≤1114111)) (if v118.length+([(⟨v120,1114111⟩:Zb)]:List Zb).length≤1073741824 then (Zee k (v118 ++ ([(⟨v120,1114111⟩:Zb)]:List Zb))) else none) ((Zee k v118))))))
def Zc0 (k:Nat) (y101:List Zb):Nat→(List Zb)→Int→Int→Option (List Zb)
  | 0,_,_,_=>none
  | m_+1,v118,v120,v121=>ZcZ k (Zc0 k y101 m_) y101 v118 v120 v121
def F109 (k:Nat) (v0:List Zb):Option (List Zb):=
  (((F77 k v0).bind fun y101=>(Zc0 k y101 k ([]:List Zb) 0 0)))
theorem ZnQ (k:Nat) (v0:List Zb) (r:List Zb) (hF:F109 k v0=some r):Sim Tryz.prog GL0 109 [one (.sl (v0.map Za))] [] (one (.sl (r.map Za))) []:=by
 refine ZB [] Tryz.func109 rfl kr kr ?_
 show WA _ _ 40 _ _ _
 refine WA.seq ?_
 refine WA.reg [0] [] [] (env':=[(0,one (.sl (v0.map Za)))]) (os':=[]) (O:=[]) kr (sound _ _) trivial ?_
 refine WA.seq ?_
 refine WA.reg [0,3] [103] [(0,.obj 103)] (env':=[(0,one (.sl (v0.map Za))),(3,.val false [.arr 103 0])]) (os':=[(103,.arr 2 (([]:List Zb).map Za))]) (O:=[]) kr (sound _ _) trivial ?_
 refine WA.seq ?_
 refine WA.reg [0,3,4] [103] [] (env':=[(0,one (.sl (v0.map Za))),(3,.val false [.arr 103 0]),(4,one (.int .i64 0))]) (os':=[(103,.arr 2 (([]:List Zb).map Za))]) (O:=[]) kr (sound _ _) trivial ?_
 refine WA.seq ?_
 refine WA.seq ?_
 obtain ⟨y101,hy101,hF⟩:=bind_some hF
 refine WA.rm (α:=Int) (raw:=((y101.map Za).length:Int)) (can:=(y101.length:Int)) (fun m_=>([(3,.val false [.arr 103 0]),(4,one (.int .i64 0)),(8,one (.sl (y101.map Za))),(9,one (.int .i64 m_)),(10,one (.int .i64 0))],[(103,.arr 2 (([]:List Zb).map Za))],[Sim Tryz.prog GL0 77 [one (.sl (v0.map Za))] [] (one (.sl (y101.map Za))) [],([]:List Nat).Nodup])) ((by first | (simp only [zl,Zh];done) | (simp only [zl,Zh];omega) | omega)) [3,4,8,9,10] [103] [(1,.callR [] (one (.sl (y101.map Za))))] kr (sound _ _) ⟨(ZhI k _ _ hy101),(by decide),trivial⟩ ?_
 refine WA.block ?_
 refine WA.loop (fun m s_=>∃(v118:List Zb) (v119:Nat) (v120:Int) (v121:Int),Zl s_.env [3,4,8,9,10]=[(3,.val false [.arr 103 v119]),(4,one (.int .i64 v120)),(8,one (.sl (y101.map Za))),(9,one (.int .i64 (y101.length:Int))),(10,one (.int .i64 v121))]∧Zl s_.os [103]=[(103,.arr 2 (v118.map Za))]∧v119=(v118:List _).length∧Zc0 k y101 m v118 v120 v121=some r) k ⟨([]:List Zb),0,0,0,kr,kr,zt,hF⟩ ?_
 clear hF
 rintro m2 s_ ⟨v118,v119,v120,v121,he,ho,hn_v119,hF⟩
 refine WA.keep _ _ he ho ?_
 clear he ho
 cases m2 with
 | zero=>cases hF
 | succ m2=>
  obtain ⟨self2,hself2⟩:∃g,g=Zc0 k y101 m2:=⟨_,rfl⟩
  have hF:ZcZ k self2 y101 v118 v120 v121=some r:=by first | (rw [hself2];exact hF) | exact hF
  refine WA.seq ?_
  refine WA.reg [3,4,8,9,10,11] [103] [] (env':=[(3,.val false [.arr 103 v119]),(4,one (.int .i64 v120)),(8,one (.sl (y101.map Za))),(9,one (.int .i64 (y101.length:Int))),(10,one (.int .i64 v121)),(11,one (.bool (decide (v121<(y101.length:Int)))))]) (os':=[(103,.arr 2 (v118.map Za))]) (O:=[]) kr (sound _ _) trivial ?_
  refine WA.seq ?_
  refine WA.cond (b:=(decide (v121<(y101.length:Int)))) rfl (fun hb122=>?_) (fun hb122=>?_)
  {
 have hF:=Zk hF hb122
 refine WA.skip ?_
 refine WA.seq ?_
 refine WA.block ?_
 refine WA.seq ?_
 obtain ⟨y123,hy123,hF⟩:=bind_some hF
 refine WA.reg [3,4,6,8,9,10] [103,106] [(0,.cells (Za y123)),(2,.obj 106)] (env':=[(3,.val false [.arr 103 v119]),(4,one (.int .i64 v120)),(6,.val false [.ptr 106 1 0 0]),(8,one (.sl (y101.map Za))),(9,one (.int .i64 (y101.length:Int))),(10,one (.int .i64 v121))]) (os':=[(103,.arr 2 (v118.map Za)),(106,.box (pvL (Za y123)))]) (O:=[idxL (y101.map Za) v121=some (Za y123)]) kr (sound _ _) ⟨(Zs _ hy123),trivial⟩ ?_
 refine WA.join (fun s_=>∃(v126:List Zb) (v127:Nat),Zl s_.env [3,6,8,9,10]=[(3,.val false [.arr 103 v127]),(6,.val false [.ptr 106 1 0 0]),(8,one (.sl (y101.map Za))),(9,one (.int .i64 (y101.length:Int))),(10,one (.int .i64 v121))]∧Zl s_.os [103,106]=[(103,.arr 2 (v126.map Za)),(106,.box (pvL (Za y123)))]∧v127=(v126:List _).length∧Zf6 self2 v121 y123 v126=some r) ?_ ?_
 {
 rintro s_ ⟨v126,v127,he,ho,hn_v127,hF⟩
 refine WA.keep _ _ he ho ?_
 clear he ho
 refine WA.reg [3,4,8,9,10] [103] [] (env':=[(3,.val false [.arr 103 v127]),(4,one (.int .i64 (w64 (y123.f_Hi+1)))),(8,one (.sl (y101.map Za))),(9,one (.int .i64 (y101.length:Int))),(10,one (.int .i64 v121))]) (os':=[(103,.arr 2 (v126.map Za))]) (O:=[]) kr (sound _ _) trivial ?_
 refine WA.reg [3,4,8,9,10] [103] [] (env':=[(3,.val false [.arr 103 v127]),(4,one (.int .i64 (w64 (y123.f_Hi+1)))),(8,one (.sl (y101.map Za))),(9,one (.int .i64 (y101.length:Int))),(10,one (.int .i64 (w64 (v121+1))))]) (os':=[(103,.arr 2 (v126.map Za))]) (O:=[]) kr (sound _ _) trivial ?_
 exact ⟨m2,Nat.lt_succ_self _,v126,v127,(w64 (y123.f_Hi+1)),(w64 (v121+1)),kr,kr,zt,by rw [hself2] at hF;exact hF⟩ }
 {
 refine WA.seq ?_
 refine WA.reg [3,4,6,8,9,10,17] [103,106] [] (env':=[(3,.val false [.arr 103 v119]),(4,one (.int .i64 v120)),(6,.val false [.ptr 106 1 0 0]),(8,one (.sl (y101.map Za))),(9,one (.int .i64 (y101.length:Int))),(10,one (.int .i64 v121)),(17,one (.bool (decide (y123.f_Lo > v120))))]) (os':=[(103,.arr 2 (v118.map Za)),(106,.box (pvL (Za y123)))]) (O:=[]) kr (sound _ _) trivial ?_
 refine WA.cond (b:=(decide (y123.f_Lo > v120))) rfl (fun hb124=>?_) (fun hb124=>?_)
 {
 have hF:=Zk hF hb124
 obtain ⟨hc125,hF⟩:=Zo hF
 refine WA.rm (α:=(List (List PV))) (raw:=((v118.map Za) ++ (([(⟨v120,(w64 (y123.f_Lo-1))⟩:Zb)]:List Zb).map Za))) (can:=((v118 ++ ([(⟨v120,(w64 (y123.f_Lo-1))⟩:Zb)]:List Zb)).map Za)) (fun m_=>([(3,.val false [.arr 103 (v119+1)]),(6,.val false [.ptr 106 1 0 0]),(8,one (.sl (y101.map Za))),(9,one (.int .i64 (y101.length:Int))),(10,one (.int .i64 v121))],[(103,.arr 2 m_),(106,.box (pvL (Za y123)))],[v119=(v118.map Za).length,(v118.map Za).length+(([(⟨v120,(w64 (y123.f_Lo-1))⟩:Zb)]:List Zb).map Za).length≤1073741824,∀es,es∈(([(⟨v120,(w64 (y123.f_Lo-1))⟩:Zb)]:List Zb).map Za)→es.length=2])) (zm) [3,6,8,9,10] [103,106] [] kr (sound _ _) ⟨zt,(by first | exact hc125 | (simp only [List.length_map,Zh];exact hc125)),(ZN ([(⟨v120,(w64 (y123.f_Lo-1))⟩:Zb)]:List Zb)),trivial⟩ ?_
 exact ⟨(v118 ++ ([(⟨v120,(w64 (y123.f_Lo-1))⟩:Zb)]:List Zb)),(v119+1),kr,kr,zt,hF⟩ }
 {
 have hF:=Zj hF hb124
 refine WA.skip ?_
 exact ⟨v118,v119,kr,kr,zt,hF⟩ } } }
  {
 have hF:=Zj hF hb122
 refine WA.exit ?_
 refine WA.join (fun s_=>∃(v130:List Zb) (v131:Nat),Zl s_.env [3]=[(3,.val false [.arr 103 v131])]∧Zl s_.os [103]=[(103,.arr 2 (v130.map Za))]∧v131=(v130:List _).length∧Zee k v130=some r) ?_ ?_
 {
 rintro s_ ⟨v130,v131,he,ho,hn_v131,hF⟩
 refine WA.keep _ _ he ho ?_
 clear he ho
 refine WA.seq ?_
 refine WA.freeze 103 3 (s:=2) (n:=v131) (els:=(v130.map Za)) rfl rfl zt ?_
 refine WA.keep [3] [] (env':=[(3,one (.sl (v130.map Za)))]) (os':=[]) kr kr ?_
 obtain ⟨y133,hy133,hF⟩:=bind_some hF
 obtain ⟨y134,hy134,hF⟩:=bind_some hF
 refine WA.reg [2] [] [(1,.callR [] (one (.sl (y133.map Za)))),(2,.callR [] (one (.sl (y134.map Za))))] (env':=[(2,one (.sl (y134.map Za)))]) (os':=[]) (O:=[Sim Tryz.prog GL0 59 [] [] (one (.sl (y133.map Za))) [],([]:List Nat).Nodup,Sim Tryz.prog GL0 76 [one (.sl (v130.map Za)),one (.sl (y133.map Za))] [] (one (.sl (y134.map Za))) [],([]:List Nat).Nodup]) kr (sound _ _) ⟨(Zfy k _ hy133),(by decide),(ZjT k _ _ _ hy134),(by decide),trivial⟩ ?_
 refine WA.ret ?_
 obtain rfl:=Option.some.inj hF
 exact Zp (one (.sl (y134.map Za))) [] kr kr kr kr (by decide) rfl rfl }
 {
 refine WA.seq ?_
 refine WA.reg [3,4,31] [103] [] (env':=[(3,.val false [.arr 103 v119]),(4,one (.int .i64 v120)),(31,one (.bool (decide (v120≤1114111))))]) (os':=[(103,.arr 2 (v118.map Za))]) (O:=[]) kr (sound _ _) trivial ?_
 refine WA.cond (b:=(decide (v120≤1114111))) rfl (fun hb128=>?_) (fun hb128=>?_)
 {
 have hF:=Zk hF hb128
 obtain ⟨hc129,hF⟩:=Zo hF
 refine WA.rm (α:=(List (List PV))) (raw:=((v118.map Za) ++ (([(⟨v120,1114111⟩:Zb)]:List Zb).map Za))) (can:=((v118 ++ ([(⟨v120,1114111⟩:Zb)]:List Zb)).map Za)) (fun m_=>([(3,.val false [.arr 103 (v119+1)])],[(103,.arr 2 m_)],[v119=(v118.map Za).length,(v118.map Za).length+(([(⟨v120,1114111⟩:Zb)]:List Zb).map Za).length≤1073741824,∀es,es∈(([(⟨v120,1114111⟩:Zb)]:List Zb).map Za)→es.length=2])) (zm) [3] [103] [] kr (sound _ _) ⟨zt,(by first | exact hc129 | (simp only [List.length_map,Zh];exact hc129)),(ZN ([(⟨v120,1114111⟩:Zb)]:List Zb)),trivial⟩ ?_
 exact ⟨(v118 ++ ([(⟨v120,1114111⟩:Zb)]:List Zb)),(v119+1),kr,kr,zt,hF⟩ }
 {
 have hF:=Zj hF hb128
 refine WA.skip ?_
 exact ⟨v118,v119,kr,kr,zt,hF⟩ } } }
def Zhz (v125:Bool):Option Bool:=
  some v125
def ZhA (v129:Bool):Option Bool:=
  some v129
def ZhB (v133:Bool):Option Bool:=
  some v133
def ZcK (v141:Bool):Option Bool:=
  some v141
def ZjP (k:Nat) (v0:Ze) (v117:Bool):Option Bool:=
  ((cond (v0.f_Kind == 1) (cond v117 (cond ((v0.f_L.length:Int) == 0) ((F77 k v0.f_Set).bind fun y121=>(F59 k).bind fun y122=>(F76 k y121 y122).bind fun y123=>(F75 k y123 v0.f_Set).bind fun y124=>(Zhz y124)) ((Zhz false))) ((Zhz false))) ((cond (v0.f_Kind == 2) (cond v117 (cond ((v0.f_L.length:Int) != 1) ((ZhA ((v0.f_Set.length:Int) == 0))) ((ZhA false))) ((ZhA false))) ((cond (v0.f_Kind == 3) (cond v117 (cond (decide ((v0.f_L.length:Int) > 1)) ((ZhB ((v0.f_Set.length:Int) == 0))) ((ZhB false))) ((ZhB false))) ((cond (v0.f_Kind == 4) (cond ((v0.f_L.length:Int) == 1) (cond ((v0.f_Set.length:Int) == 0) (cond (decide (v0.f_Min≥0)) (cond (decide (v0.f_Min≤20)) (cond (decide (v0.f_Max≤20)) (cond (v0.f_Max == (-1)) ((ZcK true)) ((ZcK (decide (v0.f_Max≥v0.f_Min))))) ((ZcK false))) ((ZcK false))) ((ZcK false))) ((ZcK false))) ((ZcK false))) (((some false)))))))))))
def Zl5 (R52:Ze→Int→Option Bool) (k:Nat) (self0:Int→Option Bool) (v0:Ze) (v1:Int) (v111:Int):Option Bool:=
  (cond (decide (v111<(v0.f_L.length:Int))) ((idxL v0.f_L v111).bind fun y113=>(R52 y113 (w64 (v1-1))).bind fun y114=>(cond (!y114) ((some false)) ((self0 (w64 (v111+1)))))) ((cond (v0.f_Min == 0) ((ZjP k v0 (v0.f_Max == 0))) ((ZjP k v0 false)))))
def ZhC (R52:Ze→Int→Option Bool) (k:Nat) (v0:Ze) (v1:Int):Nat→Int→Option Bool
  | 0,_=>none
  | m_+1,v111=>Zl5 R52 k (ZhC R52 k v0 v1 m_) v0 v1 v111
def ZnB (R52:Ze→Int→Option Bool) (k:Nat) (v0:Ze) (v1:Int):Option Bool:=
  ((cond (v1 == 0) ((some false)) (((ZhC R52 k v0 v1 k 0)))))
theorem Zm2 (R52:Ze→Int→Option Bool) (IH52:∀(v0:Ze) (v1:Int) (r:Bool),R52 v0 v1=some r→Sim Tryz.prog GL0 52 [.val true (pvL (Zd v0)),one (.int .i64 v1)] [] (one (.bool r)) []) (k:Nat) (v0:Ze) (v1:Int) (r:Bool) (hF:ZnB R52 k v0 v1=some r):Sim Tryz.prog GL0 52 [.val true (pvL (Zd v0)),one (.int .i64 v1)] [] (one (.bool r)) []:=by
 refine ZB [] Tryz.func52 rfl kr kr ?_
 show WA _ _ 121 _ _ _
 refine WA.seq ?_
 refine WA.reg [1,2] [102] [(0,.obj 102)] (env':=[(1,one (.int .i64 v1)),(2,.val false [.ptr 102 1 0 0])]) (os':=[(102,.box (pvL (Zd v0)))]) (O:=[]) kr (sound _ _) trivial ?_
 refine WA.seq ?_
 refine WA.seq ?_
 refine WA.reg [1,2,9] [102] [] (env':=[(1,one (.int .i64 v1)),(2,.val false [.ptr 102 1 0 0]),(9,one (.bool (v1 == 0)))]) (os':=[(102,.box (pvL (Zd v0)))]) (O:=[]) kr (sound _ _) trivial ?_
 refine WA.cond (b:=(v1 == 0)) rfl (fun hb101=>?_) (fun hb101=>?_)
 {
 have hF:=Zk hF hb101
 refine WA.seq ?_
 refine WA.reg [4] [] [] (env':=[(4,one (.bool false))]) (os':=[]) (O:=[]) kr (sound _ _) trivial ?_
 refine WA.ret ?_
 obtain rfl:=Option.some.inj hF
 exact Zp (one (.bool false)) [] kr kr kr kr (by decide) rfl rfl }
 {
 have hF:=Zj hF hb101
 refine WA.skip ?_
 refine WA.seq ?_
 refine WA.seq ?_
 refine WA.rm (α:=Int) (raw:=((Zm v0.f_L).length:Int)) (can:=(v0.f_L.length:Int)) (fun m_=>([(1,one (.int .i64 v1)),(2,.val false [.ptr 102 1 0 0]),(11,one (.sl (Zm v0.f_L))),(12,one (.int .i64 m_)),(13,one (.int .i64 0))],[(102,.box (pvL (Zd v0)))],[])) ((by first | (simp only [zl,Zh];done) | (simp only [zl,Zh];omega) | omega)) [1,2,11,12,13] [102] [] kr (sound _ _) trivial ?_
 refine WA.block ?_
 refine WA.loop (fun m s_=>∃(v111:Int),Zl s_.env [1,2,11,12,13]=[(1,one (.int .i64 v1)),(2,.val false [.ptr 102 1 0 0]),(11,one (.sl (Zm v0.f_L))),(12,one (.int .i64 (v0.f_L.length:Int))),(13,one (.int .i64 v111))]∧Zl s_.os [102]=[(102,.box (pvL (Zd v0)))]∧ZhC R52 k v0 v1 m v111=some r) k ⟨0,kr,kr,hF⟩ ?_
 clear hF
 rintro m0 s_ ⟨v111,he,ho,hF⟩
 refine WA.keep _ _ he ho ?_
 clear he ho
 cases m0 with
 | zero=>cases hF
 | succ m0=>
  obtain ⟨self0,hself0⟩:∃g,g=ZhC R52 k v0 v1 m0:=⟨_,rfl⟩
  have hF:Zl5 R52 k self0 v0 v1 v111=some r:=by first | (rw [hself0];exact hF) | exact hF
  refine WA.seq ?_
  refine WA.reg [1,2,11,12,13,14] [102] [] (env':=[(1,one (.int .i64 v1)),(2,.val false [.ptr 102 1 0 0]),(11,one (.sl (Zm v0.f_L))),(12,one (.int .i64 (v0.f_L.length:Int))),(13,one (.int .i64 v111)),(14,one (.bool (decide (v111<(v0.f_L.length:Int)))))]) (os':=[(102,.box (pvL (Zd v0)))]) (O:=[]) kr (sound _ _) trivial ?_
  refine WA.seq ?_
  refine WA.cond (b:=(decide (v111<(v0.f_L.length:Int)))) rfl (fun hb112=>?_) (fun hb112=>?_)
  {
 have hF:=Zk hF hb112
 refine WA.skip ?_
 refine WA.seq ?_
 refine WA.block ?_
 refine WA.seq ?_
 obtain ⟨y113,hy113,hF⟩:=bind_some hF
 refine WA.reg [1,2,6,11,12,13] [102,106] [(0,.cells (Zd y113)),(2,.obj 106)] (env':=[(1,one (.int .i64 v1)),(2,.val false [.ptr 102 1 0 0]),(6,.val false [.ptr 106 1 0 0]),(11,one (.sl (Zm v0.f_L))),(12,one (.int .i64 (v0.f_L.length:Int))),(13,one (.int .i64 v111))]) (os':=[(102,.box (pvL (Zd v0))),(106,.box (pvL (Zd y113)))]) (O:=[idxL (Zm v0.f_L) v111=some (Zd y113)]) kr (sound _ _) ⟨(ZR hy113),trivial⟩ ?_
 refine WA.seq ?_
 obtain ⟨y114,hy114,hF⟩:=bind_some hF
 refine WA.reg [1,2,11,12,13,21] [102] [(3,.callR [] (one (.bool y114)))] (env':=[(1,one (.int .i64 v1)),(2,.val false [.ptr 102 1 0 0]),(11,one (.sl (Zm v0.f_L))),(12,one (.int .i64 (v0.f_L.length:Int))),(13,one (.int .i64 v111)),(21,one (.bool (!y114)))]) (os':=[(102,.box (pvL (Zd v0)))]) (O:=[Sim Tryz.prog GL0 52 [.val true (pvL (Zd y113)),one (.int .i64 (w64 (v1-1)))] [] (one (.bool y114)) [],([]:List Nat).Nodup]) kr (sound _ _) ⟨(IH52 _ _ _ hy114),(by decide),trivial⟩ ?_
 refine WA.cond (b:=(!y114)) rfl (fun hb115=>?_) (fun hb115=>?_)
 {
 have hF:=Zk hF hb115
 refine WA.seq ?_
 refine WA.reg [4] [] [] (env':=[(4,one (.bool false))]) (os':=[]) (O:=[]) kr (sound _ _) trivial ?_
 refine WA.ret ?_
 obtain rfl:=Option.some.inj hF
 exact Zp (one (.bool false)) [] kr kr kr kr (by decide) rfl rfl }
 {
 have hF:=Zj hF hb115
 refine WA.skip ?_
 refine WA.reg [1,2,11,12,13] [102] [] (env':=[(1,one (.int .i64 v1)),(2,.val false [.ptr 102 1 0 0]),(11,one (.sl (Zm v0.f_L))),(12,one (.int .i64 (v0.f_L.length:Int))),(13,one (.int .i64 (w64 (v111+1))))]) (os':=[(102,.box (pvL (Zd v0)))]) (O:=[]) kr (sound _ _) trivial ?_
 exact ⟨m0,Nat.lt_succ_self _,(w64 (v111+1)),kr,kr,by rw [hself0] at hF;exact hF⟩ } }
  {
 have hF:=Zj hF hb112
 refine WA.exit ?_
 refine WA.join (fun s_=>∃(v117:Bool),Zl s_.env [2,7]=[(2,.val false [.ptr 102 1 0 0]),(7,one (.bool v117))]∧Zl s_.os [102]=[(102,.box (pvL (Zd v0)))]∧ZjP k v0 v117=some r) ?_ ?_
 {
 rintro s_ ⟨v117,he,ho,hF⟩
 refine WA.keep _ _ he ho ?_
 clear he ho
 refine WA.seq ?_
 refine WA.seq ?_
 refine WA.reg [2,7,32] [102] [] (env':=[(2,.val false [.ptr 102 1 0 0]),(7,one (.bool v117)),(32,one (.int .i64 v0.f_Kind))]) (os':=[(102,.box (pvL (Zd v0)))]) (O:=[]) kr (sound _ _) trivial ?_
 refine WA.block ?_
 refine WA.seq ?_
 refine WA.reg [2,7,32,33] [102] [] (env':=[(2,.val false [.ptr 102 1 0 0]),(7,one (.bool v117)),(32,one (.int .i64 v0.f_Kind)),(33,one (.bool (v0.f_Kind == 1)))]) (os':=[(102,.box (pvL (Zd v0)))]) (O:=[]) kr (sound _ _) trivial ?_
 refine WA.cond (b:=(v0.f_Kind == 1)) rfl (fun hb118=>?_) (fun hb118=>?_)
 {
 have hF:=Zk hF hb118
 refine WA.join (fun s_=>∃(v125:Bool),Zl s_.env [4]=[(4,one (.bool v125))]∧Zl s_.os []=[]∧Zhz v125=some r) ?_ ?_
 {
 rintro s_ ⟨v125,he,ho,hF⟩
 refine WA.keep _ _ he ho ?_
 clear he ho
 refine WA.ret ?_
 obtain rfl:=Option.some.inj hF
 exact Zp (one (.bool v125)) [] kr kr kr kr (by decide) rfl rfl }
 {
 rcases Bool.eq_false_or_eq_true v117 with hb119 | hb119
 {
 have hF:=Zk hF hb119
 rcases Bool.eq_false_or_eq_true ((v0.f_L.length:Int) == 0) with hb120 | hb120
 {
 have hF:=Zk hF hb120
 obtain ⟨y121,hy121,hF⟩:=bind_some hF
 obtain ⟨y122,hy122,hF⟩:=bind_some hF
 obtain ⟨y123,hy123,hF⟩:=bind_some hF
 obtain ⟨y124,hy124,hF⟩:=bind_some hF
 refine WA.rdm (α:=Int) (raw:=((Zm v0.f_L).length:Int)) (can:=(v0.f_L.length:Int)) (fun m_=>([(4,one (.bool y124))],[],[v117=true,(m_ == 0)=true,Sim Tryz.prog GL0 77 [one (.sl (v0.f_Set.map Za))] [] (one (.sl (y121.map Za))) [],([]:List Nat).Nodup,Sim Tryz.prog GL0 59 [] [] (one (.sl (y122.map Za))) [],([]:List Nat).Nodup,Sim Tryz.prog GL0 76 [one (.sl (y121.map Za)),one (.sl (y122.map Za))] [] (one (.sl (y123.map Za))) [],([]:List Nat).Nodup,Sim Tryz.prog GL0 75 [one (.sl (y123.map Za)),one (.sl (v0.f_Set.map Za))] [] (one (.bool y124)) [],([]:List Nat).Nodup])) ((by first | (simp only [zl,Zh];done) | (simp only [zl,Zh];omega) | omega)) [4] [] [(1,.bool true),(7,.bool true),(10,.callR [] (one (.sl (y121.map Za)))),(11,.callR [] (one (.sl (y122.map Za)))),(12,.callR [] (one (.sl (y123.map Za)))),(15,.callR [] (one (.bool y124)))] kr kr kr (sound _ _) ⟨hb119,hb120,(ZhI k _ _ hy121),(by decide),(Zfy k _ hy122),(by decide),(ZjT k _ _ _ hy123),(by decide),(ZoN k _ _ _ hy124),(by decide),trivial⟩ ?_
 exact ⟨y124,kr,kr,hF⟩ }
 {
 have hF:=Zj hF hb120
 refine WA.rdm (α:=Int) (raw:=((Zm v0.f_L).length:Int)) (can:=(v0.f_L.length:Int)) (fun m_=>([(4,one (.bool false))],[],[v117=true,(m_ == 0)=false])) ((by first | (simp only [zl,Zh];done) | (simp only [zl,Zh];omega) | omega)) [4] [] [(1,.bool true),(7,.bool false),(10,.callR [] (.tup [])),(11,.callR [] (.tup [])),(12,.callR [] (.tup [])),(15,.callR [] (.tup []))] kr kr kr (sound _ _) ⟨hb119,hb120,trivial⟩ ?_
 exact ⟨false,kr,kr,hF⟩ } }
 {
 have hF:=Zj hF hb119
 refine WA.regD kr [4] [] [(1,.bool false),(10,.callR [] (.tup [])),(11,.callR [] (.tup [])),(12,.callR [] (.tup [])),(15,.callR [] (.tup []))] (env':=[(4,one (.bool false))]) (os':=[]) (O:=[v117=false]) kr kr (sound _ _) ⟨hb119,trivial⟩ ?_
 exact ⟨false,kr,kr,hF⟩ } } }
 {
 have hF:=Zj hF hb118
 refine WA.seq ?_
 refine WA.reg [2,7,32,52] [102] [] (env':=[(2,.val false [.ptr 102 1 0 0]),(7,one (.bool v117)),(32,one (.int .i64 v0.f_Kind)),(52,one (.bool (v0.f_Kind == 2)))]) (os':=[(102,.box (pvL (Zd v0)))]) (O:=[]) kr (sound _ _) trivial ?_
 refine WA.cond (b:=(v0.f_Kind == 2)) rfl (fun hb126=>?_) (fun hb126=>?_)
 {
 have hF:=Zk hF hb126
 refine WA.join (fun s_=>∃(v129:Bool),Zl s_.env [4]=[(4,one (.bool v129))]∧Zl s_.os []=[]∧ZhA v129=some r) ?_ ?_
 {
 rintro s_ ⟨v129,he,ho,hF⟩
 refine WA.keep _ _ he ho ?_
 clear he ho
 refine WA.ret ?_
 obtain rfl:=Option.some.inj hF
 exact Zp (one (.bool v129)) [] kr kr kr kr (by decide) rfl rfl }
 {
 rcases Bool.eq_false_or_eq_true v117 with hb127 | hb127
 {
 have hF:=Zk hF hb127
 rcases Bool.eq_false_or_eq_true ((v0.f_L.length:Int) != 1) with hb128 | hb128
 {
 have hF:=Zk hF hb128
 refine WA.rm (α:=Int×Int) (raw:=(((v0.f_Set.map Za).length:Int),((Zm v0.f_L).length:Int))) (can:=((v0.f_Set.length:Int),(v0.f_L.length:Int))) (fun m_=>([(4,one (.bool (m_.1 == 0)))],[],[v117=true,(m_.2 != 1)=true])) (ZE (by first | (simp only [zl,Zh];done) | (simp only [zl,Zh];omega) | omega) (by first | (simp only [zl,Zh];done) | (simp only [zl,Zh];omega) | omega)) [4] [] [(1,.bool true),(7,.bool true)] kr (sound _ _) ⟨hb127,hb128,trivial⟩ ?_
 exact ⟨((v0.f_Set.length:Int) == 0),kr,kr,hF⟩ }
 {
 have hF:=Zj hF hb128
 refine WA.rm (α:=Int) (raw:=((Zm v0.f_L).length:Int)) (can:=(v0.f_L.length:Int)) (fun m_=>([(4,one (.bool false))],[],[v117=true,(m_ != 1)=false])) ((by first | (simp only [zl,Zh];done) | (simp only [zl,Zh];omega) | omega)) [4] [] [(1,.bool true),(7,.bool false)] kr (sound _ _) ⟨hb127,hb128,trivial⟩ ?_
 exact ⟨false,kr,kr,hF⟩ } }
 {
 have hF:=Zj hF hb127
 refine WA.reg [4] [] [(1,.bool false)] (env':=[(4,one (.bool false))]) (os':=[]) (O:=[v117=false]) kr (sound _ _) ⟨hb127,trivial⟩ ?_
 exact ⟨false,kr,kr,hF⟩ } } }
 {
 have hF:=Zj hF hb126
 refine WA.seq ?_
 refine WA.reg [2,7,32,67] [102] [] (env':=[(2,.val false [.ptr 102 1 0 0]),(7,one (.bool v117)),(32,one (.int .i64 v0.f_Kind)),(67,one (.bool (v0.f_Kind == 3)))]) (os':=[(102,.box (pvL (Zd v0)))]) (O:=[]) kr (sound _ _) trivial ?_
 refine WA.cond (b:=(v0.f_Kind == 3)) rfl (fun hb130=>?_) (fun hb130=>?_)
 {
 have hF:=Zk hF hb130
 refine WA.join (fun s_=>∃(v133:Bool),Zl s_.env [4]=[(4,one (.bool v133))]∧Zl s_.os []=[]∧ZhB v133=some r) ?_ ?_
 {
 rintro s_ ⟨v133,he,ho,hF⟩
 refine WA.keep _ _ he ho ?_
 clear he ho
 refine WA.ret ?_
 obtain rfl:=Option.some.inj hF
 exact Zp (one (.bool v133)) [] kr kr kr kr (by decide) rfl rfl }
 {
 rcases Bool.eq_false_or_eq_true v117 with hb131 | hb131
 {
 have hF:=Zk hF hb131
 rcases Bool.eq_false_or_eq_true (decide ((v0.f_L.length:Int) > 1)) with hb132 | hb132
 {
 have hF:=Zk hF hb132
 refine WA.rm (α:=Int×Int) (raw:=(((v0.f_Set.map Za).length:Int),((Zm v0.f_L).length:Int))) (can:=((v0.f_Set.length:Int),(v0.f_L.length:Int))) (fun m_=>([(4,one (.bool (m_.1 == 0)))],[],[v117=true,(decide (m_.2 > 1))=true])) (ZE (by first | (simp only [zl,Zh];done) | (simp only [zl,Zh];omega) | omega) (by first | (simp only [zl,Zh];done) | (simp only [zl,Zh];omega) | omega)) [4] [] [(1,.bool true),(7,.bool true)] kr (sound _ _) ⟨hb131,hb132,trivial⟩ ?_
 exact ⟨((v0.f_Set.length:Int) == 0),kr,kr,hF⟩ }
 {
 have hF:=Zj hF hb132
 refine WA.rm (α:=Int) (raw:=((Zm v0.f_L).length:Int)) (can:=(v0.f_L.length:Int)) (fun m_=>([(4,one (.bool false))],[],[v117=true,(decide (m_ > 1))=false])) ((by first | (simp only [zl,Zh];done) | (simp only [zl,Zh];omega) | omega)) [4] [] [(1,.bool true),(7,.bool false)] kr (sound _ _) ⟨hb131,hb132,trivial⟩ ?_
 exact ⟨false,kr,kr,hF⟩ } }
 {
 have hF:=Zj hF hb131
 refine WA.reg [4] [] [(1,.bool false)] (env':=[(4,one (.bool false))]) (os':=[]) (O:=[v117=false]) kr (sound _ _) ⟨hb131,trivial⟩ ?_
 exact ⟨false,kr,kr,hF⟩ } } }
 {
 have hF:=Zj hF hb130
 refine WA.seq ?_
 refine WA.reg [2,82] [102] [] (env':=[(2,.val false [.ptr 102 1 0 0]),(82,one (.bool (v0.f_Kind == 4)))]) (os':=[(102,.box (pvL (Zd v0)))]) (O:=[]) kr (sound _ _) trivial ?_
 refine WA.cond (b:=(v0.f_Kind == 4)) rfl (fun hb134=>?_) (fun hb134=>?_)
 {
 have hF:=Zk hF hb134
 refine WA.join (fun s_=>∃(v141:Bool),Zl s_.env [4]=[(4,one (.bool v141))]∧Zl s_.os []=[]∧ZcK v141=some r) ?_ ?_
 {
 rintro s_ ⟨v141,he,ho,hF⟩
 refine WA.keep _ _ he ho ?_
 clear he ho
 refine WA.ret ?_
 obtain rfl:=Option.some.inj hF
 exact Zp (one (.bool v141)) [] kr kr kr kr (by decide) rfl rfl }
 {
 rcases Bool.eq_false_or_eq_true ((v0.f_L.length:Int) == 1) with hb135 | hb135
 {
 have hF:=Zk hF hb135
 rcases Bool.eq_false_or_eq_true ((v0.f_Set.length:Int) == 0) with hb136 | hb136
 {
 have hF:=Zk hF hb136
 rcases Bool.eq_false_or_eq_true (decide (v0.f_Min≥0)) with hb137 | hb137
 {
 have hF:=Zk hF hb137
 rcases Bool.eq_false_or_eq_true (decide (v0.f_Min≤20)) with hb138 | hb138
 {
 have hF:=Zk hF hb138
 rcases Bool.eq_false_or_eq_true (decide (v0.f_Max≤20)) with hb139 | hb139
 {
 have hF:=Zk hF hb139
 rcases Bool.eq_false_or_eq_true (v0.f_Max == (-1)) with hb140 | hb140
 {
 have hF:=Zk hF hb140
 refine WA.rm (α:=Int×Int) (raw:=(((Zm v0.f_L).length:Int),((v0.f_Set.map Za).length:Int))) (can:=((v0.f_L.length:Int),(v0.f_Set.length:Int))) (fun m_=>([(4,one (.bool true))],[],[(m_.1 == 1)=true,(m_.2 == 0)=true,(decide (v0.f_Min≥0))=true,(decide (v0.f_Min≤20))=true,(decide (v0.f_Max≤20))=true,(v0.f_Max == (-1))=true])) (ZE (by first | (simp only [zl,Zh];done) | (simp only [zl,Zh];omega) | omega) (by first | (simp only [zl,Zh];done) | (simp only [zl,Zh];omega) | omega)) [4] [] [(4,.bool true),(10,.bool true),(15,.bool true),(20,.bool true),(25,.bool true),(29,.bool true)] kr (sound _ _) ⟨hb135,hb136,hb137,hb138,hb139,hb140,trivial⟩ ?_
 exact ⟨true,kr,kr,hF⟩ }
 {
 have hF:=Zj hF hb140
 refine WA.rm (α:=Int×Int) (raw:=(((Zm v0.f_L).length:Int),((v0.f_Set.map Za).length:Int))) (can:=((v0.f_L.length:Int),(v0.f_Set.length:Int))) (fun m_=>([(4,one (.bool (decide (v0.f_Max≥v0.f_Min))))],[],[(m_.1 == 1)=true,(m_.2 == 0)=true,(decide (v0.f_Min≥0))=true,(decide (v0.f_Min≤20))=true,(decide (v0.f_Max≤20))=true,(v0.f_Max == (-1))=false])) (ZE (by first | (simp only [zl,Zh];done) | (simp only [zl,Zh];omega) | omega) (by first | (simp only [zl,Zh];done) | (simp only [zl,Zh];omega) | omega)) [4] [] [(4,.bool true),(10,.bool true),(15,.bool true),(20,.bool true),(25,.bool true),(29,.bool false)] kr (sound _ _) ⟨hb135,hb136,hb137,hb138,hb139,hb140,trivial⟩ ?_
 exact ⟨(decide (v0.f_Max≥v0.f_Min)),kr,kr,hF⟩ } }
 {
 have hF:=Zj hF hb139
 refine WA.rm (α:=Int×Int) (raw:=(((Zm v0.f_L).length:Int),((v0.f_Set.map Za).length:Int))) (can:=((v0.f_L.length:Int),(v0.f_Set.length:Int))) (fun m_=>([(4,one (.bool false))],[],[(m_.1 == 1)=true,(m_.2 == 0)=true,(decide (v0.f_Min≥0))=true,(decide (v0.f_Min≤20))=true,(decide (v0.f_Max≤20))=false])) (ZE (by first | (simp only [zl,Zh];done) | (simp only [zl,Zh];omega) | omega) (by first | (simp only [zl,Zh];done) | (simp only [zl,Zh];omega) | omega)) [4] [] [(4,.bool true),(10,.bool true),(15,.bool true),(20,.bool true),(25,.bool false)] kr (sound _ _) ⟨hb135,hb136,hb137,hb138,hb139,trivial⟩ ?_
 exact ⟨false,kr,kr,hF⟩ } }
 {
 have hF:=Zj hF hb138
 refine WA.rm (α:=Int×Int) (raw:=(((Zm v0.f_L).length:Int),((v0.f_Set.map Za).length:Int))) (can:=((v0.f_L.length:Int),(v0.f_Set.length:Int))) (fun m_=>([(4,one (.bool false))],[],[(m_.1 == 1)=true,(m_.2 == 0)=true,(decide (v0.f_Min≥0))=true,(decide (v0.f_Min≤20))=false])) (ZE (by first | (simp only [zl,Zh];done) | (simp only [zl,Zh];omega) | omega) (by first | (simp only [zl,Zh];done) | (simp only [zl,Zh];omega) | omega)) [4] [] [(4,.bool true),(10,.bool true),(15,.bool true),(20,.bool false)] kr (sound _ _) ⟨hb135,hb136,hb137,hb138,trivial⟩ ?_
 exact ⟨false,kr,kr,hF⟩ } }
 {
 have hF:=Zj hF hb137
 refine WA.rm (α:=Int×Int) (raw:=(((Zm v0.f_L).length:Int),((v0.f_Set.map Za).length:Int))) (can:=((v0.f_L.length:Int),(v0.f_Set.length:Int))) (fun m_=>([(4,one (.bool false))],[],[(m_.1 == 1)=true,(m_.2 == 0)=true,(decide (v0.f_Min≥0))=false])) (ZE (by first | (simp only [zl,Zh];done) | (simp only [zl,Zh];omega) | omega) (by first | (simp only [zl,Zh];done) | (simp only [zl,Zh];omega) | omega)) [4] [] [(4,.bool true),(10,.bool true),(15,.bool false)] kr (sound _ _) ⟨hb135,hb136,hb137,trivial⟩ ?_
 exact ⟨false,kr,kr,hF⟩ } }
 {
 have hF:=Zj hF hb136
 refine WA.rm (α:=Int×Int) (raw:=(((Zm v0.f_L).length:Int),((v0.f_Set.map Za).length:Int))) (can:=((v0.f_L.length:Int),(v0.f_Set.length:Int))) (fun m_=>([(4,one (.bool false))],[],[(m_.1 == 1)=true,(m_.2 == 0)=false])) (ZE (by first | (simp only [zl,Zh];done) | (simp only [zl,Zh];omega) | omega) (by first | (simp only [zl,Zh];done) | (simp only [zl,Zh];omega) | omega)) [4] [] [(4,.bool true),(10,.bool false)] kr (sound _ _) ⟨hb135,hb136,trivial⟩ ?_
 exact ⟨false,kr,kr,hF⟩ } }
 {
 have hF:=Zj hF hb135
 refine WA.rm (α:=Int) (raw:=((Zm v0.f_L).length:Int)) (can:=(v0.f_L.length:Int)) (fun m_=>([(4,one (.bool false))],[],[(m_ == 1)=false])) ((by first | (simp only [zl,Zh];done) | (simp only [zl,Zh];omega) | omega)) [4] [] [(4,.bool false)] kr (sound _ _) ⟨hb135,trivial⟩ ?_
 exact ⟨false,kr,kr,hF⟩ } } }
 {
 have hF:=Zj hF hb134
 refine WA.skip ?_
 refine WA.seq ?_
 refine WA.reg [4] [] [] (env':=[(4,one (.bool false))]) (os':=[]) (O:=[]) kr (sound _ _) trivial ?_
 refine WA.ret ?_
 obtain rfl:=Option.some.inj hF
 exact Zp (one (.bool false)) [] kr kr kr kr (by decide) rfl rfl } } } } }
 {
 rcases Bool.eq_false_or_eq_true (v0.f_Min == 0) with hb116 | hb116
 {
 have hF:=Zk hF hb116
 refine WA.reg [2,7] [102] [(3,.bool true)] (env':=[(2,.val false [.ptr 102 1 0 0]),(7,one (.bool (v0.f_Max == 0)))]) (os':=[(102,.box (pvL (Zd v0)))]) (O:=[(v0.f_Min == 0)=true]) kr (sound _ _) ⟨hb116,trivial⟩ ?_
 exact ⟨(v0.f_Max == 0),kr,kr,hF⟩ }
 {
 have hF:=Zj hF hb116
 refine WA.reg [2,7] [102] [(3,.bool false)] (env':=[(2,.val false [.ptr 102 1 0 0]),(7,one (.bool false))]) (os':=[(102,.box (pvL (Zd v0)))]) (O:=[(v0.f_Min == 0)=false]) kr (sound _ _) ⟨hb116,trivial⟩ ?_
 exact ⟨false,kr,kr,hF⟩ } } } }
def F52:Nat→Ze→Int→Option Bool
  | 0,_,_=>none
  | k+1,v0,v1=>ZnB (F52 k) k v0 v1
theorem ZjQ:∀(k:Nat),∀(v0:Ze) (v1:Int) (r:Bool),F52 k v0 v1=some r→Sim Tryz.prog GL0 52 [.val true (pvL (Zd v0)),one (.int .i64 v1)] [] (one (.bool r)) []
  | 0=>fun _ _ _ hF=>by cases hF
  | k+1=>fun v0 v1 r hF=>Zm2 (F52 k) (ZjQ k) k v0 v1 r hF
def ZjI (v104:Bool):Option Bool:=
  some v104
def F30 (k:Nat) (v0:Ze):Option Bool:=
  (F52 k v0 16).bind fun y101=>cond y101 ((F32 k v0).bind fun y103=>(ZjI (decide (y103≤200)))) ((ZjI false))
theorem ZlY (k:Nat) (v0:Ze) (r:Bool) (hF:F30 k v0=some r):Sim Tryz.prog GL0 30 [.val true (pvL (Zd v0))] [] (one (.bool r)) []:=by
 refine ZB [] Tryz.func30 rfl kr kr ?_
 show WA _ _ 10 _ _ _
 refine WA.seq ?_
 refine WA.reg [1] [101] [(0,.obj 101)] (env':=[(1,.val false [.ptr 101 1 0 0])]) (os':=[(101,.box (pvL (Zd v0)))]) (O:=[]) kr (sound _ _) trivial ?_
 refine WA.join (fun s_=>∃(v104:Bool),Zl s_.env [2]=[(2,one (.bool v104))]∧Zl s_.os []=[]∧ZjI v104=some r) ?_ ?_
 {
 rintro s_ ⟨v104,he,ho,hF⟩
 refine WA.keep _ _ he ho ?_
 clear he ho
 refine WA.ret ?_
 obtain rfl:=Option.some.inj hF
 exact Zp (one (.bool v104)) [] kr kr kr kr (by decide) rfl rfl }
 {
 obtain ⟨y101,hy101,hF⟩:=bind_some hF
 rcases Bool.eq_false_or_eq_true y101 with hb102 | hb102
 {
 have hF:=Zk hF hb102
 obtain ⟨y103,hy103,hF⟩:=bind_some hF
 refine WA.reg [2] [] [(1,.callR [] (one (.bool y101))),(2,.bool true),(4,.callR [] (one (.int .i64 y103)))] (env':=[(2,one (.bool (decide (y103≤200))))]) (os':=[]) (O:=[Sim Tryz.prog GL0 52 [.val true (pvL (Zd v0)),one (.int .i64 16)] [] (one (.bool y101)) [],([]:List Nat).Nodup,y101=true,Sim Tryz.prog GL0 32 [.val true (pvL (Zd v0))] [] (one (.int .i64 y103)) [],([]:List Nat).Nodup]) kr (sound _ _) ⟨(ZjQ k _ _ _ hy101),(by decide),hb102,(Zhs k _ _ hy103),(by decide),trivial⟩ ?_
 exact ⟨(decide (y103≤200)),kr,kr,hF⟩ }
 {
 have hF:=Zj hF hb102
 refine WA.reg [2] [] [(1,.callR [] (one (.bool y101))),(2,.bool false)] (env':=[(2,one (.bool false))]) (os':=[]) (O:=[Sim Tryz.prog GL0 52 [.val true (pvL (Zd v0)),one (.int .i64 16)] [] (one (.bool y101)) [],([]:List Nat).Nodup,y101=false]) kr (sound _ _) ⟨(ZjQ k _ _ _ hy101),(by decide),hb102,trivial⟩ ?_
 exact ⟨false,kr,kr,hF⟩ } }
end Go.Proofs.YthilboheomikjaaGreatDoor
end
section
namespace Go.Proofs.YthilboheomikjaaGreatDoor
open Go.AL
structure Zw where
  f_set:List Zb
  f_some:Bool
  f_next:List Int
  f_x:Bool
def ZI (x:Zw):List PV:=[.sl (x.f_set.map Za),.bool x.f_some,.sl (x.f_next.map (eInt .i64))]
def Zn (x:Zw):List PV:=[.sl (x.f_set.map Za),.bool x.f_some,cond x.f_x (.slc (x.f_next.map (eInt .i64))) (.sl (x.f_next.map (eInt .i64)))]
theorem Zju (l:List Zw):∀es,es∈l.map Zn→es.length=3:=fun es h=>by obtain ⟨y,_,rfl⟩:=List.mem_map.1 h;rfl
structure Zq where
  f_nodes:List Zw
  f_first:Int
def Zt (x:Zq):List PV:=[.sl (x.f_nodes.map ZI),.int .i64 x.f_first]
end Go.Proofs.YthilboheomikjaaGreatDoor
end
section
namespace Go.Proofs.YthilboheomikjaaGreatDoor
open Go.AL
set_option maxRecDepth 100000
def F105 (k:Nat) (v0:Zq) (v1:Zw):Option (Int×Zq):=
  (if v0.f_nodes.length+([v1]:List Zw).length≤1073741824 then ((some ((w64 (((v0.f_nodes ++ ([v1]:List Zw)).length:Int)-1)),({ v0 with f_nodes:=(v0.f_nodes ++ ([v1]:List Zw)) }:Zq)))) else none)
theorem Zf5 (k:Nat) (v0:Zq) (v1:Zw) (r:Int×Zq) (hF:F105 k v0 v1=some r):Sim Tryz.prog GL0 105 [.val false [.ptr 0 1 0 0],.val true (pvL (Zn v1))] [.box [.arr 1 v0.f_nodes.length,.pv (.int .i64 v0.f_first)],.arr 3 (v0.f_nodes.map Zn)] (one (.int .i64 r.1)) [.box [.arr 1 r.2.f_nodes.length,.pv (.int .i64 r.2.f_first)],.arr 3 (r.2.f_nodes.map Zn)]:=by
 refine ZB [0,1] Tryz.func105 rfl kr kr ?_
 show WA _ _ 21 _ _ _
 refine WA.seq ?_
 refine WA.reg [0,3] [0,1,103] [(0,.obj 103)] (env':=[(0,.val false [.ptr 0 1 0 0]),(3,.val false [.ptr 103 1 0 0])]) (os':=[(0,.box [.arr 1 v0.f_nodes.length,.pv (.int .i64 v0.f_first)]),(1,.arr 3 (v0.f_nodes.map Zn)),(103,.box (pvL (Zn v1)))]) (O:=[]) kr (sound _ _) trivial ?_
 refine WA.seq ?_
 obtain ⟨hc101,hF⟩:=Zo hF
 refine WA.rdm (α:=Nat×(List (List PV))) (raw:=((v0.f_nodes.length+1),((v0.f_nodes.map Zn) ++ (([v1]:List Zw).map Zn)))) (can:=((v0.f_nodes ++ ([v1]:List Zw)).length,((v0.f_nodes ++ ([v1]:List Zw)).map Zn))) (fun m_=>([(0,.val false [.ptr 0 1 0 0])],[(0,.box [.arr 1 m_.1,.pv (.int .i64 v0.f_first)]),(1,.arr 3 m_.2)],[v0.f_nodes.length=(v0.f_nodes.map Zn).length,(v0.f_nodes.map Zn).length+(([v1]:List Zw).map Zn).length≤1073741824,∀es,es∈(([v1]:List Zw).map Zn)→es.length=3])) (ZE (by first | (simp only [zl,Zh];done) | (simp only [zl,Zh];omega) | omega) (by first | (simp only [zr,Zd5,Zm];done) | (simp only [zq,Zby];done) | (simp only [zq,Zby,Zn,cond];done))) [0] [0,1] [] kr kr kr (sound _ _) ⟨zt,(by first | exact hc101 | (simp only [List.length_map,Zh];exact hc101)),(Zju ([v1]:List Zw)),trivial⟩ ?_
 refine WA.seq ?_
 refine WA.rm (α:=Int) (raw:=((((v0.f_nodes ++ ([v1]:List Zw)).length):Nat):Int)) (can:=((v0.f_nodes ++ ([v1]:List Zw)).length:Int)) (fun m_=>([(4,one (.int .i64 (w64 (m_-1))))],[(0,.box [.arr 1 ((v0.f_nodes ++ ([v1]:List Zw)).length),.pv (.int .i64 v0.f_first)]),(1,.arr 3 ((v0.f_nodes ++ ([v1]:List Zw)).map Zn))],[])) ((by first | (simp only [zl,Zh];done) | (simp only [zl,Zh];omega) | omega)) [4] [0,1] [] kr (sound _ _) trivial ?_
 refine WA.ret ?_
 obtain rfl:=Option.some.inj hF
 exact Zp (one (.int .i64 (w64 (((v0.f_nodes ++ ([v1]:List Zw)).length:Int)-1)))) [.box [.arr 1 ((v0.f_nodes ++ ([v1]:List Zw)).length),.pv (.int .i64 v0.f_first)],.arr 3 ((v0.f_nodes ++ ([v1]:List Zw)).map Zn)] kr kr kr kr (by decide) rfl rfl
def Zma (R78:Zq→Ze→Int→Option (Int×Zq)) (self0:Zq→Int→Int→Option (Int×Zq)) (v1:Ze) (v113:Zq) (v114:Int) (v115:Int):Option (Int×Zq):=
  (cond (decide (v115≥0)) ((idxL v1.f_L v115).bind fun y117=>(R78 v113 y117 v114).bind fun y118=>(self0 y118.2 y118.1 (w64 (v115-1)))) (((some (v114,v113)))))
def ZhJ (R78:Zq→Ze→Int→Option (Int×Zq)) (v1:Ze):Nat→Zq→Int→Int→Option (Int×Zq)
  | 0,_,_,_=>none
  | m_+1,v113,v114,v115=>Zma R78 (ZhJ R78 v1 m_) v1 v113 v114 v115
def Zmb (R78:Zq→Ze→Int→Option (Int×Zq)) (k:Nat) (self1:Zq→(List Int)→Int→Option (Int×Zq)) (v1:Ze) (v2:Int) (v132:Zq) (v133:List Int) (v135:Int):Option (Int×Zq):=
  (cond (decide (v135<(v1.f_L.length:Int))) ((idxL v1.f_L v135).bind fun y137=>(R78 v132 y137 v2).bind fun y138=>if v133.length+([y138.1]:List Int).length≤1073741824 then (self1 y138.2 (v133 ++ ([y138.1]:List Int)) (w64 (v135+1))) else none) ((F105 k v132 (⟨([]:List Zb),false,v133,false⟩:Zw)).bind fun y140=>(some (y140.1,y140.2))))
def ZhK (R78:Zq→Ze→Int→Option (Int×Zq)) (k:Nat) (v1:Ze) (v2:Int):Nat→Zq→(List Int)→Int→Option (Int×Zq)
  | 0,_,_,_=>none
  | m_+1,v132,v133,v135=>Zmb R78 k (ZhK R78 k v1 v2 m_) v1 v2 v132 v133 v135
def Zmd (R78:Zq→Ze→Int→Option (Int×Zq)) (self4:Zq→Int→Int→Option (Int×Zq)) (v1:Ze) (v180:Zq) (v181:Int) (v182:Int):Option (Int×Zq):=
  (cond (decide (v182<v1.f_Min)) ((idxL v1.f_L 0).bind fun y184=>(R78 v180 y184 v181).bind fun y185=>(self4 y185.2 y185.1 (w64 (v182+1)))) (((some (v181,v180)))))
def ZhM (R78:Zq→Ze→Int→Option (Int×Zq)) (v1:Ze):Nat→Zq→Int→Int→Option (Int×Zq)
  | 0,_,_,_=>none
  | m_+1,v180,v181,v182=>Zmd R78 (ZhM R78 v1 m_) v1 v180 v181 v182
def ZjU (R78:Zq→Ze→Int→Option (Int×Zq)) (k:Nat) (v1:Ze) (v169:Zq) (v170:Int):Option (Int×Zq):=
  (ZhM R78 v1 k v169 v170 0)
def Zmc (R78:Zq→Ze→Int→Option (Int×Zq)) (k:Nat) (self2:Zq→Int→Int→Option (Int×Zq)) (v1:Ze) (v2:Int) (v162:Zq) (v163:Int) (v164:Int):Option (Int×Zq):=
  (cond (decide (v164<(w64 (v1.f_Max-v1.f_Min)))) ((idxL v1.f_L 0).bind fun y166=>(R78 v162 y166 v163).bind fun y167=>(F105 k y167.2 (⟨([]:List Zb),false,([v2,y167.1]:List Int),false⟩:Zw)).bind fun y168=>(self2 y168.2 y168.1 (w64 (v164+1)))) ((ZjU R78 k v1 v162 v163)))
def ZhL (R78:Zq→Ze→Int→Option (Int×Zq)) (k:Nat) (v1:Ze) (v2:Int):Nat→Zq→Int→Int→Option (Int×Zq)
  | 0,_,_,_=>none
  | m_+1,v162,v163,v164=>Zmc R78 k (ZhL R78 k v1 v2 m_) v1 v2 v162 v163 v164
def ZnC (R78:Zq→Ze→Int→Option (Int×Zq)) (k:Nat) (v0:Zq) (v1:Ze) (v2:Int):Option (Int×Zq):=
  (((cond (v1.f_Kind == 1) ((F105 k v0 (⟨v1.f_Set,true,([v2]:List Int),false⟩:Zw)).bind fun y102=>(some (y102.1,y102.2))) ((cond (v1.f_Kind == 2) ((ZhJ R78 v1 k v0 v2 (w64 ((v1.f_L.length:Int)-1)))) ((cond (v1.f_Kind == 3) (((ZhK R78 k v1 v2 k v0 ([]:List Int) 0))) (((cond (decide (v1.f_Max<0)) ((F105 k v0 (⟨([]:List Zb),false,([v2]:List Int),true⟩:Zw)).bind fun y142=>(idxL v1.f_L 0).bind fun y143=>(R78 y142.2 y143 y142.1).bind fun y144=>(if (0:Int)≤y142.1∧y142.1<(y144.2.f_nodes.length:Int) then (idxL y144.2.f_nodes y142.1).bind fun y146=>if y146.f_x=true then if y146.f_next.length+([y144.1]:List Int).length≤1073741824 then if (0:Int)≤y142.1∧y142.1<(y144.2.f_nodes.length:Int) then (idxL y144.2.f_nodes y142.1).bind fun y150=>((ZjU R78 k v1 ({ y144.2 with f_nodes:=(y144.2.f_nodes.set (Int.toNat y142.1) ({ y150 with f_next:=(y146.f_next ++ ([y144.1]:List Int)),f_x:=false }:Zw)) }:Zq) y142.1)) else none else none else none else none)) (((ZhL R78 k v1 v2 k v0 v2 0)))))))))))))
theorem Zm3 (R78:Zq→Ze→Int→Option (Int×Zq)) (IH78:∀(v0:Zq) (v1:Ze) (v2:Int) (r:Int×Zq),R78 v0 v1 v2=some r→Sim Tryz.prog GL0 78 [.val false [.ptr 0 1 0 0],.val true (pvL (Zd v1)),one (.int .i64 v2)] [.box [.arr 1 v0.f_nodes.length,.pv (.int .i64 v0.f_first)],.arr 3 (v0.f_nodes.map Zn)] (one (.int .i64 r.1)) [.box [.arr 1 r.2.f_nodes.length,.pv (.int .i64 r.2.f_first)],.arr 3 (r.2.f_nodes.map Zn)]) (k:Nat) (v0:Zq) (v1:Ze) (v2:Int) (r:Int×Zq) (hF:ZnC R78 k v0 v1 v2=some r):Sim Tryz.prog GL0 78 [.val false [.ptr 0 1 0 0],.val true (pvL (Zd v1)),one (.int .i64 v2)] [.box [.arr 1 v0.f_nodes.length,.pv (.int .i64 v0.f_first)],.arr 3 (v0.f_nodes.map Zn)] (one (.int .i64 r.1)) [.box [.arr 1 r.2.f_nodes.length,.pv (.int .i64 r.2.f_first)],.arr 3 (r.2.f_nodes.map Zn)]:=by
 refine ZB [0,1] Tryz.func78 rfl kr kr ?_
 show WA _ _ 133 _ _ _
 refine WA.seq ?_
 refine WA.reg [0,2,4] [0,1,104] [(0,.obj 104)] (env':=[(0,.val false [.ptr 0 1 0 0]),(2,one (.int .i64 v2)),(4,.val false [.ptr 104 1 0 0])]) (os':=[(0,.box [.arr 1 v0.f_nodes.length,.pv (.int .i64 v0.f_first)]),(1,.arr 3 (v0.f_nodes.map Zn)),(104,.box (pvL (Zd v1)))]) (O:=[]) kr (sound _ _) trivial ?_
 refine WA.seq ?_
 refine WA.seq ?_
 refine WA.reg [0,2,4,15] [0,1,104] [] (env':=[(0,.val false [.ptr 0 1 0 0]),(2,one (.int .i64 v2)),(4,.val false [.ptr 104 1 0 0]),(15,one (.int .i64 v1.f_Kind))]) (os':=[(0,.box [.arr 1 v0.f_nodes.length,.pv (.int .i64 v0.f_first)]),(1,.arr 3 (v0.f_nodes.map Zn)),(104,.box (pvL (Zd v1)))]) (O:=[]) kr (sound _ _) trivial ?_
 refine WA.block ?_
 refine WA.seq ?_
 refine WA.reg [0,2,4,15,16] [0,1,104] [] (env':=[(0,.val false [.ptr 0 1 0 0]),(2,one (.int .i64 v2)),(4,.val false [.ptr 104 1 0 0]),(15,one (.int .i64 v1.f_Kind)),(16,one (.bool (v1.f_Kind == 1)))]) (os':=[(0,.box [.arr 1 v0.f_nodes.length,.pv (.int .i64 v0.f_first)]),(1,.arr 3 (v0.f_nodes.map Zn)),(104,.box (pvL (Zd v1)))]) (O:=[]) kr (sound _ _) trivial ?_
 refine WA.cond (b:=(v1.f_Kind == 1)) rfl (fun hb101=>?_) (fun hb101=>?_)
 {
 have hF:=Zk hF hb101
 refine WA.seq ?_
 obtain ⟨y102,hy102,hF⟩:=bind_some hF
 refine WA.reg [6] [0,1] [(6,.call [0,1] (one (.int .i64 y102.1)) [.box [.arr 1 y102.2.f_nodes.length,.pv (.int .i64 y102.2.f_first)],.arr 3 (y102.2.f_nodes.map Zn)] [])] (env':=[(6,one (.int .i64 y102.1))]) (os':=[(0,.box [.arr 1 y102.2.f_nodes.length,.pv (.int .i64 y102.2.f_first)]),(1,.arr 3 (y102.2.f_nodes.map Zn))]) (O:=[Sim Tryz.prog GL0 105 [.val false [.ptr 0 1 0 0],.val true (pvL (Zn (⟨v1.f_Set,true,([v2]:List Int),false⟩:Zw)))] [.box [.arr 1 v0.f_nodes.length,.pv (.int .i64 v0.f_first)],.arr 3 (v0.f_nodes.map Zn)] (one (.int .i64 y102.1)) [.box [.arr 1 y102.2.f_nodes.length,.pv (.int .i64 y102.2.f_first)],.arr 3 (y102.2.f_nodes.map Zn)],([0,1]:List Nat).Nodup]) kr (sound _ _) ⟨(Zf5 k _ _ _ hy102),(by decide),trivial⟩ ?_
 refine WA.ret ?_
 obtain rfl:=Option.some.inj hF
 exact Zp (one (.int .i64 y102.1)) [.box [.arr 1 y102.2.f_nodes.length,.pv (.int .i64 y102.2.f_first)],.arr 3 (y102.2.f_nodes.map Zn)] kr kr kr kr (by decide) rfl rfl }
 {
 have hF:=Zj hF hb101
 refine WA.seq ?_
 refine WA.reg [0,2,4,15,25] [0,1,104] [] (env':=[(0,.val false [.ptr 0 1 0 0]),(2,one (.int .i64 v2)),(4,.val false [.ptr 104 1 0 0]),(15,one (.int .i64 v1.f_Kind)),(25,one (.bool (v1.f_Kind == 2)))]) (os':=[(0,.box [.arr 1 v0.f_nodes.length,.pv (.int .i64 v0.f_first)]),(1,.arr 3 (v0.f_nodes.map Zn)),(104,.box (pvL (Zd v1)))]) (O:=[]) kr (sound _ _) trivial ?_
 refine WA.cond (b:=(v1.f_Kind == 2)) rfl (fun hb103=>?_) (fun hb103=>?_)
 {
 have hF:=Zk hF hb103
 refine WA.seq ?_
 refine WA.seq ?_
 refine WA.rm (α:=Int) (raw:=((Zm v1.f_L).length:Int)) (can:=(v1.f_L.length:Int)) (fun m_=>([(0,.val false [.ptr 0 1 0 0]),(2,one (.int .i64 v2)),(4,.val false [.ptr 104 1 0 0]),(7,one (.int .i64 (w64 (m_-1))))],[(0,.box [.arr 1 v0.f_nodes.length,.pv (.int .i64 v0.f_first)]),(1,.arr 3 (v0.f_nodes.map Zn)),(104,.box (pvL (Zd v1)))],[])) ((by first | (simp only [zl,Zh];done) | (simp only [zl,Zh];omega) | omega)) [0,2,4,7] [0,1,104] [] kr (sound _ _) trivial ?_
 refine WA.block ?_
 refine WA.loop (fun m s_=>∃(v113:Zq) (v114:Int) (v115:Int),Zl s_.env [0,2,4,7]=[(0,.val false [.ptr 0 1 0 0]),(2,one (.int .i64 v114)),(4,.val false [.ptr 104 1 0 0]),(7,one (.int .i64 v115))]∧Zl s_.os [0,1,104]=[(0,.box [.arr 1 v113.f_nodes.length,.pv (.int .i64 v113.f_first)]),(1,.arr 3 (v113.f_nodes.map Zn)),(104,.box (pvL (Zd v1)))]∧ZhJ R78 v1 m v113 v114 v115=some r) k ⟨v0,v2,(w64 ((v1.f_L.length:Int)-1)),kr,kr,hF⟩ ?_
 clear hF
 rintro m0 s_ ⟨v113,v114,v115,he,ho,hF⟩
 refine WA.keep _ _ he ho ?_
 clear he ho
 cases m0 with
 | zero=>cases hF
 | succ m0=>
  obtain ⟨self0,hself0⟩:∃g,g=ZhJ R78 v1 m0:=⟨_,rfl⟩
  have hF:Zma R78 self0 v1 v113 v114 v115=some r:=by first | (rw [hself0];exact hF) | exact hF
  refine WA.seq ?_
  refine WA.seq ?_
  refine WA.reg [0,2,4,7,32] [0,1,104] [] (env':=[(0,.val false [.ptr 0 1 0 0]),(2,one (.int .i64 v114)),(4,.val false [.ptr 104 1 0 0]),(7,one (.int .i64 v115)),(32,one (.bool (decide (v115≥0))))]) (os':=[(0,.box [.arr 1 v113.f_nodes.length,.pv (.int .i64 v113.f_first)]),(1,.arr 3 (v113.f_nodes.map Zn)),(104,.box (pvL (Zd v1)))]) (O:=[]) kr (sound _ _) trivial ?_
  refine WA.cond (b:=(decide (v115≥0))) rfl (fun hb116=>?_) (fun hb116=>?_)
  {
 have hF:=Zk hF hb116
 refine WA.skip ?_
 refine WA.seq ?_
 refine WA.block ?_
 obtain ⟨y117,hy117,hF⟩:=bind_some hF
 obtain ⟨y118,hy118,hF⟩:=bind_some hF
 refine WA.reg [0,2,4,7] [0,1,104] [(4,.cells (Zd y117)),(7,.call [0,1] (one (.int .i64 y118.1)) [.box [.arr 1 y118.2.f_nodes.length,.pv (.int .i64 y118.2.f_first)],.arr 3 (y118.2.f_nodes.map Zn)] [])] (env':=[(0,.val false [.ptr 0 1 0 0]),(2,one (.int .i64 y118.1)),(4,.val false [.ptr 104 1 0 0]),(7,one (.int .i64 v115))]) (os':=[(0,.box [.arr 1 y118.2.f_nodes.length,.pv (.int .i64 y118.2.f_first)]),(1,.arr 3 (y118.2.f_nodes.map Zn)),(104,.box (pvL (Zd v1)))]) (O:=[idxL (Zm v1.f_L) v115=some (Zd y117),Sim Tryz.prog GL0 78 [.val false [.ptr 0 1 0 0],.val true (pvL (Zd y117)),one (.int .i64 v114)] [.box [.arr 1 v113.f_nodes.length,.pv (.int .i64 v113.f_first)],.arr 3 (v113.f_nodes.map Zn)] (one (.int .i64 y118.1)) [.box [.arr 1 y118.2.f_nodes.length,.pv (.int .i64 y118.2.f_first)],.arr 3 (y118.2.f_nodes.map Zn)],([0,1]:List Nat).Nodup]) kr (sound _ _) ⟨(ZR hy117),(IH78 _ _ _ _ hy118),(by decide),trivial⟩ ?_
 refine WA.reg [0,2,4,7] [0,1,104] [] (env':=[(0,.val false [.ptr 0 1 0 0]),(2,one (.int .i64 y118.1)),(4,.val false [.ptr 104 1 0 0]),(7,one (.int .i64 (w64 (v115-1))))]) (os':=[(0,.box [.arr 1 y118.2.f_nodes.length,.pv (.int .i64 y118.2.f_first)]),(1,.arr 3 (y118.2.f_nodes.map Zn)),(104,.box (pvL (Zd v1)))]) (O:=[]) kr (sound _ _) trivial ?_
 exact ⟨m0,Nat.lt_succ_self _,y118.2,y118.1,(w64 (v115-1)),kr,kr,by rw [hself0] at hF;exact hF⟩ }
  {
 have hF:=Zj hF hb116
 refine WA.exit ?_
 refine WA.seq ?_
 refine WA.reg [6] [0,1] [] (env':=[(6,one (.int .i64 v114))]) (os':=[(0,.box [.arr 1 v113.f_nodes.length,.pv (.int .i64 v113.f_first)]),(1,.arr 3 (v113.f_nodes.map Zn))]) (O:=[]) kr (sound _ _) trivial ?_
 refine WA.ret ?_
 obtain rfl:=Option.some.inj hF
 exact Zp (one (.int .i64 v114)) [.box [.arr 1 v113.f_nodes.length,.pv (.int .i64 v113.f_first)],.arr 3 (v113.f_nodes.map Zn)] kr kr kr kr (by decide) rfl rfl } }
 {
 have hF:=Zj hF hb103
 refine WA.seq ?_
 refine WA.reg [0,2,4,44] [0,1,104] [] (env':=[(0,.val false [.ptr 0 1 0 0]),(2,one (.int .i64 v2)),(4,.val false [.ptr 104 1 0 0]),(44,one (.bool (v1.f_Kind == 3)))]) (os':=[(0,.box [.arr 1 v0.f_nodes.length,.pv (.int .i64 v0.f_first)]),(1,.arr 3 (v0.f_nodes.map Zn)),(104,.box (pvL (Zd v1)))]) (O:=[]) kr (sound _ _) trivial ?_
 refine WA.cond (b:=(v1.f_Kind == 3)) rfl (fun hb119=>?_) (fun hb119=>?_)
 {
 have hF:=Zk hF hb119
 refine WA.seq ?_
 refine WA.reg [0,2,4,8] [0,1,104,108] [(0,.obj 108)] (env':=[(0,.val false [.ptr 0 1 0 0]),(2,one (.int .i64 v2)),(4,.val false [.ptr 104 1 0 0]),(8,.val false [.arr 108 0])]) (os':=[(0,.box [.arr 1 v0.f_nodes.length,.pv (.int .i64 v0.f_first)]),(1,.arr 3 (v0.f_nodes.map Zn)),(104,.box (pvL (Zd v1))),(108,.arr 1 (([]:List Int).map (eInt .i64)))]) (O:=[]) kr (sound _ _) trivial ?_
 refine WA.seq ?_
 refine WA.seq ?_
 refine WA.rm (α:=Int) (raw:=((Zm v1.f_L).length:Int)) (can:=(v1.f_L.length:Int)) (fun m_=>([(0,.val false [.ptr 0 1 0 0]),(2,one (.int .i64 v2)),(8,.val false [.arr 108 0]),(47,one (.sl (Zm v1.f_L))),(48,one (.int .i64 m_)),(49,one (.int .i64 0))],[(0,.box [.arr 1 v0.f_nodes.length,.pv (.int .i64 v0.f_first)]),(1,.arr 3 (v0.f_nodes.map Zn)),(108,.arr 1 (([]:List Int).map (eInt .i64)))],[])) ((by first | (simp only [zl,Zh];done) | (simp only [zl,Zh];omega) | omega)) [0,2,8,47,48,49] [0,1,108] [] kr (sound _ _) trivial ?_
 refine WA.block ?_
 refine WA.loop (fun m s_=>∃(v132:Zq) (v133:List Int) (v134:Nat) (v135:Int),Zl s_.env [0,2,8,47,48,49]=[(0,.val false [.ptr 0 1 0 0]),(2,one (.int .i64 v2)),(8,.val false [.arr 108 v134]),(47,one (.sl (Zm v1.f_L))),(48,one (.int .i64 (v1.f_L.length:Int))),(49,one (.int .i64 v135))]∧Zl s_.os [0,1,108]=[(0,.box [.arr 1 v132.f_nodes.length,.pv (.int .i64 v132.f_first)]),(1,.arr 3 (v132.f_nodes.map Zn)),(108,.arr 1 (v133.map (eInt .i64)))]∧v134=(v133:List _).length∧ZhK R78 k v1 v2 m v132 v133 v135=some r) k ⟨v0,([]:List Int),0,0,kr,kr,zt,hF⟩ ?_
 clear hF
 rintro m1 s_ ⟨v132,v133,v134,v135,he,ho,hn_v134,hF⟩
 refine WA.keep _ _ he ho ?_
 clear he ho
 cases m1 with
 | zero=>cases hF
 | succ m1=>
  obtain ⟨self1,hself1⟩:∃g,g=ZhK R78 k v1 v2 m1:=⟨_,rfl⟩
  have hF:Zmb R78 k self1 v1 v2 v132 v133 v135=some r:=by first | (rw [hself1];exact hF) | exact hF
  refine WA.seq ?_
  refine WA.reg [0,2,8,47,48,49,50] [0,1,108] [] (env':=[(0,.val false [.ptr 0 1 0 0]),(2,one (.int .i64 v2)),(8,.val false [.arr 108 v134]),(47,one (.sl (Zm v1.f_L))),(48,one (.int .i64 (v1.f_L.length:Int))),(49,one (.int .i64 v135)),(50,one (.bool (decide (v135<(v1.f_L.length:Int)))))]) (os':=[(0,.box [.arr 1 v132.f_nodes.length,.pv (.int .i64 v132.f_first)]),(1,.arr 3 (v132.f_nodes.map Zn)),(108,.arr 1 (v133.map (eInt .i64)))]) (O:=[]) kr (sound _ _) trivial ?_
  refine WA.seq ?_
  refine WA.cond (b:=(decide (v135<(v1.f_L.length:Int)))) rfl (fun hb136=>?_) (fun hb136=>?_)
  {
 have hF:=Zk hF hb136
 refine WA.skip ?_
 refine WA.seq ?_
 refine WA.block ?_
 refine WA.seq ?_
 obtain ⟨y137,hy137,hF⟩:=bind_some hF
 refine WA.reg [0,2,8,10,47,48,49] [0,1,108,110] [(0,.cells (Zd y137)),(2,.obj 110)] (env':=[(0,.val false [.ptr 0 1 0 0]),(2,one (.int .i64 v2)),(8,.val false [.arr 108 v134]),(10,.val false [.ptr 110 1 0 0]),(47,one (.sl (Zm v1.f_L))),(48,one (.int .i64 (v1.f_L.length:Int))),(49,one (.int .i64 v135))]) (os':=[(0,.box [.arr 1 v132.f_nodes.length,.pv (.int .i64 v132.f_first)]),(1,.arr 3 (v132.f_nodes.map Zn)),(108,.arr 1 (v133.map (eInt .i64))),(110,.box (pvL (Zd y137)))]) (O:=[idxL (Zm v1.f_L) v135=some (Zd y137)]) kr (sound _ _) ⟨(ZR hy137),trivial⟩ ?_
 obtain ⟨y138,hy138,hF⟩:=bind_some hF
 obtain ⟨hc139,hF⟩:=Zo hF
 refine WA.rm (α:=(List (List PV))) (raw:=((v133.map (eInt .i64)) ++ (([y138.1]:List Int).map (eInt .i64)))) (can:=((v133 ++ ([y138.1]:List Int)).map (eInt .i64))) (fun m_=>([(0,.val false [.ptr 0 1 0 0]),(2,one (.int .i64 v2)),(8,.val false [.arr 108 (v134+1)]),(47,one (.sl (Zm v1.f_L))),(48,one (.int .i64 (v1.f_L.length:Int))),(49,one (.int .i64 v135))],[(0,.box [.arr 1 y138.2.f_nodes.length,.pv (.int .i64 y138.2.f_first)]),(1,.arr 3 (y138.2.f_nodes.map Zn)),(108,.arr 1 m_)],[Sim Tryz.prog GL0 78 [.val false [.ptr 0 1 0 0],.val true (pvL (Zd y137)),one (.int .i64 v2)] [.box [.arr 1 v132.f_nodes.length,.pv (.int .i64 v132.f_first)],.arr 3 (v132.f_nodes.map Zn)] (one (.int .i64 y138.1)) [.box [.arr 1 y138.2.f_nodes.length,.pv (.int .i64 y138.2.f_first)],.arr 3 (y138.2.f_nodes.map Zn)],([0,1]:List Nat).Nodup,v134=(v133.map (eInt .i64)).length,(v133.map (eInt .i64)).length+(([y138.1]:List Int).map (eInt .i64)).length≤1073741824,∀es,es∈(([y138.1]:List Int).map (eInt .i64))→es.length=1])) ((by first | (simp only [zr,Zd5,Zm];done) | (simp only [zq,Zby];done) | (simp only [zq,Zby,Zn,cond];done))) [0,2,8,47,48,49] [0,1,108] [(4,.call [0,1] (one (.int .i64 y138.1)) [.box [.arr 1 y138.2.f_nodes.length,.pv (.int .i64 y138.2.f_first)],.arr 3 (y138.2.f_nodes.map Zn)] [])] kr (sound _ _) ⟨(IH78 _ _ _ _ hy138),(by decide),zt,(by first | exact hc139 | (simp only [List.length_map,Zh];exact hc139)),(ZgD _ _ _ (fun _=>rfl)),trivial⟩ ?_
 refine WA.reg [0,2,8,47,48,49] [0,1,108] [] (env':=[(0,.val false [.ptr 0 1 0 0]),(2,one (.int .i64 v2)),(8,.val false [.arr 108 (v134+1)]),(47,one (.sl (Zm v1.f_L))),(48,one (.int .i64 (v1.f_L.length:Int))),(49,one (.int .i64 (w64 (v135+1))))]) (os':=[(0,.box [.arr 1 y138.2.f_nodes.length,.pv (.int .i64 y138.2.f_first)]),(1,.arr 3 (y138.2.f_nodes.map Zn)),(108,.arr 1 ((v133 ++ ([y138.1]:List Int)).map (eInt .i64)))]) (O:=[]) kr (sound _ _) trivial ?_
 exact ⟨m1,Nat.lt_succ_self _,y138.2,(v133 ++ ([y138.1]:List Int)),(v134+1),(w64 (v135+1)),kr,kr,zt,by rw [hself1] at hF;exact hF⟩ }
  {
 have hF:=Zj hF hb136
 refine WA.exit ?_
 refine WA.seq ?_
 refine WA.freeze 108 8 (s:=1) (n:=v134) (els:=(v133.map (eInt .i64))) rfl rfl zt ?_
 refine WA.keep [0,8] [0,1] (env':=[(0,.val false [.ptr 0 1 0 0]),(8,one (.sl (v133.map (eInt .i64))))]) (os':=[(0,.box [.arr 1 v132.f_nodes.length,.pv (.int .i64 v132.f_first)]),(1,.arr 3 (v132.f_nodes.map Zn))]) kr kr ?_
 obtain ⟨y140,hy140,hF⟩:=bind_some hF
 refine WA.reg [6] [0,1] [(3,.call [0,1] (one (.int .i64 y140.1)) [.box [.arr 1 y140.2.f_nodes.length,.pv (.int .i64 y140.2.f_first)],.arr 3 (y140.2.f_nodes.map Zn)] [])] (env':=[(6,one (.int .i64 y140.1))]) (os':=[(0,.box [.arr 1 y140.2.f_nodes.length,.pv (.int .i64 y140.2.f_first)]),(1,.arr 3 (y140.2.f_nodes.map Zn))]) (O:=[Sim Tryz.prog GL0 105 [.val false [.ptr 0 1 0 0],.val true (pvL (Zn (⟨([]:List Zb),false,v133,false⟩:Zw)))] [.box [.arr 1 v132.f_nodes.length,.pv (.int .i64 v132.f_first)],.arr 3 (v132.f_nodes.map Zn)] (one (.int .i64 y140.1)) [.box [.arr 1 y140.2.f_nodes.length,.pv (.int .i64 y140.2.f_first)],.arr 3 (y140.2.f_nodes.map Zn)],([0,1]:List Nat).Nodup]) kr (sound _ _) ⟨(Zf5 k _ _ _ hy140),(by decide),trivial⟩ ?_
 refine WA.ret ?_
 obtain rfl:=Option.some.inj hF
 exact Zp (one (.int .i64 y140.1)) [.box [.arr 1 y140.2.f_nodes.length,.pv (.int .i64 y140.2.f_first)],.arr 3 (y140.2.f_nodes.map Zn)] kr kr kr kr (by decide) rfl rfl } }
 {
 have hF:=Zj hF hb119
 refine WA.skip ?_
 refine WA.join (fun s_=>∃(v169:Zq) (v170:Int),Zl s_.env [0,2,4]=[(0,.val false [.ptr 0 1 0 0]),(2,one (.int .i64 v170)),(4,.val false [.ptr 104 1 0 0])]∧Zl s_.os [0,1,104]=[(0,.box [.arr 1 v169.f_nodes.length,.pv (.int .i64 v169.f_first)]),(1,.arr 3 (v169.f_nodes.map Zn)),(104,.box (pvL (Zd v1)))]∧ZjU R78 k v1 v169 v170=some r) ?_ ?_
 {
 rintro s_ ⟨v169,v170,he,ho,hF⟩
 refine WA.keep _ _ he ho ?_
 clear he ho
 refine WA.seq ?_
 refine WA.seq ?_
 refine WA.reg [0,2,4,121,122] [0,1,104] [] (env':=[(0,.val false [.ptr 0 1 0 0]),(2,one (.int .i64 v170)),(4,.val false [.ptr 104 1 0 0]),(121,one (.int .i64 v1.f_Min)),(122,one (.int .i64 0))]) (os':=[(0,.box [.arr 1 v169.f_nodes.length,.pv (.int .i64 v169.f_first)]),(1,.arr 3 (v169.f_nodes.map Zn)),(104,.box (pvL (Zd v1)))]) (O:=[]) kr (sound _ _) trivial ?_
 refine WA.block ?_
 refine WA.loop (fun m s_=>∃(v180:Zq) (v181:Int) (v182:Int),Zl s_.env [0,2,4,121,122]=[(0,.val false [.ptr 0 1 0 0]),(2,one (.int .i64 v181)),(4,.val false [.ptr 104 1 0 0]),(121,one (.int .i64 v1.f_Min)),(122,one (.int .i64 v182))]∧Zl s_.os [0,1,104]=[(0,.box [.arr 1 v180.f_nodes.length,.pv (.int .i64 v180.f_first)]),(1,.arr 3 (v180.f_nodes.map Zn)),(104,.box (pvL (Zd v1)))]∧ZhM R78 v1 m v180 v181 v182=some r) k ⟨v169,v170,0,kr,kr,hF⟩ ?_
 clear hF
 rintro m4 s_ ⟨v180,v181,v182,he,ho,hF⟩
 refine WA.keep _ _ he ho ?_
 clear he ho
 cases m4 with
 | zero=>cases hF
 | succ m4=>
  obtain ⟨self4,hself4⟩:∃g,g=ZhM R78 v1 m4:=⟨_,rfl⟩
  have hF:Zmd R78 self4 v1 v180 v181 v182=some r:=by first | (rw [hself4];exact hF) | exact hF
  refine WA.seq ?_
  refine WA.reg [0,2,4,121,122,123] [0,1,104] [] (env':=[(0,.val false [.ptr 0 1 0 0]),(2,one (.int .i64 v181)),(4,.val false [.ptr 104 1 0 0]),(121,one (.int .i64 v1.f_Min)),(122,one (.int .i64 v182)),(123,one (.bool (decide (v182<v1.f_Min))))]) (os':=[(0,.box [.arr 1 v180.f_nodes.length,.pv (.int .i64 v180.f_first)]),(1,.arr 3 (v180.f_nodes.map Zn)),(104,.box (pvL (Zd v1)))]) (O:=[]) kr (sound _ _) trivial ?_
  refine WA.seq ?_
  refine WA.cond (b:=(decide (v182<v1.f_Min))) rfl (fun hb183=>?_) (fun hb183=>?_)
  {
 have hF:=Zk hF hb183
 refine WA.skip ?_
 refine WA.seq ?_
 refine WA.block ?_
 obtain ⟨y184,hy184,hF⟩:=bind_some hF
 obtain ⟨y185,hy185,hF⟩:=bind_some hF
 refine WA.reg [0,2,4,121,122] [0,1,104] [(3,.cells (Zd y184)),(6,.call [0,1] (one (.int .i64 y185.1)) [.box [.arr 1 y185.2.f_nodes.length,.pv (.int .i64 y185.2.f_first)],.arr 3 (y185.2.f_nodes.map Zn)] [])] (env':=[(0,.val false [.ptr 0 1 0 0]),(2,one (.int .i64 y185.1)),(4,.val false [.ptr 104 1 0 0]),(121,one (.int .i64 v1.f_Min)),(122,one (.int .i64 v182))]) (os':=[(0,.box [.arr 1 y185.2.f_nodes.length,.pv (.int .i64 y185.2.f_first)]),(1,.arr 3 (y185.2.f_nodes.map Zn)),(104,.box (pvL (Zd v1)))]) (O:=[idxL (Zm v1.f_L) 0=some (Zd y184),Sim Tryz.prog GL0 78 [.val false [.ptr 0 1 0 0],.val true (pvL (Zd y184)),one (.int .i64 v181)] [.box [.arr 1 v180.f_nodes.length,.pv (.int .i64 v180.f_first)],.arr 3 (v180.f_nodes.map Zn)] (one (.int .i64 y185.1)) [.box [.arr 1 y185.2.f_nodes.length,.pv (.int .i64 y185.2.f_first)],.arr 3 (y185.2.f_nodes.map Zn)],([0,1]:List Nat).Nodup]) kr (sound _ _) ⟨(ZR hy184),(IH78 _ _ _ _ hy185),(by decide),trivial⟩ ?_
 refine WA.reg [0,2,4,121,122] [0,1,104] [] (env':=[(0,.val false [.ptr 0 1 0 0]),(2,one (.int .i64 y185.1)),(4,.val false [.ptr 104 1 0 0]),(121,one (.int .i64 v1.f_Min)),(122,one (.int .i64 (w64 (v182+1))))]) (os':=[(0,.box [.arr 1 y185.2.f_nodes.length,.pv (.int .i64 y185.2.f_first)]),(1,.arr 3 (y185.2.f_nodes.map Zn)),(104,.box (pvL (Zd v1)))]) (O:=[]) kr (sound _ _) trivial ?_
 exact ⟨m4,Nat.lt_succ_self _,y185.2,y185.1,(w64 (v182+1)),kr,kr,by rw [hself4] at hF;exact hF⟩ }
  {
 have hF:=Zj hF hb183
 refine WA.exit ?_
 refine WA.seq ?_
 refine WA.reg [6] [0,1] [] (env':=[(6,one (.int .i64 v181))]) (os':=[(0,.box [.arr 1 v180.f_nodes.length,.pv (.int .i64 v180.f_first)]),(1,.arr 3 (v180.f_nodes.map Zn))]) (O:=[]) kr (sound _ _) trivial ?_
 refine WA.ret ?_
 obtain rfl:=Option.some.inj hF
 exact Zp (one (.int .i64 v181)) [.box [.arr 1 v180.f_nodes.length,.pv (.int .i64 v180.f_first)],.arr 3 (v180.f_nodes.map Zn)] kr kr kr kr (by decide) rfl rfl } }
 {
 refine WA.seq ?_
 refine WA.reg [0,2,4,67] [0,1,104] [] (env':=[(0,.val false [.ptr 0 1 0 0]),(2,one (.int .i64 v2)),(4,.val false [.ptr 104 1 0 0]),(67,one (.bool (decide (v1.f_Max<0))))]) (os':=[(0,.box [.arr 1 v0.f_nodes.length,.pv (.int .i64 v0.f_first)]),(1,.arr 3 (v0.f_nodes.map Zn)),(104,.box (pvL (Zd v1)))]) (O:=[]) kr (sound _ _) trivial ?_
 refine WA.cond (b:=(decide (v1.f_Max<0))) rfl (fun hb141=>?_) (fun hb141=>?_)
 {
 have hF:=Zk hF hb141
 refine WA.seq ?_
 obtain ⟨y142,hy142,hF⟩:=bind_some hF
 refine WA.reg [0,4,11] [0,1,104] [(2,.num 0),(4,.call [0,1] (one (.int .i64 y142.1)) [.box [.arr 1 y142.2.f_nodes.length,.pv (.int .i64 y142.2.f_first)],.arr 3 (y142.2.f_nodes.map Zn)] [])] (env':=[(0,.val false [.ptr 0 1 0 0]),(4,.val false [.ptr 104 1 0 0]),(11,one (.int .i64 y142.1))]) (os':=[(0,.box [.arr 1 y142.2.f_nodes.length,.pv (.int .i64 y142.2.f_first)]),(1,.arr 3 (y142.2.f_nodes.map Zn)),(104,.box (pvL (Zd v1)))]) (O:=[Sim Tryz.prog GL0 105 [.val false [.ptr 0 1 0 0],.val true (pvL (Zn (⟨([]:List Zb),false,([v2]:List Int),true⟩:Zw)))] [.box [.arr 1 v0.f_nodes.length,.pv (.int .i64 v0.f_first)],.arr 3 (v0.f_nodes.map Zn)] (one (.int .i64 y142.1)) [.box [.arr 1 y142.2.f_nodes.length,.pv (.int .i64 y142.2.f_first)],.arr 3 (y142.2.f_nodes.map Zn)],([0,1]:List Nat).Nodup]) kr (sound _ _) ⟨(Zf5 k _ _ _ hy142),(by decide),trivial⟩ ?_
 refine WA.seq ?_
 obtain ⟨y143,hy143,hF⟩:=bind_some hF
 obtain ⟨y144,hy144,hF⟩:=bind_some hF
 refine WA.reg [0,4,11,12] [0,1,104] [(3,.cells (Zd y143)),(6,.call [0,1] (one (.int .i64 y144.1)) [.box [.arr 1 y144.2.f_nodes.length,.pv (.int .i64 y144.2.f_first)],.arr 3 (y144.2.f_nodes.map Zn)] [])] (env':=[(0,.val false [.ptr 0 1 0 0]),(4,.val false [.ptr 104 1 0 0]),(11,one (.int .i64 y142.1)),(12,one (.int .i64 y144.1))]) (os':=[(0,.box [.arr 1 y144.2.f_nodes.length,.pv (.int .i64 y144.2.f_first)]),(1,.arr 3 (y144.2.f_nodes.map Zn)),(104,.box (pvL (Zd v1)))]) (O:=[idxL (Zm v1.f_L) 0=some (Zd y143),Sim Tryz.prog GL0 78 [.val false [.ptr 0 1 0 0],.val true (pvL (Zd y143)),one (.int .i64 y142.1)] [.box [.arr 1 y142.2.f_nodes.length,.pv (.int .i64 y142.2.f_first)],.arr 3 (y142.2.f_nodes.map Zn)] (one (.int .i64 y144.1)) [.box [.arr 1 y144.2.f_nodes.length,.pv (.int .i64 y144.2.f_first)],.arr 3 (y144.2.f_nodes.map Zn)],([0,1]:List Nat).Nodup]) kr (sound _ _) ⟨(ZR hy143),(IH78 _ _ _ _ hy144),(by decide),trivial⟩ ?_
 refine WA.seq ?_
 obtain ⟨hc145,hF⟩:=Zo hF
 obtain ⟨y146,hy146,hF⟩:=bind_some hF
 obtain ⟨hx147,hF⟩:=Zo hF
 obtain ⟨hc148,hF⟩:=Zo hF
 obtain ⟨hc149,hF⟩:=Zo hF
 obtain ⟨y150,hy150,hF⟩:=bind_some hF
 have z0:y142.1<((y144.2.f_nodes.length:Nat):Int):=(by have h_:=hc145.2;(try simp only [zl,Zh] at h_ ⊢);omega)
 refine WA.rdm (α:=Nat×(List (List PV))) (raw:=(y144.2.f_nodes.length,((y144.2.f_nodes.map Zn).set (Int.toNat y142.1) [.sl (y150.f_set.map Za),.bool y150.f_some,.sl ((y146.f_next.map (eInt .i64)) ++ (([y144.1]:List Int).map (eInt .i64)))]))) (can:=((y144.2.f_nodes.set (Int.toNat y142.1) ({ y150 with f_next:=(y146.f_next ++ ([y144.1]:List Int)),f_x:=false }:Zw)).length,((y144.2.f_nodes.set (Int.toNat y142.1) ({ y150 with f_next:=(y146.f_next ++ ([y144.1]:List Int)),f_x:=false }:Zw)).map Zn))) (fun m_=>([(0,.val false [.ptr 0 1 0 0]),(4,.val false [.ptr 104 1 0 0]),(11,one (.int .i64 y142.1))],[(0,.box [.arr 1 m_.1,.pv (.int .i64 y144.2.f_first)]),(1,.arr 3 m_.2),(104,.box (pvL (Zd v1)))],[y144.2.f_nodes.length=(y144.2.f_nodes.map Zn).length,(0:Int)≤y142.1,y142.1<((y144.2.f_nodes.length:Nat):Int),y144.2.f_nodes.length=(y144.2.f_nodes.map Zn).length,0<y144.2.f_nodes.length,y144.2.f_nodes.length=(y144.2.f_nodes.map Zn).length,(y144.2.f_nodes.map Zn)[Int.toNat y142.1]?=some [.sl (y146.f_set.map Za),.bool y146.f_some,.slc (y146.f_next.map (eInt .i64))],(y146.f_next.map (eInt .i64)).length+(([y144.1]:List Int).map (eInt .i64)).length≤1073741824,∀es,es∈(y146.f_next.map (eInt .i64))→es.length=1,∀es,es∈(([y144.1]:List Int).map (eInt .i64))→es.length=1,y144.2.f_nodes.length=(y144.2.f_nodes.map Zn).length,(0:Int)≤y142.1,y142.1<((y144.2.f_nodes.length:Nat):Int),y144.2.f_nodes.length=(y144.2.f_nodes.map Zn).length,0<y144.2.f_nodes.length,y144.2.f_nodes.length=(y144.2.f_nodes.map Zn).length,(y144.2.f_nodes.map Zn)[Int.toNat y142.1]?=some (Zn y150)])) (ZE (by first | (simp only [zl,Zh];done) | (simp only [zl,Zh];omega) | omega) (by first | (simp only [zr,Zd5,Zm];done) | (simp only [zq,Zby];done) | (simp only [zq,Zby,Zn,cond];done))) [0,4,11] [0,1,104] [(12,.cells [.sl (y146.f_set.map Za),.bool y146.f_some,.slc (y146.f_next.map (eInt .i64))]),(18,.cells (Zn y150))] kr kr kr (sound _ _) ⟨zt,hc145.1,z0,zt,(by omega),zt,(by have h_:=Zr (Zs Zn hy146);simp only [Zn,hx147,cond] at h_;exact h_),(by first | exact hc148 | (simp only [List.length_map,Zh];exact hc148)),(ZgD _ _ _ (fun _=>rfl)),(ZgD _ _ _ (fun _=>rfl)),zt,hc149.1,z0,zt,(by omega),zt,(Zr (Zs _ hy150)),trivial⟩ ?_
 refine WA.reg [0,2,4] [0,1,104] [] (env':=[(0,.val false [.ptr 0 1 0 0]),(2,one (.int .i64 y142.1)),(4,.val false [.ptr 104 1 0 0])]) (os':=[(0,.box [.arr 1 ((y144.2.f_nodes.set (Int.toNat y142.1) ({ y150 with f_next:=(y146.f_next ++ ([y144.1]:List Int)),f_x:=false }:Zw)).length),.pv (.int .i64 y144.2.f_first)]),(1,.arr 3 ((y144.2.f_nodes.set (Int.toNat y142.1) ({ y150 with f_next:=(y146.f_next ++ ([y144.1]:List Int)),f_x:=false }:Zw)).map Zn)),(104,.box (pvL (Zd v1)))]) (O:=[]) kr (sound _ _) trivial ?_
 exact ⟨({ y144.2 with f_nodes:=(y144.2.f_nodes.set (Int.toNat y142.1) ({ y150 with f_next:=(y146.f_next ++ ([y144.1]:List Int)),f_x:=false }:Zw)) }:Zq),y142.1,kr,kr,hF⟩ }
 {
 have hF:=Zj hF hb141
 refine WA.seq ?_
 refine WA.reg [0,2,4,13] [0,1,104] [] (env':=[(0,.val false [.ptr 0 1 0 0]),(2,one (.int .i64 v2)),(4,.val false [.ptr 104 1 0 0]),(13,one (.int .i64 v2))]) (os':=[(0,.box [.arr 1 v0.f_nodes.length,.pv (.int .i64 v0.f_first)]),(1,.arr 3 (v0.f_nodes.map Zn)),(104,.box (pvL (Zd v1)))]) (O:=[]) kr (sound _ _) trivial ?_
 refine WA.seq ?_
 refine WA.reg [0,2,4,13,104,105] [0,1,104] [] (env':=[(0,.val false [.ptr 0 1 0 0]),(2,one (.int .i64 v2)),(4,.val false [.ptr 104 1 0 0]),(13,one (.int .i64 v2)),(104,one (.int .i64 (w64 (v1.f_Max-v1.f_Min)))),(105,one (.int .i64 0))]) (os':=[(0,.box [.arr 1 v0.f_nodes.length,.pv (.int .i64 v0.f_first)]),(1,.arr 3 (v0.f_nodes.map Zn)),(104,.box (pvL (Zd v1)))]) (O:=[]) kr (sound _ _) trivial ?_
 refine WA.block ?_
 refine WA.loop (fun m s_=>∃(v162:Zq) (v163:Int) (v164:Int),Zl s_.env [0,2,4,13,104,105]=[(0,.val false [.ptr 0 1 0 0]),(2,one (.int .i64 v163)),(4,.val false [.ptr 104 1 0 0]),(13,one (.int .i64 v2)),(104,one (.int .i64 (w64 (v1.f_Max-v1.f_Min)))),(105,one (.int .i64 v164))]∧Zl s_.os [0,1,104]=[(0,.box [.arr 1 v162.f_nodes.length,.pv (.int .i64 v162.f_first)]),(1,.arr 3 (v162.f_nodes.map Zn)),(104,.box (pvL (Zd v1)))]∧ZhL R78 k v1 v2 m v162 v163 v164=some r) k ⟨v0,v2,0,kr,kr,hF⟩ ?_
 clear hF
 rintro m2 s_ ⟨v162,v163,v164,he,ho,hF⟩
 refine WA.keep _ _ he ho ?_
 clear he ho
 cases m2 with
 | zero=>cases hF
 | succ m2=>
  obtain ⟨self2,hself2⟩:∃g,g=ZhL R78 k v1 v2 m2:=⟨_,rfl⟩
  have hF:Zmc R78 k self2 v1 v2 v162 v163 v164=some r:=by first | (rw [hself2];exact hF) | exact hF
  refine WA.seq ?_
  refine WA.reg [0,2,4,13,104,105,106] [0,1,104] [] (env':=[(0,.val false [.ptr 0 1 0 0]),(2,one (.int .i64 v163)),(4,.val false [.ptr 104 1 0 0]),(13,one (.int .i64 v2)),(104,one (.int .i64 (w64 (v1.f_Max-v1.f_Min)))),(105,one (.int .i64 v164)),(106,one (.bool (decide (v164<(w64 (v1.f_Max-v1.f_Min))))))]) (os':=[(0,.box [.arr 1 v162.f_nodes.length,.pv (.int .i64 v162.f_first)]),(1,.arr 3 (v162.f_nodes.map Zn)),(104,.box (pvL (Zd v1)))]) (O:=[]) kr (sound _ _) trivial ?_
  refine WA.seq ?_
  refine WA.cond (b:=(decide (v164<(w64 (v1.f_Max-v1.f_Min))))) rfl (fun hb165=>?_) (fun hb165=>?_)
  {
 have hF:=Zk hF hb165
 refine WA.skip ?_
 refine WA.seq ?_
 refine WA.block ?_
 obtain ⟨y166,hy166,hF⟩:=bind_some hF
 obtain ⟨y167,hy167,hF⟩:=bind_some hF
 obtain ⟨y168,hy168,hF⟩:=bind_some hF
 refine WA.reg [0,2,4,13,104,105] [0,1,104] [(5,.cells (Zd y166)),(8,.call [0,1] (one (.int .i64 y167.1)) [.box [.arr 1 y167.2.f_nodes.length,.pv (.int .i64 y167.2.f_first)],.arr 3 (y167.2.f_nodes.map Zn)] []),(11,.call [0,1] (one (.int .i64 y168.1)) [.box [.arr 1 y168.2.f_nodes.length,.pv (.int .i64 y168.2.f_first)],.arr 3 (y168.2.f_nodes.map Zn)] [])] (env':=[(0,.val false [.ptr 0 1 0 0]),(2,one (.int .i64 y168.1)),(4,.val false [.ptr 104 1 0 0]),(13,one (.int .i64 v2)),(104,one (.int .i64 (w64 (v1.f_Max-v1.f_Min)))),(105,one (.int .i64 v164))]) (os':=[(0,.box [.arr 1 y168.2.f_nodes.length,.pv (.int .i64 y168.2.f_first)]),(1,.arr 3 (y168.2.f_nodes.map Zn)),(104,.box (pvL (Zd v1)))]) (O:=[idxL (Zm v1.f_L) 0=some (Zd y166),Sim Tryz.prog GL0 78 [.val false [.ptr 0 1 0 0],.val true (pvL (Zd y166)),one (.int .i64 v163)] [.box [.arr 1 v162.f_nodes.length,.pv (.int .i64 v162.f_first)],.arr 3 (v162.f_nodes.map Zn)] (one (.int .i64 y167.1)) [.box [.arr 1 y167.2.f_nodes.length,.pv (.int .i64 y167.2.f_first)],.arr 3 (y167.2.f_nodes.map Zn)],([0,1]:List Nat).Nodup,Sim Tryz.prog GL0 105 [.val false [.ptr 0 1 0 0],.val true (pvL (Zn (⟨([]:List Zb),false,([v2,y167.1]:List Int),false⟩:Zw)))] [.box [.arr 1 y167.2.f_nodes.length,.pv (.int .i64 y167.2.f_first)],.arr 3 (y167.2.f_nodes.map Zn)] (one (.int .i64 y168.1)) [.box [.arr 1 y168.2.f_nodes.length,.pv (.int .i64 y168.2.f_first)],.arr 3 (y168.2.f_nodes.map Zn)],([0,1]:List Nat).Nodup]) kr (sound _ _) ⟨(ZR hy166),(IH78 _ _ _ _ hy167),(by decide),(Zf5 k _ _ _ hy168),(by decide),trivial⟩ ?_
 refine WA.reg [0,2,4,13,104,105] [0,1,104] [] (env':=[(0,.val false [.ptr 0 1 0 0]),(2,one (.int .i64 y168.1)),(4,.val false [.ptr 104 1 0 0]),(13,one (.int .i64 v2)),(104,one (.int .i64 (w64 (v1.f_Max-v1.f_Min)))),(105,one (.int .i64 (w64 (v164+1))))]) (os':=[(0,.box [.arr 1 y168.2.f_nodes.length,.pv (.int .i64 y168.2.f_first)]),(1,.arr 3 (y168.2.f_nodes.map Zn)),(104,.box (pvL (Zd v1)))]) (O:=[]) kr (sound _ _) trivial ?_
 exact ⟨m2,Nat.lt_succ_self _,y168.2,y168.1,(w64 (v164+1)),kr,kr,by rw [hself2] at hF;exact hF⟩ }
  {
 have hF:=Zj hF hb165
 refine WA.exit ?_
 exact ⟨v162,v163,kr,kr,hF⟩ } } } } } }
def F78:Nat→Zq→Ze→Int→Option (Int×Zq)
  | 0,_,_,_=>none
  | k+1,v0,v1,v2=>ZnC (F78 k) k v0 v1 v2
theorem Zme:∀(k:Nat),∀(v0:Zq) (v1:Ze) (v2:Int) (r:Int×Zq),F78 k v0 v1 v2=some r→Sim Tryz.prog GL0 78 [.val false [.ptr 0 1 0 0],.val true (pvL (Zd v1)),one (.int .i64 v2)] [.box [.arr 1 v0.f_nodes.length,.pv (.int .i64 v0.f_first)],.arr 3 (v0.f_nodes.map Zn)] (one (.int .i64 r.1)) [.box [.arr 1 r.2.f_nodes.length,.pv (.int .i64 r.2.f_first)],.arr 3 (r.2.f_nodes.map Zn)]
  | 0=>fun _ _ _ _ hF=>by cases hF
  | k+1=>fun v0 v1 v2 r hF=>Zm3 (F78 k) (Zme k) k v0 v1 v2 r hF
end Go.Proofs.YthilboheomikjaaGreatDoor
end
section
namespace Go.Proofs.YthilboheomikjaaGreatDoor
open Go.AL
set_option maxRecDepth 100000
def Zmf (R79:Zq→(List Int)→(List Bool)→Int→Option ((List Int)×(List Bool))) (self1:(List Int)→(List Bool)→Int→Option ((List Int)×(List Bool))) (v0:Zq) (y106:Zw) (v123:List Int) (v124:List Bool) (v127:Int):Option ((List Int)×(List Bool)):=
  (cond (decide (v127<(y106.f_next.length:Int))) ((idxL y106.f_next v127).bind fun y129=>(R79 v0 v123 v124 y129).bind fun y130=>if y130.2.length=v124.length then (self1 y130.1 y130.2 (w64 (v127+1))) else none) (((some (v123,v124)))))
def ZhN (R79:Zq→(List Int)→(List Bool)→Int→Option ((List Int)×(List Bool))) (v0:Zq) (y106:Zw):Nat→(List Int)→(List Bool)→Int→Option ((List Int)×(List Bool))
  | 0,_,_,_=>none
  | m_+1,v123,v124,v127=>Zmf R79 (ZhN R79 v0 y106 m_) v0 y106 v123 v124 v127
def ZjV (R79:Zq→(List Int)→(List Bool)→Int→Option ((List Int)×(List Bool))) (k:Nat) (v0:Zq) (v1:List Int) (v2:List Bool) (v3:Int) (y106:Zw) (v108:Bool):Option ((List Int)×(List Bool)):=
  cond v108 ((ZhN R79 v0 y106 k v1 (v2.set (Int.toNat v3) true) 0)) ((if v1.length+([v3]:List Int).length≤1073741824 then (some ((v1 ++ ([v3]:List Int)),(v2.set (Int.toNat v3) true))) else none))
def ZnD (R79:Zq→(List Int)→(List Bool)→Int→Option ((List Int)×(List Bool))) (k:Nat) (v0:Zq) (v1:List Int) (v2:List Bool) (v3:Int):Option ((List Int)×(List Bool)):=
  (if (0:Int)≤v3∧v3<(v2.length:Int) then (idxL v2 v3).bind fun y102=>(cond y102 ((some (v1,v2))) ((if (0:Int)≤v3∧v3<(v2.length:Int) then (idxL v2 v3).bind fun y105=>(idxL v0.f_nodes v3).bind fun y106=>(cond (!y106.f_some) ((ZjV R79 k v0 v1 v2 v3 y106 (v3 != 0))) ((ZjV R79 k v0 v1 v2 v3 y106 false))) else none))) else none)
theorem Zm4 (R79:Zq→(List Int)→(List Bool)→Int→Option ((List Int)×(List Bool))) (IH79:∀(v0:Zq) (v1:List Int) (v2:List Bool) (v3:Int) (r:(List Int)×(List Bool)),R79 v0 v1 v2 v3=some r→∀{n1:Nat},n1=v1.length→∀{n2:Nat},n2=v2.length→Sim Tryz.prog GL0 79 [.val false [.vp (Zt v0)],.val false [.arr 0 n1],.val false [.arr 1 n2],one (.int .i64 v3)] [.arr 1 (v1.map (eInt .i64)),.arr 1 (v2.map ZF)] (.val false [.arr 0 r.1.length]) [.arr 1 (r.1.map (eInt .i64)),.arr 1 (r.2.map ZF)]) (k:Nat) (v0:Zq) (v1:List Int) (v2:List Bool) (v3:Int) (r:(List Int)×(List Bool)) (hF:ZnD R79 k v0 v1 v2 v3=some r) {n1:Nat} (hn_n1:n1=v1.length) {n2:Nat} (hn_n2:n2=v2.length):Sim Tryz.prog GL0 79 [.val false [.vp (Zt v0)],.val false [.arr 0 n1],.val false [.arr 1 n2],one (.int .i64 v3)] [.arr 1 (v1.map (eInt .i64)),.arr 1 (v2.map ZF)] (.val false [.arr 0 r.1.length]) [.arr 1 (r.1.map (eInt .i64)),.arr 1 (r.2.map ZF)]:=by
 refine ZB [0,1] Tryz.func79 rfl kr kr ?_
 show WA _ _ 52 _ _ _
 refine WA.seq ?_
 refine WA.reg [0,1,2,3] [0,1] [] (env':=[(0,.val false [.vp (Zt v0)]),(1,.val false [.arr 0 n1]),(2,.val false [.arr 1 n2]),(3,one (.int .i64 v3))]) (os':=[(0,.arr 1 (v1.map (eInt .i64))),(1,.arr 1 (v2.map ZF))]) (O:=[]) kr (sound _ _) trivial ?_
 refine WA.seq ?_
 refine WA.seq ?_
 obtain ⟨hc101,hF⟩:=Zo hF
 obtain ⟨y102,hy102,hF⟩:=bind_some hF
 refine WA.reg [0,1,2,3,15] [0,1] [(3,.cells [.bool y102])] (env':=[(0,.val false [.vp (Zt v0)]),(1,.val false [.arr 0 n1]),(2,.val false [.arr 1 n2]),(3,one (.int .i64 v3)),(15,one (.bool y102))]) (os':=[(0,.arr 1 (v1.map (eInt .i64))),(1,.arr 1 (v2.map ZF))]) (O:=[n2=(v2.map ZF).length,(0:Int)≤v3,v3<((n2:Nat):Int),n2=(v2.map ZF).length,(v2.map ZF)[Int.toNat v3]?=some [.bool y102]]) kr (sound _ _) ⟨zt,hc101.1,(by have h_:=hc101.2;(try simp only [zl,Zh] at h_ ⊢);omega),zt,(Zr (Zs _ hy102)),trivial⟩ ?_
 refine WA.cond (b:=y102) rfl (fun hb103=>?_) (fun hb103=>?_)
 {
 have hF:=Zk hF hb103
 refine WA.seq ?_
 refine WA.reg [8] [0,1] [] (env':=[(8,.val false [.arr 0 n1])]) (os':=[(0,.arr 1 (v1.map (eInt .i64))),(1,.arr 1 (v2.map ZF))]) (O:=[]) kr (sound _ _) trivial ?_
 refine WA.ret ?_
 obtain rfl:=Option.some.inj hF
 exact Zp (.val false [.arr 0 n1]) [.arr 1 (v1.map (eInt .i64)),.arr 1 (v2.map ZF)] kr (by have h0_:n1=(v1:List _).length:=zt;rw [h0_] <;> rfl) kr kr (by decide) rfl rfl }
 {
 have hF:=Zj hF hb103
 refine WA.skip ?_
 refine WA.seq ?_
 obtain ⟨hc104,hF⟩:=Zo hF
 obtain ⟨y105,hy105,hF⟩:=bind_some hF
 refine WA.rm (α:=(List (List PV))) (raw:=((v2.map ZF).set (Int.toNat v3) (ZF true))) (can:=((v2.set (Int.toNat v3) true).map ZF)) (fun m_=>([(0,.val false [.vp (Zt v0)]),(1,.val false [.arr 0 n1]),(2,.val false [.arr 1 n2]),(3,one (.int .i64 v3))],[(0,.arr 1 (v1.map (eInt .i64))),(1,.arr 1 m_)],[n2=(v2.map ZF).length,(0:Int)≤v3,v3<((n2:Nat):Int),n2=(v2.map ZF).length,(v2.map ZF)[Int.toNat v3]?=some [.bool y105]])) (zm) [0,1,2,3] [0,1] [(3,.cells [.bool y105])] kr (sound _ _) ⟨zt,hc104.1,(by have h_:=hc104.2;(try simp only [zl,Zh] at h_ ⊢);omega),zt,(Zr (Zs _ hy105)),trivial⟩ ?_
 refine WA.seq ?_
 refine WA.seq ?_
 obtain ⟨y106,hy106,hF⟩:=bind_some hF
 refine WA.reg [0,1,2,3,9] [0,1,109] [(5,.cells (ZI y106)),(7,.obj 109)] (env':=[(0,.val false [.vp (Zt v0)]),(1,.val false [.arr 0 n1]),(2,.val false [.arr 1 n2]),(3,one (.int .i64 v3)),(9,.val false [.ptr 109 1 0 0])]) (os':=[(0,.arr 1 (v1.map (eInt .i64))),(1,.arr 1 ((v2.set (Int.toNat v3) true).map ZF)),(109,.box (pvL (ZI y106)))]) (O:=[idxL (v0.f_nodes.map ZI) v3=some (ZI y106)]) kr (sound _ _) ⟨(Zs _ hy106),trivial⟩ ?_
 refine WA.join (fun s_=>∃(v108:Bool),Zl s_.env [0,1,2,3,9,33]=[(0,.val false [.vp (Zt v0)]),(1,.val false [.arr 0 n1]),(2,.val false [.arr 1 n2]),(3,one (.int .i64 v3)),(9,.val false [.ptr 109 1 0 0]),(33,one (.bool v108))]∧Zl s_.os [0,1,109]=[(0,.arr 1 (v1.map (eInt .i64))),(1,.arr 1 ((v2.set (Int.toNat v3) true).map ZF)),(109,.box (pvL (ZI y106)))]∧ZjV R79 k v0 v1 v2 v3 y106 v108=some r) ?_ ?_
 {
 rintro s_ ⟨v108,he,ho,hF⟩
 refine WA.keep _ _ he ho ?_
 clear he ho
 refine WA.cond (b:=v108) rfl (fun hb109=>?_) (fun hb109=>?_)
 {
 have hF:=Zk hF hb109
 refine WA.seq ?_
 refine WA.seq ?_
 refine WA.rm (α:=Int) (raw:=((y106.f_next.map (eInt .i64)).length:Int)) (can:=(y106.f_next.length:Int)) (fun m_=>([(0,.val false [.vp (Zt v0)]),(1,.val false [.arr 0 n1]),(2,.val false [.arr 1 n2]),(35,one (.sl (y106.f_next.map (eInt .i64)))),(36,one (.int .i64 m_)),(37,one (.int .i64 0))],[(0,.arr 1 (v1.map (eInt .i64))),(1,.arr 1 ((v2.set (Int.toNat v3) true).map ZF))],[])) ((by first | (simp only [zl,Zh];done) | (simp only [zl,Zh];omega) | omega)) [0,1,2,35,36,37] [0,1] [] kr (sound _ _) trivial ?_
 refine WA.block ?_
 refine WA.loop (fun m s_=>∃(v123:List Int) (v124:List Bool) (v125:Nat) (v126:Nat) (v127:Int),Zl s_.env [0,1,2,35,36,37]=[(0,.val false [.vp (Zt v0)]),(1,.val false [.arr 0 v125]),(2,.val false [.arr 1 v126]),(35,one (.sl (y106.f_next.map (eInt .i64)))),(36,one (.int .i64 (y106.f_next.length:Int))),(37,one (.int .i64 v127))]∧Zl s_.os [0,1]=[(0,.arr 1 (v123.map (eInt .i64))),(1,.arr 1 (v124.map ZF))]∧v125=(v123:List _).length∧v126=(v124:List _).length∧ZhN R79 v0 y106 m v123 v124 v127=some r) k ⟨v1,(v2.set (Int.toNat v3) true),n1,n2,0,kr,kr,zt,zt,hF⟩ ?_
 clear hF
 rintro m1 s_ ⟨v123,v124,v125,v126,v127,he,ho,hn_v125,hn_v126,hF⟩
 refine WA.keep _ _ he ho ?_
 clear he ho
 cases m1 with
 | zero=>cases hF
 | succ m1=>
  obtain ⟨self1,hself1⟩:∃g,g=ZhN R79 v0 y106 m1:=⟨_,rfl⟩
  have hF:Zmf R79 self1 v0 y106 v123 v124 v127=some r:=by first | (rw [hself1];exact hF) | exact hF
  refine WA.seq ?_
  refine WA.reg [0,1,2,35,36,37,38] [0,1] [] (env':=[(0,.val false [.vp (Zt v0)]),(1,.val false [.arr 0 v125]),(2,.val false [.arr 1 v126]),(35,one (.sl (y106.f_next.map (eInt .i64)))),(36,one (.int .i64 (y106.f_next.length:Int))),(37,one (.int .i64 v127)),(38,one (.bool (decide (v127<(y106.f_next.length:Int)))))]) (os':=[(0,.arr 1 (v123.map (eInt .i64))),(1,.arr 1 (v124.map ZF))]) (O:=[]) kr (sound _ _) trivial ?_
  refine WA.seq ?_
  refine WA.cond (b:=(decide (v127<(y106.f_next.length:Int)))) rfl (fun hb128=>?_) (fun hb128=>?_)
  {
 have hF:=Zk hF hb128
 refine WA.skip ?_
 refine WA.seq ?_
 refine WA.block ?_
 refine WA.seq ?_
 obtain ⟨y129,hy129,hF⟩:=bind_some hF
 refine WA.reg [0,1,2,11,35,36,37] [0,1] [(0,.cells [.int .i64 y129])] (env':=[(0,.val false [.vp (Zt v0)]),(1,.val false [.arr 0 v125]),(2,.val false [.arr 1 v126]),(11,one (.int .i64 y129)),(35,one (.sl (y106.f_next.map (eInt .i64)))),(36,one (.int .i64 (y106.f_next.length:Int))),(37,one (.int .i64 v127))]) (os':=[(0,.arr 1 (v123.map (eInt .i64))),(1,.arr 1 (v124.map ZF))]) (O:=[idxL (y106.f_next.map (eInt .i64)) v127=some [.int .i64 y129]]) kr (sound _ _) ⟨(Zs _ hy129),trivial⟩ ?_
 obtain ⟨y130,hy130,hF⟩:=bind_some hF
 obtain ⟨hl131,hF⟩:=Zo hF
 refine WA.reg [0,1,2,35,36,37] [0,1] [(4,.call [0,1] (.val false [.arr 0 y130.1.length]) [.arr 1 (y130.1.map (eInt .i64)),.arr 1 (y130.2.map ZF)] [])] (env':=[(0,.val false [.vp (Zt v0)]),(1,.val false [.arr 0 y130.1.length]),(2,.val false [.arr 1 v126]),(35,one (.sl (y106.f_next.map (eInt .i64)))),(36,one (.int .i64 (y106.f_next.length:Int))),(37,one (.int .i64 v127))]) (os':=[(0,.arr 1 (y130.1.map (eInt .i64))),(1,.arr 1 (y130.2.map ZF))]) (O:=[Sim Tryz.prog GL0 79 [.val false [.vp (Zt v0)],.val false [.arr 0 v125],.val false [.arr 1 v126],one (.int .i64 y129)] [.arr 1 (v123.map (eInt .i64)),.arr 1 (v124.map ZF)] (.val false [.arr 0 y130.1.length]) [.arr 1 (y130.1.map (eInt .i64)),.arr 1 (y130.2.map ZF)],([0,1]:List Nat).Nodup]) kr (sound _ _) ⟨(IH79 _ _ _ _ _ hy130 (n1:=v125) zt (n2:=v126) zt),(by decide),trivial⟩ ?_
 refine WA.reg [0,1,2,35,36,37] [0,1] [] (env':=[(0,.val false [.vp (Zt v0)]),(1,.val false [.arr 0 y130.1.length]),(2,.val false [.arr 1 v126]),(35,one (.sl (y106.f_next.map (eInt .i64)))),(36,one (.int .i64 (y106.f_next.length:Int))),(37,one (.int .i64 (w64 (v127+1))))]) (os':=[(0,.arr 1 (y130.1.map (eInt .i64))),(1,.arr 1 (y130.2.map ZF))]) (O:=[]) kr (sound _ _) trivial ?_
 exact ⟨m1,Nat.lt_succ_self _,y130.1,y130.2,y130.1.length,v126,(w64 (v127+1)),kr,kr,zt,zt,by rw [hself1] at hF;exact hF⟩ }
  {
 have hF:=Zj hF hb128
 refine WA.exit ?_
 refine WA.seq ?_
 refine WA.reg [8] [0,1] [] (env':=[(8,.val false [.arr 0 v125])]) (os':=[(0,.arr 1 (v123.map (eInt .i64))),(1,.arr 1 (v124.map ZF))]) (O:=[]) kr (sound _ _) trivial ?_
 refine WA.ret ?_
 obtain rfl:=Option.some.inj hF
 exact Zp (.val false [.arr 0 v125]) [.arr 1 (v123.map (eInt .i64)),.arr 1 (v124.map ZF)] kr (by have h0_:v125=(v123:List _).length:=zt;rw [h0_] <;> rfl) kr kr (by decide) rfl rfl } }
 {
 have hF:=Zj hF hb109
 refine WA.skip ?_
 refine WA.seq ?_
 obtain ⟨hc132,hF⟩:=Zo hF
 refine WA.rm (α:=(List (List PV))) (raw:=((v1.map (eInt .i64)) ++ (([v3]:List Int).map (eInt .i64)))) (can:=((v1 ++ ([v3]:List Int)).map (eInt .i64))) (fun m_=>([(8,.val false [.arr 0 (n1+1)])],[(0,.arr 1 m_),(1,.arr 1 ((v2.set (Int.toNat v3) true).map ZF))],[n1=(v1.map (eInt .i64)).length,(v1.map (eInt .i64)).length+(([v3]:List Int).map (eInt .i64)).length≤1073741824,∀es,es∈(([v3]:List Int).map (eInt .i64))→es.length=1])) (zm) [8] [0,1] [] kr (sound _ _) ⟨zt,(by first | exact hc132 | (simp only [List.length_map,Zh];exact hc132)),(ZgD _ _ _ (fun _=>rfl)),trivial⟩ ?_
 refine WA.ret ?_
 obtain rfl:=Option.some.inj hF
 exact Zp (.val false [.arr 0 (n1+1)]) [.arr 1 ((v1 ++ ([v3]:List Int)).map (eInt .i64)),.arr 1 ((v2.set (Int.toNat v3) true).map ZF)] kr (by have h0_:(n1+1)=((v1 ++ ([v3]:List Int)):List _).length:=zt;rw [h0_] <;> rfl) kr kr (by decide) rfl rfl } }
 {
 rcases Bool.eq_false_or_eq_true (!y106.f_some) with hb107 | hb107
 {
 have hF:=Zk hF hb107
 refine WA.reg [0,1,2,3,9,33] [0,1,109] [(3,.bool true)] (env':=[(0,.val false [.vp (Zt v0)]),(1,.val false [.arr 0 n1]),(2,.val false [.arr 1 n2]),(3,one (.int .i64 v3)),(9,.val false [.ptr 109 1 0 0]),(33,one (.bool (v3 != 0)))]) (os':=[(0,.arr 1 (v1.map (eInt .i64))),(1,.arr 1 ((v2.set (Int.toNat v3) true).map ZF)),(109,.box (pvL (ZI y106)))]) (O:=[(!y106.f_some)=true]) kr (sound _ _) ⟨hb107,trivial⟩ ?_
 exact ⟨(v3 != 0),kr,kr,hF⟩ }
 {
 have hF:=Zj hF hb107
 refine WA.reg [0,1,2,3,9,33] [0,1,109] [(3,.bool false)] (env':=[(0,.val false [.vp (Zt v0)]),(1,.val false [.arr 0 n1]),(2,.val false [.arr 1 n2]),(3,one (.int .i64 v3)),(9,.val false [.ptr 109 1 0 0]),(33,one (.bool false))]) (os':=[(0,.arr 1 (v1.map (eInt .i64))),(1,.arr 1 ((v2.set (Int.toNat v3) true).map ZF)),(109,.box (pvL (ZI y106)))]) (O:=[(!y106.f_some)=false]) kr (sound _ _) ⟨hb107,trivial⟩ ?_
 exact ⟨false,kr,kr,hF⟩ } } }
def F79:Nat→Zq→(List Int)→(List Bool)→Int→Option ((List Int)×(List Bool))
  | 0,_,_,_,_=>none
  | k+1,v0,v1,v2,v3=>ZnD (F79 k) k v0 v1 v2 v3
theorem ZjW:∀(k:Nat),∀(v0:Zq) (v1:List Int) (v2:List Bool) (v3:Int) (r:(List Int)×(List Bool)),F79 k v0 v1 v2 v3=some r→∀{n1:Nat},n1=v1.length→∀{n2:Nat},n2=v2.length→Sim Tryz.prog GL0 79 [.val false [.vp (Zt v0)],.val false [.arr 0 n1],.val false [.arr 1 n2],one (.int .i64 v3)] [.arr 1 (v1.map (eInt .i64)),.arr 1 (v2.map ZF)] (.val false [.arr 0 r.1.length]) [.arr 1 (r.1.map (eInt .i64)),.arr 1 (r.2.map ZF)]
  | 0=>fun _ _ _ _ _ hF=>by cases hF
  | k+1=>fun v0 v1 v2 v3 r hF=>Zm4 (F79 k) (ZjW k) k v0 v1 v2 v3 r hF
def Ziz (self19:(List Int)→(List Bool)→Int→Option (List Int)) (v254:Int) (v264:List Int) (v265:List Bool):Option (List Int):=
  self19 v264 v265 (w64 (v254+1))
def Ziy (k:Nat) (self19:(List Int)→(List Bool)→Int→Option (List Int)) (v0:Zq) (y217:Int) (v250:List Int) (v251:List Bool) (v254:Int) (v258:Bool):Option (List Int):=
  cond v258 ((idxL v0.f_nodes y217).bind fun y260=>(idxL y260.f_next 0).bind fun y261=>(F79 k v0 v250 v251 y261).bind fun y262=>if y262.2.length=v251.length then (Ziz self19 v254 y262.1 y262.2) else none) ((Ziz self19 v254 v250 v251))
def Zla (k:Nat) (self14:(List Int)→(List Bool)→Int→Option (List Int)) (self19:(List Int)→(List Bool)→Int→Option (List Int)) (v0:Zq) (v2:Int) (v215:Int) (y217:Int) (y218:Zw) (v250:List Int) (v251:List Bool) (v254:Int):Option (List Int):=
  (cond (decide (v254<(y218.f_set.length:Int))) ((idxL y218.f_set v254).bind fun y256=>(cond (decide (v2≥y256.f_Lo)) ((Ziy k self19 v0 y217 v250 v251 v254 (decide (v2≤y256.f_Hi)))) ((Ziy k self19 v0 y217 v250 v251 v254 false)))) ((self14 v250 v251 (w64 (v215+1)))))
def Zgx (k:Nat) (self14:(List Int)→(List Bool)→Int→Option (List Int)) (v0:Zq) (v2:Int) (v215:Int) (y217:Int) (y218:Zw):Nat→(List Int)→(List Bool)→Int→Option (List Int)
  | 0,_,_,_=>none
  | m_+1,v250,v251,v254=>Zla k self14 (Zgx k self14 v0 v2 v215 y217 y218 m_) v0 v2 v215 y217 y218 v250 v251 v254
def Zk9 (k:Nat) (self14:(List Int)→(List Bool)→Int→Option (List Int)) (v0:Zq) (v1:List Int) (v2:Int) (v211:List Int) (v212:List Bool) (v215:Int):Option (List Int):=
  (cond (decide (v215<(v1.length:Int))) ((idxL v1 v215).bind fun y217=>(idxL v0.f_nodes y217).bind fun y218=>(Zgx k self14 v0 v2 v215 y217 y218 k v211 v212 0)) (((some v211))))
def Zgw (k:Nat) (v0:Zq) (v1:List Int) (v2:Int):Nat→(List Int)→(List Bool)→Int→Option (List Int)
  | 0,_,_,_=>none
  | m_+1,v211,v212,v215=>Zk9 k (Zgw k v0 v1 v2 m_) v0 v1 v2 v211 v212 v215
def F56 (k:Nat) (v0:Zq) (v1:List Int) (v2:Int):Option (List Int):=
  ((if (0:Int)≤(v0.f_nodes.length:Int)∧((v0.f_nodes.length:Int):Int)≤1073741824 then ((Zgw k v0 v1 v2 k ([]:List Int) (List.replicate (Int.toNat (v0.f_nodes.length:Int)) false) 0)) else none))
theorem ZoI (k:Nat) (v0:Zq) (v1:List Int) (v2:Int) (r:List Int) (hF:F56 k v0 v1 v2=some r):Sim Tryz.prog GL0 56 [.val false [.vp (Zt v0)],one (.sl (v1.map (eInt .i64))),one (.int .i64 v2)] [] (one (.sl (r.map (eInt .i64)))) []:=by
 refine ZB [] Tryz.func56 rfl kr kr ?_
 show WA _ _ 65 _ _ _
 refine WA.seq ?_
 refine WA.reg [0,1,2] [] [] (env':=[(0,.val false [.vp (Zt v0)]),(1,one (.sl (v1.map (eInt .i64)))),(2,one (.int .i64 v2))]) (os':=[]) (O:=[]) kr (sound _ _) trivial ?_
 refine WA.seq ?_
 refine WA.reg [0,1,2,7] [107] [(0,.obj 107)] (env':=[(0,.val false [.vp (Zt v0)]),(1,one (.sl (v1.map (eInt .i64)))),(2,one (.int .i64 v2)),(7,.val false [.arr 107 0])]) (os':=[(107,.arr 1 (([]:List Int).map (eInt .i64)))]) (O:=[]) kr (sound _ _) trivial ?_
 refine WA.seq ?_
 obtain ⟨hc101,hF⟩:=Zo hF
 refine WA.rm (α:=Int×(List (List PV))) (raw:=(((v0.f_nodes.map ZI).length:Int),(List.replicate (Int.toNat ((v0.f_nodes.map ZI).length:Int)) (ZF false)))) (can:=((v0.f_nodes.length:Int),((List.replicate (Int.toNat (v0.f_nodes.length:Int)) false).map ZF))) (fun m_=>([(0,.val false [.vp (Zt v0)]),(1,one (.sl (v1.map (eInt .i64)))),(2,one (.int .i64 v2)),(7,.val false [.arr 107 0]),(8,.val false [.arr 118 (Int.toNat m_.1)])],[(107,.arr 1 (([]:List Int).map (eInt .i64))),(118,.arr 1 m_.2)],[(m_.1:Int)=m_.1,(0:Int)≤m_.1,(m_.1:Int)≤1073741824])) (ZE (by first | (simp only [zl,Zh];done) | (simp only [zl,Zh];omega) | omega) zm) [0,1,2,7,8] [107,118] [(5,.obj 118)] kr (sound _ _) ⟨rfl,hc101.1,hc101.2,trivial⟩ ?_
 refine WA.seq ?_
 refine WA.seq ?_
 refine WA.rm (α:=Int) (raw:=((v1.map (eInt .i64)).length:Int)) (can:=(v1.length:Int)) (fun m_=>([(0,.val false [.vp (Zt v0)]),(2,one (.int .i64 v2)),(7,.val false [.arr 107 0]),(8,.val false [.arr 118 (Int.toNat (v0.f_nodes.length:Int))]),(19,one (.sl (v1.map (eInt .i64)))),(20,one (.int .i64 m_)),(21,one (.int .i64 0))],[(107,.arr 1 (([]:List Int).map (eInt .i64))),(118,.arr 1 ((List.replicate (Int.toNat (v0.f_nodes.length:Int)) false).map ZF))],[])) ((by first | (simp only [zl,Zh];done) | (simp only [zl,Zh];omega) | omega)) [0,2,7,8,19,20,21] [107,118] [] kr (sound _ _) trivial ?_
 refine WA.block ?_
 refine WA.loop (fun m s_=>∃(v211:List Int) (v212:List Bool) (v213:Nat) (v214:Nat) (v215:Int),Zl s_.env [0,2,7,8,19,20,21]=[(0,.val false [.vp (Zt v0)]),(2,one (.int .i64 v2)),(7,.val false [.arr 107 v213]),(8,.val false [.arr 118 v214]),(19,one (.sl (v1.map (eInt .i64)))),(20,one (.int .i64 (v1.length:Int))),(21,one (.int .i64 v215))]∧Zl s_.os [107,118]=[(107,.arr 1 (v211.map (eInt .i64))),(118,.arr 1 (v212.map ZF))]∧v213=(v211:List _).length∧v214=(v212:List _).length∧Zgw k v0 v1 v2 m v211 v212 v215=some r) k ⟨([]:List Int),(List.replicate (Int.toNat (v0.f_nodes.length:Int)) false),0,(Int.toNat (v0.f_nodes.length:Int)),0,kr,kr,zt,zt,hF⟩ ?_
 clear hF
 rintro m14 s_ ⟨v211,v212,v213,v214,v215,he,ho,hn_v213,hn_v214,hF⟩
 refine WA.keep _ _ he ho ?_
 clear he ho
 cases m14 with
 | zero=>cases hF
 | succ m14=>
  obtain ⟨self14,hself14⟩:∃g,g=Zgw k v0 v1 v2 m14:=⟨_,rfl⟩
  have hF:Zk9 k self14 v0 v1 v2 v211 v212 v215=some r:=by first | (rw [hself14];exact hF) | exact hF
  refine WA.seq ?_
  refine WA.reg [0,2,7,8,19,20,21,22] [107,118] [] (env':=[(0,.val false [.vp (Zt v0)]),(2,one (.int .i64 v2)),(7,.val false [.arr 107 v213]),(8,.val false [.arr 118 v214]),(19,one (.sl (v1.map (eInt .i64)))),(20,one (.int .i64 (v1.length:Int))),(21,one (.int .i64 v215)),(22,one (.bool (decide (v215<(v1.length:Int)))))]) (os':=[(107,.arr 1 (v211.map (eInt .i64))),(118,.arr 1 (v212.map ZF))]) (O:=[]) kr (sound _ _) trivial ?_
  refine WA.seq ?_
  refine WA.cond (b:=(decide (v215<(v1.length:Int)))) rfl (fun hb216=>?_) (fun hb216=>?_)
  {
 have hF:=Zk hF hb216
 refine WA.skip ?_
 refine WA.seq ?_
 refine WA.block ?_
 refine WA.seq ?_
 obtain ⟨y217,hy217,hF⟩:=bind_some hF
 refine WA.reg [0,2,7,8,10,19,20,21] [107,118] [(0,.cells [.int .i64 y217])] (env':=[(0,.val false [.vp (Zt v0)]),(2,one (.int .i64 v2)),(7,.val false [.arr 107 v213]),(8,.val false [.arr 118 v214]),(10,one (.int .i64 y217)),(19,one (.sl (v1.map (eInt .i64)))),(20,one (.int .i64 (v1.length:Int))),(21,one (.int .i64 v215))]) (os':=[(107,.arr 1 (v211.map (eInt .i64))),(118,.arr 1 (v212.map ZF))]) (O:=[idxL (v1.map (eInt .i64)) v215=some [.int .i64 y217]]) kr (sound _ _) ⟨(Zs _ hy217),trivial⟩ ?_
 refine WA.seq ?_
 obtain ⟨y218,hy218,hF⟩:=bind_some hF
 refine WA.rm (α:=Int) (raw:=((y218.f_set.map Za).length:Int)) (can:=(y218.f_set.length:Int)) (fun m_=>([(0,.val false [.vp (Zt v0)]),(2,one (.int .i64 v2)),(7,.val false [.arr 107 v213]),(8,.val false [.arr 118 v214]),(10,one (.int .i64 y217)),(19,one (.sl (v1.map (eInt .i64)))),(20,one (.int .i64 (v1.length:Int))),(21,one (.int .i64 v215)),(32,one (.sl (y218.f_set.map Za))),(33,one (.int .i64 m_)),(34,one (.int .i64 0))],[(107,.arr 1 (v211.map (eInt .i64))),(118,.arr 1 (v212.map ZF))],[idxL (v0.f_nodes.map ZI) y217=some (ZI y218)])) ((by first | (simp only [zl,Zh];done) | (simp only [zl,Zh];omega) | omega)) [0,2,7,8,10,19,20,21,32,33,34] [107,118] [(5,.cells (ZI y218))] kr (sound _ _) ⟨(Zs _ hy218),trivial⟩ ?_
 refine WA.block ?_
 refine WA.loop (fun m s_=>∃(v250:List Int) (v251:List Bool) (v252:Nat) (v253:Nat) (v254:Int),Zl s_.env [0,2,7,8,10,19,20,21,32,33,34]=[(0,.val false [.vp (Zt v0)]),(2,one (.int .i64 v2)),(7,.val false [.arr 107 v252]),(8,.val false [.arr 118 v253]),(10,one (.int .i64 y217)),(19,one (.sl (v1.map (eInt .i64)))),(20,one (.int .i64 (v1.length:Int))),(21,one (.int .i64 v215)),(32,one (.sl (y218.f_set.map Za))),(33,one (.int .i64 (y218.f_set.length:Int))),(34,one (.int .i64 v254))]∧Zl s_.os [107,118]=[(107,.arr 1 (v250.map (eInt .i64))),(118,.arr 1 (v251.map ZF))]∧v252=(v250:List _).length∧v253=(v251:List _).length∧Zgx k self14 v0 v2 v215 y217 y218 m v250 v251 v254=some r) k ⟨v211,v212,v213,v214,0,kr,kr,zt,zt,hF⟩ ?_
 clear hF
 rintro m19 s_ ⟨v250,v251,v252,v253,v254,he,ho,hn_v252,hn_v253,hF⟩
 refine WA.keep _ _ he ho ?_
 clear he ho
 cases m19 with
 | zero=>cases hF
 | succ m19=>
  obtain ⟨self19,hself19⟩:∃g,g=Zgx k self14 v0 v2 v215 y217 y218 m19:=⟨_,rfl⟩
  have hF:Zla k self14 self19 v0 v2 v215 y217 y218 v250 v251 v254=some r:=by first | (rw [hself19];exact hF) | exact hF
  refine WA.seq ?_
  refine WA.reg [0,2,7,8,10,19,20,21,32,33,34,35] [107,118] [] (env':=[(0,.val false [.vp (Zt v0)]),(2,one (.int .i64 v2)),(7,.val false [.arr 107 v252]),(8,.val false [.arr 118 v253]),(10,one (.int .i64 y217)),(19,one (.sl (v1.map (eInt .i64)))),(20,one (.int .i64 (v1.length:Int))),(21,one (.int .i64 v215)),(32,one (.sl (y218.f_set.map Za))),(33,one (.int .i64 (y218.f_set.length:Int))),(34,one (.int .i64 v254)),(35,one (.bool (decide (v254<(y218.f_set.length:Int)))))]) (os':=[(107,.arr 1 (v250.map (eInt .i64))),(118,.arr 1 (v251.map ZF))]) (O:=[]) kr (sound _ _) trivial ?_
  refine WA.seq ?_
  refine WA.cond (b:=(decide (v254<(y218.f_set.length:Int)))) rfl (fun hb255=>?_) (fun hb255=>?_)
  {
 have hF:=Zk hF hb255
 refine WA.skip ?_
 refine WA.join (fun s_=>∃(v264:List Int) (v265:List Bool) (v266:Nat) (v267:Nat),Zl s_.env [0,2,7,8,10,19,20,21,32,33,34]=[(0,.val false [.vp (Zt v0)]),(2,one (.int .i64 v2)),(7,.val false [.arr 107 v266]),(8,.val false [.arr 118 v267]),(10,one (.int .i64 y217)),(19,one (.sl (v1.map (eInt .i64)))),(20,one (.int .i64 (v1.length:Int))),(21,one (.int .i64 v215)),(32,one (.sl (y218.f_set.map Za))),(33,one (.int .i64 (y218.f_set.length:Int))),(34,one (.int .i64 v254))]∧Zl s_.os [107,118]=[(107,.arr 1 (v264.map (eInt .i64))),(118,.arr 1 (v265.map ZF))]∧v266=(v264:List _).length∧v267=(v265:List _).length∧Ziz self19 v254 v264 v265=some r) ?_ ?_
 {
 rintro s_ ⟨v264,v265,v266,v267,he,ho,hn_v266,hn_v267,hF⟩
 refine WA.keep _ _ he ho ?_
 clear he ho
 refine WA.reg [0,2,7,8,10,19,20,21,32,33,34] [107,118] [] (env':=[(0,.val false [.vp (Zt v0)]),(2,one (.int .i64 v2)),(7,.val false [.arr 107 v266]),(8,.val false [.arr 118 v267]),(10,one (.int .i64 y217)),(19,one (.sl (v1.map (eInt .i64)))),(20,one (.int .i64 (v1.length:Int))),(21,one (.int .i64 v215)),(32,one (.sl (y218.f_set.map Za))),(33,one (.int .i64 (y218.f_set.length:Int))),(34,one (.int .i64 (w64 (v254+1))))]) (os':=[(107,.arr 1 (v264.map (eInt .i64))),(118,.arr 1 (v265.map ZF))]) (O:=[]) kr (sound _ _) trivial ?_
 exact ⟨m19,Nat.lt_succ_self _,v264,v265,v266,v267,(w64 (v254+1)),kr,kr,zt,zt,by rw [hself19] at hF;exact hF⟩ }
 {
 refine WA.block ?_
 refine WA.seq ?_
 obtain ⟨y256,hy256,hF⟩:=bind_some hF
 refine WA.reg [0,2,7,8,10,12,19,20,21,32,33,34] [107,112,118] [(0,.cells (Za y256)),(2,.obj 112)] (env':=[(0,.val false [.vp (Zt v0)]),(2,one (.int .i64 v2)),(7,.val false [.arr 107 v252]),(8,.val false [.arr 118 v253]),(10,one (.int .i64 y217)),(12,.val false [.ptr 112 1 0 0]),(19,one (.sl (v1.map (eInt .i64)))),(20,one (.int .i64 (v1.length:Int))),(21,one (.int .i64 v215)),(32,one (.sl (y218.f_set.map Za))),(33,one (.int .i64 (y218.f_set.length:Int))),(34,one (.int .i64 v254))]) (os':=[(107,.arr 1 (v250.map (eInt .i64))),(112,.box (pvL (Za y256))),(118,.arr 1 (v251.map ZF))]) (O:=[idxL (y218.f_set.map Za) v254=some (Za y256)]) kr (sound _ _) ⟨(Zs _ hy256),trivial⟩ ?_
 refine WA.join (fun s_=>∃(v258:Bool),Zl s_.env [0,2,7,8,10,19,20,21,32,33,34,47]=[(0,.val false [.vp (Zt v0)]),(2,one (.int .i64 v2)),(7,.val false [.arr 107 v252]),(8,.val false [.arr 118 v253]),(10,one (.int .i64 y217)),(19,one (.sl (v1.map (eInt .i64)))),(20,one (.int .i64 (v1.length:Int))),(21,one (.int .i64 v215)),(32,one (.sl (y218.f_set.map Za))),(33,one (.int .i64 (y218.f_set.length:Int))),(34,one (.int .i64 v254)),(47,one (.bool v258))]∧Zl s_.os [107,118]=[(107,.arr 1 (v250.map (eInt .i64))),(118,.arr 1 (v251.map ZF))]∧Ziy k self19 v0 y217 v250 v251 v254 v258=some r) ?_ ?_
 {
 rintro s_ ⟨v258,he,ho,hF⟩
 refine WA.keep _ _ he ho ?_
 clear he ho
 refine WA.cond (b:=v258) rfl (fun hb259=>?_) (fun hb259=>?_)
 {
 have hF:=Zk hF hb259
 obtain ⟨y260,hy260,hF⟩:=bind_some hF
 obtain ⟨y261,hy261,hF⟩:=bind_some hF
 obtain ⟨y262,hy262,hF⟩:=bind_some hF
 obtain ⟨hl263,hF⟩:=Zo hF
 refine WA.reg [0,2,7,8,10,19,20,21,32,33,34] [107,118] [(8,.cells (ZI y260)),(11,.cells [.int .i64 y261]),(13,.call [107,118] (.val false [.arr 0 y262.1.length]) [.arr 1 (y262.1.map (eInt .i64)),.arr 1 (y262.2.map ZF)] [])] (env':=[(0,.val false [.vp (Zt v0)]),(2,one (.int .i64 v2)),(7,.val false [.arr 107 y262.1.length]),(8,.val false [.arr 118 v253]),(10,one (.int .i64 y217)),(19,one (.sl (v1.map (eInt .i64)))),(20,one (.int .i64 (v1.length:Int))),(21,one (.int .i64 v215)),(32,one (.sl (y218.f_set.map Za))),(33,one (.int .i64 (y218.f_set.length:Int))),(34,one (.int .i64 v254))]) (os':=[(107,.arr 1 (y262.1.map (eInt .i64))),(118,.arr 1 (y262.2.map ZF))]) (O:=[idxL (v0.f_nodes.map ZI) y217=some (ZI y260),idxL (y260.f_next.map (eInt .i64)) 0=some [.int .i64 y261],Sim Tryz.prog GL0 79 [.val false [.vp (Zt v0)],.val false [.arr 0 v252],.val false [.arr 1 v253],one (.int .i64 y261)] [.arr 1 (v250.map (eInt .i64)),.arr 1 (v251.map ZF)] (.val false [.arr 0 y262.1.length]) [.arr 1 (y262.1.map (eInt .i64)),.arr 1 (y262.2.map ZF)],([107,118]:List Nat).Nodup]) kr (sound _ _) ⟨(Zs _ hy260),(Zs _ hy261),(ZjW k _ _ _ _ _ hy262 (n1:=v252) zt (n2:=v253) zt),(by decide),trivial⟩ ?_
 exact ⟨y262.1,y262.2,y262.1.length,v253,kr,kr,zt,zt,hF⟩ }
 {
 have hF:=Zj hF hb259
 refine WA.skip ?_
 exact ⟨v250,v251,v252,v253,kr,kr,zt,zt,hF⟩ } }
 {
 rcases Bool.eq_false_or_eq_true (decide (v2≥y256.f_Lo)) with hb257 | hb257
 {
 have hF:=Zk hF hb257
 refine WA.reg [0,2,7,8,10,19,20,21,32,33,34,47] [107,118] [(4,.bool true)] (env':=[(0,.val false [.vp (Zt v0)]),(2,one (.int .i64 v2)),(7,.val false [.arr 107 v252]),(8,.val false [.arr 118 v253]),(10,one (.int .i64 y217)),(19,one (.sl (v1.map (eInt .i64)))),(20,one (.int .i64 (v1.length:Int))),(21,one (.int .i64 v215)),(32,one (.sl (y218.f_set.map Za))),(33,one (.int .i64 (y218.f_set.length:Int))),(34,one (.int .i64 v254)),(47,one (.bool (decide (v2≤y256.f_Hi))))]) (os':=[(107,.arr 1 (v250.map (eInt .i64))),(118,.arr 1 (v251.map ZF))]) (O:=[(decide (v2≥y256.f_Lo))=true]) kr (sound _ _) ⟨hb257,trivial⟩ ?_
 exact ⟨(decide (v2≤y256.f_Hi)),kr,kr,hF⟩ }
 {
 have hF:=Zj hF hb257
 refine WA.reg [0,2,7,8,10,19,20,21,32,33,34,47] [107,118] [(4,.bool false)] (env':=[(0,.val false [.vp (Zt v0)]),(2,one (.int .i64 v2)),(7,.val false [.arr 107 v252]),(8,.val false [.arr 118 v253]),(10,one (.int .i64 y217)),(19,one (.sl (v1.map (eInt .i64)))),(20,one (.int .i64 (v1.length:Int))),(21,one (.int .i64 v215)),(32,one (.sl (y218.f_set.map Za))),(33,one (.int .i64 (y218.f_set.length:Int))),(34,one (.int .i64 v254)),(47,one (.bool false))]) (os':=[(107,.arr 1 (v250.map (eInt .i64))),(118,.arr 1 (v251.map ZF))]) (O:=[(decide (v2≥y256.f_Lo))=false]) kr (sound _ _) ⟨hb257,trivial⟩ ?_
 exact ⟨false,kr,kr,hF⟩ } } } }
  {
 have hF:=Zj hF hb255
 refine WA.exit ?_
 refine WA.reg [0,2,7,8,19,20,21] [107,118] [] (env':=[(0,.val false [.vp (Zt v0)]),(2,one (.int .i64 v2)),(7,.val false [.arr 107 v252]),(8,.val false [.arr 118 v253]),(19,one (.sl (v1.map (eInt .i64)))),(20,one (.int .i64 (v1.length:Int))),(21,one (.int .i64 (w64 (v215+1))))]) (os':=[(107,.arr 1 (v250.map (eInt .i64))),(118,.arr 1 (v251.map ZF))]) (O:=[]) kr (sound _ _) trivial ?_
 exact ⟨m14,Nat.lt_succ_self _,v250,v251,v252,v253,(w64 (v215+1)),kr,kr,zt,zt,by rw [hself14] at hF;exact hF⟩ } }
  {
 have hF:=Zj hF hb216
 refine WA.exit ?_
 refine WA.seq ?_
 refine WA.reg [6] [107] [] (env':=[(6,.val false [.arr 107 v213])]) (os':=[(107,.arr 1 (v211.map (eInt .i64)))]) (O:=[]) kr (sound _ _) trivial ?_
 refine WA.freeze 107 6 (s:=1) (n:=v213) (els:=(v211.map (eInt .i64))) rfl rfl zt ?_
 refine WA.keep [6] [] (env':=[(6,one (.sl (v211.map (eInt .i64))))]) (os':=[]) kr kr ?_
 refine WA.ret ?_
 obtain rfl:=Option.some.inj hF
 exact Zp (one (.sl (v211.map (eInt .i64)))) [] kr kr kr kr (by decide) rfl rfl }
def Zl7 (self0:Int→Option Bool) (v1:List Int) (v108:Int):Option Bool:=
  (cond (decide (v108<(v1.length:Int))) ((idxL v1 v108).bind fun y110=>((cond (y110 == 0) ((some true)) ((self0 (w64 (v108+1))))))) (((some false))))
def ZhE (v1:List Int):Nat→Int→Option Bool
  | 0,_=>none
  | m_+1,v108=>Zl7 (ZhE v1 m_) v1 v108
def F57 (k:Nat) (v0:Zq) (v1:List Int):Option Bool:=
  ((ZhE v1 k 0))
theorem ZoJ (k:Nat) (v0:Zq) (v1:List Int) (r:Bool) (hF:F57 k v0 v1=some r):Sim Tryz.prog GL0 57 [.val false [.vp (Zt v0)],one (.sl (v1.map (eInt .i64)))] [] (one (.bool r)) []:=by
 refine ZB [] Tryz.func57 rfl kr kr ?_
 show WA _ _ 16 _ _ _
 refine WA.seq ?_
 refine WA.reg [1] [] [] (env':=[(1,one (.sl (v1.map (eInt .i64))))]) (os':=[]) (O:=[]) kr (sound _ _) trivial ?_
 refine WA.seq ?_
 refine WA.seq ?_
 refine WA.rm (α:=Int) (raw:=((v1.map (eInt .i64)).length:Int)) (can:=(v1.length:Int)) (fun m_=>([(7,one (.sl (v1.map (eInt .i64)))),(8,one (.int .i64 m_)),(9,one (.int .i64 0))],[],[])) ((by first | (simp only [zl,Zh];done) | (simp only [zl,Zh];omega) | omega)) [7,8,9] [] [] kr (sound _ _) trivial ?_
 refine WA.block ?_
 refine WA.loop (fun m s_=>∃(v108:Int),Zl s_.env [7,8,9]=[(7,one (.sl (v1.map (eInt .i64)))),(8,one (.int .i64 (v1.length:Int))),(9,one (.int .i64 v108))]∧Zl s_.os []=[]∧ZhE v1 m v108=some r) k ⟨0,kr,kr,hF⟩ ?_
 clear hF
 rintro m0 s_ ⟨v108,he,ho,hF⟩
 refine WA.keep _ _ he ho ?_
 clear he ho
 cases m0 with
 | zero=>cases hF
 | succ m0=>
  obtain ⟨self0,hself0⟩:∃g,g=ZhE v1 m0:=⟨_,rfl⟩
  have hF:Zl7 self0 v1 v108=some r:=by first | (rw [hself0];exact hF) | exact hF
  refine WA.seq ?_
  refine WA.reg [7,8,9,10] [] [] (env':=[(7,one (.sl (v1.map (eInt .i64)))),(8,one (.int .i64 (v1.length:Int))),(9,one (.int .i64 v108)),(10,one (.bool (decide (v108<(v1.length:Int)))))]) (os':=[]) (O:=[]) kr (sound _ _) trivial ?_
  refine WA.seq ?_
  refine WA.cond (b:=(decide (v108<(v1.length:Int)))) rfl (fun hb109=>?_) (fun hb109=>?_)
  {
 have hF:=Zk hF hb109
 refine WA.skip ?_
 refine WA.seq ?_
 refine WA.block ?_
 refine WA.seq ?_
 obtain ⟨y110,hy110,hF⟩:=bind_some hF
 refine WA.reg [6,7,8,9] [] [(0,.cells [.int .i64 y110])] (env':=[(6,one (.int .i64 y110)),(7,one (.sl (v1.map (eInt .i64)))),(8,one (.int .i64 (v1.length:Int))),(9,one (.int .i64 v108))]) (os':=[]) (O:=[idxL (v1.map (eInt .i64)) v108=some [.int .i64 y110]]) kr (sound _ _) ⟨(Zs _ hy110),trivial⟩ ?_
 refine WA.seq ?_
 refine WA.reg [7,8,9,14] [] [] (env':=[(7,one (.sl (v1.map (eInt .i64)))),(8,one (.int .i64 (v1.length:Int))),(9,one (.int .i64 v108)),(14,one (.bool (y110 == 0)))]) (os':=[]) (O:=[]) kr (sound _ _) trivial ?_
 refine WA.cond (b:=(y110 == 0)) rfl (fun hb111=>?_) (fun hb111=>?_)
 {
 have hF:=Zk hF hb111
 refine WA.seq ?_
 refine WA.reg [4] [] [] (env':=[(4,one (.bool true))]) (os':=[]) (O:=[]) kr (sound _ _) trivial ?_
 refine WA.ret ?_
 obtain rfl:=Option.some.inj hF
 exact Zp (one (.bool true)) [] kr kr kr kr (by decide) rfl rfl }
 {
 have hF:=Zj hF hb111
 refine WA.skip ?_
 refine WA.reg [7,8,9] [] [] (env':=[(7,one (.sl (v1.map (eInt .i64)))),(8,one (.int .i64 (v1.length:Int))),(9,one (.int .i64 (w64 (v108+1))))]) (os':=[]) (O:=[]) kr (sound _ _) trivial ?_
 exact ⟨m0,Nat.lt_succ_self _,(w64 (v108+1)),kr,kr,by rw [hself0] at hF;exact hF⟩ } }
  {
 have hF:=Zj hF hb109
 refine WA.exit ?_
 refine WA.seq ?_
 refine WA.reg [4] [] [] (env':=[(4,one (.bool false))]) (os':=[]) (O:=[]) kr (sound _ _) trivial ?_
 refine WA.ret ?_
 obtain rfl:=Option.some.inj hF
 exact Zp (one (.bool false)) [] kr kr kr kr (by decide) rfl rfl }
end Go.Proofs.YthilboheomikjaaGreatDoor
end
section
namespace Go.AL
variable {P:Program} {GL:List (Nat×List PV)} {w:World} {I:Nat→Prop} {G:Nat→Option Nat}
theorem Zd8 {os:Objs} {id s n:Nat} {els:List (List PV)} {v:Value} (h3:Sr GL w I G os) (ho:look os id=some (.arr s els)) (hn:n=els.length) (hx:ATr w I G (shape os) (.val false [.arr id n]) v) :
    ∃I':Nat→Prop,Sr GL w I' G (ZK os id)∧ATr w I' G (shape (ZK os id)) (one (.sl els)) v∧ZJ Any w w I I' G G (shape os) (shape (ZK os id))∧∀k,I' k→I k∨G id=some k:=by
  have hsub:∀k o,look (ZK os id) k=some o→look os k=some o:=fun k o h=>by
    rw [Zal] at h;split at h
    · cases h
    · exact h
  obtain ⟨s1,k1⟩:=h3.sub hsub
  let I':Nat→Prop:=fun b=>I b∨G id=some b
  have hI':∀k,I' k→k<w.heap.size:=fun k hk=>by
    rcases hk with hk | hk
    · exact h3.lt k hk
    · obtain ⟨_,cs,E,hh,_⟩:=h3.blk id _ k ho hk
      exact (Array.getElem?_eq_some_iff.1 hh).1
  have k2:ZJ Any w w I I' G G (shape (ZK os id)) (shape (ZK os id)):=⟨fun _ _=>rfl,fun _ h=>.inl h,fun i s m _ hs=>⟨m,hs,Nat.le_refl _,fun _=>⟨rfl,fun _ _=>Nat.le_refl _⟩⟩⟩
  have s2:Sr GL w I' G (ZK os id):=by
    refine ⟨fun g ps hg=>?_,s1.none_,fun k o b q1 q2=>?_,s1.inj,hI'⟩
    · obtain ⟨r1,r2⟩:=h3.gl g ps hg
      exact ⟨.inl r1,fun j p hp=>by obtain ⟨u,hu,hr⟩:=r2 j p hp;exact ⟨u,hu,hr.mono (fun _ _=>rfl) (fun _ h=>.inl h)⟩⟩
    · obtain ⟨r1,cs,E,r2,r3,r4,r5⟩:=s1.blk k o b q1 q2
      refine ⟨fun h=>?_,cs,E,r2,r3,r4,fun i es j c e1 e2=>?_⟩
      · rcases h with h | h
        · exact r1 h
        · have:=h3.inj k id o _ b (hsub k o q1) ho q2 h
          subst this
          rw [Zal,if_pos rfl] at q1;cases q1
      · obtain ⟨v,hv,hr⟩:=r5 i es j c e1 e2
        exact ⟨v,hv,hr.mono k2 (AC.refs_any c)⟩
  refine ⟨I',s2,⟨_,rfl,?_⟩,k1.trans k2,fun k hk=>hk⟩
  show PVr w I' _ _
  have hv:=(ZD hx).2 _ _ (Z1 ho)
  have hv2:=hv.2 (by simp [Obj.els,hn])
  cases hb:G id with
  | none=>
    rw [hb] at hv2
    have:=h3.none_ id _ ho hb
    simp [Obj.els] at this
    subst this
    rw [hv2];exact .sl0 _ _
  | some b=>
    rw [hb] at hv2
    obtain ⟨c,e1,e2,e3⟩:=hv2
    obtain ⟨r1,cs,E,r2,r3,r4,r5⟩:=h3.blk id _ b ho hb
    rw [e1,hn]
    have hget:∀(i:Nat) (es:List PV),els[i]?=some es→(Obj.arr s els).els[i]?=some (pvL es):=fun i es h=>by simp [Obj.els,h]
    let vals:Nat→Nat→Value:=fun i j=>(cs[i*s+j]?).getD undef
    have hvv:∀(i:Nat) (es:List PV) (j:Nat) (p:PV),els[i]?=some es→es[j]?=some p→cs[i*s+j]?=some (vals i j)∧PVr w I p (vals i j):=by
      intro i es j p q1 q2
      obtain ⟨v,hv,hr⟩:=r5 i _ j (.pv p) (hget i es q1) (by simp [pvL,q2])
      have hv':cs[i*s+j]?=some v:=hv
      refine ⟨by simp [vals,hv'],?_⟩
      have:vals i j=v:=by simp [vals,hv']
      rw [this];exact hr
    refine .sl els b 0 c s vals (.inr hb) (by omega) (fun i es q=>by have:=r4 i _ (hget i es q);rw [Za8] at this;exact this) (fun i es j p q1 q2=>?_) (fun i es j p q1 q2=>(hvv i es j p q1 q2).2.mono (fun _ _=>rfl) (fun _ h=>.inl h))
    have:=(hvv i es j p q1 q2).1
    simp only [World.cell?,r2];simpa using this
theorem ZfS {os:List Obj} {o:Obj} (k:Nat):look (ZC os) k=look (ZK (ZC (os ++ [o])) os.length) k:=by
  rw [Zal,ZH,ZH]
  by_cases h:k=os.length
  · subst h;simp
  · rw [if_neg h]
    rcases Nat.lt_or_ge k os.length with h' | h'
    · rw [List.getElem?_append_left h']
    · rw [List.getElem?_eq_none h',List.getElem?_append_right h',List.getElem?_eq_none (by simp;omega)]
theorem Zlw {f:FuncId} {args:List AT} {os os':List Obj} {m n s:Nat} {els:List (List PV)} (hm:os'.length=m) (hm2:os.length≤m) (hn:n=els.length) (h:Sim P GL f args os (.val false [.arr m n]) (os' ++ [.arr s els])):Sim P GL f args os (one (.sl els)) os':=by
  intro w I G vs hs ha
  refine Calls.imp (h w I G vs hs ha) ?_
  rintro e w' ⟨v,I',G',rfl,e1,s1,x1,k1⟩
  subst hm
  have hl:look (ZC (os' ++ [Obj.arr s els])) os'.length=some (.arr s els):=by rw [ZH];simp
  obtain ⟨I2,s2,x2,k2,hI⟩:=Zd8 s1 hl hn x1
  have hlk:=fun k=>ZfS (os:=os') (o:=.arr s els) k
  have hsh:shape (ZC os')=shape (ZK (ZC (os' ++ [Obj.arr s els])) os'.length):=by funext k;simp only [shape,hlk]
  refine ⟨v,I2,G',rfl,⟨e1.size,e1.os,e1.tape,e1.output,e1.keep,fun k hk=>k2.imm k (e1.imm k hk),fun k hk=>?_,fun b ⟨k,o,h1,h2⟩=>?_⟩,s2.congr hlk,by rw [hsh];exact x2,?_⟩
  · rcases hI k hk with h | h
    · exact e1.inew k h
    · rcases e1.mnew k ⟨os'.length,_,hl,h⟩ with h | h
      · exact .inr (.inl h)
      · exact .inr (.inr h)
  · have h3:=hlk k
    rw [h1,Zal] at h3
    split at h3
    · cases h3
    · exact e1.mnew b ⟨k,o,h3.symm,h2⟩
  · rw [hsh];exact k1.trans (k2.weaken fun _ _=>trivial)
end Go.AL
end
section
namespace Go.AL
variable {D:List Deferred}
variable {P:Program} {GL:List (Nat×List PV)} {st:S} {w:World} {I:Nat→Prop} {G:Nat→Option Nat} {N:Nat} {F:Exit→S→Prop} {code:Code}
theorem ZdU {os:Objs} {id k:Nat} {o:Obj} (h:look (ZK os id) k=some o):look os k=some o:=by
  rw [Zal] at h;split at h
  · cases h
  · exact h
theorem ZlJ {os:Objs} {id:Nat} {o:Obj} (h3:Sr GL w I G os) (ho:look os id=some o) :
    Sr GL w (fun b=>I b∨G id=some b) G (ZK os id)∧ZJ Any w w I (fun b=>I b∨G id=some b) G G (shape os) (shape (ZK os id)):=by
  obtain ⟨s1,k1⟩:=h3.sub (os':=ZK os id) fun k o h=>ZdU h
  have k2:ZJ Any w w I (fun b=>I b∨G id=some b) G G (shape (ZK os id)) (shape (ZK os id)):=⟨fun _ _=>rfl,fun _ h=>.inl h,fun i s m _ hs=>⟨m,hs,Nat.le_refl _,fun _=>⟨rfl,fun _ _=>Nat.le_refl _⟩⟩⟩
  refine ⟨⟨fun g ps hg=>?_,s1.none_,fun k o b q1 q2=>?_,s1.inj,fun k hk=>?_⟩,k1.trans k2⟩
  · obtain ⟨r1,r2⟩:=h3.gl g ps hg
    exact ⟨.inl r1,fun j p hp=>by obtain ⟨u,hu,hr⟩:=r2 j p hp;exact ⟨u,hu,hr.mono (fun _ _=>rfl) (fun _ h=>.inl h)⟩⟩
  · obtain ⟨r1,cs,E,r2,r3,r4,r5⟩:=s1.blk k o b q1 q2
    refine ⟨fun h=>?_,cs,E,r2,r3,r4,fun i es j c e1 e2=>?_⟩
    · rcases h with h | h
      · exact r1 h
      · have:=h3.inj k id o _ b (ZdU q1) ho q2 h
        subst this
        rw [Zal,if_pos rfl] at q1;cases q1
    · obtain ⟨v,hv,hr⟩:=r5 i es j c e1 e2
      exact ⟨v,hv,hr.mono k2 (AC.refs_any c)⟩
  · rcases hk with hk | hk
    · exact h3.lt k hk
    · obtain ⟨_,cs,E,hh,_⟩:=h3.blk id _ k ho hk
      exact (Array.getElem?_eq_some_iff.1 hh).1
theorem Zke {os:Objs} {id a s n:Nat} {els:List (List PV)} {p:PV} {v:Value} (h3:Sr GL w I G os) (hne:id≠a) (hb:look os id=some (.box [.arr a n,.pv p])) (ha:look os a=some (.arr s els)) (hn:n=els.length)
    (hx:ATr w I G (shape os) (.val false [.ptr id 1 0 0]) v) :
    ∃I':Nat→Prop,Sr GL w I' G (ZK (ZK os a) id)∧ATr w I' G (shape (ZK (ZK os a) id)) (.val false [.vp [.sl els,p]]) v∧ZJ Any w w I I' G G (shape os) (shape (ZK (ZK os a) id))∧∀k,I' k→I k∨G id=some k∨G a=some k:=by
  have hsh:=Z1 hb
  obtain ⟨⟨A,hA⟩,hp⟩:=ZD hx
  have hp:=(hp _ _ hsh).2 rfl
  cases hG:G id with
  | none=>have:=h3.none_ id _ hb hG;simp [Obj.els] at this
  | some b=>
    have hv:=hp b hG
    obtain ⟨q1,cs,E,q2,q3,q4,q5⟩:=h3.blk id _ b hb hG
    obtain ⟨u,hu,hur⟩:=q5 0 [.arr a n,.pv p] 0 (.arr a n) rfl rfl
    obtain ⟨u1,hu1,hur1⟩:=q5 0 [.arr a n,.pv p] 1 (.pv p) rfl rfl
    obtain ⟨I1,s1,x1,k1,hI1⟩:=Zd8 h3 ha hn (v:=u) ⟨_,rfl,hur⟩
    have hb':look (ZK os a) id=some (.box [.arr a n,.pv p]):=by rw [Zal,if_neg hne];exact hb
    obtain ⟨s2,k2⟩:=ZlJ s1 hb'
    refine ⟨_,s2,⟨_,rfl,b,0,by simpa using hv,.inr hG,fun j q hq=>?_⟩,k1.trans k2,fun k hk=>?_⟩
    · match j,hq with
      | 0,hq=>
        cases hq
        refine ⟨u,?_,PVr.mono (ZD x1) k2.heap k2.imm⟩
        simp only [World.cell?,q2];simpa using hu
      | 1,hq=>
        cases hq
        refine ⟨u1,?_,PVr.mono hur1 (k1.trans k2).heap (k1.trans k2).imm⟩
        simp only [World.cell?,q2];simpa using hu1
    · rcases hk with hk | hk
      · rcases hI1 k hk with h | h
        · exact .inl h
        · exact .inr (.inr h)
      · exact .inr (.inl (hG.symm.trans hk))
theorem WA.freezeM (id a t:Nat) {s n:Nat} {els:List (List PV)} {p:PV} (ht:look st.env t=some (.val false [.ptr id 1 0 0])) (hb:look st.os id=some (.box [.arr a n,.pv p])) (ha:look st.os a=some (.arr s els)) (hn:n=els.length)
    (hne:id≠a) (h:WA P GL N code ⟨(t,.val false [.vp [.sl els,p]]) :: st.env,ZK (ZK st.os a) id⟩ F):WA P GL N code st F:=fun D w0 I0 G0 os0 w I G c h1 h2 h3 h4=>by
  obtain ⟨I',s2,x2,k3,hI⟩:=Zke h3 hne hb ha hn (h4.slot t _ ht).2
  refine h D w0 I0 G0 os0 w I' G c ⟨h1.size,h1.os,h1.tape,h1.output,h1.keep,fun k hk=>k3.imm k (h1.imm k hk),fun k hk=>?_,fun b ⟨k,o,q1,q2⟩=>h1.mnew b ⟨k,o,ZdU (ZdU q1),q2⟩⟩ (h2.trans (k3.weaken fun _ _=>trivial)) s2
    ⟨h4.size,h4.defers,fun t' x hx=>?_⟩
  · have hm:∀k,Mine G st.os k→I0 k∨Mine G0 os0 k∨w0.heap.size≤k:=fun k hk=>by
      rcases h1.mnew k hk with h | h
      · exact .inr (.inl h)
      · exact .inr (.inr h)
    rcases hI k hk with hk | hk | hk
    · exact h1.inew k hk
    · exact hm k ⟨id,_,hb,hk⟩
    · exact hm k ⟨a,_,ha,hk⟩
  · rw [Zz] at hx
    split at hx
    · rename_i e;subst e;cases hx
      exact ⟨(h4.slot t _ ht).1,x2⟩
    · exact ⟨(h4.slot t' x hx).1,(h4.slot t' x hx).2.mono k3 (AT.refs_any x)⟩
def ZhO (_:Nat):Prop:=False
theorem ZcG {w':World} {I':Nat→Prop} {G':Nat→Option Nat} {sh sh':Sh} (hh:∀k,I k→w'.heap[k]?=w.heap[k]?) (hi:∀k,I k→I' k):ZJ ZhO w w' I I' G G' sh sh':=⟨hh,hi,fun _ _ _ h=>h.elim⟩
theorem ZlP {f:FuncId} {p0 p3:AT} {n m s1 s2:Nat} {els els' l':List (List PV)} (hm:m=l'.length) (h0:p0.refs ZhO) (h3:p3.refs ZhO)
    (h:Sim P GL f [p0,.val false [.arr 0 0],.val false [.arr 1 n],p3] [.arr s1 [],.arr s2 els] (.val false [.arr 0 m]) [.arr s1 l',.arr s2 els']) :
    Sim P GL f [p0,one .nils,.val false [.arr 0 n],p3] [.arr s2 els] (one (.sl l')) [.arr s2 els']:=by
  intro w I G vs hs ha
  obtain ⟨v0,_,rfl,a0,v1,_,rfl,a1,v2,_,rfl,a2,v3,_,rfl,a3,rfl⟩:=ha
  let G2:Nat→Option Nat:=fun k=>if k=1 then G 0 else none
  have l1:∀k,look (ZC [Obj.arr s2 els]) k=if k=0 then some (Obj.arr s2 els) else none:=fun k=>by
    rw [ZH];cases k with | zero=>rfl | succ k=>rfl
  have l2:∀(x y:Obj) k,look (ZC [x,y]) k=if k=0 then some x else if k=1 then some y else none:=fun x y k=>by
    rw [ZH];match k with | 0=>rfl | 1=>rfl | k+2=>rfl
  have sr2:Sr GL w I G2 (ZC [.arr s1 [],.arr s2 els]):=by
    refine ⟨hs.gl,fun k o q g=>?_,fun k o b q g=>?_,fun k k' o o' b q1 q2 g1 g2=>?_,hs.lt⟩
    · rw [l2] at q
      by_cases e:k=0
      · rw [if_pos e] at q;cases q;rfl
      · rw [if_neg e] at q
        by_cases e1:k=1
        · rw [if_pos e1] at q;cases q;subst e1
          exact hs.none_ 0 _ (by rw [l1];rfl) g
        · rw [if_neg e1] at q;cases q
    · rw [l2] at q
      by_cases e1:k=1
      · subst e1
        cases q
        obtain ⟨r1,cs,E,r2,r3,r4,r5⟩:=hs.blk 0 _ b (by rw [l1];rfl) g
        refine ⟨r1,cs,E,r2,r3,r4,fun i es j c z1 z2=>?_⟩
        obtain ⟨v,hv,hr⟩:=r5 i es j c z1 z2
        refine ⟨v,hv,?_⟩
        simp only [Obj.els,List.getElem?_map] at z1
        cases hq:els[i]? with
        | none=>rw [hq] at z1;cases z1
        | some ps=>rw [hq] at z1;cases z1;obtain ⟨p,_,rfl⟩:=ZgG z2;exact hr
      · simp only [G2,if_neg e1] at g;cases g
    · have e1:k=1:=by
        by_cases e:k=1
        · exact e
        · simp only [G2,if_neg e] at g1;cases g1
      have e2:k'=1:=by
        by_cases e:k'=1
        · exact e
        · simp only [G2,if_neg e] at g2;cases g2
      rw [e1,e2]
  have k0:∀{I' G' sh sh'},(∀k,I k→I' k)→ZJ ZhO w w I I' G G' sh sh':=fun hi=>ZcG (fun _ _=>rfl) hi
  have nil1:v1 = .slice none 0 0:=by
    obtain ⟨c,hc,hr⟩:=a1;cases hc;cases hr;rfl
  subst nil1
  have as2:As w I G2 (shape (ZC [.arr s1 [],.arr s2 els])) [p0,.val false [.arr 0 0],.val false [.arr 1 n],p3] [v0,.slice none 0 0,v2,v3]:=by
    refine ⟨v0,_,rfl,a0.mono (k0 fun _ h=>h) h0,_,_,rfl,⟨_,rfl,⟨_,_,rfl⟩,fun s m hsm=>⟨Nat.zero_le _,fun _=>rfl⟩⟩,v2,_,rfl,⟨_,rfl,?_⟩,v3,_,rfl,a3.mono (k0 fun _ h=>h) h3,rfl⟩
    obtain ⟨x1,x2⟩:=ZD a2
    refine ⟨x1,fun s m hsm=>?_⟩
    have e:shape (ZC [Obj.arr s2 els]) 0=some (s,m):=by
      simp only [shape,l2,l1] at hsm ⊢;exact hsm
    exact x2 s m e
  refine Calls.imp (h w I G2 _ sr2 as2) ?_
  rintro e w' ⟨v,I',G',rfl,e1,t1,x1,c1⟩
  have hl0:look (ZC [Obj.arr s1 l',Obj.arr s2 els']) 0=some (.arr s1 l'):=by rw [l2];rfl
  have hl1:look (ZC [Obj.arr s1 l',Obj.arr s2 els']) 1=some (.arr s2 els'):=by rw [l2];rfl
  obtain ⟨I2,t2,x2,c2,hI⟩:=Zd8 t1 hl0 hm x1
  let G3:Nat→Option Nat:=fun k=>if k=0 then G' 1 else none
  have hd1:look (ZK (ZC [Obj.arr s1 l',Obj.arr s2 els']) 0) 1=some (.arr s2 els'):=by rw [Zal,if_neg (by omega)];exact hl1
  have m1:∀k,Mine G2 (ZC [.arr s1 [],.arr s2 els]) k→Mine G (ZC [.arr s2 els]) k:=fun k ⟨id,o,q1,q2⟩=>by
    by_cases e:id=1
    · subst e;exact ⟨0,_,by rw [l1];rfl,q2⟩
    · simp only [G2,if_neg e] at q2;cases q2
  have m2:∀k,Mine G (ZC [.arr s2 els]) k→Mine G2 (ZC [.arr s1 [],.arr s2 els]) k:=fun k ⟨id,o,q1,q2⟩=>by
    rw [l1] at q1
    by_cases e:id=0
    · subst e;exact ⟨1,_,by rw [l2];rfl,q2⟩
    · rw [if_neg e] at q1;cases q1
  have l3:∀k,look (ZC [Obj.arr s2 els']) k=if k=0 then some (Obj.arr s2 els') else none:=fun k=>by
    rw [ZH];cases k with | zero=>rfl | succ k=>rfl
  have m3:∀k,Mine G3 (ZC [.arr s2 els']) k→Mine G' (ZC [Obj.arr s1 l',Obj.arr s2 els']) k:=fun k ⟨id,o,q1,q2⟩=>by
    rw [l3] at q1
    by_cases e:id=0
    · subst e;exact ⟨1,_,hl1,q2⟩
    · rw [if_neg e] at q1;cases q1
  have mm:∀k,Mine G' (ZC [Obj.arr s1 l',Obj.arr s2 els']) k→Mine G (ZC [.arr s2 els]) k∨w.heap.size≤k:=fun k hk=>(e1.mnew k hk).elim (fun h=>.inl (m1 k h)) .inr
  refine ⟨v,I2,G3,rfl,⟨e1.size,e1.os,e1.tape,e1.output,fun k h h'=>e1.keep k h fun q=>h' (m1 k q),fun k hk=>c2.imm k (e1.imm k hk),fun k hk=>?_,fun k hk=>mm k (m3 k hk)⟩,?_,x2.mono (ZcG (fun _ _=>rfl) fun _ h=>h) ⟨trivial,trivial⟩,?_⟩
  · rcases hI k hk with h | h
    · rcases e1.inew k h with h | h | h
      · exact .inl h
      · exact .inr (.inl (m1 k h))
      · exact .inr (.inr h)
    · exact .inr (mm k ⟨0,_,hl0,h⟩)
  · refine ⟨t2.gl,fun k o q g=>?_,fun k o b q g=>?_,fun k k' o o' b q1 q2 g1 g2=>?_,t2.lt⟩
    · rw [l3] at q
      by_cases e:k=0
      · rw [if_pos e] at q;cases q;subst e
        exact t2.none_ 1 _ hd1 g
      · rw [if_neg e] at q;cases q
    · rw [l3] at q
      by_cases e:k=0
      · rw [if_pos e] at q;cases q;subst e
        obtain ⟨r1,cs,E,r2,r3,r4,r5⟩:=t2.blk 1 _ b hd1 g
        refine ⟨r1,cs,E,r2,r3,r4,fun i es j c z1 z2=>?_⟩
        obtain ⟨v,hv,hr⟩:=r5 i es j c z1 z2
        refine ⟨v,hv,?_⟩
        simp only [Obj.els,List.getElem?_map] at z1
        cases hq:els'[i]? with
        | none=>rw [hq] at z1;cases z1
        | some ps=>rw [hq] at z1;cases z1;obtain ⟨p,_,rfl⟩:=ZgG z2;exact hr
      · rw [if_neg e] at q;cases q
    · rw [l3] at q1 q2
      by_cases e:k=0
      · by_cases e':k'=0
        · rw [e,e']
        · rw [if_neg e'] at q2;cases q2
      · rw [if_neg e] at q1;cases q1
  · refine ⟨fun k hk=>c1.heap k hk,fun k hk=>c2.imm k (c1.imm k hk),fun k s m hk hsm=>?_⟩
    have hk0:k=0:=by simp only [List.length_cons,List.length_nil] at hk;omega
    subst hk0
    have e:shape (ZC [Obj.arr s1 l',Obj.arr s2 els']) 1=some (s,m):=by
      simp only [shape,l3,hl1] at hsm ⊢;exact hsm
    obtain ⟨m0,q1,q2,q3⟩:=c1.objs 1 s m (by simp) e
    refine ⟨m0,?_,q2,fun hm=>?_⟩
    · simp only [shape,l2,l1] at q1 ⊢;exact q1
    · exact q3 hm
end Go.AL
end
section
namespace Go.Proofs.YthilboheomikjaaGreatDoor
open Go.AL
set_option maxRecDepth 100000
def F53 (k:Nat) (v0:Ze):Option Zq:=
  (F78 k ⟨[⟨[],false,[],false⟩],0⟩ v0 0).bind fun y=>if y.2.f_nodes.all (fun n=>!n.f_x)=true then some ⟨y.2.f_nodes,y.1⟩ else none
theorem ZkS {l:List Zw} (h:l.all (fun n=>!n.f_x)=true):l.map Zn=l.map ZI:=by
  refine List.map_congr_left fun x hx=>?_
  have:=List.all_eq_true.1 h x hx
  simp only [Bool.not_eq_true'] at this
  simp only [Zn,ZI,this,cond]
theorem ZoG (k:Nat) (v0:Ze) (r:Zq) (hF:F53 k v0=some r):Sim Tryz.prog GL0 53 [.val true (pvL (Zd v0))] [] (.val false [.vp (Zt r)]) []:=by
  refine ZB [] Tryz.func53 rfl (by kernel_rfl) (by kernel_rfl) ?_
  show WA _ _ 18 _ _ _
  obtain ⟨y,hy,hF⟩:=bind_some hF
  obtain ⟨hc,hF⟩:=Zo hF
  obtain rfl:=Option.some.inj hF
  refine WA.seq ?_
  refine WA.reg [1] [101] [(0,.obj 101)] (env':=[(1,.val false [.ptr 101 1 0 0])]) (os':=[(101,.box (pvL (Zd v0)))]) (O:=[]) (by kernel_rfl) (sound _ _) trivial ?_
  refine WA.seq ?_
  refine WA.reg [1,3] [101,105] [(1,.obj 105)] (env':=[(1,.val false [.ptr 101 1 0 0]),(3,.val false [.ptr 105 1 0 0])]) (os':=[(101,.box (pvL (Zd v0))),(105,.box (pvL [.sl [],.int .i64 0]))]) (O:=[]) (by kernel_rfl) (sound _ _) trivial ?_
  refine WA.seq ?_
  refine WA.reg [1,3] [101,105,108] [(2,.obj 108)] (env':=[(1,.val false [.ptr 101 1 0 0]),(3,.val false [.ptr 105 1 0 0])]) (os':=[(101,.box (pvL (Zd v0))),(105,.box [.arr 108 1,.pv (.int .i64 0)]),(108,.arr 3 [[.sl [],.bool false,.sl []]])]) (O:=[]) (by kernel_rfl) (sound _ _) trivial ?_
  refine WA.seq ?_
  refine WA.reg [3] [105,108] [(3,.call [105,108] (one (.int .i64 y.1)) [.box [.arr 1 y.2.f_nodes.length,.pv (.int .i64 y.2.f_first)],.arr 3 (y.2.f_nodes.map Zn)] [])] (env':=[(3,.val false [.ptr 105 1 0 0])]) (os':=[(105,.box [.arr 108 y.2.f_nodes.length,.pv (.int .i64 y.1)]),(108,.arr 3 (y.2.f_nodes.map Zn))])
    (O:=[Sim Tryz.prog GL0 78 [.val false [.ptr 0 1 0 0],.val true (pvL (Zd v0)),one (.int .i64 0)] [.box [.arr 1 1,.pv (.int .i64 0)],.arr 3 [[.sl [],.bool false,.sl []]]] (one (.int .i64 y.1)) [.box [.arr 1 y.2.f_nodes.length,.pv (.int .i64 y.2.f_first)],.arr 3 (y.2.f_nodes.map Zn)],([105,108]:List Nat).Nodup]) (by kernel_rfl) (sound _ _) ⟨Zme k _ _ _ _ hy,by decide,trivial⟩ ?_
  refine WA.seq ?_
  refine WA.reg [2] [105,108] [] (env':=[(2,.val false [.ptr 105 1 0 0])]) (os':=[(105,.box [.arr 108 y.2.f_nodes.length,.pv (.int .i64 y.1)]),(108,.arr 3 (y.2.f_nodes.map Zn))]) (O:=[]) (by kernel_rfl) (sound _ _) trivial ?_
  refine WA.freezeM 105 108 2 (s:=3) (n:=y.2.f_nodes.length) (els:=y.2.f_nodes.map Zn) (p:=.int .i64 y.1) rfl rfl rfl (by rw [List.length_map]) (by decide) ?_
  rw [ZkS hc]
  refine WA.ret ?_
  exact Zp (.val false [.vp (Zt ⟨y.2.f_nodes,y.1⟩)]) [] (by kernel_rfl) (by kernel_rfl) (by kernel_rfl) (by kernel_rfl) (by decide) rfl rfl
def F54 (k:Nat) (v0:Zq):Option (List Int):=
  if (v0.f_nodes.length:Int)≤1073741824 then (F79 k v0 [] (List.replicate v0.f_nodes.length false) v0.f_first).bind fun y=>some y.1 else none
theorem ZoH (k:Nat) (v0:Zq) (r:List Int) (hF:F54 k v0=some r):Sim Tryz.prog GL0 54 [.val false [.vp (Zt v0)]] [] (one (.sl (r.map (eInt .i64)))) []:=by
  refine ZB [] Tryz.func54 rfl (by kernel_rfl) (by kernel_rfl) ?_
  show WA _ _ 15 _ _ _
  obtain ⟨hc,hF⟩:=Zo hF
  obtain ⟨y,hy,hF⟩:=bind_some hF
  obtain rfl:=Option.some.inj hF
  refine WA.seq ?_
  refine WA.reg [0] [] [] (env':=[(0,.val false [.vp (Zt v0)])]) (os':=[]) (O:=[]) (by kernel_rfl) (sound _ _) trivial ?_
  refine WA.seq ?_
  have hl:(List.replicate (Int.toNat ((v0.f_nodes.map ZI).length:Int)) [PV.bool false])=(List.replicate v0.f_nodes.length false).map ZF:=by
    rw [List.length_map,Int.toNat_natCast,List.map_replicate];rfl
  have hn:Int.toNat ((v0.f_nodes.map ZI).length:Int)=(List.replicate v0.f_nodes.length false).length:=by simp
  refine WA.regD (by kernel_rfl) [2] [] [(6,.obj 109),(11,.call [109] (one (.sl (y.1.map (eInt .i64)))) [.arr 1 (y.2.map ZF)] [])] (env':=[(2,one (.sl (y.1.map (eInt .i64))))]) (os':=[])
    (O:=[((v0.f_nodes.map ZI).length:Int)=(v0.f_nodes.map ZI).length,(0:Int)≤((v0.f_nodes.map ZI).length:Int),((v0.f_nodes.map ZI).length:Int)≤1073741824,
      Sim Tryz.prog GL0 79 [.val false [.vp (Zt v0)],one .nils,.val false [.arr 0 (Int.toNat ((v0.f_nodes.map ZI).length:Int))],one (.int .i64 v0.f_first)] [.arr 1 (List.replicate (Int.toNat ((v0.f_nodes.map ZI).length:Int)) [PV.bool false])] (one (.sl (y.1.map (eInt .i64)))) [.arr 1 (y.2.map ZF)],([109]:List Nat).Nodup])
    (by kernel_rfl) (by kernel_rfl) (sound _ _) ⟨rfl,by omega,by simpa using hc,?_,by decide,trivial⟩ ?_
  · rw [hl]
    exact ZlP (List.length_map _).symm ⟨trivial,trivial⟩ ⟨trivial,trivial⟩ (ZjW k _ _ _ _ _ hy (n1:=0) rfl hn)
  · refine WA.ret ?_
    exact Zp (one (.sl (y.1.map (eInt .i64)))) [] (by kernel_rfl) (by kernel_rfl) (by kernel_rfl) (by kernel_rfl) (by decide) rfl rfl
end Go.Proofs.YthilboheomikjaaGreatDoor
end
section
namespace Go.Proofs.YthilboheomikjaaGreatDoor
open Go.AL Go.Lib
set_option maxRecDepth 100000
def inR (l:List Zb) (c:Int):Prop:=∃r∈l,r.f_Lo≤c∧c≤r.f_Hi
mutual
def cnt:Ze→Nat
  | ⟨k,st,l,mn,mx⟩=>if k=1 then 1 else if k=2 then cntL l else if k=3 then cntL l+1 else if mx<0 then (mn.toNat+1)*cntL l+1 else mx.toNat*cntL l+(mx-mn).toNat
def cntL:List Ze→Nat
  | []=>0
  | x :: l=>cnt x+cntL l
end
inductive Acc (N:List Zw):Nat→Nat→List Int→Prop
  | fin (n:Nat):Acc N n 0 []
  | set {n i:Nat} {x:Zw} {c:Int} {t:Nat} {w:List Int}:N[i]?=some x→x.f_some=true→inR x.f_set c→x.f_next=[(t:Int)]→Acc N n t w→Acc N (n+1) i (c :: w)
  | eps {n i:Nat} {x:Zw} {t:Nat} {w:List Int}:i≠0→N[i]?=some x→x.f_some=false→(t:Int)∈x.f_next→Acc N n t w→Acc N (n+1) i w
theorem Acc.mono {N:List Zw} {n i:Nat} {w:List Int} (h:Acc N n i w):∀{m:Nat},n≤m→Acc N m i w:=by
  induction h with
  | fin n=>exact fun _=>.fin _
  | set h1 h2 h3 h4 _ ih=>intro m hm;obtain ⟨m,rfl⟩:∃q,m=q+1:=⟨m-1,by omega⟩;exact .set h1 h2 h3 h4 (ih (by omega))
  | eps h0 h1 h2 h3 _ ih=>intro m hm;obtain ⟨m,rfl⟩:∃q,m=q+1:=⟨m-1,by omega⟩;exact .eps h0 h1 h2 h3 (ih (by omega))
theorem Acc.inv {N:List Zw} {n i:Nat} {w:List Int} (h:Acc N n i w):(i=0∧w=[])∨
    (∃m x c t v,n=m+1∧w=c :: v∧N[i]?=some x∧x.f_some=true∧inR x.f_set c∧x.f_next=[((t:Nat):Int)]∧Acc N m t v)∨
    (∃m x t,n=m+1∧i≠0∧N[i]?=some x∧x.f_some=false∧((t:Nat):Int)∈x.f_next∧Acc N m t w):=by
  cases h with
  | fin=>exact .inl ⟨rfl,rfl⟩
  | set h1 h2 h3 h4 h5=>exact .inr (.inl ⟨_,_,_,_,_,rfl,rfl,h1,h2,h3,h4,h5⟩)
  | eps h0 h1 h2 h3 h4=>exact .inr (.inr ⟨_,_,_,rfl,h0,h1,h2,h3,h4⟩)
def Good (n:Nat) (x:Zw):Prop:=x.f_x=false∧(∀t∈x.f_next,∃j:Nat,t=(j:Int)∧j<n)∧(x.f_some=true→∃t,x.f_next=[t])∧(x.f_some=false→x.f_set=[])∧x.f_next.length≤1000∧x.f_set.length≤1000
def ZeV (a b:Nat) (N M:List Zw):Prop:=∀i,a≤i→i<b→M[i]?=N[i]?
structure ZcS (N N':List Zw) (f z:Nat) (P:List Int→Prop) (c:Nat):Prop where
  le:N.length≤N'.length
  cnt:N'.length≤N.length+c
  old:∀i,i<N.length→N'[i]?=N[i]?
  good:∀i x,N.length≤i→N'[i]?=some x→Good N'.length x
  lt:f<N'.length
  sound:∀M,ZeV N.length N'.length N' M→∀n w,Acc M n f w→∃u v m,w=u ++ v∧P u∧m≤n∧Acc M m z v
  full:∀M,ZeV N.length N'.length N' M→∀u v m,P u→Acc M m z v→∃n,Acc M n f (u ++ v)
theorem Good.mono {n m:Nat} {x:Zw} (h:Good n x) (hm:n≤m):Good m x:=
  ⟨h.1,fun t ht=>by obtain ⟨j,e,hj⟩:=h.2.1 t ht;exact ⟨j,e,Nat.lt_of_lt_of_le hj hm⟩,h.2.2⟩
theorem ZcS.refl {N:List Zw} {z:Nat} (h:z<N.length):ZcS N N z z (fun w=>w=[]) 0:=
  ⟨Nat.le_refl _,Nat.le_refl _,fun _ _=>rfl,fun i x hi hx=>by have:=(List.getElem?_eq_some_iff.1 hx).1;omega,h,fun M _ n w ha=>⟨[],w,n,rfl,rfl,Nat.le_refl _,ha⟩,
    fun M _ u v m hu ha=>by subst hu;exact ⟨m,ha⟩⟩
def Cat (P Q:List Int→Prop) (w:List Int):Prop:=∃u v,w=u ++ v∧P u∧Q v
theorem ZcS.comp {N N1 N2:List Zw} {f1 f2 z:Nat} {P Q:List Int→Prop} {c d:Nat} (h:ZcS N N1 f1 z P c) (g:ZcS N1 N2 f2 f1 Q d):ZcS N N2 f2 z (Cat Q P) (c+d):=by
  have ag:∀M,ZeV N.length N2.length N2 M→ZeV N.length N1.length N1 M∧ZeV N1.length N2.length N2 M:=fun M hM=>
    ⟨fun i h1 h2=>by rw [hM i h1 (Nat.lt_of_lt_of_le h2 g.le),g.old i h2],fun i h1 h2=>hM i (Nat.le_trans h.le h1) h2⟩
  refine ⟨Nat.le_trans h.le g.le,by have:=h.cnt;have:=g.cnt;omega,fun i hi=>by rw [g.old i (Nat.lt_of_lt_of_le hi h.le),h.old i hi],fun i x hi hx=>?_,g.lt,fun M hM n w ha=>?_,fun M hM u v m hu ha=>?_⟩
  · rcases Nat.lt_or_ge i N1.length with hl | hl
    · rw [g.old i hl] at hx;exact (h.good i x hi hx).mono g.le
    · exact g.good i x hl hx
  · obtain ⟨a1,a2⟩:=ag M hM
    obtain ⟨u,v,m,rfl,hq,hm,hv⟩:=g.sound M a2 n w ha
    obtain ⟨u',v',m',rfl,hp,hm',hv'⟩:=h.sound M a1 m v hv
    exact ⟨u ++ u',v',m',(List.append_assoc ..).symm,⟨u,u',rfl,hq,hp⟩,Nat.le_trans hm' hm,hv'⟩
  · obtain ⟨a1,a2⟩:=ag M hM
    obtain ⟨p,q,rfl,hp,hq⟩:=hu
    obtain ⟨n1,h1⟩:=h.full M a1 q v m hq ha
    obtain ⟨n2,h2⟩:=g.full M a2 p (q ++ v) n1 hp h1
    exact ⟨n2,by rw [List.append_assoc];exact h2⟩
theorem ZcS.congr {N N':List Zw} {f z:Nat} {P Q:List Int→Prop} {c d:Nat} (h:ZcS N N' f z P c) (hq:∀w,P w↔Q w) (hd:c≤d):ZcS N N' f z Q d:=
  ⟨h.le,Nat.le_trans h.cnt (by omega),h.old,h.good,h.lt,fun M hM n w ha=>by obtain ⟨u,v,m,e,hu,r⟩:=h.sound M hM n w ha;exact ⟨u,v,m,e,(hq u).1 hu,r⟩,fun M hM u v m hu ha=>h.full M hM u v m ((hq u).2 hu) ha⟩
structure Side (N N':List Zw) (fs:List Int) (z:Nat) (P:List Int→Prop) (c:Nat):Prop where
  le:N.length≤N'.length
  cnt:N'.length≤N.length+c
  old:∀i,i<N.length→N'[i]?=N[i]?
  good:∀i x,N.length≤i→N'[i]?=some x→Good N'.length x
  lt:∀t∈fs,∃j:Nat,t=(j:Int)∧j<N'.length
  sound:∀M,ZeV N.length N'.length N' M→∀n w (j:Nat),(j:Int)∈fs→Acc M n j w→∃u v m,w=u ++ v∧P u∧m≤n∧Acc M m z v
  full:∀M,ZeV N.length N'.length N' M→∀u v m,P u→Acc M m z v→∃(j:Nat) (n:Nat),(j:Int)∈fs∧Acc M n j (u ++ v)
theorem Side.nil (N:List Zw) (z:Nat):Side N N [] z (fun _=>False) 0:=
  ⟨Nat.le_refl _,Nat.le_refl _,fun _ _=>rfl,fun i x hi hx=>by have:=(List.getElem?_eq_some_iff.1 hx).1;omega,fun _ h=>by simp at h,fun _ _ _ _ _ h=>by simp at h,fun _ _ _ _ _ h=>h.elim⟩
end Go.Proofs.YthilboheomikjaaGreatDoor
end
section
namespace Go.Proofs.YthilboheomikjaaGreatDoor
open Go.AL Go.Lib
set_option maxRecDepth 100000
end Go.Proofs.YthilboheomikjaaGreatDoor
end
section
namespace Go.Proofs.YthilboheomikjaaGreatDoor
open Go.AL Go.Lib
set_option maxRecDepth 100000
def Stop (N:List Zw) (i:Nat):Prop:=∃x,N[i]?=some x∧(x.f_some=true∨i=0)
def Eps (N:List Zw) (i:Nat) (x:Zw):Prop:=N[i]?=some x∧x.f_some=false∧i≠0
inductive ZcU (N:List Zw):Nat→Nat→Prop
  | refl (i:Nat):ZcU N i i
  | step {i t j:Nat} {x:Zw}:Eps N i x→(t:Int)∈x.f_next→ZcU N t j→ZcU N i j
def Sn (s:List Bool) (i:Nat):Prop:=s[i]?=some true
structure Zpk (N:List Zw) (i:Nat) (s:List Bool) (o:List Int) (s':List Bool) (o':List Int):Prop where
  len:s'.length=s.length
  mono:∀j,Sn s j→Sn s' j
  here:Sn s' i
  new:∀j,Sn s' j→Sn s j∨ZcU N i j
  out:∃d,o'=o ++ d∧∀t∈d,∃j:Nat,t=(j:Int)∧Stop N j∧Sn s' j∧ZcU N i j
  stop:∀j,Sn s' j→¬Sn s j→Stop N j→(j:Int)∈o'
  eps:∀j,Sn s' j→¬Sn s j→∀x,Eps N j x→∀t∈x.f_next,∃q:Nat,t=(q:Int)∧Sn s' q
  size:o'.length+s'.count false≤o.length+s.count false
structure Mach (N:List Zw):Prop where
  good:∀(i:Nat) (x:Zw),N[i]?=some x→Good N.length x
  zero:∃x,N[0]?=some x∧x.f_some=false∧x.f_set=[]
  big:N.length≤536870912
end Go.Proofs.YthilboheomikjaaGreatDoor
end
section
namespace Go.Proofs.YthilboheomikjaaGreatDoor
open Go.AL
set_option maxRecDepth 100000
def ZlZ (k:Nat) (self1:(List Int)→Int→Option Bool) (v1:List UInt8) (y106:Zq) (v116:List Int) (v117:Int):Option Bool:=
  (cond (decide (v117<(v1.length:Int))) ((F55 k v1 v117).bind fun y119=>(F56 k y106 v116 y119.1).bind fun y120=>(self1 y120 (w64 (v117+y119.2)))) ((F57 k y106 v116).bind fun y121=>(some y121)))
def Zhr (k:Nat) (v1:List UInt8) (y106:Zq):Nat→(List Int)→Int→Option Bool
  | 0,_,_=>none
  | m_+1,v116,v117=>ZlZ k (Zhr k v1 y106 m_) v1 y106 v116 v117
def ZjJ (k:Nat) (v0:Ze) (v1:List UInt8) (v104:Bool):Option Bool:=
  cond v104 ((some false)) ((F53 k v0).bind fun y106=>(F54 k y106).bind fun y107=>((Zhr k v1 y106 k y107 0)))
def F31 (k:Nat) (v0:Ze) (v1:List UInt8):Option Bool:=
  (F30 k v0).bind fun y101=>cond (!y101) ((ZjJ k v0 v1 true)) ((F49 k v1).bind fun y103=>(ZjJ k v0 v1 (!y103)))
theorem ZaC (k:Nat) (v0:Ze) (v1:List UInt8) (r:Bool) (hF:F31 k v0 v1=some r):Sim Tryz.prog GL0 31 [.val true (pvL (Zd v0)),one (.str v1)] [] (one (.bool r)) []:=by
 refine ZB [] Tryz.func31 rfl kr kr ?_
 show WA _ _ 42 _ _ _
 refine WA.seq ?_
 refine WA.reg [1,2] [102] [(0,.obj 102)] (env':=[(1,one (.str v1)),(2,.val false [.ptr 102 1 0 0])]) (os':=[(102,.box (pvL (Zd v0)))]) (O:=[]) kr (sound _ _) trivial ?_
 refine WA.seq ?_
 refine WA.join (fun s_=>∃(v104:Bool),Zl s_.env [1,2,17]=[(1,one (.str v1)),(2,.val false [.ptr 102 1 0 0]),(17,one (.bool v104))]∧Zl s_.os [102]=[(102,.box (pvL (Zd v0)))]∧ZjJ k v0 v1 v104=some r) ?_ ?_
 {
 rintro s_ ⟨v104,he,ho,hF⟩
 refine WA.keep _ _ he ho ?_
 clear he ho
 refine WA.cond (b:=v104) rfl (fun hb105=>?_) (fun hb105=>?_)
 {
 have hF:=Zk hF hb105
 refine WA.seq ?_
 refine WA.reg [4] [] [] (env':=[(4,one (.bool false))]) (os':=[]) (O:=[]) kr (sound _ _) trivial ?_
 refine WA.ret ?_
 obtain rfl:=Option.some.inj hF
 exact Zp (one (.bool false)) [] kr kr kr kr (by decide) rfl rfl }
 {
 have hF:=Zj hF hb105
 refine WA.skip ?_
 refine WA.seq ?_
 obtain ⟨y106,hy106,hF⟩:=bind_some hF
 refine WA.reg [1,5] [] [(1,.callR [] (.val false [.vp (Zt y106)]))] (env':=[(1,one (.str v1)),(5,.val false [.vp (Zt y106)])]) (os':=[]) (O:=[Sim Tryz.prog GL0 53 [.val true (pvL (Zd v0))] [] (.val false [.vp (Zt y106)]) [],([]:List Nat).Nodup]) kr (sound _ _) ⟨(ZoG k _ _ hy106),(by decide),trivial⟩ ?_
 refine WA.seq ?_
 obtain ⟨y107,hy107,hF⟩:=bind_some hF
 refine WA.reg [1,5,6] [] [(1,.callR [] (one (.sl (y107.map (eInt .i64)))))] (env':=[(1,one (.str v1)),(5,.val false [.vp (Zt y106)]),(6,one (.sl (y107.map (eInt .i64))))]) (os':=[]) (O:=[Sim Tryz.prog GL0 54 [.val false [.vp (Zt y106)]] [] (one (.sl (y107.map (eInt .i64)))) [],([]:List Nat).Nodup]) kr (sound _ _) ⟨(ZoH k _ _ hy107),(by decide),trivial⟩ ?_
 refine WA.seq ?_
 refine WA.seq ?_
 refine WA.reg [1,5,6,7] [] [] (env':=[(1,one (.str v1)),(5,.val false [.vp (Zt y106)]),(6,one (.sl (y107.map (eInt .i64)))),(7,one (.int .i64 0))]) (os':=[]) (O:=[]) kr (sound _ _) trivial ?_
 refine WA.block ?_
 refine WA.loop (fun m s_=>∃(v116:List Int) (v117:Int),Zl s_.env [1,5,6,7]=[(1,one (.str v1)),(5,.val false [.vp (Zt y106)]),(6,one (.sl (v116.map (eInt .i64)))),(7,one (.int .i64 v117))]∧Zl s_.os []=[]∧Zhr k v1 y106 m v116 v117=some r) k ⟨y107,0,kr,kr,hF⟩ ?_
 clear hF
 rintro m1 s_ ⟨v116,v117,he,ho,hF⟩
 refine WA.keep _ _ he ho ?_
 clear he ho
 cases m1 with
 | zero=>cases hF
 | succ m1=>
  obtain ⟨self1,hself1⟩:∃g,g=Zhr k v1 y106 m1:=⟨_,rfl⟩
  have hF:ZlZ k self1 v1 y106 v116 v117=some r:=by first | (rw [hself1];exact hF) | exact hF
  refine WA.seq ?_
  refine WA.seq ?_
  refine WA.reg [1,5,6,7,25] [] [] (env':=[(1,one (.str v1)),(5,.val false [.vp (Zt y106)]),(6,one (.sl (v116.map (eInt .i64)))),(7,one (.int .i64 v117)),(25,one (.bool (decide (v117<(v1.length:Int)))))]) (os':=[]) (O:=[]) kr (sound _ _) trivial ?_
  refine WA.cond (b:=(decide (v117<(v1.length:Int)))) rfl (fun hb118=>?_) (fun hb118=>?_)
  {
 have hF:=Zk hF hb118
 refine WA.skip ?_
 refine WA.block ?_
 refine WA.seq ?_
 obtain ⟨y119,hy119,hF⟩:=bind_some hF
 refine WA.reg [1,5,6,7,8,9] [] [(2,.callR [] (.tup [(false,[.pv (.int .i64 y119.1)]),(false,[.pv (.int .i64 y119.2)])]))] (env':=[(1,one (.str v1)),(5,.val false [.vp (Zt y106)]),(6,one (.sl (v116.map (eInt .i64)))),(7,one (.int .i64 v117)),(8,one (.int .i64 y119.1)),(9,one (.int .i64 y119.2))]) (os':=[]) (O:=[Sim Tryz.prog GL0 55 [one (.str v1),one (.int .i64 v117)] [] (.tup [(false,[.pv (.int .i64 y119.1)]),(false,[.pv (.int .i64 y119.2)])]) [],([]:List Nat).Nodup]) kr (sound _ _) ⟨(ZjR k _ _ _ hy119),(by decide),trivial⟩ ?_
 refine WA.seq ?_
 obtain ⟨y120,hy120,hF⟩:=bind_some hF
 refine WA.reg [1,5,6,7,9] [] [(3,.callR [] (one (.sl (y120.map (eInt .i64)))))] (env':=[(1,one (.str v1)),(5,.val false [.vp (Zt y106)]),(6,one (.sl (y120.map (eInt .i64)))),(7,one (.int .i64 v117)),(9,one (.int .i64 y119.2))]) (os':=[]) (O:=[Sim Tryz.prog GL0 56 [.val false [.vp (Zt y106)],one (.sl (v116.map (eInt .i64))),one (.int .i64 y119.1)] [] (one (.sl (y120.map (eInt .i64)))) [],([]:List Nat).Nodup]) kr (sound _ _) ⟨(ZoI k _ _ _ _ hy120),(by decide),trivial⟩ ?_
 refine WA.reg [1,5,6,7] [] [] (env':=[(1,one (.str v1)),(5,.val false [.vp (Zt y106)]),(6,one (.sl (y120.map (eInt .i64)))),(7,one (.int .i64 (w64 (v117+y119.2))))]) (os':=[]) (O:=[]) kr (sound _ _) trivial ?_
 exact ⟨m1,Nat.lt_succ_self _,y120,(w64 (v117+y119.2)),kr,kr,by rw [hself1] at hF;exact hF⟩ }
  {
 have hF:=Zj hF hb118
 refine WA.exit ?_
 refine WA.seq ?_
 obtain ⟨y121,hy121,hF⟩:=bind_some hF
 refine WA.reg [4] [] [(2,.callR [] (one (.bool y121)))] (env':=[(4,one (.bool y121))]) (os':=[]) (O:=[Sim Tryz.prog GL0 57 [.val false [.vp (Zt y106)],one (.sl (v116.map (eInt .i64)))] [] (one (.bool y121)) [],([]:List Nat).Nodup]) kr (sound _ _) ⟨(ZoJ k _ _ _ hy121),(by decide),trivial⟩ ?_
 refine WA.ret ?_
 obtain rfl:=Option.some.inj hF
 exact Zp (one (.bool y121)) [] kr kr kr kr (by decide) rfl rfl } } }
 {
 obtain ⟨y101,hy101,hF⟩:=bind_some hF
 rcases Bool.eq_false_or_eq_true (!y101) with hb102 | hb102
 {
 have hF:=Zk hF hb102
 refine WA.reg [1,2,17] [102] [(1,.callR [] (one (.bool y101))),(3,.bool true)] (env':=[(1,one (.str v1)),(2,.val false [.ptr 102 1 0 0]),(17,one (.bool true))]) (os':=[(102,.box (pvL (Zd v0)))]) (O:=[Sim Tryz.prog GL0 30 [.val true (pvL (Zd v0))] [] (one (.bool y101)) [],([]:List Nat).Nodup,(!y101)=true]) kr (sound _ _) ⟨(ZlY k _ _ hy101),(by decide),hb102,trivial⟩ ?_
 exact ⟨true,kr,kr,hF⟩ }
 {
 have hF:=Zj hF hb102
 obtain ⟨y103,hy103,hF⟩:=bind_some hF
 refine WA.reg [1,2,17] [102] [(1,.callR [] (one (.bool y101))),(3,.bool false),(5,.callR [] (one (.bool y103)))] (env':=[(1,one (.str v1)),(2,.val false [.ptr 102 1 0 0]),(17,one (.bool (!y103)))]) (os':=[(102,.box (pvL (Zd v0)))]) (O:=[Sim Tryz.prog GL0 30 [.val true (pvL (Zd v0))] [] (one (.bool y101)) [],([]:List Nat).Nodup,(!y101)=false,Sim Tryz.prog GL0 49 [one (.str v1)] [] (one (.bool y103)) [],([]:List Nat).Nodup]) kr (sound _ _) ⟨(ZlY k _ _ hy101),(by decide),hb102,(Zhy k _ _ hy103),(by decide),trivial⟩ ?_
 exact ⟨(!y103),kr,kr,hF⟩ } }
end Go.Proofs.YthilboheomikjaaGreatDoor
end
section
namespace Go.Proofs.YthilboheomikjaaGreatDoor
open Go.AL Go.Lib
set_option maxRecDepth 100000
structure ZnE (N:List Zw) (T:Nat→Prop) (s:List Bool) (o:List Int):Prop where
  len:s.length=N.length
  root:∀t,T t→Sn s t
  new:∀j,Sn s j→∃t,T t∧ZcU N t j
  out:∀t∈o,∃j:Nat,t=(j:Int)∧Stop N j∧∃r,T r∧ZcU N r j
  stop:∀j,Sn s j→Stop N j→(j:Int)∈o
  eps:∀j,Sn s j→∀x,Eps N j x→∀t∈x.f_next,∃q:Nat,t=(q:Int)∧Sn s q
  size:o.length+s.count false≤N.length
theorem ZkJ (n j:Nat):¬Sn (List.replicate n false) j:=by
  unfold Sn
  rw [List.getElem?_replicate];split <;> simp
theorem ZnE.nil (N:List Zw):ZnE N (fun _=>False) (List.replicate N.length false) []:=
  ⟨by simp,fun _ h=>h.elim,fun j h=>absurd h (ZkJ _ _),fun _ h=>by simp at h,fun j h=>absurd h (ZkJ _ _),fun j h=>absurd h (ZkJ _ _),by simp⟩
theorem ZcU.acc {N:List Zw} {i j:Nat} (h:ZcU N i j) {n:Nat} {w:List Int} (ha:Acc N n j w):∃m,Acc N m i w:=by
  induction h with
  | refl i=>exact ⟨n,ha⟩
  | step hE ht _ ih=>obtain ⟨m,hm⟩:=ih ha;exact ⟨m+1,.eps hE.2.2 hE.1 hE.2.1 ht hm⟩
theorem Stop.lt {N:List Zw} {j:Nat} (h:Stop N j):j<N.length:=by
  obtain ⟨x,hx,_⟩:=h;exact (List.getElem?_eq_some_iff.1 hx).1
end Go.Proofs.YthilboheomikjaaGreatDoor
end
section
namespace Go.Proofs.YthilboheomikjaaGreatDoor
open Go.AL Go.Lib
set_option maxRecDepth 100000
theorem Zm6:((List.range 256).all fun y=>Zx .and .u8 (y:Int) 192 == ((y / 64*64:Nat):Int) && Zx .and .u8 (y:Int) 63 == ((y % 64:Nat):Int) && Zx .and .i64 (w64 (y:Int)) 31 == ((y % 32:Nat):Int) &&
    Zx .and .i64 (w64 (y:Int)) 15 == ((y % 16:Nat):Int) && Zx .and .i64 (w64 (y:Int)) 7 == ((y % 8:Nat):Int) && w64 (y:Int) == (y:Int) && w64 ((y % 64:Nat):Int) == ((y % 64:Nat):Int))=true:=by kernel_rfl
theorem Zj3 {y:Nat} (h:y<256):Zx .and .u8 (y:Int) 192=((y / 64*64:Nat):Int)∧Zx .and .u8 (y:Int) 63=((y % 64:Nat):Int)∧Zx .and .i64 (w64 (y:Int)) 31=((y % 32:Nat):Int)∧
    Zx .and .i64 (w64 (y:Int)) 15=((y % 16:Nat):Int)∧Zx .and .i64 (w64 (y:Int)) 7=((y % 8:Nat):Int)∧w64 (y:Int)=(y:Int)∧w64 ((y % 64:Nat):Int)=((y % 64:Nat):Int):=by
  have:=List.all_eq_true.1 Zm6 y (List.mem_range.2 h)
  simp only [Bool.and_eq_true,beq_iff_eq] at this
  obtain ⟨⟨⟨⟨⟨⟨a,b⟩,c⟩,d⟩,e⟩,f⟩,g⟩:=this
  exact ⟨a,b,c,d,e,f,g⟩
theorem Zi4 {s:List UInt8} {i j:Nat} (h:i+j<s.length):idxL s ((i:Int)+(j:Int))=some ((s.drop i).getD j 0):=by
  rw [show (i:Int)+(j:Int)=((i+j:Nat):Int) by omega,Zy]
  simp [List.getD,List.getElem?_drop,List.getElem?_eq_getElem h]
theorem ZoK (k:Nat) (c:Int):F67 k c=some (decide (ZM c)):=by
  unfold F67 ZeB ZM
  by_cases h1:c≥0 <;> by_cases h2:c≤1114111 <;> by_cases h3:c<55296 <;> by_cases h4:c > 57343 <;> simp [h1,h2,h3,h4] <;> omega
theorem Zds {k:Nat} {s:List UInt8} {i size:Nat} {least:Int} {m:Nat} {c:Int} {j:Nat} (hj:j<size) (hs:size≤4) (hb:i+size≤s.length) (hc:0≤c) (hc2:c<1048576) (hl:s.length≤4611686018427387904) :
    ZcI k s i size least (m+1) c j=if ((s.drop i).getD j 0).toNat / 64=2 then ZcI k s i size least m (c*64+((((s.drop i).getD j 0).toNat % 64:Nat):Int)) ((j+1:Nat):Int) else some (-1,1):=by
  have hy:=ZbJ (s.drop i) j
  obtain ⟨e1,e2,_,_,_,_,e7⟩:=Zj3 hy
  show Zex _ _ _ _ _ _ _ _=_
  unfold Zex
  rw [dt (by omega),Zu (x:=(i:Int)+(j:Int)) (by omega) (by omega),Zi4 (by omega)]
  simp only [cond,Option.bind_some]
  generalize ((s.drop i).getD j 0).toNat=y at *
  rw [e1,e2,e7]
  by_cases h:y / 64=2
  · rw [if_pos h,h,show (((2*64:Nat):Int) != 128)=false from rfl]
    simp only []
    rw [Zu (x:=c*64) (by omega) (by omega),Zu (by omega) (by omega),Zu (by omega) (by omega)]
    rfl
  · have:(((y / 64*64:Nat):Int) != 128)=true:=by rw [bne_iff_ne];omega
    rw [this,if_neg h]
theorem Zkh {k:Nat} {s:List UInt8} {i size:Nat} {least:Int} {m:Nat} {c:Int}:ZcI k s i size least (m+1) c size=if c<least∨¬ZM c then some (-1,1) else some (c,(size:Int)):=by
  show Zex _ _ _ _ _ _ _ _=_
  unfold Zex Zhx
  rw [df (by omega)]
  simp only [cond,ZoK,Option.bind_some]
  by_cases h:c<least
  · rw [dt h,if_pos (.inl h)]
  · rw [df h]
    by_cases hp:ZM c
    · rw [dt hp,if_neg (by simp [h,hp])];rfl
    · rw [df hp,if_pos (.inr hp)];rfl
theorem nxtN (l:List UInt8):nxt l=if (decodeN l.length (l.getD 0 0).toNat (l.getD 1 0).toNat (l.getD 2 0).toNat (l.getD 3 0).toNat)=((65533,1):Nat×Nat) then ((-1,1):Int×Int) else
    (((decodeN l.length (l.getD 0 0).toNat (l.getD 1 0).toNat (l.getD 2 0).toNat (l.getD 3 0).toNat).1:Int),((decodeN l.length (l.getD 0 0).toNat (l.getD 1 0).toNat (l.getD 2 0).toNat (l.getD 3 0).toNat).2:Int)):=by
  unfold nxt
  rw [←decodeL_N]
  have:bad l↔decodeL l=(65533,1):=⟨fun ⟨a,b⟩=>Prod.ext a b,fun h=>⟨by rw [h],by rw [h]⟩⟩
  by_cases h:decodeL l=(65533,1)
  · rw [if_pos h,if_pos (this.2 h)]
  · rw [if_neg h,if_neg (fun q=>h (this.1 q))]
theorem Zg7 {k:Nat} {s:List UInt8} {i size:Nat} {c least:Int} (h:s.length<i+size) (hl:s.length≤4611686018427387904) (hi:i<s.length) (hsz:size≤4):Zbs k s i c size least=some (-1,1):=by
  unfold Zbs
  rw [Zu (by omega) (by omega),dt (by omega)];rfl
theorem ZiI {k:Nat} {s:List UInt8} {i size:Nat} {c least:Int} (h:i+size≤s.length) (hl:s.length≤4611686018427387904):Zbs k s i c size least=ZcI k s i size least k c 1:=by
  unfold Zbs
  rw [Zu (by omega) (by omega),df (by omega)];rfl
def fin (D:Int) (least:Int) (size:Int):Option (Int×Int):=if D<least∨¬ZM D then some (-1,1) else some (D,size)
theorem j4_2 {k:Nat} {s:List UInt8} {i:Nat} {c least:Int} (hc:0≤c) (hc2:c<32) (hl:s.length≤4611686018427387904) (hi:i<s.length) :
    Zbs (k+5) s i c 2 least=if 1<s.length-i∧((s.drop i).getD 1 0).toNat / 64=2 then fin (c*64+((((s.drop i).getD 1 0).toNat % 64:Nat):Int)) least 2 else some (-1,1):=by
  by_cases l1:i+2≤s.length
  · refine (ZiI (size:=2) l1 hl).trans ((Zds (size:=2) (j:=1) (m:=k+4) (by omega) (by omega) l1 hc (by omega) hl).trans ?_)
    by_cases c1:((s.drop i).getD 1 0).toNat / 64=2
    · rw [if_pos c1,if_pos ⟨by omega,c1⟩];exact Zkh
    · rw [if_neg c1,if_neg (fun h=>c1 h.2)]
  · rw [if_neg (fun h=>by omega)];exact Zg7 (size:=2) (by omega) hl hi (by omega)
theorem j4_3 {k:Nat} {s:List UInt8} {i:Nat} {c least:Int} (hc:0≤c) (hc2:c<32) (hl:s.length≤4611686018427387904) (hi:i<s.length) :
    Zbs (k+5) s i c 3 least=if (1<s.length-i∧((s.drop i).getD 1 0).toNat / 64=2)∧(2<s.length-i∧((s.drop i).getD 2 0).toNat / 64=2) then
      fin ((c*64+((((s.drop i).getD 1 0).toNat % 64:Nat):Int))*64+((((s.drop i).getD 2 0).toNat % 64:Nat):Int)) least 3 else some (-1,1):=by
  by_cases l1:i+3≤s.length
  · refine (ZiI (size:=3) l1 hl).trans ((Zds (size:=3) (j:=1) (m:=k+4) (by omega) (by omega) l1 hc (by omega) hl).trans ?_)
    by_cases c1:((s.drop i).getD 1 0).toNat / 64=2
    · rw [if_pos c1]
      refine (Zds (size:=3) (j:=2) (m:=k+3) (by omega) (by omega) l1 (by omega) (by omega) hl).trans ?_
      by_cases c2:((s.drop i).getD 2 0).toNat / 64=2
      · rw [if_pos c2,if_pos ⟨⟨by omega,c1⟩,by omega,c2⟩];exact Zkh
      · rw [if_neg c2,if_neg (fun h=>c2 h.2.2)]
    · rw [if_neg c1,if_neg (fun h=>c1 h.1.2)]
  · rw [if_neg (fun h=>by omega)];exact Zg7 (size:=3) (by omega) hl hi (by omega)
theorem j4_4 {k:Nat} {s:List UInt8} {i:Nat} {c least:Int} (hc:0≤c) (hc2:c<16) (hl:s.length≤4611686018427387904) (hi:i<s.length) :
    Zbs (k+5) s i c 4 least=if (1<s.length-i∧((s.drop i).getD 1 0).toNat / 64=2)∧(2<s.length-i∧((s.drop i).getD 2 0).toNat / 64=2)∧(3<s.length-i∧((s.drop i).getD 3 0).toNat / 64=2) then
      fin (((c*64+((((s.drop i).getD 1 0).toNat % 64:Nat):Int))*64+((((s.drop i).getD 2 0).toNat % 64:Nat):Int))*64+((((s.drop i).getD 3 0).toNat % 64:Nat):Int)) least 4 else some (-1,1):=by
  by_cases l1:i+4≤s.length
  · refine (ZiI (size:=4) l1 hl).trans ((Zds (size:=4) (j:=1) (m:=k+4) (by omega) (by omega) l1 hc (by omega) hl).trans ?_)
    by_cases c1:((s.drop i).getD 1 0).toNat / 64=2
    · rw [if_pos c1]
      refine (Zds (size:=4) (j:=2) (m:=k+3) (by omega) (by omega) l1 (by omega) (by omega) hl).trans ?_
      by_cases c2:((s.drop i).getD 2 0).toNat / 64=2
      · rw [if_pos c2]
        refine (Zds (size:=4) (j:=3) (m:=k+2) (by omega) (by omega) l1 (by omega) (by omega) hl).trans ?_
        by_cases c3:((s.drop i).getD 3 0).toNat / 64=2
        · rw [if_pos c3,if_pos ⟨⟨by omega,c1⟩,⟨by omega,c2⟩,by omega,c3⟩];exact Zkh
        · rw [if_neg c3,if_neg (fun h=>c3 h.2.2.2)]
      · rw [if_neg c2,if_neg (fun h=>c2 h.2.1.2)]
    · rw [if_neg c1,if_neg (fun h=>c1 h.1.2)]
  · rw [if_neg (fun h=>by omega)];exact Zg7 (size:=4) (by omega) hl hi (by omega)
set_option maxHeartbeats 1000000 in
theorem ZjN {k:Nat} {s:List UInt8} {i:Nat} (hk:5≤k) (hi:i<s.length) (hs:s.length≤4611686018427387904):F46 k s (i:Int)=some (nxt (s.drop i)):=by
  obtain ⟨k,rfl⟩:∃q,k=q+5:=⟨k-5,by omega⟩
  have h0:=ZbJ (s.drop i) 0;have h1:=ZbJ (s.drop i) 1;have h2:=ZbJ (s.drop i) 2;have h3:=ZbJ (s.drop i) 3
  obtain ⟨_,_,e3,e4,e5,e6,_⟩:=Zj3 h0
  have hn:(s.drop i).length=s.length-i:=List.length_drop ..
  have d0:=Zi4 (s:=s) (i:=i) (j:=0) (by omega)
  rw [show (i:Int)+((0:Nat):Int)=(i:Int) by omega] at d0
  rw [nxtN]
  unfold F46 Zfw
  rw [df (by omega),df (by omega)]
  simp only [cond]
  rw [d0]
  simp only [Option.bind_some]
  unfold Zhu Zhv Zhw
  rw [e3,e4,e5,e6,j4_2 (by omega) (by omega) hs hi,j4_3 (by omega) (by omega) hs hi,j4_4 (by omega) (by omega) hs hi]
  rw [hn]
  generalize ((s.drop i).getD 0 0).toNat=b0 at *
  generalize ((s.drop i).getD 1 0).toNat=b1 at *
  generalize ((s.drop i).getD 2 0).toNat=b2 at *
  generalize ((s.drop i).getD 3 0).toNat=b3 at *
  generalize s.length-i=n at *
  clear e3 e4 e5 e6 d0 hn
  have bad_:∀{x:Option (Int×Int)} {D:Nat×Nat},D=(65533,1)→x=some (-1,1)→x=some (if D=((65533,1):Nat×Nat) then ((-1,1):Int×Int) else ((D.1:Int),(D.2:Int))):=fun h h'=>by rw [h',if_pos h]
  have good_:∀{x:Option (Int×Int)} {D:Nat×Nat} {a b:Nat},D=(a,b)→b≠1→x=some ((a:Int),(b:Int))→x=some (if D=((65533,1):Nat×Nat) then ((-1,1):Int×Int) else ((D.1:Int),(D.2:Int))):=fun h hb h'=>by
    rw [h',h,if_neg (fun q=>hb (Prod.ext_iff.1 q).2)]
  by_cases g0:b0<128
  · rw [dt (show ((b0:Nat):Int)<128 by omega)]
    have u:decodeN n b0 b1 b2 b3=(b0,1):=by unfold decodeN;rw [if_pos g0]
    rw [u,if_neg (show ¬((b0,1):Nat×Nat)=(65533,1) from fun h=>by have:=(Prod.ext_iff.1 h).1;simp only [] at this;omega)];rfl
  rw [df (show ¬((b0:Nat):Int)<128 by omega)]
  by_cases g1:b0<192
  · rw [df (show ¬((b0:Nat):Int)≥192 by omega),df (show ¬((b0:Nat):Int)≥224 by omega),df (show ¬((b0:Nat):Int)≥240 by omega)]
    exact bad_ (decodeN_bad _ _ _ _ _ (.inl ⟨by omega,by omega⟩)) rfl
  rw [dt (show ((b0:Nat):Int)≥192 by omega)]
  by_cases g2:b0<224
  · rw [dt (show ((b0:Nat):Int)<224 by omega)]
    show (if _ then _ else _)=_
    by_cases c1:1<n∧b1 / 64=2
    · rw [if_pos c1]
      unfold fin
      by_cases c2:b0 % 32*64+b1 % 64≥128
      · refine good_ (a:=b0 % 32*64+b1 % 64) (b:=2) ?_ (by omega) ?_
        · unfold decodeN;rw [if_neg g0,if_pos ⟨by omega,c1⟩,if_pos c2]
        · rw [if_neg (by unfold ZM;omega)];rfl
      · refine bad_ ?_ ?_
        · unfold decodeN;rw [if_neg g0,if_pos ⟨by omega,c1⟩,if_neg c2]
        · rw [if_pos (.inl (by omega))]
    · rw [if_neg c1]
      refine bad_ ?_ rfl
      unfold decodeN;rw [if_neg g0,if_neg (fun h=>c1 h.2),if_neg (fun h=>by omega),if_neg (fun h=>by omega)]
  rw [df (show ¬((b0:Nat):Int)<224 by omega),dt (show ((b0:Nat):Int)≥224 by omega)]
  by_cases g3:b0<240
  · rw [dt (show ((b0:Nat):Int)<240 by omega)]
    show (if _ then _ else _)=_
    by_cases c1:(1<n∧b1 / 64=2)∧(2<n∧b2 / 64=2)
    · rw [if_pos c1]
      unfold fin
      by_cases c2:b0 % 16*4096+b1 % 64*64+b2 % 64≥2048∧(b0 % 16*4096+b1 % 64*64+b2 % 64<55296∨(57344≤b0 % 16*4096+b1 % 64*64+b2 % 64∧b0 % 16*4096+b1 % 64*64+b2 % 64≤1114111))
      · refine good_ (a:=b0 % 16*4096+b1 % 64*64+b2 % 64) (b:=3) ?_ (by omega) ?_
        · unfold decodeN;rw [if_neg g0,if_neg (fun h=>by omega),if_pos ⟨by omega,c1⟩,if_pos c2]
        · rw [if_neg (by unfold ZM;omega)];congr 2;omega
      · refine bad_ ?_ ?_
        · unfold decodeN;rw [if_neg g0,if_neg (fun h=>by omega),if_pos ⟨by omega,c1⟩,if_neg c2]
        · rw [if_pos (by unfold ZM;omega)]
    · rw [if_neg c1]
      refine bad_ ?_ rfl
      unfold decodeN;rw [if_neg g0,if_neg (fun h=>by omega),if_neg (fun h=>c1 h.2),if_neg (fun h=>by omega)]
  rw [df (show ¬((b0:Nat):Int)<240 by omega),dt (show ((b0:Nat):Int)≥240 by omega)]
  by_cases g4:b0<248
  · rw [dt (show ((b0:Nat):Int)<248 by omega)]
    show (if _ then _ else _)=_
    by_cases c1:(1<n∧b1 / 64=2)∧(2<n∧b2 / 64=2)∧(3<n∧b3 / 64=2)
    · rw [if_pos c1]
      unfold fin
      by_cases c2:b0 % 8*262144+b1 % 64*4096+b2 % 64*64+b3 % 64≥65536∧(b0 % 8*262144+b1 % 64*4096+b2 % 64*64+b3 % 64<55296∨(57344≤b0 % 8*262144+b1 % 64*4096+b2 % 64*64+b3 % 64∧b0 % 8*262144+b1 % 64*4096+b2 % 64*64+b3 % 64≤1114111))
      · refine good_ (a:=b0 % 8*262144+b1 % 64*4096+b2 % 64*64+b3 % 64) (b:=4) ?_ (by omega) ?_
        · unfold decodeN;rw [if_neg g0,if_neg (fun h=>by omega),if_neg (fun h=>by omega),if_pos ⟨by omega,c1⟩,if_pos c2]
        · rw [if_neg (by unfold ZM;omega)];congr 2;omega
      · refine bad_ ?_ ?_
        · unfold decodeN;rw [if_neg g0,if_neg (fun h=>by omega),if_neg (fun h=>by omega),if_pos ⟨by omega,c1⟩,if_neg c2]
        · rw [if_pos (by unfold ZM;omega)]
    · rw [if_neg c1]
      refine bad_ ?_ rfl
      unfold decodeN;rw [if_neg g0,if_neg (fun h=>by omega),if_neg (fun h=>by omega),if_neg (fun h=>c1 h.2)]
  · rw [df (show ¬((b0:Nat):Int)<248 by omega)]
    exact bad_ (decodeN_bad _ _ _ _ _ (.inr ⟨by omega,by omega⟩)) rfl
theorem ZjH {k:Nat} {s:List UInt8} (hk:5≤k) (hs:s.length≤4611686018427387904):∀(m i:Nat),i≤s.length→s.length-i<m→Zfu k s m (i:Int)=some (validD (s.drop i))
  | 0,i,_,h=>by omega
  | m+1,i,hi,h=>by
    show Zhm _ _ _ _=_
    unfold Zhm
    rcases Nat.lt_or_ge i s.length with hl | hl
    · have hne:s.drop i≠[]:=fun h=>by have:=congrArg List.length h;rw [List.length_drop] at this;simp at this;omega
      have hle:=decodeL_le _ hne
      rw [List.length_drop] at hle
      have hw:=decodeL_width (s.drop i)
      rw [dt (by omega),ZjN hk hl hs]
      simp only [cond,Option.bind_some]
      unfold nxt
      by_cases hb:bad (s.drop i)
      · rw [if_pos hb,ZmT hne hb];rfl
      · rw [if_neg hb,ZlS hne hb,df (by simp only [];omega)]
        (try dsimp only)
        rw [Zu (by omega) (by omega),show (i:Int)+((decodeL (s.drop i)).2:Nat)=((i+(decodeL (s.drop i)).2:Nat):Int) by omega,ZjH hk hs m _ (by omega) (by omega),List.drop_drop]
    · have:s.drop i=[]:=List.drop_eq_nil_of_le hl
      rw [df (by omega),this,validD_nil];rfl
theorem ZoD {k:Nat} {s:List UInt8} (hk:5≤k) (hk2:s.length<k) (hs:s.length≤4611686018427387904):F25 k s=some (validD s):=by
  unfold F25
  exact ZjH hk hs k 0 (Nat.zero_le _) (by omega)
end Go.Proofs.YthilboheomikjaaGreatDoor
end
section
namespace Go.Proofs.YthilboheomikjaaGreatDoor
open Go.AL Go.Lib
set_option maxRecDepth 100000
theorem ZcF {α:Type} (a:α) (l:List α):idxL (a :: l) 0=some a:=rfl
theorem Zja (m:Nat) (l acc:List Zb):Zcd l (m+1) acc (l.length:Int)=some acc:=by
  show ZcN _ _ _ _=_
  unfold ZcN
  rw [df (by omega)]
  rfl
theorem mn_l {a b:Int} (h:a≤b):mn a b=a:=by unfold mn;rw [if_neg (by omega)]
def ptsR:List Zb:=[⟨0,55295⟩,⟨57344,1114111⟩]
theorem ZjS (k:Nat):F59 k=some ptsR:=rfl
end Go.Proofs.YthilboheomikjaaGreatDoor
end
section
namespace Go.Proofs.YthilboheomikjaaGreatDoor
open Go.AL Go.Lib
set_option maxRecDepth 100000
theorem Z0 {α:Type} {y l:List α} {i:Nat} {r:α} (h:y.drop i=r :: l):i<y.length∧y[i]?=some r∧y.drop (i+1)=l:=by
  have h1:i<y.length:=by
    refine Nat.lt_of_not_le fun h2=>?_
    rw [List.drop_eq_nil_of_le h2] at h
    cases h
  rw [List.drop_eq_getElem_cons h1] at h
  injection h with h2 h3
  exact ⟨h1,by rw [List.getElem?_eq_getElem h1,h2],h3⟩
theorem Z5 {α:Type} {y:List α} {i:Nat} (h:y.drop i=[]):y.length≤i:=List.drop_eq_nil_iff.1 h
theorem Z2 {i:Nat} (h:i≤4611686018427387904):w64 ((i:Int)+1)=((i+1:Nat):Int):=by rw [Zu (by omega) (by omega)];omega
def mrg:Zb→List Zb→List Zb
  | p,[]=>[p]
  | p,r :: l=>if r.f_Lo≤w64 (p.f_Hi+1) then mrg { p with f_Hi:=mx p.f_Hi r.f_Hi } l else p :: mrg r l
def mrgs:List Zb→List Zb
  | []=>[]
  | r :: l=>mrg r l
theorem ZiK:∀(l:List Zb) (p:Zb),(mrg p l).length≤l.length+1
  | [],p=>Nat.le_refl _
  | r :: l,p=>by
    unfold mrg
    split
    · have:=ZiK l { p with f_Hi:=mx p.f_Hi r.f_Hi };rw [List.length_cons];omega
    · have:=ZiK l r;rw [List.length_cons,List.length_cons];omega
theorem Zkk (l:List Zb):(mrgs l).length≤l.length:=by
  cases l with
  | nil=>exact Nat.le_refl _
  | cons r l=>exact ZiK l r
theorem Zff {y:List Zb} (hy:y.length≤1073741824):∀(l acc:List Zb) (p:Zb) (i m:Nat),y.drop i=l→acc.length+1+l.length≤1073741824→l.length<m→i≤y.length→
    Zcd y m (acc ++ [p]) (i:Int)=some (acc ++ mrg p l)
  | [],acc,p,i,m,hd,ha,hm,hi=>by
    obtain ⟨m,rfl⟩:∃q,m=q+1:=⟨m-1,by simp at hm;omega⟩
    have:=Z5 hd
    rw [show (i:Int)=(y.length:Int) by omega]
    exact Zja m y _
  | r :: l,acc,p,i,m,hd,ha,hm,hi=>by
    obtain ⟨m,rfl⟩:∃q,m=q+1:=⟨m-1,by omega⟩
    obtain ⟨h1,h2,h3⟩:=Z0 hd
    rw [List.length_cons] at ha hm
    have hl:(acc ++ [p]).length=acc.length+1:=by simp
    have ew:w64 (((acc ++ [p]).length:Int)-1)=(acc.length:Int):=by rw [hl,Zu (by omega) (by omega)];omega
    have el:idxL (acc ++ [p]) (acc.length:Int)=some p:=by rw [Zy];simp
    show ZcN (Zcd y m) y _ _=_
    unfold ZcN
    rw [dt (by omega),cond_true,Zy,h2,Option.bind_some,dt (by omega),cond_true,ew,if_pos ⟨by omega,by omega⟩,el,Option.bind_some]
    unfold ZfA
    rw [ew]
    by_cases hc:r.f_Lo≤w64 (p.f_Hi+1)
    · rw [dt hc,cond_true,if_pos ⟨by omega,by omega⟩,el,Option.bind_some,if_pos ⟨by omega,by omega⟩,Option.bind_some]
      unfold ZeE
      rw [Z2 (by omega)]
      have es:(acc ++ [p]).set (Int.toNat (acc.length:Int)) { p with f_Hi:=mx p.f_Hi r.f_Hi } = acc ++ [{ p with f_Hi:=mx p.f_Hi r.f_Hi }]:=by
        rw [Int.toNat_natCast,List.set_append_right (h:=Nat.le_refl _),Nat.sub_self];rfl
      rw [es,Zff hy l acc _ (i+1) m h3 (by omega) (by omega) (by omega)]
      conv=>rhs;unfold mrg
      rw [if_pos hc]
    · rw [df hc,cond_false,if_pos (by rw [hl];simp;omega)]
      unfold ZeE
      rw [Z2 (by omega),Zff hy l (acc ++ [p]) r (i+1) m h3 (by rw [hl];omega) (by omega) (by omega)]
      conv=>rhs;unfold mrg
      rw [if_neg hc,List.append_assoc]
      rfl
theorem Zmx {y:List Zb} {k:Nat} (hy:y.length≤1073741824) (hk:y.length<k):Zcd y k [] 0=some (mrgs y):=by
  cases y with
  | nil=>
    obtain ⟨m,rfl⟩:∃q,k=q+1:=⟨k-1,by omega⟩
    exact Zja m [] []
  | cons r l=>
    obtain ⟨m,rfl⟩:∃q,k=q+1:=⟨k-1,by omega⟩
    rw [List.length_cons] at hy hk
    show ZcN (Zcd (r :: l) m) (r :: l) _ _=_
    unfold ZcN
    rw [dt (by simp),cond_true,ZcF,Option.bind_some,df (by simp),cond_false]
    unfold ZfA
    rw [cond_false,if_pos (by simp)]
    unfold ZeE
    have e1:w64 ((0:Int)+1)=((1:Nat):Int):=by rw [Zu (by omega) (by omega)];rfl
    rw [e1]
    have:=Zff (y:=r :: l) (by rw [List.length_cons];exact hy) l [] r 1 m rfl (by simp;omega) (by omega) (by simp)
    rw [List.nil_append] at this ⊢
    exact this
theorem Zng {k:Nat} {l:List Zb} (hl:l.length≤536870912) (hk:2*l.length+8≤k) :
    ∃l',F77 k l=some (mrgs l')∧List.Perm l' l∧(Small l→ZL l' 0 l'.length):=by
  obtain ⟨l',e,p,s⟩:=Zow (k:=k) (v:=l) (by omega) hk
  have hl':=p.length_eq
  refine ⟨l',?_,p,s⟩
  unfold F77
  have e1:F102 k l=some l:=by unfold F102;exact if_pos (by omega)
  rw [e1,Option.bind_some,e,Option.bind_some,if_pos hl',Zmx (by omega) (by omega)]
def Z8:Int→List Zb→Prop
  | _,[]=>True
  | b,r :: l=>b≤r.f_Lo∧r.f_Lo≤r.f_Hi∧Z8 (r.f_Hi+2) l
theorem ZO {r:Zb} {l:List Zb} {c:Int}:inR (r :: l) c↔(r.f_Lo≤c∧c≤r.f_Hi)∨inR l c:=by
  unfold inR
  constructor
  · rintro ⟨x,hx,h⟩
    rcases List.mem_cons.1 hx with rfl | hx
    · exact .inl h
    · exact .inr ⟨x,hx,h⟩
  · rintro (h | ⟨x,hx,h⟩)
    · exact ⟨r,List.mem_cons_self,h⟩
    · exact ⟨x,List.mem_cons_of_mem _ hx,h⟩
theorem ZaL {c:Int}:¬inR [] c:=by rintro ⟨x,hx,_⟩;cases hx
theorem Zkf {l l':List Zb} (p:List.Perm l l') (c:Int):inR l c↔inR l' c:=
  ⟨fun ⟨x,hx,h⟩=>⟨x,p.mem_iff.1 hx,h⟩,fun ⟨x,hx,h⟩=>⟨x,p.mem_iff.2 hx,h⟩⟩
theorem Zh1 {l l':List Zb} {c:Int}:inR (l ++ l') c↔inR l c∨inR l' c:=by
  unfold inR
  constructor
  · rintro ⟨x,hx,h⟩
    rcases List.mem_append.1 hx with hx | hx
    · exact .inl ⟨x,hx,h⟩
    · exact .inr ⟨x,hx,h⟩
  · rintro (⟨x,hx,h⟩ | ⟨x,hx,h⟩)
    · exact ⟨x,List.mem_append_left _ hx,h⟩
    · exact ⟨x,List.mem_append_right _ hx,h⟩
theorem Z8.ge:∀{l:List Zb} {b c:Int},Z8 b l→inR l c→b≤c
  | [],_,_,_,h=>absurd h ZaL
  | r :: l,b,c,⟨h1,h2,h3⟩,h=>by
    rcases ZO.1 h with h | h
    · omega
    · have:=h3.ge h;omega
theorem Z8.mono {l:List Zb} {b c:Int} (h:Z8 b l) (hc:c≤b):Z8 c l:=by
  cases l with
  | nil=>trivial
  | cons r l=>exact ⟨by have:=h.1;omega,h.2⟩
theorem ZgY:∀{l l':List Zb} {b b':Int},Z8 b l→Z8 b' l'→(∀c,inR l c↔inR l' c)→l=l'
  | [],[],_,_,_,_,_=>rfl
  | [],r :: l',_,_,_,h,e=>absurd ((e r.f_Lo).2 (ZO.2 (.inl ⟨Int.le_refl _,h.2.1⟩))) ZaL
  | r :: l,[],_,_,h,_,e=>absurd ((e r.f_Lo).1 (ZO.2 (.inl ⟨Int.le_refl _,h.2.1⟩))) ZaL
  | r :: l,s :: l',b,b',⟨h1,h2,h3⟩,⟨g1,g2,g3⟩,e=>by
    have lo1:=ZO.1 ((e r.f_Lo).1 (ZO.2 (.inl ⟨Int.le_refl _,h2⟩)))
    have lo2:=ZO.1 ((e s.f_Lo).2 (ZO.2 (.inl ⟨Int.le_refl _,g2⟩)))
    have elo:r.f_Lo=s.f_Lo:=by
      have a1:s.f_Lo≤r.f_Lo:=lo1.elim (fun h=>by omega) (fun h=>by have:=g3.ge h;omega)
      have a2:r.f_Lo≤s.f_Lo:=lo2.elim (fun h=>by omega) (fun h=>by have:=h3.ge h;omega)
      omega
    have ehi:r.f_Hi=s.f_Hi:=by
      by_cases h4:r.f_Hi<s.f_Hi
      · rcases ZO.1 ((e (r.f_Hi+1)).2 (ZO.2 (.inl ⟨by omega,by omega⟩))) with h | h
        · omega
        · have:=h3.ge h;omega
      · by_cases h5:s.f_Hi<r.f_Hi
        · rcases ZO.1 ((e (s.f_Hi+1)).1 (ZO.2 (.inl ⟨by omega,by omega⟩))) with h | h
          · omega
          · have:=g3.ge h;omega
        · omega
    have:l=l':=ZgY h3 g3 fun c=>by
      constructor
      · intro h
        have hc:=h3.ge h
        rcases ZO.1 ((e c).1 (ZO.2 (.inr h))) with h' | h'
        · omega
        · exact h'
      · intro h
        have hc:=g3.ge h
        rcases ZO.1 ((e c).2 (ZO.2 (.inr h))) with h' | h'
        · omega
        · exact h'
    subst this
    cases r;cases s
    simp only at elo ehi
    subst elo;subst ehi;rfl
def Bd (l:List Zb):Prop:=∀r∈l,0≤r.f_Lo∧r.f_Lo≤r.f_Hi∧r.f_Hi≤1114111
theorem Bd.small {l:List Zb} (h:Bd l):Small l:=fun r hr=>by have:=h r hr;omega
theorem Bd.perm {l l':List Zb} (h:Bd l) (p:List.Perm l' l):Bd l':=fun r hr=>h r (p.mem_iff.1 hr)
def Rise:List Zb→Prop
  | []=>True
  | r :: l=>(∀x∈l,r.f_Lo≤x.f_Lo)∧Rise l
theorem Zlr:∀{l:List Zb},ZL l 0 l.length→Rise l
  | [],_=>trivial
  | r :: l,h=>⟨fun x hx=>by
      obtain ⟨i,hi,rfl⟩:=List.mem_iff_getElem.1 hx
      exact h 0 (i+1) r _ (Nat.zero_le _) (by omega) (by simp;omega) rfl (by rw [List.getElem?_cons_succ,List.getElem?_eq_getElem hi]),
    Zlr fun p q x y _ hpq hq hx hy=>h (p+1) (q+1) x y (Nat.zero_le _) (by omega) (by simp;omega) (by rw [List.getElem?_cons_succ];exact hx) (by rw [List.getElem?_cons_succ];exact hy)⟩
theorem ZfT:∀(l:List Zb) (p:Zb),Rise (p :: l)→Bd (p :: l)→Z8 p.f_Lo (mrg p l)∧(∀c,inR (mrg p l) c↔inR (p :: l) c)∧Bd (mrg p l)
  | [],p,_,hb=>⟨⟨Int.le_refl _,(hb p List.mem_cons_self).2.1,trivial⟩,fun _=>Iff.rfl,hb⟩
  | r :: l,p,hr,hb=>by
    have hp:=hb p List.mem_cons_self
    have hrr:=hb r (List.mem_cons_of_mem _ List.mem_cons_self)
    have hpr:=hr.1 r List.mem_cons_self
    unfold mrg
    rw [Zu (x:=p.f_Hi+1) (by omega) (by omega)]
    by_cases hc:r.f_Lo≤p.f_Hi+1
    · rw [if_pos hc]
      have hm:p.f_Hi≤mx p.f_Hi r.f_Hi∧r.f_Hi≤mx p.f_Hi r.f_Hi∧(mx p.f_Hi r.f_Hi=p.f_Hi∨mx p.f_Hi r.f_Hi=r.f_Hi):=by unfold mx;split <;> omega
      obtain ⟨h1,h2,h3⟩:=ZfT l { p with f_Hi:=mx p.f_Hi r.f_Hi } ⟨fun x hx=>hr.1 x (List.mem_cons_of_mem _ hx),hr.2.2⟩ (fun x hx=>by
        rcases List.mem_cons.1 hx with rfl | hx
        · exact ⟨hp.1,by simp only;omega,by simp only;omega⟩
        · exact hb x (List.mem_cons_of_mem _ (List.mem_cons_of_mem _ hx)))
      refine ⟨h1,fun c=>(h2 c).trans ?_,h3⟩
      rw [ZO,ZO,ZO]
      simp only
      constructor
      · rintro (h | h)
        · by_cases h5:c≤p.f_Hi
          · exact .inl ⟨h.1,h5⟩
          · exact .inr (.inl ⟨by omega,by omega⟩)
        · exact .inr (.inr h)
      · rintro (h | h | h)
        · exact .inl ⟨h.1,by omega⟩
        · exact .inl ⟨by omega,by omega⟩
        · exact .inr h
    · rw [if_neg hc]
      obtain ⟨h1,h2,h3⟩:=ZfT l r hr.2 (fun x hx=>hb x (List.mem_cons_of_mem _ hx))
      refine ⟨⟨Int.le_refl _,hp.2.1,h1.mono (by omega)⟩,fun c=>?_,fun x hx=>?_⟩
      · rw [ZO,ZO,h2]
      · rcases List.mem_cons.1 hx with rfl | hx
        · exact hp
        · exact h3 x hx
theorem Zh6 {l:List Zb} (hr:Rise l) (hb:Bd l):Z8 0 (mrgs l)∧(∀c,inR (mrgs l) c↔inR l c)∧Bd (mrgs l):=by
  cases l with
  | nil=>exact ⟨trivial,fun _=>Iff.rfl,hb⟩
  | cons p l=>
    obtain ⟨h1,h2,h3⟩:=ZfT l p hr hb
    exact ⟨h1.mono (hb p List.mem_cons_self).1,h2,h3⟩
theorem ZiL {k:Nat} {l:List Zb} (hl:l.length≤536870912) (hk:2*l.length+8≤k) (hb:Bd l) :
    ∃l',F77 k l=some l'∧Z8 0 l'∧(∀c,inR l' c↔inR l c)∧Bd l'∧l'.length≤l.length:=by
  obtain ⟨l',e,p,s⟩:=Zng hl hk
  obtain ⟨h1,h2,h3⟩:=Zh6 (Zlr (s hb.small)) (hb.perm p)
  exact ⟨_,e,h1,fun c=>(h2 c).trans (Zkf p c),h3,by have:=Zkk l';have:=p.length_eq;omega⟩
theorem ZmB {k:Nat} {l:List Zb} (hl:l.length≤536870912) (hk:2*l.length+8≤k) (hb:Bd l) (ha:Z8 0 l):F77 k l=some l:=by
  obtain ⟨l',e,h1,h2,_⟩:=ZiL hl hk hb
  rw [e,ZgY h1 ha h2]
end Go.Proofs.YthilboheomikjaaGreatDoor
end
section
namespace Go.Proofs.YthilboheomikjaaGreatDoor
open Go.AL Go.Lib
set_option maxRecDepth 100000
def cutR (x y:Zb):List Zb:=if mx x.f_Lo y.f_Lo≤mn x.f_Hi y.f_Hi then [⟨mx x.f_Lo y.f_Lo,mn x.f_Hi y.f_Hi⟩] else []
def Zaw (a b:List Zb):List Zb:=a.flatMap fun x=>b.flatMap (cutR x)
theorem ZgE {a b c:Int}:mx a b≤c↔a≤c∧b≤c:=by unfold mx;split <;> omega
theorem Zh4 {a b c:Int}:c≤mn a b↔c≤a∧c≤b:=by unfold mn;split <;> omega
theorem Zle {x y:Zb} {c:Int}:inR (cutR x y) c↔(x.f_Lo≤c∧c≤x.f_Hi)∧(y.f_Lo≤c∧c≤y.f_Hi):=by
  unfold cutR
  split
  · rw [ZO]
    simp only [ZgE,Zh4]
    constructor
    · rintro (h | h)
      · exact ⟨⟨h.1.1,h.2.1⟩,h.1.2,h.2.2⟩
      · exact absurd h ZaL
    · rintro ⟨⟨h1,h2⟩,h3,h4⟩;exact .inl ⟨⟨h1,h3⟩,h2,h4⟩
  · rename_i h
    rw [ZgE,Zh4,Zh4] at h
    exact ⟨fun h=>absurd h ZaL,fun ⟨⟨h1,h2⟩,h3,h4⟩=>absurd ⟨⟨by omega,by omega⟩,by omega,by omega⟩ h⟩
theorem Zj7 (x y:Zb):(cutR x y).length≤1:=by unfold cutR;split <;> simp
theorem Zd9 {α:Type} {l:List α} {f:α→List Zb} {c:Int}:inR (l.flatMap f) c↔∃x∈l,inR (f x) c:=by
  induction l with
  | nil=>exact ⟨fun h=>absurd h ZaL,fun ⟨_,h,_⟩=>by cases h⟩
  | cons x l ih=>
    rw [List.flatMap_cons,Zh1,ih]
    constructor
    · rintro (h | ⟨y,hy,h⟩)
      · exact ⟨x,List.mem_cons_self,h⟩
      · exact ⟨y,List.mem_cons_of_mem _ hy,h⟩
    · rintro ⟨y,hy,h⟩
      rcases List.mem_cons.1 hy with rfl | hy
      · exact .inl h
      · exact .inr ⟨y,hy,h⟩
theorem ZkC {a b:List Zb} {c:Int}:inR (Zaw a b) c↔inR a c∧inR b c:=by
  unfold Zaw
  rw [Zd9]
  constructor
  · rintro ⟨x,hx,h⟩
    obtain ⟨y,hy,h⟩:=Zd9.1 h
    obtain ⟨h1,h2⟩:=Zle.1 h
    exact ⟨⟨x,hx,h1⟩,y,hy,h2⟩
  · rintro ⟨⟨x,hx,h1⟩,y,hy,h2⟩
    exact ⟨x,hx,Zd9.2 ⟨y,hy,Zle.2 ⟨h1,h2⟩⟩⟩
theorem ZgH (x:Zb):∀b:List Zb,(b.flatMap (cutR x)).length≤b.length
  | []=>Nat.le_refl _
  | y :: b=>by
    rw [List.flatMap_cons,List.length_append,List.length_cons]
    have:=ZgH x b;have:=Zj7 x y;omega
theorem Zf0 (b:List Zb):∀a:List Zb,(Zaw a b).length≤a.length*b.length
  | []=>Nat.zero_le _
  | x :: a=>by
    have h1:=Zf0 b a
    have h2:=ZgH x b
    unfold Zaw at h1 ⊢
    rw [List.flatMap_cons,List.length_append,List.length_cons,Nat.add_mul]
    omega
theorem Zha {self8:List Zb→Int→Option (List Zb)} {v1:List Zb} {v158:Int} {x:Zb} (h1:v1.length≤1000):∀(l acc:List Zb) (j m:Nat),v1.drop j=l→acc.length+l.length≤1073741824→l.length<m→j≤v1.length→
    Zcv self8 v1 v158 x m acc (j:Int)=self8 (acc ++ l.flatMap (cutR x)) (w64 (v158+1))
  | [],acc,j,m,hd,ha,hm,hj=>by
    obtain ⟨m,rfl⟩:∃q,m=q+1:=⟨m-1,by simp at hm;omega⟩
    have:=Z5 hd
    show Zdn _ _ _ _ _ _ _=_
    unfold Zdn
    rw [df (by omega),cond_false,List.flatMap_nil,List.append_nil]
  | y :: l,acc,j,m,hd,ha,hm,hj=>by
    obtain ⟨m,rfl⟩:∃q,m=q+1:=⟨m-1,by omega⟩
    obtain ⟨g1,g2,g3⟩:=Z0 hd
    rw [List.length_cons] at ha hm
    show Zdn self8 (Zcv self8 v1 v158 x m) v1 v158 x acc (j:Int)=_
    unfold Zdn
    rw [dt (by omega),cond_true,Zy,g2,Option.bind_some,List.flatMap_cons]
    unfold Zgy
    rw [Z2 (by omega)]
    have hc0:=Zj7 x y
    by_cases hc:mx x.f_Lo y.f_Lo≤mn x.f_Hi y.f_Hi
    · have ec:cutR x y=[⟨mx x.f_Lo y.f_Lo,mn x.f_Hi y.f_Hi⟩]:=if_pos hc
      rw [dt hc,cond_true,if_pos (by simp;omega),Zha h1 l _ (j+1) m g3 (by simp;omega) (by omega) (by omega),ec,List.append_assoc]
    · have ec:cutR x y=[]:=if_neg hc
      rw [df hc,cond_false,Zha h1 l _ (j+1) m g3 (by omega) (by omega) (by omega),ec,List.nil_append]
theorem Zi9 {k:Nat} {v0 v1:List Zb} (h1:v1.length≤1000) (hk:v1.length<k) (h0:v0.length≤1073741824):∀(l acc:List Zb) (i m:Nat),v0.drop i=l→acc.length+l.length*v1.length≤1073741824→l.length<m→i≤v0.length→
    Zcc k v0 v1 m acc (i:Int)=F77 k (acc ++ Zaw l v1)
  | [],acc,i,m,hd,ha,hm,hi=>by
    obtain ⟨m,rfl⟩:∃q,m=q+1:=⟨m-1,by simp at hm;omega⟩
    have:=Z5 hd
    show ZeD _ _ _ _ _ _=_
    unfold ZeD
    rw [df (by omega),cond_false]
    show _=F77 k (acc ++ [])
    rw [List.append_nil]
    cases F77 k acc <;> rfl
  | x :: l,acc,i,m,hd,ha,hm,hi=>by
    obtain ⟨m,rfl⟩:∃q,m=q+1:=⟨m-1,by omega⟩
    obtain ⟨g1,g2,g3⟩:=Z0 hd
    rw [List.length_cons] at ha hm
    rw [Nat.add_mul,Nat.one_mul] at ha
    have hrl:=ZgH x v1
    show ZeD k (Zcc k v0 v1 m) v0 v1 acc (i:Int)=_
    unfold ZeD
    rw [dt (by omega),cond_true,Zy,g2,Option.bind_some]
    have e:=Zha (self8:=Zcc k v0 v1 m) (v158:=(i:Int)) (x:=x) h1 v1 acc 0 k rfl (by omega) hk (Nat.zero_le _)
    have e':Zcv (Zcc k v0 v1 m) v1 (i:Int) x k acc 0=Zcc k v0 v1 m (acc ++ v1.flatMap (cutR x)) (w64 ((i:Int)+1)):=e
    rw [e',Z2 (by omega),Zi9 h1 hk h0 l _ (i+1) m g3 (by rw [List.length_append];omega) (by omega) (by omega),List.append_assoc]
    rfl
theorem ZmK {c:Int}:inR ptsR c↔ZM c:=by
  unfold ptsR ZM
  rw [ZO,ZO]
  constructor
  · rintro (h | h | h)
    · simp only at h;omega
    · simp only at h;omega
    · exact absurd h ZaL
  · intro h
    simp only
    omega
def ZcT (l:List Zb):Prop:=Z8 0 l∧∀c,inR l c→ZM c
theorem Zj4 {l l':List Zb} (h:ZcT l) (h':ZcT l') (e:∀c,inR l c↔inR l' c):l=l':=ZgY h.1 h'.1 e
theorem ZiW:∀{l:List Zb} {b:Int},Z8 b l→∀r∈l,b≤r.f_Lo∧r.f_Lo≤r.f_Hi
  | [],_,_,_,h=>by cases h
  | x :: l,b,⟨h1,h2,h3⟩,r,h=>by
    rcases List.mem_cons.1 h with rfl | h
    · exact ⟨h1,h2⟩
    · have:=ZiW h3 r h;exact ⟨by omega,this.2⟩
theorem ZcT.bd {l:List Zb} (h:ZcT l):Bd l:=fun r hr=>by
  have h1:=ZiW h.1 r hr
  have h2:=h.2 r.f_Hi ⟨r,hr,h1.2,Int.le_refl _⟩
  exact ⟨h1.1,h1.2,h2.2.1⟩
theorem Znv {a:List Zb}:Bd (Zaw a ptsR):=fun r hr=>by
  unfold Zaw at hr
  obtain ⟨x,hx,hr⟩:=List.mem_flatMap.1 hr
  obtain ⟨y,hy,hr⟩:=List.mem_flatMap.1 hr
  unfold cutR at hr
  split at hr
  · rename_i h
    obtain rfl:=List.mem_singleton.1 hr
    have h2:=ZgE.1 (Int.le_refl (mx x.f_Lo y.f_Lo))
    have h3:=Zh4.1 (Int.le_refl (mn x.f_Hi y.f_Hi))
    have h4:0≤y.f_Lo∧y.f_Hi≤1114111:=by
      unfold ptsR at hy
      simp only [List.mem_cons,List.not_mem_nil,or_false] at hy
      rcases hy with rfl | rfl <;> simp
    simp only
    exact ⟨by omega,h,by omega⟩
  · cases hr
theorem Zll {k:Nat} {a:List Zb} (ha:a.length≤1000000) (hk:4*a.length+8≤k):∃l',F76 k a ptsR=some l'∧ZcT l'∧(∀c,inR l' c↔inR a c∧ZM c)∧l'.length≤2*a.length:=by
  have hl:=Zf0 ptsR a
  have h2:ptsR.length=2:=rfl
  rw [h2] at hl
  have e:F76 k a ptsR=F77 k ([] ++ Zaw a ptsR):=Zi9 (k:=k) (v0:=a) (v1:=ptsR) (by rw [h2];omega) (by rw [h2];omega) (by omega) a [] 0 k rfl (by rw [h2];simp;omega) (by omega) (Nat.zero_le _)
  obtain ⟨l',e1,a1,i1,b1,n1⟩:=ZiL (k:=k) (l:=Zaw a ptsR) (by omega) (by omega) Znv
  rw [List.nil_append,e1] at e
  have ei:∀c,inR l' c↔inR a c∧ZM c:=fun c=>by rw [i1,ZkC,ZmK]
  exact ⟨l',e,⟨a1,fun c hc=>((ei c).1 hc).2⟩,ei,by omega⟩
def comp:Int→List Zb→List Zb
  | b,[]=>if b≤1114111 then [⟨b,1114111⟩] else []
  | b,r :: l=>(if r.f_Lo > b then [⟨b,r.f_Lo-1⟩] else []) ++ comp (r.f_Hi+1) l
theorem Zg3:∀(l:List Zb) (b:Int),(comp b l).length≤l.length+1
  | [],b=>by unfold comp;split <;> simp
  | r :: l,b=>by
    unfold comp
    have:=Zg3 l (r.f_Hi+1)
    rw [List.length_append,List.length_cons]
    split <;> simp <;> omega
theorem ZiE:∀(l:List Zb) (b:Int),Z8 b l→Bd l→∀c,inR (comp b l) c↔b≤c∧c≤1114111∧¬inR l c
  | [],b,_,_,c=>by
    unfold comp
    split
    · rw [ZO]
      exact ⟨fun h=>h.elim (fun h=>⟨h.1,h.2,ZaL⟩) (fun h=>absurd h ZaL),fun h=>.inl ⟨h.1,h.2.1⟩⟩
    · exact ⟨fun h=>absurd h ZaL,fun h=>by omega⟩
  | r :: l,b,⟨h1,h2,h3⟩,hb,c=>by
    unfold comp
    have hr:=hb r List.mem_cons_self
    rw [Zh1,ZiE l (r.f_Hi+1) (h3.mono (by omega)) (fun x hx=>hb x (List.mem_cons_of_mem _ hx)),ZO]
    have hc1:inR (if r.f_Lo > b then [⟨b,r.f_Lo-1⟩] else []) c↔b≤c∧c≤r.f_Lo-1:=by
      split
      · rw [ZO];exact ⟨fun h=>h.elim id (fun h=>absurd h ZaL),.inl⟩
      · exact ⟨fun h=>absurd h ZaL,fun h=>by omega⟩
    rw [hc1]
    constructor
    · rintro (⟨g1,g2⟩ | ⟨g1,g2,g3⟩)
      · exact ⟨g1,by omega,fun h=>h.elim (fun h=>by omega) (fun h=>by have:=h3.ge h;omega)⟩
      · exact ⟨by omega,g2,fun h=>h.elim (fun h=>by omega) g3⟩
    · rintro ⟨g1,g2,g3⟩
      by_cases g4:c<r.f_Lo
      · exact .inl ⟨g1,by omega⟩
      · exact .inr ⟨by have:=mt Or.inl g3;omega,g2,fun h=>g3 (.inr h)⟩
theorem Zhd {k:Nat} {y:List Zb} (hy:y.length≤1000000) (hb:Bd y):∀(l acc:List Zb) (b:Int) (i m:Nat),y.drop i=l→acc.length+l.length+1≤1073741824→l.length<m→i≤y.length→0≤b→b≤1114112→
    Zc0 k y m acc b (i:Int)=F76 k (acc ++ comp b l) ptsR
  | [],acc,b,i,m,hd,ha,hm,hi,h0,h1=>by
    obtain ⟨m,rfl⟩:∃q,m=q+1:=⟨m-1,by simp at hm;omega⟩
    have:=Z5 hd
    have fin:∀a,Zee k a=F76 k a ptsR:=fun a=>by
      unfold Zee
      rw [ZjS,Option.bind_some]
      cases F76 k a ptsR <;> rfl
    show ZcZ _ _ _ _ _ _=_
    unfold ZcZ
    rw [df (by omega),cond_false]
    unfold comp
    by_cases hc:b≤1114111
    · rw [dt hc,cond_true,if_pos (by simp at ha ⊢;omega),fin,if_pos hc]
    · rw [df hc,cond_false,fin,if_neg hc,List.append_nil]
  | r :: l,acc,b,i,m,hd,ha,hm,hi,h0,h1=>by
    obtain ⟨m,rfl⟩:∃q,m=q+1:=⟨m-1,by omega⟩
    obtain ⟨g1,g2,g3⟩:=Z0 hd
    rw [List.length_cons] at ha hm
    have hr:=hb r (List.mem_of_getElem? g2)
    show ZcZ k (Zc0 k y m) y acc b (i:Int)=_
    unfold ZcZ
    rw [dt (by omega),cond_true,Zy,g2,Option.bind_some]
    unfold Zf6
    rw [Z2 (by omega),Zu (x:=r.f_Hi+1) (by omega) (by omega),Zu (x:=r.f_Lo-1) (by omega) (by omega)]
    conv=>rhs;unfold comp
    by_cases hc:r.f_Lo > b
    · rw [dt hc,cond_true,if_pos (by simp;omega),Zhd hy hb l _ _ (i+1) m g3 (by simp;omega) (by omega) (by omega) (by omega) (by omega),if_pos hc,List.append_assoc]
    · rw [df hc,cond_false,Zhd hy hb l _ _ (i+1) m g3 (by omega) (by omega) (by omega) (by omega) (by omega),if_neg hc,List.nil_append]
theorem Zo3 {k:Nat} {l:List Zb} (hl:l.length≤100000) (hk:4*l.length+20≤k) (hb:Bd l) (ha:Z8 0 l):∃l',F109 k l=some l'∧ZcT l'∧(∀c,inR l' c↔ZM c∧¬inR l c)∧l'.length≤2*l.length+2:=by
  have hc:=Zg3 l 0
  have e:F109 k l=F76 k ([] ++ comp 0 l) ptsR:=by
    unfold F109
    rw [ZmB (by omega) (by omega) hb ha,Option.bind_some]
    exact Zhd (k:=k) (by omega) hb l [] 0 0 k rfl (by simp;omega) (by omega) (Nat.zero_le _) (by omega) (by omega)
  obtain ⟨l',e1,c1,i1,n1⟩:=Zll (k:=k) (a:=comp 0 l) (by omega) (by omega)
  rw [List.nil_append,e1] at e
  refine ⟨l',e,c1,fun c=>?_,by omega⟩
  rw [i1,ZiE l 0 ha hb]
  exact ⟨fun h=>⟨h.2,h.1.2.2⟩,fun h=>⟨⟨h.1.1,h.1.2.1,h.2⟩,h.1⟩⟩
end Go.Proofs.YthilboheomikjaaGreatDoor
end
section
namespace Go.Proofs.YthilboheomikjaaGreatDoor
open Go.AL
set_option maxRecDepth 100000
def ZcH (v124:Int):Option Int:=
  (some (mn (w64 (v124+1)) 1000))
def Zeq (R20:Ze→Option Int) (self1:Int→Int→Option Int) (v0:Ze) (v113:Int) (v114:Int):Option Int:=
  (cond (decide (v114<(v0.f_L.length:Int))) ((idxL v0.f_L v114).bind fun y116=>(R20 y116).bind fun y117=>(self1 (w64 (v113+y117)) (w64 (v114+1)))) ((ZcH v113)))
def ZdA (R20:Ze→Option Int) (v0:Ze):Nat→Int→Int→Option Int
  | 0,_,_=>none
  | m_+1,v113,v114=>Zeq R20 (ZdA R20 v0 m_) v0 v113 v114
def Zft (R20:Ze→Option Int) (v0:Ze) (v121:Int):Option Int:=
  (idxL v0.f_L 0).bind fun y122=>(R20 y122).bind fun y123=>(ZcH (w64 (y123*(mn (mx v121 1) 1000))))
def Zhl (R20:Ze→Option Int) (k:Nat) (v0:Ze) (v103:Bool):Option Int:=
  cond v103 ((ZdA R20 v0 k 0 0)) ((cond (v0.f_Kind == 4) ((cond (decide ((v0.f_L.length:Int) > 0)) (((cond (decide (v0.f_Max<0)) ((Zft R20 v0 (w64 (v0.f_Min+1)))) ((Zft R20 v0 v0.f_Max))))) ((ZcH 0)))) ((ZcH 0))))
def Zjx (R20:Ze→Option Int) (k:Nat) (v0:Ze):Option Int:=
  ((((cond (v0.f_Kind == 1) ((some 1)) ((cond (v0.f_Kind == 2) ((Zhl R20 k v0 (v0.f_Kind == 2))) ((Zhl R20 k v0 (v0.f_Kind == 3)))))))))
theorem ZmV (R20:Ze→Option Int) (IH20:∀(v0:Ze) (r:Int),R20 v0=some r→Sim Tryz.prog GL0 20 [.val true (pvL (Zd v0))] [] (one (.int .i64 r)) []) (k:Nat) (v0:Ze) (r:Int) (hF:Zjx R20 k v0=some r):Sim Tryz.prog GL0 20 [.val true (pvL (Zd v0))] [] (one (.int .i64 r)) []:=by
 refine ZB [] Tryz.func20 rfl kr kr ?_
 show WA _ _ 53 _ _ _
 refine WA.seq ?_
 refine WA.reg [1] [101] [(0,.obj 101)] (env':=[(1,.val false [.ptr 101 1 0 0])]) (os':=[(101,.box (pvL (Zd v0)))]) (O:=[]) kr (sound _ _) trivial ?_
 refine WA.seq ?_
 refine WA.reg [1,3] [101] [] (env':=[(1,.val false [.ptr 101 1 0 0]),(3,one (.int .i64 0))]) (os':=[(101,.box (pvL (Zd v0)))]) (O:=[]) kr (sound _ _) trivial ?_
 refine WA.join (fun s_=>∃(v124:Int),Zl s_.env [3]=[(3,one (.int .i64 v124))]∧Zl s_.os []=[]∧ZcH v124=some r) ?_ ?_
 {
 rintro s_ ⟨v124,he,ho,hF⟩
 refine WA.keep _ _ he ho ?_
 clear he ho
 refine WA.seq ?_
 refine WA.reg [2] [] [] (env':=[(2,one (.int .i64 (mn (w64 (v124+1)) 1000)))]) (os':=[]) (O:=[]) kr (sound _ _) trivial ?_
 refine WA.ret ?_
 obtain rfl:=Option.some.inj hF
 exact Zp (one (.int .i64 (mn (w64 (v124+1)) 1000))) [] kr kr kr kr (by decide) rfl rfl }
 {
 refine WA.seq ?_
 refine WA.reg [1,3,7] [101] [] (env':=[(1,.val false [.ptr 101 1 0 0]),(3,one (.int .i64 0)),(7,one (.int .i64 v0.f_Kind))]) (os':=[(101,.box (pvL (Zd v0)))]) (O:=[]) kr (sound _ _) trivial ?_
 refine WA.block ?_
 refine WA.seq ?_
 refine WA.reg [1,3,7,8] [101] [] (env':=[(1,.val false [.ptr 101 1 0 0]),(3,one (.int .i64 0)),(7,one (.int .i64 v0.f_Kind)),(8,one (.bool (v0.f_Kind == 1)))]) (os':=[(101,.box (pvL (Zd v0)))]) (O:=[]) kr (sound _ _) trivial ?_
 refine WA.cond (b:=(v0.f_Kind == 1)) rfl (fun hb101=>?_) (fun hb101=>?_)
 {
 have hF:=Zk hF hb101
 refine WA.seq ?_
 refine WA.reg [2] [] [] (env':=[(2,one (.int .i64 1))]) (os':=[]) (O:=[]) kr (sound _ _) trivial ?_
 refine WA.ret ?_
 obtain rfl:=Option.some.inj hF
 exact Zp (one (.int .i64 1)) [] kr kr kr kr (by decide) rfl rfl }
 {
 have hF:=Zj hF hb101
 refine WA.join (fun s_=>∃(v103:Bool),Zl s_.env [1,3,7,10]=[(1,.val false [.ptr 101 1 0 0]),(3,one (.int .i64 0)),(7,one (.int .i64 v0.f_Kind)),(10,one (.bool v103))]∧Zl s_.os [101]=[(101,.box (pvL (Zd v0)))]∧Zhl R20 k v0 v103=some r) ?_ ?_
 {
 rintro s_ ⟨v103,he,ho,hF⟩
 refine WA.keep _ _ he ho ?_
 clear he ho
 refine WA.cond (b:=v103) rfl (fun hb104=>?_) (fun hb104=>?_)
 {
 have hF:=Zk hF hb104
 refine WA.seq ?_
 refine WA.reg [1,3,4] [101] [] (env':=[(1,.val false [.ptr 101 1 0 0]),(3,one (.int .i64 0)),(4,one (.int .i64 0))]) (os':=[(101,.box (pvL (Zd v0)))]) (O:=[]) kr (sound _ _) trivial ?_
 refine WA.block ?_
 refine WA.loop (fun m s_=>∃(v113:Int) (v114:Int),Zl s_.env [1,3,4]=[(1,.val false [.ptr 101 1 0 0]),(3,one (.int .i64 v113)),(4,one (.int .i64 v114))]∧Zl s_.os [101]=[(101,.box (pvL (Zd v0)))]∧ZdA R20 v0 m v113 v114=some r) k ⟨0,0,kr,kr,hF⟩ ?_
 clear hF
 rintro m1 s_ ⟨v113,v114,he,ho,hF⟩
 refine WA.keep _ _ he ho ?_
 clear he ho
 cases m1 with
 | zero=>cases hF
 | succ m1=>
  obtain ⟨self1,hself1⟩:∃g,g=ZdA R20 v0 m1:=⟨_,rfl⟩
  have hF:Zeq R20 self1 v0 v113 v114=some r:=by first | (rw [hself1];exact hF) | exact hF
  refine WA.seq ?_
  refine WA.seq ?_
  refine WA.rm (α:=Int) (raw:=((Zm v0.f_L).length:Int)) (can:=(v0.f_L.length:Int)) (fun m_=>([(1,.val false [.ptr 101 1 0 0]),(3,one (.int .i64 v113)),(4,one (.int .i64 v114)),(17,one (.bool (decide (v114<m_))))],[(101,.box (pvL (Zd v0)))],[])) ((by first | (simp only [zl,Zh];done) | (simp only [zl,Zh];omega) | omega)) [1,3,4,17] [101] [] kr (sound _ _) trivial ?_
  refine WA.cond (b:=(decide (v114<(v0.f_L.length:Int)))) rfl (fun hb115=>?_) (fun hb115=>?_)
  {
 have hF:=Zk hF hb115
 refine WA.skip ?_
 refine WA.seq ?_
 refine WA.block ?_
 obtain ⟨y116,hy116,hF⟩:=bind_some hF
 obtain ⟨y117,hy117,hF⟩:=bind_some hF
 refine WA.reg [1,3,4] [101] [(4,.cells (Zd y116)),(6,.callR [] (one (.int .i64 y117)))] (env':=[(1,.val false [.ptr 101 1 0 0]),(3,one (.int .i64 (w64 (v113+y117)))),(4,one (.int .i64 v114))]) (os':=[(101,.box (pvL (Zd v0)))]) (O:=[idxL (Zm v0.f_L) v114=some (Zd y116),Sim Tryz.prog GL0 20 [.val true (pvL (Zd y116))] [] (one (.int .i64 y117)) [],([]:List Nat).Nodup]) kr (sound _ _) ⟨(ZR hy116),(IH20 _ _ hy117),(by decide),trivial⟩ ?_
 refine WA.reg [1,3,4] [101] [] (env':=[(1,.val false [.ptr 101 1 0 0]),(3,one (.int .i64 (w64 (v113+y117)))),(4,one (.int .i64 (w64 (v114+1))))]) (os':=[(101,.box (pvL (Zd v0)))]) (O:=[]) kr (sound _ _) trivial ?_
 exact ⟨m1,Nat.lt_succ_self _,(w64 (v113+y117)),(w64 (v114+1)),kr,kr,by rw [hself1] at hF;exact hF⟩ }
  {
 have hF:=Zj hF hb115
 refine WA.exit ?_
 exact ⟨v113,kr,kr,hF⟩ } }
 {
 have hF:=Zj hF hb104
 refine WA.seq ?_
 refine WA.reg [1,3,28] [101] [] (env':=[(1,.val false [.ptr 101 1 0 0]),(3,one (.int .i64 0)),(28,one (.bool (v0.f_Kind == 4)))]) (os':=[(101,.box (pvL (Zd v0)))]) (O:=[]) kr (sound _ _) trivial ?_
 refine WA.cond (b:=(v0.f_Kind == 4)) rfl (fun hb118=>?_) (fun hb118=>?_)
 {
 have hF:=Zk hF hb118
 refine WA.seq ?_
 refine WA.rm (α:=Int) (raw:=((Zm v0.f_L).length:Int)) (can:=(v0.f_L.length:Int)) (fun m_=>([(1,.val false [.ptr 101 1 0 0]),(3,one (.int .i64 0)),(33,one (.bool (decide (m_ > 0))))],[(101,.box (pvL (Zd v0)))],[])) ((by first | (simp only [zl,Zh];done) | (simp only [zl,Zh];omega) | omega)) [1,3,33] [101] [] kr (sound _ _) trivial ?_
 refine WA.cond (b:=(decide ((v0.f_L.length:Int) > 0))) rfl (fun hb119=>?_) (fun hb119=>?_)
 {
 have hF:=Zk hF hb119
 refine WA.seq ?_
 refine WA.reg [1,5] [101] [] (env':=[(1,.val false [.ptr 101 1 0 0]),(5,one (.int .i64 v0.f_Max))]) (os':=[(101,.box (pvL (Zd v0)))]) (O:=[]) kr (sound _ _) trivial ?_
 refine WA.join (fun s_=>∃(v121:Int),Zl s_.env [1,5]=[(1,.val false [.ptr 101 1 0 0]),(5,one (.int .i64 v121))]∧Zl s_.os [101]=[(101,.box (pvL (Zd v0)))]∧Zft R20 v0 v121=some r) ?_ ?_
 {
 rintro s_ ⟨v121,he,ho,hF⟩
 refine WA.keep _ _ he ho ?_
 clear he ho
 obtain ⟨y122,hy122,hF⟩:=bind_some hF
 obtain ⟨y123,hy123,hF⟩:=bind_some hF
 refine WA.reg [3] [] [(2,.cells (Zd y122)),(4,.callR [] (one (.int .i64 y123)))] (env':=[(3,one (.int .i64 (w64 (y123*(mn (mx v121 1) 1000)))))]) (os':=[]) (O:=[idxL (Zm v0.f_L) 0=some (Zd y122),Sim Tryz.prog GL0 20 [.val true (pvL (Zd y122))] [] (one (.int .i64 y123)) [],([]:List Nat).Nodup]) kr (sound _ _) ⟨(ZR hy122),(IH20 _ _ hy123),(by decide),trivial⟩ ?_
 exact ⟨(w64 (y123*(mn (mx v121 1) 1000))),kr,kr,hF⟩ }
 {
 refine WA.seq ?_
 refine WA.reg [1,5,37] [101] [] (env':=[(1,.val false [.ptr 101 1 0 0]),(5,one (.int .i64 v0.f_Max)),(37,one (.bool (decide (v0.f_Max<0))))]) (os':=[(101,.box (pvL (Zd v0)))]) (O:=[]) kr (sound _ _) trivial ?_
 refine WA.cond (b:=(decide (v0.f_Max<0))) rfl (fun hb120=>?_) (fun hb120=>?_)
 {
 have hF:=Zk hF hb120
 refine WA.reg [1,5] [101] [] (env':=[(1,.val false [.ptr 101 1 0 0]),(5,one (.int .i64 (w64 (v0.f_Min+1))))]) (os':=[(101,.box (pvL (Zd v0)))]) (O:=[]) kr (sound _ _) trivial ?_
 exact ⟨(w64 (v0.f_Min+1)),kr,kr,hF⟩ }
 {
 have hF:=Zj hF hb120
 refine WA.skip ?_
 exact ⟨v0.f_Max,kr,kr,hF⟩ } } }
 {
 have hF:=Zj hF hb119
 refine WA.skip ?_
 exact ⟨0,kr,kr,hF⟩ } }
 {
 have hF:=Zj hF hb118
 refine WA.skip ?_
 exact ⟨0,kr,kr,hF⟩ } } }
 {
 refine WA.seq ?_
 refine WA.reg [1,3,7,10] [101] [] (env':=[(1,.val false [.ptr 101 1 0 0]),(3,one (.int .i64 0)),(7,one (.int .i64 v0.f_Kind)),(10,one (.bool (v0.f_Kind == 2)))]) (os':=[(101,.box (pvL (Zd v0)))]) (O:=[]) kr (sound _ _) trivial ?_
 refine WA.cond (b:=(v0.f_Kind == 2)) rfl (fun hb102=>?_) (fun hb102=>?_)
 {
 have hF:=Zk hF hb102
 refine WA.skip ?_
 exact ⟨(v0.f_Kind == 2),kr,kr,hF⟩ }
 {
 have hF:=Zj hF hb102
 refine WA.reg [1,3,7,10] [101] [] (env':=[(1,.val false [.ptr 101 1 0 0]),(3,one (.int .i64 0)),(7,one (.int .i64 v0.f_Kind)),(10,one (.bool (v0.f_Kind == 3)))]) (os':=[(101,.box (pvL (Zd v0)))]) (O:=[]) kr (sound _ _) trivial ?_
 exact ⟨(v0.f_Kind == 3),kr,kr,hF⟩ } } } }
def F20:Nat→Ze→Option Int
  | 0,_=>none
  | k+1,v0=>Zjx (F20 k) k v0
theorem ZjG:∀(k:Nat),∀(v0:Ze) (r:Int),F20 k v0=some r→Sim Tryz.prog GL0 20 [.val true (pvL (Zd v0))] [] (one (.int .i64 r)) []
  | 0=>fun _ _ hF=>by cases hF
  | k+1=>fun v0 r hF=>ZmV (F20 k) (ZjG k) k v0 r hF
def Zes (R29:Ze→Ze→Option Bool) (self2:Int→Option Bool) (v0:Ze) (v1:Ze) (v132:Int):Option Bool:=
  (cond (decide (v132<(v0.f_L.length:Int))) ((idxL v0.f_L v132).bind fun y134=>(idxL v1.f_L v132).bind fun y135=>(R29 y134 y135).bind fun y136=>(cond (!y136) ((some false)) ((self2 (w64 (v132+1)))))) (((some true))))
def ZdC (R29:Ze→Ze→Option Bool) (v0:Ze) (v1:Ze):Nat→Int→Option Bool
  | 0,_=>none
  | m_+1,v132=>Zes R29 (ZdC R29 v0 v1 m_) v0 v1 v132
def Zer (R29:Ze→Ze→Option Bool) (k:Nat) (self1:Int→Option Bool) (v0:Ze) (v1:Ze) (v116:Int):Option Bool:=
  (cond (decide (v116<(v0.f_Set.length:Int))) ((idxL v0.f_Set v116).bind fun y118=>(idxL v1.f_Set v116).bind fun y119=>(cond (!((y118.f_Lo == y119.f_Lo) && ((y118.f_Hi == y119.f_Hi) && true))) ((some false)) ((self1 (w64 (v116+1)))))) (((ZdC R29 v0 v1 k 0))))
def Zet (R29:Ze→Ze→Option Bool) (k:Nat) (v0:Ze) (v1:Ze):Nat→Int→Option Bool
  | 0,_=>none
  | m_+1,v116=>Zer R29 k (Zet R29 k v0 v1 m_) v0 v1 v116
def ZdB (R29:Ze→Ze→Option Bool) (k:Nat) (v0:Ze) (v1:Ze) (v105:Bool):Option Bool:=
  cond v105 ((some false)) (((Zet R29 k v0 v1 k 0)))
def ZjA (R29:Ze→Ze→Option Bool) (k:Nat) (v0:Ze) (v1:Ze):Option Bool:=
  (cond (v0.f_Kind != v1.f_Kind) ((ZdB R29 k v0 v1 true)) (cond (v0.f_Min != v1.f_Min) ((ZdB R29 k v0 v1 true)) (cond (v0.f_Max != v1.f_Max) ((ZdB R29 k v0 v1 true)) (cond ((v0.f_L.length:Int) != (v1.f_L.length:Int)) ((ZdB R29 k v0 v1 true)) ((ZdB R29 k v0 v1 ((v0.f_Set.length:Int) != (v1.f_Set.length:Int))))))))
theorem ZmW (R29:Ze→Ze→Option Bool) (IH29:∀(v0:Ze) (v1:Ze) (r:Bool),R29 v0 v1=some r→Sim Tryz.prog GL0 29 [.val true (pvL (Zd v0)),.val true (pvL (Zd v1))] [] (one (.bool r)) []) (k:Nat) (v0:Ze) (v1:Ze) (r:Bool) (hF:ZjA R29 k v0 v1=some r):Sim Tryz.prog GL0 29 [.val true (pvL (Zd v0)),.val true (pvL (Zd v1))] [] (one (.bool r)) []:=by
 refine ZB [] Tryz.func29 rfl kr kr ?_
 show WA _ _ 81 _ _ _
 refine WA.seq ?_
 refine WA.reg [2,3] [102,103] [(0,.obj 102),(1,.obj 103)] (env':=[(2,.val false [.ptr 102 1 0 0]),(3,.val false [.ptr 103 1 0 0])]) (os':=[(102,.box (pvL (Zd v0))),(103,.box (pvL (Zd v1)))]) (O:=[]) kr (sound _ _) trivial ?_
 refine WA.seq ?_
 refine WA.join (fun s_=>∃(v105:Bool),Zl s_.env [2,3,43]=[(2,.val false [.ptr 102 1 0 0]),(3,.val false [.ptr 103 1 0 0]),(43,one (.bool v105))]∧Zl s_.os [102,103]=[(102,.box (pvL (Zd v0))),(103,.box (pvL (Zd v1)))]∧ZdB R29 k v0 v1 v105=some r) ?_ ?_
 {
 rintro s_ ⟨v105,he,ho,hF⟩
 refine WA.keep _ _ he ho ?_
 clear he ho
 refine WA.cond (b:=v105) rfl (fun hb106=>?_) (fun hb106=>?_)
 {
 have hF:=Zk hF hb106
 refine WA.seq ?_
 refine WA.reg [4] [] [] (env':=[(4,one (.bool false))]) (os':=[]) (O:=[]) kr (sound _ _) trivial ?_
 refine WA.ret ?_
 obtain rfl:=Option.some.inj hF
 exact Zp (one (.bool false)) [] kr kr kr kr (by decide) rfl rfl }
 {
 have hF:=Zj hF hb106
 refine WA.skip ?_
 refine WA.seq ?_
 refine WA.seq ?_
 refine WA.reg [2,3,5] [102,103] [] (env':=[(2,.val false [.ptr 102 1 0 0]),(3,.val false [.ptr 103 1 0 0]),(5,one (.int .i64 0))]) (os':=[(102,.box (pvL (Zd v0))),(103,.box (pvL (Zd v1)))]) (O:=[]) kr (sound _ _) trivial ?_
 refine WA.block ?_
 refine WA.loop (fun m s_=>∃(v116:Int),Zl s_.env [2,3,5]=[(2,.val false [.ptr 102 1 0 0]),(3,.val false [.ptr 103 1 0 0]),(5,one (.int .i64 v116))]∧Zl s_.os [102,103]=[(102,.box (pvL (Zd v0))),(103,.box (pvL (Zd v1)))]∧Zet R29 k v0 v1 m v116=some r) k ⟨0,kr,kr,hF⟩ ?_
 clear hF
 rintro m1 s_ ⟨v116,he,ho,hF⟩
 refine WA.keep _ _ he ho ?_
 clear he ho
 cases m1 with
 | zero=>cases hF
 | succ m1=>
  obtain ⟨self1,hself1⟩:∃g,g=Zet R29 k v0 v1 m1:=⟨_,rfl⟩
  have hF:Zer R29 k self1 v0 v1 v116=some r:=by first | (rw [hself1];exact hF) | exact hF
  refine WA.seq ?_
  refine WA.seq ?_
  refine WA.rm (α:=Int) (raw:=((v0.f_Set.map Za).length:Int)) (can:=(v0.f_Set.length:Int)) (fun m_=>([(2,.val false [.ptr 102 1 0 0]),(3,.val false [.ptr 103 1 0 0]),(5,one (.int .i64 v116)),(48,one (.bool (decide (v116<m_))))],[(102,.box (pvL (Zd v0))),(103,.box (pvL (Zd v1)))],[])) ((by first | (simp only [zl,Zh];done) | (simp only [zl,Zh];omega) | omega)) [2,3,5,48] [102,103] [] kr (sound _ _) trivial ?_
  refine WA.cond (b:=(decide (v116<(v0.f_Set.length:Int)))) rfl (fun hb117=>?_) (fun hb117=>?_)
  {
 have hF:=Zk hF hb117
 refine WA.skip ?_
 refine WA.seq ?_
 refine WA.block ?_
 refine WA.seq ?_
 obtain ⟨y118,hy118,hF⟩:=bind_some hF
 obtain ⟨y119,hy119,hF⟩:=bind_some hF
 refine WA.regD kr [2,3,5,61] [102,103] [(3,.cells (Za y118)),(8,.cells (Za y119))] (env':=[(2,.val false [.ptr 102 1 0 0]),(3,.val false [.ptr 103 1 0 0]),(5,one (.int .i64 v116)),(61,one (.bool (!((y118.f_Lo == y119.f_Lo) && ((y118.f_Hi == y119.f_Hi) && true)))))]) (os':=[(102,.box (pvL (Zd v0))),(103,.box (pvL (Zd v1)))]) (O:=[idxL (v0.f_Set.map Za) v116=some (Za y118),idxL (v1.f_Set.map Za) v116=some (Za y119)]) kr kr (sound _ _) ⟨(Zs _ hy118),(Zs _ hy119),trivial⟩ ?_
 refine WA.cond (b:=(!((y118.f_Lo == y119.f_Lo) && ((y118.f_Hi == y119.f_Hi) && true)))) rfl (fun hb120=>?_) (fun hb120=>?_)
 {
 have hF:=Zk hF hb120
 refine WA.seq ?_
 refine WA.reg [4] [] [] (env':=[(4,one (.bool false))]) (os':=[]) (O:=[]) kr (sound _ _) trivial ?_
 refine WA.ret ?_
 obtain rfl:=Option.some.inj hF
 exact Zp (one (.bool false)) [] kr kr kr kr (by decide) rfl rfl }
 {
 have hF:=Zj hF hb120
 refine WA.skip ?_
 refine WA.reg [2,3,5] [102,103] [] (env':=[(2,.val false [.ptr 102 1 0 0]),(3,.val false [.ptr 103 1 0 0]),(5,one (.int .i64 (w64 (v116+1))))]) (os':=[(102,.box (pvL (Zd v0))),(103,.box (pvL (Zd v1)))]) (O:=[]) kr (sound _ _) trivial ?_
 exact ⟨m1,Nat.lt_succ_self _,(w64 (v116+1)),kr,kr,by rw [hself1] at hF;exact hF⟩ } }
  {
 have hF:=Zj hF hb117
 refine WA.exit ?_
 refine WA.seq ?_
 refine WA.seq ?_
 refine WA.reg [2,3,6] [102,103] [] (env':=[(2,.val false [.ptr 102 1 0 0]),(3,.val false [.ptr 103 1 0 0]),(6,one (.int .i64 0))]) (os':=[(102,.box (pvL (Zd v0))),(103,.box (pvL (Zd v1)))]) (O:=[]) kr (sound _ _) trivial ?_
 refine WA.block ?_
 refine WA.loop (fun m s_=>∃(v132:Int),Zl s_.env [2,3,6]=[(2,.val false [.ptr 102 1 0 0]),(3,.val false [.ptr 103 1 0 0]),(6,one (.int .i64 v132))]∧Zl s_.os [102,103]=[(102,.box (pvL (Zd v0))),(103,.box (pvL (Zd v1)))]∧ZdC R29 v0 v1 m v132=some r) k ⟨0,kr,kr,hF⟩ ?_
 clear hF
 rintro m2 s_ ⟨v132,he,ho,hF⟩
 refine WA.keep _ _ he ho ?_
 clear he ho
 cases m2 with
 | zero=>cases hF
 | succ m2=>
  obtain ⟨self2,hself2⟩:∃g,g=ZdC R29 v0 v1 m2:=⟨_,rfl⟩
  have hF:Zes R29 self2 v0 v1 v132=some r:=by first | (rw [hself2];exact hF) | exact hF
  refine WA.seq ?_
  refine WA.seq ?_
  refine WA.rm (α:=Int) (raw:=((Zm v0.f_L).length:Int)) (can:=(v0.f_L.length:Int)) (fun m_=>([(2,.val false [.ptr 102 1 0 0]),(3,.val false [.ptr 103 1 0 0]),(6,one (.int .i64 v132)),(66,one (.bool (decide (v132<m_))))],[(102,.box (pvL (Zd v0))),(103,.box (pvL (Zd v1)))],[])) ((by first | (simp only [zl,Zh];done) | (simp only [zl,Zh];omega) | omega)) [2,3,6,66] [102,103] [] kr (sound _ _) trivial ?_
  refine WA.cond (b:=(decide (v132<(v0.f_L.length:Int)))) rfl (fun hb133=>?_) (fun hb133=>?_)
  {
 have hF:=Zk hF hb133
 refine WA.skip ?_
 refine WA.seq ?_
 refine WA.block ?_
 refine WA.seq ?_
 obtain ⟨y134,hy134,hF⟩:=bind_some hF
 obtain ⟨y135,hy135,hF⟩:=bind_some hF
 obtain ⟨y136,hy136,hF⟩:=bind_some hF
 refine WA.regD kr [2,3,6,80] [102,103] [(3,.cells (Zd y134)),(8,.cells (Zd y135)),(10,.callR [] (one (.bool y136)))] (env':=[(2,.val false [.ptr 102 1 0 0]),(3,.val false [.ptr 103 1 0 0]),(6,one (.int .i64 v132)),(80,one (.bool (!y136)))]) (os':=[(102,.box (pvL (Zd v0))),(103,.box (pvL (Zd v1)))]) (O:=[idxL (Zm v0.f_L) v132=some (Zd y134),idxL (Zm v1.f_L) v132=some (Zd y135),Sim Tryz.prog GL0 29 [.val true (pvL (Zd y134)),.val true (pvL (Zd y135))] [] (one (.bool y136)) [],([]:List Nat).Nodup]) kr kr (sound _ _) ⟨(ZR hy134),(ZR hy135),(IH29 _ _ _ hy136),(by decide),trivial⟩ ?_
 refine WA.cond (b:=(!y136)) rfl (fun hb137=>?_) (fun hb137=>?_)
 {
 have hF:=Zk hF hb137
 refine WA.seq ?_
 refine WA.reg [4] [] [] (env':=[(4,one (.bool false))]) (os':=[]) (O:=[]) kr (sound _ _) trivial ?_
 refine WA.ret ?_
 obtain rfl:=Option.some.inj hF
 exact Zp (one (.bool false)) [] kr kr kr kr (by decide) rfl rfl }
 {
 have hF:=Zj hF hb137
 refine WA.skip ?_
 refine WA.reg [2,3,6] [102,103] [] (env':=[(2,.val false [.ptr 102 1 0 0]),(3,.val false [.ptr 103 1 0 0]),(6,one (.int .i64 (w64 (v132+1))))]) (os':=[(102,.box (pvL (Zd v0))),(103,.box (pvL (Zd v1)))]) (O:=[]) kr (sound _ _) trivial ?_
 exact ⟨m2,Nat.lt_succ_self _,(w64 (v132+1)),kr,kr,by rw [hself2] at hF;exact hF⟩ } }
  {
 have hF:=Zj hF hb133
 refine WA.exit ?_
 refine WA.seq ?_
 refine WA.reg [4] [] [] (env':=[(4,one (.bool true))]) (os':=[]) (O:=[]) kr (sound _ _) trivial ?_
 refine WA.ret ?_
 obtain rfl:=Option.some.inj hF
 exact Zp (one (.bool true)) [] kr kr kr kr (by decide) rfl rfl } } } }
 {
 rcases Bool.eq_false_or_eq_true (v0.f_Kind != v1.f_Kind) with hb101 | hb101
 {
 have hF:=Zk hF hb101
 refine WA.reg [2,3,43] [102,103] [(5,.bool true)] (env':=[(2,.val false [.ptr 102 1 0 0]),(3,.val false [.ptr 103 1 0 0]),(43,one (.bool true))]) (os':=[(102,.box (pvL (Zd v0))),(103,.box (pvL (Zd v1)))]) (O:=[(v0.f_Kind != v1.f_Kind)=true]) kr (sound _ _) ⟨hb101,trivial⟩ ?_
 exact ⟨true,kr,kr,hF⟩ }
 {
 have hF:=Zj hF hb101
 rcases Bool.eq_false_or_eq_true (v0.f_Min != v1.f_Min) with hb102 | hb102
 {
 have hF:=Zk hF hb102
 refine WA.reg [2,3,43] [102,103] [(5,.bool false),(12,.bool true)] (env':=[(2,.val false [.ptr 102 1 0 0]),(3,.val false [.ptr 103 1 0 0]),(43,one (.bool true))]) (os':=[(102,.box (pvL (Zd v0))),(103,.box (pvL (Zd v1)))]) (O:=[(v0.f_Kind != v1.f_Kind)=false,(v0.f_Min != v1.f_Min)=true]) kr (sound _ _) ⟨hb101,hb102,trivial⟩ ?_
 exact ⟨true,kr,kr,hF⟩ }
 {
 have hF:=Zj hF hb102
 rcases Bool.eq_false_or_eq_true (v0.f_Max != v1.f_Max) with hb103 | hb103
 {
 have hF:=Zk hF hb103
 refine WA.reg [2,3,43] [102,103] [(5,.bool false),(12,.bool false),(19,.bool true)] (env':=[(2,.val false [.ptr 102 1 0 0]),(3,.val false [.ptr 103 1 0 0]),(43,one (.bool true))]) (os':=[(102,.box (pvL (Zd v0))),(103,.box (pvL (Zd v1)))]) (O:=[(v0.f_Kind != v1.f_Kind)=false,(v0.f_Min != v1.f_Min)=false,(v0.f_Max != v1.f_Max)=true]) kr (sound _ _) ⟨hb101,hb102,hb103,trivial⟩ ?_
 exact ⟨true,kr,kr,hF⟩ }
 {
 have hF:=Zj hF hb103
 rcases Bool.eq_false_or_eq_true ((v0.f_L.length:Int) != (v1.f_L.length:Int)) with hb104 | hb104
 {
 have hF:=Zk hF hb104
 refine WA.rm (α:=Int×Int) (raw:=(((Zm v0.f_L).length:Int),((Zm v1.f_L).length:Int))) (can:=((v0.f_L.length:Int),(v1.f_L.length:Int))) (fun m_=>([(2,.val false [.ptr 102 1 0 0]),(3,.val false [.ptr 103 1 0 0]),(43,one (.bool true))],[(102,.box (pvL (Zd v0))),(103,.box (pvL (Zd v1)))],[(v0.f_Kind != v1.f_Kind)=false,(v0.f_Min != v1.f_Min)=false,(v0.f_Max != v1.f_Max)=false,(m_.1 != m_.2)=true])) (ZE (by first | (simp only [zl,Zh];done) | (simp only [zl,Zh];omega) | omega) (by first | (simp only [zl,Zh];done) | (simp only [zl,Zh];omega) | omega)) [2,3,43] [102,103] [(5,.bool false),(12,.bool false),(19,.bool false),(28,.bool true)] kr (sound _ _) ⟨hb101,hb102,hb103,hb104,trivial⟩ ?_
 exact ⟨true,kr,kr,hF⟩ }
 {
 have hF:=Zj hF hb104
 refine WA.rm (α:=Int×Int×Int×Int) (raw:=(((v0.f_Set.map Za).length:Int),((v1.f_Set.map Za).length:Int),((Zm v0.f_L).length:Int),((Zm v1.f_L).length:Int))) (can:=((v0.f_Set.length:Int),(v1.f_Set.length:Int),(v0.f_L.length:Int),(v1.f_L.length:Int))) (fun m_=>([(2,.val false [.ptr 102 1 0 0]),(3,.val false [.ptr 103 1 0 0]),(43,one (.bool (m_.1 != m_.2.1)))],[(102,.box (pvL (Zd v0))),(103,.box (pvL (Zd v1)))],[(v0.f_Kind != v1.f_Kind)=false,(v0.f_Min != v1.f_Min)=false,(v0.f_Max != v1.f_Max)=false,(m_.2.2.1 != m_.2.2.2)=false])) (ZE (by first | (simp only [zl,Zh];done) | (simp only [zl,Zh];omega) | omega) (ZE (by first | (simp only [zl,Zh];done) | (simp only [zl,Zh];omega) | omega) (ZE (by first | (simp only [zl,Zh];done) | (simp only [zl,Zh];omega) | omega) (by first | (simp only [zl,Zh];done) | (simp only [zl,Zh];omega) | omega)))) [2,3,43] [102,103] [(5,.bool false),(12,.bool false),(19,.bool false),(28,.bool false)] kr (sound _ _) ⟨hb101,hb102,hb103,hb104,trivial⟩ ?_
 exact ⟨((v0.f_Set.length:Int) != (v1.f_Set.length:Int)),kr,kr,hF⟩ } } } } }
def F29:Nat→Ze→Ze→Option Bool
  | 0,_,_=>none
  | k+1,v0,v1=>ZjA (F29 k) k v0 v1
theorem ZlX:∀(k:Nat),∀(v0:Ze) (v1:Ze) (r:Bool),F29 k v0 v1=some r→Sim Tryz.prog GL0 29 [.val true (pvL (Zd v0)),.val true (pvL (Zd v1))] [] (one (.bool r)) []
  | 0=>fun _ _ _ hF=>by cases hF
  | k+1=>fun v0 v1 r hF=>ZmW (F29 k) (ZlX k) k v0 v1 r hF
def F143 (k:Nat):Option (List Zb):=
  ((some ([(⟨0,55295⟩:Zb),(⟨57344,1114111⟩:Zb)]:List Zb)))
theorem Zis (k:Nat) (r:List Zb) (hF:F143 k=some r):Sim Tryz.prog GL0 143 [] [] (one (.sl (r.map Za))) []:=by
 refine ZB [] Tryz.func143 rfl kr kr ?_
 show WA _ _ 4 _ _ _
 refine WA.seq ?_
 refine WA.reg [] [] [] (env':=[]) (os':=[]) (O:=[]) kr (sound _ _) trivial ?_
 refine WA.seq ?_
 refine WA.reg [0] [] [] (env':=[(0,one (.sl (([(⟨0,55295⟩:Zb),(⟨57344,1114111⟩:Zb)]:List Zb).map Za)))]) (os':=[]) (O:=[]) kr (sound _ _) trivial ?_
 refine WA.ret ?_
 obtain rfl:=Option.some.inj hF
 exact Zp (one (.sl (([(⟨0,55295⟩:Zb),(⟨57344,1114111⟩:Zb)]:List Zb).map Za))) [] kr kr kr kr (by decide) rfl rfl
def Ze8 (self11:(List Zb)→Int→Option (List Zb)) (v199:Int) (v207:List Zb):Option (List Zb):=
  self11 v207 (w64 (v199+1))
def Zcu (self8:(List Zb)→Int→Option (List Zb)) (self11:(List Zb)→Int→Option (List Zb)) (v0:List Zb) (v1:List Zb) (v174:Int) (v197:List Zb) (v199:Int):Option (List Zb):=
  (cond (decide (v199<(v1.length:Int))) ((idxL v0 v174).bind fun y201=>(idxL v1 v199).bind fun y202=>(idxL v0 v174).bind fun y203=>(idxL v1 v199).bind fun y204=>((cond (decide ((mx y201.f_Lo y202.f_Lo)≤(mn y203.f_Hi y204.f_Hi))) (if v197.length+([(⟨(mx y201.f_Lo y202.f_Lo),(mn y203.f_Hi y204.f_Hi)⟩:Zb)]:List Zb).length≤1073741824 then (Ze8 self11 v199 (v197 ++ ([(⟨(mx y201.f_Lo y202.f_Lo),(mn y203.f_Hi y204.f_Hi)⟩:Zb)]:List Zb))) else none) ((Ze8 self11 v199 v197))))) ((self8 v197 (w64 (v174+1)))))
def ZbZ (self8:(List Zb)→Int→Option (List Zb)) (v0:List Zb) (v1:List Zb) (v174:Int):Nat→(List Zb)→Int→Option (List Zb)
  | 0,_,_=>none
  | m_+1,v197,v199=>Zcu self8 (ZbZ self8 v0 v1 v174 m_) v0 v1 v174 v197 v199
def Zdm (k:Nat) (self8:(List Zb)→Int→Option (List Zb)) (v0:List Zb) (v1:List Zb) (v172:List Zb) (v174:Int):Option (List Zb):=
  (cond (decide (v174<(v0.length:Int))) (((ZbZ self8 v0 v1 v174 k v172 0))) (((some v172))))
def ZbI (k:Nat) (v0:List Zb) (v1:List Zb):Nat→(List Zb)→Int→Option (List Zb)
  | 0,_,_=>none
  | m_+1,v172,v174=>Zdm k (ZbI k v0 v1 m_) v0 v1 v172 v174
def F190 (k:Nat) (v0:List Zb) (v1:List Zb):Option (List Zb):=
  (((ZbI k v0 v1 k ([]:List Zb) 0)))
theorem Zk8 (k:Nat) (v0:List Zb) (v1:List Zb) (r:List Zb) (hF:F190 k v0 v1=some r):Sim Tryz.prog GL0 190 [one (.sl (v0.map Za)),one (.sl (v1.map Za))] [] (one (.sl (r.map Za))) []:=by
 refine ZB [] Tryz.func190 rfl kr kr ?_
 show WA _ _ 54 _ _ _
 refine WA.seq ?_
 refine WA.reg [0,1] [] [] (env':=[(0,one (.sl (v0.map Za))),(1,one (.sl (v1.map Za)))]) (os':=[]) (O:=[]) kr (sound _ _) trivial ?_
 refine WA.seq ?_
 refine WA.reg [0,1,5] [105] [(0,.obj 105)] (env':=[(0,one (.sl (v0.map Za))),(1,one (.sl (v1.map Za))),(5,.val false [.arr 105 0])]) (os':=[(105,.arr 2 (([]:List Zb).map Za))]) (O:=[]) kr (sound _ _) trivial ?_
 refine WA.seq ?_
 refine WA.seq ?_
 refine WA.reg [0,1,5,6] [105] [] (env':=[(0,one (.sl (v0.map Za))),(1,one (.sl (v1.map Za))),(5,.val false [.arr 105 0]),(6,one (.int .i64 0))]) (os':=[(105,.arr 2 (([]:List Zb).map Za))]) (O:=[]) kr (sound _ _) trivial ?_
 refine WA.block ?_
 refine WA.loop (fun m s_=>∃(v172:List Zb) (v173:Nat) (v174:Int),Zl s_.env [0,1,5,6]=[(0,one (.sl (v0.map Za))),(1,one (.sl (v1.map Za))),(5,.val false [.arr 105 v173]),(6,one (.int .i64 v174))]∧Zl s_.os [105]=[(105,.arr 2 (v172.map Za))]∧v173=(v172:List _).length∧ZbI k v0 v1 m v172 v174=some r) k ⟨([]:List Zb),0,0,kr,kr,zt,hF⟩ ?_
 clear hF
 rintro m8 s_ ⟨v172,v173,v174,he,ho,hn_v173,hF⟩
 refine WA.keep _ _ he ho ?_
 clear he ho
 cases m8 with
 | zero=>cases hF
 | succ m8=>
  obtain ⟨self8,hself8⟩:∃g,g=ZbI k v0 v1 m8:=⟨_,rfl⟩
  have hF:Zdm k self8 v0 v1 v172 v174=some r:=by first | (rw [hself8];exact hF) | exact hF
  refine WA.seq ?_
  refine WA.seq ?_
  refine WA.rm (α:=Int) (raw:=((v0.map Za).length:Int)) (can:=(v0.length:Int)) (fun m_=>([(0,one (.sl (v0.map Za))),(1,one (.sl (v1.map Za))),(5,.val false [.arr 105 v173]),(6,one (.int .i64 v174)),(13,one (.bool (decide (v174<m_))))],[(105,.arr 2 (v172.map Za))],[])) ((by first | (simp only [zl,Zh];done) | (simp only [zl,Zh];omega) | omega)) [0,1,5,6,13] [105] [] kr (sound _ _) trivial ?_
  refine WA.cond (b:=(decide (v174<(v0.length:Int)))) rfl (fun hb175=>?_) (fun hb175=>?_)
  {
 have hF:=Zk hF hb175
 refine WA.skip ?_
 refine WA.seq ?_
 refine WA.block ?_
 refine WA.seq ?_
 refine WA.reg [0,1,5,6,7] [105] [] (env':=[(0,one (.sl (v0.map Za))),(1,one (.sl (v1.map Za))),(5,.val false [.arr 105 v173]),(6,one (.int .i64 v174)),(7,one (.int .i64 0))]) (os':=[(105,.arr 2 (v172.map Za))]) (O:=[]) kr (sound _ _) trivial ?_
 refine WA.block ?_
 refine WA.loop (fun m s_=>∃(v197:List Zb) (v198:Nat) (v199:Int),Zl s_.env [0,1,5,6,7]=[(0,one (.sl (v0.map Za))),(1,one (.sl (v1.map Za))),(5,.val false [.arr 105 v198]),(6,one (.int .i64 v174)),(7,one (.int .i64 v199))]∧Zl s_.os [105]=[(105,.arr 2 (v197.map Za))]∧v198=(v197:List _).length∧ZbZ self8 v0 v1 v174 m v197 v199=some r) k ⟨v172,v173,0,kr,kr,zt,hF⟩ ?_
 clear hF
 rintro m11 s_ ⟨v197,v198,v199,he,ho,hn_v198,hF⟩
 refine WA.keep _ _ he ho ?_
 clear he ho
 cases m11 with
 | zero=>cases hF
 | succ m11=>
  obtain ⟨self11,hself11⟩:∃g,g=ZbZ self8 v0 v1 v174 m11:=⟨_,rfl⟩
  have hF:Zcu self8 self11 v0 v1 v174 v197 v199=some r:=by first | (rw [hself11];exact hF) | exact hF
  refine WA.seq ?_
  refine WA.seq ?_
  refine WA.rm (α:=Int) (raw:=((v1.map Za).length:Int)) (can:=(v1.length:Int)) (fun m_=>([(0,one (.sl (v0.map Za))),(1,one (.sl (v1.map Za))),(5,.val false [.arr 105 v198]),(6,one (.int .i64 v174)),(7,one (.int .i64 v199)),(19,one (.bool (decide (v199<m_))))],[(105,.arr 2 (v197.map Za))],[])) ((by first | (simp only [zl,Zh];done) | (simp only [zl,Zh];omega) | omega)) [0,1,5,6,7,19] [105] [] kr (sound _ _) trivial ?_
  refine WA.cond (b:=(decide (v199<(v1.length:Int)))) rfl (fun hb200=>?_) (fun hb200=>?_)
  {
 have hF:=Zk hF hb200
 refine WA.skip ?_
 refine WA.join (fun s_=>∃(v207:List Zb) (v208:Nat),Zl s_.env [0,1,5,6,7]=[(0,one (.sl (v0.map Za))),(1,one (.sl (v1.map Za))),(5,.val false [.arr 105 v208]),(6,one (.int .i64 v174)),(7,one (.int .i64 v199))]∧Zl s_.os [105]=[(105,.arr 2 (v207.map Za))]∧v208=(v207:List _).length∧Ze8 self11 v199 v207=some r) ?_ ?_
 {
 rintro s_ ⟨v207,v208,he,ho,hn_v208,hF⟩
 refine WA.keep _ _ he ho ?_
 clear he ho
 refine WA.reg [0,1,5,6,7] [105] [] (env':=[(0,one (.sl (v0.map Za))),(1,one (.sl (v1.map Za))),(5,.val false [.arr 105 v208]),(6,one (.int .i64 v174)),(7,one (.int .i64 (w64 (v199+1))))]) (os':=[(105,.arr 2 (v207.map Za))]) (O:=[]) kr (sound _ _) trivial ?_
 exact ⟨m11,Nat.lt_succ_self _,v207,v208,(w64 (v199+1)),kr,kr,zt,by rw [hself11] at hF;exact hF⟩ }
 {
 refine WA.block ?_
 refine WA.seq ?_
 obtain ⟨y201,hy201,hF⟩:=bind_some hF
 obtain ⟨y202,hy202,hF⟩:=bind_some hF
 obtain ⟨y203,hy203,hF⟩:=bind_some hF
 obtain ⟨y204,hy204,hF⟩:=bind_some hF
 refine WA.regD kr [0,1,5,6,7,8,9] [105] [(2,.cells (Za y201)),(7,.cells (Za y202)),(13,.cells (Za y203)),(18,.cells (Za y204))] (env':=[(0,one (.sl (v0.map Za))),(1,one (.sl (v1.map Za))),(5,.val false [.arr 105 v198]),(6,one (.int .i64 v174)),(7,one (.int .i64 v199)),(8,one (.int .i64 (mx y201.f_Lo y202.f_Lo))),(9,one (.int .i64 (mn y203.f_Hi y204.f_Hi)))]) (os':=[(105,.arr 2 (v197.map Za))]) (O:=[idxL (v0.map Za) v174=some (Za y201),idxL (v1.map Za) v199=some (Za y202),idxL (v0.map Za) v174=some (Za y203),idxL (v1.map Za) v199=some (Za y204)]) kr kr (sound _ _) ⟨(Zs _ hy201),(Zs _ hy202),(Zs _ hy203),(Zs _ hy204),trivial⟩ ?_
 refine WA.seq ?_
 refine WA.reg [0,1,5,6,7,8,9,46] [105] [] (env':=[(0,one (.sl (v0.map Za))),(1,one (.sl (v1.map Za))),(5,.val false [.arr 105 v198]),(6,one (.int .i64 v174)),(7,one (.int .i64 v199)),(8,one (.int .i64 (mx y201.f_Lo y202.f_Lo))),(9,one (.int .i64 (mn y203.f_Hi y204.f_Hi))),(46,one (.bool (decide ((mx y201.f_Lo y202.f_Lo)≤(mn y203.f_Hi y204.f_Hi)))))]) (os':=[(105,.arr 2 (v197.map Za))]) (O:=[]) kr (sound _ _) trivial ?_
 refine WA.cond (b:=(decide ((mx y201.f_Lo y202.f_Lo)≤(mn y203.f_Hi y204.f_Hi)))) rfl (fun hb205=>?_) (fun hb205=>?_)
 {
 have hF:=Zk hF hb205
 obtain ⟨hc206,hF⟩:=Zo hF
 refine WA.rm (α:=(List (List PV))) (raw:=((v197.map Za) ++ (([(⟨(mx y201.f_Lo y202.f_Lo),(mn y203.f_Hi y204.f_Hi)⟩:Zb)]:List Zb).map Za))) (can:=((v197 ++ ([(⟨(mx y201.f_Lo y202.f_Lo),(mn y203.f_Hi y204.f_Hi)⟩:Zb)]:List Zb)).map Za)) (fun m_=>([(0,one (.sl (v0.map Za))),(1,one (.sl (v1.map Za))),(5,.val false [.arr 105 (v198+1)]),(6,one (.int .i64 v174)),(7,one (.int .i64 v199))],[(105,.arr 2 m_)],[v198=(v197.map Za).length,(v197.map Za).length+(([(⟨(mx y201.f_Lo y202.f_Lo),(mn y203.f_Hi y204.f_Hi)⟩:Zb)]:List Zb).map Za).length≤1073741824,∀es,es∈(([(⟨(mx y201.f_Lo y202.f_Lo),(mn y203.f_Hi y204.f_Hi)⟩:Zb)]:List Zb).map Za)→es.length=2])) (zm) [0,1,5,6,7] [105] [] kr (sound _ _) ⟨zt,(by first | exact hc206 | (simp only [List.length_map,Zh];exact hc206)),(ZN ([(⟨(mx y201.f_Lo y202.f_Lo),(mn y203.f_Hi y204.f_Hi)⟩:Zb)]:List Zb)),trivial⟩ ?_
 exact ⟨(v197 ++ ([(⟨(mx y201.f_Lo y202.f_Lo),(mn y203.f_Hi y204.f_Hi)⟩:Zb)]:List Zb)),(v198+1),kr,kr,zt,hF⟩ }
 {
 have hF:=Zj hF hb205
 refine WA.skip ?_
 exact ⟨v197,v198,kr,kr,zt,hF⟩ } } }
  {
 have hF:=Zj hF hb200
 refine WA.exit ?_
 refine WA.reg [0,1,5,6] [105] [] (env':=[(0,one (.sl (v0.map Za))),(1,one (.sl (v1.map Za))),(5,.val false [.arr 105 v198]),(6,one (.int .i64 (w64 (v174+1))))]) (os':=[(105,.arr 2 (v197.map Za))]) (O:=[]) kr (sound _ _) trivial ?_
 exact ⟨m8,Nat.lt_succ_self _,v197,v198,(w64 (v174+1)),kr,kr,zt,by rw [hself8] at hF;exact hF⟩ } }
  {
 have hF:=Zj hF hb175
 refine WA.exit ?_
 refine WA.seq ?_
 refine WA.reg [4] [105] [] (env':=[(4,.val false [.arr 105 v173])]) (os':=[(105,.arr 2 (v172.map Za))]) (O:=[]) kr (sound _ _) trivial ?_
 refine WA.freeze 105 4 (s:=2) (n:=v173) (els:=(v172.map Za)) rfl rfl zt ?_
 refine WA.keep [4] [] (env':=[(4,one (.sl (v172.map Za)))]) (os':=[]) kr kr ?_
 refine WA.ret ?_
 obtain rfl:=Option.some.inj hF
 exact Zp (one (.sl (v172.map Za))) [] kr kr kr kr (by decide) rfl rfl }
def Zgs (self2:(List Zb)→Int→Int→Option (List Zb)) (v0:List Zb) (v124:Int) (v130:List Zb):Option (List Zb):=
  (idxL v0 v124).bind fun y132=>(self2 v130 (w64 (y132.f_Hi+1)) (w64 (v124+1)))
def Zen (k:Nat) (v135:List Zb):Option (List Zb):=
  (F143 k).bind fun y138=>(F190 k v135 y138).bind fun y139=>(some y139)
def Zdk (k:Nat) (self2:(List Zb)→Int→Int→Option (List Zb)) (v0:List Zb) (v121:List Zb) (v123:Int) (v124:Int):Option (List Zb):=
  (cond (decide (v124<(v0.length:Int))) ((idxL v0 v124).bind fun y126=>(cond (decide (v123<y126.f_Lo)) ((idxL v0 v124).bind fun y128=>if v121.length+([(⟨v123,(w64 (y128.f_Lo-1))⟩:Zb)]:List Zb).length≤1073741824 then (Zgs self2 v0 v124 (v121 ++ ([(⟨v123,(w64 (y128.f_Lo-1))⟩:Zb)]:List Zb))) else none) ((Zgs self2 v0 v124 v121)))) (((cond (decide (v123≤1114111)) (if v121.length+([(⟨v123,1114111⟩:Zb)]:List Zb).length≤1073741824 then (Zen k (v121 ++ ([(⟨v123,1114111⟩:Zb)]:List Zb))) else none) ((Zen k v121))))))
def Zdl (k:Nat) (v0:List Zb):Nat→(List Zb)→Int→Int→Option (List Zb)
  | 0,_,_,_=>none
  | m_+1,v121,v123,v124=>Zdk k (Zdl k v0 m_) v0 v121 v123 v124
def F175 (k:Nat) (v0:List Zb):Option (List Zb):=
  ((((Zdl k v0 k ([]:List Zb) 0 0))))
theorem Zn9 (k:Nat) (v0:List Zb) (r:List Zb) (hF:F175 k v0=some r):Sim Tryz.prog GL0 175 [one (.sl (v0.map Za))] [] (one (.sl (r.map Za))) []:=by
 refine ZB [] Tryz.func175 rfl kr kr ?_
 show WA _ _ 46 _ _ _
 refine WA.seq ?_
 refine WA.reg [0] [] [] (env':=[(0,one (.sl (v0.map Za)))]) (os':=[]) (O:=[]) kr (sound _ _) trivial ?_
 refine WA.seq ?_
 refine WA.reg [0,3] [103] [(0,.obj 103)] (env':=[(0,one (.sl (v0.map Za))),(3,.val false [.arr 103 0])]) (os':=[(103,.arr 2 (([]:List Zb).map Za))]) (O:=[]) kr (sound _ _) trivial ?_
 refine WA.seq ?_
 refine WA.reg [0,3,4] [103] [] (env':=[(0,one (.sl (v0.map Za))),(3,.val false [.arr 103 0]),(4,one (.int .i64 0))]) (os':=[(103,.arr 2 (([]:List Zb).map Za))]) (O:=[]) kr (sound _ _) trivial ?_
 refine WA.seq ?_
 refine WA.seq ?_
 refine WA.reg [0,3,4,5] [103] [] (env':=[(0,one (.sl (v0.map Za))),(3,.val false [.arr 103 0]),(4,one (.int .i64 0)),(5,one (.int .i64 0))]) (os':=[(103,.arr 2 (([]:List Zb).map Za))]) (O:=[]) kr (sound _ _) trivial ?_
 refine WA.block ?_
 refine WA.loop (fun m s_=>∃(v121:List Zb) (v122:Nat) (v123:Int) (v124:Int),Zl s_.env [0,3,4,5]=[(0,one (.sl (v0.map Za))),(3,.val false [.arr 103 v122]),(4,one (.int .i64 v123)),(5,one (.int .i64 v124))]∧Zl s_.os [103]=[(103,.arr 2 (v121.map Za))]∧v122=(v121:List _).length∧Zdl k v0 m v121 v123 v124=some r) k ⟨([]:List Zb),0,0,0,kr,kr,zt,hF⟩ ?_
 clear hF
 rintro m2 s_ ⟨v121,v122,v123,v124,he,ho,hn_v122,hF⟩
 refine WA.keep _ _ he ho ?_
 clear he ho
 cases m2 with
 | zero=>cases hF
 | succ m2=>
  obtain ⟨self2,hself2⟩:∃g,g=Zdl k v0 m2:=⟨_,rfl⟩
  have hF:Zdk k self2 v0 v121 v123 v124=some r:=by first | (rw [hself2];exact hF) | exact hF
  refine WA.seq ?_
  refine WA.seq ?_
  refine WA.rm (α:=Int) (raw:=((v0.map Za).length:Int)) (can:=(v0.length:Int)) (fun m_=>([(0,one (.sl (v0.map Za))),(3,.val false [.arr 103 v122]),(4,one (.int .i64 v123)),(5,one (.int .i64 v124)),(9,one (.bool (decide (v124<m_))))],[(103,.arr 2 (v121.map Za))],[])) ((by first | (simp only [zl,Zh];done) | (simp only [zl,Zh];omega) | omega)) [0,3,4,5,9] [103] [] kr (sound _ _) trivial ?_
  refine WA.cond (b:=(decide (v124<(v0.length:Int)))) rfl (fun hb125=>?_) (fun hb125=>?_)
  {
 have hF:=Zk hF hb125
 refine WA.skip ?_
 refine WA.seq ?_
 refine WA.block ?_
 refine WA.join (fun s_=>∃(v130:List Zb) (v131:Nat),Zl s_.env [0,3,5]=[(0,one (.sl (v0.map Za))),(3,.val false [.arr 103 v131]),(5,one (.int .i64 v124))]∧Zl s_.os [103]=[(103,.arr 2 (v130.map Za))]∧v131=(v130:List _).length∧Zgs self2 v0 v124 v130=some r) ?_ ?_
 {
 rintro s_ ⟨v130,v131,he,ho,hn_v131,hF⟩
 refine WA.keep _ _ he ho ?_
 clear he ho
 obtain ⟨y132,hy132,hF⟩:=bind_some hF
 refine WA.reg [0,3,4,5] [103] [(2,.cells (Za y132))] (env':=[(0,one (.sl (v0.map Za))),(3,.val false [.arr 103 v131]),(4,one (.int .i64 (w64 (y132.f_Hi+1)))),(5,one (.int .i64 v124))]) (os':=[(103,.arr 2 (v130.map Za))]) (O:=[idxL (v0.map Za) v124=some (Za y132)]) kr (sound _ _) ⟨(Zs _ hy132),trivial⟩ ?_
 refine WA.reg [0,3,4,5] [103] [] (env':=[(0,one (.sl (v0.map Za))),(3,.val false [.arr 103 v131]),(4,one (.int .i64 (w64 (y132.f_Hi+1)))),(5,one (.int .i64 (w64 (v124+1))))]) (os':=[(103,.arr 2 (v130.map Za))]) (O:=[]) kr (sound _ _) trivial ?_
 exact ⟨m2,Nat.lt_succ_self _,v130,v131,(w64 (y132.f_Hi+1)),(w64 (v124+1)),kr,kr,zt,by rw [hself2] at hF;exact hF⟩ }
 {
 refine WA.seq ?_
 obtain ⟨y126,hy126,hF⟩:=bind_some hF
 refine WA.reg [0,3,4,5,18] [103] [(3,.cells (Za y126))] (env':=[(0,one (.sl (v0.map Za))),(3,.val false [.arr 103 v122]),(4,one (.int .i64 v123)),(5,one (.int .i64 v124)),(18,one (.bool (decide (v123<y126.f_Lo))))]) (os':=[(103,.arr 2 (v121.map Za))]) (O:=[idxL (v0.map Za) v124=some (Za y126)]) kr (sound _ _) ⟨(Zs _ hy126),trivial⟩ ?_
 refine WA.cond (b:=(decide (v123<y126.f_Lo))) rfl (fun hb127=>?_) (fun hb127=>?_)
 {
 have hF:=Zk hF hb127
 obtain ⟨y128,hy128,hF⟩:=bind_some hF
 obtain ⟨hc129,hF⟩:=Zo hF
 refine WA.rm (α:=(List (List PV))) (raw:=((v121.map Za) ++ (([(⟨v123,(w64 (y128.f_Lo-1))⟩:Zb)]:List Zb).map Za))) (can:=((v121 ++ ([(⟨v123,(w64 (y128.f_Lo-1))⟩:Zb)]:List Zb)).map Za)) (fun m_=>([(0,one (.sl (v0.map Za))),(3,.val false [.arr 103 (v122+1)]),(5,one (.int .i64 v124))],[(103,.arr 2 m_)],[idxL (v0.map Za) v124=some (Za y128),v122=(v121.map Za).length,(v121.map Za).length+(([(⟨v123,(w64 (y128.f_Lo-1))⟩:Zb)]:List Zb).map Za).length≤1073741824,∀es,es∈(([(⟨v123,(w64 (y128.f_Lo-1))⟩:Zb)]:List Zb).map Za)→es.length=2])) (zm) [0,3,5] [103] [(4,.cells (Za y128))] kr (sound _ _) ⟨(Zs _ hy128),zt,(by first | exact hc129 | (simp only [List.length_map,Zh];exact hc129)),(ZN ([(⟨v123,(w64 (y128.f_Lo-1))⟩:Zb)]:List Zb)),trivial⟩ ?_
 exact ⟨(v121 ++ ([(⟨v123,(w64 (y128.f_Lo-1))⟩:Zb)]:List Zb)),(v122+1),kr,kr,zt,hF⟩ }
 {
 have hF:=Zj hF hb127
 refine WA.skip ?_
 exact ⟨v121,v122,kr,kr,zt,hF⟩ } } }
  {
 have hF:=Zj hF hb125
 refine WA.exit ?_
 refine WA.join (fun s_=>∃(v135:List Zb) (v136:Nat),Zl s_.env [3]=[(3,.val false [.arr 103 v136])]∧Zl s_.os [103]=[(103,.arr 2 (v135.map Za))]∧v136=(v135:List _).length∧Zen k v135=some r) ?_ ?_
 {
 rintro s_ ⟨v135,v136,he,ho,hn_v136,hF⟩
 refine WA.keep _ _ he ho ?_
 clear he ho
 refine WA.seq ?_
 refine WA.freeze 103 3 (s:=2) (n:=v136) (els:=(v135.map Za)) rfl rfl zt ?_
 refine WA.keep [3] [] (env':=[(3,one (.sl (v135.map Za)))]) (os':=[]) kr kr ?_
 obtain ⟨y138,hy138,hF⟩:=bind_some hF
 obtain ⟨y139,hy139,hF⟩:=bind_some hF
 refine WA.reg [2] [] [(1,.callR [] (one (.sl (y138.map Za)))),(2,.callR [] (one (.sl (y139.map Za))))] (env':=[(2,one (.sl (y139.map Za)))]) (os':=[]) (O:=[Sim Tryz.prog GL0 143 [] [] (one (.sl (y138.map Za))) [],([]:List Nat).Nodup,Sim Tryz.prog GL0 190 [one (.sl (v135.map Za)),one (.sl (y138.map Za))] [] (one (.sl (y139.map Za))) [],([]:List Nat).Nodup]) kr (sound _ _) ⟨(Zis k _ hy138),(by decide),(Zk8 k _ _ _ hy139),(by decide),trivial⟩ ?_
 refine WA.ret ?_
 obtain rfl:=Option.some.inj hF
 exact Zp (one (.sl (y139.map Za))) [] kr kr kr kr (by decide) rfl rfl }
 {
 refine WA.seq ?_
 refine WA.reg [3,4,37] [103] [] (env':=[(3,.val false [.arr 103 v122]),(4,one (.int .i64 v123)),(37,one (.bool (decide (v123≤1114111))))]) (os':=[(103,.arr 2 (v121.map Za))]) (O:=[]) kr (sound _ _) trivial ?_
 refine WA.cond (b:=(decide (v123≤1114111))) rfl (fun hb133=>?_) (fun hb133=>?_)
 {
 have hF:=Zk hF hb133
 obtain ⟨hc134,hF⟩:=Zo hF
 refine WA.rm (α:=(List (List PV))) (raw:=((v121.map Za) ++ (([(⟨v123,1114111⟩:Zb)]:List Zb).map Za))) (can:=((v121 ++ ([(⟨v123,1114111⟩:Zb)]:List Zb)).map Za)) (fun m_=>([(3,.val false [.arr 103 (v122+1)])],[(103,.arr 2 m_)],[v122=(v121.map Za).length,(v121.map Za).length+(([(⟨v123,1114111⟩:Zb)]:List Zb).map Za).length≤1073741824,∀es,es∈(([(⟨v123,1114111⟩:Zb)]:List Zb).map Za)→es.length=2])) (zm) [3] [103] [] kr (sound _ _) ⟨zt,(by first | exact hc134 | (simp only [List.length_map,Zh];exact hc134)),(ZN ([(⟨v123,1114111⟩:Zb)]:List Zb)),trivial⟩ ?_
 exact ⟨(v121 ++ ([(⟨v123,1114111⟩:Zb)]:List Zb)),(v122+1),kr,kr,zt,hF⟩ }
 {
 have hF:=Zj hF hb133
 refine WA.skip ?_
 exact ⟨v121,v122,kr,kr,zt,hF⟩ } } }
def F145 (k:Nat) (v0:Int):Option Ze:=
  ((some (⟨1,([(⟨v0,v0⟩:Zb)]:List Zb),([]:List Ze),0,0⟩:Ze)))
theorem Zgi (k:Nat) (v0:Int) (r:Ze) (hF:F145 k v0=some r):Sim Tryz.prog GL0 145 [one (.int .i64 v0)] [] (.val true (pvL (Zd r))) []:=by
 refine ZB [] Tryz.func145 rfl kr kr ?_
 show WA _ _ 8 _ _ _
 refine WA.seq ?_
 refine WA.reg [0,2] [102] [(0,.obj 102)] (env':=[(0,one (.int .i64 v0)),(2,.val false [.ptr 102 1 0 0])]) (os':=[(102,.box (pvL (Zd (⟨0,([]:List Zb),([]:List Ze),0,0⟩:Ze))))]) (O:=[]) kr (sound _ _) trivial ?_
 refine WA.seq ?_
 refine WA.reg [2] [102] [] (env':=[(2,.val false [.ptr 102 1 0 0])]) (os':=[(102,.box (pvL (Zd (⟨1,([(⟨v0,v0⟩:Zb)]:List Zb),([]:List Ze),0,0⟩:Ze))))]) (O:=[]) kr (sound _ _) trivial ?_
 refine WA.ret ?_
 obtain rfl:=Option.some.inj hF
 exact Zp (.val true (pvL (Zd (⟨1,([(⟨v0,v0⟩:Zb)]:List Zb),([]:List Ze),0,0⟩:Ze)))) [] kr kr kr kr (by decide) rfl rfl
def Zc8 (self0:Int→Option Bool) (v0:List UInt8) (v1:Int) (v108:Int):Option Bool:=
  (cond (decide (v108<(v0.length:Int))) ((idxL v0 v108).bind fun y110=>(cond ((y110.toNat:Int) == v1) ((some true)) ((self0 (w64 (v108+1)))))) (((some false))))
def Zc9 (v0:List UInt8) (v1:Int):Nat→Int→Option Bool
  | 0,_=>none
  | m_+1,v108=>Zc8 (Zc9 v0 v1 m_) v0 v1 v108
def F146 (k:Nat) (v0:List UInt8) (v1:Int):Option Bool:=
  ((Zc9 v0 v1 k 0))
theorem Zgj (k:Nat) (v0:List UInt8) (v1:Int) (r:Bool) (hF:F146 k v0 v1=some r):Sim Tryz.prog GL0 146 [one (.str v0),one (.int .u8 v1)] [] (one (.bool r)) []:=by
 refine ZB [] Tryz.func146 rfl kr kr ?_
 show WA _ _ 17 _ _ _
 refine WA.seq ?_
 refine WA.reg [0,1] [] [] (env':=[(0,one (.str v0)),(1,one (.int .u8 v1))]) (os':=[]) (O:=[]) kr (sound _ _) trivial ?_
 refine WA.seq ?_
 refine WA.seq ?_
 refine WA.reg [0,1,5] [] [] (env':=[(0,one (.str v0)),(1,one (.int .u8 v1)),(5,one (.int .i64 0))]) (os':=[]) (O:=[]) kr (sound _ _) trivial ?_
 refine WA.block ?_
 refine WA.loop (fun m s_=>∃(v108:Int),Zl s_.env [0,1,5]=[(0,one (.str v0)),(1,one (.int .u8 v1)),(5,one (.int .i64 v108))]∧Zl s_.os []=[]∧Zc9 v0 v1 m v108=some r) k ⟨0,kr,kr,hF⟩ ?_
 clear hF
 rintro m0 s_ ⟨v108,he,ho,hF⟩
 refine WA.keep _ _ he ho ?_
 clear he ho
 cases m0 with
 | zero=>cases hF
 | succ m0=>
  obtain ⟨self0,hself0⟩:∃g,g=Zc9 v0 v1 m0:=⟨_,rfl⟩
  have hF:Zc8 self0 v0 v1 v108=some r:=by first | (rw [hself0];exact hF) | exact hF
  refine WA.seq ?_
  refine WA.seq ?_
  refine WA.reg [0,1,5,9] [] [] (env':=[(0,one (.str v0)),(1,one (.int .u8 v1)),(5,one (.int .i64 v108)),(9,one (.bool (decide (v108<(v0.length:Int)))))]) (os':=[]) (O:=[]) kr (sound _ _) trivial ?_
  refine WA.cond (b:=(decide (v108<(v0.length:Int)))) rfl (fun hb109=>?_) (fun hb109=>?_)
  {
 have hF:=Zk hF hb109
 refine WA.skip ?_
 refine WA.seq ?_
 refine WA.block ?_
 refine WA.seq ?_
 obtain ⟨y110,hy110,hF⟩:=bind_some hF
 refine WA.reg [0,1,5,16] [] [(2,.num (y110.toNat:Int))] (env':=[(0,one (.str v0)),(1,one (.int .u8 v1)),(5,one (.int .i64 v108)),(16,one (.bool ((y110.toNat:Int) == v1)))]) (os':=[]) (O:=[(idxL v0 v108).map (fun b=>(b.toNat:Int))=some (y110.toNat:Int)]) kr (sound _ _) ⟨(by rw [hy110];rfl),trivial⟩ ?_
 refine WA.cond (b:=((y110.toNat:Int) == v1)) rfl (fun hb111=>?_) (fun hb111=>?_)
 {
 have hF:=Zk hF hb111
 refine WA.seq ?_
 refine WA.reg [4] [] [] (env':=[(4,one (.bool true))]) (os':=[]) (O:=[]) kr (sound _ _) trivial ?_
 refine WA.ret ?_
 obtain rfl:=Option.some.inj hF
 exact Zp (one (.bool true)) [] kr kr kr kr (by decide) rfl rfl }
 {
 have hF:=Zj hF hb111
 refine WA.skip ?_
 refine WA.reg [0,1,5] [] [] (env':=[(0,one (.str v0)),(1,one (.int .u8 v1)),(5,one (.int .i64 (w64 (v108+1))))]) (os':=[]) (O:=[]) kr (sound _ _) trivial ?_
 exact ⟨m0,Nat.lt_succ_self _,(w64 (v108+1)),kr,kr,by rw [hself0] at hF;exact hF⟩ } }
  {
 have hF:=Zj hF hb109
 refine WA.exit ?_
 refine WA.seq ?_
 refine WA.reg [4] [] [] (env':=[(4,one (.bool false))]) (os':=[]) (O:=[]) kr (sound _ _) trivial ?_
 refine WA.ret ?_
 obtain rfl:=Option.some.inj hF
 exact Zp (one (.bool false)) [] kr kr kr kr (by decide) rfl rfl }
end Go.Proofs.YthilboheomikjaaGreatDoor
end
section
namespace Go.Proofs.YthilboheomikjaaGreatDoor
open Go.AL Go.Lib
set_option maxRecDepth 100000
mutual
def fs:Ze→Nat
  | ⟨k,st,l,a,b⟩=>1+max (l.length+4*st.length+40) (fsL l)
def fsL:List Ze→Nat
  | []=>0
  | x :: l=>max (fs x) (fsL l)
end
mutual
def sz:Ze→Int
  | ⟨k,st,l,a,b⟩=>if k=1 then 1 else if k=2∨k=3 then mn (szL l+1) 1000 else if k=4 then mn (szH l*mn (mx (if b<0 then w64 (a+1) else b) 1) 1000+1) 1000 else 1
def szL:List Ze→Int
  | []=>0
  | x :: l=>sz x+szL l
def szH:List Ze→Int
  | []=>0
  | x :: _=>sz x
end
mutual
def dp:Ze→Nat
  | ⟨k,st,l,a,b⟩=>1+dpL l
def dpL:List Ze→Nat
  | []=>0
  | x :: l=>max (dp x) (dpL l)
end
theorem Zdr {l:List Ze} {x:Ze} (h:x∈l):fs x≤fsL l:=by
  induction l with
  | nil=>cases h
  | cons y l ih=>
    simp only [fsL]
    rcases List.mem_cons.1 h with rfl | h
    · omega
    · have:=ih h;omega
theorem ZhV {l:List Ze} {n:Nat}:dpL l≤n↔∀x∈l,dp x≤n:=by
  induction l with
  | nil=>simp [dpL]
  | cons y l ih=>simp only [dpL,List.forall_mem_cons,←ih];omega
theorem ZoX (r:Ze):1≤dp r:=by cases r;simp only [dp];omega
theorem Zlm {x:Int} (h:0≤x):1≤mn (x+1) 1000∧mn (x+1) 1000≤1000:=by unfold mn;split <;> omega
mutual
theorem ZeU:∀r:Ze,1≤sz r∧sz r≤1000
  | ⟨k,st,l,a,b⟩=>by
    have h1:=ZgI l
    have h2:=Zoz l
    have h3:0≤szH l*mn (mx (if b<0 then w64 (a+1) else b) 1) 1000:=Int.mul_nonneg h2.1 (by unfold mn mx;split <;> split <;> omega)
    simp only [sz]
    split
    · omega
    · split
      · exact Zlm h1
      · split
        · exact Zlm h3
        · omega
theorem ZgI:∀l:List Ze,0≤szL l
  | []=>by simp [szL]
  | x :: l=>by
    have:=ZeU x
    have:=ZgI l
    simp only [szL];omega
theorem Zoz:∀l:List Ze,0≤szH l∧szH l≤1000
  | []=>by simp [szH]
  | x :: l=>by
    have:=ZeU x
    simp only [szH];omega
end
theorem ZkI {R:Ze→Option Int} {v:Ze} (hk:v.f_Kind=2∨v.f_Kind=3) (hl:v.f_L.length≤1048576) (hR:∀x∈v.f_L,R x=some (sz x)):∀(l:List Ze) (n:Int) (i m:Nat),v.f_L.drop i=l→l.length<m→i≤v.f_L.length→0≤n→n≤1000→
    ZaD R v m n (i:Int)=some (mn (mn (n+szL l) 1000+1) 1000)
  | [],n,i,m,hd,hm,hi,h0,h1=>by
    obtain ⟨m,rfl⟩:∃q,m=q+1:=⟨m-1,by simp at hm;omega⟩
    have:=Z5 hd
    show ZaN _ _ _ _ _=_
    unfold ZaN
    rw [df (by omega),cond_false,ZG (by omega),cond_false,ZG (by omega),cond_false,Zu (by omega) (by omega)]
    simp only [szL,Int.add_zero]
    congr 2
    unfold mn;split <;> omega
  | x :: l,n,i,m,hd,hm,hi,h0,h1=>by
    obtain ⟨m,rfl⟩:∃q,m=q+1:=⟨m-1,by omega⟩
    obtain ⟨g1,g2,g3⟩:=Z0 hd
    rw [List.length_cons] at hm
    have hx:=hR x (List.mem_of_getElem? g2)
    have hs:=ZeU x
    have hsl:=ZgI l
    have e5:ZbN R (ZaD R v m) n (i:Int) x true=some (mn (mn (n+szL (x :: l)) 1000+1) 1000):=by
      unfold ZbN
      rw [cond_true,hx,Option.bind_some]
      unfold Zeu
      have hb:0≤mn (n+sz x) 1000∧mn (n+sz x) 1000≤1000:=by unfold mn;split <;> omega
      rw [Z2 (by omega),Zu (x:=n+sz x) (by omega) (by omega),ZkI hk hl hR l _ (i+1) m g3 (by omega) (by omega) hb.1 hb.2]
      have:mn (mn (n+sz x) 1000+szL l) 1000=mn (n+szL (x :: l)) 1000:=by
        simp only [szL]
        unfold mn
        split <;> split <;> (try split) <;> omega
      rw [this]
    show ZaN R (ZaD R v m) v n (i:Int)=_
    unfold ZaN
    rw [dt (by omega),cond_true,Zy,g2,Option.bind_some]
    rcases hk with hk | hk
    · rw [hk];exact e5
    · rw [hk];exact e5
theorem Zf3 {R:Ze→Option Int} {v:Ze} (h2:v.f_Kind≠2) (h3:v.f_Kind≠3) (hl:v.f_L.length≤1048576):∀(l:List Ze) (n:Int) (i m:Nat),(v.f_Kind=4→0<i)→v.f_L.drop i=l→l.length<m→i≤v.f_L.length→
    ZaD R v m n (i:Int)=cond (v.f_Kind == 1) (some 1) (cond (v.f_Kind == 4) (cond (decide (v.f_Max<0)) (Zca n (w64 (v.f_Min+1))) (Zca n v.f_Max)) (some (mn (w64 (n+1)) 1000)))
  | [],n,i,m,h4,hd,hm,hi=>by
    obtain ⟨m,rfl⟩:∃q,m=q+1:=⟨m-1,by simp at hm;omega⟩
    have:=Z5 hd
    show ZaN _ _ _ _ _=_
    unfold ZaN
    rw [df (by omega),cond_false]
  | x :: l,n,i,m,h4,hd,hm,hi=>by
    obtain ⟨m,rfl⟩:∃q,m=q+1:=⟨m-1,by omega⟩
    obtain ⟨g1,g2,g3⟩:=Z0 hd
    rw [List.length_cons] at hm
    have e5:ZbN R (ZaD R v m) n (i:Int) x false=ZaD R v m n ((i+1:Nat):Int):=by
      unfold ZbN Zeu
      rw [cond_false,Z2 (by omega)]
    have e6:=Zf3 h2 h3 hl (R:=R) l n (i+1) m (fun _=>by omega) g3 (by omega) (by omega)
    show ZaN R (ZaD R v m) v n (i:Int)=_
    unfold ZaN
    rw [dt (by omega),cond_true,Zy,g2,Option.bind_some,ZG h2,cond_false,ZG h3,cond_false]
    by_cases hk:v.f_Kind=4
    · have:=h4 hk
      rw [ZaE hk,cond_true,ZG (show ¬(i:Int)=0 by omega),e5,e6,ZaE hk]
    · rw [ZG hk,cond_false,e5,e6,ZG hk]
theorem Zkl {x y:Int} (h0:0≤x) (h1:x≤1000) (h2:1≤y) (h3:y≤1000):0≤x*y∧x*y≤1000000:=
  ⟨Int.mul_nonneg h0 (by omega),by have:=Int.mul_le_mul h1 h3 (by omega) (by omega:(0:Int)≤1000);omega⟩
theorem mnmx (t:Int):1≤mn (mx t 1) 1000∧mn (mx t 1) 1000≤1000:=by unfold mn mx;split <;> split <;> omega
theorem ZnJ {n t:Int} (h0:0≤n) (h1:n≤1000):Zca n t=some (mn (n*mn (mx t 1) 1000+1) 1000):=by
  have h2:=mnmx t
  have h3:=Zkl h0 h1 h2.1 h2.2
  unfold Zca
  rw [Zu (x:=n*_) (by omega) (by omega),Zu (by omega) (by omega)]
theorem Zlx:∀(k:Nat) (r:Ze),k≤1048576→fs r≤k→F32 k r=some (sz r)
  | 0,⟨kd,st,l,a,b⟩,_,hf=>by simp only [fs] at hf;omega
  | k+1,⟨kd,st,l,a,b⟩,hk,hf=>by
    simp only [fs] at hf
    have hR:∀x∈l,F32 k x=some (sz x):=fun x hx=>Zlx k x (by omega) (by have:=Zdr hx;omega)
    show ZaD (F32 k) ⟨kd,st,l,a,b⟩ k 0 0=_
    simp only [sz]
    by_cases h23:kd=2∨kd=3
    · have e:=ZkI (R:=F32 k) (v:=⟨kd,st,l,a,b⟩) h23 (by show l.length≤_;omega) hR l 0 0 k rfl (by omega) (Nat.zero_le _) (by omega) (by omega)
      have e':ZaD (F32 k) ⟨kd,st,l,a,b⟩ k 0 0=_:=e
      have:=ZgI l
      rw [e',if_neg (by omega),if_pos h23]
      congr 1
      unfold mn
      split <;> split <;> (try split) <;> omega
    · rw [if_neg h23]
      by_cases h4:kd=4
      · subst h4
        rw [if_neg (by omega),if_pos rfl]
        have fin:∀n:Int,0≤n→n≤1000→cond ((4:Int) == 1) (some 1) (cond ((4:Int) == 4) (cond (decide (b<0)) (Zca n (w64 (a+1))) (Zca n b)) (some (mn (w64 (n+1)) 1000)))=some (mn (n*mn (mx (if b<0 then w64 (a+1) else b) 1) 1000+1) 1000):=fun n h0 h1=>by
          rw [ZG (by omega),cond_false,ZaE rfl,cond_true]
          by_cases hb:b<0
          · rw [dt hb,cond_true,ZnJ h0 h1,if_pos hb]
          · rw [df hb,cond_false,ZnJ h0 h1,if_neg hb]
        cases l with
        | nil=>
          obtain ⟨m,rfl⟩:∃q,k=q+1:=⟨k-1,by omega⟩
          show ZaN _ _ _ _ _=_
          unfold ZaN
          rw [df (by simp),cond_false]
          exact fin 0 (by omega) (by omega)
        | cons x l=>
          obtain ⟨m,rfl⟩:∃q,k=q+1:=⟨k-1,by omega⟩
          have hx:=hR x List.mem_cons_self
          have hs:=ZeU x
          rw [List.length_cons] at hf
          have e:=Zf3 (R:=F32 (m+1)) (v:=⟨4,st,x :: l,a,b⟩) (by show (4:Int)≠2;omega) (by show (4:Int)≠3;omega) (by show (x :: l).length≤_;rw [List.length_cons];omega) l (mn (sz x) 1000) 1 m (fun _=>by omega) rfl (by omega) (by simp)
          show ZaN (F32 (m+1)) (ZaD (F32 (m+1)) ⟨4,st,x :: l,a,b⟩ m) ⟨4,st,x :: l,a,b⟩ 0 0=_
          unfold ZaN
          have e1:w64 ((0:Int)+1)=((1:Nat):Int):=by rw [Zu (by omega) (by omega)];rfl
          rw [dt (by simp),cond_true,ZcF,Option.bind_some]
          simp only [show ((4:Int) == 2)=false from rfl,show ((4:Int) == 3)=false from rfl,show ((4:Int) == 4)=true from rfl,show ((0:Int) == 0)=true from rfl,cond_true,cond_false]
          unfold ZbN Zeu
          rw [cond_true,hx,Option.bind_some,e1,Int.zero_add,Zu (x:=sz x) (by omega) (by omega),e]
          have e2:mn (sz x) 1000=sz x:=mn_l (by omega)
          rw [e2]
          exact fin _ (by omega) (by omega)
      · have e:=Zf3 (R:=F32 k) (v:=⟨kd,st,l,a,b⟩) (by show kd≠2;omega) (by show kd≠3;omega) (by show l.length≤_;omega) l 0 0 k (fun h=>absurd h h4) rfl (by omega) (Nat.zero_le _)
        have e':ZaD (F32 k) ⟨kd,st,l,a,b⟩ k 0 0=_:=e
        rw [e',if_neg h4]
        show cond (kd == 1) _ (cond (kd == 4) _ _)=_
        rw [ZG h4,cond_false]
        by_cases h1:kd=1
        · rw [ZaE h1,cond_true,if_pos h1]
        · rw [ZG h1,cond_false,if_neg h1,Zu (by omega) (by omega)];rfl
theorem Zjp {R:Ze→Option Int} {v:Ze} (hl:v.f_L.length≤1048576) (hR:∀x∈v.f_L,R x=some (sz x)):∀(l:List Ze) (n:Int) (i m:Nat),v.f_L.drop i=l→l.length<m→i≤v.f_L.length→0≤n→n≤1000*i→
    ZdA R v m n (i:Int)=some (mn (n+szL l+1) 1000)
  | [],n,i,m,hd,hm,hi,h0,h1=>by
    obtain ⟨m,rfl⟩:∃q,m=q+1:=⟨m-1,by simp at hm;omega⟩
    have:=Z5 hd
    show Zeq _ _ _ _ _=_
    unfold Zeq ZcH
    rw [df (by omega),cond_false,Zu (by omega) (by omega)]
    simp only [szL,Int.add_zero]
  | x :: l,n,i,m,hd,hm,hi,h0,h1=>by
    obtain ⟨m,rfl⟩:∃q,m=q+1:=⟨m-1,by omega⟩
    obtain ⟨g1,g2,g3⟩:=Z0 hd
    rw [List.length_cons] at hm
    have hx:=hR x (List.mem_of_getElem? g2)
    have hs:=ZeU x
    show Zeq R (ZdA R v m) v n (i:Int)=_
    unfold Zeq
    rw [dt (by omega),cond_true,Zy,g2,Option.bind_some,hx,Option.bind_some,Z2 (by omega),Zu (x:=n+sz x) (by omega) (by omega),Zjp hl hR l _ (i+1) m g3 (by omega) (by omega) (by omega) (by omega)]
    simp only [szL]
    rw [Int.add_assoc n]
theorem ZkE:∀(k:Nat) (r:Ze),k≤1048576→fs r≤k→F20 k r=some (sz r)
  | 0,⟨kd,st,l,a,b⟩,_,hf=>by simp only [fs] at hf;omega
  | k+1,⟨kd,st,l,a,b⟩,hk,hf=>by
    simp only [fs] at hf
    have hR:∀x∈l,F20 k x=some (sz x):=fun x hx=>ZkE k x (by omega) (by have:=Zdr hx;omega)
    have e:=Zjp (R:=F20 k) (v:=⟨kd,st,l,a,b⟩) (by show l.length≤_;omega) hR l 0 0 k rfl (by omega) (Nat.zero_le _) (by omega) (by omega)
    have e':ZdA (F20 k) ⟨kd,st,l,a,b⟩ k 0 0=some (mn (0+szL l+1) 1000):=e
    rw [Int.zero_add] at e'
    show Zjx (F20 k) k ⟨kd,st,l,a,b⟩=_
    unfold Zjx Zhl
    simp only [sz]
    by_cases k1:kd=1
    · rw [ZaE k1,cond_true,if_pos k1]
    rw [ZG k1,cond_false,if_neg k1]
    by_cases k2:kd=2
    · rw [ZaE k2,cond_true,cond_true,if_pos (.inl k2)];exact e'
    rw [ZG k2,cond_false]
    by_cases k3:kd=3
    · rw [ZaE k3,cond_true,if_pos (.inr k3)];exact e'
    rw [ZG k3,cond_false,if_neg (by omega)]
    have j3:ZcH 0=some 1:=rfl
    by_cases k4:kd=4
    · rw [ZaE k4,cond_true,if_pos k4]
      cases l with
      | nil=>
        rw [df (by simp),cond_false,j3]
        simp only [szH,Int.zero_mul];rfl
      | cons x l=>
        have hx:=hR x List.mem_cons_self
        have hs:=ZeU x
        have fin:∀t,Zft (F20 k) ⟨kd,st,x :: l,a,b⟩ t=some (mn (szH (x :: l)*mn (mx t 1) 1000+1) 1000):=fun t=>by
          have h2:=mnmx t
          have h3:=Zkl (show 0≤sz x by omega) hs.2 h2.1 h2.2
          unfold Zft ZcH
          simp only
          rw [ZcF,Option.bind_some,hx,Option.bind_some,Zu (x:=sz x*_) (by omega) (by omega),Zu (by omega) (by omega)]
          rfl
        rw [dt (by simp),cond_true,fin,fin]
        by_cases hb:b<0
        · rw [dt hb,cond_true,if_pos hb]
        · rw [df hb,cond_false,if_neg hb]
    · rw [ZG k4,cond_false,if_neg k4];rfl
end Go.Proofs.YthilboheomikjaaGreatDoor
end
section
namespace Go.Proofs.YthilboheomikjaaGreatDoor
open Go.AL Go.Lib
set_option maxRecDepth 100000
instance (c:Int):Decidable (ZM c):=by unfold ZM;infer_instance
end Go.Proofs.YthilboheomikjaaGreatDoor
end
section
namespace Go.Proofs.YthilboheomikjaaGreatDoor
open Go.AL
set_option maxRecDepth 100000
end Go.Proofs.YthilboheomikjaaGreatDoor
end
section
namespace Go.AL
section
variable {P:Program} {GL:List (Nat×List PV)} {N:Nat} {st:S} {F:Exit→S→Prop} {x:Code}
def NoGo (F:Exit→S→Prop):Exit→S→Prop
  | .goto _,_=>False
  | e,s=>F e s
theorem WA.scope (h:WA P GL N x st (NoGo F)):WA P GL N (.scope x) st F:=fun D w0 I0 G0 os0 w I G a h1 h2 h3 h4=>by
  refine wp_scope_straight (wp_mono (h D w0 I0 G0 os0 w I G a h1 h2 h3 h4) ?_)
  rintro e a' w' ⟨I',G',s,q1,q2,q3,q4,q5⟩
  cases e with
  | goto l=>exact q5.elim
  | _=>exact ⟨I',G',s,q1,q2,q3,q4,q5⟩
end
end Go.AL
end
