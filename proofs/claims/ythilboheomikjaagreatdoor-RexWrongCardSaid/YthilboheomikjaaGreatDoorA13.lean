/- The evaluator is right: a region in the order of its text; rules for code. -/
import Derived.Test.YthilboheomikjaaGreatDoorA12
namespace Go.AL
variable {D : List Deferred}
set_option linter.unusedVariables false
set_option linter.unusedSimpArgs false
variable {P : Program} {GL : List (Nat × List PV)} {C : Spec} {st : S} {w : World} {I : Nat → Prop} {G : Nat → Option Nat} {N : Nat} {a : Act}

def Sound (P : Program) (GL : List (Nat × List PV)) (C : Spec) : Prop := ∀ f args os res os', C f args os res os' → Sim P GL f args os res os'

theorem fr_put {w' : World} {I' : Nat → Prop} {G' : Nat → Option Nat} {os' : Objs} {o : Oper} {x : AT} {v : Value} (hf : Fr D w I G (shape st.os) N a st.env) (hd : dstOk N o = true)
    (hm : ∀ t x u, look st.env t = some x → ATr w I G (shape st.os) x u → ATr w' I' G' (shape os') x u) (hx : ATr w' I' G' (shape os') x v) :
    Fr D w' I' G' (shape os') N (a.put o.dst v) (putE st.env o.dst x) := by
  unfold dstOk at hd
  cases hdst : o.dst with
  | none =>
    simp only [Act.put, putE]
    exact ⟨hf.size, hf.defers, fun t y hy => ⟨(hf.slot t y hy).1, hm t y _ hy (hf.slot t y hy).2⟩⟩
  | some d =>
    rw [hdst] at hd
    have hlt : d < N := Nat.le_of_ble_eq_true hd
    simp only [Act.put, putE]
    refine ⟨by simp [hf.size], hf.defers, fun t y hy => ?_⟩
    rw [look_cons] at hy
    by_cases e : d = t
    · subst e
      rw [if_pos rfl] at hy; cases hy
      refine ⟨hlt, ?_⟩
      rw [Array.getD_eq_getD_getElem?, Array.getElem?_setIfInBounds_self_of_lt (by rw [hf.size]; exact hlt)]
      exact hx
    · rw [if_neg e] at hy
      refine ⟨(hf.slot t y hy).1, ?_⟩
      rw [Array.getD_eq_getD_getElem?, Array.getElem?_setIfInBounds_ne e, ← Array.getD_eq_getD_getElem?]
      exact hm t y _ hy (hf.slot t y hy).2

theorem bool_slot {b : Bool} {v : Value} {sh : Sh} (h : ATr w I G sh (.val false [.pv (.bool b)]) v) : v = .bool b := by
  have h1 : PVr w I (.bool b) v := atr_one h
  cases h1; rfl

theorem wanted_ok {ops : List Oper} {o : Oper} {b : Bool} (hf : Fr D w I G (shape st.os) N a st.env) (h : wantedA ops st o = some b) : Region.wanted o (yielded ops.toArray a.tmps) = b := by
  unfold wantedA at h
  unfold Region.wanted
  cases hg : o.guard with
  | none => rw [hg] at h; cases h; rfl
  | some gw =>
    obtain ⟨g, want⟩ := gw
    rw [hg] at h
    simp only at h ⊢
    have hy : yielded ops.toArray a.tmps g = match ((ops[g]?).bind (·.dst)).bind (a.tmps[·]?) with | some (.bool b) => some b | _ => none := by
      simp [yielded]
      rfl
    rw [hy]
    split at h
    · cases h
    · rename_i t hd
      rw [hd]
      have hget : ∀ x, look st.env t = some x → a.tmps[t]? = some (a.tmps.getD t undef) := by
        intro x hx
        have hlt := (hf.slot t x hx).1
        rw [Array.getD_eq_getD_getElem?, Array.getElem?_eq_getElem (by rw [hf.size]; exact hlt)]; rfl
      split at h
      · rename_i b' hb
        have hv := bool_slot (hf.slot t _ hb).2
        simp only [Option.bind_some, hget _ hb, hv]
        split at h <;> cases h <;> rfl
      · rename_i hb
        obtain ⟨vs, hv, ht⟩ := (hf.slot t _ hb).2
        simp only [Option.bind_some, hget _ hb, hv]
        cases h; rfl
      · cases h

/-- an operation, whatever it is -/
theorem op_wp {o : Oper} {h : Option Hint} {x : AT} {os' : Objs} {O : List Prop} (he : evalOpH P GL C st o h = some (x, os', O)) (hO : All O) (hC : Sound P GL C) (hs : Sr GL w I G st.os)
    (hf : Fr D w I G (shape st.os) N a st.env) {K : Act → World → Prop} {Q : Exit → Act → World → Prop}
    (hK : ∀ v w' I' G', Ext w w' I I' (Mine G st.os) (Mine G' os') → Sr GL w' I' G' os' → ATr w' I' G' (shape os') x v → Moves (makes h) st os' w w' I I' G G' → K (a.put o.dst v) w') : o.wp P a w K Q := by
  have key : ∀ {h : Option Hint} {x : AT} {os' : Objs} {O : List Prop}, evalOp P GL C st o h = some (x, os', O) → All O →
      (∀ v w' I' G', Ext w w' I I' (Mine G st.os) (Mine G' os') → Sr GL w' I' G' os' → ATr w' I' G' (shape os') x v → Moves (makes h) st os' w w' I I' G G' → K (a.put o.dst v) w') → o.wp P a w K Q := by
    intro h x os' O he hO hK
    by_cases hc : isCallF o
    · obtain ⟨fo, args, tys, ho⟩ := hc
      obtain ⟨args⟩ := args
      obtain ⟨dst, op, ty, pos, after, guard⟩ := o
      simp only at ho; subst ho
      simp only [evalOp] at he
      split at he
      · rename_i f hfo
        have h1 : PVr w I (.fn f) (a.eval fo) := atr_one (opd_r hs hf hfo)
        have hev : a.eval fo = .func (.func f) #[] #[] := by
          generalize a.eval fo = v at h1
          cases h1; rfl
        split at he
        · rename_i hb
          obtain ⟨fn, hfn, hfb⟩ := map_some hb
          simp only [Prod.mk.injEq] at hfb
          have hcall := ok_call he hO hC hs hf
          unfold Oper.wp
          have hbody : fn.body.isNone = false := by rw [← Option.not_isSome, hfb.1]; rfl
          have hrun : (execOp a.eval { dst, op := .call ⟨.value fo, ⟨args⟩, tys⟩, type := ty, pos, after, guard }).run P w = .ok (.enter f (args.map a.eval).toArray) w := by
            have hname : ¬ fn.name = "runtime.NumGoroutine" := by simpa using hfb.2
            have hbn : ¬ fn.body = none := fun e => by rw [e] at hbody; cases hbody
            simp [execOp, resolve, hev, Deferred.ofValue, invoke, callFunc, hfn]
            rw [if_neg hname, if_neg hbn]
          rw [hrun, Oper.upon_enter]
          refine Calls.imp hcall ?_
          rintro e w' ⟨v, I', G', rfl, r1, r2, r3, r4⟩
          exact hK v w' I' G' r1 r2 r3 r4
        · cases he
      · cases he
    · obtain ⟨nx, v, w', I', G', hr, hnx, r1, r2, r3, r4⟩ := ok_op he hO hc hs hf
      unfold Oper.wp
      rw [hr]
      rcases hnx with rfl | ⟨rfl, rfl⟩
      · exact hK v w' I' G' r1 r2 r3 r4
      · exact hK undef w' I' G' r1 r2 r3 r4
  unfold evalOpH at he
  split at he
  · rename_i b
    split at he
    · rename_i y os2 O2 he2
      cases he
      obtain ⟨hb, hO2⟩ := hO
      subst hb
      exact key he2 hO2 hK
    · cases he
  · exact key he hO hK

theorem Ext.drew (w : World) (I M : Nat → Prop) : Ext w w.drew I I M M := ⟨Nat.le_refl _, rfl, rfl, rfl, fun _ _ _ => rfl, fun _ h => h, fun _ h => .inl h, fun _ h => .inl h⟩

/-- a region, one operation behind the other -/
theorem ops_wp {ops : List Oper} {hs_ : List (Nat × Hint)} (hC : Sound P GL C) : ∀ (rest : List Oper) (i : Nat) (st st' : S) (O : List Prop) (w : World) (I : Nat → Prop) (G : Nat → Option Nat) (a : Act) (Q : Exit → Act → World → Prop),
    evalOps P GL C N ops hs_ i rest st = some (st', O) → All O → Sr GL w I G st.os → Fr D w I G (shape st.os) N a st.env →
    (∀ w' I' G' a', Ext w w' I I' (Mine G st.os) (Mine G' st'.os) → Keeps (· < 100) w w' I I' G G' (shape st.os) (shape st'.os) → Sr GL w' I' G' st'.os → Fr D w' I' G' (shape st'.os) N a' st'.env → Q .normal a' w') →
    wpList P ops.toArray Q rest a w
  | [], i, st, st', O, w, I, G, a, Q, he, hO, hs, hf, hQ => by
    cases he
    exact hQ w I G a (.refl _ _ _) (.refl _ _ _ _ _) hs hf
  | o :: rest, i, st, st', O, w, I, G, a, Q, he, hO, hs, hf, hQ => by
    simp only [evalOps] at he
    split at he
    · rename_i hw hd
      have hw' := wanted_ok hf hw
      unfold wpList
      rw [hw']
      simp only [Bool.false_eq_true, if_false]
      exact ops_wp hC rest (i + 1) _ st' O w I G _ Q he hO hs (fr_put hf hd (fun _ _ _ _ h => h) ⟨[], rfl, rfl⟩) hQ
    · rename_i hw hd
      have hw' := wanted_ok hf hw
      split at he
      · cases he
      · rename_i x os O1 he1
        split at he
        · cases he
        · rename_i st2 O2 he2
          cases he
          obtain ⟨h1, h2⟩ := hO.append
          unfold wpList
          rw [hw']
          simp only [if_true]
          refine .inl (op_wp he1 h1 hC hs hf fun v w' I' G' e1 s1 x1 m1 => ?_)
          exact ops_wp hC rest (i + 1) _ st' O2 w' I' G' _ Q he2 h2 s1 (fr_put hf hd m1.env x1) (fun w2 I2 G2 a2 e2 k2 s2 f2 => hQ w2 I2 G2 a2 (e1.trans e2) (m1.keeps.trans k2) s2 f2)
    · cases he

/-! ### code -/

/-- what holds of a place in code: as seen from the begin of the call -/
def Post (GL : List (Nat × List PV)) (N : Nat) (D : List Deferred) (w0 : World) (I0 : Nat → Prop) (G0 : Nat → Option Nat) (os0 : Objs) (F : Exit → S → Prop) : Exit → Act → World → Prop := fun e a w =>
  ∃ I G st, Ext w0 w I0 I (Mine G0 os0) (Mine G st.os) ∧ Keeps (· < 100) w0 w I0 I G0 G (shape os0) (shape st.os) ∧ Sr GL w I G st.os ∧ Fr D w I G (shape st.os) N a st.env ∧ F e st

def WA (P : Program) (GL : List (Nat × List PV)) (N : Nat) (code : Code) (st : S) (F : Exit → S → Prop) : Prop :=
  ∀ (D : List Deferred) w0 I0 G0 os0 w I G a, Ext w0 w I0 I (Mine G0 os0) (Mine G st.os) → Keeps (· < 100) w0 w I0 I G0 G (shape os0) (shape st.os) → Sr GL w I G st.os → Fr D w I G (shape st.os) N a st.env →
    code.wp P (Post GL N D w0 I0 G0 os0 F) a w

section
variable {F F' : Exit → S → Prop} {x y code : Code}

theorem WA.mono (h : WA P GL N code st F) (hF : ∀ e s, F e s → F' e s) : WA P GL N code st F' := fun D w0 I0 G0 os0 w I G a h1 h2 h3 h4 =>
  wp_mono (h D w0 I0 G0 os0 w I G a h1 h2 h3 h4) fun _ _ _ ⟨I, G, s, q1, q2, q3, q4, q5⟩ => ⟨I, G, s, q1, q2, q3, q4, hF _ _ q5⟩

/-- what F says where x is done normally -/
def Then (P : Program) (GL : List (Nat × List PV)) (N : Nat) (y : Code) (F : Exit → S → Prop) : Exit → S → Prop
  | .normal, s => WA P GL N y s F
  | e, s => F e s

theorem WA.seq (h : WA P GL N x st (Then P GL N y F)) : WA P GL N (.seq x y) st F := fun D w0 I0 G0 os0 w I G a h1 h2 h3 h4 => by
  refine wp_seq (wp_mono (h D w0 I0 G0 os0 w I G a h1 h2 h3 h4) ?_)
  rintro e a' w' ⟨I', G', s, q1, q2, q3, q4, q5⟩
  cases e with
  | normal => exact q5 D w0 I0 G0 os0 w' I' G' a' q1 q2 q3 q4
  | _ => exact ⟨I', G', s, q1, q2, q3, q4, q5⟩

theorem WA.skip (h : F .normal st) : WA P GL N .skip st F := fun D w0 I0 G0 os0 w I G a h1 h2 h3 h4 => wp_skip ⟨I, G, st, h1, h2, h3, h4, h⟩
theorem WA.ret (h : F .ret st) : WA P GL N .ret st F := fun D w0 I0 G0 os0 w I G a h1 h2 h3 h4 => wp_ret ⟨I, G, st, h1, h2, h3, h4, h⟩
theorem WA.exit {id : Nat} (h : F (.exit id) st) : WA P GL N (.exit id) st F := fun D w0 I0 G0 os0 w I G a h1 h2 h3 h4 => wp_exit ⟨I, G, st, h1, h2, h3, h4, h⟩

theorem WA.cond {c : Operand} {b : Bool} (hc : opd GL st c = some (.val false [.pv (.bool b)])) (ht : b = true → WA P GL N x st F) (hf : b = false → WA P GL N y st F) : WA P GL N (.cond c x y) st F :=
  fun D w0 I0 G0 os0 w I G a h1 h2 h3 h4 => by
    have hv := bool_slot (opd_r h3 h4 hc)
    exact wp_cond_split hv (fun e => ht e D w0 I0 G0 os0 w I G a h1 h2 h3 h4) (fun e => hf e D w0 I0 G0 os0 w I G a h1 h2 h3 h4)

def InBlock (id : Nat) (F : Exit → S → Prop) : Exit → S → Prop
  | .exit k, s => match Nat.beq k id with | true => F .normal s | false => F (.exit k) s
  | e, s => F e s

theorem WA.block {id : Nat} (h : WA P GL N x st (InBlock id F)) : WA P GL N (.block id x) st F := fun D w0 I0 G0 os0 w I G a h1 h2 h3 h4 => by
  refine wp_block (wp_mono (h D w0 I0 G0 os0 w I G a h1 h2 h3 h4) ?_)
  rintro e a' w' ⟨I', G', s, q1, q2, q3, q4, q5⟩
  cases e with
  | exit k =>
    simp only [InBlock] at q5
    simp only [Exit.inBlock]
    by_cases e : k = id
    · subst e; rw [if_pos rfl]
      rw [Nat.beq_refl] at q5
      exact ⟨I', G', s, q1, q2, q3, q4, q5⟩
    · rw [if_neg e]
      have : Nat.beq k id = false := by rw [← Bool.not_eq_true]; intro h'; exact e (Nat.eq_of_beq_eq_true h')
      rw [this] at q5
      exact ⟨I', G', s, q1, q2, q3, q4, q5⟩
  | _ => exact ⟨I', G', s, q1, q2, q3, q4, q5⟩

theorem wp_loop_ix {c : Code} {Q : Exit → Act → World → Prop} (J : Nat → Act → World → Prop) (round : ∀ n a w, J n a w → c.wp P (Exit.then (fun a' w' => ∃ m, m < n ∧ J m a' w') Q) a w) (n : Nat) (a : Act) (w : World)
    (h : J n a w) : (Code.loop c).wp P Q a w := by
  intro b k cs
  have key : ∀ n a w, J n a w → ∃ e a' w', Q e a' w' ∧ Arrives P (lone (b.at a (.code c :: .inLoop c :: k)) cs w) b k cs e a' w' := by
    intro n
    induction n using Nat.strongRecOn with
    | _ n ih =>
      intro a w hI
      obtain ⟨e, a1, w1, hq, harr⟩ := round n a w hI b (.inLoop c :: k) cs
      cases e with
      | normal =>
        obtain ⟨m, hlt, hI1⟩ := hq
        obtain ⟨e2, a2, w2, hq2, harr2⟩ := ih m hlt a1 w1 hI1
        exact ⟨e2, a2, w2, hq2, .of_steps (Steps.trans harr (.one step_inLoop)) harr2⟩
      | exit id => exact ⟨_, a1, w1, hq, .pass (x := .inLoop c) rfl (fun _ _ => .inl (by simp)) harr⟩
      | goto l => exact ⟨_, a1, w1, hq, .pass (x := .inLoop c) rfl (fun _ _ => .inl (by simp)) harr⟩
      | ret => exact ⟨_, a1, w1, hq, .pass (x := .inLoop c) rfl (fun _ _ => .inl (by simp)) harr⟩
      | panic ch => exact ⟨_, a1, w1, hq, .pass (x := .inLoop c) rfl (fun _ _ => .inl (by simp)) harr⟩
      | outgrown => exact ⟨_, a1, w1, hq, .pass (x := .inLoop c) rfl (fun _ _ => .inl (by simp)) harr⟩
  obtain ⟨e, a', w', hq, harr⟩ := key n a w h
  exact ⟨e, a', w', hq, .of_steps (.one step_loop) harr⟩

def Round (F : Exit → S → Prop) (R : Nat → S → Prop) (n : Nat) : Exit → S → Prop
  | .normal, s => ∃ m, m < n ∧ R m s
  | e, s => F e s

theorem WA.loop (R : Nat → S → Prop) (n : Nat) (h : R n st) (round : ∀ n s, R n s → WA P GL N x s (Round F R n)) : WA P GL N (.loop x) st F := fun D w0 I0 G0 os0 w I G a h1 h2 h3 h4 => by
  refine wp_loop_ix (fun n a w => ∃ I G st, Ext w0 w I0 I (Mine G0 os0) (Mine G st.os) ∧ Keeps (· < 100) w0 w I0 I G0 G (shape os0) (shape st.os) ∧ Sr GL w I G st.os ∧ Fr D w I G (shape st.os) N a st.env ∧ R n st) ?_ n a w ⟨I, G, st, h1, h2, h3, h4, h⟩
  rintro n a w ⟨I, G, s, q1, q2, q3, q4, q5⟩
  refine wp_mono (round n s q5 D w0 I0 G0 os0 w I G a q1 q2 q3 q4) ?_
  rintro e a' w' ⟨I', G', s', r1, r2, r3, r4, r5⟩
  cases e with
  | normal => obtain ⟨m, hm, hr⟩ := r5; exact ⟨m, hm, I', G', s', r1, r2, r3, r4, hr⟩
  | _ => exact ⟨I', G', s', r1, r2, r3, r4, r5⟩

/-- a region in the order of its text -/
theorem WA.region {id : Nat} {l : List Oper} {hs_ : List (Nat × Hint)} {st' : S} {O : List Prop} (he : evalOps P GL C N l hs_ 0 l st = some (st', O)) (hC : Sound P GL C) (hO : All O) (h : F .normal st') :
    WA P GL N (.region id l.toArray false) st F := fun D w0 I0 G0 os0 w I G a h1 h2 h3 h4 =>
  wp_region_list (ops_wp hC l 0 st st' O w I G a _ he hO h3 h4 fun w' I' G' a' e k s f => ⟨I', G', st', h1.trans e, h2.trans k, s, f, h⟩)

/-- less is known -/
theorem Sr.sub {os os' : Objs} (hs : Sr GL w I G os) (h : ∀ k o, look os' k = some o → look os k = some o) : Sr GL w I G os' ∧ Keeps Any w w I I G G (shape os) (shape os') := by
  have hk : Keeps Any w w I I G G (shape os) (shape os') := ⟨fun _ _ => rfl, fun _ h => h, fun id s m _ hsh => by
    cases ho : look os' id with
    | none => simp [shape, ho] at hsh
    | some o => refine ⟨m, ?_, Nat.le_refl _, fun _ => ⟨rfl, fun _ _ => Nat.le_refl _⟩⟩; simp only [shape, h id o ho]; simpa [shape, ho] using hsh⟩
  refine ⟨⟨hs.gl, fun k o h1 h2 => hs.none_ k o (h k o h1) h2, fun k o b h1 h2 => ?_, fun k k' o o' b h1 h2 => hs.inj k k' o o' b (h k o h1) (h k' o' h2), hs.lt⟩, hk⟩
  obtain ⟨q1, cs, E, q2, q3, q4, q5⟩ := hs.blk k o b (h k o h1) h2
  exact ⟨q1, cs, E, q2, q3, q4, fun i es j c e1 e2 => by
    obtain ⟨v, hv, hr⟩ := q5 i es j c e1 e2
    exact ⟨v, hv, hr.mono hk (AC.refs_any c)⟩⟩

theorem WA.sub {st' : S} (he : ∀ t x, look st'.env t = some x → look st.env t = some x) (ho : ∀ k o, look st'.os k = some o → look st.os k = some o) (h : WA P GL N code st' F) : WA P GL N code st F :=
  fun D w0 I0 G0 os0 w I G a h1 h2 h3 h4 => by
    obtain ⟨s1, k1⟩ := h3.sub ho
    refine h D w0 I0 G0 os0 w I G a ⟨h1.size, h1.os, h1.tape, h1.output, h1.keep, h1.imm, h1.inew, fun b ⟨k, o, q1, q2⟩ => h1.mnew b ⟨k, o, ho k o q1, q2⟩⟩ (h2.trans (k1.weaken fun _ _ => trivial)) s1
      ⟨h4.size, h4.defers, fun t x hx => ⟨(h4.slot t x (he t x hx)).1, (h4.slot t x (he t x hx)).2.mono k1 (AT.refs_any x)⟩⟩

/-- only these slots and objects are kept -/
def pickE {α : Type} (env : List (Nat × α)) : List Nat → List (Nat × α)
  | [] => []
  | t :: l => match look env t with | some x => (t, x) :: pickE env l | none => pickE env l

theorem look_pickE {α : Type} {env : List (Nat × α)} : ∀ {l : List Nat} {t : Nat} {x : α}, look (pickE env l) t = some x → look env t = some x
  | [], t, x, h => by cases h
  | k :: l, t, x, h => by
    simp only [pickE] at h
    split at h
    · rename_i y hy
      rw [look_cons] at h
      split at h
      · cases h; subst_vars; exact hy
      · exact look_pickE h
    · exact look_pickE h

theorem WA.keep (ts ids : List Nat) {env' : List (Nat × AT)} {os' : Objs} (he : pickE st.env ts = env') (ho : pickE st.os ids = os') (h : WA P GL N code ⟨env', os'⟩ F) : WA P GL N code st F := by
  subst he; subst ho
  exact WA.sub (fun t x => look_pickE) (fun k o => look_pickE) h

theorem WA.reg {id : Nat} {l : List Oper} (ts ids : List Nat) (hs_ : List (Nat × Hint)) {env' : List (Nat × AT)} {os' : Objs} {O : List Prop}
    (he : (evalOps P GL C N l hs_ 0 l st).map (fun p => (pickE p.1.env ts, pickE p.1.os ids, p.2)) = some (env', os', O)) (hC : Sound P GL C) (hO : All O) (h : F .normal ⟨env', os'⟩) :
    WA P GL N (.region id l.toArray false) st F := fun D w0 I0 G0 os0 w I G a h1 h2 h3 h4 => by
  obtain ⟨⟨s, O'⟩, h5, h6⟩ := map_some he
  cases h6
  refine wp_region_list (ops_wp hC l 0 st s O' w I G a _ h5 hO h3 h4 fun w' I' G' a' e k sr f => ?_)
  have hsub : ∀ k o, look (pickE s.os ids) k = some o → look s.os k = some o := fun k o => look_pickE
  obtain ⟨s1, k1⟩ := sr.sub hsub
  have e' := h1.trans e
  exact ⟨I', G', _, ⟨e'.size, e'.os, e'.tape, e'.output, e'.keep, e'.imm, e'.inew, fun b ⟨k, o, q1, q2⟩ => e'.mnew b ⟨k, o, hsub k o q1, q2⟩⟩, (h2.trans k).trans (k1.weaken fun _ _ => trivial), s1,
    ⟨f.size, f.defers, fun t x hx => ⟨(f.slot t x (look_pickE hx)).1, (f.slot t x (look_pickE hx)).2.mono k1 (AT.refs_any x)⟩⟩, h⟩

theorem look_dropO (os : Objs) (id k : Nat) : look (dropO os id) k = if k = id then none else look os k := by
  induction os with
  | nil => simp [dropO, look]
  | cons p os ih =>
    obtain ⟨i, o⟩ := p
    simp only [dropO]
    by_cases e : i = id
    · subst e; rw [Nat.beq_refl]; simp only [ih, look_cons]
      by_cases h : k = i
      · simp [h]
      · simp [h, Ne.symm h]
    · have : Nat.beq i id = false := by rw [← Bool.not_eq_true]; intro h'; exact e (Nat.eq_of_beq_eq_true h')
      rw [this]; simp only [look_cons, ih]
      by_cases h : i = k
      · subst h; simp [e]
      · simp [h]

/-- an array of one's own becomes plain data -/
theorem WA.freeze (id t : Nat) {s n : Nat} {els : List (List PV)} (ht : look st.env t = some (.val false [.arr id n])) (ho : look st.os id = some (.arr s els)) (hn : n = els.length)
    (h : WA P GL N code ⟨(t, one (.sl els)) :: st.env, dropO st.os id⟩ F) : WA P GL N code st F := fun D w0 I0 G0 os0 w I G a h1 h2 h3 h4 => by
  have hsub : ∀ k o, look (dropO st.os id) k = some o → look st.os k = some o := fun k o h => by
    rw [look_dropO] at h; split at h
    · cases h
    · exact h
  obtain ⟨s1, k1⟩ := h3.sub hsub
  let I' : Nat → Prop := fun b => I b ∨ G id = some b
  have hI' : ∀ k, I' k → k < w.heap.size := fun k hk => by
    rcases hk with hk | hk
    · exact h3.lt k hk
    · obtain ⟨_, cs, E, hh, _⟩ := h3.blk id _ k ho hk
      exact (Array.getElem?_eq_some_iff.1 hh).1
  have k2 : Keeps Any w w I I' G G (shape (dropO st.os id)) (shape (dropO st.os id)) := ⟨fun _ _ => rfl, fun _ h => .inl h, fun i s m _ hs => ⟨m, hs, Nat.le_refl _, fun _ => ⟨rfl, fun _ _ => Nat.le_refl _⟩⟩⟩
  have s2 : Sr GL w I' G (dropO st.os id) := by
    refine ⟨fun g ps hg => ?_, s1.none_, fun k o b q1 q2 => ?_, s1.inj, hI'⟩
    · obtain ⟨r1, r2⟩ := h3.gl g ps hg
      exact ⟨.inl r1, fun j p hp => by obtain ⟨u, hu, hr⟩ := r2 j p hp; exact ⟨u, hu, hr.mono (fun _ _ => rfl) (fun _ h => .inl h)⟩⟩
    · obtain ⟨r1, cs, E, r2, r3, r4, r5⟩ := s1.blk k o b q1 q2
      refine ⟨fun h => ?_, cs, E, r2, r3, r4, fun i es j c e1 e2 => ?_⟩
      · rcases h with h | h
        · exact r1 h
        · have := h3.inj k id o _ b (hsub k o q1) ho q2 h
          subst this
          rw [look_dropO, if_pos rfl] at q1; cases q1
      · obtain ⟨v, hv, hr⟩ := r5 i es j c e1 e2
        exact ⟨v, hv, hr.mono k2 (AC.refs_any c)⟩
  have k3 : Keeps Any w w I I' G G (shape st.os) (shape (dropO st.os id)) := k1.trans k2
  have hval : ATr w I' G (shape (dropO st.os id)) (one (.sl els)) (a.tmps.getD t undef) := by
    refine ⟨_, rfl, ?_⟩
    show PVr w I' _ _
    have hv := (atr_one (h4.slot t _ ht).2).2 _ _ (shape_look ho)
    have hv2 := hv.2 (by simp [Obj.els, hn])
    cases hb : G id with
    | none =>
      rw [hb] at hv2
      have := h3.none_ id _ ho hb
      simp [Obj.els] at this
      subst this
      rw [hv2]; exact .sl0 _ _
    | some b =>
      rw [hb] at hv2
      obtain ⟨c, e1, e2, e3⟩ := hv2
      obtain ⟨r1, cs, E, r2, r3, r4, r5⟩ := h3.blk id _ b ho hb
      rw [e1, hn]
      have hget : ∀ (i : Nat) (es : List PV), els[i]? = some es → (Obj.arr s els).els[i]? = some (pvL es) := fun i es h => by simp [Obj.els, h]
      let vals : Nat → Nat → Value := fun i j => (cs[i * s + j]?).getD undef
      have hvv : ∀ (i : Nat) (es : List PV) (j : Nat) (p : PV), els[i]? = some es → es[j]? = some p → cs[i * s + j]? = some (vals i j) ∧ PVr w I p (vals i j) := by
        intro i es j p q1 q2
        obtain ⟨v, hv, hr⟩ := r5 i _ j (.pv p) (hget i es q1) (by simp [pvL, q2])
        have hv' : cs[i * s + j]? = some v := hv
        refine ⟨by simp [vals, hv'], ?_⟩
        have : vals i j = v := by simp [vals, hv']
        rw [this]; exact hr
      refine .sl els b 0 c s vals (.inr hb) (by omega) (fun i es q => by have := r4 i _ (hget i es q); rw [pvL_length] at this; exact this) (fun i es j p q1 q2 => ?_) (fun i es j p q1 q2 => (hvv i es j p q1 q2).2.mono (fun _ _ => rfl) (fun _ h => .inl h))
      have := (hvv i es j p q1 q2).1
      simp only [World.cell?, r2]; simpa using this
  refine h D w0 I0 G0 os0 w I' G a ⟨h1.size, h1.os, h1.tape, h1.output, h1.keep, fun k hk => .inl (h1.imm k hk), fun k hk => ?_, fun b ⟨k, o, q1, q2⟩ => h1.mnew b ⟨k, o, hsub k o q1, q2⟩⟩ (h2.trans (k3.weaken fun _ _ => trivial)) s2
    ⟨h4.size, h4.defers, fun t' x hx => ?_⟩
  · rcases hk with hk | hk
    · exact h1.inew k hk
    · rcases h1.mnew k ⟨id, _, ho, hk⟩ with h | h
      · exact .inr (.inl h)
      · exact .inr (.inr h)
  · rw [look_cons] at hx
    split at hx
    · rename_i e; subst e; cases hx
      exact ⟨(h4.slot t _ ht).1, hval⟩
    · exact ⟨(h4.slot t' x hx).1, (h4.slot t' x hx).2.mono k3 (AT.refs_any x)⟩
end
end Go.AL
