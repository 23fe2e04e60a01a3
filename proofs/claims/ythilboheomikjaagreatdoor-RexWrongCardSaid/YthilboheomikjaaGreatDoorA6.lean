/- The evaluator is right: what makes memory, and what writes it. -/
import Derived.Test.YthilboheomikjaaGreatDoorA5
import Derived.Laws.Tables
import Derived.Laws.World
namespace Go.AL
set_option linter.unusedVariables false
set_option linter.unusedSimpArgs false
variable {P : Program} {GL : List (Nat × List PV)} {st : S} {w : World} {I : Nat → Prop} {G : Nat → Option Nat} {N : Nat} {a : Act}

theorem look_cons {α : Type} (k t : Nat) (x : α) (l : List (Nat × α)) : look ((k, x) :: l) t = if k = t then some x else look l t := by
  simp only [look]
  by_cases h : k = t
  · subst h; simp [Nat.beq_refl]
  · have : Nat.beq k t = false := by rw [← Bool.not_eq_true]; intro h'; exact h (Nat.eq_of_beq_eq_true h')
    rw [this]; simp [h]

theorem look_setO (os : Objs) (id : Nat) (o : Obj) (t : Nat) : look (setO os id o) t = if id = t then (look os id).map (fun _ => o) else look os t := by
  induction os with
  | nil => simp [setO, look]
  | cons p os ih =>
    obtain ⟨k, x⟩ := p
    simp only [setO]
    by_cases hk : k = id
    · subst hk; simp only [Nat.beq_refl, look_cons]
      by_cases ht : k = t <;> simp [ht]
    · have hb : Nat.beq k id = false := by rw [← Bool.not_eq_true]; intro h'; exact hk (Nat.eq_of_beq_eq_true h')
      rw [hb]; simp only [look_cons, ih]
      by_cases ht : id = t
      · subst ht; simp [hk]
      · simp [ht, hk]

theorem norefC_ok {id : Nat} {c : AC} (h : norefC id c = true) : c.refs (· ≠ id) := by
  cases c with
  | ptr i n k j => simp only [norefC, Bool.not_eq_true'] at h; intro e; subst e; simp [Nat.beq_refl] at h
  | arr i n => simp only [norefC, Bool.not_eq_true'] at h; intro e; subst e; simp [Nat.beq_refl] at h
  | pv p => trivial
  | vp p => trivial
  | any => trivial

theorem norefL_ok {id : Nat} {l : List AC} (h : norefL id l = true) : refsL (· ≠ id) l := by
  induction l with
  | nil => trivial
  | cons c l ih => simp only [norefL] at h; split at h; exact ⟨norefC_ok ‹_›, ih h⟩; cases h

theorem norefT_ok {id : Nat} {l : List (Bool × List AC)} (h : norefT id l = true) : refsT (· ≠ id) l := by
  induction l with
  | nil => trivial
  | cons c l ih => obtain ⟨g, cs⟩ := c; simp only [norefT] at h; split at h; exact ⟨norefL_ok ‹_›, ih h⟩; cases h

theorem norefA_ok {id : Nat} {x : AT} (h : norefA id x = true) : x.refs (· ≠ id) := by
  cases x with
  | val g cs => exact norefL_ok h
  | tup l => exact norefT_ok h

theorem norefEnv_ok {id : Nat} : ∀ {env : List (Nat × AT)}, norefEnv id env = true → ∀ t x, look env t = some x → x.refs (· ≠ id)
  | [], _, t, x, hl => by cases hl
  | (k, y) :: env, h, t, x, hl => by
    simp only [norefEnv] at h
    split at h
    · rename_i hy
      rw [look_cons] at hl
      split at hl
      · cases hl; exact norefA_ok hy
      · exact norefEnv_ok h t x hl
    · cases h

theorem refsL_pvL {R : Nat → Prop} (ps : List PV) : refsL R (pvL ps) := by
  unfold pvL
  induction ps with
  | nil => trivial
  | cons p ps ih => exact ⟨trivial, ih⟩

theorem norefOs_ok {id : Nat} : ∀ {os : Objs}, norefOs id os = true → ∀ k o, look os k = some o → ∀ (i : Nat) (es : List AC), o.els[i]? = some es → refsL (· ≠ id) es
  | [], _, k, o, hl => by cases hl
  | (k', .box cs) :: os, h, k, o, hl => by
    simp only [norefOs] at h
    split at h
    · rename_i hy
      rw [look_cons] at hl
      split at hl
      · cases hl
        intro i es he
        cases i with
        | zero => simp [Obj.els] at he; subst he; exact norefL_ok hy
        | succ i => simp [Obj.els] at he
      · exact norefOs_ok h k o hl
    · cases h
  | (k', .arr s els) :: os, h, k, o, hl => by
    simp only [norefOs] at h
    rw [look_cons] at hl
    split at hl
    · cases hl
      intro i es he
      simp only [Obj.els, List.getElem?_map] at he
      cases hq : els[i]? with
      | none => rw [hq] at he; cases he
      | some ps => rw [hq] at he; cases he; exact refsL_pvL ps
    · exact norefOs_ok h k o hl

theorem fresh_ok {id : Nat} {st : S} (h : fresh id st = true) : 100 ≤ id ∧ look st.os id = none ∧ (∀ t x, look st.env t = some x → x.refs (· ≠ id)) ∧
    ∀ k o, look st.os k = some o → ∀ (i : Nat) (es : List AC), o.els[i]? = some es → refsL (· ≠ id) es := by
  unfold fresh at h
  split at h
  · cases h
  · rename_i hl
    split at h
    · rename_i hb he; exact ⟨Nat.le_of_ble_eq_true hb, hl, norefEnv_ok he, norefOs_ok h⟩
    · cases h

def upd (G : Nat → Option Nat) (id : Nat) (b : Option Nat) : Nat → Option Nat := fun k => if k = id then b else G k

theorem heap_push (w : World) (o : Obj) (O : Go.Obj) (k : Nat) (h : k < w.heap.size) : (w.alloc O).heap[k]? = w.heap[k]? := by
  show (w.heap.push O)[k]? = _
  rw [Array.getElem?_push, if_neg (by omega)]

theorem bsize_lt {b : Nat} (h : ¬ b < w.heap.size) : bsize w b = 0 := by
  unfold bsize; rw [Array.getElem?_eq_none (by omega)]

theorem bsize_push (w : World) (O : Go.Obj) (b : Nat) : bsize w b ≤ bsize (w.alloc O) b := by
  by_cases h : b < w.heap.size
  · unfold bsize; rw [heap_push w (.box []) O b h]; exact Nat.le_refl _
  · rw [bsize_lt h]; exact Nat.zero_le _

/-- objects stay as they are while the world changes elsewhere -/
theorem Sr.move {os : Objs} {w' : World} {I' : Nat → Prop} (hs : Sr GL w I G os) (hI : ∀ k, I k → I' k) (hh : ∀ k, k < w.heap.size → w'.heap[k]? = w.heap[k]?) (hsz : w.heap.size ≤ w'.heap.size)
    (hn : ∀ k, I' k → I k ∨ w.heap.size ≤ k) (hl : ∀ k, I' k → k < w'.heap.size) : Sr GL w' I' G os ∧ Keeps Any w w' I I' G G (shape os) (shape os) := by
  have hk : Keeps Any w w' I I' G G (shape os) (shape os) := ⟨fun k h => hh k (hs.lt k h), hI, fun id s m _ h => ⟨m, h, Nat.le_refl _, fun _ => ⟨rfl, fun b _ => by
    by_cases hb : b < w.heap.size
    · unfold bsize; rw [hh b hb]; exact Nat.le_refl _
    · rw [bsize_lt hb]; exact Nat.zero_le _⟩⟩⟩
  refine ⟨⟨fun g ps h => ?_, hs.none_, fun id o b ho hb => ?_, hs.inj, hl⟩, hk⟩
  · obtain ⟨h1, h2⟩ := hs.gl g ps h
    refine ⟨hI g h1, fun j p hp => ?_⟩
    obtain ⟨u, hu, hr⟩ := h2 j p hp
    refine ⟨u, ?_, hr.mono hk.heap hI⟩
    unfold World.cell? at hu ⊢; rw [hh g (hs.lt g h1)]; exact hu
  · obtain ⟨h1, cs, E, h2, h3, h4, h5⟩ := hs.blk id o b ho hb
    have hlt : b < w.heap.size := (Array.getElem?_eq_some_iff.1 h2).1
    refine ⟨fun h => (hn b h).elim h1 (fun h => by omega), cs, E, by rw [hh b hlt]; exact h2, h3, h4, fun i es j c he hc => ?_⟩
    obtain ⟨v, hv, hr⟩ := h5 i es j c he hc
    exact ⟨v, hv, hr.mono hk (AC.refs_any c)⟩

/-- a new block that never changes -/
theorem Sr.imm {os : Objs} (hs : Sr GL w I G os) (O : Go.Obj) : Sr GL (w.alloc O) (fun k => I k ∨ k = w.heap.size) G os ∧
    Keeps Any w (w.alloc O) I (fun k => I k ∨ k = w.heap.size) G G (shape os) (shape os) ∧
    Ext w (w.alloc O) I (fun k => I k ∨ k = w.heap.size) (Mine G os) (Mine G os) := by
  have hsz : (w.alloc O).heap.size = w.heap.size + 1 := by show (w.heap.push O).size = _; simp
  obtain ⟨h1, h2⟩ := hs.move (w' := w.alloc O) (I' := fun k => I k ∨ k = w.heap.size) (fun k h => .inl h) (fun k h => heap_push w (.box []) O k h) (by omega)
    (fun k h => h.elim .inl (fun h => .inr (by omega))) (fun k h => by rw [hsz]; rcases h with h | h; have := hs.lt k h; omega; omega)
  exact ⟨h1, h2, by omega, rfl, rfl, rfl, fun k h _ => heap_push w (.box []) O k h, fun k h => .inl h, fun k h => h.elim .inl (fun h => .inr (.inr (by omega))), fun k h => .inl h⟩

/-- a new object -/
theorem Sr.new_ {id : Nat} (hs : Sr GL w I G st.os) (hf : fresh id st = true) (o : Obj) (cs : Array Value) (E : TypeId) (hsize : o.els.length * o.s ≤ cs.size)
    (hu : ∀ (i : Nat) (es : List AC), o.els[i]? = some es → es.length = o.s) (hr : ∀ (i : Nat) (es : List AC), o.els[i]? = some es → refsL (· ≠ id) es)
    (hc : ∀ (i : Nat) (es : List AC) (j : Nat) (c : AC), o.els[i]? = some es → es[j]? = some c → ∃ v, cs[i * o.s + j]? = some v ∧ ACr w I G (shape st.os) c v) :
    Sr GL (w.alloc (.cells cs E)) I (upd G id (some w.heap.size)) ((id, o) :: st.os) ∧
    Ext w (w.alloc (.cells cs E)) I I (Mine G st.os) (Mine (upd G id (some w.heap.size)) ((id, o) :: st.os)) ∧
    Moves [id] st ((id, o) :: st.os) w (w.alloc (.cells cs E)) I I G (upd G id (some w.heap.size)) := by
  obtain ⟨f0, f1, f2, f3⟩ := fresh_ok hf
  have hsz : (w.alloc (.cells cs E)).heap.size = w.heap.size + 1 := by show (w.heap.push _).size = _; simp
  have hh : ∀ k, k < w.heap.size → (w.alloc (.cells cs E)).heap[k]? = w.heap[k]? := fun k h => heap_push w (.box []) _ k h
  have hk : Keeps (· ≠ id) w (w.alloc (.cells cs E)) I I G (upd G id (some w.heap.size)) (shape st.os) (shape ((id, o) :: st.os)) := by
    refine ⟨fun k h => hh k (hs.lt k h), fun k h => h, fun k s m hne hsh => ⟨m, ?_, Nat.le_refl _, fun _ => ⟨by simp [upd, hne], fun b _ => bsize_push w _ b⟩⟩⟩
    simpa [shape, look_cons, Ne.symm hne] using hsh
  have hnew : (w.alloc (.cells cs E)).heap[w.heap.size]? = some (.cells cs E (0, 0)) := by show (w.heap.push _)[w.heap.size]? = _; simp
  have hbl : ∀ k o' b, look st.os k = some o' → G k = some b → b < w.heap.size := fun k o' b h1 h2 => by
    obtain ⟨_, cs', E', h3, _⟩ := hs.blk k o' b h1 h2
    exact (Array.getElem?_eq_some_iff.1 h3).1
  refine ⟨⟨fun g ps h => ?_, fun k o' ho hg => ?_, fun k o' b ho hg => ?_, fun k k' o1 o2 b h1 h2 g1 g2 => ?_, fun k h => by have := hs.lt k h; omega⟩, ?_, ⟨hk.weaken (fun i h => by show i ≠ id; omega), fun t x u hx hr => hr.mono hk (f2 t x hx), hk.weaken (fun i h => by simpa using h)⟩⟩
  · obtain ⟨h1, h2⟩ := hs.gl g ps h
    refine ⟨h1, fun j p hp => ?_⟩
    obtain ⟨u, hu, hr⟩ := h2 j p hp
    refine ⟨u, ?_, hr.mono hk.heap hk.imm⟩
    unfold World.cell? at hu ⊢; rw [hh g (hs.lt g h1)]; exact hu
  · rw [look_cons] at ho
    by_cases he : id = k
    · subst he; simp [upd] at hg
    · rw [if_neg he] at ho
      simp only [upd, if_neg (Ne.symm he)] at hg
      exact hs.none_ k o' ho hg
  · rw [look_cons] at ho
    by_cases he : id = k
    · subst he
      rw [if_pos rfl] at ho; cases ho
      simp only [upd, if_true] at hg; cases hg
      refine ⟨fun h => by have := hs.lt _ h; omega, cs, E, hnew, hsize, hu, fun i es j c h1 h2 => ?_⟩
      obtain ⟨v, hv, hv'⟩ := hc i es j c h1 h2
      exact ⟨v, hv, hv'.mono hk (refsL_get (hr i es h1) j c h2)⟩
    · rw [if_neg he] at ho
      simp only [upd, if_neg (Ne.symm he)] at hg
      obtain ⟨h1, cs', E', h2, h3, h4, h5⟩ := hs.blk k o' b ho hg
      refine ⟨h1, cs', E', by rw [hh b (hbl k o' b ho hg)]; exact h2, h3, h4, fun i es j c e1 e2 => ?_⟩
      obtain ⟨v, hv, hv'⟩ := h5 i es j c e1 e2
      exact ⟨v, hv, hv'.mono hk (refsL_get (f3 k o' ho i es e1) j c e2)⟩
  · rw [look_cons] at h1 h2
    simp only [upd] at g1 g2
    by_cases e1 : id = k <;> by_cases e2 : id = k'
    · rw [← e1, ← e2]
    · rw [if_pos e1.symm] at g1; rw [if_neg (Ne.symm e2)] at g2; rw [if_neg e2] at h2; cases g1
      have := hbl k' o2 _ h2 g2; omega
    · rw [if_pos e2.symm] at g2; rw [if_neg (Ne.symm e1)] at g1; rw [if_neg e1] at h1; cases g2
      have := hbl k o1 _ h1 g1; omega
    · rw [if_neg (Ne.symm e1)] at g1; rw [if_neg (Ne.symm e2)] at g2; rw [if_neg e1] at h1; rw [if_neg e2] at h2
      exact hs.inj k k' o1 o2 b h1 h2 g1 g2
  · refine ⟨by omega, rfl, rfl, rfl, fun k h _ => hh k h, fun k h => h, fun k h => .inl h, fun k h => ?_⟩
    obtain ⟨k', o', h1, h2⟩ := h
    rw [look_cons] at h1
    simp only [upd] at h2
    by_cases e : id = k'
    · rw [if_pos e.symm] at h2; cases h2; exact .inr (Nat.le_refl _)
    · rw [if_neg e] at h1; rw [if_neg (Ne.symm e)] at h2; exact .inl ⟨k', o', h1, h2⟩

/-- a new array that has no block yet -/
theorem Sr.newNil {id s : Nat} (hs : Sr GL w I G st.os) (hf : fresh id st = true) :
    Sr GL w I (upd G id none) ((id, .arr s []) :: st.os) ∧ Ext w w I I (Mine G st.os) (Mine (upd G id none) ((id, .arr s []) :: st.os)) ∧
    Moves [id] st ((id, .arr s []) :: st.os) w w I I G (upd G id none) := by
  obtain ⟨f0, f1, f2, f3⟩ := fresh_ok hf
  have hk : Keeps (· ≠ id) w w I I G (upd G id none) (shape st.os) (shape ((id, .arr s []) :: st.os)) := by
    refine ⟨fun k h => rfl, fun k h => h, fun k s m hne hsh => ⟨m, ?_, Nat.le_refl _, fun _ => ⟨by simp [upd, hne], fun b _ => Nat.le_refl _⟩⟩⟩
    simpa [shape, look_cons, Ne.symm hne] using hsh
  refine ⟨⟨hs.gl, fun k o' ho hg => ?_, fun k o' b ho hg => ?_, fun k k' o1 o2 b h1 h2 g1 g2 => ?_, hs.lt⟩, ?_, ⟨hk.weaken (fun i h => by show i ≠ id; omega), fun t x u hx hr => hr.mono hk (f2 t x hx), hk.weaken (fun i h => by simpa using h)⟩⟩
  · rw [look_cons] at ho
    by_cases he : id = k
    · rw [if_pos he] at ho; cases ho; rfl
    · rw [if_neg he] at ho
      simp only [upd, if_neg (Ne.symm he)] at hg
      exact hs.none_ k o' ho hg
  · rw [look_cons] at ho
    by_cases he : id = k
    · simp only [upd, if_pos he.symm] at hg; cases hg
    · rw [if_neg he] at ho
      simp only [upd, if_neg (Ne.symm he)] at hg
      obtain ⟨h1, cs', E', h2, h3, h4, h5⟩ := hs.blk k o' b ho hg
      refine ⟨h1, cs', E', h2, h3, h4, fun i es j c e1 e2 => ?_⟩
      obtain ⟨v, hv, hv'⟩ := h5 i es j c e1 e2
      exact ⟨v, hv, hv'.mono hk (refsL_get (f3 k o' ho i es e1) j c e2)⟩
  · rw [look_cons] at h1 h2
    simp only [upd] at g1 g2
    by_cases e1 : id = k
    · rw [if_pos e1.symm] at g1; cases g1
    · by_cases e2 : id = k'
      · rw [if_pos e2.symm] at g2; cases g2
      · rw [if_neg (Ne.symm e1)] at g1; rw [if_neg (Ne.symm e2)] at g2; rw [if_neg e1] at h1; rw [if_neg e2] at h2
        exact hs.inj k k' o1 o2 b h1 h2 g1 g2
  · refine ⟨Nat.le_refl _, rfl, rfl, rfl, fun k h _ => rfl, fun k h => h, fun k h => .inl h, fun k h => ?_⟩
    obtain ⟨k', o', h1, h2⟩ := h
    rw [look_cons] at h1
    simp only [upd] at h2
    by_cases e : id = k'
    · rw [if_pos e.symm] at h2; cases h2
    · rw [if_neg e] at h1; rw [if_neg (Ne.symm e)] at h2; exact .inl ⟨k', o', h1, h2⟩
end Go.AL
