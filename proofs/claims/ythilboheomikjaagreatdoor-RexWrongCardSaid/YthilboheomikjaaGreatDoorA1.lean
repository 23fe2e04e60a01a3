/- Abstract values for Go's values, and what it is that a value stands for one in a world. -/
import Derived.Orders
import Derived.Tactics
import Derived.KernelRfl
namespace Go.AL
set_option linter.unusedVariables false

/-- Plain data: what never changes any more. -/
inductive PV where
  | bool (b : Bool)
  | int (k : IntKind) (n : Int)
  | str (s : List UInt8)
  | flt (k : FloatKind) (bits : Nat)
  | nilp
  | nilif
  | nilfn
  | fn (f : FuncId)
  | ifc1 (t : TypeId) (p : PV)
  | ifc (t : TypeId) (ps : List PV)
  | sl (els : List (List PV))
  | slc (els : List (List PV))
  | nils

/-- A value of one cell. ptr: into the object id, which had n elements, element i, cell j. arr: a slice, all of the object id, which had n elements. vp: a pointer to cells that never change. -/
inductive AC where
  | pv (p : PV)
  | ptr (id n i j : Nat)
  | arr (id n : Nat)
  | vp (ps : List PV)
  | any

/-- What a slot holds: (true, cells): a struct; (false, [c]): one cell; or a tuple of such. -/
inductive AT where
  | val (g : Bool) (cs : List AC)
  | tup (l : List (Bool × List AC))

/-- An object: a variable in memory (one element), or an array of plain elements, that may grow. -/
inductive Obj where
  | box (cs : List AC)
  | arr (s : Nat) (els : List (List PV))

def pvL (ps : List PV) : List AC := ps.map .pv
def Obj.s : Obj → Nat
  | .box cs => cs.length
  | .arr s _ => s
def Obj.els : Obj → List (List AC)
  | .box cs => [cs]
  | .arr _ els => els.map pvL

abbrev Objs := List (Nat × Obj)

def look {α : Type} : List (Nat × α) → Nat → Option α
  | [], _ => none
  | (k, x) :: l, t => match Nat.beq k t with | true => some x | false => look l t

def bsize (w : World) (b : Nat) : Nat := match w.heap[b]? with | some (.cells cs _ _) => cs.size | _ => 0

inductive PVr (w : World) (I : Nat → Prop) : PV → Value → Prop
  | bool (b : Bool) : PVr w I (.bool b) (.bool b)
  | int (k : IntKind) (n : Int) : PVr w I (.int k n) (.int k n)
  | str (s : List UInt8) : PVr w I (.str s) (.string ⟨s.toArray⟩)
  | flt (k : FloatKind) (b : Nat) : PVr w I (.flt k b) (.float k b)
  | nilp : PVr w I .nilp (.pointer none)
  | nilif : PVr w I .nilif .nilIface
  | nilfn : PVr w I .nilfn .nilFunc
  | fn (f : FuncId) : PVr w I (.fn f) (.func (.func f) #[] #[])
  | ifc1 (t : TypeId) (p : PV) (v : Value) (h : PVr w I p v) : PVr w I (.ifc1 t p) (.iface t v)
  | ifc (t : TypeId) (ps : List PV) (vs : Nat → Value) (n : Nat) (hn : ps.length = n) (h : ∀ (j : Nat) (p : PV), ps[j]? = some p → PVr w I p (vs j)) :
      PVr w I (.ifc t ps) (.iface t (.agg ((List.range n).map vs).toArray))
  | sl0 (A : Option Addr) (c : Nat) : PVr w I (.sl []) (.slice A 0 c)
  | sl (els : List (List PV)) (b o c s : Nat) (vals : Nat → Nat → Value) (hI : I b) (hc : els.length ≤ c)
      (hs : ∀ (i : Nat) (es : List PV), els[i]? = some es → es.length = s)
      (hm : ∀ (i : Nat) (es : List PV) (j : Nat) (p : PV), els[i]? = some es → es[j]? = some p → w.cell? ⟨b, o + (i * s + j), none⟩ = some (vals i j))
      (h : ∀ (i : Nat) (es : List PV) (j : Nat) (p : PV), els[i]? = some es → es[j]? = some p → PVr w I p (vals i j)) :
      PVr w I (.sl els) (.slice (some ⟨b, o, none⟩) els.length c)
  | slc (els : List (List PV)) (b o s : Nat) (vals : Nat → Nat → Value) (hI : I b)
      (hs : ∀ (i : Nat) (es : List PV), els[i]? = some es → es.length = s)
      (hm : ∀ (i : Nat) (es : List PV) (j : Nat) (p : PV), els[i]? = some es → es[j]? = some p → w.cell? ⟨b, o + (i * s + j), none⟩ = some (vals i j))
      (h : ∀ (i : Nat) (es : List PV) (j : Nat) (p : PV), els[i]? = some es → es[j]? = some p → PVr w I p (vals i j)) :
      PVr w I (.slc els) (.slice (some ⟨b, o, none⟩) els.length els.length)
  | nils : PVr w I .nils (.slice none 0 0)

theorem PVr.one {w : World} {I : Nat → Prop} {p : PV} {v : Value} (h : PVr w I p v) : ∀ x, v ≠ .agg x ∧ v ≠ .tuple x := by
  cases h <;> simp

theorem PVr.mono {w w' : World} {I I' : Nat → Prop} {p : PV} {v : Value} (h : PVr w I p v) (hk : ∀ k, I k → w'.heap[k]? = w.heap[k]?) (hI : ∀ k, I k → I' k) :
    PVr w' I' p v := by
  induction h with
  | bool b => exact .bool b
  | int k n => exact .int k n
  | str s => exact .str s
  | flt k b => exact .flt k b
  | nilp => exact .nilp
  | nilif => exact .nilif
  | nilfn => exact .nilfn
  | fn f => exact .fn f
  | ifc1 t p v _ ih => exact .ifc1 t p v ih
  | ifc t ps vs n hn _ ih => exact .ifc t ps vs n hn ih
  | sl0 A c => exact .sl0 A c
  | sl els b o c s vals hb hc hs hm _ ih =>
    exact .sl els b o c s vals (hI b hb) hc hs (fun i es j p h1 h2 => by
      have := hm i es j p h1 h2
      unfold World.cell? at this ⊢
      rw [hk b hb]; exact this) ih
  | nils => exact .nils
  | slc els b o s vals hb hs hm _ ih =>
    exact .slc els b o s vals (hI b hb) hs (fun i es j p h1 h2 => by
      have := hm i es j p h1 h2
      unfold World.cell? at this ⊢
      rw [hk b hb]; exact this) ih

/-- a slice whose capacity is its length is a slice -/
theorem PVr.sl_of {w : World} {I : Nat → Prop} {els : List (List PV)} {v : Value} (h : PVr w I (.slc els) v) : PVr w I (.sl els) v ∧ ∃ A, v = .slice (some A) els.length els.length := by
  cases h with
  | slc els b o s vals hb hs hm hr => exact ⟨.sl els b o els.length s vals hb (Nat.le_refl _) hs hm hr, _, rfl⟩

/-- shapes: of each object the size of an element, and how many there are -/
abbrev Sh := Nat → Option (Nat × Nat)

def ACr (w : World) (I : Nat → Prop) (G : Nat → Option Nat) (sh : Sh) : AC → Value → Prop
  | .pv p, v => PVr w I p v
  | .ptr id n i j, v => (∃ A, v = .pointer A) ∧ ∀ s m, sh id = some (s, m) → n ≤ m ∧ (m = n → ∀ b, G id = some b → v = .pointer (some ⟨b, i * s + j, none⟩))
  | .arr id n, v => (∃ A c, v = .slice A n c) ∧ ∀ s m, sh id = some (s, m) → n ≤ m ∧ (m = n → match G id with
      | none => v = .slice none 0 0
      | some b => ∃ c, v = .slice (some ⟨b, 0, none⟩) n c ∧ n ≤ c ∧ c * s ≤ bsize w b)
  | .vp ps, v => ∃ b o, v = .pointer (some ⟨b, o, none⟩) ∧ I b ∧ ∀ (j : Nat) (p : PV), ps[j]? = some p → ∃ u, w.cell? ⟨b, o + j, none⟩ = some u ∧ PVr w I p u
  | .any, v => ∀ x, v ≠ .agg x ∧ v ≠ .tuple x

theorem ACr.one {w : World} {I : Nat → Prop} {G : Nat → Option Nat} {sh : Sh} {c : AC} {v : Value} (h : ACr w I G sh c v) : ∀ x, v ≠ .agg x ∧ v ≠ .tuple x := by
  cases c with
  | pv p => exact PVr.one h
  | ptr id n i j => obtain ⟨⟨A, rfl⟩, _⟩ := h; simp
  | arr id n => obtain ⟨⟨A, c, rfl⟩, _⟩ := h; simp
  | vp ps => obtain ⟨b, o, rfl, _⟩ := h; simp
  | any => exact h

theorem cells_of_one {v : Value} (h : ∀ x, v ≠ .agg x ∧ v ≠ .tuple x) : v.cells = #[v] := by
  cases v <;> first | rfl | exact absurd rfl (h _).1

/-- What a change of the world and of the objects must leave for a cell to stand for the same. -/
structure Keeps (R : Nat → Prop) (w w' : World) (I I' : Nat → Prop) (G G' : Nat → Option Nat) (sh sh' : Sh) : Prop where
  heap : ∀ k, I k → w'.heap[k]? = w.heap[k]?
  imm : ∀ k, I k → I' k
  objs : ∀ id s m, R id → sh' id = some (s, m) → ∃ m₀, sh id = some (s, m₀) ∧ m₀ ≤ m ∧ (m = m₀ → G' id = G id ∧ ∀ b, G id = some b → bsize w b ≤ bsize w' b)

theorem Keeps.refl (R : Nat → Prop) (w : World) (I : Nat → Prop) (G : Nat → Option Nat) (sh : Sh) : Keeps R w w I I G G sh sh :=
  ⟨fun _ _ => rfl, fun _ h => h, fun _ _ m _ h => ⟨m, h, Nat.le_refl _, fun _ => ⟨rfl, fun _ _ => Nat.le_refl _⟩⟩⟩
theorem Keeps.weaken {R R' : Nat → Prop} {w w' : World} {I I' : Nat → Prop} {G G' : Nat → Option Nat} {sh sh' : Sh} (k : Keeps R w w' I I' G G' sh sh') (h : ∀ id, R' id → R id) :
    Keeps R' w w' I I' G G' sh sh' := ⟨k.heap, k.imm, fun id s m hR => k.objs id s m (h id hR)⟩
theorem Keeps.trans {R : Nat → Prop} {w w' w'' : World} {I I' I'' : Nat → Prop} {G G' G'' : Nat → Option Nat} {sh sh' sh'' : Sh} (k : Keeps R w w' I I' G G' sh sh') (l : Keeps R w' w'' I' I'' G' G'' sh' sh'') :
    Keeps R w w'' I I'' G G'' sh sh'' where
  heap := fun i h => (l.heap i (k.imm i h)).trans (k.heap i h)
  imm := fun i h => l.imm i (k.imm i h)
  objs := fun id s m hR h => by
    obtain ⟨m1, h1, hle1, hg1⟩ := l.objs id s m hR h
    obtain ⟨m0, h0, hle0, hg0⟩ := k.objs id s m1 hR h1
    refine ⟨m0, h0, Nat.le_trans hle0 hle1, fun e => ?_⟩
    obtain ⟨g1, b1⟩ := hg1 (by omega)
    obtain ⟨g0, b0⟩ := hg0 (by omega)
    exact ⟨g1.trans g0, fun b hb => Nat.le_trans (b0 b hb) (b1 b (by rw [g0]; exact hb))⟩

/-- the objects that a cell names are all among R -/
def AC.refs (R : Nat → Prop) : AC → Prop
  | .ptr id _ _ _ | .arr id _ => R id
  | _ => True
def refsL (R : Nat → Prop) : List AC → Prop
  | [] => True
  | c :: l => c.refs R ∧ refsL R l
def refsT (R : Nat → Prop) : List (Bool × List AC) → Prop
  | [] => True
  | (_, cs) :: l => refsL R cs ∧ refsT R l
def AT.refs (R : Nat → Prop) : AT → Prop
  | .val _ cs => refsL R cs
  | .tup l => refsT R l
def Any (_ : Nat) : Prop := True
theorem AC.refs_any (c : AC) : c.refs Any := by cases c <;> trivial
theorem refsL_any (l : List AC) : refsL Any l := by induction l with | nil => trivial | cons c l ih => exact ⟨c.refs_any, ih⟩
theorem refsT_any (l : List (Bool × List AC)) : refsT Any l := by induction l with | nil => trivial | cons c l ih => exact ⟨refsL_any _, ih⟩
theorem AT.refs_any (x : AT) : x.refs Any := by cases x with | val g cs => exact refsL_any cs | tup l => exact refsT_any l
theorem refsL_get {R : Nat → Prop} {l : List AC} (h : refsL R l) : ∀ (i : Nat) (c : AC), l[i]? = some c → c.refs R := by
  induction l with
  | nil => intro i c h; simp at h
  | cons d l ih => intro i c hc; cases i with | zero => simp at hc; subst hc; exact h.1 | succ i => exact ih h.2 i c (by simpa using hc)

theorem ACr.mono {R : Nat → Prop} {w w' : World} {I I' : Nat → Prop} {G G' : Nat → Option Nat} {sh sh' : Sh} (k : Keeps R w w' I I' G G' sh sh') {c : AC} {v : Value}
    (h : ACr w I G sh c v) (hR : c.refs R) : ACr w' I' G' sh' c v := by
  cases c with
  | pv p => exact PVr.mono h k.heap k.imm
  | ptr id n i j =>
    refine ⟨h.1, fun s m hs => ?_⟩
    obtain ⟨m₀, h0, hle, hg⟩ := k.objs id s m hR hs
    obtain ⟨hn, hv⟩ := h.2 s m₀ h0
    refine ⟨by omega, fun e b hb => ?_⟩
    have hm : m = m₀ := by omega
    exact hv (by omega) b ((hg hm).1 ▸ hb)
  | arr id n =>
    refine ⟨h.1, fun s m hs => ?_⟩
    obtain ⟨m₀, h0, hle, hg⟩ := k.objs id s m hR hs
    obtain ⟨hn, hv⟩ := h.2 s m₀ h0
    refine ⟨by omega, fun e => ?_⟩
    have hm : m = m₀ := by omega
    obtain ⟨hG, hsz⟩ := hg hm
    have h1 := hv (by omega)
    rw [hG]
    cases hb : G id with
    | none => rw [hb] at h1; exact h1
    | some b =>
      rw [hb] at h1
      obtain ⟨c, e1, e2, e3⟩ := h1
      exact ⟨c, e1, e2, Nat.le_trans e3 (hsz b hb)⟩
  | vp ps =>
    obtain ⟨b, o, hv, hb, hc⟩ := h
    refine ⟨b, o, hv, k.imm b hb, fun j p hp => ?_⟩
    obtain ⟨u, hu, hr⟩ := hc j p hp
    refine ⟨u, ?_, hr.mono k.heap k.imm⟩
    unfold World.cell? at hu ⊢
    rw [k.heap b hb]; exact hu
  | any => exact h

/-- cells, one behind the other -/
def CSr (w : World) (I : Nat → Prop) (G : Nat → Option Nat) (sh : Sh) : List AC → List Value → Prop
  | [], vs => vs = []
  | c :: cs, vs => ∃ v vs', vs = v :: vs' ∧ ACr w I G sh c v ∧ CSr w I G sh cs vs'

theorem CSr.mono {R : Nat → Prop} {w w' : World} {I I' : Nat → Prop} {G G' : Nat → Option Nat} {sh sh' : Sh} (k : Keeps R w w' I I' G G' sh sh') {cs : List AC} (hR : refsL R cs) :
    ∀ {vs : List Value}, CSr w I G sh cs vs → CSr w' I' G' sh' cs vs := by
  induction cs with
  | nil => exact fun h => h
  | cons c cs ih => rintro vs ⟨v, vs', rfl, h, h'⟩; exact ⟨v, vs', rfl, h.mono k hR.1, ih hR.2 h'⟩

theorem CSr.length {w : World} {I : Nat → Prop} {G : Nat → Option Nat} {sh : Sh} {cs : List AC} : ∀ {vs : List Value}, CSr w I G sh cs vs → vs.length = cs.length := by
  induction cs with
  | nil => intro vs h; rw [show vs = [] from h]; rfl
  | cons c cs ih => rintro vs ⟨v, vs', rfl, _, h⟩; simp [ih h]

theorem CSr.get {w : World} {I : Nat → Prop} {G : Nat → Option Nat} {sh : Sh} {cs : List AC} : ∀ {vs : List Value}, CSr w I G sh cs vs → ∀ (i : Nat) (c : AC), cs[i]? = some c →
    ∃ v, vs[i]? = some v ∧ ACr w I G sh c v := by
  induction cs with
  | nil => intro vs _ i c h; simp at h
  | cons c cs ih =>
    rintro vs ⟨v, vs', rfl, h, h'⟩ i d hd
    cases i with
    | zero => simp at hd; subst hd; exact ⟨v, rfl, h⟩
    | succ i => simpa using ih h' i d (by simpa using hd)

theorem CSr.of {w : World} {I : Nat → Prop} {G : Nat → Option Nat} {sh : Sh} {cs : List AC} : ∀ {vs : List Value}, vs.length = cs.length →
    (∀ (i : Nat) (c : AC) (v : Value), cs[i]? = some c → vs[i]? = some v → ACr w I G sh c v) → CSr w I G sh cs vs := by
  induction cs with
  | nil => intro vs h _; exact List.length_eq_zero_iff.1 h
  | cons c cs ih =>
    intro vs h hr
    cases vs with
    | nil => simp at h
    | cons v vs => exact ⟨v, vs, rfl, hr 0 c v rfl rfl, ih (by simpa using h) (fun i d u hd hu => hr (i + 1) d u (by simpa using hd) (by simpa using hu))⟩

theorem CSr.append {w : World} {I : Nat → Prop} {G : Nat → Option Nat} {sh : Sh} {cs ds : List AC} : ∀ {vs us : List Value}, CSr w I G sh cs vs → CSr w I G sh ds us →
    CSr w I G sh (cs ++ ds) (vs ++ us) := by
  induction cs with
  | nil => intro vs us h h'; rw [show vs = [] from h]; exact h'
  | cons c cs ih => rintro vs us ⟨v, vs', rfl, h, h'⟩ hd; exact ⟨v, vs' ++ us, rfl, h, ih h' hd⟩

/-- a component: a struct, or one cell -/
def Vr (w : World) (I : Nat → Prop) (G : Nat → Option Nat) (sh : Sh) (g : Bool) (cs : List AC) (v : Value) : Prop :=
  match g with
  | true => ∃ vs, v = .agg ⟨vs⟩ ∧ CSr w I G sh cs vs
  | false => ∃ c, cs = [c] ∧ ACr w I G sh c v

theorem Vr.mono {R : Nat → Prop} {w w' : World} {I I' : Nat → Prop} {G G' : Nat → Option Nat} {sh sh' : Sh} (k : Keeps R w w' I I' G G' sh sh') {g : Bool} {cs : List AC} {v : Value}
    (h : Vr w I G sh g cs v) (hR : refsL R cs) : Vr w' I' G' sh' g cs v := by
  cases g with
  | true => obtain ⟨vs, e, h⟩ := h; exact ⟨vs, e, h.mono k hR⟩
  | false => obtain ⟨c, rfl, h⟩ := h; exact ⟨c, rfl, h.mono k hR.1⟩

theorem Vr.cells {w : World} {I : Nat → Prop} {G : Nat → Option Nat} {sh : Sh} {g : Bool} {cs : List AC} {v : Value} (h : Vr w I G sh g cs v) :
    CSr w I G sh cs v.cells.toList := by
  cases g with
  | true => obtain ⟨vs, rfl, h⟩ := h; exact h
  | false => obtain ⟨c, rfl, h⟩ := h; rw [cells_of_one h.one]; exact ⟨v, [], rfl, h, rfl⟩

def Ts (w : World) (I : Nat → Prop) (G : Nat → Option Nat) (sh : Sh) : List (Bool × List AC) → List Value → Prop
  | [], vs => vs = []
  | (g, cs) :: l, vs => ∃ v vs', vs = v :: vs' ∧ Vr w I G sh g cs v ∧ Ts w I G sh l vs'

theorem Ts.mono {R : Nat → Prop} {w w' : World} {I I' : Nat → Prop} {G G' : Nat → Option Nat} {sh sh' : Sh} (k : Keeps R w w' I I' G G' sh sh') {l : List (Bool × List AC)} (hR : refsT R l) :
    ∀ {vs : List Value}, Ts w I G sh l vs → Ts w' I' G' sh' l vs := by
  induction l with
  | nil => exact fun h => h
  | cons c cs ih => rintro vs ⟨v, vs', rfl, h, h'⟩; exact ⟨v, vs', rfl, h.mono k hR.1, ih hR.2 h'⟩

theorem Ts.get {w : World} {I : Nat → Prop} {G : Nat → Option Nat} {sh : Sh} {l : List (Bool × List AC)} : ∀ {vs : List Value}, Ts w I G sh l vs → ∀ (i : Nat) (g : Bool) (cs : List AC), l[i]? = some (g, cs) →
    ∃ v, vs[i]? = some v ∧ Vr w I G sh g cs v := by
  induction l with
  | nil => intro vs _ i g cs h; simp at h
  | cons c l ih =>
    rintro vs ⟨v, vs', rfl, h, h'⟩ i g cs hd
    cases i with
    | zero => simp at hd; subst hd; exact ⟨v, rfl, h⟩
    | succ i => simpa using ih h' i g cs (by simpa using hd)

def ATr (w : World) (I : Nat → Prop) (G : Nat → Option Nat) (sh : Sh) : AT → Value → Prop
  | .val g cs, v => Vr w I G sh g cs v
  | .tup l, v => ∃ vs, v = .tuple ⟨vs⟩ ∧ Ts w I G sh l vs

theorem ATr.mono {R : Nat → Prop} {w w' : World} {I I' : Nat → Prop} {G G' : Nat → Option Nat} {sh sh' : Sh} (k : Keeps R w w' I I' G G' sh sh') {x : AT} {v : Value}
    (h : ATr w I G sh x v) (hR : x.refs R) : ATr w' I' G' sh' x v := by
  cases x with
  | val g cs => exact Vr.mono k h hR
  | tup l => obtain ⟨vs, e, h⟩ := h; exact ⟨vs, e, h.mono k hR⟩

/-- the shapes of listed objects -/
def shape (os : Objs) : Sh := fun id => (look os id).map fun o => (o.s, o.els.length)

/-- What the objects hold lies in blocks of their own. -/
structure Sr (GL : List (Nat × List PV)) (w : World) (I : Nat → Prop) (G : Nat → Option Nat) (os : Objs) : Prop where
  gl : ∀ g ps, look GL g = some ps → I g ∧ ∀ (j : Nat) (p : PV), ps[j]? = some p → ∃ u, w.cell? ⟨g, j, none⟩ = some u ∧ PVr w I p u
  none_ : ∀ id o, look os id = some o → G id = none → o.els = []
  blk : ∀ id o b, look os id = some o → G id = some b → ¬ I b ∧ ∃ cs E, w.heap[b]? = some (.cells cs E (0, 0)) ∧ o.els.length * o.s ≤ cs.size ∧
    (∀ (i : Nat) (es : List AC), o.els[i]? = some es → es.length = o.s) ∧
    ∀ (i : Nat) (es : List AC) (j : Nat) (c : AC), o.els[i]? = some es → es[j]? = some c → ∃ v, cs[i * o.s + j]? = some v ∧ ACr w I G (shape os) c v
  inj : ∀ id id' o o' b, look os id = some o → look os id' = some o' → G id = some b → G id' = some b → id = id'
  lt : ∀ k, I k → k < w.heap.size

/-- the blocks that listed objects lie in -/
def Mine (G : Nat → Option Nat) (os : Objs) (b : Nat) : Prop := ∃ id o, look os id = some o ∧ G id = some b

/-- What has become of the world, and of what never changes, since the begin. -/
structure Ext (w w' : World) (I I' M M' : Nat → Prop) : Prop where
  size : w.heap.size ≤ w'.heap.size
  os : w'.os = w.os
  tape : w'.tape = w.tape
  output : w'.output = w.output
  keep : ∀ k, k < w.heap.size → ¬ M k → w'.heap[k]? = w.heap[k]?
  imm : ∀ k, I k → I' k
  inew : ∀ k, I' k → I k ∨ M k ∨ w.heap.size ≤ k
  mnew : ∀ k, M' k → M k ∨ w.heap.size ≤ k

theorem Ext.refl (w : World) (I M : Nat → Prop) : Ext w w I I M M :=
  ⟨Nat.le_refl _, rfl, rfl, rfl, fun _ _ _ => rfl, fun _ h => h, fun _ h => .inl h, fun _ h => .inl h⟩

theorem Ext.trans {w w' w'' : World} {I I' I'' M M' M'' : Nat → Prop} (h : Ext w w' I I' M M') (k : Ext w' w'' I' I'' M' M'') : Ext w w'' I I'' M M'' where
  size := Nat.le_trans h.size k.size
  os := k.os.trans h.os
  tape := k.tape.trans h.tape
  output := k.output.trans h.output
  keep := fun i hi hm => by
    rw [k.keep i (Nat.lt_of_lt_of_le hi h.size) (fun hm' => (h.mnew i hm').elim hm (fun hl => by omega)), h.keep i hi hm]
  imm := fun i hi => k.imm i (h.imm i hi)
  inew := fun i hi => by
    rcases k.inew i hi with h1 | h1 | h1
    · exact h.inew i h1
    · exact (h.mnew i h1).elim (fun x => .inr (.inl x)) (fun x => .inr (.inr x))
    · exact .inr (.inr (Nat.le_trans h.size h1))
  mnew := fun i hi => (k.mnew i hi).elim (fun x => h.mnew i x) (fun x => .inr (Nat.le_trans h.size x))
end Go.AL
