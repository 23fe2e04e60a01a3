/- The evaluator: what an operation does to abstract values. It computes what is plain; what is not, it takes as a hint and asks for it. -/
import Derived.Test.YthilboheomikjaaGreatDoorA1
namespace Go.AL
set_option linter.unusedVariables false

structure S where
  env : List (Nat × AT)
  os : Objs

inductive Hint where
  | cells (ps : List PV)
  | acells (cs : List AC)
  | num (n : Int)
  | val (p : PV)
  | obj (id : Nat)
  | bool (b : Bool)
  | call (ids : List Nat) (res : AT) (os' : List Obj) (new : List Nat)
  | callR (ids : List Nat) (res : AT)

def All : List Prop → Prop
  | [] => True
  | p :: l => p ∧ All l

theorem All.append {a b : List Prop} (h : All (a ++ b)) : All a ∧ All b := by
  induction a with
  | nil => exact ⟨trivial, h⟩
  | cons p a ih => exact ⟨⟨h.1, (ih h.2).1⟩, (ih h.2).2⟩

def constPV : Value → Option PV
  | .bool b => some (.bool b)
  | .int k n => some (.int k n)
  | .string s => some (.str s.data.toList)
  | .float k b => some (.flt k b)
  | .pointer none => some .nilp
  | .nilIface => some .nilif
  | .nilFunc => some .nilfn
  | .slice none 0 0 => some (.sl [])
  | .func (.func f) ⟨[]⟩ ⟨[]⟩ => some (.fn f)
  | _ => none

def constCS : List Value → Option (List AC)
  | [] => some []
  | v :: l => match constPV v, constCS l with
    | some p, some ps => some (.pv p :: ps)
    | _, _ => none

def constAT : Value → Option AT
  | .agg ⟨cs⟩ => (constCS cs).map (.val true)
  | v => (constPV v).map fun p => .val false [.pv p]

def opd (GL : List (Nat × List PV)) (st : S) : Operand → Option AT
  | .tmp t => look st.env t
  | .const v => constAT v
  | .func f => some (.val false [.pv (.fn f)])
  | .global g => (look GL g).map fun ps => .val false [.vp ps]

def aggT (P : Program) (t : TypeId) : Option Bool :=
  match P.underlying t with
  | some (.struct _) | some (.array _ _) => some true
  | some _ => some false
  | none => none

def sizeT (P : Program) (t : TypeId) : Option Nat := (P.info? t).map (·.size)
def bytesT (P : Program) (t : TypeId) : Option Nat := (P.info? t).map (·.bytes)

def zeroT (P : Program) (t : TypeId) : Option (List AC) :=
  match (P.info? t).bind (·.zero) with
  | some v => constCS v.cells.toList
  | none => none

def elemT (P : Program) (t : TypeId) : Option TypeId :=
  match P.underlying t with
  | some (.slice e) => some e
  | _ => none

/-- a part of a value of type t: a struct, or one cell -/
def partA (P : Program) (t : TypeId) (cs : List AC) (off : Nat) : Option AT :=
  match aggT P t, sizeT P t with
  | some true, some n => if (cs.drop off).take n |>.length |>.beq n then some (.val true ((cs.drop off).take n)) else none
  | some false, some 1 => match cs[off]? with | some c => some (.val false [c]) | none => none
  | _, _ => none

def splice (cs : List AC) (j : Nat) (xs : List AC) : List AC := cs.take j ++ xs ++ cs.drop (j + xs.length)

def pvs : List AC → Option (List PV)
  | [] => some []
  | .pv p :: l => (pvs l).map (p :: ·)
  | _ => none

def norefC (id : Nat) : AC → Bool
  | .ptr i _ _ _ | .arr i _ => !(Nat.beq i id)
  | _ => true
def norefL (id : Nat) : List AC → Bool
  | [] => true
  | c :: l => match norefC id c with | true => norefL id l | false => false
def norefT (id : Nat) : List (Bool × List AC) → Bool
  | [] => true
  | (_, cs) :: l => match norefL id cs with | true => norefT id l | false => false
def norefA (id : Nat) : AT → Bool
  | .val _ cs => norefL id cs
  | .tup l => norefT id l
def norefEnv (id : Nat) : List (Nat × AT) → Bool
  | [] => true
  | (_, x) :: l => match norefA id x with | true => norefEnv id l | false => false
def norefOs (id : Nat) : Objs → Bool
  | [] => true
  | (_, .box cs) :: l => match norefL id cs with | true => norefOs id l | false => false
  | (_, .arr _ _) :: l => norefOs id l

def fresh (id : Nat) (st : S) : Bool :=
  match look st.os id with
  | some _ => false
  | none => match Nat.ble 100 id, norefEnv id st.env with | true, true => norefOs id st.os | _, _ => false

def dropO : Objs → Nat → Objs
  | [], _ => []
  | (k, o) :: l, id => match Nat.beq k id with | true => dropO l id | false => (k, o) :: dropO l id

def setO : Objs → Nat → Obj → Objs
  | [], _, _ => []
  | (k, x) :: l, t, o => match Nat.beq k t with | true => (k, o) :: l | false => (k, x) :: setO l t o

def bitsI (op : BinOp) (k : IntKind) (x y : Int) : Int :=
  k.wrap (match op with
    | .and => (BitVec.ofInt k.bits x &&& BitVec.ofInt k.bits y).toNat
    | .or => (BitVec.ofInt k.bits x ||| BitVec.ofInt k.bits y).toNat
    | .xor => (BitVec.ofInt k.bits x ^^^ BitVec.ofInt k.bits y).toNat
    | _ => (BitVec.ofInt k.bits x &&& ~~~(BitVec.ofInt k.bits y)).toNat : Nat)

def sameK : IntKind → IntKind → Bool
  | .i8, .i8 | .i16, .i16 | .i32, .i32 | .i64, .i64 | .u8, .u8 | .u16, .u16 | .u32, .u32 | .u64, .u64 => true
  | _, _ => false

def binPV : BinOp → PV → PV → Option (PV × List Prop)
  | .shl, .int k a, .int _ b => some (.int k (k.wrap (a * 2 ^ (min b.toNat k.bits))), [0 ≤ b])
  | .shr, .int k a, .int _ b => some (.int k (a.fdiv (2 ^ (min b.toNat k.bits))), [0 ≤ b])
  | op, .int k a, .int k' b =>
    match sameK k k' with
    | false => none
    | true => match op with
      | .add => some (.int k (k.wrap (a + b)), [])
      | .sub => some (.int k (k.wrap (a - b)), [])
      | .mul => some (.int k (k.wrap (a * b)), [])
      | .quo => some (.int k (k.wrap (a.tdiv b)), [b ≠ 0])
      | .rem => some (.int k (a.tmod b), [b ≠ 0])
      | .eql => some (.bool (a == b), [])
      | .neq => some (.bool (a != b), [])
      | .lss => some (.bool (decide (a < b)), [])
      | .leq => some (.bool (decide (a ≤ b)), [])
      | .gtr => some (.bool (decide (a > b)), [])
      | .geq => some (.bool (decide (a ≥ b)), [])
      | .and | .or | .xor | .andNot => some (.int k (bitsI op k a b), [])
      | _ => none
  | .add, .str a, .str b => some (.str (a ++ b), [a.length + b.length ≤ 4611686018427387904])
  | .eql, .str a, .str b => some (.bool (a == b), [])
  | .neq, .str a, .str b => some (.bool (!(a == b)), [])
  | .lss, .str a, .str b => some (.bool (Op.bytesLess a b), [])
  | .leq, .str a, .str b => some (.bool (Op.bytesLess a b || a == b), [])
  | .gtr, .str a, .str b => some (.bool (!(Op.bytesLess a b || a == b)), [])
  | .geq, .str a, .str b => some (.bool (!(Op.bytesLess a b)), [])
  | _, _, _ => none

def idxL {α : Type} (l : List α) (i : Int) : Option α := if 0 ≤ i then l[i.toNat]? else none

/-- the parts of a literal slice, one behind the other, all there -/
def partsEls (GL : List (Nat × List PV)) (st : S) (s : Nat) : Nat → List (Nat × Operand) → Option (List (List AC))
  | _, [] => some []
  | n, (i, x) :: l => match Nat.beq i n, opd GL st x with
    | true, some (.val _ cs) => match Nat.beq cs.length s, partsEls GL st s (n + 1) l with
      | true, some els => some (cs :: els)
      | _, _ => none
    | _, _ => none

def pvEls : List (List AC) → Option (List (List PV))
  | [] => some []
  | cs :: l => match pvs cs, pvEls l with | some ps, some r => some (ps :: r) | _, _ => none

/-- the parts of a literal struct or array, laid over its zero -/
def fillA (GL : List (Nat × List PV)) (st : S) (place : Nat → Option (Nat × Nat)) : List AC → List (Nat × Operand) → Option (List AC)
  | cs, [] => some cs
  | cs, (i, x) :: l => match place i, opd GL st x with
    | some (off, n), some (.val _ xs) => match Nat.beq xs.length n, Nat.ble (off + n) cs.length with
        | true, true => fillA GL st place (splice cs off xs) l
        | _, _ => none
    | _, _ => none

def placesT (P : Program) (t : TypeId) : Option (Nat → Option (Nat × Nat)) :=
  match P.underlying t with
  | some (.array _ e) => (P.info? e).map fun i k => some (k * i.size, i.size)
  | some (.struct fs) => (fs.toList.mapM (fun f => (P.info? f.type).map fun i => (f.offset, i.size))).map fun l k => l[k]?
  | _ => none

def renC (ids : List Nat) : AC → Option AC
  | .ptr id n i j => (ids[id]?).map fun k => .ptr k n i j
  | .arr id n => (ids[id]?).map fun k => .arr k n
  | c => some c
def renL (ids : List Nat) : List AC → Option (List AC)
  | [] => some []
  | c :: l => match renC ids c, renL ids l with | some c, some l => some (c :: l) | _, _ => none
def renT (ids : List Nat) : List (Bool × List AC) → Option (List (Bool × List AC))
  | [] => some []
  | (g, cs) :: l => match renL ids cs, renT ids l with | some c, some l => some ((g, c) :: l) | _, _ => none
def renO (ids : List Nat) : Obj → Option Obj
  | .box cs => (renL ids cs).map .box
  | .arr s els => some (.arr s els)
def renA (ids : List Nat) : AT → Option AT
  | .val g cs => (renL ids cs).map (.val g)
  | .tup l => (renT ids l).map .tup

/-! ### the operations -/
section
variable (P : Program) (GL : List (Nat × List PV))

abbrev R := Option (AT × Objs × List Prop)

def one (p : PV) : AT := .val false [.pv p]

def newO (st : S) (id : Nat) (o : Obj) (x : AT) (O : List Prop) : R :=
  match fresh id st with
  | true => some (x, (id, o) :: st.os, O)
  | false => none

def evLoad (st : S) (t : TypeId) (x : AT) (h : Option Hint) : R :=
  match x with
  | .val false [.vp ps] => (partA P t (pvL ps) 0).map fun a => (a, st.os, [])
  | .val false [.ptr id n i j] => match look st.os id, h with
    | some (.box cs), none => match Nat.beq n 1, Nat.beq i 0 with
      | true, true => (partA P t cs j).map fun a => (a, st.os, [])
      | _, _ => none
    | some (.arr s els), some (.cells ps) => (partA P t (pvL ps) j).map fun a => (a, st.os, [n = els.length, els[i]? = some ps])
    | _, _ => none
  | _ => none

def evStore (st : S) (t : TypeId) (x y : AT) (h : Option Hint) : R :=
  match x, y, sizeT P t with
  | .val false [.ptr id n i j], .val _ xs, some m => match Nat.beq xs.length m with
    | false => none
    | true => match look st.os id, h with
      | some (.box cs), none => match Nat.beq n 1, Nat.beq i 0, Nat.ble (j + m) cs.length with
        | true, true, true => some (.tup [], setO st.os id (.box (splice cs j xs)), [])
        | _, _, _ => none
      | some (.arr s els), some (.cells ps) => match Nat.ble (j + m) s, pvs (splice (pvL ps) j xs) with
        | true, some qs => some (.tup [], setO st.os id (.arr s (els.set i qs)), [n = els.length, els[i]? = some ps])
        | _, _ => none
      | _, _ => none
  | _, _, _ => none

/-- a pointer into an object that stands as it did -/
def alive (st : S) (id n : Nat) : Option (List Prop) :=
  match look st.os id with
  | some (.box _) => match Nat.beq n 1 with | true => some [] | false => none
  | some (.arr _ els) => some [n = els.length, 0 < n]
  | none => none

def evFieldAddr (st : S) (t : TypeId) (x : AT) (f : Nat) : R :=
  match P.underlying t with
  | some (.struct fs) => match fs[f]? with
    | some fd => match sizeT P fd.type with
      | some 0 | none => none
      | some (_ + 1) => match x with
        | .val false [.vp ps] => some (.val false [.vp (ps.drop fd.offset)], st.os, [])
        | .val false [.ptr id n i j] => (alive st id n).map fun O => (.val false [.ptr id n i (j + fd.offset)], st.os, O)
        | _ => none
    | none => none
  | _ => none

def evIndexAddr (st : S) (t : TypeId) (x y : AT) (h : Option Hint) : R :=
  match elemT P t, x, y with
  | some e, .val false [.pv (.sl els)], .val false [.pv (.int _ i)] => match h, sizeT P e with
    | some (.cells ps), some s => match Nat.beq ps.length s with
      | true => some (.val false [.vp ps], st.os, [idxL els i = some ps])
      | false => none
    | _, _ => none
  | some e, .val false [.arr id n], .val false [.pv (.int _ i)] => match look st.os id, sizeT P e with
    | some (.arr s els), some s' => match Nat.beq s s' with
      | true => some (.val false [.ptr id n i.toNat 0], st.os, [n = els.length, 0 ≤ i, i < n])
      | false => none
    | _, _ => none
  | _, _, _ => none

def evIndex (st : S) (x y : AT) (h : Option Hint) : R :=
  match x, y, h with
  | .val false [.pv (.str s)], .val false [.pv (.int _ i)], some (.num c) => some (one (.int .u8 c), st.os, [(idxL s i).map (fun b => (b.toNat : Int)) = some c])
  | _, _, _ => none

def bound (GL : List (Nat × List PV)) (st : S) (x : Option Operand) (d : Int) : Option Int :=
  match x with
  | none => some d
  | some x => match opd GL st x with
    | some (.val false [.pv (.int _ i)]) => some i
    | _ => none

def evSlice (st : S) (t : TypeId) (x : AT) (lo hi mx : Option Operand) : R :=
  match mx with
  | some _ => none
  | none => match P.underlying t, x with
    | some .string, .val false [.pv (.str s)] => match bound GL st lo 0, bound GL st hi s.length with
      | some l, some r => some (one (.str ((s.take r.toNat).drop l.toNat)), st.os, [0 ≤ l, l ≤ r, r ≤ s.length])
      | _, _ => none
    | some (.slice e), .val false [.pv (.sl els)] => match bound GL st lo 0, bound GL st hi els.length, sizeT P e with
      | some l, some r, some s => some (one (.sl ((els.take r.toNat).drop l.toNat)), st.os, [0 ≤ l, l ≤ r, r ≤ els.length, ∀ es, els[0]? = some es → es.length = s])
      | _, _, _ => none
    | _, _ => none

def eqPV : PV → PV → Option Bool
  | .int k a, .int k' b => match sameK k k' with | true => some (a == b) | false => none
  | .bool a, .bool b => some (a == b)
  | .str a, .str b => some (a == b)
  | _, _ => none

def fitsEq (t : TypeId) : PV → Bool
  | .int _ _ => match P.underlying t with | some (.int _) => true | _ => false
  | .bool _ => match P.underlying t with | some .bool => true | _ => false
  | .str _ => match P.underlying t with | some .string => true | _ => false
  | _ => false

def eqFs (cs ds : List AC) : List Field → Option Bool
  | [] => some true
  | f :: l => match f.name == "_", partA P f.type cs f.offset, partA P f.type ds f.offset with
    | false, some (.val false [.pv p]), some (.val false [.pv q]) => match eqPV p q, fitsEq P f.type p, eqFs cs ds l with
      | some b, true, some r => some (b && r)
      | _, _, _ => none
    | _, _, _ => none

/-- two structs of plain parts -/
def evEqS (st : S) (op : BinOp) (t : TypeId) (cs ds : List AC) : R :=
  match P.underlying t, P.eqGuardType P.depth t, P.stoodInHeld t with
  | some (.struct fs), false, false => match op, eqFs P cs ds fs.toList with
    | .eql, some b => some (one (.bool b), st.os, [])
    | .neq, some b => some (one (.bool (!b)), st.os, [])
    | _, _ => none
  | _, _, _ => none

/-- the first ones of an array of one's own: the array goes on as a new one -/
def evShrink (st : S) (t : TypeId) (id n id2 : Nat) (lo hi mx : Option Operand) : R :=
  match mx, lo, elemT P t, look st.os id, bound GL st hi n with
  | none, none, some e, some (.arr s els), some r => match sizeT P e, fresh id2 st, Nat.ble 100 id with
    | some s', true, true => match Nat.beq s s' with
      | true => some (.val false [.arr id2 r.toNat], (id2, .arr s (els.take r.toNat)) :: dropO st.os id, [n = els.length, 0 ≤ r, r ≤ n])
      | false => none
    | _, _, _ => none
  | _, _, _, _, _ => none

def evLen (st : S) (str : Bool) (x : AT) : R :=
  match str, x with
  | true, .val false [.pv (.str s)] => some (one (.int .i64 s.length), st.os, [])
  | false, .val false [.pv (.sl els)] => some (one (.int .i64 els.length), st.os, [])
  | false, .val false [.arr id n] => some (one (.int .i64 n), st.os, [])
  | _, _ => none

def evAppend (st : S) (t : TypeId) (x y : AT) : R :=
  match elemT P t, x, y with
  | some e, .val false [.arr id n], .val false [.pv (.sl new)] => match look st.os id, sizeT P e, bytesT P e, zeroT P e with
    | some (.arr s els), some s', some by_, some z => match Nat.beq s s', Nat.ble by_ 4096 && Nat.beq z.length s with
      | true, true => some (.val false [.arr id (n + new.length)], setO st.os id (.arr s (els ++ new)),
          [n = els.length, els.length + new.length ≤ 1073741824, ∀ es, es ∈ new → es.length = s])
      | _, _ => none
    | _, _, _, _ => none
  | _, _, _ => none

/-- an append to a slice whose capacity is its length: plain data anew -/
def evAppendC (st : S) (t : TypeId) (els new : List (List PV)) : R :=
  match elemT P t with
  | some e => match sizeT P e, bytesT P e, zeroT P e with
    | some s, some by_, some z => match Nat.ble by_ 4096 && Nat.beq z.length s with
      | true => some (one (.sl (els ++ new)), st.os, [els.length + new.length ≤ 1073741824, ∀ es, es ∈ els → es.length = s, ∀ es, es ∈ new → es.length = s])
      | false => none
    | _, _, _ => none
  | none => none

def evAppendX (st : S) (t : TypeId) (x y : AT) : R :=
  match x, y with
  | .val false [.pv (.slc els)], .val false [.pv (.sl new)] => evAppendC P st t els new
  | x, y => evAppend P st t x y

def minmax (mx : Bool) : AT → AT → Option AT
  | .val false [.pv (.int k a)], .val false [.pv (.int k' b)] => match sameK k k' with
    | true => some (one (.int k (match mx with | true => if b > a then b else a | false => if b < a then b else a)))
    | false => none
  | _, _ => none

def evConv (st : S) (src dst : TypeId) (x : AT) : R :=
  match P.underlying src, P.underlying dst, x with
  | some (.int _), some (.int k), .val false [.pv (.int _ n)] => some (one (.int k (k.wrap n)), st.os, [])
  | some .string, some .string, .val false [.pv (.str s)] => some (one (.str s), st.os, [])
  | some (.int _), some .string, .val false [.pv (.int _ n)] => some (one (.str (Utf8.encode n).data.toList), st.os, [])
  | _, _, _ => none

def bytesPV : List (List PV) → Option (List UInt8)
  | [] => some []
  | [.int .u8 n] :: l => (bytesPV l).map (UInt8.ofNat n.toNat :: ·)
  | _ => none

def evConvB (st : S) (src dst : TypeId) (els : List (List PV)) : R :=
  match P.underlying src, P.underlying dst with
  | some (.slice e), some .string => match P.underlying e, bytesPV els with
    | some (.int .u8), some bs => some (one (.str bs), st.os, [])
    | _, _ => none
  | _, _ => none

def evConvX (st : S) (src dst : TypeId) (x : AT) : R :=
  match x with
  | .val false [.pv (.sl els)] => evConvB P st src dst els
  | x => evConv P st src dst x

/-- 'f with these, over these objects, comes to that': see A4 -/
abbrev Spec := FuncId → List AT → List Obj → AT → List Obj → Prop

def lookAll (os : Objs) : List Nat → Option (List Obj)
  | [] => some []
  | id :: l => match look os id, lookAll os l with | some o, some r => some (o :: r) | _, _ => none
def renOs (ids : List Nat) : List Obj → Option (List Obj)
  | [] => some []
  | o :: l => match renO ids o, renOs ids l with | some o, some r => some (o :: r) | _, _ => none
def renAs (ids : List Nat) : List AT → Option (List AT)
  | [] => some []
  | o :: l => match renA ids o, renAs ids l with | some o, some r => some (o :: r) | _, _ => none
def setAll (os : Objs) : List Nat → List Obj → Objs
  | id :: l, o :: r => setAll (setO os id o) l r
  | _, _ => os
/-- an operand of a call: a nil slice is told as such -/
def opdA (st : S) : Operand → Option AT
  | .const (.slice none 0 0) => some (.val false [.pv .nils])
  | x => opd GL st x
def opds (st : S) : List Operand → Option (List AT)
  | [] => some []
  | x :: l => match opdA GL st x, opds st l with | some x, some l => some (x :: l) | _, _ => none

/-- both are there, and the same -/
def Eqs {α : Type} (x y : Option α) : Prop := ∃ z, x = some z ∧ y = some z

def posOf : List Nat → Nat → Option Nat
  | [], _ => none
  | i :: l, k => match Nat.beq i k with | true => some 0 | false => (posOf l k).map (· + 1)

def unC (ids : List Nat) : AC → Option AC
  | .ptr id n i j => (posOf ids id).map fun k => .ptr k n i j
  | .arr id n => (posOf ids id).map fun k => .arr k n
  | c => some c
def unL (ids : List Nat) : List AC → Option (List AC)
  | [] => some []
  | c :: l => match unC ids c, unL ids l with | some c, some l => some (c :: l) | _, _ => none
def unA (ids : List Nat) : AT → Option AT
  | .val g cs => (unL ids cs).map (.val g)
  | .tup _ => none
def unO (ids : List Nat) : Obj → Option Obj
  | .box cs => (unL ids cs).map .box
  | .arr s els => some (.arr s els)
def unAs (ids : List Nat) : List AT → Option (List AT)
  | [] => some []
  | o :: l => match unA ids o, unAs ids l with | some o, some r => some (o :: r) | _, _ => none
def unOs (ids : List Nat) : List Obj → Option (List Obj)
  | [] => some []
  | o :: l => match unO ids o, unOs ids l with | some o, some r => some (o :: r) | _, _ => none

/-- new objects, each with a name that nothing bears -/
def addAll (st : S) (base : Objs) : List Nat → List Obj → Option Objs
  | [], [] => some base
  | id :: l, o :: r => match addAll st base l r with
    | some os => match fresh id st, look os id with
      | true, none => some ((id, o) :: os)
      | _, _ => none
    | none => none
  | _, _ => none

def evCall (C : Spec) (st : S) (f : FuncId) (xs : List Operand) (h : Option Hint) : R :=
  match h with
  | some (.call ids res os' new) => match (opds GL st xs).bind (unAs ids), (lookAll st.os ids).bind (unOs ids), renA (ids ++ new) res, renOs (ids ++ new) os' with
    | some args, some os, some r, some rs => match Nat.ble ids.length os'.length, Nat.ble ids.length 100, addAll st (setAll st.os ids (rs.take ids.length)) new (rs.drop ids.length) with
      | true, true, some os2 => some (r, os2, [C f args os res os', ids.Nodup])
      | _, _, _ => none
    | _, _, _, _ => none
  | some (.callR ids res) => match (opds GL st xs).bind (unAs ids), (lookAll st.os ids).bind (unOs ids), renA ids res with
    | some args, some os, some r => match Nat.ble ids.length 100 with
      | true => some (r, st.os, [C f args os res os, ids.Nodup])
      | _ => none
    | _, _, _ => none
  | _ => none

def evalOp (C : Spec) (st : S) (o : Oper) (h : Option Hint) : R :=
  match o.op with
  | .move x | .assign x => match h, x with
    | some (.obj id), .const (.slice none 0 0) => match (elemT P o.type).bind (sizeT P) with
      | some s => newO st id (.arr s []) (.val false [.arr id 0]) []
      | none => none
    | none, x => (opd GL st x).map fun a => (a, st.os, [])
    | _, _ => none
  | .pick c a b => match opd GL st c with
    | some (.val false [.pv (.bool true)]) => (opd GL st a).map fun a => (a, st.os, [])
    | some (.val false [.pv (.bool false)]) => (opd GL st b).map fun a => (a, st.os, [])
    | _ => none
  | .alloc t => match h, zeroT P t with
    | some (.obj id), some cs => newO st id (.box cs) (.val false [.ptr id 1 0 0]) []
    | _, _ => none
  | .box t x => match h, opd GL st x with
    | some (.obj id), some (.val _ cs) => newO st id (.box cs) (.val false [.ptr id 1 0 0]) []
    | _, _ => none
  | .build t parts => match placesT P t, zeroT P t with
    | some pl, some cs => (fillA GL st pl cs parts.toList).map fun cs => (.val true cs, st.os, [])
    | _, _ => none
  | .buildSlice t n parts => match (elemT P t).bind (sizeT P), (elemT P t).bind (zeroT P) with
    | some s, some _ => match partsEls GL st s 0 parts.toList, Nat.ble (n * s) 16777216, Nat.beq parts.size n with
      | some els, true, true => match pvEls els, h with
        | some ps, none => some (one (.sl ps), st.os, [])
        | some ps, some (.num _) => some (one (.slc ps), st.os, [])
        | some ps, some (.obj id) => newO st id (.arr s ps) (.val false [.arr id n]) []
        | _, _ => none
      | _, _, _ => none
    | _, _ => none
  | .load t a => match opd GL st a with | some x => evLoad P st t x h | none => none
  | .store t a y => match opd GL st a, opd GL st y with | some x, some y => evStore P st t x y h | _, _ => none
  | .nilCheck x => match opd GL st x with
    | some (.val false [.ptr id n i j]) => (alive st id n).map fun O => (.val false [.ptr id n i j], st.os, O)
    | some (.val false [.vp ps]) => some (.val false [.vp ps], st.os, [])
    | _ => none
  | .binOp op t x y _ => match opd GL st x, opd GL st y with
    | some (.val false [.pv p]), some (.val false [.pv q]) => match op, p, q with
      | .eql, .bool a, .bool b => match P.underlying t with | some .bool => some (one (.bool (a == b)), st.os, []) | _ => none
      | .neq, .bool a, .bool b => match P.underlying t with | some .bool => some (one (.bool (!(a == b))), st.os, []) | _ => none
      | op, p, q => (binPV op p q).map fun (r, O) => (one r, st.os, O)
    | some (.val true cs), some (.val true ds) => evEqS P st op t cs ds
    | _, _ => none
  | .unOp op _ x => match op, opd GL st x with
    | .not, some (.val false [.pv (.bool b)]) => some (one (.bool (!b)), st.os, [])
    | .neg, some (.val false [.pv (.int k n)]) => some (one (.int k (k.wrap (0 - n))), st.os, [])
    | _, _ => none
  | .convert src dst x => match opd GL st x with | some x => evConvX P st src dst x | none => none
  | .slice t x lo hi mx => match opd GL st x, h with
    | some (.val false [.arr id n]), some (.obj id2) => evShrink P GL st t id n id2 lo hi mx
    | some x, none => evSlice P GL st t x lo hi mx
    | _, _ => none
  | .fieldAddr t x f => match opd GL st x with | some x => evFieldAddr P st t x f | none => none
  | .field t x f => match P.underlying t, opd GL st x with
    | some (.struct fs), some (.val true cs) => match fs[f]? with
      | some fd => (partA P fd.type cs fd.offset).map fun a => (a, st.os, [])
      | none => none
    | _, _ => none
  | .indexAddr t x i => match opd GL st x, opd GL st i with | some x, some y => evIndexAddr P st t x y h | _, _ => none
  | .index t x i => match P.underlying t, opd GL st x, opd GL st i with | some .string, some x, some y => evIndex st x y h | _, _, _ => none
  | .extract x i => match opd GL st x with
    | some (.tup l) => match l[i]? with | some (g, cs) => some (.val g cs, st.os, []) | none => none
    | _ => none
  | .makeSlice t l c => match h, (elemT P t), opd GL st l, opd GL st c with
    | some (.obj id), some e, some (.val false [.pv (.int .i64 n)]), some (.val false [.pv (.int .i64 m)]) => match sizeT P e, bytesT P e, (zeroT P e).bind pvs with
      | some s, some by_, some z => match Nat.beq z.length s, Nat.ble by_ 4096, Nat.ble 1 s with
        | true, true, true => newO st id (.arr s (List.replicate n.toNat z)) (.val false [.arr id n.toNat]) [n = m, 0 ≤ n, n ≤ 1073741824]
        | _, _, _ => none
      | _, _, _ => none
    | _, _, _, _ => none
  | .call ⟨.builtin b, ⟨args⟩, ⟨tys⟩⟩ => match b, args, tys with
    | .len, [x], [t] => match opd GL st x, P.underlying t with
      | some x, some .string => evLen st true x
      | some x, some (.slice _) => evLen st false x
      | _, _ => none
    | .append, [x, y], [t, t'] => match opd GL st x, opd GL st y, P.underlying t' with
      | some x, some y, some (.slice _) => evAppendX P st t x y
      | _, _, _ => none
    | .min, [x, y], _ => match opd GL st x, opd GL st y with
      | some x, some y => (minmax false x y).map fun a => (a, st.os, [])
      | _, _ => none
    | .max, [x, y], _ => match opd GL st x, opd GL st y with
      | some x, some y => (minmax true x y).map fun a => (a, st.os, [])
      | _, _ => none
    | _, _, _ => none
  | .call ⟨.value fo, ⟨args⟩, _⟩ => match opd GL st fo with
    | some (.val false [.pv (.fn f)]) => match (P.funcs[f]?).map (fun fn => (fn.body.isSome, fn.name == "runtime.NumGoroutine")) with
      | some (true, false) => evCall GL C st f args h
      | _ => none
    | _ => none
  | _ => none

def evalOpH (C : Spec) (st : S) (o : Oper) (h : Option Hint) : R :=
  match h with
  | some (.bool b) => match evalOp P GL C st o none with
    | some (.val false [.pv (.bool x)], os, O) => some (one (.bool b), os, (x = b) :: O)
    | _ => none
  | h => evalOp P GL C st o h

def putE (env : List (Nat × AT)) (d : Option Tmp) (x : AT) : List (Nat × AT) :=
  match d with
  | some t => (t, x) :: env
  | none => env

/-- is an operation carried out? by the bool in the slot that its guard's operation writes -/
def wantedA (ops : List Oper) (st : S) (o : Oper) : Option Bool :=
  match o.guard with
  | none => some true
  | some (g, want) => match (ops[g]?).bind (·.dst) with
    | none => none
    | some t => match look st.env t with
      | some (.val false [.pv (.bool b)]) => match b, want with
        | true, true | false, false => some true
        | true, false | false, true => some false
      | some (.tup []) => some false
      | _ => none

def dstOk (N : Nat) (o : Oper) : Bool :=
  match o.dst with
  | some t => Nat.blt t N
  | none => true

def evalOps (C : Spec) (N : Nat) (ops : List Oper) (hs : List (Nat × Hint)) : Nat → List Oper → S → Option (S × List Prop)
  | _, [], st => some (st, [])
  | i, o :: rest, st => match wantedA ops st o, dstOk N o with
    | some false, true => evalOps C N ops hs (i + 1) rest ⟨putE st.env o.dst (.tup []), st.os⟩
    | some true, true => match evalOpH P GL C st o (look hs i) with
      | none => none
      | some (x, os, O) => match evalOps C N ops hs (i + 1) rest ⟨putE st.env o.dst x, os⟩ with
        | none => none
        | some (st', O') => some (st', O ++ O')
    | _, _ => none
end
end Go.AL
