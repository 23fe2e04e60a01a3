/- Small words that printed proofs use. -/
import Derived.Test.YthilboheomikjaaGreatDoorA14
namespace Go.AL
set_option linter.unusedVariables false
variable {P : Program} {GL : List (Nat × List PV)} {st : S} {N : Nat} {F : Exit → S → Prop} {code : Code}

abbrev SimC (P : Program) (GL : List (Nat × List PV)) : Spec := Sim P GL
theorem sound (P : Program) (GL : List (Nat × List PV)) : Sound P GL (Sim P GL) := fun _ _ _ _ _ h => h

def w64 (n : Int) : Int := IntKind.i64.wrap n
def mx (a b : Int) : Int := if b > a then b else a
def mn (a b : Int) : Int := if b < a then b else a

def eInt (k : IntKind) (n : Int) : List PV := [.int k n]
def eBool (b : Bool) : List PV := [.bool b]
def eStr (s : List UInt8) : List PV := [.str s]
def eSl {α : Type} (e : α → List PV) (l : List α) : List PV := [.sl (l.map e)]

theorem idx_map {α : Type} (e : α → List PV) {l : List α} {i : Int} {x : α} (h : idxL l i = some x) : idxL (l.map e) i = some (e x) := by
  unfold idxL at *
  split at h
  · rename_i h0; rw [if_pos h0]; simp [h]
  · cases h

theorem cond_t {α : Type} {b : Bool} {x y z : α} (h : cond b x y = z) (hb : b = true) : x = z := by subst hb; exact h
theorem cond_f {α : Type} {b : Bool} {x y z : α} (h : cond b x y = z) (hb : b = false) : y = z := by subst hb; exact h
theorem if_some {α : Type} {c : Prop} [Decidable c] {x : Option α} {y : α} (h : (if c then x else none) = some y) : c ∧ x = some y := by
  split at h
  · exact ⟨‹_›, h⟩
  · cases h

theorem out_ret {rv : List ResultVar} {outs : List Nat} {m : Nat} {res : AT} {os' : List Obj} {s : S} (r : AT) (l : List Obj) (h1 : resA P s rv = some r) (h2 : renA outs res = some r) (h3 : renOs outs os' = some l) (h4 : lookAll s.os outs = some l)
    (h5 : outs.Nodup) (h6 : outs.length = os'.length) (h7 : outs.take m = List.range m) : Out P rv outs m res os' .ret s := ⟨r, h1, h2, ⟨l, h3, h4⟩, h5, h6, h7⟩
end Go.AL
