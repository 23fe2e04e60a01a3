/- Promises of library functions, out of the shelf's contracts. -/
import Derived.Test.YthilboheomikjaaGreatDoorA20
import Derived.Test.YthilboheomikjaaGreatDoorL1
import Derived.Lib.AtoiErrMem
namespace Go.AL
open Go.RowKit
set_option linter.unusedVariables false
variable {P : Program} {GL : List (Nat × List PV)}

/-- a call that leaves all that was there -/
theorem sim_below {f : FuncId} {args : List AT} {res : AT} (h : ∀ (w : World) (I : Nat → Prop) (G : Nat → Option Nat) (vs : List Value), Sr GL w I G [] → As w I G (shape []) args vs →
    Calls P f ⟨vs⟩ w fun e w' => ∃ v, e = .returned v ∧ (∀ w' I' G' sh, ATr w' I' G' sh res v) ∧ Below w.heap.size w w') : Sim P GL f args [] res [] := by
  intro w I G vs hs ha
  refine Calls.imp (h w I G vs hs ha) ?_
  rintro e w' ⟨v, rfl, hr, hb⟩
  obtain ⟨s1, k1⟩ := Sr.move (os := number []) (w' := w') (I' := I) hs (fun _ h => h) (fun k hk => hb.block k hk) hb.size (fun _ h => .inl h) (fun k hk => Nat.lt_of_lt_of_le (hs.lt k hk) hb.size)
  exact ⟨v, I, G, rfl, ⟨hb.size, hb.os, hb.tape, hb.output, fun k hk _ => hb.block k hk, fun _ h => h, fun _ h => .inl h, fun _ h => .inl h⟩, s1, hr _ _ _ _, k1.weaken fun _ _ => trivial⟩

theorem as_str {w : World} {I : Nat → Prop} {G : Nat → Option Nat} {sh : Sh} {s : List UInt8} {l : List AT} {vs : List Value} (h : As w I G sh (one (.str s) :: l) vs) : ∃ vs', vs = .string ⟨s.toArray⟩ :: vs' ∧ As w I G sh l vs' := by
  obtain ⟨v, vs', rfl, hv, hl⟩ := h
  have h1 : PVr w I (.str s) v := atr_one hv
  cases h1
  exact ⟨vs', rfl, hl⟩

theorem as_int {w : World} {I : Nat → Prop} {G : Nat → Option Nat} {sh : Sh} {k : IntKind} {n : Int} {l : List AT} {vs : List Value} (h : As w I G sh (one (.int k n) :: l) vs) : ∃ vs', vs = .int k n :: vs' ∧ As w I G sh l vs' := by
  obtain ⟨v, vs', rfl, hv, hl⟩ := h
  have h1 : PVr w I (.int k n) v := atr_one hv
  cases h1
  exact ⟨vs', rfl, hl⟩

theorem as_nil {w : World} {I : Nat → Prop} {G : Nat → Option Nat} {sh : Sh} {vs : List Value} (h : As w I G sh [] vs) : vs = [] := h

theorem atr_int (k : IntKind) (n : Int) (w : World) (I : Nat → Prop) (G : Nat → Option Nat) (sh : Sh) : ATr w I G sh (one (.int k n)) (.int k n) := ⟨_, rfl, .int _ _⟩
theorem atr_bool (b : Bool) (w : World) (I : Nat → Prop) (G : Nat → Option Nat) (sh : Sh) : ATr w I G sh (one (.bool b)) (.bool b) := ⟨_, rfl, .bool _⟩
end Go.AL

namespace Go.Proofs.YthilboheomikjaaGreatDoor
open Go.AL Go.RowKit
set_option linter.unusedVariables false

/-- the tables of the library that are read -/
def GL0 : List (Nat × List PV) := [(0, (List.range 256).map fun c => .int .u8 (Lib.firstT c)), (1, (List.range 32).map fun i => .int .u8 (if i % 2 = 0 then Lib.accLo (i / 2) else Lib.accHi (i / 2)))]

theorem tabs_of {w : World} {I : Nat → Prop} {G : Nat → Option Nat} {os : Objs} (h : Sr GL0 w I G os) : Lib.Utf8Tabs 0 1 w := by
  obtain ⟨_, h0⟩ := h.gl 0 _ rfl
  obtain ⟨_, h1⟩ := h.gl 1 _ rfl
  refine ⟨fun c hc => ?_, fun i hi => ⟨?_, ?_⟩⟩
  · obtain ⟨u, hu, hr⟩ := h0 c (.int .u8 (Lib.firstT c)) (by simp [hc])
    cases hr; exact hu
  · obtain ⟨u, hu, hr⟩ := h1 (2 * i) (.int .u8 (Lib.accLo i)) (by
      rw [List.getElem?_map, List.getElem?_range (by omega)]
      simp only [Option.map_some, show 2 * i % 2 = 0 from by omega, if_true, show 2 * i / 2 = i from by omega])
    cases hr; exact hu
  · obtain ⟨u, hu, hr⟩ := h1 (2 * i + 1) (.int .u8 (Lib.accHi i)) (by
      rw [List.getElem?_map, List.getElem?_range (by omega)]
      simp only [Option.map_some, show (2 * i + 1) % 2 = 1 from by omega, show (2 * i + 1) / 2 = i from by omega]
      rfl)
    cases hr; exact hu

/-- utf8.DecodeRuneInString -/
def F80 (k : Nat) (s : List UInt8) : Option (Int × Int) := some (((Lib.decodeGo ⟨s.toArray⟩).1 : Nat), ((Lib.decodeGo ⟨s.toArray⟩).2 : Nat))
theorem F80_ok (k : Nat) (v0 : List UInt8) (r : Int × Int) (hF : F80 k v0 = some r) : Sim Tryz.prog GL0 80 [one (.str v0)] [] (.tup [(false, [.pv (.int .i32 r.1)]), (false, [.pv (.int .i64 r.2)])]) [] := by
  obtain rfl := Option.some.inj hF
  refine sim_below fun w I G vs hs ha => ?_
  obtain ⟨vs, rfl, hb⟩ := as_str ha; clear ha; have ha := hb; clear hb
  obtain rfl := as_nil ha
  refine Calls.imp (Any.utf8_DecodeRuneInString Tryz.lays197 ⟨v0.toArray⟩ w (tabs_of hs)) ?_
  rintro e w' ⟨rfl, hb⟩
  exact ⟨_, rfl, fun _ _ _ _ => ⟨_, rfl, _, _, rfl, ⟨_, rfl, .int _ _⟩, _, _, rfl, ⟨_, rfl, .int _ _⟩, rfl⟩, hb⟩

/-- utf8.ValidString -/
def F72 (k : Nat) (s : List UInt8) : Option Bool := if s.length ≤ 9223372036854775807 then some (Lib.validD s) else none
theorem F72_ok (k : Nat) (v0 : List UInt8) (r : Bool) (hF : F72 k v0 = some r) : Sim Tryz.prog GL0 72 [one (.str v0)] [] (one (.bool r)) [] := by
  obtain ⟨hl, hF⟩ := if_some hF
  obtain rfl := Option.some.inj hF
  refine sim_below fun w I G vs hs ha => ?_
  obtain ⟨vs, rfl, hb⟩ := as_str ha; clear ha; have ha := hb; clear hb
  obtain rfl := as_nil ha
  refine Calls.imp (Any.utf8_ValidString Tryz.lays196 ⟨v0.toArray⟩ w (by rw [size_mk]; exact hl) (tabs_of hs)) ?_
  rintro e w' ⟨rfl, hb⟩
  exact ⟨_, rfl, fun _ _ _ _ => ⟨_, rfl, .bool _⟩, hb⟩

/-- strings.HasPrefix -/
def F116 (k : Nat) (s p : List UInt8) : Option Bool := some (Lib.hasPrefix s p)
theorem F116_ok (k : Nat) (v0 v1 : List UInt8) (r : Bool) (hF : F116 k v0 v1 = some r) : Sim Tryz.prog GL0 116 [one (.str v0), one (.str v1)] [] (one (.bool r)) [] := by
  obtain rfl := Option.some.inj hF
  refine sim_below fun w I G vs hs ha => ?_
  obtain ⟨vs, rfl, hb⟩ := as_str ha; clear ha; have ha := hb; clear hb
  obtain ⟨vs, rfl, hb⟩ := as_str ha; clear ha; have ha := hb; clear hb
  obtain rfl := as_nil ha
  refine Calls.imp (Any.strings_HasPrefix Tryz.lays99 ⟨v0.toArray⟩ ⟨v1.toArray⟩ w) ?_
  rintro e w' ⟨rfl, rfl⟩
  exact ⟨_, rfl, fun _ _ _ _ => ⟨_, rfl, .bool _⟩, .refl _ _⟩

/-- strings.IndexByte -/
def F170 (k : Nat) (s : List UInt8) (c : Int) : Option Int := some (Lib.indexByte s c.toNat.toUInt8)
theorem F170_ok (k : Nat) (v0 : List UInt8) (v1 : Int) (r : Int) (hF : F170 k v0 v1 = some r) : Sim Tryz.prog GL0 170 [one (.str v0), one (.int .u8 v1)] [] (one (.int .i64 r)) [] := by
  obtain rfl := Option.some.inj hF
  refine sim_below fun w I G vs hs ha => ?_
  obtain ⟨vs, rfl, hb⟩ := as_str ha; clear ha; have ha := hb; clear hb
  obtain ⟨vs, rfl, hb⟩ := as_int ha; clear ha; have ha := hb; clear hb
  obtain rfl := as_nil ha
  refine Calls.imp (Any.strings_IndexByte Tryz.lays137 ⟨v0.toArray⟩ v1 w) ?_
  rintro e w' ⟨rfl, rfl⟩
  exact ⟨_, rfl, fun _ _ _ _ => ⟨_, rfl, .int _ _⟩, .refl _ _⟩

/-- strconv.Atoi, of a number -/
def F172 (k : Nat) (s : List UInt8) : Option Int := if s.length ≤ 18 then Lib.atoi s else none
theorem F172_ok (k : Nat) (v0 : List UInt8) (r : Int) (hF : F172 k v0 = some r) : Sim Tryz.prog GL0 172 [one (.str v0)] [] (.tup [(false, [.pv (.int .i64 r)]), (false, [.pv .nilif])]) [] := by
  obtain ⟨hl, hF⟩ := if_some hF
  refine sim_below fun w I G vs hs ha => ?_
  obtain ⟨vs, rfl, hb⟩ := as_str ha; clear ha; have ha := hb; clear hb
  obtain rfl := as_nil ha
  refine Calls.imp (Any.strconv_Atoi Tryz.lays172 ⟨v0.toArray⟩ r (by rw [size_mk]; exact hl) hF w) ?_
  rintro e w' ⟨rfl, t, rfl⟩
  refine ⟨_, rfl, fun _ _ _ _ => ⟨_, rfl, _, _, rfl, ⟨_, rfl, .int _ _⟩, _, _, rfl, ⟨_, rfl, .nilif⟩, rfl⟩, ?_⟩
  exact Lib.bytesWorld_below _ _ _
end Go.Proofs.YthilboheomikjaaGreatDoor
