/- More words that printed proofs use: joins, and regions whose values are told in other words. -/
import Derived.Test.YthilboheomikjaaGreatDoorA15
import Derived.Test.YthilboheomikjaaGreatDoorA19
namespace Go.AL
set_option linter.unusedVariables false
variable {P : Program} {GL : List (Nat × List PV)} {C : Spec} {st : S} {N : Nat} {F : Exit → S → Prop} {code : Code}

theorem pair_eq {α β : Type} {a a' : α} {b b' : β} (h : a = a') (h2 : b = b') : (a, b) = (a', b') := by subst h; subst h2; rfl

/-- what F says where x is done normally: J -/
def Into (J : S → Prop) (F : Exit → S → Prop) : Exit → S → Prop
  | .normal, s => J s
  | e, s => F e s

theorem WA.join {x y : Code} (J : S → Prop) (h1 : ∀ s, J s → WA P GL N y s F) (h2 : WA P GL N x st (Into J F)) : WA P GL N (.seq x y) st F :=
  WA.seq (h2.mono fun e s h => by cases e <;> first | exact h1 s h | exact h)

theorem WA.regM {α : Type} {raw can : α} (T : α → List (Nat × AT) × Objs × List Prop) (hm : raw = can) {id : Nat} {l : List Oper} (ts ids : List Nat) (hs_ : List (Nat × Hint)) {env' : List (Nat × AT)} {os' : Objs} {O : List Prop}
    (he : (evalOps P GL C N l hs_ 0 l st).map (fun p => (pickE p.1.env ts, pickE p.1.os ids, p.2)) = some (T raw)) (hT : T can = (env', os', O)) (hC : Sound P GL C) (hO : All O) (h : F .normal ⟨env', os'⟩) :
    WA P GL N (.region id l.toArray false) st F := by
  subst hm; rw [hT] at he; exact WA.reg ts ids hs_ he hC hO h

theorem WA.regDM {α : Type} {raw can : α} (T : α → List (Nat × AT) × Objs × List Prop) (hm : raw = can) {id : Nat} {l : List Oper} (ts ids : List Nat) (hs_ : List (Nat × Hint)) {env' : List (Nat × AT)} {os' : Objs} {O : List Prop}
    (hmx : P.follows .mixedOrders = true) (hd : drawOk GL l hs_ (traceL P GL C N l hs_ 0 l st) st = true)
    (he : (evalOps P GL C N l hs_ 0 l st).map (fun p => (pickE p.1.env ts, pickE p.1.os ids, p.2)) = some (T raw)) (hT : T can = (env', os', O)) (hC : Sound P GL C) (hO : All O) (h : F .normal ⟨env', os'⟩) :
    WA P GL N (.region id l.toArray true) st F := by
  subst hm; rw [hT] at he; exact WA.regD hmx ts ids hs_ hd he hC hO h

theorem out_nrm {rv : List ResultVar} {outs : List Nat} {m : Nat} {res : AT} {os' : List Obj} {s : S} (r : AT) (l : List Obj) (h1 : resA P s rv = some r) (h2 : renA outs res = some r) (h3 : renOs outs os' = some l) (h4 : lookAll s.os outs = some l)
    (h5 : outs.Nodup) (h6 : outs.length = os'.length) (h7 : outs.take m = List.range m) : Out P rv outs m res os' .normal s := ⟨r, h1, h2, ⟨l, h3, h4⟩, h5, h6, h7⟩

section
variable {α β : Type} {e : α → β}
theorem len_map (l : List α) : (l.map e).length = l.length := List.length_map e
theorem app_map (a b : List α) : a.map e ++ b.map e = (a ++ b).map e := List.map_append.symm
theorem take_map (l : List α) (n : Nat) : (l.map e).take n = (l.take n).map e := (List.map_take).symm
theorem drop_map (l : List α) (n : Nat) : (l.map e).drop n = (l.drop n).map e := (List.map_drop).symm
theorem set_map (l : List α) (i : Nat) (x : α) : (l.map e).set i (e x) = (l.set i x).map e := List.map_set.symm
theorem rep_map (n : Nat) (x : α) : List.replicate n (e x) = (List.replicate n x).map e := (List.map_replicate).symm
theorem get_of_idx {l : List α} {i : Int} {x : α} (h : idxL l i = some x) : l[i.toNat]? = some x := by
  unfold idxL at h; split at h
  · exact h
  · cases h
theorem len_one (f : α → List PV) (l : List α) (n : Nat) (hf : ∀ x, (f x).length = n) : ∀ es, es ∈ l.map f → es.length = n := fun es h => by
  obtain ⟨y, _, rfl⟩ := List.mem_map.1 h; exact hf y
end
end Go.AL
