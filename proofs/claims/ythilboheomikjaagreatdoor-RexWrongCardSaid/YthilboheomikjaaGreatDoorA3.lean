/- The evaluator is right: operations that turn nothing. -/
import Derived.Test.YthilboheomikjaaGreatDoorA2
import Derived.Laws.Cells
import Derived.Laws.Entries
import Derived.Laws.CopyRow
import Derived.Laws.IdiomCopy
import Derived.Laws.Sem
namespace Go.AL
variable {D : List Deferred}
set_option linter.unusedVariables false
set_option linter.unusedSimpArgs false

structure Fr (D : List Deferred) (w : World) (I : Nat → Prop) (G : Nat → Option Nat) (sh : Sh) (N : Nat) (a : Act) (env : List (Nat × AT)) : Prop where
  size : a.tmps.size = N
  defers : a.defers = D
  slot : ∀ t x, look env t = some x → t < N ∧ ATr w I G sh x (a.tmps.getD t undef)

structure Moves (cr : List Nat) (st : S) (os' : Objs) (w w' : World) (I I' : Nat → Prop) (G G' : Nat → Option Nat) : Prop where
  keeps : Keeps (· < 100) w w' I I' G G' (shape st.os) (shape os')
  env : ∀ t x u, look st.env t = some x → ATr w I G (shape st.os) x u → ATr w' I' G' (shape os') x u
  any_ : Keeps (fun i => ¬ i ∈ cr) w w' I I' G G' (shape st.os) (shape os')

theorem Moves.refl (cr : List Nat) (st : S) (w : World) (I : Nat → Prop) (G : Nat → Option Nat) : Moves cr st st.os w w I I G G := ⟨.refl _ _ _ _ _, fun _ _ _ _ h => h, .refl _ _ _ _ _⟩
theorem Moves.any {cr : List Nat} {st : S} {os' : Objs} {w w' : World} {I I' : Nat → Prop} {G G' : Nat → Option Nat} (k : Keeps Any w w' I I' G G' (shape st.os) (shape os')) : Moves cr st os' w w' I I' G G' :=
  ⟨k.weaken fun _ _ => trivial, fun _ x _ _ h => h.mono k (AT.refs_any x), k.weaken fun _ _ => trivial⟩

def Good (GL : List (Nat × List PV)) (cr : List Nat) (st : S) (x : AT) (os' : Objs) (w : World) (I : Nat → Prop) (G : Nat → Option Nat) (r : Result Next) : Prop :=
  ∃ nx v w' I' G', r = .ok nx w' ∧ (nx = .value v ∨ (nx = .skip ∧ v = undef)) ∧ Ext w w' I I' (Mine G st.os) (Mine G' os') ∧ Sr GL w' I' G' os' ∧
    ATr w' I' G' (shape os') x v ∧ Moves cr st os' w w' I I' G G'

theorem Good.same {GL : List (Nat × List PV)} {cr : List Nat} {st : S} {x : AT} {w : World} {I : Nat → Prop} {G : Nat → Option Nat} {v : Value} {r : Result Next} (hs : Sr GL w I G st.os)
    (hr : r = .ok (.value v) w) (hx : ATr w I G (shape st.os) x v) : Good GL cr st x st.os w I G r :=
  ⟨_, v, w, I, G, hr, .inl rfl, .refl _ _ _, hs, hx, .refl _ _ _ _ _⟩

variable {P : Program} {GL : List (Nat × List PV)} {st : S} {w : World} {I : Nat → Prop} {G : Nat → Option Nat} {N : Nat} {a : Act}

theorem constPV_r {v : Value} {p : PV} (h : constPV v = some p) : PVr w I p v := by
  unfold constPV at h
  split at h <;> first
    | (cases h; first | exact .bool _ | exact .int _ _ | exact .flt _ _ | exact .nilp | exact .nilif | exact .nilfn | exact .sl0 _ _ | exact .fn _)
    | (rename_i s; cases h; have := PVr.str (w := w) (I := I) s.data.toList; simpa using this)
    | (cases h; done)

theorem constCS_r : ∀ {vs : List Value} {cs : List AC}, constCS vs = some cs → CSr w I G (shape st.os) cs vs
  | [], cs, h => by cases h; rfl
  | v :: vs, cs, h => by
    simp only [constCS] at h
    split at h
    · rename_i p ps h1 h2; cases h; exact ⟨v, vs, rfl, constPV_r h1, constCS_r h2⟩
    · cases h

theorem constAT_r {v : Value} {x : AT} (h : constAT v = some x) : ATr w I G (shape st.os) x v := by
  unfold constAT at h
  split at h
  · rename_i cs
    cases h1 : constCS cs with
    | none => simp [h1] at h
    | some l => simp [h1] at h; subst h; exact ⟨cs, rfl, constCS_r h1⟩
  · cases h1 : constPV v with
    | none => simp [h1] at h
    | some p => simp [h1] at h; subst h; exact ⟨_, rfl, constPV_r h1⟩

theorem opd_r (hs : Sr GL w I G st.os) (hf : Fr D w I G (shape st.os) N a st.env) {y : Operand} {x : AT} (h : opd GL st y = some x) : ATr w I G (shape st.os) x (a.eval y) := by
  cases y with
  | tmp t => exact (hf.slot t x h).2
  | const v => exact constAT_r h
  | func f => cases h; exact ⟨_, rfl, .fn f⟩
  | global g =>
    simp only [opd] at h
    cases hg : look GL g with
    | none => simp [hg] at h
    | some ps =>
      simp [hg] at h; subst h
      obtain ⟨hI, hc⟩ := hs.gl g ps hg
      exact ⟨_, rfl, g, 0, rfl, hI, fun j p hp => by simpa using hc j p hp⟩

theorem run_isAgg {t : TypeId} {b : Bool} (h : aggT P t = some b) (w : World) : (isAgg t).run P w = .ok b w := by
  unfold aggT at h
  cases hu : P.underlying t with
  | none => simp [hu] at h
  | some d =>
    rw [hu] at h
    simp only [isAgg, Sem.run_bind, run_underlying hu, Result.andThen_ok]
    cases d <;> simp at h <;> subst h <;> rfl

theorem run_sizeT {t : TypeId} {n : Nat} (h : sizeT P t = some n) (w : World) : (sizeOf t).run P w = .ok n w := by
  unfold sizeT at h
  cases hi : P.info? t with
  | none => simp [hi] at h
  | some i => simp [hi] at h; subst h; simp [sizeOf, typeInfo, hi]

theorem run_info {t : TypeId} {i : TypeInfo} (h : P.info? t = some i) (w : World) : (typeInfo t).run P w = .ok i w := by
  simp [typeInfo, h]

theorem addr_add (b o n : Nat) : (⟨b, o, none⟩ : Addr).add n = ⟨b, o + n, none⟩ := by
  unfold Addr.add; split <;> simp_all

/-- what a part is, of cells that stand in memory one behind the other -/
theorem partA_load {t : TypeId} {cs : List AC} {j : Nat} {x : AT} (h : partA P t cs j = some x) {b o : Nat}
    (hc : ∀ (k : Nat) (c : AC), cs[k]? = some c → ∃ v, w.cell? ⟨b, o + k, none⟩ = some v ∧ ACr w I G (shape st.os) c v) :
    ∃ v, (loadVar t ⟨b, o + j, none⟩).run P w = .ok v w ∧ ATr w I G (shape st.os) x v := by
  unfold partA at h
  split at h
  · rename_i n ha hn
    split at h
    · rename_i hl
      cases h
      have hl' : ((cs.drop j).take n).length = n := Nat.eq_of_beq_eq_true hl
      have hget : ∀ k, k < n → ∃ c, cs[j + k]? = some c ∧ ((cs.drop j).take n)[k]? = some c := by
        intro k hk
        have hk' : k < ((cs.drop j).take n).length := by omega
        refine ⟨((cs.drop j).take n)[k], ?_, List.getElem?_eq_getElem hk'⟩
        have := List.getElem?_eq_getElem hk'
        rw [List.getElem?_take_of_lt hk, List.getElem?_drop] at this
        exact this
      have hval : ∀ k, k < n → ∃ v, w.cell? ⟨b, o + j + k, none⟩ = some v ∧ ∀ c, cs[j + k]? = some c → ACr w I G (shape st.os) c v := by
        intro k hk
        obtain ⟨c, h1, _⟩ := hget k hk
        obtain ⟨v, hv, hr⟩ := hc (j + k) c h1
        exact ⟨v, by rw [Nat.add_assoc]; exact hv, fun c' hc' => by rw [h1] at hc'; cases hc'; exact hr⟩
      let f : Nat → Value := fun k => (w.cell? ⟨b, o + j + k, none⟩).getD undef
      have hf : ∀ k, k < n → w.cell? ⟨b, o + j + k, none⟩ = some (f k) := by
        intro k hk; obtain ⟨v, hv, _⟩ := hval k hk; simp [f, hv]
      have hrun := run_loadCells (P := P) w ⟨b, o + j, none⟩ n f (fun k hk => by rw [addr_add]; exact hf k hk)
      refine ⟨.agg ((List.range n).map f).toArray, ?_, ?_⟩
      · simp only [loadVar, Sem.run_bind, run_isAgg ha, Result.andThen_ok, if_true, run_sizeT hn, hrun, Sem.run_pure]
      · refine ⟨(List.range n).map f, rfl, CSr.of (by simp [hl']) (fun k c v h1 h2 => ?_)⟩
        have hk : k < n := by
          have := (List.getElem?_eq_some_iff.1 h1).1; omega
        obtain ⟨c', h3, h4⟩ := hget k hk
        rw [h4] at h1; cases h1
        obtain ⟨u, hu, hr⟩ := hval k hk
        have : f k = u := by simp [f, hu]
        simp [List.getElem?_map, List.getElem?_range hk] at h2
        subst h2; rw [this]; exact hr _ h3
    · cases h
  · rename_i ha hn
    split at h
    · rename_i c hcj
      cases h
      obtain ⟨v, hv, hr⟩ := hc j c hcj
      refine ⟨v, ?_, c, rfl, hr⟩
      simp [loadVar, run_isAgg ha, hv]
    · cases h
  · cases h

theorem partA_part {t : TypeId} {cs : List AC} {vs : List Value} {j : Nat} {x : AT} (h : partA P t cs j = some x) (hc : CSr w I G (shape st.os) cs vs) :
    ∃ v, (part t ⟨vs⟩ j).run P w = .ok v w ∧ ATr w I G (shape st.os) x v := by
  have hlen := hc.length
  unfold partA at h
  split at h
  · rename_i n ha hn
    split at h
    · rename_i hl
      cases h
      refine ⟨.agg ⟨(vs.drop j).take n⟩, ?_, (vs.drop j).take n, rfl, CSr.of (by simp [hlen]) (fun k c v h1 h2 => ?_)⟩
      · simp only [part, Sem.run_bind, run_isAgg ha, Result.andThen_ok, if_true, run_sizeT hn, Sem.run_pure]
        congr 2
        simp [List.extract_eq_take_drop]
      · have hk : k < n := by
          have := (List.getElem?_eq_some_iff.1 h1).1; simp at this; omega
        rw [List.getElem?_take_of_lt hk, List.getElem?_drop] at h1 h2
        obtain ⟨u, hu, hr⟩ := hc.get _ _ h1
        rw [hu] at h2; cases h2; exact hr
    · cases h
  · rename_i ha hn
    split at h
    · rename_i c hcj
      cases h
      obtain ⟨v, hv, hr⟩ := hc.get j c hcj
      refine ⟨v, ?_, c, rfl, hr⟩
      simp [part, run_isAgg ha, hv]
    · cases h
  · cases h
end Go.AL
