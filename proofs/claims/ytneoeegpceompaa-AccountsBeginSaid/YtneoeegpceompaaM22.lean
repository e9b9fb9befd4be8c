/-
The abstract machine, part 22 (ahead of part 3): a region's operations in another order of the list.
-/
import Derived.Test.YtneoeegpceompaaM2
import Derived.Orders
namespace Go.Proofs.Ytneoeegpceompaa.AM
open Go

variable {P : Program}

/-- An operation whose references are renumbered. -/
def reOper (p : Nat → Nat) (o : Oper) : Oper := { o with after := o.after.map (fun e => { e with on := p e.on }), guard := o.guard.map fun g => (p g.1, g.2) }

/-- The operations of 'ops' stand in 'ops'' at other places. -/
structure Relab (ops ops' : Array Oper) (p : Nat → Nat) : Prop where
  size : ops'.size = ops.size
  lt : ∀ i, i < ops.size → p i < ops.size
  inj : ∀ i j, i < ops.size → j < ops.size → p i = p j → i = j
  at_ : ∀ (i : Nat) (o : Oper), ops[i]? = some o → ops'[p i]? = some (reOper p o)
  back : ∀ (i : Nat) (o : Oper), ops[i]? = some o → ∀ e ∈ o.after.toList, e.on < ops.size
  guards : ∀ (i : Nat) (o : Oper) (g : Nat × Bool), ops[i]? = some o → o.guard = some g → g.1 < ops.size

theorem wp_re {p : Nat → Nat} {o : Oper} {a : Act} {w : World} {K : Act → World → Prop} {Q : Exit → Act → World → Prop} : (reOper p o).wp P a w K Q ↔ o.wp P a w K Q := by
  have : execOp a.eval (reOper p o) = execOp a.eval o := rfl
  unfold Oper.wp
  rw [this]
  rfl

theorem asks_re {p : Nat → Nat} {o : Oper} {a : Act} {w : World} : (reOper p o).asks P a w ↔ o.asks P a w := Iff.rfl

theorem wanted_re {ops ops' : Array Oper} {p : Nat → Nat} (h : Relab ops ops' p) {i : Nat} {o : Oper} (hi : ops[i]? = some o) (tmps : Array Value) : Region.wanted (reOper p o) (yielded ops' tmps) = Region.wanted o (yielded ops tmps) := by
  unfold Region.wanted
  cases hg : o.guard with
  | none => simp [reOper, hg]
  | some g =>
    obtain ⟨j, want⟩ := g
    have hj := h.guards i o (j, want) hi hg
    have hoj : ops[j]? = some (ops[j]'hj) := Array.getElem?_eq_getElem hj
    have := h.at_ j _ hoj
    simp only [reOper, hg, Option.map_some, yielded, this, hoj, Option.bind_some]

theorem ready_mem {md : Region.Mode} {ops : Array Oper} {listed : Array Bool} (hsz : listed.size = ops.size) (i : Nat) : i ∈ Region.ready md ops listed ↔ ∃ o, ops[i]? = some o ∧ listed.getD i false = false ∧ ∀ e ∈ o.after.toList, Region.binds md e = true → listed.getD e.on false = true := by
  unfold Region.ready
  rw [List.mem_filter, List.mem_range]
  constructor
  · rintro ⟨hi, h⟩
    refine ⟨ops[i], Array.getElem?_eq_getElem hi, ?_⟩
    rw [Array.getElem?_eq_getElem hi] at h
    simp only [Bool.and_eq_true, Bool.not_eq_true', Option.map_some, Option.getD_some] at h
    obtain ⟨h1, h2⟩ := h
    refine ⟨by simpa [Array.getD_eq_getD_getElem?, hsz, hi] using h1, fun e he hb => ?_⟩
    have := Array.all_eq_true_iff_forall_mem.1 h2 e (by simpa using he)
    simpa [hb] using this
  · rintro ⟨o, ho, h1, h2⟩
    have hi : i < ops.size := (Array.getElem?_eq_some_iff.1 ho).1
    refine ⟨hi, ?_⟩
    rw [ho]
    simp only [Bool.and_eq_true, Bool.not_eq_true', Option.map_some, Option.getD_some]
    refine ⟨by simpa [Array.getD_eq_getD_getElem?, hsz, hi] using h1, Array.all_eq_true_iff_forall_mem.2 fun e he => ?_⟩
    by_cases hb : Region.binds md e = true
    · rw [h2 e (by simpa using he) hb]; simp
    · simp [hb]

/-- The same, for every order. -/
theorem wpAny_relab {md : Region.Mode} {ops ops' : Array Oper} {p : Nat → Nat} {Q : Exit → Act → World → Prop} (h : Relab ops ops' p) (onto : ∀ j, j < ops.size → ∃ i, i < ops.size ∧ p i = j) : ∀ (fuel : Nat) (listed listed' : Array Bool), listed.size = ops.size → listed'.size = ops.size → (∀ i, i < ops.size → listed'.getD (p i) false = listed.getD i false) →
    ∀ a w, wpAny P md ops' Q fuel listed' a w → wpAny P md ops Q fuel listed a w := by
  have key : ∀ (listed listed' : Array Bool), listed.size = ops.size → listed'.size = ops.size → (∀ i, i < ops.size → listed'.getD (p i) false = listed.getD i false) → ∀ i, i ∈ Region.ready md ops listed → p i ∈ Region.ready md ops' listed' := fun listed listed' h1 h2 hL i hi => by
    obtain ⟨o, ho, h3, h4⟩ := (ready_mem h1 i).1 hi
    have hlt : i < ops.size := (Array.getElem?_eq_some_iff.1 ho).1
    refine (ready_mem (by rw [h2, h.size]) (p i)).2 ⟨reOper p o, h.at_ i o ho, by rw [hL i hlt]; exact h3, fun e he hb => ?_⟩
    simp only [reOper, Array.toList_map, List.mem_map] at he
    obtain ⟨e0, he0, rfl⟩ := he
    rw [hL e0.on (h.back i o ho e0 he0)]
    exact h4 e0 he0 hb
  have key2 : ∀ (listed listed' : Array Bool), listed.size = ops.size → listed'.size = ops.size → (∀ i, i < ops.size → listed'.getD (p i) false = listed.getD i false) → Region.ready md ops listed = [] → Region.ready md ops' listed' = [] := fun listed listed' h1 h2 hL he => by
    cases hr : Region.ready md ops' listed' with
    | nil => rfl
    | cons j r =>
      obtain ⟨o', ho', h3, h4⟩ := (ready_mem (by rw [h2, h.size]) j).1 (by rw [hr]; simp)
      have hj : j < ops.size := by rw [← h.size]; exact (Array.getElem?_eq_some_iff.1 ho').1
      obtain ⟨i, hi, rfl⟩ := onto j hj
      have ho : ops[i]? = some (ops[i]'hi) := Array.getElem?_eq_getElem hi
      have := h.at_ i _ ho
      rw [this] at ho'
      injection ho' with ho'
      subst ho'
      have : i ∈ Region.ready md ops listed := (ready_mem h1 i).2 ⟨_, ho, by rw [← hL i hi]; exact h3, fun e he' hb => by
        rw [← hL e.on (h.back i _ ho e he')]
        exact h4 { e with on := p e.on } (by simp only [reOper, Array.toList_map, List.mem_map]; exact ⟨e, he', rfl⟩) hb⟩
      rw [he] at this; cases this
  intro fuel
  induction fuel with
  | zero =>
    intro listed listed' h1 h2 hL a w hw
    refine ⟨?_, hw.2⟩
    cases hr : Region.ready md ops listed with
    | nil => rfl
    | cons i r =>
      have := key listed listed' h1 h2 hL i (by rw [hr]; simp)
      rw [hw.1] at this; cases this
  | succ fuel ih =>
    intro listed listed' h1 h2 hL a w hw
    refine ⟨fun he => hw.1 (key2 listed listed' h1 h2 hL he), fun i hi => ?_⟩
    obtain ⟨o, ho, h3, h4⟩ := (ready_mem h1 i).1 hi
    have hlt : i < ops.size := (Array.getElem?_eq_some_iff.1 ho).1
    have hop := hw.2 (p i) (key listed listed' h1 h2 hL i hi)
    have hop2 := wpOp_mono (fun a w => ih (listed.setIfInBounds i true) (listed'.setIfInBounds (p i) true) (by simpa using h1) (by simpa using h2) (fun j hj => by
      simp only [Array.getD_eq_getD_getElem?]
      by_cases e : j = i
      · subst e
        have := h.lt j hj
        simp [h1, h2, hlt, this]
      · have e2 : p i ≠ p j := fun e' => e (h.inj _ _ hlt hj e').symm
        rw [Array.getElem?_setIfInBounds_ne e2, Array.getElem?_setIfInBounds_ne (Ne.symm e)]
        have := hL j hj
        simpa [Array.getD_eq_getD_getElem?] using this) a w) hop
    unfold wpOp at hop2 ⊢
    rw [h.at_ i o ho] at hop2
    rw [ho]
    simp only at hop2 ⊢
    rw [wanted_re h ho] at hop2
    exact hop2

/-! ### Sorting -/

def sortOps (ops : Array Oper) (l : List Nat) : Array Oper := (l.map fun i => reOper (fun j => l.idxOf j) (ops.getD i default)).toArray

def sortOk (ops : Array Oper) (l : List Nat) : Bool :=
  l.length == ops.size && (List.range ops.size).all (fun i => l.contains i && l.idxOf (l.getD i ops.size) == i && decide (l.getD i ops.size < ops.size)) &&
  ops.all (fun o => o.after.all (fun e => decide (e.on < ops.size)) && (match o.guard with | some g => decide (g.1 < ops.size) | none => true))

theorem sort_relab {ops : Array Oper} {l : List Nat} (h : sortOk ops l = true) : Relab ops (sortOps ops l) (fun j => l.idxOf j) ∧ ∀ j, j < ops.size → ∃ i, i < ops.size ∧ l.idxOf i = j := by
  simp only [sortOk, Bool.and_eq_true, beq_iff_eq] at h
  obtain ⟨⟨hlen, hall⟩, hops⟩ := h
  have hmem : ∀ i, i < ops.size → i ∈ l ∧ l.idxOf (l.getD i ops.size) = i ∧ l.getD i ops.size < ops.size := fun i hi => by
    have := List.all_eq_true.1 hall i (List.mem_range.2 hi)
    simp only [Bool.and_eq_true, beq_iff_eq, decide_eq_true_eq] at this
    exact ⟨by simpa using this.1.1, this.1.2, this.2⟩
  have hlt : ∀ i, i < ops.size → l.idxOf i < ops.size := fun i hi => by rw [← hlen]; exact List.idxOf_lt_length_iff.2 (hmem i hi).1
  have hget : ∀ i, i < ops.size → l[l.idxOf i]? = some i := fun i hi => by
    rw [List.getElem?_eq_getElem (by rw [hlen]; exact hlt i hi)]
    simp
  have hop : ∀ (i : Nat) (o : Oper), ops[i]? = some o → (∀ e ∈ o.after.toList, e.on < ops.size) ∧ ∀ g, o.guard = some g → g.1 < ops.size := fun i o ho => by
    have := Array.all_eq_true_iff_forall_mem.1 hops o (Array.mem_of_getElem? ho)
    simp only [Bool.and_eq_true] at this
    refine ⟨fun e he => ?_, fun g hg => ?_⟩
    · have h2 := Array.all_eq_true_iff_forall_mem.1 this.1 e (by simpa using he)
      simpa using h2
    · have h2 := this.2
      rw [hg] at h2
      simpa using h2
  refine ⟨⟨by simp [sortOps, hlen], hlt, fun i j hi hj e => ?_, fun i o ho => ?_, fun i o ho => (hop i o ho).1, fun i o g ho hg => (hop i o ho).2 g hg⟩, fun j hj => ⟨l.getD j ops.size, (hmem j hj).2.2, (hmem j hj).2.1⟩⟩
  · have h1 := hget i hi
    have h2 := hget j hj
    rw [e] at h1
    rw [h1] at h2
    injection h2
  · have hi := (Array.getElem?_eq_some_iff.1 ho).1
    simp only [sortOps, List.getElem?_toArray, List.getElem?_map, hget i hi, Option.map_some, Array.getD_eq_getD_getElem?, ho, Option.getD_some]

end Go.Proofs.Ytneoeegpceompaa.AM
