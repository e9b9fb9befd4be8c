/-
The abstract machine, part 18: a region, whatever its order.
-/
import Derived.Test.YtneoeegpceompaaM17
namespace Go.Proofs.Ytneoeegpceompaa.AM
open Go

variable {P : Program}

def rem (L : Nat → Bool) : Nat → Nat
  | 0 => 0
  | m + 1 => rem L m + (if L m = true then 0 else 1)

theorem rem_congr {L L' : Nat → Bool} : ∀ m, (∀ j, j < m → L j = L' j) → rem L m = rem L' m := by
  intro m
  induction m with
  | zero => intro _; rfl
  | succ m ih => intro h; simp only [rem]; rw [ih fun j hj => h j (by omega), h m (by omega)]

theorem rem_ins {L : Nat → Bool} {i : Nat} (hL : L i = false) : ∀ m, i < m → rem (ins L i) m + 1 = rem L m := by
  intro m
  induction m with
  | zero => intro h; omega
  | succ m ih =>
    intro h
    simp only [rem]
    by_cases e : i = m
    · subst e
      rw [rem_congr (L := ins L i) (L' := L) i fun j hj => by simp [ins, Nat.ne_of_lt hj]]
      simp [ins, hL]
    · have := ih (by omega)
      have h2 : ins L i m = L m := by simp [ins]; intro h; exact absurd h.symm e
      rw [h2]
      omega

theorem rem_zero {L : Nat → Bool} : ∀ m, rem L m = 0 → ∀ j, j < m → L j = true := by
  intro m
  induction m with
  | zero => intro _ j hj; omega
  | succ m ih =>
    intro h j hj
    simp only [rem] at h
    by_cases hL : L m = true
    · by_cases e : j = m
      · subst e; exact hL
      · exact ih (by omega) j (by omega)
    · simp [hL] at h

def frL (F : Fr) (d N n : Nat) (L : Nat → Bool) (b : Nat) : Prop := nbr F.N b ∨ ∃ k, N ≤ k ∧ nbr (nm d k) b ∧ ∀ i, i < n → L i = true → k ≠ N + i

section
variable {ops : Array Oper} {F : Fr} {d N : Nat} {dst : Nat → Option Nat} {E : Nat → Ev} {g0 : Nat → AV} {μ0 : Mu} {Q : Exit → Act → World → Prop}

theorem guards_spec (h : guardsOk ops = true) {i : Nat} {o : Oper} (ho : ops[i]? = some o) : GuardOk ops o := fun j want hg => by
  have := Array.all_eq_true_iff_forall_mem.1 h o (Array.mem_of_getElem? ho)
  simpa [hg] using this

theorem dsts_spec {nt : Nat} (h : dstsOk nt ops = true) {i : Nat} {o : Oper} (ho : ops[i]? = some o) {d : Nat} (hd : o.dst = some d) : d < nt := by
  have := Array.all_eq_true_iff_forall_mem.1 h o (Array.mem_of_getElem? ho)
  simpa [hd] using this

theorem frL_all {n : Nat} {L : Nat → Bool} {b : Nat} (h : frS F d (N + n) b) : frL F d N n L b := by
  rcases h with h | ⟨k, h1, h2⟩
  · exact .inl h
  · exact .inr ⟨k, by omega, h2, fun i hi _ => by omega⟩

/-- One more operation. -/
theorem inv_step (hlow : F.D ≤ d) (hout : ¬ Gar F.D F.N) (h4 : F.N % 4 = 0) (hG : guardsOk ops = true) (hD : dstsOk F.nt ops = true) (hdst : ∀ (j : Nat) (o : Oper), ops[j]? = some o → dst j = o.dst) {L : Nat → Bool} {i : Nat} {o : Oper} (hi : ops[i]? = some o) (hLi : L i = false)
    (hd : Does P (nm d (N + i)) (compOper P ops o) (gAt dst E g0 L ops.size) (mAt E μ0 L ops.size) (E i).v (E i).wr (E i).rd)
    (hg : ∀ j, i < j → j < ops.size → L j = true → ∀ d, dst i = some d → dst j ≠ some d) (hm : ∀ j, i < j → j < ops.size → L j = true → ∀ b, b ∈ ids (E i).wr → b ∉ ids (E j).wr)
    {io : Nat → Option (Option Nat)} {a : Act} {w : World} (hC : ConcF F io (gAt dst E g0 L ops.size) (mAt E μ0 L ops.size) (frL F d N ops.size L) a w) {K : Act → World → Prop}
    (hK : ∀ io' a' w', ConcF F io' (gAt dst E g0 (ins L i) ops.size) (mAt E μ0 (ins L i) ops.size) (frL F d N ops.size (ins L i)) a' w' → K a' w') : wpOp P ops Q i K a w := by
  have hlt : i < ops.size := (Array.getElem?_eq_some_iff.1 hi).1
  have h1 : ∀ b, nbr (nm d (N + i)) b → io b = none := fun b hb => hC.fresh _ (.inr ⟨N + i, by omega, hb, fun j _ hLj e => by
    have : j = i := by omega
    subst this; rw [hLi] at hLj; cases hLj⟩)
  obtain ⟨D, hDf⟩ := hC.top
  have hD' : ∀ b, Gar (max D (d + 1)) b → io b = none := fun b hb => hDf b (hb.mono (by omega))
  have hND : ¬ Gar (max D (d + 1)) (nm d (N + i)) := by rw [gar_nm]; omega
  refine does_wpOp hC.mem hC.tmps (nm4 _ _) h1 hD' hND hi (guards_spec hG hi) (fun j o' d ho' hd' => by rw [hC.size]; exact dsts_spec hD ho' hd') hd fun io' w' a' hs ht hsz hdf => ?_
  refine hK io' a' w' ?_
  rw [gAt_ins hLi ops.size hlt hg, mAt_ins hLi ops.size hlt hm, hdst i o hi]
  refine hC.step hs ht hsz hdf (fun b hb => ?_) (fun b hb => by
    rcases hb with hb | hb
    · exact (gar_nbr hb).2 hlow
    · exact hb.mono (by omega))
  rcases hb with hb | ⟨k, hk, hb1, hb2⟩
  · exact ⟨.inl hb, fun h => gar_of h4 hout hb (by
      rcases h with h | h
      · rw [gar_nbr h]; exact hlow
      · exact h.mono (by omega))⟩
  · refine ⟨.inr ⟨k, hk, hb1, fun j hj hLj => hb2 j hj (by simp only [ins]; split; rfl; exact hLj)⟩, fun h => ?_⟩
    rcases h with h | h
    · exact hb2 i hlt (by simp [ins]) (nbr_nm hb1 h).2
    · rw [gar_nbr hb1] at h; omega

theorem ins_lt (i : Nat) : ins (fun j => decide (j < i)) i = fun j => decide (j < i + 1) := by
  funext j
  simp only [ins]
  split
  · rename_i h; subst h; simp
  · rename_i h
    by_cases h1 : j < i
    · simp [h1]; omega
    · simp [h1]; omega

/-- In the text's order. -/
theorem run_text (hlow : F.D ≤ d) (hout : ¬ Gar F.D F.N) (h4 : F.N % 4 = 0) (hG : guardsOk ops = true) (hD : dstsOk F.nt ops = true) (hdst : ∀ (j : Nat) (o : Oper), ops[j]? = some o → dst j = o.dst)
    (hE : ∀ (i : Nat) (o : Oper), ops[i]? = some o → Does P (nm d (N + i)) (compOper P ops o) (gAt dst E g0 (fun j => decide (j < i)) ops.size) (mAt E μ0 (fun j => decide (j < i)) ops.size) (E i).v (E i).wr (E i).rd)
    (hQ : ∀ io a w, ConcF F io (gAt dst E g0 (fun _ => true) ops.size) (mAt E μ0 (fun _ => true) ops.size) (frS F d (N + ops.size)) a w → Q .normal a w) :
    ∀ (m i : Nat), i + m = ops.size → ∀ io a w, ConcF F io (gAt dst E g0 (fun j => decide (j < i)) ops.size) (mAt E μ0 (fun j => decide (j < i)) ops.size) (frL F d N ops.size (fun j => decide (j < i))) a w → wpOps P ops Q (List.range' i m) a w := by
  intro m
  induction m with
  | zero =>
    intro i hi io a w hC
    have : i = ops.size := by omega
    subst this
    simp only [List.range'_zero, wpOps]
    rw [gAt_lt _ _ (Nat.le_refl _), mAt_lt _ _ (Nat.le_refl _)] at hC
    exact hQ io a w ⟨hC.mem, hC.tmps, hC.size, hC.defers, fun b hb => hC.fresh b (frL_all hb), hC.heap, hC.own, hC.pre, hC.top, hC.free⟩
  | succ m ih =>
    intro i hi io a w hC
    rw [List.range'_succ, wpOps_cons]
    have ho : ops[i]? = some (ops[i]'(by omega)) := Array.getElem?_eq_getElem (by omega)
    refine inv_step hlow hout h4 hG hD hdst ho (by simp) (hE i _ ho) (fun j hj _ hL => by simp at hL; omega) (fun j hj _ hL => by simp at hL; omega) hC fun io' a' w' hC' => ?_
    rw [ins_lt] at hC'
    exact ih (i + 1) (by omega) io' a' w' hC'

/-- In whatever order. -/
theorem run_any (hlow : F.D ≤ d) (hout : ¬ Gar F.D F.N) (h4 : F.N % 4 = 0) (hG : guardsOk ops = true) (hD : dstsOk F.nt ops = true) (hLo : looseOk ops = true) (hB : backOk ops = true) (hdst : ∀ (j : Nat) (o : Oper), ops[j]? = some o → dst j = o.dst)
    (hE : ∀ (i : Nat) (o : Oper), ops[i]? = some o → Does P (nm d (N + i)) (compOper P ops o) (gAt dst E g0 (fun j => decide (j < i)) ops.size) (mAt E μ0 (fun j => decide (j < i)) ops.size) (E i).v (E i).wr (E i).rd)
    (hA : ∀ i j, (i, j) ∈ loose ops → evApart (E i) (E j) = true)
    (hQ : ∀ io a w, ConcF F io (gAt dst E g0 (fun _ => true) ops.size) (mAt E μ0 (fun _ => true) ops.size) (frS F d (N + ops.size)) a w → Q .normal a w) :
    ∀ (fuel : Nat) (listed : Array Bool), listed.size = ops.size → rem (fun i => listed.getD i false) ops.size ≤ fuel →
      (∀ (y : Nat) (o : Oper), ops[y]? = some o → listed.getD y false = true → ∀ e ∈ o.after.toList, Region.binds .any e = true → listed.getD e.on false = true) →
      ∀ io a w, ConcF F io (gAt dst E g0 (fun i => listed.getD i false) ops.size) (mAt E μ0 (fun i => listed.getD i false) ops.size) (frL F d N ops.size (fun i => listed.getD i false)) a w → wpAny P .any ops Q fuel listed a w := by
  -- all listed
  have fin : ∀ (listed : Array Bool), (∀ j, j < ops.size → listed.getD j false = true) → ∀ io a w, ConcF F io (gAt dst E g0 (fun i => listed.getD i false) ops.size) (mAt E μ0 (fun i => listed.getD i false) ops.size) (frL F d N ops.size (fun i => listed.getD i false)) a w → Q .normal a w := fun listed hall io a w hC => by
    have e1 : gAt dst E g0 (fun i => listed.getD i false) ops.size = gAt dst E g0 (fun _ => true) ops.size := funext fun t => gAt_congr t _ fun j hj _ => hall j hj
    have e2 : mAt E μ0 (fun i => listed.getD i false) ops.size = mAt E μ0 (fun _ => true) ops.size := funext fun t => mAt_congr t _ fun j hj _ => hall j hj
    rw [e1, e2] at hC
    exact hQ io a w ⟨hC.mem, hC.tmps, hC.size, hC.defers, fun b hb => hC.fresh b (frL_all hb), hC.heap, hC.own, hC.pre, hC.top, hC.free⟩
  have hready : ∀ (listed : Array Bool), listed.size = ops.size → ∀ i, i ∈ Region.ready .any ops listed ↔ ∃ o, ops[i]? = some o ∧ listed.getD i false = false ∧ ∀ e ∈ o.after.toList, Region.binds .any e = true → listed.getD e.on false = true := fun listed hsz i => by
    unfold Region.ready
    rw [List.mem_filter, List.mem_range]
    constructor
    · rintro ⟨hi, h⟩
      refine ⟨ops[i], Array.getElem?_eq_getElem hi, ?_⟩
      rw [Array.getElem?_eq_getElem hi] at h
      simp only [Bool.and_eq_true, Bool.not_eq_true', Option.map_some, Option.getD_some] at h
      obtain ⟨h1, h2⟩ := h
      refine ⟨by simpa [Array.getD_eq_getD_getElem?, hsz, hi] using h1, fun e he hb => ?_⟩
      have := Array.all_eq_true_iff_forall_mem.1 h2 e (by simpa using he)
      simpa [hb] using this
    · rintro ⟨o, ho, h1, h2⟩
      have hi : i < ops.size := (Array.getElem?_eq_some_iff.1 ho).1
      refine ⟨hi, ?_⟩
      rw [ho]
      simp only [Bool.and_eq_true, Bool.not_eq_true', Option.map_some, Option.getD_some]
      refine ⟨by simpa [Array.getD_eq_getD_getElem?, hsz, hi] using h1, Array.all_eq_true_iff_forall_mem.2 fun e he => ?_⟩
      by_cases hb : Region.binds .any e = true
      · rw [h2 e (by simpa using he) hb]; simp
      · simp [hb]
  have back : ∀ (y : Nat) (o : Oper), ops[y]? = some o → ∀ e ∈ o.after.toList, Region.binds .any e = true → e.on < y := fun y o ho e he hbi => by
    have h1 := List.all_eq_true.1 hB (o, y) (by rw [List.mem_zipIdx_iff_getElem?]; simpa using ho)
    have h2 := Array.all_eq_true_iff_forall_mem.1 h1 e (by simpa using he)
    simpa [hbi] using h2
  have empty : ∀ (listed : Array Bool), listed.size = ops.size → Region.ready .any ops listed = [] → ∀ j, j < ops.size → listed.getD j false = true := fun listed hsz he j => by
    induction j using Nat.strongRecOn with
    | _ j ih =>
      intro hj
      have ho : ops[j]? = some (ops[j]'hj) := Array.getElem?_eq_getElem hj
      cases hL : listed.getD j false with
      | true => rfl
      | false =>
        have : j ∈ Region.ready .any ops listed := (hready listed hsz j).2 ⟨_, ho, hL, fun e he hbi => ih e.on (back j _ ho e he hbi) (by have := back j _ ho e he hbi; omega)⟩
        rw [he] at this; cases this
  intro fuel
  induction fuel with
  | zero =>
    intro listed hsz hrem hcl io a w hC
    have hall := rem_zero ops.size (Nat.le_zero.1 hrem)
    refine ⟨?_, fin listed hall io a w hC⟩
    cases hr : Region.ready .any ops listed with
    | nil => rfl
    | cons i r =>
      obtain ⟨o, ho, h1, _⟩ := (hready listed hsz i).1 (by rw [hr]; simp)
      have := hall i (Array.getElem?_eq_some_iff.1 ho).1
      rw [h1] at this; cases this
  | succ fuel ih =>
    intro listed hsz hrem hcl io a w hC
    refine ⟨fun he => fin listed (empty listed hsz he) io a w hC, fun i hi => ?_⟩
    obtain ⟨o, ho, hLi, hdeps⟩ := (hready listed hsz i).1 hi
    have hlt : i < ops.size := (Array.getElem?_eq_some_iff.1 ho).1
    -- the pairs that are out of step
    have hl1 : ∀ j, j < i → listed.getD j false = false → (j, i) ∈ loose ops := fun j hj hLj => loose_mem hj hlt fun hp => by
      have := preds_closed hB (L := fun i => listed.getD i false) hcl (i + 1) i o (by omega) ho hdeps j hp
      rw [hLj] at this; cases this
    have hl2 : ∀ j, i < j → j < ops.size → listed.getD j false = true → (i, j) ∈ loose ops := fun j hj hjn hLj => loose_mem hj hjn fun hp => by
      have hoj : ops[j]? = some (ops[j]'hjn) := Array.getElem?_eq_getElem hjn
      have := preds_closed hB (L := fun i => listed.getD i false) hcl (j + 1) j _ (by omega) hoj (hcl j _ hoj hLj) i hp
      rw [hLi] at this; cases this
    have apart : ∀ x y, (x, y) ∈ loose ops → ∀ (ox oy : Oper), ops[x]? = some ox → ops[y]? = some oy → Oper.apart ops ox oy = true := fun x y hxy ox oy hx hy => by
      have := List.all_eq_true.1 hLo (x, y) hxy
      simp only [Array.getD_eq_getD_getElem?, hx, hy, Option.getD_some] at this
      exact this
    have evs : ∀ x y, (x, y) ∈ loose ops → (∀ b, b ∈ ids (E x).wr → b ∉ (E y).rd) ∧ (∀ b, b ∈ ids (E y).wr → b ∉ (E x).rd) ∧ (∀ b, b ∈ ids (E x).wr → b ∉ ids (E y).wr) := fun x y hxy => by
      have := hA x y hxy
      simp only [evApart, Bool.and_eq_true] at this
      exact ⟨fun b hb => disj_not this.1.1 hb, fun b hb => disj_not this.1.2 hb, fun b hb => disj_not this.2 hb⟩
    have hd : Does P (nm d (N + i)) (compOper P ops o) (gAt dst E g0 (fun i => listed.getD i false) ops.size) (mAt E μ0 (fun i => listed.getD i false) ops.size) (E i).v (E i).wr (E i).rd := by
      refine (hE i o ho).congr (guards_spec hG ho) (fun t ht => gAt_congr t _ fun j hj hjd => ?_) (fun b hb => mAt_congr b _ fun j hj hjd => ?_)
      · have hoj : ops[j]? = some (ops[j]'hj) := Array.getElem?_eq_getElem hj
        rw [hdst j _ hoj] at hjd
        by_cases h1 : j < i
        · simp only [h1, decide_true]
          cases hLj : listed.getD j false with
          | true => rfl
          | false => exact absurd ht ((Oper.apart_spec (apart j i (hl1 j h1 hLj) _ _ hoj ho)).1 t hjd)
        · simp only [h1, decide_false]
          cases hLj : listed.getD j false with
          | false => rfl
          | true =>
            have hji : i < j := by
              rcases Nat.lt_or_ge i j with h | h
              · exact h
              · have : j = i := by omega
                subst this; rw [hLi] at hLj; cases hLj
            exact absurd ht ((Oper.apart_spec (apart i j (hl2 j hji hj hLj) _ _ ho hoj)).2.2 t hjd)
      · by_cases h1 : j < i
        · simp only [h1, decide_true]
          cases hLj : listed.getD j false with
          | true => rfl
          | false => exact absurd hb ((evs j i (hl1 j h1 hLj)).1 b hjd)
        · simp only [h1, decide_false]
          cases hLj : listed.getD j false with
          | false => rfl
          | true =>
            have hji : i < j := by
              rcases Nat.lt_or_ge i j with h | h
              · exact h
              · have : j = i := by omega
                subst this; rw [hLi] at hLj; cases hLj
            exact absurd hb ((evs i j (hl2 j hji hj hLj)).2.1 b hjd)
    refine inv_step hlow hout h4 hG hD hdst ho hLi hd (fun j hj hjn hLj d hdi hdj => ?_) (fun j hj hjn hLj b hb => (evs i j (hl2 j hj hjn hLj)).2.2 b hb) hC fun io' a' w' hC' => ?_
    · have hoj : ops[j]? = some (ops[j]'hjn) := Array.getElem?_eq_getElem hjn
      rw [hdst i o ho] at hdi
      rw [hdst j _ hoj] at hdj
      exact (Oper.apart_spec (apart i j (hl2 j hj hjn hLj) _ _ ho hoj)).2.1 d hdi hdj
    · have hL' : ins (fun i => listed.getD i false) i = fun j => (listed.setIfInBounds i true).getD j false := by
        funext j
        simp only [ins, Array.getD_eq_getD_getElem?]
        by_cases e : j = i
        · subst e; simp [hsz, hlt]
        · rw [if_neg e, Array.getElem?_setIfInBounds_ne (Ne.symm e)]
      have hr' := rem_ins (L := fun i => listed.getD i false) hLi ops.size hlt
      rw [hL'] at hC' hr'
      refine ih (listed.setIfInBounds i true) (by simpa using hsz) (by omega) (fun y oy hy hLy e he hb => ?_) io' a' w' hC'
      have h2 := congrFun hL'
      rw [← h2] at hLy ⊢
      simp only [ins] at hLy ⊢
      split
      · rfl
      · split at hLy
        · rename_i _ e2
          subst e2
          rw [ho] at hy
          injection hy with hy
          subst hy
          exact hdeps e he hb
        · exact hcl y oy hy hLy e he hb
end

end Go.Proofs.Ytneoeegpceompaa.AM
