/-
The abstract machine, part 17: regions, in whatever order.
-/
import Derived.Test.YtneoeegpceompaaM16
namespace Go.Proofs.Ytneoeegpceompaa.AM
open Go

variable {P : Program}

/-- What an operation did: its value, what it wrote, what it read. -/
structure Ev where
  v : AV
  wr : Wr
  rd : List Nat
  deriving Inhabited

/-- The operations, one by one as they stand in the text. -/
inductive Trace (P : Program) (nf : Nat → Nat) : Nat → List COper → (Nat → AV) → Mu → List Ev → (Nat → AV) → Mu → Prop
  | nil (i : Nat) (g : Nat → AV) (μ : Mu) : Trace P nf i [] g μ [] g μ
  | cons (i : Nat) (o : COper) (r : List COper) (g : Nat → AV) (μ : Mu) (e : Ev) (l : List Ev) (g' : Nat → AV) (μ' : Mu) (h : Does P (nf i) o g μ e.v e.wr e.rd) (k : Trace P nf (i + 1) r (updO g o.dst e.v) (app μ e.wr) l g' μ') : Trace P nf i (o :: r) g μ (e :: l) g' μ'

def disj (x y : List Nat) : Bool := x.all fun a => !y.contains a

theorem disj_not {x y : List Nat} (h : disj x y = true) {b : Nat} (hb : b ∈ x) : b ∉ y := by
  have := List.all_eq_true.1 h b hb
  simpa using this

def evApart (x y : Ev) : Bool := disj (ids x.wr) y.rd && disj (ids y.wr) x.rd && disj (ids x.wr) (ids y.wr)

def pairsOk (l : List Ev) (pairs : List (Nat × Nat)) : Bool := pairs.all fun p => evApart (l.getD p.1 default) (l.getD p.2 default)

/-! ### The state after some of the operations -/
section
variable (dst : Nat → Option Nat) (E : Nat → Ev) (g0 : Nat → AV) (μ0 : Mu)

def gAt (L : Nat → Bool) : Nat → Nat → AV
  | 0 => g0
  | m + 1 => if L m = true then updO (gAt L m) (dst m) (E m).v else gAt L m

def mAt (L : Nat → Bool) : Nat → Mu
  | 0 => μ0
  | m + 1 => if L m = true then app (mAt L m) (E m).wr else mAt L m

variable {dst E g0 μ0}

theorem gAt_congr {L L' : Nat → Bool} (t : Nat) : ∀ n, (∀ j, j < n → dst j = some t → L j = L' j) → gAt dst E g0 L n t = gAt dst E g0 L' n t := by
  intro n
  induction n with
  | zero => intro _; rfl
  | succ m ih =>
    intro h
    have h1 := ih fun j hj => h j (by omega)
    have step : ∀ L : Nat → Bool, gAt dst E g0 L (m + 1) t = if L m = true ∧ dst m = some t then (E m).v else gAt dst E g0 L m t := fun L => by
      simp only [gAt]
      by_cases hL : L m = true
      · simp only [hL, if_true, true_and]
        cases hd : dst m with
        | none => simp [updO]
        | some d =>
          simp only [updO, upd, Option.some.injEq]
          by_cases e : t = d
          · subst e; simp
          · rw [if_neg e, if_neg (fun e' => e e'.symm)]
      · simp [hL]
    rw [step L, step L', h1]
    by_cases hd : dst m = some t
    · rw [h m (by omega) hd]
    · simp [hd]

theorem mAt_congr {L L' : Nat → Bool} (b : Nat) : ∀ n, (∀ j, j < n → b ∈ ids (E j).wr → L j = L' j) → mAt E μ0 L n b = mAt E μ0 L' n b := by
  intro n
  induction n with
  | zero => intro _; rfl
  | succ m ih =>
    intro h
    have h1 := ih fun j hj => h j (by omega)
    simp only [mAt]
    by_cases hb : b ∈ ids (E m).wr
    · rw [h m (by omega) hb]
      split
      · rw [app_look, app_look, h1]
      · exact h1
    · have : ∀ μ : Mu, app μ (E m).wr b = μ b := fun μ => app_other hb
      split <;> split <;> first | exact h1 | (simp only [this]; exact h1)

theorem app_comm {μ : Mu} {x y : Wr} (h : ∀ b, b ∈ ids x → b ∉ ids y) : app (app μ x) y = app (app μ y) x := by
  funext b
  by_cases hx : b ∈ ids x
  · rw [app_other (h b hx), app_look, app_look _ x, app_other (h b hx)]
  · rw [app_other hx]
    by_cases hy : b ∈ ids y
    · rw [app_look, app_look _ y, app_other hx]
    · rw [app_other hy, app_other hy, app_other hx]

def ins (L : Nat → Bool) (i : Nat) : Nat → Bool := fun j => if j = i then true else L j

theorem gAt_ins {L : Nat → Bool} {i : Nat} (hLi : L i = false) : ∀ n, i < n → (∀ j, i < j → j < n → L j = true → ∀ d, dst i = some d → dst j ≠ some d) → gAt dst E g0 (ins L i) n = updO (gAt dst E g0 L n) (dst i) (E i).v := by
  intro n
  induction n with
  | zero => intro h; omega
  | succ m ih =>
    intro hi h
    by_cases e : i = m
    · subst e
      have h1 : gAt dst E g0 (ins L i) i = gAt dst E g0 L i := funext fun t => gAt_congr t i fun j hj _ => by simp [ins, Nat.ne_of_lt hj]
      simp only [gAt, ins, if_true, hLi, if_false, Bool.false_eq_true]
      rw [← h1]
    · have hm := ih (by omega) fun j h1 h2 => h j h1 (by omega)
      have hne : m ≠ i := fun h => e h.symm
      simp only [gAt, ins, hne, if_false]
      split
      · rename_i hL
        have hdd := h m (by omega) (by omega) hL
        show updO (gAt dst E g0 (ins L i) m) _ _ = _
        rw [hm]
        cases hd : dst i with
        | none => rfl
        | some d =>
          have := hdd d hd
          cases hm' : dst m with
          | none => rfl
          | some d' =>
            have hne' : d' ≠ d := fun e => this (by rw [hm', e])
            funext t
            simp only [updO, upd]
            by_cases h1 : t = d'
            · subst h1; rw [if_pos rfl, if_neg hne', if_pos rfl]
            · simp [h1]
      · exact hm

theorem mAt_ins {L : Nat → Bool} {i : Nat} (hLi : L i = false) : ∀ n, i < n → (∀ j, i < j → j < n → L j = true → ∀ b, b ∈ ids (E i).wr → b ∉ ids (E j).wr) → mAt E μ0 (ins L i) n = app (mAt E μ0 L n) (E i).wr := by
  intro n
  induction n with
  | zero => intro h; omega
  | succ m ih =>
    intro hi h
    by_cases e : i = m
    · subst e
      have h1 : mAt E μ0 (ins L i) i = mAt E μ0 L i := funext fun t => mAt_congr t i fun j hj _ => by simp [ins, Nat.ne_of_lt hj]
      simp only [mAt, ins, if_true, hLi, if_false, Bool.false_eq_true]
      rw [← h1]
    · have hm := ih (by omega) fun j h1 h2 => h j h1 (by omega)
      have hne : m ≠ i := fun h => e h.symm
      simp only [mAt, ins, hne, if_false]
      split
      · rename_i hL
        show app (mAt E μ0 (ins L i) m) _ = _
        rw [hm]
        exact app_comm (h m (by omega) (by omega) hL)
      · exact hm

theorem gAt_lt (i : Nat) : ∀ n, i ≤ n → gAt dst E g0 (fun j => decide (j < i)) n = gAt dst E g0 (fun _ => true) i := by
  intro n
  induction n with
  | zero => intro h; have : i = 0 := by omega
            subst this; rfl
  | succ m ih =>
    intro h
    by_cases e : i = m + 1
    · subst e
      exact funext fun t => gAt_congr t _ fun j hj _ => by simp [hj]
    · simp only [gAt]
      rw [if_neg (by simp; omega)]
      exact ih (by omega)

theorem mAt_lt (i : Nat) : ∀ n, i ≤ n → mAt E μ0 (fun j => decide (j < i)) n = mAt E μ0 (fun _ => true) i := by
  intro n
  induction n with
  | zero => intro h; have : i = 0 := by omega
            subst this; rfl
  | succ m ih =>
    intro h
    by_cases e : i = m + 1
    · subst e
      exact funext fun t => mAt_congr t _ fun j hj _ => by simp [hj]
    · simp only [mAt]
      rw [if_neg (by simp; omega)]
      exact ih (by omega)

end

/-! ### A trace, place by place -/

theorem trace_does {nf : Nat → Nat} {cops : List COper} {l0 : List Ev} {g0 : Nat → AV} {μ0 : Mu} {dst : Nat → Option Nat} (hdst : ∀ j o, cops[j]? = some o → dst j = o.dst) {i : Nat} {r : List COper} {g : Nat → AV} {μ : Mu} {l : List Ev} {g' : Nat → AV} {μ' : Mu} (h : Trace P nf i r g μ l g' μ') :
    r = cops.drop i → l = l0.drop i → g = gAt dst (fun i => l0.getD i default) g0 (fun _ => true) i → μ = mAt (fun i => l0.getD i default) μ0 (fun _ => true) i →
    (∀ j o, i ≤ j → cops[j]? = some o → Does P (nf j) o (gAt dst (fun i => l0.getD i default) g0 (fun _ => true) j) (mAt (fun i => l0.getD i default) μ0 (fun _ => true) j) (l0.getD j default).v (l0.getD j default).wr (l0.getD j default).rd) ∧
    (i ≤ cops.length → g' = gAt dst (fun i => l0.getD i default) g0 (fun _ => true) cops.length ∧ μ' = mAt (fun i => l0.getD i default) μ0 (fun _ => true) cops.length) := by
  induction h with
  | nil i g μ =>
    intro hr hl hg hm
    have hlen : cops.length ≤ i := by
      have := congrArg List.length hr
      simp at this; omega
    refine ⟨fun j o hj ho => ?_, fun hi => ?_⟩
    · have := (List.getElem?_eq_some_iff.1 ho).1; omega
    · have : i = cops.length := by omega
      subst this; exact ⟨hg, hm⟩
  | cons i o r g μ e l g' μ' hd _ ih =>
    intro hr hl hg hm
    have hlt : i < cops.length := by
      have := congrArg List.length hr
      simp at this; omega
    have hi : cops[i]? = some o := by
      have := congrArg (·[0]?) hr
      simpa using this.symm
    have he : l0[i]? = some e := by
      have := congrArg (·[0]?) hl
      simpa using this.symm
    have heD : l0.getD i default = e := by rw [List.getD_eq_getElem?_getD, he]; rfl
    have hr' : r = cops.drop (i + 1) := by
      have := congrArg List.tail hr
      simpa using this
    have hl' : l = l0.drop (i + 1) := by
      have := congrArg List.tail hl
      simpa using this
    obtain ⟨h1, h2⟩ := ih hr' hl' (by simp only [gAt, if_true]; rw [heD, ← hg, hdst i o hi]) (by simp only [mAt, if_true]; rw [heD, ← hm])
    refine ⟨fun j o' hj ho => ?_, fun _ => h2 (by omega)⟩
    by_cases e' : j = i
    · subst e'
      rw [hi] at ho
      injection ho with ho
      subst ho
      rw [heD, ← hg, ← hm]
      exact hd
    · exact h1 j o' (by omega) ho

/-! ### What waits for what -/

theorem predsOf_mem {acc : Array Nat} {o : Oper} {x : Nat} (h : (predsOf acc o).testBit x = true) : ∃ e ∈ o.after.toList, Region.binds .any e = true ∧ (x = e.on ∨ (acc.getD e.on 0).testBit x = true) := by
  have : ∀ (l : List Edge) (s : Nat), (l.foldl (fun s e => if Region.binds .any e then s ||| (2 ^ e.on ||| acc.getD e.on 0) else s) s).testBit x = true → s.testBit x = true ∨ ∃ e ∈ l, Region.binds .any e = true ∧ (x = e.on ∨ (acc.getD e.on 0).testBit x = true) := by
    intro l
    induction l with
    | nil => intro s h; exact .inl h
    | cons e l ih =>
      intro s h
      rcases ih _ h with h1 | ⟨e', he', h2⟩
      · simp only at h1
        by_cases hb : Region.binds .any e = true
        · rw [if_pos hb] at h1
          rw [Nat.testBit_or, Nat.testBit_or, Nat.testBit_two_pow] at h1
          simp only [Bool.or_eq_true, decide_eq_true_eq] at h1
          rcases h1 with h1 | h1 | h1
          · exact .inl h1
          · exact .inr ⟨e, by simp, hb, .inl h1.symm⟩
          · exact .inr ⟨e, by simp, hb, .inr h1⟩
        · rw [if_neg hb] at h1; exact .inl h1
      · exact .inr ⟨e', by simp [he'], h2⟩
  rcases this _ _ h with h1 | h1
  · simp at h1
  · exact h1

theorem preds_go (l : List Oper) : ∀ acc : Array Nat, (∀ j, j < acc.size → (l.foldl (fun acc o => acc.push (predsOf acc o)) acc).getD j 0 = acc.getD j 0) ∧
    ∀ (k : Nat) (o : Oper), l[k]? = some o → ∃ acc' : Array Nat, acc'.size = acc.size + k ∧ (∀ j, j < acc'.size → acc'.getD j 0 = (l.foldl (fun acc o => acc.push (predsOf acc o)) acc).getD j 0) ∧ (l.foldl (fun acc o => acc.push (predsOf acc o)) acc).getD (acc.size + k) 0 = predsOf acc' o := by
  induction l with
  | nil => intro acc; exact ⟨fun _ _ => rfl, fun k o h => by simp at h⟩
  | cons o l ih =>
    intro acc
    obtain ⟨h1, h2⟩ := ih (acc.push (predsOf acc o))
    have hp : ∀ j, j < acc.size → (acc.push (predsOf acc o)).getD j 0 = acc.getD j 0 := fun j hj => by simp [Array.getD_eq_getD_getElem?, Array.getElem?_push_lt, hj]
    refine ⟨fun j hj => ?_, fun k o' hk => ?_⟩
    · simp only [List.foldl_cons]
      rw [h1 j (by simp; omega), hp j hj]
    · cases k with
      | zero =>
        simp at hk; subst hk
        refine ⟨acc, rfl, fun j hj => ?_, ?_⟩
        · simp only [List.foldl_cons]; rw [h1 j (by simp; omega), hp j hj]
        · simp only [List.foldl_cons, Nat.add_zero]
          rw [h1 acc.size (by simp)]
          simp [Array.getD_eq_getD_getElem?]
      | succ k =>
        obtain ⟨acc', a1, a2, a3⟩ := h2 k o' (by simpa using hk)
        refine ⟨acc', by rw [a1]; simp; omega, a2, ?_⟩
        simp only [List.foldl_cons]
        rw [← a3]
        congr 1
        simp; omega

theorem preds_eq (ops : Array Oper) : preds ops = ops.toList.foldl (fun acc o => acc.push (predsOf acc o)) #[] := rfl

/-- What an operation waits for, has come up. -/
theorem preds_closed {ops : Array Oper} (hb : backOk ops = true) {L : Nat → Bool} (hL : ∀ (y : Nat) (o : Oper), ops[y]? = some o → L y = true → ∀ e ∈ o.after.toList, Region.binds .any e = true → L e.on = true) :
    ∀ (n y : Nat) (o : Oper), y < n → ops[y]? = some o → (∀ e ∈ o.after.toList, Region.binds .any e = true → L e.on = true) → ∀ x, ((preds ops).getD y 0).testBit x = true → L x = true := by
  intro n
  induction n with
  | zero => intro y o h; omega
  | succ n ih =>
    intro y o hy ho hd x hx
    obtain ⟨acc', a1, a2, a3⟩ := (preds_go ops.toList #[]).2 y o (by simpa using ho)
    rw [← preds_eq] at a2 a3
    simp only [List.size_toArray, List.length_nil, Nat.zero_add] at a1 a3
    rw [a3] at hx
    obtain ⟨e, he, hbi, hxe⟩ := predsOf_mem hx
    rcases hxe with rfl | hxe
    · exact hd e he hbi
    · have hlt : e.on < y := by
        have h1 := List.all_eq_true.1 hb (o, y) (by rw [List.mem_zipIdx_iff_getElem?]; simpa using ho)
        have h2 := Array.all_eq_true_iff_forall_mem.1 h1 e (by simpa using he)
        simpa [hbi] using h2
      rw [a2 e.on (by omega)] at hxe
      have hys : y < ops.size := (Array.getElem?_eq_some_iff.1 ho).1
      obtain ⟨o', ho'⟩ : ∃ o', ops[e.on]? = some o' := ⟨ops[e.on]'(by omega), Array.getElem?_eq_getElem (by omega)⟩
      exact ih e.on o' (by omega) ho' (hL e.on o' ho' (hd e he hbi)) x hxe

theorem loose_mem {ops : Array Oper} {i j : Nat} (hij : i < j) (hj : j < ops.size) (h : ((preds ops).getD j 0).testBit i = true → False) : (i, j) ∈ loose ops := by
  unfold loose
  refine List.mem_flatMap.2 ⟨j, List.mem_range.2 hj, List.mem_filterMap.2 ⟨i, List.mem_range.2 hij, ?_⟩⟩
  rw [if_neg h]

end Go.Proofs.Ytneoeegpceompaa.AM
