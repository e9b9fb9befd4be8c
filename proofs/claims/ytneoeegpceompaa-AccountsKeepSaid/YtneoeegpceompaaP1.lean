/-
Plain laws of accounts: one account set; what is drawn is right.
-/
import Derived.Test.YtneoeegpceompaaD
set_option linter.unusedVariables false
set_option linter.unusedSimpArgs false
namespace Go.Proofs.Ytneoeegpceompaa.Pl

theorem idx_set {α : Type} {p : α → Bool} {l : List α} {k : Nat} {a a' : α} (hk : l[k]? = some a) (h : p a' = p a) : idx p (l.set k a') = idx p l := by
  induction l generalizing k with
  | nil => simp at hk
  | cons x r ih =>
    cases k with
    | zero => simp at hk; subst hk; simp [idx, h]
    | succ k => simp only [List.set_cons_succ, idx, ih (by simpa using hk)]

theorem chkA_set {l : List Acct} {k : Nat} {a a' : Acct} (h : chkA l = 0) (hk : l[k]? = some a) (hid : a'.id = a.id) (hok : acctOk a' = true) : chkA (l.set k a') = 0 := by
  have hl := chkA_len h
  refine chkA_ok (by rw [List.length_set]; omega) fun j hj x hx => ?_
  have hg := (goodA_at l).1 (chkA_good h)
  by_cases e : k = j
  · subst e
    have hlt := (List.getElem?_eq_some_iff.1 hk).1
    rw [List.getElem?_set_self hlt] at hx
    injection hx with hx
    subst hx
    refine ⟨hok, fun p hp hpp => ?_⟩
    rw [List.getElem?_set_ne (by omega)] at hpp
    rw [hid]; exact (hg k a hk).2 p hp hpp
  · rw [List.getElem?_set_ne e] at hx
    refine ⟨(hg j x hx).1, fun p hp hpp => ?_⟩
    by_cases e2 : k = j - 1
    · subst e2
      have hlt := (List.getElem?_eq_some_iff.1 hk).1
      rw [List.getElem?_set_self hlt] at hpp
      injection hpp with hpp
      subst hpp
      rw [hid]; exact (hg j x hx).2 a hp hk
    · rw [List.getElem?_set_ne e2] at hpp
      exact (hg j x hx).2 p hp hpp

theorem sumA_set {l : List Acct} {k : Nat} {a a' : Acct} (hk : l[k]? = some a) : ((l.set k a').map (·.bal)).sum = (l.map (·.bal)).sum - a.bal + a'.bal := by
  induction l generalizing k with
  | nil => simp at hk
  | cons x r ih =>
    cases k with
    | zero => simp at hk; subst hk; simp; omega
    | succ k => simp only [List.set_cons_succ, List.map_cons, List.sum_cons, ih (by simpa using hk)]; omega

theorem hasA_place {l : List Acct} {i : Int} (h : hasA l i = true) : 0 ≤ placeA l i := by
  by_cases hp : 0 ≤ placeA l i
  · exact hp
  · rw [(findA_no (by omega)).2] at h; cases h

/-- A change of one account that doesn't refuse. -/
theorem chgA_yes {l : List Acct} {i : Int} {f : Acct → Acct × Int} (h : chkA l = 0) (hi : hasA l i = true) (hf : (f (findA l i)).2 = 0) (hid : (f (findA l i)).1.id = (findA l i).id) (hok : acctOk (f (findA l i)).1 = true) :
    (chgA l i f).2 = 0 ∧ chkA (chgA l i f).1 = 0 ∧ hasA (chgA l i f).1 i = true ∧ findA (chgA l i f).1 i = (f (findA l i)).1 ∧ (chgA l i f).1.length = l.length ∧ totalA (chgA l i f).1 = totalA l - (findA l i).bal + (f (findA l i)).1.bal := by
  have hp := hasA_place hi
  obtain ⟨a, g1, g2, g3, g4⟩ := findA_yes hp
  have e : chgA l i f = (l.set (placeA l i).toNat (f (findA l i)).1, 0) := by
    unfold chgA; rw [if_pos h, if_neg (by omega), if_pos hf]
  rw [e]
  rw [g3] at hid hok ⊢
  have hc := chkA_set h g1 hid hok
  have hpl : placeA (l.set (placeA l i).toNat (f a).1) i = placeA l i := idx_set (p := fun a : Acct => a.id == i) g1 (by simp [hid])
  obtain ⟨b, b1, b2, b3, b4⟩ := findA_yes (l := l.set (placeA l i).toNat (f a).1) (i := i) (by rw [hpl]; exact hp)
  rw [hpl, List.getElem?_set_self (List.getElem?_eq_some_iff.1 g1).1] at b1
  injection b1 with b1
  subst b1
  refine ⟨rfl, hc, b4, b3, by simp, ?_⟩
  unfold totalA
  rw [if_pos h, if_pos hc]
  exact sumA_set g1
theorem chgA_no {l : List Acct} {i : Int} {f : Acct → Acct × Int} (h : chkA l = 0) (hi : hasA l i = true) (hf : (f (findA l i)).2 ≠ 0) : (chgA l i f).2 = (f (findA l i)).2 := by
  have hp := hasA_place hi
  unfold chgA
  rw [if_pos h, if_neg (by omega), if_neg hf]

/-! ### Begin -/
section
variable {l : List Acct} {i n : Int} (h : chkA l = 0) (hi : hasA l i = true)
include h hi
theorem begin_wrong : (chgA l i (beginF ((findA l i).seq + 2) n)).2 = 68 := by
  have : (beginF ((findA l i).seq + 2) n (findA l i)).2 = 68 := by
    unfold beginF; rw [if_pos (by omega)]
  rw [chgA_no h hi (by omega), this]
theorem begin_old : (chgA l i (beginF (findA l i).seq n)).2 = 68 := by
  have : (beginF (findA l i).seq n (findA l i)).2 = 68 := by
    unfold beginF; rw [if_pos (by omega)]
  rw [chgA_no h hi (by omega), this]
theorem begin_poor (hs : (findA l i).seq < 1000000) (hn : 1 ≤ n ∧ n ≤ 100000) (hb : (findA l i).bal < n) : (chgA l i (beginF ((findA l i).seq + 1) n)).2 = 66 := by
  have : (beginF ((findA l i).seq + 1) n (findA l i)).2 = 66 := by
    unfold beginF; rw [if_neg (by omega), if_neg (by omega), if_pos hb]
  rw [chgA_no h hi (by omega), this]
theorem begin_ok (hs : (findA l i).seq < 1000000) (hn : 1 ≤ n ∧ n ≤ 100000) (hb : ¬ (findA l i).bal < n) :
    (chgA l i (beginF ((findA l i).seq + 1) n)).2 = 0 ∧ chkA (chgA l i (beginF ((findA l i).seq + 1) n)).1 = 0 ∧ hasA (chgA l i (beginF ((findA l i).seq + 1) n)).1 i = true ∧ findA (chgA l i (beginF ((findA l i).seq + 1) n)).1 i = ⟨(findA l i).id, (findA l i).bal - n, (findA l i).seq + 1⟩ ∧
    (chgA l i (beginF ((findA l i).seq + 1) n)).1.length = l.length ∧ totalA (chgA l i (beginF ((findA l i).seq + 1) n)).1 = totalA l - n := by
  have e : beginF ((findA l i).seq + 1) n (findA l i) = (⟨(findA l i).id, (findA l i).bal - n, (findA l i).seq + 1⟩, 0) := by
    unfold beginF; rw [if_neg (by omega), if_neg (by omega), if_neg hb]
  obtain ⟨a, g1, g2, g3, g4⟩ := findA_yes (hasA_place hi)
  have hv := chkA_acct h (List.mem_of_getElem? g1)
  rw [← g3] at hv
  have := chgA_yes (f := beginF ((findA l i).seq + 1) n) h hi (by rw [e]) (by rw [e]) (by rw [e, acctOk_iff]; dsimp only; omega)
  rw [e] at this
  dsimp only at this
  obtain ⟨k1, k2, k3, k4, k5, k6⟩ := this
  exact ⟨k1, k2, k3, k4, k5, by rw [k6]; omega⟩
end
end Go.Proofs.Ytneoeegpceompaa.Pl
