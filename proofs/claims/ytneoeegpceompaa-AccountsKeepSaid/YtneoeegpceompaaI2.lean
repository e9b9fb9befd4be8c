/-
The walk, part 25: accounts created: the place by bisection, the account inserted.
-/
import Derived.Test.YtneoeegpceompaaI1
import Derived.Test.YtneoeegpceompaaA7
import Derived.Test.YtneoeegpceompaaB2
import Derived.Test.YtneoeegpceompaaP1
set_option linter.unusedVariables false
set_option linter.unusedSimpArgs false
namespace Go.Proofs.Ytneoeegpceompaa.Pl
/-- The place of an ID among ascending ones. -/
def posA (l : List Acct) (n : Int) : Nat := match l with
  | [] => 0
  | a :: r => if a.id < n then posA r n + 1 else 0
theorem posA_le (l : List Acct) (n : Int) : posA l n ≤ l.length := by
  induction l with
  | nil => simp [posA]
  | cons a r ih => simp only [posA, List.length_cons]; split <;> omega
theorem posA_uniq {l : List Acct} {n : Int} {i : Nat} (hi : i ≤ l.length) (h1 : ∀ k a, k < i → l[k]? = some a → a.id < n) (h2 : ∀ k a, i ≤ k → l[k]? = some a → n ≤ a.id) : i = posA l n := by
  induction l generalizing i with
  | nil => simp at hi; simp [posA, hi]
  | cons a r ih =>
    cases i with
    | zero =>
      have := h2 0 a (by omega) (by simp)
      simp only [posA]; rw [if_neg (by omega)]
    | succ i =>
      have := h1 0 a (by omega) (by simp)
      simp only [posA]; rw [if_pos this]
      rw [← ih (i := i) (by simpa using hi) (fun k b hk hb => h1 (k + 1) b (by omega) (by simpa using hb)) (fun k b hk hb => h2 (k + 1) b (by omega) (by simpa using hb))]
theorem insA_at {l : List Acct} {x : Acct} (h : ∀ a ∈ l, a.id ≠ x.id) : insAt l (posA l x.id) x = insA l x := by
  induction l with
  | nil => rfl
  | cons a r ih =>
    have h0 := h a (by simp)
    simp only [posA, insA]
    by_cases hlt : x.id < a.id
    · rw [if_neg (by omega), if_pos hlt]; rfl
    · rw [if_pos (by omega), if_neg hlt, ← ih (fun b hb => h b (by simp [hb]))]
      simp [insAt]
theorem asc_lt {l : List Acct} (h : chkA l = 0) {j k : Nat} {a b : Acct} (hjk : j < k) (hj : l[j]? = some a) (hk : l[k]? = some b) : a.id < b.id := by
  have hg := (goodA_at l).1 (chkA_good h)
  induction k generalizing b with
  | zero => omega
  | succ k ih =>
    have hlt := (List.getElem?_eq_some_iff.1 hk).1
    have hc : l[k]? = some (l[k]'(by omega)) := List.getElem?_eq_getElem (by omega)
    have h1 := (hg (k + 1) b hk).2 (l[k]'(by omega)) (by omega) (by rw [Nat.add_sub_cancel]; exact hc)
    by_cases e : j = k
    · subst e; rw [hj] at hc; injection hc with hc; rw [hc]; exact h1
    · have := ih (by omega) hc; omega
end Go.Proofs.Ytneoeegpceompaa.Pl
namespace Go.Proofs.Ytneoeegpceompaa.AM
open Go Go.Proofs Go.Proofs.Ytneoeegpceompaa.Pl

theorem Wp.inu64 {n : Int} {K : Int → Prop} (h1 : 0 ≤ n ∧ n ≤ 18446744073709551615) (h : K n) : Wp .u64 n K := ⟨by
  have : IntKind.u64.wrap n = n := by simp [IntKind.wrap, IntKind.bits, IntKind.signed]; omega
  rw [this]; exact h⟩
theorem Wp.half {n : Int} {K : Int → Prop} (h1 : 0 ≤ n ∧ n ≤ 9223372036854775807) (h : K (n / 2)) : Wp .i64 (n.fdiv (2 ^ (Nat.min (1 : Int).toNat IntKind.u64.bits))) K := by
  refine Wp.eq64 (m := n / 2) ?_ (by omega) h
  show n.fdiv 2 = n / 2
  rw [Int.fdiv_eq_ediv_of_nonneg _ (by omega)]

theorem fs_accounts_Create_1 (N : Nat) (x y z n : Int) (hx : 0 ≤ x ∧ x ≤ 1000) (hn : 0 ≤ n ∧ n ≤ 1000) : FS PP N n_accounts_Create_1 [.agg [aI x, aI y, aI z], aI n] [] (aI (x - n)) [] := by
  refine i_accounts_Create_1.pure (by simp) fun D _ => ?_
  repeat' ((conv => whnf); (first | refine Y.st ?_ | refine Tw.mk (fun _ => ?_) (fun _ => ?_) | fail))
  refine Rt.int rfl

theorem fs_BinarySearch (N : Nat) (l : List Acct) (t : Int) (hc : chkA l = 0) (ht : 1 ≤ t ∧ t ≤ 1000) :
    FS PP N n_slices_BinarySearchFunc_Account [sA l, aI t, .fn n_accounts_Create_1 []] [] (.tup [aI (posA l t), aB (match l[posA l t]? with | some a => decide (a.id = t) | none => false)]) [] := by
  refine i_slices_BinarySearchFunc_Account.pure (by simp) fun D _ => ?_
  have hl := chkA_len hc
  have hid : ∀ a ∈ l, 1 ≤ a.id ∧ a.id ≤ 1000 := fun a ha => (chkA_acct hc ha).1
  repeat' ((conv => whnf); (first | refine Y.st ?_ | refine Tw.mk (fun _ => ?_) (fun _ => ?_) | fail))
  (refine Lp.go [0, 1, 2, 8, 9, 10] [] [] ?_; repeat' ((conv => whnf); (first | refine Y.st ?_ | intro d' hd' | fail)))
  refine l_ind D (σ := Nat × Nat) (fun s => s.2 - s.1) (fun s => s.1 ≤ s.2 ∧ s.2 ≤ l.length ∧ (∀ k a, k < s.1 → l[k]? = some a → a.id < t) ∧ (∀ k a, s.2 ≤ k → l[k]? = some a → t ≤ a.id)) (fun s d => ⟨[(0, sA l), (1, aI t), (2, .fn n_accounts_Create_1 []), (8, aI l.length), (9, aI s.1), (10, aI s.2)], [], d, 0⟩) (fun s hI d hd ih => ?_) (0, l.length) ⟨by simp, by simp, fun k a hk => by simp at hk, fun k a hk ha => by have := (List.getElem?_eq_some_iff.1 ha).1; simp at hk; omega⟩ d' (by omega)
  obtain ⟨i, j⟩ := s
  obtain ⟨h1, h2, h3, h4⟩ := hI
  dsimp only at h1 h2 h3 h4 ih ⊢
  by_cases hlt : i < j
  · have hh : (i + j) / 2 < l.length := by omega
    obtain ⟨a, ha⟩ : ∃ a, l[(i + j) / 2]? = some a := ⟨_, List.getElem?_eq_getElem hh⟩
    have hb := hid a (List.mem_of_getElem? ha)
    have h3' : ∀ k b, k < (i + j) / 2 + 1 → a.id < t → l[k]? = some b → b.id < t := fun k b hk hat hb' => by
      rcases Nat.lt_or_eq_of_le (Nat.lt_succ_iff.1 hk) with h | h
      · have := asc_lt hc h hb' ha; omega
      · subst h; rw [ha] at hb'; injection hb' with e; subst e; exact hat
    have h4' : ∀ k b, (i + j) / 2 ≤ k → t ≤ a.id → l[k]? = some b → t ≤ b.id := fun k b hk hat hb' => by
      rcases Nat.lt_or_eq_of_le hk with h | h
      · have := asc_lt hc h ha hb'; omega
      · subst h; rw [ha] at hb'; injection hb' with e; subst e; exact hat
    repeat' ((conv => whnf); (first | refine Wp.inu64 (by omega) ?_ | refine Wp.half (by omega) ?_ | refine El.mapi ha (by omega) ?_ | ((with_reducible refine Cl.id ?_); (first | refine Y.pu (fs_accounts_Create_1 _ _ _ _ _ (by omega) (by omega)) ?_ | fail)) | refine Y.st ?_ | refine Tw.mk (fun _ => ?_) (fun _ => ?_) | fail))
    · have hat : a.id < t := by omega
      (refine Lp.go [0, 1, 2, 8, 9, 10] [] [] ?_; repeat' ((conv => whnf); (first | refine Y.st ?_ | intro d2 hd2 | fail)))
      have := ih ((i + j) / 2 + 1, j) (by dsimp only; omega) ⟨by dsimp only; omega, h2, fun k b hk hb' => h3' k b hk hat hb', h4⟩ d2 (by omega)
      rw [show (((((i + j) / 2 + 1, j) : Nat × Nat).1 : Nat) : Int) = ((i : Int) + (j : Int)) / 2 + 1 by dsimp only; omega] at this
      exact this
    · have hat : t ≤ a.id := by omega
      (refine Lp.go [0, 1, 2, 8, 9, 10] [] [] ?_; repeat' ((conv => whnf); (first | refine Y.st ?_ | intro d2 hd2 | fail)))
      have := ih (i, (i + j) / 2) (by dsimp only; omega) ⟨by dsimp only; omega, by dsimp only; omega, h3, fun k b hk hb' => h4' k b hk hat hb'⟩ d2 (by omega)
      rw [show ((((i, (i + j) / 2) : Nat × Nat).2 : Nat) : Int) = ((i : Int) + (j : Int)) / 2 by dsimp only; omega] at this
      exact this
  · obtain rfl : i = j := by omega
    have hp := posA_uniq h2 h3 h4
    rw [← hp]
    by_cases hn : i < l.length
    · obtain ⟨a, ha⟩ : ∃ a, l[i]? = some a := ⟨_, List.getElem?_eq_getElem hn⟩
      have hb := hid a (List.mem_of_getElem? ha)
      rw [ha]
      repeat' ((conv => whnf); (first | refine El.mapi ha (by omega) ?_ | ((with_reducible refine Cl.id ?_); (first | refine Y.pu (fs_accounts_Create_1 _ _ _ _ _ (by omega) (by omega)) ?_ | fail)) | refine Y.st ?_ | refine Tw.mk (fun _ => ?_) (fun _ => ?_) | fail))
      refine Rt.eq ?_
      have : (a.id - t == 0) = decide (a.id = t) := by rw [Bool.eq_iff_iff]; simp; omega
      rw [this]
    · rw [List.getElem?_eq_none (by omega)]
      repeat' ((conv => whnf); (first | refine Y.st ?_ | refine Tw.mk (fun _ => ?_) (fun _ => ?_) | fail))
      exact Rt.eq rfl

theorem fs_accounts_Create (N : Nat) (l : List Acct) (i b : Int) (hl : l.length ≤ 1000000) : FS PP N n_accounts_Create [sA l, aI i, aI b] [] (.tup [sA (createA l i b).1, aI (createA l i b).2]) [] := by
  refine i_accounts_Create.pure (by simp) fun D _ => ?_
  unfold createA
  by_cases h0 : chkA l = 0
  rotate_left
  · rw [if_pos h0]
    have hr : rightA l = 74 := by simp [rightA, h0]
    repeat' ((conv => whnf); (first | ((with_reducible refine Cl.id ?_); (first | refine Y.pu (fs_accounts_right _ l) ?_ | fail)) | refine Y.st ?_ | refine Tw.mk (fun _ => ?_) (fun _ => ?_) | fail))
    (exact Rt.vlt Y.vt)
  rw [if_neg (not_not_intro h0)]
  have hr : rightA l = 0 := by simp [rightA, h0]
  have hlen := chkA_len h0
  by_cases h1 : 1 ≤ i ∧ i ≤ 1000
  rotate_left
  · rw [if_pos (.inl h1)]
    repeat' ((conv => whnf); (first | ((with_reducible refine Cl.id ?_); (first | refine Y.pu (fs_accounts_right _ l) ?_ | refine Y.pu (fs_accounts_id _ _) ?_ | fail)) | refine Y.st ?_ | refine Tw.mk (fun _ => ?_) (fun _ => ?_) | fail))
    (exact Rt.vlt Y.vt)
  by_cases h2 : 0 ≤ placeA l i
  · rw [if_pos (.inr h2)]
    repeat' ((conv => whnf); (first | ((with_reducible refine Cl.id ?_); (first | refine Y.pu (fs_accounts_right _ l) ?_ | refine Y.pu (fs_accounts_id _ _) ?_ | refine Y.pu (fs_accounts_place _ l i hl) ?_ | fail)) | refine Y.st ?_ | refine Tw.mk (fun _ => ?_) (fun _ => ?_) | fail))
    (exact Rt.vlt Y.vt)
  rw [if_neg (by simp only [not_or, Decidable.not_not]; exact ⟨h1, h2⟩)]
  cases h3 : validAmt b with
  | false =>
    rw [if_pos rfl]
    repeat' ((conv => whnf); (first | ((with_reducible refine Cl.id ?_); (first | refine Y.pu (fs_accounts_right _ l) ?_ | refine Y.pu (fs_accounts_id _ _) ?_ | refine Y.pu (fs_accounts_place _ l i hl) ?_ | refine Y.pu (fs_amount_Valid _ _) ?_ | fail)) | refine Y.st ?_ | refine Tw.mk (fun _ => ?_) (fun _ => ?_) | fail))
    (exact Rt.vlt Y.vt)
  | true =>
    rw [if_neg (by simp)]
    by_cases h4 : l.length = 20
    · rw [if_pos h4]
      repeat' ((conv => whnf); (first | ((with_reducible refine Cl.id ?_); (first | refine Y.pu (fs_accounts_right _ l) ?_ | refine Y.pu (fs_accounts_id _ _) ?_ | refine Y.pu (fs_accounts_place _ l i hl) ?_ | refine Y.pu (fs_amount_Valid _ _) ?_ | fail)) | refine Y.st ?_ | refine Tw.mk (fun _ => ?_) (fun _ => ?_) | fail))
      (exact Rt.vlt Y.vt)
    · rw [if_neg h4]
      have hI := fun N b' vb hne => fs_slices_Insert_Account N b' vb l (posA l i) ⟨i, b, 0⟩ (posA_le l i) (by omega) hne
      rw [insA_at (x := ⟨i, b, 0⟩) (fun a ha he => by
        have := (idx_neg (p := fun a : Acct => a.id == i) (show idx _ l < 0 from by unfold placeA at h2; omega)).2 a ha
        simp at this; exact this he)] at hI
      repeat' ((conv => whnf); (first | ((with_reducible refine Cl.id ?_); (first | refine Y.pu (fs_accounts_right _ l) ?_ | refine Y.pu (fs_accounts_id _ _) ?_ | refine Y.pu (fs_accounts_place _ l i hl) ?_ | refine Y.pu (fs_amount_Valid _ _) ?_ | refine Y.pu (fs_BinarySearch _ l i h0 h1) ?_ | refine Y.new (fs_slices_Clone_Account _ l hl) ?_ | (refine Y.del2 (hI _ _ _ (by exact Y.ne)) ?_ ?_ ?_; exact Y.lk; exact Y.lk) | fail)) | refine Y.st ?_ | refine Tw.mk (fun _ => ?_) (fun _ => ?_) | fail))
      (exact Rt.vlt Y.vt)
end Go.Proofs.Ytneoeegpceompaa.AM
