/-
Plain laws of crediting and debiting ledgers that are right.
-/
import Derived.Test.YtneoeegpceompaaP4
set_option linter.unusedVariables false
set_option linter.unusedSimpArgs false
namespace Go.Proofs.Ytneoeegpceompaa.AM
open Go Go.Proofs Go.Proofs.Ytneoeegpceompaa.Pl

section
variable {g : Ledg} {i n : Int} {s : Asset}
theorem chkC_zero (hR : rightG g = true) (hs : assetOk s = true) (hi : hasA g.accts i = true) (hn : validAmt n = true) : chkC g i s n = 0 := by
  unfold chkC; simp [*]
theorem right_chk (hR : rightG g = true) : chkL g.lines g.accts = 0 := by simpa [rightG] using hR
theorem look_bounds (hR : rightG g = true) : (0 ≤ (lookF g.accts g.lines i s).1 ∧ (lookF g.accts g.lines i s).1 ≤ 1000000000000) ∧ 0 ≤ (lookF g.accts g.lines i s).2.1 ∧ (lookF g.accts g.lines i s).2.1 ≤ 1000000000000 := by
  have hL := right_chk hR
  have h1 := findA_bounds (chkL_len hL).2.1 i
  have h2 := findL_bounds hL i s
  unfold lookF
  split
  · split
    · dsimp only; omega
    · split
      · dsimp only; omega
      · dsimp only; omega
  · dsimp only; omega
theorem own_line (hR : rightG g = true) (h : hasL g.lines i s = true) : nativeA s = false ∧ s.issuer ≠ i := by
  obtain ⟨h1, h2, h3⟩ := findL_mem h
  have := chkL_line (right_chk hR) h1
  rw [h2, h3] at this
  exact ⟨this.2.2.1, this.2.2.2.1⟩
theorem found_iff (hi : hasA g.accts i = true) (hs : assetOk s = true) : (lookF g.accts g.lines i s).2.2 = true ↔ hasL g.lines i s = true ∨ s.issuer = i ∨ nativeA s = true := by
  cases hn : nativeA s with
  | true => rw [look_native hi hs hn]; simp
  | false =>
    by_cases he : s.issuer = i
    · rw [look_issuer hi hs hn he]; simp [he]
    · rw [look_line hi hs hn he]; simp [he]

theorem credit_iff (hc : chkC g i s n = 0) : (creditF g i s n).2 = 0 ↔ (lookF g.accts g.lines i s).2.2 = true ∧ n ≤ (lookF g.accts g.lines i s).2.1 := by
  unfold creditF
  rw [if_pos hc]
  by_cases h1 : (lookF g.accts g.lines i s).2.2 = false ∨ ((lookF g.accts g.lines i s).2.1 < n ∧ nativeA s = false)
  · rw [if_pos h1]
    constructor
    · intro h; cases h
    · rintro ⟨h2, h3⟩
      rcases h1 with h1 | h1
      · rw [h1] at h2; cases h2
      · omega
  · rw [if_neg h1]
    simp only [not_or, Bool.not_eq_false] at h1
    by_cases h2 : (lookF g.accts g.lines i s).2.1 < n
    · rw [if_pos h2]
      constructor
      · intro h; cases h
      · rintro ⟨_, h3⟩; omega
    · rw [if_neg h2]; exact ⟨fun _ => ⟨h1.1, by omega⟩, fun _ => rfl⟩
theorem debit_iff (hc : chkC g i s n = 0) : (debitF g i s n).2 = 0 ↔ (lookF g.accts g.lines i s).2.2 = true ∧ n ≤ (lookF g.accts g.lines i s).1 := by
  unfold debitF
  rw [if_pos hc]
  by_cases h1 : (lookF g.accts g.lines i s).2.2 = false
  · rw [if_pos h1]
    constructor
    · intro h; cases h
    · rintro ⟨h2, h3⟩; rw [h1] at h2; cases h2
  · rw [if_neg h1]
    simp only [Bool.not_eq_false] at h1
    by_cases h2 : (lookF g.accts g.lines i s).1 < n
    · rw [if_pos h2]
      constructor
      · intro h; cases h
      · rintro ⟨_, h3⟩; omega
    · rw [if_neg h2]; exact ⟨fun _ => ⟨h1, by omega⟩, fun _ => rfl⟩
theorem credit_chk (h : (creditF g i s n).2 = 0) : chkC g i s n = 0 := by
  by_cases hc : chkC g i s n = 0
  · exact hc
  · unfold creditF at h; rw [if_neg hc] at h; exact h
theorem debit_chk (h : (debitF g i s n).2 = 0) : chkC g i s n = 0 := by
  by_cases hc : chkC g i s n = 0
  · exact hc
  · unfold debitF at h; rw [if_neg hc] at h; exact h
theorem credit_eq (h : (creditF g i s n).2 = 0) : creditF g i s n = (addF g i s n, 0) := by
  have hc := credit_chk h
  obtain ⟨h1, h2⟩ := (credit_iff hc).1 h
  unfold creditF
  rw [if_pos hc, if_neg (by rw [h1]; simp; omega), if_neg (by omega)]
theorem debit_eq (h : (debitF g i s n).2 = 0) : debitF g i s n = (addF g i s (0 - n), 0) := by
  have hc := debit_chk h
  obtain ⟨h1, h2⟩ := (debit_iff hc).1 h
  unfold debitF
  rw [if_pos hc, if_neg (by rw [h1]; simp), if_neg (by omega)]
theorem credit_no (h : (creditF g i s n).2 ≠ 0) : (creditF g i s n).1 = zeroG := by
  unfold creditF at h ⊢
  split
  · split
    · rfl
    · split
      · rfl
      · simp_all
  · rfl
theorem debit_no (h : (debitF g i s n).2 ≠ 0) : (debitF g i s n).1 = zeroG := by
  unfold debitF at h ⊢
  split
  · split
    · rfl
    · split
      · rfl
      · simp_all
  · rfl
/-- A credit that is done. -/
theorem credited (h : (creditF g i s n).2 = 0) : Added g i s n := by
  have hc := credit_chk h
  obtain ⟨c1, c2, c3, c4, c5⟩ := chkC_ok hc
  obtain ⟨h1, h2⟩ := (credit_iff hc).1 h
  have hR : rightG g = true := by simpa [rightG] using c1
  have hb := look_bounds (i := i) (s := s) hR
  exact added hR c2 c3 h1 fun _ => ⟨by omega, h2⟩
/-- A debit that is done. -/
theorem debited (h : (debitF g i s n).2 = 0) : Added g i s (0 - n) := by
  have hc := debit_chk h
  obtain ⟨c1, c2, c3, c4, c5⟩ := chkC_ok hc
  obtain ⟨h1, h2⟩ := (debit_iff hc).1 h
  have hR : rightG g = true := by simpa [rightG] using c1
  have hb := look_bounds (i := i) (s := s) hR
  exact added hR c2 c3 h1 fun _ => ⟨by omega, by omega⟩
/-- What was credited is debited back. -/
theorem credit_back (h : (creditF g i s n).2 = 0) : debitF (creditF g i s n).1 i s n = (g, 0) := by
  have hA := credited h
  have hc := credit_chk h
  obtain ⟨c1, c2, c3, c4, c5⟩ := chkC_ok hc
  obtain ⟨h1, h2⟩ := (credit_iff hc).1 h
  have hR : rightG g = true := by simpa [rightG] using c1
  have hb := look_bounds (i := i) (s := s) hR
  rw [credit_eq h]
  dsimp only
  have hc2 : chkC (addF g i s n) i s n = 0 := chkC_zero hA.right c2 (by rw [hA.has]; exact c3) (by simp [validAmt]; omega)
  have hz : (debitF (addF g i s n) i s n).2 = 0 := by
    rw [debit_iff hc2, hA.look]
    by_cases hq : nativeA s = true ∨ s.issuer ≠ i
    · rw [if_pos ⟨⟨rfl, rfl⟩, hq⟩]; exact ⟨rfl, by dsimp only; omega⟩
    · rw [if_neg (fun h => hq h.2)]
      simp only [not_or, Bool.not_eq_true, ne_eq, Decidable.not_not] at hq
      rw [look_issuer c3 c2 hq.1 hq.2]
      exact ⟨rfl, by dsimp only; omega⟩
  rw [debit_eq hz, hA.back]
end
theorem right_bals {g : Ledg} (hR : rightG g = true) : ∀ x ∈ g.lines, 0 ≤ x.bal ∧ x.bal ≤ 1000000000000 := fun x hx => by
  have := chkL_line (right_chk hR) hx; omega
theorem right_lens {g : Ledg} (hR : rightG g = true) : g.accts.length ≤ 1000000 ∧ g.lines.length ≤ 1000000 := by
  have h := chkL_len (right_chk hR)
  have := chkA_len h.2.1
  omega
theorem issued_bd {g : Ledg} (hR : rightG g = true) (s : Asset) : 0 ≤ issued g.lines s ∧ issued g.lines s ≤ 60000000000000 := by
  have h := issued_le (right_bals hR) s g.lines.length
  have := (chkL_len (right_chk hR)).1
  rw [List.take_length] at h
  omega
end Go.Proofs.Ytneoeegpceompaa.AM
