/-
Ledgers that are drawn are right; a line is found by its key.
-/
import Derived.Test.YtneoeegpceompaaP2
import Derived.Test.YtneoeegpceompaaG1
set_option linter.unusedVariables false
set_option linter.unusedSimpArgs false
namespace Go.Proofs.Ytneoeegpceompaa.AM
open Go Go.Proofs Go.Proofs.Ytneoeegpceompaa.Pl

theorem addO_lines (g : Ledg) (s : Int) (x y : Asset) (n u v : Int) (h : (addO g s x y n u v).2.2 = 0) : (addO g s x y n u v).1.lines = g.lines := by
  unfold addO at h ⊢
  repeat' split
  all_goals first | rfl | (simp_all; done)
theorem gOff_lines {ts : List Int} {n : Int} {s : Ledg × Int} : ∀ k, (gOff ts n s k).1.lines = s.1.lines
  | 0 => rfl
  | k + 1 => by
    have ih := gOff_lines (ts := ts) (n := n) (s := s) k
    simp only [gOff, offStep]
    split
    · rename_i h; rw [addO_lines _ _ _ _ _ _ _ h, ih]
    · exact ih
theorem addO_offers (g : Ledg) (s : Int) (x y : Asset) (n u v : Int) (h : (addO g s x y n u v).2.2 = 0) : (addO g s x y n u v).1.offers.length ≤ g.offers.length + 1 := by
  unfold addO at h ⊢
  repeat' split
  all_goals first | (simp; done) | (simp_all; done)
theorem gOff_offers {ts : List Int} {n : Int} {s : Ledg × Int} : ∀ k, (gOff ts n s k).1.offers.length ≤ s.1.offers.length + k
  | 0 => Nat.le_refl _
  | k + 1 => by
    have ih := gOff_offers (ts := ts) (n := n) (s := s) k
    simp only [gOff, offStep]
    split
    · rename_i h; have := addO_offers _ _ _ _ _ _ _ h; omega
    · omega

/-- A ledger that is drawn: its accounts, its lines. -/
theorem dLedger_right {ts : List Int} {a : Int} (hs : SrcOk ts a) : ∃ n : Nat, (1 ≤ n ∧ n ≤ 5) ∧ (dLedger ts a).1.accts.length = n ∧ chkA (dLedger ts a).1.accts = 0 ∧ (∀ i, 1 ≤ i ∧ i ≤ (n : Int) → hasA (dLedger ts a).1.accts i = true) ∧
    (∀ (j : Nat) (x : Acct), (dLedger ts a).1.accts[j]? = some x → x.id = (j : Int) + 1 ∧ (0 ≤ x.bal ∧ x.bal ≤ 1000) ∧ (0 ≤ x.seq ∧ x.seq ≤ 2)) ∧
    chkL (dLedger ts a).1.lines (dLedger ts a).1.accts = 0 ∧ (∀ x ∈ (dLedger ts a).1.lines, drawnL n x) ∧ (dLedger ts a).1.lines.Pairwise befR ∧ (dLedger ts a).1.offers.length ≤ 5 := by
  have hv1 := dN_ok (n := 5) hs (by omega)
  have hv2 := dN_ok (n := 50) hv1.2 (by omega)
  have hv3 := dN_ok (n := 1000) hv2.2 (by omega)
  have hv4 := dRange_ok (lo := 1) (hi := 5) hv3.2 (by omega)
  have ea : (dLedger ts a).1.accts = _ := gOff_accts _
  have el : (dLedger ts a).1.lines = _ := gOff_lines _
  have eo : (dLedger ts a).1.offers.length ≤ _ := gOff_offers _
  rw [ea, el]
  dsimp only at eo ⊢
  generalize dRange ts (dN ts (dN ts (dN ts a 5).2 50).2 1000).2 1 5 = v at hv4 eo ⊢
  obtain ⟨q, a4⟩ := v
  dsimp only at hv4 eo ⊢
  obtain ⟨n, rfl⟩ : ∃ n : Nat, q = (n : Int) := ⟨q.toNat, by omega⟩
  have en : (n : Int).toNat = n := by omega
  rw [en] at eo ⊢
  have hA := gAcc_ok hv4.2 n
  have hL := gLines_ok hA.1 n
  have hK := dN_ok (n := 6) hL.1 (by omega)
  refine ⟨n, by omega, hA.2, gAcc_chk hv4.2 (by omega), fun i hi => gAcc_has hv4.2 hi, fun j x hx => gAcc_get hv4.2 n j x hx, gLines_chk hA.1 (by omega) (gAcc_chk hv4.2 (by omega)) (fun i hi => gAcc_has hv4.2 hi), (gLines_inv hA.1 n).1, (gLines_inv hA.1 n).2, ?_⟩
  simp only [List.length_nil] at eo
  omega

/-- A line is found by its key. -/
theorem key_uniq {l : List Line} (hp : l.Pairwise befR) {x y : Line} (hx : x ∈ l) (hy : y ∈ l) (h1 : y.acc = x.acc) (h2 : y.asset = x.asset) : y = x := by
  obtain ⟨j, hj, rfl⟩ := List.getElem_of_mem hx
  obtain ⟨k, hk, rfl⟩ := List.getElem_of_mem hy
  have hno : ∀ p q : Line, befR p q → p.acc = q.acc → p.asset = q.asset → False := fun p q hb e1 e2 => by
    rcases hb with h | ⟨_, h3, h4⟩
    · omega
    · exact eur_usd (h3.symm.trans (e2.trans h4))
  rcases Nat.lt_trichotomy j k with h | h | h
  · exact (hno _ _ (List.pairwise_iff_getElem.1 hp j k hj hk h) h1.symm h2.symm).elim
  · subst h; rfl
  · exact (hno _ _ (List.pairwise_iff_getElem.1 hp k j hk hj h) h1 h2).elim
theorem findL_self {l : List Line} (hp : l.Pairwise befR) {x : Line} (hx : x ∈ l) : findL l x.acc x.asset = x ∧ hasL l x.acc x.asset = true := by
  have hpl : 0 ≤ placeL l x.acc x.asset := by
    by_cases h : 0 ≤ placeL l x.acc x.asset
    · exact h
    · have := (idx_neg (p := fun y : Line => decide (y.acc = x.acc ∧ y.asset = x.asset)) (show idx _ l < 0 from by unfold placeL at h; omega)).2 x hx
      simp at this
  obtain ⟨y, h1, h2, h3, h4⟩ := findL_yes hpl
  exact ⟨h3.trans (key_uniq hp hx (List.mem_of_getElem? h1) h2.1 h2.2), h4⟩
/-- An account is found by its ID. -/
theorem findA_self {l : List Acct} (hg : ∀ (j : Nat) (x : Acct), l[j]? = some x → x.id = (j : Int) + 1) {j : Nat} {x : Acct} (hx : l[j]? = some x) : findA l x.id = x ∧ hasA l x.id = true := by
  have hpl : 0 ≤ placeA l x.id := by
    by_cases h : 0 ≤ placeA l x.id
    · exact h
    · have := (idx_neg (p := fun a : Acct => a.id == x.id) (show idx _ l < 0 from by unfold placeA at h; omega)).2 x (List.mem_of_getElem? hx)
      simp at this
  obtain ⟨y, h1, h2, h3, h4⟩ := findA_yes hpl
  have e1 := hg _ _ h1
  have e2 := hg _ _ hx
  have : (placeA l x.id).toNat = j := by omega
  rw [this, hx] at h1
  injection h1 with h1
  exact ⟨h3.trans h1.symm, h4⟩
end Go.Proofs.Ytneoeegpceompaa.AM
