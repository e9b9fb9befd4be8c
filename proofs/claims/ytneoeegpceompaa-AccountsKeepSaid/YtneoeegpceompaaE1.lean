/-
What the source draws is right.
-/
import Derived.Test.YtneoeegpceompaaP1
import Derived.Test.YtneoeegpceompaaB10
set_option linter.unusedVariables false
set_option linter.unusedSimpArgs false
namespace Go.Proofs.Ytneoeegpceompaa.AM
open Go Go.Proofs Go.Proofs.Ytneoeegpceompaa.Pl

theorem gAcc_get {ts : List Int} {a : Int} (hs : SrcOk ts a) : ∀ (k j : Nat) (x : Acct), (gAcc ts a k).1[j]? = some x → x.id = (j : Int) + 1 ∧ (0 ≤ x.bal ∧ x.bal ≤ 1000) ∧ (0 ≤ x.seq ∧ x.seq ≤ 2)
  | 0, j, x, h => by simp [gAcc] at h
  | k + 1, j, x, h => by
    have h0 := gAcc_ok hs k
    have h1 := dPick_ok (l := bals) h0.1 (by decide)
    have h2 := dN_ok (n := 3) h1.2 (by omega)
    simp only [gAcc] at h
    rw [List.getElem?_append] at h
    split at h
    · exact gAcc_get hs k j x h
    · rename_i hj
      have hj2 : j = (gAcc ts a k).1.length := by
        have := (List.getElem?_eq_some_iff.1 h).1
        simp at this; omega
      subst hj2
      simp at h
      subst h
      have := h1.1
      simp at this
      dsimp only
      rw [h0.2]
      refine ⟨rfl, by omega, by omega⟩

theorem gAcc_chk {ts : List Int} {a : Int} (hs : SrcOk ts a) {k : Nat} (hk : k ≤ 20) : chkA (gAcc ts a k).1 = 0 := by
  have h0 := gAcc_ok hs k
  refine chkA_ok (by omega) fun j hj x hx => ?_
  have hg := gAcc_get hs k j x hx
  refine ⟨(acctOk_iff x).2 (by omega), fun p hp hpp => ?_⟩
  have hg2 := gAcc_get hs k (j - 1) p hpp
  omega

theorem gAcc_has {ts : List Int} {a : Int} (hs : SrcOk ts a) {k : Nat} {i : Int} (hi : 1 ≤ i ∧ i ≤ k) : hasA (gAcc ts a k).1 i = true := by
  have h0 := gAcc_ok hs k
  have hlt : (i - 1).toNat < (gAcc ts a k).1.length := by omega
  have hx := gAcc_get hs k (i - 1).toNat _ (List.getElem?_eq_getElem hlt)
  have hm := List.getElem_mem hlt
  generalize (gAcc ts a k).1[(i - 1).toNat] = x at hx hm
  by_cases hp : 0 ≤ placeA (gAcc ts a k).1 i
  · obtain ⟨_, _, _, _, h⟩ := findA_yes hp; exact h
  · exfalso
    have := (idx_neg (p := fun a : Acct => a.id == i) (show idx _ _ < 0 from by unfold placeA at hp; omega)).2 x hm
    simp at this
    omega

theorem addO_accts (g : Ledg) (s : Int) (x y : Asset) (n u v : Int) (h : (addO g s x y n u v).2.2 = 0) : (addO g s x y n u v).1.accts = g.accts := by
  unfold addO at h ⊢
  repeat' split
  all_goals first | rfl | (simp_all; done)
theorem gOff_accts {ts : List Int} {n : Int} {s : Ledg × Int} : ∀ k, (gOff ts n s k).1.accts = s.1.accts
  | 0 => rfl
  | k + 1 => by
    have ih := gOff_accts (ts := ts) (n := n) (s := s) k
    simp only [gOff, offStep]
    split
    · rename_i h; rw [addO_accts _ _ _ _ _ _ _ h, ih]
    · exact ih

/-- The accounts of a ledger that is drawn. -/
theorem dLedger_accts {ts : List Int} {a : Int} (hs : SrcOk ts a) : ∃ (n : Nat) (a' : Int), (1 ≤ n ∧ n ≤ 5) ∧ SrcOk ts a' ∧ (dLedger ts a).1.accts = (gAcc ts a' n).1 := by
  have hv1 := dN_ok (n := 5) hs (by omega)
  have hv2 := dN_ok (n := 50) hv1.2 (by omega)
  have hv3 := dN_ok (n := 1000) hv2.2 (by omega)
  have hv4 := dRange_ok (lo := 1) (hi := 5) hv3.2 (by omega)
  refine ⟨_, _, ?_, hv4.2, gOff_accts _⟩
  omega
theorem dLedger_ok {ts : List Int} {a : Int} (hs : SrcOk ts a) : SrcOk ts (dLedger ts a).2 := by
  have hv1 := dN_ok (n := 5) hs (by omega)
  have hv2 := dN_ok (n := 50) hv1.2 (by omega)
  have hv3 := dN_ok (n := 1000) hv2.2 (by omega)
  have hv4 := dRange_ok (lo := 1) (hi := 5) hv3.2 (by omega)
  exact gOff_ok (dN_ok (gLines_ok (gAcc_ok hv4.2 _).1 _).1 (by omega)).2 (by omega) _
end Go.Proofs.Ytneoeegpceompaa.AM
