/-
The lines that the source draws are right.
-/
import Derived.Test.YtneoeegpceompaaE1
import Derived.Test.YtneoeegpceompaaB7
set_option linter.unusedVariables false
set_option linter.unusedSimpArgs false
namespace Go.Proofs.Ytneoeegpceompaa.AM
open Go Go.Proofs Go.Proofs.Ytneoeegpceompaa.Pl

/-- A line as it's drawn, of the first m accounts. -/
def drawnL (m : Int) (x : Line) : Prop := (1 ≤ x.acc ∧ x.acc ≤ m) ∧ (x.asset = eur ∨ x.asset = usd) ∧ x.asset.issuer ≠ x.acc ∧ (0 ≤ x.bal ∧ x.bal ≤ 400) ∧ x.bal ≤ x.lim ∧ x.lim ≤ 1000000000000
def befR (p x : Line) : Prop := p.acc < x.acc ∨ p.acc = x.acc ∧ p.asset = eur ∧ x.asset = usd

theorem gLine_inv {ts : List Int} {i : Int} {X : Asset} {s : List Line × Int} (hs : SrcOk ts s.2) (hX : X = eur ∨ X = usd) (hi : 1 ≤ i) (hd : ∀ x ∈ s.1, drawnL i x) (hp : s.1.Pairwise befR)
    (hb : ∀ x ∈ s.1, ∀ b l, befR x ⟨i, X, b, l⟩) : (∀ x ∈ (gLine ts i X s).1, drawnL i x) ∧ (gLine ts i X s).1.Pairwise befR ∧ ∀ x ∈ (gLine ts i X s).1, x ∈ s.1 ∨ (x.acc = i ∧ x.asset = X) := by
  have h1 := dN_ok (n := 4) hs (by omega)
  have h2 := dPick_ok (l := lims) h1.2 (by decide)
  have h3 : 0 ≤ (dPick ts (dN ts s.2 4).2 lims).1 ∧ (dPick ts (dN ts s.2 4).2 lims).1 ≤ 1000000000000 := by have := h2.1; simp at this; omega
  have h4 := dN_ok (n := min (dPick ts (dN ts s.2 4).2 lims).1 400 + 1) h2.2 (by omega)
  unfold gLine
  split
  · exact ⟨hd, hp, fun x hx => .inl hx⟩
  · rename_i hne
    split
    · exact ⟨hd, hp, fun x hx => .inl hx⟩
    · refine ⟨fun x hx => ?_, ?_, fun x hx => ?_⟩
      · rcases List.mem_append.1 hx with hx | hx
        · exact hd x hx
        · rw [List.mem_singleton] at hx
          subst hx
          refine ⟨⟨hi, Int.le_refl _⟩, hX, hne, ?_, ?_, h3.2⟩
          · dsimp only; omega
          · dsimp only; omega
      · rw [List.pairwise_append]
        exact ⟨hp, List.pairwise_singleton _ _, fun x hx y hy => by
          rw [List.mem_singleton] at hy
          subst hy
          exact hb x hx _ _⟩
      · rcases List.mem_append.1 hx with hx | hx
        · exact .inl hx
        · rw [List.mem_singleton] at hx
          subst hx
          exact .inr ⟨rfl, rfl⟩

theorem drawnL_mono {m m' : Int} (h : m ≤ m') {x : Line} (hx : drawnL m x) : drawnL m' x := ⟨⟨hx.1.1, by have := hx.1.2; omega⟩, hx.2⟩
theorem eur_usd : eur ≠ usd := by decide
theorem gLines_inv {ts : List Int} {a : Int} (hs : SrcOk ts a) : ∀ k : Nat, (∀ x ∈ (gLines ts a k).1, drawnL k x) ∧ (gLines ts a k).1.Pairwise befR
  | 0 => ⟨fun x hx => (by simp [gLines] at hx), List.Pairwise.nil⟩
  | k + 1 => by
    obtain ⟨i1, i2⟩ := gLines_inv hs k
    have hk := gLines_ok hs k
    have e : gLines ts a (k + 1) = gLine ts ((k : Int) + 1) usd (gLine ts ((k : Int) + 1) eur (gLines ts a k)) := rfl
    have ec : ((k + 1 : Nat) : Int) = (k : Int) + 1 := by omega
    rw [e, ec]
    generalize gLines ts a k = s at i1 i2 hk
    have hle : ∀ x ∈ s.1, drawnL ((k : Int) + 1) x := fun x hx => drawnL_mono (by omega) (i1 x hx)
    have j := gLine_inv (X := eur) (i := (k : Int) + 1) hk.1 (.inl rfl) (by omega) hle i2 (fun x hx b l => .inl (by have := (i1 x hx).1.2; dsimp only; omega))
    have hk2 := gLine_ok (i := (k : Int) + 1) (x := eur) hk.1
    generalize gLine ts ((k : Int) + 1) eur s = s2 at j hk2
    obtain ⟨j1, j2, j3⟩ := j
    have q := gLine_inv (X := usd) (i := (k : Int) + 1) hk2.1 (.inr rfl) (by omega) j1 j2 (fun x hx b l => by
      rcases j3 x hx with h | ⟨h, h2⟩
      · exact .inl (by have := (i1 x h).1.2; dsimp only; omega)
      · exact .inr ⟨h, h2, rfl⟩)
    exact ⟨q.1, q.2.1⟩

theorem befR_before {p x : Line} (h : befR p x) : beforeL p x.acc x.asset = true := by
  unfold befR at h
  unfold beforeL
  rcases h with h | ⟨h1, h2, h3⟩
  · simp [h]
  · rw [h2, h3, h1]
    have : lessA eur usd = true := by decide
    simp [this]
theorem drawnL_ok {g : List Acct} {m : Int} {x : Line} (hx : drawnL m x) (hg : ∀ i, 1 ≤ i ∧ i ≤ m → hasA g i = true) : lineOk g x = true := by
  obtain ⟨h1, h2, h3, h4, h5, h6⟩ := hx
  rw [lineOk_iff]
  refine ⟨hg _ h1, ?_, ?_, h3, ⟨by omega, h6⟩, h4.1, h5⟩
  · rcases h2 with h | h <;> rw [h] <;> decide
  · rcases h2 with h | h <;> rw [h] <;> decide
theorem gLines_chk {ts : List Int} {a : Int} (hs : SrcOk ts a) {g : List Acct} {k : Nat} (hk : k ≤ 30) (hc : chkA g = 0) (hg : ∀ i, 1 ≤ i ∧ i ≤ (k : Int) → hasA g i = true) : chkL (gLines ts a k).1 g = 0 := by
  obtain ⟨h1, h2⟩ := gLines_inv hs k
  have h3 := (gLines_ok hs k).2
  refine chkL_ok hc (by omega) fun j hj x hx => ⟨drawnL_ok (h1 x (List.mem_of_getElem? hx)) hg, fun p hp hpp => ?_⟩
  have hlt := (List.getElem?_eq_some_iff.1 hpp)
  have hlt2 := (List.getElem?_eq_some_iff.1 hx)
  have := List.pairwise_iff_getElem.1 h2 (j - 1) j hlt.1 hlt2.1 (by omega)
  rw [hlt.2, hlt2.2] at this
  exact befR_before this
end Go.Proofs.Ytneoeegpceompaa.AM
