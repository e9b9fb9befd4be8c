/-
The walk, part 12: the reference of the chapter 38: adding offers.
-/
import Derived.Test.YtneoeegpceompaaB4
set_option linter.unusedVariables false
set_option linter.unusedSimpArgs false
namespace Go.Proofs.Ytneoeegpceompaa.AM
open Go Go.Proofs Go.Proofs.Ytneoeegpceompaa.Pl

theorem chkG_len {g : Ledg} (h : chkG g = 0) : g.offers.length ≤ 40 ∧ chkL g.lines g.accts = 0 ∧ goodG g = true := by
  unfold chkG at h
  split at h
  · rename_i h1
    split at h
    · cases h
    · split at h
      · exact ⟨by omega, h1, by assumption⟩
      · cases h
  · exact absurd h ‹_›
theorem goodG_next {g : Ledg} (h : goodG g = true) : (1 ≤ g.next ∧ g.next ≤ 1000000) ∧ (0 ≤ g.fees ∧ g.fees ≤ 1000000000000) ∧ (0 ≤ g.number ∧ g.number ≤ 1000000) := by
  simp only [goodG, Bool.and_eq_true, decide_eq_true_eq, validAmt] at h
  exact ⟨h.1, h.2.1, h.2.2.1⟩

theorem fs_r38_Add (N : Nat) (n : Int) (a : List Acct) (l : List Line) (o : List Offer) (x f y s : Int) (c : ByteArray) (i : Int) (c' : ByteArray) (i' m u v : Int) :
    FS PP N n_r38_Add [.agg (cG n a l o x f y), aI s, .agg [.v (.string c), aI i], .agg [.v (.string c'), aI i'], aI m, aI u, aI v] []
      (.tup [eG (addO ⟨n, a, l, o, x, f, y⟩ s ⟨c, i⟩ ⟨c', i'⟩ m u v).1, aI (addO ⟨n, a, l, o, x, f, y⟩ s ⟨c, i⟩ ⟨c', i'⟩ m u v).2.1, aI (addO ⟨n, a, l, o, x, f, y⟩ s ⟨c, i⟩ ⟨c', i'⟩ m u v).2.2]) [] := by
  refine i_r38_Add.pure (by simp) fun D _ => ?_
  unfold addO
  by_cases h0 : chkG ⟨n, a, l, o, x, f, y⟩ = 0
  rotate_left
  · rw [if_neg h0]
    repeat' ((conv => whnf); (first | ((with_reducible refine Cl.id ?_); (first | refine Y.pu (fs_r38_Check _ _ _ _ _ _ _ _) ?_ | fail)) | refine Y.st ?_ | refine Tw.mk (fun _ => ?_) (fun _ => ?_) | fail))
    (exact Rt.vlt Y.vt)
  rw [if_pos h0]
  obtain ⟨g1, g2, g3⟩ := chkG_len h0
  obtain ⟨g4, g5, g6⟩ := goodG_next g3
  have g7 := (chkL_len g2).1
  have g8 := chkA_len (chkL_len g2).2.1
  simp only at g1 g2 g4 g5 g6 g7 g8
  have hl : l.length ≤ 1000000 := by omega
  have ha : a.length ≤ 1000000 := by omega
  dsimp only
  cases h1 : hasA a s with
  | false =>
    repeat' ((conv => whnf); (first | ((with_reducible refine Cl.id ?_); (first | refine Y.pu (fs_r38_Check _ _ _ _ _ _ _ _) ?_ | refine Y.pu (fs_r36_Find _ a _ ha) ?_ | fail)) | refine Y.st ?_ | refine Tw.mk (fun _ => ?_) (fun _ => ?_) | fail))
    (exact Rt.vlt Y.vt)
  | true =>
    rw [if_neg (by simp)]
    by_cases h2 : assetOk ⟨c, i⟩ = false ∨ assetOk ⟨c', i'⟩ = false ∨ (⟨c, i⟩ : Asset) = ⟨c', i'⟩
    · rw [if_pos h2]
      simp only [asset_iff] at h2
      repeat' ((conv => whnf); (first | ((with_reducible refine Cl.id ?_); (first | refine Y.pu (fs_r38_Check _ _ _ _ _ _ _ _) ?_ | refine Y.pu (fs_r36_Find _ a _ ha) ?_ | refine Y.pu (fs_r35_Asset _ _ _) ?_ | fail)) | refine Y.st ?_ | refine Tw.mk (fun _ => ?_) (fun _ => ?_) | fail))
      all_goals first | (exact Rt.vlt Y.vt) | (exfalso; simp_all; done)
    · rw [if_neg h2]
      simp only [asset_iff, not_or, Bool.not_eq_false] at h2
      obtain ⟨h3, h4, h5⟩ := h2
      by_cases h6 : m < 1 ∨ validAmt m = false ∨ okPrice u v = false
      · rw [if_pos h6]
        repeat' ((conv => whnf); (first | ((with_reducible refine Cl.id ?_); (first | refine Y.pu (fs_r38_Check _ _ _ _ _ _ _ _) ?_ | refine Y.pu (fs_r36_Find _ a _ ha) ?_ | refine Y.pu (fs_r35_Asset _ _ _) ?_ | refine Y.pu (fs_r35_Valid _ _) ?_ | refine Y.pu (fs_r35_Price _ _ _) ?_ | fail)) | refine Y.st ?_ | refine Tw.mk (fun _ => ?_) (fun _ => ?_) | fail))
        all_goals first | (exact Rt.vlt Y.vt) | (exfalso; simp_all; done)
      · rw [if_neg h6]
        simp only [not_or, Bool.not_eq_false] at h6
        obtain ⟨h7, h8, h9⟩ := h6
        by_cases h10 : linedA ⟨n, a, l, o, x, f, y⟩ s ⟨c, i⟩ = false ∨ linedA ⟨n, a, l, o, x, f, y⟩ s ⟨c', i'⟩ = false
        · rw [if_pos h10]
          repeat' ((conv => whnf); (first | ((with_reducible refine Cl.id ?_); (first | refine Y.pu (fs_r38_Check _ _ _ _ _ _ _ _) ?_ | refine Y.pu (fs_r36_Find _ a _ ha) ?_ | refine Y.pu (fs_r35_Asset _ _ _) ?_ | refine Y.pu (fs_r35_Valid _ _) ?_ | refine Y.pu (fs_r35_Price _ _ _) ?_ | refine Y.pu (fs_r38_holds _ _ _ _ _ _ _ _ _ _ _ hl) ?_ | fail)) | refine Y.st ?_ | refine Tw.mk (fun _ => ?_) (fun _ => ?_) | fail))
          all_goals first | (exact Rt.vlt Y.vt) | (exfalso; simp_all; done)
        · rw [if_neg h10]
          simp only [not_or, Bool.not_eq_false] at h10
          obtain ⟨h11, h12⟩ := h10
          by_cases h13 : heldA ⟨n, a, l, o, x, f, y⟩ s ⟨c, i⟩ = 0
          · rw [if_pos h13]
            repeat' ((conv => whnf); (first | ((with_reducible refine Cl.id ?_); (first | refine Y.pu (fs_r38_Check _ _ _ _ _ _ _ _) ?_ | refine Y.pu (fs_r36_Find _ a _ ha) ?_ | refine Y.pu (fs_r35_Asset _ _ _) ?_ | refine Y.pu (fs_r35_Valid _ _) ?_ | refine Y.pu (fs_r35_Price _ _ _) ?_ | refine Y.pu (fs_r38_holds _ _ _ _ _ _ _ _ _ _ _ hl) ?_ | refine Y.pu (fs_r37_Held _ _ _ _ _ _ _ _ _ _ _ ha hl) ?_ | fail)) | refine Y.st ?_ | refine Tw.mk (fun _ => ?_) (fun _ => ?_) | fail))
            all_goals first | (exact Rt.vlt Y.vt) | (exfalso; simp_all; done)
          · rw [if_neg h13]
            by_cases h14 : o.length = 40 ∨ x = 1000000
            · rw [if_pos h14]
              repeat' ((conv => whnf); (first | ((with_reducible refine Cl.id ?_); (first | refine Y.pu (fs_r38_Check _ _ _ _ _ _ _ _) ?_ | refine Y.pu (fs_r36_Find _ a _ ha) ?_ | refine Y.pu (fs_r35_Asset _ _ _) ?_ | refine Y.pu (fs_r35_Valid _ _) ?_ | refine Y.pu (fs_r35_Price _ _ _) ?_ | refine Y.pu (fs_r38_holds _ _ _ _ _ _ _ _ _ _ _ hl) ?_ | refine Y.pu (fs_r37_Held _ _ _ _ _ _ _ _ _ _ _ ha hl) ?_ | fail)) | refine Y.st ?_ | refine Tw.mk (fun _ => ?_) (fun _ => ?_) | fail))
              all_goals first | (exact Rt.vlt Y.vt) | (exfalso; omega)
            · rw [if_neg h14]
              repeat' ((conv => whnf); (first | ((with_reducible refine Cl.id ?_); (first | refine Y.pu (fs_r38_Check _ _ _ _ _ _ _ _) ?_ | refine Y.pu (fs_r36_Find _ a _ ha) ?_ | refine Y.pu (fs_r35_Asset _ _ _) ?_ | refine Y.pu (fs_r35_Valid _ _) ?_ | refine Y.pu (fs_r35_Price _ _ _) ?_ | refine Y.pu (fs_r38_holds _ _ _ _ _ _ _ _ _ _ _ hl) ?_ | refine Y.pu (fs_r37_Held _ _ _ _ _ _ _ _ _ _ _ ha hl) ?_ | refine Y.pu (fs_r35_Reduce _ _ _) ?_ | fail)) | refine Y.st ?_ | refine Tw.mk (fun _ => ?_) (fun _ => ?_) | fail))
              (exact Rt.fz1t Y.vt)
end Go.Proofs.Ytneoeegpceompaa.AM
