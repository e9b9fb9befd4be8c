/-
The walk, part 4: accounts: finding, changing, their sum.
-/
import Derived.Test.YtneoeegpceompaaA3
set_option linter.unusedVariables false
set_option linter.unusedSimpArgs false
namespace Go.Proofs.Ytneoeegpceompaa.AM
open Go Go.Proofs Go.Proofs.Ytneoeegpceompaa.Pl

theorem fs_accounts_Find (N : Nat) (l : List Acct) (i : Int) (hl : l.length ≤ 1000000) : FS PP N n_accounts_Find [sA l, aI i] [] (.tup [.agg (cA (findA l i)), aB (hasA l i)]) [] := by
  refine i_accounts_Find.pure (by simp) fun D _ => ?_
  by_cases h : 0 ≤ placeA l i
  · obtain ⟨a, h1, h2, h3, h4⟩ := findA_yes h
    repeat' ((conv => whnf); (first | ((with_reducible refine Cl.id ?_); (first | refine Y.pu (fs_accounts_place _ l i hl) ?_ | fail)) | refine Y.st ?_ | refine Tw.mk (fun _ => ?_) (fun _ => ?_) | fail))
    refine Rt.eq ?_
    rw [h3, h4]; rfl
  · obtain ⟨h3, h4⟩ := findA_no (show placeA l i < 0 by omega)
    repeat' ((conv => whnf); (first | ((with_reducible refine Cl.id ?_); (first | refine Y.pu (fs_accounts_place _ l i hl) ?_ | fail)) | refine Y.st ?_ | refine Tw.mk (fun _ => ?_) (fun _ => ?_) | fail))
    refine Rt.eq ?_
    rw [h3, h4]; rfl

theorem fs_r36_Find (N : Nat) (l : List Acct) (i : Int) (hl : l.length ≤ 1000000) : FS PP N n_r36_Find [sA l, aI i] [] (.tup [.agg (cA (findA l i)), aB (hasA l i)]) [] := by
  refine i_r36_Find.pure (by simp) fun D _ => ?_
  by_cases h : 0 ≤ placeA l i
  · obtain ⟨a, h1, h2, h3, h4⟩ := findA_yes h
    repeat' ((conv => whnf); (first | ((with_reducible refine Cl.id ?_); (first | refine Y.pu (fs_r36_at _ l i hl) ?_ | fail)) | refine Y.st ?_ | refine Tw.mk (fun _ => ?_) (fun _ => ?_) | fail))
    refine Rt.eq ?_
    rw [h3, h4]; rfl
  · obtain ⟨h3, h4⟩ := findA_no (show placeA l i < 0 by omega)
    repeat' ((conv => whnf); (first | ((with_reducible refine Cl.id ?_); (first | refine Y.pu (fs_r36_at _ l i hl) ?_ | fail)) | refine Y.st ?_ | refine Tw.mk (fun _ => ?_) (fun _ => ?_) | fail))
    refine Rt.eq ?_
    rw [h3, h4]; rfl

theorem fs_accounts_right (N : Nat) (l : List Acct) : FS PP N n_accounts_right [sA l] [] (aI (rightA l)) [] := by
  refine i_accounts_right.pure (by simp) fun D _ => ?_
  repeat' ((conv => whnf); (first | ((with_reducible refine Cl.id ?_); (first | refine Y.pu (fs_accounts_Check _ l) ?_ | fail)) | refine Y.st ?_ | refine Tw.mk (fun _ => ?_) (fun _ => ?_) | fail))
  all_goals (refine Rt.eq ?_; simp [rightA, *])

theorem sum_snoc {l : List Acct} {k : Nat} {a : Acct} (ha : l[k]? = some a) : ((l.take (k + 1)).map (·.bal)).sum = ((l.take k).map (·.bal)).sum + a.bal := by
  rw [List.take_add_one, ha]; simp

theorem fs_r36_Total (N : Nat) (l : List Acct) : FS PP N n_r36_Total [sA l] [] (aI (totalA l)) [] := by
  refine i_r36_Total.pure (by simp) fun D _ => ?_
  by_cases h : chkA l = 0
  · have hl := chkA_len h
    have hs := sum_le (fun a ha => (chkA_acct h ha).2.1)
    repeat' ((conv => whnf); (first | ((with_reducible refine Cl.id ?_); (first | refine Y.pu (fs_r36_Check _ l) ?_ | fail)) | refine Y.st ?_ | refine Tw.mk (fun _ => ?_) (fun _ => ?_) | fail))
    (refine Lp.go [0, 3, 9, 10, 11] [] [] ?_; repeat' ((conv => whnf); (first | refine Y.st ?_ | intro d' hd' | fail)))
    refine l_nat D l.length (fun _ => True) (fun k d => ⟨[(0, sA l), (3, aI ((l.take k).map (·.bal)).sum), (9, sA l), (10, aI l.length), (11, aI k)], [], d, 0⟩) (fun k hk hI d hd ih => ?_) trivial d' (by omega)
    by_cases hlt : k < l.length
    · obtain ⟨a, ha⟩ : ∃ a, l[k]? = some a := ⟨l[k], by simp [hlt]⟩
      have h1 := hs k
      have h2 := chkA_acct h (List.mem_of_getElem? ha)
      repeat' ((conv => whnf); (first | refine Y.st ?_ | refine Tw.mk (fun _ => ?_) (fun _ => ?_) | fail))
      (refine Lp.go [0, 3, 9, 10, 11] [] [] ?_; repeat' ((conv => whnf); (first | refine Y.st ?_ | intro d2 hd2 | fail)))
      have := ih hlt trivial d2 (by omega)
      rw [sum_snoc ha] at this
      exact this
    · repeat' ((conv => whnf); (first | refine Y.st ?_ | refine Tw.mk (fun _ => ?_) (fun _ => ?_) | fail))
      refine Rt.eq ?_
      rw [List.take_of_length_le (by omega)]
      simp [totalA, h]
  · repeat' ((conv => whnf); (first | ((with_reducible refine Cl.id ?_); (first | refine Y.pu (fs_r36_Check _ l) ?_ | fail)) | refine Y.st ?_ | refine Tw.mk (fun _ => ?_) (fun _ => ?_) | fail))
    refine Rt.eq ?_
    simp [totalA, h]
end Go.Proofs.Ytneoeegpceompaa.AM
