/-
The walk, part 8: the reference of the chapters 35 and 37.
-/
import Derived.Test.YtneoeegpceompaaA7
set_option linter.unusedVariables false
set_option linter.unusedSimpArgs false
namespace Go.Proofs.Ytneoeegpceompaa.AM
open Go Go.Proofs Go.Proofs.Ytneoeegpceompaa.Pl

theorem bLess_eq (a b : List UInt8) : Op.bytesLess a b = bLess a b := by
  induction a generalizing b with
  | nil => cases b <;> rfl
  | cons x a ih =>
    cases b with
    | nil => rfl
    | cons y b => simp only [Op.bytesLess, bLess, ih]

theorem fs_r35_Price (N : Nat) (n d : Int) : FS PP N n_r35_Price [aI n, aI d] [] (aB (okPrice n d)) [] := by
  refine i_r35_Price.pure (by simp) fun D _ => ?_
  repeat' ((conv => whnf); (first | refine Y.st ?_ | refine Tw.mk (fun _ => ?_) (fun _ => ?_) | fail))
  all_goals (refine Rt.eq ?_; simp [okPrice, *])
theorem fs_r35_Native (N : Nat) (c : ByteArray) (i : Int) : FS PP N n_r35_Native [.agg [.v (.string c), aI i]] [] (aB (nativeA ⟨c, i⟩)) [] := by
  refine i_r35_Native.pure (by simp) fun D _ => ?_
  repeat' ((conv => whnf); (first | refine Y.st ?_ | refine Tw.mk (fun _ => ?_) (fun _ => ?_) | fail))
  refine Rt.eq ?_
  have : (c.toList == ByteArray.toList ⟨#[]⟩ && (i == 0 && true)) = nativeA ⟨c, i⟩ := by
    rw [str_eq, Bool.and_true, nativeA, Bool.decide_and]; rfl
  rw [← this]
theorem fs_amount_Native (N : Nat) (c : ByteArray) (i : Int) : FS PP N n_amount_Native [.agg [.v (.string c), aI i]] [] (aB (nativeA ⟨c, i⟩)) [] := by
  refine i_amount_Native.pure (by simp) fun D _ => ?_
  repeat' ((conv => whnf); (first | refine Y.st ?_ | refine Tw.mk (fun _ => ?_) (fun _ => ?_) | fail))
  refine Rt.eq ?_
  have : (c.toList == ByteArray.toList ⟨#[]⟩ && (i == 0 && true)) = nativeA ⟨c, i⟩ := by
    rw [str_eq, Bool.and_true, nativeA, Bool.decide_and]; rfl
  rw [← this]
theorem size_data (c : ByteArray) : c.size = c.data.toList.length := rfl
theorem bytes_get {c : ByteArray} {k : Nat} {x : UInt8} (h : c.data.toList[k]? = some x) : c[k]? = some x := by
  have hk := (List.getElem?_eq_some_iff.1 h).1
  rw [← size_data] at hk
  rw [getElem?_pos c k hk]
  have := (List.getElem?_eq_some_iff.1 h).2
  rw [← this]; rfl

theorem fs_r35_Asset (N : Nat) (c : ByteArray) (i : Int) : FS PP N n_r35_Asset [.agg [.v (.string c), aI i]] [] (aB (assetOk ⟨c, i⟩)) [] := by
  refine i_r35_Asset.pure (by simp) fun D _ => ?_
  by_cases hn : nativeA ⟨c, i⟩ = true
  · repeat' ((conv => whnf); (first | ((with_reducible refine Cl.id ?_); (first | refine Y.pu (fs_r35_Native _ _ _) ?_ | fail)) | refine Y.st ?_ | refine Tw.mk (fun _ => ?_) (fun _ => ?_) | fail))
    refine Rt.eq ?_; simp [assetOk, hn]
  have hn' : nativeA ⟨c, i⟩ = false := by simpa using hn
  by_cases hc : (1 ≤ c.size ∧ c.size ≤ 4) ∧ 1 ≤ i ∧ i ≤ 1000
  · have key : assetOk ⟨c, i⟩ = c.data.toList.all upper := by simp [assetOk, hn', hc]
    rw [key]
    repeat' ((conv => whnf); (first | ((with_reducible refine Cl.id ?_); (first | refine Y.pu (fs_r35_Native _ _ _) ?_ | fail)) | refine Y.st ?_ | refine Tw.mk (fun _ => ?_) (fun _ => ?_) | fail))
    (refine Lp.go [1, 3] [] [nm D 0] ?_; repeat' ((conv => whnf); (first | refine Y.st ?_ | intro d' hd' | fail)))
    refine l_nat D c.size (fun k => ∀ j, j < k → ∀ x, c.data.toList[j]? = some x → upper x = true) (fun k d => ⟨[(1, .pt (nm d 0) 2 0 0), (3, aI k)], [(nm d 0, ⟨true, t_Asset, 2, [[.v (.string c), aI i]], some 1⟩)], d, 1⟩) (fun k hk hI d hd ih => ?_) (fun j h => by omega) d' (by omega)
    by_cases hlt : k < c.size
    · obtain ⟨x, hx⟩ : ∃ x, c.data.toList[k]? = some x := ⟨c.data.toList[k]'(by rw [← size_data]; exact hlt), by simp⟩
      have hx2 := bytes_get hx
      repeat' ((conv => whnf); (first | refine Y.st ?_ | refine Tw.mk (fun _ => ?_) (fun _ => ?_) | fail))
      all_goals first
        | (refine Rt.eq ?_
           have : c.data.toList.all upper = false := by
             rw [Bool.eq_false_iff]
             intro h
             have := List.all_eq_true.1 h x (List.mem_of_getElem? hx)
             simp only [upper, decide_eq_true_eq] at this
             omega
           rw [this])
        | ((refine Lp.go [1, 3] [] [nm d 0] ?_; repeat' ((conv => whnf); (first | refine Y.st ?_ | intro d2 hd2 | fail)))
           refine ih hlt (fun j hj y hy => ?_) d2 (by omega)
           by_cases e : j = k
           · subst e
             rw [hx] at hy; injection hy with hy; subst hy
             simp only [upper, decide_eq_true_eq]
             omega
           · exact hI j (by omega) y hy)
    · repeat' ((conv => whnf); (first | refine Y.st ?_ | refine Tw.mk (fun _ => ?_) (fun _ => ?_) | fail))
      refine Rt.eq ?_
      have : c.data.toList.all upper = true := by
        rw [List.all_eq_true]
        intro x hx
        obtain ⟨j, hj⟩ := List.mem_iff_getElem?.1 hx
        have h1 := (List.getElem?_eq_some_iff.1 hj).1
        rw [← size_data] at h1
        exact hI j (by omega) x hj
      rw [this]
  · have key : assetOk ⟨c, i⟩ = false := by
      simp only [assetOk, hn', Bool.false_or, Bool.and_eq_false_iff]
      exact .inl (decide_eq_false hc)
    rw [key]
    repeat' ((conv => whnf); (first | ((with_reducible refine Cl.id ?_); (first | refine Y.pu (fs_r35_Native _ _ _) ?_ | fail)) | refine Y.st ?_ | refine Tw.mk (fun _ => ?_) (fun _ => ?_) | fail))
    all_goals first | exact Rt.eq rfl | (exfalso; omega)

theorem fs_r35_Less (N : Nat) (c c' : ByteArray) (i i' : Int) : FS PP N n_r35_Less [.agg [.v (.string c), aI i], .agg [.v (.string c'), aI i']] [] (aB (lessA ⟨c, i⟩ ⟨c', i'⟩)) [] := by
  refine i_r35_Less.pure (by simp) fun D _ => ?_
  repeat' ((conv => whnf); (first | refine Y.st ?_ | refine Tw.mk (fun _ => ?_) (fun _ => ?_) | fail))
  all_goals (refine Rt.eq ?_; simp_all [lessA, bLess_eq, Lib.toList_data])

theorem fs_r37_before (N : Nat) (m : Int) (c : ByteArray) (i b l a : Int) (c' : ByteArray) (i' : Int) : FS PP N n_r37_before [.agg [aI m, .v (.string c), aI i, aI b, aI l], aI a, .agg [.v (.string c'), aI i']] [] (aB (beforeL ⟨m, ⟨c, i⟩, b, l⟩ a ⟨c', i'⟩)) [] := by
  refine i_r37_before.pure (by simp) fun D _ => ?_
  repeat' ((conv => whnf); (first | ((with_reducible refine Cl.id ?_); (first | refine Y.pu (fs_r35_Less _ _ _ _ _) ?_ | fail)) | refine Y.st ?_ | refine Tw.mk (fun _ => ?_) (fun _ => ?_) | fail))
  all_goals (refine Rt.eq ?_; simp_all [beforeL])
end Go.Proofs.Ytneoeegpceompaa.AM
