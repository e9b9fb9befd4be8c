/-
The walk, part 15: the source of ledgers: the lines.
-/
import Derived.Test.YtneoeegpceompaaB7
set_option linter.unusedVariables false
set_option linter.unusedSimpArgs false
namespace Go.Proofs.Ytneoeegpceompaa.AM
open Go Go.Proofs Go.Proofs.Ytneoeegpceompaa.Pl
set_option maxHeartbeats 2000000 in
theorem Src_Ledger_lines {Q : Post} (b : Nat) (ts : List Int) (m L : Nat) (x f y : Int) (la : List Acct) (a : Int) (hs : SrcOk ts a) (hm : m ≤ 5) (D : Nat) (hb : ¬ Gar D b)
    (hQ : ∀ d, D ≤ d → ∀ B, Q (.exit 2) { linS b ts m L x f y la [] ((m : Int) + 1) (gLines ts a m) d with T := (43, B) :: (42, aI m) :: (41, aI ((m : Int) + 1)) :: (linS b ts m L x f y la [] ((m : Int) + 1) (gLines ts a m) d).T, nx := (linS b ts m L x f y la [] ((m : Int) + 1) (gLines ts a m) d).nx + 3 }) :
    ∀ d, D ≤ d → Lp PP 111 l_Src_Ledger_2 (linS b ts m L x f y la [] ((0 : Nat) + 1) ([], a) d) Q := by
  refine l_nat D m (fun _ => True) (fun k d => linS b ts m L x f y la [] ((k : Int) + 1) (gLines ts a k) d) (fun k hk _ d hd ih => ?_) trivial
  have hg := gLines_ok hs k
  by_cases hlt : k < m
  · have e : gLines ts a (k + 1) = gIn ts ((k : Int) + 1) (gLines ts a k) 2 := rfl
    have ih := ih hlt trivial
    rw [e] at ih
    clear e
    have hkm : (k : Int) + 1 ≤ m := by omega
    generalize gLines ts a k = s at hg ih ⊢
    obtain ⟨hg1, hg2⟩ := hg
    have hin : ∀ Q' : Post, (∀ d, D ≤ d → ∀ B, Q' (.exit 4) { linS b ts m L x f y la [(48, eurUsd), (49, aI 2)] ((k : Int) + 1) (gIn ts ((k : Int) + 1) s 2) d with T := (50, B) :: (linS b ts m L x f y la [(48, eurUsd), (49, aI 2)] ((k : Int) + 1) (gIn ts ((k : Int) + 1) s 2) d).T, nx := (linS b ts m L x f y la [(48, eurUsd), (49, aI 2)] ((k : Int) + 1) (gIn ts ((k : Int) + 1) s 2) d).nx + 1 }) → ∀ d, D ≤ d → Lp PP 111 l_Src_Ledger_1 (linS b ts m L x f y la [(48, eurUsd), (49, aI 0)] ((k : Int) + 1) s d) Q' := fun Q' h => Src_Ledger_in (Q := Q') b ts m L x f y la ((k : Int) + 1) s hg1 (by omega) D hb h
    cases he : s.1.isEmpty
    · simp only [lin_f he] at hin ⊢
      repeat' ((conv => whnf); (first | ((with_reducible refine Cl.id ?_); (first | refine Y.pu (fs_mk_Eur _) ?_ | refine Y.pu (fs_mk_Usd _) ?_ | fail)) | refine Y.st ?_ | refine Tw.mk (fun _ => ?_) (fun _ => ?_) | fail))
      (refine Lp.gox [0, 2, 3, 4, 6, 48, 49] (fun d2 => [b, nm d2 0, nm d2 1]) (nm d 2) [nm d 0, nm d 1] [nm d 2, nm d 3] ?_; repeat' ((conv => whnf); (first | refine Y.st ?_ | intro d2 hd2 | fail)))
      refine hin _ (fun d3 hd3 B => ?_) d2 (by omega)
      cases he2 : (gIn ts ((k : Int) + 1) s 2).1.isEmpty
      · simp only [lin_f he2] at ih ⊢
        repeat' ((conv => whnf); (first | refine Y.st ?_ | refine Tw.mk (fun _ => ?_) (fun _ => ?_) | fail))
        (refine Lp.gox [0, 2, 3, 4, 6] (fun d4 => [b, nm d4 0, nm d4 1]) (nm d3 2) [nm d3 0, nm d3 1] [nm d3 2, nm d3 3] ?_; repeat' ((conv => whnf); (first | refine Y.st ?_ | intro d4 hd4 | fail)))
        exact ih d4 (by omega)
      · simp only [lin_t he2] at ih ⊢
        repeat' ((conv => whnf); (first | refine Y.st ?_ | refine Tw.mk (fun _ => ?_) (fun _ => ?_) | fail))
        (refine Lp.gox [0, 2, 3, 4, 6] (fun d4 => [b, nm d4 0]) (nm d3 1) [nm d3 0] [nm d3 1, nm d3 2] ?_; repeat' ((conv => whnf); (first | refine Y.st ?_ | intro d4 hd4 | fail)))
        exact ih d4 (by omega)
    · simp only [lin_t he] at hin ⊢
      repeat' ((conv => whnf); (first | ((with_reducible refine Cl.id ?_); (first | refine Y.pu (fs_mk_Eur _) ?_ | refine Y.pu (fs_mk_Usd _) ?_ | fail)) | refine Y.st ?_ | refine Tw.mk (fun _ => ?_) (fun _ => ?_) | fail))
      (refine Lp.gox [0, 2, 3, 4, 6, 48, 49] (fun d2 => [b, nm d2 0]) (nm d 1) [nm d 0] [nm d 1, nm d 2] ?_; repeat' ((conv => whnf); (first | refine Y.st ?_ | intro d2 hd2 | fail)))
      refine hin _ (fun d3 hd3 B => ?_) d2 (by omega)
      cases he2 : (gIn ts ((k : Int) + 1) s 2).1.isEmpty
      · simp only [lin_f he2] at ih ⊢
        repeat' ((conv => whnf); (first | refine Y.st ?_ | refine Tw.mk (fun _ => ?_) (fun _ => ?_) | fail))
        (refine Lp.gox [0, 2, 3, 4, 6] (fun d4 => [b, nm d4 0, nm d4 1]) (nm d3 2) [nm d3 0, nm d3 1] [nm d3 2, nm d3 3] ?_; repeat' ((conv => whnf); (first | refine Y.st ?_ | intro d4 hd4 | fail)))
        exact ih d4 (by omega)
      · simp only [lin_t he2] at ih ⊢
        repeat' ((conv => whnf); (first | refine Y.st ?_ | refine Tw.mk (fun _ => ?_) (fun _ => ?_) | fail))
        (refine Lp.gox [0, 2, 3, 4, 6] (fun d4 => [b, nm d4 0]) (nm d3 1) [nm d3 0] [nm d3 1, nm d3 2] ?_; repeat' ((conv => whnf); (first | refine Y.st ?_ | intro d4 hd4 | fail)))
        exact ih d4 (by omega)
  · obtain rfl : k = m := by omega
    have hQ := hQ d hd
    cases he : (gLines ts a k).1.isEmpty
    · simp only [lin_f he] at hQ ⊢
      repeat' ((conv => whnf); (first | refine Y.st ?_ | refine Tw.mk (fun _ => ?_) (fun _ => ?_) | fail))
      exact hQ _
    · simp only [lin_t he] at hQ ⊢
      repeat' ((conv => whnf); (first | refine Y.st ?_ | refine Tw.mk (fun _ => ?_) (fun _ => ?_) | fail))
      exact hQ _
end Go.Proofs.Ytneoeegpceompaa.AM
