/-
The walk, part 3: places by IndexFunc; finding accounts and lines.
-/
import Derived.Test.YtneoeegpceompaaA2
set_option linter.unusedVariables false
set_option linter.unusedSimpArgs false
namespace Go.Proofs.Ytneoeegpceompaa.AM
open Go Go.Proofs Go.Proofs.Ytneoeegpceompaa.Pl

theorem fs_slices_IndexFunc_Account (N : Nat) (l : List Acct) (f : Nat) (x : AV) (caps : List AV) (p : Acct → Bool) (hl : l.length ≤ 1000000) (hf : ∀ a ∈ l, ∀ N, FS PP N f (.agg (cA a) :: x :: caps) [] (aB (p a)) []) :
    FS PP N n_slices_IndexFunc_Account [.sl 3 (l.map cA), .fn f (x :: caps)] [] (aI (idx p l)) [] := by
  refine i_slices_IndexFunc_Account.pure (by simp) fun D _ => ?_
  repeat' ((conv => whnf); (first | refine Y.st ?_ | refine Tw.mk (fun _ => ?_) (fun _ => ?_) | fail))
  (refine Lp.go [0, 1, 6, 7, 8] [] [] ?_; repeat' ((conv => whnf); (first | refine Y.st ?_ | intro d' hd' | fail)))
  refine l_nat D l.length (fun k => ∀ j, j < k → ∀ b, l[j]? = some b → p b = false) (fun k d => ⟨[(0, .sl 3 (l.map cA)), (1, .fn f (x :: caps)), (6, .sl 3 (l.map cA)), (7, aI l.length), (8, aI k)], [], d, 0⟩) (fun k hk hI d hd ih => ?_) (fun j h => by omega) d' (by omega)
  by_cases hlt : k < l.length
  · obtain ⟨a, ha⟩ : ∃ a, l[k]? = some a := ⟨l[k], by simp [hlt]⟩
    repeat' ((conv => whnf); (first | ((with_reducible refine Cl.id ?_); (first | refine Y.pu (hf a (List.mem_of_getElem? ha) _) ?_ | fail)) | refine Y.st ?_ | refine Tw.mk (fun _ => ?_) (fun _ => ?_) | fail))
    · refine Rt.eq ?_
      rw [idx_hit ha ‹p a = true› hI]
    · (refine Lp.go [0, 1, 6, 7, 8] [] [] ?_; repeat' ((conv => whnf); (first | refine Y.st ?_ | intro d2 hd2 | fail)))
      refine ih hlt (fun j hj b hb => ?_) d2 (by omega)
      by_cases e : j = k
      · subst e
        rw [ha] at hb; injection hb with hb; subst hb
        assumption
      · exact hI j (by omega) b hb
  · repeat' ((conv => whnf); (first | refine Y.st ?_ | refine Tw.mk (fun _ => ?_) (fun _ => ?_) | fail))
    refine Rt.eq ?_
    rw [idx_none fun j b hb => hI j (by have := (List.getElem?_eq_some_iff.1 hb).1; omega) b hb]

theorem fs_slices_IndexFunc_Line (N : Nat) (l : List Line) (f : Nat) (x : AV) (caps : List AV) (p : Line → Bool) (hl : l.length ≤ 1000000) (hf : ∀ a ∈ l, ∀ N, FS PP N f (.agg (cL a) :: x :: caps) [] (aB (p a)) []) :
    FS PP N n_slices_IndexFunc_Line [.sl 5 (l.map cL), .fn f (x :: caps)] [] (aI (idx p l)) [] := by
  refine i_slices_IndexFunc_Line.pure (by simp) fun D _ => ?_
  repeat' ((conv => whnf); (first | refine Y.st ?_ | refine Tw.mk (fun _ => ?_) (fun _ => ?_) | fail))
  (refine Lp.go [0, 1, 6, 7, 8] [] [] ?_; repeat' ((conv => whnf); (first | refine Y.st ?_ | intro d' hd' | fail)))
  refine l_nat D l.length (fun k => ∀ j, j < k → ∀ b, l[j]? = some b → p b = false) (fun k d => ⟨[(0, .sl 5 (l.map cL)), (1, .fn f (x :: caps)), (6, .sl 5 (l.map cL)), (7, aI l.length), (8, aI k)], [], d, 0⟩) (fun k hk hI d hd ih => ?_) (fun j h => by omega) d' (by omega)
  by_cases hlt : k < l.length
  · obtain ⟨a, ha⟩ : ∃ a, l[k]? = some a := ⟨l[k], by simp [hlt]⟩
    repeat' ((conv => whnf); (first | ((with_reducible refine Cl.id ?_); (first | refine Y.pu (hf a (List.mem_of_getElem? ha) _) ?_ | fail)) | refine Y.st ?_ | refine Tw.mk (fun _ => ?_) (fun _ => ?_) | fail))
    · refine Rt.eq ?_
      rw [idx_hit ha ‹p a = true› hI]
    · (refine Lp.go [0, 1, 6, 7, 8] [] [] ?_; repeat' ((conv => whnf); (first | refine Y.st ?_ | intro d2 hd2 | fail)))
      refine ih hlt (fun j hj b hb => ?_) d2 (by omega)
      by_cases e : j = k
      · subst e
        rw [ha] at hb; injection hb with hb; subst hb
        assumption
      · exact hI j (by omega) b hb
  · repeat' ((conv => whnf); (first | refine Y.st ?_ | refine Tw.mk (fun _ => ?_) (fun _ => ?_) | fail))
    refine Rt.eq ?_
    rw [idx_none fun j b hb => hI j (by have := (List.getElem?_eq_some_iff.1 hb).1; omega) b hb]

theorem fs_accounts_place_1 (N : Nat) (i : Int) (x y z : Int) : FS PP N n_accounts_place_1 [.agg [aI x, aI y, aI z], .ipt [aI i]] [] (aB (x == i)) [] := by
  refine i_accounts_place_1.pure (by simp) fun D _ => ?_
  repeat' ((conv => whnf); (first | refine Y.st ?_ | refine Tw.mk (fun _ => ?_) (fun _ => ?_) | fail))
  refine Rt.eq rfl

theorem fs_accounts_place (N : Nat) (l : List Acct) (i : Int) (hl : l.length ≤ 1000000) : FS PP N n_accounts_place [sA l, aI i] [] (aI (placeA l i)) [] := by
  refine i_accounts_place.pure (by simp) fun D _ => ?_
  repeat' ((conv => whnf); (first | ((with_reducible refine Cl.id ?_); (first | (apply Y.fz1 (fs_slices_IndexFunc_Account _ l n_accounts_place_1 (.ipt [aI i]) [] (fun a => a.id == i) hl (fun a _ N => fs_accounts_place_1 N i a.id a.bal a.seq)); exact Y.vt; exact Y.lk) | fail)) | refine Y.st ?_ | refine Tw.mk (fun _ => ?_) (fun _ => ?_) | fail))
  refine Rt.eq rfl

end Go.Proofs.Ytneoeegpceompaa.AM
