/-
The walk, part 5: accounts: giving, taking, beginning.
-/
import Derived.Test.YtneoeegpceompaaA4
set_option linter.unusedVariables false
set_option linter.unusedSimpArgs false
namespace Go.Proofs.Ytneoeegpceompaa.AM
open Go Go.Proofs Go.Proofs.Ytneoeegpceompaa.Pl

theorem fs_accounts_Total (N : Nat) (l : List Acct) (hn : l.length ≤ 1000000) : FS PP N n_accounts_Total [sA l] [] (aI (totalA l)) [] := by
  refine i_accounts_Total.pure (by simp) fun D _ => ?_
  have hs : chkA l = 0 → ∀ k, _ := fun h k => sum_le (fun a ha => (chkA_acct h ha).2.1) k
  repeat' ((conv => whnf); (first | refine Y.st ?_ | refine Tw.mk (fun _ => ?_) (fun _ => ?_) | fail))
  (refine Lp.go [0, 3, 6, 7, 8] [] [] ?_; repeat' ((conv => whnf); (first | refine Y.st ?_ | intro d' hd' | fail)))
  refine l_ind D (σ := Nat × Int) (fun s => l.length - s.1) (fun s => s.1 ≤ l.length ∧ (chkA l = 0 → s.2 = ((l.take s.1).map (·.bal)).sum)) (fun s d => ⟨[(0, sA l), (3, aI s.2), (6, sA l), (7, aI l.length), (8, aI s.1)], [], d, 0⟩) (fun s hI d hd ih => ?_) (0, 0) ⟨by simp, fun _ => by simp⟩ d' (by omega)
  obtain ⟨k, t⟩ := s
  obtain ⟨hk, hI⟩ := hI
  simp only at hk hI ih
  by_cases hlt : k < l.length
  · obtain ⟨a, ha⟩ : ∃ a, l[k]? = some a := ⟨l[k], by simp [hlt]⟩
    repeat' ((conv => whnf); (first | refine Y.st ?_ | refine Tw.mk (fun _ => ?_) (fun _ => ?_) | fail))
    · (refine Lp.go [0, 3, 6, 7, 8] [] [] ?_; repeat' ((conv => whnf); (first | refine Y.st ?_ | intro d2 hd2 | fail)))
      refine ih (k + 1, IntKind.i64.wrap (t + a.bal)) (by simp; omega) ⟨hlt, fun h => ?_⟩ d2 (by omega)
      simp only
      have h1 := hs h k
      have h2 := chkA_acct h (List.mem_of_getElem? ha)
      have h3 := chkA_len h
      rw [sum_snoc ha, hI h, wrap64 (by omega) (by omega)]
  · by_cases h : chkA l = 0
    · repeat' ((conv => whnf); (first | ((with_reducible refine Cl.id ?_); (first | refine Y.pu (fs_accounts_Check _ l) ?_ | fail)) | refine Y.st ?_ | refine Tw.mk (fun _ => ?_) (fun _ => ?_) | fail))
      refine Rt.eq ?_
      rw [hI h, List.take_of_length_le (by omega)]
      simp [totalA, h]
    · repeat' ((conv => whnf); (first | ((with_reducible refine Cl.id ?_); (first | refine Y.pu (fs_accounts_Check _ l) ?_ | fail)) | refine Y.st ?_ | refine Tw.mk (fun _ => ?_) (fun _ => ?_) | fail))
      refine Rt.eq ?_
      simp [totalA, h]

theorem fs_r36_Same (N : Nat) (a b : List Acct) (hn : a.length ≤ 1000000) : FS PP N n_r36_Same [sA a, sA b] [] (aB (decide (a = b))) [] := by
  refine i_r36_Same.pure (by simp) fun D _ => ?_
  by_cases hl : a.length = b.length
  · repeat' ((conv => whnf); (first | refine Y.st ?_ | refine Tw.mk (fun _ => ?_) (fun _ => ?_) | fail))
    (refine Lp.go [0, 1, 11, 12, 13] [] [] ?_; repeat' ((conv => whnf); (first | refine Y.st ?_ | intro d' hd' | fail)))
    refine l_nat D a.length (fun k => ∀ j, j < k → a[j]? = b[j]?) (fun k d => ⟨[(0, sA a), (1, sA b), (11, sA a), (12, aI a.length), (13, aI k)], [], d, 0⟩) (fun k hk hI d hd ih => ?_) (fun j h => by omega) d' (by omega)
    by_cases hlt : k < a.length
    · obtain ⟨x, hx⟩ : ∃ x, a[k]? = some x := ⟨a[k], by simp [hlt]⟩
      obtain ⟨y, hy⟩ : ∃ y, b[k]? = some y := ⟨b[k]'(by omega), by simp⟩
      repeat' ((conv => whnf); (first | refine El.mapi hx rfl ?_ | refine El.mapi hy rfl ?_ | refine Y.st ?_ | refine Tw.mk (fun _ => ?_) (fun _ => ?_) | fail))
      all_goals first
        | (refine Rt.eq ?_
           have : ¬ a = b := fun e => by
             subst e; rw [hx] at hy; injection hy with hy; subst hy; simp at *
           simp [this])
        | ((refine Lp.go [0, 1, 11, 12, 13] [] [] ?_; repeat' ((conv => whnf); (first | refine Y.st ?_ | intro d2 hd2 | fail)))
           refine ih hlt (fun j hj => ?_) d2 (by omega)
           by_cases e : j = k
           · subst e
             rw [hx, hy]
             obtain ⟨_, _, _⟩ := x
             obtain ⟨_, _, _⟩ := y
             simp_all
           · exact hI j (by omega))
    · repeat' ((conv => whnf); (first | refine Y.st ?_ | refine Tw.mk (fun _ => ?_) (fun _ => ?_) | fail))
      refine Rt.eq ?_
      have : a = b := List.ext_getElem? fun j => by
        by_cases hj : j < k
        · exact hI j hj
        · rw [List.getElem?_eq_none (by omega), List.getElem?_eq_none (by omega)]
      simp [this]
  · repeat' ((conv => whnf); (first | refine Y.st ?_ | refine Tw.mk (fun _ => ?_) (fun _ => ?_) | fail))
    refine Rt.eq ?_
    have : ¬ a = b := fun e => hl (by rw [e])
    simp [this]

/-! ### Amounts -/
def checkedF (ns : List Int) (out : Int) : Int × Int := if ns.all validAmt && validAmt out then (out, 0) else (0, 65)

theorem fs_amount_checked (N b : Nat) (x y out : Int) : FS PP N n_amount_checked [aI out, .row b 1 0 2] [(b, ⟨true, t_int, 1, [[aI x], [aI y]], some 2⟩)] (.tup [aI (checkedF [x, y] out).1, aI (checkedF [x, y] out).2]) [(b, none)] := by
  refine i_amount_checked.upd (by simp) fun D hN hb => ?_
  repeat' ((conv => whnf); (first | refine Y.st ?_ | refine Tw.mk (fun _ => ?_) (fun _ => ?_) | fail))
  (refine Lp.go [0, 11, 12, 13] [] [nm D (4 + 1)] ?_; repeat' ((conv => whnf); (first | refine Y.st ?_ | intro d' hd' | fail)))
  refine l_nat D 3 (fun k => ∀ j, j < k → ∀ n, [x, y, out][j]? = some n → validAmt n = true) (fun k d => ⟨[(0, aI out), (11, .row (nm d 0) 1 0 3), (12, aI 3), (13, aI k)], [(nm d 0, ⟨true, t_int, 1, [x, y, out].map cI, none⟩)], d, 1⟩) (fun k hk hI d hd ih => ?_) (fun j h => by omega) d' (by omega)
  by_cases hlt : k < 3
  · obtain ⟨n, hn⟩ : ∃ n, [x, y, out][k]? = some n := ⟨[x, y, out][k], by simp [hlt]⟩
    repeat' ((conv => whnf); (first | refine El.map hn ?_ | ((with_reducible refine Cl.id ?_); (first | refine Y.pu (fs_amount_Valid _ _) ?_ | fail)) | refine Y.st ?_ | refine Tw.mk (fun _ => ?_) (fun _ => ?_) | fail))
    · (refine Lp.go [0, 11, 12, 13] [] [nm d 0] ?_; repeat' ((conv => whnf); (first | refine Y.st ?_ | intro d2 hd2 | fail)))
      refine ih hlt (fun j hj m hm => ?_) d2 (by omega)
      by_cases e : j = k
      · subst e; rw [hn] at hm; injection hm with hm; subst hm; assumption
      · exact hI j (by omega) m hm
    · refine Rt.del ?_
      have : checkedF [x, y] out = (0, 65) := by
        unfold checkedF
        rw [if_neg]
        have hk3 : k = 0 ∨ k = 1 ∨ k = 2 := by omega
        rcases hk3 with rfl | rfl | rfl <;> simp at hn <;> subst hn <;> simp [*]
      rw [this]
  · repeat' ((conv => whnf); (first | refine Y.st ?_ | refine Tw.mk (fun _ => ?_) (fun _ => ?_) | fail))
    refine Rt.del ?_
    have h0 := hI 0 (by omega) x rfl
    have h1 := hI 1 (by omega) y rfl
    have h2 := hI 2 (by omega) out rfl
    simp [checkedF, h0, h1, h2]

theorem fs_amount_Add (N : Nat) (x y : Int) : FS PP N n_amount_Add [aI x, aI y] [] (.tup [aI (checkedF [x, y] (IntKind.i64.wrap (x + y))).1, aI (checkedF [x, y] (IntKind.i64.wrap (x + y))).2]) [] := by
  refine i_amount_Add.pure (by simp) fun D _ => ?_
  repeat' ((conv => whnf); (first | refine Wp.any ?_ | ((with_reducible refine Cl.id ?_); (first | (refine Y.del (fs_amount_checked _ _ x y _) ?_ ?_; exact Y.lk) | fail)) | refine Y.st ?_ | refine Tw.mk (fun _ => ?_) (fun _ => ?_) | fail))
  refine Rt.eq rfl
end Go.Proofs.Ytneoeegpceompaa.AM
