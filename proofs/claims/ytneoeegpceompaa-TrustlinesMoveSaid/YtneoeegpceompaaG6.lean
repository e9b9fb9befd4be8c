/-
The walk, part 23: the references' comparing of lines and ledgers; contracts told of whole ledgers.
-/
import Derived.Test.YtneoeegpceompaaG5
set_option linter.unusedVariables false
set_option linter.unusedSimpArgs false
namespace Go.Proofs.Ytneoeegpceompaa.AM
open Go Go.Proofs Go.Proofs.Ytneoeegpceompaa.Pl

theorem fs_r37_Same (N : Nat) (a b : List Line) (hn : a.length ≤ 1000000) : FS PP N n_r37_Same [sL a, sL b] [] (aB (decide (a = b))) [] := by
  refine i_r37_Same.pure (by simp) fun D _ => ?_
  by_cases hl : a.length = b.length
  · repeat' ((conv => whnf); (first | refine Y.st ?_ | refine Tw.mk (fun _ => ?_) (fun _ => ?_) | fail))
    (refine Lp.go [0, 1, 11, 12, 13] [] [] ?_; repeat' ((conv => whnf); (first | refine Y.st ?_ | intro d' hd' | fail)))
    refine l_nat D a.length (fun k => ∀ j, j < k → a[j]? = b[j]?) (fun k d => ⟨[(0, sL a), (1, sL b), (11, sL a), (12, aI a.length), (13, aI k)], [], d, 0⟩) (fun k hk hI d hd ih => ?_) (fun j h => by omega) d' (by omega)
    by_cases hlt : k < a.length
    · obtain ⟨x, hx⟩ : ∃ x, a[k]? = some x := ⟨a[k], by simp [hlt]⟩
      obtain ⟨y, hy⟩ : ∃ y, b[k]? = some y := ⟨b[k]'(by omega), by simp⟩
      repeat' ((conv => whnf); (first | refine El.mapi hx rfl ?_ | refine El.mapi hy rfl ?_ | refine Y.st ?_ | refine Tw.mk (fun _ => ?_) (fun _ => ?_) | fail))
      all_goals first
        | (refine Rt.eq ?_
           have : ¬ a = b := fun e => by
             subst e; rw [hx] at hy; injection hy with hy; subst hy; simp at *
           simp [this])
        | ((refine Lp.go [0, 1, 11, 12, 13] [] [] ?_; repeat' ((conv => whnf); (first | refine Y.st ?_ | intro d2 hd2 | fail)))
           refine ih hlt (fun j hj => ?_) d2 (by omega)
           by_cases e : j = k
           · subst e
             rw [hx, hy]
             obtain ⟨_, ⟨_, _⟩, _, _⟩ := x
             obtain ⟨_, ⟨_, _⟩, _, _⟩ := y
             simp_all
           · exact hI j (by omega))
    · repeat' ((conv => whnf); (first | refine Y.st ?_ | refine Tw.mk (fun _ => ?_) (fun _ => ?_) | fail))
      refine Rt.eq ?_
      have : a = b := List.ext_getElem? fun j => by
        by_cases hj : j < k
        · exact hI j hj
        · rw [List.getElem?_eq_none (by omega), List.getElem?_eq_none (by omega)]
      simp [this]
  · repeat' ((conv => whnf); (first | refine Y.st ?_ | refine Tw.mk (fun _ => ?_) (fun _ => ?_) | fail))
    refine Rt.eq ?_
    have : ¬ a = b := fun e => hl (by rw [e])
    simp [this]

theorem fs_r37_Ledgers (N : Nat) (g h : Ledg) (ha : g.accts.length ≤ 1000000) (hl : g.lines.length ≤ 1000000) (ho : g.offers.length ≤ 1000000) :
    FS PP N n_r37_Ledgers [eG g, eG h] [] (aB (decide (g = h))) [] := by
  obtain ⟨n, a, l, o, x, f, y⟩ := g
  obtain ⟨n', a', l', o', x', f', y'⟩ := h
  dsimp only at ha hl ho
  show FS PP N n_r37_Ledgers [.agg (cG n a l o x f y), .agg (cG n' a' l' o' x' f' y')] [] _ []
  refine i_r37_Ledgers.pure (by simp) fun D _ => ?_
  by_cases ho2 : o.length = o'.length
  · repeat' ((conv => whnf); (first | ((with_reducible refine Cl.id ?_); (first | refine Y.pu (fs_r36_Same _ a a' ha) ?_ | refine Y.pu (fs_r37_Same _ l l' hl) ?_ | fail)) | refine Y.st ?_ | refine Tw.mk (fun _ => ?_) (fun _ => ?_) | fail))
    all_goals try (exact Rt.bool (by clear ha hl ho; simp_all; done))
    (refine Lp.go [2, 3, 59, 60] [] [nm D 0, nm D 1] ?_; repeat' ((conv => whnf); (first | refine Y.st ?_ | intro d' hd' | fail)))
    refine l_nat D o.length (fun k => ∀ j, j < k → o[j]? = o'[j]?) (fun k d => ⟨[(2, .pt (nm d 0) 7 0 0), (3, .pt (nm d 1) 7 0 0), (59, aI o.length), (60, aI k)], [(nm d 1, ⟨true, t_Ledger, 7, [cG n' a' l' o' x' f' y'], some 1⟩), (nm d 0, ⟨true, t_Ledger, 7, [cG n a l o x f y], some 1⟩)], d, 2⟩) (fun k hk hI d hd ih => ?_) (fun j h => by omega) d' (by omega)
    by_cases hlt : k < o.length
    · obtain ⟨p, hp⟩ : ∃ p, o[k]? = some p := ⟨o[k], by simp [hlt]⟩
      obtain ⟨q, hq⟩ : ∃ q, o'[k]? = some q := ⟨o'[k]'(by omega), by simp⟩
      repeat' ((conv => whnf); (first | refine El.mapi hp rfl ?_ | refine El.mapi hq rfl ?_ | refine Y.st ?_ | refine Tw.mk (fun _ => ?_) (fun _ => ?_) | fail))
      all_goals first
        | (refine Rt.bool ?_
           have : ¬ o = o' := fun e => by
             subst e; rw [hp] at hq; injection hq with hq; subst hq; simp at *
           simp [this])
        | ((refine Lp.go [2, 3, 59, 60] [] [nm d 0, nm d 1] ?_; repeat' ((conv => whnf); (first | refine Y.st ?_ | intro d2 hd2 | fail)))
           refine ih hlt (fun j hj => ?_) d2 (by omega)
           by_cases e : j = k
           · subst e
             rw [hp, hq]
             obtain ⟨_, _, ⟨_, _⟩, ⟨_, _⟩, _, _, _⟩ := p
             obtain ⟨_, _, ⟨_, _⟩, ⟨_, _⟩, _, _, _⟩ := q
             simp_all
           · exact hI j (by omega))
    · repeat' ((conv => whnf); (first | refine Y.st ?_ | refine Tw.mk (fun _ => ?_) (fun _ => ?_) | fail))
      refine Rt.bool ?_
      have : o = o' := List.ext_getElem? fun j => by
        by_cases hj : j < k
        · exact hI j hj
        · rw [List.getElem?_eq_none (by omega), List.getElem?_eq_none (by omega)]
      simp [*]
  · have : ¬ o = o' := fun e => ho2 (by rw [e])
    repeat' ((conv => whnf); (first | ((with_reducible refine Cl.id ?_); (first | refine Y.pu (fs_r36_Same _ a a' ha) ?_ | refine Y.pu (fs_r37_Same _ l l' hl) ?_ | fail)) | refine Y.st ?_ | refine Tw.mk (fun _ => ?_) (fun _ => ?_) | fail))
    all_goals (exact Rt.bool (by clear ha hl ho; simp_all))

/-! ### Contracts told of whole ledgers -/
abbrev aS (s : Asset) : AV := .agg [.v (.string s.code), aI s.issuer]
theorem fsg_Credit (N : Nat) (g : Ledg) (i : Int) (s : Asset) (n : Int) (ha : g.accts.length ≤ 1000000) (ho : g.offers.length ≤ 1000000) :
    FS PP N n_trustlines_Credit [eG g, aI i, aS s, aI n] [] (.tup [eG (creditF g i s n).1, aI (creditF g i s n).2]) [] := fs_trustlines_Credit N g.number g.accts g.lines g.offers g.next g.fees g.link i s.code s.issuer n ha ho
theorem fsg_Debit (N : Nat) (g : Ledg) (i : Int) (s : Asset) (n : Int) (ha : g.accts.length ≤ 1000000) (ho : g.offers.length ≤ 1000000) :
    FS PP N n_trustlines_Debit [eG g, aI i, aS s, aI n] [] (.tup [eG (debitF g i s n).1, aI (debitF g i s n).2]) [] := fs_trustlines_Debit N g.number g.accts g.lines g.offers g.next g.fees g.link i s.code s.issuer n ha ho
theorem fsg_Held (N : Nat) (g : Ledg) (i : Int) (s : Asset) : FS PP N n_trustlines_Held [eG g, aI i, aS s] [] (aI (heldA g i s)) [] := fs_trustlines_Held N g.number g.accts g.lines g.offers g.next g.fees g.link i s.code s.issuer
theorem fsg_r37_Held (N : Nat) (g : Ledg) (i : Int) (s : Asset) (ha : g.accts.length ≤ 1000000) (hl : g.lines.length ≤ 1000000) : FS PP N n_r37_Held [eG g, aI i, aS s] [] (aI (heldA g i s)) [] := fs_r37_Held N g.number g.accts g.lines g.offers g.next g.fees g.link i s.code s.issuer ha hl
theorem fsg_Room (N : Nat) (g : Ledg) (i : Int) (s : Asset) : FS PP N n_trustlines_Room [eG g, aI i, aS s] [] (aI (roomA g i s)) [] := fs_trustlines_Room N g.number g.accts g.lines g.offers g.next g.fees g.link i s.code s.issuer
theorem fsg_r37_Room (N : Nat) (g : Ledg) (i : Int) (s : Asset) (ha : g.accts.length ≤ 1000000) (hl : g.lines.length ≤ 1000000) : FS PP N n_r37_Room [eG g, aI i, aS s] [] (aI (roomA g i s)) [] := fs_r37_Room N g.number g.accts g.lines g.offers g.next g.fees g.link i s.code s.issuer ha hl
theorem fsg_Find (N : Nat) (l : List Line) (i : Int) (s : Asset) (hl : l.length ≤ 1000000) : FS PP N n_trustlines_Find [sL l, aI i, aS s] [] (.tup [.agg (cL (findL l i s)), aB (hasL l i s)]) [] := fs_trustlines_Find N l i s.code s.issuer hl
theorem fsg_Issued (N : Nat) (l : List Line) (s : Asset) (hl : l.length ≤ 1000000) (hb : ∀ x ∈ l, 0 ≤ x.bal ∧ x.bal ≤ 1000000000000) : FS PP N n_trustlines_Issued [sL l, aS s] [] (aI (issued l s)) [] := fs_trustlines_Issued N l s.code s.issuer hl hb
end Go.Proofs.Ytneoeegpceompaa.AM
