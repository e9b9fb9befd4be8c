/-
The walk, part 11: the reference of the chapter 38: checking, adding offers.
-/
import Derived.Test.YtneoeegpceompaaB3
set_option linter.unusedVariables false
set_option linter.unusedSimpArgs false
namespace Go.Proofs.Ytneoeegpceompaa.AM
open Go Go.Proofs Go.Proofs.Ytneoeegpceompaa.Pl

theorem fs_r38_holds (N : Nat) (n : Int) (a : List Acct) (l : List Line) (o : List Offer) (x f k : Int) (i : Int) (c : ByteArray) (j : Int) (hl : l.length ≤ 1000000) :
    FS PP N n_r38_holds [.agg (cG n a l o x f k), aI i, .agg [.v (.string c), aI j]] [] (aB (linedA ⟨n, a, l, o, x, f, k⟩ i ⟨c, j⟩)) [] := by
  refine i_r38_holds.pure (by simp) fun D _ => ?_
  repeat' ((conv => whnf); (first | ((with_reducible refine Cl.id ?_); (first | refine Y.pu (fs_r37_Find _ l _ _ _ hl) ?_ | refine Y.pu (fs_r35_Native _ _ _) ?_ | fail)) | refine Y.st ?_ | refine Tw.mk (fun _ => ?_) (fun _ => ?_) | fail))
  all_goals (refine Rt.bool ?_; simp [linedA, *])


theorem asset_iff {a b : Asset} : a = b ↔ a.code = b.code ∧ a.issuer = b.issuer := by
  obtain ⟨_, _⟩ := a; obtain ⟨_, _⟩ := b; simp
theorem chkG_pre {g : Ledg} (h : ¬ chkL g.lines g.accts = 0) : chkG g = chkL g.lines g.accts := by unfold chkG; rw [if_neg h]
theorem chkG_big {g : Ledg} (h : chkL g.lines g.accts = 0) (h2 : (40 : Int) < g.offers.length) : chkG g = 3 := by unfold chkG; rw [if_pos h, if_pos (by omega)]
theorem chkG_bad {g : Ledg} (h : chkL g.lines g.accts = 0) (h2 : ¬ (40 : Int) < g.offers.length) (hb : goodG g = false) : chkG g = 74 := by unfold chkG; rw [if_pos h, if_neg (by omega), hb]; rfl
theorem chkG_ok {g : Ledg} (h : chkL g.lines g.accts = 0) (h2 : ¬ (40 : Int) < g.offers.length) (hb : goodG g = true) : chkG g = 0 := by unfold chkG; rw [if_pos h, if_neg (by omega), hb]; rfl
theorem goodG_bad {g : Ledg} {k : Nat} (hb : ¬ goodAt (offerOk g) (fun p o => decide (p.id < o.id)) g.offers k) : goodG g = false := by
  unfold goodG; rw [good_not hb]; simp

theorem fs_r38_Check (N : Nat) (n : Int) (a : List Acct) (l : List Line) (o : List Offer) (x f y : Int) :
    FS PP N n_r38_Check [.agg (cG n a l o x f y)] [] (aI (chkG ⟨n, a, l, o, x, f, y⟩)) [] := by
  refine i_r38_Check.pure (by simp) fun D _ => ?_
  by_cases h0 : chkL l a = 0
  rotate_left
  · repeat' ((conv => whnf); (first | ((with_reducible refine Cl.id ?_); (first | refine Y.pu (fs_r37_Check _ _ _) ?_ | fail)) | refine Y.st ?_ | refine Tw.mk (fun _ => ?_) (fun _ => ?_) | fail))
    exact Rt.int (chkG_pre h0)
  by_cases h40 : (40 : Int) < o.length
  · repeat' ((conv => whnf); (first | ((with_reducible refine Cl.id ?_); (first | refine Y.pu (fs_r37_Check _ _ _) ?_ | fail)) | refine Y.st ?_ | refine Tw.mk (fun _ => ?_) (fun _ => ?_) | fail))
    exact Rt.int (chkG_big h0 h40)
  by_cases hh : (decide (1 ≤ x ∧ x ≤ 1000000) && (validAmt f && decide (0 ≤ n ∧ n ≤ 1000000))) = true
  rotate_left
  · have hb : goodG ⟨n, a, l, o, x, f, y⟩ = false := by
      simp only [Bool.not_eq_true, Bool.and_eq_false_iff] at hh
      simp only [goodG, Bool.and_eq_false_iff]
      rcases hh with h | h | h
      · exact .inl h
      · exact .inr (.inl h)
      · exact .inr (.inr (.inl h))
    simp at hh
    repeat' ((conv => whnf); (first | ((with_reducible refine Cl.id ?_); (first | refine Y.pu (fs_r37_Check _ _ _) ?_ | refine Y.pu (fs_r35_Valid _ _) ?_ | fail)) | refine Y.st ?_ | refine Tw.mk (fun _ => ?_) (fun _ => ?_) | fail))
    all_goals first | exact Rt.int (chkG_bad h0 h40 hb) | (exfalso; have := hh ‹_› ‹_› ‹_›; omega) | (exfalso; have := hh (by omega) (by omega) ‹_›; omega)
  simp only [Bool.and_eq_true, decide_eq_true_eq] at hh
  obtain ⟨hh1, hh2, hh3⟩ := hh
  have hA := chkA_len (chkL_len h0).2.1
  repeat' ((conv => whnf); (first | ((with_reducible refine Cl.id ?_); (first | refine Y.pu (fs_r37_Check _ _ _) ?_ | refine Y.pu (fs_r35_Valid _ _) ?_ | fail)) | refine Y.st ?_ | refine Tw.mk (fun _ => ?_) (fun _ => ?_) | fail))
  (refine Lp.go [1, 47, 48, 49] [] [nm D 0] ?_; repeat' ((conv => whnf); (first | refine Y.st ?_ | intro d' hd' | fail)))
  refine l_nat D o.length (fun k => ∀ j, j < k → goodAt (offerOk ⟨n, a, l, o, x, f, y⟩) (fun p o => decide (p.id < o.id)) o j) (fun k d => ⟨[(1, .pt (nm d 0) 7 0 0), (47, sO o), (48, aI o.length), (49, aI k)], [(nm d 0, ⟨true, t_Ledger, 7, [cG n a l o x f y], some 1⟩)], d, 1⟩) (fun k hk hI d hd ih => ?_) (fun j h => by omega) d' (by omega)
  by_cases hlt : k < o.length
  · obtain ⟨b, hb⟩ : ∃ b, o[k]? = some b := ⟨o[k], by simp [hlt]⟩
    by_cases hk0 : 0 < k
    · obtain ⟨p, hp⟩ : ∃ p, o[k - 1]? = some p := ⟨_, List.getElem?_eq_getElem (by omega : k - 1 < o.length)⟩
      repeat' ((conv => whnf); (first | refine El.mapi hp (by omega) ?_ | ((with_reducible refine Cl.id ?_); (first | refine Y.pu (fs_r36_Find _ a _ (by omega)) ?_ | refine Y.pu (fs_r35_Reduce _ _ _) ?_ | refine Y.pu (fs_r35_Asset _ _ _) ?_ | refine Y.pu (fs_r35_Valid _ _) ?_ | fail)) | refine Y.st ?_ | refine Tw.mk (fun _ => ?_) (fun _ => ?_) | fail))
      all_goals first
        | (refine Rt.int (chkG_bad h0 h40 (goodG_bad (bad_ok hb ?_))); clear ih hI; simp [offerOk, asset_iff, *]; done)
        | (refine Rt.int (chkG_bad h0 h40 (goodG_bad (bad_ok hb ?_))); clear ih hI; simp [offerOk, asset_iff, *]; omega)
        | (refine Rt.int (chkG_bad h0 h40 (goodG_bad (bad_r hb hk0 hp (decide_eq_false (by omega)))))
           done)
        | ((refine Lp.go [1, 47, 48, 49] [] [nm d 0] ?_; repeat' ((conv => whnf); (first | refine Y.st ?_ | intro d2 hd2 | fail)))
           refine ih hlt (fun j hj => ?_) d2 (by omega)
           by_cases e : j = k
           · subst e
             intro b' hb'
             rw [hb] at hb'; injection hb' with hb'; subst hb'
             refine ⟨?_, fun q _ hq => ?_⟩
             · clear ih hI
               simp [offerOk, asset_iff, *]
               omega
             · rw [hp] at hq; injection hq with hq; subst hq
               exact decide_eq_true (by omega)
           · exact hI j (by omega))
    · repeat' ((conv => whnf); (first | ((with_reducible refine Cl.id ?_); (first | refine Y.pu (fs_r36_Find _ a _ (by omega)) ?_ | refine Y.pu (fs_r35_Reduce _ _ _) ?_ | refine Y.pu (fs_r35_Asset _ _ _) ?_ | refine Y.pu (fs_r35_Valid _ _) ?_ | fail)) | refine Y.st ?_ | refine Tw.mk (fun _ => ?_) (fun _ => ?_) | fail))
      all_goals first
        | (refine Rt.int (chkG_bad h0 h40 (goodG_bad (bad_ok hb ?_))); clear ih hI; simp [offerOk, asset_iff, *]; done)
        | (refine Rt.int (chkG_bad h0 h40 (goodG_bad (bad_ok hb ?_))); clear ih hI; simp [offerOk, asset_iff, *]; omega)
        | ((refine Lp.go [1, 47, 48, 49] [] [nm d 0] ?_; repeat' ((conv => whnf); (first | refine Y.st ?_ | intro d2 hd2 | fail)))
           refine ih hlt (fun j hj => ?_) d2 (by omega)
           by_cases e : j = k
           · subst e
             intro b' hb'
             rw [hb] at hb'; injection hb' with hb'; subst hb'
             refine ⟨?_, fun q hq _ => by omega⟩
             clear ih hI
             simp [offerOk, asset_iff, *]
             omega
           · exact hI j (by omega))
  · repeat' ((conv => whnf); (first | refine Y.st ?_ | refine Tw.mk (fun _ => ?_) (fun _ => ?_) | fail))
    refine Rt.int (chkG_ok h0 h40 ?_)
    have := good_all (fun j (hj : j < o.length) => hI j (by omega))
    simp only [goodG, hh1, hh2, hh3, this]
    simp
end Go.Proofs.Ytneoeegpceompaa.AM
