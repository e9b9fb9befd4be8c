/-
The walk, part 9: the reference of the chapter 37: lines found and checked.
-/
import Derived.Test.YtneoeegpceompaaB1
set_option linter.unusedVariables false
set_option linter.unusedSimpArgs false
namespace Go.Proofs.Ytneoeegpceompaa.AM
open Go Go.Proofs Go.Proofs.Ytneoeegpceompaa.Pl

theorem fs_r37_at (N : Nat) (l : List Line) (m : Int) (c : ByteArray) (i : Int) (hl : l.length ≤ 1000000) : FS PP N n_r37_at [sL l, aI m, .agg [.v (.string c), aI i]] [] (aI (placeL l m ⟨c, i⟩)) [] := by
  refine i_r37_at.pure (by simp) fun D _ => ?_
  repeat' ((conv => whnf); (first | refine Y.st ?_ | refine Tw.mk (fun _ => ?_) (fun _ => ?_) | fail))
  (refine Lp.go [1, 5, 9, 10, 11] [] [nm D 0] ?_; repeat' ((conv => whnf); (first | refine Y.st ?_ | intro d' hd' | fail)))
  refine l_nat D l.length (fun k => ∀ j, j < k → ∀ b, l[j]? = some b → decide (b.acc = m ∧ b.asset = ⟨c, i⟩) = false) (fun k d => ⟨[(1, aI m), (5, .pt (nm d 0) 2 0 0), (9, sL l), (10, aI l.length), (11, aI k)], [(nm d 0, ⟨true, t_Asset, 2, [[.v (.string c), aI i]], some 1⟩)], d, 1⟩) (fun k hk hI d hd ih => ?_) (fun j h => by omega) d' (by omega)
  by_cases hlt : k < l.length
  · obtain ⟨a, ha⟩ : ∃ a, l[k]? = some a := ⟨l[k], by simp [hlt]⟩
    by_cases he : a.acc = m ∧ a.asset.code = c ∧ a.asset.issuer = i
    · obtain ⟨h1, h2, h3⟩ := he
      repeat' ((conv => whnf); (first | refine Br.asset (fun _ => ?_) (fun h => absurd ⟨h2, h3⟩ h) | refine Y.st ?_ | refine Tw.mk (fun _ => ?_) (fun _ => ?_) | fail))
      refine Rt.eq ?_
      unfold placeL
      rw [idx_hit ha (decide_eq_true ⟨h1, by rw [← h2, ← h3]⟩) hI]
    · repeat' ((conv => whnf); (first | refine Br.asset (fun h => absurd ⟨‹_›, h⟩ he) (fun _ => ?_) | refine Y.st ?_ | refine Tw.mk (fun _ => ?_) (fun _ => ?_) | fail))
      all_goals
        (refine Lp.go [1, 5, 9, 10, 11] [] [nm d 0] ?_; repeat' ((conv => whnf); (first | refine Y.st ?_ | intro d2 hd2 | fail)))
        refine ih hlt (fun j hj b hb => ?_) d2 (by omega)
        by_cases e : j = k
        · subst e
          rw [ha] at hb; injection hb with hb; subst hb
          exact decide_eq_false fun h => he ⟨h.1, by rw [h.2], by rw [h.2]⟩
        · exact hI j (by omega) b hb
  · repeat' ((conv => whnf); (first | refine Y.st ?_ | refine Tw.mk (fun _ => ?_) (fun _ => ?_) | fail))
    refine Rt.eq ?_
    unfold placeL
    rw [idx_none fun j b hb => hI j (by have := (List.getElem?_eq_some_iff.1 hb).1; omega) b hb]

theorem fs_r37_Find (N : Nat) (l : List Line) (m : Int) (c : ByteArray) (i : Int) (hl : l.length ≤ 1000000) : FS PP N n_r37_Find [sL l, aI m, .agg [.v (.string c), aI i]] [] (.tup [.agg (cL (findL l m ⟨c, i⟩)), aB (hasL l m ⟨c, i⟩)]) [] := by
  refine i_r37_Find.pure (by simp) fun D _ => ?_
  have hlt := placeL_lt l m ⟨c, i⟩
  by_cases h : 0 ≤ placeL l m ⟨c, i⟩
  · obtain ⟨a, h1, h2, h3, h4⟩ := findL_yes h
    repeat' ((conv => whnf); (first | ((with_reducible refine Cl.id ?_); (first | refine Y.pu (fs_r37_at _ l m c i hl) ?_ | fail)) | refine Y.st ?_ | refine Tw.mk (fun _ => ?_) (fun _ => ?_) | fail))
    refine Rt.eq ?_
    rw [h3, h4]; rfl
  · obtain ⟨h3, h4⟩ := findL_no (show placeL l m ⟨c, i⟩ < 0 by omega)
    repeat' ((conv => whnf); (first | ((with_reducible refine Cl.id ?_); (first | refine Y.pu (fs_r37_at _ l m c i hl) ?_ | fail)) | refine Y.st ?_ | refine Tw.mk (fun _ => ?_) (fun _ => ?_) | fail))
    refine Rt.eq ?_
    rw [h3, h4]; rfl

theorem Rt.int {N : Nat} {M : List (Nat × Blk)} {n m : Int} (h : m = n) : Rt N (fun _ => none) (aI m) (aI n) M := Rt.eq (by rw [h])
theorem Rt.bool {N : Nat} {M : List (Nat × Blk)} {n m : Bool} (h : m = n) : Rt N (fun _ => none) (aB m) (aB n) M := Rt.eq (by rw [h])

theorem chkL_acc {l : List Line} {accts : List Acct} (h : ¬ chkA accts = 0) : chkL l accts = chkA accts := by unfold chkL; rw [if_neg h]
theorem chkL_big {l : List Line} {accts : List Acct} (h : chkA accts = 0) (h2 : (60 : Int) < l.length) : chkL l accts = 3 := by unfold chkL; rw [if_pos h, if_pos (by omega)]
theorem chkL_bad {l : List Line} {accts : List Acct} (h : chkA accts = 0) (h2 : ¬ (60 : Int) < l.length) {k : Nat} (hb : ¬ goodAt (lineOk accts) (fun p x => beforeL p x.acc x.asset) l k) : chkL l accts = 74 := by
  unfold chkL goodL; rw [if_pos h, if_neg (by omega), good_not hb]; rfl
theorem chkL_ok {l : List Line} {accts : List Acct} (h : chkA accts = 0) (h2 : ¬ (60 : Int) < l.length) (hb : ∀ k, k < l.length → goodAt (lineOk accts) (fun p x => beforeL p x.acc x.asset) l k) : chkL l accts = 0 := by
  unfold chkL goodL; rw [if_pos h, if_neg (by omega), good_all hb]; rfl
theorem bad_ok {α : Type} {ok : α → Bool} {r : α → α → Bool} {l : List α} {k : Nat} {a : α} (ha : l[k]? = some a) (h : ok a = false) : ¬ goodAt ok r l k := fun g => by
  have := (g a ha).1; rw [h] at this; cases this
theorem bad_r {α : Type} {ok : α → Bool} {r : α → α → Bool} {l : List α} {k : Nat} {a p : α} (ha : l[k]? = some a) (hk : 0 < k) (hp : l[k - 1]? = some p) (h : r p a = false) : ¬ goodAt ok r l k := fun g => by
  have := (g a ha).2 p hk hp; rw [h] at this; cases this

theorem fs_r37_Check (N : Nat) (l : List Line) (g : List Acct) : FS PP N n_r37_Check [sL l, sA g] [] (aI (chkL l g)) [] := by
  refine i_r37_Check.pure (by simp) fun D _ => ?_
  by_cases h0 : chkA g = 0
  rotate_left
  · repeat' ((conv => whnf); (first | ((with_reducible refine Cl.id ?_); (first | refine Y.pu (fs_r36_Check _ g) ?_ | fail)) | refine Y.st ?_ | refine Tw.mk (fun _ => ?_) (fun _ => ?_) | fail))
    refine Rt.eq ?_; rw [chkL_acc h0]
  by_cases h60 : (60 : Int) < l.length
  · repeat' ((conv => whnf); (first | ((with_reducible refine Cl.id ?_); (first | refine Y.pu (fs_r36_Check _ g) ?_ | fail)) | refine Y.st ?_ | refine Tw.mk (fun _ => ?_) (fun _ => ?_) | fail))
    refine Rt.eq ?_; rw [chkL_big h0 h60]
  have hg := chkA_len h0
  repeat' ((conv => whnf); (first | ((with_reducible refine Cl.id ?_); (first | refine Y.pu (fs_r36_Check _ g) ?_ | fail)) | refine Y.st ?_ | refine Tw.mk (fun _ => ?_) (fun _ => ?_) | fail))
  (refine Lp.go [0, 1, 18, 19, 20] [] [] ?_; repeat' ((conv => whnf); (first | refine Y.st ?_ | intro d' hd' | fail)))
  refine l_nat D l.length (fun k => ∀ j, j < k → goodAt (lineOk g) (fun p x => beforeL p x.acc x.asset) l j) (fun k d => ⟨[(0, sL l), (1, sA g), (18, sL l), (19, aI l.length), (20, aI k)], [], d, 0⟩) (fun k hk hI d hd ih => ?_) (fun j h => by omega) d' (by omega)
  by_cases hlt : k < l.length
  · obtain ⟨a, ha⟩ : ∃ a, l[k]? = some a := ⟨l[k], by simp [hlt]⟩
    by_cases hk0 : 0 < k
    · obtain ⟨p, hp⟩ : ∃ p, l[k - 1]? = some p := ⟨_, List.getElem?_eq_getElem (by omega : k - 1 < l.length)⟩
      repeat' ((conv => whnf); (first | refine El.mapi hp (by omega) ?_ | ((with_reducible refine Cl.id ?_); (first | refine Y.pu (fs_r36_Find _ g _ (by omega)) ?_ | refine Y.pu (fs_r35_Asset _ _ _) ?_ | refine Y.pu (fs_r35_Native _ _ _) ?_ | refine Y.pu (fs_r35_Valid _ _) ?_ | refine Y.pu (fs_r37_before _ _ _ _ _ _ _ _ _) ?_ | fail)) | refine Y.st ?_ | refine Tw.mk (fun _ => ?_) (fun _ => ?_) | fail))
      all_goals first
        | (refine Rt.int (chkL_bad h0 h60 (bad_r ha hk0 hp ‹_›)))
        | (refine Rt.int (chkL_bad h0 h60 (bad_ok ha ?_)); clear ih hI; simp [lineOk, *]; done)
        | (refine Rt.int (chkL_bad h0 h60 (bad_ok ha ?_)); clear ih hI; simp [lineOk, *]; omega)
        | ((refine Lp.go [0, 1, 18, 19, 20] [] [] ?_; repeat' ((conv => whnf); (first | refine Y.st ?_ | intro d2 hd2 | fail)))
           refine ih hlt (fun j hj => ?_) d2 (by omega)
           by_cases e : j = k
           · subst e
             intro b hb
             rw [ha] at hb; injection hb with hb; subst hb
             refine ⟨?_, fun q _ hq => ?_⟩
             · clear ih hI
               simp [lineOk, *]
               omega
             · rw [hp] at hq; injection hq with hq; subst hq
               assumption
           · exact hI j (by omega))
    · repeat' ((conv => whnf); (first | ((with_reducible refine Cl.id ?_); (first | refine Y.pu (fs_r36_Find _ g _ (by omega)) ?_ | refine Y.pu (fs_r35_Asset _ _ _) ?_ | refine Y.pu (fs_r35_Native _ _ _) ?_ | refine Y.pu (fs_r35_Valid _ _) ?_ | fail)) | refine Y.st ?_ | refine Tw.mk (fun _ => ?_) (fun _ => ?_) | fail))
      all_goals first
        | (refine Rt.int (chkL_bad h0 h60 (bad_ok ha ?_)); clear ih hI; simp [lineOk, *]; done)
        | (refine Rt.int (chkL_bad h0 h60 (bad_ok ha ?_)); clear ih hI; simp [lineOk, *]; omega)
        | ((refine Lp.go [0, 1, 18, 19, 20] [] [] ?_; repeat' ((conv => whnf); (first | refine Y.st ?_ | intro d2 hd2 | fail)))
           refine ih hlt (fun j hj => ?_) d2 (by omega)
           by_cases e : j = k
           · subst e
             intro b hb
             rw [ha] at hb; injection hb with hb; subst hb
             refine ⟨?_, fun q hq _ => by omega⟩
             clear ih hI
             simp [lineOk, *]
             omega
           · exact hI j (by omega))
  · repeat' ((conv => whnf); (first | refine Y.st ?_ | refine Tw.mk (fun _ => ?_) (fun _ => ?_) | fail))
    refine Rt.eq ?_
    rw [chkL_ok h0 h60 (fun j hj => hI j (by omega))]
end Go.Proofs.Ytneoeegpceompaa.AM
