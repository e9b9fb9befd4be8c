/-
The walk, part 19: trustlines: lines checked; what is held, room.
-/
import Derived.Test.YtneoeegpceompaaG1
import Derived.Test.YtneoeegpceompaaH1
set_option linter.unusedVariables false
set_option linter.unusedSimpArgs false
namespace Go.Proofs.Ytneoeegpceompaa.AM
open Go Go.Proofs Go.Proofs.Ytneoeegpceompaa.Pl

theorem before_key (p a : Line) : beforeL p a.acc a.asset = decide (keyC p.acc ⟨p.asset.code, p.asset.issuer⟩ a.acc ⟨a.asset.code, a.asset.issuer⟩ < 0) := by
  rw [Bool.eq_iff_iff]
  simp [beforeL, keyC_neg]

theorem fs_trustlines_Check (N : Nat) (l : List Line) (g : List Acct) : FS PP N n_trustlines_Check [sL l, sA g] [] (aI (chkL l g)) [] := by
  refine i_trustlines_Check.pure (by simp) fun D _ => ?_
  by_cases h0 : chkA g = 0
  rotate_left
  · repeat' ((conv => whnf); (first | ((with_reducible refine Cl.id ?_); (first | refine Y.pu (fs_accounts_Check _ g) ?_ | fail)) | refine Y.st ?_ | refine Tw.mk (fun _ => ?_) (fun _ => ?_) | fail))
    refine Rt.int ?_; rw [chkL_acc h0]
  by_cases h60 : (60 : Int) < l.length
  · repeat' ((conv => whnf); (first | ((with_reducible refine Cl.id ?_); (first | refine Y.pu (fs_accounts_Check _ g) ?_ | fail)) | refine Y.st ?_ | refine Tw.mk (fun _ => ?_) (fun _ => ?_) | fail))
    refine Rt.int ?_; rw [chkL_big h0 h60]
  have hg := chkA_len h0
  repeat' ((conv => whnf); (first | ((with_reducible refine Cl.id ?_); (first | refine Y.pu (fs_accounts_Check _ g) ?_ | fail)) | refine Y.st ?_ | refine Tw.mk (fun _ => ?_) (fun _ => ?_) | fail))
  (refine Lp.go [0, 1, 18, 19, 20] [] [] ?_; repeat' ((conv => whnf); (first | refine Y.st ?_ | intro d' hd' | fail)))
  refine l_nat D l.length (fun k => ∀ j, j < k → goodAt (lineOk g) (fun p x => beforeL p x.acc x.asset) l j) (fun k d => ⟨[(0, sL l), (1, sA g), (18, sL l), (19, aI l.length), (20, aI k)], [], d, 0⟩) (fun k hk hI d hd ih => ?_) (fun j h => by omega) d' (by omega)
  by_cases hlt : k < l.length
  · obtain ⟨a, ha⟩ : ∃ a, l[k]? = some a := ⟨l[k], by simp [hlt]⟩
    by_cases hk0 : 0 < k
    · obtain ⟨p, hp⟩ : ∃ p, l[k - 1]? = some p := ⟨_, List.getElem?_eq_getElem (by omega : k - 1 < l.length)⟩
      have hbk := before_key p a
      cases hb : beforeL p a.acc a.asset with
      | false =>
        rw [hb] at hbk
        have hkk : ¬ keyC p.acc ⟨p.asset.code, p.asset.issuer⟩ a.acc ⟨a.asset.code, a.asset.issuer⟩ < 0 := by simpa using hbk.symm
        clear hbk
        repeat' ((conv => whnf); (first | refine El.mapi hp (by omega) ?_ | ((with_reducible refine Cl.id ?_); (first | refine Y.pu (fs_accounts_Find _ g _ (by omega)) ?_ | refine Y.pu (fs_amount_Asset _ _ _) ?_ | refine Y.pu (fs_amount_Native _ _ _) ?_ | refine Y.pu (fs_amount_Valid _ _) ?_ | refine Y.pu (fs_trustlines_of _ _ _ _ _ _) ?_ | refine Y.pu (fs_key_compare _ _ _ _ _ _ _) ?_ | fail)) | refine Y.st ?_ | refine Tw.mk (fun _ => ?_) (fun _ => ?_) | fail))
        all_goals first
          | (refine Rt.int (chkL_bad h0 h60 (bad_r ha hk0 hp hb)))
      | true =>
        rw [hb] at hbk
        have hkk : keyC p.acc ⟨p.asset.code, p.asset.issuer⟩ a.acc ⟨a.asset.code, a.asset.issuer⟩ < 0 := by simpa using hbk.symm
        clear hbk
        repeat' ((conv => whnf); (first | refine El.mapi hp (by omega) ?_ | ((with_reducible refine Cl.id ?_); (first | refine Y.pu (fs_accounts_Find _ g _ (by omega)) ?_ | refine Y.pu (fs_amount_Asset _ _ _) ?_ | refine Y.pu (fs_amount_Native _ _ _) ?_ | refine Y.pu (fs_amount_Valid _ _) ?_ | refine Y.pu (fs_trustlines_of _ _ _ _ _ _) ?_ | refine Y.pu (fs_key_compare _ _ _ _ _ _ _) ?_ | fail)) | refine Y.st ?_ | refine Tw.mk (fun _ => ?_) (fun _ => ?_) | fail))
        all_goals first
          | (refine Rt.int (chkL_bad h0 h60 (bad_ok ha ?_)); clear ih hI; simp [lineOk, *]; done)
          | (refine Rt.int (chkL_bad h0 h60 (bad_ok ha ?_)); clear ih hI; simp [lineOk, *]; omega)
          | ((refine Lp.go [0, 1, 18, 19, 20] [] [] ?_; repeat' ((conv => whnf); (first | refine Y.st ?_ | intro d2 hd2 | fail)))
             refine ih hlt (fun j hj => ?_) d2 (by omega)
             by_cases e : j = k
             · subst e
               intro b hb
               rw [ha] at hb; injection hb with hb; subst hb
               refine ⟨?_, fun q _ hq => ?_⟩
               · clear ih hI
                 simp [lineOk, *]
                 omega
               · rw [hp] at hq; injection hq with hq; subst hq
                 assumption
             · exact hI j (by omega))
    · repeat' ((conv => whnf); (first | ((with_reducible refine Cl.id ?_); (first | refine Y.pu (fs_accounts_Find _ g _ (by omega)) ?_ | refine Y.pu (fs_amount_Asset _ _ _) ?_ | refine Y.pu (fs_amount_Native _ _ _) ?_ | refine Y.pu (fs_amount_Valid _ _) ?_ | fail)) | refine Y.st ?_ | refine Tw.mk (fun _ => ?_) (fun _ => ?_) | fail))
      all_goals first
        | (refine Rt.int (chkL_bad h0 h60 (bad_ok ha ?_)); clear ih hI; simp [lineOk, *]; done)
        | (refine Rt.int (chkL_bad h0 h60 (bad_ok ha ?_)); clear ih hI; simp [lineOk, *]; omega)
        | ((refine Lp.go [0, 1, 18, 19, 20] [] [] ?_; repeat' ((conv => whnf); (first | refine Y.st ?_ | intro d2 hd2 | fail)))
           refine ih hlt (fun j hj => ?_) d2 (by omega)
           by_cases e : j = k
           · subst e
             intro b hb
             rw [ha] at hb; injection hb with hb; subst hb
             refine ⟨?_, fun q hq _ => by omega⟩
             clear ih hI
             simp [lineOk, *]
             omega
           · exact hI j (by omega))
  · repeat' ((conv => whnf); (first | refine Y.st ?_ | refine Tw.mk (fun _ => ?_) (fun _ => ?_) | fail))
    refine Rt.int ?_
    rw [chkL_ok h0 h60 fun j hj => hI j (by omega)]

theorem fs_trustlines_right (N : Nat) (n : Int) (a : List Acct) (l : List Line) (o : List Offer) (x f k : Int) : FS PP N n_trustlines_right [.agg (cG n a l o x f k)] [] (aB (rightG ⟨n, a, l, o, x, f, k⟩)) [] := by
  refine i_trustlines_right.pure (by simp) fun D _ => ?_
  repeat' ((conv => whnf); (first | ((with_reducible refine Cl.id ?_); (first | refine Y.pu (fs_trustlines_Check _ _ _) ?_ | fail)) | refine Y.st ?_ | refine Tw.mk (fun _ => ?_) (fun _ => ?_) | fail))
  refine Rt.bool ?_
  rw [rightG, Bool.eq_iff_iff]; simp

/-- How an account stands: what it holds, its room, whether it has a place. -/
def lookF (a : List Acct) (l : List Line) (i : Int) (s : Asset) : Int × Int × Bool :=
  if hasA a i && assetOk s then (if nativeA s then ((findA a i).bal, 1000000000000 - (findA a i).bal, true) else if s.issuer = i then (1000000000000, 1000000000000, true) else ((findL l i s).bal, (findL l i s).lim - (findL l i s).bal, hasL l i s)) else (0, 0, false)

theorem fs_trustlines_look (N : Nat) (n : Int) (a : List Acct) (l : List Line) (o : List Offer) (x f k : Int) (i : Int) (c : ByteArray) (j : Int) (hc : chkL l a = 0) :
    FS PP N n_trustlines_look [.agg (cG n a l o x f k), aI i, .agg [.v (.string c), aI j]] [] (.tup [.agg [aI (lookF a l i ⟨c, j⟩).1, aI (lookF a l i ⟨c, j⟩).2.1], aB (lookF a l i ⟨c, j⟩).2.2]) [] := by
  refine i_trustlines_look.pure (by simp) fun D _ => ?_
  have hb := findL_bounds hc i ⟨c, j⟩
  have hb2 := findA_bounds (chkL_len hc).2.1 i
  have ha : a.length ≤ 1000000 := by have := chkA_len (chkL_len hc).2.1; omega
  have hl : l.length ≤ 1000000 := by have := (chkL_len hc).1; omega
  unfold lookF
  cases h2 : hasA a i with
  | false =>
    repeat' ((conv => whnf); (first | ((with_reducible refine Cl.id ?_); (first | refine Y.pu (fs_accounts_Find _ a _ ha) ?_ | fail)) | refine Y.st ?_ | refine Tw.mk (fun _ => ?_) (fun _ => ?_) | fail))
    exact Rt.eq rfl
  | true =>
    cases h3 : assetOk ⟨c, j⟩ with
    | false =>
      repeat' ((conv => whnf); (first | ((with_reducible refine Cl.id ?_); (first | refine Y.pu (fs_accounts_Find _ a _ ha) ?_ | refine Y.pu (fs_amount_Asset _ _ _) ?_ | fail)) | refine Y.st ?_ | refine Tw.mk (fun _ => ?_) (fun _ => ?_) | fail))
      exact Rt.eq rfl
    | true =>
      cases h4 : nativeA ⟨c, j⟩ with
      | true =>
        repeat' ((conv => whnf); (first | ((with_reducible refine Cl.id ?_); (first | refine Y.pu (fs_accounts_Find _ a _ ha) ?_ | refine Y.pu (fs_amount_Asset _ _ _) ?_ | refine Y.pu (fs_amount_Native _ _ _) ?_ | fail)) | refine Y.st ?_ | refine Tw.mk (fun _ => ?_) (fun _ => ?_) | fail))
        exact Rt.eq rfl
      | false =>
        by_cases h5 : j = i
        · repeat' ((conv => whnf); (first | ((with_reducible refine Cl.id ?_); (first | refine Y.pu (fs_accounts_Find _ a _ ha) ?_ | refine Y.pu (fs_amount_Asset _ _ _) ?_ | refine Y.pu (fs_amount_Native _ _ _) ?_ | fail)) | refine Y.st ?_ | refine Tw.mk (fun _ => ?_) (fun _ => ?_) | fail))
          exact Rt.eq (by simp [h5])
        · repeat' ((conv => whnf); (first | ((with_reducible refine Cl.id ?_); (first | refine Y.pu (fs_accounts_Find _ a _ ha) ?_ | refine Y.pu (fs_amount_Asset _ _ _) ?_ | refine Y.pu (fs_amount_Native _ _ _) ?_ | refine Y.pu (fs_trustlines_Find _ l _ _ _ hl) ?_ | fail)) | refine Y.st ?_ | refine Tw.mk (fun _ => ?_) (fun _ => ?_) | fail))
          exact Rt.eq (by simp [h5])

theorem held_look {g : Ledg} (h : rightG g = true) (i : Int) (s : Asset) : heldA g i s = (lookF g.accts g.lines i s).1 ∧ roomA g i s = (lookF g.accts g.lines i s).2.1 := by
  unfold heldA roomA lookF
  rw [h]
  cases hasA g.accts i <;> cases assetOk s <;> cases nativeA s <;> simp <;> (constructor <;> (split <;> rfl))

theorem fs_trustlines_Held (N : Nat) (n : Int) (a : List Acct) (l : List Line) (o : List Offer) (x f k : Int) (i : Int) (c : ByteArray) (j : Int) :
    FS PP N n_trustlines_Held [.agg (cG n a l o x f k), aI i, .agg [.v (.string c), aI j]] [] (aI (heldA ⟨n, a, l, o, x, f, k⟩ i ⟨c, j⟩)) [] := by
  refine i_trustlines_Held.pure (by simp) fun D _ => ?_
  cases h1 : rightG ⟨n, a, l, o, x, f, k⟩ with
  | false =>
    repeat' ((conv => whnf); (first | ((with_reducible refine Cl.id ?_); (first | refine Y.pu (fs_trustlines_right _ _ _ _ _ _ _ _) ?_ | fail)) | refine Y.st ?_ | refine Tw.mk (fun _ => ?_) (fun _ => ?_) | fail))
    exact Rt.int (by simp [heldA, h1])
  | true =>
    have hc : chkL l a = 0 := by simpa [rightG] using h1
    have hh := held_look h1 i ⟨c, j⟩
    dsimp only at hh
    repeat' ((conv => whnf); (first | ((with_reducible refine Cl.id ?_); (first | refine Y.pu (fs_trustlines_right _ _ _ _ _ _ _ _) ?_ | refine Y.pu (fs_trustlines_look _ _ _ _ _ _ _ _ _ _ _ hc) ?_ | fail)) | refine Y.st ?_ | refine Tw.mk (fun _ => ?_) (fun _ => ?_) | fail))
    exact Rt.int (by first | exact hh.1 | exact hh.2)
theorem fs_trustlines_Room (N : Nat) (n : Int) (a : List Acct) (l : List Line) (o : List Offer) (x f k : Int) (i : Int) (c : ByteArray) (j : Int) :
    FS PP N n_trustlines_Room [.agg (cG n a l o x f k), aI i, .agg [.v (.string c), aI j]] [] (aI (roomA ⟨n, a, l, o, x, f, k⟩ i ⟨c, j⟩)) [] := by
  refine i_trustlines_Room.pure (by simp) fun D _ => ?_
  cases h1 : rightG ⟨n, a, l, o, x, f, k⟩ with
  | false =>
    repeat' ((conv => whnf); (first | ((with_reducible refine Cl.id ?_); (first | refine Y.pu (fs_trustlines_right _ _ _ _ _ _ _ _) ?_ | fail)) | refine Y.st ?_ | refine Tw.mk (fun _ => ?_) (fun _ => ?_) | fail))
    exact Rt.int (by simp [roomA, h1])
  | true =>
    have hc : chkL l a = 0 := by simpa [rightG] using h1
    have hh := held_look h1 i ⟨c, j⟩
    dsimp only at hh
    repeat' ((conv => whnf); (first | ((with_reducible refine Cl.id ?_); (first | refine Y.pu (fs_trustlines_right _ _ _ _ _ _ _ _) ?_ | refine Y.pu (fs_trustlines_look _ _ _ _ _ _ _ _ _ _ _ hc) ?_ | fail)) | refine Y.st ?_ | refine Tw.mk (fun _ => ?_) (fun _ => ?_) | fail))
    exact Rt.int (by first | exact hh.1 | exact hh.2)
end Go.Proofs.Ytneoeegpceompaa.AM
