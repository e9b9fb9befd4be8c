/-
The walk, part 20: trustlines: what is issued; crediting and debiting.
-/
import Derived.Test.YtneoeegpceompaaG2
import Derived.Test.YtneoeegpceompaaA7
set_option linter.unusedVariables false
set_option linter.unusedSimpArgs false
namespace Go.Proofs.Ytneoeegpceompaa.AM
open Go Go.Proofs Go.Proofs.Ytneoeegpceompaa.Pl

theorem issued_snoc {l : List Line} {k : Nat} {x : Line} (h : l[k]? = some x) (a : Asset) : issued (l.take (k + 1)) a = issued (l.take k) a + (if x.asset = a then x.bal else 0) := by
  unfold issued
  rw [List.take_add_one, h]
  simp only [Option.toList_some, List.filter_append, List.map_append, List.sum_append_int]
  by_cases e : x.asset = a
  · simp [e]
  · simp [e]
theorem issued_le {l : List Line} (h : ∀ x ∈ l, 0 ≤ x.bal ∧ x.bal ≤ 1000000000000) (a : Asset) (k : Nat) : 0 ≤ issued (l.take k) a ∧ issued (l.take k) a ≤ 1000000000000 * l.length := by
  induction l generalizing k with
  | nil => simp [issued]
  | cons x r ih =>
    cases k with
    | zero => simp [issued]; omega
    | succ k =>
      have h1 := ih (fun y hy => h y (by simp [hy])) k
      have h2 := h x (by simp)
      rw [List.take_succ_cons]
      unfold issued at h1 ⊢
      rw [List.filter_cons]
      simp only [List.length_cons]
      split
      · simp only [List.map_cons, List.sum_cons]; push_cast; omega
      · push_cast; omega

theorem fs_trustlines_Issued (N : Nat) (l : List Line) (c : ByteArray) (i : Int) (hl : l.length ≤ 1000000) (hb : ∀ x ∈ l, 0 ≤ x.bal ∧ x.bal ≤ 1000000000000) : FS PP N n_trustlines_Issued [sL l, .agg [.v (.string c), aI i]] [] (aI (issued l ⟨c, i⟩)) [] := by
  refine i_trustlines_Issued.pure (by simp) fun D _ => ?_
  repeat' ((conv => whnf); (first | refine Y.st ?_ | refine Tw.mk (fun _ => ?_) (fun _ => ?_) | fail))
  (refine Lp.go [3, 5, 8, 9, 10] [] [nm D 0] ?_; repeat' ((conv => whnf); (first | refine Y.st ?_ | intro d' hd' | fail)))
  refine l_nat D l.length (fun _ => True) (fun k d => ⟨[(3, .pt (nm d 0) 2 0 0), (5, aI (issued (l.take k) ⟨c, i⟩)), (8, sL l), (9, aI l.length), (10, aI k)], [(nm d 0, ⟨true, t_Asset, 2, [[.v (.string c), aI i]], some 1⟩)], d, 1⟩) (fun k hk _ d hd ih => ?_) trivial d' (by omega)
  by_cases hlt : k < l.length
  · obtain ⟨x, hx⟩ : ∃ x, l[k]? = some x := ⟨l[k], by simp [hlt]⟩
    have hs := issued_snoc hx ⟨c, i⟩
    have hbk := issued_le hb ⟨c, i⟩ k
    have hxb := hb x (List.mem_of_getElem? hx)
    have ih := ih hlt trivial
    rw [hs] at ih
    by_cases he : x.asset.code = c ∧ x.asset.issuer = i
    · have he2 : x.asset = ⟨c, i⟩ := by obtain ⟨h1, h2⟩ := he; rw [← h1, ← h2]
      rw [if_pos he2] at ih
      repeat' ((conv => whnf); (first | refine Br.asset_t he ?_ | refine Y.st ?_ | refine Tw.mk (fun _ => ?_) (fun _ => ?_) | fail))
      (refine Lp.go [3, 5, 8, 9, 10] [] [nm d 0] ?_; repeat' ((conv => whnf); (first | refine Y.st ?_ | intro d2 hd2 | fail)))
      exact ih d2 (by omega)
    · have he2 : ¬ x.asset = ⟨c, i⟩ := fun e => he (by rw [e]; exact ⟨rfl, rfl⟩)
      rw [if_neg he2, Int.add_zero] at ih
      repeat' ((conv => whnf); (first | refine Br.asset_f he ?_ | refine Y.st ?_ | refine Tw.mk (fun _ => ?_) (fun _ => ?_) | fail))
      (refine Lp.go [3, 5, 8, 9, 10] [] [nm d 0] ?_; repeat' ((conv => whnf); (first | refine Y.st ?_ | intro d2 hd2 | fail)))
      exact ih d2 (by omega)
  · repeat' ((conv => whnf); (first | refine Y.st ?_ | refine Tw.mk (fun _ => ?_) (fun _ => ?_) | fail))
    refine Rt.int ?_
    rw [List.take_of_length_le (by omega)]

theorem fs_r37_Issued (N : Nat) (l : List Line) (c : ByteArray) (i : Int) (hl : l.length ≤ 1000000) (hb : ∀ x ∈ l, 0 ≤ x.bal ∧ x.bal ≤ 1000000000000) : FS PP N n_r37_Issued [sL l, .agg [.v (.string c), aI i]] [] (aI (issued l ⟨c, i⟩)) [] := by
  refine i_r37_Issued.pure (by simp) fun D _ => ?_
  repeat' ((conv => whnf); (first | refine Y.st ?_ | refine Tw.mk (fun _ => ?_) (fun _ => ?_) | fail))
  (refine Lp.go [3, 5, 8, 9, 10] [] [nm D 0] ?_; repeat' ((conv => whnf); (first | refine Y.st ?_ | intro d' hd' | fail)))
  refine l_nat D l.length (fun _ => True) (fun k d => ⟨[(3, .pt (nm d 0) 2 0 0), (5, aI (issued (l.take k) ⟨c, i⟩)), (8, sL l), (9, aI l.length), (10, aI k)], [(nm d 0, ⟨true, t_Asset, 2, [[.v (.string c), aI i]], some 1⟩)], d, 1⟩) (fun k hk _ d hd ih => ?_) trivial d' (by omega)
  by_cases hlt : k < l.length
  · obtain ⟨x, hx⟩ : ∃ x, l[k]? = some x := ⟨l[k], by simp [hlt]⟩
    have hs := issued_snoc hx ⟨c, i⟩
    have hbk := issued_le hb ⟨c, i⟩ k
    have hxb := hb x (List.mem_of_getElem? hx)
    have ih := ih hlt trivial
    rw [hs] at ih
    by_cases he : x.asset.code = c ∧ x.asset.issuer = i
    · have he2 : x.asset = ⟨c, i⟩ := by obtain ⟨h1, h2⟩ := he; rw [← h1, ← h2]
      rw [if_pos he2] at ih
      repeat' ((conv => whnf); (first | refine Br.asset_t he ?_ | refine Y.st ?_ | refine Tw.mk (fun _ => ?_) (fun _ => ?_) | fail))
      (refine Lp.go [3, 5, 8, 9, 10] [] [nm d 0] ?_; repeat' ((conv => whnf); (first | refine Y.st ?_ | intro d2 hd2 | fail)))
      exact ih d2 (by omega)
    · have he2 : ¬ x.asset = ⟨c, i⟩ := fun e => he (by rw [e]; exact ⟨rfl, rfl⟩)
      rw [if_neg he2, Int.add_zero] at ih
      repeat' ((conv => whnf); (first | refine Br.asset_f he ?_ | refine Y.st ?_ | refine Tw.mk (fun _ => ?_) (fun _ => ?_) | fail))
      (refine Lp.go [3, 5, 8, 9, 10] [] [nm d 0] ?_; repeat' ((conv => whnf); (first | refine Y.st ?_ | intro d2 hd2 | fail)))
      exact ih d2 (by omega)
  · repeat' ((conv => whnf); (first | refine Y.st ?_ | refine Tw.mk (fun _ => ?_) (fun _ => ?_) | fail))
    refine Rt.int ?_
    rw [List.take_of_length_le (by omega)]

/-- What crediting and debiting refuse in common. -/
def chkC (g : Ledg) (i : Int) (s : Asset) (n : Int) : Int := if rightG g = false then 74 else if assetOk s = false then 71 else if hasA g.accts i = false then 67 else if validAmt n = false then 65 else 0
theorem fs_trustlines_check (N : Nat) (m : Int) (a : List Acct) (l : List Line) (o : List Offer) (x f k : Int) (i : Int) (c : ByteArray) (j n : Int) (ha : a.length ≤ 1000000) :
    FS PP N n_trustlines_check [.agg (cG m a l o x f k), aI i, .agg [.v (.string c), aI j], aI n] [] (aI (chkC ⟨m, a, l, o, x, f, k⟩ i ⟨c, j⟩ n)) [] := by
  refine i_trustlines_check.pure (by simp) fun D _ => ?_
  unfold chkC
  dsimp only
  repeat' ((conv => whnf); (first | ((with_reducible refine Cl.id ?_); (first | refine Y.pu (fs_accounts_Find _ a _ ha) ?_ | refine Y.pu (fs_trustlines_right _ _ _ _ _ _ _ _) ?_ | refine Y.pu (fs_amount_Asset _ _ _) ?_ | refine Y.pu (fs_amount_Valid _ _) ?_ | fail)) | refine Y.st ?_ | refine Tw.mk (fun _ => ?_) (fun _ => ?_) | fail))
  all_goals (refine Rt.int ?_; simp_all)

theorem fs_trustlines_copied (N : Nat) (m : Int) (a : List Acct) (l : List Line) (o : List Offer) (x f k : Int) (ha : a.length ≤ 1000000) (hl : l.length ≤ 1000000) (ho : o.length ≤ 1000000) :
    FS PP N n_trustlines_copied [.agg (cG m a l o x f k)] [] (.agg (cG m a l o x f k)) [] := by
  refine i_trustlines_copied.pure (by simp) fun D _ => ?_
  repeat' ((conv => whnf); (first | ((with_reducible refine Cl.id ?_); (first | refine Y.new (fs_slices_Clone_Account _ a ha) ?_ | refine Y.new (fs_slices_Clone_Line _ l hl) ?_ | refine Y.new (fs_slices_Clone_Offer _ o ho) ?_ | fail)) | refine Y.st ?_ | refine Tw.mk (fun _ => ?_) (fun _ => ?_) | fail))
  (exact Rt.fz3v Y.vt)

theorem fs_trustlines_copied_A (N : Nat) (m : Int) (a : List Acct) (l : List Line) (o : List Offer) (x f k : Int) (ha : a.length ≤ 1000000) (hl : l.length ≤ 1000000) (ho : o.length ≤ 1000000) :
    FS PP N n_trustlines_copied [.agg (cG m a l o x f k)] [] (.agg [aI m, .row N 3 0 a.length, sL l, sO o, aI x, aI f, .v (.int .u64 k)]) [(N, some ⟨true, t_Account, 3, a.map cA, none⟩)] := by
  refine i_trustlines_copied.new (by simp) fun D hN => ?_
  repeat' ((conv => whnf); (first | ((with_reducible refine Cl.id ?_); (first | refine Y.new (fs_slices_Clone_Account _ a ha) ?_ | refine Y.new (fs_slices_Clone_Line _ l hl) ?_ | refine Y.new (fs_slices_Clone_Offer _ o ho) ?_ | fail)) | refine Y.st ?_ | refine Tw.mk (fun _ => ?_) (fun _ => ?_) | fail))
  refine Rt.own1 (b := nm D 4) (r' := .agg [aI m, .row (nm D 4) 3 0 a.length, sL l, sO o, aI x, aI f, .v (.int .u64 k)]) [nm D 7, nm D 10] (.two (.agg ?hv)) (hN _ _ (Nat.le_refl _)) ?hb ?hk ?hr
  case hv => (exact Y.vt)
  case hb => simp [nm_inj]
  case hk => (exact Y.lk)
  case hr => simp [ren, ren2, ren1, nm_inj]
theorem fs_trustlines_copied_L (N : Nat) (m : Int) (a : List Acct) (l : List Line) (o : List Offer) (x f k : Int) (ha : a.length ≤ 1000000) (hl : l.length ≤ 1000000) (ho : o.length ≤ 1000000) :
    FS PP N n_trustlines_copied [.agg (cG m a l o x f k)] [] (.agg [aI m, sA a, .row N 5 0 l.length, sO o, aI x, aI f, .v (.int .u64 k)]) [(N, some ⟨true, t_Line, 5, l.map cL, none⟩)] := by
  refine i_trustlines_copied.new (by simp) fun D hN => ?_
  repeat' ((conv => whnf); (first | ((with_reducible refine Cl.id ?_); (first | refine Y.new (fs_slices_Clone_Account _ a ha) ?_ | refine Y.new (fs_slices_Clone_Line _ l hl) ?_ | refine Y.new (fs_slices_Clone_Offer _ o ho) ?_ | fail)) | refine Y.st ?_ | refine Tw.mk (fun _ => ?_) (fun _ => ?_) | fail))
  refine Rt.own1 (b := nm D 7) (r' := .agg [aI m, sA a, .row (nm D 7) 5 0 l.length, sO o, aI x, aI f, .v (.int .u64 k)]) [nm D 4, nm D 10] (.two (.agg ?hv)) (hN _ _ (Nat.le_refl _)) ?hb ?hk ?hr
  case hv => (exact Y.vt)
  case hb => simp [nm_inj]
  case hk => (exact Y.lk)
  case hr => simp [ren, ren2, ren1, nm_inj]
end Go.Proofs.Ytneoeegpceompaa.AM
