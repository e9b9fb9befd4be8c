/-
The walk, part 10: the reference of the chapters 37 and 38: what is held, room, issued; prices reduced.
-/
import Derived.Test.YtneoeegpceompaaB2
set_option linter.unusedVariables false
set_option linter.unusedSimpArgs false
namespace Go.Proofs.Ytneoeegpceompaa.AM
open Go Go.Proofs Go.Proofs.Ytneoeegpceompaa.Pl

/-- A ledger's cells. -/
abbrev cG (n : Int) (a : List Acct) (l : List Line) (o : List Offer) (x f k : Int) : List AV := [aI n, sA a, sL l, sO o, aI x, aI f, .v (.int .u64 k)]
abbrev eG (g : Ledg) : AV := .agg (cG g.number g.accts g.lines g.offers g.next g.fees g.link)

theorem fs_r37_right (N : Nat) (n : Int) (a : List Acct) (l : List Line) (o : List Offer) (x f k : Int) : FS PP N n_r37_right [.agg (cG n a l o x f k)] [] (aB (rightG ⟨n, a, l, o, x, f, k⟩)) [] := by
  refine i_r37_right.pure (by simp) fun D _ => ?_
  repeat' ((conv => whnf); (first | ((with_reducible refine Cl.id ?_); (first | refine Y.pu (fs_r37_Check _ _ _) ?_ | fail)) | refine Y.st ?_ | refine Tw.mk (fun _ => ?_) (fun _ => ?_) | fail))
  refine Rt.bool ?_
  rw [rightG, Bool.eq_iff_iff]; simp

theorem chkL_len {l : List Line} {g : List Acct} (h : chkL l g = 0) : l.length ≤ 60 ∧ chkA g = 0 ∧ goodL l g = true := by
  unfold chkL at h
  split at h
  · rename_i h1
    split at h
    · cases h
    · split at h
      · exact ⟨by omega, h1, by assumption⟩
      · cases h
  · exact absurd h ‹_›
theorem lineOk_iff (g : List Acct) (x : Line) : lineOk g x = true ↔ hasA g x.acc = true ∧ assetOk x.asset = true ∧ nativeA x.asset = false ∧ x.asset.issuer ≠ x.acc ∧ (0 ≤ x.lim ∧ x.lim ≤ 1000000000000) ∧ 0 ≤ x.bal ∧ x.bal ≤ x.lim := by
  simp [lineOk, validAmt]
theorem chkL_line {l : List Line} {g : List Acct} (h : chkL l g = 0) {x : Line} (hx : x ∈ l) : hasA g x.acc = true ∧ assetOk x.asset = true ∧ nativeA x.asset = false ∧ x.asset.issuer ≠ x.acc ∧ (0 ≤ x.lim ∧ x.lim ≤ 1000000000000) ∧ 0 ≤ x.bal ∧ x.bal ≤ x.lim := by
  have := (chkL_len h).2.2
  unfold goodL at this
  rw [Bool.and_eq_true, List.all_eq_true] at this
  exact (lineOk_iff g x).1 (this.1 x hx)
theorem findA_mem {l : List Acct} {i : Int} (h : hasA l i = true) : findA l i ∈ l ∧ (findA l i).id = i := by
  by_cases hp : 0 ≤ placeA l i
  · obtain ⟨a, h1, h2, h3, _⟩ := findA_yes hp
    rw [h3]; exact ⟨List.mem_of_getElem? h1, h2⟩
  · rw [(findA_no (by omega)).2] at h; cases h
theorem findL_mem {l : List Line} {i : Int} {a : Asset} (h : hasL l i a = true) : findL l i a ∈ l ∧ (findL l i a).acc = i ∧ (findL l i a).asset = a := by
  by_cases hp : 0 ≤ placeL l i a
  · obtain ⟨x, h1, h2, h3, _⟩ := findL_yes hp
    rw [h3]; exact ⟨List.mem_of_getElem? h1, h2⟩
  · rw [(findL_no (by omega)).2] at h; cases h
theorem findL_bounds {l : List Line} {g : List Acct} (h : chkL l g = 0) (i : Int) (a : Asset) : (0 ≤ (findL l i a).lim ∧ (findL l i a).lim ≤ 1000000000000) ∧ 0 ≤ (findL l i a).bal ∧ (findL l i a).bal ≤ (findL l i a).lim := by
  by_cases hp : 0 ≤ placeL l i a
  · obtain ⟨x, h1, h2, h3, _⟩ := findL_yes hp
    have := chkL_line h (List.mem_of_getElem? h1)
    rw [h3]; exact ⟨this.2.2.2.2.1, this.2.2.2.2.2⟩
  · rw [(findL_no (by omega)).1]; simp
theorem findA_bounds {g : List Acct} (h : chkA g = 0) (i : Int) : 0 ≤ (findA g i).bal ∧ (findA g i).bal ≤ 1000000000000 := by
  by_cases hp : 0 ≤ placeA g i
  · obtain ⟨x, h1, h2, h3, _⟩ := findA_yes hp
    have := chkA_acct h (List.mem_of_getElem? h1)
    rw [h3]; exact this.2.1
  · rw [(findA_no (by omega)).1]; simp

theorem fs_r37_Held (N : Nat) (n : Int) (a : List Acct) (l : List Line) (o : List Offer) (x f k : Int) (i : Int) (c : ByteArray) (j : Int) (ha : a.length ≤ 1000000) (hl : l.length ≤ 1000000) :
    FS PP N n_r37_Held [.agg (cG n a l o x f k), aI i, .agg [.v (.string c), aI j]] [] (aI (heldA ⟨n, a, l, o, x, f, k⟩ i ⟨c, j⟩)) [] := by
  refine i_r37_Held.pure (by simp) fun D _ => ?_
  unfold heldA
  cases h1 : rightG ⟨n, a, l, o, x, f, k⟩ with
  | false =>
    repeat' ((conv => whnf); (first | ((with_reducible refine Cl.id ?_); (first | refine Y.pu (fs_r36_Find _ a _ ha) ?_ | refine Y.pu (fs_r37_right _ _ _ _ _ _ _ _) ?_ | fail)) | refine Y.st ?_ | refine Tw.mk (fun _ => ?_) (fun _ => ?_) | fail))
    exact Rt.int (by simp)
  | true =>
    have hc : chkL l a = 0 := by simpa [rightG] using h1
    have hb := findL_bounds hc i ⟨c, j⟩
    have hb2 := findA_bounds (chkL_len hc).2.1 i
    cases h2 : hasA a i with
    | false =>
      repeat' ((conv => whnf); (first | ((with_reducible refine Cl.id ?_); (first | refine Y.pu (fs_r36_Find _ a _ ha) ?_ | refine Y.pu (fs_r37_right _ _ _ _ _ _ _ _) ?_ | fail)) | refine Y.st ?_ | refine Tw.mk (fun _ => ?_) (fun _ => ?_) | fail))
      exact Rt.int (by simp)
    | true =>
      cases h3 : assetOk ⟨c, j⟩ with
      | false =>
        repeat' ((conv => whnf); (first | ((with_reducible refine Cl.id ?_); (first | refine Y.pu (fs_r36_Find _ a _ ha) ?_ | refine Y.pu (fs_r37_right _ _ _ _ _ _ _ _) ?_ | refine Y.pu (fs_r35_Asset _ _ _) ?_ | fail)) | refine Y.st ?_ | refine Tw.mk (fun _ => ?_) (fun _ => ?_) | fail))
        exact Rt.int (by simp)
      | true =>
        cases h4 : nativeA ⟨c, j⟩ with
        | true =>
          repeat' ((conv => whnf); (first | ((with_reducible refine Cl.id ?_); (first | refine Y.pu (fs_r36_Find _ a _ ha) ?_ | refine Y.pu (fs_r37_right _ _ _ _ _ _ _ _) ?_ | refine Y.pu (fs_r35_Asset _ _ _) ?_ | refine Y.pu (fs_r35_Native _ _ _) ?_ | fail)) | refine Y.st ?_ | refine Tw.mk (fun _ => ?_) (fun _ => ?_) | fail))
          exact Rt.int (by simp)
        | false =>
          by_cases h5 : j = i
          · repeat' ((conv => whnf); (first | ((with_reducible refine Cl.id ?_); (first | refine Y.pu (fs_r36_Find _ a _ ha) ?_ | refine Y.pu (fs_r37_right _ _ _ _ _ _ _ _) ?_ | refine Y.pu (fs_r35_Asset _ _ _) ?_ | refine Y.pu (fs_r35_Native _ _ _) ?_ | fail)) | refine Y.st ?_ | refine Tw.mk (fun _ => ?_) (fun _ => ?_) | fail))
            exact Rt.int (by simp [h5])
          · repeat' ((conv => whnf); (first | ((with_reducible refine Cl.id ?_); (first | refine Y.pu (fs_r36_Find _ a _ ha) ?_ | refine Y.pu (fs_r37_right _ _ _ _ _ _ _ _) ?_ | refine Y.pu (fs_r35_Asset _ _ _) ?_ | refine Y.pu (fs_r35_Native _ _ _) ?_ | refine Y.pu (fs_r37_Find _ l _ _ _ hl) ?_ | fail)) | refine Y.st ?_ | refine Tw.mk (fun _ => ?_) (fun _ => ?_) | fail))
            exact Rt.int (by simp [h5])
theorem fs_r37_Room (N : Nat) (n : Int) (a : List Acct) (l : List Line) (o : List Offer) (x f k : Int) (i : Int) (c : ByteArray) (j : Int) (ha : a.length ≤ 1000000) (hl : l.length ≤ 1000000) :
    FS PP N n_r37_Room [.agg (cG n a l o x f k), aI i, .agg [.v (.string c), aI j]] [] (aI (roomA ⟨n, a, l, o, x, f, k⟩ i ⟨c, j⟩)) [] := by
  refine i_r37_Room.pure (by simp) fun D _ => ?_
  unfold roomA
  cases h1 : rightG ⟨n, a, l, o, x, f, k⟩ with
  | false =>
    repeat' ((conv => whnf); (first | ((with_reducible refine Cl.id ?_); (first | refine Y.pu (fs_r36_Find _ a _ ha) ?_ | refine Y.pu (fs_r37_right _ _ _ _ _ _ _ _) ?_ | fail)) | refine Y.st ?_ | refine Tw.mk (fun _ => ?_) (fun _ => ?_) | fail))
    exact Rt.int (by simp)
  | true =>
    have hc : chkL l a = 0 := by simpa [rightG] using h1
    have hb := findL_bounds hc i ⟨c, j⟩
    have hb2 := findA_bounds (chkL_len hc).2.1 i
    cases h2 : hasA a i with
    | false =>
      repeat' ((conv => whnf); (first | ((with_reducible refine Cl.id ?_); (first | refine Y.pu (fs_r36_Find _ a _ ha) ?_ | refine Y.pu (fs_r37_right _ _ _ _ _ _ _ _) ?_ | fail)) | refine Y.st ?_ | refine Tw.mk (fun _ => ?_) (fun _ => ?_) | fail))
      exact Rt.int (by simp)
    | true =>
      cases h3 : assetOk ⟨c, j⟩ with
      | false =>
        repeat' ((conv => whnf); (first | ((with_reducible refine Cl.id ?_); (first | refine Y.pu (fs_r36_Find _ a _ ha) ?_ | refine Y.pu (fs_r37_right _ _ _ _ _ _ _ _) ?_ | refine Y.pu (fs_r35_Asset _ _ _) ?_ | fail)) | refine Y.st ?_ | refine Tw.mk (fun _ => ?_) (fun _ => ?_) | fail))
        exact Rt.int (by simp)
      | true =>
        cases h4 : nativeA ⟨c, j⟩ with
        | true =>
          repeat' ((conv => whnf); (first | ((with_reducible refine Cl.id ?_); (first | refine Y.pu (fs_r36_Find _ a _ ha) ?_ | refine Y.pu (fs_r37_right _ _ _ _ _ _ _ _) ?_ | refine Y.pu (fs_r35_Asset _ _ _) ?_ | refine Y.pu (fs_r35_Native _ _ _) ?_ | fail)) | refine Y.st ?_ | refine Tw.mk (fun _ => ?_) (fun _ => ?_) | fail))
          exact Rt.int (by simp)
        | false =>
          by_cases h5 : j = i
          · repeat' ((conv => whnf); (first | ((with_reducible refine Cl.id ?_); (first | refine Y.pu (fs_r36_Find _ a _ ha) ?_ | refine Y.pu (fs_r37_right _ _ _ _ _ _ _ _) ?_ | refine Y.pu (fs_r35_Asset _ _ _) ?_ | refine Y.pu (fs_r35_Native _ _ _) ?_ | fail)) | refine Y.st ?_ | refine Tw.mk (fun _ => ?_) (fun _ => ?_) | fail))
            exact Rt.int (by simp [h5])
          · repeat' ((conv => whnf); (first | ((with_reducible refine Cl.id ?_); (first | refine Y.pu (fs_r36_Find _ a _ ha) ?_ | refine Y.pu (fs_r37_right _ _ _ _ _ _ _ _) ?_ | refine Y.pu (fs_r35_Asset _ _ _) ?_ | refine Y.pu (fs_r35_Native _ _ _) ?_ | refine Y.pu (fs_r37_Find _ l _ _ _ hl) ?_ | fail)) | refine Y.st ?_ | refine Tw.mk (fun _ => ?_) (fun _ => ?_) | fail))
            exact Rt.int (by simp [h5])

theorem gcd_step (a b : Int) (ha : 0 ≤ a) (hb : 0 < b) : Int.gcd b (a.tmod b) = Int.gcd a b := by
  rw [Int.tmod_eq_emod_of_nonneg ha]
  obtain ⟨a, rfl⟩ := Int.eq_ofNat_of_zero_le ha
  obtain ⟨b, rfl⟩ := Int.eq_ofNat_of_zero_le (show 0 ≤ b by omega)
  rw [← Int.natCast_emod, Int.gcd_natCast_natCast, Int.gcd_natCast_natCast, Nat.gcd_comm a b, Nat.gcd_rec b a, Nat.gcd_comm]
theorem tdiv_bd {n a : Int} (hn : 0 ≤ n) (ha : 1 ≤ a) : 0 ≤ n.tdiv a ∧ n.tdiv a ≤ n := by
  rw [Int.tdiv_eq_ediv_of_nonneg hn]
  exact ⟨Int.ediv_nonneg hn (by omega), Int.ediv_le_self a hn⟩

theorem fs_r35_Reduce (N : Nat) (n d : Int) : FS PP N n_r35_Reduce [aI n, aI d] [] (.tup [aI (reduceP n d).1, aI (reduceP n d).2]) [] := by
  refine i_r35_Reduce.pure (by simp) fun D _ => ?_
  unfold reduceP
  cases hp : okPrice n d with
  | false =>
    repeat' ((conv => whnf); (first | ((with_reducible refine Cl.id ?_); (first | refine Y.pu (fs_r35_Price _ _ _) ?_ | fail)) | refine Y.st ?_ | refine Tw.mk (fun _ => ?_) (fun _ => ?_) | fail))
    exact Rt.eq rfl
  | true =>
    have hb : (1 ≤ n ∧ n ≤ 1000000) ∧ (1 ≤ d ∧ d ≤ 1000000) := by simpa [okPrice] using hp
    repeat' ((conv => whnf); (first | ((with_reducible refine Cl.id ?_); (first | refine Y.pu (fs_r35_Price _ _ _) ?_ | fail)) | refine Y.st ?_ | refine Tw.mk (fun _ => ?_) (fun _ => ?_) | fail))
    (refine Lp.go [0, 1, 6, 7] [] [] ?_; repeat' ((conv => whnf); (first | refine Y.st ?_ | intro d' hd' | fail)))
    refine l_ind D (σ := Int × Int) (fun s => s.2.toNat) (fun s => (1 ≤ s.1 ∧ s.1 ≤ 1000000) ∧ (0 ≤ s.2 ∧ s.2 ≤ 1000000) ∧ Int.gcd s.1 s.2 = Int.gcd n d) (fun s d' => ⟨[(0, aI n), (1, aI d), (6, aI s.1), (7, aI s.2)], [], d', 0⟩) (fun s hI d' hd ih => ?_) (n, d) ⟨hb.1, ⟨by simp; omega, by simp⟩⟩ d' (by omega)
    obtain ⟨a, b⟩ := s
    obtain ⟨h1, h2, h3⟩ := hI
    dsimp only at h1 h2 h3 ih ⊢
    by_cases hz : b = 0
    · subst hz
      have q1 := tdiv_bd (show 0 ≤ n by omega) h1.1
      have q2 := tdiv_bd (show 0 ≤ d by omega) h1.1
      have hg : a = (Int.gcd n d : Int) := by
        rw [← h3, Int.gcd_zero_right]; omega
      repeat' ((conv => whnf); (first | refine Wp.in64 (by omega) ?_ | refine Y.st ?_ | refine Tw.mk (fun _ => ?_) (fun _ => ?_) | fail))
      subst hg
      exact Rt.eq rfl
    · have m1 := Int.tmod_lt_of_pos a (show 0 < b by omega)
      have m2 := Int.tmod_nonneg b (show 0 ≤ a by omega)
      repeat' ((conv => whnf); (first | refine Y.st ?_ | refine Tw.mk (fun _ => ?_) (fun _ => ?_) | fail))
      (refine Lp.go [0, 1, 6, 7] [] [] ?_; repeat' ((conv => whnf); (first | refine Y.st ?_ | intro d2 hd2 | fail)))
      refine ih (b, a.tmod b) (by simp; omega) ⟨by simp; omega, by simp; omega, ?_⟩ d2 (by omega)
      dsimp only
      rw [gcd_step a b (by omega) (by omega)]; exact h3
end Go.Proofs.Ytneoeegpceompaa.AM
