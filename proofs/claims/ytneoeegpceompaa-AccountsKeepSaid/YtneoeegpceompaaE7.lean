/-
The walk of the law AccountsOrder.
-/
import Derived.Test.YtneoeegpceompaaI2
import Derived.Test.YtneoeegpceompaaP3
import Derived.Test.YtneoeegpceompaaE2
set_option linter.unusedVariables false
set_option linter.unusedSimpArgs false
namespace Go.Proofs.Ytneoeegpceompaa.Pl
theorem mem_insA {l : List Acct} {x y : Acct} : y ∈ insA l x ↔ y = x ∨ y ∈ l := by
  induction l with
  | nil => simp [insA]
  | cons a r ih =>
    simp only [insA]
    split
    · simp
    · simp only [List.mem_cons, ih]
      constructor
      · rintro (h | h | h)
        · exact .inr (.inl h)
        · exact .inl h
        · exact .inr (.inr h)
      · rintro (h | h | h)
        · exact .inr (.inl h)
        · exact .inl h
        · exact .inr (.inr h)
theorem insA_len (l : List Acct) (x : Acct) : (insA l x).length = l.length + 1 := by
  induction l with
  | nil => rfl
  | cons a r ih => simp only [insA]; split <;> simp [ih]
theorem pair_of {l : List Acct} (h : chkA l = 0) : l.Pairwise (fun a b => a.id < b.id) := List.pairwise_iff_getElem.2 fun j k hj hk hjk => asc_lt h hjk (List.getElem?_eq_getElem hj) (List.getElem?_eq_getElem hk)
theorem insA_pair {l : List Acct} {x : Acct} (hp : l.Pairwise (fun a b => a.id < b.id)) (h : ∀ a ∈ l, a.id ≠ x.id) : (insA l x).Pairwise (fun a b => a.id < b.id) := by
  induction l with
  | nil => simp [insA]
  | cons a r ih =>
    have hc := List.pairwise_cons.1 hp
    have h0 := h a (by simp)
    simp only [insA]
    split
    · rename_i hlt
      refine List.pairwise_cons.2 ⟨fun b hb => ?_, hp⟩
      rcases List.mem_cons.1 hb with rfl | hb
      · exact hlt
      · have := hc.1 b hb; omega
    · rename_i hlt
      refine List.pairwise_cons.2 ⟨fun b hb => ?_, ih hc.2 (fun b hb => h b (by simp [hb]))⟩
      rcases mem_insA.1 hb with rfl | hb
      · omega
      · exact hc.1 b hb
/-- A new account. -/
theorem createA_new {l : List Acct} {k b : Int} (h : chkA l = 0) (hk : 1 ≤ k ∧ k ≤ 1000) (hb : validAmt b = true) (hl : l.length < 20) (hn : hasA l k = false) : createA l k b = (insA l ⟨k, b, 0⟩, 0) := by
  have hp : ¬ 0 ≤ placeA l k := fun h => by obtain ⟨_, _, _, _, q⟩ := findA_yes h; rw [q] at hn; cases hn
  unfold createA
  rw [if_neg (not_not_intro h), if_neg (by simp only [not_or, Decidable.not_not]; exact ⟨hk, hp⟩), if_neg (by simp [hb]), if_neg (by omega)]
theorem createA_old {l : List Acct} {k b : Int} (h : chkA l = 0) (hn : hasA l k = true) : createA l k b = ([], 67) := by
  unfold createA
  rw [if_neg (not_not_intro h), if_pos (.inr (hasA_place hn))]
theorem has_no {l : List Acct} {k : Int} (hn : hasA l k = false) : ∀ a ∈ l, a.id ≠ k := fun a ha he => by
  have hp : ¬ 0 ≤ placeA l k := fun h => by obtain ⟨_, _, _, _, q⟩ := findA_yes h; rw [q] at hn; cases hn
  have := (idx_neg (p := fun a : Acct => a.id == k) (show idx _ l < 0 from by unfold placeA at hp; omega)).2 a ha
  simp at this; exact this he
end Go.Proofs.Ytneoeegpceompaa.Pl
namespace Go.Proofs.Ytneoeegpceompaa.AM
open Go Go.Proofs Go.Proofs.Ytneoeegpceompaa.Pl

theorem fs_law36_AccountsOrder (N : Nat) (t : List Int) (am : Int) (ham : 0 ≤ am ∧ am ≤ 65535) : FS PP N n_law36_AccountsOrder [sI t, .v (.int .u16 am)] [] (aB true) [] := by
  refine i_law36_AccountsOrder.pure (by simp) fun D _ => ?_
  have hs0 : SrcOk (t.take 800) 0 := ⟨by simp; omega, by omega, by omega⟩
  have hnew := fun N => fs_mk_New N t
  generalize t.take 800 = ts at hs0 hnew
  have hled := fun N b => fs_Src_Ledger N b ts 0 hs0
  have hr := dLedger_right hs0
  generalize dLedger ts 0 = g at hled hr
  obtain ⟨g, a1⟩ := g
  obtain ⟨n, hn, hlen, hA, hhas, hget, hL, hdr, hpw, hof⟩ := hr
  dsimp only at hlen hA hhas hget hL hdr hpw hof hled
  have ht : 0 ≤ am.tmod 1000 ∧ am.tmod 1000 < 1000 := ⟨Int.tmod_nonneg _ ham.1, Int.tmod_lt_of_pos _ (by omega)⟩
  obtain ⟨l, hl⟩ : ∃ l, l = g.accts := ⟨_, rfl⟩
  have hcr := fun N => fs_accounts_Create N g.accts (1 + am.tmod 1000) 7 (by omega)
  have hfd := fun N => fs_accounts_Find N g.accts (1 + am.tmod 1000) (by omega)
  clear hdr hpw hL hhas
  cases hh : hasA g.accts (1 + am.tmod 1000) with
  | true =>
    rw [createA_old hA hh] at hcr
    rw [hh] at hfd
    repeat' ((conv => whnf); (first | ((with_reducible refine Cl.id ?_); (first | refine Y.pu (hcr _) ?_ | refine Y.pu (hfd _) ?_ | refine Y.pu (fs_law36_sane _) ?_ | refine Y.new (hnew _) ?_ | (refine Y.upd (hled _ _) ?_ ?_; exact Y.lk) | fail)) | refine Y.st ?_ | refine Tw.mk (fun _ => ?_) (fun _ => ?_) | fail))
    all_goals exact Rt.bool rfl
  | false =>
    have hx := createA_new (b := 7) hA (by omega : 1 ≤ 1 + am.tmod 1000 ∧ 1 + am.tmod 1000 ≤ 1000) (by decide) (by omega) hh
    rw [hx] at hcr
    rw [hh] at hfd
    have hno := has_no hh
    have hpr := insA_pair (x := ⟨1 + am.tmod 1000, 7, 0⟩) (pair_of hA) hno
    have hmem := fun y => mem_insA (l := g.accts) (x := ⟨1 + am.tmod 1000, 7, 0⟩) (y := y)
    have hln := insA_len g.accts ⟨1 + am.tmod 1000, 7, 0⟩
    generalize insA g.accts ⟨1 + am.tmod 1000, 7, 0⟩ = X at hcr hpr hmem hln
    repeat' ((conv => whnf); (first | ((with_reducible refine Cl.id ?_); (first | refine Y.pu (hcr _) ?_ | refine Y.pu (hfd _) ?_ | refine Y.new (hnew _) ?_ | (refine Y.upd (hled _ _) ?_ ?_; exact Y.lk) | fail)) | refine Y.st ?_ | refine Tw.mk (fun _ => ?_) (fun _ => ?_) | fail))
    (refine Lp.go [6, 7, 8, 11, 47, 48, 49] [] [] ?_; repeat' ((conv => whnf); (first | refine Y.st ?_ | intro d' hd' | fail)))
    refine l_nat D X.length (fun _ => True) (fun k d => ⟨[(6, sA g.accts), (7, aI (1 + am.tmod 1000)), (8, sA X), (11, aB false), (47, sA X), (48, aI X.length), (49, aI k)], [], d, 0⟩) (fun k hk _ d hd ih => ?_) trivial d' (by omega)
    by_cases hlt : k < X.length
    · obtain ⟨a, ha⟩ : ∃ a, X[k]? = some a := ⟨X[k], by simp [hlt]⟩
      have ih := ih hlt trivial
      have hf := fun N => fs_accounts_Find N g.accts a.id (by omega)
      have hcases : (hasA g.accts a.id = true ∧ findA g.accts a.id = a) ∨ (hasA g.accts a.id = false ∧ a = ⟨1 + am.tmod 1000, 7, 0⟩) := by
        rcases (hmem a).1 (List.mem_of_getElem? ha) with rfl | h
        · exact .inr ⟨hh, rfl⟩
        · obtain ⟨j, hj⟩ := List.mem_iff_getElem?.1 h
          have := findA_self (fun j x h => (hget j x h).1) hj
          exact .inl ⟨this.2, this.1⟩
      by_cases hk0 : 0 < k
      · obtain ⟨p, hp⟩ : ∃ p, X[k - 1]? = some p := ⟨_, List.getElem?_eq_getElem (by omega : k - 1 < X.length)⟩
        have hpa : p.id < a.id := by
          have h1 := List.getElem?_eq_some_iff.1 hp
          have h2 := List.getElem?_eq_some_iff.1 ha
          have := List.pairwise_iff_getElem.1 hpr (k - 1) k h1.1 h2.1 (by omega)
          rw [h1.2, h2.2] at this; exact this
        rcases hcases with ⟨q1, q2⟩ | ⟨q1, q2⟩
        · rw [q1, q2] at hf
          repeat' ((conv => whnf); (first | refine El.mapi hp (by omega) ?_ | refine El.mapi ha (by omega) ?_ | ((with_reducible refine Cl.id ?_); (first | refine Y.pu (hf _) ?_ | fail)) | refine Y.st ?_ | refine Tw.mk (fun _ => ?_) (fun _ => ?_) | fail))
          (refine Lp.go [6, 7, 8, 11, 47, 48, 49] [] [] ?_; repeat' ((conv => whnf); (first | refine Y.st ?_ | intro d2 hd2 | fail)))
          exact ih d2 (by omega)
        · rw [q1] at hf
          have qa : a.id = 1 + am.tmod 1000 := by rw [q2]
          have qb : a.bal = 7 := by rw [q2]
          have qc : a.seq = 0 := by rw [q2]
          clear q2
          repeat' ((conv => whnf); (first | refine El.mapi hp (by omega) ?_ | refine El.mapi ha (by omega) ?_ | ((with_reducible refine Cl.id ?_); (first | refine Y.pu (hf _) ?_ | fail)) | refine Y.st ?_ | refine Tw.mk (fun _ => ?_) (fun _ => ?_) | fail))
          (refine Lp.go [6, 7, 8, 11, 47, 48, 49] [] [] ?_; repeat' ((conv => whnf); (first | refine Y.st ?_ | intro d2 hd2 | fail)))
          exact ih d2 (by omega)
      · rcases hcases with ⟨q1, q2⟩ | ⟨q1, q2⟩
        · rw [q1, q2] at hf
          repeat' ((conv => whnf); (first | refine El.mapi ha (by omega) ?_ | ((with_reducible refine Cl.id ?_); (first | refine Y.pu (hf _) ?_ | fail)) | refine Y.st ?_ | refine Tw.mk (fun _ => ?_) (fun _ => ?_) | fail))
          (refine Lp.go [6, 7, 8, 11, 47, 48, 49] [] [] ?_; repeat' ((conv => whnf); (first | refine Y.st ?_ | intro d2 hd2 | fail)))
          exact ih d2 (by omega)
        · rw [q1] at hf
          have qa : a.id = 1 + am.tmod 1000 := by rw [q2]
          have qb : a.bal = 7 := by rw [q2]
          have qc : a.seq = 0 := by rw [q2]
          clear q2
          repeat' ((conv => whnf); (first | refine El.mapi ha (by omega) ?_ | ((with_reducible refine Cl.id ?_); (first | refine Y.pu (hf _) ?_ | fail)) | refine Y.st ?_ | refine Tw.mk (fun _ => ?_) (fun _ => ?_) | fail))
          (refine Lp.go [6, 7, 8, 11, 47, 48, 49] [] [] ?_; repeat' ((conv => whnf); (first | refine Y.st ?_ | intro d2 hd2 | fail)))
          exact ih d2 (by omega)
    · repeat' ((conv => whnf); (first | ((with_reducible refine Cl.id ?_); (first | refine Y.pu (fs_law36_sane _) ?_ | fail)) | refine Y.st ?_ | refine Tw.mk (fun _ => ?_) (fun _ => ?_) | fail))
      all_goals exact Rt.bool rfl
end Go.Proofs.Ytneoeegpceompaa.AM
