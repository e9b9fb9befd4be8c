/-
The walk, part 7: accounts: changes, as the program and the reference do them.
-/
import Derived.Test.YtneoeegpceompaaA6
set_option linter.unusedVariables false
set_option linter.unusedSimpArgs false
namespace Go.Proofs.Ytneoeegpceompaa.AM
open Go Go.Proofs Go.Proofs.Ytneoeegpceompaa.Pl

theorem set_same {α : Type} {l : List α} {k : Nat} {a : α} (hk : l[k]? = some a) : l.set k a = l := by
  refine List.ext_getElem? fun j => ?_
  rw [List.getElem?_set]
  split
  · rename_i e; subst e
    rw [hk, if_pos (List.getElem?_eq_some_iff.1 hk).1]
  · rfl

theorem fs_accounts_Begin_1 (s n : Int) : DoesA n_accounts_Begin_1 (.ipt [aI s]) [.ipt [aI n]] (beginF s n) := fun a ha => by
  refine ⟨(beginF s n a).1, fun _ => rfl, fun N b k l hk => ?_⟩
  refine i_accounts_Begin_1.upd (by simp) fun D hN hb => ?_
  have hset := set_same hk
  unfold beginF
  by_cases h1 : s ≠ a.seq + 1 ∨ 1000000 < s
  · rw [if_pos h1, hset]
    repeat' ((conv => whnf); (first | refine El.mapi hk (by rfl) ?_ | refine Y.st ?_ | refine Tw.mk (fun _ => ?_) (fun _ => ?_) | fail))
    all_goals (refine Rt.upd rfl (.upd1 ?_ (by simp)); (exact Y.lk))
  · rw [if_neg h1]
    by_cases h2 : n < 1 ∨ 100000 < n
    · rw [if_pos h2, hset]
      repeat' ((conv => whnf); (first | refine El.mapi hk (by rfl) ?_ | refine Y.st ?_ | refine Tw.mk (fun _ => ?_) (fun _ => ?_) | fail))
      all_goals (refine Rt.upd rfl (.upd1 ?_ (by simp)); (exact Y.lk))
    · rw [if_neg h2]
      by_cases h3 : a.bal < n
      · rw [if_pos h3, hset]
        repeat' ((conv => whnf); (first | refine El.mapi hk (by rfl) ?_ | refine Y.st ?_ | refine Tw.mk (fun _ => ?_) (fun _ => ?_) | fail))
        all_goals (refine Rt.upd rfl (.upd1 ?_ (by simp)); (exact Y.lk))
      · rw [if_neg h3]
        repeat' ((conv => whnf); (first | refine El.mapi hk (by rfl) ?_ | refine El.mset hk (by rfl) ?_ | refine Y.st ?_ | refine Tw.mk (fun _ => ?_) (fun _ => ?_) | fail))
        all_goals (refine Rt.upd rfl (.upd1 ?_ (by simp)))
        refine Lk.here ?_
        simp

theorem fs_accounts_change (N : Nat) (l : List Acct) (i : Int) (f : Nat) (x : AV) (caps : List AV) (F : Acct → Acct × Int) (hF : DoesA f x caps F) (hl : l.length ≤ 1000000) :
    FS PP N n_accounts_change [sA l, aI i, .fn f (x :: caps)] [] (.tup [sA (chgA l i F).1, aI (chgA l i F).2]) [] := by
  refine i_accounts_change.pure (by simp) fun D _ => ?_
  unfold chgA
  by_cases h1 : chkA l = 0
  · rw [if_pos h1]
    have hr : rightA l = 0 := by simp [rightA, h1]
    by_cases h2 : placeA l i < 0
    · rw [if_pos h2]
      repeat' ((conv => whnf); (first | ((with_reducible refine Cl.id ?_); (first | refine Y.pu (fs_accounts_right _ l) ?_ | refine Y.pu (fs_accounts_place _ l i hl) ?_ | fail)) | refine Y.st ?_ | refine Tw.mk (fun _ => ?_) (fun _ => ?_) | fail))
      (exact Rt.vlt Y.vt)
    · rw [if_neg h2]
      obtain ⟨a, g1, g2, g3, g4⟩ := findA_yes (show 0 ≤ placeA l i by omega)
      have hv := chkA_acct h1 (List.mem_of_getElem? g1)
      obtain ⟨a', e1, e2⟩ := hF a ⟨hv.2.1, hv.2.2⟩
      have hlt := (List.getElem?_eq_some_iff.1 g1).1
      rw [g3]
      by_cases h3 : (F a).2 = 0
      · rw [if_pos h3]
        repeat' ((conv => whnf); (first | ((with_reducible refine Cl.id ?_); (first | refine Y.pu (fs_accounts_right _ l) ?_ | refine Y.pu (fs_accounts_place _ l i hl) ?_ | refine Y.new (fs_slices_Clone_Account _ l hl) ?_ | (refine Y.upd (e2 _ _ _ l g1) ?_ ?_; exact Y.lk) | fail)) | refine Y.st ?_ | refine Tw.mk (fun _ => ?_) (fun _ => ?_) | fail))
        rw [← e1 h3]
        (exact Rt.fz1t Y.vt)
      · rw [if_neg h3]
        repeat' ((conv => whnf); (first | ((with_reducible refine Cl.id ?_); (first | refine Y.pu (fs_accounts_right _ l) ?_ | refine Y.pu (fs_accounts_place _ l i hl) ?_ | refine Y.new (fs_slices_Clone_Account _ l hl) ?_ | (refine Y.upd (e2 _ _ _ l g1) ?_ ?_; exact Y.lk) | fail)) | refine Y.st ?_ | refine Tw.mk (fun _ => ?_) (fun _ => ?_) | fail))
        (exact Rt.vlt Y.vt)
  · rw [if_neg h1]
    have hr : rightA l = 74 := by simp [rightA, h1]
    repeat' ((conv => whnf); (first | ((with_reducible refine Cl.id ?_); (first | refine Y.pu (fs_accounts_right _ l) ?_ | fail)) | refine Y.st ?_ | refine Tw.mk (fun _ => ?_) (fun _ => ?_) | fail))
    rw [hr]
    (exact Rt.vlt Y.vt)

theorem fs_accounts_Give (N : Nat) (l : List Acct) (i n : Int) (hl : l.length ≤ 1000000) : FS PP N n_accounts_Give [sA l, aI i, aI n] [] (.tup [sA (chgA l i (giveF n)).1, aI (chgA l i (giveF n)).2]) [] := by
  refine i_accounts_Give.pure (by simp) fun D _ => ?_
  repeat' ((conv => whnf); (first | ((with_reducible refine Cl.id ?_); (first | (apply Y.fz1 (fs_accounts_change _ l i _ _ _ _ (fs_accounts_Give_1 n) hl); exact Y.vt; exact Y.lk) | fail)) | refine Y.st ?_ | refine Tw.mk (fun _ => ?_) (fun _ => ?_) | fail))
  refine Rt.eq rfl
theorem fs_accounts_Take (N : Nat) (l : List Acct) (i n : Int) (hl : l.length ≤ 1000000) : FS PP N n_accounts_Take [sA l, aI i, aI n] [] (.tup [sA (chgA l i (takeF n)).1, aI (chgA l i (takeF n)).2]) [] := by
  refine i_accounts_Take.pure (by simp) fun D _ => ?_
  repeat' ((conv => whnf); (first | ((with_reducible refine Cl.id ?_); (first | (apply Y.fz1 (fs_accounts_change _ l i _ _ _ _ (fs_accounts_Take_1 n) hl); exact Y.vt; exact Y.lk) | fail)) | refine Y.st ?_ | refine Tw.mk (fun _ => ?_) (fun _ => ?_) | fail))
  refine Rt.eq rfl
theorem fs_accounts_Begin (N : Nat) (l : List Acct) (i s n : Int) (hl : l.length ≤ 1000000) : FS PP N n_accounts_Begin [sA l, aI i, aI s, aI n] [] (.tup [sA (chgA l i (beginF s n)).1, aI (chgA l i (beginF s n)).2]) [] := by
  refine i_accounts_Begin.pure (by simp) fun D _ => ?_
  repeat' ((conv => whnf); (first | ((with_reducible refine Cl.id ?_); (first | (apply Y.fz2 (fs_accounts_change _ l i _ _ _ _ (fs_accounts_Begin_1 s n) hl); exact Y.vt; exact Y.lk; exact Y.lk) | fail)) | refine Y.st ?_ | refine Tw.mk (fun _ => ?_) (fun _ => ?_) | fail))
  refine Rt.eq rfl

theorem fs_r36_changeP (N : Nat) (l : List Acct) (i n : Int) (hl : l.length ≤ 1000000) : FS PP N n_r36_change [sA l, aI i, aI n, aI (1)] [] (.tup [sA (chgA l i (giveF n)).1, aI (chgA l i (giveF n)).2]) [] := by
  refine i_r36_change.pure (by simp) fun D _ => ?_
  unfold chgA
  by_cases h1 : chkA l = 0
  · rw [if_pos h1]
    by_cases h2 : placeA l i < 0
    · rw [if_pos h2]
      repeat' ((conv => whnf); (first | ((with_reducible refine Cl.id ?_); (first | refine Y.pu (fs_r36_Check _ l) ?_ | refine Y.pu (fs_r36_at _ l i hl) ?_ | fail)) | refine Y.st ?_ | refine Tw.mk (fun _ => ?_) (fun _ => ?_) | fail))
      (exact Rt.vlt Y.vt)
    · rw [if_neg h2]
      obtain ⟨a, g1, g2, g3, g4⟩ := findA_yes (show 0 ≤ placeA l i by omega)
      have hv := chkA_acct h1 (List.mem_of_getElem? g1)
      have hlt := (List.getElem?_eq_some_iff.1 g1).1
      rw [g3]
      unfold giveF
      cases hn : validAmt n with
      | false =>
        repeat' ((conv => whnf); (first | ((with_reducible refine Cl.id ?_); (first | refine Y.pu (fs_r36_Check _ l) ?_ | refine Y.pu (fs_r36_at _ l i hl) ?_ | refine Y.pu (fs_r35_Valid _ _) ?_ | fail)) | refine Y.st ?_ | refine Tw.mk (fun _ => ?_) (fun _ => ?_) | fail))
        all_goals (exact Rt.vlt Y.vt)
      | true =>
        have := validAmt_t hn
        cases hm : validAmt (a.bal + n) with
        | false =>
          by_cases hb : a.bal < n
          · repeat' ((conv => whnf); (first | refine El.mapi g1 (by omega) ?_ | ((with_reducible refine Cl.id ?_); (first | refine Y.pu (fs_r36_Check _ l) ?_ | refine Y.pu (fs_r36_at _ l i hl) ?_ | refine Y.pu (fs_r35_Valid _ _) ?_ | fail)) | refine Y.st ?_ | refine Tw.mk (fun _ => ?_) (fun _ => ?_) | fail))
            all_goals try simp only [if_pos hb]
            all_goals first | (exact Rt.vlt Y.vt) | (exact Rt.fz1t Y.vt)
          · repeat' ((conv => whnf); (first | refine El.mapi g1 (by omega) ?_ | ((with_reducible refine Cl.id ?_); (first | refine Y.pu (fs_r36_Check _ l) ?_ | refine Y.pu (fs_r36_at _ l i hl) ?_ | refine Y.pu (fs_r35_Valid _ _) ?_ | fail)) | refine Y.st ?_ | refine Tw.mk (fun _ => ?_) (fun _ => ?_) | fail))
            all_goals try simp only [if_neg hb]
            all_goals first | (exact Rt.vlt Y.vt) | (exact Rt.fz1t Y.vt)
        | true =>
          by_cases hb : a.bal < n
          · repeat' ((conv => whnf); (first | refine El.mapi g1 (by omega) ?_ | ((with_reducible refine Cl.id ?_); (first | refine Y.pu (fs_r36_Check _ l) ?_ | refine Y.pu (fs_r36_at _ l i hl) ?_ | refine Y.pu (fs_r35_Valid _ _) ?_ | fail)) | refine Y.st ?_ | refine Tw.mk (fun _ => ?_) (fun _ => ?_) | fail))
            all_goals try simp only [if_pos hb]
            all_goals first | (exact Rt.vlt Y.vt) | (exact Rt.fz1t Y.vt)
          · repeat' ((conv => whnf); (first | refine El.mapi g1 (by omega) ?_ | ((with_reducible refine Cl.id ?_); (first | refine Y.pu (fs_r36_Check _ l) ?_ | refine Y.pu (fs_r36_at _ l i hl) ?_ | refine Y.pu (fs_r35_Valid _ _) ?_ | fail)) | refine Y.st ?_ | refine Tw.mk (fun _ => ?_) (fun _ => ?_) | fail))
            all_goals try simp only [if_neg hb]
            all_goals first | (exact Rt.vlt Y.vt) | (exact Rt.fz1t Y.vt)
  · rw [if_neg h1]
    repeat' ((conv => whnf); (first | ((with_reducible refine Cl.id ?_); (first | refine Y.pu (fs_r36_Check _ l) ?_ | fail)) | refine Y.st ?_ | refine Tw.mk (fun _ => ?_) (fun _ => ?_) | fail))
    (exact Rt.vlt Y.vt)

theorem fs_r36_changeM (N : Nat) (l : List Acct) (i n : Int) (hl : l.length ≤ 1000000) : FS PP N n_r36_change [sA l, aI i, aI n, aI (-1)] [] (.tup [sA (chgA l i (takeF n)).1, aI (chgA l i (takeF n)).2]) [] := by
  refine i_r36_change.pure (by simp) fun D _ => ?_
  unfold chgA
  by_cases h1 : chkA l = 0
  · rw [if_pos h1]
    by_cases h2 : placeA l i < 0
    · rw [if_pos h2]
      repeat' ((conv => whnf); (first | ((with_reducible refine Cl.id ?_); (first | refine Y.pu (fs_r36_Check _ l) ?_ | refine Y.pu (fs_r36_at _ l i hl) ?_ | fail)) | refine Y.st ?_ | refine Tw.mk (fun _ => ?_) (fun _ => ?_) | fail))
      (exact Rt.vlt Y.vt)
    · rw [if_neg h2]
      obtain ⟨a, g1, g2, g3, g4⟩ := findA_yes (show 0 ≤ placeA l i by omega)
      have hv := chkA_acct h1 (List.mem_of_getElem? g1)
      have hlt := (List.getElem?_eq_some_iff.1 g1).1
      rw [g3]
      unfold takeF
      cases hn : validAmt n with
      | false =>
        repeat' ((conv => whnf); (first | ((with_reducible refine Cl.id ?_); (first | refine Y.pu (fs_r36_Check _ l) ?_ | refine Y.pu (fs_r36_at _ l i hl) ?_ | refine Y.pu (fs_r35_Valid _ _) ?_ | fail)) | refine Y.st ?_ | refine Tw.mk (fun _ => ?_) (fun _ => ?_) | fail))
        all_goals (exact Rt.vlt Y.vt)
      | true =>
        have := validAmt_t hn
        cases hm : validAmt (a.bal + n) with
        | false =>
          by_cases hb : a.bal < n
          · repeat' ((conv => whnf); (first | refine El.mapi g1 (by omega) ?_ | ((with_reducible refine Cl.id ?_); (first | refine Y.pu (fs_r36_Check _ l) ?_ | refine Y.pu (fs_r36_at _ l i hl) ?_ | refine Y.pu (fs_r35_Valid _ _) ?_ | fail)) | refine Y.st ?_ | refine Tw.mk (fun _ => ?_) (fun _ => ?_) | fail))
            all_goals try simp only [if_pos hb]
            all_goals first | (exact Rt.vlt Y.vt) | (exact Rt.fz1t Y.vt)
          · repeat' ((conv => whnf); (first | refine El.mapi g1 (by omega) ?_ | ((with_reducible refine Cl.id ?_); (first | refine Y.pu (fs_r36_Check _ l) ?_ | refine Y.pu (fs_r36_at _ l i hl) ?_ | refine Y.pu (fs_r35_Valid _ _) ?_ | fail)) | refine Y.st ?_ | refine Tw.mk (fun _ => ?_) (fun _ => ?_) | fail))
            all_goals try simp only [if_neg hb]
            all_goals first | (exact Rt.vlt Y.vt) | (exact Rt.fz1t Y.vt)
        | true =>
          by_cases hb : a.bal < n
          · repeat' ((conv => whnf); (first | refine El.mapi g1 (by omega) ?_ | ((with_reducible refine Cl.id ?_); (first | refine Y.pu (fs_r36_Check _ l) ?_ | refine Y.pu (fs_r36_at _ l i hl) ?_ | refine Y.pu (fs_r35_Valid _ _) ?_ | fail)) | refine Y.st ?_ | refine Tw.mk (fun _ => ?_) (fun _ => ?_) | fail))
            all_goals try simp only [if_pos hb]
            all_goals first | (exact Rt.vlt Y.vt) | (exact Rt.fz1t Y.vt)
          · repeat' ((conv => whnf); (first | refine El.mapi g1 (by omega) ?_ | ((with_reducible refine Cl.id ?_); (first | refine Y.pu (fs_r36_Check _ l) ?_ | refine Y.pu (fs_r36_at _ l i hl) ?_ | refine Y.pu (fs_r35_Valid _ _) ?_ | fail)) | refine Y.st ?_ | refine Tw.mk (fun _ => ?_) (fun _ => ?_) | fail))
            all_goals try simp only [if_neg hb]
            all_goals first | (exact Rt.vlt Y.vt) | (exact Rt.fz1t Y.vt)
  · rw [if_neg h1]
    repeat' ((conv => whnf); (first | ((with_reducible refine Cl.id ?_); (first | refine Y.pu (fs_r36_Check _ l) ?_ | fail)) | refine Y.st ?_ | refine Tw.mk (fun _ => ?_) (fun _ => ?_) | fail))
    (exact Rt.vlt Y.vt)

end Go.Proofs.Ytneoeegpceompaa.AM
