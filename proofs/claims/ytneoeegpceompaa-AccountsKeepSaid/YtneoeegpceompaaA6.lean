/-
The walk, part 6: copies of slices; accounts changed.
-/
import Derived.Test.YtneoeegpceompaaA5
set_option linter.unusedVariables false
set_option linter.unusedSimpArgs false
namespace Go.Proofs.Ytneoeegpceompaa.AM
open Go Go.Proofs Go.Proofs.Ytneoeegpceompaa.Pl

theorem fs_slices_Clone_Account (N : Nat) (l : List Acct) (hl : l.length ≤ 1000000) : FS PP N n_slices_Clone_Account [.sl 3 (l.map cA)] [] (.row N 3 0 l.length) [(N, some ⟨true, t_Account, 3, l.map cA, none⟩)] := by
  cases l with
  | nil =>
    refine FS.sl0 fun A c => ?_
    cases A with
    | none =>
      refine FS.phantom fun N => i_slices_Clone_Account.pure (by simp) fun D _ => ?_
      repeat' ((conv => whnf); (first | refine Y.st ?_ | refine Tw.mk (fun _ => ?_) (fun _ => ?_) | fail))
      refine Rt.eq rfl
    | some a =>
      refine i_slices_Clone_Account.new (by simp) fun D hN => ?_
      repeat' ((conv => whnf); (first | refine Y.st ?_ | refine Tw.mk (fun _ => ?_) (fun _ => ?_) | fail))
      refine Rt.new (hN _ _ (Nat.le_refl _)) ?_
      (exact Y.lk)
  | cons x r =>
    refine i_slices_Clone_Account.new (by simp) fun D hN => ?_
    repeat' ((conv => whnf); (first | refine Ob.mk (by simp) ?_ | refine Y.st ?_ | refine Tw.mk (fun _ => ?_) (fun _ => ?_) | fail))
    refine Rt.new (hN _ _ (Nat.le_refl _)) ?_
    (exact Y.lk)

theorem fs_slices_Clone_Line (N : Nat) (l : List Line) (hl : l.length ≤ 1000000) : FS PP N n_slices_Clone_Line [.sl 5 (l.map cL)] [] (.row N 5 0 l.length) [(N, some ⟨true, t_Line, 5, l.map cL, none⟩)] := by
  cases l with
  | nil =>
    refine FS.sl0 fun A c => ?_
    cases A with
    | none =>
      refine FS.phantom fun N => i_slices_Clone_Line.pure (by simp) fun D _ => ?_
      repeat' ((conv => whnf); (first | refine Y.st ?_ | refine Tw.mk (fun _ => ?_) (fun _ => ?_) | fail))
      refine Rt.eq rfl
    | some a =>
      refine i_slices_Clone_Line.new (by simp) fun D hN => ?_
      repeat' ((conv => whnf); (first | refine Y.st ?_ | refine Tw.mk (fun _ => ?_) (fun _ => ?_) | fail))
      refine Rt.new (hN _ _ (Nat.le_refl _)) ?_
      (exact Y.lk)
  | cons x r =>
    refine i_slices_Clone_Line.new (by simp) fun D hN => ?_
    repeat' ((conv => whnf); (first | refine Ob.mk (by simp) ?_ | refine Y.st ?_ | refine Tw.mk (fun _ => ?_) (fun _ => ?_) | fail))
    refine Rt.new (hN _ _ (Nat.le_refl _)) ?_
    (exact Y.lk)

theorem fs_slices_Clone_Offer (N : Nat) (l : List Offer) (hl : l.length ≤ 1000000) : FS PP N n_slices_Clone_Offer [.sl 9 (l.map cO)] [] (.row N 9 0 l.length) [(N, some ⟨true, t_Offer, 9, l.map cO, none⟩)] := by
  cases l with
  | nil =>
    refine FS.sl0 fun A c => ?_
    cases A with
    | none =>
      refine FS.phantom fun N => i_slices_Clone_Offer.pure (by simp) fun D _ => ?_
      repeat' ((conv => whnf); (first | refine Y.st ?_ | refine Tw.mk (fun _ => ?_) (fun _ => ?_) | fail))
      refine Rt.eq rfl
    | some a =>
      refine i_slices_Clone_Offer.new (by simp) fun D hN => ?_
      repeat' ((conv => whnf); (first | refine Y.st ?_ | refine Tw.mk (fun _ => ?_) (fun _ => ?_) | fail))
      refine Rt.new (hN _ _ (Nat.le_refl _)) ?_
      (exact Y.lk)
  | cons x r =>
    refine i_slices_Clone_Offer.new (by simp) fun D hN => ?_
    repeat' ((conv => whnf); (first | refine Ob.mk (by simp) ?_ | refine Y.st ?_ | refine Tw.mk (fun _ => ?_) (fun _ => ?_) | fail))
    refine Rt.new (hN _ _ (Nat.le_refl _)) ?_
    (exact Y.lk)

/-- What a change of one account does. -/
def DoesA (f : Nat) (x : AV) (caps : List AV) (F : Acct → Acct × Int) : Prop :=
  ∀ (a : Acct), ((0 ≤ a.bal ∧ a.bal ≤ 1000000000000) ∧ 0 ≤ a.seq ∧ a.seq ≤ 1000000) → ∃ a' : Acct, ((F a).2 = 0 → a' = (F a).1) ∧
    ∀ N b k (l : List Acct), l[k]? = some a → FS PP N f (.pt b 3 k 0 :: x :: caps) [(b, ⟨true, t_Account, 3, l.map cA, none⟩)] (aI (F a).2) [(b, some ⟨true, t_Account, 3, (l.set k a').map cA, none⟩)]

theorem fs_accounts_Give_1 (n : Int) : DoesA n_accounts_Give_1 (.ipt [aI n]) [] (giveF n) := fun a ha => by
  refine ⟨⟨a.id, (checkedF [a.bal, n] (IntKind.i64.wrap (a.bal + n))).1, a.seq⟩, fun h => ?_, fun N b k l hk => ?_⟩
  · unfold giveF at h ⊢
    have hb : validAmt a.bal = true := by simpa [validAmt] using ha.1
    by_cases h1 : validAmt n && validAmt (a.bal + n)
    · simp only [Bool.and_eq_true] at h1
      have := validAmt_t h1.1
      have := ha.1
      simp [h1, checkedF, hb, wrap64 (show -9223372036854775808 ≤ a.bal + n by omega) (by omega)]
    · rw [if_neg h1] at h; cases h
  · have hr : (giveF n a).2 = (checkedF [a.bal, n] (IntKind.i64.wrap (a.bal + n))).2 := by
      unfold giveF checkedF
      have hb : validAmt a.bal = true := by simpa [validAmt] using ha.1
      by_cases h1 : validAmt n = true
      · have := validAmt_t h1
        have := ha.1
        rw [wrap64 (by omega) (by omega)]
        by_cases h2 : validAmt (a.bal + n) = true <;> simp [h1, h2, hb]
      · simp [h1]
    rw [hr]
    refine i_accounts_Give_1.upd (by simp) fun D hN hb => ?_
    repeat' ((conv => whnf); (first | refine El.mapi hk (by rfl) ?_ | ((with_reducible refine Cl.id ?_); (first | refine Y.pu (fs_amount_Add _ _ _) ?_ | fail)) | refine Y.st ?_ | refine Tw.mk (fun _ => ?_) (fun _ => ?_) | fail))
    refine Rt.upd rfl (.upd1 ?_ (by simp))
    (exact Y.lk)

theorem fs_accounts_Take_1 (n : Int) : DoesA n_accounts_Take_1 (.ipt [aI n]) [] (takeF n) := fun a ha => by
  refine ⟨(takeF n a).1, fun _ => rfl, fun N b k l hk => ?_⟩
  refine i_accounts_Take_1.upd (by simp) fun D hN hb => ?_
  have hset : l.set k a = l := by
    refine List.ext_getElem? fun j => ?_
    rw [List.getElem?_set]
    split
    · rename_i e; subst e
      rw [hk, if_pos (List.getElem?_eq_some_iff.1 hk).1]
    · rfl
  unfold takeF
  cases hv : validAmt n with
  | true =>
    simp only [if_true]
    have := validAmt_t hv
    by_cases hlt : a.bal < n
    · repeat' ((conv => whnf); (first | refine El.mapi hk (by rfl) ?_ | ((with_reducible refine Cl.id ?_); (first | refine Y.pu (fs_amount_Valid _ _) ?_ | fail)) | refine Y.st ?_ | refine Tw.mk (fun _ => ?_) (fun _ => ?_) | fail))
      refine Rt.upd (by simp [hlt]) (.upd1 ?_ (by simp))
      simp only [if_pos hlt, hset]
      (exact Y.lk)
    · repeat' ((conv => whnf); (first | refine El.mapi hk (by rfl) ?_ | ((with_reducible refine Cl.id ?_); (first | refine Y.pu (fs_amount_Valid _ _) ?_ | fail)) | refine Y.st ?_ | refine Tw.mk (fun _ => ?_) (fun _ => ?_) | fail))
      refine Rt.upd (by simp [hlt]) (.upd1 ?_ (by simp))
      simp only [if_neg hlt]
      (exact Y.lk)
  | false =>
    rw [if_neg (by simp), hset]
    repeat' ((conv => whnf); (first | refine El.mapi hk (by rfl) ?_ | ((with_reducible refine Cl.id ?_); (first | refine Y.pu (fs_amount_Valid _ _) ?_ | fail)) | refine Y.st ?_ | refine Tw.mk (fun _ => ?_) (fun _ => ?_) | fail))
    refine Rt.upd rfl (.upd1 ?_ (by simp))
    (exact Y.lk)
end Go.Proofs.Ytneoeegpceompaa.AM
