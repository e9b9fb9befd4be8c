/-
The walk, part 2: the source of numbers; places by IndexFunc; finding accounts.
-/
import Derived.Test.YtneoeegpceompaaA1
set_option linter.unusedVariables false
set_option linter.unusedSimpArgs false
namespace Go.Proofs.Ytneoeegpceompaa.AM
open Go Go.Proofs Go.Proofs.Ytneoeegpceompaa.Pl

/-! ### The source of numbers -/
abbrev bS (ts : List Int) (at_ : Int) : Blk := ⟨true, t_Src, 2, [[sI ts, aI at_]], some 1⟩
/-- A source as it may be: its numbers are no more than 800. -/
structure SrcOk (ts : List Int) (a : Int) : Prop where
  len : ts.length ≤ 800
  lo : 0 ≤ a
  hi : a ≤ 800

theorem fs_mk_New (N : Nat) (ts : List Int) : FS PP N n_mk_New [sI ts] [] (.pt N 2 0 0) [(N, some (bS (ts.take 800) 0))] := by
  refine i_mk_New.new (by simp) fun D hN => ?_
  repeat' ((conv => whnf); (first | refine Y.st ?_ | refine Tw.mk (fun _ => ?_) (fun _ => ?_) | fail))
  refine Rt.newp (hN _ _ (Nat.le_refl _)) ?_
  refine Lk.here ?_
  have : (min (ts.length : Int) 800).toNat = min ts.length 800 := by omega
  simp [this, List.map_take]
  omega

/-! #### What is drawn: the number and the place behind it -/
def dN (ts : List Int) (a n : Int) : Int × Int := if (ts.length : Int) ≤ a then (0, a) else (((ts.getD a.toNat 0).tmod n + n).tmod n, a + 1)
def dRange (ts : List Int) (a lo hi : Int) : Int × Int := (lo + (dN ts a (hi - lo + 1)).1, (dN ts a (hi - lo + 1)).2)
def dPick (ts : List Int) (a : Int) (l : List Int) : Int × Int := (l.getD (dN ts a l.length).1.toNat 0, (dN ts a l.length).2)
abbrev odds : List Int := [-1, 0, 1, 2, 9223372036854775807, -9223372036854775808, 1000000000000, 1000000000001, 1000000, 1000001, 1000000, 1000, 1001, 1000, 1001]
theorem dN_ok {ts : List Int} {a n : Int} (hs : SrcOk ts a) (hn : 1 ≤ n) : (0 ≤ (dN ts a n).1 ∧ (dN ts a n).1 < n) ∧ SrcOk ts (dN ts a n).2 := by
  obtain ⟨h1, h2, h3⟩ := hs
  unfold dN
  split
  · exact ⟨by simp; omega, ⟨h1, h2, h3⟩⟩
  · have m2 : -n < (ts.getD a.toNat 0).tmod n := by
      have := Int.neg_tmod (ts.getD a.toNat 0) n
      have := Int.tmod_lt_of_pos (-(ts.getD a.toNat 0)) (show 0 < n by omega)
      omega
    have m3 := Int.tmod_lt_of_pos ((ts.getD a.toNat 0).tmod n + n) (show 0 < n by omega)
    have m4 := Int.tmod_nonneg n (show 0 ≤ (ts.getD a.toNat 0).tmod n + n by omega)
    exact ⟨⟨m4, m3⟩, ⟨h1, by simp; omega, by simp; omega⟩⟩
theorem dRange_ok {ts : List Int} {a lo hi : Int} (hs : SrcOk ts a) (hn : lo ≤ hi) : (lo ≤ (dRange ts a lo hi).1 ∧ (dRange ts a lo hi).1 ≤ hi) ∧ SrcOk ts (dRange ts a lo hi).2 := by
  have := dN_ok (n := hi - lo + 1) hs (by omega)
  exact ⟨by unfold dRange; simp only; omega, this.2⟩
theorem dPick_ok {ts l : List Int} {a : Int} (hs : SrcOk ts a) (hn : 1 ≤ l.length) : (dPick ts a l).1 ∈ l ∧ SrcOk ts (dPick ts a l).2 := by
  have := dN_ok (n := l.length) hs (by omega)
  refine ⟨?_, this.2⟩
  unfold dPick
  have hlt : (dN ts a l.length).1.toNat < l.length := by omega
  simp only [List.getD_eq_getElem?_getD, List.getElem?_eq_getElem hlt, Option.getD_some]
  exact List.getElem_mem hlt

theorem fs_Src_N (N b : Nat) (ts : List Int) (a n : Int) (hs : SrcOk ts a) (hn : 1 ≤ n ∧ n ≤ 1000000000) :
    FS PP N n_Src_N [.pt b 2 0 0, aI n] [(b, bS ts a)] (aI (dN ts a n).1) [(b, some (bS ts (dN ts a n).2))] := by
  obtain ⟨h1, h2, h3⟩ := hs
  refine i_Src_N.upd (by simp) fun D hN hb => ?_
  by_cases hc : (ts.length : Int) ≤ a
  · rw [dN, if_pos hc]
    repeat' ((conv => whnf); (first | refine Y.st ?_ | refine Tw.mk (fun _ => ?_) (fun _ => ?_) | fail))
    refine Rt.upd rfl (.upd1 ?_ (by simp))
    (exact Y.lk)
  · obtain ⟨t, ht⟩ : ∃ t, ts[a.toNat]? = some t := ⟨_, List.getElem?_eq_getElem (by omega : a.toNat < ts.length)⟩
    have hg : ts.getD a.toNat 0 = t := by rw [List.getD_eq_getElem?_getD, ht]; rfl
    have m1 := Int.tmod_lt_of_pos t (show 0 < n by omega)
    have m2 : -n < t.tmod n := by
      have := Int.neg_tmod t n
      have := Int.tmod_lt_of_pos (-t) (show 0 < n by omega)
      omega
    rw [dN, if_neg hc, hg]
    repeat' ((conv => whnf); (first | refine El.mapi ht (by omega) ?_ | refine Y.st ?_ | refine Tw.mk (fun _ => ?_) (fun _ => ?_) | fail))
    refine Rt.upd rfl (.upd1 ?_ (by simp))
    (exact Y.lk)

theorem fs_Src_Range (N b : Nat) (ts : List Int) (a lo hi : Int) (hs : SrcOk ts a) (hn : lo ≤ hi ∧ -1000000 ≤ lo ∧ hi ≤ 1000000) :
    FS PP N n_Src_Range [.pt b 2 0 0, aI lo, aI hi] [(b, bS ts a)] (aI (dRange ts a lo hi).1) [(b, some (bS ts (dRange ts a lo hi).2))] := by
  refine i_Src_Range.upd (by simp) fun D hN hb => ?_
  have := dN_ok (n := hi - lo + 1) hs (by omega)
  unfold dRange
  repeat' ((conv => whnf); (first | ((with_reducible refine Cl.id ?_); (first | (refine Y.upd (fs_Src_N _ _ _ _ _ hs (by omega)) ?_ ?_; exact Y.lk) | fail)) | refine Y.st ?_ | refine Tw.mk (fun _ => ?_) (fun _ => ?_) | fail))
  refine Rt.upd rfl (.upd1 ?_ (by simp))
  (exact Y.lk)

theorem fs_Src_Pick (N b : Nat) (ts l : List Int) (a : Int) (hs : SrcOk ts a) (hn : 1 ≤ l.length ∧ l.length ≤ 1000) :
    FS PP N n_Src_Pick [.pt b 2 0 0, sI l] [(b, bS ts a)] (aI (dPick ts a l).1) [(b, some (bS ts (dPick ts a l).2))] := by
  refine i_Src_Pick.upd (by simp) fun D hN hb => ?_
  have hv := (dN_ok (n := l.length) hs (by omega)).1
  obtain ⟨y, hy⟩ : ∃ y, l[(dN ts a l.length).1.toNat]? = some y := ⟨_, List.getElem?_eq_getElem (by omega : (dN ts a l.length).1.toNat < l.length)⟩
  have hg : l.getD (dN ts a l.length).1.toNat 0 = y := by rw [List.getD_eq_getElem?_getD, hy]; rfl
  unfold dPick
  rw [hg]
  repeat' ((conv => whnf); (first | refine El.mapi hy (by omega) ?_ | ((with_reducible refine Cl.id ?_); (first | (refine Y.upd (fs_Src_N _ _ _ _ _ hs (by omega)) ?_ ?_; exact Y.lk) | fail)) | refine Y.st ?_ | refine Tw.mk (fun _ => ?_) (fun _ => ?_) | fail))
  refine Rt.upd rfl (.upd1 ?_ (by simp))
  (exact Y.lk)

theorem fs_Src_Odd (N b : Nat) (ts : List Int) (a : Int) (hs : SrcOk ts a) :
    FS PP N n_Src_Odd [.pt b 2 0 0] [(b, bS ts a)] (aI (dPick ts a odds).1) [(b, some (bS ts (dPick ts a odds).2))] := by
  refine i_Src_Odd.upd (by simp) fun D hN hb => ?_
  have hS := fun N => fs_Src_Pick N b ts [-1, 0, 1, 2, 9223372036854775807, -9223372036854775808, 1000000000000, 1000000000001, 1000000, 1000001, 1000000, 1000, 1001, 1000, 1001] a hs (by simp)
  generalize dPick ts a odds = v at hS ⊢
  repeat' ((conv => whnf); (first | ((with_reducible refine Cl.id ?_); (first | (apply Y.fz1u (hS _); exact Y.vt; exact Y.lk; exact Y.lk; exact Y.ne) | fail)) | refine Y.st ?_ | refine Tw.mk (fun _ => ?_) (fun _ => ?_) | fail))
  refine Rt.upd rfl (.upd1 ?_ (by simp))
  (exact Y.lk)

theorem fs_mk_Usd (N : Nat) : FS PP N n_mk_Usd [] [] (.agg [.v (.string ⟨#[85, 83, 68]⟩), aI 1]) [] := by
  refine i_mk_Usd.pure (by simp) fun D hN => ?_
  repeat' ((conv => whnf); (first | refine Y.st ?_ | refine Tw.mk (fun _ => ?_) (fun _ => ?_) | fail))
  refine Rt.eq rfl
theorem fs_mk_Eur (N : Nat) : FS PP N n_mk_Eur [] [] (.agg [.v (.string ⟨#[69, 85, 82]⟩), aI 2]) [] := by
  refine i_mk_Eur.pure (by simp) fun D hN => ?_
  repeat' ((conv => whnf); (first | refine Y.st ?_ | refine Tw.mk (fun _ => ?_) (fun _ => ?_) | fail))
  refine Rt.eq rfl
def usd : Asset := ⟨⟨#[85, 83, 68]⟩, 1⟩
def eur : Asset := ⟨⟨#[69, 85, 82]⟩, 2⟩
def dAsset (ts : List Int) (a : Int) : Asset × Int := (if (dN ts a 3).1 = 0 then ⟨⟨#[]⟩, 0⟩ else if (dN ts a 3).1 = 1 then usd else eur, (dN ts a 3).2)
theorem dAsset_ok {ts : List Int} {a : Int} (hs : SrcOk ts a) : ((dAsset ts a).1 = ⟨⟨#[]⟩, 0⟩ ∨ (dAsset ts a).1 = usd ∨ (dAsset ts a).1 = eur) ∧ SrcOk ts (dAsset ts a).2 := by
  refine ⟨?_, (dN_ok hs (by omega)).2⟩
  unfold dAsset
  simp only
  split
  · exact .inl rfl
  · split
    · exact .inr (.inl rfl)
    · exact .inr (.inr rfl)
theorem fs_Src_Asset (N b : Nat) (ts : List Int) (a : Int) (hs : SrcOk ts a) :
    FS PP N n_Src_Asset [.pt b 2 0 0] [(b, bS ts a)] (.agg [.v (.string (dAsset ts a).1.code), aI (dAsset ts a).1.issuer]) [(b, some (bS ts (dAsset ts a).2))] := by
  refine i_Src_Asset.upd (by simp) fun D hN hb => ?_
  have hS := fun N => fs_Src_N N b ts a 3 hs (by omega)
  have hv := dN_ok (n := 3) hs (by omega)
  unfold dAsset
  generalize dN ts a 3 = v at hS hv ⊢
  obtain ⟨v, a'⟩ := v
  dsimp only at hS hv ⊢
  have : v = 0 ∨ v = 1 ∨ v = 2 := by omega
  rcases this with rfl | rfl | rfl
  · rw [if_pos rfl]
    repeat' ((conv => whnf); (first | ((with_reducible refine Cl.id ?_); (first | refine Y.pu (fs_mk_Usd _) ?_ | refine Y.pu (fs_mk_Eur _) ?_ | (refine Y.upd (hS _) ?_ ?_; exact Y.lk) | fail)) | refine Y.st ?_ | refine Tw.mk (fun _ => ?_) (fun _ => ?_) | fail))
    refine Rt.upd rfl (.upd1 ?_ (by simp))
    (exact Y.lk)
  · rw [if_neg (by decide), if_pos rfl]
    repeat' ((conv => whnf); (first | ((with_reducible refine Cl.id ?_); (first | refine Y.pu (fs_mk_Usd _) ?_ | refine Y.pu (fs_mk_Eur _) ?_ | (refine Y.upd (hS _) ?_ ?_; exact Y.lk) | fail)) | refine Y.st ?_ | refine Tw.mk (fun _ => ?_) (fun _ => ?_) | fail))
    refine Rt.upd rfl (.upd1 ?_ (by simp))
    (exact Y.lk)
  · rw [if_neg (by decide), if_neg (by decide)]
    repeat' ((conv => whnf); (first | ((with_reducible refine Cl.id ?_); (first | refine Y.pu (fs_mk_Usd _) ?_ | refine Y.pu (fs_mk_Eur _) ?_ | (refine Y.upd (hS _) ?_ ?_; exact Y.lk) | fail)) | refine Y.st ?_ | refine Tw.mk (fun _ => ?_) (fun _ => ?_) | fail))
    refine Rt.upd rfl (.upd1 ?_ (by simp))
    (exact Y.lk)
end Go.Proofs.Ytneoeegpceompaa.AM
