/-
The walk, part 18: trustlines: keys, comparing, finding.
-/
import Derived.Test.YtneoeegpceompaaB3
set_option linter.unusedVariables false
set_option linter.unusedSimpArgs false
namespace Go.Proofs.Ytneoeegpceompaa.Pl
def cmpI (a b : Int) : Int := if a < b then -1 else if b < a then 1 else 0
def cmpS (a b : ByteArray) : Int := if bLess a.data.toList b.data.toList then -1 else if bLess b.data.toList a.data.toList then 1 else 0
def orI (l : List Int) : Int := (l.find? (· != 0)).getD 0
def ordA (a b : Asset) : Int := orI [cmpS a.code b.code, cmpI a.issuer b.issuer]
def keyC (m : Int) (a : Asset) (n : Int) (b : Asset) : Int := orI [cmpI m n, ordA a b]

theorem bLess_irr (a : List UInt8) : bLess a a = false := by
  induction a with
  | nil => rfl
  | cons x a ih => simp [bLess, ih]
theorem bLess_tri {a b : List UInt8} (h1 : bLess a b = false) (h2 : bLess b a = false) : a = b := by
  induction a generalizing b with
  | nil => cases b with
    | nil => rfl
    | cons y b => simp [bLess] at h1
  | cons x a ih =>
    cases b with
    | nil => simp [bLess] at h2
    | cons y b =>
      simp only [bLess, Bool.or_eq_false_iff, decide_eq_false_iff_not, Bool.and_eq_false_iff, beq_eq_false_iff_ne] at h1 h2
      have e : x = y := by
        have h3 := h1.1; have h4 := h2.1
        exact UInt8.le_antisymm (UInt8.not_lt.1 h4) (UInt8.not_lt.1 h3)
      subst e
      rw [ih (h1.2.resolve_left (by simp)) (h2.2.resolve_left (by simp))]
theorem orI2 (a b : Int) : orI [a, b] = if a = 0 then b else a := by
  unfold orI
  by_cases h : a = 0
  · subst h
    by_cases k : b = 0
    · subst k; rfl
    · have e : (b != 0) = true := by simp [k]
      simp [List.find?, e]
  · have e : (a != 0) = true := by simp [h]
    simp [List.find?, e, h]
theorem bytes_ext {a b : ByteArray} (h : a.data.toList = b.data.toList) : a = b := by
  cases a with | mk da => cases b with | mk db =>
    simp only at h
    rw [show da = db from Array.toList_inj.1 h]
theorem bLess_of {a b : ByteArray} (h1 : bLess a.data.toList b.data.toList = false) (h2 : ¬ a = b) : bLess b.data.toList a.data.toList = true := by
  cases h : bLess b.data.toList a.data.toList with
  | true => rfl
  | false => exact absurd (bytes_ext (bLess_tri h1 h)) h2
theorem ordA_neg (a b : Asset) : ordA a b < 0 ↔ lessA a b = true := by
  unfold ordA
  rw [orI2]
  unfold lessA cmpS cmpI
  cases h1 : bLess a.code.data.toList b.code.data.toList with
  | true => simp
  | false =>
    cases h2 : bLess b.code.data.toList a.code.data.toList with
    | true =>
      have hne : ¬ a.code = b.code := fun e => by rw [e, bLess_irr] at h2; cases h2
      simp [hne]
    | false =>
      have he : a.code = b.code := by
        have := bLess_tri h1 h2
        cases ha : a.code with | mk da => cases hb : b.code with | mk db =>
          rw [ha, hb] at this
          simp only at this
          rw [show da = db from Array.toList_inj.1 this]
      simp only [he, Bool.false_eq_true, if_false, if_true, decide_true, Bool.true_and, Bool.false_or, decide_eq_true_eq]
      split
      · simp_all
      · split <;> simp_all
theorem keyC_neg (m n : Int) (a b : Asset) : keyC m a n b < 0 ↔ (m < n ∨ m = n ∧ lessA a b = true) := by
  unfold keyC
  rw [orI2, ← ordA_neg]
  unfold cmpI
  rcases Int.lt_trichotomy m n with h | h | h
  · simp [h]
  · subst h; simp
  · rw [if_neg (show ¬ m < n by omega), if_pos h, if_neg (by omega)]
    constructor
    · intro k; omega
    · rintro (k | ⟨k, _⟩) <;> omega
end Go.Proofs.Ytneoeegpceompaa.Pl
namespace Go.Proofs.Ytneoeegpceompaa.AM
open Go Go.Proofs Go.Proofs.Ytneoeegpceompaa.Pl

theorem fs_trustlines_of (N : Nat) (m : Int) (c : ByteArray) (i x y : Int) : FS PP N n_trustlines_of [.agg [aI m, .v (.string c), aI i, aI x, aI y]] [] (.agg [aI m, .v (.string c), aI i]) [] := by
  refine i_trustlines_of.pure (by simp) fun D _ => ?_
  repeat' ((conv => whnf); (first | refine Y.st ?_ | refine Tw.mk (fun _ => ?_) (fun _ => ?_) | fail))
  refine Rt.eq rfl
theorem fs_cmp_isNaN_int (N : Nat) (n : Int) : FS PP N n_cmp_isNaN_int [aI n] [] (aB false) [] := by
  refine i_cmp_isNaN_int.pure (by simp) fun D _ => ?_
  repeat' ((conv => whnf); (first | refine Y.st ?_ | refine Tw.mk (fun _ => ?_) (fun _ => ?_) | fail))
  all_goals (refine Rt.eq ?_; simp)
theorem fs_cmp_isNaN_string (N : Nat) (s : ByteArray) : FS PP N n_cmp_isNaN_string [.v (.string s)] [] (aB false) [] := by
  refine i_cmp_isNaN_string.pure (by simp) fun D _ => ?_
  repeat' ((conv => whnf); (first | refine Y.st ?_ | refine Tw.mk (fun _ => ?_) (fun _ => ?_) | fail))
  all_goals (refine Rt.eq ?_; simp)
theorem fs_cmp_Compare_int (N : Nat) (a b : Int) : FS PP N n_cmp_Compare_int [aI a, aI b] [] (aI (cmpI a b)) [] := by
  refine i_cmp_Compare_int.pure (by simp) fun D _ => ?_
  unfold cmpI
  repeat' ((conv => whnf); (first | ((with_reducible refine Cl.id ?_); (first | refine Y.pu (fs_cmp_isNaN_int _ _) ?_ | fail)) | refine Y.st ?_ | refine Tw.mk (fun _ => ?_) (fun _ => ?_) | fail))
  all_goals (refine Rt.int ?_; split <;> (try split) <;> first | rfl | omega)
theorem fs_cmp_Compare_string (N : Nat) (a b : ByteArray) : FS PP N n_cmp_Compare_string [.v (.string a), .v (.string b)] [] (aI (cmpS a b)) [] := by
  refine i_cmp_Compare_string.pure (by simp) fun D _ => ?_
  unfold cmpS
  repeat' ((conv => whnf); (first | ((with_reducible refine Cl.id ?_); (first | refine Y.pu (fs_cmp_isNaN_string _ _) ?_ | fail)) | refine Y.st ?_ | refine Tw.mk (fun _ => ?_) (fun _ => ?_) | fail))
  all_goals (refine Rt.int ?_; simp_all [bLess_eq, Lib.toList_data]; try exact bLess_of ‹_› ‹_›)
theorem fs_cmp_Or_int (N : Nat) (l : List Int) (hl : l.length ≤ 1000000) : FS PP N n_cmp_Or_int [sI l] [] (aI (orI l)) [] := by
  refine i_cmp_Or_int.pure (by simp) fun D _ => ?_
  repeat' ((conv => whnf); (first | refine Y.st ?_ | refine Tw.mk (fun _ => ?_) (fun _ => ?_) | fail))
  (refine Lp.go [3, 6, 7, 8] [] [] ?_; repeat' ((conv => whnf); (first | refine Y.st ?_ | intro d' hd' | fail)))
  refine l_nat D l.length (fun k => ∀ j, j < k → ∀ x, l[j]? = some x → (x != 0) = false) (fun k d => ⟨[(3, aI 0), (6, sI l), (7, aI l.length), (8, aI k)], [], d, 0⟩) (fun k hk hI d hd ih => ?_) (fun j h => by omega) d' (by omega)
  by_cases hlt : k < l.length
  · obtain ⟨a, ha⟩ : ∃ a, l[k]? = some a := ⟨l[k], by simp [hlt]⟩
    by_cases h0 : a = 0
    · repeat' ((conv => whnf); (first | refine El.mapi ha (by omega) ?_ | refine Y.st ?_ | refine Tw.mk (fun _ => ?_) (fun _ => ?_) | fail))
      (refine Lp.go [3, 6, 7, 8] [] [] ?_; repeat' ((conv => whnf); (first | refine Y.st ?_ | intro d2 hd2 | fail)))
      refine ih hlt (fun j hj x hx => ?_) d2 (by omega)
      by_cases e : j = k
      · subst e; rw [ha] at hx; injection hx with hx; subst hx; simp [h0]
      · exact hI j (by omega) x hx
    · repeat' ((conv => whnf); (first | refine El.mapi ha (by omega) ?_ | refine Y.st ?_ | refine Tw.mk (fun _ => ?_) (fun _ => ?_) | fail))
      refine Rt.int ?_
      have := idx_hit (p := fun x : Int => x != 0) ha (by simp [h0]) hI
      obtain ⟨b, g1, g2, g3⟩ := idx_get (p := fun x : Int => x != 0) (l := l) (by omega)
      rw [this] at g1
      rw [show ((k : Int)).toNat = k by omega, ha] at g1
      injection g1 with g1
      subst g1
      unfold orI; rw [g3]; rfl
  · repeat' ((conv => whnf); (first | refine Y.st ?_ | refine Tw.mk (fun _ => ?_) (fun _ => ?_) | fail))
    refine Rt.int ?_
    have := idx_neg (p := fun x : Int => x != 0) (l := l) (by rw [idx_none fun j b hb => hI j (by have := (List.getElem?_eq_some_iff.1 hb).1; omega) b hb]; omega)
    unfold orI; rw [this.1]; rfl
theorem fs_amount_Order (N : Nat) (c : ByteArray) (i : Int) (c' : ByteArray) (i' : Int) : FS PP N n_amount_Order [.agg [.v (.string c), aI i], .agg [.v (.string c'), aI i']] [] (aI (ordA ⟨c, i⟩ ⟨c', i'⟩)) [] := by
  refine i_amount_Order.pure (by simp) fun D _ => ?_
  repeat' ((conv => whnf); (first | ((with_reducible refine Cl.id ?_); (first | refine Y.pu (fs_cmp_Compare_int _ _ _) ?_ | refine Y.pu (fs_cmp_Compare_string _ _ _) ?_ | (apply Y.fz1 (fs_cmp_Or_int _ [cmpS c c', cmpI i i'] (by simp)); exact Y.vt; exact Y.lk) | fail)) | refine Y.st ?_ | refine Tw.mk (fun _ => ?_) (fun _ => ?_) | fail))
  refine Rt.int rfl
theorem fs_key_compare (N : Nat) (m : Int) (c : ByteArray) (i : Int) (n : Int) (c' : ByteArray) (i' : Int) : FS PP N n_key_compare [.agg [aI m, .v (.string c), aI i], .agg [aI n, .v (.string c'), aI i']] [] (aI (keyC m ⟨c, i⟩ n ⟨c', i'⟩)) [] := by
  refine i_key_compare.pure (by simp) fun D _ => ?_
  repeat' ((conv => whnf); (first | ((with_reducible refine Cl.id ?_); (first | refine Y.pu (fs_cmp_Compare_int _ _ _) ?_ | refine Y.pu (fs_amount_Order _ _ _ _ _) ?_ | (apply Y.fz1 (fs_cmp_Or_int _ [cmpI m n, ordA ⟨c, i⟩ ⟨c', i'⟩] (by simp)); exact Y.vt; exact Y.lk) | fail)) | refine Y.st ?_ | refine Tw.mk (fun _ => ?_) (fun _ => ?_) | fail))
  refine Rt.int rfl

theorem fs_trustlines_place_1 (N : Nat) (m : Int) (c : ByteArray) (i : Int) (n : Int) (c' : ByteArray) (i' x y : Int) : FS PP N n_trustlines_place_1 [.agg [aI n, .v (.string c'), aI i', aI x, aI y], .ipt [aI m], .ipt [.v (.string c), aI i]] [] (aB (decide (n = m ∧ (⟨c', i'⟩ : Asset) = ⟨c, i⟩))) [] := by
  refine i_trustlines_place_1.pure (by simp) fun D _ => ?_
  repeat' ((conv => whnf); (first | ((with_reducible refine Cl.id ?_); (first | refine Y.pu (fs_trustlines_of _ _ _ _ _ _) ?_ | fail)) | refine Y.st ?_ | refine Tw.mk (fun _ => ?_) (fun _ => ?_) | fail))
  refine Rt.bool ?_
  rw [str_eq, Bool.eq_iff_iff]
  simp
theorem fs_trustlines_place (N : Nat) (l : List Line) (m : Int) (c : ByteArray) (i : Int) (hl : l.length ≤ 1000000) : FS PP N n_trustlines_place [sL l, aI m, .agg [.v (.string c), aI i]] [] (aI (placeL l m ⟨c, i⟩)) [] := by
  refine i_trustlines_place.pure (by simp) fun D _ => ?_
  repeat' ((conv => whnf); (first | ((with_reducible refine Cl.id ?_); (first | (apply Y.fz2 (fs_slices_IndexFunc_Line _ l n_trustlines_place_1 (.ipt [aI m]) [.ipt [.v (.string c), aI i]] (fun x => decide (x.acc = m ∧ x.asset = ⟨c, i⟩)) hl (fun a _ N => fs_trustlines_place_1 N m c i a.acc a.asset.code a.asset.issuer a.bal a.lim)); exact Y.vt; exact Y.lk; exact Y.lk) | fail)) | refine Y.st ?_ | refine Tw.mk (fun _ => ?_) (fun _ => ?_) | fail))
  refine Rt.eq rfl
theorem fs_trustlines_Find (N : Nat) (l : List Line) (m : Int) (c : ByteArray) (i : Int) (hl : l.length ≤ 1000000) : FS PP N n_trustlines_Find [sL l, aI m, .agg [.v (.string c), aI i]] [] (.tup [.agg (cL (findL l m ⟨c, i⟩)), aB (hasL l m ⟨c, i⟩)]) [] := by
  refine i_trustlines_Find.pure (by simp) fun D _ => ?_
  by_cases hp : 0 ≤ placeL l m ⟨c, i⟩
  · obtain ⟨x, h1, h2, h3, h4⟩ := findL_yes hp
    rw [h3, h4]
    repeat' ((conv => whnf); (first | refine El.mapi h1 (by omega) ?_ | ((with_reducible refine Cl.id ?_); (first | refine Y.pu (fs_trustlines_place _ _ _ _ _ hl) ?_ | fail)) | refine Y.st ?_ | refine Tw.mk (fun _ => ?_) (fun _ => ?_) | fail))
    refine Rt.eq rfl
  · rw [(findL_no (by omega)).1, (findL_no (by omega)).2]
    repeat' ((conv => whnf); (first | ((with_reducible refine Cl.id ?_); (first | refine Y.pu (fs_trustlines_place _ _ _ _ _ hl) ?_ | fail)) | refine Y.st ?_ | refine Tw.mk (fun _ => ?_) (fun _ => ?_) | fail))
    refine Rt.eq rfl
end Go.Proofs.Ytneoeegpceompaa.AM
