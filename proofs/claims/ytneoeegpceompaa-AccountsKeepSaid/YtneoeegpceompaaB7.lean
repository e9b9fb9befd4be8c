/-
The walk, part 14: the source of ledgers: one account's lines.
-/
import Derived.Test.YtneoeegpceompaaB6
set_option linter.unusedVariables false
set_option linter.unusedSimpArgs false
namespace Go.Proofs.Ytneoeegpceompaa.AM
open Go Go.Proofs Go.Proofs.Ytneoeegpceompaa.Pl
def linS (b : Nat) (ts : List Int) (n : Int) (L : Nat) (x f y : Int) (la : List Acct) (e : List (Nat × AV)) (i : Int) (s : List Line × Int) (d : Nat) : St := match s.1.isEmpty with
  | true => ⟨(0, .pt b 2 0 0) :: (2, .pt (nm d 2) 7 0 0) :: (3, .pt (nm d 1) 7 0 0) :: (4, aI n) :: (6, aI i) :: e, [(nm d 2, zG), (nm d 1, bG [aI x, .row (nm d 0) 3 0 L, nl, nl, aI 1, aI f, aU y]), (nm d 0, rA la), (b, bS ts s.2)], d, 3⟩
  | false => ⟨(0, .pt b 2 0 0) :: (2, .pt (nm d 3) 7 0 0) :: (3, .pt (nm d 2) 7 0 0) :: (4, aI n) :: (6, aI i) :: e, [(nm d 3, zG), (nm d 2, bG [aI x, .row (nm d 0) 3 0 L, .row (nm d 1) 5 0 s.1.length, nl, aI 1, aI f, aU y]), (nm d 1, rL s.1), (nm d 0, rA la), (b, bS ts s.2)], d, 4⟩
theorem lin_t {b : Nat} {ts : List Int} {n : Int} {L : Nat} {x f y : Int} {la : List Acct} {e : List (Nat × AV)} {i : Int} {s : List Line × Int} {d : Nat} (h : s.1.isEmpty = true) :
    linS b ts n L x f y la e i s d = ⟨(0, .pt b 2 0 0) :: (2, .pt (nm d 2) 7 0 0) :: (3, .pt (nm d 1) 7 0 0) :: (4, aI n) :: (6, aI i) :: e, [(nm d 2, zG), (nm d 1, bG [aI x, .row (nm d 0) 3 0 L, nl, nl, aI 1, aI f, aU y]), (nm d 0, rA la), (b, bS ts s.2)], d, 3⟩ := by
  unfold linS; rw [h]
theorem lin_f {b : Nat} {ts : List Int} {n : Int} {L : Nat} {x f y : Int} {la : List Acct} {e : List (Nat × AV)} {i : Int} {s : List Line × Int} {d : Nat} (h : s.1.isEmpty = false) :
    linS b ts n L x f y la e i s d = ⟨(0, .pt b 2 0 0) :: (2, .pt (nm d 3) 7 0 0) :: (3, .pt (nm d 2) 7 0 0) :: (4, aI n) :: (6, aI i) :: e, [(nm d 3, zG), (nm d 2, bG [aI x, .row (nm d 0) 3 0 L, .row (nm d 1) 5 0 s.1.length, nl, aI 1, aI f, aU y]), (nm d 1, rL s.1), (nm d 0, rA la), (b, bS ts s.2)], d, 4⟩ := by
  unfold linS; rw [h]
theorem gLine_ok {ts : List Int} {i : Int} {x : Asset} {s : List Line × Int} (hs : SrcOk ts s.2) : SrcOk ts (gLine ts i x s).2 ∧ (gLine ts i x s).1.length ≤ s.1.length + 1 := by
  unfold gLine
  have h1 := dN_ok (n := 4) hs (by omega)
  have h2 := dPick_ok (l := lims) h1.2 (by decide)
  have h3 : 0 ≤ (dPick ts (dN ts s.2 4).2 lims).1 := by have := h2.1; simp at this; omega
  have h4 := dN_ok (n := min (dPick ts (dN ts s.2 4).2 lims).1 400 + 1) h2.2 (by omega)
  split
  · exact ⟨hs, by omega⟩
  · split
    · exact ⟨h1.2, by simp⟩
    · exact ⟨h4.2, by simp⟩
theorem gIn_ok {ts : List Int} {i : Int} {s : List Line × Int} (hs : SrcOk ts s.2) : ∀ k, SrcOk ts (gIn ts i s k).2 ∧ (gIn ts i s k).1.length ≤ s.1.length + k
  | 0 => ⟨hs, by simp [gIn]⟩
  | k + 1 => by
    have h := gIn_ok (i := i) hs k
    have h2 := gLine_ok (i := i) (x := if k = 0 then eur else usd) h.1
    exact ⟨h2.1, by have := h2.2; simp only [gIn]; omega⟩
theorem gLines_ok {ts : List Int} {a : Int} (hs : SrcOk ts a) : ∀ k, SrcOk ts (gLines ts a k).2 ∧ (gLines ts a k).1.length ≤ 2 * k
  | 0 => ⟨hs, by simp [gLines]⟩
  | k + 1 => by
    have h := gLines_ok hs k
    have h2 := gIn_ok (i := (k : Int) + 1) h.1 2
    exact ⟨h2.1, by have := h2.2; simp only [gLines]; omega⟩

abbrev eurUsd : AV := .agg [.v (.string eur.code), aI 2, .v (.string usd.code), aI 1]
theorem Src_Ledger_r1 {Q : Post} (b : Nat) (ts : List Int) (n : Int) (L : Nat) (x f y : Int) (la : List Acct) (i : Int) (s1 : List Line × Int) (hg1 : SrcOk ts s1.2) (D : Nat) (hb : ¬ Gar D b) (d : Nat) (hd : D ≤ d)
    (hi : 1 = i ∨ ¬ 1 = i ∧ (dN ts s1.2 4).1 = 0)
    (ih : ∀ d', D ≤ d' → Lp PP 111 l_Src_Ledger_1 (linS b ts n L x f y la [(48, eurUsd), (49, aI (1 + 1))] i (gLine ts i usd s1) d') Q) :
    wpC PP 111 l_Src_Ledger_1 (linS b ts n L x f y la [(48, eurUsd), (49, aI 1)] i s1 d) (thenQ (fun S' => Lp PP 111 l_Src_Ledger_1 S' Q) Q) := by
  unfold gLine at ih
  rcases hi with hi | ⟨hi, h0⟩
  · rw [if_pos (show (usd).issuer = i from hi)] at ih
    cases he : s1.1.isEmpty
    · simp only [lin_f he] at ih ⊢
      repeat' ((conv => whnf); (first | refine Y.st ?_ | refine Tw.mk (fun _ => ?_) (fun _ => ?_) | fail))
      (refine Lp.gox [0, 2, 3, 4, 6, 48, 49] (fun d2 => [b, nm d2 0, nm d2 1]) (nm d 2) [nm d 0, nm d 1] [nm d 2, nm d 3] ?_; repeat' ((conv => whnf); (first | refine Y.st ?_ | intro d2 hd2 | fail)))
      exact ih d2 (by omega)
    · simp only [lin_t he] at ih ⊢
      repeat' ((conv => whnf); (first | refine Y.st ?_ | refine Tw.mk (fun _ => ?_) (fun _ => ?_) | fail))
      (refine Lp.gox [0, 2, 3, 4, 6, 48, 49] (fun d2 => [b, nm d2 0]) (nm d 1) [nm d 0] [nm d 1, nm d 2] ?_; repeat' ((conv => whnf); (first | refine Y.st ?_ | intro d2 hd2 | fail)))
      exact ih d2 (by omega)
  · rw [if_neg (show ¬ (usd).issuer = i from hi)] at ih
    have hS1 := fun N => fs_Src_N N b ts s1.2 4 hg1 (by omega)
    have hv1 := dN_ok (n := 4) hg1 (by omega)
    generalize dN ts s1.2 4 = v1 at hS1 hv1 h0 ih
    rw [if_pos h0] at ih
    cases he : s1.1.isEmpty
    · simp only [lin_f (s := (s1.1, v1.2)) he, lin_f he] at ih ⊢
      repeat' ((conv => whnf); (first | ((with_reducible refine Cl.id ?_); (first | (refine Y.upd (hS1 _) ?_ ?_; exact Y.lk) | fail)) | refine Y.st ?_ | refine Tw.mk (fun _ => ?_) (fun _ => ?_) | fail))
      (refine Lp.gox [0, 2, 3, 4, 6, 48, 49] (fun d2 => [b, nm d2 0, nm d2 1]) (nm d 2) [nm d 0, nm d 1] [nm d 2, nm d 3] ?_; repeat' ((conv => whnf); (first | refine Y.st ?_ | intro d2 hd2 | fail)))
      exact ih d2 (by omega)
    · simp only [lin_t (s := (s1.1, v1.2)) he, lin_t he] at ih ⊢
      repeat' ((conv => whnf); (first | ((with_reducible refine Cl.id ?_); (first | (refine Y.upd (hS1 _) ?_ ?_; exact Y.lk) | fail)) | refine Y.st ?_ | refine Tw.mk (fun _ => ?_) (fun _ => ?_) | fail))
      (refine Lp.gox [0, 2, 3, 4, 6, 48, 49] (fun d2 => [b, nm d2 0]) (nm d 1) [nm d 0] [nm d 1, nm d 2] ?_; repeat' ((conv => whnf); (first | refine Y.st ?_ | intro d2 hd2 | fail)))
      exact ih d2 (by omega)

theorem Src_Ledger_a1 {Q : Post} (b : Nat) (ts : List Int) (n : Int) (L : Nat) (x f y : Int) (la : List Acct) (i : Int) (s1 : List Line × Int) (hg1 : SrcOk ts s1.2) (hl : s1.1.length ≤ 200) (D : Nat) (hb : ¬ Gar D b) (d : Nat) (hd : D ≤ d)
    (hi : ¬ 1 = i) (h0 : ¬ (dN ts s1.2 4).1 = 0)
    (ih : ∀ d', D ≤ d' → Lp PP 111 l_Src_Ledger_1 (linS b ts n L x f y la [(48, eurUsd), (49, aI (1 + 1))] i (gLine ts i usd s1) d') Q) :
    wpC PP 111 l_Src_Ledger_1 (linS b ts n L x f y la [(48, eurUsd), (49, aI 1)] i s1 d) (thenQ (fun S' => Lp PP 111 l_Src_Ledger_1 S' Q) Q) := by
  unfold gLine at ih
  rw [if_neg (show ¬ (usd).issuer = i from hi)] at ih
  have hS1 := fun N => fs_Src_N N b ts s1.2 4 hg1 (by omega)
  have hv1 := dN_ok (n := 4) hg1 (by omega)
  generalize dN ts s1.2 4 = v1 at hS1 hv1 h0 ih
  rw [if_neg h0] at ih
  have hS2 := fun N => fs_Src_Pick N b ts lims v1.2 hv1.2 (by decide)
  have hv2 := dPick_ok (l := lims) hv1.2 (by decide)
  generalize dPick ts v1.2 lims = v2 at hS2 hv2 ih
  have hb2 : 0 ≤ v2.1 ∧ v2.1 ≤ 1000000000000 := by have := hv2.1; simp at this; omega
  have hS3 := fun N => fs_Src_N N b ts v2.2 (min v2.1 400 + 1) hv2.2 (by omega)
  have hv3 := dN_ok (n := min v2.1 400 + 1) hv2.2 (by omega)
  generalize dN ts v2.2 (min v2.1 400 + 1) = v3 at hS3 hv3 ih
  have hne : (s1.1 ++ [(⟨i, usd, v3.1, v2.1⟩ : Line)]).isEmpty = false := by simp
  have hln : (s1.1 ++ [(⟨i, usd, v3.1, v2.1⟩ : Line)]).length = s1.1.length + 1 := by simp
  cases he : s1.1.isEmpty
  · simp only [lin_f (s := (s1.1 ++ [(⟨i, usd, v3.1, v2.1⟩ : Line)], v3.2)) hne, lin_f he] at ih ⊢
    rw [hln] at ih
    repeat' ((conv => whnf); (first | ((with_reducible refine Cl.id ?_); (first | (refine Y.upd (hS1 _) ?_ ?_; exact Y.lk) | (apply Y.fz1w (hS2 _); exact Y.vt; exact Y.lk; exact Y.lk; exact Y.ne) | (refine Y.upd (hS3 _) ?_ ?_; exact Y.lk) | fail)) | refine Y.st ?_ | refine Tw.mk (fun _ => ?_) (fun _ => ?_) | fail))
    (refine Lp.gox [0, 2, 3, 4, 6, 48, 49] (fun d2 => [b, nm d2 0, nm d2 1]) (nm d 2) [nm d 0, nm d 33] [nm d 2, nm d 3] ?_; repeat' ((conv => whnf); (first | refine Y.st ?_ | intro d2 hd2 | fail)))
    exact ih d2 (by omega)
  · have hn : s1.1 = [] := by simpa using he
    simp only [lin_f (s := (s1.1 ++ [(⟨i, usd, v3.1, v2.1⟩ : Line)], v3.2)) hne, lin_t he] at ih ⊢
    rw [hn] at ih
    repeat' ((conv => whnf); (first | ((with_reducible refine Cl.id ?_); (first | (refine Y.upd (hS1 _) ?_ ?_; exact Y.lk) | (apply Y.fz1w (hS2 _); exact Y.vt; exact Y.lk; exact Y.lk; exact Y.ne) | (refine Y.upd (hS3 _) ?_ ?_; exact Y.lk) | fail)) | refine Y.st ?_ | refine Tw.mk (fun _ => ?_) (fun _ => ?_) | fail))
    (refine Lp.gox [0, 2, 3, 4, 6, 48, 49] (fun d2 => [b, nm d2 0, nm d2 1]) (nm d 1) [nm d 0, nm d 32] [nm d 1, nm d 2] ?_; repeat' ((conv => whnf); (first | refine Y.st ?_ | intro d2 hd2 | fail)))
    exact ih d2 (by omega)
theorem Src_Ledger_r0 {Q : Post} (b : Nat) (ts : List Int) (n : Int) (L : Nat) (x f y : Int) (la : List Acct) (i : Int) (s1 : List Line × Int) (hg1 : SrcOk ts s1.2) (D : Nat) (hb : ¬ Gar D b) (d : Nat) (hd : D ≤ d)
    (hi : 2 = i ∨ ¬ 2 = i ∧ (dN ts s1.2 4).1 = 0)
    (ih : ∀ d', D ≤ d' → Lp PP 111 l_Src_Ledger_1 (linS b ts n L x f y la [(48, eurUsd), (49, aI (0 + 1))] i (gLine ts i eur s1) d') Q) :
    wpC PP 111 l_Src_Ledger_1 (linS b ts n L x f y la [(48, eurUsd), (49, aI 0)] i s1 d) (thenQ (fun S' => Lp PP 111 l_Src_Ledger_1 S' Q) Q) := by
  unfold gLine at ih
  rcases hi with hi | ⟨hi, h0⟩
  · rw [if_pos (show (eur).issuer = i from hi)] at ih
    cases he : s1.1.isEmpty
    · simp only [lin_f he] at ih ⊢
      repeat' ((conv => whnf); (first | refine Y.st ?_ | refine Tw.mk (fun _ => ?_) (fun _ => ?_) | fail))
      (refine Lp.gox [0, 2, 3, 4, 6, 48, 49] (fun d2 => [b, nm d2 0, nm d2 1]) (nm d 2) [nm d 0, nm d 1] [nm d 2, nm d 3] ?_; repeat' ((conv => whnf); (first | refine Y.st ?_ | intro d2 hd2 | fail)))
      exact ih d2 (by omega)
    · simp only [lin_t he] at ih ⊢
      repeat' ((conv => whnf); (first | refine Y.st ?_ | refine Tw.mk (fun _ => ?_) (fun _ => ?_) | fail))
      (refine Lp.gox [0, 2, 3, 4, 6, 48, 49] (fun d2 => [b, nm d2 0]) (nm d 1) [nm d 0] [nm d 1, nm d 2] ?_; repeat' ((conv => whnf); (first | refine Y.st ?_ | intro d2 hd2 | fail)))
      exact ih d2 (by omega)
  · rw [if_neg (show ¬ (eur).issuer = i from hi)] at ih
    have hS1 := fun N => fs_Src_N N b ts s1.2 4 hg1 (by omega)
    have hv1 := dN_ok (n := 4) hg1 (by omega)
    generalize dN ts s1.2 4 = v1 at hS1 hv1 h0 ih
    rw [if_pos h0] at ih
    cases he : s1.1.isEmpty
    · simp only [lin_f (s := (s1.1, v1.2)) he, lin_f he] at ih ⊢
      repeat' ((conv => whnf); (first | ((with_reducible refine Cl.id ?_); (first | (refine Y.upd (hS1 _) ?_ ?_; exact Y.lk) | fail)) | refine Y.st ?_ | refine Tw.mk (fun _ => ?_) (fun _ => ?_) | fail))
      (refine Lp.gox [0, 2, 3, 4, 6, 48, 49] (fun d2 => [b, nm d2 0, nm d2 1]) (nm d 2) [nm d 0, nm d 1] [nm d 2, nm d 3] ?_; repeat' ((conv => whnf); (first | refine Y.st ?_ | intro d2 hd2 | fail)))
      exact ih d2 (by omega)
    · simp only [lin_t (s := (s1.1, v1.2)) he, lin_t he] at ih ⊢
      repeat' ((conv => whnf); (first | ((with_reducible refine Cl.id ?_); (first | (refine Y.upd (hS1 _) ?_ ?_; exact Y.lk) | fail)) | refine Y.st ?_ | refine Tw.mk (fun _ => ?_) (fun _ => ?_) | fail))
      (refine Lp.gox [0, 2, 3, 4, 6, 48, 49] (fun d2 => [b, nm d2 0]) (nm d 1) [nm d 0] [nm d 1, nm d 2] ?_; repeat' ((conv => whnf); (first | refine Y.st ?_ | intro d2 hd2 | fail)))
      exact ih d2 (by omega)

theorem Src_Ledger_a0 {Q : Post} (b : Nat) (ts : List Int) (n : Int) (L : Nat) (x f y : Int) (la : List Acct) (i : Int) (s1 : List Line × Int) (hg1 : SrcOk ts s1.2) (hl : s1.1.length ≤ 200) (D : Nat) (hb : ¬ Gar D b) (d : Nat) (hd : D ≤ d)
    (hi : ¬ 2 = i) (h0 : ¬ (dN ts s1.2 4).1 = 0)
    (ih : ∀ d', D ≤ d' → Lp PP 111 l_Src_Ledger_1 (linS b ts n L x f y la [(48, eurUsd), (49, aI (0 + 1))] i (gLine ts i eur s1) d') Q) :
    wpC PP 111 l_Src_Ledger_1 (linS b ts n L x f y la [(48, eurUsd), (49, aI 0)] i s1 d) (thenQ (fun S' => Lp PP 111 l_Src_Ledger_1 S' Q) Q) := by
  unfold gLine at ih
  rw [if_neg (show ¬ (eur).issuer = i from hi)] at ih
  have hS1 := fun N => fs_Src_N N b ts s1.2 4 hg1 (by omega)
  have hv1 := dN_ok (n := 4) hg1 (by omega)
  generalize dN ts s1.2 4 = v1 at hS1 hv1 h0 ih
  rw [if_neg h0] at ih
  have hS2 := fun N => fs_Src_Pick N b ts lims v1.2 hv1.2 (by decide)
  have hv2 := dPick_ok (l := lims) hv1.2 (by decide)
  generalize dPick ts v1.2 lims = v2 at hS2 hv2 ih
  have hb2 : 0 ≤ v2.1 ∧ v2.1 ≤ 1000000000000 := by have := hv2.1; simp at this; omega
  have hS3 := fun N => fs_Src_N N b ts v2.2 (min v2.1 400 + 1) hv2.2 (by omega)
  have hv3 := dN_ok (n := min v2.1 400 + 1) hv2.2 (by omega)
  generalize dN ts v2.2 (min v2.1 400 + 1) = v3 at hS3 hv3 ih
  have hne : (s1.1 ++ [(⟨i, eur, v3.1, v2.1⟩ : Line)]).isEmpty = false := by simp
  have hln : (s1.1 ++ [(⟨i, eur, v3.1, v2.1⟩ : Line)]).length = s1.1.length + 1 := by simp
  cases he : s1.1.isEmpty
  · simp only [lin_f (s := (s1.1 ++ [(⟨i, eur, v3.1, v2.1⟩ : Line)], v3.2)) hne, lin_f he] at ih ⊢
    rw [hln] at ih
    repeat' ((conv => whnf); (first | ((with_reducible refine Cl.id ?_); (first | (refine Y.upd (hS1 _) ?_ ?_; exact Y.lk) | (apply Y.fz1w (hS2 _); exact Y.vt; exact Y.lk; exact Y.lk; exact Y.ne) | (refine Y.upd (hS3 _) ?_ ?_; exact Y.lk) | fail)) | refine Y.st ?_ | refine Tw.mk (fun _ => ?_) (fun _ => ?_) | fail))
    (refine Lp.gox [0, 2, 3, 4, 6, 48, 49] (fun d2 => [b, nm d2 0, nm d2 1]) (nm d 2) [nm d 0, nm d 33] [nm d 2, nm d 3] ?_; repeat' ((conv => whnf); (first | refine Y.st ?_ | intro d2 hd2 | fail)))
    exact ih d2 (by omega)
  · have hn : s1.1 = [] := by simpa using he
    simp only [lin_f (s := (s1.1 ++ [(⟨i, eur, v3.1, v2.1⟩ : Line)], v3.2)) hne, lin_t he] at ih ⊢
    rw [hn] at ih
    repeat' ((conv => whnf); (first | ((with_reducible refine Cl.id ?_); (first | (refine Y.upd (hS1 _) ?_ ?_; exact Y.lk) | (apply Y.fz1w (hS2 _); exact Y.vt; exact Y.lk; exact Y.lk; exact Y.ne) | (refine Y.upd (hS3 _) ?_ ?_; exact Y.lk) | fail)) | refine Y.st ?_ | refine Tw.mk (fun _ => ?_) (fun _ => ?_) | fail))
    (refine Lp.gox [0, 2, 3, 4, 6, 48, 49] (fun d2 => [b, nm d2 0, nm d2 1]) (nm d 1) [nm d 0, nm d 32] [nm d 1, nm d 2] ?_; repeat' ((conv => whnf); (first | refine Y.st ?_ | intro d2 hd2 | fail)))
    exact ih d2 (by omega)
theorem Src_Ledger_in {Q : Post} (b : Nat) (ts : List Int) (n : Int) (L : Nat) (x f y : Int) (la : List Acct) (i : Int) (s : List Line × Int) (hs : SrcOk ts s.2) (hl : s.1.length ≤ 100) (D : Nat) (hb : ¬ Gar D b)
    (hQ : ∀ d, D ≤ d → ∀ B, Q (.exit 4) { linS b ts n L x f y la [(48, eurUsd), (49, aI 2)] i (gIn ts i s 2) d with T := (50, B) :: (linS b ts n L x f y la [(48, eurUsd), (49, aI 2)] i (gIn ts i s 2) d).T, nx := (linS b ts n L x f y la [(48, eurUsd), (49, aI 2)] i (gIn ts i s 2) d).nx + 1 }) :
    ∀ d, D ≤ d → Lp PP 111 l_Src_Ledger_1 (linS b ts n L x f y la [(48, eurUsd), (49, aI 0)] i s d) Q := by
  refine l_nat D 2 (fun _ => True) (fun k d => linS b ts n L x f y la [(48, eurUsd), (49, aI k)] i (gIn ts i s k) d) (fun k hk _ d hd ih => ?_) trivial
  have hg := gIn_ok (i := i) hs k
  obtain rfl | rfl | rfl : k = 0 ∨ k = 1 ∨ k = 2 := by omega
  rotate_left
  rotate_left
  · cases he : (gIn ts i s 2).1.isEmpty
    · rw [lin_f he]
      have hQ := hQ d hd
      rw [lin_f he] at hQ
      repeat' ((conv => whnf); (first | refine Y.st ?_ | refine Tw.mk (fun _ => ?_) (fun _ => ?_) | fail))
      exact hQ _
    · rw [lin_t he]
      have hQ := hQ d hd
      rw [lin_t he] at hQ
      repeat' ((conv => whnf); (first | refine Y.st ?_ | refine Tw.mk (fun _ => ?_) (fun _ => ?_) | fail))
      exact hQ _
  rotate_left
  · have e : gIn ts i s (1 + 1) = gLine ts i usd (gIn ts i s 1) := rfl
    have ih := ih (by omega) trivial
    rw [e] at ih
    clear e
    generalize gIn ts i s 1 = s1 at hg ih ⊢
    obtain ⟨hg1, hg2⟩ := hg
    by_cases hi : (1 : Int) = i
    · exact Src_Ledger_r1 b ts n L x f y la i s1 hg1 D hb d hd (.inl hi) ih
    · by_cases h0 : (dN ts s1.2 4).1 = 0
      · exact Src_Ledger_r1 b ts n L x f y la i s1 hg1 D hb d hd (.inr ⟨hi, h0⟩) ih
      · exact Src_Ledger_a1 b ts n L x f y la i s1 hg1 (by omega) D hb d hd hi h0 ih
  · have e : gIn ts i s (0 + 1) = gLine ts i eur (gIn ts i s 0) := rfl
    have ih := ih (by omega) trivial
    rw [e] at ih
    clear e
    generalize gIn ts i s 0 = s1 at hg ih ⊢
    obtain ⟨hg1, hg2⟩ := hg
    by_cases hi : (2 : Int) = i
    · exact Src_Ledger_r0 b ts n L x f y la i s1 hg1 D hb d hd (.inl hi) ih
    · by_cases h0 : (dN ts s1.2 4).1 = 0
      · exact Src_Ledger_r0 b ts n L x f y la i s1 hg1 D hb d hd (.inr ⟨hi, h0⟩) ih
      · exact Src_Ledger_a0 b ts n L x f y la i s1 hg1 (by omega) D hb d hd hi h0 ih
end Go.Proofs.Ytneoeegpceompaa.AM
