/-
The walk, part 13: the source of ledgers.
-/
import Derived.Test.YtneoeegpceompaaA2
set_option linter.unusedVariables false
set_option linter.unusedSimpArgs false
namespace Go.Proofs.Ytneoeegpceompaa.AM
open Go Go.Proofs Go.Proofs.Ytneoeegpceompaa.Pl

/-! ### What is drawn -/
abbrev bals : List Int := [0, 5, 100, 1000, 1000]
abbrev lims : List Int := [0, 50, 500, 1000000000000]
def gAcc (ts : List Int) (a : Int) : Nat → List Acct × Int
  | 0 => ([], a)
  | k + 1 => ((gAcc ts a k).1 ++ [⟨(k : Int) + 1, (dPick ts (gAcc ts a k).2 bals).1, (dN ts (dPick ts (gAcc ts a k).2 bals).2 3).1⟩], (dN ts (dPick ts (gAcc ts a k).2 bals).2 3).2)
theorem gAcc_ok {ts : List Int} {a : Int} (hs : SrcOk ts a) : ∀ k, SrcOk ts (gAcc ts a k).2 ∧ (gAcc ts a k).1.length = k
  | 0 => ⟨hs, rfl⟩
  | k + 1 => ⟨(dN_ok (dPick_ok (gAcc_ok hs k).1 (by decide)).2 (by omega)).2, by simp [gAcc, (gAcc_ok hs k).2]⟩

/-- One line: of the account i, of the asset x. -/
def gLine (ts : List Int) (i : Int) (x : Asset) (s : List Line × Int) : List Line × Int :=
  if x.issuer = i then s else if (dN ts s.2 4).1 = 0 then (s.1, (dN ts s.2 4).2) else
    (s.1 ++ [⟨i, x, (dN ts (dPick ts (dN ts s.2 4).2 lims).2 (min (dPick ts (dN ts s.2 4).2 lims).1 400 + 1)).1, (dPick ts (dN ts s.2 4).2 lims).1⟩], (dN ts (dPick ts (dN ts s.2 4).2 lims).2 (min (dPick ts (dN ts s.2 4).2 lims).1 400 + 1)).2)
def gIn (ts : List Int) (i : Int) (s : List Line × Int) : Nat → List Line × Int
  | 0 => s
  | k + 1 => gLine ts i (if k = 0 then eur else usd) (gIn ts i s k)
def gLines (ts : List Int) (a : Int) : Nat → List Line × Int
  | 0 => ([], a)
  | k + 1 => gIn ts ((k : Int) + 1) (gLines ts a k) 2

/-! ### The walk -/
abbrev nl : AV := .v (.slice none 0 0)
abbrev aU (y : Int) : AV := .v (.int .u64 y)
abbrev bG (r : List AV) : Blk := ⟨true, t_Ledger, 7, [r], some 1⟩
abbrev zG : Blk := bG [aI 0, nl, nl, nl, aI 0, aI 0, aU 0]
abbrev rA (l : List Acct) : Blk := ⟨true, t_Account, 3, l.map cA, none⟩
abbrev rL (l : List Line) : Blk := ⟨true, t_Line, 5, l.map cL, none⟩
def accS (b : Nat) (ts : List Int) (n x f y a : Int) (d : Nat) : Nat → St
  | 0 => ⟨[(0, .pt b 2 0 0), (2, .pt (nm d 1) 7 0 0), (3, .pt (nm d 0) 7 0 0), (4, aI n), (5, aI 1)], [(nm d 1, zG), (nm d 0, bG [aI x, nl, nl, nl, aI 1, aI f, aU y]), (b, bS ts a)], d, 2⟩
  | k + 1 => ⟨[(0, .pt b 2 0 0), (2, .pt (nm d 2) 7 0 0), (3, .pt (nm d 1) 7 0 0), (4, aI n), (5, aI ((k : Int) + 1 + 1))], [(nm d 2, zG), (nm d 1, bG [aI x, .row (nm d 0) 3 0 (k + 1), nl, nl, aI 1, aI f, aU y]), (nm d 0, rA (gAcc ts a (k + 1)).1), (b, bS ts (gAcc ts a (k + 1)).2)], d, 3⟩

theorem Src_Ledger_acc {Q : Post} (b : Nat) (ts : List Int) (n : Nat) (x f y a : Int) (hs : SrcOk ts a) (hn : n < 5) (D : Nat) (hb : ¬ Gar D b)
    (hQ : ∀ d, D ≤ d → ∀ B, Q (.exit 0) ⟨[(26, B), (25, aI ((n : Int) + 1)), (24, aI ((n : Int) + 1 + 1)), (0, .pt b 2 0 0), (2, .pt (nm d 2) 7 0 0), (3, .pt (nm d 1) 7 0 0), (4, aI ((n : Int) + 1)), (5, aI ((n : Int) + 1 + 1))], [(nm d 2, zG), (nm d 1, bG [aI x, .row (nm d 0) 3 0 (n + 1), nl, nl, aI 1, aI f, aU y]), (nm d 0, rA (gAcc ts a (n + 1)).1), (b, bS ts (gAcc ts a (n + 1)).2)], d, 6⟩) :
    ∀ d, D ≤ d → Lp PP 111 l_Src_Ledger_0 (accS b ts ((n : Int) + 1) x f y a d 0) Q := by
  refine l_nat D (n + 1) (fun _ => True) (fun k d => accS b ts ((n : Int) + 1) x f y a d k) (fun k hk _ d hd ih => ?_) trivial
  rcases k with _ | k
  · have hS5 := fun N => fs_Src_Pick N b ts bals a hs (by decide)
    have hv5 := dPick_ok (l := bals) hs (by decide)
    have e1 : gAcc ts a (0 + 1) = ([⟨1, (dPick ts a bals).1, (dN ts (dPick ts a bals).2 3).1⟩], (dN ts (dPick ts a bals).2 3).2) := rfl
    have hS6 := fun N => fs_Src_N N b ts (dPick ts a bals).2 3 hv5.2 (by omega)
    have hv6 := dN_ok (n := 3) hv5.2 (by omega)
    have ih := ih (by omega) trivial
    dsimp only [accS] at ih ⊢
    rw [e1] at ih
    clear e1
    generalize dPick ts a bals = v5 at hS5 hv5 hS6 hv6 ih
    generalize dN ts v5.2 3 = v6 at hS6 hv6 ih
    repeat' ((conv => whnf); (first | ((with_reducible refine Cl.id ?_); (first | (apply Y.fz1w (hS5 _); exact Y.vt; exact Y.lk; exact Y.lk; exact Y.ne) | (refine Y.upd (hS6 _) ?_ ?_; exact Y.lk) | fail)) | refine Y.st ?_ | refine Tw.mk (fun _ => ?_) (fun _ => ?_) | fail))
    (refine Lp.gox [0, 2, 3, 4, 5] (fun d2 => [b, nm d2 0]) (nm d 0) [nm d 15] [nm d 0, nm d 1] ?_; repeat' ((conv => whnf); (first | refine Y.st ?_ | intro d2 hd2 | fail)))
    exact ih d2 (by omega)
  · have h1 := gAcc_ok hs (k + 1)
    have hS5 := fun N => fs_Src_Pick N b ts bals _ h1.1 (by decide)
    have hv5 := dPick_ok (l := bals) h1.1 (by decide)
    have e1 : gAcc ts a (k + 1 + 1) = ((gAcc ts a (k + 1)).1 ++ [⟨(k : Int) + 1 + 1, (dPick ts (gAcc ts a (k + 1)).2 bals).1, (dN ts (dPick ts (gAcc ts a (k + 1)).2 bals).2 3).1⟩], (dN ts (dPick ts (gAcc ts a (k + 1)).2 bals).2 3).2) := rfl
    by_cases hlt : k + 1 < n + 1
    · have ih := ih hlt trivial
      dsimp only [accS] at ih ⊢
      rw [e1] at ih
      clear e1
      generalize gAcc ts a (k + 1) = s at h1 hS5 hv5 ih ⊢
      have hS6 := fun N => fs_Src_N N b ts (dPick ts s.2 bals).2 3 hv5.2 (by omega)
      have hv6 := dN_ok (n := 3) hv5.2 (by omega)
      generalize dPick ts s.2 bals = v5 at hS5 hv5 hS6 hv6 ih
      generalize dN ts v5.2 3 = v6 at hS6 hv6 ih
      have hkb : (k : Int) + 1 + 1 ≤ n + 1 := by omega
      repeat' ((conv => whnf); (first | ((with_reducible refine Cl.id ?_); (first | (apply Y.fz1w (hS5 _); exact Y.vt; exact Y.lk; exact Y.lk; exact Y.ne) | (refine Y.upd (hS6 _) ?_ ?_; exact Y.lk) | fail)) | refine Y.st ?_ | refine Tw.mk (fun _ => ?_) (fun _ => ?_) | fail))
      (refine Lp.gox [0, 2, 3, 4, 5] (fun d2 => [b, nm d2 0]) (nm d 1) [nm d 16] [nm d 1, nm d 2] ?_; repeat' ((conv => whnf); (first | refine Y.st ?_ | intro d2 hd2 | fail)))
      exact ih d2 (by omega)
    · obtain rfl : k = n := by omega
      dsimp only [accS]
      repeat' ((conv => whnf); (first | refine Y.st ?_ | refine Tw.mk (fun _ => ?_) (fun _ => ?_) | fail))
      exact hQ d hd _

end Go.Proofs.Ytneoeegpceompaa.AM
