/-
The walk, part 13: the source of ledgers.
-/
import Derived.Test.YtneoeegpceompaaA2
import Derived.Test.YtneoeegpceompaaM28
namespace Go.Proofs.Ytneoeegpceompaa.AM
open Go Go.Proofs Go.Proofs.Ytneoeegpceompaa.Pl

/-! ### What is drawn -/
abbrev bals : List Int := [0, 5, 100, 1000, 1000]
abbrev lims : List Int := [0, 50, 500, 1000000000000]
def gAcc (ts : List Int) (a : Int) : Nat → List Acct × Int
  | 0 => ([], a)
  | k + 1 => ((gAcc ts a k).1 ++ [⟨(k : Int) + 1, (dPick ts (gAcc ts a k).2 bals).1, (dN ts (dPick ts (gAcc ts a k).2 bals).2 3).1⟩], (dN ts (dPick ts (gAcc ts a k).2 bals).2 3).2)
theorem gAcc_ok {ts : List Int} {a : Int} (hs : SrcOk ts a) : ∀ k, SrcOk ts (gAcc ts a k).2 ∧ (gAcc ts a k).1.length = k
  | 0 => ⟨hs, rfl⟩
  | k + 1 => ⟨(dN_ok (dPick_ok (gAcc_ok hs k).1 (by decide)).2 (by omega)).2, by simp [gAcc, (gAcc_ok hs k).2]⟩

/-- One line: of the account i, of the asset x. -/
def gLine (ts : List Int) (i : Int) (x : Asset) (s : List Line × Int) : List Line × Int :=
  if x.issuer = i then s else if (dN ts s.2 4).1 = 0 then (s.1, (dN ts s.2 4).2) else
    (s.1 ++ [⟨i, x, (dN ts (dPick ts (dN ts s.2 4).2 lims).2 (min (dPick ts (dN ts s.2 4).2 lims).1 400 + 1)).1, (dPick ts (dN ts s.2 4).2 lims).1⟩], (dN ts (dPick ts (dN ts s.2 4).2 lims).2 (min (dPick ts (dN ts s.2 4).2 lims).1 400 + 1)).2)
def gIn (ts : List Int) (i : Int) (s : List Line × Int) : Nat → List Line × Int
  | 0 => s
  | k + 1 => gLine ts i (if k = 0 then eur else usd) (gIn ts i s k)
def gLines (ts : List Int) (a : Int) : Nat → List Line × Int
  | 0 => ([], a)
  | k + 1 => gIn ts ((k : Int) + 1) (gLines ts a k) 2

/-! ### The walk -/
abbrev nl : AV := .v (.slice none 0 0)
abbrev aU (y : Int) : AV := .v (.int .u64 y)
abbrev bG (r : List AV) : Blk := ⟨true, t_Ledger, 7, [r], some 1⟩
abbrev zG : Blk := bG [aI 0, nl, nl, nl, aI 0, aI 0, aU 0]
abbrev rA (l : List Acct) : Blk := ⟨true, t_Account, 3, l.map cA, none⟩
abbrev rL (l : List Line) : Blk := ⟨true, t_Line, 5, l.map cL, none⟩
def accS (b : Nat) (ts : List Int) (n x f y a : Int) (d : Nat) : Nat → St
  | 0 => ⟨[(0, .pt b 2 0 0), (2, .pt (nm d 1) 7 0 0), (3, .pt (nm d 0) 7 0 0), (4, aI n), (5, aI 1)], [(nm d 1, zG), (nm d 0, bG [aI x, nl, nl, nl, aI 1, aI f, aU y]), (b, bS ts a)], d, 2⟩
  | k + 1 => ⟨[(0, .pt b 2 0 0), (2, .pt (nm d 2) 7 0 0), (3, .pt (nm d 1) 7 0 0), (4, aI n), (5, aI ((k : Int) + 1 + 1))], [(nm d 2, zG), (nm d 1, bG [aI x, .row (nm d 0) 3 0 (k + 1), nl, nl, aI 1, aI f, aU y]), (nm d 0, rA (gAcc ts a (k + 1)).1), (b, bS ts (gAcc ts a (k + 1)).2)], d, 3⟩

theorem Src_Ledger_acc {Q : Post} (b : Nat) (ts : List Int) (n : Nat) (x f y a : Int) (hs : SrcOk ts a) (hn : n < 5) (D : Nat) (hb : ¬ Gar D b)
    (hQ : ∀ d, D ≤ d → ∀ B, Q (.exit 0) ⟨[(26, B), (25, aI ((n : Int) + 1)), (24, aI ((n : Int) + 1 + 1)), (0, .pt b 2 0 0), (2, .pt (nm d 2) 7 0 0), (3, .pt (nm d 1) 7 0 0), (4, aI ((n : Int) + 1)), (5, aI ((n : Int) + 1 + 1))], [(nm d 2, zG), (nm d 1, bG [aI x, .row (nm d 0) 3 0 (n + 1), nl, nl, aI 1, aI f, aU y]), (nm d 0, rA (gAcc ts a (n + 1)).1), (b, bS ts (gAcc ts a (n + 1)).2)], d, 6⟩) :
    ∀ d, D ≤ d → Lp PP 111 l_Src_Ledger_0 (accS b ts ((n : Int) + 1) x f y a d 0) Q := by
  refine l_nat D (n + 1) (fun _ => True) (fun k d => accS b ts ((n : Int) + 1) x f y a d k) (fun k hk _ d hd ih => ?_) trivial
  rcases k with _ | k
  · have hS5 := fun N => fs_Src_Pick N b ts bals a hs (by decide)
    have hv5 := dPick_ok (l := bals) hs (by decide)
    have e1 : gAcc ts a (0 + 1) = ([⟨1, (dPick ts a bals).1, (dN ts (dPick ts a bals).2 3).1⟩], (dN ts (dPick ts a bals).2 3).2) := rfl
    have hS6 := fun N => fs_Src_N N b ts (dPick ts a bals).2 3 hv5.2 (by omega)
    have hv6 := dN_ok (n := 3) hv5.2 (by omega)
    have ih := ih (by omega) trivial
    dsimp only [accS] at ih ⊢
    rw [e1] at ih
    clear e1
    generalize dPick ts a bals = v5 at hS5 hv5 hS6 hv6 ih
    generalize dN ts v5.2 3 = v6 at hS6 hv6 ih
    repeat' ((conv => whnf); (first | ((with_reducible refine Br.id ?_); (first | (with_reducible first | refine Br.tt ?_ | refine Br.ff ?_ | refine Br.not ?_ | refine Y.b4 ?_ | refine Y.b5 ?_ | ((first | refine Br.asset ?_ ?_ | refine Br.key ?_ ?_ | refine Br.str ?_ ?_) <;> intro _) | refine Br.and ?_ | refine Br.or ?_ | refine Y.c1 ?_ | refine Y.c2 ?_ | refine Y.c3 ?_ | refine Y.c4 ?_ | refine Y.c5 ?_ | refine Y.c6 ?_ | refine Y.c7 ?_ | refine Y.c8 ?_ | ((first | refine Br.dec ?_ ?_ | refine Br.eqi ?_ ?_ | refine Br.nei ?_ ?_) <;> intro _)) | refine Br.tt' rfl ?_ | refine Br.ff' rfl ?_ | (with_reducible (refine Br.mk' ?_ ?_ <;> intro _)))) | ((with_reducible refine Cl.id ?_); (first | (refine Cl.upd0 ?hb (hS6 _) ?_; case hb => (repeat' (first | exact rfl | ((conv => whnf); (with_reducible (refine Lk.id ?_; first | refine Lk.here ?_ | refine Y.l2 ?_ | refine Y.l3 ?_)))))) | ((with_reducible apply Cl.fz1w); (case hS => exact hS5 _); (case hv => (repeat' (first | exact VLs2.nil | exact VLs1.nil | exact ⟨rfl, rfl, rfl⟩ | exact ⟨rfl, rfl⟩ | exact ⟨rfl, by first | rfl | (simp; done) | (simp; omega), by first | rfl | (simp [Int.sub_eq_add_neg]; done)⟩ | with_reducible exact VL2.refl _ | with_reducible exact VL1.refl _ | ((conv => whnf); (first | (with_reducible first | refine VLs2.cons ?_ ?_ | refine VLs1.cons ?_ ?_) | exact VL2.refl _ | refine Y.row0 ?_ | refine Y.row1 ?_ | refine Y.row2 ?_ | refine Y.var0 ?_ | refine Y.var1 ?_ | refine Y.var2 ?_ | refine VL2.fn ?_ | refine VL2.agg ?_ | refine VL1.row0 ?_ | refine VL1.row1 ?_ | refine VL1.row2 ?_ | refine VL1.var0 ?_ | refine VL1.var1 ?_ | refine VL1.var2 ?_ | refine VL2.one (VL1.nil _) | refine VL1.nil _ | exact VL1.refl _ | (with_reducible (refine Lk.id ?_; first | refine Lk.here ?_ | refine Y.l2 ?_ | refine Y.l3 ?_))))))); (case hc => (repeat' (first | exact rfl | ((conv => whnf); (with_reducible (refine Lk.id ?_; first | refine Lk.here ?_ | refine Y.l2 ?_ | refine Y.l3 ?_)))))); (case hb => (repeat' (first | exact rfl | ((conv => whnf); (with_reducible (refine Lk.id ?_; first | refine Lk.here ?_ | refine Y.l2 ?_ | refine Y.l3 ?_)))))); (case hn => (first | exact nm_ne (by decide) | exact nm_ext (by assumption) (by omega) | exact (nm_ext (by assumption) (by omega)).symm | exact nm_ne' (by decide) (by decide) (by decide) | assumption))))) | (with_reducible (refine Lk.id ?_; first | refine Lk.here ?_ | refine Y.l2 ?_ | refine Y.l3 ?_)) | ((with_reducible refine El.id ?_); (first | refine Y.e1 ?_ | refine Y.e2 ?_)) | ((with_reducible refine Wp.id ?_); (with_reducible first | refine Y.d1 ?_ | refine Wp.any ?_)) | ((with_reducible refine Se.id ?_); (first | with_reducible refine Se.one ?_ | refine Se.acct ?_ | refine Se.line ?_ | refine Se.offer ?_)) | ((with_reducible refine Ap.id ?_); (first | refine Ap.nil (by omega) ?_ | refine Ap.acct1 ?_ | refine Ap.line1 ?_ | refine Ap.offer1 ?_ | refine Ap.acct (by first | rfl | assumption | omega) (by omega) ?_ | refine Ap.line (by first | rfl | assumption | omega) (by omega) ?_ | refine Ap.offer (by first | rfl | assumption | omega) (by omega) ?_ | refine Ap.map (by first | rfl | assumption | omega) (by omega) ?_ | refine Ap.end_ (by first | rfl | simp) (by first | omega | simp) (by rfl) (by rfl) ?_)) | (with_reducible first | refine Ln.map ?_ | refine Ln.any ?_) | ((with_reducible refine Sb.id ?_); (first | with_reducible refine Sb.one ?_ | refine Y.s2 ?_ | refine Y.s3 ?_)) | (with_reducible (refine Y.o0 ?_; refine Y.o1 ?_)) | refine Sx.nat (by assumption) ?_ | with_reducible refine RetS.of ?_))
    (refine Lp.gox [0, 2, 3, 4, 5] (fun d2 => [b, nm d2 0]) (nm d 0) [nm d 15] [nm d 0, nm d 1] ?_; repeat' ((conv => whnf); (first | (with_reducible (refine Lk.id ?_; first | refine Lk.here ?_ | refine Y.l2 ?_ | refine Y.l3 ?_)) | (with_reducible (refine Y.o0 ?_; refine Y.o1 ?_)) | (with_reducible (refine Y.r0 ?_; first | refine Rn.same ?_ | refine Y.r2 ?_)) | intro d2 hd2)))
    exact ih d2 (by omega)
  · have h1 := gAcc_ok hs (k + 1)
    have hS5 := fun N => fs_Src_Pick N b ts bals _ h1.1 (by decide)
    have hv5 := dPick_ok (l := bals) h1.1 (by decide)
    have e1 : gAcc ts a (k + 1 + 1) = ((gAcc ts a (k + 1)).1 ++ [⟨(k : Int) + 1 + 1, (dPick ts (gAcc ts a (k + 1)).2 bals).1, (dN ts (dPick ts (gAcc ts a (k + 1)).2 bals).2 3).1⟩], (dN ts (dPick ts (gAcc ts a (k + 1)).2 bals).2 3).2) := rfl
    by_cases hlt : k + 1 < n + 1
    · have ih := ih hlt trivial
      dsimp only [accS] at ih ⊢
      rw [e1] at ih
      clear e1
      generalize gAcc ts a (k + 1) = s at h1 hS5 hv5 ih ⊢
      have hS6 := fun N => fs_Src_N N b ts (dPick ts s.2 bals).2 3 hv5.2 (by omega)
      have hv6 := dN_ok (n := 3) hv5.2 (by omega)
      generalize dPick ts s.2 bals = v5 at hS5 hv5 hS6 hv6 ih
      generalize dN ts v5.2 3 = v6 at hS6 hv6 ih
      have hkb : (k : Int) + 1 + 1 ≤ n + 1 := by omega
      repeat' ((conv => whnf); (first | ((with_reducible refine Br.id ?_); (first | (with_reducible first | refine Br.tt ?_ | refine Br.ff ?_ | refine Br.not ?_ | refine Y.b4 ?_ | refine Y.b5 ?_ | ((first | refine Br.asset ?_ ?_ | refine Br.key ?_ ?_ | refine Br.str ?_ ?_) <;> intro _) | refine Br.and ?_ | refine Br.or ?_ | refine Y.c1 ?_ | refine Y.c2 ?_ | refine Y.c3 ?_ | refine Y.c4 ?_ | refine Y.c5 ?_ | refine Y.c6 ?_ | refine Y.c7 ?_ | refine Y.c8 ?_ | ((first | refine Br.dec ?_ ?_ | refine Br.eqi ?_ ?_ | refine Br.nei ?_ ?_) <;> intro _)) | refine Br.tt' rfl ?_ | refine Br.ff' rfl ?_ | (with_reducible (refine Br.mk' ?_ ?_ <;> intro _)))) | ((with_reducible refine Cl.id ?_); (first | (refine Cl.upd0 ?hb (hS6 _) ?_; case hb => (repeat' (first | exact rfl | ((conv => whnf); (with_reducible (refine Lk.id ?_; first | refine Lk.here ?_ | refine Y.l2 ?_ | refine Y.l3 ?_)))))) | ((with_reducible apply Cl.fz1w); (case hS => exact hS5 _); (case hv => (repeat' (first | exact VLs2.nil | exact VLs1.nil | exact ⟨rfl, rfl, rfl⟩ | exact ⟨rfl, rfl⟩ | exact ⟨rfl, by first | rfl | (simp; done) | (simp; omega), by first | rfl | (simp [Int.sub_eq_add_neg]; done)⟩ | with_reducible exact VL2.refl _ | with_reducible exact VL1.refl _ | ((conv => whnf); (first | (with_reducible first | refine VLs2.cons ?_ ?_ | refine VLs1.cons ?_ ?_) | exact VL2.refl _ | refine Y.row0 ?_ | refine Y.row1 ?_ | refine Y.row2 ?_ | refine Y.var0 ?_ | refine Y.var1 ?_ | refine Y.var2 ?_ | refine VL2.fn ?_ | refine VL2.agg ?_ | refine VL1.row0 ?_ | refine VL1.row1 ?_ | refine VL1.row2 ?_ | refine VL1.var0 ?_ | refine VL1.var1 ?_ | refine VL1.var2 ?_ | refine VL2.one (VL1.nil _) | refine VL1.nil _ | exact VL1.refl _ | (with_reducible (refine Lk.id ?_; first | refine Lk.here ?_ | refine Y.l2 ?_ | refine Y.l3 ?_))))))); (case hc => (repeat' (first | exact rfl | ((conv => whnf); (with_reducible (refine Lk.id ?_; first | refine Lk.here ?_ | refine Y.l2 ?_ | refine Y.l3 ?_)))))); (case hb => (repeat' (first | exact rfl | ((conv => whnf); (with_reducible (refine Lk.id ?_; first | refine Lk.here ?_ | refine Y.l2 ?_ | refine Y.l3 ?_)))))); (case hn => (first | exact nm_ne (by decide) | exact nm_ext (by assumption) (by omega) | exact (nm_ext (by assumption) (by omega)).symm | exact nm_ne' (by decide) (by decide) (by decide) | assumption))))) | (with_reducible (refine Lk.id ?_; first | refine Lk.here ?_ | refine Y.l2 ?_ | refine Y.l3 ?_)) | ((with_reducible refine El.id ?_); (first | refine Y.e1 ?_ | refine Y.e2 ?_)) | ((with_reducible refine Wp.id ?_); (with_reducible first | refine Y.d1 ?_ | refine Wp.any ?_)) | ((with_reducible refine Se.id ?_); (first | with_reducible refine Se.one ?_ | refine Se.acct ?_ | refine Se.line ?_ | refine Se.offer ?_)) | ((with_reducible refine Ap.id ?_); (first | refine Ap.nil (by omega) ?_ | refine Ap.acct1 ?_ | refine Ap.line1 ?_ | refine Ap.offer1 ?_ | refine Ap.acct (by first | rfl | assumption | omega) (by omega) ?_ | refine Ap.line (by first | rfl | assumption | omega) (by omega) ?_ | refine Ap.offer (by first | rfl | assumption | omega) (by omega) ?_ | refine Ap.map (by first | rfl | assumption | omega) (by omega) ?_ | refine Ap.end_ (by first | rfl | simp) (by first | omega | simp) (by rfl) (by rfl) ?_)) | (with_reducible first | refine Ln.map ?_ | refine Ln.any ?_) | ((with_reducible refine Sb.id ?_); (first | with_reducible refine Sb.one ?_ | refine Y.s2 ?_ | refine Y.s3 ?_)) | (with_reducible (refine Y.o0 ?_; refine Y.o1 ?_)) | refine Sx.nat (by assumption) ?_ | with_reducible refine RetS.of ?_))
      (refine Lp.gox [0, 2, 3, 4, 5] (fun d2 => [b, nm d2 0]) (nm d 1) [nm d 16] [nm d 1, nm d 2] ?_; repeat' ((conv => whnf); (first | (with_reducible (refine Lk.id ?_; first | refine Lk.here ?_ | refine Y.l2 ?_ | refine Y.l3 ?_)) | (with_reducible (refine Y.o0 ?_; refine Y.o1 ?_)) | (with_reducible (refine Y.r0 ?_; first | refine Rn.same ?_ | refine Y.r2 ?_)) | intro d2 hd2)))
      exact ih d2 (by omega)
    · obtain rfl : k = n := by omega
      dsimp only [accS]
      repeat' ((conv => whnf); (first | ((with_reducible refine Br.id ?_); (first | (with_reducible first | refine Br.tt ?_ | refine Br.ff ?_ | refine Br.not ?_ | refine Y.b4 ?_ | refine Y.b5 ?_ | ((first | refine Br.asset ?_ ?_ | refine Br.key ?_ ?_ | refine Br.str ?_ ?_) <;> intro _) | refine Br.and ?_ | refine Br.or ?_ | refine Y.c1 ?_ | refine Y.c2 ?_ | refine Y.c3 ?_ | refine Y.c4 ?_ | refine Y.c5 ?_ | refine Y.c6 ?_ | refine Y.c7 ?_ | refine Y.c8 ?_ | ((first | refine Br.dec ?_ ?_ | refine Br.eqi ?_ ?_ | refine Br.nei ?_ ?_) <;> intro _)) | refine Br.tt' rfl ?_ | refine Br.ff' rfl ?_ | (with_reducible (refine Br.mk' ?_ ?_ <;> intro _)))) | (with_reducible (refine Lk.id ?_; first | refine Lk.here ?_ | refine Y.l2 ?_ | refine Y.l3 ?_)) | ((with_reducible refine El.id ?_); (first | refine Y.e1 ?_ | refine Y.e2 ?_)) | ((with_reducible refine Wp.id ?_); (with_reducible first | refine Y.d1 ?_ | refine Wp.any ?_)) | ((with_reducible refine Se.id ?_); (first | with_reducible refine Se.one ?_ | refine Se.acct ?_ | refine Se.line ?_ | refine Se.offer ?_)) | ((with_reducible refine Ap.id ?_); (first | refine Ap.nil (by omega) ?_ | refine Ap.acct1 ?_ | refine Ap.line1 ?_ | refine Ap.offer1 ?_ | refine Ap.acct (by first | rfl | assumption | omega) (by omega) ?_ | refine Ap.line (by first | rfl | assumption | omega) (by omega) ?_ | refine Ap.offer (by first | rfl | assumption | omega) (by omega) ?_ | refine Ap.map (by first | rfl | assumption | omega) (by omega) ?_ | refine Ap.end_ (by first | rfl | simp) (by first | omega | simp) (by rfl) (by rfl) ?_)) | (with_reducible first | refine Ln.map ?_ | refine Ln.any ?_) | ((with_reducible refine Sb.id ?_); (first | with_reducible refine Sb.one ?_ | refine Y.s2 ?_ | refine Y.s3 ?_)) | (with_reducible (refine Y.o0 ?_; refine Y.o1 ?_)) | refine Sx.nat (by assumption) ?_ | with_reducible refine RetS.of ?_))
      exact hQ d hd _

end Go.Proofs.Ytneoeegpceompaa.AM
