/-
The walk, part 21: trustlines: adding.
-/
import Derived.Test.YtneoeegpceompaaG3
import Derived.Test.YtneoeegpceompaaP1
set_option linter.unusedVariables false
set_option linter.unusedSimpArgs false
namespace Go.Proofs.Ytneoeegpceompaa.AM
open Go Go.Proofs Go.Proofs.Ytneoeegpceompaa.Pl

theorem fs_trustlines_add_1 (N : Nat) (i : Int) (x y z : Int) : FS PP N n_trustlines_add_1 [.agg [aI x, aI y, aI z], .ipt [aI i]] [] (aB (x == i)) [] := by
  refine i_trustlines_add_1.pure (by simp) fun D _ => ?_
  repeat' ((conv => whnf); (first | refine Y.st ?_ | refine Tw.mk (fun _ => ?_) (fun _ => ?_) | fail))
  refine Rt.eq rfl
theorem fs_index_row (N b : Nat) (l : List Acct) (i : Int) (hl : l.length ≤ 1000000) : FS PP N n_slices_IndexFunc_Account [.row b 3 0 l.length, .fn n_trustlines_add_1 [.ipt [aI i]]] [(b, ⟨true, t_Account, 3, l.map cA, none⟩)] (aI (placeA l i)) [(b, some ⟨true, t_Account, 3, l.map cA, none⟩)] := by
  refine FS.borrow ?hv (fs_slices_IndexFunc_Account N l n_trustlines_add_1 (.ipt [aI i]) [] (fun a => a.id == i) hl (fun a _ N => fs_trustlines_add_1 N i a.id a.bal a.seq))
  case hv => (exact Y.vt)
theorem fs_place_row (N b : Nat) (l : List Line) (m : Int) (c : ByteArray) (i : Int) (hl : l.length ≤ 1000000) : FS PP N n_trustlines_place [.row b 5 0 l.length, aI m, .agg [.v (.string c), aI i]] [(b, ⟨true, t_Line, 5, l.map cL, none⟩)] (aI (placeL l m ⟨c, i⟩)) [(b, some ⟨true, t_Line, 5, l.map cL, none⟩)] := by
  refine FS.borrow ?hv (fs_trustlines_place N l m c i hl)
  case hv => (exact Y.vt)

def setBal (l : List Acct) (i n : Int) : List Acct := l.set (placeA l i).toNat ⟨(findA l i).id, (findA l i).bal + n, (findA l i).seq⟩
def setLine (l : List Line) (i : Int) (s : Asset) (n : Int) : List Line := l.set (placeL l i s).toNat ⟨(findL l i s).acc, (findL l i s).asset, (findL l i s).bal + n, (findL l i s).lim⟩
def addF (g : Ledg) (i : Int) (s : Asset) (n : Int) : Ledg := if nativeA s then { g with accts := setBal g.accts i n } else if s.issuer = i then g else { g with lines := setLine g.lines i s n }

theorem fs_trustlines_add (N : Nat) (m : Int) (a : List Acct) (l : List Line) (o : List Offer) (x f k : Int) (i : Int) (c : ByteArray) (j n : Int) (ha : a.length ≤ 1000000) (hl : l.length ≤ 1000000) (ho : o.length ≤ 1000000) (hn : -1000000000000 ≤ n ∧ n ≤ 1000000000000)
    (h1 : nativeA ⟨c, j⟩ = true → hasA a i = true ∧ 0 ≤ (findA a i).bal ∧ (findA a i).bal ≤ 1000000000000) (h2 : nativeA ⟨c, j⟩ = false → j ≠ i → hasL l i ⟨c, j⟩ = true ∧ 0 ≤ (findL l i ⟨c, j⟩).bal ∧ (findL l i ⟨c, j⟩).bal ≤ 1000000000000) :
    FS PP N n_trustlines_add [.agg (cG m a l o x f k), aI i, .agg [.v (.string c), aI j], aI n] [] (eG (addF ⟨m, a, l, o, x, f, k⟩ i ⟨c, j⟩ n)) [] := by
  refine i_trustlines_add.pure (by simp) fun D _ => ?_
  unfold addF
  cases h4 : nativeA ⟨c, j⟩ with
  | true =>
    obtain ⟨g1, g2, g3⟩ := h1 h4
    have hp := hasA_place g1
    obtain ⟨y, y1, y2, y3, y4⟩ := findA_yes hp
    have hlt := (List.getElem?_eq_some_iff.1 y1).1
    rw [y3] at g2 g3
    unfold setBal
    rw [y3]
    repeat' ((conv => whnf); (first | refine El.mapi y1 (by rfl) ?_ | refine El.mset y1 (by rfl) ?_ | ((with_reducible refine Cl.id ?_); (first | refine Y.pu (fs_amount_Native _ _ _) ?_ | refine Y.new (fs_trustlines_copied_A _ m a l o x f k ha hl ho) ?_ | (apply Y.fz1w (fs_index_row _ (nm D 5) a i ha); exact Y.vt; exact Y.lk; exact Y.lk; exact Y.ne) | fail)) | refine Y.st ?_ | refine Tw.mk (fun _ => ?_) (fun _ => ?_) | fail))
    (exact Rt.fz1v Y.vt)
  | false =>
    by_cases h5 : j = i
    · rw [if_neg (by simp), if_pos h5]
      repeat' ((conv => whnf); (first | ((with_reducible refine Cl.id ?_); (first | refine Y.pu (fs_trustlines_copied _ m a l o x f k ha hl ho) ?_ | refine Y.pu (fs_amount_Native _ _ _) ?_ | fail)) | refine Y.st ?_ | refine Tw.mk (fun _ => ?_) (fun _ => ?_) | fail))
      refine Rt.eq rfl
    · rw [if_neg (by simp), if_neg h5]
      obtain ⟨g1, g2, g3⟩ := h2 h4 h5
      have hp : 0 ≤ placeL l i ⟨c, j⟩ := by
        by_cases hp : 0 ≤ placeL l i ⟨c, j⟩
        · exact hp
        · rw [(findL_no (by omega)).2] at g1; cases g1
      obtain ⟨y, y1, y2, y3, y4⟩ := findL_yes hp
      have hlt := (List.getElem?_eq_some_iff.1 y1).1
      rw [y3] at g2 g3
      unfold setLine
      rw [y3]
      repeat' ((conv => whnf); (first | refine El.mapi y1 (by rfl) ?_ | refine El.mset y1 (by rfl) ?_ | ((with_reducible refine Cl.id ?_); (first | refine Y.pu (fs_amount_Native _ _ _) ?_ | refine Y.new (fs_trustlines_copied_L _ m a l o x f k ha hl ho) ?_ | (refine Y.upd (fs_place_row _ (nm D 5) l i c j hl) ?_ ?_; exact Y.lk) | fail)) | refine Y.st ?_ | refine Tw.mk (fun _ => ?_) (fun _ => ?_) | fail))
      (exact Rt.fz1v Y.vt)
end Go.Proofs.Ytneoeegpceompaa.AM
