/-
The walk, part 22: trustlines: crediting and debiting.
-/
import Derived.Test.YtneoeegpceompaaG4
set_option linter.unusedVariables false
set_option linter.unusedSimpArgs false
namespace Go.Proofs.Ytneoeegpceompaa.AM
open Go Go.Proofs Go.Proofs.Ytneoeegpceompaa.Pl

def creditF (g : Ledg) (i : Int) (s : Asset) (n : Int) : Ledg × Int :=
  if chkC g i s n = 0 then
    if (lookF g.accts g.lines i s).2.2 = false ∨ ((lookF g.accts g.lines i s).2.1 < n ∧ nativeA s = false) then (zeroG, 70)
    else if (lookF g.accts g.lines i s).2.1 < n then (zeroG, 65) else (addF g i s n, 0)
  else (zeroG, chkC g i s n)
def debitF (g : Ledg) (i : Int) (s : Asset) (n : Int) : Ledg × Int :=
  if chkC g i s n = 0 then
    if (lookF g.accts g.lines i s).2.2 = false then (zeroG, 70)
    else if (lookF g.accts g.lines i s).1 < n then (zeroG, 66) else (addF g i s (0 - n), 0)
  else (zeroG, chkC g i s n)

theorem chkC_ok {g : Ledg} {i : Int} {s : Asset} {n : Int} (h : chkC g i s n = 0) : chkL g.lines g.accts = 0 ∧ assetOk s = true ∧ hasA g.accts i = true ∧ 0 ≤ n ∧ n ≤ 1000000000000 := by
  unfold chkC at h
  split at h
  · cases h
  · rename_i h1
    split at h
    · cases h
    · rename_i h2
      split at h
      · cases h
      · rename_i h3
        split at h
        · cases h
        · rename_i h4
          simp only [Bool.not_eq_false] at h1 h2 h3 h4
          have := validAmt_t h4
          exact ⟨by simpa [rightG] using h1, h2, h3, this.1, this.2⟩

section
variable {m : Int} {a : List Acct} {l : List Line} {o : List Offer} {x f k : Int} {i : Int} {s : Asset} {n : Int}
theorem add_pre1 (h : chkC ⟨m, a, l, o, x, f, k⟩ i s n = 0) : nativeA s = true → hasA a i = true ∧ 0 ≤ (findA a i).bal ∧ (findA a i).bal ≤ 1000000000000 := fun _ => by
  obtain ⟨h1, _, h3, _⟩ := chkC_ok h
  exact ⟨h3, findA_bounds (chkL_len h1).2.1 i⟩
theorem add_pre2 (h : chkC ⟨m, a, l, o, x, f, k⟩ i s n = 0) (hf : (lookF a l i s).2.2 = true) : nativeA s = false → s.issuer ≠ i → hasL l i s = true ∧ 0 ≤ (findL l i s).bal ∧ (findL l i s).bal ≤ 1000000000000 := fun hn hi => by
  obtain ⟨h1, h2, h3, _⟩ := chkC_ok h
  have hb := findL_bounds h1 i s
  dsimp only at h1 h2 h3 hb
  unfold lookF at hf
  rw [h2, h3] at hf
  simp [hn, hi] at hf
  exact ⟨hf, by omega, by omega⟩
end

theorem fs_trustlines_Credit (N : Nat) (m : Int) (a : List Acct) (l : List Line) (o : List Offer) (x f k : Int) (i : Int) (c : ByteArray) (j n : Int) (ha : a.length ≤ 1000000) (ho : o.length ≤ 1000000) :
    FS PP N n_trustlines_Credit [.agg (cG m a l o x f k), aI i, .agg [.v (.string c), aI j], aI n] [] (.tup [eG (creditF ⟨m, a, l, o, x, f, k⟩ i ⟨c, j⟩ n).1, aI (creditF ⟨m, a, l, o, x, f, k⟩ i ⟨c, j⟩ n).2]) [] := by
  refine i_trustlines_Credit.pure (by simp) fun D _ => ?_
  unfold creditF
  by_cases hc : chkC ⟨m, a, l, o, x, f, k⟩ i ⟨c, j⟩ n = 0
  rotate_left
  · rw [if_neg hc]
    repeat' ((conv => whnf); (first | ((with_reducible refine Cl.id ?_); (first | refine Y.pu (fs_trustlines_check _ _ _ _ _ _ _ _ _ _ _ _ ha) ?_ | fail)) | refine Y.st ?_ | refine Tw.mk (fun _ => ?_) (fun _ => ?_) | fail))
    (exact Rt.vlt Y.vt)
  rw [if_pos hc]
  have p1 := add_pre1 hc
  have p2 := fun h => add_pre2 hc h
  obtain ⟨g1, g2, g3, g4, g5⟩ := chkC_ok hc
  dsimp only at g1 g3 p1 p2 ⊢
  have hl : l.length ≤ 1000000 := by have := (chkL_len g1).1; omega
  cases h2 : (lookF a l i ⟨c, j⟩).2.2 with
  | false =>
    rw [h2] at p2
    have hL := fun N => fs_trustlines_look N m a l o x f k i c j g1
    rw [h2] at hL
    repeat' ((conv => whnf); (first | ((with_reducible refine Cl.id ?_); (first | refine Y.pu (fs_trustlines_check _ _ _ _ _ _ _ _ _ _ _ _ ha) ?_ | refine Y.pu (hL _) ?_ | fail)) | refine Y.st ?_ | refine Tw.mk (fun _ => ?_) (fun _ => ?_) | fail))
    all_goals (rw [if_pos (by simp)]; (exact Rt.vlt Y.vt))
  | true =>
    have p2 := p2 h2
    have hL := fun N => fs_trustlines_look N m a l o x f k i c j g1
    rw [h2] at hL
    have hA := fun N => fs_trustlines_add N m a l o x f k i c j n ha hl ho (by omega) p1 p2
    by_cases q : (lookF a l i ⟨c, j⟩).2.1 < n
    · cases h4 : nativeA ⟨c, j⟩ with
      | true =>
        repeat' ((conv => whnf); (first | ((with_reducible refine Cl.id ?_); (first | refine Y.pu (fs_trustlines_check _ _ _ _ _ _ _ _ _ _ _ _ ha) ?_ | refine Y.pu (hL _) ?_ | refine Y.pu (fs_amount_Native _ _ _) ?_ | refine Y.pu (hA _) ?_ | fail)) | refine Y.st ?_ | refine Tw.mk (fun _ => ?_) (fun _ => ?_) | fail))
        all_goals (rw [if_neg (by simp), if_pos q]; (exact Rt.vlt Y.vt))
      | false =>
        repeat' ((conv => whnf); (first | ((with_reducible refine Cl.id ?_); (first | refine Y.pu (fs_trustlines_check _ _ _ _ _ _ _ _ _ _ _ _ ha) ?_ | refine Y.pu (hL _) ?_ | refine Y.pu (fs_amount_Native _ _ _) ?_ | refine Y.pu (hA _) ?_ | fail)) | refine Y.st ?_ | refine Tw.mk (fun _ => ?_) (fun _ => ?_) | fail))
        all_goals (first | (rw [if_pos (by simp [q])]; (exact Rt.vlt Y.vt)) | (rw [if_neg (by simp), if_pos q]; (exact Rt.vlt Y.vt)))
    · rw [if_neg (by simp [q]), if_neg q]
      repeat' ((conv => whnf); (first | ((with_reducible refine Cl.id ?_); (first | refine Y.pu (fs_trustlines_check _ _ _ _ _ _ _ _ _ _ _ _ ha) ?_ | refine Y.pu (hL _) ?_ | refine Y.pu (fs_amount_Native _ _ _) ?_ | refine Y.pu (hA _) ?_ | fail)) | refine Y.st ?_ | refine Tw.mk (fun _ => ?_) (fun _ => ?_) | fail))
      all_goals (exact Rt.eq rfl)
theorem fs_trustlines_Debit (N : Nat) (m : Int) (a : List Acct) (l : List Line) (o : List Offer) (x f k : Int) (i : Int) (c : ByteArray) (j n : Int) (ha : a.length ≤ 1000000) (ho : o.length ≤ 1000000) :
    FS PP N n_trustlines_Debit [.agg (cG m a l o x f k), aI i, .agg [.v (.string c), aI j], aI n] [] (.tup [eG (debitF ⟨m, a, l, o, x, f, k⟩ i ⟨c, j⟩ n).1, aI (debitF ⟨m, a, l, o, x, f, k⟩ i ⟨c, j⟩ n).2]) [] := by
  refine i_trustlines_Debit.pure (by simp) fun D _ => ?_
  unfold debitF
  by_cases hc : chkC ⟨m, a, l, o, x, f, k⟩ i ⟨c, j⟩ n = 0
  rotate_left
  · rw [if_neg hc]
    repeat' ((conv => whnf); (first | ((with_reducible refine Cl.id ?_); (first | refine Y.pu (fs_trustlines_check _ _ _ _ _ _ _ _ _ _ _ _ ha) ?_ | fail)) | refine Y.st ?_ | refine Tw.mk (fun _ => ?_) (fun _ => ?_) | fail))
    (exact Rt.vlt Y.vt)
  rw [if_pos hc]
  have p1 := add_pre1 hc
  have p2 := fun h => add_pre2 hc h
  obtain ⟨g1, g2, g3, g4, g5⟩ := chkC_ok hc
  dsimp only at g1 g3 p1 p2 ⊢
  have hl : l.length ≤ 1000000 := by have := (chkL_len g1).1; omega
  cases h2 : (lookF a l i ⟨c, j⟩).2.2 with
  | false =>
    rw [h2] at p2
    have hL := fun N => fs_trustlines_look N m a l o x f k i c j g1
    rw [h2] at hL
    repeat' ((conv => whnf); (first | ((with_reducible refine Cl.id ?_); (first | refine Y.pu (fs_trustlines_check _ _ _ _ _ _ _ _ _ _ _ _ ha) ?_ | refine Y.pu (hL _) ?_ | fail)) | refine Y.st ?_ | refine Tw.mk (fun _ => ?_) (fun _ => ?_) | fail))
    all_goals (rw [if_pos (by simp)]; (exact Rt.vlt Y.vt))
  | true =>
    have p2 := p2 h2
    have hL := fun N => fs_trustlines_look N m a l o x f k i c j g1
    rw [h2] at hL
    have hA := fun N => fs_trustlines_add N m a l o x f k i c j (0 - n) ha hl ho (by omega) p1 p2
    by_cases q : (lookF a l i ⟨c, j⟩).1 < n
    · cases h4 : nativeA ⟨c, j⟩ with
      | true =>
        repeat' ((conv => whnf); (first | ((with_reducible refine Cl.id ?_); (first | refine Y.pu (fs_trustlines_check _ _ _ _ _ _ _ _ _ _ _ _ ha) ?_ | refine Y.pu (hL _) ?_ | refine Y.pu (fs_amount_Native _ _ _) ?_ | refine Y.pu (hA _) ?_ | fail)) | refine Y.st ?_ | refine Tw.mk (fun _ => ?_) (fun _ => ?_) | fail))
        all_goals (rw [if_neg (by simp), if_pos q]; (exact Rt.vlt Y.vt))
      | false =>
        repeat' ((conv => whnf); (first | ((with_reducible refine Cl.id ?_); (first | refine Y.pu (fs_trustlines_check _ _ _ _ _ _ _ _ _ _ _ _ ha) ?_ | refine Y.pu (hL _) ?_ | refine Y.pu (fs_amount_Native _ _ _) ?_ | refine Y.pu (hA _) ?_ | fail)) | refine Y.st ?_ | refine Tw.mk (fun _ => ?_) (fun _ => ?_) | fail))
        all_goals (first | (rw [if_pos (by simp [q])]; (exact Rt.vlt Y.vt)) | (rw [if_neg (by simp), if_pos q]; (exact Rt.vlt Y.vt)))
    · rw [if_neg (by simp [q]), if_neg q]
      repeat' ((conv => whnf); (first | ((with_reducible refine Cl.id ?_); (first | refine Y.pu (fs_trustlines_check _ _ _ _ _ _ _ _ _ _ _ _ ha) ?_ | refine Y.pu (hL _) ?_ | refine Y.pu (fs_amount_Native _ _ _) ?_ | refine Y.pu (hA _) ?_ | fail)) | refine Y.st ?_ | refine Tw.mk (fun _ => ?_) (fun _ => ?_) | fail))
      all_goals (exact Rt.eq rfl)
end Go.Proofs.Ytneoeegpceompaa.AM
