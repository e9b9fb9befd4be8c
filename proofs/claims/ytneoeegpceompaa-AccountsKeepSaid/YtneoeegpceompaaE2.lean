/-
The walk of the law AccountsBegin.
-/
import Derived.Test.YtneoeegpceompaaE1
set_option linter.unusedVariables false
set_option linter.unusedSimpArgs false
namespace Go.Proofs.Ytneoeegpceompaa.AM
open Go Go.Proofs Go.Proofs.Ytneoeegpceompaa.Pl

theorem fs_law36_sane (N : Nat) : FS PP N n_law36_sane [] [] (aB true) [] := by
  refine i_law36_sane.pure (by simp) fun D _ => ?_
  have h1 := fun N => fs_accounts_Begin N [⟨2, 10, 0⟩] 2 1 5 (by simp)
  have e1 : chgA [⟨2, 10, 0⟩] 2 (beginF 1 5) = ([⟨2, 5, 1⟩], 0) := by decide
  rw [e1] at h1
  have h2 := fun N => fs_r36_Same N [⟨2, 5, 1⟩] [⟨2, 5, 1⟩] (by simp)
  have e2 : decide (([⟨2, 5, 1⟩] : List Acct) = [⟨2, 5, 1⟩]) = true := by decide
  rw [e2] at h2
  have h3 := fun N => fs_accounts_Total N [⟨2, 5, 1⟩] (by simp)
  have e3 : totalA [⟨2, 5, 1⟩] = 5 := by decide
  rw [e3] at h3
  repeat' ((conv => whnf); (first | ((with_reducible refine Cl.id ?_); (first | refine Y.pu (h3 _) ?_ | (apply Y.fz1 (h1 _); exact Y.vt; exact Y.lk) | (apply Y.fz1 (h2 _); exact Y.vt; exact Y.lk) | fail)) | refine Y.st ?_ | refine Tw.mk (fun _ => ?_) (fun _ => ?_) | fail))
  exact Rt.bool rfl

theorem fs_law36_AccountsBegin (N : Nat) (t : List Int) (fee : Int) (hf : 0 ≤ fee ∧ fee ≤ 255) : FS PP N n_law36_AccountsBegin [sI t, .v (.int .u8 fee)] [] (aB true) [] := by
  refine i_law36_AccountsBegin.pure (by simp) fun D _ => ?_
  have hs0 : SrcOk (t.take 800) 0 := ⟨by simp; omega, by omega, by omega⟩
  have hnew := fun N => fs_mk_New N t
  generalize t.take 800 = ts at hs0 hnew
  have hled := fun N b => fs_Src_Ledger N b ts 0 hs0
  have hac := dLedger_accts hs0
  have hs1 := dLedger_ok hs0
  generalize dLedger ts 0 = g at hled hac hs1
  obtain ⟨m, a', hm, ha', hac⟩ := hac
  have hc := gAcc_chk ha' (show m ≤ 20 by omega)
  have hlen := (gAcc_ok ha' m).2
  have hget := gAcc_get ha' m
  have hhas := fun i hi => gAcc_has ha' (k := m) (i := i) hi
  rw [← hac] at hc hlen hget hhas
  have hrg := fun N b => fs_Src_Range N b ts g.2 1 (g.1.accts.length : Int) hs1 (by omega)
  have hid := dRange_ok (lo := 1) (hi := (g.1.accts.length : Int)) hs1 (by omega)
  generalize dRange ts g.2 1 (g.1.accts.length : Int) = v at hrg hid
  obtain ⟨i, a2⟩ := v
  dsimp only at hid hrg
  have hhas := hhas i (by omega)
  have ht : 0 ≤ fee.tmod 30 ∧ fee.tmod 30 < 30 := ⟨Int.tmod_nonneg _ hf.1, Int.tmod_lt_of_pos _ (by omega)⟩
  have hseq : (findA g.1.accts i).seq ≤ 2 := by
    obtain ⟨x, h1, h2, h3, h4⟩ := findA_yes (hasA_place hhas)
    rw [h3]; exact (hget _ x h1).2.2.2
  repeat' ((conv => whnf); (first | ((with_reducible refine Cl.id ?_); (first | refine Y.new (hnew _) ?_ | (refine Y.upd (hled _ _) ?_ ?_; exact Y.lk) | (refine Y.upd (hrg _ _) ?_ ?_; exact Y.lk) | fail)) | refine Y.st ?_ | refine Tw.mk (fun _ => ?_) (fun _ => ?_) | fail))
  (refine Lp.go [6, 7, 8, 9] [] [] ?_; repeat' ((conv => whnf); (first | refine Y.st ?_ | intro d' hd' | fail)))
  generalize g.1.accts = l0 at hc hlen hhas hseq ⊢
  have hn : 1 ≤ 1 + fee.tmod 30 ∧ 1 + fee.tmod 30 ≤ 30 := by omega
  generalize 1 + fee.tmod 30 = n at hn ⊢
  have hl0 : l0.length ≤ 5 := by omega
  clear hget hac ha' hm hlen hid hrg hs1 hled hnew hs0 ht
  refine l_ind D (σ := Nat × List Acct) (fun s => 4 - s.1) (fun s => s.1 ≤ 4 ∧ chkA s.2 = 0 ∧ hasA s.2 i = true ∧ s.2.length ≤ 5 ∧ (findA s.2 i).seq ≤ 2 + s.1) (fun s d => ⟨[(6, sA s.2), (7, aI i), (8, aI n), (9, aI s.1)], [], d, 0⟩) (fun s hI d hd ih => ?_) (0, l0) ⟨by omega, hc, hhas, hl0, by simpa using hseq⟩ d' (by omega)
  obtain ⟨hk, hc, hh, hl, hq⟩ := hI
  have hlen : s.2.length ≤ 1000000 := by omega
  obtain ⟨a, g1, g2, g3, g4⟩ := findA_yes (hasA_place hh)
  have hv := chkA_acct hc (List.mem_of_getElem? g1)
  rw [← g3] at hv
  have htot : 0 ≤ totalA s.2 ∧ totalA s.2 ≤ 5000000000000 := by
    have := sum_le (fun a ha => (chkA_acct hc ha).2.1) s.2.length
    rw [List.take_length] at this
    unfold totalA; rw [if_pos hc]; omega
  by_cases hlt : s.1 < 4
  · have w1 := begin_wrong (n := n) hc hh
    have w2 := begin_old (n := n) hc hh
    have f1 := fun N => fs_accounts_Find N s.2 i hlen
    rw [hh] at f1
    have b1 := fun N => fs_accounts_Begin N s.2 i ((findA s.2 i).seq + 2) n hlen
    have b2 := fun N => fs_accounts_Begin N s.2 i (findA s.2 i).seq n hlen
    have b3 := fun N => fs_accounts_Begin N s.2 i ((findA s.2 i).seq + 1) n hlen
    rw [w1] at b1
    rw [w2] at b2
    by_cases hb : (findA s.2 i).bal < n
    · have w3 := begin_poor hc hh (by omega) (by omega : 1 ≤ n ∧ n ≤ 100000) hb
      rw [w3] at b3
      repeat' ((conv => whnf); (first | ((with_reducible refine Cl.id ?_); (first | refine Y.pu (f1 _) ?_ | refine Y.pu (b1 _) ?_ | refine Y.pu (b2 _) ?_ | refine Y.pu (b3 _) ?_ | refine Y.pu (fs_law36_sane _) ?_ | fail)) | refine Y.st ?_ | refine Tw.mk (fun _ => ?_) (fun _ => ?_) | fail))
      all_goals (exact Rt.bool (by simp [hb]))
    · obtain ⟨w3, w4, w5, w6, w7, w8⟩ := begin_ok hc hh (by omega) (by omega : 1 ≤ n ∧ n ≤ 100000) hb
      rw [w3] at b3
      have ih := fun hm hI => ih (s.1 + 1, (chgA s.2 i (beginF ((findA s.2 i).seq + 1) n)).1) hm hI
      have f2 := fun N => fs_accounts_Find N (chgA s.2 i (beginF ((findA s.2 i).seq + 1) n)).1 i (by omega)
      rw [w5, w6] at f2
      dsimp only [cA] at f2
      have t1 := fun N => fs_accounts_Total N s.2 hlen
      have t2 := fun N => fs_accounts_Total N (chgA s.2 i (beginF ((findA s.2 i).seq + 1) n)).1 (by omega)
      rw [w8] at t2
      repeat' ((conv => whnf); (first | ((with_reducible refine Cl.id ?_); (first | refine Y.pu (f1 _) ?_ | refine Y.pu (f2 _) ?_ | refine Y.pu (b1 _) ?_ | refine Y.pu (b2 _) ?_ | refine Y.pu (b3 _) ?_ | refine Y.pu (t1 _) ?_ | refine Y.pu (t2 _) ?_ | refine Y.pu (fs_law36_sane _) ?_ | fail)) | refine Y.st ?_ | refine Tw.mk (fun _ => ?_) (fun _ => ?_) | fail))
      all_goals first | ((refine Lp.go [6, 7, 8, 9] [] [] ?_; repeat' ((conv => whnf); (first | refine Y.st ?_ | intro d2 hd2 | fail))); exact ih (by dsimp only; omega) ⟨by dsimp only; omega, w4, w5, by dsimp only; omega, by dsimp only; rw [w6]; dsimp only; omega⟩ d2 (by omega))
  · repeat' ((conv => whnf); (first | ((with_reducible refine Cl.id ?_); (first | refine Y.pu (fs_law36_sane _) ?_ | fail)) | refine Y.st ?_ | refine Tw.mk (fun _ => ?_) (fun _ => ?_) | fail))
    all_goals first | (exact Rt.bool rfl)
end Go.Proofs.Ytneoeegpceompaa.AM
