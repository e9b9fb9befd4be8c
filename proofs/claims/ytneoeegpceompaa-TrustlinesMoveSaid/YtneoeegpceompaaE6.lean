/-
The walk of the law TrustlinesMove.
-/
import Derived.Test.YtneoeegpceompaaE3
import Derived.Test.YtneoeegpceompaaP3
import Derived.Test.YtneoeegpceompaaP5
import Derived.Test.YtneoeegpceompaaG6
import Derived.Test.YtneoeegpceompaaB10
set_option linter.unusedVariables false
set_option linter.unusedSimpArgs false
namespace Go.Proofs.Ytneoeegpceompaa.AM
open Go Go.Proofs Go.Proofs.Ytneoeegpceompaa.Pl

/-- Moving from one holder to another one. -/
theorem move_facts {g : Ledg} {i j m : Int} {s : Asset} (hR : rightG g = true) (hi : hasA g.accts i = true) (hj : hasA g.accts j = true) (hs : assetOk s = true) (hn : nativeA s = false) (hm : 0 ≤ m ∧ m ≤ 1000000) (h : (debitF g i s m).2 = 0) :
    rightG (debitF g i s m).1 = true ∧ (debitF g i s m).1.offers = g.offers ∧
    (¬ (creditF (debitF g i s m).1 j s m).2 = 0 → (creditF (debitF g i s m).1 j s m).2 = 70) ∧
    ((creditF (debitF g i s m).1 j s m).2 = 0 → rightG (creditF (debitF g i s m).1 j s m).1 = true ∧
      issued (creditF (debitF g i s m).1 j s m).1.lines s = issued g.lines s + ((if i = s.issuer then m else 0) - (if j = s.issuer then m else 0))) := by
  have A := debited h
  have E := debit_eq h
  rw [E]
  dsimp only
  have hc : chkC (addF g i s (0 - m)) j s m = 0 := chkC_zero A.right hs (by rw [A.has]; exact hj) (by simp [validAmt]; omega)
  refine ⟨A.right, A.offs, fun h0 => ?_, fun h0 => ?_⟩
  · unfold creditF at h0 ⊢
    rw [if_pos hc] at h0 ⊢
    by_cases h1 : (lookF (addF g i s (0 - m)).accts (addF g i s (0 - m)).lines j s).2.2 = false ∨ ((lookF (addF g i s (0 - m)).accts (addF g i s (0 - m)).lines j s).2.1 < m ∧ nativeA s = false)
    · rw [if_pos h1]
    · rw [if_neg h1] at h0
      simp only [not_or, hn, and_true] at h1
      rw [if_neg h1.2] at h0
      exact absurd rfl h0
  · have A2 := credited h0
    have E2 := credit_eq h0
    rw [E2]
    dsimp only
    refine ⟨A2.right, ?_⟩
    rw [A2.iss, A.iss]
    by_cases e1 : i = s.issuer
    · by_cases e2 : j = s.issuer
      · rw [if_neg (fun h => h.2.2 e1.symm), if_neg (fun h => h.2.2 e2.symm), if_pos e1, if_pos e2]; omega
      · rw [if_neg (fun h => h.2.2 e1.symm), if_pos ⟨rfl, hn, Ne.symm e2⟩, if_pos e1, if_neg e2]; omega
    · by_cases e2 : j = s.issuer
      · rw [if_pos ⟨rfl, hn, Ne.symm e1⟩, if_neg (fun h => h.2.2 e2.symm), if_neg e1, if_pos e2]; omega
      · rw [if_pos ⟨rfl, hn, Ne.symm e1⟩, if_pos ⟨rfl, hn, Ne.symm e2⟩, if_neg e1, if_neg e2]; omega

set_option maxHeartbeats 1000000 in
theorem fs_law37_TrustlinesMove (N : Nat) (t : List Int) (am : Int) (ham : 0 ≤ am ∧ am ≤ 65535) : FS PP N n_law37_TrustlinesMove [sI t, .v (.int .u16 am)] [] (aB true) [] := by
  refine i_law37_TrustlinesMove.pure (by simp) fun D _ => ?_
  have hs0 : SrcOk (t.take 800) 0 := ⟨by simp; omega, by omega, by omega⟩
  have hnew := fun N => fs_mk_New N t
  generalize t.take 800 = ts at hs0 hnew
  have hled := fun N b => fs_Src_Ledger N b ts 0 hs0
  have hr := dLedger_right hs0
  have hs1 := dLedger_ok hs0
  generalize dLedger ts 0 = g at hled hr hs1
  obtain ⟨g, a1⟩ := g
  obtain ⟨n, hn, hlen, hA, hhas, hget, hL, hdr, hpw, hof⟩ := hr
  dsimp only at hlen hA hhas hget hL hdr hpw hof hled hs1
  have hN := fun N b => fs_Src_N N b ts a1 2 hs1 (by omega)
  have hNv := dN_ok (n := 2) hs1 (by omega)
  generalize dN ts a1 2 = u at hN hNv
  obtain ⟨u, a2⟩ := u
  dsimp only at hN hNv
  have hrg := fun N b => fs_Src_Range N b ts a2 1 (g.accts.length : Int) hNv.2 (by omega)
  have hid := dRange_ok (lo := 1) (hi := (g.accts.length : Int)) hNv.2 (by omega)
  generalize dRange ts a2 1 (g.accts.length : Int) = v at hrg hid
  obtain ⟨i, a3⟩ := v
  dsimp only at hid hrg
  have hrg2 := fun N b => fs_Src_Range N b ts a3 1 (g.accts.length : Int) hid.2 (by omega)
  have hid2 := dRange_ok (lo := 1) (hi := (g.accts.length : Int)) hid.2 (by omega)
  generalize dRange ts a3 1 (g.accts.length : Int) = v at hrg2 hid2
  obtain ⟨j, a4⟩ := v
  dsimp only at hid2 hrg2
  have hi := hhas i (by omega)
  have hj := hhas j (by omega)
  have ht : 0 ≤ am.tmod 300 ∧ am.tmod 300 < 300 := ⟨Int.tmod_nonneg _ ham.1, Int.tmod_lt_of_pos _ (by omega)⟩
  have hR : rightG g = true := by simp [rightG, hL]
  have hlens := right_lens hR
  obtain ⟨s, hs, hn2, hsu⟩ : ∃ s : Asset, assetOk s = true ∧ nativeA s = false ∧ (u = 0 ∧ s = usd ∧ s.issuer = 1 ∨ u = 1 ∧ s = eur ∧ s.issuer = 2) := by
    have : u = 0 ∨ u = 1 := by omega
    rcases this with h | h
    · exact ⟨usd, by decide, by decide, .inl ⟨h, rfl, rfl⟩⟩
    · exact ⟨eur, by decide, by decide, .inr ⟨h, rfl, rfl⟩⟩
  have F := move_facts (m := am.tmod 300) hR hi hj hs hn2 (by omega)
  have Z := debit_no (g := g) (i := i) (s := s) (n := am.tmod 300)
  have C1 := fun N => fsg_Debit N g i s (am.tmod 300) hlens.1 (by omega)
  have I1 := fun N => fsg_Issued N g.lines s hlens.2 (right_bals hR)
  have hib := issued_bd hR s
  generalize hX : debitF g i s (am.tmod 300) = X at *
  obtain ⟨x, e⟩ := X
  dsimp only at F Z C1
  by_cases he : e = 0
  · subst he
    obtain ⟨hRx, hox, F70, F0⟩ := F rfl
    have hlx := right_lens hRx
    have C2 := fun N => fsg_Credit N x j s (am.tmod 300) hlx.1 (by rw [hox]; omega)
    generalize hY : creditF x j s (am.tmod 300) = Y at *
    obtain ⟨y, f⟩ := Y
    dsimp only at F70 F0 C2
    by_cases hf : f = 0
    · subst hf
      obtain ⟨hRy, hy⟩ := F0 rfl
      have hly := right_lens hRy
      have I2 := fun N => fsg_Issued N y.lines s hly.2 (right_bals hRy)
      rw [hy] at I2
      have C8 := fun N => fs_trustlines_Check N y.lines y.accts
      rw [right_chk hRy] at C8
      clear F F70 F0 hX hY hdr hpw hget hhas hA hL Z hRx hRy hy
      generalize issued g.lines s = Ig at *
      by_cases e1 : i = s.issuer
      · by_cases e2 : j = s.issuer
        · rw [if_pos e1, if_pos e2] at I2
          rcases hsu with ⟨rfl, rfl, hsi⟩ | ⟨rfl, rfl, hsi⟩
          all_goals (repeat' ((conv => whnf); (first | ((with_reducible refine Cl.id ?_); (first | refine Y.pu (fs_mk_Usd _) ?_ | refine Y.pu (fs_mk_Eur _) ?_ | refine Y.pu (C1 _) ?_ | refine Y.pu (C2 _) ?_ | refine Y.pu (I1 _) ?_ | refine Y.pu (I2 _) ?_ | refine Y.pu (C8 _) ?_ | refine Y.pu (fs_law37_sane _) ?_ | refine Y.new (hnew _) ?_ | (refine Y.upd (hled _ _) ?_ ?_; exact Y.lk) | (refine Y.upd (hN _ _) ?_ ?_; exact Y.lk) | (refine Y.upd (hrg _ _) ?_ ?_; exact Y.lk) | (refine Y.upd (hrg2 _ _) ?_ ?_; exact Y.lk) | fail)) | refine Y.st ?_ | refine Tw.mk (fun _ => ?_) (fun _ => ?_) | fail)))
          all_goals exact Rt.bool rfl
        · rw [if_pos e1, if_neg e2] at I2
          rcases hsu with ⟨rfl, rfl, hsi⟩ | ⟨rfl, rfl, hsi⟩
          all_goals (repeat' ((conv => whnf); (first | ((with_reducible refine Cl.id ?_); (first | refine Y.pu (fs_mk_Usd _) ?_ | refine Y.pu (fs_mk_Eur _) ?_ | refine Y.pu (C1 _) ?_ | refine Y.pu (C2 _) ?_ | refine Y.pu (I1 _) ?_ | refine Y.pu (I2 _) ?_ | refine Y.pu (C8 _) ?_ | refine Y.pu (fs_law37_sane _) ?_ | refine Y.new (hnew _) ?_ | (refine Y.upd (hled _ _) ?_ ?_; exact Y.lk) | (refine Y.upd (hN _ _) ?_ ?_; exact Y.lk) | (refine Y.upd (hrg _ _) ?_ ?_; exact Y.lk) | (refine Y.upd (hrg2 _ _) ?_ ?_; exact Y.lk) | fail)) | refine Y.st ?_ | refine Tw.mk (fun _ => ?_) (fun _ => ?_) | fail)))
          all_goals exact Rt.bool rfl
      · by_cases e2 : j = s.issuer
        · rw [if_neg e1, if_pos e2] at I2
          rcases hsu with ⟨rfl, rfl, hsi⟩ | ⟨rfl, rfl, hsi⟩
          all_goals (repeat' ((conv => whnf); (first | ((with_reducible refine Cl.id ?_); (first | refine Y.pu (fs_mk_Usd _) ?_ | refine Y.pu (fs_mk_Eur _) ?_ | refine Y.pu (C1 _) ?_ | refine Y.pu (C2 _) ?_ | refine Y.pu (I1 _) ?_ | refine Y.pu (I2 _) ?_ | refine Y.pu (C8 _) ?_ | refine Y.pu (fs_law37_sane _) ?_ | refine Y.new (hnew _) ?_ | (refine Y.upd (hled _ _) ?_ ?_; exact Y.lk) | (refine Y.upd (hN _ _) ?_ ?_; exact Y.lk) | (refine Y.upd (hrg _ _) ?_ ?_; exact Y.lk) | (refine Y.upd (hrg2 _ _) ?_ ?_; exact Y.lk) | fail)) | refine Y.st ?_ | refine Tw.mk (fun _ => ?_) (fun _ => ?_) | fail)))
          all_goals exact Rt.bool rfl
        · rw [if_neg e1, if_neg e2] at I2
          rcases hsu with ⟨rfl, rfl, hsi⟩ | ⟨rfl, rfl, hsi⟩
          all_goals (repeat' ((conv => whnf); (first | ((with_reducible refine Cl.id ?_); (first | refine Y.pu (fs_mk_Usd _) ?_ | refine Y.pu (fs_mk_Eur _) ?_ | refine Y.pu (C1 _) ?_ | refine Y.pu (C2 _) ?_ | refine Y.pu (I1 _) ?_ | refine Y.pu (I2 _) ?_ | refine Y.pu (C8 _) ?_ | refine Y.pu (fs_law37_sane _) ?_ | refine Y.new (hnew _) ?_ | (refine Y.upd (hled _ _) ?_ ?_; exact Y.lk) | (refine Y.upd (hN _ _) ?_ ?_; exact Y.lk) | (refine Y.upd (hrg _ _) ?_ ?_; exact Y.lk) | (refine Y.upd (hrg2 _ _) ?_ ?_; exact Y.lk) | fail)) | refine Y.st ?_ | refine Tw.mk (fun _ => ?_) (fun _ => ?_) | fail)))
          all_goals exact Rt.bool rfl
    · obtain rfl := F70 hf
      clear F F70 F0 hX hY hdr hpw hget hhas hA hL Z hRx
      rcases hsu with ⟨rfl, rfl, hsi⟩ | ⟨rfl, rfl, hsi⟩
      all_goals (repeat' ((conv => whnf); (first | ((with_reducible refine Cl.id ?_); (first | refine Y.pu (fs_mk_Usd _) ?_ | refine Y.pu (fs_mk_Eur _) ?_ | refine Y.pu (C1 _) ?_ | refine Y.pu (C2 _) ?_ | refine Y.pu (fs_law37_sane _) ?_ | refine Y.new (hnew _) ?_ | (refine Y.upd (hled _ _) ?_ ?_; exact Y.lk) | (refine Y.upd (hN _ _) ?_ ?_; exact Y.lk) | (refine Y.upd (hrg _ _) ?_ ?_; exact Y.lk) | (refine Y.upd (hrg2 _ _) ?_ ?_; exact Y.lk) | fail)) | refine Y.st ?_ | refine Tw.mk (fun _ => ?_) (fun _ => ?_) | fail)))
      all_goals exact Rt.bool rfl
  · obtain rfl := Z he
    have I0 := fun N => fsg_Issued N [] s (by simp) (by simp)
    rw [show issued [] s = 0 from rfl] at I0
    clear F hX hdr hpw hget hhas hA hL Z
    rcases hsu with ⟨rfl, rfl, hsi⟩ | ⟨rfl, rfl, hsi⟩
    all_goals (repeat' ((conv => whnf); (first | ((with_reducible refine Cl.id ?_); (first | refine Y.pu (fs_mk_Usd _) ?_ | refine Y.pu (fs_mk_Eur _) ?_ | refine Y.pu (C1 _) ?_ | refine Y.pu (I0 _) ?_ | refine Y.pu (fs_law37_sane _) ?_ | refine Y.new (hnew _) ?_ | (refine Y.upd (hled _ _) ?_ ?_; exact Y.lk) | (refine Y.upd (hN _ _) ?_ ?_; exact Y.lk) | (refine Y.upd (hrg _ _) ?_ ?_; exact Y.lk) | (refine Y.upd (hrg2 _ _) ?_ ?_; exact Y.lk) | fail)) | refine Y.st ?_ | refine Tw.mk (fun _ => ?_) (fun _ => ?_) | fail)))
    all_goals exact Rt.bool rfl
end Go.Proofs.Ytneoeegpceompaa.AM
