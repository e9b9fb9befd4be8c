/-
The walk of the law AccountsBegin.
-/
import Derived.Test.YtneoeegpceompaaE1
namespace Go.Proofs.Ytneoeegpceompaa.AM
open Go Go.Proofs Go.Proofs.Ytneoeegpceompaa.Pl

theorem fs_law36_sane (N : Nat) : FS PP N n_law36_sane [] [] (aB true) [] := by
  refine i_law36_sane.pure (by simp) fun D _ => ?_
  have h1 := fun N => fs_accounts_Begin N [⟨2, 10, 0⟩] 2 1 5 (by simp)
  have e1 : chgA [⟨2, 10, 0⟩] 2 (beginF 1 5) = ([⟨2, 5, 1⟩], 0) := by decide
  rw [e1] at h1
  have h2 := fun N => fs_r36_Same N [⟨2, 5, 1⟩] [⟨2, 5, 1⟩] (by simp)
  have e2 : decide (([⟨2, 5, 1⟩] : List Acct) = [⟨2, 5, 1⟩]) = true := by decide
  rw [e2] at h2
  have h3 := fun N => fs_accounts_Total N [⟨2, 5, 1⟩] (by simp)
  have e3 : totalA [⟨2, 5, 1⟩] = 5 := by decide
  rw [e3] at h3
  repeat' ((conv => whnf); (first | ((with_reducible refine Br.id ?_); (first | (with_reducible first | refine Br.tt ?_ | refine Br.ff ?_ | refine Br.not ?_ | refine Y.b4 ?_ | refine Y.b5 ?_ | ((first | refine Br.asset ?_ ?_ | refine Br.key ?_ ?_ | refine Br.str ?_ ?_) <;> intro _) | refine Br.and ?_ | refine Br.or ?_ | refine Y.c1 ?_ | refine Y.c2 ?_ | refine Y.c3 ?_ | refine Y.c4 ?_ | refine Y.c5 ?_ | refine Y.c6 ?_ | refine Y.c7 ?_ | refine Y.c8 ?_ | ((first | refine Br.dec ?_ ?_ | refine Br.eqi ?_ ?_ | refine Br.nei ?_ ?_) <;> intro _)) | refine Br.tt' rfl ?_ | refine Br.ff' rfl ?_ | (with_reducible (refine Br.mk' ?_ ?_ <;> intro _)))) | ((with_reducible refine Cl.id ?_); (first | ((with_reducible apply Cl.pure); case hS => first | exact h3 _) | ((with_reducible apply Cl.fz1); (case hS => exact h1 _); (case hv => (repeat' (first | exact VLs2.nil | exact VLs1.nil | exact ⟨rfl, rfl, rfl⟩ | exact ⟨rfl, rfl⟩ | exact ⟨rfl, by first | rfl | (simp; done) | (simp; omega), by first | rfl | (simp [Int.sub_eq_add_neg]; done)⟩ | with_reducible exact VL2.refl _ | with_reducible exact VL1.refl _ | ((conv => whnf); (first | (with_reducible first | refine VLs2.cons ?_ ?_ | refine VLs1.cons ?_ ?_) | exact VL2.refl _ | refine Y.row0 ?_ | refine Y.row1 ?_ | refine Y.row2 ?_ | refine Y.var0 ?_ | refine Y.var1 ?_ | refine Y.var2 ?_ | refine VL2.fn ?_ | refine VL2.agg ?_ | refine VL1.row0 ?_ | refine VL1.row1 ?_ | refine VL1.row2 ?_ | refine VL1.var0 ?_ | refine VL1.var1 ?_ | refine VL1.var2 ?_ | refine VL2.one (VL1.nil _) | refine VL1.nil _ | exact VL1.refl _ | (with_reducible (refine Lk.id ?_; first | refine Lk.here ?_ | refine Y.l2 ?_ | refine Y.l3 ?_))))))); (case hc => (repeat' (first | exact rfl | ((conv => whnf); (with_reducible (refine Lk.id ?_; first | refine Lk.here ?_ | refine Y.l2 ?_ | refine Y.l3 ?_))))))) | ((with_reducible apply Cl.fz1); (case hS => exact h2 _); (case hv => (repeat' (first | exact VLs2.nil | exact VLs1.nil | exact ⟨rfl, rfl, rfl⟩ | exact ⟨rfl, rfl⟩ | exact ⟨rfl, by first | rfl | (simp; done) | (simp; omega), by first | rfl | (simp [Int.sub_eq_add_neg]; done)⟩ | with_reducible exact VL2.refl _ | with_reducible exact VL1.refl _ | ((conv => whnf); (first | (with_reducible first | refine VLs2.cons ?_ ?_ | refine VLs1.cons ?_ ?_) | exact VL2.refl _ | refine Y.row0 ?_ | refine Y.row1 ?_ | refine Y.row2 ?_ | refine Y.var0 ?_ | refine Y.var1 ?_ | refine Y.var2 ?_ | refine VL2.fn ?_ | refine VL2.agg ?_ | refine VL1.row0 ?_ | refine VL1.row1 ?_ | refine VL1.row2 ?_ | refine VL1.var0 ?_ | refine VL1.var1 ?_ | refine VL1.var2 ?_ | refine VL2.one (VL1.nil _) | refine VL1.nil _ | exact VL1.refl _ | (with_reducible (refine Lk.id ?_; first | refine Lk.here ?_ | refine Y.l2 ?_ | refine Y.l3 ?_))))))); (case hc => (repeat' (first | exact rfl | ((conv => whnf); (with_reducible (refine Lk.id ?_; first | refine Lk.here ?_ | refine Y.l2 ?_ | refine Y.l3 ?_))))))))) | (with_reducible (refine Lk.id ?_; first | refine Lk.here ?_ | refine Y.l2 ?_ | refine Y.l3 ?_)) | ((with_reducible refine El.id ?_); (first | refine Y.e1 ?_ | refine Y.e2 ?_)) | ((with_reducible refine Wp.id ?_); (with_reducible first | refine Y.d1 ?_ | refine Wp.any ?_)) | ((with_reducible refine Se.id ?_); (first | with_reducible refine Se.one ?_ | refine Se.acct ?_ | refine Se.line ?_ | refine Se.offer ?_)) | ((with_reducible refine Ap.id ?_); (first | refine Ap.nil (by omega) ?_ | refine Ap.acct1 ?_ | refine Ap.line1 ?_ | refine Ap.offer1 ?_ | refine Ap.acct (by first | rfl | assumption | omega) (by omega) ?_ | refine Ap.line (by first | rfl | assumption | omega) (by omega) ?_ | refine Ap.offer (by first | rfl | assumption | omega) (by omega) ?_ | refine Ap.map (by first | rfl | assumption | omega) (by omega) ?_ | refine Ap.end_ (by first | rfl | simp) (by first | omega | simp) (by rfl) (by rfl) ?_)) | (with_reducible first | refine Ln.map ?_ | refine Ln.any ?_) | ((with_reducible refine Sb.id ?_); (first | with_reducible refine Sb.one ?_ | refine Y.s2 ?_ | refine Y.s3 ?_)) | (with_reducible (refine Y.o0 ?_; refine Y.o1 ?_)) | refine Sx.nat (by assumption) ?_ | with_reducible refine RetS.of ?_))
  exact Rt.bool rfl

theorem fs_law36_AccountsBegin (N : Nat) (t : List Int) (fee : Int) (hf : 0 ≤ fee ∧ fee ≤ 255) : FS PP N n_law36_AccountsBegin [sI t, .v (.int .u8 fee)] [] (aB true) [] := by
  refine i_law36_AccountsBegin.pure (by simp) fun D _ => ?_
  have hs0 : SrcOk (t.take 800) 0 := ⟨by simp; omega, by omega, by omega⟩
  have hnew := fun N => fs_mk_New N t
  generalize t.take 800 = ts at hs0 hnew
  have hled := fun N b => fs_Src_Ledger N b ts 0 hs0
  have hac := dLedger_accts hs0
  have hs1 := dLedger_ok hs0
  generalize dLedger ts 0 = g at hled hac hs1
  obtain ⟨m, a', hm, ha', hac⟩ := hac
  have hc := gAcc_chk ha' (show m ≤ 20 by omega)
  have hlen := (gAcc_ok ha' m).2
  have hget := gAcc_get ha' m
  have hhas := fun i hi => gAcc_has ha' (k := m) (i := i) hi
  rw [← hac] at hc hlen hget hhas
  have hrg := fun N b => fs_Src_Range N b ts g.2 1 (g.1.accts.length : Int) hs1 (by omega)
  have hid := dRange_ok (lo := 1) (hi := (g.1.accts.length : Int)) hs1 (by omega)
  generalize dRange ts g.2 1 (g.1.accts.length : Int) = v at hrg hid
  obtain ⟨i, a2⟩ := v
  dsimp only at hid hrg
  have hhas := hhas i (by omega)
  have ht : 0 ≤ fee.tmod 30 ∧ fee.tmod 30 < 30 := ⟨Int.tmod_nonneg _ hf.1, Int.tmod_lt_of_pos _ (by omega)⟩
  have hseq : (findA g.1.accts i).seq ≤ 2 := by
    obtain ⟨x, h1, h2, h3, h4⟩ := findA_yes (hasA_place hhas)
    rw [h3]; exact (hget _ x h1).2.2.2
  repeat' ((conv => whnf); (first | ((with_reducible refine Br.id ?_); (first | (with_reducible first | refine Br.tt ?_ | refine Br.ff ?_ | refine Br.not ?_ | refine Y.b4 ?_ | refine Y.b5 ?_ | ((first | refine Br.asset ?_ ?_ | refine Br.key ?_ ?_ | refine Br.str ?_ ?_) <;> intro _) | refine Br.and ?_ | refine Br.or ?_ | refine Y.c1 ?_ | refine Y.c2 ?_ | refine Y.c3 ?_ | refine Y.c4 ?_ | refine Y.c5 ?_ | refine Y.c6 ?_ | refine Y.c7 ?_ | refine Y.c8 ?_ | ((first | refine Br.dec ?_ ?_ | refine Br.eqi ?_ ?_ | refine Br.nei ?_ ?_) <;> intro _)) | refine Br.tt' rfl ?_ | refine Br.ff' rfl ?_ | (with_reducible (refine Br.mk' ?_ ?_ <;> intro _)))) | ((with_reducible refine Cl.id ?_); (first | (refine Cl.new0 (hnew _) ?_) | (refine Cl.upd0 ?hb (hled _ _) ?_; case hb => (repeat' (first | exact rfl | ((conv => whnf); (with_reducible (refine Lk.id ?_; first | refine Lk.here ?_ | refine Y.l2 ?_ | refine Y.l3 ?_)))))) | (refine Cl.upd0 ?hb (hrg _ _) ?_; case hb => (repeat' (first | exact rfl | ((conv => whnf); (with_reducible (refine Lk.id ?_; first | refine Lk.here ?_ | refine Y.l2 ?_ | refine Y.l3 ?_)))))))) | (with_reducible (refine Lk.id ?_; first | refine Lk.here ?_ | refine Y.l2 ?_ | refine Y.l3 ?_)) | ((with_reducible refine El.id ?_); (first | refine Y.e1 ?_ | refine Y.e2 ?_)) | ((with_reducible refine Wp.id ?_); (with_reducible first | refine Y.d1 ?_ | refine Wp.any ?_)) | ((with_reducible refine Se.id ?_); (first | with_reducible refine Se.one ?_ | refine Se.acct ?_ | refine Se.line ?_ | refine Se.offer ?_)) | ((with_reducible refine Ap.id ?_); (first | refine Ap.nil (by omega) ?_ | refine Ap.acct1 ?_ | refine Ap.line1 ?_ | refine Ap.offer1 ?_ | refine Ap.acct (by first | rfl | assumption | omega) (by omega) ?_ | refine Ap.line (by first | rfl | assumption | omega) (by omega) ?_ | refine Ap.offer (by first | rfl | assumption | omega) (by omega) ?_ | refine Ap.map (by first | rfl | assumption | omega) (by omega) ?_ | refine Ap.end_ (by first | rfl | simp) (by first | omega | simp) (by rfl) (by rfl) ?_)) | (with_reducible first | refine Ln.map ?_ | refine Ln.any ?_) | ((with_reducible refine Sb.id ?_); (first | with_reducible refine Sb.one ?_ | refine Y.s2 ?_ | refine Y.s3 ?_)) | (with_reducible (refine Y.o0 ?_; refine Y.o1 ?_)) | refine Sx.nat (by assumption) ?_ | with_reducible refine RetS.of ?_))
  (refine Lp.go [6, 7, 8, 9] [] [] ?_; repeat' ((conv => whnf); (first | (with_reducible (refine Lk.id ?_; first | refine Lk.here ?_ | refine Y.l2 ?_ | refine Y.l3 ?_)) | (with_reducible (refine Y.r0 ?_; first | refine Rn.same ?_ | refine Y.r2 ?_)) | intro d' hd')))
  generalize g.1.accts = l0 at hc hlen hhas hseq ⊢
  have hn : 1 ≤ 1 + fee.tmod 30 ∧ 1 + fee.tmod 30 ≤ 30 := by omega
  generalize 1 + fee.tmod 30 = n at hn ⊢
  have hl0 : l0.length ≤ 5 := by omega
  clear hget hac ha' hm hlen hid hrg hs1 hled hnew hs0 ht
  refine l_ind D (σ := Nat × List Acct) (fun s => 4 - s.1) (fun s => s.1 ≤ 4 ∧ chkA s.2 = 0 ∧ hasA s.2 i = true ∧ s.2.length ≤ 5 ∧ (findA s.2 i).seq ≤ 2 + s.1) (fun s d => ⟨[(6, sA s.2), (7, aI i), (8, aI n), (9, aI s.1)], [], d, 0⟩) (fun s hI d hd ih => ?_) (0, l0) ⟨by omega, hc, hhas, hl0, by simpa using hseq⟩ d' (by omega)
  obtain ⟨hk, hc, hh, hl, hq⟩ := hI
  have hlen : s.2.length ≤ 1000000 := by omega
  obtain ⟨a, g1, g2, g3, g4⟩ := findA_yes (hasA_place hh)
  have hv := chkA_acct hc (List.mem_of_getElem? g1)
  rw [← g3] at hv
  have htot : 0 ≤ totalA s.2 ∧ totalA s.2 ≤ 5000000000000 := by
    have := sum_le (fun a ha => (chkA_acct hc ha).2.1) s.2.length
    rw [List.take_length] at this
    unfold totalA; rw [if_pos hc]; omega
  by_cases hlt : s.1 < 4
  · have w1 := begin_wrong (n := n) hc hh
    have w2 := begin_old (n := n) hc hh
    have f1 := fun N => fs_accounts_Find N s.2 i hlen
    rw [hh] at f1
    have b1 := fun N => fs_accounts_Begin N s.2 i ((findA s.2 i).seq + 2) n hlen
    have b2 := fun N => fs_accounts_Begin N s.2 i (findA s.2 i).seq n hlen
    have b3 := fun N => fs_accounts_Begin N s.2 i ((findA s.2 i).seq + 1) n hlen
    rw [w1] at b1
    rw [w2] at b2
    by_cases hb : (findA s.2 i).bal < n
    · have w3 := begin_poor hc hh (by omega) (by omega : 1 ≤ n ∧ n ≤ 100000) hb
      rw [w3] at b3
      repeat' ((conv => whnf); (first | ((with_reducible refine Br.id ?_); (first | (with_reducible first | refine Br.tt ?_ | refine Br.ff ?_ | refine Br.not ?_ | refine Y.b4 ?_ | refine Y.b5 ?_ | ((first | refine Br.asset ?_ ?_ | refine Br.key ?_ ?_ | refine Br.str ?_ ?_) <;> intro _) | refine Br.and ?_ | refine Br.or ?_ | refine Y.c1 ?_ | refine Y.c2 ?_ | refine Y.c3 ?_ | refine Y.c4 ?_ | refine Y.c5 ?_ | refine Y.c6 ?_ | refine Y.c7 ?_ | refine Y.c8 ?_ | ((first | refine Br.dec ?_ ?_ | refine Br.eqi ?_ ?_ | refine Br.nei ?_ ?_) <;> intro _)) | refine Br.tt' rfl ?_ | refine Br.ff' rfl ?_ | (with_reducible (refine Br.mk' ?_ ?_ <;> intro _)))) | ((with_reducible refine Cl.id ?_); (first | ((with_reducible apply Cl.pure); case hS => first | exact f1 _ | exact b1 _ | exact b2 _ | exact b3 _ | exact fs_law36_sane _))) | (with_reducible (refine Lk.id ?_; first | refine Lk.here ?_ | refine Y.l2 ?_ | refine Y.l3 ?_)) | ((with_reducible refine El.id ?_); (first | refine Y.e1 ?_ | refine Y.e2 ?_)) | ((with_reducible refine Wp.id ?_); (with_reducible first | refine Y.d1 ?_ | refine Wp.any ?_)) | ((with_reducible refine Se.id ?_); (first | with_reducible refine Se.one ?_ | refine Se.acct ?_ | refine Se.line ?_ | refine Se.offer ?_)) | ((with_reducible refine Ap.id ?_); (first | refine Ap.nil (by omega) ?_ | refine Ap.acct1 ?_ | refine Ap.line1 ?_ | refine Ap.offer1 ?_ | refine Ap.acct (by first | rfl | assumption | omega) (by omega) ?_ | refine Ap.line (by first | rfl | assumption | omega) (by omega) ?_ | refine Ap.offer (by first | rfl | assumption | omega) (by omega) ?_ | refine Ap.map (by first | rfl | assumption | omega) (by omega) ?_ | refine Ap.end_ (by first | rfl | simp) (by first | omega | simp) (by rfl) (by rfl) ?_)) | (with_reducible first | refine Ln.map ?_ | refine Ln.any ?_) | ((with_reducible refine Sb.id ?_); (first | with_reducible refine Sb.one ?_ | refine Y.s2 ?_ | refine Y.s3 ?_)) | (with_reducible (refine Y.o0 ?_; refine Y.o1 ?_)) | refine Sx.nat (by assumption) ?_ | with_reducible refine RetS.of ?_))
      all_goals (exact Rt.bool (by simp [hb]))
    · obtain ⟨w3, w4, w5, w6, w7, w8⟩ := begin_ok hc hh (by omega) (by omega : 1 ≤ n ∧ n ≤ 100000) hb
      rw [w3] at b3
      have ih := fun hm hI => ih (s.1 + 1, (chgA s.2 i (beginF ((findA s.2 i).seq + 1) n)).1) hm hI
      have f2 := fun N => fs_accounts_Find N (chgA s.2 i (beginF ((findA s.2 i).seq + 1) n)).1 i (by omega)
      rw [w5, w6] at f2
      dsimp only [cA] at f2
      have t1 := fun N => fs_accounts_Total N s.2 hlen
      have t2 := fun N => fs_accounts_Total N (chgA s.2 i (beginF ((findA s.2 i).seq + 1) n)).1 (by omega)
      rw [w8] at t2
      repeat' ((conv => whnf); (first | ((with_reducible refine Br.id ?_); (first | (with_reducible first | refine Br.tt ?_ | refine Br.ff ?_ | refine Br.not ?_ | refine Y.b4 ?_ | refine Y.b5 ?_ | ((first | refine Br.asset ?_ ?_ | refine Br.key ?_ ?_ | refine Br.str ?_ ?_) <;> intro _) | refine Br.and ?_ | refine Br.or ?_ | refine Y.c1 ?_ | refine Y.c2 ?_ | refine Y.c3 ?_ | refine Y.c4 ?_ | refine Y.c5 ?_ | refine Y.c6 ?_ | refine Y.c7 ?_ | refine Y.c8 ?_ | ((first | refine Br.dec ?_ ?_ | refine Br.eqi ?_ ?_ | refine Br.nei ?_ ?_) <;> intro _)) | refine Br.tt' rfl ?_ | refine Br.ff' rfl ?_ | (with_reducible (refine Br.mk' ?_ ?_ <;> intro _)))) | ((with_reducible refine Cl.id ?_); (first | ((with_reducible apply Cl.pure); case hS => first | exact f1 _ | exact f2 _ | exact b1 _ | exact b2 _ | exact b3 _ | exact t1 _ | exact t2 _ | exact fs_law36_sane _))) | (with_reducible (refine Lk.id ?_; first | refine Lk.here ?_ | refine Y.l2 ?_ | refine Y.l3 ?_)) | ((with_reducible refine El.id ?_); (first | refine Y.e1 ?_ | refine Y.e2 ?_)) | ((with_reducible refine Wp.id ?_); (with_reducible first | refine Y.d1 ?_ | refine Wp.any ?_)) | ((with_reducible refine Se.id ?_); (first | with_reducible refine Se.one ?_ | refine Se.acct ?_ | refine Se.line ?_ | refine Se.offer ?_)) | ((with_reducible refine Ap.id ?_); (first | refine Ap.nil (by omega) ?_ | refine Ap.acct1 ?_ | refine Ap.line1 ?_ | refine Ap.offer1 ?_ | refine Ap.acct (by first | rfl | assumption | omega) (by omega) ?_ | refine Ap.line (by first | rfl | assumption | omega) (by omega) ?_ | refine Ap.offer (by first | rfl | assumption | omega) (by omega) ?_ | refine Ap.map (by first | rfl | assumption | omega) (by omega) ?_ | refine Ap.end_ (by first | rfl | simp) (by first | omega | simp) (by rfl) (by rfl) ?_)) | (with_reducible first | refine Ln.map ?_ | refine Ln.any ?_) | ((with_reducible refine Sb.id ?_); (first | with_reducible refine Sb.one ?_ | refine Y.s2 ?_ | refine Y.s3 ?_)) | (with_reducible (refine Y.o0 ?_; refine Y.o1 ?_)) | refine Sx.nat (by assumption) ?_ | with_reducible refine RetS.of ?_))
      all_goals first | ((refine Lp.go [6, 7, 8, 9] [] [] ?_; repeat' ((conv => whnf); (first | (with_reducible (refine Lk.id ?_; first | refine Lk.here ?_ | refine Y.l2 ?_ | refine Y.l3 ?_)) | (with_reducible (refine Y.r0 ?_; first | refine Rn.same ?_ | refine Y.r2 ?_)) | intro d2 hd2))); exact ih (by dsimp only; omega) ⟨by dsimp only; omega, w4, w5, by dsimp only; omega, by dsimp only; rw [w6]; dsimp only; omega⟩ d2 (by omega))
  · repeat' ((conv => whnf); (first | ((with_reducible refine Br.id ?_); (first | (with_reducible first | refine Br.tt ?_ | refine Br.ff ?_ | refine Br.not ?_ | refine Y.b4 ?_ | refine Y.b5 ?_ | ((first | refine Br.asset ?_ ?_ | refine Br.key ?_ ?_ | refine Br.str ?_ ?_) <;> intro _) | refine Br.and ?_ | refine Br.or ?_ | refine Y.c1 ?_ | refine Y.c2 ?_ | refine Y.c3 ?_ | refine Y.c4 ?_ | refine Y.c5 ?_ | refine Y.c6 ?_ | refine Y.c7 ?_ | refine Y.c8 ?_ | ((first | refine Br.dec ?_ ?_ | refine Br.eqi ?_ ?_ | refine Br.nei ?_ ?_) <;> intro _)) | refine Br.tt' rfl ?_ | refine Br.ff' rfl ?_ | (with_reducible (refine Br.mk' ?_ ?_ <;> intro _)))) | ((with_reducible refine Cl.id ?_); (first | ((with_reducible apply Cl.pure); case hS => first | exact fs_law36_sane _))) | (with_reducible (refine Lk.id ?_; first | refine Lk.here ?_ | refine Y.l2 ?_ | refine Y.l3 ?_)) | ((with_reducible refine El.id ?_); (first | refine Y.e1 ?_ | refine Y.e2 ?_)) | ((with_reducible refine Wp.id ?_); (with_reducible first | refine Y.d1 ?_ | refine Wp.any ?_)) | ((with_reducible refine Se.id ?_); (first | with_reducible refine Se.one ?_ | refine Se.acct ?_ | refine Se.line ?_ | refine Se.offer ?_)) | ((with_reducible refine Ap.id ?_); (first | refine Ap.nil (by omega) ?_ | refine Ap.acct1 ?_ | refine Ap.line1 ?_ | refine Ap.offer1 ?_ | refine Ap.acct (by first | rfl | assumption | omega) (by omega) ?_ | refine Ap.line (by first | rfl | assumption | omega) (by omega) ?_ | refine Ap.offer (by first | rfl | assumption | omega) (by omega) ?_ | refine Ap.map (by first | rfl | assumption | omega) (by omega) ?_ | refine Ap.end_ (by first | rfl | simp) (by first | omega | simp) (by rfl) (by rfl) ?_)) | (with_reducible first | refine Ln.map ?_ | refine Ln.any ?_) | ((with_reducible refine Sb.id ?_); (first | with_reducible refine Sb.one ?_ | refine Y.s2 ?_ | refine Y.s3 ?_)) | (with_reducible (refine Y.o0 ?_; refine Y.o1 ?_)) | refine Sx.nat (by assumption) ?_ | with_reducible refine RetS.of ?_))
    all_goals first | (exact Rt.bool rfl)
end Go.Proofs.Ytneoeegpceompaa.AM
