/-
The walk of the law TrustlinesKeep.
-/
import Derived.Test.YtneoeegpceompaaE3
import Derived.Test.YtneoeegpceompaaP3
import Derived.Test.YtneoeegpceompaaP5
import Derived.Test.YtneoeegpceompaaG6
import Derived.Test.YtneoeegpceompaaB10
set_option linter.unusedVariables false
set_option linter.unusedSimpArgs false
set_option linter.unusedSectionVars false
namespace Go.Proofs.Ytneoeegpceompaa.AM
open Go Go.Proofs Go.Proofs.Ytneoeegpceompaa.Pl

theorem native_s (s : Asset) : nativeA s = true ↔ s.code = ⟨#[]⟩ ∧ s.issuer = 0 := by simp [nativeA]

theorem native_bool {s : Asset} (h : s.code = ⟨#[]⟩ ∧ s.issuer = 0) : (s.code.toList == (⟨#[]⟩ : ByteArray).toList && (s.issuer == 0 && true)) = true := by rw [str_eq]; simp [h.1, h.2]
theorem native_boolf {s : Asset} (h : ¬ (s.code = ⟨#[]⟩ ∧ s.issuer = 0)) : (s.code.toList == (⟨#[]⟩ : ByteArray).toList && (s.issuer == 0 && true)) = false := by
  rw [str_eq]
  by_cases h1 : s.code = ⟨#[]⟩
  · have : ¬ s.issuer = 0 := fun e => h ⟨h1, e⟩
    simp [this]
  · simp [h1]

theorem keep_facts {g : Ledg} {i m : Int} {s : Asset} (hR : rightG g = true) (hi : hasA g.accts i = true) (hs : assetOk s = true) (hm : 0 ≤ m ∧ m ≤ 1000000) :
    ((creditF g i s m).2 = 0 ↔ m ≤ roomA g i s ∧ (hasL g.lines i s = true ∨ s.issuer = i ∨ (s.code = ⟨#[]⟩ ∧ s.issuer = 0))) ∧
    ((debitF g i s m).2 = 0 ↔ m ≤ heldA g i s ∧ (hasL g.lines i s = true ∨ s.issuer = i ∨ (s.code = ⟨#[]⟩ ∧ s.issuer = 0))) := by
  have hc : chkC g i s m = 0 := chkC_zero hR hs hi (by simp [validAmt]; omega)
  rw [credit_iff hc, debit_iff hc, (held_look hR i s).1, (held_look hR i s).2, found_iff hi hs, native_s]
  exact ⟨And.comm, And.comm⟩

section
variable {N : Nat} {t ts : List Int} {am a1 i a2 a3 rm hd Ig e f : Int} {g x y : Ledg} {s : Asset}
  (hnew : ∀ N, FS PP N n_mk_New [sI t] [] (.pt N 2 0 0) [(N, some (bS ts 0))])
  (hled : ∀ N b, FS PP N n_Src_Ledger [.pt b 2 0 0] [(b, bS ts 0)] (eG g) [(b, some (bS ts a1))])
  (hrg : ∀ N b, FS PP N n_Src_Range [.pt b 2 0 0, aI 1, aI g.accts.length] [(b, bS ts a1)] (aI i) [(b, some (bS ts a2))])
  (has : ∀ N b, FS PP N n_Src_Asset [.pt b 2 0 0] [(b, bS ts a2)] (aS s) [(b, some (bS ts a3))])
  (C1 : ∀ N, FS PP N n_trustlines_Credit [eG g, aI i, aS s, aI (am.tmod 700)] [] (.tup [eG x, aI e]) [])
  (C2 : ∀ N, FS PP N n_trustlines_Debit [eG g, aI i, aS s, aI (am.tmod 700)] [] (.tup [eG y, aI f]) [])
  (C3 : ∀ N, FS PP N n_trustlines_Room [eG g, aI i, aS s] [] (aI rm) [])
  (C4 : ∀ N, FS PP N n_trustlines_Held [eG g, aI i, aS s] [] (aI hd) [])
  (C5 : ∀ N, FS PP N n_trustlines_Find [sL g.lines, aI i, aS s] [] (.tup [.agg (cL (findL g.lines i s)), aB (hasL g.lines i s)]) [])
  (I1 : ∀ N, FS PP N n_trustlines_Issued [sL g.lines, aS s] [] (aI Ig) [])
  (hi : 1 ≤ i ∧ i ≤ 5) (hl : g.accts.length ≤ 5) (hib : 0 ≤ Ig ∧ Ig ≤ 60000000000000) (hbd : (0 ≤ hd ∧ hd ≤ 1000000000000) ∧ 0 ≤ rm ∧ rm ≤ 1000000000000) (ham : 0 ≤ am ∧ am ≤ 65535) (ht : 0 ≤ am.tmod 700 ∧ am.tmod 700 < 700)
include hnew hled hrg has C1 C2 C3 C4 C5 I1 hi hl hib hbd ham ht
theorem keep_no (he : ¬ e = 0) (hf : ¬ f = 0) (hq1 : hasL g.lines i s = false) (hq2 : ¬ s.issuer = i) (hq3 : ¬ (s.code = ⟨#[]⟩ ∧ s.issuer = 0)) : FS PP N n_law37_TrustlinesKeep [sI t, .v (.int .u16 am)] [] (aB true) [] := by
  have q1 : ((f == 0) == true) = false := by simp [hf]
  have q2 : ((f == 0) == false) = true := by simp [hf]
  have q3 : ((e == 0) == true) = false := by simp [he]
  have q4 : ((e == 0) == false) = true := by simp [he]
  have q5 : ((e == 0) == (s.code.toList == (⟨#[]⟩ : ByteArray).toList && (s.issuer == 0 && true))) = true := by rw [native_boolf hq3]; exact q4
  have q6 : ((f == 0) == (s.code.toList == (⟨#[]⟩ : ByteArray).toList && (s.issuer == 0 && true))) = true := by rw [native_boolf hq3]; exact q2
  refine i_law37_TrustlinesKeep.pure (by simp) fun D _ => ?_
  repeat' ((conv => whnf); (first | ((with_reducible refine Cl.id ?_); (first | refine Y.pu (C1 _) ?_ | refine Y.pu (C2 _) ?_ | refine Y.pu (C3 _) ?_ | refine Y.pu (C4 _) ?_ | refine Y.pu (C5 _) ?_ | refine Y.pu (fs_law37_sane _) ?_ | refine Y.new (hnew _) ?_ | (refine Y.upd (hled _ _) ?_ ?_; exact Y.lk) | (refine Y.upd (hrg _ _) ?_ ?_; exact Y.lk) | (refine Y.upd (has _ _) ?_ ?_; exact Y.lk) | fail)) | refine Y.st ?_ | refine Tw.mk (fun _ => ?_) (fun _ => ?_) | fail))
  all_goals exact Rt.bool rfl
theorem keep_nn_own (he : ¬ e = 0) (hf : ¬ f = 0) (hrm : ¬ am.tmod 700 ≤ rm) (hhd : ¬ am.tmod 700 ≤ hd) (h : hasL g.lines i s = true) : FS PP N n_law37_TrustlinesKeep [sI t, .v (.int .u16 am)] [] (aB true) [] := by
  have q1 : ((f == 0) == true) = false := by simp [hf]
  have q2 : ((f == 0) == false) = true := by simp [hf]
  have q3 : ((e == 0) == true) = false := by simp [he]
  have q4 : ((e == 0) == false) = true := by simp [he]
  refine i_law37_TrustlinesKeep.pure (by simp) fun D _ => ?_
  repeat' ((conv => whnf); (first | ((with_reducible refine Cl.id ?_); (first | refine Y.pu (C1 _) ?_ | refine Y.pu (C2 _) ?_ | refine Y.pu (C3 _) ?_ | refine Y.pu (C4 _) ?_ | refine Y.pu (C5 _) ?_ | refine Y.pu (fs_law37_sane _) ?_ | refine Y.new (hnew _) ?_ | (refine Y.upd (hled _ _) ?_ ?_; exact Y.lk) | (refine Y.upd (hrg _ _) ?_ ?_; exact Y.lk) | (refine Y.upd (has _ _) ?_ ?_; exact Y.lk) | fail)) | refine Y.st ?_ | refine Tw.mk (fun _ => ?_) (fun _ => ?_) | fail))
  all_goals exact Rt.bool rfl
theorem keep_ny_own (he : ¬ e = 0) (hf : f = 0) (hrm : ¬ am.tmod 700 ≤ rm) (hhd : am.tmod 700 ≤ hd) (h : hasL g.lines i s = true) (I3 : hasL g.lines i s = true → ∀ N, FS PP N n_trustlines_Issued [sL y.lines, aS s] [] (aI (Ig - am.tmod 700)) []) : FS PP N n_law37_TrustlinesKeep [sI t, .v (.int .u16 am)] [] (aB true) [] := by
  subst hf
  have q3 : ((e == 0) == true) = false := by simp [he]
  have q4 : ((e == 0) == false) = true := by simp [he]
  have q7 := fun h : s.code = ⟨#[]⟩ ∧ s.issuer = 0 => (by rw [native_bool h]; rfl : (((0 : Int) == 0) == (s.code.toList == (⟨#[]⟩ : ByteArray).toList && (s.issuer == 0 && true))) = true)
  try have q7 := q7 h
  refine i_law37_TrustlinesKeep.pure (by simp) fun D _ => ?_
  repeat' ((conv => whnf); (first | ((with_reducible refine Cl.id ?_); (first | refine Y.pu (C1 _) ?_ | refine Y.pu (C2 _) ?_ | refine Y.pu (C3 _) ?_ | refine Y.pu (C4 _) ?_ | refine Y.pu (C5 _) ?_ | refine Y.pu (I1 _) ?_ | refine Y.pu (I3 ‹_› _) ?_ | refine Y.pu (fs_law37_sane _) ?_ | refine Y.new (hnew _) ?_ | (refine Y.upd (hled _ _) ?_ ?_; exact Y.lk) | (refine Y.upd (hrg _ _) ?_ ?_; exact Y.lk) | (refine Y.upd (has _ _) ?_ ?_; exact Y.lk) | fail)) | refine Y.st ?_ | refine Tw.mk (fun _ => ?_) (fun _ => ?_) | fail))
  all_goals exact Rt.bool rfl
theorem keep_nn_iss (he : ¬ e = 0) (hf : ¬ f = 0) (hrm : ¬ am.tmod 700 ≤ rm) (hhd : ¬ am.tmod 700 ≤ hd) (h : s.issuer = i) : FS PP N n_law37_TrustlinesKeep [sI t, .v (.int .u16 am)] [] (aB true) [] := by
  have q1 : ((f == 0) == true) = false := by simp [hf]
  have q2 : ((f == 0) == false) = true := by simp [hf]
  have q3 : ((e == 0) == true) = false := by simp [he]
  have q4 : ((e == 0) == false) = true := by simp [he]
  refine i_law37_TrustlinesKeep.pure (by simp) fun D _ => ?_
  repeat' ((conv => whnf); (first | ((with_reducible refine Cl.id ?_); (first | refine Y.pu (C1 _) ?_ | refine Y.pu (C2 _) ?_ | refine Y.pu (C3 _) ?_ | refine Y.pu (C4 _) ?_ | refine Y.pu (C5 _) ?_ | refine Y.pu (fs_law37_sane _) ?_ | refine Y.new (hnew _) ?_ | (refine Y.upd (hled _ _) ?_ ?_; exact Y.lk) | (refine Y.upd (hrg _ _) ?_ ?_; exact Y.lk) | (refine Y.upd (has _ _) ?_ ?_; exact Y.lk) | fail)) | refine Y.st ?_ | refine Tw.mk (fun _ => ?_) (fun _ => ?_) | fail))
  all_goals exact Rt.bool rfl
theorem keep_ny_iss (he : ¬ e = 0) (hf : f = 0) (hrm : ¬ am.tmod 700 ≤ rm) (hhd : am.tmod 700 ≤ hd) (h : s.issuer = i) (I3 : hasL g.lines i s = true → ∀ N, FS PP N n_trustlines_Issued [sL y.lines, aS s] [] (aI (Ig - am.tmod 700)) []) : FS PP N n_law37_TrustlinesKeep [sI t, .v (.int .u16 am)] [] (aB true) [] := by
  subst hf
  have q3 : ((e == 0) == true) = false := by simp [he]
  have q4 : ((e == 0) == false) = true := by simp [he]
  have q7 := fun h : s.code = ⟨#[]⟩ ∧ s.issuer = 0 => (by rw [native_bool h]; rfl : (((0 : Int) == 0) == (s.code.toList == (⟨#[]⟩ : ByteArray).toList && (s.issuer == 0 && true))) = true)
  try have q7 := q7 h
  refine i_law37_TrustlinesKeep.pure (by simp) fun D _ => ?_
  repeat' ((conv => whnf); (first | ((with_reducible refine Cl.id ?_); (first | refine Y.pu (C1 _) ?_ | refine Y.pu (C2 _) ?_ | refine Y.pu (C3 _) ?_ | refine Y.pu (C4 _) ?_ | refine Y.pu (C5 _) ?_ | refine Y.pu (I1 _) ?_ | refine Y.pu (I3 ‹_› _) ?_ | refine Y.pu (fs_law37_sane _) ?_ | refine Y.new (hnew _) ?_ | (refine Y.upd (hled _ _) ?_ ?_; exact Y.lk) | (refine Y.upd (hrg _ _) ?_ ?_; exact Y.lk) | (refine Y.upd (has _ _) ?_ ?_; exact Y.lk) | fail)) | refine Y.st ?_ | refine Tw.mk (fun _ => ?_) (fun _ => ?_) | fail))
  all_goals exact Rt.bool rfl
theorem keep_nn_nat (he : ¬ e = 0) (hf : ¬ f = 0) (hrm : ¬ am.tmod 700 ≤ rm) (hhd : ¬ am.tmod 700 ≤ hd) (h : (s.code = ⟨#[]⟩ ∧ s.issuer = 0)) : FS PP N n_law37_TrustlinesKeep [sI t, .v (.int .u16 am)] [] (aB true) [] := by
  have q1 : ((f == 0) == true) = false := by simp [hf]
  have q2 : ((f == 0) == false) = true := by simp [hf]
  have q3 : ((e == 0) == true) = false := by simp [he]
  have q4 : ((e == 0) == false) = true := by simp [he]
  refine i_law37_TrustlinesKeep.pure (by simp) fun D _ => ?_
  repeat' ((conv => whnf); (first | ((with_reducible refine Cl.id ?_); (first | refine Y.pu (C1 _) ?_ | refine Y.pu (C2 _) ?_ | refine Y.pu (C3 _) ?_ | refine Y.pu (C4 _) ?_ | refine Y.pu (C5 _) ?_ | refine Y.pu (fs_law37_sane _) ?_ | refine Y.new (hnew _) ?_ | (refine Y.upd (hled _ _) ?_ ?_; exact Y.lk) | (refine Y.upd (hrg _ _) ?_ ?_; exact Y.lk) | (refine Y.upd (has _ _) ?_ ?_; exact Y.lk) | fail)) | refine Y.st ?_ | refine Tw.mk (fun _ => ?_) (fun _ => ?_) | fail))
  all_goals exact Rt.bool rfl
theorem keep_ny_nat (he : ¬ e = 0) (hf : f = 0) (hrm : ¬ am.tmod 700 ≤ rm) (hhd : am.tmod 700 ≤ hd) (h : (s.code = ⟨#[]⟩ ∧ s.issuer = 0)) (I3 : hasL g.lines i s = true → ∀ N, FS PP N n_trustlines_Issued [sL y.lines, aS s] [] (aI (Ig - am.tmod 700)) []) : FS PP N n_law37_TrustlinesKeep [sI t, .v (.int .u16 am)] [] (aB true) [] := by
  subst hf
  have q3 : ((e == 0) == true) = false := by simp [he]
  have q4 : ((e == 0) == false) = true := by simp [he]
  have q7 := fun h : s.code = ⟨#[]⟩ ∧ s.issuer = 0 => (by rw [native_bool h]; rfl : (((0 : Int) == 0) == (s.code.toList == (⟨#[]⟩ : ByteArray).toList && (s.issuer == 0 && true))) = true)
  try have q7 := q7 h
  refine i_law37_TrustlinesKeep.pure (by simp) fun D _ => ?_
  repeat' ((conv => whnf); (first | ((with_reducible refine Cl.id ?_); (first | refine Y.pu (C1 _) ?_ | refine Y.pu (C2 _) ?_ | refine Y.pu (C3 _) ?_ | refine Y.pu (C4 _) ?_ | refine Y.pu (C5 _) ?_ | refine Y.pu (I1 _) ?_ | refine Y.pu (I3 ‹_› _) ?_ | refine Y.pu (fs_law37_sane _) ?_ | refine Y.new (hnew _) ?_ | (refine Y.upd (hled _ _) ?_ ?_; exact Y.lk) | (refine Y.upd (hrg _ _) ?_ ?_; exact Y.lk) | (refine Y.upd (has _ _) ?_ ?_; exact Y.lk) | fail)) | refine Y.st ?_ | refine Tw.mk (fun _ => ?_) (fun _ => ?_) | fail))
  all_goals exact Rt.bool rfl
end
section
variable {N : Nat} {t ts : List Int} {am a1 i a2 a3 rm hd Ig f : Int} {g x y : Ledg} {s : Asset}
  (hnew : ∀ N, FS PP N n_mk_New [sI t] [] (.pt N 2 0 0) [(N, some (bS ts 0))])
  (hled : ∀ N b, FS PP N n_Src_Ledger [.pt b 2 0 0] [(b, bS ts 0)] (eG g) [(b, some (bS ts a1))])
  (hrg : ∀ N b, FS PP N n_Src_Range [.pt b 2 0 0, aI 1, aI g.accts.length] [(b, bS ts a1)] (aI i) [(b, some (bS ts a2))])
  (has : ∀ N b, FS PP N n_Src_Asset [.pt b 2 0 0] [(b, bS ts a2)] (aS s) [(b, some (bS ts a3))])
  (C1 : ∀ N, FS PP N n_trustlines_Credit [eG g, aI i, aS s, aI (am.tmod 700)] [] (.tup [eG x, aI 0]) [])
  (C2 : ∀ N, FS PP N n_trustlines_Debit [eG g, aI i, aS s, aI (am.tmod 700)] [] (.tup [eG y, aI f]) [])
  (C3 : ∀ N, FS PP N n_trustlines_Room [eG g, aI i, aS s] [] (aI rm) [])
  (C4 : ∀ N, FS PP N n_trustlines_Held [eG g, aI i, aS s] [] (aI hd) [])
  (C5 : ∀ N, FS PP N n_trustlines_Find [sL g.lines, aI i, aS s] [] (.tup [.agg (cL (findL g.lines i s)), aB (hasL g.lines i s)]) [])
  (I1 : ∀ N, FS PP N n_trustlines_Issued [sL g.lines, aS s] [] (aI Ig) [])
  (hi : 1 ≤ i ∧ i ≤ 5) (hl : g.accts.length ≤ 5) (hib : 0 ≤ Ig ∧ Ig ≤ 60000000000000) (hbd : (0 ≤ hd ∧ hd ≤ 1000000000000) ∧ 0 ≤ rm ∧ rm ≤ 1000000000000) (ham : 0 ≤ am ∧ am ≤ 65535) (ht : 0 ≤ am.tmod 700 ∧ am.tmod 700 < 700)
  (C6 : ∀ N, FS PP N n_trustlines_Debit [eG x, aI i, aS s, aI (am.tmod 700)] [] (.tup [eG g, aI 0]) [])
  (L7 : ∀ N, FS PP N n_r37_Ledgers [eG g, eG g] [] (aB true) [])
  (C8 : ∀ N, FS PP N n_trustlines_Check [sL x.lines, sA x.accts] [] (aI 0) [])
  (I2 : hasL g.lines i s = true → ∀ N, FS PP N n_trustlines_Issued [sL x.lines, aS s] [] (aI (Ig + am.tmod 700)) [])
  (C9 : hasL g.lines i s = true → ∀ N, FS PP N n_trustlines_Held [eG x, aI i, aS s] [] (aI (hd + am.tmod 700)) [])
include hnew hled hrg has C1 C2 C3 C4 C5 I1 hi hl hib hbd ham ht C6 L7 C8 I2 C9
theorem keep_yn_own (hf : ¬ f = 0) (hrm : am.tmod 700 ≤ rm) (hhd : ¬ am.tmod 700 ≤ hd) (h : hasL g.lines i s = true) : FS PP N n_law37_TrustlinesKeep [sI t, .v (.int .u16 am)] [] (aB true) [] := by
  have q1 : ((f == 0) == true) = false := by simp [hf]
  have q2 : ((f == 0) == false) = true := by simp [hf]
  have q7 := fun h : s.code = ⟨#[]⟩ ∧ s.issuer = 0 => (by rw [native_bool h]; rfl : (((0 : Int) == 0) == (s.code.toList == (⟨#[]⟩ : ByteArray).toList && (s.issuer == 0 && true))) = true)
  try have q7 := q7 h
  refine i_law37_TrustlinesKeep.pure (by simp) fun D _ => ?_
  repeat' ((conv => whnf); (first | ((with_reducible refine Cl.id ?_); (first | refine Y.pu (C1 _) ?_ | refine Y.pu (C2 _) ?_ | refine Y.pu (C3 _) ?_ | refine Y.pu (C4 _) ?_ | refine Y.pu (C5 _) ?_ | refine Y.pu (C6 _) ?_ | refine Y.pu (L7 _) ?_ | refine Y.pu (C8 _) ?_ | refine Y.pu (C9 ‹_› _) ?_ | refine Y.pu (I1 _) ?_ | refine Y.pu (I2 ‹_› _) ?_ | refine Y.pu (fs_law37_sane _) ?_ | refine Y.new (hnew _) ?_ | (refine Y.upd (hled _ _) ?_ ?_; exact Y.lk) | (refine Y.upd (hrg _ _) ?_ ?_; exact Y.lk) | (refine Y.upd (has _ _) ?_ ?_; exact Y.lk) | fail)) | refine Y.st ?_ | refine Tw.mk (fun _ => ?_) (fun _ => ?_) | fail))
  all_goals exact Rt.bool rfl
theorem keep_yy_own (hf : f = 0) (hrm : am.tmod 700 ≤ rm) (hhd : am.tmod 700 ≤ hd) (h : hasL g.lines i s = true) (I3 : hasL g.lines i s = true → ∀ N, FS PP N n_trustlines_Issued [sL y.lines, aS s] [] (aI (Ig - am.tmod 700)) []) : FS PP N n_law37_TrustlinesKeep [sI t, .v (.int .u16 am)] [] (aB true) [] := by
  subst hf
  have q7 := fun h : s.code = ⟨#[]⟩ ∧ s.issuer = 0 => (by rw [native_bool h]; rfl : (((0 : Int) == 0) == (s.code.toList == (⟨#[]⟩ : ByteArray).toList && (s.issuer == 0 && true))) = true)
  try have q7 := q7 h
  refine i_law37_TrustlinesKeep.pure (by simp) fun D _ => ?_
  repeat' ((conv => whnf); (first | ((with_reducible refine Cl.id ?_); (first | refine Y.pu (C1 _) ?_ | refine Y.pu (C2 _) ?_ | refine Y.pu (C3 _) ?_ | refine Y.pu (C4 _) ?_ | refine Y.pu (C5 _) ?_ | refine Y.pu (C6 _) ?_ | refine Y.pu (L7 _) ?_ | refine Y.pu (C8 _) ?_ | refine Y.pu (C9 ‹_› _) ?_ | refine Y.pu (I1 _) ?_ | refine Y.pu (I2 ‹_› _) ?_ | refine Y.pu (I3 ‹_› _) ?_ | refine Y.pu (fs_law37_sane _) ?_ | refine Y.new (hnew _) ?_ | (refine Y.upd (hled _ _) ?_ ?_; exact Y.lk) | (refine Y.upd (hrg _ _) ?_ ?_; exact Y.lk) | (refine Y.upd (has _ _) ?_ ?_; exact Y.lk) | fail)) | refine Y.st ?_ | refine Tw.mk (fun _ => ?_) (fun _ => ?_) | fail))
  all_goals exact Rt.bool rfl
theorem keep_yn_iss (hf : ¬ f = 0) (hrm : am.tmod 700 ≤ rm) (hhd : ¬ am.tmod 700 ≤ hd) (h : s.issuer = i) : FS PP N n_law37_TrustlinesKeep [sI t, .v (.int .u16 am)] [] (aB true) [] := by
  have q1 : ((f == 0) == true) = false := by simp [hf]
  have q2 : ((f == 0) == false) = true := by simp [hf]
  have q7 := fun h : s.code = ⟨#[]⟩ ∧ s.issuer = 0 => (by rw [native_bool h]; rfl : (((0 : Int) == 0) == (s.code.toList == (⟨#[]⟩ : ByteArray).toList && (s.issuer == 0 && true))) = true)
  try have q7 := q7 h
  refine i_law37_TrustlinesKeep.pure (by simp) fun D _ => ?_
  repeat' ((conv => whnf); (first | ((with_reducible refine Cl.id ?_); (first | refine Y.pu (C1 _) ?_ | refine Y.pu (C2 _) ?_ | refine Y.pu (C3 _) ?_ | refine Y.pu (C4 _) ?_ | refine Y.pu (C5 _) ?_ | refine Y.pu (C6 _) ?_ | refine Y.pu (L7 _) ?_ | refine Y.pu (C8 _) ?_ | refine Y.pu (C9 ‹_› _) ?_ | refine Y.pu (I1 _) ?_ | refine Y.pu (I2 ‹_› _) ?_ | refine Y.pu (fs_law37_sane _) ?_ | refine Y.new (hnew _) ?_ | (refine Y.upd (hled _ _) ?_ ?_; exact Y.lk) | (refine Y.upd (hrg _ _) ?_ ?_; exact Y.lk) | (refine Y.upd (has _ _) ?_ ?_; exact Y.lk) | fail)) | refine Y.st ?_ | refine Tw.mk (fun _ => ?_) (fun _ => ?_) | fail))
  all_goals exact Rt.bool rfl
theorem keep_yy_iss (hf : f = 0) (hrm : am.tmod 700 ≤ rm) (hhd : am.tmod 700 ≤ hd) (h : s.issuer = i) (I3 : hasL g.lines i s = true → ∀ N, FS PP N n_trustlines_Issued [sL y.lines, aS s] [] (aI (Ig - am.tmod 700)) []) : FS PP N n_law37_TrustlinesKeep [sI t, .v (.int .u16 am)] [] (aB true) [] := by
  subst hf
  have q7 := fun h : s.code = ⟨#[]⟩ ∧ s.issuer = 0 => (by rw [native_bool h]; rfl : (((0 : Int) == 0) == (s.code.toList == (⟨#[]⟩ : ByteArray).toList && (s.issuer == 0 && true))) = true)
  try have q7 := q7 h
  refine i_law37_TrustlinesKeep.pure (by simp) fun D _ => ?_
  repeat' ((conv => whnf); (first | ((with_reducible refine Cl.id ?_); (first | refine Y.pu (C1 _) ?_ | refine Y.pu (C2 _) ?_ | refine Y.pu (C3 _) ?_ | refine Y.pu (C4 _) ?_ | refine Y.pu (C5 _) ?_ | refine Y.pu (C6 _) ?_ | refine Y.pu (L7 _) ?_ | refine Y.pu (C8 _) ?_ | refine Y.pu (C9 ‹_› _) ?_ | refine Y.pu (I1 _) ?_ | refine Y.pu (I2 ‹_› _) ?_ | refine Y.pu (I3 ‹_› _) ?_ | refine Y.pu (fs_law37_sane _) ?_ | refine Y.new (hnew _) ?_ | (refine Y.upd (hled _ _) ?_ ?_; exact Y.lk) | (refine Y.upd (hrg _ _) ?_ ?_; exact Y.lk) | (refine Y.upd (has _ _) ?_ ?_; exact Y.lk) | fail)) | refine Y.st ?_ | refine Tw.mk (fun _ => ?_) (fun _ => ?_) | fail))
  all_goals exact Rt.bool rfl
theorem keep_yn_nat (hf : ¬ f = 0) (hrm : am.tmod 700 ≤ rm) (hhd : ¬ am.tmod 700 ≤ hd) (h : (s.code = ⟨#[]⟩ ∧ s.issuer = 0)) : FS PP N n_law37_TrustlinesKeep [sI t, .v (.int .u16 am)] [] (aB true) [] := by
  have q1 : ((f == 0) == true) = false := by simp [hf]
  have q2 : ((f == 0) == false) = true := by simp [hf]
  have q7 := fun h : s.code = ⟨#[]⟩ ∧ s.issuer = 0 => (by rw [native_bool h]; rfl : (((0 : Int) == 0) == (s.code.toList == (⟨#[]⟩ : ByteArray).toList && (s.issuer == 0 && true))) = true)
  try have q7 := q7 h
  refine i_law37_TrustlinesKeep.pure (by simp) fun D _ => ?_
  repeat' ((conv => whnf); (first | ((with_reducible refine Cl.id ?_); (first | refine Y.pu (C1 _) ?_ | refine Y.pu (C2 _) ?_ | refine Y.pu (C3 _) ?_ | refine Y.pu (C4 _) ?_ | refine Y.pu (C5 _) ?_ | refine Y.pu (C6 _) ?_ | refine Y.pu (L7 _) ?_ | refine Y.pu (C8 _) ?_ | refine Y.pu (C9 ‹_› _) ?_ | refine Y.pu (I1 _) ?_ | refine Y.pu (I2 ‹_› _) ?_ | refine Y.pu (fs_law37_sane _) ?_ | refine Y.new (hnew _) ?_ | (refine Y.upd (hled _ _) ?_ ?_; exact Y.lk) | (refine Y.upd (hrg _ _) ?_ ?_; exact Y.lk) | (refine Y.upd (has _ _) ?_ ?_; exact Y.lk) | fail)) | refine Y.st ?_ | refine Tw.mk (fun _ => ?_) (fun _ => ?_) | fail))
  all_goals exact Rt.bool rfl
theorem keep_yy_nat (hf : f = 0) (hrm : am.tmod 700 ≤ rm) (hhd : am.tmod 700 ≤ hd) (h : (s.code = ⟨#[]⟩ ∧ s.issuer = 0)) (I3 : hasL g.lines i s = true → ∀ N, FS PP N n_trustlines_Issued [sL y.lines, aS s] [] (aI (Ig - am.tmod 700)) []) : FS PP N n_law37_TrustlinesKeep [sI t, .v (.int .u16 am)] [] (aB true) [] := by
  subst hf
  have q7 := fun h : s.code = ⟨#[]⟩ ∧ s.issuer = 0 => (by rw [native_bool h]; rfl : (((0 : Int) == 0) == (s.code.toList == (⟨#[]⟩ : ByteArray).toList && (s.issuer == 0 && true))) = true)
  try have q7 := q7 h
  refine i_law37_TrustlinesKeep.pure (by simp) fun D _ => ?_
  repeat' ((conv => whnf); (first | ((with_reducible refine Cl.id ?_); (first | refine Y.pu (C1 _) ?_ | refine Y.pu (C2 _) ?_ | refine Y.pu (C3 _) ?_ | refine Y.pu (C4 _) ?_ | refine Y.pu (C5 _) ?_ | refine Y.pu (C6 _) ?_ | refine Y.pu (L7 _) ?_ | refine Y.pu (C8 _) ?_ | refine Y.pu (C9 ‹_› _) ?_ | refine Y.pu (I1 _) ?_ | refine Y.pu (I2 ‹_› _) ?_ | refine Y.pu (I3 ‹_› _) ?_ | refine Y.pu (fs_law37_sane _) ?_ | refine Y.new (hnew _) ?_ | (refine Y.upd (hled _ _) ?_ ?_; exact Y.lk) | (refine Y.upd (hrg _ _) ?_ ?_; exact Y.lk) | (refine Y.upd (has _ _) ?_ ?_; exact Y.lk) | fail)) | refine Y.st ?_ | refine Tw.mk (fun _ => ?_) (fun _ => ?_) | fail))
  all_goals exact Rt.bool rfl
end

theorem fs_law37_TrustlinesKeep (N : Nat) (t : List Int) (am : Int) (ham : 0 ≤ am ∧ am ≤ 65535) : FS PP N n_law37_TrustlinesKeep [sI t, .v (.int .u16 am)] [] (aB true) [] := by
  have hs0 : SrcOk (t.take 800) 0 := ⟨by simp; omega, by omega, by omega⟩
  have hnew := fun N => fs_mk_New N t
  generalize t.take 800 = ts at hs0 hnew
  have hled := fun N b => fs_Src_Ledger N b ts 0 hs0
  have hr := dLedger_right hs0
  have hs1 := dLedger_ok hs0
  generalize dLedger ts 0 = g at hled hr hs1
  obtain ⟨g, a1⟩ := g
  obtain ⟨n, hn, hlen, hA, hhas, hget, hL, hdr, hpw, hof⟩ := hr
  dsimp only at hlen hA hhas hget hL hdr hpw hof hled hs1
  have hrg := fun N b => fs_Src_Range N b ts a1 1 (g.accts.length : Int) hs1 (by omega)
  have hid := dRange_ok (lo := 1) (hi := (g.accts.length : Int)) hs1 (by omega)
  generalize dRange ts a1 1 (g.accts.length : Int) = v at hrg hid
  obtain ⟨i, a2⟩ := v
  dsimp only at hid hrg
  have hi := hhas i (by omega)
  have has := fun N b => fs_Src_Asset N b ts a2 hid.2
  have hav := dAsset_ok hid.2
  generalize dAsset ts a2 = w at has hav
  obtain ⟨s, a3⟩ := w
  dsimp only at has hav
  have hs : assetOk s = true := by rcases hav.1 with h | h | h <;> rw [h] <;> decide
  have ht : 0 ≤ am.tmod 700 ∧ am.tmod 700 < 700 := ⟨Int.tmod_nonneg _ ham.1, Int.tmod_lt_of_pos _ (by omega)⟩
  have hR : rightG g = true := by simp [rightG, hL]
  have hlens := right_lens hR
  have F := keep_facts (m := am.tmod 700) hR hi hs (by omega)
  have C1 := fun N => fsg_Credit N g i s (am.tmod 700) hlens.1 (by omega)
  have C2 := fun N => fsg_Debit N g i s (am.tmod 700) hlens.1 (by omega)
  have C3 := fun N => fsg_Room N g i s
  have C4 := fun N => fsg_Held N g i s
  have C5 := fun N => fsg_Find N g.lines i s hlens.2
  have hl2 := held_look hR i s
  have hbd := look_bounds (i := i) (s := s) hR
  rw [← hl2.1, ← hl2.2] at hbd
  have I1 := fun N => fsg_Issued N g.lines s hlens.2 (right_bals hR)
  have hib := issued_bd hR s
  have X1 := fun h : (creditF g i s (am.tmod 700)).2 = 0 => (⟨credit_back h, credited h, credit_eq h⟩ : _ ∧ _ ∧ _)
  have X2 := fun h : (debitF g i s (am.tmod 700)).2 = 0 => (⟨debited h, debit_eq h⟩ : _ ∧ _)
  have O := own_line (i := i) (s := s) hR
  have L7 := fun N => fs_r37_Ledgers N g g hlens.1 hlens.2 (by omega)
  rw [decide_eq_true rfl] at L7
  generalize hX : creditF g i s (am.tmod 700) = X at *
  generalize hY : debitF g i s (am.tmod 700) = Y at *
  obtain ⟨x, e⟩ := X
  obtain ⟨y, f⟩ := Y
  dsimp only at F C1 C2 X1 X2
  -- what is issued behind the debit
  have I3 : f = 0 → hasL g.lines i s = true → ∀ N, FS PP N n_trustlines_Issued [sL y.lines, aS s] [] (aI (issued g.lines s - (am.tmod 700))) [] := fun h0 h1 N => by
    obtain ⟨A, E⟩ := X2 h0
    have ey : y = addF g i s (0 - (am.tmod 700)) := congrArg Prod.fst E
    have := fsg_Issued N y.lines s (by rw [ey, A.lenL]; exact hlens.2) (by rw [ey]; exact right_bals A.right)
    have e2 : issued y.lines s = issued g.lines s - (am.tmod 700) := by
      rw [ey, A.iss, if_pos ⟨rfl, O h1⟩]; omega
    rw [e2] at this; exact this
  have hn2 : (i : Int) ≤ 1000000 := by omega
  clear hX hY hdr hpw hget hhas hA hL hav
  obtain ⟨F1, F2⟩ := F
  by_cases hq : hasL g.lines i s = true ∨ s.issuer = i ∨ (s.code = ⟨#[]⟩ ∧ s.issuer = 0)
  · have F1 : e = 0 ↔ (am.tmod 700) ≤ roomA g i s := ⟨fun h => (F1.1 h).1, fun h => F1.2 ⟨h, hq⟩⟩
    have F2 : f = 0 ↔ (am.tmod 700) ≤ heldA g i s := ⟨fun h => (F2.1 h).1, fun h => F2.2 ⟨h, hq⟩⟩
    by_cases hrm : (am.tmod 700) ≤ roomA g i s
    · obtain rfl := F1.2 hrm
      obtain ⟨B, A, E⟩ := X1 rfl
      have ex : x = addF g i s (am.tmod 700) := congrArg Prod.fst E
      have hRx : rightG x = true := by rw [ex]; exact A.right
      have hlx := right_lens hRx
      have ox : x.offers.length ≤ 1000000 := by rw [ex, A.offs]; omega
      have C6 := fun N => fsg_Debit N x i s (am.tmod 700) hlx.1 ox
      rw [B] at C6
      dsimp only at C6
      have C8 := fun N => fs_trustlines_Check N x.lines x.accts
      rw [right_chk hRx] at C8
      have I2 : hasL g.lines i s = true → ∀ N, FS PP N n_trustlines_Issued [sL x.lines, aS s] [] (aI (issued g.lines s + (am.tmod 700))) [] := fun h1 N => by
        have := fsg_Issued N x.lines s hlx.2 (right_bals hRx)
        have e2 : issued x.lines s = issued g.lines s + (am.tmod 700) := by
          rw [ex, A.iss, if_pos ⟨rfl, O h1⟩]
        rw [e2] at this; exact this
      have C9 : hasL g.lines i s = true → ∀ N, FS PP N n_trustlines_Held [eG x, aI i, aS s] [] (aI (heldA g i s + (am.tmod 700))) [] := fun h1 N => by
        have := fsg_Held N x i s
        have e2 : heldA x i s = heldA g i s + (am.tmod 700) := by
          rw [(held_look hRx i s).1, hl2.1, ex, A.look, if_pos ⟨⟨rfl, rfl⟩, .inr (O h1).2⟩]
        rw [e2] at this; exact this
      by_cases hhd : (am.tmod 700) ≤ heldA g i s
      · have hf := F2.2 hhd
        rcases hq with h | h | h
        · exact keep_yy_own hnew hled hrg has C1 C2 C3 C4 C5 I1 (by omega) (by omega) hib hbd ham ht C6 L7 C8 I2 C9 hf hrm hhd h (I3 hf)
        · exact keep_yy_iss hnew hled hrg has C1 C2 C3 C4 C5 I1 (by omega) (by omega) hib hbd ham ht C6 L7 C8 I2 C9 hf hrm hhd h (I3 hf)
        · exact keep_yy_nat hnew hled hrg has C1 C2 C3 C4 C5 I1 (by omega) (by omega) hib hbd ham ht C6 L7 C8 I2 C9 hf hrm hhd h (I3 hf)
      · have hf : ¬ f = 0 := fun h => hhd (F2.1 h)
        rcases hq with h | h | h
        · exact keep_yn_own hnew hled hrg has C1 C2 C3 C4 C5 I1 (by omega) (by omega) hib hbd ham ht C6 L7 C8 I2 C9 hf hrm hhd h
        · exact keep_yn_iss hnew hled hrg has C1 C2 C3 C4 C5 I1 (by omega) (by omega) hib hbd ham ht C6 L7 C8 I2 C9 hf hrm hhd h
        · exact keep_yn_nat hnew hled hrg has C1 C2 C3 C4 C5 I1 (by omega) (by omega) hib hbd ham ht C6 L7 C8 I2 C9 hf hrm hhd h
    · have he : ¬ e = 0 := fun h => hrm (F1.1 h)
      by_cases hhd : (am.tmod 700) ≤ heldA g i s
      · have hf := F2.2 hhd
        rcases hq with h | h | h
        · exact keep_ny_own hnew hled hrg has C1 C2 C3 C4 C5 I1 (by omega) (by omega) hib hbd ham ht he hf hrm hhd h (I3 hf)
        · exact keep_ny_iss hnew hled hrg has C1 C2 C3 C4 C5 I1 (by omega) (by omega) hib hbd ham ht he hf hrm hhd h (I3 hf)
        · exact keep_ny_nat hnew hled hrg has C1 C2 C3 C4 C5 I1 (by omega) (by omega) hib hbd ham ht he hf hrm hhd h (I3 hf)
      · have hf : ¬ f = 0 := fun h => hhd (F2.1 h)
        rcases hq with h | h | h
        · exact keep_nn_own hnew hled hrg has C1 C2 C3 C4 C5 I1 (by omega) (by omega) hib hbd ham ht he hf hrm hhd h
        · exact keep_nn_iss hnew hled hrg has C1 C2 C3 C4 C5 I1 (by omega) (by omega) hib hbd ham ht he hf hrm hhd h
        · exact keep_nn_nat hnew hled hrg has C1 C2 C3 C4 C5 I1 (by omega) (by omega) hib hbd ham ht he hf hrm hhd h
  · have he : ¬ e = 0 := fun h => hq (F1.1 h).2
    have hf : ¬ f = 0 := fun h => hq (F2.1 h).2
    simp only [not_or, Bool.not_eq_true] at hq
    exact keep_no hnew hled hrg has C1 C2 C3 C4 C5 I1 (by omega) (by omega) hib hbd ham ht he hf hq.1 hq.2.1 hq.2.2
end Go.Proofs.Ytneoeegpceompaa.AM
