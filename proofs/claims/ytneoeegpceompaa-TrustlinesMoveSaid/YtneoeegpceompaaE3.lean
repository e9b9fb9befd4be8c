/-
The walk of the law TrustlinesRoom.
-/
import Derived.Test.YtneoeegpceompaaG5
import Derived.Test.YtneoeegpceompaaE1
set_option linter.unusedVariables false
set_option linter.unusedSimpArgs false
namespace Go.Proofs.Ytneoeegpceompaa.AM
open Go Go.Proofs Go.Proofs.Ytneoeegpceompaa.Pl

abbrev gS (b : Int) : Ledg := ⟨0, [⟨1, 0, 0⟩, ⟨2, 0, 0⟩], [⟨2, usd, b, 4⟩], [], 0, 0, 0⟩
theorem sane1 : creditF (gS 0) 2 usd 5 = (zeroG, 70) := by decide +kernel
theorem sane2 : creditF (gS 0) 2 usd 4 = (gS 4, 0) := by decide +kernel
theorem sane3 : heldA (gS 4) 2 usd = 4 := by decide +kernel
theorem sane4 : roomA (gS 0) 2 usd = 4 := by decide +kernel
theorem sane5 : issued (gS 4).lines usd = 4 := by decide +kernel

theorem fs_law37_sane (N : Nat) : FS PP N n_law37_sane [] [] (aB true) [] := by
  refine i_law37_sane.pure (by simp) fun D _ => ?_
  have h1 := fun N => fs_trustlines_Credit N 0 [⟨1, 0, 0⟩, ⟨2, 0, 0⟩] [⟨2, usd, 0, 4⟩] [] 0 0 0 2 usd.code usd.issuer 5 (by simp) (by simp)
  have h2 := fun N => fs_trustlines_Credit N 0 [⟨1, 0, 0⟩, ⟨2, 0, 0⟩] [⟨2, usd, 0, 4⟩] [] 0 0 0 2 usd.code usd.issuer 4 (by simp) (by simp)
  have h3 := fun N => fs_trustlines_Held N 0 [⟨1, 0, 0⟩, ⟨2, 0, 0⟩] [⟨2, usd, 4, 4⟩] [] 0 0 0 2 usd.code usd.issuer
  have h4 := fun N => fs_trustlines_Room N 0 [⟨1, 0, 0⟩, ⟨2, 0, 0⟩] [⟨2, usd, 0, 4⟩] [] 0 0 0 2 usd.code usd.issuer
  have h5 := fun N => fs_trustlines_Issued N [⟨2, usd, 4, 4⟩] usd.code usd.issuer (by simp) (by simp)
  have s1 := sane1
  have s2 := sane2
  have s3 := sane3
  have s4 := sane4
  have s5 := sane5
  simp only [gS] at s1 s2 s3 s4 s5
  rw [show (⟨usd.code, usd.issuer⟩ : Asset) = usd from rfl] at h1 h2 h3 h4 h5
  rw [s1] at h1
  rw [s2] at h2
  rw [s3] at h3
  rw [s4] at h4
  rw [s5] at h5
  repeat' ((conv => whnf); (first | ((with_reducible refine Cl.id ?_); (first | refine Y.pu (fs_mk_Usd _) ?_ | refine Y.pu (h3 _) ?_ | refine Y.pu (h5 _) ?_ | (apply Y.fz2w (h1 _); exact Y.vt; exact Y.lk; exact Y.lk; exact Y.ne) | (apply Y.fz2w (h2 _); exact Y.vt; exact Y.lk; exact Y.lk; exact Y.ne) | (apply Y.fz2w (h4 _); exact Y.vt; exact Y.lk; exact Y.lk; exact Y.ne) | fail)) | refine Y.st ?_ | refine Tw.mk (fun _ => ?_) (fun _ => ?_) | fail))
  all_goals (exact Rt.bool rfl)
end Go.Proofs.Ytneoeegpceompaa.AM
