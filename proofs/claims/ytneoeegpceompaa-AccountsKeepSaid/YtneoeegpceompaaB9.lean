/-
The walk, part 16: the source of ledgers: the offers.
-/
import Derived.Test.YtneoeegpceompaaB5
import Derived.Test.YtneoeegpceompaaB6
set_option linter.unusedVariables false
set_option linter.unusedSimpArgs false
namespace Go.Proofs.Ytneoeegpceompaa.AM
open Go Go.Proofs Go.Proofs.Ytneoeegpceompaa.Pl

def offStep (ts : List Int) (n : Int) (s : Ledg × Int) : Ledg × Int :=
  let v1 := dRange ts s.2 1 n
  let v2 := dAsset ts v1.2
  let v3 := dAsset ts v2.2
  let v4 := dPick ts v3.2 [1, 10, 90]
  let v5 := dPick ts v4.2 [1, 2, 3, 7]
  let v6 := dPick ts v5.2 [1, 2, 3, 5]
  (if (addO s.1 v1.1 v2.1 v3.1 v4.1 v5.1 v6.1).2.2 = 0 then (addO s.1 v1.1 v2.1 v3.1 v4.1 v5.1 v6.1).1 else s.1, v6.2)
def gOff (ts : List Int) (n : Int) (s : Ledg × Int) : Nat → Ledg × Int
  | 0 => s
  | k + 1 => offStep ts n (gOff ts n s k)
theorem offStep_ok {ts : List Int} {n : Int} {s : Ledg × Int} (hs : SrcOk ts s.2) (hn : 1 ≤ n) : SrcOk ts (offStep ts n s).2 := by
  unfold offStep
  exact (dPick_ok (dPick_ok (dPick_ok (dAsset_ok (dAsset_ok (dRange_ok hs hn).2).2).2 (by decide)).2 (by decide)).2 (by decide)).2
theorem gOff_ok {ts : List Int} {n : Int} {s : Ledg × Int} (hs : SrcOk ts s.2) (hn : 1 ≤ n) : ∀ k, SrcOk ts (gOff ts n s k).2
  | 0 => hs
  | k + 1 => offStep_ok (gOff_ok hs hn k) hn

def offS (b : Nat) (ts : List Int) (n j : Int) (s : Ledg × Int) (d : Nat) : St := ⟨[(0, .pt b 2 0 0), (2, .pt (nm d 1) 7 0 0), (3, .pt (nm d 0) 7 0 0), (4, aI n), (10, aI j)], [(nm d 1, zG), (nm d 0, bG (cG s.1.number s.1.accts s.1.lines s.1.offers s.1.next s.1.fees s.1.link)), (b, bS ts s.2)], d, 2⟩

theorem Src_Ledger_off {Q : Post} (b : Nat) (ts : List Int) (n : Int) (K : Nat) (s : Ledg × Int) (hs : SrcOk ts s.2) (hn : 1 ≤ n ∧ n ≤ 5) (hK : K < 6) (D : Nat) (hb : ¬ Gar D b)
    (hQ : ∀ d, D ≤ d → ∀ B, Q (.exit 6) { offS b ts n 0 (gOff ts n s K) d with T := (82, B) :: (81, aI 0) :: (offS b ts n 0 (gOff ts n s K) d).T, nx := 4 }) :
    ∀ d, D ≤ d → Lp PP 111 l_Src_Ledger_3 (offS b ts n ((K : Int) - (0 : Nat)) s d) Q := by
  refine l_nat D K (fun _ => True) (fun k d => offS b ts n ((K : Int) - k) (gOff ts n s k) d) (fun k hk _ d hd ih => ?_) trivial
  have hg := gOff_ok hs hn.1 k
  by_cases hlt : k < K
  · have e : gOff ts n s (k + 1) = offStep ts n (gOff ts n s k) := rfl
    have ej : (K : Int) - (k + 1 : Nat) = K - k - 1 := by omega
    have ih := ih hlt trivial
    rw [e, ej] at ih
    clear e ej
    have hj : 1 ≤ (K : Int) - k ∧ (K : Int) - k ≤ 6 := by omega
    generalize (K : Int) - k = j at hj ih ⊢
    generalize gOff ts n s k = g at hg ih ⊢
    unfold offStep at ih
    dsimp only at ih
    have hS1 := fun N => fs_Src_Range N b ts g.2 1 n hg (by omega)
    have hv1 := dRange_ok (lo := 1) (hi := n) hg (by omega)
    generalize dRange ts g.2 1 n = v1 at hS1 hv1 ih
    have hS2 := fun N => fs_Src_Asset N b ts v1.2 hv1.2
    have hv2 := dAsset_ok hv1.2
    generalize dAsset ts v1.2 = v2 at hS2 hv2 ih
    have hS3 := fun N => fs_Src_Asset N b ts v2.2 hv2.2
    have hv3 := dAsset_ok hv2.2
    generalize dAsset ts v2.2 = v3 at hS3 hv3 ih
    have hS4 := fun N => fs_Src_Pick N b ts [1, 10, 90] v3.2 hv3.2 (by decide)
    have hv4 := dPick_ok (l := [1, 10, 90]) hv3.2 (by decide)
    generalize dPick ts v3.2 [1, 10, 90] = v4 at hS4 hv4 ih
    have hS5 := fun N => fs_Src_Pick N b ts [1, 2, 3, 7] v4.2 hv4.2 (by decide)
    have hv5 := dPick_ok (l := [1, 2, 3, 7]) hv4.2 (by decide)
    generalize dPick ts v4.2 [1, 2, 3, 7] = v5 at hS5 hv5 ih
    have hS6 := fun N => fs_Src_Pick N b ts [1, 2, 3, 5] v5.2 hv5.2 (by decide)
    have hv6 := dPick_ok (l := [1, 2, 3, 5]) hv5.2 (by decide)
    generalize dPick ts v5.2 [1, 2, 3, 5] = v6 at hS6 hv6 ih
    have hA := fun N => fs_r38_Add N g.1.number g.1.accts g.1.lines g.1.offers g.1.next g.1.fees g.1.link v1.1 v2.1.code v2.1.issuer v3.1.code v3.1.issuer v4.1 v5.1 v6.1
    have er : addO ⟨g.1.number, g.1.accts, g.1.lines, g.1.offers, g.1.next, g.1.fees, g.1.link⟩ v1.1 ⟨v2.1.code, v2.1.issuer⟩ ⟨v3.1.code, v3.1.issuer⟩ v4.1 v5.1 v6.1 = addO g.1 v1.1 v2.1 v3.1 v4.1 v5.1 v6.1 := rfl
    simp only [er] at hA
    clear er
    generalize addO g.1 v1.1 v2.1 v3.1 v4.1 v5.1 v6.1 = r at hA ih
    unfold offS at ih ⊢
    by_cases h0 : r.2.2 = 0
    · rw [if_pos h0] at ih
      repeat' ((conv => whnf); (first | ((with_reducible refine Cl.id ?_); (first | refine Y.pu (hA _) ?_ | (refine Y.upd (hS1 _) ?_ ?_; exact Y.lk) | (refine Y.upd (hS2 _) ?_ ?_; exact Y.lk) | (refine Y.upd (hS3 _) ?_ ?_; exact Y.lk) | (apply Y.fz1w (hS4 _); exact Y.vt; exact Y.lk; exact Y.lk; exact Y.ne) | (apply Y.fz1w (hS5 _); exact Y.vt; exact Y.lk; exact Y.lk; exact Y.ne) | (apply Y.fz1w (hS6 _); exact Y.vt; exact Y.lk; exact Y.lk; exact Y.ne) | fail)) | refine Y.st ?_ | refine Tw.mk (fun _ => ?_) (fun _ => ?_) | fail))
      (refine Lp.gox [0, 2, 3, 4, 10] (fun d2 => [b]) (nm d 0) [] [nm d 0, nm d 1] ?_; repeat' ((conv => whnf); (first | refine Y.st ?_ | intro d2 hd2 | fail)))
      exact ih d2 (by omega)
    · rw [if_neg h0] at ih
      repeat' ((conv => whnf); (first | ((with_reducible refine Cl.id ?_); (first | refine Y.pu (hA _) ?_ | (refine Y.upd (hS1 _) ?_ ?_; exact Y.lk) | (refine Y.upd (hS2 _) ?_ ?_; exact Y.lk) | (refine Y.upd (hS3 _) ?_ ?_; exact Y.lk) | (apply Y.fz1w (hS4 _); exact Y.vt; exact Y.lk; exact Y.lk; exact Y.ne) | (apply Y.fz1w (hS5 _); exact Y.vt; exact Y.lk; exact Y.lk; exact Y.ne) | (apply Y.fz1w (hS6 _); exact Y.vt; exact Y.lk; exact Y.lk; exact Y.ne) | fail)) | refine Y.st ?_ | refine Tw.mk (fun _ => ?_) (fun _ => ?_) | fail))
      (refine Lp.gox [0, 2, 3, 4, 10] (fun d2 => [b]) (nm d 0) [] [nm d 0, nm d 1] ?_; repeat' ((conv => whnf); (first | refine Y.st ?_ | intro d2 hd2 | fail)))
      exact ih d2 (by omega)
  · obtain rfl : k = K := by omega
    have ej : (k : Int) - k = 0 := by omega
    rw [ej]
    have hQ := hQ d hd
    unfold offS at hQ ⊢
    repeat' ((conv => whnf); (first | refine Y.st ?_ | refine Tw.mk (fun _ => ?_) (fun _ => ?_) | fail))
    exact hQ _
end Go.Proofs.Ytneoeegpceompaa.AM
