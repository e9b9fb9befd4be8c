/-
The walk, part 17: the source of ledgers, all of it.
-/
import Derived.Test.YtneoeegpceompaaB8
import Derived.Test.YtneoeegpceompaaB9
set_option linter.unusedVariables false
set_option linter.unusedSimpArgs false
namespace Go.Proofs.Ytneoeegpceompaa.AM
open Go Go.Proofs Go.Proofs.Ytneoeegpceompaa.Pl

def dLedger (ts : List Int) (a : Int) : Ledg × Int :=
  let x1 := dN ts a 5
  let x2 := dN ts x1.2 50
  let x3 := dN ts x2.2 1000
  let n := dRange ts x3.2 1 5
  let la := gAcc ts n.2 n.1.toNat
  let ll := gLines ts la.2 n.1.toNat
  let k := dN ts ll.2 6
  gOff ts n.1 (⟨x1.1, la.1, ll.1, [], 1, x2.1, IntKind.u64.wrap x3.1⟩, k.2) k.1.toNat

set_option maxHeartbeats 4000000 in
theorem fs_Src_Ledger (N b : Nat) (ts : List Int) (a : Int) (hs : SrcOk ts a) :
    FS PP N n_Src_Ledger [.pt b 2 0 0] [(b, bS ts a)] (eG (dLedger ts a).1) [(b, some (bS ts (dLedger ts a).2))] := by
  refine i_Src_Ledger.upd (by simp) fun D hN hb => ?_
  unfold dLedger
  dsimp only
  have hS1 := fun N => fs_Src_N N b ts a 5 hs (by omega)
  have hv1 := dN_ok (n := 5) hs (by omega)
  generalize dN ts a 5 = v1 at hS1 hv1 ⊢
  have hS2 := fun N => fs_Src_N N b ts v1.2 50 hv1.2 (by omega)
  have hv2 := dN_ok (n := 50) hv1.2 (by omega)
  generalize dN ts v1.2 50 = v2 at hS2 hv2 ⊢
  have hS3 := fun N => fs_Src_N N b ts v2.2 1000 hv2.2 (by omega)
  have hv3 := dN_ok (n := 1000) hv2.2 (by omega)
  generalize dN ts v2.2 1000 = v3 at hS3 hv3 ⊢
  have hS4 := fun N => fs_Src_Range N b ts v3.2 1 5 hv3.2 (by omega)
  have hv4 := dRange_ok (lo := 1) (hi := 5) hv3.2 (by omega)
  generalize dRange ts v3.2 1 5 = v4 at hS4 hv4 ⊢
  obtain ⟨q, a4⟩ := v4
  dsimp only at hS4 hv4 ⊢
  obtain ⟨n, rfl⟩ : ∃ n : Nat, q = (n : Int) + 1 := ⟨(q - 1).toNat, by omega⟩
  have hn : n < 5 := by omega
  have en : ((n : Int) + 1).toNat = n + 1 := by omega
  rw [en]
  have hla := gAcc_ok hv4.2 (n + 1)
  have hll := gLines_ok hla.1 (n + 1)
  have hS7 := fun N => fs_Src_N N b ts (gLines ts (gAcc ts a4 (n + 1)).2 (n + 1)).2 6 hll.1 (by omega)
  have hv7 := dN_ok (n := 6) hll.1 (by omega)
  generalize dN ts (gLines ts (gAcc ts a4 (n + 1)).2 (n + 1)).2 6 = v7 at hS7 hv7 ⊢
  obtain ⟨q7, a7⟩ := v7
  dsimp only at hS7 hv7 ⊢
  obtain ⟨K, rfl⟩ : ∃ K : Nat, q7 = (K : Int) := ⟨q7.toNat, by omega⟩
  have hK : K < 6 := by omega
  have eK : (K : Int).toNat = K := by omega
  rw [eK]
  repeat' ((conv => whnf); (first | ((with_reducible refine Cl.id ?_); (first | (refine Y.upd (hS1 _) ?_ ?_; exact Y.lk) | (refine Y.upd (hS2 _) ?_ ?_; exact Y.lk) | (refine Y.upd (hS3 _) ?_ ?_; exact Y.lk) | (refine Y.upd (hS4 _) ?_ ?_; exact Y.lk) | fail)) | refine Y.st ?_ | refine Tw.mk (fun _ => ?_) (fun _ => ?_) | fail))
  (refine Lp.gox [0, 2, 3, 4, 5] (fun d' => [b]) (nm D 9) [] [nm D 9, nm D 0] ?_; repeat' ((conv => whnf); (first | refine Y.st ?_ | intro d' hd' | fail)))
  refine Src_Ledger_acc b ts n v1.1 v2.1 (IntKind.u64.wrap v3.1) a4 hv4.2 hn D hb (fun d hd B => ?_) d' (by omega)
  repeat' ((conv => whnf); (first | refine Y.st ?_ | refine Tw.mk (fun _ => ?_) (fun _ => ?_) | fail))
  (refine Lp.gox [0, 2, 3, 4, 6] (fun d2 => [b, nm d2 0]) (nm d 1) [nm d 0] [nm d 1, nm d 2] ?_; repeat' ((conv => whnf); (first | refine Y.st ?_ | intro d2 hd2 | fail)))
  refine Src_Ledger_lines b ts (n + 1) (n + 1) v1.1 v2.1 (IntKind.u64.wrap v3.1) (gAcc ts a4 (n + 1)).1 (gAcc ts a4 (n + 1)).2 hla.1 (by omega) D hb (fun d3 hd3 B3 => ?_) d2 (by omega)
  generalize gLines ts (gAcc ts a4 (n + 1)).2 (n + 1) = ll at hll hS7 hv7 ⊢
  generalize (gAcc ts a4 (n + 1)).1 = la at hla ⊢
  clear hd2 hd' d2 d' hd
  have hlen : la.length = n + 1 := hla.2
  have hoff : ∀ Q' : Post, _ → _ := fun Q' h => Src_Ledger_off (Q := Q') b ts ((n : Int) + 1) K (⟨v1.1, la, ll.1, [], 1, v2.1, IntKind.u64.wrap v3.1⟩, a7) hv7.2 (by omega) hK D hb h
  generalize gOff ts ((n : Int) + 1) (⟨v1.1, la, ll.1, [], 1, v2.1, IntKind.u64.wrap v3.1⟩, a7) K = res at hoff ⊢
  cases he : ll.1.isEmpty
  · simp only [lin_f he]
    repeat' ((conv => whnf); (first | ((with_reducible refine Cl.id ?_); (first | (refine Y.upd (hS7 _) ?_ ?_; exact Y.lk) | fail)) | refine Y.st ?_ | refine Tw.mk (fun _ => ?_) (fun _ => ?_) | fail))
    (refine Lp.gox [0, 2, 3, 4, 10] (fun d4 => [b, nm d4 0, nm d4 1]) (nm d3 2) [nm d3 0, nm d3 1] [nm d3 2, nm d3 3] ?_; repeat' ((conv => whnf); (first | refine Y.st ?_ | intro d4 hd4 | fail)))
    refine Lp.vw2 (c := nm d4 0) (c2 := nm d4 1) (box := nm d4 2) (kb := bG [aI v1.1, .row (nm d4 0) 3 0 (n + 1), .row (nm d4 1) 5 0 ll.1.length, nl, aI 1, aI v2.1, aU (IntKind.u64.wrap v3.1)]) (kc := rA la) (kc2 := rL ll.1) (r' := cG v1.1 la ll.1 [] 1 v2.1 (IntKind.u64.wrap v3.1)) [aI v1.1, .row (nm d4 0) 3 0 (n + 1), .row (nm d4 1) 5 0 ll.1.length, nl, aI 1, aI v2.1, aU (IntKind.u64.wrap v3.1)] ?hv ?hb ?he ?hc ?hc2 (nm_ne (by decide)) (nm_ne (by decide)) ?_
    case hv => (exact Y.vt)
    case hb => (exact Y.lk)
    case he => rfl
    case hc => (exact Y.lk)
    case hc2 => (exact Y.lk)
    (refine Lp.gox [0, 2, 3, 4, 10] (fun d5 => [b]) (nm d4 2) [] [nm d4 2, nm d4 3] ?_; repeat' ((conv => whnf); (first | refine Y.st ?_ | intro d5 hd5 | fail)))
    refine hoff _ (fun d6 hd6 B6 => ?_) d5 (by omega)
    unfold offS
    repeat' ((conv => whnf); (first | refine Y.st ?_ | refine Tw.mk (fun _ => ?_) (fun _ => ?_) | fail))
    refine Rt.upd rfl (.upd1 ?_ (by simp))
    (exact Y.lk)
  · have hnil : ll.1 = [] := by simpa using he
    rw [hnil] at hoff
    simp only [lin_t he]
    repeat' ((conv => whnf); (first | ((with_reducible refine Cl.id ?_); (first | (refine Y.upd (hS7 _) ?_ ?_; exact Y.lk) | fail)) | refine Y.st ?_ | refine Tw.mk (fun _ => ?_) (fun _ => ?_) | fail))
    (refine Lp.gox [0, 2, 3, 4, 10] (fun d4 => [b, nm d4 0]) (nm d3 1) [nm d3 0] [nm d3 1, nm d3 2] ?_; repeat' ((conv => whnf); (first | refine Y.st ?_ | intro d4 hd4 | fail)))
    refine Lp.vw1 (c := nm d4 0) (box := nm d4 1) (kb := bG [aI v1.1, .row (nm d4 0) 3 0 (n + 1), nl, nl, aI 1, aI v2.1, aU (IntKind.u64.wrap v3.1)]) (kc := rA la) (r' := cG v1.1 la [] [] 1 v2.1 (IntKind.u64.wrap v3.1)) [aI v1.1, .row (nm d4 0) 3 0 (n + 1), nl, nl, aI 1, aI v2.1, aU (IntKind.u64.wrap v3.1)] ?hv ?hb ?he ?hc (nm_ne (by decide)) ?_
    case hv => (exact Y.vt)
    case hb => (exact Y.lk)
    case he => rfl
    case hc => (exact Y.lk)
    (refine Lp.gox [0, 2, 3, 4, 10] (fun d5 => [b]) (nm d4 1) [] [nm d4 1, nm d4 2] ?_; repeat' ((conv => whnf); (first | refine Y.st ?_ | intro d5 hd5 | fail)))
    refine hoff _ (fun d6 hd6 B6 => ?_) d5 (by omega)
    unfold offS
    repeat' ((conv => whnf); (first | refine Y.st ?_ | refine Tw.mk (fun _ => ?_) (fun _ => ?_) | fail))
    refine Rt.upd rfl (.upd1 ?_ (by simp))
    (exact Y.lk)
end Go.Proofs.Ytneoeegpceompaa.AM
