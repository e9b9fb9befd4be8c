/-
The walk of the law TrustlinesRoom.
-/
import Derived.Test.YtneoeegpceompaaE3
import Derived.Test.YtneoeegpceompaaP3
import Derived.Test.YtneoeegpceompaaB10
namespace Go.Proofs.Ytneoeegpceompaa.AM
open Go Go.Proofs Go.Proofs.Ytneoeegpceompaa.Pl

theorem fs_law37_TrustlinesRoom (N : Nat) (t : List Int) : FS PP N n_law37_TrustlinesRoom [sI t] [] (aB true) [] := by
  refine i_law37_TrustlinesRoom.pure (by simp) fun D _ => ?_
  have hs0 : SrcOk (t.take 800) 0 := ⟨by simp; omega, by omega, by omega⟩
  have hnew := fun N => fs_mk_New N t
  generalize t.take 800 = ts at hs0 hnew
  have hled := fun N b => fs_Src_Ledger N b ts 0 hs0
  have hr := dLedger_right hs0
  generalize dLedger ts 0 = g at hled hr
  obtain ⟨n, hn, hlen, hA, hhas, hget, hL, hdr, hpw, hof⟩ := hr
  repeat' ((conv => whnf); (first | ((with_reducible refine Cl.id ?_); (first | refine Y.new (hnew _) ?_ | refine Y.upd (hled _ _) ?_ | fail)) | refine Y.st ?_ | refine Tw.mk (fun _ => ?_) (fun _ => ?_) | fail))
  have hR : rightG g.1 = true := by simp [rightG, hL]
  have hlt : g.1.lines.length ≤ 60 := (chkL_len hL).1
  (refine Lp.go [4, 15, 16, 17] [] [nm D 6] ?_; repeat' ((conv => whnf); (first | refine Y.st ?_ | intro d' hd' | fail)))
  refine l_nat D g.1.lines.length (fun _ => True) (fun k d => ⟨[(4, .pt (nm d 0) 7 0 0), (15, sL g.1.lines), (16, aI g.1.lines.length), (17, aI k)], [(nm d 0, ⟨true, t_Ledger, 7, [cG g.1.number g.1.accts g.1.lines g.1.offers g.1.next g.1.fees g.1.link], some 1⟩)], d, 1⟩) (fun k hk _ d hd ih => ?_) trivial d' (by omega)
  by_cases hk2 : k < g.1.lines.length
  · obtain ⟨x, hx⟩ : ∃ x, g.1.lines[k]? = some x := ⟨g.1.lines[k], by simp [hk2]⟩
    have ih := ih hk2 trivial
    have hm := List.mem_of_getElem? hx
    have hf := (findL_self hpw hm).1
    have hl := chkL_line hL hm
    have e1 : heldA g.1 x.acc ⟨x.asset.code, x.asset.issuer⟩ = x.bal := by
      show heldA g.1 x.acc x.asset = x.bal
      unfold heldA; simp [hR, hl.1, hl.2.1, hl.2.2.1, hl.2.2.2.1, hf]
    have e2 : roomA g.1 x.acc ⟨x.asset.code, x.asset.issuer⟩ = x.lim - x.bal := by
      show roomA g.1 x.acc x.asset = x.lim - x.bal
      unfold roomA; simp [hR, hl.1, hl.2.1, hl.2.2.1, hl.2.2.2.1, hf]
    have c1 := fun N => fs_trustlines_Held N g.1.number g.1.accts g.1.lines g.1.offers g.1.next g.1.fees g.1.link x.acc x.asset.code x.asset.issuer
    have c2 := fun N => fs_trustlines_Room N g.1.number g.1.accts g.1.lines g.1.offers g.1.next g.1.fees g.1.link x.acc x.asset.code x.asset.issuer
    rw [e1] at c1
    rw [e2] at c2
    repeat' ((conv => whnf); (first | ((with_reducible refine Cl.id ?_); (first | ((with_reducible apply Cl.pure); case hS => first | exact c1 _ | exact c2 _ | fail) | fail)) | refine Y.st ?_ | refine Tw.mk (fun _ => ?_) (fun _ => ?_) | fail))
    all_goals ((refine Lp.go [4, 15, 16, 17] [] [nm d 0] ?_; repeat' ((conv => whnf); (first | refine Y.st ?_ | intro d2 hd2 | fail))); exact ih d2 (by omega))
  · repeat' ((conv => whnf); (first | refine Y.st ?_ | refine Tw.mk (fun _ => ?_) (fun _ => ?_) | fail))
    (refine Lp.go [4, 39, 40, 41] [] [nm d 0] ?_; repeat' ((conv => whnf); (first | refine Y.st ?_ | intro d3 hd3 | fail)))
    refine l_nat D g.1.accts.length (fun _ => True) (fun k d => ⟨[(4, .pt (nm d 0) 7 0 0), (39, sA g.1.accts), (40, aI g.1.accts.length), (41, aI k)], [(nm d 0, ⟨true, t_Ledger, 7, [cG g.1.number g.1.accts g.1.lines g.1.offers g.1.next g.1.fees g.1.link], some 1⟩)], d, 1⟩) (fun k hk _ d hd ih => ?_) trivial d3 (by omega)
    by_cases hk2 : k < g.1.accts.length
    · obtain ⟨x, hx⟩ : ∃ x, g.1.accts[k]? = some x := ⟨g.1.accts[k], by simp [hk2]⟩
      have ih := ih hk2 trivial
      have hf := findA_self (fun j x h => (hget j x h).1) hx
      have hb := hget k x hx
      have o1 : assetOk ⟨⟨#[]⟩, 0⟩ = true := by decide
      have o2 : nativeA ⟨⟨#[]⟩, 0⟩ = true := by decide
      have e1 : heldA g.1 x.id ⟨⟨#[]⟩, 0⟩ = x.bal := by unfold heldA; simp [hR, hf.1, hf.2, o1, o2]
      have e2 : roomA g.1 x.id ⟨⟨#[]⟩, 0⟩ = 1000000000000 - x.bal := by unfold roomA; simp [hR, hf.1, hf.2, o1, o2]
      have c1 := fun N => fs_trustlines_Held N g.1.number g.1.accts g.1.lines g.1.offers g.1.next g.1.fees g.1.link x.id ⟨#[]⟩ 0
      have c2 := fun N => fs_trustlines_Room N g.1.number g.1.accts g.1.lines g.1.offers g.1.next g.1.fees g.1.link x.id ⟨#[]⟩ 0
      rw [e1] at c1
      rw [e2] at c2
      repeat' ((conv => whnf); (first | ((with_reducible refine Cl.id ?_); (first | ((with_reducible apply Cl.pure); case hS => first | exact c1 _ | exact c2 _ | fail) | fail)) | refine Y.st ?_ | refine Tw.mk (fun _ => ?_) (fun _ => ?_) | fail))
      all_goals ((refine Lp.go [4, 39, 40, 41] [] [nm d 0] ?_; repeat' ((conv => whnf); (first | refine Y.st ?_ | intro d2 hd2 | fail))); exact ih d2 (by omega))
    · have u1 : roomA g.1 1 usd = 1000000000000 := by
        have := hhas 1 (by omega)
        unfold roomA; simp [hR, this, show assetOk usd = true by decide, show nativeA usd = false by decide, show usd.issuer = 1 from rfl]
      have u2 : roomA g.1 999 usd = 0 := by
        have h9 : hasA g.1.accts 999 = false := by
          cases h : hasA g.1.accts 999 with
          | false => rfl
          | true =>
            obtain ⟨y, y1, y2, _⟩ := findA_yes (hasA_place h)
            have := (hget _ _ y1).1
            have := (List.getElem?_eq_some_iff.1 y1).1
            omega
        unfold roomA; simp [h9]
      have c1 := fun N => fs_trustlines_Room N g.1.number g.1.accts g.1.lines g.1.offers g.1.next g.1.fees g.1.link 1 usd.code usd.issuer
      have c2 := fun N => fs_trustlines_Room N g.1.number g.1.accts g.1.lines g.1.offers g.1.next g.1.fees g.1.link 999 usd.code usd.issuer
      rw [show roomA ⟨g.1.number, g.1.accts, g.1.lines, g.1.offers, g.1.next, g.1.fees, g.1.link⟩ 1 ⟨usd.code, usd.issuer⟩ = 1000000000000 from u1] at c1
      rw [show roomA ⟨g.1.number, g.1.accts, g.1.lines, g.1.offers, g.1.next, g.1.fees, g.1.link⟩ 999 ⟨usd.code, usd.issuer⟩ = 0 from u2] at c2
      repeat' ((conv => whnf); (first | ((with_reducible refine Cl.id ?_); (first | ((with_reducible apply Cl.pure); case hS => first | exact c1 _ | exact c2 _ | exact fs_mk_Usd _ | exact fs_law37_sane _ | fail) | fail)) | refine Y.st ?_ | refine Tw.mk (fun _ => ?_) (fun _ => ?_) | fail))
      all_goals first | (exact Rt.bool rfl)
end Go.Proofs.Ytneoeegpceompaa.AM
