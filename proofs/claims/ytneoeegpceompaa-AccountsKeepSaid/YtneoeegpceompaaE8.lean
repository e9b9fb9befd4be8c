/-
The walk of the law AccountsKeep.
-/
import Derived.Test.YtneoeegpceompaaE7
import Derived.Test.YtneoeegpceompaaP5
set_option linter.unusedVariables false
set_option linter.unusedSimpArgs false
namespace Go.Proofs.Ytneoeegpceompaa.AM
open Go Go.Proofs Go.Proofs.Ytneoeegpceompaa.Pl

def s0 : Asset := ⟨⟨#[]⟩, 0⟩
theorem s0_ok : assetOk s0 = true ∧ nativeA s0 = true := by decide
def oneG (l : List Acct) : Ledg := ⟨0, l, [], [], 0, 0, 0⟩
theorem oneG_right {l : List Acct} (h : chkA l = 0) : rightG (oneG l) = true := by
  have : chkL [] l = 0 := chkL_ok h (by simp) (fun k hk => by simp at hk)
  simp [rightG, oneG, this]
theorem one_add (l : List Acct) (i n : Int) : addF (oneG l) i s0 n = oneG (setBal l i n) := by
  unfold addF; rw [if_pos s0_ok.2]; rfl
/-- A balance changed. -/
structure BalOk (l : List Acct) (i n : Int) : Prop where
  chk : chkA (setBal l i n) = 0
  has : ∀ j, hasA (setBal l i n) j = hasA l j
  bal : ∀ j, hasA l j = true → (findA (setBal l i n) j).bal = if j = i then (findA l i).bal + n else (findA l j).bal
  back : setBal (setBal l i n) i (0 - n) = l
  total : totalA (setBal l i n) = totalA l + n
  len : (setBal l i n).length = l.length
theorem bal_ok {l : List Acct} {i n : Int} (h : chkA l = 0) (hi : hasA l i = true) (hb : 0 ≤ (findA l i).bal + n ∧ (findA l i).bal + n ≤ 1000000000000) : BalOk l i n := by
  have hl := look_native (g := oneG l) (i := i) hi s0_ok.1 s0_ok.2
  have A := added (g := oneG l) (i := i) (s := s0) (n := n) (oneG_right h) s0_ok.1 hi (by rw [hl]) (fun _ => by rw [hl]; show 0 ≤ (findA l i).bal + n ∧ n ≤ 1000000000000 - (findA l i).bal; omega)
  have e := one_add l i n
  have h1 := A.right
  have h2 := A.has
  have h3 := A.look
  have h4 := A.back
  have h5 := A.total
  have h6 := A.lenA
  rw [e] at h1 h2 h3 h4 h5 h6
  rw [one_add] at h4
  rw [if_pos s0_ok.2] at h5
  refine ⟨(chkL_len (right_chk h1)).2.1, h2, fun j hj => ?_, congrArg Ledg.accts h4, h5, h6⟩
  have h7 := h3 j s0
  have k1 := look_native (g := oneG (setBal l i n)) (i := j) (s := s0) (by rw [h2]; exact hj) s0_ok.1 s0_ok.2
  have k2 := look_native (g := oneG l) (i := j) (s := s0) hj s0_ok.1 s0_ok.2
  rw [k1, k2, hl] at h7
  by_cases e : j = i
  · rw [if_pos ⟨⟨e, rfl⟩, .inl s0_ok.2⟩] at h7
    rw [if_pos e]; exact congrArg Prod.fst h7
  · rw [if_neg (fun h => e h.1.1)] at h7
    rw [if_neg e]; exact congrArg Prod.fst h7
theorem take_eq {l : List Acct} {i n : Int} (h : chkA l = 0) (hi : hasA l i = true) (hn : validAmt n = true) (hb : n ≤ (findA l i).bal) : chgA l i (takeF n) = (setBal l i (0 - n), 0) := by
  have hp := hasA_place hi
  have e : takeF n (findA l i) = (⟨(findA l i).id, (findA l i).bal + (0 - n), (findA l i).seq⟩, 0) := by
    unfold takeF; rw [if_pos hn, if_neg (by omega), show (findA l i).bal - n = (findA l i).bal + (0 - n) by omega]
  unfold chgA
  rw [if_pos h, if_neg (by omega), e]; rfl
theorem take_no {l : List Acct} {i n : Int} (h : chkA l = 0) (hi : hasA l i = true) (hn : validAmt n = true) (hb : (findA l i).bal < n) : chgA l i (takeF n) = ([], 66) := by
  have hp := hasA_place hi
  have e : takeF n (findA l i) = (findA l i, 66) := by unfold takeF; rw [if_pos hn, if_pos hb]
  unfold chgA
  rw [if_pos h, if_neg (by omega), e]; rfl
theorem give_eq {l : List Acct} {i n : Int} (h : chkA l = 0) (hi : hasA l i = true) (hn : validAmt n = true) (hb : validAmt ((findA l i).bal + n) = true) : chgA l i (giveF n) = (setBal l i n, 0) := by
  have hp := hasA_place hi
  have e : giveF n (findA l i) = (⟨(findA l i).id, (findA l i).bal + n, (findA l i).seq⟩, 0) := by
    unfold giveF; rw [if_pos (by rw [hn, hb]; rfl)]
  unfold chgA
  rw [if_pos h, if_neg (by omega), e]; rfl
theorem insA_sum (l : List Acct) (x : Acct) : ((insA l x).map (·.bal)).sum = (l.map (·.bal)).sum + x.bal := by
  induction l with
  | nil => simp [insA]
  | cons a r ih =>
    simp only [insA]
    split
    · simp only [List.map_cons, List.sum_cons]; omega
    · simp only [List.map_cons, List.sum_cons, ih]; omega
theorem insA_chk {l : List Acct} {x : Acct} (h : chkA l = 0) (hx : acctOk x = true) (hl : l.length < 20) (hno : ∀ a ∈ l, a.id ≠ x.id) : chkA (insA l x) = 0 := by
  have hpr := insA_pair (pair_of h) hno
  have hln := insA_len l x
  refine chkA_ok (by omega) fun j hj a ha => ⟨?_, fun p hp hpp => ?_⟩
  · rcases mem_insA.1 (List.mem_of_getElem? ha) with rfl | hm
    · exact hx
    · exact (acctOk_iff a).2 (chkA_acct h hm)
  · have h1 := List.getElem?_eq_some_iff.1 hpp
    have h2 := List.getElem?_eq_some_iff.1 ha
    have := List.pairwise_iff_getElem.1 hpr (j - 1) j h1.1 h2.1 (by omega)
    rw [h1.2, h2.2] at this; exact this
theorem totalA_bd {l : List Acct} (hl : l.length ≤ 20) : 0 ≤ totalA l ∧ totalA l ≤ 20000000000000 := by
  unfold totalA
  split
  · rename_i h
    have := sum_le (fun a ha => (chkA_acct h ha).2.1) l.length
    rw [List.take_length] at this
    omega
  · omega

set_option maxHeartbeats 1000000 in
theorem fs_law36_AccountsKeep (N : Nat) (t : List Int) (am : Int) (ham : 0 ≤ am ∧ am ≤ 65535) : FS PP N n_law36_AccountsKeep [sI t, .v (.int .u16 am)] [] (aB true) [] := by
  refine i_law36_AccountsKeep.pure (by simp) fun D _ => ?_
  have hs0 : SrcOk (t.take 800) 0 := ⟨by simp; omega, by omega, by omega⟩
  have hnew := fun N => fs_mk_New N t
  generalize t.take 800 = ts at hs0 hnew
  have hled := fun N b => fs_Src_Ledger N b ts 0 hs0
  have hr := dLedger_right hs0
  have hs1 := dLedger_ok hs0
  generalize dLedger ts 0 = g at hled hr hs1
  obtain ⟨g, a1⟩ := g
  obtain ⟨n, hn, hlen, hA, hhas, hget, hL, hdr, hpw, hof⟩ := hr
  dsimp only at hlen hA hhas hget hL hdr hpw hof hled hs1
  have hrg := fun N b => fs_Src_Range N b ts a1 1 (g.accts.length : Int) hs1 (by omega)
  have hid := dRange_ok (lo := 1) (hi := (g.accts.length : Int)) hs1 (by omega)
  generalize dRange ts a1 1 (g.accts.length : Int) = v at hrg hid
  obtain ⟨i, a2⟩ := v
  dsimp only at hid hrg
  have hrg2 := fun N b => fs_Src_Range N b ts a2 1 (g.accts.length : Int) hid.2 (by omega)
  have hid2 := dRange_ok (lo := 1) (hi := (g.accts.length : Int)) hid.2 (by omega)
  generalize dRange ts a2 1 (g.accts.length : Int) = v at hrg2 hid2
  obtain ⟨j, a3⟩ := v
  dsimp only at hid2 hrg2
  have hi := hhas i (by omega)
  have hj := hhas j (by omega)
  have ht : 0 ≤ am.tmod 1200 ∧ am.tmod 1200 < 1200 := ⟨Int.tmod_nonneg _ ham.1, Int.tmod_lt_of_pos _ (by omega)⟩
  have hbal : ∀ k, 0 ≤ (findA g.accts k).bal ∧ (findA g.accts k).bal ≤ 1000 := fun k => by
    by_cases hp : 0 ≤ placeA g.accts k
    · obtain ⟨x, h1, h2, h3, _⟩ := findA_yes hp
      have := hget _ _ h1
      rw [h3]; omega
    · rw [(findA_no (by omega)).1]; simp
  have hv : validAmt (am.tmod 1200) = true := by simp [validAmt]; omega
  have hb1 := hbal i
  have hb2 := hbal j
  have C1 := fun N => fs_accounts_Take N g.accts i (am.tmod 1200) (by omega)
  by_cases hlt : (findA g.accts i).bal < am.tmod 1200
  · rw [take_no hA hi hv hlt] at C1
    have C2 := fun N => fs_accounts_Find N g.accts i (by omega)
    clear hhas hget hL hdr hpw hA
    repeat' ((conv => whnf); (first | ((with_reducible refine Cl.id ?_); (first | refine Y.pu (C1 _) ?_ | refine Y.pu (C2 _) ?_ | refine Y.pu (fs_law36_sane _) ?_ | refine Y.new (hnew _) ?_ | (refine Y.upd (hled _ _) ?_ ?_; exact Y.lk) | (refine Y.upd (hrg _ _) ?_ ?_; exact Y.lk) | (refine Y.upd (hrg2 _ _) ?_ ?_; exact Y.lk) | fail)) | refine Y.st ?_ | refine Tw.mk (fun _ => ?_) (fun _ => ?_) | fail))
    all_goals exact Rt.bool rfl
  · rw [take_eq hA hi hv (by omega)] at C1
    have B1 := bal_ok (n := 0 - am.tmod 1200) hA hi (by omega)
    have hxj := B1.bal j hj
    have hxi := B1.bal i hi
    rw [if_pos rfl] at hxi
    have e1 : (findA (setBal g.accts i (0 - am.tmod 1200)) j).bal ≤ 1000 ∧ 0 ≤ (findA (setBal g.accts i (0 - am.tmod 1200)) j).bal := by
      rw [hxj]; split <;> omega
    have B2 := bal_ok (l := setBal g.accts i (0 - am.tmod 1200)) (i := j) (n := am.tmod 1200) B1.chk (by rw [B1.has]; exact hj) (by omega)
    have C3 := fun N => fs_accounts_Give N (setBal g.accts i (0 - am.tmod 1200)) j (am.tmod 1200) (by rw [B1.len]; omega)
    rw [give_eq B1.chk (by rw [B1.has]; exact hj) hv (by simp only [validAmt, decide_eq_true_eq]; omega)] at C3
    have C4 := fun N => fs_accounts_Give N (setBal g.accts i (0 - am.tmod 1200)) i (am.tmod 1200) (by rw [B1.len]; omega)
    rw [give_eq B1.chk (by rw [B1.has]; exact hi) hv (by simp only [validAmt, decide_eq_true_eq]; omega)] at C4
    have hbk := B1.back
    rw [show 0 - (0 - am.tmod 1200) = am.tmod 1200 by omega] at hbk
    rw [hbk] at C4
    have h500 : hasA g.accts 500 = false := by
      cases h : hasA g.accts 500 with
      | false => rfl
      | true =>
        obtain ⟨y, y1, y2, _⟩ := findA_yes (hasA_place h)
        have := (hget _ _ y1).1
        have := (List.getElem?_eq_some_iff.1 y1).1
        omega
    have hno := has_no h500
    have C5 := fun N => fs_accounts_Create N g.accts 500 (am.tmod 1200) (by omega)
    rw [createA_new hA (by omega) hv (by omega) h500] at C5
    have hck := insA_chk (x := ⟨500, am.tmod 1200, 0⟩) hA ((acctOk_iff _).2 (by dsimp only; omega)) (by omega) hno
    have hln := insA_len g.accts ⟨500, am.tmod 1200, 0⟩
    have T1 := fun N => fs_accounts_Total N g.accts (by omega)
    have T2 := fun N => fs_accounts_Total N (setBal (setBal g.accts i (0 - am.tmod 1200)) j (am.tmod 1200)) (by rw [B2.len, B1.len]; omega)
    rw [B2.total, B1.total, show totalA g.accts + (0 - am.tmod 1200) + am.tmod 1200 = totalA g.accts by omega] at T2
    have T3 := fun N => fs_accounts_Total N (insA g.accts ⟨500, am.tmod 1200, 0⟩) (by omega)
    have e3 : totalA (insA g.accts ⟨500, am.tmod 1200, 0⟩) = totalA g.accts + am.tmod 1200 := by
      unfold totalA; rw [if_pos hck, if_pos hA, insA_sum]
    rw [e3] at T3
    have K1 := fun N => fs_accounts_Check N (insA g.accts ⟨500, am.tmod 1200, 0⟩)
    rw [hck] at K1
    have S1 := fun N => fs_r36_Same N g.accts g.accts (by omega)
    rw [decide_eq_true rfl] at S1
    have htb := totalA_bd (l := g.accts) (by omega)
    generalize setBal g.accts i (0 - am.tmod 1200) = u1 at C1 C3 C4 T2
    generalize setBal u1 j (am.tmod 1200) = u2 at C3 T2
    generalize insA g.accts ⟨500, am.tmod 1200, 0⟩ = u3 at C5 T3 K1
    generalize totalA g.accts = T at T1 T2 T3 htb
    clear hhas hget hL hdr hpw hA B1 B2 hxj hxi e1 hbk hno hck hln e3
    repeat' ((conv => whnf); (first | ((with_reducible refine Cl.id ?_); (first | refine Y.pu (C1 _) ?_ | refine Y.pu (C3 _) ?_ | refine Y.pu (C4 _) ?_ | refine Y.pu (C5 _) ?_ | refine Y.pu (T1 _) ?_ | refine Y.pu (T2 _) ?_ | refine Y.pu (T3 _) ?_ | refine Y.pu (K1 _) ?_ | refine Y.pu (S1 _) ?_ | refine Y.pu (fs_law36_sane _) ?_ | refine Y.new (hnew _) ?_ | (refine Y.upd (hled _ _) ?_ ?_; exact Y.lk) | (refine Y.upd (hrg _ _) ?_ ?_; exact Y.lk) | (refine Y.upd (hrg2 _ _) ?_ ?_; exact Y.lk) | fail)) | refine Y.st ?_ | refine Tw.mk (fun _ => ?_) (fun _ => ?_) | fail))
    all_goals exact Rt.bool rfl
end Go.Proofs.Ytneoeegpceompaa.AM
