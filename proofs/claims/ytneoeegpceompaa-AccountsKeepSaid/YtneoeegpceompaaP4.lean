/-
Plain laws of adding to what an account holds: what it changes, what stays, how it leads back.
-/
import Derived.Test.YtneoeegpceompaaG5
import Derived.Test.YtneoeegpceompaaP1
set_option linter.unusedVariables false
set_option linter.unusedSimpArgs false
namespace Go.Proofs.Ytneoeegpceompaa.AM
open Go Go.Proofs Go.Proofs.Ytneoeegpceompaa.Pl

theorem find_set {α : Type} {p : α → Bool} {l : List α} {k : Nat} {a a' : α} (hk : l[k]? = some a) (h : p a' = p a) : (l.set k a').find? p = if p a = true ∧ idx p l = k then some a' else l.find? p := by
  induction l generalizing k with
  | nil => simp at hk
  | cons x r ih =>
    cases k with
    | zero =>
      simp only [List.length_cons, Nat.zero_lt_succ, List.getElem?_cons_zero, Option.some.injEq] at hk
      subst hk
      rw [List.set_cons_zero]
      by_cases hp : p x = true
      · rw [List.find?_cons_of_pos (h.trans hp), if_pos ⟨hp, by simp [idx, hp]⟩]
      · rw [List.find?_cons_of_neg (by rw [h]; exact hp), if_neg (fun h => hp h.1), List.find?_cons_of_neg hp]
    | succ k =>
      have hk' : r[k]? = some a := by simpa using hk
      rw [List.set_cons_succ]
      by_cases hp : p x = true
      · rw [List.find?_cons_of_pos hp, List.find?_cons_of_pos hp, if_neg]
        simp only [idx, hp, if_true]
        omega
      · rw [List.find?_cons_of_neg hp, List.find?_cons_of_neg hp, ih hk']
        simp only [idx, hp, if_false, Bool.false_eq_true]
        by_cases hn : idx p r < 0
        · rw [if_pos hn, if_neg (by omega), if_neg (by omega)]
        · rw [if_neg hn]
          by_cases hq : p a = true ∧ idx p r = k
          · rw [if_pos hq, if_pos ⟨hq.1, by omega⟩]
          · rw [if_neg hq, if_neg (fun h => hq ⟨h.1, by omega⟩)]

theorem findA_set {l : List Acct} {i j : Int} {a' : Acct} (hi : hasA l i = true) (hid : a'.id = i) : findA (l.set (placeA l i).toNat a') j = (if j = i then a' else findA l j) ∧ hasA (l.set (placeA l i).toNat a') j = hasA l j := by
  have hp := hasA_place hi
  obtain ⟨a, g1, g2, g3, g4⟩ := findA_yes hp
  have e := find_set (p := fun a : Acct => a.id == j) g1 (a' := a') (by simp only [hid, g2])
  by_cases hj : j = i
  · subst hj
    rw [if_pos ⟨by simpa using g2, by show placeA l j = _; omega⟩] at e
    have g5 : hasA l j = true := g4
    unfold findA hasA
    rw [e, if_pos rfl]
    refine ⟨rfl, ?_⟩
    unfold hasA at g5
    rw [g5]; rfl
  · rw [if_neg (fun h => hj (by have := h.1; simp only [beq_iff_eq] at this; omega))] at e
    unfold findA hasA
    rw [e, if_neg hj]; exact ⟨rfl, rfl⟩

theorem findL_set {l : List Line} {i j : Int} {s t : Asset} {x' : Line} (hi : hasL l i s = true) (h1 : x'.acc = i) (h2 : x'.asset = s) :
    findL (l.set (placeL l i s).toNat x') j t = (if j = i ∧ t = s then x' else findL l j t) ∧ hasL (l.set (placeL l i s).toNat x') j t = hasL l j t := by
  have hp : 0 ≤ placeL l i s := by
    by_cases hp : 0 ≤ placeL l i s
    · exact hp
    · rw [(findL_no (by omega)).2] at hi; cases hi
  obtain ⟨x, g1, g2, g3, g4⟩ := findL_yes hp
  have e := find_set (p := fun x : Line => decide (x.acc = j ∧ x.asset = t)) g1 (a' := x') (by simp only [h1, h2, g2.1, g2.2])
  by_cases hj : j = i ∧ t = s
  · obtain ⟨rfl, rfl⟩ := hj
    rw [if_pos ⟨by simpa using g2, by show placeL l j t = _; omega⟩] at e
    have g5 : hasL l j t = true := g4
    unfold findL hasL
    rw [e, if_pos ⟨rfl, rfl⟩]
    refine ⟨rfl, ?_⟩
    unfold hasL at g5
    rw [g5]; rfl
  · rw [if_neg (fun h => hj (by have := h.1; simp only [decide_eq_true_eq] at this; exact ⟨this.1.symm.trans g2.1, this.2.symm.trans g2.2⟩))] at e
    unfold findL hasL
    rw [e, if_neg hj]; exact ⟨rfl, rfl⟩

theorem goodAt_set {α : Type} {ok : α → Bool} {r : α → α → Bool} {l : List α} {k : Nat} {x x' : α} (h : ∀ k, goodAt ok r l k) (hk : l[k]? = some x) (hok : ok x' = true) (hr1 : ∀ p, r p x = true → r p x' = true) (hr2 : ∀ y, r x y = true → r x' y = true) :
    ∀ j, goodAt ok r (l.set k x') j := fun j y hy => by
  have hlt := (List.getElem?_eq_some_iff.1 hk).1
  by_cases e : k = j
  · subst e
    rw [List.getElem?_set_self hlt] at hy
    injection hy with hy
    subst hy
    refine ⟨hok, fun p hp hpp => ?_⟩
    rw [List.getElem?_set_ne (by omega)] at hpp
    exact hr1 p ((h k x hk).2 p hp hpp)
  · rw [List.getElem?_set_ne e] at hy
    refine ⟨(h j y hy).1, fun p hp hpp => ?_⟩
    by_cases e2 : k = j - 1
    · subst e2
      rw [List.getElem?_set_self hlt] at hpp
      injection hpp with hpp
      subst hpp
      exact hr2 y ((h j y hy).2 x hp hk)
    · rw [List.getElem?_set_ne e2] at hpp
      exact (h j y hy).2 p hp hpp

theorem chkL_set {l : List Line} {g : List Acct} {k : Nat} {x x' : Line} (h : chkL l g = 0) (hk : l[k]? = some x) (h1 : x'.acc = x.acc) (h2 : x'.asset = x.asset) (h3 : 0 ≤ x'.lim ∧ x'.lim ≤ 1000000000000) (h4 : 0 ≤ x'.bal ∧ x'.bal ≤ x'.lim) : chkL (l.set k x') g = 0 := by
  obtain ⟨g1, g2, g3⟩ := chkL_len h
  have hx := chkL_line h (List.mem_of_getElem? hk)
  have hg := (good_at _ _ l).1 g3
  refine chkL_ok g2 (by rw [List.length_set]; omega) fun j _ => goodAt_set hg hk ?_ (fun p hp => ?_) (fun y hy => ?_) j
  · rw [lineOk_iff, h1, h2]
    exact ⟨hx.1, hx.2.1, hx.2.2.1, hx.2.2.2.1, h3, h4⟩
  · rw [h1, h2]; exact hp
  · unfold beforeL at hy ⊢
    rw [h1, h2]; exact hy

theorem chkL_accts {l : List Line} {g g' : List Acct} (h : chkL l g = 0) (hg : chkA g' = 0) (hh : ∀ j, hasA g' j = hasA g j) : chkL l g' = 0 := by
  obtain ⟨g1, g2, g3⟩ := chkL_len h
  have e : lineOk g' = lineOk g := funext fun x => by unfold lineOk; rw [hh]
  refine chkL_ok hg (by omega) fun j _ => ?_
  rw [e]
  exact (good_at _ _ l).1 g3 j

theorem issued_set {l : List Line} {k : Nat} {x x' : Line} (hk : l[k]? = some x) (h2 : x'.asset = x.asset) (t : Asset) : issued (l.set k x') t = issued l t + (if x.asset = t then x'.bal - x.bal else 0) := by
  induction l generalizing k with
  | nil => simp at hk
  | cons y r ih =>
    cases k with
    | zero =>
      simp only [List.getElem?_cons_zero, Option.some.injEq] at hk
      subst hk
      unfold issued
      simp only [List.set_cons_zero, List.filter_cons, h2]
      by_cases e : y.asset = t
      · simp [e]; omega
      · simp [e]
    | succ k =>
      have := ih (k := k) (by simpa using hk)
      unfold issued at this ⊢
      simp only [List.set_cons_succ, List.filter_cons]
      by_cases e : y.asset = t
      · simp only [e, decide_true, if_true, List.map_cons, List.sum_cons, this]; omega
      · simp only [e, decide_false, Bool.false_eq_true, if_false, this]

theorem native_one {s : Asset} : nativeA s = true ↔ s = ⟨⟨#[]⟩, 0⟩ := by
  obtain ⟨c, i⟩ := s
  simp [nativeA]

/-- What adding does. -/
structure Added (g : Ledg) (i : Int) (s : Asset) (n : Int) : Prop where
  right : rightG (addF g i s n) = true
  has : ∀ j, hasA (addF g i s n).accts j = hasA g.accts j
  look : ∀ j t, lookF (addF g i s n).accts (addF g i s n).lines j t = if (j = i ∧ t = s) ∧ (nativeA s = true ∨ s.issuer ≠ i) then ((lookF g.accts g.lines i s).1 + n, (lookF g.accts g.lines i s).2.1 - n, true) else lookF g.accts g.lines j t
  back : addF (addF g i s n) i s (0 - n) = g
  lenA : (addF g i s n).accts.length = g.accts.length
  lenL : (addF g i s n).lines.length = g.lines.length
  offs : (addF g i s n).offers = g.offers
  rest : (addF g i s n).number = g.number ∧ (addF g i s n).next = g.next ∧ (addF g i s n).fees = g.fees ∧ (addF g i s n).link = g.link
  total : totalA (addF g i s n).accts = totalA g.accts + if nativeA s = true then n else 0
  iss : ∀ t, issued (addF g i s n).lines t = issued g.lines t + if t = s ∧ nativeA s = false ∧ s.issuer ≠ i then n else 0
  hasl : ∀ j t, hasL (addF g i s n).lines j t = hasL g.lines j t

theorem look_native {g : Ledg} {i : Int} {s : Asset} (hi : hasA g.accts i = true) (hs : assetOk s = true) (hn : nativeA s = true) : lookF g.accts g.lines i s = ((findA g.accts i).bal, 1000000000000 - (findA g.accts i).bal, true) := by
  unfold lookF; simp [hi, hs, hn]
theorem look_issuer {g : Ledg} {i : Int} {s : Asset} (hi : hasA g.accts i = true) (hs : assetOk s = true) (hn : nativeA s = false) (he : s.issuer = i) : lookF g.accts g.lines i s = (1000000000000, 1000000000000, true) := by
  unfold lookF; simp [hi, hs, hn, he]
theorem look_line {g : Ledg} {i : Int} {s : Asset} (hi : hasA g.accts i = true) (hs : assetOk s = true) (hn : nativeA s = false) (he : s.issuer ≠ i) : lookF g.accts g.lines i s = ((findL g.lines i s).bal, (findL g.lines i s).lim - (findL g.lines i s).bal, hasL g.lines i s) := by
  unfold lookF; simp [hi, hs, hn, he]

theorem added {g : Ledg} {i : Int} {s : Asset} {n : Int} (hR : rightG g = true) (hs : assetOk s = true) (hi : hasA g.accts i = true) (hf : (lookF g.accts g.lines i s).2.2 = true)
    (h0 : nativeA s = true ∨ s.issuer ≠ i → 0 ≤ (lookF g.accts g.lines i s).1 + n ∧ n ≤ (lookF g.accts g.lines i s).2.1) : Added g i s n := by
  have hL : chkL g.lines g.accts = 0 := by simpa [rightG] using hR
  have hA := (chkL_len hL).2.1
  cases hn : nativeA s with
  | true =>
    have hl := look_native hi hs hn
    have h0 := h0 (.inl hn)
    rw [hl] at h0
    dsimp only at h0
    obtain ⟨a, g1, g2, g3, g4⟩ := findA_yes (hasA_place hi)
    have hv := chkA_acct hA (List.mem_of_getElem? g1)
    rw [g3] at h0 hl
    have e : addF g i s n = { g with accts := g.accts.set (placeA g.accts i).toNat ⟨a.id, a.bal + n, a.seq⟩ } := by
      unfold addF setBal; rw [if_pos hn, g3]
    have hfa := fun j => findA_set (l := g.accts) (i := i) (j := j) (a' := ⟨a.id, a.bal + n, a.seq⟩) hi g2
    have hA2 : chkA (g.accts.set (placeA g.accts i).toNat ⟨a.id, a.bal + n, a.seq⟩) = 0 := chkA_set hA g1 rfl ((acctOk_iff _).2 ⟨hv.1, by dsimp only; omega, hv.2.2⟩)
    have hlt := (List.getElem?_eq_some_iff.1 g1).1
    have hpl : placeA (g.accts.set (placeA g.accts i).toNat ⟨a.id, a.bal + n, a.seq⟩) i = placeA g.accts i := idx_set (p := fun a : Acct => a.id == i) g1 rfl
    refine ⟨?_, ?_, ?_, ?_, ?_, ?_, ?_, ?_, ?_, ?_, ?_⟩
    · rw [e]; simpa [rightG] using chkL_accts hL hA2 fun j => (hfa j).2
    · rw [e]; exact fun j => (hfa j).2
    · intro j t
      rw [e]
      dsimp only
      by_cases hjt : j = i ∧ t = s
      · obtain ⟨rfl, rfl⟩ := hjt
        rw [if_pos ⟨⟨rfl, rfl⟩, .inl hn⟩, hl]
        unfold lookF
        rw [(hfa j).2, (hfa j).1, if_pos rfl, hi, hs, hn]
        simp only [Bool.and_self, if_true]
        refine Prod.ext rfl (Prod.ext ?_ rfl)
        dsimp only; omega
      · rw [if_neg (fun h => hjt h.1)]
        unfold lookF
        rw [(hfa j).2, (hfa j).1]
        by_cases hj : j = i
        · subst hj
          have : nativeA t = false := by
            cases ht : nativeA t with
            | false => rfl
            | true => exact absurd ⟨rfl, (native_one.1 ht).trans (native_one.1 hn).symm⟩ hjt
          rw [this]; simp
        · rw [if_neg hj]
    · rw [e]
      unfold addF setBal
      rw [if_pos hn]
      dsimp only
      rw [hpl, (hfa i).1, if_pos rfl]
      dsimp only
      rw [List.set_set]
      have : (⟨a.id, a.bal + n + (0 - n), a.seq⟩ : Acct) = a := by
        rw [show a.bal + n + (0 - n) = a.bal by omega]
      rw [this, set_same g1]
    · rw [e]; simp
    · rw [e]
    · rw [e]
    · rw [e]; exact ⟨rfl, rfl, rfl, rfl⟩
    · rw [e, if_pos hn]
      unfold totalA
      dsimp only
      rw [if_pos hA, if_pos hA2, sumA_set g1]; dsimp only; omega
    · intro t; rw [e, if_neg (by simp [hn])]; simp
    · intro j t; rw [e]
  | false =>
    by_cases he : s.issuer = i
    · have e : addF g i s n = g := by unfold addF; rw [if_neg (by simp [hn]), if_pos he]
      have e2 : addF g i s (0 - n) = g := by unfold addF; rw [if_neg (by simp [hn]), if_pos he]
      refine ⟨?_, ?_, ?_, ?_, ?_, ?_, ?_, ?_, ?_, ?_, ?_⟩
      · rw [e]; exact hR
      · rw [e]; exact fun j => rfl
      · intro j t; rw [e, if_neg (fun h => by rcases h.2 with h | h <;> simp_all)]
      · rw [e, e2]
      · rw [e]
      · rw [e]
      · rw [e]
      · rw [e]; exact ⟨rfl, rfl, rfl, rfl⟩
      · rw [e]; simp [hn]
      · intro t; rw [e, if_neg (fun h => h.2.2 he)]; simp
      · intro j t; rw [e]
    · have hl := look_line hi hs hn he
      have h0 := h0 (.inr he)
      rw [hl] at h0 hf
      dsimp only at h0 hf
      have hp : 0 ≤ placeL g.lines i s := by
        by_cases hp : 0 ≤ placeL g.lines i s
        · exact hp
        · rw [(findL_no (by omega)).2] at hf; cases hf
      obtain ⟨x, g1, g2, g3, g4⟩ := findL_yes hp
      have hv := chkL_line hL (List.mem_of_getElem? g1)
      rw [g3] at h0 hl
      have e : addF g i s n = { g with lines := g.lines.set (placeL g.lines i s).toNat ⟨x.acc, x.asset, x.bal + n, x.lim⟩ } := by
        unfold addF setLine; rw [if_neg (by simp [hn]), if_neg he, g3]
      have hff := fun j t => findL_set (l := g.lines) (i := i) (s := s) (j := j) (t := t) (x' := ⟨x.acc, x.asset, x.bal + n, x.lim⟩) hf g2.1 g2.2
      have hL2 : chkL (g.lines.set (placeL g.lines i s).toNat ⟨x.acc, x.asset, x.bal + n, x.lim⟩) g.accts = 0 := chkL_set hL g1 rfl rfl hv.2.2.2.2.1 ⟨by dsimp only; omega, by dsimp only; omega⟩
      have hpl : placeL (g.lines.set (placeL g.lines i s).toNat ⟨x.acc, x.asset, x.bal + n, x.lim⟩) i s = placeL g.lines i s := idx_set (p := fun y : Line => decide (y.acc = i ∧ y.asset = s)) g1 rfl
      refine ⟨?_, ?_, ?_, ?_, ?_, ?_, ?_, ?_, ?_, ?_, ?_⟩
      · rw [e]; simpa [rightG] using hL2
      · rw [e]; exact fun j => rfl
      · intro j t
        rw [e]
        dsimp only
        by_cases hjt : j = i ∧ t = s
        · obtain ⟨rfl, rfl⟩ := hjt
          rw [if_pos ⟨⟨rfl, rfl⟩, .inr he⟩, hl]
          have hx := hff j t
          rw [if_pos (⟨rfl, rfl⟩ : j = j ∧ t = t)] at hx
          unfold lookF
          rw [hx.2, hx.1]
          simp only [hi, hs, hn, hf, if_neg he, Bool.and_self, if_true, Bool.false_eq_true, if_false]
          refine Prod.ext rfl (Prod.ext ?_ rfl)
          dsimp only; omega
        · rw [if_neg (fun h => hjt h.1)]
          unfold lookF
          rw [(hff j t).2, (hff j t).1, if_neg hjt]
      · rw [e]
        unfold addF setLine
        rw [if_neg (by simp [hn]), if_neg he]
        dsimp only
        rw [hpl, (hff i s).1, if_pos ⟨rfl, rfl⟩]
        dsimp only
        rw [List.set_set]
        have : (⟨x.acc, x.asset, x.bal + n + (0 - n), x.lim⟩ : Line) = x := by
          rw [show x.bal + n + (0 - n) = x.bal by omega]
        rw [this, set_same g1]
      · rw [e]
      · rw [e]; simp
      · rw [e]
      · rw [e]; exact ⟨rfl, rfl, rfl, rfl⟩
      · rw [e]; simp [hn]
      · intro t
        rw [e]
        dsimp only
        rw [issued_set (x' := ⟨x.acc, x.asset, x.bal + n, x.lim⟩) g1 rfl, g2.2]
        by_cases ht : s = t
        · rw [if_pos ht, if_pos ⟨ht.symm, hn, he⟩]; dsimp only; omega
        · rw [if_neg ht, if_neg (fun h => ht h.1.symm)]
      · intro j t; rw [e]; exact (hff j t).2
end Go.Proofs.Ytneoeegpceompaa.AM
