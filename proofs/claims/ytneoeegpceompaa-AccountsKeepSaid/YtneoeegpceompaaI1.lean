/-
The walk, part 24: slices.Insert at lists of structs.
-/
import Derived.Test.YtneoeegpceompaaA6
set_option linter.unusedVariables false
set_option linter.unusedSimpArgs false
namespace Go.Proofs.Ytneoeegpceompaa.Pl
def insAt {α : Type} (l : List α) (i : Nat) (a : α) : List α := l.take i ++ (a :: l.drop i)
section
variable {α : Type} {l : List α} {i : Nat} {a z : α}
theorem insAt_len (hi : i ≤ l.length) : (insAt l i a).length = l.length + 1 := by simp [insAt]; omega
theorem ins1 (hi : i < l.length) : (l.take i ++ List.replicate (l.length + 1 - i) z).take i ++ ([a].take 1 ++ (l.take i ++ List.replicate (l.length + 1 - i) z).drop (i + 1)) = l.take i ++ (a :: List.replicate (l.length - i) z) := by
  have h : (l.take i).length = i := by simp; omega
  rw [List.take_left' h, List.drop_append, h, List.drop_eq_nil_of_le (by omega)]
  simp
  omega
theorem ins2 (hi : i < l.length) : (l.take i ++ (a :: List.replicate (l.length - i) z)).take (i + 1) ++ ((l.drop i).take (l.length - i) ++ (l.take i ++ (a :: List.replicate (l.length - i) z)).drop (i + 1 + (l.length - i))) = insAt l i a := by
  have h : (l.take i).length = i := by simp; omega
  have e1 : (l.take i ++ (a :: List.replicate (l.length - i) z)).drop (i + 1 + (l.length - i)) = [] := List.drop_eq_nil_of_le (by simp; omega)
  have e2 : (l.drop i).take (l.length - i) = l.drop i := List.take_of_length_le (by simp)
  rw [e1, e2, List.take_append, h, List.take_of_length_le (by omega)]
  have : i + 1 - i = 1 := by omega
  rw [this]
  simp [insAt]
theorem ins3 (hi : i < l.length) : l.take (i + 1) ++ ((l.drop i).take (l.length - i) ++ l.drop (i + 1 + (l.length - i))) = l.take (i + 1) ++ l.drop i := by
  rw [List.drop_eq_nil_of_le (i := i + 1 + (l.length - i)) (by omega), List.take_of_length_le (l := l.drop i) (by simp)]; simp
theorem ins4 (hi : i < l.length) : (l.take (i + 1) ++ l.drop i).take i ++ ([a].take 1 ++ (l.take (i + 1) ++ l.drop i).drop (i + 1)) = insAt l i a := by
  have h : (l.take (i + 1)).length = i + 1 := by simp; omega
  rw [List.take_append_of_le_length (by omega), List.take_take, List.drop_left' h, Nat.min_eq_left (by omega)]
  simp [insAt]
end
end Go.Proofs.Ytneoeegpceompaa.Pl
namespace Go.Proofs.Ytneoeegpceompaa.AM
open Go Go.Proofs Go.Proofs.Ytneoeegpceompaa.Pl

section
variable {α : Type} {f : α → List AV} {l xs' l' : List α} {xs es : List (List AV)} {off len m n o : Nat}
theorem Cy.gen {K : Nat → List (List AV) → Prop} (o n : Nat) (xs' l' : List α) (ho : off = o) (hx : xs = xs'.map f) (hle : o ≤ l.length) (hn : min m len = n) (hxl : n ≤ xs'.length) (he : l.take o ++ (xs'.take n ++ l.drop (o + n)) = l') (k : K n (l'.map f)) : Cy (l.map f) off len xs m K := by
  subst ho; subst hx; subst he
  exact Cy.eq (n := n) (es' := (l.take off ++ (xs'.take n ++ l.drop (off + n))).map f) (by simpa using hle) hn (by simpa using hxl) (by simp) k
theorem map_part (o : Nat) (ho : off = o) (hl : l.length - o ≤ len) : ((l.map f).drop off).take len = (l.drop o).map f := by
  subst ho
  rw [← List.map_drop, ← List.map_take, List.take_of_length_le (by simp; omega)]
theorem one_part {r : List AV} {a : α} (h : f a = r) : ([r].drop 0).take 1 = [a].map f := by subst h; rfl
theorem Es.gen {K : List (List AV) → Prop} (l' : List α) (h : es = l'.map f) (k : K (l'.map f)) : Es es K := .eq h k
theorem zeros_part {z : List Value} {q : α} {p i : Nat} (hz : f q = z.map .v) (ho : off = 0) (hi : len = i) (hp : n = p) : ((l.map f).drop off).take len ++ List.replicate n (z.map AV.v) = (l.take i ++ List.replicate p q).map f := by
  subst ho; subst hi; subst hp
  simp [hz]
end

theorem ne_map {α : Type} {f : α → List AV} {l : List α} (h : 0 < l.length) : l.map f ≠ [] := by
  cases l with
  | nil => simp at h
  | cons x r => simp
theorem recap2 {b vb c ty ty2 : Nat} {es es2 : List (List AV)} {sz sz2 : Nat} {cp : Option Nat} (hne : b ≠ vb) : preMu ((b, ⟨true, ty, sz, es, some c⟩) :: [(vb, ⟨true, ty2, sz2, es2, cp⟩)]) = upd (preMu ((b, ⟨true, ty, sz, es, none⟩) :: [(vb, ⟨true, ty2, sz2, es2, cp⟩)])) b (some ⟨true, ty, sz, es, some c⟩) := by
  funext d
  simp only [preMu, app, List.map_cons, List.map_nil, upd]
  by_cases h1 : d = vb
  · subst h1; simp [Ne.symm hne]
  · rw [if_neg h1, if_neg h1]
    by_cases h2 : d = b
    · rw [if_pos h2, if_pos h2]
    · rw [if_neg h2, if_neg h2, if_neg h2]

abbrev zAcct : Acct := ⟨0, 0, 0⟩
abbrev zLine : Line := ⟨0, ⟨⟨#[]⟩, 0⟩, 0, 0⟩
theorem xs_overlaps_Account {b vb m off len : Nat} {kv kb : Blk} (hne : vb ≠ b) (hmu : kv.mu = true) (hv : kv.es ≠ []) (hb : kb.es ≠ []) (hm : 0 < m) (hl : 0 < len) (hbs : kb.sz ≠ 0) (hvs : kv.sz ≠ 0) (hbe : ∀ r ∈ kb.es, r.length = kb.sz) :
    XSpec PP n_slices_overlaps_Account [.row vb 3 0 m, .row b 3 off len] [(b, kb), (vb, kv)] (.bool false) := by
  refine XSpec.overlaps (tS := t_SAccount) (tR := t_bool) (e := t_Account) (size := 3) (fun args w => ?_) (by kernel_rfl) (fun w => ?_) hne hmu hv hb hm hl hbs hvs hbe
  · exact run_callFunc_extern x_slices_overlaps_Account (by kernel_rfl) (by kernel_rfl) (by kernel_rfl) (by kernel_rfl) args w
  · exact run_sizeOf (P := PP) (t := t_Account) (n := 3) (by kernel_rfl) w
theorem xs_overlaps_Line {b vb m off len : Nat} {kv kb : Blk} (hne : vb ≠ b) (hmu : kv.mu = true) (hv : kv.es ≠ []) (hb : kb.es ≠ []) (hm : 0 < m) (hl : 0 < len) (hbs : kb.sz ≠ 0) (hvs : kv.sz ≠ 0) (hbe : ∀ r ∈ kb.es, r.length = kb.sz) :
    XSpec PP n_slices_overlaps_Line [.row vb 5 0 m, .row b 5 off len] [(b, kb), (vb, kv)] (.bool false) := by
  refine XSpec.overlaps (tS := t_SLine) (tR := t_bool) (e := t_Line) (size := 5) (fun args w => ?_) (by kernel_rfl) (fun w => ?_) hne hmu hv hb hm hl hbs hvs hbe
  · exact run_callFunc_extern x_slices_overlaps_Line (by kernel_rfl) (by kernel_rfl) (by kernel_rfl) (by kernel_rfl) args w
  · exact run_sizeOf (P := PP) (t := t_Line) (n := 5) (by kernel_rfl) w

theorem fs_Insert_end_Account (N b vb : Nat) (l : List Acct) (i : Nat) (a : Acct) (hi : i = l.length) (hl : l.length ≤ 100000) (hne : b ≠ vb) :
    FS PP N n_slices_Insert_Account [.row b 3 0 l.length, aI i, .row vb 3 0 1] [(b, ⟨true, t_Account, 3, l.map cA, none⟩), (vb, ⟨true, t_Account, 3, [cA a], some 1⟩)] (.sl 3 ((insAt l i a).map cA)) [(b, none), (vb, none)] := by
  refine i_slices_Insert_Account.two (by simp) hne fun D hN hb hv => ?_
  have hne2 := Ne.symm hne
  have e : insAt l i a = l ++ [a] := by subst hi; simp [insAt]
  rw [e]
  repeat' ((conv => whnf); (first | refine Y.st ?_ | refine Tw.mk (fun _ => ?_) (fun _ => ?_) | fail))
  exact Rt.fz1g2 Y.vt

theorem fs_Insert_in_Account (N b vb c : Nat) (l : List Acct) (i : Nat) (a : Acct) (hi : i < l.length) (hl : l.length ≤ 100000) (hne : b ≠ vb) (hc : l.length ≤ c) :
    FS PP N n_slices_Insert_Account [.row b 3 0 l.length, aI i, .row vb 3 0 1] [(b, ⟨true, t_Account, 3, l.map cA, some c⟩), (vb, ⟨true, t_Account, 3, [cA a], some 1⟩)] (.sl 3 ((insAt l i a).map cA)) [(b, none), (vb, none)] := by
  refine i_slices_Insert_Account.two (by simp) hne fun D hN hb hv => ?_
  have hne2 := Ne.symm hne
  have hlen := insAt_len (a := a) (Nat.le_of_lt hi)
  by_cases hcc : c < l.length + 1
  · repeat' ((conv => whnf); (first | refine Ob.mk ⟨by omega, by simp; omega, by simp; omega, by omega, by omega⟩ ?_ | refine Es.gen (l.take i ++ List.replicate (l.length + 1 - i) zAcct) (zeros_part rfl (by omega) (by omega) (by omega)) ?_ | refine Cy.gen i 1 [a] (l.take i ++ (a :: List.replicate (l.length - i) zAcct)) (by omega) (one_part rfl) (by simp; omega) (by omega) (by simp) (ins1 hi) ?_ | refine Cy.gen (i + 1) (l.length - i) (l.drop i) (insAt l i a) (by omega) (map_part i (by omega) (by omega)) (by simp; omega) (by omega) (by simp) (ins2 hi) ?_ | refine Y.st ?_ | refine Tw.mk (fun _ => ?_) (fun _ => ?_) | fail))
    exact Rt.fz1g2 Y.vt
  · repeat' ((conv => whnf); (first | refine Cy.gen (i + 1) (l.length - i) (l.drop i) (l.take (i + 1) ++ l.drop i) (by omega) (map_part i (by omega) (by omega)) (by omega) (by omega) (by simp) (ins3 hi) ?_ | refine Cy.gen i 1 [a] (insAt l i a) (by omega) (one_part rfl) (by simp; omega) (by omega) (by simp) (ins4 hi) ?_ | ((with_reducible refine Cl.id ?_); (first | (refine Y.ext2 (xs_overlaps_Account (kb := ⟨true, t_Account, 3, l.map cA, some c⟩) (kv := ⟨true, t_Account, 3, [cA a], some 1⟩) (Ne.symm hne) rfl (by simp) (ne_map (by omega)) (by omega) (by omega) (by simp) (by simp) (by simp [cA])) ?_ ?_ ?_; exact Y.lk; exact Y.lk) | fail)) | refine Y.st ?_ | refine Tw.mk (fun _ => ?_) (fun _ => ?_) | fail))
    exact Rt.fz1g2 Y.vt

theorem fs_slices_Insert_Account (N b vb : Nat) (l : List Acct) (i : Nat) (a : Acct) (hi : i ≤ l.length) (hl : l.length ≤ 100000) (hne : b ≠ vb) :
    FS PP N n_slices_Insert_Account [.row b 3 0 l.length, aI i, .row vb 3 0 1] [(b, ⟨true, t_Account, 3, l.map cA, none⟩), (vb, ⟨true, t_Account, 3, [cA a], some 1⟩)] (.sl 3 ((insAt l i a).map cA)) [(b, none), (vb, none)] := by
  by_cases h : i = l.length
  · exact fs_Insert_end_Account N b vb l i a h hl hne
  · have hlt : i < l.length := by omega
    refine FS.allcap (ne_map (by omega)) (by decide) (by simp) (by simp; omega) (pre2_b hne) (fun c => recap2 hne) (fun c => ?_) fun c h1 _ => fs_Insert_in_Account N b vb c l i a hlt hl hne h1
    funext d
    rw [gone2, gone2]
theorem fs_Insert_end_Line (N b vb : Nat) (l : List Line) (i : Nat) (a : Line) (hi : i = l.length) (hl : l.length ≤ 100000) (hne : b ≠ vb) :
    FS PP N n_slices_Insert_Line [.row b 5 0 l.length, aI i, .row vb 5 0 1] [(b, ⟨true, t_Line, 5, l.map cL, none⟩), (vb, ⟨true, t_Line, 5, [cL a], some 1⟩)] (.sl 5 ((insAt l i a).map cL)) [(b, none), (vb, none)] := by
  refine i_slices_Insert_Line.two (by simp) hne fun D hN hb hv => ?_
  have hne2 := Ne.symm hne
  have e : insAt l i a = l ++ [a] := by subst hi; simp [insAt]
  rw [e]
  repeat' ((conv => whnf); (first | refine Y.st ?_ | refine Tw.mk (fun _ => ?_) (fun _ => ?_) | fail))
  exact Rt.fz1g2 Y.vt

theorem fs_Insert_in_Line (N b vb c : Nat) (l : List Line) (i : Nat) (a : Line) (hi : i < l.length) (hl : l.length ≤ 100000) (hne : b ≠ vb) (hc : l.length ≤ c) :
    FS PP N n_slices_Insert_Line [.row b 5 0 l.length, aI i, .row vb 5 0 1] [(b, ⟨true, t_Line, 5, l.map cL, some c⟩), (vb, ⟨true, t_Line, 5, [cL a], some 1⟩)] (.sl 5 ((insAt l i a).map cL)) [(b, none), (vb, none)] := by
  refine i_slices_Insert_Line.two (by simp) hne fun D hN hb hv => ?_
  have hne2 := Ne.symm hne
  have hlen := insAt_len (a := a) (Nat.le_of_lt hi)
  by_cases hcc : c < l.length + 1
  · repeat' ((conv => whnf); (first | refine Ob.mk ⟨by omega, by simp; omega, by simp; omega, by omega, by omega⟩ ?_ | refine Es.gen (l.take i ++ List.replicate (l.length + 1 - i) zLine) (zeros_part rfl (by omega) (by omega) (by omega)) ?_ | refine Cy.gen i 1 [a] (l.take i ++ (a :: List.replicate (l.length - i) zLine)) (by omega) (one_part rfl) (by simp; omega) (by omega) (by simp) (ins1 hi) ?_ | refine Cy.gen (i + 1) (l.length - i) (l.drop i) (insAt l i a) (by omega) (map_part i (by omega) (by omega)) (by simp; omega) (by omega) (by simp) (ins2 hi) ?_ | refine Y.st ?_ | refine Tw.mk (fun _ => ?_) (fun _ => ?_) | fail))
    exact Rt.fz1g2 Y.vt
  · repeat' ((conv => whnf); (first | refine Cy.gen (i + 1) (l.length - i) (l.drop i) (l.take (i + 1) ++ l.drop i) (by omega) (map_part i (by omega) (by omega)) (by omega) (by omega) (by simp) (ins3 hi) ?_ | refine Cy.gen i 1 [a] (insAt l i a) (by omega) (one_part rfl) (by simp; omega) (by omega) (by simp) (ins4 hi) ?_ | ((with_reducible refine Cl.id ?_); (first | (refine Y.ext2 (xs_overlaps_Line (kb := ⟨true, t_Line, 5, l.map cL, some c⟩) (kv := ⟨true, t_Line, 5, [cL a], some 1⟩) (Ne.symm hne) rfl (by simp) (ne_map (by omega)) (by omega) (by omega) (by simp) (by simp) (by simp [cL])) ?_ ?_ ?_; exact Y.lk; exact Y.lk) | fail)) | refine Y.st ?_ | refine Tw.mk (fun _ => ?_) (fun _ => ?_) | fail))
    exact Rt.fz1g2 Y.vt

theorem fs_slices_Insert_Line (N b vb : Nat) (l : List Line) (i : Nat) (a : Line) (hi : i ≤ l.length) (hl : l.length ≤ 100000) (hne : b ≠ vb) :
    FS PP N n_slices_Insert_Line [.row b 5 0 l.length, aI i, .row vb 5 0 1] [(b, ⟨true, t_Line, 5, l.map cL, none⟩), (vb, ⟨true, t_Line, 5, [cL a], some 1⟩)] (.sl 5 ((insAt l i a).map cL)) [(b, none), (vb, none)] := by
  by_cases h : i = l.length
  · exact fs_Insert_end_Line N b vb l i a h hl hne
  · have hlt : i < l.length := by omega
    refine FS.allcap (ne_map (by omega)) (by decide) (by simp) (by simp; omega) (pre2_b hne) (fun c => recap2 hne) (fun c => ?_) fun c h1 _ => fs_Insert_in_Line N b vb c l i a hlt hl hne h1
    funext d
    rw [gone2, gone2]
end Go.Proofs.Ytneoeegpceompaa.AM
