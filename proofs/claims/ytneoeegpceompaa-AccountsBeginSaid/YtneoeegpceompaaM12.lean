/-
The abstract machine, part 12: every operation; what an operation looks at.
-/
import Derived.Test.YtneoeegpceompaaM11
namespace Go.Proofs.Ytneoeegpceompaa.AM
open Go

variable {P : Program}

/-- Every operation that the compact code has (but calls) runs as it says. -/
theorem evalCO_sound {X : Nat → Prop} {N : Nat} {io : Nat → Option (Option Nat)} {μ : Mu} {w : World} {a : Act} {g : Nat → AV} (hM : Mem X io μ w) (hg : ∀ t, Rel (envOf X io μ w) (g t) (a.tmps.getD t undef)) (hN : io N = none) (hμN : μ N = none)
    (o : Oper) {r : AV} {wr : Wr} (h : evalCO g μ N (compOp P o.op) = some (r, wr)) : OpOK P X N io μ w a o r wr := by
  have bad : ∀ {q : Prop}, evalCO g μ N .bad = some (r, wr) → q := fun h => by simp [evalCO] at h
  cases hop : o.op with
  | move x => rw [hop] at h; exact ok_mov hM hg x (.inl hop) h
  | assign x => rw [hop] at h; exact ok_mov hM hg x (.inr hop) h
  | pick c x y => rw [hop] at h; exact ok_pick hM hg c x y hop h
  | alloc e =>
    rw [hop] at h; simp only [compOp] at h
    split at h
    · rename_i z hz; exact ok_alloc hM hg hN hμN e z hop hz h
    · exact bad h
  | box e x =>
    rw [hop] at h; simp only [compOp] at h
    split at h
    · rename_i n hn; exact ok_box hM hg hN hμN e n x hop h
    · exact bad h
  | build t ps =>
    rw [hop] at h; simp only [compOp] at h
    split at h
    · rename_i z l hz hl _; exact ok_build hM hg t ps z l hop hz hl h
    · exact bad h
  | buildSlice t len ps =>
    rw [hop] at h; simp only [compOp] at h
    split at h
    · rename_i e n b z ht
      split at h
      · rename_i hle; exact ok_bslice hM hg hN hμN t e n b len z ps hop ht hle h
      · exact bad h
    · exact bad h
  | load t x =>
    rw [hop] at h; simp only [compOp] at h
    split at h
    · rename_i ag n hag hn
      split at h
      · rename_i h1; exact ok_load hM hg t n ag x hop hag hn h1 h
      · exact bad h
    · exact bad h
  | store t x y =>
    rw [hop] at h; simp only [compOp] at h
    split at h
    · rename_i n hn; exact ok_store hM hg t n x y hop hn h
    · exact bad h
  | nilCheck x => rw [hop] at h; exact ok_nilck hM hg x hop h
  | binOp op t x y t' =>
    rw [hop] at h; simp only [compOp, compBin] at h
    split at h
    · rename_i fs hu
      split at h
      · rename_i l hl
        split at h
        · exact bad h
        · rename_i hgd; exact ok_eqs hM hg .eql false t t' fs l x y hop (.inl ⟨rfl, rfl⟩) hu hl (by simpa using hgd) h
      · rename_i l hl
        split at h
        · exact bad h
        · rename_i hgd; exact ok_eqs hM hg .neq true t t' fs l x y hop (.inr ⟨rfl, rfl⟩) hu hl (by simpa using hgd) h
      · exact bad h
    · rename_i e hu
      split at h
      · split at h
        · rename_i hy; exact ok_nilcmp hM hg .eql false t t' e x y hop (.inl ⟨rfl, rfl⟩) hu hy h
        · exact bad h
      · split at h
        · rename_i hy; exact ok_nilcmp hM hg .neq true t t' e x y hop (.inr ⟨rfl, rfl⟩) hu hy h
        · exact bad h
      · exact bad h
    · exact ok_bin hM hg op t t' x y hop h
    · exact ok_bin hM hg op t t' x y hop h
    · rename_i hu
      split at h
      · exact ok_beq hM hg .eql false t t' x y hop (.inl ⟨rfl, rfl⟩) hu h
      · exact ok_beq hM hg .neq true t t' x y hop (.inr ⟨rfl, rfl⟩) hu h
      · exact bad h
    · exact bad h
  | unOp op t x => rw [hop] at h; exact ok_un hM hg op t x hop h
  | convert s d x =>
    rw [hop] at h; simp only [compOp] at h
    split at h
    · rename_i k0 k hs hd; exact ok_conv hM hg s d k k0 x hop hs hd h
    · exact bad h
  | makeFunc fn first caps =>
    rw [hop] at h; simp only [compOp] at h
    cases fn with
    | func f =>
      simp only at h
      split at h
      · rename_i h0; subst h0; exact ok_mkfn hM hg f caps hop h
      · exact bad h
    | _ => exact bad h
  | makeSlice t l c =>
    rw [hop] at h; simp only [compOp] at h
    split at h
    · rename_i e n b z ht; exact ok_mksl hM hg hN hμN t e n b z l c hop ht h
    · exact bad h
  | slice t x lo hi mx =>
    rw [hop] at h; simp only [compOp] at h
    split at h
    · rename_i e n b z ht; exact ok_slice hM hg t e n b z x lo hi mx hop ht h
    · exact bad h
  | fieldAddr t x f =>
    rw [hop] at h; simp only [compOp] at h
    split at h
    · rename_i off u hf
      split at h
      · rename_i n hn
        split at h
        · exact bad h
        · rename_i h0; exact ok_faddr hM hg t f u n off x hop hf hn h0 h
      · exact bad h
    · exact bad h
  | field t x f =>
    rw [hop] at h; simp only [compOp] at h
    split at h
    · rename_i off u hf
      split at h
      · rename_i ag n hag hn
        split at h
        · rename_i h1; exact ok_field hM hg t f u n off ag x hop hf hag hn h1 h
        · exact bad h
      · exact bad h
    · exact bad h
  | indexAddr t x i =>
    rw [hop] at h; simp only [compOp] at h
    split at h
    · rename_i e n b z ht; exact ok_iaddr hM hg t e n b z x i hop ht h
    · exact bad h
  | index t x i =>
    rw [hop] at h; simp only [compOp] at h
    split at h
    · rename_i len e hu
      split at h
      · rename_i ag n hag hn
        split at h
        · rename_i h1; exact ok_aindex hM hg t e n len ag x i hop hu hag hn h1 h
        · exact bad h
      · exact bad h
    · rename_i hu; exact ok_sindex hM hg t x i hop hu h
    · exact bad h
  | extract x i => rw [hop] at h; exact ok_ext hM hg x i hop h
  | call c =>
    rw [hop] at h; simp only [compOp] at h
    obtain ⟨callee, args, ats⟩ := c
    unfold compCall at h
    split at h
    · simp [evalCO] at h
    · rename_i x t hc ha ht
      simp only at hc ha ht
      have ha' : args = #[x] := by rw [← Array.toArray_toList (xs := args), ha]
      have ht' : ats = #[t] := by rw [← Array.toArray_toList (xs := ats), ht]
      subst hc; subst ha'; subst ht'
      split at h
      · rename_i e hu; exact ok_len hM hg t e x hop hu h
      · rename_i hu; exact ok_slen hM hg t x hop hu h
      · exact bad h
    · rename_i x t hc ha ht
      simp only at hc ha ht
      have ha' : args = #[x] := by rw [← Array.toArray_toList (xs := args), ha]
      have ht' : ats = #[t] := by rw [← Array.toArray_toList (xs := ats), ht]
      subst hc; subst ha'; subst ht'
      split at h
      · rename_i e hu; exact ok_cap hM hg t e x hop hu h
      · exact bad h
    · rename_i x y hc ha
      simp only at hc ha
      have ha' : args = #[x, y] := by rw [← Array.toArray_toList (xs := args), ha]
      subst hc; subst ha'
      exact ok_min hM hg x y ats hop h
    · rename_i x y hc ha
      simp only at hc ha
      have ha' : args = #[x, y] := by rw [← Array.toArray_toList (xs := args), ha]
      subst hc; subst ha'
      exact ok_max hM hg x y ats hop h
    · rename_i s x t u hc ha ht
      simp only at hc ha ht
      have ha' : args = #[s, x] := by rw [← Array.toArray_toList (xs := args), ha]
      have ht' : ats = #[t, u] := by rw [← Array.toArray_toList (xs := ats), ht]
      subst hc; subst ha'; subst ht'
      split at h
      · rename_i e n b z e' hti hu
        split at h
        · rename_i htu; subst htu; exact ok_append hM hg hN hμN t e n b z s x hop hti h
        · exact bad h
      · simp [evalCO] at h
      · exact bad h
    · rename_i d s t u hc ha ht
      simp only at hc ha ht
      have ha' : args = #[d, s] := by rw [← Array.toArray_toList (xs := args), ha]
      have ht' : ats = #[t, u] := by rw [← Array.toArray_toList (xs := ats), ht]
      subst hc; subst ha'; subst ht'
      split at h
      · rename_i e0 n _ _ e' hti hu; exact ok_copy hM hg t u e0 n _ e' _ d s hop hti hu h
      · exact bad h
    · split at h
      · simp [evalCO] at h
      · exact bad h
    · exact bad h
  | _ => rw [hop] at h; exact bad h

end Go.Proofs.Ytneoeegpceompaa.AM
