/-
The abstract machine, joined of its parts.
-/
import Derived.Test.YtneoeegpceompaaMA
import Derived.Lib.Strings
import Derived.Lib.Overlaps

set_option linter.unusedVariables false
set_option linter.unusedSimpArgs false
/-
The abstract machine, part 14: what one operation does, and what it looks at.
-/
namespace Go.Proofs.Ytneoeegpceompaa.AM
open Go

variable {P : Program}

def blks1 : AV → List Nat
  | .row b _ _ _ => [b]
  | .pt b _ _ _ => [b]
  | _ => []
def blks : AV → List Nat
  | .agg cs => cs.flatMap blks1
  | .fn _ cs => cs.flatMap blks1
  | x => blks1 x

/-- The blocks that an operation reads. -/
def rdCO (g : Nat → AV) : CO → List Nat
  | .load _ _ a => blks1 (ev g a)
  | .store _ a _ => blks1 (ev g a)
  | .cap x => blks1 (ev g x)
  | .append _ _ _ s x => blks1 (ev g s) ++ blks1 (ev g x)
  | .copy _ d s => blks1 (ev g d) ++ blks1 (ev g s)
  | .slice _ x _ (some _) none => blks1 (ev g x)
  | .appendz _ _ _ _ s _ => blks1 (ev g s)
  | .clear _ _ x => blks1 (ev g x)
  | _ => []

theorem fillAV_congr {g g' : Nat → AV} (pl : Nat → Option (Nat × Nat)) : ∀ (ps : List (Nat × Operand)) (l : List (Nat × Nat × Operand)) (cells : List AV), places ps pl = some l → (∀ p ∈ ps, ev g p.2 = ev g' p.2) → fillAV g cells l = fillAV g' cells l := by
  intro ps
  induction ps with
  | nil => intro l cells h _; simp only [places, Option.some.injEq] at h; subst h; rfl
  | cons p ps ih =>
    intro l cells h hp
    simp only [places] at h
    split at h
    · rename_i q l' hq hl'
      injection h with h
      subst h
      simp only [fillAV, hp p (by simp)]
      split
      · split
        · exact ih l' _ hl' (fun q hq => hp q (by simp [hq]))
        · rfl
      · rfl
    · cases h

theorem fillRows_congr {g g' : Nat → AV} (sz : Nat) : ∀ (ps : List (Nat × Operand)) (rows : List (List AV)), (∀ p ∈ ps, ev g p.2 = ev g' p.2) → fillRows g sz rows ps = fillRows g' sz rows ps := by
  intro ps
  induction ps with
  | nil => intro rows _; rfl
  | cons p ps ih =>
    intro rows hp
    obtain ⟨i, x⟩ := p
    simp only [fillRows, hp (i, x) (by simp)]
    split
    · split
      · exact ih _ (fun q hq => hp q (by simp [hq]))
      · rfl
    · rfl

theorem bnd_congr {g g' : Nat → AV} {o : Option Operand} (h : ∀ x, o = some x → ev g x = ev g' x) : bnd g o = bnd g' o := by
  cases o with
  | none => rfl
  | some x => simp only [bnd, h x rfl]

theorem compParts_congr {g g' : Nat → AV} {t : Nat} {ps : List (Nat × Operand)} {l : List (Nat × Nat × Operand)} (h : compParts P t ps = some l) (hp : ∀ p ∈ ps, ev g p.2 = ev g' p.2) (cells : List AV) : fillAV g cells l = fillAV g' cells l := by
  unfold compParts at h
  split at h
  · split at h
    · exact fillAV_congr _ ps l cells h hp
    · cases h
  · split at h
    · exact fillAV_congr _ ps l cells h hp
    · cases h
  · cases h

/-- An operation comes to the same where what it looks at is the same. -/
theorem evalCO_g {g g' : Nat → AV} (μ : Mu) (N : Nat) (op : Op) (h : ∀ x ∈ op.operands, ev g x = ev g' x) : evalCO g μ N (compOp P op) = evalCO g' μ N (compOp P op) ∧ rdCO g (compOp P op) = rdCO g' (compOp P op) := by
  have bad : evalCO g μ N .bad = evalCO g' μ N .bad ∧ rdCO g .bad = rdCO g' .bad := ⟨rfl, rfl⟩
  cases op with
  | move x => have h1 := h x (by simp [Op.operands]); simp only [compOp, evalCO, rdCO, h1, and_self]
  | assign x => have h1 := h x (by simp [Op.operands]); simp only [compOp, evalCO, rdCO, h1, and_self]
  | pick c x y =>
    have h1 := h c (by simp [Op.operands]); have h2 := h x (by simp [Op.operands]); have h3 := h y (by simp [Op.operands])
    simp only [compOp, evalCO, rdCO, h1, h2, h3, and_self]
  | alloc e => simp only [compOp]; split <;> exact ⟨rfl, rfl⟩
  | box e x => have h1 := h x (by simp [Op.operands]); simp only [compOp]; split <;> simp only [evalCO, rdCO, h1, and_self]
  | build t ps =>
    simp only [compOp]
    split
    · rename_i z l hz hl _
      have := compParts_congr (P := P) (g := g) (g' := g') hl (fun p hp => h p.2 (by simp only [Op.operands]; simp; exact ⟨p.1, by simpa using hp⟩)) (z.map .v)
      simp only [evalCO, rdCO, this, and_self]
    · exact bad
  | buildSlice t len ps =>
    simp only [compOp]
    split
    · rename_i e n b z ht
      split
      · have := fillRows_congr (g := g) (g' := g') n ps.toList (List.replicate len (z.map .v)) (fun p hp => h p.2 (by simp only [Op.operands]; simp; exact ⟨p.1, by simpa using hp⟩))
        simp only [evalCO, rdCO, this, and_self]
      · exact bad
    · exact bad
  | load t x =>
    have h1 := h x (by simp [Op.operands])
    simp only [compOp]
    split
    · split
      · simp only [evalCO, rdCO, h1, and_self]
      · exact bad
    · exact bad
  | store t x y =>
    have h1 := h x (by simp [Op.operands]); have h2 := h y (by simp [Op.operands])
    simp only [compOp]
    split
    · simp only [evalCO, rdCO, h1, h2, and_self]
    · exact bad
  | nilCheck x => have h1 := h x (by simp [Op.operands]); simp only [compOp, evalCO, rdCO, h1, and_self]
  | binOp op t x y t' =>
    have h1 := h x (by simp [Op.operands]); have h2 := h y (by simp [Op.operands])
    simp only [compOp, compBin]
    (repeat' split) <;> first | exact bad | simp only [evalCO, rdCO, h1, h2, and_self]
  | unOp op t x => have h1 := h x (by simp [Op.operands]); simp only [compOp, evalCO, rdCO, h1, and_self]
  | convert s d x =>
    have h1 := h x (by simp [Op.operands])
    simp only [compOp]
    split
    · simp only [evalCO, rdCO, h1, and_self]
    · exact bad
  | makeFunc fn first caps =>
    simp only [compOp]
    cases fn with
    | func f =>
      simp only
      split
      · rename_i h0
        have : caps.toList.map (ev g) = caps.toList.map (ev g') := List.map_congr_left fun x hx => h x (by simp only [Op.operands]; simp; exact .inr (by simpa using hx))
        simp only [evalCO, rdCO, this, and_self]
      · exact bad
    | _ => exact bad
  | makeSlice t l c =>
    have h1 := h l (by simp [Op.operands]); have h2 := h c (by simp [Op.operands])
    simp only [compOp]
    split
    · simp only [evalCO, rdCO, h1, h2, and_self]
    · exact bad
  | slice t x lo hi mx =>
    have h1 := h x (by simp [Op.operands])
    have h2 : bnd g lo = bnd g' lo := bnd_congr (fun y hy => h y (by simp [Op.operands, hy]))
    have h3 : bnd g hi = bnd g' hi := bnd_congr (fun y hy => h y (by simp [Op.operands, hy]))
    have h4 : bnd g mx = bnd g' mx := bnd_congr (fun y hy => h y (by simp [Op.operands, hy]))
    simp only [compOp]
    split
    · clear h
      cases hi <;> cases mx <;> simp only [evalCO, rdCO, h1, h2, h3, h4, and_self]
    · exact bad
  | fieldAddr t x f =>
    have h1 := h x (by simp [Op.operands])
    simp only [compOp]
    (repeat' split) <;> first | exact bad | simp only [evalCO, rdCO, h1, and_self]
  | field t x f =>
    have h1 := h x (by simp [Op.operands])
    simp only [compOp]
    (repeat' split) <;> first | exact bad | simp only [evalCO, rdCO, h1, and_self]
  | indexAddr t x i =>
    have h1 := h x (by simp [Op.operands]); have h2 := h i (by simp [Op.operands])
    simp only [compOp]
    (repeat' split) <;> first | exact bad | simp only [evalCO, rdCO, h1, h2, and_self]
  | index t x i =>
    have h1 := h x (by simp [Op.operands]); have h2 := h i (by simp [Op.operands])
    simp only [compOp]
    (repeat' split) <;> first | exact bad | simp only [evalCO, rdCO, h1, h2, and_self]
  | extract x i => have h1 := h x (by simp [Op.operands]); simp only [compOp, evalCO, rdCO, h1, and_self]
  | call c =>
    obtain ⟨callee, args, ats⟩ := c
    have ha : ∀ x ∈ args.toList, ev g x = ev g' x := fun x hx => h x (by simp only [Op.operands, Call.operands]; simp; exact .inr (by simpa using hx))
    simp only [compOp, compCall]
    split
    · exact ⟨rfl, rfl⟩
    · rename_i x t hx ht
      have h1 := ha x (by rw [show args.toList = _ from hx]; simp)
      (repeat' split) <;> first | exact bad | simp only [evalCO, rdCO, h1, and_self]
    · rename_i x t hx ht
      have h1 := ha x (by rw [show args.toList = _ from hx]; simp)
      (repeat' split) <;> first | exact bad | simp only [evalCO, rdCO, h1, and_self]
    · rename_i x y hx
      have h1 := ha x (by rw [show args.toList = _ from hx]; simp)
      have h2 := ha y (by rw [show args.toList = _ from hx]; simp)
      simp only [evalCO, rdCO, h1, h2, and_self]
    · rename_i x y hx
      have h1 := ha x (by rw [show args.toList = _ from hx]; simp)
      have h2 := ha y (by rw [show args.toList = _ from hx]; simp)
      simp only [evalCO, rdCO, h1, h2, and_self]
    · rename_i s x t u hx ht
      have h1 := ha s (by rw [show args.toList = _ from hx]; simp)
      have h2 := ha x (by rw [show args.toList = _ from hx]; simp)
      (repeat' split) <;> first | exact bad | (simp only [evalCO, rdCO, h1, h2, and_self]; done) | exact ⟨rfl, rfl⟩
    · rename_i s x t u hx ht
      have h1 := ha s (by rw [show args.toList = _ from hx]; simp)
      have h2 := ha x (by rw [show args.toList = _ from hx]; simp)
      (repeat' split) <;> first | exact bad | simp only [evalCO, rdCO, h1, h2, and_self]
    · rename_i x t hx ht
      have h1 := ha x (by rw [show args.toList = _ from hx]; simp)
      (repeat' split) <;> first | exact bad | simp only [evalCO, rdCO, h1, and_self]
    · exact bad
  | _ => exact bad

open Classical in
theorem appendAV_v {μ : Mu} (N e sz : Nat) (x : Value) (xs : List (List AV)) : appendAV μ N e sz (.v x) xs = if x = .slice none 0 0 then appendAV μ N e sz .z0 xs else none := by
  unfold appendAV
  split
  · rename_i h; cases h
  · rename_i h; injection h with h; subst h; rw [if_pos rfl]
  · rename_i h; cases h
  · rename_i h1 h2 h3
    rw [if_neg (fun e => h2 (by rw [e]))]

theorem rowsAV_congr {μ μ' : Mu} (sz : Nat) (x : AV) (h : ∀ b ∈ blks1 x, μ b = μ' b) : rowsAV μ sz x = rowsAV μ' sz x := by
  cases x with
  | row b s off len => simp only [rowsAV, h b (by simp [blks1])]
  | v x =>
    unfold rowsAV
    split <;> first | rfl | (rename_i h; cases h)
  | _ => rfl

theorem loadAV_congr {μ μ' : Mu} (ag : Bool) (n : Nat) (x : AV) (h : ∀ b ∈ blks1 x, μ b = μ' b) : loadAV μ ag n x = loadAV μ' ag n x := by
  cases x with
  | pt b s i o => simp only [loadAV, h b (by simp [blks1])]
  | _ => rfl

theorem storeAV_congr {μ μ' : Mu} (n : Nat) (x y : AV) (h : ∀ b ∈ blks1 x, μ b = μ' b) : storeAV μ n x y = storeAV μ' n x y := by
  cases x with
  | pt b s i o => simp only [storeAV, h b (by simp [blks1])]
  | _ => rfl

theorem appendAV_congr {μ μ' : Mu} (N : Nat) (e sz : Nat) (x : AV) (xs : List (List AV)) (h : ∀ b ∈ blks1 x, μ b = μ' b) : appendAV μ N e sz x xs = appendAV μ' N e sz x xs := by
  cases x with
  | row b s off len => simp only [appendAV, h b (by simp [blks1])]
  | v x => rw [appendAV_v, appendAV_v]; rfl
  | _ => rfl

theorem srcAV_congr {μ μ' : Mu} (sz : Nat) (x : AV) (h : ∀ b ∈ blks1 x, μ b = μ' b) : srcAV μ sz x = srcAV μ' sz x := by
  cases x with
  | row b s off len => simp only [srcAV, h b (by simp [blks1])]
  | v x => simp only [srcAV, rowsAV_congr sz (.v x) h]
  | _ => rfl

theorem sliceX_congr {μ μ' : Mu} (sz : Nat) (x : AV) (lo hi : Option (Option Int)) (h : ∀ b ∈ blks1 x, μ b = μ' b) : sliceX μ sz x lo hi = sliceX μ' sz x lo hi := by
  cases x with
  | row b s off len =>
    unfold sliceX
    split
    · rename_i hx
      injection hx with hx
      subst hx
      rw [h b (by simp [blks1])]
    · rfl
  | _ => rfl

open Classical in
theorem appzAV_v {μ : Mu} (N e sz : Nat) (z : List Value) (x : Value) (n : Nat) : appzAV μ N e sz z (.v x) n = if x = .slice none 0 0 then appzAV μ N e sz z .z0 n else none := by
  unfold appzAV
  split
  · rename_i h; cases h
  · rename_i h; injection h with h; subst h; rw [if_pos rfl]
  · rename_i h; cases h
  · rename_i h1 h2 h3
    rw [if_neg (fun e => h2 (by rw [e]))]

theorem appzAV_congr {μ μ' : Mu} (N : Nat) (e sz : Nat) (z : List Value) (x : AV) (n : Nat) (h : ∀ b ∈ blks1 x, μ b = μ' b) : appzAV μ N e sz z x n = appzAV μ' N e sz z x n := by
  cases x with
  | row b s off len => simp only [appzAV, h b (by simp [blks1])]
  | v x => rw [appzAV_v, appzAV_v]; rfl
  | _ => rfl

/-- .. and where the blocks that it reads are the same. -/
theorem evalCO_m {μ μ' : Mu} (g : Nat → AV) (N : Nat) (co : CO) (h : ∀ b ∈ rdCO g co, μ b = μ' b) : evalCO g μ N co = evalCO g μ' N co := by
  cases co with
  | load ag n a => simp only [evalCO]; rw [loadAV_congr ag n _ h]
  | store n a x => simp only [evalCO]; rw [storeAV_congr n _ _ h]
  | cap x =>
    simp only [evalCO]
    simp only [rdCO] at h
    generalize ev g x = p at h ⊢
    cases p with
    | row b s off len => simp only [h b (by simp [blks1])]
    | v x => split <;> first | rfl | (rename_i h; cases h; done) | skip
    | _ => rfl
  | append e n b s x =>
    simp only [evalCO]
    rw [rowsAV_congr n _ (fun b hb => h b (by simp only [rdCO]; exact List.mem_append_right _ hb))]
    split
    · exact appendAV_congr N e n _ _ (fun b hb => h b (by simp only [rdCO]; exact List.mem_append_left _ hb))
    · rfl
  | copy n d s =>
    simp only [evalCO]
    rw [srcAV_congr n _ (fun b hb => h b (by simp only [rdCO]; exact List.mem_append_right _ hb))]
    have h2 : ∀ b ∈ blks1 (ev g d), μ b = μ' b := fun b hb => h b (by simp only [rdCO]; exact List.mem_append_left _ hb)
    generalize ev g d = p at h2 ⊢
    cases p with
    | row b s off len =>
      have h3 := h2 b (by simp [blks1])
      split <;> first | rfl | skip
      rename_i h4 _
      injection h4 with h4
      subst h4
      rw [h3]
    | _ => rfl
  | slice n x lo hi mx =>
    simp only [evalCO]
    split
    · rfl
    · cases hi with
      | none => rfl
      | some y =>
        cases mx with
        | none => simp only; rw [sliceX_congr n _ _ _ h]
        | some m => rfl
  | appendz e n b z s x =>
    simp only [evalCO]
    split
    · rw [appzAV_congr N e n z _ _ h]
    · rfl
  | clear n z x =>
    simp only [evalCO]
    simp only [rdCO] at h
    generalize ev g x = p at h ⊢
    cases p with
    | row b s off len => simp only [h b (by simp [blks1])]
    | _ => rfl
  | _ => rfl

theorem VL1.congr {μ μ' : Mu} {x y : AV} (h : ∀ b ∈ blks1 x, μ b = μ' b) (k : VL1 μ x y) : VL1 μ' x y := by
  cases k with
  | refl _ => exact .refl _
  | any _ => exact .any _
  | fz b sz off len k h1 hm hs hl => exact .fz b sz off len k (by rw [← h b (by simp [blks1])]; exact h1) hm hs hl
  | pfz b sz i o k r h1 hm hs hr => exact .pfz b sz i o k r (by rw [← h b (by simp [blks1])]; exact h1) hm hs hr
  | nil sz => exact .nil sz
  | z0 sz => exact .z0 sz
  | r0 b sz sz' off => exact .r0 b sz sz' off
  | s0 sz sz' => exact .s0 sz sz'

theorem VLs1.congr {μ μ' : Mu} {xs ys : List AV} (h : ∀ b ∈ xs.flatMap blks1, μ b = μ' b) (k : VLs1 μ xs ys) : VLs1 μ' xs ys := by
  induction k with
  | nil => exact .nil
  | cons k _ ih => exact .cons (k.congr fun b hb => h b (by simp [hb])) (ih fun b hb => h b (by rw [List.flatMap_cons]; exact List.mem_append_right _ hb))

theorem VL2.congr {μ μ' : Mu} {x y : AV} (h : ∀ b ∈ blks x, μ b = μ' b) (k : VL2 μ x y) : VL2 μ' x y := by
  cases k with
  | one k =>
    by_cases hx : blks x = blks1 x
    · exact .one (k.congr fun b hb => h b (by rw [hx]; exact hb))
    · cases x with
      | agg cs => exact .one (k.congr fun b hb => by simp [blks1] at hb)
      | fn f cs => exact .one (k.congr fun b hb => by simp [blks1] at hb)
      | _ => exact absurd rfl hx
  | agg k => exact .agg (k.congr h)
  | fn k => exact .fn (k.congr h)

theorem VLs2.congr {μ μ' : Mu} {xs ys : List AV} (h : ∀ b ∈ xs.flatMap blks, μ b = μ' b) (k : VLs2 μ xs ys) : VLs2 μ' xs ys := by
  induction k with
  | nil => exact .nil
  | cons k _ ih => exact .cons (k.congr fun b hb => h b (by simp [hb])) (ih fun b hb => h b (by rw [List.flatMap_cons]; exact List.mem_append_right _ hb))

theorem frzW_congr (fz : List Nat) : ∀ {μ μ' : Mu}, (∀ b ∈ fz, μ b = μ' b) → frzW μ fz = frzW μ' fz := by
  induction fz with
  | nil => intro μ μ' _; rfl
  | cons c r ih =>
    intro μ μ' h
    simp only [frzW]
    rw [h c (by simp)]
    split
    · rename_i k hk
      congr 1
      exact ih (fun b hb => by
        by_cases e : b = c
        · subst e; simp [upd_same]
        · rw [upd_ne _ _ e, upd_ne _ _ e]; exact h b (by simp [hb]))
    · exact ih (fun b hb => h b (by simp [hb]))

theorem pureR_nil {y : Option AV} {x : AV} {wr : Wr} (h : pureR y = some (x, wr)) : wr = [] := (pureR_inv h).2
theorem pureV_nil {y : Option Value} {x : AV} {wr : Wr} (h : pureV y = some (x, wr)) : wr = [] := by obtain ⟨_, _, _, h2⟩ := pureV_inv h; exact h2

/-- An operation that touches no memory. -/
theorem touches_no {g : Nat → AV} {μ : Mu} {N : Nat} {co : CO} (ht : co.touches = false) {v : AV} {wr : Wr} (h : evalCO g μ N co = some (v, wr)) : wr = [] ∧ rdCO g co = [] := by
  cases co with
  | load => cases ht
  | store => cases ht
  | call => cases ht
  | append => cases ht
  | appendz => cases ht
  | copy => cases ht
  | clear => cases ht
  | alloc => cases ht
  | box => cases ht
  | bslice => cases ht
  | mksl => cases ht
  | cap => cases ht
  | mov x => exact ⟨pureR_nil h, rfl⟩
  | build z ps => exact ⟨pureR_nil h, rfl⟩
  | mkfn f cap => exact ⟨pureR_nil h, rfl⟩
  | slice n x lo hi mx =>
    have key : (hi = none ∨ mx ≠ none) → wr = [] ∧ rdCO g (.slice n x lo hi mx) = [] := fun hk => by
      simp only [evalCO] at h
      split at h
      · refine ⟨pureR_nil h, ?_⟩
        cases hi with
        | none => rfl
        | some y => cases mx with
          | none => rcases hk with hk | hk <;> simp at hk
          | some m => rfl
      · cases hi with
        | none => cases h
        | some y => cases mx with
          | none => rcases hk with hk | hk <;> simp at hk
          | some m => cases h
    cases hi with
    | none => exact key (.inl rfl)
    | some y => cases mx with
      | none => cases ht
      | some m => exact key (.inr (by simp))
  | bin => exact ⟨pureV_nil h, rfl⟩
  | nilcmp => exact ⟨pureV_nil h, rfl⟩
  | un => exact ⟨pureV_nil h, rfl⟩
  | len => exact ⟨pureV_nil h, rfl⟩
  | bad => cases h
  | pick c a b => simp only [evalCO] at h; split at h <;> first | exact ⟨pureR_nil h, rfl⟩ | cases h
  | nilck x => simp only [evalCO] at h; split at h <;> first | exact ⟨pureR_nil h, rfl⟩ | cases h
  | beq => simp only [evalCO] at h; split at h <;> first | exact ⟨pureV_nil h, rfl⟩ | cases h
  | eqs => simp only [evalCO] at h; split at h <;> first | exact ⟨pureV_nil h, rfl⟩ | cases h
  | conv => simp only [evalCO] at h; split at h <;> first | exact ⟨pureV_nil h, rfl⟩ | cases h
  | faddr => simp only [evalCO] at h; split at h <;> first | exact ⟨pureR_nil h, rfl⟩ | cases h
  | slen => simp only [evalCO] at h; split at h <;> first | exact ⟨pureV_nil h, rfl⟩ | cases h
  | ext => simp only [evalCO] at h; split at h <;> first | exact ⟨pureR_nil h, rfl⟩ | cases h
  | field => simp only [evalCO] at h; split at h <;> first | (split at h <;> first | exact ⟨pureR_nil h, rfl⟩ | cases h) | cases h
  | iaddr => simp only [evalCO] at h; split at h <;> first | (split at h <;> first | exact ⟨pureR_nil h, rfl⟩ | cases h) | cases h
  | aindex => simp only [evalCO] at h; split at h <;> first | (split at h <;> first | exact ⟨pureR_nil h, rfl⟩ | cases h) | cases h
  | sindex => simp only [evalCO] at h; split at h <;> first | (split at h <;> first | exact ⟨pureV_nil h, rfl⟩ | cases h) | cases h
  | min => simp only [evalCO] at h; split at h <;> first | (split at h <;> first | exact ⟨pureV_nil h, rfl⟩ | cases h) | cases h
  | max => simp only [evalCO] at h; split at h <;> first | (split at h <;> first | exact ⟨pureV_nil h, rfl⟩ | cases h) | cases h

/-- An operation that reads alone. -/
theorem reads_no {g : Nat → AV} {μ : Mu} {N : Nat} {co : CO} (ht : co.reads = true) {v : AV} {wr : Wr} (h : evalCO g μ N co = some (v, wr)) : wr = [] := by
  cases co with
  | load => exact pureR_nil h
  | cap x =>
    simp only [evalCO] at h
    split at h
    · split at h
      · split at h
        · split at h
          · exact pureV_nil h
          · cases h
        · cases h
      · cases h
    · exact pureV_nil h
    · exact pureV_nil h
    · cases h
  | slice n x lo hi mx =>
    simp only [evalCO] at h
    split at h
    · exact pureR_nil h
    · split at h
      · exact pureR_nil h
      · cases h
  | _ => cases ht

end Go.Proofs.Ytneoeegpceompaa.AM

/-
The abstract machine, part 15: abstract states, and the rules for code.
-/
namespace Go.Proofs.Ytneoeegpceompaa.AM
open Go

variable {P : Program}

/-! ### Loops, round by round -/

def LoopAt (P : Program) (c : Code) (Q : Exit → Act → World → Prop) (a : Act) (w : World) : Prop :=
  ∀ (b : Frame) (k : List Item) (cs : List Frame), ∃ e a' w', Q e a' w' ∧ Arrives P (lone (b.at a (.code c :: .inLoop c :: k)) cs w) b k cs e a' w'

theorem loopAt_round {c : Code} {Q : Exit → Act → World → Prop} {a : Act} {w : World} (h : c.wp P (Exit.then (LoopAt P c Q) Q) a w) : LoopAt P c Q a w := by
  intro b k cs
  obtain ⟨e, a₁, w₁, hq, harr⟩ := h b (.inLoop c :: k) cs
  cases e with
  | normal =>
    obtain ⟨e₂, a₂, w₂, hq₂, harr₂⟩ := hq b k cs
    exact ⟨e₂, a₂, w₂, hq₂, .of_steps (Steps.trans harr (.one step_inLoop)) harr₂⟩
  | exit id => exact ⟨_, a₁, w₁, hq, .pass (x := .inLoop c) rfl (fun _ _ => .inl (by simp)) harr⟩
  | goto l => exact ⟨_, a₁, w₁, hq, .pass (x := .inLoop c) rfl (fun _ _ => .inl (by simp)) harr⟩
  | ret => exact ⟨_, a₁, w₁, hq, .pass (x := .inLoop c) rfl (fun _ _ => .inl (by simp)) harr⟩
  | panic ch => exact ⟨_, a₁, w₁, hq, .pass (x := .inLoop c) rfl (fun _ _ => .inl (by simp)) harr⟩
  | outgrown => exact ⟨_, a₁, w₁, hq, .pass (x := .inLoop c) rfl (fun _ _ => .inl (by simp)) harr⟩

theorem loopAt_mono {c : Code} {Q Q' : Exit → Act → World → Prop} {a : Act} {w : World} (h : LoopAt P c Q a w) (hq : ∀ e a w, Q e a w → Q' e a w) : LoopAt P c Q' a w :=
  fun b k cs => let ⟨e, a', w', q, r⟩ := h b k cs; ⟨e, a', w', hq _ _ _ q, r⟩

theorem wp_loopAt {c : Code} {Q : Exit → Act → World → Prop} {a : Act} {w : World} (h : LoopAt P c Q a w) : (Code.loop c).wp P Q a w := by
  intro b k cs
  obtain ⟨e, a', w', hq, harr⟩ := h b k cs
  exact ⟨e, a', w', hq, .of_steps (.one step_loop) harr⟩

/-! ### States -/

/-- The temporaries that are known, the newest first. -/
def getT : List (Nat × AV) → Nat → AV
  | [], _ => .any
  | (s, x) :: r, t => if s = t then x else getT r t

def setT (T : List (Nat × AV)) (dst : Option Nat) (v : AV) : List (Nat × AV) := match dst with
  | none => T
  | some d => (d, v) :: T

def getM : List (Nat × Blk) → Mu
  | [], _ => none
  | (s, x) :: r, b => if s = b then some x else getM r b

def delM : List (Nat × Blk) → Nat → List (Nat × Blk)
  | [], _ => []
  | (s, x) :: r, b => if s = b then delM r b else (s, x) :: delM r b

def wrM : List (Nat × Blk) → Wr → List (Nat × Blk)
  | M, [] => M
  | M, (b, none) :: r => wrM (delM M b) r
  | M, (b, some k) :: r => wrM ((b, k) :: delM M b) r

theorem getM_del (M : List (Nat × Blk)) (b c : Nat) : getM (delM M b) c = if c = b then none else getM M c := by
  induction M with
  | nil => simp [delM, getM]
  | cons p r ih =>
    obtain ⟨s, x⟩ := p
    simp only [delM]
    by_cases h : s = b
    · simp only [h, if_true]
      rw [ih]
      by_cases hc : c = b
      · simp [hc]
      · simp only [hc, if_false, getM]
        rw [if_neg (fun e => hc e.symm)]
    · simp only [h, if_false, getM]
      rw [ih]
      by_cases hc : c = b
      · subst hc; simp [h]
      · simp [hc]

theorem getM_wr (wr : Wr) : ∀ (M : List (Nat × Blk)), getM (wrM M wr) = app (getM M) wr := by
  induction wr with
  | nil => intro M; rfl
  | cons p r ih =>
    intro M
    obtain ⟨b, x⟩ := p
    cases x with
    | none =>
      simp only [wrM, app]
      rw [ih]
      congr 1
      funext c
      rw [getM_del]; rfl
    | some k =>
      simp only [wrM, app]
      rw [ih]
      congr 1
      funext c
      simp only [getM, upd]
      by_cases h : c = b
      · subst h; simp
      · rw [if_neg (fun e => h e.symm), if_neg h, getM_del, if_neg h]

structure St where
  T : List (Nat × AV)
  M : List (Nat × Blk)
  d : Nat
  nx : Nat

/-- A call's frame: what it has been given. -/
structure Fr where
  X : Nat → Prop
  w0 : World
  own0 : Nat → Prop
  io0 : Nat → Option (Option Nat)
  nt : Nat
  D : Nat
  N : Nat

structure HStep (own : Nat → Prop) (w w' : World) : Prop where
  os : w'.os = w.os
  tape : w'.tape = w.tape
  output : w'.output = w.output
  size : w.heap.size ≤ w'.heap.size
  keep : ∀ k, k < w.heap.size → ¬ own k → w'.heap[k]? = w.heap[k]?
  shape : ∀ (k : Nat) (cur : Array Value) (ty : TypeId), w.heap[k]? = some (.cells cur ty (0, 0)) → ∃ cur' : Array Value, w'.heap[k]? = some (.cells cur' ty (0, 0)) ∧ cur'.size = cur.size

theorem HStep.refl (own : Nat → Prop) (w : World) : HStep own w w := ⟨rfl, rfl, rfl, Nat.le_refl _, fun _ _ _ => rfl, fun _ cur _ h => ⟨cur, h, rfl⟩⟩

/-- The state of a call, over whatever temporaries, memory, free names. -/
structure ConcF (F : Fr) (io : Nat → Option (Option Nat)) (g : Nat → AV) (μ : Mu) (fr : Nat → Prop) (a : Act) (w : World) : Prop where
  mem : Mem F.X io μ w
  tmps : ∀ t, Rel (envOf F.X io μ w) (g t) (a.tmps.getD t undef)
  size : a.tmps.size = F.nt
  defers : a.defers = []
  fresh : ∀ b, fr b → io b = none
  heap : HStep F.own0 F.w0 w
  own : ∀ b blk k, μ b = some blk → blk.mu = true → io b = some (some k) → F.own0 k ∨ F.w0.heap.size ≤ k
  pre : ∀ b k, F.io0 b = some k → io b = some k
  top : ∃ D, ∀ b, Gar D b → io b = none
  free : ∀ b, ¬ nbr F.N b → ¬ Gar F.D b → F.io0 b = none → io b = none

/-- The names that are free: the result's, and the frame's from some number on. -/
def frS (F : Fr) (d nx b : Nat) : Prop := nbr F.N b ∨ ∃ k, nx ≤ k ∧ nbr (nm d k) b

structure Conc (F : Fr) (io : Nat → Option (Option Nat)) (S : St) (a : Act) (w : World) : Prop where
  c : ConcF F io (getT S.T) (getM S.M) (frS F S.d S.nx) a w
  low : F.D ≤ S.d
  outN : ¬ Gar F.D F.N
  n4 : F.N % 4 = 0

/-- What the frame has seen so far stays true over a step. -/
theorem ConcF.hstep {F : Fr} {io : Nat → Option (Option Nat)} {g : Nat → AV} {μ : Mu} {fr : Nat → Prop} {a : Act} {w : World} (h : ConcF F io g μ fr a w) {A : Nat → Prop} {io' : Nat → Option (Option Nat)} {μ' : Mu} {w' : World} (hs : StepA F.X A io μ w io' μ' w') :
    HStep F.own0 F.w0 w' ∧ ∀ b blk k, μ' b = some blk → blk.mu = true → io' b = some (some k) → F.own0 k ∨ F.w0.heap.size ≤ k := by
  refine ⟨⟨hs.os.trans h.heap.os, hs.tape.trans h.heap.tape, hs.output.trans h.heap.output, Nat.le_trans h.heap.size hs.size, fun k hk hn => ?_, fun k cur ty hc => ?_⟩, fun b blk k hb hm hk => ?_⟩
  · rw [hs.keep k (Nat.lt_of_lt_of_le hk h.heap.size) (fun b blk hb hm hio => ?_)]
    · exact h.heap.keep k hk hn
    · rcases h.own b blk k hb hm hio with h1 | h1
      · exact hn h1
      · omega
  · obtain ⟨c1, h1, s1⟩ := h.heap.shape k cur ty hc
    obtain ⟨c2, h2, s2⟩ := hs.shape k c1 ty h1
    exact ⟨c2, h2, s2.trans s1⟩
  · rcases hs.own b blk k hb hm hk with ⟨b0, blk0, h1, h2, h3⟩ | h1
    · exact h.own b0 blk0 k h1 h2 h3
    · exact .inr (Nat.le_trans h.heap.size h1)

theorem ConcF.step {F : Fr} {io : Nat → Option (Option Nat)} {g : Nat → AV} {μ : Mu} {fr : Nat → Prop} {a : Act} {w : World} (h : ConcF F io g μ fr a w) {A : Nat → Prop} {io' : Nat → Option (Option Nat)} {μ' : Mu} {w' : World} (hs : StepA F.X A io μ w io' μ' w')
    {g' : Nat → AV} {a' : Act} (hg : ∀ t, Rel (envOf F.X io' μ' w') (g' t) (a'.tmps.getD t undef)) (hsz : a'.tmps.size = a.tmps.size) (hdf : a'.defers = a.defers) {fr' : Nat → Prop} (hfr : ∀ b, fr' b → fr b ∧ ¬ A b) (hA : ∀ b, A b → Gar F.D b) : ConcF F io' g' μ' fr' a' w' where
  mem := hs.mem
  tmps := hg
  size := hsz.trans h.size
  defers := hdf.trans h.defers
  fresh b hb := hs.free b (hfr b hb).2 (h.fresh b (hfr b hb).1)
  heap := (h.hstep hs).1
  own := (h.hstep hs).2
  pre b k hb := hs.ios b k (h.pre b k hb)
  top := hs.top h.top
  free b h1 h2 h3 := hs.free b (fun ha => h2 (hA b ha)) (h.free b h1 h2 h3)

/-! ### The judgement -/

abbrev Post := Exit → St → Prop

def Post.conc (F : Fr) (Q : Post) : Exit → Act → World → Prop := fun e a w => ∃ io S, Q e S ∧ Conc F io S a w

/-- The compact code does so, wherever it comes from. -/
def Safe (P : Program) (nt : Nat) (cc : CC) (S : St) (Q : Post) : Prop :=
  ∀ c, compCode P nt c = cc → ∀ F io a w, F.nt = nt → Conc F io S a w → c.wp P (Post.conc F Q) a w

def SafeL (P : Program) (nt : Nat) (cc : CC) (S : St) (Q : Post) : Prop :=
  ∀ c, compCode P nt c = cc → ∀ F io a w, F.nt = nt → Conc F io S a w → LoopAt P c (Post.conc F Q) a w

def thenQ (next : St → Prop) (Q : Post) : Post := fun e S => match e with
  | .normal => next S
  | e => Q e S

def blockQ (id : Nat) (Q : Post) : Post := fun e S => match e with
  | .exit id' => if id' = id then Q .normal S else Q (.exit id') S
  | e => Q e S

variable {nt : Nat}

theorem Safe.mono {cc : CC} {S : St} {Q Q' : Post} (h : Safe P nt cc S Q) (hq : ∀ e S, Q e S → Q' e S) : Safe P nt cc S Q' := fun c hc F io a w hn hC =>
  wp_mono (h c hc F io a w hn hC) fun _ _ _ ⟨io', S', hQ, hC'⟩ => ⟨io', S', hq _ _ hQ, hC'⟩

theorem comp_skip {c : Code} (h : compCode P nt c = .skip) : c = .skip := by
  cases c with
  | skip => rfl
  | region id ops draw => simp only [compCode] at h; (repeat' split at h) <;> cases h
  | _ => first | (simp only [compCode] at h; cases h; done) | cases h

theorem safe_skip {S : St} {Q : Post} (h : Q .normal S) : Safe P nt .skip S Q := fun c hc F io a w _ hC => by
  rw [comp_skip hc]
  exact wp_skip ⟨io, S, h, hC⟩

theorem comp_ret {c : Code} (h : compCode P nt c = .ret) : c = .ret := by
  cases c with
  | ret => rfl
  | region id ops draw => simp only [compCode] at h; (repeat' split at h) <;> cases h
  | _ => first | (simp only [compCode] at h; cases h; done) | cases h

theorem safe_ret {S : St} {Q : Post} (h : Q .ret S) : Safe P nt .ret S Q := fun c hc F io a w _ hC => by
  rw [comp_ret hc]
  exact wp_ret ⟨io, S, h, hC⟩

theorem comp_exit {c : Code} {id : Nat} (h : compCode P nt c = .exit id) : c = .exit id := by
  cases c with
  | exit i => simp only [compCode, CC.exit.injEq] at h; rw [h]
  | region id ops draw => simp only [compCode] at h; (repeat' split at h) <;> cases h
  | _ => first | (simp only [compCode] at h; cases h; done) | cases h

theorem safe_exit {S : St} {id : Nat} {Q : Post} (h : Q (.exit id) S) : Safe P nt (.exit id) S Q := fun c hc F io a w _ hC => by
  rw [comp_exit hc]
  exact wp_exit ⟨io, S, h, hC⟩

theorem comp_seq {c : Code} {x y : CC} (h : compCode P nt c = .seq x y) : ∃ a b, c = .seq a b ∧ compCode P nt a = x ∧ compCode P nt b = y := by
  cases c with
  | seq a b => simp only [compCode, CC.seq.injEq] at h; exact ⟨a, b, rfl, h.1, h.2⟩
  | region id ops draw => simp only [compCode] at h; (repeat' split at h) <;> cases h
  | _ => first | (simp only [compCode] at h; cases h; done) | cases h

theorem safe_seq {x y : CC} {S : St} {Q : Post} (h : Safe P nt x S (thenQ (fun S' => Safe P nt y S' Q) Q)) : Safe P nt (.seq x y) S Q := fun c hc F io a w hn hC => by
  obtain ⟨c1, c2, rfl, h1, h2⟩ := comp_seq hc
  refine wp_seq (wp_mono (h c1 h1 F io a w hn hC) fun e a' w' ⟨io', S', hQ, hC'⟩ => ?_)
  cases e <;> first | exact hQ c2 h2 F io' a' w' hn hC' | exact ⟨io', S', hQ, hC'⟩

theorem comp_cond {c : Code} {o : Operand} {x y : CC} (h : compCode P nt c = .cond o x y) : ∃ a b, c = .cond o a b ∧ compCode P nt a = x ∧ compCode P nt b = y := by
  cases c with
  | cond o a b => simp only [compCode, CC.cond.injEq] at h; obtain ⟨rfl, h1, h2⟩ := h; exact ⟨a, b, rfl, h1, h2⟩
  | region id ops draw => simp only [compCode] at h; (repeat' split at h) <;> cases h
  | _ => first | (simp only [compCode] at h; cases h; done) | cases h

theorem safe_cond {o : Operand} {x y : CC} {S : St} {Q : Post} {t : Bool} (ht : ev (getT S.T) o = .v (.bool t)) (h : Safe P nt (if t = true then x else y) S Q) : Safe P nt (.cond o x y) S Q := fun c hc F io a w hn hC => by
  obtain ⟨c1, c2, rfl, h1, h2⟩ := comp_cond hc
  have hr := ev_rel (a := a) hC.c.tmps o
  rw [ht] at hr
  have hv : a.eval o = .bool t := by generalize a.eval o = u at hr ⊢; cases hr; rfl
  refine wp_cond hv ?_
  cases t with
  | true => exact h c1 h1 F io a w hn hC
  | false => exact h c2 h2 F io a w hn hC

theorem comp_block {c : Code} {id : Nat} {x : CC} (h : compCode P nt c = .block id x) : ∃ a, c = .block id a ∧ compCode P nt a = x := by
  cases c with
  | block i a => simp only [compCode, CC.block.injEq] at h; obtain ⟨rfl, h1⟩ := h; exact ⟨a, rfl, h1⟩
  | region id ops draw => simp only [compCode] at h; (repeat' split at h) <;> cases h
  | _ => first | (simp only [compCode] at h; cases h; done) | cases h

theorem safe_block {id : Nat} {x : CC} {S : St} {Q : Post} (h : Safe P nt x S (blockQ id Q)) : Safe P nt (.block id x) S Q := fun c hc F io a w hn hC => by
  obtain ⟨c1, rfl, h1⟩ := comp_block hc
  refine wp_block (wp_mono (h c1 h1 F io a w hn hC) fun e a' w' ⟨io', S', hQ, hC'⟩ => ?_)
  cases e with
  | exit id' =>
    simp only [blockQ] at hQ
    simp only [Exit.inBlock]
    split
    · rename_i e; rw [if_pos e] at hQ; exact ⟨io', S', hQ, hC'⟩
    · rename_i e; rw [if_neg e] at hQ; exact ⟨io', S', hQ, hC'⟩
  | _ => exact ⟨io', S', hQ, hC'⟩

theorem comp_loop {c : Code} {x : CC} (h : compCode P nt c = .loop x) : ∃ a, c = .loop a ∧ compCode P nt a = x := by
  cases c with
  | loop a => simp only [compCode, CC.loop.injEq] at h; exact ⟨a, rfl, h⟩
  | region id ops draw => simp only [compCode] at h; (repeat' split at h) <;> cases h
  | _ => first | (simp only [compCode] at h; cases h; done) | cases h

theorem safe_loop {x : CC} {S : St} {Q : Post} (h : SafeL P nt x S Q) : Safe P nt (.loop x) S Q := fun c hc F io a w hn hC => by
  obtain ⟨c1, rfl, h1⟩ := comp_loop hc
  exact wp_loopAt (h c1 h1 F io a w hn hC)

/-- One round. -/
theorem safeL_round {x : CC} {S : St} {Q : Post} (h : Safe P nt x S (thenQ (fun S' => SafeL P nt x S' Q) Q)) : SafeL P nt x S Q := fun c hc F io a w hn hC => by
  refine loopAt_round (wp_mono (h c hc F io a w hn hC) fun e a' w' ⟨io', S', hQ, hC'⟩ => ?_)
  cases e <;> first | exact hQ c hc F io' a' w' hn hC' | exact ⟨io', S', hQ, hC'⟩

/-- Another state for the same place. -/
def Weak (S S' : St) : Prop := ∀ F io a w, Conc F io S a w → ∃ io', Conc F io' S' a w

theorem Safe.weak {cc : CC} {S S' : St} {Q : Post} (hw : Weak S S') (h : Safe P nt cc S' Q) : Safe P nt cc S Q := fun c hc F io a w hn hC => by
  obtain ⟨io', hC'⟩ := hw F io a w hC
  exact h c hc F io' a w hn hC'

theorem SafeL.weak {cc : CC} {S S' : St} {Q : Post} (hw : Weak S S') (h : SafeL P nt cc S' Q) : SafeL P nt cc S Q := fun c hc F io a w hn hC => by
  obtain ⟨io', hC'⟩ := hw F io a w hC
  exact h c hc F io' a w hn hC'

end Go.Proofs.Ytneoeegpceompaa.AM

/-
The abstract machine, part 16: what one operation of a region does, with its condition, or as a call; and what it looks at.
-/
namespace Go.Proofs.Ytneoeegpceompaa.AM
open Go

variable {P : Program}

def callable (P : Program) (k : FuncId) : Bool := match P.funcs[k]? with
  | some fn => !(fn.name == "runtime.NumGoroutine") && fn.body.isSome
  | none => false

def ids (wr : Wr) : List Nat := wr.map (·.1)

theorem lookW_ids {wr : Wr} {b : Nat} {x : Option Blk} (h : lookW wr b = some x) : b ∈ ids wr := List.mem_map.2 ⟨(b, x), lookW_mem h, rfl⟩

theorem app_other {μ : Mu} {wr : Wr} {b : Nat} (h : b ∉ ids wr) : app μ wr b = μ b := by
  rw [app_look]
  cases hl : lookW wr b with
  | none => rfl
  | some x => exact absurd (lookW_ids hl) h

theorem preMu_ids {pre : List (Nat × Blk)} {b : Nat} {blk : Blk} (h : preMu pre b = some blk) : b ∈ pre.map (·.1) := by
  unfold preMu at h
  rw [app_look] at h
  cases hl : lookW (pre.map fun p => (p.1, some p.2)) b with
  | none => rw [hl] at h; simp at h
  | some x =>
    have := lookW_ids hl
    simpa [ids, Function.comp_def] using this

/-- A function that lies outside: with such arguments, and with such blocks of the caller's own, it comes to such a value at once, and changes nothing. -/
def XSpec (P : Program) (k : FuncId) (args : List AV) (pre : List (Nat × Blk)) (x : Value) : Prop :=
  ∀ (X : Nat → Prop) (io : Nat → Option (Option Nat)) (w : World) (vs : List Value), Mem X io (preMu pre) w → Rels (envOf X io (preMu pre) w) args vs → (callFunc k vs.toArray).run P w = .ok (.value x) w
def CSpec (P : Program) (N : Nat) (k : FuncId) (args : List AV) (pre : List (Nat × Blk)) (r : AV) (post : Wr) : Prop :=
  (callable P k = true ∧ FSpec P N k args pre r post) ∨ ∃ x, r = .v x ∧ post = [] ∧ XSpec P k args pre x

/-- What a call does. -/
def CallDoes (P : Program) (N : Nat) (f : Operand) (args : List Operand) (g : Nat → AV) (μ : Mu) (v : AV) (wr : Wr) (rd : List Nat) : Prop :=
  ∃ k caps fz pre post args', ev g f = .fn k caps ∧ CSpec P N k args' pre v post ∧ VLs2 (app μ (frzW μ fz)) (args.map (ev g) ++ caps) args' ∧
    (∀ b blk, preMu pre b = some blk → app μ (frzW μ fz) b = some blk) ∧
    wr = frzW μ fz ++ post ∧ rd = fz ++ (pre.map (·.1) ++ (args.map (ev g) ++ caps).flatMap blks)

def guardOn (o : COper) (g : Nat → AV) : Prop := ∀ d want, o.gd = some (d, want) → g d = .v (.bool want)

inductive Does (P : Program) (N : Nat) (o : COper) (g : Nat → AV) (μ : Mu) : AV → Wr → List Nat → Prop
  | skip (d : Nat) (want : Bool) (x : Value) (hg : o.gd = some (d, want)) (hd : g d = .v x) (hx : x ≠ .bool want) : Does P N o g μ (.v undef) [] []
  | exec (v : AV) (wr : Wr) (hg : guardOn o g) (he : evalCO g μ N o.op = some (v, wr)) : Does P N o g μ v wr (rdCO g o.op)
  | call (f : Operand) (args : List Operand) (v : AV) (wr : Wr) (rd : List Nat) (hg : guardOn o g) (ho : o.op = .call f args) (hc : CallDoes P N f args g μ v wr rd) : Does P N o g μ v wr rd

theorem comp_call_inv {op : Op} {f : Operand} {args : List Operand} (h : compOp P op = .call f args) : ∃ c, op = .call c ∧ c.callee = .value f ∧ c.args.toList = args := by
  cases op with
  | call c =>
    refine ⟨c, rfl, ?_⟩
    simp only [compOp, compCall] at h
    split at h
    · rename_i g hg
      injection h with h1 h2
      exact ⟨by rw [hg, h1], h2⟩
    all_goals ((repeat' split at h) <;> cases h)
  | makeFunc fn first caps => cases fn <;> simp only [compOp] at h <;> first | (cases h; done) | ((repeat' split at h) <;> cases h)
  | binOp op t x y t' => simp only [compOp, compBin] at h; (repeat' split at h) <;> cases h
  | _ => first | (simp only [compOp] at h; cases h; done) | (simp only [compOp] at h; (repeat' split at h) <;> cases h)

section
variable {ops : Array Oper} {o : Oper} {g g' : Nat → AV} {μ μ' : Mu} {N : Nat}

theorem ev_congr {x : Operand} (h : ∀ t, x = .tmp t → g t = g' t) : ev g x = ev g' x := by
  cases x with
  | tmp t => exact h t rfl
  | _ => rfl

theorem looks_op (h : ∀ t ∈ o.looksAt ops, g t = g' t) : ∀ x ∈ o.op.operands, ev g x = ev g' x := fun x hx => ev_congr fun t ht => by
  subst ht
  refine h t (List.mem_append_left _ (List.mem_filterMap.2 ⟨.tmp t, by simpa using hx, rfl⟩))

def GuardOk (ops : Array Oper) (o : Oper) : Prop := ∀ j want, o.guard = some (j, want) → ((ops[j]?).bind (·.dst)).isSome = true

theorem looks_gd (hG : GuardOk ops o) (h : ∀ t ∈ o.looksAt ops, g t = g' t) {d : Nat} {want : Bool} (hd : (compOper P ops o).gd = some (d, want)) : g d = g' d := by
  unfold compOper at hd
  cases hg : o.guard with
  | none => rw [hg] at hd; cases hd
  | some p =>
    obtain ⟨j, w⟩ := p
    rw [hg] at hd
    have hs := hG j w hg
    obtain ⟨e, he⟩ := Option.isSome_iff_exists.1 hs
    simp only [he, Option.getD_some, Option.some.injEq, Prod.mk.injEq] at hd
    obtain ⟨rfl, _⟩ := hd
    refine h _ (List.mem_append_right _ ?_)
    rw [hg]
    simp [he]

/-- An operation does the same where what it looks at is the same. -/
theorem Does.congr (hG : GuardOk ops o) (hl : ∀ t ∈ o.looksAt ops, g t = g' t) {v : AV} {wr : Wr} {rd : List Nat} (hm : ∀ b ∈ rd, μ b = μ' b) (h : Does P N (compOper P ops o) g μ v wr rd) : Does P N (compOper P ops o) g' μ' v wr rd := by
  have hop := looks_op hl
  have hgd : ∀ {d want}, (compOper P ops o).gd = some (d, want) → g d = g' d := fun h => looks_gd hG hl h
  have hgo : guardOn (compOper P ops o) g → guardOn (compOper P ops o) g' := fun h d want hd => by rw [← hgd hd]; exact h d want hd
  cases h with
  | skip d want x h1 h2 h3 => exact .skip d want x h1 (by rw [← hgd h1]; exact h2) h3
  | exec _ _ h1 h2 =>
    obtain ⟨e1, e2⟩ := evalCO_g (P := P) (g := g) (g' := g') μ N o.op hop
    have e3 := evalCO_m (μ := μ) (μ' := μ') g N (compOp P o.op) hm
    have : rdCO g (compOper P ops o).op = rdCO g' (compOper P ops o).op := e2
    rw [this]
    refine .exec _ _ (hgo h1) ?_
    show evalCO g' μ' N (compOp P o.op) = _
    rw [← (evalCO_g (P := P) (g := g) (g' := g') μ' N o.op hop).1, ← e3]
    exact h2
  | call f args _ _ _ h1 h2 h3 =>
    refine .call f args _ _ _ (hgo h1) h2 ?_
    obtain ⟨c, hc1, hc2, hc3⟩ := comp_call_inv (P := P) (op := o.op) h2
    obtain ⟨k, caps, fz, pre, post, args', k1, k2, kv, k4, k6, k7⟩ := h3
    have hf : ev g f = ev g' f := hop f (by rw [hc1]; simp [Op.operands, Call.operands, hc2])
    have ha : args.map (ev g) = args.map (ev g') := List.map_congr_left fun x hx => hop x (by rw [hc1]; subst hc3; simp [Op.operands, Call.operands]; exact .inr (by simpa using hx))
    subst k7
    have hfz : frzW μ fz = frzW μ' fz := frzW_congr fz fun b hb => hm b (List.mem_append_left _ hb)
    have happ : ∀ b, μ b = μ' b → app μ (frzW μ fz) b = app μ' (frzW μ' fz) b := fun b hb => by rw [app_look, app_look, hfz, hb]
    refine ⟨k, caps, fz, pre, post, args', by rw [← hf]; exact k1, k2, ?_, fun b blk hb => ?_, by rw [← hfz]; exact k6, by rw [ha]⟩
    · rw [← ha]
      exact kv.congr fun b hb => happ b (hm b (List.mem_append_right _ (List.mem_append_right _ hb)))
    rw [← happ b (hm b (List.mem_append_right _ (List.mem_append_left _ (preMu_ids hb))))]
    exact k4 b blk hb

end

def updO (g : Nat → AV) (dst : Option Nat) (v : AV) : Nat → AV := match dst with
  | none => g
  | some d => upd g d v

theorem put_rel {E : Env} {g : Nat → AV} {a : Act} {dst : Option Nat} {v : AV} {u : Value} (hg : ∀ t, Rel E (g t) (a.tmps.getD t undef)) (hv : Rel E v u) (hd : ∀ d, dst = some d → d < a.tmps.size) : ∀ t, Rel E (updO g dst v t) ((a.put dst u).tmps.getD t undef) := by
  cases dst with
  | none => exact hg
  | some d =>
    intro t
    simp only [updO, Act.put, upd]
    have hlt := hd d rfl
    by_cases h : t = d
    · subst h
      simp only [if_true]
      simpa [Array.getD_eq_getD_getElem?, hlt] using hv
    · rw [if_neg h]
      have := hg t
      simpa [Array.getD_eq_getD_getElem?, Array.getElem?_setIfInBounds, Ne.symm h] using this

theorem put_size (a : Act) (dst : Option Nat) (u : Value) : (a.put dst u).tmps.size = a.tmps.size := by cases dst <;> simp [Act.put]
theorem put_defers (a : Act) (dst : Option Nat) (u : Value) : (a.put dst u).defers = a.defers := by cases dst <;> rfl

theorem wanted_iff {ops : Array Oper} {o : Oper} {a : Act} {j : Nat} {want : Bool} {d : Nat} (hg : o.guard = some (j, want)) (hd : (ops[j]?).bind (·.dst) = some d) (hlt : d < a.tmps.size) :
    Region.wanted o (yielded ops a.tmps) = true ↔ a.tmps.getD d undef = .bool want := by
  simp only [Region.wanted, hg, yielded, hd, Option.bind_some, Array.getD_eq_getD_getElem?]
  rw [Array.getElem?_eq_getElem hlt]
  simp only [Option.getD_some]
  cases h : a.tmps[d] <;> simp

/-- One operation, in the model. -/
theorem does_wpOp {ops : Array Oper} {Q : Exit → Act → World → Prop} {i : Nat} {K : Act → World → Prop} {a : Act} {w : World} {X : Nat → Prop} {io : Nat → Option (Option Nat)} {μ : Mu} {N D : Nat} {g : Nat → AV} {o : Oper} {v : AV} {wr : Wr} {rd : List Nat}
    (hM : Mem X io μ w) (hg : ∀ t, Rel (envOf X io μ w) (g t) (a.tmps.getD t undef)) (h4 : N % 4 = 0) (hNo : ∀ b, nbr N b → io b = none) (hD : ∀ b, Gar D b → io b = none) (hND : ¬ Gar D N) (hi : ops[i]? = some o) (hG : GuardOk ops o) (hd : ∀ (j : Nat) (o : Oper) (d : Nat), ops[j]? = some o → o.dst = some d → d < a.tmps.size)
    (h : Does P N (compOper P ops o) g μ v wr rd)
    (hK : ∀ io' w' a', StepA X (fun b => nbr N b ∨ Gar D b) io μ w io' (app μ wr) w' → (∀ t, Rel (envOf X io' (app μ wr) w') (updO g o.dst v t) (a'.tmps.getD t undef)) → a'.tmps.size = a.tmps.size → a'.defers = a.defers → K a' w') :
    wpOp P ops Q i K a w := by
  have hdst : ∀ d, o.dst = some d → d < a.tmps.size := fun d h => hd i o d hi h
  have hN : io N = none := hNo N (nbr_self N)
  have hμN : μ N = none := hM.unused hN
  have hgd : ∀ {d want}, (compOper P ops o).gd = some (d, want) → (Region.wanted o (yielded ops a.tmps) = true ↔ a.tmps.getD d undef = .bool want) := fun {d want} hgd => by
    unfold compOper at hgd
    cases hgu : o.guard with
    | none => rw [hgu] at hgd; cases hgd
    | some p =>
      obtain ⟨j, w⟩ := p
      rw [hgu] at hgd
      obtain ⟨e, he⟩ := Option.isSome_iff_exists.1 (hG j w hgu)
      simp only [he, Option.getD_some, Option.some.injEq, Prod.mk.injEq] at hgd
      obtain ⟨rfl, rfl⟩ := hgd
      obtain ⟨oj, hoj, hdj⟩ := Option.bind_eq_some_iff.1 he
      exact wanted_iff hgu he (hd j oj _ hoj hdj)
  have hon : guardOn (compOper P ops o) g → Region.wanted o (yielded ops a.tmps) = true := fun hgo => by
    cases hgu : o.guard with
    | none => simp [Region.wanted, hgu]
    | some p =>
      obtain ⟨j, wt⟩ := p
      have hc : (compOper P ops o).gd = some (((ops[j]?).bind (·.dst)).getD 1000000, wt) := by simp [compOper, hgu]
      rw [hgd hc]
      have h1 := hgo _ _ hc
      have h2 := hg (((ops[j]?).bind (·.dst)).getD 1000000)
      rw [h1] at h2
      generalize a.tmps.getD _ undef = u at h2 ⊢
      cases h2; rfl
  unfold wpOp
  rw [hi]
  simp only
  cases h with
  | skip d want x h1 h2 h3 =>
    have hw : Region.wanted o (yielded ops a.tmps) = false := by
      rw [Bool.eq_false_iff]
      intro hw
      have h4 := (hgd h1).1 hw
      have h5 := hg d
      rw [h2, h4] at h5
      cases h5
      exact h3 rfl
    rw [if_neg (by rw [hw]; simp)]
    exact hK io w _ ((Step.refl (N := N) hM).toA hM (.inl (nbr_self N))) (put_rel hg (.v undef) hdst) (put_size _ _ _) (put_defers _ _ _)
  | exec _ _ h1 h2 =>
    rw [if_pos (hon h1)]
    left
    obtain ⟨n, u, w', io', hr, hn, hs, hv⟩ := evalCO_sound hM hg hN hμN o h2
    unfold Oper.wp
    rw [hr]
    have hg' : ∀ t, Rel (envOf X io' (app μ wr) w') (g t) (a.tmps.getD t undef) := fun t => (hg t).mono hs.le
    rcases hn with rfl | ⟨rfl, rfl⟩
    · exact hK io' w' _ (hs.toA hM (.inl (nbr_self N))) (put_rel hg' hv hdst) (put_size _ _ _) (put_defers _ _ _)
    · exact hK io' w' _ (hs.toA hM (.inl (nbr_self N))) (put_rel hg' hv hdst) (put_size _ _ _) (put_defers _ _ _)
  | call f args _ _ _ h1 h2 h3 =>
    rw [if_pos (hon h1)]
    left
    obtain ⟨c, hc1, hc2, hc3⟩ := comp_call_inv (P := P) (op := o.op) h2
    obtain ⟨k, caps, fz, pre, post, args', k1, k23, kv, k4, k6, k7⟩ := h3
    have hf := ev_rel (a := a) hg f
    rw [k1] at hf
    have hfv : ∃ vs : List Value, a.eval f = .func (.func k) #[] vs.toArray ∧ Rels (envOf X io μ w) caps vs := by
      generalize a.eval f = u at hf
      cases hf with
      | fn _ _ vs hl hr => exact ⟨vs, rfl, hl, hr⟩
    obtain ⟨vs, hfe, hcr⟩ := hfv
    have hargs : Rels (envOf X io μ w) (args.map (ev g) ++ caps) (args.map a.eval ++ vs) := by
      refine Rels.app ⟨by simp, fun j x u hx hu => ?_⟩ hcr
      rw [List.getElem?_map] at hx hu
      obtain ⟨y, hy, rfl⟩ := Option.map_eq_some_iff.1 hx
      rw [hy] at hu
      simp only [Option.map_some, Option.some.injEq] at hu
      subst hu
      exact ev_rel hg y
    have hz := frz_step (X := X) (io := io) (w := w) N fz hM
    have hargs' : Rels (envOf X io (app μ (frzW μ fz)) w) args' (args.map a.eval ++ vs) := kv.rels hz.mem (hargs.mono hz.le)
    rcases k23 with ⟨k2, k3⟩ | ⟨x, rfl, rfl, k3⟩
    rotate_left
    · have hx := k3 _ io w _ (sub_mem hz.mem k4) (hargs'.mono (sub_le hz.mem k4))
      have hrun : (execOp a.eval o).run P w = .ok (.value x) w := by
        subst hc3
        have e : (c.args.toList.map a.eval ++ vs).toArray = Array.map a.eval c.args ++ vs.toArray := by simp
        rw [e] at hx
        simp [execOp, hc1, resolve, hc2, hfe, Deferred.ofValue, invoke, hx]
      unfold Oper.wp
      rw [hrun]
      rw [List.append_nil] at k6
      have hst : StepA X (fun b => nbr N b ∨ Gar D b) io μ w io (app μ wr) w := by rw [k6]; exact hz.toA hM (.inl (nbr_self N))
      exact hK io w _ hst (put_rel (fun t => (hg t).mono hst.le) (.v x) hdst) (put_size _ _ _) (put_defers _ _ _)
    have hcall := call_ok k3 hz.mem k4 h4 hNo hD hND hargs'
    have hrun : (execOp a.eval o).run P w = .ok (.enter k (args.map a.eval ++ vs).toArray) w := by
      unfold callable at k2
      cases hfn : P.funcs[k]? with
      | none => rw [hfn] at k2; cases k2
      | some fn =>
        rw [hfn] at k2
        simp only [Bool.and_eq_true, Bool.not_eq_true', Option.isSome_iff_exists] at k2
        obtain ⟨k2a, body, k2b⟩ := k2
        have hk : fn.name ≠ "runtime.NumGoroutine" := by simpa using k2a
        subst hc3
        simp [execOp, hc1, resolve, hc2, hfe, Deferred.ofValue, invoke, callFunc, hfn, hk, k2b]
    unfold Oper.wp
    rw [hrun]
    simp only [Oper.upon]
    refine Calls.mono hcall fun e w' h => ?_
    obtain ⟨u, io', rfl, hs, hr⟩ := h
    have hst : StepA X (fun b => nbr N b ∨ Gar D b) io μ w io' (app μ wr) w' := by
      rw [k6, app_append]
      exact (hz.toA hM (.inl (nbr_self N))).trans hs
    have hr' : Rel (envOf X io' (app μ wr) w') v u := by rw [k6, app_append]; exact hr
    exact hK io' w' _ hst (put_rel (fun t => (hg t).mono hst.le) hr' hdst) (put_size _ _ _) (put_defers _ _ _)

end Go.Proofs.Ytneoeegpceompaa.AM

/-
The abstract machine, part 17: regions, in whatever order.
-/
namespace Go.Proofs.Ytneoeegpceompaa.AM
open Go

variable {P : Program}

/-- What an operation did: its value, what it wrote, what it read. -/
structure Ev where
  v : AV
  wr : Wr
  rd : List Nat
  deriving Inhabited

/-- The operations, one by one as they stand in the text. -/
inductive Trace (P : Program) (nf : Nat → Nat) : Nat → List COper → (Nat → AV) → Mu → List Ev → (Nat → AV) → Mu → Prop
  | nil (i : Nat) (g : Nat → AV) (μ : Mu) : Trace P nf i [] g μ [] g μ
  | cons (i : Nat) (o : COper) (r : List COper) (g : Nat → AV) (μ : Mu) (e : Ev) (l : List Ev) (g' : Nat → AV) (μ' : Mu) (h : Does P (nf i) o g μ e.v e.wr e.rd) (k : Trace P nf (i + 1) r (updO g o.dst e.v) (app μ e.wr) l g' μ') : Trace P nf i (o :: r) g μ (e :: l) g' μ'

def disj (x y : List Nat) : Bool := x.all fun a => !y.contains a

theorem disj_not {x y : List Nat} (h : disj x y = true) {b : Nat} (hb : b ∈ x) : b ∉ y := by
  have := List.all_eq_true.1 h b hb
  simpa using this

def evApart (x y : Ev) : Bool := disj (ids x.wr) y.rd && disj (ids y.wr) x.rd && disj (ids x.wr) (ids y.wr)

def pairsOk (l : List Ev) (pairs : List (Nat × Nat)) : Bool := pairs.all fun p => evApart (l.getD p.1 default) (l.getD p.2 default)

/-! ### The state after some of the operations -/
section
variable (dst : Nat → Option Nat) (E : Nat → Ev) (g0 : Nat → AV) (μ0 : Mu)

def gAt (L : Nat → Bool) : Nat → Nat → AV
  | 0 => g0
  | m + 1 => if L m = true then updO (gAt L m) (dst m) (E m).v else gAt L m

def mAt (L : Nat → Bool) : Nat → Mu
  | 0 => μ0
  | m + 1 => if L m = true then app (mAt L m) (E m).wr else mAt L m

variable {dst E g0 μ0}

theorem gAt_congr {L L' : Nat → Bool} (t : Nat) : ∀ n, (∀ j, j < n → dst j = some t → L j = L' j) → gAt dst E g0 L n t = gAt dst E g0 L' n t := by
  intro n
  induction n with
  | zero => intro _; rfl
  | succ m ih =>
    intro h
    have h1 := ih fun j hj => h j (by omega)
    have step : ∀ L : Nat → Bool, gAt dst E g0 L (m + 1) t = if L m = true ∧ dst m = some t then (E m).v else gAt dst E g0 L m t := fun L => by
      simp only [gAt]
      by_cases hL : L m = true
      · simp only [hL, if_true, true_and]
        cases hd : dst m with
        | none => simp [updO]
        | some d =>
          simp only [updO, upd, Option.some.injEq]
          by_cases e : t = d
          · subst e; simp
          · rw [if_neg e, if_neg (fun e' => e e'.symm)]
      · simp [hL]
    rw [step L, step L', h1]
    by_cases hd : dst m = some t
    · rw [h m (by omega) hd]
    · simp [hd]

theorem mAt_congr {L L' : Nat → Bool} (b : Nat) : ∀ n, (∀ j, j < n → b ∈ ids (E j).wr → L j = L' j) → mAt E μ0 L n b = mAt E μ0 L' n b := by
  intro n
  induction n with
  | zero => intro _; rfl
  | succ m ih =>
    intro h
    have h1 := ih fun j hj => h j (by omega)
    simp only [mAt]
    by_cases hb : b ∈ ids (E m).wr
    · rw [h m (by omega) hb]
      split
      · rw [app_look, app_look, h1]
      · exact h1
    · have : ∀ μ : Mu, app μ (E m).wr b = μ b := fun μ => app_other hb
      split <;> split <;> first | exact h1 | (simp only [this]; exact h1)

theorem app_comm {μ : Mu} {x y : Wr} (h : ∀ b, b ∈ ids x → b ∉ ids y) : app (app μ x) y = app (app μ y) x := by
  funext b
  by_cases hx : b ∈ ids x
  · rw [app_other (h b hx), app_look, app_look _ x, app_other (h b hx)]
  · rw [app_other hx]
    by_cases hy : b ∈ ids y
    · rw [app_look, app_look _ y, app_other hx]
    · rw [app_other hy, app_other hy, app_other hx]

def ins (L : Nat → Bool) (i : Nat) : Nat → Bool := fun j => if j = i then true else L j

theorem gAt_ins {L : Nat → Bool} {i : Nat} (hLi : L i = false) : ∀ n, i < n → (∀ j, i < j → j < n → L j = true → ∀ d, dst i = some d → dst j ≠ some d) → gAt dst E g0 (ins L i) n = updO (gAt dst E g0 L n) (dst i) (E i).v := by
  intro n
  induction n with
  | zero => intro h; omega
  | succ m ih =>
    intro hi h
    by_cases e : i = m
    · subst e
      have h1 : gAt dst E g0 (ins L i) i = gAt dst E g0 L i := funext fun t => gAt_congr t i fun j hj _ => by simp [ins, Nat.ne_of_lt hj]
      simp only [gAt, ins, if_true, hLi, if_false, Bool.false_eq_true]
      rw [← h1]
    · have hm := ih (by omega) fun j h1 h2 => h j h1 (by omega)
      have hne : m ≠ i := fun h => e h.symm
      simp only [gAt, ins, hne, if_false]
      split
      · rename_i hL
        have hdd := h m (by omega) (by omega) hL
        show updO (gAt dst E g0 (ins L i) m) _ _ = _
        rw [hm]
        cases hd : dst i with
        | none => rfl
        | some d =>
          have := hdd d hd
          cases hm' : dst m with
          | none => rfl
          | some d' =>
            have hne' : d' ≠ d := fun e => this (by rw [hm', e])
            funext t
            simp only [updO, upd]
            by_cases h1 : t = d'
            · subst h1; rw [if_pos rfl, if_neg hne', if_pos rfl]
            · simp [h1]
      · exact hm

theorem mAt_ins {L : Nat → Bool} {i : Nat} (hLi : L i = false) : ∀ n, i < n → (∀ j, i < j → j < n → L j = true → ∀ b, b ∈ ids (E i).wr → b ∉ ids (E j).wr) → mAt E μ0 (ins L i) n = app (mAt E μ0 L n) (E i).wr := by
  intro n
  induction n with
  | zero => intro h; omega
  | succ m ih =>
    intro hi h
    by_cases e : i = m
    · subst e
      have h1 : mAt E μ0 (ins L i) i = mAt E μ0 L i := funext fun t => mAt_congr t i fun j hj _ => by simp [ins, Nat.ne_of_lt hj]
      simp only [mAt, ins, if_true, hLi, if_false, Bool.false_eq_true]
      rw [← h1]
    · have hm := ih (by omega) fun j h1 h2 => h j h1 (by omega)
      have hne : m ≠ i := fun h => e h.symm
      simp only [mAt, ins, hne, if_false]
      split
      · rename_i hL
        show app (mAt E μ0 (ins L i) m) _ = _
        rw [hm]
        exact app_comm (h m (by omega) (by omega) hL)
      · exact hm

theorem gAt_lt (i : Nat) : ∀ n, i ≤ n → gAt dst E g0 (fun j => decide (j < i)) n = gAt dst E g0 (fun _ => true) i := by
  intro n
  induction n with
  | zero => intro h; have : i = 0 := by omega
            subst this; rfl
  | succ m ih =>
    intro h
    by_cases e : i = m + 1
    · subst e
      exact funext fun t => gAt_congr t _ fun j hj _ => by simp [hj]
    · simp only [gAt]
      rw [if_neg (by simp; omega)]
      exact ih (by omega)

theorem mAt_lt (i : Nat) : ∀ n, i ≤ n → mAt E μ0 (fun j => decide (j < i)) n = mAt E μ0 (fun _ => true) i := by
  intro n
  induction n with
  | zero => intro h; have : i = 0 := by omega
            subst this; rfl
  | succ m ih =>
    intro h
    by_cases e : i = m + 1
    · subst e
      exact funext fun t => mAt_congr t _ fun j hj _ => by simp [hj]
    · simp only [mAt]
      rw [if_neg (by simp; omega)]
      exact ih (by omega)

end

/-! ### A trace, place by place -/

theorem trace_does {nf : Nat → Nat} {cops : List COper} {l0 : List Ev} {g0 : Nat → AV} {μ0 : Mu} {dst : Nat → Option Nat} (hdst : ∀ j o, cops[j]? = some o → dst j = o.dst) {i : Nat} {r : List COper} {g : Nat → AV} {μ : Mu} {l : List Ev} {g' : Nat → AV} {μ' : Mu} (h : Trace P nf i r g μ l g' μ') :
    r = cops.drop i → l = l0.drop i → g = gAt dst (fun i => l0.getD i default) g0 (fun _ => true) i → μ = mAt (fun i => l0.getD i default) μ0 (fun _ => true) i →
    (∀ j o, i ≤ j → cops[j]? = some o → Does P (nf j) o (gAt dst (fun i => l0.getD i default) g0 (fun _ => true) j) (mAt (fun i => l0.getD i default) μ0 (fun _ => true) j) (l0.getD j default).v (l0.getD j default).wr (l0.getD j default).rd) ∧
    (i ≤ cops.length → g' = gAt dst (fun i => l0.getD i default) g0 (fun _ => true) cops.length ∧ μ' = mAt (fun i => l0.getD i default) μ0 (fun _ => true) cops.length) := by
  induction h with
  | nil i g μ =>
    intro hr hl hg hm
    have hlen : cops.length ≤ i := by
      have := congrArg List.length hr
      simp at this; omega
    refine ⟨fun j o hj ho => ?_, fun hi => ?_⟩
    · have := (List.getElem?_eq_some_iff.1 ho).1; omega
    · have : i = cops.length := by omega
      subst this; exact ⟨hg, hm⟩
  | cons i o r g μ e l g' μ' hd _ ih =>
    intro hr hl hg hm
    have hlt : i < cops.length := by
      have := congrArg List.length hr
      simp at this; omega
    have hi : cops[i]? = some o := by
      have := congrArg (·[0]?) hr
      simpa using this.symm
    have he : l0[i]? = some e := by
      have := congrArg (·[0]?) hl
      simpa using this.symm
    have heD : l0.getD i default = e := by rw [List.getD_eq_getElem?_getD, he]; rfl
    have hr' : r = cops.drop (i + 1) := by
      have := congrArg List.tail hr
      simpa using this
    have hl' : l = l0.drop (i + 1) := by
      have := congrArg List.tail hl
      simpa using this
    obtain ⟨h1, h2⟩ := ih hr' hl' (by simp only [gAt, if_true]; rw [heD, ← hg, hdst i o hi]) (by simp only [mAt, if_true]; rw [heD, ← hm])
    refine ⟨fun j o' hj ho => ?_, fun _ => h2 (by omega)⟩
    by_cases e' : j = i
    · subst e'
      rw [hi] at ho
      injection ho with ho
      subst ho
      rw [heD, ← hg, ← hm]
      exact hd
    · exact h1 j o' (by omega) ho

/-! ### What waits for what -/

theorem predsOf_mem {acc : Array Nat} {o : Oper} {x : Nat} (h : (predsOf acc o).testBit x = true) : ∃ e ∈ o.after.toList, Region.binds .any e = true ∧ (x = e.on ∨ (acc.getD e.on 0).testBit x = true) := by
  have : ∀ (l : List Edge) (s : Nat), (l.foldl (fun s e => if Region.binds .any e then s ||| (2 ^ e.on ||| acc.getD e.on 0) else s) s).testBit x = true → s.testBit x = true ∨ ∃ e ∈ l, Region.binds .any e = true ∧ (x = e.on ∨ (acc.getD e.on 0).testBit x = true) := by
    intro l
    induction l with
    | nil => intro s h; exact .inl h
    | cons e l ih =>
      intro s h
      rcases ih _ h with h1 | ⟨e', he', h2⟩
      · simp only at h1
        by_cases hb : Region.binds .any e = true
        · rw [if_pos hb] at h1
          rw [Nat.testBit_or, Nat.testBit_or, Nat.testBit_two_pow] at h1
          simp only [Bool.or_eq_true, decide_eq_true_eq] at h1
          rcases h1 with h1 | h1 | h1
          · exact .inl h1
          · exact .inr ⟨e, by simp, hb, .inl h1.symm⟩
          · exact .inr ⟨e, by simp, hb, .inr h1⟩
        · rw [if_neg hb] at h1; exact .inl h1
      · exact .inr ⟨e', by simp [he'], h2⟩
  rcases this _ _ h with h1 | h1
  · simp at h1
  · exact h1

theorem preds_go (l : List Oper) : ∀ acc : Array Nat, (∀ j, j < acc.size → (l.foldl (fun acc o => acc.push (predsOf acc o)) acc).getD j 0 = acc.getD j 0) ∧
    ∀ (k : Nat) (o : Oper), l[k]? = some o → ∃ acc' : Array Nat, acc'.size = acc.size + k ∧ (∀ j, j < acc'.size → acc'.getD j 0 = (l.foldl (fun acc o => acc.push (predsOf acc o)) acc).getD j 0) ∧ (l.foldl (fun acc o => acc.push (predsOf acc o)) acc).getD (acc.size + k) 0 = predsOf acc' o := by
  induction l with
  | nil => intro acc; exact ⟨fun _ _ => rfl, fun k o h => by simp at h⟩
  | cons o l ih =>
    intro acc
    obtain ⟨h1, h2⟩ := ih (acc.push (predsOf acc o))
    have hp : ∀ j, j < acc.size → (acc.push (predsOf acc o)).getD j 0 = acc.getD j 0 := fun j hj => by simp [Array.getD_eq_getD_getElem?, Array.getElem?_push_lt, hj]
    refine ⟨fun j hj => ?_, fun k o' hk => ?_⟩
    · simp only [List.foldl_cons]
      rw [h1 j (by simp; omega), hp j hj]
    · cases k with
      | zero =>
        simp at hk; subst hk
        refine ⟨acc, rfl, fun j hj => ?_, ?_⟩
        · simp only [List.foldl_cons]; rw [h1 j (by simp; omega), hp j hj]
        · simp only [List.foldl_cons, Nat.add_zero]
          rw [h1 acc.size (by simp)]
          simp [Array.getD_eq_getD_getElem?]
      | succ k =>
        obtain ⟨acc', a1, a2, a3⟩ := h2 k o' (by simpa using hk)
        refine ⟨acc', by rw [a1]; simp; omega, a2, ?_⟩
        simp only [List.foldl_cons]
        rw [← a3]
        congr 1
        simp; omega

theorem preds_eq (ops : Array Oper) : preds ops = ops.toList.foldl (fun acc o => acc.push (predsOf acc o)) #[] := rfl

/-- What an operation waits for, has come up. -/
theorem preds_closed {ops : Array Oper} (hb : backOk ops = true) {L : Nat → Bool} (hL : ∀ (y : Nat) (o : Oper), ops[y]? = some o → L y = true → ∀ e ∈ o.after.toList, Region.binds .any e = true → L e.on = true) :
    ∀ (n y : Nat) (o : Oper), y < n → ops[y]? = some o → (∀ e ∈ o.after.toList, Region.binds .any e = true → L e.on = true) → ∀ x, ((preds ops).getD y 0).testBit x = true → L x = true := by
  intro n
  induction n with
  | zero => intro y o h; omega
  | succ n ih =>
    intro y o hy ho hd x hx
    obtain ⟨acc', a1, a2, a3⟩ := (preds_go ops.toList #[]).2 y o (by simpa using ho)
    rw [← preds_eq] at a2 a3
    simp only [List.size_toArray, List.length_nil, Nat.zero_add] at a1 a3
    rw [a3] at hx
    obtain ⟨e, he, hbi, hxe⟩ := predsOf_mem hx
    rcases hxe with rfl | hxe
    · exact hd e he hbi
    · have hlt : e.on < y := by
        have h1 := List.all_eq_true.1 hb (o, y) (by rw [List.mem_zipIdx_iff_getElem?]; simpa using ho)
        have h2 := Array.all_eq_true_iff_forall_mem.1 h1 e (by simpa using he)
        simpa [hbi] using h2
      rw [a2 e.on (by omega)] at hxe
      have hys : y < ops.size := (Array.getElem?_eq_some_iff.1 ho).1
      obtain ⟨o', ho'⟩ : ∃ o', ops[e.on]? = some o' := ⟨ops[e.on]'(by omega), Array.getElem?_eq_getElem (by omega)⟩
      exact ih e.on o' (by omega) ho' (hL e.on o' ho' (hd e he hbi)) x hxe

theorem loose_mem {ops : Array Oper} {i j : Nat} (hij : i < j) (hj : j < ops.size) (h : ((preds ops).getD j 0).testBit i = true → False) : (i, j) ∈ loose ops := by
  unfold loose
  refine List.mem_flatMap.2 ⟨j, List.mem_range.2 hj, List.mem_filterMap.2 ⟨i, List.mem_range.2 hij, ?_⟩⟩
  rw [if_neg h]

end Go.Proofs.Ytneoeegpceompaa.AM

/-
The abstract machine, part 18: a region, whatever its order.
-/
namespace Go.Proofs.Ytneoeegpceompaa.AM
open Go

variable {P : Program}

def rem (L : Nat → Bool) : Nat → Nat
  | 0 => 0
  | m + 1 => rem L m + (if L m = true then 0 else 1)

theorem rem_congr {L L' : Nat → Bool} : ∀ m, (∀ j, j < m → L j = L' j) → rem L m = rem L' m := by
  intro m
  induction m with
  | zero => intro _; rfl
  | succ m ih => intro h; simp only [rem]; rw [ih fun j hj => h j (by omega), h m (by omega)]

theorem rem_ins {L : Nat → Bool} {i : Nat} (hL : L i = false) : ∀ m, i < m → rem (ins L i) m + 1 = rem L m := by
  intro m
  induction m with
  | zero => intro h; omega
  | succ m ih =>
    intro h
    simp only [rem]
    by_cases e : i = m
    · subst e
      rw [rem_congr (L := ins L i) (L' := L) i fun j hj => by simp [ins, Nat.ne_of_lt hj]]
      simp [ins, hL]
    · have := ih (by omega)
      have h2 : ins L i m = L m := by simp [ins]; intro h; exact absurd h.symm e
      rw [h2]
      omega

theorem rem_zero {L : Nat → Bool} : ∀ m, rem L m = 0 → ∀ j, j < m → L j = true := by
  intro m
  induction m with
  | zero => intro _ j hj; omega
  | succ m ih =>
    intro h j hj
    simp only [rem] at h
    by_cases hL : L m = true
    · by_cases e : j = m
      · subst e; exact hL
      · exact ih (by omega) j (by omega)
    · simp [hL] at h

def frL (F : Fr) (d N n : Nat) (L : Nat → Bool) (b : Nat) : Prop := nbr F.N b ∨ ∃ k, N ≤ k ∧ nbr (nm d k) b ∧ ∀ i, i < n → L i = true → k ≠ N + i

section
variable {ops : Array Oper} {F : Fr} {d N : Nat} {dst : Nat → Option Nat} {E : Nat → Ev} {g0 : Nat → AV} {μ0 : Mu} {Q : Exit → Act → World → Prop}

theorem guards_spec (h : guardsOk ops = true) {i : Nat} {o : Oper} (ho : ops[i]? = some o) : GuardOk ops o := fun j want hg => by
  have := Array.all_eq_true_iff_forall_mem.1 h o (Array.mem_of_getElem? ho)
  simpa [hg] using this

theorem dsts_spec {nt : Nat} (h : dstsOk nt ops = true) {i : Nat} {o : Oper} (ho : ops[i]? = some o) {d : Nat} (hd : o.dst = some d) : d < nt := by
  have := Array.all_eq_true_iff_forall_mem.1 h o (Array.mem_of_getElem? ho)
  simpa [hd] using this

theorem frL_all {n : Nat} {L : Nat → Bool} {b : Nat} (h : frS F d (N + n) b) : frL F d N n L b := by
  rcases h with h | ⟨k, h1, h2⟩
  · exact .inl h
  · exact .inr ⟨k, by omega, h2, fun i hi _ => by omega⟩

/-- One more operation. -/
theorem inv_step (hlow : F.D ≤ d) (hout : ¬ Gar F.D F.N) (h4 : F.N % 4 = 0) (hG : guardsOk ops = true) (hD : dstsOk F.nt ops = true) (hdst : ∀ (j : Nat) (o : Oper), ops[j]? = some o → dst j = o.dst) {L : Nat → Bool} {i : Nat} {o : Oper} (hi : ops[i]? = some o) (hLi : L i = false)
    (hd : Does P (nm d (N + i)) (compOper P ops o) (gAt dst E g0 L ops.size) (mAt E μ0 L ops.size) (E i).v (E i).wr (E i).rd)
    (hg : ∀ j, i < j → j < ops.size → L j = true → ∀ d, dst i = some d → dst j ≠ some d) (hm : ∀ j, i < j → j < ops.size → L j = true → ∀ b, b ∈ ids (E i).wr → b ∉ ids (E j).wr)
    {io : Nat → Option (Option Nat)} {a : Act} {w : World} (hC : ConcF F io (gAt dst E g0 L ops.size) (mAt E μ0 L ops.size) (frL F d N ops.size L) a w) {K : Act → World → Prop}
    (hK : ∀ io' a' w', ConcF F io' (gAt dst E g0 (ins L i) ops.size) (mAt E μ0 (ins L i) ops.size) (frL F d N ops.size (ins L i)) a' w' → K a' w') : wpOp P ops Q i K a w := by
  have hlt : i < ops.size := (Array.getElem?_eq_some_iff.1 hi).1
  have h1 : ∀ b, nbr (nm d (N + i)) b → io b = none := fun b hb => hC.fresh _ (.inr ⟨N + i, by omega, hb, fun j _ hLj e => by
    have : j = i := by omega
    subst this; rw [hLi] at hLj; cases hLj⟩)
  obtain ⟨D, hDf⟩ := hC.top
  have hD' : ∀ b, Gar (max D (d + 1)) b → io b = none := fun b hb => hDf b (hb.mono (by omega))
  have hND : ¬ Gar (max D (d + 1)) (nm d (N + i)) := by rw [gar_nm]; omega
  refine does_wpOp hC.mem hC.tmps (nm4 _ _) h1 hD' hND hi (guards_spec hG hi) (fun j o' d ho' hd' => by rw [hC.size]; exact dsts_spec hD ho' hd') hd fun io' w' a' hs ht hsz hdf => ?_
  refine hK io' a' w' ?_
  rw [gAt_ins hLi ops.size hlt hg, mAt_ins hLi ops.size hlt hm, hdst i o hi]
  refine hC.step hs ht hsz hdf (fun b hb => ?_) (fun b hb => by
    rcases hb with hb | hb
    · exact (gar_nbr hb).2 hlow
    · exact hb.mono (by omega))
  rcases hb with hb | ⟨k, hk, hb1, hb2⟩
  · exact ⟨.inl hb, fun h => gar_of h4 hout hb (by
      rcases h with h | h
      · rw [gar_nbr h]; exact hlow
      · exact h.mono (by omega))⟩
  · refine ⟨.inr ⟨k, hk, hb1, fun j hj hLj => hb2 j hj (by simp only [ins]; split; rfl; exact hLj)⟩, fun h => ?_⟩
    rcases h with h | h
    · exact hb2 i hlt (by simp [ins]) (nbr_nm hb1 h).2
    · rw [gar_nbr hb1] at h; omega

theorem ins_lt (i : Nat) : ins (fun j => decide (j < i)) i = fun j => decide (j < i + 1) := by
  funext j
  simp only [ins]
  split
  · rename_i h; subst h; simp
  · rename_i h
    by_cases h1 : j < i
    · simp [h1]; omega
    · simp [h1]; omega

/-- In the text's order. -/
theorem run_text (hlow : F.D ≤ d) (hout : ¬ Gar F.D F.N) (h4 : F.N % 4 = 0) (hG : guardsOk ops = true) (hD : dstsOk F.nt ops = true) (hdst : ∀ (j : Nat) (o : Oper), ops[j]? = some o → dst j = o.dst)
    (hE : ∀ (i : Nat) (o : Oper), ops[i]? = some o → Does P (nm d (N + i)) (compOper P ops o) (gAt dst E g0 (fun j => decide (j < i)) ops.size) (mAt E μ0 (fun j => decide (j < i)) ops.size) (E i).v (E i).wr (E i).rd)
    (hQ : ∀ io a w, ConcF F io (gAt dst E g0 (fun _ => true) ops.size) (mAt E μ0 (fun _ => true) ops.size) (frS F d (N + ops.size)) a w → Q .normal a w) :
    ∀ (m i : Nat), i + m = ops.size → ∀ io a w, ConcF F io (gAt dst E g0 (fun j => decide (j < i)) ops.size) (mAt E μ0 (fun j => decide (j < i)) ops.size) (frL F d N ops.size (fun j => decide (j < i))) a w → wpOps P ops Q (List.range' i m) a w := by
  intro m
  induction m with
  | zero =>
    intro i hi io a w hC
    have : i = ops.size := by omega
    subst this
    simp only [List.range'_zero, wpOps]
    rw [gAt_lt _ _ (Nat.le_refl _), mAt_lt _ _ (Nat.le_refl _)] at hC
    exact hQ io a w ⟨hC.mem, hC.tmps, hC.size, hC.defers, fun b hb => hC.fresh b (frL_all hb), hC.heap, hC.own, hC.pre, hC.top, hC.free⟩
  | succ m ih =>
    intro i hi io a w hC
    rw [List.range'_succ, wpOps_cons]
    have ho : ops[i]? = some (ops[i]'(by omega)) := Array.getElem?_eq_getElem (by omega)
    refine inv_step hlow hout h4 hG hD hdst ho (by simp) (hE i _ ho) (fun j hj _ hL => by simp at hL; omega) (fun j hj _ hL => by simp at hL; omega) hC fun io' a' w' hC' => ?_
    rw [ins_lt] at hC'
    exact ih (i + 1) (by omega) io' a' w' hC'

/-- In whatever order. -/
theorem run_any (hlow : F.D ≤ d) (hout : ¬ Gar F.D F.N) (h4 : F.N % 4 = 0) (hG : guardsOk ops = true) (hD : dstsOk F.nt ops = true) (hLo : looseOk ops = true) (hB : backOk ops = true) (hdst : ∀ (j : Nat) (o : Oper), ops[j]? = some o → dst j = o.dst)
    (hE : ∀ (i : Nat) (o : Oper), ops[i]? = some o → Does P (nm d (N + i)) (compOper P ops o) (gAt dst E g0 (fun j => decide (j < i)) ops.size) (mAt E μ0 (fun j => decide (j < i)) ops.size) (E i).v (E i).wr (E i).rd)
    (hA : ∀ i j, (i, j) ∈ loose ops → evApart (E i) (E j) = true)
    (hQ : ∀ io a w, ConcF F io (gAt dst E g0 (fun _ => true) ops.size) (mAt E μ0 (fun _ => true) ops.size) (frS F d (N + ops.size)) a w → Q .normal a w) :
    ∀ (fuel : Nat) (listed : Array Bool), listed.size = ops.size → rem (fun i => listed.getD i false) ops.size ≤ fuel →
      (∀ (y : Nat) (o : Oper), ops[y]? = some o → listed.getD y false = true → ∀ e ∈ o.after.toList, Region.binds .any e = true → listed.getD e.on false = true) →
      ∀ io a w, ConcF F io (gAt dst E g0 (fun i => listed.getD i false) ops.size) (mAt E μ0 (fun i => listed.getD i false) ops.size) (frL F d N ops.size (fun i => listed.getD i false)) a w → wpAny P .any ops Q fuel listed a w := by
  -- all listed
  have fin : ∀ (listed : Array Bool), (∀ j, j < ops.size → listed.getD j false = true) → ∀ io a w, ConcF F io (gAt dst E g0 (fun i => listed.getD i false) ops.size) (mAt E μ0 (fun i => listed.getD i false) ops.size) (frL F d N ops.size (fun i => listed.getD i false)) a w → Q .normal a w := fun listed hall io a w hC => by
    have e1 : gAt dst E g0 (fun i => listed.getD i false) ops.size = gAt dst E g0 (fun _ => true) ops.size := funext fun t => gAt_congr t _ fun j hj _ => hall j hj
    have e2 : mAt E μ0 (fun i => listed.getD i false) ops.size = mAt E μ0 (fun _ => true) ops.size := funext fun t => mAt_congr t _ fun j hj _ => hall j hj
    rw [e1, e2] at hC
    exact hQ io a w ⟨hC.mem, hC.tmps, hC.size, hC.defers, fun b hb => hC.fresh b (frL_all hb), hC.heap, hC.own, hC.pre, hC.top, hC.free⟩
  have hready : ∀ (listed : Array Bool), listed.size = ops.size → ∀ i, i ∈ Region.ready .any ops listed ↔ ∃ o, ops[i]? = some o ∧ listed.getD i false = false ∧ ∀ e ∈ o.after.toList, Region.binds .any e = true → listed.getD e.on false = true := fun listed hsz i => by
    unfold Region.ready
    rw [List.mem_filter, List.mem_range]
    constructor
    · rintro ⟨hi, h⟩
      refine ⟨ops[i], Array.getElem?_eq_getElem hi, ?_⟩
      rw [Array.getElem?_eq_getElem hi] at h
      simp only [Bool.and_eq_true, Bool.not_eq_true', Option.map_some, Option.getD_some] at h
      obtain ⟨h1, h2⟩ := h
      refine ⟨by simpa [Array.getD_eq_getD_getElem?, hsz, hi] using h1, fun e he hb => ?_⟩
      have := Array.all_eq_true_iff_forall_mem.1 h2 e (by simpa using he)
      simpa [hb] using this
    · rintro ⟨o, ho, h1, h2⟩
      have hi : i < ops.size := (Array.getElem?_eq_some_iff.1 ho).1
      refine ⟨hi, ?_⟩
      rw [ho]
      simp only [Bool.and_eq_true, Bool.not_eq_true', Option.map_some, Option.getD_some]
      refine ⟨by simpa [Array.getD_eq_getD_getElem?, hsz, hi] using h1, Array.all_eq_true_iff_forall_mem.2 fun e he => ?_⟩
      by_cases hb : Region.binds .any e = true
      · rw [h2 e (by simpa using he) hb]; simp
      · simp [hb]
  have back : ∀ (y : Nat) (o : Oper), ops[y]? = some o → ∀ e ∈ o.after.toList, Region.binds .any e = true → e.on < y := fun y o ho e he hbi => by
    have h1 := List.all_eq_true.1 hB (o, y) (by rw [List.mem_zipIdx_iff_getElem?]; simpa using ho)
    have h2 := Array.all_eq_true_iff_forall_mem.1 h1 e (by simpa using he)
    simpa [hbi] using h2
  have empty : ∀ (listed : Array Bool), listed.size = ops.size → Region.ready .any ops listed = [] → ∀ j, j < ops.size → listed.getD j false = true := fun listed hsz he j => by
    induction j using Nat.strongRecOn with
    | _ j ih =>
      intro hj
      have ho : ops[j]? = some (ops[j]'hj) := Array.getElem?_eq_getElem hj
      cases hL : listed.getD j false with
      | true => rfl
      | false =>
        have : j ∈ Region.ready .any ops listed := (hready listed hsz j).2 ⟨_, ho, hL, fun e he hbi => ih e.on (back j _ ho e he hbi) (by have := back j _ ho e he hbi; omega)⟩
        rw [he] at this; cases this
  intro fuel
  induction fuel with
  | zero =>
    intro listed hsz hrem hcl io a w hC
    have hall := rem_zero ops.size (Nat.le_zero.1 hrem)
    refine ⟨?_, fin listed hall io a w hC⟩
    cases hr : Region.ready .any ops listed with
    | nil => rfl
    | cons i r =>
      obtain ⟨o, ho, h1, _⟩ := (hready listed hsz i).1 (by rw [hr]; simp)
      have := hall i (Array.getElem?_eq_some_iff.1 ho).1
      rw [h1] at this; cases this
  | succ fuel ih =>
    intro listed hsz hrem hcl io a w hC
    refine ⟨fun he => fin listed (empty listed hsz he) io a w hC, fun i hi => ?_⟩
    obtain ⟨o, ho, hLi, hdeps⟩ := (hready listed hsz i).1 hi
    have hlt : i < ops.size := (Array.getElem?_eq_some_iff.1 ho).1
    -- the pairs that are out of step
    have hl1 : ∀ j, j < i → listed.getD j false = false → (j, i) ∈ loose ops := fun j hj hLj => loose_mem hj hlt fun hp => by
      have := preds_closed hB (L := fun i => listed.getD i false) hcl (i + 1) i o (by omega) ho hdeps j hp
      rw [hLj] at this; cases this
    have hl2 : ∀ j, i < j → j < ops.size → listed.getD j false = true → (i, j) ∈ loose ops := fun j hj hjn hLj => loose_mem hj hjn fun hp => by
      have hoj : ops[j]? = some (ops[j]'hjn) := Array.getElem?_eq_getElem hjn
      have := preds_closed hB (L := fun i => listed.getD i false) hcl (j + 1) j _ (by omega) hoj (hcl j _ hoj hLj) i hp
      rw [hLi] at this; cases this
    have apart : ∀ x y, (x, y) ∈ loose ops → ∀ (ox oy : Oper), ops[x]? = some ox → ops[y]? = some oy → Oper.apart ops ox oy = true := fun x y hxy ox oy hx hy => by
      have := List.all_eq_true.1 hLo (x, y) hxy
      simp only [Array.getD_eq_getD_getElem?, hx, hy, Option.getD_some] at this
      exact this
    have evs : ∀ x y, (x, y) ∈ loose ops → (∀ b, b ∈ ids (E x).wr → b ∉ (E y).rd) ∧ (∀ b, b ∈ ids (E y).wr → b ∉ (E x).rd) ∧ (∀ b, b ∈ ids (E x).wr → b ∉ ids (E y).wr) := fun x y hxy => by
      have := hA x y hxy
      simp only [evApart, Bool.and_eq_true] at this
      exact ⟨fun b hb => disj_not this.1.1 hb, fun b hb => disj_not this.1.2 hb, fun b hb => disj_not this.2 hb⟩
    have hd : Does P (nm d (N + i)) (compOper P ops o) (gAt dst E g0 (fun i => listed.getD i false) ops.size) (mAt E μ0 (fun i => listed.getD i false) ops.size) (E i).v (E i).wr (E i).rd := by
      refine (hE i o ho).congr (guards_spec hG ho) (fun t ht => gAt_congr t _ fun j hj hjd => ?_) (fun b hb => mAt_congr b _ fun j hj hjd => ?_)
      · have hoj : ops[j]? = some (ops[j]'hj) := Array.getElem?_eq_getElem hj
        rw [hdst j _ hoj] at hjd
        by_cases h1 : j < i
        · simp only [h1, decide_true]
          cases hLj : listed.getD j false with
          | true => rfl
          | false => exact absurd ht ((Oper.apart_spec (apart j i (hl1 j h1 hLj) _ _ hoj ho)).1 t hjd)
        · simp only [h1, decide_false]
          cases hLj : listed.getD j false with
          | false => rfl
          | true =>
            have hji : i < j := by
              rcases Nat.lt_or_ge i j with h | h
              · exact h
              · have : j = i := by omega
                subst this; rw [hLi] at hLj; cases hLj
            exact absurd ht ((Oper.apart_spec (apart i j (hl2 j hji hj hLj) _ _ ho hoj)).2.2 t hjd)
      · by_cases h1 : j < i
        · simp only [h1, decide_true]
          cases hLj : listed.getD j false with
          | true => rfl
          | false => exact absurd hb ((evs j i (hl1 j h1 hLj)).1 b hjd)
        · simp only [h1, decide_false]
          cases hLj : listed.getD j false with
          | false => rfl
          | true =>
            have hji : i < j := by
              rcases Nat.lt_or_ge i j with h | h
              · exact h
              · have : j = i := by omega
                subst this; rw [hLi] at hLj; cases hLj
            exact absurd hb ((evs i j (hl2 j hji hj hLj)).2.1 b hjd)
    refine inv_step hlow hout h4 hG hD hdst ho hLi hd (fun j hj hjn hLj d hdi hdj => ?_) (fun j hj hjn hLj b hb => (evs i j (hl2 j hj hjn hLj)).2.2 b hb) hC fun io' a' w' hC' => ?_
    · have hoj : ops[j]? = some (ops[j]'hjn) := Array.getElem?_eq_getElem hjn
      rw [hdst i o ho] at hdi
      rw [hdst j _ hoj] at hdj
      exact (Oper.apart_spec (apart i j (hl2 j hj hjn hLj) _ _ ho hoj)).2.1 d hdi hdj
    · have hL' : ins (fun i => listed.getD i false) i = fun j => (listed.setIfInBounds i true).getD j false := by
        funext j
        simp only [ins, Array.getD_eq_getD_getElem?]
        by_cases e : j = i
        · subst e; simp [hsz, hlt]
        · rw [if_neg e, Array.getElem?_setIfInBounds_ne (Ne.symm e)]
      have hr' := rem_ins (L := fun i => listed.getD i false) hLi ops.size hlt
      rw [hL'] at hC' hr'
      refine ih (listed.setIfInBounds i true) (by simpa using hsz) (by omega) (fun y oy hy hLy e he hb => ?_) io' a' w' hC'
      have h2 := congrFun hL'
      rw [← h2] at hLy ⊢
      simp only [ins] at hLy ⊢
      split
      · rfl
      · split at hLy
        · rename_i _ e2
          subst e2
          rw [ho] at hy
          injection hy with hy
          subst hy
          exact hdeps e he hb
        · exact hcl y oy hy hLy e he hb
end

end Go.Proofs.Ytneoeegpceompaa.AM

/-
The abstract machine, part 19: the rule for regions; running a region's operations.
-/
namespace Go.Proofs.Ytneoeegpceompaa.AM
open Go

variable {P : Program} {nt : Nat}

theorem disj_nil_left (y : List Nat) : disj [] y = true := rfl
theorem disj_nil_right (x : List Nat) : disj x [] = true := by simp [disj]

theorem does_touch {N : Nat} {o : COper} {g : Nat → AV} {μ : Mu} {v : AV} {wr : Wr} {rd : List Nat} (h : Does P N o g μ v wr rd) (ht : o.op.touches = false) : wr = [] ∧ rd = [] := by
  cases h with
  | skip => exact ⟨rfl, rfl⟩
  | exec _ _ _ he => exact touches_no ht he
  | call f args _ _ _ _ ho _ => rw [ho] at ht; cases ht

theorem does_reads {N : Nat} {o : COper} {g : Nat → AV} {μ : Mu} {v : AV} {wr : Wr} {rd : List Nat} (h : Does P N o g μ v wr rd) (ht : o.op.reads = true) : wr = [] := by
  cases h with
  | skip => rfl
  | exec _ _ _ he => exact reads_no ht he
  | call f args _ _ _ _ ho _ => rw [ho] at ht; cases ht

theorem sorted_relab (ops0 : Array Oper) : sorted ops0 = ops0 ∨ ∃ p, Relab ops0 (sorted ops0) p ∧ ∀ j, j < ops0.size → ∃ i, i < ops0.size ∧ p i = j := by
  unfold sorted
  split
  · exact .inl rfl
  · split
    · rename_i h
      exact .inr ⟨_, (sort_relab h).1, (sort_relab h).2⟩
    · exact .inl rfl

theorem comp_region {c : Code} {cops : List COper} {pairs : List (Nat × Nat)} {live : List Nat} (h : compCode P nt c = .region cops pairs live) : ∃ id ops0 ops draw, c = .region id ops0 draw ∧ ops = (if draw = true then sorted ops0 else ops0) ∧ guardsOk ops = true ∧ dstsOk nt ops = true ∧ cops = ops.toList.map (compOper P ops) ∧
    (draw = true → looseOk ops = true ∧ backOk ops = true ∧ P.follows .mixedOrders = true ∧ pairs = loosePairs P ops) := by
  cases c with
  | region id ops0 draw =>
    refine ⟨id, ops0, _, draw, rfl, rfl, ?_⟩
    simp only [compCode] at h
    generalize (if draw = true then sorted ops0 else ops0) = ops at h ⊢
    split at h
    · rename_i h1
      simp only [Bool.and_eq_true] at h1
      split at h
      · split at h
        · rename_i h2
          simp only [Bool.and_eq_true] at h2
          injection h with h3 h4 h5
          exact ⟨h1.1, h1.2, h3.symm, fun _ => ⟨h2.1.1, h2.1.2, h2.2, h4.symm⟩⟩
        · cases h
      · rename_i h2
        injection h with h3 h4 h5
        exact ⟨h1.1, h1.2, h3.symm, fun e => absurd e h2⟩
    · cases h
  | _ => first | (simp only [compCode] at h; cases h; done) | cases h

/-- THE RULE FOR REGIONS. -/
theorem safe_region {cops : List COper} {pairs : List (Nat × Nat)} {live : List Nat} {S : St} {Q : Post} {l : List Ev} {T' : List (Nat × AV)} {M' : List (Nat × Blk)} (ht : Trace P (fun i => nm S.d (S.nx + i)) 0 cops (getT S.T) (getM S.M) l (getT T') (getM M'))
    (hp : pairsOk l pairs = true) (hQ : Q .normal ⟨T', M', S.d, S.nx + cops.length⟩) : Safe P nt (.region cops pairs live) S Q := by
  intro c hc F io a w hn hC
  obtain ⟨id, ops0, ops, draw, rfl, hops, hG, hD, hcops, hdraw⟩ := comp_region hc
  have hlen : cops.length = ops.size := by rw [hcops]; simp
  have hcop : ∀ (j : Nat) (o : Oper), ops[j]? = some o → cops[j]? = some (compOper P ops o) := fun j o ho => by rw [hcops]; simp [ho]
  have hdst1 : ∀ (j : Nat) (o : COper), cops[j]? = some o → (fun j => (ops[j]?).bind (·.dst)) j = o.dst := fun j o ho => by
    simp only
    rw [hcops] at ho
    simp only [List.getElem?_map, Array.getElem?_toList, Option.map_eq_some_iff] at ho
    obtain ⟨x, hx, rfl⟩ := ho
    rw [hx]; rfl
  obtain ⟨hdo, hfin⟩ := trace_does (dst := fun j => (ops[j]?).bind (·.dst)) hdst1 ht (i := 0) rfl rfl rfl rfl
  obtain ⟨hg', hm'⟩ := hfin (Nat.zero_le _)
  rw [hlen] at hg' hm'
  have hdst : ∀ (j : Nat) (o : Oper), ops[j]? = some o → (fun j => (ops[j]?).bind (·.dst)) j = o.dst := fun j o ho => by simp [ho]
  have hE : ∀ (i : Nat) (o : Oper), ops[i]? = some o → Does P (nm S.d (S.nx + i)) (compOper P ops o) (gAt (fun j => (ops[j]?).bind (·.dst)) (fun i => l.getD i default) (getT S.T) (fun j => decide (j < i)) ops.size) (mAt (fun i => l.getD i default) (getM S.M) (fun j => decide (j < i)) ops.size) (l.getD i default).v (l.getD i default).wr (l.getD i default).rd := fun i o ho => by
    have hi : i < ops.size := (Array.getElem?_eq_some_iff.1 ho).1
    rw [gAt_lt _ _ (by omega), mAt_lt _ _ (by omega)]
    exact hdo i _ (Nat.zero_le _) (hcop i o ho)
  have hD' : dstsOk F.nt ops = true := by rw [hn]; exact hD
  have hQ' : ∀ io a w, ConcF F io (gAt (fun j => (ops[j]?).bind (·.dst)) (fun i => l.getD i default) (getT S.T) (fun _ => true) ops.size) (mAt (fun i => l.getD i default) (getM S.M) (fun _ => true) ops.size) (frS F S.d (S.nx + ops.size)) a w → Post.conc F Q .normal a w := fun io a w h => by
    rw [← hg', ← hm', ← hlen] at h
    exact ⟨io, _, hQ, h, hC.low, hC.outN, hC.n4⟩
  cases draw with
  | false =>
    have hops : ops = ops0 := hops
    subst hops
    refine wp_region ?_
    rw [List.range_eq_range']
    refine run_text (d := S.d) (N := S.nx) hC.low hC.outN hC.n4 hG hD' hdst hE hQ' ops.size 0 (by omega) io a w ?_
    rw [gAt_lt _ _ (Nat.zero_le _), mAt_lt _ _ (Nat.zero_le _)]
    refine ⟨hC.c.mem, hC.c.tmps, hC.c.size, hC.c.defers, fun b hb => hC.c.fresh b ?_, hC.c.heap, hC.c.own, hC.c.pre, hC.c.top, hC.c.free⟩
    rcases hb with hb | ⟨k, h1, h2, _⟩
    · exact .inl hb
    · exact .inr ⟨k, h1, h2⟩
  | true =>
    obtain ⟨hLo, hB, hm, hpairs⟩ := hdraw rfl
    refine wp_region_any hm ?_
    have hops : ops = sorted ops0 := hops
    have hsz : ops.size = ops0.size ∧ (wpAny P .any ops (Post.conc F Q) ops.size (Array.replicate ops.size false) a { w with drawn := w.drawn + 1 } → wpAny P .any ops0 (Post.conc F Q) ops0.size (Array.replicate ops0.size false) a { w with drawn := w.drawn + 1 }) := by
      rcases sorted_relab ops0 with h | ⟨p, h1, h2⟩
      · rw [hops, h]; exact ⟨rfl, fun h => h⟩
      · rw [← hops] at h1
        refine ⟨h1.size, fun h => ?_⟩
        rw [h1.size] at h
        refine wpAny_relab h1 h2 _ _ _ (by simp) (by simp) (fun i hi => ?_) _ _ h
        have := h1.lt i hi
        simp [Array.getD_eq_getD_getElem?, Array.getElem?_replicate, hi, this]
    refine hsz.2 ?_
    have hs := step_drew (N := 0) hC.c.mem (w.drawn + 1)
    have hsA : StepA F.X (fun b => b = 0) io (getM S.M) w io (getM S.M) { w with drawn := w.drawn + 1 } := hs.toA hC.c.mem rfl
    have hA : ∀ i j, (i, j) ∈ loose ops → evApart (l.getD i default) (l.getD j default) = true := fun i j hij => by
      have hij' : i < j ∧ j < ops.size := by
        unfold loose at hij
        obtain ⟨j', hj', h2⟩ := List.mem_flatMap.1 hij
        obtain ⟨i', hi', h3⟩ := List.mem_filterMap.1 h2
        split at h3
        · cases h3
        · injection h3 with h3
          injection h3 with h4 h5
          subst h4; subst h5
          exact ⟨List.mem_range.1 hi', List.mem_range.1 hj'⟩
      have hoi : ops[i]? = some (ops[i]'(by omega)) := Array.getElem?_eq_getElem (by omega)
      have hoj : ops[j]? = some (ops[j]'(by omega)) := Array.getElem?_eq_getElem (by omega)
      by_cases hmm : (i, j) ∈ pairs
      · exact List.all_eq_true.1 hp (i, j) hmm
      · rw [hpairs] at hmm
        have hnm : mayMeet (compOp P (ops[i]'(by omega)).op) (compOp P (ops[j]'(by omega)).op) = false := by
          rw [Bool.eq_false_iff]
          intro h
          refine hmm (List.mem_filter.2 ⟨hij, ?_⟩)
          simp only [Array.getD_eq_getD_getElem?, hoi, hoj, Option.getD_some]
          exact h
        have di := hE i _ hoi
        have dj := hE j _ hoj
        simp only [mayMeet, Bool.and_eq_false_iff, Bool.not_eq_false', Bool.and_eq_true] at hnm
        rcases hnm with (h | h) | ⟨h1, h2⟩
        · obtain ⟨e1, e2⟩ := does_touch di h
          simp only [evApart, e1, e2, ids, List.map_nil, disj_nil_left, disj_nil_right, Bool.and_self]
        · obtain ⟨e1, e2⟩ := does_touch dj h
          simp only [evApart, e1, e2, ids, List.map_nil, disj_nil_left, disj_nil_right, Bool.and_self]
        · have e1 := does_reads di h1
          have e2 := does_reads dj h2
          simp only [evApart, e1, e2, ids, List.map_nil, disj_nil_left, Bool.and_self]
    refine run_any (d := S.d) (N := S.nx) hC.low hC.outN hC.n4 hG hD' hLo hB hdst hE hA hQ' ops.size (Array.replicate ops.size false) (by simp) ?_ (fun y o _ h => ?_) io a _ ?_
    · have : ∀ m, rem (fun i => (Array.replicate ops.size false).getD i false) m ≤ m := fun m => by
        induction m with
        | zero => exact Nat.le_refl _
        | succ m ih => simp only [rem]; split <;> omega
      exact this _
    · simp [Array.getD_eq_getD_getElem?, Array.getElem?_replicate] at h
      split at h <;> simp at h
    · have e0 : (fun i => (Array.replicate ops.size false).getD i false) = fun _ => false := by
        funext i
        simp only [Array.getD_eq_getD_getElem?, Array.getElem?_replicate]
        split <;> rfl
      have e1 : ∀ n, gAt (fun j => (ops[j]?).bind (·.dst)) (fun i => l.getD i default) (getT S.T) (fun _ => false) n = getT S.T := fun n => by
        induction n with
        | zero => rfl
        | succ n ih => simp only [gAt, if_false, Bool.false_eq_true]; exact ih
      have e2 : ∀ n, mAt (fun i => l.getD i default) (getM S.M) (fun _ => false) n = getM S.M := fun n => by
        induction n with
        | zero => rfl
        | succ n ih => simp only [mAt, if_false, Bool.false_eq_true]; exact ih
      rw [e0, e1, e2]
      have hle := hs.le
      refine ⟨hs.mem, fun t => (hC.c.tmps t).mono hle, hC.c.size, hC.c.defers, fun b hb => hC.c.fresh b ?_, (hC.c.hstep hsA).1, (hC.c.hstep hsA).2, hC.c.pre, hC.c.top, hC.c.free⟩
      rcases hb with hb | ⟨k, h1, h2, _⟩
      · exact .inl hb
      · exact .inr ⟨k, h1, h2⟩

/-! ### Running -/

theorem getT_set (T : List (Nat × AV)) (dst : Option Nat) (v : AV) : getT (setT T dst v) = updO (getT T) dst v := by
  cases dst with
  | none => rfl
  | some d =>
    funext t
    simp only [setT, updO, getT, upd]
    by_cases h : t = d
    · subst h; simp
    · rw [if_neg h, if_neg (fun e => h e.symm)]

/-- The operations from here on, and what holds behind them. -/
def RunOps (P : Program) (d n : Nat) : Nat → List COper → List (Nat × AV) → List (Nat × Blk) → List Ev → (List (Nat × AV) → List (Nat × Blk) → List Ev → Prop) → Prop
  | _, [], T, M, l, K => K T M l
  | i, o :: r, T, M, l, K => ∃ e : Ev, Does P (nm d (n + i)) o (getT T) (getM M) e.v e.wr e.rd ∧ RunOps P d n (i + 1) r (setT T o.dst e.v) (wrM M e.wr) (l ++ [e]) K

theorem run_trace {d n : Nat} (r : List COper) : ∀ {i : Nat} {T : List (Nat × AV)} {M : List (Nat × Blk)} {l : List Ev} {K : List (Nat × AV) → List (Nat × Blk) → List Ev → Prop}, RunOps P d n i r T M l K →
    ∃ l' T' M', Trace P (fun i => nm d (n + i)) i r (getT T) (getM M) l' (getT T') (getM M') ∧ K T' M' (l ++ l') := by
  induction r with
  | nil => intro i T M l K h; exact ⟨[], T, M, .nil _ _ _, by simpa [RunOps] using h⟩
  | cons o r ih =>
    intro i T M l K h
    obtain ⟨e, hd, h⟩ := h
    obtain ⟨l', T', M', ht, hk⟩ := ih h
    refine ⟨e :: l', T', M', .cons _ _ _ _ _ _ _ _ _ hd ?_, by simpa using hk⟩
    rw [getT_set, getM_wr] at ht
    exact ht

/-- THE RULE FOR REGIONS, to be run. -/
theorem safe_run {cops : List COper} {pairs : List (Nat × Nat)} {live : List Nat} {S : St} {Q : Post}
    (h : RunOps P S.d S.nx 0 cops S.T S.M [] fun T M l => pairsOk l pairs = true ∧ Q .normal ⟨T, M, S.d, S.nx + cops.length⟩) : Safe P nt (.region cops pairs live) S Q := by
  obtain ⟨l', T', M', ht, hk⟩ := run_trace cops h
  exact safe_region ht (by simpa using hk.1) hk.2

/-- A CONTRACT, with all that a call asks. -/
structure FS (P : Program) (N : Nat) (k : FuncId) (args : List AV) (pre : List (Nat × Blk)) (r : AV) (post : Wr) : Prop where
  call : callable P k = true
  spec : FSpec P N k args pre r post

/-- .. or of one that lies outside. -/
def CS (P : Program) (N : Nat) (k : FuncId) (args : List AV) (pre : List (Nat × Blk)) (r : AV) (post : Wr) : Prop := FS P N k args pre r post ∨ ∃ x, r = .v x ∧ post = [] ∧ XSpec P k args pre x
theorem CS.spec {P : Program} {N : Nat} {k : FuncId} {args : List AV} {pre : List (Nat × Blk)} {r : AV} {post : Wr} (h : CS P N k args pre r post) : CSpec P N k args pre r post := by
  rcases h with h | h
  · exact .inl ⟨h.call, h.spec⟩
  · exact .inr h

end Go.Proofs.Ytneoeegpceompaa.AM

/-
The abstract machine, part 20: other states for the same place; from a function's body to its contract.
-/
namespace Go.Proofs.Ytneoeegpceompaa.AM
open Go

variable {P : Program} {nt : Nat}

/-! ### Other states for the same place -/

theorem map_rels {E : Env} {f : AV → AV} (hf : ∀ x u, Rel E x u → Rel E (f x) u) {cs : List AV} {us : List Value} (h : Rels E cs us) : Rels E (cs.map f) us := ⟨by simp [h.1], fun j x u hx hu => by
  rw [List.getElem?_map] at hx
  obtain ⟨y, hy, rfl⟩ := Option.map_eq_some_iff.1 hx
  exact hf y u (h.2 j y u hy hu)⟩

/-- These temporaries alone. -/
def keepT (ks : List Nat) (T : List (Nat × AV)) : List (Nat × AV) := ks.map fun k => (k, getT T k)

theorem getT_keep (ks : List Nat) (T : List (Nat × AV)) (t : Nat) : getT (keepT ks T) t = getT T t ∨ getT (keepT ks T) t = .any := by
  induction ks with
  | nil => exact .inr rfl
  | cons k ks ih =>
    simp only [keepT, List.map_cons, getT]
    split
    · rename_i h; subst h; exact .inl rfl
    · exact ih

theorem weak_T {S : St} (T' : List (Nat × AV)) (h : ∀ t, getT T' t = getT S.T t ∨ getT T' t = .any) : Weak S { S with T := T' } := fun F io a w hC =>
  ⟨io, ⟨hC.c.mem, fun t => by
    rcases h t with h | h
    · show Rel _ (getT T' t) _
      rw [h]; exact hC.c.tmps t
    · show Rel _ (getT T' t) _
      rw [h]; exact .any _, hC.c.size, hC.c.defers, hC.c.fresh, hC.c.heap, hC.c.own, hC.c.pre, hC.c.top, hC.c.free⟩, hC.low, hC.outN, hC.n4⟩

theorem weak_keep {S : St} (ks : List Nat) : Weak S { S with T := keepT ks S.T } := weak_T _ (getT_keep ks S.T)

theorem weak_refl (S : St) : Weak S S := fun _ io _ _ h => ⟨io, h⟩
theorem weak_trans {A B C : St} (h : Weak A B) (k : Weak B C) : Weak A C := fun F io a w hC => by
  obtain ⟨io', h'⟩ := h F io a w hC
  exact k F io' a w h'

/-- Over a step that leaves the world as it is. -/
theorem weak_step {S S' : St} (hd : S'.d = S.d) (hnx : S.nx ≤ S'.nx) (h : ∀ F io a w, Conc F io S a w → ∃ (io' : Nat → Option (Option Nat)) (A : Nat → Prop), StepA F.X A io (getM S.M) w io' (getM S'.M) w ∧ (∀ b, frS F S'.d S'.nx b → frS F S.d S.nx b → ¬ A b) ∧ (∀ b, A b → Gar F.D b) ∧ ∀ t, Rel (envOf F.X io' (getM S'.M) w) (getT S'.T t) (a.tmps.getD t undef)) : Weak S S' := fun F io a w hC => by
  obtain ⟨io', A, hs, hA, hG, ht⟩ := h F io a w hC
  refine ⟨io', hC.c.step hs ht rfl rfl (fun b hb => ?_) hG, by rw [hd]; exact hC.low, hC.outN, hC.n4⟩
  have hb' : frS F S.d S.nx b := by
    rcases hb with hb | ⟨k, h1, h2⟩
    · exact .inl hb
    · exact .inr ⟨k, by omega, by rw [← hd]; exact h2⟩
  exact ⟨hb', hA b hb hb'⟩

/-- A block goes. -/
theorem weak_drop {S : St} (b : Nat) : Weak S { S with M := delM S.M b } := weak_step rfl (Nat.le_refl _) fun F io a w hC => by
  have hs := step_drop (N := nm S.d S.nx) hC.c.mem b
  have e : upd (getM S.M) b none = getM (delM S.M b) := by funext c; simp only [getM_del, upd]
  rw [e] at hs
  have hsA : StepA F.X (fun b => b = nm S.d S.nx) io (getM S.M) w io (getM (delM S.M b)) w := hs.toA hC.c.mem rfl
  exact ⟨io, fun _ => False, ⟨hsA.mem, hsA.ios, hsA.os, hsA.tape, hsA.output, hsA.size, hsA.keep, hsA.shape, hsA.own, fun _ _ h => h, fun h => h⟩, fun _ _ _ h => h, fun _ h => h.elim, fun t => (hC.c.tmps t).mono hsA.le⟩

/-- Blocks are written no more. -/
theorem weak_freeze {S : St} (fz : List Nat) : Weak S { S with M := wrM S.M (frzW (getM S.M) fz) } := weak_step rfl (Nat.le_refl _) fun F io a w hC => by
  have hs := frz_step (N := nm S.d S.nx) fz hC.c.mem
  rw [← getM_wr] at hs
  have hsA : StepA F.X (fun b => b = nm S.d S.nx) io (getM S.M) w io (getM (wrM S.M (frzW (getM S.M) fz))) w := hs.toA hC.c.mem rfl
  exact ⟨io, fun _ => False, ⟨hsA.mem, hsA.ios, hsA.os, hsA.tape, hsA.output, hsA.size, hsA.keep, hsA.shape, hsA.own, fun _ _ h => h, fun h => h⟩, fun _ _ _ h => h, fun _ h => h.elim, fun t => (hC.c.tmps t).mono hsA.le⟩

def mapT (f : AV → AV) (T : List (Nat × AV)) : List (Nat × AV) := T.map fun p => (p.1, f p.2)

theorem getT_map {f : AV → AV} (hf : f .any = .any) (T : List (Nat × AV)) (t : Nat) : getT (mapT f T) t = f (getT T t) := by
  induction T with
  | nil => exact hf.symm
  | cons p T ih =>
    obtain ⟨s, x⟩ := p
    simp only [mapT, List.map_cons, getT]
    split
    · rfl
    · exact ih

/-- Less known of the temporaries. -/
theorem weak_vl {S : St} (T' : List (Nat × AV)) (h : ∀ t, VL3 (getM S.M) (getT S.T t) (getT T' t)) : Weak S { S with T := T' } := fun F io a w hC =>
  ⟨io, ⟨hC.c.mem, fun t => (h t).rel hC.c.mem (hC.c.tmps t), hC.c.size, hC.c.defers, hC.c.fresh, hC.c.heap, hC.c.own, hC.c.pre, hC.c.top, hC.c.free⟩, hC.low, hC.outN, hC.n4⟩

def ren1 (b c : Nat) : AV → AV
  | .row b' sz off len => if b' = b then .row c sz off len else .row b' sz off len
  | .pt b' sz i o => if b' = b then .pt c sz i o else .pt b' sz i o
  | x => x
def ren2 (b c : Nat) : AV → AV
  | .agg cs => .agg (cs.map (ren1 b c))
  | x => ren1 b c x
def ren (b c : Nat) : AV → AV
  | .tup cs => .tup (cs.map (ren2 b c))
  | x => ren2 b c x

section
variable {E : Env} {b c : Nat}
theorem ren1_rel (h : E.io c = E.io b) (x : AV) (u : Value) (hr : Rel E x u) : Rel E (ren1 b c x) u := by
  cases x with
  | row b' sz off len =>
    simp only [ren1]
    split
    · rename_i e; subst e
      cases hr with
      | rowz _ _ A hz => exact .rowz c sz A (by rw [h]; exact hz)
      | row _ _ _ _ k c' A cur ty hk hA hb hc hl hm => exact .row c sz off len k c' A cur ty (by rw [h]; exact hk) hA hb hc hl hm
    · exact hr
  | pt b' sz i o =>
    simp only [ren1]
    split
    · rename_i e; subst e
      cases hr with
      | pt _ _ _ _ k hk => exact .pt c sz i o k (by rw [h]; exact hk)
    · exact hr
  | _ => exact hr
theorem ren2_rel (h : E.io c = E.io b) (x : AV) (u : Value) (hr : Rel E x u) : Rel E (ren2 b c x) u := by
  cases x with
  | agg cs =>
    cases hr with
    | agg _ us hl h1 hr => exact .agg' (map_rels (ren1_rel h) ⟨hl, hr⟩) h1
  | _ => exact ren1_rel h _ _ hr
theorem ren_rel (h : E.io c = E.io b) (x : AV) (u : Value) (hr : Rel E x u) : Rel E (ren b c x) u := by
  cases x with
  | tup cs =>
    cases hr with
    | tup _ us hl hr => exact .tup' (map_rels (ren2_rel h) ⟨hl, hr⟩)
  | _ => exact ren2_rel h _ _ hr
end

/-- A new frame of names. -/
theorem Safe.enter {cc : CC} {S : St} {Q : Post} (h : ∀ d, S.d < d → Safe P nt cc { S with d := d, nx := 0 } Q) : Safe P nt cc S Q := fun c hc F io a w hn hC => by
  obtain ⟨D, hD⟩ := hC.c.top
  refine h (max D (S.d + 1)) (by omega) c hc F io a w hn ⟨⟨hC.c.mem, hC.c.tmps, hC.c.size, hC.c.defers, fun b hb => ?_, hC.c.heap, hC.c.own, hC.c.pre, hC.c.top, hC.c.free⟩, ?_, hC.outN, hC.n4⟩
  · rcases hb with hb | ⟨k, _, h2⟩
    · exact hC.c.fresh b (.inl hb)
    · exact hD b ⟨_, k, by show D ≤ max D (S.d + 1); omega, h2⟩
  · have := hC.low
    show F.D ≤ max D (S.d + 1)
    omega

theorem SafeL.enter {cc : CC} {S : St} {Q : Post} (h : ∀ d, S.d < d → SafeL P nt cc { S with d := d, nx := 0 } Q) : SafeL P nt cc S Q := fun c hc F io a w hn hC => by
  obtain ⟨D, hD⟩ := hC.c.top
  refine h (max D (S.d + 1)) (by omega) c hc F io a w hn ⟨⟨hC.c.mem, hC.c.tmps, hC.c.size, hC.c.defers, fun b hb => ?_, hC.c.heap, hC.c.own, hC.c.pre, hC.c.top, hC.c.free⟩, ?_, hC.outN, hC.n4⟩
  · rcases hb with hb | ⟨k, _, h2⟩
    · exact hC.c.fresh b (.inl hb)
    · exact hD b ⟨_, k, by show D ≤ max D (S.d + 1); omega, h2⟩
  · have := hC.low
    show F.D ≤ max D (S.d + 1)
    omega

/-- A block gets a new name. -/
theorem weak_move {S : St} {b : Nat} {blk : Blk} (hb : getM S.M b = some blk) : Weak S { S with T := mapT (ren b (nm S.d S.nx)) S.T, M := (nm S.d S.nx, blk) :: delM S.M b, nx := S.nx + 1 } := weak_step rfl (Nat.le_succ _) fun F io a w hC => by
  have hfree : io (nm S.d S.nx) = none := hC.c.fresh _ (.inr ⟨S.nx, Nat.le_refl _, nbr_self _⟩)
  have hs := step_rename hC.c.mem hfree (hC.c.mem.unused hfree) hb
  have e : upd (upd (getM S.M) b none) (nm S.d S.nx) (some blk) = getM ((nm S.d S.nx, blk) :: delM S.M b) := by
    funext c
    simp only [getM, getM_del, upd]
    by_cases h : c = nm S.d S.nx
    · subst h; simp
    · simp only [if_neg h, if_neg (fun e : nm S.d S.nx = c => h e.symm)]
  rw [e] at hs
  refine ⟨upd io (nm S.d S.nx) (io b), fun x => x = nm S.d S.nx, hs.toA hC.c.mem rfl, fun x h1 h2 h3 => ?_, fun x hx => ?_, fun t => ?_⟩
  · subst h3
    rcases h1 with h1 | ⟨k, h4, h5⟩
    · exact gar_of hC.n4 hC.outN h1 (gar_nm.2 hC.low)
    · have := (nbr_nm (nbr_self _) h5).2
      simp only at h4
      omega
  · subst hx; exact gar_nm.2 hC.low
  · show Rel _ (getT (mapT (ren b (nm S.d S.nx)) S.T) t) _
    rw [getT_map rfl]
    refine ren_rel ?_ _ _ ((hC.c.tmps t).mono hs.le)
    show upd io _ _ _ = upd io _ _ _
    rw [upd_same, upd_ne]
    intro e; subst e
    rw [hC.c.mem.unused hfree] at hb; cases hb

/-! ### From a function's body to its contract -/

theorem Mem.sub {X : Nat → Prop} {io : Nat → Option (Option Nat)} {μ μ' : Mu} {w : World} (h : Mem X io μ w) (hs : ∀ b blk, μ' b = some blk → μ b = some blk) : (envOf X io μ w).Le (envOf X io μ' w) ∧ Mem X io μ' w := by
  have le : (envOf X io μ w).Le (envOf X io μ' w) := ⟨fun k hk => ⟨⟨hk.1, hk.2.1, fun b blk hb => hk.2.2 b blk (hs b blk hb)⟩, rfl⟩, fun _ _ h => h, fun _ cur _ h => ⟨cur, h, rfl⟩⟩
  exact ⟨le, fun b blk hb => (h.ok b blk (hs b blk hb)).mono le (fun _ _ => rfl), fun b b' blk blk' k h1 h2 => h.inj b b' blk blk' k (hs _ _ h1) (hs _ _ h2), h.lt, fun b blk k hb => h.notX b blk k (hs _ _ hb), h.xlt⟩

/-- Where a result stands: in a temporary, in a variable's cells. -/
inductive RK where
  | t (t : Nat)
  | c (a : Nat) (ag : Bool) (n : Nat)

def resK (P : Program) : List ResultVar → Option (List RK)
  | [] => some []
  | .tmp t :: r => (resK P r).map (.t t :: ·)
  | .cell a ty :: r => match tag P ty, tsz P ty, resK P r with
    | some ag, some n, some l => if ag = true ∨ n = 1 then some (.c a ag n :: l) else none
    | _, _, _ => none

def resV (T : List (Nat × AV)) (μ : Mu) : RK → Option AV
  | .t t => some (getT T t)
  | .c a ag n => loadAV μ ag n (getT T a)

def resVs (T : List (Nat × AV)) (μ : Mu) : List RK → Option (List AV)
  | [] => some []
  | k :: r => match resV T μ k, resVs T μ r with
    | some x, some l => some (x :: l)
    | _, _ => none

def resAV (T : List (Nat × AV)) (μ : Mu) (ks : List RK) : Option AV := match resVs T μ ks with
  | some [x] => some x
  | some l => some (.tup l)
  | none => none

theorem res_mapM {X : Nat → Prop} {io : Nat → Option (Option Nat)} {μ : Mu} {w : World} (hM : Mem X io μ w) {T : List (Nat × AV)} {tmps : Array Value} (hT : ∀ t, Rel (envOf X io μ w) (getT T t) (tmps.getD t undef)) {f : ResultVar → Sem Value} (hf : ∀ t, f (.tmp t) = pure (tmps.getD t undef)) (hf2 : ∀ a t, f (.cell a t) = do loadVar t (← asAddr (tmps.getD a undef))) :
    ∀ (l : List ResultVar) (ks : List RK) (xs : List AV), resK P l = some ks → resVs T μ ks = some xs → ∃ vs, (l.mapM f).run P w = .ok vs w ∧ Rels (envOf X io μ w) xs vs := by
  intro l
  induction l with
  | nil =>
    intro ks xs h h2
    simp only [resK, Option.some.injEq] at h; subst h
    simp only [resVs, Option.some.injEq] at h2; subst h2
    exact ⟨[], by simp, .nil _⟩
  | cons x l ih =>
    intro ks xs h h2
    cases x with
    | tmp t =>
      simp only [resK, Option.map_eq_some_iff] at h
      obtain ⟨r, hr, rfl⟩ := h
      simp only [resVs, resV] at h2
      split at h2
      · rename_i x l' hx hl'
        injection h2 with h2
        subst h2
        injection hx with hx
        subst hx
        obtain ⟨vs, h3, h4⟩ := ih r l' hr hl'
        exact ⟨tmps.getD t undef :: vs, by simp [List.mapM_cons, h3, hf], .cons (hT t) h4⟩
      · cases h2
    | cell a t =>
      simp only [resK] at h
      split at h
      · rename_i ag n r hag hn hr
        split at h
        · rename_i h1
          injection h with h
          subst h
          simp only [resVs, resV] at h2
          split at h2
          · rename_i x l' hx hl'
            injection h2 with h2
            subst h2
            obtain ⟨vs, h3, h4⟩ := ih r l' hr hl'
            obtain ⟨ad, v, hv, hrun, hrel⟩ := run_load_rel (P := P) hM hag hn h1 hx (hT a)
            exact ⟨v :: vs, by simp only [List.mapM_cons, hf2, hv]; simp [h3, hrun, asAddr], .cons hrel h4⟩
          · cases h2
        · cases h
      · cases h

theorem results_run {X : Nat → Prop} {io : Nat → Option (Option Nat)} {μ : Mu} {w : World} (hM : Mem X io μ w) {fn : Func} {ks : List RK} (h : resK P fn.results.toList = some ks) {T : List (Nat × AV)} {tmps : Array Value} (hT : ∀ t, Rel (envOf X io μ w) (getT T t) (tmps.getD t undef)) {x : AV} (hx : resAV T μ ks = some x) :
    ∃ v, (results fn tmps).run P w = .ok v w ∧ Rel (envOf X io μ w) x v := by
  have run : ∀ xs, resVs T μ ks = some xs → ∃ vs : List Value, Rels (envOf X io μ w) xs vs ∧ (results fn tmps).run P w = .ok (if h : vs.toArray.size = 1 then vs.toArray[0] else .tuple vs.toArray) w := fun xs hxs => by
    let f : ResultVar → Sem Value := fun | .tmp t => pure (tmps.getD t undef) | .cell a t => do loadVar t (← asAddr (tmps.getD a undef))
    obtain ⟨vs, h1, h2⟩ := res_mapM (P := P) hM (tmps := tmps) hT (f := f) (fun t => rfl) (fun a t => rfl) fn.results.toList ks xs h hxs
    refine ⟨vs, h2, ?_⟩
    have e : results fn tmps = (do let vs ← fn.results.mapM f; pure (if h : vs.size = 1 then vs[0] else .tuple vs)) := rfl
    rw [e, Array.mapM_eq_mapM_toList]
    simp [h1]
  unfold resAV at hx
  split at hx
  · rename_i y hy
    injection hx with hx
    subst hx
    obtain ⟨vs, h1, h2⟩ := run _ hy
    obtain ⟨v, r, rfl, hr, hrr⟩ := h1.cons_inv
    have := hrr.nil_inv
    subst this
    exact ⟨v, h2, hr⟩
  · rename_i l hne hl
    injection hx with hx
    subst hx
    obtain ⟨vs, h1, h2⟩ := run _ hl
    refine ⟨_, h2, ?_⟩
    have hne1 : vs.toArray.size ≠ 1 := fun e => by
      have h3 := h1.1
      simp at e
      rw [e] at h3
      match l, h3 with
      | [y], _ => exact hne y rfl
    rw [dif_neg hne1]
    exact .tup' h1
  · cases hx

def argT (args : List AV) : List (Nat × AV) := args.zipIdx.map fun p => (p.2, p.1)

theorem getT_args (args : List AV) : ∀ (k t : Nat), getT ((args.zipIdx k).map fun p => (p.2, p.1)) t = if k ≤ t then (args[t - k]?).getD .any else .any := by
  induction args with
  | nil => intro k t; simp [getT]
  | cons x args ih =>
    intro k t
    simp only [List.zipIdx_cons, List.map_cons, getT]
    by_cases h : k = t
    · subst h; simp
    · rw [if_neg h, ih]
      by_cases h1 : k ≤ t
      · rw [if_pos h1, if_pos (by omega)]
        have : t - k = (t - (k + 1)) + 1 := by omega
        rw [this, List.getElem?_cons_succ]
      · rw [if_neg h1, if_neg (by omega)]

/-- Blocks become the results' own. -/
def mvMu (N : Nat) : Nat → List Nat → Mu → Mu
  | _, [], μ => μ
  | j, c :: r, μ => mvMu N (j + 1) r (upd (upd μ c none) (N + j) (μ c))
def mvAV (N : Nat) : Nat → List Nat → AV → AV
  | _, [], x => x
  | j, c :: r, x => mvAV N (j + 1) r (ren c (N + j) x)
def mvOk (N : Nat) : Nat → List Nat → Mu → Prop
  | _, [], _ => True
  | j, c :: r, μ => j < 4 ∧ ¬ nbr N c ∧ (∃ blk, μ c = some blk) ∧ mvOk N (j + 1) r (upd (upd μ c none) (N + j) (μ c))

theorem mv_steps {X : Nat → Prop} {w : World} {N : Nat} {v : Value} (mv : List Nat) : ∀ (j : Nat) (io : Nat → Option (Option Nat)) (μ : Mu) (r : AV), Mem X io μ w → mvOk N j mv μ → (∀ i, j ≤ i → i < 4 → io (N + i) = none) → Rel (envOf X io μ w) r v →
    ∃ io2, Mem X io2 (mvMu N j mv μ) w ∧ (∀ b, ¬ nbr N b → io2 b = io b) ∧ (∀ b k, io b = some k → io2 b = some k) ∧
      (∀ b bk k, mvMu N j mv μ b = some bk → bk.mu = true → io2 b = some (some k) → (∃ b0 bk0, μ b0 = some bk0 ∧ bk0.mu = true ∧ io b0 = some (some k)) ∨ w.heap.size ≤ k) ∧ Rel (envOf X io2 (mvMu N j mv μ) w) (mvAV N j mv r) v := by
  induction mv with
  | nil => intro j io μ r hM _ _ hr; exact ⟨io, hM, fun _ _ => rfl, fun _ _ h => h, fun b bk k h1 h2 h3 => .inl ⟨b, bk, h1, h2, h3⟩, hr⟩
  | cons c mv ih =>
    intro j io μ r hM ⟨hj, hcN, ⟨blk, hb⟩, hok⟩ hfr hr
    have hN := hfr j (Nat.le_refl _) hj
    have hst := step_rename (N := N + j) hM hN (hM.unused hN) hb
    rw [hb] at hok
    have hne : c ≠ N + j := fun e => hcN (by subst e; exact ⟨by omega, by omega⟩)
    have hr' : Rel (envOf X (upd io (N + j) (io c)) (upd (upd μ c none) (N + j) (some blk)) w) (ren c (N + j) r) v := by
      refine ren_rel ?_ _ _ (hr.mono hst.le)
      show upd io (N + j) (io c) (N + j) = upd io (N + j) (io c) c
      rw [upd_same, upd_ne _ _ hne]
    obtain ⟨io2, h1, h2, h3, h4, h5⟩ := ih (j + 1) _ _ _ hst.mem hok (fun i hi hi4 => by rw [upd_ne _ _ (by omega)]; exact hfr i (by omega) hi4) hr'
    refine ⟨io2, by simp only [mvMu, hb]; exact h1, fun b hbN => ?_, fun b k hk => h3 b k (hst.ios b k hk), fun b bk k g1 g2 g3 => ?_, by simp only [mvMu, mvAV, hb]; exact h5⟩
    · rw [h2 b hbN, upd_ne _ _ (fun e => hbN (by subst e; exact ⟨by omega, by omega⟩))]
    · simp only [mvMu, hb] at g1
      rcases h4 b bk k g1 g2 g3 with ⟨b0, bk0, q1, q2, q3⟩ | q1
      · exact hst.own b0 bk0 k q1 q2 q3
      · exact .inr q1

/-- What must hold at a function's end. -/
structure RetS (N : Nat) (ks : List RK) (post : Mu) (r : AV) (T : List (Nat × AV)) (M : List (Nat × Blk)) : Prop where
  ret : ∃ (fz mv : List Nat) (x r' : AV), resAV T (getM M) ks = some x ∧ VL3 (app (getM M) (frzW (getM M) fz)) x r' ∧ mvOk N 0 mv (app (getM M) (frzW (getM M) fz)) ∧ r = mvAV N 0 mv r' ∧
    ∀ b blk, post b = some blk → mvMu N 0 mv (app (getM M) (frzW (getM M) fz)) b = some blk

def RetQ (N : Nat) (ks : List RK) (post : Mu) (r : AV) : Post := fun e S => match S with
  | ⟨T, M, _, _⟩ => match e with
    | .ret => RetS N ks post r T M
    | .normal => RetS N ks post r T M
    | _ => False

/-- THE CONTRACT OF A FUNCTION, from its body. -/
theorem fs_of_safe {k : Nat} {fn : Func} {body : Code} {cc : CC} {N : Nat} {args : List AV} {pre : List (Nat × Blk)} {r : AV} {post : Wr} {ks : List RK} (hf : P.funcs[k]? = some fn) (hb : fn.body = some body) (hname : (fn.name == "runtime.NumGoroutine") = false)
    (hts : resK P fn.results.toList = some ks) (hc : compCode P fn.ntmps body = cc) (hn : args.length ≤ fn.ntmps)
    (hs : ∀ D, N % 4 = 0 → ¬ Gar D N → (∀ b, preMu pre b ≠ none → ¬ Gar D b) → Safe P fn.ntmps cc ⟨argT args, (wrM [] (pre.map fun p => (p.1, some p.2))), D, 0⟩ (RetQ N ks (app (preMu pre) post) r)) : FS P N k args pre r post := by
  have hpre : getM (wrM [] (pre.map fun p => (p.1, some p.2))) = preMu pre := by rw [getM_wr]; rfl
  refine ⟨by simp [callable, hf, hb, hname], fun X io w vs D hM hargs h4 hN hD hND => ?_⟩
  refine calls_of_wp hf hb ?_
  have hps : ∀ b, preMu pre b ≠ none → ¬ Gar D b := fun b hb hg => hb (hM.unused (hD b hg))
  have hlen : vs.length = args.length := hargs.1.symm
  let F : Fr := ⟨X, w, fun k => ∃ b blk, preMu pre b = some blk ∧ blk.mu = true ∧ io b = some (some k), io, fn.ntmps, D, N⟩
  have hC : Conc F io ⟨argT args, (wrM [] (pre.map fun p => (p.1, some p.2))), D, 0⟩ { tmps := vs.toArray ++ Array.replicate (fn.ntmps - vs.toArray.size) undef, defers := [] } w := by
    refine ⟨⟨?_, fun t => ?_, ?_, rfl, fun b hb => ?_, HStep.refl _ _, fun b blk k h1 h2 h3 => .inl ⟨b, blk, ?_, h2, h3⟩, fun _ _ h => h, ⟨D, hD⟩, fun _ _ _ h => h⟩, Nat.le_refl _, hND, h4⟩
    · show Mem X io (getM (wrM [] (pre.map fun p => (p.1, some p.2)))) w
      rw [hpre]; exact hM
    · show Rel (envOf X io (getM (wrM [] (pre.map fun p => (p.1, some p.2)))) w) (getT (argT args) t) _
      rw [hpre]
      have := getT_args args 0 t
      simp only [Nat.zero_le, if_true, Nat.sub_zero] at this
      rw [argT, this]
      cases ha : args[t]? with
      | none => exact .any _
      | some x =>
        have ht : t < vs.length := by have := (List.getElem?_eq_some_iff.1 ha).1; omega
        have hv : vs[t]? = some vs[t] := List.getElem?_eq_getElem ht
        have : (vs.toArray ++ Array.replicate (fn.ntmps - vs.toArray.size) undef).getD t undef = vs[t] := by
          simp [Array.getD_eq_getD_getElem?, Array.getElem?_append_left, ht]
        rw [this]
        exact hargs.2 t x _ ha hv
    · show _ = fn.ntmps; simp; omega
    · rcases hb with hb | ⟨k, _, h2⟩
      · exact hN b hb
      · exact hD _ ⟨D, k, Nat.le_refl _, h2⟩
    · rw [← hpre]; exact h1
  refine wp_mono (hs D h4 hND hps _ hc F io _ w rfl hC) fun e a' w' ⟨io', S', hQ, hC'⟩ => ?_
  have hQ' : (e = .ret ∨ e = .normal) ∧ RetS N ks (app (preMu pre) post) r S'.T S'.M := by
    cases e <;> first | exact ⟨.inl rfl, hQ⟩ | exact ⟨.inr rfl, hQ⟩ | exact hQ.elim
  obtain ⟨he, ⟨fz, mv, x, r', hx, hvl, hmo, hrr, hsub⟩⟩ := hQ'
  have hz := frz_step (X := X) (io := io') (w := w') N fz hC'.c.mem
  obtain ⟨v, hv, hr⟩ := results_run (P := P) hC'.c.mem hts hC'.c.tmps hx
  have hr2 := hvl.rel hz.mem (hr.mono hz.le)
  have ownF : ∀ b blk k, app (getM S'.M) (frzW (getM S'.M) fz) b = some blk → blk.mu = true → io' b = some (some k) → (∃ b0 blk0, preMu pre b0 = some blk0 ∧ blk0.mu = true ∧ io b0 = some (some k)) ∨ w.heap.size ≤ k := fun b blk k h1 h2 h3 => by
    rcases hz.own b blk k h1 h2 h3 with ⟨b0, blk0, q1, q2, q3⟩ | q1
    · exact hC'.c.own b0 blk0 k q1 q2 q3
    · have := hC'.c.heap.size
      exact .inr (Nat.le_trans this q1)
  obtain ⟨io2, hM2, hio2, hios, hown, hrel⟩ := mv_steps mv 0 io' _ r' hz.mem hmo (fun i _ hi => hC'.c.fresh (N + i) (.inl ⟨by show N ≤ N + i; omega, by show N + i < N + 4; omega⟩)) hr2
  rw [← hrr] at hrel
  obtain ⟨le, hM3⟩ := hM2.sub hsub
  have fin : StepA X (fun b => nbr N b ∨ Gar D b) io (preMu pre) w io2 (app (preMu pre) post) w' := by
    refine ⟨hM3, fun b k h => hios b k (hC'.c.pre b k h), hC'.c.heap.os, hC'.c.heap.tape, hC'.c.heap.output, hC'.c.heap.size, fun k hk h => hC'.c.heap.keep k hk fun ⟨b, blk, h1, h2, h3⟩ => h b blk h1 h2 h3, hC'.c.heap.shape, fun b blk k h1 h2 h3 => ?_, fun b hb h => ?_, fun _ => ?_⟩
    · rcases hown b blk k (hsub b blk h1) h2 h3 with ⟨b0, bk0, q1, q2, q3⟩ | q1
      · exact ownF b0 bk0 k q1 q2 q3
      · exact .inr (Nat.le_trans hC'.c.heap.size q1)
    · have hbN : ¬ nbr N b := fun e => hb (.inl e)
      rw [hio2 b hbN]; exact hC'.c.free b hbN (fun h => hb (.inr h)) h
    · obtain ⟨D', hD'⟩ := hC'.c.top
      refine ⟨max D' D, fun b hb => ?_⟩
      have hbN : ¬ nbr N b := fun e => gar_of h4 hND e (hb.mono (by omega))
      rw [hio2 b hbN]; exact hD' b (hb.mono (by omega))
  rcases he with rfl | rfl
  · exact ⟨hC'.c.defers, v, hv, v, io2, rfl, fin, hrel.mono le⟩
  · exact ⟨hC'.c.defers, v, hv, v, io2, rfl, fin, hrel.mono le⟩

end Go.Proofs.Ytneoeegpceompaa.AM

/-
The abstract machine, part 21: the rules as a walk uses them.
-/
namespace Go.Proofs.Ytneoeegpceompaa.AM
open Go

variable {P : Program} {nt : Nat}

theorem fs_fun {k : Nat} {fn : Func} {cc : CC} {ks : List RK} {N : Nat} {args : List AV} {pre : List (Nat × Blk)} {r : AV} {post : Wr} (hf : P.funcs[k]? = some fn) (hb : ∃ body, fn.body = some body ∧ compCode P fn.ntmps body = cc) (hname : (fn.name == "runtime.NumGoroutine") = false)
    (hts : resK P fn.results.toList = some ks) (hn : fn.ntmps = nt) (hn2 : args.length ≤ nt) (T0 : List (Nat × AV)) (hT : argT args = T0) (M0 : List (Nat × Blk)) (hM : (wrM [] (pre.map fun p => (p.1, some p.2))) = M0)
    (hs : ∀ D, N % 4 = 0 → ¬ Gar D N → (∀ b, preMu pre b ≠ none → ¬ Gar D b) → Safe P nt cc ⟨T0, M0, D, 0⟩ (RetQ N ks (app (preMu pre) post) r)) : FS P N k args pre r post := by
  obtain ⟨body, h1, h2⟩ := hb
  subst hn; subst hT; subst hM
  exact fs_of_safe hf h1 hname hts h2 hn2 hs

/-- A function without blocks of its caller's. -/
theorem fs_pure {k : Nat} {fn : Func} {cc : CC} {ks : List RK} {N : Nat} {args : List AV} {r : AV} (hf : P.funcs[k]? = some fn) (hb : ∃ body, fn.body = some body ∧ compCode P fn.ntmps body = cc) (hname : (fn.name == "runtime.NumGoroutine") = false)
    (hts : resK P fn.results.toList = some ks) (hn : fn.ntmps = nt) (hn2 : args.length ≤ nt) (T0 : List (Nat × AV)) (hT : argT args = T0)
    (hs : ∀ D, ¬ Gar D N → Safe P nt cc ⟨T0, [], D, 0⟩ (RetQ N ks (fun _ => none) r)) : FS P N k args [] r [] :=
  fs_fun hf hb hname hts hn hn2 T0 hT [] rfl fun D _ h _ => hs D h

/-- Code after code. -/
def Safes (P : Program) (nt : Nat) : List CC → St → Post → Prop
  | [], S, Q => Q .normal S
  | c :: r, S, Q => Safe P nt c S (thenQ (fun S' => Safes P nt r S' Q) Q)

variable {r : List CC} {S : St} {Q : Post}

theorem thenQ_ne {next : St → Prop} {Q : Post} {e : Exit} {S : St} (h : thenQ next Q e S) (he : e ≠ .normal) : Q e S := by
  cases e <;> first | exact absurd rfl he | exact h
theorem thenQ_of {next : St → Prop} {Q : Post} {e : Exit} {S : St} (h1 : e = .normal → next S) (h2 : e ≠ .normal → Q e S) : thenQ next Q e S := by
  cases e <;> first | exact h1 rfl | exact h2 (by simp)

theorem safe_of_safes {c : CC} (h : Safes P nt [c] S Q) : Safe P nt c S Q := Safe.mono h fun e S' hq => by
  cases e <;> exact hq

theorem s_seq {a b : CC} (h : Safes P nt (a :: b :: r) S Q) : Safes P nt (.seq a b :: r) S Q :=
  safe_seq (Safe.mono h fun e S' hq => thenQ_of (fun he => by subst he; exact hq) fun he => thenQ_of (fun h => absurd h he) fun _ => thenQ_ne hq he)

theorem s_skip (h : Safes P nt r S Q) : Safes P nt (.skip :: r) S Q := safe_skip h
theorem s_ret (h : Q .ret S) : Safes P nt (.ret :: r) S Q := safe_ret h
theorem s_exit {id : Nat} (h : Q (.exit id) S) : Safes P nt (.exit id :: r) S Q := safe_exit h

theorem s_cond {o : Operand} {x y : CC} (t : Bool) (ht : ev (getT S.T) o = .v (.bool t)) (h1 : t = true → Safes P nt (x :: r) S Q) (h2 : t = false → Safes P nt (y :: r) S Q) : Safes P nt (.cond o x y :: r) S Q := by
  refine safe_cond ht ?_
  cases t with
  | true => exact h1 rfl
  | false => exact h2 rfl

theorem s_block {id : Nat} {c : CC} (h : Safes P nt [c] S (blockQ id (thenQ (fun S' => Safes P nt r S' Q) Q))) : Safes P nt (.block id c :: r) S Q := safe_block (safe_of_safes h)

theorem s_loop {c : CC} (h : SafeL P nt c S (thenQ (fun S' => Safes P nt r S' Q) Q)) : Safes P nt (.loop c :: r) S Q := safe_loop h

/-- One round of a loop. -/
theorem l_round {c : CC} (h : Safes P nt [c] S (thenQ (fun S' => SafeL P nt c S' Q) Q)) : SafeL P nt c S Q := safeL_round (safe_of_safes h)

theorem l_round' {c c' : CC} (hc : c = c') (h : Safes P nt [c'] S (thenQ (fun S' => SafeL P nt c S' Q) Q)) : SafeL P nt c S Q := by subst hc; exact l_round h

theorem s_weak {S' : St} (hw : Weak S S') (h : Safes P nt r S' Q) (hq : r = [] → Q .normal S' → Q .normal S) : Safes P nt r S Q := by
  cases r with
  | nil => exact hq rfl h
  | cons c r => exact Safe.weak hw h

def drops : List Nat → List (Nat × Blk) → List (Nat × Blk)
  | [], M => M
  | b :: r, M => drops r (delM M b)

theorem weak_drops (bs : List Nat) : ∀ {T : List (Nat × AV)} {M : List (Nat × Blk)} {d nx : Nat}, Weak ⟨T, M, d, nx⟩ ⟨T, drops bs M, d, nx⟩ := by
  induction bs with
  | nil => intro T M d nx; exact weak_refl _
  | cons b r ih => intro T M d nx; exact weak_trans (weak_drop (S := ⟨T, M, d, nx⟩) b) ih

/-- The next round: these temporaries kept, these blocks dropped, in a new frame of names. -/
theorem l_again {x : CC} {T T' : List (Nat × AV)} {M M' : List (Nat × Blk)} {d nx : Nat} (ks bs : List Nat) (hT : keepT ks T = T') (hM : drops bs M = M') (h : ∀ d', SafeL P nt x ⟨T', M', d', 0⟩ Q) : SafeL P nt x ⟨T, M, d, nx⟩ Q := by
  subst hT; subst hM
  exact SafeL.weak (weak_trans (weak_keep (S := ⟨T, M, d, nx⟩) ks) (weak_drops bs)) (SafeL.enter fun d' _ => h d')

/-- The same for code. -/
theorem s_tidy {T T' : List (Nat × AV)} {M M' : List (Nat × Blk)} {d nx : Nat} {c : CC} (ks bs : List Nat) (hT : keepT ks T = T') (hM : drops bs M = M') (h : Safes P nt (c :: r) ⟨T', M', d, nx⟩ Q) : Safes P nt (c :: r) ⟨T, M, d, nx⟩ Q := by
  subst hT; subst hM
  exact Safe.weak (weak_trans (weak_keep (S := ⟨T, M, d, nx⟩) ks) (weak_drops bs)) h

/-- A condition that isn't known: both ways. -/
theorem s_split {p : Prop} (h1 : p → Safes P nt r S Q) (h2 : ¬ p → Safes P nt r S Q) : Safes P nt r S Q := by
  by_cases h : p
  · exact h1 h
  · exact h2 h

end Go.Proofs.Ytneoeegpceompaa.AM

/-
The abstract machine, part 23: what must be shown of a piece of code, as a proposition that unfolds by itself.
-/
namespace Go.Proofs.Ytneoeegpceompaa.AM
open Go

variable {P : Program} {nt : Nat}

/-! ### The nodes at which a walk stops -/

structure Ob (p K : Prop) : Prop where
  a : p
  b : K
structure Pk (p : Bool) (K : Prop) : Prop where
  a : p = true
  b : K
structure Br (t : Bool) (A B : Prop) : Prop where
  a : t = true → A
  b : t = false → B
structure Wp (k : IntKind) (n : Int) (K : Int → Prop) : Prop where
  a : K (k.wrap n)
structure El (es : List (List AV)) (i : Nat) (K : List AV → Prop) : Prop where
  a : ∃ r, es[i]? = some r ∧ K r
structure Lk (M : List (Nat × Blk)) (b : Nat) (K : Blk → Prop) : Prop where
  a : ∃ k, getM M b = some k ∧ K k
structure Ln (n : Nat) (K : Nat → Prop) : Prop where
  a : K n
structure Sb (es : List (List AV)) (off len : Nat) (K : List (List AV) → Prop) : Prop where
  a : off + len ≤ es.length ∧ K ((es.drop off).take len)
structure Se (es : List (List AV)) (i : Nat) (r : List AV) (K : List (List AV) → Prop) : Prop where
  a : K (es.set i r)
structure Ap (es : List (List AV)) (off len : Nat) (xs : List (List AV)) (K1 K2 : Nat → List (List AV) → Prop) : Prop where
  a : off + len + xs.length ≤ 1000000 ∧ ((off = 0 ∧ len = es.length ∧ K1 (len + xs.length) (es ++ xs)) ∨ (¬ (off = 0 ∧ len = es.length) ∧ off + len + xs.length ≤ es.length ∧ K2 (len + xs.length) (es.take (off + len) ++ (xs ++ es.drop (off + len + xs.length)))))
structure Cy (es : List (List AV)) (off len : Nat) (xs : List (List AV)) (m : Nat) (K : Nat → List (List AV) → Prop) : Prop where
  a : off ≤ es.length ∧ Nat.min m len ≤ xs.length ∧ K (Nat.min m len) (es.take off ++ ((xs.take (Nat.min m len)) ++ es.drop (off + Nat.min m len)))
structure Sc (es : List (List AV)) (off len : Nat) (K : List (List AV) → Nat → Prop) : Prop where
  a : K ((es.drop off).take len) len
structure Es (es : List (List AV)) (K : List (List AV) → Prop) : Prop where
  a : K es
structure Rs (M : List (Nat × Blk)) (b sz off len : Nat) (L H : Int) (K : Prop) : Prop where
  a : 0 ≤ L ∧ L ≤ H ∧ (H ≤ len ∨ ∃ k, getM M b = some k ∧ k.sz = sz ∧ 0 < k.es.length ∧ (off : Int) + H ≤ roomB k)
  b : K
structure Sx (s : ByteArray) (k : Int) (K : UInt8 → Prop) : Prop where
  a : 0 ≤ k ∧ ∃ b, s[k.toNat]? = some b ∧ K b
structure Lp (P : Program) (nt : Nat) (c : CC) (S : St) (Q : Post) : Prop where
  a : SafeL P nt c S Q
structure Cl (P : Program) (N k : Nat) (args : List AV) (M : List (Nat × Blk)) (K : AV → List (Nat × Blk) → Wr → List Nat → Prop) : Prop where
  a : ∃ fz pre post args' v M', VLs2 (app (getM M) (frzW (getM M) fz)) args args' ∧ CS P N k args' pre v post ∧ (∀ b blk, preMu pre b = some blk → app (getM M) (frzW (getM M) fz) b = some blk) ∧
    getM M' = app (app (getM M) (frzW (getM M) fz)) post ∧ K v M' (frzW (getM M) fz ++ post) (fz ++ (pre.map (·.1) ++ args.flatMap blks))

/-! ### Values, brought to their form -/

def lk : List (Nat × AV) → Nat → AV
  | [], _ => .any
  | (k, x) :: r, t => match Nat.beq k t with
    | true => x
    | false => lk r t

theorem lk_eq (T : List (Nat × AV)) : lk T = getT T := by
  induction T with
  | nil => rfl
  | cons p r ih =>
    obtain ⟨k, x⟩ := p
    funext t
    simp only [lk, getT, ih]
    by_cases h : k = t
    · subst h; simp
    · have : Nat.beq k t = false := by rw [Bool.eq_false_iff]; intro e; exact h (Nat.eq_of_beq_eq_true e)
      rw [this, if_neg h]

def evv (T : List (Nat × AV)) : Operand → AV
  | .tmp t => lk T t
  | .const c => .v c
  | .func f => .fn f []
  | .global _ => .any

theorem evv_eq (T : List (Nat × AV)) (x : Operand) : evv T x = ev (getT T) x := by
  cases x <;> simp [evv, ev, lk_eq]

def frc1 (x : AV) (K : AV → Prop) : Prop := match x with
  | .any => K .any
  | .v x => match x with
    | .int k n => K (.v (.int k n))
    | .bool b => K (.v (.bool b))
    | .string s => K (.v (.string s))
    | x => K (.v x)
  | .sl a b => K (.sl a b)
  | .z0 => K .z0
  | .ipt a => K (.ipt a)
  | .pt a b c d => K (.pt a b c d)
  | .row a b c d => K (.row a b c d)
  | .fn a b => K (.fn a b)
  | .agg a => K (.agg a)
  | .tup a => K (.tup a)

theorem frc1_eq (x : AV) (K : AV → Prop) : frc1 x K = K x := by
  cases x with
  | v x => cases x <;> rfl
  | _ => rfl

def frcL : List AV → (List AV → Prop) → Prop
  | [], K => K []
  | x :: r, K => frc1 x fun x => frcL r fun r => K (x :: r)

theorem frcL_eq (l : List AV) : ∀ K : List AV → Prop, frcL l K = K l := by
  induction l with
  | nil => intro K; rfl
  | cons x r ih => intro K; simp only [frcL, frc1_eq, ih]

def frc (x : AV) (K : AV → Prop) : Prop := match x with
  | .agg cs => frcL cs fun cs => K (.agg cs)
  | .ipt cs => frcL cs fun cs => K (.ipt cs)
  | x => frc1 x K

theorem frc_eq (x : AV) (K : AV → Prop) : frc x K = K x := by
  cases x <;> simp [frc, frcL_eq, frc1_eq]

def frcA : List AV → (List AV → Prop) → Prop
  | [], K => K []
  | x :: r, K => frc x fun x => frcA r fun r => K (x :: r)

theorem frcA_eq (l : List AV) : ∀ K : List AV → Prop, frcA l K = K l := by
  induction l with
  | nil => intro K; rfl
  | cons x r ih => intro K; simp only [frcA, frc_eq, ih]

def frcR : List (List AV) → (List (List AV) → Prop) → Prop
  | [], K => K []
  | x :: r, K => frcL x fun x => frcR r fun r => K (x :: r)

theorem frcR_eq (l : List (List AV)) : ∀ K : List (List AV) → Prop, frcR l K = K l := by
  induction l with
  | nil => intro K; rfl
  | cons x r ih => intro K; simp only [frcR, frcL_eq, ih]

def frcN (n : Nat) (K : Nat → Prop) : Prop := match n with
  | 0 => K 0
  | n + 1 => K (n + 1)

theorem frcN_eq (n : Nat) (K : Nat → Prop) : frcN n K = K n := by cases n <;> rfl

/-! ### Operations -/

def kOk (k k' : IntKind) (op : BinOp) : Bool := decide (k = k') && !isShift op

def wpBin (op : BinOp) (x y : AV) (K : Value → Prop) : Prop := match x with
  | .v (.int k a) => match y with
    | .v (.int k' b) => match op with
      | .shl => Ob (0 ≤ b) (Wp k (a * 2 ^ (Nat.min b.toNat k.bits)) fun n => K (.int k n))
      | .shr => Ob (0 ≤ b) (K (.int k (a.fdiv (2 ^ (Nat.min b.toNat k.bits)))))
      | op => match decide (k = k') with
        | true => match op with
          | .add => Wp k (a + b) fun n => K (.int k n)
          | .sub => Wp k (a - b) fun n => K (.int k n)
          | .mul => Wp k (a * b) fun n => K (.int k n)
          | .quo => Ob (b ≠ 0) (Wp k (a.tdiv b) fun n => K (.int k n))
          | .rem => Ob (b ≠ 0) (K (.int k (a.tmod b)))
          | op => match isShift op with
            | false => match binInt op k a b with | some v => K v | none => False
            | true => False
        | false => False
    | _ => False
  | .v (.string a) => match y with
    | .v (.string b) => match binStr op a b with | some v => K v | none => False
    | _ => False
  | _ => False

theorem wpBin_sound {op : BinOp} {x y : AV} {K : Value → Prop} (h : wpBin op x y K) : ∃ v, binAV op x y = some v ∧ K v := by
  unfold wpBin at h
  split at h
  · rename_i k a
    split at h
    · rename_i k' b
      split at h
      · obtain ⟨h0, ⟨h⟩⟩ := h; exact ⟨_, by simp [binAV, isShift, binShift, show ¬ b < 0 by omega], h⟩
      · obtain ⟨h0, h⟩ := h; exact ⟨_, by simp [binAV, isShift, binShift, show ¬ b < 0 by omega], h⟩
      · split at h
        · rename_i hk
          have hk := of_decide_eq_true hk
          subst hk
          split at h
          · obtain ⟨h⟩ := h; exact ⟨_, by simp [binAV, isShift, binInt], h⟩
          · obtain ⟨h⟩ := h; exact ⟨_, by simp [binAV, isShift, binInt], h⟩
          · obtain ⟨h⟩ := h; exact ⟨_, by simp [binAV, isShift, binInt], h⟩
          · obtain ⟨h0, ⟨h⟩⟩ := h; exact ⟨_, by simp [binAV, isShift, binInt, h0], h⟩
          · obtain ⟨h0, h⟩ := h; exact ⟨_, by simp [binAV, isShift, binInt, h0], h⟩
          · split at h
            · rename_i h0
              split at h
              · rename_i v hv
                exact ⟨v, by simp [binAV, h0, hv], h⟩
              · exact h.elim
            · exact h.elim
        · exact h.elim
    · exact h.elim
  · split at h
    · split at h
      · rename_i v hv
        exact ⟨v, by simpa [binAV] using hv, h⟩
      · exact h.elim
    · exact h.elim
  · exact h.elim

abbrev Ct := AV → List (Nat × Blk) → Wr → Prop

def wpMk (ag : Bool) (cs : List AV) (K : AV → Prop) : Prop := match mkAV ag cs with
  | some v => frc v K
  | none => False

def wpLoad (M : List (Nat × Blk)) (ag : Bool) (n : Nat) (a : AV) (K : AV → Prop) : Prop := match a with
  | .ipt cs => match Nat.ble n cs.length with
    | true => wpMk ag (cs.take n) K
    | false => False
  | .pt b sz i o => Lk M b fun k => match Nat.beq k.sz sz with
    | true => El k.es i fun r => match Nat.ble (o + n) r.length with
      | true => wpMk ag ((r.drop o).take n) K
      | false => False
    | false => False
  | _ => False

theorem wpMk_sound {ag : Bool} {cs : List AV} {K : AV → Prop} (h : wpMk ag cs K) : ∃ v, mkAV ag cs = some v ∧ K v := by
  unfold wpMk at h
  split at h
  · rename_i v hv; rw [frc_eq] at h; exact ⟨v, hv, h⟩
  · exact h.elim

theorem wpLoad_sound {M : List (Nat × Blk)} {ag : Bool} {n : Nat} {a : AV} {K : AV → Prop} (h : wpLoad M ag n a K) : ∃ v, loadAV (getM M) ag n a = some v ∧ K v := by
  unfold wpLoad at h
  split at h
  · split at h
    · rename_i hb
      obtain ⟨v, h1, h2⟩ := wpMk_sound h
      exact ⟨v, by simp [loadAV, Nat.le_of_ble_eq_true hb, h1], h2⟩
    · exact h.elim
  · obtain ⟨k, hk, h⟩ := h.a
    split at h
    · rename_i hs
      obtain ⟨r, hr, h⟩ := h.a
      split at h
      · rename_i hb
        obtain ⟨v, h1, h2⟩ := wpMk_sound h
        exact ⟨v, by simp [loadAV, hk, hr, Nat.eq_of_beq_eq_true hs, Nat.le_of_ble_eq_true hb, h1], h2⟩
      · exact h.elim
    · exact h.elim
  · exact h.elim

def wpStore (M : List (Nat × Blk)) (n : Nat) (a x : AV) (K : Ct) : Prop := match a with
  | .pt b sz i o => match cellsAV x with
    | some cs => Lk M b fun k => match k with
      | ⟨mu, ty, ksz, es, cap⟩ => match mu && Nat.beq ksz sz && Nat.beq cs.length n with
        | true => El es i fun r => match Nat.ble (o + n) r.length with
          | true => frcL (splice r o cs) fun r' => Se es i r' fun es' => K .any ((b, ⟨true, ty, ksz, es', cap⟩) :: M) [(b, some ⟨true, ty, ksz, es', cap⟩)]
          | false => False
        | false => False
    | none => False
  | _ => False

def wpRows (M : List (Nat × Blk)) (sz : Nat) (x : AV) (K : List (List AV) → Prop) : Prop := match x with
  | .sl s es => match Nat.beq s sz with
    | true => K es
    | false => False
  | .z0 => K []
  | .v (.slice _ 0 _) => K []
  | .row b s off len => Lk M b fun k => match k with
    | ⟨_, _, ksz, es, _⟩ => match Nat.beq s sz && Nat.beq ksz sz with
      | true => Sb es off len K
      | false => False
  | _ => False

def wpSrc (M : List (Nat × Blk)) (sz : Nat) (x : AV) (K : List (List AV) → Nat → Prop) : Prop := match x with
  | .sl s es => match Nat.beq s sz with
    | true => K es es.length
    | false => False
  | .z0 => K [] 0
  | .v (.slice _ 0 _) => K [] 0
  | .row b s off len => Lk M b fun k => match k with
    | ⟨_, _, ksz, es, _⟩ => match Nat.beq s sz && Nat.beq ksz sz with
      | true => Sc es off len K
      | false => False
  | _ => False

def wpNew (M : List (Nat × Blk)) (N e sz : Nat) (xs : List (List AV)) (K : Ct) : Prop :=
  Ob (xs.length ≤ 1000000) (Ln xs.length fun n => K (.row N sz 0 n) ((N, ⟨true, e, sz, xs, none⟩) :: M) [(N, some ⟨true, e, sz, xs, none⟩)])

def wpApp (M : List (Nat × Blk)) (N e sz : Nat) (s : AV) (xs : List (List AV)) (K : Ct) : Prop := match s with
  | .z0 => wpNew M N e sz xs K
  | .v (.slice none 0 0) => wpNew M N e sz xs K
  | .row b s off len => Lk M b fun k => match k with
    | ⟨mu, ty, ksz, es, cap⟩ => match mu && Nat.beq s sz && Nat.beq ksz sz && Nat.beq ty e with
      | true => Ap es off len xs (fun n es' => K (.row N sz 0 n) ((N, ⟨true, e, sz, es', none⟩) :: delM M b) [(b, none), (N, some ⟨true, e, sz, es', none⟩)])
          (fun n es' => K (.row b sz off n) ((b, ⟨true, ty, ksz, es', cap⟩) :: M) [(b, some ⟨true, ty, ksz, es', cap⟩)])
      | false => False
  | _ => False

def wpIdx (sz : Nat) (x i : AV) (K : AV → Prop) : Prop := match i with
  | .v (.int _ n) => match x with
    | .sl s es => match Nat.beq s sz with
      | true => Ob (0 ≤ n) (El es n.toNat fun r => frcL r fun r => K (.ipt r))
      | false => False
    | .row b s off len => match Nat.beq s sz with
      | true => Ob (0 ≤ n ∧ n < len) (K (.pt b sz (n.toNat + off) 0))
      | false => False
    | _ => False
  | _ => False

def wpBnd (T : List (Nat × AV)) (o : Option Operand) (dflt : Int) (K : Int → Prop) : Prop := match o with
  | none => K dflt
  | some x => match evv T x with
    | .v (.int _ n) => K n
    | _ => False

def wpSl (lo hi : Option Operand) (es : List (List AV)) (L H : Int) (K : List (List AV) → Prop) : Prop := match lo with
  | none => match hi with
    | none => K es
    | some _ => K (es.take H.toNat)
  | some _ => match hi with
    | none => K (es.drop L.toNat)
    | some _ => K ((es.drop L.toNat).take (H.toNat - L.toNat))

def wpSlR (lo hi : Option Operand) (off len : Nat) (L H : Int) (K : Nat → Nat → Prop) : Prop := match lo with
  | none => match hi with
    | none => K off len
    | some _ => K off H.toNat
  | some _ => K (L.toNat + off) (H.toNat - L.toNat)

def wpSlice (M : List (Nat × Blk)) (T : List (Nat × AV)) (sz : Nat) (x : AV) (lo hi mx : Option Operand) (K : AV → Prop) : Prop := match mx with
  | none => match x with
    | .sl s es => match Nat.beq s sz with
      | true => wpBnd T lo 0 fun L => wpBnd T hi es.length fun H => Ob (0 ≤ L ∧ L ≤ H ∧ H ≤ es.length) (wpSl lo hi es L H fun es => K (.sl sz es))
      | false => False
    | .row b s off len => match Nat.beq s sz with
      | true => wpBnd T lo 0 fun L => wpBnd T hi len fun H => Rs M b sz off len L H (wpSlR lo hi off len L H fun off len => K (.row b sz off len))
      | false => False
    | .z0 => wpBnd T lo 0 fun L => wpBnd T hi 0 fun H => Ob (L = 0 ∧ H = 0) (K .z0)
    | .v (.slice none 0 0) => wpBnd T lo 0 fun L => wpBnd T hi 0 fun H => Ob (L = 0 ∧ H = 0) (K (.v (.slice none 0 0)))
    | _ => False
  | some m => match hi with
    | none => False
    | some h => match x with
      | .sl s es => match Nat.beq s sz with
        | true => wpBnd T lo 0 fun L => wpBnd T (some h) 0 fun H => wpBnd T (some m) 0 fun m => Ob (0 ≤ L ∧ L ≤ H ∧ H ≤ es.length ∧ H ≤ m ∧ m ≤ es.length ∧ m = 0) (K .z0)
        | false => False
      | .row _ s _ len => match Nat.beq s sz with
        | true => wpBnd T lo 0 fun L => wpBnd T (some h) 0 fun H => wpBnd T (some m) 0 fun m => Ob (0 ≤ L ∧ L ≤ H ∧ H ≤ len ∧ H ≤ m ∧ m ≤ len) (K .any)
        | false => False
      | .z0 => wpBnd T lo 0 fun L => wpBnd T (some h) 0 fun H => wpBnd T (some m) 0 fun m => Ob (L = 0 ∧ H = 0 ∧ m = 0) (K .z0)
      | .v (.slice none 0 0) => wpBnd T lo 0 fun L => wpBnd T (some h) 0 fun H => wpBnd T (some m) 0 fun m => Ob (L = 0 ∧ H = 0 ∧ m = 0) (K (.v (.slice none 0 0)))
      | _ => False

def wpE (T : List (Nat × AV)) (M : List (Nat × Blk)) (N : Nat) (op : CO) (K : Ct) : Prop := match op with
  | .mov x => frc (evv T x) fun v => K v M []
  | .pick c a b => match evv T c with
    | .v (.bool t) => Br t (frc (evv T a) fun v => K v M []) (frc (evv T b) fun v => K v M [])
    | _ => False
  | .alloc e z => frcN z.length fun n => frcL (z.map .v) fun c => K (.pt N n 0 0) ((N, ⟨true, e, n, [c], some 1⟩) :: M) [(N, some ⟨true, e, n, [c], some 1⟩)]
  | .box e n x => match cellsAV (evv T x) with
    | some cs => match Nat.beq cs.length n with
      | true => frcL cs fun c => K (.pt N n 0 0) ((N, ⟨true, e, n, [c], some 1⟩) :: M) [(N, some ⟨true, e, n, [c], some 1⟩)]
      | false => False
    | none => False
  | .bslice e sz len z ps => match fillRows (lk T) sz (List.replicate len (z.map .v)) ps with
    | some rows => frcR rows fun rows => K (.row N sz 0 len) ((N, ⟨true, e, sz, rows, some len⟩) :: M) [(N, some ⟨true, e, sz, rows, some len⟩)]
    | none => False
  | .load ag n a => wpLoad M ag n (evv T a) fun v => K v M []
  | .store n a x => wpStore M n (evv T a) (evv T x) K
  | .bin op x y => wpBin op (evv T x) (evv T y) fun v => K (.v v) M []
  | .un op x => match op with
    | .neg => match evv T x with
      | .v (.int k n) => Wp k (0 - n) fun n => K (.v (.int k n)) M []
      | _ => False
    | .not => match evv T x with
      | .v (.bool b) => K (.v (.bool (!b))) M []
      | _ => False
    | _ => False
  | .conv k x => match evv T x with
    | .v (.int _ n) => Wp k n fun n => K (.v (.int k n)) M []
    | _ => False
  | .eqs neg plan x y => match evv T x with
    | .agg xs => match evv T y with
      | .agg ys => match eqCells plan xs ys with
        | some b => match neg with
          | true => K (.v (.bool (!b))) M []
          | false => K (.v (.bool b)) M []
        | none => False
      | _ => False
    | _ => False
  | .nilcmp neg x => match evv T x with
    | .v (.slice A _ _) => match neg with
      | true => K (.v (.bool (!A.isNone))) M []
      | false => K (.v (.bool A.isNone)) M []
    | .row _ _ _ len => Ob (0 < len) (match neg with
      | true => K (.v (.bool true)) M []
      | false => K (.v (.bool false)) M [])
    | .sl _ es => Ob (es ≠ []) (match neg with
      | true => K (.v (.bool true)) M []
      | false => K (.v (.bool false)) M [])
    | _ => False
  | .beq neg x y => match evv T x with
    | .v (.bool a) => match evv T y with
      | .v (.bool b) => match neg with
        | true => K (.v (.bool (!(a == b)))) M []
        | false => K (.v (.bool (a == b))) M []
      | _ => False
    | _ => False
  | .mksl e sz _ z l c => match evv T l with
    | .v (.int .i64 a) => match evv T c with
      | .v (.int .i64 b) => Ob (0 ≤ a ∧ a ≤ b ∧ b ≤ 1000000) (K (.row N sz 0 a.toNat) ((N, ⟨true, e, sz, List.replicate a.toNat (z.map .v), some b.toNat⟩) :: M) [(N, some ⟨true, e, sz, List.replicate a.toNat (z.map .v), some b.toNat⟩)])
      | _ => False
    | _ => False
  | .slice sz x lo hi mx => wpSlice M T sz (evv T x) lo hi mx fun v => K v M []
  | .iaddr sz x i => wpIdx sz (evv T x) (evv T i) fun v => K v M []
  | .sindex x i => match evv T x with
    | .v (.string s) => match evv T i with
      | .v (.int _ k) => Sx s k fun b => K (.v (.int .u8 b.toNat)) M []
      | _ => False
    | _ => False
  | .len x => match evv T x with
    | .sl _ es => Ln es.length fun n => K (.v (.int .i64 (n : Int))) M []
    | .row _ _ _ len => K (.v (.int .i64 (len : Int))) M []
    | .z0 => K (.v (.int .i64 0)) M []
    | .v (.slice _ n _) => K (.v (.int .i64 (n : Int))) M []
    | _ => False
  | .min x y => match evv T x with
    | .v (.int k a) => match evv T y with
      | .v (.int k' b) => match decide (k = k') with
        | true => K (.v (.int k (min a b))) M []
        | false => False
      | _ => False
    | _ => False
  | .max x y => match evv T x with
    | .v (.int k a) => match evv T y with
      | .v (.int k' b) => match decide (k = k') with
        | true => K (.v (.int k (max a b))) M []
        | false => False
      | _ => False
    | _ => False
  | .append e sz _ s x => wpRows M sz (evv T x) fun xs => wpApp M N e sz (evv T s) xs K
  | .copy sz d s => wpSrc M sz (evv T s) fun xs m => match evv T d with
    | .row b s off len => Lk M b fun k => match k with
      | ⟨mu, ty, ksz, es, cap⟩ => match mu && Nat.beq s sz && Nat.beq ksz sz with
        | true => Cy es off len xs m fun n es' => K (.v (.int .i64 (n : Int))) ((b, ⟨true, ty, ksz, es', cap⟩) :: M) [(b, some ⟨true, ty, ksz, es', cap⟩)]
        | false => False
    | _ => False
  | .cap x => match evv T x with
    | .row b s off len => Lk M b fun k => match k with
      | ⟨_, _, ksz, _, cap⟩ => match cap with
        | some c => match Nat.beq ksz s with
          | true => Ob (off ≤ c ∧ 0 < s ∧ 0 < len) (K (.v (.int .i64 ((c - off : Nat) : Int))) M [])
          | false => False
        | none => False
    | .z0 => K (.v (.int .i64 0)) M []
    | .v (.slice none 0 0) => K (.v (.int .i64 0)) M []
    | _ => False
  | .appendz e sz _ z s x => match evv T x with
    | .v (.int .i64 n) => match evv T s with
      | .z0 => Ob (0 ≤ n ∧ n ≤ 1000000) (K (.row N sz 0 n.toNat) ((N, ⟨true, e, sz, List.replicate n.toNat (z.map .v), none⟩) :: M) [(N, some ⟨true, e, sz, List.replicate n.toNat (z.map .v), none⟩)])
      | .v (.slice none 0 0) => Ob (0 ≤ n ∧ n ≤ 1000000) (K (.row N sz 0 n.toNat) ((N, ⟨true, e, sz, List.replicate n.toNat (z.map .v), none⟩) :: M) [(N, some ⟨true, e, sz, List.replicate n.toNat (z.map .v), none⟩)])
      | .row b s off len => Lk M b fun k => match k with
        | ⟨_, _, ksz, es, cap⟩ => match cap with
          | some c => match Nat.beq s sz && Nat.beq ksz sz with
            | true => Ob (0 ≤ n ∧ 0 < es.length ∧ off + len ≤ es.length ∧ off + len + n.toNat ≤ 1000000 ∧ c < off + len + n.toNat)
                (Es ((es.drop off).take len ++ List.replicate n.toNat (z.map .v)) fun es' => K (.row N sz 0 (len + n.toNat)) ((N, ⟨true, e, sz, es', none⟩) :: M) [(N, some ⟨true, e, sz, es', none⟩)])
            | false => False
          | none => False
      | _ => False
    | _ => False
  | .clear sz z x => match evv T x with
    | .row b s off len => Lk M b fun k => match k with
      | ⟨mu, ty, ksz, es, cap⟩ => match mu && Nat.beq s sz && Nat.beq ksz sz with
        | true => Ob (off + len ≤ es.length) (Es (es.take off ++ (List.replicate len (z.map .v) ++ es.drop (off + len))) fun es' => K (.tup []) ((b, ⟨true, ty, ksz, es', cap⟩) :: M) [(b, some ⟨true, ty, ksz, es', cap⟩)])
        | false => False
    | _ => False
  | .mkfn f cap => frcA (cap.map (evv T)) fun cs => K (.fn f cs) M []
  | .ext x i => match evv T x with
    | .tup vs => match vs[i]? with
      | some v => frc v fun v => K v M []
      | none => False
    | _ => False
  | .call _ _ => False
  | .bad => False
  | op => match evalCO (lk T) (getM M) N op with
    | some (v, []) => frc v fun v => K v M []
    | _ => False

end Go.Proofs.Ytneoeegpceompaa.AM

/-
The abstract machine, part 24: the propositions of part 23 are enough.
-/
namespace Go.Proofs.Ytneoeegpceompaa.AM
open Go

variable {P : Program} {nt : Nat}

theorem getM_upd (M : List (Nat × Blk)) (b : Nat) (k : Blk) : getM ((b, k) :: M) = upd (getM M) b (some k) := by
  funext c
  simp only [getM, upd]
  by_cases h : b = c
  · subst h; simp
  · rw [if_neg h, if_neg (fun e : c = b => h e.symm)]

theorem getM_cons (M : List (Nat × Blk)) (b : Nat) (k : Blk) : getM ((b, k) :: M) = app (getM M) [(b, some k)] := getM_upd M b k

theorem getM_move (M : List (Nat × Blk)) (b N : Nat) (k : Blk) : getM ((N, k) :: delM M b) = app (getM M) [(b, none), (N, some k)] := by
  rw [getM_upd]
  show upd (getM (delM M b)) N (some k) = upd (upd (getM M) b none) N (some k)
  congr 1
  funext c
  rw [getM_del]; rfl

theorem wpStore_sound {M : List (Nat × Blk)} {n : Nat} {a x : AV} {K : Ct} (h : wpStore M n a x K) : ∃ v wr M', storeAV (getM M) n a x = some (v, wr) ∧ getM M' = app (getM M) wr ∧ K v M' wr := by
  unfold wpStore at h
  split at h
  · split at h
    · rename_i cs hcs
      obtain ⟨⟨⟨mu, ty, ksz, es, cap⟩, hk, h⟩⟩ := h
      simp only at h
      split at h
      · rename_i hb
        simp only [Bool.and_eq_true, Nat.beq_eq] at hb
        obtain ⟨⟨rfl, rfl⟩, rfl⟩ := hb
        obtain ⟨⟨r, hr, h⟩⟩ := h
        split at h
        · rename_i hl
          rw [frcL_eq] at h
          exact ⟨_, _, _, by simp [storeAV, hk, hcs, hr, Nat.le_of_ble_eq_true hl], getM_cons _ _ _, h.a⟩
        · exact h.elim
      · exact h.elim
    · exact h.elim
  · exact h.elim

theorem wpRows_sound {M : List (Nat × Blk)} {sz : Nat} {x : AV} {K : List (List AV) → Prop} (h : wpRows M sz x K) : ∃ xs, rowsAV (getM M) sz x = some xs ∧ K xs := by
  unfold wpRows at h
  split at h
  · split at h
    · rename_i hs
      exact ⟨_, by simp [rowsAV, Nat.eq_of_beq_eq_true hs], h⟩
    · exact h.elim
  · exact ⟨_, rfl, h⟩
  · exact ⟨_, rfl, h⟩
  · obtain ⟨⟨⟨mu, ty, ksz, es, cap⟩, hk, h⟩⟩ := h
    simp only at h
    split at h
    · rename_i hs
      simp only [Bool.and_eq_true, Nat.beq_eq] at hs
      obtain ⟨rfl, rfl⟩ := hs
      exact ⟨_, by simp [rowsAV, hk, h.a.1], h.a.2⟩
    · exact h.elim
  · exact h.elim

theorem wpApp_sound {M : List (Nat × Blk)} {N e sz : Nat} {s : AV} {xs : List (List AV)} {K : Ct} (h : wpApp M N e sz s xs K) : ∃ v wr M', appendAV (getM M) N e sz s xs = some (v, wr) ∧ getM M' = app (getM M) wr ∧ K v M' wr := by
  unfold wpApp at h
  split at h
  · obtain ⟨h1, ⟨h⟩⟩ := h; exact ⟨_, _, _, by simp only [appendAV]; rw [if_pos h1], getM_cons _ _ _, h⟩
  · obtain ⟨h1, ⟨h⟩⟩ := h; exact ⟨_, _, _, by simp only [appendAV]; rw [if_pos h1], getM_cons _ _ _, h⟩
  · obtain ⟨⟨⟨mu, ty, ksz, es, cap⟩, hk, h⟩⟩ := h
    simp only at h
    split at h
    · rename_i hb
      simp only [Bool.and_eq_true, Nat.beq_eq] at hb
      obtain ⟨⟨⟨rfl, rfl⟩, rfl⟩, rfl⟩ := hb
      obtain ⟨⟨h0, h⟩⟩ := h
      rcases h with ⟨h1, h2, h⟩ | ⟨h1, h2, h⟩
      · refine ⟨_, _, _, ?_, getM_move _ _ _ _, h⟩
        simp only [appendAV, hk]
        rw [if_pos (by simpa using h0), if_pos ⟨h1, h2⟩]
      · refine ⟨_, _, _, ?_, getM_cons _ _ _, h⟩
        simp only [appendAV, hk]
        rw [if_pos (by simpa using h0), if_neg h1, if_pos h2]
    · exact h.elim
  · exact h.elim

theorem wpBnd_sound {T : List (Nat × AV)} {o : Option Operand} {dflt : Int} {K : Int → Prop} (h : wpBnd T o dflt K) : ∃ b, bnd (getT T) o = some b ∧ K (b.getD dflt) := by
  unfold wpBnd at h
  split at h
  · exact ⟨none, rfl, h⟩
  · split at h
    · rename_i hx
      rw [evv_eq] at hx
      exact ⟨some _, by simp [bnd, hx], h⟩
    · exact h.elim

theorem wpBnd_sound' {T : List (Nat × AV)} {x : Operand} {dflt : Int} {K : Int → Prop} (h : wpBnd T (some x) dflt K) : ∃ b, bnd (getT T) (some x) = some (some b) ∧ K b := by
  obtain ⟨b, h1, h2⟩ := wpBnd_sound h
  simp only [bnd] at h1 ⊢
  split at h1
  · rename_i hx
    simp only [Option.some.injEq] at h1
    subst h1
    exact ⟨_, rfl, h2⟩
  · cases h1

theorem wpSl_sound {T : List (Nat × AV)} {lo hi : Option Operand} {es : List (List AV)} {bl bh : Option Int} {K : List (List AV) → Prop} (h1 : bnd (getT T) lo = some bl) (h2 : bnd (getT T) hi = some bh)
    (h : wpSl lo hi es (bl.getD 0) (bh.getD es.length) K) : K ((es.drop (bl.getD 0).toNat).take ((bh.getD es.length).toNat - (bl.getD 0).toNat)) := by
  have none1 : ∀ {o : Option Operand} {b : Option Int}, o = none → bnd (getT T) o = some b → b = none := fun h h' => by subst h; simp only [bnd, Option.some.injEq] at h'; exact h'.symm
  unfold wpSl at h
  split at h
  · obtain rfl := none1 rfl h1
    split at h
    · obtain rfl := none1 rfl h2
      simpa using h
    · simpa using h
  · split at h
    · obtain rfl := none1 rfl h2
      simp only [Option.getD_none, Int.toNat_natCast]
      rw [List.take_of_length_le (by simp)]
      exact h
    · exact h

theorem wpSlR_sound {T : List (Nat × AV)} {lo hi : Option Operand} {off len : Nat} {bl bh : Option Int} {K : Nat → Nat → Prop} (h1 : bnd (getT T) lo = some bl) (h2 : bnd (getT T) hi = some bh)
    (h : wpSlR lo hi off len (bl.getD 0) (bh.getD len) K) : K (off + (bl.getD 0).toNat) ((bh.getD len).toNat - (bl.getD 0).toNat) := by
  have none1 : ∀ {o : Option Operand} {b : Option Int}, o = none → bnd (getT T) o = some b → b = none := fun h h' => by subst h; simp only [bnd, Option.some.injEq] at h'; exact h'.symm
  unfold wpSlR at h
  split at h
  · obtain rfl := none1 rfl h1
    split at h
    · obtain rfl := none1 rfl h2
      simpa using h
    · simpa using h
  · rw [Nat.add_comm]; exact h

theorem wpSrc_sound {M : List (Nat × Blk)} {sz : Nat} {x : AV} {K : List (List AV) → Nat → Prop} (h : wpSrc M sz x K) : ∃ xs m, srcAV (getM M) sz x = some (xs, m) ∧ K xs m := by
  unfold wpSrc at h
  split at h
  · split at h
    · rename_i hs
      exact ⟨_, _, by simp [srcAV, rowsAV, Nat.eq_of_beq_eq_true hs], h⟩
    · exact h.elim
  · exact ⟨_, _, rfl, h⟩
  · exact ⟨_, _, rfl, h⟩
  · obtain ⟨⟨⟨mu, ty, ksz, es, cap⟩, hk, h⟩⟩ := h
    simp only at h
    split at h
    · rename_i hb
      simp only [Bool.and_eq_true, Nat.beq_eq] at hb
      obtain ⟨rfl, rfl⟩ := hb
      exact ⟨_, _, by simp [srcAV, hk], h.a⟩
    · exact h.elim
  · exact h.elim

theorem wpSlice_sound {M : List (Nat × Blk)} {T : List (Nat × AV)} {sz : Nat} {x : AV} {lo hi mx : Option Operand} {K : AV → Prop} (h : wpSlice M T sz x lo hi mx K) :
    ∃ v, (sliceCO sz x (bnd (getT T) lo) (bnd (getT T) hi) (bnd (getT T) mx) = some v ∨ (sliceCO sz x (bnd (getT T) lo) (bnd (getT T) hi) (bnd (getT T) mx) = none ∧ (∃ y, hi = some y) ∧ mx = none ∧ sliceX (getM M) sz x (bnd (getT T) lo) (bnd (getT T) hi) = some v)) ∧ K v := by
  unfold wpSlice at h
  split at h
  · split at h
    · split at h
      · rename_i hs
        obtain ⟨L, h1, h⟩ := wpBnd_sound h
        obtain ⟨H, h2, h⟩ := wpBnd_sound h
        obtain ⟨h0, h⟩ := h
        have h := wpSl_sound h1 h2 h
        exact ⟨_, .inl (by simp only [sliceCO, lenAV, h1, h2, show bnd (getT T) none = some none from rfl, sliceAV]; rw [if_pos ⟨Nat.eq_of_beq_eq_true hs, h0⟩]), h⟩
      · exact h.elim
    · rename_i b s off len
      split at h
      · rename_i hs
        obtain ⟨L, h1, h⟩ := wpBnd_sound h
        obtain ⟨H, h2, h⟩ := wpBnd_sound h
        obtain ⟨⟨q1, q2, q3⟩, h⟩ := h
        have h := wpSlR_sound h1 h2 h
        by_cases hle : H.getD len ≤ (len : Int)
        · exact ⟨_, .inl (by simp only [sliceCO, lenAV, h1, h2, show bnd (getT T) none = some none from rfl, sliceAV]; rw [if_pos ⟨Nat.eq_of_beq_eq_true hs, q1, q2, hle⟩]), h⟩
        · rcases q3 with q3 | ⟨k, k1, k2, k3, k4⟩
          · exact absurd q3 hle
          · cases H with
            | none => exact absurd (Int.le_refl _) hle
            | some H =>
              refine ⟨_, .inr ⟨?_, ?_, rfl, ?_⟩, h⟩
              · simp only [sliceCO, lenAV, h1, h2, show bnd (getT T) none = some none from rfl, sliceAV]; rw [if_neg (fun g => hle g.2.2.2)]
              · cases hi with
                | none => simp [bnd] at h2
                | some y => exact ⟨y, rfl⟩
              · simp only [sliceX, h1, h2, k1]
                rw [if_pos ⟨Nat.eq_of_beq_eq_true hs, k2, k3, q1, q2, k4⟩]; rfl
      · exact h.elim
    · obtain ⟨L, h1, h⟩ := wpBnd_sound h
      obtain ⟨H, h2, h⟩ := wpBnd_sound h
      obtain ⟨h0, h⟩ := h
      exact ⟨_, .inl (by simp only [sliceCO, lenAV, h1, h2, show bnd (getT T) none = some none from rfl, sliceAV]; rw [if_pos ⟨h0.1, h0.2, by simp⟩]), h⟩
    · obtain ⟨L, h1, h⟩ := wpBnd_sound h
      obtain ⟨H, h2, h⟩ := wpBnd_sound h
      obtain ⟨h0, h⟩ := h
      exact ⟨_, .inl (by simp only [sliceCO, lenAV, h1, h2, show bnd (getT T) none = some none from rfl, sliceAV]; rw [if_pos ⟨h0.1, by simpa using h0.2, by simp⟩]), h⟩
    · exact h.elim
  · split at h
    · exact h.elim
    · split at h
      · split at h
        · rename_i hs
          obtain ⟨L, h1, h⟩ := wpBnd_sound h
          obtain ⟨H, h2, h⟩ := wpBnd_sound' h
          obtain ⟨m, h3, h⟩ := wpBnd_sound' h
          obtain ⟨⟨g1, g2, g3, g4, g5, g6⟩, h⟩ := h
          exact ⟨_, .inl (by simp only [sliceCO, lenAV, h1, h2, h3, sliceAV]; rw [if_pos ⟨Nat.eq_of_beq_eq_true hs, g1, g2, g3⟩, if_pos ⟨g4, g5⟩, if_pos g6]), h⟩
        · exact h.elim
      · split at h
        · rename_i hs
          obtain ⟨L, h1, h⟩ := wpBnd_sound h
          obtain ⟨H, h2, h⟩ := wpBnd_sound' h
          obtain ⟨m, h3, h⟩ := wpBnd_sound' h
          obtain ⟨⟨g1, g2, g3, g4, g5⟩, h⟩ := h
          exact ⟨_, .inl (by simp only [sliceCO, lenAV, h1, h2, h3, sliceAV]; rw [if_pos ⟨Nat.eq_of_beq_eq_true hs, g1, g2, g3⟩, if_pos ⟨g4, g5⟩]), h⟩
        · exact h.elim
      · obtain ⟨L, h1, h⟩ := wpBnd_sound h
        obtain ⟨H, h2, h⟩ := wpBnd_sound' h
        obtain ⟨m, h3, h⟩ := wpBnd_sound' h
        obtain ⟨⟨g1, g2, g3⟩, h⟩ := h
        exact ⟨_, .inl (by simp only [sliceCO, lenAV, h1, h2, h3, sliceAV]; rw [if_pos ⟨g1, g2, .inr (by rw [g3])⟩]), h⟩
      · obtain ⟨L, h1, h⟩ := wpBnd_sound h
        obtain ⟨H, h2, h⟩ := wpBnd_sound' h
        obtain ⟨m, h3, h⟩ := wpBnd_sound' h
        obtain ⟨⟨g1, g2, g3⟩, h⟩ := h
        exact ⟨_, .inl (by simp only [sliceCO, lenAV, h1, h2, h3, sliceAV]; rw [if_pos ⟨g1, g2, .inr (by rw [g3])⟩]), h⟩
      · exact h.elim

theorem wpIdx_sound {g : Nat → AV} {μ : Mu} {N sz : Nat} {x i : Operand} {K : AV → Prop} (h : wpIdx sz (ev g x) (ev g i) K) : ∃ v, evalCO g μ N (.iaddr sz x i) = some (v, []) ∧ K v := by
  unfold wpIdx at h
  split at h
  · rename_i hi
    split at h
    · rename_i hx
      split at h
      · rename_i hs
        obtain ⟨h0, h⟩ := h
        obtain ⟨⟨r, hr, h⟩⟩ := h
        rw [frcL_eq] at h
        have hlt := (List.getElem?_eq_some_iff.1 hr).1
        exact ⟨_, by simp only [evalCO, hx, hi]; rw [if_pos ⟨Nat.eq_of_beq_eq_true hs, h0, by omega⟩]; simp [pureR, List.getD_eq_getElem?_getD, hr], h⟩
      · exact h.elim
    · rename_i hx
      split at h
      · rename_i hs
        obtain ⟨h0, h⟩ := h
        rw [Nat.add_comm] at h
        exact ⟨_, by simp only [evalCO, hx, hi]; rw [if_pos ⟨Nat.eq_of_beq_eq_true hs, h0⟩]; rfl, h⟩
      · exact h.elim
    · exact h.elim
  · exact h.elim

theorem wpE_sound {T : List (Nat × AV)} {M : List (Nat × Blk)} {N : Nat} {op : CO} {K : Ct} (h : wpE T M N op K) : ∃ v wr M', evalCO (getT T) (getM M) N op = some (v, wr) ∧ getM M' = app (getM M) wr ∧ K v M' wr := by
  cases op with
  | mov x => simp only [wpE, frc_eq, evv_eq] at h; exact ⟨_, _, _, rfl, rfl, h⟩
  | pick c a b =>
    simp only [wpE, frc_eq, evv_eq] at h
    split at h
    · rename_i t ht
      cases t with
      | true => exact ⟨_, _, _, by simp only [evalCO, ht]; rfl, rfl, h.a rfl⟩
      | false => exact ⟨_, _, _, by simp only [evalCO, ht]; rfl, rfl, h.b rfl⟩
    · exact h.elim
  | alloc e z => simp only [wpE, frcL_eq, frcN_eq] at h; exact ⟨_, _, _, rfl, getM_cons _ _ _, h⟩
  | box e n x =>
    simp only [wpE, evv_eq] at h
    split at h
    · rename_i cs hcs
      split at h
      · rename_i hn
        rw [frcL_eq] at h
        exact ⟨_, _, _, by simp only [evalCO, hcs]; rw [if_pos (Nat.eq_of_beq_eq_true hn)], getM_cons _ _ _, h⟩
      · exact h.elim
    · exact h.elim
  | bslice e sz len z ps =>
    simp only [wpE, lk_eq] at h
    split at h
    · rename_i rows hr
      rw [frcR_eq] at h
      exact ⟨_, _, _, by simp only [evalCO, hr], getM_cons _ _ _, h⟩
    · exact h.elim
  | load ag n a =>
    simp only [wpE, evv_eq] at h
    obtain ⟨v, h1, h2⟩ := wpLoad_sound h
    exact ⟨_, _, _, by simp only [evalCO, h1]; rfl, rfl, h2⟩
  | store n a x =>
    simp only [wpE, evv_eq] at h
    exact wpStore_sound h
  | bin op x y =>
    simp only [wpE, evv_eq] at h
    obtain ⟨v, h1, h2⟩ := wpBin_sound h
    exact ⟨_, _, _, by simp only [evalCO, h1]; rfl, rfl, h2⟩
  | un op x =>
    simp only [wpE, evv_eq] at h
    split at h
    · split at h
      · rename_i hx; exact ⟨_, _, _, by simp only [evalCO, hx, unAV]; rfl, rfl, h.a⟩
      · exact h.elim
    · split at h
      · rename_i hx; exact ⟨_, _, _, by simp only [evalCO, hx, unAV]; rfl, rfl, h⟩
      · exact h.elim
    · exact h.elim
  | conv k x =>
    simp only [wpE, evv_eq] at h
    split at h
    · rename_i hx; exact ⟨_, _, _, by simp only [evalCO, hx]; rfl, rfl, h.a⟩
    · exact h.elim
  | eqs neg plan x y =>
    simp only [wpE, evv_eq] at h
    split at h
    · rename_i hx
      split at h
      · rename_i hy
        split at h
        · rename_i b hb
          cases neg with
          | true => exact ⟨_, _, _, by simp only [evalCO, hx, hy, hb]; rfl, rfl, h⟩
          | false => exact ⟨_, _, _, by simp only [evalCO, hx, hy, hb]; rfl, rfl, h⟩
        · exact h.elim
      · exact h.elim
    · exact h.elim
  | nilcmp neg x =>
    simp only [wpE, evv_eq] at h
    split at h
    · rename_i hx
      cases neg with
      | true => exact ⟨_, _, _, by simp only [evalCO, hx, nilAV]; rfl, rfl, h⟩
      | false => exact ⟨_, _, _, by simp only [evalCO, hx, nilAV]; rfl, rfl, h⟩
    · rename_i hx
      obtain ⟨h0, h⟩ := h
      obtain ⟨m, rfl⟩ := Nat.exists_eq_succ_of_ne_zero (Nat.pos_iff_ne_zero.1 h0)
      cases neg with
      | true => exact ⟨_, _, _, by simp only [evalCO, hx, nilAV]; rfl, rfl, h⟩
      | false => exact ⟨_, _, _, by simp only [evalCO, hx, nilAV]; rfl, rfl, h⟩
    · rename_i hx
      obtain ⟨h0, h⟩ := h
      obtain ⟨e, es, rfl⟩ := List.exists_cons_of_ne_nil h0
      cases neg with
      | true => exact ⟨_, _, _, by simp only [evalCO, hx, nilAV]; rfl, rfl, h⟩
      | false => exact ⟨_, _, _, by simp only [evalCO, hx, nilAV]; rfl, rfl, h⟩
    · exact h.elim
  | beq neg x y =>
    simp only [wpE, evv_eq] at h
    split at h
    · rename_i hx
      split at h
      · rename_i hy
        cases neg with
        | true => exact ⟨_, _, _, by simp only [evalCO, hx, hy]; rfl, rfl, h⟩
        | false => exact ⟨_, _, _, by simp only [evalCO, hx, hy]; rfl, rfl, h⟩
      · exact h.elim
    · exact h.elim
  | mksl e sz by_ z l c =>
    simp only [wpE, evv_eq] at h
    split at h
    · rename_i hl
      split at h
      · rename_i hc
        exact ⟨_, _, _, by simp only [evalCO, hl, hc]; rw [if_pos h.a], getM_cons _ _ _, h.b⟩
      · exact h.elim
    · exact h.elim
  | slice sz x lo hi mx =>
    simp only [wpE, evv_eq] at h
    obtain ⟨v, h1, h2⟩ := wpSlice_sound h
    rcases h1 with h1 | ⟨h1, ⟨y, rfl⟩, rfl, h3⟩
    · exact ⟨_, _, _, by simp only [evalCO, h1]; rfl, rfl, h2⟩
    · exact ⟨_, _, _, by simp only [evalCO, h1]; rw [h3]; rfl, rfl, h2⟩
  | iaddr sz x i =>
    simp only [wpE, evv_eq] at h
    obtain ⟨v, h1, h2⟩ := wpIdx_sound (N := N) (μ := getM M) h
    exact ⟨_, _, _, h1, rfl, h2⟩
  | sindex x i =>
    simp only [wpE, evv_eq] at h
    split at h
    · rename_i hx
      split at h
      · rename_i hi
        obtain ⟨h0, b, hb, h⟩ := h.a
        exact ⟨_, _, _, by simp only [evalCO, hx, hi]; rw [if_pos h0, hb]; rfl, rfl, h⟩
      · exact h.elim
    · exact h.elim
  | len x =>
    simp only [wpE, evv_eq] at h
    split at h
    · rename_i hx; exact ⟨_, _, _, by simp only [evalCO, hx, lenAV]; rfl, rfl, h.a⟩
    · rename_i hx; exact ⟨_, _, _, by simp only [evalCO, hx, lenAV]; rfl, rfl, h⟩
    · rename_i hx; exact ⟨_, _, _, by simp only [evalCO, hx, lenAV]; rfl, rfl, h⟩
    · rename_i hx; exact ⟨_, _, _, by simp only [evalCO, hx, lenAV]; rfl, rfl, h⟩
    · exact h.elim
  | min x y =>
    simp only [wpE, evv_eq] at h
    split at h
    · rename_i hx
      split at h
      · rename_i hy
        split at h
        rotate_left
        · exact h.elim
        rename_i hk
        refine ⟨_, _, _, by simp only [evalCO, hx, hy]; rw [if_pos (of_decide_eq_true hk)]; rfl, rfl, ?_⟩
        have := h
        rw [Int.min_def] at this
        split at this
        · rw [if_neg (by omega)]; exact this
        · rw [if_pos (by omega)]; exact this
      · exact h.elim
    · exact h.elim
  | max x y =>
    simp only [wpE, evv_eq] at h
    split at h
    · rename_i a hx
      split at h
      · rename_i b hy
        split at h
        rotate_left
        · exact h.elim
        rename_i hk
        refine ⟨_, _, _, by simp only [evalCO, hx, hy]; rw [if_pos (of_decide_eq_true hk)]; rfl, rfl, ?_⟩
        have := h
        rw [Int.max_def] at this
        split at this
        · by_cases e : a = b
          · subst e; rw [if_neg (by omega)]; exact this
          · rw [if_pos (by omega)]; exact this
        · rw [if_neg (by omega)]; exact this
      · exact h.elim
    · exact h.elim
  | append e sz by_ s x =>
    simp only [wpE, evv_eq] at h
    obtain ⟨xs, h1, h2⟩ := wpRows_sound h
    obtain ⟨v, wr, M', h3, h4, h5⟩ := wpApp_sound h2
    exact ⟨v, wr, M', by simp only [evalCO, h1]; exact h3, h4, h5⟩
  | copy sz d s =>
    simp only [wpE, evv_eq] at h
    obtain ⟨xs, m, h1, h2⟩ := wpSrc_sound h
    clear h
    split at h2
    · rename_i hd
      obtain ⟨⟨⟨mu, ty, ksz, es, cap⟩, hk, h⟩⟩ := h2
      simp only at h
      split at h
      · rename_i hb
        simp only [Bool.and_eq_true, Nat.beq_eq] at hb
        obtain ⟨⟨rfl, rfl⟩, rfl⟩ := hb
        obtain ⟨⟨h0, h3, h⟩⟩ := h
        refine ⟨_, _, _, ?_, getM_cons _ _ _, h⟩
        simp only [evalCO, h1, hd, hk]
        rw [if_pos ⟨trivial, trivial, trivial, h0, h3⟩]
      · exact h.elim
    · exact h2.elim
  | cap x =>
    simp only [wpE, evv_eq] at h
    split at h
    · rename_i hx
      obtain ⟨⟨⟨mu, ty, ksz, es, cap⟩, hk, h⟩⟩ := h
      simp only at h
      split at h
      · split at h
        · rename_i hb
          obtain ⟨h0, h⟩ := h
          refine ⟨_, _, _, ?_, rfl, h⟩
          simp only [evalCO, hx, hk]
          rw [if_pos ⟨Nat.eq_of_beq_eq_true hb, h0⟩]; rfl
        · exact h.elim
      · exact h.elim
    · rename_i hx; exact ⟨_, _, _, by simp only [evalCO, hx]; rfl, rfl, h⟩
    · rename_i hx; exact ⟨_, _, _, by simp only [evalCO, hx]; rfl, rfl, h⟩
    · exact h.elim
  | appendz e sz by_ z s x =>
    simp only [wpE, evv_eq] at h
    split at h
    · rename_i n hx
      split at h
      · rename_i hs
        obtain ⟨h0, h⟩ := h
        refine ⟨_, _, _, ?_, getM_cons _ _ _, h⟩
        simp only [evalCO, hx, hs]
        rw [if_pos h0.1]
        simp only [appzAV]
        rw [if_pos (by omega)]
      · rename_i hs
        obtain ⟨h0, h⟩ := h
        refine ⟨_, _, _, ?_, getM_cons _ _ _, h⟩
        simp only [evalCO, hx, hs]
        rw [if_pos h0.1]
        simp only [appzAV]
        rw [if_pos (by omega)]
      · rename_i hs
        obtain ⟨⟨⟨mu, ty, ksz, es, cap⟩, hk, h⟩⟩ := h
        simp only at h
        split at h
        · split at h
          · rename_i hb
            simp only [Bool.and_eq_true, Nat.beq_eq] at hb
            obtain ⟨rfl, rfl⟩ := hb
            obtain ⟨h0, ⟨h⟩⟩ := h
            refine ⟨_, _, _, ?_, getM_cons _ _ _, h⟩
            simp only [evalCO, hx, hs]
            rw [if_pos h0.1]
            simp only [appzAV, hk]
            rw [if_pos ⟨trivial, trivial, h0.2⟩]
          · exact h.elim
        · exact h.elim
      · exact h.elim
    · exact h.elim
  | clear sz z x =>
    simp only [wpE, evv_eq] at h
    split at h
    · rename_i hx
      obtain ⟨⟨⟨mu, ty, ksz, es, cap⟩, hk, h⟩⟩ := h
      simp only at h
      split at h
      · rename_i hb
        simp only [Bool.and_eq_true, Nat.beq_eq] at hb
        obtain ⟨⟨rfl, rfl⟩, rfl⟩ := hb
        obtain ⟨h0, ⟨h⟩⟩ := h
        refine ⟨_, _, _, ?_, getM_cons _ _ _, h⟩
        simp only [evalCO, hx, hk]
        rw [if_pos ⟨trivial, trivial, trivial, h0⟩]
      · exact h.elim
    · exact h.elim
  | mkfn f cap =>
    simp only [wpE, frcA_eq, List.map_congr_left fun x (_ : x ∈ cap) => evv_eq T x] at h
    exact ⟨_, _, _, rfl, rfl, h⟩
  | ext x i =>
    simp only [wpE, evv_eq] at h
    split at h
    · rename_i hx
      split at h
      · rename_i v hv
        rw [frc_eq] at h
        exact ⟨_, _, _, by simp only [evalCO, hx, hv]; rfl, rfl, h⟩
      · exact h.elim
    · exact h.elim
  | call f args => exact h.elim
  | bad => exact h.elim
  | _ =>
    simp only [wpE, lk_eq] at h
    split at h
    · rename_i v hv
      rw [frc_eq] at h
      exact ⟨_, _, _, hv, rfl, h⟩
    · exact h.elim

/-! ### Regions -/

abbrev Cx := AV → List (Nat × Blk) → Wr → List Nat → Prop

def wpX (P : Program) (N : Nat) (op : CO) (T : List (Nat × AV)) (M : List (Nat × Blk)) (K : Cx) : Prop := match op with
  | .call f args => match evv T f with
    | .fn k caps => match caps with
      | [] => frcA (args.map (evv T)) fun as => Cl P N k as M fun v M' wr rd => frc v fun v => K v M' wr rd
      | x :: caps => frcA (args.map (evv T)) fun as => Cl P N k (as ++ x :: caps) M fun v M' wr rd => frc v fun v => K v M' wr rd
    | _ => False
  | op => wpE T M N op fun v M' wr => K v M' wr (rdCO (lk T) op)

def wpG (gd : Option (Nat × Bool)) (T : List (Nat × AV)) (run skip : List (Nat × AV) → Prop) : Prop := match gd with
  | none => run T
  | some (c, b) => match lk T c with
    | .v (.bool t) => match b with
      | true => Br t (run ((c, .v (.bool true)) :: T)) (skip ((c, .v (.bool false)) :: T))
      | false => Br t (skip ((c, .v (.bool true)) :: T)) (run ((c, .v (.bool false)) :: T))
    | .v (.tuple _) => skip T
    | _ => False

/-- One operation, without a look at pairs. -/
def wpUs (P : Program) (d : Nat) (o : COper) (ih : Nat → List (Nat × AV) → List (Nat × Blk) → Prop) (n : Nat) (T : List (Nat × AV)) (M : List (Nat × Blk)) : Prop := match o with
  | ⟨dst, op, gd⟩ => wpG gd T
    (fun T => wpX P (nm d n) op T M fun v M' _ _ => match dst with
      | some t => frcN (n + 1) fun n => ih n ((t, v) :: T) M'
      | none => frcN (n + 1) fun n => ih n T M')
    (fun T => match dst with
      | some t => frcN (n + 1) fun n => ih n ((t, .v undef) :: T) M
      | none => frcN (n + 1) fun n => ih n T M)

/-- All. -/
noncomputable def wpU (P : Program) (d : Nat) (K : Nat → List (Nat × AV) → List (Nat × Blk) → Prop) (ops : List COper) : Nat → List (Nat × AV) → List (Nat × Blk) → Prop :=
  List.rec (motive := fun _ => Nat → List (Nat × AV) → List (Nat × Blk) → Prop) K (fun o _ ih => wpUs P d o ih) ops

/-- One operation, with a look at pairs. -/
def wpVs (P : Program) (d : Nat) (o : COper) (ih : Nat → List (Nat × AV) → List (Nat × Blk) → List Ev → Prop) (n : Nat) (T : List (Nat × AV)) (M : List (Nat × Blk)) (l : List Ev) : Prop := match o with
  | ⟨dst, op, gd⟩ => wpG gd T
    (fun T => wpX P (nm d n) op T M fun v M' wr rd => match dst with
      | some t => frcN (n + 1) fun n => ih n ((t, v) :: T) M' (⟨v, wr, rd⟩ :: l)
      | none => frcN (n + 1) fun n => ih n T M' (⟨v, wr, rd⟩ :: l))
    (fun T => match dst with
      | some t => frcN (n + 1) fun n => ih n ((t, .v undef) :: T) M (⟨.v undef, [], []⟩ :: l)
      | none => frcN (n + 1) fun n => ih n T M (⟨.v undef, [], []⟩ :: l))

noncomputable def wpV (P : Program) (d : Nat) (K : Nat → List (Nat × AV) → List (Nat × Blk) → List Ev → Prop) (ops : List COper) : Nat → List (Nat × AV) → List (Nat × Blk) → List Ev → Prop :=
  List.rec (motive := fun _ => Nat → List (Nat × AV) → List (Nat × Blk) → List Ev → Prop) K (fun o _ ih => wpVs P d o ih) ops

theorem wpX_sound {N : Nat} {dst : Option Nat} {op : CO} {gd : Option (Nat × Bool)} {T : List (Nat × AV)} {M : List (Nat × Blk)} {K : Cx} (hg : guardOn ⟨dst, op, gd⟩ (getT T)) (h : wpX P N op T M K) :
    ∃ v wr rd M', Does P N ⟨dst, op, gd⟩ (getT T) (getM M) v wr rd ∧ getM M' = app (getM M) wr ∧ K v M' wr rd := by
  unfold wpX at h
  split at h
  · rename_i f args
    split at h
    · rename_i k caps hf
      have h : Cl P N k (args.map (evv T) ++ caps) M fun v M' wr rd => frc v fun v => K v M' wr rd := by
        cases caps with
        | nil => simpa only [frcA_eq, List.append_nil] using h
        | cons x caps => simpa only [frcA_eq] using h
      obtain ⟨fz, pre, post, args', v, M', h1, h2, h3, h4, h5⟩ := h.a
      rw [frc_eq] at h5
      have ha : args.map (evv T) = args.map (ev (getT T)) := List.map_congr_left fun x _ => evv_eq T x
      rw [evv_eq] at hf
      rw [ha] at h1 h5
      refine ⟨v, _, _, M', .call f args _ _ _ hg rfl ⟨k, caps, fz, pre, post, args', hf, h2.spec, h1, h3, rfl, rfl⟩, ?_, h5⟩
      rw [app_append, h4]
    · exact h.elim
  · obtain ⟨v, wr, M', h1, h2, h3⟩ := wpE_sound h
    rw [lk_eq] at h3
    exact ⟨v, wr, _, M', .exec _ _ hg h1, h2, h3⟩

theorem getT_push {T : List (Nat × AV)} {c : Nat} {x : AV} (h : getT T c = x) : getT ((c, x) :: T) = getT T := by
  funext t
  simp only [getT]
  split
  · rename_i e; subst e; exact h.symm
  · rfl

theorem wpG_sound {N : Nat} {dst : Option Nat} {op : CO} {gd : Option (Nat × Bool)} {T : List (Nat × AV)} {M : List (Nat × Blk)} {R : Prop} {run skip : List (Nat × AV) → Prop} (h : wpG gd T run skip)
    (hr : ∀ T1 : List (Nat × AV), getT T1 = getT T → guardOn ⟨dst, op, gd⟩ (getT T) → run T1 → R) (hs : ∀ T1 : List (Nat × AV), getT T1 = getT T → Does P N ⟨dst, op, gd⟩ (getT T) (getM M) (.v undef) [] [] → skip T1 → R) : R := by
  unfold wpG at h
  split at h
  · exact hr T rfl (fun d want hd => by cases hd) h
  · rename_i c b
    rw [lk_eq] at h
    split at h
    · rename_i t ht
      split at h
      · cases t with
        | true => exact hr _ (getT_push ht) (fun d want hd => by cases hd; exact ht) (h.a rfl)
        | false => exact hs _ (getT_push ht) (.skip c true _ rfl ht (by simp)) (h.b rfl)
      · cases t with
        | true => exact hs _ (getT_push ht) (.skip c false _ rfl ht (by simp)) (h.a rfl)
        | false => exact hr _ (getT_push ht) (fun d want hd => by cases hd; exact ht) (h.b rfl)
    · rename_i vs ht
      exact hs T rfl (.skip c b _ rfl ht (fun e => by cases e)) h
    · exact h.elim

theorem wpV_sound {d : Nat} (ops : List COper) : ∀ {n i : Nat} {T : List (Nat × AV)} {M : List (Nat × Blk)} {l : List Ev} {K : Nat → List (Nat × AV) → List (Nat × Blk) → List Ev → Prop}, wpV P d K ops (n + i) T M l →
    ∃ l' T' M', Trace P (fun i => nm d (n + i)) i ops (getT T) (getM M) l' (getT T') (getM M') ∧ K (n + i + ops.length) T' M' (l'.reverse ++ l) := by
  induction ops with
  | nil => intro n i T M l K h; exact ⟨[], T, M, .nil _ _ _, h⟩
  | cons o r ih =>
    intro n i T M l K h
    obtain ⟨dst, op, gd⟩ := o
    have h : wpVs P d ⟨dst, op, gd⟩ (wpV P d K r) (n + i) T M l := h
    simp only [wpVs] at h
    have e1 : n + i + 1 = n + (i + 1) := by omega
    have e2 : n + i + (r.length + 1) = n + (i + 1) + r.length := by omega
    refine wpG_sound (P := P) (N := nm d (n + i)) (dst := dst) (op := op) (M := M) h (fun T1 hT1 hg h => ?_) (fun T1 hT1 hd h => ?_)
    · rw [← hT1] at hg
      obtain ⟨v, wr, rd, M1, h1, h2, h3⟩ := wpX_sound hg h
      have h3 : wpV P d K r (n + (i + 1)) (setT T1 dst v) M1 (⟨v, wr, rd⟩ :: l) := by
        cases dst <;> simpa only [frcN_eq, setT, e1] using h3
      obtain ⟨l', T', M', h4, h5⟩ := ih h3
      rw [getT_set, hT1, h2] at h4
      rw [hT1] at h1
      exact ⟨⟨v, wr, rd⟩ :: l', T', M', .cons _ _ _ _ _ _ _ _ _ h1 h4, by rw [List.length_cons, e2]; simpa using h5⟩
    · have h3 : wpV P d K r (n + (i + 1)) (setT T1 dst (.v undef)) M (⟨.v undef, [], []⟩ :: l) := by
        cases dst <;> simpa only [frcN_eq, setT, e1] using h
      obtain ⟨l', T', M', h4, h5⟩ := ih h3
      rw [getT_set, hT1] at h4
      exact ⟨⟨.v undef, [], []⟩ :: l', T', M', .cons _ _ _ _ _ _ _ _ _ hd h4, by rw [List.length_cons, e2]; simpa using h5⟩

theorem wpU_sound {d : Nat} (ops : List COper) : ∀ {n i : Nat} {T : List (Nat × AV)} {M : List (Nat × Blk)} {K : Nat → List (Nat × AV) → List (Nat × Blk) → Prop}, wpU P d K ops (n + i) T M →
    ∃ l' T' M', Trace P (fun i => nm d (n + i)) i ops (getT T) (getM M) l' (getT T') (getM M') ∧ K (n + i + ops.length) T' M' := by
  induction ops with
  | nil => intro n i T M K h; exact ⟨[], T, M, .nil _ _ _, h⟩
  | cons o r ih =>
    intro n i T M K h
    obtain ⟨dst, op, gd⟩ := o
    have h : wpUs P d ⟨dst, op, gd⟩ (wpU P d K r) (n + i) T M := h
    simp only [wpUs] at h
    have e1 : n + i + 1 = n + (i + 1) := by omega
    have e2 : n + i + (r.length + 1) = n + (i + 1) + r.length := by omega
    refine wpG_sound (P := P) (N := nm d (n + i)) (dst := dst) (op := op) (M := M) h (fun T1 hT1 hg h => ?_) (fun T1 hT1 hd h => ?_)
    · rw [← hT1] at hg
      obtain ⟨v, wr, rd, M1, h1, h2, h3⟩ := wpX_sound hg h
      have h3 : wpU P d K r (n + (i + 1)) (setT T1 dst v) M1 := by
        cases dst <;> simpa only [frcN_eq, setT, e1] using h3
      obtain ⟨l', T', M', h4, h5⟩ := ih h3
      rw [getT_set, hT1, h2] at h4
      rw [hT1] at h1
      exact ⟨⟨v, wr, rd⟩ :: l', T', M', .cons _ _ _ _ _ _ _ _ _ h1 h4, by rw [List.length_cons, e2]; exact h5⟩
    · have h3 : wpU P d K r (n + (i + 1)) (setT T1 dst (.v undef)) M := by
        cases dst <;> simpa only [frcN_eq, setT, e1] using h
      obtain ⟨l', T', M', h4, h5⟩ := ih h3
      rw [getT_set, hT1] at h4
      exact ⟨⟨.v undef, [], []⟩ :: l', T', M', .cons _ _ _ _ _ _ _ _ _ hd h4, by rw [List.length_cons, e2]; exact h5⟩

/-! ### Code -/

/-- Pairs of operations that may come up in either order, looked at name by name. -/
def neP (a : Nat) : List Nat → Prop → Prop
  | [], K => K
  | b :: y, K => Ob (a ≠ b) (neP a y K)
def disjP : List Nat → List Nat → Prop → Prop
  | [], _, K => K
  | a :: x, y, K => neP a y (disjP x y K)
def apF (x y : Ev) (K : Prop) : Prop := disjP (ids x.wr) y.rd (disjP (ids y.wr) x.rd (disjP (ids x.wr) (ids y.wr) K))
def prF (l : List Ev) : List (Nat × Nat) → Prop → Prop
  | [], K => K
  | p :: r, K => apF (l.getD p.1 default) (l.getD p.2 default) (prF l r K)

theorem neP_ok {a : Nat} (y : List Nat) : ∀ {K : Prop}, neP a y K → (y.contains a) = false ∧ K := by
  induction y with
  | nil => intro K h; exact ⟨rfl, h⟩
  | cons b y ih =>
    intro K h
    obtain ⟨h1, h2⟩ := ih h.b
    refine ⟨?_, h2⟩
    rw [List.contains_cons, h1, Bool.or_false, beq_eq_false_iff_ne]
    exact h.a
theorem disjP_ok (x : List Nat) {y : List Nat} : ∀ {K : Prop}, disjP x y K → disj x y = true ∧ K := by
  induction x with
  | nil => intro K h; exact ⟨rfl, h⟩
  | cons a x ih =>
    intro K h
    obtain ⟨h1, h2⟩ := neP_ok y h
    obtain ⟨h3, h4⟩ := ih h2
    refine ⟨?_, h4⟩
    unfold disj at h3 ⊢
    rw [List.all_cons, h1, h3]; rfl
theorem prF_ok {l : List Ev} (ps : List (Nat × Nat)) : ∀ {K : Prop}, prF l ps K → pairsOk l ps = true ∧ K := by
  induction ps with
  | nil => intro K h; exact ⟨rfl, h⟩
  | cons p r ih =>
    intro K h
    obtain ⟨h1, h⟩ := disjP_ok _ h
    obtain ⟨h2, h⟩ := disjP_ok _ h
    obtain ⟨h3, h⟩ := disjP_ok _ h
    obtain ⟨h4, h⟩ := ih h
    refine ⟨?_, h⟩
    unfold pairsOk at h4 ⊢
    rw [List.all_cons, h4, evApart, h1, h2, h3]; rfl

noncomputable def wpReg (P : Program) (ops : List COper) (pairs : List (Nat × Nat)) (S : St) (Q : Post) : Prop := match S with
  | ⟨T, M, d, nx⟩ => match pairs with
    | [] => wpU P d (fun n T M => Q .normal ⟨T, M, d, n⟩) ops nx T M
    | p :: ps => wpV P d (fun n T M l => prF l.reverse (p :: ps) (Q .normal ⟨T, M, d, n⟩)) ops nx T M []

def wpCond (o : Operand) (a b : St → Post → Prop) (S : St) (Q : Post) : Prop := match evv S.T o with
  | .v (.bool t) => Br t (a S Q) (b S Q)
  | _ => False

noncomputable def wpC (P : Program) (nt : Nat) (c : CC) : St → Post → Prop :=
  CC.rec (motive := fun _ => St → Post → Prop)
    (fun S Q => Q .normal S)
    (fun ops pairs _ S Q => wpReg P ops pairs S Q)
    (fun _ _ wa wb S Q => wa S (thenQ (fun S' => wb S' Q) Q))
    (fun o _ _ wa wb S Q => wpCond o wa wb S Q)
    (fun id _ w S Q => w S (blockQ id Q))
    (fun c _ S Q => Lp P nt c S Q)
    (fun id S Q => Q (.exit id) S)
    (fun S Q => Q .ret S)
    (fun _ _ => False) c

theorem wpC_sound (c : CC) : ∀ {S : St} {Q : Post}, wpC P nt c S Q → Safe P nt c S Q := by
  induction c with
  | skip => intro S Q h; exact safe_skip h
  | region ops pairs live =>
    intro S Q h
    obtain ⟨T, M, d, nx⟩ := S
    have h : wpReg P ops pairs ⟨T, M, d, nx⟩ Q := h
    simp only [wpReg] at h
    split at h
    · obtain ⟨l', T', M', h1, h2⟩ := wpU_sound (n := nx) (i := 0) ops h
      exact safe_region h1 rfl h2
    · obtain ⟨l', T', M', h1, h2⟩ := wpV_sound (n := nx) (i := 0) ops h
      simp only [List.append_nil, List.reverse_reverse] at h2
      obtain ⟨h3, h4⟩ := prF_ok _ h2
      exact safe_region h1 h3 h4
  | seq a b iha ihb =>
    intro S Q h
    exact safe_seq (Safe.mono (iha h) fun e S' hq => thenQ_of (fun he => by subst he; exact ihb hq) fun he => thenQ_ne hq he)
  | cond o a b iha ihb =>
    intro S Q h
    have h : wpCond o (wpC P nt a) (wpC P nt b) S Q := h
    simp only [wpCond, evv_eq] at h
    split at h
    · rename_i t ht
      refine safe_cond ht ?_
      cases t with
      | true => exact iha (h.a rfl)
      | false => exact ihb (h.b rfl)
    · exact h.elim
  | block id c ih => intro S Q h; exact safe_block (ih h)
  | loop c ih => intro S Q h; exact safe_loop h.a
  | exit id => intro S Q h; exact safe_exit h
  | ret => intro S Q h; exact safe_ret h
  | bad => intro S Q h; exact h.elim

/-- One round of a loop. -/
theorem lp_round {c : CC} {S : St} {Q : Post} (h : wpC P nt c S (thenQ (fun S' => SafeL P nt c S' Q) Q)) : SafeL P nt c S Q :=
  safeL_round (wpC_sound c h)

/-! ### Results -/

structure Rt (N : Nat) (post : Mu) (r x : AV) (M : List (Nat × Blk)) : Prop where
  a : ∃ (fz mv : List Nat) (r' : AV), VL3 (app (getM M) (frzW (getM M) fz)) x r' ∧ mvOk N 0 mv (app (getM M) (frzW (getM M) fz)) ∧ r = mvAV N 0 mv r' ∧
    ∀ b blk, post b = some blk → mvMu N 0 mv (app (getM M) (frzW (getM M) fz)) b = some blk

def wpRes (T : List (Nat × AV)) (M : List (Nat × Blk)) : RK → (AV → Prop) → Prop
  | .t t, K => frc (lk T t) K
  | .c a ag n, K => wpLoad M ag n (lk T a) K
def wpRess (T : List (Nat × AV)) (M : List (Nat × Blk)) : List RK → (List AV → Prop) → Prop
  | [], K => K []
  | k :: r, K => wpRes T M k fun x => wpRess T M r fun l => K (x :: l)
def wpRet (T : List (Nat × AV)) (M : List (Nat × Blk)) (ks : List RK) (K : AV → Prop) : Prop := wpRess T M ks fun l => match l with
  | [x] => K x
  | l => K (.tup l)

theorem wpRess_sound {T : List (Nat × AV)} {M : List (Nat × Blk)} (ks : List RK) : ∀ {K : List AV → Prop}, wpRess T M ks K → ∃ l, resVs T (getM M) ks = some l ∧ K l := by
  induction ks with
  | nil => intro K h; exact ⟨[], rfl, h⟩
  | cons k r ih =>
    intro K h
    have : ∃ x, resV T (getM M) k = some x ∧ wpRess T M r (fun l => K (x :: l)) := by
      cases k with
      | t t =>
        simp only [wpRess, wpRes, frc_eq, lk_eq] at h
        exact ⟨_, rfl, h⟩
      | c a ag n =>
        simp only [wpRess, wpRes, lk_eq] at h
        exact wpLoad_sound h
    obtain ⟨x, h1, h2⟩ := this
    obtain ⟨l, h3, h4⟩ := ih h2
    exact ⟨x :: l, by simp [resVs, h1, h3], h4⟩

theorem RetS.of {N : Nat} {ks : List RK} {post : Mu} {r : AV} {T : List (Nat × AV)} {M : List (Nat × Blk)} (h : wpRet T M ks fun x => Rt N post r x M) : RetS N ks post r T M := by
  obtain ⟨l, h1, h2⟩ := wpRess_sound ks h
  have : ∃ x, resAV T (getM M) ks = some x ∧ Rt N post r x M := by
    unfold resAV
    rw [h1]
    match l, h2 with
    | [], h2 => exact ⟨_, rfl, h2⟩
    | [x], h2 => exact ⟨x, rfl, h2⟩
    | x :: y :: l, h2 => exact ⟨_, rfl, h2⟩
  obtain ⟨x, hx, h3⟩ := this
  obtain ⟨fz, mv, r', g1, g2, g3, g4⟩ := h3.a
  exact ⟨fz, mv, x, r', hx, g1, g2, g3, g4⟩

/-- A function of the program. -/
structure Fn (P : Program) (k : Nat) (cc : CC) (nt : Nat) (ks : List RK) : Prop where
  a : ∃ fn, P.funcs[k]? = some fn ∧ (∃ body, fn.body = some body ∧ compCode P fn.ntmps body = cc) ∧ (fn.name == "runtime.NumGoroutine") = false ∧ resK P fn.results.toList = some ks ∧ fn.ntmps = nt

/-- The arguments, each in its temporary. -/
def argF : List AV → Nat → (List (Nat × AV) → Prop) → Prop
  | [], _, K => K []
  | x :: r, k, K => frc x fun x => frcN (k + 1) fun k' => argF r k' fun T => K ((k, x) :: T)

theorem argF_eq (args : List AV) : ∀ (k : Nat) (K : List (Nat × AV) → Prop), argF args k K = K ((args.zipIdx k).map fun p => (p.2, p.1)) := by
  induction args with
  | nil => intro k K; rfl
  | cons x r ih => intro k K; simp only [argF, frc_eq, frcN_eq, ih, List.zipIdx_cons, List.map_cons]

theorem getM_app (l : List (Nat × Blk)) : ∀ M : List (Nat × Blk), getM (l.reverse ++ M) = app (getM M) (l.map fun p => (p.1, some p.2)) := by
  induction l with
  | nil => intro M; rfl
  | cons p r ih =>
    intro M
    obtain ⟨b, k⟩ := p
    rw [List.reverse_cons, List.append_assoc, ih]
    simp only [List.cons_append, List.nil_append, getM_upd, List.map_cons, app]

theorem Fn.fs {k : Nat} {cc : CC} {ks : List RK} {N : Nat} {args : List AV} {pre : List (Nat × Blk)} {r : AV} {post : Wr} (h : Fn P k cc nt ks) (hn2 : args.length ≤ nt)
    (hs : ∀ D, N % 4 = 0 → ¬ Gar D N → (∀ b, preMu pre b ≠ none → ¬ Gar D b) → argF args 0 fun T => wpC P nt cc ⟨T, pre.reverse, D, 0⟩ (RetQ N ks (app (preMu pre) post) r)) : FS P N k args pre r post := by
  obtain ⟨fn, h1, h2, h3, h4, h5⟩ := h.a
  refine fs_fun h1 h2 h3 h4 h5 hn2 _ rfl _ rfl fun D h4 a b => ?_
  have := hs D h4 a b
  rw [argF_eq] at this
  refine Safe.weak (S' := ⟨argT args, pre.reverse, D, 0⟩) (fun F io a w hC => ⟨io, ⟨?_, hC.low, hC.outN, hC.n4⟩⟩) (wpC_sound _ this)
  have e : getM (wrM [] (pre.map fun p => (p.1, some p.2))) = getM pre.reverse := by
    rw [getM_wr]
    have := getM_app pre []
    simp only [List.append_nil] at this
    rw [this]
  have hc := hC.c
  rw [e] at hc
  exact hc

theorem Fn.pure {k : Nat} {cc : CC} {ks : List RK} {N : Nat} {args : List AV} {r : AV} (h : Fn P k cc nt ks) (hn2 : args.length ≤ nt)
    (hs : ∀ D, ¬ Gar D N → argF args 0 fun T => wpC P nt cc ⟨T, [], D, 0⟩ (RetQ N ks (fun _ => none) r)) : FS P N k args [] r [] :=
  h.fs hn2 fun D _ a _ => hs D a

end Go.Proofs.Ytneoeegpceompaa.AM

/-
The abstract machine, part 25: the steps of a walk.
-/
namespace Go.Proofs.Ytneoeegpceompaa.AM
open Go

variable {P : Program} {nt : Nat}

/-! ### Conditions -/
section
variable {A B : Prop}
theorem Br.id {t : Bool} (h : Br t A B) : Br t A B := h
theorem Wp.id {k : IntKind} {n : Int} {K : Int → Prop} (h : Wp k n K) : Wp k n K := h
theorem El.id {es : List (List AV)} {i : Nat} {K : List AV → Prop} (h : El es i K) : El es i K := h
theorem Lk.id {M : List (Nat × Blk)} {b : Nat} {K : Blk → Prop} (h : Lk M b K) : Lk M b K := h
theorem Ln.id {n : Nat} {K : Nat → Prop} (h : Ln n K) : Ln n K := h
theorem Sb.id {es : List (List AV)} {i n : Nat} {K : List (List AV) → Prop} (h : Sb es i n K) : Sb es i n K := h
theorem Se.id {es : List (List AV)} {i : Nat} {r : List AV} {K : List (List AV) → Prop} (h : Se es i r K) : Se es i r K := h
theorem Ap.id {es : List (List AV)} {i n : Nat} {xs : List (List AV)} {K1 K2 : Nat → List (List AV) → Prop} (h : Ap es i n xs K1 K2) : Ap es i n xs K1 K2 := h
theorem Br.tt (h : A) : Br true A B := ⟨fun _ => h, fun e => Bool.noConfusion e⟩
theorem Br.ff (h : B) : Br false A B := ⟨fun e => Bool.noConfusion e, fun _ => h⟩
theorem Br.tt' {t : Bool} (ht : t = true) (h : A) : Br t A B := by subst ht; exact .tt h
theorem Br.ff' {t : Bool} (ht : t = false) (h : B) : Br t A B := by subst ht; exact .ff h
theorem Br.dec {p : Prop} [Decidable p] (h1 : p → A) (h2 : ¬ p → B) : Br (decide p) A B := ⟨fun h => h1 (of_decide_eq_true h), fun h => h2 (of_decide_eq_false h)⟩
theorem Br.eqi {a b : Int} (h1 : a = b → A) (h2 : ¬ a = b → B) : Br (a == b) A B := ⟨fun h => h1 (by simpa using h), fun h => h2 (by simpa using h)⟩
theorem Br.nei {a b : Int} (h1 : ¬ a = b → A) (h2 : a = b → B) : Br (a != b) A B := ⟨fun h => h1 (by simpa using h), fun h => h2 (by simpa using h)⟩
theorem str_eq (a b : ByteArray) : (a.toList == b.toList) = decide (a = b) := by
  rw [Bool.eq_iff_iff]
  simp only [beq_iff_eq, decide_eq_true_eq, Lib.toList_data]
  constructor
  · intro h
    obtain ⟨⟨x⟩⟩ := a
    obtain ⟨⟨y⟩⟩ := b
    simp at h
    rw [h]
  · intro h; rw [h]
theorem Br.str {a b : ByteArray} (h1 : a = b → A) (h2 : ¬ a = b → B) : Br (a.toList == b.toList) A B := by rw [str_eq]; exact .dec h1 h2
theorem Br.asset {a b : ByteArray} {i j : Int} (h1 : a = b ∧ i = j → A) (h2 : ¬ (a = b ∧ i = j) → B) : Br (a.toList == b.toList && (i == j && true)) A B := by
  have : (a.toList == b.toList && (i == j && true)) = decide (a = b ∧ i = j) := by
    rw [str_eq, Bool.and_true, Bool.eq_iff_iff]; simp
  rw [this]; exact .dec h1 h2
theorem Br.asset_t {a b : ByteArray} {i j : Int} (h : a = b ∧ i = j) (k : A) : Br (a.toList == b.toList && (i == j && true)) A B := .asset (fun _ => k) (fun e => absurd h e)
theorem Br.asset_f {a b : ByteArray} {i j : Int} (h : ¬ (a = b ∧ i = j)) (k : B) : Br (a.toList == b.toList && (i == j && true)) A B := .asset (fun e => absurd e h) (fun _ => k)
theorem Br.key {a b : ByteArray} {i j m n : Int} (h1 : m = n ∧ a = b ∧ i = j → A) (h2 : ¬ (m = n ∧ a = b ∧ i = j) → B) : Br (m == n && (a.toList == b.toList && (i == j && true))) A B := by
  have : (m == n && (a.toList == b.toList && (i == j && true))) = decide (m = n ∧ a = b ∧ i = j) := by
    rw [str_eq, Bool.and_true, Bool.eq_iff_iff]; simp
  rw [this]; exact .dec h1 h2
theorem Br.eq_t {a b : Int} (h : a = b) (k : A) : Br (a == b) A B := .tt' (by simpa using h) k
theorem Br.eq_f {a b : Int} (h : ¬ a = b) (k : B) : Br (a == b) A B := .ff' (by simpa using h) k
theorem Br.ne_t {a b : Int} (h : ¬ a = b) (k : A) : Br (a != b) A B := .tt' (by simpa using h) k
theorem Br.ne_f {a b : Int} (h : a = b) (k : B) : Br (a != b) A B := .ff' (by simpa using h) k
theorem Br.de_t {p : Prop} [Decidable p] (h : p) (k : A) : Br (decide p) A B := .tt' (by simpa using h) k
theorem Br.de_f {p : Prop} [Decidable p] (h : ¬ p) (k : B) : Br (decide p) A B := .ff' (by simpa using h) k
theorem Br.not {t : Bool} (h : Br t B A) : Br (!t) A B := ⟨fun e => h.b (by simpa using e), fun e => h.a (by simpa using e)⟩
theorem Br.and {s t : Bool} (h : Br s (Br t A B) B) : Br (s && t) A B := by
  cases s with
  | true => exact h.a rfl
  | false => exact .ff (h.b rfl)
theorem Br.or {s t : Bool} (h : Br s A (Br t A B)) : Br (s || t) A B := by
  cases s with
  | true => exact .tt (h.a rfl)
  | false => exact h.b rfl
theorem Br.mk' {t : Bool} (h1 : t = true → A) (h2 : t = false → B) : Br t A B := ⟨h1, h2⟩
end

/-! ### Numbers -/
theorem wrap64 {n : Int} (h1 : -9223372036854775808 ≤ n) (h2 : n ≤ 9223372036854775807) : IntKind.i64.wrap n = n := by
  rw [IntKind.wrap_i64]; omega

theorem Wp.in64 {n : Int} {K : Int → Prop} (h1 : -9223372036854775808 ≤ n ∧ n ≤ 9223372036854775807) (h : K n) : Wp .i64 n K := ⟨by rw [wrap64 h1.1 h1.2]; exact h⟩
theorem Wp.eq64 {n m : Int} {K : Int → Prop} (hn : n = m) (h1 : -9223372036854775808 ≤ m ∧ m ≤ 9223372036854775807) (h : K m) : Wp .i64 n K := by subst hn; exact .in64 h1 h
theorem Wp.any {k : IntKind} {n : Int} {K : Int → Prop} (h : K (k.wrap n)) : Wp k n K := ⟨h⟩

/-! ### Elements, blocks -/
section
variable {es xs : List (List AV)} {i off len : Nat} {K : List (List AV) → Prop}
theorem El.of {K : List AV → Prop} {r : List AV} (h : es[i]? = some r) (k : K r) : El es i K := ⟨⟨r, h, k⟩⟩
theorem El.map {α : Type} {f : α → List AV} {l : List α} {a : α} {K : List AV → Prop} (h : l[i]? = some a) (k : K (f a)) : El (l.map f) i K := ⟨⟨f a, by simp [h], k⟩⟩
theorem Ln.mk' {n m : Nat} {K : Nat → Prop} (h : n = m) (k : K m) : Ln n K := ⟨by rw [h]; exact k⟩
theorem Ln.map {α : Type} {f : α → List AV} {l : List α} {K : Nat → Prop} (k : K l.length) : Ln (l.map f).length K := ⟨by rw [List.length_map]; exact k⟩
theorem Ln.any {n : Nat} {K : Nat → Prop} (k : K n) : Ln n K := ⟨k⟩
theorem Sb.all (h : len = es.length) (k : K es) : Sb es 0 len K := ⟨by subst h; simpa using k⟩
theorem Sb.one {r : List AV} (k : K [r]) : Sb [r] 0 1 K := ⟨by simpa using k⟩
theorem Sb.eq {es' : List (List AV)} (h : off + len ≤ es.length) (e : (es.drop off).take len = es') (k : K es') : Sb es off len K := ⟨h, by rw [e]; exact k⟩
theorem Se.one {r0 r : List AV} (k : K [r]) : Se [r0] 0 r K := ⟨k⟩
theorem Se.any {r : List AV} (k : K (es.set i r)) : Se es i r K := ⟨k⟩
theorem Se.eq {r : List AV} {es' : List (List AV)} (e : es.set i r = es') (k : K es') : Se es i r K := ⟨by rw [e]; exact k⟩
theorem Ap.end_ {K1 K2 : Nat → List (List AV) → Prop} {n : Nat} {es' : List (List AV)} (hl : len = es.length) (hb : len + xs.length ≤ 1000000) (hn : len + xs.length = n) (he : es ++ xs = es') (k : K1 n es') : Ap es 0 len xs K1 K2 :=
  ⟨by omega, .inl ⟨rfl, hl, by rw [hn, he]; exact k⟩⟩
theorem Ap.map {α : Type} {f : α → List AV} {l : List α} {a : α} {K1 K2 : Nat → List (List AV) → Prop} (hl : len = l.length) (hb : len + 1 ≤ 1000000) (k : K1 (len + 1) ((l ++ [a]).map f)) : Ap (l.map f) 0 len [f a] K1 K2 :=
  ⟨by simp; omega, .inl ⟨rfl, by simpa using hl, by simpa using k⟩⟩
theorem Ap.room {K1 K2 : Nat → List (List AV) → Prop} {n : Nat} {es' : List (List AV)} (hb : off + len + xs.length ≤ 1000000) (h0 : ¬ (off = 0 ∧ len = es.length)) (hr : off + len + xs.length ≤ es.length) (hn : len + xs.length = n)
    (he : es.take (off + len) ++ (xs ++ es.drop (off + len + xs.length)) = es') (k : K2 n es') : Ap es off len xs K1 K2 := ⟨hb, .inr ⟨h0, hr, by rw [hn, he]; exact k⟩⟩
theorem Cy.eq {K : Nat → List (List AV) → Prop} {m n : Nat} {es' : List (List AV)} (h : off ≤ es.length) (hn : Nat.min m len = n) (hx : n ≤ xs.length) (he : es.take off ++ (xs.take n ++ es.drop (off + n)) = es') (k : K n es') : Cy es off len xs m K := ⟨by subst hn; exact ⟨h, hx, by rw [he]; exact k⟩⟩
theorem Sc.eq {K : List (List AV) → Nat → Prop} {es' : List (List AV)} (e : (es.drop off).take len = es') (k : K es' len) : Sc es off len K := ⟨by rw [e]; exact k⟩
theorem Es.eq {es' : List (List AV)} (e : es = es') (k : K es') : Es es K := ⟨by rw [e]; exact k⟩
theorem Rs.id {M : List (Nat × Blk)} {b sz : Nat} {L H : Int} {K : Prop} (h : Rs M b sz off len L H K) : Rs M b sz off len L H K := h
theorem Rs.in_ {M : List (Nat × Blk)} {b sz : Nat} {L H : Int} {K : Prop} (h : 0 ≤ L ∧ L ≤ H ∧ H ≤ len) (k : K) : Rs M b sz off len L H K := ⟨⟨h.1, h.2.1, .inl h.2.2⟩, k⟩
theorem Rs.ext {M : List (Nat × Blk)} {b sz : Nat} {L H : Int} {K : Prop} (h : 0 ≤ L ∧ L ≤ H) (hk : Lk M b (fun k => k.sz = sz ∧ 0 < k.es.length ∧ (off : Int) + H ≤ roomB k)) (k : K) : Rs M b sz off len L H K :=
  ⟨⟨h.1, h.2, .inr (by obtain ⟨⟨k, h1, h2⟩⟩ := hk; exact ⟨k, h1, h2⟩)⟩, k⟩
end

section
variable {M : List (Nat × Blk)} {b c : Nat} {k : Blk} {K : Blk → Prop}
theorem Lk.here (h : K k) : Lk ((b, k) :: M) b K := ⟨⟨k, by simp [getM], h⟩⟩
theorem Lk.next (hne : c ≠ b) (h : Lk M b K) : Lk ((c, k) :: M) b K := by
  obtain ⟨⟨k', h1, h2⟩⟩ := h
  exact ⟨⟨k', by simp only [getM]; rw [if_neg hne]; exact h1, h2⟩⟩
theorem Lk.del (hne : c ≠ b) (h : Lk M b K) : Lk (delM M c) b K := by
  obtain ⟨⟨k', h1, h2⟩⟩ := h
  exact ⟨⟨k', by rw [getM_del, if_neg (fun e => hne e.symm)]; exact h1, h2⟩⟩
theorem Lk.get (h : Lk M b (fun k' => k' = k)) : getM M b = some k := by
  obtain ⟨⟨k', h1, rfl⟩⟩ := h; exact h1
/-- A term whose type must fit ahead of all that it asks for. -/
theorem Y.i {G : Prop} (h : G) : G := h
theorem nm_ne {d k k' : Nat} (h : k ≠ k') : nm d k ≠ nm d k' := fun e => h (nm_inj.1 e).2
theorem nm_ne' {d k k' i j : Nat} (h : k ≠ k') (hi : i < 4) (hj : j < 4) : nm d k + i ≠ nm d k' + j := fun e => h (nm0_inj.1 (show nm0 d k = nm0 d k' by unfold nm at e; omega)).2
/-- A name that is no frame's is none of the frame's. -/
theorem nm_ext {D b d k : Nat} (h : ¬ Gar D b) (hd : D ≤ d) : nm d k ≠ b := fun e => h (e ▸ gar_nm.2 hd)
end

/-! ### Calls -/
section
variable {N k : Nat} {args args' : List AV} {M : List (Nat × Blk)} {K : Cx} {v : AV}
theorem Cl.id (h : Cl P N k args M K) : Cl P N k args M K := h
theorem Cl.pure (hS : FS P N k args [] v []) (h : K v M [] (args.flatMap blks)) : Cl P N k args M K :=
  ⟨⟨[], [], [], args, v, M, VLs2.refl _, .inl hS, fun b blk h => by simp [preMu, app] at h, rfl, h⟩⟩
theorem Cl.view (hv : VLs2 (getM M) args args') (hS : FS P N k args' [] v []) (h : K v M [] (args.flatMap blks)) : Cl P N k args M K :=
  ⟨⟨[], [], [], args', v, M, hv, .inl hS, fun b blk h => by simp [preMu, app] at h, rfl, h⟩⟩
/-- Other blocks are frozen ahead of it. -/
theorem Cl.frz (fz : List Nat) {M' : List (Nat × Blk)} (hM : wrM M (frzW (getM M) fz) = M') (hv : VLs2 (getM M') args args') (hS : FS P N k args' [] v []) (h : K v M' (frzW (getM M) fz) (fz ++ args.flatMap blks)) : Cl P N k args M K := by
  have e : getM M' = app (getM M) (frzW (getM M) fz) := by rw [← hM, getM_wr]
  exact ⟨⟨fz, [], [], args', v, M', by rw [← e]; exact hv, .inl hS, fun b blk h => by simp [preMu, app] at h, e, by simpa using h⟩⟩
/-- It makes a block. -/
theorem Cl.new {blk : Blk} (hv : VLs2 (getM M) args args') (hS : FS P N k args' [] v [(N, some blk)]) (h : K v ((N, blk) :: M) [(N, some blk)] (args.flatMap blks)) : Cl P N k args M K :=
  ⟨⟨[], [], _, args', v, _, hv, .inl hS, fun b blk h => by simp [preMu, app] at h, getM_cons _ _ _, h⟩⟩
/-- It writes a block of its caller's. -/
theorem Cl.upd {b : Nat} {blk blk' : Blk} (hv : VLs2 (getM M) args args') (hb : Lk M b (fun k' => k' = blk)) (hS : FS P N k args' [(b, blk)] v [(b, some blk')]) (h : K v ((b, blk') :: M) [(b, some blk')] (b :: args.flatMap blks)) : Cl P N k args M K :=
  ⟨⟨[], [(b, blk)], [(b, some blk')], args', v, (b, blk') :: M, hv, .inl hS, fun c bk hc => by
    simp only [preMu, app, List.map_cons, List.map_nil, Go.Proofs.Ytneoeegpceompaa.AM.upd] at hc
    split at hc
    · rename_i e; subst e; injection hc with hc; subst hc; exact hb.get
    · exact absurd hc (by simp), getM_cons _ _ _, h⟩⟩
end

/-! ### Results -/
section
variable {N : Nat} {r x : AV} {M : List (Nat × Blk)} {post : Mu}
theorem Rt.eq (h : x = r) : Rt N (fun _ => none) r x M := ⟨⟨[], [], r, by subst h; exact .refl _, trivial, rfl, fun b blk h => absurd h (by simp)⟩⟩
theorem Rt.vl (h : VL3 (getM M) x r) : Rt N (fun _ => none) r x M := ⟨⟨[], [], r, h, trivial, rfl, fun b blk h => absurd h (by simp)⟩⟩
theorem Rt.frz (fz : List Nat) {M' : List (Nat × Blk)} (hM : wrM M (frzW (getM M) fz) = M') (h : VL3 (getM M') x r) : Rt N (fun _ => none) r x M := by
  have e : getM M' = app (getM M) (frzW (getM M) fz) := by rw [← hM, getM_wr]
  exact ⟨⟨fz, [], r, by rw [← e]; exact h, trivial, rfl, fun b blk h => absurd h (by simp)⟩⟩

theorem getM_frz1 {b : Nat} {k : Blk} (hb : getM M b = some k) : app (getM M) (frzW (getM M) [b]) b = some { k with mu := false } := by
  simp [frzW, hb, app, upd]

/-- One row is handed back, frozen. -/
theorem Rt.row {b sz len : Nat} {k : Blk} (hb : getM M b = some k) (hs : k.sz = sz) (hl : len = k.es.length) (h : r = .sl sz k.es) : Rt N (fun _ => none) r (.row b sz 0 len) M :=
  ⟨⟨[b], [], r, by
    subst h
    have := VL1.fz (μ := app (getM M) (frzW (getM M) [b])) b sz 0 len _ (getM_frz1 hb) rfl hs (by simp; omega)
    simp only [List.drop_zero] at this
    rw [List.take_of_length_le (by show k.es.length ≤ len; omega)] at this
    exact .two (.one this), trivial, rfl, fun b blk h => absurd h (by simp)⟩⟩

/-- .. ahead of another value. -/
theorem Rt.rowt {b sz len : Nat} {y : AV} {k : Blk} (hb : getM M b = some k) (hs : k.sz = sz) (hl : len = k.es.length) (h : r = .tup [.sl sz k.es, y]) : Rt N (fun _ => none) r (.tup [.row b sz 0 len, y]) M :=
  ⟨⟨[b], [], r, by
    subst h
    have := VL1.fz (μ := app (getM M) (frzW (getM M) [b])) b sz 0 len _ (getM_frz1 hb) rfl hs (by simp; omega)
    simp only [List.drop_zero] at this
    rw [List.take_of_length_le (by show k.es.length ≤ len; omega)] at this
    exact .tup (.cons (.one this) (VLs2.refl _)), trivial, rfl, fun b blk h => absurd h (by simp)⟩⟩

/-- One row is handed back, to be written on. -/
theorem Rt.own {b sz len : Nat} {k : Blk} (hN : ¬ nbr N b) (hb : getM M b = some k) (h : r = .row N sz 0 len) (hp : post = Go.Proofs.Ytneoeegpceompaa.AM.upd (fun _ => none) N (some k)) : Rt N post r (.row b sz 0 len) M :=
  ⟨⟨[], [b], .row b sz 0 len, .refl _, ⟨by omega, hN, ⟨k, hb⟩, trivial⟩, by subst h; simp [mvAV, ren, ren2, ren1], fun c blk hc => by
    subst hp
    simp only [upd] at hc
    split at hc
    · rename_i e
      rw [e]
      simpa [mvMu, frzW, app, upd, hb] using hc
    · exact absurd hc (by simp)⟩⟩
end


theorem Sx.nat {s : ByteArray} {i : Nat} {b : UInt8} {K : UInt8 → Prop} (h : s[i]? = some b) (k : K b) : Sx s (i : Int) K := ⟨⟨by omega, b, h, k⟩⟩

section
variable {es : List (List AV)} {i i' : Nat}
theorem El.mapi {α : Type} {f : α → List AV} {l : List α} {a : α} {K : List AV → Prop} (h : l[i']? = some a) (hi : i = i') (k : K (f a)) : El (l.map f) i K := by subst hi; exact .map h k
theorem El.ofi {K : List AV → Prop} {r : List AV} (h : es[i']? = some r) (hi : i = i') (k : K r) : El es i K := by subst hi; exact .of h k
end

section
variable {N k : Nat} {args args' : List AV} {M : List (Nat × Blk)} {K : Cx}
/-- Calls that come to one of several results. -/
theorem Cl.pureE {α : Type} {R : α → Prop} {f : α → AV} (hS : ∃ x, R x ∧ FS P N k args [] (f x) []) (h : ∀ x, R x → K (f x) M [] (args.flatMap blks)) : Cl P N k args M K := by
  obtain ⟨x, h1, h2⟩ := hS
  exact Cl.pure h2 (h x h1)
theorem Cl.newE {α : Type} {R : α → Prop} {f : α → AV} {g : α → Blk} (hS : ∃ x, R x ∧ FS P N k args [] (f x) [(N, some (g x))]) (h : ∀ x, R x → K (f x) ((N, g x) :: M) [(N, some (g x))] (args.flatMap blks)) : Cl P N k args M K := by
  obtain ⟨x, h1, h2⟩ := hS
  exact Cl.new (VLs2.refl _) h2 (h x h1)
theorem Cl.updE {α : Type} {R : α → Prop} {f : α → AV} {g : α → Blk} {b : Nat} {blk : Blk} (hb : Lk M b (fun k' => k' = blk)) (hS : ∃ x, R x ∧ FS P N k args [(b, blk)] (f x) [(b, some (g x))]) (h : ∀ x, R x → K (f x) ((b, g x) :: M) [(b, some (g x))] (b :: args.flatMap blks)) : Cl P N k args M K := by
  obtain ⟨x, h1, h2⟩ := hS
  exact Cl.upd (VLs2.refl _) hb h2 (h x h1)
theorem Cl.new0 {blk : Blk} {v : AV} (hS : FS P N k args [] v [(N, some blk)]) (h : K v ((N, blk) :: M) [(N, some blk)] (args.flatMap blks)) : Cl P N k args M K := Cl.new (VLs2.refl _) hS h
theorem Cl.upd0 {b : Nat} {blk blk' : Blk} {v : AV} (hb : Lk M b (fun k' => k' = blk)) (hS : FS P N k args [(b, blk)] v [(b, some blk')]) (h : K v ((b, blk') :: M) [(b, some blk')] (b :: args.flatMap blks)) : Cl P N k args M K := Cl.upd (VLs2.refl _) hb hS h
/-- Blocks of its caller's are frozen ahead of it. -/
theorem Cl.fz (fz : List Nat) {v : AV} (hv : VLs2 (app (getM M) (frzW (getM M) fz)) args args') (hS : FS P N k args' [] v []) (h : ∀ M' : List (Nat × Blk), getM M' = app (getM M) (frzW (getM M) fz) → K v M' (frzW (getM M) fz) (fz ++ args.flatMap blks)) : Cl P N k args M K := by
  have e : getM (wrM M (frzW (getM M) fz)) = app (getM M) (frzW (getM M) fz) := getM_wr _ _
  have := h _ e
  exact ⟨⟨fz, [], [], args', v, wrM M (frzW (getM M) fz), hv, .inl hS, fun b blk h => by simp [preMu, app] at h, e, by simpa using this⟩⟩
end

/-! ### Freezing -/
section
variable {M : List (Nat × Blk)}
theorem frz_app (fz : List Nat) : ∀ {μ : Mu} {b : Nat}, app μ (frzW μ fz) b = if b ∈ fz then (μ b).map (fun k => { k with mu := false }) else μ b := by
  induction fz with
  | nil => intro μ b; rfl
  | cons c r ih =>
    intro μ b
    simp only [frzW]
    split
    · rename_i k hk
      simp only [app]
      rw [ih]
      by_cases e : b = c
      · subst e
        simp only [upd_same, List.mem_cons_self, if_true, hk, Option.map_some]
        split <;> rfl
      · rw [upd_ne _ _ e]
        by_cases hm : b ∈ r
        · rw [if_pos hm, if_pos (List.mem_cons_of_mem _ hm)]
        · rw [if_neg hm, if_neg (by simp [e, hm])]
    · rename_i hk
      rw [ih]
      by_cases e : b = c
      · subst e
        rw [hk]
        simp
      · by_cases hm : b ∈ r
        · rw [if_pos hm, if_pos (List.mem_cons_of_mem _ hm)]
        · rw [if_neg hm, if_neg (by simp [e, hm])]

/-- Blocks as they are, seen frozen. -/
def fzM (M : List (Nat × Blk)) (fz : List Nat) : Mu := app (getM M) (frzW (getM M) fz)

theorem fzM_in {fz : List Nat} {b : Nat} {k : Blk} (hb : b ∈ fz) (h : Lk M b (fun k' => k' = k)) : fzM M fz b = some { k with mu := false } := by
  unfold fzM
  rw [frz_app, if_pos hb, h.get]; rfl

/-- A row, all of it, frozen. -/
theorem VL1.row {fz : List Nat} {b sz len : Nat} {es : List (List AV)} (hb : b ∈ fz) (h : Lk M b (fun k => k.sz = sz ∧ len = k.es.length ∧ k.es = es)) : VL1 (fzM M fz) (.row b sz 0 len) (.sl sz es) := by
  obtain ⟨⟨k, hk, hs, hl, he⟩⟩ := h
  have := VL1.fz (μ := fzM M fz) b sz 0 len { k with mu := false } (fzM_in hb ⟨⟨k, hk, rfl⟩⟩) rfl hs (by simp; omega)
  simp only [List.drop_zero] at this
  rw [List.take_of_length_le (by show k.es.length ≤ len; omega)] at this
  subst he
  exact this
theorem VL1.rowp {fz : List Nat} {b sz off len : Nat} {es : List (List AV)} (hb : b ∈ fz) (h : Lk M b (fun k => k.sz = sz ∧ off + len ≤ k.es.length ∧ (k.es.drop off).take len = es)) : VL1 (fzM M fz) (.row b sz off len) (.sl sz es) := by
  obtain ⟨⟨k, hk, hs, hl, he⟩⟩ := h
  subst he
  exact VL1.fz (μ := fzM M fz) b sz off len { k with mu := false } (fzM_in hb ⟨⟨k, hk, rfl⟩⟩) rfl hs (by simpa using hl)
/-- A variable that nobody writes any more. -/
theorem VL1.var {fz : List Nat} {b sz : Nat} {r : List AV} (hb : b ∈ fz) (h : Lk M b (fun k => k.sz = sz ∧ k.es = [r])) : VL1 (fzM M fz) (.pt b sz 0 0) (.ipt r) := by
  obtain ⟨⟨k, hk, hs, hr⟩⟩ := h
  have := VL1.pfz (μ := fzM M fz) b sz 0 0 { k with mu := false } r (fzM_in hb ⟨⟨k, hk, rfl⟩⟩) rfl hs (by simp [hr])
  simpa using this

/-- Blocks seen frozen, as a list. -/
def fzL (M : List (Nat × Blk)) : List (Nat × Blk) → List (Nat × Blk)
  | [] => M
  | (c, k) :: r => (c, { k with mu := false }) :: fzL M r

theorem fzL_eq (M : List (Nat × Blk)) (l : List (Nat × Blk)) (h : ∀ c k, (c, k) ∈ l → getM M c = some k) : getM (fzL M l) = fzM M (l.map Prod.fst) := by
  induction l with
  | nil => rfl
  | cons p r ih =>
    obtain ⟨c, k⟩ := p
    funext b
    have hc := h c k (by simp)
    have := congrFun (ih fun c k hk => h c k (by simp [hk])) b
    unfold fzM at this ⊢
    rw [frz_app] at this ⊢
    simp only [fzL, getM, this, List.map_cons, List.mem_cons]
    by_cases e : c = b
    · subst e; simp [hc]
    · rw [if_neg e]
      by_cases hm : b ∈ r.map Prod.fst
      · rw [if_pos hm, if_pos (.inr hm)]
      · rw [if_neg hm, if_neg (by simp only [not_or]; exact ⟨Ne.symm e, hm⟩)]

section
variable {P : Program} {N k : Nat} {args args' : List AV} {K : Cx} {v : AV}
/-- A call, blocks of the caller's frozen ahead of it. -/
theorem Cl.fz' (l : List (Nat × Blk)) (hl : ∀ c k, (c, k) ∈ l → getM M c = some k) (hv : VLs2 (fzM M (l.map Prod.fst)) args args') (hS : FS P N k args' [] v []) (h : K v (fzL M l) (frzW (getM M) (l.map Prod.fst)) (l.map Prod.fst ++ args.flatMap blks)) : Cl P N k args M K :=
  ⟨⟨l.map Prod.fst, [], [], args', v, fzL M l, hv, .inl hS, fun b blk h => by simp [preMu, app] at h, fzL_eq M l hl, by simpa using h⟩⟩
/-- .. and one that is written. -/
theorem Cl.fzu' (l : List (Nat × Blk)) {b : Nat} {blk blk' : Blk} (hl : ∀ c k, (c, k) ∈ l → getM M c = some k) (hv : VLs2 (fzM M (l.map Prod.fst)) args args') (hb : Lk M b (fun k' => k' = blk)) (hn : b ∉ l.map Prod.fst) (hS : FS P N k args' [(b, blk)] v [(b, some blk')])
    (h : K v ((b, blk') :: fzL M l) (frzW (getM M) (l.map Prod.fst) ++ [(b, some blk')]) (l.map Prod.fst ++ (b :: args.flatMap blks))) : Cl P N k args M K :=
  ⟨⟨l.map Prod.fst, [(b, blk)], [(b, some blk')], args', v, (b, blk') :: fzL M l, hv, .inl hS, fun c bk hc => by
    simp only [preMu, app, List.map_cons, List.map_nil, Go.Proofs.Ytneoeegpceompaa.AM.upd] at hc
    split at hc
    · rename_i e
      subst e
      have : fzM M (l.map Prod.fst) c = some blk := by unfold fzM; rw [frz_app, if_neg hn]; exact hb.get
      rw [← hc]
      exact this
    · exact absurd hc (by simp), by rw [getM_cons, fzL_eq M l hl]; rfl, h⟩⟩
/-- A call, a block of the caller's frozen ahead of it. -/
theorem Cl.fz1 {c : Nat} {kc : Blk} (hS : FS P N k args' [] v []) (hv : VLs2 (fzM M [c]) args args') (hc : Lk M c (fun k' => k' = kc)) (h : K v ((c, { kc with mu := false }) :: M) (frzW (getM M) [c]) ([c] ++ args.flatMap blks)) : Cl P N k args M K := by
  refine Cl.fz' [(c, kc)] (fun c' k' hm => ?_) hv hS ?_
  · simp only [List.mem_singleton, Prod.mk.injEq] at hm
    obtain ⟨rfl, rfl⟩ := hm
    exact hc.get
  · exact h
theorem Cl.fz1u {c b : Nat} {kc blk blk' : Blk} (hS : FS P N k args' [(b, blk)] v [(b, some blk')]) (hv : VLs2 (fzM M [c]) args args') (hc : Lk M c (fun k' => k' = kc)) (hb : Lk M b (fun k' => k' = blk)) (hn : b ≠ c) (h : K v ((b, blk') :: (c, { kc with mu := false }) :: M) (frzW (getM M) [c] ++ [(b, some blk')]) ([c] ++ (b :: args.flatMap blks))) : Cl P N k args M K := by
  refine Cl.fzu' [(c, kc)] (fun c' k' hm => ?_) hv hb (by simpa using hn) hS ?_
  · simp only [List.mem_singleton, Prod.mk.injEq] at hm
    obtain ⟨rfl, rfl⟩ := hm
    exact hc.get
  · exact h
theorem Cl.fz2 {c c2 : Nat} {kc kc2 : Blk} (hS : FS P N k args' [] v []) (hv : VLs2 (fzM M [c, c2]) args args') (hc : Lk M c (fun k' => k' = kc)) (hc2 : Lk M c2 (fun k' => k' = kc2)) (h : K v ((c, { kc with mu := false }) :: (c2, { kc2 with mu := false }) :: M) (frzW (getM M) [c, c2]) ([c, c2] ++ args.flatMap blks)) : Cl P N k args M K := by
  refine Cl.fz' [(c, kc), (c2, kc2)] (fun c' k' hm => ?_) hv hS ?_
  · simp only [List.mem_cons, Prod.mk.injEq, List.not_mem_nil, or_false] at hm
    rcases hm with ⟨rfl, rfl⟩ | ⟨rfl, rfl⟩
    · exact hc.get
    · exact hc2.get
  · exact h
theorem Cl.fz3 {c c2 c3 : Nat} {kc kc2 kc3 : Blk} (hS : FS P N k args' [] v []) (hv : VLs2 (fzM M [c, c2, c3]) args args') (hc : Lk M c (fun k' => k' = kc)) (hc2 : Lk M c2 (fun k' => k' = kc2)) (hc3 : Lk M c3 (fun k' => k' = kc3)) (h : K v ((c, { kc with mu := false }) :: (c2, { kc2 with mu := false }) :: (c3, { kc3 with mu := false }) :: M) (frzW (getM M) [c, c2, c3]) ([c, c2, c3] ++ args.flatMap blks)) : Cl P N k args M K := by
  refine Cl.fz' [(c, kc), (c2, kc2), (c3, kc3)] (fun c' k' hm => ?_) hv hS ?_
  · simp only [List.mem_cons, Prod.mk.injEq, List.not_mem_nil, or_false] at hm
    rcases hm with ⟨rfl, rfl⟩ | ⟨rfl, rfl⟩ | ⟨rfl, rfl⟩
    · exact hc.get
    · exact hc2.get
    · exact hc3.get
  · exact h
end
end

section
variable {N : Nat} {r x : AV} {M : List (Nat × Blk)} {post : Mu}
/-- What the contract leaves of its caller's blocks. -/
inductive SubP (M : List (Nat × Blk)) (fz : List Nat) : Mu → Prop
  | nil : SubP M fz (fun _ => none)
  | upd1 {b : Nat} {k k' : Blk} (h : Lk M b (fun k'' => k'' = k')) (hn : b ∉ fz) : SubP M fz (app (preMu [(b, k)]) [(b, some k')])
  | same1 {b : Nat} {k : Blk} (h : Lk M b (fun k'' => k'' = k)) (hn : b ∉ fz) : SubP M fz (app (preMu [(b, k)]) [])

theorem SubP.ok {fz : List Nat} (h : SubP M fz post) : ∀ b blk, post b = some blk → fzM M fz b = some blk := fun b blk hb => by
  unfold fzM
  rw [frz_app]
  cases h with
  | nil => cases hb
  | upd1 h hn =>
    simp only [app, preMu, List.map_cons, List.map_nil, upd] at hb
    split at hb
    · rename_i e; subst e; rw [if_neg hn, h.get]; exact hb
    · cases hb
  | same1 h hn =>
    simp only [app, preMu, List.map_cons, List.map_nil, upd] at hb
    split at hb
    · rename_i e; subst e; rw [if_neg hn, h.get]; exact hb
    · cases hb

theorem Rt.fz (fz : List Nat) (h : VL3 (fzM M fz) x r) (hp : SubP M fz post) : Rt N post r x M := ⟨⟨fz, [], r, h, trivial, rfl, hp.ok⟩⟩
theorem Rt.upd (h : x = r) (hp : SubP M [] post) : Rt N post r x M := Rt.fz [] (by subst h; exact .refl _) hp
/-- A name of a frame is none of the results'. -/
theorem nbr_no {D N d j : Nat} (hN : ¬ Gar D N) (hd : D ≤ d) (h4 : N % 4 = 0) : ¬ nbr N (nm d j) := fun hn => gar_of h4 hN hn (gar_nm.2 hd)
/-- A new row is handed back. -/
theorem Rt.new {b sz len : Nat} {k : Blk} (hN : ¬ nbr N b) (h : Lk M b (fun k' => k' = k)) : Rt N (app (preMu []) [(N, some k)]) (.row N sz 0 len) (.row b sz 0 len) M := by
  refine Rt.own hN h.get rfl ?_
  funext c
  simp [preMu, app]
/-- A pointer to a new variable is handed back. -/
theorem Rt.newp {b sz : Nat} {k : Blk} (hN : ¬ nbr N b) (h : Lk M b (fun k' => k' = k)) : Rt N (app (preMu []) [(N, some k)]) (.pt N sz 0 0) (.pt b sz 0 0) M :=
  ⟨⟨[], [b], .pt b sz 0 0, .refl _, ⟨by omega, hN, ⟨k, h.get⟩, trivial⟩, by simp [mvAV, ren, ren2, ren1], fun c blk hc => by
    simp only [preMu, app, List.map_nil, Go.Proofs.Ytneoeegpceompaa.AM.upd] at hc
    split at hc
    · rename_i e
      rw [e]
      simpa [mvMu, frzW, app, Go.Proofs.Ytneoeegpceompaa.AM.upd, h.get] using hc
    · exact absurd hc (by simp)⟩⟩
end

end Go.Proofs.Ytneoeegpceompaa.AM

/-
The abstract machine, part 26: loops: the next round in a new frame of names; induction.
-/
namespace Go.Proofs.Ytneoeegpceompaa.AM
open Go

variable {P : Program} {nt : Nat}

/-- Is it the block that is renamed? -/
structure Rn (b' b c : Nat) (K : Nat → Prop) : Prop where
  a : (b' = b ∧ K c) ∨ (b' ≠ b ∧ K b')

theorem Rn.same {b c : Nat} {K : Nat → Prop} (h : K c) : Rn b b c K := ⟨.inl ⟨rfl, h⟩⟩
theorem Rn.other {b' b c : Nat} {K : Nat → Prop} (hn : b' ≠ b) (h : K b') : Rn b' b c K := ⟨.inr ⟨hn, h⟩⟩

def ren1F (b c : Nat) (x : AV) (K : AV → Prop) : Prop := match x with
  | .row b' sz off len => Rn b' b c fun b'' => K (.row b'' sz off len)
  | .pt b' sz i o => Rn b' b c fun b'' => K (.pt b'' sz i o)
  | x => K x
def renLF (b c : Nat) : List AV → (List AV → Prop) → Prop
  | [], K => K []
  | x :: r, K => ren1F b c x fun x => renLF b c r fun r => K (x :: r)
def ren2F (b c : Nat) (x : AV) (K : AV → Prop) : Prop := match x with
  | .agg cs => renLF b c cs fun cs => K (.agg cs)
  | .tup cs => K (.tup (cs.map (ren2 b c)))
  | x => ren1F b c x K
def renTF (b c : Nat) : List (Nat × AV) → (List (Nat × AV) → Prop) → Prop
  | [], K => K []
  | (k, x) :: r, K => ren2F b c x fun x => renTF b c r fun r => K ((k, x) :: r)

theorem ren1F_eq {b c : Nat} {x : AV} {K : AV → Prop} (h : ren1F b c x K) : K (ren1 b c x) := by
  cases x with
  | row b' sz off len =>
    rcases h.a with ⟨e, h0⟩ | ⟨hn, h0⟩
    · simpa [ren1, e] using h0
    · simpa [ren1, hn] using h0
  | pt b' sz i o =>
    rcases h.a with ⟨e, h0⟩ | ⟨hn, h0⟩
    · simpa [ren1, e] using h0
    · simpa [ren1, hn] using h0
  | _ => exact h
theorem renLF_eq {b c : Nat} (l : List AV) : ∀ {K : List AV → Prop}, renLF b c l K → K (l.map (ren1 b c)) := by
  induction l with
  | nil => intro K h; exact h
  | cons x r ih => intro K h; exact ih (ren1F_eq h)
theorem ren2F_eq {b c : Nat} {x : AV} {K : AV → Prop} (h : ren2F b c x K) : K (ren b c x) := by
  cases x with
  | agg cs => exact renLF_eq cs h
  | tup cs => exact h
  | row b' sz off len => exact ren1F_eq (x := .row b' sz off len) h
  | pt b' sz i o => exact ren1F_eq (x := .pt b' sz i o) h
  | _ => exact h
theorem renTF_eq {b c : Nat} (T : List (Nat × AV)) : ∀ {K : List (Nat × AV) → Prop}, renTF b c T K → K (mapT (ren b c) T) := by
  induction T with
  | nil => intro K h; exact h
  | cons p r ih =>
    intro K h
    obtain ⟨k, x⟩ := p
    exact ih (ren2F_eq h)

/-- These temporaries alone. -/
def keepF : List Nat → List (Nat × AV) → (List (Nat × AV) → Prop) → Prop
  | [], _, K => K []
  | k :: r, T, K => frc (lk T k) fun v => keepF r T fun T' => K ((k, v) :: T')

theorem keepF_eq (ks : List Nat) : ∀ (T : List (Nat × AV)) (K : List (Nat × AV) → Prop), keepF ks T K = K (keepT ks T) := by
  induction ks with
  | nil => intro T K; rfl
  | cons k r ih => intro T K; simp only [keepF, frc_eq, lk_eq, ih]; rfl

/-- These blocks alone, under the frame's first names. -/
def agF (d : Nat) : List Nat → Nat → List (Nat × AV) → List (Nat × Blk) → List (Nat × Blk) → (Nat → List (Nat × AV) → List (Nat × Blk) → Prop) → Prop
  | [], n, T, _, acc, K => K n T acc
  | b :: r, n, T, M, acc, K => Lk M b fun k => match k with
    | ⟨mu, ty, sz, es, cap⟩ => renTF b (nm d n) T fun T' => frcN (n + 1) fun n' => agF d r n' T' (delM M b) ((nm d n, ⟨mu, ty, sz, es, cap⟩) :: acc) K

theorem agF_sound {d : Nat} (bs : List Nat) : ∀ {n : Nat} {T : List (Nat × AV)} {M acc Mt : List (Nat × Blk)} {K : Nat → List (Nat × AV) → List (Nat × Blk) → Prop}, agF d bs n T M acc K →
    (∀ b k, getM M b = some k → getM Mt b = some k) → (∀ b k, getM acc b = some k → getM Mt b = some k ∧ getM M b = none) →
    ∃ n' T' acc', K n' T' acc' ∧ Weak ⟨T, Mt, d, n⟩ ⟨T', acc', d, n'⟩ := by
  induction bs with
  | nil =>
    intro n T M acc Mt K h h1 h2
    refine ⟨n, T, acc, h, fun F io a w hC => ?_⟩
    obtain ⟨le, hM⟩ := hC.c.mem.sub (μ' := getM acc) (fun b k hb => (h2 b k hb).1)
    exact ⟨io, ⟨hM, fun t => (hC.c.tmps t).mono le, hC.c.size, hC.c.defers, hC.c.fresh, hC.c.heap, fun b blk k hb => hC.c.own b blk k (h2 b blk hb).1, hC.c.pre, hC.c.top, hC.c.free⟩, hC.low, hC.outN, hC.n4⟩
  | cons b r ih =>
    intro n T M acc Mt K h h1 h2
    obtain ⟨⟨mu, ty, sz, es, cap⟩, hk, h⟩ := h.a
    have h := renTF_eq T h
    rw [frcN_eq] at h
    by_cases hfr : getM Mt (nm d n) = none
    · have key : ∀ (b2 : Nat) (k2 : Blk), getM (delM M b) b2 = some k2 → getM ((nm d n, (⟨mu, ty, sz, es, cap⟩ : Blk)) :: delM Mt b) b2 = some k2 := fun b2 k2 hb2 => by
        rw [getM_del] at hb2
        split at hb2
        · cases hb2
        · rename_i hne
          have := h1 b2 k2 hb2
          have hn : nm d n ≠ b2 := fun e => by rw [← e, hfr] at this; cases this
          simp only [getM]
          rw [if_neg hn, getM_del, if_neg hne]
          exact this
      obtain ⟨n', T', acc', k1, k2⟩ := ih (Mt := (nm d n, ⟨mu, ty, sz, es, cap⟩) :: delM Mt b) h key (fun b2 k2 hb2 => by
        simp only [getM] at hb2
        split at hb2
        · rename_i e
          subst e
          injection hb2 with hb2
          subst hb2
          refine ⟨by simp [getM], ?_⟩
          rw [getM_del]
          split
          · rfl
          · cases hq : getM M (nm d n) with
            | none => rfl
            | some k3 => have := h1 _ _ hq; rw [hfr] at this; cases this
        · rename_i hne
          obtain ⟨g1, g2⟩ := h2 b2 k2 hb2
          have hbb : b2 ≠ b := fun e => by subst e; rw [hk] at g2; cases g2
          simp only [getM]
          rw [if_neg hne, getM_del, if_neg hbb, getM_del, if_neg hbb]
          exact ⟨g1, g2⟩)
      exact ⟨n', T', acc', k1, weak_trans (weak_move (S := ⟨T, Mt, d, n⟩) (h1 _ _ hk)) k2⟩
    · -- such a state there is none
      have key : ∀ (b2 : Nat) (k2 : Blk), getM (delM M b) b2 = some k2 → getM (((nm d n, (⟨mu, ty, sz, es, cap⟩ : Blk)) :: acc) ++ delM M b) b2 = some k2 ∨ True := fun _ _ _ => .inr trivial
      have absurdW : ∀ S', Weak ⟨T, Mt, d, n⟩ S' := fun S' F io a w hC => by
        exfalso
        have := hC.c.fresh (nm d n) (.inr ⟨n, Nat.le_refl _, nbr_self _⟩)
        exact hfr (hC.c.mem.unused this)
      obtain ⟨n', T', acc', k1⟩ : ∃ n' T' acc', K n' T' acc' := by
        have all : ∀ (r : List Nat) (n : Nat) (T : List (Nat × AV)) (M acc : List (Nat × Blk)), agF d r n T M acc K → ∃ n' T' acc', K n' T' acc' := fun r => by
          induction r with
          | nil => intro n T M acc h; exact ⟨_, _, _, h⟩
          | cons b r ih2 =>
            intro n T M acc h
            obtain ⟨⟨mu, ty, sz, es, cap⟩, hk, h⟩ := h.a
            have h := renTF_eq T h
            rw [frcN_eq] at h
            exact ih2 _ _ _ _ h
        exact all _ _ _ _ _ h
      exact ⟨n', T', acc', k1, absurdW _⟩

/-- Blocks that keep their names. -/
def exF : List Nat → List (Nat × Blk) → List (Nat × Blk) → (List (Nat × Blk) → List (Nat × Blk) → Prop) → Prop
  | [], M, acc, K => K M acc
  | b :: r, M, acc, K => Lk M b fun k => match k with
    | ⟨mu, ty, sz, es, cap⟩ => exF r (delM M b) ((b, ⟨mu, ty, sz, es, cap⟩) :: acc) K

theorem exF_sound (ex : List Nat) : ∀ {M acc Mt : List (Nat × Blk)} {K : List (Nat × Blk) → List (Nat × Blk) → Prop}, exF ex M acc K →
    (∀ b k, getM M b = some k → getM Mt b = some k) → (∀ b k, getM acc b = some k → getM Mt b = some k ∧ getM M b = none) →
    ∃ M' acc', K M' acc' ∧ (∀ b k, getM M' b = some k → getM Mt b = some k) ∧ (∀ b k, getM acc' b = some k → getM Mt b = some k ∧ getM M' b = none) := by
  induction ex with
  | nil => intro M acc Mt K h h1 h2; exact ⟨M, acc, h, h1, h2⟩
  | cons b r ih =>
    intro M acc Mt K h h1 h2
    obtain ⟨⟨mu, ty, sz, es, cap⟩, hk, h⟩ := h.a
    refine ih h (fun c k hc => ?_) (fun c k hc => ?_)
    · rw [getM_del] at hc
      split at hc
      · cases hc
      · exact h1 c k hc
    · simp only [getM] at hc
      rw [getM_del]
      split at hc
      · rename_i e
        subst e
        injection hc with hc
        subst hc
        exact ⟨h1 _ _ hk, by simp⟩
      · obtain ⟨g1, g2⟩ := h2 c k hc
        refine ⟨g1, ?_⟩
        split
        · rfl
        · exact g2

/-- On to a loop, or to its next round: these temporaries, these blocks (the first ones keep their names). -/
theorem Lp.go {x : CC} {Q : Post} {T : List (Nat × AV)} {M : List (Nat × Blk)} {d nx : Nat} (ks ex bs : List Nat)
    (h : keepF ks T fun T' => exF ex M [] fun M' acc => ∀ d', d < d' → agF d' bs 0 T' M' acc fun n T'' M'' => Lp P nt x ⟨T'', M'', d', n⟩ Q) : Lp P nt x ⟨T, M, d, nx⟩ Q := by
  rw [keepF_eq] at h
  obtain ⟨M', acc, h, h1, h2⟩ := exF_sound ex h (Mt := M) (fun _ _ h => h) (fun b k h => by simp [getM] at h)
  refine ⟨SafeL.weak (weak_keep (S := ⟨T, M, d, nx⟩) ks) (SafeL.enter fun d' hd' => ?_)⟩
  obtain ⟨n', T', acc', g1, g2⟩ := agF_sound bs (h d' hd') h1 h2
  exact SafeL.weak g2 g1.a

/-- Induction over a loop's rounds. -/
theorem l_ind {σ : Type} {x : CC} {Q : Post} (D : Nat) (m : σ → Nat) (I : σ → Prop) (F : σ → Nat → St)
    (step : ∀ s, I s → ∀ d, D ≤ d → (∀ s', m s' < m s → I s' → ∀ d', D ≤ d' → Lp P nt x (F s' d') Q) → wpC P nt x (F s d) (thenQ (fun S' => Lp P nt x S' Q) Q)) : ∀ s, I s → ∀ d, D ≤ d → Lp P nt x (F s d) Q := by
  have : ∀ k s, m s = k → I s → ∀ d, D ≤ d → Lp P nt x (F s d) Q := fun k => by
    induction k using Nat.strongRecOn with
    | _ k ih =>
      intro s hs hI d hd
      refine ⟨safeL_round (Safe.mono (wpC_sound x (step s hI d hd fun s' hm hI' d' hd' => ih (m s') (by omega) s' rfl hI' d' hd')) fun e S' h => ?_)⟩
      exact thenQ_of (fun he => by subst he; exact Lp.a h) (fun he => thenQ_ne h he)
  exact fun s => this _ s rfl

/-- .. that count. -/
theorem l_nat {x : CC} {Q : Post} (D n : Nat) (I : Nat → Prop) (F : Nat → Nat → St)
    (step : ∀ k, k ≤ n → I k → ∀ d, D ≤ d → (k < n → I (k + 1) → ∀ d', D ≤ d' → Lp P nt x (F (k + 1) d') Q) → wpC P nt x (F k d) (thenQ (fun S' => Lp P nt x S' Q) Q)) (h0 : I 0) : ∀ d, D ≤ d → Lp P nt x (F 0 d) Q := by
  have := l_ind (P := P) (nt := nt) (x := x) (Q := Q) D (fun k : Nat => n - k) (fun k => k ≤ n ∧ I k) F (fun k ⟨h1, h2⟩ d hd ih => step k h1 h2 d hd fun hlt hI d' hd' => ih (k + 1) (by omega) ⟨hlt, hI⟩ d' hd')
  exact this 0 ⟨Nat.zero_le _, h0⟩

/-- A function that writes one block of its caller's. -/
theorem Fn.upd {k : Nat} {cc : CC} {ks : List RK} {N b : Nat} {blk : Blk} {args : List AV} {r : AV} {post : Wr} (h : Fn P k cc nt ks) (hn2 : args.length ≤ nt)
    (hs : ∀ D, (∀ d j, D ≤ d → ¬ nbr N (nm d j)) → ¬ Gar D b → argF args 0 fun T => wpC P nt cc ⟨T, [(b, blk)], D, 0⟩ (RetQ N ks (app (preMu [(b, blk)]) post) r)) : FS P N k args [(b, blk)] r post :=
  h.fs hn2 fun D h4 a hp => hs D (fun d j hd => nbr_no a hd h4) (hp b (by simp [preMu, app, Go.Proofs.Ytneoeegpceompaa.AM.upd]))

/-- A function that makes a block. -/
theorem Fn.new {k : Nat} {cc : CC} {ks : List RK} {N : Nat} {blk : Blk} {args : List AV} {r : AV} (h : Fn P k cc nt ks) (hn2 : args.length ≤ nt)
    (hs : ∀ D, (∀ d j, D ≤ d → ¬ nbr N (nm d j)) → argF args 0 fun T => wpC P nt cc ⟨T, [], D, 0⟩ (RetQ N ks (app (preMu []) [(N, some blk)]) r)) : FS P N k args [] r [(N, some blk)] :=
  h.fs hn2 fun D h4 a _ => hs D (fun d j hd => nbr_no a hd h4)

end Go.Proofs.Ytneoeegpceompaa.AM

/-
The abstract machine, part 27: contracts out of contracts; lists of structs.
-/
namespace Go.Proofs.Ytneoeegpceompaa.AM
open Go

variable {P : Program} {nt : Nat}

/-- An empty slice, whatever it is. -/
theorem FS.sl0 {N k sz : Nat} {pre : List (Nat × Blk)} {r : AV} {post : Wr} {rest : List AV} (h : ∀ A c, FS P N k (.v (.slice A 0 c) :: rest) pre r post) : FS P N k (.sl sz [] :: rest) pre r post := by
  refine ⟨(h none 0).call, fun X io w vs D hM hargs h4 hN hD hND => ?_⟩
  obtain ⟨u, us, rfl, h1, h2⟩ := hargs.cons_inv
  have : ∃ A c, u = .slice A 0 c := by
    cases h1 with
    | sl0 _ A c => exact ⟨A, c, rfl⟩
    | sl _ _ k o c => exact ⟨_, c, rfl⟩
  obtain ⟨A, c, rfl⟩ := this
  exact (h A c).spec X io w _ D hM (.cons (.v _) h2) h4 hN hD hND

theorem StepA.sub {X A A' : Nat → Prop} {io : Nat → Option (Option Nat)} {μ : Mu} {w : World} {io' : Nat → Option (Option Nat)} {μ' : Mu} {w' : World} (h : StepA X A io μ w io' μ' w') (ha : ∀ b, A b → A' b) : StepA X A' io μ w io' μ' w' :=
  ⟨h.mem, h.ios, h.os, h.tape, h.output, h.size, h.keep, h.shape, h.own, fun b hb => h.free b fun e => hb (ha b e), h.top⟩

/-- Nil, handed back as an own row. -/
theorem FS.phantom {N k sz e : Nat} {args : List AV} {cap : Option Nat} (h : ∀ N, FS P N k args [] (.v (.slice none 0 0)) []) : FS P N k args [] (.row N sz 0 0) [(N, some ⟨true, e, sz, [], cap⟩)] := by
  refine ⟨(h 0).call, fun X io w vs D hM hargs h4 hN hD hND => ((h (nm D 0)).spec X io w vs (D + 1) hM hargs (nm4 _ _) (fun b hb => hD b ⟨D, 0, Nat.le_refl _, hb⟩) (fun b hb => hD b (hb.mono (by omega))) (by rw [gar_nm]; omega)).mono fun en w' hh => ?_⟩
  obtain ⟨v, io', he, hs, hr⟩ := hh
  have e1 : app (preMu []) ([] : Wr) = preMu [] := rfl
  rw [e1] at hs hr
  have hio : io' N = none := hs.free N (fun h => by
    rcases h with h | h
    · exact hND ⟨D, 0, Nat.le_refl _, h⟩
    · exact hND (h.mono (by omega))) (hN N (nbr_self N))
  have hst := step_phantom hs.mem hio rfl ⟨true, e, sz, [], cap⟩ rfl
  refine ⟨v, _, he, (hs.sub (fun b hb => ?_)).trans (hst.toA hs.mem (.inl (nbr_self N))), ?_⟩
  · rcases hb with h | h
    · exact .inr ⟨D, 0, Nat.le_refl _, h⟩
    · exact .inr (h.mono (by omega))
  · have := rel_v hr
    subst this
    exact .rowz _ _ _ (upd_same _ _ _)

/-! ### Lists of structs -/
section
variable {α : Type} {f : α → List AV} {l : List α} {a b : α}
theorem Se.map {i : Nat} {r : List AV} {K : List (List AV) → Prop} (he : f a = r) (k : K ((l.set i a).map f)) : Se (l.map f) i r K := ⟨by subst he; rw [← List.map_set]; exact k⟩
theorem El.mset {i j : Nat} {K : List AV → Prop} (h : l[j]? = some b) (hi : i = j) (k : K (f a)) : El ((l.set j a).map f) i K := ⟨⟨f a, by
  subst hi
  have := (List.getElem?_eq_some_iff.1 h).1
  simp [this], k⟩⟩
theorem Ap.mapr {len : Nat} {r : List AV} {K1 K2 : Nat → List (List AV) → Prop} (he : f a = r) (hl : len = l.length) (hb : len + 1 ≤ 1000000) (k : K1 (len + 1) ((l ++ [a]).map f)) : Ap (l.map f) 0 len [r] K1 K2 := by subst he; exact .map hl hb k
theorem Ap.nil {K1 K2 : Nat → List (List AV) → Prop} (hb : l.length ≤ 1000000) (k : K1 l.length (l.map f)) : Ap [] 0 0 (l.map f) K1 K2 := .end_ (n := l.length) (es' := l.map f) rfl (by simpa using hb) (by simp) rfl k
theorem Ap.one {r : List AV} {K1 K2 : Nat → List (List AV) → Prop} (he : f a = r) (k : K1 1 ([a].map f)) : Ap [] 0 0 [r] K1 K2 := .end_ (n := 1) (es' := [a].map f) rfl (by simp) (by simp) (by simp [he]) k
theorem Ap.cat {l' : List α} {len : Nat} {K1 K2 : Nat → List (List AV) → Prop} (hl : len = l.length) (hb : len + l'.length ≤ 1000000) (k : K1 (len + l'.length) ((l ++ l').map f)) : Ap (l.map f) 0 len (l'.map f) K1 K2 :=
  .end_ (n := len + l'.length) (es' := (l ++ l').map f) (by simpa using hl) (by simpa using hb) (by simp) (by simp) k
theorem Sb.map {off len : Nat} {K : List (List AV) → Prop} (h : off + len ≤ l.length) (k : K (((l.drop off).take len).map f)) : Sb (l.map f) off len K := .eq (by simpa using h) (by rw [List.map_take, List.map_drop]) k
theorem Sb.allm {len : Nat} {K : List (List AV) → Prop} (h : len = l.length) (k : K (l.map f)) : Sb (l.map f) 0 len K := .all (by simpa using h) k
end


/-! ### Views, by the place in the list of what is frozen -/
section
variable {M : List (Nat × Blk)} {b c e sz len off : Nat} {r : List Nat} {es : List (List AV)} {ro : List AV}
theorem VL1.row0 (h : Lk M b (fun k => k.sz = sz ∧ len = k.es.length ∧ k.es = es)) : VL1 (fzM M (b :: r)) (.row b sz 0 len) (.sl sz es) := .row (by simp) h
theorem VL1.row1 (h : Lk M b (fun k => k.sz = sz ∧ len = k.es.length ∧ k.es = es)) : VL1 (fzM M (c :: b :: r)) (.row b sz 0 len) (.sl sz es) := .row (by simp) h
theorem VL1.row2 (h : Lk M b (fun k => k.sz = sz ∧ len = k.es.length ∧ k.es = es)) : VL1 (fzM M (c :: e :: b :: r)) (.row b sz 0 len) (.sl sz es) := .row (by simp) h
theorem VL1.var0 (h : Lk M b (fun k => k.sz = sz ∧ k.es = [ro])) : VL1 (fzM M (b :: r)) (.pt b sz 0 0) (.ipt ro) := .var (by simp) h
theorem VL1.var1 (h : Lk M b (fun k => k.sz = sz ∧ k.es = [ro])) : VL1 (fzM M (c :: b :: r)) (.pt b sz 0 0) (.ipt ro) := .var (by simp) h
theorem VL1.var2 (h : Lk M b (fun k => k.sz = sz ∧ k.es = [ro])) : VL1 (fzM M (c :: e :: b :: r)) (.pt b sz 0 0) (.ipt ro) := .var (by simp) h
end

section
variable {N c c2 c3 : Nat} {M : List (Nat × Blk)} {cs ds : List AV} {x r : AV}
theorem Rt.vlt (hv : VLs2 (getM M) cs ds) : Rt N (fun _ => none) (.tup ds) (.tup cs) M := .vl (.tup hv)
theorem Rt.fz1t (hv : VLs2 (fzM M [c]) cs ds) : Rt N (fun _ => none) (.tup ds) (.tup cs) M := .fz [c] (.tup hv) .nil
theorem Rt.fz1v (hv : VL2 (fzM M [c]) x r) : Rt N (fun _ => none) r x M := .fz [c] (.two hv) .nil
theorem Rt.fz2t (hv : VLs2 (fzM M [c, c2]) cs ds) : Rt N (fun _ => none) (.tup ds) (.tup cs) M := .fz [c, c2] (.tup hv) .nil
theorem Rt.fz2v (hv : VL2 (fzM M [c, c2]) x r) : Rt N (fun _ => none) r x M := .fz [c, c2] (.two hv) .nil
theorem Rt.fz3t (hv : VLs2 (fzM M [c, c2, c3]) cs ds) : Rt N (fun _ => none) (.tup ds) (.tup cs) M := .fz [c, c2, c3] (.tup hv) .nil
theorem Rt.fz3v (hv : VL2 (fzM M [c, c2, c3]) x r) : Rt N (fun _ => none) r x M := .fz [c, c2, c3] (.two hv) .nil
end

/-! ### Blocks that a callee takes -/
section
variable {N k : Nat} {args args' : List AV} {M : List (Nat × Blk)} {K : Cx} {v r x : AV} {b : Nat} {blk : Blk}
theorem Cl.del (hb : Lk M b (fun k' => k' = blk)) (hS : FS P N k args [(b, blk)] v [(b, none)]) (h : K v (delM M b) [(b, none)] (b :: args.flatMap blks)) : Cl P N k args M K :=
  ⟨⟨[], [(b, blk)], [(b, none)], args, v, delM M b, VLs2.refl _, .inl hS, fun c bk hc => by
    simp only [preMu, app, List.map_cons, List.map_nil, Go.Proofs.Ytneoeegpceompaa.AM.upd] at hc
    split at hc
    · rename_i e; subst e; rw [← hc]; exact hb.get
    · exact absurd hc (by simp), by
      funext c
      rw [getM_del]; rfl, h⟩⟩
theorem Rt.del (h : x = r) : Rt N (app (preMu [(b, blk)]) [(b, none)]) r x M :=
  ⟨⟨[], [], r, by subst h; exact .refl _, trivial, rfl, fun c bk hc => by
    simp only [preMu, app, List.map_cons, List.map_nil, Go.Proofs.Ytneoeegpceompaa.AM.upd] at hc
    split at hc
    · exact absurd hc (by simp)
    · exact absurd hc (by simp)⟩⟩
end

/-! ### The rules that the walk tries, with what each asks found by itself -/
/-- Names of two frames differ. -/
theorem nm_lt2 {d d' k j : Nat} (h : d < d') : nm d' k ≠ nm d j := fun e => by have := (nm_inj.1 e).1; omega
theorem nm_gt2 {d d' k j : Nat} (h : d < d') : nm d k ≠ nm d' j := fun e => by have := (nm_inj.1 e).1; omega
section
variable {A B : Prop}
theorem Y.o0 {a K : Prop} (h : Ob a K) : Ob a K := h
theorem Y.r0 {b' b c : Nat} {K : Nat → Prop} (h : Rn b' b c K) : Rn b' b c K := h
theorem Y.b4 {a b : ByteArray} {i j : Int} (k : A) (h : a = b ∧ i = j := by assumption) : Br (a.toList == b.toList && (i == j && true)) A B := .asset_t h k
theorem Y.b5 {a b : ByteArray} {i j : Int} (k : B) (h : ¬ (a = b ∧ i = j) := by assumption) : Br (a.toList == b.toList && (i == j && true)) A B := .asset_f h k
theorem Y.c1 {p : Prop} [Decidable p] (k : A) (h : p := by first | assumption | omega) : Br (decide p) A B := .de_t h k
theorem Y.c2 {p : Prop} [Decidable p] (k : B) (h : ¬ p := by first | assumption | omega) : Br (decide p) A B := .de_f h k
theorem Y.c3 {a b : Int} (k : A) (h : a = b := by first | assumption | omega) : Br (a == b) A B := .eq_t h k
theorem Y.c4 {a b : Int} (k : B) (h : ¬ a = b := by first | assumption | omega) : Br (a == b) A B := .eq_f h k
theorem Y.c5 {a b : Int} (k : A) (h : ¬ a = b := by first | assumption | omega) : Br (a != b) A B := .ne_t h k
theorem Y.c6 {a b : Int} (k : B) (h : a = b := by first | assumption | omega) : Br (a != b) A B := .ne_f h k
theorem Y.c7 {t : Bool} (k : A) (h : t = true := by assumption) : Br t A B := .tt' h k
theorem Y.c8 {t : Bool} (k : B) (h : t = false := by assumption) : Br t A B := .ff' h k
theorem Y.d1 {n : Int} {K : Int → Prop} (k : K n) (h : -9223372036854775808 ≤ n ∧ n ≤ 9223372036854775807 := by omega) : Wp .i64 n K := .in64 h k
theorem Y.l2 {b c : Nat} {k : Blk} {M : List (Nat × Blk)} {K : Blk → Prop} (h : Lk M b K) (hne : c ≠ b := by first | exact Y.i (nm_ne (by decide)) | exact Y.i (nm_ext (by assumption) (by omega)) | exact Y.i (nm_ext (by assumption) (by omega)).symm | exact Y.i (nm_ne' (by decide) (by decide) (by decide)) | assumption | exact Y.i (nm_lt2 (by assumption)) | exact Y.i (nm_gt2 (by assumption))) : Lk ((c, k) :: M) b K := .next hne h
theorem Y.l3 {b c : Nat} {M : List (Nat × Blk)} {K : Blk → Prop} (h : Lk M b K) (hne : c ≠ b := by first | exact Y.i (nm_ne (by decide)) | exact Y.i (nm_ext (by assumption) (by omega)) | exact Y.i (nm_ext (by assumption) (by omega)).symm | exact Y.i (nm_ne' (by decide) (by decide) (by decide)) | assumption | exact Y.i (nm_lt2 (by assumption)) | exact Y.i (nm_gt2 (by assumption))) : Lk (delM M c) b K := .del hne h
theorem Y.r2 {b' b c : Nat} {K : Nat → Prop} (h : K b') (hn : b' ≠ b := by first | exact Y.i (nm_ne (by decide)) | exact Y.i (nm_ext (by assumption) (by omega)) | exact Y.i (nm_ext (by assumption) (by omega)).symm | exact Y.i (nm_ne' (by decide) (by decide) (by decide)) | assumption | exact Y.i (nm_lt2 (by assumption)) | exact Y.i (nm_gt2 (by assumption))) : Rn b' b c K := .other hn h
theorem Y.e1 {α : Type} {f : α → List AV} {l : List α} {i : Nat} {a : α} {K : List AV → Prop} (k : K (f a)) (h : l[i]? = some a := by assumption) : El (l.map f) i K := .map h k
theorem Y.e2 {es : List (List AV)} {i : Nat} {K : List AV → Prop} {r : List AV} (k : K r) (h : es[i]? = some r := by first | rfl | assumption) : El es i K := .of h k
theorem Y.o1 {a : Prop} {K : Prop} (k : K) (h : a := by first | omega | rfl | assumption | (first | exact Y.i (nm_ne (by decide)) | exact Y.i (nm_ext (by assumption) (by omega)) | exact Y.i (nm_ext (by assumption) (by omega)).symm | exact Y.i (nm_ne' (by decide) (by decide) (by decide)) | assumption | exact Y.i (nm_lt2 (by assumption)) | exact Y.i (nm_gt2 (by assumption))) | (simp; done) | (simp; omega)) : Ob a K := .mk h k
end
section
variable {α : Type} {f : α → List AV} {l : List α} {K : List (List AV) → Prop} {es : List (List AV)} {len : Nat}
theorem Y.s2 (k : K (l.map f)) (h : len = l.length := by first | rfl | assumption | (simp; omega)) : Sb (l.map f) 0 len K := .allm h k
theorem Y.s3 (k : K es) (h : len = es.length := by first | rfl | assumption | (simp; omega)) : Sb es 0 len K := .all h k
end

section
variable {M : List (Nat × Blk)} {b c e sz len : Nat} {r : List Nat} {es : List (List AV)} {ro : List AV}
theorem Y.row0 (h : Lk M b (fun k => k.sz = sz ∧ len = k.es.length ∧ k.es = es)) : VL2 (fzM M (b :: r)) (.row b sz 0 len) (.sl sz es) := .one (.row0 h)
theorem Y.row1 (h : Lk M b (fun k => k.sz = sz ∧ len = k.es.length ∧ k.es = es)) : VL2 (fzM M (c :: b :: r)) (.row b sz 0 len) (.sl sz es) := .one (.row1 h)
theorem Y.row2 (h : Lk M b (fun k => k.sz = sz ∧ len = k.es.length ∧ k.es = es)) : VL2 (fzM M (c :: e :: b :: r)) (.row b sz 0 len) (.sl sz es) := .one (.row2 h)
theorem Y.var0 (h : Lk M b (fun k => k.sz = sz ∧ k.es = [ro])) : VL2 (fzM M (b :: r)) (.pt b sz 0 0) (.ipt ro) := .one (.var0 h)
theorem Y.var1 (h : Lk M b (fun k => k.sz = sz ∧ k.es = [ro])) : VL2 (fzM M (c :: b :: r)) (.pt b sz 0 0) (.ipt ro) := .one (.var1 h)
theorem Y.var2 (h : Lk M b (fun k => k.sz = sz ∧ k.es = [ro])) : VL2 (fzM M (c :: e :: b :: r)) (.pt b sz 0 0) (.ipt ro) := .one (.var2 h)
end

end Go.Proofs.Ytneoeegpceompaa.AM

/-
The abstract machine, part 28: variables that hold rows: the rows renamed, or frozen, in their cells too.
-/
namespace Go.Proofs.Ytneoeegpceompaa.AM
open Go

variable {P : Program} {nt : Nat}

/-- A block's cells, with less known of them, or under other names. -/
theorem Mem.recell {X : Nat → Prop} {io : Nat → Option (Option Nat)} {μ : Mu} {w : World} (hM : Mem X io μ w) {b : Nat} {k : Blk} (hb : μ b = some k) {r r' : List AV} (he : k.es = [r]) (hl : r'.length = r.length)
    (hr : ∀ us, Rels (envOf X io μ w) r us → Rels (envOf X io μ w) r' us) : Mem X io (upd μ b (some { k with es := [r'] })) w ∧ envOf X io (upd μ b (some { k with es := [r'] })) w = envOf X io μ w := by
  have him : imOf X io (upd μ b (some { k with es := [r'] })) w = imOf X io μ w := by
    funext x
    unfold imOf
    refine propext ⟨fun ⟨h1, h2, h3⟩ => ⟨h1, h2, fun c blk hc hm => ?_⟩, fun ⟨h1, h2, h3⟩ => ⟨h1, h2, fun c blk hc hm => ?_⟩⟩
    · by_cases e : c = b
      · subst e
        rw [hb] at hc; injection hc with hc; subst hc
        exact h3 c { k with es := [r'] } (upd_same _ _ _) hm
      · exact h3 c blk (by rw [upd_ne _ _ e]; exact hc) hm
    · by_cases e : c = b
      · subst e
        rw [upd_same] at hc; injection hc with hc; subst hc
        exact h3 c k hb hm
      · rw [upd_ne _ _ e] at hc; exact h3 c blk hc hm
  have henv : envOf X io (upd μ b (some { k with es := [r'] })) w = envOf X io μ w := by
    unfold envOf; rw [him]
  refine ⟨⟨fun c blk hc => ?_, fun c c' blk blk' p h1 h2 hm h3 h4 => ?_, hM.lt, fun c blk p hc hp => ?_, hM.xlt⟩, henv⟩
  · rw [henv]
    by_cases e : c = b
    · subst e
      rw [upd_same] at hc; injection hc with hc; subst hc
      obtain ⟨o1, o2, o3⟩ := hM.ok c k hb
      rw [he] at o1 o2 o3
      refine ⟨fun e' he' => ?_, by simpa using o2, ?_⟩
      · simp only [List.mem_singleton] at he'
        subst he'
        rw [hl]; exact o1 r (by simp)
      · rcases o3 with ⟨_, h⟩ | ⟨p, cur, q1, q2, q3, q4, q5⟩
        · cases h
        · refine .inr ⟨p, cur, q1, q2, by simpa using q3, q4, fun i j x hx => ?_⟩
          -- the cells' values
          have hlen : r.length = k.sz := o1 r (by simp)
          have hcur : k.sz ≤ cur.size := by simpa using q3
          have hus : Rels (envOf X io μ w) r ((cur.toList).take k.sz) := by
            refine ⟨by simp [hlen]; omega, fun j x u hx hu => ?_⟩
            obtain ⟨u', hu', _, hrel⟩ := q5 0 j x (by simp [cellAt, hx])
            have hj : j < k.sz := by rw [← hlen]; exact (List.getElem?_eq_some_iff.1 hx).1
            rw [List.getElem?_take_of_lt hj] at hu
            simp only [Nat.zero_mul, Nat.zero_add] at hu'
            have : u = u' := by
              have h1 : cur.toList[j]? = some u' := by simpa using hu'
              rw [h1] at hu; injection hu with hu; exact hu.symm
            subst this; exact hrel
          have hus' := hr _ hus
          have hi : i = 0 := by
            unfold cellAt at hx
            cases i with
            | zero => rfl
            | succ i => simp at hx
          subst hi
          have hx' : r'[j]? = some x := by simpa [cellAt] using hx
          have hj : j < k.sz := by rw [← hlen, ← hl]; exact (List.getElem?_eq_some_iff.1 hx').1
          obtain ⟨u, hu, hone, _⟩ := q5 0 j (r[j]'(by rw [hlen]; exact hj)) (by simp [cellAt, hlen, hj])
          refine ⟨u, hu, hone, hus'.2 j x u hx' ?_⟩
          rw [List.getElem?_take_of_lt hj]
          simpa using hu
    · rw [upd_ne _ _ e] at hc; exact hM.ok c blk hc
  · have g1 : ∃ bk, μ c = some bk ∧ bk.mu = true := by
      by_cases e : c = b
      · subst e; rw [upd_same] at h1; injection h1 with h1; subst h1; exact ⟨k, hb, hm⟩
      · rw [upd_ne _ _ e] at h1; exact ⟨blk, h1, hm⟩
    have g2 : ∃ bk, μ c' = some bk := by
      by_cases e : c' = b
      · subst e; exact ⟨k, hb⟩
      · rw [upd_ne _ _ e] at h2; exact ⟨blk', h2⟩
    obtain ⟨bk, g1, g1m⟩ := g1
    obtain ⟨bk', g2⟩ := g2
    exact hM.inj c c' bk bk' p g1 g2 g1m h3 h4
  · by_cases e : c = b
    · subst e; exact hM.notX c k p hb hp
    · rw [upd_ne _ _ e] at hc; exact hM.notX c blk p hc hp

theorem weak_recell {S : St} {b : Nat} {k : Blk} (hb : getM S.M b = some k) {r r' : List AV} (he : k.es = [r]) (hl : r'.length = r.length)
    (hr : ∀ F io a w, Conc F io S a w → ∀ us, Rels (envOf F.X io (getM S.M) w) r us → Rels (envOf F.X io (getM S.M) w) r' us) : Weak S { S with M := (b, { k with es := [r'] }) :: S.M } := fun F io a w hC => by
  obtain ⟨h1, h2⟩ := hC.c.mem.recell hb he hl (hr F io a w hC)
  rw [← getM_upd] at h1 h2
  refine ⟨io, ⟨h1, fun t => by rw [h2]; exact hC.c.tmps t, hC.c.size, hC.c.defers, hC.c.fresh, hC.c.heap, fun c blk p hc hm => ?_, hC.c.pre, hC.c.top, hC.c.free⟩, hC.low, hC.outN, hC.n4⟩
  simp only [getM] at hc
  split at hc
  · rename_i e; subst e; injection hc with hc; subst hc
    exact hC.c.own b k p hb hm
  · exact hC.c.own c blk p hc hm

/-- Rows of a variable frozen: its cells read as slices. -/
theorem weak_vw {S : St} {b : Nat} {k : Blk} (l : List (Nat × Blk)) (hl : ∀ c k, (c, k) ∈ l → getM S.M c = some k) (hn : b ∉ l.map Prod.fst) (hb : getM S.M b = some k) {r r' : List AV} (he : k.es = [r]) (hv : VLs1 (fzM S.M (l.map Prod.fst)) r r') :
    Weak S { S with M := (b, { k with es := [r'] }) :: fzL S.M l } := by
  have e1 := fzL_eq S.M l hl
  refine weak_trans (B := { S with M := fzL S.M l }) (fun F io a w hC => ?_) (weak_recell (S := { S with M := fzL S.M l }) (b := b) (k := k) ?_ he ?_ ?_)
  · have := weak_freeze (S := S) (l.map Prod.fst) F io a w hC
    obtain ⟨io', h⟩ := this
    refine ⟨io', ?_⟩
    have e2 : getM (wrM S.M (frzW (getM S.M) (l.map Prod.fst))) = getM (fzL S.M l) := by rw [getM_wr, e1]; rfl
    have hc := h.c
    simp only at hc
    rw [e2] at hc
    exact ⟨hc, h.low, h.outN, h.n4⟩
  · show getM (fzL S.M l) b = some k
    rw [e1]
    unfold fzM
    rw [frz_app, if_neg hn]; exact hb
  · have : ∀ {xs ys : List AV}, VLs1 (fzM S.M (l.map Prod.fst)) xs ys → ys.length = xs.length := fun h => by
      induction h with
      | nil => rfl
      | cons _ _ ih => simp [ih]
    exact this hv
  · intro F io a w hC us hus
    have hm := hC.c.mem
    simp only at hm hus ⊢
    rw [e1] at hm hus ⊢
    exact hv.rels hm hus

/-- A row of a variable gets a new name, in its cells too. -/
def bxF (d box : Nat) : List Nat → Nat → List (Nat × AV) → List (Nat × Blk) → (Nat → List (Nat × AV) → List (Nat × Blk) → Prop) → Prop
  | [], n, T, M, K => K n T M
  | c :: r, n, T, M, K => Ob (c ≠ box) (Lk M box fun kb => match kb with
    | ⟨mu, ty, sz, es, cap⟩ => match es with
      | [row] => Lk M c fun kc => match kc with
        | ⟨mu', ty', sz', es', cap'⟩ => renTF c (nm d n) T fun T' => renLF c (nm d n) row fun row' => frcN (n + 1) fun n' =>
          bxF d box r n' T' ((box, ⟨mu, ty, sz, [row'], cap⟩) :: (nm d n, ⟨mu', ty', sz', es', cap'⟩) :: delM M c) K
      | _ => False)

theorem weak_eqM {T : List (Nat × AV)} {M M' : List (Nat × Blk)} {d n : Nat} (h : getM M = getM M') : Weak ⟨T, M, d, n⟩ ⟨T, M', d, n⟩ := fun F io a w hC => by
  refine ⟨io, ?_, hC.low, hC.outN, hC.n4⟩
  have := hC.c
  simp only at this ⊢
  rw [h] at this; exact this

/-- A block gets a new name: with the names' places told. -/
theorem conc_move {S : St} {b : Nat} {blk : Blk} (hb : getM S.M b = some blk) {F : Fr} {io : Nat → Option (Option Nat)} {a : Act} {w : World} (hC : Conc F io S a w) :
    nm S.d S.nx ≠ b ∧ getM S.M (nm S.d S.nx) = none ∧ Conc F (upd io (nm S.d S.nx) (io b)) { S with T := mapT (ren b (nm S.d S.nx)) S.T, M := (nm S.d S.nx, blk) :: delM S.M b, nx := S.nx + 1 } a w := by
  have hfree : io (nm S.d S.nx) = none := hC.c.fresh _ (.inr ⟨S.nx, Nat.le_refl _, nbr_self _⟩)
  have hs := step_rename hC.c.mem hfree (hC.c.mem.unused hfree) hb
  have e : upd (upd (getM S.M) b none) (nm S.d S.nx) (some blk) = getM ((nm S.d S.nx, blk) :: delM S.M b) := by
    rw [getM_upd]; congr 1
    funext c; rw [getM_del]; rfl
  rw [e] at hs
  have hne : nm S.d S.nx ≠ b := fun e => by rw [e] at hfree; rw [hC.c.mem.unused hfree] at hb; cases hb
  have hA := hs.toA hC.c.mem (A := fun x => x = nm S.d S.nx) rfl
  refine ⟨hne, hC.c.mem.unused hfree, hC.c.step hA (fun t => ?_) rfl rfl (fun x h1 => ⟨?_, fun h3 => ?_⟩) (fun x hx => ?_), hC.low, hC.outN, hC.n4⟩
  · show Rel _ (getT (mapT (ren b (nm S.d S.nx)) S.T) t) _
    rw [getT_map rfl]
    refine ren_rel ?_ _ _ ((hC.c.tmps t).mono hs.le)
    show upd io _ _ _ = upd io _ _ _
    rw [upd_same, upd_ne]
    exact Ne.symm hne
  · rcases h1 with h1 | ⟨k, h4, h5⟩
    · exact .inl h1
    · exact .inr ⟨k, by simp only at h4; omega, h5⟩
  · subst h3
    rcases h1 with h1 | ⟨k, h4, h5⟩
    · exact gar_of hC.n4 hC.outN h1 (gar_nm.2 hC.low)
    · have := (nbr_nm (nbr_self _) h5).2
      simp only at h4
      omega
  · subst hx; exact gar_nm.2 hC.low

theorem weak_box {T : List (Nat × AV)} {M : List (Nat × Blk)} {d n c box : Nat} {kb kc : Blk} {row : List AV} (hne : c ≠ box) (hk : getM M box = some kb) (he : kb.es = [row]) (hkc : getM M c = some kc) :
    Weak ⟨T, M, d, n⟩ ⟨mapT (ren c (nm d n)) T, (box, { kb with es := [row.map (ren1 c (nm d n))] }) :: (nm d n, kc) :: delM M c, d, n + 1⟩ := fun F io a w hC => by
  obtain ⟨h1, h2, h3⟩ := conc_move hkc hC
  simp only at h1 h2 h3
  have hb2 : getM ((nm d n, kc) :: delM M c) box = some kb := by
    simp only [getM]
    rw [if_neg (fun e => by rw [e, hk] at h2; cases h2), getM_del, if_neg (Ne.symm hne)]
    exact hk
  have hm := h3.c.mem
  simp only at hm
  obtain ⟨g1, g2⟩ := hm.recell hb2 (r := row) (r' := row.map (ren1 c (nm d n))) he (by simp) (fun us hus => ⟨by simp [hus.1], fun j x u hx hu => by
    rw [List.getElem?_map] at hx
    obtain ⟨y, hy, rfl⟩ := Option.map_eq_some_iff.1 hx
    refine ren1_rel ?_ _ _ (hus.2 j y u hy hu)
    show upd io (nm d n) (io c) (nm d n) = upd io (nm d n) (io c) c
    rw [upd_same, upd_ne _ _ (Ne.symm h1)]⟩)
  rw [← getM_upd] at g1 g2
  refine ⟨_, ⟨g1, fun t => by rw [g2]; exact h3.c.tmps t, h3.c.size, h3.c.defers, h3.c.fresh, h3.c.heap, fun x blk p hc hmu => ?_, h3.c.pre, h3.c.top, h3.c.free⟩, h3.low, h3.outN, h3.n4⟩
  simp only [getM] at hc
  split at hc
  · rename_i e; subst e; injection hc with hc; subst hc
    exact h3.c.own box kb p hb2 hmu
  · exact h3.c.own x blk p hc hmu

theorem bxF_sound {d box : Nat} (cs : List Nat) : ∀ {n : Nat} {T : List (Nat × AV)} {M : List (Nat × Blk)} {K : Nat → List (Nat × AV) → List (Nat × Blk) → Prop}, bxF d box cs n T M K →
    ∃ n' T' M', K n' T' M' ∧ Weak ⟨T, M, d, n⟩ ⟨T', M', d, n'⟩ := by
  induction cs with
  | nil => intro n T M K h; exact ⟨n, T, M, h, weak_refl _⟩
  | cons c r ih =>
    intro n T M K h
    obtain ⟨hne, h⟩ := h
    obtain ⟨⟨mu, ty, sz, es, cap⟩, hk, h⟩ := h.a
    simp only at h
    split at h
    · rename_i row
      obtain ⟨⟨mu', ty', sz', es', cap'⟩, hkc, h⟩ := h.a
      have h := renTF_eq T h
      have h := renLF_eq row h
      rw [frcN_eq] at h
      obtain ⟨n', T', M', k1, k2⟩ := ih h
      exact ⟨n', T', M', k1, weak_trans (weak_box hne hk rfl hkc) k2⟩
    · exact h.elim

/-- On to a loop, with a variable whose rows get new names, in its cells too: those blocks behind it keep the names that are given. -/
theorem Lp.gox {x : CC} {Q : Post} {T : List (Nat × AV)} {M : List (Nat × Blk)} {d nx : Nat} (ks : List Nat) (ex : Nat → List Nat) (box : Nat) (cs bs : List Nat)
    (h : keepF ks T fun T' => ∀ d', d < d' → bxF d' box cs 0 T' M fun n T' M' => exF (ex d') M' [] fun M'' acc => agF d' bs n T' M'' acc fun n T'' M3 => Lp P nt x ⟨T'', M3, d', n⟩ Q) : Lp P nt x ⟨T, M, d, nx⟩ Q := by
  rw [keepF_eq] at h
  refine ⟨SafeL.weak (weak_keep (S := ⟨T, M, d, nx⟩) ks) (SafeL.enter fun d' hd' => ?_)⟩
  obtain ⟨n', T', M', h1, w1⟩ := bxF_sound cs (h d' hd')
  obtain ⟨M'', acc, h2, e1, e2⟩ := exF_sound (ex d') h1 (Mt := M') (fun _ _ h => h) (fun b k h => by simp [getM] at h)
  obtain ⟨n'', T'', acc', g1, g2⟩ := agF_sound bs h2 e1 e2
  exact SafeL.weak w1 (SafeL.weak g2 g1.a)

section
variable {x : CC} {Q : Post} {T : List (Nat × AV)} {M : List (Nat × Blk)} {d n c c2 box : Nat} {kb kc kc2 : Blk} {r r' : List AV}
/-- A variable's rows frozen, ahead of a loop. -/
theorem Lp.vw1 (r : List AV) (hv : VLs1 (fzM M [c]) r r') (hb : Lk M box (fun k => k = kb)) (he : kb.es = [r]) (hc : Lk M c (fun k => k = kc)) (hn : box ≠ c)
    (h : Lp P nt x ⟨T, (box, { kb with es := [r'] }) :: (c, { kc with mu := false }) :: M, d, n⟩ Q) : Lp P nt x ⟨T, M, d, n⟩ Q :=
  ⟨SafeL.weak (weak_vw (S := ⟨T, M, d, n⟩) [(c, kc)] (fun c' k' hm => by
    simp only [List.mem_singleton, Prod.mk.injEq] at hm
    obtain ⟨rfl, rfl⟩ := hm
    exact hc.get) (by simpa using hn) hb.get he hv) h.a⟩
theorem Lp.vw2 (r : List AV) (hv : VLs1 (fzM M [c, c2]) r r') (hb : Lk M box (fun k => k = kb)) (he : kb.es = [r]) (hc : Lk M c (fun k => k = kc)) (hc2 : Lk M c2 (fun k => k = kc2)) (hn : box ≠ c) (hn2 : box ≠ c2)
    (h : Lp P nt x ⟨T, (box, { kb with es := [r'] }) :: (c, { kc with mu := false }) :: (c2, { kc2 with mu := false }) :: M, d, n⟩ Q) : Lp P nt x ⟨T, M, d, n⟩ Q :=
  ⟨SafeL.weak (weak_vw (S := ⟨T, M, d, n⟩) [(c, kc), (c2, kc2)] (fun c' k' hm => by
    simp only [List.mem_cons, Prod.mk.injEq, List.not_mem_nil, or_false] at hm
    rcases hm with ⟨rfl, rfl⟩ | ⟨rfl, rfl⟩
    · exact hc.get
    · exact hc2.get) (by simp [hn, hn2]) hb.get he hv) h.a⟩
end

section
variable {N k : Nat} {M : List (Nat × Blk)} {args args' : List AV} {v : AV} {K : AV → List (Nat × Blk) → Wr → List Nat → Prop}
/-- One block frozen, one written: what is written is told. -/
theorem Cl.fz1w {c b : Nat} {kc blk blk' : Blk} (hS : FS P N k args' [(b, blk)] v [(b, some blk')]) (hv : VLs2 (fzM M [c]) args args') (hc : Lk M c (fun k' => k' = kc)) (hb : Lk M b (fun k' => k' = blk)) (hn : b ≠ c) (h : K v ((b, blk') :: (c, { kc with mu := false }) :: M) [(c, some { kc with mu := false }), (b, some blk')] ([c] ++ (b :: args.flatMap blks))) : Cl P N k args M K := by
  refine Cl.fz1u hS hv hc hb hn ?_
  have : frzW (getM M) [c] = [(c, some { kc with mu := false })] := by simp [frzW, hc.get]
  rw [this]; exact h
end

end Go.Proofs.Ytneoeegpceompaa.AM

/-
The abstract machine, part 29: a block lent to a callee that only reads.
-/
namespace Go.Proofs.Ytneoeegpceompaa.AM
open Go

variable {P : Program}

theorem preMu_one {b : Nat} {blk : Blk} {c : Nat} {k : Blk} (h : preMu [(b, blk)] c = some k) : c = b ∧ k = blk := by
  simp only [preMu, app, List.map_cons, List.map_nil, upd] at h
  split at h
  · rename_i e; injection h with h; exact ⟨e, h.symm⟩
  · cases h
theorem preMu_self {b : Nat} {blk : Blk} : preMu [(b, blk)] b = some blk := by simp [preMu, app, upd]

/-- A block lent: the callee sees it as one that nobody writes, and hands back a value without references. -/
theorem FS.borrow {N k b : Nat} {blk : Blk} {args args' : List AV} {x : Value} (hv : VLs2 (fzM [(b, blk)] [b]) args args') (h : FS P N k args' [] (.v x) []) : FS P N k args [(b, blk)] (.v x) [(b, some blk)] := by
  refine ⟨h.call, fun X io w vs D hM hR h4 hN hG hnG => ?_⟩
  have epre : preMu [(b, blk)] = getM [(b, blk)] := by
    funext c
    simp only [preMu, app, List.map_cons, List.map_nil, upd, getM]
    by_cases e : c = b
    · subst e; simp
    · rw [if_neg e, if_neg (Ne.symm e)]
  have epost : app (preMu [(b, blk)]) [(b, some blk)] = preMu [(b, blk)] := by
    funext c
    simp only [preMu, app, List.map_cons, List.map_nil, upd]
    split <;> rfl
  have hs := frz_step N [b] hM
  have hR3 : Rels (envOf X io (app (preMu [(b, blk)]) (frzW (preMu [(b, blk)]) [b])) w) args' vs := by
    have e : app (preMu [(b, blk)]) (frzW (preMu [(b, blk)]) [b]) = fzM [(b, blk)] [b] := by rw [epre]; rfl
    have hm := hs.mem
    have hR2 := hR.mono hs.le
    rw [e] at hm hR2 ⊢
    exact hv.rels hm hR2
  obtain ⟨le0, hM0⟩ := hs.mem.sub (μ' := preMu []) (fun c k hk => by cases hk)
  refine (h.spec X io w vs D hM0 (hR3.mono le0) h4 hN hG hnG).mono fun e w' ⟨v, io', he, hst, hrel⟩ => ?_
  have keep : ∀ k, k < w.heap.size → w'.heap[k]? = w.heap[k]? := fun k hk => hst.keep k hk fun c blk' hb => by cases hb
  have hio : io' b = io b := by
    cases hc : io b with
    | some y => exact hst.ios b y hc
    | none => have := hM.unused hc; rw [preMu_self] at this; cases this
  have own : ∀ c blk' k, preMu [(b, blk)] c = some blk' → blk'.mu = true → io' c = some (some k) → (∃ b0 blk0, preMu [(b, blk)] b0 = some blk0 ∧ blk0.mu = true ∧ io b0 = some (some k)) ∨ w.heap.size ≤ k := fun c blk' k hc hm hk => by
    obtain ⟨rfl, rfl⟩ := preMu_one hc
    rw [hio] at hk
    exact .inl ⟨c, blk', hc, hm, hk⟩
  have le := le_of (X := X) (μ := preMu [(b, blk)]) (μ' := preMu [(b, blk)]) hst.ios hst.size (fun k hk _ => keep k hk) hst.shape own
  rw [epost]
  refine ⟨v, io', he, ⟨⟨fun c k hk => ?_, fun c c' k k' p h1 h2 _ _ _ => ?_, fun c p hp => hst.mem.lt c p hp, fun c k p hc hp => ?_, hst.mem.xlt⟩, hst.ios, hst.os, hst.tape, hst.output, hst.size, fun k hk _ => keep k hk, hst.shape, own, hst.free, hst.top⟩, ?_⟩
  · exact (hM.ok c k hk).mono le fun p hp => keep p (hM.lt c p hp)
  · rw [(preMu_one h1).1, (preMu_one h2).1]
  · obtain ⟨rfl, rfl⟩ := preMu_one hc
    rw [hio] at hp
    exact hM.notX c k p hc hp
  · cases hrel; exact .v _

/-- One block is handed back to be written on, others frozen. -/
theorem Rt.own1 {N b : Nat} {k : Blk} {M : List (Nat × Blk)} {x r r' : AV} (fz : List Nat) (hv : VL3 (fzM M fz) x r') (hN : ¬ nbr N b) (hb : b ∉ fz) (hk : Lk M b (fun k' => k' = k)) (hr : r = ren b N r') : Rt N (app (preMu []) [(N, some k)]) r x M := by
  have e : app (getM M) (frzW (getM M) fz) b = some k := by
    have := frz_app fz (μ := getM M) (b := b)
    rw [this, if_neg hb]; exact hk.get
  refine ⟨⟨fz, [b], r', hv, ⟨by omega, hN, ⟨k, e⟩, trivial⟩, by rw [hr]; rfl, fun c blk hc => ?_⟩⟩
  simp only [preMu, app, List.map_nil, Go.Proofs.Ytneoeegpceompaa.AM.upd] at hc
  split at hc
  · rename_i e2
    rw [e2]
    simp only [mvMu, Nat.add_zero, Go.Proofs.Ytneoeegpceompaa.AM.upd]
    rw [if_pos trivial, e]; exact hc
  · cases hc

section
variable {N k : Nat} {M : List (Nat × Blk)} {args args' : List AV} {v : AV} {K : AV → List (Nat × Blk) → Wr → List Nat → Prop}
/-- Blocks frozen: what is written is told. -/
theorem Cl.fz1x {c : Nat} {kc : Blk} (hS : FS P N k args' [] v []) (hv : VLs2 (fzM M [c]) args args') (hc : Lk M c (fun k' => k' = kc)) (h : K v ((c, { kc with mu := false }) :: M) [(c, some { kc with mu := false })] ([c] ++ args.flatMap blks)) : Cl P N k args M K := by
  refine Cl.fz1 hS hv hc ?_
  have : frzW (getM M) [c] = [(c, some { kc with mu := false })] := by simp [frzW, hc.get]
  rw [this]; exact h
theorem Cl.fz2w {c c2 : Nat} {kc kc2 : Blk} (hS : FS P N k args' [] v []) (hv : VLs2 (fzM M [c, c2]) args args') (hc : Lk M c (fun k' => k' = kc)) (hc2 : Lk M c2 (fun k' => k' = kc2)) (hn : c2 ≠ c) (h : K v ((c, { kc with mu := false }) :: (c2, { kc2 with mu := false }) :: M) [(c, some { kc with mu := false }), (c2, some { kc2 with mu := false })] ([c, c2] ++ args.flatMap blks)) : Cl P N k args M K := by
  refine Cl.fz2 hS hv hc hc2 ?_
  have : frzW (getM M) [c, c2] = [(c, some { kc with mu := false }), (c2, some { kc2 with mu := false })] := by
    simp [frzW, hc.get, hc2.get, Go.Proofs.Ytneoeegpceompaa.AM.upd, hn]
  rw [this]; exact h
end

end Go.Proofs.Ytneoeegpceompaa.AM

/-
The abstract machine, part 30: a capacity told; two blocks taken, or read; functions that lie outside.
-/
namespace Go.Proofs.Ytneoeegpceompaa.AM
open Go

variable {P : Program} {nt : Nat}

theorem preMu2 {b c : Nat} {kb kc : Blk} {d : Nat} {k : Blk} (h : preMu [(b, kb), (c, kc)] d = some k) : (d = c ∧ k = kc) ∨ (d ≠ c ∧ d = b ∧ k = kb) := by
  simp only [preMu, app, List.map_cons, List.map_nil, upd] at h
  split at h
  · rename_i e; injection h with h; exact .inl ⟨e, h.symm⟩
  · rename_i e
    split at h
    · rename_i e2; injection h with h; exact .inr ⟨e, e2, h.symm⟩
    · cases h
theorem pre2_b {b c : Nat} {kb kc : Blk} (h : b ≠ c) : preMu [(b, kb), (c, kc)] b = some kb := by simp [preMu, app, upd, h]
theorem pre2_c {b c : Nat} {kb kc : Blk} : preMu [(b, kb), (c, kc)] c = some kc := by simp [preMu, app, upd]

section
variable {N k : Nat} {args args' : List AV} {M : List (Nat × Blk)} {K : Cx} {v r x : AV} {b c : Nat} {kb kc : Blk}
/-- Two blocks are taken. -/
theorem Cl.del2 (hS : FS P N k args [(b, kb), (c, kc)] v [(b, none), (c, none)]) (hb : Lk M b (fun k' => k' = kb)) (hc : Lk M c (fun k' => k' = kc)) (h : K v (delM (delM M b) c) [(b, none), (c, none)] ([b, c] ++ args.flatMap blks)) : Cl P N k args M K :=
  ⟨⟨[], [(b, kb), (c, kc)], [(b, none), (c, none)], args, v, delM (delM M b) c, VLs2.refl _, .inl hS, fun d bk hd => by
    rcases preMu2 hd with ⟨rfl, rfl⟩ | ⟨_, rfl, rfl⟩
    · exact hc.get
    · exact hb.get, by
      funext d
      rw [getM_del, getM_del]; rfl, h⟩⟩
/-- Two blocks are read, by a function that lies outside. -/
theorem Cl.ext2 {y : Value} (hS : XSpec P k args [(b, kb), (c, kc)] y) (hb : Lk M b (fun k' => k' = kb)) (hc : Lk M c (fun k' => k' = kc)) (h : K (.v y) M [] ([b, c] ++ args.flatMap blks)) : Cl P N k args M K :=
  ⟨⟨[], [(b, kb), (c, kc)], [], args, .v y, M, VLs2.refl _, .inr ⟨y, rfl, rfl, hS⟩, fun d bk hd => by
    rcases preMu2 hd with ⟨rfl, rfl⟩ | ⟨_, rfl, rfl⟩
    · exact hc.get
    · exact hb.get, rfl, h⟩⟩
/-- Blocks frozen, and nothing left of the caller's own. -/
theorem Rt.fzp {post : Mu} (fz : List Nat) (h : VL3 (fzM M fz) x r) (hp : ∀ b, post b = none) : Rt N post r x M := ⟨⟨fz, [], r, h, trivial, rfl, fun b blk hb => by rw [hp b] at hb; cases hb⟩⟩
theorem gone2 : ∀ d, app (preMu [(b, kb), (c, kc)]) [(b, none), (c, none)] d = none := fun d => by
  simp only [preMu, app, List.map_cons, List.map_nil, upd]
  repeat' split
  all_goals rfl
theorem gone1 : ∀ d, app (preMu [(b, kb)]) [(b, none)] d = none := fun d => by
  simp only [preMu, app, List.map_cons, List.map_nil, upd]
  split <;> rfl
theorem Rt.fz1g2 {e : Nat} (h : VL2 (fzM M [e]) x r) : Rt N (app (preMu [(b, kb), (c, kc)]) [(b, none), (c, none)]) r x M := .fzp [e] (.two h) gone2
theorem Rt.fz1g1 {e : Nat} (h : VL2 (fzM M [e]) x r) : Rt N (app (preMu [(b, kb)]) [(b, none)]) r x M := .fzp [e] (.two h) gone1
end

/-- A function that takes two blocks. -/
theorem Fn.two {k : Nat} {cc : CC} {ks : List RK} {N b c : Nat} {kb kc : Blk} {args : List AV} {r : AV} {post : Wr} (h : Fn P k cc nt ks) (hn2 : args.length ≤ nt) (hne : b ≠ c)
    (hs : ∀ D, (∀ d j, D ≤ d → ¬ nbr N (nm d j)) → ¬ Gar D b → ¬ Gar D c → argF args 0 fun T => wpC P nt cc ⟨T, [(c, kc), (b, kb)], D, 0⟩ (RetQ N ks (app (preMu [(b, kb), (c, kc)]) post) r)) : FS P N k args [(b, kb), (c, kc)] r post :=
  h.fs hn2 fun D h4 a hp => hs D (fun d j hd => nbr_no a hd h4) (hp b (by rw [pre2_b hne]; simp)) (hp c (by rw [pre2_c]; simp))

/-- A block whose capacity is told. -/
theorem Mem.recap {X : Nat → Prop} {io : Nat → Option (Option Nat)} {μ μ' : Mu} {w : World} (hM : Mem X io μ w) {b : Nat} {k : Blk} {c : Nat} (hb : μ b = some k) (hcap : k.cap = none)
    (hc : ∀ p cur, io b = some (some p) → w.heap[p]? = some (.cells cur k.ty (0, 0)) → cur.size = c * k.sz) (hμ : μ' = upd μ b (some { k with cap := some c })) : Mem X io μ' w ∧ envOf X io μ' w = envOf X io μ w := by
  subst hμ
  have him : imOf X io (upd μ b (some { k with cap := some c })) w = imOf X io μ w := by
    funext x
    unfold imOf
    refine propext ⟨fun ⟨h1, h2, h3⟩ => ⟨h1, h2, fun d blk hd hm => ?_⟩, fun ⟨h1, h2, h3⟩ => ⟨h1, h2, fun d blk hd hm => ?_⟩⟩
    · by_cases e : d = b
      · subst e
        rw [hb] at hd; injection hd with hd; subst hd
        exact h3 d { k with cap := some c } (upd_same _ _ _) hm
      · exact h3 d blk (by rw [upd_ne _ _ e]; exact hd) hm
    · by_cases e : d = b
      · subst e
        rw [upd_same] at hd; injection hd with hd; subst hd
        exact h3 d k hb hm
      · rw [upd_ne _ _ e] at hd; exact h3 d blk hd hm
  have henv : envOf X io (upd μ b (some { k with cap := some c })) w = envOf X io μ w := by unfold envOf; rw [him]
  have sub : ∀ {d blk}, upd μ b (some { k with cap := some c }) d = some blk → ∃ blk0, μ d = some blk0 ∧ blk0.mu = blk.mu := fun {d blk} hd => by
    by_cases e : d = b
    · subst e; rw [upd_same] at hd; injection hd with hd; subst hd; exact ⟨k, hb, rfl⟩
    · rw [upd_ne _ _ e] at hd; exact ⟨blk, hd, rfl⟩
  refine ⟨⟨fun d blk hd => ?_, fun d d' blk blk' p h1 h2 hm h3 h4 => ?_, hM.lt, fun d blk p hd hp => ?_, hM.xlt⟩, henv⟩
  · rw [henv]
    by_cases e : d = b
    · subst e
      rw [upd_same] at hd; injection hd with hd; subst hd
      obtain ⟨o1, o2, o3⟩ := hM.ok d k hb
      refine ⟨o1, o2, ?_⟩
      rcases o3 with h | ⟨p, cur, q1, q2, q3, q4, q5⟩
      · exact .inl h
      · exact .inr ⟨p, cur, q1, q2, q3, fun c' hc' => by injection hc' with hc'; subst hc'; exact hc p cur q1 q2, q5⟩
    · rw [upd_ne _ _ e] at hd; exact hM.ok d blk hd
  · obtain ⟨k0, g0, m0⟩ := sub h1
    obtain ⟨k1, g1, _⟩ := sub h2
    exact hM.inj d d' k0 k1 p g0 g1 (m0.trans hm) h3 h4
  · obtain ⟨k0, g0, _⟩ := sub hd
    exact hM.notX d k0 p g0 hp

/-- A row's capacity told: a contract for whatever capacity is one for an unknown capacity. -/
theorem FS.allcap {N k b sz len : Nat} {mu : Bool} {ty : Nat} {es : List (List AV)} {as : List AV} {rest : List (Nat × Blk)} {r : AV} {post : Wr} (hes : es ≠ []) (hpos : 0 < sz) (hlen : len = es.length) (hmx : es.length ≤ 1000000)
    (hb : preMu ((b, ⟨mu, ty, sz, es, none⟩) :: rest) b = some ⟨mu, ty, sz, es, none⟩) (he : ∀ c, preMu ((b, ⟨mu, ty, sz, es, some c⟩) :: rest) = upd (preMu ((b, ⟨mu, ty, sz, es, none⟩) :: rest)) b (some ⟨mu, ty, sz, es, some c⟩))
    (hp : ∀ c, app (preMu ((b, ⟨mu, ty, sz, es, some c⟩) :: rest)) post = app (preMu ((b, ⟨mu, ty, sz, es, none⟩) :: rest)) post)
    (h : ∀ c, len ≤ c → c ≤ maxLen → FS P N k (.row b sz 0 len :: as) ((b, ⟨mu, ty, sz, es, some c⟩) :: rest) r post) : FS P N k (.row b sz 0 len :: as) ((b, ⟨mu, ty, sz, es, none⟩) :: rest) r post := by
  refine ⟨(h len (Nat.le_refl _) (by unfold maxLen; omega)).call, fun X io w vs D hM hR h4 hN hG hnG => ?_⟩
  obtain ⟨u, us, rfl, h1, h2⟩ := hR.cons_inv
  obtain ⟨o1, o2, o3⟩ := hM.ok b _ hb
  rcases o3 with ⟨_, q⟩ | ⟨p, cur, q1, q2, q3, q4, q5⟩
  · exact absurd q hes
  · have hc : ∃ c, len ≤ c ∧ c ≤ maxLen ∧ cur.size = c * sz := by
      cases h1 with
      | rowz _ _ A hz => rw [q1] at hz; cases hz
      | row _ _ _ _ k' c A cur' ty' hk' hA hcur hcc hlc hmc =>
        have e1 : k' = p := by have := hk'.symm.trans q1; simpa using this
        subst e1
        rw [q2] at hcur
        injection hcur with hcur
        injection hcur with hcur _ _
        subst hcur
        exact ⟨c, hlc, by omega, by rw [← hcc, Nat.zero_add]⟩
    obtain ⟨c, c1, c2, c3⟩ := hc
    obtain ⟨g1, g2⟩ := hM.recap (c := c) (μ' := preMu ((b, ⟨mu, ty, sz, es, some c⟩) :: rest)) hb rfl (fun p' cur' e1 e2 => by
      have e3 : p' = p := by have := e1.symm.trans q1; simpa using this
      subst e3
      rw [show w.heap[p']? = _ from q2] at e2
      injection e2 with e2
      injection e2 with e2 _ _
      subst e2
      exact c3) (he c)
    have sub : ∀ {d blk}, preMu ((b, ⟨mu, ty, sz, es, some c⟩) :: rest) d = some blk → ∃ blk0, preMu ((b, ⟨mu, ty, sz, es, none⟩) :: rest) d = some blk0 ∧ blk0.mu = blk.mu := fun {d blk} hd => by
      rw [he c] at hd
      by_cases e : d = b
      · subst e; rw [upd_same] at hd; injection hd with hd; subst hd; exact ⟨_, hb, rfl⟩
      · rw [upd_ne _ _ e] at hd; exact ⟨blk, hd, rfl⟩
    refine ((h c c1 c2).spec X io w (u :: us) D g1 (by rw [g2]; exact .cons h1 h2) h4 hN hG hnG).mono fun e w' ⟨v, io', he', hst, hrel⟩ => ?_
    rw [hp c] at hst hrel
    refine ⟨v, io', he', ⟨hst.mem, hst.ios, hst.os, hst.tape, hst.output, hst.size, fun k hk hno => hst.keep k hk fun d blk hd hm => ?_, hst.shape, fun d blk k hd hm hk => ?_, hst.free, hst.top⟩, hrel⟩
    · obtain ⟨blk0, e1, e2⟩ := sub hd
      exact hno d blk0 e1 (e2.trans hm)
    · rcases hst.own d blk k hd hm hk with ⟨b0, blk0, e1, e2, e3⟩ | e1
      · obtain ⟨blk1, f1, f2⟩ := sub e1
        exact .inl ⟨b0, blk1, f1, f2.trans e2, e3⟩
      · exact .inr e1

/-- Two rows of the caller's own lie apart. -/
theorem XSpec.overlaps {k tS tR e size sz len m off vb b : Nat} {kv kb : Blk} (hrun : ∀ (args : Array Value) (w : World), (callFunc k args).run P w = ((Extern.SlicesOverlaps.overlaps #[tS, tS] #[tR] args).run P w).andThen fun v w' => .ok (.value v) w')
    (ht : P.underlying tS = some (.slice e)) (hz : ∀ w, (Go.sizeOf e).run P w = .ok size w) (hne : vb ≠ b) (hmu : kv.mu = true) (hv : kv.es ≠ []) (hb : kb.es ≠ []) (hm : 0 < m) (hl : 0 < len) (hbs : kb.sz ≠ 0) (hvs : kv.sz ≠ 0) (hbe : ∀ r ∈ kb.es, r.length = kb.sz) :
    XSpec P k [.row vb sz 0 m, .row b sz off len] [(b, kb), (vb, kv)] (.bool false) := fun X io w vs hM hR => by
  obtain ⟨u1, us1, rfl, h1, hr1⟩ := hR.cons_inv
  obtain ⟨u2, us2, rfl, h2, hr2⟩ := hr1.cons_inv
  obtain rfl := hr2.nil_inv
  have e1 : preMu [(b, kb), (vb, kv)] vb = some kv := pre2_c
  have e2 : preMu [(b, kb), (vb, kv)] b = some kb := pre2_b (Ne.symm hne)
  obtain ⟨_, _, o3⟩ := hM.ok vb kv e1
  obtain ⟨p1, _, p3⟩ := hM.ok b kb e2
  rcases o3 with ⟨_, q⟩ | ⟨p, cur, q1, q2, q3, q4, q5⟩
  · exact absurd q hv
  rcases p3 with ⟨_, q⟩ | ⟨p', cur', r1, r2, r3, r4, r5⟩
  · exact absurd q hb
  have hpp : p ≠ p' := fun e => by
    subst e
    exact hne (hM.inj vb b kv kb p e1 e2 hmu q1 r1)
  have row : ∀ {d q off n u}, (envOf X io (preMu [(b, kb), (vb, kv)]) w).io d = some (some q) → 0 < n → Rel (envOf X io (preMu [(b, kb), (vb, kv)]) w) (.row d sz off n) u → ∃ c, u = .slice (some ⟨q, off * sz, none⟩) n c := fun {d q off n u} hd hn hr => by
    cases hr with
    | rowz _ _ A hz => omega
    | row _ _ _ _ k' c A cur ty hk' hA hcur hcc hlc hmc =>
      have e1 : k' = q := by have := hk'.symm.trans hd; simpa using this
      subst e1
      exact ⟨c, by rw [hA (by omega)]⟩
  obtain ⟨c1, rfl⟩ := row q1 hm h1
  obtain ⟨c2, rfl⟩ := row r1 hl h2
  have q2' : w.heap[p]? = some (.cells cur kv.ty (0, 0)) := q2
  have r2' : w.heap[p']? = some (.cells cur' kb.ty (0, 0)) := r2
  have hs : 0 < cur'.size := by
    have : 0 < kb.es.length * kb.sz := Nat.mul_pos (List.length_pos_iff.2 hb) (by omega)
    omega
  rw [hrun]
  rw [Lib.run_overlaps_apart w tS tR e ht size hz ⟨p, 0 * sz, none⟩ ⟨p', off * sz, none⟩ m c1 len c2 hpp kv.ty kb.ty cur.size cur'.size (by simp [World.shape?, q2']) (by simp [World.shape?, r2']) (by omega) (by simp [World.frozen?, q2']) (by simp [World.frozen?, q2'])]
  rfl
end Go.Proofs.Ytneoeegpceompaa.AM

