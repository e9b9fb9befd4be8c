/-
The abstract machine, part 14: what one operation does, and what it looks at.
-/
import Derived.Test.YtneoeegpceompaaM13
namespace Go.Proofs.Ytneoeegpceompaa.AM
open Go

variable {P : Program}

def blks1 : AV → List Nat
  | .row b _ _ _ => [b]
  | .pt b _ _ _ => [b]
  | _ => []
def blks : AV → List Nat
  | .agg cs => cs.flatMap blks1
  | .fn _ cs => cs.flatMap blks1
  | x => blks1 x

/-- The blocks that an operation reads. -/
def rdCO (g : Nat → AV) : CO → List Nat
  | .load _ _ a => blks1 (ev g a)
  | .store _ a _ => blks1 (ev g a)
  | .cap x => blks1 (ev g x)
  | .append _ _ _ s x => blks1 (ev g s) ++ blks1 (ev g x)
  | .copy _ d s => blks1 (ev g d) ++ blks1 (ev g s)
  | _ => []

theorem fillAV_congr {g g' : Nat → AV} (pl : Nat → Option (Nat × Nat)) : ∀ (ps : List (Nat × Operand)) (l : List (Nat × Nat × Operand)) (cells : List AV), places ps pl = some l → (∀ p ∈ ps, ev g p.2 = ev g' p.2) → fillAV g cells l = fillAV g' cells l := by
  intro ps
  induction ps with
  | nil => intro l cells h _; simp only [places, Option.some.injEq] at h; subst h; rfl
  | cons p ps ih =>
    intro l cells h hp
    simp only [places] at h
    split at h
    · rename_i q l' hq hl'
      injection h with h
      subst h
      simp only [fillAV, hp p (by simp)]
      split
      · split
        · exact ih l' _ hl' (fun q hq => hp q (by simp [hq]))
        · rfl
      · rfl
    · cases h

theorem fillRows_congr {g g' : Nat → AV} (sz : Nat) : ∀ (ps : List (Nat × Operand)) (rows : List (List AV)), (∀ p ∈ ps, ev g p.2 = ev g' p.2) → fillRows g sz rows ps = fillRows g' sz rows ps := by
  intro ps
  induction ps with
  | nil => intro rows _; rfl
  | cons p ps ih =>
    intro rows hp
    obtain ⟨i, x⟩ := p
    simp only [fillRows, hp (i, x) (by simp)]
    split
    · split
      · exact ih _ (fun q hq => hp q (by simp [hq]))
      · rfl
    · rfl

theorem bnd_congr {g g' : Nat → AV} {o : Option Operand} (h : ∀ x, o = some x → ev g x = ev g' x) : bnd g o = bnd g' o := by
  cases o with
  | none => rfl
  | some x => simp only [bnd, h x rfl]

theorem compParts_congr {g g' : Nat → AV} {t : Nat} {ps : List (Nat × Operand)} {l : List (Nat × Nat × Operand)} (h : compParts P t ps = some l) (hp : ∀ p ∈ ps, ev g p.2 = ev g' p.2) (cells : List AV) : fillAV g cells l = fillAV g' cells l := by
  unfold compParts at h
  split at h
  · split at h
    · exact fillAV_congr _ ps l cells h hp
    · cases h
  · split at h
    · exact fillAV_congr _ ps l cells h hp
    · cases h
  · cases h

/-- An operation comes to the same where what it looks at is the same. -/
theorem evalCO_g {g g' : Nat → AV} (μ : Mu) (N : Nat) (op : Op) (h : ∀ x ∈ op.operands, ev g x = ev g' x) : evalCO g μ N (compOp P op) = evalCO g' μ N (compOp P op) ∧ rdCO g (compOp P op) = rdCO g' (compOp P op) := by
  have bad : evalCO g μ N .bad = evalCO g' μ N .bad ∧ rdCO g .bad = rdCO g' .bad := ⟨rfl, rfl⟩
  cases op with
  | move x => have h1 := h x (by simp [Op.operands]); simp only [compOp, evalCO, rdCO, h1, and_self]
  | assign x => have h1 := h x (by simp [Op.operands]); simp only [compOp, evalCO, rdCO, h1, and_self]
  | pick c x y =>
    have h1 := h c (by simp [Op.operands]); have h2 := h x (by simp [Op.operands]); have h3 := h y (by simp [Op.operands])
    simp only [compOp, evalCO, rdCO, h1, h2, h3, and_self]
  | alloc e => simp only [compOp]; split <;> exact ⟨rfl, rfl⟩
  | box e x => have h1 := h x (by simp [Op.operands]); simp only [compOp]; split <;> simp only [evalCO, rdCO, h1, and_self]
  | build t ps =>
    simp only [compOp]
    split
    · rename_i z l hz hl _
      have := compParts_congr (P := P) (g := g) (g' := g') hl (fun p hp => h p.2 (by simp only [Op.operands]; simp; exact ⟨p.1, by simpa using hp⟩)) (z.map .v)
      simp only [evalCO, rdCO, this, and_self]
    · exact bad
  | buildSlice t len ps =>
    simp only [compOp]
    split
    · rename_i e n b z ht
      split
      · have := fillRows_congr (g := g) (g' := g') n ps.toList (List.replicate len (z.map .v)) (fun p hp => h p.2 (by simp only [Op.operands]; simp; exact ⟨p.1, by simpa using hp⟩))
        simp only [evalCO, rdCO, this, and_self]
      · exact bad
    · exact bad
  | load t x =>
    have h1 := h x (by simp [Op.operands])
    simp only [compOp]
    split
    · split
      · simp only [evalCO, rdCO, h1, and_self]
      · exact bad
    · exact bad
  | store t x y =>
    have h1 := h x (by simp [Op.operands]); have h2 := h y (by simp [Op.operands])
    simp only [compOp]
    split
    · simp only [evalCO, rdCO, h1, h2, and_self]
    · exact bad
  | nilCheck x => have h1 := h x (by simp [Op.operands]); simp only [compOp, evalCO, rdCO, h1, and_self]
  | binOp op t x y t' =>
    have h1 := h x (by simp [Op.operands]); have h2 := h y (by simp [Op.operands])
    simp only [compOp, compBin]
    (repeat' split) <;> first | exact bad | simp only [evalCO, rdCO, h1, h2, and_self]
  | unOp op t x => have h1 := h x (by simp [Op.operands]); simp only [compOp, evalCO, rdCO, h1, and_self]
  | convert s d x =>
    have h1 := h x (by simp [Op.operands])
    simp only [compOp]
    split
    · simp only [evalCO, rdCO, h1, and_self]
    · exact bad
  | makeFunc fn first caps =>
    simp only [compOp]
    cases fn with
    | func f =>
      simp only
      split
      · rename_i h0
        have : caps.toList.map (ev g) = caps.toList.map (ev g') := List.map_congr_left fun x hx => h x (by simp only [Op.operands]; simp; exact .inr (by simpa using hx))
        simp only [evalCO, rdCO, this, and_self]
      · exact bad
    | _ => exact bad
  | makeSlice t l c =>
    have h1 := h l (by simp [Op.operands]); have h2 := h c (by simp [Op.operands])
    simp only [compOp]
    split
    · simp only [evalCO, rdCO, h1, h2, and_self]
    · exact bad
  | slice t x lo hi mx =>
    have h1 := h x (by simp [Op.operands])
    have h2 : bnd g lo = bnd g' lo := bnd_congr (fun y hy => h y (by simp [Op.operands, hy]))
    have h3 : bnd g hi = bnd g' hi := bnd_congr (fun y hy => h y (by simp [Op.operands, hy]))
    have h4 : bnd g mx = bnd g' mx := bnd_congr (fun y hy => h y (by simp [Op.operands, hy]))
    simp only [compOp]
    split
    · simp only [evalCO, rdCO, h1, h2, h3, h4, and_self]
    · exact bad
  | fieldAddr t x f =>
    have h1 := h x (by simp [Op.operands])
    simp only [compOp]
    (repeat' split) <;> first | exact bad | simp only [evalCO, rdCO, h1, and_self]
  | field t x f =>
    have h1 := h x (by simp [Op.operands])
    simp only [compOp]
    (repeat' split) <;> first | exact bad | simp only [evalCO, rdCO, h1, and_self]
  | indexAddr t x i =>
    have h1 := h x (by simp [Op.operands]); have h2 := h i (by simp [Op.operands])
    simp only [compOp]
    (repeat' split) <;> first | exact bad | simp only [evalCO, rdCO, h1, h2, and_self]
  | index t x i =>
    have h1 := h x (by simp [Op.operands]); have h2 := h i (by simp [Op.operands])
    simp only [compOp]
    (repeat' split) <;> first | exact bad | simp only [evalCO, rdCO, h1, h2, and_self]
  | extract x i => have h1 := h x (by simp [Op.operands]); simp only [compOp, evalCO, rdCO, h1, and_self]
  | call c =>
    obtain ⟨callee, args, ats⟩ := c
    have ha : ∀ x ∈ args.toList, ev g x = ev g' x := fun x hx => h x (by simp only [Op.operands, Call.operands]; simp; exact .inr (by simpa using hx))
    simp only [compOp, compCall]
    split
    · exact ⟨rfl, rfl⟩
    · rename_i x t hx ht
      have h1 := ha x (by rw [show args.toList = _ from hx]; simp)
      (repeat' split) <;> first | exact bad | simp only [evalCO, rdCO, h1, and_self]
    · rename_i x t hx ht
      have h1 := ha x (by rw [show args.toList = _ from hx]; simp)
      (repeat' split) <;> first | exact bad | simp only [evalCO, rdCO, h1, and_self]
    · rename_i x y hx
      have h1 := ha x (by rw [show args.toList = _ from hx]; simp)
      have h2 := ha y (by rw [show args.toList = _ from hx]; simp)
      simp only [evalCO, rdCO, h1, h2, and_self]
    · rename_i x y hx
      have h1 := ha x (by rw [show args.toList = _ from hx]; simp)
      have h2 := ha y (by rw [show args.toList = _ from hx]; simp)
      simp only [evalCO, rdCO, h1, h2, and_self]
    · rename_i s x t u hx ht
      have h1 := ha s (by rw [show args.toList = _ from hx]; simp)
      have h2 := ha x (by rw [show args.toList = _ from hx]; simp)
      (repeat' split) <;> first | exact bad | (simp only [evalCO, rdCO, h1, h2, and_self]; done) | exact ⟨rfl, rfl⟩
    · rename_i s x t u hx ht
      have h1 := ha s (by rw [show args.toList = _ from hx]; simp)
      have h2 := ha x (by rw [show args.toList = _ from hx]; simp)
      (repeat' split) <;> first | exact bad | simp only [evalCO, rdCO, h1, h2, and_self]
    · (repeat' split) <;> exact ⟨rfl, rfl⟩
    · exact bad
  | _ => exact bad

open Classical in
theorem appendAV_v {μ : Mu} (N e sz : Nat) (x : Value) (xs : List (List AV)) : appendAV μ N e sz (.v x) xs = if x = .slice none 0 0 then appendAV μ N e sz .z0 xs else none := by
  unfold appendAV
  split
  · rename_i h; cases h
  · rename_i h; injection h with h; subst h; rw [if_pos rfl]
  · rename_i h; cases h
  · rename_i h1 h2 h3
    rw [if_neg (fun e => h2 (by rw [e]))]

theorem rowsAV_congr {μ μ' : Mu} (sz : Nat) (x : AV) (h : ∀ b ∈ blks1 x, μ b = μ' b) : rowsAV μ sz x = rowsAV μ' sz x := by
  cases x with
  | row b s off len => simp only [rowsAV, h b (by simp [blks1])]
  | v x =>
    unfold rowsAV
    split <;> first | rfl | (rename_i h; cases h)
  | _ => rfl

theorem loadAV_congr {μ μ' : Mu} (ag : Bool) (n : Nat) (x : AV) (h : ∀ b ∈ blks1 x, μ b = μ' b) : loadAV μ ag n x = loadAV μ' ag n x := by
  cases x with
  | pt b s i o => simp only [loadAV, h b (by simp [blks1])]
  | _ => rfl

theorem storeAV_congr {μ μ' : Mu} (n : Nat) (x y : AV) (h : ∀ b ∈ blks1 x, μ b = μ' b) : storeAV μ n x y = storeAV μ' n x y := by
  cases x with
  | pt b s i o => simp only [storeAV, h b (by simp [blks1])]
  | _ => rfl

theorem appendAV_congr {μ μ' : Mu} (N : Nat) (e sz : Nat) (x : AV) (xs : List (List AV)) (h : ∀ b ∈ blks1 x, μ b = μ' b) : appendAV μ N e sz x xs = appendAV μ' N e sz x xs := by
  cases x with
  | row b s off len => simp only [appendAV, h b (by simp [blks1])]
  | v x => rw [appendAV_v, appendAV_v]; rfl
  | _ => rfl

/-- .. and where the blocks that it reads are the same. -/
theorem evalCO_m {μ μ' : Mu} (g : Nat → AV) (N : Nat) (co : CO) (h : ∀ b ∈ rdCO g co, μ b = μ' b) : evalCO g μ N co = evalCO g μ' N co := by
  cases co with
  | load ag n a => simp only [evalCO]; rw [loadAV_congr ag n _ h]
  | store n a x => simp only [evalCO]; rw [storeAV_congr n _ _ h]
  | cap x =>
    simp only [evalCO]
    simp only [rdCO] at h
    generalize ev g x = p at h ⊢
    cases p with
    | row b s off len => simp only [h b (by simp [blks1])]
    | v x => split <;> first | rfl | (rename_i h; cases h; done) | skip
    | _ => rfl
  | append e n b s x =>
    simp only [evalCO]
    rw [rowsAV_congr n _ (fun b hb => h b (by simp only [rdCO]; exact List.mem_append_right _ hb))]
    split
    · exact appendAV_congr N e n _ _ (fun b hb => h b (by simp only [rdCO]; exact List.mem_append_left _ hb))
    · rfl
  | copy n d s =>
    simp only [evalCO]
    rw [rowsAV_congr n _ (fun b hb => h b (by simp only [rdCO]; exact List.mem_append_right _ hb))]
    have h2 : ∀ b ∈ blks1 (ev g d), μ b = μ' b := fun b hb => h b (by simp only [rdCO]; exact List.mem_append_left _ hb)
    generalize ev g d = p at h2 ⊢
    cases p with
    | row b s off len =>
      have h3 := h2 b (by simp [blks1])
      split <;> first | rfl | skip
      rename_i h4 _
      injection h4 with h4
      subst h4
      rw [h3]
    | _ => rfl
  | _ => rfl

theorem VL1.congr {μ μ' : Mu} {x y : AV} (h : ∀ b ∈ blks1 x, μ b = μ' b) (k : VL1 μ x y) : VL1 μ' x y := by
  cases k with
  | refl _ => exact .refl _
  | any _ => exact .any _
  | fz b sz off len k h1 hm hs hl => exact .fz b sz off len k (by rw [← h b (by simp [blks1])]; exact h1) hm hs hl
  | pfz b sz i o k r h1 hm hs hr => exact .pfz b sz i o k r (by rw [← h b (by simp [blks1])]; exact h1) hm hs hr
  | nil sz => exact .nil sz
  | z0 sz => exact .z0 sz
  | r0 b sz sz' off => exact .r0 b sz sz' off
  | s0 sz sz' => exact .s0 sz sz'

theorem VLs1.congr {μ μ' : Mu} {xs ys : List AV} (h : ∀ b ∈ xs.flatMap blks1, μ b = μ' b) (k : VLs1 μ xs ys) : VLs1 μ' xs ys := by
  induction k with
  | nil => exact .nil
  | cons k _ ih => exact .cons (k.congr fun b hb => h b (by simp [hb])) (ih fun b hb => h b (by rw [List.flatMap_cons]; exact List.mem_append_right _ hb))

theorem VL2.congr {μ μ' : Mu} {x y : AV} (h : ∀ b ∈ blks x, μ b = μ' b) (k : VL2 μ x y) : VL2 μ' x y := by
  cases k with
  | one k =>
    by_cases hx : blks x = blks1 x
    · exact .one (k.congr fun b hb => h b (by rw [hx]; exact hb))
    · cases x with
      | agg cs => exact .one (k.congr fun b hb => by simp [blks1] at hb)
      | fn f cs => exact .one (k.congr fun b hb => by simp [blks1] at hb)
      | _ => exact absurd rfl hx
  | agg k => exact .agg (k.congr h)
  | fn k => exact .fn (k.congr h)

theorem VLs2.congr {μ μ' : Mu} {xs ys : List AV} (h : ∀ b ∈ xs.flatMap blks, μ b = μ' b) (k : VLs2 μ xs ys) : VLs2 μ' xs ys := by
  induction k with
  | nil => exact .nil
  | cons k _ ih => exact .cons (k.congr fun b hb => h b (by simp [hb])) (ih fun b hb => h b (by rw [List.flatMap_cons]; exact List.mem_append_right _ hb))

theorem frzW_congr (fz : List Nat) : ∀ {μ μ' : Mu}, (∀ b ∈ fz, μ b = μ' b) → frzW μ fz = frzW μ' fz := by
  induction fz with
  | nil => intro μ μ' _; rfl
  | cons c r ih =>
    intro μ μ' h
    simp only [frzW]
    rw [h c (by simp)]
    split
    · rename_i k hk
      congr 1
      exact ih (fun b hb => by
        by_cases e : b = c
        · subst e; simp [upd_same]
        · rw [upd_ne _ _ e, upd_ne _ _ e]; exact h b (by simp [hb]))
    · exact ih (fun b hb => h b (by simp [hb]))

theorem pureR_nil {y : Option AV} {x : AV} {wr : Wr} (h : pureR y = some (x, wr)) : wr = [] := (pureR_inv h).2
theorem pureV_nil {y : Option Value} {x : AV} {wr : Wr} (h : pureV y = some (x, wr)) : wr = [] := by obtain ⟨_, _, _, h2⟩ := pureV_inv h; exact h2

/-- An operation that touches no memory. -/
theorem touches_no {g : Nat → AV} {μ : Mu} {N : Nat} {co : CO} (ht : co.touches = false) {v : AV} {wr : Wr} (h : evalCO g μ N co = some (v, wr)) : wr = [] ∧ rdCO g co = [] := by
  cases co with
  | load => cases ht
  | store => cases ht
  | call => cases ht
  | append => cases ht
  | appendz => cases ht
  | copy => cases ht
  | clear => cases ht
  | alloc => cases ht
  | box => cases ht
  | bslice => cases ht
  | mksl => cases ht
  | cap => cases ht
  | mov x => exact ⟨pureR_nil h, rfl⟩
  | build z ps => exact ⟨pureR_nil h, rfl⟩
  | mkfn f cap => exact ⟨pureR_nil h, rfl⟩
  | slice => exact ⟨pureR_nil h, rfl⟩
  | bin => exact ⟨pureV_nil h, rfl⟩
  | nilcmp => exact ⟨pureV_nil h, rfl⟩
  | un => exact ⟨pureV_nil h, rfl⟩
  | len => exact ⟨pureV_nil h, rfl⟩
  | bad => cases h
  | pick c a b => simp only [evalCO] at h; split at h <;> first | exact ⟨pureR_nil h, rfl⟩ | cases h
  | nilck x => simp only [evalCO] at h; split at h <;> first | exact ⟨pureR_nil h, rfl⟩ | cases h
  | beq => simp only [evalCO] at h; split at h <;> first | exact ⟨pureV_nil h, rfl⟩ | cases h
  | eqs => simp only [evalCO] at h; split at h <;> first | exact ⟨pureV_nil h, rfl⟩ | cases h
  | conv => simp only [evalCO] at h; split at h <;> first | exact ⟨pureV_nil h, rfl⟩ | cases h
  | faddr => simp only [evalCO] at h; split at h <;> first | exact ⟨pureR_nil h, rfl⟩ | cases h
  | slen => simp only [evalCO] at h; split at h <;> first | exact ⟨pureV_nil h, rfl⟩ | cases h
  | ext => simp only [evalCO] at h; split at h <;> first | exact ⟨pureR_nil h, rfl⟩ | cases h
  | field => simp only [evalCO] at h; split at h <;> first | (split at h <;> first | exact ⟨pureR_nil h, rfl⟩ | cases h) | cases h
  | iaddr => simp only [evalCO] at h; split at h <;> first | (split at h <;> first | exact ⟨pureR_nil h, rfl⟩ | cases h) | cases h
  | aindex => simp only [evalCO] at h; split at h <;> first | (split at h <;> first | exact ⟨pureR_nil h, rfl⟩ | cases h) | cases h
  | sindex => simp only [evalCO] at h; split at h <;> first | (split at h <;> first | exact ⟨pureV_nil h, rfl⟩ | cases h) | cases h
  | min => simp only [evalCO] at h; split at h <;> first | (split at h <;> first | exact ⟨pureV_nil h, rfl⟩ | cases h) | cases h
  | max => simp only [evalCO] at h; split at h <;> first | (split at h <;> first | exact ⟨pureV_nil h, rfl⟩ | cases h) | cases h

/-- An operation that reads alone. -/
theorem reads_no {g : Nat → AV} {μ : Mu} {N : Nat} {co : CO} (ht : co.reads = true) {v : AV} {wr : Wr} (h : evalCO g μ N co = some (v, wr)) : wr = [] := by
  cases co with
  | load => exact pureR_nil h
  | cap x =>
    simp only [evalCO] at h
    split at h
    · split at h
      · split at h
        · split at h
          · exact pureV_nil h
          · cases h
        · cases h
      · cases h
    · exact pureV_nil h
    · exact pureV_nil h
    · cases h
  | _ => cases ht

end Go.Proofs.Ytneoeegpceompaa.AM
