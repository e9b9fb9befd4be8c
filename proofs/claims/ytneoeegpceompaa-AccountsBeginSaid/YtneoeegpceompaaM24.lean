/-
The abstract machine, part 24: the propositions of part 23 are enough.
-/
import Derived.Test.YtneoeegpceompaaM23
namespace Go.Proofs.Ytneoeegpceompaa.AM
open Go

variable {P : Program} {nt : Nat}

theorem getM_upd (M : List (Nat × Blk)) (b : Nat) (k : Blk) : getM ((b, k) :: M) = upd (getM M) b (some k) := by
  funext c
  simp only [getM, upd]
  by_cases h : b = c
  · subst h; simp
  · rw [if_neg h, if_neg (fun e : c = b => h e.symm)]

theorem getM_cons (M : List (Nat × Blk)) (b : Nat) (k : Blk) : getM ((b, k) :: M) = app (getM M) [(b, some k)] := getM_upd M b k

theorem getM_move (M : List (Nat × Blk)) (b N : Nat) (k : Blk) : getM ((N, k) :: delM M b) = app (getM M) [(b, none), (N, some k)] := by
  rw [getM_upd]
  show upd (getM (delM M b)) N (some k) = upd (upd (getM M) b none) N (some k)
  congr 1
  funext c
  rw [getM_del]; rfl

theorem wpStore_sound {M : List (Nat × Blk)} {n : Nat} {a x : AV} {K : Ct} (h : wpStore M n a x K) : ∃ v wr M', storeAV (getM M) n a x = some (v, wr) ∧ getM M' = app (getM M) wr ∧ K v M' wr := by
  unfold wpStore at h
  split at h
  · split at h
    · rename_i cs hcs
      obtain ⟨⟨⟨mu, ty, ksz, es, cap⟩, hk, h⟩⟩ := h
      simp only at h
      split at h
      · rename_i hb
        simp only [Bool.and_eq_true, Nat.beq_eq] at hb
        obtain ⟨⟨rfl, rfl⟩, rfl⟩ := hb
        obtain ⟨⟨r, hr, h⟩⟩ := h
        split at h
        · rename_i hl
          rw [frcL_eq] at h
          exact ⟨_, _, _, by simp [storeAV, hk, hcs, hr, Nat.le_of_ble_eq_true hl], getM_cons _ _ _, h.a⟩
        · exact h.elim
      · exact h.elim
    · exact h.elim
  · exact h.elim

theorem wpRows_sound {M : List (Nat × Blk)} {sz : Nat} {x : AV} {K : List (List AV) → Prop} (h : wpRows M sz x K) : ∃ xs, rowsAV (getM M) sz x = some xs ∧ K xs := by
  unfold wpRows at h
  split at h
  · split at h
    · rename_i hs
      exact ⟨_, by simp [rowsAV, Nat.eq_of_beq_eq_true hs], h⟩
    · exact h.elim
  · exact ⟨_, rfl, h⟩
  · exact ⟨_, rfl, h⟩
  · obtain ⟨⟨⟨mu, ty, ksz, es, cap⟩, hk, h⟩⟩ := h
    simp only at h
    split at h
    · rename_i hs
      simp only [Bool.and_eq_true, Nat.beq_eq] at hs
      obtain ⟨rfl, rfl⟩ := hs
      exact ⟨_, by simp [rowsAV, hk, h.a.1], h.a.2⟩
    · exact h.elim
  · exact h.elim

theorem wpApp_sound {M : List (Nat × Blk)} {N e sz : Nat} {s : AV} {xs : List (List AV)} {K : Ct} (h : wpApp M N e sz s xs K) : ∃ v wr M', appendAV (getM M) N e sz s xs = some (v, wr) ∧ getM M' = app (getM M) wr ∧ K v M' wr := by
  unfold wpApp at h
  split at h
  · obtain ⟨h1, ⟨h⟩⟩ := h; exact ⟨_, _, _, by simp only [appendAV]; rw [if_pos h1], getM_cons _ _ _, h⟩
  · obtain ⟨h1, ⟨h⟩⟩ := h; exact ⟨_, _, _, by simp only [appendAV]; rw [if_pos h1], getM_cons _ _ _, h⟩
  · obtain ⟨⟨⟨mu, ty, ksz, es, cap⟩, hk, h⟩⟩ := h
    simp only at h
    split at h
    · rename_i hb
      simp only [Bool.and_eq_true, Nat.beq_eq] at hb
      obtain ⟨⟨⟨rfl, rfl⟩, rfl⟩, rfl⟩ := hb
      obtain ⟨⟨h0, h⟩⟩ := h
      rcases h with ⟨h1, h2, h⟩ | ⟨h1, h2, h⟩
      · refine ⟨_, _, _, ?_, getM_move _ _ _ _, h⟩
        simp only [appendAV, hk]
        rw [if_pos (by simpa using h0), if_pos ⟨h1, h2⟩]
      · refine ⟨_, _, _, ?_, getM_cons _ _ _, h⟩
        simp only [appendAV, hk]
        rw [if_pos (by simpa using h0), if_neg h1, if_pos h2]
    · exact h.elim
  · exact h.elim

theorem wpBnd_sound {T : List (Nat × AV)} {o : Option Operand} {dflt : Int} {K : Int → Prop} (h : wpBnd T o dflt K) : ∃ b, bnd (getT T) o = some b ∧ K (b.getD dflt) := by
  unfold wpBnd at h
  split at h
  · exact ⟨none, rfl, h⟩
  · split at h
    · rename_i hx
      rw [evv_eq] at hx
      exact ⟨some _, by simp [bnd, hx], h⟩
    · exact h.elim

theorem wpBnd_sound' {T : List (Nat × AV)} {x : Operand} {dflt : Int} {K : Int → Prop} (h : wpBnd T (some x) dflt K) : ∃ b, bnd (getT T) (some x) = some (some b) ∧ K b := by
  obtain ⟨b, h1, h2⟩ := wpBnd_sound h
  simp only [bnd] at h1 ⊢
  split at h1
  · rename_i hx
    simp only [Option.some.injEq] at h1
    subst h1
    exact ⟨_, rfl, h2⟩
  · cases h1

theorem wpSl_sound {T : List (Nat × AV)} {lo hi : Option Operand} {es : List (List AV)} {bl bh : Option Int} {K : List (List AV) → Prop} (h1 : bnd (getT T) lo = some bl) (h2 : bnd (getT T) hi = some bh)
    (h : wpSl lo hi es (bl.getD 0) (bh.getD es.length) K) : K ((es.drop (bl.getD 0).toNat).take ((bh.getD es.length).toNat - (bl.getD 0).toNat)) := by
  have none1 : ∀ {o : Option Operand} {b : Option Int}, o = none → bnd (getT T) o = some b → b = none := fun h h' => by subst h; simp only [bnd, Option.some.injEq] at h'; exact h'.symm
  unfold wpSl at h
  split at h
  · obtain rfl := none1 rfl h1
    split at h
    · obtain rfl := none1 rfl h2
      simpa using h
    · simpa using h
  · split at h
    · obtain rfl := none1 rfl h2
      simp only [Option.getD_none, Int.toNat_natCast]
      rw [List.take_of_length_le (by simp)]
      exact h
    · exact h

theorem wpSlR_sound {T : List (Nat × AV)} {lo hi : Option Operand} {off len : Nat} {bl bh : Option Int} {K : Nat → Nat → Prop} (h1 : bnd (getT T) lo = some bl) (h2 : bnd (getT T) hi = some bh)
    (h : wpSlR lo hi off len (bl.getD 0) (bh.getD len) K) : K (off + (bl.getD 0).toNat) ((bh.getD len).toNat - (bl.getD 0).toNat) := by
  have none1 : ∀ {o : Option Operand} {b : Option Int}, o = none → bnd (getT T) o = some b → b = none := fun h h' => by subst h; simp only [bnd, Option.some.injEq] at h'; exact h'.symm
  unfold wpSlR at h
  split at h
  · obtain rfl := none1 rfl h1
    split at h
    · obtain rfl := none1 rfl h2
      simpa using h
    · simpa using h
  · rw [Nat.add_comm]; exact h

theorem wpSlice_sound {T : List (Nat × AV)} {sz : Nat} {x : AV} {lo hi mx : Option Operand} {K : AV → Prop} (h : wpSlice T sz x lo hi mx K) : ∃ v, sliceCO sz x (bnd (getT T) lo) (bnd (getT T) hi) (bnd (getT T) mx) = some v ∧ K v := by
  unfold wpSlice at h
  split at h
  · split at h
    · split at h
      · rename_i hs
        obtain ⟨L, h1, h⟩ := wpBnd_sound h
        obtain ⟨H, h2, h⟩ := wpBnd_sound h
        obtain ⟨h0, h⟩ := h
        have h := wpSl_sound h1 h2 h
        exact ⟨_, by simp only [sliceCO, lenAV, h1, h2, show bnd (getT T) none = some none from rfl, sliceAV]; rw [if_pos ⟨Nat.eq_of_beq_eq_true hs, h0⟩], h⟩
      · exact h.elim
    · split at h
      · rename_i hs
        obtain ⟨L, h1, h⟩ := wpBnd_sound h
        obtain ⟨H, h2, h⟩ := wpBnd_sound h
        obtain ⟨h0, h⟩ := h
        have h := wpSlR_sound h1 h2 h
        exact ⟨_, by simp only [sliceCO, lenAV, h1, h2, show bnd (getT T) none = some none from rfl, sliceAV]; rw [if_pos ⟨Nat.eq_of_beq_eq_true hs, h0⟩], h⟩
      · exact h.elim
    · obtain ⟨L, h1, h⟩ := wpBnd_sound h
      obtain ⟨H, h2, h⟩ := wpBnd_sound h
      obtain ⟨h0, h⟩ := h
      exact ⟨_, by simp only [sliceCO, lenAV, h1, h2, show bnd (getT T) none = some none from rfl, sliceAV]; rw [if_pos ⟨h0.1, h0.2, by simp⟩], h⟩
    · obtain ⟨L, h1, h⟩ := wpBnd_sound h
      obtain ⟨H, h2, h⟩ := wpBnd_sound h
      obtain ⟨h0, h⟩ := h
      exact ⟨_, by simp only [sliceCO, lenAV, h1, h2, show bnd (getT T) none = some none from rfl, sliceAV]; rw [if_pos ⟨h0.1, by simpa using h0.2, by simp⟩], h⟩
    · exact h.elim
  · split at h
    · exact h.elim
    · split at h
      · split at h
        · rename_i hs
          obtain ⟨L, h1, h⟩ := wpBnd_sound h
          obtain ⟨H, h2, h⟩ := wpBnd_sound' h
          obtain ⟨m, h3, h⟩ := wpBnd_sound' h
          obtain ⟨⟨g1, g2, g3, g4, g5, g6⟩, h⟩ := h
          exact ⟨_, by simp only [sliceCO, lenAV, h1, h2, h3, sliceAV]; rw [if_pos ⟨Nat.eq_of_beq_eq_true hs, g1, g2, g3⟩, if_pos ⟨g4, g5⟩, if_pos g6], h⟩
        · exact h.elim
      · obtain ⟨L, h1, h⟩ := wpBnd_sound h
        obtain ⟨H, h2, h⟩ := wpBnd_sound' h
        obtain ⟨m, h3, h⟩ := wpBnd_sound' h
        obtain ⟨⟨g1, g2, g3⟩, h⟩ := h
        exact ⟨_, by simp only [sliceCO, lenAV, h1, h2, h3, sliceAV]; rw [if_pos ⟨g1, g2, .inr (by rw [g3])⟩], h⟩
      · obtain ⟨L, h1, h⟩ := wpBnd_sound h
        obtain ⟨H, h2, h⟩ := wpBnd_sound' h
        obtain ⟨m, h3, h⟩ := wpBnd_sound' h
        obtain ⟨⟨g1, g2, g3⟩, h⟩ := h
        exact ⟨_, by simp only [sliceCO, lenAV, h1, h2, h3, sliceAV]; rw [if_pos ⟨g1, g2, .inr (by rw [g3])⟩], h⟩
      · exact h.elim

theorem wpIdx_sound {g : Nat → AV} {μ : Mu} {N sz : Nat} {x i : Operand} {K : AV → Prop} (h : wpIdx sz (ev g x) (ev g i) K) : ∃ v, evalCO g μ N (.iaddr sz x i) = some (v, []) ∧ K v := by
  unfold wpIdx at h
  split at h
  · rename_i hi
    split at h
    · rename_i hx
      split at h
      · rename_i hs
        obtain ⟨h0, h⟩ := h
        obtain ⟨⟨r, hr, h⟩⟩ := h
        rw [frcL_eq] at h
        have hlt := (List.getElem?_eq_some_iff.1 hr).1
        exact ⟨_, by simp only [evalCO, hx, hi]; rw [if_pos ⟨Nat.eq_of_beq_eq_true hs, h0, by omega⟩]; simp [pureR, List.getD_eq_getElem?_getD, hr], h⟩
      · exact h.elim
    · rename_i hx
      split at h
      · rename_i hs
        obtain ⟨h0, h⟩ := h
        rw [Nat.add_comm] at h
        exact ⟨_, by simp only [evalCO, hx, hi]; rw [if_pos ⟨Nat.eq_of_beq_eq_true hs, h0⟩]; rfl, h⟩
      · exact h.elim
    · exact h.elim
  · exact h.elim

theorem wpE_sound {T : List (Nat × AV)} {M : List (Nat × Blk)} {N : Nat} {op : CO} {K : Ct} (h : wpE T M N op K) : ∃ v wr M', evalCO (getT T) (getM M) N op = some (v, wr) ∧ getM M' = app (getM M) wr ∧ K v M' wr := by
  cases op with
  | mov x => simp only [wpE, frc_eq, evv_eq] at h; exact ⟨_, _, _, rfl, rfl, h⟩
  | pick c a b =>
    simp only [wpE, frc_eq, evv_eq] at h
    split at h
    · rename_i t ht
      cases t with
      | true => exact ⟨_, _, _, by simp only [evalCO, ht]; rfl, rfl, h.a rfl⟩
      | false => exact ⟨_, _, _, by simp only [evalCO, ht]; rfl, rfl, h.b rfl⟩
    · exact h.elim
  | alloc e z => simp only [wpE, frcL_eq, frcN_eq] at h; exact ⟨_, _, _, rfl, getM_cons _ _ _, h⟩
  | box e n x =>
    simp only [wpE, evv_eq] at h
    split at h
    · rename_i cs hcs
      split at h
      · rename_i hn
        rw [frcL_eq] at h
        exact ⟨_, _, _, by simp only [evalCO, hcs]; rw [if_pos (Nat.eq_of_beq_eq_true hn)], getM_cons _ _ _, h⟩
      · exact h.elim
    · exact h.elim
  | bslice e sz len z ps =>
    simp only [wpE, lk_eq] at h
    split at h
    · rename_i rows hr
      rw [frcR_eq] at h
      exact ⟨_, _, _, by simp only [evalCO, hr], getM_cons _ _ _, h⟩
    · exact h.elim
  | load ag n a =>
    simp only [wpE, evv_eq] at h
    obtain ⟨v, h1, h2⟩ := wpLoad_sound h
    exact ⟨_, _, _, by simp only [evalCO, h1]; rfl, rfl, h2⟩
  | store n a x =>
    simp only [wpE, evv_eq] at h
    exact wpStore_sound h
  | bin op x y =>
    simp only [wpE, evv_eq] at h
    obtain ⟨v, h1, h2⟩ := wpBin_sound h
    exact ⟨_, _, _, by simp only [evalCO, h1]; rfl, rfl, h2⟩
  | un op x =>
    simp only [wpE, evv_eq] at h
    split at h
    · split at h
      · rename_i hx; exact ⟨_, _, _, by simp only [evalCO, hx, unAV]; rfl, rfl, h.a⟩
      · exact h.elim
    · split at h
      · rename_i hx; exact ⟨_, _, _, by simp only [evalCO, hx, unAV]; rfl, rfl, h⟩
      · exact h.elim
    · exact h.elim
  | conv k x =>
    simp only [wpE, evv_eq] at h
    split at h
    · rename_i hx; exact ⟨_, _, _, by simp only [evalCO, hx]; rfl, rfl, h.a⟩
    · exact h.elim
  | eqs neg plan x y =>
    simp only [wpE, evv_eq] at h
    split at h
    · rename_i hx
      split at h
      · rename_i hy
        split at h
        · rename_i b hb
          cases neg with
          | true => exact ⟨_, _, _, by simp only [evalCO, hx, hy, hb]; rfl, rfl, h⟩
          | false => exact ⟨_, _, _, by simp only [evalCO, hx, hy, hb]; rfl, rfl, h⟩
        · exact h.elim
      · exact h.elim
    · exact h.elim
  | nilcmp neg x =>
    simp only [wpE, evv_eq] at h
    split at h
    · rename_i hx
      cases neg with
      | true => exact ⟨_, _, _, by simp only [evalCO, hx, nilAV]; rfl, rfl, h⟩
      | false => exact ⟨_, _, _, by simp only [evalCO, hx, nilAV]; rfl, rfl, h⟩
    · rename_i hx
      obtain ⟨h0, h⟩ := h
      obtain ⟨m, rfl⟩ := Nat.exists_eq_succ_of_ne_zero (Nat.pos_iff_ne_zero.1 h0)
      cases neg with
      | true => exact ⟨_, _, _, by simp only [evalCO, hx, nilAV]; rfl, rfl, h⟩
      | false => exact ⟨_, _, _, by simp only [evalCO, hx, nilAV]; rfl, rfl, h⟩
    · rename_i hx
      obtain ⟨h0, h⟩ := h
      obtain ⟨e, es, rfl⟩ := List.exists_cons_of_ne_nil h0
      cases neg with
      | true => exact ⟨_, _, _, by simp only [evalCO, hx, nilAV]; rfl, rfl, h⟩
      | false => exact ⟨_, _, _, by simp only [evalCO, hx, nilAV]; rfl, rfl, h⟩
    · exact h.elim
  | beq neg x y =>
    simp only [wpE, evv_eq] at h
    split at h
    · rename_i hx
      split at h
      · rename_i hy
        cases neg with
        | true => exact ⟨_, _, _, by simp only [evalCO, hx, hy]; rfl, rfl, h⟩
        | false => exact ⟨_, _, _, by simp only [evalCO, hx, hy]; rfl, rfl, h⟩
      · exact h.elim
    · exact h.elim
  | mksl e sz by_ z l c =>
    simp only [wpE, evv_eq] at h
    split at h
    · rename_i hl
      split at h
      · rename_i hc
        exact ⟨_, _, _, by simp only [evalCO, hl, hc]; rw [if_pos h.a], getM_cons _ _ _, h.b⟩
      · exact h.elim
    · exact h.elim
  | slice sz x lo hi mx =>
    simp only [wpE, evv_eq] at h
    obtain ⟨v, h1, h2⟩ := wpSlice_sound h
    exact ⟨_, _, _, by simp only [evalCO, h1]; rfl, rfl, h2⟩
  | iaddr sz x i =>
    simp only [wpE, evv_eq] at h
    obtain ⟨v, h1, h2⟩ := wpIdx_sound (N := N) (μ := getM M) h
    exact ⟨_, _, _, h1, rfl, h2⟩
  | sindex x i =>
    simp only [wpE, evv_eq] at h
    split at h
    · rename_i hx
      split at h
      · rename_i hi
        obtain ⟨h0, b, hb, h⟩ := h.a
        exact ⟨_, _, _, by simp only [evalCO, hx, hi]; rw [if_pos h0, hb]; rfl, rfl, h⟩
      · exact h.elim
    · exact h.elim
  | len x =>
    simp only [wpE, evv_eq] at h
    split at h
    · rename_i hx; exact ⟨_, _, _, by simp only [evalCO, hx, lenAV]; rfl, rfl, h.a⟩
    · rename_i hx; exact ⟨_, _, _, by simp only [evalCO, hx, lenAV]; rfl, rfl, h⟩
    · rename_i hx; exact ⟨_, _, _, by simp only [evalCO, hx, lenAV]; rfl, rfl, h⟩
    · rename_i hx; exact ⟨_, _, _, by simp only [evalCO, hx, lenAV]; rfl, rfl, h⟩
    · exact h.elim
  | min x y =>
    simp only [wpE, evv_eq] at h
    split at h
    · rename_i hx
      split at h
      · rename_i hy
        split at h
        rotate_left
        · exact h.elim
        rename_i hk
        refine ⟨_, _, _, by simp only [evalCO, hx, hy]; rw [if_pos (of_decide_eq_true hk)]; rfl, rfl, ?_⟩
        have := h
        rw [Int.min_def] at this
        split at this
        · rw [if_neg (by omega)]; exact this
        · rw [if_pos (by omega)]; exact this
      · exact h.elim
    · exact h.elim
  | max x y =>
    simp only [wpE, evv_eq] at h
    split at h
    · rename_i a hx
      split at h
      · rename_i b hy
        split at h
        rotate_left
        · exact h.elim
        rename_i hk
        refine ⟨_, _, _, by simp only [evalCO, hx, hy]; rw [if_pos (of_decide_eq_true hk)]; rfl, rfl, ?_⟩
        have := h
        rw [Int.max_def] at this
        split at this
        · by_cases e : a = b
          · subst e; rw [if_neg (by omega)]; exact this
          · rw [if_pos (by omega)]; exact this
        · rw [if_neg (by omega)]; exact this
      · exact h.elim
    · exact h.elim
  | append e sz by_ s x =>
    simp only [wpE, evv_eq] at h
    obtain ⟨xs, h1, h2⟩ := wpRows_sound h
    obtain ⟨v, wr, M', h3, h4, h5⟩ := wpApp_sound h2
    exact ⟨v, wr, M', by simp only [evalCO, h1]; exact h3, h4, h5⟩
  | copy sz d s =>
    simp only [wpE, evv_eq] at h
    obtain ⟨xs, h1, h2⟩ := wpRows_sound h
    clear h
    split at h2
    · rename_i hd
      obtain ⟨⟨⟨mu, ty, ksz, es, cap⟩, hk, h⟩⟩ := h2
      simp only at h
      split at h
      · rename_i hb
        simp only [Bool.and_eq_true, Nat.beq_eq] at hb
        obtain ⟨⟨rfl, rfl⟩, rfl⟩ := hb
        obtain ⟨⟨h0, h⟩⟩ := h
        refine ⟨_, _, _, ?_, getM_cons _ _ _, h⟩
        simp only [evalCO, h1, hd, hk]
        rw [if_pos (by simpa using h0)]
      · exact h.elim
    · exact h2.elim
  | mkfn f cap =>
    simp only [wpE, frcA_eq, List.map_congr_left fun x (_ : x ∈ cap) => evv_eq T x] at h
    exact ⟨_, _, _, rfl, rfl, h⟩
  | ext x i =>
    simp only [wpE, evv_eq] at h
    split at h
    · rename_i hx
      split at h
      · rename_i v hv
        rw [frc_eq] at h
        exact ⟨_, _, _, by simp only [evalCO, hx, hv]; rfl, rfl, h⟩
      · exact h.elim
    · exact h.elim
  | call f args => exact h.elim
  | bad => exact h.elim
  | _ =>
    simp only [wpE, lk_eq] at h
    split at h
    · rename_i v hv
      rw [frc_eq] at h
      exact ⟨_, _, _, hv, rfl, h⟩
    · exact h.elim

/-! ### Regions -/

abbrev Cx := AV → List (Nat × Blk) → Wr → List Nat → Prop

def wpX (P : Program) (N : Nat) (op : CO) (T : List (Nat × AV)) (M : List (Nat × Blk)) (K : Cx) : Prop := match op with
  | .call f args => match evv T f with
    | .fn k caps => match caps with
      | [] => frcA (args.map (evv T)) fun as => Cl P N k as M fun v M' wr rd => frc v fun v => K v M' wr rd
      | x :: caps => frcA (args.map (evv T)) fun as => Cl P N k (as ++ x :: caps) M fun v M' wr rd => frc v fun v => K v M' wr rd
    | _ => False
  | op => wpE T M N op fun v M' wr => K v M' wr (rdCO (lk T) op)

def wpG (gd : Option (Nat × Bool)) (T : List (Nat × AV)) (run skip : List (Nat × AV) → Prop) : Prop := match gd with
  | none => run T
  | some (c, b) => match lk T c with
    | .v (.bool t) => match b with
      | true => Br t (run ((c, .v (.bool true)) :: T)) (skip ((c, .v (.bool false)) :: T))
      | false => Br t (skip ((c, .v (.bool true)) :: T)) (run ((c, .v (.bool false)) :: T))
    | .v (.tuple _) => skip T
    | _ => False

/-- One operation, without a look at pairs. -/
def wpUs (P : Program) (d : Nat) (o : COper) (ih : Nat → List (Nat × AV) → List (Nat × Blk) → Prop) (n : Nat) (T : List (Nat × AV)) (M : List (Nat × Blk)) : Prop := match o with
  | ⟨dst, op, gd⟩ => wpG gd T
    (fun T => wpX P (nm d n) op T M fun v M' _ _ => match dst with
      | some t => frcN (n + 1) fun n => ih n ((t, v) :: T) M'
      | none => frcN (n + 1) fun n => ih n T M')
    (fun T => match dst with
      | some t => frcN (n + 1) fun n => ih n ((t, .v undef) :: T) M
      | none => frcN (n + 1) fun n => ih n T M)

/-- All. -/
noncomputable def wpU (P : Program) (d : Nat) (K : Nat → List (Nat × AV) → List (Nat × Blk) → Prop) (ops : List COper) : Nat → List (Nat × AV) → List (Nat × Blk) → Prop :=
  List.rec (motive := fun _ => Nat → List (Nat × AV) → List (Nat × Blk) → Prop) K (fun o _ ih => wpUs P d o ih) ops

/-- One operation, with a look at pairs. -/
def wpVs (P : Program) (d : Nat) (o : COper) (ih : Nat → List (Nat × AV) → List (Nat × Blk) → List Ev → Prop) (n : Nat) (T : List (Nat × AV)) (M : List (Nat × Blk)) (l : List Ev) : Prop := match o with
  | ⟨dst, op, gd⟩ => wpG gd T
    (fun T => wpX P (nm d n) op T M fun v M' wr rd => match dst with
      | some t => frcN (n + 1) fun n => ih n ((t, v) :: T) M' (⟨v, wr, rd⟩ :: l)
      | none => frcN (n + 1) fun n => ih n T M' (⟨v, wr, rd⟩ :: l))
    (fun T => match dst with
      | some t => frcN (n + 1) fun n => ih n ((t, .v undef) :: T) M (⟨.v undef, [], []⟩ :: l)
      | none => frcN (n + 1) fun n => ih n T M (⟨.v undef, [], []⟩ :: l))

noncomputable def wpV (P : Program) (d : Nat) (K : Nat → List (Nat × AV) → List (Nat × Blk) → List Ev → Prop) (ops : List COper) : Nat → List (Nat × AV) → List (Nat × Blk) → List Ev → Prop :=
  List.rec (motive := fun _ => Nat → List (Nat × AV) → List (Nat × Blk) → List Ev → Prop) K (fun o _ ih => wpVs P d o ih) ops

theorem wpX_sound {N : Nat} {dst : Option Nat} {op : CO} {gd : Option (Nat × Bool)} {T : List (Nat × AV)} {M : List (Nat × Blk)} {K : Cx} (hg : guardOn ⟨dst, op, gd⟩ (getT T)) (h : wpX P N op T M K) :
    ∃ v wr rd M', Does P N ⟨dst, op, gd⟩ (getT T) (getM M) v wr rd ∧ getM M' = app (getM M) wr ∧ K v M' wr rd := by
  unfold wpX at h
  split at h
  · rename_i f args
    split at h
    · rename_i k caps hf
      have h : Cl P N k (args.map (evv T) ++ caps) M fun v M' wr rd => frc v fun v => K v M' wr rd := by
        cases caps with
        | nil => simpa only [frcA_eq, List.append_nil] using h
        | cons x caps => simpa only [frcA_eq] using h
      obtain ⟨fz, pre, post, args', v, M', h1, h2, h3, h4, h5⟩ := h.a
      rw [frc_eq] at h5
      have ha : args.map (evv T) = args.map (ev (getT T)) := List.map_congr_left fun x _ => evv_eq T x
      rw [evv_eq] at hf
      rw [ha] at h1 h5
      refine ⟨v, _, _, M', .call f args _ _ _ hg rfl ⟨k, caps, fz, pre, post, args', hf, h2.call, h2.spec, h1, h3, rfl, rfl⟩, ?_, h5⟩
      rw [app_append, h4]
    · exact h.elim
  · obtain ⟨v, wr, M', h1, h2, h3⟩ := wpE_sound h
    rw [lk_eq] at h3
    exact ⟨v, wr, _, M', .exec _ _ hg h1, h2, h3⟩

theorem getT_push {T : List (Nat × AV)} {c : Nat} {x : AV} (h : getT T c = x) : getT ((c, x) :: T) = getT T := by
  funext t
  simp only [getT]
  split
  · rename_i e; subst e; exact h.symm
  · rfl

theorem wpG_sound {N : Nat} {dst : Option Nat} {op : CO} {gd : Option (Nat × Bool)} {T : List (Nat × AV)} {M : List (Nat × Blk)} {R : Prop} {run skip : List (Nat × AV) → Prop} (h : wpG gd T run skip)
    (hr : ∀ T1 : List (Nat × AV), getT T1 = getT T → guardOn ⟨dst, op, gd⟩ (getT T) → run T1 → R) (hs : ∀ T1 : List (Nat × AV), getT T1 = getT T → Does P N ⟨dst, op, gd⟩ (getT T) (getM M) (.v undef) [] [] → skip T1 → R) : R := by
  unfold wpG at h
  split at h
  · exact hr T rfl (fun d want hd => by cases hd) h
  · rename_i c b
    rw [lk_eq] at h
    split at h
    · rename_i t ht
      split at h
      · cases t with
        | true => exact hr _ (getT_push ht) (fun d want hd => by cases hd; exact ht) (h.a rfl)
        | false => exact hs _ (getT_push ht) (.skip c true _ rfl ht (by simp)) (h.b rfl)
      · cases t with
        | true => exact hs _ (getT_push ht) (.skip c false _ rfl ht (by simp)) (h.a rfl)
        | false => exact hr _ (getT_push ht) (fun d want hd => by cases hd; exact ht) (h.b rfl)
    · rename_i vs ht
      exact hs T rfl (.skip c b _ rfl ht (fun e => by cases e)) h
    · exact h.elim

theorem wpV_sound {d : Nat} (ops : List COper) : ∀ {n i : Nat} {T : List (Nat × AV)} {M : List (Nat × Blk)} {l : List Ev} {K : Nat → List (Nat × AV) → List (Nat × Blk) → List Ev → Prop}, wpV P d K ops (n + i) T M l →
    ∃ l' T' M', Trace P (fun i => nm d (n + i)) i ops (getT T) (getM M) l' (getT T') (getM M') ∧ K (n + i + ops.length) T' M' (l'.reverse ++ l) := by
  induction ops with
  | nil => intro n i T M l K h; exact ⟨[], T, M, .nil _ _ _, h⟩
  | cons o r ih =>
    intro n i T M l K h
    obtain ⟨dst, op, gd⟩ := o
    have h : wpVs P d ⟨dst, op, gd⟩ (wpV P d K r) (n + i) T M l := h
    simp only [wpVs] at h
    have e1 : n + i + 1 = n + (i + 1) := by omega
    have e2 : n + i + (r.length + 1) = n + (i + 1) + r.length := by omega
    refine wpG_sound (P := P) (N := nm d (n + i)) (dst := dst) (op := op) (M := M) h (fun T1 hT1 hg h => ?_) (fun T1 hT1 hd h => ?_)
    · rw [← hT1] at hg
      obtain ⟨v, wr, rd, M1, h1, h2, h3⟩ := wpX_sound hg h
      have h3 : wpV P d K r (n + (i + 1)) (setT T1 dst v) M1 (⟨v, wr, rd⟩ :: l) := by
        cases dst <;> simpa only [frcN_eq, setT, e1] using h3
      obtain ⟨l', T', M', h4, h5⟩ := ih h3
      rw [getT_set, hT1, h2] at h4
      rw [hT1] at h1
      exact ⟨⟨v, wr, rd⟩ :: l', T', M', .cons _ _ _ _ _ _ _ _ _ h1 h4, by rw [List.length_cons, e2]; simpa using h5⟩
    · have h3 : wpV P d K r (n + (i + 1)) (setT T1 dst (.v undef)) M (⟨.v undef, [], []⟩ :: l) := by
        cases dst <;> simpa only [frcN_eq, setT, e1] using h
      obtain ⟨l', T', M', h4, h5⟩ := ih h3
      rw [getT_set, hT1] at h4
      exact ⟨⟨.v undef, [], []⟩ :: l', T', M', .cons _ _ _ _ _ _ _ _ _ hd h4, by rw [List.length_cons, e2]; simpa using h5⟩

theorem wpU_sound {d : Nat} (ops : List COper) : ∀ {n i : Nat} {T : List (Nat × AV)} {M : List (Nat × Blk)} {K : Nat → List (Nat × AV) → List (Nat × Blk) → Prop}, wpU P d K ops (n + i) T M →
    ∃ l' T' M', Trace P (fun i => nm d (n + i)) i ops (getT T) (getM M) l' (getT T') (getM M') ∧ K (n + i + ops.length) T' M' := by
  induction ops with
  | nil => intro n i T M K h; exact ⟨[], T, M, .nil _ _ _, h⟩
  | cons o r ih =>
    intro n i T M K h
    obtain ⟨dst, op, gd⟩ := o
    have h : wpUs P d ⟨dst, op, gd⟩ (wpU P d K r) (n + i) T M := h
    simp only [wpUs] at h
    have e1 : n + i + 1 = n + (i + 1) := by omega
    have e2 : n + i + (r.length + 1) = n + (i + 1) + r.length := by omega
    refine wpG_sound (P := P) (N := nm d (n + i)) (dst := dst) (op := op) (M := M) h (fun T1 hT1 hg h => ?_) (fun T1 hT1 hd h => ?_)
    · rw [← hT1] at hg
      obtain ⟨v, wr, rd, M1, h1, h2, h3⟩ := wpX_sound hg h
      have h3 : wpU P d K r (n + (i + 1)) (setT T1 dst v) M1 := by
        cases dst <;> simpa only [frcN_eq, setT, e1] using h3
      obtain ⟨l', T', M', h4, h5⟩ := ih h3
      rw [getT_set, hT1, h2] at h4
      rw [hT1] at h1
      exact ⟨⟨v, wr, rd⟩ :: l', T', M', .cons _ _ _ _ _ _ _ _ _ h1 h4, by rw [List.length_cons, e2]; exact h5⟩
    · have h3 : wpU P d K r (n + (i + 1)) (setT T1 dst (.v undef)) M := by
        cases dst <;> simpa only [frcN_eq, setT, e1] using h
      obtain ⟨l', T', M', h4, h5⟩ := ih h3
      rw [getT_set, hT1] at h4
      exact ⟨⟨.v undef, [], []⟩ :: l', T', M', .cons _ _ _ _ _ _ _ _ _ hd h4, by rw [List.length_cons, e2]; exact h5⟩

/-! ### Code -/

/-- Pairs of operations that may come up in either order, looked at name by name. -/
def neP (a : Nat) : List Nat → Prop → Prop
  | [], K => K
  | b :: y, K => Ob (a ≠ b) (neP a y K)
def disjP : List Nat → List Nat → Prop → Prop
  | [], _, K => K
  | a :: x, y, K => neP a y (disjP x y K)
def apF (x y : Ev) (K : Prop) : Prop := disjP (ids x.wr) y.rd (disjP (ids y.wr) x.rd (disjP (ids x.wr) (ids y.wr) K))
def prF (l : List Ev) : List (Nat × Nat) → Prop → Prop
  | [], K => K
  | p :: r, K => apF (l.getD p.1 default) (l.getD p.2 default) (prF l r K)

theorem neP_ok {a : Nat} (y : List Nat) : ∀ {K : Prop}, neP a y K → (y.contains a) = false ∧ K := by
  induction y with
  | nil => intro K h; exact ⟨rfl, h⟩
  | cons b y ih =>
    intro K h
    obtain ⟨h1, h2⟩ := ih h.b
    refine ⟨?_, h2⟩
    rw [List.contains_cons, h1, Bool.or_false, beq_eq_false_iff_ne]
    exact h.a
theorem disjP_ok (x : List Nat) {y : List Nat} : ∀ {K : Prop}, disjP x y K → disj x y = true ∧ K := by
  induction x with
  | nil => intro K h; exact ⟨rfl, h⟩
  | cons a x ih =>
    intro K h
    obtain ⟨h1, h2⟩ := neP_ok y h
    obtain ⟨h3, h4⟩ := ih h2
    refine ⟨?_, h4⟩
    unfold disj at h3 ⊢
    rw [List.all_cons, h1, h3]; rfl
theorem prF_ok {l : List Ev} (ps : List (Nat × Nat)) : ∀ {K : Prop}, prF l ps K → pairsOk l ps = true ∧ K := by
  induction ps with
  | nil => intro K h; exact ⟨rfl, h⟩
  | cons p r ih =>
    intro K h
    obtain ⟨h1, h⟩ := disjP_ok _ h
    obtain ⟨h2, h⟩ := disjP_ok _ h
    obtain ⟨h3, h⟩ := disjP_ok _ h
    obtain ⟨h4, h⟩ := ih h
    refine ⟨?_, h⟩
    unfold pairsOk at h4 ⊢
    rw [List.all_cons, h4, evApart, h1, h2, h3]; rfl

noncomputable def wpReg (P : Program) (ops : List COper) (pairs : List (Nat × Nat)) (S : St) (Q : Post) : Prop := match S with
  | ⟨T, M, d, nx⟩ => match pairs with
    | [] => wpU P d (fun n T M => Q .normal ⟨T, M, d, n⟩) ops nx T M
    | p :: ps => wpV P d (fun n T M l => prF l.reverse (p :: ps) (Q .normal ⟨T, M, d, n⟩)) ops nx T M []

def wpCond (o : Operand) (a b : St → Post → Prop) (S : St) (Q : Post) : Prop := match evv S.T o with
  | .v (.bool t) => Br t (a S Q) (b S Q)
  | _ => False

noncomputable def wpC (P : Program) (nt : Nat) (c : CC) : St → Post → Prop :=
  CC.rec (motive := fun _ => St → Post → Prop)
    (fun S Q => Q .normal S)
    (fun ops pairs _ S Q => wpReg P ops pairs S Q)
    (fun _ _ wa wb S Q => wa S (thenQ (fun S' => wb S' Q) Q))
    (fun o _ _ wa wb S Q => wpCond o wa wb S Q)
    (fun id _ w S Q => w S (blockQ id Q))
    (fun c _ S Q => Lp P nt c S Q)
    (fun id S Q => Q (.exit id) S)
    (fun S Q => Q .ret S)
    (fun _ _ => False) c

theorem wpC_sound (c : CC) : ∀ {S : St} {Q : Post}, wpC P nt c S Q → Safe P nt c S Q := by
  induction c with
  | skip => intro S Q h; exact safe_skip h
  | region ops pairs live =>
    intro S Q h
    obtain ⟨T, M, d, nx⟩ := S
    have h : wpReg P ops pairs ⟨T, M, d, nx⟩ Q := h
    simp only [wpReg] at h
    split at h
    · obtain ⟨l', T', M', h1, h2⟩ := wpU_sound (n := nx) (i := 0) ops h
      exact safe_region h1 rfl h2
    · obtain ⟨l', T', M', h1, h2⟩ := wpV_sound (n := nx) (i := 0) ops h
      simp only [List.append_nil, List.reverse_reverse] at h2
      obtain ⟨h3, h4⟩ := prF_ok _ h2
      exact safe_region h1 h3 h4
  | seq a b iha ihb =>
    intro S Q h
    exact safe_seq (Safe.mono (iha h) fun e S' hq => thenQ_of (fun he => by subst he; exact ihb hq) fun he => thenQ_ne hq he)
  | cond o a b iha ihb =>
    intro S Q h
    have h : wpCond o (wpC P nt a) (wpC P nt b) S Q := h
    simp only [wpCond, evv_eq] at h
    split at h
    · rename_i t ht
      refine safe_cond ht ?_
      cases t with
      | true => exact iha (h.a rfl)
      | false => exact ihb (h.b rfl)
    · exact h.elim
  | block id c ih => intro S Q h; exact safe_block (ih h)
  | loop c ih => intro S Q h; exact safe_loop h.a
  | exit id => intro S Q h; exact safe_exit h
  | ret => intro S Q h; exact safe_ret h
  | bad => intro S Q h; exact h.elim

/-- One round of a loop. -/
theorem lp_round {c : CC} {S : St} {Q : Post} (h : wpC P nt c S (thenQ (fun S' => SafeL P nt c S' Q) Q)) : SafeL P nt c S Q :=
  safeL_round (wpC_sound c h)

/-! ### Results -/

structure Rt (N : Nat) (post : Mu) (r x : AV) (M : List (Nat × Blk)) : Prop where
  a : ∃ (fz mv : List Nat) (r' : AV), VL3 (app (getM M) (frzW (getM M) fz)) x r' ∧ mvOk N 0 mv (app (getM M) (frzW (getM M) fz)) ∧ r = mvAV N 0 mv r' ∧
    ∀ b blk, post b = some blk → mvMu N 0 mv (app (getM M) (frzW (getM M) fz)) b = some blk

def wpRes (T : List (Nat × AV)) (M : List (Nat × Blk)) : RK → (AV → Prop) → Prop
  | .t t, K => frc (lk T t) K
  | .c a ag n, K => wpLoad M ag n (lk T a) K
def wpRess (T : List (Nat × AV)) (M : List (Nat × Blk)) : List RK → (List AV → Prop) → Prop
  | [], K => K []
  | k :: r, K => wpRes T M k fun x => wpRess T M r fun l => K (x :: l)
def wpRet (T : List (Nat × AV)) (M : List (Nat × Blk)) (ks : List RK) (K : AV → Prop) : Prop := wpRess T M ks fun l => match l with
  | [x] => K x
  | l => K (.tup l)

theorem wpRess_sound {T : List (Nat × AV)} {M : List (Nat × Blk)} (ks : List RK) : ∀ {K : List AV → Prop}, wpRess T M ks K → ∃ l, resVs T (getM M) ks = some l ∧ K l := by
  induction ks with
  | nil => intro K h; exact ⟨[], rfl, h⟩
  | cons k r ih =>
    intro K h
    have : ∃ x, resV T (getM M) k = some x ∧ wpRess T M r (fun l => K (x :: l)) := by
      cases k with
      | t t =>
        simp only [wpRess, wpRes, frc_eq, lk_eq] at h
        exact ⟨_, rfl, h⟩
      | c a ag n =>
        simp only [wpRess, wpRes, lk_eq] at h
        exact wpLoad_sound h
    obtain ⟨x, h1, h2⟩ := this
    obtain ⟨l, h3, h4⟩ := ih h2
    exact ⟨x :: l, by simp [resVs, h1, h3], h4⟩

theorem RetS.of {N : Nat} {ks : List RK} {post : Mu} {r : AV} {T : List (Nat × AV)} {M : List (Nat × Blk)} (h : wpRet T M ks fun x => Rt N post r x M) : RetS N ks post r T M := by
  obtain ⟨l, h1, h2⟩ := wpRess_sound ks h
  have : ∃ x, resAV T (getM M) ks = some x ∧ Rt N post r x M := by
    unfold resAV
    rw [h1]
    match l, h2 with
    | [], h2 => exact ⟨_, rfl, h2⟩
    | [x], h2 => exact ⟨x, rfl, h2⟩
    | x :: y :: l, h2 => exact ⟨_, rfl, h2⟩
  obtain ⟨x, hx, h3⟩ := this
  obtain ⟨fz, mv, r', g1, g2, g3, g4⟩ := h3.a
  exact ⟨fz, mv, x, r', hx, g1, g2, g3, g4⟩

/-- A function of the program. -/
structure Fn (P : Program) (k : Nat) (cc : CC) (nt : Nat) (ks : List RK) : Prop where
  a : ∃ fn, P.funcs[k]? = some fn ∧ (∃ body, fn.body = some body ∧ compCode P fn.ntmps body = cc) ∧ (fn.name == "runtime.NumGoroutine") = false ∧ resK P fn.results.toList = some ks ∧ fn.ntmps = nt

/-- The arguments, each in its temporary. -/
def argF : List AV → Nat → (List (Nat × AV) → Prop) → Prop
  | [], _, K => K []
  | x :: r, k, K => frc x fun x => frcN (k + 1) fun k' => argF r k' fun T => K ((k, x) :: T)

theorem argF_eq (args : List AV) : ∀ (k : Nat) (K : List (Nat × AV) → Prop), argF args k K = K ((args.zipIdx k).map fun p => (p.2, p.1)) := by
  induction args with
  | nil => intro k K; rfl
  | cons x r ih => intro k K; simp only [argF, frc_eq, frcN_eq, ih, List.zipIdx_cons, List.map_cons]

theorem getM_app (l : List (Nat × Blk)) : ∀ M : List (Nat × Blk), getM (l.reverse ++ M) = app (getM M) (l.map fun p => (p.1, some p.2)) := by
  induction l with
  | nil => intro M; rfl
  | cons p r ih =>
    intro M
    obtain ⟨b, k⟩ := p
    rw [List.reverse_cons, List.append_assoc, ih]
    simp only [List.cons_append, List.nil_append, getM_upd, List.map_cons, app]

theorem Fn.fs {k : Nat} {cc : CC} {ks : List RK} {N : Nat} {args : List AV} {pre : List (Nat × Blk)} {r : AV} {post : Wr} (h : Fn P k cc nt ks) (hn2 : args.length ≤ nt)
    (hs : ∀ D, N % 4 = 0 → ¬ Gar D N → (∀ b, preMu pre b ≠ none → ¬ Gar D b) → argF args 0 fun T => wpC P nt cc ⟨T, pre.reverse, D, 0⟩ (RetQ N ks (app (preMu pre) post) r)) : FS P N k args pre r post := by
  obtain ⟨fn, h1, h2, h3, h4, h5⟩ := h.a
  refine fs_fun h1 h2 h3 h4 h5 hn2 _ rfl _ rfl fun D h4 a b => ?_
  have := hs D h4 a b
  rw [argF_eq] at this
  refine Safe.weak (S' := ⟨argT args, pre.reverse, D, 0⟩) (fun F io a w hC => ⟨io, ⟨?_, hC.low, hC.outN, hC.n4⟩⟩) (wpC_sound _ this)
  have e : getM (wrM [] (pre.map fun p => (p.1, some p.2))) = getM pre.reverse := by
    rw [getM_wr]
    have := getM_app pre []
    simp only [List.append_nil] at this
    rw [this]
  have hc := hC.c
  rw [e] at hc
  exact hc

theorem Fn.pure {k : Nat} {cc : CC} {ks : List RK} {N : Nat} {args : List AV} {r : AV} (h : Fn P k cc nt ks) (hn2 : args.length ≤ nt)
    (hs : ∀ D, ¬ Gar D N → argF args 0 fun T => wpC P nt cc ⟨T, [], D, 0⟩ (RetQ N ks (fun _ => none) r)) : FS P N k args [] r [] :=
  h.fs hn2 fun D _ a _ => hs D a

end Go.Proofs.Ytneoeegpceompaa.AM
