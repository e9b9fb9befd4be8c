/-
The abstract machine, part 5: addresses, fields, elements, loads.
-/
import Derived.Test.YtneoeegpceompaaM4
namespace Go.Proofs.Ytneoeegpceompaa.AM
open Go

variable {P : Program}

theorem add_lit (k o n : Nat) : (⟨k, o, none⟩ : Addr).add n = ⟨k, o + n, none⟩ := by
  unfold Addr.add
  split
  · rename_i h; subst h; rfl
  · rfl

/-- What is known of a slice's element type. -/
theorem telinfo_inv {t e n b : Nat} {z : List Value} (h : telinfo P t = some (e, n, b, z)) :
    P.underlying t = some (.slice e) ∧ ∃ i, P.info? e = some i ∧ i.size = n ∧ i.bytes = b ∧ (∃ zv, i.zero = some zv ∧ zv.cells = z.toArray) ∧ 0 < n ∧ b ≤ 100000 ∧ z.length = n ∧ ∀ u ∈ z, u.oneCell' = true := by
  unfold telinfo at h
  split at h
  · rename_i e' he
    split at h
    · rename_i n' b' z' hn hb hz
      split at h
      · rename_i hc
        simp only [Option.some.injEq, Prod.mk.injEq] at h
        obtain ⟨rfl, rfl, rfl, rfl⟩ := h
        unfold telem at he
        split at he
        · rename_i e2 hu
          injection he with he
          subst he
          refine ⟨hu, ?_⟩
          unfold tsz at hn
          obtain ⟨i, hi, hin⟩ := Option.map_eq_some_iff.1 hn
          unfold tbytes at hb
          rw [hi] at hb
          simp at hb
          unfold tzero at hz
          rw [hi] at hz
          simp only [Option.bind_some] at hz
          split at hz
          · rename_i zv hzv
            split at hz
            · rename_i hall
              injection hz with hz
              subst hz
              refine ⟨i, hi, hin, hb, ⟨zv, hzv, by simp⟩, hc.1, hc.2.1, hc.2.2, fun u hu => ?_⟩
              rw [Array.all_eq_true_iff_forall_mem] at hall
              exact hall u (by simpa using hu)
            · cases hz
          · cases hz
        · cases he
      · cases h
    · cases h
  · cases h

theorem tzero_inv {t : Nat} {z : List Value} (h : tzero P t = some z) : ∃ i zv, P.info? t = some i ∧ i.zero = some zv ∧ zv.cells = z.toArray ∧ ∀ u ∈ z, u.oneCell' = true := by
  unfold tzero at h
  cases hi : P.info? t with
  | none => rw [hi] at h; cases h
  | some i =>
    rw [hi] at h
    simp only [Option.bind_some] at h
    split at h
    · rename_i zv hzv
      split at h
      · rename_i hall
        injection h with h
        subst h
        refine ⟨i, zv, rfl, hzv, by simp, fun u hu => ?_⟩
        rw [Array.all_eq_true_iff_forall_mem] at hall
        exact hall u (by simpa using hu)
      · cases h
    · cases h

theorem tsz_inv {t n : Nat} (h : tsz P t = some n) : ∃ i, P.info? t = some i ∧ i.size = n := Option.map_eq_some_iff.1 h

theorem run_sizeOf {t n : Nat} (h : tsz P t = some n) (w : World) : (sizeOf t).run P w = .ok n w := by
  obtain ⟨i, hi, rfl⟩ := tsz_inv h
  simp [sizeOf, typeInfo, hi]

theorem run_isAgg {t : Nat} {ag : Bool} (h : tag P t = some ag) (w : World) : (isAgg t).run P w = .ok ag w := by
  unfold tag at h
  obtain ⟨d, hd, h⟩ := Option.map_eq_some_iff.1 h
  subst h
  cases d <;> simp [isAgg, run_underlying hd]

theorem run_zero {t : Nat} {z : List Value} (h : tzero P t = some z) (w : World) : ∃ zv, (zeroValue t).run P w = .ok zv w ∧ zv.cells = z.toArray := by
  obtain ⟨i, zv, hi, hz, hc, _⟩ := tzero_inv h
  exact ⟨zv, by simp [zeroValue, typeInfo, hi, hz], hc⟩

/-- Some cells out of a value's. -/
theorem Rels.part {E : Env} {cs : List AV} {us : List Value} (h : Rels E cs us) (off n : Nat) : Rels E ((cs.drop off).take n) ((us.drop off).take n) := by
  refine ⟨by simp [h.1], fun j x u hx hu => ?_⟩
  rw [List.getElem?_take] at hx hu
  split at hx
  · rename_i hj
    rw [if_pos hj] at hu
    rw [List.getElem?_drop] at hx hu
    exact h.2 _ _ _ hx hu
  · cases hx

/-- A value made of cells. -/
theorem mk_rel {E : Env} {ag : Bool} {cs : List AV} {x : AV} (h : mkAV ag cs = some x) {us : List Value} (hr : Rels E cs us) (h1 : ∀ u ∈ us, u.oneCell' = true) :
    ∃ v, Rel E x v ∧ (ag = true → v = .agg us.toArray) ∧ (ag = false → us = [v]) := by
  cases ag with
  | true =>
    injection h with h
    subst h
    exact ⟨_, .agg' hr h1, fun _ => rfl, fun h => by cases h⟩
  | false =>
    match cs, h with
    | [y], h =>
      injection h with h
      subst h
      obtain ⟨u, vs, rfl, hu, ht⟩ := hr.cons_inv
      have := ht.nil_inv
      subst this
      exact ⟨u, hu, ⟨fun h => Bool.noConfusion h, fun _ => rfl⟩⟩

/-- part of a value -/
theorem run_part {t n : Nat} {ag : Bool} (hag : tag P t = some ag) (hn : tsz P t = some n) (h1 : ag = true ∨ n = 1) {us : List Value} {off : Nat} (hoff : off + n ≤ us.length) {v : Value} (hv1 : ag = true → v = .agg ((us.drop off).take n).toArray) (hv2 : ag = false → (us.drop off).take n = [v]) (w : World) :
    (part t us.toArray off).run P w = .ok v w := by
  cases ag with
  | true =>
    rw [hv1 rfl]
    have hx : us.toArray.extract off (off + n) = ((us.drop off).take n).toArray := by
      simp [List.extract_toArray]
    simp [part, run_isAgg hag, run_sizeOf hn]
  | false =>
    have hn1 : n = 1 := by simpa using h1
    subst hn1
    have h2 := hv2 rfl
    have : us[off]? = some v := by
      have h3 : ((us.drop off).take 1)[0]? = some v := by rw [h2]; rfl
      simpa [List.getElem?_take, List.getElem?_drop] using h3
    have hlt : off < us.length := by omega
    have hg : us[off] = v := by simpa [List.getElem?_eq_getElem hlt] using this
    simp [part, run_isAgg hag, hlt, hg]

section
variable {X : Nat → Prop} {N : Nat} {io : Nat → Option (Option Nat)} {μ : Mu} {w : World} {a : Act} {g : Nat → AV} (hM : Mem X io μ w) (hg : ∀ t, Rel (envOf X io μ w) (g t) (a.tmps.getD t undef))
include hM hg

theorem ok_field {o : Oper} (t f u n off : Nat) (ag : Bool) (x : Operand) (ho : o.op = .field t x f) (hf : tfield P t f = some (off, u)) (hag : tag P u = some ag) (hn : tsz P u = some n) (h1 : ag = true ∨ n = 1)
    {r : AV} {wr : Wr} (h : evalCO g μ N (.field ag n off x) = some (r, wr)) : OpOK P X N io μ w a o r wr := by
  simp only [evalCO] at h
  split at h
  · rename_i cs hx
    split at h
    · rename_i hle
      obtain ⟨h2, rfl⟩ := pureR_inv h
      have hr := hx ▸ ev_rel hg x
      cases hv : a.eval x with
      | agg us' =>
        rw [hv] at hr
        cases hr with
        | agg _ us hl hone hrel =>
          obtain ⟨v, hrv, hv1, hv2⟩ := mk_rel h2 (Rels.part ⟨hl, hrel⟩ off n) (fun y hy => hone y (List.mem_of_mem_drop (List.mem_of_mem_take hy)))
          refine OpOK.pure hM (v := v) ?_ hrv
          unfold tfield at hf
          split at hf
          · rename_i fs hu
            obtain ⟨fl, hfl, hfe⟩ := Option.map_eq_some_iff.1 hf
            simp only [Prod.mk.injEq] at hfe
            obtain ⟨rfl, rfl⟩ := hfe
            have hp := run_part (P := P) hag hn h1 (us := us) (off := fl.offset) (by rw [← hl]; exact hle) hv1 hv2 w
            simp [execOp, ho, Instr.field, run_underlying hu, hfl, hv, asAgg, hp]
          · cases hf
      | _ => rw [hv] at hr; cases hr
    · cases h
  · cases h

theorem ok_aindex {o : Oper} (t e n len : Nat) (ag : Bool) (x i : Operand) (ho : o.op = .index t x i) (hu : P.underlying t = some (.array len e)) (hag : tag P e = some ag) (hn : tsz P e = some n) (h1 : ag = true ∨ n = 1)
    {r : AV} {wr : Wr} (h : evalCO g μ N (.aindex ag n n len x i) = some (r, wr)) : OpOK P X N io μ w a o r wr := by
  simp only [evalCO] at h
  split at h
  · rename_i cs k m hx hi
    split at h
    · rename_i hc
      obtain ⟨h2, rfl⟩ := pureR_inv h
      have hr := hx ▸ ev_rel hg x
      have hiv := rel_v (hi ▸ ev_rel hg i)
      cases hv : a.eval x with
      | agg us' =>
        rw [hv] at hr
        cases hr with
        | agg _ us hl hone hrel =>
          obtain ⟨v, hrv, hv1, hv2⟩ := mk_rel h2 (Rels.part ⟨hl, hrel⟩ (m.toNat * n) n) (fun y hy => hone y (List.mem_of_mem_drop (List.mem_of_mem_take hy)))
          refine OpOK.pure hM (v := v) ?_ hrv
          have hp := run_part (P := P) hag hn h1 (us := us) (off := m.toNat * n) (by rw [← hl]; exact hc.2.2) hv1 hv2 w
          simp [execOp, ho, Instr.index, run_underlying hu, hv, hiv, asIntOf, hc.1, hc.2.1, run_sizeOf hn, hp]
      | _ => rw [hv] at hr; cases hr
    · cases h
  · cases h

theorem ok_sindex {o : Oper} (t : Nat) (x i : Operand) (ho : o.op = .index t x i) (hu : P.underlying t = some .string)
    {r : AV} {wr : Wr} (h : evalCO g μ N (.sindex x i) = some (r, wr)) : OpOK P X N io μ w a o r wr := by
  simp only [evalCO] at h
  split at h
  · rename_i s k m hx hi
    split at h
    · rename_i hc
      obtain ⟨v, h2, rfl, rfl⟩ := pureV_inv h
      have hxv := rel_v (hx ▸ ev_rel hg x)
      have hiv := rel_v (hi ▸ ev_rel hg i)
      cases hb : s[m.toNat]? with
      | none => rw [hb] at h2; cases h2
      | some b =>
        rw [hb] at h2
        injection h2 with h2
        subst h2
        refine OpOK.pure hM (v := .int .u8 b.toNat) ?_ (.v _)
        simp [execOp, ho, Instr.index, run_underlying hu, hxv, hiv, asIntOf, hc, hb]
    · cases h
  · cases h

theorem ok_faddr {o : Oper} (t f u n off : Nat) (x : Operand) (ho : o.op = .fieldAddr t x f) (hf : tfield P t f = some (off, u)) (hn : tsz P u = some n) (h0 : n ≠ 0)
    {r : AV} {wr : Wr} (h : evalCO g μ N (.faddr off x) = some (r, wr)) : OpOK P X N io μ w a o r wr := by
  simp only [evalCO] at h
  unfold tfield at hf
  split at hf
  · rename_i fs hu
    obtain ⟨fl, hfl, hfe⟩ := Option.map_eq_some_iff.1 hf
    simp only [Prod.mk.injEq] at hfe
    obtain ⟨rfl, rfl⟩ := hfe
    split at h
    · rename_i b sz i o' hx
      obtain ⟨h2, rfl⟩ := pureR_inv h
      injection h2 with h2
      subst h2
      have hr := hx ▸ ev_rel hg x
      generalize hv : a.eval x = v at hr
      cases hr with
      | pt _ _ _ _ k hk =>
        refine OpOK.pure hM (v := .pointer (some ⟨k, i * sz + (o' + fl.offset), none⟩)) ?_ (.pt _ _ _ _ k hk)
        simp [execOp, ho, Instr.fieldAt, run_underlying hu, hfl, hv, Instr.sureAddr, fieldPlace, run_sizeOf hn, h0, add_lit, Nat.add_assoc]
    · rename_i cs hx
      obtain ⟨h2, rfl⟩ := pureR_inv h
      injection h2 with h2
      subst h2
      have hr := hx ▸ ev_rel hg x
      generalize hv : a.eval x = v at hr
      cases hr with
      | ipt _ k oo u him hc hrel =>
        refine OpOK.pure hM (v := .pointer (some ⟨k, oo + fl.offset, none⟩)) ?_ (.ipt _ k (oo + fl.offset) (fun j => u (fl.offset + j)) him (fun j hj => ?_) (fun j x hx => ?_))
        · simp [execOp, ho, Instr.fieldAt, run_underlying hu, hfl, hv, Instr.sureAddr, fieldPlace, run_sizeOf hn, h0, add_lit]
        · have := hc (fl.offset + j) (by simp at hj; omega)
          rw [Nat.add_assoc]; exact this
        · rw [List.getElem?_drop] at hx; exact hrel _ _ hx
    · cases h
  · cases hf

theorem ok_iaddr {o : Oper} (t e n b : Nat) (z : List Value) (x i : Operand) (ho : o.op = .indexAddr t x i) (ht : telinfo P t = some (e, n, b, z))
    {r : AV} {wr : Wr} (h : evalCO g μ N (.iaddr n x i) = some (r, wr)) : OpOK P X N io μ w a o r wr := by
  obtain ⟨hu, inf, hinf, hsz, _, _, hpos, _⟩ := telinfo_inv ht
  have hsize : tsz P e = some n := by simp [tsz, hinf, hsz]
  simp only [evalCO] at h
  split at h
  · rename_i s es k m hx hi
    split at h
    · rename_i hc
      obtain ⟨hs, h0, hlt⟩ := hc
      subst hs
      obtain ⟨h2, rfl⟩ := pureR_inv h
      injection h2 with h2
      subst h2
      have hr := hx ▸ ev_rel hg x
      have hiv := rel_v (hi ▸ ev_rel hg i)
      generalize hv : a.eval x = v at hr
      cases hr with
      | sl0 => simp at hlt; omega
      | sl _ _ k' oo c u hl him hn hlc hc hrel =>
        have hm : m.toNat < es.length := by omega
        have hget : es.getD m.toNat [] = es[m.toNat] := by simp [List.getD, hm]
        rw [hget]
        have hlen : es[m.toNat].length = s := hl _ (List.getElem_mem _)
        refine OpOK.pure hM (v := .pointer (some ⟨k', oo + m.toNat * s, none⟩)) ?_ (.ipt _ k' _ (fun j => u m.toNat j) him (fun j hj => ?_) (fun j x hx => ?_))
        · simp [execOp, ho, Instr.indexAt, run_underlying hu, hv, hiv, asIntOf, h0, hlt, run_sizeOf hsize, add_lit]
        · have := hc m.toNat j hm (by omega)
          rw [Nat.add_assoc]; exact this
        · exact hrel m.toNat j x (by simp [cellAt, hm, hx])
    · cases h
  · rename_i b' s off len k m hx hi
    split at h
    · rename_i hc
      obtain ⟨hs, h0, hlt⟩ := hc
      subst hs
      obtain ⟨h2, rfl⟩ := pureR_inv h
      injection h2 with h2
      subst h2
      have hr := hx ▸ ev_rel hg x
      have hiv := rel_v (hi ▸ ev_rel hg i)
      generalize hv : a.eval x = v at hr
      cases hr with
      | rowz => simp at hlt; omega
      | row _ _ _ _ k' c A cur ty hk hA hb hcc hl hm =>
        obtain rfl := hA (by omega)
        refine OpOK.pure hM (v := .pointer (some ⟨k', (off + m.toNat) * s + 0, none⟩)) ?_ (.pt _ _ _ _ k' hk)
        simp [execOp, ho, Instr.indexAt, run_underlying hu, hv, hiv, asIntOf, h0, hlt, run_sizeOf hsize, add_lit, Nat.add_mul]
    · cases h
  · cases h

theorem ok_len {o : Oper} (t e : Nat) (x : Operand) (ho : o.op = .call { callee := .builtin .len, args := #[x], argTypes := #[t] }) (hu : P.underlying t = some (.slice e))
    {r : AV} {wr : Wr} (h : evalCO g μ N (.len x) = some (r, wr)) : OpOK P X N io μ w a o r wr := by
  simp only [evalCO] at h
  obtain ⟨v, h2, rfl, rfl⟩ := pureV_inv h
  obtain ⟨n, hn, h2⟩ := Option.map_eq_some_iff.1 h2
  subst h2
  obtain ⟨A', m', c', hv', rfl⟩ := len_rel hn (ev_rel hg x)
  refine OpOK.pure hM (v := .int .i64 m') ?_ (.v _)
  simp [execOp, ho, resolve, invoke, builtin, Builtin.len_, run_underlying hu, hv', goInt]

theorem ok_slen {o : Oper} (t : Nat) (x : Operand) (ho : o.op = .call { callee := .builtin .len, args := #[x], argTypes := #[t] }) (hu : P.underlying t = some .string)
    {r : AV} {wr : Wr} (h : evalCO g μ N (.slen x) = some (r, wr)) : OpOK P X N io μ w a o r wr := by
  simp only [evalCO] at h
  split at h
  · rename_i s hx
    obtain ⟨v, h2, rfl, rfl⟩ := pureV_inv h
    injection h2 with h2
    subst h2
    have hv := rel_v (hx ▸ ev_rel hg x)
    refine OpOK.pure hM (v := .int .i64 s.size) ?_ (.v _)
    simp [execOp, ho, resolve, invoke, builtin, Builtin.len_, run_underlying hu, hv, goInt]
  · cases h

theorem ok_cap {o : Oper} (t e : Nat) (x : Operand) (ho : o.op = .call { callee := .builtin .cap, args := #[x], argTypes := #[t] }) (hu : P.underlying t = some (.slice e))
    {r : AV} {wr : Wr} (h : evalCO g μ N (.cap x) = some (r, wr)) : OpOK P X N io μ w a o r wr := by
  simp only [evalCO] at h
  have fin : ∀ A m c, a.eval x = .slice A m c → OpOK P X N io μ w a o (.v (.int .i64 (c : Int))) [] := fun A m c hv =>
    OpOK.pure hM (v := .int .i64 (c : Int)) (by simp [execOp, ho, resolve, invoke, builtin, Builtin.cap_, run_underlying hu, hv, goInt]) (.v _)
  split at h
  · rename_i b s off len hx
    split at h
    · rename_i k hk
      split at h
      · rename_i c hc
        split at h
        · rename_i hcond
          obtain ⟨hs, hoff, hpos, hlen⟩ := hcond
          obtain ⟨v, h2, rfl, rfl⟩ := pureV_inv h
          injection h2 with h2
          subst h2
          have hr := hx ▸ ev_rel hg x
          obtain ⟨hl, hmx, hb⟩ := hM.ok b k hk
          generalize hv : a.eval x = v at hr
          cases hr with
          | rowz _ _ A hz =>
            omega
          | row _ _ _ _ k' c' A cur ty hk' hA hb' hcc hlc hmc =>
            rcases hb with ⟨h1, h2⟩ | ⟨p, cur2, h1, h2, h3, h4, h5⟩
            · rw [hk'] at h1; cases h1
            · have e1 : k' = p := by have := hk'.symm.trans h1; simpa using this
              subst e1
              rw [h2] at hb'
              injection hb' with hb'
              injection hb' with hb' _ _
              subst hb'
              have e2 := h4 c hc
              rw [hs] at e2
              have e3 : off + c' = c := Nat.eq_of_mul_eq_mul_right hpos (hcc.trans e2)
              have e4 : c - off = c' := by omega
              rw [e4]
              exact fin _ _ _ hv
        · cases h
      · cases h
    · cases h
  · rename_i hx
    obtain ⟨v, h2, rfl, rfl⟩ := pureV_inv h
    injection h2 with h2
    subst h2
    have hr := hx ▸ ev_rel hg x
    generalize hv : a.eval x = v at hr
    cases hr with
    | z0 A => exact fin _ _ _ hv
  · rename_i hx
    obtain ⟨v, h2, rfl, rfl⟩ := pureV_inv h
    injection h2 with h2
    subst h2
    exact fin _ _ _ (rel_v (hx ▸ ev_rel hg x))
  · cases h

end

end Go.Proofs.Ytneoeegpceompaa.AM
