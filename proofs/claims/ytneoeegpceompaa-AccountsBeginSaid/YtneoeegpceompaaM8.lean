/-
The abstract machine, part 8: slices of slices; new memory; stores.
-/
import Derived.Test.YtneoeegpceompaaM7
namespace Go.Proofs.Ytneoeegpceompaa.AM
open Go

variable {P : Program}

theorem bnd_val {E : Env} {g : Nat → AV} {a : Act} (hg : ∀ t, Rel E (g t) (a.tmps.getD t undef)) {o : Option Operand} {n : Option Int} (h : bnd g o = some n) :
    (o = none ∧ n = none) ∨ ∃ x k m, o = some x ∧ n = some m ∧ a.eval x = .int k m := by
  cases o with
  | none => injection h with h; exact .inl ⟨rfl, h.symm⟩
  | some x =>
    simp only [bnd] at h
    split at h
    · rename_i k m hx
      injection h with h
      exact .inr ⟨x, k, m, rfl, h.symm, rel_v (hx ▸ ev_rel hg x)⟩
    · cases h

theorem run_sliceBound (k : IntKind) (i : Int) (y : Nat) (c : BoundsCode) (h0 : 0 ≤ i) (h1 : i ≤ y) (w : World) : (Instr.sliceBound (.int k i) y c).run P w = .ok i.toNat w := by
  simp [Instr.sliceBound, asIntOf, h0, h1]

theorem run_sliceBounds {lo hi : Option Value} {len cap : Nat} {L H : Int} (hlo : lo = none ∧ L = 0 ∨ ∃ k, lo = some (.int k L)) (hhi : hi = none ∧ H = len ∨ ∃ k, hi = some (.int k H)) (h0 : 0 ≤ L) (h1 : L ≤ H) (h2 : H ≤ cap) (w : World) :
    (Instr.sliceBounds true len cap lo hi none).run P w = .ok (L.toNat, H.toNat, cap) w := by
  have hH : ((H.toNat : Nat) : Int) = H := by omega
  rcases hlo with ⟨rfl, rfl⟩ | ⟨k, rfl⟩ <;> rcases hhi with ⟨rfl, rfl⟩ | ⟨k', rfl⟩
  · simp [Instr.sliceBounds]
  · simp [Instr.sliceBounds, run_sliceBound k' H cap _ (by omega) h2]
  · simp [Instr.sliceBounds, run_sliceBound k L len _ h0 h1]
  · simp [Instr.sliceBounds, run_sliceBound k' H cap _ (by omega) h2, run_sliceBound k L H.toNat _ h0 (by omega)]

theorem run_sliceBounds3 {lo : Option Value} {len cap : Nat} {L H M : Int} {k' k'' : IntKind} (hlo : lo = none ∧ L = 0 ∨ ∃ k, lo = some (.int k L)) (h0 : 0 ≤ L) (h1 : L ≤ H) (h2 : H ≤ M) (h3 : M ≤ cap) (w : World) :
    (Instr.sliceBounds true len cap lo (some (.int k' H)) (some (.int k'' M))).run P w = .ok (L.toNat, H.toNat, M.toNat) w := by
  have hH : ((H.toNat : Nat) : Int) = H := by omega
  rcases hlo with ⟨rfl, rfl⟩ | ⟨k, rfl⟩
  · simp [Instr.sliceBounds, run_sliceBound k'' M cap _ (by omega) h3, run_sliceBound k' H M.toNat _ (by omega) (by omega)]
  · simp [Instr.sliceBounds, run_sliceBound k'' M cap _ (by omega) h3, run_sliceBound k' H M.toNat _ (by omega) (by omega), run_sliceBound k L H.toNat _ h0 (by omega)]

/-- Where a slice of a slice begins. -/
def slAddr (A : Option Addr) (l m sz : Nat) : Option Addr := if m = l then A else A.map (·.add (l * sz))

/-- A slice of a slice, related. -/
theorem slice_rel {E : Env} {sz : Nat} {x y : AV} {n L H : Int} {M : Option Int} (hn : lenAV x = some n) (h : sliceAV sz x L H M = some y) {u : Value} (hr : Rel E x u) (hpos : 0 < sz) :
    ∃ A len c, u = .slice A len c ∧ n = len ∧ 0 ≤ L ∧ L ≤ H ∧ (M = none → H ≤ c ∧ Rel E y (.slice (slAddr A L.toNat c sz) (H.toNat - L.toNat) (c - L.toNat))) ∧
      (∀ m, M = some m → H ≤ m ∧ m ≤ c ∧ Rel E y (.slice (slAddr A L.toNat m.toNat sz) (H.toNat - L.toNat) (m.toNat - L.toNat))) := by
  cases x with
  | sl s es =>
    simp only [sliceAV] at h
    split at h
    · rename_i hc
      obtain ⟨rfl, h0, h1, h2⟩ := hc
      injection hn with hn
      have key : ∀ A c, Rel E (.sl s es) (.slice A es.length c) → es.length ≤ c → ∀ m : Nat, H ≤ m → m ≤ c → Rel E (.sl s ((es.drop L.toNat).take (H.toNat - L.toNat))) (.slice (slAddr A L.toNat m s) (H.toNat - L.toNat) (m - L.toNat)) := by
        intro A c hr hlc m hHm hmc
        have hlen : ((es.drop L.toNat).take (H.toNat - L.toNat)).length = H.toNat - L.toNat := by simp; omega
        by_cases he : H.toNat - L.toNat = 0
        · rw [he, List.take_zero]
          exact .sl0 _ _ _
        · generalize hu : Value.slice A es.length c = u at hr
          cases hr with
          | sl0 =>
            simp at h2; omega
          | sl _ _ k o c' u hl him hmx hlc' hcell hrel =>
            injection hu with hA _ hcc
            subst hA
            have hlt : ¬ (m = L.toNat) := by omega
            have := Rel.sl (E := E) s ((es.drop L.toNat).take (H.toNat - L.toNat)) k (o + L.toNat * s) (m - L.toNat) (fun i j => u (L.toNat + i) j)
              (fun e he => hl e (List.mem_of_mem_drop (List.mem_of_mem_take he))) him (by rw [hlen]; omega) (by rw [hlen]; omega)
              (fun i j hi hj => by
                rw [hlen] at hi
                have := hcell (L.toNat + i) j (by omega) hj
                rw [show o + L.toNat * s + (i * s + j) = o + ((L.toNat + i) * s + j) by rw [Nat.add_mul]; omega]
                exact this)
              (fun i j x hx => by
                refine hrel (L.toNat + i) j x ?_
                unfold cellAt at hx ⊢
                rw [List.getElem?_take] at hx
                split at hx
                · rw [List.getElem?_drop] at hx; exact hx
                · cases hx)
            rw [hlen] at this
            simp only [slAddr, if_neg hlt, Option.map_some, add_lit]
            exact this
      have hu : ∃ A c, u = .slice A es.length c ∧ es.length ≤ c := by
        cases hr with
        | sl0 _ A c => exact ⟨A, c, rfl, Nat.zero_le _⟩
        | sl _ _ k o c u _ _ _ hlc => exact ⟨_, _, rfl, hlc⟩
      obtain ⟨A, c, rfl, hlc⟩ := hu
      refine ⟨A, es.length, c, rfl, hn.symm, h0, h1, fun hM => ?_, fun m hM => ?_⟩
      · subst hM
        injection h with h
        subst h
        exact ⟨by omega, key A c hr hlc c (by omega) (Nat.le_refl _)⟩
      · subst hM
        simp only at h
        split at h
        · rename_i hm
          refine ⟨hm.1, by omega, ?_⟩
          split at h
          · rename_i hm0
            injection h with h
            subst h
            obtain rfl : m = 0 := hm0
            have e1 : L = 0 := by omega
            have e2 : H = 0 := by omega
            subst e1; subst e2
            exact .z0 _
          · injection h with h
            subst h
            exact key A c hr hlc m.toNat (by omega) (by omega)
        · cases h
    · cases h
  | row b s off len =>
    simp only [sliceAV] at h
    split at h
    · rename_i hc
      obtain ⟨rfl, h0, h1, h2⟩ := hc
      injection hn with hn
      cases hr with
      | rowz _ _ A hz =>
        have e2 : H = 0 := by simp at h2; omega
        have e1 : L = 0 := by omega
        subst e1; subst e2
        refine ⟨A, 0, 0, rfl, hn.symm, h0, h1, fun hM => ?_, fun m hM => ?_⟩
        · subst hM
          injection h with h
          subst h
          exact ⟨by simp, .rowz _ _ _ hz⟩
        · subst hM
          simp only at h
          split at h
          · rename_i hm
            injection h with h
            subst h
            exact ⟨hm.1, hm.2, .any _⟩
          · cases h
      | row _ _ _ _ k c A cur ty hk hA hb hcc hl hm =>
        refine ⟨A, len, c, rfl, hn.symm, h0, h1, fun hM => ?_, fun m hM => ?_⟩
        · subst hM
          injection h with h
          subst h
          refine ⟨by omega, .row b s (off + L.toNat) (H.toNat - L.toNat) k (c - L.toNat) _ cur ty hk (fun hne => ?_) hb (by rw [← hcc]; congr 1; omega) (by omega) (by omega)⟩
          obtain rfl := hA (by omega)
          simp only [slAddr, if_neg (show ¬ c = L.toNat by omega), Option.map_some, add_lit, Nat.add_mul]
        · subst hM
          simp only at h
          split at h
          · rename_i hm
            injection h with h
            subst h
            exact ⟨hm.1, by omega, .any _⟩
          · cases h
    · cases h
  | z0 =>
    simp only [sliceAV] at h
    split at h
    · rename_i hc
      obtain ⟨rfl, rfl, hM⟩ := hc
      injection h with h
      subst h
      injection hn with hn
      cases hr with
      | z0 A => exact ⟨A, 0, 0, rfl, hn.symm, Int.le_refl _, Int.le_refl _, fun _ => ⟨by simp, .z0 _⟩, fun m hm => by
          rcases hM with hM | hM
          · rw [hM] at hm; cases hm
          · rw [hM] at hm; injection hm with hm; subst hm; exact ⟨Int.le_refl _, by simp, .z0 _⟩⟩
    · cases h
  | v y =>
    have := rel_v hr
    subst this
    cases u with
    | slice A len c =>
      simp only [sliceAV] at h
      split at h
      · cases ‹AV.v (Value.slice A len c) = AV.sl _ _›
      · cases ‹AV.v (Value.slice A len c) = AV.row _ _ _ _›
      · cases ‹AV.v (Value.slice A len c) = AV.z0›
      · rename_i he
        injection he with he
        injection he with e1 e2 e3
        subst e1; subst e2; subst e3
        split at h
        · rename_i hc
          obtain ⟨rfl, rfl, hM⟩ := hc
          injection h with h
          subst h
          simp [lenAV] at hn
          exact ⟨none, 0, 0, rfl, by simp [hn], Int.le_refl _, Int.le_refl _, fun _ => ⟨by simp, by simp [slAddr]; exact .v _⟩, fun m hm => by
            rcases hM with hM | hM
            · rw [hM] at hm; cases hm
            · rw [hM] at hm; injection hm with hm; subst hm; exact ⟨Int.le_refl _, by simp, by simp [slAddr]; exact .v _⟩⟩
        · cases h
      · cases h
    | _ => simp [lenAV] at hn
  | _ => simp [lenAV] at hn

section
variable {X : Nat → Prop} {N : Nat} {io : Nat → Option (Option Nat)} {μ : Mu} {w : World} {a : Act} {g : Nat → AV} (hM : Mem X io μ w) (hg : ∀ t, Rel (envOf X io μ w) (g t) (a.tmps.getD t undef))
include hM hg

theorem ok_slice {o : Oper} (t e n b : Nat) (z : List Value) (x : Operand) (lo hi mx : Option Operand) (ho : o.op = .slice t x lo hi mx) (ht : telinfo P t = some (e, n, b, z))
    {r : AV} {wr : Wr} (h : evalCO g μ N (.slice n x lo hi mx) = some (r, wr)) : OpOK P X N io μ w a o r wr := by
  obtain ⟨hu, inf, hinf, hsz, _, _, hpos, _⟩ := telinfo_inv ht
  have hsize : tsz P e = some n := by simp [tsz, hinf, hsz]
  simp only [evalCO] at h
  obtain ⟨h3, rfl⟩ := pureR_inv h
  unfold sliceCO at h3
  split at h3
  · rename_i m l h' hm hL hH hMx
    obtain ⟨A, len, c, hv, hlen, h0, h1, hk, _⟩ := slice_rel hm h3 (ev_rel hg x) hpos
    obtain ⟨hHc, hrel⟩ := hk rfl
    refine OpOK.pure hM (v := _) ?_ hrel
    have hmx : mx = none := by
      rcases bnd_val hg hMx with ⟨h4, _⟩ | ⟨y, k, v, h4, h5, _⟩
      · exact h4
      · cases h5
    subst hmx
    have hlo : lo.map a.eval = none ∧ l.getD 0 = 0 ∨ ∃ k, lo.map a.eval = some (.int k (l.getD 0)) := by
      rcases bnd_val hg hL with ⟨rfl, rfl⟩ | ⟨y, k, v, rfl, rfl, hy⟩
      · exact .inl ⟨rfl, rfl⟩
      · exact .inr ⟨k, by simp [hy]⟩
    have hhi : hi.map a.eval = none ∧ h'.getD m = len ∨ ∃ k, hi.map a.eval = some (.int k (h'.getD m)) := by
      rcases bnd_val hg hH with ⟨rfl, rfl⟩ | ⟨y, k, v, rfl, rfl, hy⟩
      · exact .inl ⟨rfl, hlen⟩
      · exact .inr ⟨k, by simp [hy]⟩
    have hb := run_sliceBounds (P := P) hlo hhi h0 h1 hHc w
    simp [execOp, ho, Instr.sliceAt, run_underlying hu, Instr.slice, hv, hb, run_sizeOf hsize, slAddr]
  · rename_i m l h' mm hm hL hH hMx
    obtain ⟨A, len, c, hv, hlen, h0, h1, _, hk⟩ := slice_rel hm h3 (ev_rel hg x) hpos
    obtain ⟨hHM, hMc, hrel⟩ := hk mm rfl
    refine OpOK.pure hM (v := _) ?_ hrel
    have hlo : lo.map a.eval = none ∧ l.getD 0 = 0 ∨ ∃ k, lo.map a.eval = some (.int k (l.getD 0)) := by
      rcases bnd_val hg hL with ⟨rfl, rfl⟩ | ⟨y, k, v, rfl, rfl, hy⟩
      · exact .inl ⟨rfl, rfl⟩
      · exact .inr ⟨k, by simp [hy]⟩
    rcases bnd_val hg hH with ⟨_, h5⟩ | ⟨y, k', v, rfl, h5, hy⟩
    · cases h5
    · injection h5 with h5
      subst h5
      rcases bnd_val hg hMx with ⟨_, h6⟩ | ⟨y', k'', v', rfl, h6, hy'⟩
      · cases h6
      · injection h6 with h6
        subst h6
        have hb := run_sliceBounds3 (P := P) (len := len) (k' := k') (k'' := k'') hlo h0 h1 hHM hMc w
        simp [execOp, ho, Instr.sliceAt, run_underlying hu, Instr.slice, hv, hy, hy', hb, run_sizeOf hsize, slAddr]
  · cases h3

variable (hN : io N = none) (hμN : μ N = none)
include hN hμN

omit hg in
/-- A new block is laid. -/
theorem OpOK.alloc {o : Oper} {x : AV} {v : Value} (blk : Blk) (cur : Array Value)
    (hl : ∀ e ∈ blk.es, e.length = blk.sz) (hn : blk.es.length ≤ maxLen) (hs : blk.es.length * blk.sz ≤ cur.size) (hc : ∀ c, blk.cap = some c → cur.size = c * blk.sz) (hr : Holds (envOf X io μ w) cur blk.sz blk.es)
    (hrun : (execOp a.eval o).run P w = .ok (.value v) (w.alloc (.cells cur blk.ty)))
    (hx : ∀ E : Env, E.io N = some (some w.heap.size) → E.w.heap[w.heap.size]? = some (.cells cur blk.ty (0, 0)) → Rel E x v) : OpOK P X N io μ w a o x [(N, some blk)] :=
  ⟨_, v, _, _, hrun, .inl rfl, step_alloc hM hN hμN blk cur hl hn hs hc hr, hx _ (upd_same _ _ _) (heap_alloc_new w _)⟩

omit hM hg hN hμN in
theorem holds_one {E : Env} {cs : List AV} {us : List Value} (h : Rels E cs us) (h1 : ∀ u ∈ us, u.oneCell' = true) : Holds E us.toArray cs.length [cs] := fun i j x hx => by
  unfold cellAt at hx
  cases i with
  | zero =>
    simp only [List.getElem?_cons_zero, Option.bind_some] at hx
    have hj : j < us.length := by rw [← h.1]; exact (List.getElem?_eq_some_iff.1 hx).1
    exact ⟨us[j], by simp [hj], h1 _ (List.getElem_mem _), h.2 j x _ hx (List.getElem?_eq_getElem hj)⟩
  | succ i => simp at hx

theorem ok_alloc {o : Oper} (e : Nat) (z : List Value) (ho : o.op = .alloc e) (hz : tzero P e = some z) {r : AV} {wr : Wr} (h : evalCO g μ N (.alloc e z) = some (r, wr)) : OpOK P X N io μ w a o r wr := by
  have _ := hg
  simp only [evalCO, Option.some.injEq, Prod.mk.injEq] at h
  obtain ⟨rfl, rfl⟩ := h
  obtain ⟨i, zv, hi, hzv, hzc, hone⟩ := tzero_inv hz
  have hh := holds_one (consts_rel (E := envOf X io μ w) z) hone
  simp only [List.length_map] at hh
  refine OpOK.alloc hM hN hμN ⟨true, e, z.length, [z.map .v], some 1⟩ z.toArray (fun e he => by simp at he; subst he; simp) (by simp [maxLen]) (by simp) (fun c hc => by injection hc with hc; subst hc; simp) hh
    (v := .pointer (some ⟨w.heap.size, 0, none⟩)) ?_ (fun E hE _ => ?_)
  · simp [execOp, ho, Instr.alloc, zeroValue, typeInfo, hi, hzv, newVar, newRow, hzc]
  · have := Rel.pt (E := E) N z.length 0 0 w.heap.size hE
    simpa using this

theorem ok_box {o : Oper} (e n : Nat) (x : Operand) (ho : o.op = .box e x) {r : AV} {wr : Wr} (h : evalCO g μ N (.box e n x) = some (r, wr)) : OpOK P X N io μ w a o r wr := by
  simp only [evalCO] at h
  split at h
  · rename_i cs hcs
    split at h
    · rename_i hn
      subst hn
      simp only [Option.some.injEq, Prod.mk.injEq] at h
      obtain ⟨rfl, rfl⟩ := h
      obtain ⟨us, hu, hrel, hone⟩ := cells_rel hcs (ev_rel hg x)
      refine OpOK.alloc hM hN hμN ⟨true, e, cs.length, [cs], some 1⟩ us.toArray (fun e he => by simp at he; subst he; simp) (by simp [maxLen]) (by simp [hrel.1]) (fun c hc => by injection hc with hc; subst hc; simp [hrel.1]) (holds_one hrel hone)
        (v := .pointer (some ⟨w.heap.size, 0, none⟩)) ?_ (fun E hE _ => ?_)
      · simp [execOp, ho, Instr.box, newVar, newRow, hu]
      · have := Rel.pt (E := E) N cs.length 0 0 w.heap.size hE
        simpa using this
    · cases h
  · cases h

end

end Go.Proofs.Ytneoeegpceompaa.AM
