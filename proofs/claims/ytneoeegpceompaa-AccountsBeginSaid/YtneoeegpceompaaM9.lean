/-
The abstract machine, part 9: stores, literals, append, copy.
-/
import Derived.Test.YtneoeegpceompaaM8
namespace Go.Proofs.Ytneoeegpceompaa.AM
open Go

variable {P : Program}

/-- Zero cells. -/
def zeroCs (z : Array Value) (n : Nat) : Array Value := (Array.range n).map (z[· % z.size]!)

theorem upd_upd {α : Type} (f : Nat → α) (k : Nat) (x y : α) : upd (upd f k x) k y = upd f k y := by
  funext j; simp only [upd]; split <;> rfl

theorem get_spliceV (l us : List Value) (off p : Nat) (h : off + us.length ≤ l.length) : (spliceV l off us)[p]? = if p < off then l[p]? else if p < off + us.length then us[p - off]? else l[p]? := by
  unfold spliceV
  rw [List.getElem?_append]
  have h1 : (l.take off).length = off := by simp; omega
  rw [h1]
  split
  · rename_i hp; rw [List.getElem?_take, if_pos hp]
  · rename_i hp
    rw [List.getElem?_append]
    by_cases hq : p < off + us.length
    · rw [if_pos hq, if_pos (by omega)]
    · rw [if_neg hq, if_neg (by omega), List.getElem?_drop]
      congr 1; omega

theorem get_splice (l us : List AV) (off p : Nat) (h : off + us.length ≤ l.length) : (splice l off us)[p]? = if p < off then l[p]? else if p < off + us.length then us[p - off]? else l[p]? := by
  unfold splice
  rw [List.getElem?_append]
  have h1 : (l.take off).length = off := by simp; omega
  rw [h1]
  split
  · rename_i hp; rw [List.getElem?_take, if_pos hp]
  · rename_i hp
    rw [List.getElem?_append]
    by_cases hq : p < off + us.length
    · rw [if_pos hq, if_pos (by omega)]
    · rw [if_neg hq, if_neg (by omega), List.getElem?_drop]
      congr 1; omega

theorem splice_length {l xs : List AV} {off : Nat} (h : off + xs.length ≤ l.length) : (splice l off xs).length = l.length := by simp [splice]; omega

theorem row_lt {i i' sz j : Nat} (h : i' < i) (hj : j < sz) : i' * sz + j < i * sz := by
  have := Nat.mul_le_mul_right sz (show i' + 1 ≤ i from h)
  rw [Nat.add_mul] at this
  omega

/-- Cells of one element are written. -/
theorem holds_write {E : Env} {cur : List Value} {sz : Nat} {es : List (List AV)} {i o : Nat} {r cs : List AV} {us : List Value} (hl : ∀ e ∈ es, e.length = sz) (hs : es.length * sz ≤ cur.length) (hH : Holds E cur.toArray sz es) (hi : es[i]? = some r)
    (ho : o + cs.length ≤ r.length) (hrel : Rels E cs us) (hone : ∀ u ∈ us, u.oneCell' = true) : Holds E (spliceV cur (i * sz + o) us).toArray sz (es.set i (splice r o cs)) := by
  have hi' : i < es.length := (List.getElem?_eq_some_iff.1 hi).1
  have hr : r.length = sz := hl r (List.mem_of_getElem? hi)
  have hfit : i * sz + o + us.length ≤ cur.length := by
    have := Nat.mul_le_mul_right sz (show i + 1 ≤ es.length from hi')
    rw [Nat.add_mul] at this
    rw [← hrel.1]; omega
  intro i' j x hx
  unfold cellAt at hx
  rw [List.getElem?_set] at hx
  simp only [List.getElem?_toArray]
  rw [get_spliceV cur us (i * sz + o) _ hfit]
  by_cases e : i = i'
  · subst e
    rw [if_pos rfl, if_pos hi'] at hx
    simp only [Option.bind_some] at hx
    rw [get_splice r cs o j ho] at hx
    by_cases h1 : j < o
    · rw [if_pos h1] at hx
      rw [if_pos (by omega)]
      obtain ⟨u, hu, h3, h4⟩ := hH i j x (by simp [cellAt, hi, hx])
      exact ⟨u, by simpa using hu, h3, h4⟩
    · rw [if_neg h1] at hx
      rw [if_neg (by omega)]
      by_cases h2 : j < o + cs.length
      · rw [if_pos h2] at hx
        rw [if_pos (by rw [← hrel.1]; omega)]
        have hj : j - o < us.length := by rw [← hrel.1]; omega
        rw [show i * sz + j - (i * sz + o) = j - o by omega]
        exact ⟨us[j - o], List.getElem?_eq_getElem hj, hone _ (List.getElem_mem _), hrel.2 _ _ _ hx (List.getElem?_eq_getElem hj)⟩
      · rw [if_neg h2] at hx
        rw [if_neg (by rw [← hrel.1]; omega)]
        obtain ⟨u, hu, h3, h4⟩ := hH i j x (by simp [cellAt, hi, hx])
        exact ⟨u, by simpa using hu, h3, h4⟩
  · rw [if_neg e] at hx
    have hx' : cellAt es i' j = some x := hx
    obtain ⟨u, hu, h3, h4⟩ := hH i' j x hx'
    have hj : j < sz := by
      unfold cellAt at hx'
      cases hq : es[i']? with
      | none => rw [hq] at hx'; cases hx'
      | some e =>
        rw [hq] at hx'
        have h5 := hl e (List.mem_of_getElem? hq)
        have := (List.getElem?_eq_some_iff.1 (show e[j]? = some x from hx')).1
        omega
    have : (if i' * sz + j < i * sz + o then cur[i' * sz + j]? else if i' * sz + j < i * sz + o + us.length then us[i' * sz + j - (i * sz + o)]? else cur[i' * sz + j]?) = cur[i' * sz + j]? := by
      rcases Nat.lt_or_ge i' i with h | h
      · rw [if_pos (by have := row_lt h hj; omega)]
      · have hlt : i < i' := by omega
        have := Nat.mul_le_mul_right sz (show i + 1 ≤ i' from hlt)
        rw [Nat.add_mul] at this
        rw [if_neg (by omega), if_neg (by rw [← hrel.1]; omega)]
    rw [this]
    exact ⟨u, by simpa using hu, h3, h4⟩

theorem set_len {es : List (List AV)} {sz i o : Nat} {r cs : List AV} (hl : ∀ e ∈ es, e.length = sz) (hi : es[i]? = some r) (ho : o + cs.length ≤ r.length) : ∀ e ∈ es.set i (splice r o cs), e.length = sz := fun e he => by
  rcases List.mem_or_eq_of_mem_set he with h | h
  · exact hl e h
  · rw [h, splice_length ho]; exact hl r (List.mem_of_getElem? hi)

section
variable {X : Nat → Prop} {N : Nat} {io : Nat → Option (Option Nat)} {μ : Mu} {w : World} {a : Act} {g : Nat → AV} (hM : Mem X io μ w) (hg : ∀ t, Rel (envOf X io μ w) (g t) (a.tmps.getD t undef))
include hM hg

theorem ok_store {o : Oper} (t n : Nat) (x y : Operand) (ho : o.op = .store t x y) (hn : tsz P t = some n) {r : AV} {wr : Wr} (h : evalCO g μ N (.store n x y) = some (r, wr)) : OpOK P X N io μ w a o r wr := by
  simp only [evalCO] at h
  have hxr := ev_rel hg x
  have hyr := ev_rel hg y
  generalize ev g x = p at h hxr
  cases p with
  | pt b sz i off =>
    simp only [storeAV] at h
    split at h
    · rename_i blk cs hb hcs
      split at h
      · rename_i row hrow
        split at h
        · rename_i hc
          obtain ⟨hmu, hsz, hcl, hfit⟩ := hc
          subst hsz; subst hcl
          simp only [Option.some.injEq, Prod.mk.injEq] at h
          obtain ⟨rfl, rfl⟩ := h
          obtain ⟨us, huc, hrel, hone⟩ := cells_rel hcs hyr
          obtain ⟨hl, hmx, hk⟩ := hM.ok b blk hb
          generalize hxv : a.eval x = u at hxr
          cases hxr with
          | pt _ _ _ _ k hio =>
            rcases hk with ⟨h1, h2⟩ | ⟨q, cur, h1, h2, h3, h4, h5⟩
            · rw [h2] at hrow; cases hrow
            · have e1 : k = q := by have := hio.symm.trans h1; simpa using this
              subst e1
              have hi' : i < blk.es.length := (List.getElem?_eq_some_iff.1 hrow).1
              have hrl : row.length = blk.sz := hl row (List.mem_of_getElem? hrow)
              have hfit2 : i * blk.sz + off + us.length ≤ cur.size := by
                have := Nat.mul_le_mul_right blk.sz (show i + 1 ≤ blk.es.length from hi')
                rw [Nat.add_mul] at this
                rw [← hrel.1]; omega
              have hst := run_storeCells_at P k (i * blk.sz + off) blk.ty us 0 cur w h2 (by simpa using hfit2) hone
              have hnew : (cur.toList.take (i * blk.sz + off + 0) ++ us ++ cur.toList.drop (i * blk.sz + off + 0 + us.length)).toArray = (spliceV cur.toList (i * blk.sz + off) us).toArray := by simp [spliceV]
              rw [hnew] at hst
              have hstep := step_write (N := N) hM hb hmu hio h2 { blk with es := blk.es.set i (splice row off cs) } (spliceV cur.toList (i * blk.sz + off) us).toArray rfl
                (by simp only [List.size_toArray]; rw [spliceV_length (by simpa using hfit2)]; simp) (set_len hl hrow hfit) (by simpa using hmx) (by simp only [List.length_set, List.size_toArray]; rw [spliceV_length (by simpa using hfit2)]; simpa using h3)
                (fun c hc => by simp only [List.size_toArray]; rw [spliceV_length (by simpa using hfit2)]; simpa using h4 c hc)
                (holds_write hl (by simpa using h3) (fun i j x hx => by simpa using h5 i j x hx) hrow hfit hrel hone)
              refine ⟨_, undef, _, io, ?_, .inr ⟨rfl, rfl⟩, hstep, .any _⟩
              have hcz : (a.eval y).cells.size = cs.length := by rw [huc]; simp [hrel.1]
              simp [execOp, ho, hxv, Instr.storeAt, Instr.sureAddr, storeVar, run_sizeOf hn, huc, hrel.1, hst]
        · cases h
      · cases h
    · cases h
  | _ => simp [storeAV] at h

variable (hN : io N = none) (hμN : μ N = none)
include hN hμN

omit hM hg hN hμN in
theorem fillRows_ok {E : Env} (hg : ∀ t, Rel E (g t) (a.tmps.getD t undef)) (sz : Nat) : ∀ (parts : List (Nat × Operand)) (rows res : List (List AV)) (cur : List Value),
    fillRows g sz rows parts = some res → (∀ e ∈ rows, e.length = sz) → cur.length = rows.length * sz → Holds E cur.toArray sz rows →
    ∃ cur' : List Value, Instr.fill (fun i => some (i * sz, sz)) cur.toArray (parts.map fun (i, x) => (i, a.eval x)) = some cur'.toArray ∧ (∀ e ∈ res, e.length = sz) ∧ res.length = rows.length ∧ cur'.length = res.length * sz ∧ Holds E cur'.toArray sz res := by
  intro parts
  induction parts with
  | nil =>
    intro rows res cur hf hl hlen hH
    simp only [fillRows, Option.some.injEq] at hf
    subst hf
    exact ⟨cur, rfl, hl, rfl, hlen, hH⟩
  | cons p parts ih =>
    intro rows res cur hf hl hlen hH
    obtain ⟨i, x⟩ := p
    simp only [fillRows] at hf
    split at hf
    · rename_i cs hcs
      split at hf
      · rename_i hc
        obtain ⟨hn, hi⟩ := hc
        obtain ⟨us, huc, hrel, hone⟩ := cells_rel hcs (ev_rel hg x)
        have hul : us.length = sz := by rw [← hrel.1]; exact hn
        have hrow : rows[i]? = some rows[i] := List.getElem?_eq_getElem hi
        have hrl : rows[i].length = sz := hl _ (List.getElem_mem _)
        have hsp : splice rows[i] 0 cs = cs := by
          unfold AM.splice
          rw [List.take_zero, List.nil_append, List.drop_of_length_le (by omega), List.append_nil]
        have hfit : i * sz + us.length ≤ cur.length := by
          have := Nat.mul_le_mul_right sz (show i + 1 ≤ rows.length from hi)
          rw [Nat.add_mul] at this
          omega
        have hw := holds_write (o := 0) hl (by omega) hH hrow (by omega) hrel hone
        rw [hsp, Nat.add_zero] at hw
        have hsl := set_len (o := 0) hl hrow (cs := cs) (by omega)
        rw [hsp] at hsl
        obtain ⟨cur', h1, h2, h3, h4, h5⟩ := ih (rows.set i cs) res (spliceV cur (i * sz) us) hf hsl (by rw [spliceV_length hfit]; simpa using hlen) hw
        refine ⟨cur', ?_, h2, by simpa using h3, h4, h5⟩
        simp only [List.map_cons, Instr.fill, huc]
        have hcond : ¬ (us.length ≠ sz ∨ i * sz + us.length > cur.length) := by omega
        simp only [List.size_toArray]
        rw [if_neg (by simpa using hcond), fold_set' us (i * sz) cur hfit]
        exact h1
      · cases hf
    · cases hf

omit hM hg hN hμN in
theorem holds_zeros {E : Env} (z : List Value) (hone : ∀ u ∈ z, u.oneCell' = true) (n m : Nat) (hm : n * z.length ≤ m) : Holds E (zeroCs z.toArray m) z.length (List.replicate n (z.map .v)) := fun i j x hx => by
  unfold cellAt at hx
  rw [List.getElem?_replicate] at hx
  split at hx
  · rename_i hi
    simp only [Option.bind_some, List.getElem?_map] at hx
    obtain ⟨u, hu, rfl⟩ := Option.map_eq_some_iff.1 hx
    have hj : j < z.length := (List.getElem?_eq_some_iff.1 hu).1
    have hlt : i * z.length + j < m := by have := row_lt hi hj; omega
    refine ⟨u, ?_, hone u (List.mem_of_getElem? hu), .v u⟩
    have hmod : (i * z.length + j) % z.length = j := by rw [Nat.add_comm, Nat.add_mul_mod_self_right, Nat.mod_eq_of_lt hj]
    simp [zeroCs, hlt, hmod]
    simp [List.getElem?_eq_getElem hj] at hu
    simp [hj, hu]
  · cases hx

theorem ok_bslice {o : Oper} (t e n b len : Nat) (z : List Value) (ps : Array (Nat × Operand)) (ho : o.op = .buildSlice t len ps) (ht : telinfo P t = some (e, n, b, z)) (hle : len * n ≤ 2 ^ 24)
    {r : AV} {wr : Wr} (h : evalCO g μ N (.bslice e n len z ps.toList) = some (r, wr)) : OpOK P X N io μ w a o r wr := by
  obtain ⟨hu, inf, hinf, hsz, _, ⟨zv, hzv, hzc⟩, hpos, _, hzl, hone⟩ := telinfo_inv ht
  have hsize : tsz P e = some n := by simp [tsz, hinf, hsz]
  simp only [evalCO] at h
  split at h
  · rename_i rows hrows
    simp only [Option.some.injEq, Prod.mk.injEq] at h
    obtain ⟨rfl, rfl⟩ := h
    subst hzl
    have hz0 := holds_zeros (E := envOf X io μ w) z hone len (len * z.length) (Nat.le_refl _)
    obtain ⟨cur', h1, h2, h3, h4, h5⟩ := fillRows_ok hg z.length ps.toList (List.replicate len (z.map .v)) rows (zeroCs z.toArray (len * z.length)).toList hrows (fun e he => by rw [List.eq_of_mem_replicate he]; simp) (by simp [zeroCs]) (by simpa using hz0)
    simp only [List.length_replicate] at h3
    have hmax : rows.length ≤ maxLen := by
      rw [h3]
      have h9 : len ≤ len * z.length := Nat.le_mul_of_pos_right len hpos
      have : len ≤ 2 ^ 24 := Nat.le_trans h9 hle
      unfold maxLen; omega
    refine OpOK.alloc hM hN hμN ⟨true, e, z.length, rows, some len⟩ cur'.toArray h2 hmax (by simp [h4]) (fun c hc => by injection hc with hc; subst hc; simp [h4, h3]) h5
      (v := .slice (some ⟨w.heap.size, 0, none⟩) len len) ?_ (fun E hE hb => ?_)
    · have hzrun : ∀ w, (zeroValue e).run P w = .ok zv w := fun w => by simp [zeroValue, typeInfo, hinf, hzv]
      have hfill : Instr.fill (fun i => some (i * z.length, z.length)) (zeroCs z.toArray (len * z.length)) (ps.toList.map fun x => (x.fst, a.eval x.snd)) = some cur'.toArray := by simpa using h1
      by_cases hl0 : len * z.length = 0
      · rw [hl0] at hfill
        have hm0 : zeroCs z.toArray 0 = #[] := by simp [zeroCs]
        rw [hm0] at hfill
        have hr0 : ∀ f : Nat → Value, (Array.range 0).map f = #[] := fun f => by simp
        simp [execOp, ho, Instr.buildSlice, run_underlying hu, run_sizeOf hsize, hl0, hr0, hfill, newRow]
      · have hnot : ¬ (16777216 < len * z.length) := by omega
        have e1 : (fun x => z.toArray[x % z.toArray.size]!) = fun x => z[x % z.length]?.getD default := by funext x; simp
        unfold zeroCs at hfill
        rw [e1] at hfill
        simp only [execOp, ho, Instr.buildSlice, Sem.run_bind, run_underlying hu, Result.andThen_ok, run_sizeOf hsize]
        simp [hl0, hnot, hzrun, hzc, hfill, newRow]
    · have := Rel.row (E := E) N z.length 0 len w.heap.size len (some ⟨w.heap.size, 0, none⟩) cur'.toArray e hE (fun _ => by simp) hb (by simp [h4, h3]) (Nat.le_refl _) (by rw [Nat.zero_add]; rw [h3] at hmax; exact hmax)
      simpa using this
  · cases h
end

end Go.Proofs.Ytneoeegpceompaa.AM
