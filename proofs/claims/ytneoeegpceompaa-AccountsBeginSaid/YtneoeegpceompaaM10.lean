/-
The abstract machine, part 10: append.
-/
import Derived.Test.YtneoeegpceompaaM9
namespace Go.Proofs.Ytneoeegpceompaa.AM
open Go

variable {P : Program}

/-- The cells behind a slice value. -/
theorem rows_rel {X : Nat → Prop} {io : Nat → Option (Option Nat)} {μ : Mu} {w : World} (hM : Mem X io μ w) {sz : Nat} {x : AV} {xs : List (List AV)} (h : rowsAV μ sz x = some xs) {u : Value} (hr : Rel (envOf X io μ w) x u) :
    ∃ (A : Option Addr) (c : Nat) (us : List Value), u = .slice A xs.length c ∧ us.length = xs.length * sz ∧ (A = none → xs = []) ∧ (∀ a, A = some a → ∀ j v, us[j]? = some v → w.cell? (a.add j) = some v) ∧ (∀ v ∈ us, v.oneCell' = true) ∧
      (∀ e ∈ xs, e.length = sz) ∧ xs.length ≤ c ∧ Holds (envOf X io μ w) us.toArray sz xs := by
  have nilc : ∀ (A : Option Addr) (c : Nat), xs = [] → u = .slice A 0 c → ∃ (A : Option Addr) (c : Nat) (us : List Value), u = .slice A xs.length c ∧ us.length = xs.length * sz ∧ (A = none → xs = []) ∧ (∀ a, A = some a → ∀ j v, us[j]? = some v → w.cell? (a.add j) = some v) ∧ (∀ v ∈ us, v.oneCell' = true) ∧
      (∀ e ∈ xs, e.length = sz) ∧ xs.length ≤ c ∧ Holds (envOf X io μ w) us.toArray sz xs := fun A c hx hu => by
    subst hx
    exact ⟨A, c, [], hu, by simp, fun _ => rfl, (fun a _ j v hv => by simp at hv), (fun v hv => by cases hv), (fun e he => by cases he), Nat.zero_le _, fun i j x hx => by simp [cellAt] at hx⟩
  cases x with
  | sl s es =>
    simp only [rowsAV] at h
    split at h
    · rename_i hs
      subst hs
      injection h with h
      subst h
      cases hr with
      | sl0 _ A c => exact nilc A c rfl rfl
      | sl _ _ k o c f hl him hn hlc hc hrel =>
        by_cases hs0 : s = 0
        · subst hs0
          refine ⟨_, c, [], rfl, by simp, (fun h => by cases h), (fun a _ j v hv => by simp at hv), (fun v hv => by cases hv), hl, hlc, fun i j x hx => ?_⟩
          unfold cellAt at hx
          cases hq : es[i]? with
          | none => rw [hq] at hx; cases hx
          | some e =>
            rw [hq] at hx
            have h5 := hl e (List.mem_of_getElem? hq)
            have := (List.getElem?_eq_some_iff.1 (show e[j]? = some x from hx)).1
            omega
        · have hpos : 0 < s := by omega
          have idx : ∀ p, p < es.length * s → p / s < es.length ∧ p % s < s ∧ p / s * s + p % s = p := fun p hp =>
            ⟨Nat.div_lt_of_lt_mul (by rw [Nat.mul_comm]; exact hp), Nat.mod_lt _ hpos, by rw [Nat.mul_comm]; exact Nat.div_add_mod p s⟩
          refine ⟨_, c, (List.range (es.length * s)).map fun p => f (p / s) (p % s), rfl, by simp, (fun h => by cases h), fun a ha j v hv => ?_, fun v hv => ?_, hl, hlc, fun i j x hx => ?_⟩
          · injection ha with ha
            subst ha
            have hj : j < es.length * s := by have := (List.getElem?_eq_some_iff.1 hv).1; simpa using this
            rw [List.getElem?_map, List.getElem?_range hj] at hv
            have hv' : v = f (j / s) (j % s) := (Option.some.inj hv).symm
            subst hv'
            obtain ⟨h1, h2, h3⟩ := idx j hj
            have := (hc (j / s) (j % s) h1 h2).1
            rw [h3] at this
            rw [add_lit]; exact this
          · obtain ⟨p, hp, rfl⟩ := List.mem_map.1 hv
            obtain ⟨h1, h2, h3⟩ := idx p (List.mem_range.1 hp)
            exact (hc _ _ h1 h2).2
          · have hx' := hx
            unfold cellAt at hx
            cases hq : es[i]? with
            | none => rw [hq] at hx; cases hx
            | some e =>
              rw [hq] at hx
              have h5 := hl e (List.mem_of_getElem? hq)
              have hj : j < s := by have := (List.getElem?_eq_some_iff.1 (show e[j]? = some x from hx)).1; omega
              have hi : i < es.length := (List.getElem?_eq_some_iff.1 hq).1
              have hlt : i * s + j < es.length * s := row_lt hi hj
              have hd : (i * s + j) / s = i := by rw [Nat.add_comm, Nat.add_mul_div_right _ _ hpos, Nat.div_eq_of_lt hj, Nat.zero_add]
              have hm : (i * s + j) % s = j := by rw [Nat.add_comm, Nat.add_mul_mod_self_right, Nat.mod_eq_of_lt hj]
              refine ⟨f i j, ?_, (hc i j hi hj).2, hrel i j x hx'⟩
              simp only [List.getElem?_toArray]
              rw [List.getElem?_map, List.getElem?_range hlt]
              simp [hd, hm]
    · cases h
  | z0 =>
    injection h with h
    cases hr with
    | z0 A => exact nilc A 0 h.symm rfl
  | v y =>
    have := rel_v hr
    subst this
    unfold rowsAV at h
    split at h
    · cases ‹AV.v u = AV.sl _ _›
    · cases ‹AV.v u = AV.z0›
    · rename_i he
      injection he with he
      injection h with h
      exact nilc _ _ h.symm he
    · cases ‹AV.v u = AV.row _ _ _ _›
    · cases h
  | row b s off len =>
    simp only [rowsAV] at h
    split at h
    · rename_i blk hb
      split at h
      · rename_i hcnd
        obtain ⟨hs, hks, hle⟩ := hcnd
        subst hs
        injection h with h
        obtain ⟨hl, hmx, hk⟩ := hM.ok b blk hb
        have hxl : xs.length = len := by rw [← h]; simp; omega
        cases hr with
        | rowz _ _ A hz => exact nilc A 0 (List.eq_nil_of_length_eq_zero hxl) rfl
        | row _ _ _ _ k c A cur ty hio hA hcur hc hlc hmc =>
          rcases hk with ⟨h1, h2⟩ | ⟨q, cur2, h1, h2, h3, _, h5⟩
          · rw [hio] at h1; cases h1
          · have e1 : k = q := by have := hio.symm.trans h1; simpa using this
            subst e1
            rw [h2] at hcur
            injection hcur with hcur
            injection hcur with hcur _ _
            subst hcur
            by_cases hl0 : len = 0
            · subst hl0; exact nilc A c (List.eq_nil_of_length_eq_zero hxl) rfl
            · obtain rfl := hA (by omega)
              have hfit : (off + len) * s ≤ cur2.size := by rw [← hc]; exact Nat.mul_le_mul_right _ (by omega)
              have hul : ((cur2.toList.drop (off * s)).take (len * s)).length = len * s := by simp; rw [Nat.add_mul] at hfit; omega
              refine ⟨_, c, (cur2.toList.drop (off * s)).take (len * s), by rw [hxl], by rw [hul, hxl], (fun h => by cases h), fun a ha j v hv => ?_, fun v hv => ?_, fun e he => ?_, by rw [hxl]; exact hlc, fun i j x hx => ?_⟩
              · injection ha with ha
                subst ha
                rw [List.getElem?_take] at hv
                split at hv
                · rw [List.getElem?_drop] at hv
                  rw [add_lit, cell_of_row w k _ cur2 blk.ty (0, 0) h2]
                  simpa using hv
                · cases hv
              · obtain ⟨p, hp, hpe⟩ := List.getElem_of_mem hv
                have hpl : p < len * s := by rw [hul] at hp; exact hp
                have hs0 : 0 < s := by
                  rcases Nat.eq_zero_or_pos s with h | h
                  · subst h; simp at hpl
                  · exact h
                have hi : p / s < len := Nat.div_lt_of_lt_mul (by rw [Nat.mul_comm]; exact hpl)
                have hj : p % s < s := Nat.mod_lt _ hs0
                have hlt : off + p / s < blk.es.length := by omega
                have hel : (blk.es[off + p / s]).length = s := by rw [hl _ (List.getElem_mem hlt)]; exact hks
                obtain ⟨u, hu, hu1, _⟩ := h5 (off + p / s) (p % s) ((blk.es[off + p / s])[p % s]'(by rw [hel]; exact hj)) (by simp [cellAt, hlt, hel, hj])
                have e2 : (off + p / s) * blk.sz + p % s = off * s + p := by
                  rw [hks, Nat.add_mul, Nat.add_assoc, Nat.mul_comm (p / s) s, Nat.div_add_mod]
                rw [e2] at hu
                have e3 : cur2.toList[off * s + p]? = some v := by
                  have : ((cur2.toList.drop (off * s)).take (len * s))[p]? = some v := by rw [List.getElem?_eq_getElem hp, hpe]
                  rw [List.getElem?_take, if_pos hpl, List.getElem?_drop] at this
                  exact this
                have : u = v := by
                  have e4 : cur2[off * s + p]? = some v := by simpa using e3
                  rw [e4] at hu; injection hu with hu; exact hu.symm
                subst this
                exact hu1
              · rw [← h] at he
                rw [hl e (List.mem_of_mem_drop (List.mem_of_mem_take he))]; exact hks
              · rw [← h] at hx
                have hx2 : i < len ∧ cellAt blk.es (off + i) j = some x := by
                  unfold cellAt at hx ⊢
                  rw [List.getElem?_take] at hx
                  split at hx
                  · rename_i hi; rw [List.getElem?_drop] at hx; exact ⟨hi, hx⟩
                  · cases hx
                obtain ⟨u, hu, hu1, hur⟩ := h5 (off + i) j x hx2.2
                have hj : j < s := by
                  have hx3 := hx2.2
                  unfold cellAt at hx3
                  cases hq : blk.es[off + i]? with
                  | none => rw [hq] at hx3; cases hx3
                  | some e =>
                    rw [hq] at hx3
                    have h6 := hl e (List.mem_of_getElem? hq)
                    have := (List.getElem?_eq_some_iff.1 (show e[j]? = some x from hx3)).1
                    omega
                refine ⟨u, ?_, hu1, hur⟩
                simp only [List.getElem?_toArray]
                rw [List.getElem?_take, if_pos (row_lt hx2.1 hj), List.getElem?_drop]
                rw [show off * s + (i * s + j) = (off + i) * blk.sz + j by rw [hks, Nat.add_mul, Nat.add_assoc]]
                simpa using hu
      · cases h
    · cases h
  | _ => simp [rowsAV] at h

/-- Those cells, read. -/
theorem run_first {w : World} {A : Option Addr} {m c sz : Nat} {us : List Value} (hl : us.length = m * sz) (hA : A = none → m = 0) (hc : ∀ a, A = some a → ∀ j v, us[j]? = some v → w.cell? (a.add j) = some v) :
    (Builtin.firstCells sz m (.slice A m c)).run P w = .ok us.toArray w := by
  cases A with
  | none =>
    have h0 := hA rfl
    subst h0
    have : us = [] := List.eq_nil_of_length_eq_zero (by simpa using hl)
    subst this
    simp [Builtin.firstCells]
  | some a =>
    have := run_loadCells_list (P := P) w a us (hc a rfl)
    rw [hl] at this
    simp [Builtin.firstCells, this]

theorem run_app_nop {w : World} {t ty e n c c' : Nat} {i : TypeInfo} {A B : Option Addr} (ht : P.underlying t = some (.slice e)) (hi : P.info? e = some i) (hle : n ≤ c) :
    (Builtin.append_ #[t, t] ty #[.slice A n c, .slice B 0 c']).run P w = .ok (.slice A n c) w := by
  have hf : (Builtin.firstCells i.size 0 (.slice B 0 c')).run P w = .ok #[] w := by
    have := run_first (P := P) (w := w) (A := B) (m := 0) (c := c') (sz := i.size) (us := []) (by simp) (fun _ => rfl) (fun a _ j v hv => by simp at hv)
    simpa using this
  cases A <;> simp [Builtin.append_, run_underlying ht, sizeOf, typeInfo, hi, Builtin.lenOf, hle, hf, storeCells]

theorem run_app_room {w : World} {t ty e n m c c' k off : Nat} {i : TypeInfo} {B : Option Addr} (ht : P.underlying t = some (.slice e)) (hi : P.info? e = some i) {news : List Value} {cur : Array Value} {ty' : TypeId}
    (hg : w.heap[k]? = some (.cells cur ty' (0, 0))) (hl : news.length = m * i.size) (hB : B = none → m = 0) (hc : ∀ a, B = some a → ∀ j v, news[j]? = some v → w.cell? (a.add j) = some v) (h1 : ∀ u ∈ news, u.oneCell' = true)
    (hroom : n + m ≤ c) (hfit : off + n * i.size + news.length ≤ cur.size) :
    (Builtin.append_ #[t, t] ty #[.slice (some ⟨k, off, none⟩) n c, .slice B m c']).run P w =
      .ok (.slice (some ⟨k, off, none⟩) (n + m) c) (w.setRow k (spliceV cur.toList (off + n * i.size) news).toArray) := by
  have hf := run_first (P := P) (w := w) (A := B) (m := m) (c := c') (sz := i.size) (us := news) hl hB hc
  have hst := run_storeCells_at P k (off + n * i.size) ty' news 0 cur w hg (by simpa using hfit) h1
  simp only [Nat.add_zero] at hst
  have e1 : (cur.toList.take (off + n * i.size) ++ news ++ cur.toList.drop (off + n * i.size + news.length)).toArray = (spliceV cur.toList (off + n * i.size) news).toArray := by simp [spliceV]
  rw [e1] at hst
  simp [Builtin.append_, run_underlying ht, sizeOf, typeInfo, hi, Builtin.lenOf, hroom, hf, add_lit, hst]

theorem run_app_grow {w : World} {t ty e n m c c' : Nat} {i : TypeInfo} {A B : Option Addr} {zv : Value} (ht : P.underlying t = some (.slice e)) (hi : P.info? e = some i) (hz : i.zero = some zv) {olds news : List Value}
    (hlo : olds.length = n * i.size) (hA : A = none → n = 0) (hco : ∀ a, A = some a → ∀ j v, olds[j]? = some v → w.cell? (a.add j) = some v)
    (hl : news.length = m * i.size) (hB : B = none → m = 0) (hc : ∀ a, B = some a → ∀ j v, news[j]? = some v → w.cell? (a.add j) = some v)
    (hgr : c < n + m) (h63 : ((n + m : Nat) : Int) ≤ 9223372036854775807) (hfit : Builtin.nextslicecap (n + m) c * i.bytes ≤ 281474976710656) :
    (Builtin.append_ #[t, t] ty #[.slice A n c, .slice B m c']).run P w =
      .ok (.slice (some ⟨w.heap.size, 0, none⟩) (n + m) (grownCap w (n + m) c e))
        (w.drew.alloc (.cells (olds.toArray ++ news.toArray ++ Builtin.zeroCells zv.cells (grownCap w (n + m) c e - (n + m))) e)) := by
  have hn : ¬ (n + m ≤ c) := by omega
  have h63' : ¬ (9223372036854775807 < ((n : Int) + (m : Int))) := by omega
  have h48' : ¬ (281474976710656 < Builtin.nextslicecap (n + m) c * i.bytes) := by omega
  have hf := run_first (P := P) (w := w.drew) (A := B) (m := m) (c := c') (sz := i.size) (us := news) hl hB (fun a ha j v hv => by simpa using hc a ha j v hv)
  have hfo := run_first (P := P) (w := w.drew) (A := A) (m := n) (c := c) (sz := i.size) (us := olds) hlo hA (fun a ha j v hv => by simpa using hco a ha j v hv)
  simp [Builtin.append_, run_underlying ht, sizeOf, typeInfo, zeroValue, hi, hz, Builtin.lenOf, hn, h63', h48', Question.forced, hf, hfo, newRow, grownCap]
  congr 2
  apply Array.ext'
  simp

/-- An empty row that lies nowhere yet. -/
theorem step_phantom {X : Nat → Prop} {N : Nat} {io : Nat → Option (Option Nat)} {μ : Mu} {w : World} (h : Mem X io μ w) (hN : io N = none) (hμ : μ N = none) (blk : Blk) (he : blk.es = []) : Step X N io μ w (upd io N (some none)) (upd μ N (some blk)) w := by
  have hio : ∀ b k, io b = some k → upd io N (some none) b = some k := fun b k hb => by
    rw [upd_ne _ _ (fun e => by subst e; rw [hN] at hb; cases hb)]; exact hb
  have own : ∀ b0 bk k, upd μ N (some blk) b0 = some bk → bk.mu = true → upd io N (some none) b0 = some (some k) → (∃ b0 blk0, μ b0 = some blk0 ∧ blk0.mu = true ∧ io b0 = some (some k)) ∨ w.heap.size ≤ k := fun b0 bk k h1 h2 h3 => by
    by_cases e : b0 = N
    · subst e; rw [upd_same] at h3; cases h3
    · rw [upd_ne _ _ e] at h1 h3; exact .inl ⟨b0, bk, h1, h2, h3⟩
  have le := le_of (X := X) (w := w) (w' := w) hio (Nat.le_refl _) (fun _ _ _ => rfl) (fun _ c _ h => ⟨c, h, rfl⟩) own
  have ne : ∀ {b k}, upd io N (some none) b = some (some k) → b ≠ N ∧ io b = some (some k) := fun {b k} hb => by
    by_cases e : b = N
    · subst e; rw [upd_same] at hb; cases hb
    · rw [upd_ne _ _ e] at hb; exact ⟨e, hb⟩
  refine ⟨⟨fun b0 bk hb0 => ?_, fun b0 b1 bk bk' k h1 h2 hm' h3 h4 => ?_, fun b k hb => h.lt b k (ne hb).2, fun b0 bk k hb0 hk => ?_, h.xlt⟩, hio, rfl, rfl, rfl, Nat.le_refl _, fun _ _ _ => rfl, fun _ c _ h => ⟨c, h, rfl⟩, own, fun b0 hb0 h1 h2 => ⟨by rw [upd_ne _ _ hb0]; exact h1, by rw [upd_ne _ _ hb0]; exact h2⟩⟩
  · by_cases e : b0 = N
    · subst e
      rw [upd_same] at hb0
      injection hb0 with hb0
      subst hb0
      exact ⟨(fun e hh => by rw [he] at hh; cases hh), by rw [he]; simp, .inl ⟨upd_same _ _ _, he⟩⟩
    · rw [upd_ne _ _ e] at hb0
      exact (h.ok b0 bk hb0).mono le (fun _ _ => rfl)
  · obtain ⟨g1, h3⟩ := ne h3
    obtain ⟨g2, h4⟩ := ne h4
    rw [upd_ne _ _ g1] at h1; rw [upd_ne _ _ g2] at h2
    exact h.inj b0 b1 bk bk' k h1 h2 hm' h3 h4
  · obtain ⟨g1, hk⟩ := ne hk
    rw [upd_ne _ _ g1] at hb0
    exact h.notX b0 bk k hb0 hk

theorem grown_holds {E : Env} {olds news : List Value} {sz n m : Nat} {es xs : List (List AV)} (hlo : olds.length = n * sz) (hl : news.length = m * sz) (hes : es.length = n) (hel : ∀ e ∈ es, e.length = sz) (hxl : ∀ e ∈ xs, e.length = sz) (hx : xs.length = m)
    (h1 : Holds E olds.toArray sz es) (h2 : Holds E news.toArray sz xs) (rest : Array Value) : Holds E (olds.toArray ++ news.toArray ++ rest) sz (es ++ xs) := fun i j x hc => by
  unfold cellAt at hc
  rw [List.getElem?_append] at hc
  have hsz : ∀ (l : List (List AV)) (k : Nat), (∀ e ∈ l, e.length = sz) → (l[k]?).bind (·[j]?) = some x → k < l.length ∧ j < sz := fun l k hl hk => by
    cases hq : l[k]? with
    | none => rw [hq] at hk; cases hk
    | some e =>
      rw [hq] at hk
      have h5 := hl e (List.mem_of_getElem? hq)
      have := (List.getElem?_eq_some_iff.1 (show e[j]? = some x from hk)).1
      exact ⟨(List.getElem?_eq_some_iff.1 hq).1, by omega⟩
  split at hc
  · rename_i hi
    obtain ⟨u, hu, r⟩ := h1 i j x hc
    have hj := (hsz es i hel hc).2
    have hlt : i * sz + j < olds.length := by rw [hlo, ← hes]; exact row_lt hi hj
    refine ⟨u, ?_, r⟩
    rw [Array.getElem?_append_left (by simp; omega), Array.getElem?_append_left (by simpa using hlt)]
    exact hu
  · rename_i hi
    obtain ⟨u, hu, r⟩ := h2 (i - es.length) j x hc
    obtain ⟨hi2, hj⟩ := hsz xs _ hxl hc
    have e1 : i * sz + j = olds.length + ((i - es.length) * sz + j) := by
      have : i = es.length + (i - es.length) := by omega
      conv => lhs; rw [this]
      rw [Nat.add_mul, hlo, hes, Nat.add_assoc]
    have hlt : (i - es.length) * sz + j < news.length := by rw [hl, ← hx]; exact row_lt hi2 hj
    refine ⟨u, ?_, r⟩
    rw [e1, Array.getElem?_append_left (by simp; omega), Array.getElem?_append_right (by simp)]
    simpa using hu

theorem room_holds {E : Env} {cur : Array Value} {news : List Value} {sz m p : Nat} {es xs : List (List AV)} (hl : news.length = m * sz) (hel : ∀ e ∈ es, e.length = sz) (hxl : ∀ e ∈ xs, e.length = sz) (hx : xs.length = m) (hp : p ≤ es.length)
    (hfit : p * sz + news.length ≤ cur.size) (h1 : Holds E cur sz es) (h2 : Holds E news.toArray sz xs) : Holds E (spliceV cur.toList (p * sz) news).toArray sz (es.take p ++ (xs ++ es.drop (p + xs.length))) := fun i j x hc => by
  have hsz : ∀ (l : List (List AV)) (k : Nat), (∀ e ∈ l, e.length = sz) → (l[k]?).bind (·[j]?) = some x → k < l.length ∧ j < sz := fun l k hl hk => by
    cases hq : l[k]? with
    | none => rw [hq] at hk; cases hk
    | some e =>
      rw [hq] at hk
      have h5 := hl e (List.mem_of_getElem? hq)
      have := (List.getElem?_eq_some_iff.1 (show e[j]? = some x from hk)).1
      exact ⟨(List.getElem?_eq_some_iff.1 hq).1, by omega⟩
  simp only [List.getElem?_toArray]
  rw [get_spliceV _ _ _ _ (by simpa using hfit)]
  unfold cellAt at hc
  rw [List.getElem?_append] at hc
  have hlt : (es.take p).length = p := by simp; omega
  rw [hlt] at hc
  split at hc
  · rename_i hi
    rw [List.getElem?_take, if_pos hi] at hc
    have hj := (hsz es i hel hc).2
    rw [if_pos (row_lt hi hj)]
    obtain ⟨u, hu, r⟩ := h1 i j x hc
    exact ⟨u, by simpa using hu, r⟩
  · rename_i hi
    rw [List.getElem?_append] at hc
    have hpi : p * sz ≤ i * sz := Nat.mul_le_mul_right _ (by omega)
    split at hc
    · rename_i hi2
      have hj := (hsz xs _ hxl hc).2
      obtain ⟨u, hu, r⟩ := h2 (i - p) j x hc
      have e1 : i * sz + j = p * sz + ((i - p) * sz + j) := by
        have : i = p + (i - p) := by omega
        conv => lhs; rw [this]
        rw [Nat.add_mul, Nat.add_assoc]
      have hlt2 : (i - p) * sz + j < news.length := by rw [hl, ← hx]; exact row_lt hi2 hj
      rw [if_neg (by omega), if_pos (by omega)]
      exact ⟨u, by rw [e1, Nat.add_sub_cancel_left]; simpa using hu, r⟩
    · rename_i hi2
      rw [List.getElem?_drop] at hc
      have e0 : p + xs.length + (i - p - xs.length) = i := by omega
      rw [e0] at hc
      obtain ⟨u, hu, r⟩ := h1 i j x hc
      have h6 := Nat.mul_le_mul_right sz (show p + m ≤ i by omega)
      rw [Nat.add_mul] at h6
      rw [if_neg (by omega), if_neg (by omega)]
      exact ⟨u, by simpa using hu, r⟩

end Go.Proofs.Ytneoeegpceompaa.AM
