/-
The abstract machine, part 11: append and copy, as operations.
-/
import Derived.Test.YtneoeegpceompaaM10
namespace Go.Proofs.Ytneoeegpceompaa.AM
open Go

variable {P : Program}

section
variable {X : Nat → Prop} {N : Nat} {io : Nat → Option (Option Nat)} {μ : Mu} {w : World} {a : Act} {g : Nat → AV} (hM : Mem X io μ w) (hg : ∀ t, Rel (envOf X io μ w) (g t) (a.tmps.getD t undef)) (hN : io N = none) (hμN : μ N = none)
include hM hN hμN

/-- What an append comes to, ahead of the operation's frame. -/
def AppOK (P : Program) (X : Nat → Prop) (N : Nat) (io : Nat → Option (Option Nat)) (μ : Mu) (w : World) (t ty : TypeId) (s x : Value) (r : AV) (wr : Wr) : Prop :=
  ∃ v w' io', (Builtin.append_ #[t, t] ty #[s, x]).run P w = .ok v w' ∧ Step X N io μ w io' (app μ wr) w' ∧ Rel (envOf X io' (app μ wr) w') r v

/-- The row has no room: a new one. -/
theorem app_grown {t ty e n b : Nat} {z : List Value} (ht : telinfo P t = some (e, n, b, z)) {A B : Option Addr} {len c c' : Nat} {es xs : List (List AV)} {olds news : List Value} (hlen : len + xs.length ≤ 1000000) (hroom : c < len + xs.length)
    (hes : es.length = len) (hel : ∀ e ∈ es, e.length = n) (hlo : olds.length = len * n) (hA : A = none → len = 0) (hco : ∀ a, A = some a → ∀ j v, olds[j]? = some v → w.cell? (a.add j) = some v) (hHo : Holds (envOf X io μ w) olds.toArray n es)
    (hl : news.length = xs.length * n) (hB : B = none → xs = []) (hc : ∀ a, B = some a → ∀ j v, news[j]? = some v → w.cell? (a.add j) = some v) (hxl : ∀ e ∈ xs, e.length = n) (hH : Holds (envOf X io μ w) news.toArray n xs) :
    AppOK P X N io μ w t ty (.slice A len c) (.slice B xs.length c') (.row N n 0 (len + xs.length)) [(N, some ⟨true, e, n, es ++ xs, none⟩)] := by
  obtain ⟨hu, inf, hinf, hsz, hby, ⟨zv, hzv, hzc⟩, hpos, hb, hzl, hone⟩ := telinfo_inv ht
  have hbb : (len + xs.length) * inf.bytes ≤ 140737488355328 := by
    have := Nat.mul_le_mul hlen (show inf.bytes ≤ 100000 by rw [hby]; exact hb)
    omega
  have hg := run_app_grow (P := P) (w := w) (ty := ty) (n := len) (m := xs.length) (c := c) (c' := c') (A := A) (B := B) hu hinf hzv (olds := olds) (news := news) (by rw [hsz]; exact hlo) hA hco
    (by rw [hsz]; exact hl) (fun h => by rw [hB h]; rfl) hc hroom (by omega) (growslice_fits hroom hbb)
  have hge := grownCap_ge w (len + xs.length) c e
  have hcm := grownCap_le_maxLen w (len + xs.length) c e (by unfold maxLen; omega)
  have hd := step_drew (N := N) hM (w.drawn + 1)
  generalize hG : grownCap w (len + xs.length) c e = G at hg hge hcm
  have hsize : (olds.toArray ++ news.toArray ++ Builtin.zeroCells zv.cells (G - (len + xs.length))).size = G * n := by
    simp only [Array.size_append, List.size_toArray, size_zeroCells, hzc, hzl, hl, hlo]
    rw [← Nat.add_mul, ← Nat.add_mul]; congr 1; omega
  have hH2 : Holds (envOf X io μ w.drew) (olds.toArray ++ news.toArray ++ Builtin.zeroCells zv.cells (G - (len + xs.length))) n (es ++ xs) := by
    have := grown_holds (E := envOf X io μ w) hlo hl hes hel hxl rfl hHo hH (Builtin.zeroCells zv.cells (G - (len + xs.length)))
    intro i j x hx
    obtain ⟨u, h1, h2, h3⟩ := this i j x hx
    exact ⟨u, h1, h2, h3.mono hd.le⟩
  have hst := step_alloc hd.mem hN hμN ⟨true, e, n, es ++ xs, none⟩ (olds.toArray ++ news.toArray ++ Builtin.zeroCells zv.cells (G - (len + xs.length)))
    (fun e he => by rcases List.mem_append.1 he with h | h; exact hel e h; exact hxl e h) (by show (es ++ xs).length ≤ maxLen; rw [List.length_append, hes]; unfold maxLen; omega)
    (by show (es ++ xs).length * n ≤ _; rw [hsize, List.length_append, hes]; exact Nat.mul_le_mul_right _ hge) (fun c h => by cases h) hH2
  refine ⟨_, _, _, hg, hd.trans hst, ?_⟩
  have := Rel.row (E := envOf X (upd io N (some (some w.heap.size))) (upd μ N (some ⟨true, e, n, es ++ xs, none⟩)) (w.drew.alloc (.cells (olds.toArray ++ news.toArray ++ Builtin.zeroCells zv.cells (G - (len + xs.length))) e))) N n 0 (len + xs.length) w.heap.size G (some ⟨w.heap.size, 0, none⟩) _ e (upd_same _ _ _) (fun _ => by simp) (heap_alloc_new w.drew _) (by rw [hsize, Nat.zero_add]) hge (by rw [Nat.zero_add]; exact hcm)
  exact this

/-- A new row of elements alone. -/
theorem app_new {t ty e n b : Nat} {z : List Value} (ht : telinfo P t = some (e, n, b, z)) {A B : Option Addr} {c' : Nat} {xs : List (List AV)} {news : List Value} (hlen : xs.length ≤ 1000000)
    (hl : news.length = xs.length * n) (hB : B = none → xs = []) (hc : ∀ a, B = some a → ∀ j v, news[j]? = some v → w.cell? (a.add j) = some v) (hxl : ∀ e ∈ xs, e.length = n) (hH : Holds (envOf X io μ w) news.toArray n xs) :
    AppOK P X N io μ w t ty (.slice A 0 0) (.slice B xs.length c') (.row N n 0 xs.length) [(N, some ⟨true, e, n, xs, none⟩)] := by
  obtain ⟨hu, inf, hinf, hsz, _⟩ := telinfo_inv ht
  by_cases h0 : xs = []
  · subst h0
    exact ⟨_, w, _, run_app_nop hu hinf (Nat.le_refl _), step_phantom hM hN hμN _ rfl, .rowz _ _ _ (upd_same _ _ _)⟩
  · have hm : xs.length ≠ 0 := fun h => h0 (List.eq_nil_of_length_eq_zero h)
    have := app_grown (P := P) (ty := ty) (A := A) (len := 0) (c := 0) (c' := c') (es := []) (olds := []) hM hN hμN ht (by omega) (by omega) rfl (fun e he => by cases he) (by simp) (fun _ => rfl) (fun a _ j v hv => by simp at hv) (fun i j x hx => by simp [cellAt] at hx) hl hB hc hxl hH
    simpa using this

omit hN hμN in
/-- A row that is written, under the same name. -/
theorem app_write {b' k : Nat} {blk : Blk} (hb : μ b' = some blk) (hmu : blk.mu = true) (hio : io b' = some (some k)) {cur : Array Value} (hcur : w.heap[k]? = some (.cells cur blk.ty (0, 0))) (blk' : Blk) (cur' : Array Value) (hty : blk'.ty = blk.ty)
    (hs' : cur'.size = cur.size) (hl : ∀ e ∈ blk'.es, e.length = blk'.sz) (hn : blk'.es.length ≤ maxLen) (hs : blk'.es.length * blk'.sz ≤ cur'.size) (hc : ∀ c, blk'.cap = some c → cur'.size = c * blk'.sz) (hr : Holds (envOf X io μ w) cur' blk'.sz blk'.es) :
    Step X N io μ w io (upd μ b' (some blk')) (w.setRow k cur') := step_write hM hb hmu hio hcur blk' cur' hty hs' hl hn hs hc hr

/-- A row that is written and gets a new name. -/
theorem app_move {b' k : Nat} {blk : Blk} (hb : μ b' = some blk) (hmu : blk.mu = true) (hio : io b' = some (some k)) {cur : Array Value} (hcur : w.heap[k]? = some (.cells cur blk.ty (0, 0))) (blk' : Blk) (cur' : Array Value) (hty : blk'.ty = blk.ty)
    (hs' : cur'.size = cur.size) (hl : ∀ e ∈ blk'.es, e.length = blk'.sz) (hn : blk'.es.length ≤ maxLen) (hs : blk'.es.length * blk'.sz ≤ cur'.size) (hc : ∀ c, blk'.cap = some c → cur'.size = c * blk'.sz) (hr : Holds (envOf X io μ w) cur' blk'.sz blk'.es) :
    Step X N io μ w (upd io N (some (some k))) (upd (upd μ b' none) N (some blk')) (w.setRow k cur') := by
  have hne : b' ≠ N := fun e => by subst e; rw [hb] at hμN; cases hμN
  have h1 := step_write (N := N) hM hb hmu hio hcur blk' cur' hty hs' hl hn hs hc hr
  have h2 := step_rename (N := N) h1.mem hN (by rw [upd_ne _ _ (fun e => hne e.symm)]; exact hμN) (upd_same μ b' (some blk'))
  rw [upd_upd, hio] at h2
  exact h1.trans h2

theorem app_ok {t ty e n b : Nat} {z : List Value} (ht : telinfo P t = some (e, n, b, z)) {s : AV} {su xu : Value} {xs : List (List AV)} {x : AV} (hx : rowsAV μ n x = some xs) (hxr : Rel (envOf X io μ w) x xu) (hsr : Rel (envOf X io μ w) s su)
    {r : AV} {wr : Wr} (h : appendAV μ N e n s xs = some (r, wr)) : AppOK P X N io μ w t ty su xu r wr := by
  obtain ⟨B, c', news, rfl, hl, hB, hc, h1, hxl, hlc', hH⟩ := rows_rel hM hx hxr
  cases s with
  | z0 =>
    simp only [appendAV] at h
    split at h
    · rename_i hle
      simp only [Option.some.injEq, Prod.mk.injEq] at h
      obtain ⟨rfl, rfl⟩ := h
      cases hsr with
      | z0 A => exact app_new hM hN hμN ht hle hl hB hc hxl hH
    · cases h
  | v y =>
    have := rel_v hsr
    subst this
    unfold appendAV at h
    split at h
    · cases ‹AV.v su = AV.z0›
    · rename_i he
      injection he with he
      subst he
      split at h
      · rename_i hle
        simp only [Option.some.injEq, Prod.mk.injEq] at h
        obtain ⟨rfl, rfl⟩ := h
        exact app_new hM hN hμN ht hle hl hB hc hxl hH
      · cases h
    · cases ‹AV.v su = AV.row _ _ _ _›
    · cases h
  | row b' sz off len =>
    obtain ⟨hu, inf, hinf, hsz, hby, ⟨zv, hzv, hzc⟩, hpos, hbb, hzl, hone⟩ := telinfo_inv ht
    simp only [appendAV] at h
    split at h
    · rename_i blk hb
      split at h
      · rename_i hcnd
        obtain ⟨hmu, rfl, hks, hty, hbnd⟩ := hcnd
        obtain ⟨hel, hmx, hk⟩ := hM.ok b' blk hb
        rw [hks] at hel
        split at h
        · rename_i hz
          obtain ⟨rfl, hlen⟩ := hz
          simp only [Option.some.injEq, Prod.mk.injEq] at h
          obtain ⟨rfl, rfl⟩ := h
          have hNb : b' ≠ N := fun e => by subst e; rw [hb] at hμN; cases hμN
          have hdrop := step_drop (N := N) hM b'
          have hμN' : upd μ b' none N = none := by rw [upd_ne _ _ (fun e => hNb e.symm)]; exact hμN
          have hH' : Holds (envOf X io (upd μ b' none) w) news.toArray sz xs := fun i j x hx => by
            obtain ⟨u, h2, h3, h4⟩ := hH i j x hx
            exact ⟨u, h2, h3, h4.mono hdrop.le⟩
          cases hsr with
          | rowz _ _ A hz =>
            have hes : blk.es = [] := List.eq_nil_of_length_eq_zero hlen.symm
            obtain ⟨v, w', io', q1, q2, q3⟩ := app_new (P := P) (ty := ty) (A := A) hdrop.mem hN hμN' ht (by omega) hl hB hc hxl hH'
            simp only [hes, List.nil_append, Nat.zero_add]
            exact ⟨v, w', io', q1, hdrop.trans q2, q3⟩
          | row _ _ _ _ k c A cur ty' hio hA hcur hcc hlc hmc =>
            rcases hk with ⟨k1, k2⟩ | ⟨q, cur2, k1, k2, k3, k4, k5⟩
            · rw [hio] at k1; cases k1
            · have e1 : k = q := by have := hio.symm.trans k1; simpa using this
              subst e1
              rw [k2] at hcur
              injection hcur with hcur
              injection hcur with hcur hty2 _
              subst hcur
              have hio' : io b' = some (some k) := hio
              rw [Nat.zero_add] at hcc hmc
              rw [hks] at k3 k5
              have hapl : ∀ e ∈ blk.es ++ xs, e.length = sz := fun e he => by rcases List.mem_append.1 he with h | h; exact hel e h; exact hxl e h
              by_cases hroom : len + xs.length ≤ c
              · by_cases hx0 : xs = []
                · subst hx0
                  have hst := app_move hM hN hμN hb hmu hio' k2 ⟨true, e, sz, blk.es ++ [], none⟩ cur2 hty.symm rfl hapl (by simpa using hmx) (by simpa using k3) (fun c h => by cases h) (by rw [List.append_nil]; exact k5)
                  rw [setRow_self w k cur2 blk.ty (0, 0) k2] at hst
                  refine ⟨_, w, _, run_app_nop hu hinf hlc, hst, ?_⟩
                  exact .row N sz 0 len k c A cur2 blk.ty (upd_same _ _ _) hA k2 (by rw [Nat.zero_add]; exact hcc) hlc (by rw [Nat.zero_add]; exact hmc)
                · have hm : xs.length ≠ 0 := fun h => hx0 (List.eq_nil_of_length_eq_zero h)
                  have hA' := hA (by omega)
                  have hfit : 0 * sz + len * inf.size + news.length ≤ cur2.size := by
                    rw [← hcc, hl, hsz, Nat.zero_mul, Nat.zero_add, ← Nat.add_mul]; exact Nat.mul_le_mul_right _ hroom
                  have hrun := run_app_room (P := P) (ty := ty) (off := 0 * sz) (c' := c') hu hinf k2 (by rw [hsz]; exact hl) (fun h => by rw [hB h]; rfl) hc h1 hroom hfit
                  have hfit2 : len * sz + news.length ≤ cur2.size := by rw [hsz] at hfit; simpa using hfit
                  have hrh := room_holds (E := envOf X io μ w) (cur := cur2) (p := len) hl hel hxl rfl (by omega) hfit2 k5 hH
                  have e2 : blk.es.take len ++ (xs ++ blk.es.drop (len + xs.length)) = blk.es ++ xs := by
                    rw [hlen, List.take_length, List.drop_of_length_le (by omega), List.append_nil]
                  rw [e2] at hrh
                  have hsl : (spliceV cur2.toList (len * sz) news).toArray.size = cur2.size := by simp only [List.size_toArray]; rw [spliceV_length (by simpa using hfit2)]; simp
                  have hst := app_move hM hN hμN hb hmu hio' k2 ⟨true, e, sz, blk.es ++ xs, none⟩ (spliceV cur2.toList (len * sz) news).toArray hty.symm hsl hapl (by show (blk.es ++ xs).length ≤ maxLen; rw [List.length_append]; unfold maxLen; omega)
                    (by rw [hsl]; show (blk.es ++ xs).length * sz ≤ _; rw [List.length_append, ← hlen, ← hcc]; exact Nat.mul_le_mul_right _ hroom) (fun c h => by cases h) hrh
                  rw [hA']
                  rw [hsz, Nat.zero_mul, Nat.zero_add] at hrun
                  refine ⟨_, _, _, (by rw [Nat.zero_mul]; exact hrun), hst, ?_⟩
                  have := Rel.row (E := envOf X (upd io N (some (some k))) (upd (upd μ b' none) N (some ⟨true, e, sz, blk.es ++ xs, none⟩)) (w.setRow k (spliceV cur2.toList (len * sz) news).toArray)) N sz 0 (len + xs.length) k c (some ⟨k, 0 * sz, none⟩) _ blk.ty (upd_same _ _ _) (fun _ => rfl) (setRow_heap w k cur2 _ blk.ty (0, 0) k2) (by rw [hsl, Nat.zero_add]; exact hcc) hroom (by rw [Nat.zero_add]; exact hmc)
                  rw [Nat.zero_mul] at this
                  exact this
              · have hco : ∀ a, A = some a → ∀ j v, (cur2.toList.take (len * sz))[j]? = some v → w.cell? (a.add j) = some v := fun a ha j v hv => by
                  rw [List.getElem?_take] at hv
                  split at hv
                  · rename_i hj
                    have hc0 : c ≠ 0 := fun h => by
                      have h0 : len = 0 := by omega
                      rw [h0, Nat.zero_mul] at hj
                      omega
                    have hA' := hA hc0
                    rw [hA'] at ha
                    injection ha with ha
                    subst ha
                    rw [add_lit, cell_of_row w k _ cur2 blk.ty (0, 0) k2]
                    simpa using hv
                  · cases hv
                have hlo : (cur2.toList.take (len * sz)).length = len * sz := by
                  have : len * sz ≤ cur2.size := by rw [← hcc]; exact Nat.mul_le_mul_right _ hlc
                  simp; omega
                have hHo : Holds (envOf X io (upd μ b' none) w) (cur2.toList.take (len * sz)).toArray sz blk.es := fun i j x hx => by
                  obtain ⟨u, h2, h3, h4⟩ := k5 i j x hx
                  refine ⟨u, ?_, h3, h4.mono hdrop.le⟩
                  have hij : i * sz + j < len * sz := by
                    unfold cellAt at hx
                    cases hq : blk.es[i]? with
                    | none => rw [hq] at hx; cases hx
                    | some e' =>
                      rw [hq] at hx
                      have h5 := hel e' (List.mem_of_getElem? hq)
                      have := (List.getElem?_eq_some_iff.1 (show e'[j]? = some x from hx)).1
                      exact row_lt (by rw [hlen]; exact (List.getElem?_eq_some_iff.1 hq).1) (by omega)
                  simp only [List.getElem?_toArray]
                  rw [List.getElem?_take, if_pos hij]
                  simpa using h2
                obtain ⟨v, w', io', q1, q2, q3⟩ := app_grown (P := P) (ty := ty) (A := A) (len := len) (c := c) (c' := c') hdrop.mem hN hμN' ht (by omega) (by omega) hlen.symm hel hlo
                  (fun h => by
                    by_cases hc0 : c = 0
                    · omega
                    · have hA' := hA hc0
                      rw [hA'] at h; cases h) hco hHo hl hB hc hxl hH'
                exact ⟨v, w', io', q1, hdrop.trans q2, q3⟩
        · split at h
          · rename_i hnz hin
            simp only [Option.some.injEq, Prod.mk.injEq] at h
            obtain ⟨rfl, rfl⟩ := h
            cases hsr with
            | rowz _ _ A hz =>
              rcases hk with ⟨k1, k2⟩ | ⟨q, cur2, k1, k2, k3, k4, k5⟩
              · rw [k2] at hnz; simp at hnz
              · rw [hz] at k1; cases k1
            | row _ _ _ _ k c A cur ty' hio hA hcur hcc hlc hmc =>
              rcases hk with ⟨k1, k2⟩ | ⟨q, cur2, k1, k2, k3, k4, k5⟩
              · rw [hio] at k1; cases k1
              · have e1 : k = q := by have := hio.symm.trans k1; simpa using this
                subst e1
                rw [k2] at hcur
                injection hcur with hcur
                injection hcur with hcur hty2 _
                subst hcur
                have hio' : io b' = some (some k) := hio
                have hk3 : blk.es.length * sz ≤ cur2.size := by rw [hks] at k3; exact k3
                rw [hks] at k5
                have hrc : len + xs.length ≤ c := by
                  have h9 : (off + len + xs.length) * sz ≤ (off + c) * sz := by rw [hcc]; exact Nat.le_trans (Nat.mul_le_mul_right _ hin) hk3
                  have := Nat.le_of_mul_le_mul_right h9 hpos
                  omega
                have hfit2 : (off + len) * sz + news.length ≤ cur2.size := by
                  rw [hl, ← Nat.add_mul]
                  exact Nat.le_trans (Nat.mul_le_mul_right _ hin) hk3
                have hrh := room_holds (E := envOf X io μ w) (cur := cur2) (p := off + len) hl hel hxl rfl (by omega) hfit2 k5 hH
                have hsl : (spliceV cur2.toList ((off + len) * sz) news).toArray.size = cur2.size := by simp only [List.size_toArray]; rw [spliceV_length (by simpa using hfit2)]; simp
                have hnl : (blk.es.take (off + len) ++ (xs ++ blk.es.drop (off + len + xs.length))).length = blk.es.length := by simp; omega
                have hst := app_write hM (N := N) hb hmu hio' k2 { blk with es := blk.es.take (off + len) ++ (xs ++ blk.es.drop (off + len + xs.length)) } (spliceV cur2.toList ((off + len) * sz) news).toArray rfl hsl
                  (fun e he => by
                    show e.length = blk.sz
                    rw [hks]
                    simp only [List.mem_append] at he
                    rcases he with h | h | h
                    · exact hel e (List.mem_of_mem_take h)
                    · exact hxl e h
                    · exact hel e (List.mem_of_mem_drop h)) (by show List.length _ ≤ maxLen; rw [hnl]; exact hmx) (by rw [hsl]; show List.length _ * blk.sz ≤ _; rw [hnl, hks]; exact hk3) (fun c h => by rw [hsl]; exact k4 c h) (by rw [hks]; exact hrh)
                by_cases hx0 : xs = []
                · subst hx0
                  have hnews : news = [] := List.eq_nil_of_length_eq_zero (by simpa using hl)
                  subst hnews
                  have e3 : (spliceV cur2.toList ((off + len) * sz) []).toArray = cur2 := by simp [spliceV]
                  rw [e3, setRow_self w k cur2 blk.ty (0, 0) k2] at hst
                  refine ⟨_, w, _, run_app_nop hu hinf hlc, hst, ?_⟩
                  exact .row b' sz off len k c A cur2 blk.ty hio hA k2 hcc hlc hmc
                · have hm : xs.length ≠ 0 := fun h => hx0 (List.eq_nil_of_length_eq_zero h)
                  have hA' := hA (by omega)
                  have hfit : off * sz + len * inf.size + news.length ≤ cur2.size := by rw [hsz, ← Nat.add_mul]; exact hfit2
                  have hrun := run_app_room (P := P) (ty := ty) (off := off * sz) (c' := c') hu hinf k2 (by rw [hsz]; exact hl) (fun h => by rw [hB h]; rfl) hc h1 hrc hfit
                  rw [hsz, ← Nat.add_mul] at hrun
                  rw [hA']
                  refine ⟨_, _, _, hrun, hst, ?_⟩
                  exact .row b' sz off (len + xs.length) k c _ _ blk.ty hio (fun _ => rfl) (setRow_heap w k cur2 _ blk.ty (0, 0) k2) (by rw [hsl]; exact hcc) hrc hmc
          · cases h
      · cases h
    · cases h
  | _ => simp [appendAV] at h

include hg in
theorem ok_append {o : Oper} (t e n b : Nat) (z : List Value) (s x : Operand) (ho : o.op = .call { callee := .builtin .append, args := #[s, x], argTypes := #[t, t] }) (ht : telinfo P t = some (e, n, b, z))
    {r : AV} {wr : Wr} (h : evalCO g μ N (.append e n b s x) = some (r, wr)) : OpOK P X N io μ w a o r wr := by
  simp only [evalCO] at h
  split at h
  · rename_i xs hxs
    obtain ⟨v, w', io', h1, h2, h3⟩ := app_ok (P := P) (ty := o.type) hM hN hμN ht hxs (ev_rel hg x) (ev_rel hg s) h
    exact ⟨_, v, w', io', by simp [execOp, ho, resolve, invoke, builtin, h1], .inl rfl, h2, h3⟩
  · cases h

omit hM hN hμN in
theorem run_first_part {w : World} {A : Option Addr} {m c sz n : Nat} {us : List Value} (hl : us.length = m * sz) (hn : n ≤ m) (hA : A = none → m = 0) (hc : ∀ a, A = some a → ∀ j v, us[j]? = some v → w.cell? (a.add j) = some v) :
    (Builtin.firstCells sz n (.slice A m c)).run P w = .ok (us.take (n * sz)).toArray w := by
  have hle : n * sz ≤ us.length := by rw [hl]; exact Nat.mul_le_mul_right _ hn
  cases A with
  | none =>
    have h0 := hA rfl
    subst h0
    obtain rfl : n = 0 := by omega
    simp [Builtin.firstCells]
  | some a =>
    have := run_loadCells_list (P := P) w a (us.take (n * sz)) (fun j v hv => by
      rw [List.getElem?_take] at hv
      split at hv
      · exact hc a rfl j v hv
      · cases hv)
    rw [List.length_take, Nat.min_eq_left hle] at this
    simp [Builtin.firstCells, this]

include hg in
omit hN hμN in
theorem ok_copy {o : Oper} (t u e n b e' : Nat) (z : List Value) (d s : Operand) (ho : o.op = .call { callee := .builtin .copy, args := #[d, s], argTypes := #[t, u] }) (ht : telinfo P t = some (e, n, b, z)) (_hu : P.underlying u = some (.slice e'))
    {r : AV} {wr : Wr} (h : evalCO g μ N (.copy n d s) = some (r, wr)) : OpOK P X N io μ w a o r wr := by
  obtain ⟨hu, inf, hinf, hsz, hby, ⟨zv, hzv, hzc⟩, hpos, hbb, hzl, hone⟩ := telinfo_inv ht
  have hsize : tsz P e = some n := by simp [tsz, hinf, hsz]
  simp only [evalCO] at h
  split at h
  · rename_i b' sz off len xs hd hxs
    split at h
    · rename_i blk hb
      split at h
      · rename_i hcnd
        obtain ⟨hmu, hsz', hks, hle⟩ := hcnd
        subst hsz'
        simp only [Option.some.injEq, Prod.mk.injEq] at h
        obtain ⟨rfl, rfl⟩ := h
        have hdr := hd ▸ ev_rel hg d
        obtain ⟨B, c', news, hsv, hl, hB, hc, h1, hxl, hlc', hH⟩ := rows_rel hM hxs (ev_rel hg s)
        obtain ⟨hel, hmx, hk⟩ := hM.ok b' blk hb
        rw [hks] at hel
        generalize hm : Nat.min xs.length len = m
        have hm1 : m ≤ xs.length := by rw [← hm]; exact Nat.min_le_left _ _
        have hm2 : m ≤ len := by rw [← hm]; exact Nat.min_le_right _ _
        have hf := run_first_part (P := P) (w := w) (A := B) (m := xs.length) (c := c') (sz := sz) (n := m) hl hm1 (fun h => by rw [hB h]; rfl) hc
        have hnl : (news.take (m * sz)).length = m * sz := by rw [List.length_take, hl]; exact Nat.min_eq_left (Nat.mul_le_mul_right _ hm1)
        have nop : ∀ A c, a.eval d = .slice A len c → m = 0 → OpOK P X N io μ w a o (.v (.int .i64 ((m : Nat) : Int))) [(b', some { blk with es := blk.es.take off ++ ((xs.take m) ++ blk.es.drop (off + m)) })] := fun A c hdv hm0 => by
          rw [hm0]
          have hes : blk.es.take off ++ ((xs.take 0) ++ blk.es.drop (off + 0)) = blk.es := by simp
          have hblk : ({ blk with es := blk.es.take off ++ ((xs.take 0) ++ blk.es.drop (off + 0)) } : Blk) = blk := by rw [hes]
          rw [hblk]
          have hup : upd μ b' (some blk) = μ := by funext j; by_cases e : j = b'; subst e; rw [upd_same, hb]; rw [upd_ne _ _ e]
          have hf0 : (Builtin.firstCells sz 0 (.slice B xs.length c')).run P w = .ok #[] w := by rw [hm0] at hf; simpa using hf
          have hmin : Nat.min xs.length len = 0 := by rw [hm, hm0]
          refine ⟨_, .int .i64 0, w, io, ?_, .inl rfl, by show Step X N io μ w io (upd μ b' (some blk)) w; rw [hup]; exact Step.refl hM, .v _⟩
          cases A <;> simp [execOp, ho, resolve, invoke, builtin, Builtin.copy_, run_underlying hu, hdv, hsv, Builtin.lenOf, run_sizeOf hsize, hmin, hf0, storeCells, goInt]
        generalize hdv : a.eval d = dv at hdr
        cases hdr with
        | rowz _ _ A hz => exact nop A 0 hdv (by omega)
        | row _ _ _ _ k c A cur ty' hio hA hcur hcc hlc hmc =>
          rcases hk with ⟨k1, k2⟩ | ⟨q, cur2, k1, k2, k3, k4, k5⟩
          · rw [hio] at k1; cases k1
          · have e1 : k = q := by have := hio.symm.trans k1; simpa using this
            subst e1
            rw [k2] at hcur
            injection hcur with hcur
            injection hcur with hcur hty2 _
            subst hcur
            have hio' : io b' = some (some k) := hio
            have hk3 : blk.es.length * sz ≤ cur2.size := by rw [hks] at k3; exact k3
            rw [hks] at k5
            by_cases hm0 : m = 0
            · exact nop A c hdv hm0
            · have hA' := hA (by omega)
              have hfit2 : off * sz + (news.take (m * sz)).length ≤ cur2.size := by
                rw [hnl, ← Nat.add_mul]
                exact Nat.le_trans (Nat.mul_le_mul_right _ (by omega)) hk3
              have hxt : (xs.take m).length = m := by rw [List.length_take]; omega
              have hHt : Holds (envOf X io μ w) (news.take (m * sz)).toArray sz (xs.take m) := fun i j x hx => by
                have hi : i < m := by
                  unfold cellAt at hx
                  cases hq : (xs.take m)[i]? with
                  | none => rw [hq] at hx; cases hx
                  | some e => have := (List.getElem?_eq_some_iff.1 hq).1; omega
                have hx2 : cellAt xs i j = some x := by
                  unfold cellAt at hx ⊢
                  rw [List.getElem?_take, if_pos hi] at hx; exact hx
                have hj : j < sz := by
                  unfold cellAt at hx2
                  cases hq : xs[i]? with
                  | none => rw [hq] at hx2; cases hx2
                  | some e =>
                    rw [hq] at hx2
                    have h5 := hxl e (List.mem_of_getElem? hq)
                    have := (List.getElem?_eq_some_iff.1 (show e[j]? = some x from hx2)).1
                    omega
                obtain ⟨u, hu, r⟩ := hH i j x hx2
                refine ⟨u, ?_, r⟩
                simp only [List.getElem?_toArray] at hu ⊢
                rw [List.getElem?_take, if_pos (row_lt hi hj)]; exact hu
              have hrh := room_holds (E := envOf X io μ w) (cur := cur2) (p := off) (m := m) hnl hel (fun e he => hxl e (List.mem_of_mem_take he)) hxt (by omega) hfit2 k5 hHt
              rw [hxt] at hrh
              have hsl : (spliceV cur2.toList (off * sz) (news.take (m * sz))).toArray.size = cur2.size := by simp only [List.size_toArray]; rw [spliceV_length (by simpa using hfit2)]; simp
              have hnl2 : (blk.es.take off ++ (xs.take m ++ blk.es.drop (off + m))).length = blk.es.length := by simp only [List.length_append, hxt, List.length_take, List.length_drop]; omega
              have hst := app_write hM (N := N) hb hmu hio' k2 { blk with es := blk.es.take off ++ (xs.take m ++ blk.es.drop (off + m)) } (spliceV cur2.toList (off * sz) (news.take (m * sz))).toArray rfl hsl
                (fun e he => by
                  show e.length = blk.sz
                  rw [hks]
                  simp only [List.mem_append] at he
                  rcases he with h | h | h
                  · exact hel e (List.mem_of_mem_take h)
                  · exact hxl e (List.mem_of_mem_take h)
                  · exact hel e (List.mem_of_mem_drop h)) (by show List.length _ ≤ maxLen; rw [hnl2]; exact hmx) (by rw [hsl]; show List.length _ * blk.sz ≤ _; rw [hnl2, hks]; exact hk3) (fun c h => by rw [hsl]; exact k4 c h) (by rw [hks]; exact hrh)
              have hone' : ∀ v ∈ news.take (m * sz), v.oneCell' = true := fun v hv => h1 v (List.mem_of_mem_take hv)
              have hstc := run_storeCells_at P k (off * sz) blk.ty (news.take (m * sz)) 0 cur2 w k2 (by simpa using hfit2) hone'
              simp only [Nat.add_zero] at hstc
              have e1 : (cur2.toList.take (off * sz) ++ news.take (m * sz) ++ cur2.toList.drop (off * sz + (news.take (m * sz)).length)).toArray = (spliceV cur2.toList (off * sz) (news.take (m * sz))).toArray := by simp only [spliceV, List.append_assoc]
              rw [e1] at hstc
              have hmin : xs.length.min len = m := hm
              refine ⟨_, .int .i64 ((m : Nat) : Int), _, io, ?_, .inl rfl, hst, .v _⟩
              simp [execOp, ho, resolve, invoke, builtin, Builtin.copy_, run_underlying hu, hdv, hsv, hA', Builtin.lenOf, run_sizeOf hsize, hmin, hf, hstc, goInt]
      · cases h
    · cases h
  · cases h

include hg in
theorem ok_mksl {o : Oper} (t e n b : Nat) (z : List Value) (l c : Operand) (ho : o.op = .makeSlice t l c) (ht : telinfo P t = some (e, n, b, z))
    {r : AV} {wr : Wr} (h : evalCO g μ N (.mksl e n b z l c) = some (r, wr)) : OpOK P X N io μ w a o r wr := by
  obtain ⟨hu, inf, hinf, hsz, hby, ⟨zv, hzv, hzc⟩, hpos, hbb, hzl, hone⟩ := telinfo_inv ht
  have hsize : tsz P e = some n := by simp [tsz, hinf, hsz]
  simp only [evalCO] at h
  split at h
  · rename_i m k hl hc
    split at h
    · rename_i hcnd
      obtain ⟨h0, h1, h2⟩ := hcnd
      simp only [Option.some.injEq, Prod.mk.injEq] at h
      obtain ⟨rfl, rfl⟩ := h
      subst hzl
      have hlv := rel_v (hl ▸ ev_rel hg l)
      have hcv := rel_v (hc ▸ ev_rel hg c)
      have hz0 := holds_zeros (E := envOf X io μ w) z hone m.toNat (k.toNat * z.length) (Nat.mul_le_mul_right _ (by omega))
      have hsz2 : (zeroCs z.toArray (k.toNat * z.length)).size = k.toNat * z.length := by simp [zeroCs]
      refine OpOK.alloc hM hN hμN ⟨true, e, z.length, List.replicate m.toNat (z.map .v), some k.toNat⟩ (zeroCs z.toArray (k.toNat * z.length)) (fun e he => by rw [List.eq_of_mem_replicate he]; simp) (by show (List.replicate _ _).length ≤ maxLen; rw [List.length_replicate]; unfold maxLen; omega)
        (by show (List.replicate _ _).length * _ ≤ _; rw [List.length_replicate, hsz2]; exact Nat.mul_le_mul_right _ (by omega)) (fun c hc => by injection hc with hc; subst hc; exact hsz2) hz0
        (v := .slice (some ⟨w.heap.size, 0, none⟩) m.toNat k.toNat) ?_ (fun E hE hb => ?_)
      · have hw1 : IntKind.i64.wrap m = m := by simp [IntKind.wrap, IntKind.bits, IntKind.signed]; omega
        have hw2 : IntKind.i64.wrap k = k := by simp [IntKind.wrap, IntKind.bits, IntKind.signed]; omega
        have hzrun : ∀ w, (zeroValue e).run P w = .ok zv w := fun w => by simp [zeroValue, typeInfo, hinf, hzv]
        have hk0 : 0 ≤ k := by omega
        have hb1 : ¬ (281474976710656 < (inf.bytes : Int) * k) := by
          have h3 : (inf.bytes : Int) * k ≤ 100000 * 1000000 := Int.mul_le_mul (by omega) h2 hk0 (by omega)
          omega
        have hm3 : ¬ (m < 0) := by omega
        have hk3 : ¬ (k < 0) := by omega
        have hmk : ¬ (k < m) := by omega
        by_cases hk00 : k.toNat * z.length = 0
        · have e2 : zeroCs z.toArray 0 = #[] := by simp [zeroCs]
          have hr0 : ∀ f : Nat → Value, (Array.range 0).map f = #[] := fun f => by simp
          simp only [execOp, ho, Instr.makeSlice, Sem.run_bind, run_underlying hu, Result.andThen_ok, hlv, hcv, asInt, asIntOf, Sem.run_pure]
          simp [typeInfo, hinf, hw1, hw2, hm3, hk3, hmk, hb1, askRoom, run_sizeOf hsize, hk00, hr0, newRow, e2]
        · simp only [execOp, ho, Instr.makeSlice, Sem.run_bind, run_underlying hu, Result.andThen_ok, hlv, hcv, asInt, asIntOf, Sem.run_pure]
          simp [typeInfo, hinf, hw1, hw2, hm3, hk3, hmk, hb1, askRoom, run_sizeOf hsize, hk00, hzrun, hzc, newRow, zeroCs]
      · have := Rel.row (E := E) N z.length 0 m.toNat w.heap.size k.toNat (some ⟨w.heap.size, 0, none⟩) _ e hE (fun _ => by simp) hb (by rw [hsz2, Nat.zero_add]) (by omega) (by rw [Nat.zero_add]; unfold maxLen; omega)
        exact this
    · cases h
  · cases h
end

end Go.Proofs.Ytneoeegpceompaa.AM
