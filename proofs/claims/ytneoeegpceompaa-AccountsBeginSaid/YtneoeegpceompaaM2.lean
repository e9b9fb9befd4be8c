/-
The abstract machine, part 2: one step of memory: a new block, a block rewritten, a block that becomes another one.
-/
import Derived.Test.YtneoeegpceompaaM1
namespace Go.Proofs.Ytneoeegpceompaa.AM
open Go

/-- One step of memory; N: the only name that may become used. -/
structure Step (X : Nat → Prop) (N : Nat) (io : Nat → Option (Option Nat)) (μ : Mu) (w : World) (io' : Nat → Option (Option Nat)) (μ' : Mu) (w' : World) : Prop where
  mem : Mem X io' μ' w'
  ios : ∀ b k, io b = some k → io' b = some k
  os : w'.os = w.os
  tape : w'.tape = w.tape
  output : w'.output = w.output
  size : w.heap.size ≤ w'.heap.size
  keep : ∀ k, k < w.heap.size → (∀ b blk, μ b = some blk → blk.mu = true → io b ≠ some (some k)) → w'.heap[k]? = w.heap[k]?
  shape : ∀ (k : Nat) (cur : Array Value) (ty : TypeId), w.heap[k]? = some (.cells cur ty (0, 0)) → ∃ cur' : Array Value, w'.heap[k]? = some (.cells cur' ty (0, 0)) ∧ cur'.size = cur.size
  own : ∀ b blk k, μ' b = some blk → blk.mu = true → io' b = some (some k) → (∃ b0 blk0, μ b0 = some blk0 ∧ blk0.mu = true ∧ io b0 = some (some k)) ∨ w.heap.size ≤ k
  free : ∀ b, b ≠ N → io b = none → μ b = none → io' b = none ∧ μ' b = none

theorem le_of {X : Nat → Prop} {io : Nat → Option (Option Nat)} {μ : Mu} {w : World} {io' : Nat → Option (Option Nat)} {μ' : Mu} {w' : World} (hio : ∀ b k, io b = some k → io' b = some k) (size : w.heap.size ≤ w'.heap.size)
    (keep : ∀ k, k < w.heap.size → (∀ b blk, μ b = some blk → blk.mu = true → io b ≠ some (some k)) → w'.heap[k]? = w.heap[k]?)
    (shape : ∀ (k : Nat) (cur : Array Value) (ty : TypeId), w.heap[k]? = some (.cells cur ty (0, 0)) → ∃ cur' : Array Value, w'.heap[k]? = some (.cells cur' ty (0, 0)) ∧ cur'.size = cur.size)
    (own : ∀ b blk k, μ' b = some blk → blk.mu = true → io' b = some (some k) → (∃ b0 blk0, μ b0 = some blk0 ∧ blk0.mu = true ∧ io b0 = some (some k)) ∨ w.heap.size ≤ k) :
    (envOf X io μ w).Le (envOf X io' μ' w') where
  im k h := ⟨⟨Nat.lt_of_lt_of_le h.1 size, h.2.1, fun b blk hb hm hk => by
      rcases own b blk k hb hm hk with ⟨b0, blk0, h1, h2, h3⟩ | h1
      · exact h.2.2 b0 blk0 h1 h2 h3
      · exact absurd h.1 (by omega)⟩, keep k h.1 h.2.2⟩
  io := hio
  shape := shape

theorem Step.le {X : Nat → Prop} {N : Nat} {io : Nat → Option (Option Nat)} {μ : Mu} {w : World} {io' : Nat → Option (Option Nat)} {μ' : Mu} {w' : World} (h : Step X N io μ w io' μ' w') :
    (envOf X io μ w).Le (envOf X io' μ' w') := le_of h.ios h.size h.keep h.shape h.own

theorem Step.refl {X : Nat → Prop} {N : Nat} {io : Nat → Option (Option Nat)} {μ : Mu} {w : World} (h : Mem X io μ w) : Step X N io μ w io μ w where
  mem := h
  ios _ _ h := h
  os := rfl
  tape := rfl
  output := rfl
  size := Nat.le_refl _
  keep _ _ _ := rfl
  shape _ cur _ h := ⟨cur, h, rfl⟩
  own b blk _ h1 h2 h3 := .inl ⟨b, blk, h1, h2, h3⟩
  free _ _ h1 h2 := ⟨h1, h2⟩

/-- A draw changes nothing here. -/
theorem Mem.drew {X : Nat → Prop} {io : Nat → Option (Option Nat)} {μ : Mu} {w : World} (h : Mem X io μ w) (n : Nat) : Mem X io μ { w with drawn := n } := ⟨fun b blk hb => BlkOK.mono (E := envOf X io μ w) (E' := envOf X io μ { w with drawn := n }) ⟨fun _ hk => ⟨hk, rfl⟩, fun _ _ h => h, fun _ cur _ h => ⟨cur, h, rfl⟩⟩ (h.ok b blk hb) (fun _ _ => rfl), h.inj, h.lt, h.notX, h.xlt⟩

theorem step_drew {X : Nat → Prop} {N : Nat} {io : Nat → Option (Option Nat)} {μ : Mu} {w : World} (h : Mem X io μ w) (n : Nat) : Step X N io μ w io μ { w with drawn := n } where
  mem := h.drew n
  ios _ _ h := h
  os := rfl
  tape := rfl
  output := rfl
  size := Nat.le_refl _
  keep _ _ _ := rfl
  shape _ cur _ h := ⟨cur, h, rfl⟩
  own b blk _ h1 h2 h3 := .inl ⟨b, blk, h1, h2, h3⟩
  free _ _ h1 h2 := ⟨h1, h2⟩

/-- Two steps in a row. -/
theorem Step.trans {X : Nat → Prop} {N : Nat} {io : Nat → Option (Option Nat)} {μ : Mu} {w : World} {io1 : Nat → Option (Option Nat)} {μ1 : Mu} {w1 : World} {io2 : Nat → Option (Option Nat)} {μ2 : Mu} {w2 : World}
    (h : Step X N io μ w io1 μ1 w1) (k : Step X N io1 μ1 w1 io2 μ2 w2) : Step X N io μ w io2 μ2 w2 where
  mem := k.mem
  ios b x hx := k.ios b x (h.ios b x hx)
  os := k.os.trans h.os
  tape := k.tape.trans h.tape
  output := k.output.trans h.output
  size := Nat.le_trans h.size k.size
  keep x hx hm := (k.keep x (Nat.lt_of_lt_of_le hx h.size) (fun b blk hb hmu hk => by
      rcases h.own b blk x hb hmu hk with ⟨b0, blk0, h1, h2, h3⟩ | h1
      · exact hm b0 blk0 h1 h2 h3
      · omega)).trans (h.keep x hx hm)
  shape x cur ty hx := by
    obtain ⟨c1, h1, s1⟩ := h.shape x cur ty hx
    obtain ⟨c2, h2, s2⟩ := k.shape x c1 ty h1
    exact ⟨c2, h2, s2.trans s1⟩
  own b blk x hb hm hk := by
    rcases k.own b blk x hb hm hk with ⟨b0, blk0, h1, h2, h3⟩ | h1
    · exact h.own b0 blk0 x h1 h2 h3
    · exact .inr (Nat.le_trans h.size h1)
  free b hb h1 h2 := by
    obtain ⟨h3, h4⟩ := h.free b hb h1 h2
    exact k.free b hb h3 h4

theorem heap_push_lt {w : World} {o : Obj} {k : Nat} (h : k < w.heap.size) : (w.alloc o).heap[k]? = w.heap[k]? := heap_alloc_old w o k h

/-- What a block's cells must be. -/
def Holds (E : Env) (cur : Array Value) (sz : Nat) (es : List (List AV)) : Prop :=
  ∀ i j x, cellAt es i j = some x → ∃ u, cur[i * sz + j]? = some u ∧ u.oneCell' = true ∧ Rel E x u

/-- A new block. -/
theorem step_alloc {X : Nat → Prop} {N : Nat} {io : Nat → Option (Option Nat)} {μ : Mu} {w : World} (h : Mem X io μ w) (hN : io N = none) (hμ : μ N = none) (blk : Blk) (cur : Array Value)
    (hl : ∀ e ∈ blk.es, e.length = blk.sz) (hn : blk.es.length ≤ maxLen) (hs : blk.es.length * blk.sz ≤ cur.size) (hc : ∀ c, blk.cap = some c → cur.size = c * blk.sz) (hr : Holds (envOf X io μ w) cur blk.sz blk.es) :
    Step X N io μ w (upd io N (some (some w.heap.size))) (upd μ N (some blk)) (w.alloc (.cells cur blk.ty)) := by
  have hio : ∀ b k, io b = some k → upd io N (some (some w.heap.size)) b = some k := fun b k hb => by
    rw [upd_ne _ _ (fun e => by subst e; rw [hN] at hb; cases hb)]; exact hb
  have size : w.heap.size ≤ (w.alloc (.cells cur blk.ty)).heap.size := by simp
  have keep : ∀ k, k < w.heap.size → (∀ b blk, μ b = some blk → blk.mu = true → io b ≠ some (some k)) → (w.alloc (.cells cur blk.ty)).heap[k]? = w.heap[k]? := fun k hk _ => heap_push_lt hk
  have shape : ∀ (k : Nat) (c : Array Value) (ty : TypeId), w.heap[k]? = some (.cells c ty (0, 0)) → ∃ c' : Array Value, (w.alloc (.cells cur blk.ty)).heap[k]? = some (.cells c' ty (0, 0)) ∧ c'.size = c.size :=
    fun k c ty hk => ⟨c, by rw [heap_push_lt (Array.getElem?_eq_some_iff.1 hk).1]; exact hk, rfl⟩
  have old : ∀ b, b ≠ N → upd io N (some (some w.heap.size)) b = io b := fun b hb => upd_ne _ _ hb
  have own : ∀ b bk k, upd μ N (some blk) b = some bk → bk.mu = true → upd io N (some (some w.heap.size)) b = some (some k) → (∃ b0 blk0, μ b0 = some blk0 ∧ blk0.mu = true ∧ io b0 = some (some k)) ∨ w.heap.size ≤ k := fun b bk k h1 h2 h3 => by
    by_cases e : b = N
    · subst e; rw [upd_same] at h3; simp at h3; omega
    · rw [upd_ne _ _ e] at h1; rw [old b e] at h3; exact .inl ⟨b, bk, h1, h2, h3⟩
  have le := le_of (X := X) hio size keep shape own
  refine ⟨⟨fun b bk hb => ?_, fun b b' bk bk' k h1 h2 hm h3 h4 => ?_, fun b k hb => ?_, fun b bk k hb hk => ?_, fun k hk => Nat.lt_of_lt_of_le (h.xlt k hk) size⟩, hio, rfl, rfl, rfl, size, keep, shape, own, fun b hb h1 h2 => ⟨by rw [old b hb]; exact h1, by rw [upd_ne _ _ hb]; exact h2⟩⟩
  · by_cases e : b = N
    · subst e
      rw [upd_same] at hb
      injection hb with hb
      subst hb
      refine ⟨hl, hn, .inr ⟨w.heap.size, cur, upd_same _ _ _, heap_alloc_new w _, hs, hc, fun i j x hx => ?_⟩⟩
      obtain ⟨u, hu, h1, hr⟩ := hr i j x hx
      exact ⟨u, hu, h1, hr.mono le⟩
    · rw [upd_ne _ _ e] at hb
      exact (h.ok b bk hb).mono le (fun p hp => heap_push_lt (h.lt b p hp))
  · by_cases e : b = N
    · subst e
      by_cases e' : b' = b
      · exact e'.symm
      · rw [upd_same] at h3; rw [old b' e'] at h4
        have := h.lt b' k h4
        simp at h3; omega
    · by_cases e' : b' = N
      · subst e'
        rw [upd_same] at h4; rw [old b e] at h3
        have := h.lt b k h3
        simp at h4; omega
      · rw [upd_ne _ _ e] at h1; rw [upd_ne _ _ e'] at h2; rw [old b e] at h3; rw [old b' e'] at h4
        exact h.inj b b' bk bk' k h1 h2 hm h3 h4
  · by_cases e : b = N
    · subst e; rw [upd_same] at hb; simp at hb; subst hb; simp
    · rw [old b e] at hb; exact Nat.lt_of_lt_of_le (h.lt b k hb) size
  · by_cases e : b = N
    · subst e
      rw [upd_same] at hk; simp at hk
      intro hx; have := h.xlt k hx; omega
    · rw [upd_ne _ _ e] at hb; rw [old b e] at hk; exact h.notX b bk k hb hk

/-- A block of the call's own is rewritten. -/
theorem step_write {X : Nat → Prop} {N : Nat} {io : Nat → Option (Option Nat)} {μ : Mu} {w : World} (h : Mem X io μ w) {b : Nat} {blk : Blk} (hb : μ b = some blk) (hm : blk.mu = true) {p : Nat} (hp : io b = some (some p))
    {cur : Array Value} (hcur : w.heap[p]? = some (.cells cur blk.ty (0, 0))) (blk' : Blk) (cur' : Array Value) (hty : blk'.ty = blk.ty) (hsz' : cur'.size = cur.size)
    (hl : ∀ e ∈ blk'.es, e.length = blk'.sz) (hn : blk'.es.length ≤ maxLen) (hs : blk'.es.length * blk'.sz ≤ cur'.size) (hc : ∀ c, blk'.cap = some c → cur'.size = c * blk'.sz) (hr : Holds (envOf X io μ w) cur' blk'.sz blk'.es) :
    Step X N io μ w io (upd μ b (some blk')) (w.setRow p cur') := by
  have size : w.heap.size ≤ (w.setRow p cur').heap.size := by simp
  have keep : ∀ k, k < w.heap.size → (∀ b blk, μ b = some blk → blk.mu = true → io b ≠ some (some k)) → (w.setRow p cur').heap[k]? = w.heap[k]? := fun k _ hk => setRow_other w p k _ (fun e => hk b blk hb hm (e ▸ hp))
  have hnew : (w.setRow p cur').heap[p]? = some (.cells cur' blk.ty (0, 0)) := setRow_heap w p cur cur' blk.ty (0, 0) hcur
  have shape : ∀ (k : Nat) (c : Array Value) (ty : TypeId), w.heap[k]? = some (.cells c ty (0, 0)) → ∃ c' : Array Value, (w.setRow p cur').heap[k]? = some (.cells c' ty (0, 0)) ∧ c'.size = c.size := fun k c ty hk => by
    by_cases e : k = p
    · subst e
      rw [hcur] at hk
      injection hk with hk
      injection hk with h1 h2
      subst h1; subst h2
      exact ⟨cur', hnew, hsz'⟩
    · exact ⟨c, by rw [setRow_other w p k _ e]; exact hk, rfl⟩
  have own : ∀ b0 bk k, upd μ b (some blk') b0 = some bk → bk.mu = true → io b0 = some (some k) → (∃ b0 blk0, μ b0 = some blk0 ∧ blk0.mu = true ∧ io b0 = some (some k)) ∨ w.heap.size ≤ k := fun b0 bk k h1 h2 h3 => by
    by_cases e : b0 = b
    · subst e; exact .inl ⟨b0, blk, hb, hm, h3⟩
    · rw [upd_ne _ _ e] at h1; exact .inl ⟨b0, bk, h1, h2, h3⟩
  have le := le_of (X := X) (io := io) (io' := io) (fun _ _ h => h) size keep shape own
  refine ⟨⟨fun b0 bk hb0 => ?_, fun b0 b1 bk bk' k h1 h2 hm' h3 h4 => ?_, fun b0 k hb0 => Nat.lt_of_lt_of_le (h.lt b0 k hb0) size, fun b0 bk k hb0 hk => ?_, fun k hk => Nat.lt_of_lt_of_le (h.xlt k hk) size⟩, fun _ _ h => h, rfl, rfl, rfl, size, keep, shape, own, fun b0 _ h1 h2 => ⟨h1, ?_⟩⟩
  · by_cases e : b0 = b
    · subst e
      rw [upd_same] at hb0
      injection hb0 with hb0
      subst hb0
      refine ⟨hl, hn, .inr ⟨p, cur', hp, by rw [hty]; exact hnew, hs, hc, fun i j x hx => ?_⟩⟩
      obtain ⟨u, hu, h1, hr⟩ := hr i j x hx
      exact ⟨u, hu, h1, hr.mono le⟩
    · rw [upd_ne _ _ e] at hb0
      refine (h.ok b0 bk hb0).mono le (fun q hq => setRow_other w p q _ (fun ee => e ?_))
      subst ee
      exact (h.inj b b0 blk bk q hb hb0 hm hp hq).symm
  · have g1 : ∃ bk0, μ b0 = some bk0 ∧ (bk0.mu = true) := by
      by_cases e : b0 = b
      · subst e; exact ⟨blk, hb, hm⟩
      · rw [upd_ne _ _ e] at h1; exact ⟨bk, h1, hm'⟩
    have g2 : ∃ bk1, μ b1 = some bk1 := by
      by_cases e : b1 = b
      · subst e; exact ⟨blk, hb⟩
      · rw [upd_ne _ _ e] at h2; exact ⟨bk', h2⟩
    obtain ⟨bk0, g1, g1m⟩ := g1
    obtain ⟨bk1, g2⟩ := g2
    exact h.inj b0 b1 bk0 bk1 k g1 g2 g1m h3 h4
  · by_cases e : b0 = b
    · subst e; exact h.notX b0 blk k hb hk
    · rw [upd_ne _ _ e] at hb0; exact h.notX b0 bk k hb0 hk
  · rw [upd_ne _ _ (fun e => by subst e; rw [hb] at h2; cases h2)]; exact h2

/-- A block is forgotten. -/
theorem step_drop {X : Nat → Prop} {N : Nat} {io : Nat → Option (Option Nat)} {μ : Mu} {w : World} (h : Mem X io μ w) (b : Nat) : Step X N io μ w io (upd μ b none) w := by
  have own : ∀ b0 bk k, upd μ b none b0 = some bk → bk.mu = true → io b0 = some (some k) → (∃ b0 blk0, μ b0 = some blk0 ∧ blk0.mu = true ∧ io b0 = some (some k)) ∨ w.heap.size ≤ k := fun b0 bk k h1 h2 h3 => by
    by_cases e : b0 = b
    · subst e; rw [upd_same] at h1; cases h1
    · rw [upd_ne _ _ e] at h1; exact .inl ⟨b0, bk, h1, h2, h3⟩
  have le := le_of (X := X) (io := io) (io' := io) (w := w) (w' := w) (fun _ _ h => h) (Nat.le_refl _) (fun _ _ _ => rfl) (fun _ c _ h => ⟨c, h, rfl⟩) own
  have sub : ∀ {b0 bk}, upd μ b none b0 = some bk → μ b0 = some bk := fun {b0 bk} h1 => by
    by_cases e : b0 = b
    · subst e; rw [upd_same] at h1; cases h1
    · rw [upd_ne _ _ e] at h1; exact h1
  refine ⟨⟨fun b0 bk hb0 => (h.ok b0 bk (sub hb0)).mono le (fun _ _ => rfl), fun b0 b1 bk bk' k h1 h2 hm' h3 h4 => h.inj b0 b1 bk bk' k (sub h1) (sub h2) hm' h3 h4, h.lt, fun b0 bk k hb0 hk => h.notX b0 bk k (sub hb0) hk, h.xlt⟩, fun _ _ h => h, rfl, rfl, rfl, Nat.le_refl _, fun _ _ _ => rfl, fun _ c _ h => ⟨c, h, rfl⟩, own, fun b0 _ h1 h2 => ⟨h1, ?_⟩⟩
  by_cases e : b0 = b
  · subst e; exact upd_same _ _ _
  · rw [upd_ne _ _ e]; exact h2

/-- A block is taken as one that nobody writes any more. -/
theorem step_freeze {X : Nat → Prop} {N : Nat} {io : Nat → Option (Option Nat)} {μ : Mu} {w : World} (h : Mem X io μ w) {b : Nat} {blk : Blk} (hb : μ b = some blk) :
    Step X N io μ w io (upd μ b (some { blk with mu := false })) w := by
  have own : ∀ b0 bk k, upd μ b (some { blk with mu := false }) b0 = some bk → bk.mu = true → io b0 = some (some k) → (∃ b0 blk0, μ b0 = some blk0 ∧ blk0.mu = true ∧ io b0 = some (some k)) ∨ w.heap.size ≤ k := fun b0 bk k h1 h2 h3 => by
    by_cases e : b0 = b
    · subst e; rw [upd_same] at h1; injection h1 with h1; subst h1; cases h2
    · rw [upd_ne _ _ e] at h1; exact .inl ⟨b0, bk, h1, h2, h3⟩
  have le := le_of (X := X) (io := io) (io' := io) (w := w) (w' := w) (fun _ _ h => h) (Nat.le_refl _) (fun _ _ _ => rfl) (fun _ c _ h => ⟨c, h, rfl⟩) own
  have sub : ∀ {b0 bk}, upd μ b (some { blk with mu := false }) b0 = some bk → ∃ bk0, μ b0 = some bk0 ∧ (bk.mu = true → bk0.mu = true) := fun {b0 bk} h1 => by
    by_cases e : b0 = b
    · subst e; rw [upd_same] at h1; injection h1 with h1; subst h1; exact ⟨blk, hb, fun h => by cases h⟩
    · rw [upd_ne _ _ e] at h1; exact ⟨bk, h1, fun h => h⟩
  refine ⟨⟨fun b0 bk hb0 => ?_, fun b0 b1 bk bk' k h1 h2 hm' h3 h4 => ?_, h.lt, fun b0 bk k hb0 hk => ?_, h.xlt⟩, fun _ _ h => h, rfl, rfl, rfl, Nat.le_refl _, fun _ _ _ => rfl, fun _ c _ h => ⟨c, h, rfl⟩, own, fun b0 _ h1 h2 => ⟨h1, ?_⟩⟩
  · by_cases e : b0 = b
    · subst e
      rw [upd_same] at hb0
      injection hb0 with hb0
      subst hb0
      exact (h.ok b0 blk hb).mono le (fun _ _ => rfl)
    · rw [upd_ne _ _ e] at hb0
      exact (h.ok b0 bk hb0).mono le (fun _ _ => rfl)
  · obtain ⟨k0, g0, m0⟩ := sub h1
    obtain ⟨k1, g1, _⟩ := sub h2
    exact h.inj b0 b1 k0 k1 k g0 g1 (m0 hm') h3 h4
  · obtain ⟨k0, g0, _⟩ := sub hb0
    exact h.notX b0 k0 k g0 hk
  · rw [upd_ne _ _ (fun e => by subst e; rw [hb] at h2; cases h2)]; exact h2

/-- A block gets a new name. -/
theorem step_rename {X : Nat → Prop} {N : Nat} {io : Nat → Option (Option Nat)} {μ : Mu} {w : World} (h : Mem X io μ w) (hN : io N = none) (hμ : μ N = none) {b : Nat} {blk : Blk} (hb : μ b = some blk) :
    Step X N io μ w (upd io N (io b)) (upd (upd μ b none) N (some blk)) w := by
  have hne : b ≠ N := fun e => by subst e; rw [hb] at hμ; cases hμ
  have hio : ∀ b0 k, io b0 = some k → upd io N (io b) b0 = some k := fun b0 k hb0 => by
    rw [upd_ne _ _ (fun e => by subst e; rw [hN] at hb0; cases hb0)]; exact hb0
  have look : ∀ {b0 bk}, upd (upd μ b none) N (some blk) b0 = some bk → ∃ b1, μ b1 = some bk ∧ upd io N (io b) b0 = io b1 ∧ (b0 = N ∧ b1 = b ∨ b0 = b1 ∧ b0 ≠ N ∧ b0 ≠ b) := fun {b0 bk} h1 => by
    by_cases e : b0 = N
    · subst e; rw [upd_same] at h1; injection h1 with h1; subst h1; exact ⟨b, hb, upd_same _ _ _, .inl ⟨rfl, rfl⟩⟩
    · rw [upd_ne _ _ e] at h1
      by_cases e' : b0 = b
      · subst e'; rw [upd_same] at h1; cases h1
      · rw [upd_ne _ _ e'] at h1; exact ⟨b0, h1, upd_ne _ _ e, .inr ⟨rfl, e, e'⟩⟩
  have own : ∀ b0 bk k, upd (upd μ b none) N (some blk) b0 = some bk → bk.mu = true → upd io N (io b) b0 = some (some k) → (∃ b0 blk0, μ b0 = some blk0 ∧ blk0.mu = true ∧ io b0 = some (some k)) ∨ w.heap.size ≤ k := fun b0 bk k h1 h2 h3 => by
    obtain ⟨b1, g1, g2, _⟩ := look h1
    exact .inl ⟨b1, bk, g1, h2, by rw [← g2]; exact h3⟩
  have le := le_of (X := X) (w := w) (w' := w) hio (Nat.le_refl _) (fun _ _ _ => rfl) (fun _ c _ h => ⟨c, h, rfl⟩) own
  refine ⟨⟨fun b0 bk hb0 => ?_, fun b0 b1 bk bk' k h1 h2 hm' h3 h4 => ?_, fun b0 k hb0 => ?_, fun b0 bk k hb0 hk => ?_, h.xlt⟩, hio, rfl, rfl, rfl, Nat.le_refl _, fun _ _ _ => rfl, fun _ c _ h => ⟨c, h, rfl⟩, own, fun b0 hb0 h1 h2 => ⟨by rw [upd_ne _ _ hb0]; exact h1, ?_⟩⟩
  · obtain ⟨b1, g1, g2, _⟩ := look hb0
    obtain ⟨o1, o2, o3⟩ := h.ok b1 bk g1
    refine ⟨o1, o2, ?_⟩
    rcases o3 with ⟨q1, q2⟩ | ⟨p, cur, q1, q2, q3, q4, q5⟩
    · exact .inl ⟨by show upd io N (io b) b0 = some none; rw [g2]; exact q1, q2⟩
    · refine .inr ⟨p, cur, by show upd io N (io b) b0 = some (some p); rw [g2]; exact q1, q2, q3, q4, fun i j x hx => ?_⟩
      obtain ⟨u, hu, hu1, hr⟩ := q5 i j x hx
      exact ⟨u, hu, hu1, hr.mono le⟩
  · obtain ⟨c1, g1, g2, g3⟩ := look h1
    obtain ⟨c2, l1, l2, l3⟩ := look h2
    have := h.inj c1 c2 bk bk' k g1 l1 hm' (by rw [← g2]; exact h3) (by rw [← l2]; exact h4)
    subst this
    rcases g3 with ⟨a1, a2⟩ | ⟨a1, a2, a3⟩ <;> rcases l3 with ⟨c1', c2'⟩ | ⟨c1', c2', c3'⟩
    · rw [a1, c1']
    · exact absurd (c1'.trans a2) c3'
    · exact absurd (a1.trans c2') a3
    · rw [a1, c1']
  · by_cases e : b0 = N
    · subst e; rw [upd_same] at hb0; exact h.lt b k hb0
    · rw [upd_ne _ _ e] at hb0; exact h.lt b0 k hb0
  · obtain ⟨b1, g1, g2, _⟩ := look hb0
    exact h.notX b1 bk k g1 (by rw [← g2]; exact hk)
  · rw [upd_ne _ _ hb0]
    by_cases e : b0 = b
    · subst e; exact upd_same _ _ _
    · rw [upd_ne _ _ e]; exact h2

/-- A row of the call's own that nobody writes any more reads as a slice. -/
theorem Rel.frozen {X : Nat → Prop} {io : Nat → Option (Option Nat)} {μ : Mu} {w : World} (h : Mem X io μ w) {b : Nat} {blk : Blk} (hb : μ b = some blk) (hm : blk.mu = false) {sz off len : Nat} (hsz : blk.sz = sz) (hlen : off + len ≤ blk.es.length)
    {u : Value} (hr : Rel (envOf X io μ w) (.row b sz off len) u) :
    Rel (envOf X io μ w) (.sl sz ((blk.es.drop off).take len)) u := by
  obtain ⟨hl, hmx, hk⟩ := h.ok b blk hb
  have hlen' : ((blk.es.drop off).take len).length = len := by simp; omega
  cases hr with
  | rowz _ _ A hz =>
    simp only [List.take_zero]
    exact .sl0 _ _ _
  | row _ _ _ _ k c A cur ty hio hA hcur hc hlc hmc =>
    by_cases hc0 : c = 0
    · obtain rfl : len = 0 := by omega
      simp only [List.take_zero]
      exact .sl0 _ _ _
    obtain rfl := hA hc0
    rcases hk with ⟨h1, h2⟩ | ⟨p, cur2, h1, h2, h3, _, h4⟩
    · have h1' : io b = some none := h1
      have hio' : io b = some (some k) := hio
      rw [h1'] at hio'; cases hio'
    · have h1' : io b = some (some p) := h1
      have hio' : io b = some (some k) := hio
      rw [hio'] at h1'
      injection h1' with h1'
      injection h1' with h1'
      subst h1'
      subst hsz
      have him : imOf X io μ w k := ⟨h.lt b k hio', h.notX b blk k hb hio', fun b' blk' hb' hm' hk' => by
        have := h.inj b' b blk' blk k hb' hb hm' hk' hio'
        subst this
        rw [hb] at hb'
        injection hb' with hb'
        subst hb'
        rw [hm] at hm'; cases hm'⟩
      have get : ∀ i j, i < len → j < blk.sz → ∃ x, cellAt blk.es (off + i) j = some x := fun i j hi hj => by
        have : off + i < blk.es.length := by omega
        refine ⟨(blk.es[off + i])[j]'(by rw [hl _ (List.getElem_mem _)]; exact hj), ?_⟩
        simp [cellAt, this, hl _ (List.getElem_mem this), hj]
      have gv : ∀ i j, ∃ u : Value, i < len → j < blk.sz → cur2[(off + i) * blk.sz + j]? = some u ∧ u.oneCell' = true ∧ ∀ x, cellAt blk.es (off + i) j = some x → Rel (envOf X io μ w) x u := fun i j => by
        by_cases hij : i < len ∧ j < blk.sz
        · obtain ⟨x, hx⟩ := get i j hij.1 hij.2
          obtain ⟨u, hu, hu1, hur⟩ := h4 (off + i) j x hx
          exact ⟨u, fun _ _ => ⟨hu, hu1, fun y hy => by rw [hx] at hy; injection hy with hy; subst hy; exact hur⟩⟩
        · exact ⟨.bool true, fun a b => absurd ⟨a, b⟩ hij⟩
      have key := Rel.sl (E := envOf X io μ w) blk.sz ((blk.es.drop off).take len) k (off * blk.sz) c (fun i j => Classical.choose (gv i j))
        (fun e he => hl e (List.mem_of_mem_drop (List.mem_of_mem_take he))) him (by rw [hlen']; exact Nat.le_trans (by omega) hmc) (by rw [hlen']; exact hlc)
        (fun i j hi hj => by
          rw [hlen'] at hi
          have hs := Classical.choose_spec (gv i j) hi hj
          have hh : (envOf X io μ w).w.cell? ⟨k, off * blk.sz + (i * blk.sz + j), none⟩ = cur2[off * blk.sz + (i * blk.sz + j)]? := cell_of_row w k _ cur2 blk.ty (0, 0) h2
          rw [hh, show off * blk.sz + (i * blk.sz + j) = (off + i) * blk.sz + j by rw [Nat.add_mul, Nat.add_assoc]]
          exact ⟨hs.1, hs.2.1⟩)
        (fun i j x hx => by
          have hi : i < len := by
            unfold cellAt at hx
            cases hq : ((blk.es.drop off).take len)[i]? with
            | none => rw [hq] at hx; cases hx
            | some e => have := (List.getElem?_eq_some_iff.1 hq).1; omega
          have hx2 : cellAt blk.es (off + i) j = some x := by
            unfold cellAt at hx ⊢
            rw [List.getElem?_take, if_pos hi, List.getElem?_drop] at hx
            exact hx
          have hj : j < blk.sz := by
            unfold cellAt at hx2
            cases hq : blk.es[off + i]? with
            | none => rw [hq] at hx2; cases hx2
            | some e =>
              rw [hq] at hx2
              have h5 := hl e (List.mem_of_getElem? hq)
              have := (List.getElem?_eq_some_iff.1 (show e[j]? = some x from hx2)).1
              omega
          exact (Classical.choose_spec (gv i j) hi hj).2.2 x hx2)
      rw [hlen'] at key
      exact key

end Go.Proofs.Ytneoeegpceompaa.AM
