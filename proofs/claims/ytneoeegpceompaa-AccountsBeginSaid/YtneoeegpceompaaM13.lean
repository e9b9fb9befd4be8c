/-
The abstract machine, part 13: contracts, and a call by its contract.
-/
import Derived.Test.YtneoeegpceompaaM12
namespace Go.Proofs.Ytneoeegpceompaa.AM
open Go

variable {P : Program}

/-! ### What is written -/

def lookW : Wr → Nat → Option (Option Blk)
  | [], _ => none
  | (c, x) :: r, b => match lookW r b with
    | some y => some y
    | none => if b = c then some x else none

theorem app_look (μ : Mu) (wr : Wr) (b : Nat) : app μ wr b = (lookW wr b).getD (μ b) := by
  induction wr generalizing μ with
  | nil => rfl
  | cons p r ih =>
    obtain ⟨c, x⟩ := p
    simp only [app, lookW]
    rw [ih]
    cases h : lookW r b with
    | some y => rfl
    | none =>
      simp only [Option.getD_none, upd]
      split <;> rfl

theorem app_append (μ : Mu) (a b : Wr) : app μ (a ++ b) = app (app μ a) b := by
  induction a generalizing μ with
  | nil => rfl
  | cons p r ih => obtain ⟨c, x⟩ := p; simp only [List.cons_append, app]; exact ih _

def preMu (pre : List (Nat × Blk)) : Mu := app (fun _ => none) (pre.map fun p => (p.1, some p.2))

theorem lookW_mem {wr : Wr} {b : Nat} {x : Option Blk} (h : lookW wr b = some x) : (b, x) ∈ wr := by
  induction wr with
  | nil => cases h
  | cons p r ih =>
    obtain ⟨c, y⟩ := p
    simp only [lookW] at h
    split at h
    · rename_i z hz
      injection h with h
      subst h
      exact List.mem_cons_of_mem _ (ih hz)
    · split at h
      · rename_i hbc
        injection h with h
        subst h; subst hbc
        exact List.mem_cons_self
      · cases h

/-! ### Names -/

def nm0 (d k : Nat) : Nat := 2 ^ d * (2 * k + 1)

theorem nm0_inj {d k d' k' : Nat} : nm0 d k = nm0 d' k' ↔ d = d' ∧ k = k' := by
  constructor
  · induction d generalizing d' with
    | zero =>
      intro h
      cases d' with
      | zero => simp [nm0] at h; exact ⟨rfl, by omega⟩
      | succ e =>
        exfalso
        have : 2 ^ (e + 1) * (2 * k' + 1) = 2 * (2 ^ e * (2 * k' + 1)) := by rw [Nat.pow_succ, Nat.mul_comm (2 ^ e) 2, Nat.mul_assoc]
        simp only [nm0, Nat.pow_zero, Nat.one_mul] at h
        rw [this] at h
        omega
    | succ e ih =>
      intro h
      have h1 : 2 ^ (e + 1) * (2 * k + 1) = 2 * (2 ^ e * (2 * k + 1)) := by rw [Nat.pow_succ, Nat.mul_comm (2 ^ e) 2, Nat.mul_assoc]
      cases d' with
      | zero =>
        exfalso
        simp only [nm0, Nat.pow_zero, Nat.one_mul] at h
        rw [h1] at h
        omega
      | succ e' =>
        have h2 : 2 ^ (e' + 1) * (2 * k' + 1) = 2 * (2 ^ e' * (2 * k' + 1)) := by rw [Nat.pow_succ, Nat.mul_comm (2 ^ e') 2, Nat.mul_assoc]
        simp only [nm0] at h
        rw [h1, h2] at h
        obtain ⟨r1, r2⟩ := ih (d' := e') (by simp only [nm0]; omega)
        exact ⟨by rw [r1], r2⟩
  · rintro ⟨rfl, rfl⟩; rfl

/-- The names of a frame: four stand together. -/
def nm (d k : Nat) : Nat := 4 * nm0 d k

theorem nm_inj {d k d' k' : Nat} : nm d k = nm d' k' ↔ d = d' ∧ k = k' := by
  rw [← nm0_inj]; unfold nm; omega

/-- A name and its neighbours. -/
def nbr (N b : Nat) : Prop := N ≤ b ∧ b < N + 4

theorem nbr_self (N : Nat) : nbr N N := ⟨Nat.le_refl _, by omega⟩

theorem nbr_nm {d k d' k' b : Nat} (h : nbr (nm d k) b) (h' : nbr (nm d' k') b) : d = d' ∧ k = k' := by
  rw [← nm0_inj]; unfold nbr nm at h h'; omega

theorem nm_gt (d k : Nat) : d < nm d k := by
  have h1 : d < 2 ^ d := Nat.lt_two_pow_self
  have h2 : 2 ^ d * 1 ≤ 2 ^ d * (2 * k + 1) := Nat.mul_le_mul_left _ (by omega)
  unfold nm nm0
  omega

/-- The names of the frames from D on. -/
def Gar (D b : Nat) : Prop := ∃ d k, D ≤ d ∧ nbr (nm d k) b

theorem Gar.mono {D D' b : Nat} (h : Gar D' b) (hD : D ≤ D') : Gar D b := by obtain ⟨d, k, h1, h2⟩ := h; exact ⟨d, k, by omega, h2⟩
theorem gar_nbr {D d k b : Nat} (hb : nbr (nm d k) b) : Gar D b ↔ D ≤ d := ⟨fun ⟨d', k', h1, h2⟩ => by obtain ⟨rfl, _⟩ := nbr_nm hb h2; exact h1, fun h => ⟨d, k, h, hb⟩⟩
theorem gar_nm {D d k : Nat} : Gar D (nm d k) ↔ D ≤ d := gar_nbr (nbr_self _)
/-- A name that is no frame's has no neighbour in a frame. -/
theorem gar_of {D N b : Nat} (h4 : N % 4 = 0) (h : ¬ Gar D N) (hb : nbr N b) : ¬ Gar D b := fun ⟨d, k, h1, h2⟩ => h ⟨d, k, h1, by unfold nbr nm at *; omega⟩
theorem nm4 (d k : Nat) : nm d k % 4 = 0 := by unfold nm; omega

/-- A step, with whatever names it may have taken. -/
structure StepA (X : Nat → Prop) (A : Nat → Prop) (io : Nat → Option (Option Nat)) (μ : Mu) (w : World) (io' : Nat → Option (Option Nat)) (μ' : Mu) (w' : World) : Prop where
  mem : Mem X io' μ' w'
  ios : ∀ b k, io b = some k → io' b = some k
  os : w'.os = w.os
  tape : w'.tape = w.tape
  output : w'.output = w.output
  size : w.heap.size ≤ w'.heap.size
  keep : ∀ k, k < w.heap.size → (∀ b blk, μ b = some blk → blk.mu = true → io b ≠ some (some k)) → w'.heap[k]? = w.heap[k]?
  shape : ∀ (k : Nat) (cur : Array Value) (ty : TypeId), w.heap[k]? = some (.cells cur ty (0, 0)) → ∃ cur' : Array Value, w'.heap[k]? = some (.cells cur' ty (0, 0)) ∧ cur'.size = cur.size
  own : ∀ b blk k, μ' b = some blk → blk.mu = true → io' b = some (some k) → (∃ b0 blk0, μ b0 = some blk0 ∧ blk0.mu = true ∧ io b0 = some (some k)) ∨ w.heap.size ≤ k
  free : ∀ b, ¬ A b → io b = none → io' b = none
  top : (∃ D, ∀ b, Gar D b → io b = none) → ∃ D, ∀ b, Gar D b → io' b = none

theorem Mem.unused {X : Nat → Prop} {io : Nat → Option (Option Nat)} {μ : Mu} {w : World} (h : Mem X io μ w) {b : Nat} (hb : io b = none) : μ b = none := by
  cases hm : μ b with
  | none => rfl
  | some blk =>
    obtain ⟨_, _, h⟩ := h.ok b blk hm
    rcases h with ⟨h, _⟩ | ⟨p, cur, h, _⟩
    · have h' : io b = some none := h
      rw [hb] at h'; cases h'
    · have h' : io b = some (some p) := h
      rw [hb] at h'; cases h'

theorem Step.toA {X : Nat → Prop} {N : Nat} {io : Nat → Option (Option Nat)} {μ : Mu} {w : World} {io' : Nat → Option (Option Nat)} {μ' : Mu} {w' : World} (hM : Mem X io μ w) (h : Step X N io μ w io' μ' w') {A : Nat → Prop} (hA : A N) : StepA X A io μ w io' μ' w' where
  mem := h.mem
  ios := h.ios
  os := h.os
  tape := h.tape
  output := h.output
  size := h.size
  keep := h.keep
  shape := h.shape
  own := h.own
  free b hb hn := (h.free b (fun e => hb (e ▸ hA)) hn (hM.unused hn)).1
  top := fun ⟨D, hD⟩ => ⟨max D (N + 1), fun b hb => by
    have hbN : b ≠ N := by
      obtain ⟨d, k, h1, h2⟩ := hb
      have := nm_gt d k
      have := h2.1
      omega
    have hn := hD b (hb.mono (by omega))
    exact (h.free b hbN hn (hM.unused hn)).1⟩

theorem StepA.le {X A : Nat → Prop} {io : Nat → Option (Option Nat)} {μ : Mu} {w : World} {io' : Nat → Option (Option Nat)} {μ' : Mu} {w' : World} (h : StepA X A io μ w io' μ' w') :
    (envOf X io μ w).Le (envOf X io' μ' w') := le_of h.ios h.size h.keep h.shape h.own

theorem StepA.trans {X A : Nat → Prop} {io : Nat → Option (Option Nat)} {μ : Mu} {w : World} {io1 : Nat → Option (Option Nat)} {μ1 : Mu} {w1 : World} {io2 : Nat → Option (Option Nat)} {μ2 : Mu} {w2 : World}
    (h : StepA X A io μ w io1 μ1 w1) (k : StepA X A io1 μ1 w1 io2 μ2 w2) : StepA X A io μ w io2 μ2 w2 where
  mem := k.mem
  ios b x hx := k.ios b x (h.ios b x hx)
  os := k.os.trans h.os
  tape := k.tape.trans h.tape
  output := k.output.trans h.output
  size := Nat.le_trans h.size k.size
  keep p hp hn := by
    rw [k.keep p (Nat.lt_of_lt_of_le hp h.size) (fun b blk hb hm hio => ?_)]
    · exact h.keep p hp hn
    · rcases h.own b blk p hb hm hio with ⟨b0, blk0, h1, h2, h3⟩ | h1
      · exact hn b0 blk0 h1 h2 h3
      · omega
  shape p cur ty hc := by
    obtain ⟨c1, h1, s1⟩ := h.shape p cur ty hc
    obtain ⟨c2, h2, s2⟩ := k.shape p c1 ty h1
    exact ⟨c2, h2, s2.trans s1⟩
  own b blk p hb hm hk := by
    rcases k.own b blk p hb hm hk with ⟨b0, blk0, h1, h2, h3⟩ | h1
    · exact h.own b0 blk0 p h1 h2 h3
    · exact .inr (Nat.le_trans h.size h1)
  free b hA hn := k.free b hA (h.free b hA hn)
  top hD := k.top (h.top hD)

/-! ### Contracts -/

/-- THE CONTRACT OF A FUNCTION: called with such arguments, and with such blocks of the caller's own, it returns such a value and leaves such blocks; nothing else changes. -/
def FSpec (P : Program) (N : Nat) (k : FuncId) (args : List AV) (pre : List (Nat × Blk)) (r : AV) (post : Wr) : Prop :=
  ∀ (X : Nat → Prop) (io : Nat → Option (Option Nat)) (w : World) (vs : List Value) (D : Nat), Mem X io (preMu pre) w → Rels (envOf X io (preMu pre) w) args vs → N % 4 = 0 → (∀ b, nbr N b → io b = none) → (∀ b, Gar D b → io b = none) → ¬ Gar D N →
    Calls P k vs.toArray w fun e w' => ∃ v io', e = .returned v ∧ StepA X (fun b => nbr N b ∨ Gar D b) io (preMu pre) w io' (app (preMu pre) post) w' ∧ Rel (envOf X io' (app (preMu pre) post) w') r v

/-- The blocks of the caller's own that the callee isn't told of. -/
def Others (X : Nat → Prop) (io : Nat → Option (Option Nat)) (μ : Mu) (pre : Mu) (k : Nat) : Prop := X k ∨ ∃ b blk, μ b = some blk ∧ blk.mu = true ∧ io b = some (some k) ∧ pre b = none

section
variable {X : Nat → Prop} {io : Nat → Option (Option Nat)} {μ pre : Mu} {w : World}

theorem sub_le (hM : Mem X io μ w) (hsub : ∀ b blk, pre b = some blk → μ b = some blk) : (envOf X io μ w).Le (envOf (Others X io μ pre) io pre w) where
  im k h := ⟨⟨h.1, fun hx => by
      rcases hx with hx | ⟨b, blk, h1, h2, h3, _⟩
      · exact h.2.1 hx
      · exact h.2.2 b blk h1 h2 h3, fun b blk hb hm => h.2.2 b blk (hsub b blk hb) hm⟩, rfl⟩
  io _ _ h := h
  shape _ cur _ h := ⟨cur, h, rfl⟩

theorem sub_mem (hM : Mem X io μ w) (hsub : ∀ b blk, pre b = some blk → μ b = some blk) : Mem (Others X io μ pre) io pre w where
  ok b blk hb := (hM.ok b blk (hsub b blk hb)).mono (sub_le hM hsub) (fun _ _ => rfl)
  inj b b' blk blk' k h1 h2 := hM.inj b b' blk blk' k (hsub _ _ h1) (hsub _ _ h2)
  lt := hM.lt
  notX b blk k hb hk hx := by
    rcases hx with hx | ⟨b', blk', h1, h2, h3, h4⟩
    · exact hM.notX b blk k (hsub _ _ hb) hk hx
    · have := hM.inj b' b blk' blk k h1 (hsub _ _ hb) h2 h3 hk
      subst this
      rw [hb] at h4; cases h4
  xlt k hx := by
    rcases hx with hx | ⟨b, blk, h1, h2, h3, _⟩
    · exact hM.xlt k hx
    · exact hM.lt b k h3

/-- What a callee has done, seen by its caller. -/
theorem frame_step {A : Nat → Prop} (hM : Mem X io μ w) (hsub : ∀ b blk, pre b = some blk → μ b = some blk) {io' : Nat → Option (Option Nat)} {w' : World} {post : Wr}
    (hs : StepA (Others X io μ pre) A io pre w io' (app pre post) w') :
    StepA X A io μ w io' (app μ post) w' ∧ (envOf (Others X io μ pre) io' (app pre post) w').Le (envOf X io' (app μ post) w') := by
  have hio : ∀ b blk, μ b = some blk → io' b = io b := fun b blk hb => by
    cases hc : io b with
    | some x => exact hs.ios b x hc
    | none => rw [hM.unused hc] at hb; cases hb
  -- a block behind the call: the callee's, or one that it wasn't told of
  have look : ∀ b blk, app μ post b = some blk → app pre post b = some blk ∨ (μ b = some blk ∧ pre b = none) := fun b blk hb => by
    rw [app_look] at hb
    cases hl : lookW post b with
    | some x =>
      rw [hl] at hb
      left
      rw [app_look, hl]; exact hb
    | none =>
      rw [hl] at hb
      simp only [Option.getD_none] at hb
      cases hp : pre b with
      | some bk =>
        left
        rw [app_look, hl]
        have := hsub b bk hp
        rw [hb] at this
        injection this with this
        subst this
        exact hp
      | none => right; exact ⟨hb, rfl⟩
  have keepO : ∀ b blk k, μ b = some blk → pre b = none → io b = some (some k) → w'.heap[k]? = w.heap[k]? := fun b blk k hb hp hk =>
    hs.keep k (hM.lt b k hk) (fun b' blk' hb' hm' hk' => by
      have := hM.inj b' b blk' blk k (hsub _ _ hb') hb hm' hk' hk
      subst this
      rw [hp] at hb'; cases hb')
  have own : ∀ b blk k, app μ post b = some blk → blk.mu = true → io' b = some (some k) → (∃ b0 blk0, μ b0 = some blk0 ∧ blk0.mu = true ∧ io b0 = some (some k)) ∨ w.heap.size ≤ k := fun b blk k hb hm hk => by
    rcases look b blk hb with h | ⟨h, hp⟩
    · rcases hs.own b blk k h hm hk with ⟨b0, blk0, h1, h2, h3⟩ | h1
      · exact .inl ⟨b0, blk0, hsub _ _ h1, h2, h3⟩
      · exact .inr h1
    · rw [hio b blk h] at hk
      exact .inl ⟨b, blk, h, hm, hk⟩
  have keep : ∀ k, k < w.heap.size → (∀ b blk, μ b = some blk → blk.mu = true → io b ≠ some (some k)) → w'.heap[k]? = w.heap[k]? := fun k hk h => hs.keep k hk (fun b blk hb => h b blk (hsub _ _ hb))
  have le := le_of (X := X) hs.ios hs.size keep hs.shape own
  have le2 : (envOf (Others X io μ pre) io' (app pre post) w').Le (envOf X io' (app μ post) w') := ⟨fun k h => ⟨⟨h.1, fun hx => h.2.1 (.inl hx), fun b blk hb hm hk => by
      rcases look b blk hb with h1 | ⟨h1, hp⟩
      · exact h.2.2 b blk h1 hm hk
      · rw [hio b blk h1] at hk
        exact h.2.1 (.inr ⟨b, blk, h1, hm, hk, hp⟩)⟩, rfl⟩, fun _ _ h => h, fun _ cur _ h => ⟨cur, h, rfl⟩⟩
  refine ⟨⟨⟨fun b blk hb => ?_, fun b b' blk blk' k h1 h2 hm h3 h4 => ?_, fun b k hk => ?_, fun b blk k hb hk => ?_, fun k hk => Nat.lt_of_lt_of_le (hM.xlt k hk) hs.size⟩, hs.ios, hs.os, hs.tape, hs.output, hs.size, keep, hs.shape, own, hs.free, hs.top⟩, le2⟩
  · rcases look b blk hb with h | ⟨h, hp⟩
    · exact (hs.mem.ok b blk h).mono le2 (fun _ _ => rfl)
    · exact (hM.ok b blk h).mono le (fun p hk => keepO b blk p h hp hk)
  · rcases look b blk h1 with g1 | ⟨g1, p1⟩ <;> rcases look b' blk' h2 with g2 | ⟨g2, p2⟩
    · exact hs.mem.inj b b' blk blk' k g1 g2 hm h3 h4
    · exfalso
      rw [hio b' blk' g2] at h4
      rcases hs.own b blk k g1 hm h3 with ⟨b0, blk0, q1, q2, q3⟩ | q1
      · have := hM.inj b0 b' blk0 blk' k (hsub _ _ q1) g2 q2 q3 h4
        subst this
        rw [p2] at q1; cases q1
      · have := hM.lt b' k h4; omega
    · exfalso
      rw [hio b blk g1] at h3
      exact hs.mem.notX b' blk' k g2 h4 (.inr ⟨b, blk, g1, hm, h3, p1⟩)
    · rw [hio b blk g1] at h3; rw [hio b' blk' g2] at h4
      exact hM.inj b b' blk blk' k g1 g2 hm h3 h4
  · exact hs.mem.lt b k hk
  · rcases look b blk hb with h | ⟨h, hp⟩
    · exact fun hx => hs.mem.notX b blk k h hk (.inl hx)
    · rw [hio b blk h] at hk; exact hM.notX b blk k h hk
end

/-- A call, by its contract. -/
theorem call_ok {X : Nat → Prop} {io : Nat → Option (Option Nat)} {μ : Mu} {w : World} {N k D : Nat} {args : List AV} {vs : List Value} {pre : List (Nat × Blk)} {r : AV} {post : Wr} (hF : FSpec P N k args pre r post) (hM : Mem X io μ w)
    (hsub : ∀ b blk, preMu pre b = some blk → μ b = some blk) (h4 : N % 4 = 0) (hN : ∀ b, nbr N b → io b = none) (hD : ∀ b, Gar D b → io b = none) (hND : ¬ Gar D N) (hargs : Rels (envOf X io μ w) args vs) :
    Calls P k vs.toArray w fun e w' => ∃ v io', e = .returned v ∧ StepA X (fun b => nbr N b ∨ Gar D b) io μ w io' (app μ post) w' ∧ Rel (envOf X io' (app μ post) w') r v := by
  refine (hF _ io w vs D (sub_mem hM hsub) (hargs.mono (sub_le hM hsub)) h4 hN hD hND).mono fun e w' h => ?_
  obtain ⟨v, io', he, hs, hr⟩ := h
  obtain ⟨h1, h2⟩ := frame_step hM hsub hs
  exact ⟨v, io', he, h1, hr.mono h2⟩

/-! ### The same value, with less known of it -/

/-- One cell. -/
inductive VL1 (μ : Mu) : AV → AV → Prop
  | refl (x : AV) : VL1 μ x x
  | any (x : AV) : VL1 μ x .any
  | fz (b sz off len : Nat) (k : Blk) (h : μ b = some k) (hm : k.mu = false) (hs : k.sz = sz) (hl : off + len ≤ k.es.length) : VL1 μ (.row b sz off len) (.sl sz ((k.es.drop off).take len))
  | pfz (b sz i o : Nat) (k : Blk) (r : List AV) (h : μ b = some k) (hm : k.mu = false) (hs : k.sz = sz) (hr : k.es[i]? = some r) : VL1 μ (.pt b sz i o) (.ipt (r.drop o))
  | nil (sz : Nat) : VL1 μ (.v (.slice none 0 0)) (.sl sz [])
  | z0 (sz : Nat) : VL1 μ .z0 (.sl sz [])
  | r0 (b sz sz' off : Nat) : VL1 μ (.row b sz off 0) (.sl sz' [])
  | s0 (sz sz' : Nat) : VL1 μ (.sl sz []) (.sl sz' [])

inductive VLs1 (μ : Mu) : List AV → List AV → Prop
  | nil : VLs1 μ [] []
  | cons {x y : AV} {xs ys : List AV} (h : VL1 μ x y) (k : VLs1 μ xs ys) : VLs1 μ (x :: xs) (y :: ys)

/-- A value. -/
inductive VL2 (μ : Mu) : AV → AV → Prop
  | one {x y : AV} (h : VL1 μ x y) : VL2 μ x y
  | agg {cs ds : List AV} (h : VLs1 μ cs ds) : VL2 μ (.agg cs) (.agg ds)
  | fn {f : Nat} {cs ds : List AV} (h : VLs1 μ cs ds) : VL2 μ (.fn f cs) (.fn f ds)

inductive VLs2 (μ : Mu) : List AV → List AV → Prop
  | nil : VLs2 μ [] []
  | cons {x y : AV} {xs ys : List AV} (h : VL2 μ x y) (k : VLs2 μ xs ys) : VLs2 μ (x :: xs) (y :: ys)

/-- Results. -/
inductive VL3 (μ : Mu) : AV → AV → Prop
  | two {x y : AV} (h : VL2 μ x y) : VL3 μ x y
  | tup {cs ds : List AV} (h : VLs2 μ cs ds) : VL3 μ (.tup cs) (.tup ds)

theorem VLs1.refl {μ : Mu} (xs : List AV) : VLs1 μ xs xs := by
  induction xs with
  | nil => exact .nil
  | cons x xs ih => exact .cons (.refl x) ih
theorem VL2.refl {μ : Mu} (x : AV) : VL2 μ x x := .one (.refl x)
theorem VLs2.refl {μ : Mu} (xs : List AV) : VLs2 μ xs xs := by
  induction xs with
  | nil => exact .nil
  | cons x xs ih => exact .cons (.refl x) ih
theorem VL3.refl {μ : Mu} (x : AV) : VL3 μ x x := .two (.refl x)

/-- A frozen pointer reads as one into memory that nobody writes. -/
theorem Rel.frozenP {X : Nat → Prop} {io : Nat → Option (Option Nat)} {μ : Mu} {w : World} (h : Mem X io μ w) {b : Nat} {blk : Blk} (hb : μ b = some blk) (hm : blk.mu = false) {sz i o : Nat} (hsz : blk.sz = sz) {r : List AV} (hr0 : blk.es[i]? = some r)
    {u : Value} (hr : Rel (envOf X io μ w) (.pt b sz i o) u) : Rel (envOf X io μ w) (.ipt (r.drop o)) u := by
  obtain ⟨hl, hmx, hk⟩ := h.ok b blk hb
  cases hr with
  | pt _ _ _ _ k hio =>
    rcases hk with ⟨h1, h2⟩ | ⟨p, cur2, h1, h2, h3, _, h4⟩
    · have h1' : io b = some none := h1
      have hio' : io b = some (some k) := hio
      rw [h1'] at hio'; cases hio'
    · have h1' : io b = some (some p) := h1
      have hio' : io b = some (some k) := hio
      rw [hio'] at h1'
      injection h1' with h1'
      injection h1' with h1'
      subst h1'
      subst hsz
      have him : imOf X io μ w k := ⟨h.lt b k hio', h.notX b blk k hb hio', fun b' blk' hb' hm' hk' => by
        have := h.inj b' b blk' blk k hb' hb hm' hk' hio'
        subst this
        rw [hb] at hb'
        injection hb' with hb'
        subst hb'
        rw [hm] at hm'; cases hm'⟩
      have hrl : r.length = blk.sz := hl r (List.mem_of_getElem? hr0)
      have gv : ∀ j, ∃ u : Value, j < (r.drop o).length → cur2[i * blk.sz + (o + j)]? = some u ∧ u.oneCell' = true ∧ ∀ x, (r.drop o)[j]? = some x → Rel (envOf X io μ w) x u := fun j => by
        by_cases hj : j < (r.drop o).length
        · have hj' : o + j < r.length := by simp at hj; omega
          obtain ⟨u, hu, hu1, hur⟩ := h4 i (o + j) r[o + j] (by simp [cellAt, hr0])
          refine ⟨u, fun _ => ⟨hu, hu1, fun y hy => ?_⟩⟩
          rw [List.getElem?_drop, List.getElem?_eq_getElem hj'] at hy
          injection hy with hy
          subst hy; exact hur
        · exact ⟨.bool true, fun h => absurd h hj⟩
      exact Rel.ipt (E := envOf X io μ w) (r.drop o) k (i * blk.sz + o) (fun j => Classical.choose (gv j)) him
        (fun j hj => by
          have hs := Classical.choose_spec (gv j) hj
          have hh : (envOf X io μ w).w.cell? ⟨k, i * blk.sz + o + j, none⟩ = cur2[i * blk.sz + o + j]? := cell_of_row w k _ cur2 blk.ty (0, 0) h2
          rw [hh, Nat.add_assoc]
          exact ⟨hs.1, hs.2.1⟩)
        (fun j x hx => (Classical.choose_spec (gv j) (List.getElem?_eq_some_iff.1 hx).1).2.2 x hx)

section
variable {X : Nat → Prop} {io : Nat → Option (Option Nat)} {μ : Mu} {w : World} (hM : Mem X io μ w)
include hM

theorem VL1.rel {x y : AV} (h : VL1 μ x y) {u : Value} (hr : Rel (envOf X io μ w) x u) : Rel (envOf X io μ w) y u := by
  cases h with
  | refl _ => exact hr
  | any _ => exact .any u
  | fz b sz off len k h hm hs hl => exact Rel.frozen hM h hm hs hl hr
  | pfz b sz i o k r h hm hs hr0 => exact Rel.frozenP hM h hm hs hr0 hr
  | nil sz => cases hr; exact .sl0 _ _ _
  | z0 sz => cases hr; exact .sl0 _ _ _
  | r0 b sz sz' off => cases hr <;> exact .sl0 _ _ _
  | s0 sz sz' =>
    cases hr with
    | sl0 _ A c => exact .sl0 _ _ _
    | sl => exact .sl0 _ _ _

theorem VLs1.rels {xs ys : List AV} (h : VLs1 μ xs ys) {us : List Value} (hr : Rels (envOf X io μ w) xs us) : Rels (envOf X io μ w) ys us := by
  induction h generalizing us with
  | nil => exact hr
  | cons h _ ih =>
    obtain ⟨u, vs, rfl, h1, h2⟩ := hr.cons_inv
    exact .cons (h.rel hM h1) (ih h2)

theorem VL2.rel {x y : AV} (h : VL2 μ x y) {u : Value} (hr : Rel (envOf X io μ w) x u) : Rel (envOf X io μ w) y u := by
  cases h with
  | one h => exact h.rel hM hr
  | agg h =>
    cases hr with
    | agg _ us hl h1 hr => exact .agg' (h.rels hM ⟨hl, hr⟩) h1
  | fn h =>
    cases hr with
    | fn f _ vs hl hr =>
      obtain ⟨k1, k2⟩ := h.rels hM ⟨hl, hr⟩
      exact .fn _ _ vs k1 k2

theorem VLs2.rels {xs ys : List AV} (h : VLs2 μ xs ys) {us : List Value} (hr : Rels (envOf X io μ w) xs us) : Rels (envOf X io μ w) ys us := by
  induction h generalizing us with
  | nil => exact hr
  | cons h _ ih =>
    obtain ⟨u, vs, rfl, h1, h2⟩ := hr.cons_inv
    exact .cons (h.rel hM h1) (ih h2)

theorem VL3.rel {x y : AV} (h : VL3 μ x y) {u : Value} (hr : Rel (envOf X io μ w) x u) : Rel (envOf X io μ w) y u := by
  cases h with
  | two h => exact h.rel hM hr
  | tup h =>
    cases hr with
    | tup _ us hl hr => exact .tup' (h.rels hM ⟨hl, hr⟩)
end

/-- Blocks that are taken as such. -/
def frzW (μ : Mu) : List Nat → Wr
  | [] => []
  | b :: r => match μ b with
    | some k => (b, some { k with mu := false }) :: frzW (upd μ b (some { k with mu := false })) r
    | none => frzW μ r

theorem frz_step {X : Nat → Prop} {io : Nat → Option (Option Nat)} {w : World} (N : Nat) (fz : List Nat) : ∀ {μ : Mu}, Mem X io μ w → Step X N io μ w io (app μ (frzW μ fz)) w := by
  induction fz with
  | nil => intro μ h; exact Step.refl h
  | cons b r ih =>
    intro μ h
    simp only [frzW]
    split
    · rename_i k hk
      have h1 := step_freeze (N := N) h hk
      exact h1.trans (ih h1.mem)
    · exact ih h

theorem frz_ids (fz : List Nat) : ∀ (μ : Mu) (b : Nat) (x : Option Blk), lookW (frzW μ fz) b = some x → b ∈ fz ∧ μ b ≠ none := by
  induction fz with
  | nil => intro μ b x h; cases h
  | cons c r ih =>
    intro μ b x h
    simp only [frzW] at h
    split at h
    · rename_i k hk
      simp only [lookW] at h
      split at h
      · rename_i y hy
        obtain ⟨h1, h2⟩ := ih _ b y hy
        refine ⟨List.mem_cons_of_mem _ h1, fun hb => ?_⟩
        by_cases e : b = c
        · subst e; rw [hk] at hb; cases hb
        · rw [upd_ne _ _ e] at h2; exact h2 hb
      · split at h
        · rename_i e
          subst e
          exact ⟨List.mem_cons_self, by rw [hk]; simp⟩
        · cases h
    · obtain ⟨h1, h2⟩ := ih _ b x h
      exact ⟨List.mem_cons_of_mem _ h1, h2⟩

end Go.Proofs.Ytneoeegpceompaa.AM
