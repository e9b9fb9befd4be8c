/-
The abstract machine, joined of its parts.
-/
import Derived.Control
import Derived.Calls
import Derived.Orders
import Derived.Laws.AppendOwn
import Derived.Laws.CopyRow
import Derived.Laws.Rows
import Derived.Laws.StructEq
import Derived.RowKit

set_option linter.unusedVariables false
set_option linter.unusedSimpArgs false
/-
The abstract machine, part 1: abstract values, their relation to the model's values, memory. Over whatever program.
-/
namespace Go.Proofs.Ytneoeegpceompaa.AM
open Go

/-- What is known of a value: nothing; the value itself; a slice whose memory nobody writes; an empty slice without room; a pointer into memory that nobody writes; a pointer and a slice into a block of the call's own; a function value; a struct or an array; several results. -/
inductive AV where
  | any
  | v (x : Value)
  | sl (sz : Nat) (es : List (List AV))
  | z0
  | ipt (cs : List AV)
  | pt (b sz i o : Nat)
  | row (b sz off len : Nat)
  | fn (f : Nat) (cap : List AV)
  | agg (cs : List AV)
  | tup (vs : List AV)
  deriving Inhabited

/-- A block of the call's own: may it be written; its elements' type; their cells; the elements; how many have room, if that is known. -/
structure Blk where
  mu : Bool
  ty : Nat
  sz : Nat
  es : List (List AV)
  cap : Option Nat
  deriving Inhabited

/-- Where the relation is asked: the world, the blocks' places, the blocks that nobody writes. -/
structure Env where
  w : World
  io : Nat → Option (Option Nat)
  im : Nat → Prop

def cellAt (es : List (List AV)) (i j : Nat) : Option AV := (es[i]?).bind (·[j]?)

inductive Rel (E : Env) : AV → Value → Prop
  | any (x : Value) : Rel E .any x
  | v (x : Value) : Rel E (.v x) x
  | sl0 (sz : Nat) (A : Option Addr) (c : Nat) : Rel E (.sl sz []) (.slice A 0 c)
  | sl (sz : Nat) (es : List (List AV)) (k o c : Nat) (u : Nat → Nat → Value) (hl : ∀ e ∈ es, e.length = sz) (him : E.im k) (hn : es.length ≤ maxLen) (hlc : es.length ≤ c)
      (hc : ∀ i j, i < es.length → j < sz → E.w.cell? ⟨k, o + (i * sz + j), none⟩ = some (u i j) ∧ (u i j).oneCell' = true)
      (hr : ∀ i j x, cellAt es i j = some x → Rel E x (u i j)) : Rel E (.sl sz es) (.slice (some ⟨k, o, none⟩) es.length c)
  | z0 (A : Option Addr) : Rel E .z0 (.slice A 0 0)
  | ipt (cs : List AV) (k o : Nat) (u : Nat → Value) (him : E.im k)
      (hc : ∀ j, j < cs.length → E.w.cell? ⟨k, o + j, none⟩ = some (u j) ∧ (u j).oneCell' = true)
      (hr : ∀ (j : Nat) (x : AV), cs[j]? = some x → Rel E x (u j)) : Rel E (.ipt cs) (.pointer (some ⟨k, o, none⟩))
  | pt (b sz i o k : Nat) (hk : E.io b = some (some k)) : Rel E (.pt b sz i o) (.pointer (some ⟨k, i * sz + o, none⟩))
  | rowz (b sz : Nat) (A : Option Addr) (hz : E.io b = some none) : Rel E (.row b sz 0 0) (.slice A 0 0)
  | row (b sz off len k c : Nat) (A : Option Addr) (cur : Array Value) (ty : TypeId) (hk : E.io b = some (some k)) (hA : c ≠ 0 → A = some ⟨k, off * sz, none⟩) (hb : E.w.heap[k]? = some (.cells cur ty (0, 0))) (hc : (off + c) * sz = cur.size)
      (hl : len ≤ c) (hm : off + c ≤ maxLen) : Rel E (.row b sz off len) (.slice A len c)
  | fn (f : Nat) (cap : List AV) (vs : List Value) (hl : cap.length = vs.length) (h : ∀ (j : Nat) (x : AV) (u : Value), cap[j]? = some x → vs[j]? = some u → Rel E x u) : Rel E (.fn f cap) (.func (.func f) #[] vs.toArray)
  | agg (cs : List AV) (us : List Value) (hl : cs.length = us.length) (h1 : ∀ u ∈ us, u.oneCell' = true) (h : ∀ (j : Nat) (x : AV) (u : Value), cs[j]? = some x → us[j]? = some u → Rel E x u) : Rel E (.agg cs) (.agg us.toArray)
  | tup (cs : List AV) (us : List Value) (hl : cs.length = us.length) (h : ∀ (j : Nat) (x : AV) (u : Value), cs[j]? = some x → us[j]? = some u → Rel E x u) : Rel E (.tup cs) (.tuple us.toArray)

/-- What one place knows the other one knows, too. -/
structure Env.Le (E E' : Env) : Prop where
  im : ∀ k, E.im k → E'.im k ∧ E'.w.heap[k]? = E.w.heap[k]?
  io : ∀ b k, E.io b = some k → E'.io b = some k
  shape : ∀ (k : Nat) (cur : Array Value) (ty : TypeId), E.w.heap[k]? = some (.cells cur ty (0, 0)) → ∃ cur' : Array Value, E'.w.heap[k]? = some (.cells cur' ty (0, 0)) ∧ cur'.size = cur.size

theorem Env.Le.refl (E : Env) : E.Le E := ⟨fun _ h => ⟨h, rfl⟩, fun _ _ h => h, fun _ cur _ h => ⟨cur, h, rfl⟩⟩

theorem Env.Le.trans {A B C : Env} (h : A.Le B) (k : B.Le C) : A.Le C :=
  ⟨fun x hx => ⟨(k.im x (h.im x hx).1).1, (k.im x (h.im x hx).1).2.trans (h.im x hx).2⟩, fun b x hx => k.io b x (h.io b x hx), fun x cur ty hx => by
    obtain ⟨c1, h1, s1⟩ := h.shape x cur ty hx
    obtain ⟨c2, h2, s2⟩ := k.shape x c1 ty h1
    exact ⟨c2, h2, s2.trans s1⟩⟩

theorem cell_of_heap {w w' : World} {k j : Nat} (h : w'.heap[k]? = w.heap[k]?) : w'.cell? ⟨k, j, none⟩ = w.cell? ⟨k, j, none⟩ := World.cell?_of_block (a := ⟨k, j, none⟩) h

theorem Rel.mono {E E' : Env} (hE : E.Le E') {x : AV} {u : Value} (h : Rel E x u) : Rel E' x u := by
  induction h with
  | any x => exact .any x
  | v x => exact .v x
  | sl0 sz A c => exact .sl0 sz A c
  | sl sz es k o c u hl him hn hlc hc hr ih => exact .sl sz es k o c u hl (hE.im k him).1 hn hlc (fun i j hi hj => by rw [cell_of_heap (hE.im k him).2]; exact hc i j hi hj) ih
  | z0 A => exact .z0 A
  | ipt cs k o u him hc hr ih => exact .ipt cs k o u (hE.im k him).1 (fun j hj => by rw [cell_of_heap (hE.im k him).2]; exact hc j hj) ih
  | pt b sz i o k hk => exact .pt b sz i o k (hE.io b _ hk)
  | rowz b sz A hz => exact .rowz b sz A (hE.io b _ hz)
  | row b sz off len k c A cur ty hk hA hb hc hl hm =>
    obtain ⟨cur', hb', hs'⟩ := hE.shape k cur ty hb
    exact .row b sz off len k c A cur' ty (hE.io b _ hk) hA hb' (by rw [hs']; exact hc) hl hm
  | fn f cap vs hl _ ih => exact .fn f cap vs hl ih
  | agg cs us hl h1 _ ih => exact .agg cs us hl h1 ih
  | tup cs us hl _ ih => exact .tup cs us hl ih

/-- The arguments, one by one. -/
def Rels (E : Env) (xs : List AV) (us : List Value) : Prop := xs.length = us.length ∧ ∀ (j : Nat) (x : AV) (u : Value), xs[j]? = some x → us[j]? = some u → Rel E x u

theorem Rels.mono {E E' : Env} (hE : E.Le E') {xs : List AV} {us : List Value} (h : Rels E xs us) : Rels E' xs us := ⟨h.1, fun j x u hx hu => (h.2 j x u hx hu).mono hE⟩

theorem Rels.nil (E : Env) : Rels E [] [] := ⟨rfl, fun j x u h => by simp at h⟩
theorem Rels.cons {E : Env} {x : AV} {u : Value} {xs : List AV} {us : List Value} (h : Rel E x u) (k : Rels E xs us) : Rels E (x :: xs) (u :: us) := by
  refine ⟨by simp [k.1], fun j y v hy hv => ?_⟩
  cases j with
  | zero => simp at hy hv; subst hy; subst hv; exact h
  | succ j => simp at hy hv; exact k.2 j y v hy hv
theorem Rels.head {E : Env} {x : AV} {u : Value} {xs : List AV} {us : List Value} (h : Rels E (x :: xs) (u :: us)) : Rel E x u := h.2 0 x u (by simp) (by simp)
theorem Rels.tail {E : Env} {x : AV} {u : Value} {xs : List AV} {us : List Value} (h : Rels E (x :: xs) (u :: us)) : Rels E xs us :=
  ⟨by have := h.1; simpa using this, fun j y v hy hv => h.2 (j + 1) y v (by simpa using hy) (by simpa using hv)⟩
theorem Rels.app {E : Env} {xs ys : List AV} {us vs : List Value} (h : Rels E xs us) (k : Rels E ys vs) : Rels E (xs ++ ys) (us ++ vs) := by
  induction xs generalizing us with
  | nil =>
    have : us = [] := List.eq_nil_of_length_eq_zero (by have := h.1; simpa using this.symm)
    subst this
    simpa using k
  | cons x xs ih =>
    cases us with
    | nil => have := h.1; simp at this
    | cons u us => exact .cons h.head (ih h.tail)
theorem Rels.cons_inv {E : Env} {x : AV} {xs : List AV} {us : List Value} (h : Rels E (x :: xs) us) : ∃ u vs, us = u :: vs ∧ Rel E x u ∧ Rels E xs vs := by
  cases us with
  | nil => have := h.1; simp at this
  | cons u vs => exact ⟨u, vs, rfl, h.head, h.tail⟩
theorem Rels.nil_inv {E : Env} {us : List Value} (h : Rels E [] us) : us = [] := List.eq_nil_of_length_eq_zero (by have := h.1; simpa using this.symm)

theorem Rel.agg' {E : Env} {cs : List AV} {us : List Value} (h : Rels E cs us) (h1 : ∀ u ∈ us, u.oneCell' = true) : Rel E (.agg cs) (.agg us.toArray) := .agg cs us h.1 h1 h.2
theorem Rel.tup' {E : Env} {cs : List AV} {us : List Value} (h : Rels E cs us) : Rel E (.tup cs) (.tuple us.toArray) := .tup cs us h.1 h.2

/-! ### Memory -/

abbrev Mu := Nat → Option Blk

def upd {α : Type} (f : Nat → α) (k : Nat) (x : α) : Nat → α := fun j => if j = k then x else f j

theorem upd_same {α : Type} (f : Nat → α) (k : Nat) (x : α) : upd f k x k = x := by simp [upd]
theorem upd_ne {α : Type} (f : Nat → α) {k j : Nat} (x : α) (h : j ≠ k) : upd f k x j = f j := by simp [upd, h]

abbrev Wr := List (Nat × Option Blk)

def app (μ : Mu) : Wr → Mu
  | [] => μ
  | (b, x) :: r => app (upd μ b x) r

/-- A block is as the memory says. -/
def BlkOK (E : Env) (b : Nat) (k : Blk) : Prop :=
  (∀ e ∈ k.es, e.length = k.sz) ∧ k.es.length ≤ maxLen ∧
  ((E.io b = some none ∧ k.es = []) ∨
   ∃ (p : Nat) (cur : Array Value), E.io b = some (some p) ∧ E.w.heap[p]? = some (.cells cur k.ty (0, 0)) ∧ k.es.length * k.sz ≤ cur.size ∧ (∀ c, k.cap = some c → cur.size = c * k.sz) ∧
     ∀ i j x, cellAt k.es i j = some x → ∃ u, cur[i * k.sz + j]? = some u ∧ u.oneCell' = true ∧ Rel E x u)

theorem BlkOK.mono {E E' : Env} (hE : E.Le E') {b : Nat} {k : Blk} (h : BlkOK E b k) (hw : ∀ p, E.io b = some (some p) → E'.w.heap[p]? = E.w.heap[p]?) : BlkOK E' b k := by
  refine ⟨h.1, h.2.1, ?_⟩
  rcases h.2.2 with ⟨h1, h2⟩ | ⟨p, cur, h1, h2, h3, h5, h4⟩
  · exact .inl ⟨hE.io b _ h1, h2⟩
  · refine .inr ⟨p, cur, hE.io b _ h1, by rw [hw p h1]; exact h2, h3, h5, fun i j x hx => ?_⟩
    obtain ⟨u, hu, h1, hr⟩ := h4 i j x hx
    exact ⟨u, hu, h1, hr.mono hE⟩

/-- The blocks that nobody writes: they are there; they are none of X; they are no block of the call's own that may be written. -/
def imOf (X : Nat → Prop) (io : Nat → Option (Option Nat)) (μ : Mu) (w : World) (k : Nat) : Prop :=
  k < w.heap.size ∧ ¬ X k ∧ ∀ b blk, μ b = some blk → blk.mu = true → io b ≠ some (some k)

def envOf (X : Nat → Prop) (io : Nat → Option (Option Nat)) (μ : Mu) (w : World) : Env := ⟨w, io, imOf X io μ w⟩

/-- The memory is as told. -/
structure Mem (X : Nat → Prop) (io : Nat → Option (Option Nat)) (μ : Mu) (w : World) : Prop where
  ok : ∀ b blk, μ b = some blk → BlkOK (envOf X io μ w) b blk
  inj : ∀ b b' blk blk' k, μ b = some blk → μ b' = some blk' → blk.mu = true → io b = some (some k) → io b' = some (some k) → b = b'
  lt : ∀ b k, io b = some (some k) → k < w.heap.size
  notX : ∀ b blk k, μ b = some blk → io b = some (some k) → ¬ X k
  xlt : ∀ k, X k → k < w.heap.size

end Go.Proofs.Ytneoeegpceompaa.AM

/-
The abstract machine, part 2: one step of memory: a new block, a block rewritten, a block that becomes another one.
-/
namespace Go.Proofs.Ytneoeegpceompaa.AM
open Go

/-- One step of memory; N: the only name that may become used. -/
structure Step (X : Nat → Prop) (N : Nat) (io : Nat → Option (Option Nat)) (μ : Mu) (w : World) (io' : Nat → Option (Option Nat)) (μ' : Mu) (w' : World) : Prop where
  mem : Mem X io' μ' w'
  ios : ∀ b k, io b = some k → io' b = some k
  os : w'.os = w.os
  tape : w'.tape = w.tape
  output : w'.output = w.output
  size : w.heap.size ≤ w'.heap.size
  keep : ∀ k, k < w.heap.size → (∀ b blk, μ b = some blk → blk.mu = true → io b ≠ some (some k)) → w'.heap[k]? = w.heap[k]?
  shape : ∀ (k : Nat) (cur : Array Value) (ty : TypeId), w.heap[k]? = some (.cells cur ty (0, 0)) → ∃ cur' : Array Value, w'.heap[k]? = some (.cells cur' ty (0, 0)) ∧ cur'.size = cur.size
  own : ∀ b blk k, μ' b = some blk → blk.mu = true → io' b = some (some k) → (∃ b0 blk0, μ b0 = some blk0 ∧ blk0.mu = true ∧ io b0 = some (some k)) ∨ w.heap.size ≤ k
  free : ∀ b, b ≠ N → io b = none → μ b = none → io' b = none ∧ μ' b = none

theorem le_of {X : Nat → Prop} {io : Nat → Option (Option Nat)} {μ : Mu} {w : World} {io' : Nat → Option (Option Nat)} {μ' : Mu} {w' : World} (hio : ∀ b k, io b = some k → io' b = some k) (size : w.heap.size ≤ w'.heap.size)
    (keep : ∀ k, k < w.heap.size → (∀ b blk, μ b = some blk → blk.mu = true → io b ≠ some (some k)) → w'.heap[k]? = w.heap[k]?)
    (shape : ∀ (k : Nat) (cur : Array Value) (ty : TypeId), w.heap[k]? = some (.cells cur ty (0, 0)) → ∃ cur' : Array Value, w'.heap[k]? = some (.cells cur' ty (0, 0)) ∧ cur'.size = cur.size)
    (own : ∀ b blk k, μ' b = some blk → blk.mu = true → io' b = some (some k) → (∃ b0 blk0, μ b0 = some blk0 ∧ blk0.mu = true ∧ io b0 = some (some k)) ∨ w.heap.size ≤ k) :
    (envOf X io μ w).Le (envOf X io' μ' w') where
  im k h := ⟨⟨Nat.lt_of_lt_of_le h.1 size, h.2.1, fun b blk hb hm hk => by
      rcases own b blk k hb hm hk with ⟨b0, blk0, h1, h2, h3⟩ | h1
      · exact h.2.2 b0 blk0 h1 h2 h3
      · exact absurd h.1 (by omega)⟩, keep k h.1 h.2.2⟩
  io := hio
  shape := shape

theorem Step.le {X : Nat → Prop} {N : Nat} {io : Nat → Option (Option Nat)} {μ : Mu} {w : World} {io' : Nat → Option (Option Nat)} {μ' : Mu} {w' : World} (h : Step X N io μ w io' μ' w') :
    (envOf X io μ w).Le (envOf X io' μ' w') := le_of h.ios h.size h.keep h.shape h.own

theorem Step.refl {X : Nat → Prop} {N : Nat} {io : Nat → Option (Option Nat)} {μ : Mu} {w : World} (h : Mem X io μ w) : Step X N io μ w io μ w where
  mem := h
  ios _ _ h := h
  os := rfl
  tape := rfl
  output := rfl
  size := Nat.le_refl _
  keep _ _ _ := rfl
  shape _ cur _ h := ⟨cur, h, rfl⟩
  own b blk _ h1 h2 h3 := .inl ⟨b, blk, h1, h2, h3⟩
  free _ _ h1 h2 := ⟨h1, h2⟩

/-- A draw changes nothing here. -/
theorem Mem.drew {X : Nat → Prop} {io : Nat → Option (Option Nat)} {μ : Mu} {w : World} (h : Mem X io μ w) (n : Nat) : Mem X io μ { w with drawn := n } := ⟨fun b blk hb => BlkOK.mono (E := envOf X io μ w) (E' := envOf X io μ { w with drawn := n }) ⟨fun _ hk => ⟨hk, rfl⟩, fun _ _ h => h, fun _ cur _ h => ⟨cur, h, rfl⟩⟩ (h.ok b blk hb) (fun _ _ => rfl), h.inj, h.lt, h.notX, h.xlt⟩

theorem step_drew {X : Nat → Prop} {N : Nat} {io : Nat → Option (Option Nat)} {μ : Mu} {w : World} (h : Mem X io μ w) (n : Nat) : Step X N io μ w io μ { w with drawn := n } where
  mem := h.drew n
  ios _ _ h := h
  os := rfl
  tape := rfl
  output := rfl
  size := Nat.le_refl _
  keep _ _ _ := rfl
  shape _ cur _ h := ⟨cur, h, rfl⟩
  own b blk _ h1 h2 h3 := .inl ⟨b, blk, h1, h2, h3⟩
  free _ _ h1 h2 := ⟨h1, h2⟩

/-- Two steps in a row. -/
theorem Step.trans {X : Nat → Prop} {N : Nat} {io : Nat → Option (Option Nat)} {μ : Mu} {w : World} {io1 : Nat → Option (Option Nat)} {μ1 : Mu} {w1 : World} {io2 : Nat → Option (Option Nat)} {μ2 : Mu} {w2 : World}
    (h : Step X N io μ w io1 μ1 w1) (k : Step X N io1 μ1 w1 io2 μ2 w2) : Step X N io μ w io2 μ2 w2 where
  mem := k.mem
  ios b x hx := k.ios b x (h.ios b x hx)
  os := k.os.trans h.os
  tape := k.tape.trans h.tape
  output := k.output.trans h.output
  size := Nat.le_trans h.size k.size
  keep x hx hm := (k.keep x (Nat.lt_of_lt_of_le hx h.size) (fun b blk hb hmu hk => by
      rcases h.own b blk x hb hmu hk with ⟨b0, blk0, h1, h2, h3⟩ | h1
      · exact hm b0 blk0 h1 h2 h3
      · omega)).trans (h.keep x hx hm)
  shape x cur ty hx := by
    obtain ⟨c1, h1, s1⟩ := h.shape x cur ty hx
    obtain ⟨c2, h2, s2⟩ := k.shape x c1 ty h1
    exact ⟨c2, h2, s2.trans s1⟩
  own b blk x hb hm hk := by
    rcases k.own b blk x hb hm hk with ⟨b0, blk0, h1, h2, h3⟩ | h1
    · exact h.own b0 blk0 x h1 h2 h3
    · exact .inr (Nat.le_trans h.size h1)
  free b hb h1 h2 := by
    obtain ⟨h3, h4⟩ := h.free b hb h1 h2
    exact k.free b hb h3 h4

theorem heap_push_lt {w : World} {o : Obj} {k : Nat} (h : k < w.heap.size) : (w.alloc o).heap[k]? = w.heap[k]? := heap_alloc_old w o k h

/-- What a block's cells must be. -/
def Holds (E : Env) (cur : Array Value) (sz : Nat) (es : List (List AV)) : Prop :=
  ∀ i j x, cellAt es i j = some x → ∃ u, cur[i * sz + j]? = some u ∧ u.oneCell' = true ∧ Rel E x u

/-- A new block. -/
theorem step_alloc {X : Nat → Prop} {N : Nat} {io : Nat → Option (Option Nat)} {μ : Mu} {w : World} (h : Mem X io μ w) (hN : io N = none) (hμ : μ N = none) (blk : Blk) (cur : Array Value)
    (hl : ∀ e ∈ blk.es, e.length = blk.sz) (hn : blk.es.length ≤ maxLen) (hs : blk.es.length * blk.sz ≤ cur.size) (hc : ∀ c, blk.cap = some c → cur.size = c * blk.sz) (hr : Holds (envOf X io μ w) cur blk.sz blk.es) :
    Step X N io μ w (upd io N (some (some w.heap.size))) (upd μ N (some blk)) (w.alloc (.cells cur blk.ty)) := by
  have hio : ∀ b k, io b = some k → upd io N (some (some w.heap.size)) b = some k := fun b k hb => by
    rw [upd_ne _ _ (fun e => by subst e; rw [hN] at hb; cases hb)]; exact hb
  have size : w.heap.size ≤ (w.alloc (.cells cur blk.ty)).heap.size := by simp
  have keep : ∀ k, k < w.heap.size → (∀ b blk, μ b = some blk → blk.mu = true → io b ≠ some (some k)) → (w.alloc (.cells cur blk.ty)).heap[k]? = w.heap[k]? := fun k hk _ => heap_push_lt hk
  have shape : ∀ (k : Nat) (c : Array Value) (ty : TypeId), w.heap[k]? = some (.cells c ty (0, 0)) → ∃ c' : Array Value, (w.alloc (.cells cur blk.ty)).heap[k]? = some (.cells c' ty (0, 0)) ∧ c'.size = c.size :=
    fun k c ty hk => ⟨c, by rw [heap_push_lt (Array.getElem?_eq_some_iff.1 hk).1]; exact hk, rfl⟩
  have old : ∀ b, b ≠ N → upd io N (some (some w.heap.size)) b = io b := fun b hb => upd_ne _ _ hb
  have own : ∀ b bk k, upd μ N (some blk) b = some bk → bk.mu = true → upd io N (some (some w.heap.size)) b = some (some k) → (∃ b0 blk0, μ b0 = some blk0 ∧ blk0.mu = true ∧ io b0 = some (some k)) ∨ w.heap.size ≤ k := fun b bk k h1 h2 h3 => by
    by_cases e : b = N
    · subst e; rw [upd_same] at h3; simp at h3; omega
    · rw [upd_ne _ _ e] at h1; rw [old b e] at h3; exact .inl ⟨b, bk, h1, h2, h3⟩
  have le := le_of (X := X) hio size keep shape own
  refine ⟨⟨fun b bk hb => ?_, fun b b' bk bk' k h1 h2 hm h3 h4 => ?_, fun b k hb => ?_, fun b bk k hb hk => ?_, fun k hk => Nat.lt_of_lt_of_le (h.xlt k hk) size⟩, hio, rfl, rfl, rfl, size, keep, shape, own, fun b hb h1 h2 => ⟨by rw [old b hb]; exact h1, by rw [upd_ne _ _ hb]; exact h2⟩⟩
  · by_cases e : b = N
    · subst e
      rw [upd_same] at hb
      injection hb with hb
      subst hb
      refine ⟨hl, hn, .inr ⟨w.heap.size, cur, upd_same _ _ _, heap_alloc_new w _, hs, hc, fun i j x hx => ?_⟩⟩
      obtain ⟨u, hu, h1, hr⟩ := hr i j x hx
      exact ⟨u, hu, h1, hr.mono le⟩
    · rw [upd_ne _ _ e] at hb
      exact (h.ok b bk hb).mono le (fun p hp => heap_push_lt (h.lt b p hp))
  · by_cases e : b = N
    · subst e
      by_cases e' : b' = b
      · exact e'.symm
      · rw [upd_same] at h3; rw [old b' e'] at h4
        have := h.lt b' k h4
        simp at h3; omega
    · by_cases e' : b' = N
      · subst e'
        rw [upd_same] at h4; rw [old b e] at h3
        have := h.lt b k h3
        simp at h4; omega
      · rw [upd_ne _ _ e] at h1; rw [upd_ne _ _ e'] at h2; rw [old b e] at h3; rw [old b' e'] at h4
        exact h.inj b b' bk bk' k h1 h2 hm h3 h4
  · by_cases e : b = N
    · subst e; rw [upd_same] at hb; simp at hb; subst hb; simp
    · rw [old b e] at hb; exact Nat.lt_of_lt_of_le (h.lt b k hb) size
  · by_cases e : b = N
    · subst e
      rw [upd_same] at hk; simp at hk
      intro hx; have := h.xlt k hx; omega
    · rw [upd_ne _ _ e] at hb; rw [old b e] at hk; exact h.notX b bk k hb hk

/-- A block of the call's own is rewritten. -/
theorem step_write {X : Nat → Prop} {N : Nat} {io : Nat → Option (Option Nat)} {μ : Mu} {w : World} (h : Mem X io μ w) {b : Nat} {blk : Blk} (hb : μ b = some blk) (hm : blk.mu = true) {p : Nat} (hp : io b = some (some p))
    {cur : Array Value} (hcur : w.heap[p]? = some (.cells cur blk.ty (0, 0))) (blk' : Blk) (cur' : Array Value) (hty : blk'.ty = blk.ty) (hsz' : cur'.size = cur.size)
    (hl : ∀ e ∈ blk'.es, e.length = blk'.sz) (hn : blk'.es.length ≤ maxLen) (hs : blk'.es.length * blk'.sz ≤ cur'.size) (hc : ∀ c, blk'.cap = some c → cur'.size = c * blk'.sz) (hr : Holds (envOf X io μ w) cur' blk'.sz blk'.es) :
    Step X N io μ w io (upd μ b (some blk')) (w.setRow p cur') := by
  have size : w.heap.size ≤ (w.setRow p cur').heap.size := by simp
  have keep : ∀ k, k < w.heap.size → (∀ b blk, μ b = some blk → blk.mu = true → io b ≠ some (some k)) → (w.setRow p cur').heap[k]? = w.heap[k]? := fun k _ hk => setRow_other w p k _ (fun e => hk b blk hb hm (e ▸ hp))
  have hnew : (w.setRow p cur').heap[p]? = some (.cells cur' blk.ty (0, 0)) := setRow_heap w p cur cur' blk.ty (0, 0) hcur
  have shape : ∀ (k : Nat) (c : Array Value) (ty : TypeId), w.heap[k]? = some (.cells c ty (0, 0)) → ∃ c' : Array Value, (w.setRow p cur').heap[k]? = some (.cells c' ty (0, 0)) ∧ c'.size = c.size := fun k c ty hk => by
    by_cases e : k = p
    · subst e
      rw [hcur] at hk
      injection hk with hk
      injection hk with h1 h2
      subst h1; subst h2
      exact ⟨cur', hnew, hsz'⟩
    · exact ⟨c, by rw [setRow_other w p k _ e]; exact hk, rfl⟩
  have own : ∀ b0 bk k, upd μ b (some blk') b0 = some bk → bk.mu = true → io b0 = some (some k) → (∃ b0 blk0, μ b0 = some blk0 ∧ blk0.mu = true ∧ io b0 = some (some k)) ∨ w.heap.size ≤ k := fun b0 bk k h1 h2 h3 => by
    by_cases e : b0 = b
    · subst e; exact .inl ⟨b0, blk, hb, hm, h3⟩
    · rw [upd_ne _ _ e] at h1; exact .inl ⟨b0, bk, h1, h2, h3⟩
  have le := le_of (X := X) (io := io) (io' := io) (fun _ _ h => h) size keep shape own
  refine ⟨⟨fun b0 bk hb0 => ?_, fun b0 b1 bk bk' k h1 h2 hm' h3 h4 => ?_, fun b0 k hb0 => Nat.lt_of_lt_of_le (h.lt b0 k hb0) size, fun b0 bk k hb0 hk => ?_, fun k hk => Nat.lt_of_lt_of_le (h.xlt k hk) size⟩, fun _ _ h => h, rfl, rfl, rfl, size, keep, shape, own, fun b0 _ h1 h2 => ⟨h1, ?_⟩⟩
  · by_cases e : b0 = b
    · subst e
      rw [upd_same] at hb0
      injection hb0 with hb0
      subst hb0
      refine ⟨hl, hn, .inr ⟨p, cur', hp, by rw [hty]; exact hnew, hs, hc, fun i j x hx => ?_⟩⟩
      obtain ⟨u, hu, h1, hr⟩ := hr i j x hx
      exact ⟨u, hu, h1, hr.mono le⟩
    · rw [upd_ne _ _ e] at hb0
      refine (h.ok b0 bk hb0).mono le (fun q hq => setRow_other w p q _ (fun ee => e ?_))
      subst ee
      exact (h.inj b b0 blk bk q hb hb0 hm hp hq).symm
  · have g1 : ∃ bk0, μ b0 = some bk0 ∧ (bk0.mu = true) := by
      by_cases e : b0 = b
      · subst e; exact ⟨blk, hb, hm⟩
      · rw [upd_ne _ _ e] at h1; exact ⟨bk, h1, hm'⟩
    have g2 : ∃ bk1, μ b1 = some bk1 := by
      by_cases e : b1 = b
      · subst e; exact ⟨blk, hb⟩
      · rw [upd_ne _ _ e] at h2; exact ⟨bk', h2⟩
    obtain ⟨bk0, g1, g1m⟩ := g1
    obtain ⟨bk1, g2⟩ := g2
    exact h.inj b0 b1 bk0 bk1 k g1 g2 g1m h3 h4
  · by_cases e : b0 = b
    · subst e; exact h.notX b0 blk k hb hk
    · rw [upd_ne _ _ e] at hb0; exact h.notX b0 bk k hb0 hk
  · rw [upd_ne _ _ (fun e => by subst e; rw [hb] at h2; cases h2)]; exact h2

/-- A block is forgotten. -/
theorem step_drop {X : Nat → Prop} {N : Nat} {io : Nat → Option (Option Nat)} {μ : Mu} {w : World} (h : Mem X io μ w) (b : Nat) : Step X N io μ w io (upd μ b none) w := by
  have own : ∀ b0 bk k, upd μ b none b0 = some bk → bk.mu = true → io b0 = some (some k) → (∃ b0 blk0, μ b0 = some blk0 ∧ blk0.mu = true ∧ io b0 = some (some k)) ∨ w.heap.size ≤ k := fun b0 bk k h1 h2 h3 => by
    by_cases e : b0 = b
    · subst e; rw [upd_same] at h1; cases h1
    · rw [upd_ne _ _ e] at h1; exact .inl ⟨b0, bk, h1, h2, h3⟩
  have le := le_of (X := X) (io := io) (io' := io) (w := w) (w' := w) (fun _ _ h => h) (Nat.le_refl _) (fun _ _ _ => rfl) (fun _ c _ h => ⟨c, h, rfl⟩) own
  have sub : ∀ {b0 bk}, upd μ b none b0 = some bk → μ b0 = some bk := fun {b0 bk} h1 => by
    by_cases e : b0 = b
    · subst e; rw [upd_same] at h1; cases h1
    · rw [upd_ne _ _ e] at h1; exact h1
  refine ⟨⟨fun b0 bk hb0 => (h.ok b0 bk (sub hb0)).mono le (fun _ _ => rfl), fun b0 b1 bk bk' k h1 h2 hm' h3 h4 => h.inj b0 b1 bk bk' k (sub h1) (sub h2) hm' h3 h4, h.lt, fun b0 bk k hb0 hk => h.notX b0 bk k (sub hb0) hk, h.xlt⟩, fun _ _ h => h, rfl, rfl, rfl, Nat.le_refl _, fun _ _ _ => rfl, fun _ c _ h => ⟨c, h, rfl⟩, own, fun b0 _ h1 h2 => ⟨h1, ?_⟩⟩
  by_cases e : b0 = b
  · subst e; exact upd_same _ _ _
  · rw [upd_ne _ _ e]; exact h2

/-- A block is taken as one that nobody writes any more. -/
theorem step_freeze {X : Nat → Prop} {N : Nat} {io : Nat → Option (Option Nat)} {μ : Mu} {w : World} (h : Mem X io μ w) {b : Nat} {blk : Blk} (hb : μ b = some blk) :
    Step X N io μ w io (upd μ b (some { blk with mu := false })) w := by
  have own : ∀ b0 bk k, upd μ b (some { blk with mu := false }) b0 = some bk → bk.mu = true → io b0 = some (some k) → (∃ b0 blk0, μ b0 = some blk0 ∧ blk0.mu = true ∧ io b0 = some (some k)) ∨ w.heap.size ≤ k := fun b0 bk k h1 h2 h3 => by
    by_cases e : b0 = b
    · subst e; rw [upd_same] at h1; injection h1 with h1; subst h1; cases h2
    · rw [upd_ne _ _ e] at h1; exact .inl ⟨b0, bk, h1, h2, h3⟩
  have le := le_of (X := X) (io := io) (io' := io) (w := w) (w' := w) (fun _ _ h => h) (Nat.le_refl _) (fun _ _ _ => rfl) (fun _ c _ h => ⟨c, h, rfl⟩) own
  have sub : ∀ {b0 bk}, upd μ b (some { blk with mu := false }) b0 = some bk → ∃ bk0, μ b0 = some bk0 ∧ (bk.mu = true → bk0.mu = true) := fun {b0 bk} h1 => by
    by_cases e : b0 = b
    · subst e; rw [upd_same] at h1; injection h1 with h1; subst h1; exact ⟨blk, hb, fun h => by cases h⟩
    · rw [upd_ne _ _ e] at h1; exact ⟨bk, h1, fun h => h⟩
  refine ⟨⟨fun b0 bk hb0 => ?_, fun b0 b1 bk bk' k h1 h2 hm' h3 h4 => ?_, h.lt, fun b0 bk k hb0 hk => ?_, h.xlt⟩, fun _ _ h => h, rfl, rfl, rfl, Nat.le_refl _, fun _ _ _ => rfl, fun _ c _ h => ⟨c, h, rfl⟩, own, fun b0 _ h1 h2 => ⟨h1, ?_⟩⟩
  · by_cases e : b0 = b
    · subst e
      rw [upd_same] at hb0
      injection hb0 with hb0
      subst hb0
      exact (h.ok b0 blk hb).mono le (fun _ _ => rfl)
    · rw [upd_ne _ _ e] at hb0
      exact (h.ok b0 bk hb0).mono le (fun _ _ => rfl)
  · obtain ⟨k0, g0, m0⟩ := sub h1
    obtain ⟨k1, g1, _⟩ := sub h2
    exact h.inj b0 b1 k0 k1 k g0 g1 (m0 hm') h3 h4
  · obtain ⟨k0, g0, _⟩ := sub hb0
    exact h.notX b0 k0 k g0 hk
  · rw [upd_ne _ _ (fun e => by subst e; rw [hb] at h2; cases h2)]; exact h2

/-- A block gets a new name. -/
theorem step_rename {X : Nat → Prop} {N : Nat} {io : Nat → Option (Option Nat)} {μ : Mu} {w : World} (h : Mem X io μ w) (hN : io N = none) (hμ : μ N = none) {b : Nat} {blk : Blk} (hb : μ b = some blk) :
    Step X N io μ w (upd io N (io b)) (upd (upd μ b none) N (some blk)) w := by
  have hne : b ≠ N := fun e => by subst e; rw [hb] at hμ; cases hμ
  have hio : ∀ b0 k, io b0 = some k → upd io N (io b) b0 = some k := fun b0 k hb0 => by
    rw [upd_ne _ _ (fun e => by subst e; rw [hN] at hb0; cases hb0)]; exact hb0
  have look : ∀ {b0 bk}, upd (upd μ b none) N (some blk) b0 = some bk → ∃ b1, μ b1 = some bk ∧ upd io N (io b) b0 = io b1 ∧ (b0 = N ∧ b1 = b ∨ b0 = b1 ∧ b0 ≠ N ∧ b0 ≠ b) := fun {b0 bk} h1 => by
    by_cases e : b0 = N
    · subst e; rw [upd_same] at h1; injection h1 with h1; subst h1; exact ⟨b, hb, upd_same _ _ _, .inl ⟨rfl, rfl⟩⟩
    · rw [upd_ne _ _ e] at h1
      by_cases e' : b0 = b
      · subst e'; rw [upd_same] at h1; cases h1
      · rw [upd_ne _ _ e'] at h1; exact ⟨b0, h1, upd_ne _ _ e, .inr ⟨rfl, e, e'⟩⟩
  have own : ∀ b0 bk k, upd (upd μ b none) N (some blk) b0 = some bk → bk.mu = true → upd io N (io b) b0 = some (some k) → (∃ b0 blk0, μ b0 = some blk0 ∧ blk0.mu = true ∧ io b0 = some (some k)) ∨ w.heap.size ≤ k := fun b0 bk k h1 h2 h3 => by
    obtain ⟨b1, g1, g2, _⟩ := look h1
    exact .inl ⟨b1, bk, g1, h2, by rw [← g2]; exact h3⟩
  have le := le_of (X := X) (w := w) (w' := w) hio (Nat.le_refl _) (fun _ _ _ => rfl) (fun _ c _ h => ⟨c, h, rfl⟩) own
  refine ⟨⟨fun b0 bk hb0 => ?_, fun b0 b1 bk bk' k h1 h2 hm' h3 h4 => ?_, fun b0 k hb0 => ?_, fun b0 bk k hb0 hk => ?_, h.xlt⟩, hio, rfl, rfl, rfl, Nat.le_refl _, fun _ _ _ => rfl, fun _ c _ h => ⟨c, h, rfl⟩, own, fun b0 hb0 h1 h2 => ⟨by rw [upd_ne _ _ hb0]; exact h1, ?_⟩⟩
  · obtain ⟨b1, g1, g2, _⟩ := look hb0
    obtain ⟨o1, o2, o3⟩ := h.ok b1 bk g1
    refine ⟨o1, o2, ?_⟩
    rcases o3 with ⟨q1, q2⟩ | ⟨p, cur, q1, q2, q3, q4, q5⟩
    · exact .inl ⟨by show upd io N (io b) b0 = some none; rw [g2]; exact q1, q2⟩
    · refine .inr ⟨p, cur, by show upd io N (io b) b0 = some (some p); rw [g2]; exact q1, q2, q3, q4, fun i j x hx => ?_⟩
      obtain ⟨u, hu, hu1, hr⟩ := q5 i j x hx
      exact ⟨u, hu, hu1, hr.mono le⟩
  · obtain ⟨c1, g1, g2, g3⟩ := look h1
    obtain ⟨c2, l1, l2, l3⟩ := look h2
    have := h.inj c1 c2 bk bk' k g1 l1 hm' (by rw [← g2]; exact h3) (by rw [← l2]; exact h4)
    subst this
    rcases g3 with ⟨a1, a2⟩ | ⟨a1, a2, a3⟩ <;> rcases l3 with ⟨c1', c2'⟩ | ⟨c1', c2', c3'⟩
    · rw [a1, c1']
    · exact absurd (c1'.trans a2) c3'
    · exact absurd (a1.trans c2') a3
    · rw [a1, c1']
  · by_cases e : b0 = N
    · subst e; rw [upd_same] at hb0; exact h.lt b k hb0
    · rw [upd_ne _ _ e] at hb0; exact h.lt b0 k hb0
  · obtain ⟨b1, g1, g2, _⟩ := look hb0
    exact h.notX b1 bk k g1 (by rw [← g2]; exact hk)
  · rw [upd_ne _ _ hb0]
    by_cases e : b0 = b
    · subst e; exact upd_same _ _ _
    · rw [upd_ne _ _ e]; exact h2

/-- A row of the call's own that nobody writes any more reads as a slice. -/
theorem Rel.frozen {X : Nat → Prop} {io : Nat → Option (Option Nat)} {μ : Mu} {w : World} (h : Mem X io μ w) {b : Nat} {blk : Blk} (hb : μ b = some blk) (hm : blk.mu = false) {sz off len : Nat} (hsz : blk.sz = sz) (hlen : off + len ≤ blk.es.length)
    {u : Value} (hr : Rel (envOf X io μ w) (.row b sz off len) u) :
    Rel (envOf X io μ w) (.sl sz ((blk.es.drop off).take len)) u := by
  obtain ⟨hl, hmx, hk⟩ := h.ok b blk hb
  have hlen' : ((blk.es.drop off).take len).length = len := by simp; omega
  cases hr with
  | rowz _ _ A hz =>
    simp only [List.take_zero]
    exact .sl0 _ _ _
  | row _ _ _ _ k c A cur ty hio hA hcur hc hlc hmc =>
    by_cases hc0 : c = 0
    · obtain rfl : len = 0 := by omega
      simp only [List.take_zero]
      exact .sl0 _ _ _
    obtain rfl := hA hc0
    rcases hk with ⟨h1, h2⟩ | ⟨p, cur2, h1, h2, h3, _, h4⟩
    · have h1' : io b = some none := h1
      have hio' : io b = some (some k) := hio
      rw [h1'] at hio'; cases hio'
    · have h1' : io b = some (some p) := h1
      have hio' : io b = some (some k) := hio
      rw [hio'] at h1'
      injection h1' with h1'
      injection h1' with h1'
      subst h1'
      subst hsz
      have him : imOf X io μ w k := ⟨h.lt b k hio', h.notX b blk k hb hio', fun b' blk' hb' hm' hk' => by
        have := h.inj b' b blk' blk k hb' hb hm' hk' hio'
        subst this
        rw [hb] at hb'
        injection hb' with hb'
        subst hb'
        rw [hm] at hm'; cases hm'⟩
      have get : ∀ i j, i < len → j < blk.sz → ∃ x, cellAt blk.es (off + i) j = some x := fun i j hi hj => by
        have : off + i < blk.es.length := by omega
        refine ⟨(blk.es[off + i])[j]'(by rw [hl _ (List.getElem_mem _)]; exact hj), ?_⟩
        simp [cellAt, this, hl _ (List.getElem_mem this), hj]
      have gv : ∀ i j, ∃ u : Value, i < len → j < blk.sz → cur2[(off + i) * blk.sz + j]? = some u ∧ u.oneCell' = true ∧ ∀ x, cellAt blk.es (off + i) j = some x → Rel (envOf X io μ w) x u := fun i j => by
        by_cases hij : i < len ∧ j < blk.sz
        · obtain ⟨x, hx⟩ := get i j hij.1 hij.2
          obtain ⟨u, hu, hu1, hur⟩ := h4 (off + i) j x hx
          exact ⟨u, fun _ _ => ⟨hu, hu1, fun y hy => by rw [hx] at hy; injection hy with hy; subst hy; exact hur⟩⟩
        · exact ⟨.bool true, fun a b => absurd ⟨a, b⟩ hij⟩
      have key := Rel.sl (E := envOf X io μ w) blk.sz ((blk.es.drop off).take len) k (off * blk.sz) c (fun i j => Classical.choose (gv i j))
        (fun e he => hl e (List.mem_of_mem_drop (List.mem_of_mem_take he))) him (by rw [hlen']; exact Nat.le_trans (by omega) hmc) (by rw [hlen']; exact hlc)
        (fun i j hi hj => by
          rw [hlen'] at hi
          have hs := Classical.choose_spec (gv i j) hi hj
          have hh : (envOf X io μ w).w.cell? ⟨k, off * blk.sz + (i * blk.sz + j), none⟩ = cur2[off * blk.sz + (i * blk.sz + j)]? := cell_of_row w k _ cur2 blk.ty (0, 0) h2
          rw [hh, show off * blk.sz + (i * blk.sz + j) = (off + i) * blk.sz + j by rw [Nat.add_mul, Nat.add_assoc]]
          exact ⟨hs.1, hs.2.1⟩)
        (fun i j x hx => by
          have hi : i < len := by
            unfold cellAt at hx
            cases hq : ((blk.es.drop off).take len)[i]? with
            | none => rw [hq] at hx; cases hx
            | some e => have := (List.getElem?_eq_some_iff.1 hq).1; omega
          have hx2 : cellAt blk.es (off + i) j = some x := by
            unfold cellAt at hx ⊢
            rw [List.getElem?_take, if_pos hi, List.getElem?_drop] at hx
            exact hx
          have hj : j < blk.sz := by
            unfold cellAt at hx2
            cases hq : blk.es[off + i]? with
            | none => rw [hq] at hx2; cases hx2
            | some e =>
              rw [hq] at hx2
              have h5 := hl e (List.mem_of_getElem? hq)
              have := (List.getElem?_eq_some_iff.1 (show e[j]? = some x from hx2)).1
              omega
          exact (Classical.choose_spec (gv i j) hi hj).2.2 x hx2)
      rw [hlen'] at key
      exact key

end Go.Proofs.Ytneoeegpceompaa.AM

/-
The abstract machine, part 22 (ahead of part 3): a region's operations in another order of the list.
-/
namespace Go.Proofs.Ytneoeegpceompaa.AM
open Go

variable {P : Program}

/-- An operation whose references are renumbered. -/
def reOper (p : Nat → Nat) (o : Oper) : Oper := { o with after := o.after.map (fun e => { e with on := p e.on }), guard := o.guard.map fun g => (p g.1, g.2) }

/-- The operations of 'ops' stand in 'ops'' at other places. -/
structure Relab (ops ops' : Array Oper) (p : Nat → Nat) : Prop where
  size : ops'.size = ops.size
  lt : ∀ i, i < ops.size → p i < ops.size
  inj : ∀ i j, i < ops.size → j < ops.size → p i = p j → i = j
  at_ : ∀ (i : Nat) (o : Oper), ops[i]? = some o → ops'[p i]? = some (reOper p o)
  back : ∀ (i : Nat) (o : Oper), ops[i]? = some o → ∀ e ∈ o.after.toList, e.on < ops.size
  guards : ∀ (i : Nat) (o : Oper) (g : Nat × Bool), ops[i]? = some o → o.guard = some g → g.1 < ops.size

theorem wp_re {p : Nat → Nat} {o : Oper} {a : Act} {w : World} {K : Act → World → Prop} {Q : Exit → Act → World → Prop} : (reOper p o).wp P a w K Q ↔ o.wp P a w K Q := by
  have : execOp a.eval (reOper p o) = execOp a.eval o := rfl
  unfold Oper.wp
  rw [this]
  rfl

theorem asks_re {p : Nat → Nat} {o : Oper} {a : Act} {w : World} : (reOper p o).asks P a w ↔ o.asks P a w := Iff.rfl

theorem wanted_re {ops ops' : Array Oper} {p : Nat → Nat} (h : Relab ops ops' p) {i : Nat} {o : Oper} (hi : ops[i]? = some o) (tmps : Array Value) : Region.wanted (reOper p o) (yielded ops' tmps) = Region.wanted o (yielded ops tmps) := by
  unfold Region.wanted
  cases hg : o.guard with
  | none => simp [reOper, hg]
  | some g =>
    obtain ⟨j, want⟩ := g
    have hj := h.guards i o (j, want) hi hg
    have hoj : ops[j]? = some (ops[j]'hj) := Array.getElem?_eq_getElem hj
    have := h.at_ j _ hoj
    simp only [reOper, hg, Option.map_some, yielded, this, hoj, Option.bind_some]

theorem ready_mem {md : Region.Mode} {ops : Array Oper} {listed : Array Bool} (hsz : listed.size = ops.size) (i : Nat) : i ∈ Region.ready md ops listed ↔ ∃ o, ops[i]? = some o ∧ listed.getD i false = false ∧ ∀ e ∈ o.after.toList, Region.binds md e = true → listed.getD e.on false = true := by
  unfold Region.ready
  rw [List.mem_filter, List.mem_range]
  constructor
  · rintro ⟨hi, h⟩
    refine ⟨ops[i], Array.getElem?_eq_getElem hi, ?_⟩
    rw [Array.getElem?_eq_getElem hi] at h
    simp only [Bool.and_eq_true, Bool.not_eq_true', Option.map_some, Option.getD_some] at h
    obtain ⟨h1, h2⟩ := h
    refine ⟨by simpa [Array.getD_eq_getD_getElem?, hsz, hi] using h1, fun e he hb => ?_⟩
    have := Array.all_eq_true_iff_forall_mem.1 h2 e (by simpa using he)
    simpa [hb] using this
  · rintro ⟨o, ho, h1, h2⟩
    have hi : i < ops.size := (Array.getElem?_eq_some_iff.1 ho).1
    refine ⟨hi, ?_⟩
    rw [ho]
    simp only [Bool.and_eq_true, Bool.not_eq_true', Option.map_some, Option.getD_some]
    refine ⟨by simpa [Array.getD_eq_getD_getElem?, hsz, hi] using h1, Array.all_eq_true_iff_forall_mem.2 fun e he => ?_⟩
    by_cases hb : Region.binds md e = true
    · rw [h2 e (by simpa using he) hb]; simp
    · simp [hb]

/-- The same, for every order. -/
theorem wpAny_relab {md : Region.Mode} {ops ops' : Array Oper} {p : Nat → Nat} {Q : Exit → Act → World → Prop} (h : Relab ops ops' p) (onto : ∀ j, j < ops.size → ∃ i, i < ops.size ∧ p i = j) : ∀ (fuel : Nat) (listed listed' : Array Bool), listed.size = ops.size → listed'.size = ops.size → (∀ i, i < ops.size → listed'.getD (p i) false = listed.getD i false) →
    ∀ a w, wpAny P md ops' Q fuel listed' a w → wpAny P md ops Q fuel listed a w := by
  have key : ∀ (listed listed' : Array Bool), listed.size = ops.size → listed'.size = ops.size → (∀ i, i < ops.size → listed'.getD (p i) false = listed.getD i false) → ∀ i, i ∈ Region.ready md ops listed → p i ∈ Region.ready md ops' listed' := fun listed listed' h1 h2 hL i hi => by
    obtain ⟨o, ho, h3, h4⟩ := (ready_mem h1 i).1 hi
    have hlt : i < ops.size := (Array.getElem?_eq_some_iff.1 ho).1
    refine (ready_mem (by rw [h2, h.size]) (p i)).2 ⟨reOper p o, h.at_ i o ho, by rw [hL i hlt]; exact h3, fun e he hb => ?_⟩
    simp only [reOper, Array.toList_map, List.mem_map] at he
    obtain ⟨e0, he0, rfl⟩ := he
    rw [hL e0.on (h.back i o ho e0 he0)]
    exact h4 e0 he0 hb
  have key2 : ∀ (listed listed' : Array Bool), listed.size = ops.size → listed'.size = ops.size → (∀ i, i < ops.size → listed'.getD (p i) false = listed.getD i false) → Region.ready md ops listed = [] → Region.ready md ops' listed' = [] := fun listed listed' h1 h2 hL he => by
    cases hr : Region.ready md ops' listed' with
    | nil => rfl
    | cons j r =>
      obtain ⟨o', ho', h3, h4⟩ := (ready_mem (by rw [h2, h.size]) j).1 (by rw [hr]; simp)
      have hj : j < ops.size := by rw [← h.size]; exact (Array.getElem?_eq_some_iff.1 ho').1
      obtain ⟨i, hi, rfl⟩ := onto j hj
      have ho : ops[i]? = some (ops[i]'hi) := Array.getElem?_eq_getElem hi
      have := h.at_ i _ ho
      rw [this] at ho'
      injection ho' with ho'
      subst ho'
      have : i ∈ Region.ready md ops listed := (ready_mem h1 i).2 ⟨_, ho, by rw [← hL i hi]; exact h3, fun e he' hb => by
        rw [← hL e.on (h.back i _ ho e he')]
        exact h4 { e with on := p e.on } (by simp only [reOper, Array.toList_map, List.mem_map]; exact ⟨e, he', rfl⟩) hb⟩
      rw [he] at this; cases this
  intro fuel
  induction fuel with
  | zero =>
    intro listed listed' h1 h2 hL a w hw
    refine ⟨?_, hw.2⟩
    cases hr : Region.ready md ops listed with
    | nil => rfl
    | cons i r =>
      have := key listed listed' h1 h2 hL i (by rw [hr]; simp)
      rw [hw.1] at this; cases this
  | succ fuel ih =>
    intro listed listed' h1 h2 hL a w hw
    refine ⟨fun he => hw.1 (key2 listed listed' h1 h2 hL he), fun i hi => ?_⟩
    obtain ⟨o, ho, h3, h4⟩ := (ready_mem h1 i).1 hi
    have hlt : i < ops.size := (Array.getElem?_eq_some_iff.1 ho).1
    have hop := hw.2 (p i) (key listed listed' h1 h2 hL i hi)
    have hop2 := wpOp_mono (fun a w => ih (listed.setIfInBounds i true) (listed'.setIfInBounds (p i) true) (by simpa using h1) (by simpa using h2) (fun j hj => by
      simp only [Array.getD_eq_getD_getElem?]
      by_cases e : j = i
      · subst e
        have := h.lt j hj
        simp [h1, h2, hlt, this]
      · have e2 : p i ≠ p j := fun e' => e (h.inj _ _ hlt hj e').symm
        rw [Array.getElem?_setIfInBounds_ne e2, Array.getElem?_setIfInBounds_ne (Ne.symm e)]
        have := hL j hj
        simpa [Array.getD_eq_getD_getElem?] using this) a w) hop
    unfold wpOp at hop2 ⊢
    rw [h.at_ i o ho] at hop2
    rw [ho]
    simp only at hop2 ⊢
    rw [wanted_re h ho] at hop2
    exact hop2

/-! ### Sorting -/

def sortOps (ops : Array Oper) (l : List Nat) : Array Oper := (l.map fun i => reOper (fun j => l.idxOf j) (ops.getD i default)).toArray

def sortOk (ops : Array Oper) (l : List Nat) : Bool :=
  l.length == ops.size && (List.range ops.size).all (fun i => l.contains i && l.idxOf (l.getD i ops.size) == i && decide (l.getD i ops.size < ops.size)) &&
  ops.all (fun o => o.after.all (fun e => decide (e.on < ops.size)) && (match o.guard with | some g => decide (g.1 < ops.size) | none => true))

theorem sort_relab {ops : Array Oper} {l : List Nat} (h : sortOk ops l = true) : Relab ops (sortOps ops l) (fun j => l.idxOf j) ∧ ∀ j, j < ops.size → ∃ i, i < ops.size ∧ l.idxOf i = j := by
  simp only [sortOk, Bool.and_eq_true, beq_iff_eq] at h
  obtain ⟨⟨hlen, hall⟩, hops⟩ := h
  have hmem : ∀ i, i < ops.size → i ∈ l ∧ l.idxOf (l.getD i ops.size) = i ∧ l.getD i ops.size < ops.size := fun i hi => by
    have := List.all_eq_true.1 hall i (List.mem_range.2 hi)
    simp only [Bool.and_eq_true, beq_iff_eq, decide_eq_true_eq] at this
    exact ⟨by simpa using this.1.1, this.1.2, this.2⟩
  have hlt : ∀ i, i < ops.size → l.idxOf i < ops.size := fun i hi => by rw [← hlen]; exact List.idxOf_lt_length_iff.2 (hmem i hi).1
  have hget : ∀ i, i < ops.size → l[l.idxOf i]? = some i := fun i hi => by
    rw [List.getElem?_eq_getElem (by rw [hlen]; exact hlt i hi)]
    simp
  have hop : ∀ (i : Nat) (o : Oper), ops[i]? = some o → (∀ e ∈ o.after.toList, e.on < ops.size) ∧ ∀ g, o.guard = some g → g.1 < ops.size := fun i o ho => by
    have := Array.all_eq_true_iff_forall_mem.1 hops o (Array.mem_of_getElem? ho)
    simp only [Bool.and_eq_true] at this
    refine ⟨fun e he => ?_, fun g hg => ?_⟩
    · have h2 := Array.all_eq_true_iff_forall_mem.1 this.1 e (by simpa using he)
      simpa using h2
    · have h2 := this.2
      rw [hg] at h2
      simpa using h2
  refine ⟨⟨by simp [sortOps, hlen], hlt, fun i j hi hj e => ?_, fun i o ho => ?_, fun i o ho => (hop i o ho).1, fun i o g ho hg => (hop i o ho).2 g hg⟩, fun j hj => ⟨l.getD j ops.size, (hmem j hj).2.2, (hmem j hj).2.1⟩⟩
  · have h1 := hget i hi
    have h2 := hget j hj
    rw [e] at h1
    rw [h1] at h2
    injection h2
  · have hi := (Array.getElem?_eq_some_iff.1 ho).1
    simp only [sortOps, List.getElem?_toArray, List.getElem?_map, hget i hi, Option.map_some, Array.getD_eq_getD_getElem?, ho, Option.getD_some]

end Go.Proofs.Ytneoeegpceompaa.AM

/-
The abstract machine, part 3: the compact code, how it is made of the model's code, and what its operations come to.
-/
namespace Go.Proofs.Ytneoeegpceompaa.AM
open Go

/-- An operation, with all that it asks of the program's types already looked up. -/
inductive CO where
  | mov (x : Operand)
  | pick (c a b : Operand)
  | alloc (e : TypeId) (z : List Value)
  | box (e : TypeId) (n : Nat) (x : Operand)
  | build (z : List Value) (ps : List (Nat × Nat × Operand))
  | bslice (e : TypeId) (sz len : Nat) (z : List Value) (ps : List (Nat × Operand))
  | load (ag : Bool) (n : Nat) (a : Operand)
  | store (n : Nat) (a x : Operand)
  | nilck (x : Operand)
  | bin (op : BinOp) (x y : Operand)
  | eqs (neg : Bool) (plan : List (Nat × Bool)) (x y : Operand)
  | nilcmp (neg : Bool) (x : Operand)
  | beq (neg : Bool) (x y : Operand)
  | un (op : UnOp) (x : Operand)
  | conv (k : IntKind) (x : Operand)
  | mkfn (f : Nat) (cap : List Operand)
  | mksl (e : TypeId) (sz bytes : Nat) (z : List Value) (l c : Operand)
  | slice (sz : Nat) (x : Operand) (lo hi mx : Option Operand)
  | faddr (off : Nat) (x : Operand)
  | field (ag : Bool) (n off : Nat) (x : Operand)
  | iaddr (sz : Nat) (x i : Operand)
  | aindex (ag : Bool) (n sz len : Nat) (x i : Operand)
  | sindex (x i : Operand)
  | len (x : Operand)
  | slen (x : Operand)
  | cap (x : Operand)
  | min (x y : Operand)
  | max (x y : Operand)
  | append (e : TypeId) (sz bytes : Nat) (s x : Operand)
  | appendz (e : TypeId) (sz bytes : Nat) (z : List Value) (s x : Operand)
  | copy (sz : Nat) (d s : Operand)
  | clear (sz : Nat) (z : List Value) (x : Operand)
  | ext (x : Operand) (i : Nat)
  | call (f : Operand) (args : List Operand)
  | bad
  deriving Inhabited

structure COper where
  dst : Option Nat
  op : CO
  gd : Option (Nat × Bool)
  deriving Inhabited

inductive CC where
  | skip
  | region (ops : List COper) (pairs : List (Nat × Nat)) (live : List Nat)
  | seq (a b : CC)
  | cond (c : Operand) (t e : CC)
  | block (id : Nat) (c : CC)
  | loop (c : CC)
  | exit (id : Nat)
  | ret
  | bad
  deriving Inhabited

/-! ### What the types say -/
def places (parts : List (Nat × Operand)) (pl : Nat → Option (Nat × Nat)) : Option (List (Nat × Nat × Operand)) :=
  match parts with
  | [] => some []
  | p :: r => match pl p.1, places r pl with
    | some q, some l => some ((q.1, q.2, p.2) :: l)
    | _, _ => none

section
variable (P : Program)

def tsz (t : TypeId) : Option Nat := (P.info? t).map (·.size)
def tag (t : TypeId) : Option Bool := (P.underlying t).map fun d => match d with | .struct _ => true | .array _ _ => true | _ => false
def tzero (t : TypeId) : Option (List Value) := match (P.info? t).bind (·.zero) with | some z => if z.cells.all (·.oneCell') then some z.cells.toList else none | none => none
def telem (t : TypeId) : Option TypeId := match P.underlying t with | some (.slice e) => some e | _ => none
def tfield (t : TypeId) (f : Nat) : Option (Nat × TypeId) := match P.underlying t with | some (.struct fs) => (fs[f]?).map fun x => (x.offset, x.type) | _ => none

/-- Where the cells lie that an equality of values of a type compares. -/
def eqPlan : Nat → TypeId → Option (List (Nat × Bool))
  | 0, _ => none
  | d + 1, t => match P.underlying t with
    | some (.int _) => some [(0, false)]
    | some .string => some [(0, true)]
    | some (.struct fs) =>
      if P.stoodInHeld t then none else
      fs.toList.foldr (fun f r => match r with
        | none => none
        | some l => if f.name = "_" then none else match eqPlan d f.type, tag P f.type, tsz P f.type with
          | some m, some _, some n => if m.all (·.1 < n) then some (m.map (fun q => (q.1 + f.offset, q.2)) ++ l) else none
          | _, _, _ => none) (some [])
    | _ => none

def compParts (t : TypeId) (parts : List (Nat × Operand)) : Option (List (Nat × Nat × Operand)) :=
  match P.underlying t with
  | some (.struct fs) => match fs.toList.mapM (fun f => (P.info? f.type).map fun i => (f.offset, i.size)) with
    | some pl => places parts (pl[·]?)
    | none => none
  | some (.array _ e) => match tsz P e with
    | some n => places parts (fun i => some (i * n, n))
    | none => none
  | _ => none

def tbytes (t : TypeId) : Option Nat := (P.info? t).map (·.bytes)

/-- A slice's element: its type, its cells (one at least), its bytes (not so many), its zero value. -/
def telinfo (t : TypeId) : Option (TypeId × Nat × Nat × List Value) := match telem P t with
  | some e => match tsz P e, tbytes P e, tzero P e with
    | some n, some b, some z => if 0 < n ∧ b ≤ 100000 ∧ z.length = n then some (e, n, b, z) else none
    | _, _, _ => none
  | none => none

def compCall (c : Call) : CO :=
  match c.callee, c.args.toList, c.argTypes.toList with
  | .value f, args, _ => .call f args
  | .builtin .len, [x], [t] => match P.underlying t with
    | some (.slice _) => .len x
    | some .string => .slen x
    | _ => .bad
  | .builtin .cap, [x], [t] => match P.underlying t with
    | some (.slice _) => .cap x
    | _ => .bad
  | .builtin .min, [x, y], _ => .min x y
  | .builtin .max, [x, y], _ => .max x y
  | .builtin .append, [s, x], [t, u] => match telinfo P t, P.underlying u with
    | some (e, n, b, _), some (.slice _) => if t = u then .append e n b s x else .bad
    | some (e, n, b, z), some (.int _) => .appendz e n b z s x
    | _, _ => .bad
  | .builtin .copy, [d, s], [t, u] => match telinfo P t, P.underlying u with
    | some (_, n, _, _), some (.slice _) => .copy n d s
    | _, _ => .bad
  | .builtin .clear, [x], [t] => match telinfo P t with
    | some (_, n, _, z) => .clear n z x
    | _ => .bad
  | _, _, _ => .bad

def isNilSlice : Operand → Bool
  | .const (.slice none 0 0) => true
  | _ => false

def compBin (op : BinOp) (t : TypeId) (x y : Operand) : CO :=
  match P.underlying t with
  | some (.struct _) => match op, eqPlan P 4 t with
    | .eql, some l => if P.eqGuardType P.depth t then .bad else .eqs false l x y
    | .neq, some l => if P.eqGuardType P.depth t then .bad else .eqs true l x y
    | _, _ => .bad
  | some (.slice _) => match op with
    | .eql => if isNilSlice y then .nilcmp false x else .bad
    | .neq => if isNilSlice y then .nilcmp true x else .bad
    | _ => .bad
  | some (.int _) => .bin op x y
  | some .string => .bin op x y
  | some .bool => match op with
    | .eql => .beq false x y
    | .neq => .beq true x y
    | _ => .bad
  | _ => .bad

def compOp (op : Op) : CO :=
  match op with
  | .move x => .mov x
  | .assign x => .mov x
  | .pick c a b => .pick c a b
  | .alloc e => match tzero P e with | some z => .alloc e z | none => .bad
  | .box e x => match tsz P e with | some n => .box e n x | none => .bad
  | .build t ps => match tzero P t, compParts P t ps.toList, tag P t with | some z, some l, some true => .build z l | _, _, _ => .bad
  | .buildSlice t len ps => match telinfo P t with | some (e, n, _, z) => if len * n ≤ 2 ^ 24 then .bslice e n len z ps.toList else .bad | none => .bad
  | .load t a => match tag P t, tsz P t with | some ag, some n => if ag ∨ n = 1 then .load ag n a else .bad | _, _ => .bad
  | .store t a x => match tsz P t with | some n => .store n a x | none => .bad
  | .nilCheck x => .nilck x
  | .binOp op t x y _ => compBin P op t x y
  | .unOp op _ x => .un op x
  | .convert s d x => match P.underlying s, P.underlying d with | some (.int _), some (.int k) => .conv k x | _, _ => .bad
  | .makeFunc (.func f) first caps => if first = #[] then .mkfn f caps.toList else .bad
  | .makeSlice t l c => match telinfo P t with | some (e, n, b, z) => .mksl e n b z l c | none => .bad
  | .slice t x lo hi mx => match telinfo P t with | some (_, n, _, _) => .slice n x lo hi mx | none => .bad
  | .fieldAddr t x f => match tfield P t f with | some (off, u) => (match tsz P u with | some n => if n = 0 then .bad else .faddr off x | none => .bad) | none => .bad
  | .field t x f => match tfield P t f with | some (off, u) => (match tag P u, tsz P u with | some ag, some n => if ag ∨ n = 1 then .field ag n off x else .bad | _, _ => .bad) | none => .bad
  | .indexAddr t x i => match telinfo P t with | some (_, n, _, _) => .iaddr n x i | none => .bad
  | .index t x i => match P.underlying t with
    | some (.array len e) => (match tag P e, tsz P e with | some ag, some n => if ag ∨ n = 1 then .aindex ag n n len x i else .bad | _, _ => .bad)
    | some .string => .sindex x i
    | _ => .bad
  | .extract x i => .ext x i
  | .call c => compCall P c
  | _ => .bad

/-! ### Regions whose order is open -/

/-- Does it touch memory (or call)? -/
def CO.touches : CO → Bool
  | .load .. | .store .. | .call .. | .append .. | .appendz .. | .copy .. | .clear .. | .alloc .. | .box .. | .bslice .. | .mksl .. | .cap .. => true
  | .slice _ _ _ (some _) none => true
  | _ => false
/-- Does it read memory alone? -/
def CO.reads : CO → Bool
  | .load .. | .cap .. => true
  | .slice _ _ _ (some _) none => true
  | _ => false

/-- Pairs of operations that may come up in either order and of which one may change what the other one reads. -/
def mayMeet (x y : CO) : Bool := x.touches && y.touches && !(x.reads && y.reads)

/-- What an operation waits for, as the bits of a number. -/
def predsOf (acc : Array Nat) (o : Oper) : Nat := o.after.toList.foldl (fun s e => if Region.binds .any e then s ||| (2 ^ e.on ||| acc.getD e.on 0) else s) 0

def preds (ops : Array Oper) : Array Nat := ops.toList.foldl (fun acc o => acc.push (predsOf acc o)) #[]

/-- All pairs i < j that may come up in either order. -/
def loose (ops : Array Oper) : List (Nat × Nat) :=
  let b := preds ops
  (List.range ops.size).flatMap fun j => (List.range j).filterMap fun i => if (b.getD j 0).testBit i then none else some (i, j)

def compOper (ops : Array Oper) (o : Oper) : COper :=
  ⟨o.dst, compOp P o.op, match o.guard with
    | none => none
    | some (j, want) => some (((ops[j]?).bind (·.dst)).getD 1000000, want)⟩

def loosePairs (ops : Array Oper) : List (Nat × Nat) :=
  (loose ops).filter fun (i, j) => mayMeet (compOp P (ops.getD i default).op) (compOp P (ops.getD j default).op)

/-- Neither of two operations that may come up in either order touches what the other one's temporary is. -/
def looseOk (ops : Array Oper) : Bool := (loose ops).all fun (i, j) => Oper.apart ops (ops.getD i default) (ops.getD j default)

def guardsOk (ops : Array Oper) : Bool := ops.all fun o => match o.guard with
  | none => true
  | some (j, _) => ((ops[j]?).bind (·.dst)).isSome

def dstsOk (nt : Nat) (ops : Array Oper) : Bool := ops.all fun o => match o.dst with | some d => d < nt | none => true

/-- Every operation waits for such alone as stand ahead of it. -/
def backOk (ops : Array Oper) : Bool := ops.toList.zipIdx.all fun (o, i) => o.after.all fun e => !Region.binds .any e || decide (e.on < i)

/-- An order of the list in which every operation waits for such alone as stand ahead of it. -/
def topoGo (ops : Array Oper) : Nat → List Nat → List Nat
  | 0, l => l
  | n + 1, l => match (List.range ops.size).find? (fun i => !l.contains i && (ops.getD i default).after.all (fun e => !Region.binds .any e || l.contains e.on)) with
    | some i => topoGo ops n (l ++ [i])
    | none => l
def sorted (ops : Array Oper) : Array Oper := if backOk ops then ops else if sortOk ops (topoGo ops ops.size []) then sortOps ops (topoGo ops ops.size []) else ops

def compCode (nt : Nat) : Code → CC
  | .skip => .skip
  | .region _ ops0 draw =>
    let ops := if draw then sorted ops0 else ops0
    if guardsOk ops && dstsOk nt ops then
      if draw then if looseOk ops && backOk ops && P.follows .mixedOrders then .region (ops.toList.map (compOper P ops)) (loosePairs P ops) [] else .bad
      else .region (ops.toList.map (compOper P ops)) [] []
    else .bad
  | .seq a b => .seq (compCode nt a) (compCode nt b)
  | .cond c t e => .cond c (compCode nt t) (compCode nt e)
  | .block id c => .block id (compCode nt c)
  | .loop c => .loop (compCode nt c)
  | .exit id => .exit id
  | .ret => .ret
  | _ => .bad
end

/-! ### What an operation comes to -/

def ev (g : Nat → AV) : Operand → AV
  | .tmp t => g t
  | .const c => .v c
  | .func f => .fn f []
  | .global _ => .any

def cellsAV : AV → Option (List AV)
  | .agg cs => some cs
  | .any => none
  | .tup _ => none
  | .v x => if x.oneCell' then some [.v x] else none
  | .sl a b => some [.sl a b]
  | .z0 => some [.z0]
  | .ipt a => some [.ipt a]
  | .pt a b c d => some [.pt a b c d]
  | .row a b c d => some [.row a b c d]
  | .fn a b => some [.fn a b]

def mkAV (ag : Bool) (cs : List AV) : Option AV := match ag, cs with
  | true, cs => some (.agg cs)
  | false, [x] => some x
  | false, _ => none

def splice (l : List AV) (off : Nat) (xs : List AV) : List AV := l.take off ++ (xs ++ l.drop (off + xs.length))

/-- The elements that a slice value stands for. -/
def rowsAV (μ : Mu) (sz : Nat) : AV → Option (List (List AV))
  | .sl s es => if s = sz then some es else none
  | .z0 => some []
  | .v (.slice _ 0 _) => some []
  | .row b s off len => match μ b with
    | some k => if s = sz ∧ k.sz = sz ∧ off + len ≤ k.es.length then some ((k.es.drop off).take len) else none
    | none => none
  | _ => none

def fillAV (g : Nat → AV) : List AV → List (Nat × Nat × Operand) → Option (List AV)
  | cells, [] => some cells
  | cells, (off, n, x) :: r => match cellsAV (ev g x) with
    | some cs => if cs.length = n ∧ off + n ≤ cells.length then fillAV g (splice cells off cs) r else none
    | none => none

def fillRows (g : Nat → AV) (sz : Nat) : List (List AV) → List (Nat × Operand) → Option (List (List AV))
  | rows, [] => some rows
  | rows, (i, x) :: r => match cellsAV (ev g x) with
    | some cs => if cs.length = sz ∧ i < rows.length then fillRows g sz (rows.set i cs) r else none
    | none => none

def binInt (op : BinOp) (k : IntKind) (a b : Int) : Option Value := match op with
  | .add => some (.int k (k.wrap (a + b)))
  | .sub => some (.int k (k.wrap (a - b)))
  | .mul => some (.int k (k.wrap (a * b)))
  | .quo => if b = 0 then none else some (.int k (k.wrap (a.tdiv b)))
  | .rem => if b = 0 then none else some (.int k (a.tmod b))
  | .and => some (.int k (k.wrap ((BitVec.ofInt k.bits a &&& BitVec.ofInt k.bits b).toNat : Int)))
  | .or => some (.int k (k.wrap ((BitVec.ofInt k.bits a ||| BitVec.ofInt k.bits b).toNat : Int)))
  | .xor => some (.int k (k.wrap ((BitVec.ofInt k.bits a ^^^ BitVec.ofInt k.bits b).toNat : Int)))
  | .andNot => some (.int k (k.wrap ((BitVec.ofInt k.bits a &&& ~~~ BitVec.ofInt k.bits b).toNat : Int)))
  | .eql => some (.bool (a == b))
  | .neq => some (.bool (a != b))
  | .lss => some (.bool (decide (a < b)))
  | .leq => some (.bool (decide (a ≤ b)))
  | .gtr => some (.bool (decide (b < a)))
  | .geq => some (.bool (decide (b ≤ a)))
  | _ => none

def binShift (op : BinOp) (k : IntKind) (a b : Int) : Option Value := match op with
  | .shl => if b < 0 then none else some (.int k (k.wrap (a * 2 ^ (Nat.min b.toNat k.bits))))
  | .shr => if b < 0 then none else some (.int k (a.fdiv (2 ^ (Nat.min b.toNat k.bits))))
  | _ => none

def binStr (op : BinOp) (a b : ByteArray) : Option Value := match op with
  | .eql => some (.bool (a.toList == b.toList))
  | .neq => some (.bool (!(a.toList == b.toList)))
  | .lss => some (.bool (Op.bytesLess a.toList b.toList))
  | .leq => some (.bool (Op.bytesLess a.toList b.toList || a.toList == b.toList))
  | .gtr => some (.bool (!(Op.bytesLess a.toList b.toList || a.toList == b.toList)))
  | .geq => some (.bool (!(Op.bytesLess a.toList b.toList)))
  | _ => none

def isShift : BinOp → Bool
  | .shl => true
  | .shr => true
  | _ => false

def binAV (op : BinOp) : AV → AV → Option Value
  | .v (.int k a), .v (.int k' b) => if isShift op then binShift op k a b else if k = k' then binInt op k a b else none
  | .v (.string a), .v (.string b) => binStr op a b
  | _, _ => none

def eqCell : Bool → AV → AV → Option Bool
  | false, .v (.int k a), .v (.int k' b) => if k = k' then some (a == b) else none
  | true, .v (.string a), .v (.string b) => some (a.toList == b.toList)
  | _, _, _ => none

def eqCells : List (Nat × Bool) → List AV → List AV → Option Bool
  | [], _, _ => some true
  | (i, s) :: r, xs, ys => match xs[i]?, ys[i]? with
    | some x, some y => match eqCell s x y, eqCells r xs ys with
      | some a, some b => some (a && b)
      | _, _ => none
    | _, _ => none

def unAV : UnOp → AV → Option Value
  | .neg, .v (.int k n) => some (.int k (k.wrap (0 - n)))
  | .not, .v (.bool b) => some (.bool (!b))
  | _, _ => none

def bnd (g : Nat → AV) : Option Operand → Option (Option Int)
  | none => some none
  | some x => match ev g x with | .v (.int _ n) => some (some n) | _ => none

/-- A slice of a slice. -/
def sliceAV (sz : Nat) (x : AV) (L H : Int) (M : Option Int) : Option AV :=
  match x with
  | .sl s es =>
    if s = sz ∧ 0 ≤ L ∧ L ≤ H ∧ H ≤ es.length then
      match M with
      | none => some (.sl sz ((es.drop L.toNat).take (H.toNat - L.toNat)))
      | some m => if H ≤ m ∧ m ≤ es.length then (if m = 0 then some .z0 else some (.sl sz ((es.drop L.toNat).take (H.toNat - L.toNat)))) else none
    else none
  | .row b s off len =>
    if s = sz ∧ 0 ≤ L ∧ L ≤ H ∧ H ≤ len then
      match M with
      | none => some (.row b sz (off + L.toNat) (H.toNat - L.toNat))
      | some m => if H ≤ m ∧ m ≤ len then some .any else none
    else none
  | .z0 => if L = 0 ∧ H = 0 ∧ (M = none ∨ M = some 0) then some .z0 else none
  | .v (.slice none 0 0) => if L = 0 ∧ H = 0 ∧ (M = none ∨ M = some 0) then some (.v (.slice none 0 0)) else none
  | _ => none

def lenAV : AV → Option Int
  | .sl _ es => some es.length
  | .row _ _ _ len => some len
  | .z0 => some 0
  | .v (.slice _ n _) => some n
  | _ => none

def sliceCO (sz : Nat) (x : AV) (lo hi mx : Option (Option Int)) : Option AV :=
  match lenAV x, lo, hi, mx with
  | some n, some l, some h, some none => sliceAV sz x (l.getD 0) (h.getD n) none
  | some _, some l, some (some h), some (some m) => sliceAV sz x (l.getD 0) h (some m)
  | _, _, _, _ => none

def nilAV : AV → Option Bool
  | .v (.slice A _ _) => some A.isNone
  | .row _ _ _ (_ + 1) => some false
  | .sl _ (_ :: _) => some false
  | _ => none

abbrev Res := Option (AV × Wr)

def pureR (x : Option AV) : Res := x.map fun a => (a, [])
def pureV (x : Option Value) : Res := x.map fun a => (.v a, [])

def loadAV (μ : Mu) (ag : Bool) (n : Nat) : AV → Option AV
  | .ipt cs => if n ≤ cs.length then mkAV ag (cs.take n) else none
  | .pt b sz i o => match μ b with
    | some k => match k.es[i]? with
      | some r => if k.sz = sz ∧ o + n ≤ r.length then mkAV ag ((r.drop o).take n) else none
      | none => none
    | none => none
  | _ => none

def storeAV (μ : Mu) (n : Nat) (a x : AV) : Res :=
  match a with
  | .pt b sz i o => match μ b, cellsAV x with
    | some k, some cs => match k.es[i]? with
      | some r => if k.mu = true ∧ k.sz = sz ∧ cs.length = n ∧ o + n ≤ r.length then some (.any, [(b, some { k with es := k.es.set i (splice r o cs) })]) else none
      | none => none
    | _, _ => none
  | _ => none

def appendAV (μ : Mu) (N : Nat) (e : TypeId) (sz : Nat) (s : AV) (xs : List (List AV)) : Res :=
  match s with
  | .z0 => if xs.length ≤ 1000000 then some (.row N sz 0 xs.length, [(N, some ⟨true, e, sz, xs, none⟩)]) else none
  | .v (.slice none 0 0) => if xs.length ≤ 1000000 then some (.row N sz 0 xs.length, [(N, some ⟨true, e, sz, xs, none⟩)]) else none
  | .row b s off len => match μ b with
    | some k =>
      if k.mu = true ∧ s = sz ∧ k.sz = sz ∧ k.ty = e ∧ off + len + xs.length ≤ 1000000 then
        if off = 0 ∧ len = k.es.length then some (.row N sz 0 (len + xs.length), [(b, none), (N, some ⟨true, e, sz, k.es ++ xs, none⟩)])
        else if off + len + xs.length ≤ k.es.length then some (.row b sz off (len + xs.length), [(b, some { k with es := k.es.take (off + len) ++ (xs ++ k.es.drop (off + len + xs.length)) })])
        else none
      else none
    | none => none
  | _ => none

/-- How many elements a block has room for, as far as that is known. -/
def roomB (k : Blk) : Nat := match k.cap with
  | some c => max c k.es.length
  | none => k.es.length

/-- A slice of a row, beyond its length. -/
def sliceX (μ : Mu) (sz : Nat) (x : AV) (lo hi : Option (Option Int)) : Option AV :=
  match x, lo, hi with
  | .row b s off _, some l, some (some H) => match μ b with
    | some k => if s = sz ∧ k.sz = sz ∧ 0 < k.es.length ∧ 0 ≤ l.getD 0 ∧ l.getD 0 ≤ H ∧ (off : Int) + H ≤ roomB k then some (.row b sz (off + (l.getD 0).toNat) (H.toNat - (l.getD 0).toNat)) else none
    | none => none
  | _, _, _ => none

/-- What is known of the elements that a slice value stands for, from its first one on; its length. -/
def srcAV (μ : Mu) (sz : Nat) (x : AV) : Option (List (List AV) × Nat) :=
  match x with
  | .row b s off len => match μ b with
    | some k => if s = sz ∧ k.sz = sz then some ((k.es.drop off).take len, len) else none
    | none => none
  | x => (rowsAV μ sz x).map fun xs => (xs, xs.length)

/-- Zeros appended. -/
def appzAV (μ : Mu) (N : Nat) (e : TypeId) (sz : Nat) (z : List Value) (s : AV) (n : Nat) : Res :=
  match s with
  | .z0 => if n ≤ 1000000 then some (.row N sz 0 n, [(N, some ⟨true, e, sz, List.replicate n (z.map .v), none⟩)]) else none
  | .v (.slice none 0 0) => if n ≤ 1000000 then some (.row N sz 0 n, [(N, some ⟨true, e, sz, List.replicate n (z.map .v), none⟩)]) else none
  | .row b s off len => match μ b with
    | some k => match k.cap with
      | some c =>
        if s = sz ∧ k.sz = sz ∧ 0 < k.es.length ∧ off + len ≤ k.es.length ∧ off + len + n ≤ 1000000 ∧ c < off + len + n then
          some (.row N sz 0 (len + n), [(N, some ⟨true, e, sz, (k.es.drop off).take len ++ List.replicate n (z.map .v), none⟩)])
        else none
      | none => none
    | none => none
  | _ => none

def evalCO (g : Nat → AV) (μ : Mu) (N : Nat) : CO → Res
  | .mov x => pureR (some (ev g x))
  | .pick c a b => match ev g c with
    | .v (.bool t) => pureR (some (if t = true then ev g a else ev g b))
    | _ => none
  | .alloc e z => some (.pt N z.length 0 0, [(N, some ⟨true, e, z.length, [z.map .v], some 1⟩)])
  | .box e n x => match cellsAV (ev g x) with
    | some cs => if cs.length = n then some (.pt N n 0 0, [(N, some ⟨true, e, n, [cs], some 1⟩)]) else none
    | none => none
  | .build z ps => pureR ((fillAV g (z.map .v) ps).map .agg)
  | .bslice e sz len z ps => match fillRows g sz (List.replicate len (z.map .v)) ps with
    | some rows => some (.row N sz 0 len, [(N, some ⟨true, e, sz, rows, some len⟩)])
    | none => none
  | .load ag n a => pureR (loadAV μ ag n (ev g a))
  | .store n a x => storeAV μ n (ev g a) (ev g x)
  | .nilck x => match ev g x with
    | .pt a b c d => pureR (some (.pt a b c d))
    | .ipt cs => pureR (some (.ipt cs))
    | .fn f c => pureR (some (.fn f c))
    | _ => none
  | .bin op x y => pureV (binAV op (ev g x) (ev g y))
  | .eqs neg plan x y => match ev g x, ev g y with
    | .agg xs, .agg ys => pureV ((eqCells plan xs ys).map fun b => .bool (if neg then !b else b))
    | _, _ => none
  | .beq neg x y => match ev g x, ev g y with
    | .v (.bool a), .v (.bool b) => pureV (some (.bool (if neg then !(a == b) else a == b)))
    | _, _ => none
  | .nilcmp neg x => pureV ((nilAV (ev g x)).map fun b => .bool (if neg then !b else b))
  | .un op x => pureV (unAV op (ev g x))
  | .conv k x => match ev g x with
    | .v (.int _ n) => pureV (some (.int k (k.wrap n)))
    | _ => none
  | .mkfn f cap => pureR (some (.fn f (cap.map (ev g))))
  | .mksl e sz _ z l c => match ev g l, ev g c with
    | .v (.int .i64 a), .v (.int .i64 b) => if 0 ≤ a ∧ a ≤ b ∧ b ≤ 1000000 then some (.row N sz 0 a.toNat, [(N, some ⟨true, e, sz, List.replicate a.toNat (z.map .v), some b.toNat⟩)]) else none
    | _, _ => none
  | .slice sz x lo hi mx => match sliceCO sz (ev g x) (bnd g lo) (bnd g hi) (bnd g mx) with
    | some y => pureR (some y)
    | none => match hi, mx with
      | some _, none => pureR (sliceX μ sz (ev g x) (bnd g lo) (bnd g hi))
      | _, _ => none
  | .faddr off x => match ev g x with
    | .pt b sz i o => pureR (some (.pt b sz i (o + off)))
    | .ipt cs => pureR (some (.ipt (cs.drop off)))
    | _ => none
  | .field ag n off x => match ev g x with
    | .agg cs => if off + n ≤ cs.length then pureR (mkAV ag ((cs.drop off).take n)) else none
    | _ => none
  | .iaddr sz x i => match ev g x, ev g i with
    | .sl s es, .v (.int _ n) => if s = sz ∧ 0 ≤ n ∧ n < es.length then pureR (some (.ipt (es.getD n.toNat []))) else none
    | .row b s off len, .v (.int _ n) => if s = sz ∧ 0 ≤ n ∧ n < len then pureR (some (.pt b sz (off + n.toNat) 0)) else none
    | _, _ => none
  | .aindex ag n sz len x i => match ev g x, ev g i with
    | .agg cs, .v (.int _ k) => if 0 ≤ k ∧ k < len ∧ k.toNat * sz + n ≤ cs.length then pureR (mkAV ag ((cs.drop (k.toNat * sz)).take n)) else none
    | _, _ => none
  | .sindex x i => match ev g x, ev g i with
    | .v (.string s), .v (.int _ k) => if 0 ≤ k then pureV ((s[k.toNat]?).map fun b => .int .u8 b.toNat) else none
    | _, _ => none
  | .len x => pureV ((lenAV (ev g x)).map fun n => .int .i64 n)
  | .slen x => match ev g x with
    | .v (.string s) => pureV (some (.int .i64 (s.size : Int)))
    | _ => none
  | .cap x => match ev g x with
    | .row b s off len => match μ b with
      | some k => match k.cap with
        | some c => if k.sz = s ∧ off ≤ c ∧ 0 < s ∧ 0 < len then pureV (some (.int .i64 ((c - off : Nat) : Int))) else none
        | none => none
      | none => none
    | .z0 => pureV (some (.int .i64 0))
    | .v (.slice none 0 0) => pureV (some (.int .i64 0))
    | _ => none
  | .min x y => match ev g x, ev g y with
    | .v (.int k a), .v (.int k' b) => if k = k' then pureV (some (.int k (if b < a then b else a))) else none
    | _, _ => none
  | .max x y => match ev g x, ev g y with
    | .v (.int k a), .v (.int k' b) => if k = k' then pureV (some (.int k (if a < b then b else a))) else none
    | _, _ => none
  | .append e sz _ s x => match rowsAV μ sz (ev g x) with
    | some xs => appendAV μ N e sz (ev g s) xs
    | none => none
  | .appendz e sz _ z s x => match ev g x with
    | .v (.int .i64 n) => if 0 ≤ n then appzAV μ N e sz z (ev g s) n.toNat else none
    | _ => none
  | .copy sz d s => match ev g d, srcAV μ sz (ev g s) with
    | .row b s off len, some (xs, m) => match μ b with
      | some k => if k.mu = true ∧ s = sz ∧ k.sz = sz ∧ off ≤ k.es.length ∧ Nat.min m len ≤ xs.length then
          some (.v (.int .i64 (Nat.min m len : Nat)), [(b, some { k with es := k.es.take off ++ ((xs.take (Nat.min m len)) ++ k.es.drop (off + Nat.min m len)) })]) else none
      | none => none
    | _, _ => none
  | .clear sz z x => match ev g x with
    | .row b s off len => match μ b with
      | some k => if k.mu = true ∧ s = sz ∧ k.sz = sz ∧ off + len ≤ k.es.length then
          some (.tup [], [(b, some { k with es := k.es.take off ++ (List.replicate len (z.map .v) ++ k.es.drop (off + len)) })]) else none
      | none => none
    | _ => none
  | .ext x i => match ev g x with
    | .tup vs => pureR vs[i]?
    | _ => none
  | _ => none

/-- The temporaries that an operation looks at. -/
def opTmps : Operand → List Nat
  | .tmp t => [t]
  | _ => []

end Go.Proofs.Ytneoeegpceompaa.AM

/-
The abstract machine, part 4: the operations that leave memory as it is.
-/
namespace Go.Proofs.Ytneoeegpceompaa.AM
open Go

variable {P : Program}

/-- What an operation must come to. -/
def OpOK (P : Program) (X : Nat → Prop) (N : Nat) (io : Nat → Option (Option Nat)) (μ : Mu) (w : World) (a : Act) (o : Oper) (x : AV) (wr : Wr) : Prop :=
  ∃ n v w' io', (execOp a.eval o).run P w = .ok n w' ∧ (n = .value v ∨ n = .skip ∧ v = undef) ∧ Step X N io μ w io' (app μ wr) w' ∧ Rel (envOf X io' (app μ wr) w') x v

theorem OpOK.pure {X : Nat → Prop} {N : Nat} {io : Nat → Option (Option Nat)} {μ : Mu} {w : World} {a : Act} {o : Oper} {x : AV} {v : Value} (hM : Mem X io μ w) (h : (execOp a.eval o).run P w = .ok (.value v) w) (hr : Rel (envOf X io μ w) x v) :
    OpOK P X N io μ w a o x [] := ⟨_, v, w, io, h, .inl rfl, Step.refl hM, hr⟩

theorem ev_rel {E : Env} {g : Nat → AV} {a : Act} (hg : ∀ t, Rel E (g t) (a.tmps.getD t undef)) (x : Operand) : Rel E (ev g x) (a.eval x) := by
  cases x with
  | tmp t => exact hg t
  | const c => exact .v c
  | func f => exact .fn f [] [] rfl (fun j x u h => by simp at h)
  | global g => exact .any _

theorem rel_int {E : Env} {k : IntKind} {n : Int} {u : Value} (h : Rel E (.v (.int k n)) u) : u = .int k n := by cases h; rfl
theorem rel_v {E : Env} {x u : Value} (h : Rel E (.v x) u) : u = x := by cases h; rfl

/-- The cells of a value. -/
theorem cells_rel {E : Env} {x : AV} {cs : List AV} (h : cellsAV x = some cs) {u : Value} (hr : Rel E x u) : ∃ us : List Value, u.cells = us.toArray ∧ Rels E cs us ∧ ∀ y ∈ us, y.oneCell' = true := by
  have one : ∀ (x : AV) (u : Value), Rel E x u → u.oneCell' = true → u.cells = #[u] → ∃ us : List Value, u.cells = us.toArray ∧ Rels E [x] us ∧ ∀ y ∈ us, y.oneCell' = true := fun x u hr h1 hc =>
    ⟨[u], hc, .cons hr (.nil E), fun y hy => by simp at hy; subst hy; exact h1⟩
  cases x with
  | any => cases h
  | tup _ => cases h
  | agg cs' =>
    injection h with h
    subst h
    cases hr with
    | agg _ us hl h1 h => exact ⟨us, rfl, ⟨hl, h⟩, h1⟩
  | v y =>
    have hv := rel_v hr
    subst hv
    simp only [cellsAV] at h
    split at h
    · rename_i h1
      injection h with h
      subst h
      exact one _ _ hr h1 (by cases u <;> first | rfl | (simp [Value.oneCell'] at h1))
    · cases h
  | sl _ _ => injection h with h; subst h; have h2 := hr; cases hr <;> exact one _ _ h2 rfl rfl
  | z0 => injection h with h; subst h; have h2 := hr; cases hr <;> exact one _ _ h2 rfl rfl
  | ipt _ => injection h with h; subst h; have h2 := hr; cases hr <;> exact one _ _ h2 rfl rfl
  | pt _ _ _ _ => injection h with h; subst h; have h2 := hr; cases hr <;> exact one _ _ h2 rfl rfl
  | row _ _ _ _ => injection h with h; subst h; have h2 := hr; cases hr <;> exact one _ _ h2 rfl rfl
  | fn _ _ => injection h with h; subst h; have h2 := hr; cases hr <;> exact one _ _ h2 rfl rfl

theorem pureR_inv {y : Option AV} {x : AV} {wr : Wr} (h : pureR y = some (x, wr)) : y = some x ∧ wr = [] := by
  cases y with
  | none => cases h
  | some y => simp [pureR] at h; exact ⟨by rw [h.1], h.2⟩
theorem pureV_inv {y : Option Value} {x : AV} {wr : Wr} (h : pureV y = some (x, wr)) : ∃ v, y = some v ∧ x = .v v ∧ wr = [] := by
  cases y with
  | none => cases h
  | some y => simp [pureV] at h; exact ⟨y, rfl, h.1.symm, h.2⟩
theorem evs_rel {E : Env} {g : Nat → AV} {a : Act} (hg : ∀ t, Rel E (g t) (a.tmps.getD t undef)) (xs : List Operand) : Rels E (xs.map (ev g)) (xs.map a.eval) := by
  induction xs with
  | nil => exact .nil _
  | cons x xs ih => exact .cons (ev_rel hg x) ih

theorem asIntOf_int (k : IntKind) (n : Int) (w : World) : (asIntOf (.int k n)).run P w = .ok (k, n) w := by simp [asIntOf]

theorem run_binInt (op : BinOp) (t : TypeId) (k : IntKind) (x y : Int) {v : Value} (hs : isShift op = false) (h : binInt op k x y = some v) (w : World) : (binOp op t (.int k x) (.int k y)).run P w = .ok v w := by
  cases op <;> simp only [binInt] at h <;> first
    | (injection h with h; subst h; simp [binOp, Op.intArith, Op.intCmp, Op.intBits]; done)
    | (split at h <;> first | (cases h; done) | (rename_i hz; injection h with h; subst h; simp [binOp, Op.intDiv, hz]; done))
    | (cases hs; done)
    | (cases h; done)

theorem run_binShift (op : BinOp) (t : TypeId) (k k' : IntKind) (x y : Int) {v : Value} (h : binShift op k x y = some v) (w : World) : (binOp op t (.int k x) (.int k' y)).run P w = .ok v w := by
  cases op <;> simp only [binShift] at h <;> try (cases h; done)
  all_goals
    by_cases hz : y < 0
    · rw [if_pos hz] at h; cases h
    · rw [if_neg hz] at h
      injection h with h
      subst h
      simp [binOp, Op.shift, hz, Nat.min_def, Nat.min]

theorem run_binStr (op : BinOp) (t : TypeId) (x y : ByteArray) {v : Value} (h : binStr op x y = some v) (w : World) : (binOp op t (.string x) (.string y)).run P w = .ok v w := by
  cases op <;> simp only [binStr] at h <;> first
    | (injection h with h; subst h; simp [binOp, Op.stringOp]; done)
    | (cases h; done)

theorem run_eqGuard_int (op : BinOp) (t : TypeId) (x y : Operand) (k k' : IntKind) (m n : Int) (w : World) : (eqGuard op t x y (.int k m) (.int k' n)).run P w = .ok () w := by
  simp only [eqGuard]
  cases op <;> simp
theorem run_eqGuard_str (op : BinOp) (t : TypeId) (x y : Operand) (m n : ByteArray) (w : World) : (eqGuard op t x y (.string m) (.string n)).run P w = .ok () w := by
  simp only [eqGuard]
  cases op <;> simp

/-- The length of a value. -/
theorem len_rel {E : Env} {x : AV} {n : Int} (h : lenAV x = some n) {u : Value} (hr : Rel E x u) : ∃ A m c, u = .slice A m c ∧ n = (m : Int) := by
  cases x with
  | sl sz es =>
    injection h with h
    subst h
    cases hr with
    | sl0 _ A c => exact ⟨A, 0, c, rfl, by simp⟩
    | sl _ _ k o c u _ _ _ hlc => exact ⟨_, _, c, rfl, rfl⟩
  | row b sz off len =>
    injection h with h
    subst h
    cases hr with
    | rowz _ _ A hz => exact ⟨A, 0, 0, rfl, by simp⟩
    | row _ _ _ _ k c A cur ty hk hA hb hc hl hm => exact ⟨_, _, c, rfl, rfl⟩
  | z0 =>
    injection h with h
    subst h
    cases hr with
    | z0 A => exact ⟨A, 0, 0, rfl, by simp⟩
  | v y =>
    have := rel_v hr
    subst this
    cases u with
    | slice A m c => simp [lenAV] at h; exact ⟨A, m, c, rfl, h.symm⟩
    | _ => simp [lenAV] at h
  | _ => simp [lenAV] at h

section
variable {X : Nat → Prop} {N : Nat} {io : Nat → Option (Option Nat)} {μ : Mu} {w : World} {a : Act} {g : Nat → AV} (hM : Mem X io μ w) (hg : ∀ t, Rel (envOf X io μ w) (g t) (a.tmps.getD t undef))
include hM hg

theorem ok_mov {o : Oper} (x : Operand) (ho : o.op = .move x ∨ o.op = .assign x) {r : AV} {wr : Wr} (h : evalCO g μ N (.mov x) = some (r, wr)) : OpOK P X N io μ w a o r wr := by
  obtain ⟨h1, rfl⟩ := pureR_inv h
  injection h1 with h1
  subst h1
  refine OpOK.pure hM (v := a.eval x) ?_ (ev_rel hg x)
  rcases ho with ho | ho <;> simp [execOp, ho]

theorem ok_pick {o : Oper} (c x y : Operand) (ho : o.op = .pick c x y) {r : AV} {wr : Wr} (h : evalCO g μ N (.pick c x y) = some (r, wr)) : OpOK P X N io μ w a o r wr := by
  simp only [evalCO] at h
  split at h
  · rename_i t hc
    obtain ⟨h1, rfl⟩ := pureR_inv h
    injection h1 with h1
    subst h1
    have hcv := rel_v (hc ▸ ev_rel hg c)
    refine OpOK.pure hM (v := if t = true then a.eval x else a.eval y) ?_ (by split <;> exact ev_rel hg _)
    simp [execOp, ho, hcv, asBool]
  · cases h

theorem ok_nilck {o : Oper} (x : Operand) (ho : o.op = .nilCheck x) {r : AV} {wr : Wr} (h : evalCO g μ N (.nilck x) = some (r, wr)) : OpOK P X N io μ w a o r wr := by
  simp only [evalCO] at h
  split at h
  · rename_i b sz i o' hx
    obtain ⟨h1, rfl⟩ := pureR_inv h
    injection h1 with h1
    subst h1
    have hr := hx ▸ ev_rel hg x
    cases hv : a.eval x with
    | pointer p =>
      rw [hv] at hr
      cases p with
      | none => cases hr
      | some p => exact OpOK.pure hM (v := .pointer (some p)) (by simp [execOp, ho, hv]) hr
    | _ => rw [hv] at hr; cases hr
  · rename_i cs hx
    obtain ⟨h1, rfl⟩ := pureR_inv h
    injection h1 with h1
    subst h1
    have hr := hx ▸ ev_rel hg x
    cases hv : a.eval x with
    | pointer p =>
      rw [hv] at hr
      cases p with
      | none => cases hr
      | some p => exact OpOK.pure hM (v := .pointer (some p)) (by simp [execOp, ho, hv]) hr
    | _ => rw [hv] at hr; cases hr
  · rename_i f c hx
    obtain ⟨h1, rfl⟩ := pureR_inv h
    injection h1 with h1
    subst h1
    have hr := hx ▸ ev_rel hg x
    cases hv : a.eval x with
    | func fn first cap =>
      rw [hv] at hr
      have hr2 := hr
      cases hr
      exact OpOK.pure hM (v := _) (by simp [execOp, ho, hv]) hr2
    | _ => rw [hv] at hr; cases hr
  · cases h

theorem ok_un {o : Oper} (op : UnOp) (t : TypeId) (x : Operand) (ho : o.op = .unOp op t x) {r : AV} {wr : Wr} (h : evalCO g μ N (.un op x) = some (r, wr)) : OpOK P X N io μ w a o r wr := by
  simp only [evalCO] at h
  obtain ⟨v, h1, rfl, rfl⟩ := pureV_inv h
  have hr := ev_rel hg x
  generalize ev g x = y at h1 hr
  unfold unAV at h1
  split at h1
  · rename_i k n
    injection h1 with h1
    subst h1
    have hv := rel_v hr
    exact OpOK.pure hM (v := _) (by simp [execOp, ho, hv, Op.unary, Op.intArith]) (.v _)
  · rename_i b
    injection h1 with h1
    subst h1
    have hv := rel_v hr
    exact OpOK.pure hM (v := _) (by simp [execOp, ho, hv, Op.unary]) (.v _)
  · cases h1

theorem ok_conv {o : Oper} (s d : TypeId) (k k0 : IntKind) (x : Operand) (ho : o.op = .convert s d x) (hs : P.underlying s = some (.int k0)) (hd : P.underlying d = some (.int k)) {r : AV} {wr : Wr} (h : evalCO g μ N (.conv k x) = some (r, wr)) : OpOK P X N io μ w a o r wr := by
  simp only [evalCO] at h
  split at h
  · rename_i k' n hx
    obtain ⟨v, h1, rfl, rfl⟩ := pureV_inv h
    injection h1 with h1
    subst h1
    have hv := rel_v (hx ▸ ev_rel hg x)
    exact OpOK.pure hM (v := _) (by simp [execOp, ho, hv, convert, run_underlying hs, run_underlying hd, Conv.intToInt]) (.v _)
  · cases h

theorem ok_ext {o : Oper} (x : Operand) (i : Nat) (ho : o.op = .extract x i) {r : AV} {wr : Wr} (h : evalCO g μ N (.ext x i) = some (r, wr)) : OpOK P X N io μ w a o r wr := by
  simp only [evalCO] at h
  split at h
  · rename_i vs hx
    obtain ⟨h1, rfl⟩ := pureR_inv h
    have hr := hx ▸ ev_rel hg x
    cases hv : a.eval x with
    | tuple us' =>
      rw [hv] at hr
      cases hr with
      | tup _ us hl hrel =>
        have hi : i < us.length := by rw [← hl]; exact (List.getElem?_eq_some_iff.1 h1).1
        exact OpOK.pure hM (v := us[i]) (by simp [execOp, ho, hv, Instr.extract, hi]) (hrel i _ _ h1 (by simp [hi]))
    | _ => rw [hv] at hr; cases hr
  · cases h

theorem ok_mkfn {o : Oper} (f : Nat) (cap : Array Operand) (ho : o.op = .makeFunc (.func f) #[] cap) {r : AV} {wr : Wr} (h : evalCO g μ N (.mkfn f cap.toList) = some (r, wr)) : OpOK P X N io μ w a o r wr := by
  simp only [evalCO] at h
  obtain ⟨h1, rfl⟩ := pureR_inv h
  injection h1 with h1
  subst h1
  have hr := evs_rel hg cap.toList
  refine OpOK.pure hM (v := .func (.func f) #[] (cap.map a.eval)) (by simp [execOp, ho, Instr.makeFunc]) ?_
  have hc : (cap.map a.eval) = (cap.toList.map a.eval).toArray := by rw [← Array.toList_map]
  rw [hc]
  exact .fn f _ _ hr.1 hr.2
theorem ok_bin {o : Oper} (op : BinOp) (t t' : TypeId) (x y : Operand) (ho : o.op = .binOp op t x y t') {r : AV} {wr : Wr} (h : evalCO g μ N (.bin op x y) = some (r, wr)) : OpOK P X N io μ w a o r wr := by
  simp only [evalCO] at h
  obtain ⟨v, h1, rfl, rfl⟩ := pureV_inv h
  have hx := ev_rel hg x
  have hy := ev_rel hg y
  generalize ev g x = p at h1 hx
  generalize ev g y = q at h1 hy
  unfold binAV at h1
  split at h1
  · rename_i k m k' n
    have hvx := rel_v hx
    have hvy := rel_v hy
    split at h1
    · refine OpOK.pure hM (v := v) ?_ (.v _)
      simp [execOp, ho, hvx, hvy, run_eqGuard_int, run_binShift op t k k' m n h1]
    · rename_i hs
      split at h1
      · rename_i hk
        subst hk
        refine OpOK.pure hM (v := v) ?_ (.v _)
        simp [execOp, ho, hvx, hvy, run_eqGuard_int, run_binInt op t k m n (by simpa using hs) h1]
      · cases h1
  · rename_i m n
    have hvx := rel_v hx
    have hvy := rel_v hy
    refine OpOK.pure hM (v := v) ?_ (.v _)
    simp [execOp, ho, hvx, hvy, run_eqGuard_str, run_binStr op t m n h1]
  · cases h1

theorem ok_min {o : Oper} (x y : Operand) (ts : Array TypeId) (ho : o.op = .call { callee := .builtin .min, args := #[x, y], argTypes := ts }) {r : AV} {wr : Wr} (h : evalCO g μ N (.min x y) = some (r, wr)) : OpOK P X N io μ w a o r wr := by
  simp only [evalCO] at h
  split at h
  · rename_i k m k' n hx hy
    split at h
    · rename_i hk
      subst hk
      obtain ⟨v, h1, rfl, rfl⟩ := pureV_inv h
      injection h1 with h1
      subst h1
      have hvx := rel_v (hx ▸ ev_rel hg x)
      have hvy := rel_v (hy ▸ ev_rel hg y)
      refine OpOK.pure hM (v := _) ?_ (.v _)
      simp [execOp, ho, resolve, invoke, builtin, Builtin.min_, Builtin.min2, hvx, hvy]
    · cases h
  · cases h

theorem ok_max {o : Oper} (x y : Operand) (ts : Array TypeId) (ho : o.op = .call { callee := .builtin .max, args := #[x, y], argTypes := ts }) {r : AV} {wr : Wr} (h : evalCO g μ N (.max x y) = some (r, wr)) : OpOK P X N io μ w a o r wr := by
  simp only [evalCO] at h
  split at h
  · rename_i k m k' n hx hy
    split at h
    · rename_i hk
      subst hk
      obtain ⟨v, h1, rfl, rfl⟩ := pureV_inv h
      injection h1 with h1
      subst h1
      have hvx := rel_v (hx ▸ ev_rel hg x)
      have hvy := rel_v (hy ▸ ev_rel hg y)
      refine OpOK.pure hM (v := _) ?_ (.v _)
      simp [execOp, ho, resolve, invoke, builtin, Builtin.max_, Builtin.max2, hvx, hvy]
    · cases h
  · cases h


end

end Go.Proofs.Ytneoeegpceompaa.AM

/-
The abstract machine, part 5: addresses, fields, elements, loads.
-/
namespace Go.Proofs.Ytneoeegpceompaa.AM
open Go

variable {P : Program}

theorem add_lit (k o n : Nat) : (⟨k, o, none⟩ : Addr).add n = ⟨k, o + n, none⟩ := by
  unfold Addr.add
  split
  · rename_i h; subst h; rfl
  · rfl

/-- What is known of a slice's element type. -/
theorem telinfo_inv {t e n b : Nat} {z : List Value} (h : telinfo P t = some (e, n, b, z)) :
    P.underlying t = some (.slice e) ∧ ∃ i, P.info? e = some i ∧ i.size = n ∧ i.bytes = b ∧ (∃ zv, i.zero = some zv ∧ zv.cells = z.toArray) ∧ 0 < n ∧ b ≤ 100000 ∧ z.length = n ∧ ∀ u ∈ z, u.oneCell' = true := by
  unfold telinfo at h
  split at h
  · rename_i e' he
    split at h
    · rename_i n' b' z' hn hb hz
      split at h
      · rename_i hc
        simp only [Option.some.injEq, Prod.mk.injEq] at h
        obtain ⟨rfl, rfl, rfl, rfl⟩ := h
        unfold telem at he
        split at he
        · rename_i e2 hu
          injection he with he
          subst he
          refine ⟨hu, ?_⟩
          unfold tsz at hn
          obtain ⟨i, hi, hin⟩ := Option.map_eq_some_iff.1 hn
          unfold tbytes at hb
          rw [hi] at hb
          simp at hb
          unfold tzero at hz
          rw [hi] at hz
          simp only [Option.bind_some] at hz
          split at hz
          · rename_i zv hzv
            split at hz
            · rename_i hall
              injection hz with hz
              subst hz
              refine ⟨i, hi, hin, hb, ⟨zv, hzv, by simp⟩, hc.1, hc.2.1, hc.2.2, fun u hu => ?_⟩
              rw [Array.all_eq_true_iff_forall_mem] at hall
              exact hall u (by simpa using hu)
            · cases hz
          · cases hz
        · cases he
      · cases h
    · cases h
  · cases h

theorem tzero_inv {t : Nat} {z : List Value} (h : tzero P t = some z) : ∃ i zv, P.info? t = some i ∧ i.zero = some zv ∧ zv.cells = z.toArray ∧ ∀ u ∈ z, u.oneCell' = true := by
  unfold tzero at h
  cases hi : P.info? t with
  | none => rw [hi] at h; cases h
  | some i =>
    rw [hi] at h
    simp only [Option.bind_some] at h
    split at h
    · rename_i zv hzv
      split at h
      · rename_i hall
        injection h with h
        subst h
        refine ⟨i, zv, rfl, hzv, by simp, fun u hu => ?_⟩
        rw [Array.all_eq_true_iff_forall_mem] at hall
        exact hall u (by simpa using hu)
      · cases h
    · cases h

theorem tsz_inv {t n : Nat} (h : tsz P t = some n) : ∃ i, P.info? t = some i ∧ i.size = n := Option.map_eq_some_iff.1 h

theorem run_sizeOf {t n : Nat} (h : tsz P t = some n) (w : World) : (sizeOf t).run P w = .ok n w := by
  obtain ⟨i, hi, rfl⟩ := tsz_inv h
  simp [sizeOf, typeInfo, hi]

theorem run_isAgg {t : Nat} {ag : Bool} (h : tag P t = some ag) (w : World) : (isAgg t).run P w = .ok ag w := by
  unfold tag at h
  obtain ⟨d, hd, h⟩ := Option.map_eq_some_iff.1 h
  subst h
  cases d <;> simp [isAgg, run_underlying hd]

theorem run_zero {t : Nat} {z : List Value} (h : tzero P t = some z) (w : World) : ∃ zv, (zeroValue t).run P w = .ok zv w ∧ zv.cells = z.toArray := by
  obtain ⟨i, zv, hi, hz, hc, _⟩ := tzero_inv h
  exact ⟨zv, by simp [zeroValue, typeInfo, hi, hz], hc⟩

/-- Some cells out of a value's. -/
theorem Rels.part {E : Env} {cs : List AV} {us : List Value} (h : Rels E cs us) (off n : Nat) : Rels E ((cs.drop off).take n) ((us.drop off).take n) := by
  refine ⟨by simp [h.1], fun j x u hx hu => ?_⟩
  rw [List.getElem?_take] at hx hu
  split at hx
  · rename_i hj
    rw [if_pos hj] at hu
    rw [List.getElem?_drop] at hx hu
    exact h.2 _ _ _ hx hu
  · cases hx

/-- A value made of cells. -/
theorem mk_rel {E : Env} {ag : Bool} {cs : List AV} {x : AV} (h : mkAV ag cs = some x) {us : List Value} (hr : Rels E cs us) (h1 : ∀ u ∈ us, u.oneCell' = true) :
    ∃ v, Rel E x v ∧ (ag = true → v = .agg us.toArray) ∧ (ag = false → us = [v]) := by
  cases ag with
  | true =>
    injection h with h
    subst h
    exact ⟨_, .agg' hr h1, fun _ => rfl, fun h => by cases h⟩
  | false =>
    match cs, h with
    | [y], h =>
      injection h with h
      subst h
      obtain ⟨u, vs, rfl, hu, ht⟩ := hr.cons_inv
      have := ht.nil_inv
      subst this
      exact ⟨u, hu, ⟨fun h => Bool.noConfusion h, fun _ => rfl⟩⟩

/-- part of a value -/
theorem run_part {t n : Nat} {ag : Bool} (hag : tag P t = some ag) (hn : tsz P t = some n) (h1 : ag = true ∨ n = 1) {us : List Value} {off : Nat} (hoff : off + n ≤ us.length) {v : Value} (hv1 : ag = true → v = .agg ((us.drop off).take n).toArray) (hv2 : ag = false → (us.drop off).take n = [v]) (w : World) :
    (part t us.toArray off).run P w = .ok v w := by
  cases ag with
  | true =>
    rw [hv1 rfl]
    have hx : us.toArray.extract off (off + n) = ((us.drop off).take n).toArray := by
      simp [List.extract_toArray]
    simp [part, run_isAgg hag, run_sizeOf hn]
  | false =>
    have hn1 : n = 1 := by simpa using h1
    subst hn1
    have h2 := hv2 rfl
    have : us[off]? = some v := by
      have h3 : ((us.drop off).take 1)[0]? = some v := by rw [h2]; rfl
      simpa [List.getElem?_take, List.getElem?_drop] using h3
    have hlt : off < us.length := by omega
    have hg : us[off] = v := by simpa [List.getElem?_eq_getElem hlt] using this
    simp [part, run_isAgg hag, hlt, hg]

section
variable {X : Nat → Prop} {N : Nat} {io : Nat → Option (Option Nat)} {μ : Mu} {w : World} {a : Act} {g : Nat → AV} (hM : Mem X io μ w) (hg : ∀ t, Rel (envOf X io μ w) (g t) (a.tmps.getD t undef))
include hM hg

theorem ok_field {o : Oper} (t f u n off : Nat) (ag : Bool) (x : Operand) (ho : o.op = .field t x f) (hf : tfield P t f = some (off, u)) (hag : tag P u = some ag) (hn : tsz P u = some n) (h1 : ag = true ∨ n = 1)
    {r : AV} {wr : Wr} (h : evalCO g μ N (.field ag n off x) = some (r, wr)) : OpOK P X N io μ w a o r wr := by
  simp only [evalCO] at h
  split at h
  · rename_i cs hx
    split at h
    · rename_i hle
      obtain ⟨h2, rfl⟩ := pureR_inv h
      have hr := hx ▸ ev_rel hg x
      cases hv : a.eval x with
      | agg us' =>
        rw [hv] at hr
        cases hr with
        | agg _ us hl hone hrel =>
          obtain ⟨v, hrv, hv1, hv2⟩ := mk_rel h2 (Rels.part ⟨hl, hrel⟩ off n) (fun y hy => hone y (List.mem_of_mem_drop (List.mem_of_mem_take hy)))
          refine OpOK.pure hM (v := v) ?_ hrv
          unfold tfield at hf
          split at hf
          · rename_i fs hu
            obtain ⟨fl, hfl, hfe⟩ := Option.map_eq_some_iff.1 hf
            simp only [Prod.mk.injEq] at hfe
            obtain ⟨rfl, rfl⟩ := hfe
            have hp := run_part (P := P) hag hn h1 (us := us) (off := fl.offset) (by rw [← hl]; exact hle) hv1 hv2 w
            simp [execOp, ho, Instr.field, run_underlying hu, hfl, hv, asAgg, hp]
          · cases hf
      | _ => rw [hv] at hr; cases hr
    · cases h
  · cases h

theorem ok_aindex {o : Oper} (t e n len : Nat) (ag : Bool) (x i : Operand) (ho : o.op = .index t x i) (hu : P.underlying t = some (.array len e)) (hag : tag P e = some ag) (hn : tsz P e = some n) (h1 : ag = true ∨ n = 1)
    {r : AV} {wr : Wr} (h : evalCO g μ N (.aindex ag n n len x i) = some (r, wr)) : OpOK P X N io μ w a o r wr := by
  simp only [evalCO] at h
  split at h
  · rename_i cs k m hx hi
    split at h
    · rename_i hc
      obtain ⟨h2, rfl⟩ := pureR_inv h
      have hr := hx ▸ ev_rel hg x
      have hiv := rel_v (hi ▸ ev_rel hg i)
      cases hv : a.eval x with
      | agg us' =>
        rw [hv] at hr
        cases hr with
        | agg _ us hl hone hrel =>
          obtain ⟨v, hrv, hv1, hv2⟩ := mk_rel h2 (Rels.part ⟨hl, hrel⟩ (m.toNat * n) n) (fun y hy => hone y (List.mem_of_mem_drop (List.mem_of_mem_take hy)))
          refine OpOK.pure hM (v := v) ?_ hrv
          have hp := run_part (P := P) hag hn h1 (us := us) (off := m.toNat * n) (by rw [← hl]; exact hc.2.2) hv1 hv2 w
          simp [execOp, ho, Instr.index, run_underlying hu, hv, hiv, asIntOf, hc.1, hc.2.1, run_sizeOf hn, hp]
      | _ => rw [hv] at hr; cases hr
    · cases h
  · cases h

theorem ok_sindex {o : Oper} (t : Nat) (x i : Operand) (ho : o.op = .index t x i) (hu : P.underlying t = some .string)
    {r : AV} {wr : Wr} (h : evalCO g μ N (.sindex x i) = some (r, wr)) : OpOK P X N io μ w a o r wr := by
  simp only [evalCO] at h
  split at h
  · rename_i s k m hx hi
    split at h
    · rename_i hc
      obtain ⟨v, h2, rfl, rfl⟩ := pureV_inv h
      have hxv := rel_v (hx ▸ ev_rel hg x)
      have hiv := rel_v (hi ▸ ev_rel hg i)
      cases hb : s[m.toNat]? with
      | none => rw [hb] at h2; cases h2
      | some b =>
        rw [hb] at h2
        injection h2 with h2
        subst h2
        refine OpOK.pure hM (v := .int .u8 b.toNat) ?_ (.v _)
        simp [execOp, ho, Instr.index, run_underlying hu, hxv, hiv, asIntOf, hc, hb]
    · cases h
  · cases h

theorem ok_faddr {o : Oper} (t f u n off : Nat) (x : Operand) (ho : o.op = .fieldAddr t x f) (hf : tfield P t f = some (off, u)) (hn : tsz P u = some n) (h0 : n ≠ 0)
    {r : AV} {wr : Wr} (h : evalCO g μ N (.faddr off x) = some (r, wr)) : OpOK P X N io μ w a o r wr := by
  simp only [evalCO] at h
  unfold tfield at hf
  split at hf
  · rename_i fs hu
    obtain ⟨fl, hfl, hfe⟩ := Option.map_eq_some_iff.1 hf
    simp only [Prod.mk.injEq] at hfe
    obtain ⟨rfl, rfl⟩ := hfe
    split at h
    · rename_i b sz i o' hx
      obtain ⟨h2, rfl⟩ := pureR_inv h
      injection h2 with h2
      subst h2
      have hr := hx ▸ ev_rel hg x
      generalize hv : a.eval x = v at hr
      cases hr with
      | pt _ _ _ _ k hk =>
        refine OpOK.pure hM (v := .pointer (some ⟨k, i * sz + (o' + fl.offset), none⟩)) ?_ (.pt _ _ _ _ k hk)
        simp [execOp, ho, Instr.fieldAt, run_underlying hu, hfl, hv, Instr.sureAddr, fieldPlace, run_sizeOf hn, h0, add_lit, Nat.add_assoc]
    · rename_i cs hx
      obtain ⟨h2, rfl⟩ := pureR_inv h
      injection h2 with h2
      subst h2
      have hr := hx ▸ ev_rel hg x
      generalize hv : a.eval x = v at hr
      cases hr with
      | ipt _ k oo u him hc hrel =>
        refine OpOK.pure hM (v := .pointer (some ⟨k, oo + fl.offset, none⟩)) ?_ (.ipt _ k (oo + fl.offset) (fun j => u (fl.offset + j)) him (fun j hj => ?_) (fun j x hx => ?_))
        · simp [execOp, ho, Instr.fieldAt, run_underlying hu, hfl, hv, Instr.sureAddr, fieldPlace, run_sizeOf hn, h0, add_lit]
        · have := hc (fl.offset + j) (by simp at hj; omega)
          rw [Nat.add_assoc]; exact this
        · rw [List.getElem?_drop] at hx; exact hrel _ _ hx
    · cases h
  · cases hf

theorem ok_iaddr {o : Oper} (t e n b : Nat) (z : List Value) (x i : Operand) (ho : o.op = .indexAddr t x i) (ht : telinfo P t = some (e, n, b, z))
    {r : AV} {wr : Wr} (h : evalCO g μ N (.iaddr n x i) = some (r, wr)) : OpOK P X N io μ w a o r wr := by
  obtain ⟨hu, inf, hinf, hsz, _, _, hpos, _⟩ := telinfo_inv ht
  have hsize : tsz P e = some n := by simp [tsz, hinf, hsz]
  simp only [evalCO] at h
  split at h
  · rename_i s es k m hx hi
    split at h
    · rename_i hc
      obtain ⟨hs, h0, hlt⟩ := hc
      subst hs
      obtain ⟨h2, rfl⟩ := pureR_inv h
      injection h2 with h2
      subst h2
      have hr := hx ▸ ev_rel hg x
      have hiv := rel_v (hi ▸ ev_rel hg i)
      generalize hv : a.eval x = v at hr
      cases hr with
      | sl0 => simp at hlt; omega
      | sl _ _ k' oo c u hl him hn hlc hc hrel =>
        have hm : m.toNat < es.length := by omega
        have hget : es.getD m.toNat [] = es[m.toNat] := by simp [List.getD, hm]
        rw [hget]
        have hlen : es[m.toNat].length = s := hl _ (List.getElem_mem _)
        refine OpOK.pure hM (v := .pointer (some ⟨k', oo + m.toNat * s, none⟩)) ?_ (.ipt _ k' _ (fun j => u m.toNat j) him (fun j hj => ?_) (fun j x hx => ?_))
        · simp [execOp, ho, Instr.indexAt, run_underlying hu, hv, hiv, asIntOf, h0, hlt, run_sizeOf hsize, add_lit]
        · have := hc m.toNat j hm (by omega)
          rw [Nat.add_assoc]; exact this
        · exact hrel m.toNat j x (by simp [cellAt, hm, hx])
    · cases h
  · rename_i b' s off len k m hx hi
    split at h
    · rename_i hc
      obtain ⟨hs, h0, hlt⟩ := hc
      subst hs
      obtain ⟨h2, rfl⟩ := pureR_inv h
      injection h2 with h2
      subst h2
      have hr := hx ▸ ev_rel hg x
      have hiv := rel_v (hi ▸ ev_rel hg i)
      generalize hv : a.eval x = v at hr
      cases hr with
      | rowz => simp at hlt; omega
      | row _ _ _ _ k' c A cur ty hk hA hb hcc hl hm =>
        obtain rfl := hA (by omega)
        refine OpOK.pure hM (v := .pointer (some ⟨k', (off + m.toNat) * s + 0, none⟩)) ?_ (.pt _ _ _ _ k' hk)
        simp [execOp, ho, Instr.indexAt, run_underlying hu, hv, hiv, asIntOf, h0, hlt, run_sizeOf hsize, add_lit, Nat.add_mul]
    · cases h
  · cases h

theorem ok_len {o : Oper} (t e : Nat) (x : Operand) (ho : o.op = .call { callee := .builtin .len, args := #[x], argTypes := #[t] }) (hu : P.underlying t = some (.slice e))
    {r : AV} {wr : Wr} (h : evalCO g μ N (.len x) = some (r, wr)) : OpOK P X N io μ w a o r wr := by
  simp only [evalCO] at h
  obtain ⟨v, h2, rfl, rfl⟩ := pureV_inv h
  obtain ⟨n, hn, h2⟩ := Option.map_eq_some_iff.1 h2
  subst h2
  obtain ⟨A', m', c', hv', rfl⟩ := len_rel hn (ev_rel hg x)
  refine OpOK.pure hM (v := .int .i64 m') ?_ (.v _)
  simp [execOp, ho, resolve, invoke, builtin, Builtin.len_, run_underlying hu, hv', goInt]

theorem ok_slen {o : Oper} (t : Nat) (x : Operand) (ho : o.op = .call { callee := .builtin .len, args := #[x], argTypes := #[t] }) (hu : P.underlying t = some .string)
    {r : AV} {wr : Wr} (h : evalCO g μ N (.slen x) = some (r, wr)) : OpOK P X N io μ w a o r wr := by
  simp only [evalCO] at h
  split at h
  · rename_i s hx
    obtain ⟨v, h2, rfl, rfl⟩ := pureV_inv h
    injection h2 with h2
    subst h2
    have hv := rel_v (hx ▸ ev_rel hg x)
    refine OpOK.pure hM (v := .int .i64 s.size) ?_ (.v _)
    simp [execOp, ho, resolve, invoke, builtin, Builtin.len_, run_underlying hu, hv, goInt]
  · cases h

theorem ok_cap {o : Oper} (t e : Nat) (x : Operand) (ho : o.op = .call { callee := .builtin .cap, args := #[x], argTypes := #[t] }) (hu : P.underlying t = some (.slice e))
    {r : AV} {wr : Wr} (h : evalCO g μ N (.cap x) = some (r, wr)) : OpOK P X N io μ w a o r wr := by
  simp only [evalCO] at h
  have fin : ∀ A m c, a.eval x = .slice A m c → OpOK P X N io μ w a o (.v (.int .i64 (c : Int))) [] := fun A m c hv =>
    OpOK.pure hM (v := .int .i64 (c : Int)) (by simp [execOp, ho, resolve, invoke, builtin, Builtin.cap_, run_underlying hu, hv, goInt]) (.v _)
  split at h
  · rename_i b s off len hx
    split at h
    · rename_i k hk
      split at h
      · rename_i c hc
        split at h
        · rename_i hcond
          obtain ⟨hs, hoff, hpos, hlen⟩ := hcond
          obtain ⟨v, h2, rfl, rfl⟩ := pureV_inv h
          injection h2 with h2
          subst h2
          have hr := hx ▸ ev_rel hg x
          obtain ⟨hl, hmx, hb⟩ := hM.ok b k hk
          generalize hv : a.eval x = v at hr
          cases hr with
          | rowz _ _ A hz =>
            omega
          | row _ _ _ _ k' c' A cur ty hk' hA hb' hcc hlc hmc =>
            rcases hb with ⟨h1, h2⟩ | ⟨p, cur2, h1, h2, h3, h4, h5⟩
            · rw [hk'] at h1; cases h1
            · have e1 : k' = p := by have := hk'.symm.trans h1; simpa using this
              subst e1
              rw [h2] at hb'
              injection hb' with hb'
              injection hb' with hb' _ _
              subst hb'
              have e2 := h4 c hc
              rw [hs] at e2
              have e3 : off + c' = c := Nat.eq_of_mul_eq_mul_right hpos (hcc.trans e2)
              have e4 : c - off = c' := by omega
              rw [e4]
              exact fin _ _ _ hv
        · cases h
      · cases h
    · cases h
  · rename_i hx
    obtain ⟨v, h2, rfl, rfl⟩ := pureV_inv h
    injection h2 with h2
    subst h2
    have hr := hx ▸ ev_rel hg x
    generalize hv : a.eval x = v at hr
    cases hr with
    | z0 A => exact fin _ _ _ hv
  · rename_i hx
    obtain ⟨v, h2, rfl, rfl⟩ := pureV_inv h
    injection h2 with h2
    subst h2
    exact fin _ _ _ (rel_v (hx ▸ ev_rel hg x))
  · cases h

end

end Go.Proofs.Ytneoeegpceompaa.AM

/-
The abstract machine, part 6: equality of structs, loads, builds, slices of slices.
-/
namespace Go.Proofs.Ytneoeegpceompaa.AM
open Go

variable {P : Program}

theorem eqCells_append (p q : List (Nat × Bool)) (xs ys : List AV) {b : Bool} (h : eqCells (p ++ q) xs ys = some b) : ∃ c d, eqCells p xs ys = some c ∧ eqCells q xs ys = some d ∧ b = (c && d) := by
  induction p generalizing b with
  | nil => exact ⟨true, b, rfl, h, by simp⟩
  | cons i p ih =>
    obtain ⟨i, s⟩ := i
    simp only [List.cons_append, eqCells] at h ⊢
    split at h
    · rename_i x y hx hy
      split at h
      · rename_i c d hc hd
        injection h with h
        subst h
        obtain ⟨c', d', h1, h2, rfl⟩ := ih hd
        exact ⟨c && c', d', by simp [hc, h1], h2, by simp [Bool.and_assoc]⟩
      · cases h
    · cases h

theorem eqCells_shift (m : List (Nat × Bool)) (off n : Nat) (hm : ∀ i ∈ m, i.1 < n) (xs ys : List AV) : eqCells (m.map fun q => (q.1 + off, q.2)) xs ys = eqCells m ((xs.drop off).take n) ((ys.drop off).take n) := by
  induction m with
  | nil => rfl
  | cons i m ih =>
    obtain ⟨i, s⟩ := i
    have hi : i < n := hm (i, s) (by simp)
    have ih := ih (fun j hj => hm j (by simp [hj]))
    simp only [List.map_cons, eqCells, ih, List.getElem?_take, if_pos hi, List.getElem?_drop, Nat.add_comm off i]

theorem eqCell_rel {E : Env} {s : Bool} {x y : AV} {b : Bool} (h : eqCell s x y = some b) {u v : Value} (hu : Rel E x u) (hv : Rel E y v) :
    (s = false ∧ ∃ k m n, u = .int k m ∧ v = .int k n ∧ b = (m == n)) ∨ (s = true ∧ ∃ m n, u = .string m ∧ v = .string n ∧ b = (m.toList == n.toList)) := by
  unfold eqCell at h
  split at h
  · rename_i k m k' n
    split at h
    · rename_i hk
      subst hk
      injection h with h
      exact .inl ⟨rfl, k, m, n, rel_v hu, rel_v hv, h.symm⟩
    · cases h
  · rename_i m n
    injection h with h
    exact .inr ⟨rfl, m, n, rel_v hu, rel_v hv, h.symm⟩
  · cases h

/-- Equality, as it runs. -/
theorem run_eqPlan (d : Nat) : ∀ (t : Nat) (plan : List (Nat × Bool)), eqPlan P d t = some plan → ∀ (D : Nat), d ≤ D →
    (∀ {E : Env} {s : Bool} {x y : AV} {b : Bool} {u v : Value}, plan = [(0, s)] → (∀ fs, P.underlying t ≠ some (.struct fs)) → eqCell s x y = some b → Rel E x u → Rel E y v → ∀ w, (Op.equalIn D t u v).run P w = .ok b w) ∧
    (∀ {E : Env} {cs ds : List AV} {b : Bool} {us vs : List Value}, (∃ fs, P.underlying t = some (.struct fs)) → eqCells plan cs ds = some b → Rels E cs us → Rels E ds vs → ∀ w, (Op.equalIn D t (.agg us.toArray) (.agg vs.toArray)).run P w = .ok b w) := by
  induction d with
  | zero => intro t plan h; cases h
  | succ d ih =>
    intro t plan h D hD
    obtain ⟨D, rfl⟩ : ∃ D', D = D' + 1 := ⟨D - 1, by omega⟩
    simp only [eqPlan] at h
    refine ⟨fun {E s x y b u v} hpl hns hxy hu hv w => ?_, fun {E cs ds b us vs} ⟨fs, hfs⟩ heq hus hvs w => ?_⟩
    · split at h
      · rename_i k hk
        injection h with h
        subst h
        simp only [List.cons.injEq, Prod.mk.injEq, and_true, true_and] at hpl
        subst hpl
        rcases eqCell_rel hxy hu hv with ⟨_, k', m, n, rfl, rfl, rfl⟩ | ⟨h0, _⟩
        · exact run_equalIn_int w D t k' k m n hk
        · cases h0
      · rename_i hk
        injection h with h
        subst h
        simp only [List.cons.injEq, Prod.mk.injEq, and_true, true_and] at hpl
        subst hpl
        rcases eqCell_rel hxy hu hv with ⟨h0, _⟩ | ⟨_, m, n, rfl, rfl, rfl⟩
        · cases h0
        · exact run_equalIn_string w D t m n hk
      · rename_i fs hfs
        exact absurd hfs (hns fs)
      · cases h
    · rw [hfs] at h
      simp only at h
      split at h
      · cases h
      · rename_i hst
        have hfo : P.fieldsOf t = fs := by simp [Program.fieldsOf, hfs]
        rw [run_equalIn_struct w D t _ _ (by rw [hfo]; exact hfs) (by simpa using hst), hfo]
        clear hfs hfo hst
        revert h heq
        generalize fs.toList = l
        induction l generalizing plan b w with
        | nil =>
          intro heq h
          injection h with h
          subst h
          injection heq with heq
          subst heq
          simp [Op.eqFields]
        | cons f l ihl =>
          intro heq h
          simp only [List.foldr_cons] at h
          split at h
          · cases h
          · rename_i rest hrest
            split at h
            · cases h
            · rename_i hname
              split at h
              · rename_i m ag n hm hag hn
                split at h
                · rename_i hall
                  injection h with h
                  subst h
                  obtain ⟨c1, c2, h1, h2, rfl⟩ := eqCells_append _ _ _ _ heq
                  have ih2 := fun w => ihl rest w h2 hrest
                  have hall' : ∀ i ∈ m, i.1 < n := by simpa using hall
                  have hpart : ∀ w, ((part f.type us.toArray f.offset).run P w).andThen (fun x w1 => ((part f.type vs.toArray f.offset).run P w1).andThen fun y w2 => (Op.equalIn D f.type x y).run P w2) = .ok c1 w := by
                    intro w
                    cases hu : P.underlying f.type with
                    | none => simp [tag, hu] at hag
                    | some de =>
                      by_cases hs : ∃ fs, de = .struct fs
                      · obtain ⟨fs', rfl⟩ := hs
                        rw [eqCells_shift m f.offset n hall'] at h1
                        have hag' : tag P f.type = some true := by simp [tag, hu]
                        have key := (ih f.type m hm D (by omega)).2 ⟨fs', hu⟩ h1 (hus.part f.offset n) (hvs.part f.offset n) w
                        have e : ∀ us : List Value, us.toArray.extract f.offset (f.offset + n) = ((us.drop f.offset).take n).toArray := fun us => by simp [List.extract_toArray]
                        simp only [part, Sem.run_bind, run_isAgg hag', Result.andThen_ok, if_true, run_sizeOf hn, Sem.run_pure, e]
                        exact key
                      · have hns : ∀ fs, P.underlying f.type ≠ some (.struct fs) := fun fs h => hs ⟨fs, by rw [hu] at h; injection h⟩
                        have hm1 : (∃ s, m = [(0, s)]) ∧ tag P f.type = some false := by
                          cases d with
                          | zero => cases hm
                          | succ d =>
                            simp only [eqPlan, hu] at hm
                            cases de <;> first
                              | (injection hm with hm; exact ⟨⟨_, hm.symm⟩, by simp [tag, hu]⟩)
                              | (exact absurd ⟨_, rfl⟩ hs)
                              | (cases hm; done)
                        obtain ⟨⟨s, rfl⟩, htag⟩ := hm1
                        simp only [List.map_cons, List.map_nil, Nat.zero_add, eqCells] at h1
                        split at h1
                        · rename_i x y hx hy
                          split at h1
                          · rename_i c d' hc hd
                            injection h1 with h1
                            injection hd with hd
                            subst hd
                            simp only [Bool.and_true] at h1
                            subst h1
                            have hxl : f.offset < us.length := by rw [← hus.1]; exact (List.getElem?_eq_some_iff.1 hx).1
                            have hyl : f.offset < vs.length := by rw [← hvs.1]; exact (List.getElem?_eq_some_iff.1 hy).1
                            have key := (ih f.type [(0, s)] hm D (by omega)).1 rfl hns hc (hus.2 _ _ _ hx (List.getElem?_eq_getElem hxl)) (hvs.2 _ _ _ hy (List.getElem?_eq_getElem hyl)) w
                            have e : ∀ (us : List Value) (h : f.offset < us.length), us.toArray[f.offset]? = some us[f.offset] := fun us h => by simp [h]
                            simp only [part, Sem.run_bind, run_isAgg htag, Result.andThen_ok, Bool.false_eq_true, if_false, e us hxl, e vs hyl, Sem.run_pure]
                            exact key
                          · cases h1
                        · cases h1
                  have hp := hpart w
                  simp only [Op.eqFields, Sem.run_bind, Sem.run_ite]
                  rw [if_pos (by simpa using hname)]
                  generalize (part f.type us.toArray f.offset).run P w = r1 at hp ⊢
                  cases r1 with
                  | ok a w1 =>
                    simp only [Result.andThen_ok] at hp ⊢
                    generalize (part f.type vs.toArray f.offset).run P w1 = r2 at hp ⊢
                    cases r2 with
                    | ok b w2 =>
                      simp only [Result.andThen_ok] at hp ⊢
                      rw [hp]
                      simp only [Result.andThen_ok]
                      cases c1 with
                      | true => simpa using ih2 w
                      | false => simp
                    | halt x w2 => cases hp
                  | halt x w1 => cases hp
                · cases h
              · cases h

/-- A pointer's cells, all of them. -/
theorem load_rel {X : Nat → Prop} {io : Nat → Option (Option Nat)} {μ : Mu} {w : World} (hM : Mem X io μ w) {ag : Bool} {n : Nat} {p x : AV} (h : loadAV μ ag n p = some x) {u : Value} (hr : Rel (envOf X io μ w) p u) :
    ∃ (k o : Nat) (us : List Value), u = .pointer (some ⟨k, o, none⟩) ∧ us.length = n ∧ (∀ j v, us[j]? = some v → w.cell? ⟨k, o + j, none⟩ = some v) ∧ (∀ v ∈ us, v.oneCell' = true) ∧
      ∃ cs, mkAV ag cs = some x ∧ Rels (envOf X io μ w) cs us := by
  cases p with
  | ipt cs =>
    simp only [loadAV] at h
    split at h
    · rename_i hn
      cases hr with
      | ipt _ k o f him hc hrel =>
        refine ⟨k, o, (List.range n).map f, rfl, by simp, fun j v hv => ?_, fun v hv => ?_, cs.take n, h, ⟨by simp; omega, fun j y v hy hv => ?_⟩⟩
        · have hj : j < n := by have := (List.getElem?_eq_some_iff.1 hv).1; simpa using this
          have : v = f j := by simp [hj] at hv; exact hv.symm
          rw [this]; exact (hc j (by omega)).1
        · obtain ⟨j, hj, rfl⟩ := List.mem_map.1 hv
          exact (hc j (by have := List.mem_range.1 hj; omega)).2
        · have hj : j < n := by have := (List.getElem?_eq_some_iff.1 hv).1; simpa using this
          have : v = f j := by simp [hj] at hv; exact hv.symm
          rw [this]
          rw [List.getElem?_take, if_pos hj] at hy
          exact hrel j y hy
    · cases h
  | pt b sz i o =>
    simp only [loadAV] at h
    split at h
    · rename_i blk hb
      split at h
      · rename_i r hri
        split at h
        · rename_i hc
          obtain ⟨hs, hle⟩ := hc
          subst hs
          obtain ⟨hl, hmx, hk⟩ := hM.ok b blk hb
          cases hr with
          | pt _ _ _ _ k hio =>
            rcases hk with ⟨h1, h2⟩ | ⟨p, cur, h1, h2, h3, _, h4⟩
            · rw [h2] at hri; cases hri
            · have e1 : k = p := by have := hio.symm.trans h1; simpa using this
              subst e1
              have gv : ∀ j, ∃ u : Value, j < n → cur[i * blk.sz + (o + j)]? = some u ∧ u.oneCell' = true ∧ ∀ x, r[o + j]? = some x → Rel (envOf X io μ w) x u := fun j => by
                by_cases hj : j < n
                · have hlt : o + j < r.length := by omega
                  obtain ⟨u, hu, hu1, hur⟩ := h4 i (o + j) r[o + j] (by simp [cellAt, hri, hlt])
                  exact ⟨u, fun _ => ⟨hu, hu1, fun x hx => by rw [List.getElem?_eq_getElem hlt] at hx; injection hx with hx; subst hx; exact hur⟩⟩
                · exact ⟨.bool true, fun h => absurd h hj⟩
              obtain ⟨F, cs⟩ := Classical.axiomOfChoice gv
              have hF : ∀ j v, ((List.range n).map F)[j]? = some v → j < n ∧ v = F j := fun j v hv => by
                have hj : j < n := by have := (List.getElem?_eq_some_iff.1 hv).1; simpa using this
                rw [List.getElem?_map, List.getElem?_range hj] at hv
                exact ⟨hj, (Option.some.inj hv).symm⟩
              refine ⟨k, i * blk.sz + o, (List.range n).map F, rfl, by simp, fun j v hv => ?_, fun v hv => ?_, (r.drop o).take n, h, ⟨by simp; omega, fun j y v hy hv => ?_⟩⟩
              · obtain ⟨hj, rfl⟩ := hF j v hv
                rw [Nat.add_assoc]
                rw [cell_of_row w k _ cur blk.ty (0, 0) h2]
                exact (cs j hj).1
              · obtain ⟨j, hj, rfl⟩ := List.mem_map.1 hv
                exact (cs j (List.mem_range.1 hj)).2.1
              · obtain ⟨hj, rfl⟩ := hF j v hv
                rw [List.getElem?_take, if_pos hj, List.getElem?_drop] at hy
                exact (cs j hj).2.2 y hy
        · cases h
      · cases h
    · cases h
  | _ => simp [loadAV] at h

/-- A variable, loaded. -/
theorem run_load_rel {X : Nat → Prop} {io : Nat → Option (Option Nat)} {μ : Mu} {w : World} (hM : Mem X io μ w) {t : Nat} {ag : Bool} {n : Nat} (hag : tag P t = some ag) (hn : tsz P t = some n) (h1 : ag = true ∨ n = 1) {p x : AV} (h : loadAV μ ag n p = some x)
    {u : Value} (hr : Rel (envOf X io μ w) p u) : ∃ a v, u = .pointer (some a) ∧ (loadVar t a).run P w = .ok v w ∧ Rel (envOf X io μ w) x v := by
  obtain ⟨k, o, us, rfl, hl, hc, hone, cs, hmk, hrel⟩ := load_rel hM h hr
  obtain ⟨v, hv, hv1, hv2⟩ := mk_rel hmk hrel hone
  refine ⟨_, v, rfl, ?_, hv⟩
  cases ag with
  | true =>
    have hld := run_loadCells_list (P := P) w ⟨k, o, none⟩ us (fun j v hjv => by rw [add_lit]; exact hc j v hjv)
    rw [hl] at hld
    simp [loadVar, run_isAgg hag, run_sizeOf hn, hld, hv1 rfl]
  | false =>
    have hus := hv2 rfl
    have h0 := hc 0 v (by rw [hus]; rfl)
    simp only [Nat.add_zero] at h0
    simp [loadVar, run_isAgg hag, h0]

theorem run_equalIn_nil (d t e n c : Nat) (A : Option Addr) (hu : P.underlying t = some (.slice e)) (w : World) : (Op.equalIn (d + 1) t (.slice A n c) (.slice none 0 0)).run P w = .ok A.isNone w := by
  cases A <;> simp [Op.equalIn, run_underlying hu]
theorem run_eql_nil' (t e n c : Nat) (A : Option Addr) (hu : P.underlying t = some (.slice e)) (w : World) : (binOp .eql t (.slice A n c) (.slice none 0 0)).run P w = .ok (.bool A.isNone) w := by
  simp only [binOp, Op.equal, Op.maxDepth, Sem.run_bind, run_equalIn_nil 9999 t e n c A hu w, Result.andThen_ok, Sem.run_pure]
theorem run_neq_nil' (t e n c : Nat) (A : Option Addr) (hu : P.underlying t = some (.slice e)) (w : World) : (binOp .neq t (.slice A n c) (.slice none 0 0)).run P w = .ok (.bool (!A.isNone)) w := by
  simp only [binOp, Op.equal, Op.maxDepth, Sem.run_bind, run_equalIn_nil 9999 t e n c A hu w, Result.andThen_ok, Sem.run_pure]
theorem run_eqGuard_slice (op : BinOp) (t : TypeId) (x y : Operand) (A B : Option Addr) (n c n' c' : Nat) (w : World) : (eqGuard op t x y (.slice A n c) (.slice B n' c')).run P w = .ok () w := by
  simp only [eqGuard]
  cases op <;> simp

section
variable {X : Nat → Prop} {N : Nat} {io : Nat → Option (Option Nat)} {μ : Mu} {w : World} {a : Act} {g : Nat → AV} (hM : Mem X io μ w) (hg : ∀ t, Rel (envOf X io μ w) (g t) (a.tmps.getD t undef))
include hM hg

theorem ok_load {o : Oper} (t n : Nat) (ag : Bool) (x : Operand) (ho : o.op = .load t x) (hag : tag P t = some ag) (hn : tsz P t = some n) (h1 : ag = true ∨ n = 1)
    {r : AV} {wr : Wr} (h : evalCO g μ N (.load ag n x) = some (r, wr)) : OpOK P X N io μ w a o r wr := by
  simp only [evalCO] at h
  obtain ⟨h2, rfl⟩ := pureR_inv h
  obtain ⟨ad, v, hv, hrun, hrel⟩ := run_load_rel (P := P) hM hag hn h1 h2 (ev_rel hg x)
  exact OpOK.pure hM (v := v) (by simp [execOp, ho, hv, Instr.loadAt, Instr.sureAddr, hrun]) hrel

theorem ok_eqs {o : Oper} (op : BinOp) (neg : Bool) (t t' : Nat) (fs : Array Field) (plan : List (Nat × Bool)) (x y : Operand) (ho : o.op = .binOp op t x y t') (hop : op = .eql ∧ neg = false ∨ op = .neq ∧ neg = true) (hu : P.underlying t = some (.struct fs))
    (hp : eqPlan P 4 t = some plan) (hgd : P.eqGuardType P.depth t = false) {r : AV} {wr : Wr} (h : evalCO g μ N (.eqs neg plan x y) = some (r, wr)) : OpOK P X N io μ w a o r wr := by
  simp only [evalCO] at h
  split at h
  · rename_i xs ys hx hy
    obtain ⟨v, h2, rfl, rfl⟩ := pureV_inv h
    obtain ⟨b, hb, h2⟩ := Option.map_eq_some_iff.1 h2
    subst h2
    have hxr := hx ▸ ev_rel hg x
    have hyr := hy ▸ ev_rel hg y
    generalize hxv : a.eval x = u at hxr
    generalize hyv : a.eval y = u' at hyr
    cases hxr with
    | agg _ us hl h1 hrel =>
      cases hyr with
      | agg _ vs hl' h1' hrel' =>
        have key := (run_eqPlan (P := P) 4 t plan hp 10000 (by omega)).2 ⟨fs, hu⟩ hb ⟨hl, hrel⟩ ⟨hl', hrel'⟩ w
        have hgu := run_eqGuard_agg (P := P) w op t x y us.toArray vs.toArray hgd
        refine OpOK.pure hM (v := .bool (if neg = true then !b else b)) ?_ (.v _)
        rcases hop with ⟨rfl, rfl⟩ | ⟨rfl, rfl⟩
        · simp [execOp, ho, hxv, hyv, hgu, run_eql_struct, key]
        · simp [execOp, ho, hxv, hyv, hgu, run_neq_struct, key]
  · cases h

omit hM hg in
theorem run_eqGuard_bool (op : BinOp) (t : TypeId) (x y : Operand) (m n : Bool) (w : World) : (eqGuard op t x y (.bool m) (.bool n)).run P w = .ok () w := by
  simp only [eqGuard]
  cases op <;> simp

theorem ok_beq {o : Oper} (op : BinOp) (neg : Bool) (t t' : Nat) (x y : Operand) (ho : o.op = .binOp op t x y t') (hop : op = .eql ∧ neg = false ∨ op = .neq ∧ neg = true) (hu : P.underlying t = some .bool)
    {r : AV} {wr : Wr} (h : evalCO g μ N (.beq neg x y) = some (r, wr)) : OpOK P X N io μ w a o r wr := by
  simp only [evalCO] at h
  split at h
  · rename_i m n hx hy
    obtain ⟨v, h2, rfl, rfl⟩ := pureV_inv h
    injection h2 with h2
    subst h2
    have hvx := rel_v (hx ▸ ev_rel hg x)
    have hvy := rel_v (hy ▸ ev_rel hg y)
    refine OpOK.pure hM (v := .bool (if neg = true then !(m == n) else m == n)) ?_ (.v _)
    rcases hop with ⟨rfl, rfl⟩ | ⟨rfl, rfl⟩
    · simp [execOp, ho, hvx, hvy, run_eqGuard_bool, run_eql_bool w t m n hu]
    · simp [execOp, ho, hvx, hvy, run_eqGuard_bool, run_neq_bool w t m n hu]
  · cases h

theorem ok_nilcmp {o : Oper} (op : BinOp) (neg : Bool) (t t' e : Nat) (x y : Operand) (ho : o.op = .binOp op t x y t') (hop : op = .eql ∧ neg = false ∨ op = .neq ∧ neg = true) (hu : P.underlying t = some (.slice e)) (hy : isNilSlice y = true)
    {r : AV} {wr : Wr} (h : evalCO g μ N (.nilcmp neg x) = some (r, wr)) : OpOK P X N io μ w a o r wr := by
  simp only [evalCO] at h
  obtain ⟨v, h2, rfl, rfl⟩ := pureV_inv h
  obtain ⟨b, hb, h2⟩ := Option.map_eq_some_iff.1 h2
  subst h2
  have hyv : a.eval y = .slice none 0 0 := by
    unfold isNilSlice at hy
    split at hy
    · rfl
    · cases hy
  have hxr := ev_rel hg x
  have hxv : ∃ A n c, a.eval x = .slice A n c ∧ b = A.isNone := by
    generalize a.eval x = u at hxr
    generalize ev g x = p at hxr hb
    unfold nilAV at hb
    split at hb
    · injection hb with hb
      subst hb
      have := rel_v hxr
      subst this
      exact ⟨_, _, _, rfl, rfl⟩
    · injection hb with hb
      subst hb
      cases hxr with
      | row _ _ _ _ k c A cur ty hk hA _ _ hl _ =>
        obtain rfl := hA (by omega)
        exact ⟨_, _, _, rfl, rfl⟩
    · injection hb with hb
      subst hb
      cases hxr with
      | sl => exact ⟨_, _, _, rfl, rfl⟩
    · cases hb
  obtain ⟨A, n, c, hxv, rfl⟩ := hxv
  refine OpOK.pure hM (v := .bool (if neg = true then !A.isNone else A.isNone)) ?_ (.v _)
  rcases hop with ⟨rfl, rfl⟩ | ⟨rfl, rfl⟩
  · simp [execOp, ho, hxv, hyv, run_eqGuard_slice, run_eql_nil' t e n c A hu]
  · simp [execOp, ho, hxv, hyv, run_eqGuard_slice, run_neq_nil' t e n c A hu]
end

end Go.Proofs.Ytneoeegpceompaa.AM

/-
The abstract machine, part 7: structs built, slices of slices, new variables, literals.
-/
namespace Go.Proofs.Ytneoeegpceompaa.AM
open Go

variable {P : Program}

def spliceV (l : List Value) (off : Nat) (xs : List Value) : List Value := l.take off ++ (xs ++ l.drop (off + xs.length))

theorem spliceV_length {l xs : List Value} {off : Nat} (h : off + xs.length ≤ l.length) : (spliceV l off xs).length = l.length := by simp [spliceV]; omega

theorem fold_set (us : List Value) : ∀ (k off : Nat) (cs : List Value), off + k + us.length ≤ cs.length →
    (us.zipIdx k).foldl (fun (c : Array Value) (p : Value × Nat) => c.setIfInBounds (off + p.2) p.1) cs.toArray = (spliceV cs (off + k) us).toArray := by
  induction us with
  | nil => intro k off cs h; simp [spliceV]
  | cons u us ih =>
    intro k off cs h
    simp only [List.length_cons] at h
    simp only [List.zipIdx_cons, List.foldl_cons, List.setIfInBounds_toArray]
    rw [ih (k + 1) off (cs.set (off + k) u) (by simp; omega)]
    congr 1
    unfold spliceV
    have h1 : (cs.set (off + k) u).take (off + (k + 1)) = cs.take (off + k) ++ [u] := by
      rw [show off + (k + 1) = off + k + 1 by omega, List.take_add_one, List.take_set_of_le (by omega)]
      simp [show off + k < cs.length by omega]
    have h2 : (cs.set (off + k) u).drop (off + (k + 1) + us.length) = cs.drop (off + k + (u :: us).length) := by
      rw [List.drop_set_of_lt (by omega)]
      congr 1
      simp; omega
    rw [h1, h2]
    simp

theorem fold_set' (us : List Value) (off : Nat) (cs : List Value) (h : off + us.length ≤ cs.length) :
    us.toArray.zipIdx.foldl (fun (c : Array Value) (p : Value × Nat) => c.setIfInBounds (off + p.2) p.1) cs.toArray = (spliceV cs off us).toArray := by
  have := fold_set us 0 off cs (by simpa using h)
  simp only [Nat.add_zero] at this
  rw [← this]
  simp

theorem Rels.splice {E : Env} {cs ds : List AV} {us vs : List Value} (h : Rels E cs us) (k : Rels E ds vs) (off : Nat) : Rels E (splice cs off ds) (spliceV us off vs) := by
  have take : ∀ n, Rels E (cs.take n) (us.take n) := fun n => by have := h.part 0 n; simpa using this
  have drop : ∀ n, Rels E (cs.drop n) (us.drop n) := fun n => by
    refine ⟨by simp [h.1], fun j x u hx hu => ?_⟩
    rw [List.getElem?_drop] at hx hu
    exact h.2 _ _ _ hx hu
  unfold AM.splice spliceV
  rw [k.1]
  exact (take off).app (k.app (drop _))

theorem one_splice {us vs : List Value} {off : Nat} (h : ∀ u ∈ us, u.oneCell' = true) (k : ∀ u ∈ vs, u.oneCell' = true) : ∀ u ∈ spliceV us off vs, u.oneCell' = true := fun u hu => by
  unfold spliceV at hu
  simp only [List.mem_append] at hu
  rcases hu with hu | hu | hu
  · exact h u (List.mem_of_mem_take hu)
  · exact k u hu
  · exact h u (List.mem_of_mem_drop hu)

/-- fill, as it runs -/
theorem fill_ok {E : Env} {g : Nat → AV} {a : Act} (hg : ∀ t, Rel E (g t) (a.tmps.getD t undef)) (pl : Nat → Option (Nat × Nat)) : ∀ (parts : List (Nat × Operand)) (l : List (Nat × Nat × Operand)) (cs res : List AV) (us : List Value),
    places parts pl = some l → fillAV g cs l = some res → Rels E cs us → (∀ u ∈ us, u.oneCell' = true) →
    ∃ vs, Instr.fill pl us.toArray (parts.map fun (i, x) => (i, a.eval x)) = some vs.toArray ∧ Rels E res vs ∧ ∀ u ∈ vs, u.oneCell' = true := by
  intro parts
  induction parts with
  | nil =>
    intro l cs res us hp hf hr h1
    simp only [places, Option.some.injEq] at hp
    subst hp
    simp only [fillAV, Option.some.injEq] at hf
    subst hf
    exact ⟨us, rfl, hr, h1⟩
  | cons p parts ih =>
    intro l cs res us hp hf hr h1
    obtain ⟨i, x⟩ := p
    simp only [places] at hp
    split at hp
    · rename_i q l' hq hl'
      obtain ⟨off, n⟩ := q
      injection hp with hp
      subst hp
      simp only [fillAV] at hf
      split at hf
      · rename_i ds hds
        split at hf
        · rename_i hc
          obtain ⟨hn, hle⟩ := hc
          obtain ⟨vs, hcv, hrel, hone⟩ := cells_rel hds (ev_rel hg x)
          have hvl : vs.length = n := by rw [← hrel.1]; exact hn
          have hfit : off + vs.length ≤ us.length := by rw [hvl, ← hr.1]; exact hle
          obtain ⟨ws, h2, h3, h4⟩ := ih l' _ res (spliceV us off vs) hl' hf (hr.splice hrel off) (one_splice h1 hone)
          refine ⟨ws, ?_, h3, h4⟩
          simp only [List.map_cons, Instr.fill, hq, hcv]
          have hcond : ¬ (vs.toArray.size ≠ n ∨ off + vs.toArray.size > us.toArray.size) := by simp [hvl] at hfit ⊢; omega
          have hfs := fold_set' vs off us hfit
          simp only [List.size_toArray] at hcond
          simp only [List.size_toArray]
          rw [if_neg (by simpa using hcond)]
          rw [hfs]
          exact h2
        · cases hf
      · cases hf
    · cases hp

section
variable {X : Nat → Prop} {N : Nat} {io : Nat → Option (Option Nat)} {μ : Mu} {w : World} {a : Act} {g : Nat → AV} (hM : Mem X io μ w) (hg : ∀ t, Rel (envOf X io μ w) (g t) (a.tmps.getD t undef))
include hM hg

omit hM hg in
theorem consts_rel {E : Env} (z : List Value) : Rels E (z.map .v) z := ⟨by simp, fun j x u hx hu => by
  rw [List.getElem?_map, hu] at hx
  injection hx with hx
  subst hx
  exact .v u⟩

theorem ok_build {o : Oper} (t : Nat) (ps : Array (Nat × Operand)) (z : List Value) (l : List (Nat × Nat × Operand)) (ho : o.op = .build t ps) (hz : tzero P t = some z) (hl : compParts P t ps.toList = some l)
    {r : AV} {wr : Wr} (h : evalCO g μ N (.build z l) = some (r, wr)) : OpOK P X N io μ w a o r wr := by
  simp only [evalCO] at h
  obtain ⟨h2, rfl⟩ := pureR_inv h
  obtain ⟨res, hres, h2⟩ := Option.map_eq_some_iff.1 h2
  subst h2
  obtain ⟨i, zv, hi, hzv, hzc, hone⟩ := tzero_inv hz
  have hzrun : ∀ w, (zeroValue t).run P w = .ok zv w := fun w => by simp [zeroValue, typeInfo, hi, hzv]
  unfold compParts at hl
  split at hl
  · rename_i fs hu
    split at hl
    · rename_i pl hpl
      obtain ⟨vs, h3, h4, h5⟩ := fill_ok hg (pl[·]?) ps.toList l _ res z hl hres (consts_rel z) hone
      refine OpOK.pure hM (v := .agg vs.toArray) ?_ (.agg' h4 h5)
      have hfill : Instr.fill (fun x => pl[x]?) zv.cells (ps.toList.map fun x => (x.fst, a.eval x.snd)) = some vs.toArray := by rw [hzc]; exact h3
      have hplaces : ∀ w, (fs.mapM fun f => Prod.mk f.offset <$> sizeOf f.type).run P w = .ok pl.toArray w := fun w => by
        simp [Array.mapM_eq_mapM_toList, run_places w _ _ hpl]
      simp [execOp, ho, Instr.build, hzrun, run_underlying hu, hplaces, hfill]
    · cases hl
  · rename_i n e hu
    split at hl
    · rename_i sz hsz
      obtain ⟨vs, h3, h4, h5⟩ := fill_ok hg (fun i => some (i * sz, sz)) ps.toList l _ res z hl hres (consts_rel z) hone
      refine OpOK.pure hM (v := .agg vs.toArray) ?_ (.agg' h4 h5)
      have hfill : Instr.fill (fun i => some (i * sz, sz)) zv.cells (ps.toList.map fun x => (x.fst, a.eval x.snd)) = some vs.toArray := by rw [hzc]; exact h3
      simp [execOp, ho, Instr.build, hzrun, run_underlying hu, run_sizeOf hsz, hfill]
    · cases hl
  · cases hl
end

end Go.Proofs.Ytneoeegpceompaa.AM

/-
The abstract machine, part 8: slices of slices; new memory; stores.
-/
namespace Go.Proofs.Ytneoeegpceompaa.AM
open Go

variable {P : Program}

theorem bnd_val {E : Env} {g : Nat → AV} {a : Act} (hg : ∀ t, Rel E (g t) (a.tmps.getD t undef)) {o : Option Operand} {n : Option Int} (h : bnd g o = some n) :
    (o = none ∧ n = none) ∨ ∃ x k m, o = some x ∧ n = some m ∧ a.eval x = .int k m := by
  cases o with
  | none => injection h with h; exact .inl ⟨rfl, h.symm⟩
  | some x =>
    simp only [bnd] at h
    split at h
    · rename_i k m hx
      injection h with h
      exact .inr ⟨x, k, m, rfl, h.symm, rel_v (hx ▸ ev_rel hg x)⟩
    · cases h

theorem run_sliceBound (k : IntKind) (i : Int) (y : Nat) (c : BoundsCode) (h0 : 0 ≤ i) (h1 : i ≤ y) (w : World) : (Instr.sliceBound (.int k i) y c).run P w = .ok i.toNat w := by
  simp [Instr.sliceBound, asIntOf, h0, h1]

theorem run_sliceBounds {lo hi : Option Value} {len cap : Nat} {L H : Int} (hlo : lo = none ∧ L = 0 ∨ ∃ k, lo = some (.int k L)) (hhi : hi = none ∧ H = len ∨ ∃ k, hi = some (.int k H)) (h0 : 0 ≤ L) (h1 : L ≤ H) (h2 : H ≤ cap) (w : World) :
    (Instr.sliceBounds true len cap lo hi none).run P w = .ok (L.toNat, H.toNat, cap) w := by
  have hH : ((H.toNat : Nat) : Int) = H := by omega
  rcases hlo with ⟨rfl, rfl⟩ | ⟨k, rfl⟩ <;> rcases hhi with ⟨rfl, rfl⟩ | ⟨k', rfl⟩
  · simp [Instr.sliceBounds]
  · simp [Instr.sliceBounds, run_sliceBound k' H cap _ (by omega) h2]
  · simp [Instr.sliceBounds, run_sliceBound k L len _ h0 h1]
  · simp [Instr.sliceBounds, run_sliceBound k' H cap _ (by omega) h2, run_sliceBound k L H.toNat _ h0 (by omega)]

theorem run_sliceBounds3 {lo : Option Value} {len cap : Nat} {L H M : Int} {k' k'' : IntKind} (hlo : lo = none ∧ L = 0 ∨ ∃ k, lo = some (.int k L)) (h0 : 0 ≤ L) (h1 : L ≤ H) (h2 : H ≤ M) (h3 : M ≤ cap) (w : World) :
    (Instr.sliceBounds true len cap lo (some (.int k' H)) (some (.int k'' M))).run P w = .ok (L.toNat, H.toNat, M.toNat) w := by
  have hH : ((H.toNat : Nat) : Int) = H := by omega
  rcases hlo with ⟨rfl, rfl⟩ | ⟨k, rfl⟩
  · simp [Instr.sliceBounds, run_sliceBound k'' M cap _ (by omega) h3, run_sliceBound k' H M.toNat _ (by omega) (by omega)]
  · simp [Instr.sliceBounds, run_sliceBound k'' M cap _ (by omega) h3, run_sliceBound k' H M.toNat _ (by omega) (by omega), run_sliceBound k L H.toNat _ h0 (by omega)]

/-- Where a slice of a slice begins. -/
def slAddr (A : Option Addr) (l m sz : Nat) : Option Addr := if m = l then A else A.map (·.add (l * sz))

/-- A slice of a slice, related. -/
theorem slice_rel {E : Env} {sz : Nat} {x y : AV} {n L H : Int} {M : Option Int} (hn : lenAV x = some n) (h : sliceAV sz x L H M = some y) {u : Value} (hr : Rel E x u) (hpos : 0 < sz) :
    ∃ A len c, u = .slice A len c ∧ n = len ∧ 0 ≤ L ∧ L ≤ H ∧ (M = none → H ≤ c ∧ Rel E y (.slice (slAddr A L.toNat c sz) (H.toNat - L.toNat) (c - L.toNat))) ∧
      (∀ m, M = some m → H ≤ m ∧ m ≤ c ∧ Rel E y (.slice (slAddr A L.toNat m.toNat sz) (H.toNat - L.toNat) (m.toNat - L.toNat))) := by
  cases x with
  | sl s es =>
    simp only [sliceAV] at h
    split at h
    · rename_i hc
      obtain ⟨rfl, h0, h1, h2⟩ := hc
      injection hn with hn
      have key : ∀ A c, Rel E (.sl s es) (.slice A es.length c) → es.length ≤ c → ∀ m : Nat, H ≤ m → m ≤ c → Rel E (.sl s ((es.drop L.toNat).take (H.toNat - L.toNat))) (.slice (slAddr A L.toNat m s) (H.toNat - L.toNat) (m - L.toNat)) := by
        intro A c hr hlc m hHm hmc
        have hlen : ((es.drop L.toNat).take (H.toNat - L.toNat)).length = H.toNat - L.toNat := by simp; omega
        by_cases he : H.toNat - L.toNat = 0
        · rw [he, List.take_zero]
          exact .sl0 _ _ _
        · generalize hu : Value.slice A es.length c = u at hr
          cases hr with
          | sl0 =>
            simp at h2; omega
          | sl _ _ k o c' u hl him hmx hlc' hcell hrel =>
            injection hu with hA _ hcc
            subst hA
            have hlt : ¬ (m = L.toNat) := by omega
            have := Rel.sl (E := E) s ((es.drop L.toNat).take (H.toNat - L.toNat)) k (o + L.toNat * s) (m - L.toNat) (fun i j => u (L.toNat + i) j)
              (fun e he => hl e (List.mem_of_mem_drop (List.mem_of_mem_take he))) him (by rw [hlen]; omega) (by rw [hlen]; omega)
              (fun i j hi hj => by
                rw [hlen] at hi
                have := hcell (L.toNat + i) j (by omega) hj
                rw [show o + L.toNat * s + (i * s + j) = o + ((L.toNat + i) * s + j) by rw [Nat.add_mul]; omega]
                exact this)
              (fun i j x hx => by
                refine hrel (L.toNat + i) j x ?_
                unfold cellAt at hx ⊢
                rw [List.getElem?_take] at hx
                split at hx
                · rw [List.getElem?_drop] at hx; exact hx
                · cases hx)
            rw [hlen] at this
            simp only [slAddr, if_neg hlt, Option.map_some, add_lit]
            exact this
      have hu : ∃ A c, u = .slice A es.length c ∧ es.length ≤ c := by
        cases hr with
        | sl0 _ A c => exact ⟨A, c, rfl, Nat.zero_le _⟩
        | sl _ _ k o c u _ _ _ hlc => exact ⟨_, _, rfl, hlc⟩
      obtain ⟨A, c, rfl, hlc⟩ := hu
      refine ⟨A, es.length, c, rfl, hn.symm, h0, h1, fun hM => ?_, fun m hM => ?_⟩
      · subst hM
        injection h with h
        subst h
        exact ⟨by omega, key A c hr hlc c (by omega) (Nat.le_refl _)⟩
      · subst hM
        simp only at h
        split at h
        · rename_i hm
          refine ⟨hm.1, by omega, ?_⟩
          split at h
          · rename_i hm0
            injection h with h
            subst h
            obtain rfl : m = 0 := hm0
            have e1 : L = 0 := by omega
            have e2 : H = 0 := by omega
            subst e1; subst e2
            exact .z0 _
          · injection h with h
            subst h
            exact key A c hr hlc m.toNat (by omega) (by omega)
        · cases h
    · cases h
  | row b s off len =>
    simp only [sliceAV] at h
    split at h
    · rename_i hc
      obtain ⟨rfl, h0, h1, h2⟩ := hc
      injection hn with hn
      cases hr with
      | rowz _ _ A hz =>
        have e2 : H = 0 := by simp at h2; omega
        have e1 : L = 0 := by omega
        subst e1; subst e2
        refine ⟨A, 0, 0, rfl, hn.symm, h0, h1, fun hM => ?_, fun m hM => ?_⟩
        · subst hM
          injection h with h
          subst h
          exact ⟨by simp, .rowz _ _ _ hz⟩
        · subst hM
          simp only at h
          split at h
          · rename_i hm
            injection h with h
            subst h
            exact ⟨hm.1, hm.2, .any _⟩
          · cases h
      | row _ _ _ _ k c A cur ty hk hA hb hcc hl hm =>
        refine ⟨A, len, c, rfl, hn.symm, h0, h1, fun hM => ?_, fun m hM => ?_⟩
        · subst hM
          injection h with h
          subst h
          refine ⟨by omega, .row b s (off + L.toNat) (H.toNat - L.toNat) k (c - L.toNat) _ cur ty hk (fun hne => ?_) hb (by rw [← hcc]; congr 1; omega) (by omega) (by omega)⟩
          obtain rfl := hA (by omega)
          simp only [slAddr, if_neg (show ¬ c = L.toNat by omega), Option.map_some, add_lit, Nat.add_mul]
        · subst hM
          simp only at h
          split at h
          · rename_i hm
            injection h with h
            subst h
            exact ⟨hm.1, by omega, .any _⟩
          · cases h
    · cases h
  | z0 =>
    simp only [sliceAV] at h
    split at h
    · rename_i hc
      obtain ⟨rfl, rfl, hM⟩ := hc
      injection h with h
      subst h
      injection hn with hn
      cases hr with
      | z0 A => exact ⟨A, 0, 0, rfl, hn.symm, Int.le_refl _, Int.le_refl _, fun _ => ⟨by simp, .z0 _⟩, fun m hm => by
          rcases hM with hM | hM
          · rw [hM] at hm; cases hm
          · rw [hM] at hm; injection hm with hm; subst hm; exact ⟨Int.le_refl _, by simp, .z0 _⟩⟩
    · cases h
  | v y =>
    have := rel_v hr
    subst this
    cases u with
    | slice A len c =>
      simp only [sliceAV] at h
      split at h
      · cases ‹AV.v (Value.slice A len c) = AV.sl _ _›
      · cases ‹AV.v (Value.slice A len c) = AV.row _ _ _ _›
      · cases ‹AV.v (Value.slice A len c) = AV.z0›
      · rename_i he
        injection he with he
        injection he with e1 e2 e3
        subst e1; subst e2; subst e3
        split at h
        · rename_i hc
          obtain ⟨rfl, rfl, hM⟩ := hc
          injection h with h
          subst h
          simp [lenAV] at hn
          exact ⟨none, 0, 0, rfl, by simp [hn], Int.le_refl _, Int.le_refl _, fun _ => ⟨by simp, by simp [slAddr]; exact .v _⟩, fun m hm => by
            rcases hM with hM | hM
            · rw [hM] at hm; cases hm
            · rw [hM] at hm; injection hm with hm; subst hm; exact ⟨Int.le_refl _, by simp, by simp [slAddr]; exact .v _⟩⟩
        · cases h
      · cases h
    | _ => simp [lenAV] at hn
  | _ => simp [lenAV] at hn

section
variable {X : Nat → Prop} {N : Nat} {io : Nat → Option (Option Nat)} {μ : Mu} {w : World} {a : Act} {g : Nat → AV} (hM : Mem X io μ w) (hg : ∀ t, Rel (envOf X io μ w) (g t) (a.tmps.getD t undef))
include hM hg

theorem ok_slice0 {o : Oper} (t e n b : Nat) (z : List Value) (x : Operand) (lo hi mx : Option Operand) (ho : o.op = .slice t x lo hi mx) (ht : telinfo P t = some (e, n, b, z))
    {r : AV} (h3 : sliceCO n (ev g x) (bnd g lo) (bnd g hi) (bnd g mx) = some r) : OpOK P X N io μ w a o r [] := by
  obtain ⟨hu, inf, hinf, hsz, _, _, hpos, _⟩ := telinfo_inv ht
  have hsize : tsz P e = some n := by simp [tsz, hinf, hsz]
  unfold sliceCO at h3
  split at h3
  · rename_i m l h' hm hL hH hMx
    obtain ⟨A, len, c, hv, hlen, h0, h1, hk, _⟩ := slice_rel hm h3 (ev_rel hg x) hpos
    obtain ⟨hHc, hrel⟩ := hk rfl
    refine OpOK.pure hM (v := _) ?_ hrel
    have hmx : mx = none := by
      rcases bnd_val hg hMx with ⟨h4, _⟩ | ⟨y, k, v, h4, h5, _⟩
      · exact h4
      · cases h5
    subst hmx
    have hlo : lo.map a.eval = none ∧ l.getD 0 = 0 ∨ ∃ k, lo.map a.eval = some (.int k (l.getD 0)) := by
      rcases bnd_val hg hL with ⟨rfl, rfl⟩ | ⟨y, k, v, rfl, rfl, hy⟩
      · exact .inl ⟨rfl, rfl⟩
      · exact .inr ⟨k, by simp [hy]⟩
    have hhi : hi.map a.eval = none ∧ h'.getD m = len ∨ ∃ k, hi.map a.eval = some (.int k (h'.getD m)) := by
      rcases bnd_val hg hH with ⟨rfl, rfl⟩ | ⟨y, k, v, rfl, rfl, hy⟩
      · exact .inl ⟨rfl, hlen⟩
      · exact .inr ⟨k, by simp [hy]⟩
    have hb := run_sliceBounds (P := P) hlo hhi h0 h1 hHc w
    simp [execOp, ho, Instr.sliceAt, run_underlying hu, Instr.slice, hv, hb, run_sizeOf hsize, slAddr]
  · rename_i m l h' mm hm hL hH hMx
    obtain ⟨A, len, c, hv, hlen, h0, h1, _, hk⟩ := slice_rel hm h3 (ev_rel hg x) hpos
    obtain ⟨hHM, hMc, hrel⟩ := hk mm rfl
    refine OpOK.pure hM (v := _) ?_ hrel
    have hlo : lo.map a.eval = none ∧ l.getD 0 = 0 ∨ ∃ k, lo.map a.eval = some (.int k (l.getD 0)) := by
      rcases bnd_val hg hL with ⟨rfl, rfl⟩ | ⟨y, k, v, rfl, rfl, hy⟩
      · exact .inl ⟨rfl, rfl⟩
      · exact .inr ⟨k, by simp [hy]⟩
    rcases bnd_val hg hH with ⟨_, h5⟩ | ⟨y, k', v, rfl, h5, hy⟩
    · cases h5
    · injection h5 with h5
      subst h5
      rcases bnd_val hg hMx with ⟨_, h6⟩ | ⟨y', k'', v', rfl, h6, hy'⟩
      · cases h6
      · injection h6 with h6
        subst h6
        have hb := run_sliceBounds3 (P := P) (len := len) (k' := k') (k'' := k'') hlo h0 h1 hHM hMc w
        simp [execOp, ho, Instr.sliceAt, run_underlying hu, Instr.slice, hv, hy, hy', hb, run_sizeOf hsize, slAddr]
  · cases h3

theorem ok_slice {o : Oper} (t e n b : Nat) (z : List Value) (x : Operand) (lo hi mx : Option Operand) (ho : o.op = .slice t x lo hi mx) (ht : telinfo P t = some (e, n, b, z))
    {r : AV} {wr : Wr} (h : evalCO g μ N (.slice n x lo hi mx) = some (r, wr)) : OpOK P X N io μ w a o r wr := by
  simp only [evalCO] at h
  split at h
  · rename_i y hy
    obtain ⟨h3, rfl⟩ := pureR_inv h
    injection h3 with h3
    subst h3
    exact ok_slice0 hM hg t e n b z x lo hi mx ho ht hy
  · split at h
    · rename_i y
      obtain ⟨h3, rfl⟩ := pureR_inv h
      obtain ⟨hu, inf, hinf, hsz, _, _, hpos, _⟩ := telinfo_inv ht
      have hsize : tsz P e = some n := by simp [tsz, hinf, hsz]
      unfold sliceX at h3
      split at h3
      · rename_i b' s off len' l H hx hL hH
        split at h3
        · rename_i k hk
          split at h3
          · rename_i hc
            obtain ⟨rfl, hks, hne, h0, h1, hroom⟩ := hc
            injection h3 with h3
            obtain ⟨hl, hmx, hb⟩ := hM.ok b' k hk
            rcases hb with ⟨_, h2⟩ | ⟨p, cur, p1, p2, p3, p4, p5⟩
            · rw [h2] at hne; simp at hne
            · have hr := hx ▸ ev_rel hg x
              generalize hv : a.eval x = v at hr
              cases hr with
              | rowz _ _ A hz => rw [p1] at hz; cases hz
              | row _ _ _ _ k' c A cur' ty hk' hA hcur hcc hlc hmc =>
                have e1 : k' = p := by have := hk'.symm.trans p1; simpa using this
                subst e1
                rw [p2] at hcur
                injection hcur with hcur
                injection hcur with hcur _ _
                subst hcur
                have hle : (roomB k) * s ≤ (off + c) * s := by
                  rw [hcc]
                  unfold roomB
                  cases hcap : k.cap with
                  | none => simp only; rw [← hks]; exact p3
                  | some c0 =>
                    simp only
                    have := p4 c0 hcap
                    rw [hks] at this p3
                    rcases Nat.le_total c0 k.es.length with h | h
                    · rw [Nat.max_eq_right h]; exact p3
                    · rw [Nat.max_eq_left h, this]; exact Nat.le_refl _
                have hrc : roomB k ≤ off + c := Nat.le_of_mul_le_mul_right hle hpos
                have hHc : H ≤ (c : Int) := by omega
                have hrow : Rel (envOf X io μ w) (.row b' s off H.toNat) (.slice A H.toNat c) := .row b' s off H.toNat k' c A cur k.ty hk' hA p2 hcc (by omega) hmc
                obtain ⟨A2, len2, c2, hv2, hlen2, _, _, hkk, _⟩ := slice_rel (E := envOf X io μ w) (sz := s) (x := .row b' s off H.toNat) (n := H.toNat) (L := l.getD 0) (H := H) (M := none) (y := r) rfl (by simp only [sliceAV]; rw [if_pos ⟨trivial, h0, h1, by omega⟩, ← h3]) hrow hpos
                injection hv2 with e1 e2 e3
                subst e1; subst e3
                obtain ⟨_, hrel⟩ := hkk rfl
                have hlo : lo.map a.eval = none ∧ l.getD 0 = 0 ∨ ∃ k, lo.map a.eval = some (.int k (l.getD 0)) := by
                  rcases bnd_val hg hL with ⟨rfl, rfl⟩ | ⟨y, k, v, rfl, rfl, hy⟩
                  · exact .inl ⟨rfl, rfl⟩
                  · exact .inr ⟨k, by simp [hy]⟩
                rcases bnd_val hg hH with ⟨h4, _⟩ | ⟨y', k2, v, h4, h5, hy⟩
                · cases h4
                · injection h4 with h4
                  injection h5 with h5
                  subst h4; subst h5
                  have hb := run_sliceBounds (P := P) (len := len') (cap := c) (hi := some (.int k2 H)) hlo (.inr ⟨k2, rfl⟩) h0 h1 hHc w
                  refine OpOK.pure hM (v := _) ?_ hrel
                  simp [execOp, ho, Instr.sliceAt, run_underlying hu, Instr.slice, hv, hy, hb, run_sizeOf hsize, slAddr]
          · cases h3
        · cases h3
      · cases h3
    · cases h

variable (hN : io N = none) (hμN : μ N = none)
include hN hμN

omit hg in
/-- A new block is laid. -/
theorem OpOK.alloc {o : Oper} {x : AV} {v : Value} (blk : Blk) (cur : Array Value)
    (hl : ∀ e ∈ blk.es, e.length = blk.sz) (hn : blk.es.length ≤ maxLen) (hs : blk.es.length * blk.sz ≤ cur.size) (hc : ∀ c, blk.cap = some c → cur.size = c * blk.sz) (hr : Holds (envOf X io μ w) cur blk.sz blk.es)
    (hrun : (execOp a.eval o).run P w = .ok (.value v) (w.alloc (.cells cur blk.ty)))
    (hx : ∀ E : Env, E.io N = some (some w.heap.size) → E.w.heap[w.heap.size]? = some (.cells cur blk.ty (0, 0)) → Rel E x v) : OpOK P X N io μ w a o x [(N, some blk)] :=
  ⟨_, v, _, _, hrun, .inl rfl, step_alloc hM hN hμN blk cur hl hn hs hc hr, hx _ (upd_same _ _ _) (heap_alloc_new w _)⟩

omit hM hg hN hμN in
theorem holds_one {E : Env} {cs : List AV} {us : List Value} (h : Rels E cs us) (h1 : ∀ u ∈ us, u.oneCell' = true) : Holds E us.toArray cs.length [cs] := fun i j x hx => by
  unfold cellAt at hx
  cases i with
  | zero =>
    simp only [List.getElem?_cons_zero, Option.bind_some] at hx
    have hj : j < us.length := by rw [← h.1]; exact (List.getElem?_eq_some_iff.1 hx).1
    exact ⟨us[j], by simp [hj], h1 _ (List.getElem_mem _), h.2 j x _ hx (List.getElem?_eq_getElem hj)⟩
  | succ i => simp at hx

theorem ok_alloc {o : Oper} (e : Nat) (z : List Value) (ho : o.op = .alloc e) (hz : tzero P e = some z) {r : AV} {wr : Wr} (h : evalCO g μ N (.alloc e z) = some (r, wr)) : OpOK P X N io μ w a o r wr := by
  have _ := hg
  simp only [evalCO, Option.some.injEq, Prod.mk.injEq] at h
  obtain ⟨rfl, rfl⟩ := h
  obtain ⟨i, zv, hi, hzv, hzc, hone⟩ := tzero_inv hz
  have hh := holds_one (consts_rel (E := envOf X io μ w) z) hone
  simp only [List.length_map] at hh
  refine OpOK.alloc hM hN hμN ⟨true, e, z.length, [z.map .v], some 1⟩ z.toArray (fun e he => by simp at he; subst he; simp) (by simp [maxLen]) (by simp) (fun c hc => by injection hc with hc; subst hc; simp) hh
    (v := .pointer (some ⟨w.heap.size, 0, none⟩)) ?_ (fun E hE _ => ?_)
  · simp [execOp, ho, Instr.alloc, zeroValue, typeInfo, hi, hzv, newVar, newRow, hzc]
  · have := Rel.pt (E := E) N z.length 0 0 w.heap.size hE
    simpa using this

theorem ok_box {o : Oper} (e n : Nat) (x : Operand) (ho : o.op = .box e x) {r : AV} {wr : Wr} (h : evalCO g μ N (.box e n x) = some (r, wr)) : OpOK P X N io μ w a o r wr := by
  simp only [evalCO] at h
  split at h
  · rename_i cs hcs
    split at h
    · rename_i hn
      subst hn
      simp only [Option.some.injEq, Prod.mk.injEq] at h
      obtain ⟨rfl, rfl⟩ := h
      obtain ⟨us, hu, hrel, hone⟩ := cells_rel hcs (ev_rel hg x)
      refine OpOK.alloc hM hN hμN ⟨true, e, cs.length, [cs], some 1⟩ us.toArray (fun e he => by simp at he; subst he; simp) (by simp [maxLen]) (by simp [hrel.1]) (fun c hc => by injection hc with hc; subst hc; simp [hrel.1]) (holds_one hrel hone)
        (v := .pointer (some ⟨w.heap.size, 0, none⟩)) ?_ (fun E hE _ => ?_)
      · simp [execOp, ho, Instr.box, newVar, newRow, hu]
      · have := Rel.pt (E := E) N cs.length 0 0 w.heap.size hE
        simpa using this
    · cases h
  · cases h

end

end Go.Proofs.Ytneoeegpceompaa.AM

/-
The abstract machine, part 9: stores, literals, append, copy.
-/
namespace Go.Proofs.Ytneoeegpceompaa.AM
open Go

variable {P : Program}

/-- Zero cells. -/
def zeroCs (z : Array Value) (n : Nat) : Array Value := (Array.range n).map (z[· % z.size]!)

theorem upd_upd {α : Type} (f : Nat → α) (k : Nat) (x y : α) : upd (upd f k x) k y = upd f k y := by
  funext j; simp only [upd]; split <;> rfl

theorem get_spliceV (l us : List Value) (off p : Nat) (h : off + us.length ≤ l.length) : (spliceV l off us)[p]? = if p < off then l[p]? else if p < off + us.length then us[p - off]? else l[p]? := by
  unfold spliceV
  rw [List.getElem?_append]
  have h1 : (l.take off).length = off := by simp; omega
  rw [h1]
  split
  · rename_i hp; rw [List.getElem?_take, if_pos hp]
  · rename_i hp
    rw [List.getElem?_append]
    by_cases hq : p < off + us.length
    · rw [if_pos hq, if_pos (by omega)]
    · rw [if_neg hq, if_neg (by omega), List.getElem?_drop]
      congr 1; omega

theorem get_splice (l us : List AV) (off p : Nat) (h : off + us.length ≤ l.length) : (splice l off us)[p]? = if p < off then l[p]? else if p < off + us.length then us[p - off]? else l[p]? := by
  unfold splice
  rw [List.getElem?_append]
  have h1 : (l.take off).length = off := by simp; omega
  rw [h1]
  split
  · rename_i hp; rw [List.getElem?_take, if_pos hp]
  · rename_i hp
    rw [List.getElem?_append]
    by_cases hq : p < off + us.length
    · rw [if_pos hq, if_pos (by omega)]
    · rw [if_neg hq, if_neg (by omega), List.getElem?_drop]
      congr 1; omega

theorem splice_length {l xs : List AV} {off : Nat} (h : off + xs.length ≤ l.length) : (splice l off xs).length = l.length := by simp [splice]; omega

theorem row_lt {i i' sz j : Nat} (h : i' < i) (hj : j < sz) : i' * sz + j < i * sz := by
  have := Nat.mul_le_mul_right sz (show i' + 1 ≤ i from h)
  rw [Nat.add_mul] at this
  omega

/-- Cells of one element are written. -/
theorem holds_write {E : Env} {cur : List Value} {sz : Nat} {es : List (List AV)} {i o : Nat} {r cs : List AV} {us : List Value} (hl : ∀ e ∈ es, e.length = sz) (hs : es.length * sz ≤ cur.length) (hH : Holds E cur.toArray sz es) (hi : es[i]? = some r)
    (ho : o + cs.length ≤ r.length) (hrel : Rels E cs us) (hone : ∀ u ∈ us, u.oneCell' = true) : Holds E (spliceV cur (i * sz + o) us).toArray sz (es.set i (splice r o cs)) := by
  have hi' : i < es.length := (List.getElem?_eq_some_iff.1 hi).1
  have hr : r.length = sz := hl r (List.mem_of_getElem? hi)
  have hfit : i * sz + o + us.length ≤ cur.length := by
    have := Nat.mul_le_mul_right sz (show i + 1 ≤ es.length from hi')
    rw [Nat.add_mul] at this
    rw [← hrel.1]; omega
  intro i' j x hx
  unfold cellAt at hx
  rw [List.getElem?_set] at hx
  simp only [List.getElem?_toArray]
  rw [get_spliceV cur us (i * sz + o) _ hfit]
  by_cases e : i = i'
  · subst e
    rw [if_pos rfl, if_pos hi'] at hx
    simp only [Option.bind_some] at hx
    rw [get_splice r cs o j ho] at hx
    by_cases h1 : j < o
    · rw [if_pos h1] at hx
      rw [if_pos (by omega)]
      obtain ⟨u, hu, h3, h4⟩ := hH i j x (by simp [cellAt, hi, hx])
      exact ⟨u, by simpa using hu, h3, h4⟩
    · rw [if_neg h1] at hx
      rw [if_neg (by omega)]
      by_cases h2 : j < o + cs.length
      · rw [if_pos h2] at hx
        rw [if_pos (by rw [← hrel.1]; omega)]
        have hj : j - o < us.length := by rw [← hrel.1]; omega
        rw [show i * sz + j - (i * sz + o) = j - o by omega]
        exact ⟨us[j - o], List.getElem?_eq_getElem hj, hone _ (List.getElem_mem _), hrel.2 _ _ _ hx (List.getElem?_eq_getElem hj)⟩
      · rw [if_neg h2] at hx
        rw [if_neg (by rw [← hrel.1]; omega)]
        obtain ⟨u, hu, h3, h4⟩ := hH i j x (by simp [cellAt, hi, hx])
        exact ⟨u, by simpa using hu, h3, h4⟩
  · rw [if_neg e] at hx
    have hx' : cellAt es i' j = some x := hx
    obtain ⟨u, hu, h3, h4⟩ := hH i' j x hx'
    have hj : j < sz := by
      unfold cellAt at hx'
      cases hq : es[i']? with
      | none => rw [hq] at hx'; cases hx'
      | some e =>
        rw [hq] at hx'
        have h5 := hl e (List.mem_of_getElem? hq)
        have := (List.getElem?_eq_some_iff.1 (show e[j]? = some x from hx')).1
        omega
    have : (if i' * sz + j < i * sz + o then cur[i' * sz + j]? else if i' * sz + j < i * sz + o + us.length then us[i' * sz + j - (i * sz + o)]? else cur[i' * sz + j]?) = cur[i' * sz + j]? := by
      rcases Nat.lt_or_ge i' i with h | h
      · rw [if_pos (by have := row_lt h hj; omega)]
      · have hlt : i < i' := by omega
        have := Nat.mul_le_mul_right sz (show i + 1 ≤ i' from hlt)
        rw [Nat.add_mul] at this
        rw [if_neg (by omega), if_neg (by rw [← hrel.1]; omega)]
    rw [this]
    exact ⟨u, by simpa using hu, h3, h4⟩

theorem set_len {es : List (List AV)} {sz i o : Nat} {r cs : List AV} (hl : ∀ e ∈ es, e.length = sz) (hi : es[i]? = some r) (ho : o + cs.length ≤ r.length) : ∀ e ∈ es.set i (splice r o cs), e.length = sz := fun e he => by
  rcases List.mem_or_eq_of_mem_set he with h | h
  · exact hl e h
  · rw [h, splice_length ho]; exact hl r (List.mem_of_getElem? hi)

section
variable {X : Nat → Prop} {N : Nat} {io : Nat → Option (Option Nat)} {μ : Mu} {w : World} {a : Act} {g : Nat → AV} (hM : Mem X io μ w) (hg : ∀ t, Rel (envOf X io μ w) (g t) (a.tmps.getD t undef))
include hM hg

theorem ok_store {o : Oper} (t n : Nat) (x y : Operand) (ho : o.op = .store t x y) (hn : tsz P t = some n) {r : AV} {wr : Wr} (h : evalCO g μ N (.store n x y) = some (r, wr)) : OpOK P X N io μ w a o r wr := by
  simp only [evalCO] at h
  have hxr := ev_rel hg x
  have hyr := ev_rel hg y
  generalize ev g x = p at h hxr
  cases p with
  | pt b sz i off =>
    simp only [storeAV] at h
    split at h
    · rename_i blk cs hb hcs
      split at h
      · rename_i row hrow
        split at h
        · rename_i hc
          obtain ⟨hmu, hsz, hcl, hfit⟩ := hc
          subst hsz; subst hcl
          simp only [Option.some.injEq, Prod.mk.injEq] at h
          obtain ⟨rfl, rfl⟩ := h
          obtain ⟨us, huc, hrel, hone⟩ := cells_rel hcs hyr
          obtain ⟨hl, hmx, hk⟩ := hM.ok b blk hb
          generalize hxv : a.eval x = u at hxr
          cases hxr with
          | pt _ _ _ _ k hio =>
            rcases hk with ⟨h1, h2⟩ | ⟨q, cur, h1, h2, h3, h4, h5⟩
            · rw [h2] at hrow; cases hrow
            · have e1 : k = q := by have := hio.symm.trans h1; simpa using this
              subst e1
              have hi' : i < blk.es.length := (List.getElem?_eq_some_iff.1 hrow).1
              have hrl : row.length = blk.sz := hl row (List.mem_of_getElem? hrow)
              have hfit2 : i * blk.sz + off + us.length ≤ cur.size := by
                have := Nat.mul_le_mul_right blk.sz (show i + 1 ≤ blk.es.length from hi')
                rw [Nat.add_mul] at this
                rw [← hrel.1]; omega
              have hst := run_storeCells_at P k (i * blk.sz + off) blk.ty us 0 cur w h2 (by simpa using hfit2) hone
              have hnew : (cur.toList.take (i * blk.sz + off + 0) ++ us ++ cur.toList.drop (i * blk.sz + off + 0 + us.length)).toArray = (spliceV cur.toList (i * blk.sz + off) us).toArray := by simp [spliceV]
              rw [hnew] at hst
              have hstep := step_write (N := N) hM hb hmu hio h2 { blk with es := blk.es.set i (splice row off cs) } (spliceV cur.toList (i * blk.sz + off) us).toArray rfl
                (by simp only [List.size_toArray]; rw [spliceV_length (by simpa using hfit2)]; simp) (set_len hl hrow hfit) (by simpa using hmx) (by simp only [List.length_set, List.size_toArray]; rw [spliceV_length (by simpa using hfit2)]; simpa using h3)
                (fun c hc => by simp only [List.size_toArray]; rw [spliceV_length (by simpa using hfit2)]; simpa using h4 c hc)
                (holds_write hl (by simpa using h3) (fun i j x hx => by simpa using h5 i j x hx) hrow hfit hrel hone)
              refine ⟨_, undef, _, io, ?_, .inr ⟨rfl, rfl⟩, hstep, .any _⟩
              have hcz : (a.eval y).cells.size = cs.length := by rw [huc]; simp [hrel.1]
              simp [execOp, ho, hxv, Instr.storeAt, Instr.sureAddr, storeVar, run_sizeOf hn, huc, hrel.1, hst]
        · cases h
      · cases h
    · cases h
  | _ => simp [storeAV] at h

variable (hN : io N = none) (hμN : μ N = none)
include hN hμN

omit hM hg hN hμN in
theorem fillRows_ok {E : Env} (hg : ∀ t, Rel E (g t) (a.tmps.getD t undef)) (sz : Nat) : ∀ (parts : List (Nat × Operand)) (rows res : List (List AV)) (cur : List Value),
    fillRows g sz rows parts = some res → (∀ e ∈ rows, e.length = sz) → cur.length = rows.length * sz → Holds E cur.toArray sz rows →
    ∃ cur' : List Value, Instr.fill (fun i => some (i * sz, sz)) cur.toArray (parts.map fun (i, x) => (i, a.eval x)) = some cur'.toArray ∧ (∀ e ∈ res, e.length = sz) ∧ res.length = rows.length ∧ cur'.length = res.length * sz ∧ Holds E cur'.toArray sz res := by
  intro parts
  induction parts with
  | nil =>
    intro rows res cur hf hl hlen hH
    simp only [fillRows, Option.some.injEq] at hf
    subst hf
    exact ⟨cur, rfl, hl, rfl, hlen, hH⟩
  | cons p parts ih =>
    intro rows res cur hf hl hlen hH
    obtain ⟨i, x⟩ := p
    simp only [fillRows] at hf
    split at hf
    · rename_i cs hcs
      split at hf
      · rename_i hc
        obtain ⟨hn, hi⟩ := hc
        obtain ⟨us, huc, hrel, hone⟩ := cells_rel hcs (ev_rel hg x)
        have hul : us.length = sz := by rw [← hrel.1]; exact hn
        have hrow : rows[i]? = some rows[i] := List.getElem?_eq_getElem hi
        have hrl : rows[i].length = sz := hl _ (List.getElem_mem _)
        have hsp : splice rows[i] 0 cs = cs := by
          unfold AM.splice
          rw [List.take_zero, List.nil_append, List.drop_of_length_le (by omega), List.append_nil]
        have hfit : i * sz + us.length ≤ cur.length := by
          have := Nat.mul_le_mul_right sz (show i + 1 ≤ rows.length from hi)
          rw [Nat.add_mul] at this
          omega
        have hw := holds_write (o := 0) hl (by omega) hH hrow (by omega) hrel hone
        rw [hsp, Nat.add_zero] at hw
        have hsl := set_len (o := 0) hl hrow (cs := cs) (by omega)
        rw [hsp] at hsl
        obtain ⟨cur', h1, h2, h3, h4, h5⟩ := ih (rows.set i cs) res (spliceV cur (i * sz) us) hf hsl (by rw [spliceV_length hfit]; simpa using hlen) hw
        refine ⟨cur', ?_, h2, by simpa using h3, h4, h5⟩
        simp only [List.map_cons, Instr.fill, huc]
        have hcond : ¬ (us.length ≠ sz ∨ i * sz + us.length > cur.length) := by omega
        simp only [List.size_toArray]
        rw [if_neg (by simpa using hcond), fold_set' us (i * sz) cur hfit]
        exact h1
      · cases hf
    · cases hf

omit hM hg hN hμN in
theorem holds_zeros {E : Env} (z : List Value) (hone : ∀ u ∈ z, u.oneCell' = true) (n m : Nat) (hm : n * z.length ≤ m) : Holds E (zeroCs z.toArray m) z.length (List.replicate n (z.map .v)) := fun i j x hx => by
  unfold cellAt at hx
  rw [List.getElem?_replicate] at hx
  split at hx
  · rename_i hi
    simp only [Option.bind_some, List.getElem?_map] at hx
    obtain ⟨u, hu, rfl⟩ := Option.map_eq_some_iff.1 hx
    have hj : j < z.length := (List.getElem?_eq_some_iff.1 hu).1
    have hlt : i * z.length + j < m := by have := row_lt hi hj; omega
    refine ⟨u, ?_, hone u (List.mem_of_getElem? hu), .v u⟩
    have hmod : (i * z.length + j) % z.length = j := by rw [Nat.add_comm, Nat.add_mul_mod_self_right, Nat.mod_eq_of_lt hj]
    simp [zeroCs, hlt, hmod]
    simp [List.getElem?_eq_getElem hj] at hu
    simp [hj, hu]
  · cases hx

theorem ok_bslice {o : Oper} (t e n b len : Nat) (z : List Value) (ps : Array (Nat × Operand)) (ho : o.op = .buildSlice t len ps) (ht : telinfo P t = some (e, n, b, z)) (hle : len * n ≤ 2 ^ 24)
    {r : AV} {wr : Wr} (h : evalCO g μ N (.bslice e n len z ps.toList) = some (r, wr)) : OpOK P X N io μ w a o r wr := by
  obtain ⟨hu, inf, hinf, hsz, _, ⟨zv, hzv, hzc⟩, hpos, _, hzl, hone⟩ := telinfo_inv ht
  have hsize : tsz P e = some n := by simp [tsz, hinf, hsz]
  simp only [evalCO] at h
  split at h
  · rename_i rows hrows
    simp only [Option.some.injEq, Prod.mk.injEq] at h
    obtain ⟨rfl, rfl⟩ := h
    subst hzl
    have hz0 := holds_zeros (E := envOf X io μ w) z hone len (len * z.length) (Nat.le_refl _)
    obtain ⟨cur', h1, h2, h3, h4, h5⟩ := fillRows_ok hg z.length ps.toList (List.replicate len (z.map .v)) rows (zeroCs z.toArray (len * z.length)).toList hrows (fun e he => by rw [List.eq_of_mem_replicate he]; simp) (by simp [zeroCs]) (by simpa using hz0)
    simp only [List.length_replicate] at h3
    have hmax : rows.length ≤ maxLen := by
      rw [h3]
      have h9 : len ≤ len * z.length := Nat.le_mul_of_pos_right len hpos
      have : len ≤ 2 ^ 24 := Nat.le_trans h9 hle
      unfold maxLen; omega
    refine OpOK.alloc hM hN hμN ⟨true, e, z.length, rows, some len⟩ cur'.toArray h2 hmax (by simp [h4]) (fun c hc => by injection hc with hc; subst hc; simp [h4, h3]) h5
      (v := .slice (some ⟨w.heap.size, 0, none⟩) len len) ?_ (fun E hE hb => ?_)
    · have hzrun : ∀ w, (zeroValue e).run P w = .ok zv w := fun w => by simp [zeroValue, typeInfo, hinf, hzv]
      have hfill : Instr.fill (fun i => some (i * z.length, z.length)) (zeroCs z.toArray (len * z.length)) (ps.toList.map fun x => (x.fst, a.eval x.snd)) = some cur'.toArray := by simpa using h1
      by_cases hl0 : len * z.length = 0
      · rw [hl0] at hfill
        have hm0 : zeroCs z.toArray 0 = #[] := by simp [zeroCs]
        rw [hm0] at hfill
        have hr0 : ∀ f : Nat → Value, (Array.range 0).map f = #[] := fun f => by simp
        simp [execOp, ho, Instr.buildSlice, run_underlying hu, run_sizeOf hsize, hl0, hr0, hfill, newRow]
      · have hnot : ¬ (16777216 < len * z.length) := by omega
        have e1 : (fun x => z.toArray[x % z.toArray.size]!) = fun x => z[x % z.length]?.getD default := by funext x; simp
        unfold zeroCs at hfill
        rw [e1] at hfill
        simp only [execOp, ho, Instr.buildSlice, Sem.run_bind, run_underlying hu, Result.andThen_ok, run_sizeOf hsize]
        simp [hl0, hnot, hzrun, hzc, hfill, newRow]
    · have := Rel.row (E := E) N z.length 0 len w.heap.size len (some ⟨w.heap.size, 0, none⟩) cur'.toArray e hE (fun _ => by simp) hb (by simp [h4, h3]) (Nat.le_refl _) (by rw [Nat.zero_add]; rw [h3] at hmax; exact hmax)
      simpa using this
  · cases h
end

end Go.Proofs.Ytneoeegpceompaa.AM

/-
The abstract machine, part 10: append.
-/
namespace Go.Proofs.Ytneoeegpceompaa.AM
open Go

variable {P : Program}

/-- The cells behind a slice value. -/
theorem rows_rel {X : Nat → Prop} {io : Nat → Option (Option Nat)} {μ : Mu} {w : World} (hM : Mem X io μ w) {sz : Nat} {x : AV} {xs : List (List AV)} (h : rowsAV μ sz x = some xs) {u : Value} (hr : Rel (envOf X io μ w) x u) :
    ∃ (A : Option Addr) (c : Nat) (us : List Value), u = .slice A xs.length c ∧ us.length = xs.length * sz ∧ (A = none → xs = []) ∧ (∀ a, A = some a → ∀ j v, us[j]? = some v → w.cell? (a.add j) = some v) ∧ (∀ v ∈ us, v.oneCell' = true) ∧
      (∀ e ∈ xs, e.length = sz) ∧ xs.length ≤ c ∧ Holds (envOf X io μ w) us.toArray sz xs := by
  have nilc : ∀ (A : Option Addr) (c : Nat), xs = [] → u = .slice A 0 c → ∃ (A : Option Addr) (c : Nat) (us : List Value), u = .slice A xs.length c ∧ us.length = xs.length * sz ∧ (A = none → xs = []) ∧ (∀ a, A = some a → ∀ j v, us[j]? = some v → w.cell? (a.add j) = some v) ∧ (∀ v ∈ us, v.oneCell' = true) ∧
      (∀ e ∈ xs, e.length = sz) ∧ xs.length ≤ c ∧ Holds (envOf X io μ w) us.toArray sz xs := fun A c hx hu => by
    subst hx
    exact ⟨A, c, [], hu, by simp, fun _ => rfl, (fun a _ j v hv => by simp at hv), (fun v hv => by cases hv), (fun e he => by cases he), Nat.zero_le _, fun i j x hx => by simp [cellAt] at hx⟩
  cases x with
  | sl s es =>
    simp only [rowsAV] at h
    split at h
    · rename_i hs
      subst hs
      injection h with h
      subst h
      cases hr with
      | sl0 _ A c => exact nilc A c rfl rfl
      | sl _ _ k o c f hl him hn hlc hc hrel =>
        by_cases hs0 : s = 0
        · subst hs0
          refine ⟨_, c, [], rfl, by simp, (fun h => by cases h), (fun a _ j v hv => by simp at hv), (fun v hv => by cases hv), hl, hlc, fun i j x hx => ?_⟩
          unfold cellAt at hx
          cases hq : es[i]? with
          | none => rw [hq] at hx; cases hx
          | some e =>
            rw [hq] at hx
            have h5 := hl e (List.mem_of_getElem? hq)
            have := (List.getElem?_eq_some_iff.1 (show e[j]? = some x from hx)).1
            omega
        · have hpos : 0 < s := by omega
          have idx : ∀ p, p < es.length * s → p / s < es.length ∧ p % s < s ∧ p / s * s + p % s = p := fun p hp =>
            ⟨Nat.div_lt_of_lt_mul (by rw [Nat.mul_comm]; exact hp), Nat.mod_lt _ hpos, by rw [Nat.mul_comm]; exact Nat.div_add_mod p s⟩
          refine ⟨_, c, (List.range (es.length * s)).map fun p => f (p / s) (p % s), rfl, by simp, (fun h => by cases h), fun a ha j v hv => ?_, fun v hv => ?_, hl, hlc, fun i j x hx => ?_⟩
          · injection ha with ha
            subst ha
            have hj : j < es.length * s := by have := (List.getElem?_eq_some_iff.1 hv).1; simpa using this
            rw [List.getElem?_map, List.getElem?_range hj] at hv
            have hv' : v = f (j / s) (j % s) := (Option.some.inj hv).symm
            subst hv'
            obtain ⟨h1, h2, h3⟩ := idx j hj
            have := (hc (j / s) (j % s) h1 h2).1
            rw [h3] at this
            rw [add_lit]; exact this
          · obtain ⟨p, hp, rfl⟩ := List.mem_map.1 hv
            obtain ⟨h1, h2, h3⟩ := idx p (List.mem_range.1 hp)
            exact (hc _ _ h1 h2).2
          · have hx' := hx
            unfold cellAt at hx
            cases hq : es[i]? with
            | none => rw [hq] at hx; cases hx
            | some e =>
              rw [hq] at hx
              have h5 := hl e (List.mem_of_getElem? hq)
              have hj : j < s := by have := (List.getElem?_eq_some_iff.1 (show e[j]? = some x from hx)).1; omega
              have hi : i < es.length := (List.getElem?_eq_some_iff.1 hq).1
              have hlt : i * s + j < es.length * s := row_lt hi hj
              have hd : (i * s + j) / s = i := by rw [Nat.add_comm, Nat.add_mul_div_right _ _ hpos, Nat.div_eq_of_lt hj, Nat.zero_add]
              have hm : (i * s + j) % s = j := by rw [Nat.add_comm, Nat.add_mul_mod_self_right, Nat.mod_eq_of_lt hj]
              refine ⟨f i j, ?_, (hc i j hi hj).2, hrel i j x hx'⟩
              simp only [List.getElem?_toArray]
              rw [List.getElem?_map, List.getElem?_range hlt]
              simp [hd, hm]
    · cases h
  | z0 =>
    injection h with h
    cases hr with
    | z0 A => exact nilc A 0 h.symm rfl
  | v y =>
    have := rel_v hr
    subst this
    unfold rowsAV at h
    split at h
    · cases ‹AV.v u = AV.sl _ _›
    · cases ‹AV.v u = AV.z0›
    · rename_i he
      injection he with he
      injection h with h
      exact nilc _ _ h.symm he
    · cases ‹AV.v u = AV.row _ _ _ _›
    · cases h
  | row b s off len =>
    simp only [rowsAV] at h
    split at h
    · rename_i blk hb
      split at h
      · rename_i hcnd
        obtain ⟨hs, hks, hle⟩ := hcnd
        subst hs
        injection h with h
        obtain ⟨hl, hmx, hk⟩ := hM.ok b blk hb
        have hxl : xs.length = len := by rw [← h]; simp; omega
        cases hr with
        | rowz _ _ A hz => exact nilc A 0 (List.eq_nil_of_length_eq_zero hxl) rfl
        | row _ _ _ _ k c A cur ty hio hA hcur hc hlc hmc =>
          rcases hk with ⟨h1, h2⟩ | ⟨q, cur2, h1, h2, h3, _, h5⟩
          · rw [hio] at h1; cases h1
          · have e1 : k = q := by have := hio.symm.trans h1; simpa using this
            subst e1
            rw [h2] at hcur
            injection hcur with hcur
            injection hcur with hcur _ _
            subst hcur
            by_cases hl0 : len = 0
            · subst hl0; exact nilc A c (List.eq_nil_of_length_eq_zero hxl) rfl
            · obtain rfl := hA (by omega)
              have hfit : (off + len) * s ≤ cur2.size := by rw [← hc]; exact Nat.mul_le_mul_right _ (by omega)
              have hul : ((cur2.toList.drop (off * s)).take (len * s)).length = len * s := by simp; rw [Nat.add_mul] at hfit; omega
              refine ⟨_, c, (cur2.toList.drop (off * s)).take (len * s), by rw [hxl], by rw [hul, hxl], (fun h => by cases h), fun a ha j v hv => ?_, fun v hv => ?_, fun e he => ?_, by rw [hxl]; exact hlc, fun i j x hx => ?_⟩
              · injection ha with ha
                subst ha
                rw [List.getElem?_take] at hv
                split at hv
                · rw [List.getElem?_drop] at hv
                  rw [add_lit, cell_of_row w k _ cur2 blk.ty (0, 0) h2]
                  simpa using hv
                · cases hv
              · obtain ⟨p, hp, hpe⟩ := List.getElem_of_mem hv
                have hpl : p < len * s := by rw [hul] at hp; exact hp
                have hs0 : 0 < s := by
                  rcases Nat.eq_zero_or_pos s with h | h
                  · subst h; simp at hpl
                  · exact h
                have hi : p / s < len := Nat.div_lt_of_lt_mul (by rw [Nat.mul_comm]; exact hpl)
                have hj : p % s < s := Nat.mod_lt _ hs0
                have hlt : off + p / s < blk.es.length := by omega
                have hel : (blk.es[off + p / s]).length = s := by rw [hl _ (List.getElem_mem hlt)]; exact hks
                obtain ⟨u, hu, hu1, _⟩ := h5 (off + p / s) (p % s) ((blk.es[off + p / s])[p % s]'(by rw [hel]; exact hj)) (by simp [cellAt, hlt, hel, hj])
                have e2 : (off + p / s) * blk.sz + p % s = off * s + p := by
                  rw [hks, Nat.add_mul, Nat.add_assoc, Nat.mul_comm (p / s) s, Nat.div_add_mod]
                rw [e2] at hu
                have e3 : cur2.toList[off * s + p]? = some v := by
                  have : ((cur2.toList.drop (off * s)).take (len * s))[p]? = some v := by rw [List.getElem?_eq_getElem hp, hpe]
                  rw [List.getElem?_take, if_pos hpl, List.getElem?_drop] at this
                  exact this
                have : u = v := by
                  have e4 : cur2[off * s + p]? = some v := by simpa using e3
                  rw [e4] at hu; injection hu with hu; exact hu.symm
                subst this
                exact hu1
              · rw [← h] at he
                rw [hl e (List.mem_of_mem_drop (List.mem_of_mem_take he))]; exact hks
              · rw [← h] at hx
                have hx2 : i < len ∧ cellAt blk.es (off + i) j = some x := by
                  unfold cellAt at hx ⊢
                  rw [List.getElem?_take] at hx
                  split at hx
                  · rename_i hi; rw [List.getElem?_drop] at hx; exact ⟨hi, hx⟩
                  · cases hx
                obtain ⟨u, hu, hu1, hur⟩ := h5 (off + i) j x hx2.2
                have hj : j < s := by
                  have hx3 := hx2.2
                  unfold cellAt at hx3
                  cases hq : blk.es[off + i]? with
                  | none => rw [hq] at hx3; cases hx3
                  | some e =>
                    rw [hq] at hx3
                    have h6 := hl e (List.mem_of_getElem? hq)
                    have := (List.getElem?_eq_some_iff.1 (show e[j]? = some x from hx3)).1
                    omega
                refine ⟨u, ?_, hu1, hur⟩
                simp only [List.getElem?_toArray]
                rw [List.getElem?_take, if_pos (row_lt hx2.1 hj), List.getElem?_drop]
                rw [show off * s + (i * s + j) = (off + i) * blk.sz + j by rw [hks, Nat.add_mul, Nat.add_assoc]]
                simpa using hu
      · cases h
    · cases h
  | _ => simp [rowsAV] at h

/-- .. as far as they are known. -/
theorem srcs_rel {X : Nat → Prop} {io : Nat → Option (Option Nat)} {μ : Mu} {w : World} (hM : Mem X io μ w) {sz : Nat} {x : AV} {xs : List (List AV)} {m : Nat} (h : srcAV μ sz x = some (xs, m)) {u : Value} (hr : Rel (envOf X io μ w) x u) :
    ∃ (A : Option Addr) (c : Nat) (us : List Value), u = .slice A m c ∧ us.length = xs.length * sz ∧ (A = none → xs = []) ∧ (∀ a, A = some a → ∀ j v, us[j]? = some v → w.cell? (a.add j) = some v) ∧ (∀ v ∈ us, v.oneCell' = true) ∧
      (∀ e ∈ xs, e.length = sz) ∧ xs.length ≤ m ∧ Holds (envOf X io μ w) us.toArray sz xs := by
  have nilc : ∀ (A : Option Addr) (c : Nat), xs = [] → u = .slice A m c → ∃ (A : Option Addr) (c : Nat) (us : List Value), u = .slice A m c ∧ us.length = xs.length * sz ∧ (A = none → xs = []) ∧ (∀ a, A = some a → ∀ j v, us[j]? = some v → w.cell? (a.add j) = some v) ∧ (∀ v ∈ us, v.oneCell' = true) ∧
      (∀ e ∈ xs, e.length = sz) ∧ xs.length ≤ m ∧ Holds (envOf X io μ w) us.toArray sz xs := fun A c hx hu => by
    subst hx
    exact ⟨A, c, [], hu, by simp, fun _ => rfl, (fun a _ j v hv => by simp at hv), (fun v hv => by cases hv), (fun e he => by cases he), Nat.zero_le _, fun i j x hx => by simp [cellAt] at hx⟩
  by_cases hx : ∃ b s off len, x = .row b s off len
  · obtain ⟨b, s, off, len, rfl⟩ := hx
    simp only [srcAV] at h
    split at h
    · rename_i k hk
      split at h
      · rename_i hc
        obtain ⟨rfl, hks⟩ := hc
        simp only [Option.some.injEq, Prod.mk.injEq] at h
        obtain ⟨hxs, rfl⟩ := h
        cases hr with
        | rowz _ _ A hz => exact nilc A 0 (by rw [← hxs]; simp) rfl
        | row _ _ _ _ k' c A cur ty hk' hA hcur hcc hlc hmc =>
          by_cases hoff : off ≤ k.es.length
          · have hq : (k.es.drop off).take len = (k.es.drop off).take (min len (k.es.length - off)) := by
              rw [List.take_eq_take_iff]; simp
            rw [hq] at hxs
            have hrows : rowsAV μ s (.row b s off (min len (k.es.length - off))) = some xs := by
              simp only [rowsAV, hk]
              rw [if_pos ⟨trivial, hks, by omega⟩, hxs]
            have hr2 : Rel (envOf X io μ w) (.row b s off (min len (k.es.length - off))) (.slice A (min len (k.es.length - off)) c) := .row b s off _ k' c A cur ty hk' hA hcur hcc (by omega) hmc
            obtain ⟨A2, c2, us, hu, r1, r2, r3, r4, r5, r6, r7⟩ := rows_rel hM hrows hr2
            injection hu with e1 e2 e3
            subst e1; subst e3
            exact ⟨A, c, us, rfl, r1, r2, r3, r4, r5, by omega, r7⟩
          · exact nilc A c (by rw [← hxs, List.drop_eq_nil_of_le (by omega)]; simp) rfl
      · cases h
    · cases h
  · have e : srcAV μ sz x = (rowsAV μ sz x).map fun xs => (xs, xs.length) := by
      cases x <;> first | rfl | exact absurd ⟨_, _, _, _, rfl⟩ hx
    rw [e] at h
    obtain ⟨ys, h1, h2⟩ := Option.map_eq_some_iff.1 h
    simp only [Prod.mk.injEq] at h2
    obtain ⟨rfl, rfl⟩ := h2
    obtain ⟨A, c, us, r0, r1, r2, r3, r4, r5, r6, r7⟩ := rows_rel hM h1 hr
    exact ⟨A, c, us, r0, r1, r2, r3, r4, r5, Nat.le_refl _, r7⟩

/-- Those cells, read. -/
theorem run_first {w : World} {A : Option Addr} {m c sz : Nat} {us : List Value} (hl : us.length = m * sz) (hA : A = none → m = 0) (hc : ∀ a, A = some a → ∀ j v, us[j]? = some v → w.cell? (a.add j) = some v) :
    (Builtin.firstCells sz m (.slice A m c)).run P w = .ok us.toArray w := by
  cases A with
  | none =>
    have h0 := hA rfl
    subst h0
    have : us = [] := List.eq_nil_of_length_eq_zero (by simpa using hl)
    subst this
    simp [Builtin.firstCells]
  | some a =>
    have := run_loadCells_list (P := P) w a us (hc a rfl)
    rw [hl] at this
    simp [Builtin.firstCells, this]

theorem run_app_nop {w : World} {t ty e n c c' : Nat} {i : TypeInfo} {A B : Option Addr} (ht : P.underlying t = some (.slice e)) (hi : P.info? e = some i) (hle : n ≤ c) :
    (Builtin.append_ #[t, t] ty #[.slice A n c, .slice B 0 c']).run P w = .ok (.slice A n c) w := by
  have hf : (Builtin.firstCells i.size 0 (.slice B 0 c')).run P w = .ok #[] w := by
    have := run_first (P := P) (w := w) (A := B) (m := 0) (c := c') (sz := i.size) (us := []) (by simp) (fun _ => rfl) (fun a _ j v hv => by simp at hv)
    simpa using this
  cases A <;> simp [Builtin.append_, run_underlying ht, sizeOf, typeInfo, hi, Builtin.lenOf, hle, hf, storeCells]

theorem run_app_room {w : World} {t ty e n m c c' k off : Nat} {i : TypeInfo} {B : Option Addr} (ht : P.underlying t = some (.slice e)) (hi : P.info? e = some i) {news : List Value} {cur : Array Value} {ty' : TypeId}
    (hg : w.heap[k]? = some (.cells cur ty' (0, 0))) (hl : news.length = m * i.size) (hB : B = none → m = 0) (hc : ∀ a, B = some a → ∀ j v, news[j]? = some v → w.cell? (a.add j) = some v) (h1 : ∀ u ∈ news, u.oneCell' = true)
    (hroom : n + m ≤ c) (hfit : off + n * i.size + news.length ≤ cur.size) :
    (Builtin.append_ #[t, t] ty #[.slice (some ⟨k, off, none⟩) n c, .slice B m c']).run P w =
      .ok (.slice (some ⟨k, off, none⟩) (n + m) c) (w.setRow k (spliceV cur.toList (off + n * i.size) news).toArray) := by
  have hf := run_first (P := P) (w := w) (A := B) (m := m) (c := c') (sz := i.size) (us := news) hl hB hc
  have hst := run_storeCells_at P k (off + n * i.size) ty' news 0 cur w hg (by simpa using hfit) h1
  simp only [Nat.add_zero] at hst
  have e1 : (cur.toList.take (off + n * i.size) ++ news ++ cur.toList.drop (off + n * i.size + news.length)).toArray = (spliceV cur.toList (off + n * i.size) news).toArray := by simp [spliceV]
  rw [e1] at hst
  simp [Builtin.append_, run_underlying ht, sizeOf, typeInfo, hi, Builtin.lenOf, hroom, hf, add_lit, hst]

theorem run_app_grow {w : World} {t ty e n m c c' : Nat} {i : TypeInfo} {A B : Option Addr} {zv : Value} (ht : P.underlying t = some (.slice e)) (hi : P.info? e = some i) (hz : i.zero = some zv) {olds news : List Value}
    (hlo : olds.length = n * i.size) (hA : A = none → n = 0) (hco : ∀ a, A = some a → ∀ j v, olds[j]? = some v → w.cell? (a.add j) = some v)
    (hl : news.length = m * i.size) (hB : B = none → m = 0) (hc : ∀ a, B = some a → ∀ j v, news[j]? = some v → w.cell? (a.add j) = some v)
    (hgr : c < n + m) (h63 : ((n + m : Nat) : Int) ≤ 9223372036854775807) (hfit : Builtin.nextslicecap (n + m) c * i.bytes ≤ 281474976710656) :
    (Builtin.append_ #[t, t] ty #[.slice A n c, .slice B m c']).run P w =
      .ok (.slice (some ⟨w.heap.size, 0, none⟩) (n + m) (grownCap w (n + m) c e))
        (w.drew.alloc (.cells (olds.toArray ++ news.toArray ++ Builtin.zeroCells zv.cells (grownCap w (n + m) c e - (n + m))) e)) := by
  have hn : ¬ (n + m ≤ c) := by omega
  have h63' : ¬ (9223372036854775807 < ((n : Int) + (m : Int))) := by omega
  have h48' : ¬ (281474976710656 < Builtin.nextslicecap (n + m) c * i.bytes) := by omega
  have hf := run_first (P := P) (w := w.drew) (A := B) (m := m) (c := c') (sz := i.size) (us := news) hl hB (fun a ha j v hv => by simpa using hc a ha j v hv)
  have hfo := run_first (P := P) (w := w.drew) (A := A) (m := n) (c := c) (sz := i.size) (us := olds) hlo hA (fun a ha j v hv => by simpa using hco a ha j v hv)
  simp [Builtin.append_, run_underlying ht, sizeOf, typeInfo, zeroValue, hi, hz, Builtin.lenOf, hn, h63', h48', Question.forced, hf, hfo, newRow, grownCap]
  congr 2
  apply Array.ext'
  simp

/-- An empty row that lies nowhere yet. -/
theorem step_phantom {X : Nat → Prop} {N : Nat} {io : Nat → Option (Option Nat)} {μ : Mu} {w : World} (h : Mem X io μ w) (hN : io N = none) (hμ : μ N = none) (blk : Blk) (he : blk.es = []) : Step X N io μ w (upd io N (some none)) (upd μ N (some blk)) w := by
  have hio : ∀ b k, io b = some k → upd io N (some none) b = some k := fun b k hb => by
    rw [upd_ne _ _ (fun e => by subst e; rw [hN] at hb; cases hb)]; exact hb
  have own : ∀ b0 bk k, upd μ N (some blk) b0 = some bk → bk.mu = true → upd io N (some none) b0 = some (some k) → (∃ b0 blk0, μ b0 = some blk0 ∧ blk0.mu = true ∧ io b0 = some (some k)) ∨ w.heap.size ≤ k := fun b0 bk k h1 h2 h3 => by
    by_cases e : b0 = N
    · subst e; rw [upd_same] at h3; cases h3
    · rw [upd_ne _ _ e] at h1 h3; exact .inl ⟨b0, bk, h1, h2, h3⟩
  have le := le_of (X := X) (w := w) (w' := w) hio (Nat.le_refl _) (fun _ _ _ => rfl) (fun _ c _ h => ⟨c, h, rfl⟩) own
  have ne : ∀ {b k}, upd io N (some none) b = some (some k) → b ≠ N ∧ io b = some (some k) := fun {b k} hb => by
    by_cases e : b = N
    · subst e; rw [upd_same] at hb; cases hb
    · rw [upd_ne _ _ e] at hb; exact ⟨e, hb⟩
  refine ⟨⟨fun b0 bk hb0 => ?_, fun b0 b1 bk bk' k h1 h2 hm' h3 h4 => ?_, fun b k hb => h.lt b k (ne hb).2, fun b0 bk k hb0 hk => ?_, h.xlt⟩, hio, rfl, rfl, rfl, Nat.le_refl _, fun _ _ _ => rfl, fun _ c _ h => ⟨c, h, rfl⟩, own, fun b0 hb0 h1 h2 => ⟨by rw [upd_ne _ _ hb0]; exact h1, by rw [upd_ne _ _ hb0]; exact h2⟩⟩
  · by_cases e : b0 = N
    · subst e
      rw [upd_same] at hb0
      injection hb0 with hb0
      subst hb0
      exact ⟨(fun e hh => by rw [he] at hh; cases hh), by rw [he]; simp, .inl ⟨upd_same _ _ _, he⟩⟩
    · rw [upd_ne _ _ e] at hb0
      exact (h.ok b0 bk hb0).mono le (fun _ _ => rfl)
  · obtain ⟨g1, h3⟩ := ne h3
    obtain ⟨g2, h4⟩ := ne h4
    rw [upd_ne _ _ g1] at h1; rw [upd_ne _ _ g2] at h2
    exact h.inj b0 b1 bk bk' k h1 h2 hm' h3 h4
  · obtain ⟨g1, hk⟩ := ne hk
    rw [upd_ne _ _ g1] at hb0
    exact h.notX b0 bk k hb0 hk

theorem grown_holds {E : Env} {olds news : List Value} {sz n m : Nat} {es xs : List (List AV)} (hlo : olds.length = n * sz) (hl : news.length = m * sz) (hes : es.length = n) (hel : ∀ e ∈ es, e.length = sz) (hxl : ∀ e ∈ xs, e.length = sz) (hx : xs.length = m)
    (h1 : Holds E olds.toArray sz es) (h2 : Holds E news.toArray sz xs) (rest : Array Value) : Holds E (olds.toArray ++ news.toArray ++ rest) sz (es ++ xs) := fun i j x hc => by
  unfold cellAt at hc
  rw [List.getElem?_append] at hc
  have hsz : ∀ (l : List (List AV)) (k : Nat), (∀ e ∈ l, e.length = sz) → (l[k]?).bind (·[j]?) = some x → k < l.length ∧ j < sz := fun l k hl hk => by
    cases hq : l[k]? with
    | none => rw [hq] at hk; cases hk
    | some e =>
      rw [hq] at hk
      have h5 := hl e (List.mem_of_getElem? hq)
      have := (List.getElem?_eq_some_iff.1 (show e[j]? = some x from hk)).1
      exact ⟨(List.getElem?_eq_some_iff.1 hq).1, by omega⟩
  split at hc
  · rename_i hi
    obtain ⟨u, hu, r⟩ := h1 i j x hc
    have hj := (hsz es i hel hc).2
    have hlt : i * sz + j < olds.length := by rw [hlo, ← hes]; exact row_lt hi hj
    refine ⟨u, ?_, r⟩
    rw [Array.getElem?_append_left (by simp; omega), Array.getElem?_append_left (by simpa using hlt)]
    exact hu
  · rename_i hi
    obtain ⟨u, hu, r⟩ := h2 (i - es.length) j x hc
    obtain ⟨hi2, hj⟩ := hsz xs _ hxl hc
    have e1 : i * sz + j = olds.length + ((i - es.length) * sz + j) := by
      have : i = es.length + (i - es.length) := by omega
      conv => lhs; rw [this]
      rw [Nat.add_mul, hlo, hes, Nat.add_assoc]
    have hlt : (i - es.length) * sz + j < news.length := by rw [hl, ← hx]; exact row_lt hi2 hj
    refine ⟨u, ?_, r⟩
    rw [e1, Array.getElem?_append_left (by simp; omega), Array.getElem?_append_right (by simp)]
    simpa using hu

theorem room_holds {E : Env} {cur : Array Value} {news : List Value} {sz m p : Nat} {es xs : List (List AV)} (hl : news.length = m * sz) (hel : ∀ e ∈ es, e.length = sz) (hxl : ∀ e ∈ xs, e.length = sz) (hx : xs.length = m) (hp : p ≤ es.length)
    (hfit : p * sz + news.length ≤ cur.size) (h1 : Holds E cur sz es) (h2 : Holds E news.toArray sz xs) : Holds E (spliceV cur.toList (p * sz) news).toArray sz (es.take p ++ (xs ++ es.drop (p + xs.length))) := fun i j x hc => by
  have hsz : ∀ (l : List (List AV)) (k : Nat), (∀ e ∈ l, e.length = sz) → (l[k]?).bind (·[j]?) = some x → k < l.length ∧ j < sz := fun l k hl hk => by
    cases hq : l[k]? with
    | none => rw [hq] at hk; cases hk
    | some e =>
      rw [hq] at hk
      have h5 := hl e (List.mem_of_getElem? hq)
      have := (List.getElem?_eq_some_iff.1 (show e[j]? = some x from hk)).1
      exact ⟨(List.getElem?_eq_some_iff.1 hq).1, by omega⟩
  simp only [List.getElem?_toArray]
  rw [get_spliceV _ _ _ _ (by simpa using hfit)]
  unfold cellAt at hc
  rw [List.getElem?_append] at hc
  have hlt : (es.take p).length = p := by simp; omega
  rw [hlt] at hc
  split at hc
  · rename_i hi
    rw [List.getElem?_take, if_pos hi] at hc
    have hj := (hsz es i hel hc).2
    rw [if_pos (row_lt hi hj)]
    obtain ⟨u, hu, r⟩ := h1 i j x hc
    exact ⟨u, by simpa using hu, r⟩
  · rename_i hi
    rw [List.getElem?_append] at hc
    have hpi : p * sz ≤ i * sz := Nat.mul_le_mul_right _ (by omega)
    split at hc
    · rename_i hi2
      have hj := (hsz xs _ hxl hc).2
      obtain ⟨u, hu, r⟩ := h2 (i - p) j x hc
      have e1 : i * sz + j = p * sz + ((i - p) * sz + j) := by
        have : i = p + (i - p) := by omega
        conv => lhs; rw [this]
        rw [Nat.add_mul, Nat.add_assoc]
      have hlt2 : (i - p) * sz + j < news.length := by rw [hl, ← hx]; exact row_lt hi2 hj
      rw [if_neg (by omega), if_pos (by omega)]
      exact ⟨u, by rw [e1, Nat.add_sub_cancel_left]; simpa using hu, r⟩
    · rename_i hi2
      rw [List.getElem?_drop] at hc
      have e0 : p + xs.length + (i - p - xs.length) = i := by omega
      rw [e0] at hc
      obtain ⟨u, hu, r⟩ := h1 i j x hc
      have h6 := Nat.mul_le_mul_right sz (show p + m ≤ i by omega)
      rw [Nat.add_mul] at h6
      rw [if_neg (by omega), if_neg (by omega)]
      exact ⟨u, by simpa using hu, r⟩

end Go.Proofs.Ytneoeegpceompaa.AM

/-
The abstract machine, part 11: append and copy, as operations.
-/
namespace Go.Proofs.Ytneoeegpceompaa.AM
open Go

variable {P : Program}

section
variable {X : Nat → Prop} {N : Nat} {io : Nat → Option (Option Nat)} {μ : Mu} {w : World} {a : Act} {g : Nat → AV} (hM : Mem X io μ w) (hg : ∀ t, Rel (envOf X io μ w) (g t) (a.tmps.getD t undef)) (hN : io N = none) (hμN : μ N = none)
include hM hN hμN

/-- What an append comes to, ahead of the operation's frame. -/
def AppOK (P : Program) (X : Nat → Prop) (N : Nat) (io : Nat → Option (Option Nat)) (μ : Mu) (w : World) (t ty : TypeId) (s x : Value) (r : AV) (wr : Wr) : Prop :=
  ∃ v w' io', (Builtin.append_ #[t, t] ty #[s, x]).run P w = .ok v w' ∧ Step X N io μ w io' (app μ wr) w' ∧ Rel (envOf X io' (app μ wr) w') r v

/-- The row has no room: a new one. -/
theorem app_grown {t ty e n b : Nat} {z : List Value} (ht : telinfo P t = some (e, n, b, z)) {A B : Option Addr} {len c c' : Nat} {es xs : List (List AV)} {olds news : List Value} (hlen : len + xs.length ≤ 1000000) (hroom : c < len + xs.length)
    (hes : es.length = len) (hel : ∀ e ∈ es, e.length = n) (hlo : olds.length = len * n) (hA : A = none → len = 0) (hco : ∀ a, A = some a → ∀ j v, olds[j]? = some v → w.cell? (a.add j) = some v) (hHo : Holds (envOf X io μ w) olds.toArray n es)
    (hl : news.length = xs.length * n) (hB : B = none → xs = []) (hc : ∀ a, B = some a → ∀ j v, news[j]? = some v → w.cell? (a.add j) = some v) (hxl : ∀ e ∈ xs, e.length = n) (hH : Holds (envOf X io μ w) news.toArray n xs) :
    AppOK P X N io μ w t ty (.slice A len c) (.slice B xs.length c') (.row N n 0 (len + xs.length)) [(N, some ⟨true, e, n, es ++ xs, none⟩)] := by
  obtain ⟨hu, inf, hinf, hsz, hby, ⟨zv, hzv, hzc⟩, hpos, hb, hzl, hone⟩ := telinfo_inv ht
  have hbb : (len + xs.length) * inf.bytes ≤ 140737488355328 := by
    have := Nat.mul_le_mul hlen (show inf.bytes ≤ 100000 by rw [hby]; exact hb)
    omega
  have hg := run_app_grow (P := P) (w := w) (ty := ty) (n := len) (m := xs.length) (c := c) (c' := c') (A := A) (B := B) hu hinf hzv (olds := olds) (news := news) (by rw [hsz]; exact hlo) hA hco
    (by rw [hsz]; exact hl) (fun h => by rw [hB h]; rfl) hc hroom (by omega) (growslice_fits hroom hbb)
  have hge := grownCap_ge w (len + xs.length) c e
  have hcm := grownCap_le_maxLen w (len + xs.length) c e (by unfold maxLen; omega)
  have hd := step_drew (N := N) hM (w.drawn + 1)
  generalize hG : grownCap w (len + xs.length) c e = G at hg hge hcm
  have hsize : (olds.toArray ++ news.toArray ++ Builtin.zeroCells zv.cells (G - (len + xs.length))).size = G * n := by
    simp only [Array.size_append, List.size_toArray, size_zeroCells, hzc, hzl, hl, hlo]
    rw [← Nat.add_mul, ← Nat.add_mul]; congr 1; omega
  have hH2 : Holds (envOf X io μ w.drew) (olds.toArray ++ news.toArray ++ Builtin.zeroCells zv.cells (G - (len + xs.length))) n (es ++ xs) := by
    have := grown_holds (E := envOf X io μ w) hlo hl hes hel hxl rfl hHo hH (Builtin.zeroCells zv.cells (G - (len + xs.length)))
    intro i j x hx
    obtain ⟨u, h1, h2, h3⟩ := this i j x hx
    exact ⟨u, h1, h2, h3.mono hd.le⟩
  have hst := step_alloc hd.mem hN hμN ⟨true, e, n, es ++ xs, none⟩ (olds.toArray ++ news.toArray ++ Builtin.zeroCells zv.cells (G - (len + xs.length)))
    (fun e he => by rcases List.mem_append.1 he with h | h; exact hel e h; exact hxl e h) (by show (es ++ xs).length ≤ maxLen; rw [List.length_append, hes]; unfold maxLen; omega)
    (by show (es ++ xs).length * n ≤ _; rw [hsize, List.length_append, hes]; exact Nat.mul_le_mul_right _ hge) (fun c h => by cases h) hH2
  refine ⟨_, _, _, hg, hd.trans hst, ?_⟩
  have := Rel.row (E := envOf X (upd io N (some (some w.heap.size))) (upd μ N (some ⟨true, e, n, es ++ xs, none⟩)) (w.drew.alloc (.cells (olds.toArray ++ news.toArray ++ Builtin.zeroCells zv.cells (G - (len + xs.length))) e))) N n 0 (len + xs.length) w.heap.size G (some ⟨w.heap.size, 0, none⟩) _ e (upd_same _ _ _) (fun _ => by simp) (heap_alloc_new w.drew _) (by rw [hsize, Nat.zero_add]) hge (by rw [Nat.zero_add]; exact hcm)
  exact this

/-- A new row of elements alone. -/
theorem app_new {t ty e n b : Nat} {z : List Value} (ht : telinfo P t = some (e, n, b, z)) {A B : Option Addr} {c' : Nat} {xs : List (List AV)} {news : List Value} (hlen : xs.length ≤ 1000000)
    (hl : news.length = xs.length * n) (hB : B = none → xs = []) (hc : ∀ a, B = some a → ∀ j v, news[j]? = some v → w.cell? (a.add j) = some v) (hxl : ∀ e ∈ xs, e.length = n) (hH : Holds (envOf X io μ w) news.toArray n xs) :
    AppOK P X N io μ w t ty (.slice A 0 0) (.slice B xs.length c') (.row N n 0 xs.length) [(N, some ⟨true, e, n, xs, none⟩)] := by
  obtain ⟨hu, inf, hinf, hsz, _⟩ := telinfo_inv ht
  by_cases h0 : xs = []
  · subst h0
    exact ⟨_, w, _, run_app_nop hu hinf (Nat.le_refl _), step_phantom hM hN hμN _ rfl, .rowz _ _ _ (upd_same _ _ _)⟩
  · have hm : xs.length ≠ 0 := fun h => h0 (List.eq_nil_of_length_eq_zero h)
    have := app_grown (P := P) (ty := ty) (A := A) (len := 0) (c := 0) (c' := c') (es := []) (olds := []) hM hN hμN ht (by omega) (by omega) rfl (fun e he => by cases he) (by simp) (fun _ => rfl) (fun a _ j v hv => by simp at hv) (fun i j x hx => by simp [cellAt] at hx) hl hB hc hxl hH
    simpa using this

omit hN hμN in
/-- A row that is written, under the same name. -/
theorem app_write {b' k : Nat} {blk : Blk} (hb : μ b' = some blk) (hmu : blk.mu = true) (hio : io b' = some (some k)) {cur : Array Value} (hcur : w.heap[k]? = some (.cells cur blk.ty (0, 0))) (blk' : Blk) (cur' : Array Value) (hty : blk'.ty = blk.ty)
    (hs' : cur'.size = cur.size) (hl : ∀ e ∈ blk'.es, e.length = blk'.sz) (hn : blk'.es.length ≤ maxLen) (hs : blk'.es.length * blk'.sz ≤ cur'.size) (hc : ∀ c, blk'.cap = some c → cur'.size = c * blk'.sz) (hr : Holds (envOf X io μ w) cur' blk'.sz blk'.es) :
    Step X N io μ w io (upd μ b' (some blk')) (w.setRow k cur') := step_write hM hb hmu hio hcur blk' cur' hty hs' hl hn hs hc hr

/-- A row that is written and gets a new name. -/
theorem app_move {b' k : Nat} {blk : Blk} (hb : μ b' = some blk) (hmu : blk.mu = true) (hio : io b' = some (some k)) {cur : Array Value} (hcur : w.heap[k]? = some (.cells cur blk.ty (0, 0))) (blk' : Blk) (cur' : Array Value) (hty : blk'.ty = blk.ty)
    (hs' : cur'.size = cur.size) (hl : ∀ e ∈ blk'.es, e.length = blk'.sz) (hn : blk'.es.length ≤ maxLen) (hs : blk'.es.length * blk'.sz ≤ cur'.size) (hc : ∀ c, blk'.cap = some c → cur'.size = c * blk'.sz) (hr : Holds (envOf X io μ w) cur' blk'.sz blk'.es) :
    Step X N io μ w (upd io N (some (some k))) (upd (upd μ b' none) N (some blk')) (w.setRow k cur') := by
  have hne : b' ≠ N := fun e => by subst e; rw [hb] at hμN; cases hμN
  have h1 := step_write (N := N) hM hb hmu hio hcur blk' cur' hty hs' hl hn hs hc hr
  have h2 := step_rename (N := N) h1.mem hN (by rw [upd_ne _ _ (fun e => hne e.symm)]; exact hμN) (upd_same μ b' (some blk'))
  rw [upd_upd, hio] at h2
  exact h1.trans h2

theorem app_ok {t ty e n b : Nat} {z : List Value} (ht : telinfo P t = some (e, n, b, z)) {s : AV} {su xu : Value} {xs : List (List AV)} {x : AV} (hx : rowsAV μ n x = some xs) (hxr : Rel (envOf X io μ w) x xu) (hsr : Rel (envOf X io μ w) s su)
    {r : AV} {wr : Wr} (h : appendAV μ N e n s xs = some (r, wr)) : AppOK P X N io μ w t ty su xu r wr := by
  obtain ⟨B, c', news, rfl, hl, hB, hc, h1, hxl, hlc', hH⟩ := rows_rel hM hx hxr
  cases s with
  | z0 =>
    simp only [appendAV] at h
    split at h
    · rename_i hle
      simp only [Option.some.injEq, Prod.mk.injEq] at h
      obtain ⟨rfl, rfl⟩ := h
      cases hsr with
      | z0 A => exact app_new hM hN hμN ht hle hl hB hc hxl hH
    · cases h
  | v y =>
    have := rel_v hsr
    subst this
    unfold appendAV at h
    split at h
    · cases ‹AV.v su = AV.z0›
    · rename_i he
      injection he with he
      subst he
      split at h
      · rename_i hle
        simp only [Option.some.injEq, Prod.mk.injEq] at h
        obtain ⟨rfl, rfl⟩ := h
        exact app_new hM hN hμN ht hle hl hB hc hxl hH
      · cases h
    · cases ‹AV.v su = AV.row _ _ _ _›
    · cases h
  | row b' sz off len =>
    obtain ⟨hu, inf, hinf, hsz, hby, ⟨zv, hzv, hzc⟩, hpos, hbb, hzl, hone⟩ := telinfo_inv ht
    simp only [appendAV] at h
    split at h
    · rename_i blk hb
      split at h
      · rename_i hcnd
        obtain ⟨hmu, rfl, hks, hty, hbnd⟩ := hcnd
        obtain ⟨hel, hmx, hk⟩ := hM.ok b' blk hb
        rw [hks] at hel
        split at h
        · rename_i hz
          obtain ⟨rfl, hlen⟩ := hz
          simp only [Option.some.injEq, Prod.mk.injEq] at h
          obtain ⟨rfl, rfl⟩ := h
          have hNb : b' ≠ N := fun e => by subst e; rw [hb] at hμN; cases hμN
          have hdrop := step_drop (N := N) hM b'
          have hμN' : upd μ b' none N = none := by rw [upd_ne _ _ (fun e => hNb e.symm)]; exact hμN
          have hH' : Holds (envOf X io (upd μ b' none) w) news.toArray sz xs := fun i j x hx => by
            obtain ⟨u, h2, h3, h4⟩ := hH i j x hx
            exact ⟨u, h2, h3, h4.mono hdrop.le⟩
          cases hsr with
          | rowz _ _ A hz =>
            have hes : blk.es = [] := List.eq_nil_of_length_eq_zero hlen.symm
            obtain ⟨v, w', io', q1, q2, q3⟩ := app_new (P := P) (ty := ty) (A := A) hdrop.mem hN hμN' ht (by omega) hl hB hc hxl hH'
            simp only [hes, List.nil_append, Nat.zero_add]
            exact ⟨v, w', io', q1, hdrop.trans q2, q3⟩
          | row _ _ _ _ k c A cur ty' hio hA hcur hcc hlc hmc =>
            rcases hk with ⟨k1, k2⟩ | ⟨q, cur2, k1, k2, k3, k4, k5⟩
            · rw [hio] at k1; cases k1
            · have e1 : k = q := by have := hio.symm.trans k1; simpa using this
              subst e1
              rw [k2] at hcur
              injection hcur with hcur
              injection hcur with hcur hty2 _
              subst hcur
              have hio' : io b' = some (some k) := hio
              rw [Nat.zero_add] at hcc hmc
              rw [hks] at k3 k5
              have hapl : ∀ e ∈ blk.es ++ xs, e.length = sz := fun e he => by rcases List.mem_append.1 he with h | h; exact hel e h; exact hxl e h
              by_cases hroom : len + xs.length ≤ c
              · by_cases hx0 : xs = []
                · subst hx0
                  have hst := app_move hM hN hμN hb hmu hio' k2 ⟨true, e, sz, blk.es ++ [], none⟩ cur2 hty.symm rfl hapl (by simpa using hmx) (by simpa using k3) (fun c h => by cases h) (by rw [List.append_nil]; exact k5)
                  rw [setRow_self w k cur2 blk.ty (0, 0) k2] at hst
                  refine ⟨_, w, _, run_app_nop hu hinf hlc, hst, ?_⟩
                  exact .row N sz 0 len k c A cur2 blk.ty (upd_same _ _ _) hA k2 (by rw [Nat.zero_add]; exact hcc) hlc (by rw [Nat.zero_add]; exact hmc)
                · have hm : xs.length ≠ 0 := fun h => hx0 (List.eq_nil_of_length_eq_zero h)
                  have hA' := hA (by omega)
                  have hfit : 0 * sz + len * inf.size + news.length ≤ cur2.size := by
                    rw [← hcc, hl, hsz, Nat.zero_mul, Nat.zero_add, ← Nat.add_mul]; exact Nat.mul_le_mul_right _ hroom
                  have hrun := run_app_room (P := P) (ty := ty) (off := 0 * sz) (c' := c') hu hinf k2 (by rw [hsz]; exact hl) (fun h => by rw [hB h]; rfl) hc h1 hroom hfit
                  have hfit2 : len * sz + news.length ≤ cur2.size := by rw [hsz] at hfit; simpa using hfit
                  have hrh := room_holds (E := envOf X io μ w) (cur := cur2) (p := len) hl hel hxl rfl (by omega) hfit2 k5 hH
                  have e2 : blk.es.take len ++ (xs ++ blk.es.drop (len + xs.length)) = blk.es ++ xs := by
                    rw [hlen, List.take_length, List.drop_of_length_le (by omega), List.append_nil]
                  rw [e2] at hrh
                  have hsl : (spliceV cur2.toList (len * sz) news).toArray.size = cur2.size := by simp only [List.size_toArray]; rw [spliceV_length (by simpa using hfit2)]; simp
                  have hst := app_move hM hN hμN hb hmu hio' k2 ⟨true, e, sz, blk.es ++ xs, none⟩ (spliceV cur2.toList (len * sz) news).toArray hty.symm hsl hapl (by show (blk.es ++ xs).length ≤ maxLen; rw [List.length_append]; unfold maxLen; omega)
                    (by rw [hsl]; show (blk.es ++ xs).length * sz ≤ _; rw [List.length_append, ← hlen, ← hcc]; exact Nat.mul_le_mul_right _ hroom) (fun c h => by cases h) hrh
                  rw [hA']
                  rw [hsz, Nat.zero_mul, Nat.zero_add] at hrun
                  refine ⟨_, _, _, (by rw [Nat.zero_mul]; exact hrun), hst, ?_⟩
                  have := Rel.row (E := envOf X (upd io N (some (some k))) (upd (upd μ b' none) N (some ⟨true, e, sz, blk.es ++ xs, none⟩)) (w.setRow k (spliceV cur2.toList (len * sz) news).toArray)) N sz 0 (len + xs.length) k c (some ⟨k, 0 * sz, none⟩) _ blk.ty (upd_same _ _ _) (fun _ => rfl) (setRow_heap w k cur2 _ blk.ty (0, 0) k2) (by rw [hsl, Nat.zero_add]; exact hcc) hroom (by rw [Nat.zero_add]; exact hmc)
                  rw [Nat.zero_mul] at this
                  exact this
              · have hco : ∀ a, A = some a → ∀ j v, (cur2.toList.take (len * sz))[j]? = some v → w.cell? (a.add j) = some v := fun a ha j v hv => by
                  rw [List.getElem?_take] at hv
                  split at hv
                  · rename_i hj
                    have hc0 : c ≠ 0 := fun h => by
                      have h0 : len = 0 := by omega
                      rw [h0, Nat.zero_mul] at hj
                      omega
                    have hA' := hA hc0
                    rw [hA'] at ha
                    injection ha with ha
                    subst ha
                    rw [add_lit, cell_of_row w k _ cur2 blk.ty (0, 0) k2]
                    simpa using hv
                  · cases hv
                have hlo : (cur2.toList.take (len * sz)).length = len * sz := by
                  have : len * sz ≤ cur2.size := by rw [← hcc]; exact Nat.mul_le_mul_right _ hlc
                  simp; omega
                have hHo : Holds (envOf X io (upd μ b' none) w) (cur2.toList.take (len * sz)).toArray sz blk.es := fun i j x hx => by
                  obtain ⟨u, h2, h3, h4⟩ := k5 i j x hx
                  refine ⟨u, ?_, h3, h4.mono hdrop.le⟩
                  have hij : i * sz + j < len * sz := by
                    unfold cellAt at hx
                    cases hq : blk.es[i]? with
                    | none => rw [hq] at hx; cases hx
                    | some e' =>
                      rw [hq] at hx
                      have h5 := hel e' (List.mem_of_getElem? hq)
                      have := (List.getElem?_eq_some_iff.1 (show e'[j]? = some x from hx)).1
                      exact row_lt (by rw [hlen]; exact (List.getElem?_eq_some_iff.1 hq).1) (by omega)
                  simp only [List.getElem?_toArray]
                  rw [List.getElem?_take, if_pos hij]
                  simpa using h2
                obtain ⟨v, w', io', q1, q2, q3⟩ := app_grown (P := P) (ty := ty) (A := A) (len := len) (c := c) (c' := c') hdrop.mem hN hμN' ht (by omega) (by omega) hlen.symm hel hlo
                  (fun h => by
                    by_cases hc0 : c = 0
                    · omega
                    · have hA' := hA hc0
                      rw [hA'] at h; cases h) hco hHo hl hB hc hxl hH'
                exact ⟨v, w', io', q1, hdrop.trans q2, q3⟩
        · split at h
          · rename_i hnz hin
            simp only [Option.some.injEq, Prod.mk.injEq] at h
            obtain ⟨rfl, rfl⟩ := h
            cases hsr with
            | rowz _ _ A hz =>
              rcases hk with ⟨k1, k2⟩ | ⟨q, cur2, k1, k2, k3, k4, k5⟩
              · rw [k2] at hnz; simp at hnz
              · rw [hz] at k1; cases k1
            | row _ _ _ _ k c A cur ty' hio hA hcur hcc hlc hmc =>
              rcases hk with ⟨k1, k2⟩ | ⟨q, cur2, k1, k2, k3, k4, k5⟩
              · rw [hio] at k1; cases k1
              · have e1 : k = q := by have := hio.symm.trans k1; simpa using this
                subst e1
                rw [k2] at hcur
                injection hcur with hcur
                injection hcur with hcur hty2 _
                subst hcur
                have hio' : io b' = some (some k) := hio
                have hk3 : blk.es.length * sz ≤ cur2.size := by rw [hks] at k3; exact k3
                rw [hks] at k5
                have hrc : len + xs.length ≤ c := by
                  have h9 : (off + len + xs.length) * sz ≤ (off + c) * sz := by rw [hcc]; exact Nat.le_trans (Nat.mul_le_mul_right _ hin) hk3
                  have := Nat.le_of_mul_le_mul_right h9 hpos
                  omega
                have hfit2 : (off + len) * sz + news.length ≤ cur2.size := by
                  rw [hl, ← Nat.add_mul]
                  exact Nat.le_trans (Nat.mul_le_mul_right _ hin) hk3
                have hrh := room_holds (E := envOf X io μ w) (cur := cur2) (p := off + len) hl hel hxl rfl (by omega) hfit2 k5 hH
                have hsl : (spliceV cur2.toList ((off + len) * sz) news).toArray.size = cur2.size := by simp only [List.size_toArray]; rw [spliceV_length (by simpa using hfit2)]; simp
                have hnl : (blk.es.take (off + len) ++ (xs ++ blk.es.drop (off + len + xs.length))).length = blk.es.length := by simp; omega
                have hst := app_write hM (N := N) hb hmu hio' k2 { blk with es := blk.es.take (off + len) ++ (xs ++ blk.es.drop (off + len + xs.length)) } (spliceV cur2.toList ((off + len) * sz) news).toArray rfl hsl
                  (fun e he => by
                    show e.length = blk.sz
                    rw [hks]
                    simp only [List.mem_append] at he
                    rcases he with h | h | h
                    · exact hel e (List.mem_of_mem_take h)
                    · exact hxl e h
                    · exact hel e (List.mem_of_mem_drop h)) (by show List.length _ ≤ maxLen; rw [hnl]; exact hmx) (by rw [hsl]; show List.length _ * blk.sz ≤ _; rw [hnl, hks]; exact hk3) (fun c h => by rw [hsl]; exact k4 c h) (by rw [hks]; exact hrh)
                by_cases hx0 : xs = []
                · subst hx0
                  have hnews : news = [] := List.eq_nil_of_length_eq_zero (by simpa using hl)
                  subst hnews
                  have e3 : (spliceV cur2.toList ((off + len) * sz) []).toArray = cur2 := by simp [spliceV]
                  rw [e3, setRow_self w k cur2 blk.ty (0, 0) k2] at hst
                  refine ⟨_, w, _, run_app_nop hu hinf hlc, hst, ?_⟩
                  exact .row b' sz off len k c A cur2 blk.ty hio hA k2 hcc hlc hmc
                · have hm : xs.length ≠ 0 := fun h => hx0 (List.eq_nil_of_length_eq_zero h)
                  have hA' := hA (by omega)
                  have hfit : off * sz + len * inf.size + news.length ≤ cur2.size := by rw [hsz, ← Nat.add_mul]; exact hfit2
                  have hrun := run_app_room (P := P) (ty := ty) (off := off * sz) (c' := c') hu hinf k2 (by rw [hsz]; exact hl) (fun h => by rw [hB h]; rfl) hc h1 hrc hfit
                  rw [hsz, ← Nat.add_mul] at hrun
                  rw [hA']
                  refine ⟨_, _, _, hrun, hst, ?_⟩
                  exact .row b' sz off (len + xs.length) k c _ _ blk.ty hio (fun _ => rfl) (setRow_heap w k cur2 _ blk.ty (0, 0) k2) (by rw [hsl]; exact hcc) hrc hmc
          · cases h
      · cases h
    · cases h
  | _ => simp [appendAV] at h

include hg in
theorem ok_append {o : Oper} (t e n b : Nat) (z : List Value) (s x : Operand) (ho : o.op = .call { callee := .builtin .append, args := #[s, x], argTypes := #[t, t] }) (ht : telinfo P t = some (e, n, b, z))
    {r : AV} {wr : Wr} (h : evalCO g μ N (.append e n b s x) = some (r, wr)) : OpOK P X N io μ w a o r wr := by
  simp only [evalCO] at h
  split at h
  · rename_i xs hxs
    obtain ⟨v, w', io', h1, h2, h3⟩ := app_ok (P := P) (ty := o.type) hM hN hμN ht hxs (ev_rel hg x) (ev_rel hg s) h
    exact ⟨_, v, w', io', by simp [execOp, ho, resolve, invoke, builtin, h1], .inl rfl, h2, h3⟩
  · cases h

omit hM hN hμN in
theorem run_first_part {w : World} {A : Option Addr} {m q c sz n : Nat} {us : List Value} (hl : us.length = m * sz) (hn : n ≤ m) (hA : A = none → m = 0) (hc : ∀ a, A = some a → ∀ j v, us[j]? = some v → w.cell? (a.add j) = some v) :
    (Builtin.firstCells sz n (.slice A q c)).run P w = .ok (us.take (n * sz)).toArray w := by
  have hle : n * sz ≤ us.length := by rw [hl]; exact Nat.mul_le_mul_right _ hn
  cases A with
  | none =>
    have h0 := hA rfl
    subst h0
    obtain rfl : n = 0 := by omega
    simp [Builtin.firstCells]
  | some a =>
    have := run_loadCells_list (P := P) w a (us.take (n * sz)) (fun j v hv => by
      rw [List.getElem?_take] at hv
      split at hv
      · exact hc a rfl j v hv
      · cases hv)
    rw [List.length_take, Nat.min_eq_left hle] at this
    simp [Builtin.firstCells, this]

omit hN hμN in
/-- Elements written over a row's, or next to its last one. -/
theorem write_rows {b' q : Nat} {blk : Blk} {cur2 : Array Value} (hb : μ b' = some blk) (hmu : blk.mu = true) (hio' : io b' = some (some q)) (k2 : w.heap[q]? = some (.cells cur2 blk.ty (0, 0))) {sz off m : Nat} {news : List Value} {xs : List (List AV)}
    (hks : blk.sz = sz) (hel : ∀ e ∈ blk.es, e.length = sz) (hmx : blk.es.length ≤ maxLen) (k3 : blk.es.length * sz ≤ cur2.size) (k4 : ∀ c, blk.cap = some c → cur2.size = c * blk.sz) (k5 : Holds (envOf X io μ w) cur2 sz blk.es)
    (hoff : off ≤ blk.es.length) (hnl : news.length = m * sz) (hxt : xs.length = m) (hxl : ∀ e ∈ xs, e.length = sz) (h1 : ∀ v ∈ news, v.oneCell' = true) (hH : Holds (envOf X io μ w) news.toArray sz xs) (hfit : (off + m) * sz ≤ cur2.size) (hmm : off + m ≤ maxLen) :
    (storeCells ⟨q, off * sz, none⟩ news).run P w = .ok () (w.setRow q (spliceV cur2.toList (off * sz) news).toArray) ∧
    Step X N io μ w io (upd μ b' (some { blk with es := blk.es.take off ++ (xs ++ blk.es.drop (off + m)) })) (w.setRow q (spliceV cur2.toList (off * sz) news).toArray) := by
  have hfit2 : off * sz + news.length ≤ cur2.size := by rw [hnl, ← Nat.add_mul]; exact hfit
  have hrh := room_holds (E := envOf X io μ w) (cur := cur2) (p := off) (m := m) hnl hel hxl hxt hoff hfit2 k5 hH
  rw [hxt] at hrh
  have hsl : (spliceV cur2.toList (off * sz) news).toArray.size = cur2.size := by simp only [List.size_toArray]; rw [spliceV_length (by simpa using hfit2)]; simp
  have hnl2 : (blk.es.take off ++ (xs ++ blk.es.drop (off + m))).length = max blk.es.length (off + m) := by simp only [List.length_append, hxt, List.length_take, List.length_drop]; omega
  refine ⟨?_, app_write hM hb hmu hio' k2 { blk with es := blk.es.take off ++ (xs ++ blk.es.drop (off + m)) } (spliceV cur2.toList (off * sz) news).toArray rfl hsl
    (fun e he => by
      show e.length = blk.sz
      rw [hks]
      simp only [List.mem_append] at he
      rcases he with h | h | h
      · exact hel e (List.mem_of_mem_take h)
      · exact hxl e h
      · exact hel e (List.mem_of_mem_drop h)) (by show List.length _ ≤ maxLen; rw [hnl2]; exact Nat.max_le.2 ⟨hmx, hmm⟩)
    (by
      rw [hsl]
      show List.length _ * blk.sz ≤ _
      rw [hnl2, hks]
      rcases Nat.le_total blk.es.length (off + m) with h | h
      · rw [Nat.max_eq_right h]; exact hfit
      · rw [Nat.max_eq_left h]; exact k3) (fun c h => by rw [hsl]; exact k4 c h) (by rw [hks]; exact hrh)⟩
  have hstc := run_storeCells_at P q (off * sz) blk.ty news 0 cur2 w k2 (by simpa using hfit2) h1
  simp only [Nat.add_zero] at hstc
  have e1 : (cur2.toList.take (off * sz) ++ news ++ cur2.toList.drop (off * sz + news.length)).toArray = (spliceV cur2.toList (off * sz) news).toArray := by simp only [spliceV, List.append_assoc]
  rw [e1] at hstc
  exact hstc

omit hM hN hμN in
theorem holds_take {E : Env} {news : List Value} {sz m : Nat} {xs : List (List AV)} (hxl : ∀ e ∈ xs, e.length = sz) (hH : Holds E news.toArray sz xs) : Holds E (news.take (m * sz)).toArray sz (xs.take m) := fun i j x hx => by
  have hi : i < m := by
    unfold cellAt at hx
    cases hq : (xs.take m)[i]? with
    | none => rw [hq] at hx; cases hx
    | some e => have := (List.getElem?_eq_some_iff.1 hq).1; rw [List.length_take] at this; omega
  have hx2 : cellAt xs i j = some x := by
    unfold cellAt at hx ⊢
    rw [List.getElem?_take, if_pos hi] at hx; exact hx
  have hj : j < sz := by
    unfold cellAt at hx2
    cases hq : xs[i]? with
    | none => rw [hq] at hx2; cases hx2
    | some e =>
      rw [hq] at hx2
      have h5 := hxl e (List.mem_of_getElem? hq)
      have := (List.getElem?_eq_some_iff.1 (show e[j]? = some x from hx2)).1
      omega
  obtain ⟨u, hu, r⟩ := hH i j x hx2
  refine ⟨u, ?_, r⟩
  simp only [List.getElem?_toArray] at hu ⊢
  rw [List.getElem?_take, if_pos (row_lt hi hj)]; exact hu

include hg in
omit hN hμN in
theorem ok_copy {o : Oper} (t u e n b e' : Nat) (z : List Value) (d s : Operand) (ho : o.op = .call { callee := .builtin .copy, args := #[d, s], argTypes := #[t, u] }) (ht : telinfo P t = some (e, n, b, z)) (_hu : P.underlying u = some (.slice e'))
    {r : AV} {wr : Wr} (h : evalCO g μ N (.copy n d s) = some (r, wr)) : OpOK P X N io μ w a o r wr := by
  obtain ⟨hu, inf, hinf, hsz, hby, ⟨zv, hzv, hzc⟩, hpos, hbb, hzl, hone⟩ := telinfo_inv ht
  have hsize : tsz P e = some n := by simp [tsz, hinf, hsz]
  simp only [evalCO] at h
  split at h
  · rename_i b' sz off len xs m0 hd hxs
    split at h
    · rename_i blk hb
      split at h
      · rename_i hcnd
        obtain ⟨hmu, hsz', hks, hoff, hcnt⟩ := hcnd
        subst hsz'
        simp only [Option.some.injEq, Prod.mk.injEq] at h
        obtain ⟨rfl, rfl⟩ := h
        have hdr := hd ▸ ev_rel hg d
        obtain ⟨B, c', news, hsv, hl, hB, hc, h1, hxl, hlc', hH⟩ := srcs_rel hM hxs (ev_rel hg s)
        obtain ⟨hel, hmx, hk⟩ := hM.ok b' blk hb
        rw [hks] at hel
        generalize hm : Nat.min m0 len = m at hcnt ⊢
        have hm2 : m ≤ len := by rw [← hm]; exact Nat.min_le_right _ _
        have hf := run_first_part (P := P) (w := w) (A := B) (m := xs.length) (q := m0) (c := c') (sz := sz) (n := m) hl hcnt (fun h => by rw [hB h]; rfl) hc
        have hnl : (news.take (m * sz)).length = m * sz := by rw [List.length_take, hl]; exact Nat.min_eq_left (Nat.mul_le_mul_right _ hcnt)
        have nop : ∀ A c, a.eval d = .slice A len c → m = 0 → OpOK P X N io μ w a o (.v (.int .i64 ((m : Nat) : Int))) [(b', some { blk with es := blk.es.take off ++ ((xs.take m) ++ blk.es.drop (off + m)) })] := fun A c hdv hm0 => by
          rw [hm0]
          have hes : blk.es.take off ++ ((xs.take 0) ++ blk.es.drop (off + 0)) = blk.es := by simp
          have hblk : ({ blk with es := blk.es.take off ++ ((xs.take 0) ++ blk.es.drop (off + 0)) } : Blk) = blk := by rw [hes]
          rw [hblk]
          have hup : upd μ b' (some blk) = μ := by funext j; by_cases e : j = b'; subst e; rw [upd_same, hb]; rw [upd_ne _ _ e]
          have hf0 : (Builtin.firstCells sz 0 (.slice B m0 c')).run P w = .ok #[] w := by rw [hm0] at hf; simpa using hf
          have hmin : Nat.min m0 len = 0 := by rw [hm, hm0]
          refine ⟨_, .int .i64 0, w, io, ?_, .inl rfl, by show Step X N io μ w io (upd μ b' (some blk)) w; rw [hup]; exact Step.refl hM, .v _⟩
          cases A <;> simp [execOp, ho, resolve, invoke, builtin, Builtin.copy_, run_underlying hu, hdv, hsv, Builtin.lenOf, run_sizeOf hsize, hmin, hf0, storeCells, goInt]
        generalize hdv : a.eval d = dv at hdr
        cases hdr with
        | rowz _ _ A hz => exact nop A 0 hdv (by omega)
        | row _ _ _ _ k c A cur ty' hio hA hcur hcc hlc hmc =>
          rcases hk with ⟨k1, k2⟩ | ⟨q, cur2, k1, k2, k3, k4, k5⟩
          · rw [hio] at k1; cases k1
          · have e1 : k = q := by have := hio.symm.trans k1; simpa using this
            subst e1
            rw [k2] at hcur
            injection hcur with hcur
            injection hcur with hcur hty2 _
            subst hcur
            have hio' : io b' = some (some k) := hio
            rw [hks] at k3 k5
            by_cases hm0 : m = 0
            · exact nop A c hdv hm0
            · have hA' := hA (by omega)
              have hxt : (xs.take m).length = m := by rw [List.length_take]; omega
              obtain ⟨hstc, hst⟩ := write_rows (P := P) hM (N := N) (off := off) (m := m) (news := news.take (m * sz)) (xs := xs.take m) hb hmu hio' k2 hks hel hmx k3 k4 k5 hoff hnl hxt (fun e he => hxl e (List.mem_of_mem_take he))
                (fun v hv => h1 v (List.mem_of_mem_take hv)) (holds_take hxl hH) (by rw [← hcc]; exact Nat.mul_le_mul_right _ (by omega)) (by omega)
              refine ⟨_, .int .i64 ((m : Nat) : Int), _, io, ?_, .inl rfl, hst, .v _⟩
              simp [execOp, ho, resolve, invoke, builtin, Builtin.copy_, run_underlying hu, hdv, hsv, hA', Builtin.lenOf, run_sizeOf hsize, hm, hf, hstc, goInt]
      · cases h
    · cases h
  · cases h

include hg in
omit hN hμN in
theorem ok_clear {o : Oper} (t e n b : Nat) (z : List Value) (x : Operand) (ho : o.op = .call { callee := .builtin .clear, args := #[x], argTypes := #[t] }) (ht : telinfo P t = some (e, n, b, z))
    {r : AV} {wr : Wr} (h : evalCO g μ N (.clear n z x) = some (r, wr)) : OpOK P X N io μ w a o r wr := by
  obtain ⟨hu, inf, hinf, hsz, hby, ⟨zv, hzv, hzc⟩, hpos, hbb, hzl, hone⟩ := telinfo_inv ht
  have hzrun : ∀ w, (zeroValue e).run P w = .ok zv w := fun w => by simp [zeroValue, typeInfo, hinf, hzv]
  simp only [evalCO] at h
  split at h
  · rename_i b' sz off len hx
    split at h
    · rename_i blk hb
      split at h
      · rename_i hcnd
        obtain ⟨hmu, hsz', hks, hoff⟩ := hcnd
        subst hsz'
        simp only [Option.some.injEq, Prod.mk.injEq] at h
        obtain ⟨rfl, rfl⟩ := h
        have hxr := hx ▸ ev_rel hg x
        obtain ⟨hel, hmx, hk⟩ := hM.ok b' blk hb
        rw [hks] at hel
        have nop : ∀ A c, a.eval x = .slice A len c → len = 0 → OpOK P X N io μ w a o (.tup []) [(b', some { blk with es := blk.es.take off ++ (List.replicate len (z.map .v) ++ blk.es.drop (off + len)) })] := fun A c hdv hm0 => by
          subst hm0
          have hes : blk.es.take off ++ (List.replicate 0 (z.map .v) ++ blk.es.drop (off + 0)) = blk.es := by simp
          have hblk : ({ blk with es := blk.es.take off ++ (List.replicate 0 (z.map .v) ++ blk.es.drop (off + 0)) } : Blk) = blk := by rw [hes]
          rw [hblk]
          have hup : upd μ b' (some blk) = μ := by funext j; by_cases e : j = b'; subst e; rw [upd_same, hb]; rw [upd_ne _ _ e]
          refine ⟨_, .tuple #[], w, io, ?_, .inl rfl, by show Step X N io μ w io (upd μ b' (some blk)) w; rw [hup]; exact Step.refl hM, .tup [] [] rfl (fun j x u h => by simp at h)⟩
          cases A <;> simp [execOp, ho, resolve, invoke, builtin, Builtin.clear_, run_underlying hu, hdv]
        generalize hdv : a.eval x = dv at hxr
        cases hxr with
        | rowz _ _ A hz => exact nop A 0 hdv rfl
        | row _ _ _ _ k c A cur ty' hio hA hcur hcc hlc hmc =>
          rcases hk with ⟨k1, k2⟩ | ⟨q, cur2, k1, k2, k3, k4, k5⟩
          · rw [hio] at k1; cases k1
          · have e1 : k = q := by have := hio.symm.trans k1; simpa using this
            subst e1
            rw [k2] at hcur
            injection hcur with hcur
            injection hcur with hcur hty2 _
            subst hcur
            have hio' : io b' = some (some k) := hio
            rw [hks] at k3 k5
            by_cases hm0 : len = 0
            · exact nop A c hdv hm0
            · have hA' := hA (by omega)
              have hz0 := holds_zeros (E := envOf X io μ w) z hone len (len * z.length) (Nat.le_refl _)
              rw [hzl] at hz0
              have hzcs : zeroCs z.toArray (len * sz) = Builtin.zeroCells zv.cells len := by rw [hzc]; simp [zeroCs, Builtin.zeroCells, hzl]
              rw [hzcs] at hz0
              have hone2 : ∀ v ∈ (Builtin.zeroCells zv.cells len).toList, v.oneCell' = true := fun v hv => by
                rw [hzc] at hv
                simp only [Builtin.zeroCells, Array.toList_map, List.mem_map] at hv
                obtain ⟨p, hp, rfl⟩ := hv
                have hp0 : p % z.length < z.length := Nat.mod_lt _ (by omega)
                have : z.toArray[p % z.toArray.size]! = z[p % z.length] := by simp [hp0]
                rw [this]; exact hone _ (List.getElem_mem hp0)
              obtain ⟨hstc, hst⟩ := write_rows (P := P) hM (N := N) (off := off) (m := len) (news := (Builtin.zeroCells zv.cells len).toList) (xs := List.replicate len (z.map .v)) hb hmu hio' k2 hks hel hmx k3 k4 k5 (by omega) (by rw [Array.length_toList, size_zeroCells, hzc]; simp [hzl]) (by simp)
                (fun e he => by rw [List.eq_of_mem_replicate he]; simp [hzl]) hone2 (by simpa using hz0) (by rw [← hcc]; exact Nat.mul_le_mul_right _ (by omega)) (by omega)
              refine ⟨_, .tuple #[], _, io, ?_, .inl rfl, hst, .tup [] [] rfl (fun j x u h => by simp at h)⟩
              obtain ⟨len', rfl⟩ : ∃ l, len = l + 1 := ⟨len - 1, by omega⟩
              simp [execOp, ho, resolve, invoke, builtin, Builtin.clear_, run_underlying hu, hdv, hA', hzrun, hstc]
      · cases h
    · cases h
  · cases h

omit hM hN hμN in
theorem run_appz_grow {t tn ty e n m c : Nat} {i : TypeInfo} {A : Option Addr} {zv : Value} {kk : IntKind} (ht : P.underlying t = some (.slice e)) (htn : P.underlying tn = some (.int kk)) (hi : P.info? e = some i) (hz : i.zero = some zv) (hs0 : 0 < i.size) {olds : List Value}
    (hlo : olds.length = n * i.size) (hA : A = none → n = 0) (hco : ∀ a, A = some a → ∀ j v, olds[j]? = some v → w.cell? (a.add j) = some v) (hm : 0 < m)
    (hgr : c < n + m) (h63 : ((n + m : Nat) : Int) ≤ 9223372036854775807) (h48 : m * i.bytes ≤ 281474976710656) (hfit : Builtin.nextslicecap (n + m) c * i.bytes ≤ 281474976710656) :
    (Builtin.append_ #[t, tn] ty #[.slice A n c, .int .i64 (m : Int)]).run P w =
      .ok (.slice (some ⟨w.heap.size, 0, none⟩) (n + m) (grownCap w (n + m) c e))
        (w.drew.alloc (.cells (olds.toArray ++ (Builtin.zeroCells zv.cells m).toList.toArray ++ Builtin.zeroCells zv.cells (grownCap w (n + m) c e - (n + m))) e)) := by
  have hw : IntKind.i64.wrap (m : Int) = m := by rw [IntKind.wrap_i64]; omega
  have hneg : ¬ ((m : Int) < 0) := by omega
  have hns : ¬ (m * i.size = 0) := Nat.mul_ne_zero (by omega) (by omega)
  have h48i : ¬ (281474976710656 < (m : Int) * (i.bytes : Int)) := by rw [← Int.natCast_mul]; omega
  have hn : ¬ (n + m ≤ c) := by omega
  have h63' : ¬ (9223372036854775807 < ((n : Int) + (m : Int))) := by omega
  have h48' : ¬ (281474976710656 < Builtin.nextslicecap (n + m) c * i.bytes) := by omega
  have hfo := run_first (P := P) (w := w.drew) (A := A) (m := n) (c := c) (sz := i.size) (us := olds) hlo hA (fun a ha j v hv => by simpa using hco a ha j v hv)
  have hm0 : ¬ m = 0 := by omega
  have hs1 : ¬ i.size = 0 := by omega
  simp [Builtin.append_, run_underlying ht, run_underlying htn, sizeOf, typeInfo, zeroValue, hi, hz, asInt, asIntOf, hw, hneg, hns, hm0, hs1, hn, h63', h48', h48i, Question.forced, hfo, newRow, grownCap]

/-- A row grown, of elements and zeros. -/
theorem appz_grown {t tn ty e n b : Nat} {z : List Value} {kk : IntKind} (ht : telinfo P t = some (e, n, b, z)) (htn : P.underlying tn = some (.int kk)) {A : Option Addr} {len c m : Nat} {es : List (List AV)} {olds : List Value} (hm : 0 < m) (hlen : len + m ≤ 1000000) (hroom : c < len + m)
    (hes : es.length = len) (hel : ∀ e ∈ es, e.length = n) (hlo : olds.length = len * n) (hA : A = none → len = 0) (hco : ∀ a, A = some a → ∀ j v, olds[j]? = some v → w.cell? (a.add j) = some v) (hHo : Holds (envOf X io μ w) olds.toArray n es) :
    ∃ v w' io', (Builtin.append_ #[t, tn] ty #[.slice A len c, .int .i64 (m : Int)]).run P w = .ok v w' ∧ Step X N io μ w io' (app μ [(N, some ⟨true, e, n, es ++ List.replicate m (z.map AV.v), none⟩)]) w' ∧ Rel (envOf X io' (app μ [(N, some ⟨true, e, n, es ++ List.replicate m (z.map AV.v), none⟩)]) w') (.row N n 0 (len + m)) v := by
  obtain ⟨hu, inf, hinf, hsz, hby, ⟨zv, hzv, hzc⟩, hpos, hb, hzl, hone⟩ := telinfo_inv ht
  have hbb : (len + m) * inf.bytes ≤ 140737488355328 := by
    have := Nat.mul_le_mul hlen (show inf.bytes ≤ 100000 by rw [hby]; exact hb)
    omega
  have hmb : m * inf.bytes ≤ (len + m) * inf.bytes := Nat.mul_le_mul_right _ (by omega)
  have hg := run_appz_grow (P := P) (w := w) (ty := ty) (n := len) (m := m) (c := c) (A := A) hu htn hinf hzv (by omega) (olds := olds) (by rw [hsz]; exact hlo) hA hco hm hroom (by omega) (by omega) (growslice_fits hroom hbb)
  have hge := grownCap_ge w (len + m) c e
  have hcm := grownCap_le_maxLen w (len + m) c e (by unfold maxLen; omega)
  have hd := step_drew (N := N) hM (w.drawn + 1)
  generalize hG : grownCap w (len + m) c e = G at hg hge hcm
  have hnl : (Builtin.zeroCells zv.cells m).toList.length = m * n := by rw [Array.length_toList, size_zeroCells, hzc]; simp [hzl]
  have hnl2 : (Builtin.zeroCells z.toArray m).toList.length = m * n := by rw [← hzc]; exact hnl
  have hsize : (olds.toArray ++ (Builtin.zeroCells zv.cells m).toList.toArray ++ Builtin.zeroCells zv.cells (G - (len + m))).size = G * n := by
    simp only [Array.size_append, List.size_toArray, hnl2, size_zeroCells, hzc, hzl, hlo]
    rw [← Nat.add_mul, ← Nat.add_mul]; congr 1; omega
  have hz0 := holds_zeros (E := envOf X io μ w) z hone m (m * z.length) (Nat.le_refl _)
  rw [hzl] at hz0
  have hzcs : zeroCs z.toArray (m * n) = Builtin.zeroCells zv.cells m := by rw [hzc]; simp [zeroCs, Builtin.zeroCells, hzl]
  rw [hzcs] at hz0
  have hxl : ∀ e ∈ List.replicate m (z.map AV.v), e.length = n := fun e he => by rw [List.eq_of_mem_replicate he]; simp [hzl]
  have hH2 : Holds (envOf X io μ w.drew) (olds.toArray ++ (Builtin.zeroCells zv.cells m).toList.toArray ++ Builtin.zeroCells zv.cells (G - (len + m))) n (es ++ List.replicate m (z.map AV.v)) := by
    have := grown_holds (E := envOf X io μ w) (news := (Builtin.zeroCells zv.cells m).toList) hlo hnl hes hel hxl (by simp) hHo (by simpa using hz0) (Builtin.zeroCells zv.cells (G - (len + m)))
    intro i j x hx
    obtain ⟨u, h1, h2, h3⟩ := this i j x hx
    exact ⟨u, h1, h2, h3.mono hd.le⟩
  have hst := step_alloc hd.mem hN hμN ⟨true, e, n, es ++ List.replicate m (z.map AV.v), none⟩ (olds.toArray ++ (Builtin.zeroCells zv.cells m).toList.toArray ++ Builtin.zeroCells zv.cells (G - (len + m)))
    (fun e he => by rcases List.mem_append.1 he with h | h; exact hel e h; exact hxl e h) (by show (es ++ List.replicate m (z.map AV.v)).length ≤ maxLen; rw [List.length_append, hes, List.length_replicate]; unfold maxLen; omega)
    (by show (es ++ List.replicate m (z.map AV.v)).length * n ≤ _; rw [hsize, List.length_append, hes, List.length_replicate]; exact Nat.mul_le_mul_right _ hge) (fun c h => by cases h) hH2
  refine ⟨_, _, _, hg, hd.trans hst, ?_⟩
  have := Rel.row (E := envOf X (upd io N (some (some w.heap.size))) (upd μ N (some ⟨true, e, n, es ++ List.replicate m (z.map AV.v), none⟩)) (w.drew.alloc (.cells (olds.toArray ++ (Builtin.zeroCells zv.cells m).toList.toArray ++ Builtin.zeroCells zv.cells (G - (len + m))) e))) N n 0 (len + m) w.heap.size G (some ⟨w.heap.size, 0, none⟩) _ e (upd_same _ _ _) (fun _ => by simp) (heap_alloc_new w.drew _) (by rw [hsize, Nat.zero_add]) hge (by rw [Nat.zero_add]; exact hcm)
  exact this

include hg in
theorem ok_appendz {o : Oper} (t tn e n b : Nat) (z : List Value) (kk : IntKind) (s x : Operand) (ho : o.op = .call { callee := .builtin .append, args := #[s, x], argTypes := #[t, tn] }) (ht : telinfo P t = some (e, n, b, z)) (htn : P.underlying tn = some (.int kk))
    {r : AV} {wr : Wr} (h : evalCO g μ N (.appendz e n b z s x) = some (r, wr)) : OpOK P X N io μ w a o r wr := by
  obtain ⟨hu, inf, hinf, hsz, hby, ⟨zv, hzv, hzc⟩, hpos, hbb, hzl, hone⟩ := telinfo_inv ht
  have out : ∀ {v w' io'}, (Builtin.append_ #[t, tn] o.type #[a.eval s, a.eval x]).run P w = .ok v w' → Step X N io μ w io' (app μ wr) w' → Rel (envOf X io' (app μ wr) w') r v → OpOK P X N io μ w a o r wr := fun {v w' io'} h1 h2 h3 => ⟨_, v, w', io', by simp [execOp, ho, resolve, invoke, builtin, h1], .inl rfl, h2, h3⟩
  simp only [evalCO] at h
  split at h
  · rename_i q hq
    split at h
    · rename_i hq0
      have hxv := rel_v (hq ▸ ev_rel hg x)
      obtain ⟨m, rfl⟩ : ∃ m : Nat, q = (m : Int) := ⟨q.toNat, by omega⟩
      simp only [Int.toNat_natCast] at h
      have empty : ∀ A, a.eval s = .slice A 0 0 → (if m ≤ 1000000 then some (AV.row N n 0 m, [(N, some (⟨true, e, n, List.replicate m (z.map AV.v), none⟩ : Blk))]) else none) = some (r, wr) → OpOK P X N io μ w a o r wr := fun A hsv h => by
        split at h
        · rename_i hle
          simp only [Option.some.injEq, Prod.mk.injEq] at h
          obtain ⟨rfl, rfl⟩ := h
          by_cases hm : m = 0
          · subst hm
            have hrun : (Builtin.append_ #[t, tn] o.type #[.slice A 0 0, .int .i64 ((0 : Nat) : Int)]).run P w = .ok (.slice A 0 0) w := by
              have hw : IntKind.i64.wrap 0 = 0 := by rw [IntKind.wrap_i64]; omega
              cases A <;> simp [Builtin.append_, run_underlying hu, run_underlying htn, sizeOf, typeInfo, hinf, asInt, asIntOf, hw, storeCells]
            rw [← hsv, ← hxv] at hrun
            exact out hrun (step_phantom hM hN hμN _ rfl) (by rw [hsv] at *; exact .rowz _ _ _ (upd_same _ _ _))
          · obtain ⟨v, w', io', h1, h2, h3⟩ := appz_grown (P := P) (ty := o.type) (A := A) (len := 0) (c := 0) (m := m) (es := []) (olds := []) hM hN hμN ht htn (by omega) (by omega) (by omega) rfl (fun e he => by cases he) (by simp) (fun _ => rfl) (fun a _ j v hv => by simp at hv) (fun i j x hx => by simp [cellAt] at hx)
            rw [← hsv, ← hxv] at h1
            simp only [List.nil_append, Nat.zero_add] at h2 h3
            exact out h1 h2 h3
        · cases h
      unfold appzAV at h
      split at h
      · rename_i hsx
        have hr := hsx ▸ ev_rel hg s
        generalize hv : a.eval s = v at hr
        cases hr with
        | z0 A => exact empty A hv h
      · rename_i hsx
        exact empty none (rel_v (hsx ▸ ev_rel hg s)) h
      · rename_i b' sz off len hsx
        split at h
        · rename_i blk hb
          split at h
          · rename_i c0 hcap
            split at h
            · rename_i hc
              obtain ⟨rfl, hks, hne, hol, hmax, hgr⟩ := hc
              simp only [Option.some.injEq, Prod.mk.injEq] at h
              obtain ⟨rfl, rfl⟩ := h
              have hr := hsx ▸ ev_rel hg s
              have hrows : rowsAV μ sz (.row b' sz off len) = some ((blk.es.drop off).take len) := by
                simp only [rowsAV, hb]; rw [if_pos ⟨trivial, hks, hol⟩]
              obtain ⟨A, c, us, hu1, r1, r2, r3, r4, r5, r6, r7⟩ := rows_rel hM hrows hr
              have hlen : ((blk.es.drop off).take len).length = len := by simp; omega
              rw [hlen] at hu1 r1 r6
              obtain ⟨hel, hmx, hk⟩ := hM.ok b' blk hb
              rcases hk with ⟨_, k2⟩ | ⟨q, cur2, k1, k2, k3, k4, k5⟩
              · rw [k2] at hne; simp at hne
              · have hc0 : c < len + m := by
                  have hr' := hr
                  rw [hu1] at hr'
                  cases hr' with
                  | rowz _ _ A hz => rw [k1] at hz; cases hz
                  | row _ _ _ _ k c A cur ty' hio hA hcur hcc hlc hmc =>
                    have e1 : k = q := by have := hio.symm.trans k1; simpa using this
                    subst e1
                    rw [k2] at hcur
                    injection hcur with hcur
                    injection hcur with hcur _ _
                    subst hcur
                    have := k4 c0 hcap
                    rw [hks, ← hcc] at this
                    have := Nat.eq_of_mul_eq_mul_right hpos this
                    omega
                have hmpos : 0 < m := by omega
                obtain ⟨v, w', io', h1, h2, h3⟩ := appz_grown (P := P) (ty := o.type) (A := A) (len := len) (c := c) (m := m) (es := (blk.es.drop off).take len) (olds := us) hM hN hμN ht htn hmpos (by omega) hc0 hlen r5 r1 (fun h => by have := r2 h; rw [this] at hlen; simpa using hlen.symm) r3 r7
                rw [← hu1, ← hxv] at h1
                exact out h1 h2 h3
            · cases h
          · cases h
        · cases h
      · cases h
    · cases h
  · cases h

include hg in
theorem ok_mksl {o : Oper} (t e n b : Nat) (z : List Value) (l c : Operand) (ho : o.op = .makeSlice t l c) (ht : telinfo P t = some (e, n, b, z))
    {r : AV} {wr : Wr} (h : evalCO g μ N (.mksl e n b z l c) = some (r, wr)) : OpOK P X N io μ w a o r wr := by
  obtain ⟨hu, inf, hinf, hsz, hby, ⟨zv, hzv, hzc⟩, hpos, hbb, hzl, hone⟩ := telinfo_inv ht
  have hsize : tsz P e = some n := by simp [tsz, hinf, hsz]
  simp only [evalCO] at h
  split at h
  · rename_i m k hl hc
    split at h
    · rename_i hcnd
      obtain ⟨h0, h1, h2⟩ := hcnd
      simp only [Option.some.injEq, Prod.mk.injEq] at h
      obtain ⟨rfl, rfl⟩ := h
      subst hzl
      have hlv := rel_v (hl ▸ ev_rel hg l)
      have hcv := rel_v (hc ▸ ev_rel hg c)
      have hz0 := holds_zeros (E := envOf X io μ w) z hone m.toNat (k.toNat * z.length) (Nat.mul_le_mul_right _ (by omega))
      have hsz2 : (zeroCs z.toArray (k.toNat * z.length)).size = k.toNat * z.length := by simp [zeroCs]
      refine OpOK.alloc hM hN hμN ⟨true, e, z.length, List.replicate m.toNat (z.map AV.v), some k.toNat⟩ (zeroCs z.toArray (k.toNat * z.length)) (fun e he => by rw [List.eq_of_mem_replicate he]; simp) (by show (List.replicate _ _).length ≤ maxLen; rw [List.length_replicate]; unfold maxLen; omega)
        (by show (List.replicate _ _).length * _ ≤ _; rw [List.length_replicate, hsz2]; exact Nat.mul_le_mul_right _ (by omega)) (fun c hc => by injection hc with hc; subst hc; exact hsz2) hz0
        (v := .slice (some ⟨w.heap.size, 0, none⟩) m.toNat k.toNat) ?_ (fun E hE hb => ?_)
      · have hw1 : IntKind.i64.wrap m = m := by simp [IntKind.wrap, IntKind.bits, IntKind.signed]; omega
        have hw2 : IntKind.i64.wrap k = k := by simp [IntKind.wrap, IntKind.bits, IntKind.signed]; omega
        have hzrun : ∀ w, (zeroValue e).run P w = .ok zv w := fun w => by simp [zeroValue, typeInfo, hinf, hzv]
        have hk0 : 0 ≤ k := by omega
        have hb1 : ¬ (281474976710656 < (inf.bytes : Int) * k) := by
          have h3 : (inf.bytes : Int) * k ≤ 100000 * 1000000 := Int.mul_le_mul (by omega) h2 hk0 (by omega)
          omega
        have hm3 : ¬ (m < 0) := by omega
        have hk3 : ¬ (k < 0) := by omega
        have hmk : ¬ (k < m) := by omega
        by_cases hk00 : k.toNat * z.length = 0
        · have e2 : zeroCs z.toArray 0 = #[] := by simp [zeroCs]
          have hr0 : ∀ f : Nat → Value, (Array.range 0).map f = #[] := fun f => by simp
          simp only [execOp, ho, Instr.makeSlice, Sem.run_bind, run_underlying hu, Result.andThen_ok, hlv, hcv, asInt, asIntOf, Sem.run_pure]
          simp [typeInfo, hinf, hw1, hw2, hm3, hk3, hmk, hb1, askRoom, run_sizeOf hsize, hk00, hr0, newRow, e2]
        · simp only [execOp, ho, Instr.makeSlice, Sem.run_bind, run_underlying hu, Result.andThen_ok, hlv, hcv, asInt, asIntOf, Sem.run_pure]
          simp [typeInfo, hinf, hw1, hw2, hm3, hk3, hmk, hb1, askRoom, run_sizeOf hsize, hk00, hzrun, hzc, newRow, zeroCs]
      · have := Rel.row (E := E) N z.length 0 m.toNat w.heap.size k.toNat (some ⟨w.heap.size, 0, none⟩) _ e hE (fun _ => by simp) hb (by rw [hsz2, Nat.zero_add]) (by omega) (by rw [Nat.zero_add]; unfold maxLen; omega)
        exact this
    · cases h
  · cases h
end

end Go.Proofs.Ytneoeegpceompaa.AM

/-
The abstract machine, part 12: every operation; what an operation looks at.
-/
namespace Go.Proofs.Ytneoeegpceompaa.AM
open Go

variable {P : Program}

/-- Every operation that the compact code has (but calls) runs as it says. -/
theorem evalCO_sound {X : Nat → Prop} {N : Nat} {io : Nat → Option (Option Nat)} {μ : Mu} {w : World} {a : Act} {g : Nat → AV} (hM : Mem X io μ w) (hg : ∀ t, Rel (envOf X io μ w) (g t) (a.tmps.getD t undef)) (hN : io N = none) (hμN : μ N = none)
    (o : Oper) {r : AV} {wr : Wr} (h : evalCO g μ N (compOp P o.op) = some (r, wr)) : OpOK P X N io μ w a o r wr := by
  have bad : ∀ {q : Prop}, evalCO g μ N .bad = some (r, wr) → q := fun h => by simp [evalCO] at h
  cases hop : o.op with
  | move x => rw [hop] at h; exact ok_mov hM hg x (.inl hop) h
  | assign x => rw [hop] at h; exact ok_mov hM hg x (.inr hop) h
  | pick c x y => rw [hop] at h; exact ok_pick hM hg c x y hop h
  | alloc e =>
    rw [hop] at h; simp only [compOp] at h
    split at h
    · rename_i z hz; exact ok_alloc hM hg hN hμN e z hop hz h
    · exact bad h
  | box e x =>
    rw [hop] at h; simp only [compOp] at h
    split at h
    · rename_i n hn; exact ok_box hM hg hN hμN e n x hop h
    · exact bad h
  | build t ps =>
    rw [hop] at h; simp only [compOp] at h
    split at h
    · rename_i z l hz hl _; exact ok_build hM hg t ps z l hop hz hl h
    · exact bad h
  | buildSlice t len ps =>
    rw [hop] at h; simp only [compOp] at h
    split at h
    · rename_i e n b z ht
      split at h
      · rename_i hle; exact ok_bslice hM hg hN hμN t e n b len z ps hop ht hle h
      · exact bad h
    · exact bad h
  | load t x =>
    rw [hop] at h; simp only [compOp] at h
    split at h
    · rename_i ag n hag hn
      split at h
      · rename_i h1; exact ok_load hM hg t n ag x hop hag hn h1 h
      · exact bad h
    · exact bad h
  | store t x y =>
    rw [hop] at h; simp only [compOp] at h
    split at h
    · rename_i n hn; exact ok_store hM hg t n x y hop hn h
    · exact bad h
  | nilCheck x => rw [hop] at h; exact ok_nilck hM hg x hop h
  | binOp op t x y t' =>
    rw [hop] at h; simp only [compOp, compBin] at h
    split at h
    · rename_i fs hu
      split at h
      · rename_i l hl
        split at h
        · exact bad h
        · rename_i hgd; exact ok_eqs hM hg .eql false t t' fs l x y hop (.inl ⟨rfl, rfl⟩) hu hl (by simpa using hgd) h
      · rename_i l hl
        split at h
        · exact bad h
        · rename_i hgd; exact ok_eqs hM hg .neq true t t' fs l x y hop (.inr ⟨rfl, rfl⟩) hu hl (by simpa using hgd) h
      · exact bad h
    · rename_i e hu
      split at h
      · split at h
        · rename_i hy; exact ok_nilcmp hM hg .eql false t t' e x y hop (.inl ⟨rfl, rfl⟩) hu hy h
        · exact bad h
      · split at h
        · rename_i hy; exact ok_nilcmp hM hg .neq true t t' e x y hop (.inr ⟨rfl, rfl⟩) hu hy h
        · exact bad h
      · exact bad h
    · exact ok_bin hM hg op t t' x y hop h
    · exact ok_bin hM hg op t t' x y hop h
    · rename_i hu
      split at h
      · exact ok_beq hM hg .eql false t t' x y hop (.inl ⟨rfl, rfl⟩) hu h
      · exact ok_beq hM hg .neq true t t' x y hop (.inr ⟨rfl, rfl⟩) hu h
      · exact bad h
    · exact bad h
  | unOp op t x => rw [hop] at h; exact ok_un hM hg op t x hop h
  | convert s d x =>
    rw [hop] at h; simp only [compOp] at h
    split at h
    · rename_i k0 k hs hd; exact ok_conv hM hg s d k k0 x hop hs hd h
    · exact bad h
  | makeFunc fn first caps =>
    rw [hop] at h; simp only [compOp] at h
    cases fn with
    | func f =>
      simp only at h
      split at h
      · rename_i h0; subst h0; exact ok_mkfn hM hg f caps hop h
      · exact bad h
    | _ => exact bad h
  | makeSlice t l c =>
    rw [hop] at h; simp only [compOp] at h
    split at h
    · rename_i e n b z ht; exact ok_mksl hM hg hN hμN t e n b z l c hop ht h
    · exact bad h
  | slice t x lo hi mx =>
    rw [hop] at h; simp only [compOp] at h
    split at h
    · rename_i e n b z ht; exact ok_slice hM hg t e n b z x lo hi mx hop ht h
    · exact bad h
  | fieldAddr t x f =>
    rw [hop] at h; simp only [compOp] at h
    split at h
    · rename_i off u hf
      split at h
      · rename_i n hn
        split at h
        · exact bad h
        · rename_i h0; exact ok_faddr hM hg t f u n off x hop hf hn h0 h
      · exact bad h
    · exact bad h
  | field t x f =>
    rw [hop] at h; simp only [compOp] at h
    split at h
    · rename_i off u hf
      split at h
      · rename_i ag n hag hn
        split at h
        · rename_i h1; exact ok_field hM hg t f u n off ag x hop hf hag hn h1 h
        · exact bad h
      · exact bad h
    · exact bad h
  | indexAddr t x i =>
    rw [hop] at h; simp only [compOp] at h
    split at h
    · rename_i e n b z ht; exact ok_iaddr hM hg t e n b z x i hop ht h
    · exact bad h
  | index t x i =>
    rw [hop] at h; simp only [compOp] at h
    split at h
    · rename_i len e hu
      split at h
      · rename_i ag n hag hn
        split at h
        · rename_i h1; exact ok_aindex hM hg t e n len ag x i hop hu hag hn h1 h
        · exact bad h
      · exact bad h
    · rename_i hu; exact ok_sindex hM hg t x i hop hu h
    · exact bad h
  | extract x i => rw [hop] at h; exact ok_ext hM hg x i hop h
  | call c =>
    rw [hop] at h; simp only [compOp] at h
    obtain ⟨callee, args, ats⟩ := c
    unfold compCall at h
    split at h
    · simp [evalCO] at h
    · rename_i x t hc ha ht
      simp only at hc ha ht
      have ha' : args = #[x] := by rw [← Array.toArray_toList (xs := args), ha]
      have ht' : ats = #[t] := by rw [← Array.toArray_toList (xs := ats), ht]
      subst hc; subst ha'; subst ht'
      split at h
      · rename_i e hu; exact ok_len hM hg t e x hop hu h
      · rename_i hu; exact ok_slen hM hg t x hop hu h
      · exact bad h
    · rename_i x t hc ha ht
      simp only at hc ha ht
      have ha' : args = #[x] := by rw [← Array.toArray_toList (xs := args), ha]
      have ht' : ats = #[t] := by rw [← Array.toArray_toList (xs := ats), ht]
      subst hc; subst ha'; subst ht'
      split at h
      · rename_i e hu; exact ok_cap hM hg t e x hop hu h
      · exact bad h
    · rename_i x y hc ha
      simp only at hc ha
      have ha' : args = #[x, y] := by rw [← Array.toArray_toList (xs := args), ha]
      subst hc; subst ha'
      exact ok_min hM hg x y ats hop h
    · rename_i x y hc ha
      simp only at hc ha
      have ha' : args = #[x, y] := by rw [← Array.toArray_toList (xs := args), ha]
      subst hc; subst ha'
      exact ok_max hM hg x y ats hop h
    · rename_i s x t u hc ha ht
      simp only at hc ha ht
      have ha' : args = #[s, x] := by rw [← Array.toArray_toList (xs := args), ha]
      have ht' : ats = #[t, u] := by rw [← Array.toArray_toList (xs := ats), ht]
      subst hc; subst ha'; subst ht'
      split at h
      · rename_i e n b z e' hti hu
        split at h
        · rename_i htu; subst htu; exact ok_append hM hg hN hμN t e n b z s x hop hti h
        · exact bad h
      · rename_i e n b z kk hti hu; exact ok_appendz hM hg hN hμN t u e n b z kk s x hop hti hu h
      · exact bad h
    · rename_i d s t u hc ha ht
      simp only at hc ha ht
      have ha' : args = #[d, s] := by rw [← Array.toArray_toList (xs := args), ha]
      have ht' : ats = #[t, u] := by rw [← Array.toArray_toList (xs := ats), ht]
      subst hc; subst ha'; subst ht'
      split at h
      · rename_i e0 n _ _ e' hti hu; exact ok_copy hM hg t u e0 n _ e' _ d s hop hti hu h
      · exact bad h
    · rename_i x t hc ha ht
      simp only at hc ha ht
      have ha' : args = #[x] := by rw [← Array.toArray_toList (xs := args), ha]
      have ht' : ats = #[t] := by rw [← Array.toArray_toList (xs := ats), ht]
      subst hc; subst ha'; subst ht'
      split at h
      · rename_i e n b z hti; exact ok_clear hM hg t e n b z x hop hti h
      · exact bad h
    · exact bad h
  | _ => rw [hop] at h; exact bad h

end Go.Proofs.Ytneoeegpceompaa.AM

/-
The abstract machine, part 13: contracts, and a call by its contract.
-/
namespace Go.Proofs.Ytneoeegpceompaa.AM
open Go

variable {P : Program}

/-! ### What is written -/

def lookW : Wr → Nat → Option (Option Blk)
  | [], _ => none
  | (c, x) :: r, b => match lookW r b with
    | some y => some y
    | none => if b = c then some x else none

theorem app_look (μ : Mu) (wr : Wr) (b : Nat) : app μ wr b = (lookW wr b).getD (μ b) := by
  induction wr generalizing μ with
  | nil => rfl
  | cons p r ih =>
    obtain ⟨c, x⟩ := p
    simp only [app, lookW]
    rw [ih]
    cases h : lookW r b with
    | some y => rfl
    | none =>
      simp only [Option.getD_none, upd]
      split <;> rfl

theorem app_append (μ : Mu) (a b : Wr) : app μ (a ++ b) = app (app μ a) b := by
  induction a generalizing μ with
  | nil => rfl
  | cons p r ih => obtain ⟨c, x⟩ := p; simp only [List.cons_append, app]; exact ih _

def preMu (pre : List (Nat × Blk)) : Mu := app (fun _ => none) (pre.map fun p => (p.1, some p.2))

theorem lookW_mem {wr : Wr} {b : Nat} {x : Option Blk} (h : lookW wr b = some x) : (b, x) ∈ wr := by
  induction wr with
  | nil => cases h
  | cons p r ih =>
    obtain ⟨c, y⟩ := p
    simp only [lookW] at h
    split at h
    · rename_i z hz
      injection h with h
      subst h
      exact List.mem_cons_of_mem _ (ih hz)
    · split at h
      · rename_i hbc
        injection h with h
        subst h; subst hbc
        exact List.mem_cons_self
      · cases h

/-! ### Names -/

def nm0 (d k : Nat) : Nat := 2 ^ d * (2 * k + 1)

theorem nm0_inj {d k d' k' : Nat} : nm0 d k = nm0 d' k' ↔ d = d' ∧ k = k' := by
  constructor
  · induction d generalizing d' with
    | zero =>
      intro h
      cases d' with
      | zero => simp [nm0] at h; exact ⟨rfl, by omega⟩
      | succ e =>
        exfalso
        have : 2 ^ (e + 1) * (2 * k' + 1) = 2 * (2 ^ e * (2 * k' + 1)) := by rw [Nat.pow_succ, Nat.mul_comm (2 ^ e) 2, Nat.mul_assoc]
        simp only [nm0, Nat.pow_zero, Nat.one_mul] at h
        rw [this] at h
        omega
    | succ e ih =>
      intro h
      have h1 : 2 ^ (e + 1) * (2 * k + 1) = 2 * (2 ^ e * (2 * k + 1)) := by rw [Nat.pow_succ, Nat.mul_comm (2 ^ e) 2, Nat.mul_assoc]
      cases d' with
      | zero =>
        exfalso
        simp only [nm0, Nat.pow_zero, Nat.one_mul] at h
        rw [h1] at h
        omega
      | succ e' =>
        have h2 : 2 ^ (e' + 1) * (2 * k' + 1) = 2 * (2 ^ e' * (2 * k' + 1)) := by rw [Nat.pow_succ, Nat.mul_comm (2 ^ e') 2, Nat.mul_assoc]
        simp only [nm0] at h
        rw [h1, h2] at h
        obtain ⟨r1, r2⟩ := ih (d' := e') (by simp only [nm0]; omega)
        exact ⟨by rw [r1], r2⟩
  · rintro ⟨rfl, rfl⟩; rfl

/-- The names of a frame: four stand together. -/
def nm (d k : Nat) : Nat := 4 * nm0 d k

theorem nm_inj {d k d' k' : Nat} : nm d k = nm d' k' ↔ d = d' ∧ k = k' := by
  rw [← nm0_inj]; unfold nm; omega

/-- A name and its neighbours. -/
def nbr (N b : Nat) : Prop := N ≤ b ∧ b < N + 4

theorem nbr_self (N : Nat) : nbr N N := ⟨Nat.le_refl _, by omega⟩

theorem nbr_nm {d k d' k' b : Nat} (h : nbr (nm d k) b) (h' : nbr (nm d' k') b) : d = d' ∧ k = k' := by
  rw [← nm0_inj]; unfold nbr nm at h h'; omega

theorem nm_gt (d k : Nat) : d < nm d k := by
  have h1 : d < 2 ^ d := Nat.lt_two_pow_self
  have h2 : 2 ^ d * 1 ≤ 2 ^ d * (2 * k + 1) := Nat.mul_le_mul_left _ (by omega)
  unfold nm nm0
  omega

/-- The names of the frames from D on. -/
def Gar (D b : Nat) : Prop := ∃ d k, D ≤ d ∧ nbr (nm d k) b

theorem Gar.mono {D D' b : Nat} (h : Gar D' b) (hD : D ≤ D') : Gar D b := by obtain ⟨d, k, h1, h2⟩ := h; exact ⟨d, k, by omega, h2⟩
theorem gar_nbr {D d k b : Nat} (hb : nbr (nm d k) b) : Gar D b ↔ D ≤ d := ⟨fun ⟨d', k', h1, h2⟩ => by obtain ⟨rfl, _⟩ := nbr_nm hb h2; exact h1, fun h => ⟨d, k, h, hb⟩⟩
theorem gar_nm {D d k : Nat} : Gar D (nm d k) ↔ D ≤ d := gar_nbr (nbr_self _)
/-- A name that is no frame's has no neighbour in a frame. -/
theorem gar_of {D N b : Nat} (h4 : N % 4 = 0) (h : ¬ Gar D N) (hb : nbr N b) : ¬ Gar D b := fun ⟨d, k, h1, h2⟩ => h ⟨d, k, h1, by unfold nbr nm at *; omega⟩
theorem nm4 (d k : Nat) : nm d k % 4 = 0 := by unfold nm; omega

/-- A step, with whatever names it may have taken. -/
structure StepA (X : Nat → Prop) (A : Nat → Prop) (io : Nat → Option (Option Nat)) (μ : Mu) (w : World) (io' : Nat → Option (Option Nat)) (μ' : Mu) (w' : World) : Prop where
  mem : Mem X io' μ' w'
  ios : ∀ b k, io b = some k → io' b = some k
  os : w'.os = w.os
  tape : w'.tape = w.tape
  output : w'.output = w.output
  size : w.heap.size ≤ w'.heap.size
  keep : ∀ k, k < w.heap.size → (∀ b blk, μ b = some blk → blk.mu = true → io b ≠ some (some k)) → w'.heap[k]? = w.heap[k]?
  shape : ∀ (k : Nat) (cur : Array Value) (ty : TypeId), w.heap[k]? = some (.cells cur ty (0, 0)) → ∃ cur' : Array Value, w'.heap[k]? = some (.cells cur' ty (0, 0)) ∧ cur'.size = cur.size
  own : ∀ b blk k, μ' b = some blk → blk.mu = true → io' b = some (some k) → (∃ b0 blk0, μ b0 = some blk0 ∧ blk0.mu = true ∧ io b0 = some (some k)) ∨ w.heap.size ≤ k
  free : ∀ b, ¬ A b → io b = none → io' b = none
  top : (∃ D, ∀ b, Gar D b → io b = none) → ∃ D, ∀ b, Gar D b → io' b = none

theorem Mem.unused {X : Nat → Prop} {io : Nat → Option (Option Nat)} {μ : Mu} {w : World} (h : Mem X io μ w) {b : Nat} (hb : io b = none) : μ b = none := by
  cases hm : μ b with
  | none => rfl
  | some blk =>
    obtain ⟨_, _, h⟩ := h.ok b blk hm
    rcases h with ⟨h, _⟩ | ⟨p, cur, h, _⟩
    · have h' : io b = some none := h
      rw [hb] at h'; cases h'
    · have h' : io b = some (some p) := h
      rw [hb] at h'; cases h'

theorem Step.toA {X : Nat → Prop} {N : Nat} {io : Nat → Option (Option Nat)} {μ : Mu} {w : World} {io' : Nat → Option (Option Nat)} {μ' : Mu} {w' : World} (hM : Mem X io μ w) (h : Step X N io μ w io' μ' w') {A : Nat → Prop} (hA : A N) : StepA X A io μ w io' μ' w' where
  mem := h.mem
  ios := h.ios
  os := h.os
  tape := h.tape
  output := h.output
  size := h.size
  keep := h.keep
  shape := h.shape
  own := h.own
  free b hb hn := (h.free b (fun e => hb (e ▸ hA)) hn (hM.unused hn)).1
  top := fun ⟨D, hD⟩ => ⟨max D (N + 1), fun b hb => by
    have hbN : b ≠ N := by
      obtain ⟨d, k, h1, h2⟩ := hb
      have := nm_gt d k
      have := h2.1
      omega
    have hn := hD b (hb.mono (by omega))
    exact (h.free b hbN hn (hM.unused hn)).1⟩

theorem StepA.le {X A : Nat → Prop} {io : Nat → Option (Option Nat)} {μ : Mu} {w : World} {io' : Nat → Option (Option Nat)} {μ' : Mu} {w' : World} (h : StepA X A io μ w io' μ' w') :
    (envOf X io μ w).Le (envOf X io' μ' w') := le_of h.ios h.size h.keep h.shape h.own

theorem StepA.trans {X A : Nat → Prop} {io : Nat → Option (Option Nat)} {μ : Mu} {w : World} {io1 : Nat → Option (Option Nat)} {μ1 : Mu} {w1 : World} {io2 : Nat → Option (Option Nat)} {μ2 : Mu} {w2 : World}
    (h : StepA X A io μ w io1 μ1 w1) (k : StepA X A io1 μ1 w1 io2 μ2 w2) : StepA X A io μ w io2 μ2 w2 where
  mem := k.mem
  ios b x hx := k.ios b x (h.ios b x hx)
  os := k.os.trans h.os
  tape := k.tape.trans h.tape
  output := k.output.trans h.output
  size := Nat.le_trans h.size k.size
  keep p hp hn := by
    rw [k.keep p (Nat.lt_of_lt_of_le hp h.size) (fun b blk hb hm hio => ?_)]
    · exact h.keep p hp hn
    · rcases h.own b blk p hb hm hio with ⟨b0, blk0, h1, h2, h3⟩ | h1
      · exact hn b0 blk0 h1 h2 h3
      · omega
  shape p cur ty hc := by
    obtain ⟨c1, h1, s1⟩ := h.shape p cur ty hc
    obtain ⟨c2, h2, s2⟩ := k.shape p c1 ty h1
    exact ⟨c2, h2, s2.trans s1⟩
  own b blk p hb hm hk := by
    rcases k.own b blk p hb hm hk with ⟨b0, blk0, h1, h2, h3⟩ | h1
    · exact h.own b0 blk0 p h1 h2 h3
    · exact .inr (Nat.le_trans h.size h1)
  free b hA hn := k.free b hA (h.free b hA hn)
  top hD := k.top (h.top hD)

/-! ### Contracts -/

/-- THE CONTRACT OF A FUNCTION: called with such arguments, and with such blocks of the caller's own, it returns such a value and leaves such blocks; nothing else changes. -/
def FSpec (P : Program) (N : Nat) (k : FuncId) (args : List AV) (pre : List (Nat × Blk)) (r : AV) (post : Wr) : Prop :=
  ∀ (X : Nat → Prop) (io : Nat → Option (Option Nat)) (w : World) (vs : List Value) (D : Nat), Mem X io (preMu pre) w → Rels (envOf X io (preMu pre) w) args vs → N % 4 = 0 → (∀ b, nbr N b → io b = none) → (∀ b, Gar D b → io b = none) → ¬ Gar D N →
    Calls P k vs.toArray w fun e w' => ∃ v io', e = .returned v ∧ StepA X (fun b => nbr N b ∨ Gar D b) io (preMu pre) w io' (app (preMu pre) post) w' ∧ Rel (envOf X io' (app (preMu pre) post) w') r v

/-- The blocks of the caller's own that the callee isn't told of. -/
def Others (X : Nat → Prop) (io : Nat → Option (Option Nat)) (μ : Mu) (pre : Mu) (k : Nat) : Prop := X k ∨ ∃ b blk, μ b = some blk ∧ blk.mu = true ∧ io b = some (some k) ∧ pre b = none

section
variable {X : Nat → Prop} {io : Nat → Option (Option Nat)} {μ pre : Mu} {w : World}

theorem sub_le (hM : Mem X io μ w) (hsub : ∀ b blk, pre b = some blk → μ b = some blk) : (envOf X io μ w).Le (envOf (Others X io μ pre) io pre w) where
  im k h := ⟨⟨h.1, fun hx => by
      rcases hx with hx | ⟨b, blk, h1, h2, h3, _⟩
      · exact h.2.1 hx
      · exact h.2.2 b blk h1 h2 h3, fun b blk hb hm => h.2.2 b blk (hsub b blk hb) hm⟩, rfl⟩
  io _ _ h := h
  shape _ cur _ h := ⟨cur, h, rfl⟩

theorem sub_mem (hM : Mem X io μ w) (hsub : ∀ b blk, pre b = some blk → μ b = some blk) : Mem (Others X io μ pre) io pre w where
  ok b blk hb := (hM.ok b blk (hsub b blk hb)).mono (sub_le hM hsub) (fun _ _ => rfl)
  inj b b' blk blk' k h1 h2 := hM.inj b b' blk blk' k (hsub _ _ h1) (hsub _ _ h2)
  lt := hM.lt
  notX b blk k hb hk hx := by
    rcases hx with hx | ⟨b', blk', h1, h2, h3, h4⟩
    · exact hM.notX b blk k (hsub _ _ hb) hk hx
    · have := hM.inj b' b blk' blk k h1 (hsub _ _ hb) h2 h3 hk
      subst this
      rw [hb] at h4; cases h4
  xlt k hx := by
    rcases hx with hx | ⟨b, blk, h1, h2, h3, _⟩
    · exact hM.xlt k hx
    · exact hM.lt b k h3

/-- What a callee has done, seen by its caller. -/
theorem frame_step {A : Nat → Prop} (hM : Mem X io μ w) (hsub : ∀ b blk, pre b = some blk → μ b = some blk) {io' : Nat → Option (Option Nat)} {w' : World} {post : Wr}
    (hs : StepA (Others X io μ pre) A io pre w io' (app pre post) w') :
    StepA X A io μ w io' (app μ post) w' ∧ (envOf (Others X io μ pre) io' (app pre post) w').Le (envOf X io' (app μ post) w') := by
  have hio : ∀ b blk, μ b = some blk → io' b = io b := fun b blk hb => by
    cases hc : io b with
    | some x => exact hs.ios b x hc
    | none => rw [hM.unused hc] at hb; cases hb
  -- a block behind the call: the callee's, or one that it wasn't told of
  have look : ∀ b blk, app μ post b = some blk → app pre post b = some blk ∨ (μ b = some blk ∧ pre b = none) := fun b blk hb => by
    rw [app_look] at hb
    cases hl : lookW post b with
    | some x =>
      rw [hl] at hb
      left
      rw [app_look, hl]; exact hb
    | none =>
      rw [hl] at hb
      simp only [Option.getD_none] at hb
      cases hp : pre b with
      | some bk =>
        left
        rw [app_look, hl]
        have := hsub b bk hp
        rw [hb] at this
        injection this with this
        subst this
        exact hp
      | none => right; exact ⟨hb, rfl⟩
  have keepO : ∀ b blk k, μ b = some blk → pre b = none → io b = some (some k) → w'.heap[k]? = w.heap[k]? := fun b blk k hb hp hk =>
    hs.keep k (hM.lt b k hk) (fun b' blk' hb' hm' hk' => by
      have := hM.inj b' b blk' blk k (hsub _ _ hb') hb hm' hk' hk
      subst this
      rw [hp] at hb'; cases hb')
  have own : ∀ b blk k, app μ post b = some blk → blk.mu = true → io' b = some (some k) → (∃ b0 blk0, μ b0 = some blk0 ∧ blk0.mu = true ∧ io b0 = some (some k)) ∨ w.heap.size ≤ k := fun b blk k hb hm hk => by
    rcases look b blk hb with h | ⟨h, hp⟩
    · rcases hs.own b blk k h hm hk with ⟨b0, blk0, h1, h2, h3⟩ | h1
      · exact .inl ⟨b0, blk0, hsub _ _ h1, h2, h3⟩
      · exact .inr h1
    · rw [hio b blk h] at hk
      exact .inl ⟨b, blk, h, hm, hk⟩
  have keep : ∀ k, k < w.heap.size → (∀ b blk, μ b = some blk → blk.mu = true → io b ≠ some (some k)) → w'.heap[k]? = w.heap[k]? := fun k hk h => hs.keep k hk (fun b blk hb => h b blk (hsub _ _ hb))
  have le := le_of (X := X) hs.ios hs.size keep hs.shape own
  have le2 : (envOf (Others X io μ pre) io' (app pre post) w').Le (envOf X io' (app μ post) w') := ⟨fun k h => ⟨⟨h.1, fun hx => h.2.1 (.inl hx), fun b blk hb hm hk => by
      rcases look b blk hb with h1 | ⟨h1, hp⟩
      · exact h.2.2 b blk h1 hm hk
      · rw [hio b blk h1] at hk
        exact h.2.1 (.inr ⟨b, blk, h1, hm, hk, hp⟩)⟩, rfl⟩, fun _ _ h => h, fun _ cur _ h => ⟨cur, h, rfl⟩⟩
  refine ⟨⟨⟨fun b blk hb => ?_, fun b b' blk blk' k h1 h2 hm h3 h4 => ?_, fun b k hk => ?_, fun b blk k hb hk => ?_, fun k hk => Nat.lt_of_lt_of_le (hM.xlt k hk) hs.size⟩, hs.ios, hs.os, hs.tape, hs.output, hs.size, keep, hs.shape, own, hs.free, hs.top⟩, le2⟩
  · rcases look b blk hb with h | ⟨h, hp⟩
    · exact (hs.mem.ok b blk h).mono le2 (fun _ _ => rfl)
    · exact (hM.ok b blk h).mono le (fun p hk => keepO b blk p h hp hk)
  · rcases look b blk h1 with g1 | ⟨g1, p1⟩ <;> rcases look b' blk' h2 with g2 | ⟨g2, p2⟩
    · exact hs.mem.inj b b' blk blk' k g1 g2 hm h3 h4
    · exfalso
      rw [hio b' blk' g2] at h4
      rcases hs.own b blk k g1 hm h3 with ⟨b0, blk0, q1, q2, q3⟩ | q1
      · have := hM.inj b0 b' blk0 blk' k (hsub _ _ q1) g2 q2 q3 h4
        subst this
        rw [p2] at q1; cases q1
      · have := hM.lt b' k h4; omega
    · exfalso
      rw [hio b blk g1] at h3
      exact hs.mem.notX b' blk' k g2 h4 (.inr ⟨b, blk, g1, hm, h3, p1⟩)
    · rw [hio b blk g1] at h3; rw [hio b' blk' g2] at h4
      exact hM.inj b b' blk blk' k g1 g2 hm h3 h4
  · exact hs.mem.lt b k hk
  · rcases look b blk hb with h | ⟨h, hp⟩
    · exact fun hx => hs.mem.notX b blk k h hk (.inl hx)
    · rw [hio b blk h] at hk; exact hM.notX b blk k h hk
end

/-- A call, by its contract. -/
theorem call_ok {X : Nat → Prop} {io : Nat → Option (Option Nat)} {μ : Mu} {w : World} {N k D : Nat} {args : List AV} {vs : List Value} {pre : List (Nat × Blk)} {r : AV} {post : Wr} (hF : FSpec P N k args pre r post) (hM : Mem X io μ w)
    (hsub : ∀ b blk, preMu pre b = some blk → μ b = some blk) (h4 : N % 4 = 0) (hN : ∀ b, nbr N b → io b = none) (hD : ∀ b, Gar D b → io b = none) (hND : ¬ Gar D N) (hargs : Rels (envOf X io μ w) args vs) :
    Calls P k vs.toArray w fun e w' => ∃ v io', e = .returned v ∧ StepA X (fun b => nbr N b ∨ Gar D b) io μ w io' (app μ post) w' ∧ Rel (envOf X io' (app μ post) w') r v := by
  refine (hF _ io w vs D (sub_mem hM hsub) (hargs.mono (sub_le hM hsub)) h4 hN hD hND).mono fun e w' h => ?_
  obtain ⟨v, io', he, hs, hr⟩ := h
  obtain ⟨h1, h2⟩ := frame_step hM hsub hs
  exact ⟨v, io', he, h1, hr.mono h2⟩

/-! ### The same value, with less known of it -/

/-- One cell. -/
inductive VL1 (μ : Mu) : AV → AV → Prop
  | refl (x : AV) : VL1 μ x x
  | any (x : AV) : VL1 μ x .any
  | fz (b sz off len : Nat) (k : Blk) (h : μ b = some k) (hm : k.mu = false) (hs : k.sz = sz) (hl : off + len ≤ k.es.length) : VL1 μ (.row b sz off len) (.sl sz ((k.es.drop off).take len))
  | pfz (b sz i o : Nat) (k : Blk) (r : List AV) (h : μ b = some k) (hm : k.mu = false) (hs : k.sz = sz) (hr : k.es[i]? = some r) : VL1 μ (.pt b sz i o) (.ipt (r.drop o))
  | nil (sz : Nat) : VL1 μ (.v (.slice none 0 0)) (.sl sz [])
  | z0 (sz : Nat) : VL1 μ .z0 (.sl sz [])
  | r0 (b sz sz' off : Nat) : VL1 μ (.row b sz off 0) (.sl sz' [])
  | s0 (sz sz' : Nat) : VL1 μ (.sl sz []) (.sl sz' [])

inductive VLs1 (μ : Mu) : List AV → List AV → Prop
  | nil : VLs1 μ [] []
  | cons {x y : AV} {xs ys : List AV} (h : VL1 μ x y) (k : VLs1 μ xs ys) : VLs1 μ (x :: xs) (y :: ys)

/-- A value. -/
inductive VL2 (μ : Mu) : AV → AV → Prop
  | one {x y : AV} (h : VL1 μ x y) : VL2 μ x y
  | agg {cs ds : List AV} (h : VLs1 μ cs ds) : VL2 μ (.agg cs) (.agg ds)
  | fn {f : Nat} {cs ds : List AV} (h : VLs1 μ cs ds) : VL2 μ (.fn f cs) (.fn f ds)

inductive VLs2 (μ : Mu) : List AV → List AV → Prop
  | nil : VLs2 μ [] []
  | cons {x y : AV} {xs ys : List AV} (h : VL2 μ x y) (k : VLs2 μ xs ys) : VLs2 μ (x :: xs) (y :: ys)

/-- Results. -/
inductive VL3 (μ : Mu) : AV → AV → Prop
  | two {x y : AV} (h : VL2 μ x y) : VL3 μ x y
  | tup {cs ds : List AV} (h : VLs2 μ cs ds) : VL3 μ (.tup cs) (.tup ds)

theorem VLs1.refl {μ : Mu} (xs : List AV) : VLs1 μ xs xs := by
  induction xs with
  | nil => exact .nil
  | cons x xs ih => exact .cons (.refl x) ih
theorem VL2.refl {μ : Mu} (x : AV) : VL2 μ x x := .one (.refl x)
theorem VLs2.refl {μ : Mu} (xs : List AV) : VLs2 μ xs xs := by
  induction xs with
  | nil => exact .nil
  | cons x xs ih => exact .cons (.refl x) ih
theorem VL3.refl {μ : Mu} (x : AV) : VL3 μ x x := .two (.refl x)

/-- A frozen pointer reads as one into memory that nobody writes. -/
theorem Rel.frozenP {X : Nat → Prop} {io : Nat → Option (Option Nat)} {μ : Mu} {w : World} (h : Mem X io μ w) {b : Nat} {blk : Blk} (hb : μ b = some blk) (hm : blk.mu = false) {sz i o : Nat} (hsz : blk.sz = sz) {r : List AV} (hr0 : blk.es[i]? = some r)
    {u : Value} (hr : Rel (envOf X io μ w) (.pt b sz i o) u) : Rel (envOf X io μ w) (.ipt (r.drop o)) u := by
  obtain ⟨hl, hmx, hk⟩ := h.ok b blk hb
  cases hr with
  | pt _ _ _ _ k hio =>
    rcases hk with ⟨h1, h2⟩ | ⟨p, cur2, h1, h2, h3, _, h4⟩
    · have h1' : io b = some none := h1
      have hio' : io b = some (some k) := hio
      rw [h1'] at hio'; cases hio'
    · have h1' : io b = some (some p) := h1
      have hio' : io b = some (some k) := hio
      rw [hio'] at h1'
      injection h1' with h1'
      injection h1' with h1'
      subst h1'
      subst hsz
      have him : imOf X io μ w k := ⟨h.lt b k hio', h.notX b blk k hb hio', fun b' blk' hb' hm' hk' => by
        have := h.inj b' b blk' blk k hb' hb hm' hk' hio'
        subst this
        rw [hb] at hb'
        injection hb' with hb'
        subst hb'
        rw [hm] at hm'; cases hm'⟩
      have hrl : r.length = blk.sz := hl r (List.mem_of_getElem? hr0)
      have gv : ∀ j, ∃ u : Value, j < (r.drop o).length → cur2[i * blk.sz + (o + j)]? = some u ∧ u.oneCell' = true ∧ ∀ x, (r.drop o)[j]? = some x → Rel (envOf X io μ w) x u := fun j => by
        by_cases hj : j < (r.drop o).length
        · have hj' : o + j < r.length := by simp at hj; omega
          obtain ⟨u, hu, hu1, hur⟩ := h4 i (o + j) r[o + j] (by simp [cellAt, hr0])
          refine ⟨u, fun _ => ⟨hu, hu1, fun y hy => ?_⟩⟩
          rw [List.getElem?_drop, List.getElem?_eq_getElem hj'] at hy
          injection hy with hy
          subst hy; exact hur
        · exact ⟨.bool true, fun h => absurd h hj⟩
      exact Rel.ipt (E := envOf X io μ w) (r.drop o) k (i * blk.sz + o) (fun j => Classical.choose (gv j)) him
        (fun j hj => by
          have hs := Classical.choose_spec (gv j) hj
          have hh : (envOf X io μ w).w.cell? ⟨k, i * blk.sz + o + j, none⟩ = cur2[i * blk.sz + o + j]? := cell_of_row w k _ cur2 blk.ty (0, 0) h2
          rw [hh, Nat.add_assoc]
          exact ⟨hs.1, hs.2.1⟩)
        (fun j x hx => (Classical.choose_spec (gv j) (List.getElem?_eq_some_iff.1 hx).1).2.2 x hx)

section
variable {X : Nat → Prop} {io : Nat → Option (Option Nat)} {μ : Mu} {w : World} (hM : Mem X io μ w)
include hM

theorem VL1.rel {x y : AV} (h : VL1 μ x y) {u : Value} (hr : Rel (envOf X io μ w) x u) : Rel (envOf X io μ w) y u := by
  cases h with
  | refl _ => exact hr
  | any _ => exact .any u
  | fz b sz off len k h hm hs hl => exact Rel.frozen hM h hm hs hl hr
  | pfz b sz i o k r h hm hs hr0 => exact Rel.frozenP hM h hm hs hr0 hr
  | nil sz => cases hr; exact .sl0 _ _ _
  | z0 sz => cases hr; exact .sl0 _ _ _
  | r0 b sz sz' off => cases hr <;> exact .sl0 _ _ _
  | s0 sz sz' =>
    cases hr with
    | sl0 _ A c => exact .sl0 _ _ _
    | sl => exact .sl0 _ _ _

theorem VLs1.rels {xs ys : List AV} (h : VLs1 μ xs ys) {us : List Value} (hr : Rels (envOf X io μ w) xs us) : Rels (envOf X io μ w) ys us := by
  induction h generalizing us with
  | nil => exact hr
  | cons h _ ih =>
    obtain ⟨u, vs, rfl, h1, h2⟩ := hr.cons_inv
    exact .cons (h.rel hM h1) (ih h2)

theorem VL2.rel {x y : AV} (h : VL2 μ x y) {u : Value} (hr : Rel (envOf X io μ w) x u) : Rel (envOf X io μ w) y u := by
  cases h with
  | one h => exact h.rel hM hr
  | agg h =>
    cases hr with
    | agg _ us hl h1 hr => exact .agg' (h.rels hM ⟨hl, hr⟩) h1
  | fn h =>
    cases hr with
    | fn f _ vs hl hr =>
      obtain ⟨k1, k2⟩ := h.rels hM ⟨hl, hr⟩
      exact .fn _ _ vs k1 k2

theorem VLs2.rels {xs ys : List AV} (h : VLs2 μ xs ys) {us : List Value} (hr : Rels (envOf X io μ w) xs us) : Rels (envOf X io μ w) ys us := by
  induction h generalizing us with
  | nil => exact hr
  | cons h _ ih =>
    obtain ⟨u, vs, rfl, h1, h2⟩ := hr.cons_inv
    exact .cons (h.rel hM h1) (ih h2)

theorem VL3.rel {x y : AV} (h : VL3 μ x y) {u : Value} (hr : Rel (envOf X io μ w) x u) : Rel (envOf X io μ w) y u := by
  cases h with
  | two h => exact h.rel hM hr
  | tup h =>
    cases hr with
    | tup _ us hl hr => exact .tup' (h.rels hM ⟨hl, hr⟩)
end

/-- Blocks that are taken as such. -/
def frzW (μ : Mu) : List Nat → Wr
  | [] => []
  | b :: r => match μ b with
    | some k => (b, some { k with mu := false }) :: frzW (upd μ b (some { k with mu := false })) r
    | none => frzW μ r

theorem frz_step {X : Nat → Prop} {io : Nat → Option (Option Nat)} {w : World} (N : Nat) (fz : List Nat) : ∀ {μ : Mu}, Mem X io μ w → Step X N io μ w io (app μ (frzW μ fz)) w := by
  induction fz with
  | nil => intro μ h; exact Step.refl h
  | cons b r ih =>
    intro μ h
    simp only [frzW]
    split
    · rename_i k hk
      have h1 := step_freeze (N := N) h hk
      exact h1.trans (ih h1.mem)
    · exact ih h

theorem frz_ids (fz : List Nat) : ∀ (μ : Mu) (b : Nat) (x : Option Blk), lookW (frzW μ fz) b = some x → b ∈ fz ∧ μ b ≠ none := by
  induction fz with
  | nil => intro μ b x h; cases h
  | cons c r ih =>
    intro μ b x h
    simp only [frzW] at h
    split at h
    · rename_i k hk
      simp only [lookW] at h
      split at h
      · rename_i y hy
        obtain ⟨h1, h2⟩ := ih _ b y hy
        refine ⟨List.mem_cons_of_mem _ h1, fun hb => ?_⟩
        by_cases e : b = c
        · subst e; rw [hk] at hb; cases hb
        · rw [upd_ne _ _ e] at h2; exact h2 hb
      · split at h
        · rename_i e
          subst e
          exact ⟨List.mem_cons_self, by rw [hk]; simp⟩
        · cases h
    · obtain ⟨h1, h2⟩ := ih _ b x h
      exact ⟨List.mem_cons_of_mem _ h1, h2⟩

end Go.Proofs.Ytneoeegpceompaa.AM

