/-
The abstract machine, part 1: abstract values, their relation to the model's values, memory. Over whatever program.
-/
import Derived.Control
import Derived.Calls
import Derived.Orders
import Derived.Laws.AppendOwn
import Derived.Laws.CopyRow
import Derived.Laws.Rows
import Derived.Laws.StructEq
import Derived.RowKit
namespace Go.Proofs.Ytneoeegpceompaa.AM
open Go

/-- What is known of a value: nothing; the value itself; a slice whose memory nobody writes; an empty slice without room; a pointer into memory that nobody writes; a pointer and a slice into a block of the call's own; a function value; a struct or an array; several results. -/
inductive AV where
  | any
  | v (x : Value)
  | sl (sz : Nat) (es : List (List AV))
  | z0
  | ipt (cs : List AV)
  | pt (b sz i o : Nat)
  | row (b sz off len : Nat)
  | fn (f : Nat) (cap : List AV)
  | agg (cs : List AV)
  | tup (vs : List AV)
  deriving Inhabited

/-- A block of the call's own: may it be written; its elements' type; their cells; the elements; how many have room, if that is known. -/
structure Blk where
  mu : Bool
  ty : Nat
  sz : Nat
  es : List (List AV)
  cap : Option Nat
  deriving Inhabited

/-- Where the relation is asked: the world, the blocks' places, the blocks that nobody writes. -/
structure Env where
  w : World
  io : Nat → Option (Option Nat)
  im : Nat → Prop

def cellAt (es : List (List AV)) (i j : Nat) : Option AV := (es[i]?).bind (·[j]?)

inductive Rel (E : Env) : AV → Value → Prop
  | any (x : Value) : Rel E .any x
  | v (x : Value) : Rel E (.v x) x
  | sl0 (sz : Nat) (A : Option Addr) (c : Nat) : Rel E (.sl sz []) (.slice A 0 c)
  | sl (sz : Nat) (es : List (List AV)) (k o c : Nat) (u : Nat → Nat → Value) (hl : ∀ e ∈ es, e.length = sz) (him : E.im k) (hn : es.length ≤ maxLen) (hlc : es.length ≤ c)
      (hc : ∀ i j, i < es.length → j < sz → E.w.cell? ⟨k, o + (i * sz + j), none⟩ = some (u i j) ∧ (u i j).oneCell' = true)
      (hr : ∀ i j x, cellAt es i j = some x → Rel E x (u i j)) : Rel E (.sl sz es) (.slice (some ⟨k, o, none⟩) es.length c)
  | z0 (A : Option Addr) : Rel E .z0 (.slice A 0 0)
  | ipt (cs : List AV) (k o : Nat) (u : Nat → Value) (him : E.im k)
      (hc : ∀ j, j < cs.length → E.w.cell? ⟨k, o + j, none⟩ = some (u j) ∧ (u j).oneCell' = true)
      (hr : ∀ (j : Nat) (x : AV), cs[j]? = some x → Rel E x (u j)) : Rel E (.ipt cs) (.pointer (some ⟨k, o, none⟩))
  | pt (b sz i o k : Nat) (hk : E.io b = some (some k)) : Rel E (.pt b sz i o) (.pointer (some ⟨k, i * sz + o, none⟩))
  | rowz (b sz : Nat) (A : Option Addr) (hz : E.io b = some none) : Rel E (.row b sz 0 0) (.slice A 0 0)
  | row (b sz off len k c : Nat) (A : Option Addr) (cur : Array Value) (ty : TypeId) (hk : E.io b = some (some k)) (hA : c ≠ 0 → A = some ⟨k, off * sz, none⟩) (hb : E.w.heap[k]? = some (.cells cur ty (0, 0))) (hc : (off + c) * sz = cur.size)
      (hl : len ≤ c) (hm : off + c ≤ maxLen) : Rel E (.row b sz off len) (.slice A len c)
  | fn (f : Nat) (cap : List AV) (vs : List Value) (hl : cap.length = vs.length) (h : ∀ (j : Nat) (x : AV) (u : Value), cap[j]? = some x → vs[j]? = some u → Rel E x u) : Rel E (.fn f cap) (.func (.func f) #[] vs.toArray)
  | agg (cs : List AV) (us : List Value) (hl : cs.length = us.length) (h1 : ∀ u ∈ us, u.oneCell' = true) (h : ∀ (j : Nat) (x : AV) (u : Value), cs[j]? = some x → us[j]? = some u → Rel E x u) : Rel E (.agg cs) (.agg us.toArray)
  | tup (cs : List AV) (us : List Value) (hl : cs.length = us.length) (h : ∀ (j : Nat) (x : AV) (u : Value), cs[j]? = some x → us[j]? = some u → Rel E x u) : Rel E (.tup cs) (.tuple us.toArray)

/-- What one place knows the other one knows, too. -/
structure Env.Le (E E' : Env) : Prop where
  im : ∀ k, E.im k → E'.im k ∧ E'.w.heap[k]? = E.w.heap[k]?
  io : ∀ b k, E.io b = some k → E'.io b = some k
  shape : ∀ (k : Nat) (cur : Array Value) (ty : TypeId), E.w.heap[k]? = some (.cells cur ty (0, 0)) → ∃ cur' : Array Value, E'.w.heap[k]? = some (.cells cur' ty (0, 0)) ∧ cur'.size = cur.size

theorem Env.Le.refl (E : Env) : E.Le E := ⟨fun _ h => ⟨h, rfl⟩, fun _ _ h => h, fun _ cur _ h => ⟨cur, h, rfl⟩⟩

theorem Env.Le.trans {A B C : Env} (h : A.Le B) (k : B.Le C) : A.Le C :=
  ⟨fun x hx => ⟨(k.im x (h.im x hx).1).1, (k.im x (h.im x hx).1).2.trans (h.im x hx).2⟩, fun b x hx => k.io b x (h.io b x hx), fun x cur ty hx => by
    obtain ⟨c1, h1, s1⟩ := h.shape x cur ty hx
    obtain ⟨c2, h2, s2⟩ := k.shape x c1 ty h1
    exact ⟨c2, h2, s2.trans s1⟩⟩

theorem cell_of_heap {w w' : World} {k j : Nat} (h : w'.heap[k]? = w.heap[k]?) : w'.cell? ⟨k, j, none⟩ = w.cell? ⟨k, j, none⟩ := World.cell?_of_block (a := ⟨k, j, none⟩) h

theorem Rel.mono {E E' : Env} (hE : E.Le E') {x : AV} {u : Value} (h : Rel E x u) : Rel E' x u := by
  induction h with
  | any x => exact .any x
  | v x => exact .v x
  | sl0 sz A c => exact .sl0 sz A c
  | sl sz es k o c u hl him hn hlc hc hr ih => exact .sl sz es k o c u hl (hE.im k him).1 hn hlc (fun i j hi hj => by rw [cell_of_heap (hE.im k him).2]; exact hc i j hi hj) ih
  | z0 A => exact .z0 A
  | ipt cs k o u him hc hr ih => exact .ipt cs k o u (hE.im k him).1 (fun j hj => by rw [cell_of_heap (hE.im k him).2]; exact hc j hj) ih
  | pt b sz i o k hk => exact .pt b sz i o k (hE.io b _ hk)
  | rowz b sz A hz => exact .rowz b sz A (hE.io b _ hz)
  | row b sz off len k c A cur ty hk hA hb hc hl hm =>
    obtain ⟨cur', hb', hs'⟩ := hE.shape k cur ty hb
    exact .row b sz off len k c A cur' ty (hE.io b _ hk) hA hb' (by rw [hs']; exact hc) hl hm
  | fn f cap vs hl _ ih => exact .fn f cap vs hl ih
  | agg cs us hl h1 _ ih => exact .agg cs us hl h1 ih
  | tup cs us hl _ ih => exact .tup cs us hl ih

/-- The arguments, one by one. -/
def Rels (E : Env) (xs : List AV) (us : List Value) : Prop := xs.length = us.length ∧ ∀ (j : Nat) (x : AV) (u : Value), xs[j]? = some x → us[j]? = some u → Rel E x u

theorem Rels.mono {E E' : Env} (hE : E.Le E') {xs : List AV} {us : List Value} (h : Rels E xs us) : Rels E' xs us := ⟨h.1, fun j x u hx hu => (h.2 j x u hx hu).mono hE⟩

theorem Rels.nil (E : Env) : Rels E [] [] := ⟨rfl, fun j x u h => by simp at h⟩
theorem Rels.cons {E : Env} {x : AV} {u : Value} {xs : List AV} {us : List Value} (h : Rel E x u) (k : Rels E xs us) : Rels E (x :: xs) (u :: us) := by
  refine ⟨by simp [k.1], fun j y v hy hv => ?_⟩
  cases j with
  | zero => simp at hy hv; subst hy; subst hv; exact h
  | succ j => simp at hy hv; exact k.2 j y v hy hv
theorem Rels.head {E : Env} {x : AV} {u : Value} {xs : List AV} {us : List Value} (h : Rels E (x :: xs) (u :: us)) : Rel E x u := h.2 0 x u (by simp) (by simp)
theorem Rels.tail {E : Env} {x : AV} {u : Value} {xs : List AV} {us : List Value} (h : Rels E (x :: xs) (u :: us)) : Rels E xs us :=
  ⟨by have := h.1; simpa using this, fun j y v hy hv => h.2 (j + 1) y v (by simpa using hy) (by simpa using hv)⟩
theorem Rels.app {E : Env} {xs ys : List AV} {us vs : List Value} (h : Rels E xs us) (k : Rels E ys vs) : Rels E (xs ++ ys) (us ++ vs) := by
  induction xs generalizing us with
  | nil =>
    have : us = [] := List.eq_nil_of_length_eq_zero (by have := h.1; simpa using this.symm)
    subst this
    simpa using k
  | cons x xs ih =>
    cases us with
    | nil => have := h.1; simp at this
    | cons u us => exact .cons h.head (ih h.tail)
theorem Rels.cons_inv {E : Env} {x : AV} {xs : List AV} {us : List Value} (h : Rels E (x :: xs) us) : ∃ u vs, us = u :: vs ∧ Rel E x u ∧ Rels E xs vs := by
  cases us with
  | nil => have := h.1; simp at this
  | cons u vs => exact ⟨u, vs, rfl, h.head, h.tail⟩
theorem Rels.nil_inv {E : Env} {us : List Value} (h : Rels E [] us) : us = [] := List.eq_nil_of_length_eq_zero (by have := h.1; simpa using this.symm)

theorem Rel.agg' {E : Env} {cs : List AV} {us : List Value} (h : Rels E cs us) (h1 : ∀ u ∈ us, u.oneCell' = true) : Rel E (.agg cs) (.agg us.toArray) := .agg cs us h.1 h1 h.2
theorem Rel.tup' {E : Env} {cs : List AV} {us : List Value} (h : Rels E cs us) : Rel E (.tup cs) (.tuple us.toArray) := .tup cs us h.1 h.2

/-! ### Memory -/

abbrev Mu := Nat → Option Blk

def upd {α : Type} (f : Nat → α) (k : Nat) (x : α) : Nat → α := fun j => if j = k then x else f j

theorem upd_same {α : Type} (f : Nat → α) (k : Nat) (x : α) : upd f k x k = x := by simp [upd]
theorem upd_ne {α : Type} (f : Nat → α) {k j : Nat} (x : α) (h : j ≠ k) : upd f k x j = f j := by simp [upd, h]

abbrev Wr := List (Nat × Option Blk)

def app (μ : Mu) : Wr → Mu
  | [] => μ
  | (b, x) :: r => app (upd μ b x) r

/-- A block is as the memory says. -/
def BlkOK (E : Env) (b : Nat) (k : Blk) : Prop :=
  (∀ e ∈ k.es, e.length = k.sz) ∧ k.es.length ≤ maxLen ∧
  ((E.io b = some none ∧ k.es = []) ∨
   ∃ (p : Nat) (cur : Array Value), E.io b = some (some p) ∧ E.w.heap[p]? = some (.cells cur k.ty (0, 0)) ∧ k.es.length * k.sz ≤ cur.size ∧ (∀ c, k.cap = some c → cur.size = c * k.sz) ∧
     ∀ i j x, cellAt k.es i j = some x → ∃ u, cur[i * k.sz + j]? = some u ∧ u.oneCell' = true ∧ Rel E x u)

theorem BlkOK.mono {E E' : Env} (hE : E.Le E') {b : Nat} {k : Blk} (h : BlkOK E b k) (hw : ∀ p, E.io b = some (some p) → E'.w.heap[p]? = E.w.heap[p]?) : BlkOK E' b k := by
  refine ⟨h.1, h.2.1, ?_⟩
  rcases h.2.2 with ⟨h1, h2⟩ | ⟨p, cur, h1, h2, h3, h5, h4⟩
  · exact .inl ⟨hE.io b _ h1, h2⟩
  · refine .inr ⟨p, cur, hE.io b _ h1, by rw [hw p h1]; exact h2, h3, h5, fun i j x hx => ?_⟩
    obtain ⟨u, hu, h1, hr⟩ := h4 i j x hx
    exact ⟨u, hu, h1, hr.mono hE⟩

/-- The blocks that nobody writes: they are there; they are none of X; they are no block of the call's own that may be written. -/
def imOf (X : Nat → Prop) (io : Nat → Option (Option Nat)) (μ : Mu) (w : World) (k : Nat) : Prop :=
  k < w.heap.size ∧ ¬ X k ∧ ∀ b blk, μ b = some blk → blk.mu = true → io b ≠ some (some k)

def envOf (X : Nat → Prop) (io : Nat → Option (Option Nat)) (μ : Mu) (w : World) : Env := ⟨w, io, imOf X io μ w⟩

/-- The memory is as told. -/
structure Mem (X : Nat → Prop) (io : Nat → Option (Option Nat)) (μ : Mu) (w : World) : Prop where
  ok : ∀ b blk, μ b = some blk → BlkOK (envOf X io μ w) b blk
  inj : ∀ b b' blk blk' k, μ b = some blk → μ b' = some blk' → blk.mu = true → io b = some (some k) → io b' = some (some k) → b = b'
  lt : ∀ b k, io b = some (some k) → k < w.heap.size
  notX : ∀ b blk k, μ b = some blk → io b = some (some k) → ¬ X k
  xlt : ∀ k, X k → k < w.heap.size

end Go.Proofs.Ytneoeegpceompaa.AM
