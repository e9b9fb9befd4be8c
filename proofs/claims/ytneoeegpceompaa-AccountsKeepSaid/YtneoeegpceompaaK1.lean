/-
From a contract to the statement's own form: a law called with numbers answers true and writes nothing that was there.
-/
import Derived.Test.YtneoeegpceompaaA1
import Derived.Below
set_option linter.unusedVariables false
set_option linter.unusedSimpArgs false
namespace Go.Proofs.Ytneoeegpceompaa.AM
open Go Go.Proofs Go.Proofs.Ytneoeegpceompaa.Pl

abbrev env0 (w : World) : Env := envOf (fun _ => False) (fun _ => none) (fun _ => none) w

theorem mem0 (w : World) : Mem (fun _ => False) (fun _ => none) (fun _ => none) w where
  ok _ _ h := by cases h
  inj _ _ _ _ _ h := by cases h
  lt _ _ h := by cases h
  notX _ _ _ h := by cases h
  xlt _ h := h.elim

theorem FS.calls {P : Program} {k : Nat} {args : List AV} {vs : List Value} {w : World} (h : ∀ N, FS P N k args [] (aB true) []) (hr : Rels (env0 w) args vs) :
    Calls P k vs.toArray w fun e w' => e = .returned (.bool true) ∧ Go.RowKit.Below w.heap.size w w' := by
  have hg : ¬ Gar 0 0 := fun ⟨d, k, _, h⟩ => by
    have := nm_gt d k
    have := h.1
    omega
  have hp : preMu [] = fun _ => none := rfl
  have := (h 0).spec (fun _ => False) (fun _ => none) w vs 0 (by rw [hp]; exact mem0 w) (by rw [hp]; exact hr) rfl (fun _ _ => rfl) (fun _ _ => rfl) hg
  refine this.mono fun e w' ⟨v, io', h1, h2, h3⟩ => ?_
  subst h1
  refine ⟨?_, h2.os, h2.tape, h2.output, h2.size, fun k hk => h2.keep k hk fun b blk hb => by rw [hp] at hb; cases hb⟩
  cases h3; rfl

/-- Integers that came in. -/
theorem rel_ints {w : World} {a : Option Addr} {len cap : Nat} {zs : List Int} (h : (a = none ∧ len = 0 ∧ cap = 0 ∧ zs = []) ∨
    ∃ x, a = some x ∧ len ≤ cap ∧ cap ≤ maxLen ∧ zs.length = cap ∧ (∀ i, i < zs.length → w.cell? (x.add i) = some (.int .i64 (zs.getD i 0))) ∧ ∀ n ∈ zs, (Lit.int .i64 n).wf = true) :
    Rel (env0 w) (sI (zs.take len)) (.slice a len cap) := by
  rcases h with ⟨rfl, rfl, rfl, rfl⟩ | ⟨x, rfl, h1, h2, h3, h4, h5⟩
  · exact .sl0 _ _ _
  · by_cases hl : len = 0
    · subst hl
      exact .sl0 _ _ _
    · obtain ⟨b, o, spot⟩ := x
      have h40 := h4 0 (by omega)
      have hs : spot = none := by simpa [Addr.add] using World.cell?_spot h40
      subst hs
      have hlen : ((zs.take len).map cI).length = len := by simp; omega
      have := Rel.sl (E := env0 w) 1 ((zs.take len).map cI) b o cap (fun i _ => .int .i64 (zs.getD i 0)) (fun e he => by
          obtain ⟨n, _, rfl⟩ := List.mem_map.1 he; rfl) ?_ (by omega) (by omega) (fun i j hi hj => ?_) (fun i j y hx => ?_)
      · rw [hlen] at this; exact this
      · refine ⟨?_, fun h => h, fun _ _ h => by cases h⟩
        by_cases hb : b < w.heap.size
        · exact hb
        · exact absurd (World.block_lt_of_cell? w _ h40) hb
      · rw [hlen] at hi
        have := h4 i (by omega)
        have hj0 : j = 0 := by omega
        subst hj0
        refine ⟨?_, rfl⟩
        rw [← this]
        congr 1
        simp [Addr.add]
      · unfold cellAt at hx
        rw [List.getElem?_map] at hx
        cases he : (zs.take len)[i]? with
        | none => rw [he] at hx; cases hx
        | some z =>
          rw [he] at hx
          have hz : zs.getD i 0 = z := by
            rw [List.getElem?_take] at he
            split at he
            · rw [List.getD_eq_getElem?_getD, he]; rfl
            · cases he
          rw [hz]
          cases j with
          | zero => injection hx with hx; subst hx; exact .v _
          | succ j => cases hx
theorem rels0 {E : Env} : Rels E [] [] := ⟨rfl, fun j x u hx => by cases hx⟩
theorem rels_cons {E : Env} {x : AV} {u : Value} {xs : List AV} {us : List Value} (h : Rel E x u) (hs : Rels E xs us) : Rels E (x :: xs) (u :: us) :=
  ⟨by simp [hs.1], fun j y v hy hv => by
    cases j with
    | zero => injection hy with hy; injection hv with hv; subst hy; subst hv; exact h
    | succ j => exact hs.2 j y v hy hv⟩
theorem rels1 {E : Env} {x : AV} {u : Value} (h : Rel E x u) : Rels E [x] [u] := rels_cons h rels0
theorem rels2 {E : Env} {x y : AV} {u v : Value} (h : Rel E x u) (k : Rel E y v) : Rels E [x, y] [u, v] := rels_cons h (rels1 k)
theorem rels3 {E : Env} {x y z : AV} {u v w : Value} (h : Rel E x u) (k : Rel E y v) (l : Rel E z w) : Rels E [x, y, z] [u, v, w] := rels_cons h (rels2 k l)
theorem u8_wf {a : Int} (h : (Lit.int .u8 a).wf = true) : 0 ≤ a ∧ a ≤ 255 := by
  simp only [Lit.wf, Bool.and_eq_true, decide_eq_true_eq] at h
  exact h
end Go.Proofs.Ytneoeegpceompaa.AM
