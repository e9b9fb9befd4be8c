/-
The abstract machine, part 7: structs built, slices of slices, new variables, literals.
-/
import Derived.Test.YtneoeegpceompaaM6
namespace Go.Proofs.Ytneoeegpceompaa.AM
open Go

variable {P : Program}

def spliceV (l : List Value) (off : Nat) (xs : List Value) : List Value := l.take off ++ (xs ++ l.drop (off + xs.length))

theorem spliceV_length {l xs : List Value} {off : Nat} (h : off + xs.length ≤ l.length) : (spliceV l off xs).length = l.length := by simp [spliceV]; omega

theorem fold_set (us : List Value) : ∀ (k off : Nat) (cs : List Value), off + k + us.length ≤ cs.length →
    (us.zipIdx k).foldl (fun (c : Array Value) (p : Value × Nat) => c.setIfInBounds (off + p.2) p.1) cs.toArray = (spliceV cs (off + k) us).toArray := by
  induction us with
  | nil => intro k off cs h; simp [spliceV]
  | cons u us ih =>
    intro k off cs h
    simp only [List.length_cons] at h
    simp only [List.zipIdx_cons, List.foldl_cons, List.setIfInBounds_toArray]
    rw [ih (k + 1) off (cs.set (off + k) u) (by simp; omega)]
    congr 1
    unfold spliceV
    have h1 : (cs.set (off + k) u).take (off + (k + 1)) = cs.take (off + k) ++ [u] := by
      rw [show off + (k + 1) = off + k + 1 by omega, List.take_add_one, List.take_set_of_le (by omega)]
      simp [show off + k < cs.length by omega]
    have h2 : (cs.set (off + k) u).drop (off + (k + 1) + us.length) = cs.drop (off + k + (u :: us).length) := by
      rw [List.drop_set_of_lt (by omega)]
      congr 1
      simp; omega
    rw [h1, h2]
    simp

theorem fold_set' (us : List Value) (off : Nat) (cs : List Value) (h : off + us.length ≤ cs.length) :
    us.toArray.zipIdx.foldl (fun (c : Array Value) (p : Value × Nat) => c.setIfInBounds (off + p.2) p.1) cs.toArray = (spliceV cs off us).toArray := by
  have := fold_set us 0 off cs (by simpa using h)
  simp only [Nat.add_zero] at this
  rw [← this]
  simp

theorem Rels.splice {E : Env} {cs ds : List AV} {us vs : List Value} (h : Rels E cs us) (k : Rels E ds vs) (off : Nat) : Rels E (splice cs off ds) (spliceV us off vs) := by
  have take : ∀ n, Rels E (cs.take n) (us.take n) := fun n => by have := h.part 0 n; simpa using this
  have drop : ∀ n, Rels E (cs.drop n) (us.drop n) := fun n => by
    refine ⟨by simp [h.1], fun j x u hx hu => ?_⟩
    rw [List.getElem?_drop] at hx hu
    exact h.2 _ _ _ hx hu
  unfold AM.splice spliceV
  rw [k.1]
  exact (take off).app (k.app (drop _))

theorem one_splice {us vs : List Value} {off : Nat} (h : ∀ u ∈ us, u.oneCell' = true) (k : ∀ u ∈ vs, u.oneCell' = true) : ∀ u ∈ spliceV us off vs, u.oneCell' = true := fun u hu => by
  unfold spliceV at hu
  simp only [List.mem_append] at hu
  rcases hu with hu | hu | hu
  · exact h u (List.mem_of_mem_take hu)
  · exact k u hu
  · exact h u (List.mem_of_mem_drop hu)

/-- fill, as it runs -/
theorem fill_ok {E : Env} {g : Nat → AV} {a : Act} (hg : ∀ t, Rel E (g t) (a.tmps.getD t undef)) (pl : Nat → Option (Nat × Nat)) : ∀ (parts : List (Nat × Operand)) (l : List (Nat × Nat × Operand)) (cs res : List AV) (us : List Value),
    places parts pl = some l → fillAV g cs l = some res → Rels E cs us → (∀ u ∈ us, u.oneCell' = true) →
    ∃ vs, Instr.fill pl us.toArray (parts.map fun (i, x) => (i, a.eval x)) = some vs.toArray ∧ Rels E res vs ∧ ∀ u ∈ vs, u.oneCell' = true := by
  intro parts
  induction parts with
  | nil =>
    intro l cs res us hp hf hr h1
    simp only [places, Option.some.injEq] at hp
    subst hp
    simp only [fillAV, Option.some.injEq] at hf
    subst hf
    exact ⟨us, rfl, hr, h1⟩
  | cons p parts ih =>
    intro l cs res us hp hf hr h1
    obtain ⟨i, x⟩ := p
    simp only [places] at hp
    split at hp
    · rename_i q l' hq hl'
      obtain ⟨off, n⟩ := q
      injection hp with hp
      subst hp
      simp only [fillAV] at hf
      split at hf
      · rename_i ds hds
        split at hf
        · rename_i hc
          obtain ⟨hn, hle⟩ := hc
          obtain ⟨vs, hcv, hrel, hone⟩ := cells_rel hds (ev_rel hg x)
          have hvl : vs.length = n := by rw [← hrel.1]; exact hn
          have hfit : off + vs.length ≤ us.length := by rw [hvl, ← hr.1]; exact hle
          obtain ⟨ws, h2, h3, h4⟩ := ih l' _ res (spliceV us off vs) hl' hf (hr.splice hrel off) (one_splice h1 hone)
          refine ⟨ws, ?_, h3, h4⟩
          simp only [List.map_cons, Instr.fill, hq, hcv]
          have hcond : ¬ (vs.toArray.size ≠ n ∨ off + vs.toArray.size > us.toArray.size) := by simp [hvl] at hfit ⊢; omega
          have hfs := fold_set' vs off us hfit
          simp only [List.size_toArray] at hcond
          simp only [List.size_toArray]
          rw [if_neg (by simpa using hcond)]
          rw [hfs]
          exact h2
        · cases hf
      · cases hf
    · cases hp

section
variable {X : Nat → Prop} {N : Nat} {io : Nat → Option (Option Nat)} {μ : Mu} {w : World} {a : Act} {g : Nat → AV} (hM : Mem X io μ w) (hg : ∀ t, Rel (envOf X io μ w) (g t) (a.tmps.getD t undef))
include hM hg

omit hM hg in
theorem consts_rel {E : Env} (z : List Value) : Rels E (z.map .v) z := ⟨by simp, fun j x u hx hu => by
  rw [List.getElem?_map, hu] at hx
  injection hx with hx
  subst hx
  exact .v u⟩

theorem ok_build {o : Oper} (t : Nat) (ps : Array (Nat × Operand)) (z : List Value) (l : List (Nat × Nat × Operand)) (ho : o.op = .build t ps) (hz : tzero P t = some z) (hl : compParts P t ps.toList = some l)
    {r : AV} {wr : Wr} (h : evalCO g μ N (.build z l) = some (r, wr)) : OpOK P X N io μ w a o r wr := by
  simp only [evalCO] at h
  obtain ⟨h2, rfl⟩ := pureR_inv h
  obtain ⟨res, hres, h2⟩ := Option.map_eq_some_iff.1 h2
  subst h2
  obtain ⟨i, zv, hi, hzv, hzc, hone⟩ := tzero_inv hz
  have hzrun : ∀ w, (zeroValue t).run P w = .ok zv w := fun w => by simp [zeroValue, typeInfo, hi, hzv]
  unfold compParts at hl
  split at hl
  · rename_i fs hu
    split at hl
    · rename_i pl hpl
      obtain ⟨vs, h3, h4, h5⟩ := fill_ok hg (pl[·]?) ps.toList l _ res z hl hres (consts_rel z) hone
      refine OpOK.pure hM (v := .agg vs.toArray) ?_ (.agg' h4 h5)
      have hfill : Instr.fill (fun x => pl[x]?) zv.cells (ps.toList.map fun x => (x.fst, a.eval x.snd)) = some vs.toArray := by rw [hzc]; exact h3
      have hplaces : ∀ w, (fs.mapM fun f => Prod.mk f.offset <$> sizeOf f.type).run P w = .ok pl.toArray w := fun w => by
        simp [Array.mapM_eq_mapM_toList, run_places w _ _ hpl]
      simp [execOp, ho, Instr.build, hzrun, run_underlying hu, hplaces, hfill]
    · cases hl
  · rename_i n e hu
    split at hl
    · rename_i sz hsz
      obtain ⟨vs, h3, h4, h5⟩ := fill_ok hg (fun i => some (i * sz, sz)) ps.toList l _ res z hl hres (consts_rel z) hone
      refine OpOK.pure hM (v := .agg vs.toArray) ?_ (.agg' h4 h5)
      have hfill : Instr.fill (fun i => some (i * sz, sz)) zv.cells (ps.toList.map fun x => (x.fst, a.eval x.snd)) = some vs.toArray := by rw [hzc]; exact h3
      simp [execOp, ho, Instr.build, hzrun, run_underlying hu, run_sizeOf hsz, hfill]
    · cases hl
  · cases hl
end

end Go.Proofs.Ytneoeegpceompaa.AM
