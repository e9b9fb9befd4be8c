/-
A function walked by the kit's own walk, as a contract; amount.Asset (it ranges over a string).
-/
import Derived.Test.YtneoeegpceompaaK1
import Derived.Test.YtneoeegpceompaaB1
import Derived.WalkKit
import Derived.Lib.OthersKept
import Derived.WalkSmall
set_option linter.unusedVariables false
set_option linter.unusedSimpArgs false
namespace Go.Proofs.Ytneoeegpceompaa.AM
open Go Go.Proofs Go.Proofs.Ytneoeegpceompaa.Pl
open Go.RowKit

theorem FS.callsB {P : Program} {k : Nat} {args : List AV} {vs : List Value} {w : World} {t : Bool} (h : ∀ N, FS P N k args [] (aB t) []) (hr : Rels (env0 w) args vs) :
    Calls P k vs.toArray w fun e w' => e = .returned (.bool t) ∧ Below w.heap.size w w' := by
  have hg : ¬ Gar 0 0 := fun ⟨d, k, _, h⟩ => by
    have := nm_gt d k
    have := h.1
    omega
  have hp : preMu [] = fun _ => none := rfl
  have := (h 0).spec (fun _ => False) (fun _ => none) w vs 0 (by rw [hp]; exact mem0 w) (by rw [hp]; exact hr) rfl (fun _ _ => rfl) (fun _ _ => rfl) hg
  refine this.mono fun e w' ⟨v, io', h1, h2, h3⟩ => ?_
  subst h1
  refine ⟨?_, h2.os, h2.tape, h2.output, h2.size, fun k hk => h2.keep k hk fun b blk hb => by rw [hp] at hb; cases hb⟩
  cases h3; rfl

/-- A function that writes nothing that was there. -/
theorem FS.of_calls {P : Program} {N k : Nat} {args : List AV} {r : AV} (hc : callable P k = true)
    (h : ∀ (E : Env) (vs : List Value) (w : World), Rels E args vs → Calls P k vs.toArray w fun e w' => ∃ v, e = .returned v ∧ Below w.heap.size w w' ∧ ∀ E, Rel E r v) : FS P N k args [] r [] := by
  refine ⟨hc, fun X io w vs D hM hR _ _ _ _ => ?_⟩
  refine (h _ vs w hR).mono fun e w' ⟨v, he, hb, hv⟩ => ?_
  refine ⟨v, io, he, ⟨⟨fun b blk hk => (by cases hk), fun b b' blk blk' k h1 => (by cases h1), fun b k hk => Nat.lt_of_lt_of_le (hM.lt b k hk) hb.size, fun b blk k hk => (by cases hk), fun k hk => Nat.lt_of_lt_of_le (hM.xlt k hk) hb.size⟩, fun _ _ h => h, hb.os, hb.tape, hb.output, hb.size, fun k hk _ => hb.block k hk, fun k cur ty hk => ?_, fun b blk k hk => (by cases hk), fun _ _ h => h, fun h => h⟩, hv _⟩
  have hlt : k < w.heap.size := by
    rw [Array.getElem?_eq_some_iff] at hk; exact hk.1
  exact ⟨cur, by rw [hb.block k hlt]; exact hk, rfl⟩

theorem native_calls (c : ByteArray) (i : Int) (w : World) : Calls PP n_amount_Native #[.agg #[.string c, .int .i64 i]] w fun e w' => e = .returned (.bool (nativeA ⟨c, i⟩)) ∧ Below w.heap.size w w' :=
  FS.callsB (vs := [.agg #[.string c, .int .i64 i]]) (fun N => fs_amount_Native N c i) (rels1 (.agg [.v (.string c), aI i] [.string c, .int .i64 i] rfl (fun u hu => by
    simp at hu; rcases hu with rfl | rfl <;> rfl) fun j x u hx hu => by
      rcases j with _ | _ | j
      · injection hx with hx; injection hu with hu; subst hx; subst hu; exact .v _
      · injection hx with hx; injection hu with hu; subst hx; subst hu; exact .v _
      · cases hx))
set_option maxRecDepth 1000000 in
theorem asset_calls (c : ByteArray) (i : Int) (w : World) : Calls Try.prog 69 #[.agg #[.string c, .int .i64 i]] w fun e w' => e = .returned (.bool (assetOk ⟨c, i⟩)) ∧ Below w.heap.size w w' := by
  cases hn : nativeA ⟨c, i⟩ with
  | true =>
    go_enter Try.func69, Try.ntmps69
    go_wp2_with (go_at_call 66; refine (native_calls c i _).mono ?_; rintro e w' ⟨rfl, bel⟩; rw [hn])
    go_ret
    exact ⟨by simp [assetOk, hn], ((Below.refl _ w).alloc (Nat.le_refl _) _).trans (bel.mono (by simp))⟩
  | false =>
    go_enter Try.func69, Try.ntmps69
    go_wp2_with (go_at_call 66; refine (native_calls c i _).mono ?_; rintro e w' ⟨rfl, bel⟩; rw [hn]; have hc0 : w'.cell? ⟨w.heap.size, 0, none⟩ = some (.string c) := (by rw [bel.cell (by simp)]; simp); have hc1 : w'.cell? ⟨w.heap.size, 1, none⟩ = some (.int .i64 i) := (by rw [bel.cell (by simp)]; simp))
    go_loopw [4] (fun v wr => ∃ pos : Nat, wr.heap[w'.heap.size]? = some (.stringIter c pos) ∧ Below w'.heap.size w' wr ∧ pos ≤ c.size ∧ ∀ j, j < pos → ∀ b, c.data.toList[j]? = some b → upper b = true) (fun _ wr => c.size - wr.iterPos w'.heap.size)
    case atStart => exact ⟨0, World.iter_heap w' c 0, (Below.refl _ _).alloc (Nat.le_refl _) _, by omega, fun j hj => by omega⟩
    case round =>
      obtain ⟨pos, hit, hbw, hle, hup⟩ := hrel
      have hpos0 := iterPos_of hit
      have g0 : wr.cell? ⟨w.heap.size, 0, none⟩ = some (.string c) := by rw [hbw.cell (World.block_lt_of_cell? w' _ hc0)]; exact hc0
      have g1 : wr.cell? ⟨w.heap.size, 1, none⟩ = some (.int .i64 i) := by rw [hbw.cell (World.block_lt_of_cell? w' _ hc1)]; exact hc1
      by_cases hp : pos < c.size
      · have hnx : ∀ ty, (Instr.next (.pointer (some ⟨w'.heap.size, 0, none⟩)) true ty).run Try.prog wr = _ := fun ty => Lib.run_next_any_at wr w'.heap.size c pos ty hit hp
        by_cases hu : upper (c[pos]'hp) = true
        · have hu2 : 65 ≤ ((c[pos]'hp).toNat : Int) ∧ ((c[pos]'hp).toNat : Int) ≤ 90 := by simpa [upper] using hu
          have hd := decode_ascii c pos hp (by omega)
          rw [hd] at hnx
          have h1 : ¬ ((c[pos]'hp).toNat : Int) < 65 := by omega
          have h2 : ¬ (90 : Int) < ((c[pos]'hp).toNat : Int) := by omega
          go_wp2
          refine ⟨⟨pos + 1, Lib.iterAt_heap wr _ c pos (pos + 1) hit, Lib.below_iterAt hbw (Nat.le_refl _) c (pos + 1), hp, fun j hj b hb => ?_⟩, ?_⟩
          · by_cases e : j = pos
            · subst e
              have : b = c[j]'hp := by
                have h3 : c.data.toList[j]? = some (c.data[j]'hp) := by simp
                rw [h3] at hb; injection hb with hb; exact hb.symm
              rw [this]; exact hu
            · exact hup j (by omega) b hb
          · rw [hpos0, iterPos_of (Lib.iterAt_heap wr _ c pos (pos + 1) hit)]; omega
        · have hbad : assetOk ⟨c, i⟩ = false := by
            have : c.data.toList.all upper = false := by
              rw [List.all_eq_false]
              exact ⟨c[pos]'hp, by have : (c.data[pos]'hp) ∈ c.data.toList := by simp
                                   exact this, hu⟩
            simp [assetOk, hn, this]
          have hr : ((Utf8.decode c pos).1 : Int) < 65 ∨ (90 : Int) < ((Utf8.decode c pos).1 : Int) := by
            by_cases h8 : (c[pos]'hp).toNat < 128
            · rw [decode_ascii c pos hp h8]
              simp [upper] at hu
              omega
            · have := (decode_high c pos hp (by omega)).1
              omega
          generalize (Utf8.decode c pos).1 = r at hnx hr
          generalize (Utf8.decode c pos).2 = wd at hnx
          have hbw2 := Lib.below_iterAt hbw (k := w'.heap.size) (Nat.le_refl _) c (pos + wd)
          have hB : Below w.heap.size w (wr.iterAt w'.heap.size c (pos + wd)) := (((Below.refl _ w).alloc (Nat.le_refl _) _).trans (bel.mono (by simp))).trans (hbw2.mono (by have := bel.size; simp at this; omega))
          rcases hr with h1 | h2
          · go_wp2
            go_ret
            exact ⟨by simp [hbad], hB⟩
          · have h1 : ¬ (r : Int) < 65 := by omega
            go_wp2
            go_ret
            exact ⟨by simp [hbad], hB⟩
      · have hall : c.data.toList.all upper = true := by
          rw [List.all_eq_true]
          intro b hb
          obtain ⟨j, hj⟩ := List.mem_iff_getElem?.1 hb
          have hjl := (List.getElem?_eq_some_iff.1 hj).1
          exact hup j (by have : c.data.toList.length = c.size := Array.length_toList
                          omega) b hj
        have hnx : ∀ ty, (Instr.next (.pointer (some ⟨w'.heap.size, 0, none⟩)) true ty).run Try.prog wr = _ := fun ty => Lib.run_next_end_at wr w'.heap.size c pos ty hit hp
        have hB : Below w.heap.size w wr := (((Below.refl _ w).alloc (Nat.le_refl _) _).trans (bel.mono (by simp))).trans (hbw.mono (by have := bel.size; simp at this; omega))
        by_cases k1 : (1 : Int) ≤ c.size
        · by_cases k2 : (c.size : Int) ≤ 4
          · by_cases k3 : (1 : Int) ≤ i
            · by_cases k4 : i ≤ 1000
              · go_wp2
                go_ret
                exact ⟨by simp [assetOk, hn, hall]; omega, hB⟩
              · go_wp2
                go_ret
                exact ⟨by simp [assetOk, hn, hall]; omega, hB⟩
            · go_wp2
              go_ret
              exact ⟨by simp [assetOk, hn, hall]; omega, hB⟩
          · go_wp2
            go_ret
            exact ⟨by simp [assetOk, hn, hall]; omega, hB⟩
        · go_wp2
          go_ret
          exact ⟨by simp [assetOk, hn, hall]; omega, hB⟩

theorem fs_amount_Asset (N : Nat) (c : ByteArray) (i : Int) : FS PP N n_amount_Asset [.agg [.v (.string c), aI i]] [] (aB (assetOk ⟨c, i⟩)) [] := by
  refine FS.of_calls (by kernel_rfl) fun E vs w hR => ?_
  obtain ⟨h1, h2⟩ := hR
  match vs, h1 with
  | [v], _ =>
    have h := h2 0 _ _ rfl rfl
    cases h with
    | agg _ us hl h1 h3 =>
      match us, hl with
      | [u1, u2], _ =>
        have e1 := h3 0 _ _ rfl rfl
        have e2 := h3 1 _ _ rfl rfl
        cases e1; cases e2
        exact (asset_calls c i w).mono fun e w' ⟨he, hb⟩ => ⟨_, he, hb, fun E => .v _⟩
end Go.Proofs.Ytneoeegpceompaa.AM
