/-
The abstract machine, part 19: the rule for regions; running a region's operations.
-/
import Derived.Test.YtneoeegpceompaaM18
namespace Go.Proofs.Ytneoeegpceompaa.AM
open Go

variable {P : Program} {nt : Nat}

theorem disj_nil_left (y : List Nat) : disj [] y = true := rfl
theorem disj_nil_right (x : List Nat) : disj x [] = true := by simp [disj]

theorem does_touch {N : Nat} {o : COper} {g : Nat → AV} {μ : Mu} {v : AV} {wr : Wr} {rd : List Nat} (h : Does P N o g μ v wr rd) (ht : o.op.touches = false) : wr = [] ∧ rd = [] := by
  cases h with
  | skip => exact ⟨rfl, rfl⟩
  | exec _ _ _ he => exact touches_no ht he
  | call f args _ _ _ _ ho _ => rw [ho] at ht; cases ht

theorem does_reads {N : Nat} {o : COper} {g : Nat → AV} {μ : Mu} {v : AV} {wr : Wr} {rd : List Nat} (h : Does P N o g μ v wr rd) (ht : o.op.reads = true) : wr = [] := by
  cases h with
  | skip => rfl
  | exec _ _ _ he => exact reads_no ht he
  | call f args _ _ _ _ ho _ => rw [ho] at ht; cases ht

theorem sorted_relab (ops0 : Array Oper) : sorted ops0 = ops0 ∨ ∃ p, Relab ops0 (sorted ops0) p ∧ ∀ j, j < ops0.size → ∃ i, i < ops0.size ∧ p i = j := by
  unfold sorted
  split
  · exact .inl rfl
  · split
    · rename_i h
      exact .inr ⟨_, (sort_relab h).1, (sort_relab h).2⟩
    · exact .inl rfl

theorem comp_region {c : Code} {cops : List COper} {pairs : List (Nat × Nat)} {live : List Nat} (h : compCode P nt c = .region cops pairs live) : ∃ id ops0 ops draw, c = .region id ops0 draw ∧ ops = (if draw = true then sorted ops0 else ops0) ∧ guardsOk ops = true ∧ dstsOk nt ops = true ∧ cops = ops.toList.map (compOper P ops) ∧
    (draw = true → looseOk ops = true ∧ backOk ops = true ∧ P.follows .mixedOrders = true ∧ pairs = loosePairs P ops) := by
  cases c with
  | region id ops0 draw =>
    refine ⟨id, ops0, _, draw, rfl, rfl, ?_⟩
    simp only [compCode] at h
    generalize (if draw = true then sorted ops0 else ops0) = ops at h ⊢
    split at h
    · rename_i h1
      simp only [Bool.and_eq_true] at h1
      split at h
      · split at h
        · rename_i h2
          simp only [Bool.and_eq_true] at h2
          injection h with h3 h4 h5
          exact ⟨h1.1, h1.2, h3.symm, fun _ => ⟨h2.1.1, h2.1.2, h2.2, h4.symm⟩⟩
        · cases h
      · rename_i h2
        injection h with h3 h4 h5
        exact ⟨h1.1, h1.2, h3.symm, fun e => absurd e h2⟩
    · cases h
  | _ => first | (simp only [compCode] at h; cases h; done) | cases h

/-- THE RULE FOR REGIONS. -/
theorem safe_region {cops : List COper} {pairs : List (Nat × Nat)} {live : List Nat} {S : St} {Q : Post} {l : List Ev} {T' : List (Nat × AV)} {M' : List (Nat × Blk)} (ht : Trace P (fun i => nm S.d (S.nx + i)) 0 cops (getT S.T) (getM S.M) l (getT T') (getM M'))
    (hp : pairsOk l pairs = true) (hQ : Q .normal ⟨T', M', S.d, S.nx + cops.length⟩) : Safe P nt (.region cops pairs live) S Q := by
  intro c hc F io a w hn hC
  obtain ⟨id, ops0, ops, draw, rfl, hops, hG, hD, hcops, hdraw⟩ := comp_region hc
  have hlen : cops.length = ops.size := by rw [hcops]; simp
  have hcop : ∀ (j : Nat) (o : Oper), ops[j]? = some o → cops[j]? = some (compOper P ops o) := fun j o ho => by rw [hcops]; simp [ho]
  have hdst1 : ∀ (j : Nat) (o : COper), cops[j]? = some o → (fun j => (ops[j]?).bind (·.dst)) j = o.dst := fun j o ho => by
    simp only
    rw [hcops] at ho
    simp only [List.getElem?_map, Array.getElem?_toList, Option.map_eq_some_iff] at ho
    obtain ⟨x, hx, rfl⟩ := ho
    rw [hx]; rfl
  obtain ⟨hdo, hfin⟩ := trace_does (dst := fun j => (ops[j]?).bind (·.dst)) hdst1 ht (i := 0) rfl rfl rfl rfl
  obtain ⟨hg', hm'⟩ := hfin (Nat.zero_le _)
  rw [hlen] at hg' hm'
  have hdst : ∀ (j : Nat) (o : Oper), ops[j]? = some o → (fun j => (ops[j]?).bind (·.dst)) j = o.dst := fun j o ho => by simp [ho]
  have hE : ∀ (i : Nat) (o : Oper), ops[i]? = some o → Does P (nm S.d (S.nx + i)) (compOper P ops o) (gAt (fun j => (ops[j]?).bind (·.dst)) (fun i => l.getD i default) (getT S.T) (fun j => decide (j < i)) ops.size) (mAt (fun i => l.getD i default) (getM S.M) (fun j => decide (j < i)) ops.size) (l.getD i default).v (l.getD i default).wr (l.getD i default).rd := fun i o ho => by
    have hi : i < ops.size := (Array.getElem?_eq_some_iff.1 ho).1
    rw [gAt_lt _ _ (by omega), mAt_lt _ _ (by omega)]
    exact hdo i _ (Nat.zero_le _) (hcop i o ho)
  have hD' : dstsOk F.nt ops = true := by rw [hn]; exact hD
  have hQ' : ∀ io a w, ConcF F io (gAt (fun j => (ops[j]?).bind (·.dst)) (fun i => l.getD i default) (getT S.T) (fun _ => true) ops.size) (mAt (fun i => l.getD i default) (getM S.M) (fun _ => true) ops.size) (frS F S.d (S.nx + ops.size)) a w → Post.conc F Q .normal a w := fun io a w h => by
    rw [← hg', ← hm', ← hlen] at h
    exact ⟨io, _, hQ, h, hC.low, hC.outN, hC.n4⟩
  cases draw with
  | false =>
    have hops : ops = ops0 := hops
    subst hops
    refine wp_region ?_
    rw [List.range_eq_range']
    refine run_text (d := S.d) (N := S.nx) hC.low hC.outN hC.n4 hG hD' hdst hE hQ' ops.size 0 (by omega) io a w ?_
    rw [gAt_lt _ _ (Nat.zero_le _), mAt_lt _ _ (Nat.zero_le _)]
    refine ⟨hC.c.mem, hC.c.tmps, hC.c.size, hC.c.defers, fun b hb => hC.c.fresh b ?_, hC.c.heap, hC.c.own, hC.c.pre, hC.c.top, hC.c.free⟩
    rcases hb with hb | ⟨k, h1, h2, _⟩
    · exact .inl hb
    · exact .inr ⟨k, h1, h2⟩
  | true =>
    obtain ⟨hLo, hB, hm, hpairs⟩ := hdraw rfl
    refine wp_region_any hm ?_
    have hops : ops = sorted ops0 := hops
    have hsz : ops.size = ops0.size ∧ (wpAny P .any ops (Post.conc F Q) ops.size (Array.replicate ops.size false) a { w with drawn := w.drawn + 1 } → wpAny P .any ops0 (Post.conc F Q) ops0.size (Array.replicate ops0.size false) a { w with drawn := w.drawn + 1 }) := by
      rcases sorted_relab ops0 with h | ⟨p, h1, h2⟩
      · rw [hops, h]; exact ⟨rfl, fun h => h⟩
      · rw [← hops] at h1
        refine ⟨h1.size, fun h => ?_⟩
        rw [h1.size] at h
        refine wpAny_relab h1 h2 _ _ _ (by simp) (by simp) (fun i hi => ?_) _ _ h
        have := h1.lt i hi
        simp [Array.getD_eq_getD_getElem?, Array.getElem?_replicate, hi, this]
    refine hsz.2 ?_
    have hs := step_drew (N := 0) hC.c.mem (w.drawn + 1)
    have hsA : StepA F.X (fun b => b = 0) io (getM S.M) w io (getM S.M) { w with drawn := w.drawn + 1 } := hs.toA hC.c.mem rfl
    have hA : ∀ i j, (i, j) ∈ loose ops → evApart (l.getD i default) (l.getD j default) = true := fun i j hij => by
      have hij' : i < j ∧ j < ops.size := by
        unfold loose at hij
        obtain ⟨j', hj', h2⟩ := List.mem_flatMap.1 hij
        obtain ⟨i', hi', h3⟩ := List.mem_filterMap.1 h2
        split at h3
        · cases h3
        · injection h3 with h3
          injection h3 with h4 h5
          subst h4; subst h5
          exact ⟨List.mem_range.1 hi', List.mem_range.1 hj'⟩
      have hoi : ops[i]? = some (ops[i]'(by omega)) := Array.getElem?_eq_getElem (by omega)
      have hoj : ops[j]? = some (ops[j]'(by omega)) := Array.getElem?_eq_getElem (by omega)
      by_cases hmm : (i, j) ∈ pairs
      · exact List.all_eq_true.1 hp (i, j) hmm
      · rw [hpairs] at hmm
        have hnm : mayMeet (compOp P (ops[i]'(by omega)).op) (compOp P (ops[j]'(by omega)).op) = false := by
          rw [Bool.eq_false_iff]
          intro h
          refine hmm (List.mem_filter.2 ⟨hij, ?_⟩)
          simp only [Array.getD_eq_getD_getElem?, hoi, hoj, Option.getD_some]
          exact h
        have di := hE i _ hoi
        have dj := hE j _ hoj
        simp only [mayMeet, Bool.and_eq_false_iff, Bool.not_eq_false', Bool.and_eq_true] at hnm
        rcases hnm with (h | h) | ⟨h1, h2⟩
        · obtain ⟨e1, e2⟩ := does_touch di h
          simp only [evApart, e1, e2, ids, List.map_nil, disj_nil_left, disj_nil_right, Bool.and_self]
        · obtain ⟨e1, e2⟩ := does_touch dj h
          simp only [evApart, e1, e2, ids, List.map_nil, disj_nil_left, disj_nil_right, Bool.and_self]
        · have e1 := does_reads di h1
          have e2 := does_reads dj h2
          simp only [evApart, e1, e2, ids, List.map_nil, disj_nil_left, Bool.and_self]
    refine run_any (d := S.d) (N := S.nx) hC.low hC.outN hC.n4 hG hD' hLo hB hdst hE hA hQ' ops.size (Array.replicate ops.size false) (by simp) ?_ (fun y o _ h => ?_) io a _ ?_
    · have : ∀ m, rem (fun i => (Array.replicate ops.size false).getD i false) m ≤ m := fun m => by
        induction m with
        | zero => exact Nat.le_refl _
        | succ m ih => simp only [rem]; split <;> omega
      exact this _
    · simp [Array.getD_eq_getD_getElem?, Array.getElem?_replicate] at h
      split at h <;> simp at h
    · have e0 : (fun i => (Array.replicate ops.size false).getD i false) = fun _ => false := by
        funext i
        simp only [Array.getD_eq_getD_getElem?, Array.getElem?_replicate]
        split <;> rfl
      have e1 : ∀ n, gAt (fun j => (ops[j]?).bind (·.dst)) (fun i => l.getD i default) (getT S.T) (fun _ => false) n = getT S.T := fun n => by
        induction n with
        | zero => rfl
        | succ n ih => simp only [gAt, if_false, Bool.false_eq_true]; exact ih
      have e2 : ∀ n, mAt (fun i => l.getD i default) (getM S.M) (fun _ => false) n = getM S.M := fun n => by
        induction n with
        | zero => rfl
        | succ n ih => simp only [mAt, if_false, Bool.false_eq_true]; exact ih
      rw [e0, e1, e2]
      have hle := hs.le
      refine ⟨hs.mem, fun t => (hC.c.tmps t).mono hle, hC.c.size, hC.c.defers, fun b hb => hC.c.fresh b ?_, (hC.c.hstep hsA).1, (hC.c.hstep hsA).2, hC.c.pre, hC.c.top, hC.c.free⟩
      rcases hb with hb | ⟨k, h1, h2, _⟩
      · exact .inl hb
      · exact .inr ⟨k, h1, h2⟩

/-! ### Running -/

theorem getT_set (T : List (Nat × AV)) (dst : Option Nat) (v : AV) : getT (setT T dst v) = updO (getT T) dst v := by
  cases dst with
  | none => rfl
  | some d =>
    funext t
    simp only [setT, updO, getT, upd]
    by_cases h : t = d
    · subst h; simp
    · rw [if_neg h, if_neg (fun e => h e.symm)]

/-- The operations from here on, and what holds behind them. -/
def RunOps (P : Program) (d n : Nat) : Nat → List COper → List (Nat × AV) → List (Nat × Blk) → List Ev → (List (Nat × AV) → List (Nat × Blk) → List Ev → Prop) → Prop
  | _, [], T, M, l, K => K T M l
  | i, o :: r, T, M, l, K => ∃ e : Ev, Does P (nm d (n + i)) o (getT T) (getM M) e.v e.wr e.rd ∧ RunOps P d n (i + 1) r (setT T o.dst e.v) (wrM M e.wr) (l ++ [e]) K

theorem run_trace {d n : Nat} (r : List COper) : ∀ {i : Nat} {T : List (Nat × AV)} {M : List (Nat × Blk)} {l : List Ev} {K : List (Nat × AV) → List (Nat × Blk) → List Ev → Prop}, RunOps P d n i r T M l K →
    ∃ l' T' M', Trace P (fun i => nm d (n + i)) i r (getT T) (getM M) l' (getT T') (getM M') ∧ K T' M' (l ++ l') := by
  induction r with
  | nil => intro i T M l K h; exact ⟨[], T, M, .nil _ _ _, by simpa [RunOps] using h⟩
  | cons o r ih =>
    intro i T M l K h
    obtain ⟨e, hd, h⟩ := h
    obtain ⟨l', T', M', ht, hk⟩ := ih h
    refine ⟨e :: l', T', M', .cons _ _ _ _ _ _ _ _ _ hd ?_, by simpa using hk⟩
    rw [getT_set, getM_wr] at ht
    exact ht

/-- THE RULE FOR REGIONS, to be run. -/
theorem safe_run {cops : List COper} {pairs : List (Nat × Nat)} {live : List Nat} {S : St} {Q : Post}
    (h : RunOps P S.d S.nx 0 cops S.T S.M [] fun T M l => pairsOk l pairs = true ∧ Q .normal ⟨T, M, S.d, S.nx + cops.length⟩) : Safe P nt (.region cops pairs live) S Q := by
  obtain ⟨l', T', M', ht, hk⟩ := run_trace cops h
  exact safe_region ht (by simpa using hk.1) hk.2

/-- A CONTRACT, with all that a call asks. -/
structure FS (P : Program) (N : Nat) (k : FuncId) (args : List AV) (pre : List (Nat × Blk)) (r : AV) (post : Wr) : Prop where
  call : callable P k = true
  spec : FSpec P N k args pre r post

end Go.Proofs.Ytneoeegpceompaa.AM
