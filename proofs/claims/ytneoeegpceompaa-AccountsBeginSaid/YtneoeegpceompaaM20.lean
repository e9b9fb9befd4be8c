/-
The abstract machine, part 20: other states for the same place; from a function's body to its contract.
-/
import Derived.Test.YtneoeegpceompaaM19
namespace Go.Proofs.Ytneoeegpceompaa.AM
open Go

variable {P : Program} {nt : Nat}

/-! ### Other states for the same place -/

theorem map_rels {E : Env} {f : AV → AV} (hf : ∀ x u, Rel E x u → Rel E (f x) u) {cs : List AV} {us : List Value} (h : Rels E cs us) : Rels E (cs.map f) us := ⟨by simp [h.1], fun j x u hx hu => by
  rw [List.getElem?_map] at hx
  obtain ⟨y, hy, rfl⟩ := Option.map_eq_some_iff.1 hx
  exact hf y u (h.2 j y u hy hu)⟩

/-- These temporaries alone. -/
def keepT (ks : List Nat) (T : List (Nat × AV)) : List (Nat × AV) := ks.map fun k => (k, getT T k)

theorem getT_keep (ks : List Nat) (T : List (Nat × AV)) (t : Nat) : getT (keepT ks T) t = getT T t ∨ getT (keepT ks T) t = .any := by
  induction ks with
  | nil => exact .inr rfl
  | cons k ks ih =>
    simp only [keepT, List.map_cons, getT]
    split
    · rename_i h; subst h; exact .inl rfl
    · exact ih

theorem weak_T {S : St} (T' : List (Nat × AV)) (h : ∀ t, getT T' t = getT S.T t ∨ getT T' t = .any) : Weak S { S with T := T' } := fun F io a w hC =>
  ⟨io, ⟨hC.c.mem, fun t => by
    rcases h t with h | h
    · show Rel _ (getT T' t) _
      rw [h]; exact hC.c.tmps t
    · show Rel _ (getT T' t) _
      rw [h]; exact .any _, hC.c.size, hC.c.defers, hC.c.fresh, hC.c.heap, hC.c.own, hC.c.pre, hC.c.top, hC.c.free⟩, hC.low, hC.outN, hC.n4⟩

theorem weak_keep {S : St} (ks : List Nat) : Weak S { S with T := keepT ks S.T } := weak_T _ (getT_keep ks S.T)

theorem weak_refl (S : St) : Weak S S := fun _ io _ _ h => ⟨io, h⟩
theorem weak_trans {A B C : St} (h : Weak A B) (k : Weak B C) : Weak A C := fun F io a w hC => by
  obtain ⟨io', h'⟩ := h F io a w hC
  exact k F io' a w h'

/-- Over a step that leaves the world as it is. -/
theorem weak_step {S S' : St} (hd : S'.d = S.d) (hnx : S.nx ≤ S'.nx) (h : ∀ F io a w, Conc F io S a w → ∃ (io' : Nat → Option (Option Nat)) (A : Nat → Prop), StepA F.X A io (getM S.M) w io' (getM S'.M) w ∧ (∀ b, frS F S'.d S'.nx b → frS F S.d S.nx b → ¬ A b) ∧ (∀ b, A b → Gar F.D b) ∧ ∀ t, Rel (envOf F.X io' (getM S'.M) w) (getT S'.T t) (a.tmps.getD t undef)) : Weak S S' := fun F io a w hC => by
  obtain ⟨io', A, hs, hA, hG, ht⟩ := h F io a w hC
  refine ⟨io', hC.c.step hs ht rfl rfl (fun b hb => ?_) hG, by rw [hd]; exact hC.low, hC.outN, hC.n4⟩
  have hb' : frS F S.d S.nx b := by
    rcases hb with hb | ⟨k, h1, h2⟩
    · exact .inl hb
    · exact .inr ⟨k, by omega, by rw [← hd]; exact h2⟩
  exact ⟨hb', hA b hb hb'⟩

/-- A block goes. -/
theorem weak_drop {S : St} (b : Nat) : Weak S { S with M := delM S.M b } := weak_step rfl (Nat.le_refl _) fun F io a w hC => by
  have hs := step_drop (N := nm S.d S.nx) hC.c.mem b
  have e : upd (getM S.M) b none = getM (delM S.M b) := by funext c; simp only [getM_del, upd]
  rw [e] at hs
  have hsA : StepA F.X (fun b => b = nm S.d S.nx) io (getM S.M) w io (getM (delM S.M b)) w := hs.toA hC.c.mem rfl
  exact ⟨io, fun _ => False, ⟨hsA.mem, hsA.ios, hsA.os, hsA.tape, hsA.output, hsA.size, hsA.keep, hsA.shape, hsA.own, fun _ _ h => h, fun h => h⟩, fun _ _ _ h => h, fun _ h => h.elim, fun t => (hC.c.tmps t).mono hsA.le⟩

/-- Blocks are written no more. -/
theorem weak_freeze {S : St} (fz : List Nat) : Weak S { S with M := wrM S.M (frzW (getM S.M) fz) } := weak_step rfl (Nat.le_refl _) fun F io a w hC => by
  have hs := frz_step (N := nm S.d S.nx) fz hC.c.mem
  rw [← getM_wr] at hs
  have hsA : StepA F.X (fun b => b = nm S.d S.nx) io (getM S.M) w io (getM (wrM S.M (frzW (getM S.M) fz))) w := hs.toA hC.c.mem rfl
  exact ⟨io, fun _ => False, ⟨hsA.mem, hsA.ios, hsA.os, hsA.tape, hsA.output, hsA.size, hsA.keep, hsA.shape, hsA.own, fun _ _ h => h, fun h => h⟩, fun _ _ _ h => h, fun _ h => h.elim, fun t => (hC.c.tmps t).mono hsA.le⟩

def mapT (f : AV → AV) (T : List (Nat × AV)) : List (Nat × AV) := T.map fun p => (p.1, f p.2)

theorem getT_map {f : AV → AV} (hf : f .any = .any) (T : List (Nat × AV)) (t : Nat) : getT (mapT f T) t = f (getT T t) := by
  induction T with
  | nil => exact hf.symm
  | cons p T ih =>
    obtain ⟨s, x⟩ := p
    simp only [mapT, List.map_cons, getT]
    split
    · rfl
    · exact ih

/-- Less known of the temporaries. -/
theorem weak_vl {S : St} (T' : List (Nat × AV)) (h : ∀ t, VL3 (getM S.M) (getT S.T t) (getT T' t)) : Weak S { S with T := T' } := fun F io a w hC =>
  ⟨io, ⟨hC.c.mem, fun t => (h t).rel hC.c.mem (hC.c.tmps t), hC.c.size, hC.c.defers, hC.c.fresh, hC.c.heap, hC.c.own, hC.c.pre, hC.c.top, hC.c.free⟩, hC.low, hC.outN, hC.n4⟩

def ren1 (b c : Nat) : AV → AV
  | .row b' sz off len => if b' = b then .row c sz off len else .row b' sz off len
  | .pt b' sz i o => if b' = b then .pt c sz i o else .pt b' sz i o
  | x => x
def ren2 (b c : Nat) : AV → AV
  | .agg cs => .agg (cs.map (ren1 b c))
  | x => ren1 b c x
def ren (b c : Nat) : AV → AV
  | .tup cs => .tup (cs.map (ren2 b c))
  | x => ren2 b c x

section
variable {E : Env} {b c : Nat}
theorem ren1_rel (h : E.io c = E.io b) (x : AV) (u : Value) (hr : Rel E x u) : Rel E (ren1 b c x) u := by
  cases x with
  | row b' sz off len =>
    simp only [ren1]
    split
    · rename_i e; subst e
      cases hr with
      | rowz _ _ A hz => exact .rowz c sz A (by rw [h]; exact hz)
      | row _ _ _ _ k c' A cur ty hk hA hb hc hl hm => exact .row c sz off len k c' A cur ty (by rw [h]; exact hk) hA hb hc hl hm
    · exact hr
  | pt b' sz i o =>
    simp only [ren1]
    split
    · rename_i e; subst e
      cases hr with
      | pt _ _ _ _ k hk => exact .pt c sz i o k (by rw [h]; exact hk)
    · exact hr
  | _ => exact hr
theorem ren2_rel (h : E.io c = E.io b) (x : AV) (u : Value) (hr : Rel E x u) : Rel E (ren2 b c x) u := by
  cases x with
  | agg cs =>
    cases hr with
    | agg _ us hl h1 hr => exact .agg' (map_rels (ren1_rel h) ⟨hl, hr⟩) h1
  | _ => exact ren1_rel h _ _ hr
theorem ren_rel (h : E.io c = E.io b) (x : AV) (u : Value) (hr : Rel E x u) : Rel E (ren b c x) u := by
  cases x with
  | tup cs =>
    cases hr with
    | tup _ us hl hr => exact .tup' (map_rels (ren2_rel h) ⟨hl, hr⟩)
  | _ => exact ren2_rel h _ _ hr
end

/-- A new frame of names. -/
theorem Safe.enter {cc : CC} {S : St} {Q : Post} (h : ∀ d, S.d < d → Safe P nt cc { S with d := d, nx := 0 } Q) : Safe P nt cc S Q := fun c hc F io a w hn hC => by
  obtain ⟨D, hD⟩ := hC.c.top
  refine h (max D (S.d + 1)) (by omega) c hc F io a w hn ⟨⟨hC.c.mem, hC.c.tmps, hC.c.size, hC.c.defers, fun b hb => ?_, hC.c.heap, hC.c.own, hC.c.pre, hC.c.top, hC.c.free⟩, ?_, hC.outN, hC.n4⟩
  · rcases hb with hb | ⟨k, _, h2⟩
    · exact hC.c.fresh b (.inl hb)
    · exact hD b ⟨_, k, by show D ≤ max D (S.d + 1); omega, h2⟩
  · have := hC.low
    show F.D ≤ max D (S.d + 1)
    omega

theorem SafeL.enter {cc : CC} {S : St} {Q : Post} (h : ∀ d, S.d < d → SafeL P nt cc { S with d := d, nx := 0 } Q) : SafeL P nt cc S Q := fun c hc F io a w hn hC => by
  obtain ⟨D, hD⟩ := hC.c.top
  refine h (max D (S.d + 1)) (by omega) c hc F io a w hn ⟨⟨hC.c.mem, hC.c.tmps, hC.c.size, hC.c.defers, fun b hb => ?_, hC.c.heap, hC.c.own, hC.c.pre, hC.c.top, hC.c.free⟩, ?_, hC.outN, hC.n4⟩
  · rcases hb with hb | ⟨k, _, h2⟩
    · exact hC.c.fresh b (.inl hb)
    · exact hD b ⟨_, k, by show D ≤ max D (S.d + 1); omega, h2⟩
  · have := hC.low
    show F.D ≤ max D (S.d + 1)
    omega

/-- A block gets a new name. -/
theorem weak_move {S : St} {b : Nat} {blk : Blk} (hb : getM S.M b = some blk) : Weak S { S with T := mapT (ren b (nm S.d S.nx)) S.T, M := (nm S.d S.nx, blk) :: delM S.M b, nx := S.nx + 1 } := weak_step rfl (Nat.le_succ _) fun F io a w hC => by
  have hfree : io (nm S.d S.nx) = none := hC.c.fresh _ (.inr ⟨S.nx, Nat.le_refl _, nbr_self _⟩)
  have hs := step_rename hC.c.mem hfree (hC.c.mem.unused hfree) hb
  have e : upd (upd (getM S.M) b none) (nm S.d S.nx) (some blk) = getM ((nm S.d S.nx, blk) :: delM S.M b) := by
    funext c
    simp only [getM, getM_del, upd]
    by_cases h : c = nm S.d S.nx
    · subst h; simp
    · simp only [if_neg h, if_neg (fun e : nm S.d S.nx = c => h e.symm)]
  rw [e] at hs
  refine ⟨upd io (nm S.d S.nx) (io b), fun x => x = nm S.d S.nx, hs.toA hC.c.mem rfl, fun x h1 h2 h3 => ?_, fun x hx => ?_, fun t => ?_⟩
  · subst h3
    rcases h1 with h1 | ⟨k, h4, h5⟩
    · exact gar_of hC.n4 hC.outN h1 (gar_nm.2 hC.low)
    · have := (nbr_nm (nbr_self _) h5).2
      simp only at h4
      omega
  · subst hx; exact gar_nm.2 hC.low
  · show Rel _ (getT (mapT (ren b (nm S.d S.nx)) S.T) t) _
    rw [getT_map rfl]
    refine ren_rel ?_ _ _ ((hC.c.tmps t).mono hs.le)
    show upd io _ _ _ = upd io _ _ _
    rw [upd_same, upd_ne]
    intro e; subst e
    rw [hC.c.mem.unused hfree] at hb; cases hb

/-! ### From a function's body to its contract -/

theorem Mem.sub {X : Nat → Prop} {io : Nat → Option (Option Nat)} {μ μ' : Mu} {w : World} (h : Mem X io μ w) (hs : ∀ b blk, μ' b = some blk → μ b = some blk) : (envOf X io μ w).Le (envOf X io μ' w) ∧ Mem X io μ' w := by
  have le : (envOf X io μ w).Le (envOf X io μ' w) := ⟨fun k hk => ⟨⟨hk.1, hk.2.1, fun b blk hb => hk.2.2 b blk (hs b blk hb)⟩, rfl⟩, fun _ _ h => h, fun _ cur _ h => ⟨cur, h, rfl⟩⟩
  exact ⟨le, fun b blk hb => (h.ok b blk (hs b blk hb)).mono le (fun _ _ => rfl), fun b b' blk blk' k h1 h2 => h.inj b b' blk blk' k (hs _ _ h1) (hs _ _ h2), h.lt, fun b blk k hb => h.notX b blk k (hs _ _ hb), h.xlt⟩

/-- Where a result stands: in a temporary, in a variable's cells. -/
inductive RK where
  | t (t : Nat)
  | c (a : Nat) (ag : Bool) (n : Nat)

def resK (P : Program) : List ResultVar → Option (List RK)
  | [] => some []
  | .tmp t :: r => (resK P r).map (.t t :: ·)
  | .cell a ty :: r => match tag P ty, tsz P ty, resK P r with
    | some ag, some n, some l => if ag = true ∨ n = 1 then some (.c a ag n :: l) else none
    | _, _, _ => none

def resV (T : List (Nat × AV)) (μ : Mu) : RK → Option AV
  | .t t => some (getT T t)
  | .c a ag n => loadAV μ ag n (getT T a)

def resVs (T : List (Nat × AV)) (μ : Mu) : List RK → Option (List AV)
  | [] => some []
  | k :: r => match resV T μ k, resVs T μ r with
    | some x, some l => some (x :: l)
    | _, _ => none

def resAV (T : List (Nat × AV)) (μ : Mu) (ks : List RK) : Option AV := match resVs T μ ks with
  | some [x] => some x
  | some l => some (.tup l)
  | none => none

theorem res_mapM {X : Nat → Prop} {io : Nat → Option (Option Nat)} {μ : Mu} {w : World} (hM : Mem X io μ w) {T : List (Nat × AV)} {tmps : Array Value} (hT : ∀ t, Rel (envOf X io μ w) (getT T t) (tmps.getD t undef)) {f : ResultVar → Sem Value} (hf : ∀ t, f (.tmp t) = pure (tmps.getD t undef)) (hf2 : ∀ a t, f (.cell a t) = do loadVar t (← asAddr (tmps.getD a undef))) :
    ∀ (l : List ResultVar) (ks : List RK) (xs : List AV), resK P l = some ks → resVs T μ ks = some xs → ∃ vs, (l.mapM f).run P w = .ok vs w ∧ Rels (envOf X io μ w) xs vs := by
  intro l
  induction l with
  | nil =>
    intro ks xs h h2
    simp only [resK, Option.some.injEq] at h; subst h
    simp only [resVs, Option.some.injEq] at h2; subst h2
    exact ⟨[], by simp, .nil _⟩
  | cons x l ih =>
    intro ks xs h h2
    cases x with
    | tmp t =>
      simp only [resK, Option.map_eq_some_iff] at h
      obtain ⟨r, hr, rfl⟩ := h
      simp only [resVs, resV] at h2
      split at h2
      · rename_i x l' hx hl'
        injection h2 with h2
        subst h2
        injection hx with hx
        subst hx
        obtain ⟨vs, h3, h4⟩ := ih r l' hr hl'
        exact ⟨tmps.getD t undef :: vs, by simp [List.mapM_cons, h3, hf], .cons (hT t) h4⟩
      · cases h2
    | cell a t =>
      simp only [resK] at h
      split at h
      · rename_i ag n r hag hn hr
        split at h
        · rename_i h1
          injection h with h
          subst h
          simp only [resVs, resV] at h2
          split at h2
          · rename_i x l' hx hl'
            injection h2 with h2
            subst h2
            obtain ⟨vs, h3, h4⟩ := ih r l' hr hl'
            obtain ⟨ad, v, hv, hrun, hrel⟩ := run_load_rel (P := P) hM hag hn h1 hx (hT a)
            exact ⟨v :: vs, by simp only [List.mapM_cons, hf2, hv]; simp [h3, hrun, asAddr], .cons hrel h4⟩
          · cases h2
        · cases h
      · cases h

theorem results_run {X : Nat → Prop} {io : Nat → Option (Option Nat)} {μ : Mu} {w : World} (hM : Mem X io μ w) {fn : Func} {ks : List RK} (h : resK P fn.results.toList = some ks) {T : List (Nat × AV)} {tmps : Array Value} (hT : ∀ t, Rel (envOf X io μ w) (getT T t) (tmps.getD t undef)) {x : AV} (hx : resAV T μ ks = some x) :
    ∃ v, (results fn tmps).run P w = .ok v w ∧ Rel (envOf X io μ w) x v := by
  have run : ∀ xs, resVs T μ ks = some xs → ∃ vs : List Value, Rels (envOf X io μ w) xs vs ∧ (results fn tmps).run P w = .ok (if h : vs.toArray.size = 1 then vs.toArray[0] else .tuple vs.toArray) w := fun xs hxs => by
    let f : ResultVar → Sem Value := fun | .tmp t => pure (tmps.getD t undef) | .cell a t => do loadVar t (← asAddr (tmps.getD a undef))
    obtain ⟨vs, h1, h2⟩ := res_mapM (P := P) hM (tmps := tmps) hT (f := f) (fun t => rfl) (fun a t => rfl) fn.results.toList ks xs h hxs
    refine ⟨vs, h2, ?_⟩
    have e : results fn tmps = (do let vs ← fn.results.mapM f; pure (if h : vs.size = 1 then vs[0] else .tuple vs)) := rfl
    rw [e, Array.mapM_eq_mapM_toList]
    simp [h1]
  unfold resAV at hx
  split at hx
  · rename_i y hy
    injection hx with hx
    subst hx
    obtain ⟨vs, h1, h2⟩ := run _ hy
    obtain ⟨v, r, rfl, hr, hrr⟩ := h1.cons_inv
    have := hrr.nil_inv
    subst this
    exact ⟨v, h2, hr⟩
  · rename_i l hne hl
    injection hx with hx
    subst hx
    obtain ⟨vs, h1, h2⟩ := run _ hl
    refine ⟨_, h2, ?_⟩
    have hne1 : vs.toArray.size ≠ 1 := fun e => by
      have h3 := h1.1
      simp at e
      rw [e] at h3
      match l, h3 with
      | [y], _ => exact hne y rfl
    rw [dif_neg hne1]
    exact .tup' h1
  · cases hx

def argT (args : List AV) : List (Nat × AV) := args.zipIdx.map fun p => (p.2, p.1)

theorem getT_args (args : List AV) : ∀ (k t : Nat), getT ((args.zipIdx k).map fun p => (p.2, p.1)) t = if k ≤ t then (args[t - k]?).getD .any else .any := by
  induction args with
  | nil => intro k t; simp [getT]
  | cons x args ih =>
    intro k t
    simp only [List.zipIdx_cons, List.map_cons, getT]
    by_cases h : k = t
    · subst h; simp
    · rw [if_neg h, ih]
      by_cases h1 : k ≤ t
      · rw [if_pos h1, if_pos (by omega)]
        have : t - k = (t - (k + 1)) + 1 := by omega
        rw [this, List.getElem?_cons_succ]
      · rw [if_neg h1, if_neg (by omega)]

/-- Blocks become the results' own. -/
def mvMu (N : Nat) : Nat → List Nat → Mu → Mu
  | _, [], μ => μ
  | j, c :: r, μ => mvMu N (j + 1) r (upd (upd μ c none) (N + j) (μ c))
def mvAV (N : Nat) : Nat → List Nat → AV → AV
  | _, [], x => x
  | j, c :: r, x => mvAV N (j + 1) r (ren c (N + j) x)
def mvOk (N : Nat) : Nat → List Nat → Mu → Prop
  | _, [], _ => True
  | j, c :: r, μ => j < 4 ∧ ¬ nbr N c ∧ (∃ blk, μ c = some blk) ∧ mvOk N (j + 1) r (upd (upd μ c none) (N + j) (μ c))

theorem mv_steps {X : Nat → Prop} {w : World} {N : Nat} {v : Value} (mv : List Nat) : ∀ (j : Nat) (io : Nat → Option (Option Nat)) (μ : Mu) (r : AV), Mem X io μ w → mvOk N j mv μ → (∀ i, j ≤ i → i < 4 → io (N + i) = none) → Rel (envOf X io μ w) r v →
    ∃ io2, Mem X io2 (mvMu N j mv μ) w ∧ (∀ b, ¬ nbr N b → io2 b = io b) ∧ (∀ b k, io b = some k → io2 b = some k) ∧
      (∀ b bk k, mvMu N j mv μ b = some bk → bk.mu = true → io2 b = some (some k) → (∃ b0 bk0, μ b0 = some bk0 ∧ bk0.mu = true ∧ io b0 = some (some k)) ∨ w.heap.size ≤ k) ∧ Rel (envOf X io2 (mvMu N j mv μ) w) (mvAV N j mv r) v := by
  induction mv with
  | nil => intro j io μ r hM _ _ hr; exact ⟨io, hM, fun _ _ => rfl, fun _ _ h => h, fun b bk k h1 h2 h3 => .inl ⟨b, bk, h1, h2, h3⟩, hr⟩
  | cons c mv ih =>
    intro j io μ r hM ⟨hj, hcN, ⟨blk, hb⟩, hok⟩ hfr hr
    have hN := hfr j (Nat.le_refl _) hj
    have hst := step_rename (N := N + j) hM hN (hM.unused hN) hb
    rw [hb] at hok
    have hne : c ≠ N + j := fun e => hcN (by subst e; exact ⟨by omega, by omega⟩)
    have hr' : Rel (envOf X (upd io (N + j) (io c)) (upd (upd μ c none) (N + j) (some blk)) w) (ren c (N + j) r) v := by
      refine ren_rel ?_ _ _ (hr.mono hst.le)
      show upd io (N + j) (io c) (N + j) = upd io (N + j) (io c) c
      rw [upd_same, upd_ne _ _ hne]
    obtain ⟨io2, h1, h2, h3, h4, h5⟩ := ih (j + 1) _ _ _ hst.mem hok (fun i hi hi4 => by rw [upd_ne _ _ (by omega)]; exact hfr i (by omega) hi4) hr'
    refine ⟨io2, by simp only [mvMu, hb]; exact h1, fun b hbN => ?_, fun b k hk => h3 b k (hst.ios b k hk), fun b bk k g1 g2 g3 => ?_, by simp only [mvMu, mvAV, hb]; exact h5⟩
    · rw [h2 b hbN, upd_ne _ _ (fun e => hbN (by subst e; exact ⟨by omega, by omega⟩))]
    · simp only [mvMu, hb] at g1
      rcases h4 b bk k g1 g2 g3 with ⟨b0, bk0, q1, q2, q3⟩ | q1
      · exact hst.own b0 bk0 k q1 q2 q3
      · exact .inr q1

/-- What must hold at a function's end. -/
structure RetS (N : Nat) (ks : List RK) (post : Mu) (r : AV) (T : List (Nat × AV)) (M : List (Nat × Blk)) : Prop where
  ret : ∃ (fz mv : List Nat) (x r' : AV), resAV T (getM M) ks = some x ∧ VL3 (app (getM M) (frzW (getM M) fz)) x r' ∧ mvOk N 0 mv (app (getM M) (frzW (getM M) fz)) ∧ r = mvAV N 0 mv r' ∧
    ∀ b blk, post b = some blk → mvMu N 0 mv (app (getM M) (frzW (getM M) fz)) b = some blk

def RetQ (N : Nat) (ks : List RK) (post : Mu) (r : AV) : Post := fun e S => match S with
  | ⟨T, M, _, _⟩ => match e with
    | .ret => RetS N ks post r T M
    | .normal => RetS N ks post r T M
    | _ => False

/-- THE CONTRACT OF A FUNCTION, from its body. -/
theorem fs_of_safe {k : Nat} {fn : Func} {body : Code} {cc : CC} {N : Nat} {args : List AV} {pre : List (Nat × Blk)} {r : AV} {post : Wr} {ks : List RK} (hf : P.funcs[k]? = some fn) (hb : fn.body = some body) (hname : (fn.name == "runtime.NumGoroutine") = false)
    (hts : resK P fn.results.toList = some ks) (hc : compCode P fn.ntmps body = cc) (hn : args.length ≤ fn.ntmps)
    (hs : ∀ D, N % 4 = 0 → ¬ Gar D N → (∀ b, preMu pre b ≠ none → ¬ Gar D b) → Safe P fn.ntmps cc ⟨argT args, (wrM [] (pre.map fun p => (p.1, some p.2))), D, 0⟩ (RetQ N ks (app (preMu pre) post) r)) : FS P N k args pre r post := by
  have hpre : getM (wrM [] (pre.map fun p => (p.1, some p.2))) = preMu pre := by rw [getM_wr]; rfl
  refine ⟨by simp [callable, hf, hb, hname], fun X io w vs D hM hargs h4 hN hD hND => ?_⟩
  refine calls_of_wp hf hb ?_
  have hps : ∀ b, preMu pre b ≠ none → ¬ Gar D b := fun b hb hg => hb (hM.unused (hD b hg))
  have hlen : vs.length = args.length := hargs.1.symm
  let F : Fr := ⟨X, w, fun k => ∃ b blk, preMu pre b = some blk ∧ blk.mu = true ∧ io b = some (some k), io, fn.ntmps, D, N⟩
  have hC : Conc F io ⟨argT args, (wrM [] (pre.map fun p => (p.1, some p.2))), D, 0⟩ { tmps := vs.toArray ++ Array.replicate (fn.ntmps - vs.toArray.size) undef, defers := [] } w := by
    refine ⟨⟨?_, fun t => ?_, ?_, rfl, fun b hb => ?_, HStep.refl _ _, fun b blk k h1 h2 h3 => .inl ⟨b, blk, ?_, h2, h3⟩, fun _ _ h => h, ⟨D, hD⟩, fun _ _ _ h => h⟩, Nat.le_refl _, hND, h4⟩
    · show Mem X io (getM (wrM [] (pre.map fun p => (p.1, some p.2)))) w
      rw [hpre]; exact hM
    · show Rel (envOf X io (getM (wrM [] (pre.map fun p => (p.1, some p.2)))) w) (getT (argT args) t) _
      rw [hpre]
      have := getT_args args 0 t
      simp only [Nat.zero_le, if_true, Nat.sub_zero] at this
      rw [argT, this]
      cases ha : args[t]? with
      | none => exact .any _
      | some x =>
        have ht : t < vs.length := by have := (List.getElem?_eq_some_iff.1 ha).1; omega
        have hv : vs[t]? = some vs[t] := List.getElem?_eq_getElem ht
        have : (vs.toArray ++ Array.replicate (fn.ntmps - vs.toArray.size) undef).getD t undef = vs[t] := by
          simp [Array.getD_eq_getD_getElem?, Array.getElem?_append_left, ht]
        rw [this]
        exact hargs.2 t x _ ha hv
    · show _ = fn.ntmps; simp; omega
    · rcases hb with hb | ⟨k, _, h2⟩
      · exact hN b hb
      · exact hD _ ⟨D, k, Nat.le_refl _, h2⟩
    · rw [← hpre]; exact h1
  refine wp_mono (hs D h4 hND hps _ hc F io _ w rfl hC) fun e a' w' ⟨io', S', hQ, hC'⟩ => ?_
  have hQ' : (e = .ret ∨ e = .normal) ∧ RetS N ks (app (preMu pre) post) r S'.T S'.M := by
    cases e <;> first | exact ⟨.inl rfl, hQ⟩ | exact ⟨.inr rfl, hQ⟩ | exact hQ.elim
  obtain ⟨he, ⟨fz, mv, x, r', hx, hvl, hmo, hrr, hsub⟩⟩ := hQ'
  have hz := frz_step (X := X) (io := io') (w := w') N fz hC'.c.mem
  obtain ⟨v, hv, hr⟩ := results_run (P := P) hC'.c.mem hts hC'.c.tmps hx
  have hr2 := hvl.rel hz.mem (hr.mono hz.le)
  have ownF : ∀ b blk k, app (getM S'.M) (frzW (getM S'.M) fz) b = some blk → blk.mu = true → io' b = some (some k) → (∃ b0 blk0, preMu pre b0 = some blk0 ∧ blk0.mu = true ∧ io b0 = some (some k)) ∨ w.heap.size ≤ k := fun b blk k h1 h2 h3 => by
    rcases hz.own b blk k h1 h2 h3 with ⟨b0, blk0, q1, q2, q3⟩ | q1
    · exact hC'.c.own b0 blk0 k q1 q2 q3
    · have := hC'.c.heap.size
      exact .inr (Nat.le_trans this q1)
  obtain ⟨io2, hM2, hio2, hios, hown, hrel⟩ := mv_steps mv 0 io' _ r' hz.mem hmo (fun i _ hi => hC'.c.fresh (N + i) (.inl ⟨by show N ≤ N + i; omega, by show N + i < N + 4; omega⟩)) hr2
  rw [← hrr] at hrel
  obtain ⟨le, hM3⟩ := hM2.sub hsub
  have fin : StepA X (fun b => nbr N b ∨ Gar D b) io (preMu pre) w io2 (app (preMu pre) post) w' := by
    refine ⟨hM3, fun b k h => hios b k (hC'.c.pre b k h), hC'.c.heap.os, hC'.c.heap.tape, hC'.c.heap.output, hC'.c.heap.size, fun k hk h => hC'.c.heap.keep k hk fun ⟨b, blk, h1, h2, h3⟩ => h b blk h1 h2 h3, hC'.c.heap.shape, fun b blk k h1 h2 h3 => ?_, fun b hb h => ?_, fun _ => ?_⟩
    · rcases hown b blk k (hsub b blk h1) h2 h3 with ⟨b0, bk0, q1, q2, q3⟩ | q1
      · exact ownF b0 bk0 k q1 q2 q3
      · exact .inr (Nat.le_trans hC'.c.heap.size q1)
    · have hbN : ¬ nbr N b := fun e => hb (.inl e)
      rw [hio2 b hbN]; exact hC'.c.free b hbN (fun h => hb (.inr h)) h
    · obtain ⟨D', hD'⟩ := hC'.c.top
      refine ⟨max D' D, fun b hb => ?_⟩
      have hbN : ¬ nbr N b := fun e => gar_of h4 hND e (hb.mono (by omega))
      rw [hio2 b hbN]; exact hD' b (hb.mono (by omega))
  rcases he with rfl | rfl
  · exact ⟨hC'.c.defers, v, hv, v, io2, rfl, fin, hrel.mono le⟩
  · exact ⟨hC'.c.defers, v, hv, v, io2, rfl, fin, hrel.mono le⟩

end Go.Proofs.Ytneoeegpceompaa.AM
