/-
The abstract machine, part 26: loops: the next round in a new frame of names; induction.
-/
import Derived.Test.YtneoeegpceompaaM25
namespace Go.Proofs.Ytneoeegpceompaa.AM
open Go

variable {P : Program} {nt : Nat}

/-- Is it the block that is renamed? -/
structure Rn (b' b c : Nat) (K : Nat → Prop) : Prop where
  a : (b' = b ∧ K c) ∨ (b' ≠ b ∧ K b')

theorem Rn.same {b c : Nat} {K : Nat → Prop} (h : K c) : Rn b b c K := ⟨.inl ⟨rfl, h⟩⟩
theorem Rn.other {b' b c : Nat} {K : Nat → Prop} (hn : b' ≠ b) (h : K b') : Rn b' b c K := ⟨.inr ⟨hn, h⟩⟩

def ren1F (b c : Nat) (x : AV) (K : AV → Prop) : Prop := match x with
  | .row b' sz off len => Rn b' b c fun b'' => K (.row b'' sz off len)
  | .pt b' sz i o => Rn b' b c fun b'' => K (.pt b'' sz i o)
  | x => K x
def renLF (b c : Nat) : List AV → (List AV → Prop) → Prop
  | [], K => K []
  | x :: r, K => ren1F b c x fun x => renLF b c r fun r => K (x :: r)
def ren2F (b c : Nat) (x : AV) (K : AV → Prop) : Prop := match x with
  | .agg cs => renLF b c cs fun cs => K (.agg cs)
  | .tup cs => K (.tup (cs.map (ren2 b c)))
  | x => ren1F b c x K
def renTF (b c : Nat) : List (Nat × AV) → (List (Nat × AV) → Prop) → Prop
  | [], K => K []
  | (k, x) :: r, K => ren2F b c x fun x => renTF b c r fun r => K ((k, x) :: r)

theorem ren1F_eq {b c : Nat} {x : AV} {K : AV → Prop} (h : ren1F b c x K) : K (ren1 b c x) := by
  cases x with
  | row b' sz off len =>
    rcases h.a with ⟨e, h0⟩ | ⟨hn, h0⟩
    · simpa [ren1, e] using h0
    · simpa [ren1, hn] using h0
  | pt b' sz i o =>
    rcases h.a with ⟨e, h0⟩ | ⟨hn, h0⟩
    · simpa [ren1, e] using h0
    · simpa [ren1, hn] using h0
  | _ => exact h
theorem renLF_eq {b c : Nat} (l : List AV) : ∀ {K : List AV → Prop}, renLF b c l K → K (l.map (ren1 b c)) := by
  induction l with
  | nil => intro K h; exact h
  | cons x r ih => intro K h; exact ih (ren1F_eq h)
theorem ren2F_eq {b c : Nat} {x : AV} {K : AV → Prop} (h : ren2F b c x K) : K (ren b c x) := by
  cases x with
  | agg cs => exact renLF_eq cs h
  | tup cs => exact h
  | row b' sz off len => exact ren1F_eq (x := .row b' sz off len) h
  | pt b' sz i o => exact ren1F_eq (x := .pt b' sz i o) h
  | _ => exact h
theorem renTF_eq {b c : Nat} (T : List (Nat × AV)) : ∀ {K : List (Nat × AV) → Prop}, renTF b c T K → K (mapT (ren b c) T) := by
  induction T with
  | nil => intro K h; exact h
  | cons p r ih =>
    intro K h
    obtain ⟨k, x⟩ := p
    exact ih (ren2F_eq h)

/-- These temporaries alone. -/
def keepF : List Nat → List (Nat × AV) → (List (Nat × AV) → Prop) → Prop
  | [], _, K => K []
  | k :: r, T, K => frc (lk T k) fun v => keepF r T fun T' => K ((k, v) :: T')

theorem keepF_eq (ks : List Nat) : ∀ (T : List (Nat × AV)) (K : List (Nat × AV) → Prop), keepF ks T K = K (keepT ks T) := by
  induction ks with
  | nil => intro T K; rfl
  | cons k r ih => intro T K; simp only [keepF, frc_eq, lk_eq, ih]; rfl

/-- These blocks alone, under the frame's first names. -/
def agF (d : Nat) : List Nat → Nat → List (Nat × AV) → List (Nat × Blk) → List (Nat × Blk) → (Nat → List (Nat × AV) → List (Nat × Blk) → Prop) → Prop
  | [], n, T, _, acc, K => K n T acc
  | b :: r, n, T, M, acc, K => Lk M b fun k => match k with
    | ⟨mu, ty, sz, es, cap⟩ => renTF b (nm d n) T fun T' => frcN (n + 1) fun n' => agF d r n' T' (delM M b) ((nm d n, ⟨mu, ty, sz, es, cap⟩) :: acc) K

theorem agF_sound {d : Nat} (bs : List Nat) : ∀ {n : Nat} {T : List (Nat × AV)} {M acc Mt : List (Nat × Blk)} {K : Nat → List (Nat × AV) → List (Nat × Blk) → Prop}, agF d bs n T M acc K →
    (∀ b k, getM M b = some k → getM Mt b = some k) → (∀ b k, getM acc b = some k → getM Mt b = some k ∧ getM M b = none) →
    ∃ n' T' acc', K n' T' acc' ∧ Weak ⟨T, Mt, d, n⟩ ⟨T', acc', d, n'⟩ := by
  induction bs with
  | nil =>
    intro n T M acc Mt K h h1 h2
    refine ⟨n, T, acc, h, fun F io a w hC => ?_⟩
    obtain ⟨le, hM⟩ := hC.c.mem.sub (μ' := getM acc) (fun b k hb => (h2 b k hb).1)
    exact ⟨io, ⟨hM, fun t => (hC.c.tmps t).mono le, hC.c.size, hC.c.defers, hC.c.fresh, hC.c.heap, fun b blk k hb => hC.c.own b blk k (h2 b blk hb).1, hC.c.pre, hC.c.top, hC.c.free⟩, hC.low, hC.outN, hC.n4⟩
  | cons b r ih =>
    intro n T M acc Mt K h h1 h2
    obtain ⟨⟨mu, ty, sz, es, cap⟩, hk, h⟩ := h.a
    have h := renTF_eq T h
    rw [frcN_eq] at h
    by_cases hfr : getM Mt (nm d n) = none
    · have key : ∀ (b2 : Nat) (k2 : Blk), getM (delM M b) b2 = some k2 → getM ((nm d n, (⟨mu, ty, sz, es, cap⟩ : Blk)) :: delM Mt b) b2 = some k2 := fun b2 k2 hb2 => by
        rw [getM_del] at hb2
        split at hb2
        · cases hb2
        · rename_i hne
          have := h1 b2 k2 hb2
          have hn : nm d n ≠ b2 := fun e => by rw [← e, hfr] at this; cases this
          simp only [getM]
          rw [if_neg hn, getM_del, if_neg hne]
          exact this
      obtain ⟨n', T', acc', k1, k2⟩ := ih (Mt := (nm d n, ⟨mu, ty, sz, es, cap⟩) :: delM Mt b) h key (fun b2 k2 hb2 => by
        simp only [getM] at hb2
        split at hb2
        · rename_i e
          subst e
          injection hb2 with hb2
          subst hb2
          refine ⟨by simp [getM], ?_⟩
          rw [getM_del]
          split
          · rfl
          · cases hq : getM M (nm d n) with
            | none => rfl
            | some k3 => have := h1 _ _ hq; rw [hfr] at this; cases this
        · rename_i hne
          obtain ⟨g1, g2⟩ := h2 b2 k2 hb2
          have hbb : b2 ≠ b := fun e => by subst e; rw [hk] at g2; cases g2
          simp only [getM]
          rw [if_neg hne, getM_del, if_neg hbb, getM_del, if_neg hbb]
          exact ⟨g1, g2⟩)
      exact ⟨n', T', acc', k1, weak_trans (weak_move (S := ⟨T, Mt, d, n⟩) (h1 _ _ hk)) k2⟩
    · -- such a state there is none
      have key : ∀ (b2 : Nat) (k2 : Blk), getM (delM M b) b2 = some k2 → getM (((nm d n, (⟨mu, ty, sz, es, cap⟩ : Blk)) :: acc) ++ delM M b) b2 = some k2 ∨ True := fun _ _ _ => .inr trivial
      have absurdW : ∀ S', Weak ⟨T, Mt, d, n⟩ S' := fun S' F io a w hC => by
        exfalso
        have := hC.c.fresh (nm d n) (.inr ⟨n, Nat.le_refl _, nbr_self _⟩)
        exact hfr (hC.c.mem.unused this)
      obtain ⟨n', T', acc', k1⟩ : ∃ n' T' acc', K n' T' acc' := by
        have all : ∀ (r : List Nat) (n : Nat) (T : List (Nat × AV)) (M acc : List (Nat × Blk)), agF d r n T M acc K → ∃ n' T' acc', K n' T' acc' := fun r => by
          induction r with
          | nil => intro n T M acc h; exact ⟨_, _, _, h⟩
          | cons b r ih2 =>
            intro n T M acc h
            obtain ⟨⟨mu, ty, sz, es, cap⟩, hk, h⟩ := h.a
            have h := renTF_eq T h
            rw [frcN_eq] at h
            exact ih2 _ _ _ _ h
        exact all _ _ _ _ _ h
      exact ⟨n', T', acc', k1, absurdW _⟩

/-- Blocks that keep their names. -/
def exF : List Nat → List (Nat × Blk) → List (Nat × Blk) → (List (Nat × Blk) → List (Nat × Blk) → Prop) → Prop
  | [], M, acc, K => K M acc
  | b :: r, M, acc, K => Lk M b fun k => match k with
    | ⟨mu, ty, sz, es, cap⟩ => exF r (delM M b) ((b, ⟨mu, ty, sz, es, cap⟩) :: acc) K

theorem exF_sound (ex : List Nat) : ∀ {M acc Mt : List (Nat × Blk)} {K : List (Nat × Blk) → List (Nat × Blk) → Prop}, exF ex M acc K →
    (∀ b k, getM M b = some k → getM Mt b = some k) → (∀ b k, getM acc b = some k → getM Mt b = some k ∧ getM M b = none) →
    ∃ M' acc', K M' acc' ∧ (∀ b k, getM M' b = some k → getM Mt b = some k) ∧ (∀ b k, getM acc' b = some k → getM Mt b = some k ∧ getM M' b = none) := by
  induction ex with
  | nil => intro M acc Mt K h h1 h2; exact ⟨M, acc, h, h1, h2⟩
  | cons b r ih =>
    intro M acc Mt K h h1 h2
    obtain ⟨⟨mu, ty, sz, es, cap⟩, hk, h⟩ := h.a
    refine ih h (fun c k hc => ?_) (fun c k hc => ?_)
    · rw [getM_del] at hc
      split at hc
      · cases hc
      · exact h1 c k hc
    · simp only [getM] at hc
      rw [getM_del]
      split at hc
      · rename_i e
        subst e
        injection hc with hc
        subst hc
        exact ⟨h1 _ _ hk, by simp⟩
      · obtain ⟨g1, g2⟩ := h2 c k hc
        refine ⟨g1, ?_⟩
        split
        · rfl
        · exact g2

/-- On to a loop, or to its next round: these temporaries, these blocks (the first ones keep their names). -/
theorem Lp.go {x : CC} {Q : Post} {T : List (Nat × AV)} {M : List (Nat × Blk)} {d nx : Nat} (ks ex bs : List Nat)
    (h : keepF ks T fun T' => exF ex M [] fun M' acc => ∀ d', d < d' → agF d' bs 0 T' M' acc fun n T'' M'' => Lp P nt x ⟨T'', M'', d', n⟩ Q) : Lp P nt x ⟨T, M, d, nx⟩ Q := by
  rw [keepF_eq] at h
  obtain ⟨M', acc, h, h1, h2⟩ := exF_sound ex h (Mt := M) (fun _ _ h => h) (fun b k h => by simp [getM] at h)
  refine ⟨SafeL.weak (weak_keep (S := ⟨T, M, d, nx⟩) ks) (SafeL.enter fun d' hd' => ?_)⟩
  obtain ⟨n', T', acc', g1, g2⟩ := agF_sound bs (h d' hd') h1 h2
  exact SafeL.weak g2 g1.a

/-- Induction over a loop's rounds. -/
theorem l_ind {σ : Type} {x : CC} {Q : Post} (D : Nat) (m : σ → Nat) (I : σ → Prop) (F : σ → Nat → St)
    (step : ∀ s, I s → ∀ d, D ≤ d → (∀ s', m s' < m s → I s' → ∀ d', D ≤ d' → Lp P nt x (F s' d') Q) → wpC P nt x (F s d) (thenQ (fun S' => Lp P nt x S' Q) Q)) : ∀ s, I s → ∀ d, D ≤ d → Lp P nt x (F s d) Q := by
  have : ∀ k s, m s = k → I s → ∀ d, D ≤ d → Lp P nt x (F s d) Q := fun k => by
    induction k using Nat.strongRecOn with
    | _ k ih =>
      intro s hs hI d hd
      refine ⟨safeL_round (Safe.mono (wpC_sound x (step s hI d hd fun s' hm hI' d' hd' => ih (m s') (by omega) s' rfl hI' d' hd')) fun e S' h => ?_)⟩
      exact thenQ_of (fun he => by subst he; exact Lp.a h) (fun he => thenQ_ne h he)
  exact fun s => this _ s rfl

/-- .. that count. -/
theorem l_nat {x : CC} {Q : Post} (D n : Nat) (I : Nat → Prop) (F : Nat → Nat → St)
    (step : ∀ k, k ≤ n → I k → ∀ d, D ≤ d → (k < n → I (k + 1) → ∀ d', D ≤ d' → Lp P nt x (F (k + 1) d') Q) → wpC P nt x (F k d) (thenQ (fun S' => Lp P nt x S' Q) Q)) (h0 : I 0) : ∀ d, D ≤ d → Lp P nt x (F 0 d) Q := by
  have := l_ind (P := P) (nt := nt) (x := x) (Q := Q) D (fun k : Nat => n - k) (fun k => k ≤ n ∧ I k) F (fun k ⟨h1, h2⟩ d hd ih => step k h1 h2 d hd fun hlt hI d' hd' => ih (k + 1) (by omega) ⟨hlt, hI⟩ d' hd')
  exact this 0 ⟨Nat.zero_le _, h0⟩

/-- A function that writes one block of its caller's. -/
theorem Fn.upd {k : Nat} {cc : CC} {ks : List RK} {N b : Nat} {blk : Blk} {args : List AV} {r : AV} {post : Wr} (h : Fn P k cc nt ks) (hn2 : args.length ≤ nt)
    (hs : ∀ D, (∀ d j, D ≤ d → ¬ nbr N (nm d j)) → ¬ Gar D b → argF args 0 fun T => wpC P nt cc ⟨T, [(b, blk)], D, 0⟩ (RetQ N ks (app (preMu [(b, blk)]) post) r)) : FS P N k args [(b, blk)] r post :=
  h.fs hn2 fun D h4 a hp => hs D (fun d j hd => nbr_no a hd h4) (hp b (by simp [preMu, app, Go.Proofs.Ytneoeegpceompaa.AM.upd]))

/-- A function that makes a block. -/
theorem Fn.new {k : Nat} {cc : CC} {ks : List RK} {N : Nat} {blk : Blk} {args : List AV} {r : AV} (h : Fn P k cc nt ks) (hn2 : args.length ≤ nt)
    (hs : ∀ D, (∀ d j, D ≤ d → ¬ nbr N (nm d j)) → argF args 0 fun T => wpC P nt cc ⟨T, [], D, 0⟩ (RetQ N ks (app (preMu []) [(N, some blk)]) r)) : FS P N k args [] r [(N, some blk)] :=
  h.fs hn2 fun D h4 a _ => hs D (fun d j hd => nbr_no a hd h4)

end Go.Proofs.Ytneoeegpceompaa.AM
