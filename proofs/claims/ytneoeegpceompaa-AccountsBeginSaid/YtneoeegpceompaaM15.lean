/-
The abstract machine, part 15: abstract states, and the rules for code.
-/
import Derived.Test.YtneoeegpceompaaM14
namespace Go.Proofs.Ytneoeegpceompaa.AM
open Go

variable {P : Program}

/-! ### Loops, round by round -/

def LoopAt (P : Program) (c : Code) (Q : Exit → Act → World → Prop) (a : Act) (w : World) : Prop :=
  ∀ (b : Frame) (k : List Item) (cs : List Frame), ∃ e a' w', Q e a' w' ∧ Arrives P (lone (b.at a (.code c :: .inLoop c :: k)) cs w) b k cs e a' w'

theorem loopAt_round {c : Code} {Q : Exit → Act → World → Prop} {a : Act} {w : World} (h : c.wp P (Exit.then (LoopAt P c Q) Q) a w) : LoopAt P c Q a w := by
  intro b k cs
  obtain ⟨e, a₁, w₁, hq, harr⟩ := h b (.inLoop c :: k) cs
  cases e with
  | normal =>
    obtain ⟨e₂, a₂, w₂, hq₂, harr₂⟩ := hq b k cs
    exact ⟨e₂, a₂, w₂, hq₂, .of_steps (Steps.trans harr (.one step_inLoop)) harr₂⟩
  | exit id => exact ⟨_, a₁, w₁, hq, .pass (x := .inLoop c) rfl (fun _ _ => .inl (by simp)) harr⟩
  | goto l => exact ⟨_, a₁, w₁, hq, .pass (x := .inLoop c) rfl (fun _ _ => .inl (by simp)) harr⟩
  | ret => exact ⟨_, a₁, w₁, hq, .pass (x := .inLoop c) rfl (fun _ _ => .inl (by simp)) harr⟩
  | panic ch => exact ⟨_, a₁, w₁, hq, .pass (x := .inLoop c) rfl (fun _ _ => .inl (by simp)) harr⟩
  | outgrown => exact ⟨_, a₁, w₁, hq, .pass (x := .inLoop c) rfl (fun _ _ => .inl (by simp)) harr⟩

theorem loopAt_mono {c : Code} {Q Q' : Exit → Act → World → Prop} {a : Act} {w : World} (h : LoopAt P c Q a w) (hq : ∀ e a w, Q e a w → Q' e a w) : LoopAt P c Q' a w :=
  fun b k cs => let ⟨e, a', w', q, r⟩ := h b k cs; ⟨e, a', w', hq _ _ _ q, r⟩

theorem wp_loopAt {c : Code} {Q : Exit → Act → World → Prop} {a : Act} {w : World} (h : LoopAt P c Q a w) : (Code.loop c).wp P Q a w := by
  intro b k cs
  obtain ⟨e, a', w', hq, harr⟩ := h b k cs
  exact ⟨e, a', w', hq, .of_steps (.one step_loop) harr⟩

/-! ### States -/

/-- The temporaries that are known, the newest first. -/
def getT : List (Nat × AV) → Nat → AV
  | [], _ => .any
  | (s, x) :: r, t => if s = t then x else getT r t

def setT (T : List (Nat × AV)) (dst : Option Nat) (v : AV) : List (Nat × AV) := match dst with
  | none => T
  | some d => (d, v) :: T

def getM : List (Nat × Blk) → Mu
  | [], _ => none
  | (s, x) :: r, b => if s = b then some x else getM r b

def delM : List (Nat × Blk) → Nat → List (Nat × Blk)
  | [], _ => []
  | (s, x) :: r, b => if s = b then delM r b else (s, x) :: delM r b

def wrM : List (Nat × Blk) → Wr → List (Nat × Blk)
  | M, [] => M
  | M, (b, none) :: r => wrM (delM M b) r
  | M, (b, some k) :: r => wrM ((b, k) :: delM M b) r

theorem getM_del (M : List (Nat × Blk)) (b c : Nat) : getM (delM M b) c = if c = b then none else getM M c := by
  induction M with
  | nil => simp [delM, getM]
  | cons p r ih =>
    obtain ⟨s, x⟩ := p
    simp only [delM]
    by_cases h : s = b
    · simp only [h, if_true]
      rw [ih]
      by_cases hc : c = b
      · simp [hc]
      · simp only [hc, if_false, getM]
        rw [if_neg (fun e => hc e.symm)]
    · simp only [h, if_false, getM]
      rw [ih]
      by_cases hc : c = b
      · subst hc; simp [h]
      · simp [hc]

theorem getM_wr (wr : Wr) : ∀ (M : List (Nat × Blk)), getM (wrM M wr) = app (getM M) wr := by
  induction wr with
  | nil => intro M; rfl
  | cons p r ih =>
    intro M
    obtain ⟨b, x⟩ := p
    cases x with
    | none =>
      simp only [wrM, app]
      rw [ih]
      congr 1
      funext c
      rw [getM_del]; rfl
    | some k =>
      simp only [wrM, app]
      rw [ih]
      congr 1
      funext c
      simp only [getM, upd]
      by_cases h : c = b
      · subst h; simp
      · rw [if_neg (fun e => h e.symm), if_neg h, getM_del, if_neg h]

structure St where
  T : List (Nat × AV)
  M : List (Nat × Blk)
  d : Nat
  nx : Nat

/-- A call's frame: what it has been given. -/
structure Fr where
  X : Nat → Prop
  w0 : World
  own0 : Nat → Prop
  io0 : Nat → Option (Option Nat)
  nt : Nat
  D : Nat
  N : Nat

structure HStep (own : Nat → Prop) (w w' : World) : Prop where
  os : w'.os = w.os
  tape : w'.tape = w.tape
  output : w'.output = w.output
  size : w.heap.size ≤ w'.heap.size
  keep : ∀ k, k < w.heap.size → ¬ own k → w'.heap[k]? = w.heap[k]?
  shape : ∀ (k : Nat) (cur : Array Value) (ty : TypeId), w.heap[k]? = some (.cells cur ty (0, 0)) → ∃ cur' : Array Value, w'.heap[k]? = some (.cells cur' ty (0, 0)) ∧ cur'.size = cur.size

theorem HStep.refl (own : Nat → Prop) (w : World) : HStep own w w := ⟨rfl, rfl, rfl, Nat.le_refl _, fun _ _ _ => rfl, fun _ cur _ h => ⟨cur, h, rfl⟩⟩

/-- The state of a call, over whatever temporaries, memory, free names. -/
structure ConcF (F : Fr) (io : Nat → Option (Option Nat)) (g : Nat → AV) (μ : Mu) (fr : Nat → Prop) (a : Act) (w : World) : Prop where
  mem : Mem F.X io μ w
  tmps : ∀ t, Rel (envOf F.X io μ w) (g t) (a.tmps.getD t undef)
  size : a.tmps.size = F.nt
  defers : a.defers = []
  fresh : ∀ b, fr b → io b = none
  heap : HStep F.own0 F.w0 w
  own : ∀ b blk k, μ b = some blk → blk.mu = true → io b = some (some k) → F.own0 k ∨ F.w0.heap.size ≤ k
  pre : ∀ b k, F.io0 b = some k → io b = some k
  top : ∃ D, ∀ b, Gar D b → io b = none
  free : ∀ b, ¬ nbr F.N b → ¬ Gar F.D b → F.io0 b = none → io b = none

/-- The names that are free: the result's, and the frame's from some number on. -/
def frS (F : Fr) (d nx b : Nat) : Prop := nbr F.N b ∨ ∃ k, nx ≤ k ∧ nbr (nm d k) b

structure Conc (F : Fr) (io : Nat → Option (Option Nat)) (S : St) (a : Act) (w : World) : Prop where
  c : ConcF F io (getT S.T) (getM S.M) (frS F S.d S.nx) a w
  low : F.D ≤ S.d
  outN : ¬ Gar F.D F.N
  n4 : F.N % 4 = 0

/-- What the frame has seen so far stays true over a step. -/
theorem ConcF.hstep {F : Fr} {io : Nat → Option (Option Nat)} {g : Nat → AV} {μ : Mu} {fr : Nat → Prop} {a : Act} {w : World} (h : ConcF F io g μ fr a w) {A : Nat → Prop} {io' : Nat → Option (Option Nat)} {μ' : Mu} {w' : World} (hs : StepA F.X A io μ w io' μ' w') :
    HStep F.own0 F.w0 w' ∧ ∀ b blk k, μ' b = some blk → blk.mu = true → io' b = some (some k) → F.own0 k ∨ F.w0.heap.size ≤ k := by
  refine ⟨⟨hs.os.trans h.heap.os, hs.tape.trans h.heap.tape, hs.output.trans h.heap.output, Nat.le_trans h.heap.size hs.size, fun k hk hn => ?_, fun k cur ty hc => ?_⟩, fun b blk k hb hm hk => ?_⟩
  · rw [hs.keep k (Nat.lt_of_lt_of_le hk h.heap.size) (fun b blk hb hm hio => ?_)]
    · exact h.heap.keep k hk hn
    · rcases h.own b blk k hb hm hio with h1 | h1
      · exact hn h1
      · omega
  · obtain ⟨c1, h1, s1⟩ := h.heap.shape k cur ty hc
    obtain ⟨c2, h2, s2⟩ := hs.shape k c1 ty h1
    exact ⟨c2, h2, s2.trans s1⟩
  · rcases hs.own b blk k hb hm hk with ⟨b0, blk0, h1, h2, h3⟩ | h1
    · exact h.own b0 blk0 k h1 h2 h3
    · exact .inr (Nat.le_trans h.heap.size h1)

theorem ConcF.step {F : Fr} {io : Nat → Option (Option Nat)} {g : Nat → AV} {μ : Mu} {fr : Nat → Prop} {a : Act} {w : World} (h : ConcF F io g μ fr a w) {A : Nat → Prop} {io' : Nat → Option (Option Nat)} {μ' : Mu} {w' : World} (hs : StepA F.X A io μ w io' μ' w')
    {g' : Nat → AV} {a' : Act} (hg : ∀ t, Rel (envOf F.X io' μ' w') (g' t) (a'.tmps.getD t undef)) (hsz : a'.tmps.size = a.tmps.size) (hdf : a'.defers = a.defers) {fr' : Nat → Prop} (hfr : ∀ b, fr' b → fr b ∧ ¬ A b) (hA : ∀ b, A b → Gar F.D b) : ConcF F io' g' μ' fr' a' w' where
  mem := hs.mem
  tmps := hg
  size := hsz.trans h.size
  defers := hdf.trans h.defers
  fresh b hb := hs.free b (hfr b hb).2 (h.fresh b (hfr b hb).1)
  heap := (h.hstep hs).1
  own := (h.hstep hs).2
  pre b k hb := hs.ios b k (h.pre b k hb)
  top := hs.top h.top
  free b h1 h2 h3 := hs.free b (fun ha => h2 (hA b ha)) (h.free b h1 h2 h3)

/-! ### The judgement -/

abbrev Post := Exit → St → Prop

def Post.conc (F : Fr) (Q : Post) : Exit → Act → World → Prop := fun e a w => ∃ io S, Q e S ∧ Conc F io S a w

/-- The compact code does so, wherever it comes from. -/
def Safe (P : Program) (nt : Nat) (cc : CC) (S : St) (Q : Post) : Prop :=
  ∀ c, compCode P nt c = cc → ∀ F io a w, F.nt = nt → Conc F io S a w → c.wp P (Post.conc F Q) a w

def SafeL (P : Program) (nt : Nat) (cc : CC) (S : St) (Q : Post) : Prop :=
  ∀ c, compCode P nt c = cc → ∀ F io a w, F.nt = nt → Conc F io S a w → LoopAt P c (Post.conc F Q) a w

def thenQ (next : St → Prop) (Q : Post) : Post := fun e S => match e with
  | .normal => next S
  | e => Q e S

def blockQ (id : Nat) (Q : Post) : Post := fun e S => match e with
  | .exit id' => if id' = id then Q .normal S else Q (.exit id') S
  | e => Q e S

variable {nt : Nat}

theorem Safe.mono {cc : CC} {S : St} {Q Q' : Post} (h : Safe P nt cc S Q) (hq : ∀ e S, Q e S → Q' e S) : Safe P nt cc S Q' := fun c hc F io a w hn hC =>
  wp_mono (h c hc F io a w hn hC) fun _ _ _ ⟨io', S', hQ, hC'⟩ => ⟨io', S', hq _ _ hQ, hC'⟩

theorem comp_skip {c : Code} (h : compCode P nt c = .skip) : c = .skip := by
  cases c with
  | skip => rfl
  | region id ops draw => simp only [compCode] at h; (repeat' split at h) <;> cases h
  | _ => first | (simp only [compCode] at h; cases h; done) | cases h

theorem safe_skip {S : St} {Q : Post} (h : Q .normal S) : Safe P nt .skip S Q := fun c hc F io a w _ hC => by
  rw [comp_skip hc]
  exact wp_skip ⟨io, S, h, hC⟩

theorem comp_ret {c : Code} (h : compCode P nt c = .ret) : c = .ret := by
  cases c with
  | ret => rfl
  | region id ops draw => simp only [compCode] at h; (repeat' split at h) <;> cases h
  | _ => first | (simp only [compCode] at h; cases h; done) | cases h

theorem safe_ret {S : St} {Q : Post} (h : Q .ret S) : Safe P nt .ret S Q := fun c hc F io a w _ hC => by
  rw [comp_ret hc]
  exact wp_ret ⟨io, S, h, hC⟩

theorem comp_exit {c : Code} {id : Nat} (h : compCode P nt c = .exit id) : c = .exit id := by
  cases c with
  | exit i => simp only [compCode, CC.exit.injEq] at h; rw [h]
  | region id ops draw => simp only [compCode] at h; (repeat' split at h) <;> cases h
  | _ => first | (simp only [compCode] at h; cases h; done) | cases h

theorem safe_exit {S : St} {id : Nat} {Q : Post} (h : Q (.exit id) S) : Safe P nt (.exit id) S Q := fun c hc F io a w _ hC => by
  rw [comp_exit hc]
  exact wp_exit ⟨io, S, h, hC⟩

theorem comp_seq {c : Code} {x y : CC} (h : compCode P nt c = .seq x y) : ∃ a b, c = .seq a b ∧ compCode P nt a = x ∧ compCode P nt b = y := by
  cases c with
  | seq a b => simp only [compCode, CC.seq.injEq] at h; exact ⟨a, b, rfl, h.1, h.2⟩
  | region id ops draw => simp only [compCode] at h; (repeat' split at h) <;> cases h
  | _ => first | (simp only [compCode] at h; cases h; done) | cases h

theorem safe_seq {x y : CC} {S : St} {Q : Post} (h : Safe P nt x S (thenQ (fun S' => Safe P nt y S' Q) Q)) : Safe P nt (.seq x y) S Q := fun c hc F io a w hn hC => by
  obtain ⟨c1, c2, rfl, h1, h2⟩ := comp_seq hc
  refine wp_seq (wp_mono (h c1 h1 F io a w hn hC) fun e a' w' ⟨io', S', hQ, hC'⟩ => ?_)
  cases e <;> first | exact hQ c2 h2 F io' a' w' hn hC' | exact ⟨io', S', hQ, hC'⟩

theorem comp_cond {c : Code} {o : Operand} {x y : CC} (h : compCode P nt c = .cond o x y) : ∃ a b, c = .cond o a b ∧ compCode P nt a = x ∧ compCode P nt b = y := by
  cases c with
  | cond o a b => simp only [compCode, CC.cond.injEq] at h; obtain ⟨rfl, h1, h2⟩ := h; exact ⟨a, b, rfl, h1, h2⟩
  | region id ops draw => simp only [compCode] at h; (repeat' split at h) <;> cases h
  | _ => first | (simp only [compCode] at h; cases h; done) | cases h

theorem safe_cond {o : Operand} {x y : CC} {S : St} {Q : Post} {t : Bool} (ht : ev (getT S.T) o = .v (.bool t)) (h : Safe P nt (if t = true then x else y) S Q) : Safe P nt (.cond o x y) S Q := fun c hc F io a w hn hC => by
  obtain ⟨c1, c2, rfl, h1, h2⟩ := comp_cond hc
  have hr := ev_rel (a := a) hC.c.tmps o
  rw [ht] at hr
  have hv : a.eval o = .bool t := by generalize a.eval o = u at hr ⊢; cases hr; rfl
  refine wp_cond hv ?_
  cases t with
  | true => exact h c1 h1 F io a w hn hC
  | false => exact h c2 h2 F io a w hn hC

theorem comp_block {c : Code} {id : Nat} {x : CC} (h : compCode P nt c = .block id x) : ∃ a, c = .block id a ∧ compCode P nt a = x := by
  cases c with
  | block i a => simp only [compCode, CC.block.injEq] at h; obtain ⟨rfl, h1⟩ := h; exact ⟨a, rfl, h1⟩
  | region id ops draw => simp only [compCode] at h; (repeat' split at h) <;> cases h
  | _ => first | (simp only [compCode] at h; cases h; done) | cases h

theorem safe_block {id : Nat} {x : CC} {S : St} {Q : Post} (h : Safe P nt x S (blockQ id Q)) : Safe P nt (.block id x) S Q := fun c hc F io a w hn hC => by
  obtain ⟨c1, rfl, h1⟩ := comp_block hc
  refine wp_block (wp_mono (h c1 h1 F io a w hn hC) fun e a' w' ⟨io', S', hQ, hC'⟩ => ?_)
  cases e with
  | exit id' =>
    simp only [blockQ] at hQ
    simp only [Exit.inBlock]
    split
    · rename_i e; rw [if_pos e] at hQ; exact ⟨io', S', hQ, hC'⟩
    · rename_i e; rw [if_neg e] at hQ; exact ⟨io', S', hQ, hC'⟩
  | _ => exact ⟨io', S', hQ, hC'⟩

theorem comp_loop {c : Code} {x : CC} (h : compCode P nt c = .loop x) : ∃ a, c = .loop a ∧ compCode P nt a = x := by
  cases c with
  | loop a => simp only [compCode, CC.loop.injEq] at h; exact ⟨a, rfl, h⟩
  | region id ops draw => simp only [compCode] at h; (repeat' split at h) <;> cases h
  | _ => first | (simp only [compCode] at h; cases h; done) | cases h

theorem safe_loop {x : CC} {S : St} {Q : Post} (h : SafeL P nt x S Q) : Safe P nt (.loop x) S Q := fun c hc F io a w hn hC => by
  obtain ⟨c1, rfl, h1⟩ := comp_loop hc
  exact wp_loopAt (h c1 h1 F io a w hn hC)

/-- One round. -/
theorem safeL_round {x : CC} {S : St} {Q : Post} (h : Safe P nt x S (thenQ (fun S' => SafeL P nt x S' Q) Q)) : SafeL P nt x S Q := fun c hc F io a w hn hC => by
  refine loopAt_round (wp_mono (h c hc F io a w hn hC) fun e a' w' ⟨io', S', hQ, hC'⟩ => ?_)
  cases e <;> first | exact hQ c hc F io' a' w' hn hC' | exact ⟨io', S', hQ, hC'⟩

/-- Another state for the same place. -/
def Weak (S S' : St) : Prop := ∀ F io a w, Conc F io S a w → ∃ io', Conc F io' S' a w

theorem Safe.weak {cc : CC} {S S' : St} {Q : Post} (hw : Weak S S') (h : Safe P nt cc S' Q) : Safe P nt cc S Q := fun c hc F io a w hn hC => by
  obtain ⟨io', hC'⟩ := hw F io a w hC
  exact h c hc F io' a w hn hC'

theorem SafeL.weak {cc : CC} {S S' : St} {Q : Post} (hw : Weak S S') (h : SafeL P nt cc S' Q) : SafeL P nt cc S Q := fun c hc F io a w hn hC => by
  obtain ⟨io', hC'⟩ := hw F io a w hC
  exact h c hc F io' a w hn hC'

end Go.Proofs.Ytneoeegpceompaa.AM
