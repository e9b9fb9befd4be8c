/-
The abstract machine, part 16: what one operation of a region does, with its condition, or as a call; and what it looks at.
-/
import Derived.Test.YtneoeegpceompaaM15
namespace Go.Proofs.Ytneoeegpceompaa.AM
open Go

variable {P : Program}

def callable (P : Program) (k : FuncId) : Bool := match P.funcs[k]? with
  | some fn => !(fn.name == "runtime.NumGoroutine") && fn.body.isSome
  | none => false

def ids (wr : Wr) : List Nat := wr.map (·.1)

theorem lookW_ids {wr : Wr} {b : Nat} {x : Option Blk} (h : lookW wr b = some x) : b ∈ ids wr := List.mem_map.2 ⟨(b, x), lookW_mem h, rfl⟩

theorem app_other {μ : Mu} {wr : Wr} {b : Nat} (h : b ∉ ids wr) : app μ wr b = μ b := by
  rw [app_look]
  cases hl : lookW wr b with
  | none => rfl
  | some x => exact absurd (lookW_ids hl) h

theorem preMu_ids {pre : List (Nat × Blk)} {b : Nat} {blk : Blk} (h : preMu pre b = some blk) : b ∈ pre.map (·.1) := by
  unfold preMu at h
  rw [app_look] at h
  cases hl : lookW (pre.map fun p => (p.1, some p.2)) b with
  | none => rw [hl] at h; simp at h
  | some x =>
    have := lookW_ids hl
    simpa [ids, Function.comp_def] using this

/-- What a call does. -/
def CallDoes (P : Program) (N : Nat) (f : Operand) (args : List Operand) (g : Nat → AV) (μ : Mu) (v : AV) (wr : Wr) (rd : List Nat) : Prop :=
  ∃ k caps fz pre post args', ev g f = .fn k caps ∧ callable P k = true ∧ FSpec P N k args' pre v post ∧ VLs2 (app μ (frzW μ fz)) (args.map (ev g) ++ caps) args' ∧
    (∀ b blk, preMu pre b = some blk → app μ (frzW μ fz) b = some blk) ∧
    wr = frzW μ fz ++ post ∧ rd = fz ++ (pre.map (·.1) ++ (args.map (ev g) ++ caps).flatMap blks)

def guardOn (o : COper) (g : Nat → AV) : Prop := ∀ d want, o.gd = some (d, want) → g d = .v (.bool want)

inductive Does (P : Program) (N : Nat) (o : COper) (g : Nat → AV) (μ : Mu) : AV → Wr → List Nat → Prop
  | skip (d : Nat) (want : Bool) (x : Value) (hg : o.gd = some (d, want)) (hd : g d = .v x) (hx : x ≠ .bool want) : Does P N o g μ (.v undef) [] []
  | exec (v : AV) (wr : Wr) (hg : guardOn o g) (he : evalCO g μ N o.op = some (v, wr)) : Does P N o g μ v wr (rdCO g o.op)
  | call (f : Operand) (args : List Operand) (v : AV) (wr : Wr) (rd : List Nat) (hg : guardOn o g) (ho : o.op = .call f args) (hc : CallDoes P N f args g μ v wr rd) : Does P N o g μ v wr rd

theorem comp_call_inv {op : Op} {f : Operand} {args : List Operand} (h : compOp P op = .call f args) : ∃ c, op = .call c ∧ c.callee = .value f ∧ c.args.toList = args := by
  cases op with
  | call c =>
    refine ⟨c, rfl, ?_⟩
    simp only [compOp, compCall] at h
    split at h
    · rename_i g hg
      injection h with h1 h2
      exact ⟨by rw [hg, h1], h2⟩
    all_goals ((repeat' split at h) <;> cases h)
  | makeFunc fn first caps => cases fn <;> simp only [compOp] at h <;> first | (cases h; done) | ((repeat' split at h) <;> cases h)
  | binOp op t x y t' => simp only [compOp, compBin] at h; (repeat' split at h) <;> cases h
  | _ => first | (simp only [compOp] at h; cases h; done) | (simp only [compOp] at h; (repeat' split at h) <;> cases h)

section
variable {ops : Array Oper} {o : Oper} {g g' : Nat → AV} {μ μ' : Mu} {N : Nat}

theorem ev_congr {x : Operand} (h : ∀ t, x = .tmp t → g t = g' t) : ev g x = ev g' x := by
  cases x with
  | tmp t => exact h t rfl
  | _ => rfl

theorem looks_op (h : ∀ t ∈ o.looksAt ops, g t = g' t) : ∀ x ∈ o.op.operands, ev g x = ev g' x := fun x hx => ev_congr fun t ht => by
  subst ht
  refine h t (List.mem_append_left _ (List.mem_filterMap.2 ⟨.tmp t, by simpa using hx, rfl⟩))

def GuardOk (ops : Array Oper) (o : Oper) : Prop := ∀ j want, o.guard = some (j, want) → ((ops[j]?).bind (·.dst)).isSome = true

theorem looks_gd (hG : GuardOk ops o) (h : ∀ t ∈ o.looksAt ops, g t = g' t) {d : Nat} {want : Bool} (hd : (compOper P ops o).gd = some (d, want)) : g d = g' d := by
  unfold compOper at hd
  cases hg : o.guard with
  | none => rw [hg] at hd; cases hd
  | some p =>
    obtain ⟨j, w⟩ := p
    rw [hg] at hd
    have hs := hG j w hg
    obtain ⟨e, he⟩ := Option.isSome_iff_exists.1 hs
    simp only [he, Option.getD_some, Option.some.injEq, Prod.mk.injEq] at hd
    obtain ⟨rfl, _⟩ := hd
    refine h _ (List.mem_append_right _ ?_)
    rw [hg]
    simp [he]

/-- An operation does the same where what it looks at is the same. -/
theorem Does.congr (hG : GuardOk ops o) (hl : ∀ t ∈ o.looksAt ops, g t = g' t) {v : AV} {wr : Wr} {rd : List Nat} (hm : ∀ b ∈ rd, μ b = μ' b) (h : Does P N (compOper P ops o) g μ v wr rd) : Does P N (compOper P ops o) g' μ' v wr rd := by
  have hop := looks_op hl
  have hgd : ∀ {d want}, (compOper P ops o).gd = some (d, want) → g d = g' d := fun h => looks_gd hG hl h
  have hgo : guardOn (compOper P ops o) g → guardOn (compOper P ops o) g' := fun h d want hd => by rw [← hgd hd]; exact h d want hd
  cases h with
  | skip d want x h1 h2 h3 => exact .skip d want x h1 (by rw [← hgd h1]; exact h2) h3
  | exec _ _ h1 h2 =>
    obtain ⟨e1, e2⟩ := evalCO_g (P := P) (g := g) (g' := g') μ N o.op hop
    have e3 := evalCO_m (μ := μ) (μ' := μ') g N (compOp P o.op) hm
    have : rdCO g (compOper P ops o).op = rdCO g' (compOper P ops o).op := e2
    rw [this]
    refine .exec _ _ (hgo h1) ?_
    show evalCO g' μ' N (compOp P o.op) = _
    rw [← (evalCO_g (P := P) (g := g) (g' := g') μ' N o.op hop).1, ← e3]
    exact h2
  | call f args _ _ _ h1 h2 h3 =>
    refine .call f args _ _ _ (hgo h1) h2 ?_
    obtain ⟨c, hc1, hc2, hc3⟩ := comp_call_inv (P := P) (op := o.op) h2
    obtain ⟨k, caps, fz, pre, post, args', k1, k2, k3, kv, k4, k6, k7⟩ := h3
    have hf : ev g f = ev g' f := hop f (by rw [hc1]; simp [Op.operands, Call.operands, hc2])
    have ha : args.map (ev g) = args.map (ev g') := List.map_congr_left fun x hx => hop x (by rw [hc1]; subst hc3; simp [Op.operands, Call.operands]; exact .inr (by simpa using hx))
    subst k7
    have hfz : frzW μ fz = frzW μ' fz := frzW_congr fz fun b hb => hm b (List.mem_append_left _ hb)
    have happ : ∀ b, μ b = μ' b → app μ (frzW μ fz) b = app μ' (frzW μ' fz) b := fun b hb => by rw [app_look, app_look, hfz, hb]
    refine ⟨k, caps, fz, pre, post, args', by rw [← hf]; exact k1, k2, k3, ?_, fun b blk hb => ?_, by rw [← hfz]; exact k6, by rw [ha]⟩
    · rw [← ha]
      exact kv.congr fun b hb => happ b (hm b (List.mem_append_right _ (List.mem_append_right _ hb)))
    rw [← happ b (hm b (List.mem_append_right _ (List.mem_append_left _ (preMu_ids hb))))]
    exact k4 b blk hb

end

def updO (g : Nat → AV) (dst : Option Nat) (v : AV) : Nat → AV := match dst with
  | none => g
  | some d => upd g d v

theorem put_rel {E : Env} {g : Nat → AV} {a : Act} {dst : Option Nat} {v : AV} {u : Value} (hg : ∀ t, Rel E (g t) (a.tmps.getD t undef)) (hv : Rel E v u) (hd : ∀ d, dst = some d → d < a.tmps.size) : ∀ t, Rel E (updO g dst v t) ((a.put dst u).tmps.getD t undef) := by
  cases dst with
  | none => exact hg
  | some d =>
    intro t
    simp only [updO, Act.put, upd]
    have hlt := hd d rfl
    by_cases h : t = d
    · subst h
      simp only [if_true]
      simpa [Array.getD_eq_getD_getElem?, hlt] using hv
    · rw [if_neg h]
      have := hg t
      simpa [Array.getD_eq_getD_getElem?, Array.getElem?_setIfInBounds, Ne.symm h] using this

theorem put_size (a : Act) (dst : Option Nat) (u : Value) : (a.put dst u).tmps.size = a.tmps.size := by cases dst <;> simp [Act.put]
theorem put_defers (a : Act) (dst : Option Nat) (u : Value) : (a.put dst u).defers = a.defers := by cases dst <;> rfl

theorem wanted_iff {ops : Array Oper} {o : Oper} {a : Act} {j : Nat} {want : Bool} {d : Nat} (hg : o.guard = some (j, want)) (hd : (ops[j]?).bind (·.dst) = some d) (hlt : d < a.tmps.size) :
    Region.wanted o (yielded ops a.tmps) = true ↔ a.tmps.getD d undef = .bool want := by
  simp only [Region.wanted, hg, yielded, hd, Option.bind_some, Array.getD_eq_getD_getElem?]
  rw [Array.getElem?_eq_getElem hlt]
  simp only [Option.getD_some]
  cases h : a.tmps[d] <;> simp

/-- One operation, in the model. -/
theorem does_wpOp {ops : Array Oper} {Q : Exit → Act → World → Prop} {i : Nat} {K : Act → World → Prop} {a : Act} {w : World} {X : Nat → Prop} {io : Nat → Option (Option Nat)} {μ : Mu} {N D : Nat} {g : Nat → AV} {o : Oper} {v : AV} {wr : Wr} {rd : List Nat}
    (hM : Mem X io μ w) (hg : ∀ t, Rel (envOf X io μ w) (g t) (a.tmps.getD t undef)) (h4 : N % 4 = 0) (hNo : ∀ b, nbr N b → io b = none) (hD : ∀ b, Gar D b → io b = none) (hND : ¬ Gar D N) (hi : ops[i]? = some o) (hG : GuardOk ops o) (hd : ∀ (j : Nat) (o : Oper) (d : Nat), ops[j]? = some o → o.dst = some d → d < a.tmps.size)
    (h : Does P N (compOper P ops o) g μ v wr rd)
    (hK : ∀ io' w' a', StepA X (fun b => nbr N b ∨ Gar D b) io μ w io' (app μ wr) w' → (∀ t, Rel (envOf X io' (app μ wr) w') (updO g o.dst v t) (a'.tmps.getD t undef)) → a'.tmps.size = a.tmps.size → a'.defers = a.defers → K a' w') :
    wpOp P ops Q i K a w := by
  have hdst : ∀ d, o.dst = some d → d < a.tmps.size := fun d h => hd i o d hi h
  have hN : io N = none := hNo N (nbr_self N)
  have hμN : μ N = none := hM.unused hN
  have hgd : ∀ {d want}, (compOper P ops o).gd = some (d, want) → (Region.wanted o (yielded ops a.tmps) = true ↔ a.tmps.getD d undef = .bool want) := fun {d want} hgd => by
    unfold compOper at hgd
    cases hgu : o.guard with
    | none => rw [hgu] at hgd; cases hgd
    | some p =>
      obtain ⟨j, w⟩ := p
      rw [hgu] at hgd
      obtain ⟨e, he⟩ := Option.isSome_iff_exists.1 (hG j w hgu)
      simp only [he, Option.getD_some, Option.some.injEq, Prod.mk.injEq] at hgd
      obtain ⟨rfl, rfl⟩ := hgd
      obtain ⟨oj, hoj, hdj⟩ := Option.bind_eq_some_iff.1 he
      exact wanted_iff hgu he (hd j oj _ hoj hdj)
  have hon : guardOn (compOper P ops o) g → Region.wanted o (yielded ops a.tmps) = true := fun hgo => by
    cases hgu : o.guard with
    | none => simp [Region.wanted, hgu]
    | some p =>
      obtain ⟨j, wt⟩ := p
      have hc : (compOper P ops o).gd = some (((ops[j]?).bind (·.dst)).getD 1000000, wt) := by simp [compOper, hgu]
      rw [hgd hc]
      have h1 := hgo _ _ hc
      have h2 := hg (((ops[j]?).bind (·.dst)).getD 1000000)
      rw [h1] at h2
      generalize a.tmps.getD _ undef = u at h2 ⊢
      cases h2; rfl
  unfold wpOp
  rw [hi]
  simp only
  cases h with
  | skip d want x h1 h2 h3 =>
    have hw : Region.wanted o (yielded ops a.tmps) = false := by
      rw [Bool.eq_false_iff]
      intro hw
      have h4 := (hgd h1).1 hw
      have h5 := hg d
      rw [h2, h4] at h5
      cases h5
      exact h3 rfl
    rw [if_neg (by rw [hw]; simp)]
    exact hK io w _ ((Step.refl (N := N) hM).toA hM (.inl (nbr_self N))) (put_rel hg (.v undef) hdst) (put_size _ _ _) (put_defers _ _ _)
  | exec _ _ h1 h2 =>
    rw [if_pos (hon h1)]
    left
    obtain ⟨n, u, w', io', hr, hn, hs, hv⟩ := evalCO_sound hM hg hN hμN o h2
    unfold Oper.wp
    rw [hr]
    have hg' : ∀ t, Rel (envOf X io' (app μ wr) w') (g t) (a.tmps.getD t undef) := fun t => (hg t).mono hs.le
    rcases hn with rfl | ⟨rfl, rfl⟩
    · exact hK io' w' _ (hs.toA hM (.inl (nbr_self N))) (put_rel hg' hv hdst) (put_size _ _ _) (put_defers _ _ _)
    · exact hK io' w' _ (hs.toA hM (.inl (nbr_self N))) (put_rel hg' hv hdst) (put_size _ _ _) (put_defers _ _ _)
  | call f args _ _ _ h1 h2 h3 =>
    rw [if_pos (hon h1)]
    left
    obtain ⟨c, hc1, hc2, hc3⟩ := comp_call_inv (P := P) (op := o.op) h2
    obtain ⟨k, caps, fz, pre, post, args', k1, k2, k3, kv, k4, k6, k7⟩ := h3
    have hf := ev_rel (a := a) hg f
    rw [k1] at hf
    have hfv : ∃ vs : List Value, a.eval f = .func (.func k) #[] vs.toArray ∧ Rels (envOf X io μ w) caps vs := by
      generalize a.eval f = u at hf
      cases hf with
      | fn _ _ vs hl hr => exact ⟨vs, rfl, hl, hr⟩
    obtain ⟨vs, hfe, hcr⟩ := hfv
    have hargs : Rels (envOf X io μ w) (args.map (ev g) ++ caps) (args.map a.eval ++ vs) := by
      refine Rels.app ⟨by simp, fun j x u hx hu => ?_⟩ hcr
      rw [List.getElem?_map] at hx hu
      obtain ⟨y, hy, rfl⟩ := Option.map_eq_some_iff.1 hx
      rw [hy] at hu
      simp only [Option.map_some, Option.some.injEq] at hu
      subst hu
      exact ev_rel hg y
    have hz := frz_step (X := X) (io := io) (w := w) N fz hM
    have hargs' : Rels (envOf X io (app μ (frzW μ fz)) w) args' (args.map a.eval ++ vs) := kv.rels hz.mem (hargs.mono hz.le)
    have hcall := call_ok k3 hz.mem k4 h4 hNo hD hND hargs'
    have hrun : (execOp a.eval o).run P w = .ok (.enter k (args.map a.eval ++ vs).toArray) w := by
      unfold callable at k2
      cases hfn : P.funcs[k]? with
      | none => rw [hfn] at k2; cases k2
      | some fn =>
        rw [hfn] at k2
        simp only [Bool.and_eq_true, Bool.not_eq_true', Option.isSome_iff_exists] at k2
        obtain ⟨k2a, body, k2b⟩ := k2
        have hk : fn.name ≠ "runtime.NumGoroutine" := by simpa using k2a
        subst hc3
        simp [execOp, hc1, resolve, hc2, hfe, Deferred.ofValue, invoke, callFunc, hfn, hk, k2b]
    unfold Oper.wp
    rw [hrun]
    simp only [Oper.upon]
    refine Calls.mono hcall fun e w' h => ?_
    obtain ⟨u, io', rfl, hs, hr⟩ := h
    have hst : StepA X (fun b => nbr N b ∨ Gar D b) io μ w io' (app μ wr) w' := by
      rw [k6, app_append]
      exact (hz.toA hM (.inl (nbr_self N))).trans hs
    have hr' : Rel (envOf X io' (app μ wr) w') v u := by rw [k6, app_append]; exact hr
    exact hK io' w' _ hst (put_rel (fun t => (hg t).mono hst.le) hr' hdst) (put_size _ _ _) (put_defers _ _ _)

end Go.Proofs.Ytneoeegpceompaa.AM
