/-
The abstract machine, part 4: the operations that leave memory as it is.
-/
import Derived.Test.YtneoeegpceompaaM3
namespace Go.Proofs.Ytneoeegpceompaa.AM
open Go

variable {P : Program}

/-- What an operation must come to. -/
def OpOK (P : Program) (X : Nat → Prop) (N : Nat) (io : Nat → Option (Option Nat)) (μ : Mu) (w : World) (a : Act) (o : Oper) (x : AV) (wr : Wr) : Prop :=
  ∃ n v w' io', (execOp a.eval o).run P w = .ok n w' ∧ (n = .value v ∨ n = .skip ∧ v = undef) ∧ Step X N io μ w io' (app μ wr) w' ∧ Rel (envOf X io' (app μ wr) w') x v

theorem OpOK.pure {X : Nat → Prop} {N : Nat} {io : Nat → Option (Option Nat)} {μ : Mu} {w : World} {a : Act} {o : Oper} {x : AV} {v : Value} (hM : Mem X io μ w) (h : (execOp a.eval o).run P w = .ok (.value v) w) (hr : Rel (envOf X io μ w) x v) :
    OpOK P X N io μ w a o x [] := ⟨_, v, w, io, h, .inl rfl, Step.refl hM, hr⟩

theorem ev_rel {E : Env} {g : Nat → AV} {a : Act} (hg : ∀ t, Rel E (g t) (a.tmps.getD t undef)) (x : Operand) : Rel E (ev g x) (a.eval x) := by
  cases x with
  | tmp t => exact hg t
  | const c => exact .v c
  | func f => exact .fn f [] [] rfl (fun j x u h => by simp at h)
  | global g => exact .any _

theorem rel_int {E : Env} {k : IntKind} {n : Int} {u : Value} (h : Rel E (.v (.int k n)) u) : u = .int k n := by cases h; rfl
theorem rel_v {E : Env} {x u : Value} (h : Rel E (.v x) u) : u = x := by cases h; rfl

/-- The cells of a value. -/
theorem cells_rel {E : Env} {x : AV} {cs : List AV} (h : cellsAV x = some cs) {u : Value} (hr : Rel E x u) : ∃ us : List Value, u.cells = us.toArray ∧ Rels E cs us ∧ ∀ y ∈ us, y.oneCell' = true := by
  have one : ∀ (x : AV) (u : Value), Rel E x u → u.oneCell' = true → u.cells = #[u] → ∃ us : List Value, u.cells = us.toArray ∧ Rels E [x] us ∧ ∀ y ∈ us, y.oneCell' = true := fun x u hr h1 hc =>
    ⟨[u], hc, .cons hr (.nil E), fun y hy => by simp at hy; subst hy; exact h1⟩
  cases x with
  | any => cases h
  | tup _ => cases h
  | agg cs' =>
    injection h with h
    subst h
    cases hr with
    | agg _ us hl h1 h => exact ⟨us, rfl, ⟨hl, h⟩, h1⟩
  | v y =>
    have hv := rel_v hr
    subst hv
    simp only [cellsAV] at h
    split at h
    · rename_i h1
      injection h with h
      subst h
      exact one _ _ hr h1 (by cases u <;> first | rfl | (simp [Value.oneCell'] at h1))
    · cases h
  | sl _ _ => injection h with h; subst h; have h2 := hr; cases hr <;> exact one _ _ h2 rfl rfl
  | z0 => injection h with h; subst h; have h2 := hr; cases hr <;> exact one _ _ h2 rfl rfl
  | ipt _ => injection h with h; subst h; have h2 := hr; cases hr <;> exact one _ _ h2 rfl rfl
  | pt _ _ _ _ => injection h with h; subst h; have h2 := hr; cases hr <;> exact one _ _ h2 rfl rfl
  | row _ _ _ _ => injection h with h; subst h; have h2 := hr; cases hr <;> exact one _ _ h2 rfl rfl
  | fn _ _ => injection h with h; subst h; have h2 := hr; cases hr <;> exact one _ _ h2 rfl rfl

theorem pureR_inv {y : Option AV} {x : AV} {wr : Wr} (h : pureR y = some (x, wr)) : y = some x ∧ wr = [] := by
  cases y with
  | none => cases h
  | some y => simp [pureR] at h; exact ⟨by rw [h.1], h.2⟩
theorem pureV_inv {y : Option Value} {x : AV} {wr : Wr} (h : pureV y = some (x, wr)) : ∃ v, y = some v ∧ x = .v v ∧ wr = [] := by
  cases y with
  | none => cases h
  | some y => simp [pureV] at h; exact ⟨y, rfl, h.1.symm, h.2⟩
theorem evs_rel {E : Env} {g : Nat → AV} {a : Act} (hg : ∀ t, Rel E (g t) (a.tmps.getD t undef)) (xs : List Operand) : Rels E (xs.map (ev g)) (xs.map a.eval) := by
  induction xs with
  | nil => exact .nil _
  | cons x xs ih => exact .cons (ev_rel hg x) ih

theorem asIntOf_int (k : IntKind) (n : Int) (w : World) : (asIntOf (.int k n)).run P w = .ok (k, n) w := by simp [asIntOf]

theorem run_binInt (op : BinOp) (t : TypeId) (k : IntKind) (x y : Int) {v : Value} (hs : isShift op = false) (h : binInt op k x y = some v) (w : World) : (binOp op t (.int k x) (.int k y)).run P w = .ok v w := by
  cases op <;> simp only [binInt] at h <;> first
    | (injection h with h; subst h; simp [binOp, Op.intArith, Op.intCmp, Op.intBits]; done)
    | (split at h <;> first | (cases h; done) | (rename_i hz; injection h with h; subst h; simp [binOp, Op.intDiv, hz]; done))
    | (cases hs; done)
    | (cases h; done)

theorem run_binShift (op : BinOp) (t : TypeId) (k k' : IntKind) (x y : Int) {v : Value} (h : binShift op k x y = some v) (w : World) : (binOp op t (.int k x) (.int k' y)).run P w = .ok v w := by
  cases op <;> simp only [binShift] at h <;> try (cases h; done)
  all_goals
    by_cases hz : y < 0
    · rw [if_pos hz] at h; cases h
    · rw [if_neg hz] at h
      injection h with h
      subst h
      simp [binOp, Op.shift, hz, Nat.min_def, Nat.min]

theorem run_binStr (op : BinOp) (t : TypeId) (x y : ByteArray) {v : Value} (h : binStr op x y = some v) (w : World) : (binOp op t (.string x) (.string y)).run P w = .ok v w := by
  cases op <;> simp only [binStr] at h <;> first
    | (injection h with h; subst h; simp [binOp, Op.stringOp]; done)
    | (cases h; done)

theorem run_eqGuard_int (op : BinOp) (t : TypeId) (x y : Operand) (k k' : IntKind) (m n : Int) (w : World) : (eqGuard op t x y (.int k m) (.int k' n)).run P w = .ok () w := by
  simp only [eqGuard]
  cases op <;> simp
theorem run_eqGuard_str (op : BinOp) (t : TypeId) (x y : Operand) (m n : ByteArray) (w : World) : (eqGuard op t x y (.string m) (.string n)).run P w = .ok () w := by
  simp only [eqGuard]
  cases op <;> simp

/-- The length of a value. -/
theorem len_rel {E : Env} {x : AV} {n : Int} (h : lenAV x = some n) {u : Value} (hr : Rel E x u) : ∃ A m c, u = .slice A m c ∧ n = (m : Int) := by
  cases x with
  | sl sz es =>
    injection h with h
    subst h
    cases hr with
    | sl0 _ A c => exact ⟨A, 0, c, rfl, by simp⟩
    | sl _ _ k o c u _ _ _ hlc => exact ⟨_, _, c, rfl, rfl⟩
  | row b sz off len =>
    injection h with h
    subst h
    cases hr with
    | rowz _ _ A hz => exact ⟨A, 0, 0, rfl, by simp⟩
    | row _ _ _ _ k c A cur ty hk hA hb hc hl hm => exact ⟨_, _, c, rfl, rfl⟩
  | z0 =>
    injection h with h
    subst h
    cases hr with
    | z0 A => exact ⟨A, 0, 0, rfl, by simp⟩
  | v y =>
    have := rel_v hr
    subst this
    cases u with
    | slice A m c => simp [lenAV] at h; exact ⟨A, m, c, rfl, h.symm⟩
    | _ => simp [lenAV] at h
  | _ => simp [lenAV] at h

section
variable {X : Nat → Prop} {N : Nat} {io : Nat → Option (Option Nat)} {μ : Mu} {w : World} {a : Act} {g : Nat → AV} (hM : Mem X io μ w) (hg : ∀ t, Rel (envOf X io μ w) (g t) (a.tmps.getD t undef))
include hM hg

theorem ok_mov {o : Oper} (x : Operand) (ho : o.op = .move x ∨ o.op = .assign x) {r : AV} {wr : Wr} (h : evalCO g μ N (.mov x) = some (r, wr)) : OpOK P X N io μ w a o r wr := by
  obtain ⟨h1, rfl⟩ := pureR_inv h
  injection h1 with h1
  subst h1
  refine OpOK.pure hM (v := a.eval x) ?_ (ev_rel hg x)
  rcases ho with ho | ho <;> simp [execOp, ho]

theorem ok_pick {o : Oper} (c x y : Operand) (ho : o.op = .pick c x y) {r : AV} {wr : Wr} (h : evalCO g μ N (.pick c x y) = some (r, wr)) : OpOK P X N io μ w a o r wr := by
  simp only [evalCO] at h
  split at h
  · rename_i t hc
    obtain ⟨h1, rfl⟩ := pureR_inv h
    injection h1 with h1
    subst h1
    have hcv := rel_v (hc ▸ ev_rel hg c)
    refine OpOK.pure hM (v := if t = true then a.eval x else a.eval y) ?_ (by split <;> exact ev_rel hg _)
    simp [execOp, ho, hcv, asBool]
  · cases h

theorem ok_nilck {o : Oper} (x : Operand) (ho : o.op = .nilCheck x) {r : AV} {wr : Wr} (h : evalCO g μ N (.nilck x) = some (r, wr)) : OpOK P X N io μ w a o r wr := by
  simp only [evalCO] at h
  split at h
  · rename_i b sz i o' hx
    obtain ⟨h1, rfl⟩ := pureR_inv h
    injection h1 with h1
    subst h1
    have hr := hx ▸ ev_rel hg x
    cases hv : a.eval x with
    | pointer p =>
      rw [hv] at hr
      cases p with
      | none => cases hr
      | some p => exact OpOK.pure hM (v := .pointer (some p)) (by simp [execOp, ho, hv]) hr
    | _ => rw [hv] at hr; cases hr
  · rename_i cs hx
    obtain ⟨h1, rfl⟩ := pureR_inv h
    injection h1 with h1
    subst h1
    have hr := hx ▸ ev_rel hg x
    cases hv : a.eval x with
    | pointer p =>
      rw [hv] at hr
      cases p with
      | none => cases hr
      | some p => exact OpOK.pure hM (v := .pointer (some p)) (by simp [execOp, ho, hv]) hr
    | _ => rw [hv] at hr; cases hr
  · rename_i f c hx
    obtain ⟨h1, rfl⟩ := pureR_inv h
    injection h1 with h1
    subst h1
    have hr := hx ▸ ev_rel hg x
    cases hv : a.eval x with
    | func fn first cap =>
      rw [hv] at hr
      have hr2 := hr
      cases hr
      exact OpOK.pure hM (v := _) (by simp [execOp, ho, hv]) hr2
    | _ => rw [hv] at hr; cases hr
  · cases h

theorem ok_un {o : Oper} (op : UnOp) (t : TypeId) (x : Operand) (ho : o.op = .unOp op t x) {r : AV} {wr : Wr} (h : evalCO g μ N (.un op x) = some (r, wr)) : OpOK P X N io μ w a o r wr := by
  simp only [evalCO] at h
  obtain ⟨v, h1, rfl, rfl⟩ := pureV_inv h
  have hr := ev_rel hg x
  generalize ev g x = y at h1 hr
  unfold unAV at h1
  split at h1
  · rename_i k n
    injection h1 with h1
    subst h1
    have hv := rel_v hr
    exact OpOK.pure hM (v := _) (by simp [execOp, ho, hv, Op.unary, Op.intArith]) (.v _)
  · rename_i b
    injection h1 with h1
    subst h1
    have hv := rel_v hr
    exact OpOK.pure hM (v := _) (by simp [execOp, ho, hv, Op.unary]) (.v _)
  · cases h1

theorem ok_conv {o : Oper} (s d : TypeId) (k k0 : IntKind) (x : Operand) (ho : o.op = .convert s d x) (hs : P.underlying s = some (.int k0)) (hd : P.underlying d = some (.int k)) {r : AV} {wr : Wr} (h : evalCO g μ N (.conv k x) = some (r, wr)) : OpOK P X N io μ w a o r wr := by
  simp only [evalCO] at h
  split at h
  · rename_i k' n hx
    obtain ⟨v, h1, rfl, rfl⟩ := pureV_inv h
    injection h1 with h1
    subst h1
    have hv := rel_v (hx ▸ ev_rel hg x)
    exact OpOK.pure hM (v := _) (by simp [execOp, ho, hv, convert, run_underlying hs, run_underlying hd, Conv.intToInt]) (.v _)
  · cases h

theorem ok_ext {o : Oper} (x : Operand) (i : Nat) (ho : o.op = .extract x i) {r : AV} {wr : Wr} (h : evalCO g μ N (.ext x i) = some (r, wr)) : OpOK P X N io μ w a o r wr := by
  simp only [evalCO] at h
  split at h
  · rename_i vs hx
    obtain ⟨h1, rfl⟩ := pureR_inv h
    have hr := hx ▸ ev_rel hg x
    cases hv : a.eval x with
    | tuple us' =>
      rw [hv] at hr
      cases hr with
      | tup _ us hl hrel =>
        have hi : i < us.length := by rw [← hl]; exact (List.getElem?_eq_some_iff.1 h1).1
        exact OpOK.pure hM (v := us[i]) (by simp [execOp, ho, hv, Instr.extract, hi]) (hrel i _ _ h1 (by simp [hi]))
    | _ => rw [hv] at hr; cases hr
  · cases h

theorem ok_mkfn {o : Oper} (f : Nat) (cap : Array Operand) (ho : o.op = .makeFunc (.func f) #[] cap) {r : AV} {wr : Wr} (h : evalCO g μ N (.mkfn f cap.toList) = some (r, wr)) : OpOK P X N io μ w a o r wr := by
  simp only [evalCO] at h
  obtain ⟨h1, rfl⟩ := pureR_inv h
  injection h1 with h1
  subst h1
  have hr := evs_rel hg cap.toList
  refine OpOK.pure hM (v := .func (.func f) #[] (cap.map a.eval)) (by simp [execOp, ho, Instr.makeFunc]) ?_
  have hc : (cap.map a.eval) = (cap.toList.map a.eval).toArray := by rw [← Array.toList_map]
  rw [hc]
  exact .fn f _ _ hr.1 hr.2
theorem ok_bin {o : Oper} (op : BinOp) (t t' : TypeId) (x y : Operand) (ho : o.op = .binOp op t x y t') {r : AV} {wr : Wr} (h : evalCO g μ N (.bin op x y) = some (r, wr)) : OpOK P X N io μ w a o r wr := by
  simp only [evalCO] at h
  obtain ⟨v, h1, rfl, rfl⟩ := pureV_inv h
  have hx := ev_rel hg x
  have hy := ev_rel hg y
  generalize ev g x = p at h1 hx
  generalize ev g y = q at h1 hy
  unfold binAV at h1
  split at h1
  · rename_i k m k' n
    have hvx := rel_v hx
    have hvy := rel_v hy
    split at h1
    · refine OpOK.pure hM (v := v) ?_ (.v _)
      simp [execOp, ho, hvx, hvy, run_eqGuard_int, run_binShift op t k k' m n h1]
    · rename_i hs
      split at h1
      · rename_i hk
        subst hk
        refine OpOK.pure hM (v := v) ?_ (.v _)
        simp [execOp, ho, hvx, hvy, run_eqGuard_int, run_binInt op t k m n (by simpa using hs) h1]
      · cases h1
  · rename_i m n
    have hvx := rel_v hx
    have hvy := rel_v hy
    refine OpOK.pure hM (v := v) ?_ (.v _)
    simp [execOp, ho, hvx, hvy, run_eqGuard_str, run_binStr op t m n h1]
  · cases h1

theorem ok_min {o : Oper} (x y : Operand) (ts : Array TypeId) (ho : o.op = .call { callee := .builtin .min, args := #[x, y], argTypes := ts }) {r : AV} {wr : Wr} (h : evalCO g μ N (.min x y) = some (r, wr)) : OpOK P X N io μ w a o r wr := by
  simp only [evalCO] at h
  split at h
  · rename_i k m k' n hx hy
    split at h
    · rename_i hk
      subst hk
      obtain ⟨v, h1, rfl, rfl⟩ := pureV_inv h
      injection h1 with h1
      subst h1
      have hvx := rel_v (hx ▸ ev_rel hg x)
      have hvy := rel_v (hy ▸ ev_rel hg y)
      refine OpOK.pure hM (v := _) ?_ (.v _)
      simp [execOp, ho, resolve, invoke, builtin, Builtin.min_, Builtin.min2, hvx, hvy]
    · cases h
  · cases h

theorem ok_max {o : Oper} (x y : Operand) (ts : Array TypeId) (ho : o.op = .call { callee := .builtin .max, args := #[x, y], argTypes := ts }) {r : AV} {wr : Wr} (h : evalCO g μ N (.max x y) = some (r, wr)) : OpOK P X N io μ w a o r wr := by
  simp only [evalCO] at h
  split at h
  · rename_i k m k' n hx hy
    split at h
    · rename_i hk
      subst hk
      obtain ⟨v, h1, rfl, rfl⟩ := pureV_inv h
      injection h1 with h1
      subst h1
      have hvx := rel_v (hx ▸ ev_rel hg x)
      have hvy := rel_v (hy ▸ ev_rel hg y)
      refine OpOK.pure hM (v := _) ?_ (.v _)
      simp [execOp, ho, resolve, invoke, builtin, Builtin.max_, Builtin.max2, hvx, hvy]
    · cases h
  · cases h


end

end Go.Proofs.Ytneoeegpceompaa.AM
