/-
The abstract machine, part 23: what must be shown of a piece of code, as a proposition that unfolds by itself.
-/
import Derived.Test.YtneoeegpceompaaM21
namespace Go.Proofs.Ytneoeegpceompaa.AM
open Go

variable {P : Program} {nt : Nat}

/-! ### The nodes at which a walk stops -/

structure Ob (p K : Prop) : Prop where
  a : p
  b : K
structure Pk (p : Bool) (K : Prop) : Prop where
  a : p = true
  b : K
structure Br (t : Bool) (A B : Prop) : Prop where
  a : t = true → A
  b : t = false → B
structure Wp (k : IntKind) (n : Int) (K : Int → Prop) : Prop where
  a : K (k.wrap n)
structure El (es : List (List AV)) (i : Nat) (K : List AV → Prop) : Prop where
  a : ∃ r, es[i]? = some r ∧ K r
structure Lk (M : List (Nat × Blk)) (b : Nat) (K : Blk → Prop) : Prop where
  a : ∃ k, getM M b = some k ∧ K k
structure Ln (n : Nat) (K : Nat → Prop) : Prop where
  a : K n
structure Sb (es : List (List AV)) (off len : Nat) (K : List (List AV) → Prop) : Prop where
  a : off + len ≤ es.length ∧ K ((es.drop off).take len)
structure Se (es : List (List AV)) (i : Nat) (r : List AV) (K : List (List AV) → Prop) : Prop where
  a : K (es.set i r)
structure Ap (es : List (List AV)) (off len : Nat) (xs : List (List AV)) (K1 K2 : Nat → List (List AV) → Prop) : Prop where
  a : off + len + xs.length ≤ 1000000 ∧ ((off = 0 ∧ len = es.length ∧ K1 (len + xs.length) (es ++ xs)) ∨ (¬ (off = 0 ∧ len = es.length) ∧ off + len + xs.length ≤ es.length ∧ K2 (len + xs.length) (es.take (off + len) ++ (xs ++ es.drop (off + len + xs.length)))))
structure Cy (es : List (List AV)) (off len : Nat) (xs : List (List AV)) (K : Nat → List (List AV) → Prop) : Prop where
  a : off + len ≤ es.length ∧ K (Nat.min xs.length len) (es.take off ++ ((xs.take (Nat.min xs.length len)) ++ es.drop (off + Nat.min xs.length len)))
structure Sx (s : ByteArray) (k : Int) (K : UInt8 → Prop) : Prop where
  a : 0 ≤ k ∧ ∃ b, s[k.toNat]? = some b ∧ K b
structure Lp (P : Program) (nt : Nat) (c : CC) (S : St) (Q : Post) : Prop where
  a : SafeL P nt c S Q
structure Cl (P : Program) (N k : Nat) (args : List AV) (M : List (Nat × Blk)) (K : AV → List (Nat × Blk) → Wr → List Nat → Prop) : Prop where
  a : ∃ fz pre post args' v M', VLs2 (app (getM M) (frzW (getM M) fz)) args args' ∧ FS P N k args' pre v post ∧ (∀ b blk, preMu pre b = some blk → app (getM M) (frzW (getM M) fz) b = some blk) ∧
    getM M' = app (app (getM M) (frzW (getM M) fz)) post ∧ K v M' (frzW (getM M) fz ++ post) (fz ++ (pre.map (·.1) ++ args.flatMap blks))

/-! ### Values, brought to their form -/

def lk : List (Nat × AV) → Nat → AV
  | [], _ => .any
  | (k, x) :: r, t => match Nat.beq k t with
    | true => x
    | false => lk r t

theorem lk_eq (T : List (Nat × AV)) : lk T = getT T := by
  induction T with
  | nil => rfl
  | cons p r ih =>
    obtain ⟨k, x⟩ := p
    funext t
    simp only [lk, getT, ih]
    by_cases h : k = t
    · subst h; simp
    · have : Nat.beq k t = false := by rw [Bool.eq_false_iff]; intro e; exact h (Nat.eq_of_beq_eq_true e)
      rw [this, if_neg h]

def evv (T : List (Nat × AV)) : Operand → AV
  | .tmp t => lk T t
  | .const c => .v c
  | .func f => .fn f []
  | .global _ => .any

theorem evv_eq (T : List (Nat × AV)) (x : Operand) : evv T x = ev (getT T) x := by
  cases x <;> simp [evv, ev, lk_eq]

def frc1 (x : AV) (K : AV → Prop) : Prop := match x with
  | .any => K .any
  | .v x => match x with
    | .int k n => K (.v (.int k n))
    | .bool b => K (.v (.bool b))
    | .string s => K (.v (.string s))
    | x => K (.v x)
  | .sl a b => K (.sl a b)
  | .z0 => K .z0
  | .ipt a => K (.ipt a)
  | .pt a b c d => K (.pt a b c d)
  | .row a b c d => K (.row a b c d)
  | .fn a b => K (.fn a b)
  | .agg a => K (.agg a)
  | .tup a => K (.tup a)

theorem frc1_eq (x : AV) (K : AV → Prop) : frc1 x K = K x := by
  cases x with
  | v x => cases x <;> rfl
  | _ => rfl

def frcL : List AV → (List AV → Prop) → Prop
  | [], K => K []
  | x :: r, K => frc1 x fun x => frcL r fun r => K (x :: r)

theorem frcL_eq (l : List AV) : ∀ K : List AV → Prop, frcL l K = K l := by
  induction l with
  | nil => intro K; rfl
  | cons x r ih => intro K; simp only [frcL, frc1_eq, ih]

def frc (x : AV) (K : AV → Prop) : Prop := match x with
  | .agg cs => frcL cs fun cs => K (.agg cs)
  | .ipt cs => frcL cs fun cs => K (.ipt cs)
  | x => frc1 x K

theorem frc_eq (x : AV) (K : AV → Prop) : frc x K = K x := by
  cases x <;> simp [frc, frcL_eq, frc1_eq]

def frcA : List AV → (List AV → Prop) → Prop
  | [], K => K []
  | x :: r, K => frc x fun x => frcA r fun r => K (x :: r)

theorem frcA_eq (l : List AV) : ∀ K : List AV → Prop, frcA l K = K l := by
  induction l with
  | nil => intro K; rfl
  | cons x r ih => intro K; simp only [frcA, frc_eq, ih]

def frcR : List (List AV) → (List (List AV) → Prop) → Prop
  | [], K => K []
  | x :: r, K => frcL x fun x => frcR r fun r => K (x :: r)

theorem frcR_eq (l : List (List AV)) : ∀ K : List (List AV) → Prop, frcR l K = K l := by
  induction l with
  | nil => intro K; rfl
  | cons x r ih => intro K; simp only [frcR, frcL_eq, ih]

def frcN (n : Nat) (K : Nat → Prop) : Prop := match n with
  | 0 => K 0
  | n + 1 => K (n + 1)

theorem frcN_eq (n : Nat) (K : Nat → Prop) : frcN n K = K n := by cases n <;> rfl

/-! ### Operations -/

def kOk (k k' : IntKind) (op : BinOp) : Bool := decide (k = k') && !isShift op

def wpBin (op : BinOp) (x y : AV) (K : Value → Prop) : Prop := match x with
  | .v (.int k a) => match y with
    | .v (.int k' b) => match op with
      | .shl => Ob (0 ≤ b) (Wp k (a * 2 ^ (Nat.min b.toNat k.bits)) fun n => K (.int k n))
      | .shr => Ob (0 ≤ b) (K (.int k (a.fdiv (2 ^ (Nat.min b.toNat k.bits)))))
      | op => match decide (k = k') with
        | true => match op with
          | .add => Wp k (a + b) fun n => K (.int k n)
          | .sub => Wp k (a - b) fun n => K (.int k n)
          | .mul => Wp k (a * b) fun n => K (.int k n)
          | .quo => Ob (b ≠ 0) (Wp k (a.tdiv b) fun n => K (.int k n))
          | .rem => Ob (b ≠ 0) (K (.int k (a.tmod b)))
          | op => match isShift op with
            | false => match binInt op k a b with | some v => K v | none => False
            | true => False
        | false => False
    | _ => False
  | .v (.string a) => match y with
    | .v (.string b) => match binStr op a b with | some v => K v | none => False
    | _ => False
  | _ => False

theorem wpBin_sound {op : BinOp} {x y : AV} {K : Value → Prop} (h : wpBin op x y K) : ∃ v, binAV op x y = some v ∧ K v := by
  unfold wpBin at h
  split at h
  · rename_i k a
    split at h
    · rename_i k' b
      split at h
      · obtain ⟨h0, ⟨h⟩⟩ := h; exact ⟨_, by simp [binAV, isShift, binShift, show ¬ b < 0 by omega], h⟩
      · obtain ⟨h0, h⟩ := h; exact ⟨_, by simp [binAV, isShift, binShift, show ¬ b < 0 by omega], h⟩
      · split at h
        · rename_i hk
          have hk := of_decide_eq_true hk
          subst hk
          split at h
          · obtain ⟨h⟩ := h; exact ⟨_, by simp [binAV, isShift, binInt], h⟩
          · obtain ⟨h⟩ := h; exact ⟨_, by simp [binAV, isShift, binInt], h⟩
          · obtain ⟨h⟩ := h; exact ⟨_, by simp [binAV, isShift, binInt], h⟩
          · obtain ⟨h0, ⟨h⟩⟩ := h; exact ⟨_, by simp [binAV, isShift, binInt, h0], h⟩
          · obtain ⟨h0, h⟩ := h; exact ⟨_, by simp [binAV, isShift, binInt, h0], h⟩
          · split at h
            · rename_i h0
              split at h
              · rename_i v hv
                exact ⟨v, by simp [binAV, h0, hv], h⟩
              · exact h.elim
            · exact h.elim
        · exact h.elim
    · exact h.elim
  · split at h
    · split at h
      · rename_i v hv
        exact ⟨v, by simpa [binAV] using hv, h⟩
      · exact h.elim
    · exact h.elim
  · exact h.elim

abbrev Ct := AV → List (Nat × Blk) → Wr → Prop

def wpMk (ag : Bool) (cs : List AV) (K : AV → Prop) : Prop := match mkAV ag cs with
  | some v => frc v K
  | none => False

def wpLoad (M : List (Nat × Blk)) (ag : Bool) (n : Nat) (a : AV) (K : AV → Prop) : Prop := match a with
  | .ipt cs => match Nat.ble n cs.length with
    | true => wpMk ag (cs.take n) K
    | false => False
  | .pt b sz i o => Lk M b fun k => match Nat.beq k.sz sz with
    | true => El k.es i fun r => match Nat.ble (o + n) r.length with
      | true => wpMk ag ((r.drop o).take n) K
      | false => False
    | false => False
  | _ => False

theorem wpMk_sound {ag : Bool} {cs : List AV} {K : AV → Prop} (h : wpMk ag cs K) : ∃ v, mkAV ag cs = some v ∧ K v := by
  unfold wpMk at h
  split at h
  · rename_i v hv; rw [frc_eq] at h; exact ⟨v, hv, h⟩
  · exact h.elim

theorem wpLoad_sound {M : List (Nat × Blk)} {ag : Bool} {n : Nat} {a : AV} {K : AV → Prop} (h : wpLoad M ag n a K) : ∃ v, loadAV (getM M) ag n a = some v ∧ K v := by
  unfold wpLoad at h
  split at h
  · split at h
    · rename_i hb
      obtain ⟨v, h1, h2⟩ := wpMk_sound h
      exact ⟨v, by simp [loadAV, Nat.le_of_ble_eq_true hb, h1], h2⟩
    · exact h.elim
  · obtain ⟨k, hk, h⟩ := h.a
    split at h
    · rename_i hs
      obtain ⟨r, hr, h⟩ := h.a
      split at h
      · rename_i hb
        obtain ⟨v, h1, h2⟩ := wpMk_sound h
        exact ⟨v, by simp [loadAV, hk, hr, Nat.eq_of_beq_eq_true hs, Nat.le_of_ble_eq_true hb, h1], h2⟩
      · exact h.elim
    · exact h.elim
  · exact h.elim

def wpStore (M : List (Nat × Blk)) (n : Nat) (a x : AV) (K : Ct) : Prop := match a with
  | .pt b sz i o => match cellsAV x with
    | some cs => Lk M b fun k => match k with
      | ⟨mu, ty, ksz, es, cap⟩ => match mu && Nat.beq ksz sz && Nat.beq cs.length n with
        | true => El es i fun r => match Nat.ble (o + n) r.length with
          | true => frcL (splice r o cs) fun r' => Se es i r' fun es' => K .any ((b, ⟨true, ty, ksz, es', cap⟩) :: M) [(b, some ⟨true, ty, ksz, es', cap⟩)]
          | false => False
        | false => False
    | none => False
  | _ => False

def wpRows (M : List (Nat × Blk)) (sz : Nat) (x : AV) (K : List (List AV) → Prop) : Prop := match x with
  | .sl s es => match Nat.beq s sz with
    | true => K es
    | false => False
  | .z0 => K []
  | .v (.slice _ 0 _) => K []
  | .row b s off len => Lk M b fun k => match k with
    | ⟨_, _, ksz, es, _⟩ => match Nat.beq s sz && Nat.beq ksz sz with
      | true => Sb es off len K
      | false => False
  | _ => False

def wpNew (M : List (Nat × Blk)) (N e sz : Nat) (xs : List (List AV)) (K : Ct) : Prop :=
  Ob (xs.length ≤ 1000000) (Ln xs.length fun n => K (.row N sz 0 n) ((N, ⟨true, e, sz, xs, none⟩) :: M) [(N, some ⟨true, e, sz, xs, none⟩)])

def wpApp (M : List (Nat × Blk)) (N e sz : Nat) (s : AV) (xs : List (List AV)) (K : Ct) : Prop := match s with
  | .z0 => wpNew M N e sz xs K
  | .v (.slice none 0 0) => wpNew M N e sz xs K
  | .row b s off len => Lk M b fun k => match k with
    | ⟨mu, ty, ksz, es, cap⟩ => match mu && Nat.beq s sz && Nat.beq ksz sz && Nat.beq ty e with
      | true => Ap es off len xs (fun n es' => K (.row N sz 0 n) ((N, ⟨true, e, sz, es', none⟩) :: delM M b) [(b, none), (N, some ⟨true, e, sz, es', none⟩)])
          (fun n es' => K (.row b sz off n) ((b, ⟨true, ty, ksz, es', cap⟩) :: M) [(b, some ⟨true, ty, ksz, es', cap⟩)])
      | false => False
  | _ => False

def wpIdx (sz : Nat) (x i : AV) (K : AV → Prop) : Prop := match i with
  | .v (.int _ n) => match x with
    | .sl s es => match Nat.beq s sz with
      | true => Ob (0 ≤ n) (El es n.toNat fun r => frcL r fun r => K (.ipt r))
      | false => False
    | .row b s off len => match Nat.beq s sz with
      | true => Ob (0 ≤ n ∧ n < len) (K (.pt b sz (n.toNat + off) 0))
      | false => False
    | _ => False
  | _ => False

def wpBnd (T : List (Nat × AV)) (o : Option Operand) (dflt : Int) (K : Int → Prop) : Prop := match o with
  | none => K dflt
  | some x => match evv T x with
    | .v (.int _ n) => K n
    | _ => False

def wpSl (lo hi : Option Operand) (es : List (List AV)) (L H : Int) (K : List (List AV) → Prop) : Prop := match lo with
  | none => match hi with
    | none => K es
    | some _ => K (es.take H.toNat)
  | some _ => match hi with
    | none => K (es.drop L.toNat)
    | some _ => K ((es.drop L.toNat).take (H.toNat - L.toNat))

def wpSlR (lo hi : Option Operand) (off len : Nat) (L H : Int) (K : Nat → Nat → Prop) : Prop := match lo with
  | none => match hi with
    | none => K off len
    | some _ => K off H.toNat
  | some _ => K (L.toNat + off) (H.toNat - L.toNat)

def wpSlice (T : List (Nat × AV)) (sz : Nat) (x : AV) (lo hi mx : Option Operand) (K : AV → Prop) : Prop := match mx with
  | none => match x with
    | .sl s es => match Nat.beq s sz with
      | true => wpBnd T lo 0 fun L => wpBnd T hi es.length fun H => Ob (0 ≤ L ∧ L ≤ H ∧ H ≤ es.length) (wpSl lo hi es L H fun es => K (.sl sz es))
      | false => False
    | .row b s off len => match Nat.beq s sz with
      | true => wpBnd T lo 0 fun L => wpBnd T hi len fun H => Ob (0 ≤ L ∧ L ≤ H ∧ H ≤ len) (wpSlR lo hi off len L H fun off len => K (.row b sz off len))
      | false => False
    | .z0 => wpBnd T lo 0 fun L => wpBnd T hi 0 fun H => Ob (L = 0 ∧ H = 0) (K .z0)
    | .v (.slice none 0 0) => wpBnd T lo 0 fun L => wpBnd T hi 0 fun H => Ob (L = 0 ∧ H = 0) (K (.v (.slice none 0 0)))
    | _ => False
  | some m => match hi with
    | none => False
    | some h => match x with
      | .sl s es => match Nat.beq s sz with
        | true => wpBnd T lo 0 fun L => wpBnd T (some h) 0 fun H => wpBnd T (some m) 0 fun m => Ob (0 ≤ L ∧ L ≤ H ∧ H ≤ es.length ∧ H ≤ m ∧ m ≤ es.length ∧ m = 0) (K .z0)
        | false => False
      | .z0 => wpBnd T lo 0 fun L => wpBnd T (some h) 0 fun H => wpBnd T (some m) 0 fun m => Ob (L = 0 ∧ H = 0 ∧ m = 0) (K .z0)
      | .v (.slice none 0 0) => wpBnd T lo 0 fun L => wpBnd T (some h) 0 fun H => wpBnd T (some m) 0 fun m => Ob (L = 0 ∧ H = 0 ∧ m = 0) (K (.v (.slice none 0 0)))
      | _ => False

def wpE (T : List (Nat × AV)) (M : List (Nat × Blk)) (N : Nat) (op : CO) (K : Ct) : Prop := match op with
  | .mov x => frc (evv T x) fun v => K v M []
  | .pick c a b => match evv T c with
    | .v (.bool t) => Br t (frc (evv T a) fun v => K v M []) (frc (evv T b) fun v => K v M [])
    | _ => False
  | .alloc e z => frcN z.length fun n => frcL (z.map .v) fun c => K (.pt N n 0 0) ((N, ⟨true, e, n, [c], some 1⟩) :: M) [(N, some ⟨true, e, n, [c], some 1⟩)]
  | .box e n x => match cellsAV (evv T x) with
    | some cs => match Nat.beq cs.length n with
      | true => frcL cs fun c => K (.pt N n 0 0) ((N, ⟨true, e, n, [c], some 1⟩) :: M) [(N, some ⟨true, e, n, [c], some 1⟩)]
      | false => False
    | none => False
  | .bslice e sz len z ps => match fillRows (lk T) sz (List.replicate len (z.map .v)) ps with
    | some rows => frcR rows fun rows => K (.row N sz 0 len) ((N, ⟨true, e, sz, rows, some len⟩) :: M) [(N, some ⟨true, e, sz, rows, some len⟩)]
    | none => False
  | .load ag n a => wpLoad M ag n (evv T a) fun v => K v M []
  | .store n a x => wpStore M n (evv T a) (evv T x) K
  | .bin op x y => wpBin op (evv T x) (evv T y) fun v => K (.v v) M []
  | .un op x => match op with
    | .neg => match evv T x with
      | .v (.int k n) => Wp k (0 - n) fun n => K (.v (.int k n)) M []
      | _ => False
    | .not => match evv T x with
      | .v (.bool b) => K (.v (.bool (!b))) M []
      | _ => False
    | _ => False
  | .conv k x => match evv T x with
    | .v (.int _ n) => Wp k n fun n => K (.v (.int k n)) M []
    | _ => False
  | .eqs neg plan x y => match evv T x with
    | .agg xs => match evv T y with
      | .agg ys => match eqCells plan xs ys with
        | some b => match neg with
          | true => K (.v (.bool (!b))) M []
          | false => K (.v (.bool b)) M []
        | none => False
      | _ => False
    | _ => False
  | .nilcmp neg x => match evv T x with
    | .v (.slice A _ _) => match neg with
      | true => K (.v (.bool (!A.isNone))) M []
      | false => K (.v (.bool A.isNone)) M []
    | .row _ _ _ len => Ob (0 < len) (match neg with
      | true => K (.v (.bool true)) M []
      | false => K (.v (.bool false)) M [])
    | .sl _ es => Ob (es ≠ []) (match neg with
      | true => K (.v (.bool true)) M []
      | false => K (.v (.bool false)) M [])
    | _ => False
  | .beq neg x y => match evv T x with
    | .v (.bool a) => match evv T y with
      | .v (.bool b) => match neg with
        | true => K (.v (.bool (!(a == b)))) M []
        | false => K (.v (.bool (a == b))) M []
      | _ => False
    | _ => False
  | .mksl e sz _ z l c => match evv T l with
    | .v (.int .i64 a) => match evv T c with
      | .v (.int .i64 b) => Ob (0 ≤ a ∧ a ≤ b ∧ b ≤ 1000000) (K (.row N sz 0 a.toNat) ((N, ⟨true, e, sz, List.replicate a.toNat (z.map .v), some b.toNat⟩) :: M) [(N, some ⟨true, e, sz, List.replicate a.toNat (z.map .v), some b.toNat⟩)])
      | _ => False
    | _ => False
  | .slice sz x lo hi mx => wpSlice T sz (evv T x) lo hi mx fun v => K v M []
  | .iaddr sz x i => wpIdx sz (evv T x) (evv T i) fun v => K v M []
  | .sindex x i => match evv T x with
    | .v (.string s) => match evv T i with
      | .v (.int _ k) => Sx s k fun b => K (.v (.int .u8 b.toNat)) M []
      | _ => False
    | _ => False
  | .len x => match evv T x with
    | .sl _ es => Ln es.length fun n => K (.v (.int .i64 (n : Int))) M []
    | .row _ _ _ len => K (.v (.int .i64 (len : Int))) M []
    | .z0 => K (.v (.int .i64 0)) M []
    | .v (.slice _ n _) => K (.v (.int .i64 (n : Int))) M []
    | _ => False
  | .min x y => match evv T x with
    | .v (.int k a) => match evv T y with
      | .v (.int k' b) => match decide (k = k') with
        | true => K (.v (.int k (min a b))) M []
        | false => False
      | _ => False
    | _ => False
  | .max x y => match evv T x with
    | .v (.int k a) => match evv T y with
      | .v (.int k' b) => match decide (k = k') with
        | true => K (.v (.int k (max a b))) M []
        | false => False
      | _ => False
    | _ => False
  | .append e sz _ s x => wpRows M sz (evv T x) fun xs => wpApp M N e sz (evv T s) xs K
  | .copy sz d s => wpRows M sz (evv T s) fun xs => match evv T d with
    | .row b s off len => Lk M b fun k => match k with
      | ⟨mu, ty, ksz, es, cap⟩ => match mu && Nat.beq s sz && Nat.beq ksz sz with
        | true => Cy es off len xs fun n es' => K (.v (.int .i64 (n : Int))) ((b, ⟨true, ty, ksz, es', cap⟩) :: M) [(b, some ⟨true, ty, ksz, es', cap⟩)]
        | false => False
    | _ => False
  | .mkfn f cap => frcA (cap.map (evv T)) fun cs => K (.fn f cs) M []
  | .ext x i => match evv T x with
    | .tup vs => match vs[i]? with
      | some v => frc v fun v => K v M []
      | none => False
    | _ => False
  | .call _ _ => False
  | .bad => False
  | op => match evalCO (lk T) (getM M) N op with
    | some (v, []) => frc v fun v => K v M []
    | _ => False

end Go.Proofs.Ytneoeegpceompaa.AM
