/-
The abstract machine, part 25: the steps of a walk.
-/
import Derived.Test.YtneoeegpceompaaM24
import Derived.Lib.Strings
namespace Go.Proofs.Ytneoeegpceompaa.AM
open Go

variable {P : Program} {nt : Nat}

/-! ### Conditions -/
section
variable {A B : Prop}
theorem Br.id {t : Bool} (h : Br t A B) : Br t A B := h
theorem Wp.id {k : IntKind} {n : Int} {K : Int → Prop} (h : Wp k n K) : Wp k n K := h
theorem El.id {es : List (List AV)} {i : Nat} {K : List AV → Prop} (h : El es i K) : El es i K := h
theorem Lk.id {M : List (Nat × Blk)} {b : Nat} {K : Blk → Prop} (h : Lk M b K) : Lk M b K := h
theorem Ln.id {n : Nat} {K : Nat → Prop} (h : Ln n K) : Ln n K := h
theorem Sb.id {es : List (List AV)} {i n : Nat} {K : List (List AV) → Prop} (h : Sb es i n K) : Sb es i n K := h
theorem Se.id {es : List (List AV)} {i : Nat} {r : List AV} {K : List (List AV) → Prop} (h : Se es i r K) : Se es i r K := h
theorem Ap.id {es : List (List AV)} {i n : Nat} {xs : List (List AV)} {K1 K2 : Nat → List (List AV) → Prop} (h : Ap es i n xs K1 K2) : Ap es i n xs K1 K2 := h
theorem Br.tt (h : A) : Br true A B := ⟨fun _ => h, fun e => Bool.noConfusion e⟩
theorem Br.ff (h : B) : Br false A B := ⟨fun e => Bool.noConfusion e, fun _ => h⟩
theorem Br.tt' {t : Bool} (ht : t = true) (h : A) : Br t A B := by subst ht; exact .tt h
theorem Br.ff' {t : Bool} (ht : t = false) (h : B) : Br t A B := by subst ht; exact .ff h
theorem Br.dec {p : Prop} [Decidable p] (h1 : p → A) (h2 : ¬ p → B) : Br (decide p) A B := ⟨fun h => h1 (of_decide_eq_true h), fun h => h2 (of_decide_eq_false h)⟩
theorem Br.eqi {a b : Int} (h1 : a = b → A) (h2 : ¬ a = b → B) : Br (a == b) A B := ⟨fun h => h1 (by simpa using h), fun h => h2 (by simpa using h)⟩
theorem Br.nei {a b : Int} (h1 : ¬ a = b → A) (h2 : a = b → B) : Br (a != b) A B := ⟨fun h => h1 (by simpa using h), fun h => h2 (by simpa using h)⟩
theorem str_eq (a b : ByteArray) : (a.toList == b.toList) = decide (a = b) := by
  rw [Bool.eq_iff_iff]
  simp only [beq_iff_eq, decide_eq_true_eq, Lib.toList_data]
  constructor
  · intro h
    obtain ⟨⟨x⟩⟩ := a
    obtain ⟨⟨y⟩⟩ := b
    simp at h
    rw [h]
  · intro h; rw [h]
theorem Br.str {a b : ByteArray} (h1 : a = b → A) (h2 : ¬ a = b → B) : Br (a.toList == b.toList) A B := by rw [str_eq]; exact .dec h1 h2
theorem Br.asset {a b : ByteArray} {i j : Int} (h1 : a = b ∧ i = j → A) (h2 : ¬ (a = b ∧ i = j) → B) : Br (a.toList == b.toList && (i == j && true)) A B := by
  have : (a.toList == b.toList && (i == j && true)) = decide (a = b ∧ i = j) := by
    rw [str_eq, Bool.and_true, Bool.eq_iff_iff]; simp
  rw [this]; exact .dec h1 h2
theorem Br.asset_t {a b : ByteArray} {i j : Int} (h : a = b ∧ i = j) (k : A) : Br (a.toList == b.toList && (i == j && true)) A B := .asset (fun _ => k) (fun e => absurd h e)
theorem Br.asset_f {a b : ByteArray} {i j : Int} (h : ¬ (a = b ∧ i = j)) (k : B) : Br (a.toList == b.toList && (i == j && true)) A B := .asset (fun e => absurd e h) (fun _ => k)
theorem Br.key {a b : ByteArray} {i j m n : Int} (h1 : m = n ∧ a = b ∧ i = j → A) (h2 : ¬ (m = n ∧ a = b ∧ i = j) → B) : Br (m == n && (a.toList == b.toList && (i == j && true))) A B := by
  have : (m == n && (a.toList == b.toList && (i == j && true))) = decide (m = n ∧ a = b ∧ i = j) := by
    rw [str_eq, Bool.and_true, Bool.eq_iff_iff]; simp
  rw [this]; exact .dec h1 h2
theorem Br.eq_t {a b : Int} (h : a = b) (k : A) : Br (a == b) A B := .tt' (by simpa using h) k
theorem Br.eq_f {a b : Int} (h : ¬ a = b) (k : B) : Br (a == b) A B := .ff' (by simpa using h) k
theorem Br.ne_t {a b : Int} (h : ¬ a = b) (k : A) : Br (a != b) A B := .tt' (by simpa using h) k
theorem Br.ne_f {a b : Int} (h : a = b) (k : B) : Br (a != b) A B := .ff' (by simpa using h) k
theorem Br.de_t {p : Prop} [Decidable p] (h : p) (k : A) : Br (decide p) A B := .tt' (by simpa using h) k
theorem Br.de_f {p : Prop} [Decidable p] (h : ¬ p) (k : B) : Br (decide p) A B := .ff' (by simpa using h) k
theorem Br.not {t : Bool} (h : Br t B A) : Br (!t) A B := ⟨fun e => h.b (by simpa using e), fun e => h.a (by simpa using e)⟩
theorem Br.and {s t : Bool} (h : Br s (Br t A B) B) : Br (s && t) A B := by
  cases s with
  | true => exact h.a rfl
  | false => exact .ff (h.b rfl)
theorem Br.or {s t : Bool} (h : Br s A (Br t A B)) : Br (s || t) A B := by
  cases s with
  | true => exact .tt (h.a rfl)
  | false => exact h.b rfl
theorem Br.mk' {t : Bool} (h1 : t = true → A) (h2 : t = false → B) : Br t A B := ⟨h1, h2⟩
end

/-! ### Numbers -/
theorem wrap64 {n : Int} (h1 : -9223372036854775808 ≤ n) (h2 : n ≤ 9223372036854775807) : IntKind.i64.wrap n = n := by
  rw [IntKind.wrap_i64]; omega

theorem Wp.in64 {n : Int} {K : Int → Prop} (h1 : -9223372036854775808 ≤ n ∧ n ≤ 9223372036854775807) (h : K n) : Wp .i64 n K := ⟨by rw [wrap64 h1.1 h1.2]; exact h⟩
theorem Wp.eq64 {n m : Int} {K : Int → Prop} (hn : n = m) (h1 : -9223372036854775808 ≤ m ∧ m ≤ 9223372036854775807) (h : K m) : Wp .i64 n K := by subst hn; exact .in64 h1 h
theorem Wp.any {k : IntKind} {n : Int} {K : Int → Prop} (h : K (k.wrap n)) : Wp k n K := ⟨h⟩

/-! ### Elements, blocks -/
section
variable {es xs : List (List AV)} {i off len : Nat} {K : List (List AV) → Prop}
theorem El.of {K : List AV → Prop} {r : List AV} (h : es[i]? = some r) (k : K r) : El es i K := ⟨⟨r, h, k⟩⟩
theorem El.map {α : Type} {f : α → List AV} {l : List α} {a : α} {K : List AV → Prop} (h : l[i]? = some a) (k : K (f a)) : El (l.map f) i K := ⟨⟨f a, by simp [h], k⟩⟩
theorem Ln.mk' {n m : Nat} {K : Nat → Prop} (h : n = m) (k : K m) : Ln n K := ⟨by rw [h]; exact k⟩
theorem Ln.map {α : Type} {f : α → List AV} {l : List α} {K : Nat → Prop} (k : K l.length) : Ln (l.map f).length K := ⟨by rw [List.length_map]; exact k⟩
theorem Ln.any {n : Nat} {K : Nat → Prop} (k : K n) : Ln n K := ⟨k⟩
theorem Sb.all (h : len = es.length) (k : K es) : Sb es 0 len K := ⟨by subst h; simpa using k⟩
theorem Sb.one {r : List AV} (k : K [r]) : Sb [r] 0 1 K := ⟨by simpa using k⟩
theorem Sb.eq {es' : List (List AV)} (h : off + len ≤ es.length) (e : (es.drop off).take len = es') (k : K es') : Sb es off len K := ⟨h, by rw [e]; exact k⟩
theorem Se.one {r0 r : List AV} (k : K [r]) : Se [r0] 0 r K := ⟨k⟩
theorem Se.any {r : List AV} (k : K (es.set i r)) : Se es i r K := ⟨k⟩
theorem Se.eq {r : List AV} {es' : List (List AV)} (e : es.set i r = es') (k : K es') : Se es i r K := ⟨by rw [e]; exact k⟩
theorem Ap.end_ {K1 K2 : Nat → List (List AV) → Prop} {n : Nat} {es' : List (List AV)} (hl : len = es.length) (hb : len + xs.length ≤ 1000000) (hn : len + xs.length = n) (he : es ++ xs = es') (k : K1 n es') : Ap es 0 len xs K1 K2 :=
  ⟨by omega, .inl ⟨rfl, hl, by rw [hn, he]; exact k⟩⟩
theorem Ap.map {α : Type} {f : α → List AV} {l : List α} {a : α} {K1 K2 : Nat → List (List AV) → Prop} (hl : len = l.length) (hb : len + 1 ≤ 1000000) (k : K1 (len + 1) ((l ++ [a]).map f)) : Ap (l.map f) 0 len [f a] K1 K2 :=
  ⟨by simp; omega, .inl ⟨rfl, by simpa using hl, by simpa using k⟩⟩
theorem Ap.room {K1 K2 : Nat → List (List AV) → Prop} {n : Nat} {es' : List (List AV)} (hb : off + len + xs.length ≤ 1000000) (h0 : ¬ (off = 0 ∧ len = es.length)) (hr : off + len + xs.length ≤ es.length) (hn : len + xs.length = n)
    (he : es.take (off + len) ++ (xs ++ es.drop (off + len + xs.length)) = es') (k : K2 n es') : Ap es off len xs K1 K2 := ⟨hb, .inr ⟨h0, hr, by rw [hn, he]; exact k⟩⟩
theorem Cy.full {K : Nat → List (List AV) → Prop} (hl : len = es.length) (hx : xs.length = len) (k : K len xs) : Cy es 0 len xs K := ⟨by
  refine ⟨by omega, ?_⟩
  have e1 : Nat.min xs.length len = len := by rw [hx]; exact Nat.min_self _
  rw [e1]
  simpa [← hx, hl, List.drop_eq_nil_of_le (show es.length ≤ xs.length by omega)] using k⟩
theorem Cy.eq {K : Nat → List (List AV) → Prop} {n : Nat} {es' : List (List AV)} (h : off + len ≤ es.length) (hn : Nat.min xs.length len = n) (he : es.take off ++ (xs.take n ++ es.drop (off + n)) = es') (k : K n es') : Cy es off len xs K := ⟨h, by subst hn; rw [he]; exact k⟩
end

section
variable {M : List (Nat × Blk)} {b c : Nat} {k : Blk} {K : Blk → Prop}
theorem Lk.here (h : K k) : Lk ((b, k) :: M) b K := ⟨⟨k, by simp [getM], h⟩⟩
theorem Lk.next (hne : c ≠ b) (h : Lk M b K) : Lk ((c, k) :: M) b K := by
  obtain ⟨⟨k', h1, h2⟩⟩ := h
  exact ⟨⟨k', by simp only [getM]; rw [if_neg hne]; exact h1, h2⟩⟩
theorem Lk.del (hne : c ≠ b) (h : Lk M b K) : Lk (delM M c) b K := by
  obtain ⟨⟨k', h1, h2⟩⟩ := h
  exact ⟨⟨k', by rw [getM_del, if_neg (fun e => hne e.symm)]; exact h1, h2⟩⟩
theorem Lk.get (h : Lk M b (fun k' => k' = k)) : getM M b = some k := by
  obtain ⟨⟨k', h1, rfl⟩⟩ := h; exact h1
theorem nm_ne {d k k' : Nat} (h : k ≠ k') : nm d k ≠ nm d k' := fun e => h (nm_inj.1 e).2
theorem nm_ne' {d k k' i j : Nat} (h : k ≠ k') (hi : i < 4) (hj : j < 4) : nm d k + i ≠ nm d k' + j := fun e => h (nm0_inj.1 (show nm0 d k = nm0 d k' by unfold nm at e; omega)).2
/-- A name that is no frame's is none of the frame's. -/
theorem nm_ext {D b d k : Nat} (h : ¬ Gar D b) (hd : D ≤ d) : nm d k ≠ b := fun e => h (e ▸ gar_nm.2 hd)
end

/-! ### Calls -/
section
variable {N k : Nat} {args args' : List AV} {M : List (Nat × Blk)} {K : Cx} {v : AV}
theorem Cl.id (h : Cl P N k args M K) : Cl P N k args M K := h
theorem Cl.pure (hS : FS P N k args [] v []) (h : K v M [] (args.flatMap blks)) : Cl P N k args M K :=
  ⟨⟨[], [], [], args, v, M, VLs2.refl _, hS, fun b blk h => by simp [preMu, app] at h, rfl, h⟩⟩
theorem Cl.view (hv : VLs2 (getM M) args args') (hS : FS P N k args' [] v []) (h : K v M [] (args.flatMap blks)) : Cl P N k args M K :=
  ⟨⟨[], [], [], args', v, M, hv, hS, fun b blk h => by simp [preMu, app] at h, rfl, h⟩⟩
/-- Other blocks are frozen ahead of it. -/
theorem Cl.frz (fz : List Nat) {M' : List (Nat × Blk)} (hM : wrM M (frzW (getM M) fz) = M') (hv : VLs2 (getM M') args args') (hS : FS P N k args' [] v []) (h : K v M' (frzW (getM M) fz) (fz ++ args.flatMap blks)) : Cl P N k args M K := by
  have e : getM M' = app (getM M) (frzW (getM M) fz) := by rw [← hM, getM_wr]
  exact ⟨⟨fz, [], [], args', v, M', by rw [← e]; exact hv, hS, fun b blk h => by simp [preMu, app] at h, e, by simpa using h⟩⟩
/-- It makes a block. -/
theorem Cl.new {blk : Blk} (hv : VLs2 (getM M) args args') (hS : FS P N k args' [] v [(N, some blk)]) (h : K v ((N, blk) :: M) [(N, some blk)] (args.flatMap blks)) : Cl P N k args M K :=
  ⟨⟨[], [], _, args', v, _, hv, hS, fun b blk h => by simp [preMu, app] at h, getM_cons _ _ _, h⟩⟩
/-- It writes a block of its caller's. -/
theorem Cl.upd {b : Nat} {blk blk' : Blk} (hv : VLs2 (getM M) args args') (hb : Lk M b (fun k' => k' = blk)) (hS : FS P N k args' [(b, blk)] v [(b, some blk')]) (h : K v ((b, blk') :: M) [(b, some blk')] (b :: args.flatMap blks)) : Cl P N k args M K :=
  ⟨⟨[], [(b, blk)], [(b, some blk')], args', v, (b, blk') :: M, hv, hS, fun c bk hc => by
    simp only [preMu, app, List.map_cons, List.map_nil, Go.Proofs.Ytneoeegpceompaa.AM.upd] at hc
    split at hc
    · rename_i e; subst e; injection hc with hc; subst hc; exact hb.get
    · exact absurd hc (by simp), getM_cons _ _ _, h⟩⟩
end

/-! ### Results -/
section
variable {N : Nat} {r x : AV} {M : List (Nat × Blk)} {post : Mu}
theorem Rt.eq (h : x = r) : Rt N (fun _ => none) r x M := ⟨⟨[], [], r, by subst h; exact .refl _, trivial, rfl, fun b blk h => absurd h (by simp)⟩⟩
theorem Rt.vl (h : VL3 (getM M) x r) : Rt N (fun _ => none) r x M := ⟨⟨[], [], r, h, trivial, rfl, fun b blk h => absurd h (by simp)⟩⟩
theorem Rt.frz (fz : List Nat) {M' : List (Nat × Blk)} (hM : wrM M (frzW (getM M) fz) = M') (h : VL3 (getM M') x r) : Rt N (fun _ => none) r x M := by
  have e : getM M' = app (getM M) (frzW (getM M) fz) := by rw [← hM, getM_wr]
  exact ⟨⟨fz, [], r, by rw [← e]; exact h, trivial, rfl, fun b blk h => absurd h (by simp)⟩⟩

theorem getM_frz1 {b : Nat} {k : Blk} (hb : getM M b = some k) : app (getM M) (frzW (getM M) [b]) b = some { k with mu := false } := by
  simp [frzW, hb, app, upd]

/-- One row is handed back, frozen. -/
theorem Rt.row {b sz len : Nat} {k : Blk} (hb : getM M b = some k) (hs : k.sz = sz) (hl : len = k.es.length) (h : r = .sl sz k.es) : Rt N (fun _ => none) r (.row b sz 0 len) M :=
  ⟨⟨[b], [], r, by
    subst h
    have := VL1.fz (μ := app (getM M) (frzW (getM M) [b])) b sz 0 len _ (getM_frz1 hb) rfl hs (by simp; omega)
    simp only [List.drop_zero] at this
    rw [List.take_of_length_le (by show k.es.length ≤ len; omega)] at this
    exact .two (.one this), trivial, rfl, fun b blk h => absurd h (by simp)⟩⟩

/-- .. ahead of another value. -/
theorem Rt.rowt {b sz len : Nat} {y : AV} {k : Blk} (hb : getM M b = some k) (hs : k.sz = sz) (hl : len = k.es.length) (h : r = .tup [.sl sz k.es, y]) : Rt N (fun _ => none) r (.tup [.row b sz 0 len, y]) M :=
  ⟨⟨[b], [], r, by
    subst h
    have := VL1.fz (μ := app (getM M) (frzW (getM M) [b])) b sz 0 len _ (getM_frz1 hb) rfl hs (by simp; omega)
    simp only [List.drop_zero] at this
    rw [List.take_of_length_le (by show k.es.length ≤ len; omega)] at this
    exact .tup (.cons (.one this) (VLs2.refl _)), trivial, rfl, fun b blk h => absurd h (by simp)⟩⟩

/-- One row is handed back, to be written on. -/
theorem Rt.own {b sz len : Nat} {k : Blk} (hN : ¬ nbr N b) (hb : getM M b = some k) (h : r = .row N sz 0 len) (hp : post = Go.Proofs.Ytneoeegpceompaa.AM.upd (fun _ => none) N (some k)) : Rt N post r (.row b sz 0 len) M :=
  ⟨⟨[], [b], .row b sz 0 len, .refl _, ⟨by omega, hN, ⟨k, hb⟩, trivial⟩, by subst h; simp [mvAV, ren, ren2, ren1], fun c blk hc => by
    subst hp
    simp only [upd] at hc
    split at hc
    · rename_i e
      rw [e]
      simpa [mvMu, frzW, app, upd, hb] using hc
    · exact absurd hc (by simp)⟩⟩
end


theorem Sx.nat {s : ByteArray} {i : Nat} {b : UInt8} {K : UInt8 → Prop} (h : s[i]? = some b) (k : K b) : Sx s (i : Int) K := ⟨⟨by omega, b, h, k⟩⟩

section
variable {es : List (List AV)} {i i' : Nat}
theorem El.mapi {α : Type} {f : α → List AV} {l : List α} {a : α} {K : List AV → Prop} (h : l[i']? = some a) (hi : i = i') (k : K (f a)) : El (l.map f) i K := by subst hi; exact .map h k
theorem El.ofi {K : List AV → Prop} {r : List AV} (h : es[i']? = some r) (hi : i = i') (k : K r) : El es i K := by subst hi; exact .of h k
end

section
variable {N k : Nat} {args args' : List AV} {M : List (Nat × Blk)} {K : Cx}
/-- Calls that come to one of several results. -/
theorem Cl.pureE {α : Type} {R : α → Prop} {f : α → AV} (hS : ∃ x, R x ∧ FS P N k args [] (f x) []) (h : ∀ x, R x → K (f x) M [] (args.flatMap blks)) : Cl P N k args M K := by
  obtain ⟨x, h1, h2⟩ := hS
  exact Cl.pure h2 (h x h1)
theorem Cl.newE {α : Type} {R : α → Prop} {f : α → AV} {g : α → Blk} (hS : ∃ x, R x ∧ FS P N k args [] (f x) [(N, some (g x))]) (h : ∀ x, R x → K (f x) ((N, g x) :: M) [(N, some (g x))] (args.flatMap blks)) : Cl P N k args M K := by
  obtain ⟨x, h1, h2⟩ := hS
  exact Cl.new (VLs2.refl _) h2 (h x h1)
theorem Cl.updE {α : Type} {R : α → Prop} {f : α → AV} {g : α → Blk} {b : Nat} {blk : Blk} (hb : Lk M b (fun k' => k' = blk)) (hS : ∃ x, R x ∧ FS P N k args [(b, blk)] (f x) [(b, some (g x))]) (h : ∀ x, R x → K (f x) ((b, g x) :: M) [(b, some (g x))] (b :: args.flatMap blks)) : Cl P N k args M K := by
  obtain ⟨x, h1, h2⟩ := hS
  exact Cl.upd (VLs2.refl _) hb h2 (h x h1)
theorem Cl.new0 {blk : Blk} {v : AV} (hS : FS P N k args [] v [(N, some blk)]) (h : K v ((N, blk) :: M) [(N, some blk)] (args.flatMap blks)) : Cl P N k args M K := Cl.new (VLs2.refl _) hS h
theorem Cl.upd0 {b : Nat} {blk blk' : Blk} {v : AV} (hb : Lk M b (fun k' => k' = blk)) (hS : FS P N k args [(b, blk)] v [(b, some blk')]) (h : K v ((b, blk') :: M) [(b, some blk')] (b :: args.flatMap blks)) : Cl P N k args M K := Cl.upd (VLs2.refl _) hb hS h
/-- Blocks of its caller's are frozen ahead of it. -/
theorem Cl.fz (fz : List Nat) {v : AV} (hv : VLs2 (app (getM M) (frzW (getM M) fz)) args args') (hS : FS P N k args' [] v []) (h : ∀ M' : List (Nat × Blk), getM M' = app (getM M) (frzW (getM M) fz) → K v M' (frzW (getM M) fz) (fz ++ args.flatMap blks)) : Cl P N k args M K := by
  have e : getM (wrM M (frzW (getM M) fz)) = app (getM M) (frzW (getM M) fz) := getM_wr _ _
  have := h _ e
  exact ⟨⟨fz, [], [], args', v, wrM M (frzW (getM M) fz), hv, hS, fun b blk h => by simp [preMu, app] at h, e, by simpa using this⟩⟩
end

/-! ### Freezing -/
section
variable {M : List (Nat × Blk)}
theorem frz_app (fz : List Nat) : ∀ {μ : Mu} {b : Nat}, app μ (frzW μ fz) b = if b ∈ fz then (μ b).map (fun k => { k with mu := false }) else μ b := by
  induction fz with
  | nil => intro μ b; rfl
  | cons c r ih =>
    intro μ b
    simp only [frzW]
    split
    · rename_i k hk
      simp only [app]
      rw [ih]
      by_cases e : b = c
      · subst e
        simp only [upd_same, List.mem_cons_self, if_true, hk, Option.map_some]
        split <;> rfl
      · rw [upd_ne _ _ e]
        by_cases hm : b ∈ r
        · rw [if_pos hm, if_pos (List.mem_cons_of_mem _ hm)]
        · rw [if_neg hm, if_neg (by simp [e, hm])]
    · rename_i hk
      rw [ih]
      by_cases e : b = c
      · subst e
        rw [hk]
        simp
      · by_cases hm : b ∈ r
        · rw [if_pos hm, if_pos (List.mem_cons_of_mem _ hm)]
        · rw [if_neg hm, if_neg (by simp [e, hm])]

/-- Blocks as they are, seen frozen. -/
def fzM (M : List (Nat × Blk)) (fz : List Nat) : Mu := app (getM M) (frzW (getM M) fz)

theorem fzM_in {fz : List Nat} {b : Nat} {k : Blk} (hb : b ∈ fz) (h : Lk M b (fun k' => k' = k)) : fzM M fz b = some { k with mu := false } := by
  unfold fzM
  rw [frz_app, if_pos hb, h.get]; rfl

/-- A row, all of it, frozen. -/
theorem VL1.row {fz : List Nat} {b sz len : Nat} {es : List (List AV)} (hb : b ∈ fz) (h : Lk M b (fun k => k.sz = sz ∧ len = k.es.length ∧ k.es = es)) : VL1 (fzM M fz) (.row b sz 0 len) (.sl sz es) := by
  obtain ⟨⟨k, hk, hs, hl, he⟩⟩ := h
  have := VL1.fz (μ := fzM M fz) b sz 0 len { k with mu := false } (fzM_in hb ⟨⟨k, hk, rfl⟩⟩) rfl hs (by simp; omega)
  simp only [List.drop_zero] at this
  rw [List.take_of_length_le (by show k.es.length ≤ len; omega)] at this
  subst he
  exact this
theorem VL1.rowp {fz : List Nat} {b sz off len : Nat} {es : List (List AV)} (hb : b ∈ fz) (h : Lk M b (fun k => k.sz = sz ∧ off + len ≤ k.es.length ∧ (k.es.drop off).take len = es)) : VL1 (fzM M fz) (.row b sz off len) (.sl sz es) := by
  obtain ⟨⟨k, hk, hs, hl, he⟩⟩ := h
  subst he
  exact VL1.fz (μ := fzM M fz) b sz off len { k with mu := false } (fzM_in hb ⟨⟨k, hk, rfl⟩⟩) rfl hs (by simpa using hl)
/-- A variable that nobody writes any more. -/
theorem VL1.var {fz : List Nat} {b sz : Nat} {r : List AV} (hb : b ∈ fz) (h : Lk M b (fun k => k.sz = sz ∧ k.es = [r])) : VL1 (fzM M fz) (.pt b sz 0 0) (.ipt r) := by
  obtain ⟨⟨k, hk, hs, hr⟩⟩ := h
  have := VL1.pfz (μ := fzM M fz) b sz 0 0 { k with mu := false } r (fzM_in hb ⟨⟨k, hk, rfl⟩⟩) rfl hs (by simp [hr])
  simpa using this

/-- Blocks seen frozen, as a list. -/
def fzL (M : List (Nat × Blk)) : List (Nat × Blk) → List (Nat × Blk)
  | [] => M
  | (c, k) :: r => (c, { k with mu := false }) :: fzL M r

theorem fzL_eq (M : List (Nat × Blk)) (l : List (Nat × Blk)) (h : ∀ c k, (c, k) ∈ l → getM M c = some k) : getM (fzL M l) = fzM M (l.map Prod.fst) := by
  induction l with
  | nil => rfl
  | cons p r ih =>
    obtain ⟨c, k⟩ := p
    funext b
    have hc := h c k (by simp)
    have := congrFun (ih fun c k hk => h c k (by simp [hk])) b
    unfold fzM at this ⊢
    rw [frz_app] at this ⊢
    simp only [fzL, getM, this, List.map_cons, List.mem_cons]
    by_cases e : c = b
    · subst e; simp [hc]
    · rw [if_neg e]
      by_cases hm : b ∈ r.map Prod.fst
      · rw [if_pos hm, if_pos (.inr hm)]
      · rw [if_neg hm, if_neg (by simp only [not_or]; exact ⟨Ne.symm e, hm⟩)]

section
variable {P : Program} {N k : Nat} {args args' : List AV} {K : Cx} {v : AV}
/-- A call, blocks of the caller's frozen ahead of it. -/
theorem Cl.fz' (l : List (Nat × Blk)) (hl : ∀ c k, (c, k) ∈ l → getM M c = some k) (hv : VLs2 (fzM M (l.map Prod.fst)) args args') (hS : FS P N k args' [] v []) (h : K v (fzL M l) (frzW (getM M) (l.map Prod.fst)) (l.map Prod.fst ++ args.flatMap blks)) : Cl P N k args M K :=
  ⟨⟨l.map Prod.fst, [], [], args', v, fzL M l, hv, hS, fun b blk h => by simp [preMu, app] at h, fzL_eq M l hl, by simpa using h⟩⟩
/-- .. and one that is written. -/
theorem Cl.fzu' (l : List (Nat × Blk)) {b : Nat} {blk blk' : Blk} (hl : ∀ c k, (c, k) ∈ l → getM M c = some k) (hv : VLs2 (fzM M (l.map Prod.fst)) args args') (hb : Lk M b (fun k' => k' = blk)) (hn : b ∉ l.map Prod.fst) (hS : FS P N k args' [(b, blk)] v [(b, some blk')])
    (h : K v ((b, blk') :: fzL M l) (frzW (getM M) (l.map Prod.fst) ++ [(b, some blk')]) (l.map Prod.fst ++ (b :: args.flatMap blks))) : Cl P N k args M K :=
  ⟨⟨l.map Prod.fst, [(b, blk)], [(b, some blk')], args', v, (b, blk') :: fzL M l, hv, hS, fun c bk hc => by
    simp only [preMu, app, List.map_cons, List.map_nil, Go.Proofs.Ytneoeegpceompaa.AM.upd] at hc
    split at hc
    · rename_i e
      subst e
      have : fzM M (l.map Prod.fst) c = some blk := by unfold fzM; rw [frz_app, if_neg hn]; exact hb.get
      rw [← hc]
      exact this
    · exact absurd hc (by simp), by rw [getM_cons, fzL_eq M l hl]; rfl, h⟩⟩
/-- A call, a block of the caller's frozen ahead of it. -/
theorem Cl.fz1 {c : Nat} {kc : Blk} (hS : FS P N k args' [] v []) (hv : VLs2 (fzM M [c]) args args') (hc : Lk M c (fun k' => k' = kc)) (h : K v ((c, { kc with mu := false }) :: M) (frzW (getM M) [c]) ([c] ++ args.flatMap blks)) : Cl P N k args M K := by
  refine Cl.fz' [(c, kc)] (fun c' k' hm => ?_) hv hS ?_
  · simp only [List.mem_singleton, Prod.mk.injEq] at hm
    obtain ⟨rfl, rfl⟩ := hm
    exact hc.get
  · exact h
theorem Cl.fz1u {c b : Nat} {kc blk blk' : Blk} (hS : FS P N k args' [(b, blk)] v [(b, some blk')]) (hv : VLs2 (fzM M [c]) args args') (hc : Lk M c (fun k' => k' = kc)) (hb : Lk M b (fun k' => k' = blk)) (hn : b ≠ c) (h : K v ((b, blk') :: (c, { kc with mu := false }) :: M) (frzW (getM M) [c] ++ [(b, some blk')]) ([c] ++ (b :: args.flatMap blks))) : Cl P N k args M K := by
  refine Cl.fzu' [(c, kc)] (fun c' k' hm => ?_) hv hb (by simpa using hn) hS ?_
  · simp only [List.mem_singleton, Prod.mk.injEq] at hm
    obtain ⟨rfl, rfl⟩ := hm
    exact hc.get
  · exact h
theorem Cl.fz2 {c c2 : Nat} {kc kc2 : Blk} (hS : FS P N k args' [] v []) (hv : VLs2 (fzM M [c, c2]) args args') (hc : Lk M c (fun k' => k' = kc)) (hc2 : Lk M c2 (fun k' => k' = kc2)) (h : K v ((c, { kc with mu := false }) :: (c2, { kc2 with mu := false }) :: M) (frzW (getM M) [c, c2]) ([c, c2] ++ args.flatMap blks)) : Cl P N k args M K := by
  refine Cl.fz' [(c, kc), (c2, kc2)] (fun c' k' hm => ?_) hv hS ?_
  · simp only [List.mem_cons, Prod.mk.injEq, List.not_mem_nil, or_false] at hm
    rcases hm with ⟨rfl, rfl⟩ | ⟨rfl, rfl⟩
    · exact hc.get
    · exact hc2.get
  · exact h
theorem Cl.fz3 {c c2 c3 : Nat} {kc kc2 kc3 : Blk} (hS : FS P N k args' [] v []) (hv : VLs2 (fzM M [c, c2, c3]) args args') (hc : Lk M c (fun k' => k' = kc)) (hc2 : Lk M c2 (fun k' => k' = kc2)) (hc3 : Lk M c3 (fun k' => k' = kc3)) (h : K v ((c, { kc with mu := false }) :: (c2, { kc2 with mu := false }) :: (c3, { kc3 with mu := false }) :: M) (frzW (getM M) [c, c2, c3]) ([c, c2, c3] ++ args.flatMap blks)) : Cl P N k args M K := by
  refine Cl.fz' [(c, kc), (c2, kc2), (c3, kc3)] (fun c' k' hm => ?_) hv hS ?_
  · simp only [List.mem_cons, Prod.mk.injEq, List.not_mem_nil, or_false] at hm
    rcases hm with ⟨rfl, rfl⟩ | ⟨rfl, rfl⟩ | ⟨rfl, rfl⟩
    · exact hc.get
    · exact hc2.get
    · exact hc3.get
  · exact h
end
end

section
variable {N : Nat} {r x : AV} {M : List (Nat × Blk)} {post : Mu}
/-- What the contract leaves of its caller's blocks. -/
inductive SubP (M : List (Nat × Blk)) (fz : List Nat) : Mu → Prop
  | nil : SubP M fz (fun _ => none)
  | upd1 {b : Nat} {k k' : Blk} (h : Lk M b (fun k'' => k'' = k')) (hn : b ∉ fz) : SubP M fz (app (preMu [(b, k)]) [(b, some k')])
  | same1 {b : Nat} {k : Blk} (h : Lk M b (fun k'' => k'' = k)) (hn : b ∉ fz) : SubP M fz (app (preMu [(b, k)]) [])

theorem SubP.ok {fz : List Nat} (h : SubP M fz post) : ∀ b blk, post b = some blk → fzM M fz b = some blk := fun b blk hb => by
  unfold fzM
  rw [frz_app]
  cases h with
  | nil => cases hb
  | upd1 h hn =>
    simp only [app, preMu, List.map_cons, List.map_nil, upd] at hb
    split at hb
    · rename_i e; subst e; rw [if_neg hn, h.get]; exact hb
    · cases hb
  | same1 h hn =>
    simp only [app, preMu, List.map_cons, List.map_nil, upd] at hb
    split at hb
    · rename_i e; subst e; rw [if_neg hn, h.get]; exact hb
    · cases hb

theorem Rt.fz (fz : List Nat) (h : VL3 (fzM M fz) x r) (hp : SubP M fz post) : Rt N post r x M := ⟨⟨fz, [], r, h, trivial, rfl, hp.ok⟩⟩
theorem Rt.upd (h : x = r) (hp : SubP M [] post) : Rt N post r x M := Rt.fz [] (by subst h; exact .refl _) hp
/-- A name of a frame is none of the results'. -/
theorem nbr_no {D N d j : Nat} (hN : ¬ Gar D N) (hd : D ≤ d) (h4 : N % 4 = 0) : ¬ nbr N (nm d j) := fun hn => gar_of h4 hN hn (gar_nm.2 hd)
/-- A new row is handed back. -/
theorem Rt.new {b sz len : Nat} {k : Blk} (hN : ¬ nbr N b) (h : Lk M b (fun k' => k' = k)) : Rt N (app (preMu []) [(N, some k)]) (.row N sz 0 len) (.row b sz 0 len) M := by
  refine Rt.own hN h.get rfl ?_
  funext c
  simp [preMu, app]
/-- A pointer to a new variable is handed back. -/
theorem Rt.newp {b sz : Nat} {k : Blk} (hN : ¬ nbr N b) (h : Lk M b (fun k' => k' = k)) : Rt N (app (preMu []) [(N, some k)]) (.pt N sz 0 0) (.pt b sz 0 0) M :=
  ⟨⟨[], [b], .pt b sz 0 0, .refl _, ⟨by omega, hN, ⟨k, h.get⟩, trivial⟩, by simp [mvAV, ren, ren2, ren1], fun c blk hc => by
    simp only [preMu, app, List.map_nil, Go.Proofs.Ytneoeegpceompaa.AM.upd] at hc
    split at hc
    · rename_i e
      rw [e]
      simpa [mvMu, frzW, app, Go.Proofs.Ytneoeegpceompaa.AM.upd, h.get] using hc
    · exact absurd hc (by simp)⟩⟩
end

end Go.Proofs.Ytneoeegpceompaa.AM
