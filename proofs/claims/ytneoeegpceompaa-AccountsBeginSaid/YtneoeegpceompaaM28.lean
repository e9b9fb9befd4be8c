/-
The abstract machine, part 28: variables that hold rows: the rows renamed, or frozen, in their cells too.
-/
import Derived.Test.YtneoeegpceompaaM27
namespace Go.Proofs.Ytneoeegpceompaa.AM
open Go

variable {P : Program} {nt : Nat}

/-- A block's cells, with less known of them, or under other names. -/
theorem Mem.recell {X : Nat → Prop} {io : Nat → Option (Option Nat)} {μ : Mu} {w : World} (hM : Mem X io μ w) {b : Nat} {k : Blk} (hb : μ b = some k) {r r' : List AV} (he : k.es = [r]) (hl : r'.length = r.length)
    (hr : ∀ us, Rels (envOf X io μ w) r us → Rels (envOf X io μ w) r' us) : Mem X io (upd μ b (some { k with es := [r'] })) w ∧ envOf X io (upd μ b (some { k with es := [r'] })) w = envOf X io μ w := by
  have him : imOf X io (upd μ b (some { k with es := [r'] })) w = imOf X io μ w := by
    funext x
    unfold imOf
    refine propext ⟨fun ⟨h1, h2, h3⟩ => ⟨h1, h2, fun c blk hc hm => ?_⟩, fun ⟨h1, h2, h3⟩ => ⟨h1, h2, fun c blk hc hm => ?_⟩⟩
    · by_cases e : c = b
      · subst e
        rw [hb] at hc; injection hc with hc; subst hc
        exact h3 c { k with es := [r'] } (upd_same _ _ _) hm
      · exact h3 c blk (by rw [upd_ne _ _ e]; exact hc) hm
    · by_cases e : c = b
      · subst e
        rw [upd_same] at hc; injection hc with hc; subst hc
        exact h3 c k hb hm
      · rw [upd_ne _ _ e] at hc; exact h3 c blk hc hm
  have henv : envOf X io (upd μ b (some { k with es := [r'] })) w = envOf X io μ w := by
    unfold envOf; rw [him]
  refine ⟨⟨fun c blk hc => ?_, fun c c' blk blk' p h1 h2 hm h3 h4 => ?_, hM.lt, fun c blk p hc hp => ?_, hM.xlt⟩, henv⟩
  · rw [henv]
    by_cases e : c = b
    · subst e
      rw [upd_same] at hc; injection hc with hc; subst hc
      obtain ⟨o1, o2, o3⟩ := hM.ok c k hb
      rw [he] at o1 o2 o3
      refine ⟨fun e' he' => ?_, by simpa using o2, ?_⟩
      · simp only [List.mem_singleton] at he'
        subst he'
        rw [hl]; exact o1 r (by simp)
      · rcases o3 with ⟨_, h⟩ | ⟨p, cur, q1, q2, q3, q4, q5⟩
        · cases h
        · refine .inr ⟨p, cur, q1, q2, by simpa using q3, q4, fun i j x hx => ?_⟩
          -- the cells' values
          have hlen : r.length = k.sz := o1 r (by simp)
          have hcur : k.sz ≤ cur.size := by simpa using q3
          have hus : Rels (envOf X io μ w) r ((cur.toList).take k.sz) := by
            refine ⟨by simp [hlen]; omega, fun j x u hx hu => ?_⟩
            obtain ⟨u', hu', _, hrel⟩ := q5 0 j x (by simp [cellAt, hx])
            have hj : j < k.sz := by rw [← hlen]; exact (List.getElem?_eq_some_iff.1 hx).1
            rw [List.getElem?_take_of_lt hj] at hu
            simp only [Nat.zero_mul, Nat.zero_add] at hu'
            have : u = u' := by
              have h1 : cur.toList[j]? = some u' := by simpa using hu'
              rw [h1] at hu; injection hu with hu; exact hu.symm
            subst this; exact hrel
          have hus' := hr _ hus
          have hi : i = 0 := by
            unfold cellAt at hx
            cases i with
            | zero => rfl
            | succ i => simp at hx
          subst hi
          have hx' : r'[j]? = some x := by simpa [cellAt] using hx
          have hj : j < k.sz := by rw [← hlen, ← hl]; exact (List.getElem?_eq_some_iff.1 hx').1
          obtain ⟨u, hu, hone, _⟩ := q5 0 j (r[j]'(by rw [hlen]; exact hj)) (by simp [cellAt, hlen, hj])
          refine ⟨u, hu, hone, hus'.2 j x u hx' ?_⟩
          rw [List.getElem?_take_of_lt hj]
          simpa using hu
    · rw [upd_ne _ _ e] at hc; exact hM.ok c blk hc
  · have g1 : ∃ bk, μ c = some bk ∧ bk.mu = true := by
      by_cases e : c = b
      · subst e; rw [upd_same] at h1; injection h1 with h1; subst h1; exact ⟨k, hb, hm⟩
      · rw [upd_ne _ _ e] at h1; exact ⟨blk, h1, hm⟩
    have g2 : ∃ bk, μ c' = some bk := by
      by_cases e : c' = b
      · subst e; exact ⟨k, hb⟩
      · rw [upd_ne _ _ e] at h2; exact ⟨blk', h2⟩
    obtain ⟨bk, g1, g1m⟩ := g1
    obtain ⟨bk', g2⟩ := g2
    exact hM.inj c c' bk bk' p g1 g2 g1m h3 h4
  · by_cases e : c = b
    · subst e; exact hM.notX c k p hb hp
    · rw [upd_ne _ _ e] at hc; exact hM.notX c blk p hc hp

theorem weak_recell {S : St} {b : Nat} {k : Blk} (hb : getM S.M b = some k) {r r' : List AV} (he : k.es = [r]) (hl : r'.length = r.length)
    (hr : ∀ F io a w, Conc F io S a w → ∀ us, Rels (envOf F.X io (getM S.M) w) r us → Rels (envOf F.X io (getM S.M) w) r' us) : Weak S { S with M := (b, { k with es := [r'] }) :: S.M } := fun F io a w hC => by
  obtain ⟨h1, h2⟩ := hC.c.mem.recell hb he hl (hr F io a w hC)
  rw [← getM_upd] at h1 h2
  refine ⟨io, ⟨h1, fun t => by rw [h2]; exact hC.c.tmps t, hC.c.size, hC.c.defers, hC.c.fresh, hC.c.heap, fun c blk p hc hm => ?_, hC.c.pre, hC.c.top, hC.c.free⟩, hC.low, hC.outN, hC.n4⟩
  simp only [getM] at hc
  split at hc
  · rename_i e; subst e; injection hc with hc; subst hc
    exact hC.c.own b k p hb hm
  · exact hC.c.own c blk p hc hm

/-- Rows of a variable frozen: its cells read as slices. -/
theorem weak_vw {S : St} {b : Nat} {k : Blk} (l : List (Nat × Blk)) (hl : ∀ c k, (c, k) ∈ l → getM S.M c = some k) (hn : b ∉ l.map Prod.fst) (hb : getM S.M b = some k) {r r' : List AV} (he : k.es = [r]) (hv : VLs1 (fzM S.M (l.map Prod.fst)) r r') :
    Weak S { S with M := (b, { k with es := [r'] }) :: fzL S.M l } := by
  have e1 := fzL_eq S.M l hl
  refine weak_trans (B := { S with M := fzL S.M l }) (fun F io a w hC => ?_) (weak_recell (S := { S with M := fzL S.M l }) (b := b) (k := k) ?_ he ?_ ?_)
  · have := weak_freeze (S := S) (l.map Prod.fst) F io a w hC
    obtain ⟨io', h⟩ := this
    refine ⟨io', ?_⟩
    have e2 : getM (wrM S.M (frzW (getM S.M) (l.map Prod.fst))) = getM (fzL S.M l) := by rw [getM_wr, e1]; rfl
    have hc := h.c
    simp only at hc
    rw [e2] at hc
    exact ⟨hc, h.low, h.outN, h.n4⟩
  · show getM (fzL S.M l) b = some k
    rw [e1]
    unfold fzM
    rw [frz_app, if_neg hn]; exact hb
  · have : ∀ {xs ys : List AV}, VLs1 (fzM S.M (l.map Prod.fst)) xs ys → ys.length = xs.length := fun h => by
      induction h with
      | nil => rfl
      | cons _ _ ih => simp [ih]
    exact this hv
  · intro F io a w hC us hus
    have hm := hC.c.mem
    simp only at hm hus ⊢
    rw [e1] at hm hus ⊢
    exact hv.rels hm hus

/-- A row of a variable gets a new name, in its cells too. -/
def bxF (d box : Nat) : List Nat → Nat → List (Nat × AV) → List (Nat × Blk) → (Nat → List (Nat × AV) → List (Nat × Blk) → Prop) → Prop
  | [], n, T, M, K => K n T M
  | c :: r, n, T, M, K => Ob (c ≠ box) (Lk M box fun kb => match kb with
    | ⟨mu, ty, sz, es, cap⟩ => match es with
      | [row] => Lk M c fun kc => match kc with
        | ⟨mu', ty', sz', es', cap'⟩ => renTF c (nm d n) T fun T' => renLF c (nm d n) row fun row' => frcN (n + 1) fun n' =>
          bxF d box r n' T' ((box, ⟨mu, ty, sz, [row'], cap⟩) :: (nm d n, ⟨mu', ty', sz', es', cap'⟩) :: delM M c) K
      | _ => False)

theorem weak_eqM {T : List (Nat × AV)} {M M' : List (Nat × Blk)} {d n : Nat} (h : getM M = getM M') : Weak ⟨T, M, d, n⟩ ⟨T, M', d, n⟩ := fun F io a w hC => by
  refine ⟨io, ?_, hC.low, hC.outN, hC.n4⟩
  have := hC.c
  simp only at this ⊢
  rw [h] at this; exact this

/-- A block gets a new name: with the names' places told. -/
theorem conc_move {S : St} {b : Nat} {blk : Blk} (hb : getM S.M b = some blk) {F : Fr} {io : Nat → Option (Option Nat)} {a : Act} {w : World} (hC : Conc F io S a w) :
    nm S.d S.nx ≠ b ∧ getM S.M (nm S.d S.nx) = none ∧ Conc F (upd io (nm S.d S.nx) (io b)) { S with T := mapT (ren b (nm S.d S.nx)) S.T, M := (nm S.d S.nx, blk) :: delM S.M b, nx := S.nx + 1 } a w := by
  have hfree : io (nm S.d S.nx) = none := hC.c.fresh _ (.inr ⟨S.nx, Nat.le_refl _, nbr_self _⟩)
  have hs := step_rename hC.c.mem hfree (hC.c.mem.unused hfree) hb
  have e : upd (upd (getM S.M) b none) (nm S.d S.nx) (some blk) = getM ((nm S.d S.nx, blk) :: delM S.M b) := by
    rw [getM_upd]; congr 1
    funext c; rw [getM_del]; rfl
  rw [e] at hs
  have hne : nm S.d S.nx ≠ b := fun e => by rw [e] at hfree; rw [hC.c.mem.unused hfree] at hb; cases hb
  have hA := hs.toA hC.c.mem (A := fun x => x = nm S.d S.nx) rfl
  refine ⟨hne, hC.c.mem.unused hfree, hC.c.step hA (fun t => ?_) rfl rfl (fun x h1 => ⟨?_, fun h3 => ?_⟩) (fun x hx => ?_), hC.low, hC.outN, hC.n4⟩
  · show Rel _ (getT (mapT (ren b (nm S.d S.nx)) S.T) t) _
    rw [getT_map rfl]
    refine ren_rel ?_ _ _ ((hC.c.tmps t).mono hs.le)
    show upd io _ _ _ = upd io _ _ _
    rw [upd_same, upd_ne]
    exact Ne.symm hne
  · rcases h1 with h1 | ⟨k, h4, h5⟩
    · exact .inl h1
    · exact .inr ⟨k, by simp only at h4; omega, h5⟩
  · subst h3
    rcases h1 with h1 | ⟨k, h4, h5⟩
    · exact gar_of hC.n4 hC.outN h1 (gar_nm.2 hC.low)
    · have := (nbr_nm (nbr_self _) h5).2
      simp only at h4
      omega
  · subst hx; exact gar_nm.2 hC.low

theorem weak_box {T : List (Nat × AV)} {M : List (Nat × Blk)} {d n c box : Nat} {kb kc : Blk} {row : List AV} (hne : c ≠ box) (hk : getM M box = some kb) (he : kb.es = [row]) (hkc : getM M c = some kc) :
    Weak ⟨T, M, d, n⟩ ⟨mapT (ren c (nm d n)) T, (box, { kb with es := [row.map (ren1 c (nm d n))] }) :: (nm d n, kc) :: delM M c, d, n + 1⟩ := fun F io a w hC => by
  obtain ⟨h1, h2, h3⟩ := conc_move hkc hC
  simp only at h1 h2 h3
  have hb2 : getM ((nm d n, kc) :: delM M c) box = some kb := by
    simp only [getM]
    rw [if_neg (fun e => by rw [e, hk] at h2; cases h2), getM_del, if_neg (Ne.symm hne)]
    exact hk
  have hm := h3.c.mem
  simp only at hm
  obtain ⟨g1, g2⟩ := hm.recell hb2 (r := row) (r' := row.map (ren1 c (nm d n))) he (by simp) (fun us hus => ⟨by simp [hus.1], fun j x u hx hu => by
    rw [List.getElem?_map] at hx
    obtain ⟨y, hy, rfl⟩ := Option.map_eq_some_iff.1 hx
    refine ren1_rel ?_ _ _ (hus.2 j y u hy hu)
    show upd io (nm d n) (io c) (nm d n) = upd io (nm d n) (io c) c
    rw [upd_same, upd_ne _ _ (Ne.symm h1)]⟩)
  rw [← getM_upd] at g1 g2
  refine ⟨_, ⟨g1, fun t => by rw [g2]; exact h3.c.tmps t, h3.c.size, h3.c.defers, h3.c.fresh, h3.c.heap, fun x blk p hc hmu => ?_, h3.c.pre, h3.c.top, h3.c.free⟩, h3.low, h3.outN, h3.n4⟩
  simp only [getM] at hc
  split at hc
  · rename_i e; subst e; injection hc with hc; subst hc
    exact h3.c.own box kb p hb2 hmu
  · exact h3.c.own x blk p hc hmu

theorem bxF_sound {d box : Nat} (cs : List Nat) : ∀ {n : Nat} {T : List (Nat × AV)} {M : List (Nat × Blk)} {K : Nat → List (Nat × AV) → List (Nat × Blk) → Prop}, bxF d box cs n T M K →
    ∃ n' T' M', K n' T' M' ∧ Weak ⟨T, M, d, n⟩ ⟨T', M', d, n'⟩ := by
  induction cs with
  | nil => intro n T M K h; exact ⟨n, T, M, h, weak_refl _⟩
  | cons c r ih =>
    intro n T M K h
    obtain ⟨hne, h⟩ := h
    obtain ⟨⟨mu, ty, sz, es, cap⟩, hk, h⟩ := h.a
    simp only at h
    split at h
    · rename_i row
      obtain ⟨⟨mu', ty', sz', es', cap'⟩, hkc, h⟩ := h.a
      have h := renTF_eq T h
      have h := renLF_eq row h
      rw [frcN_eq] at h
      obtain ⟨n', T', M', k1, k2⟩ := ih h
      exact ⟨n', T', M', k1, weak_trans (weak_box hne hk rfl hkc) k2⟩
    · exact h.elim

/-- On to a loop, with a variable whose rows get new names, in its cells too: those blocks behind it keep the names that are given. -/
theorem Lp.gox {x : CC} {Q : Post} {T : List (Nat × AV)} {M : List (Nat × Blk)} {d nx : Nat} (ks : List Nat) (ex : Nat → List Nat) (box : Nat) (cs bs : List Nat)
    (h : keepF ks T fun T' => ∀ d', d < d' → bxF d' box cs 0 T' M fun n T' M' => exF (ex d') M' [] fun M'' acc => agF d' bs n T' M'' acc fun n T'' M3 => Lp P nt x ⟨T'', M3, d', n⟩ Q) : Lp P nt x ⟨T, M, d, nx⟩ Q := by
  rw [keepF_eq] at h
  refine ⟨SafeL.weak (weak_keep (S := ⟨T, M, d, nx⟩) ks) (SafeL.enter fun d' hd' => ?_)⟩
  obtain ⟨n', T', M', h1, w1⟩ := bxF_sound cs (h d' hd')
  obtain ⟨M'', acc, h2, e1, e2⟩ := exF_sound (ex d') h1 (Mt := M') (fun _ _ h => h) (fun b k h => by simp [getM] at h)
  obtain ⟨n'', T'', acc', g1, g2⟩ := agF_sound bs h2 e1 e2
  exact SafeL.weak w1 (SafeL.weak g2 g1.a)

section
variable {x : CC} {Q : Post} {T : List (Nat × AV)} {M : List (Nat × Blk)} {d n c c2 box : Nat} {kb kc kc2 : Blk} {r r' : List AV}
/-- A variable's rows frozen, ahead of a loop. -/
theorem Lp.vw1 (r : List AV) (hv : VLs1 (fzM M [c]) r r') (hb : Lk M box (fun k => k = kb)) (he : kb.es = [r]) (hc : Lk M c (fun k => k = kc)) (hn : box ≠ c)
    (h : Lp P nt x ⟨T, (box, { kb with es := [r'] }) :: (c, { kc with mu := false }) :: M, d, n⟩ Q) : Lp P nt x ⟨T, M, d, n⟩ Q :=
  ⟨SafeL.weak (weak_vw (S := ⟨T, M, d, n⟩) [(c, kc)] (fun c' k' hm => by
    simp only [List.mem_singleton, Prod.mk.injEq] at hm
    obtain ⟨rfl, rfl⟩ := hm
    exact hc.get) (by simpa using hn) hb.get he hv) h.a⟩
theorem Lp.vw2 (r : List AV) (hv : VLs1 (fzM M [c, c2]) r r') (hb : Lk M box (fun k => k = kb)) (he : kb.es = [r]) (hc : Lk M c (fun k => k = kc)) (hc2 : Lk M c2 (fun k => k = kc2)) (hn : box ≠ c) (hn2 : box ≠ c2)
    (h : Lp P nt x ⟨T, (box, { kb with es := [r'] }) :: (c, { kc with mu := false }) :: (c2, { kc2 with mu := false }) :: M, d, n⟩ Q) : Lp P nt x ⟨T, M, d, n⟩ Q :=
  ⟨SafeL.weak (weak_vw (S := ⟨T, M, d, n⟩) [(c, kc), (c2, kc2)] (fun c' k' hm => by
    simp only [List.mem_cons, Prod.mk.injEq, List.not_mem_nil, or_false] at hm
    rcases hm with ⟨rfl, rfl⟩ | ⟨rfl, rfl⟩
    · exact hc.get
    · exact hc2.get) (by simp [hn, hn2]) hb.get he hv) h.a⟩
end

section
variable {N k : Nat} {M : List (Nat × Blk)} {args args' : List AV} {v : AV} {K : AV → List (Nat × Blk) → Wr → List Nat → Prop}
/-- One block frozen, one written: what is written is told. -/
theorem Cl.fz1w {c b : Nat} {kc blk blk' : Blk} (hS : FS P N k args' [(b, blk)] v [(b, some blk')]) (hv : VLs2 (fzM M [c]) args args') (hc : Lk M c (fun k' => k' = kc)) (hb : Lk M b (fun k' => k' = blk)) (hn : b ≠ c) (h : K v ((b, blk') :: (c, { kc with mu := false }) :: M) [(c, some { kc with mu := false }), (b, some blk')] ([c] ++ (b :: args.flatMap blks))) : Cl P N k args M K := by
  refine Cl.fz1u hS hv hc hb hn ?_
  have : frzW (getM M) [c] = [(c, some { kc with mu := false })] := by simp [frzW, hc.get]
  rw [this]; exact h
end

end Go.Proofs.Ytneoeegpceompaa.AM
