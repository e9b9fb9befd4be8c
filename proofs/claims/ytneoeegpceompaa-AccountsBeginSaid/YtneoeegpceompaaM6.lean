/-
The abstract machine, part 6: equality of structs, loads, builds, slices of slices.
-/
import Derived.Test.YtneoeegpceompaaM5
namespace Go.Proofs.Ytneoeegpceompaa.AM
open Go

variable {P : Program}

theorem eqCells_append (p q : List (Nat × Bool)) (xs ys : List AV) {b : Bool} (h : eqCells (p ++ q) xs ys = some b) : ∃ c d, eqCells p xs ys = some c ∧ eqCells q xs ys = some d ∧ b = (c && d) := by
  induction p generalizing b with
  | nil => exact ⟨true, b, rfl, h, by simp⟩
  | cons i p ih =>
    obtain ⟨i, s⟩ := i
    simp only [List.cons_append, eqCells] at h ⊢
    split at h
    · rename_i x y hx hy
      split at h
      · rename_i c d hc hd
        injection h with h
        subst h
        obtain ⟨c', d', h1, h2, rfl⟩ := ih hd
        exact ⟨c && c', d', by simp [hc, h1], h2, by simp [Bool.and_assoc]⟩
      · cases h
    · cases h

theorem eqCells_shift (m : List (Nat × Bool)) (off n : Nat) (hm : ∀ i ∈ m, i.1 < n) (xs ys : List AV) : eqCells (m.map fun q => (q.1 + off, q.2)) xs ys = eqCells m ((xs.drop off).take n) ((ys.drop off).take n) := by
  induction m with
  | nil => rfl
  | cons i m ih =>
    obtain ⟨i, s⟩ := i
    have hi : i < n := hm (i, s) (by simp)
    have ih := ih (fun j hj => hm j (by simp [hj]))
    simp only [List.map_cons, eqCells, ih, List.getElem?_take, if_pos hi, List.getElem?_drop, Nat.add_comm off i]

theorem eqCell_rel {E : Env} {s : Bool} {x y : AV} {b : Bool} (h : eqCell s x y = some b) {u v : Value} (hu : Rel E x u) (hv : Rel E y v) :
    (s = false ∧ ∃ k m n, u = .int k m ∧ v = .int k n ∧ b = (m == n)) ∨ (s = true ∧ ∃ m n, u = .string m ∧ v = .string n ∧ b = (m.toList == n.toList)) := by
  unfold eqCell at h
  split at h
  · rename_i k m k' n
    split at h
    · rename_i hk
      subst hk
      injection h with h
      exact .inl ⟨rfl, k, m, n, rel_v hu, rel_v hv, h.symm⟩
    · cases h
  · rename_i m n
    injection h with h
    exact .inr ⟨rfl, m, n, rel_v hu, rel_v hv, h.symm⟩
  · cases h

/-- Equality, as it runs. -/
theorem run_eqPlan (d : Nat) : ∀ (t : Nat) (plan : List (Nat × Bool)), eqPlan P d t = some plan → ∀ (D : Nat), d ≤ D →
    (∀ {E : Env} {s : Bool} {x y : AV} {b : Bool} {u v : Value}, plan = [(0, s)] → (∀ fs, P.underlying t ≠ some (.struct fs)) → eqCell s x y = some b → Rel E x u → Rel E y v → ∀ w, (Op.equalIn D t u v).run P w = .ok b w) ∧
    (∀ {E : Env} {cs ds : List AV} {b : Bool} {us vs : List Value}, (∃ fs, P.underlying t = some (.struct fs)) → eqCells plan cs ds = some b → Rels E cs us → Rels E ds vs → ∀ w, (Op.equalIn D t (.agg us.toArray) (.agg vs.toArray)).run P w = .ok b w) := by
  induction d with
  | zero => intro t plan h; cases h
  | succ d ih =>
    intro t plan h D hD
    obtain ⟨D, rfl⟩ : ∃ D', D = D' + 1 := ⟨D - 1, by omega⟩
    simp only [eqPlan] at h
    refine ⟨fun {E s x y b u v} hpl hns hxy hu hv w => ?_, fun {E cs ds b us vs} ⟨fs, hfs⟩ heq hus hvs w => ?_⟩
    · split at h
      · rename_i k hk
        injection h with h
        subst h
        simp only [List.cons.injEq, Prod.mk.injEq, and_true, true_and] at hpl
        subst hpl
        rcases eqCell_rel hxy hu hv with ⟨_, k', m, n, rfl, rfl, rfl⟩ | ⟨h0, _⟩
        · exact run_equalIn_int w D t k' k m n hk
        · cases h0
      · rename_i hk
        injection h with h
        subst h
        simp only [List.cons.injEq, Prod.mk.injEq, and_true, true_and] at hpl
        subst hpl
        rcases eqCell_rel hxy hu hv with ⟨h0, _⟩ | ⟨_, m, n, rfl, rfl, rfl⟩
        · cases h0
        · exact run_equalIn_string w D t m n hk
      · rename_i fs hfs
        exact absurd hfs (hns fs)
      · cases h
    · rw [hfs] at h
      simp only at h
      split at h
      · cases h
      · rename_i hst
        have hfo : P.fieldsOf t = fs := by simp [Program.fieldsOf, hfs]
        rw [run_equalIn_struct w D t _ _ (by rw [hfo]; exact hfs) (by simpa using hst), hfo]
        clear hfs hfo hst
        revert h heq
        generalize fs.toList = l
        induction l generalizing plan b w with
        | nil =>
          intro heq h
          injection h with h
          subst h
          injection heq with heq
          subst heq
          simp [Op.eqFields]
        | cons f l ihl =>
          intro heq h
          simp only [List.foldr_cons] at h
          split at h
          · cases h
          · rename_i rest hrest
            split at h
            · cases h
            · rename_i hname
              split at h
              · rename_i m ag n hm hag hn
                split at h
                · rename_i hall
                  injection h with h
                  subst h
                  obtain ⟨c1, c2, h1, h2, rfl⟩ := eqCells_append _ _ _ _ heq
                  have ih2 := fun w => ihl rest w h2 hrest
                  have hall' : ∀ i ∈ m, i.1 < n := by simpa using hall
                  have hpart : ∀ w, ((part f.type us.toArray f.offset).run P w).andThen (fun x w1 => ((part f.type vs.toArray f.offset).run P w1).andThen fun y w2 => (Op.equalIn D f.type x y).run P w2) = .ok c1 w := by
                    intro w
                    cases hu : P.underlying f.type with
                    | none => simp [tag, hu] at hag
                    | some de =>
                      by_cases hs : ∃ fs, de = .struct fs
                      · obtain ⟨fs', rfl⟩ := hs
                        rw [eqCells_shift m f.offset n hall'] at h1
                        have hag' : tag P f.type = some true := by simp [tag, hu]
                        have key := (ih f.type m hm D (by omega)).2 ⟨fs', hu⟩ h1 (hus.part f.offset n) (hvs.part f.offset n) w
                        have e : ∀ us : List Value, us.toArray.extract f.offset (f.offset + n) = ((us.drop f.offset).take n).toArray := fun us => by simp [List.extract_toArray]
                        simp only [part, Sem.run_bind, run_isAgg hag', Result.andThen_ok, if_true, run_sizeOf hn, Sem.run_pure, e]
                        exact key
                      · have hns : ∀ fs, P.underlying f.type ≠ some (.struct fs) := fun fs h => hs ⟨fs, by rw [hu] at h; injection h⟩
                        have hm1 : (∃ s, m = [(0, s)]) ∧ tag P f.type = some false := by
                          cases d with
                          | zero => cases hm
                          | succ d =>
                            simp only [eqPlan, hu] at hm
                            cases de <;> first
                              | (injection hm with hm; exact ⟨⟨_, hm.symm⟩, by simp [tag, hu]⟩)
                              | (exact absurd ⟨_, rfl⟩ hs)
                              | (cases hm; done)
                        obtain ⟨⟨s, rfl⟩, htag⟩ := hm1
                        simp only [List.map_cons, List.map_nil, Nat.zero_add, eqCells] at h1
                        split at h1
                        · rename_i x y hx hy
                          split at h1
                          · rename_i c d' hc hd
                            injection h1 with h1
                            injection hd with hd
                            subst hd
                            simp only [Bool.and_true] at h1
                            subst h1
                            have hxl : f.offset < us.length := by rw [← hus.1]; exact (List.getElem?_eq_some_iff.1 hx).1
                            have hyl : f.offset < vs.length := by rw [← hvs.1]; exact (List.getElem?_eq_some_iff.1 hy).1
                            have key := (ih f.type [(0, s)] hm D (by omega)).1 rfl hns hc (hus.2 _ _ _ hx (List.getElem?_eq_getElem hxl)) (hvs.2 _ _ _ hy (List.getElem?_eq_getElem hyl)) w
                            have e : ∀ (us : List Value) (h : f.offset < us.length), us.toArray[f.offset]? = some us[f.offset] := fun us h => by simp [h]
                            simp only [part, Sem.run_bind, run_isAgg htag, Result.andThen_ok, Bool.false_eq_true, if_false, e us hxl, e vs hyl, Sem.run_pure]
                            exact key
                          · cases h1
                        · cases h1
                  have hp := hpart w
                  simp only [Op.eqFields, Sem.run_bind, Sem.run_ite]
                  rw [if_pos (by simpa using hname)]
                  generalize (part f.type us.toArray f.offset).run P w = r1 at hp ⊢
                  cases r1 with
                  | ok a w1 =>
                    simp only [Result.andThen_ok] at hp ⊢
                    generalize (part f.type vs.toArray f.offset).run P w1 = r2 at hp ⊢
                    cases r2 with
                    | ok b w2 =>
                      simp only [Result.andThen_ok] at hp ⊢
                      rw [hp]
                      simp only [Result.andThen_ok]
                      cases c1 with
                      | true => simpa using ih2 w
                      | false => simp
                    | halt x w2 => cases hp
                  | halt x w1 => cases hp
                · cases h
              · cases h

/-- A pointer's cells, all of them. -/
theorem load_rel {X : Nat → Prop} {io : Nat → Option (Option Nat)} {μ : Mu} {w : World} (hM : Mem X io μ w) {ag : Bool} {n : Nat} {p x : AV} (h : loadAV μ ag n p = some x) {u : Value} (hr : Rel (envOf X io μ w) p u) :
    ∃ (k o : Nat) (us : List Value), u = .pointer (some ⟨k, o, none⟩) ∧ us.length = n ∧ (∀ j v, us[j]? = some v → w.cell? ⟨k, o + j, none⟩ = some v) ∧ (∀ v ∈ us, v.oneCell' = true) ∧
      ∃ cs, mkAV ag cs = some x ∧ Rels (envOf X io μ w) cs us := by
  cases p with
  | ipt cs =>
    simp only [loadAV] at h
    split at h
    · rename_i hn
      cases hr with
      | ipt _ k o f him hc hrel =>
        refine ⟨k, o, (List.range n).map f, rfl, by simp, fun j v hv => ?_, fun v hv => ?_, cs.take n, h, ⟨by simp; omega, fun j y v hy hv => ?_⟩⟩
        · have hj : j < n := by have := (List.getElem?_eq_some_iff.1 hv).1; simpa using this
          have : v = f j := by simp [hj] at hv; exact hv.symm
          rw [this]; exact (hc j (by omega)).1
        · obtain ⟨j, hj, rfl⟩ := List.mem_map.1 hv
          exact (hc j (by have := List.mem_range.1 hj; omega)).2
        · have hj : j < n := by have := (List.getElem?_eq_some_iff.1 hv).1; simpa using this
          have : v = f j := by simp [hj] at hv; exact hv.symm
          rw [this]
          rw [List.getElem?_take, if_pos hj] at hy
          exact hrel j y hy
    · cases h
  | pt b sz i o =>
    simp only [loadAV] at h
    split at h
    · rename_i blk hb
      split at h
      · rename_i r hri
        split at h
        · rename_i hc
          obtain ⟨hs, hle⟩ := hc
          subst hs
          obtain ⟨hl, hmx, hk⟩ := hM.ok b blk hb
          cases hr with
          | pt _ _ _ _ k hio =>
            rcases hk with ⟨h1, h2⟩ | ⟨p, cur, h1, h2, h3, _, h4⟩
            · rw [h2] at hri; cases hri
            · have e1 : k = p := by have := hio.symm.trans h1; simpa using this
              subst e1
              have gv : ∀ j, ∃ u : Value, j < n → cur[i * blk.sz + (o + j)]? = some u ∧ u.oneCell' = true ∧ ∀ x, r[o + j]? = some x → Rel (envOf X io μ w) x u := fun j => by
                by_cases hj : j < n
                · have hlt : o + j < r.length := by omega
                  obtain ⟨u, hu, hu1, hur⟩ := h4 i (o + j) r[o + j] (by simp [cellAt, hri, hlt])
                  exact ⟨u, fun _ => ⟨hu, hu1, fun x hx => by rw [List.getElem?_eq_getElem hlt] at hx; injection hx with hx; subst hx; exact hur⟩⟩
                · exact ⟨.bool true, fun h => absurd h hj⟩
              obtain ⟨F, cs⟩ := Classical.axiomOfChoice gv
              have hF : ∀ j v, ((List.range n).map F)[j]? = some v → j < n ∧ v = F j := fun j v hv => by
                have hj : j < n := by have := (List.getElem?_eq_some_iff.1 hv).1; simpa using this
                rw [List.getElem?_map, List.getElem?_range hj] at hv
                exact ⟨hj, (Option.some.inj hv).symm⟩
              refine ⟨k, i * blk.sz + o, (List.range n).map F, rfl, by simp, fun j v hv => ?_, fun v hv => ?_, (r.drop o).take n, h, ⟨by simp; omega, fun j y v hy hv => ?_⟩⟩
              · obtain ⟨hj, rfl⟩ := hF j v hv
                rw [Nat.add_assoc]
                rw [cell_of_row w k _ cur blk.ty (0, 0) h2]
                exact (cs j hj).1
              · obtain ⟨j, hj, rfl⟩ := List.mem_map.1 hv
                exact (cs j (List.mem_range.1 hj)).2.1
              · obtain ⟨hj, rfl⟩ := hF j v hv
                rw [List.getElem?_take, if_pos hj, List.getElem?_drop] at hy
                exact (cs j hj).2.2 y hy
        · cases h
      · cases h
    · cases h
  | _ => simp [loadAV] at h

/-- A variable, loaded. -/
theorem run_load_rel {X : Nat → Prop} {io : Nat → Option (Option Nat)} {μ : Mu} {w : World} (hM : Mem X io μ w) {t : Nat} {ag : Bool} {n : Nat} (hag : tag P t = some ag) (hn : tsz P t = some n) (h1 : ag = true ∨ n = 1) {p x : AV} (h : loadAV μ ag n p = some x)
    {u : Value} (hr : Rel (envOf X io μ w) p u) : ∃ a v, u = .pointer (some a) ∧ (loadVar t a).run P w = .ok v w ∧ Rel (envOf X io μ w) x v := by
  obtain ⟨k, o, us, rfl, hl, hc, hone, cs, hmk, hrel⟩ := load_rel hM h hr
  obtain ⟨v, hv, hv1, hv2⟩ := mk_rel hmk hrel hone
  refine ⟨_, v, rfl, ?_, hv⟩
  cases ag with
  | true =>
    have hld := run_loadCells_list (P := P) w ⟨k, o, none⟩ us (fun j v hjv => by rw [add_lit]; exact hc j v hjv)
    rw [hl] at hld
    simp [loadVar, run_isAgg hag, run_sizeOf hn, hld, hv1 rfl]
  | false =>
    have hus := hv2 rfl
    have h0 := hc 0 v (by rw [hus]; rfl)
    simp only [Nat.add_zero] at h0
    simp [loadVar, run_isAgg hag, h0]

theorem run_equalIn_nil (d t e n c : Nat) (A : Option Addr) (hu : P.underlying t = some (.slice e)) (w : World) : (Op.equalIn (d + 1) t (.slice A n c) (.slice none 0 0)).run P w = .ok A.isNone w := by
  cases A <;> simp [Op.equalIn, run_underlying hu]
theorem run_eql_nil' (t e n c : Nat) (A : Option Addr) (hu : P.underlying t = some (.slice e)) (w : World) : (binOp .eql t (.slice A n c) (.slice none 0 0)).run P w = .ok (.bool A.isNone) w := by
  simp only [binOp, Op.equal, Op.maxDepth, Sem.run_bind, run_equalIn_nil 9999 t e n c A hu w, Result.andThen_ok, Sem.run_pure]
theorem run_neq_nil' (t e n c : Nat) (A : Option Addr) (hu : P.underlying t = some (.slice e)) (w : World) : (binOp .neq t (.slice A n c) (.slice none 0 0)).run P w = .ok (.bool (!A.isNone)) w := by
  simp only [binOp, Op.equal, Op.maxDepth, Sem.run_bind, run_equalIn_nil 9999 t e n c A hu w, Result.andThen_ok, Sem.run_pure]
theorem run_eqGuard_slice (op : BinOp) (t : TypeId) (x y : Operand) (A B : Option Addr) (n c n' c' : Nat) (w : World) : (eqGuard op t x y (.slice A n c) (.slice B n' c')).run P w = .ok () w := by
  simp only [eqGuard]
  cases op <;> simp

section
variable {X : Nat → Prop} {N : Nat} {io : Nat → Option (Option Nat)} {μ : Mu} {w : World} {a : Act} {g : Nat → AV} (hM : Mem X io μ w) (hg : ∀ t, Rel (envOf X io μ w) (g t) (a.tmps.getD t undef))
include hM hg

theorem ok_load {o : Oper} (t n : Nat) (ag : Bool) (x : Operand) (ho : o.op = .load t x) (hag : tag P t = some ag) (hn : tsz P t = some n) (h1 : ag = true ∨ n = 1)
    {r : AV} {wr : Wr} (h : evalCO g μ N (.load ag n x) = some (r, wr)) : OpOK P X N io μ w a o r wr := by
  simp only [evalCO] at h
  obtain ⟨h2, rfl⟩ := pureR_inv h
  obtain ⟨ad, v, hv, hrun, hrel⟩ := run_load_rel (P := P) hM hag hn h1 h2 (ev_rel hg x)
  exact OpOK.pure hM (v := v) (by simp [execOp, ho, hv, Instr.loadAt, Instr.sureAddr, hrun]) hrel

theorem ok_eqs {o : Oper} (op : BinOp) (neg : Bool) (t t' : Nat) (fs : Array Field) (plan : List (Nat × Bool)) (x y : Operand) (ho : o.op = .binOp op t x y t') (hop : op = .eql ∧ neg = false ∨ op = .neq ∧ neg = true) (hu : P.underlying t = some (.struct fs))
    (hp : eqPlan P 4 t = some plan) (hgd : P.eqGuardType P.depth t = false) {r : AV} {wr : Wr} (h : evalCO g μ N (.eqs neg plan x y) = some (r, wr)) : OpOK P X N io μ w a o r wr := by
  simp only [evalCO] at h
  split at h
  · rename_i xs ys hx hy
    obtain ⟨v, h2, rfl, rfl⟩ := pureV_inv h
    obtain ⟨b, hb, h2⟩ := Option.map_eq_some_iff.1 h2
    subst h2
    have hxr := hx ▸ ev_rel hg x
    have hyr := hy ▸ ev_rel hg y
    generalize hxv : a.eval x = u at hxr
    generalize hyv : a.eval y = u' at hyr
    cases hxr with
    | agg _ us hl h1 hrel =>
      cases hyr with
      | agg _ vs hl' h1' hrel' =>
        have key := (run_eqPlan (P := P) 4 t plan hp 10000 (by omega)).2 ⟨fs, hu⟩ hb ⟨hl, hrel⟩ ⟨hl', hrel'⟩ w
        have hgu := run_eqGuard_agg (P := P) w op t x y us.toArray vs.toArray hgd
        refine OpOK.pure hM (v := .bool (if neg = true then !b else b)) ?_ (.v _)
        rcases hop with ⟨rfl, rfl⟩ | ⟨rfl, rfl⟩
        · simp [execOp, ho, hxv, hyv, hgu, run_eql_struct, key]
        · simp [execOp, ho, hxv, hyv, hgu, run_neq_struct, key]
  · cases h

omit hM hg in
theorem run_eqGuard_bool (op : BinOp) (t : TypeId) (x y : Operand) (m n : Bool) (w : World) : (eqGuard op t x y (.bool m) (.bool n)).run P w = .ok () w := by
  simp only [eqGuard]
  cases op <;> simp

theorem ok_beq {o : Oper} (op : BinOp) (neg : Bool) (t t' : Nat) (x y : Operand) (ho : o.op = .binOp op t x y t') (hop : op = .eql ∧ neg = false ∨ op = .neq ∧ neg = true) (hu : P.underlying t = some .bool)
    {r : AV} {wr : Wr} (h : evalCO g μ N (.beq neg x y) = some (r, wr)) : OpOK P X N io μ w a o r wr := by
  simp only [evalCO] at h
  split at h
  · rename_i m n hx hy
    obtain ⟨v, h2, rfl, rfl⟩ := pureV_inv h
    injection h2 with h2
    subst h2
    have hvx := rel_v (hx ▸ ev_rel hg x)
    have hvy := rel_v (hy ▸ ev_rel hg y)
    refine OpOK.pure hM (v := .bool (if neg = true then !(m == n) else m == n)) ?_ (.v _)
    rcases hop with ⟨rfl, rfl⟩ | ⟨rfl, rfl⟩
    · simp [execOp, ho, hvx, hvy, run_eqGuard_bool, run_eql_bool w t m n hu]
    · simp [execOp, ho, hvx, hvy, run_eqGuard_bool, run_neq_bool w t m n hu]
  · cases h

theorem ok_nilcmp {o : Oper} (op : BinOp) (neg : Bool) (t t' e : Nat) (x y : Operand) (ho : o.op = .binOp op t x y t') (hop : op = .eql ∧ neg = false ∨ op = .neq ∧ neg = true) (hu : P.underlying t = some (.slice e)) (hy : isNilSlice y = true)
    {r : AV} {wr : Wr} (h : evalCO g μ N (.nilcmp neg x) = some (r, wr)) : OpOK P X N io μ w a o r wr := by
  simp only [evalCO] at h
  obtain ⟨v, h2, rfl, rfl⟩ := pureV_inv h
  obtain ⟨b, hb, h2⟩ := Option.map_eq_some_iff.1 h2
  subst h2
  have hyv : a.eval y = .slice none 0 0 := by
    unfold isNilSlice at hy
    split at hy
    · rfl
    · cases hy
  have hxr := ev_rel hg x
  have hxv : ∃ A n c, a.eval x = .slice A n c ∧ b = A.isNone := by
    generalize a.eval x = u at hxr
    generalize ev g x = p at hxr hb
    unfold nilAV at hb
    split at hb
    · injection hb with hb
      subst hb
      have := rel_v hxr
      subst this
      exact ⟨_, _, _, rfl, rfl⟩
    · injection hb with hb
      subst hb
      cases hxr with
      | row _ _ _ _ k c A cur ty hk hA _ _ hl _ =>
        obtain rfl := hA (by omega)
        exact ⟨_, _, _, rfl, rfl⟩
    · injection hb with hb
      subst hb
      cases hxr with
      | sl => exact ⟨_, _, _, rfl, rfl⟩
    · cases hb
  obtain ⟨A, n, c, hxv, rfl⟩ := hxv
  refine OpOK.pure hM (v := .bool (if neg = true then !A.isNone else A.isNone)) ?_ (.v _)
  rcases hop with ⟨rfl, rfl⟩ | ⟨rfl, rfl⟩
  · simp [execOp, ho, hxv, hyv, run_eqGuard_slice, run_eql_nil' t e n c A hu]
  · simp [execOp, ho, hxv, hyv, run_eqGuard_slice, run_neq_nil' t e n c A hu]
end

end Go.Proofs.Ytneoeegpceompaa.AM
