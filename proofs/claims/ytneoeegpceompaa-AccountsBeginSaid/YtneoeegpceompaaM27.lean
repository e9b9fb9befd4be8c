/-
The abstract machine, part 27: contracts out of contracts; lists of structs.
-/
import Derived.Test.YtneoeegpceompaaM26
namespace Go.Proofs.Ytneoeegpceompaa.AM
open Go

variable {P : Program} {nt : Nat}

/-- An empty slice, whatever it is. -/
theorem FS.sl0 {N k sz : Nat} {pre : List (Nat × Blk)} {r : AV} {post : Wr} {rest : List AV} (h : ∀ A c, FS P N k (.v (.slice A 0 c) :: rest) pre r post) : FS P N k (.sl sz [] :: rest) pre r post := by
  refine ⟨(h none 0).call, fun X io w vs D hM hargs h4 hN hD hND => ?_⟩
  obtain ⟨u, us, rfl, h1, h2⟩ := hargs.cons_inv
  have : ∃ A c, u = .slice A 0 c := by
    cases h1 with
    | sl0 _ A c => exact ⟨A, c, rfl⟩
    | sl _ _ k o c => exact ⟨_, c, rfl⟩
  obtain ⟨A, c, rfl⟩ := this
  exact (h A c).spec X io w _ D hM (.cons (.v _) h2) h4 hN hD hND

theorem StepA.sub {X A A' : Nat → Prop} {io : Nat → Option (Option Nat)} {μ : Mu} {w : World} {io' : Nat → Option (Option Nat)} {μ' : Mu} {w' : World} (h : StepA X A io μ w io' μ' w') (ha : ∀ b, A b → A' b) : StepA X A' io μ w io' μ' w' :=
  ⟨h.mem, h.ios, h.os, h.tape, h.output, h.size, h.keep, h.shape, h.own, fun b hb => h.free b fun e => hb (ha b e), h.top⟩

/-- Nil, handed back as an own row. -/
theorem FS.phantom {N k sz e : Nat} {args : List AV} {cap : Option Nat} (h : ∀ N, FS P N k args [] (.v (.slice none 0 0)) []) : FS P N k args [] (.row N sz 0 0) [(N, some ⟨true, e, sz, [], cap⟩)] := by
  refine ⟨(h 0).call, fun X io w vs D hM hargs h4 hN hD hND => ((h (nm D 0)).spec X io w vs (D + 1) hM hargs (nm4 _ _) (fun b hb => hD b ⟨D, 0, Nat.le_refl _, hb⟩) (fun b hb => hD b (hb.mono (by omega))) (by rw [gar_nm]; omega)).mono fun en w' hh => ?_⟩
  obtain ⟨v, io', he, hs, hr⟩ := hh
  have e1 : app (preMu []) ([] : Wr) = preMu [] := rfl
  rw [e1] at hs hr
  have hio : io' N = none := hs.free N (fun h => by
    rcases h with h | h
    · exact hND ⟨D, 0, Nat.le_refl _, h⟩
    · exact hND (h.mono (by omega))) (hN N (nbr_self N))
  have hst := step_phantom hs.mem hio rfl ⟨true, e, sz, [], cap⟩ rfl
  refine ⟨v, _, he, (hs.sub (fun b hb => ?_)).trans (hst.toA hs.mem (.inl (nbr_self N))), ?_⟩
  · rcases hb with h | h
    · exact .inr ⟨D, 0, Nat.le_refl _, h⟩
    · exact .inr (h.mono (by omega))
  · have := rel_v hr
    subst this
    exact .rowz _ _ _ (upd_same _ _ _)

/-! ### Lists of structs -/
section
variable {α : Type} {f : α → List AV} {l : List α} {a b : α}
theorem Se.map {i : Nat} {r : List AV} {K : List (List AV) → Prop} (he : f a = r) (k : K ((l.set i a).map f)) : Se (l.map f) i r K := ⟨by subst he; rw [← List.map_set]; exact k⟩
theorem El.mset {i j : Nat} {K : List AV → Prop} (h : l[j]? = some b) (hi : i = j) (k : K (f a)) : El ((l.set j a).map f) i K := ⟨⟨f a, by
  subst hi
  have := (List.getElem?_eq_some_iff.1 h).1
  simp [this], k⟩⟩
theorem Ap.mapr {len : Nat} {r : List AV} {K1 K2 : Nat → List (List AV) → Prop} (he : f a = r) (hl : len = l.length) (hb : len + 1 ≤ 1000000) (k : K1 (len + 1) ((l ++ [a]).map f)) : Ap (l.map f) 0 len [r] K1 K2 := by subst he; exact .map hl hb k
theorem Ap.nil {K1 K2 : Nat → List (List AV) → Prop} (hb : l.length ≤ 1000000) (k : K1 l.length (l.map f)) : Ap [] 0 0 (l.map f) K1 K2 := .end_ (n := l.length) (es' := l.map f) rfl (by simpa using hb) (by simp) rfl k
theorem Ap.one {r : List AV} {K1 K2 : Nat → List (List AV) → Prop} (he : f a = r) (k : K1 1 ([a].map f)) : Ap [] 0 0 [r] K1 K2 := .end_ (n := 1) (es' := [a].map f) rfl (by simp) (by simp) (by simp [he]) k
theorem Ap.cat {l' : List α} {len : Nat} {K1 K2 : Nat → List (List AV) → Prop} (hl : len = l.length) (hb : len + l'.length ≤ 1000000) (k : K1 (len + l'.length) ((l ++ l').map f)) : Ap (l.map f) 0 len (l'.map f) K1 K2 :=
  .end_ (n := len + l'.length) (es' := (l ++ l').map f) (by simpa using hl) (by simpa using hb) (by simp) (by simp) k
theorem Sb.map {off len : Nat} {K : List (List AV) → Prop} (h : off + len ≤ l.length) (k : K (((l.drop off).take len).map f)) : Sb (l.map f) off len K := .eq (by simpa using h) (by rw [List.map_take, List.map_drop]) k
theorem Sb.allm {len : Nat} {K : List (List AV) → Prop} (h : len = l.length) (k : K (l.map f)) : Sb (l.map f) 0 len K := .all (by simpa using h) k
end


/-! ### Views, by the place in the list of what is frozen -/
section
variable {M : List (Nat × Blk)} {b c e sz len off : Nat} {r : List Nat} {es : List (List AV)} {ro : List AV}
theorem VL1.row0 (h : Lk M b (fun k => k.sz = sz ∧ len = k.es.length ∧ k.es = es)) : VL1 (fzM M (b :: r)) (.row b sz 0 len) (.sl sz es) := .row (by simp) h
theorem VL1.row1 (h : Lk M b (fun k => k.sz = sz ∧ len = k.es.length ∧ k.es = es)) : VL1 (fzM M (c :: b :: r)) (.row b sz 0 len) (.sl sz es) := .row (by simp) h
theorem VL1.row2 (h : Lk M b (fun k => k.sz = sz ∧ len = k.es.length ∧ k.es = es)) : VL1 (fzM M (c :: e :: b :: r)) (.row b sz 0 len) (.sl sz es) := .row (by simp) h
theorem VL1.var0 (h : Lk M b (fun k => k.sz = sz ∧ k.es = [ro])) : VL1 (fzM M (b :: r)) (.pt b sz 0 0) (.ipt ro) := .var (by simp) h
theorem VL1.var1 (h : Lk M b (fun k => k.sz = sz ∧ k.es = [ro])) : VL1 (fzM M (c :: b :: r)) (.pt b sz 0 0) (.ipt ro) := .var (by simp) h
theorem VL1.var2 (h : Lk M b (fun k => k.sz = sz ∧ k.es = [ro])) : VL1 (fzM M (c :: e :: b :: r)) (.pt b sz 0 0) (.ipt ro) := .var (by simp) h
end

section
variable {N c c2 c3 : Nat} {M : List (Nat × Blk)} {cs ds : List AV} {x r : AV}
theorem Rt.vlt (hv : VLs2 (getM M) cs ds) : Rt N (fun _ => none) (.tup ds) (.tup cs) M := .vl (.tup hv)
theorem Rt.fz1t (hv : VLs2 (fzM M [c]) cs ds) : Rt N (fun _ => none) (.tup ds) (.tup cs) M := .fz [c] (.tup hv) .nil
theorem Rt.fz1v (hv : VL2 (fzM M [c]) x r) : Rt N (fun _ => none) r x M := .fz [c] (.two hv) .nil
theorem Rt.fz2t (hv : VLs2 (fzM M [c, c2]) cs ds) : Rt N (fun _ => none) (.tup ds) (.tup cs) M := .fz [c, c2] (.tup hv) .nil
theorem Rt.fz2v (hv : VL2 (fzM M [c, c2]) x r) : Rt N (fun _ => none) r x M := .fz [c, c2] (.two hv) .nil
theorem Rt.fz3t (hv : VLs2 (fzM M [c, c2, c3]) cs ds) : Rt N (fun _ => none) (.tup ds) (.tup cs) M := .fz [c, c2, c3] (.tup hv) .nil
theorem Rt.fz3v (hv : VL2 (fzM M [c, c2, c3]) x r) : Rt N (fun _ => none) r x M := .fz [c, c2, c3] (.two hv) .nil
end

/-! ### Blocks that a callee takes -/
section
variable {N k : Nat} {args args' : List AV} {M : List (Nat × Blk)} {K : Cx} {v r x : AV} {b : Nat} {blk : Blk}
theorem Cl.del (hb : Lk M b (fun k' => k' = blk)) (hS : FS P N k args [(b, blk)] v [(b, none)]) (h : K v (delM M b) [(b, none)] (b :: args.flatMap blks)) : Cl P N k args M K :=
  ⟨⟨[], [(b, blk)], [(b, none)], args, v, delM M b, VLs2.refl _, hS, fun c bk hc => by
    simp only [preMu, app, List.map_cons, List.map_nil, Go.Proofs.Ytneoeegpceompaa.AM.upd] at hc
    split at hc
    · rename_i e; subst e; rw [← hc]; exact hb.get
    · exact absurd hc (by simp), by
      funext c
      rw [getM_del]; rfl, h⟩⟩
theorem Rt.del (h : x = r) : Rt N (app (preMu [(b, blk)]) [(b, none)]) r x M :=
  ⟨⟨[], [], r, by subst h; exact .refl _, trivial, rfl, fun c bk hc => by
    simp only [preMu, app, List.map_cons, List.map_nil, Go.Proofs.Ytneoeegpceompaa.AM.upd] at hc
    split at hc
    · exact absurd hc (by simp)
    · exact absurd hc (by simp)⟩⟩
end

/-! ### The rules that the walk tries, with what each asks found by itself -/
/-- Names of two frames differ. -/
theorem nm_lt2 {d d' k j : Nat} (h : d < d') : nm d' k ≠ nm d j := fun e => by have := (nm_inj.1 e).1; omega
theorem nm_gt2 {d d' k j : Nat} (h : d < d') : nm d k ≠ nm d' j := fun e => by have := (nm_inj.1 e).1; omega
section
variable {A B : Prop}
theorem Y.o0 {a K : Prop} (h : Ob a K) : Ob a K := h
theorem Y.r0 {b' b c : Nat} {K : Nat → Prop} (h : Rn b' b c K) : Rn b' b c K := h
theorem Y.b4 {a b : ByteArray} {i j : Int} (k : A) (h : a = b ∧ i = j := by assumption) : Br (a.toList == b.toList && (i == j && true)) A B := .asset_t h k
theorem Y.b5 {a b : ByteArray} {i j : Int} (k : B) (h : ¬ (a = b ∧ i = j) := by assumption) : Br (a.toList == b.toList && (i == j && true)) A B := .asset_f h k
theorem Y.c1 {p : Prop} [Decidable p] (k : A) (h : p := by first | assumption | omega) : Br (decide p) A B := .de_t h k
theorem Y.c2 {p : Prop} [Decidable p] (k : B) (h : ¬ p := by first | assumption | omega) : Br (decide p) A B := .de_f h k
theorem Y.c3 {a b : Int} (k : A) (h : a = b := by first | assumption | omega) : Br (a == b) A B := .eq_t h k
theorem Y.c4 {a b : Int} (k : B) (h : ¬ a = b := by first | assumption | omega) : Br (a == b) A B := .eq_f h k
theorem Y.c5 {a b : Int} (k : A) (h : ¬ a = b := by first | assumption | omega) : Br (a != b) A B := .ne_t h k
theorem Y.c6 {a b : Int} (k : B) (h : a = b := by first | assumption | omega) : Br (a != b) A B := .ne_f h k
theorem Y.c7 {t : Bool} (k : A) (h : t = true := by assumption) : Br t A B := .tt' h k
theorem Y.c8 {t : Bool} (k : B) (h : t = false := by assumption) : Br t A B := .ff' h k
theorem Y.d1 {n : Int} {K : Int → Prop} (k : K n) (h : -9223372036854775808 ≤ n ∧ n ≤ 9223372036854775807 := by omega) : Wp .i64 n K := .in64 h k
theorem Y.l2 {b c : Nat} {k : Blk} {M : List (Nat × Blk)} {K : Blk → Prop} (h : Lk M b K) (hne : c ≠ b := by first | exact nm_ne (by decide) | exact nm_ext (by assumption) (by omega) | exact (nm_ext (by assumption) (by omega)).symm | exact nm_ne' (by decide) (by decide) (by decide) | assumption | exact nm_lt2 (by assumption) | exact nm_gt2 (by assumption)) : Lk ((c, k) :: M) b K := .next hne h
theorem Y.l3 {b c : Nat} {M : List (Nat × Blk)} {K : Blk → Prop} (h : Lk M b K) (hne : c ≠ b := by first | exact nm_ne (by decide) | exact nm_ext (by assumption) (by omega) | exact (nm_ext (by assumption) (by omega)).symm | exact nm_ne' (by decide) (by decide) (by decide) | assumption | exact nm_lt2 (by assumption) | exact nm_gt2 (by assumption)) : Lk (delM M c) b K := .del hne h
theorem Y.r2 {b' b c : Nat} {K : Nat → Prop} (h : K b') (hn : b' ≠ b := by first | exact nm_ne (by decide) | exact nm_ext (by assumption) (by omega) | exact (nm_ext (by assumption) (by omega)).symm | exact nm_ne' (by decide) (by decide) (by decide) | assumption | exact nm_lt2 (by assumption) | exact nm_gt2 (by assumption)) : Rn b' b c K := .other hn h
theorem Y.e1 {α : Type} {f : α → List AV} {l : List α} {i : Nat} {a : α} {K : List AV → Prop} (k : K (f a)) (h : l[i]? = some a := by assumption) : El (l.map f) i K := .map h k
theorem Y.e2 {es : List (List AV)} {i : Nat} {K : List AV → Prop} {r : List AV} (k : K r) (h : es[i]? = some r := by first | rfl | assumption) : El es i K := .of h k
theorem Y.o1 {a : Prop} {K : Prop} (k : K) (h : a := by first | omega | rfl | assumption | (first | exact nm_ne (by decide) | exact nm_ext (by assumption) (by omega) | exact (nm_ext (by assumption) (by omega)).symm | exact nm_ne' (by decide) (by decide) (by decide) | assumption | exact nm_lt2 (by assumption) | exact nm_gt2 (by assumption)) | (simp; done) | (simp; omega)) : Ob a K := .mk h k
end
section
variable {α : Type} {f : α → List AV} {l : List α} {K : List (List AV) → Prop} {es : List (List AV)} {len : Nat}
theorem Y.s2 (k : K (l.map f)) (h : len = l.length := by first | rfl | assumption | (simp; omega)) : Sb (l.map f) 0 len K := .allm h k
theorem Y.s3 (k : K es) (h : len = es.length := by first | rfl | assumption | (simp; omega)) : Sb es 0 len K := .all h k
end

section
variable {M : List (Nat × Blk)} {b c e sz len : Nat} {r : List Nat} {es : List (List AV)} {ro : List AV}
theorem Y.row0 (h : Lk M b (fun k => k.sz = sz ∧ len = k.es.length ∧ k.es = es)) : VL2 (fzM M (b :: r)) (.row b sz 0 len) (.sl sz es) := .one (.row0 h)
theorem Y.row1 (h : Lk M b (fun k => k.sz = sz ∧ len = k.es.length ∧ k.es = es)) : VL2 (fzM M (c :: b :: r)) (.row b sz 0 len) (.sl sz es) := .one (.row1 h)
theorem Y.row2 (h : Lk M b (fun k => k.sz = sz ∧ len = k.es.length ∧ k.es = es)) : VL2 (fzM M (c :: e :: b :: r)) (.row b sz 0 len) (.sl sz es) := .one (.row2 h)
theorem Y.var0 (h : Lk M b (fun k => k.sz = sz ∧ k.es = [ro])) : VL2 (fzM M (b :: r)) (.pt b sz 0 0) (.ipt ro) := .one (.var0 h)
theorem Y.var1 (h : Lk M b (fun k => k.sz = sz ∧ k.es = [ro])) : VL2 (fzM M (c :: b :: r)) (.pt b sz 0 0) (.ipt ro) := .one (.var1 h)
theorem Y.var2 (h : Lk M b (fun k => k.sz = sz ∧ k.es = [ro])) : VL2 (fzM M (c :: e :: b :: r)) (.pt b sz 0 0) (.ipt ro) := .one (.var2 h)
end

end Go.Proofs.Ytneoeegpceompaa.AM
