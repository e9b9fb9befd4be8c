/-
The walk, part 1: accounts: checking and finding.
-/
import Derived.Test.YtneoeegpceompaaC1
import Derived.Test.YtneoeegpceompaaC2
import Derived.Test.YtneoeegpceompaaC3
import Derived.Test.YtneoeegpceompaaD
set_option linter.unusedVariables false
set_option linter.unusedSimpArgs false
namespace Go.Proofs.Ytneoeegpceompaa.AM
open Go Go.Proofs Go.Proofs.Ytneoeegpceompaa.Pl

abbrev aI (n : Int) : AV := .v (.int .i64 n)
abbrev aB (b : Bool) : AV := .v (.bool b)
def cA (a : Acct) : List AV := [.v (.int .i64 a.id), .v (.int .i64 a.bal), .v (.int .i64 a.seq)]
def cL (a : Line) : List AV := [.v (.int .i64 a.acc), .v (.string a.asset.code), .v (.int .i64 a.asset.issuer), .v (.int .i64 a.bal), .v (.int .i64 a.lim)]
def cO (a : Offer) : List AV := [.v (.int .i64 a.id), .v (.int .i64 a.seller), .v (.string a.sell.code), .v (.int .i64 a.sell.issuer), .v (.string a.buy.code), .v (.int .i64 a.buy.issuer), .v (.int .i64 a.amount), .v (.int .i64 a.num), .v (.int .i64 a.den)]
def cI (n : Int) : List AV := [.v (.int .i64 n)]
abbrev sA (l : List Acct) : AV := .sl 3 (l.map cA)
abbrev sL (l : List Line) : AV := .sl 5 (l.map cL)
abbrev sO (l : List Offer) : AV := .sl 9 (l.map cO)
abbrev sI (l : List Int) : AV := .sl 1 (l.map cI)

section
variable {i len : Nat} {x y z u v w p : Int} {c c' : ByteArray} {K : List (List AV) → Prop} {K1 K2 : Nat → List (List AV) → Prop}
theorem Se.acct {l : List Acct} (k : K ((l.set i ⟨x, y, z⟩).map cA)) : Se (l.map cA) i [aI x, aI y, aI z] K := .map (a := (⟨x, y, z⟩ : Acct)) rfl k
theorem Se.line {l : List Line} (k : K ((l.set i ⟨x, ⟨c, y⟩, z, u⟩).map cL)) : Se (l.map cL) i [aI x, .v (.string c), aI y, aI z, aI u] K := .map (a := (⟨x, ⟨c, y⟩, z, u⟩ : Line)) rfl k
theorem Se.offer {l : List Offer} (k : K ((l.set i ⟨x, y, ⟨c, z⟩, ⟨c', u⟩, v, w, p⟩).map cO)) : Se (l.map cO) i [aI x, aI y, .v (.string c), aI z, .v (.string c'), aI u, aI v, aI w, aI p] K := .map (a := (⟨x, y, ⟨c, z⟩, ⟨c', u⟩, v, w, p⟩ : Offer)) rfl k
theorem Ap.acct1 (k : K1 1 ([(⟨x, y, z⟩ : Acct)].map cA)) : Ap [] 0 0 [[aI x, aI y, aI z]] K1 K2 := .one (a := (⟨x, y, z⟩ : Acct)) rfl k
theorem Ap.line1 (k : K1 1 ([(⟨x, ⟨c, y⟩, z, u⟩ : Line)].map cL)) : Ap [] 0 0 [[aI x, .v (.string c), aI y, aI z, aI u]] K1 K2 := .one (a := (⟨x, ⟨c, y⟩, z, u⟩ : Line)) rfl k
theorem Ap.offer1 (k : K1 1 ([(⟨x, y, ⟨c, z⟩, ⟨c', u⟩, v, w, p⟩ : Offer)].map cO)) : Ap [] 0 0 [[aI x, aI y, .v (.string c), aI z, .v (.string c'), aI u, aI v, aI w, aI p]] K1 K2 := .one (a := (⟨x, y, ⟨c, z⟩, ⟨c', u⟩, v, w, p⟩ : Offer)) rfl k
theorem Ap.acct {l : List Acct} (hl : len = l.length) (hb : len + 1 ≤ 1000000) (k : K1 (len + 1) ((l ++ [(⟨x, y, z⟩ : Acct)]).map cA)) : Ap (l.map cA) 0 len [[aI x, aI y, aI z]] K1 K2 := .mapr (a := (⟨x, y, z⟩ : Acct)) rfl hl hb k
theorem Ap.line {l : List Line} (hl : len = l.length) (hb : len + 1 ≤ 1000000) (k : K1 (len + 1) ((l ++ [(⟨x, ⟨c, y⟩, z, u⟩ : Line)]).map cL)) : Ap (l.map cL) 0 len [[aI x, .v (.string c), aI y, aI z, aI u]] K1 K2 := .mapr (a := (⟨x, ⟨c, y⟩, z, u⟩ : Line)) rfl hl hb k
theorem Ap.offer {l : List Offer} (hl : len = l.length) (hb : len + 1 ≤ 1000000) (k : K1 (len + 1) ((l ++ [(⟨x, y, ⟨c, z⟩, ⟨c', u⟩, v, w, p⟩ : Offer)]).map cO)) : Ap (l.map cO) 0 len [[aI x, aI y, .v (.string c), aI z, .v (.string c'), aI u, aI v, aI w, aI p]] K1 K2 := .mapr (a := (⟨x, y, ⟨c, z⟩, ⟨c', u⟩, v, w, p⟩ : Offer)) rfl hl hb k
theorem Ap.ints {l : List Int} (hl : len = l.length) (hb : len + 1 ≤ 1000000) (k : K1 (len + 1) ((l ++ [x]).map cI)) : Ap (l.map cI) 0 len [[aI x]] K1 K2 := .mapr (a := x) rfl hl hb k
theorem Ap.ints1 (k : K1 1 ([x].map cI)) : Ap [] 0 0 [[aI x]] K1 K2 := .one (a := x) rfl k
end

/-! ### The walk, step by step: what each step asks is found by itself -/
/-- Two ways on. -/
structure Tw (p A q B : Prop) : Prop where
  a : p → A
  b : q → B
theorem Y.ne {G : Prop} (h : G := by first | (refine nm_ne ?_; decide) | (apply nm_ext; assumption; omega) | (refine Ne.symm ?_; apply nm_ext; assumption; omega) | (refine nm_ne' ?_ ?_ ?_ <;> decide) | assumption | (refine nm_lt2 ?_; assumption) | (refine nm_gt2 ?_; assumption) | fail) : G := h
theorem Y.lk {G : Prop} (h : G := by ((repeat' (first | exact rfl | ((conv => whnf); (with_reducible (refine Lk.id ?_; first | refine Lk.here ?_ | (refine Lk.next ?_ ?_; exact Y.ne) | (refine Lk.del ?_ ?_; exact Y.ne) | fail))) | fail)); (first | done | fail))) : G := h
theorem Y.lr {G : Prop} (h : G := by ((repeat' (first | exact ⟨rfl, by first | assumption | omega | (simp; omega) | fail, by first | assumption | omega | (simp [roomB]; omega) | fail⟩ | ((conv => whnf); (with_reducible (refine Lk.id ?_; first | refine Lk.here ?_ | (refine Lk.next ?_ ?_; exact Y.ne) | (refine Lk.del ?_ ?_; exact Y.ne) | fail))) | fail)); (first | done | fail))) : G := h
theorem Y.vt {G : Prop} (h : G := by ((repeat' (first | exact VLs2.nil | exact VLs1.nil | exact ⟨rfl, rfl, rfl⟩ | exact ⟨rfl, rfl⟩ | exact ⟨rfl, by first | rfl | (simp; done) | (simp; omega), by first | rfl | (simp [Int.sub_eq_add_neg]; done)⟩ | with_reducible exact VL2.refl _ | with_reducible exact VL1.refl _ | ((conv => whnf); (first | (with_reducible first | refine VLs2.cons ?_ ?_ | refine VLs1.cons ?_ ?_) | exact VL2.refl _ | refine Y.row0 ?_ | refine Y.row1 ?_ | refine Y.row2 ?_ | refine Y.var0 ?_ | refine Y.var1 ?_ | refine Y.var2 ?_ | refine VL2.fn ?_ | refine VL2.agg ?_ | refine VL1.row0 ?_ | refine VL1.row1 ?_ | refine VL1.row2 ?_ | refine VL1.var0 ?_ | refine VL1.var1 ?_ | refine VL1.var2 ?_ | refine VL2.one (VL1.nil _) | refine VL1.nil _ | exact VL1.refl _ | (with_reducible (refine Lk.id ?_; first | refine Lk.here ?_ | (refine Lk.next ?_ ?_; exact Y.ne) | (refine Lk.del ?_ ?_; exact Y.ne) | fail)) | fail)) | fail)); (first | done | fail))) : G := h
theorem Y.st {C G : Prop} (k : C) (h : C → G := by intro zk; first | ((with_reducible refine Br.id ?_); (first | (with_reducible first | exact Br.tt zk | exact Br.ff zk | exact Br.not zk | (refine Br.asset_t ?_ zk; assumption) | (refine Br.asset_f ?_ zk; assumption) | exact Br.asset (Tw.a zk) (Tw.b zk) | exact Br.key (Tw.a zk) (Tw.b zk) | exact Br.str (Tw.a zk) (Tw.b zk) | exact Br.and zk | exact Br.or zk | (refine Br.de_t ?_ zk; first | assumption | omega | fail) | (refine Br.de_f ?_ zk; first | assumption | omega | fail) | (refine Br.eq_t ?_ zk; first | assumption | omega | fail) | (refine Br.eq_f ?_ zk; first | assumption | omega | fail) | (refine Br.ne_t ?_ zk; first | assumption | omega | fail) | (refine Br.ne_f ?_ zk; first | assumption | omega | fail) | (refine Br.tt' ?_ zk; assumption) | (refine Br.ff' ?_ zk; assumption) | exact Br.dec (Tw.a zk) (Tw.b zk) | exact Br.eqi (Tw.a zk) (Tw.b zk) | exact Br.nei (Tw.a zk) (Tw.b zk) | fail) | exact Br.tt' rfl zk | exact Br.ff' rfl zk | with_reducible exact Br.mk' (Tw.a zk) (Tw.b zk) | fail)) | (with_reducible (refine Lk.id ?_; first | exact Lk.here zk | (refine Lk.next ?_ zk; exact Y.ne) | (refine Lk.del ?_ zk; exact Y.ne) | fail)) | ((with_reducible refine El.id ?_); (first | (apply El.map (k := zk); assumption) | (apply El.of (k := zk); first | rfl | assumption | fail) | fail)) | ((with_reducible refine Wp.id ?_); (with_reducible first | (refine Wp.in64 ?_ zk; omega) | exact Wp.any zk | fail)) | ((with_reducible refine Se.id ?_); (first | with_reducible exact Se.one zk | exact Se.acct zk | exact Se.line zk | exact Se.offer zk | fail)) | ((with_reducible refine Ap.id ?_); (first | (refine Ap.nil ?_ zk; omega) | exact Ap.acct1 zk | exact Ap.line1 zk | exact Ap.offer1 zk | (refine Ap.acct ?_ ?_ zk <;> first | rfl | assumption | omega | fail) | (refine Ap.line ?_ ?_ zk <;> first | rfl | assumption | omega | fail) | (refine Ap.offer ?_ ?_ zk <;> first | rfl | assumption | omega | fail) | (refine Ap.map ?_ ?_ zk <;> first | rfl | assumption | omega | fail) | exact Ap.end_ (by first | rfl | simp) (by first | omega | simp) (by rfl) (by rfl) zk | fail)) | ((with_reducible refine Ln.id ?_); (with_reducible first | exact Ln.map zk | exact Ln.any zk | fail)) | ((with_reducible refine Sb.id ?_); (first | with_reducible exact Sb.one zk | (refine Sb.allm ?_ zk; first | rfl | assumption | (simp; omega) | fail) | (refine Sb.all ?_ zk; first | rfl | assumption | (simp; omega) | fail) | fail)) | (with_reducible (refine Y.o0 ?_; refine Ob.mk ?_ zk; first | omega | rfl | assumption | exact Y.ne | (simp; done) | (simp; omega) | fail)) | ((with_reducible refine Rs.id ?_); (first | (refine Rs.in_ ?_ zk; first | omega | assumption | (simp; omega) | fail) | (refine Rs.ext ?_ ?_ zk; omega; exact Y.lr) | fail)) | (apply Sx.nat (k := zk); assumption) | (with_reducible (refine Y.r0 ?_; first | exact Rn.same zk | (refine Rn.other ?_ zk; exact Y.ne) | fail)) | with_reducible exact RetS.of zk | with_reducible exact Es.mk zk | with_reducible exact Sc.mk zk | fail) : G := h k
section
variable {P : Program} {N k : Nat} {args args' : List AV} {M : List (Nat × Blk)} {K : Cx} {v : AV} {b c c2 c3 : Nat} {blk blk' kc kc2 kc3 : Blk}
theorem Y.pu (hS : FS P N k args [] v []) (zk : K v M [] (args.flatMap blks)) : Cl P N k args M K := .pure hS zk
theorem Y.view (hS : FS P N k args' [] v []) (hv : VLs2 (getM M) args args') (zk : K v M [] (args.flatMap blks)) : Cl P N k args M K := .view hv hS zk
theorem Y.new (hS : FS P N k args [] v [(N, some blk)]) (zk : K v ((N, blk) :: M) [(N, some blk)] (args.flatMap blks)) : Cl P N k args M K := .new0 hS zk
theorem Y.upd (hS : FS P N k args [(b, blk)] v [(b, some blk')]) (hb : Lk M b (fun k' => k' = blk)) (zk : K v ((b, blk') :: M) [(b, some blk')] (b :: args.flatMap blks)) : Cl P N k args M K := .upd0 hb hS zk
theorem Y.del (hS : FS P N k args [(b, blk)] v [(b, none)]) (hb : Lk M b (fun k' => k' = blk)) (zk : K v (delM M b) [(b, none)] (b :: args.flatMap blks)) : Cl P N k args M K := .del hb hS zk
theorem Y.del2 (hS : FS P N k args [(b, blk), (c, kc)] v [(b, none), (c, none)]) (hb : Lk M b (fun k' => k' = blk)) (hc : Lk M c (fun k' => k' = kc)) (zk : K v (delM (delM M b) c) [(b, none), (c, none)] ([b, c] ++ args.flatMap blks)) : Cl P N k args M K := .del2 hS hb hc zk
theorem Y.ext2 {y : Value} (hS : XSpec P k args [(b, blk), (c, kc)] y) (hb : Lk M b (fun k' => k' = blk)) (hc : Lk M c (fun k' => k' = kc)) (zk : K (.v y) M [] ([b, c] ++ args.flatMap blks)) : Cl P N k args M K := .ext2 hS hb hc zk
theorem Y.fz1 (hS : FS P N k args' [] v []) (hv : VLs2 (fzM M [c]) args args') (hc : Lk M c (fun k' => k' = kc)) (zk : K v ((c, { kc with mu := false }) :: M) (frzW (getM M) [c]) ([c] ++ args.flatMap blks)) : Cl P N k args M K := .fz1 hS hv hc zk
theorem Y.fz2 (hS : FS P N k args' [] v []) (hv : VLs2 (fzM M [c, c2]) args args') (hc : Lk M c (fun k' => k' = kc)) (hc2 : Lk M c2 (fun k' => k' = kc2)) (zk : K v ((c, { kc with mu := false }) :: (c2, { kc2 with mu := false }) :: M) (frzW (getM M) [c, c2]) ([c, c2] ++ args.flatMap blks)) : Cl P N k args M K := .fz2 hS hv hc hc2 zk
theorem Y.fz3 (hS : FS P N k args' [] v []) (hv : VLs2 (fzM M [c, c2, c3]) args args') (hc : Lk M c (fun k' => k' = kc)) (hc2 : Lk M c2 (fun k' => k' = kc2)) (hc3 : Lk M c3 (fun k' => k' = kc3)) (zk : K v ((c, { kc with mu := false }) :: (c2, { kc2 with mu := false }) :: (c3, { kc3 with mu := false }) :: M) (frzW (getM M) [c, c2, c3]) ([c, c2, c3] ++ args.flatMap blks)) : Cl P N k args M K := .fz3 hS hv hc hc2 hc3 zk
theorem Y.fz1u (hS : FS P N k args' [(b, blk)] v [(b, some blk')]) (hv : VLs2 (fzM M [c]) args args') (hc : Lk M c (fun k' => k' = kc)) (hb : Lk M b (fun k' => k' = blk)) (hn : b ≠ c) (zk : K v ((b, blk') :: (c, { kc with mu := false }) :: M) (frzW (getM M) [c] ++ [(b, some blk')]) ([c] ++ (b :: args.flatMap blks))) : Cl P N k args M K := .fz1u hS hv hc hb hn zk
theorem Y.fz1w (hS : FS P N k args' [(b, blk)] v [(b, some blk')]) (hv : VLs2 (fzM M [c]) args args') (hc : Lk M c (fun k' => k' = kc)) (hb : Lk M b (fun k' => k' = blk)) (hn : b ≠ c) (zk : K v ((b, blk') :: (c, { kc with mu := false }) :: M) [(c, some { kc with mu := false }), (b, some blk')] ([c] ++ (b :: args.flatMap blks))) : Cl P N k args M K := .fz1w hS hv hc hb hn zk
theorem Y.fz1x (hS : FS P N k args' [] v []) (hv : VLs2 (fzM M [c]) args args') (hc : Lk M c (fun k' => k' = kc)) (zk : K v ((c, { kc with mu := false }) :: M) [(c, some { kc with mu := false })] ([c] ++ args.flatMap blks)) : Cl P N k args M K := .fz1x hS hv hc zk
theorem Y.fz2w (hS : FS P N k args' [] v []) (hv : VLs2 (fzM M [c, c2]) args args') (hc : Lk M c (fun k' => k' = kc)) (hc2 : Lk M c2 (fun k' => k' = kc2)) (hn : c2 ≠ c) (zk : K v ((c, { kc with mu := false }) :: (c2, { kc2 with mu := false }) :: M) [(c, some { kc with mu := false }), (c2, some { kc2 with mu := false })] ([c, c2] ++ args.flatMap blks)) : Cl P N k args M K := .fz2w hS hv hc hc2 hn zk
end

theorem fs_accounts_id (N : Nat) (n : Int) : FS PP N n_accounts_id [aI n] [] (aB (decide (1 ≤ n ∧ n ≤ 1000))) [] := by
  refine i_accounts_id.pure (by simp) fun D _ => ?_
  repeat' ((conv => whnf); (first | refine Y.st ?_ | refine Tw.mk (fun _ => ?_) (fun _ => ?_) | fail))
  all_goals (refine Rt.eq ?_; simp [*])
theorem fs_amount_Valid (N : Nat) (n : Int) : FS PP N n_amount_Valid [aI n] [] (aB (validAmt n)) [] := by
  refine i_amount_Valid.pure (by simp) fun D _ => ?_
  repeat' ((conv => whnf); (first | refine Y.st ?_ | refine Tw.mk (fun _ => ?_) (fun _ => ?_) | fail))
  all_goals (refine Rt.eq ?_; simp [validAmt, *])
theorem fs_r35_Valid (N : Nat) (n : Int) : FS PP N n_r35_Valid [aI n] [] (aB (validAmt n)) [] := by
  refine i_r35_Valid.pure (by simp) fun D _ => ?_
  repeat' ((conv => whnf); (first | refine Y.st ?_ | refine Tw.mk (fun _ => ?_) (fun _ => ?_) | fail))
  all_goals (refine Rt.eq ?_; simp [validAmt, *])

theorem validAmt_t {n : Int} (h : validAmt n = true) : 0 ≤ n ∧ n ≤ 1000000000000 := by simpa [validAmt] using h
theorem validAmt_f {n : Int} (h : validAmt n = false) : ¬ (0 ≤ n ∧ n ≤ 1000000000000) := by simpa [validAmt] using h
theorem chkA_bad' {l : List Acct} (h : ¬ (20 : Int) < l.length) {k : Nat} {a : Acct} (ha : l[k]? = some a) (hb : ¬ ((1 ≤ a.id ∧ a.id ≤ 1000) ∧ (0 ≤ a.bal ∧ a.bal ≤ 1000000000000) ∧ (0 ≤ a.seq ∧ a.seq ≤ 1000000))) : chkA l = 74 :=
  chkA_bad h ha fun g => hb ((acctOk_iff a).1 (g a ha).1)

theorem fs_accounts_Check (N : Nat) (l : List Acct) : FS PP N n_accounts_Check [sA l] [] (aI (chkA l)) [] := by
  refine i_accounts_Check.pure (by simp) fun D _ => ?_
  repeat' ((conv => whnf); (first | refine Y.st ?_ | refine Tw.mk (fun _ => ?_) (fun _ => ?_) | fail))
  · refine Rt.eq ?_; rw [chkA_big ‹_›]
  · rename_i hl
    (refine Lp.go [0, 8, 9, 10] [] [] ?_; repeat' ((conv => whnf); (first | refine Y.st ?_ | intro d' hd' | fail)))
    refine l_nat D l.length (fun k => ∀ j, j < k → goodAtA l j) (fun k d => ⟨[(0, sA l), (8, sA l), (9, aI l.length), (10, aI k)], [], d, 0⟩) (fun k hk hI d hd ih => ?_) (fun j h => by omega) d' (by omega)
    by_cases hlt : k < l.length
    · obtain ⟨a, ha⟩ : ∃ a, l[k]? = some a := ⟨l[k], by simp [hlt]⟩
      by_cases hk0 : 0 < k
      · obtain ⟨p, hp⟩ : ∃ p, l[k - 1]? = some p := ⟨_, List.getElem?_eq_getElem (by omega : k - 1 < l.length)⟩
        repeat' ((conv => whnf); (first | refine El.mapi hp (by omega) ?_ | ((with_reducible refine Cl.id ?_); (first | refine Y.pu (fs_accounts_id _ _) ?_ | refine Y.pu (fs_amount_Valid _ _) ?_ | fail)) | refine Y.st ?_ | refine Tw.mk (fun _ => ?_) (fun _ => ?_) | fail))
        all_goals (try have hv := validAmt_t ‹_›)
        all_goals (try have hv := validAmt_f ‹_›)
        all_goals first
          | (refine Rt.eq ?_; rw [chkA_bad' hl ha (by omega)])
          | (refine Rt.eq ?_; rw [chkA_bad hl ha (fun g => by have := (g a ha).2 p hk0 hp; omega)])
          | ((refine Lp.go [0, 8, 9, 10] [] [] ?_; repeat' ((conv => whnf); (first | refine Y.st ?_ | intro d2 hd2 | fail)))
             refine ih hlt (fun j hj => ?_) d2 (by omega)
             by_cases e : j = k
             · subst e
               intro b hb
               rw [ha] at hb; injection hb with hb; subst hb
               refine ⟨(acctOk_iff a).2 (by omega), fun q _ hq => ?_⟩
               rw [hp] at hq; injection hq with hq; subst hq
               omega
             · exact hI j (by omega))
      · repeat' ((conv => whnf); (first | ((with_reducible refine Cl.id ?_); (first | refine Y.pu (fs_accounts_id _ _) ?_ | refine Y.pu (fs_amount_Valid _ _) ?_ | fail)) | refine Y.st ?_ | refine Tw.mk (fun _ => ?_) (fun _ => ?_) | fail))
        all_goals (try have hv := validAmt_t ‹_›)
        all_goals (try have hv := validAmt_f ‹_›)
        all_goals first
          | (refine Rt.eq ?_; rw [chkA_bad' hl ha (by omega)])
          | ((refine Lp.go [0, 8, 9, 10] [] [] ?_; repeat' ((conv => whnf); (first | refine Y.st ?_ | intro d2 hd2 | fail)))
             refine ih hlt (fun j hj => ?_) d2 (by omega)
             by_cases e : j = k
             · subst e
               intro b hb
               rw [ha] at hb; injection hb with hb; subst hb
               exact ⟨(acctOk_iff a).2 (by omega), fun q hq _ => by omega⟩
             · exact hI j (by omega))
    · repeat' ((conv => whnf); (first | refine Y.st ?_ | refine Tw.mk (fun _ => ?_) (fun _ => ?_) | fail))
      refine Rt.eq ?_
      rw [chkA_ok hl (fun j hj => hI j (by omega))]
theorem fs_r36_Check (N : Nat) (l : List Acct) : FS PP N n_r36_Check [sA l] [] (aI (chkA l)) [] := by
  refine i_r36_Check.pure (by simp) fun D _ => ?_
  repeat' ((conv => whnf); (first | refine Y.st ?_ | refine Tw.mk (fun _ => ?_) (fun _ => ?_) | fail))
  · refine Rt.eq ?_; rw [chkA_big ‹_›]
  · rename_i hl
    (refine Lp.go [0, 8, 9, 10] [] [] ?_; repeat' ((conv => whnf); (first | refine Y.st ?_ | intro d' hd' | fail)))
    refine l_nat D l.length (fun k => ∀ j, j < k → goodAtA l j) (fun k d => ⟨[(0, sA l), (8, sA l), (9, aI l.length), (10, aI k)], [], d, 0⟩) (fun k hk hI d hd ih => ?_) (fun j h => by omega) d' (by omega)
    by_cases hlt : k < l.length
    · obtain ⟨a, ha⟩ : ∃ a, l[k]? = some a := ⟨l[k], by simp [hlt]⟩
      by_cases hk0 : 0 < k
      · obtain ⟨p, hp⟩ : ∃ p, l[k - 1]? = some p := ⟨_, List.getElem?_eq_getElem (by omega : k - 1 < l.length)⟩
        repeat' ((conv => whnf); (first | refine El.mapi hp (by omega) ?_ | ((with_reducible refine Cl.id ?_); (first | refine Y.pu (fs_accounts_id _ _) ?_ | refine Y.pu (fs_r35_Valid _ _) ?_ | fail)) | refine Y.st ?_ | refine Tw.mk (fun _ => ?_) (fun _ => ?_) | fail))
        all_goals (try have hv := validAmt_t ‹_›)
        all_goals (try have hv := validAmt_f ‹_›)
        all_goals first
          | (refine Rt.eq ?_; rw [chkA_bad' hl ha (by omega)])
          | (refine Rt.eq ?_; rw [chkA_bad hl ha (fun g => by have := (g a ha).2 p hk0 hp; omega)])
          | ((refine Lp.go [0, 8, 9, 10] [] [] ?_; repeat' ((conv => whnf); (first | refine Y.st ?_ | intro d2 hd2 | fail)))
             refine ih hlt (fun j hj => ?_) d2 (by omega)
             by_cases e : j = k
             · subst e
               intro b hb
               rw [ha] at hb; injection hb with hb; subst hb
               refine ⟨(acctOk_iff a).2 (by omega), fun q _ hq => ?_⟩
               rw [hp] at hq; injection hq with hq; subst hq
               omega
             · exact hI j (by omega))
      · repeat' ((conv => whnf); (first | ((with_reducible refine Cl.id ?_); (first | refine Y.pu (fs_accounts_id _ _) ?_ | refine Y.pu (fs_r35_Valid _ _) ?_ | fail)) | refine Y.st ?_ | refine Tw.mk (fun _ => ?_) (fun _ => ?_) | fail))
        all_goals (try have hv := validAmt_t ‹_›)
        all_goals (try have hv := validAmt_f ‹_›)
        all_goals first
          | (refine Rt.eq ?_; rw [chkA_bad' hl ha (by omega)])
          | ((refine Lp.go [0, 8, 9, 10] [] [] ?_; repeat' ((conv => whnf); (first | refine Y.st ?_ | intro d2 hd2 | fail)))
             refine ih hlt (fun j hj => ?_) d2 (by omega)
             by_cases e : j = k
             · subst e
               intro b hb
               rw [ha] at hb; injection hb with hb; subst hb
               exact ⟨(acctOk_iff a).2 (by omega), fun q hq _ => by omega⟩
             · exact hI j (by omega))
    · repeat' ((conv => whnf); (first | refine Y.st ?_ | refine Tw.mk (fun _ => ?_) (fun _ => ?_) | fail))
      refine Rt.eq ?_
      rw [chkA_ok hl (fun j hj => hI j (by omega))]

/-! ### Places -/
theorem fs_r36_at (N : Nat) (l : List Acct) (i : Int) (hl : l.length ≤ 1000000) : FS PP N n_r36_at [sA l, aI i] [] (aI (placeA l i)) [] := by
  refine i_r36_at.pure (by simp) fun D _ => ?_
  repeat' ((conv => whnf); (first | refine Y.st ?_ | refine Tw.mk (fun _ => ?_) (fun _ => ?_) | fail))
  (refine Lp.go [0, 1, 7, 8, 9] [] [] ?_; repeat' ((conv => whnf); (first | refine Y.st ?_ | intro d' hd' | fail)))
  refine l_nat D l.length (fun k => ∀ j, j < k → ∀ b, l[j]? = some b → (b.id == i) = false) (fun k d => ⟨[(0, sA l), (1, aI i), (7, sA l), (8, aI l.length), (9, aI k)], [], d, 0⟩) (fun k hk hI d hd ih => ?_) (fun j h => by omega) d' (by omega)
  by_cases hlt : k < l.length
  · obtain ⟨a, ha⟩ : ∃ a, l[k]? = some a := ⟨l[k], by simp [hlt]⟩
    repeat' ((conv => whnf); (first | refine Y.st ?_ | refine Tw.mk (fun _ => ?_) (fun _ => ?_) | fail))
    · refine Rt.eq ?_
      unfold placeA
      rw [idx_hit ha (by simpa using ‹a.id = i›) hI]
    · (refine Lp.go [0, 1, 7, 8, 9] [] [] ?_; repeat' ((conv => whnf); (first | refine Y.st ?_ | intro d2 hd2 | fail)))
      refine ih hlt (fun j hj b hb => ?_) d2 (by omega)
      by_cases e : j = k
      · subst e
        rw [ha] at hb; injection hb with hb; subst hb
        simpa using ‹¬ a.id = i›
      · exact hI j (by omega) b hb
  · repeat' ((conv => whnf); (first | refine Y.st ?_ | refine Tw.mk (fun _ => ?_) (fun _ => ?_) | fail))
    refine Rt.eq ?_
    unfold placeA
    rw [idx_none fun j b hb => hI j (by have := (List.getElem?_eq_some_iff.1 hb).1; omega) b hb]
end Go.Proofs.Ytneoeegpceompaa.AM
