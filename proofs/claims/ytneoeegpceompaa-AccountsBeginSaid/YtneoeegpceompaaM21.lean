/-
The abstract machine, part 21: the rules as a walk uses them.
-/
import Derived.Test.YtneoeegpceompaaM20
namespace Go.Proofs.Ytneoeegpceompaa.AM
open Go

variable {P : Program} {nt : Nat}

theorem fs_fun {k : Nat} {fn : Func} {cc : CC} {ks : List RK} {N : Nat} {args : List AV} {pre : List (Nat × Blk)} {r : AV} {post : Wr} (hf : P.funcs[k]? = some fn) (hb : ∃ body, fn.body = some body ∧ compCode P fn.ntmps body = cc) (hname : (fn.name == "runtime.NumGoroutine") = false)
    (hts : resK P fn.results.toList = some ks) (hn : fn.ntmps = nt) (hn2 : args.length ≤ nt) (T0 : List (Nat × AV)) (hT : argT args = T0) (M0 : List (Nat × Blk)) (hM : (wrM [] (pre.map fun p => (p.1, some p.2))) = M0)
    (hs : ∀ D, N % 4 = 0 → ¬ Gar D N → (∀ b, preMu pre b ≠ none → ¬ Gar D b) → Safe P nt cc ⟨T0, M0, D, 0⟩ (RetQ N ks (app (preMu pre) post) r)) : FS P N k args pre r post := by
  obtain ⟨body, h1, h2⟩ := hb
  subst hn; subst hT; subst hM
  exact fs_of_safe hf h1 hname hts h2 hn2 hs

/-- A function without blocks of its caller's. -/
theorem fs_pure {k : Nat} {fn : Func} {cc : CC} {ks : List RK} {N : Nat} {args : List AV} {r : AV} (hf : P.funcs[k]? = some fn) (hb : ∃ body, fn.body = some body ∧ compCode P fn.ntmps body = cc) (hname : (fn.name == "runtime.NumGoroutine") = false)
    (hts : resK P fn.results.toList = some ks) (hn : fn.ntmps = nt) (hn2 : args.length ≤ nt) (T0 : List (Nat × AV)) (hT : argT args = T0)
    (hs : ∀ D, ¬ Gar D N → Safe P nt cc ⟨T0, [], D, 0⟩ (RetQ N ks (fun _ => none) r)) : FS P N k args [] r [] :=
  fs_fun hf hb hname hts hn hn2 T0 hT [] rfl fun D _ h _ => hs D h

/-- Code after code. -/
def Safes (P : Program) (nt : Nat) : List CC → St → Post → Prop
  | [], S, Q => Q .normal S
  | c :: r, S, Q => Safe P nt c S (thenQ (fun S' => Safes P nt r S' Q) Q)

variable {r : List CC} {S : St} {Q : Post}

theorem thenQ_ne {next : St → Prop} {Q : Post} {e : Exit} {S : St} (h : thenQ next Q e S) (he : e ≠ .normal) : Q e S := by
  cases e <;> first | exact absurd rfl he | exact h
theorem thenQ_of {next : St → Prop} {Q : Post} {e : Exit} {S : St} (h1 : e = .normal → next S) (h2 : e ≠ .normal → Q e S) : thenQ next Q e S := by
  cases e <;> first | exact h1 rfl | exact h2 (by simp)

theorem safe_of_safes {c : CC} (h : Safes P nt [c] S Q) : Safe P nt c S Q := Safe.mono h fun e S' hq => by
  cases e <;> exact hq

theorem s_seq {a b : CC} (h : Safes P nt (a :: b :: r) S Q) : Safes P nt (.seq a b :: r) S Q :=
  safe_seq (Safe.mono h fun e S' hq => thenQ_of (fun he => by subst he; exact hq) fun he => thenQ_of (fun h => absurd h he) fun _ => thenQ_ne hq he)

theorem s_skip (h : Safes P nt r S Q) : Safes P nt (.skip :: r) S Q := safe_skip h
theorem s_ret (h : Q .ret S) : Safes P nt (.ret :: r) S Q := safe_ret h
theorem s_exit {id : Nat} (h : Q (.exit id) S) : Safes P nt (.exit id :: r) S Q := safe_exit h

theorem s_cond {o : Operand} {x y : CC} (t : Bool) (ht : ev (getT S.T) o = .v (.bool t)) (h1 : t = true → Safes P nt (x :: r) S Q) (h2 : t = false → Safes P nt (y :: r) S Q) : Safes P nt (.cond o x y :: r) S Q := by
  refine safe_cond ht ?_
  cases t with
  | true => exact h1 rfl
  | false => exact h2 rfl

theorem s_block {id : Nat} {c : CC} (h : Safes P nt [c] S (blockQ id (thenQ (fun S' => Safes P nt r S' Q) Q))) : Safes P nt (.block id c :: r) S Q := safe_block (safe_of_safes h)

theorem s_loop {c : CC} (h : SafeL P nt c S (thenQ (fun S' => Safes P nt r S' Q) Q)) : Safes P nt (.loop c :: r) S Q := safe_loop h

/-- One round of a loop. -/
theorem l_round {c : CC} (h : Safes P nt [c] S (thenQ (fun S' => SafeL P nt c S' Q) Q)) : SafeL P nt c S Q := safeL_round (safe_of_safes h)

theorem l_round' {c c' : CC} (hc : c = c') (h : Safes P nt [c'] S (thenQ (fun S' => SafeL P nt c S' Q) Q)) : SafeL P nt c S Q := by subst hc; exact l_round h

theorem s_weak {S' : St} (hw : Weak S S') (h : Safes P nt r S' Q) (hq : r = [] → Q .normal S' → Q .normal S) : Safes P nt r S Q := by
  cases r with
  | nil => exact hq rfl h
  | cons c r => exact Safe.weak hw h

def drops : List Nat → List (Nat × Blk) → List (Nat × Blk)
  | [], M => M
  | b :: r, M => drops r (delM M b)

theorem weak_drops (bs : List Nat) : ∀ {T : List (Nat × AV)} {M : List (Nat × Blk)} {d nx : Nat}, Weak ⟨T, M, d, nx⟩ ⟨T, drops bs M, d, nx⟩ := by
  induction bs with
  | nil => intro T M d nx; exact weak_refl _
  | cons b r ih => intro T M d nx; exact weak_trans (weak_drop (S := ⟨T, M, d, nx⟩) b) ih

/-- The next round: these temporaries kept, these blocks dropped, in a new frame of names. -/
theorem l_again {x : CC} {T T' : List (Nat × AV)} {M M' : List (Nat × Blk)} {d nx : Nat} (ks bs : List Nat) (hT : keepT ks T = T') (hM : drops bs M = M') (h : ∀ d', SafeL P nt x ⟨T', M', d', 0⟩ Q) : SafeL P nt x ⟨T, M, d, nx⟩ Q := by
  subst hT; subst hM
  exact SafeL.weak (weak_trans (weak_keep (S := ⟨T, M, d, nx⟩) ks) (weak_drops bs)) (SafeL.enter fun d' _ => h d')

/-- The same for code. -/
theorem s_tidy {T T' : List (Nat × AV)} {M M' : List (Nat × Blk)} {d nx : Nat} {c : CC} (ks bs : List Nat) (hT : keepT ks T = T') (hM : drops bs M = M') (h : Safes P nt (c :: r) ⟨T', M', d, nx⟩ Q) : Safes P nt (c :: r) ⟨T, M, d, nx⟩ Q := by
  subst hT; subst hM
  exact Safe.weak (weak_trans (weak_keep (S := ⟨T, M, d, nx⟩) ks) (weak_drops bs)) h

/-- A condition that isn't known: both ways. -/
theorem s_split {p : Prop} (h1 : p → Safes P nt r S Q) (h2 : ¬ p → Safes P nt r S Q) : Safes P nt r S Q := by
  by_cases h : p
  · exact h1 h
  · exact h2 h

end Go.Proofs.Ytneoeegpceompaa.AM
