/-
Plain data and plain specifications: accounts, lines, offers, ledgers; no program in sight.
-/
set_option linter.unusedVariables false
set_option linter.unusedSimpArgs false
namespace Go.Proofs.Ytneoeegpceompaa.Pl

structure Acct where
  id : Int
  bal : Int
  seq : Int
  deriving DecidableEq, Inhabited

structure Asset where
  code : ByteArray
  issuer : Int
  deriving DecidableEq, Inhabited

structure Line where
  acc : Int
  asset : Asset
  bal : Int
  lim : Int
  deriving DecidableEq, Inhabited

structure Offer where
  id : Int
  seller : Int
  sell : Asset
  buy : Asset
  amount : Int
  num : Int
  den : Int
  deriving DecidableEq, Inhabited

structure Ledg where
  number : Int
  accts : List Acct
  lines : List Line
  offers : List Offer
  next : Int
  fees : Int
  link : Int
  deriving DecidableEq, Inhabited

/-! ### Chapter 35: amounts -/

def validAmt (n : Int) : Bool := decide (0 ≤ n ∧ n ≤ 1000000000000)
def okPrice (n d : Int) : Bool := decide ((1 ≤ n ∧ n ≤ 1000000) ∧ (1 ≤ d ∧ d ≤ 1000000))

/-! ### Lists -/

/-- The place of the first element that is so; -1 if there is none. -/
def idx {α : Type} (p : α → Bool) : List α → Int
  | [] => -1
  | x :: r => if p x then 0 else if idx p r < 0 then -1 else idx p r + 1

theorem idx_ge {α : Type} (p : α → Bool) (l : List α) : -1 ≤ idx p l ∧ idx p l < l.length := by
  induction l with
  | nil => simp [idx]
  | cons x r ih =>
    simp only [idx, List.length_cons]
    split
    · omega
    · split <;> omega

theorem idx_hit {α : Type} {p : α → Bool} {l : List α} {k : Nat} {a : α} (hk : l[k]? = some a) (ha : p a = true) (hb : ∀ j, j < k → ∀ b, l[j]? = some b → p b = false) : idx p l = k := by
  induction l generalizing k with
  | nil => simp at hk
  | cons x r ih =>
    cases k with
    | zero => simp at hk; subst hk; simp [idx, ha]
    | succ k =>
      have hx := hb 0 (by omega) x (by simp)
      have := ih (k := k) (by simpa using hk) (fun j hj b hjb => hb (j + 1) (by omega) b (by simpa using hjb))
      simp only [idx, hx, this]
      rw [if_neg (by simp), if_neg (by omega)]
      push_cast; rfl

theorem idx_none {α : Type} {p : α → Bool} {l : List α} (h : ∀ (j : Nat) (b : α), l[j]? = some b → p b = false) : idx p l = -1 := by
  induction l with
  | nil => rfl
  | cons x r ih =>
    have hx := h 0 x (by simp)
    have := ih (fun j b hb => h (j + 1) b (by simpa using hb))
    simp [idx, hx, this]

theorem idx_get {α : Type} {p : α → Bool} {l : List α} (h : 0 ≤ idx p l) : ∃ a, l[(idx p l).toNat]? = some a ∧ p a = true ∧ l.find? p = some a := by
  induction l with
  | nil => simp [idx] at h
  | cons x r ih =>
    simp only [idx] at h ⊢
    split
    · rename_i hp; exact ⟨x, by simp, hp, by simp [hp]⟩
    · rename_i hp
      rw [if_neg hp] at h
      split at h
      · omega
      · rename_i hn
        rw [if_neg hn]
        obtain ⟨a, h1, h2, h3⟩ := ih (by omega)
        refine ⟨a, ?_, h2, by simp [hp, h3]⟩
        have : (idx p r + 1).toNat = (idx p r).toNat + 1 := by omega
        rw [this]; simpa using h1

theorem idx_neg {α : Type} {p : α → Bool} {l : List α} (h : idx p l < 0) : l.find? p = none ∧ ∀ a ∈ l, p a = false := by
  induction l with
  | nil => simp
  | cons x r ih =>
    simp only [idx] at h
    split at h
    · omega
    · rename_i hp
      split at h
      · rename_i hn
        obtain ⟨h1, h2⟩ := ih hn
        simp only [Bool.not_eq_true] at hp
        refine ⟨by simp [hp, h1], fun a ha => ?_⟩
        rcases List.mem_cons.1 ha with rfl | ha
        · exact hp
        · exact h2 a ha
      · omega

/-! ### Chapter 36: accounts -/

def acctOk (a : Acct) : Bool := decide (1 ≤ a.id ∧ a.id ≤ 1000) && validAmt a.bal && decide (0 ≤ a.seq ∧ a.seq ≤ 1000000)
/-- Ascending. -/
def ascA : List Acct → Bool
  | a :: b :: r => decide (a.id < b.id) && ascA (b :: r)
  | _ => true
def goodA (l : List Acct) : Bool := l.all acctOk && ascA l
def chkA (l : List Acct) : Int := if 20 < l.length then 3 else if goodA l then 0 else 74

/-- What Check looks at, at one place. -/
def goodAtA (l : List Acct) (k : Nat) : Prop := ∀ a, l[k]? = some a → acctOk a = true ∧ ∀ p, 0 < k → l[k - 1]? = some p → p.id < a.id

theorem ascA_at (l : List Acct) : ascA l = true ↔ ∀ k a p, l[k + 1]? = some a → l[k]? = some p → p.id < a.id := by
  induction l with
  | nil => simp [ascA]
  | cons x r ih =>
    cases r with
    | nil => simp [ascA]
    | cons y r =>
      simp only [ascA, Bool.and_eq_true, decide_eq_true_eq, ih]
      constructor
      · rintro ⟨h1, h2⟩ k a p ha hp
        cases k with
        | zero => simp at ha hp; subst ha; subst hp; exact h1
        | succ k => exact h2 k a p (by simpa using ha) (by simpa using hp)
      · intro h
        exact ⟨h 0 y x (by simp) (by simp), fun k a p ha hp => h (k + 1) a p (by simpa using ha) (by simpa using hp)⟩

theorem goodA_at (l : List Acct) : goodA l = true ↔ ∀ k, goodAtA l k := by
  unfold goodA goodAtA
  rw [Bool.and_eq_true, List.all_eq_true, ascA_at]
  constructor
  · rintro ⟨h1, h2⟩ k a ha
    refine ⟨h1 a (List.mem_of_getElem? ha), fun p hk hp => h2 (k - 1) a p (by rw [Nat.sub_add_cancel hk]; exact ha) hp⟩
  · intro h
    refine ⟨fun a ha => ?_, fun k a p ha hp => (h (k + 1) a ha).2 p (by omega) (by simpa using hp)⟩
    obtain ⟨k, hk⟩ := List.mem_iff_getElem?.1 ha
    exact (h k a hk).1

theorem chkA_bad {l : List Acct} (h : ¬ (20 : Int) < l.length) {k : Nat} {a : Acct} (ha : l[k]? = some a) (hb : ¬ goodAtA l k) : chkA l = 74 := by
  unfold chkA
  rw [if_neg (by omega), if_neg (fun g => hb ((goodA_at l).1 g k))]
theorem chkA_ok {l : List Acct} (h : ¬ (20 : Int) < l.length) (hb : ∀ j, j < l.length → goodAtA l j) : chkA l = 0 := by
  unfold chkA
  rw [if_neg (by omega), if_pos ((goodA_at l).2 fun k => ?_)]
  by_cases hk : k < l.length
  · exact hb k hk
  · intro a ha; have := (List.getElem?_eq_some_iff.1 ha).1; omega
theorem chkA_big {l : List Acct} (h : (20 : Int) < l.length) : chkA l = 3 := by unfold chkA; rw [if_pos (by omega)]
theorem acctOk_iff (a : Acct) : acctOk a = true ↔ (1 ≤ a.id ∧ a.id ≤ 1000) ∧ (0 ≤ a.bal ∧ a.bal ≤ 1000000000000) ∧ (0 ≤ a.seq ∧ a.seq ≤ 1000000) := by
  simp [acctOk, validAmt, and_assoc]

def placeA (l : List Acct) (i : Int) : Int := idx (fun a => a.id == i) l
def findA (l : List Acct) (i : Int) : Acct := ((l.find? fun a => a.id == i)).getD ⟨0, 0, 0⟩
def hasA (l : List Acct) (i : Int) : Bool := (l.find? fun a => a.id == i).isSome
def totalA (l : List Acct) : Int := if chkA l = 0 then (l.map (·.bal)).sum else 0


theorem findA_no {l : List Acct} {i : Int} (h : placeA l i < 0) : findA l i = ⟨0, 0, 0⟩ ∧ hasA l i = false := by
  have := (idx_neg h).1
  simp [findA, hasA, this]
theorem findA_yes {l : List Acct} {i : Int} (h : 0 ≤ placeA l i) : ∃ a, l[(placeA l i).toNat]? = some a ∧ a.id = i ∧ findA l i = a ∧ hasA l i = true := by
  obtain ⟨a, h1, h2, h3⟩ := idx_get h
  exact ⟨a, h1, by simpa using h2, by simp [findA, h3], by simp [hasA, h3]⟩
theorem placeA_lt (l : List Acct) (i : Int) : -1 ≤ placeA l i ∧ placeA l i < l.length ∨ l.length = 0 ∧ placeA l i = -1 := by
  have := idx_ge (fun a : Acct => a.id == i) l
  unfold placeA
  cases l with
  | nil => right; exact ⟨rfl, rfl⟩
  | cons a r => left; exact this

def rightA (l : List Acct) : Int := if chkA l = 0 then 0 else 74
/-- One account changed by a function that may refuse. -/
def chgA (l : List Acct) (i : Int) (f : Acct → Acct × Int) : List Acct × Int :=
  if chkA l = 0 then
    if placeA l i < 0 then ([], 67)
    else if (f (findA l i)).2 = 0 then (l.set (placeA l i).toNat (f (findA l i)).1, 0) else ([], (f (findA l i)).2)
  else ([], 74)
def giveF (n : Int) (a : Acct) : Acct × Int := if validAmt n && validAmt (a.bal + n) then ({ a with bal := a.bal + n }, 0) else (a, 65)
def takeF (n : Int) (a : Acct) : Acct × Int := if validAmt n then if a.bal < n then (a, 66) else ({ a with bal := a.bal - n }, 0) else (a, 65)
def beginF (s n : Int) (a : Acct) : Acct × Int :=
  if s ≠ a.seq + 1 ∨ 1000000 < s then (a, 68) else if n < 1 ∨ 100000 < n then (a, 69) else if a.bal < n then (a, 66) else (⟨a.id, a.bal - n, s⟩, 0)
def insA (l : List Acct) (x : Acct) : List Acct := match l with
  | [] => [x]
  | a :: r => if x.id < a.id then x :: a :: r else a :: insA r x
def createA (l : List Acct) (i b : Int) : List Acct × Int :=
  if chkA l ≠ 0 then ([], 74) else if ¬ (1 ≤ i ∧ i ≤ 1000) ∨ 0 ≤ placeA l i then ([], 67) else if validAmt b = false then ([], 65) else if l.length = 20 then ([], 3) else (insA l ⟨i, b, 0⟩, 0)

/-- Of accounts that are right. -/
theorem chkA_len {l : List Acct} (h : chkA l = 0) : l.length ≤ 20 := by
  unfold chkA at h
  split at h
  · cases h
  · omega
theorem chkA_good {l : List Acct} (h : chkA l = 0) : goodA l = true := by
  unfold chkA at h
  split at h
  · cases h
  · split at h
    · assumption
    · cases h
theorem chkA_acct {l : List Acct} (h : chkA l = 0) {a : Acct} (ha : a ∈ l) : (1 ≤ a.id ∧ a.id ≤ 1000) ∧ (0 ≤ a.bal ∧ a.bal ≤ 1000000000000) ∧ (0 ≤ a.seq ∧ a.seq ≤ 1000000) := by
  have := chkA_good h
  simp only [goodA, Bool.and_eq_true, List.all_eq_true] at this
  exact (acctOk_iff a).1 (this.1 a ha)

theorem sum_le {l : List Acct} (h : ∀ a ∈ l, 0 ≤ a.bal ∧ a.bal ≤ 1000000000000) (k : Nat) : 0 ≤ ((l.take k).map (·.bal)).sum ∧ ((l.take k).map (·.bal)).sum ≤ 1000000000000 * l.length := by
  induction l generalizing k with
  | nil => simp
  | cons a r ih =>
    cases k with
    | zero => simp; omega
    | succ k =>
      have := ih (fun b hb => h b (by simp [hb])) k
      have := h a (by simp)
      simp only [List.take_succ_cons, List.map_cons, List.sum_cons, List.length_cons]
      push_cast
      omega


/-! ### Chapters 35 and 37: assets, lines -/

def bLess : List UInt8 → List UInt8 → Bool
  | _, [] => false
  | [], _ :: _ => true
  | a :: x, b :: y => decide (a < b) || (a == b && bLess x y)

def nativeA (a : Asset) : Bool := decide (a.code = ⟨#[]⟩ ∧ a.issuer = 0)
def upper (c : UInt8) : Bool := decide (65 ≤ (c.toNat : Int) ∧ (c.toNat : Int) ≤ 90)
def assetOk (a : Asset) : Bool := nativeA a || (decide ((1 ≤ a.code.size ∧ a.code.size ≤ 4) ∧ 1 ≤ a.issuer ∧ a.issuer ≤ 1000) && a.code.data.toList.all upper)
def lessA (a b : Asset) : Bool := bLess a.code.data.toList b.code.data.toList || (decide (a.code = b.code) && decide (a.issuer < b.issuer))

/-- Neighbours stand so. -/
def ascR {α : Type} (r : α → α → Bool) : List α → Bool
  | a :: b :: l => r a b && ascR r (b :: l)
  | _ => true
theorem ascR_at {α : Type} (r : α → α → Bool) (l : List α) : ascR r l = true ↔ ∀ k a p, l[k + 1]? = some a → l[k]? = some p → r p a = true := by
  induction l with
  | nil => simp [ascR]
  | cons x l ih =>
    cases l with
    | nil => simp [ascR]
    | cons y l =>
      simp only [ascR, Bool.and_eq_true, ih]
      constructor
      · rintro ⟨h1, h2⟩ k a p ha hp
        cases k with
        | zero => simp at ha hp; subst ha; subst hp; exact h1
        | succ k => exact h2 k a p (by simpa using ha) (by simpa using hp)
      · intro h
        exact ⟨h 0 y x (by simp) (by simp), fun k a p ha hp => h (k + 1) a p (by simpa using ha) (by simpa using hp)⟩

/-- All are so, and neighbours stand so: place by place. -/
def goodAt {α : Type} (ok : α → Bool) (r : α → α → Bool) (l : List α) (k : Nat) : Prop := ∀ a, l[k]? = some a → ok a = true ∧ ∀ p, 0 < k → l[k - 1]? = some p → r p a = true
theorem good_at {α : Type} (ok : α → Bool) (r : α → α → Bool) (l : List α) : (l.all ok && ascR r l) = true ↔ ∀ k, goodAt ok r l k := by
  unfold goodAt
  rw [Bool.and_eq_true, List.all_eq_true, ascR_at]
  constructor
  · rintro ⟨h1, h2⟩ k a ha
    refine ⟨h1 a (List.mem_of_getElem? ha), fun p hk hp => h2 (k - 1) a p (by rw [Nat.sub_add_cancel hk]; exact ha) hp⟩
  · intro h
    refine ⟨fun a ha => ?_, fun k a p ha hp => (h (k + 1) a ha).2 p (by omega) (by simpa using hp)⟩
    obtain ⟨k, hk⟩ := List.mem_iff_getElem?.1 ha
    exact (h k a hk).1
theorem good_all {α : Type} {ok : α → Bool} {r : α → α → Bool} {l : List α} (h : ∀ k, k < l.length → goodAt ok r l k) : (l.all ok && ascR r l) = true := (good_at ok r l).2 fun k => by
  by_cases hk : k < l.length
  · exact h k hk
  · intro a ha; have := (List.getElem?_eq_some_iff.1 ha).1; omega
theorem good_not {α : Type} {ok : α → Bool} {r : α → α → Bool} {l : List α} {k : Nat} (h : ¬ goodAt ok r l k) : (l.all ok && ascR r l) = false := by
  rw [Bool.eq_false_iff]; intro e; exact h ((good_at ok r l).1 e k)

def lineOk (accts : List Acct) (x : Line) : Bool := hasA accts x.acc && (assetOk x.asset && (!nativeA x.asset && (!decide (x.asset.issuer = x.acc) && (validAmt x.lim && (decide (0 ≤ x.bal) && decide (x.bal ≤ x.lim))))))
def beforeL (x : Line) (acc : Int) (a : Asset) : Bool := decide (x.acc < acc) || (decide (x.acc = acc) && lessA x.asset a)
def goodL (l : List Line) (accts : List Acct) : Bool := l.all (lineOk accts) && ascR (fun p x => beforeL p x.acc x.asset) l
def chkL (l : List Line) (accts : List Acct) : Int := if chkA accts = 0 then if 60 < l.length then 3 else if goodL l accts then 0 else 74 else chkA accts

def placeL (l : List Line) (i : Int) (a : Asset) : Int := idx (fun x => decide (x.acc = i ∧ x.asset = a)) l
def findL (l : List Line) (i : Int) (a : Asset) : Line := ((l.find? fun x => decide (x.acc = i ∧ x.asset = a))).getD ⟨0, ⟨⟨#[]⟩, 0⟩, 0, 0⟩
def hasL (l : List Line) (i : Int) (a : Asset) : Bool := (l.find? fun x => decide (x.acc = i ∧ x.asset = a)).isSome
theorem findL_no {l : List Line} {i : Int} {a : Asset} (h : placeL l i a < 0) : findL l i a = ⟨0, ⟨⟨#[]⟩, 0⟩, 0, 0⟩ ∧ hasL l i a = false := by
  have := (idx_neg h).1
  simp only [findL, hasL, this]; exact ⟨rfl, rfl⟩
theorem findL_yes {l : List Line} {i : Int} {a : Asset} (h : 0 ≤ placeL l i a) : ∃ x, l[(placeL l i a).toNat]? = some x ∧ (x.acc = i ∧ x.asset = a) ∧ findL l i a = x ∧ hasL l i a = true := by
  obtain ⟨x, h1, h2, h3⟩ := idx_get h
  exact ⟨x, h1, by simpa using h2, by simp only [findL, h3]; rfl, by simp only [hasL, h3]; rfl⟩
theorem placeL_lt (l : List Line) (i : Int) (a : Asset) : -1 ≤ placeL l i a ∧ (0 ≤ placeL l i a → placeL l i a < l.length) := by
  have := idx_ge (fun x : Line => decide (x.acc = i ∧ x.asset = a)) l
  unfold placeL
  omega

def issued (l : List Line) (a : Asset) : Int := ((l.filter fun x => decide (x.asset = a)).map (·.bal)).sum

def rightG (g : Ledg) : Bool := decide (chkL g.lines g.accts = 0)
def heldA (g : Ledg) (i : Int) (a : Asset) : Int := if rightG g && (hasA g.accts i && assetOk a) then (if nativeA a then (findA g.accts i).bal else if a.issuer = i then 1000000000000 else (findL g.lines i a).bal) else 0
def roomA (g : Ledg) (i : Int) (a : Asset) : Int := if rightG g && (hasA g.accts i && assetOk a) then (if nativeA a then 1000000000000 - (findA g.accts i).bal else if a.issuer = i then 1000000000000 else (findL g.lines i a).lim - (findL g.lines i a).bal) else 0

/-! ### Chapter 38: offers -/

def reduceP (n d : Int) : Int × Int := if okPrice n d then (n.tdiv (Int.gcd n d), d.tdiv (Int.gcd n d)) else (0, 0)
def offerOk (g : Ledg) (o : Offer) : Bool :=
  hasA g.accts o.seller && (decide (1 ≤ o.id) && (decide (o.id < g.next) && (assetOk o.sell && (assetOk o.buy && (!decide (o.sell = o.buy) && (decide (1 ≤ o.amount) && (validAmt o.amount && (!decide ((reduceP o.num o.den).1 = 0) && (decide ((reduceP o.num o.den).1 = o.num) && decide ((reduceP o.num o.den).2 = o.den))))))))))
def goodG (g : Ledg) : Bool := decide (1 ≤ g.next ∧ g.next ≤ 1000000) && (validAmt g.fees && (decide (0 ≤ g.number ∧ g.number ≤ 1000000) && (g.offers.all (offerOk g) && ascR (fun p o => decide (p.id < o.id)) g.offers)))
def chkG (g : Ledg) : Int := if chkL g.lines g.accts = 0 then if 40 < g.offers.length then 3 else if goodG g then 0 else 74 else chkL g.lines g.accts
def linedA (g : Ledg) (i : Int) (a : Asset) : Bool := nativeA a || (decide (a.issuer = i) || hasL g.lines i a)
def zeroG : Ledg := ⟨0, [], [], [], 0, 0, 0⟩
def addO (g : Ledg) (seller : Int) (sell buy : Asset) (n num den : Int) : Ledg × Int × Int :=
  if chkG g = 0 then
    if hasA g.accts seller = false then (zeroG, 0, 67)
    else if assetOk sell = false ∨ assetOk buy = false ∨ sell = buy then (zeroG, 0, 71)
    else if n < 1 ∨ validAmt n = false ∨ okPrice num den = false then (zeroG, 0, 72)
    else if linedA g seller sell = false ∨ linedA g seller buy = false then (zeroG, 0, 70)
    else if heldA g seller sell = 0 then (zeroG, 0, 66)
    else if g.offers.length = 40 ∨ g.next = 1000000 then (zeroG, 0, 3)
    else ({ g with offers := g.offers ++ [⟨g.next, seller, sell, buy, n, (reduceP num den).1, (reduceP num den).2⟩], next := g.next + 1 }, g.next, 0)
  else (zeroG, 0, chkG g)

end Go.Proofs.Ytneoeegpceompaa.Pl
