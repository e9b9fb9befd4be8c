/-
The abstract machine, part 3: the compact code, how it is made of the model's code, and what its operations come to.
-/
import Derived.Test.YtneoeegpceompaaM22
namespace Go.Proofs.Ytneoeegpceompaa.AM
open Go

/-- An operation, with all that it asks of the program's types already looked up. -/
inductive CO where
  | mov (x : Operand)
  | pick (c a b : Operand)
  | alloc (e : TypeId) (z : List Value)
  | box (e : TypeId) (n : Nat) (x : Operand)
  | build (z : List Value) (ps : List (Nat × Nat × Operand))
  | bslice (e : TypeId) (sz len : Nat) (z : List Value) (ps : List (Nat × Operand))
  | load (ag : Bool) (n : Nat) (a : Operand)
  | store (n : Nat) (a x : Operand)
  | nilck (x : Operand)
  | bin (op : BinOp) (x y : Operand)
  | eqs (neg : Bool) (plan : List (Nat × Bool)) (x y : Operand)
  | nilcmp (neg : Bool) (x : Operand)
  | beq (neg : Bool) (x y : Operand)
  | un (op : UnOp) (x : Operand)
  | conv (k : IntKind) (x : Operand)
  | mkfn (f : Nat) (cap : List Operand)
  | mksl (e : TypeId) (sz bytes : Nat) (z : List Value) (l c : Operand)
  | slice (sz : Nat) (x : Operand) (lo hi mx : Option Operand)
  | faddr (off : Nat) (x : Operand)
  | field (ag : Bool) (n off : Nat) (x : Operand)
  | iaddr (sz : Nat) (x i : Operand)
  | aindex (ag : Bool) (n sz len : Nat) (x i : Operand)
  | sindex (x i : Operand)
  | len (x : Operand)
  | slen (x : Operand)
  | cap (x : Operand)
  | min (x y : Operand)
  | max (x y : Operand)
  | append (e : TypeId) (sz bytes : Nat) (s x : Operand)
  | appendz (e : TypeId) (sz bytes : Nat) (z : List Value) (s x : Operand)
  | copy (sz : Nat) (d s : Operand)
  | clear (sz : Nat) (z : List Value) (x : Operand)
  | ext (x : Operand) (i : Nat)
  | call (f : Operand) (args : List Operand)
  | bad
  deriving Inhabited

structure COper where
  dst : Option Nat
  op : CO
  gd : Option (Nat × Bool)
  deriving Inhabited

inductive CC where
  | skip
  | region (ops : List COper) (pairs : List (Nat × Nat)) (live : List Nat)
  | seq (a b : CC)
  | cond (c : Operand) (t e : CC)
  | block (id : Nat) (c : CC)
  | loop (c : CC)
  | exit (id : Nat)
  | ret
  | bad
  deriving Inhabited

/-! ### What the types say -/
def places (parts : List (Nat × Operand)) (pl : Nat → Option (Nat × Nat)) : Option (List (Nat × Nat × Operand)) :=
  match parts with
  | [] => some []
  | p :: r => match pl p.1, places r pl with
    | some q, some l => some ((q.1, q.2, p.2) :: l)
    | _, _ => none

section
variable (P : Program)

def tsz (t : TypeId) : Option Nat := (P.info? t).map (·.size)
def tag (t : TypeId) : Option Bool := (P.underlying t).map fun d => match d with | .struct _ => true | .array _ _ => true | _ => false
def tzero (t : TypeId) : Option (List Value) := match (P.info? t).bind (·.zero) with | some z => if z.cells.all (·.oneCell') then some z.cells.toList else none | none => none
def telem (t : TypeId) : Option TypeId := match P.underlying t with | some (.slice e) => some e | _ => none
def tfield (t : TypeId) (f : Nat) : Option (Nat × TypeId) := match P.underlying t with | some (.struct fs) => (fs[f]?).map fun x => (x.offset, x.type) | _ => none

/-- Where the cells lie that an equality of values of a type compares. -/
def eqPlan : Nat → TypeId → Option (List (Nat × Bool))
  | 0, _ => none
  | d + 1, t => match P.underlying t with
    | some (.int _) => some [(0, false)]
    | some .string => some [(0, true)]
    | some (.struct fs) =>
      if P.stoodInHeld t then none else
      fs.toList.foldr (fun f r => match r with
        | none => none
        | some l => if f.name = "_" then none else match eqPlan d f.type, tag P f.type, tsz P f.type with
          | some m, some _, some n => if m.all (·.1 < n) then some (m.map (fun q => (q.1 + f.offset, q.2)) ++ l) else none
          | _, _, _ => none) (some [])
    | _ => none

def compParts (t : TypeId) (parts : List (Nat × Operand)) : Option (List (Nat × Nat × Operand)) :=
  match P.underlying t with
  | some (.struct fs) => match fs.toList.mapM (fun f => (P.info? f.type).map fun i => (f.offset, i.size)) with
    | some pl => places parts (pl[·]?)
    | none => none
  | some (.array _ e) => match tsz P e with
    | some n => places parts (fun i => some (i * n, n))
    | none => none
  | _ => none

def tbytes (t : TypeId) : Option Nat := (P.info? t).map (·.bytes)

/-- A slice's element: its type, its cells (one at least), its bytes (not so many), its zero value. -/
def telinfo (t : TypeId) : Option (TypeId × Nat × Nat × List Value) := match telem P t with
  | some e => match tsz P e, tbytes P e, tzero P e with
    | some n, some b, some z => if 0 < n ∧ b ≤ 100000 ∧ z.length = n then some (e, n, b, z) else none
    | _, _, _ => none
  | none => none

def compCall (c : Call) : CO :=
  match c.callee, c.args.toList, c.argTypes.toList with
  | .value f, args, _ => .call f args
  | .builtin .len, [x], [t] => match P.underlying t with
    | some (.slice _) => .len x
    | some .string => .slen x
    | _ => .bad
  | .builtin .cap, [x], [t] => match P.underlying t with
    | some (.slice _) => .cap x
    | _ => .bad
  | .builtin .min, [x, y], _ => .min x y
  | .builtin .max, [x, y], _ => .max x y
  | .builtin .append, [s, x], [t, u] => match telinfo P t, P.underlying u with
    | some (e, n, b, _), some (.slice _) => if t = u then .append e n b s x else .bad
    | some (e, n, b, z), some (.int _) => .appendz e n b z s x
    | _, _ => .bad
  | .builtin .copy, [d, s], [t, u] => match telinfo P t, P.underlying u with
    | some (_, n, _, _), some (.slice _) => .copy n d s
    | _, _ => .bad
  | .builtin .clear, [x], [t] => match telinfo P t with
    | some (_, n, _, z) => .clear n z x
    | _ => .bad
  | _, _, _ => .bad

def isNilSlice : Operand → Bool
  | .const (.slice none 0 0) => true
  | _ => false

def compBin (op : BinOp) (t : TypeId) (x y : Operand) : CO :=
  match P.underlying t with
  | some (.struct _) => match op, eqPlan P 4 t with
    | .eql, some l => if P.eqGuardType P.depth t then .bad else .eqs false l x y
    | .neq, some l => if P.eqGuardType P.depth t then .bad else .eqs true l x y
    | _, _ => .bad
  | some (.slice _) => match op with
    | .eql => if isNilSlice y then .nilcmp false x else .bad
    | .neq => if isNilSlice y then .nilcmp true x else .bad
    | _ => .bad
  | some (.int _) => .bin op x y
  | some .string => .bin op x y
  | some .bool => match op with
    | .eql => .beq false x y
    | .neq => .beq true x y
    | _ => .bad
  | _ => .bad

def compOp (op : Op) : CO :=
  match op with
  | .move x => .mov x
  | .assign x => .mov x
  | .pick c a b => .pick c a b
  | .alloc e => match tzero P e with | some z => .alloc e z | none => .bad
  | .box e x => match tsz P e with | some n => .box e n x | none => .bad
  | .build t ps => match tzero P t, compParts P t ps.toList, tag P t with | some z, some l, some true => .build z l | _, _, _ => .bad
  | .buildSlice t len ps => match telinfo P t with | some (e, n, _, z) => if len * n ≤ 2 ^ 24 then .bslice e n len z ps.toList else .bad | none => .bad
  | .load t a => match tag P t, tsz P t with | some ag, some n => if ag ∨ n = 1 then .load ag n a else .bad | _, _ => .bad
  | .store t a x => match tsz P t with | some n => .store n a x | none => .bad
  | .nilCheck x => .nilck x
  | .binOp op t x y _ => compBin P op t x y
  | .unOp op _ x => .un op x
  | .convert s d x => match P.underlying s, P.underlying d with | some (.int _), some (.int k) => .conv k x | _, _ => .bad
  | .makeFunc (.func f) first caps => if first = #[] then .mkfn f caps.toList else .bad
  | .makeSlice t l c => match telinfo P t with | some (e, n, b, z) => .mksl e n b z l c | none => .bad
  | .slice t x lo hi mx => match telinfo P t with | some (_, n, _, _) => .slice n x lo hi mx | none => .bad
  | .fieldAddr t x f => match tfield P t f with | some (off, u) => (match tsz P u with | some n => if n = 0 then .bad else .faddr off x | none => .bad) | none => .bad
  | .field t x f => match tfield P t f with | some (off, u) => (match tag P u, tsz P u with | some ag, some n => if ag ∨ n = 1 then .field ag n off x else .bad | _, _ => .bad) | none => .bad
  | .indexAddr t x i => match telinfo P t with | some (_, n, _, _) => .iaddr n x i | none => .bad
  | .index t x i => match P.underlying t with
    | some (.array len e) => (match tag P e, tsz P e with | some ag, some n => if ag ∨ n = 1 then .aindex ag n n len x i else .bad | _, _ => .bad)
    | some .string => .sindex x i
    | _ => .bad
  | .extract x i => .ext x i
  | .call c => compCall P c
  | _ => .bad

/-! ### Regions whose order is open -/

/-- Does it touch memory (or call)? -/
def CO.touches : CO → Bool
  | .load .. | .store .. | .call .. | .append .. | .appendz .. | .copy .. | .clear .. | .alloc .. | .box .. | .bslice .. | .mksl .. | .cap .. => true
  | _ => false
/-- Does it read memory alone? -/
def CO.reads : CO → Bool
  | .load .. | .cap .. => true
  | _ => false

/-- Pairs of operations that may come up in either order and of which one may change what the other one reads. -/
def mayMeet (x y : CO) : Bool := x.touches && y.touches && !(x.reads && y.reads)

/-- What an operation waits for, as the bits of a number. -/
def predsOf (acc : Array Nat) (o : Oper) : Nat := o.after.toList.foldl (fun s e => if Region.binds .any e then s ||| (2 ^ e.on ||| acc.getD e.on 0) else s) 0

def preds (ops : Array Oper) : Array Nat := ops.toList.foldl (fun acc o => acc.push (predsOf acc o)) #[]

/-- All pairs i < j that may come up in either order. -/
def loose (ops : Array Oper) : List (Nat × Nat) :=
  let b := preds ops
  (List.range ops.size).flatMap fun j => (List.range j).filterMap fun i => if (b.getD j 0).testBit i then none else some (i, j)

def compOper (ops : Array Oper) (o : Oper) : COper :=
  ⟨o.dst, compOp P o.op, match o.guard with
    | none => none
    | some (j, want) => some (((ops[j]?).bind (·.dst)).getD 1000000, want)⟩

def loosePairs (ops : Array Oper) : List (Nat × Nat) :=
  (loose ops).filter fun (i, j) => mayMeet (compOp P (ops.getD i default).op) (compOp P (ops.getD j default).op)

/-- Neither of two operations that may come up in either order touches what the other one's temporary is. -/
def looseOk (ops : Array Oper) : Bool := (loose ops).all fun (i, j) => Oper.apart ops (ops.getD i default) (ops.getD j default)

def guardsOk (ops : Array Oper) : Bool := ops.all fun o => match o.guard with
  | none => true
  | some (j, _) => ((ops[j]?).bind (·.dst)).isSome

def dstsOk (nt : Nat) (ops : Array Oper) : Bool := ops.all fun o => match o.dst with | some d => d < nt | none => true

/-- Every operation waits for such alone as stand ahead of it. -/
def backOk (ops : Array Oper) : Bool := ops.toList.zipIdx.all fun (o, i) => o.after.all fun e => !Region.binds .any e || decide (e.on < i)

/-- An order of the list in which every operation waits for such alone as stand ahead of it. -/
def topoGo (ops : Array Oper) : Nat → List Nat → List Nat
  | 0, l => l
  | n + 1, l => match (List.range ops.size).find? (fun i => !l.contains i && (ops.getD i default).after.all (fun e => !Region.binds .any e || l.contains e.on)) with
    | some i => topoGo ops n (l ++ [i])
    | none => l
def sorted (ops : Array Oper) : Array Oper := if backOk ops then ops else if sortOk ops (topoGo ops ops.size []) then sortOps ops (topoGo ops ops.size []) else ops

def compCode (nt : Nat) : Code → CC
  | .skip => .skip
  | .region _ ops0 draw =>
    let ops := if draw then sorted ops0 else ops0
    if guardsOk ops && dstsOk nt ops then
      if draw then if looseOk ops && backOk ops && P.follows .mixedOrders then .region (ops.toList.map (compOper P ops)) (loosePairs P ops) [] else .bad
      else .region (ops.toList.map (compOper P ops)) [] []
    else .bad
  | .seq a b => .seq (compCode nt a) (compCode nt b)
  | .cond c t e => .cond c (compCode nt t) (compCode nt e)
  | .block id c => .block id (compCode nt c)
  | .loop c => .loop (compCode nt c)
  | .exit id => .exit id
  | .ret => .ret
  | _ => .bad
end

/-! ### What an operation comes to -/

def ev (g : Nat → AV) : Operand → AV
  | .tmp t => g t
  | .const c => .v c
  | .func f => .fn f []
  | .global _ => .any

def cellsAV : AV → Option (List AV)
  | .agg cs => some cs
  | .any => none
  | .tup _ => none
  | .v x => if x.oneCell' then some [.v x] else none
  | .sl a b => some [.sl a b]
  | .z0 => some [.z0]
  | .ipt a => some [.ipt a]
  | .pt a b c d => some [.pt a b c d]
  | .row a b c d => some [.row a b c d]
  | .fn a b => some [.fn a b]

def mkAV (ag : Bool) (cs : List AV) : Option AV := match ag, cs with
  | true, cs => some (.agg cs)
  | false, [x] => some x
  | false, _ => none

def splice (l : List AV) (off : Nat) (xs : List AV) : List AV := l.take off ++ (xs ++ l.drop (off + xs.length))

/-- The elements that a slice value stands for. -/
def rowsAV (μ : Mu) (sz : Nat) : AV → Option (List (List AV))
  | .sl s es => if s = sz then some es else none
  | .z0 => some []
  | .v (.slice _ 0 _) => some []
  | .row b s off len => match μ b with
    | some k => if s = sz ∧ k.sz = sz ∧ off + len ≤ k.es.length then some ((k.es.drop off).take len) else none
    | none => none
  | _ => none

def fillAV (g : Nat → AV) : List AV → List (Nat × Nat × Operand) → Option (List AV)
  | cells, [] => some cells
  | cells, (off, n, x) :: r => match cellsAV (ev g x) with
    | some cs => if cs.length = n ∧ off + n ≤ cells.length then fillAV g (splice cells off cs) r else none
    | none => none

def fillRows (g : Nat → AV) (sz : Nat) : List (List AV) → List (Nat × Operand) → Option (List (List AV))
  | rows, [] => some rows
  | rows, (i, x) :: r => match cellsAV (ev g x) with
    | some cs => if cs.length = sz ∧ i < rows.length then fillRows g sz (rows.set i cs) r else none
    | none => none

def binInt (op : BinOp) (k : IntKind) (a b : Int) : Option Value := match op with
  | .add => some (.int k (k.wrap (a + b)))
  | .sub => some (.int k (k.wrap (a - b)))
  | .mul => some (.int k (k.wrap (a * b)))
  | .quo => if b = 0 then none else some (.int k (k.wrap (a.tdiv b)))
  | .rem => if b = 0 then none else some (.int k (a.tmod b))
  | .and => some (.int k (k.wrap ((BitVec.ofInt k.bits a &&& BitVec.ofInt k.bits b).toNat : Int)))
  | .or => some (.int k (k.wrap ((BitVec.ofInt k.bits a ||| BitVec.ofInt k.bits b).toNat : Int)))
  | .xor => some (.int k (k.wrap ((BitVec.ofInt k.bits a ^^^ BitVec.ofInt k.bits b).toNat : Int)))
  | .andNot => some (.int k (k.wrap ((BitVec.ofInt k.bits a &&& ~~~ BitVec.ofInt k.bits b).toNat : Int)))
  | .eql => some (.bool (a == b))
  | .neq => some (.bool (a != b))
  | .lss => some (.bool (decide (a < b)))
  | .leq => some (.bool (decide (a ≤ b)))
  | .gtr => some (.bool (decide (b < a)))
  | .geq => some (.bool (decide (b ≤ a)))
  | _ => none

def binShift (op : BinOp) (k : IntKind) (a b : Int) : Option Value := match op with
  | .shl => if b < 0 then none else some (.int k (k.wrap (a * 2 ^ (Nat.min b.toNat k.bits))))
  | .shr => if b < 0 then none else some (.int k (a.fdiv (2 ^ (Nat.min b.toNat k.bits))))
  | _ => none

def binStr (op : BinOp) (a b : ByteArray) : Option Value := match op with
  | .eql => some (.bool (a.toList == b.toList))
  | .neq => some (.bool (!(a.toList == b.toList)))
  | .lss => some (.bool (Op.bytesLess a.toList b.toList))
  | .leq => some (.bool (Op.bytesLess a.toList b.toList || a.toList == b.toList))
  | .gtr => some (.bool (!(Op.bytesLess a.toList b.toList || a.toList == b.toList)))
  | .geq => some (.bool (!(Op.bytesLess a.toList b.toList)))
  | _ => none

def isShift : BinOp → Bool
  | .shl => true
  | .shr => true
  | _ => false

def binAV (op : BinOp) : AV → AV → Option Value
  | .v (.int k a), .v (.int k' b) => if isShift op then binShift op k a b else if k = k' then binInt op k a b else none
  | .v (.string a), .v (.string b) => binStr op a b
  | _, _ => none

def eqCell : Bool → AV → AV → Option Bool
  | false, .v (.int k a), .v (.int k' b) => if k = k' then some (a == b) else none
  | true, .v (.string a), .v (.string b) => some (a.toList == b.toList)
  | _, _, _ => none

def eqCells : List (Nat × Bool) → List AV → List AV → Option Bool
  | [], _, _ => some true
  | (i, s) :: r, xs, ys => match xs[i]?, ys[i]? with
    | some x, some y => match eqCell s x y, eqCells r xs ys with
      | some a, some b => some (a && b)
      | _, _ => none
    | _, _ => none

def unAV : UnOp → AV → Option Value
  | .neg, .v (.int k n) => some (.int k (k.wrap (0 - n)))
  | .not, .v (.bool b) => some (.bool (!b))
  | _, _ => none

def bnd (g : Nat → AV) : Option Operand → Option (Option Int)
  | none => some none
  | some x => match ev g x with | .v (.int _ n) => some (some n) | _ => none

/-- A slice of a slice. -/
def sliceAV (sz : Nat) (x : AV) (L H : Int) (M : Option Int) : Option AV :=
  match x with
  | .sl s es =>
    if s = sz ∧ 0 ≤ L ∧ L ≤ H ∧ H ≤ es.length then
      match M with
      | none => some (.sl sz ((es.drop L.toNat).take (H.toNat - L.toNat)))
      | some m => if H ≤ m ∧ m ≤ es.length then (if m = 0 then some .z0 else some (.sl sz ((es.drop L.toNat).take (H.toNat - L.toNat)))) else none
    else none
  | .row b s off len =>
    if s = sz ∧ 0 ≤ L ∧ L ≤ H ∧ H ≤ len then
      match M with
      | none => some (.row b sz (off + L.toNat) (H.toNat - L.toNat))
      | some m => if H ≤ m ∧ m ≤ len then some .any else none
    else none
  | .z0 => if L = 0 ∧ H = 0 ∧ (M = none ∨ M = some 0) then some .z0 else none
  | .v (.slice none 0 0) => if L = 0 ∧ H = 0 ∧ (M = none ∨ M = some 0) then some (.v (.slice none 0 0)) else none
  | _ => none

def lenAV : AV → Option Int
  | .sl _ es => some es.length
  | .row _ _ _ len => some len
  | .z0 => some 0
  | .v (.slice _ n _) => some n
  | _ => none

def sliceCO (sz : Nat) (x : AV) (lo hi mx : Option (Option Int)) : Option AV :=
  match lenAV x, lo, hi, mx with
  | some n, some l, some h, some none => sliceAV sz x (l.getD 0) (h.getD n) none
  | some _, some l, some (some h), some (some m) => sliceAV sz x (l.getD 0) h (some m)
  | _, _, _, _ => none

def nilAV : AV → Option Bool
  | .v (.slice A _ _) => some A.isNone
  | .row _ _ _ (_ + 1) => some false
  | .sl _ (_ :: _) => some false
  | _ => none

abbrev Res := Option (AV × Wr)

def pureR (x : Option AV) : Res := x.map fun a => (a, [])
def pureV (x : Option Value) : Res := x.map fun a => (.v a, [])

def loadAV (μ : Mu) (ag : Bool) (n : Nat) : AV → Option AV
  | .ipt cs => if n ≤ cs.length then mkAV ag (cs.take n) else none
  | .pt b sz i o => match μ b with
    | some k => match k.es[i]? with
      | some r => if k.sz = sz ∧ o + n ≤ r.length then mkAV ag ((r.drop o).take n) else none
      | none => none
    | none => none
  | _ => none

def storeAV (μ : Mu) (n : Nat) (a x : AV) : Res :=
  match a with
  | .pt b sz i o => match μ b, cellsAV x with
    | some k, some cs => match k.es[i]? with
      | some r => if k.mu = true ∧ k.sz = sz ∧ cs.length = n ∧ o + n ≤ r.length then some (.any, [(b, some { k with es := k.es.set i (splice r o cs) })]) else none
      | none => none
    | _, _ => none
  | _ => none

def appendAV (μ : Mu) (N : Nat) (e : TypeId) (sz : Nat) (s : AV) (xs : List (List AV)) : Res :=
  match s with
  | .z0 => if xs.length ≤ 1000000 then some (.row N sz 0 xs.length, [(N, some ⟨true, e, sz, xs, none⟩)]) else none
  | .v (.slice none 0 0) => if xs.length ≤ 1000000 then some (.row N sz 0 xs.length, [(N, some ⟨true, e, sz, xs, none⟩)]) else none
  | .row b s off len => match μ b with
    | some k =>
      if k.mu = true ∧ s = sz ∧ k.sz = sz ∧ k.ty = e ∧ off + len + xs.length ≤ 1000000 then
        if off = 0 ∧ len = k.es.length then some (.row N sz 0 (len + xs.length), [(b, none), (N, some ⟨true, e, sz, k.es ++ xs, none⟩)])
        else if off + len + xs.length ≤ k.es.length then some (.row b sz off (len + xs.length), [(b, some { k with es := k.es.take (off + len) ++ (xs ++ k.es.drop (off + len + xs.length)) })])
        else none
      else none
    | none => none
  | _ => none

def evalCO (g : Nat → AV) (μ : Mu) (N : Nat) : CO → Res
  | .mov x => pureR (some (ev g x))
  | .pick c a b => match ev g c with
    | .v (.bool t) => pureR (some (if t = true then ev g a else ev g b))
    | _ => none
  | .alloc e z => some (.pt N z.length 0 0, [(N, some ⟨true, e, z.length, [z.map .v], some 1⟩)])
  | .box e n x => match cellsAV (ev g x) with
    | some cs => if cs.length = n then some (.pt N n 0 0, [(N, some ⟨true, e, n, [cs], some 1⟩)]) else none
    | none => none
  | .build z ps => pureR ((fillAV g (z.map .v) ps).map .agg)
  | .bslice e sz len z ps => match fillRows g sz (List.replicate len (z.map .v)) ps with
    | some rows => some (.row N sz 0 len, [(N, some ⟨true, e, sz, rows, some len⟩)])
    | none => none
  | .load ag n a => pureR (loadAV μ ag n (ev g a))
  | .store n a x => storeAV μ n (ev g a) (ev g x)
  | .nilck x => match ev g x with
    | .pt a b c d => pureR (some (.pt a b c d))
    | .ipt cs => pureR (some (.ipt cs))
    | .fn f c => pureR (some (.fn f c))
    | _ => none
  | .bin op x y => pureV (binAV op (ev g x) (ev g y))
  | .eqs neg plan x y => match ev g x, ev g y with
    | .agg xs, .agg ys => pureV ((eqCells plan xs ys).map fun b => .bool (if neg then !b else b))
    | _, _ => none
  | .beq neg x y => match ev g x, ev g y with
    | .v (.bool a), .v (.bool b) => pureV (some (.bool (if neg then !(a == b) else a == b)))
    | _, _ => none
  | .nilcmp neg x => pureV ((nilAV (ev g x)).map fun b => .bool (if neg then !b else b))
  | .un op x => pureV (unAV op (ev g x))
  | .conv k x => match ev g x with
    | .v (.int _ n) => pureV (some (.int k (k.wrap n)))
    | _ => none
  | .mkfn f cap => pureR (some (.fn f (cap.map (ev g))))
  | .mksl e sz _ z l c => match ev g l, ev g c with
    | .v (.int .i64 a), .v (.int .i64 b) => if 0 ≤ a ∧ a ≤ b ∧ b ≤ 1000000 then some (.row N sz 0 a.toNat, [(N, some ⟨true, e, sz, List.replicate a.toNat (z.map .v), some b.toNat⟩)]) else none
    | _, _ => none
  | .slice sz x lo hi mx => pureR (sliceCO sz (ev g x) (bnd g lo) (bnd g hi) (bnd g mx))
  | .faddr off x => match ev g x with
    | .pt b sz i o => pureR (some (.pt b sz i (o + off)))
    | .ipt cs => pureR (some (.ipt (cs.drop off)))
    | _ => none
  | .field ag n off x => match ev g x with
    | .agg cs => if off + n ≤ cs.length then pureR (mkAV ag ((cs.drop off).take n)) else none
    | _ => none
  | .iaddr sz x i => match ev g x, ev g i with
    | .sl s es, .v (.int _ n) => if s = sz ∧ 0 ≤ n ∧ n < es.length then pureR (some (.ipt (es.getD n.toNat []))) else none
    | .row b s off len, .v (.int _ n) => if s = sz ∧ 0 ≤ n ∧ n < len then pureR (some (.pt b sz (off + n.toNat) 0)) else none
    | _, _ => none
  | .aindex ag n sz len x i => match ev g x, ev g i with
    | .agg cs, .v (.int _ k) => if 0 ≤ k ∧ k < len ∧ k.toNat * sz + n ≤ cs.length then pureR (mkAV ag ((cs.drop (k.toNat * sz)).take n)) else none
    | _, _ => none
  | .sindex x i => match ev g x, ev g i with
    | .v (.string s), .v (.int _ k) => if 0 ≤ k then pureV ((s[k.toNat]?).map fun b => .int .u8 b.toNat) else none
    | _, _ => none
  | .len x => pureV ((lenAV (ev g x)).map fun n => .int .i64 n)
  | .slen x => match ev g x with
    | .v (.string s) => pureV (some (.int .i64 (s.size : Int)))
    | _ => none
  | .cap x => match ev g x with
    | .row b s off len => match μ b with
      | some k => match k.cap with
        | some c => if k.sz = s ∧ off ≤ c ∧ 0 < s ∧ 0 < len then pureV (some (.int .i64 ((c - off : Nat) : Int))) else none
        | none => none
      | none => none
    | .z0 => pureV (some (.int .i64 0))
    | .v (.slice none 0 0) => pureV (some (.int .i64 0))
    | _ => none
  | .min x y => match ev g x, ev g y with
    | .v (.int k a), .v (.int k' b) => if k = k' then pureV (some (.int k (if b < a then b else a))) else none
    | _, _ => none
  | .max x y => match ev g x, ev g y with
    | .v (.int k a), .v (.int k' b) => if k = k' then pureV (some (.int k (if a < b then b else a))) else none
    | _, _ => none
  | .append e sz _ s x => match rowsAV μ sz (ev g x) with
    | some xs => appendAV μ N e sz (ev g s) xs
    | none => none
  | .copy sz d s => match ev g d, rowsAV μ sz (ev g s) with
    | .row b s off len, some xs => match μ b with
      | some k => if k.mu = true ∧ s = sz ∧ k.sz = sz ∧ off + len ≤ k.es.length then
          some (.v (.int .i64 (Nat.min xs.length len : Nat)), [(b, some { k with es := k.es.take off ++ ((xs.take (Nat.min xs.length len)) ++ k.es.drop (off + Nat.min xs.length len)) })]) else none
      | none => none
    | _, _ => none
  | .ext x i => match ev g x with
    | .tup vs => pureR vs[i]?
    | _ => none
  | _ => none

/-- The temporaries that an operation looks at. -/
def opTmps : Operand → List Nat
  | .tmp t => [t]
  | _ => []

end Go.Proofs.Ytneoeegpceompaa.AM
