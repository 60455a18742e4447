/- An evaluator of the model's code over abstract values: definitions. -/
import Derived.Calls
import Derived.Orders
import Derived.LoopN
import Derived.Scope
import Derived.Laws.Cells
import Derived.Laws.IdiomCopy
set_option linter.unusedVariables false
set_option linter.unusedSimpArgs false
namespace Go.Ev
open Go

/-- What is known of a value. 'sl', 'fptr': memory that nobody writes any more, by its contents. 'ref', 'ptr': a place in an object of the abstract heap. -/
inductive AV where
  | und
  | lit (v : Value)
  | sl (isNil : Bool) (n : Nat) (cap : Option Nat) (xs : List AV)
  | ref (o off n sz : Nat) (cap : Option Nat)
  | ptr (o off : Nat)
  | fptr (xs : List AV)
  | fn (f : FuncId) (cs : List AV)
  | iface (t : TypeId) (x : AV)
  | agg (xs : List AV)
  | tup (xs : List AV)
  deriving Inhabited

abbrev Heap := List (Option (List AV))
abbrev Look := Nat → Option (List AV)
def look (h : Heap) : Look := fun o => (h[o]?).join

/-- May the value lie in one cell? -/
def AV.leaf : AV → Bool
  | .und | .agg _ | .tup _ => false
  | .lit v => v.oneCell'
  | _ => true
def AV.cells : AV → List AV
  | .agg xs => xs
  | v => [v]
/-- The cells of what may be stored. -/
def AV.cells? : AV → Option (List AV)
  | .agg xs => some xs
  | v => if v.leaf then some [v] else none

def ofLeaf : Value → Option AV
  | .slice none 0 0 => some (.sl true 0 (some 0) [])
  | .slice _ _ _ | .agg _ | .tuple _ | .func _ _ _ | .iface _ _ | .pointer (some _) | .map (some _) | .chan (some _) => none
  | v => some (.lit v)
def ofVal : Value → Option AV
  | .agg cs => (cs.toList.mapM ofLeaf).map .agg
  | v => ofLeaf v

def opv (fr : List AV) : Operand → AV
  | .tmp t => fr.getD t (.lit undef)
  | .const v => (ofVal v).getD .und
  | .global _ => .und
  | .func f => .fn f []

/-- 'k' cells from a place on. -/
def rdM (g : Look) (p : AV) (k : Nat) : Option (List AV) :=
  match p with
  | .ptr o off => match g o with
    | some cs => if off + k ≤ cs.length then some ((cs.drop off).take k) else none
    | none => none
  | .fptr xs => if k ≤ xs.length then some (xs.take k) else none
  | _ => none

/-- The cells of a slice's elements, each of 'sz' cells, and how many elements there are. -/
def slC (g : Look) (sz : Nat) : AV → Option (Nat × List AV)
  | .sl _ n _ xs => if xs.length = n * sz then some (n, xs) else none
  | .ref o off n sz' _ => if sz' = sz then (rdM g (.ptr o off) (n * sz)).map fun ys => (n, ys) else none
  | .lit (.string s) => if sz = 1 then some (s.size, s.data.toList.map fun b => .lit (.int .u8 b.toNat)) else none
  | _ => none

/-- A row with other cells from a place on. -/
def spl (cs : List AV) : Nat → List AV → List AV
  | _, [] => cs
  | off, y :: ys => spl (cs.set off y) (off + 1) ys
def zcells (zero : List AV) (m : Nat) : List AV := (List.range m).map fun i => zero.getD (i % zero.length) .und

/-! ### Scalars -/
def sbin (op : BinOp) (a b : Value) : Option Value :=
  match op, a, b with
  | .shl, .int k x, .int _ y => if y < 0 then none else some (.int k (k.wrap (x * 2 ^ min y.toNat k.bits)))
  | .shr, .int k x, .int _ y => if y < 0 then none else some (.int k (x.fdiv (2 ^ min y.toNat k.bits)))
  | op, .int k x, .int k' y =>
    if k ≠ k' then none else
    match op with
    | .add => some (.int k (k.wrap (x + y)))
    | .sub => some (.int k (k.wrap (x - y)))
    | .mul => some (.int k (k.wrap (x * y)))
    | .quo => if y = 0 then none else some (.int k (k.wrap (x.tdiv y)))
    | .rem => if y = 0 then none else some (.int k (x.tmod y))
    | .and => some (.int k (k.wrap (BitVec.ofInt k.bits x &&& BitVec.ofInt k.bits y).toNat))
    | .or => some (.int k (k.wrap (BitVec.ofInt k.bits x ||| BitVec.ofInt k.bits y).toNat))
    | .xor => some (.int k (k.wrap (BitVec.ofInt k.bits x ^^^ BitVec.ofInt k.bits y).toNat))
    | .andNot => some (.int k (k.wrap (BitVec.ofInt k.bits x &&& ~~~ BitVec.ofInt k.bits y).toNat))
    | .eql => some (.bool (x == y))
    | .neq => some (.bool (x != y))
    | .lss => some (.bool (decide (x < y)))
    | .leq => some (.bool (decide (x ≤ y)))
    | .gtr => some (.bool (decide (x > y)))
    | .geq => some (.bool (decide (x ≥ y)))
    | _ => none
  | op, .string x, .string y =>
    match op with
    | .add => if ((x.size + y.size : Nat) : Int) > 9223372036854775807 then none else some (.string (x ++ y))
    | .eql => some (.bool (x.toList == y.toList))
    | .neq => some (.bool !(x.toList == y.toList))
    | .lss => some (.bool (Op.bytesLess x.toList y.toList))
    | .leq => some (.bool (Op.bytesLess x.toList y.toList || x.toList == y.toList))
    | .gtr => some (.bool !(Op.bytesLess x.toList y.toList || x.toList == y.toList))
    | .geq => some (.bool !(Op.bytesLess x.toList y.toList))
    | _ => none
  | _, _, _ => none
def sun (op : UnOp) (a : Value) : Option Value :=
  match op, a with
  | .neg, .int k n => some (.int k (k.wrap (0 - n)))
  | .xor, .int k n => some (.int k (k.wrap (BitVec.ofInt k.bits (if k.signed then -1 else k.max) ^^^ BitVec.ofInt k.bits n).toNat))
  | .not, .bool b => some (.bool !b)
  | _, _ => none

/-! ### Operations, with what the program's types say of them -/
inductive I where
  | mv
  | pick
  | new (cells : List AV)
  | box
  | build (zero : List AV) (ps : List (Nat × Nat))
  | bslice (len sz : Nat) (zero : List AV) (ps : List (Nat × Nat))
  | load (ag : Bool) (k : Nat)
  | store (k : Nat)
  | bin (op : BinOp)
  | beq (neg : Bool)
  | snil (neg : Bool)
  | un (op : UnOp)
  | conv (k : IntKind)
  | convS
  | s2b
  | b2s
  | mkfn (f : FuncId)
  | mkslice (sz bytes : Nat) (zero : List AV)
  | slice (sz : Nat) (lo hi mx : Bool)
  | sliceS (lo hi : Bool)
  | faddr (off : Nat)
  | field (ag : Bool) (off k : Nat)
  | iaddr (arr : Option Nat) (sz : Nat)
  | idxS
  | idxA (len : Nat) (ag : Bool) (sz : Nat)
  | ext (i : Nat)
  | nilck
  | len (str : Bool)
  | append (sz bytes : Nat)
  | copy (sz : Nat)
  | markS
  | max
  | min
  | call
  | bcall
  | mcall
  deriving Inhabited

/-- 0: it reads no memory of the abstract heap; 1: it may read it; 2: it makes an object; 3: it may change objects; 4: a call. -/
def I.cls : I → Nat
  | .call | .bcall | .mcall => 4
  | .load .. | .b2s => 1
  | .new _ | .box | .bslice .. | .s2b | .mkslice .. => 2
  | .store _ | .append .. | .copy _ | .markS => 3
  | _ => 0

def fillP (zero : List AV) : List (Nat × Nat) → List AV → Option (List AV)
  | [], [] => some zero
  | (off, k) :: ps, v :: vs => match v.cells? with
    | some ys => if ys.length = k ∧ off + k ≤ zero.length then fillP (spl zero off ys) ps vs else none
    | none => none
  | _, _ => none

def pickOpt (b : Bool) (l : List AV) : Option (Option AV × List AV) :=
  if b then match l with | x :: r => some (some x, r) | [] => none else some (none, l)
def natOf : AV → Option Nat
  | .lit (.int _ n) => if 0 ≤ n then some n.toNat else none
  | _ => none
def boundOf (d : Nat) : Option AV → Option Nat
  | none => some d
  | some x => natOf x
/-- Low and high of a slice expression; max, if it is given. -/
def bounds3 (n : Nat) (lo hi mx : Bool) (l : List AV) : Option (Nat × Nat × Option Nat) := do
  let (a, l) ← pickOpt lo l
  let (b, l) ← pickOpt hi l
  let (c, l) ← pickOpt mx l
  if !l.isEmpty then none else
  let a ← boundOf 0 a
  let b ← boundOf n b
  match c with
  | none => if a ≤ b then some (a, b, none) else none
  | some c => do
    let c ← natOf c
    if a ≤ b ∧ b ≤ c ∧ hi = true then some (a, b, some c) else none

def capCut (cap : Option Nat) (l : Nat) : Option Nat → Option Nat
  | some m => some (m - l)
  | none => cap.map (· - l)

/-- Does a bound lie within what is known of a slice? -/
def mxOk (n : Nat) (cap : Option Nat) (m : Nat) : Bool := decide (m ≤ n) || match cap with
  | some c => decide (m ≤ c)
  | none => false
def mxOk? (n : Nat) (cap : Option Nat) : Option Nat → Bool
  | some m => mxOk n cap m
  | none => true

def byteOf : AV → Option UInt8
  | .lit (.int .u8 b) => some (UInt8.ofNat b.toNat)
  | _ => none
def b2sOf : Option (Nat × List AV) → Option AV
  | some (_, ys) => (ys.mapM byteOf).map fun bs => .lit (.string ⟨bs.toArray⟩)
  | none => none
/-- What reads at most (classes 0 and 1, but for calls). -/
def evR (g : Look) (i : I) (args : List AV) : Option AV :=
  match i with
  | .mv => match args with
    | [x] => some x
    | _ => none
  | .pick => match args with
    | [.lit (.bool c), a, b] => some (if c then a else b)
    | _ => none
  | .build zero ps => (fillP zero ps args).map .agg
  | .load ag k => match args with
    | [p] => match rdM g p k with
      | some ys => if ag then some (.agg ys) else match ys with | [y] => some y | _ => none
      | none => none
    | _ => none
  | .bin op => match args with
    | [.lit a, .lit b] => (sbin op a b).map .lit
    | _ => none
  | .beq neg => match args with
    | [.lit (.bool a), .lit (.bool b)] => some (.lit (.bool (if neg then !(a == b) else a == b)))
    | _ => none
  | .snil neg => match args with
    | [.sl isNil _ _ _, .sl true 0 (some 0) []] => some (.lit (.bool (if neg then !isNil else isNil)))
    | [.ref _ _ _ _ _, .sl true 0 (some 0) []] => some (.lit (.bool neg))
    | _ => none
  | .un op => match args with
    | [.lit a] => (sun op a).map .lit
    | _ => none
  | .conv k => match args with
    | [.lit (.int _ n)] => some (.lit (.int k (k.wrap n)))
    | _ => none
  | .convS => match args with
    | [.lit (.string s)] => some (.lit (.string s))
    | _ => none
  | .b2s => match args with
    | [.sl isNil n cap xs] => b2sOf (slC g 1 (.sl isNil n cap xs))
    | [.ref o off n sz cap] => b2sOf (slC g 1 (.ref o off n sz cap))
    | _ => none
  | .mkfn f => some (.fn f args)
  | .slice sz lo hi mx => match args with
    | .sl isNil n cap xs :: l => match bounds3 n lo hi mx l with
      | some (a, b, m) => if b ≤ n ∧ xs.length = n * sz ∧ mxOk? n cap m = true then some (.sl isNil (b - a) (capCut cap a m) ((xs.drop (a * sz)).take ((b - a) * sz))) else none
      | none => none
    | .ref o off n sz' cap :: l => match bounds3 n lo hi mx l with
      | some (a, b, m) => if sz' = sz ∧ mxOk n cap b = true ∧ mxOk? n cap m = true then some (.ref o (off + a * sz) (b - a) sz (capCut cap a m)) else none
      | none => none
    | _ => none
  | .sliceS lo hi => match args with
    | .lit (.string s) :: l => match bounds3 s.size lo hi false l with
      | some (a, b, _) => if b ≤ s.size then some (.lit (.string (s.extract a b))) else none
      | none => none
    | _ => none
  | .faddr off => match args with
    | [.ptr o p] => some (.ptr o (p + off))
    | [.fptr xs] => some (.fptr (xs.drop off))
    | _ => none
  | .field ag off k => match args with
    | [.agg xs] => if off + k ≤ xs.length then if ag then some (.agg ((xs.drop off).take k)) else xs[off]? else none
    | _ => none
  | .iaddr none sz => match args with
    | [x, i] => match natOf i with
      | some i => match x with
        | .sl _ n _ xs => if i < n ∧ 0 < sz ∧ xs.length = n * sz then some (.fptr (xs.drop (i * sz))) else none
        | .ref o off n sz' _ => if i < n ∧ sz' = sz then some (.ptr o (off + i * sz)) else none
        | _ => none
      | none => none
    | _ => none
  | .iaddr (some len) sz => match args with
    | [x, i] => match natOf i with
      | some i => if i < len then match x with
        | .ptr o off => some (.ptr o (off + i * sz))
        | .fptr xs => some (.fptr (xs.drop (i * sz)))
        | _ => none
        else none
      | none => none
    | _ => none
  | .idxS => match args with
    | [.lit (.string s), i] => match natOf i with
      | some i => match s[i]? with
        | some b => some (.lit (.int .u8 b.toNat))
        | none => none
      | none => none
    | _ => none
  | .idxA len ag sz => match args with
    | [.agg xs, i] => match natOf i with
      | some i => if i < len then if i * sz + sz ≤ xs.length then if ag then some (.agg ((xs.drop (i * sz)).take sz)) else xs[i * sz]? else none else none
      | none => none
    | _ => none
  | .ext i => match args with
    | [.tup xs] => xs[i]?
    | _ => none
  | .nilck => match args with
    | [.ptr o p] => some (.ptr o p)
    | [.fptr xs] => some (.fptr xs)
    | _ => none
  | .len false => match args with
    | [.sl _ n _ _] => some (.lit (.int .i64 n))
    | [.ref _ _ n _ _] => some (.lit (.int .i64 n))
    | _ => none
  | .len true => match args with
    | [.lit (.string s)] => some (.lit (.int .i64 s.size))
    | _ => none
  | .max => match args with
    | [.lit (.int k a), .lit (.int _ b)] => some (.lit (.int k (if b > a then b else a)))
    | _ => none
  | .min => match args with
    | [.lit (.int k a), .lit (.int _ b)] => some (.lit (.int k (if b < a then b else a)))
    | _ => none
  | _ => none

/-- What makes an object: its cells, and the value, once its number is known. -/
def evN (i : I) (args : List AV) : Option (List AV × (Nat → AV)) :=
  match i with
  | .new cells => match args with
    | [] => some (cells, fun o => .ptr o 0)
    | _ => none
  | .box => match args with
    | [x] => match x.cells? with
      | some ys => some (ys, fun o => .ptr o 0)
      | none => none
    | _ => none
  | .bslice len sz zero ps => match fillP zero ps args with
    | some cs => if cs.length = len * sz then some (cs, fun o => .ref o 0 len sz (some len)) else none
    | none => none
  | .s2b => match args with
    | [.lit (.string s)] => some (s.data.toList.map fun b => .lit (.int .u8 b.toNat), fun o => .ref o 0 s.size 1 none)
    | _ => none
  | .mkslice sz bytes zero => match args with
    | [l, c] => match natOf l, natOf c with
      | some l, some c => if l ≤ c ∧ bytes * c ≤ 2 ^ 48 ∧ c ≤ 2 ^ 62 ∧ zero.length = sz then some (zcells zero (c * sz), fun o => .ref o 0 l sz (some c)) else none
      | _, _ => none
    | _ => none
  | _ => none

/-- A capacity that holds so many. -/
def capFit (m : Nat) : Option Nat → Option Nat
  | some c => if m ≤ c then some c else none
  | none => none
def AV.isLit : AV → Bool
  | .lit _ => true
  | _ => false
/-- What may change objects. -/
def evW (h : Heap) (i : I) (args : List AV) : Option (AV × Heap) :=
  match i with
  | .store k => match args with
    | [.ptr o off, v] => match look h o, v.cells? with
      | some cs, some ys => if ys.length = k ∧ off + k ≤ cs.length then some (.lit undef, h.set o (some (spl cs off ys))) else none
      | _, _ => none
    | _ => none
  | .append sz bytes => match args with
    | [s, x] => match slC (look h) sz s, slC (look h) sz x with
      | some (n, xs), some (k, ys) => match s with
        | .ref o off m sz' cap =>
          if k = 0 then some (.ref o off m sz' cap, h) else
          if (2 * (n + k) + 192) * bytes ≤ 2 ^ 48 ∧ n + k ≤ 2 ^ 60 then
            some (.ref h.length 0 (n + k) sz (capFit (n + k) cap), h.set o none ++ [some (xs ++ ys)])
          else none
        | .sl isNil m cap zs =>
          if k = 0 then some (.sl isNil m cap zs, h) else
          if (2 * (n + k) + 192) * bytes ≤ 2 ^ 48 ∧ n + k ≤ 2 ^ 60 then
            match cap with
            | some c => if c < n + k then some (.ref h.length 0 (n + k) sz none, h ++ [some (xs ++ ys)]) else none
            | none => none
          else none
        | _ => none
      | _, _ => none
    | _ => none
  | .copy sz => match args with
    | [.ref o off n sz' cap, x] => match slC (look h) sz (.ref o off n sz' cap), slC (look h) sz x with
      | some _, some (k, ys) => match look h o with
        | some cs => some (.lit (.int .i64 (Nat.min k n : Nat)), h.set o (some (spl cs off (ys.take (Nat.min k n * sz)))))
        | none => none
      | _, _ => none
    | _ => none
  | .markS => match args with
    | [.ref o off n sz cap] => match look h o with
      | some cs => if n ≠ 0 ∧ sz = 1 ∧ off + n ≤ cs.length ∧ cs.all AV.isLit = true then some (.sl false n cap ((cs.drop off).take n), h.set o none) else none
      | none => none
    | _ => none
  | _ => none

/-! ### Freezing -/
/-- What a value holds, read to the bottom; no pointer stays. -/
def fz (g : Look) : Nat → AV → Option AV
  | 0, _ => none
  | n + 1, v => match v with
    | .und => some .und
    | .lit v => some (.lit v)
    | .sl b m c xs => some (.sl b m c xs)
    | .ref o off m sz cap => match rdM g (.ptr o off) (m * sz) with
      | some ys => (ys.mapM (fz g n)).map (.sl false m cap)
      | none => none
    | .ptr _ _ => none
    | .fptr xs => some (.fptr xs)
    | .fn f cs => (cs.mapM (fz g n)).map (.fn f)
    | .iface t x => (fz g n x).map (.iface t)
    | .agg xs => (xs.mapM (fz g n)).map .agg
    | .tup xs => (xs.mapM (fz g n)).map .tup
/-- No place of the abstract heap is named. -/
def AV.noRef : Nat → AV → Bool
  | 0, _ => false
  | n + 1, v => match v with
    | .und | .lit _ | .sl .. | .fptr _ => true
    | .ref .. | .ptr .. => false
    | .fn _ xs | .agg xs | .tup xs => xs.all (AV.noRef n)
    | .iface _ x => AV.noRef n x
/-- No memory is named. -/
def AV.noMem : Nat → AV → Bool
  | 0, _ => false
  | n + 1, v => match v with
    | .und | .lit _ => true
    | .sl .. | .fptr _ | .ref .. | .ptr .. => false
    | .fn _ xs | .agg xs | .tup xs => xs.all (AV.noMem n)
    | .iface _ x => AV.noMem n x
def deep : Nat := 10
/-- A row is frozen: nobody writes it any more. -/
def frz1 (h : Heap) : AV → Option (AV × Heap)
  | .ref o off m sz cap => match look h o with
    | some cs => if off + m * sz ≤ cs.length ∧ cs.all (AV.noRef deep) = true then some (.sl false m cap ((cs.drop off).take (m * sz)), h.set o none) else none
    | none => none
  | x => some (x, h)
def frzL (h : Heap) : List AV → Option (List AV × Heap)
  | [] => some ([], h)
  | x :: r => match frz1 h x with
    | some (v, h1) => match frzL h1 r with
      | some (vs, h2) => some (v :: vs, h2)
      | none => none
    | none => none
/-- The rows that a slot names, or the object at which it points. -/
def frzS (fr : List AV) (h : Heap) (t : Nat) : Option (List AV × Heap) :=
  match fr[t]? with
  | some (.ptr p _) => match look h p with
    | some cs => match frzL h cs with
      | some (cs', h') => match look h' p with
        | some _ => some (fr, h'.set p (some cs'))
        | none => none
      | none => none
    | none => none
  | some x => match frz1 h x with
    | some (v, h') => some (fr.set t v, h')
    | none => none
  | none => none
def frzTs : List Nat → List AV → Heap → Option (List AV × Heap)
  | [], fr, h => some (fr, h)
  | t :: ts, fr, h => match frzS fr h t with
    | some (fr', h') => frzTs ts fr' h'
    | none => none

/-! ### Code -/
structure AOp where
  dst : Option Nat
  ins : I
  args : List Operand
  guard : Option (Nat × Bool)
  deriving Inhabited
/-- An operation of a region whose order is open: the places of the objects that it may not look at, and, if there are such, the only ones that it may write. -/
structure DOp where
  op : AOp
  forb : List Nat
  wr : Option (List Nat)
  deriving Inhabited
inductive AC where
  | skip
  | reg (ops : List AOp)
  | dreg (ops : List DOp)
  | frz (ts : List Nat)
  | seq (a b : AC)
  | cond (c : Operand) (a b : AC)
  | block (id : Nat) (a : AC)
  | loop (a : AC)
  | exit (id : Nat)
  | scope (a : AC)
  | ret
  deriving Inhabited
structure AFn where
  isPure : Bool
  ntmps : Nat
  res : List (Nat × Option (Bool × Nat))
  body : AC
  /-- A function whose answer is given by its own rule, not by its code. -/
  ext : Option (List AV → Option AV) := none
  deriving Inhabited
/-- A function by its rule. -/
def extFn (e : List AV → Option AV) : AFn := { isPure := true, ntmps := 0, res := [], body := .skip, ext := some e }
/-- Its code is what answers, and it shares nothing. -/
def AFn.plain (f : AFn) : Bool := f.isPure && f.ext.isNone
inductive Ex where
  | normal
  | exit (id : Nat)
  | ret
  deriving Inhabited

def putA (fr : List AV) : Option Nat → AV → List AV
  | some d, v => fr.set d v
  | none, _ => fr
/-- Is the operation wanted? -/
def wantA (fr : List AV) : Option (Nat × Bool) → Option Bool
  | none => some true
  | some (t, b) => match fr[t]? with
    | some (.lit (.bool c)) => some (c == b)
    | some (.lit _) => some false
    | _ => none

/-- What calls answer; and, of functions that are run on their own, the row that they made. -/
structure CallF where
  run : FuncId → List AV → Heap → Option (AV × Heap)
  own : FuncId → List AV → Option (Nat × Nat × Option Nat × List AV)
instance : CoeFun CallF (fun _ => FuncId → List AV → Heap → Option (AV × Heap)) := ⟨CallF.run⟩
/-- A row of which nothing but its length is told. -/
def AV.blind : AV → AV
  | .ref _ _ n _ c => .sl false n c []
  | x => x

def mayWrite (wr : Option (List Nat)) (i : I) (args : List AV) : Bool :=
  match wr with
  | none => true
  | some l => match i, args with
    | .store _, .ptr o _ :: _ => l.contains o
    | _, _ => false
/-- An append in a region whose order is open: a row that it makes lies at its own place 's'. -/
def evWS (l : List Nat) (h : Heap) (s : Nat) (sz bytes : Nat) (args : List AV) : Option (AV × Heap) :=
  match args with
  | [x, y] => match slC (look h) sz x, slC (fun _ => none) sz y with
    | some (n, xs), some (k, ys) => match x with
      | .ref o off m sz' cap =>
        if l.contains o = true ∧ l.contains s = true then
          if k = 0 then some (.ref o off m sz' cap, h) else
          if (2 * (n + k) + 192) * bytes ≤ 2 ^ 48 ∧ n + k ≤ 2 ^ 60 then
            some (.ref s 0 (n + k) sz (capFit (n + k) cap), (h.set o none).set s (some (xs ++ ys)))
          else none
        else none
      | .sl isNil m cap zs =>
        if l.contains s = true then
          if k = 0 then some (.sl isNil m cap zs, h) else
          if (2 * (n + k) + 192) * bytes ≤ 2 ^ 48 ∧ n + k ≤ 2 ^ 60 then
            match cap with
            | some c => if c < n + k then some (.ref s 0 (n + k) sz none, h.set s (some (xs ++ ys))) else none
            | none => none
          else none
        else none
      | _ => none
    | _, _ => none
  | _ => none
/-- What may change objects; in a region whose order is open, 'wr' are the only ones. -/
def evW3 (wr : Option (List Nat)) (h : Heap) (s : Nat) (i : I) (args : List AV) : Option (AV × Heap) :=
  match wr with
  | none => evW h i args
  | some l => match i with
    | .append sz b => evWS l h s sz b args
    | .store k => if mayWrite (some l) (.store k) args = true then evW h (.store k) args else none
    | _ => none
/-- One operation: its value, and the objects behind it; 'g': what it may look at; 's': where an object that it makes goes; 'wr': what it may write. -/
def evCore (cf : CallF) (g : Look) (s : Nat) (wr : Option (List Nat)) (o : AOp) (fr : List AV) (h : Heap) : Option (AV × Heap) :=
  match wantA fr o.guard with
  | none => none
  | some false => some (.lit undef, h)
  | some true => match o.ins.cls with
    | 2 => (evN o.ins (o.args.map (opv fr))).map fun (cs, mk) => (mk s, h.set s (some cs))
    | 3 => evW3 wr h s o.ins (o.args.map (opv fr))
    | 4 => match o.args.map (opv fr) with
      | .fn f cs :: xs => match o.ins with
        | .bcall => cf f ((xs ++ cs).map AV.blind) h
        | .mcall => if (xs ++ cs).all (AV.noRef deep) = true then (cf.own f (xs ++ cs)).map fun (m, sz, cap, ys) => (.ref s 0 m sz cap, h.set s (some ys)) else none
        | _ => cf f (xs ++ cs) h
      | _ => none
    | _ => (evR g o.ins (o.args.map (opv fr))).map fun v => (v, h)
def evOp (cf : CallF) (g : Look) (s : Nat) (wr : Option (List Nat)) (o : AOp) (fr : List AV) (h : Heap) : Option (List AV × Heap) :=
  (evCore cf g s wr o fr h).map fun (v, h') => (putA fr o.dst v, h')

/-- In the order of the text. -/
def evOps (cf : CallF) : List AOp → List AV → Heap → Option (List AV × Heap)
  | [], fr, h => some (fr, h)
  | o :: r, fr, h => match o.ins.cls with
    | 2 => match evOp cf (look h) h.length none o fr (h ++ [none]) with
      | some (fr', h') => evOps cf r fr' h'
      | none => none
    | _ => match evOp cf (look h) 0 none o fr h with
      | some (fr', h') => evOps cf r fr' h'
      | none => none

/-- A look at all but some objects. -/
def hide (h : Heap) (forb : List Nat) : Look := fun o => if forb.contains o then none else look h o
/-- A region whose order is open: object 'base + place' for each operation that makes one. -/
def evDops (cf : List Nat → CallF) (base : Nat) : Nat → List DOp → List AV → Heap → Option (List AV × Heap)
  | _, [], fr, h => some (fr, h)
  | k, o :: r, fr, h =>
    let fb := o.forb.map (base + ·)
    match evOp (cf fb) (hide h fb) (base + k) (o.wr.map fun l => l.map (base + ·)) o.op fr h with
    | some (fr', h') => evDops cf base (k + 1) r fr' h'
    | none => none

def evRes (g : Look) (fr : List AV) : List (Nat × Option (Bool × Nat)) → Option (List AV)
  | [] => some []
  | (t, k) :: r => match k, evRes g fr r with
    | _, none => none
    | none, some vs => match fr[t]? with
      | some v => some (v :: vs)
      | none => none
    | some (ag, k), some vs => match fr[t]? with
      | some p => match evR g (.load ag k) [p] with
        | some v => some (v :: vs)
        | none => none
      | none => none
def oneOf : List AV → AV
  | [v] => v
  | vs => .tup vs

def runFn (ev : AC → List AV → Heap → Option (Ex × List AV × Heap)) (f : AFn) (g : Look) (args : List AV) (h : Heap) : Option (AV × Heap) :=
  if f.isPure then
    match args.mapM (fz g deep) with
    | none => none
    | some args' => match f.ext with
      | some e => match e args' with
        | none => none
        | some v => if args.all (AV.noRef deep) || v.noMem deep then some (v, h) else none
      | none => match ev f.body (args' ++ List.replicate (f.ntmps - args'.length) (.lit undef)) [] with
        | some (.exit _, _, _) | none => none
        | some (_, fr', h') => match evRes (look h') fr' f.res with
          | none => none
          | some vs => match fz (look h') deep (oneOf vs) with
            | none => none
            | some v => if args.all (AV.noRef deep) || v.noMem deep then some (v, h) else none
  else
    match ev f.body (args ++ List.replicate (f.ntmps - args.length) (.lit undef)) h with
    | some (.exit _, _, _) | none => none
    | some (_, fr', h') => (evRes (look h') fr' f.res).map fun vs => (oneOf vs, h')

/-- A function that is run on its own and answers with a row that it made. -/
def mkRun (ev : AC → List AV → Heap → Option (Ex × List AV × Heap)) (f : AFn) (args : List AV) : Option (Nat × Nat × Option Nat × List AV) :=
  if f.ext.isSome then none else
  match runFn ev { f with isPure := false } (look []) args [] with
  | some (.ref o 0 m sz cap, h) => match look h o with
    | some ys => if ys.length = m * sz ∧ ys.all AV.isLit = true then some (m, sz, cap, ys) else none
    | none => none
  | _ => none

def evC (tab : FuncId → Option AFn) : Nat → AC → List AV → Heap → Option (Ex × List AV × Heap)
  | 0, _, _, _ => none
  | n + 1, c, fr, h =>
    let mkF : FuncId → List AV → Option (Nat × Nat × Option Nat × List AV) := fun f args => match tab f with
      | some af => mkRun (evC tab n) af args
      | none => none
    let callF : CallF := ⟨fun f args h => match tab f with
      | some af => runFn (evC tab n) af (look h) args h
      | none => none, mkF⟩
    match c with
    | .skip => some (.normal, fr, h)
    | .reg ops => (evOps callF ops fr h).map fun (fr', h') => (.normal, fr', h')
    | .dreg ops =>
      let callD (forb : List Nat) : CallF := ⟨fun f args h => match tab f with
        | some af => if af.isPure then runFn (evC tab n) af (hide h forb) args h else none
        | none => none, mkF⟩
      (evDops callD h.length 0 ops fr (h ++ List.replicate ops.length none)).map fun (fr', h') => (.normal, fr', h')
    | .frz ts => (frzTs ts fr h).map fun (fr', h') => (.normal, fr', h')
    | .seq a b => match evC tab n a fr h with
      | some (.normal, fr', h') => evC tab n b fr' h'
      | r => r
    | .cond c a b => match opv fr c with
      | .lit (.bool true) => evC tab n a fr h
      | .lit (.bool false) => evC tab n b fr h
      | _ => none
    | .block id a => match evC tab n a fr h with
      | some (.exit id', fr', h') => if id' = id then some (.normal, fr', h') else some (.exit id', fr', h')
      | r => r
    | .loop a => match evC tab n a fr h with
      | some (.normal, fr', h') => evC tab n (.loop a) fr' h'
      | r => r
    | .exit id => some (.exit id, fr, h)
    | .scope a => evC tab n a fr h
    | .ret => some (.ret, fr, h)

def evCall (tab : FuncId → Option AFn) (n : Nat) (f : FuncId) (args : List AV) (h : Heap) : Option (AV × Heap) :=
  match tab f with
  | some af => runFn (evC tab n) af (look h) args h
  | none => none

end Go.Ev
