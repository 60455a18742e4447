/- The evaluator's code out of the model's code. -/
import Derived.Test.YtpjjloaphlaokaaEvA
set_option linter.unusedVariables false
set_option linter.unusedSimpArgs false
namespace Go.Ev
open Go

section
variable (P : Program)
def szOf (t : TypeId) : Option Nat := (P.info? t).map (·.size)
def byOf (t : TypeId) : Option Nat := (P.info? t).map (·.bytes)
def aggT (t : TypeId) : Option Bool := match P.underlying t with
  | some (.struct _) | some (.array _ _) => some true
  | some _ => some false
  | none => none
/-- How a variable of a type is read: as one value, or as so many cells. -/
def loadI (t : TypeId) : Option (Bool × Nat) := match aggT P t, szOf P t with
  | some true, some k => some (true, k)
  | some false, some _ => some (false, 1)
  | _, _ => none
def zeroOf (t : TypeId) : Option (List AV) := match P.info? t with
  | some i => match i.zero with
    | some z => match ofVal z with
      | some a => a.cells?
      | none => none
    | none => none
  | none => none
def fieldPs (fs : Array Field) : Option (List (Nat × Nat)) := fs.toList.mapM fun f => (szOf P f.type).map fun k => (f.offset, k)

def tr (o : Op) : Option (I × List Operand) :=
  match o with
  | .move x | .assign x => some (.mv, [x])
  | .pick c a b => some (.pick, [c, a, b])
  | .alloc t => (zeroOf P t).map fun z => (.new z, [])
  | .box _ x => some (.box, [x])
  | .build t parts => match zeroOf P t, P.underlying t with
    | some zero, some (.struct fs) => match fieldPs P fs with
      | some ps => (parts.toList.mapM fun p => ps[p.1]?).map fun qs => (.build zero qs, parts.toList.map (·.2))
      | none => none
    | some zero, some (.array _ e) => (szOf P e).map fun sz => (.build zero (parts.toList.map fun p => (p.1 * sz, sz)), parts.toList.map (·.2))
    | _, _ => none
  | .buildSlice t len parts => match P.underlying t with
    | some (.slice e) => match szOf P e with
      | some sz => if len * sz > 2 ^ 24 then none else
        match (if len * sz = 0 then some [] else zeroOf P e) with
        | some zero => if len * sz = 0 ∨ zero.length = sz then some (.bslice len sz (zcells zero (len * sz)) (parts.toList.map fun p => (p.1 * sz, sz)), parts.toList.map (·.2)) else none
        | none => none
      | none => none
    | _ => none
  | .load t a => (loadI P t).map fun (ag, k) => (.load ag k, [a])
  | .store t a x => (szOf P t).map fun k => (.store k, [a, x])
  | .binOp op t x y _ => match P.underlying t with
    | some (.int _) | some .string => some (.bin op, [x, y])
    | some .bool => match op with
      | .eql => some (.beq false, [x, y])
      | .neq => some (.beq true, [x, y])
      | _ => none
    | some (.slice _) => match op with
      | .eql => some (.snil false, [x, y])
      | .neq => some (.snil true, [x, y])
      | _ => none
    | _ => none
  | .unOp op _ x => some (.un op, [x])
  | .convert s d x => match P.underlying s, P.underlying d with
    | some (.int _), some (.int k) => some (.conv k, [x])
    | some .string, some .string => some (.convS, [x])
    | some .string, some (.slice e) => match P.underlying e with
      | some (.int .u8) => some (.s2b, [x])
      | _ => none
    | some (.slice e), some .string => match P.underlying e with
      | some (.int .u8) => some (.b2s, [x])
      | _ => none
    | some (.slice _), some (.slice e) => if Nat.beq s d then match P.underlying e with
      | some (.int .u8) => some (.markS, [x])
      | _ => none
      else none
    | _, _ => none
  | .makeFunc (.func f) first cs => if first.isEmpty then some (.mkfn f, cs.toList) else none
  | .makeSlice t l c => match P.underlying t with
    | some (.slice e) => match szOf P e, byOf P e, zeroOf P e with
      | some sz, some by_, some zero => some (.mkslice sz by_ zero, [l, c])
      | _, _, _ => none
    | _ => none
  | .slice t x lo hi mx => match P.underlying t with
    | some (.slice e) => (szOf P e).map fun sz => (.slice sz lo.isSome hi.isSome mx.isSome, x :: (lo.toList ++ hi.toList ++ mx.toList))
    | some .string => if mx.isSome then none else some (.sliceS lo.isSome hi.isSome, x :: (lo.toList ++ hi.toList))
    | _ => none
  | .fieldAddr s x f => match P.underlying s with
    | some (.struct fs) => match fs[f]? with
      | some fd => match szOf P fd.type with
        | some 0 | none => none
        | some _ => some (.faddr fd.offset, [x])
      | none => none
    | _ => none
  | .field t x f => match P.underlying t with
    | some (.struct fs) => match fs[f]? with
      | some fd => (loadI P fd.type).map fun (ag, k) => (.field ag fd.offset k, [x])
      | none => none
    | _ => none
  | .indexAddr t x ix => match P.underlying t with
    | some (.slice e) => (szOf P e).map fun sz => (.iaddr none sz, [x, ix])
    | some (.array n e) => (szOf P e).map fun sz => (.iaddr (some n) sz, [x, ix])
    | _ => none
  | .index t x ix => match P.underlying t with
    | some .string => some (.idxS, [x, ix])
    | some (.array n e) => match aggT P e, szOf P e with
      | some ag, some sz => if ag ∨ sz = 1 then some (.idxA n ag sz, [x, ix]) else none
      | _, _ => none
    | _ => none
  | .extract t i => some (.ext i, [t])
  | .nilCheck x => some (.nilck, [x])
  | .call c => match c.callee with
    | .value f => some (.call, f :: c.args.toList)
    | .builtin .len => match c.argTypes[0]?, c.args.toList with
      | some t, [x] => match P.underlying t with
        | some (.slice _) => some (.len false, [x])
        | some .string => some (.len true, [x])
        | _ => none
      | _, _ => none
    | .builtin .append => match c.argTypes[0]?, c.argTypes[1]?, c.args.toList with
      | some t, some u, [s, x] => match P.underlying t, P.underlying u with
        | some (.slice e), some (.slice _) | some (.slice e), some .string => match szOf P e, byOf P e, zeroOf P e with
          | some sz, some by_, some zero => if zero.length = sz then some (.append sz by_, [s, x]) else none
          | _, _, _ => none
        | _, _ => none
      | _, _, _ => none
    | .builtin .copy => match c.argTypes[0]?, c.args.toList with
      | some t, [d, x] => match P.underlying t with
        | some (.slice e) => (szOf P e).map fun sz => (.copy sz, [d, x])
        | _ => none
      | _, _ => none
    | .builtin .max => match c.args.toList with
      | [x, y] => some (.max, [x, y])
      | _ => none
    | .builtin .min => match c.args.toList with
      | [x, y] => some (.min, [x, y])
      | _ => none
    | _ => none
  | _ => none

def trG (ops : Array Oper) : Option (Nat × Bool) → Option (Option (Nat × Bool))
  | none => some none
  | some (j, b) => match (ops[j]?).bind (·.dst) with
    | some t => some (some (t, b))
    | none => none
def trO (ops : Array Oper) (o : Oper) : Option AOp := match tr P o.op, trG ops o.guard with
  | some (i, args), some g => some { dst := o.dst, ins := i, args, guard := g }
  | _, _ => none
end

/-- Lean's kernel reckons a number before it goes on. -/
def strict {α : Type} (n : Nat) (k : Nat → α) : α := match n with
  | 0 => k 0
  | m + 1 => k (m + 1)
theorem strict_eq {α : Type} (n : Nat) (k : Nat → α) : strict n k = k n := by cases n <;> rfl
def bindsOf (o : Oper) : List Nat := (o.after.toList.filter (Region.binds .any)).map (·.on)
def maskOf (ps : List Nat) : List Nat → Nat → Nat
  | [], m => m
  | e :: r, m => maskOf ps r (m ||| 2 ^ e ||| ps.getD e 0)
/-- The places that must come before, by the edges, as the bits of numbers. -/
def predsFrom : List Nat → List Oper → List Nat
  | acc, [] => acc
  | acc, o :: r => strict (maskOf acc (bindsOf o) 0) fun m => predsFrom (acc ++ [m]) r
def predsOf (ops : Array Oper) : List Nat := predsFrom [] ops.toList
/-- Of each place: each that is to come before comes before by an edge, or before one that does; edges lead back. -/
def predsOk (ps : List Nat) : Nat → List Oper → Bool
  | _, [] => true
  | i, o :: r => (bindsOf o).all (fun e => Nat.blt e i) && Nat.beq (ps.getD i 0) (maskOf ps (bindsOf o) 0) && predsOk ps (i + 1) r
def AOp.looks (o : AOp) : List Nat := (o.args.filterMap fun | .tmp t => some t | _ => none) ++ (o.guard.toList.map (·.1))
def apartA (x y : AOp) : Bool := match x.dst with
  | some d => !(y.looks).contains d && y.dst != some d
  | none => true
/-- The class, a call being one that only reads. -/
def AOp.cl (o : AOp) : Nat := match o.ins with
  | .mcall => 2
  | i => match i.cls with
    | 4 => 1
    | c => c
/-- Calls whose rows are handed on blind, or whose row comes back as an object, by the slots that they set. -/
def AOp.flag (bl mk : List Nat) (o : AOp) : AOp := match o.ins, o.dst with
  | .call, some d => if bl.contains d then { o with ins := .bcall } else if mk.contains d then { o with ins := .mcall } else o
  | _, _ => o
def clsOk (x : DOp) (i : Nat) (y : DOp) (j : Nat) : Bool :=
  let a := x.op.cl
  let b := y.op.cl
  a == 0 || b == 0 || (Nat.ble a 2 && Nat.ble b 2) ||
  (a == 3 && Nat.ble b 2 && match x.wr with | some l => l.all (fun s => y.forb.contains s && s != j) | none => false) ||
  (b == 3 && Nat.ble a 2 && match y.wr with | some l => l.all (fun s => x.forb.contains s && s != i) | none => false)
def pairOk (x : DOp) (i : Nat) (y : DOp) (j : Nat) : Bool :=
  apartA x.op y.op && apartA y.op x.op && clsOk x i y j && (x.op.cl != 2 || y.forb.contains i) && (y.op.cl != 2 || x.forb.contains j)
/-- Against all operations from place 'j' on. -/
def rowOk (ps : List Nat) (x : DOp) (i : Nat) : Nat → List DOp → Bool
  | _, [] => true
  | j, y :: r => ((ps.getD j 0).testBit i || pairOk x i y j) && rowOk ps x i (j + 1) r
def drawOk (ps : List Nat) : Nat → List DOp → Bool
  | _, [] => true
  | i, x :: r => rowOk ps x i (i + 1) r && drawOk ps (i + 1) r
/-- The places of operations of some classes. -/
def placesOf (p : Nat → Bool) : Nat → List AOp → List Nat
  | _, [] => []
  | i, o :: r => if p o.cl then i :: placesOf p (i + 1) r else placesOf p (i + 1) r
def forbOf (ps ms : List Nat) (j : Nat) : List Nat := ms.filter fun i => !Nat.beq i j && !(ps.getD j 0).testBit i
def I.isApp : I → Bool
  | .append .. => true
  | _ => false
/-- The places of which it is open whether they come before or after. -/
def openOf (ps us : List Nat) (j : Nat) : List Nat := us.filter fun i => !Nat.beq i j && !(ps.getD j 0).testBit i && !(ps.getD i 0).testBit j
def wrOf (ps ms us : List Nat) (j : Nat) (o : AOp) : Option (List Nat) :=
  match openOf ps us j with
  | [] => none
  | u :: r => some ((if o.ins.isApp then [j] else []) ++ ms.filter fun m => (ps.getD j 0).testBit m && (u :: r).all fun y => (forbOf ps ms y).contains m && !Nat.beq m y)
def withForb (ps ms us : List Nat) : Nat → List AOp → List DOp
  | _, [] => []
  | j, o :: r => { op := o, forb := forbOf ps ms j, wr := if o.cl = 3 then wrOf ps ms us j o else none } :: withForb ps ms us (j + 1) r
/-- The places at which an object may come to lie. -/
def makersOf (ps us : List Nat) : Nat → List AOp → List Nat
  | _, [] => []
  | i, o :: r => if Nat.beq o.cl 2 || o.ins.isApp && !(openOf ps us i).isEmpty then i :: makersOf ps us (i + 1) r else makersOf ps us (i + 1) r
def dopsOf (ps : List Nat) (l : List AOp) : List DOp := withForb ps (makersOf ps (placesOf (fun c => Nat.ble 1 c) 0 l) 0 l) (placesOf (fun c => Nat.ble 1 c) 0 l) 0 l

/-- A call at the end that waits for all others, and the others. -/
def lastOf (ps : List Nat) (l : List AOp) : Option (List AOp × AOp) := match l.reverse with
  | [] => none
  | x :: r => if Nat.beq x.ins.cls 4 && Nat.beq (ps.getD r.length 0) (2 ^ r.length - 1) then some (r.reverse, x) else none

abbrev Frz := List (Nat × List Nat)
def frzOf (frz : Frz) (id : Nat) : Option (List Nat) := (frz.find? fun x => Nat.beq x.1 id).map (·.2)
def compR (bl mk : List Nat) (ops : Array Oper) (draw : Bool) (l : List AOp) : Option AC :=
  if draw then
    let ps := predsOf ops
    match lastOf ps l with
    | some (lp, x) =>
      let l' := dopsOf ps (lp.map (AOp.flag bl mk))
      if predsOk ps 0 ops.toList && drawOk ps 0 l' then some (AC.seq (.dreg l') (.reg [x])) else none
    | none =>
      let l' := dopsOf ps (l.map (AOp.flag bl mk))
      if predsOk ps 0 ops.toList && drawOk ps 0 l' then some (AC.dreg l') else none
  else some (AC.reg l)
def flagsOf (frz : Frz) (id : Nat) : List Nat := (frzOf frz id).getD []
def comp (P : Program) (frz : Frz) : Code → Option AC
  | .skip => some .skip
  | .region id ops draw => match ops.toList.mapM (trO P ops) with
    | none => none
    | some l => match frzOf frz id with
      | some ts => (compR (flagsOf frz (id + 1000000)) (flagsOf frz (id + 2000000)) ops draw l).map (AC.seq (.frz ts))
      | none => compR (flagsOf frz (id + 1000000)) (flagsOf frz (id + 2000000)) ops draw l
  | .seq a b => match comp P frz a, comp P frz b with
    | some a, some b => some (.seq a b)
    | _, _ => none
  | .cond c a b => match comp P frz a, comp P frz b with
    | some a, some b => some (.cond c a b)
    | _, _ => none
  | .block id a => (comp P frz a).map (.block id)
  | .loop a => (comp P frz a).map .loop
  | .exit id => some (.exit id)
  | .scope a => (comp P frz a).map .scope
  | .ret => some .ret
  | _ => none

def trR (P : Program) : ResultVar → Option (Nat × Option (Bool × Nat))
  | .tmp t => some (t, none)
  | .cell a t => (loadI P t).map fun x => (a, some x)
abbrev Pol := FuncId → Bool × Frz
def compFn (P : Program) (pol : Pol) (f : FuncId) : Option AFn := match P.funcs[f]? with
  | some fn => if fn.name == "runtime.NumGoroutine" then none else match fn.body with
    | some b => match comp P (pol f).2 b, fn.results.toList.mapM (trR P) with
      | some c, some rs => some { isPure := (pol f).1, ntmps := fn.ntmps, res := rs, body := c }
      | _, _ => none
    | none => none
  | none => none
abbrev Ext := FuncId → Option (List AV → Option AV)
def noX : Ext := fun _ => none
def tabOf (P : Program) (pol : Pol) (X : Ext) : FuncId → Option AFn := fun f => match X f with
  | some e => some (extFn e)
  | none => compFn P pol f

end Go.Ev
