/-
  A machine of my own ('AM'): blocks by number, no capacities, one order of operations. This text: what it is, how a function of the program is turned into it, how it runs.
-/
import Derived.WalkKit
import Derived.Scope
import Derived.Orders
import Derived.Below
namespace Go.Proofs.Ytpmmiaadfnildaa
open Go
set_option linter.unusedVariables false

/-! ### Values -/
inductive AV where
  | val (v : Value)
  | ptr (id off : Nat)
  | slice (id off len lb : Nat) (ex : Bool) (k : Nat)
  | agg (cs : List AV)
  | tuple (vs : List AV)
  | func (f : FuncId) (caps : List AV)
  | hole                                   -- an empty slice that is not nil, somewhere
  deriving Inhabited

abbrev Heap := List (Option (List AV))
abbrev Slots := Nat → AV
def upd (s : Slots) (d : Nat) (v : AV) : Slots := fun t => if t = d then v else s t

def plainV : Value → Bool
  | .bool _ | .int _ _ | .float _ _ | .complex _ _ _ | .string _ | .nilFunc | .nilIface | .pointer none | .map none | .chan none => true
  | .slice none 0 0 => true
  | _ => false
abbrev AV.nil : AV := .val (.slice none 0 0)
abbrev AV.no : AV := .tuple []

def ofConst : Value → Option AV
  | .agg cs => if cs.toList.all plainV then some (.agg (cs.toList.map .val)) else none
  | .tuple vs => if vs.size = 0 then some (.tuple []) else none
  | .func (.func f) a b => if a.size = 0 ∧ b.size = 0 then some (.func f []) else none
  | v => if plainV v then some (.val v) else none

inductive Opd where
  | tmp (t : Nat)
  | av (v : AV)
  deriving Inhabited
def Opd.ev (s : Slots) : Opd → AV
  | .tmp t => s t
  | .av v => v
def cOpd : Operand → Option Opd
  | .tmp t => some (.tmp t)
  | .const v => (ofConst v).map .av
  | .func f => some (.av (.func f []))
  | .global _ => none

def AV.cells : AV → List AV
  | .agg cs => cs
  | v => [v]
def AV.isCell : AV → Bool
  | .agg _ | .tuple _ => false
  | _ => true

/-! ### Memory -/
def blk (h : Heap) (id : Nat) : Option (List AV) := match h[id]? with | some (some l) => some l | _ => none
def rd (h : Heap) (id off n : Nat) : Option (List AV) := match blk h id with
  | some l => if off + n ≤ l.length then some ((l.drop off).take n) else none
  | none => none
def rd1 (h : Heap) (id off : Nat) : Option AV := match blk h id with
  | some l => l[off]?
  | none => none
def wr (fl : Nat → Bool) (h : Heap) (id off : Nat) (vs : List AV) : Option Heap := match blk h id with
  | some l => if fl id = true ∧ off + vs.length ≤ l.length then some (h.set id (some (l.take off ++ vs ++ l.drop (off + vs.length)))) else none
  | none => none
def kill (h : Heap) (id : Nat) : Heap := h.set id none

def reach : Nat := 140737488351232

/-! ### Operations -/
inductive AOp where
  | mv (x : Opd)
  | pick (c a b : Opd)
  | box (n : Nat) (x : Opd)
  | zero (cs : List AV)
  | build (zero : List AV) (parts : List (Nat × Nat × Opd))
  | lits (k len : Nat) (cells : List AV) (parts : List (Nat × Nat × Opd))
  | load (n : Option Nat) (x : Opd)
  | store (n : Nat) (a v : Opd)
  | nilCheck (x : Opd)
  | bin (op : BinOp) (x y : Opd)
  | eqNil (neg : Bool) (kind : Nat) (x : Opd)
  | eqBool (neg : Bool) (x y : Opd)
  | eqAgg (neg : Bool) (ks : List Nat) (x y : Opd)
  | un (op : UnOp) (x : Opd)
  | conv (k : IntKind) (x : Opd)
  | field (off : Nat) (n : Option Nat) (x : Opd)
  | fieldAddr (off : Nat) (x : Opd)
  | indexAddr (k : Nat) (x i : Opd)
  | indexArr (k len : Nat) (x i : Opd)
  | index (k len : Nat) (n : Option Nat) (x i : Opd)
  | indexStr (x i : Opd)
  | slice (k : Nat) (x : Opd) (lo hi mx : Option Opd)
  | mkSlice (k bytes : Nat) (zero : List AV) (l c : Opd)
  | extract (i : Nat) (x : Opd)
  | func (f : FuncId) (caps : List Opd)
  | call (f : Opd) (args : List Opd)
  | append (k bytes : Nat) (x y : Opd)
  | len (x : Opd)
  | lenStr (x : Opd)
  | copy (k : Nat) (x y : Opd)
  | clear (k : Nat) (zero : List AV) (x : Opd)
  | minmax (max : Bool) (x : Opd) (xs : List Opd)
  | bad
  deriving Inhabited

structure AOper where
  dst : Option Nat
  op : AOp
  guard : Option (Nat × Bool)
  iso : Bool
  deriving Inhabited

inductive ACode where
  | skip
  | ops (l : List AOper)
  | seq (a b : ACode)
  | cond (c : Opd) (a b : ACode)
  | block (id : Nat) (c : ACode)
  | loop (c : ACode)
  | exit (id : Nat)
  | scope (c : ACode)
  | ret
  | bad
  deriving Inhabited

inductive ARes where
  | tmp (t : Nat)
  | cell (a : Nat) (n : Option Nat)
  deriving Inhabited

structure AFunc where
  n : Nat
  body : ACode
  results : List ARes
  deriving Inhabited

/-! ### From the program's code -/
section
variable (P : Program)

def aggT (t : TypeId) : Option (Option Nat) := match P.info? t, P.underlying t with
  | some i, some (.struct _) => some (some i.size)
  | some i, some (.array _ _) => some (some i.size)
  | some _, some _ => some none
  | _, _ => none
def sizeT (t : TypeId) : Option Nat := (P.info? t).map (·.size)
def plains (vs : Array Value) : Option (List AV) := if vs.toList.all plainV then some (vs.toList.map .val) else none
def zeroT (t : TypeId) : Option (List AV) := match P.info? t with
  | some i => match i.zero with
    | some v => plains v.cells
    | none => none
  | none => none
/-- An element's cells, bytes, zero. -/
def elemT (t : TypeId) : Option (Nat × Nat × List AV) := match P.underlying t with
  | some (.slice e) => match P.info? e, zeroT P e with
    | some i, some z => if 0 < i.size ∧ 0 < i.bytes ∧ z.length = i.size then some (i.size, i.bytes, z) else none
    | _, _ => none
  | _ => none

def opds (l : List Operand) : Option (List Opd) := l.mapM cOpd
def tagT (t : TypeId) : Option Nat := match P.underlying t with
  | some (.int _) => some 0
  | some .bool => some 1
  | some .string => some 2
  | _ => none
/-- The fields one behind the other, all plain: their tags. -/
def flatFrom : Nat → List Field → Option (List Nat)
  | _, [] => some []
  | j, f :: r => if f.name ≠ "_" ∧ f.offset = j then (match tagT P f.type with
    | some t => (flatFrom (j + 1) r).map (t :: ·)
    | none => none) else none
def flatT (t : TypeId) : Option (List Nat) := match P.underlying t with
  | some (.struct fs) => if P.stoodInHeld t = false ∧ P.eqGuardType P.depth t = false then flatFrom P 0 fs.toList else none
  | _ => none

def nilKind : Operand → Nat
  | .const (.slice none 0 0) => 0
  | .const (.pointer none) => 1
  | .const .nilFunc => 2
  | _ => 3

def cBin (op : BinOp) (t : TypeId) (x y : Operand) : Option AOp :=
  match cOpd x, cOpd y with
  | some a, some b =>
    match P.underlying t with
    | some (.int _) | some .string => some (.bin op a b)
    | some .bool =>
      match op with
      | .eql => some (.eqBool false a b)
      | .neq => some (.eqBool true a b)
      | _ => none
    | some (.slice _) =>
      match op with
      | .eql => if nilKind y = 0 then some (.eqNil false 0 a) else none
      | .neq => if nilKind y = 0 then some (.eqNil true 0 a) else none
      | _ => none
    | some (.pointer _) =>
      match op with
      | .eql => if nilKind y = 1 then some (.eqNil false 1 a) else none
      | .neq => if nilKind y = 1 then some (.eqNil true 1 a) else none
      | _ => none
    | some (.func _ _ _) =>
      match op with
      | .eql => if nilKind y = 2 then some (.eqNil false 2 a) else none
      | .neq => if nilKind y = 2 then some (.eqNil true 2 a) else none
      | _ => none
    | some (.struct _) =>
      match flatT P t with
      | some ks => match op with
        | .eql => some (.eqAgg false ks a b)
        | .neq => some (.eqAgg true ks a b)
        | _ => none
      | none => none
    | _ => none
  | _, _ => none

def fieldT (t : TypeId) (f : Nat) : Option Field := match P.underlying t with
  | some (.struct fs) => fs[f]?
  | _ => none

def partsAt (place : Nat → Option (Nat × Nat)) (ps : List (Nat × Operand)) : Option (List (Nat × Nat × Opd)) :=
  ps.mapM fun (i, x) => match place i, cOpd x with
    | some (o, n), some y => some (o, n, y)
    | _, _ => none

def optOpd : Option Operand → Option (Option Opd)
  | none => some none
  | some x => (cOpd x).map some

def cOp (o : Oper) : Option AOp :=
  match o.op with
  | .move x | .assign x => (cOpd x).map .mv
  | .pick c a b => do pure (.pick (← cOpd c) (← cOpd a) (← cOpd b))
  | .alloc t => (zeroT P t).map .zero
  | .box t x => do pure (.box (← sizeT P t) (← cOpd x))
  | .build t ps => match P.underlying t with
    | some (.struct fs) => if fs.all (fun f => (sizeT P f.type).isSome) = true then (do pure (.build (← zeroT P t) (← partsAt (fun i => (fs[i]?).bind fun f => (sizeT P f.type).map fun n => (f.offset, n)) ps.toList))) else none
    | some (.array _ e) => do let n ← sizeT P e; pure (.build (← zeroT P t) (← partsAt (fun i => some (i * n, n)) ps.toList))
    | _ => none
  | .buildSlice t len ps => do
    let (k, _, z) ← elemT P t
    if len * k ≤ 2 ^ 24 then pure (.lits k len ((List.range (len * k)).map fun i => z.getD (i % k) .no) (← partsAt (fun i => some (i * k, k)) ps.toList)) else none
  | .load t a => do pure (.load (← aggT P t) (← cOpd a))
  | .store t a v => do pure (.store (← sizeT P t) (← cOpd a) (← cOpd v))
  | .nilCheck x => (cOpd x).map .nilCheck
  | .binOp op t x y _ => cBin P op t x y
  | .unOp op _ x => (cOpd x).map (.un op)
  | .convert s t x => match P.underlying s, P.underlying t with
    | some (.int _), some (.int k) => (cOpd x).map (.conv k)
    | _, _ => none
  | .field t x f => do
    let f ← fieldT P t f
    pure (.field f.offset (← aggT P f.type) (← cOpd x))
  | .fieldAddr t x f => do
    let f ← fieldT P t f
    if (← sizeT P f.type) = 0 then none else pure (.fieldAddr f.offset (← cOpd x))
  | .indexAddr t x i => match P.underlying t with
    | some (.slice _) => do let (k, _, _) ← elemT P t; pure (.indexAddr k (← cOpd x) (← cOpd i))
    | some (.array n e) => do pure (.indexArr (← sizeT P e) n (← cOpd x) (← cOpd i))
    | _ => none
  | .index t x i => match P.underlying t with
    | some (.array n e) => do pure (.index (← sizeT P e) n (← aggT P e) (← cOpd x) (← cOpd i))
    | some .string => do pure (.indexStr (← cOpd x) (← cOpd i))
    | _ => none
  | .slice t x lo hi mx => match P.underlying t with
    | some (.slice _) => if mx.isSome = true ∧ hi.isNone = true then none else do let (k, _, _) ← elemT P t; pure (.slice k (← cOpd x) (← optOpd lo) (← optOpd hi) (← optOpd mx))
    | _ => none
  | .makeSlice t l c => do
    let (k, b, z) ← elemT P t
    pure (.mkSlice k b z (← cOpd l) (← cOpd c))
  | .extract x i => (cOpd x).map (.extract i)
  | .makeFunc (.func f) first captured => if first.size = 0 then (opds captured.toList).map (.func f) else none
  | .call { callee := .value f, args, .. } => do pure (.call (← cOpd f) (← opds args.toList))
  | .call { callee := .builtin b, args, argTypes } =>
    match b, args.toList, argTypes.toList with
    | .append, [x, y], [t, u] => if u = t then do let (k, b, _) ← elemT P t; pure (.append k b (← cOpd x) (← cOpd y)) else none
    | .len, [x], [t] => match P.underlying t with
      | some (.slice _) => (cOpd x).map .len
      | some .string => (cOpd x).map .lenStr
      | _ => none
    | .copy, [x, y], [t, _] => do let (k, _, _) ← elemT P t; pure (.copy k (← cOpd x) (← cOpd y))
    | .clear, [x], [t] => do let (k, _, z) ← elemT P t; pure (.clear k z (← cOpd x))
    | .max, x :: xs, _ => match P.underlying o.type with
      | some (.int _) => do pure (.minmax true (← cOpd x) (← opds xs))
      | _ => none
    | .min, x :: xs, _ => match P.underlying o.type with
      | some (.int _) => do pure (.minmax false (← cOpd x) (← opds xs))
      | _ => none
    | _, _, _ => none
  | _ => none

/-- 0: touches no memory; 1: reads; 2: makes; 3: all else. -/
def clsOp : Op → Nat
  | .move _ | .assign _ | .pick .. | .build .. | .nilCheck _ | .binOp .. | .unOp .. | .convert .. | .field .. | .fieldAddr .. | .indexAddr .. | .index .. | .slice .. | .extract .. | .makeFunc .. => 0
  | .load .. => 1
  | .alloc _ | .box .. | .buildSlice .. | .makeSlice .. => 2
  | .call { callee := .builtin b, .. } => match b with | .len | .max | .min => 0 | _ => 3
  | _ => 3

def tmpsOf (l : List Operand) : List Nat := l.filterMap fun | .tmp t => some t | _ => none
def edges (o : Oper) : List Nat := (o.after.toList.filter (Region.binds .any)).map (·.on)
/-- What stands ahead of each operation. -/
def ancs (ops : List Oper) : List (List Nat) :=
  ops.foldl (fun acc o => acc ++ [((edges o).flatMap fun e => e :: acc.getD e [])]) []
def ordered (an : List (List Nat)) (i k : Nat) : Bool := if i < k then (an.getD k []).contains i else (an.getD i []).contains k
def guardTmp (ops : Array Oper) (o : Oper) : Option (Option (Nat × Bool)) := match o.guard with
  | none => some none
  | some (j, want) => match (ops[j]?).bind (·.dst) with
    | some t => some (some (t, want))
    | none => none
def looks (ops : Array Oper) (o : Oper) : List Nat :=
  tmpsOf o.op.operands.toList ++ (match guardTmp ops o with | some (some (t, _)) => [t] | _ => [])
def isoAt (ops : List Oper) (an : List (List Nat)) (k : Nat) (c : Nat) : Bool :=
  ops.zipIdx.all fun (o, i) => i == k || (match c with
    | 1 => clsOp o.op != 3
    | 3 => clsOp o.op != 1
    | _ => true) || ordered an i k
def drawOk (ops : Array Oper) (an : List (List Nat)) : Bool :=
  ops.toList.zipIdx.all fun (o, k) =>
    ((edges o).all fun e => decide (e < k)) &&
    (ops.toList.zipIdx.all fun (p, i) => i == k || ((clsOp o.op != 3 || clsOp p.op != 3 || ordered an i k) && (match p.dst with
      | some d => (some d != o.dst) && (!(looks ops o).contains d || ordered an i k)
      | none => true)))
def noSelect (o : Oper) : Bool := match o.op with | .select .. => false | _ => true

def cRegion (nt : Nat) (ops : Array Oper) (draw : Bool) : Option (List AOper) :=
  let an := ancs ops.toList
  if (draw → drawOk ops an = true) ∧ (ops.toList.all fun o => match o.dst with | some d => decide (d < nt) | none => true) = true then
    ops.toList.zipIdx.mapM fun (o, k) => do
      pure { dst := o.dst, op := (cOp P o).getD .bad, guard := (← guardTmp ops o), iso := !draw || isoAt ops.toList an k (clsOp o.op) }
  else none

def cCode (nt : Nat) : Code → Option ACode
  | .skip => some .skip
  | .region _ ops draw => (cRegion P nt ops draw).map .ops
  | .seq a b => do pure (.seq (← cCode nt a) (← cCode nt b))
  | .cond c a b => do pure (.cond (← cOpd c) (← cCode nt a) (← cCode nt b))
  | .block id c => (cCode nt c).map (.block id)
  | .loop c => (cCode nt c).map .loop
  | .exit id => some (.exit id)
  | .scope c => (cCode nt c).map .scope
  | .label _ => some .skip
  | .ret => some .ret
  | _ => some .bad

def cRes : ResultVar → Option ARes
  | .tmp t => some (.tmp t)
  | .cell a t => (aggT P t).map (.cell a)

def cFunc (f : FuncId) : Option AFunc := match P.funcs[f]? with
  | some fn => if fn.name == "runtime.NumGoroutine" then none else match fn.body with
    | some c => match cCode P fn.ntmps c, fn.results.toList.mapM (cRes P) with
      | some b, some rs => some { n := fn.ntmps, body := b, results := rs }
      | _, _ => none
    | none => none
  | none => none
end

/-! ### How it runs -/
def binV (op : BinOp) : Value → Value → Option Value
  | .int k a, .int k' b =>
    match op with
    | .shl => if 0 ≤ b then some (.int k (k.wrap (a * 2 ^ (min b.toNat k.bits)))) else none
    | .shr => if 0 ≤ b then some (.int k (a.fdiv (2 ^ (min b.toNat k.bits)))) else none
    | _ => if k = k' then
      match op with
      | .add => some (.int k (k.wrap (a + b)))
      | .sub => some (.int k (k.wrap (a - b)))
      | .mul => some (.int k (k.wrap (a * b)))
      | .quo => if b = 0 then none else some (.int k (k.wrap (a.tdiv b)))
      | .rem => if b = 0 then none else some (.int k (a.tmod b))
      | .and => some (.int k (k.wrap (BitVec.ofInt k.bits a &&& BitVec.ofInt k.bits b).toNat))
      | .or => some (.int k (k.wrap (BitVec.ofInt k.bits a ||| BitVec.ofInt k.bits b).toNat))
      | .xor => some (.int k (k.wrap (BitVec.ofInt k.bits a ^^^ BitVec.ofInt k.bits b).toNat))
      | .andNot => some (.int k (k.wrap (BitVec.ofInt k.bits a &&& ~~~ BitVec.ofInt k.bits b).toNat))
      | .eql => some (.bool (decide (a = b)))
      | .neq => some (.bool (!decide (a = b)))
      | .lss => some (.bool (decide (a < b)))
      | .leq => some (.bool (decide (a ≤ b)))
      | .gtr => some (.bool (decide (b < a)))
      | .geq => some (.bool (decide (b ≤ a)))
      | _ => none
      else none
  | .string a, .string b => match op with
    | .eql => some (.bool (decide (a = b)))
    | .neq => some (.bool (!decide (a = b)))
    | _ => none
  | _, _ => none

def sameV : Nat → Value → Value → Option Bool
  | 0, .int k a, .int k' b => if k = k' then some (decide (a = b)) else none
  | 1, .bool a, .bool b => some (a == b)
  | 2, .string a, .string b => some (decide (a = b))
  | _, _, _ => none
def sameCells : List Nat → List AV → List AV → Option Bool
  | [], [], [] => some true
  | t :: ts, .val a :: x, .val b :: y => match sameV t a b with
    | some t => match sameCells ts x y with
      | some u => some (t && u)
      | none => none
    | none => none
  | _, _, _ => none

def unV (op : UnOp) : Value → Option Value
  | .int k n => match op with
    | .neg => some (.int k (k.wrap (0 - n)))
    | .xor => some (.int k (k.wrap (BitVec.ofInt k.bits (if k.signed then -1 else k.max) ^^^ BitVec.ofInt k.bits n).toNat))
    | _ => none
  | .bool b => match op with
    | .not => some (.bool !b)
    | _ => none
  | _ => none

def nilness : Nat → AV → Option Bool
  | 0, .val (.slice none 0 0) | 1, .val (.pointer none) | 2, .val .nilFunc => some true
  | 1, .ptr _ _ | 0, .slice _ _ _ _ _ _ | 0, .hole | 2, .func _ _ => some false
  | _, _ => none

def fillA : List AV → List (Nat × Nat × AV) → Option (List AV)
  | cs, [] => some cs
  | cs, (o, n, v) :: r => if v.cells.length = n ∧ o + n ≤ cs.length ∧ v.cells.all AV.isCell = true then fillA (cs.take o ++ v.cells ++ cs.drop (o + n)) r else none

def intOfA : AV → Option Int
  | .val (.int _ n) => some n
  | _ => none
def natOfA (v : AV) : Option Nat := match intOfA v with
  | some n => if 0 ≤ n then some n.toNat else none
  | none => none

def partA (cs : List AV) (off : Nat) : Option Nat → Option AV
  | some n => if off + n ≤ cs.length then some (.agg ((cs.drop off).take n)) else none
  | none => cs[off]?

/-- The cells of a slice. -/
def rowOf (h : Heap) (k : Nat) : AV → Option (Nat × List AV)
  | .val (.slice none 0 0) => some (0, [])
  | .hole => some (0, [])
  | .slice id off len _ _ _ => match rd h id off (len * k) with
    | some cs => some (len, cs)
    | none => none
  | _ => none

def appendA (fl : Nat → Bool) (h : Heap) (k bytes : Nat) (x : AV) (n : Nat) (new : List AV) : Option (AV × Heap) :=
  if n = 0 then (match x with | .val (.slice none 0 0) => some (x, h) | .hole => some (x, h) | .slice .. => some (x, h) | _ => none) else
  match x with
  | .val (.slice none 0 0) => if n * bytes ≤ reach then some (.slice h.length 0 n n false k, h ++ [some new]) else none
  | .slice id off len lb ex k' =>
    if k' = k ∧ (len + n) * bytes ≤ reach then
      if len + n ≤ lb then
        match wr fl h id (off + len * k) new with
        | some h' => some (.slice id off (len + n) lb ex k, h')
        | none => none
      else match rd h id off (len * k) with
        | some old =>
          if ex then some (.slice h.length 0 (len + n) (len + n) false k, h ++ [some (old ++ new)])
          else if fl id then some (.slice h.length 0 (len + n) (len + n) false k, kill h id ++ [some (old ++ new)]) else none
        | none => none
    else none
  | _ => none

def sliceA (k : Nat) (x : AV) (lo hi mx : Option AV) : Option AV :=
  let num (d : Nat) : Option AV → Option Nat | none => some d | some v => natOfA v
  match x with
  | .val (.slice none 0 0) => match num 0 lo, num 0 hi, num 0 mx with
    | some 0, some 0, some 0 => some x
    | _, _, _ => none
  | .hole => match num 0 lo, num 0 hi, num 0 mx with
    | some 0, some 0, some 0 => some x
    | _, _, _ => none
  | .slice id off len lb ex k' => match num 0 lo, num len hi, num lb mx with
    | some l, some u, some m => if k' = k ∧ l ≤ u ∧ u ≤ m ∧ m ≤ lb then some (.slice id (off + l * k) (u - l) (m - l) (ex || mx.isSome) k) else none
    | _, _, _ => none
  | _ => none

def bestA (max : Bool) : AV → List AV → Option AV
  | a, [] => some a
  | .val (.int k n), .val (.int _ p) :: r => bestA max (.val (.int k (if max then (if p > n then p else n) else (if p < n then p else n)))) r
  | _, _ => none

def shallowOk : Option (Nat × Option (List Nat)) → Nat → Bool
  | none, _ => true
  | some (base, pr), id => decide (id < base) && (match pr with | none => true | some l => l.contains id)
def idOf : AV → List Nat
  | .ptr id _ | .slice id _ _ _ _ _ => [id]
  | _ => []
def sees (s : Slots) : AOp → List Nat
  | .load _ x => idOf (x.ev s)
  | _ => []
def heavy : AOp → Bool
  | .store .. | .append .. | .copy .. | .clear .. | .call .. => true
  | _ => false
def light : AOp → Bool
  | .mv .. | .fieldAddr .. | .indexAddr .. | .indexArr .. | .slice .. | .nilCheck .. | .bin .. => true
  | _ => false
/-- One operation that is no call: its value, the memory behind it. -/
def opEval (top : Option (Nat × Option (List Nat))) (fl : Nat → Bool) (s : Slots) (h : Heap) : AOp → Option (AV × Heap)
  | .mv x => some (x.ev s, h)
  | .pick c a b => match c.ev s with
    | .val (.bool t) => some (if t then a.ev s else b.ev s, h)
    | _ => none
  | .box n x => if (x.ev s).cells.length = n ∧ (x.ev s).cells.all AV.isCell = true then some (.ptr h.length 0, h ++ [some (x.ev s).cells]) else none
  | .zero cs => some (.ptr h.length 0, h ++ [some cs])
  | .build z ps => match fillA z (ps.map fun p => (p.1, p.2.1, p.2.2.ev s)) with
    | some cs => some (.agg cs, h)
    | none => none
  | .lits k len z ps => match fillA z (ps.map fun p => (p.1, p.2.1, p.2.2.ev s)) with
    | some cs => if cs.all AV.isCell = true then some (.slice h.length 0 len len true k, h ++ [some cs]) else none
    | none => none
  | .load n x => match x.ev s with
    | .ptr id off => if shallowOk top id then match n with
      | some n => match rd h id off n with
        | some cs => some (.agg cs, h)
        | none => none
      | none => match rd1 h id off with
        | some v => some (v, h)
        | none => none
      else none
    | _ => none
  | .store n a v => match a.ev s with
    | .ptr id off => if (v.ev s).cells.length = n ∧ (v.ev s).cells.all AV.isCell = true then match wr fl h id off (v.ev s).cells with
      | some h' => some (.no, h')
      | none => none
      else none
    | _ => none
  | .nilCheck x => match x.ev s with
    | .ptr id off => some (.ptr id off, h)
    | .func f cs => some (.func f cs, h)
    | _ => none
  | .bin op x y => match x.ev s, y.ev s with
    | .val a, .val b => match binV op a b with
      | some v => some (.val v, h)
      | none => none
    | _, _ => none
  | .eqNil neg kd x => match nilness kd (x.ev s) with
    | some b => some (.val (.bool (if neg then !b else b)), h)
    | none => none
  | .eqBool neg x y => match x.ev s, y.ev s with
    | .val (.bool a), .val (.bool b) => some (.val (.bool (if neg then !(a == b) else a == b)), h)
    | _, _ => none
  | .eqAgg neg ks x y => match x.ev s, y.ev s with
    | .agg a, .agg b => match sameCells ks a b with
      | some t => some (.val (.bool (if neg then !t else t)), h)
      | none => none
    | _, _ => none
  | .un op x => match x.ev s with
    | .val a => match unV op a with
      | some v => some (.val v, h)
      | none => none
    | _ => none
  | .conv k x => match x.ev s with
    | .val (.int _ n) => some (.val (.int k (k.wrap n)), h)
    | _ => none
  | .field off n x => match x.ev s with
    | .agg cs => match partA cs off n with
      | some v => some (v, h)
      | none => none
    | _ => none
  | .fieldAddr off x => match x.ev s with
    | .ptr id o => some (.ptr id (o + off), h)
    | _ => none
  | .indexAddr k x i => match x.ev s, natOfA (i.ev s) with
    | .slice id off len _ _ _, some i => if i < len then some (.ptr id (off + i * k), h) else none
    | _, _ => none
  | .indexArr k len x i => match x.ev s, natOfA (i.ev s) with
    | .ptr id off, some i => if i < len then some (.ptr id (off + i * k), h) else none
    | _, _ => none
  | .index k len n x i => match x.ev s, natOfA (i.ev s) with
    | .agg cs, some i => if i < len then match partA cs (i * k) n with
      | some v => some (v, h)
      | none => none
      else none
    | _, _ => none
  | .indexStr x i => match x.ev s, natOfA (i.ev s) with
    | .val (.string t), some i => match t[i]? with
      | some b => some (.val (.int .u8 b.toNat), h)
      | none => none
    | _, _ => none
  | .slice k x lo hi mx => match sliceA k (x.ev s) (lo.map (·.ev s)) (hi.map (·.ev s)) (mx.map (·.ev s)) with
    | some v => some (v, h)
    | none => none
  | .mkSlice k bytes z l c => match natOfA (l.ev s), natOfA (c.ev s) with
    | some l, some c => if l ≤ c ∧ c * bytes ≤ reach then some (.slice h.length 0 l l (l == c) k, h ++ [some (List.replicate l z).flatten]) else none
    | _, _ => none
  | .extract i x => match x.ev s with
    | .tuple vs => match vs[i]? with
      | some v => some (v, h)
      | none => none
    | _ => none
  | .func f caps => some (.func f (caps.map (·.ev s)), h)
  | .call _ _ => none
  | .append k bytes x y => match rowOf h k (y.ev s) with
    | some (n, cs) => appendA fl h k bytes (x.ev s) n cs
    | none => none
  | .len x => match x.ev s with
    | .val (.slice none 0 0) => some (.val (.int .i64 0), h)
    | .hole => some (.val (.int .i64 0), h)
    | .slice _ _ len _ _ _ => some (.val (.int .i64 len), h)
    | _ => none
  | .lenStr x => match x.ev s with
    | .val (.string s) => some (.val (.int .i64 s.size), h)
    | _ => none
  | .copy k x y => match x.ev s, rowOf h k (y.ev s) with
    | .val (.slice none 0 0), some _ => some (.val (.int .i64 0), h)
    | .hole, some _ => some (.val (.int .i64 0), h)
    | .slice id off len _ _ _, some (n, cs) => match wr fl h id off (cs.take (min n len * k)) with
      | some h' => some (.val (.int .i64 (min n len : Nat)), h')
      | none => none
    | _, _ => none
  | .clear k z x => match x.ev s with
    | .val (.slice none 0 0) => some (.no, h)
    | .hole => some (.no, h)
    | .slice id off len _ _ _ => match wr fl h id off (List.replicate len z).flatten with
      | some h' => some (.no, h')
      | none => none
    | _ => none
  | .minmax max x xs => match bestA max (x.ev s) (xs.map (·.ev s)) with
    | some v => some (v, h)
    | none => none
  | .bad => none

abbrev CallT := FuncId → List AV → (Nat → Bool) → Heap → Option (AV × Heap)

def put (s : Slots) (d : Option Nat) (v : AV) : Slots := match d with
  | some d => upd s d v
  | none => s
def wantedA (o : AOper) (s : Slots) : Option Bool := match o.guard with
  | none => some true
  | some (t, want) => match s t with
    | .val (.bool b) => some (b == want)
    | .val _ | .tuple [] => some false
    | _ => none
/-- The blocks that the free reads behind will see, as far as that is known now. -/
def ahead (fl : Nat → Bool) (h : Heap) : List AOper → Slots → List Nat
  | [], _ => []
  | o :: r, s =>
    if light o.op then (match opEval none fl s h o.op with
      | some (v, _) => ahead fl h r (put s o.dst v)
      | none => ahead fl h r s)
    else (if o.iso then [] else sees s o.op) ++ ahead fl h r s
/-- What a region has seen so far: the blocks of its free reads; those that no free change may touch. -/
structure Seen where
  rs : List Nat
  pr : Option (List Nat)
def Seen.with (d : Seen) (o : AOper) (forb : List Nat) (s : Slots) : Seen :=
  if o.iso then d else { rs := sees s o.op ++ d.rs, pr := if heavy o.op then some (match d.pr with | none => forb | some l => l.filter forb.contains) else d.pr }
def lessen (fl : Nat → Bool) (o : AOper) (forb : List Nat) : Nat → Bool := if o.iso then fl else fun i => fl i && !forb.contains i
def runOp (C : CallT) (base : Nat) (fl : Nat → Bool) (d : Seen) (forb : List Nat) (o : AOper) (s : Slots) (h : Heap) : Option (AV × Heap) :=
  match o.op with
  | .call f args => match f.ev s with
    | .func f caps => C f (args.map (·.ev s) ++ caps) (lessen fl o forb) h
    | _ => none
  | op => opEval (if o.iso then none else some (base, d.pr)) (lessen fl o forb) s h op
def forbs (fl : Nat → Bool) (d : Seen) (o : AOper) (r : List AOper) (s : Slots) (h : Heap) : List Nat :=
  if o.iso || !heavy o.op then [] else d.rs ++ ahead fl h r s
def runOps (C : CallT) (base : Nat) (fl : Nat → Bool) : Seen → List AOper → Slots → Heap → Option (Slots × Heap)
  | _, [], s, h => some (s, h)
  | d, o :: r, s, h => match wantedA o s with
    | some true => match runOp C base fl d (forbs fl d o r s h) o s h with
      | some (v, h') => runOps C base fl (d.with o (forbs fl d o r s h) s) r (put s o.dst v) h'
      | none => none
    | some false => runOps C base fl d r (put s o.dst .no) h
    | none => none

inductive AExit where
  | normal | exit (id : Nat) | ret
abbrev Out := Option (AExit × Slots × Heap)
def iter (f : Slots → Heap → Out) : Nat → Slots → Heap → Out
  | 0, _, _ => none
  | n + 1, s, h => match f s h with
    | some (.normal, s', h') => iter f n s' h'
    | r => r
def exec (C : CallT) (n : Nat) (fl : Nat → Bool) : ACode → Slots → Heap → Out
  | .skip, s, h => some (.normal, s, h)
  | .ops l, s, h => match runOps C h.length fl ⟨[], none⟩ l s h with
    | some (s', h') => some (.normal, s', h')
    | none => none
  | .seq a b, s, h => match exec C n fl a s h with
    | some (.normal, s', h') => exec C n fl b s' h'
    | r => r
  | .cond c a b, s, h => match c.ev s with
    | .val (.bool t) => if t then exec C n fl a s h else exec C n fl b s h
    | _ => none
  | .block id c, s, h => match exec C n fl c s h with
    | some (.exit j, s', h') => if j = id then some (.normal, s', h') else some (.exit j, s', h')
    | r => r
  | .loop c, s, h => iter (exec C n fl c) n s h
  | .exit id, s, h => some (.exit id, s, h)
  | .scope c, s, h => exec C n fl c s h
  | .ret, s, h => some (.ret, s, h)
  | .bad, _, _ => none
def resA (s : Slots) (h : Heap) : ARes → Option AV
  | .tmp t => some (s t)
  | .cell a n => match s a with
    | .ptr id off => match n with
      | some n => (rd h id off n).map .agg
      | none => rd1 h id off
    | _ => none
def resultsA (rs : List ARes) (s : Slots) (h : Heap) : Option AV := match rs with
  | [r] => resA s h r
  | rs => (rs.mapM (resA s h)).map .tuple
def call (X : CallT) (F : FuncId → Option AFunc) : Nat → CallT
  | 0, f, args, fl, h => X f args fl h
  | n + 1, f, args, fl, h => match X f args fl h with
    | some r => some r
    | none => match F f with
      | some af => if args.length ≤ af.n then match exec (call X F n) n fl af.body (fun t => args.getD t .no) h with
        | some (.normal, s', h') | some (.ret, s', h') => (resultsA af.results s' h').map fun v => (v, h')
        | _ => none
        else none
      | none => none
def noX : CallT := fun _ _ _ _ => none
end Go.Proofs.Ytpmmiaadfnildaa
