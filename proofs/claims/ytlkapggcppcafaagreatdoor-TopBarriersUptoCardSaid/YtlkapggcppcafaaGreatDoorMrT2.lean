/-
  A machine of my own ('AM'): blocks by number, no capacities, one order of operations. This text: what it is, how a function of the program is turned into it, how it runs.
-/
import Derived.Below
import Derived.ChangeKeysEq
import Derived.DeepKeys4
import Derived.IntWalk
import Derived.Laws.Append
import Derived.Laws.AppendOwn
import Derived.Laws.BytesArg
import Derived.Laws.CopyRow
import Derived.Laws.Entries
import Derived.Laws.StructEq
import Derived.MapKept
import Derived.Maps.Keyed
import Derived.Orders
import Derived.Scope
import Derived.WalkKit
set_option linter.unusedVariables false
set_option linter.unusedSimpArgs false
open Array renaming eq_empty_of_size_eq_zero→U3,getElem?_push_lt→V6,getElem?_eq_getElem→V7,getElem?_modify→M0,getElem?_toList→N3,toList_extract→N4,length_toList→E4,range→E5,toList_map→E6,map→E8,getElem?_append_left→G1,getElem?_setIfInBounds→G5,toList_push→G6,toList_modify→G7,toList_eraseIdxIfInBounds→G8,toList_append→W7,getD_eq_getD_getElem?→J0
open Bool renaming and_eq_true→U2,false_eq_true→N6
open List renaming range→O5,replicate→O6,getElem?_append→O7,getElem?_take→O8,getElem?_drop→O9,getElem?_eq_some_iff→U0,getElem?_eq_getElem→U1,mem_append→O3,mem_map→U6,ext_getElem?→U7,getElem?_map→U8,getElem?_append_left→V5,getElem?_set→M1,getElem_of_mem→M3,getElem_mem→M4,mem_of_mem_take→M6,mem_of_mem_drop→M7,append_assoc→M8,getElem?_toArray→M9,getElem?_append_right→N0,all_eq_true→N2,extract_eq_take_drop→N5,drop_drop→N7,cons_append→N9,drop_take→Q0,length_cons→Q3,take→Q4,getElem?_cons_succ→Q5,mapM_cons→Q7,getD→E7,mem_flatten→Y6,eq_of_mem_replicate→Y7,getElem?_range→Y8,eq_nil_of_length_eq_zero→Y9,length_append→G3,modify_succ_cons→G4,length_nil→G9,drop_zero→W1,drop_succ_cons→W4,pairwise_cons→W5,mem_iff_getElem→W6
open Nat renaming lt_of_lt_of_le→V0,le_refl→V2,le_trans→V3,add_assoc→V4,add_zero→M5,add_comm→N8,mul_le_mul_right→E9,add_mul→Y0,le_mul_of_pos_right→Y4,min→G0
open Option renaming map_eq_some_iff→U5,map_some→U9,pure_def→Q6,bind_eq_bind→Q8,bind_some→Q9,bind_eq_some_iff→E0,getD_none→W8,getD_some→W9
open Option.some renaming injEq→U4
namespace Go.Proofs.YtlkapggcppcafaaGreatDoor
open IntWalk renaming i64_in→Y5
open World renaming cell?→V1,cell?_alloc_lt→V8,setRow→V9
section
open Go
/-! ### Values -/
inductive AV where
  |val (v:Value)
  |ptr (id off:Nat)
  |slice (id off len lb:Nat) (ex:Bool) (k:Nat)
  |agg (cs:List AV)
  |tuple (vs:List AV)
  |func (f:FuncId) (caps:List AV)
  | hole                                   -- an empty slice that is not nil, somewhere
  | mp (id : Nat)                          -- a map keyed by whole numbers
  | bfunc (f : FuncId) (first caps : List AV)   -- a function with its first arguments
  deriving Inhabited
abbrev Heap:=List (Option (List AV))
abbrev jal:=Nat→AV
def upd (s:jal)(d:Nat)(v:AV):jal:=fun t=>if t=d then v else s t
def jhv:Value→Bool
  | .bool _| .int _ _| .float _ _| .complex _ _ _| .string _| .nilFunc| .nilIface| .pointer none| .map none| .chan none=>true
  | .slice none 0 0=>true
  | .iface _ (.agg a)=>a.isEmpty
  |_=>false
abbrev AV.nil:AV:= .val (.slice none 0 0)
abbrev AV.no:AV:= .tuple []
def jiL:Value→Option AV
  | .agg cs=>if cs.toList.all jhv then some (.agg (cs.toList.map .val)) else none
  | .tuple vs=>if vs.size=0 then some (.tuple []) else none
  | .func (.func f) a b=>if a.size=0∧b.size=0 then some (.func f []) else none
  |v=>if jhv v then some (.val v) else none
inductive Opd where
  |tmp (t:Nat)
  |av (v:AV)
  deriving Inhabited
def Opd.ev (s:jal):Opd→AV
  | .tmp t=>s t
  | .av v=>v
def cOpd:Operand→Option Opd
  | .tmp t=>some (.tmp t)
  | .const v=>(jiL v).map .av
  | .func f=>some (.av (.func f []))
  | .global _=>none
def AV.cells:AV→List AV
  | .agg cs=>cs
  |v=>[v]
def AV.isCell:AV→Bool
  | .agg _| .tuple _=>false
  |_=>true
/-! ### Memory -/
def blk (h:Heap)(id:Nat):Option (List AV):=match h[id]? with|some (some l)=>some l|_=>none
def rd (h:Heap)(id off n:Nat):Option (List AV):=match blk h id with
  |some l=>if off+n≤l.length then some ((l.drop off).take n) else none
  |none=>none
def rd1 (h:Heap)(id off:Nat):Option AV:=match blk h id with
  |some l=>l[off]?
  |none=>none
def wr (fl:Nat→Bool)(h:Heap)(id off:Nat)(vs:List AV):Option Heap:=match blk h id with
  |some l=>if fl id=true∧off+vs.length≤l.length then some (h.set id (some (l.take off++vs++l.drop (off+vs.length)))) else none
  |none=>none
def kill (h:Heap)(id:Nat):Heap:=h.set id none
def reach:Nat:=140737488351232
/-! ### Operations -/
inductive AOp where
  |mv (x:Opd)
  |pick (c a b:Opd)
  |box (n:Nat) (x:Opd)
  |zero (cs:List AV)
  |build (zero:List AV) (parts:List (Nat×Nat×Opd))
  |lits (k len:Nat) (cells:List AV) (parts:List (Nat×Nat×Opd))
  |load (n:Option Nat) (x:Opd)
  |store (n:Nat) (a v:Opd)
  |nilCheck (x:Opd)
  |bin (op:BinOp) (x y:Opd)
  |eqNil (neg:Bool) (kind:Nat) (x:Opd)
  |eqBool (neg:Bool) (x y:Opd)
  |eqAgg (neg:Bool) (ks:List Nat) (x y:Opd)
  |un (op:UnOp) (x:Opd)
  |conv (k:IntKind) (x:Opd)
  |field (off:Nat) (n:Option Nat) (x:Opd)
  |fieldAddr (off:Nat) (x:Opd)
  |indexAddr (k:Nat) (x i:Opd)
  |indexArr (k len:Nat) (x i:Opd)
  |index (k len:Nat) (n:Option Nat) (x i:Opd)
  |indexStr (x i:Opd)
  |slice (k:Nat) (x:Opd) (lo hi mx:Option Opd)
  |mkSlice (k bytes:Nat) (zero:List AV) (l c:Opd)
  |extract (i:Nat) (x:Opd)
  |func (f:FuncId) (caps:List Opd)
  |call (f:Opd) (args:List Opd)
  |append (k bytes:Nat) (x y:Opd)
  |len (x:Opd)
  |lenStr (x:Opd)
  |copy (k:Nat) (x y:Opd)
  |clear (k:Nat) (zero:List AV) (x:Opd)
  |minmax (max:Bool) (x:Opd) (xs:List Opd)
  |mkMap
  |mapSet (m k v:Opd)
  |mapGet (ok:Bool) (zero:AV) (m k:Opd)
  |mapDel (m k:Opd)
  |mapClear (m:Opd)
  |mapLen (m:Opd)
  |sliceArr (k n:Nat) (x:Opd) (lo hi mx:Option Opd)
  |bfunc (f:FuncId) (first caps:List Opd)
  |iface (t:TypeId) (x:Opd)
  |panic (x:Opd)
  |toStr (x:Opd)
  |mkMapK (kd:Bool)
  |mapSetK (kd:Bool) (m k v:Opd)
  |mapGetK (kd ok:Bool) (zero:AV) (m k:Opd)
  |bad
  deriving Inhabited
structure jav where
  dst:Option Nat
  op:AOp
  guard:Option (Nat×Bool)
  iso:Bool
  deriving Inhabited
inductive jam where
  |skip
  |ops (l:List jav)
  |opsD (l:List jav)
  |opsW (l:List jav)
  |seq (a b:jam)
  |cond (c:Opd) (a b:jam)
  |block (id:Nat) (c:jam)
  |loop (c:jam)
  |exit (id:Nat)
  |scope (c:jam)
  |ret
  |bad
  deriving Inhabited
inductive ARes where
  |tmp (t:Nat)
  |cell (a:Nat) (n:Option Nat)
  deriving Inhabited
structure jbq where
  n:Nat
  body:jam
  results:List ARes
  deriving Inhabited
/-! ### From the program's code -/
section
variable (P:Program)
def aggT (t:TypeId):Option (Option Nat):=match P.info? t,P.underlying t with
  |some i,some (.struct _)=>some (some i.size)
  |some i,some (.array _ _)=>some (some i.size)
  |some _,some _=>some none
  |_,_=>none
def jco (t:TypeId):Option Nat:=(P.info? t).map (·.size)
def plains (vs:Array Value):Option (List AV):=if vs.toList.all jhv then some (vs.toList.map .val) else none
def jig (t:TypeId):Option (List AV):=match P.info? t with
  |some i=>match i.zero with
    |some v=>plains v.cells
    |none=>none
  |none=>none
def jfU (t:TypeId):Option (Nat×Nat×List AV):=match P.underlying t with
  |some (.slice e)=>match P.info? e,jig P e with
    |some i,some z=>if 0<i.size∧0<i.bytes∧z.length=i.size then some (i.size,i.bytes,z) else none
    |_,_=>none
  |_=>none
def opds (l:List Operand):Option (List Opd):=l.mapM cOpd
def tagT (t:TypeId):Option Nat:=match P.underlying t with
  |some (.int _)=>some 0
  |some .bool=>some 1
  |some .string=>some 2
  |_=>none
def jfv:Nat→List Field→Option (List Nat)
  |_,[]=>some []
  | j, f :: r => if f.name ≠ "_" ∧ f.offset = j then (match tagT P f.type with
    |some t=>(jfv (j+1) r).map (t:: ·)
    |none=>none) else none
def juy (t:TypeId):Option (List Nat):=match P.underlying t with
  |some (.struct fs)=>if P.stoodInHeld t=false then jfv P 0 fs.toList else none
  |_=>none
def jfR:Nat→List Field→Option (List Nat)
  |_,[]=>some []
  | j, f :: r => if f.name ≠ "_" ∧ f.offset = j then (match tagT P f.type with
    |some t=>(jfR (j+1) r).map (t:: ·)
    |none=>match juy P f.type with
      |some ks=>if P.cellsOf f.type=ks.length then (jfR (j+ks.length) r).map (ks++ ·) else none
      |none=>none) else none
def flatT (t:TypeId):Option (List Nat):=match P.underlying t with
  |some (.struct fs)=>if P.stoodInHeld t=false∧P.eqGuardType P.depth t=false then jfR P 0 fs.toList else none
  |_=>none
def jeV:Operand→Nat
  | .const (.slice none 0 0)=>0
  | .const (.pointer none)=>1
  | .const .nilFunc=>2
  |_=>3
def cBin (op:BinOp)(t:TypeId)(x y:Operand):Option AOp:=
  match cOpd x,cOpd y with
  |some a,some b=>
    match P.underlying t with
    |some (.int _)|some .string=>some (.bin op a b)
    |some .bool=>
      match op with
      | .eql=>some (.eqBool false a b)
      | .neq=>some (.eqBool true a b)
      |_=>none
    |some (.slice _)=>
      match op with
      | .eql=>if jeV y=0 then some (.eqNil false 0 a) else none
      | .neq=>if jeV y=0 then some (.eqNil true 0 a) else none
      |_=>none
    |some (.pointer _)=>
      match op with
      | .eql=>if jeV y=1 then some (.eqNil false 1 a) else none
      | .neq=>if jeV y=1 then some (.eqNil true 1 a) else none
      |_=>none
    |some (.float _)=>
      match op with
      | .eql| .neq=>some (.bin op a b)
      |_=>none
    |some (.func _ _ _)=>
      match op with
      | .eql=>if jeV y=2 then some (.eqNil false 2 a) else none
      | .neq=>if jeV y=2 then some (.eqNil true 2 a) else none
      |_=>none
    |some (.struct _)=>
      match flatT P t with
      |some ks=>match op with
        | .eql=>some (.eqAgg false ks a b)
        | .neq=>some (.eqAgg true ks a b)
        |_=>none
      |none=>none
    |_=>none
  |_,_=>none
def jku (t:TypeId)(f:Nat):Option Field:=match P.underlying t with
  |some (.struct fs)=>fs[f]?
  |_=>none
def jdz (place:Nat→Option (Nat×Nat))(ps:List (Nat×Operand)):Option (List (Nat×Nat×Opd)):=
  ps.mapM fun (i,x)=>match place i,cOpd x with
    |some (o,n),some y=>some (o,n,y)
    |_,_=>none
def jgv:Option Operand→Option (Option Opd)
  |none=>some none
  |some x=>(cOpd x).map some
def mapT (t:TypeId):Option AV:=match P.underlying t with
  |some (.map k e)=>match P.underlying k,P.info? e with
    |some (.int .i64),some i=>match i.zero with
      |some v=>jiL v
      |none=>none
    |_,_=>none
  |_=>none
def jm0 (k:TypeId):Bool:=match P.underlying k with
  |some (.struct fs)=>(match fs.toList with
    | [f, g] => f.name != "_" && g.name != "_" && f.offset == 0 && g.offset == 1 && (match P.underlying f.type, P.underlying g.type with
      |some (.int .i64),some (.int .i64)=>true
      |_,_=>false)&&P.cellsOf f.type==1&&P.cellsOf g.type==1
    |_=>false)&&P.cellsOf k==2&&P.keyType k&&decide (P.types.size+2≤10000)&&decide (k<P.types.size)&&laidOutB P
  |_=>false
def mapK (t:TypeId):Option (Bool×AV):=match P.underlying t with
  |some (.map k e)=>match P.info? e with
    |some i=>match i.zero with
      |some v=>match jiL v with
        |some z=>match P.underlying k with
          |some .string=>some (true,z)
          |some (.struct _)=>if jm0 P k=true then some (false,z) else none
          |_=>none
        |none=>none
      |none=>none
    |none=>none
  |_=>none
def cOp (o:Oper):Option AOp:=
  match o.op with
  | .move x| .assign x=>(cOpd x).map .mv
  | .pick c a b=>do pure (.pick (←cOpd c) (←cOpd a) (←cOpd b))
  | .alloc t=>(jig P t).map .zero
  | .box t x=>do pure (.box (←jco P t) (←cOpd x))
  | .build t ps=>match P.underlying t with
    |some (.struct fs)=>if fs.all (fun f=>(jco P f.type).isSome)=true then (do pure (.build (←jig P t) (←jdz (fun i=>(fs[i]?).bind fun f=>(jco P f.type).map fun n=>(f.offset,n)) ps.toList))) else none
    |some (.array _ e)=>do let n ←jco P e;pure (.build (←jig P t) (←jdz (fun i=>some (i*n,n)) ps.toList))
    |_=>none
  | .buildSlice t len ps=>do
    let (k,_,z) ←jfU P t
    if len*k≤2 ^ 24 then pure (.lits k len ((O5 (len*k)).map fun i=>z.getD (i % k) .no) (←jdz (fun i=>some (i*k,k)) ps.toList)) else none
  | .load t a=>do pure (.load (←aggT P t) (←cOpd a))
  | .store t a v=>do pure (.store (←jco P t) (←cOpd a) (←cOpd v))
  | .nilCheck x=>(cOpd x).map .nilCheck
  | .binOp op t x y _=>cBin P op t x y
  | .unOp op _ x=>(cOpd x).map (.un op)
  | .convert s t x=>match P.underlying s,P.underlying t with
    |some (.int _),some (.int k)=>(cOpd x).map (.conv k)
    |_,_=>none
  | .field t x f=>do
    let f ←jku P t f
    pure (.field f.offset (←aggT P f.type) (←cOpd x))
  | .fieldAddr t x f=>do
    let f ←jku P t f
    if (←jco P f.type)=0 then none else pure (.fieldAddr f.offset (←cOpd x))
  | .indexAddr t x i=>match P.underlying t with
    |some (.slice _)=>do let (k,_,_) ←jfU P t;pure (.indexAddr k (←cOpd x) (←cOpd i))
    |some (.array n e)=>do pure (.indexArr (←jco P e) n (←cOpd x) (←cOpd i))
    |_=>none
  | .index t x i=>match P.underlying t with
    |some (.array n e)=>do pure (.index (←jco P e) n (←aggT P e) (←cOpd x) (←cOpd i))
    |some .string=>do pure (.indexStr (←cOpd x) (←cOpd i))
    |_=>none
  | .slice t x lo hi mx=>match P.underlying t with
    |some (.slice _)=>if mx.isSome=true∧hi.isNone=true then none else do let (k,_,_) ←jfU P t;pure (.slice k (←cOpd x) (←jgv lo) (←jgv hi) (←jgv mx))
    |_=>none
  | .makeSlice t l c=>do
    let (k,b,z) ←jfU P t
    pure (.mkSlice k b z (←cOpd l) (←cOpd c))
  | .extract x i=>(cOpd x).map (.extract i)
  | .makeMap t none=>match mapK P t with
    |some (kd,_)=>some (.mkMapK kd)
    |none=>(mapT P t).map fun _=> .mkMap
  | .lookup t x i ok=>match mapK P t with
    |some (kd,z)=>do pure (.mapGetK kd ok z (←cOpd x) (←cOpd i))
    |none=>do pure (.mapGet ok (←mapT P t) (←cOpd x) (←cOpd i))
  | .mapUpdate t x i v=>match mapK P t with
    |some (kd,_)=>do pure (.mapSetK kd (←cOpd x) (←cOpd i) (←cOpd v))
    |none=>do let _ ←mapT P t;pure (.mapSet (←cOpd x) (←cOpd i) (←cOpd v))
  | .makeFunc (.func f) first captured=>if first.size=0 then (opds captured.toList).map (.func f) else do pure (.bfunc f (←opds first.toList) (←opds captured.toList))
  | .call { callee:= .value f,args,.. }=>do pure (.call (←cOpd f) (←opds args.toList))
  | .call { callee:= .builtin b,args,argTypes }=>
    match b,args.toList,argTypes.toList with
    | .append,[x,y],[t,u]=>if u=t then do let (k,b,_) ←jfU P t;pure (.append k b (←cOpd x) (←cOpd y)) else none
    | .len,[x],[t]=>match P.underlying t with
      |some (.slice _)=>(cOpd x).map .len
      |some .string=>(cOpd x).map .lenStr
      |_=>none
    | .copy,[x,y],[t,_]=>do let (k,_,_) ←jfU P t;pure (.copy k (←cOpd x) (←cOpd y))
    | .clear,[x],[t]=>match P.underlying t with
      |some (.map _ _)=>do let _ ←mapT P t;pure (.mapClear (←cOpd x))
      |_=>do let (k,_,z) ←jfU P t;pure (.clear k z (←cOpd x))
    | .delete,[x,y],[t,_]=>do let _ ←mapT P t;pure (.mapDel (←cOpd x) (←cOpd y))
    | .max,x::xs,_=>match P.underlying o.type with
      |some (.int _)=>do pure (.minmax true (←cOpd x) (←opds xs))
      |_=>none
    | .min,x::xs,_=>match P.underlying o.type with
      |some (.int _)=>do pure (.minmax false (←cOpd x) (←opds xs))
      |_=>none
    |_,_,_=>none
  |_=>none
def cOpU (o:Oper):Option AOp:=match cOp P o with
  |some x=>some x
  |none=>match o.op with
    | .slice t x lo hi mx=>match P.underlying t with
      |some (.array n e)=>if mx.isSome=true∧hi.isNone=true then none else do
        let k ←jco P e
        pure (.sliceArr k n (←cOpd x) (←jgv lo) (←jgv hi) (←jgv mx))
      |_=>none
    | .makeInterface t x=>match P.underlying t with
      |some (.struct _)=>(cOpd x).map (.iface t)
      |_=>none
    | .panic x=>(cOpd x).map .panic
    | .convert s t x=>match P.underlying s,P.underlying t with
      |some (.slice e),some .string=>match P.underlying e with
        |some (.int .u8)=>(cOpd x).map .toStr
        |_=>none
      |_,_=>none
    |_=>none
def jhL:Op→Nat
  | .move _| .assign _| .pick .. | .build .. | .nilCheck _| .binOp .. | .unOp .. | .convert .. | .field .. | .fieldAddr .. | .indexAddr .. | .index .. | .slice .. | .extract .. | .makeFunc .. =>0
  | .load .. =>1
  | .alloc _| .box .. | .buildSlice .. | .makeSlice .. =>2
  | .call { callee:= .builtin b,.. }=>match b with| .len| .max| .min=>0|_=>3
  |_=>3
def tmpsOf (l:List Operand):List Nat:=l.filterMap fun| .tmp t=>some t|_=>none
def jdC (o:Oper):List Nat:=(o.after.toList.filter (Region.binds .any)).map (·.on)
def ancs (ops:List Oper):List (List Nat):=
  ops.foldl (fun acc o=>acc++[((jdC o).flatMap fun e=>e::acc.getD e [])]) []
def jfn (an:List (List Nat))(i k:Nat):Bool:=if i<k then (an.getD k []).contains i else (an.getD i []).contains k
def jdX (ops:Array Oper)(o:Oper):Option (Option (Nat×Bool)):=match o.guard with
  |none=>some none
  |some (j,want)=>match (ops[j]?).bind (·.dst) with
    |some t=>some (some (t,want))
    |none=>none
def looks (ops:Array Oper)(o:Oper):List Nat:=
  tmpsOf o.op.operands.toList++(match jdX ops o with|some (some (t,_))=>[t]|_=>[])
def jrk (ops:List Oper)(an:List (List Nat))(k:Nat)(c:Nat):Bool:=
  ops.zipIdx.all fun (o,i)=>i==k||(match c with
    |1=>jhL o.op !=3
    |3=>jhL o.op !=1
    |_=>true)||jfn an i k
def ji1 (ops:Array Oper)(an:List (List Nat)):Bool:=
  ops.toList.zipIdx.all fun (o,k)=>
    ((jdC o).all fun e=>decide (e<k))&&
    (ops.toList.zipIdx.all fun (p,i)=>i==k||((jhL o.op !=3||jhL p.op !=3||jfn an i k)&&(match p.dst with
      |some d=>(some d !=o.dst)&&(!(looks ops o).contains d||jfn an i k)
      |none=>true)))
def je1 (nt:Nat)(ops:Array Oper)(draw:Bool):Option (List jav):=
  let an:=ancs ops.toList
  if (draw→ji1 ops an=true)∧(ops.toList.all fun o=>match o.dst with|some d=>decide (d<nt)|none=>true)=true then
    ops.toList.zipIdx.mapM fun (o,k)=>do
      pure { dst:=o.dst,op:=(if draw then cOp P o else cOpU P o).getD .bad,guard:=(←jdX ops o),iso:= !draw||jrk ops.toList an k (jhL o.op) }
  else none
def wideB (l:List jav):Bool:=l.any fun o=> !o.iso&&(match o.op with
  | .load _ (.tmp t)=>l.any fun p=>p.dst==some t&&(match p.op with| .indexAddr .. =>true|_=>false)
  |_=>false)
structure RHdr where
  isMap:Bool
  src:Opd
  it:Nat
  nx:Nat
  more:Nat
  pair:Nat
  out:Nat
  nb:Nat
def jde (nt:Nat):Code→Option jam
  | .skip=>some .skip
  | .region _ ops draw=>(je1 P nt ops draw).map fun l=>if draw then (if wideB l then .opsW l else .opsD l) else .ops l
  | .seq a b=>do
    let ca ←jde nt a
    let cb ←jde nt b
    pure (.seq ca cb)
  | .cond c a b=>do pure (.cond (←cOpd c) (←jde nt a) (←jde nt b))
  | .block id c=>(jde nt c).map (.block id)
  | .loop c=>(jde nt c).map .loop
  | .exit id=>some (.exit id)
  | .scope c=>(jde nt c).map .scope
  | .label _=>some .skip
  | .ret=>some .ret
  |_=>some .bad
def cRes:ResultVar→Option ARes
  | .tmp t=>some (.tmp t)
  | .cell a t=>(aggT P t).map (.cell a)
def jag (f:FuncId):Option jbq:=match P.funcs[f]? with
  | some fn => if fn.name == "runtime.NumGoroutine" then none else match fn.body with
    |some c=>match jde P fn.ntmps c,fn.results.toList.mapM (cRes P) with
      |some b,some rs=>some { n:=fn.ntmps,body:=b,results:=rs }
      |_,_=>none
    |none=>none
  |none=>none
end
/-! ### How it runs -/
def binV (op:BinOp):Value→Value→Option Value
  | .int k a,.int k' b=>
    match op with
    | .shl=>if 0≤b then some (.int k (k.wrap (a*2 ^ (min b.toNat k.bits)))) else none
    | .shr=>if 0≤b then some (.int k (a.fdiv (2 ^ (min b.toNat k.bits)))) else none
    |_=>if k=k' then
      match op with
      | .add=>some (.int k (k.wrap (a+b)))
      | .sub=>some (.int k (k.wrap (a - b)))
      | .mul=>some (.int k (k.wrap (a*b)))
      | .quo=>if b=0 then none else some (.int k (k.wrap (a.tdiv b)))
      | .rem=>if b=0 then none else some (.int k (a.tmod b))
      | .and=>some (.int k (k.wrap (BitVec.ofInt k.bits a &&& BitVec.ofInt k.bits b).toNat))
      | .or=>some (.int k (k.wrap (BitVec.ofInt k.bits a ||| BitVec.ofInt k.bits b).toNat))
      | .xor=>some (.int k (k.wrap (BitVec.ofInt k.bits a ^^^ BitVec.ofInt k.bits b).toNat))
      | .andNot=>some (.int k (k.wrap (BitVec.ofInt k.bits a &&& ~~~ BitVec.ofInt k.bits b).toNat))
      | .eql=>some (.bool (decide (a=b)))
      | .neq=>some (.bool (!decide (a=b)))
      | .lss=>some (.bool (decide (a<b)))
      | .leq=>some (.bool (decide (a≤b)))
      | .gtr=>some (.bool (decide (b<a)))
      | .geq=>some (.bool (decide (b≤a)))
      |_=>none
      else none
  | .string a,.string b=>match op with
    | .eql=>some (.bool (decide (a=b)))
    | .neq=>some (.bool (!decide (a=b)))
    |_=>none
  | .float k a,.float k' b=>if k=k' then
    match op with
    | .eql=>some (.bool (k.format.order a b==some .eq))
    | .neq=>some (.bool (k.format.order a b !=some .eq))
    |_=>none
    else none
  |_,_=>none
def jmP:Nat→Value→Value→Option Bool
  |0,.int k a,.int k' b=>if k=k' then some (decide (a=b)) else none
  |1,.bool a,.bool b=>some (a==b)
  |2,.string a,.string b=>some (decide (a=b))
  |_,_,_=>none
def jbx:List Nat→List AV→List AV→Option Bool
  |[],[],[]=>some true
  |t::ts,.val a::x,.val b::y=>match jmP t a b with
    |some t=>match jbx ts x y with
      |some u=>some (t&&u)
      |none=>none
    |none=>none
  |_,_,_=>none
def unV (op:UnOp):Value→Option Value
  | .int k n=>match op with
    | .neg=>some (.int k (k.wrap (0 - n)))
    | .xor=>some (.int k (k.wrap (BitVec.ofInt k.bits (if k.signed then -1 else k.max) ^^^ BitVec.ofInt k.bits n).toNat))
    |_=>none
  | .bool b=>match op with
    | .not=>some (.bool !b)
    |_=>none
  |_=>none
def jc0:Nat→AV→Option Bool
  |0,.val (.slice none 0 0)|1,.val (.pointer none)|2,.val .nilFunc=>some true
  |1,.ptr _ _|0,.slice _ _ _ _ _ _|0,.hole|2,.func _ _|2,.bfunc _ _ _=>some false
  |_,_=>none
def jcX:List AV→List (Nat×Nat×AV)→Option (List AV)
  |cs,[]=>some cs
  |cs,(o,n,v)::r=>if v.cells.length=n∧o+n≤cs.length∧v.cells.all AV.isCell=true then jcX (cs.take o++v.cells++cs.drop (o+n)) r else none
def jiV:AV→Option Int
  | .val (.int _ n)=>some n
  |_=>none
def jcJ (v:AV):Option Nat:=match jiV v with
  |some n=>if 0≤n then some n.toNat else none
  |none=>none
def jg3 (cs:List AV)(off:Nat):Option Nat→Option AV
  |some n=>if off+n≤cs.length then some (.agg ((cs.drop off).take n)) else none
  |none=>cs[off]?
def jdN (h:Heap)(k:Nat):AV→Option (Nat×List AV)
  | .val (.slice none 0 0)=>some (0,[])
  | .hole=>some (0,[])
  | .slice id off len _ _ _=>match rd h id off (len*k) with
    |some cs=>some (len,cs)
    |none=>none
  |_=>none
def jcs (fl:Nat→Bool)(h:Heap)(k bytes:Nat)(x:AV)(n:Nat)(new:List AV):Option (AV×Heap):=
  if n=0 then (match x with| .val (.slice none 0 0)=>some (x,h)| .hole=>some (x,h)| .slice .. =>some (x,h)|_=>none) else
  match x with
  | .val (.slice none 0 0)=>if n*bytes≤reach then some (.slice h.length 0 n n false k,h++[some new]) else none
  | .slice id off len lb ex k'=>
    if k'=k∧(len+n)*bytes≤reach then
      if len+n≤lb then
        match wr fl h id (off+len*k) new with
        |some h'=>some (.slice id off (len+n) lb ex k,h')
        |none=>none
      else match rd h id off (len*k) with
        |some old=>
          if ex then some (.slice h.length 0 (len+n) (len+n) false k,h++[some (old++new)])
          else if fl id then some (.slice h.length 0 (len+n) (len+n) false k,kill h id++[some (old++new)]) else none
        |none=>none
    else none
  |_=>none
def jc3 (k:Nat)(x:AV)(lo hi mx:Option AV):Option AV:=
  let num (d:Nat):Option AV→Option Nat|none=>some d|some v=>jcJ v
  match x with
  | .val (.slice none 0 0)=>match num 0 lo,num 0 hi,num 0 mx with
    |some 0,some 0,some 0=>some x
    |_,_,_=>none
  | .hole=>match num 0 lo,num 0 hi,num 0 mx with
    |some 0,some 0,some 0=>some x
    |_,_,_=>none
  | .slice id off len lb ex k'=>match num 0 lo,num len hi,num lb mx with
    |some l,some u,some m=>if k'=k∧l≤u∧u≤m∧m≤lb then some (.slice id (off+l*k) (u - l) (m - l) (ex||mx.isSome) k) else none
    |_,_,_=>none
  |_=>none
def jlT (max:Bool):AV→List AV→Option AV
  |a,[]=>some a
  | .val (.int k n),.val (.int _ p)::r=>jlT max (.val (.int k (if max then (if p>n then p else n) else (if p<n then p else n)))) r
  |_,_=>none
def jbw:Option (Nat×Option (List Nat))→Nat→Bool
  |none,_=>true
  |some (base,pr),id=>decide (id<base)&&(match pr with|none=>true|some l=>l.contains id)
def idOf:AV→List Nat
  | .ptr id _| .slice id _ _ _ _ _=>[id]
  |_=>[]
def sees (s:jal):AOp→List Nat
  | .load _ x=>idOf (x.ev s)
  |_=>[]
def heavy:AOp→Bool
  | .store .. | .append .. | .copy .. | .clear .. | .call .. | .mkMap| .mapSet .. | .mapGet .. | .mapDel .. | .mapClear .. | .mapLen .. | .sliceArr .. | .toStr .. | .mkMapK .. | .mapSetK .. | .mapGetK .. =>true
  |_=>false
def jiQ:AOp→Bool
  | .mv .. | .fieldAddr .. | .indexAddr .. | .indexArr .. | .slice .. | .nilCheck .. | .bin .. =>true
  |_=>false
def jhH:List AV→Int→Option AV
  |[],_=>none
  | .tuple [.val (.int .i64 k),v]::r,n=>if n=k then some v else jhH r n
  |_::r,n=>jhH r n
def mput:List AV→Int→AV→List AV
  |[],n,v=>[.tuple [.val (.int .i64 n),v]]
  | .tuple [.val (.int .i64 k),x]::r,n,v=>if n=k then .tuple [.val (.int .i64 n),v]::r else .tuple [.val (.int .i64 k),x]::mput r n v
  |x::r,n,v=>x::mput r n v
def mdel:List AV→Int→List AV
  |[],_=>[]
  | .tuple [.val (.int .i64 k),x]::r,n=>if n=k then r else .tuple [.val (.int .i64 k),x]::mdel r n
  |x::r,n=>x::mdel r n
def kS:List AV→Bool
  | .val (.bool _)::_=>true
  |_=>false
def jhJ:AV→AV→Bool
  | .val (.string a),.val (.string b)=>decide (a=b)
  | .agg [.val (.int .i64 a),.val (.int .i64 b)],.agg [.val (.int .i64 c),.val (.int .i64 d)]=>decide (a=c∧b=d)
  |_,_=>false
def keyK:Bool→AV→Bool
  |true,.val (.string s)=>decide (s.size≤maxLen)
  |false,.agg [.val (.int .i64 a),.val (.int .i64 b)]=>(Lit.int .i64 a).wf&&(Lit.int .i64 b).wf
  |_,_=>false
def jhI:List AV→AV→Option AV
  |[],_=>none
  | .tuple [k',v]::r,k=>if jhJ k k' then some v else jhI r k
  |_::r,k=>jhI r k
def kput:List AV→AV→AV→List AV
  |[],k,v=>[.tuple [k,v]]
  | .tuple [k',x]::r,k,v=>if jhJ k k' then .tuple [k,v]::r else .tuple [k',x]::kput r k v
  |x::r,k,v=>x::kput r k v
def jgw:List AV→Option (List Int)
  |[]=>some []
  | .val (.int .u8 n)::r=>(jgw r).map (n:: ·)
  |_=>none
def jgY (ns:List Int):ByteArray:=⟨(ns.map fun n=>UInt8.ofNat n.toNat).toArray⟩
def jah (top:Option (Nat×Option (List Nat)))(fl:Nat→Bool)(s:jal)(h:Heap):AOp→Option (AV×Heap)
  | .mv x=>some (x.ev s,h)
  | .pick c a b=>match c.ev s with
    | .val (.bool t)=>some (if t then a.ev s else b.ev s,h)
    |_=>none
  | .box n x=>if (x.ev s).cells.length=n∧(x.ev s).cells.all AV.isCell=true then some (.ptr h.length 0,h++[some (x.ev s).cells]) else none
  | .zero cs=>some (.ptr h.length 0,h++[some cs])
  | .build z ps=>match jcX z (ps.map fun p=>(p.1,p.2.1,p.2.2.ev s)) with
    |some cs=>some (.agg cs,h)
    |none=>none
  | .lits k len z ps=>match jcX z (ps.map fun p=>(p.1,p.2.1,p.2.2.ev s)) with
    |some cs=>if cs.all AV.isCell=true then some (.slice h.length 0 len len true k,h++[some cs]) else none
    |none=>none
  | .load n x=>match x.ev s with
    | .ptr id off=>if jbw top id then match n with
      |some n=>match rd h id off n with
        |some cs=>some (.agg cs,h)
        |none=>none
      |none=>match rd1 h id off with
        |some v=>some (v,h)
        |none=>none
      else none
    |_=>none
  | .store n a v=>match a.ev s with
    | .ptr id off=>if (v.ev s).cells.length=n∧(v.ev s).cells.all AV.isCell=true then match wr fl h id off (v.ev s).cells with
      |some h'=>some (.no,h')
      |none=>none
      else none
    |_=>none
  | .nilCheck x=>match x.ev s with
    | .ptr id off=>some (.ptr id off,h)
    | .func f cs=>some (.func f cs,h)
    | .bfunc f a cs=>some (.bfunc f a cs,h)
    |_=>none
  | .bin op x y=>match x.ev s,y.ev s with
    | .val a,.val b=>match binV op a b with
      |some v=>some (.val v,h)
      |none=>none
    |_,_=>none
  | .eqNil neg kd x=>match jc0 kd (x.ev s) with
    |some b=>some (.val (.bool (if neg then !b else b)),h)
    |none=>none
  | .eqBool neg x y=>match x.ev s,y.ev s with
    | .val (.bool a),.val (.bool b)=>some (.val (.bool (if neg then !(a==b) else a==b)),h)
    |_,_=>none
  | .eqAgg neg ks x y=>match x.ev s,y.ev s with
    | .agg a,.agg b=>match jbx ks a b with
      |some t=>some (.val (.bool (if neg then !t else t)),h)
      |none=>none
    |_,_=>none
  | .un op x=>match x.ev s with
    | .val a=>match unV op a with
      |some v=>some (.val v,h)
      |none=>none
    |_=>none
  | .conv k x=>match x.ev s with
    | .val (.int _ n)=>some (.val (.int k (k.wrap n)),h)
    |_=>none
  | .field off n x=>match x.ev s with
    | .agg cs=>match jg3 cs off n with
      |some v=>some (v,h)
      |none=>none
    |_=>none
  | .fieldAddr off x=>match x.ev s with
    | .ptr id o=>some (.ptr id (o+off),h)
    |_=>none
  | .indexAddr k x i=>match x.ev s,jcJ (i.ev s) with
    | .slice id off len _ _ _,some i=>if i<len then some (.ptr id (off+i*k),h) else none
    |_,_=>none
  | .indexArr k len x i=>match x.ev s,jcJ (i.ev s) with
    | .ptr id off,some i=>if i<len then some (.ptr id (off+i*k),h) else none
    |_,_=>none
  | .index k len n x i=>match x.ev s,jcJ (i.ev s) with
    | .agg cs,some i=>if i<len then match jg3 cs (i*k) n with
      |some v=>some (v,h)
      |none=>none
      else none
    |_,_=>none
  | .indexStr x i=>match x.ev s,jcJ (i.ev s) with
    | .val (.string t),some i=>match t[i]? with
      |some b=>some (.val (.int .u8 b.toNat),h)
      |none=>none
    |_,_=>none
  | .slice k x lo hi mx=>match jc3 k (x.ev s) (lo.map (·.ev s)) (hi.map (·.ev s)) (mx.map (·.ev s)) with
    |some v=>some (v,h)
    |none=>none
  | .mkSlice k bytes z l c=>match jcJ (l.ev s),jcJ (c.ev s) with
    |some l,some c=>if l≤c∧c*bytes≤reach then some (.slice h.length 0 l l (l==c) k,h++[some (O6 l z).flatten]) else none
    |_,_=>none
  | .extract i x=>match x.ev s with
    | .tuple vs=>match vs[i]? with
      |some v=>some (v,h)
      |none=>none
    |_=>none
  | .func f caps=>some (.func f (caps.map (·.ev s)),h)
  | .call _ _=>none
  | .append k bytes x y=>match jdN h k (y.ev s) with
    |some (n,cs)=>jcs fl h k bytes (x.ev s) n cs
    |none=>none
  | .len x=>match x.ev s with
    | .val (.slice none 0 0)=>some (.val (.int .i64 0),h)
    | .hole=>some (.val (.int .i64 0),h)
    | .slice _ _ len _ _ _=>some (.val (.int .i64 len),h)
    |_=>none
  | .lenStr x=>match x.ev s with
    | .val (.string s)=>some (.val (.int .i64 s.size),h)
    |_=>none
  | .copy k x y=>match x.ev s,jdN h k (y.ev s) with
    | .val (.slice none 0 0),some _=>some (.val (.int .i64 0),h)
    | .hole,some _=>some (.val (.int .i64 0),h)
    | .slice id off len _ _ _,some (n,cs)=>match wr fl h id off (cs.take (min n len*k)) with
      |some h'=>some (.val (.int .i64 (min n len:Nat)),h')
      |none=>none
    |_,_=>none
  | .clear k z x=>match x.ev s with
    | .val (.slice none 0 0)=>some (.no,h)
    | .hole=>some (.no,h)
    | .slice id off len _ _ _=>match wr fl h id off (O6 len z).flatten with
      |some h'=>some (.no,h')
      |none=>none
    |_=>none
  | .minmax max x xs=>match jlT max (x.ev s) (xs.map (·.ev s)) with
    |some v=>some (v,h)
    |none=>none
  | .mkMap=>some (.mp h.length,h++[some []])
  | .mapSet m k v=>match m.ev s,k.ev s with
    | .mp id,.val (.int .i64 n)=>match blk h id with
      |some l=>if fl id=true∧kS l=false then some (.no,h.set id (some (mput l n (v.ev s)))) else none
      |none=>none
    |_,_=>none
  | .mapGet ok z m k=>match m.ev s,k.ev s with
    | .mp id,.val (.int .i64 n)=>match blk h id with
      |some l=>if kS l=false then match jhH l n with
        |some v=>some (if ok then .tuple [v,.val (.bool true)] else v,h)
        |none=>some (if ok then .tuple [z,.val (.bool false)] else z,h)
        else none
      |none=>none
    |_,_=>none
  | .mapDel m k=>match m.ev s,k.ev s with
    | .mp id,.val (.int .i64 n)=>match blk h id with
      |some l=>if fl id=true∧kS l=false then some (.no,h.set id (some (mdel l n))) else none
      |none=>none
    |_,_=>none
  | .mapClear m=>match m.ev s with
    | .mp id=>match blk h id with
      |some l=>if fl id=true∧kS l=false then some (.no,h.set id (some [])) else none
      |none=>none
    |_=>none
  | .mapLen m=>match m.ev s with
    | .mp id=>match blk h id with
      |some l=>if kS l=false then some (.val (.int .i64 l.length),h) else none
      |none=>none
    |_=>none
  | .mkMapK kd=>some (.mp h.length,h++[some [.val (.bool kd)]])
  | .mapSetK kd m k v=>match m.ev s with
    | .mp id=>match blk h id with
      |some (.val (.bool b)::l)=>if b=kd∧keyK kd (k.ev s)=true∧fl id=true then some (.no,h.set id (some (.val (.bool b)::kput l (k.ev s) (v.ev s)))) else none
      |_=>none
    |_=>none
  | .mapGetK kd ok z m k=>match m.ev s with
    | .mp id=>match blk h id with
      |some (.val (.bool b)::l)=>if b=kd∧keyK kd (k.ev s)=true then match jhI l (k.ev s) with
        |some v=>some (if ok then .tuple [v,.val (.bool true)] else v,h)
        |none=>some (if ok then .tuple [z,.val (.bool false)] else z,h)
        else none
      |_=>none
    |_=>none
  | .sliceArr k n x lo hi mx=>match x.ev s with
    | .ptr id off=>match blk h id with
      |some l=>if fl id=true∧off+n*k≤l.length then match jc3 k (.slice id off n n true k) (lo.map (·.ev s)) (hi.map (·.ev s)) (mx.map (·.ev s)) with
        |some v=>some (v,h)
        |none=>none
        else none
      |none=>none
    |_=>none
  | .bfunc f first caps=>some (.bfunc f (first.map (·.ev s)) (caps.map (·.ev s)),h)
  | .iface t x=>match x.ev s with
    | .agg []=>some (.val (.iface t (.agg #[])),h)
    |_=>none
  | .panic _=>none
  | .toStr x=>match jdN h 1 (x.ev s) with
    |some (_,cs)=>match jgw cs with
      |some ns=>some (.val (.string (jgY ns)),h)
      |none=>none
    |none=>none
  | .bad=>none
abbrev jby:=FuncId→List AV→(Nat→Bool)→Heap→Option (AV×Heap)
def put (s:jal)(d:Option Nat)(v:AV):jal:=match d with
  |some d=>upd s d v
  |none=>s
def jbu (o:jav)(s:jal):Option Bool:=match o.guard with
  |none=>some true
  |some (t,want)=>match s t with
    | .val (.bool b)=>some (b==want)
    | .val _| .tuple []=>some false
    |_=>none
def jhP (fl:Nat→Bool)(h:Heap):List jav→jal→List Nat
  |[],_=>[]
  |o::r,s=>
    if jiQ o.op then (match jah none fl s h o.op with
      |some (v,_)=>jhP fl h r (put s o.dst v)
      |none=>jhP fl h r s)
    else (if o.iso then [] else sees s o.op)++jhP fl h r s
structure Seen where
  rs:List Nat
  pr:Option (List Nat)
def Seen.with (d:Seen)(o:jav)(forb:List Nat)(s:jal):Seen:=
  if o.iso then d else { rs:=sees s o.op++d.rs,pr:=if heavy o.op then some (match d.pr with|none=>forb|some l=>l.filter forb.contains) else d.pr }
def jbB (fl:Nat→Bool)(o:jav)(forb:List Nat):Nat→Bool:=if o.iso then fl else fun i=>fl i&& !forb.contains i
def callee:AV→List AV→Option (FuncId×List AV)
  | .func f caps,args=>some (f,args++caps)
  | .bfunc f first caps,args=>some (f,first++args++caps)
  |_,_=>none
def jd9 (C:jby)(base:Nat)(fl:Nat→Bool)(d:Seen)(forb:List Nat)(o:jav)(s:jal)(h:Heap):Option (AV×Heap):=
  match o.op with
  | .call f args=>match callee (f.ev s) (args.map (·.ev s)) with
    |some (f,vs)=>C f vs (jbB fl o forb) h
    |none=>none
  |op=>jah (if o.iso then none else some (base,d.pr)) (jbB fl o forb) s h op
def jcw (fl:Nat→Bool)(d:Seen)(o:jav)(r:List jav)(s:jal)(h:Heap):List Nat:=
  if o.iso|| !heavy o.op then [] else d.rs++jhP fl h r s
def jcv (C:jby)(base:Nat)(fl:Nat→Bool):Seen→List jav→jal→Heap→Option (jal×Heap)
  |_,[],s,h=>some (s,h)
  |d,o::r,s,h=>match jbu o s with
    |some true=>match jd9 C base fl d (jcw fl d o r s h) o s h with
      |some (v,h')=>jcv C base fl (d.with o (jcw fl d o r s h) s) r (put s o.dst v) h'
      |none=>none
    |some false=>jcv C base fl d r (put s o.dst .no) h
    |none=>none
inductive jaA where
  |normal|exit (id:Nat)|ret
abbrev Out:=Option (jaA×jal×Heap)
def iter (f:jal→Heap→Out):Nat→jal→Heap→Out
  |0,_,_=>none
  |n+1,s,h=>match f s h with
    |some (.normal,s',h')=>iter f n s' h'
    |r=>r
def exec (C:jby)(n:Nat)(fl:Nat→Bool):jam→jal→Heap→Out
  | .skip,s,h=>some (.normal,s,h)
  | .ops l,s,h=>match jcv C h.length fl ⟨[],none⟩ l s h with
    |some (s',h')=>some (.normal,s',h')
    |none=>none
  | .opsD l,s,h=>match jcv C h.length fl ⟨[],none⟩ l s h with
    |some (s',h')=>some (.normal,s',h')
    |none=>none
  | .opsW l,s,h=>match jcv C h.length fl ⟨O5 h.length,none⟩ l s h with
    |some (s',h')=>some (.normal,s',h')
    |none=>none
  | .seq a b,s,h=>match exec C n fl a s h with
    |some (.normal,s',h')=>exec C n fl b s' h'
    |r=>r
  | .cond c a b,s,h=>match c.ev s with
    | .val (.bool t)=>if t then exec C n fl a s h else exec C n fl b s h
    |_=>none
  | .block id c,s,h=>match exec C n fl c s h with
    |some (.exit j,s',h')=>if j=id then some (.normal,s',h') else some (.exit j,s',h')
    |r=>r
  | .loop c,s,h=>iter (exec C n fl c) n s h
  | .exit id,s,h=>some (.exit id,s,h)
  | .scope c,s,h=>exec C n fl c s h
  | .ret,s,h=>some (.ret,s,h)
  | .bad,_,_=>none
def resA (s:jal)(h:Heap):ARes→Option AV
  | .tmp t=>some (s t)
  | .cell a n=>match s a with
    | .ptr id off=>match n with
      |some n=>(rd h id off n).map .agg
      |none=>rd1 h id off
    |_=>none
def jaR (rs:List ARes)(s:jal)(h:Heap):Option AV:=match rs with
  |[r]=>resA s h r
  |rs=>(rs.mapM (resA s h)).map .tuple
def call (X:jby)(F:FuncId→Option jbq):Nat→jby
  |0,f,args,fl,h=>X f args fl h
  |n+1,f,args,fl,h=>match X f args fl h with
    |some r=>some r
    |none=>match F f with
      |some af=>if args.length≤af.n then match exec (call X F n) n fl af.body (fun t=>args.getD t .no) h with
        |some (.normal,s',h')|some (.ret,s',h')=>(jaR af.results s' h').map fun v=>(v,h')
        |_=>none
        else none
      |none=>none
/-! ### The same, where an order is left open: what holds behind every run -/
abbrev jeH:=Option FuncId→List AV→(Nat→Bool)→Heap→(AV→Heap→Prop)→Prop
abbrev OutP:=(jaA→jal→Heap→Prop)→Prop
def jfX (C:jeH)(base:Nat)(fl:Nat→Bool)(d:Seen)(forb:List Nat)(o:jav)(s:jal)(h:Heap)(K:AV→Heap→Prop):Prop:=
  match o.op with
  | .call f args=>match callee (f.ev s) (args.map (·.ev s)) with
    |some (f,vs)=>C (some f) vs (jbB fl o forb) h K
    |none=>False
  | .panic x=>C none [x.ev s] (jbB fl o forb) h K
  |op=> ∃v h',jah (if o.iso then none else some (base,d.pr)) (jbB fl o forb) s h op=some (v,h')∧K v h'
def jbX (C:jeH)(base:Nat)(fl:Nat→Bool):Seen→List jav→jal→Heap→(jal→Heap→Prop)→Prop
  |_,[],s,h,K=>K s h
  |d,o::r,s,h,K=>match jbu o s with
    |some true=>jfX C base fl d (jcw fl d o r s h) o s h fun v h'=>jbX C base fl (d.with o (jcw fl d o r s h) s) r (put s o.dst v) h' K
    |some false=>jbX C base fl d r (put s o.dst .no) h K
    |none=>False
def jaA.then (k1:jal→Heap→Prop)(K:jaA→jal→Heap→Prop):jaA→jal→Heap→Prop
  | .normal,s,h=>k1 s h
  |x,s,h=>K x s h
def jaA.inBlk (id:Nat)(K:jaA→jal→Heap→Prop):jaA→jal→Heap→Prop
  | .exit j,s,h=>if j=id then K .normal s h else K (.exit j) s h
  |x,s,h=>K x s h
def piter (f:jal→Heap→OutP)(s:jal)(h:Heap)(K:jaA→jal→Heap→Prop):Prop:=
  ∀I:jal→Heap→Prop,(∀s h,f s h (jaA.then I K)→I s h)→I s h
def jdc (Cd:Nat→jby)(C:jeH):jam→(Nat→Bool)→jal→Heap→OutP
  | .skip,fl,s,h,K=>K .normal s h
  | .ops l,fl,s,h,K=>jbX C h.length fl ⟨[],none⟩ l s h (K .normal)
  | .opsD l,fl,s,h,K=> ∃n s' h',jcv (Cd n) h.length fl ⟨[],none⟩ l s h=some (s',h')∧K .normal s' h'
  | .opsW l,fl,s,h,K=> ∃n s' h',jcv (Cd n) h.length fl ⟨O5 h.length,none⟩ l s h=some (s',h')∧K .normal s' h'
  | .seq a b,fl,s,h,K=>jdc Cd C a fl s h (jaA.then (fun s h=>jdc Cd C b fl s h K) K)
  | .cond c a b,fl,s,h,K=> ∃t,c.ev s= .val (.bool t)∧(t=true→jdc Cd C a fl s h K)∧(t=false→jdc Cd C b fl s h K)
  | .block id c,fl,s,h,K=>jdc Cd C c fl s h (jaA.inBlk id K)
  | .loop c,fl,s,h,K=>piter (fun s h K=>jdc Cd C c fl s h K) s h K
  | .exit id,fl,s,h,K=>K (.exit id) s h
  | .scope c,fl,s,h,K=>jdc Cd C c fl s h K
  | .ret,fl,s,h,K=>K .ret s h
  | .bad,_,_,_,_=>False
def endK (rs:List ARes)(K:AV→Heap→Prop):jaA→jal→Heap→Prop
  | .normal,s,h| .ret,s,h=> ∃v,jaR rs s h=some v∧K v h
  |_,_,_=>False
structure PX where
  g:Value→Prop
  y:FuncId→List AV→(Nat→Bool)→Heap→(AV→Heap→Prop)→Prop
abbrev PX.no:PX:=⟨fun _=>False,fun _ _ _ _ _=>False⟩
def jor (pn:PX)(X:jby)(F:FuncId→Option jbq)(C:jeH):jeH:=fun f args fl h K=>match f with
  |none=> ∃t,args=[.val (.iface t (.agg #[]))]∧pn.g (.iface t (.agg #[]))
  |some f=>(∃K0,pn.y f args fl h K0∧ ∀v h',K0 v h'→K v h')∨match X f args fl h with
    |some r=>K r.1 r.2
    |none=>match F f with
      |some af=>args.length≤af.n∧jdc (call X F) C af.body fl (fun t=>args.getD t .no) h (endK af.results K)
      |none=>False
def jgu (pn:PX)(X:jby)(F:FuncId→Option jbq):jeH:=fun f args fl h K=> ∀C:jeH,(∀f args fl h K,jor pn X F C f args fl h K→C f args fl h K)→C f args fl h K
def noX:jby:=fun _ _ _ _=>none
end
section
open Go
structure Base where
  b:Nat
  off:Nat
  room:Nat
  mp:Bool
abbrev Map:=Nat→Option Base
def CB (m:Map)(id:Nat)(b:Base):Prop:=m id=some b∧b.mp=false
def MB (m:Map)(id:Nat)(b:Base):Prop:=m id=some b∧b.mp=true
inductive VR (m:Map):AV→Value→Prop where
  |val {v:Value} (h:jhv v=true):VR m (.val v) v
  |ptr {id off:Nat} {b:Base} (h:CB m id b):VR m (.ptr id off) (.pointer (some ⟨b.b,b.off+off,none⟩))
  |slice {id off len lb:Nat} {ex:Bool} {k:Nat} {b:Base} {o c:Nat} (h:CB m id b) (ho:lb≠0→o=off) (h1:len≤lb) (h2:lb≤c) (h3:ex=true→c=lb) (h4:o+c*k≤b.room):
      VR m (.slice id off len lb ex k) (.slice (some ⟨b.b,b.off+o,none⟩) len c)
  |agg {cs:List AV} {vs:Array Value} (hl:cs.length=vs.size) (h: ∀(i:Nat) (x:AV) (y:Value),cs[i]?=some x→vs[i]?=some y→VR m x y):VR m (.agg cs) (.agg vs)
  |tuple {cs:List AV} {vs:Array Value} (hl:cs.length=vs.size) (h: ∀(i:Nat) (x:AV) (y:Value),cs[i]?=some x→vs[i]?=some y→VR m x y):VR m (.tuple cs) (.tuple vs)
  |func {f:FuncId} {cs:List AV} {vs:Array Value} (hl:cs.length=vs.size) (h: ∀(i:Nat) (x:AV) (y:Value),cs[i]?=some x→vs[i]?=some y→VR m x y):VR m (.func f cs) (.func (.func f) #[] vs)
  |hole {ad:Addr} {c:Nat}:VR m .hole (.slice (some ad) 0 c)
  |mp {id:Nat} {b:Base} (h:MB m id b):VR m (.mp id) (.map (some b.b))
  |bfunc {f:FuncId} {as cs:List AV} {us vs:Array Value} (hl:as.length=us.size) (hl2:cs.length=vs.size) (h: ∀(i:Nat) (x:AV) (y:Value),as[i]?=some x→us[i]?=some y→VR m x y) (h2: ∀(i:Nat) (x:AV) (y:Value),cs[i]?=some x→vs[i]?=some y→VR m x y):VR m (.bfunc f as cs) (.func (.func f) us vs)
def VRs (m:Map)(xs:List AV)(ys:List Value):Prop:=xs.length=ys.length∧ ∀(i:Nat) (x:AV) (y:Value),xs[i]?=some x→ys[i]?=some y→VR m x y
theorem VR.mono {m m':Map}(hm: ∀id b,m id=some b→m' id=some b){v:AV}{v':Value}(h:VR m v v'):VR m' v v':=by
 induction h with
 |val h=>exact .val h
 |ptr h=>exact .ptr ⟨hm _ _ h.1,h.2⟩
 |mp h=>exact .mp ⟨hm _ _ h.1,h.2⟩
 |slice h ho h1 h2 h3 h4=>exact .slice ⟨hm _ _ h.1,h.2⟩ ho h1 h2 h3 h4
 |agg hl h ih=>exact .agg hl ih
 |tuple hl h ih=>exact .tuple hl ih
 |func hl h ih=>exact .func hl ih
 |hole=>exact .hole
 |bfunc hl hl2 h h2 ih ih2=>exact .bfunc hl hl2 ih ih2
theorem VRs.mono {m m':Map}(hm: ∀id b,m id=some b→m' id=some b){v:List AV}{v':List Value}(h:VRs m v v'):VRs m' v v':=
 ⟨h.1,fun i x y hx hy=>(h.2 i x y hx hy).mono hm⟩
theorem VRs.nil {m:Map}:VRs m [] []:=⟨rfl,fun i x y hx=>by simp at hx⟩
theorem VRs.cons {m:Map}{x:AV}{y:Value}{xs:List AV}{ys:List Value}(h:VR m x y)(hs:VRs m xs ys):VRs m (x::xs) (y::ys):=by
 refine⟨by simp[hs.1],fun i a b ha hb=>?_⟩
 cases i with
 |zero=>simp at ha hb;subst ha;subst hb;exact h
 |succ i=>simp at ha hb;exact hs.2 i a b ha hb
theorem VRs.append {m:Map}{xs xs':List AV}{ys ys':List Value}(h:VRs m xs ys)(h':VRs m xs' ys'):VRs m (xs++xs') (ys++ys'):=by
 refine⟨by simp[h.1,h'.1],fun i a b ha hb=>?_⟩;rw[O7] at ha hb;rw[←h.1] at hb;split at ha
 ·rename_i hi;rw[if_pos hi] at hb;exact h.2 i a b ha hb
 ·rename_i hi;rw[if_neg hi] at hb;exact h'.2 _ a b ha hb
theorem VRs.take {m:Map}{xs:List AV}{ys:List Value}(h:VRs m xs ys)(n:Nat):VRs m (xs.take n) (ys.take n):=by
 refine⟨by simp[h.1],fun i a b ha hb=>?_⟩;rw[O8] at ha hb;split at ha
 ·rename_i hi;rw[if_pos hi] at hb;exact h.2 i a b ha hb
 ·cases ha
theorem VRs.drop {m:Map}{xs:List AV}{ys:List Value}(h:VRs m xs ys)(n:Nat):VRs m (xs.drop n) (ys.drop n):=by
 refine⟨by simp[h.1],fun i a b ha hb=>?_⟩;rw[O9] at ha hb;exact h.2 _ a b ha hb
theorem VRs.of_agg {m:Map}{cs:List AV}{v:Value}(h:VR m (.agg cs) v): ∃vs,v= .agg vs∧VRs m cs vs.toList:=by
 cases h with
 |agg hl h=>exact⟨_,rfl,by simpa using hl,by simpa using h⟩
theorem VRs.agg {m:Map}{cs:List AV}{vs:Array Value}(h:VRs m cs vs.toList):VR m (.agg cs) (.agg vs):= .agg (by simpa using h.1) (by simpa using h.2)
theorem VRs.tuple {m:Map}{cs:List AV}{vs:Array Value}(h:VRs m cs vs.toList):VR m (.tuple cs) (.tuple vs):= .tuple (by simpa using h.1) (by simpa using h.2)
theorem VRs.func {m:Map}{f:FuncId}{cs:List AV}{vs:Array Value}(h:VRs m cs vs.toList):VR m (.func f cs) (.func (.func f) #[] vs):= .func (by simpa using h.1) (by simpa using h.2)
theorem VRs.get {m:Map}{cs:List AV}{vs:List Value}(h:VRs m cs vs){i:Nat}{x:AV}(hx:cs[i]?=some x): ∃y,vs[i]?=some y∧VR m x y:=by
 have hi:i<cs.length:=by
  rw[U0] at hx;exact hx.1
 exact⟨vs[i]'(by rw[←h.1];exact hi),U1 _,h.2 i _ _ hx (U1 _)⟩
theorem VRs.plains {m:Map}: ∀(vs:List Value),vs.all jhv=true→VRs m (vs.map .val) vs
 |[],_=> .nil
 |v::r,h=>by
  simp only[List.all_cons,U2] at h;exact .cons (.val h.1) (VRs.plains r h.2)
theorem VRs.no {m:Map}:VR m .no (.tuple #[]):= .tuple rfl (fun i x y hx=>by simp at hx)
theorem VR.oneCell {m:Map}{v:AV}{v':Value}(h:VR m v v')(hc:v.isCell=true):v'.oneCell'=true:=by
 cases h with
 |val h=>cases v'<;>simp_all [jhv,Value.oneCell']
 |ptr h=>rfl
 |slice=>rfl
 |agg=>simp[AV.isCell] at hc
 |tuple=>simp[AV.isCell] at hc
 |func=>rfl
 |hole=>rfl
 |mp=>rfl
 |bfunc=>rfl
theorem VR.cells {m:Map}{v:AV}{v':Value}(h:VR m v v'):VRs m v.cells v'.cells.toList:=by
 cases h with
 |val h=>cases v'<;>first|(simp[jhv] at h;done)|exact .cons (.val h) .nil
 |ptr h=>exact .cons (.ptr h) .nil
 |slice h ho h1 h2 h3 h4=>exact .cons (.slice h ho h1 h2 h3 h4) .nil
 |agg hl h=>exact⟨by simpa[AV.cells,Value.cells] using hl,by simpa[AV.cells,Value.cells] using h⟩
 |tuple hl h=>exact .cons (.tuple hl h) .nil
 |func hl h=>exact .cons (.func hl h) .nil
 |hole=>exact .cons .hole .nil
 |mp h=>exact .cons (.mp h) .nil
 |bfunc hl hl2 h h2=>exact .cons (.bfunc hl hl2 h h2) .nil
theorem jfp {m:Map}{v:Value}{a:AV}(h:jiL v=some a):VR m a v:=by
 unfold jiL at h;split at h
 ·rename_i cs
  split at h
  ·rename_i hc
   injection h with h;subst h
   exact VRs.agg (VRs.plains _ hc)
  ·cases h
 ·rename_i vs
  split at h
  ·rename_i hc
   injection h with h;subst h
   have:vs= #[]:=U3 hc;subst this;exact VRs.no
  ·cases h
 ·rename_i f a b
  split at h
  ·rename_i hc
   injection h with h;subst h
   obtain rfl:a= #[]:=U3 hc.1;obtain rfl:b= #[]:=U3 hc.2;exact VRs.func .nil
  ·cases h
 ·split at h
  ·rename_i hc
   injection h with h;subst h
   exact .val hc
  ·cases h
theorem jnX {m:Map}{s:jal}{a:Act}{x:Operand}{y:Opd}(h:cOpd x=some y)(hs: ∀t,x= .tmp t→VR m (s t) (a.tmps.getD t undef)):VR m (y.ev s) (a.eval x):=by
 cases x with
 |tmp t=>
  simp only[cOpd,U4] at h;subst h
  exact hs t rfl
 |const v=>
  simp only[cOpd,U5] at h;obtain⟨b,hb,rfl⟩:=h;exact jfp hb
 |global g=>simp[cOpd] at h
 |func f=>
  simp only[cOpd,U4] at h;subst h
  exact VRs.func (vs:= #[]) .nil
/-! ### Memory -/
def MpE (m:Map)(l:List AV)(es:List MapEntry):Prop:=l.length=es.length∧ ∀(i:Nat) a e,l[i]?=some a→es[i]?=some e→ ∃k v,a= .tuple [.val (.int .i64 k),v]∧e.key= .int .i64 k∧VR m v e.val
theorem MpE.mono {m m':Map}(hm: ∀id b,m id=some b→m' id=some b){l:List AV}{es:List MapEntry}(h:MpE m l es):MpE m' l es:=
 ⟨h.1,fun i a e ha he=>by obtain⟨k,v,h1,h2,h3⟩:=h.2 i a e ha he;exact⟨k,v,h1,h2,h3.mono hm⟩⟩
def jej (es:List MapEntry)(ck:Nat):Prop:=(∀e∈es,e.born<ck)∧(es.map (·.born)).Nodup
def jiS:Bool→AV→Value→Prop
  |true,a,v=> ∃s,a= .val (.string s)∧v= .string s∧s.size≤maxLen
  |false,a,v=> ∃x y,a= .agg [.val (.int .i64 x),.val (.int .i64 y)]∧v= .agg #[.int .i64 x,.int .i64 y]∧(Lit.int .i64 x).wf=true∧(Lit.int .i64 y).wf=true
def MpK (kd:Bool)(m:Map)(l:List AV)(es:List MapEntry):Prop:=l.length=es.length∧(∀(i:Nat) a e,l[i]?=some a→es[i]?=some e→ ∃k v,a= .tuple [k,v]∧jiS kd k e.key∧VR m v e.val)∧es.Pairwise fun a b=>a.key≠b.key
theorem MpK.mono {m m':Map}{kd:Bool}(hm: ∀id b,m id=some b→m' id=some b){l:List AV}{es:List MapEntry}(h:MpK kd m l es):MpK kd m' l es:=
 ⟨h.1,fun i a e ha he=>by obtain⟨k,v,h1,h2,h3⟩:=h.2.1 i a e ha he;exact⟨k,v,h1,h2,h3.mono hm⟩,h.2.2⟩
theorem jiS.vr {m:Map}{kd:Bool}{a:AV}{v:Value}(h:jiS kd a v):VR m a v:=by
 cases kd with
 |true=>obtain⟨s,rfl,rfl,_⟩:=h;exact .val rfl
 |false=>
  obtain⟨x,y,rfl,rfl,_,_⟩:=h;refine VR.agg rfl fun i a v ha hv=>?_
  match i,ha,hv with
  |0,ha,hv=>simp at ha hv;subst ha;subst hv;exact .val rfl
  |1,ha,hv=>simp at ha hv;subst ha;subst hv;exact .val rfl
  |i+2,ha,hv=>simp at ha
def MpB (m:Map)(l:List AV)(es:List MapEntry):Prop:=MpE m l es∨ ∃kd l',l= .val (.bool kd)::l'∧MpK kd m l' es
theorem MpB.mono {m m':Map}(hm: ∀id b,m id=some b→m' id=some b){l:List AV}{es:List MapEntry}(h:MpB m l es):MpB m' l es:=by
 rcases h with h|⟨kd,l',h1,h2⟩
 ·exact .inl (h.mono hm)
 ·exact .inr ⟨kd,l',h1,h2.mono hm⟩
theorem MpB.int {m:Map}{l:List AV}{es:List MapEntry}(h:MpB m l es)(hk:kS l=false):MpE m l es:=by
 rcases h with h|⟨kd,l',rfl,h2⟩
 ·exact h
 ·cases hk
theorem MpB.other {m:Map}{b:Bool}{l:List AV}{es:List MapEntry}(h:MpB m (.val (.bool b)::l) es):MpK b m l es:=by
 rcases h with h|⟨kd,l',h1,h2⟩
 ·obtain⟨h1,h2⟩:=h
  cases es with
  |nil=>simp at h1
  |cons e r=>obtain⟨k,v,h3,_⟩:=h2 0 _ e rfl rfl;cases h3
 ·injection h1 with h1 h3
  injection h1 with h1;injection h1 with h1
  subst h1;subst h3;exact h2
def MpC (m:Map)(l:List AV)(es:Array MapEntry)(ck:Nat):Prop:=MpB m l es.toList∧jej es.toList ck
theorem MpC.mono {m m':Map}(hm: ∀id b,m id=some b→m' id=some b){l:List AV}{es:Array MapEntry}{ck:Nat}(h:MpC m l es ck):MpC m' l es ck:=⟨h.1.mono hm,h.2⟩
theorem jej.nil {ck:Nat}:jej [] ck:=⟨fun e h=>by simp at h,by simp⟩
theorem jej.push {es:List MapEntry}{ck:Nat}(h:jej es ck)(k v:Value):jej (es++[⟨k,v,ck⟩]) (ck+1):=by
 refine⟨fun e he=>?_,?_⟩
 ·rcases O3.1 he with he|he
  ·have:=h.1 e he;omega
  ·simp at he;subst he;simp
 ·rw[List.map_append,List.nodup_append]
  refine⟨h.2,by simp,fun a ha b hb=>?_⟩;simp at hb;subst hb
  obtain⟨e,he,rfl⟩:=U6.1 ha;have:=h.1 e he;omega
theorem jej.modify {es:List MapEntry}{ck:Nat}(h:jej es ck)(j:Nat)(f:MapEntry→MapEntry)(hf: ∀e,(f e).born=e.born):jej (es.modify j f) ck:=by
 have e1:(es.modify j f).map (·.born)=es.map (·.born):=by
  apply U7
  intro i;simp only[U8,List.getElem?_modify]
  cases es[i]? with
  |none=>rfl
  |some e=>
   simp only[U9];split<;>simp[hf]
 refine⟨fun e he=>?_,by rw[e1];exact h.2⟩;have:e.born∈(es.modify j f).map (·.born):=U6.2 ⟨e,he,rfl⟩;rw[e1] at this;obtain⟨e',he',h2⟩:=U6.1 this;rw[←h2];exact h.1 e' he'
theorem jej.erase {es:List MapEntry}{ck:Nat}(h:jej es ck)(j:Nat):jej (es.eraseIdx j) ck:=by
 have hs:=List.eraseIdx_sublist es j;exact⟨fun e he=>h.1 e (hs.subset he),h.2.sublist (hs.map _)⟩
def glTab:List (Nat×List Value):=[(0,(O5 256).map fun i=> .int .u8 (if i=32∨(9≤i∧i≤13) then 1 else 0))]
def GlOk (B0:Nat)(w:World):Prop:= ∀g∈glTab,g.1<B0∧ ∀(i:Nat) v,g.2[i]?=some v→w.cell? ⟨g.1,i,none⟩=some v
theorem GlOk.none {B:Nat}{w:World}(h:glTab=[]):GlOk B w:=fun g hg=>by rw[h] at hg;cases hg
theorem GlOk.keep {B0 B1:Nat}{w w':World}(h:GlOk B0 w)(hb:B0≤B1)(hk: ∀x,x<B0→w'.heap[x]?=w.heap[x]?):GlOk B1 w':=fun g hg=>by
 obtain⟨h1,h2⟩:=h g hg;refine⟨V0 h1 hb,fun i v hv=>?_⟩;simpa only[V1,hk g.1 h1] using h2 i v hv
structure Rel (n0 B0:Nat)(m:Map)(g:Nat→Option (List AV))(w:World):Prop where
  base:B0≤w.heap.size
  lt: ∀id b,m id=some b→b.b<w.heap.size
  cell: ∀id l b,g id=some l→CB m id b→ ∀i v,l[i]?=some v→ ∃v',w.cell? ⟨b.b,b.off+i,none⟩=some v'∧VR m v v'
  one: ∀id l b,g id=some l→CB m id b→ ∀v∈l,v.isCell=true
  own: ∀id l b,n0≤id→g id=some l→CB m id b→B0≤b.b∧l.length≤b.room∧ ∃c e,w.heap[b.b]?=some (.cells c e (0,0))∧b.off+b.room≤c.size
  ro: ∀id b,id<n0→m id=some b→b.b<B0
  inj: ∀i j li lj bi bj,n0≤i→n0≤j→g i=some li→g j=some lj→m i=some bi→m j=some bj→bi.b=bj.b→i=j
  mp: ∀id l b,g id=some l→MB m id b→n0≤id∧B0≤b.b∧ ∃es clk,w.heap[b.b]?=some (.map es clk)∧MpC m l es clk
  gl:GlOk B0 w
structure Rels (n0 B0:Nat)(m:Map)(h:Heap)(w:World):Prop where
  rel:Rel n0 B0 m (blk h) w
  dom: ∀id b,m id=some b→id<h.length
  n0:n0≤h.length
structure Post (n0 B0:Nat)(fl:Nat→Bool)(m:Map)(h:Heap)(w:World)(m':Map)(h':Heap)(w':World):Prop where
  rels:Rels n0 B0 m' h' w'
  len:h.length≤h'.length
  keep: ∀id,id<h.length→m' id=m id
  os:w'.os=w.os
  tape:w'.tape=w.tape
  output:w'.output=w.output
  size:w.heap.size≤w'.heap.size
  frame: ∀x,x<w.heap.size→(∀id l b,fl id=true→blk h id=some l→m id=some b→b.b≠x)→w'.heap[x]?=w.heap[x]?
  fresh: ∀id b,h.length≤id→m' id=some b→w.heap.size≤b.b∨ ∃j l c,fl j=true∧blk h j=some l∧m j=some c∧c.b=b.b
  unt: ∀id,id<h.length→(m id=none∨fl id=false)→h'[id]?=h[id]?
  dead: ∀id,id<h.length→blk h id=none→blk h' id=none
  new: ∀id,h.length≤id→id<h'.length→m' id≠none
theorem Post.ext {n0 B0:Nat}{fl:Nat→Bool}{m m':Map}{h h':Heap}{w w':World}(p:Post n0 B0 fl m h w m' h' w')(hd: ∀id b,m id=some b→id<h.length)(id:Nat)(b:Base)(hb:m id=some b):m' id=some b:=by
 rw[p.keep id (hd id b hb)];exact hb
theorem Post.refl {n0 B0:Nat}{fl:Nat→Bool}{m:Map}{h:Heap}{w:World}(r:Rels n0 B0 m h w):Post n0 B0 fl m h w m h w:=
 ⟨r,V2 _,fun _ _=>rfl,rfl,rfl,rfl,V2 _,fun _ _ _=>rfl,fun id b hid hb=>absurd (r.dom id b hb) (by omega),fun _ _ _=>rfl,fun _ _ h=>h,fun id h1 h2=>absurd h2 (by omega)⟩
theorem jdE {h:Heap}{id:Nat}{l:List AV}:blk h id=some l↔h[id]?=some (some l):=by
 unfold blk;split
 ·rename_i l' hl;rw[hl];simp
 ·rename_i hn
  constructor
  ·intro h;cases h
  ·intro h';exact absurd h' (by simpa using hn l)
theorem jd7 {h h':Heap}{i j:Nat}(e:h[i]?=h'[j]?):blk h i=blk h' j:=by unfold blk;rw[e]
theorem jcm {h:Heap}{id:Nat}{l:List AV}(hb:blk h id=some l):id<h.length:=by
 rw[jdE] at hb;rw[U0] at hb;exact hb.1
theorem Post.trans {n0 B0:Nat}{fl:Nat→Bool}{m m' m'':Map}{h h' h'':Heap}{w w' w'':World}(hd: ∀id b,m id=some b→id<h.length)
  (p:Post n0 B0 fl m h w m' h' w') (q:Post n0 B0 fl m' h' w' m'' h'' w''):Post n0 B0 fl m h w m'' h'' w'':=by
 have lift: ∀j l c,fl j=true→blk h' j=some l→m' j=some c→(∃j l c',fl j=true∧blk h j=some l∧m j=some c'∧c'.b=c.b)∨w.heap.size≤c.b:=by
  intro j l c hj hl hc;by_cases hlt:j<h.length
  ·left
   cases hb:blk h j with
   |none=>rw[p.dead j hlt hb] at hl;cases hl
   |some l0=>exact⟨j,l0,c,hj,hb,by rw[←p.keep j hlt];exact hc,rfl⟩
  ·rcases p.fresh j c (by omega) hc with h1|⟨j',l',c',h1,h2,h3,h4⟩
   ·exact .inr h1
   ·exact .inl ⟨j',l',c',h1,h2,h3,h4⟩
 refine⟨q.rels,V3 p.len q.len,fun id hid=>(q.keep id (V0 hid p.len)).trans (p.keep id hid),q.os.trans p.os,q.tape.trans p.tape,q.output.trans p.output,V3 p.size q.size,?_,?_,?_,?_,?_⟩
 ·intro x hx hn
  rw[q.frame x (V0 hx p.size) ?_,p.frame x hx hn];intro id l b hid hl hb he;rcases lift id l b hid hl hb with⟨j,l0,c,h1,h2,h3,h4⟩|h1
  ·exact hn j l0 c h1 h2 h3 (h4.trans he)
  ·omega
 ·intro id b hid hb
  by_cases hlt:id<h'.length
  ·rw[q.keep id hlt] at hb
   exact p.fresh id b hid hb
  ·rcases q.fresh id b (by omega) hb with h1|⟨j,l,c,h1,h2,h3,h4⟩
   ·exact .inl (V3 p.size h1)
   ·rcases lift j l c h1 h2 h3 with⟨j,l0,c',h5,h6,h7,h8⟩|h5
    ·exact .inr ⟨j,l0,c',h5,h6,h7,h8.trans h4⟩
    ·exact .inl (by omega)
 ·intro id hid hh
  rw[q.unt id (V0 hid p.len) (by rw[p.keep id hid];exact hh),p.unt id hid hh]
 ·intro id hid hb
  exact q.dead id (V0 hid p.len) (p.dead id hid hb)
 ·intro id h1 h2
  by_cases hlt:id<h'.length
  ·rw[q.keep id hlt];exact p.new id h1 hlt
  ·exact q.new id (by omega) h2
theorem Post.mono {n0 B0:Nat}{fl fl':Nat→Bool}(hf: ∀i,fl i=true→fl' i=true){m m':Map}{h h':Heap}{w w':World}(p:Post n0 B0 fl m h w m' h' w'):Post n0 B0 fl' m h w m' h' w':=
 ⟨p.rels,p.len,p.keep,p.os,p.tape,p.output,p.size,fun x hx hn=>p.frame x hx fun id l b h1=>hn id l b (hf id h1),
  fun id b hid hb=>(p.fresh id b hid hb).imp (fun h=>h) fun⟨j,l,c,h1,h2⟩=>⟨j,l,c,hf j h1,h2⟩,
  fun id hid hh => p.unt id hid (hh.imp (fun h => h) fun h => by
   cases h1:fl id with
   |false=>rfl
   |true=>rw[hf id h1] at h;cases h),p.dead,p.new⟩
/-! ### Reading -/
theorem jgt {n0 B0:Nat}{m:Map}{g:Nat→Option (List AV)}{w:World}(r:Rel n0 B0 m g w){id:Nat}{l:List AV}{b:Base}(hl:g id=some l)(hb:CB m id b){off n:Nat}(hn:off+n≤l.length):
  ∃vs:List Value,vs.length=n∧(∀j v,vs[j]?=some v→w.cell? ((⟨b.b,b.off+off,none⟩:Addr).add j)=some v)∧VRs m ((l.drop off).take n) vs:=by
 induction n with
 |zero=>exact⟨[],rfl,fun j v h=>by simp at h,by simpa using VRs.nil⟩
 |succ n ih=>
  obtain⟨vs,h1,h2,h3⟩:=ih (by omega);obtain⟨v',hv,hr⟩:=r.cell id l b hl hb (off+n) l[off+n] (U1 (by omega));refine⟨vs++[v'],by simp[h1],fun j v hj=>?_,?_⟩
  ·rw[O7] at hj
   split at hj
   ·exact h2 j v hj
   ·have hj0:j=vs.length:=by
     rw[U0] at hj;obtain⟨hj,_⟩:=hj;simp at hj;omega
    subst hj0;simp at hj;subst hj
    have e:((⟨b.b,b.off+off,none⟩:Addr).add vs.length)=⟨b.b,b.off+(off+n),none⟩:=by
     unfold Addr.add;split
     ·rename_i h0;rw[h1] at h0;simp[h0]
     ·rw[h1];simp[V4]
    rw[e];exact hv
  ·rw[List.take_add_one]
   refine h3.append ?_;rw[O9,U1 (by omega)];exact .cons hr .nil
end
section
open Go
section
variable {n0 B0:Nat}{P:Program}{m:Map}{h:Heap}{w:World}{fl:Nat→Bool}
def mset (m:Map)(id:Nat)(b:Base):Map:=fun i=>if i=id then some b else m i
theorem jcA {h:Heap}{id:Nat}(e:Heap)(hi:id<h.length):blk (h++e) id=blk h id:=jd7 (by rw[V5 hi])
theorem jbk {h:Heap}{l:List AV}:blk (h++[some l]) h.length=some l:=by rw[jdE];simp
theorem jdx (r:Rels n0 B0 m h w)(cs:List AV)(arr:Array Value)(e:TypeId)(room:Nat)(hone: ∀x∈cs,x.isCell=true)(hroom:cs.length≤room)(hsz:room≤arr.size)
  (hcs: ∀(i:Nat) x,cs[i]?=some x→ ∃y,arr[i]?=some y∧VR m x y):
  Post n0 B0 fl m h w (mset m h.length ⟨w.heap.size,0,room,false⟩) (h++[some cs]) (w.alloc (.cells arr e)):=by
 have hm: ∀id b,m id=some b→mset m h.length ⟨w.heap.size,0,room,false⟩ id=some b:=fun id b hb=>by
  have:=r.dom id b hb;simp only[mset];rw[if_neg (by omega)];exact hb
 have hold: ∀id b,id<h.length→mset m h.length ⟨w.heap.size,0,room,false⟩ id=some b→m id=some b:=fun id b hi hb=>by
  simp only[mset] at hb;rw[if_neg (by omega)] at hb;exact hb
 have hnew: ∀b,mset m h.length ⟨w.heap.size,0,room,false⟩ h.length=some b→b=⟨w.heap.size,0,room,false⟩:=fun b hb=>by simp[mset] at hb;exact hb.symm
 have hcase: ∀id l,blk (h++[some cs]) id=some l→(id<h.length∧blk h id=some l)∨(id=h.length∧l=cs):=fun id l hl=>by
  by_cases hi:id<h.length
  ·rw[jcA _ hi] at hl;exact .inl ⟨hi,hl⟩
  ·have:=jcm hl
   simp at this;obtain rfl:id=h.length:=by omega
   rw[jbk] at hl;exact .inr ⟨rfl,by injection hl with hl;exact hl.symm⟩
 have hheap: ∀k,k<w.heap.size→(w.alloc (.cells arr e)).heap[k]?=w.heap[k]?:=fun k hk=>by
  show (w.heap.push _)[k]?=_;rw[V6 hk,V7 hk]
 refine⟨⟨⟨by have:=r.rel.base;simp;omega,?_,?_,?_,?_,?_,?_,?_,r.rel.gl.keep (V2 _) fun x hx=>hheap x (V0 hx r.rel.base)⟩,?_,by simp;have:=r.n0;omega⟩,by simp,?_,rfl,rfl,rfl,by simp,fun x hx _=>hheap x hx,?_,?_,?_,?_⟩
 ·intro id b hb
  by_cases hi:id=h.length
  ·subst hi;rw[hnew b hb];simp
  ·have:mset m h.length ⟨w.heap.size,0,room,false⟩ id=m id:=by simp[mset,hi]
   rw[this] at hb;have:=r.rel.lt id b hb;simp;omega
 ·intro id l b hl hb i v hv
  rcases hcase id l hl with⟨hi,hl⟩|⟨rfl,rfl⟩
  ·have hb:=(⟨hold id b hi hb.1,hb.2⟩:CB m id b)
   obtain⟨v',h1,h2⟩:=r.rel.cell id l b hl hb i v hv;exact⟨v',by rw[V8 _ _ _ (r.rel.lt id b hb.1)];exact h1,h2.mono hm⟩
  ·obtain rfl:=hnew b hb.1
   obtain⟨y,hy,hr⟩:=hcs i v hv;exact⟨y,by simp[hy],hr.mono hm⟩
 ·intro id l b hl hb
  rcases hcase id l hl with⟨hi,hl⟩|⟨rfl,rfl⟩
  ·exact r.rel.one id l b hl ⟨hold id b hi hb.1,hb.2⟩
  ·exact hone
 ·intro id l b hid hl hb
  rcases hcase id l hl with⟨hi,hl⟩|⟨rfl,rfl⟩
  ·have hb:=(⟨hold id b hi hb.1,hb.2⟩:CB m id b)
   obtain⟨h1,h2,c,e',h3,h4⟩:=r.rel.own id l b hid hl hb;exact⟨h1,h2,c,e',by rw[hheap _ (r.rel.lt id b hb.1)];exact h3,h4⟩
  ·obtain rfl:=hnew b hb.1
   exact⟨r.rel.base,hroom,arr,e,by show (w.heap.push _)[w.heap.size]?=_;simp,by simpa using hsz⟩
 ·intro id b hid hb
  have:=r.n0;exact r.rel.ro id b hid (hold id b (by omega) hb)
 ·intro i j li lj bi bj hi hj hli hlj hbi hbj he
  rcases hcase i li hli with⟨h1,h2⟩|⟨h1,h2⟩<;>rcases hcase j lj hlj with⟨h3,h4⟩|⟨h3,h4⟩
  ·exact r.rel.inj i j li lj bi bj hi hj h2 h4 (hold _ _ h1 hbi) (hold _ _ h3 hbj) he
  ·subst h3;subst h4
   rw[hnew bj hbj] at he;have:=r.rel.lt i bi (hold _ _ h1 hbi);simp at he;omega
  ·subst h1;subst h2
   rw[hnew bi hbi] at he;have:=r.rel.lt j bj (hold _ _ h3 hbj);simp at he;omega
  ·rw[h1,h3]
 ·intro id l b hl hb
  rcases hcase id l hl with⟨hi,hl⟩|⟨rfl,rfl⟩
  ·have hb:=(⟨hold id b hi hb.1,hb.2⟩:MB m id b)
   obtain⟨h1,h2,es,ck,h3,h4⟩:=r.rel.mp id l b hl hb;exact⟨h1,h2,es,ck,by rw[hheap _ (r.rel.lt id b hb.1)];exact h3,h4.mono hm⟩
  ·have:=hb.2
   rw[hnew b hb.1] at this;cases this
 ·intro id b hb
  by_cases hi:id=h.length
  ·subst hi;simp
  ·have:mset m h.length ⟨w.heap.size,0,room,false⟩ id=m id:=by simp[mset,hi]
   rw[this] at hb;have:=r.dom id b hb;simp;omega
 ·intro id hid
  simp only[mset];rw[if_neg (by omega)]
 ·intro id b hid hb
  by_cases hi:id=h.length
  ·subst hi;rw[hnew b hb];exact .inl (V2 _)
  ·have:mset m h.length ⟨w.heap.size,0,room,false⟩ id=m id:=by simp[mset,hi]
   rw[this] at hb;have:=r.dom id b hb;omega
 ·intro id hid _
  rw[V5 hid]
 ·intro id hid hb
  rw[jcA _ hid];exact hb
 ·intro id h1 h2
  obtain rfl:id=h.length:=by simp at h2;omega
  simp[mset]
theorem jrc (r:Rels n0 B0 m h w)(hfl: ∀id,fl id=true→n0≤id){id:Nat}{l:List AV}{b:Base}(hid:fl id=true)(hl:blk h id=some l)(hb:CB m id b)
  {c:Array Value} {e:TypeId} (hc:w.heap[b.b]?=some (.cells c e (0,0))) (l':List AV) (hone: ∀x∈l',x.isCell=true) (hll:l'.length≤b.room) (arr:Array Value) (hsz:arr.size=c.size)
  (hcs: ∀(i:Nat) x,l'[i]?=some x→ ∃y,arr[b.off+i]?=some y∧VR m x y) (w':World) (hw:w'=w.setRow b.b arr):
  Post n0 B0 fl m h w m (h.set id (some l')) w':=by
 subst hw;have hlt:=jcm hl;have hheap: ∀k,k≠b.b→(w.setRow b.b arr).heap[k]?=w.heap[k]?:=fun k hk=>by
  simp[V9,M0,Ne.symm hk]
 have hat:(w.setRow b.b arr).heap[b.b]?=some (.cells arr e (0,0)):=by
  simp[V9,M0,hc]
 have hsize:(w.setRow b.b arr).heap.size=w.heap.size:=by simp[V9]
 have hcell: ∀k o,k≠b.b→(w.setRow b.b arr).cell? ⟨k,o,none⟩=w.cell? ⟨k,o,none⟩:=fun k o hk=>by
  simp only[V1,hheap k hk]
 have hcase: ∀i li,blk (h.set id (some l')) i=some li→(i≠id∧blk h i=some li)∨(i=id∧li=l'):=fun i li hli=>by
  rw[jdE,M1] at hli;split at hli
  ·rename_i he
   subst he;injection hli with hli;injection hli with hli
   exact .inr ⟨rfl,hli.symm⟩
  ·rename_i he
   exact .inl ⟨fun h=>he h.symm,jdE.2 hli⟩
 have hn:=hfl id hid;have hfar: ∀i li bi,i≠id→blk h i=some li→m i=some bi→bi.b≠b.b:=fun i li bi hne hli hbi he=>by
  by_cases hi:n0≤i
  ·exact hne (r.rel.inj i id li l bi b hi hn hli hl hbi hb.1 he)
  ·have h1:=r.rel.ro i bi (by omega) hbi
   have h2:=(r.rel.own id l b hn hl hb).1;omega
 refine⟨⟨⟨by rw[hsize];exact r.rel.base,fun i bi hbi=>by rw[hsize];exact r.rel.lt i bi hbi,?_,?_,?_,r.rel.ro,?_,?_,r.rel.gl.keep (V2 _) fun x hx=>hheap x (by have:=(r.rel.own id l b hn hl hb).1;omega)⟩,?_,by simpa using r.n0⟩,by simp,fun _ _=>rfl,rfl,rfl,rfl,by rw[hsize];exact V2 _,?_,?_,?_,?_,fun id h1 h2=>absurd h2 (by simp;omega)⟩
 ·intro i li bi hli hbi j v hv
  rcases hcase i li hli with⟨hne,hli⟩|⟨rfl,rfl⟩
  ·rw[hcell _ _ (hfar i li bi hne hli hbi.1)]
   exact r.rel.cell i li bi hli hbi j v hv
  ·obtain rfl:bi=b:=by have:=hb.1.symm.trans hbi.1;injection this with this;exact this.symm
   obtain⟨y,hy,hr⟩:=hcs j v hv;exact⟨y,by simp[V1,hat,hy],hr⟩
 ·intro i li bi hli hbi
  rcases hcase i li hli with⟨hne,hli⟩|⟨rfl,rfl⟩
  ·exact r.rel.one i li bi hli hbi
  ·exact hone
 ·intro i li bi hi hli hbi
  rcases hcase i li hli with⟨hne,hli⟩|⟨rfl,rfl⟩
  ·obtain⟨h1,h2,c',e',h3,h4⟩:=r.rel.own i li bi hi hli hbi
   exact⟨h1,h2,c',e',by rw[hheap _ (hfar i li bi hne hli hbi.1)];exact h3,h4⟩
  ·obtain rfl:bi=b:=by have:=hb.1.symm.trans hbi.1;injection this with this;exact this.symm
   obtain⟨h1,h2,c',e',h3,h4⟩:=r.rel.own i l bi hi hl hb;rw[hc] at h3;injection h3 with h3;injection h3 with h3 h5 h6;subst h3
   exact⟨h1,hll,arr,e,hat,by rw[hsz];exact h4⟩
 ·intro i j li lj bi bj hi hj hli hlj hbi hbj he
  have jn3: ∀i li,blk (h.set id (some l')) i=some li→ ∃l0,blk h i=some l0:=fun i li hli=>by
   rcases hcase i li hli with⟨_,h1⟩|⟨rfl,_⟩
   ·exact⟨_,h1⟩
   ·exact⟨_,hl⟩
  obtain⟨l1,h1⟩:=jn3 i li hli;obtain⟨l2,h2⟩:=jn3 j lj hlj;exact r.rel.inj i j l1 l2 bi bj hi hj h1 h2 hbi hbj he
 ·intro i li bi hli hbi
  rcases hcase i li hli with⟨hne,hli⟩|⟨rfl,rfl⟩
  ·obtain⟨h1,h2,es,ck,h3,h4⟩:=r.rel.mp i li bi hli hbi
   exact⟨h1,h2,es,ck,by rw[hheap _ (hfar i li bi hne hli hbi.1)];exact h3,h4⟩
  ·have e:bi=b:=by have:=hb.1.symm.trans hbi.1;injection this with this;exact this.symm
   have h1:=hbi.2;rw[e,hb.2] at h1;cases h1
 ·intro i bi hbi;simpa using r.dom i bi hbi
 ·intro x hx hn
  exact hheap x (fun hxb=>hn id l b hid hl hb.1 hxb.symm)
 ·intro i bi hi hbi
  have:=r.dom i bi hbi;omega
 ·intro i hi hh
  rw[M1];split
  ·rename_i he;subst he
   rcases hh with hh|hh
   ·rw[hb.1] at hh;cases hh
   ·rw[hid] at hh;cases hh
  ·rfl
 ·intro i hi hbi
  cases hc':blk (h.set id (some l')) i with
  |none=>rfl
  |some li=>
   rcases hcase i li hc' with⟨_,h1⟩|⟨rfl,_⟩
   ·rw[h1] at hbi;cases hbi
   ·rw[hl] at hbi;cases hbi
theorem jiy (r:Rels n0 B0 m h w)(hfl: ∀id,fl id=true→n0≤id){id off:Nat}{b:Base}(hb:CB m id b){vs:List AV}{us:List Value}(hv:VRs m vs us)(hone': ∀v∈vs,v.isCell=true){h':Heap}(hw:wr fl h id off vs=some h'):
  ∃w',(storeCells ⟨b.b,b.off+off,none⟩ us).run P w= .ok () w'∧Post n0 B0 fl m h w m h' w':=by
 unfold wr at hw;split at hw
 ·rename_i l hl
  split at hw
  ·rename_i hcond
   obtain⟨hid,hlen⟩:=hcond;injection hw with hw;subst hw
   obtain⟨h1,h2,c,e,h3,h4⟩:=r.rel.own id l b (hfl id hid) hl hb;have hone: ∀v∈us,v.oneCell'=true:=fun v hv'=>by
    obtain⟨i,hi,rfl⟩:=M3 hv';have hi':i<vs.length:=by rw[hv.1];exact hi
    exact (hv.2 i _ _ (U1 hi') (U1 hi)).oneCell (hone' _ (M4 _))
   have hst:=run_storeCells_at P b.b (b.off+off) e us 0 c w h3 (by rw[←hv.1];omega) hone;simp only[M5] at hst;refine⟨_,hst,jrc r hfl hid hl hb h3 _ (fun x hx=>?_) ?_ _ ?_ ?_ _ rfl⟩
   ·simp only[O3] at hx
    rcases hx with (hx|hx)|hx
    ·exact r.rel.one id l b hl hb x (M6 hx)
    ·exact hone' x hx
    ·exact r.rel.one id l b hl hb x (M7 hx)
   ·simp;omega
   ·have:=hv.1;simp;omega
   ·intro i x hx
    have hus:=hv.1;by_cases hi1:i<off
    ·rw[M8,V5 (by simp;omega),O8,if_pos hi1] at hx
     obtain⟨y,hy,hr⟩:=r.rel.cell id l b hl hb i x hx;refine⟨y,?_,hr⟩;rw[M9,M8,V5 (by simp;omega),O8,if_pos (by omega)];simpa[V1,h3] using hy
    ·by_cases hi2:i<off+vs.length
     ·rw[M8,N0 (by simp;omega),V5 (by simp;omega)] at hx
      have e1:(l.take off).length=off:=by simp;omega
      rw[e1] at hx;obtain⟨y,hy,hr⟩:=hv.get hx;refine⟨y,?_,hr⟩;have e2:(c.toList.take (b.off+off)).length=b.off+off:=by simp;omega
      rw[M9,M8,N0 (by rw[e2];omega),V5 (by rw[e2];omega),e2,show b.off+i - (b.off+off)=i - off by omega];exact hy
     ·rw[M8,N0 (by simp;omega),N0 (by simp;omega)] at hx
      have e1:(l.take off).length=off:=by simp;omega
      rw[e1,O9,show off+vs.length+(i - off - vs.length)=i by omega] at hx;obtain⟨y,hy,hr⟩:=r.rel.cell id l b hl hb i x hx;refine⟨y,?_,hr⟩;have e2:(c.toList.take (b.off+off)).length=b.off+off:=by simp;omega
      rw[M9,M8,N0 (by rw[e2];omega),N0 (by rw[e2];omega),e2,O9,show b.off+off+us.length+(b.off+i - (b.off+off) - us.length)=b.off+i by omega];simpa[V1,h3] using hy
  ·cases hw
 ·cases hw
end
end
section
open Go
section
variable {n0 B0:Nat}{P:Program}{m:Map}{h:Heap}{w:World}{fl:Nat→Bool}
theorem jcc {t:TypeId}{i:TypeInfo}(hi:P.info? t=some i):(typeInfo t).run P w= .ok i w:=by simp[typeInfo,hi]
theorem jak {t:TypeId}{d:TypeDesc}(hi:P.underlying t=some d):(underlying t).run P w= .ok d w:=by simp[underlying,hi]
theorem jas {t:TypeId}{n:Nat}(hi:jco P t=some n):(sizeOf t).run P w= .ok n w:=by
 obtain⟨i,h1,rfl⟩:=U5.1 hi;simp[sizeOf,jcc h1]
theorem jbU {t:TypeId}{z:List AV}(hz:jig P t=some z): ∃v,(zeroValue t).run P w= .ok v w∧(∀m:Map,VRs m z v.cells.toList)∧ ∀x∈z,x.isCell=true:=by
 unfold jig at hz;split at hz
 ·rename_i i hi
  split at hz
  ·rename_i v hv
   unfold plains at hz;split at hz
   ·rename_i hp
    injection hz with hz;subst hz
    refine⟨v,by simp[zeroValue,jcc hi,hv],fun m=>VRs.plains _ hp,fun x hx=>?_⟩;obtain⟨y,_,rfl⟩:=U6.1 hx
    rfl
   ·cases hz
  ·cases hz
 ·cases hz
theorem jfT {t:TypeId}{n:Nat}(ht:aggT P t=some (some n)):(isAgg t).run P w= .ok true w∧(sizeOf t).run P w= .ok n w:=by
 unfold aggT at ht;split at ht
 ·rename_i i fs hi hu
  injection ht with ht;injection ht with ht;subst ht
  exact⟨by simp[isAgg,jak hu],jas (by simp[jco,hi])⟩
 ·rename_i i a b hi hu
  injection ht with ht;injection ht with ht;subst ht
  exact⟨by simp[isAgg,jak hu],jas (by simp[jco,hi])⟩
 ·cases ht
 ·cases ht
theorem jh4 {t:TypeId}(ht:aggT P t=some none):(isAgg t).run P w= .ok false w:=by
 unfold aggT at ht;split at ht
 ·cases ht
 ·cases ht
 ·rename_i i d hs ha hi hu
  simp only[isAgg,Sem.run_bind,jak hu,Result.andThen_ok,Sem.run_pure]
 ·cases ht
theorem jvu {t:TypeId}{n:Nat}(ht:aggT P t=some (some n)):jco P t=some n:=by
 unfold aggT at ht;split at ht
 ·rename_i i fs hi hu
  injection ht with ht;injection ht with ht;subst ht
  simp[jco,hi]
 ·rename_i i a b hi hu
  injection ht with ht;injection ht with ht;subst ht
  simp[jco,hi]
 ·cases ht
 ·cases ht
def Yield (r:Result Next)(v:Value)(w:World):Prop:=r= .ok (.value v) w∨(r= .ok .skip w∧v=undef)
def Sim (P:Program)(n0 B0:Nat)(fl:Nat→Bool)(m:Map)(h:Heap)(w:World)(ρ:Operand→Value)(o:Oper)(v:AV)(h':Heap):Prop:=
  ∃v' w' m',Yield ((execOp ρ o).run P w) v' w'∧Post n0 B0 fl m h w m' h' w'∧VR m' v v'
theorem jaw {o:Oper}{ρ:Operand→Value}{v:AV}{v':Value}(r:Rels n0 B0 m h w)(hr:(execOp ρ o).run P w= .ok (.value v') w)(hv:VR m v v'):Sim P n0 B0 fl m h w ρ o v h:=
 ⟨v',w,m,.inl hr,.refl r,hv⟩
theorem VR.bool {m:Map}{b:Bool}{v:Value}(h:VR m (.val (.bool b)) v):v= .bool b:=by cases h;rfl
theorem VR.int {m:Map}{k:IntKind}{n:Int}{v:Value}(h:VR m (.val (.int k n)) v):v= .int k n:=by cases h;rfl
theorem VR.lit {m:Map}{x v:Value}(h:VR m (.val x) v):v=x:=by cases h;rfl
theorem VR.ptr_inv {m:Map}{id off:Nat}{v:Value}(h:VR m (.ptr id off) v): ∃b,CB m id b∧v= .pointer (some ⟨b.b,b.off+off,none⟩):=by cases h with|ptr h=>exact⟨_,h,rfl⟩
variable {ρ:Operand→Value}{s:jal}{x y z:Operand}{x' y' z':Opd}{d:Option Tmp}{ty:TypeId}{pos:String}{af:Array Edge}{gd:Option (Nat×Bool)}
theorem sim_pick (r:Rels n0 B0 m h w)(hc:VR m (x'.ev s) (ρ x))(ha:VR m (y'.ev s) (ρ y))(hb:VR m (z'.ev s) (ρ z)){v:AV}{h':Heap}{top}(he:jah top fl s h (.pick x' y' z')=some (v,h')):
  Sim P n0 B0 fl m h w ρ ⟨d,.pick x y z,ty,pos,af,gd⟩ v h':=by
 simp only[jah] at he;split at he
 ·rename_i t ht
  rw[ht] at hc;injection he with he;injection he with he1 he2;subst he1;subst he2
  refine jaw r (v':=if t then ρ y else ρ z) ?_ ?_
  ·simp[execOp,hc.bool,asBool]
  ·cases t<;>simp[ha,hb]
 ·cases he
theorem sim_box (r:Rels n0 B0 m h w){t:TypeId}{n:Nat}(hx:VR m (x'.ev s) (ρ x)){v:AV}{h':Heap}{top}(he:jah top fl s h (.box n x')=some (v,h')):
  Sim P n0 B0 fl m h w ρ ⟨d,.box t x,ty,pos,af,gd⟩ v h':=by
 simp only[jah] at he;split at he
 ·rename_i hcell
  injection he with he;injection he with he1 he2;subst he1;subst he2
  have hcs:=hx.cells;refine ⟨.pointer (some ⟨w.heap.size, 0, none⟩), w.alloc (.cells (ρ x).cells t), mset m h.length ⟨w.heap.size, 0, (x'.ev s).cells.length, false⟩, .inl ?_, jdx r _ _ _ _ (fun x hx => N2.1 hcell.2 x hx) (V2 _) (by rw [hcs.1]; simp) (fun i a ha => by
   obtain⟨y,hy,hr⟩:=hcs.get ha;exact⟨y,by simpa using hy,hr⟩),VR.ptr (b:=⟨w.heap.size,0,_,false⟩) ⟨by simp[mset];rfl,rfl⟩⟩
  simp[execOp,Instr.box,newVar,newRow]
 ·cases he
theorem sim_zero (r:Rels n0 B0 m h w){t:TypeId}{cs:List AV}(hz:jig P t=some cs){v:AV}{h':Heap}{top}(he:jah top fl s h (.zero cs)=some (v,h')):
  Sim P n0 B0 fl m h w ρ ⟨d,.alloc t,ty,pos,af,gd⟩ v h':=by
 simp only[jah] at he;injection he with he;injection he with he1 he2;subst he1;subst he2
 obtain⟨zv,h1,h2,h3⟩:=jbU (P:=P) (w:=w) hz;have hcs:=h2 m;refine ⟨.pointer (some ⟨w.heap.size, 0, none⟩), w.alloc (.cells zv.cells t), mset m h.length ⟨w.heap.size, 0, cs.length, false⟩, .inl ?_, jdx r _ _ _ _ h3 (V2 _) (by rw [hcs.1]; simp) (fun i a ha => by
  obtain⟨y,hy,hr⟩:=hcs.get ha;exact⟨y,by simpa using hy,hr⟩),VR.ptr (b:=⟨w.heap.size,0,_,false⟩) ⟨by simp[mset];rfl,rfl⟩⟩
 simp[execOp,Instr.alloc,h1,newVar,newRow]
theorem sim_load (r:Rels n0 B0 m h w){t:TypeId}{n:Option Nat}(ht:aggT P t=some n)(hx:VR m (x'.ev s) (ρ x)){v:AV}{h':Heap}{top}(he:jah top fl s h (.load n x')=some (v,h')):
  Sim P n0 B0 fl m h w ρ ⟨d,.load t x,ty,pos,af,gd⟩ v h':=by
 simp only[jah] at he;split at he
 ·rename_i id off hp
  rw[hp] at hx;obtain⟨b,hb,hp⟩:=hx.ptr_inv;split at he
  ·split at he
   ·rename_i n
    obtain⟨h1,h2⟩:=jfT (w:=w) ht;split at he
    ·rename_i cs hcs
     injection he with he;injection he with he1 he2;subst he1;subst he2
     unfold rd at hcs;split at hcs
     ·rename_i l hl
      split at hcs
      ·rename_i hn
       injection hcs with hcs;subst hcs
       obtain⟨vs,h3,h4,h5⟩:=jgt r.rel hl hb hn;have:=run_loadCells_list (P:=P) w _ vs h4;rw[h3] at this;refine jaw r (v':= .agg vs.toArray) ?_ (VRs.agg (by simpa using h5));simp[execOp,hp,Instr.loadAt,Instr.sureAddr,loadVar,h1,h2,this]
      ·cases hcs
     ·cases hcs
    ·cases he
   ·have h1:=jh4 (w:=w) ht
    split at he
    ·rename_i v0 hv
     injection he with he;injection he with he1 he2;subst he1;subst he2
     unfold rd1 at hv;split at hv
     ·rename_i l hl
      obtain⟨v',h3,h4⟩:=r.rel.cell id l b hl hb off _ hv;refine jaw r (v':=v') ?_ h4;simp[execOp,hp,Instr.loadAt,Instr.sureAddr,loadVar,h1,h3]
     ·cases hv
    ·cases he
  ·cases he
 ·cases he
theorem jtA (r:Rels n0 B0 m h w)(hfl: ∀id,fl id=true→n0≤id){t:TypeId}{n:Nat}(ht:jco P t=some n)(hx:VR m (x'.ev s) (ρ x))(hy:VR m (y'.ev s) (ρ y)){v:AV}{h':Heap}{top}(he:jah top fl s h (.store n x' y')=some (v,h')):
  Sim P n0 B0 fl m h w ρ ⟨d,.store t x y,ty,pos,af,gd⟩ v h':=by
 simp only[jah] at he;split at he
 ·rename_i id off hp
  rw[hp] at hx;obtain⟨b,hb,hp⟩:=hx.ptr_inv;split at he
  ·rename_i hn
   split at he
   ·rename_i h1 hw
    injection he with he;injection he with he1 he2;subst he1;subst he2
    have hcs:=hy.cells;obtain⟨w',h2,h3⟩:=jiy (P:=P) r hfl hb hcs (fun x hx=>N2.1 hn.2 x hx) hw;refine⟨undef,w',m,.inr ⟨?_,rfl⟩,h3,VRs.no⟩;have hsz:(ρ y).cells.size=n:=by rw[←hn.1,hcs.1];simp
    simp[execOp,hp,Instr.storeAt,Instr.sureAddr,storeVar,jas ht,hsz,h2]
   ·cases he
  ·cases he
 ·cases he
theorem jmG (r:Rels n0 B0 m h w)(hx:VR m (x'.ev s) (ρ x)){v:AV}{h':Heap}{top}(he:jah top fl s h (.nilCheck x')=some (v,h')):
  Sim P n0 B0 fl m h w ρ ⟨d,.nilCheck x,ty,pos,af,gd⟩ v h':=by
 simp only[jah] at he;split at he
 ·rename_i id off hp
  rw[hp] at hx;injection he with he;injection he with he1 he2;subst he1;subst he2
  obtain⟨b,hb,hp⟩:=hx.ptr_inv;refine jaw r (v':=ρ x) ?_ (by rw[hp];exact .ptr hb);simp[execOp,hp]
 ·rename_i f cs hp
  rw[hp] at hx;injection he with he;injection he with he1 he2;subst he1;subst he2
  refine jaw r (v':=ρ x) ?_ hx;generalize hq:ρ x=u at hx
  cases hx with|func hl hh=>simp[execOp,hq]
 ·rename_i f as cs hp
  rw[hp] at hx;injection he with he;injection he with he1 he2;subst he1;subst he2
  refine jaw r (v':=ρ x) ?_ hx;generalize hq:ρ x=u at hx
  cases hx with|bfunc hl hl2 hh hh2=>simp[execOp,hq]
 ·cases he
theorem jtE (r:Rels n0 B0 m h w){t:TypeId}{f:Nat}{fd:Field}(hf:jku P t f=some fd){n:Option Nat}(ht:aggT P fd.type=some n)(hx:VR m (x'.ev s) (ρ x)){v:AV}{h':Heap}{top}(he:jah top fl s h (.field fd.offset n x')=some (v,h')):
  Sim P n0 B0 fl m h w ρ ⟨d,.field t x f,ty,pos,af,gd⟩ v h':=by
 simp only[jah] at he;split at he
 ·rename_i cs hp
  rw[hp] at hx;obtain⟨vs,hp,hvs⟩:=VRs.of_agg hx;split at he
  ·rename_i v0 hv
   injection he with he;injection he with he1 he2;subst he1;subst he2
   unfold jku at hf;split at hf
   ·rename_i fs hu
    cases n with
    |none=>
     simp only[jg3] at hv;obtain⟨u,h1,h2⟩:=hvs.get hv;refine jaw r (v':=u) ?_ h2;simp only[N3] at h1;simp[execOp,hp,Instr.field,jak hu,hf,asAgg,part,jh4 ht,h1]
    |some n=>
     simp only[jg3] at hv;split at hv
     ·rename_i hn
      injection hv with hv;subst hv
      refine jaw r (v':= .agg (vs.extract fd.offset (fd.offset+n))) ?_ (VRs.agg ?_)
      ·simp[execOp,hp,Instr.field,jak hu,hf,asAgg,part,(jfT ht).1,(jfT ht).2]
      ·have:=(hvs.drop fd.offset).take n
       rw[N4,N5];simpa using this
     ·cases hv
   ·cases hf
  ·cases he
 ·cases he
theorem jei (b o n:Nat):(⟨b,o,none⟩:Addr).add n=⟨b,o+n,none⟩:=by
 unfold Addr.add;split<;>simp_all
theorem jlp (r:Rels n0 B0 m h w){t:TypeId}{f:Nat}{fd:Field}(hf:jku P t f=some fd){n:Nat}(hn:jco P fd.type=some n)(hn0:n≠0)(hx:VR m (x'.ev s) (ρ x)){v:AV}{h':Heap}{top}(he:jah top fl s h (.fieldAddr fd.offset x')=some (v,h')):
  Sim P n0 B0 fl m h w ρ ⟨d,.fieldAddr t x f,ty,pos,af,gd⟩ v h':=by
 simp only[jah] at he;split at he
 ·rename_i id off hp
  rw[hp] at hx;injection he with he;injection he with he1 he2;subst he1;subst he2
  obtain⟨b,hb,hp⟩:=hx.ptr_inv;unfold jku at hf;split at hf
  ·rename_i fs hu
   refine jaw r (v':= .pointer (some ⟨b.b,b.off+(off+fd.offset),none⟩)) ?_ (.ptr hb);simp[execOp,hp,Instr.fieldAt,jak hu,hf,Instr.sureAddr,fieldPlace,jas hn,hn0,jei,V4]
  ·cases hf
 ·cases he
theorem jd4 {v:AV}{n:Nat}{u:Value}(hn:jcJ v=some n)(hv:VR m v u): ∃k,u= .int k n:=by
 unfold jcJ at hn;split at hn
 ·rename_i i hi
  unfold jiV at hi;split at hi
  ·rename_i k i'
   injection hi with hi;subst hi
   split at hn
   ·injection hn with hn;subst hn
    exact⟨k,by rw[hv.int];congr 1;omega⟩
   ·cases hn
  ·cases hi
 ·cases hn
theorem jdB {t:TypeId}{k bytes:Nat}{zs:List AV}(he:jfU P t=some (k,bytes,zs)): ∃e i,P.underlying t=some (.slice e)∧P.info? e=some i∧i.size=k∧i.bytes=bytes∧0<k∧0<bytes∧jig P e=some zs∧zs.length=k:=by
 unfold jfU at he;split at he
 ·rename_i e hu
  split at he
  ·rename_i i z' hi hz
   split at he
   ·rename_i hc
    injection he with he;injection he with h1 h2;injection h2 with h2 h3
    subst h1;subst h2;subst h3
    exact⟨e,i,hu,hi,rfl,rfl,hc.1,hc.2.1,hz,hc.2.2⟩
   ·cases he
  ·cases he
 ·cases he
theorem jlo (r:Rels n0 B0 m h w){t:TypeId}{k bytes:Nat}{zs:List AV}(ht:jfU P t=some (k,bytes,zs))(hx:VR m (x'.ev s) (ρ x))(hy:VR m (y'.ev s) (ρ y)){v:AV}{h':Heap}{top}(he:jah top fl s h (.indexAddr k x' y')=some (v,h')):
  Sim P n0 B0 fl m h w ρ ⟨d,.indexAddr t x y,ty,pos,af,gd⟩ v h':=by
 obtain⟨e,i,hu,hi,rfl,_,_,_,_,_⟩:=jdB ht;simp only[jah] at he;split at he
 ·rename_i id off len lb ex k' j hp hj
  rw[hp] at hx;obtain⟨kd,hj⟩:=jd4 hj hy;split at he
  ·rename_i hlt
   injection he with he;injection he with he1 he2;subst he1;subst he2
   generalize hq:ρ x=u at hx
   cases hx with
   |slice hb ho h1 h2 h3 h4=>
    rename_i b o c;have:o=off:=ho (by omega);subst this;refine jaw r (v':= .pointer (some ⟨b.b,b.off+(o+j*i.size),none⟩)) ?_ (.ptr hb);have hlt':(j:Int)<(len:Int):=by omega
    simp[execOp,hq,hj,Instr.indexAt,asIntOf,jak hu,hlt',hlt,jas (show jco P e=some i.size from by simp[jco,hi]),jei,V4]
  ·cases he
 ·cases he
theorem jmJ (r:Rels n0 B0 m h w){t e:TypeId}{k len:Nat}(hu:P.underlying t=some (.array len e))(hk:jco P e=some k)(hx:VR m (x'.ev s) (ρ x))(hy:VR m (y'.ev s) (ρ y)){v:AV}{h':Heap}{top}(he:jah top fl s h (.indexArr k len x' y')=some (v,h')):
  Sim P n0 B0 fl m h w ρ ⟨d,.indexAddr t x y,ty,pos,af,gd⟩ v h':=by
 simp only[jah] at he;split at he
 ·rename_i id off j hp hj
  rw[hp] at hx;obtain⟨kd,hj⟩:=jd4 hj hy;obtain⟨b,hb,hp⟩:=hx.ptr_inv;split at he
  ·rename_i hlt
   injection he with he;injection he with he1 he2;subst he1;subst he2
   refine jaw r (v':= .pointer (some ⟨b.b,b.off+(off+j*k),none⟩)) ?_ (.ptr hb);have hlt':(j:Int)<(len:Int):=by omega
   simp[execOp,hp,hj,Instr.indexAt,asIntOf,jak hu,Instr.sureAddr,hlt',hlt,jas hk,jei,V4]
  ·cases he
 ·cases he
theorem jtD (r:Rels n0 B0 m h w){t e:TypeId}{k len:Nat}(hu:P.underlying t=some (.array len e))(hk:jco P e=some k){n:Option Nat}(ht:aggT P e=some n)(hx:VR m (x'.ev s) (ρ x))(hy:VR m (y'.ev s) (ρ y)){v:AV}{h':Heap}{top}(he:jah top fl s h (.index k len n x' y')=some (v,h')):
  Sim P n0 B0 fl m h w ρ ⟨d,.index t x y,ty,pos,af,gd⟩ v h':=by
 simp only[jah] at he;split at he
 ·rename_i cs j hp hj
  rw[hp] at hx;obtain⟨kd,hj⟩:=jd4 hj hy;obtain⟨vs,hp,hvs⟩:=VRs.of_agg hx;split at he
  ·rename_i hlt
   split at he
   ·rename_i v0 hv
    injection he with he;injection he with he1 he2;subst he1;subst he2
    have hlt':(j:Int)<(len:Int):=by omega
    cases n with
    |none=>
     simp only[jg3] at hv;obtain⟨u,h1,h2⟩:=hvs.get hv;refine jaw r (v':=u) ?_ h2;simp only[N3] at h1;simp[execOp,hp,hj,Instr.index,asIntOf,jak hu,hlt',hlt,jas hk,part,jh4 ht,h1]
    |some n=>
     have hnk:=jvu ht;rw[hk] at hnk;injection hnk with hnk
     subst hnk;simp only[jg3] at hv;split at hv
     ·rename_i hn
      injection hv with hv;subst hv
      refine jaw r (v':= .agg (vs.extract (j*k) (j*k+k))) ?_ (VRs.agg ?_)
      ·simp[execOp,hp,hj,Instr.index,asIntOf,jak hu,hlt',hlt,jas hk,part,(jfT ht).1,(jfT ht).2]
      ·have:=(hvs.drop (j*k)).take k
       rw[N4,N5];simpa using this
     ·cases hv
   ·cases he
  ·cases he
 ·cases he
theorem jmI (r:Rels n0 B0 m h w){t:TypeId}(hu:P.underlying t=some .string)(hx:VR m (x'.ev s) (ρ x))(hy:VR m (y'.ev s) (ρ y)){v:AV}{h':Heap}{top}(he:jah top fl s h (.indexStr x' y')=some (v,h')):
  Sim P n0 B0 fl m h w ρ ⟨d,.index t x y,ty,pos,af,gd⟩ v h':=by
 simp only[jah] at he;split at he
 ·rename_i str j hp hj
  rw[hp] at hx;obtain⟨kd,hj⟩:=jd4 hj hy;have hp:=hx.lit;split at he
  ·rename_i b hb
   injection he with he;injection he with he1 he2;subst he1;subst he2
   refine jaw r (v':= .int .u8 b.toNat) ?_ (.val rfl);simp[execOp,hp,hj,Instr.index,asIntOf,jak hu,hb]
  ·cases he
 ·cases he
theorem joi (r:Rels n0 B0 m h w){i:Nat}(hx:VR m (x'.ev s) (ρ x)){v:AV}{h':Heap}{top}(he:jah top fl s h (.extract i x')=some (v,h')):
  Sim P n0 B0 fl m h w ρ ⟨d,.extract x i,ty,pos,af,gd⟩ v h':=by
 simp only[jah] at he;split at he
 ·rename_i vs hp
  rw[hp] at hx;split at he
  ·rename_i v0 hv
   injection he with he;injection he with he1 he2;subst he1;subst he2
   generalize hq:ρ x=u at hx
   cases hx with
   |tuple hl hh=>
    rename_i us;obtain⟨u,h1,h2⟩:=VRs.get (m:=m) (vs:=us.toList) ⟨by simpa using hl,by simpa using hh⟩ hv;simp only[N3] at h1;refine jaw r (v':=u) ?_ h2;simp[execOp,hq,Instr.extract,h1]
  ·cases he
 ·cases he
theorem sim_conv (r:Rels n0 B0 m h w){t u:TypeId}{k k':IntKind}(ht:P.underlying t=some (.int k'))(hu:P.underlying u=some (.int k))(hx:VR m (x'.ev s) (ρ x)){v:AV}{h':Heap}{top}(he:jah top fl s h (.conv k x')=some (v,h')):
  Sim P n0 B0 fl m h w ρ ⟨d,.convert t u x,ty,pos,af,gd⟩ v h':=by
 simp only[jah] at he;split at he
 ·rename_i k0 n hp
  rw[hp] at hx;injection he with he;injection he with he1 he2;subst he1;subst he2
  refine jaw r (v':= .int k (k.wrap n)) ?_ (.val rfl);simp[execOp,hx.int,convert,jak ht,jak hu,Conv.intToInt]
 ·cases he
theorem sim_un (r:Rels n0 B0 m h w){op:UnOp}{t:TypeId}(hx:VR m (x'.ev s) (ρ x)){v:AV}{h':Heap}{top}(he:jah top fl s h (.un op x')=some (v,h')):
  Sim P n0 B0 fl m h w ρ ⟨d,.unOp op t x,ty,pos,af,gd⟩ v h':=by
 simp only[jah] at he;split at he
 ·rename_i a hp
  rw[hp] at hx;split at he
  ·rename_i v0 hv
   injection he with he;injection he with he1 he2;subst he1;subst he2
   unfold unV at hv;split at hv
   ·rename_i k n
    split at hv
    ·injection hv with hv;subst hv
     refine jaw r (v':= .int k (k.wrap (0 - n))) ?_ (.val rfl);simp[execOp,hx.lit,Op.unary,Op.intArith]
    ·injection hv with hv;subst hv
     refine jaw r (v':= .int k (k.wrap _)) ?_ (.val rfl);simp[execOp,hx.lit,Op.unary,Op.intBits]
    ·cases hv
   ·rename_i b
    split at hv
    ·injection hv with hv;subst hv
     refine jaw r (v':= .bool !b) ?_ (.val rfl);simp[execOp,hx.lit,Op.unary]
    ·cases hv
   ·cases hv
  ·cases he
 ·cases he
end
end
section
open Go
section
variable {n0 B0:Nat}{P:Program}{m:Map}{h:Heap}{w:World}{fl:Nat→Bool}
variable {ρ:Operand→Value}{s:jal}{x y z:Operand}{x' y' z':Opd}{d:Option Tmp}{ty:TypeId}{pos:String}{af:Array Edge}{gd:Option (Nat×Bool)}
theorem jlR (a b:ByteArray):(a.toList==b.toList)=decide (a=b):=by
 rw[ByteArray.toList_eq,ByteArray.toList_eq];obtain⟨⟨x⟩⟩:=a;obtain⟨⟨y⟩⟩:=b;show (x==y)=_;by_cases hab:x=y<;>simp_all
theorem run_bin {op:BinOp}{t:TypeId}{a b v:Value}(hv:binV op a b=some v)(x y:Operand):(do eqGuard op t x y a b;binOp op t a b:Sem Value).run P w= .ok v w∧jhv v=true:=by
  unfold binV at hv;split at hv
  · rename_i k a k' b
    split at hv
    · split at hv
      · rename_i hb
        injection hv with hv;subst hv
        refine⟨?_,rfl⟩;simp[eqGuard,binOp,Op.shift];intro hb';omega
      · cases hv
    · split at hv
      · rename_i hb
        injection hv with hv;subst hv
        refine⟨?_,rfl⟩;simp[eqGuard,binOp,Op.shift];intro hb';omega
      · cases hv
    · rename_i h1 h2
      split at hv
      · rename_i hk;subst hk
        split at hv<;>first
          |(injection hv with hv;subst hv;refine⟨?_,rfl⟩;simp[eqGuard,binOp,Op.intArith,Op.intBits,Op.intCmp];done)
          |(injection hv with hv;subst hv;refine⟨?_,rfl⟩;simp[eqGuard,binOp,Op.intArith,Op.intBits,Op.intCmp];rfl)
          | (split at hv; · cases hv
             · rename_i hb;injection hv with hv;subst hv;refine⟨?_,rfl⟩;simp[eqGuard,binOp,Op.intDiv,hb])
          |cases hv
      · cases hv
  · split at hv
    · injection hv with hv;subst hv
      refine⟨?_,rfl⟩;simp[eqGuard,binOp,Op.stringOp,jlR]
    · injection hv with hv;subst hv
      refine⟨?_,rfl⟩;simp[eqGuard,binOp,Op.stringOp,jlR]
    · cases hv
  · split at hv
    · rename_i hk;subst hk
      split at hv
      · injection hv with hv;subst hv
        refine⟨?_,rfl⟩;simp[eqGuard,binOp,Op.floatCmp]
      · injection hv with hv;subst hv
        refine⟨?_,rfl⟩;simp[eqGuard,binOp,Op.floatCmp]
      · cases hv
    · cases hv
  · cases hv
theorem jlq (r:Rels n0 B0 m h w){op:BinOp}{t u:TypeId}(hx:VR m (x'.ev s) (ρ x))(hy:VR m (y'.ev s) (ρ y)){v:AV}{h':Heap}{top}(he:jah top fl s h (.bin op x' y')=some (v,h')):
  Sim P n0 B0 fl m h w ρ ⟨d,.binOp op t x y u,ty,pos,af,gd⟩ v h':=by
 simp only[jah] at he;split at he
 ·rename_i a b hp hq
  rw[hp] at hx;rw[hq] at hy
  split at he
  ·rename_i v0 hv
   injection he with he;injection he with he1 he2;subst he1;subst he2
   obtain⟨h1,h2⟩:=run_bin (P:=P) (w:=w) (t:=t) hv x y;refine jaw r (v':=v0) ?_ (.val h2);simp only[execOp,hx.lit,hy.lit,Sem.run_bind] at h1 ⊢;rw[h1];rfl
  ·cases he
 ·cases he
theorem jfq {k:Nat}(hk:jeV y=k)(h3:k≠3):(k=0∧y= .const (.slice none 0 0))∨(k=1∧y= .const (.pointer none))∨(k=2∧y= .const .nilFunc):=by
 unfold jeV at hk;split at hk
 ·exact .inl ⟨hk.symm,rfl⟩
 ·exact .inr (.inl ⟨hk.symm,rfl⟩)
 ·exact .inr (.inr ⟨hk.symm,rfl⟩)
 ·exact absurd hk.symm h3
theorem jnn (t:TypeId)(a b:Value):Op.equal t a b=Op.equalIn 10000 t a b:=rfl
theorem jlK {t e:TypeId}(hu:P.underlying t=some (.slice e))(d:Nat):(Op.equalIn (d+1) t (.slice none 0 0) (.slice none 0 0)).run P w= .ok true w:=by simp[Op.equalIn,jak hu]
theorem jkx {t e:TypeId}(hu:P.underlying t=some (.slice e))(d:Nat)(a:Addr)(n c:Nat):(Op.equalIn (d+1) t (.slice (some a) n c) (.slice none 0 0)).run P w= .ok false w:=by simp[Op.equalIn,jak hu]
theorem jo2 {t e:TypeId}(hu:P.underlying t=some (.pointer e))(d:Nat):(Op.equalIn (d+1) t (.pointer none) (.pointer none)).run P w= .ok true w:=by simp[Op.equalIn,jak hu]
theorem eqIn_ptr {t e:TypeId}(hu:P.underlying t=some (.pointer e))(d:Nat)(a:Addr):(Op.equalIn (d+1) t (.pointer (some a)) (.pointer none)).run P w= .ok false w:=by simp[Op.equalIn,jak hu]
theorem jno {t:TypeId}{a b c}(hu:P.underlying t=some (.func a b c))(d:Nat):(Op.equalIn (d+1) t .nilFunc .nilFunc).run P w= .ok true w:=by simp[Op.equalIn,jak hu]
theorem jnp {t:TypeId}{a b c}(hu:P.underlying t=some (.func a b c))(d:Nat)(f:Fn)(x y:Array Value):(Op.equalIn (d+1) t (.func f x y) .nilFunc).run P w= .ok false w:=by simp[Op.equalIn,jak hu]
theorem jeQ {neg:Bool}{t:TypeId}{a yv:Value}{b:Bool}(hg: ∀op,(eqGuard op t x y a yv).run P w= .ok () w)(h3:binOp .eql t a yv=(do pure (.bool (←Op.equal t a yv))))(h4:binOp .neq t a yv=(do pure (.bool (!(←Op.equal t a yv)))))
  (hrun:(Op.equalIn 10000 t a yv).run P w= .ok b w):((do eqGuard (if neg then .neq else .eql) t x y a yv;binOp (if neg then .neq else .eql) t a yv:Sem Value)).run P w= .ok (.bool (if neg then !b else b)) w:=by
 cases neg
 ·simp only[Sem.run_bind,hg,Result.andThen_ok,N6,if_false,h3,jnn,hrun,Sem.run_pure]
 ·simp only[Sem.run_bind,hg,Result.andThen_ok,if_true,h4,jnn,hrun,Sem.run_pure]
theorem jey (r:Rels n0 B0 m h w){neg:Bool}{t u:TypeId}{kd:Nat}(hk:jeV y=kd)(ht:(kd=0∧ ∃e,P.underlying t=some (.slice e))∨(kd=1∧ ∃e,P.underlying t=some (.pointer e))∨(kd=2∧ ∃a b c,P.underlying t=some (.func a b c)))
  (hconst: ∀v,y= .const v→ρ y=v) (hx:VR m (x'.ev s) (ρ x)) {v:AV} {h':Heap} {top} (he:jah top fl s h (.eqNil neg kd x')=some (v,h')):
  Sim P n0 B0 fl m h w ρ ⟨d,.binOp (if neg then .neq else .eql) t x y u,ty,pos,af,gd⟩ v h':=by
 simp only[jah] at he;split at he
 ·rename_i b hb
  injection he with he;injection he with he1 he2;subst he1;subst he2
  have key: ∀a yv,ρ x=a→ρ y=yv→((do eqGuard (if neg then .neq else .eql) t x y a yv;binOp (if neg then .neq else .eql) t a yv:Sem Value)).run P w= .ok (.bool (if neg then !b else b)) w→
    Sim P n0 B0 fl m h w ρ ⟨d,.binOp (if neg then .neq else .eql) t x y u,ty,pos,af,gd⟩ (.val (.bool (if neg then !b else b))) h:=by
   intro a yv ha hy hrun;refine jaw r (v':= .bool (if neg then !b else b)) ?_ (.val rfl);simp only[execOp,ha,hy,Sem.run_bind] at hrun ⊢;rw[hrun];rfl
  rcases ht with⟨rfl,e,hu⟩|⟨rfl,e,hu⟩|⟨rfl,e1,e2,e3,hu⟩
  ·obtain rfl:y= .const (.slice none 0 0):=by
    rcases jfq hk (by decide) with⟨_,h1⟩|⟨h1,_⟩|⟨h1,_⟩<;>first|exact h1|omega
   have hy:=hconst _ rfl;generalize hq:x'.ev s=xv at hx hb;generalize hv:ρ x=xv' at hx
   cases hx with
   |val hp=>
    have hb2:xv'= .slice none 0 0∧b=true:=by
     unfold jc0 at hb;split at hb<;>simp_all
    obtain⟨rfl,rfl⟩:=hb2;exact key _ _ hv hy (jeQ (fun op=>by cases op<;>simp[eqGuard]) rfl rfl (jlK hu 9999))
   |slice=>
    have hb2:b=false:=by
     unfold jc0 at hb;split at hb<;>simp_all
    subst hb2;exact key _ _ hv hy (jeQ (fun op=>by cases op<;>simp[eqGuard]) rfl rfl (jkx hu 9999 _ _ _))
   |hole=>
    have hb2:b=false:=by
     unfold jc0 at hb;split at hb<;>simp_all
    subst hb2;exact key _ _ hv hy (jeQ (fun op=>by cases op<;>simp[eqGuard]) rfl rfl (jkx hu 9999 _ _ _))
   |_=>(simp[jc0] at hb)
  ·obtain rfl:y= .const (.pointer none):=by
    rcases jfq hk (by decide) with⟨h1,_⟩|⟨_,h1⟩|⟨h1,_⟩<;>first|exact h1|omega
   have hy:=hconst _ rfl;generalize hq:x'.ev s=xv at hx hb;generalize hv:ρ x=xv' at hx
   cases hx with
   |val hp=>
    have hb2:xv'= .pointer none∧b=true:=by
     unfold jc0 at hb;split at hb<;>simp_all
    obtain⟨rfl,rfl⟩:=hb2;exact key _ _ hv hy (jeQ (fun op=>by cases op<;>simp[eqGuard]) rfl rfl (jo2 hu 9999))
   |ptr=>
    have hb2:b=false:=by
     unfold jc0 at hb;split at hb<;>simp_all
    subst hb2;exact key _ _ hv hy (jeQ (fun op=>by cases op<;>simp[eqGuard]) rfl rfl (eqIn_ptr hu 9999 _))
   |_=>(simp[jc0] at hb)
  ·obtain rfl:y= .const .nilFunc:=by
    rcases jfq hk (by decide) with⟨h1,_⟩|⟨h1,_⟩|⟨_,h1⟩<;>first|exact h1|omega
   have hy:=hconst _ rfl;generalize hq:x'.ev s=xv at hx hb;generalize hv:ρ x=xv' at hx
   cases hx with
   |val hp=>
    have hb2:xv'= .nilFunc∧b=true:=by
     unfold jc0 at hb;split at hb<;>simp_all
    obtain⟨rfl,rfl⟩:=hb2;exact key _ _ hv hy (jeQ (fun op=>by cases op<;>simp[eqGuard]) rfl rfl (jno hu 9999))
   |func=>
    have hb2:b=false:=by
     unfold jc0 at hb;split at hb<;>simp_all
    subst hb2;exact key _ _ hv hy (jeQ (fun op=>by cases op<;>simp[eqGuard]) rfl rfl (jnp hu 9999 _ _ _))
   |bfunc=>
    have hb2:b=false:=by
     unfold jc0 at hb;split at hb<;>simp_all
    subst hb2;exact key _ _ hv hy (jeQ (fun op=>by cases op<;>simp[eqGuard]) rfl rfl (jnp hu 9999 _ _ _))
   |_=>(simp[jc0] at hb)
 ·cases he
theorem jkf (r:Rels n0 B0 m h w){neg:Bool}{t u:TypeId}(hu:P.underlying t=some .bool)(hx:VR m (x'.ev s) (ρ x))(hy:VR m (y'.ev s) (ρ y)){v:AV}{h':Heap}{top}(he:jah top fl s h (.eqBool neg x' y')=some (v,h')):
  Sim P n0 B0 fl m h w ρ ⟨d,.binOp (if neg then .neq else .eql) t x y u,ty,pos,af,gd⟩ v h':=by
 simp only[jah] at he;split at he
 ·rename_i a b hp hq
  rw[hp] at hx;rw[hq] at hy
  injection he with he;injection he with he1 he2;subst he1;subst he2
  refine jaw r (v':= .bool (if neg then !(a==b) else a==b)) ?_ (.val rfl);have hrun:=jeQ (P:=P) (w:=w) (x:=x) (y:=y) (neg:=neg) (t:=t) (a:= .bool a) (yv:= .bool b) (fun op=>by cases op<;>simp[eqGuard]) rfl rfl (run_equalIn_bool' w 9999 t a b hu);simp only[execOp,hx.bool,hy.bool,Sem.run_bind] at hrun ⊢;rw[hrun];rfl
 ·cases he
theorem jkg {t:TypeId}{tag:Nat}(ht:tagT P t=some tag){a b:Value}{c:Bool}(hs:jmP tag a b=some c)(d:Nat):(Op.equalIn (d+1) t a b).run P w= .ok c w:=by
 unfold tagT at ht;unfold jmP at hs;split at hs
 ·split at hs
  ·rename_i hk;subst hk
   injection hs with hs;subst hs
   split at ht<;>first|(injection ht with ht;omega)|cases ht|skip
   ·rename_i hu
    rw[run_equalIn_int w d t _ _ _ _ hu];rfl
   all_goals (simp at ht)
  ·cases hs
 ·injection hs with hs;subst hs
  split at ht<;>first|(simp at ht;done)|skip
  rename_i hu;exact run_equalIn_bool' w d t _ _ hu
 ·injection hs with hs;subst hs
  split at ht<;>first|(simp at ht;done)|skip
  rename_i hu;rw[run_equalIn_string w d t _ _ hu,jlR]
 ·cases hs
theorem jfj {d:Nat}(xs ys:Array Value): ∀(fs:List Field) (j:Nat) (ts:List Nat) (cs ds:List AV) (c:Bool),jfv P j fs=some ts→jbx ts cs ds=some c→VRs m cs (xs.toList.drop j)→VRs m ds (ys.toList.drop j)→
  (Op.eqFields (d+1) xs ys fs).run P w= .ok c w
 |[],j,ts,cs,ds,c,h1,h2,h3,h4=>by
  simp only[jfv,U4] at h1;subst h1
  unfold jbx at h2;split at h2
  ·injection h2 with h2;subst h2;simp[Op.eqFields]
  ·rename_i heq;cases heq
  ·cases h2
 |f::fs,j,ts,cs,ds,c,h1,h2,h3,h4=>by
  simp only[jfv] at h1;split at h1
  ·rename_i hc
   split at h1
   ·rename_i tag htag
    obtain⟨ts',h5,rfl⟩:=U5.1 h1;unfold jbx at h2;split at h2
    ·rename_i heq;cases heq
    ·rename_i t0 ts0 a x b y heq
     injection heq with e1 e2;subst e1;subst e2
     split at h2
     ·rename_i c0 hc0
      split at h2
      ·rename_i c1 hc1
       injection h2 with h2;subst h2
       obtain⟨hn,ho⟩:=hc;have hxa:xs[j]?=some a:=by
        obtain⟨u,hu,hr⟩:=h3.get (i:=0) (x:= .val a) rfl;rw[hr.lit] at hu;simpa[O9] using hu
       have hyb:ys[j]?=some b:=by
        obtain⟨u,hu,hr⟩:=h4.get (i:=0) (x:= .val b) rfl;rw[hr.lit] at hu;simpa[O9] using hu
       have hag:(isAgg f.type).run P w= .ok false w:=by
        unfold tagT at htag;split at htag<;>first|cases htag|skip
        all_goals (rename_i hu;simp[isAgg,jak hu])
       have ih:=jfj (d:=d) xs ys fs (j+1) ts' x y c1 h5 hc1 (by simpa[N7,N8] using h3.drop 1) (by simpa[N7,N8] using h4.drop 1);simp only[Op.eqFields,hn,ne_eq,not_false_eq_true,if_true,Sem.run_bind,part,hag,Result.andThen_ok,N6,if_false,ho,hxa,hyb,Sem.run_pure,jkg htag hc0]
       cases c0<;>simp[ih]
      ·cases h2
     ·cases h2
    ·cases h2
   ·cases h1
  ·cases h1
theorem je7: ∀(ks ts:List Nat) (cs ds:List AV) (c:Bool),jbx (ks++ts) cs ds=some c→ ∃c1 c2,jbx ks (cs.take ks.length) (ds.take ks.length)=some c1∧jbx ts (cs.drop ks.length) (ds.drop ks.length)=some c2∧c=(c1&&c2)
 |[],ts,cs,ds,c,h=>⟨true,c,by simp[jbx],by simpa using h,by simp⟩
 |k::ks,ts,cs,ds,c,h=>by
  rw[N9] at h;unfold jbx at h;split at h
  ·rename_i heq;cases heq
  ·rename_i t0 ts0 a x b y heq
   injection heq with e1 e2;subst e1;subst e2
   split at h
   ·rename_i c0 hc0
    split at h
    ·rename_i c1 hc1
     injection h with h;subst h
     obtain⟨d1,d2,q1,q2,q3⟩:=je7 ks ts x y c1 hc1;refine⟨c0&&d1,d2,?_,q2,by rw[q3,Bool.and_assoc]⟩;simp[jbx,hc0,q1]
    ·cases h
   ·cases h
  ·cases h
theorem jel {d:Nat}(xs ys:Array Value): ∀(fs:List Field) (j:Nat) (ts:List Nat) (cs ds:List AV) (c:Bool),jfR P j fs=some ts→jbx ts cs ds=some c→VRs m cs (xs.toList.drop j)→VRs m ds (ys.toList.drop j)→
  (Op.eqFields (d+2) xs ys fs).run P w= .ok c w
 |[],j,ts,cs,ds,c,h1,h2,h3,h4=>by
  simp only[jfR,U4] at h1;subst h1
  unfold jbx at h2;split at h2
  ·injection h2 with h2;subst h2;simp[Op.eqFields]
  ·rename_i heq;cases heq
  ·cases h2
 |f::fs,j,ts,cs,ds,c,h1,h2,h3,h4=>by
  simp only[jfR] at h1;split at h1
  ·rename_i hc
   split at h1
   ·rename_i tag htag
    obtain⟨ts',h5,rfl⟩:=U5.1 h1;unfold jbx at h2;split at h2
    ·rename_i heq;cases heq
    ·rename_i t0 ts0 a x b y heq
     injection heq with e1 e2;subst e1;subst e2
     split at h2
     ·rename_i c0 hc0
      split at h2
      ·rename_i c1 hc1
       injection h2 with h2;subst h2
       obtain⟨hn,ho⟩:=hc;have hxa:xs[j]?=some a:=by
        obtain⟨u,hu,hr⟩:=h3.get (i:=0) (x:= .val a) rfl;rw[hr.lit] at hu;simpa[O9] using hu
       have hyb:ys[j]?=some b:=by
        obtain⟨u,hu,hr⟩:=h4.get (i:=0) (x:= .val b) rfl;rw[hr.lit] at hu;simpa[O9] using hu
       have hag:(isAgg f.type).run P w= .ok false w:=by
        unfold tagT at htag;split at htag<;>first|cases htag|skip
        all_goals (rename_i hu;simp[isAgg,jak hu])
       have ih:=jel (d:=d) xs ys fs (j+1) ts' x y c1 h5 hc1 (by simpa[N7,N8] using h3.drop 1) (by simpa[N7,N8] using h4.drop 1);simp only[Op.eqFields,hn,ne_eq,not_false_eq_true,if_true,Sem.run_bind,part,hag,Result.andThen_ok,N6,if_false,ho,hxa,hyb,Sem.run_pure,jkg htag hc0]
       cases c0<;>simp[ih]
      ·cases h2
     ·cases h2
    ·cases h2
   ·split at h1
    ·rename_i ks hks
     split at h1
     ·rename_i hcl
      obtain⟨ts',h5,rfl⟩:=U5.1 h1;obtain⟨c0,c1,q1,q2,rfl⟩:=je7 ks ts' cs ds c h2;have ih:=jel (d:=d) xs ys fs (j+ks.length) ts' (cs.drop ks.length) (ds.drop ks.length) c1 h5 q2 (by simpa[N7,N8] using h3.drop ks.length) (by simpa[N7,N8] using h4.drop ks.length);obtain⟨hn,ho⟩:=hc;unfold juy at hks;split at hks
      ·rename_i gs hu
       split at hks
       ·rename_i hst
        obtain⟨ti,hti⟩:=info_of_underlying hu;have hfo:P.fieldsOf f.type=gs:=by simp[Program.fieldsOf,hu]
        have hag:(isAgg f.type).run P w= .ok true w:=by simp[isAgg,jak hu]
        have hsub := jfj (d := d) (w := w) (xs.extract j (j + ks.length)) (ys.extract j (j + ks.length)) gs.toList 0 ks (cs.take ks.length) (ds.take ks.length) c0 hks q1 (by
         have:=h3.take ks.length;simpa [Q0] using this) (by
         have:=h4.take ks.length;simpa[Q0] using this)
        have heq:(Op.equalIn (d+2) f.type (.agg (xs.extract j (j+ks.length))) (.agg (ys.extract j (j+ks.length)))).run P w= .ok c0 w:=by
         rw[run_equalIn_agg w (d+1) f.type _ _ (by rw[hfo];exact hu) hst,hfo];exact hsub
        simp only[Op.eqFields,hn,ne_eq,not_false_eq_true,if_true,Sem.run_bind,part,hag,Result.andThen_ok,ho,run_sizeOf w hti,hcl,Sem.run_pure,heq]
        cases c0<;>simp[ih]
       ·cases hks
      ·cases hks
     ·cases h1
    ·cases h1
  ·cases h1
theorem jmK (r:Rels n0 B0 m h w){neg:Bool}{t u:TypeId}{ks:List Nat}(hf:flatT P t=some ks)(hx:VR m (x'.ev s) (ρ x))(hy:VR m (y'.ev s) (ρ y)){v:AV}{h':Heap}{top}(he:jah top fl s h (.eqAgg neg ks x' y')=some (v,h')):
  Sim P n0 B0 fl m h w ρ ⟨d,.binOp (if neg then .neq else .eql) t x y u,ty,pos,af,gd⟩ v h':=by
 simp only[jah] at he;split at he
 ·rename_i a b hp hq
  rw[hp] at hx;rw[hq] at hy
  obtain⟨xs,hxs,hvx⟩:=VRs.of_agg hx;obtain⟨ys,hys,hvy⟩:=VRs.of_agg hy;split at he
  ·rename_i c hc
   injection he with he;injection he with he1 he2;subst he1;subst he2
   unfold flatT at hf;split at hf
   ·rename_i fs hu
    split at hf
    ·rename_i hcond
     have hfo:P.fieldsOf t=fs:=by simp[Program.fieldsOf,hu]
     have hrun:(Op.equalIn 10000 t (.agg xs) (.agg ys)).run P w= .ok c w:=by
      rw[run_equalIn_agg w 9999 t xs ys (by rw[hfo];exact hu) hcond.1,hfo];exact jel (d:=9997) xs ys fs.toList 0 ks a b c hf hc (by simpa using hvx) (by simpa using hvy)
     refine jaw r (v':= .bool (if neg then !c else c)) ?_ (.val rfl)
     cases neg
     ·simp only[execOp,hxs,hys,Sem.run_bind,run_eqGuard_agg w _ t x y xs ys hcond.2,Result.andThen_ok,N6,if_false,run_eql_struct,hrun,Sem.run_pure]
     ·simp only[execOp,hxs,hys,Sem.run_bind,run_eqGuard_agg w _ t x y xs ys hcond.2,Result.andThen_ok,if_true,run_neq_struct,hrun,Sem.run_pure]
    ·cases hf
   ·cases hf
  ·cases he
 ·cases he
end
end
section
open Go
section
variable {n0 B0:Nat}{P:Program}{m:Map}{h:Heap}{w:World}{fl:Nat→Bool}
variable {ρ:Operand→Value}{s:jal}{x y z:Operand}{x' y' z':Opd}{d:Option Tmp}{ty:TypeId}{pos:String}{af:Array Edge}{gd:Option (Nat×Bool)}
theorem jfK {α:Type}(A B D:List α)(i:Nat):(A++B++D)[i]?=if i<A.length then A[i]? else if i<A.length+B.length then B[i - A.length]? else D[i - A.length - B.length]?:=by
 rw[M8];split
 ·rename_i h;rw[V5 h]
 ·rename_i h
  rw[N0 (by omega)];split
  ·rw[V5 (by omega)]
  ·rw[N0 (by omega)]
theorem jnd (o:Nat): ∀(vs:List Value) (j:Nat) (cs:Array Value),o+j+vs.length≤cs.size→
  ((vs.zipIdx j).foldl (fun cs (p:Value×Nat)=>cs.setIfInBounds (o+p.2) p.1) cs).toList=cs.toList.take (o+j)++vs++cs.toList.drop (o+j+vs.length)
 |[],j,cs,_=>by simp
 |v::r,j,cs,hl=>by
  simp only[List.zipIdx_cons,List.foldl_cons];rw[jnd o r (j+1) _ (by simp at hl ⊢;omega),Array.toList_setIfInBounds];simp only[Q3] at hl ⊢;apply U7
  intro i;have e1:(Q4 (o+(j+1)) (cs.toList.set (o+j) v)).length=o+j+1:=by simp;omega
  have e2:(Q4 (o+j) cs.toList).length=o+j:=by simp;omega
  rw[jfK,jfK,e1,e2];by_cases h1:i<o+j
  ·rw[if_pos (by omega),if_pos h1,O8,O8,if_pos (by omega),if_pos h1,M1,if_neg (by omega)]
  ·by_cases h2:i=o+j
   ·subst h2
    rw[if_pos (by omega),if_neg (by omega),if_pos (by simp),O8,if_pos (by omega),M1,if_pos rfl,if_pos (by simp;omega)];simp
   ·obtain⟨k,rfl⟩: ∃k,i=o+j+1+k:=⟨i - (o+j+1),by omega⟩
    by_cases h3:k<r.length
    ·rw[if_neg (by omega),if_pos (by omega),if_neg (by omega),if_pos (by simp;omega),show o+j+1+k - (o+j)=k+1 by omega,Q5]
     congr 1;omega
    ·rw[if_neg (by omega),if_neg (by omega),if_neg (by omega),if_neg (by simp;omega),O9,O9,M1,if_neg (by omega)]
     congr 1
     simp only[Q3];omega
theorem jgH (place:Nat→Option (Nat×Nat)): ∀(ps:List (Nat×Operand)) (qs:List (Nat×Nat×Opd)) (cs:List AV) (arr:Array Value) (out:List AV),jdz place ps=some qs→(∀p∈ps,∀ z,cOpd p.2=some z→VR m (z.ev s) (ρ p.2))→
  VRs m cs arr.toList→jcX cs (qs.map fun p=>(p.1,p.2.1,p.2.2.ev s))=some out→ ∃arr',Instr.fill place arr (ps.map fun p=>(p.1,ρ p.2))=some arr'∧VRs m out arr'.toList
 |[],qs,cs,arr,out,h1,_,h3,h4=>by
  simp only[jdz,List.mapM_nil,Q6,U4] at h1;subst h1;simp only[List.map_nil,jcX,U4] at h4;subst h4;exact⟨arr,rfl,h3⟩
 |(i,x)::ps,qs,cs,arr,out,h1,h2,h3,h4=>by
  simp only[jdz,Q7] at h1;split at h1
  ·rename_i o n y hp hy
   simp only[Q6,Q8,Q9,E0,U4] at h1;obtain⟨qs',hq,rfl⟩:=h1;have hv:=h2 (i,x) (by simp) y hy;simp only[List.map_cons,jcX] at h4;split at h4
   ·rename_i hc
    have hcs:=hv.cells;have e1:=hcs.1;have e2:=h3.1;simp only[E4] at e1 e2;have hsz:(ρ x).cells.size=n:=by rw[←hc.1,e1]
    have hf:=jnd o (ρ x).cells.toList 0 arr (by simp;omega);simp only[M5,E4] at hf;have ih:=jgH place ps qs' _ ((((ρ x).cells.toList.zipIdx).foldl (fun cs (p:Value×Nat)=>cs.setIfInBounds (o+p.2) p.1) arr)) out hq (fun p hp=>h2 p (by simp[hp]))
     (by rw[hf,hsz];exact ((h3.take o).append hcs).append (h3.drop (o+n))) h4
    obtain⟨arr',h5,h6⟩:=ih;refine⟨arr',?_,h6⟩;simp only[List.map_cons,Instr.fill,hp];rw[if_neg (by rw[hsz];simp;omega)];rw[←h5];congr 1
    rw[←Array.foldl_toList,Array.toList_zipIdx]
   ·cases h4
  ·simp at h1
theorem jly {pl pl':Nat→Option (Nat×Nat)}{ps:List (Nat×Operand)}{qs:List (Nat×Nat×Opd)}(h1:jdz pl ps=some qs)(hpl: ∀i a,pl i=some a→pl' i=some a):jdz pl' ps=some qs:=by
 induction ps generalizing qs with
 |nil=>exact h1
 |cons p ps ih=>
  obtain⟨i,x⟩:=p;simp only[jdz,Q7] at h1 ⊢;split at h1
  ·rename_i o n y hp hy
   simp only[Q6,Q8,Q9,E0,U4] at h1;obtain⟨qs',hq,rfl⟩:=h1;have:=ih hq;simp only[jdz] at this;simp[hpl i _ hp,hy,this]
  ·simp at h1
theorem jox (fs:Array Field)(hn: ∀f∈fs,∃ n,jco P f.type=some n): ∃ps:Array (Nat×Nat),(fs.mapM fun (f:Field)=>do pure (f.offset,← sizeOf f.type):Sem _).run P w= .ok ps w∧ ∀i:Nat,ps[i]?=(fs[i]?).bind fun (f:Field)=>(jco P f.type).map fun n=>(f.offset,n):=by
 rw[Array.mapM_eq_mapM_toList];have key: ∀l:List Field,(∀f∈l,∃ n,jco P f.type=some n)→ ∃ps:List (Nat×Nat),(l.mapM fun (f:Field)=>do pure (f.offset,← sizeOf f.type):Sem _).run P w= .ok ps w∧ ∀i:Nat,ps[i]?=(l[i]?).bind fun (f:Field)=>(jco P f.type).map fun n=>(f.offset,n):=by
  intro l;induction l with
  |nil=>intro _;exact⟨[],rfl,fun i=>by simp⟩
  |cons f l ih=>
   intro hl;obtain⟨n,hn⟩:=hl f (by simp);obtain⟨ps,h1,h2⟩:=ih (fun g hg=>hl g (by simp[hg]));refine⟨(f.offset,n)::ps,?_,fun i=>?_⟩
   ·simp at h1
    simp[Q7,jas hn,h1]
   ·cases i with
    |zero=>simp[hn]
    |succ i=>simpa using h2 i
 obtain⟨ps,h1,h2⟩:=key fs.toList (fun f hf=>hn f (by simpa using hf));exact⟨ps.toArray,by simp at h1;simp[h1],fun i=>by simpa using h2 i⟩
theorem jiA (r:Rels n0 B0 m h w){t:TypeId}{fs:Array Field}(hu:P.underlying t=some (.struct fs))(hall: ∀f∈fs,∃ n,jco P f.type=some n){zs:List AV}(hz:jig P t=some zs){ps:Array (Nat×Operand)}{qs:List (Nat×Nat×Opd)}
  (hq:jdz (fun i=>(fs[i]?).bind fun f=>(jco P f.type).map fun n=>(f.offset,n)) ps.toList=some qs) (hs: ∀p∈ps.toList,∀ z,cOpd p.2=some z→VR m (z.ev s) (ρ p.2)) {v:AV} {h':Heap} {top} (he:jah top fl s h (.build zs qs)=some (v,h')):
  Sim P n0 B0 fl m h w ρ ⟨d,.build t ps,ty,pos,af,gd⟩ v h':=by
 simp only[jah] at he;split at he
 ·rename_i cs hcs
  injection he with he;injection he with he1 he2;subst he1;subst he2
  obtain⟨zv,h1,h2,_⟩:=jbU (P:=P) (w:=w) hz;obtain⟨pl,h3,h4⟩:=jox (P:=P) (w:=w) fs hall;obtain⟨arr',h5,h6⟩:=jgH (ρ:=ρ) (s:=s) (fun i=>pl[i]?) ps.toList qs zs zv.cells cs (jly hq (fun i a ha=>by rw[h4];exact ha)) hs (h2 m) hcs;refine jaw r (v':= .agg arr') ?_ (VRs.agg h6);simp at h3;simp[execOp,Instr.build,h1,jak hu,h3,h5]
 ·cases he
theorem jmL (r:Rels n0 B0 m h w){t e:TypeId}{len n:Nat}(hu:P.underlying t=some (.array len e))(hn:jco P e=some n){zs:List AV}(hz:jig P t=some zs){ps:Array (Nat×Operand)}{qs:List (Nat×Nat×Opd)}
  (hq:jdz (fun i=>some (i*n,n)) ps.toList=some qs) (hs: ∀p∈ps.toList,∀ z,cOpd p.2=some z→VR m (z.ev s) (ρ p.2)) {v:AV} {h':Heap} {top} (he:jah top fl s h (.build zs qs)=some (v,h')):
  Sim P n0 B0 fl m h w ρ ⟨d,.build t ps,ty,pos,af,gd⟩ v h':=by
 simp only[jah] at he;split at he
 ·rename_i cs hcs
  injection he with he;injection he with he1 he2;subst he1;subst he2
  obtain⟨zv,h1,h2,_⟩:=jbU (P:=P) (w:=w) hz;obtain⟨arr',h5,h6⟩:=jgH (ρ:=ρ) (s:=s) (fun i=>some (i*n,n)) ps.toList qs zs zv.cells cs hq hs (h2 m) hcs;refine jaw r (v':= .agg arr') ?_ (VRs.agg h6);simp[execOp,Instr.build,h1,jak hu,jas hn,h5]
 ·cases he
theorem getElem!_mod (z:Array Value)(zs:List AV)(hz:VRs m zs z.toList)(k:Nat)(hk:0<k)(hl:zs.length=k)(n:Nat):
  VRs m ((O5 n).map fun i=>zs.getD (i % k) .no) ((E5 n).map (fun i=>z[i % z.size]!)).toList:=by
 have e:z.size=k:=by have:=hz.1;simp at this;omega
 refine⟨by simp,fun i a b ha hb=>?_⟩;simp only[U8,U5,E6,Array.toList_range] at ha hb;obtain⟨j,hj,rfl⟩:=ha;obtain⟨j',hj',rfl⟩:=hb;rw[hj] at hj';injection hj' with hj';subst hj'
 have hlt:j % k<k:=Nat.mod_lt _ hk;rw[e];obtain⟨y,hy,hr⟩:=hz.get (i:=j % k) (x:=zs.getD (j % k) .no) (by simp[E7,U1 (show j % k<zs.length by omega)]);have:z[j % k]! =y:=by
  simp only[N3] at hy;rw[getElem!_def,hy]
 rw[this];exact hr
theorem sim_lits (r:Rels n0 B0 m h w){t:TypeId}{k bytes len:Nat}{zs:List AV}(ht:jfU P t=some (k,bytes,zs))(hlen:len*k≤2 ^ 24){ps:Array (Nat×Operand)}{qs:List (Nat×Nat×Opd)}
  (hq:jdz (fun i=>some (i*k,k)) ps.toList=some qs) (hs: ∀p∈ps.toList,∀ z,cOpd p.2=some z→VR m (z.ev s) (ρ p.2)) {v:AV} {h':Heap} {top} (he:jah top fl s h (.lits k len ((O5 (len*k)).map fun i=>zs.getD (i % k) .no) qs)=some (v,h')):
  Sim P n0 B0 fl m h w ρ ⟨d,.buildSlice t len ps,ty,pos,af,gd⟩ v h':=by
 obtain⟨e,i,hu,hi,hk,_,hk0,_,hz,hzl⟩:=jdB ht;simp only[jah] at he;split at he
 ·rename_i cs hcs
  split at he
  case isFalse=>cases he
  rename_i hall;injection he with he;injection he with he1 he2;subst he1;subst he2
  obtain⟨zv,h1,h2,_⟩:=jbU (P:=P) (w:=w) hz;have hsz:jco P e=some k:=by simp[jco,hi,hk]
  have hz0:VRs m ((O5 (len*k)).map fun i=>zs.getD (i % k) .no) ((E5 (len*k)).map (fun i=>zv.cells[i % zv.cells.size]!)).toList:=getElem!_mod zv.cells zs (h2 m) k hk0 hzl _;obtain⟨arr',h5,h6⟩:=jgH (ρ:=ρ) (s:=s) (fun i=>some (i*k,k)) ps.toList qs _ _ cs hq hs hz0 hcs;have hcl:cs.length=len*k:=by
   have: ∀(qs:List (Nat×Nat×AV)) (c out:List AV),jcX c qs=some out→out.length=c.length:=by
    intro qs;induction qs with
    |nil=>intro c out h;simp[jcX] at h;rw[h]
    |cons q qs ih=>
     intro c out h;obtain⟨o,n,v⟩:=q;simp only[jcX] at h;split at h
     ·rename_i hc
      rw[ih _ _ h];simp;omega
     ·cases h
   rw[this _ _ _ hcs];simp
  have e6:=h6.1;simp only[E4] at e6;refine ⟨.slice (some ⟨w.heap.size, 0, none⟩) len len, w.alloc (.cells arr' e), mset m h.length ⟨w.heap.size, 0, len * k, false⟩, .inl ?_, jdx r cs arr' e _ (fun x hx => N2.1 hall x hx) (by omega) (by omega) (fun j a ha => by
   obtain⟨y,hy,hr⟩:=h6.get ha;exact⟨y,by simpa using hy,hr⟩),VR.slice (b:=⟨w.heap.size,0,len*k,false⟩) (o:=0) ⟨by simp[mset],rfl⟩ (fun _=>rfl) (V2 _) (V2 _) (fun _=>rfl) (by simp)⟩
  by_cases h0:len*k=0
  ·have e0:(E8 (fun i=>zv.cells[i % zv.cells.size]!) (E5 (len*k)))= #[]:=by simp[h0]
   rw[e0] at h5;have e1: ∀f:Nat→Value,E8 f (E5 0)= #[]:=fun f=>by simp
   simp[execOp,Instr.buildSlice,jak hu,jas hsz,h0,e1,h5,newRow]
  ·simp[execOp,Instr.buildSlice,jak hu,jas hsz,h0,h1,h5,newRow,show ¬(16777216<len*k) by omega]
 ·cases he
end
end
section
open Go
section
variable {n0 B0:Nat}{P:Program}{m:Map}{h:Heap}{w:World}{fl:Nat→Bool}
variable {ρ:Operand→Value}{s:jal}{x y z:Operand}{x' y' z':Opd}{d:Option Tmp}{ty:TypeId}{pos:String}{af:Array Edge}{gd:Option (Nat×Bool)}
theorem jbr {v:Value}{k:IntKind}{n b:Nat}{c:BoundsCode}(hv:v= .int k n)(hn:n≤b):(Instr.sliceBound v b c).run P w= .ok n w:=by
 subst hv;have:(n:Int)≤(b:Int):=by omega
 simp[Instr.sliceBound,asIntOf,this,hn]
theorem jdg {bs:Bool}{len cap l u mm:Nat}{lo hi mx:Option Value}(hlo:(lo=none∧l=0)∨ ∃k v,lo=some v∧v= .int k l)(hhi:(hi=none∧mx=none∧u=len)∨ ∃k v,hi=some v∧v= .int k u)(hmx:(mx=none∧mm=cap)∨ ∃k v,mx=some v∧v= .int k mm)
  (h1:l≤u) (h2:u≤mm) (h3:mm≤cap):(Instr.sliceBounds bs len cap lo hi mx).run P w= .ok (l,u,mm) w:=by
 rcases hmx with⟨rfl,rfl⟩|⟨k,v,rfl,hv⟩
 ·rcases hhi with⟨rfl,_,rfl⟩|⟨k,v,rfl,hv⟩
  ·rcases hlo with⟨rfl,rfl⟩|⟨k,v,rfl,hv⟩
   ·simp[Instr.sliceBounds]
   ·simp[Instr.sliceBounds,jbr hv h1]
  ·rcases hlo with⟨rfl,rfl⟩|⟨k,v',rfl,hv'⟩
   ·simp[Instr.sliceBounds,jbr hv h2]
   ·simp[Instr.sliceBounds,jbr hv h2,jbr hv' h1]
 ·rcases hhi with⟨rfl,h4,rfl⟩|⟨k,v',rfl,hv'⟩
  ·cases h4
  ·rcases hlo with⟨rfl,rfl⟩|⟨k,v'',rfl,hv''⟩
   ·simp[Instr.sliceBounds,jbr hv h3,jbr hv' h2]
   ·simp[Instr.sliceBounds,jbr hv h3,jbr hv' h2,jbr hv'' h1]
def OptR (m:Map)(s:jal)(ρ:Operand→Value)(x:Option Operand)(x':Option Opd):Prop:=(x=none∧x'=none)∨ ∃a a',x=some a∧x'=some a'∧VR m (a'.ev s) (ρ a)
theorem jdO {lo:Option Operand}{lo':Option Opd}(hr:OptR m s ρ lo lo'){dflt l:Nat}(hl:(match lo'.map (·.ev s) with|none=>some dflt|some v=>jcJ v)=some l):
  (lo=none∧lo'=none∧l=dflt)∨ ∃k v,lo.map ρ=some v∧v= .int k l:=by
 rcases hr with⟨rfl,rfl⟩|⟨a,a',rfl,rfl,hv⟩
 ·simp at hl;exact .inl ⟨rfl,rfl,hl.symm⟩
 ·simp only[U9] at hl
  obtain⟨k,hk⟩:=jd4 hl hv;exact .inr ⟨k,_,rfl,hk⟩
theorem jtB (r:Rels n0 B0 m h w){t:TypeId}{k bytes:Nat}{zs:List AV}(ht:jfU P t=some (k,bytes,zs)){lo hi mx:Option Operand}{lo' hi' mx':Option Opd}(hmh:mx=none∨hi≠none)
  (hx:VR m (x'.ev s) (ρ x)) (hlo:OptR m s ρ lo lo') (hhi:OptR m s ρ hi hi') (hmx:OptR m s ρ mx mx') {v:AV} {h':Heap} {top} (he:jah top fl s h (.slice k x' lo' hi' mx')=some (v,h')):
  Sim P n0 B0 fl m h w ρ ⟨d,.slice t x lo hi mx,ty,pos,af,gd⟩ v h':=by
 obtain⟨e,i,hu,hi0,hk,_,hk0,_,_,_⟩:=jdB ht;have hsz:jco P e=some k:=by simp[jco,hi0,hk]
 simp only[jah] at he;split at he
 ·rename_i v0 hv
  injection he with he;injection he with he1 he2;subst he1;subst he2
  unfold jc3 at hv;simp only at hv;split at hv
  ·rename_i hp
   rw[hp] at hx;split at hv
   ·rename_i h1 h2 h3
    injection hv with hv;subst hv
    have e1:=jdO hlo h1;have e2:=jdO hhi h2;have e3:=jdO hmx h3;refine jaw r (v':= .slice none 0 0) ?_ (by rw[hp];exact .val rfl);have hb:=jdg (P:=P) (w:=w) (bs:=true) (len:=0) (cap:=0) (l:=0) (u:=0) (mm:=0) (lo:=lo.map ρ) (hi:=hi.map ρ) (mx:=mx.map ρ)
     (by rcases e1 with ⟨rfl, _, _⟩ | h; exact .inl ⟨rfl, rfl⟩; exact .inr h) (by
      rcases e2 with⟨rfl,_,_⟩|h
      ·rcases hmh with rfl|h0
       ·exact .inl ⟨rfl,rfl,rfl⟩
       ·exact absurd rfl h0
      ·exact .inr h)
     (by rcases e3 with⟨rfl,_,_⟩|h;exact .inl ⟨rfl,rfl⟩;exact .inr h) (by omega) (by omega) (by omega)
    simp[execOp,hx.lit,Instr.sliceAt,jak hu,Instr.slice,hb,jas hsz]
   ·cases hv
  ·rename_i hp
   rw[hp] at hx;split at hv
   ·rename_i h1 h2 h3
    injection hv with hv;subst hv
    have e1:=jdO hlo h1;have e2:=jdO hhi h2;have e3:=jdO hmx h3;generalize hq:ρ x=xv at hx
    cases hx with
    |hole=>
     rename_i ad c;obtain⟨M,hM,hM2⟩: ∃M,((mx.map ρ=none∧M=c)∨ ∃k v,mx.map ρ=some v∧v= .int k M)∧M≤c:=by
      rcases e3 with⟨rfl,_,_⟩|⟨k,v,h0,h4⟩
      ·exact⟨c,.inl ⟨rfl,rfl⟩,V2 _⟩
      ·exact⟨0,.inr ⟨k,v,h0,h4⟩,Nat.zero_le _⟩
     have hbd:=jdg (P:=P) (w:=w) (bs:=true) (len:=0) (cap:=c) (l:=0) (u:=0) (mm:=M) (lo:=lo.map ρ) (hi:=hi.map ρ) (mx:=mx.map ρ)
      (by rcases e1 with ⟨rfl, _, _⟩ | h; exact .inl ⟨rfl, rfl⟩; exact .inr h) (by
       rcases e2 with⟨rfl,_,_⟩|h
       ·rcases hmh with rfl|h0
        ·exact .inl ⟨rfl,rfl,rfl⟩
        ·exact absurd rfl h0
       ·exact .inr h) hM (by omega) (by omega) hM2
     refine jaw r (v':= .slice (some ad) 0 M) ?_ (by rw[hp];exact .hole);simp[execOp,hq,Instr.sliceAt,jak hu,Instr.slice,hbd,jas hsz];intro _;unfold Addr.add;simp
   ·cases hv
  ·rename_i id off len lb ex k' hp
   rw[hp] at hx;split at hv
   ·rename_i l u mm h1 h2 h3
    split at hv
    ·rename_i hc
     obtain⟨hkk,hlu,hum,hml⟩:=hc;have hkk:=hkk.symm;subst hkk;injection hv with hv;subst hv
     generalize hq:ρ x=xv at hx
     cases hx with
     |slice hb ho hh1 hh2 hh3 hh4=>
      rename_i b o c;have e1:=jdO hlo h1;have e2:=jdO hhi h2;have e3:=jdO hmx h3;obtain⟨M,hM,hM1,hM2,hM3⟩: ∃M,((mx.map ρ=none∧M=c)∨ ∃k v,mx.map ρ=some v∧v= .int k M)∧mm≤M∧M≤c∧((ex||mx'.isSome)=true→M=mm):=by
       rcases hmx with⟨rfl,rfl⟩|⟨a,a',rfl,rfl,hva⟩
       ·rcases e3 with⟨_,_,rfl⟩|⟨k,v,h0,_⟩
        ·exact⟨c,.inl ⟨rfl,rfl⟩,hh2,V2 _,fun h0=>hh3 (by simpa using h0)⟩
        ·cases h0
       ·rcases e3 with⟨h0,_,_⟩|⟨k,v,h0,h4⟩
        ·cases h0
        ·exact⟨mm,.inr ⟨k,v,h0,h4⟩,V2 _,by omega,fun _=>rfl⟩
      have hbd:=jdg (P:=P) (w:=w) (bs:=true) (len:=len) (cap:=c) (l:=l) (u:=u) (mm:=M) (lo:=lo.map ρ) (hi:=hi.map ρ) (mx:=mx.map ρ)
       (by rcases e1 with ⟨rfl, _, rfl⟩ | h; exact .inl ⟨rfl, rfl⟩; exact .inr h) (by
        rcases e2 with⟨rfl,_,rfl⟩|h
        ·rcases hmh with rfl|h0
         ·exact .inl ⟨rfl,rfl,rfl⟩
         ·exact absurd rfl h0
        ·exact .inr h) hM hlu (by omega) hM2
      have hmul:o+c*k≤b.room:=hh4;have hMc:M*k≤c*k:=E9 _ hM2;refine jaw r (v':= .slice (some ⟨b.b,b.off+(if M=l then o else o+l*k),none⟩) (u - l) (M - l)) ?_
       (.slice hb ?_ (by omega) (by omega) (fun h0=>by rw[hM3 (by simpa using h0)]) ?_)
      ·simp[execOp,hq,Instr.sliceAt,jak hu,Instr.slice,hbd,jas hsz]
       split<;>simp[jei,V4]
      ·intro h0
       rw[if_neg (by omega),ho (by omega)]
      ·split
       ·rename_i h0;subst h0;simp;omega
       ·have:l*k+(M - l)*k=M*k:=by rw[←Y0];congr 1;omega
        omega
    ·cases hv
   ·cases hv
  ·cases hv
 ·cases he
theorem jlG (z:List AV)(k:Nat)(hk:z.length=k)(hk0:0<k): ∀(l i:Nat),i<l*k→(O6 l z).flatten[i]?=z[i % k]?
 |0,i,hi=>by simp at hi
 |l+1,i,hi=>by
  rw[List.replicate_succ,List.flatten_cons];by_cases h1:i<k
  ·rw[V5 (by omega),Nat.mod_eq_of_lt h1]
  ·rw[N0 (by omega),hk,jlG z k hk hk0 l (i - k) (by rw[Y0] at hi;omega),← Nat.mod_eq_sub_mod (show i≥k by omega)]
theorem jlF (z:List AV)(l:Nat):(O6 l z).flatten.length=l*z.length:=by simp
theorem jof (r:Rels n0 B0 m h w){t:TypeId}{k bytes:Nat}{zs:List AV}(ht:jfU P t=some (k,bytes,zs))(hx:VR m (x'.ev s) (ρ x))(hy:VR m (y'.ev s) (ρ y)){v:AV}{h':Heap}{top}(he:jah top fl s h (.mkSlice k bytes zs x' y')=some (v,h')):
  Sim P n0 B0 fl m h w ρ ⟨d,.makeSlice t x y,ty,pos,af,gd⟩ v h':=by
 obtain⟨e,i,hu,hi,hk,hby,hk0,hb0,hz,hzl⟩:=jdB ht;have hsz:jco P e=some k:=by simp[jco,hi,hk]
 obtain⟨zv,h1,h2,hz3⟩:=jbU (P:=P) (w:=w) hz;simp only[jah] at he;split at he
 ·rename_i l c hl hc
  obtain⟨k1,hl⟩:=jd4 hl hx;obtain⟨k2,hc⟩:=jd4 hc hy;split at he
  ·rename_i hcond
   obtain⟨hlc,hreach⟩:=hcond;injection he with he;injection he with he1 he2;subst he1;subst he2
   unfold reach at hreach;have hcb:c≤c*bytes:=Y4 _ hb0;have w0:IntKind.i64.wrap 0=0:=Y5 _ (by omega);have w1:IntKind.i64.wrap (l:Int)=l:=Y5 _ (by omega);have w2:IntKind.i64.wrap (c:Int)=c:=Y5 _ (by omega);have hprod:(bytes:Int)*(c:Int)=((c*bytes:Nat):Int):=by rw[Nat.mul_comm];simp
   have t1: ¬((281474976710656:Int)<(bytes:Int)*(c:Int)):=by rw[hprod];omega
   have t2: ¬((c:Int)<(l:Int)):=by omega
   have t3: ¬(roomBytes<c*bytes):=by unfold roomBytes;omega
   have hz0:=getElem!_mod zv.cells zs (h2 m) k hk0 hzl (c*k);have hlk:l*k≤c*k:=E9 _ hlc;have harr:((E5 (c*k)).map (fun i=>zv.cells[i % zv.cells.size]!)).size=c*k:=by simp
   refine⟨.slice (some ⟨w.heap.size,0,none⟩) l c,w.alloc (.cells ((E5 (c*k)).map (fun i=>zv.cells[i % zv.cells.size]!)) e),mset m h.length ⟨w.heap.size,0,c*k,false⟩,.inl ?_,
    jdx r _ _ e (c * k) (fun x hx => by
     obtain⟨l0,hl0,hx⟩:=Y6.1 hx;rw[Y7 hl0] at hx;exact hz3 x hx) (by rw[jlF,hzl];exact hlk) (by rw[harr];exact V2 _) (fun j a ha=>?_),
    VR.slice (b:=⟨w.heap.size,0,c*k,false⟩) (o:=0) ⟨by simp[mset],rfl⟩ (fun _=>rfl) (V2 _) hlc (fun h0=>by simp at h0;exact h0.symm) (by simp)⟩
   ·by_cases h0:c=0
    ·subst h0
     obtain rfl:l=0:=by omega
     have e1: ∀f:Nat→Value,E8 f (E5 0)= #[]:=fun f=>by simp
     simp[execOp,hl,hc,Instr.makeSlice,jak hu,asInt,asIntOf,jcc hi,w0,askRoom,roomBytes,jas hsz,e1,newRow]
    ·have h0': ¬(c*k=0):=by
      intro h3;rcases Nat.mul_eq_zero.1 h3 with h3|h3<;>omega
     simp[execOp,hl,hc,Instr.makeSlice,jak hu,asInt,asIntOf,jcc hi,hby,w1,w2,t1,t2,askRoom,t3,jas hsz,h0',h0,h1,newRow,show ¬k=0 by omega];intro hneg;exfalso;omega
   ·have hj:j<l*k:=by
     have:=(U0.1 ha).1;rw[jlF,hzl] at this;exact this
    rw[jlG zs k hzl hk0 l j hj] at ha;have hg:((O5 (c*k)).map fun i=>zs.getD (i % k) .no)[j]?=some a:=by
     rw[U8,Y8 (by omega)];simp[E7,ha]
    obtain⟨y,hy,hr⟩:=hz0.get hg;exact⟨y,by rw[←N3];exact hy,hr⟩
  ·cases he
 ·cases he
theorem jfo {l:List Operand}{l':List Opd}(hl:opds l=some l')(hs: ∀a∈l,∀ z,cOpd a=some z→VR m (z.ev s) (ρ a)):VRs m (l'.map (·.ev s)) (l.map ρ):=by
 induction l generalizing l' with
 |nil=>simp[opds] at hl;subst hl;exact .nil
 |cons a l ih=>
  simp only[opds,Q7,Q6,Q8,E0,U4] at hl;obtain⟨z,hz,l'',hl',rfl⟩:=hl;exact .cons (hs a (by simp) z hz) (ih hl' (fun b hb=>hs b (by simp[hb])))
theorem jtG (r:Rels n0 B0 m h w){f:FuncId}{as caps:Array Operand}{as' caps':List Opd}(hl:opds caps.toList=some caps')(ha:opds as.toList=some as')(hs: ∀a∈caps.toList,∀ z,cOpd a=some z→VR m (z.ev s) (ρ a))(hs2: ∀a∈as.toList,∀ z,cOpd a=some z→VR m (z.ev s) (ρ a)){v:AV}{h':Heap}{top}(he:jah top fl s h (.bfunc f as' caps')=some (v,h')):
  Sim P n0 B0 fl m h w ρ ⟨d,.makeFunc (.func f) as caps,ty,pos,af,gd⟩ v h':=by
 simp only[jah] at he;injection he with he;injection he with he1 he2;subst he1;subst he2
 have q1:=jfo hl hs;have q2:=jfo ha hs2;refine jaw r (v':= .func (.func f) (as.map ρ) (caps.map ρ)) ?_ (.bfunc (by simpa using q2.1) (by simpa using q1.1) (by simpa using q2.2) (by simpa using q1.2));simp[execOp,Instr.makeFunc]
theorem sim_func (r:Rels n0 B0 m h w){f:FuncId}{caps:Array Operand}{caps':List Opd}(hl:opds caps.toList=some caps')(hs: ∀a∈caps.toList,∀ z,cOpd a=some z→VR m (z.ev s) (ρ a)){v:AV}{h':Heap}{top}(he:jah top fl s h (.func f caps')=some (v,h')):
  Sim P n0 B0 fl m h w ρ ⟨d,.makeFunc (.func f) #[] caps,ty,pos,af,gd⟩ v h':=by
 simp only[jah] at he;injection he with he;injection he with he1 he2;subst he1;subst he2
 refine jaw r (v':= .func (.func f) #[] (caps.map ρ)) ?_ (VRs.func (by simpa using jfo hl hs));simp[execOp,Instr.makeFunc]
theorem jbm {b:Builtin}{args:Array Operand}{at_:Array TypeId}{f:Sem Value}(hb: ∀consts,builtin b at_ ty consts (args.map ρ)=(do pure (.value (←f)))):
  (execOp ρ ⟨d,.call { callee:= .builtin b,args:=args,argTypes:=at_ },ty,pos,af,gd⟩).run P w=(f.run P w).andThen fun v w'=> .ok (.value v) w':=by
 simp only[execOp,resolve,Sem.run_bind,Sem.run_pure,Result.andThen_ok,invoke,hb]
theorem sim_len (r:Rels n0 B0 m h w){t e:TypeId}(hu:P.underlying t=some (.slice e))(hx:VR m (x'.ev s) (ρ x)){v:AV}{h':Heap}{top}(he:jah top fl s h (.len x')=some (v,h')):
  Sim P n0 B0 fl m h w ρ ⟨d,.call { callee:= .builtin .len,args:= #[x],argTypes:= #[t] },ty,pos,af,gd⟩ v h':=by
 simp only[jah] at he;split at he
 ·rename_i hp
  rw[hp] at hx;injection he with he;injection he with he1 he2;subst he1;subst he2
  refine jaw r (v':= .int .i64 0) ?_ (.val rfl);rw[jbm (f:=Builtin.len_ #[t] ty #[ρ x]) (by simp[builtin])];simp[Builtin.len_,jak hu,hx.lit,goInt]
 ·rename_i hp
  rw[hp] at hx;injection he with he;injection he with he1 he2;subst he1;subst he2
  refine jaw r (v':= .int .i64 0) ?_ (.val rfl);rw[jbm (f:=Builtin.len_ #[t] ty #[ρ x]) (by simp[builtin])];generalize ρ x=xv at hx
  cases hx with
  |hole=>simp[Builtin.len_,jak hu,goInt]
 ·rename_i id off len lb ex k hp
  rw[hp] at hx;injection he with he;injection he with he1 he2;subst he1;subst he2
  refine jaw r (v':= .int .i64 len) ?_ (.val rfl);rw[jbm (f:=Builtin.len_ #[t] ty #[ρ x]) (by simp[builtin])];generalize ρ x=xv at hx
  cases hx with
  |slice=>simp[Builtin.len_,jak hu,goInt]
 ·cases he
theorem jq7 (r:Rels n0 B0 m h w){t:TypeId}(hu:P.underlying t=some .string)(hx:VR m (x'.ev s) (ρ x)){v:AV}{h':Heap}{top}(he:jah top fl s h (.lenStr x')=some (v,h')):
  Sim P n0 B0 fl m h w ρ ⟨d,.call { callee:= .builtin .len,args:= #[x],argTypes:= #[t] },ty,pos,af,gd⟩ v h':=by
 simp only[jah] at he;split at he
 ·rename_i q hp
  rw[hp] at hx;injection he with he;injection he with he1 he2;subst he1;subst he2
  refine jaw r (v':= .int .i64 q.size) ?_ (.val rfl);rw[jbm (f:=Builtin.len_ #[t] ty #[ρ x]) (by simp[builtin])];simp[Builtin.len_,jak hu,hx.lit,goInt]
 ·cases he
theorem jla (max:Bool): ∀(xs:List AV) (us:List Value) (a:AV) (u:Value) (v:AV),VRs m xs us→VR m a u→jlT max a xs=some v→ ∃v',(us.foldlM (if max then Builtin.max2 else Builtin.min2) u).run P w= .ok v' w∧VR m v v'
 |[],us,a,u,v,h1,h2,h3=>by
  have:us=[]:=Y9 (by have:=h1.1;simpa using this.symm);subst this;simp[jlT] at h3;subst h3
  exact⟨u,by simp,h2⟩
 |b::xs,us,a,u,v,h1,h2,h3=>by
  unfold jlT at h3;split at h3
  ·rename_i heq;cases heq
  ·rename_i k n k' p r heq
   injection heq with e1 e2
   subst e1;subst e2
   cases us with
   |nil=>have:=h1.1;simp at this
   |cons u' us=>
    have hb:=(h1.2 0 _ _ rfl rfl).int;subst hb;have hu:=h2.int;subst hu;have htl:VRs m xs us:=by simpa using h1.drop 1
    obtain⟨v',h4,h5⟩:=jla max xs us _ (.int k (if max then (if p>n then p else n) else (if p<n then p else n))) v htl (.val rfl) h3;refine⟨v',?_,h5⟩;rw[List.foldlM_cons,Sem.run_bind]
    cases max
    ·simpa[Builtin.min2] using h4
    ·simpa[Builtin.max2] using h4
  ·cases h3
theorem jke (r:Rels n0 B0 m h w){mx:Bool}{xs:List Operand}{xs':List Opd}{at_:Array TypeId}(hl:opds xs=some xs')(hs: ∀a∈xs,∀ z,cOpd a=some z→VR m (z.ev s) (ρ a))(hx:VR m (x'.ev s) (ρ x)){v:AV}{h':Heap}{top}(he:jah top fl s h (.minmax mx x' xs')=some (v,h')):
  Sim P n0 B0 fl m h w ρ ⟨d,.call { callee:= .builtin (if mx then .max else .min),args:=(x::xs).toArray,argTypes:=at_ },ty,pos,af,gd⟩ v h':=by
 simp only[jah] at he;split at he
 ·rename_i v0 hv
  injection he with he;injection he with he1 he2;subst he1;subst he2
  obtain⟨v',h1,h2⟩:=jla (P:=P) (w:=w) mx _ _ _ _ _ (jfo hl hs) hx hv;refine jaw r (v':=v') ?_ h2
  cases mx
  ·rw[jbm (f:=Builtin.min_ at_ ty ((x::xs).toArray.map ρ)) (by simp[builtin])]
   simp only[N6,if_false] at h1;simp[Builtin.min_,h1]
  ·rw[jbm (f:=Builtin.max_ at_ ty ((x::xs).toArray.map ρ)) (by simp[builtin])]
   simp only[if_true] at h1;simp[Builtin.max_,h1]
 ·cases he
/-! ### Rows of cells -/
theorem jez (r:Rel n0 B0 m (blk h) w){k n:Nat}{cs:List AV}{a:AV}{u:Value}(hr:jdN h k a=some (n,cs))(ha:VR m a u):
  (n=0∧cs=[]∧(u= .slice none 0 0∨ ∃ad c,u= .slice (some ad) 0 c))∨ ∃ad c vs,u= .slice (some ad) n c∧vs.length=n*k∧(∀(j:Nat) v,vs[j]?=some v→w.cell? (ad.add j)=some v)∧VRs m cs vs∧ ∀x∈cs,x.isCell=true:=by
 unfold jdN at hr;split at hr
 ·injection hr with hr;injection hr with h1 h2
  exact .inl ⟨h1.symm,h2.symm,.inl ha.lit⟩
 ·injection hr with hr;injection hr with h1 h2
  cases ha with
  |hole=>exact .inl ⟨h1.symm,h2.symm,.inr ⟨_,_,rfl⟩⟩
 ·rename_i id off len lb ex k'
  split at hr
  ·rename_i cs' hcs
   injection hr with hr;injection hr with h1 h2;subst h1;subst h2
   unfold rd at hcs;split at hcs
   ·rename_i l hl
    split at hcs
    ·rename_i hn
     injection hcs with hcs;subst hcs
     cases ha with
     |slice hb ho h1 h2 h3 h4=>
      rename_i b o c;by_cases h0:lb=0
      ·obtain rfl:len=0:=by omega
       refine .inr ⟨_,c,[],rfl,by simp,fun j v hj=>by simp at hj,by simpa using VRs.nil,fun x hx=>by simp at hx⟩
      ·have:=ho h0
       subst this;obtain⟨vs,h5,h6,h7⟩:=jgt r hl hb hn;exact .inr ⟨_,c,vs,rfl,h5,h6,h7,fun x hx=>r.one id l b hl hb x (M7 (M6 hx))⟩
    ·cases hcs
   ·cases hcs
  ·cases hr
 ·cases hr
theorem sim_copy (r:Rels n0 B0 m h w)(hfl: ∀id,fl id=true→n0≤id){t u:TypeId}{k bytes:Nat}{zs:List AV}(ht:jfU P t=some (k,bytes,zs))(hx:VR m (x'.ev s) (ρ x))(hy:VR m (y'.ev s) (ρ y)){v:AV}{h':Heap}{top}(he:jah top fl s h (.copy k x' y')=some (v,h')):
  Sim P n0 B0 fl m h w ρ ⟨d,.call { callee:= .builtin .copy,args:= #[x,y],argTypes:= #[t,u] },ty,pos,af,gd⟩ v h':=by
 obtain⟨e,i,hu,hi,hk,hby,hk0,hb0,hz,hzl⟩:=jdB ht;have hsz:jco P e=some k:=by simp[jco,hi,hk]
 have hrun: ∀(f:Result Value),(Builtin.copy_ #[t,u] ty #[ρ x,ρ y]).run P w=f→(execOp ρ ⟨d,.call { callee:= .builtin .copy,args:= #[x,y],argTypes:= #[t,u] },ty,pos,af,gd⟩).run P w=f.andThen fun v w'=> .ok (.value v) w':=by
  intro f hf;rw[jbm (f:=Builtin.copy_ #[t,u] ty #[ρ x,ρ y]) (by simp[builtin]),hf]
 simp only[jah] at he;split at he
 ·rename_i q hp hq
  rw[hp] at hx;injection he with he;injection he with he1 he2;subst he1;subst he2
  refine jaw r (v':= .int .i64 0) ?_ (.val rfl);rw[hrun (.ok (.int .i64 0) w) ?_]
  ·rfl
  ·obtain⟨n,cs⟩:=q
   rcases jez r.rel hq hy with⟨_,_,hy|⟨ad,c,hy⟩⟩|⟨ad,c,vs,hy,_⟩
   ·simp[Builtin.copy_,jak hu,hx.lit,hy,Builtin.lenOf,jas hsz,Builtin.firstCells,goInt]
   ·have:=run_loadCells_list (P:=P) w ad [] (fun j v hj=>by simp at hj)
    simp at this;simp[Builtin.copy_,jak hu,hx.lit,hy,Builtin.lenOf,jas hsz,Builtin.firstCells,goInt,this]
   ·have:=run_loadCells_list (P:=P) w ad [] (fun j v hj=>by simp at hj)
    simp at this;simp[Builtin.copy_,jak hu,hx.lit,hy,Builtin.lenOf,jas hsz,Builtin.firstCells,goInt,this]
 ·rename_i q hp hq
  rw[hp] at hx;injection he with he;injection he with he1 he2;subst he1;subst he2
  refine jaw r (v':= .int .i64 0) ?_ (.val rfl);rw[hrun (.ok (.int .i64 0) w) ?_]
  ·rfl
  ·obtain⟨n,cs⟩:=q
   generalize hqx:ρ x=xv at hx
   cases hx with
   |hole=>
    rcases jez r.rel hq hy with⟨_,_,hy|⟨ad,c,hy⟩⟩|⟨ad,c,vs,hy,_⟩
    ·simp[Builtin.copy_,jak hu,hqx,hy,Builtin.lenOf,jas hsz,Builtin.firstCells,goInt,storeCells]
    ·have:=run_loadCells_list (P:=P) w ad [] (fun j v hj=>by simp at hj)
     simp at this;simp[Builtin.copy_,jak hu,hqx,hy,Builtin.lenOf,jas hsz,Builtin.firstCells,goInt,this,storeCells]
    ·have:=run_loadCells_list (P:=P) w ad [] (fun j v hj=>by simp at hj)
     simp at this;simp[Builtin.copy_,jak hu,hqx,hy,Builtin.lenOf,jas hsz,Builtin.firstCells,goInt,this,storeCells]
 ·rename_i id off len lb ex k' n cs hp hq
  rw[hp] at hx;split at he
  ·rename_i h1 hw
   injection he with he;injection he with he1 he2;subst he1;subst he2
   generalize hqx:ρ x=xv at hx hrun
   cases hx with
   |slice hb ho hh1 hh2 hh3 hh4=>
    rename_i b o c;rcases jez r.rel hq hy with⟨rfl,rfl,hy⟩|⟨ad,cc,vs,hy,hvl,hvc,hvr,hvo⟩
    ·have hld0: ∀ad:Addr,(loadCells ad 0).run P w= .ok #[] w:=fun ad=>by
      simpa using run_loadCells_list (P:=P) w ad [] (fun j v hj=>by simp at hj)
     obtain⟨w',h2,h3⟩:=jiy (P:=P) r hfl hb VRs.nil (fun v hv=>by simp at hv) (by simpa using hw);simp only[storeCells,Sem.run_pure,Result.ok.injEq,true_and] at h2;subst h2;refine⟨.int .i64 0,w,m,.inl ?_,h3,by simpa using VR.val rfl⟩;rw[hrun (.ok (.int .i64 0) w) ?_]
     ·rfl
     ·rcases hy with hy|⟨ad,c,hy⟩
      ·simp[Builtin.copy_,jak hu,hy,Builtin.lenOf,jas hsz,Builtin.firstCells,goInt,storeCells]
      ·simp[Builtin.copy_,jak hu,hy,Builtin.lenOf,jas hsz,Builtin.firstCells,goInt,storeCells,hld0]
    ·have hmin:G0 n len*k≤vs.length:=by rw[hvl];exact E9 _ (Nat.min_le_left _ _)
     have hld := run_loadCells_list (P := P) w ad (vs.take (G0 n len * k)) (fun j v hj => by
      rw[O8] at hj;split at hj
      ·exact hvc j v hj
      ·cases hj)
     rw[List.length_take,Nat.min_eq_left hmin] at hld;have hvr':=hvr.take (G0 n len*k);by_cases hlb:lb=0
     ·obtain rfl:len=0:=by omega
      have hz0:G0 n 0=0:=Nat.min_zero n;have hw0:wr fl h id off []=some h1:=by simpa using hw
      obtain⟨w',h2,h3⟩:=jiy (P:=P) r hfl hb VRs.nil (fun v hv=>by simp at hv) hw0;simp only[storeCells,Sem.run_pure,Result.ok.injEq,true_and] at h2;subst h2;refine⟨.int .i64 0,w,m,.inl ?_,h3,by simpa using VR.val rfl⟩;rw[hrun (.ok (.int .i64 0) w) ?_]
      ·rfl
      ·rw[hz0] at hld
       simp at hld;simp[Builtin.copy_,jak hu,hy,Builtin.lenOf,jas hsz,Builtin.firstCells,goInt,hld,storeCells]
     ·have:=ho hlb
      subst this;obtain⟨w',h2,h3⟩:=jiy (P:=P) r hfl hb hvr' (fun v hv=>hvo v (M6 hv)) hw;refine⟨.int .i64 (min n len:Nat),w',m,.inl ?_,h3,VR.val rfl⟩;rw[hrun (.ok (.int .i64 (min n len:Nat)) w') ?_]
      ·rfl
      ·simp only[Builtin.copy_,Sem.run_bind,jak hu,hy,Builtin.lenOf,Sem.run_pure,Result.andThen_ok,jas hsz,Builtin.firstCells,hld,h2,goInt,M9,List.getElem?_cons_zero,Q5,Array.toList]
  ·cases he
 ·cases he
theorem jtF (r:Rels n0 B0 m h w)(hfl: ∀id,fl id=true→n0≤id){t:TypeId}{k bytes:Nat}{zs:List AV}(ht:jfU P t=some (k,bytes,zs))(hx:VR m (x'.ev s) (ρ x)){v:AV}{h':Heap}{top}(he:jah top fl s h (.clear k zs x')=some (v,h')):
  Sim P n0 B0 fl m h w ρ ⟨d,.call { callee:= .builtin .clear,args:= #[x],argTypes:= #[t] },ty,pos,af,gd⟩ v h':=by
 obtain⟨e,i,hu,hi,hk,hby,hk0,hb0,hz,hzl⟩:=jdB ht;obtain⟨zv,hz1,hz2,hz3⟩:=jbU (P:=P) (w:=w) hz;have hrun: ∀(f:Result Value),(Builtin.clear_ #[t] ty #[ρ x]).run P w=f→(execOp ρ ⟨d,.call { callee:= .builtin .clear,args:= #[x],argTypes:= #[t] },ty,pos,af,gd⟩).run P w=f.andThen fun v w'=> .ok (.value v) w':=by
  intro f hf;rw[jbm (f:=Builtin.clear_ #[t] ty #[ρ x]) (by simp[builtin]),hf]
 simp only[jah] at he;split at he
 ·rename_i hp
  rw[hp] at hx;injection he with he;injection he with he1 he2;subst he1;subst he2
  refine jaw r (v':= .tuple #[]) ?_ VRs.no;rw[hrun (.ok (.tuple #[]) w) (by simp[Builtin.clear_,jak hu,hx.lit])]
  rfl
 ·rename_i hp
  rw[hp] at hx;injection he with he;injection he with he1 he2;subst he1;subst he2
  refine jaw r (v':= .tuple #[]) ?_ VRs.no;rw[hrun (.ok (.tuple #[]) w) ?_]
  ·rfl
  ·generalize ρ x=xv at hx
   cases hx with
   |hole=>simp[Builtin.clear_,jak hu]
 ·rename_i id off len lb ex k' hp
  rw[hp] at hx;split at he
  ·rename_i h1 hw
   injection he with he;injection he with he1 he2;subst he1;subst he2
   generalize hqx:ρ x=xv at hx hrun
   cases hx with
   |slice hb ho hh1 hh2 hh3 hh4=>
    rename_i b o c;by_cases h0:len=0
    ·subst h0
     obtain⟨w',h2,h3⟩:=jiy (P:=P) r hfl hb VRs.nil (fun v hv=>by simp at hv) (by simpa using hw);simp only[storeCells,Sem.run_pure,Result.ok.injEq,true_and] at h2;subst h2;refine⟨.tuple #[],w,m,.inl ?_,h3,VRs.no⟩;rw[hrun (.ok (.tuple #[]) w) (by simp[Builtin.clear_,jak hu])]
     rfl
    ·have:=ho (by omega)
     subst this;have hzz:VRs m (O6 len zs).flatten (Builtin.zeroCells zv.cells len).toList:=by
      have hzs:zv.cells.size=k:=by have:=(hz2 m).1;simp at this;omega
      refine⟨by simp[Builtin.zeroCells,hzl,hzs],fun j a b ha hb=>?_⟩;have hj:j<len*k:=by
       have:=(U0.1 ha).1;rw[jlF,hzl] at this;exact this
      have hzz:=getElem!_mod zv.cells zs (hz2 m) k hk0 hzl (len*k);rw[jlG zs k hzl hk0 len j hj] at ha;refine hzz.2 j a b ?_ ?_
      ·rw[U8,Y8 hj]
       simp[E7,ha]
      ·simpa[Builtin.zeroCells,hzs] using hb
     obtain ⟨w', h2, h3⟩ := jiy (P := P) r hfl hb hzz (fun x hx => by
      obtain⟨l0,hl0,hx⟩:=Y6.1 hx;rw[Y7 hl0] at hx;exact hz3 x hx) hw
     refine⟨.tuple #[],w',m,.inl ?_,h3,VRs.no⟩;rw[hrun (.ok (.tuple #[]) w') ?_]
     ·rfl
     ·obtain⟨n,rfl⟩: ∃n,len=n+1:=⟨len - 1,by omega⟩
      simp[Builtin.clear_,jak hu,hz1,h2]
  ·cases he
 ·cases he
end
end
section
open Go
section
variable {n0 B0:Nat}{P:Program}{m:Map}{h:Heap}{w:World}{fl:Nat→Bool}
variable {ρ:Operand→Value}{s:jal}{x y z:Operand}{x' y' z':Opd}{d:Option Tmp}{ty:TypeId}{pos:String}{af:Array Edge}{gd:Option (Nat×Bool)}
theorem Rels.drew (r:Rels n0 B0 m h w):Rels n0 B0 m h w.drew:=
 ⟨⟨r.rel.base,r.rel.lt,r.rel.cell,r.rel.one,r.rel.own,r.rel.ro,r.rel.inj,r.rel.mp,r.rel.gl⟩,r.dom,r.n0⟩
theorem Post.drew {m':Map}{h':Heap}{w':World}(p:Post n0 B0 fl m h w.drew m' h' w'):Post n0 B0 fl m h w m' h' w':=
 ⟨p.rels,p.len,p.keep,p.os,p.tape,p.output,p.size,p.frame,p.fresh,p.unt,p.dead,p.new⟩
theorem jbW {h:Heap}{id i:Nat}{l:List AV}(hb:blk (kill h id) i=some l):i≠id∧blk h i=some l:=by
 rw[jdE,kill,M1] at hb;split at hb
 ·split at hb<;>cases hb
 ·rename_i hne
  exact⟨fun e=>hne e.symm,jdE.2 hb⟩
theorem jrd (r:Rels n0 B0 m h w)(hfl: ∀id,fl id=true→n0≤id){id:Nat}{l:List AV}{b:Base}(hid:fl id=true)(hl:blk h id=some l)(hb:CB m id b)
  {c:Array Value} {e:TypeId} (hc:w.heap[b.b]?=some (.cells c e (0,0))) (l':List AV) (hone: ∀x∈l',x.isCell=true) (o:Nat) (hll:o+l'.length≤b.room) (arr:Array Value) (hsz:arr.size=c.size)
  (hcs: ∀(i:Nat) x,l'[i]?=some x→ ∃y,arr[b.off+o+i]?=some y∧VR m x y) (w':World) (hw:w'=w.setRow b.b arr):
  Post n0 B0 fl m h w (mset m h.length ⟨b.b,b.off+o,b.room - o,b.mp⟩) (kill h id++[some l']) w':=by
 subst hw;have hlt:=jcm hl;have hn:=hfl id hid;have hkl:(kill h id).length=h.length:=by simp[kill]
 have hheap: ∀k,k≠b.b→(w.setRow b.b arr).heap[k]?=w.heap[k]?:=fun k hk=>by
  simp[V9,M0,Ne.symm hk]
 have hat:(w.setRow b.b arr).heap[b.b]?=some (.cells arr e (0,0)):=by
  simp[V9,M0,hc]
 have hsize:(w.setRow b.b arr).heap.size=w.heap.size:=by simp[V9]
 have hcell: ∀k o,k≠b.b→(w.setRow b.b arr).cell? ⟨k,o,none⟩=w.cell? ⟨k,o,none⟩:=fun k o hk=>by
  simp only[V1,hheap k hk]
 have hm: ∀i bi,m i=some bi→mset m h.length ⟨b.b,b.off+o,b.room - o,b.mp⟩ i=some bi:=fun i bi hb=>by
  have:=r.dom i bi hb;simp only[mset];rw[if_neg (by omega)];exact hb
 have hold: ∀i bi,i<h.length→mset m h.length ⟨b.b,b.off+o,b.room - o,b.mp⟩ i=some bi→m i=some bi:=fun i bi hi hb=>by
  simp only[mset] at hb;rw[if_neg (by omega)] at hb;exact hb
 have hnew: ∀bi,mset m h.length ⟨b.b,b.off+o,b.room - o,b.mp⟩ h.length=some bi→bi=⟨b.b,b.off+o,b.room - o,b.mp⟩:=fun bi hb=>by simp[mset] at hb;exact hb.symm
 have hcase: ∀i li,blk (kill h id++[some l']) i=some li→(i<h.length∧i≠id∧blk h i=some li)∨(i=h.length∧li=l'):=fun i li hli=>by
  by_cases hi:i<h.length
  ·rw[jcA _ (by rw[hkl];exact hi)] at hli
   obtain⟨h1,h2⟩:=jbW hli;exact .inl ⟨hi,h1,h2⟩
  ·have:=jcm hli
   simp[hkl] at this;obtain rfl:i=h.length:=by omega
   rw[←hkl,jbk] at hli;exact .inr ⟨rfl,by injection hli with hli;exact hli.symm⟩
 obtain⟨hB0,hlr,c',e',hc',hroom⟩:=r.rel.own id l b hn hl hb;rw[hc] at hc';injection hc' with hc';injection hc' with h1 h2 h3;subst h1
 have hfar: ∀i li bi,i≠id→blk h i=some li→m i=some bi→bi.b≠b.b:=fun i li bi hne hli hbi he=>by
  by_cases hi:n0≤i
  ·exact hne (r.rel.inj i id li l bi b hi hn hli hl hbi hb.1 he)
  ·have h1:=r.rel.ro i bi (by omega) hbi
   omega
 refine ⟨⟨⟨by rw [hsize]; exact r.rel.base, ?_, ?_, ?_, ?_, ?_, ?_, ?_, r.rel.gl.keep (V2 _) fun x hx => hheap x (by have := (r.rel.own id l b (hfl id hid) hl hb).1; omega)⟩, ?_, by simp [hkl]; have := r.n0; omega⟩, by simp [hkl], ?_, rfl, rfl, rfl, by rw [hsize]; exact V2 _, ?_, ?_, ?_, ?_, fun i h1 h2 => by
  obtain rfl:i=h.length:=by simp[hkl] at h2;omega
  simp[mset]⟩
 ·intro i bi hbi
  rw[hsize];by_cases hi:i=h.length
  ·subst hi;rw[hnew bi hbi];exact r.rel.lt id b hb.1
  ·have:mset m h.length ⟨b.b,b.off+o,b.room - o,b.mp⟩ i=m i:=by simp[mset,hi]
   rw[this] at hbi;exact r.rel.lt i bi hbi
 ·intro i li bi hli hbi j v hv
  rcases hcase i li hli with⟨hi,hne,hli⟩|⟨rfl,rfl⟩
  ·have hbi:CB m i bi:=⟨hold i bi hi hbi.1,hbi.2⟩
   rw[hcell _ _ (hfar i li bi hne hli hbi.1)];obtain⟨v',h1,h2⟩:=r.rel.cell i li bi hli hbi j v hv;exact⟨v',h1,h2.mono hm⟩
  ·obtain rfl:=hnew bi hbi.1
   obtain⟨y,hy,hr⟩:=hcs j v hv;exact⟨y,by simp[V1,hat,hy],hr.mono hm⟩
 ·intro i li bi hli hbi
  rcases hcase i li hli with⟨hi,hne,hli⟩|⟨rfl,rfl⟩
  ·exact r.rel.one i li bi hli ⟨hold i bi hi hbi.1,hbi.2⟩
  ·exact hone
 ·intro i li bi hi hli hbi
  rcases hcase i li hli with⟨hil,hne,hli⟩|⟨rfl,rfl⟩
  ·have hbi:CB m i bi:=⟨hold i bi hil hbi.1,hbi.2⟩
   obtain⟨h1,h2,c',e',h3,h4⟩:=r.rel.own i li bi hi hli hbi;exact⟨h1,h2,c',e',by rw[hheap _ (hfar i li bi hne hli hbi.1)];exact h3,h4⟩
  ·obtain rfl:=hnew bi hbi.1
   exact⟨hB0,by simp only;omega,arr,e,hat,by simp only;omega⟩
 ·intro i bi hi hbi
  have:=r.n0;exact r.rel.ro i bi hi (hold i bi (by omega) hbi)
 ·intro i j li lj bi bj hi hj hli hlj hbi hbj he
  rcases hcase i li hli with⟨h1,h1',h2⟩|⟨h1,h2⟩<;>rcases hcase j lj hlj with⟨h3,h3',h4⟩|⟨h3,h4⟩
  ·exact r.rel.inj i j li lj bi bj hi hj h2 h4 (hold _ _ h1 hbi) (hold _ _ h3 hbj) he
  ·subst h3;subst h4
   rw[hnew bj hbj] at he;exact absurd he (hfar i li bi h1' h2 (hold _ _ h1 hbi))
  ·subst h1;subst h2
   rw[hnew bi hbi] at he;exact absurd he.symm (hfar j lj bj h3' h4 (hold _ _ h3 hbj))
  ·rw[h1,h3]
 ·intro i li bi hli hbi
  rcases hcase i li hli with⟨hi,hne,hli⟩|⟨rfl,rfl⟩
  ·have hbi:MB m i bi:=⟨hold i bi hi hbi.1,hbi.2⟩
   obtain⟨h1,h2,es,ck,h3,h4⟩:=r.rel.mp i li bi hli hbi;exact⟨h1,h2,es,ck,by rw[hheap _ (hfar i li bi hne hli hbi.1)];exact h3,h4.mono hm⟩
  ·have h1:=hbi.2
   rw[hnew bi hbi.1] at h1;have h2:=hb.2;simp only at h1;rw[h1] at h2;cases h2
 ·intro i bi hbi
  by_cases hi:i=h.length
  ·subst hi;simp[hkl]
  ·have:mset m h.length ⟨b.b,b.off+o,b.room - o,b.mp⟩ i=m i:=by simp[mset,hi]
   rw[this] at hbi;have:=r.dom i bi hbi;simp[hkl];omega
 ·intro i hi
  simp only[mset];rw[if_neg (by omega)]
 ·intro x hx hnx
  exact hheap x (fun hxb=>hnx id l b hid hl hb.1 hxb.symm)
 ·intro i bi hi hbi
  by_cases hi':i=h.length
  ·subst hi';rw[hnew bi hbi];exact .inr ⟨id,l,b,hid,hl,hb.1,rfl⟩
  ·have:mset m h.length ⟨b.b,b.off+o,b.room - o,b.mp⟩ i=m i:=by simp[mset,hi']
   rw[this] at hbi;have:=r.dom i bi hbi;omega
 ·intro i hi hh
  rw[V5 (by rw[hkl];exact hi),kill,M1];split
  ·rename_i he;subst he
   rcases hh with hh|hh
   ·rw[hb.1] at hh;cases hh
   ·rw[hid] at hh;cases hh
  ·rfl
 ·intro i hi hbi
  rw[jcA _ (by rw[hkl];exact hi)]
  cases hc':blk (kill h id) i with
  |none=>rfl
  |some li=>
   obtain⟨_,h1⟩:=jbW hc';rw[h1] at hbi;cases hbi
theorem jt7 (r:Rels n0 B0 m h w){id:Nat}(hid:fl id=true)(hm:m id≠none):Post n0 B0 fl m h w m (kill h id) w:=by
 have hkl:(kill h id).length=h.length:=by simp[kill]
 refine⟨⟨⟨r.rel.base,r.rel.lt,fun i li bi hli=>r.rel.cell i li bi (jbW hli).2,fun i li bi hli=>r.rel.one i li bi (jbW hli).2,fun i li bi hi hli=>r.rel.own i li bi hi (jbW hli).2,r.rel.ro,
  fun i j li lj bi bj hi hj hli hlj=>r.rel.inj i j li lj bi bj hi hj (jbW hli).2 (jbW hlj).2,fun i li bi hli=>r.rel.mp i li bi (jbW hli).2,r.rel.gl⟩,by rw[hkl];exact r.dom,by rw[hkl];exact r.n0⟩,by rw[hkl];exact V2 _,fun _ _=>rfl,rfl,rfl,rfl,V2 _,fun _ _ _=>rfl,?_,?_,?_,fun i h1 h2=>absurd h2 (by rw[hkl];omega)⟩
 ·intro i bi hi hbi
  have:=r.dom i bi hbi;omega
 ·intro i hi hh
  rw[kill,M1];split
  ·rename_i he;subst he
   rcases hh with hh|hh
   ·exact absurd hh hm
   ·rw[hid] at hh;cases hh
  ·rfl
 ·intro i hi hbi
  cases hc':blk (kill h id) i with
  |none=>rfl
  |some li=>
   obtain⟨_,h1⟩:=jbW hc';rw[h1] at hbi;cases hbi
theorem jeZ (w:World)(need old:Nat)(e:TypeId):need≤grownCap w need old e:=by
 simp only[grownCap,Question.cut];omega
theorem jfl {t e:TypeId}{i:TypeInfo}(hu:P.underlying t=some (.slice e))(hi:P.info? e=some i){b:Addr}{sLen sCap n c:Nat}{a:Addr}{news:List Value}{w':World}
  (hl:news.length=n*i.size) (hnews: ∀(j:Nat) v,news[j]?=some v→w.cell? (a.add j)=some v) (hg:sLen+n≤sCap) (hst:(storeCells (b.add (sLen*i.size)) news).run P w= .ok () w'):
  (Builtin.append_ #[t,t] ty #[.slice (some b) sLen sCap,.slice (some a) n c]).run P w= .ok (.slice (some b) (sLen+n) sCap) w':=by
 have hf:=run_firstCells_some (P:=P) w i.size n a n c news hl hnews;simp[Builtin.append_,jak hu,sizeOf,typeInfo,hi,Builtin.lenOf,hg,hf,hst]
theorem jq8 (r:Rels n0 B0 m h w)(hfl: ∀id,fl id=true→n0≤id){t:TypeId}{k bytes:Nat}{zs:List AV}(ht:jfU P t=some (k,bytes,zs))(hx:VR m (x'.ev s) (ρ x))(hy:VR m (y'.ev s) (ρ y)){v:AV}{h':Heap}{top}(he:jah top fl s h (.append k bytes x' y')=some (v,h')):
  Sim P n0 B0 fl m h w ρ ⟨d,.call { callee:= .builtin .append,args:= #[x,y],argTypes:= #[t,t] },ty,pos,af,gd⟩ v h':=by
 obtain⟨e,i,hu,hi,hk,hby,hk0,hb0,hz,hzl⟩:=jdB ht;have hsz:jco P e=some k:=by simp[jco,hi,hk]
 obtain⟨zv,hz0,hzz⟩: ∃zv,i.zero=some zv∧zv.cells.size=k:=by
  unfold jig at hz;rw[hi] at hz;simp only at hz;split at hz
  ·rename_i v hv
   unfold plains at hz;split at hz
   ·injection hz with hz
    refine⟨v,hv,?_⟩;rw[←hzl,← hz];simp
   ·cases hz
  ·cases hz
 have hrun: ∀(f:Result Value),(Builtin.append_ #[t,t] ty #[ρ x,ρ y]).run P w=f→(execOp ρ ⟨d,.call { callee:= .builtin .append,args:= #[x,y],argTypes:= #[t,t] },ty,pos,af,gd⟩).run P w=f.andThen fun v w'=> .ok (.value v) w':=by
  intro f hf;rw[jbm (f:=Builtin.append_ #[t,t] ty #[ρ x,ρ y]) (by simp[builtin]),hf]
 simp only[jah] at he;split at he
 ·rename_i n cs hrow
  have hrow':=jez r.rel hrow hy;unfold jcs at he;split at he
  ·rename_i hn0
   subst hn0;have hy0:ρ y= .slice none 0 0∨ ∃ad c,ρ y= .slice (some ad) 0 c:=by
    rcases hrow' with⟨_,_,h1|h1⟩|⟨ad,c,vs,h1,_⟩
    ·exact .inl h1
    ·exact .inr h1
    ·exact .inr ⟨ad,c,h1⟩
   have hld: ∀ad:Addr,(loadCells ad 0).run P w= .ok #[] w:=fun ad=>by
    simpa using run_loadCells_list (P:=P) w ad [] (fun j v hj=>by simp at hj)
   split at he
   ·rename_i hp
    rw[hp] at hx;injection he with he;injection he with he1 he2;subst he1;subst he2
    refine jaw r (v':= .slice none 0 0) ?_ (by rw[hp];exact .val rfl);rw[hrun (.ok (.slice none 0 0) w) ?_]
    ·rfl
    ·rcases hy0 with hy0|⟨ad,c,hy0⟩<;>
     simp[Builtin.append_,jak hu,jas hsz,Builtin.lenOf,hx.lit,hy0,Builtin.firstCells,hld]
   ·rename_i hp
    injection he with he;injection he with he1 he2;subst he1;subst he2
    have hx0:=hx;rw[hp] at hx;generalize hqx:ρ x=xv at hx hrun hx0
    cases hx with
    |hole=>
     rename_i ad c;refine jaw r (v':= .slice (some ad) 0 c) ?_ hx0;rw[hrun (.ok (.slice (some ad) 0 c) w) ?_]
     ·rfl
     ·rcases hy0 with hy0|⟨ad',c',hy0⟩<;>
      simp[Builtin.append_,jak hu,jas hsz,Builtin.lenOf,hy0,Builtin.firstCells,hld,storeCells]
   ·rename_i id off len lb ex k' hp
    injection he with he;injection he with he1 he2;subst he1;subst he2
    have hx0:=hx;rw[hp] at hx;generalize hqx:ρ x=xv at hx hrun hx0
    cases hx with
    |slice hb ho hh1 hh2 hh3 hh4=>
     rename_i b o c;refine jaw r (v':= .slice (some ⟨b.b,b.off+o,none⟩) len c) ?_ hx0;have hle:len≤c:=V3 hh1 hh2;rw[hrun (.ok (.slice (some ⟨b.b,b.off+o,none⟩) len c) w) ?_]
     ·rfl
     ·rcases hy0 with hy0|⟨ad,c,hy0⟩<;>
      simp[Builtin.append_,jak hu,jas hsz,Builtin.lenOf,hy0,Builtin.firstCells,hld,hle,storeCells]
   ·cases he
  ·rename_i hn0
   rcases hrow' with⟨h0,_⟩|⟨ad,cy,vs,hyv,hvl,hvc,hvr,hvo⟩
   ·exact absurd h0 hn0
   ·rw[hyv] at hrun
    split at he
    ·-- a nil slice
     rename_i hp;rw[hp] at hx;split at he
     ·rename_i hreach
      unfold reach at hreach;injection he with he;injection he with he1 he2;subst he1;subst he2
      have hnb:n≤n*bytes:=Y4 _ hb0;have hap:=run_append_nil (P:=P) w t ty e i zv hu hi hz0 ad n cy vs (by rw[hk];exact hvl) hvc (by omega) (by omega) (by rw[hby];omega);have hg:=jeZ w n 0 e;rw[hx.lit] at hrun;have hpa:=jdx (fl:=fl) r.drew cs (vs.toArray++Builtin.zeroCells zv.cells (grownCap w n 0 e - n)) e (grownCap w n 0 e*k) hvo
       (by rw[hvr.1,hvl];exact E9 _ hg)
       (by
        have:n*k+(grownCap w n 0 e - n)*k=grownCap w n 0 e*k:=by rw[←Y0];congr 1;omega
        simp[Builtin.zeroCells,hzz,hvl];omega)
       (fun j a ha => by
        obtain⟨y,hy,hr⟩:=hvr.get ha;refine⟨y,?_,hr⟩;have hlt:=(U0.1 hy).1;rw[G1 (by simpa using hlt)];simpa using hy)
      refine⟨.slice (some ⟨w.heap.size,0,none⟩) n (grownCap w n 0 e),_,_,.inl ?_,hpa.drew,VR.slice (b:=⟨w.heap.size,0,grownCap w n 0 e*k,false⟩) (o:=0) ⟨by simp[mset],rfl⟩ (fun _=>rfl) (V2 _) hg (by simp) (by simp)⟩;rw[hrun _ hap];rfl
     ·cases he
    ·rename_i id off len lb ex k' hp
     have hx0:=hx;rw[hp] at hx;generalize hqx:ρ x=xv at hx hrun hx0
     cases hx with
     |slice hb ho hh1 hh2 hh3 hh4=>
      rename_i b o c;split at he
      ·rename_i hcond
       obtain⟨hkk,hreach⟩:=hcond;have hkk:=hkk.symm;subst hkk;unfold reach at hreach;have hnb:len+n≤(len+n)*bytes:=Y4 _ hb0;split at he
       ·-- room enough, for sure
        rename_i hroom;split at he
        ·rename_i h1 hw
         injection he with he;injection he with he1 he2;subst he1;subst he2
         have:=ho (by omega);subst this;obtain⟨w',h2,h3⟩:=jiy (P:=P) r hfl hb hvr hvo hw;have hap:=jfl (P:=P) (w:=w) (ty:=ty) (b:=⟨b.b,b.off+o,none⟩) (sLen:=len) (sCap:=c) (n:=n) (c:=cy) (a:=ad) (news:=vs) (w':=w') hu hi (by rw[hk];exact hvl) hvc (by omega) (by rw[jei,hk,V4];exact h2);refine⟨.slice (some ⟨b.b,b.off+o,none⟩) (len+n) c,w',m,.inl ?_,h3,.slice hb (fun _=>rfl) hroom hh2 hh3 hh4⟩;rw[hrun _ hap];rfl
        ·cases he
       ·rename_i hroom
        split at he
        ·rename_i old hold
         -- what was there
         obtain⟨l,us,hl,hol,hul,huc,hur,huo⟩: ∃l us,blk h id=some l∧old.length=len*k∧us.length=len*k∧(∀(j:Nat) v,us[j]?=some v→w.cell? ((⟨b.b,b.off+o,none⟩:Addr).add j)=some v)∧VRs m old us∧ ∀x∈old,x.isCell=true:=by
          unfold rd at hold;split at hold
          ·rename_i l hl
           split at hold
           ·rename_i hn
            injection hold with hold
            by_cases hl0:lb=0
            ·obtain rfl:len=0:=by omega
             simp at hold;subst hold;exact⟨l,[],hl,by simp,by simp,fun j v hj=>by simp at hj,.nil,fun x hx=>by simp at hx⟩
            ·have:=ho hl0
             subst this;obtain⟨us,h5,h6,h7⟩:=jgt r.rel hl hb hn;subst hold;exact⟨l,us,hl,by simp;omega,h5,h6,h7,fun x hx=>r.rel.one id l b hl hb x (M7 (M6 hx))⟩
           ·cases hold
          ·cases hold
         have hoc: ∀x∈old++cs,x.isCell=true:=fun x hx=>by
          rcases O3.1 hx with hx|hx
          ·exact huo x hx
          ·exact hvo x hx
         have hgrow:c<len+n→ ∃w',Yield ((execOp ρ ⟨d,.call { callee:= .builtin .append,args:= #[x,y],argTypes:= #[t,t] },ty,pos,af,gd⟩).run P w) (.slice (some ⟨w.heap.size,0,none⟩) (len+n) (grownCap w (len+n) c e)) w'∧
           ∀hh:Heap,Rels n0 B0 m hh w→Post n0 B0 fl m hh w (mset m hh.length ⟨w.heap.size,0,grownCap w (len+n) c e*k,false⟩) (hh++[some (old++cs)]) w':=by
          intro hlt;have hap:=run_append_grow (P:=P) w t ty e i zv hu hi hz0 ⟨b.b,b.off+o,none⟩ len c us (by rw[hk];exact hul) huc ad n cy vs (by rw[hk];exact hvl) hvc hlt (by omega) (growslice_fits hlt (by rw[hby];omega));have hg:=jeZ w (len+n) c e;refine⟨w.drew.alloc (.cells (us.toArray++vs.toArray++Builtin.zeroCells zv.cells (grownCap w (len+n) c e - (len+n))) e),.inl ?_,fun hh hr=>?_⟩
          ·rw[hrun _ hap];rfl
          ·have hrr:=hur.append hvr
           have hpa:=jdx (fl:=fl) hr.drew (old++cs) (us.toArray++vs.toArray++Builtin.zeroCells zv.cells (grownCap w (len+n) c e - (len+n))) e (grownCap w (len+n) c e*k) hoc
            (by
             have:=E9 k hg;rw[Y0] at this;rw[G3,hol,hvr.1,hvl];exact this)
            (by
             have:(len+n)*k+(grownCap w (len+n) c e - (len+n))*k=grownCap w (len+n) c e*k:=by rw[←Y0];congr 1;omega
             rw[Y0] at this;simp[Builtin.zeroCells,hzz,hvl,hul];omega)
            (fun j a ha => by
             obtain⟨y,hy,hr⟩:=hrr.get ha;refine⟨y,?_,hr⟩;have hlt:=(U0.1 hy).1;rw[G1 (by simpa using hlt)];simpa using hy)
           exact hpa.drew
         split at he
         ·-- no room, for sure
          rename_i hex;injection he with he;injection he with he1 he2;subst he1;subst he2
          have hceq:=hh3 hex;obtain⟨w',hy1,hp1⟩:=hgrow (by omega);exact⟨_,w',_,hy1,hp1 h r,VR.slice (b:=⟨w.heap.size,0,grownCap w (len+n) c e*k,false⟩) (o:=0) ⟨by simp[mset],rfl⟩ (fun _=>rfl) (V2 _) (jeZ _ _ _ _) (by simp) (by simp)⟩
         ·split at he
          ·rename_i hid
           injection he with he;injection he with he1 he2;subst he1;subst he2
           by_cases hlt:c<len+n
           ·obtain⟨w',hy1,hp1⟩:=hgrow hlt
            have pk:=jt7 (fl:=fl) r hid (by rw[hb.1];simp);have hkl:(kill h id).length=h.length:=by simp[kill]
            have pa:=hp1 (kill h id) pk.rels;rw[hkl] at pa;exact⟨_,w',_,hy1,pk.trans r.dom pa,VR.slice (b:=⟨w.heap.size,0,grownCap w (len+n) c e*k,false⟩) (o:=0) ⟨by simp[mset],rfl⟩ (fun _=>rfl) (V2 _) (jeZ _ _ _ _) (by simp) (by simp)⟩
           ·-- in place
            obtain⟨h1,h2,cur,e',h3,h4⟩:=r.rel.own id l b (hfl id hid) hl hb;have hcy:=hvr.1;have hmc:(len+n)*k≤c*k:=E9 _ (by omega);rw[Y0] at hmc;have hone: ∀v∈vs,v.oneCell'=true:=fun v hv=>by
             obtain⟨i,hi,rfl⟩:=M3 hv;have hi':i<cs.length:=by rw[hvr.1];exact hi
             exact (hvr.2 i _ _ (U1 hi') (U1 hi)).oneCell (hvo _ (M4 _))
            have hst:=run_storeCells_at P b.b (b.off+o+len*k) e' vs 0 cur w h3 (by omega) hone;simp only[M5] at hst;have hap:=jfl (P:=P) (w:=w) (ty:=ty) (b:=⟨b.b,b.off+o,none⟩) (sLen:=len) (sCap:=c) (n:=n) (c:=cy) (a:=ad) (news:=vs) hu hi (by rw[hk];exact hvl) hvc (by omega) (by rw[jei,hk];exact hst);have ps := jrd (fl := fl) r hfl hid hl hb h3 (old ++ cs) hoc o (by rw [G3, hol, hcy, hvl]; omega) _ (by
             have e2:(Q4 (b.off+o+len*k) cur.toList).length=b.off+o+len*k:=by simp;omega
             have:(cur.toList.take (b.off+o+len*k)++vs++cur.toList.drop (b.off+o+len*k+vs.length)).toArray.size=cur.size:=by simp;omega
             exact this) (fun j a ha => by
             have e2:(Q4 (b.off+o+len*k) cur.toList).length=b.off+o+len*k:=by simp;omega
             by_cases hj:j<len*k
             ·rw[V5 (by omega)] at ha
              obtain⟨y,hy,hr⟩:=hur.get ha;have hcell:=huc j y hy;rw[jei] at hcell;refine⟨y,?_,hr⟩;rw[M9,jfK,e2,if_pos (by omega),O8,if_pos (by omega)];simpa[V1,h3] using hcell
             ·rw[N0 (by omega),hol] at ha
              obtain⟨y,hy,hr⟩:=hvr.get ha;refine⟨y,?_,hr⟩;have hlt2:=(U0.1 hy).1;rw[M9,jfK,e2,if_neg (by omega),if_pos (by omega),show b.off+o+j - (b.off+o+len*k)=j - len*k by omega];exact hy) _ rfl
            refine⟨.slice (some ⟨b.b,b.off+o,none⟩) (len+n) c,_,_,.inl ?_,ps,?_⟩
            ·rw[hrun _ hap];rfl
            ·have:=VR.slice (m:=mset m h.length ⟨b.b,b.off+o,b.room - o,b.mp⟩) (id:=h.length) (off:=0) (len:=len+n) (lb:=len+n) (ex:=false) (k:=k) (b:=⟨b.b,b.off+o,b.room - o,b.mp⟩) (o:=0) (c:=c) ⟨by simp[mset],hb.2⟩ (fun _=>rfl) (V2 _) (by omega) (by simp) (by simp only;omega)
             simpa using this
          ·cases he
        ·cases he
      ·cases he
    ·cases he
 ·cases he
end
end
section
open Go
section
variable {n0 B0:Nat}{P:Program}{m:Map}{h:Heap}{w:World}{fl:Nat→Bool}
variable {ρ:Operand→Value}{s:jal}{x y z:Operand}{x' y' z':Opd}{d:Option Tmp}{ty:TypeId}{pos:String}{af:Array Edge}{gd:Option (Nat×Bool)}
theorem MpE.nil:MpE m [] []:=⟨rfl,fun i a e h=>by simp at h⟩
theorem MpE.cons_inv {a:AV}{l:List AV}{es:List MapEntry}(h:MpE m (a::l) es): ∃e r k v,es=e::r∧a= .tuple [.val (.int .i64 k),v]∧e.key= .int .i64 k∧VR m v e.val∧MpE m l r:=by
 cases es with
 |nil=>have:=h.1;simp at this
 |cons e r=>
  obtain⟨k,v,h1,h2,h3⟩:=h.2 0 a e rfl rfl;exact⟨e,r,k,v,rfl,h1,h2,h3,by have:=h.1;simpa using this,fun i b f hb hf=>h.2 (i+1) b f (by simpa using hb) (by simpa using hf)⟩
theorem MpE.cons {l:List AV}{es:List MapEntry}{e:MapEntry}{k:Int}{v:AV}(h:MpE m l es)(h2:e.key= .int .i64 k)(h3:VR m v e.val):MpE m (.tuple [.val (.int .i64 k),v]::l) (e::es):=by
 refine⟨by simp[h.1],fun i a f ha hf=>?_⟩
 cases i with
 |zero=>simp at ha hf;subst ha;subst hf;exact⟨k,v,rfl,h2,h3⟩
 |succ i=>exact h.2 i a f (by simpa using ha) (by simpa using hf)
theorem jgG (n:Int): ∀{l:List AV} {es:List MapEntry} (i:Nat),MpE m l es→
  (Instr.findNow (.int .i64) (.int .i64 n) es i=some none∧jhH l n=none∧(∀v u b,VR m v u→MpE m (mput l n v) (es++[⟨.int .i64 n,u,b⟩]))∧mdel l n=l)∨
  ∃j e v,Instr.findNow (.int .i64) (.int .i64 n) es i=some (some (i+j,e.val))∧es[j]?=some e∧e.key= .int .i64 n∧jhH l n=some v∧VR m v e.val∧(∀v u,VR m v u→MpE m (mput l n v) (es.modify j fun e=>{ e with key:= .int .i64 n,val:=u }))∧MpE m (mdel l n) (es.eraseIdx j)
 |[],es,i,h=>by
  have:es=[]:=Y9 (by have:=h.1;simpa using this.symm);subst this;exact .inl ⟨rfl,rfl,fun v u b hv=>MpE.nil.cons rfl hv,rfl⟩
 |a::l,es,i,h=>by
  obtain⟨e,r,k,v,rfl,rfl,hk,hv,ht⟩:=h.cons_inv;have hs:Instr.sameNow (.int .i64) (.int .i64 n) e.key=some (n==k):=by rw[hk];simp[Instr.sameNow]
  by_cases hnk:n=k
  ·subst hnk
   right;refine⟨0,e,v,?_,rfl,hk,?_,hv,fun v u hvu=>?_,?_⟩
   ·simp[Instr.findNow,hs]
   ·simp[jhH]
   ·simp only[mput,if_true]
    show MpE m _ ({ e with key:= .int .i64 n,val:=u }::r);exact ht.cons rfl hvu
   ·simp only[mdel,if_true];exact ht
  ·have hb:(n==k)=false:=by simpa using hnk
   rw[hb] at hs;rcases jgG n (i+1) ht with⟨h1,h2,h3,h4⟩|⟨j,f,u,h1,h2,h3,h4,h5,h6,h7⟩
   ·left
    refine⟨by simp[Instr.findNow,hs,h1],by simp[jhH,hnk,h2],fun v' u b hvu=>?_,by simp[mdel,hnk,h4]⟩;simp only[mput,if_neg hnk,N9];exact (h3 v' u b hvu).cons hk hv
   ·right
    refine⟨j+1,f,u,by simp[Instr.findNow,hs,h1];omega,by simpa using h2,h3,by simp[jhH,hnk,h4],h5,fun v' u' hvu=>?_,?_⟩
    ·simp only[mput,if_neg hnk,G4]
     exact (h6 v' u' hvu).cons hk hv
    ·simp only[mdel,if_neg hnk,List.eraseIdx_cons_succ]
     exact h7.cons hk hv
theorem jcZ (r:Rels n0 B0 m h w){id:Nat}{l:List AV}{b:Base}(hid:fl id=true)(hl:blk h id=some l)(hb:MB m id b)(l':List AV){es:Array MapEntry}{ck:Nat}(hE:MpC m l' es ck):
  Post n0 B0 fl m h w m (h.set id (some l')) { w with heap:=w.heap.setIfInBounds b.b (.map es ck) }:=by
 obtain⟨w',hw⟩: ∃w':World,w'={ w with heap:=w.heap.setIfInBounds b.b (.map es ck) }:=⟨_,rfl⟩;rw[←hw];have hlt:=jcm hl;obtain⟨hn,hB,es0,ck0,hc,hE0⟩:=r.rel.mp id l b hl hb;have hbl:=r.rel.lt id b hb.1;have hheap: ∀k,k≠b.b→w'.heap[k]?=w.heap[k]?:=fun k hk=>by
  rw[hw];simp[G5,Ne.symm hk]
 have hat:w'.heap[b.b]?=some (.map es ck):=by
  rw[hw];simp[G5,hbl]
 have hsize:w'.heap.size=w.heap.size:=by rw[hw];simp
 have hcell: ∀k o,k≠b.b→w'.cell? ⟨k,o,none⟩=w.cell? ⟨k,o,none⟩:=fun k o hk=>by
  simp only[V1,hheap k hk]
 have hcase: ∀i li,blk (h.set id (some l')) i=some li→(i≠id∧blk h i=some li)∨(i=id∧li=l'):=fun i li hli=>by
  rw[jdE,M1] at hli;split at hli
  ·rename_i he
   subst he;injection hli with hli;injection hli with hli
   exact .inr ⟨rfl,hli.symm⟩
  ·rename_i he
   exact .inl ⟨fun h=>he h.symm,jdE.2 hli⟩
 have hfar: ∀i li bi,i≠id→blk h i=some li→m i=some bi→bi.b≠b.b:=fun i li bi hne hli hbi he=>by
  by_cases hi:n0≤i
  ·exact hne (r.rel.inj i id li l bi b hi hn hli hl hbi hb.1 he)
  ·have h1:=r.rel.ro i bi (by omega) hbi
   omega
 have hsame: ∀bi,m id=some bi→bi=b:=fun bi hbi=>by rw[hb.1] at hbi;injection hbi with hbi;exact hbi.symm
 refine⟨⟨⟨by rw[hsize];exact r.rel.base,fun i bi hbi=>by rw[hsize];exact r.rel.lt i bi hbi,?_,?_,?_,r.rel.ro,?_,?_,r.rel.gl.keep (V2 _) fun x hx=>hheap x (by omega)⟩,?_,by simpa using r.n0⟩,by simp,fun _ _=>rfl,by rw[hw],by rw[hw],by rw[hw],by rw[hsize];exact V2 _,?_,?_,?_,?_,fun id h1 h2=>absurd h2 (by simp;omega)⟩
 ·intro i li bi hli hbi j v hv
  rcases hcase i li hli with⟨hne,hli⟩|⟨rfl,rfl⟩
  ·rw[hcell _ _ (hfar i li bi hne hli hbi.1)]
   exact r.rel.cell i li bi hli hbi j v hv
  ·have h1:=hbi.2
   rw[hsame bi hbi.1,hb.2] at h1;cases h1
 ·intro i li bi hli hbi
  rcases hcase i li hli with⟨hne,hli⟩|⟨rfl,rfl⟩
  ·exact r.rel.one i li bi hli hbi
  ·have h1:=hbi.2
   rw[hsame bi hbi.1,hb.2] at h1;cases h1
 ·intro i li bi hi hli hbi
  rcases hcase i li hli with⟨hne,hli⟩|⟨rfl,rfl⟩
  ·obtain⟨h1,h2,c',e',h3,h4⟩:=r.rel.own i li bi hi hli hbi
   exact⟨h1,h2,c',e',by rw[hheap _ (hfar i li bi hne hli hbi.1)];exact h3,h4⟩
  ·have h1:=hbi.2
   rw[hsame bi hbi.1,hb.2] at h1;cases h1
 ·intro i j li lj bi bj hi hj hli hlj hbi hbj he
  have jn3: ∀i li,blk (h.set id (some l')) i=some li→ ∃l0,blk h i=some l0:=fun i li hli=>by
   rcases hcase i li hli with⟨_,h1⟩|⟨rfl,_⟩
   ·exact⟨_,h1⟩
   ·exact⟨_,hl⟩
  obtain⟨l1,h1⟩:=jn3 i li hli;obtain⟨l2,h2⟩:=jn3 j lj hlj;exact r.rel.inj i j l1 l2 bi bj hi hj h1 h2 hbi hbj he
 ·intro i li bi hli hbi
  rcases hcase i li hli with⟨hne,hli⟩|⟨rfl,rfl⟩
  ·obtain⟨h1,h2,es,ck,h3,h4⟩:=r.rel.mp i li bi hli hbi
   exact⟨h1,h2,es,ck,by rw[hheap _ (hfar i li bi hne hli hbi.1)];exact h3,h4⟩
  ·rw[hsame bi hbi.1]
   exact⟨hn,hB,es,ck,hat,hE⟩
 ·intro i bi hbi;simpa using r.dom i bi hbi
 ·intro x hx hn
  exact hheap x (fun hxb=>hn id l b hid hl hb.1 hxb.symm)
 ·intro i bi hi hbi
  have:=r.dom i bi hbi;omega
 ·intro i hi hh
  rw[M1];split
  ·rename_i he;subst he
   rcases hh with hh|hh
   ·rw[hb.1] at hh;cases hh
   ·rw[hid] at hh;cases hh
  ·rfl
 ·intro i hi hbi
  cases hc':blk (h.set id (some l')) i with
  |none=>rfl
  |some li=>
   rcases hcase i li hc' with⟨_,h1⟩|⟨rfl,_⟩
   ·rw[h1] at hbi;cases hbi
   ·rw[hl] at hbi;cases hbi
theorem jhu (r:Rels n0 B0 m h w){l0:List AV}(hl0: ∀m':Map,MpB m' l0 []):Post n0 B0 fl m h w (mset m h.length ⟨w.heap.size,0,0,true⟩) (h++[some l0]) (w.alloc (.map #[] 0)):=by
 have hm: ∀id b,m id=some b→mset m h.length ⟨w.heap.size,0,0,true⟩ id=some b:=fun id b hb=>by
  have:=r.dom id b hb;simp only[mset];rw[if_neg (by omega)];exact hb
 have hold: ∀id b,id<h.length→mset m h.length ⟨w.heap.size,0,0,true⟩ id=some b→m id=some b:=fun id b hi hb=>by
  simp only[mset] at hb;rw[if_neg (by omega)] at hb;exact hb
 have hnew: ∀b,mset m h.length ⟨w.heap.size,0,0,true⟩ h.length=some b→b=⟨w.heap.size,0,0,true⟩:=fun b hb=>by simp[mset] at hb;exact hb.symm
 have hcase: ∀id l,blk (h++[some l0]) id=some l→(id<h.length∧blk h id=some l)∨(id=h.length∧l=l0):=fun id l hl=>by
  by_cases hi:id<h.length
  ·rw[jcA _ hi] at hl;exact .inl ⟨hi,hl⟩
  ·have:=jcm hl
   simp at this;obtain rfl:id=h.length:=by omega
   rw[jbk] at hl;exact .inr ⟨rfl,by injection hl with hl;exact hl.symm⟩
 have hheap: ∀k,k<w.heap.size→(w.alloc (.map #[] 0)).heap[k]?=w.heap[k]?:=fun k hk=>by
  show (w.heap.push _)[k]?=_;rw[V6 hk,V7 hk]
 refine⟨⟨⟨by have:=r.rel.base;simp;omega,?_,?_,?_,?_,?_,?_,?_,r.rel.gl.keep (V2 _) fun x hx=>hheap x (V0 hx r.rel.base)⟩,?_,by simp;have:=r.n0;omega⟩,by simp,?_,rfl,rfl,rfl,by simp,fun x hx _=>hheap x hx,?_,?_,?_,?_⟩
 ·intro id b hb
  by_cases hi:id=h.length
  ·subst hi;rw[hnew b hb];simp
  ·have:mset m h.length ⟨w.heap.size,0,0,true⟩ id=m id:=by simp[mset,hi]
   rw[this] at hb;have:=r.rel.lt id b hb;simp;omega
 ·intro id l b hl hb i v hv
  rcases hcase id l hl with⟨hi,hl⟩|⟨rfl,rfl⟩
  ·have hb:=(⟨hold id b hi hb.1,hb.2⟩:CB m id b)
   obtain⟨v',h1,h2⟩:=r.rel.cell id l b hl hb i v hv;exact⟨v',by rw[V8 _ _ _ (r.rel.lt id b hb.1)];exact h1,h2.mono hm⟩
  ·have h1:=hb.2
   rw[hnew b hb.1] at h1;cases h1
 ·intro id l b hl hb
  rcases hcase id l hl with⟨hi,hl⟩|⟨rfl,rfl⟩
  ·exact r.rel.one id l b hl ⟨hold id b hi hb.1,hb.2⟩
  ·have h1:=hb.2
   rw[hnew b hb.1] at h1;cases h1
 ·intro id l b hid hl hb
  rcases hcase id l hl with⟨hi,hl⟩|⟨rfl,rfl⟩
  ·have hb:=(⟨hold id b hi hb.1,hb.2⟩:CB m id b)
   obtain⟨h1,h2,c,e',h3,h4⟩:=r.rel.own id l b hid hl hb;exact⟨h1,h2,c,e',by rw[hheap _ (r.rel.lt id b hb.1)];exact h3,h4⟩
  ·have h1:=hb.2
   rw[hnew b hb.1] at h1;cases h1
 ·intro id b hid hb
  have:=r.n0;exact r.rel.ro id b hid (hold id b (by omega) hb)
 ·intro i j li lj bi bj hi hj hli hlj hbi hbj he
  rcases hcase i li hli with⟨h1,h2⟩|⟨h1,h2⟩<;>rcases hcase j lj hlj with⟨h3,h4⟩|⟨h3,h4⟩
  ·exact r.rel.inj i j li lj bi bj hi hj h2 h4 (hold _ _ h1 hbi) (hold _ _ h3 hbj) he
  ·subst h3;subst h4
   rw[hnew bj hbj] at he;have:=r.rel.lt i bi (hold _ _ h1 hbi);simp at he;omega
  ·subst h1;subst h2
   rw[hnew bi hbi] at he;have:=r.rel.lt j bj (hold _ _ h3 hbj);simp at he;omega
  ·rw[h1,h3]
 ·intro id l b hl hb
  rcases hcase id l hl with⟨hi,hl⟩|⟨rfl,rfl⟩
  ·have hb:=(⟨hold id b hi hb.1,hb.2⟩:MB m id b)
   obtain⟨h1,h2,es,ck,h3,h4⟩:=r.rel.mp id l b hl hb;exact⟨h1,h2,es,ck,by rw[hheap _ (r.rel.lt id b hb.1)];exact h3,h4.mono hm⟩
  ·rw[hnew b hb.1]
   exact⟨r.n0,r.rel.base,#[],0,by show (w.heap.push _)[w.heap.size]?=_;simp,hl0 _,jej.nil⟩
 ·intro id b hb
  by_cases hi:id=h.length
  ·subst hi;simp
  ·have:mset m h.length ⟨w.heap.size,0,0,true⟩ id=m id:=by simp[mset,hi]
   rw[this] at hb;have:=r.dom id b hb;simp;omega
 ·intro id hid
  simp only[mset];rw[if_neg (by omega)]
 ·intro id b hid hb
  by_cases hi:id=h.length
  ·subst hi;rw[hnew b hb];exact .inl (V2 _)
  ·have:mset m h.length ⟨w.heap.size,0,0,true⟩ id=m id:=by simp[mset,hi]
   rw[this] at hb;have:=r.dom id b hb;omega
 ·intro id hid _
  rw[V5 hid]
 ·intro id hid hb
  rw[jcA _ hid];exact hb
 ·intro id h1 h2
  obtain rfl:id=h.length:=by simp at h2;omega
  simp[mset]
theorem jos (r:Rels n0 B0 m h w):Post n0 B0 fl m h w (mset m h.length ⟨w.heap.size,0,0,true⟩) (h++[some []]) (w.alloc (.map #[] 0)):=jhu r fun _=> .inl MpE.nil
theorem jmV (r:Rels n0 B0 m h w){kd:Bool}:Post n0 B0 fl m h w (mset m h.length ⟨w.heap.size,0,0,true⟩) (h++[some [.val (.bool kd)]]) (w.alloc (.map #[] 0)):=jhu r fun _=> .inr ⟨kd,[],rfl,rfl,(fun i a e h=>by simp at h),.nil⟩
end
end
section
open Go
section
variable {n0 B0:Nat}{P:Program}{m:Map}{h:Heap}{w:World}{fl:Nat→Bool}
variable {ρ:Operand→Value}{s:jal}{x y z:Operand}{x' y' z':Opd}{d:Option Tmp}{ty:TypeId}{pos:String}{af:Array Edge}{gd:Option (Nat×Bool)}
theorem jgC {t:TypeId}{zz:AV}(ht:mapT P t=some zz): ∃k e,P.underlying t=some (.map k e)∧P.underlying k=some (.int .i64)∧ ∃zv,(∀w,(zeroValue e).run P w= .ok zv w)∧ ∀m:Map,VR m zz zv:=by
 unfold mapT at ht;split at ht
 ·rename_i k e hu
  split at ht
  ·rename_i i hk hi
   split at ht
   ·rename_i v hv
    exact⟨k,e,hu,hk,v,fun w=>by simp[zeroValue,jcc hi,hv],fun m=>jfp ht⟩
   ·cases ht
  ·cases ht
 ·cases ht
theorem VR.mp_inv {id:Nat}{v:Value}(h:VR m (.mp id) v): ∃b,MB m id b∧v= .map (some b.b):=by cases h with|mp h=>exact⟨_,h,rfl⟩
theorem jtC (r:Rels n0 B0 m h w){t:TypeId}{v:AV}{h':Heap}{top}(he:jah top fl s h .mkMap=some (v,h')):
  Sim P n0 B0 fl m h w ρ ⟨d,.makeMap t none,ty,pos,af,gd⟩ v h':=by
 simp only[jah] at he;injection he with he;injection he with he1 he2;subst he1;subst he2
 refine⟨.map (some w.heap.size),w.alloc (.map #[] 0),mset m h.length ⟨w.heap.size,0,0,true⟩,.inl ?_,jos r,VR.mp (b:=⟨w.heap.size,0,0,true⟩) ⟨by simp[mset],rfl⟩⟩;simp[execOp,Instr.makeMap]
theorem jq5 (r:Rels n0 B0 m h w){t:TypeId}{ok:Bool}{zz:AV}(ht:mapT P t=some zz)(hx:VR m (x'.ev s) (ρ x))(hy:VR m (y'.ev s) (ρ y)){v:AV}{h':Heap}{top}(he:jah top fl s h (.mapGet ok zz x' y')=some (v,h')):
  Sim P n0 B0 fl m h w ρ ⟨d,.lookup t x y ok,ty,pos,af,gd⟩ v h':=by
 obtain⟨k,e,hu,hk,zv,hz,hzr⟩:=jgC ht;simp only[jah] at he;split at he
 ·rename_i id n hp hq
  rw[hp] at hx;rw[hq] at hy;obtain⟨b,hb,hxv⟩:=hx.mp_inv;have hyv:=hy.int;split at he
  ·rename_i l hl
   split at he
   case isFalse=>cases he
   rename_i hkS;obtain⟨_,_,es,ck,hc,hE⟩:=r.rel.mp id l b hl hb;have hg:=MapKept.run_getObj_map (P:=P) hc;have hck:=fun em=>MapKept.run_checkKey (P:=P) (w:=w) (k:= .int .i64 n) hk rfl em 9999
   rcases jgG n 0 (hE.1.int hkS) with⟨h1,h2,_,_⟩|⟨j,f,u,h1,_,_,h2,h3,_,_⟩
   ·have hf:=MapKept.run_findKey (P:=P) (w:=w) hk h1
    rw[h2] at he;injection he with he;injection he with he1 he2;subst he1;subst he2
    refine jaw r (v':=if ok then .tuple #[zv,.bool false] else zv) ?_ ?_
    ·simp[execOp,Instr.lookup,jak hu,hxv,hyv,hg,hck,hf,hz,Result.andThen]
    ·cases ok
     ·exact hzr m
     ·exact VRs.tuple (VRs.cons (hzr m) (VRs.cons (.val rfl) .nil))
   ·have hf:=MapKept.run_findKey (P:=P) (w:=w) hk h1
    rw[h2] at he;injection he with he;injection he with he1 he2;subst he1;subst he2
    refine jaw r (v':=if ok then .tuple #[f.val,.bool true] else f.val) ?_ ?_
    ·simp[execOp,Instr.lookup,jak hu,hxv,hyv,hg,hck,hf,Result.andThen]
    ·cases ok
     ·exact h3
     ·exact VRs.tuple (VRs.cons h3 (VRs.cons (.val rfl) .nil))
  ·cases he
 ·cases he
theorem jq4 (r:Rels n0 B0 m h w){t:TypeId}{zz:AV}(ht:mapT P t=some zz)(hx:VR m (x'.ev s) (ρ x))(hy:VR m (y'.ev s) (ρ y))(hzz:VR m (z'.ev s) (ρ z)){v:AV}{h':Heap}{top}(he:jah top fl s h (.mapSet x' y' z')=some (v,h')):
  Sim P n0 B0 fl m h w ρ ⟨d,.mapUpdate t x y z,ty,pos,af,gd⟩ v h':=by
 obtain⟨k,e,hu,hk,zv,hz,hzr⟩:=jgC ht;simp only[jah] at he;split at he
 ·rename_i id n hp hq
  rw[hp] at hx;rw[hq] at hy;obtain⟨b,hb,hxv⟩:=hx.mp_inv;have hyv:=hy.int;split at he
  ·rename_i l hl
   split at he
   ·rename_i hid'
    obtain⟨hid,hkS⟩:=hid';injection he with he;injection he with he1 he2;subst he1;subst he2
    obtain⟨_,_,es,ck,hc,hE⟩:=r.rel.mp id l b hl hb;have hg:=MapKept.run_getObj_map (P:=P) hc;have hso:=fun o=>MapKept.run_setObj_map (P:=P) o hc
    have hck:=fun em=>MapKept.run_checkKey (P:=P) (w:=w) (k:= .int .i64 n) hk rfl em 9999
    rcases jgG n 0 (hE.1.int hkS) with⟨h1,h2,h4,_⟩|⟨j,f,u,h1,hj,hjk,h2,h3,h5,_⟩
    ·have hf:=MapKept.run_findKey (P:=P) (w:=w) hk h1
     refine⟨undef,_,m,.inr ⟨?_,rfl⟩,jcZ r hid hl hb _ (es:=es.push ⟨.int .i64 n,ρ z,ck⟩) (ck:=ck+1) ⟨.inl (by rw[G6];exact h4 _ _ _ hzz),by rw[G6];exact hE.2.push _ _⟩,VRs.no⟩;simp[execOp,Instr.mapUpdate,jak hu,hxv,hyv,hg,hck,hf,hso,Result.andThen]
    ·have hf:=MapKept.run_findKey (P:=P) (w:=w) hk h1
     have hst:=MapKept.run_keyThatStays (P:=P) (w:=w) (d:= .int .i64) (k:= .int .i64 n) rfl;have hjs:(es[j]?.map (·.key)).getD (.int .i64 n)= .int .i64 n:=by
      have:es[j]?=some f:=by simpa using hj
      rw[this];exact hjk
     refine⟨undef,_,m,.inr ⟨?_,rfl⟩,jcZ r hid hl hb _ (es:=es.modify j fun e=>{ e with key:= .int .i64 n,val:=ρ z }) (ck:=ck) ⟨.inl (by rw[G7];exact h5 _ _ hzz),by rw[G7];exact hE.2.modify _ _ (fun _=>rfl)⟩,VRs.no⟩;simp only[Nat.zero_add] at hf;simp[execOp,Instr.mapUpdate,jak hu,hxv,hyv,hg,hck,hf,hso,Result.andThen,hjs,hst]
   ·cases he
  ·cases he
 ·cases he
theorem jq6 (r:Rels n0 B0 m h w){t u:TypeId}{zz:AV}(ht:mapT P t=some zz)(hx:VR m (x'.ev s) (ρ x))(hy:VR m (y'.ev s) (ρ y)){v:AV}{h':Heap}{top}(he:jah top fl s h (.mapDel x' y')=some (v,h')):
  Sim P n0 B0 fl m h w ρ ⟨d,.call { callee:= .builtin .delete,args:= #[x,y],argTypes:= #[t,u] },ty,pos,af,gd⟩ v h':=by
 obtain⟨k,e,hu,hk,zv,hz,hzr⟩:=jgC ht;simp only[jah] at he;split at he
 ·rename_i id n hp hq
  rw[hp] at hx;rw[hq] at hy;obtain⟨b,hb,hxv⟩:=hx.mp_inv;have hyv:=hy.int;split at he
  ·rename_i l hl
   split at he
   ·rename_i hid'
    obtain⟨hid,hkS⟩:=hid';injection he with he;injection he with he1 he2;subst he1;subst he2
    obtain⟨_,_,es,ck,hc,hE⟩:=r.rel.mp id l b hl hb;have hg:=MapKept.run_getObj_map (P:=P) hc;have hso:=fun o=>MapKept.run_setObj_map (P:=P) o hc
    have hck:=fun em=>MapKept.run_checkKey (P:=P) (w:=w) (k:= .int .i64 n) hk rfl em 9999
    rcases jgG n 0 (hE.1.int hkS) with⟨h1,h2,h4,h5⟩|⟨j,f,q,h1,hj,hjk,h2,h3,h5,h6⟩
    ·have hf:=MapKept.run_findKey (P:=P) (w:=w) hk h1
     rw[h5];refine⟨.tuple #[],_,m,.inl ?_,jcZ r hid hl hb _ (es:=es) (ck:=ck) hE,VRs.no⟩;rw[jbm (f:=Builtin.delete_ #[t,u] ty #[ρ x,ρ y]) (by simp[builtin])];simp[Builtin.delete_,jak hu,hxv,hyv,hg,hck,hf,hso,Result.andThen]
    ·have hf:=MapKept.run_findKey (P:=P) (w:=w) hk h1
     simp only[Nat.zero_add] at hf;refine⟨.tuple #[],_,m,.inl ?_,jcZ r hid hl hb _ (es:=es.eraseIdxIfInBounds j) (ck:=ck) ⟨.inl (by rw[G8];exact h6),by rw[G8];exact hE.2.erase _⟩,VRs.no⟩;rw[jbm (f:=Builtin.delete_ #[t,u] ty #[ρ x,ρ y]) (by simp[builtin])];simp[Builtin.delete_,jak hu,hxv,hyv,hg,hck,hf,hso,Result.andThen]
   ·cases he
  ·cases he
 ·cases he
theorem jmH (r:Rels n0 B0 m h w){t:TypeId}{zz:AV}(ht:mapT P t=some zz)(hx:VR m (x'.ev s) (ρ x)){v:AV}{h':Heap}{top}(he:jah top fl s h (.mapClear x')=some (v,h')):
  Sim P n0 B0 fl m h w ρ ⟨d,.call { callee:= .builtin .clear,args:= #[x],argTypes:= #[t] },ty,pos,af,gd⟩ v h':=by
 obtain⟨k,e,hu,hk,zv,hz,hzr⟩:=jgC ht;simp only[jah] at he;split at he
 ·rename_i id hp
  rw[hp] at hx;obtain⟨b,hb,hxv⟩:=hx.mp_inv;split at he
  ·rename_i l hl
   split at he
   ·rename_i hid'
    obtain⟨hid,hkS⟩:=hid';injection he with he;injection he with he1 he2;subst he1;subst he2
    obtain⟨_,_,es,ck,hc,hE⟩:=r.rel.mp id l b hl hb;have hg:=MapKept.run_getObj_map (P:=P) hc;have hso:=fun o=>MapKept.run_setObj_map (P:=P) o hc
    refine⟨.tuple #[],_,m,.inl ?_,jcZ r hid hl hb _ (es:= #[]) (ck:=ck) ⟨.inl MpE.nil,jej.nil⟩,VRs.no⟩;rw[jbm (f:=Builtin.clear_ #[t] ty #[ρ x]) (by simp[builtin])];simp[Builtin.clear_,jak hu,hxv,hg,hso,Result.andThen]
   ·cases he
  ·cases he
 ·cases he
/-! ### Other keys -/
theorem jm5 {t:TypeId}{kd:Bool}{zz:AV}(ht:mapK P t=some (kd,zz)): ∃k e,P.underlying t=some (.map k e)∧((kd=true∧P.underlying k=some .string)∨(kd=false∧jm0 P k=true))∧ ∃zv,(∀w,(zeroValue e).run P w= .ok zv w)∧ ∀m:Map,VR m zz zv:=by
 unfold mapK at ht;split at ht
 ·rename_i k e hu
  split at ht
  ·rename_i i hi
   split at ht
   ·rename_i v hv
    split at ht
    ·rename_i z hz
     have fin: ∃zv,(∀w,(zeroValue e).run P w= .ok zv w)∧ ∀m:Map,VR m z zv:=⟨v,fun w=>by simp[zeroValue,jcc hi,hv],fun m=>jfp hz⟩;split at ht
     ·rename_i hk
      injection ht with ht;injection ht with h1 h2;subst h1;subst h2
      exact⟨k,e,hu,.inl ⟨rfl,hk⟩,fin⟩
     ·split at ht
      ·rename_i hp
       injection ht with ht;injection ht with h1 h2;subst h1;subst h2
       exact⟨k,e,hu,.inr ⟨rfl,hp⟩,fin⟩
      ·cases ht
     ·cases ht
    ·cases ht
   ·cases ht
  ·cases ht
 ·cases ht
theorem jrj {k:TypeId}(hp:jm0 P k=true){x y:Int}(hx:(Lit.int .i64 x).wf=true)(hy:(Lit.int .i64 y).wf=true): ∃l,keyOf P k (.agg #[.int .i64 x,.int .i64 y])=some l:=by
 unfold jm0 at hp;split at hp
 ·rename_i fs hu
  simp only[U2,decide_eq_true_eq,beq_iff_eq] at hp;obtain⟨⟨⟨⟨⟨h1,h2⟩,h3⟩,h4⟩,h5⟩,h6⟩:=hp;split at h1
  ·rename_i f g hfg
   simp only[U2,bne_iff_ne,ne_eq,beq_iff_eq] at h1;obtain⟨⟨⟨⟨⟨⟨a1,a2⟩,a3⟩,a4⟩,a5⟩,a6⟩,a7⟩:=h1;split at a5
   ·rename_i hf hg
    have hfs:fs= #[f,g]:=by
     apply Array.ext';simpa using hfg
    subst hfs;obtain⟨d,hd⟩: ∃d,P.types.size=d+1:=⟨P.types.size - 1,(Nat.succ_pred_eq_of_pos (Nat.lt_of_le_of_lt (Nat.zero_le _) h5)).symm⟩;refine⟨.string (keyBytes [.int .i64 x,.int .i64 y]),?_⟩;unfold keyOf;rw[hu];simp only[h3,Value.formed,hu,h2,Value.cells,Bool.true_and];simp only[List.size_toArray,Q3,G9,BEq.rfl,if_true];simp only[Program.keyLits,hu,hd,h2,a1,a2,a3,a4,a6,a7,hf,hg,Q3,G9,Array.all,Q7,List.mapM_nil,W1,List.take_succ_cons,List.take_zero,W4,hx,hy];simp[a1,a2,hx,hy];have e1 : (f.name != "_") = true := by simpa using a1
    have e2 : (g.name != "_") = true := by simpa using a2
    simp only[e1,e2]
    rfl
   ·cases a5
  ·cases h1
 ·cases hp
theorem jqp {k:TypeId}{kd:Bool}(h:(kd=true∧P.underlying k=some .string)∨(kd=false∧jm0 P k=true)):Maps.Keyed P k:=by
 rcases h with⟨_,h⟩|⟨_,h⟩
 ·exact Maps.string_keyed h
 ·unfold jm0 at h
  split at h
  ·rename_i fs hu
   simp only[U2,decide_eq_true_eq,beq_iff_eq] at h;obtain⟨⟨⟨⟨⟨h1,h2⟩,h3⟩,h4⟩,h5⟩,h6⟩:=h;exact Maps.Keyed.of_law (deep_law_laid h6 (m:=P.types.size+1) (by omega) h5 h3 (by rw[hu]))
  ·cases h
theorem jg9 {k:TypeId}{kd:Bool}(h:(kd=true∧P.underlying k=some .string)∨(kd=false∧jm0 P k=true)){a:AV}{v:Value}(hk:jiS kd a v): ∃l,keyOf P k v=some l:=by
 rcases h with⟨rfl,h⟩|⟨rfl,h⟩
 ·obtain⟨s,rfl,rfl,hs⟩:=hk
  exact⟨.string s.data.toList,by simp[keyOf,h,mapKey,hs]⟩
 ·obtain⟨x,y,rfl,rfl,hx,hy⟩:=hk
  exact jrj h hx hy
theorem jm8 {kd:Bool}{a:AV}{v:Value}(h:keyK kd a=true)(hv:VR m a v):jiS kd a v:=by
 unfold keyK at h;split at h
 ·exact⟨_,rfl,hv.lit,by simpa using h⟩
 ·rename_i x y
  simp only[U2] at h;refine⟨x,y,rfl,?_,h.1,h.2⟩
  cases hv with
  |agg hl hc=>
   rename_i vs;match vs,hl with
   |⟨[p,q]⟩,_=>
    have e1:=(hc 0 _ p rfl rfl).lit;have e2:=(hc 1 _ q rfl rfl).lit;subst e1;subst e2;rfl
 ·cases h
theorem jiT {kd:Bool}{a b:AV}{u v:Value}(h1:jiS kd a u)(h2:jiS kd b v):jhJ a b=true↔u=v:=by
 cases kd with
 |true=>
  obtain⟨s,rfl,rfl,_⟩:=h1;obtain⟨t,rfl,rfl,_⟩:=h2;simp[jhJ]
 |false=>
  obtain⟨x,y,rfl,rfl,_⟩:=h1;obtain⟨p,q,rfl,rfl,_⟩:=h2;simp[jhJ]
theorem MpK.nil {kd:Bool}:MpK kd m [] []:=⟨rfl,(fun i a e h=>by simp at h),.nil⟩
theorem MpK.cons_inv {kd:Bool}{a:AV}{l:List AV}{es:List MapEntry}(h:MpK kd m (a::l) es): ∃e r k v,es=e::r∧a= .tuple [k,v]∧jiS kd k e.key∧VR m v e.val∧MpK kd m l r∧ ∀f∈r,e.key≠f.key:=by
 cases es with
 |nil=>have:=h.1;simp at this
 |cons e r=>
  obtain⟨k,v,h1,h2,h3⟩:=h.2.1 0 a e rfl rfl;have hp:=W5.1 h.2.2;exact⟨e,r,k,v,rfl,h1,h2,h3,⟨by have:=h.1;simpa using this,fun i b f hb hf=>h.2.1 (i+1) b f (by simpa using hb) (by simpa using hf),hp.2⟩,hp.1⟩
theorem MpK.cons {kd:Bool}{l:List AV}{es:List MapEntry}{e:MapEntry}{k v:AV}(h:MpK kd m l es)(h2:jiS kd k e.key)(h3:VR m v e.val)(h4: ∀f∈es,e.key≠f.key):MpK kd m (.tuple [k,v]::l) (e::es):=by
 refine⟨by simp[h.1],fun i a f ha hf=>?_,W5.2 ⟨h4,h.2.2⟩⟩
 cases i with
 |zero=>simp at ha hf;subst ha;subst hf;exact⟨k,v,rfl,h2,h3⟩
 |succ i=>exact h.2.1 i a f (by simpa using ha) (by simpa using hf)
theorem jlB {kd:Bool}{q:AV}{x:Value}(hq:jiS kd q x): ∀{l:List AV} {es:List MapEntry},MpK kd m l es→(∀e∈es,e.key≠x)→jhI l q=none∧ ∀v u b,VR m v u→MpK kd m (kput l q v) (es++[⟨x,u,b⟩])
 |[],es,h,hn=>by
  have:es=[]:=Y9 (by have:=h.1;simpa using this.symm);subst this;exact⟨rfl,fun v u b hv=>MpK.nil.cons hq hv (fun f hf=>by cases hf)⟩
 |a::l,es,h,hn=>by
  obtain⟨e,r,k,v,rfl,rfl,hk,hv,ht,hd⟩:=h.cons_inv;have hne:jhJ q k=false:=by
   cases hc:jhJ q k with
   |false=>rfl
   |true=>exact absurd ((jiT hq hk).1 hc).symm (hn e (by simp))
  obtain⟨h1,h2⟩:=jlB hq ht (fun f hf=>hn f (by simp[hf]));refine⟨by simp[jhI,hne,h1],fun v' u b hvu=>?_⟩;simp only[kput,hne,N9];refine (h2 v' u b hvu).cons hk hv fun f hf=>?_
  rcases O3.1 hf with hf|hf
  ·exact hd f hf
  ·rw[List.mem_singleton.1 hf];exact hn e (by simp)
theorem jg7 {kd:Bool}{q:AV}{x:Value}(hq:jiS kd q x): ∀{l:List AV} {es:List MapEntry} {j:Nat} {f:MapEntry},MpK kd m l es→es[j]?=some f→f.key=x→ ∃v,jhI l q=some v∧VR m v f.val∧ ∀v u,VR m v u→MpK kd m (kput l q v) (es.modify j fun e=>{ e with key:=x,val:=u })
 |[],es,j,f,h,hj,_=>by
  have:es=[]:=Y9 (by have:=h.1;simpa using this.symm);subst this;simp at hj
 |a::l,es,j,f,h,hj,hx=>by
  obtain⟨e,r,k,v,rfl,rfl,hk,hv,ht,hd⟩:=h.cons_inv
  cases j with
  |zero=>
   simp at hj;subst hj
   have he:jhJ q k=true:=(jiT hq hk).2 hx.symm;refine⟨v,by simp[jhI,he],hv,fun v' u hvu=>?_⟩;simp only[kput,he,if_true];show MpK kd m _ ({ e with key:=x,val:=u }::r);exact ht.cons hq hvu (fun g hg=>by show x≠_;rw[←hx];exact hd g hg)
  |succ j=>
   simp at hj;have hfr:=List.mem_of_getElem? hj;have hne:jhJ q k=false:=by
    cases hc:jhJ q k with
    |false=>rfl
    |true=>exact absurd (((jiT hq hk).1 hc).symm.trans hx.symm) (hd f hfr)
   obtain⟨u0,h1,h2,h3⟩:=jg7 hq ht hj hx;refine⟨u0,by simp[jhI,hne,h1],h2,fun v' u hvu=>?_⟩;simp only[kput,hne,G4];refine (h3 v' u hvu).cons hk hv fun g hg=>?_
   obtain⟨i,hi,rfl⟩:=W6.1 hg;rw[List.getElem_modify];split
   ·show e.key≠x
    rw[←hx];exact hd f hfr
   ·exact hd _ (M4 _)
theorem jq3 (r:Rels n0 B0 m h w){t:TypeId}{kd:Bool}{v:AV}{h':Heap}{top}(he:jah top fl s h (.mkMapK kd)=some (v,h')):
  Sim P n0 B0 fl m h w ρ ⟨d,.makeMap t none,ty,pos,af,gd⟩ v h':=by
 simp only[jah] at he;injection he with he;injection he with he1 he2;subst he1;subst he2
 refine⟨.map (some w.heap.size),w.alloc (.map #[] 0),mset m h.length ⟨w.heap.size,0,0,true⟩,.inl ?_,jmV r,VR.mp (b:=⟨w.heap.size,0,0,true⟩) ⟨by simp[mset],rfl⟩⟩;simp[execOp,Instr.makeMap]
theorem jun {k:TypeId}{kd:Bool}(h:(kd=true∧P.underlying k=some .string)∨(kd=false∧jm0 P k=true)){l:List AV}{es:List MapEntry}(hE:MpK kd m l es): ∀e∈es,∃ l,keyOf P k e.key=some l:=fun e he=>by
 obtain⟨i,hi,rfl⟩:=W6.1 he;obtain⟨q,v,_,h2,_⟩:=hE.2.1 i _ _ (U1 (by rw[hE.1];exact hi)) (U1 hi);exact jg9 h h2
theorem joh (r:Rels n0 B0 m h w){t:TypeId}{kd ok:Bool}{zz:AV}(ht:mapK P t=some (kd,zz))(hx:VR m (x'.ev s) (ρ x))(hy:VR m (y'.ev s) (ρ y)){v:AV}{h':Heap}{top}(he:jah top fl s h (.mapGetK kd ok zz x' y')=some (v,h')):
  Sim P n0 B0 fl m h w ρ ⟨d,.lookup t x y ok,ty,pos,af,gd⟩ v h':=by
 obtain⟨k,e,hu,hk,zv,hz,hzr⟩:=jm5 ht;simp only[jah] at he;split at he
 ·rename_i id hp
  rw[hp] at hx;obtain⟨b,hb,hxv⟩:=hx.mp_inv;split at he
  ·rename_i b0 l hl
   split at he
   case isFalse=>cases he
   rename_i hc0;obtain⟨rfl,hkk⟩:=hc0;have hky:=jm8 hkk hy;obtain⟨lit,hlit⟩:=jg9 hk hky;have K:=jqp hk;obtain⟨_,_,es,ck,hc,hE⟩:=r.rel.mp id _ b hl hb;have hEk:=hE.1.other;have hg:=MapKept.run_getObj_map (P:=P) hc;have hck:=fun em=>K.check w em hlit
   rcases K.find w hlit es.toList (jun hk hEk) with⟨hf,hn⟩|⟨j,f,hf,hj,hfx⟩
   ·obtain⟨h2,_⟩:=jlB hky hEk hn
    rw[h2] at he;injection he with he;injection he with he1 he2;subst he1;subst he2
    refine jaw r (v':=if ok then .tuple #[zv,.bool false] else zv) ?_ ?_
    ·simp[execOp,Instr.lookup,jak hu,hxv,hg,hck,hf,hz,Result.andThen]
    ·cases ok
     ·exact hzr m
     ·exact VRs.tuple (VRs.cons (hzr m) (VRs.cons (.val rfl) .nil))
   ·obtain⟨u,h2,h3,_⟩:=jg7 hky hEk hj hfx
    rw[h2] at he;injection he with he;injection he with he1 he2;subst he1;subst he2
    refine jaw r (v':=if ok then .tuple #[f.val,.bool true] else f.val) ?_ ?_
    ·simp[execOp,Instr.lookup,jak hu,hxv,hg,hck,hf,Result.andThen]
    ·cases ok
     ·exact h3
     ·exact VRs.tuple (VRs.cons h3 (VRs.cons (.val rfl) .nil))
  ·cases he
 ·cases he
theorem jog (r:Rels n0 B0 m h w){t:TypeId}{kd:Bool}{zz:AV}(ht:mapK P t=some (kd,zz))(hx:VR m (x'.ev s) (ρ x))(hy:VR m (y'.ev s) (ρ y))(hzz:VR m (z'.ev s) (ρ z)){v:AV}{h':Heap}{top}(he:jah top fl s h (.mapSetK kd x' y' z')=some (v,h')):
  Sim P n0 B0 fl m h w ρ ⟨d,.mapUpdate t x y z,ty,pos,af,gd⟩ v h':=by
 obtain⟨k,e,hu,hk,zv,hz,hzr⟩:=jm5 ht;simp only[jah] at he;split at he
 ·rename_i id hp
  rw[hp] at hx;obtain⟨b,hb,hxv⟩:=hx.mp_inv;split at he
  ·rename_i b0 l hl
   split at he
   case isFalse=>cases he
   rename_i hc0;obtain⟨rfl,hkk,hid⟩:=hc0;injection he with he;injection he with he1 he2;subst he1;subst he2
   have hky:=jm8 hkk hy;obtain⟨lit,hlit⟩:=jg9 hk hky;have K:=jqp hk;obtain⟨_,_,es,ck,hc,hE⟩:=r.rel.mp id _ b hl hb;have hEk:=hE.1.other;have hg:=MapKept.run_getObj_map (P:=P) hc;have hso:=fun o=>MapKept.run_setObj_map (P:=P) o hc
   have hck:=fun em=>K.check w em hlit
   rcases K.find w hlit es.toList (jun hk hEk) with⟨hf,hn⟩|⟨j,f,hf,hj,hfx⟩
   ·obtain⟨_,h4⟩:=jlB hky hEk hn
    refine⟨undef,_,m,.inr ⟨?_,rfl⟩,jcZ r hid hl hb _ (es:=es.push ⟨ρ y,ρ z,ck⟩) (ck:=ck+1) ⟨.inr ⟨_,_,rfl,by rw[G6];exact h4 _ _ _ hzz⟩,by rw[G6];exact hE.2.push _ _⟩,VRs.no⟩;simp[execOp,Instr.mapUpdate,jak hu,hxv,hg,hck,hf,hso,Result.andThen]
   ·obtain⟨u,_,_,h5⟩:=jg7 hky hEk hj hfx
    have hst:=K.stays w hlit;have hjs:(es[j]?.map (·.key)).getD (ρ y)=ρ y:=by
     have:es[j]?=some f:=by simpa using hj
     rw[this];exact hfx
    refine⟨undef,_,m,.inr ⟨?_,rfl⟩,jcZ r hid hl hb _ (es:=es.modify j fun e=>{ e with key:=ρ y,val:=ρ z }) (ck:=ck) ⟨.inr ⟨_,_,rfl,by rw[G7];exact h5 _ _ hzz⟩,by rw[G7];exact hE.2.modify _ _ (fun _=>rfl)⟩,VRs.no⟩;simp[execOp,Instr.mapUpdate,jak hu,hxv,hg,hck,hf,hso,Result.andThen,hjs,hst]
  ·cases he
 ·cases he
end
end
section
open Go
section
variable {n0 B0:Nat}{P:Program}{m:Map}{h:Heap}{w:World}{fl:Nat→Bool}
theorem jdA {m:Map}{s:jal}{ρ:Operand→Value}{x:Option Operand}{x':Option Opd}(hx:jgv x=some x')(hs: ∀y∈x.toList,∀ z,cOpd y=some z→VR m (z.ev s) (ρ y)):OptR m s ρ x x':=by
 cases x with
 |none=>simp[jgv] at hx;exact .inl ⟨rfl,hx.symm⟩
 |some a=>
  simp only[jgv,U5] at hx;obtain⟨z,hz,rfl⟩:=hx;exact .inr ⟨a,z,rfl,rfl,hs a (by simp) z hz⟩
theorem sim_op (r:Rels n0 B0 m h w)(hfl: ∀id,fl id=true→n0≤id){ρ:Operand→Value}{s:jal}(hρ: ∀v,ρ (.const v)=v){o:Oper}{x:AOp}(hc:cOp P o=some x)
  (hs: ∀y∈o.op.operands.toList,∀ z,cOpd y=some z→VR m (z.ev s) (ρ y)) {v:AV} {h':Heap} {top} (he:jah top fl s h x=some (v,h')):Sim P n0 B0 fl m h w ρ o v h':=by
 obtain⟨dst,op,ty,pos,af,gd⟩:=o
 cases op with
 |move a=>
  simp only[cOp,U5] at hc;obtain⟨a',ha,rfl⟩:=hc;simp only[jah] at he;injection he with he;injection he with he1 he2;subst he1;subst he2
  exact jaw r (v':=ρ a) rfl (hs a (by simp[Op.operands]) a' ha)
 |assign a=>
  simp only[cOp,U5] at hc;obtain⟨a',ha,rfl⟩:=hc;simp only[jah] at he;injection he with he;injection he with he1 he2;subst he1;subst he2
  exact jaw r (v':=ρ a) rfl (hs a (by simp[Op.operands]) a' ha)
 |pick c a b=>
  simp only[cOp,Q8,E0,Q6,U4] at hc;obtain⟨c',h1,a',h2,b',h3,rfl⟩:=hc;exact sim_pick r (hs c (by simp[Op.operands]) c' h1) (hs a (by simp[Op.operands]) a' h2) (hs b (by simp[Op.operands]) b' h3) he
 |alloc t=>
  simp only[cOp,U5] at hc;obtain⟨z,h1,rfl⟩:=hc;exact sim_zero r h1 he
 |box t a=>
  simp only[cOp,Q8,E0,Q6,U4] at hc;obtain⟨n,h1,a',h2,rfl⟩:=hc;exact sim_box r (hs a (by simp[Op.operands]) a' h2) he
 |build t ps=>
  have hs': ∀p∈ps.toList,∀ z,cOpd p.2=some z→VR m (z.ev s) (ρ p.2):=fun p hp z hz=>hs p.2 (by simp only[Op.operands];exact U6.2 ⟨p,hp,rfl⟩) z hz
  simp only[cOp] at hc;split at hc
  ·rename_i fs hu
   split at hc
   ·rename_i hall
    simp only[Q8,E0,Q6,U4] at hc;obtain⟨z,h1,qs,h2,rfl⟩:=hc;exact jiA r hu (fun f hf => by
     have:=Array.all_eq_true_iff_forall_mem.1 hall f hf;exact Option.isSome_iff_exists.1 this) h1 h2 hs' he
   ·cases hc
  ·rename_i n e hu
   simp only[Q8,E0,Q6,U4] at hc;obtain⟨n,h0,z,h1,qs,h2,rfl⟩:=hc;exact jmL r hu h0 h1 h2 hs' he
  ·cases hc
 |buildSlice t len ps=>
  have hs': ∀p∈ps.toList,∀ z,cOpd p.2=some z→VR m (z.ev s) (ρ p.2):=fun p hp z hz=>hs p.2 (by simp only[Op.operands];exact U6.2 ⟨p,hp,rfl⟩) z hz
  simp only[cOp,Q8,E0] at hc;obtain⟨⟨k,b,z⟩,h1,h2⟩:=hc;simp only at h2;split at h2
  ·rename_i hlen
   simp only[E0,Q6,U4] at h2;obtain⟨qs,h3,rfl⟩:=h2;exact sim_lits r h1 hlen h3 hs' he
  ·cases h2
 |load t a=>
  simp only[cOp,Q8,E0,Q6,U4] at hc;obtain⟨n,h1,a',h2,rfl⟩:=hc;exact sim_load r h1 (hs a (by simp[Op.operands]) a' h2) he
 |store t a b=>
  simp only[cOp,Q8,E0,Q6,U4] at hc;obtain⟨n,h1,a',h2,b',h3,rfl⟩:=hc;exact jtA r hfl h1 (hs a (by simp[Op.operands]) a' h2) (hs b (by simp[Op.operands]) b' h3) he
 |nilCheck a=>
  simp only[cOp,U5] at hc;obtain⟨a',h1,rfl⟩:=hc;exact jmG r (hs a (by simp[Op.operands]) a' h1) he
 |binOp op t a b u=>
  simp only[cOp,cBin] at hc;split at hc
  ·rename_i a' b' h1 h2
   have ha:=hs a (by simp[Op.operands]) a' h1;have hb:=hs b (by simp[Op.operands]) b' h2;have hconst: ∀v,b= .const v→ρ b=v:=fun v hv=>by rw[hv];exact hρ v
   split at hc
   ·injection hc with hc;subst hc;exact jlq r ha hb he
   ·injection hc with hc;subst hc;exact jlq r ha hb he
   ·rename_i hu
    split at hc
    ·injection hc with hc;subst hc;exact jkf (neg:=false) r hu ha hb he
    ·injection hc with hc;subst hc;exact jkf (neg:=true) r hu ha hb he
    ·cases hc
   ·rename_i e hu
    split at hc
    ·split at hc
     ·rename_i hk;injection hc with hc;subst hc;exact jey (neg:=false) r hk (.inl ⟨rfl,_,hu⟩) hconst ha he
     ·cases hc
    ·split at hc
     ·rename_i hk;injection hc with hc;subst hc;exact jey (neg:=true) r hk (.inl ⟨rfl,_,hu⟩) hconst ha he
     ·cases hc
    ·cases hc
   ·rename_i e hu
    split at hc
    ·split at hc
     ·rename_i hk;injection hc with hc;subst hc;exact jey (neg:=false) r hk (.inr (.inl ⟨rfl,_,hu⟩)) hconst ha he
     ·cases hc
    ·split at hc
     ·rename_i hk;injection hc with hc;subst hc;exact jey (neg:=true) r hk (.inr (.inl ⟨rfl,_,hu⟩)) hconst ha he
     ·cases hc
    ·cases hc
   ·split at hc
    ·injection hc with hc;subst hc;exact jlq r ha hb he
    ·injection hc with hc;subst hc;exact jlq r ha hb he
    ·cases hc
   ·rename_i e1 e2 e3 hu
    split at hc
    ·split at hc
     ·rename_i hk;injection hc with hc;subst hc;exact jey (neg:=false) r hk (.inr (.inr ⟨rfl,_,_,_,hu⟩)) hconst ha he
     ·cases hc
    ·split at hc
     ·rename_i hk;injection hc with hc;subst hc;exact jey (neg:=true) r hk (.inr (.inr ⟨rfl,_,_,_,hu⟩)) hconst ha he
     ·cases hc
    ·cases hc
   ·rename_i fs hu
    split at hc
    ·rename_i ks hk
     split at hc
     ·injection hc with hc;subst hc;exact jmK (neg:=false) r hk ha hb he
     ·injection hc with hc;subst hc;exact jmK (neg:=true) r hk ha hb he
     ·cases hc
    ·cases hc
   ·cases hc
  ·cases hc
 |unOp op t a=>
  simp only[cOp,U5] at hc;obtain⟨a',h1,rfl⟩:=hc;exact sim_un r (hs a (by simp[Op.operands]) a' h1) he
 |convert t u a=>
  simp only[cOp] at hc;split at hc
  ·rename_i k k' ht hu
   obtain⟨a',h1,rfl⟩:=U5.1 hc;exact sim_conv r ht hu (hs a (by simp[Op.operands]) a' h1) he
  ·cases hc
 |field t a f=>
  simp only[cOp,Q8,E0,Q6,U4] at hc;obtain⟨fd,h1,n,h2,a',h3,rfl⟩:=hc;exact jtE r h1 h2 (hs a (by simp[Op.operands]) a' h3) he
 |fieldAddr t a f=>
  simp only[cOp,Q8,E0] at hc;obtain⟨fd,h1,n,h2,h3⟩:=hc;split at h3
  ·cases h3
  ·rename_i hn
   simp only[E0,Q6,U4] at h3;obtain⟨a',h4,rfl⟩:=h3;exact jlp r h1 h2 hn (hs a (by simp[Op.operands]) a' h4) he
 |indexAddr t a b=>
  simp only[cOp] at hc;split at hc
  ·simp only[Q8,E0,Q6,U4] at hc
   obtain⟨⟨k,by_,z⟩,h1,a',h2,b',h3,rfl⟩:=hc;exact jlo r h1 (hs a (by simp[Op.operands]) a' h2) (hs b (by simp[Op.operands]) b' h3) he
  ·rename_i n e hu
   simp only[Q8,E0,Q6,U4] at hc;obtain⟨k,h1,a',h2,b',h3,rfl⟩:=hc;exact jmJ r hu h1 (hs a (by simp[Op.operands]) a' h2) (hs b (by simp[Op.operands]) b' h3) he
  ·cases hc
 |index t a b=>
  simp only[cOp] at hc;split at hc
  ·rename_i n e hu
   simp only[Q8,E0,Q6,U4] at hc;obtain⟨k,h1,n',h1',a',h2,b',h3,rfl⟩:=hc;exact jtD r hu h1 h1' (hs a (by simp[Op.operands]) a' h2) (hs b (by simp[Op.operands]) b' h3) he
  ·rename_i hu
   simp only[Q8,E0,Q6,U4] at hc;obtain⟨a',h2,b',h3,rfl⟩:=hc;exact jmI r hu (hs a (by simp[Op.operands]) a' h2) (hs b (by simp[Op.operands]) b' h3) he
  ·cases hc
 |slice t a lo hi mx=>
  simp only[cOp] at hc;split at hc
  ·split at hc
   ·cases hc
   ·rename_i hmh
    simp only[Q8,E0,Q6,U4] at hc;obtain⟨⟨k,by_,z⟩,h1,a',h2,lo',h3,hi',h4,mx',h5,rfl⟩:=hc;refine jtB r h1 ?_ (hs a (by simp[Op.operands]) a' h2) (jdA h3 fun y hy=>hs y ?_) (jdA h4 fun y hy=>hs y ?_) (jdA h5 fun y hy=>hs y ?_) he
    ·cases mx<;>cases hi<;>simp_all
    ·simp[Op.operands] at *; simp[hy]
    ·simp[Op.operands] at *; simp[hy]
    ·simp[Op.operands] at *; simp[hy]
  ·cases hc
 |makeSlice t a b=>
  simp only[cOp,Q8,E0,Q6,U4] at hc;obtain⟨⟨k,by_,z⟩,h1,a',h2,b',h3,rfl⟩:=hc;exact jof r h1 (hs a (by simp[Op.operands]) a' h2) (hs b (by simp[Op.operands]) b' h3) he
 |extract a i=>
  simp only[cOp,U5] at hc;obtain⟨a',h1,rfl⟩:=hc;exact joi r (hs a (by simp[Op.operands]) a' h1) he
 |makeMap t hint=>
  cases hint with
  |none=>
   simp only[cOp] at hc;split at hc
   ·injection hc with hc;subst hc
    exact jq3 r he
   ·obtain⟨z,h1,rfl⟩:=U5.1 hc
    exact jtC r he
  |some _=>simp[cOp] at hc
 |lookup t a b ok=>
  simp only[cOp] at hc;split at hc
  ·rename_i kd z h1
   simp only[Q8,E0,Q6,U4] at hc;obtain⟨a',h2,b',h3,rfl⟩:=hc;exact joh r h1 (hs a (by simp[Op.operands]) a' h2) (hs b (by simp[Op.operands]) b' h3) he
  simp only[Q8,E0,Q6,U4] at hc;obtain⟨z,h1,a',h2,b',h3,rfl⟩:=hc;exact jq5 r h1 (hs a (by simp[Op.operands]) a' h2) (hs b (by simp[Op.operands]) b' h3) he
 |mapUpdate t a b c=>
  simp only[cOp] at hc;split at hc
  ·rename_i kd z h1
   simp only[Q8,E0,Q6,U4] at hc;obtain⟨a',h2,b',h3,c',h4,rfl⟩:=hc;exact jog r h1 (hs a (by simp[Op.operands]) a' h2) (hs b (by simp[Op.operands]) b' h3) (hs c (by simp[Op.operands]) c' h4) he
  simp only[Q8,E0,Q6,U4] at hc;obtain⟨z,h1,a',h2,b',h3,c',h4,rfl⟩:=hc;exact jq4 r h1 (hs a (by simp[Op.operands]) a' h2) (hs b (by simp[Op.operands]) b' h3) (hs c (by simp[Op.operands]) c' h4) he
 |makeFunc fn first captured=>
  cases fn with
  |func f=>
   simp only[cOp] at hc;split at hc
   ·rename_i h0
    obtain⟨caps',h1,rfl⟩:=U5.1 hc;obtain rfl:first= #[]:=U3 h0;exact sim_func r h1 (fun a ha=>hs a (by simp[Op.operands] at *; exact ha)) he
   ·simp only[Q8,E0,Q6,U4] at hc
    obtain⟨as',h1,caps',h2,rfl⟩:=hc;exact jtG r h2 h1 (fun a ha=>hs a (by simp[Op.operands] at *; exact .inr ha)) (fun a ha=>hs a (by simp[Op.operands] at *; exact .inl ha)) he
  |_=>simp[cOp] at hc
 |call c=>
  obtain⟨callee,args,at_⟩:=c
  cases callee with
  |value f=>
   simp only[cOp,Q8,E0,Q6,U4] at hc;obtain⟨f',h1,a',h2,rfl⟩:=hc;simp[jah] at he
  |invoke rv mt=>simp[cOp] at hc
  |builtin b=>
   obtain⟨args⟩:=args;obtain⟨at_⟩:=at_
   simp only[cOp] at hc;split at hc
   ·rename_i x y t u
    split at hc
    ·rename_i htu;subst htu
     simp only[Q8,E0,Q6,U4] at hc;obtain⟨⟨k,by_,z⟩,h1,a',h2,b',h3,rfl⟩:=hc;exact jq8 r hfl h1 (hs x (by simp[Op.operands,Call.operands]) a' h2) (hs y (by simp[Op.operands,Call.operands]) b' h3) he
    ·cases hc
   ·rename_i x t
    split at hc
    ·rename_i e hu
     obtain⟨a',h1,rfl⟩:=U5.1 hc;exact sim_len r hu (hs x (by simp[Op.operands,Call.operands]) a' h1) he
    ·rename_i hu
     obtain⟨a',h1,rfl⟩:=U5.1 hc;exact jq7 r hu (hs x (by simp[Op.operands,Call.operands]) a' h1) he
    ·cases hc
   ·rename_i x y t u
    simp only[Q8,E0,Q6,U4] at hc;obtain⟨⟨k,by_,z⟩,h1,a',h2,b',h3,rfl⟩:=hc;exact sim_copy r hfl h1 (hs x (by simp[Op.operands,Call.operands]) a' h2) (hs y (by simp[Op.operands,Call.operands]) b' h3) he
   ·rename_i x t
    split at hc
    ·simp only[Q8,E0,Q6,U4] at hc
     obtain⟨z,h1,a',h2,rfl⟩:=hc;exact jmH r h1 (hs x (by simp[Op.operands,Call.operands]) a' h2) he
    ·simp only[Q8,E0,Q6,U4] at hc
     obtain⟨⟨k,by_,z⟩,h1,a',h2,rfl⟩:=hc;exact jtF r hfl h1 (hs x (by simp[Op.operands,Call.operands]) a' h2) he
   ·rename_i x y t u
    simp only[Q8,E0,Q6,U4] at hc;obtain⟨z,h1,a',h2,b',h3,rfl⟩:=hc;exact jq6 r h1 (hs x (by simp[Op.operands,Call.operands]) a' h2) (hs y (by simp[Op.operands,Call.operands]) b' h3) he
   ·rename_i x xs
    split at hc
    ·simp only[Q8,E0,Q6,U4] at hc
     obtain⟨a',h1,xs',h2,rfl⟩:=hc;exact jke (mx:=true) r h2 (fun a ha=>hs a (by simp[Op.operands,Call.operands,ha])) (hs x (by simp[Op.operands,Call.operands]) a' h1) he
    ·cases hc
   ·rename_i x xs
    split at hc
    ·simp only[Q8,E0,Q6,U4] at hc
     obtain⟨a',h1,xs',h2,rfl⟩:=hc;exact jke (mx:=false) r h2 (fun a ha=>hs a (by simp[Op.operands,Call.operands,ha])) (hs x (by simp[Op.operands,Call.operands]) a' h1) he
    ·cases hc
   ·cases hc
 |_=>simp[cOp] at hc
theorem jmF (r:Rels n0 B0 m h w)(hfl: ∀id,fl id=true→n0≤id){ρ:Operand→Value}{s:jal}{x:Operand}{x':Opd}{d:Option Tmp}{ty:TypeId}{pos:String}{af:Array Edge}{gd:Option (Nat×Bool)}{t e:TypeId}{k n:Nat}(hu:P.underlying t=some (.array n e))(hsz:jco P e=some k){lo hi mx:Option Operand}{lo' hi' mx':Option Opd}(hmh:mx=none∨hi≠none)
  (hx:VR m (x'.ev s) (ρ x)) (hlo:OptR m s ρ lo lo') (hhi:OptR m s ρ hi hi') (hmx:OptR m s ρ mx mx') {v:AV} {h':Heap} {top} (he:jah top fl s h (.sliceArr k n x' lo' hi' mx')=some (v,h')):
  Sim P n0 B0 fl m h w ρ ⟨d,.slice t x lo hi mx,ty,pos,af,gd⟩ v h':=by
 simp only[jah] at he;split at he
 ·rename_i id off hp
  rw[hp] at hx;obtain⟨b,hb,hxv⟩:=hx.ptr_inv;split at he
  ·rename_i cs hl
   split at he
   ·rename_i hcond
    obtain⟨hid,hroom⟩:=hcond;split at he
    ·rename_i v0 hv
     injection he with he;injection he with he1 he2;subst he1;subst he2
     obtain⟨_,hr,_⟩:=r.rel.own id cs b (hfl id hid) hl hb;unfold jc3 at hv;simp only at hv;split at hv
     ·rename_i l u mm h1 h2 h3
      split at hv
      ·rename_i hc
       obtain⟨_,hlu,hum,hml⟩:=hc;injection hv with hv;subst hv
       have e1:=jdO hlo h1;have e2:=jdO hhi h2;have e3:=jdO hmx h3;have hM:(mx.map ρ=none∧mm=n)∨ ∃k v,mx.map ρ=some v∧v= .int k mm:=by
        rcases e3 with⟨rfl,_,rfl⟩|h0
        ·exact .inl ⟨rfl,rfl⟩
        ·exact .inr h0
       have hbd:=jdg (P:=P) (w:=w) (bs:=false) (len:=n) (cap:=n) (l:=l) (u:=u) (mm:=mm) (lo:=lo.map ρ) (hi:=hi.map ρ) (mx:=mx.map ρ)
        (by rcases e1 with ⟨rfl, _, rfl⟩ | h; exact .inl ⟨rfl, rfl⟩; exact .inr h) (by
         rcases e2 with⟨rfl,_,rfl⟩|h
         ·rcases hmh with rfl|h0
          ·exact .inl ⟨rfl,rfl,rfl⟩
          ·exact absurd rfl h0
         ·exact .inr h) hM hlu hum hml
       have hMn:mm*k≤n*k:=E9 _ hml;refine jaw r (v':= .slice (some ⟨b.b,b.off+(if mm=l then off else off+l*k),none⟩) (u - l) (mm - l)) ?_
        (.slice hb ?_ (by omega) (by omega) (fun _=>rfl) ?_)
       ·simp[execOp,hxv,Instr.sliceAt,jak hu,Instr.sureAddr,hbd,jas hsz]
        split<;>simp[jei,V4]
       ·intro h0
        rw[if_neg (by omega)]
       ·split
        ·rename_i h0;subst h0;simp;omega
        ·have:l*k+(mm - l)*k=mm*k:=by rw[←Y0];congr 1;omega
         omega
      ·cases hv
     ·cases hv
    ·cases he
   ·cases he
  ·cases he
 ·cases he
theorem jm3 {m:Map}: ∀{cs:List AV} {vs:List Value} {ns:List Int},jgw cs=some ns→VRs m cs vs→vs=ns.map (Value.int .u8)
 |[],vs,ns,h,hv=>by
  simp only[jgw,U4] at h;subst h;exact Y9 hv.1.symm
 |c::cs,vs,ns,h,hv=>by
  unfold jgw at h;split at h
  ·rename_i heq;cases heq
  ·rename_i n r heq
   injection heq with e1 e2;subst e1;subst e2
   obtain⟨ns',h1,rfl⟩:=U5.1 h;match vs,hv with
   |[],hv=>have:=hv.1;simp at this
   |v::vs,hv=>
    have h2:=(hv.2 0 _ v rfl rfl).lit;have h3:=jm3 (vs:=vs) h1 ⟨by simpa using hv.1,fun i x y hx hy=>hv.2 (i+1) x y (by simpa using hx) (by simpa using hy)⟩;rw[h2,h3];rfl
  ·cases h
theorem jtz (r:Rels n0 B0 m h w){ρ:Operand→Value}{s:jal}{x:Operand}{x':Opd}{d:Option Tmp}{ty:TypeId}{pos:String}{af:Array Edge}{gd:Option (Nat×Bool)}{s1 t1 e:TypeId}(hs1:P.underlying s1=some (.slice e))(he8:P.underlying e=some (.int .u8))(ht1:P.underlying t1=some .string)
  (hx:VR m (x'.ev s) (ρ x)) {v:AV} {h':Heap} {top} (he:jah top fl s h (.toStr x')=some (v,h')):Sim P n0 B0 fl m h w ρ ⟨d,.convert s1 t1 x,ty,pos,af,gd⟩ v h':=by
 simp only[jah] at he;split at he
 ·rename_i n cs hrow
  split at he
  ·rename_i ns hns
   injection he with he;injection he with e1 e2;subst e1;subst e2
   refine jaw r (v':= .string (jgY ns)) ?_ (.val rfl);have key:(convert s1 t1 (ρ x)).run P w= .ok (.string (jgY ns)) w:=by
    rcases jez r.rel hrow hx with⟨_,rfl,hu|⟨ad,c,hu⟩⟩|⟨ad,c,vs,hu,hl,hc,hv,_⟩
    ·simp only[jgw,U4] at hns
     subst hns;rw[hu,run_convert_bytes_string w s1 t1 e _ _ _ hs1 he8 ht1]
     rfl
    ·simp only[jgw,U4] at hns
     subst hns;rw[hu,run_convert_bytes_string w s1 t1 e _ _ _ hs1 he8 ht1];have:=run_loadCells_list (P:=P) w ad [] (fun j v hj=>by simp at hj);rw[run_bytesToString w _ 0 c [] (by simpa using this),foldl_push_bytes]
     rfl
    ·have hvs:=jm3 hns hv
     have:=run_loadCells_list (P:=P) w ad vs (fun j v hj=>hc j v hj);rw[hu,run_convert_bytes_string w s1 t1 e _ _ _ hs1 he8 ht1];rw[hl,Nat.mul_one,hvs] at this;rw[run_bytesToString w _ n c ns this,foldl_push_bytes];simp[jgY,ByteArray.empty,ByteArray.emptyWithCapacity]
     rfl
   simp[execOp,key]
  ·cases he
 ·cases he
theorem sim_opU (r:Rels n0 B0 m h w)(hfl: ∀id,fl id=true→n0≤id){ρ:Operand→Value}{s:jal}(hρ: ∀v,ρ (.const v)=v){o:Oper}{x:AOp}(hc:cOpU P o=some x)
  (hs: ∀y∈o.op.operands.toList,∀ z,cOpd y=some z→VR m (z.ev s) (ρ y)) {v:AV} {h':Heap} {top} (he:jah top fl s h x=some (v,h')):Sim P n0 B0 fl m h w ρ o v h':=by
 unfold cOpU at hc;split at hc
 ·rename_i x' hx
  injection hc with hc;subst hc
  exact sim_op r hfl hρ hx hs he
 ·obtain⟨dst,op,ty,pos,af,gd⟩:=o
  split at hc
  ·rename_i t x lo hi mx heq
   simp only at heq;subst heq
   split at hc
   ·rename_i n e hu
    split at hc
    ·cases hc
    ·rename_i hmh
     simp only[Q8,E0,Q6,U4] at hc;obtain⟨k,h1,x',h2,lo',h3,hi',h4,mx',h5,rfl⟩:=hc;refine jmF r hfl hu h1 ?_ (hs x (by simp[Op.operands]) x' h2) (jdA h3 fun y hy=>hs y (by simp[Op.operands] at *; simp[hy])) (jdA h4 fun y hy=>hs y (by simp[Op.operands] at *; simp[hy])) (jdA h5 fun y hy=>hs y (by simp[Op.operands] at *; simp[hy])) he
     cases mx with
     |none=>exact .inl rfl
     |some a=>cases hi with
      |none=>simp at hmh
      |some b=>exact .inr (by simp)
   ·cases hc
  ·rename_i t x0 heq
   simp only at heq;subst heq
   split at hc
   ·rename_i fs hu
    obtain⟨x',h2,rfl⟩:=U5.1 hc;have hx:=hs x0 (by simp[Op.operands]) x' h2;simp only[jah] at he;split at he
    ·rename_i hq
     injection he with he;injection he with e1 e2;subst e1;subst e2
     rw[hq] at hx;obtain⟨us,hu1,hu2⟩:=VRs.of_agg hx;have hus:us= #[]:=by
      have:=hu2.1;simp at this;exact U3 (by simpa using this.symm)
     subst hus;refine jaw r (v':= .iface t (.agg #[])) ?_ (.val rfl);simp[execOp,Instr.makeInterface,jak hu,hu1]
    ·cases he
   ·cases hc
  ·rename_i x0 heq
   simp only at heq;subst heq
   obtain⟨x',h2,rfl⟩:=U5.1 hc;simp[jah] at he
  ·rename_i s1 t1 x0 heq
   simp only at heq;subst heq
   split at hc
   ·rename_i e hs1 ht1
    split at hc
    ·rename_i he8
     obtain⟨x',h2,rfl⟩:=U5.1 hc;exact jtz r hs1 he8 ht1 (hs x0 (by simp[Op.operands]) x' h2) he
    ·cases hc
   ·cases hc
  ·cases hc
end
end
section
open Go
section
variable {P:Program}
def jcP (P:Program)(C:jby):Prop:=
  ∀ f args fl h v h', C f args fl h = some (v, h') → (∃ fn c, P.funcs[f]? = some fn ∧ (fn.name == "runtime.NumGoroutine") = false ∧ fn.body = some c) ∧
    ∀n0 B0 m w (vals:Array Value),Rels n0 B0 m h w→(∀id,fl id=true→n0≤id)→VRs m args vals.toList→
      Calls P f vals w fun e w'=> ∃v' m',e= .returned v'∧Post n0 B0 fl m h w m' h' w'∧VR m' v v'
theorem jfk {f : FuncId}{fn : Func}{c : Code}(hf : P.funcs[f]? = some fn)(hname : (fn.name == "runtime.NumGoroutine") = false)(hb : fn.body = some c)(args : Array Value)(w : World) :
  (callFunc f args).run P w= .ok (.enter f args) w:=by
 have h1 : fn.name ≠ "runtime.NumGoroutine" := by simpa using hname
 simp[callFunc,hf,h1,hb]
theorem jft {fl:Nat→Bool}{o:jav}{forb:List Nat}(i:Nat)(h:jbB fl o forb i=true):fl i=true:=by
 unfold jbB at h;split at h
 ·exact h
 ·simp at h;exact h.1
theorem jty {n0 B0:Nat}{fl:Nat→Bool}{O:Oper}{x:AOp}(hc:cOp P O=some x){top}{s:jal}{h h':Heap}{v:AV}(hrun:jah top fl s h x=some (v,h')){m:Map}{w:World}(r:Rels n0 B0 m h w)(hfl: ∀id,fl id=true→n0≤id){a:Act}
  (hs: ∀y∈O.op.operands.toList,∀ z,cOpd y=some z→VR m (z.ev s) (a.eval y)) {K:Act→World→Prop} {Q:Exit→Act→World→Prop}
  (hK: ∀v' w' m',Post n0 B0 fl m h w m' h' w'→VR m' v v'→K (a.put O.dst v') w'):O.wp P a w K Q:=by
 obtain⟨v',w',m',hy,hp,hv⟩:=sim_op (P:=P) (ρ:=a.eval) r hfl (fun v=>rfl) hc hs hrun;unfold Oper.wp;rcases hy with hy|⟨hy,rfl⟩
 ·rw[hy];exact hK v' w' m' hp hv
 ·rw[hy];exact hK undef w' m' hp hv
theorem jo4 {n0 B0:Nat}{m:Map}{s:jal}{w:World}{ρ:Operand→Value}{f0:Operand}{f:Opd}{args0:Array Operand}{args:List Opd}{at_:Array TypeId}{dst:Option Tmp}{ty:TypeId}{pos:String}{af:Array Edge}{gd:Option (Nat×Bool)}(h1:cOpd f0=some f)(h2:opds args0.toList=some args)
  (hs: ∀y∈f0::args0.toList,∀ z,cOpd y=some z→VR m (z.ev s) (ρ y)) {g:FuncId} {vs:List AV} (hg:callee (f.ev s) (args.map (·.ev s))=some (g,vs))
  (hfn : ∃ fn c, P.funcs[g]? = some fn ∧ (fn.name == "runtime.NumGoroutine") = false ∧ fn.body = some c) :
  ∃us:Array Value,VRs m vs us.toList∧(execOp ρ ⟨dst,.call { callee:= .value f0,args:=args0,argTypes:=at_ },ty,pos,af,gd⟩).run P w= .ok (.enter g us) w:=by
 obtain⟨fn,c,h3,h4,h5⟩:=hfn;have hf:=hs f0 (by simp) f h1;have hargs:=jfo (ρ:=ρ) (s:=s) (m:=m) h2 (fun b hb=>hs b (by simp[hb]));generalize hq:ρ f0=u at hf;generalize hqq:f.ev s=fv at hf hg;unfold callee at hg;split at hg
 ·rename_i f1 caps a1
  injection hg with hg;injection hg with hg1 hg2;subst hg1;subst hg2
  cases hf with
  |func hl hh=>
   rename_i us;refine⟨args0.map ρ++us,?_,?_⟩
   ·rw[W7,E6]
    exact hargs.append ⟨by simpa using hl,by simpa using hh⟩
   ·simp only[execOp,resolve,hq,Deferred.ofValue,Sem.run_bind,Sem.run_pure,Result.andThen_ok,invoke,Array.empty_append]
    exact jfk h3 h4 h5 _ w
 ·rename_i f1 first caps a1
  injection hg with hg;injection hg with hg1 hg2;subst hg1;subst hg2
  cases hf with
  |bfunc hl hl2 hh hh2=>
   rename_i us1 us2;refine⟨us1++args0.map ρ++us2,?_,?_⟩
   ·rw[W7,W7,E6]
    exact (VRs.append ⟨by simpa using hl,by simpa using hh⟩ hargs).append ⟨by simpa using hl2,by simpa using hh2⟩
   ·simp only[execOp,resolve,hq,Deferred.ofValue,Sem.run_bind,Sem.run_pure,Result.andThen_ok,invoke]
    exact jfk h3 h4 h5 _ w
 ·cases hg
theorem cOpU_cOp {O:Oper}{f:Opd}{args:List Opd}(hc:cOpU P O=some (.call f args)):cOp P O=some (.call f args):=by
 unfold cOpU at hc;split at hc
 ·rename_i x hx
  injection hc with hc;subst hc
  exact hx
 ·exfalso
  split at hc
  ·split at hc
   ·split at hc
    ·cases hc
    ·simp[E0] at hc
   ·cases hc
  ·split at hc
   ·simp[U5] at hc
   ·cases hc
  ·simp[U5] at hc
  ·split at hc
   ·split at hc
    ·simp[U5] at hc
    ·cases hc
   ·cases hc
  ·cases hc
theorem jou {O:Oper}{x:Opd}(hc:cOpU P O=some (.panic x)): ∃x0,O.op= .panic x0∧cOpd x0=some x:=by
 unfold cOpU at hc;split at hc
 ·rename_i y hy
  injection hc with hc;subst hc
  exfalso;obtain⟨dst,op,ty,pos,af,gd⟩:=O
  cases op<;>simp only[cOp,cBin] at hy
  all_goals (try (cases hy;done))
  all_goals (repeat' split at hy)
  all_goals (try (cases hy;done))
  all_goals first
   |(simp[E0] at hy;done)
   |(simp only[U5] at hy;obtain⟨_,_,hy⟩:=hy;cases hy;done)
   |(simp_all;done)
 ·split at hc
  ·split at hc
   ·split at hc
    ·cases hc
    ·simp[E0] at hc
   ·cases hc
  ·split at hc
   ·simp[U5] at hc
   ·cases hc
  ·rename_i x0 heq
   obtain⟨x',h2,h3⟩:=U5.1 hc;injection h3 with h3;subst h3
   exact⟨x0,heq,h2⟩
  ·split at hc
   ·split at hc
    ·simp[U5] at hc
    ·cases hc
   ·cases hc
  ·cases hc
theorem jr8 {O:Oper}{f:Opd}{args:List Opd}(hc:cOp P O=some (.call f args)): ∃f0 args0 at_,O.op= .call { callee:= .value f0,args:=args0,argTypes:=at_ }∧cOpd f0=some f∧opds args0.toList=some args:=by
 obtain⟨dst,op,ty,pos,af,gd⟩:=O
 cases op with
 |call c=>
  obtain⟨callee,args0,at_⟩:=c
  cases callee with
  |value f0=>
   simp only[cOp,Q8,E0,Q6,U4,AOp.call.injEq] at hc;obtain⟨f',h1,a',h2,rfl,rfl⟩:=hc;exact⟨f0,args0,at_,rfl,h1,h2⟩
  |invoke rv mt=>simp[cOp] at hc
  |builtin b=>
   exfalso;simp only[cOp] at hc
   (repeat' split at hc)<;>simp[E0] at hc
 |binOp op t x y u=>
  exfalso;simp only[cOp,cBin] at hc
  (repeat' split at hc)<;>first|(injection hc with hc;cases hc;done)|(cases hc;done)
 |_=>
  exfalso;simp only[cOp] at hc;first
   |(simp[E0] at hc;done)
   |((repeat' split at hc)<;>first|(cases hc;done)|(injection hc with hc;cases hc;done)|(simp[E0] at hc;done)|(simp_all;done)|(exfalso;simp only[reduceCtorEq] at *; done))
def jer (P:Program)(Gp:Value→Prop)(C:jeH):Prop:=
  (∀ f args fl h K, C (some f) args fl h K → (∃ fn c, P.funcs[f]? = some fn ∧ (fn.name == "runtime.NumGoroutine") = false ∧ fn.body = some c) ∧
    ∀n0 B0 m w (vals:Array Value),Rels n0 B0 m h w→(∀id,fl id=true→n0≤id)→VRs m args vals.toList→
      Calls P f vals w fun e w'=>(∃v h' v' m',K v h'∧e= .returned v'∧Post n0 B0 fl m h w m' h' w'∧VR m' v v')∨(∃pv h' m',Gp pv∧e= .panicked [{ v:=pv,recovered:=false }]∧Post n0 B0 fl m h w m' h' w'))∧
  ∀args fl h K,C none args fl h K→ ∃t,args=[.val (.iface t (.agg #[]))]∧Gp (.iface t (.agg #[]))
abbrev noG:Value→Prop:=fun _=>False
def CallPOk (P:Program)(C:jeH):Prop:=jer P noG C
def jhw (C:jby):jeH:=fun f args fl h K=>match f with
  |some f=> ∃v h',C f args fl h=some (v,h')∧K v h'
  |none=>False
theorem jkm {Gp:Value→Prop}{C:jby}(hC:jcP P C):jer P Gp (jhw C):=by
 refine⟨?_,fun _ _ _ _ h=>h.elim⟩;rintro f args fl h K ⟨v,h',he,k⟩;obtain⟨h1,h2⟩:=hC f args fl h v h' he;refine⟨h1,fun n0 B0 m w vals r hfl hv=>(h2 n0 B0 m w vals r hfl hv).mono fun e w' hp=>?_⟩;obtain⟨v',m',e1,p,hv'⟩:=hp;exact .inl ⟨v,h',v',m',k,e1,p,hv'⟩
theorem jiM {C:jby}(hC:jcP P C):CallPOk P (jhw C):=jkm hC
theorem jt6 {Gp:Value→Prop}{C:jeH}(hC:jer P Gp C){n0 B0:Nat}{base:Nat}{fl:Nat→Bool}{d:Seen}{forb:List Nat}{o:jav}{O:Oper}(ho:o.op=(cOpU P O).getD .bad)
  {s:jal} {h:Heap} {KK:AV→Heap→Prop} (hrun:jfX C base fl d forb o s h KK) {m:Map} {w:World} (r:Rels n0 B0 m h w) (hfl: ∀id,fl id=true→n0≤id) {a:Act}
  (hs: ∀y∈O.op.operands.toList,∀ z,cOpd y=some z→VR m (z.ev s) (a.eval y)) {K:Act→World→Prop} {Q:Exit→Act→World→Prop}
  (hK: ∀v h' v' w' m',KK v h'→Post n0 B0 (jbB fl o forb) m h w m' h' w'→VR m' v v'→K (a.put O.dst v') w') (hG: ∀pv h' m' w',Gp pv→Post n0 B0 (jbB fl o forb) m h w m' h' w'→Q (.panic [{ v:=pv,recovered:=false }]) a w'):O.wp P a w K Q:=by
 have hfl': ∀id,jbB fl o forb id=true→n0≤id:=fun id hid=>hfl id (jft id hid)
 cases hc:cOpU P O with
 |none=>
  rw[hc] at ho;simp only[W8] at ho;unfold jfX at hrun;rw[ho] at hrun;simp[jah] at hrun
 |some x=>
  rw[hc] at ho;simp only[W9] at ho;unfold jfX at hrun;split at hrun
  ·rename_i f args heq
   rw[heq] at ho;subst ho;obtain⟨f0,args0,at_,hop,h1,h2⟩:=jr8 (cOpU_cOp hc);obtain⟨dst,op,ty,pos,af,gd⟩:=O;simp only at hop;subst hop
   split at hrun
   ·rename_i g vs hg
    obtain⟨hfn,hcall⟩:=hC.1 _ _ _ _ _ hrun;obtain⟨us,hus,hex⟩:=jo4 (n0:=n0) (B0:=B0) (w:=w) (ρ:=a.eval) (at_:=at_) (dst:=dst) (ty:=ty) (pos:=pos) (af:=af) (gd:=gd) h1 h2 (fun y hy=>hs y (by simpa[Op.operands,Call.operands] using hy)) hg hfn;unfold Oper.wp;rw[hex,Oper.upon_enter];refine (hcall n0 B0 m w us r hfl' hus).mono fun e w' hpost=>?_
    rcases hpost with⟨v,h',v',m',hkk,rfl,hp,hv⟩|⟨pv,h',m',hg,rfl,hp⟩
    ·exact hK v h' v' w' m' hkk hp hv
    ·exact hG pv h' m' w' hg hp
   ·exact hrun.elim
  ·rename_i x1 heq
   rw[heq] at ho;subst ho;obtain⟨x0,hop,h1⟩:=jou hc;obtain⟨dst,op,ty,pos,af,gd⟩:=O;simp only at hop;subst hop
   obtain⟨t,ht,hgp⟩:=hC.2 _ _ _ _ hrun;injection ht with ht
   have hx:=hs x0 (by simp[Op.operands]) x1 h1;rw[ht] at hx;have hxv:=hx.lit;unfold Oper.wp;have:(execOp a.eval { dst:=dst,op:= .panic x0,type:=ty,pos:=pos,after:=af,guard:=gd }).run P w= .halt (.panic (.iface t (.agg #[]))) w:=by
    simp[execOp,hxv,Instr.panic,goPanic,Sem.run,Result.andThen]
   rw[this];exact hG _ h m w hgp (.refl r)
  ·obtain⟨v,h',he,hkk⟩:=hrun
   rw[ho] at he;obtain⟨v',w',m',hy,hp,hv⟩:=sim_opU (P:=P) (ρ:=a.eval) r hfl' (fun v=>rfl) hc hs he;unfold Oper.wp;rcases hy with hy|⟨hy,rfl⟩
   ·rw[hy];exact hK v h' v' w' m' hkk hp hv
   ·rw[hy];exact hK v h' undef w' m' hkk hp hv
theorem jmT {C:jby}{base:Nat}{fl:Nat→Bool}{d:Seen}{forb:List Nat}{o:jav}{s:jal}{h h':Heap}{v:AV}{KK:AV→Heap→Prop}(hrun:jd9 C base fl d forb o s h=some (v,h'))(k:KK v h'):jfX (jhw C) base fl d forb o s h KK:=by
 unfold jfX;unfold jd9 at hrun;split
 ·rename_i f args heq
  rw[heq] at hrun;simp only at hrun;split at hrun
  ·rename_i g vs hg
   exact⟨v,h',hrun,k⟩
  ·cases hrun
 ·rename_i x1 heq
  rw[heq] at hrun;simp[jah] at hrun
 ·rename_i hn1 hn2
  split at hrun
  ·rename_i f args heq
   exact (hn1 f args heq).elim
  ·exact⟨v,h',hrun,k⟩
theorem jiz {C:jby}(hC:jcP P C){n0 B0:Nat}{base:Nat}{fl:Nat→Bool}{d:Seen}{forb:List Nat}{o:jav}{O:Oper}(ho:o.op=(cOp P O).getD .bad)
  {s:jal} {h h':Heap} {v:AV} (hrun:jd9 C base fl d forb o s h=some (v,h')) {m:Map} {w:World} (r:Rels n0 B0 m h w) (hfl: ∀id,fl id=true→n0≤id) {a:Act}
  (hs: ∀y∈O.op.operands.toList,∀ z,cOpd y=some z→VR m (z.ev s) (a.eval y)) {K:Act→World→Prop} {Q:Exit→Act→World→Prop}
  (hK: ∀v' w' m',Post n0 B0 (jbB fl o forb) m h w m' h' w'→VR m' v v'→K (a.put O.dst v') w'):O.wp P a w K Q:=by
 cases hc:cOp P O with
 |none=>
  rw[hc] at ho;simp only[W8] at ho;unfold jd9 at hrun;rw[ho] at hrun;simp[jah] at hrun
 |some x=>
  have hu:cOpU P O=some x:=by unfold cOpU;rw[hc]
  rw[hc] at ho;refine jt6 (jiM hC) (base:=base) (fl:=fl) (d:=d) (forb:=forb) (o:=o) (KK:=fun v2 h2=>v2=v∧h2=h') (by rw[hu];exact ho) ?_ r hfl hs (fun v2 h2 v' w' m' e p hv=>?_) (fun _ _ _ _ h=>h.elim)
  ·exact jmT hrun ⟨rfl,rfl⟩
  ·obtain⟨rfl,rfl⟩:=e
   exact hK v' w' m' p hv
/-! ### jal -/
structure SR (nt:Nat)(m:Map)(s:jal)(a:Act):Prop where
  size:a.tmps.size=nt
  slot: ∀t,VR m (s t) (a.tmps.getD t undef)
theorem jlD (a:Act)(d:Option Tmp)(v:Value)(t:Nat)(hd: ∀x,d=some x→x<a.tmps.size):(a.put d v).tmps.getD t undef=if d=some t then v else a.tmps.getD t undef:=by
 cases d with
 |none=>simp[Act.put]
 |some x=>
  have hx:=hd x rfl;simp only[Act.put,J0,G5];by_cases h:x=t
  ·subst h;simp[hx]
  ·simp[h]
theorem jp0 (a:Act)(d:Option Tmp)(v:Value):(a.put d v).tmps.size=a.tmps.size:=by
 cases d<;>simp[Act.put]
theorem jkj (s:jal)(d:Option Nat)(v:AV)(t:Nat):put s d v t=if d=some t then v else s t:=by
 cases d with
 |none=>simp[put]
 |some x=>
  simp only[put,upd];by_cases h:t=x
  ·subst h;simp
  ·rw[if_neg h,if_neg (fun e=>h (by injection e with e;exact e.symm))]
theorem SR.put {nt:Nat}{m m':Map}{s:jal}{a:Act}(h:SR nt m s a)(hm: ∀id b,m id=some b→m' id=some b){d:Option Nat}(hd: ∀x,d=some x→x<nt){v:AV}{v':Value}(hv:VR m' v v'):SR nt m' (put s d v) (a.put d v'):=by
 refine⟨by rw[jp0];exact h.size,fun t=>?_⟩;rw[jkj,jlD a d v' t (by rw[h.size];exact hd)];split
 ·exact hv
 ·exact (h.slot t).mono hm
theorem SR.mono {nt:Nat}{m m':Map}{s:jal}{a:Act}(h:SR nt m s a)(hm: ∀id b,m id=some b→m' id=some b):SR nt m' s a:=⟨h.size,fun t=>(h.slot t).mono hm⟩
theorem SR.opd {nt:Nat}{m:Map}{s:jal}{a:Act}(h:SR nt m s a){y:Operand}{z:Opd}(hz:cOpd y=some z):VR m (z.ev s) (a.eval y):=jnX hz fun t _=>h.slot t
theorem jdt {m:Map}{ops:Array Oper}{O:Oper}{o:jav}{s:jal}{a:Act}(hg:jdX ops O=some o.guard)(hs: ∀t w,o.guard=some (t,w)→VR m (s t) (a.tmps.getD t undef)){b:Bool}(hb:jbu o s=some b):Region.wanted O (yielded ops a.tmps)=b:=by
 unfold jdX at hg;unfold jbu at hb;unfold Region.wanted
 cases hG:O.guard with
 |none=>
  rw[hG] at hg;simp only[U4] at hg;rw[←hg] at hb;simp at hb;simp[hb]
 |some p=>
  obtain⟨j,want⟩:=p;rw[hG] at hg;simp only at hg;split at hg
  ·rename_i t ht
   simp only[U4] at hg;rw[←hg] at hb hs;simp only at hb;have hv:=hs t want rfl;simp only[yielded,ht,Q9];split at hb
   ·rename_i c hc
    rw[hc] at hv;injection hb with hb;subst hb
    have hv:=hv.bool;rw[J0] at hv
    cases hq:a.tmps[t]? with
    |none=>rw[hq] at hv;simp[undef] at hv
    |some q=>
     rw[hq] at hv;simp at hv;subst hv;simp
   ·rename_i c hnot hc
    rw[hc] at hv;injection hb with hb;subst hb
    have hv:=hv.lit;rw[J0] at hv
    cases hq:a.tmps[t]? with
    |none=>simp
    |some q=>
     rw[hq] at hv;simp at hv;subst hv
     cases q<;>first|(simp;done)|(exact (hnot _ rfl).elim)
   ·rename_i hc
    rw[hc] at hv;injection hb with hb;subst hb
    rw[J0] at hv
    cases hq:a.tmps[t]? with
    |none=>simp
    |some q=>
     rw[hq] at hv;simp only[W9] at hv
     cases hv with
     |tuple hl hh=>simp
   ·cases hb
  ·cases hg
end
end
section
open Go
section
variable {P:Program}
structure Comp (P:Program)(nt:Nat)(ops:Array Oper)(l:List jav):Prop where
  len:l.length=ops.size
  at_: ∀(i:Nat) O,ops[i]?=some O→ ∃o,l[i]?=some o∧o.op=(cOp P O).getD .bad∧o.dst=O.dst∧jdX ops O=some o.guard∧ ∀d,O.dst=some d→d<nt
structure je3 (C:jby)(base:Nat)(fl:Nat→Bool)(l:List jav)(S:Nat→jal)(H:Nat→Heap)(D:Nat→Seen):Prop where
  step: ∀(i:Nat) o,l[i]?=some o→
    (jbu o (S i)=some true∧ ∃v,jd9 C base fl (D i) (jcw fl (D i) o (l.drop (i+1)) (S i) (H i)) o (S i) (H i)=some (v,H (i+1))∧S (i+1)=put (S i) o.dst v∧
      D (i+1)=(D i).with o (jcw fl (D i) o (l.drop (i+1)) (S i) (H i)) (S i))∨
    (jbu o (S i)=some false∧H (i+1)=H i∧S (i+1)=put (S i) o.dst .no∧D (i+1)=D i)
theorem jll {C:jby}{base:Nat}{fl:Nat→Bool}: ∀(l:List jav) (d:Seen) (s:jal) (h:Heap) (s':jal) (h':Heap),jcv C base fl d l s h=some (s',h')→
  ∃S H D,S 0=s∧H 0=h∧D 0=d∧S l.length=s'∧H l.length=h'∧je3 C base fl l S H D
 |[],d,s,h,s',h',hr=>by
  simp only[jcv] at hr;injection hr with hr;injection hr with h1 h2
  exact⟨fun _=>s,fun _=>h,fun _=>d,rfl,rfl,rfl,h1,h2,⟨fun i o hi=>by simp at hi⟩⟩
 |o::l,d,s,h,s',h',hr=>by
  simp only[jcv] at hr;have glue: ∀(d1:Seen) (s1:jal) (h1:Heap) (S:Nat→jal) (H:Nat→Heap) (D:Nat→Seen),S 0=s1→H 0=h1→D 0=d1→S l.length=s'→H l.length=h'→je3 C base fl l S H D→
    ((jbu o s=some true∧ ∃v,jd9 C base fl d (jcw fl d o l s h) o s h=some (v,h1)∧s1=put s o.dst v∧d1=d.with o (jcw fl d o l s h) s)∨(jbu o s=some false∧h1=h∧s1=put s o.dst .no∧d1=d))→
    ∃S H D,S 0=s∧H 0=h∧D 0=d∧S (o::l).length=s'∧H (o::l).length=h'∧je3 C base fl (o::l) S H D:=by
   intro d1 s1 h1 S H D e1 e2 e3 e4 e5 tr hst;refine⟨fun i=>match i with|0=>s|i+1=>S i,fun i=>match i with|0=>h|i+1=>H i,fun i=>match i with|0=>d|i+1=>D i,rfl,rfl,rfl,e4,e5,⟨fun i o' hi=>?_⟩⟩
   cases i with
   |zero=>
    simp at hi;subst hi
    simp only[e1,e2,e3,W4,W1];exact hst
   |succ i=>
    simp at hi;simpa using tr.step i o' hi
  split at hr
  ·rename_i hw
   split at hr
   ·rename_i v h1 hv
    obtain⟨S,H,D,e1,e2,e3,e4,e5,tr⟩:=jll l _ _ _ _ _ hr;exact glue _ _ _ S H D e1 e2 e3 e4 e5 tr (.inl ⟨hw,v,hv,rfl,rfl⟩)
   ·cases hr
  ·rename_i hw
   obtain⟨S,H,D,e1,e2,e3,e4,e5,tr⟩:=jll l _ _ _ _ _ hr;exact glue _ _ _ S H D e1 e2 e3 e4 e5 tr (.inr ⟨hw,rfl,rfl,rfl⟩)
  ·cases hr
theorem jfZ {ops:Array Oper}{O:Oper}{o:jav}(hg:jdX ops O=some o.guard){t:Nat}{b:Bool}(h:o.guard=some (t,b)):t∈looks ops O:=by
 unfold looks;rw[hg,h];simp
theorem jua {ops:Array Oper}{O:Oper}{t:Nat}(h: .tmp t∈O.op.operands.toList):t∈looks ops O:=by
 unfold looks;rw[O3];left;unfold tmpsOf;exact List.mem_filterMap.2 ⟨_,h,rfl⟩
theorem sim_step {C:jby}(hC:jcP P C){n0 B0 nt base:Nat}{fl:Nat→Bool}(hfl: ∀id,fl id=true→n0≤id){ops:Array Oper}{l:List jav}(hc:Comp P nt ops l){S:Nat→jal}{H:Nat→Heap}{D:Nat→Seen}(tr:je3 C base fl l S H D)
  {i:Nat} {O:Oper} (hO:ops[i]?=some O) {m:Map} {w:World} (r:Rels n0 B0 m (H i) w) {a:Act} (hs:SR nt m (S i) a) {K:Act→World→Prop} {Q:Exit→Act→World→Prop}
  (hK: ∀a' w' m',Post n0 B0 fl m (H i) w m' (H (i+1)) w'→SR nt m' (S (i+1)) a'→a'.defers=a.defers→K a' w'):wpOp P ops Q i K a w:=by
 obtain⟨o,ho,hop,hdst,hg,hd⟩:=hc.at_ i O hO;unfold wpOp;rw[hO];simp only;have hmono: ∀{fl':Nat→Bool} {m':Map} {h':Heap} {w':World},Post n0 B0 fl' m (H i) w m' h' w'→ ∀id b,m id=some b→m' id=some b:=fun p=>p.ext r.dom
 rcases tr.step i o ho with⟨hw,v,hrun,hS,hD⟩|⟨hw,hH,hS,hD⟩
 ·rw[jdt hg (fun t b hgt=>hs.slot t) hw]
  simp only[if_true];refine .inl (jiz hC hop hrun r hfl (fun y hy z hz=>hs.opd hz) fun v' w' m' hp hv=>hK _ w' m' (hp.mono fun i h=>jft i h) ?_ ?_)
  ·rw[hS,← hdst]
   exact hs.put (hmono hp) (by rw[hdst];exact hd) hv
  ·cases hdd:O.dst<;>rfl
 ·rw[jdt hg (fun t b hgt=>hs.slot t) hw]
  simp only[N6,if_false];refine hK _ w m ?_ ?_ ?_
  ·rw[hH];exact .refl r
  ·rw[hS,← hdst]
   exact hs.put (fun _ _ h=>h) (by rw[hdst];exact hd) VRs.no
  ·cases hdd:O.dst<;>rfl
structure jvB (P:Program)(nt:Nat)(ops:Array Oper)(i:Nat)(l:List jav):Prop where
  at_: ∀(j:Nat) o,l[j]?=some o→ ∃O,ops[i+j]?=some O∧o.op=(cOpU P O).getD .bad∧o.dst=O.dst∧jdX ops O=some o.guard∧ ∀d,O.dst=some d→d<nt
theorem jvB.tail {nt:Nat}{ops:Array Oper}{i:Nat}{o:jav}{l:List jav}(h:jvB P nt ops i (o::l)):jvB P nt ops (i+1) l:=
 ⟨fun j p hp=>by obtain⟨O,h1,h2⟩:=h.at_ (j+1) p (by simpa using hp);exact⟨O,by rw[show i+1+j=i+(j+1) by omega];exact h1,h2⟩⟩
theorem jlw {Gp:Value→Prop}{C:jeH}(hC:jer P Gp C){n0 B0 nt base:Nat}{fl:Nat→Bool}(hfl: ∀id,fl id=true→n0≤id){ops:Array Oper}{defs:List Deferred}{Q:Exit→Act→World→Prop}{rest:List Nat}{m0:Map}{h0:Heap}{w0:World}(hd0: ∀id b,m0 id=some b→id<h0.length)
  (hG: ∀pv h' m' a' w',Gp pv→Post n0 B0 fl m0 h0 w0 m' h' w'→a'.defers=defs→Q (.panic [{ v:=pv,recovered:=false }]) a' w'):
  ∀(l:List jav) (d:Seen) (i:Nat) (s:jal) (h:Heap) (KK:jal→Heap→Prop),jvB P nt ops i l→jbX C base fl d l s h KK→ ∀m a w,Post n0 B0 fl m0 h0 w0 m h w→SR nt m s a→a.defers=defs→
   (∀s' h' a' w' m',KK s' h'→Post n0 B0 fl m0 h0 w0 m' h' w'→SR nt m' s' a'→a'.defers=defs→wpOps P ops Q rest a' w')→wpOps P ops Q (List.range' i l.length++rest) a w
 |[],d,i,s,h,KK,hc,hr,m,a,w,hp,hs,hda,hK=>by
  simpa using hK s h a w m hr hp hs hda
 |o::l,d,i,s,h,KK,hc,hr,m,a,w,hp,hs,hda,hK=>by
  obtain⟨O,hO,hop,hdst,hg,hd⟩:=hc.at_ 0 o rfl;rw[M5] at hO;rw[Q3,List.range'_succ,N9,wpOps_cons];unfold wpOp;rw[hO];simp only;have hmono: ∀{fl':Nat→Bool} {m':Map} {h':Heap} {w':World},Post n0 B0 fl' m h w m' h' w'→ ∀id b,m id=some b→m' id=some b:=fun p=>p.ext hp.rels.dom
  simp only[jbX] at hr;split at hr
  ·rename_i hw
   rw[jdt hg (fun t b hgt=>hs.slot t) hw];simp only[if_true];refine .inl (jt6 hC hop hr hp.rels hfl (fun y hy z hz=>hs.opd hz) (fun v h' v' w' m' hkk pp hv=>?_) fun pv h' m' w' hg pp=>hG pv h' m' a w' hg (hp.trans hd0 (pp.mono fun i h=>jft i h)) hda);refine jlw hC hfl hd0 hG l _ (i+1) _ h' KK hc.tail hkk m' _ w' (hp.trans hd0 (pp.mono fun i h=>jft i h)) ?_ ?_ hK
   ·rw[←hdst]
    exact hs.put (hmono pp) (by rw[hdst];exact hd) hv
   ·cases hdd:O.dst<;>exact hda
  ·rename_i hw
   rw[jdt hg (fun t b hgt=>hs.slot t) hw];simp only[N6,if_false];refine jlw hC hfl hd0 hG l _ (i+1) _ h KK hc.tail hr m _ w hp ?_ ?_ hK
   ·rw[←hdst]
    exact hs.put (fun _ _ h=>h) (by rw[hdst];exact hd) VRs.no
   ·cases hdd:O.dst<;>exact hda
  ·exact hr.elim
theorem jfN {C:jby}{base:Nat}{fl:Nat→Bool}: ∀(l:List jav) (d:Seen) (s:jal) (h:Heap) (s':jal) (h':Heap) (KK:jal→Heap→Prop),jcv C base fl d l s h=some (s',h')→KK s' h'→jbX (jhw C) base fl d l s h KK
 |[],d,s,h,s',h',KK,hr,hk=>by
  simp only[jcv,U4,Prod.mk.injEq] at hr;obtain⟨rfl,rfl⟩:=hr;exact hk
 |o::l,d,s,h,s',h',KK,hr,hk=>by
  simp only[jcv] at hr;simp only[jbX];split at hr
  ·rename_i hw
   split at hr
   ·rename_i v h1 hv
    have ih:=jfN l _ _ _ _ _ KK hr hk;exact jmT hv ih
   ·cases hr
  ·exact jfN l _ _ _ _ _ KK hr hk
  ·cases hr
theorem jtd {O:Oper}{a:Act}{w:World}{K:Act→World→Prop}(h:O.wp P a w K (fun _ _ _=>False)): ∃a' w',K a' w':=by
 unfold Oper.wp at h;unfold Oper.upon at h;split at h
 ·exact⟨_,_,h⟩
 ·exact⟨_,_,h⟩
 ·exact⟨_,_,h⟩
 ·obtain⟨e,w',fr,hR,_⟩:=h []
  split at hR
  ·exact⟨_,_,hR⟩
  ·exact hR.elim
  ·obtain⟨_,_,h⟩:=hR;exact h.elim
 ·obtain⟨v,w',hR,_⟩:=h default []
  exact⟨_,_,hR⟩
 ·exact h.elim
 ·exact h.elim
theorem jte {ops:Array Oper}{i:Nat}{a:Act}{w:World}{K:Act→World→Prop}(h:wpOp P ops (fun _ _ _=>False) i K a w): ∃a' w',K a' w':=by
 unfold wpOp at h;split at h
 ·exact⟨_,_,h⟩
 ·split at h
  ·rcases h with h|⟨_,_,_,h⟩
   ·exact jtd h
   ·exact h.elim
  ·exact⟨_,_,h⟩
theorem jiC {C:jby}(hC:jcP P C){n0 B0 nt base:Nat}{fl:Nat→Bool}(hfl: ∀id,fl id=true→n0≤id){ops:Array Oper}{l:List jav}(hc:Comp P nt ops l){S:Nat→jal}{H:Nat→Heap}{D:Nat→Seen}(tr:je3 C base fl l S H D)
  {m0:Map} {w0:World} (r0:Rels n0 B0 m0 (H 0) w0) {a0:Act} (hs0:SR nt m0 (S 0) a0): ∀i,i≤ops.size→ ∃m w a,Post n0 B0 fl m0 (H 0) w0 m (H i) w∧SR nt m (S i) a
 |0,_=>⟨m0,w0,a0,.refl r0,hs0⟩
 |i+1,hi=>by
  obtain⟨m,w,a,hp,hs⟩:=jiC hC hfl hc tr r0 hs0 i (by omega);obtain⟨O,hO⟩: ∃O,ops[i]?=some O:=⟨ops[i]'(by omega),V7 _⟩;obtain⟨a',w',m',hp',hs'⟩:=jte (P:=P) (K:=fun a' w'=> ∃m',Post n0 B0 fl m (H i) w m' (H (i+1)) w'∧SR nt m' (S (i+1)) a')
   (sim_step hC hfl hc tr hO hp.rels hs fun a' w' m' hp' hs' _=>⟨m',hp',hs'⟩)
  exact⟨m',w',a',hp.trans r0.dom hp',hs'⟩
/-! ### Kinds of operations -/
def clsA:AOp→Nat
  | .load _ _=>1
  | .box _ _| .zero _| .lits _ _ _ _| .mkSlice _ _ _ _ _=>2
  | .store _ _ _| .call _ _| .append _ _ _ _| .copy _ _ _| .clear _ _ _| .mkMap| .mapSet _ _ _| .mapGet _ _ _ _| .mapDel _ _| .mapClear _| .mapLen _| .sliceArr _ _ _ _ _ _| .toStr _| .mkMapK _| .mapSetK _ _ _ _| .mapGetK _ _ _ _ _=>3
  |_=>0
theorem jh2 {O:Oper}{x:AOp}(hc:cOp P O=some x):clsA x=jhL O.op:=by
 obtain⟨dst,op,ty,pos,af,gd⟩:=O
 cases op<;>simp only[cOp,cBin] at hc
 all_goals (try (cases hc;done))
 all_goals (repeat' split at hc)
 all_goals (try (cases hc;done))
 all_goals first
  |(injection hc with hc;subst hc;rfl)
  |(simp[E0] at hc;done)
  |(simp[E0] at hc;(repeat (obtain⟨_,hc⟩:=hc));first|rfl|(subst hc;rfl))
  |(simp only[U5] at hc;obtain⟨_,_,rfl⟩:=hc;rfl)
  |(exfalso;simp_all;done)
  |(simp only[Op.call.injEq] at *; subst_vars;simp[E0] at hc;(repeat (obtain⟨_,hc⟩:=hc));first|rfl|(subst hc;rfl))
  |skip
end
end
end Go.Proofs.YtlkapggcppcafaaGreatDoor
