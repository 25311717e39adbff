/-
  ZM, a machine of pure values over AM: its values, how they stand for those of AM.
-/
import Derived.Test.YtlkapggcppcafaaGreatDoorMrT4
set_option linter.unusedVariables false
set_option maxHeartbeats 32000000
set_option linter.unusedSimpArgs false
open Bool renaming false_eq_true→N6,and_eq_true→U2,or_eq_true→R7,not_eq_true'→A9
open List renaming eq_nil_of_length_eq_zero→Y9,getElem?_append_left→V5,getElem?_append_right→N0,getElem?_take→O8,getElem?_drop→O9,getElem?_eq_some_iff→U0,getElem?_eq_getElem→U1,length_append→G3,length_cons→Q3,length_nil→G9,drop_zero→W1,take_of_length_le→I5,getElem?_set→M1,length_set→D5,replicate→O6,flatten_cons→D6,drop_of_length_le→D9,take_append_of_le_length→I4,getElem_mem→M4,getD_eq_getElem?_getD→C0,length_take→C4,length_drop→C5,mem_of_mem_drop→M7,mem_of_mem_take→M6,drop_take→Q0,drop_drop→N7,take_take→C6,append_assoc→M8,mem_of_getElem?→R5,mem_append→O3,flatten_append→C9,append_nil→A0,drop→A3,mem_cons→A4,all_eq_true→N2,replicate_succ→A5,mem_replicate→A6,mem_append_left→A7,mem_append_right→A8,contains_iff_mem→B2,mem_filter→J7,mem_filterMap→D0
open Nat renaming le_refl→V2,le_trans→V3,lt_of_lt_of_le→V0,le_antisymm→D4,add_mul→Y0,one_mul→D7,add_sub_cancel_left→D8,mul_le_mul_right→E9,min_eq_left→C7,zero_add→C8,lt_succ_self→A2
open Option renaming map_some→U9
open Option.some renaming injEq→U4
open Prod.mk renaming injEq→O4
namespace Go.Proofs.YtlkapggcppcafaaGreatDoor
section
open Go Go.RowKit
/-! ### Values -/
inductive ZV where
  |val (v:Value)
  |func (f:FuncId) (caps:List ZV)
  | fz (k : Nat) (ex : Bool) (rows : List (List ZV))   -- a slice that nobody writes to any more
  | own (i g off len : Nat) (ex : Bool)                -- a slice of block i, ys it was when that had grown g times
  | ptr (i o : Nat)                                    -- into a box
  | eptr (i g e o : Nat)                               -- into element e of block i
  | fptr (k : Nat) (rows : List (List ZV)) (j o : Nat) -- into an element of a slice that nobody writes to
  | mp (i : Nat)                                       -- a map: a box that has its entries
  | bfunc (f : FuncId) (first caps : List ZV)          -- a function with its first arguments
  |agg (cs:List ZV)
  |tuple (vs:List ZV)
  deriving Inhabited
inductive ZB where
  |box (cs:List ZV)
  |grow (g k:Nat) (rows:List (List ZV))
  |dead
  deriving Inhabited
abbrev ZH:=List ZB
abbrev ZS:=Nat→ZV
abbrev ZV.nil:ZV:= .val (.slice none 0 0)
abbrev ZV.no:ZV:= .tuple []
def zupd (s:ZS)(d:Nat)(v:ZV):ZS:=fun t=>if t=d then v else s t
def zput (s:ZS)(d:Option Nat)(v:ZV):ZS:=match d with
  |some d=>zupd s d v
  |none=>s
def ZV.cells:ZV→List ZV
  | .agg cs=>cs
  |v=>[v]
def ZV.isCell:ZV→Bool
  | .agg _| .tuple _=>false
  |_=>true
/-! ### What stands for what -/
inductive FR (Fr:Nat→Prop)(h:Heap):ZV→AV→Prop
  |val (v:Value):FR Fr h (.val v) (.val v)
  |func (f:FuncId):FR Fr h (.func f []) (.func f [])
  |fnil {k:Nat} {ex:Bool} {a:AV}:(a= .nil∨(a= .hole∧ex=false))→FR Fr h (.fz k ex []) a
  |fz {k:Nat} {ex:Bool} {rows:List (List ZV)} {id off lb:Nat} {ex':Bool} {row:List AV} (cell:Nat→AV):Fr id→blk h id=some row→off+rows.length*k≤row.length→rows.length≤lb→(ex=true→ex'=true∧lb=rows.length)→(∀r∈rows,r.length=k)→
      (∀i z,rows.flatten[i]?=some z→row[off+i]?=some (cell i))→(∀i z,rows.flatten[i]?=some z→FR Fr h z (cell i))→FR Fr h (.fz k ex rows) (.slice id off rows.length lb ex' k)
structure Wd where
  Fr:Nat→Prop
  mu:Nat→Option (Nat×Nat)
  H:ZH
  h:Heap
def jdq:AV→List Nat
  | .ptr id _=>[id]
  | .slice id _ _ _ _ _=>[id]
  |_=>[]
def Hdr (w:Wd)(i k:Nat)(rows:List (List ZV))(off len:Nat)(ex:Bool)(a:AV):Prop:=
  (w.mu i=none∧rows=[]∧off=0∧len=0∧(a= .nil∨ ∃id o row,a= .slice id o 0 0 true k∧w.Fr id∧blk w.h id=some row∧o≤row.length))∨
  ∃id b lb ex' row,w.mu i=some (id,b)∧a= .slice id (b+off*k) len lb ex' k∧off+len≤rows.length∧len≤lb∧blk w.h id=some row∧b+off*k+lb*k≤row.length∧(ex=true→ex'=true∧lb=len)
def Jk (w:Wd)(i:Nat)(a:AV):Prop:= ∀id∈jdq a,id<w.h.length∧ ∀i' p,w.mu i'=some p→p.1=id→i'=i
def isSl:AV→Bool
  | .val (.slice none 0 0)=>true
  | .slice .. =>true
  |_=>false
inductive ZR (w:Wd):ZV→AV→Prop
  |fr {z:ZV} {a:AV}:FR w.Fr w.h z a→ZR w z a
  |ptr {i o id:Nat} {cs:List ZV}:w.H[i]?=some (.box cs)→w.mu i=some (id,0)→ZR w (.ptr i o) (.ptr id o)
  |mp {i id:Nat} {cs:List ZV}:w.H[i]?=some (.box cs)→w.mu i=some (id,0)→ZR w (.mp i) (.mp id)
  |own {i g off len:Nat} {ex:Bool} {a:AV}:i<w.H.length→(∀g' k rows,w.H[i]?=some (.grow g' k rows)→g≤g'∧(g=g'→Hdr w i k rows off len ex a))→Jk w i a→isSl a=true→ZR w (.own i g off len ex) a
  |eptr {i g e o id x:Nat}:i<w.H.length→(∀g' k rows,w.H[i]?=some (.grow g' k rows)→g≤g'∧(g=g'→ ∃b,w.mu i=some (id,b)∧x=b+e*k+o∧e<rows.length))→Jk w i (.ptr id x)→ZR w (.eptr i g e o) (.ptr id x)
  |fptr {k:Nat} {ex:Bool} {rows:List (List ZV)} {id off lb j o:Nat} {ex':Bool}:FR w.Fr w.h (.fz k ex rows) (.slice id off rows.length lb ex' k)→j<rows.length→ZR w (.fptr k rows j o) (.ptr id (off+j*k+o))
  |agg {zs:List ZV} {ys:List AV}:zs.length=ys.length→(∀(i:Nat) z a,zs[i]?=some z→ys[i]?=some a→ZR w z a)→ZR w (.agg zs) (.agg ys)
  |tuple {zs:List ZV} {ys:List AV}:zs.length=ys.length→(∀(i:Nat) z a,zs[i]?=some z→ys[i]?=some a→ZR w z a)→ZR w (.tuple zs) (.tuple ys)
  |func {f:FuncId} {zs:List ZV} {ys:List AV}:zs.length=ys.length→(∀(i:Nat) z a,zs[i]?=some z→ys[i]?=some a→ZR w z a)→ZR w (.func f zs) (.func f ys)
  |bfunc {f:FuncId} {zs us:List ZV} {ys vs:List AV}:zs.length=ys.length→us.length=vs.length→(∀(i:Nat) z a,zs[i]?=some z→ys[i]?=some a→ZR w z a)→(∀(i:Nat) z a,us[i]?=some z→vs[i]?=some a→ZR w z a)→ZR w (.bfunc f zs us) (.bfunc f ys vs)
def ZRs (w:Wd)(zs:List ZV)(ys:List AV):Prop:=zs.length=ys.length∧ ∀(i:Nat) z a,zs[i]?=some z→ys[i]?=some a→ZR w z a
structure Ext (w w':Wd):Prop where
  frm: ∀id,w.Fr id→w'.Fr id
  frb: ∀id row,w.Fr id→blk w.h id=some row→blk w'.h id=some row
  hl:w.h.length≤w'.h.length
  Hl:w.H.length≤w'.H.length
  mu: ∀i p',w'.mu i=some p'→(∃p,w.mu i=some p∧p.1=p'.1)∨w.h.length≤p'.1
  box: ∀(i:Nat) cs,w.H[i]?=some (.box cs)→(∃cs',w'.H[i]?=some (.box cs'))∧w'.mu i=w.mu i
  boxr: ∀(i:Nat) cs',i<w.H.length→w'.H[i]?=some (.box cs')→ ∃cs,w.H[i]?=some (.box cs)
  grow: ∀(i g' k:Nat) rows',i<w.H.length→w'.H[i]?=some (.grow g' k rows')→ ∃g rows,w.H[i]?=some (.grow g k rows)∧g≤g'∧(g=g'→w'.mu i=w.mu i∧rows'.length=rows.length∧ ∀id b row,w.mu i=some (id,b)→blk w.h id=some row→ ∃row',blk w'.h id=some row'∧row'.length=row.length)
theorem Ext.refl (w:Wd):Ext w w:=⟨fun _ h=>h,fun _ _ _ h=>h,V2 _,V2 _,fun i p h=> .inl ⟨p,h,rfl⟩,fun i cs h=>⟨⟨cs,h⟩,rfl⟩,fun i cs _ h=>⟨cs,h⟩,fun i g k rows hi h=>⟨g,rows,h,V2 _,fun _=>⟨rfl,rfl,fun id b row _ hr=>⟨row,hr,rfl⟩⟩⟩⟩
theorem Ext.trans {a b c:Wd}(p:Ext a b)(q:Ext b c):Ext a c:=by
 refine⟨fun id h=>q.frm id (p.frm id h),fun id row h hr=>q.frb id row (p.frm id h) (p.frb id row h hr),V3 p.hl q.hl,V3 p.Hl q.Hl,fun i x hx=>?_,fun i cs hb=>?_,fun i cs hi hb=>(q.boxr i cs (V0 hi p.Hl) hb).elim fun cs1 h1=>p.boxr i cs1 hi h1,fun i g k rows hi hg=>?_⟩
 ·rcases q.mu i x hx with⟨y,hy,e⟩|h
  ·rcases p.mu i y hy with⟨z,hz,e'⟩|h
   ·exact .inl ⟨z,hz,e'.trans e⟩
   ·exact .inr (e▸h)
  ·exact .inr (V3 p.hl h)
 ·obtain⟨⟨cs1,h1⟩,e1⟩:=p.box i cs hb
  obtain⟨h2,e2⟩:=q.box i cs1 h1;exact⟨h2,e2.trans e1⟩
 ·obtain⟨g1,r1,h1,l1,f1⟩:=q.grow i g k rows (V0 hi p.Hl) hg
  obtain⟨g0,r0,h0,l0,f0⟩:=p.grow i g1 k r1 hi h1;refine⟨g0,r0,h0,V3 l0 l1,fun e=>?_⟩;have e1:g0=g1:=D4 l0 (e▸l1);have e2:g1=g:=e1▸e;obtain⟨a1,a2,a3⟩:=f1 e2;obtain⟨b1,b2,b3⟩:=f0 e1;refine⟨a1.trans b1,a2.trans b2,fun id b row hm hr=>?_⟩;obtain⟨row1,hr1,hl1⟩:=b3 id b row hm hr;obtain⟨row2,hr2,hl2⟩:=a3 id b row1 (b1.trans hm) hr1;exact⟨row2,hr2,hl2.trans hl1⟩
theorem FR.mono {Fr Fr':Nat→Prop}{h h':Heap}(h1: ∀id,Fr id→Fr' id)(h2: ∀id row,Fr id→blk h id=some row→blk h' id=some row){z:ZV}{a:AV}(hr:FR Fr h z a):FR Fr' h' z a:=by
 induction hr with
 |val v=>exact .val v
 |func f=>exact .func f
 |fnil e=>exact .fnil e
 |fz cell q1 q2 q3 q4 q5 q6 q7 _ ih=>exact .fz cell (h1 _ q1) (h2 _ _ q1 q2) q3 q4 q5 q6 q7 ih
theorem Hdr.ext {w w':Wd}(e:Ext w w'){i g k:Nat}{rows rows':List (List ZV)}(h0:w.H[i]?=some (.grow g k rows))(hm:w'.mu i=w.mu i)(hl:rows'.length=rows.length)(hb: ∀id b row,w.mu i=some (id,b)→blk w.h id=some row→ ∃row',blk w'.h id=some row'∧row'.length=row.length)
  {off len:Nat} {ex:Bool} {a:AV} (hh:Hdr w i k rows off len ex a):Hdr w' i k rows' off len ex a:=by
 rcases hh with⟨q1,q2,q3,q4,q5⟩|⟨id,b,lb,ex',row,q1,q2,q3,q4,q5,q6,q7⟩
 ·refine .inl ⟨hm.trans q1,Y9 (by rw[hl,q2];rfl),q3,q4,?_⟩
  rcases q5 with q5|⟨id,o,row,r1,r2,r3,r4⟩
  ·exact .inl q5
  ·exact .inr ⟨id,o,row,r1,e.frm id r2,e.frb id row r2 r3,r4⟩
 ·obtain⟨row',r1,r2⟩:=hb id b row q1 q5
  exact .inr ⟨id,b,lb,ex',row',hm.trans q1,q2,by omega,q4,r1,by omega,q7⟩
theorem Jk.ext {w w':Wd}(e:Ext w w'){i:Nat}{a:AV}(hj:Jk w i a):Jk w' i a:=fun id hid=>by
 obtain⟨h1,h2⟩:=hj id hid;refine⟨V0 h1 e.hl,fun i' p hp he=>?_⟩;rcases e.mu i' p hp with⟨p0,hp0,e0⟩|h
 ·exact h2 i' p0 hp0 (e0.trans he)
 ·omega
theorem ZR.ext {w w':Wd}(e:Ext w w'){z:ZV}{a:AV}(hr:ZR w z a):ZR w' z a:=by
 induction hr with
 |fr hf=>exact .fr (hf.mono e.frm e.frb)
 |ptr h1 h2=>
  obtain⟨⟨cs',h3⟩,h4⟩:=e.box _ _ h1;exact .ptr h3 (h4.trans h2)
 |mp h1 h2=>
  obtain⟨⟨cs',h3⟩,h4⟩:=e.box _ _ h1;exact .mp h3 (h4.trans h2)
 |own h1 h2 h3 h4=>
  refine .own (V0 h1 e.Hl) (fun g' k rows' hg=>?_) (h3.ext e) h4;obtain⟨g0,r0,q1,q2,q3⟩:=e.grow _ g' k rows' h1 hg;obtain⟨s1,s2⟩:=h2 g0 k r0 q1;refine⟨V3 s1 q2,fun he=>?_⟩;have e1:g0=g':=D4 q2 (he▸s1);obtain⟨t1,t2,t3⟩:=q3 e1;exact (s2 (he.trans e1.symm)).ext e q1 t1 t2 t3
 |eptr h1 h2 h3=>
  refine .eptr (V0 h1 e.Hl) (fun g' k rows' hg=>?_) (h3.ext e);obtain⟨g0,r0,q1,q2,q3⟩:=e.grow _ g' k rows' h1 hg;obtain⟨s1,s2⟩:=h2 g0 k r0 q1;refine⟨V3 s1 q2,fun he=>?_⟩;have e1:g0=g':=D4 q2 (he▸s1);obtain⟨t1,t2,t3⟩:=q3 e1;obtain⟨b,u1,u2,u3⟩:=s2 (he.trans e1.symm);exact⟨b,t1.trans u1,u2,by omega⟩
 |fptr h1 h2=>exact .fptr (h1.mono e.frm e.frb) h2
 |agg hl _ ih=>exact .agg hl ih
 |tuple hl _ ih=>exact .tuple hl ih
 |func hl _ ih=>exact .func hl ih
 |bfunc hl hl2 _ _ ih ih2=>exact .bfunc hl hl2 ih ih2
theorem ZRs.ext {w w':Wd}(e:Ext w w'){zs:List ZV}{ys:List AV}(hr:ZRs w zs ys):ZRs w' zs ys:=⟨hr.1,fun i z a h1 h2=>(hr.2 i z a h1 h2).ext e⟩
/-! ### Shapes -/
theorem ZR.val_inv {w:Wd}{v:Value}{a:AV}(hr:ZR w (.val v) a):a= .val v:=by
 cases hr with
 |fr hf=>cases hf;rfl
theorem ZR.agg_inv {w:Wd}{zs:List ZV}{a:AV}(hr:ZR w (.agg zs) a): ∃ys,a= .agg ys∧ZRs w zs ys:=by
 cases hr with
 |fr hf=>cases hf
 |agg h1 h2=>exact⟨_,rfl,h1,h2⟩
theorem ZR.tuple_inv {w:Wd}{zs:List ZV}{a:AV}(hr:ZR w (.tuple zs) a): ∃ys,a= .tuple ys∧ZRs w zs ys:=by
 cases hr with
 |fr hf=>cases hf
 |tuple h1 h2=>exact⟨_,rfl,h1,h2⟩
theorem ZR.func_inv {w:Wd}{f:FuncId}{zs:List ZV}{a:AV}(hr:ZR w (.func f zs) a): ∃ys,a= .func f ys∧ZRs w zs ys:=by
 cases hr with
 |fr hf=>cases hf;exact⟨[],rfl,rfl,fun i z a h=>by simp at h⟩
 |func h1 h2=>exact⟨_,rfl,h1,h2⟩
theorem ZR.bfunc_inv {w:Wd}{f:FuncId}{zs us:List ZV}{a:AV}(hr:ZR w (.bfunc f zs us) a): ∃ys vs,a= .bfunc f ys vs∧ZRs w zs ys∧ZRs w us vs:=by
 cases hr with
 |fr hf=>cases hf
 |bfunc h1 h2 h3 h4=>exact⟨_,_,rfl,⟨h1,h3⟩,⟨h2,h4⟩⟩
theorem ZR.ptr_inv {w:Wd}{i o:Nat}{a:AV}(hr:ZR w (.ptr i o) a): ∃id cs,a= .ptr id o∧w.H[i]?=some (.box cs)∧w.mu i=some (id,0):=by
 cases hr with
 |fr hf=>cases hf
 |ptr h1 h2=>exact⟨_,_,rfl,h1,h2⟩
theorem ZR.mp_inv {w:Wd}{i:Nat}{a:AV}(hr:ZR w (.mp i) a): ∃id cs,a= .mp id∧w.H[i]?=some (.box cs)∧w.mu i=some (id,0):=by
 cases hr with
 |fr hf=>cases hf
 |mp h1 h2=>exact⟨_,_,rfl,h1,h2⟩
theorem ZR.fz_inv {w:Wd}{k:Nat}{ex:Bool}{rows:List (List ZV)}{a:AV}(hr:ZR w (.fz k ex rows) a):FR w.Fr w.h (.fz k ex rows) a:=by
 cases hr with
 |fr hf=>exact hf
theorem ZRs.nil {w:Wd}:ZRs w [] []:=⟨rfl,fun i z a h=>by simp at h⟩
theorem ZRs.cons {w:Wd}{z:ZV}{a:AV}{zs:List ZV}{ys:List AV}(h:ZR w z a)(hs:ZRs w zs ys):ZRs w (z::zs) (a::ys):=by
 refine⟨by simp[hs.1],fun i x y hx hy=>?_⟩
 cases i with
 |zero=>simp at hx hy;subst hx;subst hy;exact h
 |succ i=>simp at hx hy;exact hs.2 i x y hx hy
theorem ZRs.append {w:Wd}{zs zs':List ZV}{ys ys':List AV}(h:ZRs w zs ys)(h':ZRs w zs' ys'):ZRs w (zs++zs') (ys++ys'):=by
 refine⟨by simp[h.1,h'.1],fun i x y hx hy=>?_⟩;by_cases hi:i<zs.length
 ·rw[V5 hi] at hx
  rw[V5 (by rw[←h.1];exact hi)] at hy;exact h.2 i x y hx hy
 ·rw[N0 (by omega)] at hx
  rw[N0 (by rw[←h.1];omega),← h.1] at hy;exact h'.2 _ x y hx hy
theorem ZRs.take {w:Wd}{zs:List ZV}{ys:List AV}(h:ZRs w zs ys)(n:Nat):ZRs w (zs.take n) (ys.take n):=by
 refine⟨by simp[h.1],fun i x y hx hy=>?_⟩;rw[O8] at hx hy;split at hx
 ·rw[if_pos (by assumption)] at hy;exact h.2 i x y hx hy
 ·cases hx
theorem ZRs.drop {w:Wd}{zs:List ZV}{ys:List AV}(h:ZRs w zs ys)(n:Nat):ZRs w (zs.drop n) (ys.drop n):=by
 refine⟨by simp[h.1],fun i x y hx hy=>?_⟩;rw[O9] at hx hy;exact h.2 _ x y hx hy
theorem ZRs.get {w:Wd}{zs:List ZV}{ys:List AV}(h:ZRs w zs ys){i:Nat}{z:ZV}(hz:zs[i]?=some z): ∃a,ys[i]?=some a∧ZR w z a:=by
 have hi:i<ys.length:=by rw[←h.1];exact (U0.1 hz).1
 exact⟨ys[i],U1 hi,h.2 i z _ hz (U1 hi)⟩
theorem ZRs.toAgg {w:Wd}{zs:List ZV}{ys:List AV}(h:ZRs w zs ys):ZR w (.agg zs) (.agg ys):= .agg h.1 h.2
theorem ZRs.toTuple {w:Wd}{zs:List ZV}{ys:List AV}(h:ZRs w zs ys):ZR w (.tuple zs) (.tuple ys):= .tuple h.1 h.2
theorem ZRs.toFunc {w:Wd}{f:FuncId}{zs:List ZV}{ys:List AV}(h:ZRs w zs ys):ZR w (.func f zs) (.func f ys):= .func h.1 h.2
theorem ZR.isCell {w:Wd}{z:ZV}{a:AV}(hr:ZR w z a):z.isCell=a.isCell:=by
 cases hr with
 |fr hf=>cases hf with
  |fnil e=>rcases e with rfl|⟨rfl,_⟩<;>rfl
  |_=>rfl
 |own _ _ _ h4=>cases a with
  |val v=>rfl
  |slice=>rfl
  |_=>simp[isSl] at h4
 |_=>rfl
theorem ZR.cells {w:Wd}{z:ZV}{a:AV}(hr:ZR w z a):ZRs w z.cells a.cells:=by
 have key: ∀{z:ZV} {a:AV},z.cells=[z]→a.cells=[a]→ZR w z a→ZRs w z.cells a.cells:=fun h1 h2 h=>by rw[h1,h2];exact .cons h .nil
 cases hr with
 |fr hf=>
  have h0:=ZR.fr hf
  cases hf with
  |fnil e=>rcases e with rfl|⟨rfl,_⟩<;>exact key rfl rfl h0
  |_=>exact key rfl rfl h0
 |own h1 h2 h3 h4=>cases a with
  |val v=>exact key rfl rfl (.own h1 h2 h3 h4)
  |slice=>exact key rfl rfl (.own h1 h2 h3 h4)
  |_=>simp[isSl] at h4
 |ptr h1 h2=>exact key rfl rfl (.ptr h1 h2)
 |mp h1 h2=>exact key rfl rfl (.mp h1 h2)
 |eptr h1 h2 h3=>exact key rfl rfl (.eptr h1 h2 h3)
 |fptr h1 h2=>exact key rfl rfl (.fptr h1 h2)
 |agg h1 h2=>exact⟨h1,h2⟩
 |tuple h1 h2=>exact key rfl rfl (.tuple h1 h2)
 |func h1 h2=>exact key rfl rfl (.func h1 h2)
 |bfunc h1 h2 h3 h4=>exact key rfl rfl (.bfunc h1 h2 h3 h4)
theorem ZRs.allCell {w:Wd}: ∀{zs:List ZV} {ys:List AV},ZRs w zs ys→zs.all ZV.isCell=ys.all AV.isCell
 |[],[],_=>rfl
 |[],_::_,h=>by have:=h.1;simp at this
 |_::_,[],h=>by have:=h.1;simp at this
 |z::zs,a::ys,h=>by
  simp only[List.all_cons];rw[(h.2 0 z a rfl rfl).isCell,ZRs.allCell ⟨by simpa using h.1,fun i x y hx hy=>h.2 (i+1) x y (by simpa using hx) (by simpa using hy)⟩]
/-! ### The whole state -/
structure ZRel (fl L:Nat→Bool)(w:Wd):Prop where
  fresh: ∀id,w.h.length≤id→fl id=true
  lfresh: ∀i,w.H.length≤i→L i=true
  frlt: ∀id,w.Fr id→id<w.h.length
  dom: ∀i p,w.mu i=some p→i<w.H.length
  inj: ∀i j p q,w.mu i=some p→w.mu j=some q→p.1=q.1→i=j
  nfr: ∀i p,w.mu i=some p→ ¬w.Fr p.1∧p.1<w.h.length
  wr: ∀i p,w.mu i=some p→L i=true→fl p.1=true
  box: ∀(i:Nat) cs,w.H[i]?=some (.box cs)→ ∃id row,w.mu i=some (id,0)∧blk w.h id=some row∧ZRs w cs row
  grow: ∀(i g k:Nat) rows,w.H[i]?=some (.grow g k rows)→(∀r∈rows,r.length=k)∧((w.mu i=none∧rows=[])∨ ∃id b row,w.mu i=some (id,b)∧blk w.h id=some row∧b+rows.length*k≤row.length∧ZRs w rows.flatten ((row.drop b).take (rows.length*k)))
theorem FR.ids {Fr:Nat→Prop}{h:Heap}{z:ZV}{a:AV}(hr:FR Fr h z a): ∀id∈jdq a,Fr id:=by
 cases hr with
 |val v=>intro id hi;simp[jdq] at hi
 |func f=>intro id hi;simp[jdq] at hi
 |fnil e=>rcases e with rfl|⟨rfl,_⟩<;>(intro id hi;simp[jdq] at hi)
 |fz cell q1=>intro id hi;simp[jdq] at hi;exact hi▸q1
def jaa:ZV→List Nat
  | .own i _ _ _ _=>[i]
  | .ptr i _=>[i]
  | .eptr i _ _ _=>[i]
  |_=>[]
theorem ZR.owner {fl L:Nat→Bool}{w:Wd}(r:ZRel fl L w){z:ZV}{a:AV}(hr:ZR w z a): ∀id∈jdq a,id<w.h.length∧ ∀i p,w.mu i=some p→p.1=id→i∈jaa z:=by
 cases hr with
 |fr hf=>exact fun id hi=>⟨r.frlt _ (hf.ids id hi),fun i p hp e=>absurd (e▸hf.ids id hi) (r.nfr i p hp).1⟩
 |ptr h1 h2=>
  intro id hi;simp[jdq] at hi;subst hi
  exact⟨(r.nfr _ _ h2).2,fun i p hp e=>by rw[r.inj i _ p _ hp h2 e];simp[jaa]⟩
 |own _ _ h3=>exact fun id hi=>⟨(h3 id hi).1,fun i p hp e=>by rw[(h3 id hi).2 i p hp e];simp[jaa]⟩
 |eptr _ _ h3=>exact fun id hi=>⟨(h3 id hi).1,fun i p hp e=>by rw[(h3 id hi).2 i p hp e];simp[jaa]⟩
 |fptr h1 h2=>
  intro id hi;simp[jdq] at hi;have:w.Fr id:=by
   cases h1 with
   |fnil e=>rcases e with h|⟨h,_⟩<;>cases h
   |fz cell q1=>rw[hi];exact q1
  exact⟨r.frlt _ this,fun i p hp e=>absurd (e▸this) (r.nfr i p hp).1⟩
 |mp _ _=>intro id hi;simp[jdq] at hi
 |agg _ _=>intro id hi;simp[jdq] at hi
 |tuple _ _=>intro id hi;simp[jdq] at hi
 |func _ _=>intro id hi;simp[jdq] at hi
 |bfunc _ _ _ _=>intro id hi;simp[jdq] at hi
end
section
open Go Go.RowKit
variable {fl L:Nat→Bool}
theorem jqQ {w:Wd}(r:ZRel fl L w)(row:List AV): ∃w',w'.h=w.h++[some row]∧w'.H=w.H∧w'.mu=w.mu∧w'.Fr w.h.length∧ZRel fl L w'∧Ext w w':=by
 refine⟨⟨fun id=>w.Fr id∨id=w.h.length,w.mu,w.H,w.h++[some row]⟩,rfl,rfl,rfl,.inr rfl,?_,?_⟩;all_goals
  have e:Ext w ⟨fun id=>w.Fr id∨id=w.h.length,w.mu,w.H,w.h++[some row]⟩:=by
   refine⟨fun _ h=> .inl h,fun id row0 h hr=>jcq _ hr,by simp,V2 _,fun i p h=> .inl ⟨p,h,rfl⟩,fun i cs h=>⟨⟨cs,h⟩,rfl⟩,fun i cs _ h=>⟨cs,h⟩,fun i g k rows hi h=>⟨g,rows,h,V2 _,fun _=>⟨rfl,rfl,fun id b row0 _ hr=>⟨row0,jcq _ hr,rfl⟩⟩⟩⟩
 ·refine⟨fun id h=>r.fresh id (by simp at h;omega),r.lfresh,fun id h=>?_,r.dom,r.inj,fun i p h=>?_,r.wr,fun i cs h=>?_,fun i g k rows h=>?_⟩
  ·simp only[G3,Q3,G9]
   rcases h with h|h
   ·have:=r.frlt id h;omega
   ·omega
  ·have:=r.nfr i p h
   refine⟨fun q=>?_,by simp;omega⟩;rcases q with q|q
   ·exact this.1 q
   ·omega
  ·obtain⟨id,row0,h1,h2,h3⟩:=r.box i cs h
   exact⟨id,row0,h1,jcq _ h2,h3.ext e⟩
  ·obtain⟨h0,h1|⟨id,b,row0,h1,h2,h3,h4⟩⟩:=r.grow i g k rows h
   ·exact⟨h0,.inl h1⟩
   ·exact⟨h0,.inr ⟨id,b,row0,h1,jcq _ h2,h3,h4.ext e⟩⟩
 ·exact e
theorem jeG {w:Wd}(r:ZRel fl L w)(B:ZB)(row:List AV)
  (hB:(∃cs,B= .box cs∧ZRs w cs row)∨ ∃k rows,B= .grow 0 k rows∧(∀x∈rows,x.length=k)∧rows.length*k=row.length∧ZRs w rows.flatten row):
  ∃w',w'.h=w.h++[some row]∧w'.H=w.H++[B]∧w'.mu w.H.length=some (w.h.length,0)∧blk w'.h w.h.length=some row∧ZRel fl L w'∧Ext w w':=by
 obtain⟨m,hm⟩: ∃m:Nat→Option (Nat×Nat),m=fun i=>if i=w.H.length then some (w.h.length,0) else w.mu i:=⟨_,rfl⟩
 have m1:m w.H.length=some (w.h.length,0):=by rw[hm];simp
 have m2: ∀i,i≠w.H.length→m i=w.mu i:=fun i hi=>by rw[hm];simp[hi]
 have mn:w.mu w.H.length=none:=by
  cases h:w.mu w.H.length with
  |none=>rfl
  |some p=>have:=r.dom _ p h;omega
 have hget: ∀(i:Nat) C,(w.H++[B])[i]?=some C→(i<w.H.length∧w.H[i]?=some C)∨(i=w.H.length∧C=B):=fun i C h=>by
  by_cases hi:i<w.H.length
  ·rw[V5 hi] at h;exact .inl ⟨hi,h⟩
  ·rw[N0 (by omega)] at h
   have:i - w.H.length=0:=by
    have:=(U0.1 h).1;simp at this;omega
   rw[this] at h;simp at h;exact .inr ⟨by omega,h.symm⟩
 have lt: ∀{i:Nat} {C},w.H[i]?=some C→i<w.H.length:=fun h=>(U0.1 h).1
 have e:Ext w ⟨w.Fr,m,w.H++[B],w.h++[some row]⟩:=by
  refine⟨fun _ h=>h,fun id row0 h hr=>jcq _ hr,by simp,by simp,fun i p h=>?_,fun i cs h=>⟨⟨cs,?_⟩,m2 i (by have:=lt h;omega)⟩,fun i cs hi h=>(hget i _ h).elim (fun q=>⟨cs,q.2⟩) (fun q=>absurd hi (by omega)),fun i g k rows hi h=>⟨g,rows,?_,V2 _,fun _=>⟨m2 i (by omega),rfl,fun id b row0 _ hr=>⟨row0,jcq _ hr,rfl⟩⟩⟩⟩
  ·by_cases hi:i=w.H.length
   ·subst hi
    have h:m w.H.length=some p:=h;rw[m1] at h;injection h with h;subst h;exact .inr (V2 _)
   ·exact .inl ⟨p,(m2 i hi).symm.trans h,rfl⟩
  ·show (w.H++[B])[i]?=_
   rw[V5 (lt h)];exact h
  ·rcases hget i _ h with⟨_,h⟩|⟨h,_⟩
   ·exact h
   ·omega
 refine⟨⟨w.Fr,m,w.H++[B],w.h++[some row]⟩,rfl,rfl,m1,jbk,?_,e⟩;have hmm: ∀i p,m i=some p→(i=w.H.length∧p=(w.h.length,0))∨(i<w.H.length∧w.mu i=some p):=fun i p h=>by
  by_cases hi:i=w.H.length
  ·subst hi;rw[m1] at h;injection h with h;exact .inl ⟨rfl,h.symm⟩
  ·rw[m2 i hi] at h;exact .inr ⟨r.dom i p h,h⟩
 refine⟨fun id h=>r.fresh id (by simp at h;omega),fun i h=>r.lfresh i (by simp at h;omega),fun id h=>by have:=r.frlt id h;simp;omega,fun i p h=>?_,fun i j p q hi hj he=>?_,fun i p h=>?_,fun i p h hl=>?_,fun i cs h=>?_,fun i g k rows h=>?_⟩
 ·rcases hmm i p h with⟨rfl,_⟩|⟨h,_⟩<;>simp;omega
 ·rcases hmm i p hi with⟨rfl,rfl⟩|⟨h1,h2⟩<;>rcases hmm j q hj with⟨rfl,rfl⟩|⟨h3,h4⟩
  ·rfl
  ·have:=(r.nfr j q h4).2;simp at he;omega
  ·have:=(r.nfr i p h2).2;simp at he;omega
  ·exact r.inj i j p q h2 h4 he
 ·rcases hmm i p h with⟨rfl,rfl⟩|⟨_,h⟩
  ·exact⟨fun q=>by have:=r.frlt _ q;simp at this,by simp⟩
  ·have:=r.nfr i p h;exact⟨this.1,by simp;omega⟩
 ·rcases hmm i p h with⟨rfl,rfl⟩|⟨_,h⟩
  ·exact r.fresh _ (V2 _)
  ·exact r.wr i p h hl
 ·rcases hget i _ h with⟨hi,h⟩|⟨rfl,hq⟩
  ·obtain⟨id,row0,h1,h2,h3⟩:=r.box i cs h
   exact⟨id,row0,(m2 i (by omega)).trans h1,jcq _ h2,h3.ext e⟩
  ·rcases hB with⟨cs',rfl,hc⟩|⟨k,rows,rfl,_⟩
   ·injection hq with hq;subst hq
    exact⟨_,row,m1,jbk,hc.ext e⟩
   ·cases hq
 ·rcases hget i _ h with⟨hi,h⟩|⟨rfl,hq⟩
  ·obtain⟨h0,h1|⟨id,b,row0,h1,h2,h3,h4⟩⟩:=r.grow i g k rows h
   ·exact⟨h0,.inl ⟨(m2 i (by omega)).trans h1.1,h1.2⟩⟩
   ·exact⟨h0,.inr ⟨id,b,row0,(m2 i (by omega)).trans h1,jcq _ h2,h3,h4.ext e⟩⟩
  ·rcases hB with⟨cs',rfl,hc⟩|⟨k',rows',rfl,q1,q2,q3⟩
   ·cases hq
   ·injection hq with e1 e2 e3;subst e1;subst e2;subst e3
    refine⟨q1,.inr ⟨_,0,row,m1,jbk,by omega,?_⟩⟩;rw[W1,I5 (by omega)];exact q3.ext e
theorem jjz {w:Wd}(r:ZRel fl L w)(k:Nat):
  ∃w',w'.h=w.h∧w'.H=w.H++[.grow 0 k []]∧w'.mu w.H.length=none∧(∀id,w.Fr id→w'.Fr id)∧ZRel fl L w'∧Ext w w':=by
 have hget: ∀(i:Nat) C,(w.H++[.grow 0 k []])[i]?=some C→(i<w.H.length∧w.H[i]?=some C)∨(i=w.H.length∧C= .grow 0 k []):=fun i C h=>by
  by_cases hi:i<w.H.length
  ·rw[V5 hi] at h;exact .inl ⟨hi,h⟩
  ·rw[N0 (by omega)] at h
   have:i - w.H.length=0:=by
    have:=(U0.1 h).1;simp at this;omega
   rw[this] at h;simp at h;exact .inr ⟨by omega,h.symm⟩
 have lt: ∀{i:Nat} {C},w.H[i]?=some C→i<w.H.length:=fun h=>(U0.1 h).1
 have mn:w.mu w.H.length=none:=by
  cases h:w.mu w.H.length with
  |none=>rfl
  |some p=>have:=r.dom _ p h;omega
 have e:Ext w ⟨w.Fr,w.mu,w.H++[.grow 0 k []],w.h⟩:=by
  refine⟨fun _ h=>h,fun id _ h hr=>hr,V2 _,by simp,fun i p h=> .inl ⟨p,h,rfl⟩,fun i cs h=>⟨⟨cs,?_⟩,rfl⟩,fun i cs hi h=>(hget i _ h).elim (fun q=>⟨cs,q.2⟩) (fun q=>absurd hi (by omega)),fun i g k' rows hi h=>⟨g,rows,?_,V2 _,fun _=>⟨rfl,rfl,fun id b row0 _ hr=>⟨row0,hr,rfl⟩⟩⟩⟩
  ·show (w.H++[_])[i]?=_
   rw[V5 (lt h)];exact h
  ·rcases hget i _ h with⟨_,h⟩|⟨h,_⟩
   ·exact h
   ·omega
 refine⟨⟨w.Fr,w.mu,w.H++[.grow 0 k []],w.h⟩,rfl,rfl,mn,fun _ h=>h,?_,e⟩;refine⟨r.fresh,fun i h=>r.lfresh i (by simp at h;omega),r.frlt,fun i p h=>?_,r.inj,r.nfr,r.wr,fun i cs h=>?_,fun i g k' rows h=>?_⟩
 ·have:=r.dom i p h;simp;omega
 ·rcases hget i _ h with⟨hi,h⟩|⟨rfl,hq⟩
  ·obtain⟨id,row0,h1,h2,h3⟩:=r.box i cs h
   exact⟨id,row0,h1,h2,h3.ext e⟩
  ·cases hq
 ·rcases hget i _ h with⟨hi,h⟩|⟨rfl,hq⟩
  ·obtain⟨h0,h1|⟨id,b,row0,h1,h2,h3,h4⟩⟩:=r.grow i g k' rows h
   ·exact⟨h0,.inl h1⟩
   ·exact⟨h0,.inr ⟨id,b,row0,h1,h2,h3,h4.ext e⟩⟩
  ·injection hq with e1 e2 e3;subst e1;subst e2;subst e3
   exact⟨by simp,.inl ⟨mn,rfl⟩⟩
theorem jpW {w:Wd}(r:ZRel fl L w){i:Nat}(hi:i<w.H.length)(B':ZB)(p':Nat×Nat)(h':Heap)(row':List AV)
  (h1: ∀id,id<w.h.length→(∀p,w.mu i=some p→id≠p.1)→blk h' id=blk w.h id) (h2:w.h.length≤h'.length) (h3:p'.1<h'.length∧((∃p,w.mu i=some p∧p.1=p'.1)∨w.h.length≤p'.1)) (h4:blk h' p'.1=some row')
  (hB:(∃cs cs',w.H[i]?=some (.box cs)∧B'= .box cs'∧w.mu i=some p'∧ ∀w',Ext w w'→ZRs w' cs' row')∨
   (∃g k rows g' rows',w.H[i]?=some (.grow g k rows)∧B'= .grow g' k rows'∧(∀x∈rows',x.length=k)∧p'.2+rows'.length*k≤row'.length∧(∀w',Ext w w'→ZRs w' rows'.flatten ((row'.drop p'.2).take (rows'.length*k)))∧
    (g<g'∨(g=g'∧w.mu i=some p'∧rows'.length=rows.length∧ ∃row,blk w.h p'.1=some row∧row'.length=row.length)))):
  ∃w',w'.h=h'∧w'.H=w.H.set i B'∧w'.mu i=some p'∧ZRel fl L w'∧Ext w w':=by
 obtain⟨m,hm⟩: ∃m:Nat→Option (Nat×Nat),m=fun j=>if j=i then some p' else w.mu j:=⟨_,rfl⟩
 have m1:m i=some p':=by rw[hm];simp
 have m2: ∀j,j≠i→m j=w.mu j:=fun j hj=>by rw[hm];simp[hj]
 have hget: ∀(j:Nat) C,(w.H.set i B')[j]?=some C→(j≠i∧w.H[j]?=some C)∨(j=i∧C=B'):=fun j C h=>by
  by_cases hj:j=i
  ·subst hj
   rw[M1] at h;simp[hi] at h;exact .inr ⟨rfl,h.symm⟩
  ·rw[M1,if_neg (Ne.symm hj)] at h;exact .inl ⟨hj,h⟩
 have hgi:(w.H.set i B')[i]?=some B':=by rw[M1];simp[hi]
 have hother: ∀j p id,j≠i→w.mu j=some p→p.1=id→blk h' id=blk w.h id:=fun j p id hj hp he=>by
  have:=(r.nfr j p hp).2;exact h1 id (by omega) fun q hq e=>hj (r.inj j i p q hp hq (by omega))
 have e:Ext w ⟨w.Fr,m,w.H.set i B',h'⟩:=by
  refine⟨fun _ h=>h,fun id row0 h hr=>(h1 id (r.frlt id h) fun p hp e=>(r.nfr i p hp).1 (e▸h)).trans hr,h2,by simp,fun j p h=>?_,fun j cs h=>?_,fun j cs hj h=>(hget j _ h).elim (fun q=>⟨cs,q.2⟩) (fun q=>hB.elim (fun⟨cs0,_,q1,_⟩=>⟨cs0,by rw[q.1];exact q1⟩) (fun⟨g,k,rows,g',rows',_,q2,_⟩=>by rw[q2] at q;cases q.2)),fun j g k rows hj h=>?_⟩
  ·by_cases hj:j=i
   ·subst hj
    have h:m j=some p:=h;rw[m1] at h;injection h with h;subst h;exact h3.2
   ·exact .inl ⟨p,(m2 j hj).symm.trans h,rfl⟩
  ·by_cases hj:j=i
   ·subst hj
    rcases hB with⟨cs0,cs',q1,q2,q3,_⟩|⟨g,k,rows,g',rows',q1,_⟩
    ·exact⟨⟨cs',by show (w.H.set j B')[j]?=_;rw[hgi,q2]⟩,by show m j=_;rw[m1,q3]⟩
    ·rw[q1] at h;cases h
   ·exact⟨⟨cs,by show (w.H.set i B')[j]?=_;rw[M1,if_neg (Ne.symm hj)];exact h⟩,m2 j hj⟩
  ·rcases hget j _ h with⟨hj',h⟩|⟨rfl,hq⟩
   ·exact⟨g,rows,h,V2 _,fun _=>⟨m2 j hj',rfl,fun id b row hp hr=>⟨row,by rw[hother j _ id hj' hp rfl];exact hr,rfl⟩⟩⟩
   ·rcases hB with⟨cs0,cs',q1,q2,q3,_⟩|⟨g0,k0,rows0,g',rows',q1,q2,q3,q4,q5,q6⟩
    ·rw[q2] at hq;cases hq
    ·rw[q2] at hq
     injection hq with e1 e2 e3;subst e1;subst e2;subst e3
     refine⟨g0,rows0,q1,by omega,fun he=>?_⟩;rcases q6 with q6|⟨_,s1,s2,row,s3,s4⟩
     ·omega
     ·refine⟨by show m j=_;rw[m1,s1],s2,fun id b row0 hp hr=>⟨row',?_,?_⟩⟩
      ·rw[s1] at hp;injection hp with hp;rw[←show p'.1=id by rw[hp]];exact h4
      ·rw[s1] at hp;injection hp with hp
       rw[show p'.1=id by rw[hp],hr] at s3;injection s3 with s3;rw[s4,s3]
 refine⟨⟨w.Fr,m,w.H.set i B',h'⟩,rfl,rfl,m1,?_,e⟩;have hmm: ∀j p,m j=some p→(j=i∧p=p')∨(j≠i∧w.mu j=some p):=fun j p h=>by
  by_cases hj:j=i
  ·subst hj;rw[m1] at h;injection h with h;exact .inl ⟨rfl,h.symm⟩
  ·rw[m2 j hj] at h;exact .inr ⟨hj,h⟩
 refine⟨fun id h=>r.fresh id (V3 h2 h),fun j h=>r.lfresh j (by simpa using h),fun id h=>V0 (r.frlt id h) h2,fun j p h=>?_,fun j j' p q hj hj' he=>?_,fun j p h=>?_,fun j p h hl=>?_,fun j cs h=>?_,fun j g k rows h=>?_⟩
 ·show j<(w.H.set i B').length
  rw[D5];rcases hmm j p h with⟨rfl,_⟩|⟨_,h⟩
  ·exact hi
  ·exact r.dom j p h
 ·have cross: ∀j q,j≠i→w.mu j=some q→p'.1≠q.1:=fun j q hj hq he=>by
   rcases h3.2 with⟨p,hp,e1⟩|hf
   ·exact hj (r.inj j i q p hq hp (by omega))
   ·have:=(r.nfr j q hq).2;omega
  rcases hmm j p hj with⟨rfl,rfl⟩|⟨h5,h6⟩<;>rcases hmm j' q hj' with⟨rfl,rfl⟩|⟨h7,h8⟩
  ·rfl
  ·exact absurd he (cross j' q h7 h8)
  ·exact absurd he.symm (cross j p h5 h6)
  ·exact r.inj j j' p q h6 h8 he
 ·rcases hmm j p h with⟨rfl,rfl⟩|⟨_,h⟩
  ·refine⟨fun q=>?_,h3.1⟩
   rcases h3.2 with⟨p0,hp,e1⟩|hf
   ·exact (r.nfr j p0 hp).1 (e1▸q)
   ·have:=r.frlt _ q;omega
  ·have:=r.nfr j p h;exact⟨this.1,V0 this.2 h2⟩
 ·rcases hmm j p h with⟨rfl,rfl⟩|⟨_,h⟩
  ·rcases h3.2 with⟨p0,hp,e1⟩|hf
   ·rw[←e1];exact r.wr j p0 hp hl
   ·exact r.fresh _ hf
  ·exact r.wr j p h hl
 ·rcases hget j _ h with⟨hj,h⟩|⟨rfl,hq⟩
  ·obtain⟨id,row0,q1,q2,q3⟩:=r.box j cs h
   exact⟨id,row0,(m2 j hj).trans q1,by show blk h' id=_;rw[hother j _ id hj q1 rfl];exact q2,q3.ext e⟩
  ·rcases hB with⟨cs0,cs',q1,q2,q3,q4⟩|⟨g0,k0,rows0,g',rows',q1,q2,_⟩
   ·rw[q2] at hq;injection hq with hq;subst hq
    obtain⟨id,row0,s1,_,_⟩:=r.box j cs0 q1;have hp:p'=(id,0):=by rw[q3] at s1;injection s1
    exact⟨p'.1,row',by show m j=_;rw[m1,hp],h4,q4 _ e⟩
   ·rw[q2] at hq;cases hq
 ·rcases hget j _ h with⟨hj,h⟩|⟨rfl,hq⟩
  ·obtain⟨q0,q1|⟨id,b,row0,q1,q2,q3,q4⟩⟩:=r.grow j g k rows h
   ·exact⟨q0,.inl ⟨(m2 j hj).trans q1.1,q1.2⟩⟩
   ·exact⟨q0,.inr ⟨id,b,row0,(m2 j hj).trans q1,by show blk h' id=_;rw[hother j _ id hj q1 rfl];exact q2,q3,q4.ext e⟩⟩
  ·rcases hB with⟨cs0,cs',q1,q2,q3,q4⟩|⟨g0,k0,rows0,g',rows',q1,q2,q3,q4,q5,q6⟩
   ·rw[q2] at hq;cases hq
   ·rw[q2] at hq
    injection hq with e1 e2 e3;subst e1;subst e2;subst e3
    exact⟨q3,.inr ⟨p'.1,p'.2,row',m1,h4,q4,q5 _ e⟩⟩
theorem jf4 {w:Wd}(r:ZRel fl L w){i:Nat}(hi:i<w.H.length)(hL:L i=true)(B':ZB)(p':Nat×Nat)(h':Heap)(row':List AV)
  (h1: ∀id,id<w.h.length→(∀p,w.mu i=some p→id≠p.1)→blk h' id=blk w.h id) (h2:w.h.length≤h'.length) (h3:p'.1<h'.length∧((∃p,w.mu i=some p∧p.1=p'.1)∨w.h.length≤p'.1)) (h4:blk h' p'.1=some row')
  (hB:(∃cs cs',w.H[i]?=some (.box cs)∧B'= .box cs'∧w.mu i=some p'∧ ∀w',Ext w w'→ZRs w' cs' row')∨
   (∃g k rows g' rows',w.H[i]?=some (.grow g k rows)∧B'= .grow g' k rows'∧(∀x∈rows',x.length=k)∧p'.2+rows'.length*k≤row'.length∧(∀w',Ext w w'→ZRs w' rows'.flatten ((row'.drop p'.2).take (rows'.length*k)))∧
    (g<g'∨(g=g'∧w.mu i=some p'∧rows'.length=rows.length∧ ∃row,blk w.h p'.1=some row∧row'.length=row.length)))):
  ∃w',w'.h=h'∧w'.H=w.H.set i B'∧w'.mu i=some p'∧ZRel fl L w'∧Ext w w':=jpW r hi B' p' h' row' h1 h2 h3 h4 hB
end
section
open Go Go.RowKit
def zcs:List AV→Option (List ZV)
  |[]=>some []
  | .val v::r=>(zcs r).map (ZV.val v:: ·)
  |_=>none
def zev (S:ZS):Opd→Option ZV
  | .tmp t=>some (S t)
  | .av (.val v)=>some (.val v)
  | .av (.func f [])=>some (.func f [])
  | .av (.agg cs)=>(zcs cs).map .agg
  | .av (.tuple [])=>some .no
  |_=>none
def zevs (S:ZS):List Opd→Option (List ZV)
  |[]=>some []
  |x::r=>match zev S x,zevs S r with
    |some z,some l=>some (z::l)
    |_,_=>none
def jad (cs:List ZV)(o:Nat)(vs:List ZV):List ZV:=cs.take o++vs++cs.drop (o+vs.length)
def jhK:List ZV→List (Nat×Nat×ZV)→Option (List ZV)
  |cs,[]=>some cs
  |cs,(o,n,v)::r=>if v.cells.length=n∧o+n≤cs.length∧v.cells.all ZV.isCell=true then jhK (jad cs o v.cells) r else none
def je4 (S:ZS):List (Nat×Nat×Opd)→Option (List (Nat×Nat×ZV))
  |[]=>some []
  |(o,n,x)::r=>match zev S x,je4 S r with
    |some z,some l=>some ((o,n,z)::l)
    |_,_=>none
def jac:Nat→Nat→List ZV→List (List ZV)
  |0,_,_=>[]
  |n+1,k,cs=>cs.take k::jac n k (cs.drop k)
def jbR:ZV→Bool
  | .val _=>true
  | .fz _ _ _=>true
  | .func _ caps=>caps.isEmpty
  |_=>false
def jdI (cs:List ZV)(o:Nat):Option Nat→Option ZV
  |some n=>if o+n≤cs.length then some (.agg ((cs.drop o).take n)) else none
  |none=>cs[o]?
def ldZ (H:ZH)(n:Option Nat):ZV→Option ZV
  | .ptr i o=>match H[i]? with
    |some (.box cs)=>jdI cs o n
    |_=>none
  | .eptr i g e o=>match H[i]? with
    |some (.grow g' _ rows)=>if g'=g then match rows[e]? with
      |some r=>jdI r o n
      |none=>none
      else none
    |_=>none
  | .fptr _ rows j o=>match rows[j]? with
    |some r=>jdI r o n
    |none=>none
  |_=>none
def stZ (L:Nat→Bool)(H:ZH)(vs:List ZV):ZV→Option ZH
  | .ptr i o=>match H[i]? with
    |some (.box cs)=>if L i=true∧o+vs.length≤cs.length then some (H.set i (.box (jad cs o vs))) else none
    |_=>none
  | .eptr i g e o=>match H[i]? with
    |some (.grow g' k rows)=>if g'=g then match rows[e]? with
      |some r=>if L i=true∧o+vs.length≤r.length then some (H.set i (.grow g k (rows.set e (jad r o vs)))) else none
      |none=>none
      else none
    |_=>none
  |_=>none
def ja2 (H:ZH)(k:Nat):ZV→Option (List (List ZV))
  | .val (.slice none 0 0)=>some []
  | .fz k' _ rows=>if k'=k then some rows else none
  | .own i g off len _=>match H[i]? with
    |some (.grow g' k' rows)=>if g'=g∧k'=k∧off+len≤rows.length then some ((rows.drop off).take len) else none
    |_=>none
  |_=>none
def lenZ (H:ZH):ZV→Option Nat
  | .val (.slice none 0 0)=>some 0
  | .fz _ _ rows=>some rows.length
  | .own i g off len _=>match H[i]? with
    |some (.grow g' _ _)=>if g'=g then some len else none
    |_=>none
  |_=>none
def addZ (n:Nat):ZV→Option ZV
  | .ptr i o=>some (.ptr i (o+n))
  | .eptr i g e o=>some (.eptr i g e (o+n))
  | .fptr k rows j o=>some (.fptr k rows j (o+n))
  |_=>none
def jdd (H:ZH)(k j:Nat):ZV→Option ZV
  | .fz k' _ rows=>if k'=k∧j<rows.length then some (.fptr k rows j 0) else none
  | .own i g off len _=>match H[i]? with
    |some (.grow g' k' rows)=>if g'=g∧k'=k∧off+len≤rows.length∧j<len then some (.eptr i g (off+j) 0) else none
    |_=>none
  |_=>none
def natZ:ZV→Option Nat
  | .val (.int _ n)=>if 0≤n then some n.toNat else none
  |_=>none
def jhx:ZV→Bool
  | .ptr _ _| .eptr _ _ _ _| .fptr _ _ _ _| .func _ _| .bfunc _ _ _=>true
  |_=>false
def nilZ (H:ZH):Nat→ZV→Option Bool
  |0,.val (.slice none 0 0)|1,.val (.pointer none)|2,.val .nilFunc=>some true
  |1,.ptr _ _|1,.eptr _ _ _ _|1,.fptr _ _ _ _|2,.func _ _=>some false
  |0,.fz _ _ (_::_)=>some false
  |0,.own i g off (len+1) _=>match H[i]? with
    |some (.grow g' _ rows)=>if g'=g∧off+(len+1)≤rows.length then some false else none
    |_=>none
  |_,_=>none
def jf7:List Nat→List ZV→List ZV→Option Bool
  |[],[],[]=>some true
  |t::ts,.val a::x,.val b::y=>match jmP t a b with
    |some t=>match jf7 ts x y with
      |some u=>some (t&&u)
      |none=>none
    |none=>none
  |_,_,_=>none
def numZ (S:ZS)(d:Nat):Option Opd→Option Nat
  |none=>some d
  |some x=>match zev S x with
    |some z=>natZ z
    |none=>none
def cutZ (H:ZH)(k l u m:Nat)(mx:Bool):ZV→Option ZV
  | .val (.slice none 0 0)=>if l=0∧u=0∧m=0 then some .nil else none
  | .fz k' ex rows=>if k'=k∧l≤u∧u≤m∧m≤rows.length then (if rows=[] then some (.fz k false []) else some (.fz k ((ex||mx)&&u==m) ((rows.drop l).take (u - l)))) else none
  | .own i g off len ex=>match H[i]? with
    |some (.grow g' k' rows)=>if g'=g∧k'=k∧l≤u∧u≤m∧m≤len∧off+len≤rows.length then some (.own i g (off+l) (u - l) ((ex||mx)&&u==m)) else none
    |_=>none
  |_=>none
def jhN (max:Bool):ZV→List ZV→Option ZV
  |a,[]=>some a
  | .val (.int k n),.val (.int _ p)::r=>jhN max (.val (.int k (if max then (if p>n then p else n) else (if p<n then p else n)))) r
  |_,_=>none
def appZ (L:Nat→Bool)(H:ZH)(k bytes:Nat)(new:List (List ZV)):ZV→Option (ZV×ZH)
  | .val (.slice none 0 0)=>if new.length*bytes≤reach then some (.own H.length 0 0 new.length false,H++[.grow 0 k new]) else none
  | .fz k' ex rows=>if k'=k∧(rows.length+new.length)*bytes≤reach then
      (if new=[] then some (.fz k ex rows,H) else if ex=true then some (.own H.length 0 0 (rows.length+new.length) false,H++[.grow 0 k (rows++new)]) else none) else none
  | .own i g off len ex=>match H[i]? with
    |some (.grow g' k' rows)=>if g'=g∧k'=k∧off+len≤rows.length∧(len+new.length)*bytes≤reach then
        (if ex=true then (if new=[] then some (.own i g off len ex,H) else some (.own H.length 0 0 (len+new.length) false,H++[.grow 0 k ((rows.drop off).take len++new)]))
        else if L i=true then some (.own i (g+1) 0 (len+new.length) false,H.set i (.grow (g+1) k ((rows.drop off).take len++new))) else none) else none
    |_=>none
  |_=>none
def jnu (L:Nat→Bool)(H:ZH)(k:Nat)(new:List (List ZV)):ZV→Option (Nat×ZH)
  | .val (.slice none 0 0)=>some (0,H)
  | .own i g off len _=>match H[i]? with
    |some (.grow g' k' rows)=>if g'=g∧k'=k∧off+len≤rows.length∧L i=true∧0<len then some (min new.length len,H.set i (.grow g k (rows.take off++new.take (min new.length len)++rows.drop (off+min new.length len)))) else none
    |_=>none
  |_=>none
def topZ:Option (Nat×Option (List Nat))→ZV→Bool
  |none,_=>true
  |some (base,pr),.ptr i _=>decide (i<base)&&(match pr with|none=>true|some l=>l.contains i)
  |_,_=>false
/-! A map's entries. -/
def ent (p:Int×ZV):ZV:= .tuple [.val (.int .i64 p.1),p.2]
def jif:List (Int×ZV)→Int→Option ZV
  |[],_=>none
  |(k,v)::r,n=>if n=k then some v else jif r n
def jlf:List (Int×ZV)→Int→ZV→List (Int×ZV)
  |[],n,v=>[(n,v)]
  |(k,x)::r,n,v=>if n=k then (n,v)::r else (k,x)::jlf r n v
def jsu:List (Int×ZV)→Int→List (Int×ZV)
  |[],_=>[]
  |(k,x)::r,n=>if n=k then r else (k,x)::jsu r n
inductive KZ where
  |s (b:ByteArray)
  |p (a b:Int)
  deriving DecidableEq
def KZ.z:KZ→ZV
  | .s b=> .val (.string b)
  | .p a b=> .agg [.val (.int .i64 a),.val (.int .i64 b)]
def KZ.a:KZ→AV
  | .s b=> .val (.string b)
  | .p a b=> .agg [.val (.int .i64 a),.val (.int .i64 b)]
def KZ.ok:Bool→KZ→Bool
  |true,.s b=>decide (b.size≤maxLen)
  |false,.p a b=>(Lit.int .i64 a).wf&&(Lit.int .i64 b).wf
  |_,_=>false
def entK (p:KZ×ZV):ZV:= .tuple [p.1.z,p.2]
def jdP:List (KZ×ZV)→KZ→Option ZV
  |[],_=>none
  |(k,v)::r,n=>if n=k then some v else jdP r n
def jgU:List (KZ×ZV)→KZ→ZV→List (KZ×ZV)
  |[],n,v=>[(n,v)]
  |(k,x)::r,n,v=>if n=k then (n,v)::r else (k,x)::jgU r n v
def mgot (ok:Bool)(z0:ZV):Option ZV→ZV
  |some v=>if ok=true then .tuple [v,.val (.bool true)] else v
  |none=>if ok=true then .tuple [z0,.val (.bool false)] else z0
def jub:List ZV→Option (List Int)
  |[]=>some []
  | .val (.int .u8 n)::r=>(jub r).map (n:: ·)
  |_=>none
def z1 (L:Nat→Bool)(top:Option (Nat×Option (List Nat)))(gl:Bool)(S:ZS)(H:ZH)(K:ZV→ZH→Prop):AOp→Prop
  | .mv x=> ∃z,zev S x=some z∧K z H
  | .pick c a b=> ∃t x y,zev S c=some (.val (.bool t))∧zev S a=some x∧zev S b=some y∧K (if t=true then x else y) H
  | .box n x=> ∃z,zev S x=some z∧z.cells.length=n∧z.cells.all ZV.isCell=true∧K (.ptr H.length 0) (H++[.box z.cells])
  | .zero cs=> ∃zs,zcs cs=some zs∧(if gl=true then K (.eptr H.length 0 0 0) (H++[.grow 0 zs.length [zs]]) else K (.ptr H.length 0) (H++[.box zs]))
  | .build z ps=> ∃zs qs cs,zcs z=some zs∧je4 S ps=some qs∧jhK zs qs=some cs∧K (.agg cs) H
  | .lits k len z ps=> ∃zs qs cs,zcs z=some zs∧je4 S ps=some qs∧jhK zs qs=some cs∧cs.length=len*k∧cs.all ZV.isCell=true∧
      (if gl=true then K (.own H.length 0 0 len true) (H++[.grow 0 k (jac len k cs)]) else cs.all jbR=true∧K (.fz k true (jac len k cs)) H)
  | .load n x=> ∃z v,zev S x=some z∧topZ top z=true∧ldZ H n z=some v∧K v H
  | .store n a v=> ∃p z H',zev S a=some p∧zev S v=some z∧z.cells.length=n∧z.cells.all ZV.isCell=true∧stZ L H z.cells p=some H'∧K .no H'
  | .nilCheck x=> ∃z,zev S x=some z∧jhx z=true∧K z H
  | .bin op x y=> ∃a b v,zev S x=some (.val a)∧zev S y=some (.val b)∧binV op a b=some v∧K (.val v) H
  | .eqNil neg kd x=> ∃z,zev S x=some z∧((∃b,nilZ H kd z=some b∧K (.val (.bool (if neg=true then !b else b))) H)∨((∃k ex,z= .fz k ex []∧kd=0)∧ ∀b,K (.val (.bool b)) H))
  | .eqBool neg x y=> ∃a b,zev S x=some (.val (.bool a))∧zev S y=some (.val (.bool b))∧K (.val (.bool (if neg=true then !(a==b) else a==b))) H
  | .eqAgg neg ks x y=> ∃a b t,zev S x=some (.agg a)∧zev S y=some (.agg b)∧jf7 ks a b=some t∧K (.val (.bool (if neg=true then !t else t))) H
  | .un op x=> ∃a v,zev S x=some (.val a)∧unV op a=some v∧K (.val v) H
  | .conv k x=> ∃k' n,zev S x=some (.val (.int k' n))∧K (.val (.int k (k.wrap n))) H
  | .field off n x=> ∃cs v,zev S x=some (.agg cs)∧jdI cs off n=some v∧K v H
  | .fieldAddr off x=> ∃z v,zev S x=some z∧addZ off z=some v∧K v H
  | .indexAddr k x i=> ∃z y j v,zev S x=some z∧zev S i=some y∧natZ y=some j∧jdd H k j z=some v∧K v H
  | .indexArr k len x i=> ∃z y j v,zev S x=some z∧zev S i=some y∧natZ y=some j∧j<len∧addZ (j*k) z=some v∧K v H
  | .index k len n x i=> ∃cs y j v,zev S x=some (.agg cs)∧zev S i=some y∧natZ y=some j∧j<len∧jdI cs (j*k) n=some v∧K v H
  | .indexStr x i=> ∃t y j b,zev S x=some (.val (.string t))∧zev S i=some y∧natZ y=some j∧t[j]?=some b∧K (.val (.int .u8 b.toNat)) H
  | .slice k x lo hi mx=> ∃z n l u m v,zev S x=some z∧lenZ H z=some n∧numZ S 0 lo=some l∧numZ S n hi=some u∧numZ S n mx=some m∧cutZ H k l u m mx.isSome z=some v∧K v H
  | .mkSlice k bytes z l c=> ∃x y a b zs,zev S l=some x∧zev S c=some y∧natZ x=some a∧natZ y=some b∧zcs z=some zs∧zs.length=k∧a≤b∧b*bytes≤reach∧K (.own H.length 0 0 a (a==b)) (H++[.grow 0 k (O6 a zs)])
  | .extract i x=> ∃vs v,zev S x=some (.tuple vs)∧vs[i]?=some v∧K v H
  | .func f caps=> ∃zs,zevs S caps=some zs∧K (.func f zs) H
  | .call _ _=>False
  | .append k bytes x y=> ∃z u new v H',zev S x=some z∧zev S y=some u∧ja2 H k u=some new∧appZ L H k bytes new z=some (v,H')∧K v H'
  | .len x=> ∃z n,zev S x=some z∧lenZ H z=some n∧K (.val (.int .i64 n)) H
  | .lenStr x=> ∃t,zev S x=some (.val (.string t))∧K (.val (.int .i64 t.size)) H
  | .copy k x y=> ∃z u new n H',zev S x=some z∧zev S y=some u∧ja2 H k u=some new∧jnu L H k new z=some (n,H')∧K (.val (.int .i64 (n:Nat))) H'
  | .clear k z x=> ∃zs u m n H',zcs z=some zs∧zs.length=k∧zev S x=some u∧lenZ H u=some m∧jnu L H k (O6 m zs) u=some (n,H')∧n=m∧K .no H'
  | .minmax max x xs=> ∃z zs v,zev S x=some z∧zevs S xs=some zs∧jhN max z zs=some v∧K v H
  | .mkMap=>K (.mp H.length) (H++[.box []])
  | .mapGet ok zz x y=> ∃i n l z0,zev S x=some (.mp i)∧zev S y=some (.val (.int .i64 n))∧H[i]?=some (.box (l.map ent))∧zev S (.av zz)=some z0∧K (mgot ok z0 (jif l n)) H
  | .mapSet x y v=> ∃i n l z,zev S x=some (.mp i)∧zev S y=some (.val (.int .i64 n))∧H[i]?=some (.box (l.map ent))∧zev S v=some z∧L i=true∧K .no (H.set i (.box ((jlf l n z).map ent)))
  | .mapDel x y=> ∃i n l,zev S x=some (.mp i)∧zev S y=some (.val (.int .i64 n))∧H[i]?=some (.box (l.map ent))∧L i=true∧K .no (H.set i (.box ((jsu l n).map ent)))
  | .mapClear x=> ∃i,∃ l:List (Int×ZV),zev S x=some (.mp i)∧H[i]?=some (.box (l.map ent))∧L i=true∧K .no (H.set i (.box []))
  | .sliceArr k n x lo hi mx=> ∃i g kk row l u m,zev S x=some (.eptr i g 0 0)∧H[i]?=some (.grow g kk [row])∧row.all jbR=true∧row.length=n*k∧L i=true∧numZ S 0 lo=some l∧numZ S n hi=some u∧numZ S n mx=some m∧l≤u∧u≤m∧m≤n∧K (.fz k false (((jac n k row).drop l).take (u - l))) (H.set i .dead)
  | .bfunc f first caps=> ∃zs us,zevs S first=some zs∧zevs S caps=some us∧K (.bfunc f zs us) H
  | .mapLen x=> ∃i,∃ l:List (Int×ZV),zev S x=some (.mp i)∧H[i]?=some (.box (l.map ent))∧K (.val (.int .i64 (l.map ent).length)) H
  | .iface t x=>zev S x=some (.agg [])∧K (.val (.iface t (.agg #[]))) H
  | .panic _=>False
  | .toStr x=> ∃z rows ns,zev S x=some z∧ja2 H 1 z=some rows∧jub rows.flatten=some ns∧K (.val (.string (jgY ns))) H
  | .mkMapK kd=>K (.mp H.length) (H++[.box [.val (.bool kd)]])
  | .mapGetK kd ok zz x y=> ∃i,∃ q:KZ,∃ l:List (KZ×ZV),∃ z0,zev S x=some (.mp i)∧zev S y=some (KZ.z q)∧q.ok kd=true∧H[i]?=some (.box (.val (.bool kd)::l.map entK))∧zev S (.av zz)=some z0∧K (mgot ok z0 (jdP l q)) H
  | .mapSetK kd x y v=> ∃i,∃ q:KZ,∃ l:List (KZ×ZV),∃ z,zev S x=some (.mp i)∧zev S y=some (KZ.z q)∧q.ok kd=true∧H[i]?=some (.box (.val (.bool kd)::l.map entK))∧zev S v=some z∧L i=true∧K .no (H.set i (.box (.val (.bool kd)::(jgU l q z).map entK)))
  | .bad=>False
end
section
open Go Go.RowKit
variable {fl L:Nat→Bool}{w:Wd}{S:ZS}{s:jal}
def PK (fl L:Nat→Bool)(w:Wd)(K:ZV→ZH→Prop)(a:AV)(h':Heap):Prop:= ∃z w',w'.h=h'∧ZRel fl L w'∧Ext w w'∧ZR w' z a∧K z w'.H
theorem PK.same (r:ZRel fl L w){K:ZV→ZH→Prop}{z:ZV}{a:AV}(hz:ZR w z a)(k:K z w.H):PK fl L w K a w.h:=⟨z,w,rfl,r,Ext.refl w,hz,k⟩
theorem jeL: ∀{l:List AV} {zs:List ZV},zcs l=some zs→ZRs w zs l
 |[],zs,h=>by simp only[zcs,U4] at h;subst h;exact .nil
 |a::l,zs,h=>by
  unfold zcs at h;split at h
  ·rename_i heq;cases heq
  ·rename_i v r heq
   injection heq with e1 e2;subst e1;subst e2
   cases hr:zcs l with
   |none=>rw[hr] at h;cases h
   |some ys=>
    rw[hr] at h;simp only[U9,U4] at h;subst h;exact .cons (.fr (.val v)) (jeL hr)
  ·cases h
theorem jan (hS: ∀t,ZR w (S t) (s t)){x:Opd}{z:ZV}(h:zev S x=some z):ZR w z (x.ev s):=by
 unfold zev at h;split at h
 ·injection h with h;subst h;exact hS _
 ·injection h with h;subst h;exact .fr (.val _)
 ·injection h with h;subst h;exact .fr (.func _)
 ·rename_i cs
  cases hc:zcs cs with
  |none=>rw[hc] at h;cases h
  |some zs=>
   rw[hc] at h;simp only[U9,U4] at h;subst h;exact (jeL hc).toAgg
 ·injection h with h;subst h;exact ZRs.nil.toTuple
 ·cases h
theorem jet (hS: ∀t,ZR w (S t) (s t)): ∀{l:List Opd} {zs:List ZV},zevs S l=some zs→ZRs w zs (l.map (·.ev s))
 |[],zs,h=>by simp only[zevs,U4] at h;subst h;exact .nil
 |x::l,zs,h=>by
  unfold zevs at h;split at h
  ·rename_i z ys h1 h2
   injection h with h;subst h
   exact .cons (jan hS h1) (jet hS h2)
  ·cases h
theorem jfL {cs vs:List ZV}{ys bs:List AV}(h:ZRs w cs ys)(h':ZRs w vs bs)(o:Nat):ZRs w (jad cs o vs) (ys.take o++bs++ys.drop (o+bs.length)):=by
 unfold jad;rw[←h'.1];exact ((h.take o).append h').append (h.drop _)
theorem jmN {cs vs:List ZV}{o:Nat}(h:o+vs.length≤cs.length):(jad cs o vs).length=cs.length:=by unfold jad;simp;omega
theorem jhc: ∀{qs:List (Nat×Nat×ZV)} {ps:List (Nat×Nat×AV)} {zs cs:List ZV} {ys:List AV},ZRs w zs ys→qs.length=ps.length→(∀(i:Nat) q p,qs[i]?=some q→ps[i]?=some p→q.1=p.1∧q.2.1=p.2.1∧ZR w q.2.2 p.2.2)→jhK zs qs=some cs→ ∃bs,jcX ys ps=some bs∧ZRs w cs bs
 |[],[],zs,cs,ys,h,_,_,hf=>by simp only[jhK,U4] at hf;subst hf;exact⟨ys,rfl,h⟩
 |[],_::_,_,_,_,_,hl,_,_=>by simp at hl
 |_::_,[],_,_,_,_,hl,_,_=>by simp at hl
 |(o,n,v)::qs,(o',n',a)::ps,zs,cs,ys,h,hl,hq,hf=>by
  obtain⟨e1,e2,e3⟩:=hq 0 _ _ rfl rfl;dsimp only at e1 e2 e3;subst e1;subst e2
  simp only[jhK] at hf;split at hf
  ·rename_i hc
   have hcell:=e3.cells;have hset:=jfL h hcell o;have hlen:a.cells.length=n:=by rw[←hcell.1];exact hc.1
   rw[hlen] at hset;obtain⟨bs,hb,hr⟩:=jhc (ps:=ps) hset (by simpa using hl) (fun i q p h1 h2=>hq (i+1) q p (by simpa using h1) (by simpa using h2)) hf;refine⟨bs,?_,hr⟩;simp only[jcX];rw[if_pos ⟨hlen,by rw[←h.1];exact hc.2.1,by rw[←hcell.allCell];exact hc.2.2⟩];exact hb
  ·cases hf
theorem jf2 (hS: ∀t,ZR w (S t) (s t)): ∀{ps:List (Nat×Nat×Opd)} {qs:List (Nat×Nat×ZV)},je4 S ps=some qs→qs.length=(ps.map fun p=>(p.1,p.2.1,p.2.2.ev s)).length∧ ∀(i:Nat) q p,qs[i]?=some q→(ps.map fun p=>(p.1,p.2.1,p.2.2.ev s))[i]?=some p→q.1=p.1∧q.2.1=p.2.1∧ZR w q.2.2 p.2.2
 |[],qs,h=>by simp only[je4,U4] at h;subst h;exact⟨rfl,fun i q p h1=>by simp at h1⟩
 |(o,n,x)::ps,qs,h=>by
  unfold je4 at h;split at h
  ·rename_i z l h1 h2
   injection h with h;subst h
   obtain⟨i1,i2⟩:=jf2 hS h2;refine⟨by simpa using i1,fun i q p hq hp=>?_⟩
   cases i with
   |zero=>simp at hq hp;subst hq;subst hp;exact⟨rfl,rfl,jan hS h1⟩
   |succ i=>exact i2 i q p (by simpa using hq) (by simpa using hp)
  ·cases h
theorem jeB {cs:List ZV}{ys:List AV}(h:ZRs w cs ys){o:Nat}{n:Option Nat}{z:ZV}(hp:jdI cs o n=some z): ∃a,jg3 ys o n=some a∧ZR w z a:=by
 cases n with
 |none=>exact h.get hp
 |some n=>
  simp only[jdI] at hp;split at hp
  ·rename_i hl
   injection hp with hp;subst hp
   exact⟨_,by simp only[jg3];rw[if_pos (by rw[←h.1];exact hl)],((h.drop o).take n).toAgg⟩
  ·cases hp
theorem jd3 {z:ZV}{a:AV}(h:ZR w z a){n:Nat}(hn:natZ z=some n):jcJ a=some n:=by
 unfold natZ at hn;split at hn
 ·rename_i k m
  rw[h.val_inv];simp only[jcJ,jiV];exact hn
 ·cases hn
theorem jra: ∀{ks:List Nat} {x y:List ZV} {x' y':List AV},ZRs w x x'→ZRs w y y'→ ∀{t},jf7 ks x y=some t→jbx ks x' y'=some t:=by
 intro ks x y;induction ks generalizing x y with
 |nil=>
  intro x' y' hx hy t h;match x,y,h with
  |[],[],h=>
   have e1:x'=[]:=Y9 (by simpa using hx.1.symm);have e2:y'=[]:=Y9 (by simpa using hy.1.symm);subst e1;subst e2;exact h
 |cons k ks ih=>
  intro x' y' hx hy t h;match x,y,h with
  | .val a::x,.val b::y,h=>
   match x',y',hx,hy with
   |[],_,hx,_=>have:=hx.1;simp at this
   |_::_,[],_,hy=>have:=hy.1;simp at this
   |a'::x',b'::y',hx,hy=>
    have e1:=(hx.2 0 _ _ rfl rfl).val_inv;have e2:=(hy.2 0 _ _ rfl rfl).val_inv;subst e1;subst e2
    simp only[jf7,jbx] at h ⊢
    cases h1:jmP k a b with
    |none=>rw[h1] at h;cases h
    |some t1=>
     cases h2:jf7 ks x y with
     |none=>rw[h1,h2] at h;cases h
     |some t2=>
      rw[ih (x:=x) (y:=y) ⟨by simpa using hx.1,fun i x y h1 h2=>hx.2 (i+1) x y (by simpa using h1) (by simpa using h2)⟩ ⟨by simpa using hy.1,fun i x y h1 h2=>hy.2 (i+1) x y (by simpa using h1) (by simpa using h2)⟩ h2];rw[h1,h2] at h;exact h
theorem jk9 {mx:Bool}: ∀{zs:List ZV} {z v:ZV} {a:AV} {ys:List AV},ZR w z a→ZRs w zs ys→jhN mx z zs=some v→ ∃b,jlT mx a ys=some b∧ZR w v b
 |[],z,v,a,ys,h,hs,hb=>by
  have e:ys=[]:=Y9 (by simpa using hs.1.symm);subst e;have e1:jhN mx z []=some z:=by cases z<;>rfl
  have e2:jlT mx a []=some a:=by cases a<;>rfl
  rw[e1] at hb;injection hb with hb;subst hb
  exact⟨a,e2,h⟩
 |y::zs,z,v,a,ys,h,hs,hb=>by
  unfold jhN at hb;split at hb
  ·rename_i heq;cases heq
  ·rename_i k n k' p r heq
   injection heq with e1 e2;subst e1;subst e2
   match ys,hs with
   |[],hs=>have:=hs.1;simp at this
   |b::ys,hs=>
    have e1:=h.val_inv;have e2:=(hs.2 0 _ _ rfl rfl).val_inv;subst e1;subst e2
    simp only[jlT];exact jk9 (.fr (.val _)) ⟨by simpa using hs.1,fun i x y h1 h2=>hs.2 (i+1) x y (by simpa using h1) (by simpa using h2)⟩ hb
  ·cases hb
/-! ### Rows -/
theorem jcE {k:Nat}: ∀{rows:List (List ZV)},(∀r∈rows,r.length=k)→rows.flatten.length=rows.length*k
 |[],_=>by simp
 |r::rows,h=>by
  rw[D6,G3,h r (by simp),jcE (rows:=rows) (fun x hx=>h x (by simp[hx])),Q3,Y0];omega
theorem jcy {k:Nat}: ∀{rows:List (List ZV)},(∀r∈rows,r.length=k)→ ∀j,rows.flatten.drop (j*k)=(rows.drop j).flatten
 |[],_,j=>by simp
 |r::rows,h,0=>by simp
 |r::rows,h,j+1=>by
  have hr:=h r (by simp);rw[D6,Y0,D7,Nat.add_comm,← hr,List.drop_append,D8,D9 (by omega),List.nil_append,List.drop_succ_cons,hr];exact jcy (fun x hx=>h x (by simp[hx])) j
theorem jcx {k:Nat}: ∀{rows:List (List ZV)},(∀r∈rows,r.length=k)→ ∀j,rows.flatten.take (j*k)=(rows.take j).flatten
 |[],_,j=>by simp
 |r::rows,h,0=>by simp
 |r::rows,h,j+1=>by
  have hr:=h r (by simp);rw[List.take_succ_cons,D6,D6,← jcx (fun x hx=>h x (by simp[hx])) j,Y0,D7,Nat.add_comm,List.take_append,hr,D8,I5 (by omega)]
theorem jpD {k:Nat}{rows:List (List ZV)}(h: ∀r∈rows,r.length=k){j:Nat}{r:List ZV}(hr:rows[j]?=some r):(rows.flatten.drop (j*k)).take k=r:=by
 have hj:j<rows.length:=(U0.1 hr).1;have e:rows[j]=r:=(U0.1 hr).2;rw[jcy h,List.drop_eq_getElem_cons hj,e,D6,I4 (by rw[h r (e▸M4 hj)];omega),I5 (by rw[h r (e▸M4 hj)];omega)]
theorem FR.rows {Fr:Nat→Prop}{h:Heap}{k:Nat}{ex:Bool}{rows:List (List ZV)}{a:AV}(hr:FR Fr h (.fz k ex rows) a):
  (rows=[]∧(a= .nil∨(a= .hole∧ex=false)))∨ ∃id off lb ex' row,a= .slice id off rows.length lb ex' k∧Fr id∧blk h id=some row∧off+rows.length*k≤row.length∧rows.length≤lb∧(ex=true→ex'=true∧lb=rows.length)∧(∀r∈rows,r.length=k)∧
   ∀i z,rows.flatten[i]?=some z→ ∃c,row[off+i]?=some c∧FR Fr h z c:=by
 cases hr with
 |fnil e=>exact .inl ⟨rfl,e⟩
 |fz cell q1 q2 q3 q4 q5 q6 q7 q8=>exact .inr ⟨_,_,_,_,_,rfl,q1,q2,q3,q4,q5,q6,fun i z hz=>⟨_,q7 i z hz,q8 i z hz⟩⟩
theorem FR.ofRows {Fr:Nat→Prop}{h:Heap}{k:Nat}{ex:Bool}{rows:List (List ZV)}{id off lb:Nat}{ex':Bool}{row:List AV}(q1:Fr id)(q2:blk h id=some row)(q3:off+rows.length*k≤row.length)(q4:rows.length≤lb)(q5:ex=true→ex'=true∧lb=rows.length)(q6: ∀r∈rows,r.length=k)
  (q7: ∀i z,rows.flatten[i]?=some z→ ∃c,row[off+i]?=some c∧FR Fr h z c):FR Fr h (.fz k ex rows) (.slice id off rows.length lb ex' k):=by
 refine .fz (row:=row) (fun i=>row.getD (off+i) .no) q1 q2 q3 q4 q5 q6 (fun i z hz=>?_) (fun i z hz=>?_)
 ·obtain⟨c,h1,_⟩:=q7 i z hz
  rw[h1,C0,h1];rfl
 ·obtain⟨c,h1,h2⟩:=q7 i z hz
  rw[C0,h1];exact h2
theorem ZRs.ofFlat {rows:List (List ZV)}{row:List AV}{off k:Nat}(h0: ∀r∈rows,r.length=k)(h1:off+rows.length*k≤row.length)(h2: ∀i z,rows.flatten[i]?=some z→ ∃c,row[off+i]?=some c∧ZR w z c):ZRs w rows.flatten ((row.drop off).take (rows.length*k)):=by
 refine⟨by rw[jcE h0,C4,C5];omega,fun i z a hz ha=>?_⟩;obtain⟨c,h3,h4⟩:=h2 i z hz;rw[O8] at ha;split at ha
 ·rw[O9,h3] at ha
  injection ha with ha;subst ha;exact h4
 ·cases ha
theorem jgq (r:ZRel fl L w){z:ZV}{a:AV}(hz:ZR w z a){k:Nat}{rows:List (List ZV)}(hr:ja2 w.H k z=some rows): ∃cells,jdN w.h k a=some (rows.length,cells)∧ZRs w rows.flatten cells∧ ∀x∈rows,x.length=k:=by
 unfold ja2 at hr;split at hr
 ·injection hr with hr;subst hr
  rw[hz.val_inv];exact⟨[],rfl,.nil,by simp⟩
 ·split at hr
  ·rename_i k' ex rows' hk
   injection hr with hr;subst hr;subst hk
   rcases hz.fz_inv.rows with⟨rfl,e⟩|⟨id,off,lb,ex',row,rfl,q1,q2,q3,q4,q5,q6,q7⟩
   ·rcases e with rfl|⟨rfl,_⟩<;>exact⟨[],rfl,.nil,by simp⟩
   ·refine⟨_,by simp only[jdN,rd,q2];rw[if_pos q3],.ofFlat q6 q3 (fun i z hz=>?_),q6⟩
    obtain⟨c,h1,h2⟩:=q7 i z hz;exact⟨c,h1,.fr h2⟩
  ·cases hr
 ·rename_i i g off len ex
  split at hr
  ·rename_i g' k' rows' hb
   split at hr
   ·rename_i hc
    obtain⟨rfl,rfl,hle⟩:=hc;injection hr with hr
    obtain⟨g0,gB⟩:=r.grow _ _ _ _ hb;have hall: ∀x∈rows,x.length=k':=fun x hx=>g0 x (by subst hr;exact M7 (M6 hx))
    have hlen:rows.length=len:=by subst hr;simp;omega
    cases hz with
    |fr hf=>cases hf
    |own h1 h2 h3 h4=>
     rcases (h2 _ _ _ hb).2 rfl with⟨_,q2,q3,q4,q5⟩|⟨id,b,lb,ex',row,q1,q2,q3,q4,q5,q6,q7⟩
     ·subst q2;subst q3;subst q4
      simp at hr;subst hr
      rcases q5 with rfl|⟨id,o,row,rfl,s1,s2,s3⟩
      ·exact⟨[],rfl,.nil,by simp⟩
      ·exact⟨[],by simp[jdN,rd,s2,s3],.nil,by simp⟩
     ·subst q2
      have hm:len*k'≤lb*k':=E9 _ q4;refine⟨(row.drop (b+off*k')).take (len*k'),by simp only[jdN,rd,q5];rw[if_pos (by omega),hlen],?_,hall⟩;rcases gB with⟨m1,m2⟩|⟨id',b',row',m1,m2,m3,m4⟩
      ·subst m2;simp at hr q3;subst hr
       have:len=0:=by omega
       subst this;simp;exact .nil
      ·rw[q1] at m1
       injection m1 with m1;injection m1 with e1 e2;subst e1;subst e2
       rw[q5] at m2;injection m2 with m2;subst m2
       have:=(m4.drop (off*k')).take (len*k');have hm2:(off+len)*k'≤rows'.length*k':=E9 _ hle;rw[Y0] at hm2;rw[jcy g0,jcx (fun x hx=>g0 x (M7 hx)),hr,Q0,N7,C6,C7 (by omega)] at this;exact this
   ·cases hr
  ·cases hr
 ·cases hr
end
section
open Go Go.RowKit
variable {fl L:Nat→Bool}{w:Wd}{S:ZS}{s:jal}
theorem jh8 {α:Type}{x bs:List α}{o:Nat}(h:o+bs.length≤x.length)(i:Nat):(x.take o++bs++x.drop (o+bs.length))[i]?=if i<o then x[i]? else if i<o+bs.length then bs[i - o]? else x[i]?:=by
 have hl:(x.take o).length=o:=by rw[C4];omega
 by_cases h1:i<o
 ·rw[if_pos h1,M8,V5 (by omega),O8,if_pos h1]
 ·rw[if_neg h1]
  by_cases h2:i<o+bs.length
  ·rw[if_pos h2,V5 (by rw[G3];omega),N0 (by omega),hl]
  ·rw[if_neg h2,N0 (by rw[G3];omega),G3,hl,O9]
   congr 1;omega
theorem jds {α:Type}{x bs:List α}{o:Nat}(h:o+bs.length≤x.length):(x.take o++bs++x.drop (o+bs.length)).length=x.length:=by simp;omega
theorem jf1 {α:Type}{x bs:List α}{o b m:Nat}(h1:b≤o)(h2:o+bs.length≤b+m)(h3:b+m≤x.length):
  ((x.take o++bs++x.drop (o+bs.length)).drop b).take m=(((x.drop b).take m).take (o - b)++bs++((x.drop b).take m).drop (o - b+bs.length)):=by
 apply List.ext_getElem?
 intro i;have hlm:((x.drop b).take m).length=m:=by rw[C4,C5];omega
 rw[jh8 (by rw[hlm];omega)];by_cases hi:i<m
 ·rw[O8,if_pos hi,O9,jh8 (by omega)]
  by_cases q1:b+i<o
  ·rw[if_pos q1,if_pos (show i<o - b by omega),O8,if_pos hi,O9]
  ·rw[if_neg q1,if_neg (show ¬i<o - b by omega)]
   by_cases q2:b+i<o+bs.length
   ·rw[if_pos q2,if_pos (show i<o - b+bs.length by omega)];congr 1;omega
   ·rw[if_neg q2,if_neg (show ¬i<o - b+bs.length by omega),O8,if_pos hi,O9]
 ·rw[O8,if_neg hi,if_neg (show ¬i<o - b by omega),if_neg (show ¬i<o - b+bs.length by omega),O8,if_neg hi]
theorem joa {α:Type}{a x bs:List α}{o:Nat}(h:o+bs.length≤x.length):a++(x.take o++bs++x.drop (o+bs.length))=((a++x).take (a.length+o)++bs++(a++x).drop (a.length+o+bs.length)):=by
 rw[List.take_length_add_append,show a.length+o+bs.length=a.length+(o+bs.length) by omega,List.drop_length_add_append];simp[M8]
theorem jmi {k o:Nat}{vs:List ZV}: ∀{rows:List (List ZV)} {e:Nat} {r:List ZV},(∀r∈rows,r.length=k)→rows[e]?=some r→o+vs.length≤k→(rows.set e (jad r o vs)).flatten=jad rows.flatten (e*k+o) vs
 |[],e,r,_,he,_=>by simp at he
 |r0::rows,0,r,hk,he,ho=>by
  simp at he;subst he
  have hr:=hk r0 (by simp);simp only[List.set_cons_zero,D6,jad,Nat.zero_mul,C8];rw[I4 (by omega),List.drop_append_of_le_length (by omega)];simp[M8]
 |r0::rows,e+1,r,hk,he,ho=>by
  simp at he;have hr:=hk r0 (by simp);have hk': ∀x∈rows,x.length=k:=fun x hx=>hk x (by simp[hx])
  have hlt:e<rows.length:=(U0.1 he).1;have hm:(e+1)*k≤rows.length*k:=E9 _ hlt;rw[Y0] at hm;rw[List.set_cons_succ,D6,jmi hk' he ho,D6];unfold jad;rw[joa (by rw[jcE hk'];omega),hr];rw[show k+(e*k+o)=(e+1)*k+o by rw[Y0];omega]
/-! ### Loads -/
theorem joA {h:Heap}{id x k o:Nat}{row:List AV}(hb:blk h id=some row)(hx:x+k≤row.length){n:Option Nat}{u:AV}(hp:jg3 ((row.drop x).take k) o n=some u):ldA h id (x+o) n=some u:=by
 have hl:((row.drop x).take k).length=k:=by rw[C4,C5];omega
 cases n with
 |none=>
  simp only[jg3] at hp;rw[O8] at hp;split at hp
  ·rw[O9] at hp
   simp only[ldA,rd1,hb];exact hp
  ·cases hp
 |some n=>
  simp only[jg3,hl] at hp;split at hp
  ·rename_i ho
   injection hp with hp;subst hp
   simp only[ldA,rd,hb];rw[if_pos (by omega)];simp only[U4,AV.agg.injEq];rw[Q0,N7,C6,C7 (by omega)]
  ·cases hp
theorem jlr {k b e N:Nat}{row:List AV}{rows:List (List ZV)}(hk: ∀r∈rows,r.length=k)(hN:N=rows.length)(hb:b+N*k≤row.length)(hr:ZRs w rows.flatten ((row.drop b).take (N*k))){r:List ZV}(he:rows[e]?=some r):
  ZRs w r ((row.drop (b+e*k)).take k)∧b+e*k+k≤row.length:=by
 subst hN;have hlt:e<rows.length:=(U0.1 he).1;have hm:(e+1)*k≤rows.length*k:=E9 _ hlt;rw[Y0] at hm;have:=(hr.drop (e*k)).take k;rw[jpD hk he,Q0,N7,C6,C7 (by omega)] at this;exact⟨this,by omega⟩
theorem jg6 (r:ZRel fl L w){z v:ZV}{a:AV}(hz:ZR w z a){n:Option Nat}(hv:ldZ w.H n z=some v): ∃id off u,a= .ptr id off∧ldA w.h id off n=some u∧ZR w v u:=by
 unfold ldZ at hv;split at hv
 ·rename_i i o
  split at hv
  ·rename_i cs hb
   obtain⟨id,cs',rfl,h1,h2⟩:=hz.ptr_inv;obtain⟨id',row,h3,h4,h5⟩:=r.box i cs hb;rw[h2] at h3;injection h3 with h3;injection h3 with h3;subst h3
   obtain⟨u,h6,h7⟩:=jeB h5 hv;refine⟨id,o,u,rfl,?_,h7⟩;have:=joA (x:=0) (k:=row.length) (o:=o) (n:=n) h4 (by omega) (u:=u) (by rw[W1,I5 (V2 _)];exact h6)
   rwa [C8] at this
  ·cases hv
 ·rename_i i g e o
  split at hv
  ·rename_i g' k rows hb
   split at hv
   ·rename_i hg
    subst hg;split at hv
    ·rename_i rr hrr
     cases hz with
     |fr hf=>cases hf
     |eptr h1 h2 h3=>
      obtain⟨b,q1,q2,q3⟩:=(h2 _ _ _ hb).2 rfl;subst q2;obtain⟨g0,⟨m1,_⟩|⟨id',b',row,m1,m2,m3,m4⟩⟩:=r.grow _ _ _ _ hb
      ·rw[q1] at m1;cases m1
      ·rw[q1] at m1;injection m1 with m1;injection m1 with e1 e2;subst e1;subst e2
       obtain⟨s1,s2⟩:=jlr g0 rfl m3 m4 hrr;obtain⟨u,h6,h7⟩:=jeB s1 hv;exact⟨_,_,u,rfl,joA m2 s2 h6,h7⟩
    ·cases hv
   ·cases hv
  ·cases hv
 ·rename_i k rows j o
  split at hv
  ·rename_i rr hrr
   cases hz with
   |fr hf=>cases hf
   |fptr h1 h2=>
    rcases h1.rows with⟨_,e⟩|⟨id,off,lb,ex',row,e,q1,q2,q3,q4,q5,q6,q7⟩
    ·rcases e with e|⟨e,_⟩<;>cases e
    ·injection e with e1 e2 e3 e4 e5
     subst e1;subst e2
     obtain⟨s1,s2⟩:=jlr q6 rfl q3 (.ofFlat q6 q3 fun i z hz=>by obtain⟨c,t1,t2⟩:=q7 i z hz;exact⟨c,t1,.fr t2⟩) hrr;obtain⟨u,h6,h7⟩:=jeB s1 hv;exact⟨_,_,u,rfl,joA q2 s2 h6,h7⟩
  ·cases hv
 ·cases hv
/-! ### Stores -/
theorem jap {H:ZH}{i:Nat}{B:ZB}(h:H[i]?=some B):i<H.length:=(U0.1 h).1
theorem st_spec (r:ZRel fl L w){p:ZV}{a:AV}(hp:ZR w p a){vs:List ZV}{bs:List AV}(hv:ZRs w vs bs){H':ZH}(hs:stZ L w.H vs p=some H'):
  ∃id off h' w',a= .ptr id off∧wr fl w.h id off bs=some h'∧w'.h=h'∧w'.H=H'∧ZRel fl L w'∧Ext w w':=by
 unfold stZ at hs;split at hs
 ·rename_i i o
  split at hs
  ·rename_i cs hb
   split at hs
   ·rename_i hc
    injection hs with hs;subst hs
    obtain⟨id,cs',rfl,h1,h2⟩:=hp.ptr_inv;obtain⟨id',row,h3,h4,h5⟩:=r.box i cs hb;rw[h2] at h3;injection h3 with h3;injection h3 with h3;subst h3
    have hlen:o+bs.length≤row.length:=by rw[←hv.1,← h5.1];exact hc.2
    have hfl:=r.wr i _ h2 hc.1;have hid:id<w.h.length:=(r.nfr i _ h2).2;obtain⟨w',e1,e2,e3,e4,e5⟩:=jf4 r (jap hb) hc.1 (.box (jad cs o vs)) (id,0) (w.h.set id (some (row.take o++bs++row.drop (o+bs.length)))) _
     (fun j hj hne=>jc6 (hne _ h2)) (by simp) ⟨by simpa using hid,.inl ⟨_,h2,rfl⟩⟩ (jcM hid)
     (.inl ⟨cs,_,hb,rfl,h2,fun w' e=>jfL (h5.ext e) (hv.ext e) o⟩)
    exact⟨id,o,_,w',rfl,jtb h4 hfl hlen,e1,e2,e4,e5⟩
   ·cases hs
  ·cases hs
 ·rename_i i g e o
  split at hs
  ·rename_i g' k rows hb
   split at hs
   ·rename_i hg
    subst hg;split at hs
    ·rename_i rr hrr
     split at hs
     ·rename_i hc
      injection hs with hs;subst hs
      cases hp with
      |fr hf=>cases hf
      |eptr h1 h2 h3=>
       obtain⟨b,q1,q2,q3⟩:=(h2 _ _ _ hb).2 rfl;subst q2;obtain⟨g0,⟨m1,_⟩|⟨id',b',row,m1,m2,m3,m4⟩⟩:=r.grow _ _ _ _ hb
       ·rw[q1] at m1;cases m1
       ·rw[q1] at m1;injection m1 with m1;injection m1 with e1 e2;subst e1;subst e2
        have hrl:=g0 rr (R5 hrr);obtain⟨s1,s2⟩:=jlr g0 rfl m3 m4 hrr;have hvl:=hv.1;rw[hrl] at hc;have hfl:=r.wr i _ q1 hc.1;have hid:=(r.nfr i _ q1).2;have hm:(e+1)*k≤rows.length*k:=E9 _ q3;rw[Y0] at hm;have hlen:b+e*k+o+bs.length≤row.length:=by omega
        obtain⟨w',e1,e2,e3,e4,e5⟩:=jf4 r (jap hb) hc.1 (.grow g' k (rows.set e (jad rr o vs))) _ (w.h.set _ (some (row.take (b+e*k+o)++bs++row.drop (b+e*k+o+bs.length)))) _
         (fun j hj hne=>jc6 (hne _ q1)) (by simp) ⟨by simpa using hid,.inl ⟨_,q1,rfl⟩⟩ (jcM hid)
         (.inr ⟨g', k, rows, g', _, hb, rfl, fun x hx => by
          rcases List.mem_or_eq_of_mem_set hx with hx|rfl
          ·exact g0 x hx
          ·rw[jmN (by rw[hrl];exact hc.2)];exact hrl,by
           rw[jds hlen,D5];exact m3,fun w' e'=>by
           rw[jmi g0 hrr hc.2,D5,jf1 (by omega) (by omega) m3];rw[show b+e*k+o - b=e*k+o by omega];exact jfL (m4.ext e') (hv.ext e') _,.inr ⟨rfl,q1,by simp,row,m2,jds hlen⟩⟩)
        exact⟨_,_,_,w',rfl,jtb m2 hfl hlen,e1,e2,e4,e5⟩
     ·cases hs
    ·cases hs
   ·cases hs
  ·cases hs
 ·cases hs
end
section
open Go Go.RowKit
variable {fl L:Nat→Bool}{w:Wd}{S:ZS}{s:jal}
theorem upd_nil (r:ZRel fl L w){i g g' k:Nat}{rows:List (List ZV)}(hb:w.H[i]?=some (.grow g k rows))(hm:w.mu i=none)(hg:g<g'):
  ∃w',w'.h=w.h∧w'.H=w.H.set i (.grow g' k [])∧w'.mu=w.mu∧w'.Fr=w.Fr∧ZRel fl L w'∧Ext w w':=by
 have hi:=jap hb;have hget: ∀(j:Nat) C,(w.H.set i (.grow g' k []))[j]?=some C→(j≠i∧w.H[j]?=some C)∨(j=i∧C= .grow g' k []):=fun j C h=>by
  by_cases hj:j=i
  ·subst hj
   rw[M1] at h;simp[hi] at h;exact .inr ⟨rfl,h.symm⟩
  ·rw[M1,if_neg (Ne.symm hj)] at h;exact .inl ⟨hj,h⟩
 have e:Ext w ⟨w.Fr,w.mu,w.H.set i (.grow g' k []),w.h⟩:=by
  refine⟨fun _ h=>h,fun id _ h hr=>hr,V2 _,by simp,fun j p h=> .inl ⟨p,h,rfl⟩,fun j cs h=>⟨⟨cs,?_⟩,rfl⟩,fun j cs hj h=>(hget j _ h).elim (fun q=>⟨cs,q.2⟩) (fun q=>by cases q.2),fun j g2 k2 rows2 hj h=>?_⟩
  ·show (w.H.set i _)[j]?=_
   rw[M1,if_neg]
   ·exact h
   ·intro e;subst e;rw[hb] at h;cases h
  ·rcases hget j _ h with⟨hj',h⟩|⟨rfl,hq⟩
   ·exact⟨g2,rows2,h,V2 _,fun _=>⟨rfl,rfl,fun id b row hp hr=>⟨row,hr,rfl⟩⟩⟩
   ·injection hq with e1 e2 e3;subst e1;subst e2;subst e3
    exact⟨g,rows,hb,by omega,fun e=>by omega⟩
 refine⟨⟨w.Fr,w.mu,w.H.set i (.grow g' k []),w.h⟩,rfl,rfl,rfl,rfl,?_,e⟩;refine⟨r.fresh,fun j h=>r.lfresh j (by simpa using h),r.frlt,fun j p h=>by simpa using r.dom j p h,r.inj,r.nfr,r.wr,fun j cs h=>?_,fun j g2 k2 rows2 h=>?_⟩
 ·rcases hget j _ h with⟨hj,h⟩|⟨rfl,hq⟩
  ·obtain⟨id,row0,q1,q2,q3⟩:=r.box j cs h
   exact⟨id,row0,q1,q2,q3.ext e⟩
  ·cases hq
 ·rcases hget j _ h with⟨hj,h⟩|⟨rfl,hq⟩
  ·obtain⟨q0,q1|⟨id,b,row0,q1,q2,q3,q4⟩⟩:=r.grow j g2 k2 rows2 h
   ·exact⟨q0,.inl q1⟩
   ·exact⟨q0,.inr ⟨id,b,row0,q1,q2,q3,q4.ext e⟩⟩
  ·injection hq with e1 e2 e3;subst e1;subst e2;subst e3
   exact⟨by simp,.inl ⟨hm,rfl⟩⟩
theorem jiH (r:ZRel fl L w){i g k:Nat}{rows:List (List ZV)}(hb:w.H[i]?=some (.grow g k rows)){id b off len lb:Nat}{ex ex':Bool}{row:List AV}(hm:w.mu i=some (id,b))(hr:blk w.h id=some row)(h1:off+len≤rows.length)(h2:len≤lb)(h3:b+off*k+lb*k≤row.length)(h4:ex=true→ex'=true∧lb=len):
  ZR w (.own i g off len ex) (.slice id (b+off*k) len lb ex' k):=by
 refine .own (jap hb) (fun g' k' rows' hb'=>?_) (fun x hx=>?_) rfl
 ·rw[hb] at hb';injection hb' with hb';injection hb' with e1 e2 e3;subst e1;subst e2;subst e3
  exact⟨V2 _,fun _=> .inr ⟨id,b,lb,ex',row,hm,rfl,h1,h2,hr,h3,h4⟩⟩
 ·simp[jdq] at hx
  subst hx;exact⟨(r.nfr i _ hm).2,fun i' p hp e=>r.inj i' i p _ hp hm e⟩
theorem jf9 (r:ZRel fl L w){i g k:Nat}(hb:w.H[i]?=some (.grow g k []))(hm:w.mu i=none){ex:Bool}{a:AV}(ha:a= .nil∨ ∃id o row,a= .slice id o 0 0 true k∧w.Fr id∧blk w.h id=some row∧o≤row.length):ZR w (.own i g 0 0 ex) a:=by
 refine .own (jap hb) (fun g' k' rows' hb'=>?_) ?_ ?_
 ·rw[hb] at hb';injection hb' with hb';injection hb' with e1 e2 e3;subst e1;subst e2;subst e3
  exact⟨V2 _,fun _=> .inl ⟨hm,rfl,rfl,rfl,ha⟩⟩
 ·rcases ha with rfl|⟨id,o,row,rfl,hf,_⟩
  ·intro x hx;simp[jdq] at hx
  ·intro x hx
   simp[jdq] at hx;subst hx
   exact⟨r.frlt _ hf,fun i' p hp e=>absurd (e▸hf) (r.nfr i' p hp).1⟩
 ·rcases ha with rfl|⟨id,o,row,rfl,_⟩<;>rfl
theorem jfr (r:ZRel fl L w){k:Nat}{rows:List (List ZV)}{cells:List AV}(hc:ZRs w rows.flatten cells)(hk: ∀x∈rows,x.length=k){n:Nat}(hn:rows.length=n)(ex ex':Bool)(he:ex=true→ex'=true):
  ∃w',w'.h=w.h++[some cells]∧w'.H=w.H++[.grow 0 k rows]∧ZRel fl L w'∧Ext w w'∧ZR w' (.own w.H.length 0 0 n ex) (.slice w.h.length 0 n n ex' k):=by
 have hl:rows.length*k=cells.length:=by rw[←hc.1,jcE hk]
 obtain⟨w',e1,e2,e3,e4,e5,e6⟩:=jeG r (.grow 0 k rows) cells (.inr ⟨k,rows,rfl,hk,hl,hc⟩);refine⟨w',e1,e2,e5,e6,?_⟩;have:=jiH e5 (i:=w.H.length) (g:=0) (k:=k) (rows:=rows) (by rw[e2];simp) e3 e4 (off:=0) (len:=n) (lb:=n) (ex:=ex) (ex':=ex') (by omega) (V2 _) (by rw[←hn];omega) (fun h=>⟨he h,rfl⟩);simpa using this
theorem app_spec (r:ZRel fl L w){z v:ZV}{a:AV}(hz:ZR w z a){k bytes:Nat}{new:List (List ZV)}{cells:List AV}(hc:ZRs w new.flatten cells)(hk: ∀x∈new,x.length=k){H':ZH}(ha:appZ L w.H k bytes new z=some (v,H')):
  ∃a' h' w',jcs fl w.h k bytes a new.length cells=some (a',h')∧w'.h=h'∧w'.H=H'∧ZRel fl L w'∧Ext w w'∧ZR w' v a':=by
 have hcl:cells.length=new.length*k:=by rw[←hc.1,jcE hk]
 have fromNil: ∀{n:Nat},new.length=n→n*bytes≤reach→n≠0→jcs fl w.h k bytes .nil n cells=some (.slice w.h.length 0 n n false k,w.h++[some cells]):=fun hn hb h0=>by
  unfold jcs;rw[if_neg h0];simp only;rw[if_pos hb]
 unfold appZ at ha;split at ha
 ·-- nil
  have hz:=hz.val_inv;subst hz;split at ha
  ·rename_i hb
   injection ha with ha;injection ha with e1 e2;subst e1;subst e2
   by_cases h0:new.length=0
   ·have:new=[]:=Y9 h0
    subst this;obtain⟨w',e1,e2,e3,e4,e5,e6⟩:=jjz r k;exact⟨.nil,w.h,w',rfl,e1,e2,e5,e6,jf9 e5 (k:=k) (by rw[e2];simp) e3 (.inl rfl)⟩
   ·obtain⟨w',e1,e2,e3,e4,e5⟩:=jfr r hc hk rfl false false (fun h=>h)
    exact⟨_,_,w',fromNil rfl hb h0,e1,e2,e3,e4,e5⟩
  ·cases ha
 ·-- fz
  rename_i k' ex rows;split at ha
  ·rename_i hcond
   obtain⟨rfl,hb⟩:=hcond;have hf:=hz.fz_inv;split at ha
   ·rename_i h0
    injection ha with ha;injection ha with e1 e2;subst e1;subst e2;subst h0
    refine⟨a,w.h,w,?_,rfl,rfl,r,Ext.refl w,hz⟩;rcases hf.rows with⟨_,rfl|⟨rfl,_⟩⟩|⟨id,off,lb,ex',row,rfl,_⟩<;>rfl
   ·rename_i h0
    have h0':new.length≠0:=fun h=>h0 (Y9 h)
    split at ha
    ·rename_i hex
     subst hex;injection ha with ha;injection ha with e1 e2;subst e1;subst e2
     rcases hf.rows with⟨rfl,rfl|⟨rfl,h⟩⟩|⟨id,off,lb,ex',row,rfl,q1,q2,q3,q4,q5,q6,q7⟩
     ·obtain⟨w',e1,e2,e3,e4,e5⟩:=jfr (rows:=[]++new) (n:=([]:List (List ZV)).length+new.length) r (by simpa using hc) (by simpa using hk) (by simp) false false (fun h=>h)
      exact⟨_,_,w',by have:=fromNil rfl (by simpa using hb) h0';simpa using this,by simpa using e1,e2,e3,e4,by simpa using e5⟩
     ·cases h
     ·obtain⟨rfl,rfl⟩:=q5 rfl
      have hold:ZRs w rows.flatten ((row.drop off).take (rows.length*k')):= .ofFlat q6 q3 fun i z hz=>by obtain⟨c,h1,h2⟩:=q7 i z hz;exact⟨c,h1,.fr h2⟩
      have hall: ∀x∈rows++new,x.length=k':=fun x hx=>(O3.1 hx).elim (q6 x) (hk x)
      obtain⟨w',e1,e2,e3,e4,e5⟩:=jfr (rows:=rows++new) (n:=rows.length+new.length) r (by rw[C9];exact hold.append hc) hall (by simp) false false (fun h=>h);refine⟨_,_,w',?_,e1,e2,e3,e4,e5⟩;unfold jcs;rw[if_neg h0'];simp only;rw[if_pos ⟨trivial,hb⟩,if_neg (by omega),show rd w.h id off (rows.length*k')=some ((row.drop off).take (rows.length*k')) by simp only[rd,q2];rw[if_pos q3]]
      rfl
    ·cases ha
  ·cases ha
 ·-- own
  rename_i i g off len ex;split at ha
  ·rename_i g' k' rows hb
   split at ha
   ·rename_i hcond
    obtain⟨rfl,rfl,hle,hby⟩:=hcond;obtain⟨g0,gB⟩:=r.grow _ _ _ _ hb;have hall: ∀x∈(rows.drop off).take len,x.length=k':=fun x hx=>g0 x (M7 (M6 hx))
    have hlen:((rows.drop off).take len).length=len:=by rw[C4,C5];omega
    have hall2: ∀x∈(rows.drop off).take len++new,x.length=k':=fun x hx=>(O3.1 hx).elim (hall x) (hk x)
    have hz0:=hz
    cases hz with
    |fr hf=>cases hf
    |own h1 h2 h3 h4=>
     have hH:=(h2 _ _ _ hb).2 rfl;by_cases h0:new=[]
     ·subst h0
      rw[if_pos rfl] at ha;have hap:jcs fl w.h k' bytes a ([]:List (List ZV)).length cells=some (a,w.h):=by
       rcases hH with⟨_,_,_,_,rfl|⟨_,_,_,rfl,_⟩⟩|⟨_,_,_,_,_,_,rfl,_⟩<;>rfl
      split at ha
      ·injection ha with ha;injection ha with e1 e2;subst e1;subst e2
       exact⟨a,w.h,w,hap,rfl,rfl,r,Ext.refl w,hz0⟩
      ·split at ha
       ·rename_i hex hL
        injection ha with ha;injection ha with e1 e2;subst e1;subst e2
        simp only[A0,G9,Nat.add_zero];rcases hH with⟨m0,rfl,rfl,rfl,hq⟩|⟨id,b,lb,ex',row,m1,rfl,m2,m3,m4,m5,m6⟩
        ·obtain⟨w',e1,e2,e3,e4,e5,e6⟩:=upd_nil (g':=g'+1) r hb m0 (A2 _)
         refine⟨a,w.h,w',hap,e1,by simpa using e2,e5,e6,jf9 e5 (k:=k') (by rw[e2];simp[jap hb]) (by rw[e3];exact m0) ?_⟩;rcases hq with hq|⟨id,o,row,q1,q2,q3,q4⟩
         ·exact .inl hq
         ·exact .inr ⟨id,o,row,q1,by rw[e4];exact q2,by rw[e1];exact q3,q4⟩
        ·have hm:len*k'≤lb*k':=E9 _ m3
         obtain⟨w',e1,e2,e3,e4,e5⟩:=jf4 r (jap hb) hL (.grow (g'+1) k' ((rows.drop off).take len)) (id,b+off*k') w.h row (fun _ _ _=>rfl) (V2 _) ⟨(r.nfr _ _ m1).2,.inl ⟨_,m1,rfl⟩⟩ m4
          (.inr ⟨g', k', rows, g' + 1, _, hb, rfl, hall, by rw [hlen]; show b + off * k' + len * k' ≤ _; omega, fun w' e' => by
           rcases gB with⟨n1,n2⟩|⟨id',b',row',n1,n2,n3,n4⟩
           ·rw[m1] at n1;cases n1
           ·rw[m1] at n1;injection n1 with n1;injection n1 with t1 t2;subst t1;subst t2
            rw[m4] at n2;injection n2 with n2;subst n2
            have:=((n4.drop (off*k')).take (len*k')).ext e';have hm2:(off+len)*k'≤rows.length*k':=E9 _ hle;rw[Y0] at hm2;rw[jcy g0,jcx (fun x hx=>g0 x (M7 hx)),Q0,N7,C6,C7 (by omega)] at this;rw[hlen];exact this,.inl (A2 _)⟩)
         refine⟨_,w.h,w',hap,e1,e2,e4,e5,?_⟩;have:=jiH e4 (i:=i) (g:=g'+1) (k:=k') (rows:=(rows.drop off).take len) (by rw[e2];simp[jap hb]) e3 (by rw[e1];exact m4) (off:=0) (len:=len) (lb:=lb) (ex:=false) (ex':=ex') (by omega) m3 (by omega) (fun h=>by cases h);simpa using this
       ·cases ha
     ·rw[if_neg h0] at ha
      have h0':new.length≠0:=fun h=>h0 (Y9 h)
      -- the old cells, where there are any
      have hold: ∀{id b lb:Nat} {ex':Bool} {row:List AV},w.mu i=some (id,b)→blk w.h id=some row→ZRs w ((rows.drop off).take len).flatten ((row.drop (b+off*k')).take (len*k')):=fun {id b lb ex' row} m1 m4=>by
       rcases gB with⟨n1,n2⟩|⟨id',b',row',n1,n2,n3,n4⟩
       ·rw[m1] at n1;cases n1
       ·rw[m1] at n1;injection n1 with n1;injection n1 with t1 t2;subst t1;subst t2
        rw[m4] at n2;injection n2 with n2;subst n2
        have:=(n4.drop (off*k')).take (len*k');have hm2:(off+len)*k'≤rows.length*k':=E9 _ hle;rw[Y0] at hm2;rw[jcy g0,jcx (fun x hx=>g0 x (M7 hx)),Q0,N7,C6,C7 (by omega)] at this;exact this
      split at ha
      ·rename_i hex
       subst hex;injection ha with ha;injection ha with e1 e2;subst e1;subst e2
       rcases hH with⟨m0,rfl,rfl,rfl,rfl|⟨id,o,row,rfl,q2,q3,q4⟩⟩|⟨id,b,lb,ex',row,m1,rfl,m2,m3,m4,m5,m6⟩
       ·obtain⟨w',e1,e2,e3,e4,e5⟩:=jfr (rows:=(A3 0 []).take 0++new) (n:=0+new.length) r (by simpa using hc) (by simpa using hk) (by simp) false false (fun h=>h)
        exact⟨_,_,w',by have:=fromNil rfl (by simpa using hby) h0';simpa using this,by simpa using e1,e2,e3,e4,by simpa using e5⟩
       ·obtain⟨w',e1,e2,e3,e4,e5⟩:=jfr (rows:=(A3 0 []).take 0++new) (n:=0+new.length) r (by simpa using hc) (by simpa using hk) (by simp) false false (fun h=>h)
        refine⟨_,_,w',?_,e1,e2,e3,e4,e5⟩;unfold jcs;rw[if_neg h0'];simp only;rw[if_pos ⟨trivial,hby⟩,if_neg (by omega),show rd w.h id o (0*k')=some [] by simp[rd,q3,q4]]
        rfl
       ·obtain⟨rfl,rfl⟩:=m6 rfl
        obtain⟨w',e1,e2,e3,e4,e5⟩:=jfr (rows:=(rows.drop off).take lb++new) (n:=lb+new.length) r (by rw[C9];exact (hold (lb:=0) (ex':=true) m1 m4).append hc) hall2 (by rw[G3,hlen]) false false (fun h=>h);refine⟨_,_,w',?_,e1,e2,e3,e4,e5⟩;unfold jcs;rw[if_neg h0'];simp only;rw[if_pos ⟨trivial,hby⟩,if_neg (by omega),show rd w.h id (b+off*k') (lb*k')=some ((row.drop (b+off*k')).take (lb*k')) by simp only[rd,m4];rw[if_pos m5]]
        rfl
      ·split at ha
       ·rename_i hex hL
        injection ha with ha;injection ha with e1 e2;subst e1;subst e2
        have hnl:((rows.drop off).take len++new).length=len+new.length:=by rw[G3,hlen]
        -- a new place
        have move: ∀(h1':Heap) (old:List AV),h1'.length=w.h.length→(∀id,id<w.h.length→(∀p,w.mu i=some p→id≠p.1)→blk h1' id=blk w.h id)→ZRs w ((rows.drop off).take len).flatten old→
          ∃w',w'.h=h1'++[some (old++cells)]∧w'.H=w.H.set i (.grow (g'+1) k' ((rows.drop off).take len++new))∧ZRel fl L w'∧Ext w w'∧ZR w' (.own i (g'+1) 0 (len+new.length) false) (.slice w.h.length 0 (len+new.length) (len+new.length) false k'):=fun h1' old hl1 hk1 ho=>by
         have hcat:(old++cells).length=(len+new.length)*k':=by rw[G3,← ho.1,jcE hall,hlen,hcl,Y0]
         have hnb:blk (h1'++[some (old++cells)]) w.h.length=some (old++cells):=by rw[←hl1];exact jbk
         obtain⟨w',e1,e2,e3,e4,e5⟩:=jf4 r (jap hb) hL (.grow (g'+1) k' ((rows.drop off).take len++new)) (w.h.length,0) (h1'++[some (old++cells)]) (old++cells)
          (fun id hid hne=>by rw[jcA _ (by omega)];exact hk1 id hid hne) (by simp;omega) ⟨by simp;omega,.inr (V2 _)⟩ hnb
          (.inr ⟨g', k', rows, g' + 1, _, hb, rfl, hall2, by rw [hnl, hcat]; simp, fun w' e' => by
           rw[hnl,C9,W1,show List.take ((len+new.length)*k') (old++cells)=old++cells from I5 (by omega)];exact (ho.ext e').append (hc.ext e'),.inl (A2 _)⟩)
         refine⟨w',e1,e2,e4,e5,?_⟩;have:=jiH e4 (i:=i) (g:=g'+1) (k:=k') (rows:=(rows.drop off).take len++new) (by rw[e2];simp[jap hb]) e3 (by rw[e1];exact hnb) (off:=0) (len:=len+new.length) (lb:=len+new.length) (ex:=false) (ex':=false) (by omega) (V2 _) (by rw[hcat];simp) (fun h=>by cases h);simpa using this
        rcases hH with⟨m0,rfl,rfl,rfl,rfl|⟨id,o,row,rfl,q2,q3,q4⟩⟩|⟨id,b,lb,ex',row,m1,rfl,m2,m3,m4,m5,m6⟩
        ·obtain⟨w',e1,e2,e3,e4,e5⟩:=move w.h [] rfl (fun _ _ _=>rfl) (by simpa using ZRs.nil)
         exact⟨_,_,w',by have:=fromNil rfl (by simpa using hby) h0';simpa using this,by simpa using e1,e2,e3,e4,by simpa using e5⟩
        ·obtain⟨w',e1,e2,e3,e4,e5⟩:=move w.h [] rfl (fun _ _ _=>rfl) (by simpa using ZRs.nil)
         refine⟨_,_,w',?_,e1,e2,e3,e4,e5⟩;unfold jcs;rw[if_neg h0'];simp only;rw[if_pos ⟨trivial,hby⟩,if_neg (by omega),show rd w.h id o (0*k')=some [] by simp[rd,q3,q4]]
         rfl
        ·have hfl:=r.wr _ _ m1 hL
         have hid:=(r.nfr _ _ m1).2;have hm:len*k'≤lb*k':=E9 _ m3;by_cases hroom:len+new.length≤lb
         ·have hm3:(len+new.length)*k'≤lb*k':=E9 _ hroom
          rw[Y0] at hm3;have hfit:b+off*k'+len*k'+cells.length≤row.length:=by omega
          obtain⟨w',e1,e2,e3,e4,e5⟩:=jf4 r (jap hb) hL (.grow (g'+1) k' ((rows.drop off).take len++new)) (id,b+off*k') (w.h.set id (some (row.take (b+off*k'+len*k')++cells++row.drop (b+off*k'+len*k'+cells.length)))) _
           (fun j hj hne=>jc6 (hne _ m1)) (by simp) ⟨by simpa using hid,.inl ⟨_,m1,rfl⟩⟩ (jcM hid)
           (.inr ⟨g', k', rows, g' + 1, _, hb, rfl, hall2, by rw [hnl, jds hfit]; show b + off * k' + _ ≤ _; rw [Y0]; omega, fun w' e' => by
            rw[hnl,jf1 (by show b+off*k'≤_;omega) (by show _≤b+off*k'+_;rw[Y0];omega) (by show b+off*k'+_≤_;rw[Y0];omega),C9];have ho:=(hold (lb:=lb) (ex':=ex') m1 m4).ext e';show ZRs w' _ (((row.drop (b+off*k')).take ((len+new.length)*k')).take (b+off*k'+len*k' - (b+off*k'))++cells++((row.drop (b+off*k')).take ((len+new.length)*k')).drop (b+off*k'+len*k' - (b+off*k')+cells.length));rw[D8,C6,C7 (by rw[Y0];omega),show A3 (len*k'+cells.length) (List.take ((len+new.length)*k') (A3 (b+off*k') row))=[] from D9 (by rw[C4,Y0];omega),A0];exact ho.append (hc.ext e'),.inl (A2 _)⟩)
          refine⟨.slice id (b+off*k') (len+new.length) lb ex' k',_,w',?_,e1,e2,e4,e5,?_⟩
          ·unfold jcs
           rw[if_neg h0'];simp only;rw[if_pos ⟨trivial,hby⟩,if_pos hroom,jtb m4 hfl hfit]
          ·have:=jiH e4 (i:=i) (g:=g'+1) (k:=k') (rows:=(rows.drop off).take len++new) (by rw[e2];simp[jap hb]) e3 (by rw[e1];exact jcM hid) (off:=0) (len:=len+new.length) (lb:=lb) (ex:=false) (ex':=ex') (by omega) hroom (by rw[jds hfit];omega) (fun h=>by cases h)
           simpa using this
         ·have hr:rd w.h id (b+off*k') (len*k')=some ((row.drop (b+off*k')).take (len*k')):=by simp only[rd,m4];rw[if_pos (by omega)]
          cases ex' with
          |true=>
           obtain⟨w',e1,e2,e3,e4,e5⟩:=move w.h _ rfl (fun _ _ _=>rfl) (hold (lb:=lb) (ex':=true) m1 m4);refine⟨_,_,w',?_,e1,e2,e3,e4,e5⟩;unfold jcs;rw[if_neg h0'];simp only;rw[if_pos ⟨trivial,hby⟩,if_neg hroom,hr]
           rfl
          |false=>
           obtain⟨w',e1,e2,e3,e4,e5⟩:=move (kill w.h id) _ (by simp[kill]) (fun j hj hne=>by unfold kill;exact jc6 (hne _ m1)) (hold (lb:=lb) (ex':=true) m1 m4);refine⟨_,_,w',?_,e1,e2,e3,e4,e5⟩;unfold jcs;rw[if_neg h0'];simp only;rw[if_pos ⟨trivial,hby⟩,if_neg hroom,hr];simp only[N6,if_false];rw[if_pos hfl]
       ·cases ha
   ·cases ha
  ·cases ha
 ·cases ha
end
section
open Go Go.RowKit
variable {fl L:Nat→Bool}{w:Wd}{S:ZS}{s:jal}{X:XT}{F:FuncId→Option jbq}
theorem jqo (r:ZRel fl L w){z:ZV}{a:AV}(hz:ZR w z a){n:Nat}(hn:lenZ w.H z=some n):lenA a=some n:=by
 unfold lenZ at hn;split at hn
 ·injection hn with hn;subst hn;rw[hz.val_inv];rfl
 ·injection hn with hn;subst hn
  rcases hz.fz_inv.rows with⟨rfl,rfl|⟨rfl,_⟩⟩|⟨id,off,lb,ex',row,rfl,_⟩<;>rfl
 ·split at hn
  ·rename_i g' k rows hb
   split at hn
   ·rename_i hg
    subst hg;injection hn with hn;subst hn
    cases hz with
    |fr hf=>cases hf
    |own h1 h2 h3 h4=>
     rcases (h2 _ _ _ hb).2 rfl with⟨_,_,_,rfl,rfl|⟨_,_,_,rfl,_⟩⟩|⟨_,_,_,_,_,_,rfl,_⟩<;>rfl
   ·cases hn
  ·cases hn
 ·cases hn
theorem jnq (r:ZRel fl L w){z v:ZV}{a:AV}(hz:ZR w z a){k j:Nat}(hv:jdd w.H k j z=some v): ∃id off len lb ex,a= .slice id off len lb ex k∧j<len∧ZR w v (.ptr id (off+j*k)):=by
 unfold jdd at hv;split at hv
 ·split at hv
  ·rename_i hc
   obtain⟨rfl,hj⟩:=hc;injection hv with hv;subst hv
   have hf:=hz.fz_inv;rcases hf.rows with⟨rfl,_⟩|⟨id,off,lb,ex',row,rfl,_⟩
   ·simp at hj
   ·exact⟨_,_,_,_,_,rfl,hj,by simpa using ZR.fptr (j:=j) (o:=0) hf hj⟩
  ·cases hv
 ·rename_i i g off len ex
  split at hv
  ·rename_i g' k' rows hb
   split at hv
   ·rename_i hc
    obtain⟨rfl,rfl,hle,hj⟩:=hc;injection hv with hv;subst hv
    cases hz with
    |fr hf=>cases hf
    |own h1 h2 h3 h4=>
     rcases (h2 _ _ _ hb).2 rfl with⟨_,_,_,rfl,_⟩|⟨id,b,lb,ex',row,m1,rfl,m2,m3,m4,m5,m6⟩
     ·omega
     ·refine⟨_,_,_,_,_,rfl,hj,.eptr h1 (fun g2 k2 rows2 hb2=>?_) ?_⟩
      ·rw[hb] at hb2;injection hb2 with hb2;injection hb2 with e1 e2 e3;subst e1;subst e2;subst e3
       exact⟨V2 _,fun _=>⟨b,m1,by rw[Y0];omega,by omega⟩⟩
      ·intro x hx
       simp[jdq] at hx;subst hx
       exact⟨(r.nfr _ _ m1).2,fun i' p hp e=>r.inj i' i p _ hp m1 e⟩
   ·cases hv
  ·cases hv
 ·cases hv
theorem jqR {z v:ZV}{a:AV}(hz:ZR w z a){n:Nat}(hv:addZ n z=some v): ∃id o,a= .ptr id o∧ZR w v (.ptr id (o+n)):=by
 unfold addZ at hv;split at hv
 ·injection hv with hv;subst hv
  obtain⟨id,cs,rfl,h1,h2⟩:=hz.ptr_inv;exact⟨id,_,rfl,.ptr h1 h2⟩
 ·injection hv with hv;subst hv
  cases hz with
  |fr hf=>cases hf
  |eptr h1 h2 h3=>
   refine⟨_,_,rfl,.eptr h1 (fun g k rows hb=>?_) (fun x hx=>h3 x (by simpa[jdq] using hx))⟩;obtain⟨q1,q2⟩:=h2 g k rows hb;refine⟨q1,fun e=>?_⟩;obtain⟨b,t1,t2,t3⟩:=q2 e;exact⟨b,t1,by omega,t3⟩
 ·injection hv with hv;subst hv
  cases hz with
  |fr hf=>cases hf
  |fptr h1 h2=>exact⟨_,_,rfl,by rw[Nat.add_assoc];exact .fptr h1 h2⟩
 ·cases hv
theorem jue {w:Wd}{k:Nat}{ex:Bool}{a:AV}(hz:ZR w (.fz k ex []) a): ∃b,jc0 0 a=some b:=by
 have hf:=hz.fz_inv
 cases hf with
 |fnil h=>rcases h with rfl|⟨rfl,_⟩<;>exact⟨_,rfl⟩
 |fz=>exact⟨_,rfl⟩
theorem nil_spec (r:ZRel fl L w){z:ZV}{a:AV}(hz:ZR w z a){kd:Nat}{b:Bool}(hb:nilZ w.H kd z=some b):jc0 kd a=some b:=by
 unfold nilZ at hb;split at hb
 ·injection hb with hb;subst hb;rw[hz.val_inv];rfl
 ·injection hb with hb;subst hb;rw[hz.val_inv];rfl
 ·injection hb with hb;subst hb;rw[hz.val_inv];rfl
 ·injection hb with hb;subst hb;obtain⟨_,_,rfl,_⟩:=hz.ptr_inv;rfl
 ·injection hb with hb;subst hb
  cases hz with
  |fr hf=>cases hf
  |eptr=>rfl
 ·injection hb with hb;subst hb
  cases hz with
  |fr hf=>cases hf
  |fptr=>rfl
 ·injection hb with hb;subst hb;obtain⟨_,rfl,_⟩:=hz.func_inv;rfl
 ·injection hb with hb;subst hb
  rcases hz.fz_inv.rows with⟨h,_⟩|⟨id,off,lb,ex',row,rfl,_⟩
  ·cases h
  ·rfl
 ·split at hb
  ·rename_i g' k rows hB
   split at hb
   ·rename_i hc
    obtain⟨rfl,hle⟩:=hc;injection hb with hb;subst hb
    cases hz with
    |fr hf=>cases hf
    |own h1 h2 h3 h4=>
     rcases (h2 _ _ _ hB).2 rfl with⟨_,_,_,h,_⟩|⟨id,b,lb,ex',row,m1,rfl,_⟩
     ·cases h
     ·rfl
   ·cases hb
  ·cases hb
 ·cases hb
theorem jrh {z:ZV}{a:AV}(hz:ZR w z a)(h:jhx z=true):jql a=true:=by
 unfold jhx at h;split at h
 ·obtain⟨_,_,rfl,_⟩:=hz.ptr_inv;rfl
 ·cases hz with
  |fr hf=>cases hf
  |eptr=>rfl
 ·cases hz with
  |fr hf=>cases hf
  |fptr=>rfl
 ·obtain⟨_,rfl,_⟩:=hz.func_inv;rfl
 ·obtain⟨_,_,rfl,_⟩:=hz.bfunc_inv;rfl
 ·cases h
def numA (d:Nat):Option AV→Option Nat
  |none=>some d
  |some v=>jcJ v
theorem jfO (hS: ∀t,ZR w (S t) (s t)){d n:Nat}{x:Option Opd}(h:numZ S d x=some n):numA d (x.map (·.ev s))=some n:=by
 cases x with
 |none=>exact h
 |some x=>
  simp only[numZ] at h;split at h
  ·rename_i z hz
   exact jd3 (jan hS hz) h
  ·cases h
theorem jg1 {k:Nat}{lo hi mx:Option AV}(h1:numA 0 lo=some 0)(h2:numA 0 hi=some 0)(h3:numA 0 mx=some 0):jc3 k .nil lo hi mx=some .nil:=by
 cases lo<;>cases hi<;>cases mx<;>simp only[numA] at h1 h2 h3<;>simp only[jc3,h1,h2,h3]
theorem joe {k:Nat}{lo hi mx:Option AV}(h1:numA 0 lo=some 0)(h2:numA 0 hi=some 0)(h3:numA 0 mx=some 0):jc3 k .hole lo hi mx=some .hole:=by
 cases lo<;>cases hi<;>cases mx<;>simp only[numA] at h1 h2 h3<;>simp only[jc3,h1,h2,h3]
theorem jeb {k id off len lb l u m:Nat}{ex:Bool}{lo hi mx:Option AV}(h1:numA 0 lo=some l)(h2:numA len hi=some u)(h3:numA lb mx=some m)(hc:l≤u∧u≤m∧m≤lb):jc3 k (.slice id off len lb ex k) lo hi mx=some (.slice id (off+l*k) (u - l) (m - l) (ex||mx.isSome) k):=by
 cases lo<;>cases hi<;>cases mx<;>simp only[numA] at h1 h2 h3<;>simp only[jc3,h1,h2,h3]<;>(try injection h1 with h1;subst h1)<;>(try injection h2 with h2;subst h2)<;>(try injection h3 with h3;subst h3)<;>(rw[if_pos ⟨trivial,hc⟩])
theorem cut_spec (r:ZRel fl L w)(hS: ∀t,ZR w (S t) (s t)){z v:ZV}{a:AV}(hz:ZR w z a){k n l u m:Nat}{lo hi mx:Option Opd}(hn:lenZ w.H z=some n)(hl:numZ S 0 lo=some l)(hu:numZ S n hi=some u)(hm:numZ S n mx=some m)(hv:cutZ w.H k l u m mx.isSome z=some v):
  ∃b,jc3 k a (lo.map (·.ev s)) (hi.map (·.ev s)) (mx.map (·.ev s))=some b∧ZR w v b:=by
 have hl:=jfO hS hl;have hu:=jfO hS hu;have hm0:=hm;have hm:=jfO hS hm;have hmx: ∀lb,m≤n→n≤lb→ ∃m',numA lb (mx.map (·.ev s))=some m'∧(mx.isSome=false→m'=lb∧m=n)∧(mx.isSome=true→m'=m)∧m≤m'∧m'≤lb:=fun lb h1 h2=>by
  cases mx with
  |none=>simp only[numZ,U4] at hm0;exact⟨lb,rfl,fun _=>⟨rfl,hm0.symm⟩,(fun h=>by cases h),by omega,V2 _⟩
  |some y=>exact⟨m,hm,(fun h=>by cases h),fun _=>rfl,V2 _,by omega⟩
 unfold cutZ at hv;split at hv
 ·-- nil
  split at hv
  ·rename_i hc
   obtain⟨rfl,rfl,rfl⟩:=hc;injection hv with hv;subst hv
   have:n=0:=by simp[lenZ] at hn;exact hn.symm
   subst this;rw[hz.val_inv];exact⟨.nil,jg1 hl hu hm,.fr (.val _)⟩
  ·cases hv
 ·rename_i k' ex rows
  split at hv
  ·rename_i hc
   obtain⟨rfl,h1,h2,h3⟩:=hc;have:n=rows.length:=by simp[lenZ] at hn;exact hn.symm
   subst this;have hf:=hz.fz_inv;rcases hf.rows with⟨rfl,ha⟩|⟨id,off,lb,ex',row,rfl,q1,q2,q3,q4,q5,q6,q7⟩
   ·rw[if_pos rfl] at hv
    injection hv with hv;subst hv
    simp only[G9,Nat.le_zero] at h3;subst h3;have hu0:u=0:=by omega
    subst hu0;have hl0:l=0:=by omega
    subst hl0;simp only[G9] at hu hm;rcases ha with rfl|⟨rfl,_⟩
    ·exact⟨.nil,jg1 hl hu hm,.fr (.fnil (.inl rfl))⟩
    ·exact⟨.hole,joe hl hu hm,.fr (.fnil (.inr ⟨rfl,rfl⟩))⟩
   ·obtain⟨m',e1,e2,e3,e4,e5⟩:=hmx lb h3 q4
    have hcond:l≤u∧u≤m'∧m'≤lb:=⟨h1,by omega,e5⟩;refine⟨.slice id (off+l*k') (u - l) (m' - l) (ex'||mx.isSome) k',?_,?_⟩
    ·rw[jeb hl hu e1 hcond]
     cases mx<;>rfl
    ·have hlen:((rows.drop l).take (u - l)).length=u - l:=by rw[C4,C5];omega
     have hm1:u*k'≤rows.length*k':=E9 _ (by omega);have hm2:l*k'+(u - l)*k'=u*k':=by rw[←Y0];congr 1;omega
     have key: ∀ex2:Bool,(ex2=true→(ex'||mx.isSome)=true∧m' - l=u - l)→ZR w (.fz k' ex2 ((rows.drop l).take (u - l))) (.slice id (off+l*k') (u - l) (m' - l) (ex'||mx.isSome) k'):=fun ex2 hex=>by
      have:=FR.ofRows (ex:=ex2) (rows:=(rows.drop l).take (u - l)) (id:=id) (off:=off+l*k') (lb:=m' - l) (ex':=(ex'||mx.isSome)) (row:=row) (k:=k') q1 q2 (by rw[hlen];omega) (by rw[hlen];omega) (by rw[hlen];exact hex) (fun x hx=>q6 x (M7 (M6 hx))) (fun i z hz=>?_)
      ·rw[hlen] at this;exact .fr this
      ·rw[←jcx (fun x hx=>q6 x (M7 hx)),← jcy q6,O8] at hz
       split at hz
       ·rw[O9] at hz
        obtain⟨c,t1,t2⟩:=q7 _ z hz;exact⟨c,by rw[←t1];congr 1;omega,t2⟩
       ·cases hz
     split at hv
     ·rename_i h0
      injection hv with hv;subst hv;subst h0
      have:=key false (fun h=>by cases h);simpa using this
     ·injection hv with hv;subst hv
      refine key _ (fun h=>?_);simp only[U2,R7,beq_iff_eq] at h;obtain⟨h5,h6⟩:=h
      cases hb:mx.isSome with
      |true=>have:=e3 hb;exact⟨by simp,by omega⟩
      |false=>
       rw[hb] at h5;simp at h5;obtain⟨h7,h8⟩:=e2 hb;obtain⟨h9,h10⟩:=q5 h5;exact⟨by simp[h9],by omega⟩
  ·cases hv
 ·rename_i i g off len ex
  split at hv
  ·rename_i g' k' rows hB
   split at hv
   ·rename_i hc
    obtain⟨rfl,rfl,h1,h2,h3,h4⟩:=hc;injection hv with hv;subst hv
    have:n=len:=by simp[lenZ,hB] at hn;exact hn.symm
    subst this
    cases hz with
    |fr hf=>cases hf
    |own p1 p2 p3 p4=>
     rcases (p2 _ _ _ hB).2 rfl with⟨m0,rfl,rfl,rfl,hq⟩|⟨id,b,lb,ex',row,m1,rfl,m2,m3,m4,m5,m6⟩
     ·have e1:m=0:=by omega
      subst e1;have e2:u=0:=by omega
      subst e2;have e3:l=0:=by omega
      subst e3;rcases hq with rfl|⟨id,o,row,rfl,q2,q3,q4⟩
      ·exact⟨.nil,jg1 hl hu hm,jf9 r hB m0 (.inl rfl)⟩
      ·refine⟨.slice id o 0 0 true k',?_,jf9 r hB m0 (.inr ⟨id,o,row,rfl,q2,q3,q4⟩)⟩
       rw[jeb hl hu hm ⟨V2 _,V2 _,V2 _⟩];simp
     ·obtain⟨m',e1,e2,e3,e4,e5⟩:=hmx lb h3 m3
      have hcond:l≤u∧u≤m'∧m'≤lb:=⟨h1,by omega,e5⟩;refine⟨.slice id (b+off*k'+l*k') (u - l) (m' - l) (ex'||mx.isSome) k',?_,?_⟩
      ·rw[jeb hl hu e1 hcond]
       cases mx<;>rfl
      ·have hm1:m'*k'≤lb*k':=E9 _ e5
       have hm2:l*k'+(m' - l)*k'=m'*k':=by rw[←Y0];congr 1;omega
       have:=jiH r hB m1 m4 (off:=off+l) (len:=u - l) (lb:=m' - l) (ex:=((ex||mx.isSome)&&u==m)) (ex':=(ex'||mx.isSome)) (by omega) (by omega) (by rw[Y0];omega) (fun h=>?_)
       ·rw[Y0,← Nat.add_assoc] at this;exact this
       ·simp only[U2,R7,beq_iff_eq] at h
        obtain⟨h5,h6⟩:=h
        cases hb:mx.isSome with
        |true=>have:=e3 hb;exact⟨by simp,by omega⟩
        |false=>
         rw[hb] at h5;simp at h5;obtain⟨h7,h8⟩:=e2 hb;obtain⟨h9,h10⟩:=m6 h5;exact⟨by simp[h9],by omega⟩
   ·cases hv
  ·cases hv
 ·cases hv
theorem jkr (r:ZRel fl L w){i g k:Nat}{rows:List (List ZV)}(hb:w.H[i]?=some (.grow g k rows)):
  ∃w',w'.h=w.h∧w'.H=w.H.set i .dead∧(∀p,w.mu i=some p→w'.Fr p.1)∧ZRel fl L w'∧Ext w w':=by
 have hi:=jap hb;obtain⟨m,hm⟩: ∃m:Nat→Option (Nat×Nat),m=fun j=>if j=i then none else w.mu j:=⟨_,rfl⟩
 have m1:m i=none:=by rw[hm];simp
 have m2: ∀j,j≠i→m j=w.mu j:=fun j hj=>by rw[hm];simp[hj]
 have m3: ∀j p,m j=some p→j≠i∧w.mu j=some p:=fun j p h=>by
  by_cases hj:j=i
  ·subst hj;rw[m1] at h;cases h
  ·exact⟨hj,(m2 j hj).symm.trans h⟩
 have hget: ∀(j:Nat) C,(w.H.set i .dead)[j]?=some C→(j≠i∧w.H[j]?=some C)∨(j=i∧C= .dead):=fun j C h=>by
  by_cases hj:j=i
  ·subst hj
   rw[M1] at h;simp[hi] at h;exact .inr ⟨rfl,h.symm⟩
  ·rw[M1,if_neg (Ne.symm hj)] at h;exact .inl ⟨hj,h⟩
 have e:Ext w ⟨fun id=>w.Fr id∨ ∃p,w.mu i=some p∧p.1=id,m,w.H.set i .dead,w.h⟩:=by
  refine⟨fun _ h=> .inl h,fun id _ h hr=>hr,V2 _,by simp,fun j p h=> .inl ⟨p,(m3 j p h).2,rfl⟩,fun j cs h=>?_,fun j cs hj h=>(hget j _ h).elim (fun q=>⟨cs,q.2⟩) (fun q=>by cases q.2),fun j g2 k2 rows2 hj h=>?_⟩
  ·have hj:j≠i:=fun q=>by subst q;rw[hb] at h;cases h
   exact⟨⟨cs,by show (w.H.set i _)[j]?=_;rw[M1,if_neg (Ne.symm hj)];exact h⟩,m2 j hj⟩
  ·rcases hget j _ h with⟨hj',h⟩|⟨rfl,hq⟩
   ·exact⟨g2,rows2,h,V2 _,fun _=>⟨m2 j hj',rfl,fun id b row hp hr=>⟨row,hr,rfl⟩⟩⟩
   ·cases hq
 refine⟨⟨fun id=>w.Fr id∨ ∃p,w.mu i=some p∧p.1=id,m,w.H.set i .dead,w.h⟩,rfl,rfl,fun p hp=> .inr ⟨p,hp,rfl⟩,?_,e⟩;refine⟨r.fresh,fun j h=>r.lfresh j (by simpa using h),fun id h=>?_,fun j p h=>by simpa using r.dom j p (m3 j p h).2,fun j j' p q hj hj' he=>r.inj j j' p q (m3 j p hj).2 (m3 j' q hj').2 he,fun j p h=>?_,fun j p h hl=>r.wr j p (m3 j p h).2 hl,fun j cs h=>?_,fun j g2 k2 rows2 h=>?_⟩
 ·rcases h with h|⟨p,hp,rfl⟩
  ·exact r.frlt id h
  ·exact (r.nfr i p hp).2
 ·obtain⟨hj,hp⟩:=m3 j p h
  refine⟨fun q=>?_,(r.nfr j p hp).2⟩;rcases q with q|⟨p',hp',he⟩
  ·exact (r.nfr j p hp).1 q
  ·exact hj (r.inj j i p p' hp hp' he.symm)
 ·rcases hget j _ h with⟨hj,h⟩|⟨rfl,hq⟩
  ·obtain⟨id,row0,q1,q2,q3⟩:=r.box j cs h
   exact⟨id,row0,(m2 j hj).trans q1,q2,q3.ext e⟩
  ·cases hq
 ·rcases hget j _ h with⟨hj,h⟩|⟨rfl,hq⟩
  ·obtain⟨q0,q1|⟨id,b,row0,q1,q2,q3,q4⟩⟩:=r.grow j g2 k2 rows2 h
   ·exact⟨q0,.inl ⟨(m2 j hj).trans q1.1,q1.2⟩⟩
   ·exact⟨q0,.inr ⟨id,b,row0,(m2 j hj).trans q1,q2,q3,q4.ext e⟩⟩
  ·cases hq
end
section
open Go Go.RowKit
variable {fl L:Nat→Bool}{w:Wd}{S:ZS}{s:jal}{X:XT}{F:FuncId→Option jbq}
theorem jns (r:ZRel fl L w){z:ZV}{a:AV}(hz:ZR w z a){k n:Nat}{new:List (List ZV)}{cells:List AV}(hc:ZRs w new.flatten cells)(hk: ∀x∈new,x.length=k){H':ZH}(ha:jnu L w.H k new z=some (n,H')):
  (a= .nil∧n=0∧H'=w.H)∨ ∃id off len lb ex h' w',a= .slice id off len lb ex k∧n=min new.length len∧wr fl w.h id off (cells.take (n*k))=some h'∧w'.h=h'∧w'.H=H'∧ZRel fl L w'∧Ext w w':=by
 unfold jnu at ha;split at ha
 ·injection ha with ha;injection ha with e1 e2;exact .inl ⟨hz.val_inv,e1.symm,e2.symm⟩
 ·rename_i i g off len ex
  split at ha
  ·rename_i g' k' rows hb
   split at ha
   ·rename_i hcond
    obtain⟨rfl,rfl,hle,hL,hpos⟩:=hcond;injection ha with ha;injection ha with e1 e2;subst e1;subst e2
    obtain⟨g0,gB⟩:=r.grow _ _ _ _ hb
    cases hz with
    |fr hf=>cases hf
    |own p1 p2 p3 p4=>
     rcases (p2 _ _ _ hb).2 rfl with⟨_,_,_,h,_⟩|⟨id,b,lb,ex',row,m1,rfl,m2,m3,m4,m5,m6⟩
     ·omega
     ·rcases gB with⟨n1,n2⟩|⟨id',b',row',n1,n2,n3,n4⟩
      ·rw[m1] at n1;cases n1
      ·rw[m1] at n1;injection n1 with n1;injection n1 with t1 t2;subst t1;subst t2
       rw[m4] at n2;injection n2 with n2;subst n2
       obtain⟨m,hm⟩: ∃m,m=min new.length len:=⟨_,rfl⟩;rw[←hm];have hcl:cells.length=new.length*k':=by rw[←hc.1,jcE hk]
       have hmk:m*k'≤new.length*k':=E9 _ (by omega);have hmk2:m*k'≤lb*k':=E9 _ (by omega);have htl:(cells.take (m*k')).length=m*k':=by rw[C4];omega
       have hfit:b+off*k'+(cells.take (m*k')).length≤row.length:=by omega
       have hfl:=r.wr _ _ m1 hL;have hid:=(r.nfr _ _ m1).2;have hom:(off+m)*k'≤rows.length*k':=E9 _ (by omega);have hom2:=Y0 off m k';have hnl:(rows.take off++new.take m++rows.drop (off+m)).length=rows.length:=by simp;omega
       have hnew: ∀x∈rows.take off++new.take m++rows.drop (off+m),x.length=k':=fun x hx=>by
        simp only[O3] at hx;rcases hx with (hx|hx)|hx
        ·exact g0 x (M6 hx)
        ·exact hk x (M6 hx)
        ·exact g0 x (M7 hx)
       have hflat:(rows.take off++new.take m++rows.drop (off+m)).flatten=jad rows.flatten (off*k') (new.flatten.take (m*k')):=by
        unfold jad;have:(new.flatten.take (m*k')).length=m*k':=by rw[C4,jcE hk];omega
        rw[this,← Y0,jcx g0,jcx hk,jcy g0];simp
       obtain⟨w',e1,e2,e3,e4,e5⟩:=jf4 r (jap hb) hL (.grow g' k' (rows.take off++new.take m++rows.drop (off+m))) (id,b) (w.h.set id (some (row.take (b+off*k')++cells.take (m*k')++row.drop (b+off*k'+(cells.take (m*k')).length)))) _
        (fun j hj hne=>jc6 (hne _ m1)) (by simp) ⟨by simpa using hid,.inl ⟨_,m1,rfl⟩⟩ (jcM hid)
        (.inr ⟨g', k', rows, g', _, hb, rfl, hnew, by rw [hnl, jds hfit]; exact n3, fun w' e' => by
         rw[hnl,hflat,jf1 (by show b≤_;omega) (by show _≤b+_;rw[htl];omega) (by show b+_≤_;exact n3)];show ZRs w' _ (((row.drop b).take (rows.length*k')).take (b+off*k' - b)++cells.take (m*k')++((row.drop b).take (rows.length*k')).drop (b+off*k' - b+(cells.take (m*k')).length));rw[D8];exact jfL (n4.ext e') ((hc.take _).ext e') _,.inr ⟨rfl,m1,hnl,row,m4,jds hfit⟩⟩)
       exact .inr ⟨id,b+off*k',len,lb,ex',_,w',rfl,hm,jtb m4 hfl hfit,e1,e2,e4,e5⟩
   ·cases ha
  ·cases ha
 ·cases ha
theorem ji2 {k:Nat}: ∀{n:Nat} {cs:List ZV},cs.length=n*k→(∀r∈jac n k cs,r.length=k)∧(jac n k cs).flatten=cs∧(jac n k cs).length=n
 |0,cs,h=>by
  have:cs=[]:=Y9 (by simpa using h);subst this;exact⟨by simp[jac],rfl,rfl⟩
 |n+1,cs,h=>by
  rw[Y0] at h;obtain⟨h1,h2,h3⟩:=ji2 (k:=k) (n:=n) (cs:=cs.drop k) (by rw[C5];omega);refine⟨fun r hr=>?_,by simp[jac,h2],by simp[jac,h3]⟩;simp only[jac,A4] at hr;rcases hr with rfl|hr
  ·rw[C4];omega
  ·exact h1 r hr
theorem joq {z:ZV}{a:AV}(h:ZR w z a)(hp:jbR z=true):FR w.Fr w.h z a:=by
 cases h with
 |fr hf=>exact hf
 |func h1 h2=>
  simp only[jbR,List.isEmpty_iff] at hp;subst hp;rename_i f ys;have:ys=[]:=Y9 (by simpa using h1.symm);subst this;exact .func f
 |_=>simp[jbR] at hp
/-! ### Maps -/
theorem jlL {w:Wd}{p:Int×ZV}{zs:List ZV}{ys:List AV}(h:ZRs w (ent p::zs) ys): ∃a ys',ys= .tuple [.val (.int .i64 p.1),a]::ys'∧ZR w p.2 a∧ZRs w zs ys':=by
 cases ys with
 |nil=>have:=h.1;simp at this
 |cons y ys=>
  obtain⟨bs,rfl,h1⟩:=(h.2 0 _ _ rfl rfl).tuple_inv;match bs,h1 with
  |[b,a],h1=>
   have hb:=(h1.2 0 _ _ rfl rfl).val_inv;subst hb;exact⟨a,ys,rfl,h1.2 1 _ _ rfl rfl,by have:=h.1;simpa using this,fun i x y hx hy=>h.2 (i+1) x y (by simpa using hx) (by simpa using hy)⟩
  |[],h1=>exact absurd h1.1 (by simp)
  |[_],h1=>exact absurd h1.1 (by simp)
  |_::_::_::_,h1=>exact absurd h1.1 (by simp)
theorem ZRs.nil_inv {w:Wd}{ys:List AV}(h:ZRs w [] ys):ys=[]:=Y9 h.1.symm
theorem jh1 {w:Wd}{p:Int×ZV}{zs:List ZV}{a:AV}{ys:List AV}(h1:ZR w p.2 a)(h2:ZRs w zs ys):ZRs w (ent p::zs) (.tuple [.val (.int .i64 p.1),a]::ys):=
 .cons (ZRs.cons (.fr (.val _)) (ZRs.cons h1 .nil)).toTuple h2
theorem jjX {w:Wd}(n:Int): ∀{l:List (Int×ZV)} {ys:List AV},ZRs w (l.map ent) ys→(jif l n=none∧jhH ys n=none)∨ ∃z a,jif l n=some z∧jhH ys n=some a∧ZR w z a
 |[],ys,h=>by rw[h.nil_inv];exact .inl ⟨rfl,rfl⟩
 |p::l,ys,h=>by
  obtain⟨a,ys',rfl,h1,h2⟩:=jlL h;by_cases hn:n=p.1
  ·exact .inr ⟨p.2,a,by simp[jif,hn],by simp[jhH,hn],h1⟩
  ·simp only[jif,jhH,hn,if_false];exact jjX n h2
theorem jjP {w:Wd}(n:Int){z:ZV}{a:AV}(hz:ZR w z a): ∀{l:List (Int×ZV)} {ys:List AV},ZRs w (l.map ent) ys→ZRs w ((jlf l n z).map ent) (mput ys n a)
 |[],ys,h=>by rw[h.nil_inv];exact jh1 (p:=(n,z)) hz .nil
 |p::l,ys,h=>by
  obtain⟨b,ys',rfl,h1,h2⟩:=jlL h;by_cases hn:n=p.1
  ·simp only[jlf,mput,hn,if_true];exact jh1 (p:=(p.1,z)) hz h2
  ·simp only[jlf,mput,hn,if_false];exact jh1 h1 (jjP n hz h2)
theorem jjQ {w:Wd}(n:Int): ∀{l:List (Int×ZV)} {ys:List AV},ZRs w (l.map ent) ys→ZRs w ((jsu l n).map ent) (mdel ys n)
 |[],ys,h=>by rw[h.nil_inv];exact .nil
 |p::l,ys,h=>by
  obtain⟨b,ys',rfl,h1,h2⟩:=jlL h;by_cases hn:n=p.1
  ·simp only[jsu,mdel,hn,if_true];exact h2
  ·simp only[jsu,mdel,hn,if_false];exact jh1 h1 (jjQ n h2)
theorem jky {w:Wd}{l:List (Int×ZV)}{ys:List AV}(h:ZRs w (l.map ent) ys):kS ys=false:=by
 cases l with
 |nil=>rw[h.nil_inv];rfl
 |cons p l=>obtain⟨a,ys',rfl,_,_⟩:=jlL h;rfl
theorem KZ.inv {w:Wd}{q:KZ}{a:AV}(h:ZR w q.z a):a=q.a:=by
 cases q with
 |s b=>exact h.val_inv
 |p x y=>
  obtain⟨ys,rfl,h1⟩:=h.agg_inv;match ys,h1 with
  |[u,v],h1=>
   have h2:=(h1.2 0 _ _ rfl rfl).val_inv;have h3:=(h1.2 1 _ _ rfl rfl).val_inv;subst h2;subst h3;rfl
  |[],h1=>exact absurd h1.1 (by simp)
  |[_],h1=>exact absurd h1.1 (by simp)
  |_::_::_::_,h1=>exact absurd h1.1 (by simp)
theorem KZ.zr {w:Wd}{q:KZ}:ZR w q.z q.a:=by
 cases q with
 |s b=>exact .fr (.val _)
 |p x y=>exact (ZRs.cons (.fr (.val _)) (ZRs.cons (.fr (.val _)) .nil)).toAgg
theorem KZ.eq {q k:KZ}:jhJ q.a k.a=decide (q=k):=by
 cases q<;>cases k<;>simp[KZ.a,jhJ]
theorem KZ.okA {kd:Bool}{q:KZ}(h:q.ok kd=true):keyK kd q.a=true:=by
 cases kd<;>cases q<;>simp_all [KZ.ok,KZ.a,keyK]
theorem jqx {w:Wd}{p:KZ×ZV}{zs:List ZV}{ys:List AV}(h:ZRs w (entK p::zs) ys): ∃a ys',ys= .tuple [p.1.a,a]::ys'∧ZR w p.2 a∧ZRs w zs ys':=by
 cases ys with
 |nil=>exact absurd h.1 (by simp)
 |cons y ys=>
  obtain⟨bs,rfl,h1⟩:=(h.2 0 _ _ rfl rfl).tuple_inv;match bs,h1 with
  |[b,a],h1=>
   have hb:=KZ.inv (h1.2 0 _ _ rfl rfl);subst hb;exact⟨a,ys,rfl,h1.2 1 _ _ rfl rfl,by have:=h.1;simpa using this,fun i x y hx hy=>h.2 (i+1) x y (by simpa using hx) (by simpa using hy)⟩
  |[],h1=>exact absurd h1.1 (by simp)
  |[_],h1=>exact absurd h1.1 (by simp)
  |_::_::_::_,h1=>exact absurd h1.1 (by simp)
theorem ji0 {w:Wd}{p:KZ×ZV}{zs:List ZV}{a:AV}{ys:List AV}(h1:ZR w p.2 a)(h2:ZRs w zs ys):ZRs w (entK p::zs) (.tuple [p.1.a,a]::ys):=
 .cons (ZRs.cons KZ.zr (ZRs.cons h1 .nil)).toTuple h2
theorem jia {w:Wd}(q:KZ): ∀{l:List (KZ×ZV)} {ys:List AV},ZRs w (l.map entK) ys→(jdP l q=none∧jhI ys q.a=none)∨ ∃z a,jdP l q=some z∧jhI ys q.a=some a∧ZR w z a
 |[],ys,h=>by rw[h.nil_inv];exact .inl ⟨rfl,rfl⟩
 |p::l,ys,h=>by
  obtain⟨a,ys',rfl,h1,h2⟩:=jqx h;by_cases hn:q=p.1
  ·exact .inr ⟨p.2,a,by simp[jdP,hn],by simp[jhI,KZ.eq,hn],h1⟩
  ·simp only[jdP,jhI,KZ.eq,hn,if_false,decide_false,N6];exact jia q h2
theorem jjR {w:Wd}(q:KZ){z:ZV}{a:AV}(hz:ZR w z a): ∀{l:List (KZ×ZV)} {ys:List AV},ZRs w (l.map entK) ys→ZRs w ((jgU l q z).map entK) (kput ys q.a a)
 |[],ys,h=>by rw[h.nil_inv];exact ji0 (p:=(q,z)) hz .nil
 |p::l,ys,h=>by
  obtain⟨b,ys',rfl,h1,h2⟩:=jqx h;by_cases hn:q=p.1
  ·simp only[jgU,kput,KZ.eq,hn,if_true,decide_true];exact ji0 (p:=(p.1,z)) hz h2
  ·simp only[jgU,kput,KZ.eq,hn,if_false,decide_false,N6];exact ji0 h1 (jjR q hz h2)
theorem jqO {w:Wd}{kd:Bool}{l:List (KZ×ZV)}{row:List AV}(h:ZRs w (.val (.bool kd)::l.map entK) row): ∃ys,row= .val (.bool kd)::ys∧ZRs w (l.map entK) ys:=by
 cases row with
 |nil=>exact absurd h.1 (by simp)
 |cons y ys=>
  have:=(h.2 0 _ _ rfl rfl).val_inv;subst this;exact⟨ys,rfl,by have:=h.1;simpa using this,fun i x y hx hy=>h.2 (i+1) x y (by simpa using hx) (by simpa using hy)⟩
theorem jga (r:ZRel fl L w){i:Nat}{cs:List ZV}{a:AV}(hz:ZR w (.mp i) a)(hb:w.H[i]?=some (.box cs)): ∃id row,a= .mp id∧w.mu i=some (id,0)∧blk w.h id=some row∧ZRs w cs row:=by
 obtain⟨id,cs',rfl,h1,h2⟩:=hz.mp_inv;obtain⟨id',row,h3,h4,h5⟩:=r.box i cs hb;rw[h2] at h3;injection h3 with h3;injection h3 with h3;subst h3
 exact⟨id,row,rfl,h2,h4,h5⟩
theorem map_set (r:ZRel fl L w){i id:Nat}{cs:List ZV}(hb:w.H[i]?=some (.box cs))(hL:L i=true)(hm:w.mu i=some (id,0))(cs':List ZV)(row':List AV)(hc:ZRs w cs' row'):
  fl id=true∧ ∃w',w'.h=w.h.set id (some row')∧w'.H=w.H.set i (.box cs')∧ZRel fl L w'∧Ext w w':=by
 have hid:id<w.h.length:=(r.nfr i _ hm).2;obtain⟨w',e1,e2,e3,e4,e5⟩:=jf4 r (jap hb) hL (.box cs') (id,0) (w.h.set id (some row')) row'
  (fun j hj hne=>jc6 (hne _ hm)) (by simp) ⟨by simpa using hid,.inl ⟨_,hm,rfl⟩⟩ (jcM hid)
  (.inl ⟨cs,_,hb,rfl,hm,fun w' e=>hc.ext e⟩)
 exact⟨r.wr i _ hm hL,w',e1,e2,e4,e5⟩
theorem z1_sound (r:ZRel fl L w)(hS: ∀t,ZR w (S t) (s t)){op:AOp}{top ztop:Option (Nat×Option (List Nat))}(ht: ∀z id off,ZR w z (.ptr id off)→topZ ztop z=true→jbw top id=true){gl:Bool}{K:ZV→ZH→Prop}(hk:z1 L ztop gl S w.H K op):
  A1 X F top fl op s w.h (PK fl L w K):=by
 cases op with
 |mv x=>
  obtain⟨z,h1,k⟩:=hk;exact jeK.2 (PK.same r (jan hS h1) k)
 |pick c a b=>
  obtain⟨t,x,y,h1,h2,h3,k⟩:=hk;refine jcg.2 ⟨t,(jan hS h1).val_inv,PK.same r ?_ k⟩
  cases t
  ·exact jan hS h3
  ·exact jan hS h2
 |box n x=>
  obtain⟨z,h1,h2,h3,k⟩:=hk;have hz:=(jan hS h1);have hc:=hz.cells;obtain⟨w',e1,e2,e3,e4,e5,e6⟩:=jeG r (.box z.cells) (x.ev s).cells (.inl ⟨_,rfl,hc⟩);exact jdb.2 ⟨⟨by rw[←hc.1];exact h2,by rw[←hc.allCell];exact h3⟩,_,w',e1,e5,e6,.ptr (cs:=z.cells) (by rw[e2];simp) e3,by rw[e2];exact k⟩
 |zero cs=>
  obtain⟨zs,h1,k⟩:=hk;have hz:=jeL (w:=w) h1;by_cases hg:gl=true
  ·rw[if_pos hg] at k
   obtain⟨w',e1,e2,e3,e4,e5,e6⟩:=jeG r (.grow 0 zs.length [zs]) cs (.inr ⟨zs.length,[zs],rfl,by simp,by simp[hz.1],by simpa using hz⟩);refine jb9.2 ⟨_,w',e1,e5,e6,.eptr (i:=w.H.length) (g:=0) (e:=0) (o:=0) (by rw[e2];simp) (fun g' k' rows hb=>?_) (fun id hid=>?_),by rw[e2];exact k⟩
   ·rw[e2] at hb
    simp at hb;obtain⟨rfl,rfl,rfl⟩:=hb;exact⟨V2 _,fun _=>⟨0,e3,by simp,by simp⟩⟩
   ·simp[jdq] at hid
    subst hid;refine⟨by rw[e1];simp,fun i' p hp he=>e5.inj i' w.H.length p _ hp e3 he⟩
  ·rw[if_neg hg] at k
   obtain⟨w',e1,e2,e3,e4,e5,e6⟩:=jeG r (.box zs) cs (.inl ⟨zs,rfl,hz⟩);exact jb9.2 ⟨_,w',e1,e5,e6,.ptr (cs:=zs) (by rw[e2];simp) e3,by rw[e2];exact k⟩
 |build z ps=>
  obtain⟨zs,qs,cs,h1,h2,h3,k⟩:=hk;obtain⟨i1,i2⟩:=jf2 hS h2;obtain⟨bs,h4,h5⟩:=jhc (jeL h1) i1 i2 h3;exact jbt.2 ⟨bs,h4,PK.same r h5.toAgg k⟩
 |lits k len z ps=>
  obtain⟨zs,qs,cs,h1,h2,h3,h4,h5,kk⟩:=hk;obtain⟨i1,i2⟩:=jf2 hS h2;obtain⟨bs,h6,h7⟩:=jhc (jeL h1) i1 i2 h3;obtain⟨c1,c2,c3⟩:=ji2 h4;refine jch.2 ⟨bs,h6,by rw[←h7.allCell];exact h5,?_⟩
  cases gl with
  |true=>
   simp only[if_true] at kk;obtain⟨w',e1,e2,e3,e4,e5⟩:=jfr r (rows:=jac len k cs) (by rw[c2];exact h7) c1 c3 true true (fun h=>h);exact⟨_,w',e1,e3,e4,e5,by rw[e2];exact kk⟩
  |false=>
   simp only[N6,if_false] at kk;obtain⟨hp,kk⟩:=kk;obtain⟨w',e1,e2,e3,e4,e5,e6⟩:=jqQ r bs;refine⟨_,w',e1,e5,e6,.fr ?_,by rw[e2];exact kk⟩;have hlen:(jac len k cs).length*k=bs.length:=by rw[c3,← h4,h7.1]
   have:=FR.ofRows (Fr:=w'.Fr) (h:=w'.h) (ex:=true) (rows:=jac len k cs) (id:=w.h.length) (off:=0) (lb:=(jac len k cs).length) (ex':=true) (row:=bs) (k:=k) e4 (by rw[e1];exact jbk) (by omega) (V2 _) (fun _=>⟨rfl,rfl⟩) c1 (fun i z hz=>?_)
   ·rw[c3] at this;exact this
   ·rw[c2] at hz
    obtain⟨c,t1,t2⟩:=h7.get hz;exact⟨c,by rw[C8];exact t1,joq (t2.ext e6) (N2.1 hp z (R5 hz))⟩
 |load n x=>
  obtain⟨z,v,h1,h2,h3,k⟩:=hk;have hz:=jan hS h1;obtain⟨id,off,u,e1,e2,e3⟩:=jg6 r hz h3;rw[e1] at hz;exact jbp.2 ⟨id,off,u,e1,ht z id off hz h2,e2,PK.same r e3 k⟩
 |store n a v=>
  obtain⟨p,z,H',h1,h2,h3,h4,h5,k⟩:=hk;have hz:=(jan hS h2).cells;obtain⟨id,off,h',w',e1,e2,e3,e4,e5,e6⟩:=st_spec r (jan hS h1) hz h5;exact jbC.2 ⟨id,off,h',e1,⟨by rw[←hz.1];exact h3,by rw[←hz.allCell];exact h4⟩,e2,_,w',e3,e5,e6,ZRs.nil.toTuple,by rw[e4];exact k⟩
 |nilCheck x=>
  obtain⟨z,h1,h2,k⟩:=hk;exact jaC.2 ⟨jrh (jan hS h1) h2,PK.same r (jan hS h1) k⟩
 |bin op x y=>
  obtain⟨a,b,v,h1,h2,h3,k⟩:=hk;exact jcY.2 ⟨a,b,v,(jan hS h1).val_inv,(jan hS h2).val_inv,h3,PK.same r (.fr (.val _)) k⟩
 |eqNil neg kd x=>
  obtain⟨z,h1,h2⟩:=hk;rcases h2 with⟨b,h2,k⟩|⟨⟨k0,ex0,rfl,rfl⟩,k⟩
  ·exact jbs.2 ⟨b,nil_spec r (jan hS h1) h2,PK.same r (.fr (.val _)) k⟩
  ·obtain⟨b,hb⟩:=jue (jan hS h1)
   exact jbs.2 ⟨b,hb,PK.same r (.fr (.val _)) (k _)⟩
 |eqBool neg x y=>
  obtain⟨a,b,h1,h2,k⟩:=hk;exact jbb.2 ⟨a,b,(jan hS h1).val_inv,(jan hS h2).val_inv,PK.same r (.fr (.val _)) k⟩
 |eqAgg neg ks x y=>
  obtain⟨a,b,t,h1,h2,h3,k⟩:=hk;obtain⟨a',e1,e2⟩:=(jan hS h1).agg_inv;obtain⟨b',e3,e4⟩:=(jan hS h2).agg_inv;exact jbG.2 ⟨a',b',t,e1,e3,jra e2 e4 h3,PK.same r (.fr (.val _)) k⟩
 |un op x=>
  obtain⟨a,v,h1,h2,k⟩:=hk;exact jeJ.2 ⟨a,v,(jan hS h1).val_inv,h2,PK.same r (.fr (.val _)) k⟩
 |conv kd x=>
  obtain⟨k',n,h1,k⟩:=hk;exact jcj.2 ⟨k',n,(jan hS h1).val_inv,PK.same r (.fr (.val _)) k⟩
 |field off n x=>
  obtain⟨cs,v,h1,h2,k⟩:=hk;obtain⟨a,e1,e2⟩:=(jan hS h1).agg_inv;obtain⟨u,e3,e4⟩:=jeB e2 h2;exact jbF.2 ⟨a,u,e1,e3,PK.same r e4 k⟩
 |fieldAddr off x=>
  obtain⟨z,v,h1,h2,k⟩:=hk;obtain⟨id,o,e1,e2⟩:=jqR (jan hS h1) h2;exact jaD.2 ⟨id,o,e1,PK.same r e2 k⟩
 |indexAddr kk x i=>
  obtain⟨z,y,j,v,h1,h2,h3,h4,k⟩:=hk;obtain⟨id,off,len,lb,ex,e1,e2,e3⟩:=jnq r (jan hS h1) h4;exact jaB.2 ⟨id,off,len,lb,ex,kk,j,e1,jd3 (jan hS h2) h3,e2,PK.same r e3 k⟩
 |indexArr kk len x i=>
  obtain⟨z,y,j,v,h1,h2,h3,h4,h5,k⟩:=hk;obtain⟨id,o,e1,e2⟩:=jqR (jan hS h1) h5;exact jaL.2 ⟨id,o,j,e1,jd3 (jan hS h2) h3,h4,PK.same r e2 k⟩
 |index kk len n x i=>
  obtain⟨cs,y,j,v,h1,h2,h3,h4,h5,k⟩:=hk;obtain⟨a,e1,e2⟩:=(jan hS h1).agg_inv;obtain⟨u,e3,e4⟩:=jeB e2 h5;exact jbE.2 ⟨a,j,u,e1,jd3 (jan hS h2) h3,h4,e3,PK.same r e4 k⟩
 |indexStr x i=>
  obtain⟨t,y,j,b,h1,h2,h3,h4,k⟩:=hk;exact⟨_,_,by simp only[jah];rw[(jan hS h1).val_inv,jd3 (jan hS h2) h3];simp only[h4],PK.same r (.fr (.val _)) k⟩
 |slice kk x lo hi mx=>
  obtain⟨z,n,l,u,m,v,h1,h2,h3,h4,h5,h6,k⟩:=hk;obtain⟨b,e1,e2⟩:=cut_spec r hS (jan hS h1) h2 h3 h4 h5 h6;exact jbD.2 ⟨b,e1,PK.same r e2 k⟩
 |mkSlice kk bytes z l c=>
  obtain⟨x,y,a,b,zs,h1,h2,h3,h4,h5,h6,h7,h8,k⟩:=hk;have hz:=jeL (w:=w) h5;have hf: ∀n,ZRs w (O6 n zs).flatten (O6 n z).flatten:=fun n=>by
   induction n with
   |zero=>exact .nil
   |succ n ih=>rw[A5,A5,D6,D6];exact hz.append ih
  obtain⟨w',e1,e2,e3,e4,e5⟩:=jfr r (rows:=O6 a zs) (hf a) (k:=kk) (fun x hx=>by rw[List.eq_of_mem_replicate hx];exact h6) (n:=a) (by simp) (a==b) (a==b) (fun h=>h);exact jaS.2 ⟨a,b,jd3 (jan hS h1) h3,jd3 (jan hS h2) h4,⟨h7,h8⟩,_,w',e1,e3,e4,e5,by rw[e2];exact k⟩
 |extract i x=>
  obtain⟨vs,v,h1,h2,k⟩:=hk;obtain⟨a,e1,e2⟩:=(jan hS h1).tuple_inv;obtain⟨u,e3,e4⟩:=e2.get h2;exact jaT.2 ⟨a,u,e1,e3,PK.same r e4 k⟩
 |func f caps=>
  obtain⟨zs,h1,k⟩:=hk;exact jci.2 (PK.same r (jet hS h1).toFunc k)
 |iface t x=>
  obtain⟨h1,k⟩:=hk;obtain⟨ys,e1,e2⟩:=(jan hS h1).agg_inv;have:ys=[]:=Y9 (by simpa using e2.1.symm);subst this;refine⟨.val (.iface t (.agg #[])),_,?_,PK.same r (.fr (.val _)) k⟩;simp only[jah,e1]
 |panic x=>exact hk.elim
 |toStr x=>
  obtain⟨z,rows,ns,h1,h2,h3,k⟩:=hk;obtain⟨cells,e1,e2,_⟩:=jgq r (jan hS h1) h2;have key: ∀{zs:List ZV} {cs:List AV} {ns:List Int},jub zs=some ns→ZRs w zs cs→jgw cs=some ns:=by
   intro zs;induction zs with
   |nil=>
    intro cs ns h hz;simp only[jub,U4] at h;subst h;have:cs=[]:=Y9 hz.1.symm;subst this;rfl
   |cons z zs ih=>
    intro cs ns h hz;unfold jub at h;split at h
    ·rename_i heq;cases heq
    ·rename_i n r heq
     injection heq with e1 e2;subst e1;subst e2
     obtain⟨ns',h1,rfl⟩:=Option.map_eq_some_iff.1 h;match cs,hz with
     |[],hz=>have:=hz.1;simp at this
     |c::cs,hz=>
      have h2:=(hz.2 0 _ c rfl rfl).val_inv;have h3:=ih (cs:=cs) h1 ⟨by simpa using hz.1,fun i x y hx hy=>hz.2 (i+1) x y (by simpa using hx) (by simpa using hy)⟩;rw[h2];simp only[jgw,h3,U9]
    ·cases h
  exact⟨.val (.string (jgY ns)),_,by simp only[jah,e1,key h3 e2],PK.same r (.fr (.val _)) k⟩
 |call f args=>exact hk.elim
 |bfunc f first caps=>
  obtain⟨zs,us,h1,h2,k⟩:=hk;have q1:=jet hS h1;have q2:=jet hS h2;exact⟨_,_,rfl,PK.same r (.bfunc q1.1 q2.1 q1.2 q2.2) k⟩
 |sliceArr kk n x lo hi mx=>
  obtain⟨i,g,k0,row,l,u,m,h1,h2,h3,h4,h5,h6,h7,h8,h9,h10,h11,k⟩:=hk;have hz:=jan hS h1;have hx: ∃id b,x.ev s= .ptr id b∧w.mu i=some (id,b):=by
   generalize x.ev s=a at hz
   cases hz with
   |fr hf=>cases hf
   |eptr q1 q2 q3=>
    obtain⟨b,m1,m2,_⟩:=(q2 _ _ _ h2).2 rfl;exact⟨_,_,rfl,by rw[m1,m2];simp⟩
  obtain⟨id,b,hx,hm⟩:=hx;obtain⟨g0,gB⟩:=r.grow _ _ _ _ h2;have hk0:row.length=k0:=g0 row (by simp);rcases gB with⟨n1,n2⟩|⟨id',b',cells,n1,n2,n3,n4⟩
  ·cases n2
  ·rw[hm] at n1;injection n1 with n1;injection n1 with t1 t2;subst t1;subst t2
   obtain⟨w',e1,e2,e3,e4,e5⟩:=jkr r h2;have hfl:=r.wr i _ hm h5;simp only[Q3,G9,C8,D7,D6,List.flatten_nil,A0] at n3 n4;obtain⟨c1,c2,c3⟩:=ji2 (k:=kk) (n:=n) (cs:=row) h4;have hlen:(((jac n kk row).drop l).take (u - l)).length=u - l:=by rw[C4,C5,c3];omega
   have hsl:=jeb (k:=kk) (id:=id) (off:=b) (len:=n) (lb:=n) (l:=l) (u:=u) (m:=m) (ex:=true) (lo:=lo.map (·.ev s)) (hi:=hi.map (·.ev s)) (mx:=mx.map (·.ev s)) (jfO hS h6) (jfO hS h7) (jfO hS h8) ⟨h9,h10,h11⟩;refine⟨.slice id (b+l*kk) (u - l) (m - l) true kk,w.h,?_,.fz kk false (((jac n kk row).drop l).take (u - l)),w',e1,e4,e5,.fr ?_,by rw[e2];exact k⟩
   ·simp only[jah,hx,n2]
    rw[if_pos ⟨hfl,by omega⟩];rw[hsl];simp
   ·have hul:(u - l)*kk≤(n - l)*kk:=E9 _ (by omega)
    have hln:l*kk+(n - l)*kk=n*kk:=by rw[←Y0];congr 1;omega
    have:=FR.ofRows (Fr:=w'.Fr) (h:=w'.h) (k:=kk) (ex:=false) (rows:=((jac n kk row).drop l).take (u - l)) (id:=id) (off:=b+l*kk) (lb:=m - l) (ex':=true) (row:=cells) (e3 _ hm) (by rw[e1];exact n2) (by rw[hlen];omega) (by rw[hlen];omega) (fun h=>by cases h) (fun x hx=>c1 x (M7 (M6 hx))) (fun i z hz=>?_)
    ·rw[hlen] at this
     simpa using this
    ·rw[←jcx (fun x hx=>c1 x (M7 hx)),← jcy c1,c2,O8] at hz
     split at hz
     ·rw[O9] at hz
      obtain⟨c,t1,t2⟩:=n4.get hz;rw[O8] at t1;split at t1
      ·rw[O9] at t1
       exact⟨c,by rw[←t1];congr 1;omega,joq (t2.ext e5) (N2.1 h3 z (R5 hz))⟩
      ·cases t1
     ·cases hz
 |append kk bytes x y=>
  obtain⟨z,u,new,v,H',h1,h2,h3,h4,k⟩:=hk;obtain⟨cells,e1,e2,e3⟩:=jgq r (jan hS h2) h3;obtain⟨a',h',w',t1,t2,t3,t4,t5,t6⟩:=app_spec r (jan hS h1) e2 e3 h4;exact jbc.2 ⟨_,_,a',h',e1,t1,_,w',t2,t4,t5,t6,by rw[t3];exact k⟩
 |len x=>
  obtain⟨z,n,h1,h2,k⟩:=hk;exact jda.2 ⟨n,jqo r (jan hS h1) h2,PK.same r (.fr (.val _)) k⟩
 |lenStr x=>
  obtain⟨t,h1,k⟩:=hk;exact⟨_,_,by simp only[jah];rw[(jan hS h1).val_inv],PK.same r (.fr (.val _)) k⟩
 |copy kk x y=>
  obtain⟨z,u,new,n,H',h1,h2,h3,h4,k⟩:=hk;obtain⟨cells,e1,e2,e3⟩:=jgq r (jan hS h2) h3;rcases jns r (jan hS h1) e2 e3 h4 with⟨t1,rfl,rfl⟩|⟨id,off,len,lb,ex,h',w',t1,rfl,t2,t3,t4,t5,t6⟩
  ·exact⟨_,_,by simp only[jah];rw[t1,e1];rfl,PK.same r (.fr (.val _)) k⟩
  ·exact (A1_copy t1).2 ⟨_,_,h',e1,t2,_,w',t3,t5,t6,.fr (.val _),by rw[t4];exact k⟩
 |clear kk z x=>
  obtain⟨zs,u,m,n,H',h1,h2,h3,h4,h5,h6,k⟩:=hk;have hz:=jeL (w:=w) h1;have hc: ∀m,ZRs w (O6 m zs).flatten (O6 m z).flatten:=fun m=>by
   induction m with
   |zero=>exact ZRs.nil
   |succ m ih=>rw[A5,A5,D6,D6];exact hz.append ih
  have hlen:=jqo r (jan hS h3) h4;rcases jns r (jan hS h3) (hc m) (fun x hx=>by rw[(A6.1 hx).2];exact h2) h5 with⟨t1,t2,rfl⟩|⟨id,off,len,lb,ex,h',w',t1,t0,t2,t3,t4,t5,t6⟩
  ·exact⟨_,_,by simp only[jah];rw[t1];rfl,PK.same r ZRs.nil.toTuple k⟩
  ·rw[t1] at hlen
   have hml:m=len:=by simpa[lenA] using hlen.symm
   subst hml;subst h6;rw[I5 (by rw[←(hc _).1,jcE (k:=kk) (fun x hx=>by rw[(A6.1 hx).2];exact h2),List.length_replicate];exact V2 _)] at t2;exact⟨_,h',by simp only[jah];rw[t1];simp only;rw[t2],_,w',t3,t5,t6,ZRs.nil.toTuple,by rw[t4];exact k⟩
 |minmax mx x xs=>
  obtain⟨z,zs,v,h1,h2,h3,k⟩:=hk;obtain⟨b,e1,e2⟩:=jk9 (jan hS h1) (jet hS h2) h3;exact jba.2 ⟨b,e1,PK.same r e2 k⟩
 |mkMap=>
  obtain⟨w',e1,e2,e3,e4,e5,e6⟩:=jeG r (.box []) [] (.inl ⟨_,rfl,.nil⟩);exact⟨_,_,by simp only[jah],_,w',e1,e5,e6,.mp (cs:=[]) (by rw[e2];simp) e3,by rw[e2];exact hk⟩
 |mapGet ok zz x y=>
  obtain⟨i,n,l,z0,h1,h2,h3,h4,k⟩:=hk;obtain⟨id,row,e1,e2,e3,e4⟩:=jga r (jan hS h1) h3;have e5:=(jan hS h2).val_inv;have e6:=jan hS h4;rcases jjX n e4 with⟨q1,q2⟩|⟨z,a,q1,q2,q3⟩
  ·rw[q1] at k
   refine⟨_,_,by simp only[jah];rw[e1,e5];simp only;rw[e3];simp only;rw[if_pos (jky e4),q2],PK.same r ?_ k⟩
   cases ok
   ·exact e6
   ·exact (ZRs.cons e6 (ZRs.cons (.fr (.val _)) .nil)).toTuple
  ·rw[q1] at k
   refine⟨_,_,by simp only[jah];rw[e1,e5];simp only;rw[e3];simp only;rw[if_pos (jky e4),q2],PK.same r ?_ k⟩
   cases ok
   ·exact q3
   ·exact (ZRs.cons q3 (ZRs.cons (.fr (.val _)) .nil)).toTuple
 |mapSet x y v=>
  obtain⟨i,n,l,z,h1,h2,h3,h4,h5,k⟩:=hk;obtain⟨id,row,e1,e2,e3,e4⟩:=jga r (jan hS h1) h3;have e5:=(jan hS h2).val_inv;obtain⟨f1,w',f2,f3,f4,f5⟩:=map_set r h3 h5 e2 _ _ (jjP n (jan hS h4) e4);exact⟨_,_,by simp only[jah];rw[e1,e5];simp only;rw[e3];simp only;rw[if_pos ⟨f1,jky e4⟩],_,w',f2,f4,f5,ZRs.nil.toTuple,by rw[f3];exact k⟩
 |mapDel x y=>
  obtain⟨i,n,l,h1,h2,h3,h5,k⟩:=hk;obtain⟨id,row,e1,e2,e3,e4⟩:=jga r (jan hS h1) h3;have e5:=(jan hS h2).val_inv;obtain⟨f1,w',f2,f3,f4,f5⟩:=map_set r h3 h5 e2 _ _ (jjQ n e4);exact⟨_,_,by simp only[jah];rw[e1,e5];simp only;rw[e3];simp only;rw[if_pos ⟨f1,jky e4⟩],_,w',f2,f4,f5,ZRs.nil.toTuple,by rw[f3];exact k⟩
 |mapClear x=>
  obtain⟨i,cs,h1,h3,h5,k⟩:=hk;obtain⟨id,row,e1,e2,e3,e4⟩:=jga r (jan hS h1) h3;obtain⟨f1,w',f2,f3,f4,f5⟩:=map_set r h3 h5 e2 [] [] .nil;exact⟨_,_,by simp only[jah];rw[e1];simp only;rw[e3];simp only;rw[if_pos ⟨f1,jky e4⟩],_,w',f2,f4,f5,ZRs.nil.toTuple,by rw[f3];exact k⟩
 |mapLen x=>
  obtain⟨i,cs,h1,h3,k⟩:=hk;obtain⟨id,row,e1,e2,e3,e4⟩:=jga r (jan hS h1) h3;exact⟨_,_,by simp only[jah];rw[e1];simp only;rw[e3];simp only;rw[if_pos (jky e4)],PK.same r (.fr (.val _)) (by rw[←e4.1];exact k)⟩
 |mkMapK kd=>
  obtain⟨w',e1,e2,e3,e4,e5,e6⟩:=jeG r (.box [.val (.bool kd)]) [.val (.bool kd)] (.inl ⟨_,rfl,.cons (.fr (.val _)) .nil⟩);exact⟨_,_,by simp only[jah],_,w',e1,e5,e6,.mp (cs:=[.val (.bool kd)]) (by rw[e2];simp) e3,by rw[e2];exact hk⟩
 |mapGetK kd ok zz x y=>
  obtain⟨i,q,l,z0,h1,h2,h0,h3,h4,k⟩:=hk;obtain⟨id,row,e1,e2,e3,e4⟩:=jga r (jan hS h1) h3;have e5:=KZ.inv (jan hS h2);have e6:=jan hS h4;obtain⟨ys,rfl,e7⟩:=jqO e4;have e8:=KZ.okA h0;rcases jia q e7 with⟨q1,q2⟩|⟨z,a,q1,q2,q3⟩
  ·rw[q1] at k
   refine⟨_,_,by simp only[jah];rw[e1,e5];simp only;rw[e3];simp only;rw[if_pos ⟨trivial,e8⟩,q2],PK.same r ?_ k⟩
   cases ok
   ·exact e6
   ·exact (ZRs.cons e6 (ZRs.cons (.fr (.val _)) .nil)).toTuple
  ·rw[q1] at k
   refine⟨_,_,by simp only[jah];rw[e1,e5];simp only;rw[e3];simp only;rw[if_pos ⟨trivial,e8⟩,q2],PK.same r ?_ k⟩
   cases ok
   ·exact q3
   ·exact (ZRs.cons q3 (ZRs.cons (.fr (.val _)) .nil)).toTuple
 |mapSetK kd x y v=>
  obtain⟨i,q,l,z,h1,h2,h0,h3,h4,h5,k⟩:=hk;obtain⟨id,row,e1,e2,e3,e4⟩:=jga r (jan hS h1) h3;have e5:=KZ.inv (jan hS h2);obtain⟨ys,rfl,e7⟩:=jqO e4;have e8:=KZ.okA h0;obtain⟨f1,w',f2,f3,f4,f5⟩:=map_set r h3 h5 e2 _ _ (ZRs.cons (.fr (.val (.bool kd))) (jjR q (jan hS h4) e7));exact⟨_,_,by simp only[jah];rw[e1,e5];simp only;rw[e3];simp only;rw[if_pos ⟨trivial,e8,f1⟩],_,w',f2,f4,f5,ZRs.nil.toTuple,by rw[f3];exact k⟩
 |bad=>exact hk.elim
end
section
open Go Go.RowKit
def ZC (X:XT)(F:FuncId→Option jbq)(f:FuncId)(zs:List ZV)(L:Nat→Bool)(H:ZH)(K:ZV→ZH→Prop):Prop:=
  ∀(fl:Nat→Bool) (w:Wd) (args:List AV),ZRel fl L w→w.H=H→ZRs w zs args→AC X F f args fl w.h (PK fl L w K)
structure Gh where
  own:List (Nat×List (Nat×Nat))
  lit:List Nat
  frz:List Nat
abbrev Gh.no:Gh:=⟨[],[],[]⟩
def jbA:List (Nat×Nat)→List ZV→ZH→Option (List ZV×ZH)
  |[],cs,H=>some (cs,H)
  |(j,k)::r,cs,H=>match cs[j]? with
    |some (.val (.slice none 0 0))=>if 1000≤k then jbA r (cs.set j (.fz (k - 1000) false [])) H else jbA r (cs.set j (.own H.length 0 0 0 false)) (H++[.grow 0 k []])
    |_=>none
def zown (l:List (Nat×Nat))(K:ZV→ZH→Prop)(z:ZV)(H:ZH):Prop:=match z with
  | .val (.slice none 0 0)=> ∃z' H',jbA l [.nil] H=some ([z'],H')∧K z' H'
  | .agg cs=> ∃cs' H',jbA l cs H=some (cs',H')∧K (.agg cs') H'
  | .ptr i o=>match H[i]? with
    |some (.box cs)=> ∃cs' H',jbA l cs H=some (cs',H')∧K (.ptr i o) (H'.set i (.box cs'))
    |_=>False
  |z=>K z H
def zfrz (K:ZV→ZH→Prop)(z:ZV)(H:ZH):Prop:=match z with
  | .own i g off len ex=>match H[i]? with
    |some (.grow g' k rows)=>g'=g∧off+len≤rows.length∧rows.flatten.all jbR=true∧K (.fz k ex ((rows.drop off).take len)) (H.set i .dead)
    |_=>False
  |_=>jbR z=true∧K z H
def zgo (G:Gh)(dst:Option Nat)(K:ZV→ZH→Prop)(z:ZV)(H:ZH):Prop:=match dst with
  |none=>K z H
  |some d=>match G.own.lookup d with
    |some l=>zown l K z H
    |none=>if G.frz.contains d=true then zfrz K z H else K z H
def owO (O:Nat→List Nat):Opd→Option (List Nat)
  | .tmp t=>some (O t)
  | .av (.ptr ..)| .av (.slice ..)=>none
  |_=>some []
def owOp (O:Nat→List Nat):AOp→Option (List Nat)
  | .mv x| .fieldAddr _ x| .indexAddr _ x _| .indexArr _ _ x _| .slice _ x _ _ _| .nilCheck x=>owO O x
  |_=>some []
def putO {α:Type}(O:Nat→α)(d:Option Nat)(v:α):Nat→α:=match d with
  |some d=>fun t=>if t=d then v else O t
  |none=>O
def oldO (O:Nat→List Nat):Option Nat→List Nat
  |some d=>O d
  |none=>[]
def je5:List jav→(Nat→List Nat)→Option (List Nat)
  |[],_=>some []
  |o::r,O=>if jiQ o.op=true then match owOp O o.op with
      |some x=>je5 r (putO O o.dst (x++oldO O o.dst))
      |none=>none
    else match o.op,o.iso with
      | .load _ x,false=>match owO O x,je5 r O with
        |some a,some b=>some (a++b)
        |_,_=>none
      |_,_=>je5 r O
def exO (E:Nat→Option ZV):Opd→Option ZV
  | .tmp t=>E t
  |_=>none
def jsN (E:Nat→Option ZV):AOp→Option ZV
  | .mv x=>exO E x
  | .fieldAddr n x=>match exO E x with
    |some (.ptr i o)=>some (.ptr i (o+n))
    |_=>none
  | .nilCheck x=>match exO E x with
    |some (.ptr i o)=>some (.ptr i (o+0))
    |_=>none
  |_=>none
def jes:List jav→(Nat→Option ZV)→List Nat
  |[],_=>[]
  |o::r,E=>if jiQ o.op=true then jes r (putO E o.dst (jsN E o.op))
    else match o.op,o.iso with
      | .load _ x,false=>match exO E x with
        |some (.ptr i _)=>i::jes r E
        |_=>jes r E
      |_,_=>jes r E
def jd8 (rs:List Nat)(o:jav)(l:List jav)(S:ZS):Option (List Nat):=
  if heavy o.op=true then match je5 l (fun t=>jaa (S t)) with
    |some fb=>some (rs++fb)
    |none=>none
  else some []
def zpr (rs:List Nat)(pr:Option (List Nat))(o:jav)(l:List jav)(S:ZS):Option (List Nat):=
  if heavy o.op=true then some (match pr with
    |none=>rs++jes l (fun t=>some (S t))
    |some p=>p.filter (rs++jes l (fun t=>some (S t))).contains) else pr
def zrs (rs:List Nat)(o:jav)(S:ZS):List Nat:=match o.op with
  | .load _ x=>match zev S x with
    |some (.ptr i _)=>i::rs
    |_=>rs
  |_=>rs
def zlit (G:Gh):Option Nat→Bool
  |some d=>G.lit.contains d
  |none=>false
def jgV (o:jav)(S:ZS):Option Bool:=match o.guard with
  |none=>some true
  |some (t,want)=>match S t with
    | .val (.bool b)=>some (b==want)
    | .val _=>some false
    | .tuple []=>some false
    |_=>none
def jii:ZV→List ZV→Option (FuncId×List ZV)
  | .func f caps,zs=>some (f,zs++caps)
  | .bfunc f first caps,zs=>some (f,first++zs++caps)
  |_,_=>none
section
variable (X:XT)(F:FuncId→Option jbq)
def z1c (L:Nat→Bool)(top:Option (Nat×Option (List Nat)))(gl:Bool)(S:ZS)(H:ZH)(K:ZV→ZH→Prop)(op:AOp):Prop:=match op with
  | .call f args=> ∃z zs g vs,zev S f=some z∧zevs S args=some zs∧jii z zs=some (g,vs)∧ZC X F g vs L H K
  | .panic x=>X.nd=true∧ ∃t,zev S x=some (.val (.iface t (.agg #[])))∧X.pn.g (.iface t (.agg #[]))
  |op=>z1 L top gl S H K op
def zO (G:Gh)(L:Nat→Bool)(base:Nat):List Nat→Option (List Nat)→List jav→ZS→ZH→(ZS→ZH→Prop)→Prop
  |_,_,[],S,H,K=>K S H
  |rs,pr,o::l,S,H,K=>je9 (jgV o S)
      (if o.iso=true then z1c X F L none (zlit G o.dst) S H (zgo G o.dst fun z H'=>zO G L base rs pr l (zput S o.dst z) H' K) o.op
        else ∃fb,jd8 rs o l S=some fb∧z1c X F (fun i=>L i&& !fb.contains i) (some (base,pr)) (zlit G o.dst) S H (zgo G o.dst fun z H'=>zO G L base (zrs rs o S) (zpr rs pr o l S) l (zput S o.dst z) H' K) o.op)
      (zO G L base rs pr l (zput S o.dst .no) H K)
end
variable {fl L:Nat→Bool}{w:Wd}{S:ZS}{s:jal}{X:XT}{F:FuncId→Option jbq}
theorem idsOf_eq (a:AV):idOf a=jdq a:=by cases a<;>rfl
theorem PK.mono {fl L:Nat→Bool}{w:Wd}{K K':ZV→ZH→Prop}{a:AV}{h':Heap}(p:PK fl L w K a h')(hk: ∀z H,K z H→K' z H):PK fl L w K' a h':=by
 obtain⟨z,w',h1,h2,h3,h4,h5⟩:=p;exact⟨z,w',h1,h2,h3,h4,hk _ _ h5⟩
/-! ### What the proof adds -/
theorem jdn: ∀{l:List (Nat×Nat)} {cs cs':List ZV} {ys:List AV} {w:Wd} {H':ZH},ZRel fl L w→ZRs w cs ys→jbA l cs w.H=some (cs',H')→ ∃w',w'.h=w.h∧w'.H=H'∧ZRel fl L w'∧Ext w w'∧ZRs w' cs' ys
 |[],cs,cs',ys,w,H',r,h,ho=>by
  simp only[jbA,U4,O4] at ho;obtain⟨rfl,rfl⟩:=ho;exact⟨w,rfl,rfl,r,Ext.refl w,h⟩
 |(j,k)::l,cs,cs',ys,w,H',r,h,ho=>by
  simp only[jbA] at ho;split at ho
  ·rename_i hj
   split at ho
   ·obtain⟨a,ha,hz⟩:=h.get hj
    have hz:=hz.val_inv;subst hz;have hjl:j<cs.length:=(U0.1 hj).1;have h1:ZRs w (cs.set j (.fz (k - 1000) false [])) ys:=by
     refine⟨by simp[h.1],fun i z a hz' ha'=>?_⟩;by_cases hi:i=j
     ·subst hi
      rw[M1] at hz';simp[hjl] at hz';rw[ha] at ha';injection ha' with ha'
      subst hz';subst ha';exact .fr (.fnil (.inl rfl))
     ·rw[M1,if_neg (Ne.symm hi)] at hz'
      exact h.2 i z a hz' ha'
    exact jdn r h1 ho
   obtain⟨w1,e1,e2,e3,e4,e5,e6⟩:=jjz r k;obtain⟨a,ha,hz⟩:=h.get hj;have hz:=hz.val_inv;subst hz;have hown:ZR w1 (.own w.H.length 0 0 0 false) .nil:=jf9 e5 (k:=k) (by rw[e2];simp) e3 (.inl rfl);have hjl:j<cs.length:=(U0.1 hj).1;have h1:ZRs w1 (cs.set j (.own w.H.length 0 0 0 false)) ys:=by
    refine⟨by simp[h.1],fun i z a hz' ha'=>?_⟩;by_cases hi:i=j
    ·subst hi
     rw[M1] at hz';simp[hjl] at hz';rw[ha] at ha';injection ha' with ha'
     subst hz';subst ha';exact hown
    ·rw[M1,if_neg (Ne.symm hi)] at hz'
     exact (h.2 i z a hz' ha').ext e6
   rw[←e2] at ho;obtain⟨w2,f1,f2,f3,f4,f5⟩:=jdn e5 h1 ho;exact⟨w2,f1.trans e1,f2,f3,e6.trans f4,f5⟩
  ·cases ho
theorem jsr {w0:Wd}{l:List (Nat×Nat)}{K:ZV→ZH→Prop}{a:AV}{h':Heap}(p:PK fl L w (zown l K) a h'):PK fl L w K a h':=by
 obtain⟨z,w',rfl,r,e,hz,hk⟩:=p;unfold zown at hk;split at hk
 ·obtain⟨z',H',h1,k⟩:=hk
  obtain⟨w2,e1,e2,e3,e4,e5⟩:=jdn r (ZRs.cons hz .nil) h1;exact⟨z',w2,e1,e3,e.trans e4,e5.2 0 _ _ rfl rfl,by rw[e2];exact k⟩
 ·obtain⟨cs',H',h1,k⟩:=hk
  obtain⟨ys,rfl,hc⟩:=hz.agg_inv;obtain⟨w2,e1,e2,e3,e4,e5⟩:=jdn r hc h1;exact⟨_,w2,e1,e3,e.trans e4,e5.toAgg,by rw[e2];exact k⟩
 ·rename_i i o
  split at hk
  ·rename_i cs hb
   obtain⟨cs',H',h1,k⟩:=hk;obtain⟨id,cs0,rfl,_,hm⟩:=hz.ptr_inv;obtain⟨id',row,q1,q2,q3⟩:=r.box i cs hb;rw[hm] at q1;injection q1 with q1;injection q1 with q1;subst q1
   obtain⟨w2,e1,e2,e3,e4,e5⟩:=jdn r q3 h1;obtain⟨⟨cs2,hb2⟩,hm2⟩:=e4.box i cs hb;have hid:id<w'.h.length:=(r.nfr i _ hm).2;obtain⟨w3,f1,f2,f3,f4,f5⟩:=jpW e3 (jap hb2) (.box cs') (id,0) w2.h row (fun _ _ _=>rfl) (V2 _) ⟨by rw[e1];exact hid,.inl ⟨_,hm2.trans hm,rfl⟩⟩ (by rw[e1];exact q2) (.inl ⟨cs2,cs',hb2,rfl,hm2.trans hm,fun w' e'=>e5.ext e'⟩);have hb3:w3.H[i]?=some (.box cs'):=by rw[f2,M1];simp[jap hb2]
   exact⟨_,w3,f1.trans e1,f4,e.trans (e4.trans f5),.ptr hb3 f3,by rw[f2,e2];exact k⟩
  ·exact hk.elim
 ·exact⟨_,w',rfl,r,e,hz,hk⟩
theorem jeE (r:ZRel fl L w){i g k off len:Nat}{rows:List (List ZV)}{ex:Bool}{a:AV}(hb:w.H[i]?=some (.grow g k rows))(hle:off+len≤rows.length)(hp:rows.flatten.all jbR=true)(hz:ZR w (.own i g off len ex) a):
  ∃w',w'.h=w.h∧w'.H=w.H.set i .dead∧ZRel fl L w'∧Ext w w'∧ZR w' (.fz k ex ((rows.drop off).take len)) a:=by
 obtain⟨w',e1,e2,e3,e4,e5⟩:=jkr r hb;refine⟨w',e1,e2,e4,e5,.fr ?_⟩;obtain⟨g0,gB⟩:=r.grow _ _ _ _ hb;have hlen:((rows.drop off).take len).length=len:=by rw[C4,C5];omega
 cases hz with
 |fr hf=>cases hf
 |own h1 h2 h3 h4=>
  rcases (h2 _ _ _ hb).2 rfl with⟨m0,rfl,rfl,rfl,hq⟩|⟨id,b,lb,ex',row,m1,rfl,m2,m3,m4,m5,m6⟩
  ·rcases hq with rfl|⟨id,o,row,rfl,q2,q3,q4⟩
   ·exact .fnil (.inl rfl)
   ·have:=FR.ofRows (Fr:=w'.Fr) (h:=w'.h) (k:=k) (ex:=ex) (rows:=[]) (id:=id) (off:=o) (lb:=0) (ex':=true) (row:=row) (e5.frm _ q2) (by rw[e1];exact q3) (by simpa using q4) (by simp) (fun _=>⟨rfl,rfl⟩) (by simp) (fun i z hz=>by simp at hz)
    simpa using this
  ·rcases gB with⟨n1,n2⟩|⟨id',b',row',n1,n2,n3,n4⟩
   ·rw[m1] at n1;cases n1
   ·rw[m1] at n1;injection n1 with n1;injection n1 with t1 t2;subst t1;subst t2
    rw[m4] at n2;injection n2 with n2;subst n2
    have hm:len*k≤lb*k:=E9 _ m3;have hm2:(off+len)*k≤rows.length*k:=E9 _ hle;rw[Y0] at hm2;have:=FR.ofRows (Fr:=w'.Fr) (h:=w'.h) (k:=k) (ex:=ex) (rows:=(rows.drop off).take len) (id:=id) (off:=b+off*k) (lb:=lb) (ex':=ex') (row:=row) (e3 _ m1) (by rw[e1];exact m4) (by rw[hlen];omega) (by rw[hlen];exact m3) (by rw[hlen];exact m6) (fun x hx=>g0 x (M7 (M6 hx))) (fun i z hz=>?_)
    ·rw[hlen] at this;exact this
    ·rw[←jcx (fun x hx=>g0 x (M7 hx)),← jcy g0,O8] at hz
     split at hz
     ·rw[O9] at hz
      obtain⟨c,t1,t2⟩:=n4.get hz;rw[O8] at t1;split at t1
      ·rw[O9] at t1
       exact⟨c,by rw[←t1];congr 1;omega,joq (t2.ext e5) (N2.1 hp z (R5 hz))⟩
      ·cases t1
     ·cases hz
theorem jsH {K:ZV→ZH→Prop}{a:AV}{h':Heap}(p:PK fl L w (zfrz K) a h'):PK fl L w K a h':=by
 obtain⟨z,w',rfl,r,e,hz,hk⟩:=p;unfold zfrz at hk;split at hk
 ·split at hk
  ·rename_i g' k rows hb
   obtain⟨rfl,h1,h2,k⟩:=hk;obtain⟨w2,e1,e2,e3,e4,e5⟩:=jeE r hb h1 h2 hz;exact⟨_,w2,e1,e3,e.trans e4,e5,by rw[e2];exact k⟩
  ·exact hk.elim
 ·exact⟨z,w',rfl,r,e,hz,hk.2⟩
theorem jfE {G:Gh}{dst:Option Nat}{K:ZV→ZH→Prop}{a:AV}{h':Heap}(p:PK fl L w (zgo G dst K) a h'):PK fl L w K a h':=by
 cases dst with
 |none=>exact p
 |some d=>
  cases hl:G.own.lookup d with
  |some l=>exact jsr (w0:=w) (l:=l) (p.mono fun z H h=>by simp only[zgo,hl] at h;exact h)
  |none=>
   by_cases hf:G.frz.contains d=true
   ·exact jsH (p.mono fun z H h=>by simp only[zgo,hl,hf,if_true] at h;exact h)
   ·exact p.mono fun z H h=>by simp only[zgo,hl,hf] at h;simpa using h
end
section
open Go Go.RowKit
variable {fl L:Nat→Bool}{w:Wd}{S:ZS}{s:jal}{X:XT}{F:FuncId→Option jbq}
def Cv (w:Wd)(a:AV)(l:List Nat):Prop:= ∀id∈jdq a,id<w.h.length∧ ∀i p,w.mu i=some p→p.1=id→i∈l
theorem Cv.mono {a:AV}{l l':List Nat}(h:Cv w a l)(hs: ∀i∈l,i∈l'):Cv w a l':=fun id hi=>⟨(h id hi).1,fun i p hp e=>hs i ((h id hi).2 i p hp e)⟩
theorem Cv.of {a b:AV}{l:List Nat}(h:Cv w a l)(hs: ∀i∈jdq b,i∈jdq a):Cv w b l:=fun id hi=>h id (hs id hi)
theorem jiJ {O:Nat→List Nat}(hO: ∀t,Cv w (s t) (O t)){x:Opd}{l:List Nat}(h:owO O x=some l):Cv w (x.ev s) l:=by
 unfold owO at h;split at h
 ·injection h with h;subst h;exact hO _
 ·cases h
 ·cases h
 ·rename_i h1 h2 h3
  injection h with h;subst h
  cases x with
  |tmp t=>exact absurd rfl (h1 t)
  |av v=>cases v with
   |ptr a b=>exact absurd rfl (h2 a b)
   |slice a b c d e f=>exact absurd rfl (h3 a b c d e f)
   |_=>intro id hi;simp[jeq,jdq] at hi
theorem jq2 {k:Nat}{a b:AV}{lo hi mx:Option AV}(h:jc3 k a lo hi mx=some b): ∀i∈jdq b,i∈jdq a:=by
 have triple: ∀{α:Type} {p q r:Option Nat} {f:Nat→Nat→Nat→Option α} {x:α},(match p,q,r with|some l,some u,some m=>f l u m|_,_,_=>none)=some x→ ∃l u m,f l u m=some x:=fun {α p q r f x} h=>by
  cases p<;>cases q<;>cases r<;>first|(cases h;done)|exact⟨_,_,_,h⟩
 unfold jc3 at h;dsimp only at h;split at h
 ·split at h
  ·injection h with h;subst h;exact fun i h=>h
  ·cases h
 ·split at h
  ·injection h with h;subst h;exact fun i h=>h
  ·cases h
 ·split at h
  ·split at h
   ·injection h with h;subst h;exact fun i h=>h
   ·cases h
  ·cases h
 ·cases h
theorem ow_op {O:Nat→List Nat}(hO: ∀t,Cv w (s t) (O t)){op:AOp}(hl:jiQ op=true){l:List Nat}(h:owOp O op=some l){v:AV}{h':Heap}(he:jah none fl s w.h op=some (v,h')):Cv w v l:=by
 cases op with
 |mv x=>simp only[jah,U4,O4] at he;rw[←he.1];exact jiJ hO h
 |nilCheck x=>
  refine (jiJ hO h).of ?_;simp only[jah] at he;split at he
  ·rename_i id off e;injection he with he;injection he with he;subst he;rw[e];exact fun i h=>h
  ·rename_i f cs e;injection he with he;injection he with he;subst he;rw[e];exact fun i h=>h
  ·rename_i f a cs e;injection he with he;injection he with he;subst he;rw[e];exact fun i h=>h
  ·cases he
 |bin op x y=>
  simp only[jah] at he;split at he
  ·split at he
   ·injection he with he;injection he with he;subst he;intro id hi;simp[jdq] at hi
   ·cases he
  ·cases he
 |fieldAddr n x=>
  refine (jiJ hO h).of ?_;simp only[jah] at he;split at he
  ·rename_i id off e;injection he with he;injection he with he;subst he;rw[e];exact fun i h=>h
  ·cases he
 |indexAddr k x i=>
  refine (jiJ hO h).of ?_;simp only[jah] at he;split at he
  ·rename_i e _
   split at he
   ·injection he with he;injection he with he;subst he;rw[e];exact fun i h=>h
   ·cases he
  ·cases he
 |indexArr k len x i=>
  refine (jiJ hO h).of ?_;simp only[jah] at he;split at he
  ·rename_i e _
   split at he
   ·injection he with he;injection he with he;subst he;rw[e];exact fun i h=>h
   ·cases he
  ·cases he
 |slice k x lo hi mx=>
  refine (jiJ hO h).of ?_;simp only[jah] at he;split at he
  ·rename_i b hb
   injection he with he;injection he with he;subst he
   exact jq2 hb
  ·cases he
 |_=>cases hl
theorem put_cv {O:Nat→List Nat}(hO: ∀t,Cv w (s t) (O t)){d:Option Nat}{v:AV}{l:List Nat}(hv:Cv w v l): ∀t,Cv w (put s d v t) (putO O d (l++oldO O d) t):=fun t=>by
 cases d with
 |none=>exact hO t
 |some d=>
  simp only[jaU,jbV,putO,oldO];by_cases ht:t=d
  ·subst ht;rw[if_pos rfl,if_pos rfl];exact hv.mono fun i hi=>A7 _ hi
  ·rw[if_neg ht,if_neg ht];exact hO t
theorem old_cv {O:Nat→List Nat}(hO: ∀t,Cv w (s t) (O t)){d:Option Nat}{l:List Nat}: ∀t,Cv w (s t) (putO O d (l++oldO O d) t):=fun t=>by
 cases d with
 |none=>exact hO t
 |some d=>
  simp only[putO,oldO];by_cases ht:t=d
  ·subst ht;rw[if_pos rfl];exact (hO t).mono fun i hi=>A8 _ hi
  ·rw[if_neg ht];exact hO t
theorem jc7: ∀(l:List jav) (s:jal) (O:Nat→List Nat),(∀t,Cv w (s t) (O t))→ ∀{fb},je5 l O=some fb→ ∀id∈jhP fl w.h l s,id<w.h.length∧ ∀i p,w.mu i=some p→p.1=id→i∈fb
 |[],s,O,hO,fb,h=>by intro id hi;simp[jhP] at hi
 |o::l,s,O,hO,fb,h=>by
  simp only[je5,jhP] at h ⊢;by_cases hl:jiQ o.op=true
  ·rw[if_pos hl] at h ⊢
   split at h
   ·rename_i x hx
    split
    ·rename_i v h' he
     exact jc7 l _ _ (put_cv hO (ow_op hO hl hx he)) h
    ·exact jc7 l _ _ (old_cv hO) h
   ·cases h
  ·rw[if_neg hl] at h ⊢
   have skip: ∀fb,je5 l O=some fb→sees s o.op=[]∨o.iso=true→ ∀id∈(if o.iso=true then [] else sees s o.op)++jhP fl w.h l s,id<w.h.length∧ ∀i p,w.mu i=some p→p.1=id→i∈fb:=fun fb hfb hc id hi=>by
    have:(if o.iso=true then [] else sees s o.op)=[]:=by
     rcases hc with hc|hc
     ·rw[hc];simp
     ·rw[if_pos hc]
    rw[this] at hi;exact jc7 l s O hO hfb id hi
   split at h
   ·rename_i n x heq hiso
    split at h
    ·rename_i a b ha hb
     injection h with h;subst h
     intro id hi;rw[hiso] at hi;simp only[N6,if_false,O3] at hi;rcases hi with hi|hi
     ·rw[heq] at hi
      simp only[sees,idsOf_eq] at hi;obtain⟨q1,q2⟩:=jiJ hO ha id hi;exact⟨q1,fun i p hp e=>A7 _ (q2 i p hp e)⟩
     ·obtain⟨q1,q2⟩:=jc7 l s O hO hb id hi
      exact⟨q1,fun i p hp e=>A8 _ (q2 i p hp e)⟩
    ·cases h
   ·rename_i hne
    refine skip fb h ?_
    cases hi:o.iso with
    |true=>exact .inr rfl
    |false=>
     left
     cases ho:o.op with
     |load n x=>exact absurd hi (hne n x ho)
     |_=>rfl
theorem jfG: ∀(l:List jav) (O:Nat→List Nat) {fb:List Nat},je5 l O=some fb→ ∀i∈fb,∃ t,i∈O t
 |[],O,fb,h=>by simp only[je5,U4] at h;subst h;intro i hi;simp at hi
 |o::l,O,fb,h=>by
  have opd: ∀{x:Opd} {a:List Nat},owO O x=some a→ ∀i∈a,∃ t,i∈O t:=fun {x a} h i hi=>by
   unfold owO at h;split at h
   ·injection h with h;subst h;exact⟨_,hi⟩
   ·cases h
   ·cases h
   ·injection h with h;subst h;simp at hi
  simp only[je5] at h;by_cases hl:jiQ o.op=true
  ·rw[if_pos hl] at h
   split at h
   ·rename_i x hx
    intro i hi;obtain⟨t,ht⟩:=jfG l _ h i hi
    cases hd:o.dst with
    |none=>rw[hd] at ht;exact⟨t,ht⟩
    |some d=>
     rw[hd] at ht;simp only[putO,oldO] at ht;split at ht
     ·rcases O3.1 ht with ht|ht
      ·unfold owOp at hx
       split at hx<;>first|exact opd hx i ht|(injection hx with hx;subst hx;simp at ht)
      ·exact⟨d,ht⟩
     ·exact⟨t,ht⟩
   ·cases h
  ·rw[if_neg hl] at h
   split at h
   ·split at h
    ·rename_i a b ha hb
     injection h with h;subst h
     intro i hi;rcases O3.1 hi with hi|hi
     ·exact opd ha i hi
     ·exact jfG l O hb i hi
    ·cases h
   ·exact jfG l O h
theorem ZR.owner_lt {z:ZV}{a:AV}(hz:ZR w z a): ∀i∈jaa z,i<w.H.length:=by
 intro i hi
 cases hz with
 |fr hf=>cases hf<;>simp[jaa] at hi
 |ptr h1 h2=>simp[jaa] at hi;subst hi;exact (U0.1 h1).1
 |own h1=>simp[jaa] at hi;subst hi;exact h1
 |eptr h1=>simp[jaa] at hi;subst hi;exact h1
 |_=>simp[jaa] at hi
theorem jkw {E:Nat→Option ZV}(hE: ∀t z,E t=some z→ZR w z (s t)){x:Opd}{z:ZV}(h:exO E x=some z):ZR w z (x.ev s):=by
 unfold exO at h;split at h
 ·exact hE _ _ h
 ·cases h
theorem je2: ∀(l:List jav) (s:jal) (E:Nat→Option ZV),(∀t z,E t=some z→ZR w z (s t))→ ∀i∈jes l E,∃ cs p,w.H[i]?=some (.box cs)∧w.mu i=some p∧p.1∈jhP fl w.h l s
 |[],s,E,hE=>by intro i hi;simp[jes] at hi
 |o::l,s,E,hE=>by
  intro i hi;simp only[jes,jhP] at hi ⊢;by_cases hl:jiQ o.op=true
  ·rw[if_pos hl] at hi ⊢
   split
   ·rename_i v h' he
    refine je2 l _ _ (fun t z hz=>?_) i hi
    cases hd:o.dst with
    |none=>rw[hd] at hz;exact hE t z hz
    |some d=>
     rw[hd] at hz;simp only[putO] at hz;rw[jaU,jbV];by_cases ht:t=d
     ·rw[if_pos ht] at hz ⊢
      unfold jsN at hz;split at hz
      ·rename_i x heq
       rw[heq] at he;simp only[jah,U4,O4] at he;rw[←he.1];exact jkw hE hz
      ·rename_i n x heq
       split at hz
       ·rename_i j o' hx
        injection hz with hz;subst hz
        obtain⟨id,cs,e1,e2,e3⟩:=(jkw hE hx).ptr_inv;rw[heq] at he;simp only[jah,e1,U4,O4] at he;rw[←he.1];exact .ptr e2 e3
       ·cases hz
      ·rename_i x heq
       split at hz
       ·rename_i j o' hx
        injection hz with hz;subst hz
        obtain⟨id,cs,e1,e2,e3⟩:=(jkw hE hx).ptr_inv;rw[heq] at he;simp only[jah,e1,U4,O4] at he;rw[←he.1];exact .ptr e2 e3
       ·cases hz
      ·cases hz
     ·rw[if_neg ht] at hz ⊢;exact hE t z hz
   ·rename_i he
    refine je2 l _ _ (fun t z hz=>?_) i hi
    cases hd:o.dst with
    |none=>rw[hd] at hz;exact hE t z hz
    |some d=>
     rw[hd] at hz;simp only[putO] at hz;by_cases ht:t=d
     ·rw[if_pos ht] at hz
      exfalso;unfold jsN at hz;split at hz
      ·rename_i x heq
       rw[heq] at he;simp[jah] at he
      ·rename_i n x heq
       split at hz
       ·rename_i j o' hx
        obtain⟨id,cs,e1,e2,e3⟩:=(jkw hE hx).ptr_inv;rw[heq] at he;simp[jah,e1] at he
       ·cases hz
      ·rename_i x heq
       split at hz
       ·rename_i j o' hx
        obtain⟨id,cs,e1,e2,e3⟩:=(jkw hE hx).ptr_inv;rw[heq] at he;simp[jah,e1] at he
       ·cases hz
      ·cases hz
     ·rw[if_neg ht] at hz;exact hE t z hz
  ·rw[if_neg hl] at hi ⊢
   have later:i∈jes l E→ ∃cs p,w.H[i]?=some (.box cs)∧w.mu i=some p∧p.1∈(if o.iso=true then [] else sees s o.op)++jhP fl w.h l s:=fun h=>by
    obtain⟨cs,p,q1,q2,q3⟩:=je2 l s E hE i h;exact⟨cs,p,q1,q2,A8 _ q3⟩
   split at hi
   ·rename_i n x heq hiso
    split at hi
    ·rename_i j o' hx
     rcases A4.1 hi with rfl|hi
     ·obtain⟨id,cs,e1,e2,e3⟩:=(jkw hE hx).ptr_inv
      refine⟨cs,_,e2,e3,A7 _ ?_⟩;rw[hiso,heq];simp[sees,e1,idOf]
     ·exact later hi
    ·exact later hi
   ·exact later hi
structure jhE (w:Wd)(base bA:Nat)(rs:List Nat)(pr:Option (List Nat))(d:Seen):Prop where
  r1: ∀id∈d.rs,id<w.h.length∧ ∀i p,w.mu i=some p→p.1=id→i∈rs
  r2: ∀i∈rs,∃ cs p,w.H[i]?=some (.box cs)∧w.mu i=some p∧p.1∈d.rs
  p1:match pr,d.pr with|none,none=>True|some lz,some la=> ∀i∈lz,∃ cs p,w.H[i]?=some (.box cs)∧w.mu i=some p∧p.1∈la|_,_=>False
  b0:base≤w.H.length
  b1: ∀(i:Nat) cs,i<base→w.H[i]?=some (.box cs)→ ∀p,w.mu i=some p→p.1<bA
theorem jvn {w':Wd}(e:Ext w w'){i:Nat}{la:List Nat}(h: ∃cs p,w.H[i]?=some (.box cs)∧w.mu i=some p∧p.1∈la): ∃cs p,w'.H[i]?=some (.box cs)∧w'.mu i=some p∧p.1∈la:=by
 obtain⟨cs,p,h1,h2,h3⟩:=h;obtain⟨⟨cs',h4⟩,h5⟩:=e.box i cs h1;exact⟨cs',p,h4,h5.trans h2,h3⟩
theorem jhE.ext {w':Wd}(e:Ext w w'){base bA:Nat}{rs:List Nat}{pr:Option (List Nat)}{d:Seen}(h:jhE w base bA rs pr d):jhE w' base bA rs pr d:=by
 refine⟨fun id hi=>?_,fun i hi=>jvn e (h.r2 i hi),?_,V3 h.b0 e.Hl,fun i cs hi hb p hp=>?_⟩
 ·obtain⟨q1,q2⟩:=h.r1 id hi
  refine⟨V0 q1 e.hl,fun i p hp he=>?_⟩;rcases e.mu i p hp with⟨p0,hp0,e0⟩|hh
  ·exact q2 i p0 hp0 (e0.trans he)
  ·omega
 ·have:=h.p1
  cases pr<;>cases hd:d.pr<;>rw[hd] at this<;>simp only at this ⊢
  exact fun i hi=>jvn e (this i hi)
 ·obtain⟨cs0,hb0⟩:=e.boxr i cs (V0 hi h.b0) hb
  rw[(e.box i cs0 hb0).2] at hp;exact h.b1 i cs0 hi hb0 p hp
theorem ZRel.back {fl' L':Nat→Bool}{w':Wd}(r:ZRel fl L w)(r':ZRel fl' L' w')(e:Ext w w'):ZRel fl L w':=
 ⟨fun id h => r.fresh id (V3 e.hl h), fun i h => r.lfresh i (V3 e.Hl h), r'.frlt, r'.dom, r'.inj, r'.nfr, fun i p hp hl => by
  rcases e.mu i p hp with⟨p0,hp0,e0⟩|h
  ·rw[←e0];exact r.wr i p0 hp0 hl
  ·exact r.fresh _ h,r'.box,r'.grow⟩
theorem jfc (r:ZRel fl L w)(hS: ∀t,ZR w (S t) (s t)){op:AOp}{top ztop:Option (Nat×Option (List Nat))}(ht: ∀z id off,ZR w z (.ptr id off)→topZ ztop z=true→jbw top id=true){gl:Bool}{K:ZV→ZH→Prop}(hk:z1c X F L ztop gl S w.H K op):
  A1 X F top fl op s w.h (PK fl L w K):=by
 cases op with
 |call f args=>
  obtain⟨z,zs,g,vs,h1,h2,hc,h3⟩:=hk;have hz:=jan hS h1;have ha:=jet hS h2;unfold jii at hc;split at hc
  ·injection hc with hc;injection hc with hc1 hc2;subst hc1;subst hc2
   obtain⟨ys,e1,e2⟩:=hz.func_inv;exact jbN.2 ⟨_,_,by rw[e1];rfl,h3 fl w _ r rfl (ha.append e2)⟩
  ·injection hc with hc;injection hc with hc1 hc2;subst hc1;subst hc2
   obtain⟨ys,us,e1,e2,e3⟩:=hz.bfunc_inv;exact jbN.2 ⟨_,_,by rw[e1];rfl,h3 fl w _ r rfl ((e2.append ha).append e3)⟩
  ·cases hc
 |panic x=>
  obtain⟨h1,t,h2,h3⟩:=hk;have hz:=(jan hS h2).val_inv;exact⟨h1,jeA ⟨t,by rw[hz],h3⟩⟩
 |_=>exact z1_sound (gl:=gl) r hS ht hk
theorem A1.mono {top:Option (Nat×Option (List Nat))}{op:AOp}{h:Heap}{K K':AV→Heap→Prop}(ha:A1 X F top fl op s h K)(hk: ∀v h',K v h'→K' v h'):A1 X F top fl op s h K':=by
 unfold A1 at ha ⊢;split at ha
 ·obtain⟨g,vs,e,hc⟩:=ha;exact⟨g,vs,e,hc.mono hk⟩
 ·exact⟨ha.1,jcz _ _ _ _ _ _ hk ha.2⟩
 ·obtain⟨v,h',e,k⟩:=ha;exact⟨v,h',e,hk v h' k⟩
theorem ja1 {w':Wd}(hS: ∀t,ZR w' (S t) (s t)){d:Option Nat}{z:ZV}{a:AV}(hz:ZR w' z a): ∀t,ZR w' (zput S d z t) (put s d a t):=fun t=>by
 cases d with
 |none=>exact hS t
 |some d=>
  simp only[zput,zupd,jaU,jbV];by_cases ht:t=d
  ·rw[if_pos ht,if_pos ht];exact hz
  ·rw[if_neg ht,if_neg ht];exact hS t
theorem jmx (hS: ∀t,ZR w (S t) (s t)){o:jav}{b:Bool}(h:jgV o S=some b):jbu o s=some b:=by
 unfold jgV at h;unfold jbu;split at h
 ·rename_i hg;rw[hg];exact h
 ·rename_i t want hg
  rw[hg];simp only;have hz:=hS t;split at h
  ·rename_i b' hb;rw[hb] at hz;rw[hz.val_inv];exact h
  ·rename_i v hb hv
   rw[hv] at hz;rw[hz.val_inv]
   cases v with
   |bool b'=>exact (hb b' rfl).elim
   |_=>exact h
  ·rename_i hb
   rw[hb] at hz;obtain⟨ys,e1,e2⟩:=hz.tuple_inv;have:ys=[]:=Y9 (by simpa using e2.1.symm);subst this;rw[e1];exact h
  ·cases h
def PO (fl L:Nat→Bool)(w:Wd)(K:ZS→ZH→Prop)(s':jal)(h':Heap):Prop:= ∃S' w',w'.h=h'∧ZRel fl L w'∧Ext w w'∧(∀t,ZR w' (S' t) (s' t))∧K S' w'.H
theorem jlj {G:Gh}{base bA:Nat}{K:ZS→ZH→Prop}: ∀(l:List jav) (rs:List Nat) (pr:Option (List Nat)) (d:Seen) (S:ZS) (s:jal) (w:Wd),ZRel fl L w→(∀t,ZR w (S t) (s t))→jhE w base bA rs pr d→zO X F G L base rs pr l S w.H K→
  AO X F bA fl d l s w.h (PO fl L w K)
 |[],rs,pr,d,S,s,w,r,hS,hd,hk=>by
  rw[ja7];exact⟨S,w,rfl,r,Ext.refl w,hS,hk⟩
 |o::l,rs,pr,d,S,s,w,r,hS,hd,hk=>by
  have go: ∀(w':Wd) (S':ZS) (s':jal) (rs':List Nat) (pr':Option (List Nat)) (d':Seen),ZRel fl L w'→Ext w w'→(∀t,ZR w' (S' t) (s' t))→jhE w' base bA rs' pr' d'→zO X F G L base rs' pr' l S' w'.H K→AO X F bA fl d' l s' w'.h (PO fl L w K):=fun w' S' s' rs' pr' d' r' e hS' hd' hk'=>by
   refine (jlj l rs' pr' d' S' s' w' r' hS' hd' hk').mono fun s2 h2 hq=>?_
   obtain⟨S2,w2,f1,f2,f3,f4,f5⟩:=hq;exact⟨S2,w2,f1,f2,e.trans f3,f4,f5⟩
  rw[jgT];simp only[zO] at hk
  cases hw:jgV o S with
  |none=>rw[hw] at hk;exact hk.elim
  |some b=>
   rw[jmx hS hw];rw[hw] at hk;refine⟨fun hb=>?_,fun hb=>?_⟩
   ·have hk:=hk.1 hb
    cases hiso:o.iso with
    |true=>
     rw[hiso] at hk;simp only[if_true] at hk ⊢;have e1:jbB fl o (jcw fl d o l s w.h)=fl:=by unfold jbB;rw[hiso];rfl
     have e2: ∀fb,d.with o fb s=d:=fun fb=>by unfold Seen.with;rw[hiso];rfl
     rw[e1];refine (jfc r hS (ztop:=none) (top:=none) (fun z id off _ _=>rfl) hk).mono fun v h' p=>?_
     obtain⟨z,w',rfl,r',e,hz,kk⟩:=jfE p;rw[e2];exact go w' _ _ rs pr d r' e (ja1 (fun t=>(hS t).ext e) hz) (hd.ext e) kk
    |false=>
     rw[hiso] at hk;simp only[N6,if_false] at hk ⊢;obtain⟨fb,hfb,hk⟩:=hk
     -- what may not be written
     obtain⟨fa,hfa⟩: ∃fa,fa=jcw fl d o l s w.h:=⟨_,rfl⟩;rw[←hfa];have hcov: ∀id∈fa,id<w.h.length∧ ∀i p,w.mu i=some p→p.1=id→i∈fb:=by
      rw[hfa];unfold jcw;unfold jd8 at hfb;rw[hiso]
      cases hh:heavy o.op with
      |false=>intro id hi;simp at hi
      |true=>
       rw[hh] at hfb;simp only[if_true] at hfb;split at hfb
       ·rename_i fb' hfb'
        injection hfb with hfb;subst hfb
        intro id hi;simp only[Bool.not_true,Bool.or_self,N6,if_false,O3] at hi;rcases hi with hi|hi
        ·obtain⟨q1,q2⟩:=hd.r1 id hi
         exact⟨q1,fun i p hp e=>A7 _ (q2 i p hp e)⟩
        ·obtain⟨q1,q2⟩:=jc7 l s _ (fun t=>(hS t).owner r) hfb' id hi
         exact⟨q1,fun i p hp e=>A8 _ (q2 i p hp e)⟩
       ·cases hfb
     have hfbl: ∀i∈fb,i<w.H.length:=by
      unfold jd8 at hfb;split at hfb
      ·split at hfb
       ·rename_i fb' hfb'
        injection hfb with hfb;subst hfb
        intro i hi;rcases O3.1 hi with hi|hi
        ·obtain⟨cs,p,h1,_⟩:=hd.r2 i hi
         exact (U0.1 h1).1
        ·obtain⟨t,ht⟩:=jfG l _ hfb' i hi
         exact (hS t).owner_lt i ht
       ·cases hfb
      ·injection hfb with hfb;subst hfb;intro i hi;simp at hi
     have rL:ZRel (jbB fl o fa) (fun i=>L i&& !fb.contains i) w:=by
      refine⟨fun id h=>?_,fun i h=>?_,r.frlt,r.dom,r.inj,r.nfr,fun i p hp hl=>?_,r.box,r.grow⟩
      ·unfold jbB
       rw[hiso];simp only[N6,if_false,U2,A9];refine⟨r.fresh id h,?_⟩
       cases hc:fa.contains id with
       |false=>rfl
       |true=>have:=(hcov id (B2.1 hc)).1;omega
      ·simp only[U2,A9]
       refine⟨r.lfresh i h,?_⟩
       cases hc:fb.contains i with
       |false=>rfl
       |true=>have:=hfbl i (B2.1 hc);omega
      ·simp only[U2,A9] at hl
       unfold jbB;rw[hiso];simp only[N6,if_false,U2,A9];refine⟨r.wr i p hp hl.1,?_⟩
       cases hc:fa.contains p.1 with
       |false=>rfl
       |true=>
        have h1:=(hcov p.1 (B2.1 hc)).2 i p hp rfl;have h2:fb.contains i=true:=B2.2 h1;rw[h2] at hl;cases hl.2
     -- a free read
     have ht: ∀z id off,ZR w z (.ptr id off)→topZ (some (base,pr)) z=true→jbw (some (bA,d.pr)) id=true:=fun z id off hz htop=>by
      unfold topZ at htop;split at htop
      ·rename_i heq;cases heq
      ·rename_i b' pr' i o' heq
       injection heq with heq;injection heq with e1 e2;subst e1;subst e2
       obtain⟨id',cs,e1,e2,e3⟩:=hz.ptr_inv;injection e1 with e1 _;subst e1
       simp only[U2,decide_eq_true_eq] at htop;simp only[jbw,U2,decide_eq_true_eq];refine⟨hd.b1 i cs htop.1 e2 _ e3,?_⟩;have hp1:=hd.p1
       cases hpr:pr with
       |none=>
        rw[hpr] at hp1
        cases hdp:d.pr with
        |none=>rfl
        |some la=>rw[hdp] at hp1;exact hp1.elim
       |some lz=>
        rw[hpr] at hp1 htop
        cases hdp:d.pr with
        |none=>rfl
        |some la=>
         rw[hdp] at hp1;simp only at hp1 htop;obtain⟨cs2,p2,q1,q2,q3⟩:=hp1 i (B2.1 htop.2);rw[e3] at q2;injection q2 with q2;subst q2
         exact B2.2 q3
      ·cases htop
     -- what is known to be seen
     have hnew:jhE w base bA (zrs rs o S) (zpr rs pr o l S) (d.with o fa s):=by
      have hrs:(d.with o fa s).rs=sees s o.op++d.rs:=by unfold Seen.with;rw[hiso];rfl
      have hpr:(d.with o fa s).pr=if heavy o.op=true then some (match d.pr with|none=>fa|some l=>l.filter fa.contains) else d.pr:=by unfold Seen.with;rw[hiso];rfl
      have hloads: ∀{n:Option Nat} {x:Opd},o.op= .load n x→ ∃i o',zev S x=some (.ptr i o'):=fun {n x} ho=>by
       rw[ho] at hk;obtain⟨z,v,h1,h2,h3,_⟩:=hk;unfold topZ at h2;split at h2
       ·rename_i heq;cases heq
       ·exact⟨_,_,h1⟩
       ·cases h2
      refine⟨fun id hi=>?_,fun i hi=>?_,?_,hd.b0,hd.b1⟩
      ·rw[hrs] at hi
       unfold zrs;rcases O3.1 hi with hi|hi
       ·cases ho:o.op with
        |load n x=>
         obtain⟨i,o',h1⟩:=hloads ho;simp only[h1];obtain⟨id',cs,e1,e2,e3⟩:=(jan hS h1).ptr_inv;rw[ho] at hi;simp[sees,e1,idOf] at hi;subst hi;exact⟨(r.nfr i _ e3).2,fun j p hp e=>by rw[r.inj j i p _ hp e3 e];simp⟩
        |_=>rw[ho] at hi;simp[sees] at hi
       ·obtain⟨q1,q2⟩:=hd.r1 id hi
        refine⟨q1,fun i p hp e=>?_⟩;have:=q2 i p hp e;split
        ·split
         ·exact List.mem_cons_of_mem _ this
         ·exact this
        ·exact this
      ·rw[hrs]
       have old:i∈rs→ ∃cs p,w.H[i]?=some (.box cs)∧w.mu i=some p∧p.1∈sees s o.op++d.rs:=fun h=>by
        obtain⟨cs,p,q1,q2,q3⟩:=hd.r2 i h;exact⟨cs,p,q1,q2,A8 _ q3⟩
       unfold zrs at hi;split at hi
       ·rename_i n x ho
        split at hi
        ·rename_i j o' h1
         rcases A4.1 hi with rfl|hi
         ·obtain⟨id',cs,e1,e2,e3⟩:=(jan hS h1).ptr_inv
          refine⟨cs,_,e2,e3,A7 _ ?_⟩;rw[ho];simp[sees,e1,idOf]
         ·exact old hi
        ·exact old hi
       ·exact old hi
      ·rw[hpr]
       unfold zpr;by_cases hh:heavy o.op=true
       ·rw[if_pos hh,if_pos hh]
        have hu: ∀i∈rs++jes l (fun t=>some (S t)),∃ cs p,w.H[i]?=some (.box cs)∧w.mu i=some p∧p.1∈fa:=fun i hi=>by
         rw[hfa];unfold jcw;rw[hiso,hh];simp only[Bool.not_true,Bool.or_self,N6,if_false];rcases O3.1 hi with hi|hi
         ·obtain⟨cs,p,q1,q2,q3⟩:=hd.r2 i hi
          exact⟨cs,p,q1,q2,A7 _ q3⟩
         ·obtain⟨cs,p,q1,q2,q3⟩:=je2 (fl:=fl) l s _ (fun t z h=>by injection h with h;subst h;exact hS t) i hi
          exact⟨cs,p,q1,q2,A8 _ q3⟩
        have hp1:=hd.p1
        cases hpr2:pr with
        |none=>
         rw[hpr2] at hp1
         cases hdp:d.pr with
         |none=>exact hu
         |some la=>rw[hdp] at hp1;exact hp1.elim
        |some lz=>
         rw[hpr2] at hp1
         cases hdp:d.pr with
         |none=>rw[hdp] at hp1;exact hp1.elim
         |some la=>
          rw[hdp] at hp1;intro i hi;obtain⟨h1,h2⟩:=J7.1 hi;obtain⟨cs,p,q1,q2,q3⟩:=hp1 i h1;obtain⟨cs',p',q4,q5,q6⟩:=hu i (B2.1 h2);rw[q2] at q5;injection q5 with q5;subst q5
          exact⟨cs,p,q1,q2,J7.2 ⟨q3,B2.2 q6⟩⟩
       ·rw[if_neg hh,if_neg hh];exact hd.p1
     refine (jfc rL hS (ztop:=some (base,pr)) (top:=some (bA,d.pr)) ht hk).mono fun v h' p=>?_
     obtain⟨z,w',rfl,r',e,hz,kk⟩:=jfE p;exact go w' _ _ _ _ _ (r.back r' e) e (ja1 (fun t=>(hS t).ext e) hz) (hnew.ext e) kk
   ·have hk:=hk.2 hb
    exact go w _ _ rs pr d r (Ext.refl w) (ja1 hS ZRs.nil.toTuple) hd hk
end
section
open Go Go.RowKit
variable {fl L:Nat→Bool}{w:Wd}{S:ZS}{s:jal}{H:ZH}{X:XT}{F:FuncId→Option jbq}{G:Gh}
/-! ### What goes on may be more -/
theorem z1_mono {top:Option (Nat×Option (List Nat))}{gl:Bool}{K K':ZV→ZH→Prop}{op:AOp}(hk: ∀z H,K z H→K' z H)(h:z1 L top gl S H K op):z1 L top gl S H K' op:=by
 cases op with
 |mv x=>obtain⟨z,h1,k⟩:=h;exact⟨z,h1,hk _ _ k⟩
 |pick c a b=>obtain⟨t,x,y,h1,h2,h3,k⟩:=h;exact⟨t,x,y,h1,h2,h3,hk _ _ k⟩
 |box n x=>obtain⟨z,h1,h2,h3,k⟩:=h;exact⟨z,h1,h2,h3,hk _ _ k⟩
 |zero cs=>
  obtain⟨z,h1,k⟩:=h;refine⟨z,h1,?_⟩;split at k
  ·rw[if_pos (by assumption)];exact hk _ _ k
  ·rw[if_neg (by assumption)];exact hk _ _ k
 |build z ps=>obtain⟨zs,qs,cs,h1,h2,h3,k⟩:=h;exact⟨zs,qs,cs,h1,h2,h3,hk _ _ k⟩
 |lits k len z ps=>
  obtain⟨zs,qs,cs,h1,h2,h3,h4,h5,kk⟩:=h;refine⟨zs,qs,cs,h1,h2,h3,h4,h5,?_⟩;split at kk
  ·rw[if_pos (by assumption)];exact hk _ _ kk
  ·rw[if_neg (by assumption)];exact⟨kk.1,hk _ _ kk.2⟩
 |load n x=>obtain⟨z,v,h1,h2,h3,k⟩:=h;exact⟨z,v,h1,h2,h3,hk _ _ k⟩
 |store n a v=>obtain⟨p,z,H',h1,h2,h3,h4,h5,k⟩:=h;exact⟨p,z,H',h1,h2,h3,h4,h5,hk _ _ k⟩
 |nilCheck x=>obtain⟨z,h1,h2,k⟩:=h;exact⟨z,h1,h2,hk _ _ k⟩
 |bin op x y=>obtain⟨a,b,v,h1,h2,h3,k⟩:=h;exact⟨a,b,v,h1,h2,h3,hk _ _ k⟩
 |eqNil neg kd x=>obtain⟨z,h1,h2⟩:=h;exact⟨z,h1,h2.elim (fun⟨b,h2,k⟩=> .inl ⟨b,h2,hk _ _ k⟩) (fun⟨h2,k⟩=> .inr ⟨h2,fun b=>hk _ _ (k b)⟩)⟩
 |eqBool neg x y=>obtain⟨a,b,h1,h2,k⟩:=h;exact⟨a,b,h1,h2,hk _ _ k⟩
 |eqAgg neg ks x y=>obtain⟨a,b,t,h1,h2,h3,k⟩:=h;exact⟨a,b,t,h1,h2,h3,hk _ _ k⟩
 |un op x=>obtain⟨a,v,h1,h2,k⟩:=h;exact⟨a,v,h1,h2,hk _ _ k⟩
 |conv kd x=>obtain⟨k',n,h1,k⟩:=h;exact⟨k',n,h1,hk _ _ k⟩
 |field off n x=>obtain⟨cs,v,h1,h2,k⟩:=h;exact⟨cs,v,h1,h2,hk _ _ k⟩
 |fieldAddr off x=>obtain⟨z,v,h1,h2,k⟩:=h;exact⟨z,v,h1,h2,hk _ _ k⟩
 |indexAddr kk x i=>obtain⟨z,y,j,v,h1,h2,h3,h4,k⟩:=h;exact⟨z,y,j,v,h1,h2,h3,h4,hk _ _ k⟩
 |indexArr kk len x i=>obtain⟨z,y,j,v,h1,h2,h3,h4,h5,k⟩:=h;exact⟨z,y,j,v,h1,h2,h3,h4,h5,hk _ _ k⟩
 |index kk len n x i=>obtain⟨cs,y,j,v,h1,h2,h3,h4,h5,k⟩:=h;exact⟨cs,y,j,v,h1,h2,h3,h4,h5,hk _ _ k⟩
 |indexStr x i=>obtain⟨t,y,j,b,h1,h2,h3,h4,k⟩:=h;exact⟨t,y,j,b,h1,h2,h3,h4,hk _ _ k⟩
 |slice kk x lo hi mx=>obtain⟨z,n,l,u,m,v,h1,h2,h3,h4,h5,h6,k⟩:=h;exact⟨z,n,l,u,m,v,h1,h2,h3,h4,h5,h6,hk _ _ k⟩
 |mkSlice kk bytes z l c=>obtain⟨x,y,a,b,zs,h1,h2,h3,h4,h5,h6,h7,h8,k⟩:=h;exact⟨x,y,a,b,zs,h1,h2,h3,h4,h5,h6,h7,h8,hk _ _ k⟩
 |extract i x=>obtain⟨vs,v,h1,h2,k⟩:=h;exact⟨vs,v,h1,h2,hk _ _ k⟩
 |func f caps=>obtain⟨zs,h1,k⟩:=h;exact⟨zs,h1,hk _ _ k⟩
 |call f args=>exact h
 |append kk bytes x y=>obtain⟨z,u,new,v,H',h1,h2,h3,h4,k⟩:=h;exact⟨z,u,new,v,H',h1,h2,h3,h4,hk _ _ k⟩
 |len x=>obtain⟨z,n,h1,h2,k⟩:=h;exact⟨z,n,h1,h2,hk _ _ k⟩
 |lenStr x=>obtain⟨t,h1,k⟩:=h;exact⟨t,h1,hk _ _ k⟩
 |copy kk x y=>obtain⟨z,u,new,n,H',h1,h2,h3,h4,k⟩:=h;exact⟨z,u,new,n,H',h1,h2,h3,h4,hk _ _ k⟩
 |clear kk z x=>obtain⟨zs,u,m,n,H',h1,h2,h3,h4,h5,h6,k⟩:=h;exact⟨zs,u,m,n,H',h1,h2,h3,h4,h5,h6,hk _ _ k⟩
 |minmax mx x xs=>obtain⟨z,zs,v,h1,h2,h3,k⟩:=h;exact⟨z,zs,v,h1,h2,h3,hk _ _ k⟩
 |mkMap=>exact hk _ _ h
 |mapGet ok zz x y=>obtain⟨i,n,l,z0,h1,h2,h3,h4,k⟩:=h;exact⟨i,n,l,z0,h1,h2,h3,h4,hk _ _ k⟩
 |mapSet x y v=>obtain⟨i,n,l,z,h1,h2,h3,h4,h5,k⟩:=h;exact⟨i,n,l,z,h1,h2,h3,h4,h5,hk _ _ k⟩
 |mapDel x y=>obtain⟨i,n,l,h1,h2,h3,h5,k⟩:=h;exact⟨i,n,l,h1,h2,h3,h5,hk _ _ k⟩
 |mapClear x=>obtain⟨i,cs,h1,h2,h3,k⟩:=h;exact⟨i,cs,h1,h2,h3,hk _ _ k⟩
 |sliceArr kk n x lo hi mx=>obtain⟨i,g,k0,row,l,u,m,h1,h2,h3,h4,h5,h6,h7,h8,h9,h10,h11,k⟩:=h;exact⟨i,g,k0,row,l,u,m,h1,h2,h3,h4,h5,h6,h7,h8,h9,h10,h11,hk _ _ k⟩
 |bfunc f a b=>obtain⟨zs,us,h1,h2,k⟩:=h;exact⟨zs,us,h1,h2,hk _ _ k⟩
 |mapLen x=>obtain⟨i,cs,h1,h2,k⟩:=h;exact⟨i,cs,h1,h2,hk _ _ k⟩
 |iface t x=>obtain⟨h1,k⟩:=h;exact⟨h1,hk _ _ k⟩
 |panic x=>exact h
 |mkMapK kd=>exact hk _ _ h
 |mapGetK kd ok zz x y=>obtain⟨i,n,l,z0,h1,h2,h0,h3,h4,k⟩:=h;exact⟨i,n,l,z0,h1,h2,h0,h3,h4,hk _ _ k⟩
 |mapSetK kd x y v=>obtain⟨i,n,l,z,h1,h2,h0,h3,h4,h5,k⟩:=h;exact⟨i,n,l,z,h1,h2,h0,h3,h4,h5,hk _ _ k⟩
 |toStr x=>obtain⟨z,rows,ns,h1,h2,h3,k⟩:=h;exact⟨z,rows,ns,h1,h2,h3,hk _ _ k⟩
 |bad=>exact h
theorem ZC.mono {f:FuncId}{zs:List ZV}{K K':ZV→ZH→Prop}(hk: ∀z H,K z H→K' z H)(h:ZC X F f zs L H K):ZC X F f zs L H K':=
 fun fl w args r e ha=>(h fl w args r e ha).mono fun v h' p=>p.mono hk
theorem z1c_ne {top:Option (Nat×Option (List Nat))}{gl:Bool}{K:ZV→ZH→Prop}{op:AOp}(h: ∀f a,op≠ .call f a)(h2: ∀x,op≠ .panic x):z1c X F L top gl S H K op=z1 L top gl S H K op:=by
 cases op<;>first|rfl|exact absurd rfl (h _ _)|exact absurd rfl (h2 _)
theorem jgl {top:Option (Nat×Option (List Nat))}{gl:Bool}{K K':ZV→ZH→Prop}{op:AOp}(hk: ∀z H,K z H→K' z H)(h:z1c X F L top gl S H K op):z1c X F L top gl S H K' op:=by
 by_cases hc: ∃f a,op= .call f a
 ·obtain⟨f,a,rfl⟩:=hc
  obtain⟨z,zs,g,vs,h1,h2,hc,h3⟩:=h;exact⟨z,zs,g,vs,h1,h2,hc,h3.mono hk⟩
 ·have hn: ∀f a,op≠ .call f a:=fun f a e=>hc ⟨f,a,e⟩
  by_cases hp: ∃x,op= .panic x
  ·obtain⟨x,rfl⟩:=hp;exact h
  have hn2: ∀x,op≠ .panic x:=fun x e=>hp ⟨x,e⟩
  rw[z1c_ne hn hn2] at h ⊢;exact z1_mono hk h
theorem jss {l:List (Nat×Nat)}{K K':ZV→ZH→Prop}(hk: ∀z H,K z H→K' z H){z:ZV}{H:ZH}(h:zown l K z H):zown l K' z H:=by
 unfold zown at h ⊢;split
 ·obtain⟨z',H',h1,k⟩:=h;exact⟨z',H',h1,hk _ _ k⟩
 ·obtain⟨z',H',h1,k⟩:=h;exact⟨z',H',h1,hk _ _ k⟩
 ·rename_i i o
  simp only at h;split
  ·rename_i cs hb
   rw[hb] at h;obtain⟨z',H',h1,k⟩:=h;exact⟨z',H',h1,hk _ _ k⟩
  ·split at h
   ·rename_i hne _ cs hb;exact absurd hb (hne cs)
   ·exact h
 ·rename_i h1 h2 h3
  split at h
  ·exact absurd rfl h1
  ·exact absurd rfl (h2 _)
  ·exact absurd rfl (h3 _ _)
  ·exact hk _ _ h
theorem jsI {K K':ZV→ZH→Prop}(hk: ∀z H,K z H→K' z H){z:ZV}{H:ZH}(h:zfrz K z H):zfrz K' z H:=by
 cases z with
 |own i g off len ex=>
  simp only[zfrz] at h ⊢;split
  ·rename_i g' k rows hb
   rw[hb] at h;exact⟨h.1,h.2.1,h.2.2.1,hk _ _ h.2.2.2⟩
  ·split at h
   ·rename_i hne _ g' k rows hb;exact absurd hb (hne _ _ _)
   ·exact h
 |_=>exact⟨h.1,hk _ _ h.2⟩
theorem jfF {dst:Option Nat}{K K':ZV→ZH→Prop}(hk: ∀z H,K z H→K' z H){z:ZV}{H:ZH}(h:zgo G dst K z H):zgo G dst K' z H:=by
 cases dst with
 |none=>exact hk _ _ h
 |some d=>
  simp only[zgo] at h ⊢
  cases hl:G.own.lookup d with
  |some l=>rw[hl] at h;exact jss hk h
  |none=>
   rw[hl] at h;simp only at h ⊢;by_cases hf:G.frz.contains d=true
   ·rw[if_pos hf] at h ⊢;exact jsI hk h
   ·rw[if_neg hf] at h ⊢;exact hk _ _ h
theorem jf3 {base:Nat}: ∀{l:List jav} {rs:List Nat} {pr:Option (List Nat)} {S:ZS} {H:ZH} {K K':ZS→ZH→Prop},(∀S' H',(∀t,t∉l.filterMap (·.dst)→S' t=S t)→K S' H'→K' S' H')→zO X F G L base rs pr l S H K→zO X F G L base rs pr l S H K'
 |[],rs,pr,S,H,K,K',hk,h=>hk S H (fun _ _=>rfl) h
 |o::l,rs,pr,S,H,K,K',hk,h=>by
  simp only[zO] at h ⊢;have next : ∀ z S' H', (∀ t, t ∉ l.filterMap (·.dst) → S' t = zput S o.dst z t) → K S' H' → K' S' H' := fun z S' H' hf k => hk S' H' (fun t ht => by
   have h1:t∉l.filterMap (·.dst):=fun q=>by
    obtain⟨p,hp,e⟩:=D0.1 q;exact ht (D0.2 ⟨p,by simp[hp],e⟩)
   rw[hf t h1]
   cases hd:o.dst with
   |none=>rfl
   |some d=>
    simp only[zput,zupd];rw[if_neg];intro e;subst e
    exact ht (D0.2 ⟨o,by simp,hd⟩)) k
  cases hw:jgV o S with
  |none=>rw[hw] at h;exact h.elim
  |some b=>
   rw[hw] at h;refine⟨fun hb=>?_,fun hb=>jf3 (next _) (h.2 hb)⟩;have h:=h.1 hb;split
   ·rw[if_pos (by assumption)] at h
    exact jgl (fun z H'=>jfF fun z H'=>jf3 (next z)) h
   ·rw[if_neg (by assumption)] at h
    obtain⟨fb,h1,h2⟩:=h;exact⟨fb,h1,jgl (fun z H'=>jfF fun z H'=>jf3 (next z)) h2⟩
/-! ### Code -/
def PW (fl L:Nat→Bool)(w:Wd)(c:jam)(S:ZS)(K:jaA→ZS→ZH→Prop)(x:jaA)(s':jal)(h':Heap):Prop:= ∃S' w',w'.h=h'∧ZRel fl L w'∧Ext w w'∧(∀t,ZR w' (S' t) (s' t))∧(∀t,t∉wrs c→S' t=S t)∧K x S' w'.H
def jhF (k1:ZS→ZH→Prop)(K:jaA→ZS→ZH→Prop):jaA→ZS→ZH→Prop
  | .normal,s,h=>k1 s h
  |x,s,h=>K x s h
def jdF (id:Nat)(K:jaA→ZS→ZH→Prop):jaA→ZS→ZH→Prop
  | .exit j,s,h=>if j=id then K .normal s h else K (.exit j) s h
  |x,s,h=>K x s h
section
variable (X:XT)(F:FuncId→Option jbq)
def ZWs (L:Nat→Bool)(c:jam)(S:ZS)(H:ZH)(K:jaA→ZS→ZH→Prop):Prop:=
  ∀(fl:Nat→Bool) (w:Wd) (s:jal),ZRel fl L w→w.H=H→(∀t,ZR w (S t) (s t))→AW X F fl c s w.h (PW fl L w c S K)
def PWr (fl L:Nat→Bool)(w:Wd)(W:List Nat)(S:ZS)(K:jaA→ZS→ZH→Prop)(x:jaA)(s':jal)(h':Heap):Prop:= ∃S' w',w'.h=h'∧ZRel fl L w'∧Ext w w'∧(∀t,ZR w' (S' t) (s' t))∧(∀t,t∉W→S' t=S t)∧K x S' w'.H
def zW (G:Gh)(L:Nat→Bool):jam→ZS→ZH→(jaA→ZS→ZH→Prop)→Prop
  | .skip,S,H,K=>K .normal S H
  | .ops l,S,H,K=>zO X F G L H.length [] none l S H (K .normal)
  | .opsD l,S,H,K=>zO X.det F G L H.length [] none l S H (K .normal)
  | .opsW l,S,H,K=>ZWs X F L (.opsW l) S H K
  | .seq a b,S,H,K=>zW G L a S H (jhF (fun S H=>zW G L b S H K) K)
  | .cond c a b,S,H,K=> ∃t,zev S c=some (.val (.bool t))∧(t=true→zW G L a S H K)∧(t=false→zW G L b S H K)
  | .block id c,S,H,K=>zW G L c S H (jdF id K)
  | .loop c,S,H,K=>ZWs X F L (.loop c) S H K
  | .exit id,S,H,K=>K (.exit id) S H
  | .scope c,S,H,K=>zW G L c S H K
  | .ret,S,H,K=>K .ret S H
  | .bad,_,_,_=>False
end
theorem PW.mono {c:jam}{K K':jaA→ZS→ZH→Prop}{x:jaA}{s':jal}{h':Heap}(p:PW fl L w c S K x s' h')(hk: ∀x S' H',(∀t,t∉wrs c→S' t=S t)→K x S' H'→K' x S' H'):PW fl L w c S K' x s' h':=by
 obtain⟨S',w',h1,h2,h3,h4,h5,h6⟩:=p;exact⟨S',w',h1,h2,h3,h4,h5,hk _ _ _ h5 h6⟩
theorem PWr.mono {W:List Nat}{K K':jaA→ZS→ZH→Prop}{x:jaA}{s':jal}{h':Heap}(p:PWr fl L w W S K x s' h')(hk: ∀x S' H',(∀t,t∉W→S' t=S t)→K x S' H'→K' x S' H'):PWr fl L w W S K' x s' h':=by
 obtain⟨S',w',h1,h2,h3,h4,h5,h6⟩:=p;exact⟨S',w',h1,h2,h3,h4,h5,hk _ _ _ h5 h6⟩
theorem js6: ∀{c:jam} {S:ZS} {H:ZH} {K K':jaA→ZS→ZH→Prop},(∀x S' H',(∀t,t∉wrs c→S' t=S t)→K x S' H'→K' x S' H')→zW X F G L c S H K→zW X F G L c S H K':=by
 intro c;induction c with
 |skip=>intro S H K K' hk h;exact hk _ _ _ (fun _ _=>rfl) h
 |ops l=>intro S H K K' hk h;exact jf3 (fun S' H' hf k=>hk _ _ _ hf k) h
 |opsD l=>intro S H K K' hk h;exact jf3 (fun S' H' hf k=>hk _ _ _ hf k) h
 |opsW l=>intro S H K K' hk h fl w s r e hS;exact (h fl w s r e hS).mono fun x s' h' p=>p.mono hk
 |seq a b iha ihb=>
  intro S H K K' hk h;refine iha (fun x S1 H1 hf k=>?_) h;have hf': ∀t,t∉wrs (.seq a b)→S1 t=S t:=fun t ht=>hf t fun q=>ht (by simp[wrs,q])
  cases x with
  |normal=>exact ihb (fun x S2 H2 hf2 k2=>hk x S2 H2 (fun t ht=>(hf2 t fun q=>ht (by simp[wrs,q])).trans (hf' t ht)) k2) k
  |exit id=>exact hk _ _ _ hf' k
  |ret=>exact hk _ _ _ hf' k
 |cond c a b iha ihb=>
  intro S H K K' hk h;obtain⟨t,h1,h2,h3⟩:=h;exact⟨t,h1,fun q=>iha (fun x S' H' hf k=>hk x S' H' (fun t ht=>hf t fun q=>ht (by simp[wrs,q])) k) (h2 q),fun q=>ihb (fun x S' H' hf k=>hk x S' H' (fun t ht=>hf t fun q=>ht (by simp[wrs,q])) k) (h3 q)⟩
 |block id a iha=>
  intro S H K K' hk h;refine iha (fun x S1 H1 hf k=>?_) h
  cases x with
  |normal=>exact hk _ _ _ hf k
  |exit j=>
   simp only[jdF] at k ⊢;split
   ·rw[if_pos (by assumption)] at k;exact hk _ _ _ hf k
   ·rw[if_neg (by assumption)] at k;exact hk _ _ _ hf k
  |ret=>exact hk _ _ _ hf k
 |loop a iha=>intro S H K K' hk h fl w s r e hS;exact (h fl w s r e hS).mono fun x s' h' p=>p.mono hk
 |exit id=>intro S H K K' hk h;exact hk _ _ _ (fun _ _=>rfl) h
 |scope a iha=>intro S H K K' hk h;exact iha hk h
 |ret=>intro S H K K' hk h;exact hk _ _ _ (fun _ _=>rfl) h
 |bad=>intro S H K K' hk h;exact h
theorem zW_frame {c:jam}{K:jaA→ZS→ZH→Prop}(h:zW X F G L c S H fun x S' H'=>(∀t,t∉wrs c→S' t=S t)→K x S' H'):zW X F G L c S H K:=js6 (fun x S' H' hf k=>k hf) h
theorem jpP: ∀{c:jam} {S:ZS} {H:ZH} {K:jaA→ZS→ZH→Prop},zW X F G L c S H K→ZWs X F L c S H K:=by
 intro c;induction c with
 |skip=>intro S H K h fl w s r e hS;exact jb6.2 ⟨S,w,rfl,r,Ext.refl w,hS,fun _ _=>rfl,e▸h⟩
 |ops l=>
  intro S H K h fl w s r e hS;subst e;rw[jcQ];have h':=jf3 (K':=fun S' H'=>(∀t,t∉l.filterMap (·.dst)→S' t=S t)∧K .normal S' H') (fun S' H' hf k=>⟨hf,k⟩) h;have hd:jhE w w.H.length w.h.length [] none ⟨[],none⟩:=⟨fun id hi=>by simp at hi,fun i hi=>by simp at hi,trivial,V2 _,fun i cs _ _ p hp=>(r.nfr i p hp).2⟩;refine (jlj l [] none ⟨[],none⟩ S s w r hS hd h').mono fun s' h1 hq=>?_
  obtain⟨S',w',q1,q2,q3,q4,q5,q6⟩:=hq;exact⟨S',w',q1,q2,q3,q4,q5,q6⟩
 |opsD l=>
  intro S H K h fl w s r e hS;subst e;rw[jcf];have h':=jf3 (K':=fun S' H'=>(∀t,t∉l.filterMap (·.dst)→S' t=S t)∧K .normal S' H') (fun S' H' hf k=>⟨hf,k⟩) h;have hd:jhE w w.H.length w.h.length [] none ⟨[],none⟩:=⟨fun id hi=>by simp at hi,fun i hi=>by simp at hi,trivial,V2 _,fun i cs _ _ p hp=>(r.nfr i p hp).2⟩;refine (jlj l [] none ⟨[],none⟩ S s w r hS hd h').mono fun s' h1 hq=>?_
  obtain⟨S',w',q1,q2,q3,q4,q5,q6⟩:=hq;exact⟨S',w',q1,q2,q3,q4,q5,q6⟩
 |opsW l=>intro S H K h;exact h
 |seq a b iha ihb=>
  intro S H K h fl w s r e hS;rw[jn9];refine (iha h fl w s r e hS).mono fun x s1 h1 p=>?_
  obtain⟨S1,w1,rfl,r1,e1,hS1,hf1,k⟩:=p;have hf': ∀t,t∉wrs (.seq a b)→S1 t=S t:=fun t ht=>hf1 t fun q=>ht (by simp[wrs,q])
  cases x with
  |normal=>
   refine (ihb k fl w1 s1 r1 rfl hS1).mono fun x s2 h2 p2=>?_
   obtain⟨S2,w2,rfl,r2,e2,hS2,hf2,k2⟩:=p2;exact⟨S2,w2,rfl,r2,e1.trans e2,hS2,fun t ht=>(hf2 t fun q=>ht (by simp[wrs,q])).trans (hf' t ht),k2⟩
  |exit id=>exact⟨S1,w1,rfl,r1,e1,hS1,hf',k⟩
  |ret=>exact⟨S1,w1,rfl,r1,e1,hS1,hf',k⟩
 |cond c a b iha ihb=>
  intro S H K h fl w s r e hS;obtain⟨t,h1,h2,h3⟩:=h;refine jb8.2 ⟨t,(jan hS h1).val_inv,fun q=>?_,fun q=>?_⟩
  ·refine (iha (h2 q) fl w s r e hS).mono fun x s1 h1 p=>?_
   obtain⟨S1,w1,q1,r1,e1,hS1,hf1,k⟩:=p;exact⟨S1,w1,q1,r1,e1,hS1,fun t ht=>hf1 t fun q=>ht (by simp[wrs,q]),k⟩
  ·refine (ihb (h3 q) fl w s r e hS).mono fun x s1 h1 p=>?_
   obtain⟨S1,w1,q1,r1,e1,hS1,hf1,k⟩:=p;exact⟨S1,w1,q1,r1,e1,hS1,fun t ht=>hf1 t fun q=>ht (by simp[wrs,q]),k⟩
 |block id a iha=>
  intro S H K h fl w s r e hS;rw[jbl];refine (iha h fl w s r e hS).mono fun x s1 h1 p=>?_
  obtain⟨S1,w1,q1,r1,e1,hS1,hf1,k⟩:=p
  cases x with
  |normal=>exact⟨S1,w1,q1,r1,e1,hS1,hf1,k⟩
  |exit j=>
   rw[jaI];simp only[jdF] at k;split
   ·rw[if_pos (by assumption)] at k;exact⟨S1,w1,q1,r1,e1,hS1,hf1,k⟩
   ·rw[if_neg (by assumption)] at k;exact⟨S1,w1,q1,r1,e1,hS1,hf1,k⟩
  |ret=>exact⟨S1,w1,q1,r1,e1,hS1,hf1,k⟩
 |loop a iha=>intro S H K h;exact h
 |exit id=>intro S H K h fl w s r e hS;exact jb7.2 ⟨S,w,rfl,r,Ext.refl w,hS,fun _ _=>rfl,e▸h⟩
 |scope a iha=>intro S H K h;exact iha h
 |ret=>intro S H K h fl w s r e hS;exact jc9.2 ⟨S,w,rfl,r,Ext.refl w,hS,fun _ _=>rfl,e▸h⟩
 |bad=>intro S H K h;exact h.elim
theorem jpO {c:jam}{K:jaA→ZS→ZH→Prop}(I:Nat→ZS→ZH→Prop)(n0:Nat)(h0:I n0 S H)(round: ∀n S' H',I n S' H'→(∀t,t∉wrs c→S' t=S t)→zW X F G L c S' H' (jhF (fun S2 H2=> ∃m,m<n∧I m S2 H2) K)):zW X F G L (.loop c) S H K:=by
 intro fl w s r e hS;refine (jvF (K:=PW fl L w (.loop c) S K) (fun n s' h'=> ∃S' w',w'.h=h'∧ZRel fl L w'∧Ext w w'∧(∀t,ZR w' (S' t) (s' t))∧(∀t,t∉wrs c→S' t=S t)∧I n S' w'.H) n0 ⟨S,w,rfl,r,Ext.refl w,hS,fun _ _=>rfl,e▸h0⟩ fun n s1 h1 p=>?_);obtain⟨S1,w1,rfl,r1,e1,hS1,hf1,hI⟩:=p;refine (jpP (round n S1 w1.H hI hf1) fl w1 s1 r1 rfl hS1).mono fun x s2 h2 p2=>?_
 obtain⟨S2,w2,rfl,r2,e2,hS2,hf2,k⟩:=p2;have hf': ∀t,t∉wrs c→S2 t=S t:=fun t ht=>(hf2 t ht).trans (hf1 t ht)
 cases x with
 |normal=>
  obtain⟨m,hm,hI2⟩:=k;exact⟨m,hm,S2,w2,rfl,r2,e1.trans e2,hS2,hf',hI2⟩
 |exit id=>exact⟨S2,w2,rfl,r2,e1.trans e2,hS2,hf',k⟩
 |ret=>exact⟨S2,w2,rfl,r2,e1.trans e2,hS2,hf',k⟩
/-! ### Rules for the loops -/
end
end Go.Proofs.YtlkapggcppcafaaGreatDoor
