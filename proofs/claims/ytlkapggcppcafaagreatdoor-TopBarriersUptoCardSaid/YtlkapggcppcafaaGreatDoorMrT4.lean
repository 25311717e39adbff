/-
  From a law's arguments to AM's: 'am_walk'.
-/
import Derived.IntWalk
import Derived.Test.YtlkapggcppcafaaGreatDoorMrT1
import Derived.Test.YtlkapggcppcafaaGreatDoorMrT3
set_option linter.unusedVariables false
set_option linter.unusedSimpArgs false
open Bool renaming false_eq_true→N6
open Iff renaming rfl→I7
open List renaming mem_append→O3,append_assoc→M8,eq_nil_of_length_eq_zero→Y9,length_append→G3,drop_append_of_le_length→I3,take_append_of_le_length→I4,take_of_length_le→I5,getElem?_append_right→N0,mem_filterMap→D0,drop_zero→W1,getElem?_set→M1,take→Q4
open Nat renaming le_refl→V2,lt_of_lt_of_le→V0,add_mul→Y0,mul_le_mul_right→E9,le_trans→V3,le_succ→I6,le_max_left→I8,le_max_right→J6,strongRecOn→I9
open Option renaming map_eq_some_iff→U5
open Option.some renaming injEq→U4
open Prod.mk renaming injEq→O4
namespace Go.Proofs.YtlkapggcppcafaaGreatDoor
section
open Go Go.RowKit
def AHas (h:Heap):(t:Ty)→List AV→t.val→Prop
  | .int k,cs,n=>cs=[.val (.int k n)]∧(Lit.int k n).wf=true
  | .bool,cs,b=>cs=[.val (.bool b)]
  | .str,cs,s=>cs=[.val (.string s)]∧s.size≤maxLen
  | .unit,cs,_=>cs=[]
  | .prod a b,cs,x=> ∃c d,cs=c++d∧AHas h a c x.1∧AHas h b d x.2
  | .slice _ e,cs,l=>((cs=[.nil]∨cs=[.hole])∧l=[])∨ ∃id row,cs=[.slice id 0 l.length l.length false e.size]∧blk h id=some row∧row.length=l.length*e.size∧l.length≤maxLen∧
      ∀i (hi:i<l.length),AHas h e ((row.drop (i*e.size)).take e.size) l[i]
theorem jcq {h:Heap}{id:Nat}{l:List AV}(e:Heap)(hb:blk h id=some l):blk (h++e) id=some l:=by rw[jcA _ (jcm hb)];exact hb
theorem AHas.ext {h:Heap}(e:Heap): ∀{t:Ty} {cs:List AV} {x:t.val},AHas h t cs x→AHas (h++e) t cs x
 | .int k,_,_,hh=>hh
 | .bool,_,_,hh=>hh
 | .str,_,_,hh=>hh
 | .unit,_,_,hh=>hh
 | .prod a b,_,_,hh=>by
  obtain⟨c,d,rfl,h1,h2⟩:=hh;exact⟨c,d,rfl,h1.ext e,h2.ext e⟩
 | .slice by_ el,_,l,hh=>by
  rcases hh with hh|⟨id,row,rfl,h1,h2,h3,h4⟩
  ·exact .inl hh
  ·exact .inr ⟨id,row,rfl,jcq e h1,h2,h3,fun i hi=>(h4 i hi).ext e⟩
theorem AHas.size {h:Heap}: ∀{t:Ty} {cs:List AV} {x:t.val},AHas h t cs x→cs.length=t.size∧ ∀v∈cs,v.isCell=true
 | .int k,_,_,hh=>by obtain⟨rfl,_⟩:=hh;exact⟨rfl,fun v hv=>by simp at hv;subst hv;rfl⟩
 | .bool,_,_,hh=>by simp only[AHas] at hh;subst hh;exact⟨rfl,fun v hv=>by simp at hv;subst hv;rfl⟩
 | .str,_,_,hh=>by obtain⟨rfl,_⟩:=hh;exact⟨rfl,fun v hv=>by simp at hv;subst hv;rfl⟩
 | .unit,_,_,hh=>by simp only[AHas] at hh;subst hh;exact⟨rfl,fun v hv=>by simp at hv⟩
 | .prod a b,_,_,hh=>by
  obtain⟨c,d,rfl,h1,h2⟩:=hh;refine⟨by simp[h1.size.1,h2.size.1],fun v hv=>?_⟩;rcases O3.1 hv with hv|hv
  ·exact h1.size.2 v hv
  ·exact h2.size.2 v hv
 | .slice by_ el,_,l,hh=>by
  rcases hh with⟨rfl|rfl,_⟩|⟨id,row,rfl,_⟩
  ·exact⟨rfl,fun v hv=>by simp at hv;subst hv;rfl⟩
  ·exact⟨rfl,fun v hv=>by simp at hv;subst hv;rfl⟩
  ·exact⟨rfl,fun v hv=>by simp at hv;subst hv;rfl⟩
theorem add_ro {B0:Nat}{m:Map}{h:Heap}{w:World}(r:Rels h.length B0 m h w){b:Base}(hb:b.b<B0)(hk:b.mp=false){row:List AV}(hone: ∀v∈row,v.isCell=true)(hc: ∀(i:Nat) v,row[i]?=some v→ ∃v',w.cell? ⟨b.b,b.off+i,none⟩=some v'∧VR m v v'):
  Rels (h++[some row]).length B0 (mset m h.length b) (h++[some row]) w∧ ∀id c,m id=some c→mset m h.length b id=some c:=by
 have hm: ∀id c,m id=some c→mset m h.length b id=some c:=fun id c hc=>by
  have:=r.dom id c hc;simp only[mset];rw[if_neg (by omega)];exact hc
 have hcase: ∀id l,blk (h++[some row]) id=some l→(id<h.length∧blk h id=some l)∨(id=h.length∧l=row):=fun id l hl=>by
  by_cases hi:id<h.length
  ·rw[jcA _ hi] at hl;exact .inl ⟨hi,hl⟩
  ·have:=jcm hl
   simp at this;obtain rfl:id=h.length:=by omega
   rw[jbk] at hl;exact .inr ⟨rfl,by injection hl with hl;exact hl.symm⟩
 have hold: ∀id c,id<h.length→mset m h.length b id=some c→m id=some c:=fun id c hi hc=>by
  simp only[mset] at hc;rw[if_neg (by omega)] at hc;exact hc
 have hnew: ∀c,mset m h.length b h.length=some c→c=b:=fun c hc=>by simp[mset] at hc;exact hc.symm
 have hdom: ∀id c,mset m h.length b id=some c→id<h.length+1:=fun id c hc=>by
  by_cases hi:id=h.length
  ·omega
  ·have:mset m h.length b id=m id:=by simp[mset,hi]
   rw[this] at hc;have:=r.dom id c hc;omega
 refine⟨⟨⟨r.rel.base,?_,?_,?_,?_,?_,?_,?_,r.rel.gl⟩,by simpa using hdom,V2 _⟩,hm⟩
 ·intro id c hc'
  by_cases hi:id=h.length
  ·subst hi;rw[hnew c hc'];exact V0 hb r.rel.base
  ·exact r.rel.lt id c (hold id c (by have:=hdom id c hc';omega) hc')
 ·intro id l c hl hc' i v hv
  rcases hcase id l hl with⟨h1,h2⟩|⟨rfl,rfl⟩
  ·obtain⟨v',h3,h4⟩:=r.rel.cell id l c h2 ⟨hold id c h1 hc'.1,hc'.2⟩ i v hv
   exact⟨v',h3,h4.mono hm⟩
  ·rw[hnew c hc'.1]
   obtain⟨v',h3,h4⟩:=hc i v hv;exact⟨v',h3,h4.mono hm⟩
 ·intro id l c hl hc'
  rcases hcase id l hl with⟨h1,h2⟩|⟨rfl,rfl⟩
  ·exact r.rel.one id l c h2 ⟨hold id c h1 hc'.1,hc'.2⟩
  ·exact hone
 ·intro id l c hid hl
  have:=jcm hl;omega
 ·intro id c hid hc'
  by_cases hi:id=h.length
  ·subst hi;rw[hnew c hc'];exact hb
  ·exact r.rel.ro id c (by have:=hdom id c hc';omega) (hold id c (by have:=hdom id c hc';omega) hc')
 ·intro i j li lj bi bj hi hj hli
  have:=jcm hli;omega
 ·intro id l c hl hc'
  rcases hcase id l hl with⟨h1,h2⟩|⟨rfl,rfl⟩
  ·obtain⟨h3,_⟩:=r.rel.mp id l c h2 ⟨hold id c h1 hc'.1,hc'.2⟩
   omega
  ·have h3:=hc'.2
   rw[hnew c hc'.1,hk] at h3;cases h3
theorem jgP {B0:Nat}{w:World}: ∀(t:Ty) (h:Heap) (m:Map),Rels h.length B0 m h w→ ∀(cs:List Value) (x:t.val),Has w B0 t cs x→
  ∃cs' e m',(∀id b,m id=some b→m' id=some b)∧Rels (h++e).length B0 m' (h++e) w∧AHas (h++e) t cs' x∧VRs m' cs' cs
 | .int k,h,m,r,cs,x,hh=>by
  obtain⟨rfl,hw⟩:=hh;exact⟨[.val (.int k x)],[],m,fun _ _ h=>h,by simpa using r,⟨rfl,hw⟩,.cons (.val rfl) .nil⟩
 | .bool,h,m,r,cs,x,hh=>by
  simp only[Has] at hh;subst hh
  exact⟨[.val (.bool x)],[],m,fun _ _ h=>h,by simpa using r,rfl,.cons (.val rfl) .nil⟩
 | .str,h,m,r,cs,x,hh=>by
  obtain⟨rfl,hw⟩:=hh;exact⟨[.val (.string x)],[],m,fun _ _ h=>h,by simpa using r,⟨rfl,hw⟩,.cons (.val rfl) .nil⟩
 | .unit,h,m,r,cs,x,hh=>by
  simp only[Has] at hh;subst hh
  exact⟨[],[],m,fun _ _ h=>h,by simpa using r,rfl,.nil⟩
 | .prod a b,h,m,r,cs,x,hh=>by
  obtain⟨c,d,rfl,h1,h2⟩:=hh;obtain⟨c',e1,m1,hm1,r1,a1,v1⟩:=jgP a h m r c x.1 h1;obtain⟨d',e2,m2,hm2,r2,a2,v2⟩:=jgP b (h++e1) m1 r1 d x.2 h2;refine⟨c'++d',e1++e2,m2,fun id b h=>hm2 id b (hm1 id b h),by rw[←M8];exact r2,⟨c',d',rfl,?_,?_⟩,(v1.mono hm2).append v2⟩
  ·rw[←M8];exact a1.ext e2
  ·rw[←M8];exact a2
 | .slice by_ el,h,m,r,cs,l,hh=>by
  obtain⟨A,cap,rfl,h1,h2,h3,h4⟩:=hh
  cases A with
  |none=>
   obtain rfl:cap=0:=h3 rfl;have hl:l=[]:=Y9 (by omega);subst hl;exact⟨[.nil],[],m,fun _ _ h=>h,by simpa using r,.inl ⟨.inl rfl,rfl⟩,.cons (.val rfl) .nil⟩
  |some ad=>
   -- the elements, one by one
   have key: ∀(n:Nat) (hn:n≤l.length),l≠[]→ ∀(b off:Nat),(∀i (h:i<l.length),∃ ecs:List Value,ecs.length=el.size∧(∀j,j<el.size→w.cell? ⟨b,off+i*el.size+j,none⟩=ecs[j]?)∧Has w B0 el ecs l[i])→
     ∃(row:List AV) (e:Heap) (m':Map),(∀id b,m id=some b→m' id=some b)∧Rels (h++e).length B0 m' (h++e) w∧row.length=n*el.size∧(∀v∈row,v.isCell=true)∧(∀i (hi:i<n),AHas (h++e) el ((row.drop (i*el.size)).take el.size) l[i])∧
      ∀(i:Nat) v,row[i]?=some v→ ∃v',w.cell? ⟨b,off+i,none⟩=some v'∧VR m' v v':=by
    intro n;induction n with
    |zero=>intro hn _ b off _;exact⟨[],[],m,fun _ _ h=>h,by simpa using r,by simp,fun v hv=>by simp at hv,fun i hi=>absurd hi (by omega),fun i v hv=>by simp at hv⟩
    |succ n ih=>
     intro hn hne b off hall;obtain⟨row,e,m',hm',r',hl',ho',ha',hc'⟩:=ih (by omega) hne b off hall;obtain⟨ecs,he1,he2,he3⟩:=hall n (by omega);obtain⟨c',e1,m1,hm1,r1,a1,v1⟩:=jgP el (h++e) m' r' ecs l[n] he3;have hsz:=a1.size;refine⟨row++c',e++e1,m1,fun id b h=>hm1 id b (hm' id b h),by rw[←M8];exact r1,by rw[G3,hl',hsz.1,Y0];omega,fun v hv=>?_,fun i hi=>?_,fun i v hv=>?_⟩
     ·rcases O3.1 hv with hv|hv
      ·exact ho' v hv
      ·exact hsz.2 v hv
     ·rw[←M8]
      by_cases hin:i<n
      ·have hle:i*el.size+el.size≤row.length:=by
        rw[hl'];have:(i+1)*el.size≤n*el.size:=E9 _ (by omega);rw[Y0] at this;omega
       rw[I3 (by omega),I4 (by rw[List.length_drop];omega)];exact (ha' i hin).ext e1
      ·obtain rfl:i=n:=by omega
       rw[←hl',I3 (V2 _),List.drop_length,List.nil_append,I5 (by omega)];exact a1
     ·by_cases hir:i<row.length
      ·rw[List.getElem?_append_left hir] at hv
       obtain⟨v',h5,h6⟩:=hc' i v hv;exact⟨v',h5,h6.mono hm1⟩
      ·rw[N0 (by omega)] at hv
       obtain⟨u,hu,hr⟩:=v1.get hv;have hlt:=(List.getElem?_eq_some_iff.1 hu).1;refine⟨u,?_,hr⟩;have:=he2 (i - row.length) (by omega);rw[hu] at this;rw[←this];congr 2
       rw[hl'];omega
   obtain⟨ab,ao,asp⟩:=ad;by_cases hne:l=[]
   ·subst hne
    exact⟨[.hole],[],m,fun _ _ h=>h,by simpa using r,.inl ⟨.inr rfl,rfl⟩,.cons .hole .nil⟩
   ·obtain⟨b,off,hA,hb,hall⟩:=h4 hne
    injection hA with hA
    injection hA with e1 e2 e3
    subst e1;subst e2;subst e3
    obtain⟨row,e,m',hm',r',hl',ho',ha',hc'⟩:=key l.length (V2 _) hne _ _ hall;obtain⟨r2,hm2⟩:=add_ro r' (b:=⟨ab,ao,cap*el.size,false⟩) hb rfl ho' hc';refine⟨[.slice (h++e).length 0 l.length l.length false el.size],e++[some row],mset m' (h++e).length ⟨ab,ao,cap*el.size,false⟩,fun id b h=>hm2 id b (hm' id b h),by rw[←M8];exact r2,.inr ⟨(h++e).length,row,rfl,?_,hl',V3 h1 h2,fun i hi=>?_⟩,.cons ?_ .nil⟩
    ·rw[←M8];exact jbk
    ·rw[←M8];exact (ha' i hi).ext _
    ·have:=VR.slice (m:=mset m' (h++e).length ⟨ab,ao,cap*el.size,false⟩) (id:=(h++e).length) (off:=0) (len:=l.length) (lb:=l.length) (ex:=false) (k:=el.size) (b:=⟨ab,ao,cap*el.size,false⟩) (o:=0) (c:=cap) (⟨by simp[mset],rfl⟩) (fun _=>rfl) (V2 _) h1 (by simp) (by simp)
     simpa using this
def aArg (st:Bool)(cs:List AV):AV:=match st with|true=> .agg cs|false=>cs.headD .no
def jo7 (Q:(t:Ty)→t.val→Prop)(h:Heap):List (Bool×Ty)→List AV→Prop
  |[],al=>al=[]
  |p::r,al=> ∃cs x al',al=aArg p.1 cs::al'∧AHas h p.2 cs x∧Q p.2 x∧jo7 Q h r al'
def jqZ:List (Bool×Ty)→Bool
  |[]=>true
  |p::r=>(p.1||p.2.size==1)&&jqZ r
theorem jo7.ext {Q:(t:Ty)→t.val→Prop}{h:Heap}(e:Heap): ∀{tys:List (Bool×Ty)} {al:List AV},jo7 Q h tys al→jo7 Q (h++e) tys al
 |[],_,hh=>hh
 |p::r,_,hh=>by
  obtain⟨cs,x,al',rfl,h1,h2,h3⟩:=hh;exact⟨cs,x,al',rfl,h1.ext e,h2,h3.ext e⟩
theorem jk8 {Q:(t:Ty)→t.val→Prop}{B0:Nat}{w:World}: ∀(tys:List (Bool×Ty)),jqZ tys=true→ ∀(h:Heap) (m:Map),Rels h.length B0 m h w→ ∀(vs:List Value),jeI Q w B0 tys vs→
  ∃al e m',(∀id b,m id=some b→m' id=some b)∧Rels (h++e).length B0 m' (h++e) w∧jo7 Q (h++e) tys al∧VRs m' al vs
 |[],_,h,m,r,vs,hh=>by
  simp only[jeI] at hh;subst hh
  exact⟨[],[],m,fun _ _ h=>h,by simpa using r,rfl,.nil⟩
 |p::tys,hok,h,m,r,vs,hh=>by
  obtain⟨cs,x,vs',rfl,h1,h2,h3⟩:=hh;simp only[jqZ,Bool.and_eq_true] at hok;obtain⟨cs',e1,m1,hm1,r1,a1,v1⟩:=jgP p.2 h m r cs x h1;obtain⟨al,e2,m2,hm2,r2,a2,v2⟩:=jk8 tys hok.2 (h++e1) m1 r1 vs' h3;refine⟨aArg p.1 cs'::al,e1++e2,m2,fun id b h=>hm2 id b (hm1 id b h),by rw[←M8];exact r2,⟨cs',x,al,rfl,?_,h2,?_⟩,.cons ?_ v2⟩
  ·rw[←M8];exact a1.ext e2
  ·rw[←M8];exact a2
  ·have v1:=v1.mono hm2
   unfold aArg jhD
   cases hst:p.1 with
   |true=>exact VRs.agg (by simpa using v1)
   |false=>
    have hsz:=a1.size.1;rw[hst] at hok;simp at hok;rw[hok.1] at hsz;match cs',cs,v1,hsz with
    |[a],[b],v1,_=>exact v1.2 0 a b rfl rfl
    |[a],[],v1,_=>have:=v1.1;simp at this
    |[a],_::_::_,v1,_=>have:=v1.1;simp at this
    |[],_,_,hsz=>simp at hsz
    |_::_::_,_,_,hsz=>simp at hsz
theorem jp8 (W:World)(hgl:GlOk W.heap.size W):Rels ([]:Heap).length W.heap.size (fun _=>none) [] W:=
 ⟨⟨V2 _,(fun id b hb=>by cases hb),(fun id l b hl hb=>by cases hb.1),(fun id l b hl hb=>by cases hb.1),(fun id l b h0 hl hb=>by cases hb.1),(fun id b h0 hb=>by cases hb),(fun i j li lj bi bj h1 h2 h3 h4 h5=>by cases h5),(fun id l b hl hb=>by cases hb.1),hgl⟩,(fun id b hb=>by cases hb),V2 _⟩
theorem Rels.below {n0 B0:Nat}{m:Map}{h:Heap}{w w':World}(r:Rels n0 B0 m h w)(hb:Below w.heap.size w w'):Rels n0 B0 m h w':=by
 have hs: ∀k,k<w.heap.size→w'.heap[k]?=w.heap[k]?:=hb.block;refine⟨⟨V3 r.rel.base hb.size,fun id b h=>V0 (r.rel.lt id b h) hb.size,fun id l b hl hbm i v hv=>?_,r.rel.one,fun id l b h0 hl hbm=>?_,r.rel.ro,r.rel.inj,fun id l b hl hbm=>?_,r.rel.gl.keep (V2 _) fun x hx=>hs x (V0 hx r.rel.base)⟩,r.dom,r.n0⟩
 ·obtain⟨v',h1,h2⟩:=r.rel.cell id l b hl hbm i v hv
  refine⟨v',?_,h2⟩;simp only[World.cell?,hs b.b (r.rel.lt id b hbm.1)] at h1 ⊢;exact h1
 ·obtain⟨h1,h2,c,e,h3,h4⟩:=r.rel.own id l b h0 hl hbm
  exact⟨h1,h2,c,e,by rw[hs b.b (r.rel.lt id b hbm.1)];exact h3,h4⟩
 ·obtain⟨h1,h2,es,ck,h3,h4⟩:=r.rel.mp id l b hl hbm
  exact⟨h1,h2,es,ck,by rw[hs b.b (r.rel.lt id b hbm.1)];exact h3,h4⟩
theorem Post.below {n0 B0:Nat}{fl:Nat→Bool}{m:Map}{h:Heap}{w w':World}(r:Rels n0 B0 m h w)(hb:Below w.heap.size w w'):Post n0 B0 fl m h w m h w':=
 ⟨r.below hb,V2 _,fun _ _=>rfl,hb.os,hb.tape,hb.output,hb.size,fun x hx _=>hb.block x hx,fun id b h1 h2=>absurd (r.dom id b h2) (by omega),fun _ _ _=>rfl,fun _ _ h=>h,fun id h1 h2=>absurd h2 (by omega)⟩
end
section
open Go Go.RowKit
def sortK (f:FuncId)(a:AV)(fl:Nat→Bool)(h:Heap):Option (AV×Heap):=none
theorem sortK_ok {f : FuncId}{a v : AV}{fl : Nat → Bool}{h h' : Heap}(he : sortK f a fl h = some (v, h')) : (∃ fn c, (Tryz.prog).funcs[f]? = some fn ∧ (fn.name == "runtime.NumGoroutine") = false ∧ fn.body = some c) ∧
  ∀n0 B0 m w (vals:Array Value),Rels n0 B0 m h w→(∀id,fl id=true→n0≤id)→VRs m [a] vals.toList→
   Calls Tryz.prog f vals w fun e w'=> ∃v' m',e= .returned v'∧Post n0 B0 fl m h w m' h' w'∧VR m' v v':=by cases he
def jnv (l:List (FuncId×Bool)):jby:=fun f args fl h=>match args with
  |[]=>match l.lookup f with
    |some b=>some (.val (.bool b),h)
    |none=>none
  |[a]=>sortK f a fl h
  |_=>none
def isRet (o:Option (AV×Heap))(b:Bool):Bool:=match o with
  |some (.val (.bool c),_)=>c==b
  |_=>false
theorem ju9 (hmix:(Tryz.prog).follows .mixedOrders=true){F:FuncId→Option jbq}(hF: ∀f af,F f=some af→jag Tryz.prog f=some af){n:Nat}(l:List (FuncId×Bool))
  (hl: ∀p∈l,isRet (call noX F n p.1 [] (fun i=>decide (([]:Heap).length≤i)) []) p.2=true):jcP Tryz.prog (jnv l):=by
 intro f args fl h v h' he;unfold jnv at he;split at he
 ·split at he
  ·rename_i b hb
   injection he with he;injection he with e1 e2;subst e1;subst e2
   have hmem:(f,b)∈l:=by
    clear hl;induction l with
    |nil=>simp at hb
    |cons p l ih=>
     obtain⟨g,c⟩:=p;rw[List.lookup_cons] at hb;split at hb
     ·rename_i hgf
      injection hb with hb
      simp at hgf;simp[hgf,hb]
     ·exact List.mem_cons_of_mem _ (ih hb)
   have hr:=hl _ hmem;unfold isRet at hr;split at hr
   ·rename_i c h2 hc
    have hcb:c=b:=by simpa using hr
    subst hcb;have hok:=jlP hmix (noX_ok (P:=Tryz.prog)) hF n _ _ _ _ _ _ hc;refine⟨hok.1,fun n0 B0 m w vals r hfl hv=>?_⟩;have hvals:vals= #[]:=by
     have:=hv.1;simp at this;exact Array.eq_empty_of_size_eq_zero this.symm
    subst hvals;have r0:Rels ([]:Heap).length w.heap.size (fun _=>none) [] w:=jp8 w (r.rel.gl.keep r.rel.base fun _ _=>rfl);refine (am_calls hmix (noX_ok (P:=Tryz.prog)) hF hc r0 VRs.nil).mono fun e W' hp=>?_
    obtain⟨v',m',rfl,hv',hbl⟩:=hp;exact⟨_,m,rfl,Post.below r hbl,by rw[hv'.lit];exact .val rfl⟩
   ·cases hr
  ·cases he
 ·exact sortK_ok he
 ·cases he
end
section
open Go Go.RowKit
/-! ### More calls, more time: the same -/
theorem jdv {C C':jby}(hC: ∀f args fl h r,C f args fl h=some r→C' f args fl h=some r){base:Nat}{fl:Nat→Bool}: ∀(l:List jav) (d:Seen) (s:jal) (h:Heap) r,jcv C base fl d l s h=some r→jcv C' base fl d l s h=some r
 |[],d,s,h,r,he=>he
 |o::l,d,s,h,r,he=>by
  simp only[jcv] at he ⊢;split at he
  ·split at he
   ·rename_i v h1 hr
    have:jd9 C' base fl d (jcw fl d o l s h) o s h=some (v,h1):=by
     unfold jd9 at hr ⊢;split at hr
     ·rename_i f args heq
      split at hr
      ·rename_i g caps hg
       exact hC _ _ _ _ _ hr
      ·cases hr
     ·exact hr
    rw[this];exact jdv hC l _ _ _ _ he
   ·cases he
  ·exact jdv hC l _ _ _ _ he
  ·cases he
theorem jiU {f f':jal→Heap→Out}(hf: ∀s h r,f s h=some r→f' s h=some r): ∀(n n':Nat) s h r,n≤n'→iter f n s h=some r→iter f' n' s h=some r
 |0,_,s,h,r,_,he=>by simp[iter] at he
 |n+1,0,s,h,r,hn,_=>absurd hn (by omega)
 |n+1,n'+1,s,h,r,hn,he=>by
  simp only[iter] at he ⊢;split at he
  ·rename_i s1 h1 h1'
   rw[hf _ _ _ h1'];exact jiU hf n n' s1 h1 r (by omega) he
  ·rename_i hne
   rw[hf _ _ _ he];obtain⟨x,s',h'⟩:=r
   cases x with
   |normal=>exact absurd he (hne s' h')
   |exit id=>rfl
   |ret=>rfl
theorem jdL {C C':jby}(hC: ∀f args fl h r,C f args fl h=some r→C' f args fl h=some r){n n':Nat}(hn:n≤n'){fl:Nat→Bool}: ∀(c:jam) (s:jal) (h:Heap) r,exec C n fl c s h=some r→exec C' n' fl c s h=some r:=by
 intro c;induction c with
 |skip=>intro s h r he;exact he
 |ops l=>
  intro s h r he;simp only[exec] at he ⊢;split at he
  ·rename_i s1 h1 h1'
   rw[jdv hC _ _ _ _ _ h1'];exact he
  ·cases he
 |opsD l=>
  intro s h r he;simp only[exec] at he ⊢;split at he
  ·rename_i s1 h1 h1'
   rw[jdv hC _ _ _ _ _ h1'];exact he
  ·cases he
 |opsW l=>
  intro s h r he;simp only[exec] at he ⊢;split at he
  ·rename_i s1 h1 h1'
   rw[jdv hC _ _ _ _ _ h1'];exact he
  ·cases he
 |seq a b iha ihb=>
  intro s h r he;simp only[exec] at he ⊢;split at he
  ·rename_i s1 h1 h1'
   rw[iha _ _ _ h1'];exact ihb _ _ _ he
  ·rename_i hne
   rw[iha _ _ _ he];obtain⟨x,s',h'⟩:=r
   cases x with
   |normal=>exact absurd he (hne s' h')
   |exit id=>rfl
   |ret=>rfl
 |cond c a b iha ihb=>
  intro s h r he;simp only[exec] at he ⊢;split at he
  ·rename_i t ht
   split at he
   ·rename_i h1;rw[if_pos h1];exact iha _ _ _ he
   ·rename_i h1;rw[if_neg h1];exact ihb _ _ _ he
  ·cases he
 |block id a iha=>
  intro s h r he;simp only[exec] at he ⊢;split at he
  ·rename_i j s1 h1 h1'
   rw[iha _ _ _ h1'];exact he
  ·rename_i hne
   rw[iha _ _ _ he];obtain⟨x,s',h'⟩:=r
   cases x with
   |normal=>rfl
   |exit j=>exact absurd he (hne j s' h')
   |ret=>rfl
 |loop a iha=>
  intro s h r he;simp only[exec] at he ⊢;exact jiU (fun s h r=>iha s h r) n n' s h r hn he
 |exit id=>intro s h r he;exact he
 |scope a iha=>intro s h r he;exact iha s h r he
 |ret=>intro s h r he;exact he
 |bad=>intro s h r he;exact he
theorem jhf {X:jby}{F:FuncId→Option jbq}: ∀(n:Nat) f args fl h r,call X F n f args fl h=some r→call X F (n+1) f args fl h=some r
 |0,f,args,fl,h,r,he=>by
  simp only[call] at he ⊢;rw[he]
 |n+1,f,args,fl,h,r,he=>by
  rw[call] at he ⊢;split at he
  ·exact he
  ·split at he
   ·split at he
    ·rename_i hl
     split at he
     ·rename_i s' h' hx
      rw[if_pos hl,jdL (jhf n) (I6 n) _ _ _ _ hx];exact he
     ·rename_i s' h' hx
      rw[if_pos hl,jdL (jhf n) (I6 n) _ _ _ _ hx];exact he
     ·cases he
    ·cases he
   ·cases he
theorem jdM {X:jby}{F:FuncId→Option jbq}{n n':Nat}(h:n≤n'): ∀f args fl hp r,call X F n f args fl hp=some r→call X F n' f args fl hp=some r:=by
 induction h with
 |refl=>exact fun _ _ _ _ _ h=>h
 |step _ ih=>exact fun f args fl hp r he=>jhf _ _ _ _ _ _ (ih f args fl hp r he)
/-! ### Statements about runs -/
section
variable (X:jby)(F:FuncId→Option jbq)
def AC0 (f:FuncId)(args:List AV)(fl:Nat→Bool)(h:Heap)(K:AV→Heap→Prop):Prop:= ∃n v h',call X F n f args fl h=some (v,h')∧K v h'
def AW0 (fl:Nat→Bool)(c:jam)(s:jal)(h:Heap)(K:jaA→jal→Heap→Prop):Prop:= ∃n x s' h',exec (call X F n) n fl c s h=some (x,s',h')∧K x s' h'
def AO0 (base:Nat)(fl:Nat→Bool)(d:Seen)(l:List jav)(s:jal)(h:Heap)(K:jal→Heap→Prop):Prop:= ∃n s' h',jcv (call X F n) base fl d l s h=some (s',h')∧K s' h'
def A10 (top:Option (Nat×Option (List Nat)))(fl:Nat→Bool)(o:AOp)(s:jal)(h:Heap)(K:AV→Heap→Prop):Prop:=match o with
  | .call f args=> ∃g vs,callee (f.ev s) (args.map (·.ev s))=some (g,vs)∧AC0 X F g vs fl h K
  |o=> ∃v h',jah top fl s h o=some (v,h')∧K v h'
end
variable {X:jby}{F:FuncId→Option jbq}{fl:Nat→Bool}{s:jal}{h:Heap}
theorem AC0.mono {f:FuncId}{args:List AV}{K K':AV→Heap→Prop}(hc:AC0 X F f args fl h K)(hk: ∀v h',K v h'→K' v h'):AC0 X F f args fl h K':=
 let ⟨n,v,h',e,k⟩:=hc;⟨n,v,h',e,hk v h' k⟩
theorem AW0.mono {c:jam}{K K':jaA→jal→Heap→Prop}(hc:AW0 X F fl c s h K)(hk: ∀x s' h',K x s' h'→K' x s' h'):AW0 X F fl c s h K':=
 let ⟨n,x,s',h',e,k⟩:=hc;⟨n,x,s',h',e,hk x s' h' k⟩
theorem AC0.enter {f:FuncId}{af:jbq}{args:List AV}{K:AV→Heap→Prop}(hx:X f args fl h=none)(hf:F f=some af)(hl:args.length≤af.n)
  (hb:AW0 X F fl af.body (fun t=>args.getD t .no) h fun x s' h'=>(x= .normal∨x= .ret)∧ ∃v,jaR af.results s' h'=some v∧K v h'):AC0 X F f args fl h K:=by
 obtain⟨n,x,s',h',e,hxx,v,hr,k⟩:=hb;refine⟨n+1,v,h',?_,k⟩;simp only[call,hx,hf,hl,if_true,e];rcases hxx with rfl|rfl<;>simp[hr]
theorem AC0.const {f:FuncId}{args:List AV}{K:AV→Heap→Prop}{v:AV}{h':Heap}(hx:X f args fl h=some (v,h'))(k:K v h'):AC0 X F f args fl h K:=⟨0,v,h',hx,k⟩
section
variable {K:jaA→jal→Heap→Prop}
theorem AW_skip0:AW0 X F fl .skip s h K↔K .normal s h:=⟨fun⟨n,x,s',h',e,k⟩=>by simp only[exec,U4,O4] at e;obtain⟨rfl,rfl,rfl⟩:=e;exact k,fun k=>⟨0,_,_,_,rfl,k⟩⟩
theorem AW_exit0 {id:Nat}:AW0 X F fl (.exit id) s h K↔K (.exit id) s h:=⟨fun⟨n,x,s',h',e,k⟩=>by simp only[exec,U4,O4] at e;obtain⟨rfl,rfl,rfl⟩:=e;exact k,fun k=>⟨0,_,_,_,rfl,k⟩⟩
theorem AW_ret0:AW0 X F fl .ret s h K↔K .ret s h:=⟨fun⟨n,x,s',h',e,k⟩=>by simp only[exec,U4,O4] at e;obtain⟨rfl,rfl,rfl⟩:=e;exact k,fun k=>⟨0,_,_,_,rfl,k⟩⟩
theorem jvC {c:jam}:AW0 X F fl (.scope c) s h K↔AW0 X F fl c s h K:=I7
theorem jvE {l:List jav}:AW0 X F fl (.ops l) s h K↔AO0 X F h.length fl ⟨[],none⟩ l s h (K .normal):=by
 constructor
 ·rintro⟨n,x,s',h',e,k⟩
  simp only[exec] at e;split at e
  ·rename_i s1 h1 h1'
   simp only[U4,O4] at e;obtain⟨rfl,rfl,rfl⟩:=e;exact⟨n,_,_,h1',k⟩
  ·cases e
 ·rintro⟨n,s',h',e,k⟩
  exact⟨n,.normal,s',h',by simp only[exec,e],k⟩
theorem AW_opsW0 {l:List jav}:AW0 X F fl (.opsW l) s h K↔AO0 X F h.length fl ⟨List.range h.length,none⟩ l s h (K .normal):=by
 constructor
 ·rintro⟨n,x,s',h',e,k⟩
  simp only[exec] at e;split at e
  ·rename_i s1 h1 h1'
   simp only[U4,O4] at e;obtain⟨rfl,rfl,rfl⟩:=e;exact⟨n,_,_,h1',k⟩
  ·cases e
 ·rintro⟨n,s',h',e,k⟩
  exact⟨n,.normal,s',h',by simp only[exec,e],k⟩
theorem jar {k1:jal→Heap→Prop}:jaA.then k1 K .normal s h=k1 s h:=rfl
theorem ja5 {k1:jal→Heap→Prop}{id:Nat}:jaA.then k1 K (.exit id) s h=K (.exit id) s h:=rfl
theorem jbH {k1:jal→Heap→Prop}:jaA.then k1 K .ret s h=K .ret s h:=rfl
theorem jaG {id:Nat}:jaA.inBlk id K .normal s h=K .normal s h:=rfl
theorem jaI {id j:Nat}:jaA.inBlk id K (.exit j) s h=if j=id then K .normal s h else K (.exit j) s h:=rfl
theorem jbe {id:Nat}:jaA.inBlk id K .ret s h=K .ret s h:=rfl
theorem AW_seq0 {a b:jam}:AW0 X F fl (.seq a b) s h K↔AW0 X F fl a s h (jaA.then (fun s h=>AW0 X F fl b s h K) K):=by
 constructor
 ·rintro⟨n,x,s',h',e,k⟩
  simp only[exec] at e;split at e
  ·rename_i s1 h1 h1'
   exact⟨n,.normal,s1,h1,h1',n,x,s',h',e,k⟩
  ·rename_i hne
   refine⟨n,x,s',h',e,?_⟩
   cases x with
   |normal=>exact absurd e (hne s' h')
   |exit id=>exact k
   |ret=>exact k
 ·rintro⟨n,x,s1,h1,e,k⟩
  cases x with
  |normal=>
   obtain⟨n2,x,s',h',e2,k⟩:=k;refine⟨max n n2,x,s',h',?_,k⟩;simp only[exec];rw[jdL (jdM (I8 n n2)) (I8 n n2) _ _ _ _ e];exact jdL (jdM (J6 n n2)) (J6 n n2) _ _ _ _ e2
  |exit id=>exact⟨n,.exit id,s1,h1,by simp only[exec,e],k⟩
  |ret=>exact⟨n,.ret,s1,h1,by simp only[exec,e],k⟩
theorem AW_cond0 {c:Opd}{a b:jam}:AW0 X F fl (.cond c a b) s h K↔ ∃t,c.ev s= .val (.bool t)∧(t=true→AW0 X F fl a s h K)∧(t=false→AW0 X F fl b s h K):=by
 constructor
 ·rintro⟨n,x,s',h',e,k⟩
  simp only[exec] at e;split at e
  ·rename_i t ht
   refine⟨t,ht,fun h1=>?_,fun h1=>?_⟩
   ·subst h1;exact⟨n,x,s',h',by simpa using e,k⟩
   ·subst h1;exact⟨n,x,s',h',by simpa using e,k⟩
  ·cases e
 ·rintro⟨t,ht,h1,h2⟩
  cases t with
  |true=>
   obtain⟨n,x,s',h',e,k⟩:=h1 rfl;exact⟨n,x,s',h',by simp only[exec,ht,if_true];exact e,k⟩
  |false=>
   obtain⟨n,x,s',h',e,k⟩:=h2 rfl;exact⟨n,x,s',h',by simp only[exec,ht,N6,if_false];exact e,k⟩
theorem jvG {id:Nat}{c:jam}:AW0 X F fl (.block id c) s h K↔AW0 X F fl c s h (jaA.inBlk id K):=by
 constructor
 ·rintro⟨n,x,s',h',e,k⟩
  simp only[exec] at e;split at e
  ·rename_i j s1 h1 h1'
   refine⟨n,.exit j,s1,h1,h1',?_⟩;rw[jaI];split at e
   ·rename_i hj
    simp only[U4,O4] at e;obtain⟨rfl,rfl,rfl⟩:=e;rw[if_pos hj];exact k
   ·rename_i hj
    simp only[U4,O4] at e;obtain⟨rfl,rfl,rfl⟩:=e;rw[if_neg hj];exact k
  ·rename_i hne
   refine⟨n,x,s',h',e,?_⟩
   cases x with
   |normal=>exact k
   |exit j=>exact absurd e (hne j s' h')
   |ret=>exact k
 ·rintro⟨n,x,s1,h1,e,k⟩
  cases x with
  |normal=>exact⟨n,.normal,s1,h1,by simp only[exec,e],k⟩
  |exit j=>
   rw[jaI] at k;by_cases hj:j=id
   ·rw[if_pos hj] at k
    exact⟨n,.normal,s1,h1,by simp only[exec,e];rw[if_pos hj],k⟩
   ·rw[if_neg hj] at k
    exact⟨n,.exit j,s1,h1,by simp only[exec,e];rw[if_neg hj],k⟩
  |ret=>exact⟨n,.ret,s1,h1,by simp only[exec,e],k⟩
theorem AW_loop0 {c:jam}(I:Nat→jal→Heap→Prop)(n0:Nat)(h0:I n0 s h)(round: ∀n s h,I n s h→AW0 X F fl c s h (jaA.then (fun s' h'=> ∃m,m<n∧I m s' h') K)):AW0 X F fl (.loop c) s h K:=by
 have key: ∀n s h,I n s h→ ∃k x s' h',iter (exec (call X F k) k fl c) k s h=some (x,s',h')∧K x s' h':=by
  intro n;induction n using I9 with
  |_ n ih=>
   intro s h hI;obtain⟨k,x,s1,h1,e,hk⟩:=round n s h hI
   cases x with
   |normal=>
    obtain⟨m,hm,hI1⟩:=hk;obtain⟨k2,x,s',h',e2,hk2⟩:=ih m hm s1 h1 hI1;refine⟨max k k2+1,x,s',h',?_,hk2⟩;simp only[iter];rw[jdL (jdM (show k≤max k k2+1 by omega)) (by omega) _ _ _ _ e];exact jiU (fun s h r=>jdL (jdM (show k2≤max k k2+1 by omega)) (by omega) c s h r) k2 (max k k2) _ _ _ (by omega) e2
   |exit id=>exact⟨k+1,.exit id,s1,h1,by simp only[iter];rw[jdL (jdM (I6 k)) (I6 k) _ _ _ _ e],hk⟩
   |ret=>exact⟨k+1,.ret,s1,h1,by simp only[iter];rw[jdL (jdM (I6 k)) (I6 k) _ _ _ _ e],hk⟩
 obtain⟨k,x,s',h',e,hk⟩:=key n0 s h h0;exact⟨k,x,s',h',e,hk⟩
end
section
variable {K:jal→Heap→Prop}{base:Nat}{d:Seen}{l:List jav}
theorem AO_nil0:AO0 X F base fl d [] s h K↔K s h:=⟨fun⟨n,s',h',e,k⟩=>by simp only[jcv,U4,O4] at e;obtain⟨rfl,rfl⟩:=e;exact k,fun k=>⟨0,_,_,rfl,k⟩⟩
theorem AO_one0 {o:jav}(hw:jbu o s=some true)(hk:A10 X F (if o.iso then none else some (base,d.pr)) (jbB fl o (jcw fl d o l s h)) o.op s h fun v h'=>AO0 X F base fl (d.with o (jcw fl d o l s h) s) l (put s o.dst v) h' K):AO0 X F base fl d (o::l) s h K:=by
 have key: ∃n v h',jd9 (call X F n) base fl d (jcw fl d o l s h) o s h=some (v,h')∧AO0 X F base fl (d.with o (jcw fl d o l s h) s) l (put s o.dst v) h' K:=by
  unfold A10 at hk;split at hk
  ·rename_i f args heq
   obtain⟨g,vs,hg,n,v,h',e,k⟩:=hk;exact⟨n,v,h',by unfold jd9;rw[heq];simp only[hg];exact e,k⟩
  ·rename_i op hne
   obtain⟨v,h',e,k⟩:=hk;refine⟨0,v,h',?_,k⟩;unfold jd9;split
   ·rename_i f args heq;exact absurd heq (hne f args)
   ·exact e
 obtain⟨n,v,h1,e,n2,s',h',e2,k⟩:=key;refine⟨max n n2,s',h',?_,k⟩;simp only[jcv,hw];have:jd9 (call X F (max n n2)) base fl d (jcw fl d o l s h) o s h=some (v,h1):=by
  unfold jd9 at e ⊢;split at e
  ·rename_i f args heq
   split at e
   ·rename_i g caps hg
    exact jdM (I8 n n2) _ _ _ _ _ e
   ·cases e
  ·exact e
 rw[this];exact jdv (jdM (J6 n n2)) _ _ _ _ _ e2
theorem AO_skip0 {o:jav}(hw:jbu o s=some false)(hk:AO0 X F base fl d l (put s o.dst .no) h K):AO0 X F base fl d (o::l) s h K:=by
 obtain⟨n,s',h',e,k⟩:=hk;exact⟨n,s',h',by simp only[jcv,hw];exact e,k⟩
end
/-! ### The same, told by K alone -/
theorem jc4 {C C':jeH}(hC: ∀f args fl h (K K':AV→Heap→Prop),(∀v h,K v h→K' v h)→C f args fl h K→C' f args fl h K'){base:Nat}{fl:Nat→Bool}: ∀(l:List jav) (d:Seen) (s:jal) (h:Heap) (K K':jal→Heap→Prop),(∀s h,K s h→K' s h)→jbX C base fl d l s h K→jbX C' base fl d l s h K'
 |[],d,s,h,K,K',hk,hp=>hk s h hp
 |o::l,d,s,h,K,K',hk,hp=>by
  simp only[jbX] at hp ⊢;split at hp
  ·unfold jfX at hp ⊢
   split at hp
   ·split at hp
    ·exact hC _ _ _ _ _ _ (fun v h' hq=>jc4 hC l _ _ _ K K' hk hq) hp
    ·exact hp.elim
   ·exact hC _ _ _ _ _ _ (fun v h' hq=>jc4 hC l _ _ _ K K' hk hq) hp
   ·obtain⟨v,h',e,hq⟩:=hp
    exact⟨v,h',e,jc4 hC l _ _ _ K K' hk hq⟩
  ·exact jc4 hC l _ _ _ K K' hk hp
  ·exact hp.elim
theorem jit {k1 k2:jal→Heap→Prop}{K K':jaA→jal→Heap→Prop}(h1: ∀s h,k1 s h→k2 s h)(h2: ∀x s h,K x s h→K' x s h)(x:jaA)(s:jal)(h:Heap)(hk:jaA.then k1 K x s h):jaA.then k2 K' x s h:=by
 cases x with
 |normal=>exact h1 s h hk
 |exit id=>exact h2 _ s h hk
 |ret=>exact h2 _ s h hk
theorem jrl {id:Nat}{K K':jaA→jal→Heap→Prop}(h2: ∀x s h,K x s h→K' x s h)(x:jaA)(s:jal)(h:Heap)(hk:jaA.inBlk id K x s h):jaA.inBlk id K' x s h:=by
 cases x with
 |normal=>exact h2 _ s h hk
 |exit j=>
  simp only[jaA.inBlk] at hk ⊢;split at hk
  ·rename_i hj;rw[if_pos hj];exact h2 _ s h hk
  ·rename_i hj;rw[if_neg hj];exact h2 _ s h hk
 |ret=>exact h2 _ s h hk
theorem jre {f f':jal→Heap→OutP}(hf: ∀s h (K K':jaA→jal→Heap→Prop),(∀x s h,K x s h→K' x s h)→f s h K→f' s h K'){s:jal}{h:Heap}{K K':jaA→jal→Heap→Prop}(hk: ∀x s h,K x s h→K' x s h)(hp:piter f s h K):piter f' s h K':=
 fun I hI=>hp I fun s h hb=>hI s h (hf s h _ _ (fun x s h=>jit (fun _ _ h=>h) hk x s h) hb)
theorem jdy {Cd Cd':Nat→jby}{C C':jeH}(hCd: ∀k,∃ k',Cd k=Cd' k')(hC: ∀f args fl h (K K':AV→Heap→Prop),(∀v h,K v h→K' v h)→C f args fl h K→C' f args fl h K'): ∀(c:jam) (fl:Nat→Bool) s h (K K':jaA→jal→Heap→Prop),(∀x s h,K x s h→K' x s h)→jdc Cd C c fl s h K→jdc Cd' C' c fl s h K':=by
 intro c;induction c with
 |skip=>intro fl s h K K' hk hp;exact hk _ _ _ hp
 |ops l=>intro fl s h K K' hk hp;exact jc4 hC _ _ _ _ _ _ (fun s h=>hk _ s h) hp
 |opsD l=>
  intro fl s h K K' hk hp;obtain⟨n,s',h',e,k⟩:=hp;obtain⟨n',hn⟩:=hCd n;exact⟨n',s',h',by rw[←hn];exact e,hk _ _ _ k⟩
 |opsW l=>
  intro fl s h K K' hk hp;obtain⟨n,s',h',e,k⟩:=hp;obtain⟨n',hn⟩:=hCd n;exact⟨n',s',h',by rw[←hn];exact e,hk _ _ _ k⟩
 |seq a b iha ihb=>intro fl s h K K' hk hp;exact iha fl s h _ _ (fun x s h=>jit (fun s h=>ihb fl s h K K' hk) hk x s h) hp
 |cond c a b iha ihb=>
  intro fl s h K K' hk hp;obtain⟨t,ht,h1,h2⟩:=hp;exact⟨t,ht,fun e=>iha fl s h K K' hk (h1 e),fun e=>ihb fl s h K K' hk (h2 e)⟩
 |block id a iha=>intro fl s h K K' hk hp;exact iha fl s h _ _ (fun x s h=>jrl hk x s h) hp
 |loop a iha=>intro fl s h K K' hk hp;exact jre (fun s h K K' hk hp=>iha fl s h K K' hk hp) hk hp
 |exit id=>intro fl s h K K' hk hp;exact hk _ _ _ hp
 |scope a iha=>intro fl s h K K' hk hp;exact iha fl s h K K' hk hp
 |ret=>intro fl s h K K' hk hp;exact hk _ _ _ hp
 |bad=>intro fl s h K K' hk hp;exact hp.elim
theorem ju3 {rs:List ARes}{K K':AV→Heap→Prop}(hk: ∀v h,K v h→K' v h)(x:jaA)(s:jal)(h:Heap)(hp:endK rs K x s h):endK rs K' x s h:=by
 cases x with
 |normal=>obtain⟨v,e,k⟩:=hp;exact⟨v,e,hk v h k⟩
 |exit id=>exact hp.elim
 |ret=>obtain⟨v,e,k⟩:=hp;exact⟨v,e,hk v h k⟩
theorem jkk {pn:PX}{X:jby}{F:FuncId→Option jbq}{C C':jeH}(hC: ∀f args fl h (K K':AV→Heap→Prop),(∀v h,K v h→K' v h)→C f args fl h K→C' f args fl h K'){f:Option FuncId}{args:List AV}{fl:Nat→Bool}{h:Heap}{K K':AV→Heap→Prop}(hk: ∀v h,K v h→K' v h)(hp:jor pn X F C f args fl h K):jor pn X F C' f args fl h K':=by
 cases f with
 |none=>exact hp
 |some f=>
 unfold jor at hp ⊢;simp only at hp ⊢;rcases hp with⟨K0,hy,h0⟩|hp
 ·exact .inl ⟨K0,hy,fun v h' k=>hk v h' (h0 v h' k)⟩
 right;split at hp
 ·exact hk _ _ hp
 ·split at hp
  ·exact⟨hp.1,jdy (fun k=>⟨k,rfl⟩) hC _ _ _ _ _ _ (fun x s h=>ju3 hk x s h) hp.2⟩
  ·exact hp.elim
theorem jcz {pn:PX}{X:jby}{F:FuncId→Option jbq}(f:Option FuncId)(args:List AV)(fl:Nat→Bool)(h:Heap)(K K':AV→Heap→Prop)(hk: ∀v h,K v h→K' v h)(hp:jgu pn X F f args fl h K):jgu pn X F f args fl h K':=by
 intro C hC;exact hp (fun f args fl h K=> ∀K',(∀v h,K v h→K' v h)→C f args fl h K') (fun f args fl h K hq K' hk=>hC f args fl h K' (jkk (fun f args fl h K K' hk hq=>hq K' hk) hk hq)) K' hk
theorem jeA {pn:PX}{X:jby}{F:FuncId→Option jbq}{f:Option FuncId}{args:List AV}{fl:Nat→Bool}{h:Heap}{K:AV→Heap→Prop}(hp:jor pn X F (jgu pn X F) f args fl h K):jgu pn X F f args fl h K:=by
 intro C hC;exact hC f args fl h K (jkk (fun f args fl h K K' hk hq=>jcz f args fl h K K' hk hq C hC) (fun _ _ h=>h) hp)
theorem jlx {pn:PX}{X:jby}{F:FuncId→Option jbq}: ∀(n:Nat) f args fl h (K:AV→Heap→Prop),jhw (call X F n) (some f) args fl h K→jgu pn X F (some f) args fl h K
 |0,f,args,fl,h,K,⟨v,h',e,k⟩=>by
  simp only[call] at e;refine jeA (.inr ?_);rw[e];exact k
 |n+1,f,args,fl,h,K,⟨v,h',e,k⟩=>by
  refine jeA (.inr ?_);simp only[call] at e;split at e
  ·rename_i r hr
   injection e with e;subst e
   exact k
  ·rename_i hr
   split at e
   ·rename_i af haf
    split at e
    ·rename_i hl
     refine⟨hl,?_⟩;have go: ∀x s' h2,exec (call X F n) n fl af.body (fun t=>args.getD t .no) h=some (x,s',h2)→endK af.results K x s' h2→jdc (call X F) (jgu pn X F) af.body fl (fun t=>args.getD t .no) h (endK af.results K):=fun x s' h2 he hk=>
      jdy (fun _=>⟨n,rfl⟩) (fun f args fl h K K' hk hp=>jcz f args fl h K K' hk (match f,hp with|some f,hp=>jlx n f args fl h K hp)) _ _ _ _ _ _ (fun _ _ _ h=>h) (jqe _ fl _ h x s' h2 _ he hk)
     split at e
     ·rename_i s' h2 hex
      obtain⟨u,hu,hp⟩:=U5.1 e;injection hp with e1 e2;subst e1;subst e2
      exact go .normal s' _ hex ⟨_,hu,k⟩
     ·rename_i s' h2 hex
      obtain⟨u,hu,hp⟩:=U5.1 e;injection hp with e1 e2;subst e1;subst e2
      exact go .ret s' _ hex ⟨_,hu,k⟩
     ·cases e
    ·cases e
   ·cases e
/-! ### Either way of telling -/
structure XT where
  x:jby
  nd:Bool
  pn:PX
instance:Coe jby XT:=⟨fun x=>⟨x,false,PX.no⟩⟩
def XT.det (X:XT):XT:=⟨X.x,false,X.pn⟩
section
variable (X:XT)(F:FuncId→Option jbq)
def AC (f:FuncId)(args:List AV)(fl:Nat→Bool)(h:Heap)(K:AV→Heap→Prop):Prop:=match X.nd with
  |false=>AC0 X.x F f args fl h K
  |true=>jgu X.pn X.x F (some f) args fl h K
def AW (fl:Nat→Bool)(c:jam)(s:jal)(h:Heap)(K:jaA→jal→Heap→Prop):Prop:=match X.nd with
  |false=>AW0 X.x F fl c s h K
  |true=>jdc (call X.x F) (jgu X.pn X.x F) c fl s h K
def AO (base:Nat)(fl:Nat→Bool)(d:Seen)(l:List jav)(s:jal)(h:Heap)(K:jal→Heap→Prop):Prop:=match X.nd with
  |false=>AO0 X.x F base fl d l s h K
  |true=>jbX (jgu X.pn X.x F) base fl d l s h K
def A1 (top:Option (Nat×Option (List Nat)))(fl:Nat→Bool)(o:AOp)(s:jal)(h:Heap)(K:AV→Heap→Prop):Prop:=match o with
  | .call f args=> ∃g vs,callee (f.ev s) (args.map (·.ev s))=some (g,vs)∧AC X F g vs fl h K
  | .panic x=>X.nd=true∧jgu X.pn X.x F none [x.ev s] fl h K
  |o=> ∃v h',jah top fl s h o=some (v,h')∧K v h'
end
variable {X:XT}{F:FuncId→Option jbq}{fl:Nat→Bool}{s:jal}{h:Heap}
theorem AC.lift {f:FuncId}{args:List AV}{K:AV→Heap→Prop}(hc:AC X.det F f args fl h K):AC X F f args fl h K:=by
 obtain⟨x,nd⟩:=X
 cases nd with
 |false=>exact hc
 |true=>obtain⟨n,v,h',e,k⟩:=hc;exact jlx n f args fl h K ⟨v,h',e,k⟩
theorem AC.mono {f:FuncId}{args:List AV}{K K':AV→Heap→Prop}(hc:AC X F f args fl h K)(hk: ∀v h',K v h'→K' v h'):AC X F f args fl h K':=by
 obtain⟨x,nd⟩:=X
 cases nd with
 |false=>exact AC0.mono hc hk
 |true=>exact jcz _ _ _ _ _ _ hk hc
theorem AW.mono {c:jam}{K K':jaA→jal→Heap→Prop}(hc:AW X F fl c s h K)(hk: ∀x s' h',K x s' h'→K' x s' h'):AW X F fl c s h K':=by
 obtain⟨x,nd⟩:=X
 cases nd with
 |false=>exact AW0.mono hc hk
 |true=>exact jdy (fun k=>⟨k,rfl⟩) jcz _ _ _ _ _ _ hk hc
theorem AO.mono {l:List jav}{base:Nat}{d:Seen}{K K':jal→Heap→Prop}(hc:AO X F base fl d l s h K)(hk: ∀s' h',K s' h'→K' s' h'):AO X F base fl d l s h K':=by
 obtain⟨x,nd⟩:=X
 cases nd with
 |false=>obtain⟨n,s',h',e,k⟩:=hc;exact⟨n,s',h',e,hk _ _ k⟩
 |true=>exact jc4 jcz _ _ _ _ _ _ hk hc
theorem AC.enter {f:FuncId}{af:jbq}{args:List AV}{K:AV→Heap→Prop}(hx:X.x f args fl h=none)(hf:F f=some af)(hl:args.length≤af.n)
  (hb:AW X F fl af.body (fun t=>args.getD t .no) h fun x s' h'=>(x= .normal∨x= .ret)∧ ∃v,jaR af.results s' h'=some v∧K v h'):AC X F f args fl h K:=by
 obtain⟨x,nd⟩:=X
 cases nd with
 |false=>exact AC0.enter hx hf hl hb
 |true=>
  refine jeA (.inr ?_);simp only at hx;simp only[hx,hf];refine⟨hl,jdy (fun k=>⟨k,rfl⟩) jcz _ _ _ _ _ _ (fun x s h hk=>?_) hb⟩;obtain⟨h1,v,e,k⟩:=hk;rcases h1 with rfl|rfl<;>exact⟨v,e,k⟩
theorem AC.const {f:FuncId}{args:List AV}{K:AV→Heap→Prop}{v:AV}{h':Heap}(hx:X.x f args fl h=some (v,h'))(k:K v h'):AC X F f args fl h K:=by
 obtain⟨x,nd⟩:=X
 cases nd with
 |false=>exact AC0.const hx k
 |true=>exact jlx 0 f args fl h K ⟨v,h',hx,k⟩
theorem AC.known {f:FuncId}{args:List AV}{K K0:AV→Heap→Prop}(hn:X.nd=true)(hy:X.pn.y f args fl h K0)(hk: ∀v h',K0 v h'→K v h'):AC X F f args fl h K:=by
 obtain⟨x,nd,pn⟩:=X;simp only at hn;subst hn
 exact jeA (.inl ⟨K0,hy,hk⟩)
section
variable {K:jaA→jal→Heap→Prop}
theorem jb6:AW X F fl .skip s h K↔K .normal s h:=by
 obtain⟨x,nd⟩:=X
 cases nd
 ·exact AW_skip0
 ·exact I7
theorem jb7 {id:Nat}:AW X F fl (.exit id) s h K↔K (.exit id) s h:=by
 obtain⟨x,nd⟩:=X
 cases nd
 ·exact AW_exit0
 ·exact I7
theorem jc9:AW X F fl .ret s h K↔K .ret s h:=by
 obtain⟨x,nd⟩:=X
 cases nd
 ·exact AW_ret0
 ·exact I7
theorem jbL {c:jam}:AW X F fl (.scope c) s h K↔AW X F fl c s h K:=by
 obtain⟨x,nd⟩:=X
 cases nd
 ·exact jvC
 ·exact I7
theorem jcQ {l:List jav}:AW X F fl (.ops l) s h K↔AO X F h.length fl ⟨[],none⟩ l s h (K .normal):=by
 obtain⟨x,nd⟩:=X
 cases nd
 ·exact jvE
 ·exact I7
theorem jcf {l:List jav}:AW X F fl (.opsD l) s h K↔AO X.det F h.length fl ⟨[],none⟩ l s h (K .normal):=by
 obtain⟨x,nd⟩:=X
 cases nd
 ·exact jvE
 ·exact I7
theorem jvD {l:List jav}:AW X F fl (.opsW l) s h K↔AO X.det F h.length fl ⟨List.range h.length,none⟩ l s h (K .normal):=by
 obtain⟨x,nd⟩:=X
 cases nd
 ·exact AW_opsW0
 ·exact I7
theorem jn9 {a b:jam}:AW X F fl (.seq a b) s h K↔AW X F fl a s h (jaA.then (fun s h=>AW X F fl b s h K) K):=by
 obtain⟨x,nd⟩:=X
 cases nd
 ·exact AW_seq0
 ·exact I7
theorem jb8 {c:Opd}{a b:jam}:AW X F fl (.cond c a b) s h K↔ ∃t,c.ev s= .val (.bool t)∧(t=true→AW X F fl a s h K)∧(t=false→AW X F fl b s h K):=by
 obtain⟨x,nd⟩:=X
 cases nd
 ·exact AW_cond0
 ·exact I7
theorem jbl {id:Nat}{c:jam}:AW X F fl (.block id c) s h K↔AW X F fl c s h (jaA.inBlk id K):=by
 obtain⟨x,nd⟩:=X
 cases nd
 ·exact jvG
 ·exact I7
theorem jvF {c:jam}(I:Nat→jal→Heap→Prop)(n0:Nat)(h0:I n0 s h)(round: ∀n s h,I n s h→AW X F fl c s h (jaA.then (fun s' h'=> ∃m,m<n∧I m s' h') K)):AW X F fl (.loop c) s h K:=by
 obtain⟨x,nd⟩:=X
 cases nd
 ·exact AW_loop0 I n0 h0 round
 ·intro J hJ
  have key: ∀n s h,I n s h→J s h:=by
   intro n;induction n using I9 with
   |_ n ih=>
    intro s h hI;refine hJ s h (jdy (fun k=>⟨k,rfl⟩) jcz _ _ _ _ _ _ (fun x s h=>jit (fun s h hq=>?_) (fun _ _ _ h=>h) x s h) (round n s h hI));obtain⟨m,hm,hI⟩:=hq;exact ih m hm s h hI
  exact key n0 s h h0
end
section
variable {K:jal→Heap→Prop}{base:Nat}{d:Seen}{l:List jav}
theorem ja7:AO X F base fl d [] s h K↔K s h:=by
 obtain⟨x,nd⟩:=X
 cases nd
 ·exact AO_nil0
 ·exact I7
theorem AO_one {o:jav}(hw:jbu o s=some true)(hk:A1 X F (if o.iso then none else some (base,d.pr)) (jbB fl o (jcw fl d o l s h)) o.op s h fun v h'=>AO X F base fl (d.with o (jcw fl d o l s h) s) l (put s o.dst v) h' K):AO X F base fl d (o::l) s h K:=by
 obtain⟨x,nd⟩:=X
 cases nd
 ·refine AO_one0 hw ?_
  obtain⟨dst,op,gd,iso⟩:=o
  cases op
  case panic x=>exact absurd hk.1 (by simp)
  all_goals exact hk
 ·show jbX _ _ _ _ _ _ _ _
  simp only[jbX,hw];obtain⟨dst,op,gd,iso⟩:=o
  cases op
  case call f args=>
   obtain⟨g,vs,hg,hk⟩:=hk;simp only[jfX,hg];exact hk
  case panic x=>exact hk.2
  all_goals exact hk
theorem AO_skip {o:jav}(hw:jbu o s=some false)(hk:AO X F base fl d l (put s o.dst .no) h K):AO X F base fl d (o::l) s h K:=by
 obtain⟨x,nd⟩:=X
 cases nd
 ·exact AO_skip0 hw hk
 ·show jbX _ _ _ _ _ _ _ _
  simp only[jbX,hw];exact hk
theorem jvH {dst:Option Nat}{op:AOp}:A1 X F none fl op s h (fun v h'=>AO X F base fl d l (put s dst v) h' K)→AO X F base fl d (⟨dst,op,none,true⟩::l) s h K:=fun hk=>
 AO_one rfl (by simpa[jbB,Seen.with] using hk)
end
end
section
open Go Go.RowKit
abbrev I64 (n:Int):AV:= .val (.int .i64 n)
abbrev BV (b:Bool):AV:= .val (.bool b)
/-! ### jal -/
theorem jaU {s:jal}{d:Nat}{v:AV}:put s (some d) v=upd s d v:=rfl
theorem jbI {s:jal}{v:AV}:put s none v=s:=rfl
theorem jbV {s:jal}{d t:Nat}{v:AV}:upd s d v t=if t=d then v else s t:=rfl
theorem jcL {s:jal}{t:Nat}:(Opd.tmp t).ev s=s t:=rfl
theorem jeq {s:jal}{v:AV}:(Opd.av v).ev s=v:=rfl
/-! ### Which slots code writes -/
def wrs:jam→List Nat
  | .ops l=>l.filterMap (·.dst)
  | .opsD l=>l.filterMap (·.dst)
  | .opsW l=>l.filterMap (·.dst)
  | .seq a b=>wrs a++wrs b
  | .cond _ a b=>wrs a++wrs b
  | .block _ c=>wrs c
  | .loop c=>wrs c
  | .scope c=>wrs c
  |_=>[]
theorem jcG {C:jby}{base:Nat}{fl:Nat→Bool}{t:Nat}: ∀(l:List jav) (d:Seen) (s:jal) (h:Heap) s' h',jcv C base fl d l s h=some (s',h')→t∉l.filterMap (·.dst)→s' t=s t
 |[],d,s,h,s',h',he,_=>by simp only[jcv,U4,O4] at he;rw[he.1]
 |o::l,d,s,h,s',h',he,ht=>by
  have hd:o.dst≠some t:=fun e=>ht (D0.2 ⟨o,by simp,e⟩)
  have hl:t∉l.filterMap (·.dst):=fun h=>by
   obtain⟨p,hp,e⟩:=D0.1 h;exact ht (D0.2 ⟨p,by simp[hp],e⟩)
  simp only[jcv] at he;split at he
  ·split at he
   ·rename_i v h1 _
    rw[jcG l _ _ _ _ _ he hl,jkj,if_neg hd]
   ·cases he
  ·rw[jcG l _ _ _ _ _ he hl,jkj,if_neg hd]
  ·cases he
theorem jr0 {C:jby}{n:Nat}{fl:Nat→Bool}{t:Nat}: ∀(c:jam) (s:jal) (h:Heap) x s' h',exec C n fl c s h=some (x,s',h')→t∉wrs c→s' t=s t:=by
 intro c;induction c with
 |skip=>intro s h x s' h' he _;simp only[exec,U4,O4] at he;rw[he.2.1]
 |ops l=>
  intro s h x s' h' he ht;simp only[exec] at he;split at he
  ·rename_i s1 h1 hr
   simp only[U4,O4] at he;rw[←he.2.1];exact jcG _ _ _ _ _ _ hr ht
  ·cases he
 |opsD l=>
  intro s h x s' h' he ht;simp only[exec] at he;split at he
  ·rename_i s1 h1 hr
   simp only[U4,O4] at he;rw[←he.2.1];exact jcG _ _ _ _ _ _ hr ht
  ·cases he
 |opsW l=>
  intro s h x s' h' he ht;simp only[exec] at he;split at he
  ·rename_i s1 h1 hr
   simp only[U4,O4] at he;rw[←he.2.1];exact jcG _ _ _ _ _ _ hr ht
  ·cases he
 |seq a b iha ihb=>
  intro s h x s' h' he ht;simp only[wrs,O3,not_or] at ht;simp only[exec] at he;split at he
  ·rename_i s1 h1 h1'
   rw[ihb _ _ _ _ _ he ht.2,iha _ _ _ _ _ h1' ht.1]
  ·exact iha _ _ _ _ _ he ht.1
 |cond c a b iha ihb=>
  intro s h x s' h' he ht;simp only[wrs,O3,not_or] at ht;simp only[exec] at he;split at he
  ·split at he
   ·exact iha _ _ _ _ _ he ht.1
   ·exact ihb _ _ _ _ _ he ht.2
  ·cases he
 |block id a iha=>
  intro s h x s' h' he ht;simp only[exec] at he;split at he
  ·rename_i j s1 h1 h1'
   have:=iha _ _ _ _ _ h1' ht;split at he<;>(simp only[U4,O4] at he;rw[←he.2.1];exact this)
  ·exact iha _ _ _ _ _ he ht
 |loop a iha=>
  intro s h x s' h' he ht;simp only[exec] at he;have key: ∀(k:Nat) s h x s' h',iter (exec C n fl a) k s h=some (x,s',h')→s' t=s t:=by
   intro k;induction k with
   |zero=>intro s h x s' h' he;simp[iter] at he
   |succ k ih=>
    intro s h x s' h' he;simp only[iter] at he;split at he
    ·rename_i s1 h1 h1'
     rw[ih _ _ _ _ _ he,iha _ _ _ _ _ h1' ht]
    ·exact iha _ _ _ _ _ he ht
  exact key _ _ _ _ _ _ he
 |exit id=>intro s h x s' h' he _;simp only[exec,U4,O4] at he;rw[he.2.1]
 |scope a iha=>intro s h x s' h' he ht;exact iha s h x s' h' he ht
 |ret=>intro s h x s' h' he _;simp only[exec,U4,O4] at he;rw[he.2.1]
 |bad=>intro s h x s' h' he _;simp[exec] at he
def Frm (W:List Nat)(s s':jal):Prop:= ∀t,t∉W→s' t=s t
theorem Frm.refl {W:List Nat}{s:jal}:Frm W s s:=fun _ _=>rfl
theorem Frm.trans {W:List Nat}{s s' s2:jal}(h:Frm W s s')(h2:Frm W s' s2):Frm W s s2:=fun t ht=>(h2 t ht).trans (h t ht)
theorem Frm.upd {W:List Nat}{s s':jal}(h:Frm W s s'){d:Nat}(hd:d∈W){v:AV}:Frm W s (upd s' d v):=fun t ht=>by
 rw[jbV,if_neg (fun e=>ht (by rw[e];exact hd))];exact h t ht
theorem Frm.sub {W W':List Nat}{s s':jal}(h:Frm W s s')(hs: ∀t,t∈W→t∈W'):Frm W' s s':=fun t ht=>h t fun h2=>ht (hs t h2)
theorem Frm.put {W:List Nat}{s s':jal}(h:Frm W s s'){d:Option Nat}(hd: ∀x,d=some x→x∈W){v:AV}:Frm W s (put s' d v):=by
 cases d with
 |none=>exact h
 |some d=>exact h.upd (hd d rfl)
theorem jdm {C:jeH}(hC: ∀f args fl h (K K':AV→Heap→Prop),(∀v h,K v h→K' v h)→C f args fl h K→C f args fl h K'){base:Nat}{fl:Nat→Bool}{W:List Nat}{s0:jal}: ∀(l:List jav) (d:Seen) (s:jal) (h:Heap) (K:jal→Heap→Prop),(∀t,t∈l.filterMap (·.dst)→t∈W)→Frm W s0 s→jbX C base fl d l s h K→jbX C base fl d l s h fun s' h'=>Frm W s0 s'∧K s' h'
 |[],d,s,h,K,hW,hs,hp=>⟨hs,hp⟩
 |o::l,d,s,h,K,hW,hs,hp=>by
  have hl : ∀ t, t ∈ l.filterMap (·.dst) → t ∈ W := fun t ht => hW t (by
   obtain⟨p,hp,e⟩:=D0.1 ht;exact D0.2 ⟨p,by simp[hp],e⟩)
  have hd: ∀x,o.dst=some x→x∈W:=fun x hx=>hW x (D0.2 ⟨o,by simp,hx⟩)
  simp only[jbX] at hp ⊢;split at hp
  ·obtain⟨dst,op,gd,iso⟩:=o
   cases op
   case call f args=>
    simp only[jfX] at hp ⊢;split at hp
    ·exact hC _ _ _ _ _ _ (fun v h' hq=>jdm hC l _ _ _ K hl (hs.put hd) hq) hp
    ·exact hp.elim
   case panic x=>exact hC _ _ _ _ _ _ (fun v h' hq=>jdm hC l _ _ _ K hl (hs.put hd) hq) hp
   all_goals
    obtain⟨v,h',e,hq⟩:=hp;exact⟨v,h',e,jdm hC l _ _ _ K hl (hs.put hd) hq⟩
  ·exact jdm hC l _ _ _ K hl (hs.put hd) hp
  ·exact hp.elim
theorem jot {Cd:Nat→jby}{C:jeH}(hC: ∀f args fl h (K K':AV→Heap→Prop),(∀v h,K v h→K' v h)→C f args fl h K→C f args fl h K'){W:List Nat}{s0:jal}: ∀(c:jam) (fl:Nat→Bool) s h (K:jaA→jal→Heap→Prop),(∀t,t∈wrs c→t∈W)→Frm W s0 s→jdc Cd C c fl s h K→jdc Cd C c fl s h fun x s' h'=>Frm W s0 s'∧K x s' h':=by
 have mono: ∀(c:jam) (fl:Nat→Bool) s h (K K':jaA→jal→Heap→Prop),(∀x s h,K x s h→K' x s h)→jdc Cd C c fl s h K→jdc Cd C c fl s h K':=fun c=>jdy (fun k=>⟨k,rfl⟩) hC c
 intro c;induction c with
 |skip=>intro fl s h K hW hs hp;exact⟨hs,hp⟩
 |ops l=>intro fl s h K hW hs hp;exact jdm hC l _ _ _ _ hW hs hp
 |opsD l=>
  intro fl s h K hW hs hp;obtain⟨n,s',h',e,k⟩:=hp;exact⟨n,s',h',e,fun t ht=>by rw[jcG _ _ _ _ _ _ e (fun h=>ht (hW t h))];exact hs t ht,k⟩
 |opsW l=>
  intro fl s h K hW hs hp;obtain⟨n,s',h',e,k⟩:=hp;exact⟨n,s',h',e,fun t ht=>by rw[jcG _ _ _ _ _ _ e (fun h=>ht (hW t h))];exact hs t ht,k⟩
 |seq a b iha ihb=>
  intro fl s h K hW hs hp;simp only[wrs,O3] at hW;refine mono a fl s h _ _ (fun x s h hq=>?_) (iha fl s h _ (fun t ht=>hW t (.inl ht)) hs hp);obtain⟨hs,hq⟩:=hq
  cases x with
  |normal=>exact ihb fl s h K (fun t ht=>hW t (.inr ht)) hs hq
  |exit id=>exact⟨hs,hq⟩
  |ret=>exact⟨hs,hq⟩
 |cond c a b iha ihb=>
  intro fl s h K hW hs hp;simp only[wrs,O3] at hW;obtain⟨t,ht,h1,h2⟩:=hp;exact⟨t,ht,fun e=>iha fl s h K (fun t ht=>hW t (.inl ht)) hs (h1 e),fun e=>ihb fl s h K (fun t ht=>hW t (.inr ht)) hs (h2 e)⟩
 |block id a iha=>
  intro fl s h K hW hs hp;refine mono a fl s h _ _ (fun x s h hq=>?_) (iha fl s h _ hW hs hp);obtain⟨hs,hq⟩:=hq
  cases x with
  |normal=>exact⟨hs,hq⟩
  |exit j=>
   simp only[jaA.inBlk] at hq ⊢;split at hq
   ·rename_i hj;rw[if_pos hj];exact⟨hs,hq⟩
   ·rename_i hj;rw[if_neg hj];exact⟨hs,hq⟩
  |ret=>exact⟨hs,hq⟩
 |loop a iha=>
  intro fl s h K hW hs hp;intro I hI;refine hp (fun s h=>Frm W s0 s→I s h) (fun s h hb hs=>hI s h (mono a fl s h _ _ (fun x s h hq=>?_) (iha fl s h _ hW hs hb))) hs;obtain⟨hs,hq⟩:=hq
  cases x with
  |normal=>exact hq hs
  |exit id=>exact⟨hs,hq⟩
  |ret=>exact⟨hs,hq⟩
 |exit id=>intro fl s h K hW hs hp;exact⟨hs,hp⟩
 |scope a iha=>intro fl s h K hW hs hp;exact iha fl s h K hW hs hp
 |ret=>intro fl s h K hW hs hp;exact⟨hs,hp⟩
 |bad=>intro fl s h K hW hs hp;exact hp.elim
section
variable {X:XT}{F:FuncId→Option jbq}{fl:Nat→Bool}{s:jal}{h:Heap}
theorem AW.frame {c:jam}{K:jaA→jal→Heap→Prop}(hc:AW X F fl c s h fun x s' h'=>(∀t,t∉wrs c→s' t=s t)→K x s' h'):AW X F fl c s h K:=by
 obtain⟨x,nd⟩:=X
 cases nd with
 |false=>
  obtain⟨n,x,s',h',e,k⟩:=hc;exact⟨n,x,s',h',e,k fun t ht=>jr0 c s h x s' h' e ht⟩
 |true=>
  exact jdy (fun k=>⟨k,rfl⟩) jcz _ _ _ _ _ _ (fun x s h hq=>hq.2 hq.1) (jot jcz (W:=wrs c) (s0:=s) c fl s h _ (fun _ h=>h) Frm.refl hc)
theorem jlY {c:jam}{K:jaA→jal→Heap→Prop}(I:Nat→jal→Heap→Prop)(n0:Nat)(h0:I n0 s h)(round: ∀n s' h',I n s' h'→(∀t,t∉wrs c→s' t=s t)→AW X F fl c s' h' (jaA.then (fun s2 h2=> ∃m,m<n∧I m s2 h2) K)):AW X F fl (.loop c) s h K:=by
 refine jvF (fun n s' h'=>I n s' h'∧ ∀t,t∉wrs c→s' t=s t) n0 ⟨h0,fun _ _=>rfl⟩ fun n s' h' ⟨hI,hs⟩=>?_
 refine AW.frame ((round n s' h' hI hs).mono fun x s2 h2 k hf=>?_)
 cases x with
 |normal=>
  obtain⟨m,hm,hI2⟩:=k;exact⟨m,hm,hI2,fun t ht=>by rw[hf t ht,hs t ht]⟩
 |exit id=>exact k
 |ret=>exact k
def jau (B Cn tc ti tl tn:Nat)(body:jam):jam:=
  .block B (.loop (.seq (.ops [⟨some tc,.bin .lss (.tmp ti) (.tmp tl),none,true⟩])
    (.seq (.cond (.tmp tc) (.skip) (.exit B))
    (.seq (.block Cn body)
    (.ops [⟨some tn,.bin .add (.tmp ti) (.av (.val (.int .i64 1))),none,true⟩,⟨some ti,.mv (.tmp tn),none,true⟩])))))
theorem AW_range {B Cn tc ti tl tn:Nat}{body:jam}{K:jaA→jal→Heap→Prop}(N:Nat)(hN:N<9223372036854775807)(hti:s ti=I64 (0:Nat))(htl:s tl=I64 N)(h1:tl∉wrs body)(h2:ti∉wrs body)(h3:tc≠ti∧tc≠tl∧tn≠ti∧tn≠tl∧ti≠tl)
  (I:Nat→jal→Heap→Prop) (h0:I 0 s h)
  (round: ∀k s' h',k<N→I k s' h'→s' ti=I64 k→s' tl=I64 N→(∀t,t∉wrs body→t≠tc→t≠ti→t≠tn→s' t=s t)→
   AW X F fl body (upd s' tc (BV true)) h' (jaA.inBlk Cn (jaA.then (fun s2 h2=>I (k+1) (upd (upd s2 tn (I64 (k+1:Nat))) ti (I64 (k+1:Nat))) h2) (jaA.inBlk B K))))
  (done: ∀s' h',I N s' h'→(∀t,t∉wrs body→t≠tc→t≠ti→t≠tn→s' t=s t)→K .normal (upd s' tc (BV false)) h'):AW X F fl (jau B Cn tc ti tl tn body) s h K:=by
 obtain⟨c1,c2,c3,c4,c5⟩:=h3;refine jbl.2 ?_;refine jlY (fun n s' h'=> ∃k,n=N - k∧k≤N∧I k s' h'∧s' ti=I64 k∧s' tl=I64 N) N ⟨0,by omega,Nat.zero_le _,h0,hti,htl⟩ fun n s' h' hI hs=>?_
 obtain⟨k,rfl,hk,hIk,hik,hlk⟩:=hI;have hst: ∀t,t∉wrs body→t≠tc→t≠ti→t≠tn→s' t=s t:=fun t q1 q2 q3 q4=>hs t (by simp[wrs,q1,q2,q3,q4])
 rw[jn9,jcQ];refine jvH ?_;refine⟨BV (decide (k<N)),h',by simp[jah,jcL,hik,hlk,binV],?_⟩;dsimp only;rw[ja7,jar,jn9,jb8];refine⟨decide (k<N),by simp[jcL,jaU,jbV],fun ht=>?_,fun hf=>?_⟩
 ·have hlt:k<N:=by simpa using ht
  rw[jb6,jar,jn9,jbl,ht,jaU];refine (AW.frame ((round k s' h' hlt hIk hik hlk hst).mono fun x s2 h2' kk hfr=>?_));have e1:s2 ti=I64 k:=by rw[hfr ti (by simpa[wrs] using h2),jbV,if_neg (Ne.symm c1)];exact hik
  have e2:s2 tl=I64 N:=by rw[hfr tl (by simpa[wrs] using h1),jbV,if_neg (Ne.symm c2)];exact hlk
  have go:I (k+1) (upd (upd s2 tn (I64 (k+1:Nat))) ti (I64 (k+1:Nat))) h2'→AW X F fl (.ops [⟨some tn,.bin .add (.tmp ti) (.av (.val (.int .i64 1))),none,true⟩,⟨some ti,.mv (.tmp tn),none,true⟩]) s2 h2'
    (jaA.then (fun s2 h2=> ∃m,m<N - k∧ ∃k,m=N - k∧k≤N∧I k s2 h2∧s2 ti=I64 k∧s2 tl=I64 N) (jaA.inBlk B K)):=by
   intro hI2;rw[jcQ];refine jvH ⟨I64 (k+1:Nat),h2',?_,jvH ⟨I64 (k+1:Nat),h2',?_,?_⟩⟩
   ·have w1:IntKind.i64.wrap ((k:Int)+1)=((k+1:Nat):Int):=by rw[IntWalk.i64_in _ (by omega)];omega
    simp[jah,jcL,jeq,e1,binV,w1]
   ·simp[jah,jcL,jaU,jbV]
   ·dsimp only
    rw[ja7,jar];exact⟨N - (k+1),by omega,k+1,rfl,by omega,hI2,by simp[jaU,jbV],by simp[jaU,jbV,Ne.symm c4,Ne.symm c5,e2]⟩
  cases x with
  |normal=>exact go kk
  |exit j=>
   rw[jaI] at kk ⊢;split at kk
   ·rename_i hj;rw[if_pos hj];exact go kk
   ·rename_i hj;rw[if_neg hj];exact kk
  |ret=>exact kk
 ·have hge:k=N:=by
   have: ¬k<N:=by simpa using hf
   omega
  subst hge;rw[jb7,ja5,ja5,jaI,if_pos rfl,hf,jaU];exact done s' h' hIk hst
theorem AW.named {c:jam}{K:jaA→jal→Heap→Prop}(hh: ∀S,S=s→AW X F fl c S h K):AW X F fl c s h K:=hh s rfl
theorem AW_for {B Cn tc ti tl tn:Nat}{body:jam}{K:jaA→jal→Heap→Prop}(N:Nat)(hN:N<9223372036854775807)(hti:s ti=I64 (0:Nat))(htl:s tl=I64 N)(h1:(wrs body).contains tl=false)(h2:(wrs body).contains ti=false)(h3:tc≠ti∧tc≠tl∧tn≠ti∧tn≠tl∧ti≠tl)
  (I:Nat→jal→Heap→Prop) (h0:I 0 s h)
  (round: ∀k s' h',k<N→I k s' h'→s' ti=I64 k→s' tl=I64 N→(∀t,(wrs body++[tc,ti,tn]).contains t=false→s' t=s t)→
   AW X F fl body (upd s' tc (BV true)) h' (jaA.inBlk Cn (jaA.then (fun s2 h2=>I (k+1) (upd (upd s2 tn (I64 (k+1:Nat))) ti (I64 (k+1:Nat))) h2) (jaA.inBlk B K))))
  (done: ∀s' h',I N s' h'→(∀t,(wrs body++[tc,ti,tn]).contains t=false→s' t=s t)→K .normal (upd s' tc (BV false)) h'):AW X F fl (jau B Cn tc ti tl tn body) s h K:=by
 have hc: ∀(l:List Nat) t,l.contains t=false→t∉l:=fun l t h hm=>by
  have:=List.contains_iff_mem.2 hm;rw[h] at this;cases this
 have hcc: ∀(s':jal),(∀t,t∉wrs body→t≠tc→t≠ti→t≠tn→s' t=s t)→ ∀t,(wrs body++[tc,ti,tn]).contains t=false→s' t=s t:=fun s' hs t ht=>by
  have:=hc _ _ ht;simp only[O3,List.mem_cons,List.not_mem_nil,or_false,not_or] at this;exact hs t this.1 this.2.1 this.2.2.1 this.2.2.2
 exact AW_range N hN hti htl (hc _ _ h1) (hc _ _ h2) h3 I h0 (fun k s' h' a b c d e=>round k s' h' a b c d (hcc s' e)) (fun s' h' a b=>done s' h' a (hcc s' b))
/-! ### Loops over a string, over a map -/
end
end
section
open Go Go.RowKit
section
variable {X:XT}{F:FuncId→Option jbq}{top:Option (Nat×Option (List Nat))}{fl:Nat→Bool}{s:jal}{h:Heap}{K:AV→Heap→Prop}
theorem jeK {x:Opd}:A1 X F top fl (.mv x) s h K↔K (x.ev s) h:=by
 simp only[A1,jah,U4,O4];exact⟨fun⟨_,_,⟨e1,e2⟩,k⟩=>by subst e1;subst e2;exact k,fun k=>⟨_,_,⟨rfl,rfl⟩,k⟩⟩
theorem jcg {c a b:Opd}:A1 X F top fl (.pick c a b) s h K↔ ∃t,c.ev s= .val (.bool t)∧K (if t=true then a.ev s else b.ev s) h:=by
 simp only[A1,jah];constructor
 ·rintro⟨v,h',e,k⟩
  split at e
  ·rename_i t ht
   simp only[U4,O4] at e;obtain⟨rfl,rfl⟩:=e;exact⟨t,ht,k⟩
  ·cases e
 ·rintro⟨t,ht,k⟩
  exact⟨_,_,by rw[ht],k⟩
theorem jdb {n:Nat}{x:Opd}:A1 X F top fl (.box n x) s h K↔((x.ev s).cells.length=n∧(x.ev s).cells.all AV.isCell=true)∧K (.ptr h.length 0) (h++[some (x.ev s).cells]):=by
 simp only[A1,jah];constructor
 ·rintro⟨v,h',e,k⟩
  split at e
  ·simp only[U4,O4] at e
   obtain⟨rfl,rfl⟩:=e;exact⟨by assumption,k⟩
  ·cases e
 ·rintro⟨hc,k⟩
  exact⟨_,_,by rw[if_pos hc],k⟩
theorem jb9 {cs:List AV}:A1 X F top fl (.zero cs) s h K↔K (.ptr h.length 0) (h++[some cs]):=by
 simp only[A1,jah,U4,O4];exact⟨fun⟨_,_,⟨e1,e2⟩,k⟩=>by subst e1;subst e2;exact k,fun k=>⟨_,_,⟨rfl,rfl⟩,k⟩⟩
theorem jbt {z:List AV}{ps:List (Nat×Nat×Opd)}:A1 X F top fl (.build z ps) s h K↔ ∃cs,jcX z (ps.map fun p=>(p.1,p.2.1,p.2.2.ev s))=some cs∧K (.agg cs) h:=by
 simp only[A1,jah];constructor
 ·rintro⟨v,h',e,k⟩
  split at e
  ·rename_i cs hcs
   simp only[U4,O4] at e;obtain⟨rfl,rfl⟩:=e;exact⟨cs,hcs,k⟩
  ·cases e
 ·rintro⟨cs,hcs,k⟩
  exact⟨_,_,by rw[hcs],k⟩
theorem jch {k len:Nat}{z:List AV}{ps:List (Nat×Nat×Opd)}:A1 X F top fl (.lits k len z ps) s h K↔ ∃cs,jcX z (ps.map fun p=>(p.1,p.2.1,p.2.2.ev s))=some cs∧cs.all AV.isCell=true∧K (.slice h.length 0 len len true k) (h++[some cs]):=by
 simp only[A1,jah];constructor
 ·rintro⟨v,h',e,kk⟩
  split at e
  ·rename_i cs hcs
   split at e
   ·rename_i ha
    simp only[U4,O4] at e;obtain⟨rfl,rfl⟩:=e;exact⟨cs,hcs,ha,kk⟩
   ·cases e
  ·cases e
 ·rintro⟨cs,hcs,ha,kk⟩
  exact⟨_,_,by rw[hcs];simp only;rw[if_pos ha],kk⟩
def ldA (h:Heap)(id off:Nat):Option Nat→Option AV
  |none=>rd1 h id off
  |some n=>match rd h id off n with
    |some cs=>some (.agg cs)
    |none=>none
theorem jbp {n:Option Nat}{x:Opd}:A1 X F top fl (.load n x) s h K↔ ∃id off v,x.ev s= .ptr id off∧jbw top id=true∧ldA h id off n=some v∧K v h:=by
 simp only[A1,jah];constructor
 ·rintro⟨v,h',e,k⟩
  split at e
  ·rename_i id off hp
   split at e
   ·rename_i hs
    split at e
    ·rename_i n
     split at e
     ·rename_i cs hcs
      simp only[U4,O4] at e;obtain⟨rfl,rfl⟩:=e;exact⟨id,off,_,hp,hs,by simp only[ldA,hcs],k⟩
     ·cases e
    ·split at e
     ·rename_i u hu
      simp only[U4,O4] at e;obtain⟨rfl,rfl⟩:=e;exact⟨id,off,_,hp,hs,hu,k⟩
     ·cases e
   ·cases e
  ·cases e
 ·rintro⟨id,off,v,hp,hs,hv,k⟩
  cases n with
  |none=>exact⟨v,h,by rw[hp];simp only;rw[if_pos hs];simp only[ldA] at hv;simp only[hv],k⟩
  |some n=>
   simp only[ldA] at hv;split at hv
   ·rename_i cs hcs
    injection hv with hv
    exact⟨v,h,by rw[hp];simp only;rw[if_pos hs,hcs];simp only[hv],k⟩
   ·cases hv
theorem jaF {id:Nat}:(jbw none id=true)=True:=by simp[jbw]
theorem jbC {n:Nat}{a v:Opd}:A1 X F top fl (.store n a v) s h K↔ ∃id off h',a.ev s= .ptr id off∧((v.ev s).cells.length=n∧(v.ev s).cells.all AV.isCell=true)∧wr fl h id off (v.ev s).cells=some h'∧K .no h':=by
 simp only[A1,jah];constructor
 ·rintro⟨u,h',e,k⟩
  split at e
  ·rename_i id off hp
   split at e
   ·rename_i hc
    split at e
    ·rename_i h1 hw
     simp only[U4,O4] at e;obtain⟨rfl,rfl⟩:=e;exact⟨id,off,h1,hp,hc,hw,k⟩
    ·cases e
   ·cases e
  ·cases e
 ·rintro⟨id,off,h1,hp,hc,hw,k⟩
  exact⟨_,h1,by rw[hp];simp only;rw[if_pos hc,hw],k⟩
def jql:AV→Bool
  | .ptr _ _=>true
  | .func _ _=>true
  | .bfunc _ _ _=>true
  |_=>false
theorem jbd {id off:Nat}:jql (.ptr id off)=true:=rfl
theorem jaW {f:FuncId}{cs:List AV}:jql (.func f cs)=true:=rfl
theorem jaC {x:Opd}:A1 X F top fl (.nilCheck x) s h K↔jql (x.ev s)=true∧K (x.ev s) h:=by
 simp only[A1,jah];constructor
 ·rintro⟨v,h',e,k⟩
  split at e
  ·rename_i id off hp
   simp only[U4,O4] at e;obtain⟨rfl,rfl⟩:=e;exact⟨by rw[hp];rfl,by rw[hp];exact k⟩
  ·rename_i f cs hp
   simp only[U4,O4] at e;obtain⟨rfl,rfl⟩:=e;exact⟨by rw[hp];rfl,by rw[hp];exact k⟩
  ·rename_i f a cs hp
   simp only[U4,O4] at e;obtain⟨rfl,rfl⟩:=e;exact⟨by rw[hp];rfl,by rw[hp];exact k⟩
  ·cases e
 ·rintro⟨hn,k⟩
  cases hx:x.ev s with
  |ptr id off=>rw[hx] at k;exact⟨_,_,rfl,k⟩
  |func f cs=>rw[hx] at k;exact⟨_,_,rfl,k⟩
  |bfunc f a cs=>rw[hx] at k;exact⟨_,_,rfl,k⟩
  |_=>rw[hx] at hn;cases hn
theorem jcY {op:BinOp}{x y:Opd}:A1 X F top fl (.bin op x y) s h K↔ ∃a b v,x.ev s= .val a∧y.ev s= .val b∧binV op a b=some v∧K (.val v) h:=by
 simp only[A1,jah];constructor
 ·rintro⟨v,h',e,k⟩
  split at e
  ·rename_i a b ha hb
   split at e
   ·rename_i u hu
    simp only[U4,O4] at e;obtain⟨rfl,rfl⟩:=e;exact⟨a,b,u,ha,hb,hu,k⟩
   ·cases e
  ·cases e
 ·rintro⟨a,b,v,ha,hb,hv,k⟩
  exact⟨_,h,by rw[ha,hb];simp only[hv],k⟩
theorem jbs {neg:Bool}{kd:Nat}{x:Opd}:A1 X F top fl (.eqNil neg kd x) s h K↔ ∃b,jc0 kd (x.ev s)=some b∧K (BV (if neg=true then !b else b)) h:=by
 simp only[A1,jah];constructor
 ·rintro⟨v,h',e,k⟩
  split at e
  ·rename_i b hb
   simp only[U4,O4] at e;obtain⟨rfl,rfl⟩:=e;exact⟨b,hb,k⟩
  ·cases e
 ·rintro⟨b,hb,k⟩
  exact⟨_,h,by rw[hb],k⟩
theorem jbb {neg:Bool}{x y:Opd}:A1 X F top fl (.eqBool neg x y) s h K↔ ∃a b,x.ev s=BV a∧y.ev s=BV b∧K (BV (if neg=true then !(a==b) else a==b)) h:=by
 simp only[A1,jah];constructor
 ·rintro⟨v,h',e,k⟩
  split at e
  ·rename_i a b ha hb
   simp only[U4,O4] at e;obtain⟨rfl,rfl⟩:=e;exact⟨a,b,ha,hb,k⟩
  ·cases e
 ·rintro⟨a,b,ha,hb,k⟩
  exact⟨_,h,by rw[ha,hb],k⟩
theorem jbG {neg:Bool}{ks:List Nat}{x y:Opd}:A1 X F top fl (.eqAgg neg ks x y) s h K↔ ∃a b t,x.ev s= .agg a∧y.ev s= .agg b∧jbx ks a b=some t∧K (BV (if neg=true then !t else t)) h:=by
 simp only[A1,jah];constructor
 ·rintro⟨v,h',e,k⟩
  split at e
  ·rename_i a b ha hb
   split at e
   ·rename_i t ht
    simp only[U4,O4] at e;obtain⟨rfl,rfl⟩:=e;exact⟨a,b,t,ha,hb,ht,k⟩
   ·cases e
  ·cases e
 ·rintro⟨a,b,t,ha,hb,ht,k⟩
  exact⟨_,h,by rw[ha,hb];simp only[ht],k⟩
theorem jeJ {op:UnOp}{x:Opd}:A1 X F top fl (.un op x) s h K↔ ∃a v,x.ev s= .val a∧unV op a=some v∧K (.val v) h:=by
 simp only[A1,jah];constructor
 ·rintro⟨v,h',e,k⟩
  split at e
  ·rename_i a ha
   split at e
   ·rename_i u hu
    simp only[U4,O4] at e;obtain⟨rfl,rfl⟩:=e;exact⟨a,u,ha,hu,k⟩
   ·cases e
  ·cases e
 ·rintro⟨a,v,ha,hv,k⟩
  exact⟨_,h,by rw[ha];simp only[hv],k⟩
theorem jcj {kd:IntKind}{x:Opd}:A1 X F top fl (.conv kd x) s h K↔ ∃k' n,x.ev s= .val (.int k' n)∧K (.val (.int kd (kd.wrap n))) h:=by
 simp only[A1,jah];constructor
 ·rintro⟨v,h',e,k⟩
  split at e
  ·rename_i k' n ha
   simp only[U4,O4] at e;obtain⟨rfl,rfl⟩:=e;exact⟨k',n,ha,k⟩
  ·cases e
 ·rintro⟨k',n,ha,k⟩
  exact⟨_,h,by rw[ha],k⟩
theorem jbF {off:Nat}{n:Option Nat}{x:Opd}:A1 X F top fl (.field off n x) s h K↔ ∃cs v,x.ev s= .agg cs∧jg3 cs off n=some v∧K v h:=by
 simp only[A1,jah];constructor
 ·rintro⟨v,h',e,k⟩
  split at e
  ·rename_i cs ha
   split at e
   ·rename_i u hu
    simp only[U4,O4] at e;obtain⟨rfl,rfl⟩:=e;exact⟨cs,u,ha,hu,k⟩
   ·cases e
  ·cases e
 ·rintro⟨cs,v,ha,hv,k⟩
  exact⟨_,h,by rw[ha];simp only[hv],k⟩
theorem jaD {off:Nat}{x:Opd}:A1 X F top fl (.fieldAddr off x) s h K↔ ∃id o,x.ev s= .ptr id o∧K (.ptr id (o+off)) h:=by
 simp only[A1,jah];constructor
 ·rintro⟨v,h',e,k⟩
  split at e
  ·rename_i id o ha
   simp only[U4,O4] at e;obtain⟨rfl,rfl⟩:=e;exact⟨id,o,ha,k⟩
  ·cases e
 ·rintro⟨id,o,ha,k⟩
  exact⟨_,h,by rw[ha],k⟩
theorem jaB {kk:Nat}{x i:Opd}:A1 X F top fl (.indexAddr kk x i) s h K↔ ∃id off len lb ex k' j,x.ev s= .slice id off len lb ex k'∧jcJ (i.ev s)=some j∧j<len∧K (.ptr id (off+j*kk)) h:=by
 simp only[A1,jah];constructor
 ·rintro⟨v,h',e,k⟩
  split at e
  ·rename_i id off len lb ex k' j ha hj
   split at e
   ·rename_i hlt
    simp only[U4,O4] at e;obtain⟨rfl,rfl⟩:=e;exact⟨id,off,len,lb,ex,k',j,ha,hj,hlt,k⟩
   ·cases e
  ·cases e
 ·rintro⟨id,off,len,lb,ex,k',j,ha,hj,hlt,k⟩
  exact⟨_,h,by rw[ha,hj];simp only;rw[if_pos hlt],k⟩
theorem jaL {kk len:Nat}{x i:Opd}:A1 X F top fl (.indexArr kk len x i) s h K↔ ∃id off j,x.ev s= .ptr id off∧jcJ (i.ev s)=some j∧j<len∧K (.ptr id (off+j*kk)) h:=by
 simp only[A1,jah];constructor
 ·rintro⟨v,h',e,k⟩
  split at e
  ·rename_i id off j ha hj
   split at e
   ·rename_i hlt
    simp only[U4,O4] at e;obtain⟨rfl,rfl⟩:=e;exact⟨id,off,j,ha,hj,hlt,k⟩
   ·cases e
  ·cases e
 ·rintro⟨id,off,j,ha,hj,hlt,k⟩
  exact⟨_,h,by rw[ha,hj];simp only;rw[if_pos hlt],k⟩
theorem jbE {kk len:Nat}{n:Option Nat}{x i:Opd}:A1 X F top fl (.index kk len n x i) s h K↔ ∃cs j v,x.ev s= .agg cs∧jcJ (i.ev s)=some j∧j<len∧jg3 cs (j*kk) n=some v∧K v h:=by
 simp only[A1,jah];constructor
 ·rintro⟨v,h',e,k⟩
  split at e
  ·rename_i cs j ha hj
   split at e
   ·rename_i hlt
    split at e
    ·rename_i u hu
     simp only[U4,O4] at e;obtain⟨rfl,rfl⟩:=e;exact⟨cs,j,u,ha,hj,hlt,hu,k⟩
    ·cases e
   ·cases e
  ·cases e
 ·rintro⟨cs,j,v,ha,hj,hlt,hv,k⟩
  exact⟨_,h,by rw[ha,hj];simp only;rw[if_pos hlt,hv],k⟩
theorem jbD {kk:Nat}{x:Opd}{lo hi mx:Option Opd}:A1 X F top fl (.slice kk x lo hi mx) s h K↔ ∃v,jc3 kk (x.ev s) (lo.map (·.ev s)) (hi.map (·.ev s)) (mx.map (·.ev s))=some v∧K v h:=by
 simp only[A1,jah];constructor
 ·rintro⟨v,h',e,k⟩
  split at e
  ·rename_i u hu
   simp only[U4,O4] at e;obtain⟨rfl,rfl⟩:=e;exact⟨u,hu,k⟩
  ·cases e
 ·rintro⟨v,hv,k⟩
  exact⟨_,h,by rw[hv],k⟩
theorem jaS {kk bytes:Nat}{z:List AV}{l c:Opd}:A1 X F top fl (.mkSlice kk bytes z l c) s h K↔ ∃a b,jcJ (l.ev s)=some a∧jcJ (c.ev s)=some b∧(a≤b∧b*bytes≤reach)∧K (.slice h.length 0 a a (a==b) kk) (h++[some (List.replicate a z).flatten]):=by
 simp only[A1,jah];constructor
 ·rintro⟨v,h',e,k⟩
  split at e
  ·rename_i a b ha hb
   split at e
   ·rename_i hc
    simp only[U4,O4] at e;obtain⟨rfl,rfl⟩:=e;exact⟨a,b,ha,hb,hc,k⟩
   ·cases e
  ·cases e
 ·rintro⟨a,b,ha,hb,hc,k⟩
  exact⟨_,_,by rw[ha,hb];simp only;rw[if_pos hc],k⟩
theorem jaT {i:Nat}{x:Opd}:A1 X F top fl (.extract i x) s h K↔ ∃vs v,x.ev s= .tuple vs∧vs[i]?=some v∧K v h:=by
 simp only[A1,jah];constructor
 ·rintro⟨v,h',e,k⟩
  split at e
  ·rename_i vs ha
   split at e
   ·rename_i u hu
    simp only[U4,O4] at e;obtain⟨rfl,rfl⟩:=e;exact⟨vs,u,ha,hu,k⟩
   ·cases e
  ·cases e
 ·rintro⟨vs,v,ha,hv,k⟩
  exact⟨_,h,by rw[ha];simp only[hv],k⟩
theorem jci {f:FuncId}{caps:List Opd}:A1 X F top fl (.func f caps) s h K↔K (.func f (caps.map (·.ev s))) h:=by
 simp only[A1,jah,U4,O4];exact⟨fun⟨_,_,⟨e1,e2⟩,k⟩=>by subst e1;subst e2;exact k,fun k=>⟨_,_,⟨rfl,rfl⟩,k⟩⟩
theorem jbN {f:Opd}{args:List Opd}:A1 X F top fl (.call f args) s h K↔ ∃g vs,callee (f.ev s) (args.map (·.ev s))=some (g,vs)∧AC X F g vs fl h K:=I7
theorem jaP {f:FuncId}{caps args:List AV}:callee (.func f caps) args=some (f,args++caps):=rfl
theorem jaH {f:FuncId}{first caps args:List AV}:callee (.bfunc f first caps) args=some (f,first++args++caps):=rfl
theorem jbc {kk bytes:Nat}{x y:Opd}:A1 X F top fl (.append kk bytes x y) s h K↔ ∃n cs v h',jdN h kk (y.ev s)=some (n,cs)∧jcs fl h kk bytes (x.ev s) n cs=some (v,h')∧K v h':=by
 simp only[A1,jah];constructor
 ·rintro⟨v,h',e,k⟩
  split at e
  ·rename_i n cs hr
   exact⟨n,cs,v,h',hr,e,k⟩
  ·cases e
 ·rintro⟨n,cs,v,h',hr,e,k⟩
  exact⟨v,h',by rw[hr];exact e,k⟩
def lenA:AV→Option Nat
  | .val (.slice none 0 0)=>some 0
  | .hole=>some 0
  | .slice _ _ n _ _ _=>some n
  |_=>none
theorem jda {x:Opd}:A1 X F top fl (.len x) s h K↔ ∃n,lenA (x.ev s)=some n∧K (I64 (n:Nat)) h:=by
 simp only[A1,jah];constructor
 ·rintro⟨v,h',e,k⟩
  split at e
  ·rename_i ha
   simp only[U4,O4] at e;obtain⟨rfl,rfl⟩:=e;exact⟨0,by rw[ha];rfl,k⟩
  ·rename_i ha
   simp only[U4,O4] at e;obtain⟨rfl,rfl⟩:=e;exact⟨0,by rw[ha];rfl,k⟩
  ·rename_i ha
   simp only[U4,O4] at e;obtain⟨rfl,rfl⟩:=e;exact⟨_,by rw[ha];rfl,k⟩
  ·cases e
 ·rintro⟨n,e,k⟩
  unfold lenA at e;split at e<;>first|(cases e;done)|skip
  all_goals
   rename_i ha;injection e with e
   subst e;exact⟨_,h,by rw[ha];try rfl,k⟩
theorem A1_copy {kk:Nat}{x y:Opd}{id off len lb:Nat}{ex:Bool}{k':Nat}(hx:x.ev s= .slice id off len lb ex k'):A1 X F top fl (.copy kk x y) s h K↔ ∃n cs h',jdN h kk (y.ev s)=some (n,cs)∧wr fl h id off (cs.take (min n len*kk))=some h'∧K (I64 (min n len:Nat)) h':=by
 simp only[A1,jah,hx]
 cases hr:jdN h kk (y.ev s) with
 |none=>
  constructor
  ·rintro⟨v,h',e,k⟩;cases e
  ·rintro⟨n,cs,h1,e,_⟩;cases e
 |some p=>
  obtain⟨n,cs⟩:=p;simp only;constructor
  ·rintro⟨v,h',e,k⟩
   split at e
   ·rename_i h1 hw
    simp only[U4,O4] at e;obtain⟨rfl,rfl⟩:=e;exact⟨n,cs,h1,rfl,hw,k⟩
   ·cases e
  ·rintro⟨n',cs',h1,e,hw,k⟩
   simp only[U4,O4] at e;obtain⟨rfl,rfl⟩:=e;exact⟨_,h1,by rw[hw],k⟩
theorem jba {mx:Bool}{x:Opd}{xs:List Opd}:A1 X F top fl (.minmax mx x xs) s h K↔ ∃v,jlT mx (x.ev s) (xs.map (·.ev s))=some v∧K v h:=by
 simp only[A1,jah];constructor
 ·rintro⟨v,h',e,k⟩
  split at e
  ·rename_i u hu
   simp only[U4,O4] at e;obtain⟨rfl,rfl⟩:=e;exact⟨u,hu,k⟩
  ·cases e
 ·rintro⟨v,hv,k⟩
  exact⟨_,h,by rw[hv],k⟩
def je9:Option Bool→Prop→Prop→Prop
  |some b,p,q=>(b=true→p)∧(b=false→q)
  |none,_,_=>False
def jtg:AV→Bool→Option Bool
  | .val (.bool b),w=>some (b==w)
  | .val _,_=>some false
  | .tuple [],_=>some false
  |_,_=>none
theorem jaV {b w:Bool}:jtg (BV b) w=some (b==w):=rfl
theorem jaQ {b:Bool}{p q:Prop}:je9 (some b) p q↔(b=true→p)∧(b=false→q):=I7
theorem jcN {p q:Prop}:je9 (some true) p q↔p:=by simp[je9]
section
variable {base:Nat}{d:Seen}{l:List jav}{K:jal→Heap→Prop}
theorem jgT {o:jav}:AO X F base fl d (o::l) s h K↔je9 (jbu o s) (A1 X F (if o.iso then none else some (base,d.pr)) (jbB fl o (jcw fl d o l s h)) o.op s h fun v h'=>AO X F base fl (d.with o (jcw fl d o l s h) s) l (put s o.dst v) h' K) (AO X F base fl d l (put s o.dst .no) h K):=by
 constructor
 ·obtain⟨x,nd,pn⟩:=X
  cases nd with
  |false=>
   rintro⟨n,s',h',e,k⟩;simp only[jcv] at e;split at e
   ·rename_i hw
    split at e
    ·rename_i v h1 hr
     rw[hw];refine jcN.2 ?_;obtain⟨dst,op,gd,iso⟩:=o
     cases op
     case call f args=>
      simp only[jd9] at hr;split at hr
      ·rename_i g vs hg
       exact⟨g,vs,hg,n,v,h1,hr,n,s',h',e,k⟩
      ·cases hr
     case panic x=>exact absurd hr (by simp[jd9,jah])
     all_goals exact⟨v,h1,hr,n,s',h',e,k⟩
    ·cases e
   ·rename_i hw
    rw[hw];exact⟨(fun h=>by cases h),fun _=>⟨n,s',h',e,k⟩⟩
   ·cases e
  |true=>
   intro hp;have hp:jbX (jgu pn x F) base fl d (o::l) s h K:=hp;simp only[jbX] at hp;split at hp
   ·rename_i hw
    rw[hw];refine jcN.2 ?_;obtain⟨dst,op,gd,iso⟩:=o
    cases op
    case call f args=>
     simp only[jfX] at hp;split at hp
     ·rename_i g vs hg
      exact⟨g,vs,hg,hp⟩
     ·exact hp.elim
    case panic x=>exact⟨rfl,hp⟩
    all_goals exact hp
   ·rename_i hw
    rw[hw];exact⟨(fun h=>by cases h),fun _=>hp⟩
   ·exact hp.elim
 ·intro hk
  cases hw:jbu o s with
  |none=>rw[hw] at hk;exact hk.elim
  |some b=>
   rw[hw] at hk
   cases b with
   |true=>exact AO_one hw (hk.1 rfl)
   |false=>exact AO_skip hw (hk.2 rfl)
theorem AO_cons {dst:Option Nat}{op:AOp}:AO X F base fl d (⟨dst,op,none,true⟩::l) s h K↔A1 X F none fl op s h fun v h'=>AO X F base fl d l (put s dst v) h' K:=by
 rw[jgT,show jbu ⟨dst,op,none,true⟩ s=some true from rfl,jcN];simp[jbB,Seen.with]
theorem AO_consW {dst:Option Nat}{op:AOp}{t:Nat}{w:Bool}:AO X F base fl d (⟨dst,op,some (t,w),true⟩::l) s h K↔je9 (jtg (s t) w) (A1 X F none fl op s h fun v h'=>AO X F base fl d l (put s dst v) h' K) (AO X F base fl d l (put s dst .no) h K):=by
 have:jbu ⟨dst,op,some (t,w),true⟩ s=jtg (s t) w:=by
  unfold jbu jtg;simp only
  cases s t with
  |val v=>cases v<;>rfl
  |tuple l=>cases l<;>rfl
  |_=>rfl
 rw[jgT,this];simp[jbB,Seen.with]
end
/-! ### What goes on, held back -/
def GoO (X:XT)(F:FuncId→Option jbq)(base:Nat)(fl:Nat→Bool)(d:Seen)(l:List jav)(s:jal)(dst:Option Nat)(K:jal→Heap→Prop)(v:AV)(h':Heap):Prop:=AO X F base fl d l (put s dst v) h' K
def GoC (X:XT)(F:FuncId→Option jbq)(fl:Nat→Bool)(c:jam)(K:jaA→jal→Heap→Prop)(s:jal)(h:Heap):Prop:=AW X F fl c s h K
section
variable {base:Nat}{d:Seen}{l:List jav}{K:jal→Heap→Prop}{dst:Option Nat}{v:AV}{h':Heap}{c:jam}{KK:jaA→jal→Heap→Prop}
theorem goO:GoO X F base fl d l s dst K v h'↔AO X F base fl d l (put s dst v) h' K:=I7
theorem goC:GoC X F fl c KK s h↔AW X F fl c s h KK:=I7
theorem jcu {op:AOp}:AO X F base fl d (⟨dst,op,none,true⟩::l) s h K↔A1 X F none fl op s h (GoO X F base fl d l s dst K):=AO_cons
theorem jbM {op:AOp}{t:Nat}{w:Bool}:AO X F base fl d (⟨dst,op,some (t,w),true⟩::l) s h K↔je9 (jtg (s t) w) (A1 X F none fl op s h (GoO X F base fl d l s dst K)) (GoO X F base fl d l s dst K .no h):=AO_consW
theorem jct {a b:jam}:AW X F fl (.seq a b) s h KK↔AW X F fl a s h (jaA.then (GoC X F fl b KK) KK):=jn9
end
/-! ### Numbers -/
theorem jb1 {a b:Int}:binV .lss (.int .i64 a) (.int .i64 b)=some (.bool (decide (a<b))):=by simp[binV]
theorem jb2 {a b:Int}:binV .leq (.int .i64 a) (.int .i64 b)=some (.bool (decide (a≤b))):=by simp[binV]
theorem jb3 {a b:Int}:binV .gtr (.int .i64 a) (.int .i64 b)=some (.bool (decide (b<a))):=by simp[binV]
theorem jb4 {a b:Int}:binV .geq (.int .i64 a) (.int .i64 b)=some (.bool (decide (b≤a))):=by simp[binV]
theorem jb5 {a b:Int}:binV .eql (.int .i64 a) (.int .i64 b)=some (.bool (decide (a=b))):=by simp[binV]
theorem jbZ {a b:Int}:binV .neq (.int .i64 a) (.int .i64 b)=some (.bool (!decide (a=b))):=by simp[binV]
theorem jbT {a b:Int}:binV .add (.int .i64 a) (.int .i64 b)=some (.int .i64 (IntKind.i64.wrap (a+b))):=by simp[binV]
theorem jbY {a b:Int}:binV .sub (.int .i64 a) (.int .i64 b)=some (.int .i64 (IntKind.i64.wrap (a - b))):=by simp[binV]
theorem jb0 {a b:Int}:binV .mul (.int .i64 a) (.int .i64 b)=some (.int .i64 (IntKind.i64.wrap (a*b))):=by simp[binV]
theorem jbJ {v:Value}:(AV.val v).isCell=true:=rfl
theorem jbK {a b:Nat}:(AV.ptr a b).isCell=true:=rfl
theorem ja0 {a b c d:Nat}{e:Bool}{k:Nat}:(AV.slice a b c d e k).isCell=true:=rfl
theorem jbj {f:FuncId}{c:List AV}:(AV.func f c).isCell=true:=rfl
theorem jbi:AV.hole.isCell=true:=rfl
theorem jbh {l:List AV}:(AV.agg l).cells=l:=rfl
theorem jaZ {v:AV}(h:v.isCell=true):v.cells=[v]:=by cases v<;>first|rfl|(simp[AV.isCell] at h)
theorem jbf {v:Value}:(AV.val v).cells=[.val v]:=rfl
theorem jbg {a b:Nat}:(AV.ptr a b).cells=[.ptr a b]:=rfl
theorem jaO {a b c d:Nat}{e:Bool}{k:Nat}:(AV.slice a b c d e k).cells=[.slice a b c d e k]:=rfl
theorem jaY {f:FuncId}{c:List AV}:(AV.func f c).cells=[.func f c]:=rfl
theorem jaX:AV.hole.cells=[.hole]:=rfl
theorem jcW {a:Bool}:unV .not (.bool a)=some (.bool !a):=by simp[unV]
theorem jaN {n:Nat}:jcJ (I64 (n:Nat))=some n:=by simp[jcJ,jiV]
end
end
section
open Go Go.RowKit
def Sl (h:Heap)(k:Nat)(v:AV)(cs:List AV)(n:Nat):Prop:=cs.length=n*k∧
  ((n=0∧(v= .nil∨v= .hole))∨ ∃id off lb ex row,v= .slice id off n lb ex k∧n≤lb∧blk h id=some row∧off+n*k≤row.length∧(row.drop off).take (n*k)=cs)
theorem Sl.len {h:Heap}{k n:Nat}{v:AV}{cs:List AV}(hs:Sl h k v cs n):lenA v=some n:=by
 obtain⟨_,⟨rfl,rfl|rfl⟩|⟨id,off,lb,ex,row,rfl,_⟩⟩:=hs<;>rfl
theorem Sl.ext {h:Heap}{k n:Nat}{v:AV}{cs:List AV}(e:Heap)(hs:Sl h k v cs n):Sl (h++e) k v cs n:=by
 obtain⟨h0,h1|⟨id,off,lb,ex,row,h1,h2,h3,h4⟩⟩:=hs
 ·exact⟨h0,.inl h1⟩
 ·exact⟨h0,.inr ⟨id,off,lb,ex,row,h1,h2,jcq e h3,h4⟩⟩
theorem Sl.row {h:Heap}{k n:Nat}{v:AV}{cs:List AV}(hs:Sl h k v cs n):jdN h k v=some (n,cs):=by
 obtain⟨h0,⟨rfl,hv⟩|⟨id,off,lb,ex,row,rfl,h2,h3,h4,h5⟩⟩:=hs
 ·have:cs=[]:=Y9 (by simpa using h0)
  subst this;rcases hv with rfl|rfl<;>rfl
 ·simp only[jdN,rd,h3,h4,if_true,h5]
theorem Sl.cong {h h':Heap}{k n:Nat}{v:AV}{cs:List AV}(hs:Sl h k v cs n)(hb: ∀id off lb ex row,v= .slice id off n lb ex k→blk h id=some row→blk h' id=some row):Sl h' k v cs n:=by
 obtain⟨h0,h1|⟨id,off,lb,ex,row,h1,h2,h3,h4⟩⟩:=hs
 ·exact⟨h0,.inl h1⟩
 ·exact⟨h0,.inr ⟨id,off,lb,ex,row,h1,h2,hb id off lb ex row h1 h3,h4⟩⟩
theorem Sl.at {h:Heap}{k n:Nat}{v:AV}{cs:List AV}(hs:Sl h k v cs n){j:Nat}(hj:j<n): ∃id off lb ex,v= .slice id off n lb ex k∧n≤lb∧ ∀i (hi:i<k) (hc:j*k+i<cs.length),rd1 h id (off+j*k+i)=some cs[j*k+i]:=by
 obtain⟨h0,⟨rfl,hv⟩|⟨id,off,lb,ex,row,rfl,h2,h3,h4,h5⟩⟩:=hs
 ·omega
 ·refine⟨id,off,lb,ex,rfl,h2,fun i hi hc=>?_⟩
  simp only[rd1,h3];have hlt:j*k+i<n*k:=by rw[←h0];exact hc
  have e:cs[j*k+i]?=some cs[j*k+i]:=List.getElem?_eq_getElem hc;rw[←e,← h5,List.getElem?_take,if_pos hlt,List.getElem?_drop,Nat.add_assoc]
theorem Sl.at1 {h:Heap}{n:Nat}{v:AV}{cs:List AV}(hs:Sl h 1 v cs n){j:Nat}(hj:j<cs.length): ∃id off lb ex,v= .slice id off n lb ex 1∧n≤lb∧rd1 h id (off+j)=some cs[j]:=by
 have h0:=hs.1;obtain⟨id,off,lb,ex,h1,h2,h3⟩:=hs.at (j:=j) (by omega);refine⟨id,off,lb,ex,h1,h2,?_⟩;have:=h3 0 (by omega) (by omega);simpa using this
theorem Sl.cell {h:Heap}{k n:Nat}{v:AV}{cs:List AV}(hs:Sl h k v cs n):v.isCell=true:=by
 obtain⟨_,⟨rfl,rfl|rfl⟩|⟨id,off,lb,ex,row,rfl,_⟩⟩:=hs<;>rfl
theorem joo {h:Heap}{id off:Nat}{v:AV}(e:Heap)(hr:rd1 h id off=some v):rd1 (h++e) id off=some v:=by
 unfold rd1 at hr ⊢;split at hr
 ·rename_i l hl;rw[jcq e hl];exact hr
 ·cases hr
def IL (h:Heap)(v:AV)(l:List Int):Prop:=Sl h 1 v (l.map I64) l.length
def BL (h:Heap)(v:AV)(l:List Bool):Prop:=Sl h 1 v (l.map BV) l.length
def LL (h:Heap)(v:AV)(ls:List (List Int)):Prop:= ∃vs:List AV,vs.length=ls.length∧Sl h 1 v vs ls.length∧ ∀i (hi:i<ls.length) (hv:i<vs.length),IL h vs[i] ls[i]
theorem IL.ext {h:Heap}{v:AV}{l:List Int}(e:Heap)(hs:IL h v l):IL (h++e) v l:=Sl.ext e hs
theorem BL.ext {h:Heap}{v:AV}{l:List Bool}(e:Heap)(hs:BL h v l):BL (h++e) v l:=Sl.ext e hs
theorem LL.ext {h:Heap}{v:AV}{l:List (List Int)}(e:Heap)(hs:LL h v l):LL (h++e) v l:=
 let ⟨vs,h1,h2,h3⟩:=hs;⟨vs,h1,h2.ext e,fun i hi hv=>(h3 i hi hv).ext e⟩
theorem IL.at {h:Heap}{v:AV}{l:List Int}(hs:IL h v l){j:Nat}(hj:j<l.length): ∃id off lb ex,v= .slice id off l.length lb ex 1∧l.length≤lb∧rd1 h id (off+j)=some (I64 l[j]):=by
 obtain⟨id,off,lb,ex,h1,h2,h3⟩:=Sl.at1 hs (j:=j) (by simpa using hj);exact⟨id,off,lb,ex,h1,h2,by simpa using h3⟩
theorem BL.at {h:Heap}{v:AV}{l:List Bool}(hs:BL h v l){j:Nat}(hj:j<l.length): ∃id off lb ex,v= .slice id off l.length lb ex 1∧l.length≤lb∧rd1 h id (off+j)=some (BV l[j]):=by
 obtain⟨id,off,lb,ex,h1,h2,h3⟩:=Sl.at1 hs (j:=j) (by simpa using hj);exact⟨id,off,lb,ex,h1,h2,by simpa using h3⟩
theorem LL.at {h:Heap}{v:AV}{l:List (List Int)}(hs:LL h v l){j:Nat}(hj:j<l.length): ∃id off lb ex u,v= .slice id off l.length lb ex 1∧l.length≤lb∧rd1 h id (off+j)=some u∧IL h u l[j]:=by
 obtain⟨vs,h1,h2,h3⟩:=hs;obtain⟨id,off,lb,ex,h4,h5,h6⟩:=Sl.at1 h2 (j:=j) (by omega);exact⟨id,off,lb,ex,_,h4,h5,h6,h3 j hj (by omega)⟩
theorem LL.len {h:Heap}{v:AV}{l:List (List Int)}(hs:LL h v l):lenA v=some l.length:=by obtain⟨vs,_,h2,_⟩:=hs;exact h2.len
theorem LL.cell {h:Heap}{v:AV}{l:List (List Int)}(hs:LL h v l):v.isCell=true:=by obtain⟨vs,_,h2,_⟩:=hs;exact h2.cell
theorem IL.len {h:Heap}{v:AV}{l:List Int}(hs:IL h v l):lenA v=some l.length:=Sl.len hs
theorem IL.cell {h:Heap}{v:AV}{l:List Int}(hs:IL h v l):v.isCell=true:=Sl.cell hs
theorem BL.len {h:Heap}{v:AV}{l:List Bool}(hs:BL h v l):lenA v=some l.length:=Sl.len hs
theorem BL.cell {h:Heap}{v:AV}{l:List Bool}(hs:BL h v l):v.isCell=true:=Sl.cell hs
theorem IL.atE {h:Heap}{v:AV}{l:List Int}(hs:IL h v l){j:Nat}(hj:j<l.length): ∃id off lb ex,v= .slice id off l.length lb ex 1∧ ∀e,rd1 (h++e) id (off+j)=some (I64 l[j]):=by
 obtain⟨id,off,lb,ex,h1,h2,h3⟩:=hs.at hj;exact⟨id,off,lb,ex,h1,fun e=>joo e h3⟩
theorem BL.atE {h:Heap}{v:AV}{l:List Bool}(hs:BL h v l){j:Nat}(hj:j<l.length): ∃id off lb ex,v= .slice id off l.length lb ex 1∧ ∀e,rd1 (h++e) id (off+j)=some (BV l[j]):=by
 obtain⟨id,off,lb,ex,h1,h2,h3⟩:=hs.at hj;exact⟨id,off,lb,ex,h1,fun e=>joo e h3⟩
theorem LL.atE {h:Heap}{v:AV}{l:List (List Int)}(hs:LL h v l){j:Nat}(hj:j<l.length): ∃id off lb ex u,v= .slice id off l.length lb ex 1∧(∀e,rd1 (h++e) id (off+j)=some u)∧IL h u l[j]:=by
 obtain⟨id,off,lb,ex,u,h1,h2,h3,h4⟩:=hs.at hj;exact⟨id,off,lb,ex,u,h1,fun e=>joo e h3,h4⟩
/-! ### From a law's arguments -/
theorem AHas.sl {h:Heap}{by_:Nat}{e:Ty}{v:AV}{l:List e.val}(hh:AHas h (.slice by_ e) [v] l): ∃cs,Sl h e.size v cs l.length∧ ∀i (hi:i<l.length),AHas h e ((cs.drop (i*e.size)).take e.size) l[i]:=by
 rcases hh with⟨hv,rfl⟩|⟨id,row,hv,h1,h2,h3,h4⟩
 ·refine⟨[],⟨by simp,.inl ⟨rfl,?_⟩⟩,fun i hi=>absurd hi (by simp)⟩
  rcases hv with hv|hv<;>(injection hv with hv _;subst hv)
  ·exact .inl rfl
  ·exact .inr rfl
 ·injection hv with hv _
  subst hv;exact⟨row,⟨h2,.inr ⟨id,0,l.length,false,row,rfl,V2 _,h1,by omega,by rw[W1,I5 (by omega)]⟩⟩,h4⟩
theorem AHas.il {h:Heap}{by_:Nat}{v:AV}{l:List Int}(hh:AHas h (.slice by_ (.int .i64)) [v] l):IL h v l:=by
 obtain⟨cs,h1,h2⟩:=hh.sl;have e:cs=l.map I64:=by
  have hl:=h1.1;simp at hl;apply List.ext_getElem (by simp[hl])
  intro i hi hi';have:=(h2 i (by omega)).1;simp only[Ty.size,Nat.mul_one] at this;rw[List.drop_eq_getElem_cons hi] at this;simp only[List.take_succ_cons,List.take_zero,List.cons.injEq,and_true] at this;simpa using this
 subst e;exact h1
/-! ### Memory, block by block -/
theorem jjv {h e:Heap}:blk (h++e) h.length=blk e 0:=jd7 (by rw[N0 (V2 _),Nat.sub_self])
theorem jlS {h e:Heap}{k:Nat}:blk (h++e) (h.length+k)=blk e k:=jd7 (by rw[N0 (by omega)];congr 1;omega)
theorem jdj {h e:Heap}{off:Nat}:rd1 (h++e) h.length off=rd1 e 0 off:=by unfold rd1;rw[jjv]
theorem jdi {h e:Heap}{k off:Nat}:rd1 (h++e) (h.length+k) off=rd1 e k off:=by unfold rd1;rw[jlS]
theorem jdl {l:List AV}{e:Heap}{off:Nat}:rd1 (some l::e) 0 off=l[off]?:=rfl
theorem jdk {b:Option (List AV)}{e:Heap}{k off:Nat}:rd1 (b::e) (k+1) off=rd1 e k off:=rfl
theorem jem {h e:Heap}{off n:Nat}:rd (h++e) h.length off n=rd e 0 off n:=by unfold rd;rw[jjv]
theorem jeT {h e:Heap}{k off n:Nat}:rd (h++e) (h.length+k) off n=rd e k off n:=by unfold rd;rw[jlS]
theorem jen {l:List AV}{e:Heap}{off n:Nat}:rd (some l::e) 0 off n=if off+n≤l.length then some ((l.drop off).take n) else none:=rfl
theorem jeU {b:Option (List AV)}{e:Heap}{k off n:Nat}:rd (b::e) (k+1) off n=rd e k off n:=rfl
theorem jiE {h:Heap}{id off:Nat}{l:List AV}(hb:blk h id=some l):rd1 h id off=l[off]?:=by simp[rd1,hb]
theorem rd_of {h:Heap}{id off n:Nat}{l:List AV}(hb:blk h id=some l)(hn:off+n≤l.length):rd h id off n=some ((l.drop off).take n):=by simp[rd,hb,hn]
theorem jtb {fl:Nat→Bool}{h:Heap}{id off:Nat}{l vs:List AV}(hb:blk h id=some l)(hf:fl id=true)(hn:off+vs.length≤l.length):wr fl h id off vs=some (h.set id (some (l.take off++vs++l.drop (off+vs.length)))):=by simp[wr,hb,hf,hn]
end
section
open Go Go.RowKit
theorem jcM {h:Heap}{id:Nat}{l:List AV}(hi:id<h.length):blk (h.set id (some l)) id=some l:=by rw[jdE,M1];simp[hi]
theorem jc6 {h:Heap}{id i:Nat}{b:Option (List AV)}(hi:i≠id):blk (h.set id b) i=blk h i:=jd7 (by rw[M1,if_neg (Ne.symm hi)])
theorem wr_ex {fl:Nat→Bool}{h:Heap}{id off:Nat}{l vs:List AV}(hb:blk h id=some l)(hf:fl id=true)(hn:off+vs.length≤l.length):
  ∃h1,wr fl h id off vs=some h1∧blk h1 id=some (l.take off++vs++l.drop (off+vs.length))∧(∀i,i≠id→blk h1 i=blk h i)∧h1.length=h.length:=
 ⟨_,jtb hb hf hn,jcM (jcm hb),fun i hi=>jc6 hi,by simp⟩
theorem jtc {fl:Nat→Bool}{h:Heap}{id off:Nat}{l:List AV}{v:AV}(hb:blk h id=some l)(hf:fl id=true)(hn:off<l.length):
  ∃h1,wr fl h id off [v]=some h1∧blk h1 id=some (l.set off v)∧(∀i,i≠id→blk h1 i=blk h i)∧h1.length=h.length:=by
 obtain⟨h1,e1,e2,e3,e4⟩:=wr_ex (fl:=fl) (off:=off) (vs:=[v]) hb hf (by simp;omega);refine⟨h1,e1,?_,e3,e4⟩;rw[e2,List.set_eq_take_append_cons_drop,if_pos hn];simp
def OL (h:Heap)(k:Nat)(v:AV)(cs:List AV)(n:Nat):Prop:=cs.length=n*k∧
  ((v= .nil∧n=0)∨ ∃id lb row,v= .slice id 0 n lb false k∧n≤lb∧lb*k≤row.length∧blk h id=some row∧row.take (n*k)=cs)
theorem OL.nil {h:Heap}{k:Nat}:OL h k .nil [] 0:=⟨by simp,.inl ⟨rfl,rfl⟩⟩
theorem OL.sl {h:Heap}{k n:Nat}{v:AV}{cs:List AV}(ho:OL h k v cs n):Sl h k v cs n:=by
 obtain⟨h1,⟨rfl,h2⟩|⟨id,lb,row,rfl,h2,h3,h4,h5⟩⟩:=ho
 ·exact⟨h1,.inl ⟨h2,.inl rfl⟩⟩
 ·have:n*k≤lb*k:=E9 _ h2
  exact⟨h1,.inr ⟨id,0,lb,false,row,rfl,h2,h4,by omega,by rw[W1];exact h5⟩⟩
theorem OL.len {h:Heap}{k n:Nat}{v:AV}{cs:List AV}(ho:OL h k v cs n):lenA v=some n:=ho.sl.len
theorem OL.keep {h h':Heap}{k n:Nat}{v:AV}{cs:List AV}(ho:OL h k v cs n)(hk: ∀i row,i∈idOf v→blk h i=some row→blk h' i=some row):OL h' k v cs n:=by
 obtain⟨h1,h2|⟨id,lb,row,rfl,h2,h3,h4,h5⟩⟩:=ho
 ·exact⟨h1,.inl h2⟩
 ·exact⟨h1,.inr ⟨id,lb,row,rfl,h2,h3,hk id row (by simp[idOf]) h4,h5⟩⟩
theorem OL.lt {h:Heap}{k n:Nat}{v:AV}{cs:List AV}(ho:OL h k v cs n): ∀i∈idOf v,i<h.length:=by
 obtain⟨h1,⟨rfl,_⟩|⟨id,lb,row,rfl,h2,h3,h4,h5⟩⟩:=ho
 ·intro i hi;simp[idOf] at hi
 ·intro i hi;simp[idOf] at hi;subst hi;exact jcm h4
theorem jn1 {fl:Nat→Bool}{h:Heap}{k bytes n m:Nat}{v:AV}{cs new:List AV}(ho:OL h k v cs n)(hfl: ∀i∈idOf v,fl i=true)(hm:0<m)(hn:new.length=m*k)(hb:(n+m)*bytes≤reach):
  ∃v' h1,jcs fl h k bytes v m new=some (v',h1)∧OL h1 k v' (cs++new) (n+m)∧(∀i row,i∉idOf v→blk h i=some row→blk h1 i=some row)∧(∀i∈idOf v',i∈idOf v∨h.length≤i)∧h.length≤h1.length:=by
 have hm0: ¬m=0:=by omega
 obtain⟨h1,⟨rfl,rfl⟩|⟨id,lb,row,rfl,h2,h3,h4,h5⟩⟩:=ho
 ·have:cs=[]:=Y9 (by simpa using h1)
  subst this;refine⟨.slice h.length 0 m m false k,h++[some new],?_,⟨by simpa using hn,.inr ⟨h.length,m,new,by simp,by omega,by omega,jbk,by rw[Nat.zero_add,I5 (by omega)];rfl⟩⟩,fun i row _ hr=>jcq _ hr,fun i hi=>?_,by simp⟩
  ·unfold jcs
   rw[if_neg hm0];simp only;rw[if_pos (by simpa using hb)]
  ·simp[idOf] at hi;exact .inr (by omega)
 ·have hid:=hfl id (by simp[idOf])
  have hlen:(cs++new).length=(n+m)*k:=by rw[G3,h1,hn,Y0]
  by_cases hroom:n+m≤lb
  ·have hmul:(n+m)*k≤lb*k:=E9 _ hroom
   rw[Y0] at hmul;obtain⟨g,e1,e2,e3,e4⟩:=wr_ex (fl:=fl) (off:=0+n*k) (vs:=new) h4 hid (by omega);refine⟨.slice id 0 (n+m) lb false k,g,?_,⟨hlen,.inr ⟨id,lb,_,rfl,hroom,?_,e2,?_⟩⟩,fun i row' hi hr=>by rw[e3 i (by simpa[idOf] using hi)];exact hr,fun i hi=> .inl (by simpa[idOf] using hi),by omega⟩
   ·unfold jcs
    rw[if_neg hm0];simp only;rw[if_pos ⟨trivial,hb⟩,if_pos hroom,e1]
   ·simp;omega
   ·rw[Nat.zero_add,h5,I4 (by rw[hlen,Y0];omega),I5 (by rw[hlen];omega)]
  ·refine⟨.slice h.length 0 (n+m) (n+m) false k,kill h id++[some (cs++new)],?_,⟨hlen,.inr ⟨h.length,n+m,cs++new,rfl,V2 _,by rw[hlen];omega,?_,by rw[I5 (by rw[hlen];omega)]⟩⟩,fun i row' hi hr=>?_,fun i hi=>?_,by simp[kill]⟩
   ·have hnk:n*k≤lb*k:=E9 _ h2
    have hr:rd h id 0 (n*k)=some cs:=by rw[rd_of h4 (by omega),W1,h5]
    unfold jcs;rw[if_neg hm0];simp only;rw[if_pos ⟨trivial,hb⟩,if_neg hroom,hr];simp only[N6,if_false];rw[if_pos hid]
   ·have:(kill h id).length=h.length:=by simp[kill]
    rw[←this];exact jbk
   ·have hi':i≠id:=by simpa[idOf] using hi
    refine jcq _ ?_;unfold kill;rw[jc6 hi'];exact hr
   ·simp[idOf] at hi;exact .inr (by omega)
def Keep (h h':Heap)(S:List Nat):Prop:=h.length≤h'.length∧ ∀i row,i∉S→blk h i=some row→blk h' i=some row
theorem Keep.refl {h:Heap}(S:List Nat):Keep h h S:=⟨V2 _,fun i row _ h=>h⟩
theorem Keep.trans {h h1 h2:Heap}{S S':List Nat}(a:Keep h h1 S)(b:Keep h1 h2 S')(hs: ∀i∈S',i∈S∨h.length≤i):Keep h h2 S:=
 ⟨V3 a.1 b.1,fun i row hi hr=>b.2 i row (fun hm=>(hs i hm).elim hi fun hl=>by have:=jcm hr;omega) (a.2 i row hi hr)⟩
theorem Keep.mono {h h1:Heap}{S S':List Nat}(a:Keep h h1 S)(hs: ∀i∈S,i∈S'∨h.length≤i):Keep h h1 S':=
 ⟨a.1,fun i row hi hr=>a.2 i row (fun hm=>(hs i hm).elim hi fun hl=>by have:=jcm hr;omega) hr⟩
theorem Keep.then {h h1 h2:Heap}{S S' T:List Nat}(a:Keep h h1 S)(b:Keep h1 h2 S')(q1: ∀i∈S,i∈T∨h.length≤i)(q2: ∀i∈S',i∈T∨h.length≤i):Keep h h2 T:=(a.mono q1).trans b q2
theorem Keep.ext {h:Heap}(S:List Nat)(e:Heap):Keep h (h++e) S:=⟨by simp,fun i row _ hr=>jcq e hr⟩
theorem Keep.get {h h':Heap}{S:List Nat}(a:Keep h h' S){i:Nat}{row:List AV}(hi:i∉S)(hr:blk h i=some row):blk h' i=some row:=a.2 i row hi hr
theorem Keep.rd1 {h h':Heap}{S:List Nat}(a:Keep h h' S){id off:Nat}{v:AV}(hi:id∉S)(hr:rd1 h id off=some v):rd1 h' id off=some v:=by
 unfold Go.Proofs.YtlkapggcppcafaaGreatDoor.rd1 at hr ⊢;split at hr
 ·rename_i l hl;rw[a.2 id l hi hl];exact hr
 ·cases hr
theorem Keep.rd {h h':Heap}{S:List Nat}(a:Keep h h' S){id off n:Nat}{v:List AV}(hi:id∉S)(hr:rd h id off n=some v):rd h' id off n=some v:=by
 unfold Go.Proofs.YtlkapggcppcafaaGreatDoor.rd at hr ⊢;split at hr
 ·rename_i l hl;rw[a.2 id l hi hl];exact hr
 ·cases hr
theorem Sl.keep {h h':Heap}{S:List Nat}{k n:Nat}{v:AV}{cs:List AV}(hs:Sl h k v cs n)(a:Keep h h' S)(hi: ∀i∈idOf v,i∉S):Sl h' k v cs n:=
 hs.cong fun id off lb ex row e hr=>a.2 id row (hi id (by rw[e];simp[idOf])) hr
theorem IL.keep {h h':Heap}{S:List Nat}{v:AV}{l:List Int}(hs:IL h v l)(a:Keep h h' S)(hi: ∀i∈idOf v,i∉S):IL h' v l:=Sl.keep hs a hi
theorem BL.keep {h h':Heap}{S:List Nat}{v:AV}{l:List Bool}(hs:BL h v l)(a:Keep h h' S)(hi: ∀i∈idOf v,i∉S):BL h' v l:=Sl.keep hs a hi
theorem LL.keep {h h':Heap}{S:List Nat}{v:AV}{ls:List (List Int)}(hs:LL h v ls)(a:Keep h h' S)(hi: ∀i,i<h.length→i∉S):LL h' v ls:=
 have lt: ∀{k n:Nat} {v:AV} {cs:List AV},Sl h k v cs n→ ∀i∈idOf v,i<h.length:=fun hs i hi=>by
  obtain⟨h1,⟨_,rfl|rfl⟩|⟨id,off,lb,ex,row,rfl,h2,h3,h4⟩⟩:=hs
  ·simp[idOf] at hi
  ·simp[idOf] at hi
  ·simp[idOf] at hi;subst hi;exact jcm h3
 let ⟨vs,h1,h2,h3⟩:=hs;⟨vs,h1,h2.keep a fun i hm=>hi i (lt h2 i hm),fun i p q=>(h3 i p q).keep a fun j hm=>hi j (lt (h3 i p q) j hm)⟩
theorem OL.keepK {h h':Heap}{S:List Nat}{k n:Nat}{v:AV}{cs:List AV}(ho:OL h k v cs n)(a:Keep h h' S)(hi: ∀i∈idOf v,i∉S):OL h' k v cs n:=ho.keep fun i row hm hr=>a.2 i row (hi i hm) hr
theorem Sl.lt {h:Heap}{k n:Nat}{v:AV}{cs:List AV}(hs:Sl h k v cs n): ∀i∈idOf v,i<h.length:=by
 obtain⟨h1,⟨_,rfl|rfl⟩|⟨id,off,lb,ex,row,rfl,h2,h3,h4⟩⟩:=hs
 ·intro i hi;simp[idOf] at hi
 ·intro i hi;simp[idOf] at hi
 ·intro i hi;simp[idOf] at hi;subst hi;exact jcm h3
theorem Sl.set1 {fl:Nat→Bool}{h:Heap}{n j:Nat}{v x:AV}{cs:List AV}(hs:Sl h 1 v cs n)(hj:j<n)(hf: ∀i∈idOf v,fl i=true):
  ∃id off lb ex h1,v= .slice id off n lb ex 1∧wr fl h id (off+j) [x]=some h1∧Sl h1 1 v (cs.set j x) n∧Keep h h1 (idOf v)∧h1.length=h.length:=by
 obtain⟨h1,⟨h2,_⟩|⟨id,off,lb,ex,row,rfl,h2,h3,h4,h5⟩⟩:=hs
 ·omega
 ·obtain⟨g,e1,e2,e3,e4⟩:=jtc (off:=off+j) (v:=x) h3 (hf id (by simp[idOf])) (by omega)
  refine⟨id,off,lb,ex,g,rfl,e1,⟨by simpa using h1,.inr ⟨id,off,lb,ex,_,rfl,h2,e2,by simpa using h4,?_⟩⟩,⟨by omega,fun i row' hi hr=>by rw[e3 i (by simpa[idOf] using hi)];exact hr⟩,e4⟩;rw[←h5,List.drop_set];rw[if_neg (by omega),List.take_set,Nat.add_sub_cancel_left]
theorem OL.pop {h:Heap}{k n:Nat}{v:AV}{cs last:List AV}(ho:OL h k v (cs++last) (n+1))(hl:last.length=k):
  ∃v',jc3 k v none (some (I64 (n:Nat))) none=some v'∧OL h k v' cs n∧idOf v'=idOf v:=by
 obtain⟨h1,⟨_,h2⟩|⟨id,lb,row,rfl,h2,h3,h4,h5⟩⟩:=ho
 ·omega
 ·have hc:cs.length=n*k:=by rw[G3,hl,Y0] at h1;omega
  refine⟨.slice id 0 n lb false k,?_,⟨hc,.inr ⟨id,lb,row,rfl,by omega,h3,h4,?_⟩⟩,rfl⟩
  ·simp[jc3,jcJ,jiV];omega
  ·have hm:n*k≤(n+1)*k:=E9 _ (by omega)
   have e:Q4 (n*k) (Q4 ((n+1)*k) row)=Q4 (n*k) (cs++last):=by rw[h5]
   rw[List.take_take,Nat.min_eq_left hm] at e;rw[e,I4 (by omega),I5 (by omega)]
theorem BL.allE {h:Heap}{v:AV}{l:List Bool}(hs:BL h v l)(h0:0<l.length): ∃id off lb ex,v= .slice id off l.length lb ex 1∧ ∀j (hj:j<l.length) e,rd1 (h++e) id (off+j)=some (BV l[j]):=by
 obtain⟨id,off,lb,ex,rfl,_⟩:=hs.at h0;refine⟨id,off,lb,ex,rfl,fun j hj e=>?_⟩;obtain⟨id',off',lb',ex',q,hr⟩:=hs.atE hj;injection q with q1 q2 _ q4 q5 _
 subst q1;subst q2
 exact hr e
theorem IL.allE {h:Heap}{v:AV}{l:List Int}(hs:IL h v l)(h0:0<l.length): ∃id off lb ex,v= .slice id off l.length lb ex 1∧ ∀j (hj:j<l.length) e,rd1 (h++e) id (off+j)=some (I64 l[j]):=by
 obtain⟨id,off,lb,ex,rfl,_⟩:=hs.at h0;refine⟨id,off,lb,ex,rfl,fun j hj e=>?_⟩;obtain⟨id',off',lb',ex',q,hr⟩:=hs.atE hj;injection q with q1 q2 _ q4 q5 _
 subst q1;subst q2
 exact hr e
def New (h h':Heap)(k:Nat)(v:AV)(cs:List AV)(n:Nat):Prop:=OL h' k v cs n∧(∀i∈idOf v,h.length≤i)∧Keep h h' []
theorem New.nil (h:Heap){h':Heap}{k:Nat}(a:Keep h h' []):New h h' k .nil [] 0:=⟨OL.nil,by simp[idOf],a⟩
theorem New.push {fl:Nat→Bool}{h h':Heap}{k bytes n:Nat}{v:AV}{cs:List AV}(hn:New h h' k v cs n)(hf: ∀i,h.length≤i→fl i=true)(hb:(n+1)*bytes≤reach)(x:List AV)(hx:x.length=k):
  ∃v2 h2,jdN (h'++[some x]) k (.slice h'.length 0 1 1 true k)=some (1,x)∧jcs fl (h'++[some x]) k bytes v 1 x=some (v2,h2)∧New h h2 k v2 (cs++x) (n+1):=by
 obtain⟨ho,hv,hkp⟩:=hn;obtain⟨v2,h2,hap,ho2,hk2,hti2,hl2⟩:=jn1 (fl:=fl) (bytes:=bytes) (m:=1) (new:=x) (OL.keepK (h':=h'++[some x]) ho (Keep.ext [] _) (by simp)) (fun i hi=>hf i (hv i hi)) (by omega) (by omega) hb;have hkl:=hkp.1;simp only[G3,List.length_cons,List.length_nil] at hl2 hti2;refine⟨v2,h2,?_,hap,ho2,fun i hi=>(hti2 i hi).elim (hv i) (fun q=>by omega),by omega,fun i row _ hr=>hk2 i row (fun q=>by have:=hv i q;have:=jcm hr;omega) (jcq _ (hkp.2 i row (by simp) hr))⟩;subst hx;simp[jdN,jem,jen]
theorem New.sl {h h':Heap}{k n:Nat}{v:AV}{cs:List AV}(hn:New h h' k v cs n):Sl h' k v cs n:=hn.1.sl
theorem New.kp {h h':Heap}{k n:Nat}{v:AV}{cs:List AV}(hn:New h h' k v cs n):Keep h h' []:=hn.2.2
theorem New.next {h h' h2:Heap}{k n:Nat}{v:AV}{cs:List AV}{S:List Nat}(hn:New h h' k v cs n)(a:Keep h' h2 S)(hi: ∀i∈S,i∉idOf v∧h.length≤i):New h h2 k v cs n:=
 ⟨hn.1.keepK a (fun i hv hs=>(hi i hs).1 hv),hn.2.1,hn.2.2.then a (fun i hi=> .inl hi) fun i q=> .inr (hi i q).2⟩
def NewI (h h':Heap)(v:AV)(l:List Int):Prop:=New h h' 1 v (l.map I64) l.length
theorem NewI.il {h h':Heap}{v:AV}{l:List Int}(hn:NewI h h' v l):IL h' v l:=hn.sl
def kkM (d t:Nat):jav:=⟨some d,.mv (.tmp t),none,true⟩
def kkI (d:Nat)(o:AOp):jav:=⟨some d,o,none,true⟩
def kkL (d t:Nat):jav:=⟨some d,.load none (.tmp t),none,true⟩
def kkA (d k t:Nat):jav:=⟨some d,.fieldAddr k (.tmp t),none,true⟩
def kkV (n:Int):Opd:= .av (.val (.int .i64 n))
def kkF (f:FuncId):Opd:= .av (.func f [])
def kkZ (n:Int):AV:= .val (.int .i64 n)
def kkS:AV:= .val (.slice none 0 0)
def kkt (n:Nat):Opd:= .tmp n
def kky:Opd:= .av (.val (.bool true))
def kkn:Opd:= .av (.val (.bool false))
def kkN (d t:Nat):jav:=⟨some d,.nilCheck (.tmp t),none,true⟩
def kkH (d t:Nat):jav:=⟨some d,.len (.tmp t),none,true⟩
def kkX (d k a b:Nat):jav:=⟨some d,.indexAddr k (.tmp a) (.tmp b),none,true⟩
def kkB (d:Nat)(o:BinOp)(a:Nat)(b:Opd):jav:=⟨some d,.bin o (.tmp a) b,none,true⟩
def kkU (d t:Nat):jav:=⟨some d,.un .not (.tmp t),none,true⟩
def kkC (d:Nat)(f:FuncId)(l:List Opd):jav:=⟨some d,.call (.av (.func f [])) l,none,true⟩
def kkK (d:Nat)(n:Int):jav:=⟨some d,.mv (.av (.val (.int .i64 n))),none,true⟩
def kkQ (d k t:Nat):jav:=⟨some d,.load (some k) (.tmp t),none,true⟩
def kkR (k a b:Nat):jav:=⟨none,.store k (.tmp a) (.tmp b),none,true⟩
def kkE (d g t:Nat):jav:=⟨some d,.pick (.tmp g) (.tmp t) (.av (.val (.bool false))),none,true⟩
def kkO (d g t:Nat):jav:=⟨some d,.pick (.tmp g) (.av (.val (.bool true))) (.tmp t),none,true⟩
def kkG (d:Nat)(o:AOp)(g:Nat):jav:=⟨some d,o,some (g,true),true⟩
def kkJ (d:Nat)(o:AOp)(g:Nat):jav:=⟨some d,o,some (g,false),true⟩
def kkx (d k t:Nat):jav:=⟨some d,.extract k (.tmp t),none,true⟩
def kks (l:List jav)(c:jam):jam:= .seq (.ops l) c
def kkd (l:List jav)(c:jam):jam:= .seq (.opsD l) c
def kkr (t:Nat)(l:List jav):jam:= .cond (.tmp t) (.seq (.ops l) .ret) .skip
theorem kkP:(∀(d t:Nat),kkM d t=⟨some d,.mv (.tmp t),none,true⟩)∧(∀(d:Nat) (o:AOp),kkI d o=⟨some d,o,none,true⟩)∧(∀(d t:Nat),kkL d t=⟨some d,.load none (.tmp t),none,true⟩)∧(∀(d k t:Nat),kkA d k t=⟨some d,.fieldAddr k (.tmp t),none,true⟩)∧(∀(n:Int),kkV n= .av (.val (.int .i64 n)))∧(∀(f:FuncId),kkF f= .av (.func f []))∧(∀(n:Int),kkZ n= .val (.int .i64 n))∧kkS= .val (.slice none 0 0)∧(∀(n:Nat),kkt n= .tmp n)∧kky= .av (.val (.bool true))∧kkn= .av (.val (.bool false))∧(∀(d t:Nat),kkN d t=⟨some d,.nilCheck (.tmp t),none,true⟩)∧(∀(d t:Nat),kkH d t=⟨some d,.len (.tmp t),none,true⟩)∧(∀(d k a b:Nat),kkX d k a b=⟨some d,.indexAddr k (.tmp a) (.tmp b),none,true⟩)∧(∀(d:Nat) (o:BinOp) (a:Nat) (b:Opd),kkB d o a b=⟨some d,.bin o (.tmp a) b,none,true⟩)∧(∀(d t:Nat),kkU d t=⟨some d,.un .not (.tmp t),none,true⟩)∧(∀(d:Nat) (f:FuncId) (l:List Opd),kkC d f l=⟨some d,.call (.av (.func f [])) l,none,true⟩)∧(∀(d:Nat) (n:Int),kkK d n=⟨some d,.mv (.av (.val (.int .i64 n))),none,true⟩)∧(∀(d k t:Nat),kkQ d k t=⟨some d,.load (some k) (.tmp t),none,true⟩)∧(∀(k a b:Nat),kkR k a b=⟨none,.store k (.tmp a) (.tmp b),none,true⟩)∧(∀(d g t:Nat),kkE d g t=⟨some d,.pick (.tmp g) (.tmp t) (.av (.val (.bool false))),none,true⟩)∧(∀(d g t:Nat),kkO d g t=⟨some d,.pick (.tmp g) (.av (.val (.bool true))) (.tmp t),none,true⟩)∧(∀(d:Nat) (o:AOp) (g:Nat),kkG d o g=⟨some d,o,some (g,true),true⟩)∧(∀(d:Nat) (o:AOp) (g:Nat),kkJ d o g=⟨some d,o,some (g,false),true⟩)∧(∀(d k t:Nat),kkx d k t=⟨some d,.extract k (.tmp t),none,true⟩)∧(∀(l:List jav) (c:jam),kks l c= .seq (.ops l) c)∧(∀(l:List jav) (c:jam),kkd l c= .seq (.opsD l) c)∧(∀(t:Nat) (l:List jav),kkr t l= .cond (.tmp t) (.seq (.ops l) .ret) .skip):=⟨fun _ _=>rfl,fun _ _=>rfl,fun _ _=>rfl,fun _ _ _=>rfl,fun _=>rfl,fun _=>rfl,fun _=>rfl,rfl,fun _=>rfl,rfl,rfl,fun _ _=>rfl,fun _ _=>rfl,fun _ _ _ _=>rfl,fun _ _ _ _=>rfl,fun _ _=>rfl,fun _ _ _=>rfl,fun _ _=>rfl,fun _ _ _=>rfl,fun _ _ _=>rfl,fun _ _ _=>rfl,fun _ _ _=>rfl,fun _ _ _=>rfl,fun _ _ _=>rfl,fun _ _ _=>rfl,fun _ _=>rfl,fun _ _=>rfl,fun _ _=>rfl⟩
end
end Go.Proofs.YtlkapggcppcafaaGreatDoor
