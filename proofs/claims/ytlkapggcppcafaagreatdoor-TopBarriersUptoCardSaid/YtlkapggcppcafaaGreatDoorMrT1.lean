/-
  Words of my own: Go data as typed Lean data ('Ty', 'Has'), how an argument that can be read gives it, and the frame that every law's statement goes through.
-/
import Derived.BigQuiet
import Derived.Deep.DeepMust
import Derived.Deep.LoopGhost
import Derived.Deep.QuietTactic
import Derived.Deep.Slices
import Derived.Handy
import Derived.Laws.BitsAllLaws
import Derived.Lib.Hide
import Derived.OpenShut
import Derived.ProofKit
import Derived.SizedLaws
import Derived.Test.YtlkapggcppcafaaGreatDoorRows
import Derived.WalkKit
import Derived.WalkLawsBesides
import Derived.WalkSmall
import Derived.WalkSpells
set_option linter.unusedVariables false
set_option linter.unusedSimpArgs false
open List renaming mem_append→O3
open Prod.mk renaming injEq→O4
namespace Go.Proofs.YtlkapggcppcafaaGreatDoor
open Go.RowKit Go.ChangeShapes Go.WideShapes Go.ChangeAt
inductive Ty where
  |int (k:IntKind)
  |bool
  |str
  |unit
  |prod (a b:Ty)
  |slice (bytes:Nat) (e:Ty)
@[reducible] def Ty.val:Ty→Type
  | .int _=>Int
  | .bool=>Bool
  | .str=>ByteArray
  | .unit=>Unit
  | .prod a b=>a.val×b.val
  | .slice _ e=>List e.val
@[simp] def Ty.size:Ty→Nat
  | .int _=>1
  | .bool=>1
  | .str=>1
  | .unit=>0
  | .prod a b=>a.size+b.size
  | .slice _ _=>1
def Has (w:World)(B:Nat):(t:Ty)→List Value→t.val→Prop
  | .int k,cs,n=>cs=[.int k n]∧(Lit.int k n).wf=true
  | .bool,cs,b=>cs=[.bool b]
  | .str,cs,s=>cs=[.string s]∧s.size≤maxLen
  | .unit,cs,_=>cs=[]
  | .prod a b,cs,x=> ∃c d,cs=c++d∧Has w B a c x.1∧Has w B b d x.2
  | .slice _ e,cs,l=> ∃A cap,cs=[.slice A l.length cap]∧l.length≤cap∧cap≤maxLen∧(A=none→cap=0)∧
      (l≠[]→ ∃b off,A=some ⟨b,off,none⟩∧b<B∧
        ∀i (h:i<l.length),∃ ecs:List Value,ecs.length=e.size∧(∀j,j<e.size→w.cell? ⟨b,off+i*e.size+j,none⟩=ecs[j]?)∧Has w B e ecs l[i])
def jhQ:(t:Ty)→t.val→Prop
  | .int _,_=>True
  | .bool,_=>True
  | .str,s=>s.size≤140737488351232
  | .unit,_=>True
  | .prod a b,x=>jhQ a x.1∧jhQ b x.2
  | .slice by_ e,l=>l.length*by_≤140737488351232∧ ∀x∈l,jhQ e x
theorem Has.size {w:World}{B:Nat}: ∀{t:Ty} {cs:List Value} {x:t.val},Has w B t cs x→cs.length=t.size
 | .int _,_,_,h=>by simp[h.1]
 | .bool,_,_,h=>by simp only[Has] at h;simp[h]
 | .str,_,_,h=>by simp[h.1]
 | .unit,_,_,h=>by simp only[Has] at h;simp[h]
 | .prod a b,_,_,h=>by
  obtain⟨c,d,rfl,hc,hd⟩:=h;simp[hc.size,hd.size]
 | .slice _ e,_,_,h=>by
  obtain⟨A,cap,rfl,_⟩:=h;simp
theorem Has.keep {w w':World}{B B':Nat}(hk: ∀p:Addr,p.block<B→w'.cell? p=w.cell? p)(hB:B≤B'): ∀{t:Ty} {cs:List Value} {x:t.val},Has w B t cs x→Has w' B' t cs x
 | .int _,_,_,h=>h
 | .bool,_,_,h=>h
 | .str,_,_,h=>h
 | .unit,_,_,h=>h
 | .prod a b,_,_,h=>by
  obtain⟨c,d,rfl,hc,hd⟩:=h;exact⟨c,d,rfl,hc.keep hk hB,hd.keep hk hB⟩
 | .slice _ e,_,l,h=>by
  obtain⟨A,cap,rfl,h1,h2,h3,h4⟩:=h;refine⟨A,cap,rfl,h1,h2,h3,fun hn=>?_⟩;obtain⟨b,off,rfl,hb,hi⟩:=h4 hn;refine⟨b,off,rfl,Nat.lt_of_lt_of_le hb hB,fun i hil=>?_⟩;obtain⟨ecs,hl,hc,he⟩:=hi i hil;exact⟨ecs,hl,fun j hj=>(hk _ hb).trans (hc j hj),he.keep hk hB⟩
theorem Has.below {w w':World}{B B':Nat}{t:Ty}{cs:List Value}{x:t.val}(h:Has w B t cs x)(hb:Below B w w')(hB:B≤B'):Has w' B' t cs x:=
 h.keep (fun _ hp=>hb.cell hp) hB
theorem Has.more {w:World}{B B':Nat}{t:Ty}{cs:List Value}{x:t.val}(h:Has w B t cs x)(hB:B≤B'):Has w B' t cs x:=
 h.keep (fun _ _=>rfl) hB
/-! ### From the program's types -/
def jcI:List Ty→Ty
  |[]=> .unit
  |[a]=>a
  |a::b::r=> .prod a (jcI (b::r))
def jfg:List Ty→Nat
  |[]=>0
  |a::r=>a.size+jfg r
def jeh (P:Program)(g:TypeId→Option Ty):Nat→List Field→Option (List Ty)
  |_,[]=>some []
  |acc,f::r=>match g f.type with
    |some ty=>if f.offset=acc∧P.cellsOf f.type=ty.size then (jeh P g (acc+ty.size) r).map (ty:: ·) else none
    |none=>none
def tyOf (P:Program):Nat→TypeId→Option Ty
  |0,_=>none
  |n+1,t=>match P.underlying t with
    |some (.int k)=>some (.int k)
    |some .bool=>some .bool
    |some .string=>some .str
    |some (.slice e)=>match tyOf P n e with
      |some x=>if P.cellsOf e=x.size∧0<x.size then some (.slice (P.bytesOf e) x) else none
      |none=>none
    |some (.struct fs)=>match jeh P (tyOf P n) 0 fs.toList with
      |some ts=>if P.cellsOf t=jfg ts then some (jcI ts) else none
      |none=>none
    |_=>none
theorem jhs: ∀ts:List Ty,(jcI ts).size=jfg ts
 |[]=>rfl
 |[a]=>by simp[jcI,jfg]
 |a::b::r=>by
  have:=jhs (b::r);simp only[jcI,Ty.size,jfg] at*;omega
section
variable {H:Type}{enc:TypeId×Value→H}{P:Program}{w:World}{B:Nat}
theorem jrn (g:TypeId→Option Ty)(n:Nat)
  (ih: ∀(t:TypeId) (ty:Ty),g t=some ty→ ∀(cs:List Value) (d:DataW H) (ps:List MemPlace),DataW.trod enc P w 0 (fun _=>true) true n t cs=some (d,ps)→cs.length=ty.size→
   (∀p∈ps,p.block<B)→(∀k∈d.weights P t,k≤reachBytes)→ ∃x:ty.val,Has w B ty cs x∧jhQ ty x):
  ∀(fs:List Field) (acc:Nat) (ts:List Ty) (xs:List (DataW H×List MemPlace)) (cs:List Value),jeh P g acc fs=some ts→xs.length=fs.length→
   cs.length=acc+jfg ts→
   (∀(i:Nat) (f:Field),fs[i]?=some f→DataW.trod enc P w 0 (fun _=>true) true n f.type ((cs.drop f.offset).take (P.cellsOf f.type))=xs[i]?)→
   (∀p∈xs.flatMap (·.2),p.block<B)→(∀k∈DataW.weightsEach P (fs.map (·.type)) (xs.map (·.1)),k≤reachBytes)→
   ∃x:(jcI ts).val,Has w B (jcI ts) (cs.drop acc) x∧jhQ (jcI ts) x:=by
 intro fs;induction fs with
 |nil=>
  intro acc ts xs cs h1 _ h3 _ _ _;simp only[jeh,Option.some.injEq] at h1;subst h1;refine⟨(),?_,trivial⟩;simp only[jfg] at h3;simp only[jcI,Has];exact List.drop_eq_nil_of_le (by omega)
 |cons f r ihf=>
  intro acc ts xs cs h1 h2 h3 h4 h5 h6;simp only[jeh] at h1;split at h1
  ·rename_i ty hty
   split at h1
   ·rename_i hoc
    obtain⟨ho,hc⟩:=hoc;obtain⟨ts',hts',rfl⟩:=Option.map_eq_some_iff.1 h1;match xs,h2 with
    |y::ys,h2=>
    have hy:=h4 0 f rfl;simp only[List.getElem?_cons_zero] at hy;rw[ho,hc] at hy;simp only[jfg] at h3;have hlen:((cs.drop acc).take ty.size).length=ty.size:=by
     rw[List.length_take,List.length_drop];omega
    simp only[List.map_cons,DataW.weightsEach] at h6;obtain⟨x,hx,hsx⟩:=ih f.type ty hty _ y.1 y.2 (by rw[hy]) hlen (fun p hp=>h5 p (by simp[hp])) (fun k hk=>h6 k (by simp[hk]));obtain⟨z,hz,hsz⟩:=ihf (acc+ty.size) ts' ys cs hts' (by simpa using h2) (by omega) (fun i f' hf'=>by have:=h4 (i+1) f' (by simpa using hf');simpa using this)
     (fun p hp=>h5 p (by simp only[List.flatMap_cons,O3];exact .inr hp)) (fun k hk=>h6 k (by simp[hk]))
    have hcut:cs.drop acc=(cs.drop acc).take ty.size++cs.drop (acc+ty.size):=by
     rw[←List.drop_drop,List.take_append_drop]
    match ts',hts',z,hz,hsz,h3 with
    |[],hts',z,hz,hsz,h3=>
     refine⟨x,?_,hsx⟩;simp only[jcI] at hz ⊢;simp only[Has] at hz;rw[hcut,hz,List.append_nil];exact hx
    |b::r',hts',z,hz,hsz,h3=>
     refine⟨(x,z),?_,⟨hsx,hsz⟩⟩;simp only[jcI];exact⟨_,_,hcut,hx,hz⟩
   ·cases h1
  ·cases h1
theorem joB: ∀(m:Nat) (t:TypeId) (ty:Ty),tyOf P m t=some ty→ ∀(n:Nat) (cs:List Value) (d:DataW H) (ps:List MemPlace),
  DataW.trod enc P w 0 (fun _=>true) true n t cs=some (d,ps)→cs.length=ty.size→(∀p∈ps,p.block<B)→(∀k∈d.weights P t,k≤reachBytes)→ ∃x:ty.val,Has w B ty cs x∧jhQ ty x:=by
 intro m;induction m with
 |zero=>intro t ty h;cases h
 |succ m ih=>
  intro t ty h n cs d ps htr hlen hps hwt;simp only[tyOf] at h;split at h
  ·rename_i k hk
   injection h with h
   subst h;obtain⟨z,hz,_,hw⟩:=DataW.trod_int hk htr;exact⟨z,⟨hz,hw⟩,trivial⟩
  ·rename_i hk
   injection h with h
   subst h;obtain⟨b,hb⟩: ∃b,cs=[.bool b]:=by
    cases n with
    |zero=>simp[DataW.trod] at htr
    |succ n=>
     unfold DataW.trod at htr;rw[hk] at htr;split at htr<;>simp_all
   exact⟨b,hb,trivial⟩
  ·rename_i hk
   injection h with h
   subst h;obtain⟨s,rfl,hs,hd⟩: ∃s,cs=[.string s]∧s.size≤maxLen∧d= .lit (.string s.data.toList):=by
    cases n with
    |zero=>simp[DataW.trod] at htr
    |succ n=>
     unfold DataW.trod at htr;rw[hk] at htr;split at htr<;>simp_all
   subst hd;have:=hwt s.data.toList.length (by simp[DataW.weights]);refine⟨s,⟨rfl,hs⟩,?_⟩;rw[Array.length_toList] at this;exact this
  ·rename_i e hk
   split at h
   ·rename_i ety hety
    split at h
    ·rename_i hc
     injection h with h
     subst h;rcases Go.Deep.open_slice hk htr with⟨rfl,h0⟩|⟨a,len,cap,m',n',D,Pl,rfl,_,hl,hm,hmm,hx,hi⟩
     ·exact⟨[],⟨none,0,rfl,by simp,by unfold maxLen;omega,fun _=>rfl,fun h=>absurd rfl h⟩,by simp[jhQ]⟩
     ·simp only[if_true] at hmm
      subst hmm;simp only[O4] at hx;obtain⟨rfl,rfl⟩:=hx;have hw0:(len+(m' - len))*P.bytesOf e≤reachBytes:=hwt _ (by simp[DataW.weights,hk]);have hel: ∀i,i<len→ ∃x:ety.val,(∃ecs:List Value,ecs.length=ety.size∧(∀j,j<ety.size→w.cell? ((a.add (i*ety.size)).add j)=ecs[j]?)∧Has w B ety ecs x)∧jhQ ety x:=by
       intro i hil;obtain⟨cs',hcs',ht'⟩:=hi i (by omega);obtain⟨_,hcl,hat⟩:=World.cells?_some hcs';rw[hc.1] at hcl hat;obtain⟨x,hx,hsx⟩:=ih e ety hety n' cs' (D i) (Pl i) ht' hcl
        (fun p hp => hps p (by
         rw[O3];right
         exact List.mem_flatMap.2 ⟨i,by simp;omega,hp⟩))
        (fun k hk' => hwt k (by
         simp only[DataW.weights,hk,List.mem_cons,O3];right;left
         have hmem: ∀(l:List (DataW H)) (y:DataW H),y∈l→ ∀k∈y.weights P e,k∈DataW.weightsAll P e l:=by
          intro l;induction l with
          |nil=>intro y hy;cases hy
          |cons z l ihl=>
           intro y hy k hk;simp only[DataW.weightsAll,O3];rcases List.mem_cons.1 hy with rfl|hy
           ·exact .inl hk
           ·exact .inr (ihl y hy k hk)
         exact hmem _ (D i) (List.mem_map.2 ⟨i,by simp;omega,rfl⟩) k hk'))
       exact⟨x,⟨cs',hcl,hat,hx⟩,hsx⟩
      obtain⟨l,hll,hl2⟩: ∃l:List ety.val,l.length=len∧ ∀i (h:i<l.length),(∃ecs:List Value,ecs.length=ety.size∧(∀j,j<ety.size→w.cell? ((a.add (i*ety.size)).add j)=ecs[j]?)∧Has w B ety ecs l[i])∧jhQ ety l[i]:=by
       clear hw0 hwt hps hlen htr hi hl;induction len with
       |zero=>exact⟨[],rfl,fun i h=>absurd h (by simp)⟩
       |succ len ihl=>
        obtain⟨l,hll,hl2⟩:=ihl (fun i hi=>hel i (by omega));obtain⟨x,hx,hsx⟩:=hel len (by omega);refine⟨l++[x],by simp[hll],fun i h=>?_⟩;by_cases hi:i<l.length
        ·simp only[List.getElem_append_left hi]
         exact hl2 i hi
        ·have:i=len:=by simp at h;omega
         subst this;simp only[List.getElem_append_right (Nat.le_of_eq hll),hll,Nat.sub_self,List.getElem_cons_zero];exact⟨hx,hsx⟩
      refine⟨l,⟨some a,m',by rw[hll],by rw[hll];exact hl,hm,by simp,fun hn=>?_⟩,?_,?_⟩
      ·have hpos:0<l.length:=List.length_pos_iff.2 hn
       obtain⟨b,off,spot⟩:=a;obtain⟨⟨ecs,hecl,hec,_⟩,_⟩:=hl2 0 hpos;have hs:spot=none:=by
        have h1:=hec 0 hc.2;have h2:ecs[0]?=some (ecs[0]'(by omega)):=List.getElem?_eq_getElem _;rw[h2] at h1;simpa[Addr.add] using World.cell?_spot h1
       subst hs;refine⟨b,off,rfl,?_,fun i h=>?_⟩
       ·refine hps (.cell b off) ?_
        rw[O3];left
        exact MemPlace.mem_row.2 ⟨0,by rw[hc.1];exact Nat.mul_pos (by omega) hc.2,by simp⟩
       ·obtain⟨⟨ecs,h1,h2,h3⟩,_⟩:=hl2 i h
        refine⟨ecs,h1,fun j hj=>?_,h3⟩;rw[←h2 j hj,Go.Deep.add_add];congr 1
        unfold Addr.add;split
        ·simp
        ·simp[Nat.add_assoc]
      ·rw[hll]
       have:len*P.bytesOf e≤(len+(m' - len))*P.bytesOf e:=Nat.mul_le_mul_right _ (by omega);simp only[reachBytes] at hw0;omega
      ·intro x hx
       obtain⟨i,hi,rfl⟩:=List.getElem_of_mem hx;exact (hl2 i hi).2
    ·cases h
   ·cases h
  ·rename_i fs hk
   split at h
   ·rename_i ts hts
    split at h
    ·rename_i hc
     injection h with h
     subst h;obtain⟨xs,n',_,hx,hcl,hxl,hf⟩:=DataW.trod_struct hk htr;simp only[O4] at hx;obtain⟨rfl,rfl⟩:=hx;have:=jrn (enc:=enc) (P:=P) (w:=w) (B:=B) (tyOf P m) n' (fun t ty h cs d ps h1=>ih t ty h n' cs d ps h1) fs.toList 0 ts xs cs hts (by simpa using hxl) (by rw[hcl,hc];omega)
      (fun i f hif=>hf i f (by simpa using hif)) hps (fun k hk'=>hwt k (by simp only[DataW.weights,hk];exact hk'))
     simpa using this
    ·cases h
   ·cases h
  ·cases h
theorem jd5 {t:TypeId}{ty:Ty}(m:Nat)(h:tyOf P m t=some ty){v:Value}{d:DataW H}{ps:List MemPlace}
  (htr:DataW.Trod enc P w 0 (fun _=>true) true t v d ps) (hlen:v.cells.size=ty.size) (hps: ∀p∈ps,p.block<B) (hwt: ∀k∈d.weights P t,k≤reachBytes): ∃x:ty.val,Has w B ty v.cells.toList x∧jhQ ty x:=by
 obtain⟨n,hn⟩:=htr;exact joB m t ty h n _ d ps hn (by simpa using hlen) hps hwt
/-! ### The arguments together -/
def jeY (P:Program)(t:TypeId):Bool:=match P.underlying t with|some (.struct _)=>true|_=>false
def jhD (st:Bool)(cs:List Value):Value:=match st with|true=> .agg cs.toArray|false=>cs.headD undef
def jeI (Q:(t:Ty)→t.val→Prop)(w:World)(B:Nat):List (Bool×Ty)→List Value→Prop
  |[],vs=>vs=[]
  |p::r,vs=> ∃cs x vs',vs=jhD p.1 cs::vs'∧Has w B p.2 cs x∧Q p.2 x∧jeI Q w B r vs'
def jn0 (P:Program)(m:Nat):List TypeId→Option (List (Bool×Ty))
  |[]=>some []
  |t::r=>match tyOf P m t,jn0 P m r with
    |some ty,some l=>some ((jeY P t,ty)::l)
    |_,_=>none
theorem jrm {t:TypeId}{ty:Ty}(m:Nat)(h:tyOf P m t=some ty){v:Value}{d:DataW H}{ps:List MemPlace}{r:Reach}{b0:Nat}(hok:Value.okWide P w r b0 t v)
  (htr:DataW.Trod enc P w 0 (fun _=>true) true t v d ps) (hps: ∀p∈ps,p.block<B) (hwt: ∀k∈d.weights P t,k≤reachBytes):
  ∃cs x,v.cells.toList=cs∧v=jhD (jeY P t) cs∧Has w B ty cs x∧jhQ ty x:=by
 cases m with
 |zero=>cases h
 |succ m=>
  have h0:=h;simp only[tyOf] at h;split at h
  ·rename_i k hk
   injection h with h;subst h
   obtain⟨n,rfl⟩:=okWide_int hk hok;obtain⟨x,hx⟩:=jd5 (m+1) h0 htr rfl hps hwt;exact⟨_,x,rfl,by simp[jeY,hk,jhD,Value.cells],hx⟩
  ·rename_i hk
   injection h with h;subst h
   obtain⟨n,rfl⟩:=okWide_bool hk hok;obtain⟨x,hx⟩:=jd5 (m+1) h0 htr rfl hps hwt;exact⟨_,x,rfl,by simp[jeY,hk,jhD,Value.cells],hx⟩
  ·rename_i hk
   injection h with h;subst h
   obtain⟨n,rfl⟩:=okWide_string hk hok;obtain⟨x,hx⟩:=jd5 (m+1) h0 htr rfl hps hwt;exact⟨_,x,rfl,by simp[jeY,hk,jhD,Value.cells],hx⟩
  ·rename_i e hk
   split at h
   ·split at h
    ·injection h with h;subst h
     obtain⟨a,len,cap,rfl⟩:=okWide_slice hk hok;obtain⟨x,hx⟩:=jd5 (m+1) h0 htr rfl hps hwt;exact⟨_,x,rfl,by simp[jeY,hk,jhD,Value.cells],hx⟩
    ·cases h
   ·cases h
  ·rename_i fs hk
   split at h
   ·rename_i ts hts
    split at h
    ·rename_i hc
     injection h with h;subst h
     obtain⟨cs,rfl,hcs⟩:=okWide_struct hk hok;obtain⟨x,hx⟩:=jd5 (m+1) h0 htr (by rw[jhs,← hc,← hcs];rfl) hps hwt;exact⟨_,x,rfl,by simp[jeY,hk,jhD,Value.cells],hx⟩
    ·cases h
   ·cases h
  ·cases h
theorem jlk {W W':World}(hl:laidOutB P=true)(hb:Below W.heap.size W W'): ∀(ts:List TypeId),(∀t∈ts,P.readableRec t=true∧t<P.types.size)→ ∀(vs:List Value) (ds:List (DataW H)) (ps:List MemPlace),
  DataW.TrodAll enc P W 0 (fun _=>true) true ts vs ds ps→(∀x∈ps,x.block<W.heap.size)→DataW.TrodAll enc P W' 0 (fun b=>decide (b<W.heap.size)) true ts vs ds ps:=by
 intro ts;induction ts with
 |nil=>
  intro _ vs ds ps h _;obtain⟨rfl,rfl,rfl⟩:=trodAll_nil h
  rfl
 |cons t ts ih=>
  intro hr vs ds ps h hlt;obtain⟨v,vs',d,ds',p,q,rfl,rfl,rfl,h0,h1⟩:=trodAll_cons h;exact⟨p,q,Below.trod hl (hr t (by simp)).1 (hr t (by simp)).2 h0 hb (fun x hx=>hlt x (by simp[hx])),ih (fun t ht=>hr t (by simp[ht])) vs' ds' q h1 (fun x hx=>hlt x (by simp[hx])),rfl⟩
end
theorem Tryz.own:ownKnob Tryz.prog.godebug=none:=by kernel_rfl
theorem Tryz.laidOut:laidOutB Tryz.prog=true:=by kernel_rfl
theorem ret_bool {a b:Bool}(h:a=b):Ending.returned (.bool a)= .returned (.bool b):=by rw[h]
theorem jtY {k:IntKind}{a b:Int}(h:a=b):Ending.returned (.int k a)= .returned (.int k b):=by rw[h]
theorem jec {k l:IntKind}{a b c d:Int}(h:a=b)(h':c=d):Ending.returned (.tuple #[.int k a,.int l c])= .returned (.tuple #[.int k b,.int l d]):=by rw[h,h']
end Go.Proofs.YtlkapggcppcafaaGreatDoor
