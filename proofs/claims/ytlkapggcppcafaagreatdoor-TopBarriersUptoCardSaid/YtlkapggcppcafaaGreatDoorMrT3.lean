/-
  AM and the program's machine: a region that draws its order.
-/
import Derived.LoopN
import Derived.Maps.RangeRun
import Derived.Test.YtlkapggcppcafaaGreatDoorMrT2
set_option linter.unusedVariables false
set_option linter.unusedSimpArgs false
open Array renaming getElem?_eq_getElem→V7,getD_eq_getD_getElem?→J0,getElem?_setIfInBounds→G5,getElem?_eq_some_iff→J2,replicate→R8,getElem?_replicate→R9,length_toList→E4,getElem?_append_left→G1,getElem?_toList→N3,getElem?_append_right→I1
open Bool renaming false_eq_true→N6,and_eq_true→U2,or_eq_true→R7
open List renaming getD→E7,getElem?_append_right→N0,getElem?_eq_none→J1,getElem?_eq_some_iff→U0,getElem?_eq_getElem→U1,mem_filter→J7,replicate→O6,getElem?_replicate→J8,getElem?_set→M1,countP_cons→J9,mem_range→R0,mapM_cons→Q7,getElem?_zipIdx→R4,all_eq_true→N2,mem_of_getElem?→R5
open Nat renaming le_refl→V2,le_trans→V3,lt_of_lt_of_le→V0,zero_le→J3,max_eq_right→J4,max_eq_left→J5,le_max_right→J6,le_of_not_lt→I2
open Option renaming getD_some→W9,pure_def→Q6,bind_eq_bind→Q8,bind_eq_some_iff→E0,map_eq_some_iff→U5
open Option.some renaming injEq→U4
open Prod.mk renaming injEq→O4
namespace Go.Proofs.YtlkapggcppcafaaGreatDoor
section
open Go
section
variable {P:Program}
theorem jmS {top}{fl:Nat→Bool}{s:jal}{h h':Heap}{x:AOp}{v:AV}(hx:clsA x=0)(he:jah top fl s h x=some (v,h')):h'=h∧ ∀fl2 h2,jah top fl2 s h2 x=some (v,h2):=by
 cases x<;>first|(simp[clsA] at hx;done)|skip
 all_goals (simp only[jah] at he ⊢)
 all_goals (try (cases he;done))
 all_goals (repeat' split at he)
 all_goals (try (cases he;done))
 all_goals (injection he with he;injection he with he1 he2;subst he1;subst he2;refine⟨rfl,fun fl2 h2=>?_⟩;first|rfl|(simp only[*];done)|(simp[*];done))
theorem jlc {top}{fl:Nat→Bool}{s:jal}{h h':Heap}{x:AOp}{v:AV}(hx:clsA x=2)(he:jah top fl s h x=some (v,h')): ∃l,h'=h++[some l]∧ ∀(fl2:Nat→Bool) (h2:Heap),h2.length=h.length→jah top fl2 s h2 x=some (v,h2++[some l]):=by
 cases x<;>first|(simp[clsA] at hx;done)|skip
 all_goals (simp only[jah] at he ⊢)
 all_goals (repeat' split at he)
 all_goals (try (cases he;done))
 all_goals (injection he with he;injection he with he1 he2;subst he1;subst he2;exact⟨_,rfl,fun fl2 h2 h3=>by simp[*]⟩)
theorem jm6 {top}{fl:Nat→Bool}{s:jal}{h h':Heap}{n:Option Nat}{x:Opd}{v:AV}(he:jah top fl s h (.load n x)=some (v,h')):
  h'=h∧ ∃id off l,x.ev s= .ptr id off∧jbw top id=true∧blk h id=some l∧ ∀fl2 h2,blk h2 id=some l→jah top fl2 s h2 (.load n x)=some (v,h2):=by
 simp only[jah] at he ⊢;split at he
 ·rename_i id off hp
  split at he
  ·rename_i hs
   split at he
   ·split at he
    ·rename_i cs hcs
     injection he with he;injection he with he1 he2;subst he1;subst he2
     unfold rd at hcs;split at hcs
     ·rename_i l hl
      refine⟨rfl,id,off,l,hp,hs,hl,fun fl2 h2 h3=>?_⟩;simp only[hs,if_true,rd,h3,hcs]
     ·cases hcs
    ·cases he
   ·split at he
    ·rename_i u hu
     injection he with he;injection he with he1 he2;subst he1;subst he2
     unfold rd1 at hu;split at hu
     ·rename_i l hl
      refine⟨rfl,id,off,l,hp,hs,hl,fun fl2 h2 h3=>?_⟩;simp only[hs,if_true,rd1,h3,hu]
     ·cases hu
    ·cases he
  ·cases he
 ·cases he
inductive Reach (ops:Array Oper):Nat→Nat→Prop where
  |base {e k:Nat} {O:Oper} (h:ops[k]?=some O) (he:e∈jdC O):Reach ops e k
  |step {i e k:Nat} {O:Oper} (h:ops[k]?=some O) (he:e∈jdC O) (hr:Reach ops i e):Reach ops i k
def Ord (ops:Array Oper)(i k:Nat):Prop:=if i<k then Reach ops i k else Reach ops k i
theorem jvs (ops:Array Oper): ∀(l:List Oper) (acc:List (List Nat)),ops.toList.drop acc.length=l→(∀k i,i∈acc.getD k []→Reach ops i k)→
  ∀k i,i∈(l.foldl (fun acc o=>acc++[((jdC o).flatMap fun e=>e::acc.getD e [])]) acc).getD k []→Reach ops i k
 |[],acc,_,h,k,i,hi=>h k i hi
 |o::l,acc,hl,h,k,i,hi=>by
  have ho:ops[acc.length]?=some o:=by
   have:(ops.toList.drop acc.length)[0]?=some o:=by rw[hl];rfl
   simpa[List.getElem?_drop] using this
  refine jvs ops l (acc++[((jdC o).flatMap fun e=>e::acc.getD e [])]) ?_ ?_ k i hi
  ·have:ops.toList.drop (acc.length+1)=l:=by rw[←List.drop_drop,hl];rfl
   simpa using this
  ·intro k i hi
   by_cases hk:k<acc.length
   ·refine h k i ?_
    simpa[E7,List.getElem?_append_left hk] using hi
   ·by_cases hk2:k=acc.length
    ·subst hk2
     simp only[E7,N0 (V2 _),Nat.sub_self,List.getElem?_cons_zero,W9,List.mem_flatMap,List.mem_cons] at hi;obtain⟨e,he,hi⟩:=hi;rcases hi with rfl|hi
     ·exact .base ho he
     ·exact .step ho he (h e i hi)
    ·rw[E7,J1 (by simp;omega)] at hi
     simp at hi
theorem jee {ops:Array Oper}{i k:Nat}(h:jfn (ancs ops.toList) i k=true):Ord ops i k:=by
 unfold jfn at h;unfold Ord;have key:=jvs ops ops.toList [] (by simp) (fun k i hi=>by simp at hi);split at h
 ·rename_i hlt;rw[if_pos hlt];exact key k i (by simpa[ancs] using h)
 ·rename_i hlt;rw[if_neg hlt];exact key i k (by simpa[ancs] using h)
def cl (ops:Array Oper)(i:Nat):Nat:=match ops[i]? with
  |some O=>jhL O.op
  |none=>0
structure Draw (ops:Array Oper)(l:List jav):Prop where
  edge: ∀(k:Nat) O,ops[k]?=some O→ ∀e∈jdC O,e<k
  data: ∀(k i:Nat) O p d,ops[k]?=some O→ops[i]?=some p→i≠k→p.dst=some d→O.dst≠some d∧(d∈looks ops O→Ord ops i k)
  heavy: ∀(k i:Nat),i≠k→cl ops k=3→cl ops i=3→Ord ops i k
  iso: ∀(k:Nat) o,l[k]?=some o→o.iso=true→ ∀i,i≠k→(cl ops k=1→cl ops i=3→Ord ops i k)∧(cl ops k=3→cl ops i=1→Ord ops i k)
theorem Reach.lt {ops:Array Oper}(hE: ∀(k:Nat) O,ops[k]?=some O→ ∀e∈jdC O,e<k){i k:Nat}(h:Reach ops i k):i<k:=by
 induction h with
 |base h he=>exact hE _ _ h _ he
 |step h he hr ih=>exact Nat.lt_trans ih (hE _ _ h _ he)
theorem Reach.closed {ops:Array Oper}{L:Nat→Prop}(hL: ∀(k:Nat) O,ops[k]?=some O→L k→ ∀e∈jdC O,L e){i k:Nat}(h:Reach ops i k):L k→L i:=by
 induction h with
 |base h he=>exact fun hk=>hL _ _ h hk _ he
 |step h he hr ih=>exact fun hk=>ih (hL _ _ h hk _ he)
theorem Reach.ready {ops:Array Oper}{L:Nat→Prop}(hL: ∀(k:Nat) O,ops[k]?=some O→L k→ ∀e∈jdC O,L e){i k:Nat}(h:Reach ops i k)(hk: ∀O,ops[k]?=some O→ ∀e∈jdC O,L e):L i:=by
 cases h with
 |base h he=>exact hk _ h _ he
 |step h he hr=>exact hr.closed hL (hk _ h _ he)
/-! ### Values within a bound -/
def cutM (m:Map)(n:Nat):Map:=fun x=>if x<n then m x else none
theorem jay {m:Map}{n x:Nat}{b:Base}:cutM m n x=some b↔x<n∧m x=some b:=by
 unfold cutM;split
 ·rename_i h;simp[h]
 ·rename_i h;simp only[reduceCtorEq,false_iff];exact fun h2=>h h2.1
theorem jhd {m:Map}{n x:Nat}{b:Base}(h:CB (cutM m n) x b):CB m x b:=⟨(jay.1 h.1).2,h.2⟩
theorem ju8 {m:Map}{n x:Nat}{b:Base}(h:MB (cutM m n) x b):MB m x b:=⟨(jay.1 h.1).2,h.2⟩
theorem MpE.vr {m:Map}{l:List AV}{es:List MapEntry}(hE:MpE m l es){i:Nat}{v:AV}(hv:l[i]?=some v): ∃u,VR m v u:=by
 obtain⟨hi,_⟩:=U0.1 hv;have hi':i<es.length:=by have:=hE.1;omega
 obtain⟨k,v',rfl,_,h3⟩:=hE.2 i v _ hv (U1 hi');exact⟨_,VRs.tuple (VRs.cons (.val (v:= .int .i64 k) rfl) (VRs.cons h3 .nil))⟩
theorem MpE.turn {m m':Map}{l:List AV}{es:List MapEntry}(hE:MpE m l es)(h: ∀(i:Nat) v u,l[i]?=some v→VR m v u→VR m' v u):MpE m' l es:=by
 refine⟨hE.1,fun i a e ha he=>?_⟩;obtain⟨k,v',rfl,h2,h3⟩:=hE.2 i a e ha he;refine⟨k,v',rfl,h2,?_⟩;have:=h i _ _ ha (VRs.tuple (VRs.cons (.val (v:= .int .i64 k) rfl) (VRs.cons h3 .nil)))
 cases this with
 |tuple hl h=>exact h 1 _ _ rfl rfl
theorem MpK.vr {m:Map}{kd:Bool}{l:List AV}{es:List MapEntry}(hE:MpK kd m l es){i:Nat}{v:AV}(hv:l[i]?=some v): ∃u,VR m v u:=by
 obtain⟨hi,_⟩:=U0.1 hv;have hi':i<es.length:=by have:=hE.1;omega
 obtain⟨k,v',rfl,h2,h3⟩:=hE.2.1 i v _ hv (U1 hi');exact⟨_,VRs.tuple (VRs.cons h2.vr (VRs.cons h3 .nil))⟩
theorem MpK.turn {m m':Map}{kd:Bool}{l:List AV}{es:List MapEntry}(hE:MpK kd m l es)(h: ∀(i:Nat) v u,l[i]?=some v→VR m v u→VR m' v u):MpK kd m' l es:=by
 refine⟨hE.1,fun i a e ha he=>?_,hE.2.2⟩;obtain⟨k,v',rfl,h2,h3⟩:=hE.2.1 i a e ha he;refine⟨k,v',rfl,h2,?_⟩;have:=h i _ _ ha (VRs.tuple (VRs.cons h2.vr (VRs.cons h3 .nil)))
 cases this with
 |tuple hl h=>exact h 1 _ _ rfl rfl
theorem MpC.vr {m:Map}{l:List AV}{es:Array MapEntry}{ck:Nat}(hE:MpC m l es ck){i:Nat}{v:AV}(hv:l[i]?=some v): ∃u,VR m v u:=by
 rcases hE.1 with h|⟨kd,l',rfl,h⟩
 ·exact h.vr hv
 ·cases i with
  |zero=>simp at hv;subst hv;exact⟨_,.val (v:= .bool kd) rfl⟩
  |succ i=>exact h.vr (by simpa using hv)
theorem MpC.turn {m m':Map}{l:List AV}{es:Array MapEntry}{ck:Nat}(hE:MpC m l es ck)(h: ∀(i:Nat) v u,l[i]?=some v→VR m v u→VR m' v u):MpC m' l es ck:=by
 refine⟨?_,hE.2⟩;rcases hE.1 with h0|⟨kd,l',rfl,h0⟩
 ·exact .inl (h0.turn h)
 ·exact .inr ⟨kd,l',rfl,h0.turn fun i v u hv=>h (i+1) v u (by simpa using hv)⟩
theorem VR.cut {M:Map}{v:AV}{u:Value}(h:VR M v u): ∀{m:Map} {u':Value} {n:Nat},VR m v u'→(∀id b,m id=some b→id<n)→VR (cutM M n) v u:=by
 induction h with
 |val h=>intro m u' n h2 hd;exact .val h
 |ptr h=>intro m u' n h2 hd;cases h2 with|ptr h3=>exact .ptr ⟨jay.2 ⟨hd _ _ h3.1,h.1⟩,h.2⟩
 |mp h=>intro m u' n h2 hd;cases h2 with|mp h3=>exact .mp ⟨jay.2 ⟨hd _ _ h3.1,h.1⟩,h.2⟩
 |slice h ho h1 h2 h3 h4=>intro m u' n h5 hd;cases h5 with|slice h6=>exact .slice ⟨jay.2 ⟨hd _ _ h6.1,h.1⟩,h.2⟩ ho h1 h2 h3 h4
 |hole=>intro m u' n h2 hd;exact .hole
 |bfunc hl hl2 h h2 ih ih2=>
  intro m u' n h3 hd
  cases h3 with
  |bfunc hl3 hl4 h5 h6=>
   rename_i as cs us vs us' vs';refine .bfunc hl hl2 (fun i x y hx hy=>?_) (fun i x y hx hy=>?_)
   ·obtain⟨hi,_⟩:=U0.1 hx
    have hi':i<us'.size:=by omega
    exact ih i x y hx hy (h5 i x _ hx (V7 hi')) hd
   ·obtain⟨hi,_⟩:=U0.1 hx
    have hi':i<vs'.size:=by omega
    exact ih2 i x y hx hy (h6 i x _ hx (V7 hi')) hd
 |agg hl h ih=>
  intro m u' n h2 hd
  cases h2 with
  |agg hl2 h3=>
   refine .agg hl fun i x y hx hy=>?_
   rename_i cs vs vs';obtain⟨hi,_⟩:=U0.1 hx;have hi':i<vs'.size:=by omega
   exact ih i x y hx hy (h3 i x _ hx (V7 hi')) hd
 |tuple hl h ih=>
  intro m u' n h2 hd
  cases h2 with
  |tuple hl2 h3=>
   refine .tuple hl fun i x y hx hy=>?_
   rename_i cs vs vs';obtain⟨hi,_⟩:=U0.1 hx;have hi':i<vs'.size:=by omega
   exact ih i x y hx hy (h3 i x _ hx (V7 hi')) hd
 |func hl h ih=>
  intro m u' n h2 hd
  cases h2 with
  |func hl2 h3=>
   refine .func hl fun i x y hx hy=>?_
   rename_i f cs vs vs';obtain⟨hi,_⟩:=U0.1 hx;have hi':i<vs'.size:=by omega
   exact ih i x y hx hy (h3 i x _ hx (V7 hi')) hd
def crn (H:Nat→Heap)(x:Nat):Nat→Nat
  |0=>0
  |k+1=>if x<(H k).length then crn H x k else k+1
theorem jdY {H:Nat→Heap}{n:Nat}(hm: ∀i,i<n→(H i).length≤(H (i+1)).length){x:Nat}: ∀k,k≤n→x<(H k).length→crn H x k≤k∧x<(H (crn H x k)).length∧ ∀j,j<crn H x k→(H j).length≤x
 |0,_,hx=>⟨V2 _,hx,fun j hj=>absurd hj (by simp[crn])⟩
 |k+1,hk,hx=>by
  unfold crn;split
  ·rename_i h
   obtain⟨h1,h2,h3⟩:=jdY hm k (by omega) h;exact⟨by omega,h2,h3⟩
  ·rename_i h
   refine⟨V2 _,hx,fun j hj=>?_⟩;have: ∀d,j+d=k→(H j).length≤(H k).length:=by
    intro d;induction d generalizing j with
    |zero=>intro e;rw[←e];exact V2 _
    |succ d ih=>
     intro e;exact V3 (hm j (by omega)) (ih (j+1) (by omega) (by omega))
   have:=this (k - j) (by omega);omega
theorem ja4 {H:Nat→Heap}{n:Nat}(hm: ∀i,i<n→(H i).length≤(H (i+1)).length): ∀{i j:Nat},i≤j→j≤n→(H i).length≤(H j).length:=by
 intro i j hij;induction hij with
 |refl=>intro _;exact V2 _
 |step h ih=>intro hj;exact V3 (ih (by omega)) (hm _ (by omega))
end
end
section
open Go
section
variable {P:Program}{C:jby}{n0 B0 nt base:Nat}{fl:Nat→Bool}{ops:Array Oper}{l:List jav}{S:Nat→jal}{H:Nat→Heap}{D:Nat→Seen}
structure jhl (n0 B0 nt base:Nat)(fl:Nat→Bool)(ops:Array Oper)(l:List jav)(S:Nat→jal)(H:Nat→Heap)(D:Nat→Seen)(m0:Map)(w0:World):Prop where
  seq: ∀i,i≤ops.size→ ∃m w a,Post n0 B0 fl m0 (H 0) w0 m (H i) w∧SR nt m (S i) a
  step: ∀i o,l[i]?=some o→i<ops.size→ ∃m w m' w',Rels n0 B0 m (H i) w∧Post n0 B0 (if jbu o (S i)=some true then jbB fl o (jcw fl (D i) o (l.drop (i+1)) (S i) (H i)) else fun _=>false) m (H i) w m' (H (i+1)) w'
theorem facts_of (hC:jcP P C)(hfl: ∀id,fl id=true→n0≤id)(hc:Comp P nt ops l)(tr:je3 C base fl l S H D){m0:Map}{w0:World}(r0:Rels n0 B0 m0 (H 0) w0){a0:Act}(hs0:SR nt m0 (S 0) a0):
  jhl n0 B0 nt base fl ops l S H D m0 w0:=by
 refine⟨jiC hC hfl hc tr r0 hs0,fun i o ho hi=>?_⟩;obtain⟨m,w,a,hp,hs⟩:=jiC hC hfl hc tr r0 hs0 i (by omega);obtain⟨O,hO⟩: ∃O,ops[i]?=some O:=⟨ops[i]'hi,V7 _⟩;obtain⟨o',ho',hop,hdst,hg,hd⟩:=hc.at_ i O hO;rw[ho] at ho';injection ho' with ho';subst ho'
 rcases tr.step i o ho with⟨hw,v,hrun,hS,hD⟩|⟨hw,hH,hS,hD⟩
 ·obtain⟨a',w',m',hp'⟩:=jtd (P:=P) (K:=fun a' w'=> ∃m',Post n0 B0 (jbB fl o (jcw fl (D i) o (l.drop (i+1)) (S i) (H i))) m (H i) w m' (H (i+1)) w')
   (jiz hC hop hrun hp.rels hfl (fun y hy z hz=>hs.opd hz) fun v' w' m' hp hv=>⟨m',hp⟩)
  exact⟨m,w,m',w',hp.rels,by rw[if_pos hw];exact hp'⟩
 ·refine⟨m,w,m,w,hp.rels,?_⟩
  rw[if_neg (by rw[hw];simp),hH];exact .refl hp.rels
variable {m0:Map}{w0:World}
theorem jhl.len (F:jhl n0 B0 nt base fl ops l S H D m0 w0)(hc:Comp P nt ops l)(i:Nat)(hi:i<ops.size):(H i).length≤(H (i+1)).length:=by
 obtain⟨o,ho⟩: ∃o,l[i]?=some o:=⟨l[i]'(by rw[hc.len];exact hi),U1 _⟩;obtain⟨m,w,m',w',r,p⟩:=F.step i o ho hi;exact p.len
theorem jri (hc:Comp P nt ops l)(tr:je3 C base fl l S H D){i:Nat}(hi:i<ops.size)(h3:cl ops i≠3):H (i+1)=H i∨ ∃x,H (i+1)=H i++[some x]:=by
 obtain⟨O,hO⟩: ∃O,ops[i]?=some O:=⟨ops[i]'hi,V7 _⟩;obtain⟨o,ho,hop,hdst,hg,hd⟩:=hc.at_ i O hO;rcases tr.step i o ho with⟨hw,v,hrun,hS,hD⟩|⟨hw,hH,hS,hD⟩
 ·cases hcx:cOp P O with
  |none=>
   rw[hcx] at hop;simp only[Option.getD_none] at hop;unfold jd9 at hrun;rw[hop] at hrun;simp[jah] at hrun
  |some x=>
   rw[hcx] at hop;simp only[W9] at hop;have hcls:=jh2 hcx;have hcl:cl ops i=jhL O.op:=by simp[cl,hO]
   unfold jd9 at hrun;split at hrun
   ·rename_i f args heq
    rw[heq] at hop;subst hop;exfalso;apply h3
    rw[hcl,← hcls];rfl
   ·rw[hop] at hrun
    have hb:clsA x=0∨clsA x=1∨clsA x=2∨clsA x=3:=by cases x<;>simp[clsA]
    rcases hb with hb|hb|hb|hb
    ·exact .inl (jmS hb hrun).1
    ·cases x<;>simp[clsA] at hb
     exact .inl (jm6 hrun).1
    ·obtain⟨q,hq,_⟩:=jlc hb hrun
     exact .inr ⟨q,hq⟩
    ·exfalso;apply h3;rw[hcl,← hcls];exact hb
 ·exact .inl hH
theorem jkb (hc:Comp P nt ops l)(tr:je3 C base fl l S H D)(hm: ∀i,i<ops.size→(H i).length≤(H (i+1)).length){x:Nat}: ∀(d i:Nat),i+d≤ops.size→x<(H i).length→(∀k,i≤k→k<i+d→cl ops k=3→blk (H (k+1)) x=blk (H k) x)→blk (H (i+d)) x=blk (H i) x
 |0,i,_,_,_=>rfl
 |d+1,i,hi,hx,hh=>by
  have hstep:blk (H (i+1)) x=blk (H i) x:=by
   by_cases h3:cl ops i=3
   ·exact hh i (V2 _) (by omega) h3
   ·rcases jri hc tr (by omega) h3 with h|⟨q,h⟩
    ·rw[h]
    ·rw[h];exact jcA _ hx
  have:=jkb hc tr hm d (i+1) (by omega) (V0 hx (hm i (by omega))) (fun k h1 h2 h3=>hh k (by omega) (by omega) h3);rw[show i+(d+1)=i+1+d by omega,this,hstep]
theorem jiv (hc:Comp P nt ops l)(tr:je3 C base fl l S H D)(hm: ∀i,i<ops.size→(H i).length≤(H (i+1)).length){x i j:Nat}(hij:i≤j)(hj:j≤ops.size)(hx:x<(H i).length)(hh: ∀k,i≤k→k<j→cl ops k=3→blk (H (k+1)) x=blk (H k) x):blk (H j) x=blk (H i) x:=by
 have:=jkb hc tr hm (j - i) i (by omega) hx (fun k h1 h2 h3=>hh k h1 (by omega) h3)
 rwa [show i+(j - i)=j by omega] at this
abbrev Lst (listed:Array Bool)(k:Nat):Prop:=listed.getD k false=true
structure InvS (nt:Nat)(ops:Array Oper)(S:Nat→jal)(H:Nat→Heap)(listed:Array Bool)(M:Map)(a:Act):Prop where
  lsz:listed.size=ops.size
  closed: ∀(k:Nat) O,ops[k]?=some O→Lst listed k→ ∀e∈jdC O,Lst listed e
  asz:a.tmps.size=nt
  dom: ∀x b,M x=some b→x<(H 0).length∨ ∃i,i<ops.size∧Lst listed i∧(H i).length≤x∧x<(H (i+1)).length
  slotL: ∀(i:Nat) O t,ops[i]?=some O→O.dst=some t→Lst listed i→VR M (S (i+1) t) (a.tmps.getD t undef)
  slotN: ∀t,(∀(i:Nat) O,ops[i]?=some O→O.dst=some t→ ¬Lst listed i)→VR M (S 0 t) (a.tmps.getD t undef)
  made: ∀i,i<ops.size→Lst listed i→ ∀x,(H i).length≤x→x<(H (i+1)).length→M x≠none
structure InvM (n0 B0:Nat)(fl:Nat→Bool)(ops:Array Oper)(H:Nat→Heap)(m0:Map)(w0:World)(listed:Array Bool)(M:Map)(w:World):Prop where
  mem: ∃v,v≤ops.size∧(∀i,cl ops i=3→i<v→Lst listed i)∧(∀i,cl ops i=3→v≤i→ ¬Lst listed i)∧Rel n0 B0 M (fun x=>blk (H (max v (crn H x ops.size))) x) w
  stable: ∀j,j<ops.size→ ¬Lst listed j→ ∀x,(H j).length≤x→x<(H (j+1)).length→ ∀i,cl ops i=3→Lst listed i→j<i→blk (H (i+1)) x=blk (H i) x
  os:w.os=w0.os
  tape:w.tape=w0.tape
  output:w.output=w0.output
  size:w0.heap.size≤w.heap.size
  frame: ∀x,x<w0.heap.size→(∀id l b,fl id=true→blk (H 0) id=some l→m0 id=some b→b.b≠x)→w.heap[x]?=w0.heap[x]?
  keep: ∀id,id<(H 0).length→M id=m0 id
  fresh: ∀id b,(H 0).length≤id→M id=some b→w0.heap.size≤b.b∨ ∃j l c,fl j=true∧blk (H 0) j=some l∧m0 j=some c∧c.b=b.b
theorem jcK {listed:Array Bool}{k i:Nat}(hk:k<listed.size):Lst (listed.setIfInBounds k true) i↔Lst listed i∨i=k:=by
 unfold Lst;simp only[J0,G5];by_cases h:k=i
 ·subst h;simp[hk]
 ·simp[h,Ne.symm h]
theorem jff (hc:Comp P nt ops l)(tr:je3 C base fl l S H D){t:Nat}: ∀(d i:Nat),i+d≤ops.size→(∀(k:Nat) O,i≤k→k<i+d→ops[k]?=some O→O.dst≠some t)→S (i+d) t=S i t
 |0,i,_,_=>rfl
 |d+1,i,hi,hw=>by
  obtain⟨O,hO⟩: ∃O,ops[i]?=some O:=⟨ops[i]'(by omega),V7 _⟩;obtain⟨o,ho,hop,hdst,hg,hd⟩:=hc.at_ i O hO;have hne:o.dst≠some t:=by rw[hdst];exact hw i O (V2 _) (by omega) hO
  have h1:S (i+1) t=S i t:=by
   rcases tr.step i o ho with⟨_,v,_,hS,_⟩|⟨_,_,hS,_⟩<;>rw[hS,jkj,if_neg hne]
  have:=jff hc tr (t:=t) d (i+1) (by omega) (fun k O h1 h2=>hw k O (by omega) (by omega));rw[show i+(d+1)=i+1+d by omega,this,h1]
theorem jg0 (hc:Comp P nt ops l)(dr:Draw ops l)(tr:je3 C base fl l S H D){listed:Array Bool}{M:Map}{a:Act}(inv:InvS nt ops S H listed M a){k:Nat}{O:Oper}(hO:ops[k]?=some O)(hk: ¬Lst listed k)(he: ∀e∈jdC O,Lst listed e){t:Nat}(ht:t∈looks ops O):
  VR M (S k t) (a.tmps.getD t undef):=by
 have hks:k<ops.size:=(J2.1 hO).1;have hready: ∀O',ops[k]?=some O'→ ∀e∈jdC O',Lst listed e:=fun O' h=>by rw[hO] at h;injection h with h;subst h;exact he
 by_cases hw: ∃(i:Nat) (p:Oper),i<k∧ops[i]?=some p∧p.dst=some t
 ·obtain⟨i,p,hik,hp,hpd⟩:=hw
  have hi:Lst listed i:=by
   have:=(dr.data k i O p t hO hp (by omega) hpd).2 ht;unfold Ord at this;rw[if_pos hik] at this;exact this.ready inv.closed hready
  have hs:S k t=S (i+1) t:=by
   have:=jff hc tr (t:=t) (k - (i+1)) (i+1) (by omega) (fun j q h1 h2 hq=>(dr.data j i q p t hq hp (by omega) hpd).1)
   rwa [show i+1+(k - (i+1))=k by omega] at this
  rw[hs];exact inv.slotL i p t hp hpd hi
 ·have hs:S k t=S 0 t:=by
   have:=jff hc tr (t:=t) k 0 (by omega) (fun j q h1 h2 hq hqd=>hw ⟨j,q,by omega,hq,hqd⟩);simpa using this
  rw[hs];refine inv.slotN t fun i p hp hpd hi=>?_
  have hik: ¬i<k:=fun h=>hw ⟨i,p,h,hp,hpd⟩
  by_cases hik2:i=k
  ·subst hik2;exact hk hi
  ·have:=(dr.data k i O p t hO hp hik2 hpd).2 ht
   unfold Ord at this;rw[if_neg hik] at this;exact hk (this.closed inv.closed hi)
theorem jex (hc:Comp P nt ops l)(dr:Draw ops l){listed:Array Bool}{M M':Map}{a:Act}(inv:InvS nt ops S H listed M a){k:Nat}{O:Oper}(hO:ops[k]?=some O)(hk: ¬Lst listed k)(he: ∀e∈jdC O,Lst listed e)
  (hm: ∀x b,M x=some b→M' x=some b) (hdom: ∀x b,M' x=some b→M x=some b∨((H k).length≤x∧x<(H (k+1)).length)) {v':Value} (hv: ∀t,O.dst=some t→VR M' (S (k+1) t) v') (hmade: ∀x,(H k).length≤x→x<(H (k+1)).length→M' x≠none):
  InvS nt ops S H (listed.setIfInBounds k true) M' (a.put O.dst v'):=by
 have hks:k<ops.size:=(J2.1 hO).1;have hkl:k<listed.size:=by rw[inv.lsz];exact hks
 obtain⟨o,ho,hop,hdst,hg,hd⟩:=hc.at_ k O hO;refine⟨by simp[inv.lsz],?_,by rw[jp0];exact inv.asz,?_,?_,?_,?_⟩
 ·intro i p hp hi e hep
  rcases (jcK hkl).1 hi with hi|rfl
  ·exact (jcK hkl).2 (.inl (inv.closed i p hp hi e hep))
  ·rw[hO] at hp;injection hp with hp;subst hp
   exact (jcK hkl).2 (.inl (he e hep))
 ·intro x b hb
  rcases hdom x b hb with hb|⟨h1,h2⟩
  ·rcases inv.dom x b hb with h|⟨i,h1,h2,h3,h4⟩
   ·exact .inl h
   ·exact .inr ⟨i,h1,(jcK hkl).2 (.inl h2),h3,h4⟩
  ·exact .inr ⟨k,hks,(jcK hkl).2 (.inr rfl),h1,h2⟩
 ·intro i p t hp hpd hi
  rw[jlD a O.dst v' t (by rw[inv.asz];exact hd)];by_cases hik:i=k
  ·subst hik
   rw[hO] at hp;injection hp with hp;subst hp
   rw[if_pos hpd];exact hv t hpd
  ·rw[if_neg (dr.data k i O p t hO hp hik hpd).1]
   rcases (jcK hkl).1 hi with hi|hi
   ·exact (inv.slotL i p t hp hpd hi).mono hm
   ·exact absurd hi hik
 ·intro t hn
  rw[jlD a O.dst v' t (by rw[inv.asz];exact hd),if_neg (fun h=>hn k O hO h ((jcK hkl).2 (.inr rfl)))];exact (inv.slotN t fun i p hp hpd hi=>hn i p hp hpd ((jcK hkl).2 (.inl hi))).mono hm
 ·intro i hi hL x h1 h2
  rcases (jcK hkl).1 hL with hL|rfl
  ·have:=inv.made i hi hL x h1 h2
   cases hb:M x with
   |none=>exact absurd hb this
   |some b=>rw[hm x b hb];simp
  ·exact hmade x h1 h2
end
end
section
open Go
section
variable {P:Program}{C:jby}{n0 B0 nt base:Nat}{fl:Nat→Bool}{ops:Array Oper}{l:List jav}{S:Nat→jal}{H:Nat→Heap}{D:Nat→Seen}{m0:Map}{w0:World}
def jcC (M m':Map)(p:Nat→Bool):Map:=fun x=>if p x then m' x else M x
theorem jr7 {w w':World}{b o:Nat}(h:w'.heap[b]?=w.heap[b]?):w'.cell? ⟨b,o,none⟩=w.cell? ⟨b,o,none⟩:=by
 simp only[World.cell?,h]
theorem jp9 {M m':Map}{p:Nat→Bool}{g1 g2 gj:Nat→Option (List AV)}{w w':World}(r1:Rel n0 B0 m' g1 w')(r2:Rel n0 B0 M g2 w)(hsz:w.heap.size≤w'.heap.size)
  (hd: ∀x b,m' x=some b→p x=true∨M x=some b) (hm: ∀x b,M x=some b→p x=true→m' x=some b)
  (h1: ∀x b,p x=true→m' x=some b→gj x=g1 x) (h2: ∀x b,p x=false→M x=some b→gj x=g2 x)
  (hsame: ∀x b,p x=false→M x=some b→ ∀lx,g2 x=some lx→w'.heap[b.b]?=w.heap[b.b]?)
  (hfar: ∀i j bi bj li lj,p i=true→p j=false→m' i=some bi→M j=some bj→n0≤i→n0≤j→g1 i=some li→g2 j=some lj→bi.b≠bj.b):
  Rel n0 B0 (jcC M m' p) gj w':=by
 have hlo: ∀x b,p x=true→jcC M m' p x=some b→m' x=some b:=fun x b hx h=>by simpa[jcC,hx] using h
 have hhi: ∀x b,p x=false→jcC M m' p x=some b→M x=some b:=fun x b hx h=>by simpa[jcC,hx] using h
 have up1: ∀x b,m' x=some b→jcC M m' p x=some b:=fun x b h=>by
  cases hx:p x with
  |true=>simp[jcC,hx,h]
  |false=>
   rcases hd x b h with h3|h3
   ·rw[hx] at h3;cases h3
   ·simp[jcC,hx,h3]
 have up2: ∀x b,M x=some b→jcC M m' p x=some b:=fun x b h=>by
  cases hx:p x with
  |true=>simp[jcC,hx,hm x b h hx]
  |false=>simp[jcC,hx,h]
 refine⟨r1.base,?_,?_,?_,?_,?_,?_,?_,r1.gl⟩
 ·intro x b hb
  cases hx:p x with
  |true=>exact r1.lt x b (hlo x b hx hb)
  |false=>exact V0 (r2.lt x b (hhi x b hx hb)) hsz
 ·intro x lx b hl hb i v hv
  obtain⟨hb,hk⟩:=hb
  cases hx:p x with
  |true=>
   have hb:=hlo x b hx hb;rw[h1 x b hx hb] at hl;obtain⟨v',h3,h4⟩:=r1.cell x lx b hl ⟨hb,hk⟩ i v hv;exact⟨v',h3,h4.mono up1⟩
  |false=>
   have hb:=hhi x b hx hb;rw[h2 x b hx hb] at hl;obtain⟨v',h3,h4⟩:=r2.cell x lx b hl ⟨hb,hk⟩ i v hv;exact⟨v',by rw[jr7 (hsame x b hx hb lx hl)];exact h3,h4.mono up2⟩
 ·intro x lx b hl hb
  obtain⟨hb,hk⟩:=hb
  cases hx:p x with
  |true=>
   have hb:=hlo x b hx hb;rw[h1 x b hx hb] at hl;exact r1.one x lx b hl ⟨hb,hk⟩
  |false=>
   have hb:=hhi x b hx hb;rw[h2 x b hx hb] at hl;exact r2.one x lx b hl ⟨hb,hk⟩
 ·intro x lx b hx0 hl hb
  obtain⟨hb,hk⟩:=hb
  cases hx:p x with
  |true=>
   have hb:=hlo x b hx hb;rw[h1 x b hx hb] at hl;exact r1.own x lx b hx0 hl ⟨hb,hk⟩
  |false=>
   have hb:=hhi x b hx hb;rw[h2 x b hx hb] at hl;obtain⟨h3,h4,c,e,h5,h6⟩:=r2.own x lx b hx0 hl ⟨hb,hk⟩;exact⟨h3,h4,c,e,by rw[hsame x b hx hb lx hl];exact h5,h6⟩
 ·intro x b hx0 hb
  cases hx:p x with
  |true=>exact r1.ro x b hx0 (hlo x b hx hb)
  |false=>exact r2.ro x b hx0 (hhi x b hx hb)
 ·intro i j li lj bi bj hi0 hj0 hli hlj hbi hbj he
  cases hi:p i<;>cases hj:p j
  ·have hbi:=hhi i bi hi hbi
   have hbj:=hhi j bj hj hbj;rw[h2 i bi hi hbi] at hli;rw[h2 j bj hj hbj] at hlj;exact r2.inj i j li lj bi bj hi0 hj0 hli hlj hbi hbj he
  ·have hbi:=hhi i bi hi hbi
   have hbj:=hlo j bj hj hbj;rw[h2 i bi hi hbi] at hli;rw[h1 j bj hj hbj] at hlj;exact absurd he.symm (hfar j i bj bi lj li hj hi hbj hbi hj0 hi0 hlj hli)
  ·have hbi:=hlo i bi hi hbi
   have hbj:=hhi j bj hj hbj;rw[h1 i bi hi hbi] at hli;rw[h2 j bj hj hbj] at hlj;exact absurd he (hfar i j bi bj li lj hi hj hbi hbj hi0 hj0 hli hlj)
  ·have hbi:=hlo i bi hi hbi
   have hbj:=hlo j bj hj hbj;rw[h1 i bi hi hbi] at hli;rw[h1 j bj hj hbj] at hlj;exact r1.inj i j li lj bi bj hi0 hj0 hli hlj hbi hbj he
 ·intro x lx b hl hb
  obtain⟨hb,hk⟩:=hb
  cases hx:p x with
  |true=>
   have hb:=hlo x b hx hb;rw[h1 x b hx hb] at hl;obtain⟨h3,h4,es,ck,h5,h6⟩:=r1.mp x lx b hl ⟨hb,hk⟩;exact⟨h3,h4,es,ck,h5,h6.mono up1⟩
  |false=>
   have hb:=hhi x b hx hb;rw[h2 x b hx hb] at hl;obtain⟨h3,h4,es,ck,h5,h6⟩:=r2.mp x lx b hl ⟨hb,hk⟩;exact⟨h3,h4,es,ck,by rw[hsame x b hx hb lx hl];exact h5,h6.mono up2⟩
theorem jfx (hm: ∀i,i<ops.size→(H i).length≤(H (i+1)).length){listed:Array Bool}{M:Map}{a:Act}(inv:InvS nt ops S H listed M a){k:Nat}(hk:k<ops.size)(hnk: ¬Lst listed k){x:Nat}(h1:(H k).length≤x)(h2:x<(H (k+1)).length):M x=none:=by
 cases hb:M x with
 |none=>rfl
 |some b=>
  rcases inv.dom x b hb with h|⟨i,hi,hL,h3,h4⟩
  ·have:=ja4 hm (J3 k) (by omega)
   omega
  ·by_cases hik:i=k
   ·subst hik;exact absurd hL hnk
   ·by_cases hlt:i<k
    ·have:=ja4 hm (show i+1≤k by omega) (by omega)
     omega
    ·have:=ja4 hm (show k+1≤i by omega) (by omega)
     omega
theorem ju7 (hm: ∀i,i<ops.size→(H i).length≤(H (i+1)).length){listed:Array Bool}{M:Map}{a:Act}(inv:InvS nt ops S H listed M a){x:Nat}{b:Base}(hb:M x=some b):x<(H ops.size).length:=by
 rcases inv.dom x b hb with h|⟨i,hi,hL,h3,h4⟩
 ·exact V0 h (ja4 hm (J3 _) (V2 _))
 ·exact V0 h4 (ja4 hm (by omega) (V2 _))
variable (hc:Comp P nt ops l)(tr:je3 C base fl l S H D)(F:jhl n0 B0 nt base fl ops l S H D m0 w0)(hfl: ∀id,fl id=true→n0≤id)(r0:Rels n0 B0 m0 (H 0) w0)
theorem jju (F:jhl n0 B0 nt base fl ops l S H D m0 w0){k:Nat}(hk:k≤ops.size){M:Map}{x i:Nat}{lx:List AV}{v:AV}{u:Value}(hl:blk (H k) x=some lx)(hv:lx[i]?=some v)(hx:m0 x≠none∨(H 0).length≤x)(h:VR M v u):VR (cutM M (H k).length) v u:=by
 obtain⟨m,w,a,p,s⟩:=F.seq k hk;have hne:m x≠none:=by
  by_cases h0:x<(H 0).length
  ·rcases hx with hx|hx
   ·rw[p.keep x h0];exact hx
   ·omega
  ·exact p.new x (by omega) (jcm hl)
 cases hb:m x with
 |none=>exact absurd hb hne
 |some b=>
  cases hk:b.mp with
  |false=>
   obtain⟨v',_,h2⟩:=p.rels.rel.cell x lx b hl ⟨hb,hk⟩ i v hv;exact h.cut h2 p.rels.dom
  |true=>
   obtain⟨_,_,es,ck,_,hE⟩:=p.rels.rel.mp x lx b hl ⟨hb,hk⟩;obtain⟨v',h2⟩:=hE.vr hv;exact h.cut h2 p.rels.dom
theorem jr9 (F:jhl n0 B0 nt base fl ops l S H D m0 w0){k:Nat}(hk:k≤ops.size){M:Map}{t:Nat}{u:Value}(h:VR M (S k t) u):VR (cutM M (H k).length) (S k t) u:=by
 obtain⟨m,w,a,p,s⟩:=F.seq k hk;exact h.cut (s.slot t) p.rels.dom
theorem jn3 (F:jhl n0 B0 nt base fl ops l S H D m0 w0){k:Nat}(hk:k≤ops.size){x:Nat}{lx:List AV}(hx:x<(H 0).length)(hl:blk (H k) x=some lx): ∃l0,blk (H 0) x=some l0:=by
 obtain⟨m,w,a,p,s⟩:=F.seq k hk
 cases hb:blk (H 0) x with
 |none=>rw[p.dead x hx hb] at hl;cases hl
 |some l0=>exact⟨l0,rfl⟩
theorem jki (F:jhl n0 B0 nt base fl ops l S H D m0 w0)(hm: ∀i,i<ops.size→(H i).length≤(H (i+1)).length){listed:Array Bool}{M:Map}{a:Act}{w:World}(inv:InvS nt ops S H listed M a)(im:InvM n0 B0 fl ops H m0 w0 listed M w)
  (hn0:n0≤(H 0).length) {k:Nat} (hk:k<ops.size) (hg: ∀x b,M x=some b→x<(H k).length→ ∀v,(∀i,cl ops i=3→i<v→Lst listed i)→(∀i,cl ops i=3→v≤i→ ¬Lst listed i)→v≤ops.size→blk (H (max v (crn H x ops.size))) x=blk (H k) x):
  Rels n0 B0 (cutM M (H k).length) (H k) w:=by
 obtain⟨v,hv,hv1,hv2,r⟩:=im.mem;have hgg: ∀x b,cutM M (H k).length x=some b→blk (H (max v (crn H x ops.size))) x=blk (H k) x:=fun x b hb=>hg x b (jay.1 hb).2 (jay.1 hb).1 v hv1 hv2 hv
 refine⟨⟨r.base,fun x b hb=>r.lt x b (jay.1 hb).2,?_,?_,?_,fun x b hx hb=>r.ro x b hx (jay.1 hb).2,?_,?_,r.gl⟩,fun x b hb=>(jay.1 hb).1,V3 hn0 (ja4 hm (J3 _) (by omega))⟩
 ·intro x lx b hl hb i u hu
  rw[←hgg x b hb.1] at hl;obtain⟨v',h1,h2⟩:=r.cell x lx b hl (jhd hb) i u hu;rw[hgg x b hb.1] at hl;refine⟨v',h1,jju F (by omega) hl hu ?_ h2⟩;by_cases h0:x<(H 0).length
  ·left;rw[←im.keep x h0,(jay.1 hb.1).2];simp
  ·right;omega
 ·intro x lx b hl hb
  rw[←hgg x b hb.1] at hl;exact r.one x lx b hl (jhd hb)
 ·intro x lx b hx hl hb
  rw[←hgg x b hb.1] at hl;exact r.own x lx b hx hl (jhd hb)
 ·intro i j li lj bi bj hi hj hli hlj hbi hbj he
  rw[←hgg i bi hbi] at hli;rw[←hgg j bj hbj] at hlj;exact r.inj i j li lj bi bj hi hj hli hlj (jay.1 hbi).2 (jay.1 hbj).2 he
 ·intro x lx b hl hb
  rw[←hgg x b hb.1] at hl;obtain⟨h1,h2,es,ck,h3,h4⟩:=r.mp x lx b hl (ju8 hb);rw[hgg x b hb.1] at hl;refine⟨h1,h2,es,ck,h3,h4.turn fun i v u hv h5=>jju F (by omega) hl hv ?_ h5⟩;by_cases h0:x<(H 0).length
  ·left;rw[←im.keep x h0,(jay.1 hb.1).2];simp
  ·right;omega
theorem jm4 (F:jhl n0 B0 nt base fl ops l S H D m0 w0)(hfl: ∀id,fl id=true→n0≤id)(hm: ∀i,i<ops.size→(H i).length≤(H (i+1)).length){listed:Array Bool}{M:Map}{a:Act}{w:World}(inv:InvS nt ops S H listed M a)(im:InvM n0 B0 fl ops H m0 w0 listed M w)
  (hn0:n0≤(H 0).length) {k:Nat} (hk:k<ops.size) (h3k:cl ops k=3) (hnk: ¬Lst listed k) {fl':Nat→Bool} (hf: ∀i,fl' i=true→fl i=true) {m':Map} {w':World}
  (p:Post n0 B0 fl' (cutM M (H k).length) (H k) w m' (H (k+1)) w') (hv1: ∀i,cl ops i=3→i<k→Lst listed i) (hv2: ∀i,cl ops i=3→k<i→ ¬Lst listed i)
  (hg: ∀x b,M x=some b→x<(H k).length→ ∀v,(∀i,cl ops i=3→i<v→Lst listed i)→(∀i,cl ops i=3→v≤i→ ¬Lst listed i)→v≤ops.size→blk (H (max v (crn H x ops.size))) x=blk (H k) x):
  InvM n0 B0 fl ops H m0 w0 (listed.setIfInBounds k true) (jcC M m' (fun x=>decide (x<(H (k+1)).length))) w':=by
 obtain⟨v,hv,hw1,hw2,r⟩:=im.mem;have hkl:k<listed.size:=by rw[inv.lsz];exact hk
 have hvk:v≤k:=by
  by_cases hle:v≤k
  ·exact hle
  ·exact absurd (hw1 k h3k (by omega)) hnk
 have hgg: ∀x b,x<(H k).length→M x=some b→blk (H (max v (crn H x ops.size))) x=blk (H k) x:=fun x b hx hb=>hg x b hb hx v hw1 hw2 hv
 have hlk:=hm k hk;have hnew: ∀x,(H k).length≤x→x<(H (k+1)).length→M x=none:=fun x h1 h2=>jfx hm inv hk hnk h1 h2
 have hcr: ∀x,x<(H (k+1)).length→crn H x ops.size≤k+1:=fun x hx=>by
  obtain⟨h1,h2,h3⟩:=jdY hm ops.size (V2 _) (V0 hx (ja4 hm (by omega) (V2 _)));by_cases hle:crn H x ops.size≤k+1
  ·exact hle
  ·have:=h3 (k+1) (by omega)
   omega
 have hcr2: ∀x,(H (k+1)).length≤x→x<(H ops.size).length→k+1<crn H x ops.size:=fun x hx hx2=>by
  obtain⟨h1,h2,h3⟩:=jdY hm ops.size (V2 _) hx2;by_cases hle:crn H x ops.size≤k+1
  ·have:=ja4 hm hle (by omega)
   omega
  ·omega
 -- heavy numbers that may be changed are not the early ones
 have hfar: ∀id li bi j lj bj,fl' id=true→blk (H k) id=some li→cutM M (H k).length id=some bi→(H (k+1)).length≤j→M j=some bj→blk (H (max v (crn H j ops.size))) j=some lj→bi.b≠bj.b:=by
  intro id li bi j lj bj h1 h2 h3 h4 h5 h6 he;obtain⟨h7,h8⟩:=jay.1 h3;have h0:=hfl id (hf id h1);have:=r.inj id j li lj bi bj h0 (by have:=ja4 hm (J3 (k+1)) (by omega);omega) (by show blk (H (max v (crn H id ops.size))) id=_;rw[hgg id bi h7 h8];exact h2) h6 h8 h5 he;omega
 have hgold: ∀x,(H (k+1)).length≤x→x<(H ops.size).length→blk (H (max (k+1) (crn H x ops.size))) x=blk (H (max v (crn H x ops.size))) x:=fun x hx hx2=>by
  have:=hcr2 x hx hx2;rw[J4 (by omega),J4 (by omega)]
 refine⟨⟨k+1,by omega,?_,?_,?_⟩,?_,p.os.trans im.os,p.tape.trans im.tape,p.output.trans im.output,V3 im.size p.size,?_,?_,?_⟩
 ·intro i h3 hi
  refine (jcK hkl).2 ?_;by_cases hik:i=k
  ·exact .inr hik
  ·exact .inl (hv1 i h3 (by omega))
 ·intro i h3 hi hL
  rcases (jcK hkl).1 hL with hL|hL
  ·exact hv2 i h3 (by omega) hL
  ·omega
 ·refine jp9 (p:=fun x=>decide (x<(H (k+1)).length)) p.rels.rel r p.size (fun x b hb=> .inl (by simpa using p.rels.dom x b hb)) (fun x b hb hx=>?_) (fun x b hx hb=>?_) (fun x b hx hb=>?_) (fun x b hx hb lx hl=>?_) (fun i j bi bj li lj hi hj hbi hbj hi0 hj0 hli hlj=>?_)
  ·simp only[decide_eq_true_eq] at hx
   by_cases hxk:x<(H k).length
   ·rw[p.keep x hxk];exact jay.2 ⟨hxk,hb⟩
   ·rw[hnew x (by omega) hx] at hb;cases hb
  ·simp only[decide_eq_true_eq] at hx
   rw[J5 (hcr x hx)]
  ·simp only[decide_eq_false_iff_not] at hx
   exact hgold x (by omega) (ju7 hm inv hb)
  ·simp only[decide_eq_false_iff_not] at hx
   exact p.frame b.b (r.lt x b hb) fun id li bi h1 h2 h3=>hfar id li bi x lx b h1 h2 h3 (by omega) hb hl
  ·simp only[decide_eq_true_eq,decide_eq_false_iff_not] at hi hj
   intro he;by_cases hik:i<(H k).length
   ·have hbi':=hbi
    rw[p.keep i hik] at hbi';obtain⟨_,hMi⟩:=jay.1 hbi'
    cases hlive:blk (H k) i with
    |none=>rw[p.dead i hik hlive] at hli;cases hli
    |some l0=>
     have:=r.inj i j l0 lj bi bj hi0 hj0 (by show blk (H (max v (crn H i ops.size))) i=_;rw[hgg i bi hik hMi];exact hlive) hlj hMi hbj he;omega
   ·rcases p.fresh i bi (by omega) hbi with h1|⟨id,l0,c,h1,h2,h3,h4⟩
    ·have:=r.lt j bj hbj;omega
    ·exact hfar id l0 c j lj bj h1 h2 h3 (by omega) hbj hlj (h4.trans he)
 ·intro j hj hnL x hx1 hx2 i h3 hL hji
  have hnLj: ¬Lst listed j:=fun h=>hnL ((jcK hkl).2 (.inl h))
  rcases (jcK hkl).1 hL with hL|rfl
  ·exact im.stable j hj hnLj x hx1 hx2 i h3 hL hji
  ·have hM:M x=none:=jfx hm inv hj hnLj hx1 hx2
   have hxi:x<(H i).length:=V0 hx2 (ja4 hm (by omega) (by omega));exact jd7 (p.unt x hxi (.inl (by simp[cutM,hM])))
 ·intro x hx hn
  rw[p.frame x (V0 hx im.size) ?_,im.frame x hx hn];intro id li bi h1 h2 h3 he;obtain⟨h7,h8⟩:=jay.1 h3;by_cases h0:id<(H 0).length
  ·obtain⟨l0,hl0⟩:=jn3 F (by omega) h0 h2
   exact hn id l0 bi (hf id h1) hl0 (by rw[←im.keep id h0];exact h8) he
  ·rcases im.fresh id bi (by omega) h8 with h9|⟨j,lj,c,g1,g2,g3,g4⟩
   ·omega
   ·exact hn j lj c g1 g2 g3 (g4.trans he)
 ·intro id hid
  have h1:id<(H k).length:=V0 hid (ja4 hm (J3 _) (by omega));have h2:id<(H (k+1)).length:=by omega
  simp only[jcC,h2,decide_true,if_true];rw[p.keep id h1];simp only[cutM,h1,if_true];exact im.keep id hid
 ·intro id b hid hb
  by_cases h2:id<(H (k+1)).length
  ·simp only[jcC,h2,decide_true,if_true] at hb
   by_cases h1:id<(H k).length
   ·rw[p.keep id h1] at hb
    exact im.fresh id b hid (jay.1 hb).2
   ·rcases p.fresh id b (by omega) hb with h3|⟨j,lj,c,g1,g2,g3,g4⟩
    ·exact .inl (V3 im.size h3)
    ·obtain⟨h7,h8⟩:=jay.1 g3
     by_cases h0:j<(H 0).length
     ·obtain⟨l0,hl0⟩:=jn3 F (by omega) h0 g2
      exact .inr ⟨j,l0,c,hf j g1,hl0,by rw[←im.keep j h0];exact h8,g4⟩
     ·rcases im.fresh j c (by omega) h8 with h9|⟨j',l',c',k1,k2,k3,k4⟩
      ·exact .inl (by omega)
      ·exact .inr ⟨j',l',c',k1,k2,k3,k4.trans g4⟩
  ·have:jcC M m' (fun x=>decide (x<(H (k+1)).length)) id=M id:=by simp[jcC,h2]
   rw[this] at hb;exact im.fresh id b hid hb
theorem jgB (hc:Comp P nt ops l)(tr:je3 C base fl l S H D)(hm: ∀i,i<ops.size→(H i).length≤(H (i+1)).length){listed:Array Bool}{M:Map}{a:Act}{w:World}(inv:InvS nt ops S H listed M a)(im:InvM n0 B0 fl ops H m0 w0 listed M w)
  {k:Nat} (hk:k<ops.size) (h3k:cl ops k≠3) (hnk: ¬Lst listed k) {hs hs':Heap} (hls:hs.length=(H k).length) (hls':hs'.length=(H (k+1)).length) (hx': ∀x,(H k).length≤x→x<(H (k+1)).length→blk hs' x=blk (H (k+1)) x) {m':Map} {w':World}
  (p:Post n0 B0 (fun _=>false) (cutM M (H k).length) hs w m' hs' w'):
  InvM n0 B0 fl ops H m0 w0 (listed.setIfInBounds k true) (jcC M m' (fun x=>decide ((H k).length≤x)&&decide (x<(H (k+1)).length))) w':=by
 obtain⟨v,hv,hw1,hw2,r⟩:=im.mem;have hkl:k<listed.size:=by rw[inv.lsz];exact hk
 have hlk:=hm k hk;have hnew: ∀x,(H k).length≤x→x<(H (k+1)).length→M x=none:=fun x h1 h2=>jfx hm inv hk hnk h1 h2
 have hall: ∀x,x<w.heap.size→w'.heap[x]?=w.heap[x]?:=fun x hx=>p.frame x hx fun id li bi h=>by cases h
 refine⟨⟨v,hv,?_,?_,?_⟩,?_,p.os.trans im.os,p.tape.trans im.tape,p.output.trans im.output,V3 im.size p.size,?_,?_,?_⟩
 ·intro i h3 hi
  exact (jcK hkl).2 (.inl (hw1 i h3 hi))
 ·intro i h3 hi hL
  rcases (jcK hkl).1 hL with hL|rfl
  ·exact hw2 i h3 hi hL
  ·exact h3k h3
 ·refine jp9 p.rels.rel r p.size (fun x b hb=>?_) (fun x b hb hx=>?_) (fun x b hx hb=>?_) (fun x b hx hb=>rfl) (fun x b hx hb lx hl=>hall b.b (r.lt x b hb)) (fun i j bi bj li lj hi hj hbi hbj hi0 hj0 hli hlj=>?_)
  ·have:=p.rels.dom x b hb
   by_cases h:(H k).length≤x
   ·left;simp[h];omega
   ·right
    rw[p.keep x (by omega)] at hb;exact (jay.1 hb).2
  ·simp at hx
   rw[hnew x hx.1 hx.2] at hb;cases hb
  ·simp at hx
   obtain⟨c1,c2,c3⟩:=jdY hm ops.size (V2 _) (V0 hx.2 (ja4 hm (show k+1≤ops.size by omega) (V2 _)));have hcr:crn H x ops.size=k+1:=by
    by_cases h1:crn H x ops.size≤k
    ·have:=ja4 hm h1 (by omega);omega
    ·by_cases h2:k+1<crn H x ops.size
     ·have:=c3 (k+1) h2;omega
     ·omega
   show blk (H (max v (crn H x ops.size))) x=_;rw[hx' x hx.1 hx.2,hcr];refine jiv hc tr hm (J6 _ _) (by omega) hx.2 fun i h1 h2 h3=>?_
   exact im.stable k hk hnk x hx.1 hx.2 i h3 (hw1 i h3 (by omega)) (by omega)
  ·simp at hi
   rcases p.fresh i bi (by omega) hbi with h1|⟨_,_,_,h1,_⟩
   ·have:=r.lt j bj hbj;omega
   ·cases h1
 ·intro j hj hnL x hx1 hx2 i h3 hL hji
  have hnLj: ¬Lst listed j:=fun h=>hnL ((jcK hkl).2 (.inl h))
  rcases (jcK hkl).1 hL with hL|rfl
  ·exact im.stable j hj hnLj x hx1 hx2 i h3 hL hji
  ·exact absurd h3 h3k
 ·intro x hx hn
  rw[hall x (V0 hx im.size),im.frame x hx hn]
 ·intro id hid
  have h1:id<(H k).length:=V0 hid (ja4 hm (J3 _) (by omega));have: ¬(H k).length≤id:=by omega
  simp only[jcC,this,decide_false,Bool.false_and,N6,if_false];exact im.keep id hid
 ·intro id b hid hb
  by_cases h2:(H k).length≤id∧id<(H (k+1)).length
  ·simp only[jcC,h2,decide_true,Bool.and_self,if_true] at hb
   rcases p.fresh id b (by omega) hb with h1|⟨_,_,_,h1,_⟩
   ·exact .inl (V3 im.size h1)
   ·cases h1
  ·have:jcC M m' (fun x=>decide ((H k).length≤x)&&decide (x<(H (k+1)).length)) id=M id:=by
    simp only[jcC];rw[if_neg];simpa using h2
   rw[this] at hb;exact im.fresh id b hid hb
end
end
section
open Go
section
variable {P:Program}{C:jby}{n0 B0 nt base:Nat}{fl:Nat→Bool}{ops:Array Oper}{l:List jav}{S:Nat→jal}{H:Nat→Heap}{D:Nat→Seen}{m0:Map}{w0:World}
theorem jm9 {x:AOp}(h:clsA x=3):heavy x=true:=by cases x<;>first|rfl|(simp[clsA] at h)
theorem jtR (tr:je3 C base fl l S H D){x:Nat}: ∀(d i:Nat),i+d≤l.length→x∈(D i).rs→x∈(D (i+d)).rs
 |0,i,_,h=>h
 |d+1,i,hi,h=>by
  have h1:x∈(D (i+1)).rs:=by
   rcases tr.step i (l[i]'(by omega)) (U1 _) with⟨_,v,_,_,hD⟩|⟨_,_,_,hD⟩
   ·rw[hD]
    unfold Seen.with;split
    ·exact h
    ·simp[h]
   ·rw[hD];exact h
  have:=jtR tr d (i+1) (by omega) h1
  rwa [show i+(d+1)=i+1+d by omega]
theorem pr_sub (tr:je3 C base fl l S H D){i:Nat}{o:jav}(ho:l[i]?=some o)(hw:jbu o (S i)=some true)(hiso:o.iso=false)(hh:heavy o.op=true): ∀(d:Nat),i+1+d≤l.length→
  ∃q,(D (i+1+d)).pr=some q∧ ∀x∈q,x∈jcw fl (D i) o (l.drop (i+1)) (S i) (H i)
 |0,hd=>by
  rcases tr.step i o ho with⟨_,v,_,_,hD⟩|⟨hw',_⟩
  ·rw[Nat.add_zero,hD]
   simp only[Seen.with,hiso,N6,if_false,hh,if_true];split
   ·exact⟨_,rfl,fun x hx=>hx⟩
   ·exact⟨_,rfl,fun x hx=>by simpa using (J7.1 hx).2⟩
  ·rw[hw] at hw';cases hw'
 |d+1,hd=>by
  obtain⟨q,h1,h2⟩:=pr_sub tr ho hw hiso hh d (by omega);rw[show i+1+(d+1)=i+1+d+1 by omega];rcases tr.step (i+1+d) (l[i+1+d]'(by omega)) (U1 _) with⟨_,v,_,_,hD⟩|⟨_,_,_,hD⟩
  ·rw[hD]
   unfold Seen.with;split
   ·exact⟨q,h1,h2⟩
   ·simp only
    split
    ·simp only[h1]
     exact⟨_,rfl,fun x hx=>h2 x (J7.1 hx).1⟩
    ·exact⟨q,h1,h2⟩
  ·rw[hD];exact⟨q,h1,h2⟩
theorem jiD {M:Map}{g:Nat→Option (List AV)}{w:World}(r:Rel n0 B0 M g w)(n:Nat)(hn:n0≤n):Rels n0 B0 (cutM M n) (O6 n none) w:=by
 have hb: ∀x lx,blk (O6 n none) x=some lx→False:=fun x lx h=>by
  rw[jdE,J8] at h;split at h<;>simp at h
 exact⟨⟨r.base,fun x b h=>r.lt x b (jay.1 h).2,fun x lx b h=>(hb x lx h).elim,fun x lx b h=>(hb x lx h).elim,fun x lx b _ h=>(hb x lx h).elim,fun x b hx h=>r.ro x b hx (jay.1 h).2,fun i j li lj bi bj _ _ h=>(hb i li h).elim,fun x lx b h=>(hb x lx h).elim,r.gl⟩,
  fun x b h=>by simpa using (jay.1 h).1,by simpa using hn⟩
theorem jol {M:Map}{g:Nat→Option (List AV)}{w:World}(r:Rel n0 B0 M g w)(n:Nat)(hn:n0≤n){id:Nat}{lx:List AV}(hid:id<n)(hg:g id=some lx)(hv: ∀b,M id=some b→ ∀(i:Nat) v u,lx[i]?=some v→VR M v u→VR (cutM M n) v u):
  Rels n0 B0 (cutM M n) ((O6 n none).set id (some lx)) w:=by
 have hb: ∀x lx',blk ((O6 n none).set id (some lx)) x=some lx'→x=id∧lx'=lx:=fun x lx' h=>by
  rw[jdE,M1] at h;split at h
  ·rename_i e
   subst e;simp[hid] at h;exact⟨rfl,h.symm⟩
  ·rw[J8] at h
   split at h<;>simp at h
 refine⟨⟨r.base,fun x b h=>r.lt x b (jay.1 h).2,?_,?_,?_,fun x b hx h=>r.ro x b hx (jay.1 h).2,?_,?_,r.gl⟩,fun x b h=>by simpa using (jay.1 h).1,by simpa using hn⟩
 ·intro x lx' b h hm i v hvi
  obtain⟨rfl,rfl⟩:=hb x lx' h;obtain⟨v',h1,h2⟩:=r.cell x lx' b hg (jhd hm) i v hvi;exact⟨v',h1,hv b (jay.1 hm.1).2 i v v' hvi h2⟩
 ·intro x lx' b h hm
  obtain⟨rfl,rfl⟩:=hb x lx' h;exact r.one x lx' b hg (jhd hm)
 ·intro x lx' b hx h hm
  obtain⟨rfl,rfl⟩:=hb x lx' h;exact r.own x lx' b hx hg (jhd hm)
 ·intro i j li lj bi bj _ _ hli hlj _ _ _
  rw[(hb i li hli).1,(hb j lj hlj).1]
 ·intro x lx' b h hm
  obtain⟨rfl,rfl⟩:=hb x lx' h;obtain⟨h1,h2,es,ck,h3,h4⟩:=r.mp x lx' b hg (ju8 hm);exact⟨h1,h2,es,ck,h3,h4.turn fun i v u hvi h5=>hv b (jay.1 hm.1).2 i v u hvi h5⟩
theorem jvf {O:Oper}{k:Nat}(hO:ops[k]?=some O):cl ops k=jhL O.op:=by simp[cl,hO]
theorem load_cur (hc:Comp P nt ops l)(dr:Draw ops l)(tr:je3 C base fl l S H D)(F:jhl n0 B0 nt base fl ops l S H D m0 w0)(hm: ∀i,i<ops.size→(H i).length≤(H (i+1)).length){listed:Array Bool}
  (hclosed: ∀(k:Nat) O,ops[k]?=some O→Lst listed k→ ∀e∈jdC O,Lst listed e) {k:Nat} {O:Oper} {o:jav} (hO:ops[k]?=some O) (ho:l[k]?=some o) (hk1:cl ops k=1) (hnk: ¬Lst listed k) (he: ∀e∈jdC O,Lst listed e)
  (hw:jbu o (S k)=some true) {x:Nat} (hx:x<(H k).length) (hsee:x∈sees (S k) o.op) (hsh:o.iso=false→jbw (some (base,(D k).pr)) x=true) {v:Nat} (hv:v≤ops.size) (hw1: ∀i,cl ops i=3→i<v→Lst listed i) (hw2: ∀i,cl ops i=3→v≤i→ ¬Lst listed i):
  blk (H (max v (crn H x ops.size))) x=blk (H k) x:=by
 have hks:k<ops.size:=(J2.1 hO).1;have hready: ∀O',ops[k]?=some O'→ ∀e∈jdC O',Lst listed e:=fun O' h=>by rw[hO] at h;injection h with h;subst h;exact he
 obtain⟨c1,c2,c3⟩:=jdY hm ops.size (V2 _) (V0 hx (ja4 hm (show k≤ops.size by omega) (V2 _)));have hck:crn H x ops.size≤k:=by
  by_cases h:crn H x ops.size≤k
  ·exact h
  ·have:=c3 k (by omega);omega
 -- a heavy one that leaves x alone
 have quiet: ∀i,i<ops.size→cl ops i=3→x<(H i).length→(∀oi,l[i]?=some oi→Ord ops i k→False)→(∀oi,l[i]?=some oi→jbu oi (S i)=some true→oi.iso=false→o.iso=false→x∈jcw fl (D i) oi (l.drop (i+1)) (S i) (H i))→blk (H (i+1)) x=blk (H i) x:=by
  intro i hi h3 hxi hno hforb;obtain⟨Oi,hOi⟩: ∃O,ops[i]?=some O:=⟨ops[i]'hi,V7 _⟩;obtain⟨oi,hoi,_⟩:=hc.at_ i Oi hOi;have hik:i≠k:=by intro e;subst e;rw[hk1] at h3;cases h3
  obtain⟨m,w,m',w',rr,pp⟩:=F.step i oi hoi hi;by_cases hwi:jbu oi (S i)=some true
  ·rw[if_pos hwi] at pp
   cases hiso:oi.iso with
   |true=>
    have:=(dr.iso i oi hoi hiso k (Ne.symm hik)).2 h3 hk1
    -- Ord k i
    exfalso;refine hno oi hoi ?_;unfold Ord at this ⊢;by_cases h:i<k
    ·rw[if_pos h];rw[if_neg (by omega)] at this;exact this
    ·rw[if_neg h];rw[if_pos (by omega)] at this;exact this
   |false=>
    cases hisok:o.iso with
    |true=>
     have:=(dr.iso k o ho hisok i hik).1 hk1 h3;exact (hno oi hoi this).elim
    |false=>
     have hin:=hforb oi hoi hwi hiso hisok;refine jd7 (pp.unt x hxi (.inr ?_));simp[jbB,hiso,hin]
  ·rw[if_neg hwi] at pp
   exact jd7 (pp.unt x hxi (.inr rfl))
 by_cases hle:max v (crn H x ops.size)≤k
 ·symm
  refine jiv hc tr hm hle (by omega) (V0 c2 (ja4 hm (J6 _ _) (by omega))) fun i h1 h2 h3=>?_
  have hvi:v≤i:=by omega
  refine quiet i (by omega) h3 (V0 c2 (ja4 hm (by omega) (by omega))) ?_ ?_
  ·intro oi hoi hord
   unfold Ord at hord;rw[if_pos h2] at hord;exact hw2 i h3 hvi (hord.ready hclosed hready)
  ·intro oi hoi hwi hiso hisok
   have hOi:ops[i]?=some (ops[i]'(by omega)):=V7 _;obtain⟨oi',hoi',hop,_⟩:=hc.at_ i _ hOi;rw[hoi] at hoi';injection hoi' with hoi';subst hoi'
   have hh:heavy oi.op=true:=by
    cases hcx:cOp P (ops[i]'(by omega)) with
    |none=>
     exfalso;rw[hcx] at hop;rcases tr.step i oi hoi with⟨_,v0,hr,_⟩|⟨hw',_⟩
     ·unfold jd9 at hr
      rw[hop] at hr;simp[jah] at hr
     ·rw[hwi] at hw';cases hw'
    |some y=>
     rw[hcx] at hop;simp only[W9] at hop;rw[hop];exact jm9 (by rw[jh2 hcx,← jvf hOi];exact h3)
   obtain⟨q,h4,h5⟩:=pr_sub tr hoi hwi hiso hh (k - (i+1)) (by rw[hc.len];omega);rw[show i+1+(k - (i+1))=k by omega] at h4;have hs:=hsh hisok;simp only[jbw,h4,U2] at hs;exact h5 x (by simpa using hs.2)
 ·have hvk:k<v:=by omega
  rw[J5 (by omega)];refine jiv hc tr hm (by omega) hv hx fun i h1 h2 h3=>?_
  have hik:i≠k:=by intro e;subst e;rw[hk1] at h3;cases h3
  refine quiet i (by omega) h3 (V0 hx (ja4 hm h1 (by omega))) ?_ ?_
  ·intro oi hoi hord
   unfold Ord at hord;rw[if_neg (by omega)] at hord;exact hnk (hord.closed hclosed (hw1 i h3 h2))
  ·intro oi hoi hwi hiso hisok
   have hOi:ops[i]?=some (ops[i]'(by omega)):=V7 _;obtain⟨oi',hoi',hop,_⟩:=hc.at_ i _ hOi;rw[hoi] at hoi';injection hoi' with hoi';subst hoi'
   have hh:heavy oi.op=true:=by
    cases hcx:cOp P (ops[i]'(by omega)) with
    |none=>
     exfalso;rw[hcx] at hop;rcases tr.step i oi hoi with⟨_,v0,hr,_⟩|⟨hw',_⟩
     ·unfold jd9 at hr
      rw[hop] at hr;simp[jah] at hr
     ·rw[hwi] at hw';cases hw'
    |some y=>
     rw[hcx] at hop;simp only[W9] at hop;rw[hop];exact jm9 (by rw[jh2 hcx,← jvf hOi];exact h3)
   have hrs:x∈(D (k+1)).rs:=by
    rcases tr.step k o ho with⟨_,v0,_,_,hD⟩|⟨hw',_⟩
    ·rw[hD];simp[Seen.with,hisok,hsee]
    ·rw[hw] at hw';cases hw'
   have:=jtR tr (i - (k+1)) (k+1) (by rw[hc.len];omega) hrs;rw[show k+1+(i - (k+1))=i by omega] at this;simp[jcw,hiso,hh,this]
end
end
section
open Go
section
variable {P:Program}{C:jby}{n0 B0 nt base:Nat}{fl:Nat→Bool}{ops:Array Oper}{l:List jav}{S:Nat→jal}{H:Nat→Heap}{D:Nat→Seen}{m0:Map}{w0:World}
theorem jkq {M:Map}{n:Nat}(p:Nat→Bool)(hp: ∀x,p x=true→x<n):jcC M (cutM M n) p=M:=by
 funext x;unfold jcC;split
 ·rename_i h;unfold cutM;rw[if_pos (hp x h)]
 ·rfl
theorem ju6 (hC:jcP P C)(hfl: ∀id,fl id=true→n0≤id)(hc:Comp P nt ops l)(dr:Draw ops l)(tr:je3 C base fl l S H D)(F:jhl n0 B0 nt base fl ops l S H D m0 w0)(hm: ∀i,i<ops.size→(H i).length≤(H (i+1)).length)(hn0:n0≤(H 0).length)
  {listed:Array Bool} {M:Map} {a:Act} {w:World} (inv:InvS nt ops S H listed M a) (im:InvM n0 B0 fl ops H m0 w0 listed M w) {k:Nat} (hk:k∈Region.ready .any ops listed) {K:Act→World→Prop} {Q:Exit→Act→World→Prop}
  (hK: ∀M' a' w',InvS nt ops S H (listed.setIfInBounds k true) M' a'→InvM n0 B0 fl ops H m0 w0 (listed.setIfInBounds k true) M' w'→a'.defers=a.defers→K a' w'):wpOp P ops Q k K a w:=by
 obtain⟨hnl,O,hO,hedge⟩:=mem_ready.1 hk;have hks:k<ops.size:=(J2.1 hO).1;have hkl:k<listed.size:=by rw[inv.lsz];exact hks
 have hnk: ¬Lst listed k:=by
  unfold Lst;simp only[J0,V7 hkl,W9] at hnl ⊢;rw[hnl];simp
 have he: ∀e∈jdC O,Lst listed e:=fun e hee=>by
  unfold jdC at hee;obtain⟨x,hx,rfl⟩:=List.mem_map.1 hee;obtain⟨h1,h2⟩:=J7.1 hx;exact hedge x (by simpa using h1) h2
 have hready: ∀O',ops[k]?=some O'→ ∀e∈jdC O',Lst listed e:=fun O' h=>by rw[hO] at h;injection h with h;subst h;exact he
 obtain⟨o,ho,hop,hdst,hg,hd⟩:=hc.at_ k O hO;have hdef: ∀v,(a.put O.dst v).defers=a.defers:=fun v=>by cases O.dst<;>rfl
 have hslot: ∀t,t∈looks ops O→VR (cutM M (H k).length) (S k t) (a.tmps.getD t undef):=fun t ht=>jr9 F (by omega) (jg0 hc dr tr inv hO hnk he ht)
 have hopd: ∀y∈O.op.operands.toList,∀ z,cOpd y=some z→VR (cutM M (H k).length) (z.ev (S k)) (a.eval y):=fun y hy z hz=>jnX hz fun t ht=>by
  subst ht;exact hslot t (jua hy)
 -- heavy ones around a heavy one
 have hv1:cl ops k=3→ ∀i,cl ops i=3→i<k→Lst listed i:=fun h3 i hi hik=>by
  have:=dr.heavy k i (by omega) h3 hi;unfold Ord at this;rw[if_pos hik] at this;exact this.ready inv.closed hready
 have hv2:cl ops k=3→ ∀i,cl ops i=3→k<i→ ¬Lst listed i:=fun h3 i hi hik hL=>by
  have:=dr.heavy k i (by omega) h3 hi;unfold Ord at this;rw[if_neg (by omega)] at this;exact hnk (this.closed inv.closed hL)
 have hgk:cl ops k=3→ ∀x b,M x=some b→x<(H k).length→ ∀v,(∀i,cl ops i=3→i<v→Lst listed i)→(∀i,cl ops i=3→v≤i→ ¬Lst listed i)→v≤ops.size→blk (H (max v (crn H x ops.size))) x=blk (H k) x:=by
  intro h3 x b hMx hx v w1 w2 hv;obtain⟨c1,c2,c3⟩:=jdY hm ops.size (V2 _) (V0 hx (ja4 hm (show k≤ops.size by omega) (V2 _)));have hck:crn H x ops.size≤k:=by
   by_cases h:crn H x ops.size≤k
   ·exact h
   ·have:=c3 k (by omega);omega
  have hvk:v≤k:=by
   by_cases h:v≤k
   ·exact h
   ·exact absurd (w1 k h3 (by omega)) hnk
  symm
  refine jiv hc tr hm (by omega) (by omega) (V0 c2 (ja4 hm (J6 _ _) (by omega))) fun i h1 h2 hi3=>?_
  exact absurd (hv1 h3 i hi3 h2) (w2 i hi3 (by omega))
 -- one that is left out, or changes nothing
 have still:H (k+1)=H k→ ∀v',(∀t,O.dst=some t→VR (cutM M (H k).length) (S (k+1) t) v')→K (a.put O.dst v') w:=by
  intro hH v' hv';refine hK M _ _ ?_ ?_ (hdef v')
  ·exact jex hc dr inv hO hnk he (fun _ _ h=>h) (fun _ _ h=> .inl h) (fun t ht=>(hv' t ht).mono fun id b h=>(jay.1 h).2) (fun x h1 h2=>by rw[hH] at h2;omega)
  ·by_cases h3:cl ops k=3
   ·have rr:=jki F hm inv im hn0 hks (hgk h3)
    have pp:Post n0 B0 fl (cutM M (H k).length) (H k) w (cutM M (H k).length) (H (k+1)) w:=by rw[hH];exact .refl rr
    have:=jm4 F hfl hm inv im hn0 hks h3 hnk (fun _ h=>h) pp (hv1 h3) (hv2 h3) (hgk h3)
    rwa [jkq _ (fun x hx=>by rw[hH] at hx;simpa using hx)] at this
   ·obtain⟨v,_,_,_,r⟩:=im.mem
    have rr:=jiD r (H k).length (V3 hn0 (ja4 hm (J3 _) (by omega)));have:=jgB hc tr hm inv im hks h3 hnk (hs:=O6 (H k).length none) (hs':=O6 (H k).length none) (by simp) (by rw[hH];simp) (fun x h1 h2=>by rw[hH] at h2;omega) (.refl rr)
    rwa [jkq _ (fun x hx=>by rw[hH] at hx;simp at hx;omega)] at this
 unfold wpOp;rw[hO];simp only;rcases tr.step k o ho with⟨hw,v,hrun,hS,hD⟩|⟨hw,hH,hS,hD⟩
 ·rw[jdt hg (fun t b hgt=>(jg0 hc dr tr inv hO hnk he (jfZ hg hgt))) hw]
  simp only[if_true];left;have hSt: ∀t,O.dst=some t→S (k+1) t=v:=fun t ht=>by rw[hS,jkj,hdst,if_pos ht]
  by_cases h3:cl ops k=3
  ·have rr:=jki F hm inv im hn0 hks (hgk h3)
   refine jiz hC hop hrun rr hfl hopd fun v' w' m' pp hv=>?_
   have hmono: ∀x b,M x=some b→jcC M m' (fun x=>decide (x<(H (k+1)).length)) x=some b:=fun x b hb=>by
    unfold jcC;split
    ·rename_i hx
     simp only[decide_eq_true_eq] at hx;by_cases hxk:x<(H k).length
     ·rw[pp.keep x hxk];exact jay.2 ⟨hxk,hb⟩
     ·rw[jfx hm inv hks hnk (by omega) hx] at hb;cases hb
    ·exact hb
   refine hK _ _ _ (jex hc dr inv hO hnk he hmono (fun x b hb => ?_) (fun t ht => ?_) (fun x h1 h2 => by
    simp only[jcC,h2,decide_true,if_true];exact pp.new x h1 h2)) (jm4 F hfl hm inv im hn0 hks h3 hnk jft pp (hv1 h3) (hv2 h3) (hgk h3)) (hdef v')
   ·unfold jcC at hb
    split at hb
    ·rename_i hx
     simp only[decide_eq_true_eq] at hx;by_cases hxk:x<(H k).length
     ·rw[pp.keep x hxk] at hb;exact .inl (jay.1 hb).2
     ·exact .inr ⟨by omega,hx⟩
    ·exact .inl hb
   ·rw[hSt t ht]
    exact hv.mono fun id b hb=>by
     have:=pp.rels.dom id b hb;simp[jcC,this,hb]
  ·cases hcx:cOp P O with
   |none=>
    exfalso;rw[hcx] at hop;unfold jd9 at hrun;rw[hop] at hrun;simp[jah] at hrun
   |some x=>
    rw[hcx] at hop;simp only[W9] at hop;have hcls:=jh2 hcx;rw[←jvf hO] at hcls;have hrun':jah (if o.iso then none else some (base,(D k).pr)) (jbB fl o (jcw fl (D k) o (l.drop (k+1)) (S k) (H k))) (S k) (H k) x=some (v,H (k+1)):=by
     unfold jd9 at hrun;split at hrun
     ·rename_i f args heq
      rw[heq] at hop;subst hop;exact absurd hcls.symm h3
     ·rw[hop] at hrun;exact hrun
    obtain⟨cv,cvle,cw1,cw2,r⟩:=im.mem;have hn0k:n0≤(H k).length:=V3 hn0 (ja4 hm (J3 _) (by omega));have hb:clsA x=0∨clsA x=1∨clsA x=2:=by
     have:clsA x=0∨clsA x=1∨clsA x=2∨clsA x=3:=by cases x<;>simp[clsA]
     rcases this with h|h|h|h
     ·exact .inl h
     ·exact .inr (.inl h)
     ·exact .inr (.inr h)
     ·exact absurd (hcls.symm.trans h) h3
    have nofl: ∀id,(fun _:Nat=>false) id=true→n0≤id:=fun id h=>by cases h
    rcases hb with hb|hb|hb
    ·-- touches nothing
     obtain⟨hH,hall⟩:=jmS hb hrun';refine jty hcx (hall (fun _=>false) (O6 (H k).length none)) (jiD r (H k).length hn0k) nofl hopd fun v' w' m' pp hv=>?_
     have hm': ∀id b,m' id=some b→cutM M (H k).length id=some b:=fun id b hb=>by
      have:=pp.rels.dom id b hb;rw[pp.keep id this] at hb;exact hb
     have:=jgB hc tr hm inv im hks h3 hnk (hs:=O6 (H k).length none) (hs':=O6 (H k).length none) (by simp) (by rw[hH];simp) (fun x h1 h2=>by rw[hH] at h2;omega) pp;have hj:jcC M m' (fun x=>decide ((H k).length≤x)&&decide (x<(H (k+1)).length))=M:=by
      funext x;unfold jcC;rw[if_neg];rw[hH];simp
     rw[hj] at this;refine hK M _ _ (jex hc dr inv hO hnk he (fun _ _ h=>h) (fun _ _ h=> .inl h) (fun t ht=>?_) (fun x h1 h2=>by rw[hH] at h2;omega)) this (hdef v');rw[hSt t ht];exact (hv.mono hm').mono fun id b h=>(jay.1 h).2
    ·-- reads
     cases x<;>first|(simp[clsA] at hb;done)|skip
     rename_i n x';obtain⟨hH,id,off,lx,hptr,hsh,hlx,hall⟩:=jm6 hrun';have hidk:=jcm hlx;have hcur:blk (H (max cv (crn H id ops.size))) id=some lx:=by
      rw[load_cur hc dr tr F hm inv.closed hO ho (by rw[←hcls];rfl) hnk he hw hidk (by rw[hop];simp[sees,hptr,idOf]) (fun hi=>by rw[hi] at hsh;simpa using hsh) cvle cw1 cw2];exact hlx
     have rr := jol r (H k).length hn0k hidk hcur (fun b hMb i u y hu hy => by
      refine jju F (by omega) hlx hu ?_ hy;by_cases h0:id<(H 0).length
      ·left;rw[←im.keep id h0,hMb];simp
      ·right;omega)
     have hb2:blk ((O6 (H k).length none).set id (some lx)) id=some lx:=by
      rw[jdE,M1];simp[hidk]
     refine jty hcx (hall (fun _=>false) _ hb2) rr nofl hopd fun v' w' m' pp hv=>?_
     have hm': ∀id b,m' id=some b→cutM M (H k).length id=some b:=fun id b hb=>by
      have:=pp.rels.dom id b hb;rw[pp.keep id this] at hb;exact hb
     have:=jgB hc tr hm inv im hks h3 hnk (by simp) (by rw[hH];simp) (fun x h1 h2=>by rw[hH] at h2;omega) pp;have hj:jcC M m' (fun x=>decide ((H k).length≤x)&&decide (x<(H (k+1)).length))=M:=by
      funext x;unfold jcC;rw[if_neg];rw[hH];simp
     rw[hj] at this;refine hK M _ _ (jex hc dr inv hO hnk he (fun _ _ h=>h) (fun _ _ h=> .inl h) (fun t ht=>?_) (fun x h1 h2=>by rw[hH] at h2;omega)) this (hdef v');rw[hSt t ht];exact (hv.mono hm').mono fun id b h=>(jay.1 h).2
    ·-- makes
     obtain⟨lx,hH,hall⟩:=jlc hb hrun';refine jty hcx (hall (fun _=>false) (O6 (H k).length none) (by simp)) (jiD r (H k).length hn0k) nofl hopd fun v' w' m' pp hv=>?_
     have hx': ∀x,(H k).length≤x→x<(H (k+1)).length→blk (O6 (H k).length none++[some lx]) x=blk (H (k+1)) x:=fun x h1 h2=>by
      rw[hH] at h2 ⊢;simp at h2;obtain rfl:x=(H k).length:=by omega
      rw[jbk,jdE.2];rw[N0 (by simp)];simp
     have:=jgB hc tr hm inv im hks h3 hnk (by simp) (by rw[hH];simp) hx' pp;have hmono: ∀x b,M x=some b→jcC M m' (fun x=>decide ((H k).length≤x)&&decide (x<(H (k+1)).length)) x=some b:=fun x b hb=>by
      unfold jcC;split
      ·rename_i hx
       simp at hx;rw[jfx hm inv hks hnk hx.1 hx.2] at hb;cases hb
      ·exact hb
     refine hK _ _ _ (jex hc dr inv hO hnk he hmono (fun x b hb => ?_) (fun t ht => ?_) (fun x h1 h2 => by
      simp only[jcC,h1,h2,decide_true,Bool.and_self,if_true];exact pp.new x (by simpa using h1) (by rw[hH] at h2;simpa using h2))) this (hdef v')
     ·unfold jcC at hb
      split at hb
      ·rename_i hx
       simp at hx;exact .inr hx
      ·exact .inl hb
     ·rw[hSt t ht]
      refine hv.mono fun id b hb=>?_
      have hid:=pp.rels.dom id b hb;unfold jcC;split
      ·exact hb
      ·rename_i hx
       simp at hx hid;have h1:id<(H k).length:=by
        by_cases h:id<(H k).length
        ·exact h
        ·have:=hx (by omega)
         rw[hH] at this;simp at this;omega
       rw[pp.keep id (by simpa using h1)] at hb;exact (jay.1 hb).2
 ·rw[jdt hg (fun t b hgt=>(jg0 hc dr tr inv hO hnk he (jfZ hg hgt))) hw]
  simp only[N6,if_false];refine still hH undef fun t ht=>?_
  rw[hS,jkj,hdst,if_pos ht];exact VRs.no
theorem Rel.congr {M:Map}{g g':Nat→Option (List AV)}{w:World}(r:Rel n0 B0 M g w)(h: ∀x b,M x=some b→g' x=g x):Rel n0 B0 M g' w:=
 ⟨r.base, r.lt, fun x lx b hl hb => r.cell x lx b (by rw [← h x b hb.1]; exact hl) hb, fun x lx b hl hb => r.one x lx b (by rw [← h x b hb.1]; exact hl) hb, fun x lx b hx hl hb => r.own x lx b hx (by rw [← h x b hb.1]; exact hl) hb, r.ro,
  fun i j li lj bi bj hi hj hli hlj hbi hbj=>r.inj i j li lj bi bj hi hj (by rw[←h i bi hbi];exact hli) (by rw[←h j bj hbj];exact hlj) hbi hbj,
  fun x lx b hl hb=>r.mp x lx b (by rw[←h x b hb.1];exact hl) hb,r.gl⟩
theorem draw_end (hc:Comp P nt ops l)(dr:Draw ops l)(tr:je3 C base fl l S H D)(F:jhl n0 B0 nt base fl ops l S H D m0 w0)(hm: ∀i,i<ops.size→(H i).length≤(H (i+1)).length)(hn0:n0≤(H 0).length)
  {listed:Array Bool} {M:Map} {a:Act} {w:World} (inv:InvS nt ops S H listed M a) (im:InvM n0 B0 fl ops H m0 w0 listed M w) (hall: ∀i,i<ops.size→Lst listed i):
  Post n0 B0 fl m0 (H 0) w0 M (H ops.size) w∧SR nt M (S ops.size) a:=by
 obtain⟨m,w1,a1,p,s⟩:=F.seq ops.size (V2 _);obtain⟨v,hv,w1',w2',r⟩:=im.mem;refine⟨⟨⟨r.congr fun x b hb=>?_,fun x b hb=>ju7 hm inv hb,V3 hn0 (ja4 hm (J3 _) (V2 _))⟩,ja4 hm (J3 _) (V2 _),im.keep,im.os,im.tape,im.output,im.size,im.frame,fun id b h1 h2=>im.fresh id b h1 h2,?_,p.dead,?_⟩,inv.asz,fun t=>?_⟩
 ·have hx:=ju7 hm inv hb
  obtain⟨c1,c2,c3⟩:=jdY hm ops.size (V2 _) hx;refine jiv hc tr hm (by omega) (V2 _) (V0 c2 (ja4 hm (J6 _ _) (by omega))) fun i h1 h2 h3=>?_
  exact absurd (hall i h2) (w2' i h3 (by omega))
 ·intro id hid hh
  exact p.unt id hid hh
 ·intro x h1 h2
  obtain⟨c1,c2,c3⟩:=jdY hm ops.size (V2 _) h2;have hpos:0<crn H x ops.size:=by
   by_cases h:crn H x ops.size=0
   ·rw[h] at c2;omega
   ·omega
  have h3:=c3 (crn H x ops.size - 1) (by omega);exact inv.made (crn H x ops.size - 1) (by omega) (hall _ (by omega)) x h3 (by rw[show crn H x ops.size - 1+1=crn H x ops.size by omega];exact c2)
 ·by_cases hw: ∃(i:Nat) (p:Oper),ops[i]?=some p∧p.dst=some t
  ·obtain⟨i,p,hp,hpd⟩:=hw
   have hi:i<ops.size:=(J2.1 hp).1;have:=jff hc tr (t:=t) (ops.size - (i+1)) (i+1) (by omega) (fun j q h1 h2 hq=>(dr.data j i q p t hq hp (by omega) hpd).1);rw[show i+1+(ops.size - (i+1))=ops.size by omega] at this;rw[this];exact inv.slotL i p t hp hpd (hall i hi)
  ·have:=jff hc tr (t:=t) ops.size 0 (by omega) (fun j q h1 h2 hq hqd=>hw ⟨j,q,hq,hqd⟩)
   rw[Nat.zero_add] at this;rw[this];exact inv.slotN t fun i p hp hpd=>absurd ⟨i,p,hp,hpd⟩ hw
def unl (ops:Array Oper)(listed:Array Bool):Nat:=(List.range ops.size).countP fun i=> !listed.getD i false
theorem jkB {p q:Nat→Bool}{k:Nat}(hne: ∀i,i≠k→q i=p i)(hp:p k=true)(hq:q k=false): ∀(xs:List Nat),xs.Nodup→(k∈xs→xs.countP p=xs.countP q+1)∧(k∉xs→xs.countP p=xs.countP q)
 |[],_=>⟨fun h=>by simp at h,fun _=>rfl⟩
 |x::xs,hn=>by
  obtain⟨h1,h2⟩:=List.nodup_cons.1 hn;obtain⟨ih1,ih2⟩:=jkB hne hp hq xs h2;constructor
  ·intro hk
   by_cases e:x=k
   ·subst e
    rw[List.countP_cons_of_pos hp,List.countP_cons_of_neg (by simp[hq]),ih2 h1]
   ·have hkx:k∈xs:=by
     rcases List.mem_cons.1 hk with h|h
     ·exact absurd h.symm e
     ·exact h
    rw[J9,J9,hne x e,ih1 hkx];omega
  ·intro hk
   have e:x≠k:=fun e=>hk (by simp[e])
   have hkx:k∉xs:=fun h=>hk (by simp[h])
   rw[J9,J9,hne x e,ih2 hkx]
theorem unl_set {listed:Array Bool}{k:Nat}(hk:k<ops.size)(hl:listed.size=ops.size)(hn: ¬Lst listed k):unl ops listed=unl ops (listed.setIfInBounds k true)+1:=by
 unfold unl;refine (jkB (k:=k) (fun i hi=>?_) ?_ ?_ _ List.nodup_range).1 (R0.2 hk)
 ·simp only[J0,G5]
  rw[if_neg (Ne.symm hi)]
 ·show (!listed.getD k false)=true
  rw[Bool.eq_false_iff.2 hn];rfl
 ·simp[J0,hl,hk]
theorem jqa (dr:Draw ops l){listed:Array Bool}(hl:listed.size=ops.size): ∀(n k:Nat),k<n→k<ops.size→ ¬Lst listed k→ ∃j,j∈Region.ready .any ops listed
 |0,k,h,_,_=>absurd h (by omega)
 |n+1,k,h,hk,hn=>by
  have hO:ops[k]?=some (ops[k]'hk):=V7 _;by_cases hall: ∀e∈jdC ops[k],Lst listed e
  ·refine⟨k,mem_ready.2 ⟨?_,_,hO,fun e he hb=>?_⟩⟩
   ·unfold Lst at hn
    simp only[J0] at hn ⊢;rw[V7 (by rw[hl];exact hk)] at hn ⊢;simpa using hn
   ·exact hall e.on (List.mem_map.2 ⟨e,J7.2 ⟨by simpa using he,hb⟩,rfl⟩)
  ·simp only[Classical.not_forall] at hall
   obtain⟨e,he,hne⟩:=hall;have:=dr.edge k _ hO e he;exact jqa dr hl n e (by omega) (by omega) hne
theorem draw_all (hC:jcP P C)(hfl: ∀id,fl id=true→n0≤id)(hc:Comp P nt ops l)(dr:Draw ops l)(tr:je3 C base fl l S H D)(F:jhl n0 B0 nt base fl ops l S H D m0 w0)(hm: ∀i,i<ops.size→(H i).length≤(H (i+1)).length)(hn0:n0≤(H 0).length)
  {defs:List Deferred} {Q:Exit→Act→World→Prop} (hQ: ∀M a w,Post n0 B0 fl m0 (H 0) w0 M (H ops.size) w→SR nt M (S ops.size) a→a.defers=defs→Q .normal a w):
  ∀(fuel:Nat) (listed:Array Bool) (M:Map) (a:Act) (w:World),unl ops listed=fuel→InvS nt ops S H listed M a→InvM n0 B0 fl ops H m0 w0 listed M w→a.defers=defs→wpAny P .any ops Q fuel listed a w:=by
 intro fuel;have fin: ∀(listed:Array Bool) (M:Map) (a:Act) (w:World),Region.ready .any ops listed=[]→InvS nt ops S H listed M a→InvM n0 B0 fl ops H m0 w0 listed M w→a.defers=defs→Q .normal a w:=by
  intro listed M a w hr inv im hda;have hall: ∀i,i<ops.size→Lst listed i:=fun i hi=>by
   by_cases h:Lst listed i
   ·exact h
   ·obtain⟨j,hj⟩:=jqa dr inv.lsz (i+1) i (by omega) hi h
    rw[hr] at hj;cases hj
  obtain⟨p,s⟩:=draw_end hc dr tr F hm hn0 inv im hall;exact hQ M a w p s hda
 induction fuel with
 |zero=>
  intro listed M a w hu inv im hda;have hr:Region.ready .any ops listed=[]:=by
   cases h:Region.ready .any ops listed with
   |nil=>rfl
   |cons j r=>
    have hj:j∈Region.ready .any ops listed:=by rw[h];simp
    obtain⟨hnl,O,hO,_⟩:=mem_ready.1 hj;have hjs:j<ops.size:=(J2.1 hO).1;have hp:(!listed.getD j false)=true:=by
     simp only[J0,V7 (show j<listed.size by rw[inv.lsz];exact hjs),W9] at hnl ⊢;rw[hnl];rfl
    have:=(List.countP_pos_iff (p:=fun i=> !listed.getD i false) (l:=List.range ops.size)).2 ⟨j,R0.2 hjs,hp⟩;unfold unl at hu;omega
  exact⟨hr,fin listed M a w hr inv im hda⟩
 |succ fuel ih=>
  intro listed M a w hu inv im hda;refine⟨fun hr=>fin listed M a w hr inv im hda,fun k hk=>?_⟩;refine ju6 hC hfl hc dr tr F hm hn0 inv im hk fun M' a' w' inv' im' hd'=>?_
  obtain⟨hnl,O,hO,_⟩:=mem_ready.1 hk;have hks:k<ops.size:=(J2.1 hO).1;have hnk: ¬Lst listed k:=by
   unfold Lst;simp only[J0,V7 (show k<listed.size by rw[inv.lsz];exact hks),W9] at hnl ⊢;rw[hnl];simp
  have:=unl_set hks inv.lsz hnk;exact ih _ M' a' w' (by omega) inv' im' (hd'.trans hda)
theorem jhY {α β:Type}{f:α→Option β}: ∀(xs:List α) (ys:List β),xs.mapM f=some ys→ys.length=xs.length∧ ∀(i:Nat) x,xs[i]?=some x→ ∃y,ys[i]?=some y∧f x=some y
 |[],ys,h=>by
  simp at h;subst h
  exact⟨rfl,fun i x hx=>by simp at hx⟩
 |x::xs,ys,h=>by
  simp only[Q7,Q6,Q8,E0,U4] at h;obtain⟨y,hy,ys',hys,rfl⟩:=h;obtain⟨h1,h2⟩:=jhY xs ys' hys;refine⟨by simp[h1],fun i z hz=>?_⟩
  cases i with
  |zero=>simp at hz;subst hz;exact⟨y,rfl,hy⟩
  |succ i=>simpa using h2 i z (by simpa using hz)
theorem jk7 {draw:Bool}(h:je1 P nt ops draw=some l):(draw=true→ji1 ops (ancs ops.toList)=true)∧l.length=ops.size∧ ∀(i:Nat) O,ops[i]?=some O→ ∃o,l[i]?=some o∧o.op=(if draw then cOp P O else cOpU P O).getD .bad∧o.dst=O.dst∧jdX ops O=some o.guard∧o.iso=(!draw||jrk ops.toList (ancs ops.toList) i (jhL O.op))∧ ∀d,O.dst=some d→d<nt:=by
 unfold je1 at h;simp only at h;split at h
 ·rename_i hcond
  obtain⟨hdraw,hdst⟩:=hcond;obtain⟨hlen,hget⟩:=jhY _ _ h;have hz: ∀(i:Nat) O,ops[i]?=some O→ops.toList.zipIdx[i]?=some (O,i):=fun i O hO=>by
   simp[R4,hO]
  refine⟨hdraw,by rw[hlen];simp,fun i O hO=>?_⟩;obtain⟨y,h1,h2⟩:=hget i (O,i) (hz i O hO);simp only[Q8,E0,Q6,U4] at h2;obtain⟨g,hg,rfl⟩:=h2;refine⟨_,h1,rfl,rfl,hg,rfl,fun d hd=>?_⟩;have:=N2.1 hdst O (R5 (by simpa using hO));rw[hd] at this;simpa using this
 ·cases h
theorem jnV (h:je1 P nt ops false=some l):l.length=ops.size∧jvB P nt ops 0 l:=by
 obtain⟨_,hlen,hat⟩:=jk7 h;refine⟨hlen,⟨fun j o ho=>?_⟩⟩;have hj:j<ops.size:=by rw[←hlen];exact (U0.1 ho).1
 obtain⟨o',h1,h2,h3,h4,_,h5⟩:=hat j _ (V7 hj);rw[ho] at h1;injection h1 with h1;subst h1
 exact⟨_,by rw[Nat.zero_add];exact V7 hj,by simpa using h2,h3,h4,h5⟩
theorem jnW (h:je1 P nt ops true=some l):Comp P nt ops l∧Draw ops l:=by
 obtain⟨hok,hlen',hat⟩:=jk7 h;have hok:=hok rfl;unfold ji1 at hok;have hall:=N2.1 hok;have hmem: ∀(i:Nat) O,ops[i]?=some O→(O,i)∈ops.toList.zipIdx:=fun i O hO=>R5 (i:=i) (by simp[R4,hO])
 refine⟨⟨hlen',fun i O hO=>?_⟩,⟨fun k O hO e he=>?_,fun k i O p d hO hp hik hpd=>?_,fun k i hik h3 h3'=>?_,fun k o ho hiso i hik=>?_⟩⟩
 ·obtain⟨o,h1,h2,h3,h4,_,h5⟩:=hat i O hO
  exact⟨o,h1,by simpa using h2,h3,h4,h5⟩
 ·have:=hall (O,k) (hmem k O hO)
  simp only[U2] at this;simpa using N2.1 this.1 e he
 ·have:=hall (O,k) (hmem k O hO)
  simp only[U2] at this;have:=N2.1 this.2 (p,i) (hmem i p hp);simp only[R7,U2,beq_iff_eq,hik,false_or,hpd] at this;obtain⟨_,h1,h2⟩:=this;refine⟨fun e=>by simp[e] at h1,fun hl=>?_⟩;rcases h2 with h2|h2
  ·simp at h2;exact absurd hl h2
  ·exact jee h2
 ·unfold cl at h3 h3'
  split at h3
  ·rename_i O hO
   split at h3'
   ·rename_i p hp
    have:=hall (O,k) (hmem k O hO);simp only[U2] at this;have:=N2.1 this.2 (p,i) (hmem i p hp);simp only[R7,U2,beq_iff_eq,hik,false_or] at this;obtain⟨h1,_⟩:=this;rcases h1 with (h1|h1)|h1
    ·simp[h3] at h1
    ·simp[h3'] at h1
    ·exact jee h1
   ·cases h3'
  ·cases h3
 ·have hkl:k<ops.size:=by rw[←hlen'];exact (U0.1 ho).1
  have hO:ops[k]?=some (ops[k]'hkl):=V7 _;obtain⟨o',h1,_,_,_,h5,_⟩:=hat k _ hO;rw[ho] at h1;injection h1 with h1;subst h1
  rw[hiso] at h5;simp only[Bool.not_true,Bool.false_or] at h5;have h5:=N2.1 h5.symm;have hck:cl ops k=jhL ops[k].op:=by simp[cl,hO]
  constructor
  ·intro c1 c3
   unfold cl at c3;split at c3
   ·rename_i p hp
    have:=h5 (p,i) (hmem i p hp);rw[hck] at c1;simp only[c1,R7,beq_iff_eq,hik,false_or,bne_iff_ne,ne_eq,c3,not_true_eq_false] at this;exact jee this
   ·cases c3
  ·intro c3 c1
   unfold cl at c1;split at c1
   ·rename_i p hp
    have:=h5 (p,i) (hmem i p hp);rw[hck] at c3;simp only[c3,R7,beq_iff_eq,hik,false_or,bne_iff_ne,ne_eq,c1,not_true_eq_false] at this;exact jee this
   ·cases c1
theorem jiG {Gp:Value→Prop}{C:jeH}(hC:jer P Gp C)(hfl: ∀id,fl id=true→n0≤id){id:Nat}(hcomp:je1 P nt ops false=some l){s:jal}{h:Heap}{base:Nat}{KK:jal→Heap→Prop}(hrun:jbX C base fl ⟨[],none⟩ l s h KK)
  {m:Map} {w:World} (r:Rels n0 B0 m h w) {a:Act} (hs:SR nt m s a) {Q:Exit→Act→World→Prop} (hQ: ∀s' h' m' a' w',KK s' h'→Post n0 B0 fl m h w m' h' w'→SR nt m' s' a'→a'.defers=a.defers→Q .normal a' w') (hG: ∀pv h' m' a' w',Gp pv→Post n0 B0 fl m h w m' h' w'→a'.defers=a.defers→Q (.panic [{ v:=pv,recovered:=false }]) a' w'):(Code.region id ops false).wp P Q a w:=by
 obtain⟨hlen,hc⟩:=jnV hcomp;refine wp_region ?_;rw[List.range_eq_range',← hlen,← List.append_nil (List.range' 0 l.length)];exact jlw hC hfl r.dom (fun pv h' m' a' w' hg p d=>hG pv h' m' a' w' hg p d) l _ 0 s h KK hc hrun m a w (.refl r) hs rfl fun s' h' a' w' m' hk p q d=>hQ s' h' m' a' w' hk p q d
theorem jkd (hmix:P.follows .mixedOrders=true)(hC:jcP P C)(hfl: ∀id,fl id=true→n0≤id){id:Nat}{draw:Bool}(hcomp:je1 P nt ops draw=some l){s s':jal}{h h':Heap}{rs0:List Nat}(hrs0:draw=false→rs0=[])(hrun:jcv C h.length fl ⟨rs0,none⟩ l s h=some (s',h'))
  {m:Map} {w:World} (r:Rels n0 B0 m h w) {a:Act} (hs:SR nt m s a) {Q:Exit→Act→World→Prop} (hQ: ∀m' a' w',Post n0 B0 fl m h w m' h' w'→SR nt m' s' a'→a'.defers=a.defers→Q .normal a' w'):(Code.region id ops draw).wp P Q a w:=by
 cases draw with
 |false=>
  have:=hrs0 rfl;subst this
  exact jiG (jiM hC) hfl hcomp (jfN _ _ _ _ _ _ (fun s2 h2=>s2=s'∧h2=h') hrun ⟨rfl,rfl⟩) r hs (fun s2 h2 m' a' w' e p q d=>hQ m' a' w' (e.2▸p) (e.1▸q) d) (fun _ _ _ _ _ h=>h.elim)
 |true=>
  obtain⟨hc,dr⟩:=jnW hcomp;obtain⟨S,H,D,e1,e2,e3,e4,e5,tr⟩:=jll _ _ _ _ _ _ hrun;subst e1;subst e2
  rw[hc.len] at e4 e5;subst e4;subst e5
  refine wp_region_any hmix ?_;have r':Rels n0 B0 m (H 0) w.drew:=r.drew;have F:=facts_of hC hfl hc tr r' hs;have hm: ∀i,i<ops.size→(H i).length≤(H (i+1)).length:=fun i hi=>F.len hc i hi
  refine draw_all hC hfl hc dr tr F hm r.n0 (defs:=a.defers) (fun M a' w' p s d=>hQ M a' w' p.drew s d) ops.size (R8 ops.size false) m a _ ?_ ?_ ?_ rfl
  ·unfold unl
   rw [List.countP_eq_length.2 (fun i hi => by
    have:=R0.1 hi;simp[J0,this])]
   simp
  ·have hno: ∀i,¬ Lst (R8 ops.size false) i:=fun i h=>by
    unfold Lst at h;simp only[J0,R9] at h;split at h<;>simp at h
   exact⟨by simp,fun k O _ h=>absurd h (hno k),hs.size,fun x b hb=> .inl (r.dom x b hb),fun i O t _ _ h=>absurd h (hno i),fun t _=>hs.slot t,fun i _ h=>absurd h (hno i)⟩
  ·have hno: ∀i,¬ Lst (R8 ops.size false) i:=fun i h=>by
    unfold Lst at h;simp only[J0,R9] at h;split at h<;>simp at h
   refine⟨⟨0,J3 _,fun i _ h=>absurd h (by omega),fun i _ _=>hno i,?_⟩,fun j _ _ x _ _ i _ h=>absurd h (hno i),rfl,rfl,rfl,V2 _,fun _ _ _=>rfl,fun _ _=>rfl,fun x b h1 h2=>absurd (r.dom x b h2) (by omega)⟩;refine r'.rel.congr fun x b hb=>?_
   have hx:x<(H 0).length:=r.dom x b hb;have:crn H x ops.size=0:=by
    obtain⟨c1,c2,c3⟩:=jdY hm ops.size (V2 _) (V0 hx (ja4 hm (J3 _) (V2 _)));by_cases h:crn H x ops.size=0
    ·exact h
    ·have:=c3 0 (by omega);omega
   rw[this];rfl
end
end
section
open Go Go.RowKit
open Go.ChangeMaps (setBlock)
section
variable {P:Program}{n0 B0 nt:Nat}{fl:Nat→Bool}
def jea:jaA→Exit
  | .normal=> .normal
  | .exit id=> .exit id
  | .ret=> .ret
def SndP (P:Program)(Gp:Value→Prop)(n0 B0 nt:Nat)(fl:Nat→Bool)(f:jal→Heap→OutP)(c:Code):Prop:=
  ∀s h K,f s h K→ ∀m w a,Rels n0 B0 m h w→SR nt m s a→ ∀Q:Exit→Act→World→Prop,
    (∀x s' h' m' a' w',K x s' h'→Post n0 B0 fl m h w m' h' w'→SR nt m' s' a'→a'.defers=a.defers→Q (jea x) a' w')→
    (∀pv h' m' a' w',Gp pv→Post n0 B0 fl m h w m' h' w'→a'.defers=a.defers→Q (.panic [{ v:=pv,recovered:=false }]) a' w')→c.wp P Q a w
/-! ### Strings -/
/-! ### One round -/
section
variable {Gp:Value→Prop}{m0:Map}{h0:Heap}{w0:World}{defs:List Deferred}{Q:Exit→Act→World→Prop}{KK:jaA→jal→Heap→Prop}{f:jal→Heap→OutP}{B:Code}
variable {r1 nx more pair it i0 out nb r:Nat}{ops1:Array Oper}{O1 O2:Oper}
end
/-! ### The whole loop -/
end
end
section
open Go Go.RowKit
section
variable {P:Program}{Gp:Value→Prop}{C:jby}{n0 B0 nt:Nat}{fl:Nat→Bool}
theorem jcp (hmix:P.follows .mixedOrders=true){Cd:Nat→jby}{C:jeH}(hCd: ∀k,jcP P (Cd k))(hC:jer P Gp C): ∀(code:Code) (c:jam),jde P nt code=some c→ ∀fl:Nat→Bool,(∀id,fl id=true→n0≤id)→SndP P Gp n0 B0 nt fl (fun s h K=>jdc Cd C c fl s h K) code
 | .skip,c,hc,fl,hfl=>by
  intro s h K hp m w a r hs Q hQ hG;simp only[jde,U4] at hc;subst hc
  exact wp_skip (hQ .normal s h m a w hp (.refl r) hs rfl)
 | .region id ops draw,c,hc,fl,hfl=>by
  intro s h K hp m w a r hs Q hQ hG;simp only[jde,U5] at hc;obtain⟨l,hl,rfl⟩:=hc
  cases draw with
  |false=>
   simp only[N6,if_false,jdc] at hp;exact jiG hC hfl hl hp r hs (fun s' h' m' a' w' k p q d=>hQ .normal s' h' m' a' w' k p q d) hG
  |true=>
   simp only[if_true] at hp;split at hp
   ·simp only[jdc] at hp
    obtain⟨n,s',h',hrun,k⟩:=hp;exact jkd hmix (hCd n) hfl hl (fun h=>by cases h) hrun r hs fun m' a' w' p q d=>hQ .normal s' h' m' a' w' k p q d
   ·simp only[jdc] at hp
    obtain⟨n,s',h',hrun,k⟩:=hp;exact jkd hmix (hCd n) hfl hl (fun h=>by cases h) hrun r hs fun m' a' w' p q d=>hQ .normal s' h' m' a' w' k p q d
 | .seq A B,c,hc,fl,hfl=>by
  intro s h K hp m w a r hs Q hQ hG;simp only[jde,Q8,E0,Q6,U4] at hc;obtain⟨ca,ha,cb,hb,rfl⟩:=hc;simp only[jdc] at hp;refine wp_seq (jcp hmix hCd hC A ca ha fl hfl s h _ hp m w a r hs _ (fun x s1 h1 m1 a1 w1 k p q d=>?_) hG)
  cases x with
  |normal=>exact jcp hmix hCd hC B cb hb fl hfl s1 h1 K k m1 w1 a1 p.rels q Q (fun x s2 h2 m2 a2 w2 k2 p2 q2 d2=>hQ x s2 h2 m2 a2 w2 k2 (p.trans r.dom p2) q2 (d2.trans d)) fun pv h2 m2 a2 w2 g p2 d2=>hG pv h2 m2 a2 w2 g (p.trans r.dom p2) (d2.trans d)
  |exit id=>exact hQ (.exit id) s1 h1 m1 a1 w1 k p q d
  |ret=>exact hQ .ret s1 h1 m1 a1 w1 k p q d
 | .cond o A B,c,hc,fl,hfl=>by
  intro s h K hp m w a r hs Q hQ hG;simp only[jde,Q8,E0,Q6,U4] at hc;obtain⟨co,ho,ca,ha,cb,hb,rfl⟩:=hc;simp only[jdc] at hp;obtain⟨t,ht,hp1,hp2⟩:=hp;have hv:=hs.opd ho;rw[ht] at hv;refine wp_cond hv.bool ?_
  cases t with
  |true=>exact jcp hmix hCd hC A ca ha fl hfl s h K (hp1 rfl) m w a r hs Q hQ hG
  |false=>exact jcp hmix hCd hC B cb hb fl hfl s h K (hp2 rfl) m w a r hs Q hQ hG
 | .block id A,c,hc,fl,hfl=>by
  intro s h K hp m w a r hs Q hQ hG;simp only[jde,U5] at hc;obtain⟨ca,ha,rfl⟩:=hc;simp only[jdc] at hp;refine wp_block (jcp hmix hCd hC A ca ha fl hfl s h _ hp m w a r hs _ (fun x s1 h1 m1 a1 w1 k p q d=>?_) hG)
  cases x with
  |normal=>exact hQ .normal s1 h1 m1 a1 w1 k p q d
  |exit j=>
   simp only[jaA.inBlk] at k;simp only[jea,Exit.inBlock];split at k
   ·rename_i hj;rw[if_pos hj];exact hQ .normal s1 h1 m1 a1 w1 k p q d
   ·rename_i hj;rw[if_neg hj];exact hQ (.exit j) s1 h1 m1 a1 w1 k p q d
  |ret=>exact hQ .ret s1 h1 m1 a1 w1 k p q d
 | .loop A,c,hc,fl,hfl=>by
  intro s h K hp m w a r hs Q hQ hG;simp only[jde,U5] at hc;obtain⟨ca,ha,rfl⟩:=hc;simp only[jdc] at hp;intro b kk cs;have ihA:=jcp hmix hCd hC A ca ha fl hfl;have key:=hp (fun s h=> ∀m w a,Rels n0 B0 m h w→SR nt m s a→ ∀Q:Exit→Act→World→Prop,(∀x s' h' m' a' w',K x s' h'→Post n0 B0 fl m h w m' h' w'→SR nt m' s' a'→a'.defers=a.defers→Q (jea x) a' w')→(∀pv h' m' a' w',Gp pv→Post n0 B0 fl m h w m' h' w'→a'.defers=a.defers→Q (.panic [{ v:=pv,recovered:=false }]) a' w')→
   ∀(b:Frame) (kk:List Item) (cs:List Frame),∃ e a' w',Q e a' w'∧Arrives P (lone (b.at a (.code A:: .inLoop A::kk)) cs w) b kk cs e a' w') ?_
  ·obtain⟨e,a',w',hq,harr⟩:=key m w a r hs Q hQ hG b kk cs
   exact⟨e,a',w',hq,.of_steps (.one step_loop) harr⟩
  ·intro s h hb m w a r hs Q hQ hG b kk cs
   have hpost: ∀x s1 h1 m1 a1 w1,jaA.then (fun s h=> ∀m w a,Rels n0 B0 m h w→SR nt m s a→ ∀Q:Exit→Act→World→Prop,(∀x s' h' m' a' w',K x s' h'→Post n0 B0 fl m h w m' h' w'→SR nt m' s' a'→a'.defers=a.defers→Q (jea x) a' w')→(∀pv h' m' a' w',Gp pv→Post n0 B0 fl m h w m' h' w'→a'.defers=a.defers→Q (.panic [{ v:=pv,recovered:=false }]) a' w')→
     ∀(b:Frame) (kk:List Item) (cs:List Frame),∃ e a' w',Q e a' w'∧Arrives P (lone (b.at a (.code A:: .inLoop A::kk)) cs w) b kk cs e a' w') K x s1 h1→Post n0 B0 fl m h w m1 h1 w1→SR nt m1 s1 a1→a1.defers=a.defers→(fun e a' w'=>(e= .normal∧ ∃s1 h1 m1,(∀m w a,Rels n0 B0 m h1 w→SR nt m s1 a→ ∀Q:Exit→Act→World→Prop,(∀x s' h' m' a' w',K x s' h'→Post n0 B0 fl m h1 w m' h' w'→SR nt m' s' a'→a'.defers=a.defers→Q (jea x) a' w')→(∀pv h' m' a' w',Gp pv→Post n0 B0 fl m h1 w m' h' w'→a'.defers=a.defers→Q (.panic [{ v:=pv,recovered:=false }]) a' w')→
     ∀(b:Frame) (kk:List Item) (cs:List Frame),∃ e a' w',Q e a' w'∧Arrives P (lone (b.at a (.code A:: .inLoop A::kk)) cs w) b kk cs e a' w')∧Post n0 B0 fl m h w m1 h1 w'∧SR nt m1 s1 a'∧a'.defers=a.defers)∨((∃x,e=jea x)∧e≠ .normal∧Q e a' w')∨((∃pv,e= .panic [{ v:=pv,recovered:=false }])∧Q e a' w')) (jea x) a1 w1:=by
    intro x s1 h1 m1 a1 w1 k p q d
    cases x with
    |normal=>exact .inl ⟨rfl,s1,h1,m1,k,p,q,d⟩
    |exit id=>exact .inr (.inl ⟨⟨.exit id,rfl⟩,by simp[jea],hQ (.exit id) s1 h1 m1 a1 w1 k p q d⟩)
    |ret=>exact .inr (.inl ⟨⟨.ret,rfl⟩,by simp[jea],hQ .ret s1 h1 m1 a1 w1 k p q d⟩)
   obtain⟨e,a1,w1,hq,harr⟩:=ihA s h _ hb m w a r hs (fun e a' w'=>(e= .normal∧ ∃s1 h1 m1,(∀m w a,Rels n0 B0 m h1 w→SR nt m s1 a→ ∀Q:Exit→Act→World→Prop,(∀x s' h' m' a' w',K x s' h'→Post n0 B0 fl m h1 w m' h' w'→SR nt m' s' a'→a'.defers=a.defers→Q (jea x) a' w')→(∀pv h' m' a' w',Gp pv→Post n0 B0 fl m h1 w m' h' w'→a'.defers=a.defers→Q (.panic [{ v:=pv,recovered:=false }]) a' w')→
     ∀(b:Frame) (kk:List Item) (cs:List Frame),∃ e a' w',Q e a' w'∧Arrives P (lone (b.at a (.code A:: .inLoop A::kk)) cs w) b kk cs e a' w')∧Post n0 B0 fl m h w m1 h1 w'∧SR nt m1 s1 a'∧a'.defers=a.defers)∨((∃x,e=jea x)∧e≠ .normal∧Q e a' w')∨((∃pv,e= .panic [{ v:=pv,recovered:=false }])∧Q e a' w')) hpost (fun pv h' m' a' w' g p d=> .inr (.inr ⟨⟨pv,rfl⟩,hG pv h' m' a' w' g p d⟩)) b (.inLoop A::kk) cs
   rcases hq with⟨rfl,s1,h1,m1,hI,p1,q1,d1⟩|⟨⟨x,rfl⟩,hne,hq⟩|⟨⟨pv,rfl⟩,hq⟩
   ·obtain⟨e2,a2,w2,hq2,harr2⟩:=hI m1 w1 a1 p1.rels q1 Q (fun x s' h' m' a' w' k p q d=>hQ x s' h' m' a' w' k (p1.trans r.dom p) q (d.trans d1)) (fun pv h' m' a' w' g p d=>hG pv h' m' a' w' g (p1.trans r.dom p) (d.trans d1)) b kk cs
    exact⟨e2,a2,w2,hq2,.of_steps (Steps.trans harr (.one step_inLoop)) harr2⟩
   ·cases x with
    |normal=>exact absurd rfl hne
    |exit id=>exact⟨_,a1,w1,hq,.pass (x:= .inLoop A) rfl (fun _ _=> .inl (by simp[jea])) harr⟩
    |ret=>exact⟨_,a1,w1,hq,.pass (x:= .inLoop A) rfl (fun _ _=> .inl (by simp[jea])) harr⟩
   ·exact⟨_,a1,w1,hq,.pass (x:= .inLoop A) rfl (fun _ _=> .inl (by simp)) harr⟩
 | .exit id,c,hc,fl,hfl=>by
  intro s h K hp m w a r hs Q hQ hG;simp only[jde,U4] at hc;subst hc
  exact wp_exit (hQ (.exit id) s h m a w hp (.refl r) hs rfl)
 | .scope A,c,hc,fl,hfl=>by
  intro s h K hp m w a r hs Q hQ hG;simp only[jde,U5] at hc;obtain⟨ca,ha,rfl⟩:=hc;simp only[jdc] at hp;refine wp_scope_straight ?_;refine jcp hmix hCd hC A ca ha fl hfl s h K hp m w a r hs _ (fun x s1 h1 m1 a1 w1 k p q d=>?_) (fun pv h1 m1 a1 w1 g p d=>hG pv h1 m1 a1 w1 g p d)
  cases x with
  |normal=>exact hQ .normal s1 h1 m1 a1 w1 k p q d
  |exit id=>exact hQ (.exit id) s1 h1 m1 a1 w1 k p q d
  |ret=>exact hQ .ret s1 h1 m1 a1 w1 k p q d
 | .label l,c,hc,fl,hfl=>by
  intro s h K hp m w a r hs Q hQ hG;simp only[jde,U4] at hc;subst hc
  exact wp_label (hQ .normal s h m a w hp (.refl r) hs rfl)
 | .ret,c,hc,fl,hfl=>by
  intro s h K hp m w a r hs Q hQ hG;simp only[jde,U4] at hc;subst hc
  exact wp_ret (hQ .ret s h m a w hp (.refl r) hs rfl)
 | .rangeFunc f ps as body,c,hc,fl,hfl=>by
  intro s h K hp;simp only[jde,U4] at hc;subst hc
  exact hp.elim
 | .goto l,c,hc,fl,hfl=>by
  intro s h K hp;simp only[jde,U4] at hc;subst hc
  exact hp.elim
 | .refuse q,c,hc,fl,hfl=>by
  intro s h K hp;simp only[jde,U4] at hc;subst hc
  exact hp.elim
termination_by code=>SizeOf.sizeOf code
/-! ### Runs that are known -/
theorem jqd {C:jby}{n:Nat}{c:jam}(hc: ∀s h x s' h' K,exec C n fl c s h=some (x,s',h')→K x s' h'→jdc (fun _=>C) (jhw C) c fl s h K){K:jaA→jal→Heap→Prop}: ∀(k:Nat) s h x s' h',iter (exec C n fl c) k s h=some (x,s',h')→K x s' h'→piter (fun s h K=>jdc (fun _=>C) (jhw C) c fl s h K) s h K
 |0,s,h,x,s',h',he,k=>by simp[iter] at he
 |q+1,s,h,x,s',h',he,k=>by
  intro I hI;refine hI s h ?_;simp only[iter] at he;split at he
  ·rename_i s1 h1 h1'
   exact hc s h .normal s1 h1 _ h1' (jqd hc q s1 h1 x s' h' he k I hI)
  ·rename_i hne
   refine hc s h x s' h' _ he ?_
   cases x with
   |normal=>exact absurd he (hne s' h')
   |exit id=>exact k
   |ret=>exact k
theorem jqe {C:jby}{n:Nat}: ∀(c:jam) (fl:Nat→Bool) s h x s' h' K,exec C n fl c s h=some (x,s',h')→K x s' h'→jdc (fun _=>C) (jhw C) c fl s h K:=by
 intro c;induction c with
 |skip=>intro fl s h x s' h' K he k;simp only[exec,U4,O4] at he;obtain⟨rfl,rfl,rfl⟩:=he;exact k
 |ops l=>
  intro fl s h x s' h' K he k;simp only[exec] at he;split at he
  ·rename_i s1 h1 h1'
   simp only[U4,O4] at he;obtain⟨rfl,rfl,rfl⟩:=he;exact jfN _ _ _ _ _ _ _ h1' k
  ·cases he
 |opsD l=>
  intro fl s h x s' h' K he k;simp only[exec] at he;split at he
  ·rename_i s1 h1 h1'
   simp only[U4,O4] at he;obtain⟨rfl,rfl,rfl⟩:=he;exact⟨0,_,_,h1',k⟩
  ·cases he
 |opsW l=>
  intro fl s h x s' h' K he k;simp only[exec] at he;split at he
  ·rename_i s1 h1 h1'
   simp only[U4,O4] at he;obtain⟨rfl,rfl,rfl⟩:=he;exact⟨0,_,_,h1',k⟩
  ·cases he
 |seq a b iha ihb=>
  intro fl s h x s' h' K he k;simp only[exec] at he;simp only[jdc];split at he
  ·rename_i s1 h1 h1'
   exact iha fl s h .normal s1 h1 _ h1' (ihb fl s1 h1 x s' h' K he k)
  ·rename_i hne
   refine iha fl s h x s' h' _ he ?_
   cases x with
   |normal=>exact absurd he (hne s' h')
   |exit id=>exact k
   |ret=>exact k
 |cond c a b iha ihb=>
  intro fl s h x s' h' K he k;simp only[exec] at he;split at he
  ·rename_i t ht
   refine⟨t,ht,fun h1=>?_,fun h1=>?_⟩
   ·subst h1;exact iha fl s h x s' h' K (by simpa using he) k
   ·subst h1;exact ihb fl s h x s' h' K (by simpa using he) k
  ·cases he
 |block id a iha=>
  intro fl s h x s' h' K he k;simp only[exec] at he;simp only[jdc];split at he
  ·rename_i j s1 h1 h1'
   refine iha fl s h (.exit j) s1 h1 _ h1' ?_;simp only[jaA.inBlk];split at he
   ·rename_i hj
    simp only[U4,O4] at he;obtain⟨rfl,rfl,rfl⟩:=he;rw[if_pos hj];exact k
   ·rename_i hj
    simp only[U4,O4] at he;obtain⟨rfl,rfl,rfl⟩:=he;rw[if_neg hj];exact k
  ·rename_i hne
   refine iha fl s h x s' h' _ he ?_
   cases x with
   |normal=>exact k
   |exit id=>exact absurd he (hne id s' h')
   |ret=>exact k
 |loop a iha=>
  intro fl s h x s' h' K he k;simp only[exec] at he;exact jqd (fun s h x s' h' K=>iha fl s h x s' h' K) n s h x s' h' he k
 |exit id=>intro fl s h x s' h' K he k;simp only[exec,U4,O4] at he;obtain⟨rfl,rfl,rfl⟩:=he;exact k
 |scope a iha=>intro fl s h x s' h' K he k;exact iha fl s h x s' h' K he k
 |ret=>intro fl s h x s' h' K he k;simp only[exec,U4,O4] at he;obtain⟨rfl,rfl,rfl⟩:=he;exact k
 |bad=>intro fl s h x s' h' K he k;simp[exec] at he
theorem jrZ (hmix:P.follows .mixedOrders=true)(hC:jcP P C)(hfl: ∀id,fl id=true→n0≤id)(n:Nat)(code:Code)(c:jam)(hc:jde P nt code=some c):
  ∀s h x s' h',exec C n fl c s h=some (x,s',h')→ ∀m w a,Rels n0 B0 m h w→SR nt m s a→ ∀Q:Exit→Act→World→Prop,(∀m' a' w',Post n0 B0 fl m h w m' h' w'→SR nt m' s' a'→a'.defers=a.defers→Q (jea x) a' w')→code.wp P Q a w:=by
 intro s h x s' h' he m w a r hs Q hQ;refine jcp hmix (fun _=>hC) (jiM hC) code c hc fl hfl s h (fun x2 s2 h2=>x2=x∧s2=s'∧h2=h') (jqe c fl s h x s' h' _ he ⟨rfl,rfl,rfl⟩) m w a r hs Q (fun x2 s2 h2 m' a' w' e p q d=>?_) (fun _ _ _ _ _ h=>h.elim);obtain⟨rfl,rfl,rfl⟩:=e;exact hQ m' a' w' p q d
def resV (tmps:Array Value):ResultVar→Sem Value
  | .tmp t=>pure (tmps.getD t undef)
  | .cell a t=>do loadVar t (←asAddr (tmps.getD a undef))
theorem jrb (fn:Func)(tmps:Array Value):results fn tmps=(do
  let vs ←fn.results.mapM (resV tmps)
  pure (if h:vs.size=1 then vs[0] else .tuple vs)):=rfl
theorem jt0 {m:Map}{h:Heap}{w:World}{s:jal}{a:Act}(r:Rels n0 B0 m h w)(hs:SR nt m s a){R:ResultVar}{q:ARes}(hc:cRes P R=some q){v:AV}(hv:resA s h q=some v):
  ∃v',(resV a.tmps R).run P w= .ok v' w∧VR m v v':=by
 cases R with
 |tmp t=>
  simp only[cRes,U4] at hc;subst hc
  simp only[resA,U4] at hv;subst hv
  exact⟨_,rfl,hs.slot t⟩
 |cell x t=>
  simp only[cRes,U5] at hc;obtain⟨n,hn,rfl⟩:=hc;simp only[resA] at hv;split at hv
  ·rename_i id off hp
   have hx:=hs.slot x;rw[hp] at hx;obtain⟨b,hb,hq⟩:=hx.ptr_inv
   cases n with
   |some n=>
    obtain⟨h1,h2⟩:=jfT (w:=w) hn;obtain⟨cs,hcs,rfl⟩:=U5.1 hv;unfold rd at hcs;split at hcs
    ·rename_i l hl
     split at hcs
     ·rename_i hle
      injection hcs with hcs;subst hcs
      obtain⟨vs,h3,h4,h5⟩:=jgt r.rel hl hb hle;have:=run_loadCells_list (P:=P) w _ vs h4;rw[h3] at this;exact⟨.agg vs.toArray,by simp[resV,hq,asAddr,loadVar,h1,h2,this],VRs.agg (by simpa using h5)⟩
     ·cases hcs
    ·cases hcs
   |none=>
    have h1:=jh4 (w:=w) hn;simp only at hv;unfold rd1 at hv;split at hv
    ·rename_i l hl
     obtain⟨v',h3,h4⟩:=r.rel.cell id l b hl hb off _ hv;exact⟨v',by simp[resV,hq,asAddr,loadVar,h1,h3],h4⟩
    ·cases hv
  ·cases hv
theorem jgs {m:Map}{h:Heap}{w:World}{s:jal}{a:Act}(r:Rels n0 B0 m h w)(hs:SR nt m s a){fn:Func}{rs:List ARes}(hc:fn.results.toList.mapM (cRes P)=some rs){v:AV}(hv:jaR rs s h=some v):
  ∃v',(results fn a.tmps).run P w= .ok v' w∧VR m v v':=by
 have key: ∀(Rs:List ResultVar) (rs:List ARes) (vs:List AV),Rs.mapM (cRes P)=some rs→rs.mapM (resA s h)=some vs→ ∃us:List Value,(Rs.mapM (resV a.tmps)).run P w= .ok us w∧VRs m vs us:=by
  intro Rs;induction Rs with
  |nil=>
   intro rs vs h1 h2;simp at h1;subst h1
   simp at h2;subst h2
   exact⟨[],by simp,.nil⟩
  |cons R Rs ih=>
   intro rs vs h1 h2;simp only[Q7,Q6,Q8,E0,U4] at h1;obtain⟨q,hq,rs',hrs,rfl⟩:=h1;simp only[Q7,Q6,Q8,E0,U4] at h2;obtain⟨v,hv,vs',hvs,rfl⟩:=h2;obtain⟨us,h3,h4⟩:=ih rs' vs' hrs hvs;obtain⟨v',h5,h6⟩:=jt0 (P:=P) r hs hq hv;refine⟨v'::us,?_,.cons h6 h4⟩;rw[Q7,Sem.run_bind,h5,Result.andThen_ok,Sem.run_bind,h3]
   rfl
 have fin: ∀(us:List Value),(fn.results.toList.mapM (resV a.tmps)).run P w= .ok us w→(results fn a.tmps).run P w= .ok (if h:us.length=1 then us[0] else .tuple us.toArray) w:=by
  intro us hus;rw[jrb,Array.mapM_eq_mapM_toList,Sem.run_bind,Sem.run_map,hus];simp
 unfold jaR at hv;split at hv
 ·rename_i q
  have hone: ∃R,fn.results.toList=[R]∧cRes P R=some q:=by
   obtain⟨hl,hg⟩:=jhY _ _ hc
   cases hR:fn.results.toList with
   |nil=>rw[hR] at hl;simp at hl
   |cons R Rs=>
    cases Rs with
    |nil=>
     rw[hR] at hg;obtain⟨y,h1,h2⟩:=hg 0 R rfl;simp at h1;subst h1
     exact⟨R,rfl,h2⟩
    |cons R' Rs=>rw[hR] at hl;simp at hl
  obtain⟨R,hR,hq⟩:=hone;obtain⟨us,h1,h2⟩:=key [R] [q] [v] (by simp[hq]) (by simp[hv]);have hul:us.length=1:=by rw[←h2.1];rfl
  have:=fin us (by rw[hR];exact h1);rw[dif_pos hul] at this;refine⟨_,this,h2.2 0 v _ rfl ?_⟩;exact U1 _
 ·rename_i hne
  obtain⟨vs,hvs,rfl⟩:=U5.1 hv;obtain⟨us,h1,h2⟩:=key fn.results.toList rs vs hc hvs;have hul:us.length≠1:=by
   intro e;have h3:vs.length=1:=by rw[h2.1];exact e
   have h4:=(jhY _ _ hvs).1
   cases rs with
   |nil=>simp only[List.length_nil] at h4;omega
   |cons q rs=>
    cases rs with
    |nil=>exact hne q rfl
    |cons q' rs=>simp at h4;omega
  have:=fin us h1;rw[dif_neg hul] at this;exact⟨_,this,VRs.tuple (by simpa using h2)⟩
theorem noX_ok:jcP P noX:=fun f args fl h v h' he=>by simp[noX] at he
theorem jlP (hmix:P.follows .mixedOrders=true){X:jby}(hX:jcP P X){F:FuncId→Option jbq}(hF: ∀f af,F f=some af→jag P f=some af): ∀n,jcP P (call X F n)
 |0=>fun f args fl h v h' he=>hX f args fl h v h' he
 |n+1=>fun f args fl h v h' he=>by
  have ih:=jlP hmix hX hF n;simp only[call] at he;split at he
  ·rename_i r hr
   injection he with he
   subst he;exact hX f args fl h v h' hr
  split at he
  ·rename_i af haf
   have hcf:=hF f af haf;unfold jag at hcf;split at hcf
   ·rename_i fn hfn
    split at hcf
    ·cases hcf
    ·rename_i hname
     split at hcf
     ·rename_i c hb
      split at hcf
      ·rename_i body rs hbody hrs
       injection hcf with hcf;subst hcf
       simp only at he;refine⟨⟨fn,c,hfn,by simpa using hname,hb⟩,?_⟩;intro n0 B0 m w vals r hfl hvals;split at he
       ·rename_i hlen
        have hvl:=hvals.1;simp only[E4] at hvl;have hsr:SR fn.ntmps m (fun t=>args.getD t .no) { tmps:=vals++R8 (fn.ntmps - vals.size) undef,defers:=[] }:=by
         refine⟨by simp;omega,fun t=>?_⟩;by_cases ht:t<args.length
         ·have h1:(vals++R8 (fn.ntmps - vals.size) undef).getD t undef=vals[t]'(by omega):=by
           rw[J0,G1 (by omega),V7 (by omega)];rfl
          simp only[h1];refine hvals.2 t _ _ ?_ ?_
          ·simp[E7,U1 ht]
          ·rw[N3,V7 (by omega)]
         ·have h1:(vals++R8 (fn.ntmps - vals.size) undef).getD t undef=undef:=by
           rw[J0,I1 (by omega),R9];split<;>rfl
          simp only[h1];have h2:args.getD t .no= .no:=by simp[E7,J1 (I2 ht)]
          rw[h2];exact VRs.no
        refine calls_of_wp hfn hb ?_;have es:=jrZ (B0:=B0) hmix ih hfl n c body hbody;have go: ∀x s' h2,exec (call X F n) n fl body (fun t=>args.getD t .no) h=some (x,s',h2)→(x= .normal∨x= .ret)→(jaR rs s' h2).map (fun v=>(v,h2))=some (v,h')→
          c.wp P (bodyPost P fn fun e w'=> ∃v' m',e= .returned v'∧Post n0 B0 fl m h w m' h' w'∧VR m' v v') { tmps:=vals++R8 (fn.ntmps - vals.size) undef,defers:=[] } w:=by
         intro x s' h2 hex hx hres;obtain⟨v0,hv0,hpair⟩:=U5.1 hres;injection hpair with e1 e2;subst e1;subst e2
         refine es _ _ x s' h2 hex m w _ r hsr _ fun m' a' w' p q d=>?_
         obtain⟨v',h3,h4⟩:=jgs (P:=P) p.rels q hrs hv0;have hpost:a'.defers=[]∧ ∃u,(results fn a'.tmps).run P w'= .ok u w'∧ ∃v' m',Ending.returned u= .returned v'∧Post n0 B0 fl m h w m' h2 w'∧VR m' v0 v':=⟨d,v',h3,v',m',rfl,p,h4⟩;rcases hx with rfl|rfl
         ·exact hpost
         ·exact hpost
        split at he
        ·rename_i s' h2 hex
         exact go .normal s' h2 hex (.inl rfl) he
        ·rename_i s' h2 hex
         exact go .ret s' h2 hex (.inr rfl) he
        ·cases he
       ·cases he
      ·cases hcf
     ·cases hcf
   ·cases hcf
  ·cases he
theorem am_calls (hmix:P.follows .mixedOrders=true){X:jby}(hX:jcP P X){F:FuncId→Option jbq}(hF: ∀f af,F f=some af→jag P f=some af){n:Nat}{f:FuncId}{args:List AV}{h h':Heap}{v:AV}(he:call X F n f args (fun i=>decide (h.length≤i)) h=some (v,h'))
  {m:Map} {W:World} {vals:Array Value} (r:Rels h.length W.heap.size m h W) (hv:VRs m args vals.toList):Calls P f vals W fun e W'=> ∃v' m',e= .returned v'∧VR m' v v'∧Below W.heap.size W W':=by
 refine ((jlP hmix hX hF n f args _ h v h' he).2 h.length W.heap.size m W vals r (fun id hid=>by simpa using hid) hv).mono fun e W' hp=>?_
 obtain⟨v',m',rfl,p,hv'⟩:=hp;refine⟨v',m',rfl,hv',p.os,p.tape,p.output,p.size,fun k hk=>p.frame k hk fun id l b h1 h2 h3=>?_⟩;have:=jcm h2;simp at h1;omega
/-! ### Calls told by what holds behind them -/
def YOk (P:Program)(pn:PX):Prop:=
  ∀ f args fl h K, pn.y f args fl h K → (∃ fn c, P.funcs[f]? = some fn ∧ (fn.name == "runtime.NumGoroutine") = false ∧ fn.body = some c) ∧
    ∀n0 B0 m w (vals:Array Value),Rels n0 B0 m h w→(∀id,fl id=true→n0≤id)→VRs m args vals.toList→
      Calls P f vals w fun e w'=>(∃v h' v' m',K v h'∧e= .returned v'∧Post n0 B0 fl m h w m' h' w'∧VR m' v v')∨(∃pv h' m',pn.g pv∧e= .panicked [{ v:=pv,recovered:=false }]∧Post n0 B0 fl m h w m' h' w')
theorem YOk.no:YOk P PX.no:=fun _ _ _ _ _ h=>h.elim
theorem pstep_ok {pn:PX}(hY:YOk P pn)(hmix:P.follows .mixedOrders=true){X:jby}(hX:jcP P X){F:FuncId→Option jbq}(hF: ∀f af,F f=some af→jag P f=some af){C:jeH}(hC:jer P pn.g C):jer P pn.g (jor pn X F C):=by
 refine⟨?_,fun args fl h K hp=>hp⟩;intro f args fl h K hp;unfold jor at hp;simp only at hp;rcases hp with⟨K0,hy,hk⟩|hp
 ·obtain⟨h1,h2⟩:=hY f args fl h K0 hy
  refine⟨h1,fun n0 B0 m w vals r hfl hv=>(h2 n0 B0 m w vals r hfl hv).mono fun e w' hp=>?_⟩;rcases hp with⟨v,h',v',m',k,q⟩|q
  ·exact .inl ⟨v,h',v',m',hk v h' k,q⟩
  ·exact .inr q
 split at hp
 ·rename_i r hr
  exact (jkm hX).1 f args fl h K ⟨r.1,r.2,hr,hp⟩
 ·split at hp
  ·rename_i af haf
   obtain⟨hlen,hp⟩:=hp;have hcf:=hF f af haf;unfold jag at hcf;split at hcf
   ·rename_i fn hfn
    split at hcf
    ·cases hcf
    ·rename_i hname
     split at hcf
     ·rename_i c hb
      split at hcf
      ·rename_i body rs hbody hrs
       injection hcf with hcf;subst hcf
       simp only at hp hlen;refine⟨⟨fn,c,hfn,by simpa using hname,hb⟩,?_⟩;intro n0 B0 m w vals r hfl hvals;have hvl:=hvals.1;simp only[E4] at hvl;have hsr:SR fn.ntmps m (fun t=>args.getD t .no) { tmps:=vals++R8 (fn.ntmps - vals.size) undef,defers:=[] }:=by
        refine⟨by simp;omega,fun t=>?_⟩;by_cases ht:t<args.length
        ·have h1:(vals++R8 (fn.ntmps - vals.size) undef).getD t undef=vals[t]'(by omega):=by
          rw[J0,G1 (by omega),V7 (by omega)];rfl
         simp only[h1];refine hvals.2 t _ _ ?_ ?_
         ·simp[E7,U1 ht]
         ·rw[N3,V7 (by omega)]
        ·have h1:(vals++R8 (fn.ntmps - vals.size) undef).getD t undef=undef:=by
          rw[J0,I1 (by omega),R9];split<;>rfl
         simp only[h1];have h2:args.getD t .no= .no:=by simp[E7,J1 (I2 ht)]
         rw[h2];exact VRs.no
       refine calls_of_wp hfn hb ?_;refine jcp hmix (fun k=>jlP hmix hX hF k) hC c body hbody fl hfl _ h _ hp m w _ r hsr _ (fun x s' h2 m' a' w' k p q d=>?_) (fun pv h' m' a' w' g p d=>⟨d,.inr ⟨pv,h',m',g,rfl,p⟩⟩);have go:(∃v,jaR rs s' h2=some v∧K v h2)→a'.defers=[]∧ ∃u,(results fn a'.tmps).run P w'= .ok u w'∧((∃v h' v' m',K v h'∧Ending.returned u= .returned v'∧Post n0 B0 fl m h w m' h' w'∧VR m' v v')∨(∃pv h' m',pn.g pv∧Ending.returned u= .panicked [{ v:=pv,recovered:=false }]∧Post n0 B0 fl m h w m' h' w')):=by
        rintro⟨v,hv,hk⟩;obtain⟨v',h3,h4⟩:=jgs (P:=P) p.rels q hrs hv;exact⟨d,v',h3,.inl ⟨v,h2,v',m',hk,rfl,p,h4⟩⟩
       cases x with
       |normal=>exact go k
       |ret=>exact go k
       |exit id=>exact k.elim
      ·cases hcf
     ·cases hcf
   ·cases hcf
  ·exact hp.elim
theorem pcall_ok {pn:PX}(hY:YOk P pn)(hmix:P.follows .mixedOrders=true){X:jby}(hX:jcP P X){F:FuncId→Option jbq}(hF: ∀f af,F f=some af→jag P f=some af):jer P pn.g (jgu pn X F):=by
 have key:jer P pn.g (fun f args fl h K=>match f with
   | some f => (∃ fn c, P.funcs[f]? = some fn ∧ (fn.name == "runtime.NumGoroutine") = false ∧ fn.body = some c) ∧
    ∀n0 B0 m w (vals:Array Value),Rels n0 B0 m h w→(∀id,fl id=true→n0≤id)→VRs m args vals.toList→
     Calls P f vals w fun e w'=>(∃v h' v' m',K v h'∧e= .returned v'∧Post n0 B0 fl m h w m' h' w'∧VR m' v v')∨(∃pv h' m',pn.g pv∧e= .panicked [{ v:=pv,recovered:=false }]∧Post n0 B0 fl m h w m' h' w')
   |none=> ∃t,args=[.val (.iface t (.agg #[]))]∧pn.g (.iface t (.agg #[]))):=⟨fun f args fl h K hp=>hp,fun args fl h K hp=>hp⟩
 have key2:=pstep_ok hY hmix hX hF key;refine⟨fun f args fl h K hp=>?_,fun args fl h K hp=>?_⟩
 ·exact hp (fun f args fl h K=>match f with
   | some f => (∃ fn c, P.funcs[f]? = some fn ∧ (fn.name == "runtime.NumGoroutine") = false ∧ fn.body = some c) ∧
    ∀n0 B0 m w (vals:Array Value),Rels n0 B0 m h w→(∀id,fl id=true→n0≤id)→VRs m args vals.toList→
     Calls P f vals w fun e w'=>(∃v h' v' m',K v h'∧e= .returned v'∧Post n0 B0 fl m h w m' h' w'∧VR m' v v')∨(∃pv h' m',pn.g pv∧e= .panicked [{ v:=pv,recovered:=false }]∧Post n0 B0 fl m h w m' h' w')
   |none=> ∃t,args=[.val (.iface t (.agg #[]))]∧pn.g (.iface t (.agg #[]))) fun f args fl h K hk=>match f with
    |some f=>key2.1 f args fl h K hk
    |none=>key2.2 args fl h K hk
 ·exact hp (fun f args fl h K=>match f with
   | some f => (∃ fn c, P.funcs[f]? = some fn ∧ (fn.name == "runtime.NumGoroutine") = false ∧ fn.body = some c) ∧
    ∀n0 B0 m w (vals:Array Value),Rels n0 B0 m h w→(∀id,fl id=true→n0≤id)→VRs m args vals.toList→
     Calls P f vals w fun e w'=>(∃v h' v' m',K v h'∧e= .returned v'∧Post n0 B0 fl m h w m' h' w'∧VR m' v v')∨(∃pv h' m',pn.g pv∧e= .panicked [{ v:=pv,recovered:=false }]∧Post n0 B0 fl m h w m' h' w')
   |none=> ∃t,args=[.val (.iface t (.agg #[]))]∧pn.g (.iface t (.agg #[]))) fun f args fl h K hk=>match f with
    |some f=>key2.1 f args fl h K hk
    |none=>key2.2 args fl h K hk
theorem jkl {m m':Map}{h h':Heap}{W W':World}(p:Post h.length W.heap.size (fun i=>decide (h.length≤i)) m h W m' h' W'):Below W.heap.size W W':=by
 refine⟨p.os,p.tape,p.output,p.size,fun k hk=>p.frame k hk fun id l b h1 h2 h3=>?_⟩;have:=jcm h2;simp at h1;omega
theorem jrf {pn:PX}(hY:YOk P pn)(hmix:P.follows .mixedOrders=true){X:jby}(hX:jcP P X){F:FuncId→Option jbq}(hF: ∀f af,F f=some af→jag P f=some af){f:FuncId}{args:List AV}{h:Heap}{K:AV→Heap→Prop}(he:jgu pn X F (some f) args (fun i=>decide (h.length≤i)) h K)
  {m:Map} {W:World} {vals:Array Value} (r:Rels h.length W.heap.size m h W) (hv:VRs m args vals.toList):Calls P f vals W fun e W'=>(∃v h' v' m',K v h'∧e= .returned v'∧Post h.length W.heap.size (fun i=>decide (h.length≤i)) m h W m' h' W'∧VR m' v v')∨(∃pv,pn.g pv∧e= .panicked [{ v:=pv,recovered:=false }]∧Below W.heap.size W W'):=by
 refine (((pcall_ok hY hmix hX hF).1 f args _ h K he).2 h.length W.heap.size m W vals r (fun id hid=>by simpa using hid) hv).mono fun e W' hp=>?_
 rcases hp with⟨v,h',v',m',hk,rfl,p,hv'⟩|⟨pv,h',m',g,rfl,p⟩
 ·exact .inl ⟨v,h',v',m',hk,rfl,p,hv'⟩
 ·exact .inr ⟨pv,g,rfl,jkl p⟩
end
end
end Go.Proofs.YtlkapggcppcafaaGreatDoor
