/-
  AM and the program's machine: a region that draws its order.
-/
import Derived.Deep.RegionHeld3
import Derived.LoopN
import Derived.Maps.RangeRun
import Derived.OrdersHeld
import Derived.Test.YtjaahfncbechnaaGreatDoorMrT2
set_option linter.unusedVariables false
set_option linter.unusedSimpArgs false
namespace Go.Proofs.YtjaahfncbechnaaGreatDoor
section
open Go
section
variable {P:Program}
theorem jke {top}{fl:Nat→Bool}{s:jah}{h h':Heap}{x:AOp}{v:AV}(hx:clsA x=0)(he:jag top fl s h x=some (v,h')):h'=h∧ ∀fl2 h2,jag top fl2 s h2 x=some (v,h2):=by
 cases x<;>first|(simp[clsA] at hx;done)|skip
 all_goals (simp only[jag] at he ⊢)
 all_goals (try (cases he;done))
 all_goals (repeat' split at he)
 all_goals (try (cases he;done))
 all_goals (injection he with he;injection he with he1 he2;subst he1;subst he2;refine⟨rfl,fun fl2 h2=>?_⟩;first|rfl|(simp only[*];done)|(simp[*];done))
theorem jiC {top}{fl:Nat→Bool}{s:jah}{h h':Heap}{x:AOp}{v:AV}(hx:clsA x=2)(he:jag top fl s h x=some (v,h')): ∃l,h'=h++[some l]∧ ∀(fl2:Nat→Bool) (h2:Heap),h2.length=h.length→jag top fl2 s h2 x=some (v,h2++[some l]):=by
 cases x<;>first|(simp[clsA] at hx;done)|skip
 all_goals (simp only[jag] at he ⊢)
 all_goals (repeat' split at he)
 all_goals (try (cases he;done))
 all_goals (injection he with he;injection he with he1 he2;subst he1;subst he2;exact⟨_,rfl,fun fl2 h2 h3=>by simp[*]⟩)
theorem jeB {top}{fl:Nat→Bool}{s:jah}{h h':Heap}{n:Option Nat}{x:Opd}{v:AV}(he:jag top fl s h (.load n x)=some (v,h')):
  h'=h∧ ∃id off l,x.ev s= .ptr id off∧jaS top id=true∧blk h id=some l∧ ∀fl2 h2,blk h2 id=some l→jag top fl2 s h2 (.load n x)=some (v,h2):=by
 simp only[jag] at he ⊢
 split at he
 ·rename_i id off hp
  split at he
  ·rename_i hs
   split at he
   ·split at he
    ·rename_i cs hcs
     injection he with he;injection he with he1 he2;subst he1;subst he2
     unfold rd at hcs
     split at hcs
     ·rename_i l hl
      refine⟨rfl,id,off,l,hp,hs,hl,fun fl2 h2 h3=>?_⟩
      simp only[hs,if_true,rd,h3,hcs]
     ·cases hcs
    ·cases he
   ·split at he
    ·rename_i u hu
     injection he with he;injection he with he1 he2;subst he1;subst he2
     unfold rd1 at hu
     split at hu
     ·rename_i l hl
      refine⟨rfl,id,off,l,hp,hs,hl,fun fl2 h2 h3=>?_⟩
      simp only[hs,if_true,rd1,h3,hu]
     ·cases hu
    ·cases he
  ·cases he
 ·cases he
inductive Reach (ops:Array Oper):Nat→Nat→Prop where
  |base {e k:Nat} {O:Oper} (h:ops[k]?=some O) (he:e∈jch O):Reach ops e k
  |step {i e k:Nat} {O:Oper} (h:ops[k]?=some O) (he:e∈jch O) (hr:Reach ops i e):Reach ops i k
def Ord (ops:Array Oper)(i k:Nat):Prop:=if i<k then Reach ops i k else Reach ops k i
theorem jso (ops:Array Oper): ∀(l:List Oper) (acc:List (List Nat)),ops.toList.drop acc.length=l→(∀k i,i∈acc.getD k []→Reach ops i k)→
  ∀k i,i∈(l.foldl (fun acc o=>acc++[((jch o).flatMap fun e=>e::acc.getD e [])]) acc).getD k []→Reach ops i k
 |[],acc,_,h,k,i,hi=>h k i hi
 |o::l,acc,hl,h,k,i,hi=>by
  have ho:ops[acc.length]?=some o:=by
   have:(ops.toList.drop acc.length)[0]?=some o:=by rw[hl];rfl
   simpa[List.getElem?_drop] using this
  refine jso ops l (acc++[((jch o).flatMap fun e=>e::acc.getD e [])]) ?_ ?_ k i hi
  ·have:ops.toList.drop (acc.length+1)=l:=by rw[←List.drop_drop,hl];rfl
   simpa using this
  ·intro k i hi
   by_cases hk:k<acc.length
   ·refine h k i ?_
    simpa[List.getD,List.getElem?_append_left hk] using hi
   ·by_cases hk2:k=acc.length
    ·subst hk2
     simp only[List.getD,List.getElem?_append_right (Nat.le_refl _),Nat.sub_self,List.getElem?_cons_zero,Option.getD_some,List.mem_flatMap,List.mem_cons] at hi
     obtain⟨e,he,hi⟩:=hi
     rcases hi with rfl|hi
     ·exact .base ho he
     ·exact .step ho he (h e i hi)
    ·rw[List.getD,List.getElem?_eq_none (by simp;omega)] at hi
     simp at hi
theorem jcd {ops:Array Oper}{i k:Nat}(h:jeW (ancs ops.toList) i k=true):Ord ops i k:=by
 unfold jeW at h
 unfold Ord
 have key:=jso ops ops.toList [] (by simp) (fun k i hi=>by simp at hi)
 split at h
 ·rename_i hlt;rw[if_pos hlt];exact key k i (by simpa[ancs] using h)
 ·rename_i hlt;rw[if_neg hlt];exact key i k (by simpa[ancs] using h)
def cl (ops:Array Oper)(i:Nat):Nat:=match ops[i]? with
  |some O=>jgQ O.op
  |none=>0
structure Draw (ops:Array Oper)(l:List jap):Prop where
  edge: ∀(k:Nat) O,ops[k]?=some O→ ∀e∈jch O,e<k
  data: ∀(k i:Nat) O p d,ops[k]?=some O→ops[i]?=some p→i≠k→p.dst=some d→O.dst≠some d∧(d∈looks ops O→Ord ops i k)
  heavy: ∀(k i:Nat),i≠k→cl ops k=3→cl ops i=3→Ord ops i k
  iso: ∀(k:Nat) o,l[k]?=some o→o.iso=true→ ∀i,i≠k→(cl ops k=1→cl ops i=3→Ord ops i k)∧(cl ops k=3→cl ops i=1→Ord ops i k)
theorem Reach.lt {ops:Array Oper}(hE: ∀(k:Nat) O,ops[k]?=some O→ ∀e∈jch O,e<k){i k:Nat}(h:Reach ops i k):i<k:=by
 induction h with
 |base h he=>exact hE _ _ h _ he
 |step h he hr ih=>exact Nat.lt_trans ih (hE _ _ h _ he)
theorem Reach.closed {ops:Array Oper}{L:Nat→Prop}(hL: ∀(k:Nat) O,ops[k]?=some O→L k→ ∀e∈jch O,L e){i k:Nat}(h:Reach ops i k):L k→L i:=by
 induction h with
 |base h he=>exact fun hk=>hL _ _ h hk _ he
 |step h he hr ih=>exact fun hk=>ih (hL _ _ h hk _ he)
theorem Reach.ready {ops:Array Oper}{L:Nat→Prop}(hL: ∀(k:Nat) O,ops[k]?=some O→L k→ ∀e∈jch O,L e){i k:Nat}(h:Reach ops i k)(hk: ∀O,ops[k]?=some O→ ∀e∈jch O,L e):L i:=by
 cases h with
 |base h he=>exact hk _ h _ he
 |step h he hr=>exact hr.closed hL (hk _ h _ he)
/-! ### Values within a bound -/
def cutM (m:Map)(n:Nat):Map:=fun x=>if x<n then m x else none
theorem jav {m:Map}{n x:Nat}{b:Base}:cutM m n x=some b↔x<n∧m x=some b:=by
 unfold cutM
 split
 ·rename_i h;simp[h]
 ·rename_i h;simp only[reduceCtorEq,false_iff];exact fun h2=>h h2.1
theorem jeY {m:Map}{n x:Nat}{b:Base}(h:CB (cutM m n) x b):CB m x b:=⟨(jav.1 h.1).2,h.2⟩
theorem jrX {m:Map}{n x:Nat}{b:Base}(h:MB (cutM m n) x b):MB m x b:=⟨(jav.1 h.1).2,h.2⟩
theorem MpE.vr {m:Map}{l:List AV}{es:List MapEntry}(hE:MpE m l es){i:Nat}{v:AV}(hv:l[i]?=some v): ∃u,VR m v u:=by
 obtain⟨hi,_⟩:=List.getElem?_eq_some_iff.1 hv
 have hi':i<es.length:=by have:=hE.1;omega
 obtain⟨k,v',rfl,_,h3⟩:=hE.2 i v _ hv (List.getElem?_eq_getElem hi')
 exact⟨_,VRs.tuple (VRs.cons (.val (v:= .int .i64 k) rfl) (VRs.cons h3 .nil))⟩
theorem MpE.turn {m m':Map}{l:List AV}{es:List MapEntry}(hE:MpE m l es)(h: ∀(i:Nat) v u,l[i]?=some v→VR m v u→VR m' v u):MpE m' l es:=by
 refine⟨hE.1,fun i a e ha he=>?_⟩
 obtain⟨k,v',rfl,h2,h3⟩:=hE.2 i a e ha he
 refine⟨k,v',rfl,h2,?_⟩
 have:=h i _ _ ha (VRs.tuple (VRs.cons (.val (v:= .int .i64 k) rfl) (VRs.cons h3 .nil)))
 cases this with
 |tuple hl h=>exact h 1 _ _ rfl rfl
theorem MpC.vr {m:Map}{l:List AV}{es:Array MapEntry}{ck:Nat}(hE:MpC m l es ck){i:Nat}{v:AV}(hv:l[i]?=some v): ∃u,VR m v u:=hE.1.vr hv
theorem MpC.turn {m m':Map}{l:List AV}{es:Array MapEntry}{ck:Nat}(hE:MpC m l es ck)(h: ∀(i:Nat) v u,l[i]?=some v→VR m v u→VR m' v u):MpC m' l es ck:=⟨hE.1.turn h,hE.2⟩
theorem VR.cut {M:Map}{v:AV}{u:Value}(h:VR M v u): ∀{m:Map} {u':Value} {n:Nat},VR m v u'→(∀id b,m id=some b→id<n)→VR (cutM M n) v u:=by
 induction h with
 |val h=>intro m u' n h2 hd;exact .val h
 |ptr h=>intro m u' n h2 hd;cases h2 with|ptr h3=>exact .ptr ⟨jav.2 ⟨hd _ _ h3.1,h.1⟩,h.2⟩
 |mp h=>intro m u' n h2 hd;cases h2 with|mp h3=>exact .mp ⟨jav.2 ⟨hd _ _ h3.1,h.1⟩,h.2⟩
 |slice h ho h1 h2 h3 h4=>intro m u' n h5 hd;cases h5 with|slice h6=>exact .slice ⟨jav.2 ⟨hd _ _ h6.1,h.1⟩,h.2⟩ ho h1 h2 h3 h4
 |hole=>intro m u' n h2 hd;exact .hole
 |bfunc hl hl2 h h2 ih ih2=>
  intro m u' n h3 hd
  cases h3 with
  |bfunc hl3 hl4 h5 h6=>
   rename_i as cs us vs us' vs'
   refine .bfunc hl hl2 (fun i x y hx hy=>?_) (fun i x y hx hy=>?_)
   ·obtain⟨hi,_⟩:=List.getElem?_eq_some_iff.1 hx
    have hi':i<us'.size:=by omega
    exact ih i x y hx hy (h5 i x _ hx (Array.getElem?_eq_getElem hi')) hd
   ·obtain⟨hi,_⟩:=List.getElem?_eq_some_iff.1 hx
    have hi':i<vs'.size:=by omega
    exact ih2 i x y hx hy (h6 i x _ hx (Array.getElem?_eq_getElem hi')) hd
 |agg hl h ih=>
  intro m u' n h2 hd
  cases h2 with
  |agg hl2 h3=>
   refine .agg hl fun i x y hx hy=>?_
   rename_i cs vs vs'
   obtain⟨hi,_⟩:=List.getElem?_eq_some_iff.1 hx
   have hi':i<vs'.size:=by omega
   exact ih i x y hx hy (h3 i x _ hx (Array.getElem?_eq_getElem hi')) hd
 |tuple hl h ih=>
  intro m u' n h2 hd
  cases h2 with
  |tuple hl2 h3=>
   refine .tuple hl fun i x y hx hy=>?_
   rename_i cs vs vs'
   obtain⟨hi,_⟩:=List.getElem?_eq_some_iff.1 hx
   have hi':i<vs'.size:=by omega
   exact ih i x y hx hy (h3 i x _ hx (Array.getElem?_eq_getElem hi')) hd
 |func hl h ih=>
  intro m u' n h2 hd
  cases h2 with
  |func hl2 h3=>
   refine .func hl fun i x y hx hy=>?_
   rename_i f cs vs vs'
   obtain⟨hi,_⟩:=List.getElem?_eq_some_iff.1 hx
   have hi':i<vs'.size:=by omega
   exact ih i x y hx hy (h3 i x _ hx (Array.getElem?_eq_getElem hi')) hd
def crn (H:Nat→Heap)(x:Nat):Nat→Nat
  |0=>0
  |k+1=>if x<(H k).length then crn H x k else k+1
theorem jcq {H:Nat→Heap}{n:Nat}(hm: ∀i,i<n→(H i).length≤(H (i+1)).length){x:Nat}: ∀k,k≤n→x<(H k).length→crn H x k≤k∧x<(H (crn H x k)).length∧ ∀j,j<crn H x k→(H j).length≤x
 |0,_,hx=>⟨Nat.le_refl _,hx,fun j hj=>absurd hj (by simp[crn])⟩
 |k+1,hk,hx=>by
  unfold crn
  split
  ·rename_i h
   obtain⟨h1,h2,h3⟩:=jcq hm k (by omega) h
   exact⟨by omega,h2,h3⟩
  ·rename_i h
   refine⟨Nat.le_refl _,hx,fun j hj=>?_⟩
   have: ∀d,j+d=k→(H j).length≤(H k).length:=by
    intro d
    induction d generalizing j with
    |zero=>intro e;rw[←e];exact Nat.le_refl _
    |succ d ih=>
     intro e
     exact Nat.le_trans (hm j (by omega)) (ih (j+1) (by omega) (by omega))
   have:=this (k - j) (by omega)
   omega
theorem jaE {H:Nat→Heap}{n:Nat}(hm: ∀i,i<n→(H i).length≤(H (i+1)).length): ∀{i j:Nat},i≤j→j≤n→(H i).length≤(H j).length:=by
 intro i j hij
 induction hij with
 |refl=>intro _;exact Nat.le_refl _
 |step h ih=>intro hj;exact Nat.le_trans (ih (by omega)) (hm _ (by omega))
end
end
section
open Go
section
variable {P:Program}{C:jaG}{n0 B0 nt base:Nat}{fl:Nat→Bool}{ops:Array Oper}{l:List jap}{S:Nat→jah}{H:Nat→Heap}{D:Nat→Seen}
structure je5 (n0 B0 nt base:Nat)(fl:Nat→Bool)(ops:Array Oper)(l:List jap)(S:Nat→jah)(H:Nat→Heap)(D:Nat→Seen)(m0:Map)(w0:World):Prop where
  seq: ∀i,i≤ops.size→ ∃m w a,Post n0 B0 fl m0 (H 0) w0 m (H i) w∧SR nt m (S i) a
  step: ∀i o,l[i]?=some o→i<ops.size→ ∃m w m' w',Rels n0 B0 m (H i) w∧Post n0 B0 (if jaR o (S i)=some true then ja6 fl o (jbA fl (D i) o (l.drop (i+1)) (S i) (H i)) else fun _=>false) m (H i) w m' (H (i+1)) w'
theorem facts_of (hC:jbo P C)(hfl: ∀id,fl id=true→n0≤id)(hc:Comp P nt ops l)(tr:jdh C base fl l S H D){m0:Map}{w0:World}(r0:Rels n0 B0 m0 (H 0) w0){a0:Act}(hs0:SR nt m0 (S 0) a0):
  je5 n0 B0 nt base fl ops l S H D m0 w0:=by
 refine⟨jgl hC hfl hc tr r0 hs0,fun i o ho hi=>?_⟩
 obtain⟨m,w,a,hp,hs⟩:=jgl hC hfl hc tr r0 hs0 i (by omega)
 obtain⟨O,hO⟩: ∃O,ops[i]?=some O:=⟨ops[i]'hi,Array.getElem?_eq_getElem _⟩
 obtain⟨o',ho',hop,hdst,hg,hd⟩:=hc.at_ i O hO
 rw[ho] at ho'
 injection ho' with ho';subst ho'
 rcases tr.step i o ho with⟨hw,v,hrun,hS,hD⟩|⟨hw,hH,hS,hD⟩
 ·obtain⟨a',w',m',hp'⟩:=jqh (P:=P) (K:=fun a' w'=> ∃m',Post n0 B0 (ja6 fl o (jbA fl (D i) o (l.drop (i+1)) (S i) (H i))) m (H i) w m' (H (i+1)) w')
   (jdw hC hop hrun hp.rels hfl (fun y hy z hz=>hs.opd hz) fun v' w' m' hp hv=>⟨m',hp⟩)
  exact⟨m,w,m',w',hp.rels,by rw[if_pos hw];exact hp'⟩
 ·refine⟨m,w,m,w,hp.rels,?_⟩
  rw[if_neg (by rw[hw];simp),hH]
  exact .refl hp.rels
variable {m0:Map}{w0:World}
theorem je5.len (F:je5 n0 B0 nt base fl ops l S H D m0 w0)(hc:Comp P nt ops l)(i:Nat)(hi:i<ops.size):(H i).length≤(H (i+1)).length:=by
 obtain⟨o,ho⟩: ∃o,l[i]?=some o:=⟨l[i]'(by rw[hc.len];exact hi),List.getElem?_eq_getElem _⟩
 obtain⟨m,w,m',w',r,p⟩:=F.step i o ho hi
 exact p.len
theorem joB (hc:Comp P nt ops l)(tr:jdh C base fl l S H D){i:Nat}(hi:i<ops.size)(h3:cl ops i≠3):H (i+1)=H i∨ ∃x,H (i+1)=H i++[some x]:=by
 obtain⟨O,hO⟩: ∃O,ops[i]?=some O:=⟨ops[i]'hi,Array.getElem?_eq_getElem _⟩
 obtain⟨o,ho,hop,hdst,hg,hd⟩:=hc.at_ i O hO
 rcases tr.step i o ho with⟨hw,v,hrun,hS,hD⟩|⟨hw,hH,hS,hD⟩
 ·cases hcx:cOp P O with
  |none=>
   rw[hcx] at hop
   simp only[Option.getD_none] at hop
   unfold jbI at hrun
   rw[hop] at hrun
   simp[jag] at hrun
  |some x=>
   rw[hcx] at hop
   simp only[Option.getD_some] at hop
   have hcls:=jfR hcx
   have hcl:cl ops i=jgQ O.op:=by simp[cl,hO]
   unfold jbI at hrun
   split at hrun
   ·rename_i f args heq
    rw[heq] at hop
    subst hop
    exfalso
    apply h3
    rw[hcl,← hcls];rfl
   ·rw[hop] at hrun
    have hb:clsA x=0∨clsA x=1∨clsA x=2∨clsA x=3:=by cases x<;>simp[clsA]
    rcases hb with hb|hb|hb|hb
    ·exact .inl (jke hb hrun).1
    ·cases x<;>simp[clsA] at hb
     exact .inl (jeB hrun).1
    ·obtain⟨q,hq,_⟩:=jiC hb hrun
     exact .inr ⟨q,hq⟩
    ·exfalso;apply h3;rw[hcl,← hcls];exact hb
 ·exact .inl hH
theorem jhC (hc:Comp P nt ops l)(tr:jdh C base fl l S H D)(hm: ∀i,i<ops.size→(H i).length≤(H (i+1)).length){x:Nat}: ∀(d i:Nat),i+d≤ops.size→x<(H i).length→(∀k,i≤k→k<i+d→cl ops k=3→blk (H (k+1)) x=blk (H k) x)→blk (H (i+d)) x=blk (H i) x
 |0,i,_,_,_=>rfl
 |d+1,i,hi,hx,hh=>by
  have jdG:blk (H (i+1)) x=blk (H i) x:=by
   by_cases h3:cl ops i=3
   ·exact hh i (Nat.le_refl _) (by omega) h3
   ·rcases joB hc tr (by omega) h3 with h|⟨q,h⟩
    ·rw[h]
    ·rw[h];exact jaJ _ hx
  have:=jhC hc tr hm d (i+1) (by omega) (Nat.lt_of_lt_of_le hx (hm i (by omega))) (fun k h1 h2 h3=>hh k (by omega) (by omega) h3)
  rw[show i+(d+1)=i+1+d by omega,this,jdG]
theorem jgj (hc:Comp P nt ops l)(tr:jdh C base fl l S H D)(hm: ∀i,i<ops.size→(H i).length≤(H (i+1)).length){x i j:Nat}(hij:i≤j)(hj:j≤ops.size)(hx:x<(H i).length)(hh: ∀k,i≤k→k<j→cl ops k=3→blk (H (k+1)) x=blk (H k) x):blk (H j) x=blk (H i) x:=by
 have:=jhC hc tr hm (j - i) i (by omega) hx (fun k h1 h2 h3=>hh k h1 (by omega) h3)
 rwa [show i+(j - i)=j by omega] at this
abbrev Lst (listed:Array Bool)(k:Nat):Prop:=listed.getD k false=true
structure InvS (nt:Nat)(ops:Array Oper)(S:Nat→jah)(H:Nat→Heap)(listed:Array Bool)(M:Map)(a:Act):Prop where
  lsz:listed.size=ops.size
  closed: ∀(k:Nat) O,ops[k]?=some O→Lst listed k→ ∀e∈jch O,Lst listed e
  asz:a.tmps.size=nt
  dom: ∀x b,M x=some b→x<(H 0).length∨ ∃i,i<ops.size∧Lst listed i∧(H i).length≤x∧x<(H (i+1)).length
  slotL: ∀(i:Nat) O t,ops[i]?=some O→O.dst=some t→Lst listed i→VR M (S (i+1) t) (a.tmps.getD t undef)
  slotN: ∀t,(∀(i:Nat) O,ops[i]?=some O→O.dst=some t→ ¬Lst listed i)→VR M (S 0 t) (a.tmps.getD t undef)
  made: ∀i,i<ops.size→Lst listed i→ ∀x,(H i).length≤x→x<(H (i+1)).length→M x≠none
structure InvM (n0 B0:Nat)(fl:Nat→Bool)(ops:Array Oper)(H:Nat→Heap)(m0:Map)(w0:World)(listed:Array Bool)(M:Map)(w:World):Prop where
  mem: ∃v,v≤ops.size∧(∀i,cl ops i=3→i<v→Lst listed i)∧(∀i,cl ops i=3→v≤i→ ¬Lst listed i)∧Rel n0 B0 M (fun x=>blk (H (max v (crn H x ops.size))) x) w
  stable: ∀j,j<ops.size→ ¬Lst listed j→ ∀x,(H j).length≤x→x<(H (j+1)).length→ ∀i,cl ops i=3→Lst listed i→j<i→blk (H (i+1)) x=blk (H i) x
  os:w.os=w0.os
  tape:w.tape=w0.tape
  output:w.output=w0.output
  size:w0.heap.size≤w.heap.size
  frame: ∀x,x<w0.heap.size→(∀id l b,fl id=true→blk (H 0) id=some l→m0 id=some b→b.b≠x)→w.heap[x]?=w0.heap[x]?
  keep: ∀id,id<(H 0).length→M id=m0 id
  fresh: ∀id b,(H 0).length≤id→M id=some b→w0.heap.size≤b.b∨ ∃j l c,fl j=true∧blk (H 0) j=some l∧m0 j=some c∧c.b=b.b
theorem jaH {listed:Array Bool}{k i:Nat}(hk:k<listed.size):Lst (listed.setIfInBounds k true) i↔Lst listed i∨i=k:=by
 unfold Lst
 simp only[Array.getD_eq_getD_getElem?,Array.getElem?_setIfInBounds]
 by_cases h:k=i
 ·subst h;simp[hk]
 ·simp[h,Ne.symm h]
theorem jdu (hc:Comp P nt ops l)(tr:jdh C base fl l S H D){t:Nat}: ∀(d i:Nat),i+d≤ops.size→(∀(k:Nat) O,i≤k→k<i+d→ops[k]?=some O→O.dst≠some t)→S (i+d) t=S i t
 |0,i,_,_=>rfl
 |d+1,i,hi,hw=>by
  obtain⟨O,hO⟩: ∃O,ops[i]?=some O:=⟨ops[i]'(by omega),Array.getElem?_eq_getElem _⟩
  obtain⟨o,ho,hop,hdst,hg,hd⟩:=hc.at_ i O hO
  have hne:o.dst≠some t:=by rw[hdst];exact hw i O (Nat.le_refl _) (by omega) hO
  have h1:S (i+1) t=S i t:=by
   rcases tr.step i o ho with⟨_,v,_,hS,_⟩|⟨_,_,hS,_⟩<;>rw[hS,jcV,if_neg hne]
  have:=jdu hc tr (t:=t) d (i+1) (by omega) (fun k O h1 h2=>hw k O (by omega) (by omega))
  rw[show i+(d+1)=i+1+d by omega,this,h1]
theorem jeP (hc:Comp P nt ops l)(dr:Draw ops l)(tr:jdh C base fl l S H D){listed:Array Bool}{M:Map}{a:Act}(inv:InvS nt ops S H listed M a){k:Nat}{O:Oper}(hO:ops[k]?=some O)(hk: ¬Lst listed k)(he: ∀e∈jch O,Lst listed e){t:Nat}(ht:t∈looks ops O):
  VR M (S k t) (a.tmps.getD t undef):=by
 have hks:k<ops.size:=(Array.getElem?_eq_some_iff.1 hO).1
 have hready: ∀O',ops[k]?=some O'→ ∀e∈jch O',Lst listed e:=fun O' h=>by rw[hO] at h;injection h with h;subst h;exact he
 by_cases hw: ∃(i:Nat) (p:Oper),i<k∧ops[i]?=some p∧p.dst=some t
 ·obtain⟨i,p,hik,hp,hpd⟩:=hw
  have hi:Lst listed i:=by
   have:=(dr.data k i O p t hO hp (by omega) hpd).2 ht
   unfold Ord at this
   rw[if_pos hik] at this
   exact this.ready inv.closed hready
  have hs:S k t=S (i+1) t:=by
   have:=jdu hc tr (t:=t) (k - (i+1)) (i+1) (by omega) (fun j q h1 h2 hq=>(dr.data j i q p t hq hp (by omega) hpd).1)
   rwa [show i+1+(k - (i+1))=k by omega] at this
  rw[hs]
  exact inv.slotL i p t hp hpd hi
 ·have hs:S k t=S 0 t:=by
   have:=jdu hc tr (t:=t) k 0 (by omega) (fun j q h1 h2 hq hqd=>hw ⟨j,q,by omega,hq,hqd⟩)
   simpa using this
  rw[hs]
  refine inv.slotN t fun i p hp hpd hi=>?_
  have hik: ¬i<k:=fun h=>hw ⟨i,p,h,hp,hpd⟩
  by_cases hik2:i=k
  ·subst hik2;exact hk hi
  ·have:=(dr.data k i O p t hO hp hik2 hpd).2 ht
   unfold Ord at this
   rw[if_neg hik] at this
   exact hk (this.closed inv.closed hi)
theorem jcR (hc:Comp P nt ops l)(dr:Draw ops l){listed:Array Bool}{M M':Map}{a:Act}(inv:InvS nt ops S H listed M a){k:Nat}{O:Oper}(hO:ops[k]?=some O)(hk: ¬Lst listed k)(he: ∀e∈jch O,Lst listed e)
  (hm: ∀x b,M x=some b→M' x=some b) (hdom: ∀x b,M' x=some b→M x=some b∨((H k).length≤x∧x<(H (k+1)).length)) {v':Value} (hv: ∀t,O.dst=some t→VR M' (S (k+1) t) v') (hmade: ∀x,(H k).length≤x→x<(H (k+1)).length→M' x≠none):
  InvS nt ops S H (listed.setIfInBounds k true) M' (a.put O.dst v'):=by
 have hks:k<ops.size:=(Array.getElem?_eq_some_iff.1 hO).1
 have hkl:k<listed.size:=by rw[inv.lsz];exact hks
 obtain⟨o,ho,hop,hdst,hg,hd⟩:=hc.at_ k O hO
 refine⟨by simp[inv.lsz],?_,by rw[jer];exact inv.asz,?_,?_,?_,?_⟩
 ·intro i p hp hi e hep
  rcases (jaH hkl).1 hi with hi|rfl
  ·exact (jaH hkl).2 (.inl (inv.closed i p hp hi e hep))
  ·rw[hO] at hp;injection hp with hp;subst hp
   exact (jaH hkl).2 (.inl (he e hep))
 ·intro x b hb
  rcases hdom x b hb with hb|⟨h1,h2⟩
  ·rcases inv.dom x b hb with h|⟨i,h1,h2,h3,h4⟩
   ·exact .inl h
   ·exact .inr ⟨i,h1,(jaH hkl).2 (.inl h2),h3,h4⟩
  ·exact .inr ⟨k,hks,(jaH hkl).2 (.inr rfl),h1,h2⟩
 ·intro i p t hp hpd hi
  rw[jb9 a O.dst v' t (by rw[inv.asz];exact hd)]
  by_cases hik:i=k
  ·subst hik
   rw[hO] at hp;injection hp with hp;subst hp
   rw[if_pos hpd];exact hv t hpd
  ·rw[if_neg (dr.data k i O p t hO hp hik hpd).1]
   rcases (jaH hkl).1 hi with hi|hi
   ·exact (inv.slotL i p t hp hpd hi).mono hm
   ·exact absurd hi hik
 ·intro t hn
  rw[jb9 a O.dst v' t (by rw[inv.asz];exact hd),if_neg (fun h=>hn k O hO h ((jaH hkl).2 (.inr rfl)))]
  exact (inv.slotN t fun i p hp hpd hi=>hn i p hp hpd ((jaH hkl).2 (.inl hi))).mono hm
 ·intro i hi hL x h1 h2
  rcases (jaH hkl).1 hL with hL|rfl
  ·have:=inv.made i hi hL x h1 h2
   cases hb:M x with
   |none=>exact absurd hb this
   |some b=>rw[hm x b hb];simp
  ·exact hmade x h1 h2
end
end
section
open Go
section
variable {P:Program}{C:jaG}{n0 B0 nt base:Nat}{fl:Nat→Bool}{ops:Array Oper}{l:List jap}{S:Nat→jah}{H:Nat→Heap}{D:Nat→Seen}{m0:Map}{w0:World}
def jbm (M m':Map)(p:Nat→Bool):Map:=fun x=>if p x then m' x else M x
theorem jie {w w':World}{b o:Nat}(h:w'.heap[b]?=w.heap[b]?):w'.cell? ⟨b,o,none⟩=w.cell? ⟨b,o,none⟩:=by
 simp only[World.cell?,h]
theorem jnn {M m':Map}{p:Nat→Bool}{g1 g2 gj:Nat→Option (List AV)}{w w':World}(r1:Rel n0 B0 m' g1 w')(r2:Rel n0 B0 M g2 w)(hsz:w.heap.size≤w'.heap.size)
  (hd: ∀x b,m' x=some b→p x=true∨M x=some b) (hm: ∀x b,M x=some b→p x=true→m' x=some b)
  (h1: ∀x b,p x=true→m' x=some b→gj x=g1 x) (h2: ∀x b,p x=false→M x=some b→gj x=g2 x)
  (hsame: ∀x b,p x=false→M x=some b→ ∀lx,g2 x=some lx→w'.heap[b.b]?=w.heap[b.b]?)
  (hfar: ∀i j bi bj li lj,p i=true→p j=false→m' i=some bi→M j=some bj→n0≤i→n0≤j→g1 i=some li→g2 j=some lj→bi.b≠bj.b):
  Rel n0 B0 (jbm M m' p) gj w':=by
 have hlo: ∀x b,p x=true→jbm M m' p x=some b→m' x=some b:=fun x b hx h=>by simpa[jbm,hx] using h
 have hhi: ∀x b,p x=false→jbm M m' p x=some b→M x=some b:=fun x b hx h=>by simpa[jbm,hx] using h
 have up1: ∀x b,m' x=some b→jbm M m' p x=some b:=fun x b h=>by
  cases hx:p x with
  |true=>simp[jbm,hx,h]
  |false=>
   rcases hd x b h with h3|h3
   ·rw[hx] at h3;cases h3
   ·simp[jbm,hx,h3]
 have up2: ∀x b,M x=some b→jbm M m' p x=some b:=fun x b h=>by
  cases hx:p x with
  |true=>simp[jbm,hx,hm x b h hx]
  |false=>simp[jbm,hx,h]
 refine⟨r1.base,?_,?_,?_,?_,?_,?_,?_,r1.gl⟩
 ·intro x b hb
  cases hx:p x with
  |true=>exact r1.lt x b (hlo x b hx hb)
  |false=>exact Nat.lt_of_lt_of_le (r2.lt x b (hhi x b hx hb)) hsz
 ·intro x lx b hl hb i v hv
  obtain⟨hb,hk⟩:=hb
  cases hx:p x with
  |true=>
   have hb:=hlo x b hx hb
   rw[h1 x b hx hb] at hl
   obtain⟨v',h3,h4⟩:=r1.cell x lx b hl ⟨hb,hk⟩ i v hv
   exact⟨v',h3,h4.mono up1⟩
  |false=>
   have hb:=hhi x b hx hb
   rw[h2 x b hx hb] at hl
   obtain⟨v',h3,h4⟩:=r2.cell x lx b hl ⟨hb,hk⟩ i v hv
   exact⟨v',by rw[jie (hsame x b hx hb lx hl)];exact h3,h4.mono up2⟩
 ·intro x lx b hl hb
  obtain⟨hb,hk⟩:=hb
  cases hx:p x with
  |true=>
   have hb:=hlo x b hx hb
   rw[h1 x b hx hb] at hl
   exact r1.one x lx b hl ⟨hb,hk⟩
  |false=>
   have hb:=hhi x b hx hb
   rw[h2 x b hx hb] at hl
   exact r2.one x lx b hl ⟨hb,hk⟩
 ·intro x lx b hx0 hl hb
  obtain⟨hb,hk⟩:=hb
  cases hx:p x with
  |true=>
   have hb:=hlo x b hx hb
   rw[h1 x b hx hb] at hl
   exact r1.own x lx b hx0 hl ⟨hb,hk⟩
  |false=>
   have hb:=hhi x b hx hb
   rw[h2 x b hx hb] at hl
   obtain⟨h3,h4,c,e,h5,h6⟩:=r2.own x lx b hx0 hl ⟨hb,hk⟩
   exact⟨h3,h4,c,e,by rw[hsame x b hx hb lx hl];exact h5,h6⟩
 ·intro x b hx0 hb
  cases hx:p x with
  |true=>exact r1.ro x b hx0 (hlo x b hx hb)
  |false=>exact r2.ro x b hx0 (hhi x b hx hb)
 ·intro i j li lj bi bj hi0 hj0 hli hlj hbi hbj he
  cases hi:p i<;>cases hj:p j
  ·have hbi:=hhi i bi hi hbi
   have hbj:=hhi j bj hj hbj
   rw[h2 i bi hi hbi] at hli
   rw[h2 j bj hj hbj] at hlj
   exact r2.inj i j li lj bi bj hi0 hj0 hli hlj hbi hbj he
  ·have hbi:=hhi i bi hi hbi
   have hbj:=hlo j bj hj hbj
   rw[h2 i bi hi hbi] at hli
   rw[h1 j bj hj hbj] at hlj
   exact absurd he.symm (hfar j i bj bi lj li hj hi hbj hbi hj0 hi0 hlj hli)
  ·have hbi:=hlo i bi hi hbi
   have hbj:=hhi j bj hj hbj
   rw[h1 i bi hi hbi] at hli
   rw[h2 j bj hj hbj] at hlj
   exact absurd he (hfar i j bi bj li lj hi hj hbi hbj hi0 hj0 hli hlj)
  ·have hbi:=hlo i bi hi hbi
   have hbj:=hlo j bj hj hbj
   rw[h1 i bi hi hbi] at hli
   rw[h1 j bj hj hbj] at hlj
   exact r1.inj i j li lj bi bj hi0 hj0 hli hlj hbi hbj he
 ·intro x lx b hl hb
  obtain⟨hb,hk⟩:=hb
  cases hx:p x with
  |true=>
   have hb:=hlo x b hx hb
   rw[h1 x b hx hb] at hl
   obtain⟨h3,h4,es,ck,h5,h6⟩:=r1.mp x lx b hl ⟨hb,hk⟩
   exact⟨h3,h4,es,ck,h5,h6.mono up1⟩
  |false=>
   have hb:=hhi x b hx hb
   rw[h2 x b hx hb] at hl
   obtain⟨h3,h4,es,ck,h5,h6⟩:=r2.mp x lx b hl ⟨hb,hk⟩
   exact⟨h3,h4,es,ck,by rw[hsame x b hx hb lx hl];exact h5,h6.mono up2⟩
theorem jdJ (hm: ∀i,i<ops.size→(H i).length≤(H (i+1)).length){listed:Array Bool}{M:Map}{a:Act}(inv:InvS nt ops S H listed M a){k:Nat}(hk:k<ops.size)(hnk: ¬Lst listed k){x:Nat}(h1:(H k).length≤x)(h2:x<(H (k+1)).length):M x=none:=by
 cases hb:M x with
 |none=>rfl
 |some b=>
  rcases inv.dom x b hb with h|⟨i,hi,hL,h3,h4⟩
  ·have:=jaE hm (Nat.zero_le k) (by omega)
   omega
  ·by_cases hik:i=k
   ·subst hik;exact absurd hL hnk
   ·by_cases hlt:i<k
    ·have:=jaE hm (show i+1≤k by omega) (by omega)
     omega
    ·have:=jaE hm (show k+1≤i by omega) (by omega)
     omega
theorem jrU (hm: ∀i,i<ops.size→(H i).length≤(H (i+1)).length){listed:Array Bool}{M:Map}{a:Act}(inv:InvS nt ops S H listed M a){x:Nat}{b:Base}(hb:M x=some b):x<(H ops.size).length:=by
 rcases inv.dom x b hb with h|⟨i,hi,hL,h3,h4⟩
 ·exact Nat.lt_of_lt_of_le h (jaE hm (Nat.zero_le _) (Nat.le_refl _))
 ·exact Nat.lt_of_lt_of_le h4 (jaE hm (by omega) (Nat.le_refl _))
variable (hc:Comp P nt ops l)(tr:jdh C base fl l S H D)(F:je5 n0 B0 nt base fl ops l S H D m0 w0)(hfl: ∀id,fl id=true→n0≤id)(r0:Rels n0 B0 m0 (H 0) w0)
theorem jg2 (F:je5 n0 B0 nt base fl ops l S H D m0 w0){k:Nat}(hk:k≤ops.size){M:Map}{x i:Nat}{lx:List AV}{v:AV}{u:Value}(hl:blk (H k) x=some lx)(hv:lx[i]?=some v)(hx:m0 x≠none∨(H 0).length≤x)(h:VR M v u):VR (cutM M (H k).length) v u:=by
 obtain⟨m,w,a,p,s⟩:=F.seq k hk
 have hne:m x≠none:=by
  by_cases h0:x<(H 0).length
  ·rcases hx with hx|hx
   ·rw[p.keep x h0];exact hx
   ·omega
  ·exact p.new x (by omega) (ja1 hl)
 cases hb:m x with
 |none=>exact absurd hb hne
 |some b=>
  cases hk:b.mp with
  |false=>
   obtain⟨v',_,h2⟩:=p.rels.rel.cell x lx b hl ⟨hb,hk⟩ i v hv
   exact h.cut h2 p.rels.dom
  |true=>
   obtain⟨_,_,es,ck,_,hE⟩:=p.rels.rel.mp x lx b hl ⟨hb,hk⟩
   obtain⟨v',h2⟩:=hE.vr hv
   exact h.cut h2 p.rels.dom
theorem jph (F:je5 n0 B0 nt base fl ops l S H D m0 w0){k:Nat}(hk:k≤ops.size){M:Map}{t:Nat}{u:Value}(h:VR M (S k t) u):VR (cutM M (H k).length) (S k t) u:=by
 obtain⟨m,w,a,p,s⟩:=F.seq k hk
 exact h.cut (s.slot t) p.rels.dom
theorem jli (F:je5 n0 B0 nt base fl ops l S H D m0 w0){k:Nat}(hk:k≤ops.size){x:Nat}{lx:List AV}(hx:x<(H 0).length)(hl:blk (H k) x=some lx): ∃l0,blk (H 0) x=some l0:=by
 obtain⟨m,w,a,p,s⟩:=F.seq k hk
 cases hb:blk (H 0) x with
 |none=>rw[p.dead x hx hb] at hl;cases hl
 |some l0=>exact⟨l0,rfl⟩
theorem jhM (F:je5 n0 B0 nt base fl ops l S H D m0 w0)(hm: ∀i,i<ops.size→(H i).length≤(H (i+1)).length){listed:Array Bool}{M:Map}{a:Act}{w:World}(inv:InvS nt ops S H listed M a)(im:InvM n0 B0 fl ops H m0 w0 listed M w)
  (hn0:n0≤(H 0).length) {k:Nat} (hk:k<ops.size) (hg: ∀x b,M x=some b→x<(H k).length→ ∀v,(∀i,cl ops i=3→i<v→Lst listed i)→(∀i,cl ops i=3→v≤i→ ¬Lst listed i)→v≤ops.size→blk (H (max v (crn H x ops.size))) x=blk (H k) x):
  Rels n0 B0 (cutM M (H k).length) (H k) w:=by
 obtain⟨v,hv,hv1,hv2,r⟩:=im.mem
 have hgg: ∀x b,cutM M (H k).length x=some b→blk (H (max v (crn H x ops.size))) x=blk (H k) x:=fun x b hb=>hg x b (jav.1 hb).2 (jav.1 hb).1 v hv1 hv2 hv
 refine⟨⟨r.base,fun x b hb=>r.lt x b (jav.1 hb).2,?_,?_,?_,fun x b hx hb=>r.ro x b hx (jav.1 hb).2,?_,?_,r.gl⟩,fun x b hb=>(jav.1 hb).1,Nat.le_trans hn0 (jaE hm (Nat.zero_le _) (by omega))⟩
 ·intro x lx b hl hb i u hu
  rw[←hgg x b hb.1] at hl
  obtain⟨v',h1,h2⟩:=r.cell x lx b hl (jeY hb) i u hu
  rw[hgg x b hb.1] at hl
  refine⟨v',h1,jg2 F (by omega) hl hu ?_ h2⟩
  by_cases h0:x<(H 0).length
  ·left;rw[←im.keep x h0,(jav.1 hb.1).2];simp
  ·right;omega
 ·intro x lx b hl hb
  rw[←hgg x b hb.1] at hl
  exact r.one x lx b hl (jeY hb)
 ·intro x lx b hx hl hb
  rw[←hgg x b hb.1] at hl
  exact r.own x lx b hx hl (jeY hb)
 ·intro i j li lj bi bj hi hj hli hlj hbi hbj he
  rw[←hgg i bi hbi] at hli
  rw[←hgg j bj hbj] at hlj
  exact r.inj i j li lj bi bj hi hj hli hlj (jav.1 hbi).2 (jav.1 hbj).2 he
 ·intro x lx b hl hb
  rw[←hgg x b hb.1] at hl
  obtain⟨h1,h2,es,ck,h3,h4⟩:=r.mp x lx b hl (jrX hb)
  rw[hgg x b hb.1] at hl
  refine⟨h1,h2,es,ck,h3,h4.turn fun i v u hv h5=>jg2 F (by omega) hl hv ?_ h5⟩
  by_cases h0:x<(H 0).length
  ·left;rw[←im.keep x h0,(jav.1 hb.1).2];simp
  ·right;omega
theorem jks (F:je5 n0 B0 nt base fl ops l S H D m0 w0)(hfl: ∀id,fl id=true→n0≤id)(hm: ∀i,i<ops.size→(H i).length≤(H (i+1)).length){listed:Array Bool}{M:Map}{a:Act}{w:World}(inv:InvS nt ops S H listed M a)(im:InvM n0 B0 fl ops H m0 w0 listed M w)
  (hn0:n0≤(H 0).length) {k:Nat} (hk:k<ops.size) (h3k:cl ops k=3) (hnk: ¬Lst listed k) {fl':Nat→Bool} (hf: ∀i,fl' i=true→fl i=true) {m':Map} {w':World}
  (p:Post n0 B0 fl' (cutM M (H k).length) (H k) w m' (H (k+1)) w') (hv1: ∀i,cl ops i=3→i<k→Lst listed i) (hv2: ∀i,cl ops i=3→k<i→ ¬Lst listed i)
  (hg: ∀x b,M x=some b→x<(H k).length→ ∀v,(∀i,cl ops i=3→i<v→Lst listed i)→(∀i,cl ops i=3→v≤i→ ¬Lst listed i)→v≤ops.size→blk (H (max v (crn H x ops.size))) x=blk (H k) x):
  InvM n0 B0 fl ops H m0 w0 (listed.setIfInBounds k true) (jbm M m' (fun x=>decide (x<(H (k+1)).length))) w':=by
 obtain⟨v,hv,hw1,hw2,r⟩:=im.mem
 have hkl:k<listed.size:=by rw[inv.lsz];exact hk
 have hvk:v≤k:=by
  by_cases hle:v≤k
  ·exact hle
  ·exact absurd (hw1 k h3k (by omega)) hnk
 have hgg: ∀x b,x<(H k).length→M x=some b→blk (H (max v (crn H x ops.size))) x=blk (H k) x:=fun x b hx hb=>hg x b hb hx v hw1 hw2 hv
 have hlk:=hm k hk
 have hnew: ∀x,(H k).length≤x→x<(H (k+1)).length→M x=none:=fun x h1 h2=>jdJ hm inv hk hnk h1 h2
 have hcr: ∀x,x<(H (k+1)).length→crn H x ops.size≤k+1:=fun x hx=>by
  obtain⟨h1,h2,h3⟩:=jcq hm ops.size (Nat.le_refl _) (Nat.lt_of_lt_of_le hx (jaE hm (by omega) (Nat.le_refl _)))
  by_cases hle:crn H x ops.size≤k+1
  ·exact hle
  ·have:=h3 (k+1) (by omega)
   omega
 have hcr2: ∀x,(H (k+1)).length≤x→x<(H ops.size).length→k+1<crn H x ops.size:=fun x hx hx2=>by
  obtain⟨h1,h2,h3⟩:=jcq hm ops.size (Nat.le_refl _) hx2
  by_cases hle:crn H x ops.size≤k+1
  ·have:=jaE hm hle (by omega)
   omega
  ·omega
 -- heavy numbers that may be changed are not the early ones
 have hfar: ∀id li bi j lj bj,fl' id=true→blk (H k) id=some li→cutM M (H k).length id=some bi→(H (k+1)).length≤j→M j=some bj→blk (H (max v (crn H j ops.size))) j=some lj→bi.b≠bj.b:=by
  intro id li bi j lj bj h1 h2 h3 h4 h5 h6 he
  obtain⟨h7,h8⟩:=jav.1 h3
  have h0:=hfl id (hf id h1)
  have:=r.inj id j li lj bi bj h0 (by have:=jaE hm (Nat.zero_le (k+1)) (by omega);omega) (by show blk (H (max v (crn H id ops.size))) id=_;rw[hgg id bi h7 h8];exact h2) h6 h8 h5 he
  omega
 have hgold: ∀x,(H (k+1)).length≤x→x<(H ops.size).length→blk (H (max (k+1) (crn H x ops.size))) x=blk (H (max v (crn H x ops.size))) x:=fun x hx hx2=>by
  have:=hcr2 x hx hx2
  rw[Nat.max_eq_right (by omega),Nat.max_eq_right (by omega)]
 refine⟨⟨k+1,by omega,?_,?_,?_⟩,?_,p.os.trans im.os,p.tape.trans im.tape,p.output.trans im.output,Nat.le_trans im.size p.size,?_,?_,?_⟩
 ·intro i h3 hi
  refine (jaH hkl).2 ?_
  by_cases hik:i=k
  ·exact .inr hik
  ·exact .inl (hv1 i h3 (by omega))
 ·intro i h3 hi hL
  rcases (jaH hkl).1 hL with hL|hL
  ·exact hv2 i h3 (by omega) hL
  ·omega
 ·refine jnn (p:=fun x=>decide (x<(H (k+1)).length)) p.rels.rel r p.size (fun x b hb=> .inl (by simpa using p.rels.dom x b hb)) (fun x b hb hx=>?_) (fun x b hx hb=>?_) (fun x b hx hb=>?_) (fun x b hx hb lx hl=>?_) (fun i j bi bj li lj hi hj hbi hbj hi0 hj0 hli hlj=>?_)
  ·simp only[decide_eq_true_eq] at hx
   by_cases hxk:x<(H k).length
   ·rw[p.keep x hxk];exact jav.2 ⟨hxk,hb⟩
   ·rw[hnew x (by omega) hx] at hb;cases hb
  ·simp only[decide_eq_true_eq] at hx
   rw[Nat.max_eq_left (hcr x hx)]
  ·simp only[decide_eq_false_iff_not] at hx
   exact hgold x (by omega) (jrU hm inv hb)
  ·simp only[decide_eq_false_iff_not] at hx
   exact p.frame b.b (r.lt x b hb) fun id li bi h1 h2 h3=>hfar id li bi x lx b h1 h2 h3 (by omega) hb hl
  ·simp only[decide_eq_true_eq,decide_eq_false_iff_not] at hi hj
   intro he
   by_cases hik:i<(H k).length
   ·have hbi':=hbi
    rw[p.keep i hik] at hbi'
    obtain⟨_,hMi⟩:=jav.1 hbi'
    cases hlive:blk (H k) i with
    |none=>rw[p.dead i hik hlive] at hli;cases hli
    |some l0=>
     have:=r.inj i j l0 lj bi bj hi0 hj0 (by show blk (H (max v (crn H i ops.size))) i=_;rw[hgg i bi hik hMi];exact hlive) hlj hMi hbj he
     omega
   ·rcases p.fresh i bi (by omega) hbi with h1|⟨id,l0,c,h1,h2,h3,h4⟩
    ·have:=r.lt j bj hbj;omega
    ·exact hfar id l0 c j lj bj h1 h2 h3 (by omega) hbj hlj (h4.trans he)
 ·intro j hj hnL x hx1 hx2 i h3 hL hji
  have hnLj: ¬Lst listed j:=fun h=>hnL ((jaH hkl).2 (.inl h))
  rcases (jaH hkl).1 hL with hL|rfl
  ·exact im.stable j hj hnLj x hx1 hx2 i h3 hL hji
  ·have hM:M x=none:=jdJ hm inv hj hnLj hx1 hx2
   have hxi:x<(H i).length:=Nat.lt_of_lt_of_le hx2 (jaE hm (by omega) (by omega))
   exact jbU (p.unt x hxi (.inl (by simp[cutM,hM])))
 ·intro x hx hn
  rw[p.frame x (Nat.lt_of_lt_of_le hx im.size) ?_,im.frame x hx hn]
  intro id li bi h1 h2 h3 he
  obtain⟨h7,h8⟩:=jav.1 h3
  by_cases h0:id<(H 0).length
  ·obtain⟨l0,hl0⟩:=jli F (by omega) h0 h2
   exact hn id l0 bi (hf id h1) hl0 (by rw[←im.keep id h0];exact h8) he
  ·rcases im.fresh id bi (by omega) h8 with h9|⟨j,lj,c,g1,g2,g3,g4⟩
   ·omega
   ·exact hn j lj c g1 g2 g3 (g4.trans he)
 ·intro id hid
  have h1:id<(H k).length:=Nat.lt_of_lt_of_le hid (jaE hm (Nat.zero_le _) (by omega))
  have h2:id<(H (k+1)).length:=by omega
  simp only[jbm,h2,decide_true,if_true]
  rw[p.keep id h1]
  simp only[cutM,h1,if_true]
  exact im.keep id hid
 ·intro id b hid hb
  by_cases h2:id<(H (k+1)).length
  ·simp only[jbm,h2,decide_true,if_true] at hb
   by_cases h1:id<(H k).length
   ·rw[p.keep id h1] at hb
    exact im.fresh id b hid (jav.1 hb).2
   ·rcases p.fresh id b (by omega) hb with h3|⟨j,lj,c,g1,g2,g3,g4⟩
    ·exact .inl (Nat.le_trans im.size h3)
    ·obtain⟨h7,h8⟩:=jav.1 g3
     by_cases h0:j<(H 0).length
     ·obtain⟨l0,hl0⟩:=jli F (by omega) h0 g2
      exact .inr ⟨j,l0,c,hf j g1,hl0,by rw[←im.keep j h0];exact h8,g4⟩
     ·rcases im.fresh j c (by omega) h8 with h9|⟨j',l',c',k1,k2,k3,k4⟩
      ·exact .inl (by omega)
      ·exact .inr ⟨j',l',c',k1,k2,k3,k4.trans g4⟩
  ·have:jbm M m' (fun x=>decide (x<(H (k+1)).length)) id=M id:=by simp[jbm,h2]
   rw[this] at hb
   exact im.fresh id b hid hb
theorem jey (hc:Comp P nt ops l)(tr:jdh C base fl l S H D)(hm: ∀i,i<ops.size→(H i).length≤(H (i+1)).length){listed:Array Bool}{M:Map}{a:Act}{w:World}(inv:InvS nt ops S H listed M a)(im:InvM n0 B0 fl ops H m0 w0 listed M w)
  {k:Nat} (hk:k<ops.size) (h3k:cl ops k≠3) (hnk: ¬Lst listed k) {hs hs':Heap} (hls:hs.length=(H k).length) (hls':hs'.length=(H (k+1)).length) (hx': ∀x,(H k).length≤x→x<(H (k+1)).length→blk hs' x=blk (H (k+1)) x) {m':Map} {w':World}
  (p:Post n0 B0 (fun _=>false) (cutM M (H k).length) hs w m' hs' w'):
  InvM n0 B0 fl ops H m0 w0 (listed.setIfInBounds k true) (jbm M m' (fun x=>decide ((H k).length≤x)&&decide (x<(H (k+1)).length))) w':=by
 obtain⟨v,hv,hw1,hw2,r⟩:=im.mem
 have hkl:k<listed.size:=by rw[inv.lsz];exact hk
 have hlk:=hm k hk
 have hnew: ∀x,(H k).length≤x→x<(H (k+1)).length→M x=none:=fun x h1 h2=>jdJ hm inv hk hnk h1 h2
 have hall: ∀x,x<w.heap.size→w'.heap[x]?=w.heap[x]?:=fun x hx=>p.frame x hx fun id li bi h=>by cases h
 refine⟨⟨v,hv,?_,?_,?_⟩,?_,p.os.trans im.os,p.tape.trans im.tape,p.output.trans im.output,Nat.le_trans im.size p.size,?_,?_,?_⟩
 ·intro i h3 hi
  exact (jaH hkl).2 (.inl (hw1 i h3 hi))
 ·intro i h3 hi hL
  rcases (jaH hkl).1 hL with hL|rfl
  ·exact hw2 i h3 hi hL
  ·exact h3k h3
 ·refine jnn p.rels.rel r p.size (fun x b hb=>?_) (fun x b hb hx=>?_) (fun x b hx hb=>?_) (fun x b hx hb=>rfl) (fun x b hx hb lx hl=>hall b.b (r.lt x b hb)) (fun i j bi bj li lj hi hj hbi hbj hi0 hj0 hli hlj=>?_)
  ·have:=p.rels.dom x b hb
   by_cases h:(H k).length≤x
   ·left;simp[h];omega
   ·right
    rw[p.keep x (by omega)] at hb
    exact (jav.1 hb).2
  ·simp at hx
   rw[hnew x hx.1 hx.2] at hb;cases hb
  ·simp at hx
   obtain⟨c1,c2,c3⟩:=jcq hm ops.size (Nat.le_refl _) (Nat.lt_of_lt_of_le hx.2 (jaE hm (show k+1≤ops.size by omega) (Nat.le_refl _)))
   have hcr:crn H x ops.size=k+1:=by
    by_cases h1:crn H x ops.size≤k
    ·have:=jaE hm h1 (by omega);omega
    ·by_cases h2:k+1<crn H x ops.size
     ·have:=c3 (k+1) h2;omega
     ·omega
   show blk (H (max v (crn H x ops.size))) x=_
   rw[hx' x hx.1 hx.2,hcr]
   refine jgj hc tr hm (Nat.le_max_right _ _) (by omega) hx.2 fun i h1 h2 h3=>?_
   exact im.stable k hk hnk x hx.1 hx.2 i h3 (hw1 i h3 (by omega)) (by omega)
  ·simp at hi
   rcases p.fresh i bi (by omega) hbi with h1|⟨_,_,_,h1,_⟩
   ·have:=r.lt j bj hbj;omega
   ·cases h1
 ·intro j hj hnL x hx1 hx2 i h3 hL hji
  have hnLj: ¬Lst listed j:=fun h=>hnL ((jaH hkl).2 (.inl h))
  rcases (jaH hkl).1 hL with hL|rfl
  ·exact im.stable j hj hnLj x hx1 hx2 i h3 hL hji
  ·exact absurd h3 h3k
 ·intro x hx hn
  rw[hall x (Nat.lt_of_lt_of_le hx im.size),im.frame x hx hn]
 ·intro id hid
  have h1:id<(H k).length:=Nat.lt_of_lt_of_le hid (jaE hm (Nat.zero_le _) (by omega))
  have: ¬(H k).length≤id:=by omega
  simp only[jbm,this,decide_false,Bool.false_and,Bool.false_eq_true,if_false]
  exact im.keep id hid
 ·intro id b hid hb
  by_cases h2:(H k).length≤id∧id<(H (k+1)).length
  ·simp only[jbm,h2,decide_true,Bool.and_self,if_true] at hb
   rcases p.fresh id b (by omega) hb with h1|⟨_,_,_,h1,_⟩
   ·exact .inl (Nat.le_trans im.size h1)
   ·cases h1
  ·have:jbm M m' (fun x=>decide ((H k).length≤x)&&decide (x<(H (k+1)).length)) id=M id:=by
    simp only[jbm]
    rw[if_neg]
    simpa using h2
   rw[this] at hb
   exact im.fresh id b hid hb
end
end
section
open Go
section
variable {P:Program}{C:jaG}{n0 B0 nt base:Nat}{fl:Nat→Bool}{ops:Array Oper}{l:List jap}{S:Nat→jah}{H:Nat→Heap}{D:Nat→Seen}{m0:Map}{w0:World}
theorem jkz {x:AOp}(h:clsA x=3):heavy x=true:=by cases x<;>first|rfl|(simp[clsA] at h)
theorem jqO (tr:jdh C base fl l S H D){x:Nat}: ∀(d i:Nat),i+d≤l.length→x∈(D i).rs→x∈(D (i+d)).rs
 |0,i,_,h=>h
 |d+1,i,hi,h=>by
  have h1:x∈(D (i+1)).rs:=by
   rcases tr.step i (l[i]'(by omega)) (List.getElem?_eq_getElem _) with⟨_,v,_,_,hD⟩|⟨_,_,_,hD⟩
   ·rw[hD]
    unfold Seen.with
    split
    ·exact h
    ·simp[h]
   ·rw[hD];exact h
  have:=jqO tr d (i+1) (by omega) h1
  rwa [show i+(d+1)=i+1+d by omega]
theorem pr_sub (tr:jdh C base fl l S H D){i:Nat}{o:jap}(ho:l[i]?=some o)(hw:jaR o (S i)=some true)(hiso:o.iso=false)(hh:heavy o.op=true): ∀(d:Nat),i+1+d≤l.length→
  ∃q,(D (i+1+d)).pr=some q∧ ∀x∈q,x∈jbA fl (D i) o (l.drop (i+1)) (S i) (H i)
 |0,hd=>by
  rcases tr.step i o ho with⟨_,v,_,_,hD⟩|⟨hw',_⟩
  ·rw[Nat.add_zero,hD]
   simp only[Seen.with,hiso,Bool.false_eq_true,if_false,hh,if_true]
   split
   ·exact⟨_,rfl,fun x hx=>hx⟩
   ·exact⟨_,rfl,fun x hx=>by simpa using (List.mem_filter.1 hx).2⟩
  ·rw[hw] at hw';cases hw'
 |d+1,hd=>by
  obtain⟨q,h1,h2⟩:=pr_sub tr ho hw hiso hh d (by omega)
  rw[show i+1+(d+1)=i+1+d+1 by omega]
  rcases tr.step (i+1+d) (l[i+1+d]'(by omega)) (List.getElem?_eq_getElem _) with⟨_,v,_,_,hD⟩|⟨_,_,_,hD⟩
  ·rw[hD]
   unfold Seen.with
   split
   ·exact⟨q,h1,h2⟩
   ·simp only
    split
    ·simp only[h1]
     exact⟨_,rfl,fun x hx=>h2 x (List.mem_filter.1 hx).1⟩
    ·exact⟨q,h1,h2⟩
  ·rw[hD];exact⟨q,h1,h2⟩
theorem jgn {M:Map}{g:Nat→Option (List AV)}{w:World}(r:Rel n0 B0 M g w)(n:Nat)(hn:n0≤n):Rels n0 B0 (cutM M n) (List.replicate n none) w:=by
 have hb: ∀x lx,blk (List.replicate n none) x=some lx→False:=fun x lx h=>by
  rw[jby,List.getElem?_replicate] at h
  split at h<;>simp at h
 exact⟨⟨r.base,fun x b h=>r.lt x b (jav.1 h).2,fun x lx b h=>(hb x lx h).elim,fun x lx b h=>(hb x lx h).elim,fun x lx b _ h=>(hb x lx h).elim,fun x b hx h=>r.ro x b hx (jav.1 h).2,fun i j li lj bi bj _ _ h=>(hb i li h).elim,fun x lx b h=>(hb x lx h).elim,r.gl⟩,
  fun x b h=>by simpa using (jav.1 h).1,by simpa using hn⟩
theorem jlC {M:Map}{g:Nat→Option (List AV)}{w:World}(r:Rel n0 B0 M g w)(n:Nat)(hn:n0≤n){id:Nat}{lx:List AV}(hid:id<n)(hg:g id=some lx)(hv: ∀b,M id=some b→ ∀(i:Nat) v u,lx[i]?=some v→VR M v u→VR (cutM M n) v u):
  Rels n0 B0 (cutM M n) ((List.replicate n none).set id (some lx)) w:=by
 have hb: ∀x lx',blk ((List.replicate n none).set id (some lx)) x=some lx'→x=id∧lx'=lx:=fun x lx' h=>by
  rw[jby,List.getElem?_set] at h
  split at h
  ·rename_i e
   subst e
   simp[hid] at h
   exact⟨rfl,h.symm⟩
  ·rw[List.getElem?_replicate] at h
   split at h<;>simp at h
 refine⟨⟨r.base,fun x b h=>r.lt x b (jav.1 h).2,?_,?_,?_,fun x b hx h=>r.ro x b hx (jav.1 h).2,?_,?_,r.gl⟩,fun x b h=>by simpa using (jav.1 h).1,by simpa using hn⟩
 ·intro x lx' b h hm i v hvi
  obtain⟨rfl,rfl⟩:=hb x lx' h
  obtain⟨v',h1,h2⟩:=r.cell x lx' b hg (jeY hm) i v hvi
  exact⟨v',h1,hv b (jav.1 hm.1).2 i v v' hvi h2⟩
 ·intro x lx' b h hm
  obtain⟨rfl,rfl⟩:=hb x lx' h
  exact r.one x lx' b hg (jeY hm)
 ·intro x lx' b hx h hm
  obtain⟨rfl,rfl⟩:=hb x lx' h
  exact r.own x lx' b hx hg (jeY hm)
 ·intro i j li lj bi bj _ _ hli hlj _ _ _
  rw[(hb i li hli).1,(hb j lj hlj).1]
 ·intro x lx' b h hm
  obtain⟨rfl,rfl⟩:=hb x lx' h
  obtain⟨h1,h2,es,ck,h3,h4⟩:=r.mp x lx' b hg (jrX hm)
  exact⟨h1,h2,es,ck,h3,h4.turn fun i v u hvi h5=>hv b (jav.1 hm.1).2 i v u hvi h5⟩
theorem jr4 {O:Oper}{k:Nat}(hO:ops[k]?=some O):cl ops k=jgQ O.op:=by simp[cl,hO]
theorem load_cur (hc:Comp P nt ops l)(dr:Draw ops l)(tr:jdh C base fl l S H D)(F:je5 n0 B0 nt base fl ops l S H D m0 w0)(hm: ∀i,i<ops.size→(H i).length≤(H (i+1)).length){listed:Array Bool}
  (hclosed: ∀(k:Nat) O,ops[k]?=some O→Lst listed k→ ∀e∈jch O,Lst listed e) {k:Nat} {O:Oper} {o:jap} (hO:ops[k]?=some O) (ho:l[k]?=some o) (hk1:cl ops k=1) (hnk: ¬Lst listed k) (he: ∀e∈jch O,Lst listed e)
  (hw:jaR o (S k)=some true) {x:Nat} (hx:x<(H k).length) (hsee:x∈sees (S k) o.op) (hsh:o.iso=false→jaS (some (base,(D k).pr)) x=true) {v:Nat} (hv:v≤ops.size) (hw1: ∀i,cl ops i=3→i<v→Lst listed i) (hw2: ∀i,cl ops i=3→v≤i→ ¬Lst listed i):
  blk (H (max v (crn H x ops.size))) x=blk (H k) x:=by
 have hks:k<ops.size:=(Array.getElem?_eq_some_iff.1 hO).1
 have hready: ∀O',ops[k]?=some O'→ ∀e∈jch O',Lst listed e:=fun O' h=>by rw[hO] at h;injection h with h;subst h;exact he
 obtain⟨c1,c2,c3⟩:=jcq hm ops.size (Nat.le_refl _) (Nat.lt_of_lt_of_le hx (jaE hm (show k≤ops.size by omega) (Nat.le_refl _)))
 have hck:crn H x ops.size≤k:=by
  by_cases h:crn H x ops.size≤k
  ·exact h
  ·have:=c3 k (by omega);omega
 -- a heavy one that leaves x alone
 have quiet: ∀i,i<ops.size→cl ops i=3→x<(H i).length→(∀oi,l[i]?=some oi→Ord ops i k→False)→(∀oi,l[i]?=some oi→jaR oi (S i)=some true→oi.iso=false→o.iso=false→x∈jbA fl (D i) oi (l.drop (i+1)) (S i) (H i))→blk (H (i+1)) x=blk (H i) x:=by
  intro i hi h3 hxi hno hforb
  obtain⟨Oi,hOi⟩: ∃O,ops[i]?=some O:=⟨ops[i]'hi,Array.getElem?_eq_getElem _⟩
  obtain⟨oi,hoi,_⟩:=hc.at_ i Oi hOi
  have hik:i≠k:=by intro e;subst e;rw[hk1] at h3;cases h3
  obtain⟨m,w,m',w',rr,pp⟩:=F.step i oi hoi hi
  by_cases hwi:jaR oi (S i)=some true
  ·rw[if_pos hwi] at pp
   cases hiso:oi.iso with
   |true=>
    have:=(dr.iso i oi hoi hiso k (Ne.symm hik)).2 h3 hk1
    -- Ord k i
    exfalso
    refine hno oi hoi ?_
    unfold Ord at this ⊢
    by_cases h:i<k
    ·rw[if_pos h];rw[if_neg (by omega)] at this;exact this
    ·rw[if_neg h];rw[if_pos (by omega)] at this;exact this
   |false=>
    cases hisok:o.iso with
    |true=>
     have:=(dr.iso k o ho hisok i hik).1 hk1 h3
     exact (hno oi hoi this).elim
    |false=>
     have hin:=hforb oi hoi hwi hiso hisok
     refine jbU (pp.unt x hxi (.inr ?_))
     simp[ja6,hiso,hin]
  ·rw[if_neg hwi] at pp
   exact jbU (pp.unt x hxi (.inr rfl))
 by_cases hle:max v (crn H x ops.size)≤k
 ·symm
  refine jgj hc tr hm hle (by omega) (Nat.lt_of_lt_of_le c2 (jaE hm (Nat.le_max_right _ _) (by omega))) fun i h1 h2 h3=>?_
  have hvi:v≤i:=by omega
  refine quiet i (by omega) h3 (Nat.lt_of_lt_of_le c2 (jaE hm (by omega) (by omega))) ?_ ?_
  ·intro oi hoi hord
   unfold Ord at hord
   rw[if_pos h2] at hord
   exact hw2 i h3 hvi (hord.ready hclosed hready)
  ·intro oi hoi hwi hiso hisok
   have hOi:ops[i]?=some (ops[i]'(by omega)):=Array.getElem?_eq_getElem _
   obtain⟨oi',hoi',hop,_⟩:=hc.at_ i _ hOi
   rw[hoi] at hoi';injection hoi' with hoi';subst hoi'
   have hh:heavy oi.op=true:=by
    cases hcx:cOp P (ops[i]'(by omega)) with
    |none=>
     exfalso
     rw[hcx] at hop
     rcases tr.step i oi hoi with⟨_,v0,hr,_⟩|⟨hw',_⟩
     ·unfold jbI at hr
      rw[hop] at hr
      simp[jag] at hr
     ·rw[hwi] at hw';cases hw'
    |some y=>
     rw[hcx] at hop
     simp only[Option.getD_some] at hop
     rw[hop]
     exact jkz (by rw[jfR hcx,← jr4 hOi];exact h3)
   obtain⟨q,h4,h5⟩:=pr_sub tr hoi hwi hiso hh (k - (i+1)) (by rw[hc.len];omega)
   rw[show i+1+(k - (i+1))=k by omega] at h4
   have hs:=hsh hisok
   simp only[jaS,h4,Bool.and_eq_true] at hs
   exact h5 x (by simpa using hs.2)
 ·have hvk:k<v:=by omega
  rw[Nat.max_eq_left (by omega)]
  refine jgj hc tr hm (by omega) hv hx fun i h1 h2 h3=>?_
  have hik:i≠k:=by intro e;subst e;rw[hk1] at h3;cases h3
  refine quiet i (by omega) h3 (Nat.lt_of_lt_of_le hx (jaE hm h1 (by omega))) ?_ ?_
  ·intro oi hoi hord
   unfold Ord at hord
   rw[if_neg (by omega)] at hord
   exact hnk (hord.closed hclosed (hw1 i h3 h2))
  ·intro oi hoi hwi hiso hisok
   have hOi:ops[i]?=some (ops[i]'(by omega)):=Array.getElem?_eq_getElem _
   obtain⟨oi',hoi',hop,_⟩:=hc.at_ i _ hOi
   rw[hoi] at hoi';injection hoi' with hoi';subst hoi'
   have hh:heavy oi.op=true:=by
    cases hcx:cOp P (ops[i]'(by omega)) with
    |none=>
     exfalso
     rw[hcx] at hop
     rcases tr.step i oi hoi with⟨_,v0,hr,_⟩|⟨hw',_⟩
     ·unfold jbI at hr
      rw[hop] at hr
      simp[jag] at hr
     ·rw[hwi] at hw';cases hw'
    |some y=>
     rw[hcx] at hop
     simp only[Option.getD_some] at hop
     rw[hop]
     exact jkz (by rw[jfR hcx,← jr4 hOi];exact h3)
   have hrs:x∈(D (k+1)).rs:=by
    rcases tr.step k o ho with⟨_,v0,_,_,hD⟩|⟨hw',_⟩
    ·rw[hD];simp[Seen.with,hisok,hsee]
    ·rw[hw] at hw';cases hw'
   have:=jqO tr (i - (k+1)) (k+1) (by rw[hc.len];omega) hrs
   rw[show k+1+(i - (k+1))=i by omega] at this
   simp[jbA,hiso,hh,this]
end
end
section
open Go
section
variable {P:Program}{C:jaG}{n0 B0 nt base:Nat}{fl:Nat→Bool}{ops:Array Oper}{l:List jap}{S:Nat→jah}{H:Nat→Heap}{D:Nat→Seen}{m0:Map}{w0:World}
theorem jhY {M:Map}{n:Nat}(p:Nat→Bool)(hp: ∀x,p x=true→x<n):jbm M (cutM M n) p=M:=by
 funext x
 unfold jbm
 split
 ·rename_i h;unfold cutM;rw[if_pos (hp x h)]
 ·rfl
theorem jrS (hC:jbo P C)(hfl: ∀id,fl id=true→n0≤id)(hc:Comp P nt ops l)(dr:Draw ops l)(tr:jdh C base fl l S H D)(F:je5 n0 B0 nt base fl ops l S H D m0 w0)(hm: ∀i,i<ops.size→(H i).length≤(H (i+1)).length)(hn0:n0≤(H 0).length)
  {listed:Array Bool} {M:Map} {a:Act} {w:World} (inv:InvS nt ops S H listed M a) (im:InvM n0 B0 fl ops H m0 w0 listed M w) {k:Nat} (hk:k∈Region.ready .any ops listed) {K:Act→World→Prop} {Q:Exit→Act→World→Prop}
  (hK: ∀M' a' w',InvS nt ops S H (listed.setIfInBounds k true) M' a'→InvM n0 B0 fl ops H m0 w0 (listed.setIfInBounds k true) M' w'→a'.defers=a.defers→K a' w'):wpOp P ops Q k K a w:=by
 obtain⟨hnl,O,hO,hedge⟩:=mem_ready.1 hk
 have hks:k<ops.size:=(Array.getElem?_eq_some_iff.1 hO).1
 have hkl:k<listed.size:=by rw[inv.lsz];exact hks
 have hnk: ¬Lst listed k:=by
  unfold Lst
  simp only[Array.getD_eq_getD_getElem?,Array.getElem?_eq_getElem hkl,Option.getD_some] at hnl ⊢
  rw[hnl];simp
 have he: ∀e∈jch O,Lst listed e:=fun e hee=>by
  unfold jch at hee
  obtain⟨x,hx,rfl⟩:=List.mem_map.1 hee
  obtain⟨h1,h2⟩:=List.mem_filter.1 hx
  exact hedge x (by simpa using h1) h2
 have hready: ∀O',ops[k]?=some O'→ ∀e∈jch O',Lst listed e:=fun O' h=>by rw[hO] at h;injection h with h;subst h;exact he
 obtain⟨o,ho,hop,hdst,hg,hd⟩:=hc.at_ k O hO
 have hdef: ∀v,(a.put O.dst v).defers=a.defers:=fun v=>by cases O.dst<;>rfl
 have hslot: ∀t,t∈looks ops O→VR (cutM M (H k).length) (S k t) (a.tmps.getD t undef):=fun t ht=>jph F (by omega) (jeP hc dr tr inv hO hnk he ht)
 have hopd: ∀y∈O.op.operands.toList,∀ z,cOpd y=some z→VR (cutM M (H k).length) (z.ev (S k)) (a.eval y):=fun y hy z hz=>jeH hz fun t ht=>by
  subst ht
  exact hslot t (jkm hy)
 -- heavy ones around a heavy one
 have hv1:cl ops k=3→ ∀i,cl ops i=3→i<k→Lst listed i:=fun h3 i hi hik=>by
  have:=dr.heavy k i (by omega) h3 hi
  unfold Ord at this
  rw[if_pos hik] at this
  exact this.ready inv.closed hready
 have hv2:cl ops k=3→ ∀i,cl ops i=3→k<i→ ¬Lst listed i:=fun h3 i hi hik hL=>by
  have:=dr.heavy k i (by omega) h3 hi
  unfold Ord at this
  rw[if_neg (by omega)] at this
  exact hnk (this.closed inv.closed hL)
 have hgk:cl ops k=3→ ∀x b,M x=some b→x<(H k).length→ ∀v,(∀i,cl ops i=3→i<v→Lst listed i)→(∀i,cl ops i=3→v≤i→ ¬Lst listed i)→v≤ops.size→blk (H (max v (crn H x ops.size))) x=blk (H k) x:=by
  intro h3 x b hMx hx v w1 w2 hv
  obtain⟨c1,c2,c3⟩:=jcq hm ops.size (Nat.le_refl _) (Nat.lt_of_lt_of_le hx (jaE hm (show k≤ops.size by omega) (Nat.le_refl _)))
  have hck:crn H x ops.size≤k:=by
   by_cases h:crn H x ops.size≤k
   ·exact h
   ·have:=c3 k (by omega);omega
  have hvk:v≤k:=by
   by_cases h:v≤k
   ·exact h
   ·exact absurd (w1 k h3 (by omega)) hnk
  symm
  refine jgj hc tr hm (by omega) (by omega) (Nat.lt_of_lt_of_le c2 (jaE hm (Nat.le_max_right _ _) (by omega))) fun i h1 h2 hi3=>?_
  exact absurd (hv1 h3 i hi3 h2) (w2 i hi3 (by omega))
 -- one that is left out, or changes nothing
 have still:H (k+1)=H k→ ∀v',(∀t,O.dst=some t→VR (cutM M (H k).length) (S (k+1) t) v')→K (a.put O.dst v') w:=by
  intro hH v' hv'
  refine hK M _ _ ?_ ?_ (hdef v')
  ·exact jcR hc dr inv hO hnk he (fun _ _ h=>h) (fun _ _ h=> .inl h) (fun t ht=>(hv' t ht).mono fun id b h=>(jav.1 h).2) (fun x h1 h2=>by rw[hH] at h2;omega)
  ·by_cases h3:cl ops k=3
   ·have rr:=jhM F hm inv im hn0 hks (hgk h3)
    have pp:Post n0 B0 fl (cutM M (H k).length) (H k) w (cutM M (H k).length) (H (k+1)) w:=by rw[hH];exact .refl rr
    have:=jks F hfl hm inv im hn0 hks h3 hnk (fun _ h=>h) pp (hv1 h3) (hv2 h3) (hgk h3)
    rwa [jhY _ (fun x hx=>by rw[hH] at hx;simpa using hx)] at this
   ·obtain⟨v,_,_,_,r⟩:=im.mem
    have rr:=jgn r (H k).length (Nat.le_trans hn0 (jaE hm (Nat.zero_le _) (by omega)))
    have:=jey hc tr hm inv im hks h3 hnk (hs:=List.replicate (H k).length none) (hs':=List.replicate (H k).length none) (by simp) (by rw[hH];simp) (fun x h1 h2=>by rw[hH] at h2;omega) (.refl rr)
    rwa [jhY _ (fun x hx=>by rw[hH] at hx;simp at hx;omega)] at this
 unfold wpOp
 rw[hO]
 simp only
 rcases tr.step k o ho with⟨hw,v,hrun,hS,hD⟩|⟨hw,hH,hS,hD⟩
 ·rw[jbq hg (fun t b hgt=>(jeP hc dr tr inv hO hnk he (jb8 hg hgt))) hw]
  simp only[if_true]
  left
  have hSt: ∀t,O.dst=some t→S (k+1) t=v:=fun t ht=>by rw[hS,jcV,hdst,if_pos ht]
  by_cases h3:cl ops k=3
  ·have rr:=jhM F hm inv im hn0 hks (hgk h3)
   refine jdw hC hop hrun rr hfl hopd fun v' w' m' pp hv=>?_
   have hmono: ∀x b,M x=some b→jbm M m' (fun x=>decide (x<(H (k+1)).length)) x=some b:=fun x b hb=>by
    unfold jbm
    split
    ·rename_i hx
     simp only[decide_eq_true_eq] at hx
     by_cases hxk:x<(H k).length
     ·rw[pp.keep x hxk];exact jav.2 ⟨hxk,hb⟩
     ·rw[jdJ hm inv hks hnk (by omega) hx] at hb;cases hb
    ·exact hb
   refine hK _ _ _ (jcR hc dr inv hO hnk he hmono (fun x b hb => ?_) (fun t ht => ?_) (fun x h1 h2 => by
    simp only[jbm,h2,decide_true,if_true]
    exact pp.new x h1 h2)) (jks F hfl hm inv im hn0 hks h3 hnk jcA pp (hv1 h3) (hv2 h3) (hgk h3)) (hdef v')
   ·unfold jbm at hb
    split at hb
    ·rename_i hx
     simp only[decide_eq_true_eq] at hx
     by_cases hxk:x<(H k).length
     ·rw[pp.keep x hxk] at hb;exact .inl (jav.1 hb).2
     ·exact .inr ⟨by omega,hx⟩
    ·exact .inl hb
   ·rw[hSt t ht]
    exact hv.mono fun id b hb=>by
     have:=pp.rels.dom id b hb
     simp[jbm,this,hb]
  ·cases hcx:cOp P O with
   |none=>
    exfalso
    rw[hcx] at hop
    unfold jbI at hrun
    rw[hop] at hrun
    simp[jag] at hrun
   |some x=>
    rw[hcx] at hop
    simp only[Option.getD_some] at hop
    have hcls:=jfR hcx
    rw[←jr4 hO] at hcls
    have hrun':jag (if o.iso then none else some (base,(D k).pr)) (ja6 fl o (jbA fl (D k) o (l.drop (k+1)) (S k) (H k))) (S k) (H k) x=some (v,H (k+1)):=by
     unfold jbI at hrun
     split at hrun
     ·rename_i f args heq
      rw[heq] at hop
      subst hop
      exact absurd hcls.symm h3
     ·rw[hop] at hrun;exact hrun
    obtain⟨cv,cvle,cw1,cw2,r⟩:=im.mem
    have hn0k:n0≤(H k).length:=Nat.le_trans hn0 (jaE hm (Nat.zero_le _) (by omega))
    have hb:clsA x=0∨clsA x=1∨clsA x=2:=by
     have:clsA x=0∨clsA x=1∨clsA x=2∨clsA x=3:=by cases x<;>simp[clsA]
     rcases this with h|h|h|h
     ·exact .inl h
     ·exact .inr (.inl h)
     ·exact .inr (.inr h)
     ·exact absurd (hcls.symm.trans h) h3
    have nofl: ∀id,(fun _:Nat=>false) id=true→n0≤id:=fun id h=>by cases h
    rcases hb with hb|hb|hb
    ·-- touches nothing
     obtain⟨hH,hall⟩:=jke hb hrun'
     refine jni hcx (hall (fun _=>false) (List.replicate (H k).length none)) (jgn r (H k).length hn0k) nofl hopd fun v' w' m' pp hv=>?_
     have hm': ∀id b,m' id=some b→cutM M (H k).length id=some b:=fun id b hb=>by
      have:=pp.rels.dom id b hb
      rw[pp.keep id this] at hb;exact hb
     have:=jey hc tr hm inv im hks h3 hnk (hs:=List.replicate (H k).length none) (hs':=List.replicate (H k).length none) (by simp) (by rw[hH];simp) (fun x h1 h2=>by rw[hH] at h2;omega) pp
     have hj:jbm M m' (fun x=>decide ((H k).length≤x)&&decide (x<(H (k+1)).length))=M:=by
      funext x
      unfold jbm
      rw[if_neg]
      rw[hH];simp
     rw[hj] at this
     refine hK M _ _ (jcR hc dr inv hO hnk he (fun _ _ h=>h) (fun _ _ h=> .inl h) (fun t ht=>?_) (fun x h1 h2=>by rw[hH] at h2;omega)) this (hdef v')
     rw[hSt t ht]
     exact (hv.mono hm').mono fun id b h=>(jav.1 h).2
    ·-- reads
     cases x<;>first|(simp[clsA] at hb;done)|skip
     rename_i n x'
     obtain⟨hH,id,off,lx,hptr,hsh,hlx,hall⟩:=jeB hrun'
     have hidk:=ja1 hlx
     have hcur:blk (H (max cv (crn H id ops.size))) id=some lx:=by
      rw[load_cur hc dr tr F hm inv.closed hO ho (by rw[←hcls];rfl) hnk he hw hidk (by rw[hop];simp[sees,hptr,idOf]) (fun hi=>by rw[hi] at hsh;simpa using hsh) cvle cw1 cw2]
      exact hlx
     have rr := jlC r (H k).length hn0k hidk hcur (fun b hMb i u y hu hy => by
      refine jg2 F (by omega) hlx hu ?_ hy
      by_cases h0:id<(H 0).length
      ·left;rw[←im.keep id h0,hMb];simp
      ·right;omega)
     have hb2:blk ((List.replicate (H k).length none).set id (some lx)) id=some lx:=by
      rw[jby,List.getElem?_set];simp[hidk]
     refine jni hcx (hall (fun _=>false) _ hb2) rr nofl hopd fun v' w' m' pp hv=>?_
     have hm': ∀id b,m' id=some b→cutM M (H k).length id=some b:=fun id b hb=>by
      have:=pp.rels.dom id b hb
      rw[pp.keep id this] at hb;exact hb
     have:=jey hc tr hm inv im hks h3 hnk (by simp) (by rw[hH];simp) (fun x h1 h2=>by rw[hH] at h2;omega) pp
     have hj:jbm M m' (fun x=>decide ((H k).length≤x)&&decide (x<(H (k+1)).length))=M:=by
      funext x
      unfold jbm
      rw[if_neg]
      rw[hH];simp
     rw[hj] at this
     refine hK M _ _ (jcR hc dr inv hO hnk he (fun _ _ h=>h) (fun _ _ h=> .inl h) (fun t ht=>?_) (fun x h1 h2=>by rw[hH] at h2;omega)) this (hdef v')
     rw[hSt t ht]
     exact (hv.mono hm').mono fun id b h=>(jav.1 h).2
    ·-- makes
     obtain⟨lx,hH,hall⟩:=jiC hb hrun'
     refine jni hcx (hall (fun _=>false) (List.replicate (H k).length none) (by simp)) (jgn r (H k).length hn0k) nofl hopd fun v' w' m' pp hv=>?_
     have hx': ∀x,(H k).length≤x→x<(H (k+1)).length→blk (List.replicate (H k).length none++[some lx]) x=blk (H (k+1)) x:=fun x h1 h2=>by
      rw[hH] at h2 ⊢
      simp at h2
      obtain rfl:x=(H k).length:=by omega
      rw[jaI,jby.2]
      rw[List.getElem?_append_right (by simp)]
      simp
     have:=jey hc tr hm inv im hks h3 hnk (by simp) (by rw[hH];simp) hx' pp
     have hmono: ∀x b,M x=some b→jbm M m' (fun x=>decide ((H k).length≤x)&&decide (x<(H (k+1)).length)) x=some b:=fun x b hb=>by
      unfold jbm
      split
      ·rename_i hx
       simp at hx
       rw[jdJ hm inv hks hnk hx.1 hx.2] at hb;cases hb
      ·exact hb
     refine hK _ _ _ (jcR hc dr inv hO hnk he hmono (fun x b hb => ?_) (fun t ht => ?_) (fun x h1 h2 => by
      simp only[jbm,h1,h2,decide_true,Bool.and_self,if_true]
      exact pp.new x (by simpa using h1) (by rw[hH] at h2;simpa using h2))) this (hdef v')
     ·unfold jbm at hb
      split at hb
      ·rename_i hx
       simp at hx
       exact .inr hx
      ·exact .inl hb
     ·rw[hSt t ht]
      refine hv.mono fun id b hb=>?_
      have hid:=pp.rels.dom id b hb
      unfold jbm
      split
      ·exact hb
      ·rename_i hx
       simp at hx hid
       have h1:id<(H k).length:=by
        by_cases h:id<(H k).length
        ·exact h
        ·have:=hx (by omega)
         rw[hH] at this
         simp at this
         omega
       rw[pp.keep id (by simpa using h1)] at hb
       exact (jav.1 hb).2
 ·rw[jbq hg (fun t b hgt=>(jeP hc dr tr inv hO hnk he (jb8 hg hgt))) hw]
  simp only[Bool.false_eq_true,if_false]
  refine still hH undef fun t ht=>?_
  rw[hS,jcV,hdst,if_pos ht]
  exact VRs.no
theorem Rel.congr {M:Map}{g g':Nat→Option (List AV)}{w:World}(r:Rel n0 B0 M g w)(h: ∀x b,M x=some b→g' x=g x):Rel n0 B0 M g' w:=
 ⟨r.base, r.lt, fun x lx b hl hb => r.cell x lx b (by rw [← h x b hb.1]; exact hl) hb, fun x lx b hl hb => r.one x lx b (by rw [← h x b hb.1]; exact hl) hb, fun x lx b hx hl hb => r.own x lx b hx (by rw [← h x b hb.1]; exact hl) hb, r.ro,
  fun i j li lj bi bj hi hj hli hlj hbi hbj=>r.inj i j li lj bi bj hi hj (by rw[←h i bi hbi];exact hli) (by rw[←h j bj hbj];exact hlj) hbi hbj,
  fun x lx b hl hb=>r.mp x lx b (by rw[←h x b hb.1];exact hl) hb,r.gl⟩
theorem draw_end (hc:Comp P nt ops l)(dr:Draw ops l)(tr:jdh C base fl l S H D)(F:je5 n0 B0 nt base fl ops l S H D m0 w0)(hm: ∀i,i<ops.size→(H i).length≤(H (i+1)).length)(hn0:n0≤(H 0).length)
  {listed:Array Bool} {M:Map} {a:Act} {w:World} (inv:InvS nt ops S H listed M a) (im:InvM n0 B0 fl ops H m0 w0 listed M w) (hall: ∀i,i<ops.size→Lst listed i):
  Post n0 B0 fl m0 (H 0) w0 M (H ops.size) w∧SR nt M (S ops.size) a:=by
 obtain⟨m,w1,a1,p,s⟩:=F.seq ops.size (Nat.le_refl _)
 obtain⟨v,hv,w1',w2',r⟩:=im.mem
 refine⟨⟨⟨r.congr fun x b hb=>?_,fun x b hb=>jrU hm inv hb,Nat.le_trans hn0 (jaE hm (Nat.zero_le _) (Nat.le_refl _))⟩,jaE hm (Nat.zero_le _) (Nat.le_refl _),im.keep,im.os,im.tape,im.output,im.size,im.frame,fun id b h1 h2=>im.fresh id b h1 h2,?_,p.dead,?_⟩,inv.asz,fun t=>?_⟩
 ·have hx:=jrU hm inv hb
  obtain⟨c1,c2,c3⟩:=jcq hm ops.size (Nat.le_refl _) hx
  refine jgj hc tr hm (by omega) (Nat.le_refl _) (Nat.lt_of_lt_of_le c2 (jaE hm (Nat.le_max_right _ _) (by omega))) fun i h1 h2 h3=>?_
  exact absurd (hall i h2) (w2' i h3 (by omega))
 ·intro id hid hh
  exact p.unt id hid hh
 ·intro x h1 h2
  obtain⟨c1,c2,c3⟩:=jcq hm ops.size (Nat.le_refl _) h2
  have hpos:0<crn H x ops.size:=by
   by_cases h:crn H x ops.size=0
   ·rw[h] at c2;omega
   ·omega
  have h3:=c3 (crn H x ops.size - 1) (by omega)
  exact inv.made (crn H x ops.size - 1) (by omega) (hall _ (by omega)) x h3 (by rw[show crn H x ops.size - 1+1=crn H x ops.size by omega];exact c2)
 ·by_cases hw: ∃(i:Nat) (p:Oper),ops[i]?=some p∧p.dst=some t
  ·obtain⟨i,p,hp,hpd⟩:=hw
   have hi:i<ops.size:=(Array.getElem?_eq_some_iff.1 hp).1
   have:=jdu hc tr (t:=t) (ops.size - (i+1)) (i+1) (by omega) (fun j q h1 h2 hq=>(dr.data j i q p t hq hp (by omega) hpd).1)
   rw[show i+1+(ops.size - (i+1))=ops.size by omega] at this
   rw[this]
   exact inv.slotL i p t hp hpd (hall i hi)
  ·have:=jdu hc tr (t:=t) ops.size 0 (by omega) (fun j q h1 h2 hq hqd=>hw ⟨j,q,hq,hqd⟩)
   rw[Nat.zero_add] at this
   rw[this]
   exact inv.slotN t fun i p hp hpd=>absurd ⟨i,p,hp,hpd⟩ hw
def unl (ops:Array Oper)(listed:Array Bool):Nat:=(List.range ops.size).countP fun i=> !listed.getD i false
theorem jh9 {p q:Nat→Bool}{k:Nat}(hne: ∀i,i≠k→q i=p i)(hp:p k=true)(hq:q k=false): ∀(xs:List Nat),xs.Nodup→(k∈xs→xs.countP p=xs.countP q+1)∧(k∉xs→xs.countP p=xs.countP q)
 |[],_=>⟨fun h=>by simp at h,fun _=>rfl⟩
 |x::xs,hn=>by
  obtain⟨h1,h2⟩:=List.nodup_cons.1 hn
  obtain⟨ih1,ih2⟩:=jh9 hne hp hq xs h2
  constructor
  ·intro hk
   by_cases e:x=k
   ·subst e
    rw[List.countP_cons_of_pos hp,List.countP_cons_of_neg (by simp[hq]),ih2 h1]
   ·have hkx:k∈xs:=by
     rcases List.mem_cons.1 hk with h|h
     ·exact absurd h.symm e
     ·exact h
    rw[List.countP_cons,List.countP_cons,hne x e,ih1 hkx];omega
  ·intro hk
   have e:x≠k:=fun e=>hk (by simp[e])
   have hkx:k∉xs:=fun h=>hk (by simp[h])
   rw[List.countP_cons,List.countP_cons,hne x e,ih2 hkx]
theorem jqp {listed:Array Bool}{k:Nat}(hk:k<ops.size)(hl:listed.size=ops.size)(hn: ¬Lst listed k):unl ops listed=unl ops (listed.setIfInBounds k true)+1:=by
 unfold unl
 refine (jh9 (k:=k) (fun i hi=>?_) ?_ ?_ _ List.nodup_range).1 (List.mem_range.2 hk)
 ·simp only[Array.getD_eq_getD_getElem?,Array.getElem?_setIfInBounds]
  rw[if_neg (Ne.symm hi)]
 ·show (!listed.getD k false)=true
  rw[Bool.eq_false_iff.2 hn];rfl
 ·simp[Array.getD_eq_getD_getElem?,hl,hk]
theorem jiY (dr:Draw ops l){listed:Array Bool}(hl:listed.size=ops.size): ∀(n k:Nat),k<n→k<ops.size→ ¬Lst listed k→ ∃j,j∈Region.ready .any ops listed
 |0,k,h,_,_=>absurd h (by omega)
 |n+1,k,h,hk,hn=>by
  have hO:ops[k]?=some (ops[k]'hk):=Array.getElem?_eq_getElem _
  by_cases hall: ∀e∈jch ops[k],Lst listed e
  ·refine⟨k,mem_ready.2 ⟨?_,_,hO,fun e he hb=>?_⟩⟩
   ·unfold Lst at hn
    simp only[Array.getD_eq_getD_getElem?] at hn ⊢
    rw[Array.getElem?_eq_getElem (by rw[hl];exact hk)] at hn ⊢
    simpa using hn
   ·exact hall e.on (List.mem_map.2 ⟨e,List.mem_filter.2 ⟨by simpa using he,hb⟩,rfl⟩)
  ·simp only[Classical.not_forall] at hall
   obtain⟨e,he,hne⟩:=hall
   have:=dr.edge k _ hO e he
   exact jiY dr hl n e (by omega) (by omega) hne
theorem draw_all (hC:jbo P C)(hfl: ∀id,fl id=true→n0≤id)(hc:Comp P nt ops l)(dr:Draw ops l)(tr:jdh C base fl l S H D)(F:je5 n0 B0 nt base fl ops l S H D m0 w0)(hm: ∀i,i<ops.size→(H i).length≤(H (i+1)).length)(hn0:n0≤(H 0).length)
  {defs:List Deferred} {Q:Exit→Act→World→Prop} (hQ: ∀M a w,Post n0 B0 fl m0 (H 0) w0 M (H ops.size) w→SR nt M (S ops.size) a→a.defers=defs→Q .normal a w):
  ∀(fuel:Nat) (listed:Array Bool) (M:Map) (a:Act) (w:World),unl ops listed=fuel→InvS nt ops S H listed M a→InvM n0 B0 fl ops H m0 w0 listed M w→a.defers=defs→wpAny P .any ops Q fuel listed a w:=by
 intro fuel
 have fin: ∀(listed:Array Bool) (M:Map) (a:Act) (w:World),Region.ready .any ops listed=[]→InvS nt ops S H listed M a→InvM n0 B0 fl ops H m0 w0 listed M w→a.defers=defs→Q .normal a w:=by
  intro listed M a w hr inv im hda
  have hall: ∀i,i<ops.size→Lst listed i:=fun i hi=>by
   by_cases h:Lst listed i
   ·exact h
   ·obtain⟨j,hj⟩:=jiY dr inv.lsz (i+1) i (by omega) hi h
    rw[hr] at hj;cases hj
  obtain⟨p,s⟩:=draw_end hc dr tr F hm hn0 inv im hall
  exact hQ M a w p s hda
 induction fuel with
 |zero=>
  intro listed M a w hu inv im hda
  have hr:Region.ready .any ops listed=[]:=by
   cases h:Region.ready .any ops listed with
   |nil=>rfl
   |cons j r=>
    have hj:j∈Region.ready .any ops listed:=by rw[h];simp
    obtain⟨hnl,O,hO,_⟩:=mem_ready.1 hj
    have hjs:j<ops.size:=(Array.getElem?_eq_some_iff.1 hO).1
    have hp:(!listed.getD j false)=true:=by
     simp only[Array.getD_eq_getD_getElem?,Array.getElem?_eq_getElem (show j<listed.size by rw[inv.lsz];exact hjs),Option.getD_some] at hnl ⊢
     rw[hnl];rfl
    have:=(List.countP_pos_iff (p:=fun i=> !listed.getD i false) (l:=List.range ops.size)).2 ⟨j,List.mem_range.2 hjs,hp⟩
    unfold unl at hu
    omega
  exact⟨hr,fin listed M a w hr inv im hda⟩
 |succ fuel ih=>
  intro listed M a w hu inv im hda
  refine⟨fun hr=>fin listed M a w hr inv im hda,fun k hk=>?_⟩
  refine jrS hC hfl hc dr tr F hm hn0 inv im hk fun M' a' w' inv' im' hd'=>?_
  obtain⟨hnl,O,hO,_⟩:=mem_ready.1 hk
  have hks:k<ops.size:=(Array.getElem?_eq_some_iff.1 hO).1
  have hnk: ¬Lst listed k:=by
   unfold Lst
   simp only[Array.getD_eq_getD_getElem?,Array.getElem?_eq_getElem (show k<listed.size by rw[inv.lsz];exact hks),Option.getD_some] at hnl ⊢
   rw[hnl];simp
  have:=jqp hks inv.lsz hnk
  exact ih _ M' a' w' (by omega) inv' im' (hd'.trans hda)
theorem jfO {α β:Type}{f:α→Option β}: ∀(xs:List α) (ys:List β),xs.mapM f=some ys→ys.length=xs.length∧ ∀(i:Nat) x,xs[i]?=some x→ ∃y,ys[i]?=some y∧f x=some y
 |[],ys,h=>by
  simp at h;subst h
  exact⟨rfl,fun i x hx=>by simp at hx⟩
 |x::xs,ys,h=>by
  simp only[List.mapM_cons,Option.pure_def,Option.bind_eq_bind,Option.bind_eq_some_iff,Option.some.injEq] at h
  obtain⟨y,hy,ys',hys,rfl⟩:=h
  obtain⟨h1,h2⟩:=jfO xs ys' hys
  refine⟨by simp[h1],fun i z hz=>?_⟩
  cases i with
  |zero=>simp at hz;subst hz;exact⟨y,rfl,hy⟩
  |succ i=>simpa using h2 i z (by simpa using hz)
theorem jiy {draw:Bool}(h:jcC P nt ops draw=some l):(draw=true→jrT ops (ancs ops.toList)=true)∧l.length=ops.size∧ ∀(i:Nat) O,ops[i]?=some O→ ∃o,l[i]?=some o∧o.op=(if draw then cOp P O else cOpU P O).getD .bad∧o.dst=O.dst∧jbS ops O=some o.guard∧o.iso=(!draw||isoAt ops.toList (ancs ops.toList) i (jgQ O.op))∧ ∀d,O.dst=some d→d<nt:=by
 unfold jcC at h
 simp only at h
 split at h
 ·rename_i hcond
  obtain⟨hdraw,hdst⟩:=hcond
  obtain⟨hlen,hget⟩:=jfO _ _ h
  have hz: ∀(i:Nat) O,ops[i]?=some O→ops.toList.zipIdx[i]?=some (O,i):=fun i O hO=>by
   simp[List.getElem?_zipIdx,hO]
  refine⟨hdraw,by rw[hlen];simp,fun i O hO=>?_⟩
  obtain⟨y,h1,h2⟩:=hget i (O,i) (hz i O hO)
  simp only[Option.bind_eq_bind,Option.bind_eq_some_iff,Option.pure_def,Option.some.injEq] at h2
  obtain⟨g,hg,rfl⟩:=h2
  refine⟨_,h1,rfl,rfl,hg,rfl,fun d hd=>?_⟩
  have:=List.all_eq_true.1 hdst O (List.mem_of_getElem? (by simpa using hO))
  rw[hd] at this
  simpa using this
 ·cases h
theorem jcJ (h:jcC P nt ops false=some l):l.length=ops.size∧jjl P nt ops 0 l:=by
 obtain⟨_,hlen,hat⟩:=jiy h
 refine⟨hlen,⟨fun j o ho=>?_⟩⟩
 have hj:j<ops.size:=by rw[←hlen];exact (List.getElem?_eq_some_iff.1 ho).1
 obtain⟨o',h1,h2,h3,h4,_,h5⟩:=hat j _ (Array.getElem?_eq_getElem hj)
 rw[ho] at h1;injection h1 with h1;subst h1
 exact⟨_,by rw[Nat.zero_add];exact Array.getElem?_eq_getElem hj,by simpa using h2,h3,h4,h5⟩
theorem jdK (h:jcC P nt ops true=some l):Comp P nt ops l∧Draw ops l:=by
 obtain⟨hok,hlen',hat⟩:=jiy h
 have hok:=hok rfl
 unfold jrT at hok
 have hall:=List.all_eq_true.1 hok
 have hmem: ∀(i:Nat) O,ops[i]?=some O→(O,i)∈ops.toList.zipIdx:=fun i O hO=>List.mem_of_getElem? (i:=i) (by simp[List.getElem?_zipIdx,hO])
 refine⟨⟨hlen',fun i O hO=>?_⟩,⟨fun k O hO e he=>?_,fun k i O p d hO hp hik hpd=>?_,fun k i hik h3 h3'=>?_,fun k o ho hiso i hik=>?_⟩⟩
 ·obtain⟨o,h1,h2,h3,h4,_,h5⟩:=hat i O hO
  exact⟨o,h1,by simpa using h2,h3,h4,h5⟩
 ·have:=hall (O,k) (hmem k O hO)
  simp only[Bool.and_eq_true] at this
  simpa using List.all_eq_true.1 this.1 e he
 ·have:=hall (O,k) (hmem k O hO)
  simp only[Bool.and_eq_true] at this
  have:=List.all_eq_true.1 this.2 (p,i) (hmem i p hp)
  simp only[Bool.or_eq_true,Bool.and_eq_true,beq_iff_eq,hik,false_or,hpd] at this
  obtain⟨_,h1,h2⟩:=this
  refine⟨fun e=>by simp[e] at h1,fun hl=>?_⟩
  rcases h2 with h2|h2
  ·simp at h2;exact absurd hl h2
  ·exact jcd h2
 ·unfold cl at h3 h3'
  split at h3
  ·rename_i O hO
   split at h3'
   ·rename_i p hp
    have:=hall (O,k) (hmem k O hO)
    simp only[Bool.and_eq_true] at this
    have:=List.all_eq_true.1 this.2 (p,i) (hmem i p hp)
    simp only[Bool.or_eq_true,Bool.and_eq_true,beq_iff_eq,hik,false_or] at this
    obtain⟨h1,_⟩:=this
    rcases h1 with (h1|h1)|h1
    ·simp[h3] at h1
    ·simp[h3'] at h1
    ·exact jcd h1
   ·cases h3'
  ·cases h3
 ·have hkl:k<ops.size:=by rw[←hlen'];exact (List.getElem?_eq_some_iff.1 ho).1
  have hO:ops[k]?=some (ops[k]'hkl):=Array.getElem?_eq_getElem _
  obtain⟨o',h1,_,_,_,h5,_⟩:=hat k _ hO
  rw[ho] at h1;injection h1 with h1;subst h1
  rw[hiso] at h5
  simp only[Bool.not_true,Bool.false_or] at h5
  have h5:=List.all_eq_true.1 h5.symm
  have hck:cl ops k=jgQ ops[k].op:=by simp[cl,hO]
  constructor
  ·intro c1 c3
   unfold cl at c3
   split at c3
   ·rename_i p hp
    have:=h5 (p,i) (hmem i p hp)
    rw[hck] at c1
    simp only[c1,Bool.or_eq_true,beq_iff_eq,hik,false_or,bne_iff_ne,ne_eq,c3,not_true_eq_false] at this
    exact jcd this
   ·cases c3
  ·intro c3 c1
   unfold cl at c1
   split at c1
   ·rename_i p hp
    have:=h5 (p,i) (hmem i p hp)
    rw[hck] at c3
    simp only[c3,Bool.or_eq_true,beq_iff_eq,hik,false_or,bne_iff_ne,ne_eq,c1,not_true_eq_false] at this
    exact jcd this
   ·cases c1
theorem jeb {Gp:Value→Prop}{C:jcF}(hC:jb5 P Gp C)(hfl: ∀id,fl id=true→n0≤id){id:Nat}(hcomp:jcC P nt ops false=some l){s:jah}{h:Heap}{base:Nat}{KK:jah→Heap→Prop}(hrun:jaD C base fl ⟨[],none⟩ l s h KK)
  {m:Map} {w:World} (r:Rels n0 B0 m h w) {a:Act} (hs:SR nt m s a) {Q:Exit→Act→World→Prop} (hQ: ∀s' h' m' a' w',KK s' h'→Post n0 B0 fl m h w m' h' w'→SR nt m' s' a'→a'.defers=a.defers→Q .normal a' w') (hG: ∀pv h' m' a' w',Gp pv→Post n0 B0 fl m h w m' h' w'→a'.defers=a.defers→Q (.panic [{ v:=pv,recovered:=false }]) a' w'):(Code.region id ops false).wp P Q a w:=by
 obtain⟨hlen,hc⟩:=jcJ hcomp
 refine wp_region ?_
 rw[List.range_eq_range',← hlen,← List.append_nil (List.range' 0 l.length)]
 exact jeu hC hfl r.dom (fun pv h' m' a' w' hg p d=>hG pv h' m' a' w' hg p d) l _ 0 s h KK hc hrun m a w (.refl r) hs rfl fun s' h' a' w' m' hk p q d=>hQ s' h' m' a' w' hk p q d
theorem jhD (hmix:P.follows .mixedOrders=true)(hC:jbo P C)(hfl: ∀id,fl id=true→n0≤id){id:Nat}{draw:Bool}(hcomp:jcC P nt ops draw=some l){s s':jah}{h h':Heap}{rs0:List Nat}(hrs0:draw=false→rs0=[])(hrun:jaV C h.length fl ⟨rs0,none⟩ l s h=some (s',h'))
  {m:Map} {w:World} (r:Rels n0 B0 m h w) {a:Act} (hs:SR nt m s a) {Q:Exit→Act→World→Prop} (hQ: ∀m' a' w',Post n0 B0 fl m h w m' h' w'→SR nt m' s' a'→a'.defers=a.defers→Q .normal a' w'):(Code.region id ops draw).wp P Q a w:=by
 cases draw with
 |false=>
  have:=hrs0 rfl;subst this
  exact jeb (jgv hC) hfl hcomp (jbZ _ _ _ _ _ _ (fun s2 h2=>s2=s'∧h2=h') hrun ⟨rfl,rfl⟩) r hs (fun s2 h2 m' a' w' e p q d=>hQ m' a' w' (e.2▸p) (e.1▸q) d) (fun _ _ _ _ _ h=>h.elim)
 |true=>
  obtain⟨hc,dr⟩:=jdK hcomp
  obtain⟨S,H,D,e1,e2,e3,e4,e5,tr⟩:=jiR _ _ _ _ _ _ hrun
  subst e1;subst e2
  rw[hc.len] at e4 e5
  subst e4;subst e5
  refine wp_region_any hmix ?_
  have r':Rels n0 B0 m (H 0) w.drew:=r.drew
  have F:=facts_of hC hfl hc tr r' hs
  have hm: ∀i,i<ops.size→(H i).length≤(H (i+1)).length:=fun i hi=>F.len hc i hi
  refine draw_all hC hfl hc dr tr F hm r.n0 (defs:=a.defers) (fun M a' w' p s d=>hQ M a' w' p.drew s d) ops.size (Array.replicate ops.size false) m a _ ?_ ?_ ?_ rfl
  ·unfold unl
   rw [List.countP_eq_length.2 (fun i hi => by
    have:=List.mem_range.1 hi
    simp[Array.getD_eq_getD_getElem?,this])]
   simp
  ·have hno: ∀i,¬ Lst (Array.replicate ops.size false) i:=fun i h=>by
    unfold Lst at h
    simp only[Array.getD_eq_getD_getElem?,Array.getElem?_replicate] at h
    split at h<;>simp at h
   exact⟨by simp,fun k O _ h=>absurd h (hno k),hs.size,fun x b hb=> .inl (r.dom x b hb),fun i O t _ _ h=>absurd h (hno i),fun t _=>hs.slot t,fun i _ h=>absurd h (hno i)⟩
  ·have hno: ∀i,¬ Lst (Array.replicate ops.size false) i:=fun i h=>by
    unfold Lst at h
    simp only[Array.getD_eq_getD_getElem?,Array.getElem?_replicate] at h
    split at h<;>simp at h
   refine⟨⟨0,Nat.zero_le _,fun i _ h=>absurd h (by omega),fun i _ _=>hno i,?_⟩,fun j _ _ x _ _ i _ h=>absurd h (hno i),rfl,rfl,rfl,Nat.le_refl _,fun _ _ _=>rfl,fun _ _=>rfl,fun x b h1 h2=>absurd (r.dom x b h2) (by omega)⟩
   refine r'.rel.congr fun x b hb=>?_
   have hx:x<(H 0).length:=r.dom x b hb
   have:crn H x ops.size=0:=by
    obtain⟨c1,c2,c3⟩:=jcq hm ops.size (Nat.le_refl _) (Nat.lt_of_lt_of_le hx (jaE hm (Nat.zero_le _) (Nat.le_refl _)))
    by_cases h:crn H x ops.size=0
    ·exact h
    ·have:=c3 0 (by omega);omega
   rw[this];rfl
end
end
section
open Go Go.RowKit
open Go.ChangeMaps (setBlock)
section
variable {P:Program}{n0 B0 nt:Nat}{fl:Nat→Bool}
def ja4:jas→Exit
  | .normal=> .normal
  | .exit id=> .exit id
  | .ret=> .ret
def SndP (P:Program)(Gp:Value→Prop)(n0 B0 nt:Nat)(fl:Nat→Bool)(f:jah→Heap→OutP)(c:Code):Prop:=
  ∀s h K,f s h K→ ∀m w a,Rels n0 B0 m h w→SR nt m s a→ ∀Q:Exit→Act→World→Prop,
    (∀x s' h' m' a' w',K x s' h'→Post n0 B0 fl m h w m' h' w'→SR nt m' s' a'→a'.defers=a.defers→Q (ja4 x) a' w')→
    (∀pv h' m' a' w',Gp pv→Post n0 B0 fl m h w m' h' w'→a'.defers=a.defers→Q (.panic [{ v:=pv,recovered:=false }]) a' w')→c.wp P Q a w
def Off (m:Map)(h:Heap)(r:Nat):Prop:= ∀id l b,blk h id=some l→m id=some b→b.b≠r
theorem Off.post {m m':Map}{h h':Heap}{w w':World}{r:Nat}(ho:Off m h r)(p:Post n0 B0 fl m h w m' h' w')(hr:r<w.heap.size):Off m' h' r:=by
 intro id l b hl hb he
 by_cases hi:id<h.length
 ·cases hbl:blk h id with
  |none=>rw[p.dead id hi hbl] at hl;cases hl
  |some l0=>exact ho id l0 b hbl (by rw[←p.keep id hi];exact hb) he
 ·rcases p.fresh id b (by omega) hb with h1|⟨j,l0,c,h1,h2,h3,h4⟩
  ·omega
  ·exact ho j l0 c h2 h3 (h4.trans he)
theorem Off.same {m m':Map}{h h':Heap}{w w':World}{r:Nat}(ho:Off m h r)(p:Post n0 B0 fl m h w m' h' w')(hr:r<w.heap.size):w'.heap[r]?=w.heap[r]?:=
 p.frame r hr fun id l b h1 h2 h3=>ho id l b h2 h3
theorem jq1 {m:Map}{h:Heap}{w:World}(r:Rels n0 B0 m h w)(o:Obj):Post n0 B0 fl m h w (mset m h.length ⟨w.heap.size,0,0,false⟩) (h++[none]) (w.alloc o):=by
 have hm: ∀id b,m id=some b→mset m h.length ⟨w.heap.size,0,0,false⟩ id=some b:=fun id b hb=>by
  have:=r.dom id b hb
  simp only[mset];rw[if_neg (by omega)];exact hb
 have hold: ∀id b,id<h.length→mset m h.length ⟨w.heap.size,0,0,false⟩ id=some b→m id=some b:=fun id b hi hb=>by
  simp only[mset] at hb;rw[if_neg (by omega)] at hb;exact hb
 have hnew: ∀b,mset m h.length ⟨w.heap.size,0,0,false⟩ h.length=some b→b=⟨w.heap.size,0,0,false⟩:=fun b hb=>by simp[mset] at hb;exact hb.symm
 have hcase: ∀id l,blk (h++[none]) id=some l→id<h.length∧blk h id=some l:=fun id l hl=>by
  by_cases hi:id<h.length
  ·rw[jaJ _ hi] at hl;exact⟨hi,hl⟩
  ·exfalso
   rw[jby,List.getElem?_append_right (by omega)] at hl
   cases hd:id - h.length with
   |zero=>rw[hd] at hl;simp at hl
   |succ q=>rw[hd] at hl;simp at hl
 have hheap: ∀k,k<w.heap.size→(w.alloc o).heap[k]?=w.heap[k]?:=fun k hk=>by
  show (w.heap.push _)[k]?=_
  rw[Array.getElem?_push_lt hk,Array.getElem?_eq_getElem hk]
 refine⟨⟨⟨by have:=r.rel.base;simp;omega,?_,?_,?_,?_,?_,?_,?_,r.rel.gl.keep (Nat.le_refl _) fun x hx=>hheap x (Nat.lt_of_lt_of_le hx r.rel.base)⟩,?_,by simp;have:=r.n0;omega⟩,by simp,?_,rfl,rfl,rfl,by simp,fun x hx _=>hheap x hx,?_,?_,?_,?_⟩
 ·intro id b hb
  by_cases hi:id=h.length
  ·subst hi;rw[hnew b hb];simp
  ·have:mset m h.length ⟨w.heap.size,0,0,false⟩ id=m id:=by simp[mset,hi]
   rw[this] at hb
   have:=r.rel.lt id b hb
   simp;omega
 ·intro id l b hl hb i v hv
  obtain⟨hi,hl⟩:=hcase id l hl
  have hb:=(⟨hold id b hi hb.1,hb.2⟩:CB m id b)
  obtain⟨v',h1,h2⟩:=r.rel.cell id l b hl hb i v hv
  exact⟨v',by rw[World.cell?_alloc_lt _ _ _ (r.rel.lt id b hb.1)];exact h1,h2.mono hm⟩
 ·intro id l b hl hb
  obtain⟨hi,hl⟩:=hcase id l hl
  exact r.rel.one id l b hl ⟨hold id b hi hb.1,hb.2⟩
 ·intro id l b hid hl hb
  obtain⟨hi,hl⟩:=hcase id l hl
  have hb:=(⟨hold id b hi hb.1,hb.2⟩:CB m id b)
  obtain⟨h1,h2,c,e',h3,h4⟩:=r.rel.own id l b hid hl hb
  exact⟨h1,h2,c,e',by rw[hheap _ (r.rel.lt id b hb.1)];exact h3,h4⟩
 ·intro id b hid hb
  have:=r.n0
  exact r.rel.ro id b hid (hold id b (by omega) hb)
 ·intro i j li lj bi bj hi hj hli hlj hbi hbj he
  obtain⟨h1,h2⟩:=hcase i li hli
  obtain⟨h3,h4⟩:=hcase j lj hlj
  exact r.rel.inj i j li lj bi bj hi hj h2 h4 (hold _ _ h1 hbi) (hold _ _ h3 hbj) he
 ·intro id l b hl hb
  obtain⟨hi,hl⟩:=hcase id l hl
  have hb:=(⟨hold id b hi hb.1,hb.2⟩:MB m id b)
  obtain⟨h1,h2,es,ck,h3,h4⟩:=r.rel.mp id l b hl hb
  exact⟨h1,h2,es,ck,by rw[hheap _ (r.rel.lt id b hb.1)];exact h3,h4.mono hm⟩
 ·intro id b hb
  by_cases hi:id=h.length
  ·subst hi;simp
  ·have:mset m h.length ⟨w.heap.size,0,0,false⟩ id=m id:=by simp[mset,hi]
   rw[this] at hb
   have:=r.dom id b hb
   simp;omega
 ·intro id hid
  simp only[mset];rw[if_neg (by omega)]
 ·intro id b hid hb
  by_cases hi:id=h.length
  ·subst hi;rw[hnew b hb];exact .inl (Nat.le_refl _)
  ·have:mset m h.length ⟨w.heap.size,0,0,false⟩ id=m id:=by simp[mset,hi]
   rw[this] at hb
   have:=r.dom id b hb
   omega
 ·intro id hid _
  rw[List.getElem?_append_left hid]
 ·intro id hid hb
  rw[jaJ _ hid];exact hb
 ·intro id h1 h2
  obtain rfl:id=h.length:=by simp at h2;omega
  simp[mset]
theorem jq2 {m0 m:Map}{h0 h:Heap}{w0 w w2:World}{r:Nat}(p:Post n0 B0 fl m0 h0 w0 m h w)(ho:Off m h r)(hB:B0≤r)(hr:w0.heap.size≤r)(e1:w2.os=w.os)(e2:w2.tape=w.tape)(e3:w2.output=w.output)(e4:w2.heap.size=w.heap.size)(e5: ∀k,k≠r→w2.heap[k]?=w.heap[k]?):Post n0 B0 fl m0 h0 w0 m h w2:=by
 have q:=p.rels
 refine⟨⟨⟨by rw[e4];exact q.rel.base,fun id b hb=>by rw[e4];exact q.rel.lt id b hb,fun id l b hl hb i v hv=>?_,q.rel.one,fun id l b hid hl hb=>?_,q.rel.ro,q.rel.inj,fun id l b hl hb=>?_,q.rel.gl.keep (Nat.le_refl _) fun x hx=>e5 x (by omega)⟩,q.dom,q.n0⟩,p.len,p.keep,e1.trans p.os,e2.trans p.tape,e3.trans p.output,by rw[e4];exact p.size,fun x hx hn=>?_,p.fresh,p.unt,p.dead,p.new⟩
 ·obtain⟨v',h1,h2⟩:=q.rel.cell id l b hl hb i v hv
  exact⟨v',by rw[jie (e5 _ (ho id l b hl hb.1))];exact h1,h2⟩
 ·obtain⟨h1,h2,c,e,h3,h4⟩:=q.rel.own id l b hid hl hb
  exact⟨h1,h2,c,e,by rw[e5 _ (ho id l b hl hb.1)];exact h3,h4⟩
 ·obtain⟨h1,h2,es,ck,h3,h4⟩:=q.rel.mp id l b hl hb
  exact⟨h1,h2,es,ck,by rw[e5 _ (ho id l b hl hb.1)];exact h3,h4⟩
 ·rw[e5 x (by omega)];exact p.frame x hx hn
/-! ### Strings -/
theorem jo8 (s:ByteArray)(i:Nat):1≤(Utf8.decode s i).2:=by
 unfold Utf8.decode
 simp only
 repeat' split
 all_goals simp
inductive jpk (t:ByteArray):Nat→List (Nat×Nat)→Prop where
  |nil {p:Nat} (h: ¬p<t.size):jpk t p []
  |cons {p:Nat} {r:List (Nat×Nat)} (h:p<t.size) (hr:jpk t (p+(Utf8.decode t p).2) r):jpk t p ((p,(Utf8.decode t p).1)::r)
theorem jfg (t:ByteArray): ∀(n p:Nat),t.size≤p+n→jpk t p (jiX t n p)
 |0,p,h=> .nil (by omega)
 |n+1,p,h=>by
  unfold jiX
  split
  ·rename_i hp
   exact .cons hp (jfg t n _ (by have:=jo8 t p;omega))
  ·rename_i hp;exact .nil hp
theorem joq (t:ByteArray):jpk t 0 (jlz t):=jfg t t.size 0 (by omega)
theorem jj8 {w:World}{r pos:Nat}{t:ByteArray}{ty:TypeId}(hr:w.heap[r]?=some (.stringIter t pos))(hp:pos<t.size):
  (Instr.next (.pointer (some ⟨r,0,none⟩)) true ty).run P w= .ok (.tuple #[.bool true,.int .i64 pos,.int .i32 (Utf8.decode t pos).1]) (setBlock w r (.stringIter t (pos+(Utf8.decode t pos).2))):=by
 have hs: ∀o',(setObj r o').run P w= .ok () (setBlock w r o'):=fun o'=>by simp[setObj,Sem.run,hr,setBlock]
 simp[Instr.next,getObj,Sem.run_bind,Sem.run,hr,Result.andThen,hp,goInt]
 have:=hs (.stringIter t (pos+(Utf8.decode t pos).2))
 simp[this,Result.andThen]
theorem jj9 {w:World}{r pos:Nat}{t:ByteArray}{ty:TypeId}(hr:w.heap[r]?=some (.stringIter t pos))(hp: ¬pos<t.size):
  (Instr.next (.pointer (some ⟨r,0,none⟩)) true ty).run P w= .ok (.tuple #[.bool false]) w:=by
 simp[Instr.next,getObj,Sem.run_bind,Sem.run,hr,Result.andThen,hp]
/-! ### One round -/
theorem jfH {r1 nx more it out:Nat}{isS b:Bool}{ops1:Array Oper}{O1 O2:Oper}(hsz:ops1.size=2)(e1:ops1[0]?=some O1)(e2:ops1[1]?=some O2)
  (q1:jgz O1=some (it,isS,nx)) (q2:exOp O2=some (nx,more)) {a:Act} {w w2:World} (hnx:nx<a.tmps.size) {tv:Array Value}
  (hrun:(Instr.next (a.eval (.tmp it)) isS O1.type).run P w= .ok (.tuple tv) w2) (htv:tv[0]?=some (.bool b)) {X:Code} {Q:Exit→Act→World→Prop} (hmore:more<a.tmps.size)
  (hk:b=true→X.wp P Q ((a.put (some nx) (.tuple tv)).put (some more) (.bool b)) w2) (hn:b=false→Q (.exit out) ((a.put (some nx) (.tuple tv)).put (some more) (.bool b)) w2):
  (Code.seq (.region r1 ops1 false) (.seq (.cond (.tmp more) .skip (.exit out)) X)).wp P Q a w:=by
 obtain⟨dst1,op1,ty1,pos1,af1,gd1⟩:=O1
 obtain⟨dst2,op2,ty2,pos2,af2,gd2⟩:=O2
 unfold jgz at q1
 split at q1
 ·rename_i it' s' d' h1 h2 h3
  simp only at h1 h2 h3
  subst h1;subst h2;subst h3
  injection q1 with q1;injection q1 with a1 q1;injection q1 with a2 a3;subst a1;subst a2;subst a3
  unfold exOp at q2
  split at q2
  ·rename_i t' d2 h1 h2 h3
   simp only at h1 h2 h3
   subst h1;subst h2;subst h3
   injection q2 with q2;injection q2 with a1 a2;subst a1;subst a2
   refine wp_seq (wp_region ?_)
   rw[hsz,show List.range 2=[0,1] from rfl,wpOps_cons]
   unfold wpOp
   rw[e1]
   simp only[Region.wanted,if_true]
   left
   unfold Oper.wp
   have x1:(execOp a.eval { dst:=some t',op:=Op.next (Operand.tmp it') s',type:=ty1,pos:=pos1,after:=af1,guard:=none }).run P w= .ok (.value (.tuple tv)) w2:=by
    simp[execOp,hrun]
   rw[x1]
   show wpOps P ops1 _ [1] _ _
   rw[wpOps_cons]
   unfold wpOp
   rw[e2]
   simp only[Region.wanted,if_true]
   left
   unfold Oper.wp
   have hev:(a.put (some t') (.tuple tv)).eval (.tmp t')= .tuple tv:=by
    show (a.put (some t') (.tuple tv)).tmps.getD t' undef=_
    rw[jb9 a _ _ _ (fun x hx=>by injection hx with hx;subst hx;exact hnx),if_pos rfl]
   have x2:(execOp (a.put (some t') (.tuple tv)).eval { dst:=some d2,op:=Op.extract (Operand.tmp t') 0,type:=ty2,pos:=pos2,after:=af2,guard:=none }).run P w2= .ok (.value (.bool b)) w2:=by
    simp only[execOp,hev]
    simp[Instr.extract,htv]
   rw[x2]
   show Code.wp P (.seq (.cond (.tmp d2) .skip (.exit out)) X) Q ((a.put (some t') (.tuple tv)).put (some d2) (.bool b)) w2
   refine wp_seq ?_
   have hev2:((a.put (some t') (.tuple tv)).put (some d2) (.bool b)).eval (.tmp d2)= .bool b:=by
    show ((a.put (some t') (.tuple tv)).put (some d2) (.bool b)).tmps.getD d2 undef=_
    rw[jb9 _ _ _ _ (fun x hx=>by injection hx with hx;subst hx;rw[jer];exact hmore),if_pos rfl]
   refine wp_cond hev2 ?_
   cases b with
   |true=>exact wp_skip (hk rfl)
   |false=>exact wp_exit (hn rfl)
  ·cases q2
 ·cases q1
theorem jrl {v:AV}{i0:Nat}(h:isIt v i0=true):v= .ptr i0 0:=by
 unfold isIt at h
 split at h
 ·simp at h;subst h;rfl
 ·cases h
theorem jgH {m:Map}{s:jah}{a:Act}(hs:SR nt m s a){it i0 r:Nat}(h:isIt (s it) i0=true)(hm:m i0=some ⟨r,0,0,false⟩):a.eval (.tmp it)= .pointer (some ⟨r,0,none⟩):=by
 have h1:=hs.slot it
 rw[jrl h] at h1
 obtain⟨b,hb,hv⟩:=h1.ptr_inv
 have h2:=hb.1
 rw[hm] at h2;injection h2 with h2;subst h2
 show a.tmps.getD it undef=_
 simpa using hv
theorem jkb {out nb:Nat}{B:Code}{G:Act→World→Prop}{Q:Exit→Act→World→Prop}{a:Act}{w:World}
  (h:B.wp P (fun e a w=>(e= .normal∧G a w)∨(e= .exit nb∧G a w)∨(e= .exit out∧nb≠out∧Q .normal a w)∨(e≠ .normal∧e≠ .exit nb∧e≠ .exit out∧Q e a w)) a w):
  (Code.block nb B).wp P (Exit.then G (Exit.inBlock out Q)) a w:=by
 refine wp_block (wp_mono h ?_)
 intro e a w hh
 rcases hh with⟨rfl,hg⟩|⟨rfl,hg⟩|⟨rfl,hne,hq⟩|⟨h1,h2,h3,hq⟩
 ·exact hg
 ·simp only[Exit.inBlock,if_true];exact hg
 ·simp only[Exit.inBlock]
  rw[if_neg (Ne.symm hne)]
  simp only[Exit.then,Exit.inBlock,if_true];exact hq
 ·cases e with
  |normal=>exact absurd rfl h1
  |exit j=>
   simp only[Exit.inBlock]
   rw[if_neg (fun e=>h2 (by rw[e]))]
   simp only[Exit.then,Exit.inBlock]
   rw[if_neg (fun e=>h3 (by rw[e]))];exact hq
  |_=>exact hq
theorem rng_wp {out nb:Nat}{go:jah→Heap→Prop}{KK:jas→jah→Heap→Prop}{G:Act→World→Prop}{Q:Exit→Act→World→Prop}{x:jas}{s':jah}{h':Heap}{a':Act}{w':World}(hk:jas.rng out nb go KK x s' h')(hg:go s' h'→G a' w')(hq: ∀x,KK x s' h'→Q (ja4 x) a' w'):
  (ja4 x= .normal∧G a' w')∨(ja4 x= .exit nb∧G a' w')∨(ja4 x= .exit out∧nb≠out∧Q .normal a' w')∨(ja4 x≠ .normal∧ja4 x≠ .exit nb∧ja4 x≠ .exit out∧Q (ja4 x) a' w'):=by
 cases x with
 |normal=>exact .inl ⟨rfl,hg hk⟩
 |exit j=>
  simp only[jas.rng] at hk
  split at hk
  ·rename_i hj;subst hj;exact .inr (.inl ⟨rfl,hg hk⟩)
  ·rename_i hj
   split at hk
   ·rename_i ho;subst ho;exact .inr (.inr (.inl ⟨rfl,fun e=>hj e.symm,hq .normal hk⟩))
   ·rename_i ho
    exact .inr (.inr (.inr ⟨by simp[ja4],by simpa[ja4] using hj,by simpa[ja4] using ho,hq (.exit j) hk⟩))
 |ret=>exact .inr (.inr (.inr ⟨by simp[ja4],by simp[ja4],by simp[ja4],hq .ret hk⟩))
section
variable {Gp:Value→Prop}{m0:Map}{h0:Heap}{w0:World}{defs:List Deferred}{Q:Exit→Act→World→Prop}{KK:jas→jah→Heap→Prop}{f:jah→Heap→OutP}{B:Code}
variable {r1 nx more pair it i0 out nb r:Nat}{ops1:Array Oper}{O1 O2:Oper}
theorem jhK (hf:SndP P Gp n0 B0 nt fl f B)(hsz:ops1.size=2)(e1:ops1[0]?=some O1)(e2:ops1[1]?=some O2)(q1:jgz O1=some (it,true,nx))(q2:exOp O2=some (nx,more))(hnx:nx<nt)(hmore:more<nt){t:ByteArray}
  (hd0: ∀id b,m0 id=some b→id<h0.length) (hB0:B0≤w0.heap.size) (hQ: ∀x s' h' m' a' w',KK x s' h'→Post n0 B0 fl m0 h0 w0 m' h' w'→SR nt m' s' a'→a'.defers=defs→Q (ja4 x) a' w')
  (hG: ∀pv h' m' a' w',Gp pv→Post n0 B0 fl m0 h0 w0 m' h' w'→a'.defers=defs→Q (.panic [{ v:=pv,recovered:=false }]) a' w'):
  ∀(rs:List (Nat×Nat)) (pos:Nat) (s:jah) (h:Heap) (m:Map) (a:Act) (w:World),jpk t pos rs→ji0 f it i0 nx more out nb KK rs s h→Post n0 B0 fl m0 h0 w0 m h w→SR nt m s a→a.defers=defs→Off m h r→w0.heap.size≤r→r<w.heap.size→
   w.heap[r]?=some (.stringIter t pos)→m i0=some ⟨r,0,0,false⟩→i0<h.length→Code.rounds P (.seq (.region r1 ops1 false) (.seq (.cond (.tmp more) .skip (.exit out)) (.block nb B))) (Exit.inBlock out Q) (rs.length+1) a w
 |[],pos,s,h,m,a,w,hr,hp,p,hs,hda,ho,hr0,hrw,hit,hm,hi=>by
  obtain⟨h1,h2⟩:=hp
  have hpos: ¬pos<t.size:=by cases hr with|nil h=>exact h
  rw[rounds_succ]
  refine jfH hsz e1 e2 q1 q2 (by rw[hs.size];exact hnx) (tv:= #[.bool false]) (b:=false) (w2:=w) (by rw[jgH hs h1 hm];exact jj9 hit hpos) rfl (by rw[hs.size];exact hmore) (fun h=>by cases h) fun _=>?_
  simp only[Exit.then,Exit.inBlock,if_true]
  refine hQ .normal _ h m _ w h2 p ?_ ?_
  ·refine SR.put (SR.put hs (fun _ _ h=>h) (d:=some nx) (fun x hx=>by injection hx with hx;subst hx;exact hnx) (VRs.tuple (VRs.cons (.val rfl) .nil))) (fun _ _ h=>h) (d:=some more) (fun x hx=>by injection hx with hx;subst hx;exact hmore) (.val rfl)
  ·exact hda
 |(p0,c)::rs,pos,s,h,m,a,w,hr,hp,p,hs,hda,ho,hr0,hrw,hit,hm,hi=>by
  obtain⟨h1,h2⟩:=hp
  cases hr with
  |cons hpos hr=>
  rw[rounds_succ]
  have hw2: ∀k,k≠r→(setBlock w r (.stringIter t (p0+(Utf8.decode t p0).2))).heap[k]?=w.heap[k]?:=fun k hk=>by simp[setBlock,Array.getElem?_setIfInBounds,Ne.symm hk]
  have hw3:(setBlock w r (.stringIter t (p0+(Utf8.decode t p0).2))).heap[r]?=some (.stringIter t (p0+(Utf8.decode t p0).2)):=by simp[setBlock,Array.getElem?_setIfInBounds,hrw]
  have hsz2:(setBlock w r (.stringIter t (p0+(Utf8.decode t p0).2))).heap.size=w.heap.size:=by simp[setBlock]
  refine jfH hsz e1 e2 q1 q2 (by rw[hs.size];exact hnx) (b:=true) (by rw[jgH hs h1 hm];exact jj8 hit hpos) rfl (by rw[hs.size];exact hmore) (fun _=>?_) fun h=>by cases h
  have eo:(setBlock w r (.stringIter t (p0+(Utf8.decode t p0).2))).os=w.os:=rfl
  have et:(setBlock w r (.stringIter t (p0+(Utf8.decode t p0).2))).tape=w.tape:=rfl
  have eu:(setBlock w r (.stringIter t (p0+(Utf8.decode t p0).2))).output=w.output:=rfl
  generalize setBlock w r (.stringIter t (p0+(Utf8.decode t p0).2))=w2 at hw2 hw3 hsz2 eo et eu
  have p2:=jq2 p ho (Nat.le_trans hB0 hr0) hr0 eo et eu hsz2 hw2
  have hs2:SR nt m (jc9 nx more p0 (Utf8.decode t p0).1 s) ((a.put (some nx) (.tuple #[.bool true,.int .i64 p0,.int .i32 (Utf8.decode t p0).1])).put (some more) (.bool true)):=
   SR.put (SR.put hs (fun _ _ h=>h) (d:=some nx) (fun x hx=>by injection hx with hx;subst hx;exact hnx) (VRs.tuple (VRs.cons (.val rfl) (VRs.cons (.val rfl) (VRs.cons (.val rfl) .nil))))) (fun _ _ h=>h) (d:=some more) (fun x hx=>by injection hx with hx;subst hx;exact hmore) (.val rfl)
  refine jkb (hf _ _ _ h2 m w2 _ p2.rels hs2 _ (fun x s' h' m' a' w' hk pb hs' hd'=>?_) fun pv h' m' a' w' hg pb hd'=> .inr (.inr (.inr ⟨by simp,by simp,by simp,hG pv h' m' a' w' hg (p2.trans hd0 pb) (hd'.trans hda)⟩)))
  have hd2:a'.defers=defs:=hd'.trans hda
  refine rng_wp hk (fun hgo=>?_) fun x hx=>hQ x s' h' m' a' w' hx (p2.trans hd0 pb) hs' hd2
  exact jhK hf hsz e1 e2 q1 q2 hnx hmore hd0 hB0 hQ hG rs _ s' h' m' a' w' hr hgo (p2.trans hd0 pb) hs' hd2 (ho.post pb (by omega)) hr0 (by have:=pb.size;omega) ((ho.same pb (by omega)).trans hw3) ((pb.keep i0 hi).trans hm) (by have:=pb.len;omega)
def SndE (P:Program)(Gp:Value→Prop)(n0 B0 nt:Nat)(fl:Nat→Bool)(it pair:Nat)(f:jah→Heap→OutP)(B:Code):Prop:=
  ∀s h K k v,f (upd s pair (.tuple [k,v])) h K→ ∀m w a (tv:Array Value),Rels n0 B0 m h w→SR nt m s a→VR m (.tuple [k,v]) (.tuple tv)→(Instr.entry (a.eval (.tmp it))).run P w= .ok (.tuple tv) w→ ∀Q:Exit→Act→World→Prop,
    (∀x s' h' m' a' w',K x s' h'→Post n0 B0 fl m h w m' h' w'→SR nt m' s' a'→a'.defers=a.defers→Q (ja4 x) a' w')→
    (∀pv h' m' a' w',Gp pv→Post n0 B0 fl m h w m' h' w'→a'.defers=a.defers→Q (.panic [{ v:=pv,recovered:=false }]) a' w')→B.wp P Q a w
theorem jdf (p:MapEntry→Bool): ∀(es:List MapEntry),(es.map (·.born)).Nodup→ ∀(i:Nat) e,(es.filter p)[i]?=some e→es.filter (fun x=>p x&& !(x.born==e.born))=(es.filter p).eraseIdx i
 |[],_,i,e,h=>by simp at h
 |x::es,hn,i,e,h=>by
  rw[List.map_cons,List.nodup_cons] at hn
  cases hx:p x with
  |false=>
   rw[List.filter_cons_of_neg (by rw[hx];simp)] at h
   rw[List.filter_cons_of_neg (a:=x) (p:=p) (by rw[hx];simp),List.filter_cons_of_neg (by rw[hx];simp)]
   exact jdf p es hn.2 i e h
  |true=>
   rw[List.filter_cons_of_pos hx] at h
   rw[List.filter_cons_of_pos (a:=x) (p:=p) hx]
   cases i with
   |zero=>
    simp at h;subst h
    rw[List.filter_cons_of_neg (by simp),List.eraseIdx_cons_zero]
    refine List.filter_congr fun y hy=>?_
    have:y.born≠x.born:=fun e=>hn.1 (List.mem_map.2 ⟨y,hy,e⟩)
    simp[this]
   |succ i=>
    rw[List.getElem?_cons_succ] at h
    have hex:e∈es:=(List.mem_filter.1 (List.mem_of_getElem? h)).1
    have:x.born≠e.born:=fun e'=>hn.1 (List.mem_map.2 ⟨e,hex,e'.symm⟩)
    rw[List.filter_cons_of_pos (by simp[this,hx]),List.eraseIdx_cons_succ,jdf p es hn.2 i e h]
theorem jkC (s:Array Nat)(es:List MapEntry)(hn:(es.map (·.born)).Nodup)(i:Nat)(e:MapEntry)(h:(es.filter fun e=> !s.contains e.born)[i]?=some e):es.filter (fun x=> !(s.push e.born).contains x.born)=(es.filter fun e=> !s.contains e.born).eraseIdx i:=by
 rw[←jdf _ es hn i e h]
 refine List.filter_congr fun y hy=>?_
 rw[Bool.eq_iff_iff]
 simp
theorem jdF (es:Array MapEntry)(seen:Array Nat):(leftOf es seen).toList=es.toList.filter fun e=> !seen.contains e.born:=by simp[leftOf]
theorem jhL {mid:Nat}(hf:SndE P Gp n0 B0 nt (fun i=>fl i&& !(i==mid)) it pair f B)(hsz:ops1.size=2)(e1:ops1[0]?=some O1)(e2:ops1[1]?=some O2)(q1:jgz O1=some (it,false,nx))(q2:exOp O2=some (nx,more))(hnx:nx<nt)(hmore:more<nt)(hni:nx≠it)(hmi:more≠it)
  (hd0: ∀id b,m0 id=some b→id<h0.length) (hB0:B0≤w0.heap.size) (hQ: ∀x s' h' m' a' w',KK x s' h'→Post n0 B0 fl m0 h0 w0 m' h' w'→SR nt m' s' a'→a'.defers=defs→Q (ja4 x) a' w')
  (hG: ∀pv h' m' a' w',Gp pv→Post n0 B0 fl m0 h0 w0 m' h' w'→a'.defers=defs→Q (.panic [{ v:=pv,recovered:=false }]) a' w')
  {l:List AV} {b0:Base} {es:Array MapEntry} {ck since:Nat} (hst:jcD es.toList ck) (hsince:since=ck) (hn0m:n0≤mid) (hfl: ∀id,fl id=true→n0≤id):
  ∀(n:Nat) (rem:List AV) (seen:Array Nat) (c0:Nat) (s:jah) (h:Heap) (m:Map) (a:Act) (w:World),jkg f it i0 nx more pair out nb KK n rem s h→MpE m rem (leftOf es seen).toList→since≤c0→Post n0 B0 fl m0 h0 w0 m h w→SR nt m s a→a.defers=defs→Off m h r→w0.heap.size≤r→r<w.heap.size→
   w.heap[r]?=some (.mapIter (some b0.b) since seen c0)→w.heap[b0.b]?=some (.map es ck)→m mid=some b0→blk h mid=some l→m i0=some ⟨r,0,0,false⟩→i0<h.length→Code.rounds P (.seq (.region r1 ops1 false) (.seq (.cond (.tmp more) .skip (.exit out)) (.block nb B))) (Exit.inBlock out Q) (n+1) a w
 |0,rem,seen,c0,s,h,m,a,w,hp,hrem,hc0,p,hs,hda,ho,hr0,hrw,hit,hmap,hmm,hbl,hm,hi=>by
  obtain⟨h1,rfl,h2⟩:=hp
  have hold: ∀x∈es.toList,x.born<since:=fun x hx=>by rw[hsince];exact hst.1 x hx
  have hz:(leftOf es seen).size=0:=by have:=hrem.1;simpa using this.symm
  rw[rounds_succ]
  rcases run_next_at (P:=P) w O1.type r b0.b since c0 seen es ck hit hmap hold hc0 with⟨_,hrun⟩|⟨e,he,_⟩
  ·refine jfH hsz e1 e2 q1 q2 (by rw[hs.size];exact hnx) (tv:= #[.bool false]) (b:=false) (w2:=w) (by rw[jgH hs h1 hm];exact hrun) rfl (by rw[hs.size];exact hmore) (fun h=>by cases h) fun _=>?_
   simp only[Exit.then,Exit.inBlock,if_true]
   refine hQ .normal _ h m _ w h2 p ?_ ?_
   ·refine SR.put (SR.put hs (fun _ _ h=>h) (d:=some nx) (fun x hx=>by injection hx with hx;subst hx;exact hnx) (VRs.tuple (VRs.cons (.val rfl) .nil))) (fun _ _ h=>h) (d:=some more) (fun x hx=>by injection hx with hx;subst hx;exact hmore) (.val rfl)
   ·exact hda
  ·rw[Array.eq_empty_of_size_eq_zero hz] at he;simp at he
 |n+1,rem,seen,c0,s,h,m,a,w,hp,hrem,hc0,p,hs,hda,ho,hr0,hrw,hit,hmap,hmm,hbl,hm,hi=>by
  obtain⟨h1,hlen,h2⟩:=hp
  have hold: ∀x∈es.toList,x.born<since:=fun x hx=>by rw[hsince];exact hst.1 x hx
  rw[rounds_succ]
  rcases run_next_at (P:=P) w O1.type r b0.b since c0 seen es ck hit hmap hold hc0 with⟨hz,_⟩|⟨e,he,w1,hw1,hrun⟩
  ·have:=hrem.1;rw[hlen] at this;simp at this;omega
  ·obtain⟨j,hj⟩:=List.getElem?_of_mem he
   have hjr:j<rem.length:=by rw[hrem.1];exact (List.getElem?_eq_some_iff.1 hj).1
   obtain⟨k,v,hkv,hke,hve⟩:=hrem.2 j _ e (List.getElem?_eq_getElem hjr) hj
   have hr1:w1.heap=w.heap∧w1.os=w.os∧w1.tape=w.tape∧w1.output=w.output:=by rcases hw1 with rfl|rfl<;>exact⟨rfl,rfl,rfl,rfl⟩
   obtain⟨hh1,ho1,ht1,hu1⟩:=hr1
   have hee:e∈es.toList:=by rw[jdF] at he;exact (List.mem_filter.1 he).1
   have hne:b0.b≠r:=ho mid l b0 hbl hmm
   have hw2: ∀k,k≠r→(setBlock w1 r (.mapIter (some b0.b) since (seen.push e.born) ck)).heap[k]?=w.heap[k]?:=fun k hk=>by simp[setBlock,hh1,Array.getElem?_setIfInBounds,Ne.symm hk]
   have hw3:(setBlock w1 r (.mapIter (some b0.b) since (seen.push e.born) ck)).heap[r]?=some (.mapIter (some b0.b) since (seen.push e.born) ck):=by simp[setBlock,hh1,Array.getElem?_setIfInBounds,hrw]
   have hsz2:(setBlock w1 r (.mapIter (some b0.b) since (seen.push e.born) ck)).heap.size=w.heap.size:=by simp[setBlock,hh1]
   refine jfH hsz e1 e2 q1 q2 (by rw[hs.size];exact hnx) (b:=true) (by rw[jgH hs h1 hm];exact hrun) rfl (by rw[hs.size];exact hmore) (fun _=>?_) fun h=>by cases h
   have eo:(setBlock w1 r (.mapIter (some b0.b) since (seen.push e.born) ck)).os=w.os:=ho1
   have et:(setBlock w1 r (.mapIter (some b0.b) since (seen.push e.born) ck)).tape=w.tape:=ht1
   have eu:(setBlock w1 r (.mapIter (some b0.b) since (seen.push e.born) ck)).output=w.output:=hu1
   generalize setBlock w1 r (.mapIter (some b0.b) since (seen.push e.born) ck)=w2 at hw2 hw3 hsz2 eo et eu
   have p2:=jq2 p ho (Nat.le_trans hB0 hr0) hr0 eo et eu hsz2 hw2
   have hkvr:VR m (.tuple [.val (.int .i64 k),v]) (.tuple #[e.key,e.val]):=VRs.tuple (VRs.cons (by rw[hke];exact .val rfl) (VRs.cons hve .nil))
   have hs2:SR nt m (upd (upd s nx (.tuple [.val (.bool true),.val (.int .i64 k),v])) more (.val (.bool true))) ((a.put (some nx) (.tuple #[.bool true,e.key,e.val])).put (some more) (.bool true)):=
    SR.put (SR.put hs (fun _ _ h=>h) (d:=some nx) (fun x hx=>by injection hx with hx;subst hx;exact hnx) (VRs.tuple (VRs.cons (.val rfl) (VRs.cons (by rw[hke];exact .val rfl) (VRs.cons hve .nil))))) (fun _ _ h=>h) (d:=some more) (fun x hx=>by injection hx with hx;subst hx;exact hmore) (.val rfl)
   have hit2:isIt ((upd (upd s nx (.tuple [.val (.bool true),.val (.int .i64 k),v])) more (.val (.bool true))) it) i0=true:=by
    simp only[upd];rw[if_neg (Ne.symm hmi),if_neg (Ne.symm hni)];exact h1
   refine jkb (hf _ _ _ (.val (.int .i64 k)) v (h2 j (.val (.int .i64 k)) v (by rw[List.getElem?_eq_getElem hjr,hkv])) m w2 _ #[e.key,e.val] p2.rels hs2 hkvr ?_ _ (fun x s' h' m' a' w' hk pb hs' hd'=>?_) fun pv h' m' a' w' hg pb hd'=> .inr (.inr (.inr ⟨by simp,by simp,by simp,hG pv h' m' a' w' hg (p2.trans hd0 (pb.mono fun i hi=>by simp at hi;exact hi.1)) (hd'.trans hda)⟩)))
   ·rw[jgH hs2 hit2 hm]
    exact run_entry_at w2 r b0.b since seen es ck e hw3 (by rw[hw2 _ hne];exact hmap) hee hst.2
   ·have hd2:a'.defers=defs:=hd'.trans hda
    have pbf:Post n0 B0 fl m h w2 m' h' w':=pb.mono fun i hi=>by simp at hi;exact hi.1
    have hmidlt:=ja1 hbl
    refine rng_wp hk (fun hgo=>?_) fun x hx=>hQ x s' h' m' a' w' hx (p2.trans hd0 pbf) hs' hd2
    refine jhL hf hsz e1 e2 q1 q2 hnx hmore hni hmi hd0 hB0 hQ hG hst hsince hn0m hfl n (rem.eraseIdx j) (seen.push e.born) ck s' h' m' a' w' hgo ?_ (by omega) (p2.trans hd0 pbf) hs' hd2 (ho.post pb (by omega)) hr0 (by have:=pb.size;omega) ((ho.same pb (by omega)).trans hw3) ?_ ((pb.keep mid hmidlt).trans hmm) (l:=l) ?_ ((pb.keep i0 hi).trans hm) (by have:=pb.len;omega)
    ·rw[jdF,jkC seen es.toList hst.2 j e (by rw[←jdF];exact hj),← jdF]
     refine⟨by rw[List.length_eraseIdx,List.length_eraseIdx,hrem.1],fun q x y hx hy=>?_⟩
     rw[List.getElem?_eraseIdx] at hx hy
     have hmono: ∀id b,m id=some b→m' id=some b:=fun id b hb=>by rw[pb.keep id (p2.rels.dom id b hb)];exact hb
     split at hx
     ·rename_i hq;rw[if_pos hq] at hy
      obtain⟨k',v',a1,a2,a3⟩:=hrem.2 q x y hx hy
      exact⟨k',v',a1,a2,a3.mono hmono⟩
     ·rename_i hq;rw[if_neg hq] at hy
      obtain⟨k',v',a1,a2,a3⟩:=hrem.2 (q+1) x y hx hy
      exact⟨k',v',a1,a2,a3.mono hmono⟩
    ·rw[pb.frame b0.b (by rw[hsz2];exact (p.rels.rel.lt mid b0 hmm)) fun id lx bx hfx hlx hbx hex=>?_,hw2 _ hne]
     ·exact hmap
     ·simp at hfx
      exact hfx.2 (p2.rels.rel.inj id mid lx l bx b0 (hfl id hfx.1) hn0m hlx hbl hbx hmm hex)
    ·have:=pb.unt mid hmidlt (.inr (by simp))
     rw[jbU this];exact hbl
end
/-! ### The whole loop -/
theorem jjl.init {ops:Array Oper}{l:List jap}(h:jjl P nt ops 0 l):jjl P nt ops 0 l.dropLast:=
 ⟨fun j o ho => h.at_ j o (by
  rw[List.getElem?_dropLast] at ho
  split at ho
  ·exact ho
  ·cases ho)⟩
theorem jrp {A B:Code}{H:RHdr}(h:hdrR P nt A B=some H): ∃r0 ops0 r1 ops1 r2 ops2 body O0 t x O1 O2,A= .region r0 ops0 false∧B= .block H.out (.loop (.seq (.region r1 ops1 false) (.seq (.cond (.tmp H.more) .skip (.exit H.out)) (.block H.nb (.seq (.region r2 ops2 false) body)))))∧
  ops0[ops0.size - 1]?=some O0∧jgp O0=some (t,x,H.it)∧cOpd x=some H.src∧ops1.size=2∧ops1[0]?=some O1∧jgz O1=some (H.it,!H.isMap,H.nx)∧ops1[1]?=some O2∧exOp O2=some (H.nx,H.more)∧H.it<nt∧H.nx<nt∧H.more<nt∧H.nx≠H.it∧H.more≠H.it∧
  ((H.isMap=false∧P.underlying t=some .string)∨(H.isMap=true∧jfP P t=true∧ ∃O3,ops2[0]?=some O3∧jgP O3=some (H.it,H.pair)∧H.pair<nt)):=by
 simp only[hdrR,Option.bind_eq_bind,Option.bind_eq_some_iff] at h
 obtain⟨ops0,h0,⟨out,ops1,more,out',nb,ops2⟩,h1,O0,h2,⟨t,x,it⟩,h3,O1,h4,⟨it',isS,nx⟩,h5,O2,h6,⟨nx',mo⟩,h7,src,h8,h⟩:=h
 simp only at h
 split at h
 ·rename_i hc
  obtain⟨c1,rfl,rfl,rfl,rfl,c6,c7,c8,c9,c10⟩:=hc
  unfold regOps at h0
  split at h0
  ·rename_i r0 ops
   injection h0 with h0;subst h0
   unfold jkv at h1
   split at h1
   ·rename_i o r1 p1 m o' n r2 p2 body
    simp only[Option.some.injEq,Prod.mk.injEq] at h1
    obtain⟨rfl,rfl,rfl,rfl,rfl,rfl⟩:=h1
    split at h
    ·rename_i hu
     split at h
     ·rename_i hs
      injection h with h;subst h
      subst hs
      exact⟨r0,_,r1,_,r2,_,body,O0,t,x,O1,O2,rfl,rfl,h2,h3,h8,c1,h4,h5,h6,h7,c6,c7,c8,c9,c10,.inl ⟨rfl,hu⟩⟩
     ·cases h
    ·split at h
     ·rename_i hs
      obtain⟨rfl,him⟩:=hs
      split at h
      ·rename_i it2 pair he
       obtain⟨O3,he1,he2⟩:=Option.bind_eq_some_iff.1 he
       split at h
       ·rename_i hp
        obtain⟨rfl,hp⟩:=hp
        injection h with h;subst h
        exact⟨r0,_,r1,_,r2,_,body,O0,t,x,O1,O2,rfl,rfl,h2,h3,h8,c1,h4,h5,h6,h7,c6,c7,c8,c9,c10,.inr ⟨rfl,him,O3,he1,he2,hp⟩⟩
       ·cases h
      ·cases h
     ·cases h
   ·cases h1
  ·cases h0
 ·cases h
theorem jgF {A B:Code}{ca cb x y:jar}(h:jrj P nt A B ca cb= .seq x y):x=ca∧y=cb:=by
 unfold jrj at h
 split at h
 ·cases h
 ·injection h with h1 h2;exact⟨h1.symm,h2.symm⟩
theorem jlN {A B:Code}{ca cb c:jar}(hA:jbW P nt A=some ca)(hB:jbW P nt B=some cb)(h:jrj P nt A B ca cb=c):c= .seq ca cb∨
  ∃(H:RHdr) (l0 l2:List jap) (body:jar) (r0:Nat) (ops0:Array Oper) (r1:Nat) (ops1:Array Oper) (r2:Nat) (ops2:Array Oper) (bcode:Code) (O0:Oper) (t:TypeId) (x:Operand) (O1 O2:Oper),A= .region r0 ops0 false∧B= .block H.out (.loop (.seq (.region r1 ops1 false) (.seq (.cond (.tmp H.more) .skip (.exit H.out)) (.block H.nb (.seq (.region r2 ops2 false) bcode)))))∧
   ops0[ops0.size - 1]?=some O0∧jgp O0=some (t,x,H.it)∧cOpd x=some H.src∧ops1.size=2∧ops1[0]?=some O1∧jgz O1=some (H.it,!H.isMap,H.nx)∧ops1[1]?=some O2∧exOp O2=some (H.nx,H.more)∧H.it<nt∧H.nx<nt∧H.more<nt∧H.nx≠H.it∧H.more≠H.it∧
   ((H.isMap=false∧P.underlying t=some .string)∨(H.isMap=true∧jfP P t=true∧ ∃O3,ops2[0]?=some O3∧jgP O3=some (H.it,H.pair)∧H.pair<nt))∧
   jcC P nt ops0 false=some l0∧jcC P nt ops2 false=some l2∧jbW P nt bcode=some body∧c= .rng H.isMap H.src H.it H.nx H.more H.pair H.out H.nb l0.dropLast (if H.isMap then l2.drop 1 else l2) body:=by
 unfold jrj at h
 split at h
 ·rename_i H l0 o1 x1 x2 o2 l2 body hH
  right
  obtain⟨r0,ops0,r1,ops1,r2,ops2,bcode,O0,t,x,O1,O2,rfl,rfl,f1,f2,f3,f4,f5,f6,f7,f8,f9,f10,f11,f12,f13,f14⟩:=jrp hH
  simp only[jbW,Option.map_eq_some_iff] at hA
  obtain⟨l0',g1,g2⟩:=hA
  simp only[Bool.false_eq_true,if_false,jar.ops.injEq] at g2
  subst g2
  simp only[jbW,Option.map_eq_some_iff,Option.bind_eq_bind,Option.bind_eq_some_iff,Option.pure_def,Option.some.injEq,jar.block.injEq] at hB
  obtain⟨q1,⟨q2,⟨q3,⟨q4,g3,g4⟩,q5,⟨q6,⟨q7,g5,q8,g6,q9,g7,g8⟩,q10,⟨q11,⟨q12,⟨q13,g9,g10⟩,q14,g11,g12⟩,g13⟩,g14⟩,g15⟩,g16⟩,g17,g18⟩:=hB
  subst g16
  injection g18 with g18
  subst g18
  obtain⟨_,k1⟩:=jgF g15
  subst k1
  obtain⟨_,k2⟩:=jgF g14
  subst k2
  injection g13 with _ g13
  subst g13
  obtain⟨k3,k4⟩:=jgF g12
  subst k4
  rw[←k3] at g10
  simp only[Bool.false_eq_true,if_false,jar.ops.injEq] at g10
  subst g10
  exact⟨H,_,_,_,r0,ops0,r1,ops1,r2,ops2,bcode,O0,t,x,O1,O2,rfl,rfl,f1,f2,f3,f4,f5,f6,f7,f8,f9,f10,f11,f12,f13,f14,g1,g9,g11,h.symm⟩
 ·exact .inl h.symm
end
end
section
open Go
section
variable {P:Program}{n0 B0 nt base:Nat}{fl:Nat→Bool}{ops:Array Oper}{l lD:List jap}{m0:Map}{w0:World}{h0:Heap}{s0:jah}{defs:List Deferred}{C:jcF}{Gp:Value→Prop}{KK:jah→Heap→Prop}
theorem post_un {m:Map}{h:Heap}{w:World}(r:Rels n0 B0 m h w)(o:Obj):Post n0 B0 fl m h w m h (w.alloc o):=by
 have hheap: ∀k,k<w.heap.size→(w.alloc o).heap[k]?=w.heap[k]?:=fun k hk=>by
  show (w.heap.push _)[k]?=_
  rw[Array.getElem?_push_lt hk,Array.getElem?_eq_getElem hk]
 refine⟨⟨⟨by have:=r.rel.base;simp;omega,fun id b hb=>by have:=r.rel.lt id b hb;simp;omega,fun id l b hl hb i v hv=>?_,r.rel.one,fun id l b hid hl hb=>?_,r.rel.ro,r.rel.inj,fun id l b hl hb=>?_,r.rel.gl.keep (Nat.le_refl _) fun x hx=>hheap x (Nat.lt_of_lt_of_le hx r.rel.base)⟩,r.dom,r.n0⟩,Nat.le_refl _,fun _ _=>rfl,rfl,rfl,rfl,by simp,fun x hx _=>hheap x hx,fun id b hid hb=>absurd (r.dom id b hb) (by omega),fun _ _ _=>rfl,fun _ _ h=>h,fun id h1 h2=>absurd h2 (by omega)⟩
 ·obtain⟨v',h1,h2⟩:=r.rel.cell id l b hl hb i v hv
  exact⟨v',by rw[World.cell?_alloc_lt _ _ _ (r.rel.lt id b hb.1)];exact h1,h2⟩
 ·obtain⟨h1,h2,c,e',h3,h4⟩:=r.rel.own id l b hid hl hb
  exact⟨h1,h2,c,e',by rw[hheap _ (r.rel.lt id b hb.1)];exact h3,h4⟩
 ·obtain⟨h1,h2,es,ck,h3,h4⟩:=r.rel.mp id l b hl hb
  exact⟨h1,h2,es,ck,by rw[hheap _ (r.rel.lt id b hb.1)];exact h3,h4⟩
theorem jqZ {m:Map}{h:Heap}{w:World}(p:Post n0 B0 fl m0 h0 w0 m h w){q:Nat}(hB:B0≤q)(ho:Off m h q)(hq0:w0.heap.size≤q)(hq:q<w.heap.size)(cs:List AV)(arr:Array Value)(e:TypeId)(room:Nat)(hone: ∀x∈cs,x.isCell=true)(hroom:cs.length≤room)(hsz:room≤arr.size)
  (hcs: ∀(i:Nat) x,cs[i]?=some x→ ∃y,arr[i]?=some y∧VR m x y) (hobj:w.heap[q]?=some (.cells arr e)):
  Post n0 B0 fl m0 h0 w0 (mset m h.length ⟨q,0,room,false⟩) (h++[some cs]) w:=by
 have r:=p.rels
 have hlen:=p.len
 have hm: ∀id b,m id=some b→mset m h.length ⟨q,0,room,false⟩ id=some b:=fun id b hb=>by
  have:=r.dom id b hb
  simp only[mset];rw[if_neg (by omega)];exact hb
 have hold: ∀id b,id<h.length→mset m h.length ⟨q,0,room,false⟩ id=some b→m id=some b:=fun id b hi hb=>by
  simp only[mset] at hb;rw[if_neg (by omega)] at hb;exact hb
 have hnew: ∀b,mset m h.length ⟨q,0,room,false⟩ h.length=some b→b=⟨q,0,room,false⟩:=fun b hb=>by simp[mset] at hb;exact hb.symm
 have hcase: ∀id l,blk (h++[some cs]) id=some l→(id<h.length∧blk h id=some l)∨(id=h.length∧l=cs):=fun id l hl=>by
  by_cases hi:id<h.length
  ·rw[jaJ _ hi] at hl;exact .inl ⟨hi,hl⟩
  ·have:=ja1 hl
   simp at this
   obtain rfl:id=h.length:=by omega
   rw[jaI] at hl;exact .inr ⟨rfl,by injection hl with hl;exact hl.symm⟩
 refine⟨⟨⟨r.rel.base,?_,?_,?_,?_,?_,?_,?_,r.rel.gl⟩,?_,by simp;have:=r.n0;omega⟩,by simp;omega,?_,p.os,p.tape,p.output,p.size,p.frame,?_,?_,?_,?_⟩
 ·intro id b hb
  by_cases hi:id=h.length
  ·subst hi;rw[hnew b hb];exact hq
  ·have:mset m h.length ⟨q,0,room,false⟩ id=m id:=by simp[mset,hi]
   rw[this] at hb
   exact r.rel.lt id b hb
 ·intro id l b hl hb i v hv
  rcases hcase id l hl with⟨hi,hl⟩|⟨rfl,rfl⟩
  ·have hb:=(⟨hold id b hi hb.1,hb.2⟩:CB m id b)
   obtain⟨v',h1,h2⟩:=r.rel.cell id l b hl hb i v hv
   exact⟨v',h1,h2.mono hm⟩
  ·obtain rfl:=hnew b hb.1
   obtain⟨y,hy,hr⟩:=hcs i v hv
   exact⟨y,by simp[World.cell?,hobj,hy],hr.mono hm⟩
 ·intro id l b hl hb
  rcases hcase id l hl with⟨hi,hl⟩|⟨rfl,rfl⟩
  ·exact r.rel.one id l b hl ⟨hold id b hi hb.1,hb.2⟩
  ·exact hone
 ·intro id l b hid hl hb
  rcases hcase id l hl with⟨hi,hl⟩|⟨rfl,rfl⟩
  ·exact r.rel.own id l b hid hl ⟨hold id b hi hb.1,hb.2⟩
  ·obtain rfl:=hnew b hb.1
   exact⟨hB,hroom,arr,e,hobj,by simpa using hsz⟩
 ·intro id b hid hb
  have:=r.n0
  exact r.rel.ro id b hid (hold id b (by omega) hb)
 ·intro i j li lj bi bj hi hj hli hlj hbi hbj he
  rcases hcase i li hli with⟨h1,h2⟩|⟨h1,h2⟩<;>rcases hcase j lj hlj with⟨h3,h4⟩|⟨h3,h4⟩
  ·exact r.rel.inj i j li lj bi bj hi hj h2 h4 (hold _ _ h1 hbi) (hold _ _ h3 hbj) he
  ·subst h3;subst h4
   rw[hnew bj hbj] at he
   exact (ho i li bi h2 (hold _ _ h1 hbi) he).elim
  ·subst h1;subst h2
   rw[hnew bi hbi] at he
   exact (ho j lj bj h4 (hold _ _ h3 hbj) he.symm).elim
  ·rw[h1,h3]
 ·intro id l b hl hb
  rcases hcase id l hl with⟨hi,hl⟩|⟨rfl,rfl⟩
  ·have hb:=(⟨hold id b hi hb.1,hb.2⟩:MB m id b)
   obtain⟨h1,h2,es,ck,h3,h4⟩:=r.rel.mp id l b hl hb
   exact⟨h1,h2,es,ck,h3,h4.mono hm⟩
  ·have:=hb.2
   rw[hnew b hb.1] at this;cases this
 ·intro id b hb
  by_cases hi:id=h.length
  ·subst hi;simp
  ·have:mset m h.length ⟨q,0,room,false⟩ id=m id:=by simp[mset,hi]
   rw[this] at hb
   have:=r.dom id b hb
   simp;omega
 ·intro id hid
  simp only[mset];rw[if_neg (by omega)];exact p.keep id hid
 ·intro id b hid hb
  by_cases hi:id=h.length
  ·subst hi;rw[hnew b hb];exact .inl hq0
  ·have:mset m h.length ⟨q,0,room,false⟩ id=m id:=by simp[mset,hi]
   rw[this] at hb
   exact p.fresh id b hid hb
 ·intro id hid hn
  rw[List.getElem?_append_left (by omega)];exact p.unt id hid hn
 ·intro id hid hb
  rw[jaJ _ (by omega)];exact p.dead id hid hb
 ·intro id h1 h2
  by_cases hi:id=h.length
  ·subst hi;simp[mset]
  ·simp only[mset];rw[if_neg hi];exact p.new id h1 (by simp at h2;omega)
structure jpl (P:Program)(nt:Nat)(ops:Array Oper)(l:List jap):Prop where
  len:l.length=ops.size
  at_: ∀(i:Nat) O,ops[i]?=some O→ ∃o,l[i]?=some o∧o.op=(cOp P O).getD .bad∧o.dst=O.dst∧jbS ops O=some o.guard∧o.iso=true∧ ∀d,O.dst=some d→d<nt
def jsr (B0:Nat)(s0:jah)(h0:Heap)(w0:World)(l:List jap)(m:Map)(h:Heap)(a:Act)(w:World)(o:jap)(d:Nat):Prop:=
  (∃v,jlT l o=true∧jag none (fun _=>false) s0 h0 o.op=some (v,h0)∧VR m v (a.tmps.getD d undef))∨
  (∃cs q arr e,o.op= .zero cs∧a.tmps.getD d undef= .pointer (some ⟨q,0,none⟩)∧B0≤q∧w0.heap.size≤q∧q<w.heap.size∧Off m h q∧w.heap[q]?=some (.cells arr e)∧cs.length≤arr.size∧(∀m:Map,VRs m cs arr.toList)∧ ∀x∈cs,x.isCell=true)
theorem jsr.step {m m':Map}{h h':Heap}{a a':Act}{w w':World}{o:jap}{d:Nat}(x:jsr B0 s0 h0 w0 l m h a w o d)(p:Post n0 B0 fl m h w m' h' w')(hd: ∀id b,m id=some b→id<h.length)(ha:a'.tmps.getD d undef=a.tmps.getD d undef):jsr B0 s0 h0 w0 l m' h' a' w' o d:=by
 rcases x with⟨v,h1,h2,h3⟩|⟨cs,q,arr,e,h1,h2,h3,h4,h5,h6,h7,h8,h9,h10⟩
 ·exact .inl ⟨v,h1,h2,by rw[ha];exact h3.mono (p.ext hd)⟩
 ·exact .inr ⟨cs,q,arr,e,h1,by rw[ha];exact h2,h3,h4,Nat.lt_of_lt_of_le h5 p.size,h6.post p h5,by rw[h6.same p h5];exact h7,h8,h9,h10⟩
structure HInv (P:Program)(C:jcF)(n0 B0 nt base:Nat)(fl:Nat→Bool)(ops:Array Oper)(l:List jap)(KK:jah→Heap→Prop)(s0:jah)(h0:Heap)(m0:Map)(w0:World)(defs:List Deferred)(listed:Array Bool)(k:Nat)(s:jah)(h:Heap)(m:Map)(a:Act)(w:World):Prop where
  pre:jaD C base fl ⟨[],none⟩ (l.drop k) s h KK
  post:Post n0 B0 fl m0 h0 w0 m h w
  size:a.tmps.size=nt
  dfs:a.defers=defs
  sfr: ∀t,(∀p∈l,p.dst≠some t)→s t=s0 t
  slot: ∀t,(∀(i:Nat) O,k≤i→Lst listed i→ops[i]?=some O→O.dst≠some t)→VR m (s t) (a.tmps.getD t undef)
  low: ∀i,i<k→Lst listed i
  kle:k≤ops.size
  lsz:listed.size=ops.size
  closed: ∀(k:Nat) O,ops[k]?=some O→Lst listed k→ ∀e∈jch O,Lst listed e
  hi: ∀(i:Nat) O o,k≤i→Lst listed i→ops[i]?=some O→l[i]?=some o→jc1 ops O=true∧ ∃d,O.dst=some d∧jsr B0 s0 h0 w0 l m h a w o d
theorem jh0 {O:Oper}(h:jc1 ops O=true):O.guard=none∧ ∃d,O.dst=some d:=by
 unfold jc1 at h
 simp only[Bool.and_eq_true] at h
 refine⟨by simpa using h.1.1,?_⟩
 exact Option.isSome_iff_exists.1 h.1.2
theorem jkA {O:Oper}{o:jap}(h:jc1 ops O=true)(hg:jbS ops O=some o.guard):o.guard=none:=by
 have:=(jh0 h).1
 unfold jbS at hg
 rw[this] at hg
 injection hg with hg
 exact hg.symm
theorem jkw {m:Map}{h:Heap}{w:World}{s:jah}{o:jap}(ho:o∈l)(hf:jlT l o=true){v:AV}(he:jag none (fun _=>false) s0 h0 o.op=some (v,h0))(hfl: ∀id∈jiW l s0 o,fl id=false)(p:Post n0 B0 fl m0 h0 w0 m h w)(hs: ∀t,(∀p∈l,p.dst≠some t)→s t=s0 t)(fl2:Nat→Bool):
  jag none fl2 s h o.op=some (v,h):=by
 have hf0:=hf
 unfold jlT at hf
 split at hf
 ·rename_i n t heq
  rw[heq] at he ⊢
  obtain⟨_,id,off,row,e1,e2,e3,e4⟩:=jeB he
  have hst:s t=s0 t:=hs t fun p hp=>by simpa using List.all_eq_true.1 hf p hp
  have hid:id∈jiW l s0 o:=by
   unfold jiW
   rw[if_pos hf0,heq]
   simp only[sees,e1,idOf,List.mem_singleton]
  have hb:blk h id=some row:=by
   rw[←e3]
   exact jbU (p.unt id (ja1 e3) (.inr (hfl id hid)))
  have:=e4 fl2 h hb
  simp only[jag,Opd.ev,hst] at this ⊢
  exact this
 ·cases hf
theorem HInv.catch_ (hc:jpl P nt ops l)(dr:Draw ops lD)(hua: ∀(i j:Nat) O p,ops[i]?=some O→ops[j]?=some p→i≠j→jbP O=true→jbP p=false)(hB:B0≤w0.heap.size)
  (hfl: ∀o∈l,∀ id∈jiW l s0 o,fl id=false) {listed:Array Bool} {k:Nat} {s:jah} {h:Heap} {m:Map} {a:Act} {w:World} (I:HInv P C n0 B0 nt base fl ops l KK s0 h0 m0 w0 defs listed k s h m a w) (hk:k<ops.size) (hl:Lst listed k):
  ∃s' h' m',HInv P C n0 B0 nt base fl ops l KK s0 h0 m0 w0 defs listed (k+1) s' h' m' a w:=by
 obtain⟨O,hO⟩: ∃O,ops[k]?=some O:=⟨ops[k],Array.getElem?_eq_getElem hk⟩
 obtain⟨o,ho,hop,hdst,hg,hiso,hd⟩:=hc.at_ k O hO
 obtain⟨hfree,d,hOd,ext⟩:=I.hi k O o (Nat.le_refl _) hl hO ho
 have hog:=jkA hfree hg
 have hom:o∈l:=List.mem_of_getElem? ho
 have hdrop:l.drop k=o::l.drop (k+1):=by
  rw[List.drop_eq_getElem_cons (by rw[hc.len];exact hk)]
  congr 1
  have:=List.getElem?_eq_getElem (l:=l) (i:=k) (by rw[hc.len];exact hk)
  rw[ho] at this;injection this with this;exact this.symm
 have pre:=I.pre
 rw[hdrop] at pre
 have hw:jaR o s=some true:=by unfold jaR;rw[hog]
 simp only[jaD,hw] at pre
 have hod:o.dst=some d:=by rw[hdst];exact hOd
 have hne: ∀(i:Nat) O',i≠k→ops[i]?=some O'→O'.dst≠some d:=fun i O' hi hO'=>(dr.data i k O' O d hO' hO (Ne.symm hi) hOd).1
 have dom:=I.post.rels.dom
 have wth: ∀forb,(Seen.mk [] none).with o forb s=⟨[],none⟩:=fun forb=>by unfold Seen.with;rw[if_pos hiso]
 have low: ∀i,i<k+1→Lst listed i:=fun i hi=>by
  by_cases e:i=k
  ·rw[e];exact hl
  ·exact I.low i (by omega)
 rcases ext with⟨v,h1,h2,h3⟩|⟨cs,q,arr,e,h1,h2,h3,h4,h5,h6,h7,h8,h9,h10⟩
 ·have he:=fun fl2=>jkw hom h1 h2 (hfl o hom) I.post I.sfr fl2
  have hkk:jaD C base fl ⟨[],none⟩ (l.drop (k+1)) (put s o.dst v) h KK:=by
   unfold jdl at pre
   split at pre
   ·rename_i f args heq
    rw[heq] at he
    exact absurd (he fl) (by simp[jag])
   ·rename_i x1 heq
    rw[heq] at he
    exact absurd (he fl) (by simp[jag])
   ·obtain⟨v',h',q1,q2⟩:=pre
    rw[if_pos hiso,he] at q1
    injection q1 with q1;injection q1 with e1 e2;subst e1;subst e2
    rw[wth] at q2
    exact q2
  refine⟨put s o.dst v,h,m,hkk,I.post,I.size,I.dfs,fun t ht=>?_,fun t ht=>?_,low,hk,I.lsz,I.closed,fun i O' o' hi hli hO' ho'=>I.hi i O' o' (by omega) hli hO' ho'⟩
  ·rw[jcV,if_neg (ht o hom)];exact I.sfr t ht
  ·rw[jcV]
   by_cases e:o.dst=some t
   ·rw[if_pos e]
    rw[hod] at e;injection e with e;subst e
    exact h3
   ·rw[if_neg e]
    refine I.slot t fun i O' hi hli hO'=>?_
    by_cases e2:i=k
    ·subst e2
     rw[hO] at hO';injection hO' with hO';subst hO'
     rw[←hdst];exact e
    ·exact ht i O' (by omega) hli hO'
 ·have hcs:=h9 m
  have hkk:jaD C base fl ⟨[],none⟩ (l.drop (k+1)) (put s o.dst (.ptr h.length 0)) (h++[some cs]) KK:=by
   unfold jdl at pre
   rw[h1] at pre
   simp only[jag] at pre
   obtain⟨v',h',q1,q2⟩:=pre
   injection q1 with q1;injection q1 with e1 e2;subst e1;subst e2
   rw[wth] at q2
   exact q2
  have P1 := jqZ I.post h3 h6 h4 h5 cs arr e cs.length h10 (Nat.le_refl _) h8 (fun i x hx => by
   obtain⟨y,hy,hr⟩:=hcs.get hx
   exact⟨y,by simpa using hy,hr⟩) h7
  have hm: ∀id b,m id=some b→mset m h.length ⟨q,0,cs.length,false⟩ id=some b:=fun id b hb=>by
   have:=dom id b hb
   simp only[mset];rw[if_neg (by omega)];exact hb
  refine⟨put s o.dst (.ptr h.length 0),h++[some cs],_,hkk,P1,I.size,I.dfs,fun t ht=>?_,fun t ht=>?_,low,hk,I.lsz,I.closed,fun i O' o' hi hli hO' ho'=>?_⟩
  ·rw[jcV,if_neg (ht o hom)];exact I.sfr t ht
  ·rw[jcV]
   by_cases e:o.dst=some t
   ·rw[if_pos e]
    rw[hod] at e;injection e with e;subst e
    rw[h2]
    exact VR.ptr (b:=⟨q,0,_,false⟩) ⟨by simp[mset];rfl,rfl⟩
   ·rw[if_neg e]
    refine (I.slot t fun i O' hi hli hO'=>?_).mono hm
    by_cases e2:i=k
    ·subst e2
     rw[hO] at hO';injection hO' with hO';subst hO'
     rw[←hdst];exact e
    ·exact ht i O' (by omega) hli hO'
  ·obtain⟨f1,d1,f2,x⟩:=I.hi i O' o' (by omega) hli hO' ho'
   refine⟨f1,d1,f2,?_⟩
   rcases x with⟨v,a1,a2,a3⟩|⟨cs2,q2,arr2,e2,a1,a2⟩
   ·exact .inl ⟨v,a1,a2,a3.mono hm⟩
   ·exfalso
    have za: ∀(O:Oper) (o:jap) cs,jc1 ops O=true→o.op=(cOp P O).getD .bad→o.op= .zero cs→jbP O=true:=by
     intro O o cs hf hop hz
     unfold jc1 at hf
     simp only[Bool.and_eq_true] at hf
     have hf:=hf.2
     obtain⟨dst,op,ty,pos,af,gd⟩:=O
     unfold jbP
     split at hf
     ·rename_i t1 t2 heq
      simp only at heq;subst heq
      exfalso
      rw[hop] at hz
      simp only[cOp] at hz
      cases hq:aggT P t1 with
      |none=>rw[hq] at hz;simp at hz
      |some n=>rw[hq] at hz;simp[cOpd] at hz
     ·rename_i heq
      simp only at heq;subst heq
      rfl
     ·cases hf
    obtain⟨o2,b1,b2,_⟩:=hc.at_ i O' hO'
    rw[ho'] at b1;injection b1 with b1;subst b1
    have:=hua k i O O' hO hO' (by omega) (za O o cs hfree hop h1)
    rw[za O' o' cs2 f1 b2 a1] at this
    cases this
theorem HInv.catchTo (hc:jpl P nt ops l)(dr:Draw ops lD)(hua: ∀(i j:Nat) O p,ops[i]?=some O→ops[j]?=some p→i≠j→jbP O=true→jbP p=false)(hB:B0≤w0.heap.size)
  (hfl: ∀o∈l,∀ id∈jiW l s0 o,fl id=false) {listed:Array Bool} {a:Act} {w:World}: ∀(n k:Nat) (s:jah) (h:Heap) (m:Map),HInv P C n0 B0 nt base fl ops l KK s0 h0 m0 w0 defs listed k s h m a w→k+n≤ops.size→(∀i,k≤i→i<k+n→Lst listed i)→
  ∃s' h' m',HInv P C n0 B0 nt base fl ops l KK s0 h0 m0 w0 defs listed (k+n) s' h' m' a w
 |0,k,s,h,m,I,_,_=>⟨s,h,m,I⟩
 |n+1,k,s,h,m,I,hn,hl=>by
  obtain⟨s',h',m',I'⟩:=I.catch_ hc dr hua hB hfl (by omega) (hl k (Nat.le_refl _) (by omega))
  have:=HInv.catchTo hc dr hua hB hfl n (k+1) s' h' m' I' (by omega) (fun i h1 h2=>hl i (by omega) (by omega))
  rw[show k+(n+1)=k+1+n by omega]
  exact this
theorem jno {listed:Array Bool}(hlsz:listed.size=ops.size){k:Nat}(hk:k∈Region.ready .any ops listed): ¬Lst listed k∧ ∃O,ops[k]?=some O∧ ∀e∈jch O,Lst listed e:=by
 obtain⟨hnl,O,hO,hedge⟩:=mem_ready.1 hk
 have hks:k<ops.size:=(Array.getElem?_eq_some_iff.1 hO).1
 have hkl:k<listed.size:=by rw[hlsz];exact hks
 refine⟨?_,O,hO,fun e hee=>?_⟩
 ·unfold Lst
  simp only[Array.getD_eq_getD_getElem?,Array.getElem?_eq_getElem hkl,Option.getD_some] at hnl ⊢
  rw[hnl];simp
 ·unfold jch at hee
  obtain⟨x,hx,rfl⟩:=List.mem_map.1 hee
  obtain⟨h1,h2⟩:=List.mem_filter.1 hx
  exact hedge x (by simpa using h1) h2
theorem HInv.free (hc:jpl P nt ops l)(dr:Draw ops lD){listed:Array Bool}{k:Nat}{s:jah}{h:Heap}{m:Map}{a:Act}{w:World}(I:HInv P C n0 B0 nt base fl ops l KK s0 h0 m0 w0 defs listed k s h m a w){j:Nat}{O:Oper}{o:jap}{d:Nat}(hO:ops[j]?=some O)(ho:l[j]?=some o)(hnl: ¬Lst listed j)(he: ∀e∈jch O,Lst listed e)(hOd:O.dst=some d)(hf:jc1 ops O=true)
  {m':Map} {w':World} {v':Value} (p:Post n0 B0 fl m h w m' h w') (hx:jsr B0 s0 h0 w0 l m' h (a.put (some d) v') w' o d) (hd0: ∀id b,m0 id=some b→id<h0.length):HInv P C n0 B0 nt base fl ops l KK s0 h0 m0 w0 defs (listed.setIfInBounds j true) k s h m' (a.put (some d) v') w':=by
 have hjs:j<ops.size:=(Array.getElem?_eq_some_iff.1 hO).1
 have hjl:j<listed.size:=by rw[I.lsz];exact hjs
 have hkj:k≤j:=Nat.le_of_not_lt fun h=>hnl (I.low j h)
 obtain⟨o1,c1,c2,c3,c4,c5,c6⟩:=hc.at_ j O hO
 have hdn:d<a.tmps.size:=by rw[I.size];exact c6 d hOd
 have hput: ∀t,t≠d→(a.put (some d) v').tmps.getD t undef=a.tmps.getD t undef:=fun t ht=>by
  rw[jb9 a (some d) v' t (fun x hx=>by injection hx with hx;subst hx;exact hdn),if_neg (fun e=>ht (by injection e with e;exact e.symm))]
 refine⟨I.pre,I.post.trans hd0 p,by rw[jer];exact I.size,I.dfs,I.sfr,fun t ht=>?_,fun i hi=>(jaH hjl).2 (.inl (I.low i hi)),I.kle,by simpa using I.lsz,fun i O' hO' hl' e hee=>?_,fun i O' o' hi hl' hO' ho'=>?_⟩
 ·have htd:t≠d:=fun e=>ht j O hkj ((jaH hjl).2 (.inr rfl)) hO (by rw[e];exact hOd)
  rw[hput t htd]
  exact (I.slot t fun i O' h1 h2 h3=>ht i O' h1 ((jaH hjl).2 (.inl h2)) h3).mono (p.ext I.post.rels.dom)
 ·rcases (jaH hjl).1 hl' with q|q
  ·exact (jaH hjl).2 (.inl (I.closed i O' hO' q e hee))
  ·subst q
   rw[hO] at hO';injection hO' with hO';subst hO'
   exact (jaH hjl).2 (.inl (he e hee))
 ·by_cases e:i=j
  ·subst e
   rw[hO] at hO';injection hO' with hO';subst hO'
   rw[ho] at ho';injection ho' with ho';subst ho'
   exact⟨hf,d,hOd,hx⟩
  ·rcases (jaH hjl).1 hl' with q|q
   ·obtain⟨f1,d1,f2,x⟩:=I.hi i O' o' hi q hO' ho'
    refine⟨f1,d1,f2,x.step p I.post.rels.dom (hput d1 fun e2=>?_)⟩
    exact (dr.data i j O' O d hO' hO (Ne.symm e) hOd).1 (by rw[←e2];exact f2)
   ·exact absurd q e
theorem joD (hC:jb5 P Gp C)(hc:jpl P nt ops l)(dr:Draw ops lD)(hh: ∀(j:Nat) O,ops[j]?=some O→jc1 ops O=true∨ ∀i,i<j→Reach ops i j)(hua: ∀(i j:Nat) O p,ops[i]?=some O→ops[j]?=some p→i≠j→jbP O=true→jbP p=false)(hB:B0≤w0.heap.size)(hd0: ∀id b,m0 id=some b→id<h0.length)
  (hfl0: ∀id,fl id=true→n0≤id) (hfl: ∀o∈l,∀ id∈jiW l s0 o,fl id=false) (hpre:preH l s0 h0=true) {listed:Array Bool} {k:Nat} {s:jah} {h:Heap} {m:Map} {a:Act} {w:World} (I:HInv P C n0 B0 nt base fl ops l KK s0 h0 m0 w0 defs listed k s h m a w) {j:Nat} (hj:j∈Region.ready .any ops listed)
  {K:Act→World→Prop} {Q:Exit→Act→World→Prop} (hK: ∀k' s' h' m' a' w',HInv P C n0 B0 nt base fl ops l KK s0 h0 m0 w0 defs (listed.setIfInBounds j true) k' s' h' m' a' w'→K a' w')
  (hG: ∀pv h' m' a' w',Gp pv→Post n0 B0 fl m0 h0 w0 m' h' w'→a'.defers=defs→Q (.panic [{ v:=pv,recovered:=false }]) a' w'):wpOp P ops Q j K a w:=by
 obtain⟨hnl,O,hO,he⟩:=jno I.lsz hj
 have hjs:j<ops.size:=(Array.getElem?_eq_some_iff.1 hO).1
 have hjl:j<listed.size:=by rw[I.lsz];exact hjs
 have hkj:k≤j:=Nat.le_of_not_lt fun h=>hnl (I.low j h)
 obtain⟨o,ho,hop,hdst,hg,hiso,hd⟩:=hc.at_ j O hO
 have hom:o∈l:=List.mem_of_getElem? ho
 have hpo:=List.all_eq_true.1 hpre o hom
 simp only[Bool.and_eq_true] at hpo
 obtain⟨x,hx⟩: ∃x,cOp P O=some x:=by
  cases hq:cOp P O with
  |some x=>exact⟨x,rfl⟩
  |none=>
   rw[hq] at hop
   simp only[Option.getD_none] at hop
   rw[hop] at hpo
   simp at hpo
 rw[hx] at hop
 simp only[Option.getD_some] at hop
 unfold wpOp
 rw[hO]
 simp only
 by_cases hf:jc1 ops O=true
 ·obtain⟨hgd,d,hOd⟩:=jh0 hf
  have hwant:Region.wanted O (yielded ops a.tmps)=true:=by unfold Region.wanted;rw[hgd]
  rw[hwant]
  simp only[if_true]
  have hf2:=hf
  unfold jc1 at hf2
  simp only[Bool.and_eq_true] at hf2
  replace hf2:=hf2.2
  obtain⟨dst,op,ty,pos,af,gd⟩:=O
  simp only at hOd hgd;subst hOd;subst hgd
  left
  split at hf2
  ·rename_i t1 t2 heq
   simp only at heq;subst heq
   obtain⟨n,hn,hxe⟩: ∃n,aggT P t1=some n∧x= .load n (.tmp t2):=by
    simp only[cOp] at hx
    cases hq:aggT P t1 with
    |none=>rw[hq] at hx;simp at hx
    |some n=>rw[hq] at hx;simp[cOpd] at hx;exact⟨n,rfl,hx.symm⟩
   subst hxe
   have ht2: ∀p∈l,p.dst≠some t2:=fun p hp=>by
    obtain⟨i,hi⟩:=List.mem_iff_getElem?.1 hp
    have hil:i<ops.size:=by rw[←hc.len];exact (List.getElem?_eq_some_iff.1 hi).1
    obtain⟨p',b1,_,b3,_⟩:=hc.at_ i _ (Array.getElem?_eq_getElem hil)
    rw[hi] at b1;injection b1 with b1;subst b1
    rw[b3]
    have:=List.all_eq_true.1 hf2 ops[i] (by simp)
    simpa using this
   have hfa:jlT l o=true:=by
    unfold jlT
    rw[hop]
    simp only
    exact List.all_eq_true.2 fun p hp=>by simpa using ht2 p hp
   have hsome:=hpo.2
   rw[hfa] at hsome
   simp only[Bool.not_true,Bool.false_or] at hsome
   obtain⟨⟨v,hq⟩,hv⟩:=Option.isSome_iff_exists.1 hsome
   have hqh:hq=h0:=by rw[hop] at hv;exact (jeB hv).1
   subst hqh
   have hrun:=jkw hom hfa hv (hfl o hom) I.post I.sfr fl
   rw[hop] at hrun
   refine jni (P:=P) hx hrun I.post.rels hfl0 (fun y hy z hz=>?_) (fun v' w' m' p hvr=>?_)
   ·simp only[Op.operands] at hy
    simp at hy
    subst hy
    exact jeH hz fun t ht=>by
     injection ht with ht;subst ht
     refine I.slot t2 fun i O' h1 h2 h3=>?_
     obtain⟨p',b1,_,b3,_⟩:=hc.at_ i O' h3
     rw[←b3];exact ht2 p' (List.mem_of_getElem? b1)
   ·refine hK k s h m' _ w' (I.free hc dr hO ho hnl he rfl hf p (.inl ⟨v,hfa,hv,?_⟩) hd0)
    rw[jb9 a (some d) v' d (fun x hx=>by injection hx with hx;subst hx;rw[I.size];exact hd d rfl),if_pos rfl]
    exact hvr
  ·rename_i t1 heq
   simp only at heq;subst heq
   simp only[cOp,Option.map_eq_some_iff] at hx
   obtain⟨cs,hz,hx⟩:=hx
   subst hx
   obtain⟨zv,z1,z2,z3⟩:=jaX (P:=P) (w:=w) hz
   unfold Oper.wp
   have hrun:(execOp a.eval { dst:=some d,op:= .alloc t1,type:=ty,pos:=pos,after:=af,guard:=none }).run P w= .ok (.value (.pointer (some ⟨w.heap.size,0,none⟩))) (w.alloc (.cells zv.cells t1)):=by
    simp[execOp,Instr.alloc,z1,newVar,newRow]
   rw[hrun]
   have hob:(w.alloc (.cells zv.cells t1)).heap[w.heap.size]?=some (.cells zv.cells t1):=by
    show (w.heap.push _)[w.heap.size]?=_;simp
   refine hK k s h m _ _ (I.free hc dr hO ho hnl he rfl hf (post_un I.post.rels _) (.inr ⟨cs,w.heap.size,zv.cells,t1,hop,?_,?_,I.post.size,by simp,fun id row b h1 h2 h3=>?_,hob,by have:=(z2 m).1;simp at this;omega,z2,z3⟩) hd0)
   ·rw[jb9 a (some d) _ d (fun x hx=>by injection hx with hx;subst hx;rw[I.size];exact hd d rfl),if_pos rfl]
   ·exact Nat.le_trans hB I.post.size
   ·have:=I.post.rels.rel.lt id b h2
    omega
  ·cases hf2
 ·have hall: ∀i,i<j→Lst listed i:=fun i hi=>by
   rcases hh j O hO with q|q
   ·exact absurd q hf
   ·exact (q i hi).ready I.closed (fun O' h' e hee=>by rw[hO] at h';injection h' with h';subst h';exact he e hee)
  obtain⟨s1,h1,m1,I1⟩:=HInv.catchTo hc dr hua hB hfl (j - k) k s h m I (by omega) (fun i _ h2=>hall i (by omega))
  rw[show k+(j - k)=j by omega] at I1
  clear I
  have dom:=I1.post.rels.dom
  have hdrop:l.drop j=o::l.drop (j+1):=by
   rw[List.drop_eq_getElem_cons (by rw[hc.len];exact hjs)]
   congr 1
   have:=List.getElem?_eq_getElem (l:=l) (i:=j) (by rw[hc.len];exact hjs)
   rw[ho] at this;injection this with this;exact this.symm
  have pre:=I1.pre
  rw[hdrop] at pre
  have hlook: ∀t∈looks ops O,VR m1 (s1 t) (a.tmps.getD t undef):=fun t ht=>I1.slot t fun i O' h1 h2 h3 h4=>by
   by_cases e:i=j
   ·subst e;exact hnl h2
   ·have:=(dr.data j i O O' t hO h3 e h4).2 ht
    unfold Ord at this
    rw[if_neg (by omega)] at this
    exact hnl (this.closed I1.closed h2)
  have wth: ∀forb,(Seen.mk [] none).with o forb s1=⟨[],none⟩:=fun forb=>by unfold Seen.with;rw[if_pos hiso]
  have nxt: ∀(v:AV) (v':Value) (h':Heap) (m':Map) (w':World),jaD C base fl ⟨[],none⟩ (l.drop (j+1)) (put s1 o.dst v) h' KK→Post n0 B0 fl m1 h1 w m' h' w'→VR m' v v'→HInv P C n0 B0 nt base fl ops l KK s0 h0 m0 w0 defs (listed.setIfInBounds j true) (j+1) (put s1 o.dst v) h' m' (a.put O.dst v') w':=by
   intro v v' h' m' w' hp p hv
   have hput: ∀t,O.dst≠some t→(a.put O.dst v').tmps.getD t undef=a.tmps.getD t undef:=fun t ht=>by
    rw[jb9 a O.dst v' t (fun x hx=>by rw[I1.size];exact hd x hx),if_neg ht]
   refine⟨hp,I1.post.trans hd0 p,by rw[jer];exact I1.size,by have:=I1.dfs;cases hdd:O.dst<;>exact this,fun t ht=>?_,fun t ht=>?_,fun i hi=>?_,hjs,by simpa using I1.lsz,fun i O' hO' hl' e hee=>?_,fun i O' o' hi hl' hO' ho'=>?_⟩
   ·rw[jcV,if_neg (ht o hom)];exact I1.sfr t ht
   ·rw[jcV,hdst]
    by_cases e:O.dst=some t
    ·rw[if_pos e,jb9 a O.dst v' t (fun x hx=>by rw[I1.size];exact hd x hx),if_pos e]
     exact hv
    ·rw[if_neg e,hput t e]
     refine (I1.slot t fun i O' g1 g2 g3=>?_).mono (p.ext dom)
     refine ht i O' ?_ ((jaH hjl).2 (.inl g2)) g3
     by_cases e2:i=j
     ·subst e2;exact absurd g2 hnl
     ·omega
   ·by_cases e:i=j
    ·exact (jaH hjl).2 (.inr e)
    ·exact (jaH hjl).2 (.inl (I1.low i (by omega)))
   ·rcases (jaH hjl).1 hl' with q|q
    ·exact (jaH hjl).2 (.inl (I1.closed i O' hO' q e hee))
    ·subst q
     rw[hO] at hO';injection hO' with hO';subst hO'
     exact (jaH hjl).2 (.inl (he e hee))
   ·rcases (jaH hjl).1 hl' with q|q
    ·obtain⟨f1,d1,f2,x⟩:=I1.hi i O' o' (by omega) q hO' ho'
     refine⟨f1,d1,f2,x.step p dom (hput d1 fun e2=>?_)⟩
     exact (dr.data j i O O' d1 hO hO' (by omega) f2).1 e2
    ·omega
  simp only[jaD] at pre
  have hU:o.op=(cOpU P O).getD .bad:=by
   have:cOpU P O=some x:=by unfold cOpU;rw[hx]
   rw[this];exact hop
  split at pre
  ·rename_i hw
   rw[jbq hg (fun t b hgt=>hlook t (jb8 hg hgt)) hw]
   simp only[if_true]
   refine .inl (jlG hC hU pre I1.post.rels hfl0 (fun y hy z hz=>jeH hz fun t ht=>hlook t (jkm (ht▸hy))) (fun v h' v' w' m' hkk pp hv=>?_) fun pv h' m' w' hgp pp=>hG pv h' m' a w' hgp (I1.post.trans hd0 (pp.mono fun i h=>jcA i h)) I1.dfs)
   rw[wth] at hkk
   exact hK _ _ _ _ _ _ (nxt v v' h' m' w' hkk (pp.mono fun i h=>jcA i h) hv)
  ·rename_i hw
   rw[jbq hg (fun t b hgt=>hlook t (jb8 hg hgt)) hw]
   simp only[Bool.false_eq_true,if_false]
   exact hK _ _ _ _ _ _ (nxt .no undef h1 m1 w pre (.refl I1.post.rels) VRs.no)
  ·exact pre.elim
theorem jro (hC:jb5 P Gp C)(hc:jpl P nt ops l)(dr:Draw ops lD)(hh: ∀(j:Nat) O,ops[j]?=some O→jc1 ops O=true∨ ∀i,i<j→Reach ops i j)(hua: ∀(i j:Nat) O p,ops[i]?=some O→ops[j]?=some p→i≠j→jbP O=true→jbP p=false)(hB:B0≤w0.heap.size)(hd0: ∀id b,m0 id=some b→id<h0.length)
  (hfl0: ∀id,fl id=true→n0≤id) (hfl: ∀o∈l,∀ id∈jiW l s0 o,fl id=false) (hpre:preH l s0 h0=true) {Q:Exit→Act→World→Prop} (hQ: ∀s' h' m' a' w',KK s' h'→Post n0 B0 fl m0 h0 w0 m' h' w'→SR nt m' s' a'→a'.defers=defs→Q .normal a' w')
  (hG: ∀pv h' m' a' w',Gp pv→Post n0 B0 fl m0 h0 w0 m' h' w'→a'.defers=defs→Q (.panic [{ v:=pv,recovered:=false }]) a' w'):
  ∀(fuel:Nat) (listed:Array Bool) (k:Nat) (s:jah) (h:Heap) (m:Map) (a:Act) (w:World),unl ops listed=fuel→HInv P C n0 B0 nt base fl ops l KK s0 h0 m0 w0 defs listed k s h m a w→wpAny P .any ops Q fuel listed a w:=by
 intro fuel
 have fin: ∀(listed:Array Bool) (k:Nat) (s:jah) (h:Heap) (m:Map) (a:Act) (w:World),Region.ready .any ops listed=[]→HInv P C n0 B0 nt base fl ops l KK s0 h0 m0 w0 defs listed k s h m a w→Q .normal a w:=by
  intro listed k s h m a w hr I
  have hall: ∀i,i<ops.size→Lst listed i:=fun i hi=>by
   by_cases h:Lst listed i
   ·exact h
   ·obtain⟨j,hj⟩:=jiY dr I.lsz (i+1) i (by omega) hi h
    rw[hr] at hj;cases hj
  have:=I.kle
  obtain⟨s1,h1,m1,I1⟩:=HInv.catchTo hc dr hua hB hfl (ops.size - k) k s h m I (by omega) (fun i _ h2=>hall i (by omega))
  rw[show k+(ops.size - k)=ops.size by omega] at I1
  have pre:=I1.pre
  rw[List.drop_eq_nil_of_le (by rw[hc.len];exact Nat.le_refl _)] at pre
  refine hQ s1 h1 m1 a w pre I1.post ⟨I1.size,fun t=>I1.slot t fun i O hi _ hO=>?_⟩ I1.dfs
  have:=(Array.getElem?_eq_some_iff.1 hO).1
  omega
 induction fuel with
 |zero=>
  intro listed k s h m a w hu I
  have hr:Region.ready .any ops listed=[]:=by
   cases h:Region.ready .any ops listed with
   |nil=>rfl
   |cons j r=>
    have hj:j∈Region.ready .any ops listed:=by rw[h];simp
    obtain⟨hnl,O,hO,_⟩:=mem_ready.1 hj
    have hjs:j<ops.size:=(Array.getElem?_eq_some_iff.1 hO).1
    have hp:(!listed.getD j false)=true:=by
     simp only[Array.getD_eq_getD_getElem?,Array.getElem?_eq_getElem (show j<listed.size by rw[I.lsz];exact hjs),Option.getD_some] at hnl ⊢
     rw[hnl];rfl
    have:=(List.countP_pos_iff (p:=fun i=> !listed.getD i false) (l:=List.range ops.size)).2 ⟨j,List.mem_range.2 hjs,hp⟩
    unfold unl at hu
    omega
  exact⟨hr,fin listed k s h m a w hr I⟩
 |succ fuel ih=>
  intro listed k s h m a w hu I
  refine⟨fun hr=>fin listed k s h m a w hr I,fun j hj=>?_⟩
  obtain⟨hnk,O,hO,_⟩:=jno I.lsz hj
  have hks:j<ops.size:=(Array.getElem?_eq_some_iff.1 hO).1
  have:=jqp hks I.lsz hnk
  exact joD hC hc dr hh hua hB hd0 hfl0 hfl hpre I hj (fun k' s' h' m' a' w' I'=>ih _ k' s' h' m' a' w' (by omega) I') hG
theorem jky (hmix:P.follows .mixedOrders=true)(hC:jb5 P Gp C)(hfl: ∀id,fl id=true→n0≤id){id:Nat}{l0:List jap}(hcomp:jcC P nt ops true=some l0)(hl:l=l0.map jap.fix)(hok:jlQ ops=true){s:jah}{h:Heap}(hpre:preH l s h=true)(hrun:jaD C base (flH fl l s) ⟨[],none⟩ l s h KK)
  {m:Map} {w:World} (r:Rels n0 B0 m h w) {a:Act} (hs:SR nt m s a) {Q:Exit→Act→World→Prop} (hQ: ∀s' h' m' a' w',KK s' h'→Post n0 B0 fl m h w m' h' w'→SR nt m' s' a'→a'.defers=a.defers→Q .normal a' w') (hG: ∀pv h' m' a' w',Gp pv→Post n0 B0 fl m h w m' h' w'→a'.defers=a.defers→Q (.panic [{ v:=pv,recovered:=false }]) a' w'):(Code.region id ops true).wp P Q a w:=by
 obtain⟨hc0,dr0⟩:=jdK hcomp
 have hc : jpl P nt ops l := ⟨by rw [hl, List.length_map, hc0.len], fun i O hO => by
  obtain⟨o,h1,h2,h3,h4,h5⟩:=hc0.at_ i O hO
  exact⟨o.fix,by rw[hl,List.getElem?_map,h1];rfl,h2,h3,h4,rfl,h5⟩⟩
 unfold jlQ at hok
 rw[Bool.and_eq_true] at hok
 have hmem: ∀(i:Nat) O,ops[i]?=some O→(O,i)∈ops.toList.zipIdx:=fun i O hO=>List.mem_of_getElem? (i:=i) (by simp[List.getElem?_zipIdx,hO])
 have hh: ∀(j:Nat) O,ops[j]?=some O→jc1 ops O=true∨ ∀i,i<j→Reach ops i j:=fun j O hO=>by
  have:=List.all_eq_true.1 hok.1 (O,j) (hmem j O hO)
  simp only[Bool.or_eq_true] at this
  rcases this with q|q
  ·exact .inl q
  ·refine .inr fun i hi=>?_
   have hci:=List.all_eq_true.1 q i (List.mem_range.2 hi)
   have:=jcd (ops:=ops) (i:=i) (k:=j) (by unfold jeW;rw[if_pos hi];exact hci)
   unfold Ord at this
   rw[if_pos hi] at this
   exact this
 have hua: ∀(i j:Nat) O p,ops[i]?=some O→ops[j]?=some p→i≠j→jbP O=true→jbP p=false:=fun i j O p hO hp hij ha=>by
  have:=List.all_eq_true.1 hok.2 (O,i) (hmem i O hO)
  have:=List.all_eq_true.1 this (p,j) (hmem j p hp)
  simp only[Bool.or_eq_true,beq_iff_eq,ha,Bool.not_true,Bool.false_eq_true,or_false] at this
  rcases this with q|q
  ·exact absurd q (Ne.symm hij)
  ·simpa using q
 have dr:=dr0
 have hB:B0≤w.drew.heap.size:=r.rel.base
 have r':Rels n0 B0 m h w.drew:=r.drew
 have hno: ∀i,¬ Lst (Array.replicate ops.size false) i:=fun i h=>by
  unfold Lst at h
  simp only[Array.getD_eq_getD_getElem?,Array.getElem?_replicate] at h
  split at h<;>simp at h
 refine wp_region_any hmix ?_
 have hle: ∀i,flH fl l s i=true→fl i=true:=fun i hi=>by unfold flH at hi;simp only[Bool.and_eq_true] at hi;exact hi.1
 refine jro (fl:=flH fl l s) (s0:=s) (h0:=h) (m0:=m) (w0:=w.drew) (defs:=a.defers) (KK:=KK) hC hc dr hh hua hB r.dom (fun id hid=>hfl id (hle id hid)) (fun o ho id hid=>?_) hpre (fun s' h' m' a' w' k p q d=>hQ s' h' m' a' w' k (p.drew.mono hle) q d) (fun pv h' m' a' w' g p d=>hG pv h' m' a' w' g (p.drew.mono hle) d) ops.size (Array.replicate ops.size false) 0 s h m a _ ?_ ⟨hrun,.refl r',hs.size,rfl,fun _ _=>rfl,fun t _=>hs.slot t,fun i hi=>absurd hi (by omega),Nat.zero_le _,by simp,fun i O _ hl=>absurd hl (hno i),fun i O o _ hl=>absurd hl (hno i)⟩
 ·unfold flH
  have:(l.flatMap (jiW l s)).contains id=true:=List.contains_iff_mem.2 (List.mem_flatMap.2 ⟨o,ho,hid⟩)
  rw[this];simp
 ·unfold unl
  rw [List.countP_eq_length.2 (fun i hi => by
   have:=List.mem_range.1 hi
   simp[Array.getD_eq_getD_getElem?,this])]
  simp
end
end
section
open Go Go.RowKit
variable {P:Program}{n0 B0 nt:Nat}{fl:Nat→Bool}{ops:Array Oper}{l:List jap}{C:jaG}{D:List (Nat×Nat)}
theorem vlight {O:Oper}{x:AOp}(hc:cOp P O=some x){o:jap}(hk:jqo O o=true)(ho:o.op=x)(hnl: ∀t y,O.op≠ .load t y){m:Map}{h h':Heap}{ρ:Operand→Value}{s:jah}(hs: ∀y∈O.op.operands.toList,∀ z,cOpd y=some z→VR m (z.ev s) (ρ y)){v:AV}(he:jag none fl s h x=some (v,h')):
  h'=h∧ ∃v',(∀w,(execOp ρ O).run P w= .ok (.value v') w)∧VR m v v':=by
 obtain⟨dst,op,ty,pos,af,gd⟩:=O
 unfold jqo at hk
 split at hk
 ·rename_i a heq
  simp only at heq;subst heq
  simp only[cOp,Option.map_eq_some_iff] at hc
  obtain⟨a',ha,rfl⟩:=hc
  simp only[jag] at he
  injection he with he;injection he with he1 he2;subst he1;subst he2
  exact⟨rfl,ρ a,fun w=>rfl,hs a (by simp[Op.operands]) a' ha⟩
 ·rename_i a heq
  simp only at heq;subst heq
  simp only[cOp,Option.map_eq_some_iff] at hc
  obtain⟨a',ha,rfl⟩:=hc
  simp only[jag] at he
  injection he with he;injection he with he1 he2;subst he1;subst he2
  exact⟨rfl,ρ a,fun w=>rfl,hs a (by simp[Op.operands]) a' ha⟩
 ·rename_i t a f heq
  simp only at heq;subst heq
  simp only[cOp,Option.bind_eq_bind,Option.bind_eq_some_iff] at hc
  obtain⟨fd,hf,n,hn,hc⟩:=hc
  split at hc
  ·cases hc
  ·rename_i hn0
   simp only[Option.bind_eq_some_iff,Option.pure_def,Option.some.injEq] at hc
   obtain⟨x',hx',rfl⟩:=hc
   have hx:=hs a (by simp[Op.operands]) x' hx'
   simp only[jag] at he
   split at he
   ·rename_i id off hp
    rw[hp] at hx
    injection he with he;injection he with he1 he2;subst he1;subst he2
    obtain⟨b,hb,hp⟩:=hx.ptr_inv
    unfold jgL at hf
    split at hf
    ·rename_i fs hu
     refine⟨rfl,.pointer (some ⟨b.b,b.off+(off+fd.offset),none⟩),fun w=>?_,.ptr hb⟩
     simp[execOp,hp,Instr.fieldAt,jaj hu,hf,Instr.sureAddr,fieldPlace,jam hn,hn0,jca,Nat.add_assoc]
    ·cases hf
   ·cases he
 ·rename_i t a i heq
  simp only at heq;subst heq
  simp only[cOp] at hc
  split at hc
  ·rename_i e0 hu0
   simp only[Option.bind_eq_bind,Option.bind_eq_some_iff,Option.pure_def,Option.some.injEq] at hc
   obtain⟨⟨k,bytes,zs⟩,ht,x',hx',y',hy',rfl⟩:=hc
   have hx:=hs a (by simp[Op.operands]) x' hx'
   have hy:=hs i (by simp[Op.operands]) y' hy'
   obtain⟨e,inf,hu,hi,rfl,_,_,_,_,_⟩:=jbE ht
   simp only[jag] at he
   split at he
   ·rename_i id off len lb ex k' j hp hj
    rw[hp] at hx
    obtain⟨kd,hj⟩:=jcf hj hy
    split at he
    ·rename_i hlt
     injection he with he;injection he with he1 he2;subst he1;subst he2
     generalize hq:ρ a=u at hx
     cases hx with
     |slice hb ho' h1 h2 h3 h4=>
      rename_i b o' c
      have:o'=off:=ho' (by omega)
      subst this
      refine⟨rfl,.pointer (some ⟨b.b,b.off+(o'+j*inf.size),none⟩),fun w=>?_,.ptr hb⟩
      have hlt':(j:Int)<(len:Int):=by omega
      simp[execOp,hq,hj,Instr.indexAt,asIntOf,jaj hu,hlt',hlt,jam (show jbc P e=some inf.size from by simp[jbc,hi]),jca,Nat.add_assoc]
    ·cases he
   ·cases he
  ·rename_i n e hu
   simp only[Option.bind_eq_bind,Option.bind_eq_some_iff,Option.pure_def,Option.some.injEq] at hc
   obtain⟨k,hk',x',hx',y',hy',rfl⟩:=hc
   rw[ho] at hk;cases hk
  ·cases hc
 ·rename_i t y heq
  exact (hnl t y heq).elim
 ·cases hk
theorem vload {O:Oper}{t:TypeId}{y:Operand}(hO:O.op= .load t y){y':Opd}(hc:cOp P O=some (.load none y')){ρ:Operand→Value}{b o:Nat}(hp:ρ y= .pointer (some ⟨b,o,none⟩)){u:Value}{w:World}(hu:w.cell? ⟨b,o,none⟩=some u):
  (execOp ρ O).run P w= .ok (.value u) w:=by
 obtain⟨dst,op,ty,pos,af,gd⟩:=O
 simp only at hO;subst hO
 simp only[cOp,Option.bind_eq_bind,Option.bind_eq_some_iff,Option.pure_def,Option.some.injEq] at hc
 obtain⟨n,hn,x',hx',e⟩:=hc
 injection e with e1 e2;subst e1
 have h1:=jeJ (w:=w) hn
 simp[execOp,hp,Instr.loadAt,Instr.sureAddr,loadVar,h1,hu]
theorem vstore {m:Map}{h:Heap}{w:World}(r:Rels n0 B0 m h w)(hfl: ∀id,fl id=true→n0≤id){O:Oper}(hO: ∃t x y,O.op= .store t x y){a' x':Opd}(hc:cOp P O=some (.store 1 a' x')){ρ:Operand→Value}{s:jah}
  (hs: ∀y∈O.op.operands.toList,∀ z,cOpd y=some z→VR m (z.ev s) (ρ y)) {id off:Nat} (ha:a'.ev s= .ptr id off) {v:AV} {h':Heap} (he:jag none fl s h (.store 1 a' x')=some (v,h')):
  ∃b w',CB m id b∧fl id=true∧(∃l,blk h id=some l)∧(execOp ρ O).run P w= .ok .skip w'∧Post n0 B0 fl m h w m h' w'∧v= .no∧(∀q o,q≠b.b∨o≠b.off+off→w'.cell? ⟨q,o,none⟩=w.cell? ⟨q,o,none⟩)∧(x'.ev s= .nil→rd1 h' id off=some .nil):=by
 obtain⟨dst,op,ty,pos,af,gd⟩:=O
 have hop: ∃t x y,op= .store t x y∧jbc P t=some 1∧cOpd x=some a'∧cOpd y=some x':=by
  obtain⟨t,x,y,e0⟩:=hO
  simp only at e0;subst e0
  simp only[cOp,Option.bind_eq_bind,Option.bind_eq_some_iff,Option.pure_def,Option.some.injEq] at hc
  obtain⟨n,h1,p,h2,q,h3,e⟩:=hc
  injection e with e1 e2 e3;subst e1;subst e2;subst e3
  exact⟨t,x,y,rfl,h1,h2,h3⟩
 obtain⟨t,x,y,rfl,ht,hx',hy'⟩:=hop
 have hx:=hs x (by simp[Op.operands]) a' hx'
 have hy:=hs y (by simp[Op.operands]) x' hy'
 simp only[jag] at he
 rw[ha] at he hx
 obtain⟨b,hb,hp⟩:=hx.ptr_inv
 simp only at he
 split at he
 ·rename_i hn
  split at he
  ·rename_i h1 hw
   injection he with he;injection he with he1 he2;subst he1;subst he2
   have hcs:=hy.cells
   obtain⟨w',h2,h3⟩:=jfe (P:=P) r hfl hb hcs (fun x hx=>List.all_eq_true.1 hn.2 x hx) hw
   have hsz:(ρ y).cells.size=1:=by rw[←hn.1,hcs.1];simp
   refine⟨b,w',hb,?_,?_,by simp[execOp,hp,Instr.storeAt,Instr.sureAddr,storeVar,jam ht,hsz,h2],h3,rfl,?_,?_⟩
   ·unfold wr at hw
    split at hw
    ·split at hw
     ·rename_i hc2;exact hc2.1
     ·cases hw
    ·cases hw
   ·unfold wr at hw
    split at hw
    ·rename_i l hl;exact⟨l,hl⟩
    ·cases hw
   ·unfold wr at hw
    split at hw
    ·rename_i l hl
     split at hw
     ·rename_i hcond
      obtain⟨hid,hlen⟩:=hcond
      obtain⟨g1,g2,c,e,g3,g4⟩:=r.rel.own id l b (hfl id hid) hl hb
      have hl1:(ρ y).cells.toList.length=1:=by simpa using hsz
      have hone: ∀v∈(ρ y).cells.toList,v.oneCell'=true:=fun v hv'=>by
       obtain⟨i,hi,rfl⟩:=List.getElem_of_mem hv'
       have hi':i<((x'.ev s).cells).length:=by rw[hcs.1];exact hi
       exact (hcs.2 i _ _ (List.getElem?_eq_getElem hi') (List.getElem?_eq_getElem hi)).oneCell (List.all_eq_true.1 hn.2 _ (List.getElem_mem _))
      have hst:=run_storeCells_at P b.b (b.off+off) e (ρ y).cells.toList 0 c w g3 (by rw[hl1];omega) hone
      rw[h2] at hst
      injection hst with _ hst
      rw[hst]
      intro q o hqo
      by_cases hq:q=b.b
      ·subst hq
       have hne:o≠b.off+off:=by rcases hqo with h|h;exact (h rfl).elim;exact h
       simp only[World.cell?,World.setRow,Array.getElem?_modify,g3,if_pos,Option.map_some]
       simp only[Nat.add_zero,List.getElem?_toArray]
       by_cases h1:o<b.off+off
       ·rw[List.append_assoc,List.getElem?_append_left (by simp;omega),List.getElem?_take,if_pos h1];simp
       ·rw[List.append_assoc,List.getElem?_append_right (by simp;omega),List.getElem?_append_right (by simp;omega),List.getElem?_drop]
        have:(c.toList.take (b.off+off)).length=b.off+off:=by simp;omega
        rw[this,hl1,show b.off+off+1+(o - (b.off+off) - 1)=o by omega];simp
      ·simp only[World.cell?,World.setRow,Array.getElem?_modify,if_neg (Ne.symm hq)]
     ·cases hw
    ·cases hw
   ·intro hnil
    rw[hnil] at hw
    unfold wr at hw
    split at hw
    ·rename_i l hl
     split at hw
     ·rename_i hcond
      injection hw with hw;subst hw
      have h1:=hcond.2
      simp only[AV.cells,List.length_singleton] at h1
      have hlt:id<h.length:=ja1 hl
      have hb2:blk (h.set id (some (l.take off++AV.cells AV.nil++l.drop (off+(AV.cells AV.nil).length)))) id=some (l.take off++AV.cells AV.nil++l.drop (off+(AV.cells AV.nil).length)):=by rw[jby,List.getElem?_set];simp[hlt]
      unfold rd1
      rw[hb2]
      simp only[AV.cells]
      rw[List.append_assoc,List.getElem?_append_right (by simp;omega),List.length_take,Nat.min_eq_left (by omega),Nat.sub_self];rfl
     ·cases hw
    ·cases hw
  ·cases he
 ·cases he
def SV (D:List (Nat×Nat))(m0:Map)(w0 w:World):Prop:= ∀d∈D,∀ b,m0 d.1=some b→w.cell? ⟨b.b,b.off+d.2,none⟩=w0.cell? ⟨b.b,b.off+d.2,none⟩
theorem SV.frame {m0 m:Map}{h h':Heap}{w0 w w':World}(hS:SV D m0 w0 w)(hm: ∀d∈D,∀ b,m0 d.1=some b→m d.1=some b){fl2:Nat→Bool}(r:Rels n0 B0 m h w){m':Map}(p:Post n0 B0 fl2 m h w m' h' w')
  (hn: ∀d∈D,∀ b,m0 d.1=some b→ ∀id l b',fl2 id=true→blk h id=some l→m id=some b'→b'.b≠b.b):SV D m0 w0 w':=fun d hd b hb=>by
 have h1:=p.frame b.b (r.rel.lt _ _ (hm d hd b hb)) (hn d hd b hb)
 rw[←hS d hd b hb]
 simp only[World.cell?,h1]
theorem jqm {O:Oper}{a:Act}(h:O.guard=none):Region.wanted O (yielded ops a.tmps)=true:=by
 unfold Region.wanted;rw[h]
section
variable {m0:Map}{h0:Heap}{w0:World}{defs:List Deferred}{Q:Exit→Act→World→Prop}{s':jah}{h':Heap}
set_option maxHeartbeats 1000000 in
theorem jiO (hC:jbo P C)(hfl: ∀id,fl id=true→n0≤id)(hc:Comp P nt ops l)(hsel:Region.noSelect ops=true)(hgd: ∀(i:Nat) O,ops[i]?=some O→O.guard=none)(hd0: ∀id b,m0 id=some b→id<h0.length)(hD: ∀d∈D,d.1<h0.length)
  (hQ: ∀M a w,Post n0 B0 fl m0 h0 w0 M h' w→SR nt M s' a→a.defers=defs→Q .normal a w):
  ∀(fuel:Nat) (listed:Array Bool) (pl:List (Nat×jap)) (s:jah) (h:Heap) (m:Map) (a:Act) (w:World),vGo ops l fuel listed=some pl→runV C D fl (pl.map (·.2)) s h=some (s',h')→Post n0 B0 fl m0 h0 w0 m h w→SR nt m s a→a.defers=defs→SV D m0 w0 w→
   wpAnyH P .any ops (NoPanic Q) (SV D m0 w0) fuel listed a w
 |0,listed,pl,s,h,m,a,w,hg,hr,hp,hs,hda,hS=>by
  unfold vGo at hg
  split at hg
  ·rename_i hready
   injection hg with hg;subst hg
   simp only[List.map_nil,runV,Option.some.injEq,Prod.mk.injEq] at hr
   obtain⟨rfl,rfl⟩:=hr
   exact⟨hready,NoPanic.normal (hQ m a w hp hs hda)⟩
  ·cases hg
 |fuel+1,listed,pl,s,h,m,a,w,hg,hr,hp,hs,hda,hS=>by
  have mD: ∀d∈D,∀ b,m0 d.1=some b→m d.1=some b:=fun d hd b hb=>by rw[hp.keep d.1 (hD d hd)];exact hb
  unfold vGo at hg
  split at hg
  ·rename_i i hfind
   have hv:=List.find?_some hfind
   have hmem:=List.mem_of_find?_eq_some hfind
   unfold vTakes at hv
   rw[Bool.and_eq_true] at hv
   obtain⟨hfree,hv⟩:=hv
   split at hv
   case h_2=>cases hv
   rename_i O o hO ho
   rw[ho] at hg
   split at hg
   case h_2=>cases hg
   rename_i o1 r e1 hgo
   injection e1 with e1;subst e1
   injection hg with hg;subst hg
   obtain⟨o2,e2,hop,hdst,_,hd⟩:=hc.at_ i O hO
   rw[ho] at e2;injection e2 with e2;subst e2
   have hw:Region.wanted O (yielded ops a.tmps)=true:=jqm (hgd i O hO)
   have hops: ∀y∈O.op.operands.toList,∀ z,cOpd y=some z→VR m (z.ev s) (a.eval y):=fun y hy z hz=>hs.opd hz
   have take: ∀v u,YieldsIf P ops (SV D m0 w0) O u a→VR m v u→runV C D fl (r.map (·.2)) (put s o.dst v) h=some (s',h')→wpAnyH P .any ops (NoPanic Q) (SV D m0 w0) (fuel+1) listed a w:=fun v u hy hvu hr=>by
    refine wpAnyH_take hO hsel hfree (by simpa using hmem) (fun c a w h=>h) hy hS ?_
    refine jiO hC hfl hc hsel hgd hd0 hD hQ fuel _ r _ h m _ w hgo hr hp ?_ ?_ hS
    ·rw[←hdst]
     exact hs.put (fun _ _ h=>h) (by rw[hdst];exact hd) hvu
    ·cases hdd:O.dst<;>exact hda
   cases hcx:cOp P O with
   |none=>
    rw[hcx] at hop
    simp only[List.map_cons,runV,hop,Option.getD_none] at hr
    cases hr
   |some x=>
    rw[hcx] at hop
    simp only[Option.getD_some] at hop
    by_cases hl: ∃t y,O.op= .load t y
    ·obtain⟨t,y,hly⟩:=hl
     have hk:=hv
     unfold jqo at hk
     rw[hly] at hk
     simp only[Bool.and_eq_true,Bool.not_eq_true'] at hk
     obtain⟨hiso,hk⟩:=hk
     have hx: ∃y',x= .load none y':=by
      rw[hop] at hk
      cases x with
      |load n y'=>cases n with
       |none=>exact⟨y',rfl⟩
       |some k=>cases hk
      |_=>cases hk
     obtain⟨y',rfl⟩:=hx
     simp only[List.map_cons,runV,hop] at hr
     split at hr
     ·rename_i id off hid
      split at hr
      ·rename_i hcon
       simp only[Bool.false_or,Bool.or_eq_true,List.contains_iff_mem] at hcon
       have hcon:(id,off)∈D:=by simpa using hcon
       split at hr
       ·rename_i v h1 he
        have hy0:cOpd y=some y':=by
         obtain⟨dst,op,ty,pos,af,gd⟩:=O
         simp only at hly;subst hly
         simp only[cOp,Option.bind_eq_bind,Option.bind_eq_some_iff,Option.pure_def,Option.some.injEq] at hcx
         obtain⟨n,_,q,h3,e⟩:=hcx
         injection e with e1 e2;subst e2;exact h3
        have hvy:=hs.opd hy0
        rw[hid] at hvy
        obtain⟨b,hb,hpv⟩:=hvy.ptr_inv
        simp only[jag,hid,jaS,if_true] at he
        split at he
        ·rename_i v0 hv0
         injection he with he;injection he with he1 he2;subst he1
         unfold rd1 at hv0
         split at hv0
         ·rename_i lb hlb
          obtain⟨u,hu1,hu2⟩:=hp.rels.rel.cell id lb b hlb hb off _ hv0
          have hm0:m0 id=some b:=by rw[←hp.keep id (hD _ hcon)];exact hb.1
          have e0:=hS _ hcon b hm0
          refine take v0 u (.inl ⟨hw,fun w2 h2=>vload hly hcx hpv ?_⟩) hu2 hr
          rw[h2 _ hcon b hm0,← e0];exact hu1
         ·cases hv0
        ·cases he
       ·cases hr
      ·cases hr
     ·cases hr
    ·have hnl: ∀t y,O.op≠ .load t y:=fun t y e=>hl ⟨t,y,e⟩
     have fin: ∀v h1,jag none fl s h x=some (v,h1)→runV C D fl (r.map (·.2)) (put s o.dst v) h=some (s',h')→wpAnyH P .any ops (NoPanic Q) (SV D m0 w0) (fuel+1) listed a w:=fun v h1 he hr=>by
      obtain⟨_,u,hu,hvu⟩:=vlight hcx hv hop hnl hops he
      exact take v u (.inl ⟨hw,fun w2 _=>hu w2⟩) hvu hr
     cases x with
     |mv y=>
      simp only[List.map_cons,runV,hop] at hr
      exact fin _ h rfl hr
     |fieldAddr k y=>
      simp only[List.map_cons,runV,hop] at hr
      split at hr
      ·rename_i v h1 he;exact fin v h1 he hr
      ·cases hr
     |indexAddr k y z=>
      simp only[List.map_cons,runV,hop] at hr
      split at hr
      ·rename_i v h1 he;exact fin v h1 he hr
      ·cases hr
     |_=>
      exfalso
      unfold jqo at hv
      split at hv
      ·rename_i heq;simp[cOp,heq] at hcx
      ·rename_i heq;simp[cOp,heq] at hcx
      ·rename_i heq
       simp only[cOp,heq,Option.bind_eq_bind,Option.bind_eq_some_iff] at hcx
       obtain⟨fd,hf,n,hn,hcx⟩:=hcx
       split at hcx
       ·cases hcx
       ·simp only[Option.bind_eq_some_iff,Option.pure_def,Option.some.injEq] at hcx
        obtain⟨_,_,hcx⟩:=hcx
        cases hcx
      ·rename_i heq
       rw[hop] at hv;cases hv
      ·rename_i heq;exact hnl _ _ heq
      ·cases hv
  ·split at hg
   ·rename_i hready
    injection hg with hg;subst hg
    simp only[List.map_nil,runV,Option.some.injEq,Prod.mk.injEq] at hr
    obtain⟨rfl,rfl⟩:=hr
    exact⟨fun _=>NoPanic.normal (hQ m a w hp hs hda),fun i hi=>by rw[hready] at hi;cases hi⟩
   ·rename_i i hready
    split at hg
    case h_2=>cases hg
    rename_i O o r hO ho hgo
    split at hg
    case isFalse=>cases hg
    rename_i hspine
    injection hg with hg;subst hg
    obtain⟨o2,e2,hop,hdst,_,hd⟩:=hc.at_ i O hO
    rw[ho] at e2;injection e2 with e2;subst e2
    have hw:Region.wanted O (yielded ops a.tmps)=true:=jqm (hgd i O hO)
    have hops: ∀y∈O.op.operands.toList,∀ z,cOpd y=some z→VR m (z.ev s) (a.eval y):=fun y hy z hz=>hs.opd hz
    refine wpAnyH_all hready (by simp) fun j hj=>?_
    rw[List.mem_singleton.1 hj]
    unfold wpOp
    rw[hO]
    simp only
    rw[if_pos hw]
    left
    have hfl0: ∀id,(fun _:Nat=>false) id=true→n0≤id:=fun id h=>by cases h
    have next: ∀v h1 (fl2:Nat→Bool),(∀id,fl2 id=true→fl id=true)→runV C D fl (r.map (·.2)) (put s o.dst v) h1=some (s',h')→ ∀v' w' m',Post n0 B0 fl2 m h w m' h1 w'→VR m' v v'→SV D m0 w0 w'→
      SV D m0 w0 w'∧wpAnyH P .any ops (NoPanic Q) (SV D m0 w0) fuel (listed.setIfInBounds i true) (a.put O.dst v') w':=fun v h1 fl2 hle hr v' w' m' pp hv hS'=>by
     refine⟨hS',jiO hC hfl hc hsel hgd hd0 hD hQ fuel _ r _ h1 m' _ w' hgo hr (hp.trans hd0 (pp.mono hle)) ?_ ?_ hS'⟩
     ·rw[←hdst]
      exact hs.put (pp.ext hp.rels.dom) (by rw[hdst];exact hd) hv
     ·cases hdd:O.dst<;>exact hda
    have quiet: ∀v h1,jbI C 0 (fun _=>false) ⟨[],none⟩ [] { o with iso:=true } s h=some (v,h1)→runV C D fl (r.map (·.2)) (put s o.dst v) h=some (s',h')→h1=h→O.wp P a w (fun a' w'=>SV D m0 w0 w'∧wpAnyH P .any ops (NoPanic Q) (SV D m0 w0) fuel (listed.setIfInBounds i true) a' w') (NoPanic Q):=fun v h1 hrun hr e=>by
     subst e
     refine jdw hC (o:={ o with iso:=true }) hop hrun hp.rels hfl0 hops fun v' w' m' pp hv=>?_
     have ef:ja6 (fun _=>false) { o with iso:=true } []=fun _=>false:=rfl
     rw[ef] at pp
     exact next v h1 _ (fun id h=>by cases h) hr v' w' m' pp hv (hS.frame mD hp.rels pp fun d hd b hb id l b' h=>by cases h)
    cases hcx:cOp P O with
    |none=>
     rw[hcx] at hop
     simp only[List.map_cons,runV,hop,Option.getD_none] at hr
     cases hr
    |some x=>
     rw[hcx] at hop
     simp only[Option.getD_some] at hop
     cases x with
     |mv y=>
      simp only[List.map_cons,runV,hop] at hr
      exact quiet _ h (by simp only[jbI,hop];rfl) hr rfl
     |fieldAddr k y=>
      simp only[List.map_cons,runV,hop] at hr
      split at hr
      ·rename_i v h1 he
       refine quiet v h1 (by simp only[jbI,hop];exact he) hr ?_
       simp only[jag] at he
       split at he
       ·injection he with he;injection he with _ he;exact he.symm
       ·cases he
      ·cases hr
     |indexAddr k y z=>
      simp only[List.map_cons,runV,hop] at hr
      split at hr
      ·rename_i v h1 he
       refine quiet v h1 (by simp only[jbI,hop];exact he) hr ?_
       simp only[jag] at he
       split at he
       ·split at he
        ·injection he with he;injection he with _ he;exact he.symm
        ·cases he
       ·cases he
      ·cases hr
     |load n y=>
      cases n with
      |some k=>
       simp only[List.map_cons,runV,hop] at hr
       cases hr
      |none=>
       simp only[List.map_cons,runV,hop] at hr
       split at hr
       ·rename_i id off hid
        split at hr
        ·split at hr
         ·rename_i v h1 he
          refine quiet v h1 (by simp only[jbI,hop];exact he) hr ?_
          simp only[jag,hid,jaS,if_true] at he
          split at he
          ·injection he with he;injection he with _ he;exact he.symm
          ·cases he
         ·cases hr
        ·cases hr
       ·cases hr
     |call f args=>
      simp only[List.map_cons,runV,hop] at hr
      split at hr
      ·rename_i hal
       simp only[Bool.true_and] at hal
       split at hr
       ·rename_i g vs hg
        split at hr
        ·rename_i v h1 he
         have hrun:jbI C 0 (jg5 D fl) ⟨[],none⟩ [] { o with iso:=true } s h=some (v,h1):=by simp only[jbI,hop,hg];exact he
         have hle: ∀id,jg5 D fl id=true→fl id=true:=fun id h=>by unfold jg5 at h;rw[Bool.and_eq_true] at h;exact h.1
         refine jdw hC (o:={ o with iso:=true }) (by simp only[hop,hcx,Option.getD_some]) hrun hp.rels (fun id h=>hfl id (hle id h)) hops fun v' w' m' pp hv=>?_
         have ef:ja6 (jg5 D fl) { o with iso:=true } []=jg5 D fl:=rfl
         rw[ef] at pp
         refine next v h1 _ hle hr v' w' m' pp hv (hS.frame mD hp.rels pp fun d hd b hb id l b' hid hl hb' e=>?_)
         have hne:id≠d.1:=fun e=>by
          unfold jg5 at hid
          rw[Bool.and_eq_true,Bool.not_eq_true'] at hid
          have:=List.any_eq_false.1 hid.2 d hd
          rw[e] at this;simp at this
         have h1:=mD d hd b hb
         have hn:=hfl id (hle id hid)
         have hB:B0≤b'.b:=by
          cases hm:b'.mp with
          |false=>exact (hp.rels.rel.own id l b' hn hl ⟨hb',hm⟩).1
          |true=>exact (hp.rels.rel.mp id l b' hl ⟨hb',hm⟩).2.1
         by_cases hd1:n0≤d.1
         ·have ha:=List.all_eq_true.1 hal d hd
          obtain⟨ld,hld⟩:=Option.isSome_iff_exists.1 ha
          exact hne (hp.rels.rel.inj id d.1 l ld b' b hn hd1 hl hld hb' h1 e)
         ·have:=hp.rels.rel.ro d.1 b (by omega) h1
          omega
        ·cases hr
       ·cases hr
      ·cases hr
     |store n ao xo=>
      simp only[List.map_cons,runV,hop] at hr
      split at hr
      ·rename_i id off hid
       split at hr
       ·rename_i hcond
        simp only[Bool.true_and,Bool.and_eq_true,Bool.or_eq_true,Bool.not_eq_true',beq_iff_eq] at hcond
        obtain⟨⟨hal,rfl⟩,hnd⟩:=hcond
        split at hr
        ·rename_i v h1 he
         have hO': ∃t x y,O.op= .store t x y:=by
          unfold vSpine at hspine
          rw[hop] at hspine
          simp only at hspine
          split at hspine
          ·rename_i t x y heq;exact⟨t,x,y,heq⟩
          ·cases hspine
         obtain⟨b,w',hb,hid2,⟨lb,hlb⟩,hex,pp,rfl,hcell,hnil⟩:=vstore hp.rels hfl hO' hcx hops hid he
         unfold Oper.wp
         rw[hex]
         refine next _ h1 fl (fun _ h=>h) hr undef w' m pp VRs.no fun d hd bd hbd=>?_
         rw[←hS d hd bd hbd]
         have h1:=mD d hd bd hbd
         rcases hnd with hnd|⟨hn1,hn2⟩
         case inr=>
          by_cases he:d.1=id∧d.2=off
          ·have hbb:bd=b:=by rw[he.1,hb.1] at h1;injection h1 with h1;exact h1.symm
           subst hbb
           have e1:xo.ev s= .nil:=by
            unfold nilA at hn2
            split at hn2
            ·rename_i e;injection e
            ·cases hn2
           have e2:rd1 h id off=some .nil:=by
            unfold nilA at hn1
            split at hn1
            ·rename_i e;exact e
            ·cases hn1
           have cl: ∀{h2:Heap} {w2:World},Rels n0 B0 m h2 w2→rd1 h2 id off=some .nil→w2.cell? ⟨bd.b,bd.off+off,none⟩=some (.slice none 0 0):=fun {h2 w2} r2 e=>by
            unfold rd1 at e
            split at e
            ·rename_i l2 hl2
             obtain⟨u,q1,q2⟩:=r2.rel.cell id l2 bd hl2 hb off _ e
             rw[q1,q2.lit]
            ·cases e
           rw[he.2,cl pp.rels (hnil e1),cl hp.rels e2]
          ·by_cases hi:d.1=id
           ·have hbb:bd=b:=by rw[hi,hb.1] at h1;injection h1 with h1;exact h1.symm
            subst hbb
            exact hcell _ _ (.inr fun e=>he ⟨hi,by omega⟩)
           ·refine hcell _ _ (.inl fun e=>?_)
            have hn:=hfl id hid2
            by_cases hd1:n0≤d.1
            ·have ha:=List.all_eq_true.1 hal d hd
             obtain⟨ld,hld⟩:=Option.isSome_iff_exists.1 ha
             exact hi (hp.rels.rel.inj d.1 id ld lb bd b hd1 hn hld hlb h1 hb.1 e)
            ·have:=hp.rels.rel.ro d.1 bd (by omega) h1
             have:=(hp.rels.rel.own id lb b hn hlb hb).1
             omega
         refine hcell _ _ ?_
         by_cases he:d.1=id
         ·right
          have hbb:bd=b:=by rw[he,hb.1] at h1;injection h1 with h1;exact h1.symm
          subst hbb
          intro e
          have:d=(id,off):=by
           obtain⟨d1,d2⟩:=d
           simp only at he e ⊢
           subst he
           congr 1;omega
          subst this
          have:=List.contains_iff_mem.2 hd
          rw[hnd] at this;cases this
         ·left
          intro e
          have hn:=hfl id hid2
          by_cases hd1:n0≤d.1
          ·have ha:=List.all_eq_true.1 hal d hd
           obtain⟨ld,hld⟩:=Option.isSome_iff_exists.1 ha
           exact he (hp.rels.rel.inj d.1 id ld lb bd b hd1 hn hld hlb h1 hb.1 e)
          ·have:=hp.rels.rel.ro d.1 bd (by omega) h1
           have:=(hp.rels.rel.own id lb b hn hlb hb).1
           omega
        ·cases hr
       ·cases hr
      ·cases hr
     |_=>
      simp only[List.map_cons,runV,hop] at hr
      cases hr
   ·cases hg
end
theorem vregion (hmix:P.follows .mixedOrders=true)(hC:jbo P C)(hfl: ∀id,fl id=true→n0≤id){id:Nat}(hcomp:jcC P nt ops true=some l){pl:List (Nat×jap)}(hpl:vPlan ops l=some pl){s s':jah}{h h':Heap}(hD: ∀d∈D,d.1<h.length)(hrun:runV C D fl (pl.map (·.2)) s h=some (s',h'))
  {m:Map} {w:World} (r:Rels n0 B0 m h w) {a:Act} (hs:SR nt m s a) {Q:Exit→Act→World→Prop} (hQ: ∀m' a' w',Post n0 B0 fl m h w m' h' w'→SR nt m' s' a'→a'.defers=a.defers→Q .normal a' w'):(Code.region id ops true).wp P Q a w:=by
 obtain⟨hc,_⟩:=jdK hcomp
 unfold vPlan at hpl
 split at hpl
 ·rename_i hcond
  rw[Bool.and_eq_true,Bool.and_eq_true] at hcond
  obtain⟨⟨_,hsel⟩,hgd⟩:=hcond
  refine wp_region_noPanic (wp_region_held (S:=SV D m w.drew) hmix ?_)
  refine jiO hC hfl hc hsel (fun i O hO=>?_) r.dom hD (fun M a' w' p q d=>hQ M a' w' p.drew q d) ops.size _ pl s h m a w.drew hpl hrun (.refl r.drew) hs rfl fun d hd b hb=>rfl
  have:=List.all_eq_true.1 hgd O (List.mem_of_getElem? (i:=i) (by simpa using hO))
  simpa using this
 ·cases hpl
end
section
open Go Go.RowKit
section
variable {P:Program}{Gp:Value→Prop}{C:jaG}{n0 B0 nt:Nat}{fl:Nat→Bool}
theorem jos {O0:Oper}{t:TypeId}{x:Operand}{it:Nat}(h:jgp O0=some (t,x,it)):O0.op= .range t x∧O0.dst=some it∧O0.guard=none:=by
 unfold jgp at h
 split at h
 ·rename_i t' x' d h1 h2 h3
  injection h with h;injection h with a1 h;injection h with a2 a3
  subst a1;subst a2;subst a3
  exact⟨h1,h2,h3⟩
 ·cases h
theorem jo7 {O:Oper}{it pair:Nat}(h:jgP O=some (it,pair)):O.op= .entry (.tmp it)∧O.dst=some pair∧O.guard=none:=by
 unfold jgP at h
 split at h
 ·rename_i t' d h1 h2 h3
  injection h with h;injection h with a1 a2
  subst a1;subst a2
  exact⟨h1,h2,h3⟩
 ·cases h
theorem jhx {ops:Array Oper}{i:Nat}{O:Oper}(hO:ops[i]?=some O)(hg:O.guard=none){a:Act}{w w':World}{v:Value}(hx:(execOp a.eval O).run P w= .ok (.value v) w'){K:Act→World→Prop}{Q:Exit→Act→World→Prop}(hk:K (a.put O.dst v) w'):wpOp P ops Q i K a w:=by
 unfold wpOp
 rw[hO]
 simp only[Region.wanted,hg,if_true]
 left
 unfold Oper.wp
 rw[hx]
 exact hk
theorem jba (hmix:P.follows .mixedOrders=true){Cd:Nat→jaG}{C:jcF}(hCd: ∀k,jbo P (Cd k))(hC:jb5 P Gp C): ∀(code:Code) (c:jar),jbW P nt code=some c→ ∀fl:Nat→Bool,(∀id,fl id=true→n0≤id)→SndP P Gp n0 B0 nt fl (fun s h K=>ja2 Cd C c fl s h K) code
 | .skip,c,hc,fl,hfl=>by
  intro s h K hp m w a r hs Q hQ hG
  simp only[jbW,Option.some.injEq] at hc;subst hc
  exact wp_skip (hQ .normal s h m a w hp (.refl r) hs rfl)
 | .region id ops draw,c,hc,fl,hfl=>by
  intro s h K hp m w a r hs Q hQ hG
  simp only[jbW,Option.map_eq_some_iff] at hc
  obtain⟨l,hl,rfl⟩:=hc
  cases draw with
  |false=>
   simp only[Bool.false_eq_true,if_false,ja2] at hp
   exact jeb hC hfl hl hp r hs (fun s' h' m' a' w' k p q d=>hQ .normal s' h' m' a' w' k p q d) hG
  |true=>
   simp only[if_true] at hp
   split at hp
   ·rename_i hok
    unfold hoistB at hok
    rw[Bool.and_eq_true] at hok
    simp only[ja2] at hp
    exact jky hmix hC hfl hl rfl hok.2 hp.1 hp.2 r hs (fun s' h' m' a' w' k p q d=>hQ .normal s' h' m' a' w' k p q d) hG
   split at hp
   ·simp only[ja2] at hp
    obtain⟨n,s',h',hrun,k⟩:=hp
    exact jhD hmix (hCd n) hfl hl (fun h=>by cases h) hrun r hs fun m' a' w' p q d=>hQ .normal s' h' m' a' w' k p q d
   split at hp
   ·rename_i pl hpl
    simp only[ja2] at hp
    obtain⟨n,D,s',h',hD,hrun,k⟩:=hp
    exact vregion hmix (hCd n) hfl hl hpl hD hrun r hs fun m' a' w' p q d=>hQ .normal s' h' m' a' w' k p q d
   ·simp only[ja2] at hp
    obtain⟨n,s',h',hrun,k⟩:=hp
    exact jhD hmix (hCd n) hfl hl (fun h=>by cases h) hrun r hs fun m' a' w' p q d=>hQ .normal s' h' m' a' w' k p q d
 | .seq A B,c,hc,fl,hfl=>by
  intro s h K hp m w a r hs Q hQ hG
  simp only[jbW,Option.bind_eq_bind,Option.bind_eq_some_iff,Option.pure_def,Option.some.injEq] at hc
  obtain⟨ca,ha,cb,hb,hj⟩:=hc
  rcases jlN ha hb hj with rfl|⟨H,l0,l2,body,r0,ops0,r1,ops1,r2,ops2,bcode,O0,t,x,O1,O2,hA,hB,f1,f2,f3,f4,f5,f6,f7,f8,f9,f10,f11,f12,f13,f14,g1,g9,g11,rfl⟩
  ·simp only[ja2] at hp
   refine wp_seq (jba hmix hCd hC A ca ha fl hfl s h _ hp m w a r hs _ (fun x s1 h1 m1 a1 w1 k p q d=>?_) hG)
   cases x with
   |normal=>exact jba hmix hCd hC B cb hb fl hfl s1 h1 K k m1 w1 a1 p.rels q Q (fun x s2 h2 m2 a2 w2 k2 p2 q2 d2=>hQ x s2 h2 m2 a2 w2 k2 (p.trans r.dom p2) q2 (d2.trans d)) fun pv h2 m2 a2 w2 g p2 d2=>hG pv h2 m2 a2 w2 g (p.trans r.dom p2) (d2.trans d)
   |exit id=>exact hQ (.exit id) s1 h1 m1 a1 w1 k p q d
   |ret=>exact hQ .ret s1 h1 m1 a1 w1 k p q d
  ·subst hA;subst hB
   have ihb:=jba hmix hCd hC bcode body g11
   obtain⟨o1,o2,o3⟩:=jos f2
   obtain⟨hlen0,hc0⟩:=jcJ g1
   have hpos:0<ops0.size:=by
    have:=(Array.getElem?_eq_some_iff.1 f1).1;omega
   simp only[ja2] at hp
   refine wp_seq (wp_region ?_)
   have hrange:List.range ops0.size=List.range' 0 l0.dropLast.length++[ops0.size - 1]:=by
    rw[List.length_dropLast,hlen0,← List.range_eq_range']
    conv=>lhs;rw[show ops0.size=ops0.size - 1+1 by omega]
    exact List.range_succ
   rw[hrange]
   refine jeu hC hfl r.dom (by exact hG) l0.dropLast _ 0 s h _ hc0.init hp m a w (.refl r) hs rfl fun s1 h1 a1 w1 m1 hk p1 q1 d1=>?_
   rw[wpOps_cons]
   -- the iterator
   have finish: ∀(o:Obj) (v:Value),(Instr.range t (a1.eval x)).run P w1= .ok (.pointer (some ⟨w1.heap.size,0,none⟩)) (w1.alloc o)→
     ((Code.block H.out (.loop (.seq (.region r1 ops1 false) (.seq (.cond (.tmp H.more) .skip (.exit H.out)) (.block H.nb (.seq (.region r2 ops2 false) bcode)))))).wp P Q (a1.put (some H.it) (.pointer (some ⟨w1.heap.size,0,none⟩))) (w1.alloc o))→
     wpOp P ops0 (Exit.then ((Code.block H.out (.loop (.seq (.region r1 ops1 false) (.seq (.cond (.tmp H.more) .skip (.exit H.out)) (.block H.nb (.seq (.region r2 ops2 false) bcode)))))).wp P Q) Q) (ops0.size - 1) (wpOps P ops0 (Exit.then ((Code.block H.out (.loop (.seq (.region r1 ops1 false) (.seq (.cond (.tmp H.more) .skip (.exit H.out)) (.block H.nb (.seq (.region r2 ops2 false) bcode)))))).wp P Q) Q) []) a1 w1:=by
    intro o v hrun hgo
    refine jhx f1 o3 (v:= .pointer (some ⟨w1.heap.size,0,none⟩)) (w':=w1.alloc o) ?_ ?_
    ·obtain⟨dst,op,ty,pos,af,gd⟩:=O0
     simp only at o1;subst o1
     simp[execOp,hrun]
    ·rw[o2];exact hgo
   have pd:=fun o=>jq1 (fl:=fl) p1.rels o
   have hd1:=p1.rels.dom
   have hmono: ∀id b,m1 id=some b→mset m1 h1.length ⟨w1.heap.size,0,0,false⟩ id=some b:=fun id b hb=>by
    have:=hd1 id b hb
    simp only[mset];rw[if_neg (by omega)];exact hb
   have hsd:SR nt (mset m1 h1.length ⟨w1.heap.size,0,0,false⟩) (upd s1 H.it (.ptr h1.length 0)) (a1.put (some H.it) (.pointer (some ⟨w1.heap.size,0,none⟩))):=by
    refine SR.put q1 hmono (d:=some H.it) (fun y hy=>by injection hy with hy;subst hy;exact f9) ?_
    have:VR (mset m1 h1.length ⟨w1.heap.size,0,0,false⟩) (.ptr h1.length 0) (.pointer (some ⟨(⟨w1.heap.size,0,0,false⟩:Base).b,(⟨w1.heap.size,0,0,false⟩:Base).off+0,none⟩)):= .ptr ⟨by simp[mset],rfl⟩
    exact this
   have hoff:Off (mset m1 h1.length ⟨w1.heap.size,0,0,false⟩) (h1++[none]) w1.heap.size:=by
    intro id lx b hl hb he
    have hlt:=ja1 hl
    simp at hlt
    by_cases hi:id<h1.length
    ·simp only[mset] at hb;rw[if_neg (by omega)] at hb
     have:=p1.rels.rel.lt id b hb
     omega
    ·obtain rfl:id=h1.length:=by omega
     rw[jby,List.getElem?_append_right (Nat.le_refl _)] at hl
     simp at hl
   have hcd: ∀o:Obj,(w1.alloc o).heap[w1.heap.size]?=some o:=fun o=>by show (w1.heap.push o)[w1.heap.size]?=_;simp
   have hms:mset m1 h1.length ⟨w1.heap.size,0,0,false⟩ h1.length=some ⟨w1.heap.size,0,0,false⟩:=by simp[mset]
   rcases f14 with⟨hM,hu⟩|⟨hM,him,O3,e3,e4,hpair⟩
   ·rw[hM] at hk f6
    simp only[Bool.false_eq_true,if_false] at hk
    obtain⟨str,hsrc,hk⟩:=hk
    have hxv:a1.eval x= .string str:=by have:=q1.opd f3;rw[hsrc] at this;exact this.lit
    refine finish (.stringIter str 0) .nilIface ?_ ?_
    ·simp[Instr.range,jaj hu,hxv,newObj,Sem.run,Result.andThen]
    ·refine wp_block (wp_loop_rounds ((jlz str).length+1) ?_)
     obtain⟨hlen2,hc2⟩:=jcJ g9
     refine jhK (m0:=m) (h0:=h) (w0:=w) (defs:=a.defers) (t:=str) (KK:=K) (it:=H.it) (i0:=h1.length) (r:=w1.heap.size) (nt:=nt) ?_ f4 f5 f7 f6 f8 f10 f11 r.dom r.rel.base hQ hG (jlz str) 0 _ (h1++[none]) _ _ (w1.alloc (.stringIter str 0)) (joq str) hk (p1.trans r.dom (pd _)) hsd ?_ hoff p1.size (by simp) (hcd _) hms (by simp)
     ·intro s2 h2 K2 hp2 m2 w2 a2 r2' hs2 Q2 hQ2 hG2
      refine wp_seq (jeb hC hfl g9 hp2 r2' hs2 (fun s3 h3 m3 a3 w3 k3 p3 q3 d3=>?_) hG2)
      exact ihb fl hfl s3 h3 K2 k3 m3 w3 a3 p3.rels q3 Q2 (fun x s4 h4 m4 a4 w4 k4 p4 q4 d4=>hQ2 x s4 h4 m4 a4 w4 k4 (p3.trans r2'.dom p4) q4 (d4.trans d3)) fun pv h4 m4 a4 w4 g p4 d4=>hG2 pv h4 m4 a4 w4 g (p3.trans r2'.dom p4) (d4.trans d3)
     ·exact d1
   ·rw[hM] at hk f6
    simp only[if_true] at hk
    obtain⟨mid,l,hsrc,hl,hk⟩:=hk
    have hxv:=q1.opd f3
    rw[hsrc] at hxv
    obtain⟨b0,hb0,hxv⟩:=hxv.mp_inv
    obtain⟨hn0m,hB0,es,ck,hheap,hE⟩:=p1.rels.rel.mp mid l b0 hl hb0
    have hut: ∃k e,P.underlying t=some (.map k e):=by
     unfold jfP at him
     split at him
     ·rename_i k e hu;exact⟨k,e,hu⟩
     ·cases him
    obtain⟨kt,et,hu⟩:=hut
    have hmid:=ja1 hl
    have hb0lt:=p1.rels.rel.lt mid b0 hb0.1
    refine finish (.mapIter (some b0.b) ck #[] ck) .nilIface ?_ ?_
    ·simp[Instr.range,jaj hu,hxv,newObj,getObj,Sem.run,hheap,Result.andThen]
    ·refine wp_block (wp_loop_rounds (l.length+1) ?_)
     obtain⟨hlen2,hc2⟩:=jcJ g9
     refine jhL (m0:=m) (h0:=h) (w0:=w) (defs:=a.defers) (KK:=K) (it:=H.it) (i0:=h1.length) (r:=w1.heap.size) (nt:=nt) (mid:=mid) (l:=l) (b0:=b0) (es:=es) (ck:=ck) (since:=ck) (pair:=H.pair) ?_ f4 f5 f7 f6 f8 f10 f11 f12 f13 r.dom r.rel.base hQ hG hE.2 rfl hn0m hfl l.length l #[] ck _ (h1++[none]) _ _ (w1.alloc (.mapIter (some b0.b) ck #[] ck)) hk ?_ (Nat.le_refl _) (p1.trans r.dom (pd _)) hsd ?_ hoff p1.size (by simp) (hcd _) ?_ (hmono _ _ hb0.1) (by rw[jaJ _ hmid];exact hl) hms (by simp)
     ·intro s2 h2 K2 k v hp2 m2 w2 a2 tv r2' hs2 hkv hen Q2 hQ2 hG2
      obtain⟨p1',p2',p3'⟩:=jo7 e4
      have hflx: ∀id,(fl id&& !(id==mid))=true→n0≤id:=fun id hid=>hfl id (by simp at hid;exact hid.1)
      refine wp_seq (wp_region ?_)
      have hsz2:0<ops2.size:=(Array.getElem?_eq_some_iff.1 e3).1
      rw [show List.range ops2.size = 0 :: (List.range' 1 (l2.drop 1).length ++ []) by
       rw[List.range_eq_range',List.append_nil,List.length_drop,hlen2]
       conv=>lhs;rw[show ops2.size=ops2.size - 1+1 by omega]
       exact List.range'_succ .., wpOps_cons]
      refine jhx e3 p3' (v:= .tuple tv) (w':=w2) ?_ ?_
      ·obtain⟨dst,op,ty,pos,af,gd⟩:=O3
       simp only at p1';subst p1'
       simp[execOp,hen]
      ·rw[p2']
       have hs3:SR nt m2 (upd s2 H.pair (.tuple [k,v])) (a2.put (some H.pair) (.tuple tv)):=SR.put hs2 (fun _ _ h=>h) (d:=some H.pair) (fun y hy=>by injection hy with hy;subst hy;exact hpair) hkv
       have hcomp:jjl P nt ops2 1 (l2.drop 1):=by
        cases l2 with
        |nil=>simp at hlen2;omega
        |cons o l=>exact hc2.tail
       refine jeu hC hflx r2'.dom (by exact hG2) (l2.drop 1) _ 1 _ h2 _ hcomp hp2 m2 _ w2 (.refl r2') hs3 rfl fun s3 h3 a3 w3 m3 k3 p3 q3 d3=>?_
       exact ihb _ hflx s3 h3 K2 k3 m3 w3 a3 p3.rels q3 Q2 (fun x s4 h4 m4 a4 w4 k4 p4 q4 d4=>hQ2 x s4 h4 m4 a4 w4 k4 (p3.trans r2'.dom p4) q4 (d4.trans d3)) fun pv h4 m4 a4 w4 g p4 d4=>hG2 pv h4 m4 a4 w4 g (p3.trans r2'.dom p4) (d4.trans d3)
     ·have e0:(leftOf es #[]).toList=es.toList:=by
       rw[jdF]
       exact List.filter_eq_self.2 fun x hx=>by simp
      rw[e0]
      exact hE.1.mono hmono
     ·exact d1
     ·show (w1.heap.push _)[b0.b]?=_
      rw[Array.getElem?_push_lt hb0lt,← Array.getElem?_eq_getElem hb0lt];exact hheap
 | .cond o A B,c,hc,fl,hfl=>by
  intro s h K hp m w a r hs Q hQ hG
  simp only[jbW,Option.bind_eq_bind,Option.bind_eq_some_iff,Option.pure_def,Option.some.injEq] at hc
  obtain⟨co,ho,ca,ha,cb,hb,rfl⟩:=hc
  simp only[ja2] at hp
  obtain⟨t,ht,hp1,hp2⟩:=hp
  have hv:=hs.opd ho
  rw[ht] at hv
  refine wp_cond hv.bool ?_
  cases t with
  |true=>exact jba hmix hCd hC A ca ha fl hfl s h K (hp1 rfl) m w a r hs Q hQ hG
  |false=>exact jba hmix hCd hC B cb hb fl hfl s h K (hp2 rfl) m w a r hs Q hQ hG
 | .block id A,c,hc,fl,hfl=>by
  intro s h K hp m w a r hs Q hQ hG
  simp only[jbW,Option.map_eq_some_iff] at hc
  obtain⟨ca,ha,rfl⟩:=hc
  simp only[ja2] at hp
  refine wp_block (jba hmix hCd hC A ca ha fl hfl s h _ hp m w a r hs _ (fun x s1 h1 m1 a1 w1 k p q d=>?_) hG)
  cases x with
  |normal=>exact hQ .normal s1 h1 m1 a1 w1 k p q d
  |exit j=>
   simp only[jas.inBlk] at k
   simp only[ja4,Exit.inBlock]
   split at k
   ·rename_i hj;rw[if_pos hj];exact hQ .normal s1 h1 m1 a1 w1 k p q d
   ·rename_i hj;rw[if_neg hj];exact hQ (.exit j) s1 h1 m1 a1 w1 k p q d
  |ret=>exact hQ .ret s1 h1 m1 a1 w1 k p q d
 | .loop A,c,hc,fl,hfl=>by
  intro s h K hp m w a r hs Q hQ hG
  simp only[jbW,Option.map_eq_some_iff] at hc
  obtain⟨ca,ha,rfl⟩:=hc
  simp only[ja2] at hp
  intro b kk cs
  have ihA:=jba hmix hCd hC A ca ha fl hfl
  have key:=hp (fun s h=> ∀m w a,Rels n0 B0 m h w→SR nt m s a→ ∀Q:Exit→Act→World→Prop,(∀x s' h' m' a' w',K x s' h'→Post n0 B0 fl m h w m' h' w'→SR nt m' s' a'→a'.defers=a.defers→Q (ja4 x) a' w')→(∀pv h' m' a' w',Gp pv→Post n0 B0 fl m h w m' h' w'→a'.defers=a.defers→Q (.panic [{ v:=pv,recovered:=false }]) a' w')→
   ∀(b:Frame) (kk:List Item) (cs:List Frame),∃ e a' w',Q e a' w'∧Arrives P (lone (b.at a (.code A:: .inLoop A::kk)) cs w) b kk cs e a' w') ?_
  ·obtain⟨e,a',w',hq,harr⟩:=key m w a r hs Q hQ hG b kk cs
   exact⟨e,a',w',hq,.of_steps (.one step_loop) harr⟩
  ·intro s h hb m w a r hs Q hQ hG b kk cs
   have hpost: ∀x s1 h1 m1 a1 w1,jas.then (fun s h=> ∀m w a,Rels n0 B0 m h w→SR nt m s a→ ∀Q:Exit→Act→World→Prop,(∀x s' h' m' a' w',K x s' h'→Post n0 B0 fl m h w m' h' w'→SR nt m' s' a'→a'.defers=a.defers→Q (ja4 x) a' w')→(∀pv h' m' a' w',Gp pv→Post n0 B0 fl m h w m' h' w'→a'.defers=a.defers→Q (.panic [{ v:=pv,recovered:=false }]) a' w')→
     ∀(b:Frame) (kk:List Item) (cs:List Frame),∃ e a' w',Q e a' w'∧Arrives P (lone (b.at a (.code A:: .inLoop A::kk)) cs w) b kk cs e a' w') K x s1 h1→Post n0 B0 fl m h w m1 h1 w1→SR nt m1 s1 a1→a1.defers=a.defers→(fun e a' w'=>(e= .normal∧ ∃s1 h1 m1,(∀m w a,Rels n0 B0 m h1 w→SR nt m s1 a→ ∀Q:Exit→Act→World→Prop,(∀x s' h' m' a' w',K x s' h'→Post n0 B0 fl m h1 w m' h' w'→SR nt m' s' a'→a'.defers=a.defers→Q (ja4 x) a' w')→(∀pv h' m' a' w',Gp pv→Post n0 B0 fl m h1 w m' h' w'→a'.defers=a.defers→Q (.panic [{ v:=pv,recovered:=false }]) a' w')→
     ∀(b:Frame) (kk:List Item) (cs:List Frame),∃ e a' w',Q e a' w'∧Arrives P (lone (b.at a (.code A:: .inLoop A::kk)) cs w) b kk cs e a' w')∧Post n0 B0 fl m h w m1 h1 w'∧SR nt m1 s1 a'∧a'.defers=a.defers)∨((∃x,e=ja4 x)∧e≠ .normal∧Q e a' w')∨((∃pv,e= .panic [{ v:=pv,recovered:=false }])∧Q e a' w')) (ja4 x) a1 w1:=by
    intro x s1 h1 m1 a1 w1 k p q d
    cases x with
    |normal=>exact .inl ⟨rfl,s1,h1,m1,k,p,q,d⟩
    |exit id=>exact .inr (.inl ⟨⟨.exit id,rfl⟩,by simp[ja4],hQ (.exit id) s1 h1 m1 a1 w1 k p q d⟩)
    |ret=>exact .inr (.inl ⟨⟨.ret,rfl⟩,by simp[ja4],hQ .ret s1 h1 m1 a1 w1 k p q d⟩)
   obtain⟨e,a1,w1,hq,harr⟩:=ihA s h _ hb m w a r hs (fun e a' w'=>(e= .normal∧ ∃s1 h1 m1,(∀m w a,Rels n0 B0 m h1 w→SR nt m s1 a→ ∀Q:Exit→Act→World→Prop,(∀x s' h' m' a' w',K x s' h'→Post n0 B0 fl m h1 w m' h' w'→SR nt m' s' a'→a'.defers=a.defers→Q (ja4 x) a' w')→(∀pv h' m' a' w',Gp pv→Post n0 B0 fl m h1 w m' h' w'→a'.defers=a.defers→Q (.panic [{ v:=pv,recovered:=false }]) a' w')→
     ∀(b:Frame) (kk:List Item) (cs:List Frame),∃ e a' w',Q e a' w'∧Arrives P (lone (b.at a (.code A:: .inLoop A::kk)) cs w) b kk cs e a' w')∧Post n0 B0 fl m h w m1 h1 w'∧SR nt m1 s1 a'∧a'.defers=a.defers)∨((∃x,e=ja4 x)∧e≠ .normal∧Q e a' w')∨((∃pv,e= .panic [{ v:=pv,recovered:=false }])∧Q e a' w')) hpost (fun pv h' m' a' w' g p d=> .inr (.inr ⟨⟨pv,rfl⟩,hG pv h' m' a' w' g p d⟩)) b (.inLoop A::kk) cs
   rcases hq with⟨rfl,s1,h1,m1,hI,p1,q1,d1⟩|⟨⟨x,rfl⟩,hne,hq⟩|⟨⟨pv,rfl⟩,hq⟩
   ·obtain⟨e2,a2,w2,hq2,harr2⟩:=hI m1 w1 a1 p1.rels q1 Q (fun x s' h' m' a' w' k p q d=>hQ x s' h' m' a' w' k (p1.trans r.dom p) q (d.trans d1)) (fun pv h' m' a' w' g p d=>hG pv h' m' a' w' g (p1.trans r.dom p) (d.trans d1)) b kk cs
    exact⟨e2,a2,w2,hq2,.of_steps (Steps.trans harr (.one step_inLoop)) harr2⟩
   ·cases x with
    |normal=>exact absurd rfl hne
    |exit id=>exact⟨_,a1,w1,hq,.pass (x:= .inLoop A) rfl (fun _ _=> .inl (by simp[ja4])) harr⟩
    |ret=>exact⟨_,a1,w1,hq,.pass (x:= .inLoop A) rfl (fun _ _=> .inl (by simp[ja4])) harr⟩
   ·exact⟨_,a1,w1,hq,.pass (x:= .inLoop A) rfl (fun _ _=> .inl (by simp)) harr⟩
 | .exit id,c,hc,fl,hfl=>by
  intro s h K hp m w a r hs Q hQ hG
  simp only[jbW,Option.some.injEq] at hc;subst hc
  exact wp_exit (hQ (.exit id) s h m a w hp (.refl r) hs rfl)
 | .scope A,c,hc,fl,hfl=>by
  intro s h K hp m w a r hs Q hQ hG
  simp only[jbW,Option.map_eq_some_iff] at hc
  obtain⟨ca,ha,rfl⟩:=hc
  simp only[ja2] at hp
  refine wp_scope_straight ?_
  refine jba hmix hCd hC A ca ha fl hfl s h K hp m w a r hs _ (fun x s1 h1 m1 a1 w1 k p q d=>?_) (fun pv h1 m1 a1 w1 g p d=>hG pv h1 m1 a1 w1 g p d)
  cases x with
  |normal=>exact hQ .normal s1 h1 m1 a1 w1 k p q d
  |exit id=>exact hQ (.exit id) s1 h1 m1 a1 w1 k p q d
  |ret=>exact hQ .ret s1 h1 m1 a1 w1 k p q d
 | .label l,c,hc,fl,hfl=>by
  intro s h K hp m w a r hs Q hQ hG
  simp only[jbW,Option.some.injEq] at hc;subst hc
  exact wp_label (hQ .normal s h m a w hp (.refl r) hs rfl)
 | .ret,c,hc,fl,hfl=>by
  intro s h K hp m w a r hs Q hQ hG
  simp only[jbW,Option.some.injEq] at hc;subst hc
  exact wp_ret (hQ .ret s h m a w hp (.refl r) hs rfl)
 | .rangeFunc f ps as body,c,hc,fl,hfl=>by
  intro s h K hp
  simp only[jbW,Option.some.injEq] at hc;subst hc
  exact hp.elim
 | .goto l,c,hc,fl,hfl=>by
  intro s h K hp
  simp only[jbW,Option.some.injEq] at hc;subst hc
  exact hp.elim
 | .refuse q,c,hc,fl,hfl=>by
  intro s h K hp
  simp only[jbW,Option.some.injEq] at hc;subst hc
  exact hp.elim
termination_by code=>SizeOf.sizeOf code
/-! ### Runs that are known -/
theorem jns {C:jaG}{n:Nat}{c:jar}(hc: ∀s h x s' h' K,exec C n fl c s h=some (x,s',h')→K x s' h'→ja2 (fun _=>C) (jfl C) c fl s h K){K:jas→jah→Heap→Prop}: ∀(k:Nat) s h x s' h',iter (exec C n fl c) k s h=some (x,s',h')→K x s' h'→piter (fun s h K=>ja2 (fun _=>C) (jfl C) c fl s h K) s h K
 |0,s,h,x,s',h',he,k=>by simp[iter] at he
 |q+1,s,h,x,s',h',he,k=>by
  intro I hI
  refine hI s h ?_
  simp only[iter] at he
  split at he
  ·rename_i s1 h1 h1'
   exact hc s h .normal s1 h1 _ h1' (jns hc q s1 h1 x s' h' he k I hI)
  ·rename_i hne
   refine hc s h x s' h' _ he ?_
   cases x with
   |normal=>exact absurd he (hne s' h')
   |exit id=>exact k
   |ret=>exact k
theorem jiZ {f:jah→Heap→Out}{g:jah→Heap→OutP}(hf: ∀s h x s' h' K,f s h=some (x,s',h')→K x s' h'→g s h K){it i0 nx more out nb:Nat}{K:jas→jah→Heap→Prop}: ∀(l:List (Nat×Nat)) s h x s' h',rngS f it i0 nx more out nb l s h=some (x,s',h')→K x s' h'→ji0 g it i0 nx more out nb K l s h
 |[],s,h,x,s',h',he,k=>by
  simp only[rngS] at he
  split at he
  ·rename_i hi
   simp only[Option.some.injEq,Prod.mk.injEq] at he
   obtain⟨rfl,rfl,rfl⟩:=he
   exact⟨hi,k⟩
  ·cases he
 |(p,c)::l,s,h,x,s',h',he,k=>by
  simp only[rngS] at he
  split at he
  ·rename_i hi
   refine⟨hi,?_⟩
   split at he
   ·rename_i s1 h1 h1'
    exact hf _ _ .normal s1 h1 _ h1' (jiZ hf l s1 h1 x s' h' he k)
   ·rename_i j s1 h1 h1'
    refine hf _ _ (.exit j) s1 h1 _ h1' ?_
    simp only[jas.rng]
    split at he
    ·rename_i hj;rw[if_pos hj];exact jiZ hf l s1 h1 x s' h' he k
    ·rename_i hj
     rw[if_neg hj]
     split at he
     ·rename_i ho
      rw[if_pos ho]
      simp only[Option.some.injEq,Prod.mk.injEq] at he
      obtain⟨rfl,rfl,rfl⟩:=he
      exact k
     ·rename_i ho
      rw[if_neg ho]
      simp only[Option.some.injEq,Prod.mk.injEq] at he
      obtain⟨rfl,rfl,rfl⟩:=he
      exact k
   ·rename_i h1 h2
    refine hf _ _ x s' h' _ he ?_
    cases x with
    |normal=>exact absurd he (h1 s' h')
    |exit id=>exact absurd he (h2 id s' h')
    |ret=>exact k
  ·cases he
theorem jnt {C:jaG}{n:Nat}: ∀(c:jar) (fl:Nat→Bool) s h x s' h' K,exec C n fl c s h=some (x,s',h')→K x s' h'→ja2 (fun _=>C) (jfl C) c fl s h K:=by
 intro c
 induction c with
 |skip=>intro fl s h x s' h' K he k;simp only[exec,Option.some.injEq,Prod.mk.injEq] at he;obtain⟨rfl,rfl,rfl⟩:=he;exact k
 |ops l=>
  intro fl s h x s' h' K he k
  simp only[exec] at he
  split at he
  ·rename_i s1 h1 h1'
   simp only[Option.some.injEq,Prod.mk.injEq] at he
   obtain⟨rfl,rfl,rfl⟩:=he
   exact jbZ _ _ _ _ _ _ _ h1' k
  ·cases he
 |opsD l=>
  intro fl s h x s' h' K he k
  simp only[exec] at he
  split at he
  ·rename_i s1 h1 h1'
   simp only[Option.some.injEq,Prod.mk.injEq] at he
   obtain⟨rfl,rfl,rfl⟩:=he
   exact⟨0,_,_,h1',k⟩
  ·cases he
 |opsW l=>
  intro fl s h x s' h' K he k
  simp only[exec] at he
  split at he
  ·rename_i s1 h1 h1'
   simp only[Option.some.injEq,Prod.mk.injEq] at he
   obtain⟨rfl,rfl,rfl⟩:=he
   exact⟨0,_,_,h1',k⟩
  ·cases he
 |opsH l=>
  intro fl s h x s' h' K he k
  simp only[exec] at he
  split at he
  ·rename_i hpre
   split at he
   ·rename_i s1 h1 h1'
    simp only[Option.some.injEq,Prod.mk.injEq] at he
    obtain⟨rfl,rfl,rfl⟩:=he
    exact⟨hpre,jbZ _ _ _ _ _ _ _ h1' k⟩
   ·cases he
  ·cases he
 |opsV l=>intro fl s h x s' h' K he k;simp only[exec] at he;cases he
 |rng isMap src it nx more pair out nb pre asg body ih=>
  intro fl s h x s' h' K he k
  simp only[exec] at he
  split at he
  ·rename_i s1 h1 h1'
   simp only[ja2]
   refine jbZ _ _ _ _ _ _ _ h1' ?_
   split at he
   ·rename_i hM
    rw[if_pos hM]
    split at he
    ·rename_i id hid
     split at he
     ·rename_i hb
      simp only[Option.some.injEq,Prod.mk.injEq] at he
      obtain⟨rfl,rfl,rfl⟩:=he
      exact⟨id,[],hid,hb,by simp[isIt,upd],rfl,k⟩
     ·cases he
    ·cases he
   ·rename_i hM
    rw[if_neg hM]
    split at he
    ·rename_i t ht
     refine⟨t,ht,jiZ (fun s h x s' h' K he k=>?_) _ _ _ _ _ _ he k⟩
     split at he
     ·rename_i s2 h2 h2'
      exact jbZ _ _ _ _ _ _ _ h2' (ih fl s2 h2 x s' h' K he k)
     ·cases he
    ·cases he
  ·cases he
 |seq a b iha ihb=>
  intro fl s h x s' h' K he k
  simp only[exec] at he
  simp only[ja2]
  split at he
  ·rename_i s1 h1 h1'
   exact iha fl s h .normal s1 h1 _ h1' (ihb fl s1 h1 x s' h' K he k)
  ·rename_i hne
   refine iha fl s h x s' h' _ he ?_
   cases x with
   |normal=>exact absurd he (hne s' h')
   |exit id=>exact k
   |ret=>exact k
 |cond c a b iha ihb=>
  intro fl s h x s' h' K he k
  simp only[exec] at he
  split at he
  ·rename_i t ht
   refine⟨t,ht,fun h1=>?_,fun h1=>?_⟩
   ·subst h1;exact iha fl s h x s' h' K (by simpa using he) k
   ·subst h1;exact ihb fl s h x s' h' K (by simpa using he) k
  ·cases he
 |block id a iha=>
  intro fl s h x s' h' K he k
  simp only[exec] at he
  simp only[ja2]
  split at he
  ·rename_i j s1 h1 h1'
   refine iha fl s h (.exit j) s1 h1 _ h1' ?_
   simp only[jas.inBlk]
   split at he
   ·rename_i hj
    simp only[Option.some.injEq,Prod.mk.injEq] at he
    obtain⟨rfl,rfl,rfl⟩:=he
    rw[if_pos hj];exact k
   ·rename_i hj
    simp only[Option.some.injEq,Prod.mk.injEq] at he
    obtain⟨rfl,rfl,rfl⟩:=he
    rw[if_neg hj];exact k
  ·rename_i hne
   refine iha fl s h x s' h' _ he ?_
   cases x with
   |normal=>exact k
   |exit id=>exact absurd he (hne id s' h')
   |ret=>exact k
 |loop a iha=>
  intro fl s h x s' h' K he k
  simp only[exec] at he
  exact jns (fun s h x s' h' K=>iha fl s h x s' h' K) n s h x s' h' he k
 |exit id=>intro fl s h x s' h' K he k;simp only[exec,Option.some.injEq,Prod.mk.injEq] at he;obtain⟨rfl,rfl,rfl⟩:=he;exact k
 |scope a iha=>intro fl s h x s' h' K he k;exact iha fl s h x s' h' K he k
 |ret=>intro fl s h x s' h' K he k;simp only[exec,Option.some.injEq,Prod.mk.injEq] at he;obtain⟨rfl,rfl,rfl⟩:=he;exact k
 |bad=>intro fl s h x s' h' K he k;simp[exec] at he
theorem jo6 (hmix:P.follows .mixedOrders=true)(hC:jbo P C)(hfl: ∀id,fl id=true→n0≤id)(n:Nat)(code:Code)(c:jar)(hc:jbW P nt code=some c):
  ∀s h x s' h',exec C n fl c s h=some (x,s',h')→ ∀m w a,Rels n0 B0 m h w→SR nt m s a→ ∀Q:Exit→Act→World→Prop,(∀m' a' w',Post n0 B0 fl m h w m' h' w'→SR nt m' s' a'→a'.defers=a.defers→Q (ja4 x) a' w')→code.wp P Q a w:=by
 intro s h x s' h' he m w a r hs Q hQ
 refine jba hmix (fun _=>hC) (jgv hC) code c hc fl hfl s h (fun x2 s2 h2=>x2=x∧s2=s'∧h2=h') (jnt c fl s h x s' h' _ he ⟨rfl,rfl,rfl⟩) m w a r hs Q (fun x2 s2 h2 m' a' w' e p q d=>?_) (fun _ _ _ _ _ h=>h.elim)
 obtain⟨rfl,rfl,rfl⟩:=e
 exact hQ m' a' w' p q d
def resV (tmps:Array Value):ResultVar→Sem Value
  | .tmp t=>pure (tmps.getD t undef)
  | .cell a t=>do loadVar t (←asAddr (tmps.getD a undef))
theorem jor (fn:Func)(tmps:Array Value):results fn tmps=(do
  let vs ←fn.results.mapM (resV tmps)
  pure (if h:vs.size=1 then vs[0] else .tuple vs)):=rfl
theorem jqU {m:Map}{h:Heap}{w:World}{s:jah}{a:Act}(r:Rels n0 B0 m h w)(hs:SR nt m s a){R:ResultVar}{q:ARes}(hc:cRes P R=some q){v:AV}(hv:resA s h q=some v):
  ∃v',(resV a.tmps R).run P w= .ok v' w∧VR m v v':=by
 cases R with
 |tmp t=>
  simp only[cRes,Option.some.injEq] at hc;subst hc
  simp only[resA,Option.some.injEq] at hv;subst hv
  exact⟨_,rfl,hs.slot t⟩
 |cell x t=>
  simp only[cRes,Option.map_eq_some_iff] at hc
  obtain⟨n,hn,rfl⟩:=hc
  simp only[resA] at hv
  split at hv
  ·rename_i id off hp
   have hx:=hs.slot x
   rw[hp] at hx
   obtain⟨b,hb,hq⟩:=hx.ptr_inv
   cases n with
   |some n=>
    obtain⟨h1,h2⟩:=jdX (w:=w) hn
    obtain⟨cs,hcs,rfl⟩:=Option.map_eq_some_iff.1 hv
    unfold rd at hcs
    split at hcs
    ·rename_i l hl
     split at hcs
     ·rename_i hle
      injection hcs with hcs;subst hcs
      obtain⟨vs,h3,h4,h5⟩:=jet r.rel hl hb hle
      have:=run_loadCells_list (P:=P) w _ vs h4
      rw[h3] at this
      exact⟨.agg vs.toArray,by simp[resV,hq,asAddr,loadVar,h1,h2,this],VRs.agg (by simpa using h5)⟩
     ·cases hcs
    ·cases hcs
   |none=>
    have h1:=jeJ (w:=w) hn
    simp only at hv
    unfold rd1 at hv
    split at hv
    ·rename_i l hl
     obtain⟨v',h3,h4⟩:=r.rel.cell id l b hl hb off _ hv
     exact⟨v',by simp[resV,hq,asAddr,loadVar,h1,h3],h4⟩
    ·cases hv
  ·cases hv
theorem jes {m:Map}{h:Heap}{w:World}{s:jah}{a:Act}(r:Rels n0 B0 m h w)(hs:SR nt m s a){fn:Func}{rs:List ARes}(hc:fn.results.toList.mapM (cRes P)=some rs){v:AV}(hv:jbK rs s h=some v):
  ∃v',(results fn a.tmps).run P w= .ok v' w∧VR m v v':=by
 have key: ∀(Rs:List ResultVar) (rs:List ARes) (vs:List AV),Rs.mapM (cRes P)=some rs→rs.mapM (resA s h)=some vs→ ∃us:List Value,(Rs.mapM (resV a.tmps)).run P w= .ok us w∧VRs m vs us:=by
  intro Rs
  induction Rs with
  |nil=>
   intro rs vs h1 h2
   simp at h1;subst h1
   simp at h2;subst h2
   exact⟨[],by simp,.nil⟩
  |cons R Rs ih=>
   intro rs vs h1 h2
   simp only[List.mapM_cons,Option.pure_def,Option.bind_eq_bind,Option.bind_eq_some_iff,Option.some.injEq] at h1
   obtain⟨q,hq,rs',hrs,rfl⟩:=h1
   simp only[List.mapM_cons,Option.pure_def,Option.bind_eq_bind,Option.bind_eq_some_iff,Option.some.injEq] at h2
   obtain⟨v,hv,vs',hvs,rfl⟩:=h2
   obtain⟨us,h3,h4⟩:=ih rs' vs' hrs hvs
   obtain⟨v',h5,h6⟩:=jqU (P:=P) r hs hq hv
   refine⟨v'::us,?_,.cons h6 h4⟩
   rw[List.mapM_cons,Sem.run_bind,h5,Result.andThen_ok,Sem.run_bind,h3]
   rfl
 have fin: ∀(us:List Value),(fn.results.toList.mapM (resV a.tmps)).run P w= .ok us w→(results fn a.tmps).run P w= .ok (if h:us.length=1 then us[0] else .tuple us.toArray) w:=by
  intro us hus
  rw[jor,Array.mapM_eq_mapM_toList,Sem.run_bind,Sem.run_map,hus]
  simp
 unfold jbK at hv
 split at hv
 ·rename_i q
  have hone: ∃R,fn.results.toList=[R]∧cRes P R=some q:=by
   obtain⟨hl,hg⟩:=jfO _ _ hc
   cases hR:fn.results.toList with
   |nil=>rw[hR] at hl;simp at hl
   |cons R Rs=>
    cases Rs with
    |nil=>
     rw[hR] at hg
     obtain⟨y,h1,h2⟩:=hg 0 R rfl
     simp at h1;subst h1
     exact⟨R,rfl,h2⟩
    |cons R' Rs=>rw[hR] at hl;simp at hl
  obtain⟨R,hR,hq⟩:=hone
  obtain⟨us,h1,h2⟩:=key [R] [q] [v] (by simp[hq]) (by simp[hv])
  have hul:us.length=1:=by rw[←h2.1];rfl
  have:=fin us (by rw[hR];exact h1)
  rw[dif_pos hul] at this
  refine⟨_,this,h2.2 0 v _ rfl ?_⟩
  exact List.getElem?_eq_getElem _
 ·rename_i hne
  obtain⟨vs,hvs,rfl⟩:=Option.map_eq_some_iff.1 hv
  obtain⟨us,h1,h2⟩:=key fn.results.toList rs vs hc hvs
  have hul:us.length≠1:=by
   intro e
   have h3:vs.length=1:=by rw[h2.1];exact e
   have h4:=(jfO _ _ hvs).1
   cases rs with
   |nil=>simp only[List.length_nil] at h4;omega
   |cons q rs=>
    cases rs with
    |nil=>exact hne q rfl
    |cons q' rs=>simp at h4;omega
  have:=fin us h1
  rw[dif_neg hul] at this
  exact⟨_,this,VRs.tuple (by simpa using h2)⟩
theorem noX_ok:jbo P noX:=fun f args fl h v h' he=>by simp[noX] at he
theorem jje (hmix:P.follows .mixedOrders=true){X:jaG}(hX:jbo P X){F:FuncId→Option jaM}(hF: ∀f af,F f=some af→jal P f=some af): ∀n,jbo P (call X F n)
 |0=>fun f args fl h v h' he=>hX f args fl h v h' he
 |n+1=>fun f args fl h v h' he=>by
  have ih:=jje hmix hX hF n
  simp only[call] at he
  split at he
  ·rename_i r hr
   injection he with he
   subst he
   exact hX f args fl h v h' hr
  split at he
  ·rename_i af haf
   have hcf:=hF f af haf
   unfold jal at hcf
   split at hcf
   ·rename_i fn hfn
    split at hcf
    ·cases hcf
    ·rename_i hname
     split at hcf
     ·rename_i c hb
      split at hcf
      ·rename_i body rs hbody hrs
       injection hcf with hcf;subst hcf
       simp only at he
       refine⟨⟨fn,c,hfn,by simpa using hname,hb⟩,?_⟩
       intro n0 B0 m w vals r hfl hvals
       split at he
       ·rename_i hlen
        have hvl:=hvals.1
        simp only[Array.length_toList] at hvl
        have hsr:SR fn.ntmps m (fun t=>args.getD t .no) { tmps:=vals++Array.replicate (fn.ntmps - vals.size) undef,defers:=[] }:=by
         refine⟨by simp;omega,fun t=>?_⟩
         by_cases ht:t<args.length
         ·have h1:(vals++Array.replicate (fn.ntmps - vals.size) undef).getD t undef=vals[t]'(by omega):=by
           rw[Array.getD_eq_getD_getElem?,Array.getElem?_append_left (by omega),Array.getElem?_eq_getElem (by omega)];rfl
          simp only[h1]
          refine hvals.2 t _ _ ?_ ?_
          ·simp[List.getD,List.getElem?_eq_getElem ht]
          ·rw[Array.getElem?_toList,Array.getElem?_eq_getElem (by omega)]
         ·have h1:(vals++Array.replicate (fn.ntmps - vals.size) undef).getD t undef=undef:=by
           rw[Array.getD_eq_getD_getElem?,Array.getElem?_append_right (by omega),Array.getElem?_replicate]
           split<;>rfl
          simp only[h1]
          have h2:args.getD t .no= .no:=by simp[List.getD,List.getElem?_eq_none (Nat.le_of_not_lt ht)]
          rw[h2];exact VRs.no
        refine calls_of_wp hfn hb ?_
        have es:=jo6 (B0:=B0) hmix ih hfl n c body hbody
        have go: ∀x s' h2,exec (call X F n) n fl body (fun t=>args.getD t .no) h=some (x,s',h2)→(x= .normal∨x= .ret)→(jbK rs s' h2).map (fun v=>(v,h2))=some (v,h')→
          c.wp P (bodyPost P fn fun e w'=> ∃v' m',e= .returned v'∧Post n0 B0 fl m h w m' h' w'∧VR m' v v') { tmps:=vals++Array.replicate (fn.ntmps - vals.size) undef,defers:=[] } w:=by
         intro x s' h2 hex hx hres
         obtain⟨v0,hv0,hpair⟩:=Option.map_eq_some_iff.1 hres
         injection hpair with e1 e2;subst e1;subst e2
         refine es _ _ x s' h2 hex m w _ r hsr _ fun m' a' w' p q d=>?_
         obtain⟨v',h3,h4⟩:=jes (P:=P) p.rels q hrs hv0
         have hpost:a'.defers=[]∧ ∃u,(results fn a'.tmps).run P w'= .ok u w'∧ ∃v' m',Ending.returned u= .returned v'∧Post n0 B0 fl m h w m' h2 w'∧VR m' v0 v':=⟨d,v',h3,v',m',rfl,p,h4⟩
         rcases hx with rfl|rfl
         ·exact hpost
         ·exact hpost
        split at he
        ·rename_i s' h2 hex
         exact go .normal s' h2 hex (.inl rfl) he
        ·rename_i s' h2 hex
         exact go .ret s' h2 hex (.inr rfl) he
        ·cases he
       ·cases he
      ·cases hcf
     ·cases hcf
   ·cases hcf
  ·cases he
theorem am_calls (hmix:P.follows .mixedOrders=true){X:jaG}(hX:jbo P X){F:FuncId→Option jaM}(hF: ∀f af,F f=some af→jal P f=some af){n:Nat}{f:FuncId}{args:List AV}{h h':Heap}{v:AV}(he:call X F n f args (fun i=>decide (h.length≤i)) h=some (v,h'))
  {m:Map} {W:World} {vals:Array Value} (r:Rels h.length W.heap.size m h W) (hv:VRs m args vals.toList):Calls P f vals W fun e W'=> ∃v' m',e= .returned v'∧VR m' v v'∧Below W.heap.size W W':=by
 refine ((jje hmix hX hF n f args _ h v h' he).2 h.length W.heap.size m W vals r (fun id hid=>by simpa using hid) hv).mono fun e W' hp=>?_
 obtain⟨v',m',rfl,p,hv'⟩:=hp
 refine⟨v',m',rfl,hv',p.os,p.tape,p.output,p.size,fun k hk=>p.frame k hk fun id l b h1 h2 h3=>?_⟩
 have:=ja1 h2
 simp at h1
 omega
/-! ### Calls told by what holds behind them -/
def YOk (P:Program)(pn:PX):Prop:=
  ∀ f args fl h K, pn.y f args fl h K → (∃ fn c, P.funcs[f]? = some fn ∧ (fn.name == "runtime.NumGoroutine") = false ∧ fn.body = some c) ∧
    ∀n0 B0 m w (vals:Array Value),Rels n0 B0 m h w→(∀id,fl id=true→n0≤id)→VRs m args vals.toList→
      Calls P f vals w fun e w'=>(∃v h' v' m',K v h'∧e= .returned v'∧Post n0 B0 fl m h w m' h' w'∧VR m' v v')∨(∃pv h' m',pn.g pv∧e= .panicked [{ v:=pv,recovered:=false }]∧Post n0 B0 fl m h w m' h' w')
theorem YOk.no:YOk P PX.no:=fun _ _ _ _ _ h=>h.elim
theorem pstep_ok {pn:PX}(hY:YOk P pn)(hmix:P.follows .mixedOrders=true){X:jaG}(hX:jbo P X){F:FuncId→Option jaM}(hF: ∀f af,F f=some af→jal P f=some af){C:jcF}(hC:jb5 P pn.g C):jb5 P pn.g (jlF pn X F C):=by
 refine⟨?_,fun args fl h K hp=>hp⟩
 intro f args fl h K hp
 unfold jlF at hp
 simp only at hp
 rcases hp with⟨K0,hy,hk⟩|hp
 ·obtain⟨h1,h2⟩:=hY f args fl h K0 hy
  refine⟨h1,fun n0 B0 m w vals r hfl hv=>(h2 n0 B0 m w vals r hfl hv).mono fun e w' hp=>?_⟩
  rcases hp with⟨v,h',v',m',k,q⟩|q
  ·exact .inl ⟨v,h',v',m',hk v h' k,q⟩
  ·exact .inr q
 split at hp
 ·rename_i r hr
  exact (jhR hX).1 f args fl h K ⟨r.1,r.2,hr,hp⟩
 ·split at hp
  ·rename_i af haf
   obtain⟨hlen,hp⟩:=hp
   have hcf:=hF f af haf
   unfold jal at hcf
   split at hcf
   ·rename_i fn hfn
    split at hcf
    ·cases hcf
    ·rename_i hname
     split at hcf
     ·rename_i c hb
      split at hcf
      ·rename_i body rs hbody hrs
       injection hcf with hcf;subst hcf
       simp only at hp hlen
       refine⟨⟨fn,c,hfn,by simpa using hname,hb⟩,?_⟩
       intro n0 B0 m w vals r hfl hvals
       have hvl:=hvals.1
       simp only[Array.length_toList] at hvl
       have hsr:SR fn.ntmps m (fun t=>args.getD t .no) { tmps:=vals++Array.replicate (fn.ntmps - vals.size) undef,defers:=[] }:=by
        refine⟨by simp;omega,fun t=>?_⟩
        by_cases ht:t<args.length
        ·have h1:(vals++Array.replicate (fn.ntmps - vals.size) undef).getD t undef=vals[t]'(by omega):=by
          rw[Array.getD_eq_getD_getElem?,Array.getElem?_append_left (by omega),Array.getElem?_eq_getElem (by omega)];rfl
         simp only[h1]
         refine hvals.2 t _ _ ?_ ?_
         ·simp[List.getD,List.getElem?_eq_getElem ht]
         ·rw[Array.getElem?_toList,Array.getElem?_eq_getElem (by omega)]
        ·have h1:(vals++Array.replicate (fn.ntmps - vals.size) undef).getD t undef=undef:=by
          rw[Array.getD_eq_getD_getElem?,Array.getElem?_append_right (by omega),Array.getElem?_replicate]
          split<;>rfl
         simp only[h1]
         have h2:args.getD t .no= .no:=by simp[List.getD,List.getElem?_eq_none (Nat.le_of_not_lt ht)]
         rw[h2];exact VRs.no
       refine calls_of_wp hfn hb ?_
       refine jba hmix (fun k=>jje hmix hX hF k) hC c body hbody fl hfl _ h _ hp m w _ r hsr _ (fun x s' h2 m' a' w' k p q d=>?_) (fun pv h' m' a' w' g p d=>⟨d,.inr ⟨pv,h',m',g,rfl,p⟩⟩)
       have go:(∃v,jbK rs s' h2=some v∧K v h2)→a'.defers=[]∧ ∃u,(results fn a'.tmps).run P w'= .ok u w'∧((∃v h' v' m',K v h'∧Ending.returned u= .returned v'∧Post n0 B0 fl m h w m' h' w'∧VR m' v v')∨(∃pv h' m',pn.g pv∧Ending.returned u= .panicked [{ v:=pv,recovered:=false }]∧Post n0 B0 fl m h w m' h' w')):=by
        rintro⟨v,hv,hk⟩
        obtain⟨v',h3,h4⟩:=jes (P:=P) p.rels q hrs hv
        exact⟨d,v',h3,.inl ⟨v,h2,v',m',hk,rfl,p,h4⟩⟩
       cases x with
       |normal=>exact go k
       |ret=>exact go k
       |exit id=>exact k.elim
      ·cases hcf
     ·cases hcf
   ·cases hcf
  ·exact hp.elim
theorem pcall_ok {pn:PX}(hY:YOk P pn)(hmix:P.follows .mixedOrders=true){X:jaG}(hX:jbo P X){F:FuncId→Option jaM}(hF: ∀f af,F f=some af→jal P f=some af):jb5 P pn.g (jdn pn X F):=by
 have key:jb5 P pn.g (fun f args fl h K=>match f with
   | some f => (∃ fn c, P.funcs[f]? = some fn ∧ (fn.name == "runtime.NumGoroutine") = false ∧ fn.body = some c) ∧
    ∀n0 B0 m w (vals:Array Value),Rels n0 B0 m h w→(∀id,fl id=true→n0≤id)→VRs m args vals.toList→
     Calls P f vals w fun e w'=>(∃v h' v' m',K v h'∧e= .returned v'∧Post n0 B0 fl m h w m' h' w'∧VR m' v v')∨(∃pv h' m',pn.g pv∧e= .panicked [{ v:=pv,recovered:=false }]∧Post n0 B0 fl m h w m' h' w')
   |none=> ∃t,args=[.val (.iface t (.agg #[]))]∧pn.g (.iface t (.agg #[]))):=⟨fun f args fl h K hp=>hp,fun args fl h K hp=>hp⟩
 have key2:=pstep_ok hY hmix hX hF key
 refine⟨fun f args fl h K hp=>?_,fun args fl h K hp=>?_⟩
 ·exact hp (fun f args fl h K=>match f with
   | some f => (∃ fn c, P.funcs[f]? = some fn ∧ (fn.name == "runtime.NumGoroutine") = false ∧ fn.body = some c) ∧
    ∀n0 B0 m w (vals:Array Value),Rels n0 B0 m h w→(∀id,fl id=true→n0≤id)→VRs m args vals.toList→
     Calls P f vals w fun e w'=>(∃v h' v' m',K v h'∧e= .returned v'∧Post n0 B0 fl m h w m' h' w'∧VR m' v v')∨(∃pv h' m',pn.g pv∧e= .panicked [{ v:=pv,recovered:=false }]∧Post n0 B0 fl m h w m' h' w')
   |none=> ∃t,args=[.val (.iface t (.agg #[]))]∧pn.g (.iface t (.agg #[]))) fun f args fl h K hk=>match f with
    |some f=>key2.1 f args fl h K hk
    |none=>key2.2 args fl h K hk
 ·exact hp (fun f args fl h K=>match f with
   | some f => (∃ fn c, P.funcs[f]? = some fn ∧ (fn.name == "runtime.NumGoroutine") = false ∧ fn.body = some c) ∧
    ∀n0 B0 m w (vals:Array Value),Rels n0 B0 m h w→(∀id,fl id=true→n0≤id)→VRs m args vals.toList→
     Calls P f vals w fun e w'=>(∃v h' v' m',K v h'∧e= .returned v'∧Post n0 B0 fl m h w m' h' w'∧VR m' v v')∨(∃pv h' m',pn.g pv∧e= .panicked [{ v:=pv,recovered:=false }]∧Post n0 B0 fl m h w m' h' w')
   |none=> ∃t,args=[.val (.iface t (.agg #[]))]∧pn.g (.iface t (.agg #[]))) fun f args fl h K hk=>match f with
    |some f=>key2.1 f args fl h K hk
    |none=>key2.2 args fl h K hk
theorem jhQ {m m':Map}{h h':Heap}{W W':World}(p:Post h.length W.heap.size (fun i=>decide (h.length≤i)) m h W m' h' W'):Below W.heap.size W W':=by
 refine⟨p.os,p.tape,p.output,p.size,fun k hk=>p.frame k hk fun id l b h1 h2 h3=>?_⟩
 have:=ja1 h2
 simp at h1
 omega
theorem jox {pn:PX}(hY:YOk P pn)(hmix:P.follows .mixedOrders=true){X:jaG}(hX:jbo P X){F:FuncId→Option jaM}(hF: ∀f af,F f=some af→jal P f=some af){f:FuncId}{args:List AV}{h:Heap}{K:AV→Heap→Prop}(he:jdn pn X F (some f) args (fun i=>decide (h.length≤i)) h K)
  {m:Map} {W:World} {vals:Array Value} (r:Rels h.length W.heap.size m h W) (hv:VRs m args vals.toList):Calls P f vals W fun e W'=>(∃v h' v' m',K v h'∧e= .returned v'∧Post h.length W.heap.size (fun i=>decide (h.length≤i)) m h W m' h' W'∧VR m' v v')∨(∃pv,pn.g pv∧e= .panicked [{ v:=pv,recovered:=false }]∧Below W.heap.size W W'):=by
 refine (((pcall_ok hY hmix hX hF).1 f args _ h K he).2 h.length W.heap.size m W vals r (fun id hid=>by simpa using hid) hv).mono fun e W' hp=>?_
 rcases hp with⟨v,h',v',m',hk,rfl,p,hv'⟩|⟨pv,h',m',g,rfl,p⟩
 ·exact .inl ⟨v,h',v',m',hk,rfl,p,hv'⟩
 ·exact .inr ⟨pv,g,rfl,jhQ p⟩
end
end
end Go.Proofs.YtjaahfncbechnaaGreatDoor
