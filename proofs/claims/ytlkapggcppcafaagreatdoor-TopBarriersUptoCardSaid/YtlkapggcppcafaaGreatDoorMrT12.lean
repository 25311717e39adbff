/-
  Proved: WHERE WHAT IT READS IS OF BULK AT MOST 1048576 TopBarriers answers true: a state's cells, built while marked, and let go: just those are left that are reached.
-/
import Derived.Deep.CondSized
import Derived.Deep.DeepHandedRow
import Derived.Lay
import Derived.Lib.LaidTab
import Derived.MakeChecks
import Derived.Stop.LaidErr
import Derived.Test.YtlkapggcppcafaaGreatDoorCards
import Derived.Test.YtlkapggcppcafaaGreatDoorMrT1
import Derived.Test.YtlkapggcppcafaaGreatDoorMrT11
import Derived.Test.YtlkapggcppcafaaGreatDoorMrT9
import Derived.Test.YtlkapggcppcafaaGreatDoorTie
set_option linter.unusedVariables false
set_option maxHeartbeats 32000000
set_option linter.unusedSimpArgs false
open And renaming intro→P3
open Array renaming all_eq_true_iff_forall_mem→O2a
open Bool renaming not_eq_false'→P7,not_false→P8,true_eq_false→S3,false_eq_true→N6,not_eq_false→S4,not_eq_true'→A9
open Int renaming toNat_natCast→O0f
open List renaming getElem?_eq_some_iff→U0,getElem?_set_self→H9,getElem?_set_ne→O0a,length_map→P2,replicate→O6,getElem?_eq_getElem→U1,mem_cons→A4,mem_singleton→X6,getD→E7,length_take→C4,take_of_length_le→I5,ext_getElem?→U7,getElem?_append_left→V5,getElem?_take→O8,getElem?_append_right→N0,getElem?_replicate→J8,contains_iff_mem→B2,getD_cons_zero→S5,getD_cons_succ→S6,map_cons→B6,map_nil→O0w,append_nil→A0,length_cons→Q3,length_nil→G9,mapM_cons→Q7,set_cons_zero→S8,set_cons_succ→S9,append_assoc→M8,cons_append→N9,nil_append→B8,length_append→G3,take_zero→F3,take_succ_cons→F4,drop_zero→W1,drop_succ_cons→W4,getElem?_cons_zero→F5,getElem?_cons_succ→Q5,range→O5,mem_map→U6,mem_of_getElem?→R5,getD_eq_getElem?_getD→C0,sum_cons→O1z,getElem?_eq_none→J1,flatMap_cons→O0s,length_singleton→O1k,getElem?_map→U8,getElem?_range→Y8
open Nat renaming zero_add→C8,le_refl→V2,reduceEqDiff→X4,reduceLeDiff→X0,add_eq_zero_iff→F6,add_zero→M5,mul_one→O1f,lt_succ_of_lt→O1y,le_trans→V3
open Option renaming map_eq_some_iff→U5,bind_eq_bind→Q8,bind_some→Q9,pure_def→Q6,map_none→S7,map_some→U9
open Option.some renaming injEq→U4,inj→O2c
open Prod.mk renaming injEq→O4
namespace Go.Proofs.YtlkapggcppcafaaGreatDoor
open IntWalk renaming i64_in→Y5
open Lib renaming hid→Z4
open World renaming laidAll→O2b
section
open Go Go.RowKit
section
variable {kd:Int}{mk mk':Bool}{T T1 T2 T':List TB}{a b n d r e:Int}{N:Nat}{P P':Nat→List Int}{hd hd':Nat→Bool}
structure Smc (T T1:List TB):Prop where
  len:T1.length=T.length
  ats: ∀(j:Nat) (y:TB),T1[j]?=some y→ ∃x,T[j]?=some x∧y.2.1=x.2.1∧y.2.2.2=x.2.2.2∧(x.2.2.1=3→y.2.2.1=3)
theorem Smc.refl:Smc T T:=⟨rfl,fun j y h=>⟨y,h,rfl,rfl,id⟩⟩
theorem Smc.trans (h:Smc T T1)(g:Smc T1 T2):Smc T T2:=⟨g.len.trans h.len,fun j y hy=>by
 obtain⟨x,hx,a1,a2,a3⟩:=g.ats j y hy;obtain⟨z,hz,b1,b2,b3⟩:=h.ats j x hx;exact⟨z,hz,a1.trans b1,a2.trans b2,fun q=>a3 (b3 q)⟩⟩
theorem Smc.col {n:Nat}{x:TB}{c:Int}(hx:T[n]?=some x)(h3:x.2.2.1≠3):Smc T (T.set n (colX x c)):=by
 have hn:=(U0.1 hx).1;refine⟨by simp,fun j y hy=>?_⟩;by_cases hj:j=n
 ·subst hj
  rw[H9 hn] at hy;injection hy with hy
  subst hy;exact⟨x,hx,rfl,rfl,fun q=>absurd q h3⟩
 ·rw[O0a (fun q=>hj q.symm)] at hy
  exact⟨y,hy,rfl,rfl,id⟩
theorem Smc.shade {n:Int}:Smc T (jaz mk T n):=by
 unfold jaz;split
 ·split
  ·rename_i x hx
   split
   ·rename_i h0;exact Smc.col hx (by omega)
   ·exact Smc.refl
  ·exact Smc.refl
 ·exact Smc.refl
theorem Smc.shades: ∀{l:List Int} {T:List TB},Smc T (shades mk T l)
 |[],T=>Smc.refl
 |a::l,T=>(Smc.shade (n:=a)).trans (Smc.shades (l:=l))
theorem Smc.step (h:jek mk T=some T'):Smc T T':=by
 obtain⟨i,x,hx,h1,rfl,_⟩:=jfJ h;exact (Smc.col hx (by omega)).trans Smc.shades
theorem Smc.stp {m:Nat}(h:Stp mk m T T'):Smc T T':=by
 induction h with
 |zero=>exact Smc.refl
 |next _ h2 ih=>exact ih.trans (Smc.step h2)
structure TI (kd:Int)(mk:Bool)(T:List TB)(N:Nat)(P:Nat→List Int)(hd:Nat→Bool):Prop where
  gs:GS kd mk T
  len:T.length=N
  ats: ∀(j:Nat) (x:TB),T[j]?=some x→(x.2.1=P j∧x.2.2.2=hd j)∨(x.2.2.1=3∧x.2.1=[]∧x.2.2.2=false∧hd j=false)
theorem TI.sim (h:TI kd mk T N P hd)(s:Smc T T1)(g:GS kd mk' T1):TI kd mk' T1 N P hd:=⟨g,s.len.trans h.len,fun n y hy=>by
 obtain⟨x,hx,e1,e2,e3⟩:=s.ats n y hy;rcases h.ats n x hx with⟨q1,q2⟩|⟨q1,q2,q3,q4⟩
 ·exact .inl ⟨e1.trans q1,e2.trans q2⟩
 ·exact .inr ⟨e3 q1,e1.trans q2,e2.trans q3,q4⟩⟩
theorem TI.tick (h:TI kd mk T N P hd)(ho:DoT kd mk T a b n d r e mk' T')(h5:5≤d∧d≤7):TI kd mk' T' N P hd:=by
 have g:=jfy ho h.gs
 cases ho with
 |stepNo _=>exact h
 |stepArg _ _=>exact h
 |step hm _ hS _ _=>exact h.sim (Smc.stp hS) g
 |beginNo _=>exact h
 |begn _=>exact h.sim Smc.shades g
 |endNo _=>exact h
 |@done m T1 hm hS hno=>
  subst hm;have g1:=hS.good h.gs;have h1:=h.sim (Smc.stp hS) g1;refine⟨g,by rw[P2];exact h1.len,fun n y hy=>?_⟩;rw[ju2] at hy;obtain⟨x,hx,rfl⟩:=U5.1 hy;rcases h1.ats n x hx with⟨q1,q2⟩|⟨q1,q2,q3,q4⟩
  ·by_cases h0:x.2.2.1=0
   ·have hf:hd n=false:=by
     cases hh:hd n with
     |false=>rfl
     |true=>
      have hr:rF T1 n:=⟨x,hx,by rw[q2,hh]⟩;have:=g1.2.black (jud hno) (.root hr);rw[jhM hx] at this;omega
    right;unfold endX;rw[if_pos h0];exact⟨rfl,rfl,rfl,hf⟩
   ·left;unfold endX;rw[if_neg h0];split<;>exact⟨q1,q2⟩
  ·right;unfold endX;rw[if_neg (by omega),if_neg (by omega)];exact⟨q1,q2,q3,q4⟩
 |other q=>omega
 |_=>exact absurd h5.1 (by decide)
theorem TI.new {m:Nat}(h:TI kd mk T N P hd)(ho:DoT kd mk T a b (m:Int) 1 r e mk' T')(hm:m≤10)(hN:N<100)(hP: ∀j,j<N→P' j=P j∧hd' j=hd j)(hP2:P' N=O6 m (-1))(hh:hd' N=true):e=0∧TI kd mk' T' (N+1) P' hd':=by
 have g:=jfy ho h.gs
 cases ho with
 |new hM=>
  obtain⟨_,rfl,o,rfl⟩:=hM.ok (by omega) (by rw[h.len];exact hN);refine⟨rfl,g,by simp[h.len],fun j y hy=>?_⟩;rw[jjx] at hy;split at hy
  ·rename_i hj
   injection hy with hy
   subst hy;left;rw[hj,h.len];simp[jaJ,hP2,hh]
  ·have hl:j<N:=by have:=(U0.1 hy).1;rw[h.len] at this;exact this
   rw[(hP j hl).1,(hP j hl).2];exact h.ats j y hy
 |other q=>omega
theorem TI.held (h:TI kd mk T N P hd){j:Nat}(hj:j<N)(hh:hd j=true): ∃x,T[j]?=some x∧x.2.1=P j∧x.2.2.2=true∧Sn (jfs T) j:=by
 have hx:T[j]?=some (T[j]'(by rw[h.len];exact hj)):=U1 _;rcases h.ats j _ hx with q|q
 ·exact⟨_,hx,q.1,by rw[q.2,hh],(jg4 h.gs.1).2 (.root ⟨_,hx,by rw[q.2,hh]⟩)⟩
 ·have:=q.2.2.2;rw[hh] at this;cases this
theorem TI.set {A m i:Nat}(h:TI kd mk T N P hd)(ho:DoT kd mk T (A:Int) (m:Int) (i:Int) 2 r e mk' T')(hA:A<N)(hm:m<N)(hi:i<(P A).length)(hall: ∀j,hd j=true)(hP: ∀j,j≠A→P' j=P j)(hPA:P' A=(P A).set i (m:Int)):e=0∧TI kd mk' T' N P' hd:=by
 have g:=jfy ho h.gs;obtain⟨x,hx,h1,h2,sA⟩:=h.held hA (hall A);obtain⟨_,_,_,_,sm⟩:=h.held hm (hall m);have hl:=h.len;have h0:jbO T (setL (A:Int) (m:Int))=0:=by
  unfold jbO setL;rw[if_neg (show ¬(m:Int)= -1 by omega),if_pos,if_pos]
  ·intro z hz
   simp only[A4,List.not_mem_nil,or_false] at hz;rcases hz with rfl|rfl
   ·rw[O0f];exact sA
   ·rw[O0f];exact sm
  ·intro z hz
   simp only[A4,List.not_mem_nil,or_false] at hz;rcases hz with rfl|rfl<;>omega
 cases ho with
 |set=>
  rw[jp2 h0 hx] at g ⊢;have e1:setX kd mk T A x (m:Int) (i:Int)=(0,match (jaz mk T (if kd=1 then (m:Int) else x.2.1.getD (i:Int).toNat 0))[A]? with
   |some y=>(jaz mk T (if kd=1 then (m:Int) else x.2.1.getD (i:Int).toNat 0)).set A (y.1,x.2.1.set (i:Int).toNat (m:Int),y.2.2)
   |none=>(jaz mk T (if kd=1 then (m:Int) else x.2.1.getD (i:Int).toNat 0))):=by
   unfold setX;rw[if_neg (by rw[h1];omega)];rfl
  rw[e1] at g ⊢;have s:=Smc.shade (mk:=mk) (T:=T) (n:=if kd=1 then (m:Int) else x.2.1.getD (i:Int).toNat 0);obtain⟨T1,hT1⟩: ∃T1,T1=jaz mk T (if kd=1 then (m:Int) else x.2.1.getD (i:Int).toNat 0):=⟨_,rfl⟩;rw[←hT1] at s g ⊢;have hA1:A<T1.length:=by rw[s.len,hl];exact hA
  have hy:T1[A]?=some T1[A]:=U1 hA1;obtain⟨y,hye⟩: ∃y,y=T1[A]:=⟨_,rfl⟩;rw[←hye] at hy;rw[hy] at g ⊢;obtain⟨x2,hx2,a1,a2,a3⟩:=s.ats A y hy;rw[hx] at hx2;injection hx2 with hx2;subst hx2
  refine⟨rfl,g,by simp[s.len,hl],fun j z hz=>?_⟩;by_cases hj:j=A
  ·subst hj
   rw[H9 hA1] at hz;injection hz with hz
   subst hz;left;refine⟨?_,?_⟩
   ·show x.2.1.set (i:Int).toNat (m:Int)=P' j
    rw[hPA,h1,O0f]
   ·show y.2.2.2=hd j
    rw[a2,h2,hall]
  ·rw[O0a (fun q=>hj q.symm)] at hz
   rw[hP j hj];obtain⟨w,hw,b1,b2,b3⟩:=s.ats j z hz;rcases h.ats j w hw with⟨q1,q2⟩|⟨q1,q2,q3,q4⟩
   ·exact .inl ⟨b1.trans q1,b2.trans q2⟩
   ·exact .inr ⟨b3 q1,b1.trans q2,b2.trans q3,q4⟩
 |other q=>omega
theorem TI.drop {A:Nat}(h:TI kd mk T N P hd)(ho:DoT kd mk T (A:Int) b n 3 r e mk' T')(hA:A<N)(hh:hd A=true)(hN:hd' A=false)(hO: ∀j,j≠A→hd' j=hd j):e=0∧TI kd mk' T' N P hd':=by
 have g:=jfy ho h.gs;obtain⟨x,hx,h1,h2,sA⟩:=h.held hA hh;have hl:=h.len;have h0:jbO T [(A:Int)]=0:=by
  unfold jbO;rw[if_pos,if_pos]
  ·intro z hz
   rw[X6.1 hz,O0f];exact sA
  ·intro z hz
   rw[X6.1 hz];omega
 cases ho with
 |drop=>
  have e1:jeo kd mk T (A:Int) false=(0,match (if false=decide (kd=1) then jaz mk T (A:Int) else T)[A]? with
   |some x=>(if false=decide (kd=1) then jaz mk T (A:Int) else T).set A (x.1,x.2.1,x.2.2.1,false)
   |none=>(if false=decide (kd=1) then jaz mk T (A:Int) else T)):=by
   unfold jeo;rw[if_neg (by simp[h0]),if_neg (by rw[O0f,hx];simp[h2]),O0f];rfl
  rw[e1] at g ⊢;have s:Smc T (if false=decide (kd=1) then jaz mk T (A:Int) else T):=by
   split
   ·exact Smc.shade
   ·exact Smc.refl
  obtain⟨T1,hT1⟩: ∃T1,T1=(if false=decide (kd=1) then jaz mk T (A:Int) else T):=⟨_,rfl⟩;rw[←hT1] at s g ⊢;have hA1:A<T1.length:=by rw[s.len,hl];exact hA
  have hy:T1[A]?=some T1[A]:=U1 hA1;obtain⟨y,hye⟩: ∃y,y=T1[A]:=⟨_,rfl⟩;rw[←hye] at hy;rw[hy] at g ⊢;obtain⟨x2,hx2,a1,a2,a3⟩:=s.ats A y hy;rw[hx] at hx2;injection hx2 with hx2;subst hx2
  refine⟨rfl,g,by simp[s.len,hl],fun j z hz=>?_⟩;by_cases hj:j=A
  ·subst hj
   rw[H9 hA1] at hz;injection hz with hz
   subst hz;left;exact⟨a1.trans h1,hN.symm⟩
  ·rw[O0a (fun q=>hj q.symm)] at hz
   rw[hO j hj];obtain⟨w,hw,b1,b2,b3⟩:=s.ats j z hz;rcases h.ats j w hw with⟨q1,q2⟩|⟨q1,q2,q3,q4⟩
   ·exact .inl ⟨b1.trans q1,b2.trans q2⟩
   ·exact .inr ⟨b3 q1,b1.trans q2,b2.trans q3,q4⟩
 |other q=>omega
theorem TI.need (h:TI kd mk T N P hd){n:Nat}:Sn (jfs T) n↔Rch (fun a k=>a<N∧(k:Int)∈P a) (fun a=>a<N∧hd a=true) n:=by
 rw[jg4 h.gs.1];constructor
 ·intro hn
  induction hn with
  |@root n hr=>
   obtain⟨x,hx,h2⟩:=hr;have hl:=(U0.1 hx).1;rw[h.len] at hl;rcases h.ats n x hx with q|q
   ·exact .root ⟨hl,by rw[←q.2,h2]⟩
   ·rw[q.2.2.1] at h2;cases h2
  |@edge m k _ he ih=>
   obtain⟨x,hx,hm⟩:=he;have hl:=(U0.1 hx).1;rw[h.len] at hl;rcases h.ats m x hx with q|q
   ·exact .edge ih ⟨hl,by rw[←q.1];exact hm⟩
   ·rw[q.2.1] at hm;cases hm
 ·intro hn
  induction hn with
  |root hr=>
   obtain⟨x,hx,_,h2,_⟩:=h.held hr.1 hr.2;exact .root ⟨x,hx,h2⟩
  |@edge m k _ he ih=>
   have hx:T[m]?=some (T[m]'(by rw[h.len];exact he.1)):=U1 _;rcases h.ats m _ hx with q|q
   ·exact .edge ih ⟨_,hx,by rw[q.1];exact he.2⟩
   ·have:=h.gs.2.keep m ih
    rw[jhM hx] at this;exact absurd q.1 this
theorem maj_mk (h:DoT kd mk T a b n 7 r e mk' T'):mk'=false:=by
 cases h with
 |other q=>omega
 |endNo q=>exact q
 |done _ _ _=>rfl
structure RI (kd:Int)(T0 T:List TB):Prop where
  gs:GS kd true T
  un:UIn (Un (jfs T0)) (cF T) (eF T) (rF T)
  key:T.map keyT=T0.map keyT
  held:jaE T=jaE T0
theorem jtW (h:DoT kd false T a b n 6 r e mk' T')(g:GS kd false T):mk'=true∧RI kd T T':=by
 cases h with
 |other q=>omega
 |beginNo q=>cases q
 |begn _=>exact⟨rfl,jlb g,begin_un g,jjw,jlU⟩
theorem ri_end {T0:List TB}(h:DoT kd true T a b n 7 r e mk' T')(i:RI kd T0 T)(hr:Rng T0):e=0∧mk'=false∧T'.length=T0.length∧ ∀n,n<T0.length→(cF T' n≠3↔Sn (jfs T0) n):=by
 cases h with
 |other q=>omega
 |endNo q=>cases q
 |@done j T1 _ hS hno=>
  have g1:=hS.good i.gs;have u1:=hS.un i.un;refine⟨rfl,rfl,by rw[P2,jce hS.key,jce i.key],fun n hn=>?_⟩;rw[end_c];by_cases hs:Sn (jfs T0) n
  ·have hnd:=(jg4 hr).1 hs
   rw[←jkA i.key,← jkh i.held,← jkA hS.key,← jkh hS.held] at hnd;have hb:=g1.2.black (jud hno) hnd;rw[hb];exact⟨fun _=>hs,fun _=>by decide⟩
  ·have hu:=u1.u3 n ⟨by rw[jqm];exact hn,hs⟩
   refine⟨fun q=>absurd ?_ q,fun q=>absurd q hs⟩;rcases hu with q|q<;>rw[q]<;>simp
def jm7 (T:List TB):List Bool:=T.map fun x=>decide (x.2.2.1<3)
def jeg (T:List TB)(k:Nat):List Int:=ja6 (jm7 T) k
theorem jul {k:Nat}(hk:k<T.length):jeg T (k+1)=jeg T k++(if cF T k<3 then [(k:Int)] else []):=by
 unfold jeg;rw[jeR,jhM (U1 hk)];have:(jm7 T).getD k false=decide (T[k].2.2.1<3):=by simp[E7,hk,jm7]
 rw[this];by_cases h:T[k].2.2.1<3<;>simp[h]
theorem jmQ (sb:List Bool): ∀k,k≤sb.length→ja6 sb k=(jdU (sb.take k) 0).map fun (n:Nat)=>(n:Int)
 |0,_=>rfl
 |k+1,hk=>by
  have ih:=jmQ sb k (by omega);rw[jeR,List.take_succ_eq_append_getElem (show k<sb.length from hk),jgW,ih,C4,Nat.min_eq_left (by omega),C8];have:sb.getD k false=sb[k]:=by simp[E7,show k<sb.length from hk]
  rw[this]
  cases sb[k]<;>simp
theorem juj {sb:List Bool}(g:GS kd mk T')(hl:T'.length=sb.length)(h: ∀n,n<sb.length→(cF T' n≠3↔sb[n]?=some true)):jeg T' T'.length=(jdU sb 0).map fun (n:Nat)=>(n:Int):=by
 have e:jm7 T'=sb:=by
  apply List.ext_getElem (by simp[jm7,hl])
  intro i h1 h2;have hi:i<T'.length:=by omega
  have:=h i h2;have hc:=g.2.rngc i;rw[jhM (U1 hi)] at this hc;rw[U1 h2] at this;simp only[U4] at this;simp only[jm7,List.getElem_map]
  cases hb:sb[i] with
  |true=>
   rw[hb] at this;have:=this.2 rfl;exact decide_eq_true (by omega)
  |false=>
   rw[hb] at this;exact decide_eq_false fun q=>by have:=this.1 (by omega);cases this
 unfold jeg;rw[e,hl,jmQ sb _ (V2 _),I5 (V2 _)]
end
/-! ### The places while they are set -/
def pf (hs:List (List Int))(n i j:Nat):List Int:=if j<n then hs.getD j [] else if j=n then (hs.getD j []).take i++O6 ((hs.getD j []).length - i) (-1) else O6 (hs.getD j []).length (-1)
theorem pf_zero {hs:List (List Int)}(j:Nat):pf hs 0 0 j=O6 (hs.getD j []).length (-1):=by
 unfold pf;rw[if_neg (by omega)];split<;>simp
theorem pf_set {hs:List (List Int)}{n i:Nat}(hi:i<(hs.getD n []).length):pf hs n (i+1) n=(pf hs n i n).set i (hs.getD n [])[i]:=by
 unfold pf;rw[if_neg (by omega),if_pos rfl,if_neg (by omega),if_pos rfl];obtain⟨l,hl⟩: ∃l,l=hs.getD n []:=⟨_,rfl⟩;simp only[←hl] at hi ⊢;apply U7
 intro j;rw[List.getElem?_set];have hle:(l.take i).length=i:=by rw[C4];omega
 have hle1:(l.take (i+1)).length=i+1:=by rw[C4];omega
 by_cases hj:i=j
 ·subst hj
  rw[if_pos rfl,if_pos (by simp;omega),V5 (by omega),O8,if_pos (by omega),U1 hi]
 ·rw[if_neg hj]
  by_cases h1:j<i
  ·rw[V5 (by omega),V5 (by omega),O8,O8,if_pos (by omega),if_pos h1]
  ·rw[N0 (by omega),N0 (by omega),hle,hle1,J8,J8]
   by_cases h2:j<l.length
   ·rw[if_pos (by omega),if_pos (by omega)]
   ·rw[if_neg (by omega),if_neg (by omega)]
theorem pf_other {hs:List (List Int)}{n i j:Nat}(hj:j≠n):pf hs n (i+1) j=pf hs n i j:=by
 unfold pf;rw[if_neg hj,if_neg hj]
theorem pf_next {hs:List (List Int)}{n i:Nat}(hi:(hs.getD n []).length≤i):pf hs n i=pf hs (n+1) 0:=by
 funext j;unfold pf;by_cases h1:j<n
 ·rw[if_pos h1,if_pos (by omega)]
 ·rw[if_neg h1]
  by_cases h2:j=n
  ·subst h2
   rw[if_pos rfl,if_pos (by omega),I5 hi,Nat.sub_eq_zero_of_le hi];simp
  ·rw[if_neg h2,if_neg (by omega)]
   split<;>simp
theorem pf_len {hs:List (List Int)}{n i:Nat}(hi:i≤(hs.getD n []).length):(pf hs n i n).length=(hs.getD n []).length:=by
 unfold pf;rw[if_neg (by omega),if_pos rfl];simp;omega
def hf (rs:List Int)(k j:Nat):Bool:=decide (k≤j∨(j:Int)∈rs)
theorem hf_zero (rs:List Int)(j:Nat):hf rs 0 j=true:=by simp[hf]
theorem hf_keep {rs:List Int}{k:Nat}(h:(k:Int)∈rs):hf rs (k+1)=hf rs k:=by
 funext j;unfold hf;by_cases hj:j=k
 ·subst hj;simp[h]
 ·have:(k+1≤j)↔(k≤j):=by omega
  simp[this]
theorem hf_drop {rs:List Int}{k:Nat}(h: ¬(k:Int)∈rs):hf rs k k=true∧hf rs (k+1) k=false∧ ∀j,j≠k→hf rs (k+1) j=hf rs k j:=by
 refine⟨by simp[hf],by simp[hf,h],fun j hj=>?_⟩;unfold hf;have:(k+1≤j)↔(k≤j):=by omega
 simp[this]
theorem Rch.same {e e':Nat→Nat→Prop}{r r':Nat→Prop}(he: ∀a k,e a k→e' a k)(hr: ∀a,r a→r' a){n:Nat}(h:Rch e r n):Rch e' r' n:=by
 induction h with
 |root h=>exact .root (hr _ h)
 |edge _ h ih=>exact .edge ih (he _ _ h)
theorem jus {s:StT}{n:Nat}(hr: ∀k:Nat,(k:Int)∈jcD s→k<s.cells.length):Rch (fun a k=>a<(hasL s).length∧(k:Int)∈pf (hasL s) (hasL s).length 0 a) (fun a=>a<(hasL s).length∧hf (jcD s) (hasL s).length a=true) n↔Rch (edS s) (roS s) n:=by
 have hl:(hasL s).length=s.cells.length:=by simp[hasL]
 have e1: ∀a k:Nat,(a<(hasL s).length∧(k:Int)∈pf (hasL s) (hasL s).length 0 a)↔edS s a k:=fun a k=>by
  unfold edS;constructor
  ·rintro⟨ha,hm⟩
   unfold pf at hm;rw[if_pos ha] at hm;rw[hl] at ha;refine⟨s.cells[a],U1 ha,?_⟩;simpa[hasL,E7,ha] using hm
  ·rintro⟨c,hc,hm⟩
   have ha:=(U0.1 hc).1;refine⟨by rw[hl];exact ha,?_⟩;unfold pf;rw[if_pos (by rw[hl];exact ha)];simpa[hasL,E7,hc] using hm
 have e2: ∀a:Nat,(a<(hasL s).length∧hf (jcD s) (hasL s).length a=true)↔roS s a:=fun a=>by
  unfold roS hf;rw[decide_eq_true_eq];constructor
  ·rintro⟨h1,h2|h2⟩
   ·omega
   ·exact h2
  ·intro h;exact⟨by rw[hl];exact hr a h,.inr h⟩
 exact⟨Rch.same (fun a k h=>(e1 a k).1 h) fun a h=>(e2 a).1 h,Rch.same (fun a k h=>(e1 a k).2 h) fun a h=>(e2 a).2 h⟩
theorem root_lt {s:StT}(si:StIn s)(k:Nat)(h:(k:Int)∈jcD s):k<s.cells.length:=by
 have h1:=(jdw si k).1.2 h;have h2:=(U0.1 h1).1;have:=(jlv si).1.seen;omega
end
section
open Go Go.RowKit
section
variable {X:XT}{F:FuncId→Option jbq}{base:Nat}{d:Seen}{l:List jav}{s:jal}{h:Heap}{fl:Nat→Bool}{o:jav}{K:jal→Heap→Prop}
def DOk (base:Nat)(d:Seen):Prop:=(∀id,id<base→id∈d.rs)∧ ∀la,d.pr=some la→ ∀id,id<base→id∈la
theorem DOk.go (hd:DOk base d):DOk base (d.with o (jcw fl d o l s h) s):=by
 unfold Seen.with;split
 ·exact hd
 ·rename_i hi
  refine⟨fun id h1=>List.mem_append_right _ (hd.1 id h1),fun la e id h1=>?_⟩;simp only at e;split at e
  ·rename_i hv
   have hf:id∈jcw fl d o l s h:=by
    unfold jcw;rw[if_neg (by simp[hi,hv])];exact List.mem_append_left _ (hd.1 id h1)
   split at e
   ·injection e with e;subst e;exact hf
   ·rename_i l2 h2
    injection e with e;subst e
    exact List.mem_filter.2 ⟨hd.2 _ h2 id h1,B2.2 hf⟩
  ·exact hd.2 la e id h1
def TopOk (base:Nat)(top:Option (Nat×Option (List Nat))):Prop:=top=none∨ ∃d:Seen,DOk base d∧top=some (base,d.pr)
theorem TopOk.sh {top:Option (Nat×Option (List Nat))}{id:Nat}(h:TopOk base top)(hi:id<base):jbw top id=true:=by
 rcases h with rfl|⟨d,hd,rfl⟩
 ·rfl
 ·simp only[jbw,Bool.and_eq_true,decide_eq_true_eq]
  refine⟨hi,?_⟩
  cases hp:d.pr with
  |none=>rfl
  |some la=>exact B2.2 (hd.2 la hp id hi)
theorem jgS (hd:DOk base d)(hg:o.guard=none)(h1: ∀top fl',TopOk base top→(o.iso=true→fl'=fl)→A1 X F top fl' o.op s h fun v h'=> ∀d',DOk base d'→AO X F base fl d' l (put s o.dst v) h' K):AO X F base fl d (o::l) s h K:=by
 have hw:jbu o s=some true:=by unfold jbu;rw[hg]
 rw[jgT,hw];refine⟨fun _=>A1.mono (h1 _ _ ?_ ?_) fun v h' k=>k _ hd.go,fun h=>by cases h⟩
 ·split
  ·exact .inl rfl
  ·exact .inr ⟨d,hd,rfl⟩
 ·intro hi;unfold jbB;rw[hi];rfl
end
section
variable {tb:List (FuncId×Bool)}{nd:Bool}{fl:Nat→Bool}{h:Heap}{K:AV→Heap→Prop}
theorem jtZ {k m:Int}(hm:0<m∧m≤1000000000)(hK:K (I64 (k % m)) h):AC (XC tb nd) (jag Tryz.prog) 8 [I64 k,I64 m] fl h K:=by
 refine AC.enter (by first|rfl|exact jgQ) jnh (by simp) ?_;simp only[jje,kkP];have hr:binV .rem (.int .i64 k) (.int .i64 m)=some (.int .i64 (k.tmod m)):=by simp[binV];omega
 have h1: -m<k.tmod m:=by
  have:=Int.lt_tmod_of_pos k hm.1;omega
 have h2:k.tmod m<m:=Int.tmod_lt_of_pos k hm.1;have h3:k.tmod m=k % m∨k.tmod m=k % m - m:=by
  rw[Int.tmod_eq_emod];split
  ·left;omega
  ·right;omega
 have h4:=Int.emod_nonneg k (b:=m) (by omega);have h5:=Int.emod_lt_of_pos k hm.1;by_cases hn:k.tmod m<0
 ·have hw:IntKind.i64.wrap (k.tmod m+m)=k % m:=by
   rw[Y5 _ (by omega)];omega
  have F:=Z4 hK;clear h3 h4 h5 h1 h2 hK;obtain⟨t,ht⟩: ∃t,t=k.tmod m:=⟨_,rfl⟩;rw[←ht] at hr hn hw;have fin:=F.out;clear ht;repeat' (first|(simp only[jct,jcQ,jcf,jb8,jbl,jb7,jc9,jb6,jbL,ja7,jcu,jbM,jaV,jaQ,jar,ja5,jbH,jaG,jaI,jbe,jeK,jcg,jdb,jb9,jbt,jch,jbp,jaF,jbC,jaC,jbd,jaW,jcY,jbs,jbb,jbG,jeJ,jcj,jbF,jaD,jaB,jaL,jbE,jbD,jaS,jaT,jci,jbN,jaP,jaH,jbc,jda,jba,jaU,jbI,jbV,jcL,jeq,jb1,jb2,jb3,jb4,jb5,jbZ,jbT,jbY,jb0,jcW,jaN,P7,O4,and_assoc,decide_false,decide_true,P8,Bool.not_true,S3,N6,exists_false,S4,Bool.not_not,AV.val.injEq,AV.ptr.injEq,AV.slice.injEq,AV.func.injEq,AV.tuple.injEq,AV.agg.injEq,Value.bool.injEq,Value.int.injEq,U4,exists_eq_left',exists_eq_left,exists_and_left,exists_and_right,and_true,true_and,decide_eq_true_eq,decide_eq_false_iff_not,if_true,if_false,A9,beq_true,beq_false,ne_eq,not_true_eq_false,not_false_eq_true,reduceCtorEq,S5,S6,B6,O0w,A0,X4,reduceIte,ite_true,ite_false,or_true,true_or,or_false,false_or,resA,jaR,true_imp_iff,false_imp_iff,implies_true,imp_false,and_self,imp_self,and_false,false_and,forall_const,jbJ,jbK,ja0,jbj,jbi,jbh,jbf,jbg,jaO,jaY,jaX,jaZ,Q3,G9,List.all_cons,List.all_nil,Bool.and_self,ldA,Q7,List.mapM_nil,Q8,Q9,Q6,S7,U9,S8,S9,Nat.lt_add_one,M8,N9,B8,A0,G3,jdj,jdi,jdl,jdk,jem,jeT,jen,jeU,jcX,F3,F4,List.take_nil,W1,W4,List.drop_nil,F5,Q5,Nat.reduceAdd,X0,F6,and_self,C8,M5,O1f,hr,hn,hw, *])|(simp only[goO,ja7,jar,goC])|(with_reducible apply P3)|(with_reducible intro _))
 ·have hw:k.tmod m=k % m:=by omega
  have F:=Z4 hK;clear h3 h4 h5 h1 h2 hK;rw[hw] at hr hn;have fin:=F.out;clear hw;repeat' (first|(simp only[jct,jcQ,jcf,jb8,jbl,jb7,jc9,jb6,jbL,ja7,jcu,jbM,jaV,jaQ,jar,ja5,jbH,jaG,jaI,jbe,jeK,jcg,jdb,jb9,jbt,jch,jbp,jaF,jbC,jaC,jbd,jaW,jcY,jbs,jbb,jbG,jeJ,jcj,jbF,jaD,jaB,jaL,jbE,jbD,jaS,jaT,jci,jbN,jaP,jaH,jbc,jda,jba,jaU,jbI,jbV,jcL,jeq,jb1,jb2,jb3,jb4,jb5,jbZ,jbT,jbY,jb0,jcW,jaN,P7,O4,and_assoc,decide_false,decide_true,P8,Bool.not_true,S3,N6,exists_false,S4,Bool.not_not,AV.val.injEq,AV.ptr.injEq,AV.slice.injEq,AV.func.injEq,AV.tuple.injEq,AV.agg.injEq,Value.bool.injEq,Value.int.injEq,U4,exists_eq_left',exists_eq_left,exists_and_left,exists_and_right,and_true,true_and,decide_eq_true_eq,decide_eq_false_iff_not,if_true,if_false,A9,beq_true,beq_false,ne_eq,not_true_eq_false,not_false_eq_true,reduceCtorEq,S5,S6,B6,O0w,A0,X4,reduceIte,ite_true,ite_false,or_true,true_or,or_false,false_or,resA,jaR,true_imp_iff,false_imp_iff,implies_true,imp_false,and_self,imp_self,and_false,false_and,forall_const,jbJ,jbK,ja0,jbj,jbi,jbh,jbf,jbg,jaO,jaY,jaX,jaZ,Q3,G9,List.all_cons,List.all_nil,Bool.and_self,ldA,Q7,List.mapM_nil,Q8,Q9,Q6,S7,U9,S8,S9,Nat.lt_add_one,M8,N9,B8,A0,G3,jdj,jdi,jdl,jdk,jem,jeT,jen,jeU,jcX,F3,F4,List.take_nil,W1,W4,List.drop_nil,F5,Q5,Nat.reduceAdd,X0,F6,and_self,C8,M5,O1f,hr,hn, *])|(simp only[goO,ja7,jar,goC])|(with_reducible apply P3)|(with_reducible intro _))
end
theorem jux: ∀(l:List Int) (i:Nat),(l.map eI).flatten[i]?=(l[i]?).map fun x=>Z64 x
 |[],i=>by simp
 |a::l,0=>rfl
 |a::l,i+1=>by
  have:=jux l i;simp only[B6,List.flatten_cons,List.singleton_append,Q5];exact this
theorem jum {h:Heap}{id off:Nat}{u:AV}(e:ldA h id off none=some u):id<h.length:=by
 have e':rd1 h id off=some u:=e;unfold rd1 at e';split at e'
 ·rename_i hb;exact jcm hb
 ·cases e'
abbrev lTopW:List jav:=[⟨(some 13),.load none (.tmp 3),none,false⟩, ⟨(some 14),.load none (.tmp 2),none,true⟩, ⟨(some 15),.load none (.tmp 1),none,true⟩, ⟨(some 16),.indexAddr 1 (.tmp 14) (.tmp 15),none,true⟩, ⟨(some 17),.load none (.tmp 16),none,true⟩, ⟨(some 18),.call (.av (.func 8 [])) [(.tmp 17),(.av (.val (.int .i64 3)))],none,false⟩, ⟨(some 19),.bin .add (.av (.val (.int .i64 5))) (.tmp 18),none,true⟩, ⟨(some 20),.load none (.tmp 2),none,false⟩, ⟨(some 21),.load none (.tmp 1),none,false⟩, ⟨(some 22),.indexAddr 1 (.tmp 20) (.tmp 21),none,true⟩, ⟨(some 23),.load none (.tmp 22),none,false⟩, ⟨(some 24),.call (.av (.func 8 [])) [(.tmp 23),(.av (.val (.int .i64 4)))],none,false⟩, ⟨(some 25),.build [(.val (.int .i64 0)),(.val (.int .i64 0)),(.val (.int .i64 0)),(.val (.int .i64 0))] [(0,1,(.tmp 19)),(3,1,(.tmp 24))],none,true⟩, ⟨(some 26),.call (.av (.func 11 [])) [(.tmp 13),(.tmp 25)],none,true⟩]
theorem xf {w:Wd}{s:jal}{A S:ZS}{W:List Nat}(q: ∀t,ZR w (A t) (s t))(f: ∀t,t∉W→A t=S t): ∃A:ZS,(∀t,ZR w (A t) (s t))∧∀t,t∉W→A t=S t:=⟨A,q,f⟩
theorem topW_z {tb:List (FuncId×Bool)}{nd:Bool}{L:Nat→Bool}{H:ZH}{S:ZS}{KK:jaA→ZS→ZH→Prop}{p q sp mp at0:Nat}{steps:List Int}{x:Int}(h1:S 1= .ptr q 0)(h2:S 2= .ptr sp 0)(h3:S 3= .ptr mp 0)
  (hq:H[q]?=some (.box [Z64 (at0:Int)])) (hs:H[sp]?=some (.box [.fz 1 false (steps.map eI)])) (hm:H[mp]?=some (.box [.ptr p 0])) (hx:steps[at0]?=some x)
  (hdo:ZC (XC tb false) (jag Tryz.prog) 11 [.ptr p 0,.agg [Z64 (5+x % 3),Z64 0,Z64 0,Z64 (x % 4)]] L H fun z H'=> ∀S',(∀t,t<13→S' t=S t)→KK .normal S' H'):
  zW (XC tb nd) (jag Tryz.prog) Gh.no L (.opsW lTopW) S H KK:=by
 intro fl w s r e hS;subst e;rw[jvD];have a1:=hS 1;have a2:=hS 2;have a3:=hS 3;rw[h1] at a1;rw[h2] at a2;rw[h3] at a3;obtain⟨i1,o1,u1,e1,l1,z1⟩:=jg6 r a1 (n:=none) (v:=Z64 (at0:Int)) (by simp[ldZ,hq,jdI]);obtain⟨i2,o2,u2,e2,l2,z2⟩:=jg6 r a2 (n:=none) (v:= .fz 1 false (steps.map eI)) (by simp[ldZ,hs,jdI]);obtain⟨i3,o3,u3,e3,l3,z3⟩:=jg6 r a3 (n:=none) (v:= .ptr p 0) (by simp[ldZ,hm,jdI]);have v1:=z1.val_inv;subst v1;have hlt:at0<steps.length:=(U0.1 hx).1;obtain⟨id,off,len,lb,ex,e4,hj,z4⟩:=jnq r z2 (k:=1) (j:=at0) (v:= .fptr 1 (steps.map eI) at0 0) (by simp[jdd,hlt]);subst e4;have hld:ldA w.h id (off+at0*1) none=some (I64 x)∧id<w.h.length:=by
  have hf:=z2.fz_inv;have hz:(steps.map eI).flatten[at0]?=some (Z64 x):=by rw[jux,hx];rfl
  obtain⟨rows,hrows⟩: ∃rows,rows=steps.map eI:=⟨_,rfl⟩;rw[←hrows] at hf hz
  cases hf with
  |fnil hn=>simp at hz
  |fz cell f1 f2 f3 f4 f5 f6 f7 f8=>
   have c1:=f7 at0 _ hz;have c2:=f8 at0 _ hz;have c3:=(ZR.fr c2:ZR w _ _).val_inv;refine⟨?_,jcm f2⟩;unfold ldA rd1;rw[f2];simp only[O1f];rw[c1,c3]
 obtain⟨l4,lt4⟩:=hld;have lt1:=jum l1;have lt2:=jum l2;have lt3:=jum l3;have hd0:DOk w.h.length ⟨O5 w.h.length,none⟩:=⟨fun id hi=>List.mem_range.2 hi,fun la h=>by cases h⟩;have w1:IntKind.i64.wrap (5+x % 3)=5+x % 3:=Y5 _ (by omega);refine jgS hd0 rfl fun top fl' ht hf=>jbp.2 ⟨i3,o3,u3,e3,ht.sh lt3,l3,fun d1 hd1=>?_⟩
 refine jgS hd1 rfl fun top fl' ht hf=>jbp.2 ⟨i2,o2,_,e2,ht.sh lt2,l2,fun d2 hd2=>?_⟩
 refine jgS hd2 rfl fun top fl' ht hf=>jbp.2 ⟨i1,o1,_,e1,ht.sh lt1,l1,fun d3 hd3=>?_⟩
 refine jgS hd3 rfl fun top fl' ht hf=>jaB.2 ⟨id,off,len,lb,ex,1,at0,rfl,jaN,hj,fun d4 hd4=>?_⟩
 refine jgS hd4 rfl fun top fl' ht hf=>jbp.2 ⟨id,_,_,rfl,ht.sh lt4,l4,fun d5 hd5=>?_⟩
 refine jgS hd5 rfl fun top fl' ht hf=>jbN.2 ⟨_,_,rfl,jtZ (k:=x) (m:=3) (by omega) fun d6 hd6=>?_⟩
 refine jgS hd6 rfl fun top fl' ht hf=>jcY.2 ⟨_,_,_,rfl,rfl,jbT,fun d7 hd7=>?_⟩
 refine jgS hd7 rfl fun top fl' ht hf=>jbp.2 ⟨i2,o2,_,e2,ht.sh lt2,l2,fun d8 hd8=>?_⟩
 refine jgS hd8 rfl fun top fl' ht hf=>jbp.2 ⟨i1,o1,_,e1,ht.sh lt1,l1,fun d9 hd9=>?_⟩
 refine jgS hd9 rfl fun top fl' ht hf=>jaB.2 ⟨id,off,len,lb,ex,1,at0,rfl,jaN,hj,fun d10 hd10=>?_⟩
 refine jgS hd10 rfl fun top fl' ht hf=>jbp.2 ⟨id,_,_,rfl,ht.sh lt4,l4,fun d11 hd11=>?_⟩
 refine jgS hd11 rfl fun top fl' ht hf=>jbN.2 ⟨_,_,rfl,jtZ (k:=x) (m:=4) (by omega) fun d12 hd12=>?_⟩
 refine jgS hd12 rfl fun top fl' ht hf=>jbt.2 ⟨[I64 (IntKind.i64.wrap (5+x % 3)),I64 0,I64 0,I64 (x % 4)],rfl,fun d13 hd13=>?_⟩
 refine jgS hd13 rfl fun top fl' ht hf=>jbN.2 ⟨_,_,rfl,?_⟩
 obtain rfl:=hf rfl;refine (hdo fl' w [u3,.agg [I64 (IntKind.i64.wrap (5+x % 3)),I64 0,I64 0,I64 (x % 4)]] r rfl ?_).mono fun v h' hp d14 hd14=>?_
 ·rw[w1];exact .cons z3 (.cons (ZRs.toAgg (.cons (.fr (.val _)) (.cons (.fr (.val _)) (.cons (.fr (.val _)) (.cons (.fr (.val _)) .nil))))) .nil)
 ·obtain⟨z,w',hh,r',ext,hz,k⟩:=hp
  rw[ja7];have za:ZR w (.agg [Z64 (5+x % 3),Z64 0,Z64 0,Z64 (x % 4)]) (.agg [I64 (IntKind.i64.wrap (5+x % 3)),I64 0,I64 0,I64 (x % 4)]):=by
   rw[w1];exact ZRs.toAgg (.cons (.fr (.val _)) (.cons (.fr (.val _)) (.cons (.fr (.val _)) (.cons (.fr (.val _)) .nil))))
  have zi: ∀n:Int,ZR w' (Z64 n) (I64 n):=fun n=> .fr (.val _)
  have q0:=ja1 (d:=some 13) (fun t=>(hS t).ext ext) (z3.ext ext);have q1:=ja1 (d:=some 15) (ja1 (d:=some 14) q0 (z2.ext ext)) (zi at0);have q2:=ja1 (d:=some 17) (ja1 (d:=some 16) q1 (z4.ext ext)) (zi x);have q3:=ja1 (d:=some 19) (ja1 (d:=some 18) q2 (zi (x % 3))) (zi (IntKind.i64.wrap (5+x % 3)));have q4:=ja1 (d:=some 21) (ja1 (d:=some 20) q3 (z2.ext ext)) (zi at0);have q5:=ja1 (d:=some 23) (ja1 (d:=some 22) q4 (z4.ext ext)) (zi x);have q6:=ja1 (d:=some 26) (ja1 (d:=some 25) (ja1 (d:=some 24) q5 (zi (x % 4))) (za.ext ext)) hz;obtain⟨S',q7,fr⟩:=xf (W:=wrs (.opsW lTopW)) (S:=S) q6 fun t ht=>by
   have hn: ∀d,(wrs (.opsW lTopW)).contains d=true→t≠d:=fun d hd e=>ht (e▸List.contains_iff_mem.1 hd)
   simp only[zput,zupd];rw[if_neg (hn 26 rfl),if_neg (hn 25 rfl),if_neg (hn 24 rfl),if_neg (hn 23 rfl),if_neg (hn 22 rfl),if_neg (hn 21 rfl),if_neg (hn 20 rfl),if_neg (hn 19 rfl),if_neg (hn 18 rfl),if_neg (hn 17 rfl),if_neg (hn 16 rfl),if_neg (hn 15 rfl),if_neg (hn 14 rfl),if_neg (hn 13 rfl)]
  refine⟨S',w',hh,r',ext,q7,fr,k _ fun t ht=>fr t ?_⟩;have: ∀d,d∈wrs (.opsW lTopW)→13≤d:=by decide
  exact fun hd=>absurd (this t hd) (by omega)
end
section
open Go Go.RowKit
variable {tb:List (FuncId×Bool)}{nd:Bool}{L:Nat→Bool}{H:ZH}{K:ZV→ZH→Prop}{p t g q sp mp:Nat}{kd:Int}{mk:Bool}{T:List TB}{a b n d:Int}
theorem jgn (hK:K (ZBo true) H):ZC (XC [] nd) (jag Tryz.prog) 4 [] L H K:=by
 refine ZC.enter Gh.no (boxF_no0 rfl) jrt (by simp) ?_;simp only[jkG,kkP];have fin:=Fin.keep (H0:=H) hK;clear hK;with_reducible repeat' first|simp only[zQ,seval,X0, *]|simp only[jab]|apply P3|intro _
 refine boxC_z ?_;have e1:boxW 5 3=18445899648779419651:=by decide
 have e2:boxE 5 3=0:=by decide
 rw[e1,e2];have e3:binV .eql (.int .u64 18445899648779419651) (.int .u64 18445899648779419651)=some (.bool true):=rfl;clear e1 e2;with_reducible repeat' first|simp only[zQ,seval,X0,e3, *]|simp only[jab]|apply P3|intro _
theorem newx_z {k:Int}(hk:k=1∨k=2)(hK:K (.tuple [.ptr (H.length+1) 0,Z64 0]) (H++[.grow 0 3 [],.box [Z64 k,ZBo false,.own H.length 0 0 0 false]])):
  ZC (XC tb nd) (jag Tryz.prog) 7 [Z64 k] L H K:=by
 refine ZC.enterL ⟨[(11,[(2,3)])],[],[]⟩ (jaf (by decide)) f_mk_new (by simp) fun hL=>?_
 simp only[jqF,kkP];have fin:Fin H (.tuple [.ptr (H.length+1) 0,Z64 0]) (H++[.grow 0 3 [],.box [Z64 k,ZBo false,.own H.length 0 0 0 false]]) K:=Fin.keep hK;clear hK;rcases hk with rfl|rfl
 ·with_reducible repeat' first|simp only[zQ,seval,X0, *]|simp only[jab]|apply P3|intro _
 ·with_reducible repeat' first|simp only[zQ,seval,X0, *]|simp only[jab]|apply P3|intro _
def FrQ (p q:Nat)(H H':ZH):Prop:= ∀(i:Nat) cs,i≠p→i≠q→H[i]?=some (.box cs)→H'[i]?=some (.box cs)
theorem FrQ.trans {A B C:ZH}(h1:FrQ p q A B)(h2:FrQ p q B C):FrQ p q A C:=fun i cs hi hj h=>h2 i cs hi hj (h1 i cs hi hj h)
theorem FrB.toQ {A B:ZH}(h:FrB p A B):FrQ p q A B:=fun i cs hi _ h'=>h i cs hi h'
theorem FrQ.set {A:ZH}{B:ZB}:FrQ p q A (A.set q B):=fun i cs _ hi h=>by rw[O0a (Ne.symm hi)];exact h
theorem FrQ.ext {A X:ZH}:FrQ p q A (A++X):=FrB.ext.toQ
theorem MkAt.setq (h:MkAt H p t g kd mk T){c c':List ZV}(hq:H[q]?=some (.box c))(hp:q≠p):MkAt (H.set q (.box c')) p t g kd mk T:=by
 have ne: ∀{i:Nat} {g k:Nat} {r:List (List ZV)},H[i]?=some (.grow g k r)→q≠i:=fun h2 e=>by subst e;rw[hq] at h2;cases h2
 refine⟨by rw[O0a hp];exact h.box,by rw[O0a (ne h.arr)];exact h.arr,fun x hx=>?_,h.nod,h.len,h.sm⟩;have:=h.pl x hx;obtain⟨o,y⟩:=x
 cases o with
 |none=>exact this
 |some j=>exact⟨this.1,by rw[O0a (ne this.2)];exact this.2⟩
inductive Tick (kd:Int)(mk:Bool)(T:List TB):Bool→List TB→Prop
  |no:Tick kd mk T mk T
  |one {d n r e:Int} {mk':Bool} {T':List TB}:5≤d∧d≤7→DoT kd mk T 0 0 n d r e mk' T'→Tick kd mk T mk' T'
theorem tdo_z {at0:Nat}{steps:List Int}(h:MkAt H p t g kd mk T)(gs:GS kd mk T)(hq:H[q]?=some (.box [Z64 (at0:Int)]))(hs:H[sp]?=some (.box [.fz 1 false (steps.map eI)]))(hm:H[mp]?=some (.box [.ptr p 0]))(hne:q≠p∧sp≠p∧mp≠p∧sp≠q∧mp≠q)(h200:at0≤200)(hl:steps.length≤100000000000000)(hL: ∀i,L i=true)
  (hK: ∀H' g' mk1 T1 mk' T' r e (at':Nat),Tick kd mk T mk1 T1→DoT kd mk1 T1 a b n d r e mk' T'→MkAt H' p t g' kd mk' T'→H'[q]?=some (.box [Z64 (at':Int)])→at'≤200→FrQ p q H H'→K (ZBo (decide (e=0))) H'):
  ZC (XC tb nd) (jag Tryz.prog) 10 [.agg [Z64 d,Z64 a,Z64 b,Z64 n],.ptr q 0,.ptr sp 0,.ptr mp 0] L H K:=by
 refine ZC.enter Gh.no (jaf (by decide)) juC (by simp) ?_;simp only[jnz,kkP];have qX:=jax hq;have sX:=jax hs;have mX:=jax hm;have hbm:jhN false (Z64 (steps.length:Nat)) [Z64 (200:Int)]=some (Z64 ((min steps.length 200:Nat):Int)):=best_min (m:=200);have m1:mp<H.length+1:=O1y (jap hm);have s1:sp<H.length+1:=O1y (jap hs);have q1:q<H.length+1:=O1y (jap hq);have HM:=Z4 h;have HG:=Z4 gs;have HQ:=Z4 hq;have HL:=Z4 hL;have HK:=Z4 hK;have HNE:=Z4 hne;have H2:=Z4 h200;clear h gs hq hs hm hne hL hK h200;by_cases hc:at0<min steps.length 200
 ·have hx:steps[at0]?=some (steps[at0]'(by omega)):=U1 _
  obtain⟨x,hxe⟩: ∃x,x=(steps[at0]'(by omega)):=⟨_,rfl⟩;rw[←hxe] at hx;have hc2:at0<steps.length:=by omega
  have hci:(at0:Int)<((min steps.length 200:Nat):Int):=by omega
  have HC:=Z4 hc;clear hxe hc;with_reducible repeat' first|simp only[zQ,seval,X0,qX,sX,mX,hbm,hci, *]|simp only[jab]|apply P3|intro _
  refine topW_z (p:=p) (q:=q) (sp:=sp) (mp:=mp) (at0:=at0) (steps:=steps) (x:=x) rfl rfl rfl (qX _) (sX _) (mX _) hx ?_;refine do_z (HM.out.ext _) HG.out.1 HL.out fun H2 g2 r e mk2 T2 hdo hM2 hfr S' hS'=>?_
  have e1:S' 1= .ptr q 0:=(hS' 1 (by decide)).trans rfl;have e3:S' 3= .ptr mp 0:=(hS' 3 (by decide)).trans rfl;have e4:S' 4= .ptr H.length 0:=(hS' 4 (by decide)).trans rfl;have hlp:p<H.length:=jap HM.out.box;have bq:=hfr q _ HNE.out.1 (qX _);have bm:=hfr mp _ HNE.out.2.2.1 (mX _);have bd:=hfr H.length _ (by omega) (jeC (.box [Z64 d,Z64 a,Z64 b,Z64 n]) []);have hqd:q≠H.length:=Nat.ne_of_lt (jap HQ.out);have w2:IntKind.i64.wrap ((at0:Int)+1)=((at0+1:Nat):Int):=by rw[Y5 _ (by have:=HC.out;omega)];omega
  have m2:(H2.set q (.box [Z64 ((at0+1:Nat):Int)]))[mp]?=some (.box [.ptr p 0]):=by rw[O0a (Ne.symm HNE.out.2.2.2.2)];exact bm
  have d2:(H2.set q (.box [Z64 ((at0+1:Nat):Int)]))[H.length]?=some (.box [Z64 d,Z64 a,Z64 b,Z64 n]):=by rw[O0a hqd];exact bd
  have q2:(H2.set q (.box [Z64 ((at0+1:Nat):Int)]))[q]?=some (.box [Z64 ((at0+1:Nat):Int)]):=H9 (jap bq);have lq:L q=true:=HL.out q;have hM3:=hM2.setq (c':=[Z64 ((at0+1:Nat):Int)]) bq HNE.out.1;have hG2:=jfy hdo HG.out;have HT:=Z4 (show Tick kd mk T mk2 T2 from .one (by omega) hdo);have HF:=Z4 (show FrQ p q H (H2.set q (.box [Z64 ((at0+1:Nat):Int)])) from FrQ.ext.trans (hfr.toQ.trans FrQ.set));have HM3:=Z4 hM3;have HG2:=Z4 hG2;have HQ2:=Z4 q2;clear hM2 hfr hS' hM3 hG2 q2 hdo bm bd hqd hlp;simp only[jhF];with_reducible repeat' first|simp only[zQ,seval,X0,bq,w2,m2,d2,lq, *]|simp only[jab]|apply P3|intro _
  refine do_z HM3.out HG2.out.1 HL.out fun H4 g4 r4 e4 mk4 T4 hdo4 hM4 hfr4=>?_
  have fin:=Fin.keep (H0:=H) (HK.out H4 g4 mk2 T2 mk4 T4 r4 e4 (at0+1) HT.out hdo4 hM4 (hfr4 q _ HNE.out.1 HQ2.out) (by have:=HC.out;omega) (HF.out.trans hfr4.toQ));clear hdo4 hM4 hfr4;with_reducible repeat' first|simp only[zQ,seval,X0, *]|simp only[jab]|apply P3|intro _
 ·have hci: ¬(at0:Int)<((min steps.length 200:Nat):Int):=by omega
  with_reducible repeat' first|simp only[zQ,seval,X0,qX,sX,mX,hbm,hci, *]|simp only[jab]|apply P3|intro _
  refine do_z (HM.out.ext _) HG.out.1 HL.out fun H4 g4 r4 e4 mk4 T4 hdo4 hM4 hfr4=>?_
  have fin:=Fin.keep (H0:=H) (HK.out H4 g4 mk T mk4 T4 r4 e4 at0 .no hdo4 hM4 (hfr4 q _ HNE.out.1 (qX _)) H2.out (FrQ.ext.trans hfr4.toQ));clear hdo4 hM4 hfr4;with_reducible repeat' first|simp only[zQ,seval,X0, *]|simp only[jab]|apply P3|intro _
end
section
open Go Go.RowKit
variable {nd:Bool}{kd:Int}{mk mk1 mk':Bool}{T T1 T':List TB}{a b n d r e:Int}{N:Nat}{P:Nat→List Int}{hd:Nat→Bool}{p:PrT}{s:StT}
theorem TI.tk (h:TI kd mk T N P hd)(k:Tick kd mk T mk1 T1):TI kd mk1 T1 N P hd:=by
 cases k with
 |no=>exact h
 |one h5 ho=>exact h.tick ho h5
abbrev fTop:FuncId:=10
structure LwI (g0:List ZV)(steps:List Int)(kd:Int)(N:Nat)(P:Nat→List Int)(hd:Nat→Bool)(mk:Bool)(T:List TB)(h:ZH):Prop where
  gb:h[3]?=some (.box g0)
  st:h[2]?=some (.box [.fz 1 false (steps.map eI)])
  mb:h[6]?=some (.box [.ptr 5 0])
  ct: ∃n:Nat,n≤200∧h[7]?=some (.box [Z64 (n:Int)])
  mka: ∃t g,MkAt h 5 t g kd mk T
  ti:TI kd mk T N P hd
abbrev LwE (g0:List ZV)(steps:List Int)(kd:Int)(N:Nat)(P:Nat→List Int)(hd:Nat→Bool)(h:ZH):Prop:= ∃mk T,LwI g0 steps kd N P hd mk T h
theorem LwI.ext {g0:List ZV}{steps:List Int}{h:ZH}(l:LwI g0 steps kd N P hd mk T h)(X:ZH):LwI g0 steps kd N P hd mk T (h++X):=by
 obtain⟨c,hc,hc2⟩:=l.ct;obtain⟨t,g,hm⟩:=l.mka;exact⟨jax l.gb X,jax l.st X,jax l.mb X,⟨c,hc,jax hc2 X⟩,⟨t,g,hm.ext X⟩,l.ti⟩
theorem lw_do {L:Nat→Bool}{K:ZV→ZH→Prop}{g0:List ZV}{steps:List Int}{h:ZH}(l:LwI g0 steps kd N P hd mk T h)(hl:steps.length≤100000000000000)(hL: ∀i,L i=true)
  (hK: ∀h' mk1 T1 mk' T' r e,TI kd mk1 T1 N P hd→DoT kd mk1 T1 a b n d r e mk' T'→(∀N' P' hd',TI kd mk' T' N' P' hd'→LwI g0 steps kd N' P' hd' mk' T' h')→K (ZBo (decide (e=0))) h'):
  ZC (XC [] nd) (jag Tryz.prog) fTop [.agg [Z64 d,Z64 a,Z64 b,Z64 n],.ptr 7 0,.ptr 2 0,.ptr 6 0] L h K:=by
 obtain⟨c,hc,hc2⟩:=l.ct;obtain⟨t,g,hm⟩:=l.mka;refine tdo_z hm l.ti.gs hc2 l.st l.mb (by decide) hc hl hL fun h' g' mk1 T1 mk' T' r e at' hk ho hm' hq h2 hf=>hK h' mk1 T1 mk' T' r e (l.ti.tk hk) ho fun N' P' hd' ti=>?_
 exact⟨hf 3 _ (by decide) (by decide) l.gb,hf 2 _ (by decide) (by decide) l.st,hf 6 _ (by decide) (by decide) l.mb,⟨at',h2,hq⟩,⟨t,g',hm'⟩,ti⟩
theorem joy {L:Nat→Bool}{K:ZV→ZH→Prop}{g0:List ZV}{steps:List Int}{h:ZH}(l:LwI g0 steps kd N P hd mk T h)(hL: ∀i,L i=true)
  (hK: ∀h' t g mk' T' r e,DoT kd mk T a b n d r e mk' T'→MkAt h' 5 t g kd mk' T'→h'[6]?=some (.box [.ptr 5 0])→(∀N' P' hd',TI kd mk' T' N' P' hd'→LwI g0 steps kd N' P' hd' mk' T' h')→K (.tuple [Z64 r,Z64 e]) h'):
  ZC (XC [] nd) (jag Tryz.prog) 11 [.ptr 5 0,.agg [Z64 d,Z64 a,Z64 b,Z64 n]] L h K:=by
 obtain⟨c,hc,hc2⟩:=l.ct;obtain⟨t,g,hm⟩:=l.mka;refine do_z hm l.ti.gs.1 hL fun h' g' r e mk' T' ho hm' hf=>hK h' t g' mk' T' r e ho hm' (hf 6 _ (by decide) l.mb) fun N' P' hd' ti=>?_
 exact⟨hf 3 _ (by decide) l.gb,hf 2 _ (by decide) l.st,hf 6 _ (by decide) l.mb,⟨c,hc,hf 7 _ (by decide) hc2⟩,⟨t,g',hm'⟩,ti⟩
structure TbOk (p:PrT)(s:StT):Prop where
  bp:jn8 p
  bs:BigS s
  bt:BigT s
  hf: ∀t∈s.threads,(jat t.frs).length≤10000000
  hb:(jcD s).length≤100000000
  hn:s.threads.length≤100000000∧s.ends.length≤100000000
  hc:s.cells.length≤100000000
  hv: ∀c∈s.cells,(jat c.frs).length+c.vals.length≤100000000
theorem juk {u:Rw}{T3:List TB}(si:StIn s)(h7: ∀c∈s.cells,c.kind≠7)(hg: ∀c∈s.cells,∀ f∈c.frs,¬ 0≤f.gen)(hu:u=Rw.run s.cells (jcb s).key (jcb s))(uo:u.Ok s.cells.length)(ti:TI kd mk T (hasL s).length (pf (hasL s) (hasL s).length 0) (hf (jcD s) (hasL s).length))(g3:GS kd mk' T3)(hl:T3.length=T.length)
  (h: ∀n,n<T.length→(cF T3 n≠3↔Sn (jfs T) n)):jeg T3 T3.length=(jdU u.seen 0).map fun (n:Nat)=>(n:Int):=by
 have e:(hasL s).length=s.cells.length:=by simp[hasL]
 refine juj g3 (by rw[hl,ti.len,uo.seen,e]) fun n hn=>?_
 rw[h n (by rw[ti.len,e,← uo.seen];exact hn),ti.need,jus (root_lt si),← jp3 si h7 hg,← hu];exact Iff.rfl
abbrev clTop:ZV:= .func fTop [.ptr 7 0,.ptr 2 0,.ptr 6 0]
theorem jlm {kind:Int}{steps:List Int}(ok:TbOk p s)(hst:steps.length≤100000000000000):
  ZC (XC [] true) (jag Tryz.prog) 3 [.agg (ePr p),.agg (eS s),Z64 kind,.fz 1 false (steps.map eI)] (fun _=>true) [] fun z _=>z=ZBo true:=by
 refine ZC.enter ⟨[(24,[(0,1)])],[],[]⟩ (jaf (by decide)) f_tp_top (by simp) ?_;simp only[jqB,kkP];have fin: ∀X,Fin [] (ZBo true) X (fun z _=>z=ZBo true):=fun X=>Fin.trunc (Mods.ext [] X) rfl rfl
 have FI:=Z4 fin;have OK:=Z4 ok;have HST:=Z4 hst;clear fin ok hst;obtain⟨kd,hkd⟩: ∃kd,kd=1+kind % 2:=⟨_,rfl⟩;have hk12:kd=1∨kd=2:=by omega
 have w1:IntKind.i64.wrap (1+kind % 2)=kd:=by rw[Y5 _ (by omega),hkd]
 obtain⟨kr,hkr⟩: ∃kr,kr=kind % 2:=⟨_,rfl⟩;rw[←hkr] at w1;have HKR:=Z4 hkr;have HK12:=Z4 hk12;clear hkd hk12 hkr;with_reducible repeat' first|simp only[zQ,seval,X0, *]|simp only[jab]|apply P3|intro _
 refine jgn ?_;with_reducible repeat' first|simp only[zQ,seval,X0, *]|simp only[jab]|apply P3|intro _
 refine rof_z OK.out.bp OK.out.bs OK.out.bt (fun e he=>?_) (fun u sa uo hu=>?_)
 ·have HE:=Z4 he
  clear he;with_reducible repeat' first|simp only[zQ,seval,X0,jai, *]|simp only[jab]|apply P3|intro _
  refine jpZ OK.out.hf OK.out.hb OK.out.hn OK.out.hc OK.out.hv fun l1 l2 b hb=>?_
  clear hb;with_reducible repeat' first|simp only[zQ,seval,X0,jai, *]|simp only[jab]|apply P3|intro _
  refine rest_z (m:=2) (by omega) ?_;rw[←HKR.out];with_reducible repeat' first|simp only[zQ,seval,X0,w1, *]|simp only[jab]|apply P3|intro _
  refine newx_z HK12.out ?_;have he:=HE.out;with_reducible repeat' first|simp only[zQ,seval,X0,he, *]|simp only[jab]|apply P3|intro _
  refine jgn ?_;have fin:=FI.out;with_reducible repeat' first|simp only[zQ,seval,X0, *]|simp only[jab]|apply P3|intro _
 ·have hn:=OK.out.hc
  have hkind:=fun (h: ∀c∈s.cells,c.kind≠7)=>jp3 (jiw OK.out.bt sa) h
  have HU:=Z4 hu;have SA:=Z4 sa;have UO:=Z4 uo;clear hu sa uo hn hkind;with_reducible repeat' first|simp only[zQ,seval,X0,jai, *]|simp only[jab]|apply P3|intro _
  refine jpZ OK.out.hf OK.out.hb OK.out.hn OK.out.hc OK.out.hv fun l1 l2 b hb=>?_
  have HB:=Z4 hb;clear hb;with_reducible repeat' first|simp only[zQ,seval,X0,jai, *]|simp only[jab]|apply P3|intro _
  refine rest_z (m:=2) (by omega) ?_;rw[←HKR.out];with_reducible repeat' first|simp only[zQ,seval,X0,w1, *]|simp only[jab]|apply P3|intro _
  refine newx_z HK12.out ?_
  cases b with
  |false=>
   with_reducible repeat' first|simp only[zQ,seval,X0, *]|simp only[jab]|apply P3|intro _
   refine jgn ?_;have fin:=FI.out;with_reducible repeat' first|simp only[zQ,seval,X0, *]|simp only[jab]|apply P3|intro _
  |true=>
   obtain⟨hh,hr,c1,c2,c3⟩:=HB.out rfl;have HH:=Z4 hh;have HR:=Z4 hr;have C1:=Z4 c1;have C2:=Z4 c2;have C3:=Z4 c3;clear HB hh hr c1 c2 c3;with_reducible repeat' first|simp only[zQ,seval,X0, *]|simp only[jab]|apply P3|intro _
   refine tweak_z (s:=s) (by have:=OK.out.hc;omega) fun b hb=>?_
   cases b with
   |true=>
    clear hb;with_reducible repeat' first|simp only[zQ,seval,X0, *]|simp only[jab]|apply P3|intro _
    refine jgn ?_;have fin:=FI.out;with_reducible repeat' first|simp only[zQ,seval,X0, *]|simp only[jab]|apply P3|intro _
   |false=>
    have H7:=Z4 (hb rfl);clear hb;have hnil: ∀(H:ZH) i o,nilZ H 1 (.ptr i o)=some false:=fun _ _ _=>rfl
    have hrng: ∀l∈l1,∀ x∈l,∃ m:Nat,x=m∧m<l1.length:=fun l hl x hx=>by
     rw[HH.out] at hl ⊢;obtain⟨c,hc,rfl⟩:=U6.1 hl;have hin:=(jiw OK.out.bt SA.out).cells c hc;have h5:=jfQ.1 hx;have hle:(hasL s).length=s.cells.length:=by simp[hasL]
     rw[hasV,if_neg (H7.out c hc)] at h5;rw[hle];rcases List.mem_append.1 h5 with h5|h5
     ·exact hin.1 _ h5 rfl
     ·obtain⟨f,hf,hm⟩:=List.mem_flatMap.1 h5
      have hfi:=hin.2.1 f hf;rcases A4.1 hm with hm|hm
      ·exact hfi.1 _ (X6.2 hm) rfl
      ·exact hfi.2.1 _ hm rfl
    obtain⟨g0,hg0⟩: ∃g0:List ZV,g0=[.fz 1 false (l1.map eLi),.fz 1 false (l2.map eI)]:=⟨_,rfl⟩;have HG0:=Z4 hg0;have HRG:=Z4 hrng;obtain⟨oz,hoz⟩: ∃oz,oz=(jdU u.seen 0).map fun (n:Nat)=>(n:Int):=⟨_,rfl⟩
    have ho2:(jdU u.seen 0).map eN=oz.map eI:=by rw[hoz,List.map_map];rfl
    have HOZ:=Z4 hoz;rw[ho2];clear hg0 hrng hoz ho2;with_reducible repeat' first|simp only[zQ,seval,X0,hnil, *]|simp only[jab]|apply P3|intro _
    have i0:LwE g0 steps kd 0 (pf l1 0 0) (fun _=>true) [.box (ePr p),.box (eS s),.box [.fz 1 false (steps.map eI)],.box [.fz 1 false (l1.map eLi),.fz 1 false (l2.map eI)],.grow 0 3 [],.box [Z64 kd,ZBo false,.own 4 0 0 0 false],.box [.ptr 5 0],.box [Z64 0]]:=
     ⟨false,[],by rw[HG0.out];rfl,rfl,rfl,⟨0,by omega,rfl⟩,⟨4,0,rfl,rfl,by simp,by simp,by simp,by simp⟩,gs_start HK12.out,rfl,by simp⟩
    have I0:=Z4 i0;clear i0 hnil;refine jaK [(66,.fz 1 false (l1.map eLi)),(16,clTop),(11,.ptr 3 0),(13,.ptr 6 0),(9,.fz 1 false (oz.map eI))] l1.length (fun k s' h'=>LwE g0 steps kd k (pf l1 0 0) (fun _=>true) h') (by have:=C1.out;omega) ⟨rfl,rfl,rfl,rfl,rfl,rfl⟩ rfl rfl (by repeat' (first|exact trivial|(refine⟨rfl,?_⟩)|(refine⟨by simp only[jaj,X4,reduceIte];assumption,?_⟩))) rfl rfl (by decide) I0.out ?_ ?_
    ·clear I0
     rintro k s' h' hk ⟨mk,T,hI⟩ hi hl ⟨f66,f16,f11,f13,f9,-⟩;obtain⟨q,hv⟩: ∃v,l1[k]?=some v:=⟨_,U1 hk⟩;have hq10:q.length≤10:=C3.out q (R5 hv);have hpk:pf l1 0 0 k=O6 q.length (-1):=by rw[pf_zero,C0,hv];rfl
     have hk100:k<100:=by have:=C1.out;omega
     have HI:=Z4 hI;clear hI;with_reducible repeat' first|simp only[zQ,seval,X0,hv, *]|simp only[jab]|apply P3|intro _
     refine lw_do HI.out HST.out (fun _=>rfl) fun h2 mk1 T1 mk' T' r e ti ho hl=>?_
     obtain⟨e0,ti2⟩:=ti.new (m:=q.length) (P':=pf l1 0 0) (hd':=fun _=>true) ho hq10 hk100 (fun j _=>⟨rfl,rfl⟩) hpk rfl;subst e0;have FN:Hid (LwE g0 steps kd (k+1) (pf l1 0 0) (fun _=>true) h2):=Z4 ⟨mk',T',hl _ _ _ ti2⟩;clear ti ti2 ho hl hpk hq10 hk100;with_reducible repeat' first|simp only[zQ,seval,X0, *]|simp only[jab]|apply P3|intro _
     all_goals exact FN.out
    ·clear I0
     rintro s' h' ⟨mk,T,hI⟩ ⟨f66,f16,f11,f13,f9,-⟩;have gb:=hI.gb;rw[HG0.out] at gb;have HI:Hid (LwE g0 steps kd l1.length (pf l1 0 0) (fun _=>true) h'):=Z4 ⟨mk,T,hI⟩;clear hI;with_reducible repeat' first|simp only[zQ,seval,X0,gb, *]|simp only[jab]|apply P3|intro _
     refine jaK [(80,.fz 1 false (l1.map eLi)),(16,clTop),(11,.ptr 3 0),(13,.ptr 6 0),(9,.fz 1 false (oz.map eI))] l1.length (fun k s' h'=>LwE g0 steps kd l1.length (pf l1 k 0) (fun _=>true) h') (by have:=C1.out;omega) ⟨rfl,rfl,rfl,rfl,rfl,rfl⟩ rfl rfl (by repeat' (first|exact trivial|(refine⟨rfl,?_⟩)|(refine⟨by simp only[jaj,X4,reduceIte];assumption,?_⟩))) rfl rfl (by decide) HI.out ?_ ?_
     ·clear HI f66 f16 f11 f13 f9 gb
      rintro k s' h' hk ⟨mk,T,hI⟩ hi hl ⟨f80,f16,f11,f13,f9,-⟩;obtain⟨q,hv⟩: ∃v,l1[k]?=some v:=⟨_,U1 hk⟩;have hq10:q.length≤10:=C3.out q (R5 hv);have hgd:l1.getD k []=q:=by rw[C0,hv];rfl
      have hin:=HRG.out q (R5 hv);have HI:Hid (LwE g0 steps kd l1.length (pf l1 k 0) (fun _=>true) h'):=Z4 ⟨mk,T,hI⟩;have HIN:=Z4 hin;have HGD:=Z4 hgd;have HQ:=Z4 hq10;have HKL:=Z4 hk;clear hI hin hgd hq10;with_reducible repeat' first|simp only[zQ,seval,X0,hv, *]|simp only[jab]|apply P3|intro _
      refine jaK [(87,.fz 1 false (q.map eI)),(16,clTop),(19,Z64 (k:Int))] q.length (fun i s' h'=>LwE g0 steps kd l1.length (pf l1 k i) (fun _=>true) h') (by have:=HQ.out;omega) ⟨rfl,rfl,rfl,rfl,rfl,rfl⟩ rfl rfl (by repeat' (first|exact trivial|(refine⟨rfl,?_⟩)|(refine⟨by simp only[jaj,X4,reduceIte];assumption,?_⟩))) rfl rfl (by decide) HI.out ?_ ?_
      ·clear HI
       rintro i s2 h2 hiq ⟨mk,T,hI⟩ hi2 hl2 ⟨f87,f16b,f19,-⟩;have hx:q[i]?=some q[i]:=U1 hiq;obtain⟨m,hm,hml⟩:=HIN.out q[i] (List.getElem_mem hiq);rw[hm] at hx;have hqi:i<(l1.getD k []).length:=by rw[HGD.out];exact hiq
       have hset:pf l1 k (i+1) k=(pf l1 k i k).set i (m:Int):=by
        rw[pf_set hqi];congr 1
        have e5:(l1.getD k [])[i]=q[i]:=by simp only[HGD.out]
        rw[e5,hm]
       have hlen:i<(pf l1 k i k).length:=by rw[pf_len (by omega)];exact hqi
       have HI2:=Z4 hI;have HS:=Z4 hset;have HLN:=Z4 hlen;have HML:=Z4 hml;clear hI hset hlen hqi hm hml;with_reducible repeat' first|simp only[zQ,seval,X0,hx, *]|simp only[jab]|apply P3|intro _
       refine lw_do HI2.out HST.out (fun _=>rfl) fun h3 mk1 T1 mk' T' r e ti ho hl=>?_
       obtain⟨e0,ti2⟩:=ti.set (A:=k) (m:=m) (i:=i) (P':=pf l1 k (i+1)) ho HKL.out HML.out HLN.out (fun _=>rfl) (fun j hj=>pf_other hj) HS.out;subst e0;have FN:Hid (LwE g0 steps kd l1.length (pf l1 k (i+1)) (fun _=>true) h3):=Z4 ⟨mk',T',hl _ _ _ ti2⟩;clear ti ti2 ho hl;with_reducible repeat' first|simp only[zQ,seval,X0, *]|simp only[jab]|apply P3|intro _
       all_goals exact FN.out
      ·clear HI
       rintro s2 h2 hI ⟨f87,f16b,f19,-⟩;rw[pf_next (by rw[HGD.out];exact V2 _)] at hI;have FN:=Z4 hI;clear hI;with_reducible repeat' first|simp only[zQ,seval,X0, *]|simp only[jab]|apply P3|intro _
       all_goals exact FN.out
     ·clear HI f66 f16 f11 f13 f9 gb
      rintro s' h' ⟨mk,T,hI⟩ ⟨f80,f16,f11,f13,f9,-⟩;have gb:=hI.gb;rw[HG0.out] at gb;have HI : Hid (LwE g0 steps kd l1.length (pf l1 l1.length 0) (hf l2 0) h') := Z4 (by
       have:hf l2 0=fun _=>true:=funext fun j=>hf_zero l2 j
       rw[this];exact⟨mk,T,hI⟩)
      clear hI;with_reducible repeat' first|simp only[zQ,seval,X0,gb, *]|simp only[jab]|apply P3|intro _
      refine jaK [(16,clTop),(11,.ptr 3 0),(13,.ptr 6 0),(9,.fz 1 false (oz.map eI))] l1.length (fun k s' h'=>LwE g0 steps kd l1.length (pf l1 l1.length 0) (hf l2 k) h') (by have:=C1.out;omega) ⟨rfl,rfl,rfl,rfl,rfl,rfl⟩ rfl rfl (by repeat' (first|exact trivial|(refine⟨rfl,?_⟩)|(refine⟨by simp only[jaj,X4,reduceIte];assumption,?_⟩))) rfl rfl (by decide) HI.out ?_ ?_
      ·clear HI f80 f16 f11 f13 f9 gb
       rintro k s' h' hk ⟨mk,T,hI⟩ hi hl ⟨f16,f11,f13,f9,-⟩;have gb:=hI.gb;rw[HG0.out] at gb;have HI:=Z4 hI;have HKL:=Z4 hk;clear hI hk;with_reducible repeat' first|simp only[zQ,seval,X0,gb, *]|simp only[jab]|apply P3|intro _
       refine hasint_z (l:=l2) jaM (by have:=C2.out;omega) ?_;by_cases hkr:(k:Int)∈l2
       ·rw[decide_eq_true hkr]
        have FN:Hid (LwE g0 steps kd l1.length (pf l1 l1.length 0) (hf l2 (k+1)) h'):=Z4 ⟨mk,T,by rw[hf_keep hkr];exact HI.out⟩;clear hkr;with_reducible repeat' first|simp only[zQ,seval,X0, *]|simp only[jab]|apply P3|intro _
        all_goals exact FN.out
       ·rw[decide_eq_false hkr]
        obtain⟨d1,d2,d3⟩:=hf_drop hkr;have D1:=Z4 d1;have D2:=Z4 d2;have D3:=Z4 d3;clear hkr d1 d2 d3;with_reducible repeat' first|simp only[zQ,seval,X0, *]|simp only[jab]|apply P3|intro _
        refine lw_do HI.out HST.out (fun _=>rfl) fun h3 mk1 T1 mk' T' r e ti ho hl=>?_
        obtain⟨e0,ti2⟩:=ti.drop (A:=k) (hd':=hf l2 (k+1)) ho HKL.out D1.out D2.out D3.out;subst e0;have FN:Hid (LwE g0 steps kd l1.length (pf l1 l1.length 0) (hf l2 (k+1)) h3):=Z4 ⟨mk',T',hl _ _ _ ti2⟩;clear ti ti2 ho hl;with_reducible repeat' first|simp only[zQ,seval,X0, *]|simp only[jab]|apply P3|intro _
        all_goals exact FN.out
      ·clear HI f80 f16 f11 f13 f9 gb
       rintro s' h' ⟨mk,T,hI⟩ ⟨f16,f11,f13,f9,-⟩;have mb:=hI.mb;have HI:=Z4 hI;clear hI;with_reducible repeat' first|simp only[zQ,seval,X0,mb, *]|simp only[jab]|apply P3|intro _
       refine joy HI.out (fun _=>rfl) fun h1 t1 g1 mk1 T1 r1 e1 ho1 hm1 mb1 hl1=>?_
       have ti1:=HI.out.ti.tick ho1 (by omega);have m1:=maj_mk ho1;subst m1;have L1:=Z4 (hl1 _ _ _ ti1);clear ho1 hm1 hl1 ti1;with_reducible repeat' first|simp only[zQ,seval,X0,mb1, *]|simp only[jab]|apply P3|intro _
       refine joy L1.out (fun _=>rfl) fun h2 t2 g2 mk2 T2 r2 e2 ho2 hm2 mb2 hl2=>?_
       have ti2:=L1.out.ti.tick ho2 (by omega);obtain⟨m2,ri⟩:=jtW ho2 L1.out.ti.gs;subst m2;have L2:=Z4 (hl2 _ _ _ ti2);have RI:=Z4 ri;clear ho2 hm2 hl2 ti2 ri;with_reducible repeat' first|simp only[zQ,seval,X0,mb2, *]|simp only[jab]|apply P3|intro _
       refine joy L2.out (fun _=>rfl) fun h3 t3 g3 mk3 T3 r3 e3 ho3 hm3 mb3 hl3=>?_
       obtain⟨-, m3,q3,q4⟩:=ri_end ho3 RI.out L1.out.ti.gs.1;have gs3:=jfy ho3 RI.out.gs;subst m3;have hlf:jeg T3 T3.length=oz:=by
        have hw:=(jlv (jiw OK.out.bt SA.out)).2;have ti1:=L1.out.ti;rw[HH.out,HR.out] at ti1;rw[HOZ.out];exact juk (jiw OK.out.bt SA.out) H7.out (fun c hc f hf h0=>by have:=(SA.out.rt.cells c hc f hf).2;omega) (HU.out (jp4 H7.out _ _ hw)) UO.out ti1 gs3 q3 q4
       have h100:T3.length≤100:=gs3.1.len;have HLF:=Z4 hlf;have HM3:=Z4 hm3;have H100:=Z4 h100;clear ho3 hm3 hl3 q3 q4 gs3 hlf h100;have mbX:=jax mb3;clear mb3;with_reducible repeat' first|simp only[zQ,seval,X0,mbX, *]|simp only[jab]|apply P3|intro _
       refine jvb (HM3.out.ext _) ?_;obtain⟨cl,hcl⟩: ∃cl,cl=jc5 T3:=⟨_,rfl⟩;have hcn:cl.length=T3.length:=by rw[hcl,cols_len]
       rw[←hcl];have HCL:=Z4 hcl;have HCN:=Z4 hcn;clear hcl hcn;with_reducible repeat' first|simp only[zQ,seval,X0, *]|simp only[jab]|apply P3|intro _
       refine jaK [(132,.fz 1 false (cl.map eI)),(9,.fz 1 false (oz.map eI))] cl.length (fun k s3 W=> ∃g5,s3 24= .own h3.length g5 0 (jeg T3 k).length false∧W=h3++[.grow g5 1 ((jeg T3 k).map eI)]) (by have:=HCN.out;have:=H100.out;omega) ⟨rfl,rfl,rfl,rfl,rfl,rfl⟩ rfl rfl (by repeat' (first|exact trivial|(refine⟨rfl,?_⟩)|(refine⟨by simp only[jaj,X4,reduceIte];assumption,?_⟩))) rfl rfl (by decide) ⟨0,rfl,rfl⟩ ?_ ?_
       ·rintro q s3 W hq ⟨g5,f24,rfl⟩ hi3 hl3 ⟨f132,f9,-⟩
        have hqT:q<T3.length:=by rw[←HCN.out];exact hq
        have hx:cl[q]?=some (cF T3 q):=by rw[HCL.out];exact cols_at (n:=0) rfl hqT
        have hn:=jul hqT;have hle:(jeg T3 q).length≤q:=by have:=jdh (jm7 T3) q;unfold jeg;exact this
        obtain⟨c,hc⟩: ∃c,c=cF T3 q:=⟨_,rfl⟩;rw[←hc] at hx hn;obtain⟨lf,hlf⟩: ∃lf,lf=jeg T3 q:=⟨_,rfl⟩;rw[←hlf] at hn hle f24 ⊢;have hr1:(lf.length+1)*8≤reach:=by have:=H100.out;unfold reach;omega
        have HN:=Z4 hn;clear hqT hc hn hle hlf;by_cases h3c:c<3
        ·with_reducible repeat' first|simp only[zQ,seval,X0,jai,hx,hr1,h3c, *]|simp only[jab]|apply P3|intro _
         all_goals first|(rw[HN.out,if_pos h3c];simp;done)|(refine⟨_,?_,?_⟩;rfl;rw[HN.out,if_pos h3c];simp)
        ·with_reducible repeat' first|simp only[zQ,seval,X0,jai,hx,h3c, *]|simp only[jab]|apply P3|intro _
         all_goals first|(rw[HN.out,if_neg h3c,A0];done)|(refine⟨_,?_,?_⟩;rfl;rw[HN.out,if_neg h3c,A0])
       ·rintro s3 W ⟨g5,f24,rfl⟩ ⟨f132,f9,-⟩
        have e1:jeg T3 cl.length=oz:=by rw[HCN.out,HLF.out]
        rw[e1] at f24 ⊢;have hoz:oz.length≤1000000:=by
         rw[←e1];have:=jdh (jm7 T3) cl.length;have:=HCN.out;have:=H100.out;unfold jeg;omega
        have HOL:=Z4 hoz;clear e1 hoz;with_reducible repeat' first|simp only[zQ,seval,X0, *]|simp only[jab]|apply P3|intro _
        refine jgn ?_;with_reducible repeat' first|simp only[zQ,seval,X0, *]|simp only[jab]|apply P3|intro _
        refine eqint_z (a:=oz) (b:=oz) (jbz (jeC _ _) (by simp)) jaM HOL.out HOL.out ?_;have e2:decide (oz=oz)=true:=by simp
        rw[e2];clear e2;have fin:=FI.out (h3++[.grow g5 1 (oz.map eI)]);with_reducible repeat' first|simp only[zQ,seval,X0, *]|simp only[jab]|apply P3|intro _
end
section
open Go.RowKit Go.ChangeShapes Go.WideShapes Go.ChangeAt
def cnt:(t:Ty)→t.val→Nat
  | .int _,_=>1
  | .bool,_=>1
  | .str,_=>1
  | .unit,_=>0
  | .prod a b,x=>cnt a x.1+cnt b x.2
  | .slice _ e,l=>(l.map (cnt e)).sum+1
section
variable {H:Type}{enc:TypeId×Value→H}{P:Program}{w:World}{B:Nat}
theorem jh3 (d:DataW H):1≤Rows.uptoBulk d:=by
 cases d with
 |lit l=>cases l<;>simp[Rows.uptoBulk]
 |_=>simp[Rows.uptoBulk]
theorem jo5 {d:DataW H}{l:List (DataW H)}(h:d∈l):Rows.uptoBulk d≤Rows.uptoBulkAll l:=by
 induction l with
 |nil=>cases h
 |cons x r ih=>
  simp only[Rows.uptoBulkAll];rcases A4.1 h with rfl|h
  ·omega
  ·have:=ih h;omega
theorem jr5 (g:TypeId→Option Ty)(n:Nat)
  (ih: ∀(t:TypeId) (ty:Ty),g t=some ty→ ∀(cs:List Value) (d:DataW H) (ps:List MemPlace) (x:ty.val),DataW.trod enc P w 0 (fun _=>true) true n t cs=some (d,ps)→Has w B ty cs x→cnt ty x≤Rows.uptoBulk d):
  ∀(fs:List Field) (acc:Nat) (ts:List Ty) (xs:List (DataW H×List MemPlace)) (cs:List Value) (x:(jcI ts).val),jeh P g acc fs=some ts→xs.length=fs.length→
   (∀(i:Nat) (f:Field),fs[i]?=some f→DataW.trod enc P w 0 (fun _=>true) true n f.type ((cs.drop f.offset).take (P.cellsOf f.type))=xs[i]?)→
   Has w B (jcI ts) (cs.drop acc) x→cnt (jcI ts) x≤Rows.uptoBulkAll (xs.map (·.1)):=by
 intro fs;induction fs with
 |nil=>
  intro acc ts xs cs x h1 h2 _ _;simp only[jeh,U4] at h1;subst h1;simp[jcI,cnt]
 |cons f r ihf=>
  intro acc ts xs cs x h1 h2 h4 hh;simp only[jeh] at h1;split at h1
  ·rename_i ty hty
   split at h1
   ·rename_i hoc
    obtain⟨ho,hc⟩:=hoc;obtain⟨ts',hts',rfl⟩:=U5.1 h1;match xs,h2 with
    |y::ys,h2=>
    have hy:=h4 0 f rfl;simp only[F5] at hy;rw[ho,hc] at hy;have h4': ∀(i:Nat) (f':Field),r[i]?=some f'→DataW.trod enc P w 0 (fun _=>true) true n f'.type ((cs.drop f'.offset).take (P.cellsOf f'.type))=ys[i]?:=
     fun i f' hf'=>by have:=h4 (i+1) f' (by simpa using hf');simpa using this
    simp only[B6,Rows.uptoBulkAll];match ts',hts',x,hh with
    |[],hts',x,hh=>
     simp only[jcI] at hh x ⊢;have hl:=hh.size;have e:(cs.drop acc).take ty.size=cs.drop acc:=by rw[←hl];exact List.take_length
     rw[e] at hy;have:=ih f.type ty hty _ y.1 y.2 x (by rw[hy]) hh;omega
    |b::r',hts',x,hh=>
     simp only[jcI] at hh x ⊢;obtain⟨c,d,hcd,h5,h6⟩:=hh;have hl:=h5.size;have e1:(cs.drop acc).take ty.size=c:=by rw[hcd,← hl,List.take_left]
     have e2:cs.drop (acc+ty.size)=d:=by rw[←List.drop_drop,hcd,← hl,List.drop_left]
     rw[e1] at hy;have k1:=ih f.type ty hty _ y.1 y.2 x.1 (by rw[hy]) h5;have k2:=ihf (acc+ty.size) (b::r') ys cs x.2 hts' (by simpa using h2) h4' (by rw[e2];exact h6);simp only[cnt];omega
   ·cases h1
  ·cases h1
theorem sum_le {α:Type}(f:α→Nat)(l:List α)(D:Nat→DataW H)(h: ∀i (hi:i<l.length),f l[i]≤Rows.uptoBulk (D i)):(l.map f).sum≤Rows.uptoBulkAll ((O5 l.length).map D):=by
 have key: ∀(l:List α) (a:Nat),(∀i (hi:i<l.length),f l[i]≤Rows.uptoBulk (D (a+i)))→(l.map f).sum≤Rows.uptoBulkAll ((List.range' a l.length).map D):=by
  intro l;induction l with
  |nil=>intro a _;simp
  |cons x r ih=>
   intro a h;have h0:=h 0 (by simp);have h1:=ih (a+1) (fun i hi=>by have:=h (i+1) (by simpa using hi);rw[show a+1+i=a+(i+1) by omega];simpa using this);simp only[B6,O1z,Q3,List.range'_succ,Rows.uptoBulkAll];simp only[List.getElem_cons_zero,M5] at h0;omega
 rw[List.range_eq_range'];exact key l 0 (fun i hi=>by simpa using h i hi)
theorem cnt_trod: ∀(m:Nat) (t:TypeId) (ty:Ty),tyOf P m t=some ty→ ∀(n:Nat) (cs:List Value) (d:DataW H) (ps:List MemPlace) (x:ty.val),
  DataW.trod enc P w 0 (fun _=>true) true n t cs=some (d,ps)→Has w B ty cs x→cnt ty x≤Rows.uptoBulk d:=by
 intro m;induction m with
 |zero=>intro t ty h;cases h
 |succ m ih=>
  intro t ty h n cs d ps x htr hh;simp only[tyOf] at h;split at h
  ·injection h with h;subst h;exact jh3 d
  ·injection h with h;subst h;exact jh3 d
  ·injection h with h;subst h;exact jh3 d
  ·rename_i e hk
   split at h
   ·rename_i ety hety
    split at h
    ·rename_i hc
     injection h with h
     subst h;obtain⟨A,cap0,rfl,h1,h2,h3,h4⟩:=hh;rcases Go.Deep.open_slice hk htr with⟨he,h0⟩|⟨a,len,cap,m',n',D,Pl,he,_,hl,hm,hmm,hx,hi⟩
     ·simp only[O4] at h0
      have:x=[]:=by
       simp only[List.cons.injEq,Value.slice.injEq] at he;exact List.eq_nil_of_length_eq_zero he.1.2.1
      subst this;simp only[cnt,O0w,List.sum_nil];exact jh3 d
     ·simp only[if_true] at hmm
      subst hmm;simp only[O4] at hx;obtain⟨rfl,rfl⟩:=hx;simp only[List.cons.injEq,Value.slice.injEq,and_true] at he;obtain⟨rfl,hlen,hcap⟩:=he;subst hlen;simp only[cnt,Rows.uptoBulk];have := sum_le (cnt ety) x D (fun i hil => by
       obtain⟨b,off,hA,_,hel⟩:=h4 (fun h=>by subst h;simp at hil);obtain⟨ecs,e1,e2,e3⟩:=hel i hil;obtain⟨cs',hcs',ht'⟩:=hi i (by omega);obtain⟨_,hcl,hat⟩:=World.cells?_some hcs';rw[hc.1] at hcl hat;simp only[U4] at hA;subst hA;have:ecs=cs':=by
        apply U7
        intro j;by_cases hj:j<ety.size
        ·rw[←e2 j hj,← hat j hj,Go.Deep.add_add]
         congr 1
         unfold Addr.add;simp[Nat.add_assoc]
        ·rw[J1 (by omega),J1 (by omega)]
       subst this;exact ih e ety hety n' ecs (D i) (Pl i) x[i] ht' e3)
      omega
    ·cases h
   ·cases h
  ·rename_i fs hk
   split at h
   ·rename_i ts hts
    split at h
    ·rename_i hc
     injection h with h
     subst h;obtain⟨xs,n',_,hx,hcl,hxl,hf⟩:=DataW.trod_struct hk htr;simp only[O4] at hx;obtain⟨rfl,rfl⟩:=hx;simp only[Rows.uptoBulk];have:=jr5 (enc:=enc) (P:=P) (w:=w) (B:=B) (tyOf P m) n' (fun t ty h cs d ps x h1 h2=>ih t ty h n' cs d ps x h1 h2) fs.toList 0 ts xs cs x hts (by simpa using hxl)
      (fun i f hif=>hf i f (by simpa using hif)) (by simpa using hh)
     omega
    ·cases h
   ·cases h
  ·cases h
def jlX (N:Nat)(t:Ty)(x:t.val):Prop:=jhQ t x∧cnt t x≤N
theorem jlV {N:Nat}(m:Nat): ∀(ts:List TypeId) (tys:List (Bool×Ty)),jn0 P m ts=some tys→ ∀(vs:List Value) (ds:List (DataW H)) (ps:List MemPlace) (r:Go.Reach) (b0:Nat),
  (∀(j:Nat) t v,ts[j]?=some t→vs[j]?=some v→Value.okWide P w r b0 t v)→DataW.TrodAll enc P w 0 (fun _=>true) true ts vs ds ps→(∀p∈ps,p.block<B)→
  (∀k∈DataW.weightsEach P ts ds,k≤reachBytes)→(∀d∈ds,Rows.uptoBulk d≤N)→jeI (jlX N) w B tys vs:=by
 intro ts;induction ts with
 |nil=>
  intro tys h vs ds ps r b0 _ htr _ _ _;simp only[jn0,U4] at h;subst h;exact (trodAll_nil htr).1
 |cons t ts ih=>
  intro tys h vs ds ps r b0 hok htr hps hwt hN;simp only[jn0] at h;split at h
  ·rename_i ty l hty hl
   injection h with h;subst h
   obtain⟨v,vs',d,ds',p,q,rfl,rfl,rfl,h0,h1⟩:=trodAll_cons htr;simp only[DataW.weightsEach] at hwt;obtain⟨cs,x,e,rfl,hx,hs⟩:=jrm m hty (hok 0 t v rfl rfl) h0 (fun y hy=>hps y (by simp[hy])) (fun k hk=>hwt k (by simp[hk]));refine⟨cs,x,vs',rfl,hx,⟨hs,?_⟩,ih l hl vs' ds' q r b0 (fun j t v h1 h2=>hok (j+1) t v (by simpa using h1) (by simpa using h2)) h1 (fun y hy=>hps y (by simp[hy])) (fun k hk=>hwt k (by simp[hk])) (fun y hy=>hN y (by simp[hy]))⟩;obtain⟨n,hn⟩:=h0;rw[e] at hn;exact V3 (cnt_trod m t ty hty n cs d p x hn hx) (hN d (by simp))
  ·cases h
end
end
section
open Go Go.RowKit Go.ChangeShapes Go.WideShapes Go.ChangeAt
abbrev tyV:Ty:= .prod (.int .i64) (.int .i64)
abbrev tyF:Ty:= .prod (.int .i64) (.prod (.int .i64) (.prod (.int .i64) (.prod (.int .i64) (.prod tyV (.prod (.slice 16 tyV) (.slice 16 tyV))))))
abbrev tyC:Ty:= .prod (.int .i64) (.prod (.int .i64) (.prod (.slice 16 tyV) (.slice 96 tyF)))
abbrev tyTh:Ty:= .prod (.slice 96 tyF) (.prod (.int .i64) (.prod (.int .i64) tyV))
abbrev tyE:Ty:= .prod (.int .i64) tyV
abbrev tySt:Ty:= .prod (.slice 64 tyC) (.prod (.slice 16 tyV) (.prod (.slice 16 .str) (.prod (.slice 56 tyTh) (.prod (.slice 24 tyE) (.prod (.slice 16 tyV) (.prod (.int .i64) (.int .i64)))))))
abbrev tyI:Ty:= .prod (.int .i64) (.prod (.int .i64) (.prod (.int .i64) (.prod (.int .i64) (.int .i64))))
abbrev tyFn:Ty:= .prod (.int .i64) (.prod (.int .i64) (.prod .bool (.prod (.slice 8 (.int .i64)) (.slice 40 tyI))))
abbrev tyPr:Ty:= .prod (.slice 72 tyFn) (.prod (.slice 16 tyV) (.slice 16 .str))
def toF (f:tyF.val):FrT:=⟨f.1,f.2.1,f.2.2.1,f.2.2.2.1,f.2.2.2.2.1,f.2.2.2.2.2.1,f.2.2.2.2.2.2⟩
def toC (c:tyC.val):CeT:=⟨c.1,c.2.1,c.2.2.1,(c.2.2.2:List tyF.val).map toF⟩
def toTh (t:tyTh.val):ThT:=⟨(t.1:List tyF.val).map toF,t.2.1,t.2.2.1,t.2.2.2⟩
def toS (s:tySt.val):StT:=⟨(s.1:List tyC.val).map toC,s.2.1,s.2.2.1,(s.2.2.2.1:List tyTh.val).map toTh,s.2.2.2.2.1,s.2.2.2.2.2.1,s.2.2.2.2.2.2.1,s.2.2.2.2.2.2.2⟩
theorem jqn {α β:Type}{f:α→β}{e:β→List ZV}{g:α→List ZV}(h: ∀x,g x=e (f x))(l:List α):l.map g=(l.map f).map e:=by
 rw[List.map_map];exact List.map_congr_left fun x _=>h x
theorem enc_f (f:tyF.val):enc tyF f=eFr (toF f):=rfl
theorem enc_c (c:tyC.val):enc tyC c=eCe (toC c):=by
 show [Z64 c.1,Z64 c.2.1,.fz 2 false ((c.2.2.1:List tyV.val).map (enc tyV)),.fz 8 false ((c.2.2.2:List tyF.val).map (enc tyF))]=_;rw[jqn enc_f];rfl
theorem enc_th (t:tyTh.val):enc tyTh t=eTh (toTh t):=by
 show [.fz 8 false ((t.1:List tyF.val).map (enc tyF)),Z64 t.2.1,Z64 t.2.2.1,Z64 t.2.2.2.1,Z64 t.2.2.2.2]=_;rw[jqn enc_f];rfl
theorem enc_st (s:tySt.val):enc tySt s=eS (toS s):=by
 show [.fz 4 false ((s.1:List tyC.val).map (enc tyC)),.fz 2 false ((s.2.1:List tyV.val).map (enc tyV)),.fz 1 false ((s.2.2.1:List ByteArray).map (enc .str)),.fz 5 false ((s.2.2.2.1:List tyTh.val).map (enc tyTh)),.fz 3 false ((s.2.2.2.2.1:List tyE.val).map (enc tyE)),.fz 2 false ((s.2.2.2.2.2.1:List tyV.val).map (enc tyV)),Z64 s.2.2.2.2.2.2.1,Z64 s.2.2.2.2.2.2.2]=_;rw[jqn enc_c,jqn enc_th];rfl
theorem jgD {α:Type}(f:α→Nat)(h: ∀x,1≤f x)(l:List α):l.length≤(l.map f).sum:=by
 induction l with
 |nil=>simp
 |cons x r ih=>have:=h x;simp only[Q3,B6,O1z];omega
theorem jgA {α:Type}(f:α→Nat){l:List α}{x:α}(h:x∈l):f x≤(l.map f).sum:=by
 induction l with
 |nil=>cases h
 |cons y r ih=>
  simp only[B6,O1z];rcases A4.1 h with rfl|h
  ·omega
  ·have:=ih h;omega
theorem jvc (l:List tyV.val):l.length≤(l.map (cnt tyV)).sum:=jgD _ (fun x=>by simp[cnt]) l
theorem cnt_f (f:tyF.val):(toF f).regs.length+(toF f).tries.length+1≤cnt tyF f:=by
 have h1:=jvc f.2.2.2.2.2.1;have h2:=jvc f.2.2.2.2.2.2;simp only[cnt,toF] at h1 h2 ⊢;omega
theorem jve: ∀l:List tyF.val,(jat (l.map toF)).length≤(l.map (cnt tyF)).sum
 |[]=>V2 _
 |f::l=>by
  have h1:=jve l;have h2:=cnt_f f;simp only[jat,B6,O0s,G3,Q3,O1z] at h1 h2 ⊢;omega
theorem cnt_th (t:tyTh.val):(jat (toTh t).frs).length+5≤cnt tyTh t∧(jbv (toTh t)).length≤3*cnt tyTh t:=by
 have h1:=jve t.1;have h2:=jd0 (toTh t).frs;have h3:(jck (toTh t).frs).length≤(toTh t).frs.length:=by
  unfold jck;rw[P2];exact List.length_filter_le _ _
 have h4:=jhV (jat (toTh t).frs++[(toTh t).val]);have h5:(if (toTh t).st=1 then [(toTh t).on] else []).length≤1:=by split<;>simp
 have h6:(jat (toTh t).frs).length+5≤cnt tyTh t:=by
  simp only[cnt] at h1 ⊢;show (jat ((t.1:List tyF.val).map toF)).length+5≤_;omega
 refine⟨h6,?_⟩;unfold jbv;rw[G3,G3];rw[G3,O1k] at h4;omega
theorem cnt_c (c:tyC.val):(jat (toC c).frs).length+(toC c).vals.length+4≤cnt tyC c:=by
 have h1:=jve c.2.2.2;have h2:=jvc c.2.2.1;simp only[cnt,toC] at h1 h2 ⊢;omega
theorem jvd: ∀l:List tyTh.val,((l.map toTh).flatMap jbv).length≤3*(l.map (cnt tyTh)).sum
 |[]=>by simp
 |t::l=>by
  have h1:=jvd l;have h2:=(cnt_th t).2;simp only[B6,O0s,G3,O1z];omega
theorem cnt_es: ∀l:List tyE.val,(l.flatMap fun e=>jbo [e.2]).length≤(l.map (cnt tyE)).sum
 |[]=>V2 _
 |e::l=>by
  have h1:=cnt_es l;have h2:=jhV [e.2];simp only[B6,O0s,G3,O1z,cnt,O1k] at h1 h2 ⊢;omega
theorem cnt_cf (c:tyC.val):((c.2.2.2:List tyF.val).map (cnt tyF)).sum≤cnt tyC c:=by
 have e:cnt tyC c=1+(1+((((c.2.2.1:List tyV.val).map (cnt tyV)).sum+1)+(((c.2.2.2:List tyF.val).map (cnt tyF)).sum+1))):=rfl;omega
theorem cnt_tf (t:tyTh.val):((t.1:List tyF.val).map (cnt tyF)).sum≤cnt tyTh t:=by
 have e:cnt tyTh t=(((t.1:List tyF.val).map (cnt tyF)).sum+1)+(1+(1+(1+1))):=rfl;omega
structure CntS (s:tySt.val)(N:Nat):Prop where
  c:((s.1:List tyC.val).map (cnt tyC)).sum≤N
  sh:(s.2.1:List tyV.val).length≤N
  tx:(s.2.2.1:List ByteArray).length≤N
  t:((s.2.2.2.1:List tyTh.val).map (cnt tyTh)).sum≤N
  e:((s.2.2.2.2.1:List tyE.val).map (cnt tyE)).sum≤N
  sd:(s.2.2.2.2.2.1:List tyV.val).length≤N
theorem cntS {s:tySt.val}{N:Nat}(h:cnt tySt s≤N):CntS s N:=by
 have h1:=jvc s.2.1;have h2:=jgD (cnt .str) (fun x=>by simp[cnt]) s.2.2.1;have h3:=jvc s.2.2.2.2.2.1;have e:cnt tySt s=(((s.1:List tyC.val).map (cnt tyC)).sum+1)+((((s.2.1:List tyV.val).map (cnt tyV)).sum+1)+((((s.2.2.1:List ByteArray).map (cnt .str)).sum+1)+((((s.2.2.2.1:List tyTh.val).map (cnt tyTh)).sum+1)+((((s.2.2.2.2.1:List tyE.val).map (cnt tyE)).sum+1)+((((s.2.2.2.2.2.1:List tyV.val).map (cnt tyV)).sum+1)+(1+1)))))):=rfl;rw[e] at h;exact⟨by omega,by omega,by omega,by omega,by omega,by omega⟩
theorem tbOk_of {p:tyPr.val}{s:tySt.val}(tp:TOk tyPr p)(ts:TOk tySt s)(sp:jlX 1048576 tyPr p)(ss:jlX 1048576 tySt s):TbOk p (toS s):=by
 have h:=cntS ss.2;have hcm: ∀c∈(toS s).cells,(jat c.frs).length+c.vals.length+4≤1048576:=fun c hc=>by
  obtain⟨x,hx,rfl⟩:=U6.1 hc;exact V3 (cnt_c x) (V3 (jgA _ hx) h.c)
 have hcf: ∀c∈(toS s).cells,∀ f∈c.frs,f.regs.length+f.tries.length+1≤1048576:=fun c hc f hf=>by
  obtain⟨x,hx,rfl⟩:=U6.1 hc;obtain⟨y,hy,rfl⟩:=U6.1 hf;have h1:=cnt_f y;have h2:=jgA (cnt tyF) (l:=x.2.2.2) hy;exact V3 h1 (V3 h2 (V3 (cnt_cf x) (V3 (jgA _ hx) h.c)))
 have htm: ∀t∈(toS s).threads,(jat t.frs).length+5≤1048576∧ ∀f∈t.frs,f.regs.length+f.tries.length+1≤1048576:=fun t ht=>by
  obtain⟨x,hx,rfl⟩:=U6.1 ht;have h3:=jgA (cnt tyTh) hx;have h4:=h.t;refine⟨by have:=(cnt_th x).1;omega,fun f hf=>?_⟩;obtain⟨y,hy,rfl⟩:=U6.1 hf;have h1:=cnt_f y;have h2:=jgA (cnt tyF) (l:=x.1) hy;exact V3 h1 (V3 h2 (V3 (cnt_tf x) (V3 h3 h4)))
 have hcl:(toS s).cells.length≤1048576:=by
  have:=jgD (cnt tyC) (fun x=>by simp only[cnt];omega) s.1;show ((s.1:List tyC.val).map toC).length≤_;rw[P2];exact V3 this h.c
 have htl:(toS s).threads.length≤1048576:=by
  have:=jgD (cnt tyTh) (fun x=>by simp only[cnt];omega) s.2.2.2.1;show ((s.2.2.2.1:List tyTh.val).map toTh).length≤_;rw[P2];exact V3 this h.t
 have hel:(toS s).ends.length≤1048576:=V3 (jgD (cnt tyE) (fun x=>by simp only[cnt];omega) s.2.2.2.2.1) h.e;have hrt:(jcD (toS s)).length≤100000000:=by
  unfold jcD;have h1:=jvd s.2.2.2.1;have h2:=cnt_es s.2.2.2.2.1;have h3:=h.t;have h4:=h.e;rw[G3];show (((s.2.2.2.1:List tyTh.val).map toTh).flatMap jbv).length+((s.2.2.2.2.1:List tyE.val).flatMap fun e=>jbo [e.2]).length≤_;omega
 have htf: ∀t∈(toS s).threads,t.frs.length≤1048576:=fun t ht=>by
  have:=(htm t ht).1;have:=jd0 t.frs;omega
 have hcfr: ∀c∈(toS s).cells,c.frs.length≤1048576:=fun c hc=>by
  have:=hcm c hc;have:=jd0 c.frs;omega
 have hsh:=h.sh;have htx:=h.tx;have hsd:=h.sd;refine⟨?_,⟨by omega,by show (s.2.1:List tyV.val).length≤_;omega,by show (s.2.2.1:List ByteArray).length≤_;omega,by omega,by omega,by show (s.2.2.2.2.2.1:List tyV.val).length≤_;omega,fun c hc=>by have:=hcm c hc;omega,fun c hc=>by have:=hcfr c hc;omega,fun c hc f hf=>by have:=hcf c hc f hf;omega,fun t ht=>by have:=htf t ht;omega,fun t ht f hf=>by have:=(htm t ht).2 f hf;omega,fun v hv=>ts.2.1.2 v hv,fun t ht=>ts.2.2.1.2 t ht⟩,⟨by omega,by omega,fun c hc=>by have:=hcm c hc;omega,fun c hc f hf=>by have:=hcf c hc f hf;omega,fun t ht=>⟨by have:=htf t ht;omega,fun f hf=>by have:=(htm t ht).2 f hf;omega⟩⟩,fun t ht=>by have:=(htm t ht).1;omega,hrt,by omega,by omega,fun c hc=>by have:=hcm c hc;omega⟩;obtain⟨a1,a2,a3⟩:=sp.1;exact⟨by have:=a1.1;omega,by have:=a3.1;omega,fun g hg=>by have:=(a1.2 g hg).2.2.2.1.1;omega,fun t ht=>tp.2.2.2 t ht⟩
end
section
open Go Go.RowKit Go.ChangeShapes Go.WideShapes Go.ChangeAt
section
variable {H:Type}{enc:TypeId×Value→H}
theorem jiR {C:Checked}{os:Os}{f:FuncId}{fn:Func}{s:ChangeSpec}{laid:List (String×DataW Unit)}(m:Nat)(tys:List (Bool×Ty))(tb:TypeId)
  (own:ownKnob C.prog.godebug=none) (hlo:laidOutB C.prog=true) (started:os.Started) (noInit:C.prog.inits.idxOf? f=none) (hfn:C.prog.funcs[f]?=some fn)
  (witness: ∃(w:World) (tape:Tape) (i:Input),w.os=os∧(w.forCall tape i).Shaped C.prog∧i.vars=[]∧Input.okWide C.prog (w.forCall tape i) .any w.heap.size f i∧
   (Rows.OpenSpec.upto s).preRow enc C.prog fn [] false laid (w.forCall tape i).memory i.args∧({}:Assume).holds C.prog (lone (Frame.enter C.prog f i.args .normal) [] (w.forCall tape i)))
  (hvars:s.vars=[]) (hres:fn.resultTypes= #[tb]) (htb:C.prog.underlying tb=some .bool)
  (hspec: ∀ds:List (DataW H),ds.length=fn.params.size→s.fn H ds={ results:=[.lit (.bool true)],args:=ds })
  (hread:fn.params.all (fun t=>C.prog.readableRec t&&decide (t<C.prog.types.size))=true)
  (htys:jn0 C.prog m fn.params.toList=some tys)
  (FF:Stop.Interp) (walk: ∀(W:World) (args:Array Value),laidMetH C.prog laid W→jeI (jlX 1048576) W W.heap.size tys args.toList→Calls C.prog f args W fun e W'=>e= .returned (.bool true)∧Below W.heap.size W W'):
  ReturnsInHanded {} C os f .any ((Rows.OpenSpec.upto s).preRow enc C.prog fn [] false laid) (((Rows.OpenSpec.upto s).at FF).post enc C.prog fn false true false false):=by
 refine returnsInHanded_of_row (s:=Rows.OpenSpec.upto s) own started noInit hfn witness ?_;intro W base args ds gs before hval hW0 _ hk hsz hL _ _;have hW:DataW.Whole enc C.prog fn.params.toList s.vars false W args.toList ds gs before:=hW0;have hsz:(DataW.weightsEach C.prog (fn.params.toList++s.plain.varTypes C.prog) (ds++gs)).all (· ≤reachBytes)=true:=hsz;have hW':=hW;obtain⟨p,q,hA,hV,rfl,_,_⟩:=hW;rw[hvars] at hV;obtain⟨rfl,rfl⟩:=trodVars_none hV;have hk:=hk Rows.uptoSmall rfl;simp only[A0] at hsz hW' hk;have hvt:s.plain.varTypes C.prog=[]:=by simp[ChangeSpec.plain,DataSpec.varTypes,hvars]
 rw[hvt,A0] at hsz;have hlt: ∀x∈p,x.block<W.heap.size:=fun x hx=>by simpa using hW'.lt x hx
 have hlen:ds.length=fn.params.size:=by
  have: ∀(ts:List TypeId) (vs:List Value) (ds:List (DataW H)) (ps:List MemPlace),DataW.TrodAll enc C.prog W 0 (fun _=>true) true ts vs ds ps→ds.length=ts.length:=by
   intro ts;induction ts with
   |nil=>intro vs ds ps h;obtain⟨_,rfl,_⟩:=trodAll_nil h;rfl
   |cons t ts ih=>
    intro vs ds ps h;obtain⟨v,vs',d,ds',p,q,rfl,rfl,rfl,h0,h1⟩:=trodAll_cons h;simp[ih _ _ _ h1]
  simpa using this _ _ _ _ hA
 have hbulk:Rows.uptoBulkAll ds≤1048576:=by simpa[Rows.uptoSmall] using hk
 have hargs:=jlV (N:=1048576) (B:=W.heap.size) m fn.params.toList tys htys args.toList ds p .any base (fun j t v h1 h2=>hval j t v (by simpa using h1) (by simpa using h2)) hA hlt
  (fun k hk=>by simpa using List.all_eq_true.1 hsz k hk) (fun d hd=>V3 (jo5 hd) hbulk)
 refine (walk W args hL hargs).mono fun e W' ⟨he,hb⟩=>⟨_,he,ds,[],p,[],p,[],hW',?_,?_,?_,hb.frame _,fun h=>by cases h⟩
 ·rw[A0]
  show DataW.TrodAll enc C.prog W' _ _ _ _ _ (s.fn H ds).results _;rw[hspec ds hlen,hres];exact trodAll_mk1 (shut_bool htb true)
 ·rw[A0]
  show DataW.TrodAll enc C.prog W' _ _ _ _ _ (s.fn H ds).args _;rw[hspec ds hlen];refine jlk hlo hb fn.params.toList (fun t ht=>?_) args.toList ds p hA hlt;have:=O2a.1 hread t (by simpa using ht);simpa using this
 ·rw[A0]
  show DataW.TrodVars enc C.prog W' _ s.vars (s.fn H ds).vars _;rw[hspec ds hlen,hvars]
  rfl
end
theorem cell_lt0 {w:World}{a:Addr}{v:Value}(h:w.cell? a=some v):a.block<w.heap.size:=by
 unfold World.cell? at h;by_cases hb:a.block<w.heap.size
 ·exact hb
 ·rw[Array.getElem?_eq_none (by omega)] at h;simp at h
theorem gl_of {W:World}(h:laidMetH Tryz.prog Rows.topBarriersUptoRow.laid W):GlOk W.heap.size W:=by
 rw[MakeChecks.laidMetH_plain _ _ _ (by kernel_rfl)] at h;have h5:=laidMet.tail h;obtain⟨zs,hzs⟩: ∃zs:List Int,zs=(O5 256).map fun i=>if i=32∨(9≤i∧i≤13) then 1 else 0:=⟨_,rfl⟩
 have e:(Rows.laid_strings_asciiSpace:DataW Unit)=Lib.tabData .u8 zs:=by rw[hzs];kernel_rfl
 have hG : Tryz.prog.globalNamed "strings.asciiSpace" = some 0 := by kernel_rfl
 have ht : Lib.TabIs Tryz.prog W "strings.asciiSpace" .u8 zs := by
  refine Lib.tabIs_of_head (rest:=[]) hG (t:=202) (e:=5) (n:=256) (by kernel_rfl) (by kernel_rfl) (by kernel_rfl) (by kernel_rfl) (by kernel_rfl) ?_;rw[←e];exact h5
 have hl:zs.length=256:=by rw[hzs];simp
 have hc: ∀i,i<256→W.cell? ⟨0,i,none⟩=some (.int .u8 (zs.getD i 0)):=fun i hi=>ht.cell hG i (by omega)
 intro g hg;obtain rfl:=X6.1 hg;refine⟨cell_lt0 (hc 0 (by omega)),fun i v hv=>?_⟩;have hi:i<256:=by have:=(U0.1 hv).1;simpa using this
 rw[hc i hi];rw[U8,Y8 hi,U9] at hv;rw[hzs,C0,U8,Y8 hi,U9,Option.getD_some];exact hv
set_option maxRecDepth 100000 in
theorem jq0 (os:Os)(H:Type)(enc:TypeId×Value→H): ∃(w:World) (tape:Tape) (i:Input),w.os=os∧(w.forCall tape i).Shaped Tryz.checked.prog∧i.vars=[]∧Input.okWide Tryz.checked.prog (w.forCall tape i) .any w.heap.size 3 i∧
   (Rows.OpenSpec.upto Rows.topBarriersSpec).preRow enc Tryz.checked.prog Tryz.f3 [] false Rows.topBarriersUptoRow.laid (w.forCall tape i).memory i.args∧({}:Assume).holds Tryz.checked.prog (lone (Frame.enter Tryz.checked.prog 3 i.args .normal) [] (w.forCall tape i)):=by
 have hok:Input.okWideB Tryz.prog ((O2b Tryz.prog os Rows.topBarriersUptoRow.laid).forCall (fun _ _=>0) ⟨#[],#[.agg #[.slice none 0 0,.slice none 0 0,.slice none 0 0],.agg #[.slice none 0 0,.slice none 0 0,.slice none 0 0,.slice none 0 0,.slice none 0 0,.slice none 0 0,.int .i64 0,.int .i64 0],.int .i64 0,.slice none 0 0],[]⟩) 3 ⟨#[],#[.agg #[.slice none 0 0,.slice none 0 0,.slice none 0 0],.agg #[.slice none 0 0,.slice none 0 0,.slice none 0 0,.slice none 0 0,.slice none 0 0,.slice none 0 0,.int .i64 0,.int .i64 0],.int .i64 0,.slice none 0 0],[]⟩=true:=by kernel_rfl
 have hw:(DataW.whole enc Tryz.prog ((O2b Tryz.prog os Rows.topBarriersUptoRow.laid).forCall (fun _ _=>0) ⟨#[],#[.agg #[.slice none 0 0,.slice none 0 0,.slice none 0 0],.agg #[.slice none 0 0,.slice none 0 0,.slice none 0 0,.slice none 0 0,.slice none 0 0,.slice none 0 0,.int .i64 0,.int .i64 0],.int .i64 0,.slice none 0 0],[]⟩).memory Tryz.f3.params.toList (Rows.OpenSpec.upto Rows.topBarriersSpec).vars false (#[.agg #[.slice none 0 0,.slice none 0 0,.slice none 0 0],.agg #[.slice none 0 0,.slice none 0 0,.slice none 0 0,.slice none 0 0,.slice none 0 0,.slice none 0 0,.int .i64 0,.int .i64 0],.int .i64 0,.slice none 0 0]:Array Value).toList 8).map (fun x=>(x.1,x.2.1))=
   some ([.agg [.nil,.nil,.nil],.agg [.nil,.nil,.nil,.nil,.nil,.nil,.lit (.int .i64 0),.lit (.int .i64 0)],.lit (.int .i64 0),.nil],[]):=by kernel_rfl
 obtain⟨⟨x1,x2,x3⟩,hx,hx1⟩:=U5.1 hw;simp only[O4] at hx1;obtain⟨rfl,rfl⟩:=hx1;refine ⟨O2b Tryz.prog os Rows.topBarriersUptoRow.laid, fun _ _ => 0, ⟨#[], #[.agg #[.slice none 0 0, .slice none 0 0, .slice none 0 0], .agg #[.slice none 0 0, .slice none 0 0, .slice none 0 0, .slice none 0 0, .slice none 0 0, .slice none 0 0, .int .i64 0, .int .i64 0], .int .i64 0, .slice none 0 0], []⟩, World.laidAll_os _ _ _, World.shaped_of_ZipB (by kernel_rfl) (by kernel_rfl), rfl, (Input.okWide_of_okWideB hok).2, OpenSpec.preRow_of_cond 8 hx (by kernel_rfl) (fun k hk => by injection hk with hk; subst hk; kernel_rfl) (by kernel_rfl)
  (by rw[MakeChecks.laidMetH_plain _ _ _ (by kernel_rfl)];exact laidMet_laidAll _ (by kernel_rfl) (by kernel_rfl)),?_⟩
 simp only[Assume.holds];exact⟨by simp,by simp,fun _=>Modest.zero,by simp,by simp⟩
set_option maxRecDepth 100000 in
theorem jgm (os:Os)(started:os.Started)(H:Type)(enc:TypeId×Value→H)(FF:Stop.Interp):
  ReturnsInHanded {} Tryz.checked os 3 .any ((Rows.OpenSpec.upto Rows.topBarriersSpec).preRow enc Tryz.prog Tryz.f3 Rows.topBarriersUptoRow.domain false Rows.topBarriersUptoRow.laid) (((Rows.OpenSpec.upto Rows.topBarriersSpec).at FF).post enc Tryz.prog Tryz.f3 false true false false):=by
 refine jiR (C:=Tryz.checked) 12 [(true,tyPr),(true,tySt),(false,.int .i64),(false,.slice 8 (.int .i64))] 4 Tryz.own Tryz.laidOut started (by kernel_rfl) Tryz.func3
  (jq0 os H enc) rfl (by kernel_rfl) Tryz.underlying4 (fun ds h=>?_) (by kernel_rfl) (by kernel_rfl) FF (fun W args hL h=>?_)
 ·match ds,h with
  |[d0,d1,d2,d3],_=>rfl
 ·refine jsv (by kernel_rfl) (boxF_ok (ju9 (n:=1) (F:=jag Tryz.prog) (by kernel_rfl) (fun f af h=>h) [] (by intro p hp;simp at hp))) pnW_ok (fun v h=>h) (fun f af h=>h) rfl (fun zl hz=>?_) W args h (gl_of hL)
  obtain⟨p,_,rfl,hp,sp,s,_,rfl,hs,ss,k,_,rfl,_,_,l,_,rfl,hl,sl,rfl⟩:=hz;show ZC (XC [] true) (jag Tryz.prog) 3 [.agg (ePr p),.agg (_root_.Go.Proofs.YtlkapggcppcafaaGreatDoor.enc tySt s),Z64 k,.fz 1 false ((l:List Int).map eI)] _ _ _;rw[enc_st];exact jlm (tbOk_of hp hs sp ss) (by have:=sl.1.1;omega)
theorem jhG:Rows.TopBarriersUptoSaid:=
 OpenClaim.holds_of_cond 3 Tryz.f3 rfl rfl rfl rfl rfl rfl rfl ⟨rfl,rfl,rfl,rfl,rfl⟩ rfl rfl rfl rfl rfl (by kernel_rfl) Tryz.func3 (by kernel_rfl) (of_decide_eq_true (by kernel_rfl)) (by unfold Func.isWrapper;first|(rw[if_pos (by decide+kernel)];kernel_rfl)|(rw[if_neg (by decide+kernel)];exact⟨rfl,rfl⟩))
  (fun os started H enc _ F=>by rw[OpenClaim.pre_eq_preRow];exact jgm os started H enc F)
theorem jgX (f : FuncId)(fn : Func)(hf : Tryz.pinned.checked.prog.funcNamed "backstitch/backstitchtop.TopBarriers" = some f)(hfn : Tryz.pinned.checked.prog.funcs[f]? = some fn) :
  false=Tryz.pinned.checked.prog.looks []∧ ∀(j:Nat) t,fn.params[j]?=some t→Tryz.pinned.checked.prog.wantsStandIn t=false:=by
 obtain rfl : f = 3 := O2c ((show Tryz.prog.funcNamed "backstitch/backstitchtop.TopBarriers" = some 3 by kernel_rfl).symm.trans hf) |>.symm;obtain rfl:fn=Tryz.f3:=(O2c (Tryz.func3.symm.trans hfn)).symm;refine⟨by kernel_rfl,fun j t ht=>?_⟩;have hm:=Array.mem_of_getElem? ht;have hall:(Tryz.f3.params.all fun t=> !Tryz.pinned.checked.prog.wantsStandIn t)=true:=by kernel_rfl
 have:=O2a.1 hall t hm;simpa using this
theorem topbarriers_card:Rows.TopBarriersUptoCardSaid:=
 Claim7.holds_tied_plain_at .later [] _ _ _ _ jhG (fun _ h=>by cases h) (by kernel_rfl) (fun _ h=>by cases h) topBarriersUpto_row_tie rfl ⟨rfl,rfl⟩ (by kernel_rfl) rfl jgX (by kernel_rfl)
end
end Go.Proofs.YtlkapggcppcafaaGreatDoor
