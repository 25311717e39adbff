/-
  The store, plain: a cell goes behind all; a value more, another value, a cell more.
-/
import Derived.Test.YtjaahfncbechnaaGreatDoorMrT11
set_option linter.unusedVariables false
set_option linter.unusedSimpArgs false
namespace Go.Proofs.YtjaahfncbechnaaGreatDoor
open Go Go.RowKit
variable {A:AS}{F AT:List Int}
def jgO (a b:Nat)(p:Int):Int:=if p=(a:Int) then (b:Int) else p
theorem U64.app {P Q:List Int}(h1:U64 P)(h2:U64 Q):U64 (P++Q):=fun w hw=>(List.mem_append.1 hw).elim (h1 w) (h2 w)
theorem Rep.move (h:Rep A F AT){n:Nat}(hn:Rch A n)(hl:F.length+(1+(A.val n).length)≤2000):
  Rep A (jd7 (jgO (atP AT n).toNat F.length) (F++ja7 F (atP AT n).toNat)) (jcE (jgO (atP AT n).toNat F.length) AT)∧atP (jcE (jgO (atP AT n).toNat F.length) AT) n=(F.length:Int)∧(jd7 (jgO (atP AT n).toNat F.length) (F++ja7 F (atP AT n).toNat)).length=F.length+(1+(A.val n).length)∧Whole (F++ja7 F (atP AT n).toNat)∧U64 (F++ja7 F (atP AT n).toNat)∧ ∀(j:Nat) w,(F++ja7 F (atP AT n).toNat)[j]?=some w→j∉objs (F++ja7 F (atP AT n).toNat) 0→jaz w (objs F 0)=true:=by
 have hc:=(h.cell n hn).1
 have ho:=h.obj' hc
 have hoz:=h.osz hn
 obtain⟨a,ha⟩: ∃a,a=(atP AT n).toNat:=⟨_,rfl⟩
 rw[←ha] at ho hoz ⊢
 obtain⟨P,O,Q,e1,e2,e3,e4,e5,e6,e7,e8⟩:=cut3 h.he ho
 rw[←e6]
 have hF: ∀p∈objs F 0,p<F.length∧p+Go.Proofs.YtjaahfncbechnaaGreatDoor.osz F p≤F.length:=fun p hp=>(jbN F _ 0 (Nat.le_refl _) h.he p hp).2
 have hob:=(jcp (P:=F) (Q:=O) h.he).1
 rw[e8] at hob
 have hob:objs (F++O) 0=objs F 0++[F.length]:=hob
 have hO: ∀d,d<Go.Proofs.YtjaahfncbechnaaGreatDoor.osz F a→O[d]?=F[a+d]?:=fun d hd=>by
  rw[e6];unfold ja7;rw[List.getElem?_take,if_pos (show d<1+lng (F[a]?.getD 0) from hd),List.getElem?_drop]
 have hU:U64 (F++O):=h.u.app fun w hw=>by rw[e6] at hw;exact h.u w (List.mem_of_mem_drop (List.mem_of_mem_take hw))
 have hOK: ∀(j:Nat) w,(F++O)[j]?=some w→j∉objs (F++O) 0→jaz w (objs F 0)=true:=by
  intro j w hj hno
  rw[hob,List.mem_append,not_or] at hno
  obtain⟨hno,hne⟩:=hno
  have hne:j≠F.length:=by simpa using hne
  have hok: ∀(j:Nat) w,F[j]?=some w→j∉objs F 0→jaz w (objs F 0)=true:=fun j w hj hno=>by
   obtain⟨hjl,e⟩:=List.getElem?_eq_some_iff.1 hj
   have:=jdb.1 h.hw j hjl
   rw[e] at this
   unfold okAt at this
   rwa [decide_eq_false hno,Bool.false_or] at this
  rcases Nat.lt_or_ge j F.length with hjl|hjl
  ·rw[List.getElem?_append_left hjl] at hj
   exact hok j w hj hno
  ·rw[List.getElem?_append_right hjl] at hj
   have hd:=(List.getElem?_eq_some_iff.1 hj).1
   rw[hO _ (by omega)] at hj
   exact hok _ w hj (jco F _ 0 (Nat.le_refl _) a ho _ (by omega) (by omega))
 refine⟨h.turn (Whole.app h.he e7) (by rw[List.length_append];omega) hU ?_ ?_ hOK,?_,by rw[ja3,List.length_append,e5,hoz],Whole.app h.he e7,hU,hOK⟩
 ·intro p hp
  obtain⟨q1,q2⟩:=hF p hp
  unfold jgO
  by_cases e:p=a
  ·subst e
   rw[if_pos rfl]
   refine⟨by omega,by rw[hob];simp,fun d hd=>?_⟩
   rw[Int.toNat_natCast,List.getElem?_append_right (by omega),show F.length+d - F.length=d by omega]
   exact hO d hd
  ·rw[if_neg (by omega)]
   refine⟨by omega,by rw[hob,Int.toNat_natCast];exact List.mem_append_left _ hp,fun d hd=>?_⟩
   rw[Int.toNat_natCast,List.getElem?_append_left (by omega)]
 ·intro p hp q hq e
  have q1:=(hF p hp).1
  have q2:=(hF q hq).1
  unfold jgO at e
  split at e<;>split at e<;>omega
 ·rw[jc5,if_pos hc]
  unfold jgO
  rw[if_pos (by omega)]
def jfz (a n m:Nat)(p:Int):Int:=if p=(a:Int) then (m:Int) - n else if p>(a:Int) then p - n else p
theorem Rep.last (h:Rep A F AT){n:Nat}(hn:Rch A n):
  Rep A (jd7 (jfz (atP AT n).toNat (1+(A.val n).length) F.length) (F.take (atP AT n).toNat++F.drop ((atP AT n).toNat+(1+(A.val n).length))++ja7 F (atP AT n).toNat)) (jcE (jfz (atP AT n).toNat (1+(A.val n).length) F.length) AT)∧atP (jcE (jfz (atP AT n).toNat (1+(A.val n).length) F.length) AT) n=((F.length - (1+(A.val n).length):Nat):Int)∧(jd7 (jfz (atP AT n).toNat (1+(A.val n).length) F.length) (F.take (atP AT n).toNat++F.drop ((atP AT n).toNat+(1+(A.val n).length))++ja7 F (atP AT n).toNat)).length=F.length∧(1+(A.val n).length)≤F.length∧Whole (F.take (atP AT n).toNat++F.drop ((atP AT n).toNat+(1+(A.val n).length))++ja7 F (atP AT n).toNat)∧U64 (F.take (atP AT n).toNat++F.drop ((atP AT n).toNat+(1+(A.val n).length))++ja7 F (atP AT n).toNat)∧ ∀(j:Nat) w,(F.take (atP AT n).toNat++F.drop ((atP AT n).toNat+(1+(A.val n).length))++ja7 F (atP AT n).toNat)[j]?=some w→j∉objs (F.take (atP AT n).toNat++F.drop ((atP AT n).toNat+(1+(A.val n).length))++ja7 F (atP AT n).toNat) 0→jaz w (objs F 0)=true:=by
 have hc:=(h.cell n hn).1
 have ho:=h.obj' hc
 have hoz:=h.osz hn
 have hft:=(h.fit hc).2
 rw[hoz] at hft
 obtain⟨a,ha⟩: ∃a,a=(atP AT n).toNat:=⟨_,rfl⟩
 obtain⟨m,hm⟩: ∃m,m=1+(A.val n).length:=⟨_,rfl⟩
 rw[←hm] at hoz hft ⊢
 rw[←ha] at ho hoz hft ⊢
 obtain⟨P,O,Q,e1,e2,e3,e4,e5,e6,e7,e8⟩:=cut3 h.he ho
 rw[←e6]
 rw[hoz] at e5
 have hFl:F.length=a+m+Q.length:=by rw[e1,List.length_append,List.length_append,e2,e5];omega
 have eP:F.take a=P:=by rw[e1,List.take_append_of_le_length (by omega),← e2,List.take_length]
 have eQ:F.drop (a+m)=Q:=by
  rw[e1,← List.append_assoc,List.drop_append_of_le_length (by simp;omega),show a+m=(P++O).length by simp;omega,List.drop_length,List.nil_append]
 rw[eP,eQ]
 have obF:objs F 0=objs P 0++(a::(objs Q 0).map (a+m+ ·)):=by
  rw[e1,(jcp e3).1,(jcp e7).1,e8,e2,e5,List.map_append,List.map_map]
  congr 1
  show (a+0)::_=_
  rw[Nat.add_zero]
  congr 1
  exact List.map_congr_left fun x _=>by show a+(m+x)=a+m+x;omega
 have ob1:objs (P++Q++O) 0=objs P 0++(objs Q 0).map (a+ ·)++[a+Q.length]:=by
  rw[(jcp (e3.app e4)).1,(jcp e3).1,e8,e2,List.length_append,e2];rfl
 have gP: ∀j,j<a→(P++Q++O)[j]?=F[j]?:=fun j hj=>by
  rw[List.append_assoc,List.getElem?_append_left (by omega),e1,List.getElem?_append_left (by omega)]
 have gQ: ∀j,j<Q.length→(P++Q++O)[a+j]?=F[a+m+j]?:=fun j hj=>by
  rw[List.append_assoc,List.getElem?_append_right (by omega),List.getElem?_append_left (by omega),e1,List.getElem?_append_right (by omega),List.getElem?_append_right (by omega)]
  congr 1;omega
 have gO: ∀j,j<m→(P++Q++O)[a+Q.length+j]?=F[a+j]?:=fun j hj=>by
  rw[List.getElem?_append_right (by simp;omega),e1,List.getElem?_append_right (by omega),List.getElem?_append_left (by omega)]
  congr 1;simp;omega
 have hP: ∀p∈objs P 0,p<a∧p+Go.Proofs.YtjaahfncbechnaaGreatDoor.osz F p≤a:=fun p hp=>by
  obtain⟨_,q1,q2⟩:=jbN P _ 0 (Nat.le_refl _) e3 p hp
  have:Go.Proofs.YtjaahfncbechnaaGreatDoor.osz P p=Go.Proofs.YtjaahfncbechnaaGreatDoor.osz F p:=by
   unfold Go.Proofs.YtjaahfncbechnaaGreatDoor.osz
   rw[e1,List.getElem?_append_left q1]
  omega
 have hQ: ∀q∈objs Q 0,q<Q.length∧q+Go.Proofs.YtjaahfncbechnaaGreatDoor.osz F (a+m+q)≤Q.length:=fun q hq=>by
  obtain⟨_,q1,q2⟩:=jbN Q _ 0 (Nat.le_refl _) e4 q hq
  have:Go.Proofs.YtjaahfncbechnaaGreatDoor.osz Q q=Go.Proofs.YtjaahfncbechnaaGreatDoor.osz F (a+m+q):=by
   unfold Go.Proofs.YtjaahfncbechnaaGreatDoor.osz
   rw[e1,List.getElem?_append_right (by omega),List.getElem?_append_right (by omega)]
   congr 4
   omega
  omega
 have hcase: ∀p∈objs F 0,(p∈objs P 0∧jfz a m F.length (p:Int)=(p:Int))∨(p=a∧jfz a m F.length (p:Int)=((a+Q.length:Nat):Int))∨ ∃q∈objs Q 0,p=a+m+q∧jfz a m F.length (p:Int)=((a+q:Nat):Int):=fun p hp=>by
  rw[obF,List.mem_append,List.mem_cons] at hp
  unfold jfz
  rcases hp with hp|rfl|hp
  ·have:=hP p hp
   exact .inl ⟨hp,by rw[if_neg (by omega),if_neg (by omega)]⟩
  ·exact .inr (.inl ⟨rfl,by rw[if_pos rfl];omega⟩)
  ·obtain⟨q,hq,rfl⟩:=List.mem_map.1 hp
   exact .inr (.inr ⟨q,hq,rfl,by rw[if_neg (by omega),if_pos (by omega)];omega⟩)
 have hlen:(P++Q++O).length=F.length:=by simp;omega
 have hok: ∀(j:Nat) w,F[j]?=some w→j∉objs F 0→jaz w (objs F 0)=true:=fun j w hj hno=>by
  obtain⟨hjl,e⟩:=List.getElem?_eq_some_iff.1 hj
  have:=jdb.1 h.hw j hjl
  rw[e] at this
  unfold okAt at this
  rwa [decide_eq_false hno,Bool.false_or] at this
 have hU:U64 (P++Q++O):=by
  intro w hw
  refine h.u w ?_
  rw[e1]
  simp only[List.mem_append] at hw ⊢
  rcases hw with (hw|hw)|hw
  ·exact .inl hw
  ·exact .inr (.inr hw)
  ·exact .inr (.inl hw)
 have hOK: ∀(j:Nat) w,(P++Q++O)[j]?=some w→j∉objs (P++Q++O) 0→jaz w (objs F 0)=true:=by
  intro j w hj hno
  rw[ob1,List.mem_append,List.mem_append,not_or,not_or] at hno
  obtain⟨⟨n1,n2⟩,n3⟩:=hno
  have hjl:=(List.getElem?_eq_some_iff.1 hj).1
  rcases Nat.lt_or_ge j a with c|c
  ·rw[gP j c] at hj
   refine hok j w hj fun hm=>?_
   rw[obF,List.mem_append,List.mem_cons] at hm
   rcases hm with hm|hm|hm
   ·exact n1 hm
   ·omega
   ·obtain⟨q,_,e⟩:=List.mem_map.1 hm;omega
  ·obtain⟨i,rfl⟩: ∃i,j=a+i:=⟨j - a,by omega⟩
   rcases Nat.lt_or_ge i Q.length with c2|c2
   ·rw[gQ i c2] at hj
    refine hok _ w hj fun hm=>?_
    rw[obF,List.mem_append,List.mem_cons] at hm
    rcases hm with hm|hm|hm
    ·have:=hP _ hm;omega
    ·omega
    ·obtain⟨q,hq,e⟩:=List.mem_map.1 hm
     have:q=i:=by omega
     subst this
     exact n2 (List.mem_map.2 ⟨q,hq,rfl⟩)
   ·obtain⟨d,rfl⟩: ∃d,i=Q.length+d:=⟨i - Q.length,by omega⟩
    rw[←Nat.add_assoc] at hj
    have hd:d<m:=by rw[hlen] at hjl;omega
    rw[gO d hd] at hj
    have hd0:d≠0:=fun e=>n3 (by subst e;simp)
    exact hok _ w hj (jco F _ 0 (Nat.le_refl _) a ho d (by omega) (by omega))
 refine⟨h.turn ((e3.app e4).app e7) (by rw[hlen];exact h.hl) hU ?_ ?_ hOK,?_,by rw[ja3];exact hlen,by omega,(e3.app e4).app e7,hU,hOK⟩
 ·intro p hp
  rcases hcase p hp with⟨q,e⟩|⟨q,e⟩|⟨q,hq,e0,e⟩
  ·have:=hP p q
   rw[e,Int.toNat_natCast]
   refine⟨by omega,by rw[ob1];simp[q],fun d hd=>gP _ (by omega)⟩
  ·rw[e,Int.toNat_natCast]
   subst q
   refine⟨by omega,by rw[ob1];simp,fun d hd=>gO _ (by omega)⟩
  ·have:=hQ q hq
   rw[e,Int.toNat_natCast]
   refine⟨by omega,by rw[ob1];simp[hq],fun d hd=>?_⟩
   rw[e0] at hd ⊢
   rw[Nat.add_assoc,Nat.add_assoc (a+m)]
   exact gQ _ (by omega)
 ·intro p hp q hq e
  rcases hcase p hp with⟨p1,p2⟩|⟨p1,p2⟩|⟨p0,hp0,p1,p2⟩<;>rcases hcase q hq with⟨q1,q2⟩|⟨q1,q2⟩|⟨q0,hq0,q1,q2⟩
  all_goals rw[p2,q2] at e
  ·omega
  ·have:=hP p p1;omega
  ·have:=hP p p1;omega
  ·have:=hP q q1;omega
  ·omega
  ·have:=hQ q0 hq0;omega
  ·have:=hP q q1;omega
  ·have:=hQ p0 hp0;omega
  ·omega
 ·rw[jc5,if_pos hc]
  unfold jfz
  rw[if_pos (by omega)];omega
theorem Rep.okAt (h:Rep A F AT): ∀(j:Nat) w,F[j]?=some w→j∉objs F 0→jaz w (objs F 0)=true:=fun j w hj hno=>by
 obtain⟨hjl,e⟩:=List.getElem?_eq_some_iff.1 hj
 have:=jdb.1 h.hw j hjl
 rw[e] at this
 unfold Go.Proofs.YtjaahfncbechnaaGreatDoor.okAt at this
 rwa [decide_eq_false hno,Bool.false_or] at this
theorem jq7 {G:List Int}(h: ∀(j:Nat) w,G[j]?=some w→j∉objs G 0→jaz w (objs G 0)=true):okW G=true:=by
 refine jdb.2 fun j hj=>?_
 unfold Go.Proofs.YtjaahfncbechnaaGreatDoor.okAt
 by_cases hjo:j∈objs G 0
 ·rw[decide_eq_true hjo,Bool.true_or]
 ·rw[decide_eq_false hjo,Bool.false_or]
  exact h j _ (List.getElem?_eq_getElem hj) hjo
theorem jlB {w:Int}{p q:List Nat}(hs: ∀a∈p,a∈q)(h:jaz w p=true):jaz w q=true:=by
 simp only[jaz,Bool.and_eq_true,decide_eq_true_eq,Bool.or_eq_true,Bool.not_eq_true'] at h ⊢
 refine⟨h.1,h.2.imp_right fun hm=>?_⟩
 obtain⟨a,ha,e⟩:=List.mem_map.1 hm
 exact List.mem_map.2 ⟨a,hs a ha,e⟩
structure VOk (A:AS)(w:Int):Prop where
  u:0≤w∧w<18446744073709551616
  k:0≤jdZ w
  r:jax w=true→ ∃m:Nat,jau w=(m:Int)∧Rch A m
theorem Rep.right (h:Rep A F AT){w:Int}(hw:VOk A w):jaz (mapP AT w) (objs F 0)=true∧(0≤mapP AT w∧mapP AT w<18446744073709551616):=by
 unfold mapP
 split
 ·rename_i hp
  obtain⟨m,e,hm⟩:=hw.r hp
  rw[e]
  have hc:=(h.cell m hm).1
  have hf:=(h.fit hc).1
  have hl:=h.hl
  obtain⟨b1,b2,b3,b4,b5,_⟩:=box5 (n:=atP AT m) hc (by omega)
  refine⟨?_,jb4⟩
  show jaz (boxW 5 (atP AT m)) _=true
  simp only[jaz,b3,b4,b5,Bool.not_true,Bool.false_or,Bool.and_eq_true,decide_eq_true_eq]
  exact⟨by omega,List.mem_map.2 ⟨_,h.obj' hc,by show ((atP AT m).toNat:Int)=_;omega⟩⟩
 ·rename_i hp
  have hp:jax w=false:=by simpa using hp
  refine⟨?_,hw.u⟩
  simp only[jaz,hp,Bool.not_false,Bool.true_or,Bool.and_true,decide_eq_true_eq]
  exact hw.k
def putV (A:AS)(n:Nat)(l:List Int):AS:=⟨A.mks,A.vs.set n l,A.hd⟩
theorem jcn {n m:Nat}{l:List Int}(hn:n<A.vs.length):(putV A n l).val m=if m=n then l else A.val m:=by
 unfold AS.val putV
 rw[List.getD_eq_getElem?_getD,List.getElem?_set]
 by_cases e:n=m
 ·subst e;rw[if_pos rfl,if_pos rfl,if_pos hn];rfl
 ·rw[if_neg e,if_neg (Ne.symm e),List.getD_eq_getElem?_getD]
theorem jfK {n:Nat}{l:List Int}(hA:AOk A)(hn:Rch A n)(hl: ∀w∈l,w∈A.val n∨VOk A w): ∀{m:Nat},Rch (putV A n l) m→Rch A m:=by
 intro m hm
 have hlt:n<A.vs.length:=by rw[hA.lv];exact hn.lt hA
 induction hm with
 |held h=>exact .held h
 |@val a m w ha hw hp e ih=>
  rw[jcn hlt] at hw
  split at hw
  ·rename_i ea
   subst ea
   rcases hl w hw with h|h
   ·exact .val hn h hp e
   ·obtain⟨m',e',hm'⟩:=h.r hp
    have:m=m':=by omega
    rw[this];exact hm'
  ·exact .val ih hw hp e
theorem jqX {n:Nat}{l:List Int}(hA:AOk A)(hn:Rch A n)(hl: ∀w∈l,w∈A.val n∨VOk A w)(hll:l.length≤100):AOk (putV A n l):=by
 have hlt:n<A.vs.length:=by rw[hA.lv];exact hn.lt hA
 refine⟨by show (A.vs.set n l).length=_;rw[List.length_set];exact hA.lv,hA.lh,hA.n100,hA.mkr,fun m hm=>?_,fun m hm w hw=>?_⟩
 ·rw[jcn hlt]
  split
  ·exact hll
  ·exact hA.vl m (jfK hA hn hl hm)
 ·rw[jcn hlt] at hw
  have hm':=jfK hA hn hl hm
  split at hw
  ·rcases hl w hw with h|h
   ·exact hA.vr n hn w h
   ·exact⟨h.u,h.k,fun hp=>by obtain⟨m',e',hm'⟩:=h.r hp;have:=hm'.lt hA;exact⟨by omega,by show _<(A.mks.length:Int);omega⟩⟩
  ·exact hA.vr m hm' w hw
theorem Rep.set (h:Rep A F AT){n i:Nat}{w:Int}(hn:Rch A n)(hi:i<(A.val n).length)(hw:VOk A w):Rep (putV A n ((A.val n).set i w)) (F.set ((atP AT n).toNat+1+i) (mapP AT w)) AT:=by
 have hA:=h.ok
 have hlt:n<A.vs.length:=by rw[hA.lv];exact hn.lt hA
 have hl: ∀v∈(A.val n).set i w,v∈A.val n∨VOk A v:=fun v hv=>(List.mem_or_eq_of_mem_set hv).imp_right fun e=>by rw[e];exact hw
 obtain⟨c1,c2,c3⟩:=h.cell n hn
 have hoz:=h.osz hn
 have hfit:=h.fit c1
 have hno:(atP AT n).toNat+1+i∉objs F 0:=by
  rw[Nat.add_assoc]
  exact jco F _ 0 (Nat.le_refl _) _ (h.obj' c1) (1+i) (by omega) (by omega)
 obtain⟨P,hP⟩: ∃P,P=(atP AT n).toNat+1+i:=⟨_,rfl⟩
 rw[←hP] at hno ⊢
 obtain⟨r1,r2⟩:=h.right hw
 obtain⟨o1,o2⟩:=jhT (F:=F) (G:=F.set P (mapP AT w)) (by rw[List.length_set]) _ 0 (Nat.le_refl _) fun j hj=>by
  rw[List.getElem?_set_ne (fun e=>hno (by rw[e];exact hj))]
 refine⟨jqX hA hn hl (by rw[List.length_set];exact hA.vl n hn),h.la,by rw[o2,List.length_set];exact h.he,jq7 fun j v hj hjo=>?_,by rw[List.length_set];exact h.hl,fun v hv=>?_,h.inj,fun i=>by rw[o1];exact h.obj i,fun m hm=>?_⟩
 ·rw[o1] at hjo ⊢
  rw[List.getElem?_set] at hj
  split at hj
  ·split at hj
   ·injection hj with hj;rw[←hj];exact r1
   ·cases hj
  ·exact h.okAt j v hj hjo
 ·rcases List.mem_or_eq_of_mem_set hv with hv|rfl
  ·exact h.u v hv
  ·exact r2
 ·have hm':=jfK hA hn hl hm
  obtain⟨d1,d2,d3⟩:=h.cell m hm'
  have hmo:=h.obj' d1
  refine⟨d1,?_,fun j v hj=>?_⟩
  ·rw[List.getElem?_set_ne (fun e=>hno (by rw[e];exact hmo)),d2,jcn hlt]
   split
   ·rename_i e;subst e;rw[List.length_set];rfl
   ·rfl
  ·rw[jcn hlt] at hj
   have hmz:=h.osz hm'
   have hjl:j<(A.val m).length:=by
    split at hj
    ·rename_i e;subst e;have:=(List.getElem?_eq_some_iff.1 hj).1;rwa [List.length_set] at this
    ·exact (List.getElem?_eq_some_iff.1 hj).1
   by_cases e:m=n
   ·subst e
    rw[if_pos rfl] at hj
    rw[List.getElem?_set] at hj ⊢
    by_cases e2:i=j
    ·subst e2
     rw[if_pos rfl,if_pos hjl] at hj
     injection hj with hj
     rw[if_pos hP,if_pos (by omega),hj]
    ·rw[if_neg e2] at hj
     rw[if_neg (by omega)]
     exact d3 j v hj
   ·rw[if_neg e] at hj
    rw[List.getElem?_set_ne,d3 j v hj]
    intro e2
    have hne:atP AT m≠atP AT n:=fun q=>e (h.inj m n d1 q)
    rcases Nat.lt_trichotomy (atP AT m).toNat (atP AT n).toNat with q|q|q
    ·have hx:=jco F _ 0 (Nat.le_refl _) _ hmo ((atP AT n).toNat - (atP AT m).toNat) (by omega) (by omega)
     rw[show (atP AT m).toNat+((atP AT n).toNat - (atP AT m).toNat)=(atP AT n).toNat by omega] at hx
     exact hx (h.obj' c1)
    ·omega
    ·have hx:=jco F _ 0 (Nat.le_refl _) _ (h.obj' c1) ((atP AT m).toNat - (atP AT n).toNat) (by omega) (by omega)
     rw[show (atP AT n).toNat+((atP AT m).toNat - (atP AT n).toNat)=(atP AT m).toNat by omega] at hx
     exact hx hmo
theorem Rep.grow (h:Rep A F AT){n:Nat}{w:Int}(hn:Rch A n)(hlast:(atP AT n).toNat+(1+(A.val n).length)=F.length)(hl1:F.length+1≤2000)(hv:(A.val n).length<100)(hw:VOk A w):
  Rep (putV A n (A.val n++[w])) ((F++[mapP AT w]).set (atP AT n).toNat (A.mks.getD n 0*4294967296+(((A.val n).length+1:Nat):Int))) AT:=by
 have hA:=h.ok
 have hlt:n<A.vs.length:=by rw[hA.lv];exact hn.lt hA
 have hl: ∀v∈A.val n++[w],v∈A.val n∨VOk A v:=fun v hv=>(List.mem_append.1 hv).imp_right fun e=>by rw[List.mem_singleton.1 e];exact hw
 obtain⟨c1,c2,c3⟩:=h.cell n hn
 have hoz:=h.osz hn
 have ho:=h.obj' c1
 obtain⟨r1,r2⟩:=h.right hw
 obtain⟨a,ha⟩: ∃a,a=(atP AT n).toNat:=⟨_,rfl⟩
 rw[←ha] at hlast hoz ho c2 c3 ⊢
 have hmk:0≤A.mks.getD n 0∧A.mks.getD n 0<2147483648:=by
  have hnl:n<A.mks.length:=hn.lt hA
  rw[List.getD_eq_getElem?_getD,List.getElem?_eq_getElem hnl]
  exact hA.mkr _ (List.getElem_mem hnl)
 obtain⟨P,O,Q,e1,e2,e3,e4,e5,e6,e7,e8⟩:=cut3 h.he ho
 rw[hoz] at e5
 have hFl:F.length=P.length+(O.length+Q.length):=by rw[e1];simp
 have hQ:Q=[]:=List.eq_nil_of_length_eq_zero (by omega)
 subst hQ
 rw[List.append_nil] at e1
 obtain⟨hd,hhd⟩: ∃hd:Int,hd=A.mks.getD n 0*4294967296+(((A.val n).length+1:Nat):Int):=⟨_,rfl⟩
 have hlg:lng hd=(A.val n).length+1:=by rw[hhd];exact jeC (by omega)
 rw[←hhd]
 obtain⟨G,hG⟩: ∃G,G=(F++[mapP AT w]).set a hd:=⟨_,rfl⟩
 have hGl:G.length=F.length+1:=by rw[hG];simp
 have hga:G[a]?=some hd:=by rw[hG,List.getElem?_set_self (by simp;omega)]
 have hgj: ∀j,j≠a→j<F.length→G[j]?=F[j]?:=fun j hj hjl=>by rw[hG,List.getElem?_set_ne (Ne.symm hj),List.getElem?_append_left hjl]
 have hge:G[F.length]?=some (mapP AT w):=by rw[hG,List.getElem?_set_ne (by omega),List.getElem?_append_right (Nat.le_refl _),Nat.sub_self];rfl
 have hGP:G=P++G.drop a:=by
  have:P=G.take a:=by
   apply List.ext_getElem?
   intro j
   rw[List.getElem?_take]
   by_cases hj:j<a
   ·rw[if_pos hj,hgj j (by omega) (by omega),e1,List.getElem?_append_left (by omega)]
   ·rw[if_neg hj,List.getElem?_eq_none (by omega)]
  conv=>rhs;rw[this]
  exact (List.take_append_drop _ _).symm
 have hdl:(G.drop a).length=1+((A.val n).length+1):=by rw[List.length_drop];omega
 have hd0:(G.drop a)[0]?=some hd:=by rw[List.getElem?_drop,Nat.add_zero];exact hga
 obtain⟨dl,hdd⟩:=List.getElem?_eq_some_iff.1 hd0
 have oD:objs (G.drop a) 0=[0]∧jaq (G.drop a) 0=(G.drop a).length:=by
  refine⟨?_,?_⟩
  ·rw[objs];simp only[dl,dite_true];rw[hdd,hlg,objs]
   simp only[show ¬0+1+((A.val n).length+1)<(G.drop a).length by omega,dite_false]
  ·rw[jaq];simp only[dl,dite_true];rw[hdd,hlg,jaq]
   simp only[show ¬0+1+((A.val n).length+1)<(G.drop a).length by omega,dite_false];omega
 have obG:objs G 0=objs F 0∧jaq G 0=G.length:=by
  have q1:=jcp (P:=P) (Q:=G.drop a) e3
  have q2:=jcp (P:=P) (Q:=O) e3
  rw[←hGP,oD.1,oD.2,hdl] at q1
  rw[←e1,e8] at q2
  exact⟨by rw[q1.1,q2.1],by rw[q1.2];omega⟩
 rw[←hG]
 refine⟨jqX hA hn hl (by rw[List.length_append];show (A.val n).length+1≤100;omega),h.la,obG.2,jq7 fun j v hj hjo=>?_,by omega,fun v hv=>?_,h.inj,fun i=>by rw[obG.1];exact h.obj i,fun m hm=>?_⟩
 ·rw[obG.1] at hjo ⊢
  have hjl:=(List.getElem?_eq_some_iff.1 hj).1
  have hja:j≠a:=fun e=>hjo (by rw[e];exact ho)
  by_cases e:j=F.length
  ·rw[e,hge] at hj;injection hj with hj;rw[←hj];exact r1
  ·rw[hgj j hja (by omega)] at hj
   exact h.okAt j v hj hjo
 ·rw[hG] at hv
  rcases List.mem_or_eq_of_mem_set hv with hv|rfl
  ·rcases List.mem_append.1 hv with hv|hv
   ·exact h.u v hv
   ·rw[List.mem_singleton.1 hv];exact r2
  ·have hv2:((((A.val n).length+1:Nat)):Int)≤100:=by omega
   rw[hhd];constructor<;>omega
 ·have hm':=jfK hA hn hl hm
  obtain⟨d1,d2,d3⟩:=h.cell m hm'
  have hmo:=h.obj' d1
  have hmf:=h.fit d1
  have hmz:=h.osz hm'
  refine⟨d1,?_,fun j v hj=>?_⟩
  ·rw[jcn hlt]
   by_cases e:m=n
   ·subst e
    rw[if_pos rfl,← ha,hga,hhd,List.length_append];rfl
   ·have hne:(atP AT m).toNat≠a:=fun q=>e (h.inj m n d1 (by omega))
    rw[if_neg e,hgj _ hne (by omega),d2];rfl
  ·rw[jcn hlt] at hj
   by_cases e:m=n
   ·subst e
    rw[if_pos rfl] at hj
    rw[←ha] at d3 ⊢
    rcases Nat.lt_or_ge j (A.val m).length with c|c
    ·rw[List.getElem?_append_left c] at hj
     rw[hgj _ (by omega) (by omega)]
     exact d3 j v hj
    ·have hjl:=(List.getElem?_eq_some_iff.1 hj).1
     rw[List.length_append] at hjl
     have hjl:j<(A.val m).length+1:=hjl
     have:j=(A.val m).length:=by omega
     subst this
     rw[List.getElem?_append_right (Nat.le_refl _),Nat.sub_self] at hj
     have hj:some w=some v:=hj
     injection hj with hj
     rw[show a+1+(A.val m).length=F.length by omega,hge,hj]
   ·rw[if_neg e] at hj
    have hjl:=(List.getElem?_eq_some_iff.1 hj).1
    rw[hgj _ ?_ (by omega)]
    ·exact d3 j v hj
    ·intro q
     have hx:=jco F _ 0 (Nat.le_refl _) _ hmo (1+j) (by omega) (by omega)
     rw[←Nat.add_assoc,q] at hx
     exact hx ho
def jdY (A:AS)(mark:Int):AS:=⟨A.mks++[mark],A.vs++[[]],A.hd++[true]⟩
theorem jcg {mark:Int}{n:Nat}:(jdY A mark).val n=A.val n:=by
 unfold AS.val jdY
 rw[List.getD_eq_getElem?_getD,List.getD_eq_getElem?_getD]
 rcases Nat.lt_trichotomy n A.vs.length with h|h|h
 ·rw[List.getElem?_append_left h]
 ·subst h;rw[List.getElem?_append_right (Nat.le_refl _),Nat.sub_self,List.getElem?_eq_none (Nat.le_refl _)];rfl
 ·rw[List.getElem?_append_right (by omega),List.getElem?_eq_none (l:=A.vs) (by omega),List.getElem?_eq_none (by simp;omega)]
theorem jgC {mark:Int}(hA:AOk A){n:Nat}:Rch (jdY A mark) n→Rch A n∨n=A.mks.length:=by
 intro h
 induction h with
 |@held n hh=>
  have hh:(A.hd++[true])[n]?=some true:=hh
  rcases Nat.lt_or_ge n A.hd.length with c|c
  ·rw[List.getElem?_append_left c] at hh;exact .inl (.held hh)
  ·have:=(List.getElem?_eq_some_iff.1 hh).1
   rw[List.length_append] at this
   have:n<A.hd.length+1:=this
   have:=hA.lh
   exact .inr (by omega)
 |@val a m w ha hw hp e ih=>
  rw[jcg] at hw
  rcases ih with ih|ih
  ·exact .inl (.val ih hw hp e)
  ·subst ih
   unfold AS.val at hw
   rw[List.getD_eq_getElem?_getD,List.getElem?_eq_none (by rw[hA.lv];exact Nat.le_refl _)] at hw
   simp at hw
theorem Rep.make (h:Rep A F AT){mark:Int}(hm:0≤mark∧mark<2147483648)(hl:F.length+1≤2000)(hn:A.mks.length<100):Rep (jdY A mark) (F++[mark*4294967296]) (AT++[(F.length:Int)]):=by
 have hA:=h.ok
 have hmem: ∀n,Rch A n→n<A.mks.length:=fun n hn=>hn.lt hA
 have hat: ∀n,n<A.mks.length→atP (AT++[(F.length:Int)]) n=atP AT n:=fun n hn=>by
  unfold atP;rw[List.getD_eq_getElem?_getD,List.getElem?_append_left (by rw[h.la];exact hn),List.getD_eq_getElem?_getD]
 have hat1:atP (AT++[(F.length:Int)]) A.mks.length=(F.length:Int):=by
  unfold atP;rw[List.getD_eq_getElem?_getD,← h.la,List.getElem?_append_right (Nat.le_refl _),Nat.sub_self];rfl
 have hat2: ∀n,A.mks.length<n→atP (AT++[(F.length:Int)]) n= -1:=fun n hn=>jjk (by simp;rw[h.la];omega)
 have hlg:lng (mark*4294967296)=0:=by unfold lng;omega
 have o1:objs [mark*4294967296] 0=[0]:=by rw[objs];simp[hlg];rw[objs];simp
 have o2:Whole [mark*4294967296]:=by unfold Whole;rw[jaq];simp[hlg];rw[jaq];simp
 have hob:=(jcp (P:=F) (Q:=[mark*4294967296]) h.he).1
 rw[o1] at hob
 have hob:objs (F++[mark*4294967296]) 0=objs F 0++[F.length]:=hob
 have hsub: ∀a∈objs F 0,a∈objs (F++[mark*4294967296]) 0:=fun a ha=>by rw[hob];exact List.mem_append_left _ ha
 have hlt: ∀n,0≤atP AT n→(atP AT n).toNat<F.length:=fun n hn=>(h.fit hn).1
 have hAok:AOk (jdY A mark):=by
  refine⟨by show (A.vs++[[]]).length=(A.mks++[mark]).length;rw[List.length_append,List.length_append,hA.lv];rfl,by show (A.hd++[true]).length=(A.mks++[mark]).length;rw[List.length_append,List.length_append,hA.lh];rfl,by show (A.mks++[mark]).length≤100;rw[List.length_append];show A.mks.length+1≤100;omega,fun x hx=>?_,fun n hn=>?_,fun n hn w hw=>?_⟩
  ·rcases List.mem_append.1 hx with hx|hx
   ·exact hA.mkr x hx
   ·rw[List.mem_singleton.1 hx];exact hm
  ·rw[jcg]
   rcases jgC hA hn with c|c
   ·exact hA.vl n c
   ·subst c;unfold AS.val;rw[List.getD_eq_getElem?_getD,List.getElem?_eq_none (by rw[hA.lv];exact Nat.le_refl _)];simp
  ·rw[jcg] at hw
   rcases jgC hA hn with c|c
   ·obtain⟨q1,q2,q3⟩:=hA.vr n c w hw
    exact⟨q1,q2,fun hp=>⟨(q3 hp).1,by have:=(q3 hp).2;show _<((A.mks++[mark]).length:Int);rw[List.length_append];omega⟩⟩
   ·subst c;unfold AS.val at hw;rw[List.getD_eq_getElem?_getD,List.getElem?_eq_none (by rw[hA.lv];exact Nat.le_refl _)] at hw;simp at hw
 refine⟨hAok,by show (AT++[(F.length:Int)]).length=(A.mks++[mark]).length;rw[List.length_append,List.length_append,h.la];rfl,Whole.app h.he o2,jq7 fun j v hj hjo=>?_,by rw[List.length_append];exact hl,h.u.app fun w hw=>by rw[List.mem_singleton.1 hw];omega,fun i j hi e=>?_,fun i=>?_,fun n hn=>?_⟩
 ·have hjl:=(List.getElem?_eq_some_iff.1 hj).1
  rw[List.length_append] at hjl
  have hjl:j<F.length+1:=hjl
  rw[hob,List.mem_append,not_or] at hjo
  have hjf:j≠F.length:=by simpa using hjo.2
  rw[List.getElem?_append_left (by omega)] at hj
  exact jlB hsub (h.okAt j v hj hjo.1)
 ·rcases Nat.lt_trichotomy i A.mks.length with c|c|c
  ·rw[hat i c] at hi e
   rcases Nat.lt_trichotomy j A.mks.length with d|d|d
   ·rw[hat j d] at e;exact h.inj i j hi e
   ·subst d;rw[hat1] at e;have:=hlt i hi;omega
   ·rw[hat2 j d] at e;omega
  ·subst c
   rw[hat1] at e
   rcases Nat.lt_trichotomy j A.mks.length with d|d|d
   ·rw[hat j d] at e;have:=hlt j (by omega);omega
   ·exact d.symm
   ·rw[hat2 j d] at e;omega
  ·rw[hat2 i c] at hi;omega
 ·rcases Nat.lt_trichotomy i A.mks.length with c|c|c
  ·rw[hat i c];exact (h.obj i).imp_right fun q=>⟨q.1,hsub _ q.2⟩
  ·subst c;rw[hat1,hob];exact .inr ⟨by omega,by simp⟩
  ·exact .inl (hat2 i c)
 ·rcases jgC hA hn with c|c
  ·obtain⟨d1,d2,d3⟩:=h.cell n c
   have hnl:=hmem n c
   rw[hat n hnl,jcg]
   have hmk:(jdY A mark).mks.getD n 0=A.mks.getD n 0:=by
    show (A.mks++[mark]).getD n 0=_
    rw[List.getD_eq_getElem?_getD,List.getElem?_append_left hnl,List.getD_eq_getElem?_getD]
   refine⟨d1,by rw[hmk,List.getElem?_append_left (hlt n d1)];exact d2,fun i w hi=>?_⟩
   have hx:=d3 i w hi
   have hxl:=(List.getElem?_eq_some_iff.1 hx).1
   rw[List.getElem?_append_left hxl,hx]
   congr 1
   unfold mapP
   split
   ·rename_i hp
    obtain⟨m,em,hm2,_⟩:=h.ref c (List.mem_of_getElem? hi) hp
    rw[em,Int.toNat_natCast,hat m (hmem m hm2)]
   ·rfl
  ·subst c
   have hv:(jdY A mark).val A.mks.length=[]:=by
    rw[jcg];unfold AS.val;rw[List.getD_eq_getElem?_getD,List.getElem?_eq_none (by rw[hA.lv];exact Nat.le_refl _)];rfl
   have hmk:(jdY A mark).mks.getD A.mks.length 0=mark:=by
    show (A.mks++[mark]).getD _ 0=_
    rw[List.getD_eq_getElem?_getD,List.getElem?_append_right (Nat.le_refl _),Nat.sub_self];rfl
   rw[hat1,hv,hmk]
   refine⟨by omega,?_,fun i w hi=>by simp at hi⟩
   rw[Int.toNat_natCast,List.getElem?_append_right (Nat.le_refl _),Nat.sub_self]
   simp
theorem Rep.hold (h:Rep A F AT){hd:List Bool}(hl:hd.length=A.hd.length)(hs: ∀n,hd[n]?=some true→Rch A n):Rep ⟨A.mks,A.vs,hd⟩ F AT:=by
 have hr: ∀{n},Rch ⟨A.mks,A.vs,hd⟩ n→Rch A n:=fun {n} hn=>by
  induction hn with
  |held hh=>exact hs _ hh
  |val ha hw hp e ih=>exact .val ih hw hp e
 have hA:=h.ok
 exact⟨⟨hA.lv,by show hd.length=_;rw[hl];exact hA.lh,hA.n100,hA.mkr,fun n hn=>hA.vl n (hr hn),fun n hn=>hA.vr n (hr hn)⟩,h.la,h.he,h.hw,h.hl,h.u,h.inj,h.obj,fun n hn=>h.cell n (hr hn)⟩
theorem Rep.nil:Rep ⟨[],[],[]⟩ [] []:=by
 have hn: ∀{n},¬ Rch ⟨[],[],[]⟩ n:=fun {n} h=>by
  induction h with
  |held h=>simp at h
  |val _ _ _ _ ih=>exact ih
 exact⟨⟨rfl,rfl,by simp,by simp,fun n h=>absurd h hn,fun n h=>absurd h hn⟩,rfl,by rw[jaq];simp,by simp[okW],by simp,fun w hw=>by simp at hw,fun i j h=>by simp[atP] at h,fun i=> .inl (by simp[atP]),fun n h=>absurd h hn⟩
end Go.Proofs.YtjaahfncbechnaaGreatDoor
