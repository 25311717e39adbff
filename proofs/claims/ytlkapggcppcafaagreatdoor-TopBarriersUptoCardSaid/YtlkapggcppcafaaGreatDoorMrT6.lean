/-
  ZM: loops over a list; what is left behind a call.
-/
import Derived.Test.YtlkapggcppcafaaGreatDoorMrT5
set_option linter.unusedVariables false
set_option linter.unusedSimpArgs false
open And renaming intro→P3
open Bool renaming false_eq_true→N6,and_eq_true→U2,false_or→P6,not_eq_false'→P7,not_false→P8,not_true→P9,true_eq_false→S3,not_eq_false→S4,not_eq_true'→A9,or_self→Z3
open Iff renaming rfl→I7
open List renaming contains_iff_mem→B2,mem_append→O3,mem_cons→A4,all_eq_true→N2,mem_of_getElem?→R5,getElem?_eq_some_iff→U0,getElem?_take→O8,length_take→C4,getElem?_append_left→V5,getElem?_set→M1,length_drop→C5,mem_of_mem_drop→M7,getElem?_append_right→N0,length_append→G3,length_cons→Q3,length_nil→G9,getD_eq_getElem?_getD→C0,replicate→O6,map_cons→B6,set_append_right→B7,getElem?_eq_getElem→U1,getElem?_drop→O9,nil_append→B8,getElem_take→B9,getElem_drop→P0,mem_append_left→A7,mem_map_of_mem→P1,take_of_length_le→I5,drop_zero→W1,length_map→P2,getElem?_map→U8,filter_cons→P4,filter_nil→P5,getD_cons_zero→S5,getD_cons_succ→S6,append_nil→A0,length_set→D5,set_cons_zero→S8,set_cons_succ→S9,append_assoc→M8,cons_append→N9,take_zero→F3,take_succ_cons→F4,drop_succ_cons→W4,getElem?_cons_zero→F5,getElem?_cons_succ→Q5,flatten_cons→D6,flatten_nil→F7,contains_cons→F8,contains_nil→F9,lookup_cons→Z0,lookup_nil→Z1,singleton_append→Z2,mem_append_right→A8,mem_filter→J7,mem_filterMap→D0,mem_range→R0
open Nat renaming le_trans→V3,sub_self→B4,mul_le_mul_right→E9,le_refl→V2,zero_add→C8,lt_of_lt_of_le→V0,add_eq_zero_iff→F6
open Option renaming map_some→U9,map_none→S7
open Option.some renaming injEq→U4
open Prod.mk renaming injEq→O4
namespace Go.Proofs.YtlkapggcppcafaaGreatDoor
open Ext renaming refl→B5
open ZRs renaming toTuple→B3
section
open Go Go.RowKit
variable {fl L:Nat→Bool}{w:Wd}{S:ZS}{s:jal}{H:ZH}{X:XT}{F:FuncId→Option jbq}{G:Gh}
abbrev Z64 (n:Int):ZV:= .val (.int .i64 n)
abbrev ZBo (b:Bool):ZV:= .val (.bool b)
theorem jta {base:Nat}{rs:List Nat}{pr:Option (List Nat)}{dst:Option Nat}{op:AOp}{l:List jav}{K:ZS→ZH→Prop}(h:z1c X F L none (zlit G dst) S H (zgo G dst fun z H'=>zO X F G L base rs pr l (zput S dst z) H' K) op):zO X F G L base rs pr (⟨dst,op,none,true⟩::l) S H K:=by
 simp only[zO,jgV];exact⟨fun _=>by simpa using h,fun q=>by cases q⟩
theorem zW_range {B Cn tc ti tl tn:Nat}{body:jam}{K:jaA→ZS→ZH→Prop}(N:Nat)(hN:N<9223372036854775807)(hG:G.own.lookup tc=none∧G.own.lookup tn=none∧G.own.lookup ti=none∧G.frz.contains tc=false∧G.frz.contains tn=false∧G.frz.contains ti=false)(hti:S ti=Z64 (0:Nat))(htl:S tl=Z64 N)(h1:tl∉wrs body)(h2:ti∉wrs body)(h3:tc≠ti∧tc≠tl∧tn≠ti∧tn≠tl∧ti≠tl)
  (I:Nat→ZS→ZH→Prop) (h0:I 0 S H)
  (round: ∀k s' h',k<N→I k s' h'→s' ti=Z64 k→s' tl=Z64 N→(∀t,t∉wrs body→t≠tc→t≠ti→t≠tn→s' t=S t)→
   zW X F G L body (zupd s' tc (ZBo true)) h' (jdF Cn (jhF (fun s2 h2=>I (k+1) (zupd (zupd s2 tn (Z64 (k+1:Nat))) ti (Z64 (k+1:Nat))) h2) (jdF B K))))
  (done: ∀s' h',I N s' h'→(∀t,t∉wrs body→t≠tc→t≠ti→t≠tn→s' t=S t)→K .normal (zupd s' tc (ZBo false)) h'):zW X F G L (jau B Cn tc ti tl tn body) S H K:=by
 obtain⟨c1,c2,c3,c4,c5⟩:=h3;obtain⟨g1,g2,g3,g4,g5,g6⟩:=hG;have gc: ∀{K:ZV→ZH→Prop} {z H},zgo G (some tc) K z H=K z H:=by intro K z H;simp only[zgo,g1,g4,N6,if_false]
 have gn: ∀{K:ZV→ZH→Prop} {z H},zgo G (some tn) K z H=K z H:=by intro K z H;simp only[zgo,g2,g5,N6,if_false]
 have gi: ∀{K:ZV→ZH→Prop} {z H},zgo G (some ti) K z H=K z H:=by intro K z H;simp only[zgo,g3,g6,N6,if_false]
 show zW X F G L (.loop _) S H (jdF B K);refine jpO (fun n s' h'=> ∃k,n=N - k∧k≤N∧I k s' h'∧s' ti=Z64 k∧s' tl=Z64 N) N ⟨0,by omega,Nat.zero_le _,h0,hti,htl⟩ fun n s' h' hI hs=>?_
 obtain⟨k,rfl,hk,hIk,hik,hlk⟩:=hI;have hst: ∀t,t∉wrs body→t≠tc→t≠ti→t≠tn→s' t=S t:=fun t q1 q2 q3 q4=>hs t (by simp[wrs,q1,q2,q3,q4])
 show zO X F G L _ _ _ _ s' h' _;refine jta ?_;refine⟨.int .i64 k,.int .i64 N,.bool (decide (k<N)),by simp[zev,hik],by simp[zev,hlk],by simp[binV],?_⟩;rw[gc];show zW X F G L (.seq _ _) _ h' _;refine⟨decide (k<N),by simp[zev,zput,zupd],fun ht=>?_,fun hf=>?_⟩
 ·have hlt:k<N:=by simpa using ht
  show zW X F G L (.seq _ _) _ h' _;rw[ht];show zW X F G L body (zupd s' tc (ZBo true)) h' (jdF Cn _);refine zW_frame (js6 (fun x s2 h2' _ kk hfr=>?_) (round k s' h' hlt hIk hik hlk hst));have e1:s2 ti=Z64 k:=by rw[hfr ti (by simpa[wrs] using h2)];simp only[zupd];rw[if_neg (Ne.symm c1)];exact hik
  have e2:s2 tl=Z64 N:=by rw[hfr tl (by simpa[wrs] using h1)];simp only[zupd];rw[if_neg (Ne.symm c2)];exact hlk
  have go:I (k+1) (zupd (zupd s2 tn (Z64 (k+1:Nat))) ti (Z64 (k+1:Nat))) h2'→zW X F G L (.ops [⟨some tn,.bin .add (.tmp ti) (.av (.val (.int .i64 1))),none,true⟩,⟨some ti,.mv (.tmp tn),none,true⟩]) s2 h2'
    (jhF (fun s2 h2=> ∃m,m<N - k∧ ∃k,m=N - k∧k≤N∧I k s2 h2∧s2 ti=Z64 k∧s2 tl=Z64 N) (jdF B K)):=by
   intro hI2;have w1:IntKind.i64.wrap ((k:Int)+1)=((k+1:Nat):Int):=by rw[IntWalk.i64_in _ (by omega)];omega
   refine jta ⟨.int .i64 k,.int .i64 1,.int .i64 (k+1:Nat),by simp[zev,e1],by simp[zev],by simp[binV,w1],?_⟩;rw[gn];refine jta ⟨Z64 (k+1:Nat),by simp[zev,zput,zupd],?_⟩;rw[gi];exact⟨N - (k+1),by omega,k+1,rfl,by omega,hI2,by simp[zput,zupd],by simp[zput,zupd,Ne.symm c4,Ne.symm c5,e2]⟩
  cases x with
  |normal=>exact go kk
  |exit j=>
   simp only[jdF] at kk ⊢;by_cases hj:j=Cn
   ·rw[if_pos hj] at kk ⊢;exact go kk
   ·rw[if_neg hj] at kk ⊢;exact kk
  |ret=>exact kk
 ·have hge:k=N:=by
   have: ¬k<N:=by simpa using hf
   omega
  subst hge;show (if B=B then K .normal _ h' else _);rw[if_pos rfl,hf];exact done s' h' hIk hst
theorem zW_for {B Cn tc ti tl tn:Nat}{body:jam}{K:jaA→ZS→ZH→Prop}(N:Nat)(hN:N<9223372036854775807)(hG:G.own.lookup tc=none∧G.own.lookup tn=none∧G.own.lookup ti=none∧G.frz.contains tc=false∧G.frz.contains tn=false∧G.frz.contains ti=false)(hti:S ti=Z64 (0:Nat))(htl:S tl=Z64 N)(h1:(wrs body).contains tl=false)(h2:(wrs body).contains ti=false)(h3:tc≠ti∧tc≠tl∧tn≠ti∧tn≠tl∧ti≠tl)
  (I:Nat→ZS→ZH→Prop) (h0:I 0 S H)
  (round: ∀k s' h',k<N→I k s' h'→s' ti=Z64 k→s' tl=Z64 N→(∀t,(wrs body++[tc,ti,tn]).contains t=false→s' t=S t)→
   zW X F G L body (zupd s' tc (ZBo true)) h' (jdF Cn (jhF (fun s2 h2=>I (k+1) (zupd (zupd s2 tn (Z64 (k+1:Nat))) ti (Z64 (k+1:Nat))) h2) (jdF B K))))
  (done: ∀s' h',I N s' h'→(∀t,(wrs body++[tc,ti,tn]).contains t=false→s' t=S t)→K .normal (zupd s' tc (ZBo false)) h'):zW X F G L (jau B Cn tc ti tl tn body) S H K:=by
 have hc: ∀(l:List Nat) t,l.contains t=false→t∉l:=fun l t h hm=>by
  have:=B2.2 hm;rw[h] at this;cases this
 have hcc: ∀(s':ZS),(∀t,t∉wrs body→t≠tc→t≠ti→t≠tn→s' t=S t)→ ∀t,(wrs body++[tc,ti,tn]).contains t=false→s' t=S t:=fun s' hs t ht=>by
  have:=hc _ _ ht;simp only[O3,A4,List.not_mem_nil,or_false,not_or] at this;exact hs t this.1 this.2.1 this.2.2.1 this.2.2.2
 exact zW_range N hN hG hti htl (hc _ _ h1) (hc _ _ h2) h3 I h0 (fun k s' h' a b c d e=>round k s' h' a b c d (hcc s' e)) (fun s' h' a b=>done s' h' a (hcc s' b))
/-! ### What is left -/
def Fin (H0:ZH)(z:ZV)(H':ZH)(K:ZV→ZH→Prop):Prop:= ∀(fl L:Nat→Bool) (w w':Wd) (a:AV),ZRel fl L w→w.H=H0→ZRel fl L w'→Ext w w'→w'.H=H'→ZR w' z a→PK fl L w K a w'.h
theorem Fin.keep {H0:ZH}{z:ZV}{H':ZH}{K:ZV→ZH→Prop}(k:K z H'):Fin H0 z H' K:=fun fl L w w' a r e r' e' he hz=>⟨z,w',rfl,r',e',hz,he▸k⟩
def jcT (n:Nat):ZV→Bool
  | .own i _ _ _ _=>decide (i<n)
  | .ptr i _=>decide (i<n)
  | .eptr i _ _ _=>decide (i<n)
  | .mp i=>decide (i<n)
  | .val _=>true
  | .fz _ _ _=>true
  | .fptr _ _ _ _=>true
  | .func _ caps=>caps.isEmpty
  |_=>false
def refs2 (n:Nat):ZV→Bool
  | .agg cs=>cs.all (jcT n)
  |z=>jcT n z
def refs (n:Nat):ZV→Bool
  | .agg cs=>cs.all (jcT n)
  | .tuple cs=>cs.all (jcT n)||cs.all (refs2 n)
  | .func _ cs=>cs.all (jcT n)
  |z=>jcT n z
def jom (n:Nat):ZB→Bool
  | .box cs=>cs.all (jcT n)
  | .grow _ _ rows=>rows.flatten.all (jcT n)
  | .dead=>true
structure Ren (w w2:Wd)(n:Nat):Prop where
  fr:w2.Fr=w.Fr
  h:w2.h=w.h
  lt: ∀j,j<n→w2.mu j=w.mu j
  get: ∀(j:Nat) B,j<n→(w2.H[j]?=some B↔w.H[j]?=some B)
  ge: ∀j p,n≤j→w2.mu j=some p→ ∃i p0,n≤i∧w.mu i=some p0∧p0.1=p.1
  len:n≤w2.H.length
section
variable {w2:Wd}{n:Nat}
theorem Jk.ren (R:Ren w w2 n){i:Nat}(hi:i<n){a:AV}(h:Jk w i a):Jk w2 i a:=fun id hid=>by
 obtain⟨h1,h2⟩:=h id hid;refine⟨by rw[R.h];exact h1,fun j p hp e=>?_⟩;by_cases hj:j<n
 ·rw[R.lt j hj] at hp;exact h2 j p hp e
 ·obtain⟨j0,p0,q1,q2,q3⟩:=R.ge j p (by omega) hp
  have:=h2 j0 p0 q2 (q3.trans e);omega
theorem Hdr.ren (R:Ren w w2 n){i k:Nat}(hi:i<n){rows:List (List ZV)}{off len:Nat}{ex:Bool}{a:AV}(h:Hdr w i k rows off len ex a):Hdr w2 i k rows off len ex a:=by
 rcases h with⟨h1,h2,h3,h4,h5⟩|⟨id,b,lb,ex',row,h1,h2⟩
 ·exact .inl ⟨(R.lt i hi).trans h1,h2,h3,h4,by rw[R.fr,R.h];exact h5⟩
 ·exact .inr ⟨id,b,lb,ex',row,(R.lt i hi).trans h1,by rw[R.h];exact h2⟩
theorem ZR.ren1 (R:Ren w w2 n){z:ZV}{a:AV}(hz:ZR w z a)(hr:jcT n z=true):ZR w2 z a:=by
 have hlen:=R.len
 cases hz with
 |fr hf=>exact .fr (by rw[R.fr,R.h];exact hf)
 |@ptr i o id cs h1 h2=>
  have hi:i<n:=by simpa[jcT] using hr
  exact .ptr ((R.get _ _ hi).2 h1) ((R.lt _ hi).trans h2)
 |@mp i id cs h1 h2=>
  have hi:i<n:=by simpa[jcT] using hr
  exact .mp ((R.get _ _ hi).2 h1) ((R.lt _ hi).trans h2)
 |@own i g off len ex a h1 h2 h3 h4=>
  have hi:i<n:=by simpa[jcT] using hr
  exact .own (by omega) (fun g' k rows hb=>⟨(h2 _ _ _ ((R.get _ _ hi).1 hb)).1,fun e=>((h2 _ _ _ ((R.get _ _ hi).1 hb)).2 e).ren R hi⟩) (h3.ren R hi) h4
 |@eptr i g e o id x h1 h2 h3=>
  have hi:i<n:=by simpa[jcT] using hr
  refine .eptr (by omega) (fun g' k rows hb=>⟨(h2 _ _ _ ((R.get _ _ hi).1 hb)).1,fun e=>?_⟩) (h3.ren R hi);obtain⟨b,q1,q2⟩:=(h2 _ _ _ ((R.get _ _ hi).1 hb)).2 e;exact⟨b,(R.lt _ hi).trans q1,q2⟩
 |fptr h1 h2=>exact .fptr (by rw[R.fr,R.h];exact h1) h2
 |agg h1 h2=>simp[jcT] at hr
 |tuple h1 h2=>simp[jcT] at hr
 |func h1 h2=>
  simp only[jcT,List.isEmpty_iff] at hr;subst hr;exact .func h1 (fun i z a h=>by simp at h)
 |bfunc h1 h2 h3 h4=>simp[jcT] at hr
theorem ZRs.ren (R:Ren w w2 n){zs:List ZV}{ys:List AV}(h:ZRs w zs ys)(hr:zs.all (jcT n)=true):ZRs w2 zs ys:=⟨h.1,fun i z a h1 h2=>(h.2 i z a h1 h2).ren1 R (N2.1 hr z (R5 h1))⟩
theorem ZR.ren2 (R:Ren w w2 n){z:ZV}{a:AV}(hz:ZR w z a)(hr:refs2 n z=true):ZR w2 z a:=by
 by_cases hc: ∃cs,z= .agg cs
 ·obtain⟨cs,rfl⟩:=hc
  obtain⟨ys,rfl,h⟩:=hz.agg_inv;exact (h.ren R hr).toAgg
 ·refine hz.ren1 R ?_
  unfold refs2 at hr;split at hr
  ·exact absurd ⟨_,rfl⟩ hc
  ·exact hr
theorem ZR.ren (R:Ren w w2 n){z:ZV}{a:AV}(hz:ZR w z a)(hr:refs n z=true):ZR w2 z a:=by
 cases hz with
 |agg h1 h2=>exact (ZRs.ren R ⟨h1,h2⟩ hr).toAgg
 |tuple h1 h2=>
  simp only[refs,Bool.or_eq_true] at hr;rcases hr with hr|hr
  ·exact (ZRs.ren R ⟨h1,h2⟩ hr).toTuple
  ·exact .tuple h1 fun i z a e1 e2=>(h2 i z a e1 e2).ren2 R (N2.1 hr z (R5 e1))
 |func h1 h2=>exact (ZRs.ren R ⟨h1,h2⟩ hr).toFunc
 |bfunc h1 h2 h3 h4=>simp[refs,jcT] at hr
 |fr hf=>exact (ZR.fr hf).ren1 R (by cases hf<;>rfl)
 |ptr h1 h2=>exact (ZR.ptr h1 h2).ren1 R hr
 |mp h1 h2=>exact (ZR.mp h1 h2).ren1 R hr
 |own h1 h2 h3 h4=>exact (ZR.own h1 h2 h3 h4).ren1 R hr
 |eptr h1 h2 h3=>exact (ZR.eptr h1 h2 h3).ren1 R hr
 |fptr h1 h2=>exact (ZR.fptr h1 h2).ren1 R rfl
theorem ZR.renO {w0:Wd}(e:Ext w0 w)(R:Ren w w2 w0.H.length){z:ZV}{a:AV}(hz:ZR w z a): ∀{a0:AV},ZR w0 z a0→ZR w2 z a:=by
 have hl:=e.Hl;have hlen:=R.len;induction hz with
 |fr hf=>exact fun _=> .fr (by rw[R.fr,R.h];exact hf)
 |ptr h1 h2=>
  intro a0 h0;obtain⟨_,cs,_,q,_⟩:=h0.ptr_inv;exact (ZR.ptr h1 h2).ren1 R (by simpa[jcT] using (U0.1 q).1)
 |mp h1 h2=>
  intro a0 h0;obtain⟨_,cs,_,q,_⟩:=h0.mp_inv;exact (ZR.mp h1 h2).ren1 R (by simpa[jcT] using (U0.1 q).1)
 |own h1 h2 h3 h4=>
  intro a0 h0;have hi:_<w0.H.length:=h0.owner_lt _ (by simp[jaa];rfl);exact (ZR.own h1 h2 h3 h4).ren1 R (by simpa[jcT] using hi)
 |eptr h1 h2 h3=>
  intro a0 h0;have hi:_<w0.H.length:=h0.owner_lt _ (by simp[jaa];rfl);exact (ZR.eptr h1 h2 h3).ren1 R (by simpa[jcT] using hi)
 |fptr h1 h2=>exact fun _=>(ZR.fptr h1 h2).ren1 R rfl
 |agg h1 h2 ih=>
  intro a0 h0;obtain⟨ys,_,h3⟩:=h0.agg_inv;exact .agg h1 fun i z a hz ha=>by obtain⟨b,_,hb⟩:=h3.get hz;exact ih i z a hz ha hb
 |tuple h1 h2 ih=>
  intro a0 h0;obtain⟨ys,_,h3⟩:=h0.tuple_inv;exact .tuple h1 fun i z a hz ha=>by obtain⟨b,_,hb⟩:=h3.get hz;exact ih i z a hz ha hb
 |func h1 h2 ih=>
  intro a0 h0;obtain⟨ys,_,h3⟩:=h0.func_inv;exact .func h1 fun i z a hz ha=>by obtain⟨b,_,hb⟩:=h3.get hz;exact ih i z a hz ha hb
 |bfunc h1 h2 _ _ ih ih2=>
  intro a0 h0;obtain⟨ys,us,_,h3,h4⟩:=h0.bfunc_inv;exact .bfunc h1 h2 (fun i z a hz ha=>by obtain⟨b,_,hb⟩:=h3.get hz;exact ih i z a hz ha hb) (fun i z a hz ha=>by obtain⟨b,_,hb⟩:=h4.get hz;exact ih2 i z a hz ha hb)
end
theorem ren_w {w0 w w2:Wd}(r0:ZRel fl L w0)(r:ZRel fl L w)(e:Ext w0 w)(R:Ren w w2 w0.H.length)(hm: ∀(i:Nat) B,i<w0.H.length→w.H[i]?=some B→w0.H[i]?=some B∨jom w0.H.length B=true)
  (dom: ∀i p,w2.mu i=some p→i<w2.H.length) (inj: ∀i j p q,w2.mu i=some p→w2.mu j=some q→p.1=q.1→i=j)
  (hx: ∀(i:Nat) B,w0.H.length≤i→w2.H[i]?=some B→ ∃g k rows,B= .grow g k rows∧(∀r∈rows,r.length=k)∧((w2.mu i=none∧rows=[])∨ ∃id b row,w2.mu i=some (id,b)∧blk w2.h id=some row∧b+rows.length*k≤row.length∧ZRs w2 rows.flatten ((row.drop b).take (rows.length*k)))):ZRel fl L w2∧Ext w0 w2:=by
 obtain⟨n,hn⟩: ∃n,n=w0.H.length:=⟨_,rfl⟩;have old: ∀{zs:List ZV} {ys ys0:List AV},ZRs w zs ys→ZRs w0 zs ys0→ZRs w2 zs ys:=fun h h0=>⟨h.1,fun i z a h1 h2=>by obtain⟨b,_,hb⟩:=h0.get h1;exact (h.2 i z a h1 h2).renO e R hb⟩
 have hmu: ∀i p,w2.mu i=some p→ ∃i0 p0,w.mu i0=some p0∧p0.1=p.1∧(i<w0.H.length→i0=i∧p0=p)∧(w0.H.length≤i→w0.H.length≤i0):=fun i p h=>by
  by_cases hi:i<w0.H.length
  ·rw[R.lt i hi] at h;exact⟨i,p,h,rfl,fun _=>⟨rfl,rfl⟩,fun q=>by omega⟩
  ·obtain⟨i0,p0,q1,q2,q3⟩:=R.ge i p (by omega) h
   exact⟨i0,p0,q2,q3,fun q=>absurd q hi,fun _=>q1⟩
 refine ⟨⟨by rw [R.h]; exact r.fresh, fun i h => r0.lfresh i (V3 R.len h), by rw [R.fr, R.h]; exact r.frlt, dom, inj, fun i p h => ?_, fun i p h hl => ?_, fun i cs h => ?_, fun i g k rows h => ?_⟩,
  ⟨by rw[R.fr];exact e.frm,by rw[R.h];exact e.frb,by rw[R.h];exact e.hl,R.len,fun i p h=>?_,fun i cs h=>?_,fun i cs hi h=>e.boxr i cs hi ((R.get i _ hi).1 h),fun i g k rows hi h=>?_⟩⟩
 ·obtain⟨i0,p0,q1,q2,_⟩:=hmu i p h
  rw[R.fr,R.h,← q2];exact r.nfr i0 p0 q1
 ·obtain⟨i0,p0,q1,q2,q3,q4⟩:=hmu i p h
  rw[←q2];by_cases hi:i<w0.H.length
  ·rw[(q3 hi).1] at q1;exact r.wr i p0 q1 hl
  ·exact r.wr i0 p0 q1 (r0.lfresh i0 (q4 (by omega)))
 ·by_cases hi:i<w0.H.length
  ·have hb:=(R.get i _ hi).1 h
   obtain⟨id,row,h1,h2,h3⟩:=r.box i cs hb;refine⟨id,row,(R.lt i hi).trans h1,by rw[R.h];exact h2,?_⟩;rcases hm i _ hi hb with h4|h4
   ·obtain⟨_,row0,_,_,h5⟩:=r0.box i cs h4
    exact old h3 h5
   ·exact h3.ren R h4
  ·obtain⟨g,k,rows,q,_⟩:=hx i _ (by omega) h
   cases q
 ·by_cases hi:i<w0.H.length
  ·have hb:=(R.get i _ hi).1 h
   obtain⟨h0,h1|⟨id,b,row,h1,h2,h3,h4⟩⟩:=r.grow i g k rows hb
   ·exact⟨h0,.inl ⟨(R.lt i hi).trans h1.1,h1.2⟩⟩
   ·refine⟨h0,.inr ⟨id,b,row,(R.lt i hi).trans h1,by rw[R.h];exact h2,h3,?_⟩⟩
    rcases hm i _ hi hb with h5|h5
    ·obtain⟨_,⟨_,h6⟩|⟨_,_,_,_,_,_,h6⟩⟩:=r0.grow i g k rows h5
     ·subst h6;simp at h4 ⊢;exact .nil
     ·exact old h4 h6
    ·exact h4.ren R h5
  ·obtain⟨g',k',rows',q,h1⟩:=hx i _ (by omega) h
   injection q with t1 t2 t3;subst t1;subst t2;subst t3
   exact h1
 ·obtain⟨i0,p0,q1,q2,q3,q4⟩:=hmu i p h
  rcases e.mu i0 p0 q1 with⟨p',h1,h2⟩|h1
  ·by_cases hi:i<w0.H.length
   ·rw[(q3 hi).1] at h1;exact .inl ⟨p',h1,h2.trans q2⟩
   ·have:=r0.dom i0 p' h1;have:=q4 (by omega);omega
  ·exact .inr (by omega)
 ·have hi:=(U0.1 h).1
  obtain⟨⟨cs',h1⟩,h2⟩:=e.box i cs h;exact⟨⟨cs',(R.get i _ hi).2 h1⟩,(R.lt i hi).trans h2⟩
 ·obtain⟨g0,rows0,h1,h2,h3⟩:=e.grow i g k rows hi ((R.get i _ hi).1 h)
  exact⟨g0,rows0,h1,h2,fun q=>by obtain⟨a1,a2,a3⟩:=h3 q;exact⟨(R.lt i hi).trans a1,a2,by rw[R.h];exact a3⟩⟩
def jfW (w:Wd)(n:Nat):Wd:=⟨w.Fr,fun i=>if i<n then w.mu i else none,w.H.take n,w.h⟩
theorem jis {w:Wd}{n:Nat}(hn:n≤w.H.length):Ren w (jfW w n) n:=by
 refine⟨rfl,rfl,fun j hj=>by simp[jfW,hj],fun j B hj=>?_,fun j p hj h=>?_,?_⟩
 ·show (w.H.take n)[j]?=some B↔_
  rw[O8,if_pos hj]
 ·simp only[jfW] at h
  rw[if_neg (by omega)] at h;cases h
 ·show n≤(w.H.take n).length
  rw[C4];omega
theorem jtk {w0 w:Wd}(r0:ZRel fl L w0)(r:ZRel fl L w)(e:Ext w0 w)(hm: ∀(i:Nat) B,i<w0.H.length→w.H[i]?=some B→w0.H[i]?=some B∨jom w0.H.length B=true):ZRel fl L (jfW w w0.H.length)∧Ext w0 (jfW w w0.H.length):=by
 have hl:=e.Hl;have hlen:(jfW w w0.H.length).H.length=w0.H.length:=by
  show (w.H.take _).length=_;rw[C4];omega
 have hmu: ∀i p,(jfW w w0.H.length).mu i=some p→i<w0.H.length∧w.mu i=some p:=fun i p h=>by
  simp only[jfW] at h;split at h
  ·exact⟨by assumption,h⟩
  ·cases h
 exact ren_w r0 r e (jis hl) hm (fun i p h=>by rw[hlen];exact (hmu i p h).1) (fun i j p q h1 h2=>r.inj i j p q (hmu i p h1).2 (hmu j q h2).2) fun i B hi h=>by have:=jap h;omega
def Mods (H0 H':ZH):Prop:= ∀(i:Nat) B,i<H0.length→H'[i]?=some B→H0[i]?=some B∨jom H0.length B=true
theorem Mods.ext (H0 e:ZH):Mods H0 (H0++e):=fun i B hi h=>by rw[V5 hi] at h;exact .inl h
theorem Mods.set {H0 H':ZH}(h:Mods H0 H'){j:Nat}{B:ZB}(hB:jom H0.length B=true):Mods H0 (H'.set j B):=fun i C hi hc=>by
 rw[M1] at hc;split at hc
 ·split at hc
  ·injection hc with hc;subst hc;exact .inr hB
  ·cases hc
 ·exact h i C hi hc
theorem Fin.trunc {H0:ZH}{z:ZV}{H':ZH}{K:ZV→ZH→Prop}(hm:Mods H0 H')(hz:refs H0.length z=true)(k:K z (H'.take H0.length)):Fin H0 z H' K:=fun fl L w w' a r e r' e' he hzz=>by
 subst e;subst he
 obtain⟨r2,e2⟩:=jtk r r' e' hm;exact⟨z,jfW w' w.H.length,rfl,r2,e2,hzz.ren (jis e'.Hl) hz,k⟩
theorem Fin.frz {H0:ZH}{i g off len:Nat}{ex:Bool}{H':ZH}{K:ZV→ZH→Prop}{k:Nat}{rows:List (List ZV)}(hb:H'[i]?=some (.grow g k rows))(hle:off+len≤rows.length)(hp:rows.flatten.all jbR=true)(hk:Fin H0 (.fz k ex ((rows.drop off).take len)) (H'.set i .dead) K):Fin H0 (.own i g off len ex) H' K:=fun fl L w w' a r e r' e' he hz=>by
 subst he;obtain⟨w2,e1,e2,e3,e4,e5⟩:=jeE r' hb hle hp hz;rw[←e1];exact hk fl L w w2 a r e e3 (e'.trans e4) e2 e5
theorem Fin.frzT {H0:ZH}{i g off len:Nat}{ex:Bool}{H':ZH}{K:ZV→ZH→Prop}{k:Nat}{rows:List (List ZV)}{vs:List ZV}{j:Nat}(hj:vs[j]?=some (.own i g off len ex))(hb:H'[i]?=some (.grow g k rows))(hle:off+len≤rows.length)(hp:rows.flatten.all jbR=true)(hk:Fin H0 (.tuple (vs.set j (.fz k ex ((rows.drop off).take len)))) (H'.set i .dead) K):Fin H0 (.tuple vs) H' K:=fun fl L w w' a r e r' e' he hz=>by
 subst he;obtain⟨ys,rfl,hys⟩:=hz.tuple_inv;obtain⟨y,hy,hyz⟩:=hys.get hj;obtain⟨w2,e1,e2,e3,e4,e5⟩:=jeE r' hb hle hp hyz;rw[←e1];refine hk fl L w w2 _ r e e3 (e'.trans e4) e2 (B3 ⟨by simp[hys.1],fun m z a hz' ha'=>?_⟩);have hjl:j<vs.length:=(U0.1 hj).1;by_cases hm:m=j
 ·subst hm
  rw[M1] at hz';simp[hjl] at hz';rw[hy] at ha';injection ha' with ha'
  subst hz';subst ha';exact e5
 ·rw[M1,if_neg (Ne.symm hm)] at hz'
  exact (hys.2 m z a hz' ha').ext e4
theorem own_out {w0 w:Wd}(r0:ZRel fl L w0)(r:ZRel fl L w)(e:Ext w0 w)(hm:Mods w0.H w.H){i g off len k:Nat}{ex:Bool}{rows:List (List ZV)}{a:AV}(hi:w0.H.length≤i)(hb:w.H[i]?=some (.grow g k rows))(hle:off+len≤rows.length)(hp:rows.flatten.all (jcT w0.H.length)=true)(hz:ZR w (.own i g off len ex) a):
  ∃w2,w2.h=w.h∧w2.H=w.H.take w0.H.length++[.grow 0 k ((rows.drop off).take len)]∧ZRel fl L w2∧Ext w0 w2∧ZR w2 (.own w0.H.length 0 0 len false) a∧ ∀z b,ZR w z b→refs w0.H.length z=true→ZR w2 z b:=by
 obtain⟨g0,gB⟩:=r.grow _ _ _ _ hb;have hl:=e.Hl;have hlen:((rows.drop off).take len).length=len:=by rw[C4,C5];omega
 have hall: ∀x∈(rows.drop off).take len,x.length=k:=fun x hx=>g0 x (M7 (List.mem_of_mem_take hx))
 have hHl:(w.H.take w0.H.length).length=w0.H.length:=by rw[C4];omega
 obtain⟨q,hq⟩: ∃q:Option (Nat×Nat),q=(w.mu i).map fun p=>(p.1,p.2+off*k):=⟨_,rfl⟩
 obtain⟨w2,hw2⟩: ∃w2:Wd,w2=⟨w.Fr,fun j=>if j<w0.H.length then w.mu j else if j=w0.H.length then q else none,w.H.take w0.H.length++[.grow 0 k ((rows.drop off).take len)],w.h⟩:=⟨_,rfl⟩;have f1:w2.Fr=w.Fr:=by rw[hw2]
 have f2:w2.h=w.h:=by rw[hw2]
 have f3:w2.H=w.H.take w0.H.length++[.grow 0 k ((rows.drop off).take len)]:=by rw[hw2]
 have m1:w2.mu w0.H.length=q:=by rw[hw2];simp
 have m2: ∀j,j<w0.H.length→w2.mu j=w.mu j:=fun j hj=>by rw[hw2];simp[hj]
 have m3: ∀j p,w2.mu j=some p→j<w0.H.length∨(j=w0.H.length∧q=some p):=fun j p h=>by
  rw[hw2] at h;simp only at h;split at h
  ·exact .inl (by assumption)
  ·split at h
   ·rename_i hj;exact .inr ⟨hj,h⟩
   ·cases h
 have mq: ∀p,q=some p→ ∃p0,w.mu i=some p0∧p0.1=p.1:=fun p h=>by
  rw[hq] at h
  cases hw:w.mu i with
  |none=>rw[hw] at h;cases h
  |some p0=>rw[hw] at h;injection h with h;exact⟨p0,rfl,by rw[←h]⟩
 have hnew:w2.H[w0.H.length]?=some (.grow 0 k ((rows.drop off).take len)):=by rw[f3,N0 (by omega),hHl,B4];rfl
 have R:Ren w w2 w0.H.length:=by
  refine⟨f1,f2,m2,fun j B hj=>?_,fun j p hj h=>?_,by rw[f3];simp;omega⟩
  ·rw[f3,V5 (by omega),O8,if_pos hj]
  ·rcases m3 j p h with h1|⟨_,h1⟩
   ·omega
   ·obtain⟨p0,h2,h3⟩:=mq p h1;exact⟨i,p0,hi,h2,h3⟩
 have hrows: ∀{id b:Nat} {row:List AV},w.mu i=some (id,b)→blk w.h id=some row→b+off*k+len*k≤row.length∧ZRs w2 ((rows.drop off).take len).flatten ((row.drop (b+off*k)).take (len*k)):=fun {id b row} h1 h2=>by
  rcases gB with⟨n1,_⟩|⟨id',b',row',n1,n2,n3,n4⟩
  ·rw[h1] at n1;cases n1
  ·rw[h1] at n1;injection n1 with n1;injection n1 with t1 t2;subst t1;subst t2
   rw[h2] at n2;injection n2 with n2;subst n2
   have hm2:(off+len)*k≤rows.length*k:=E9 _ hle;rw[Nat.add_mul] at hm2;have:=((n4.ren R hp).drop (off*k)).take (len*k);rw[jcy g0,jcx (fun x hx=>g0 x (M7 hx)),List.drop_take,List.drop_drop,List.take_take,Nat.min_eq_left (by omega)] at this;exact⟨by omega,this⟩
 have hgr:(w2.mu w0.H.length=none∧(rows.drop off).take len=[])∨ ∃id b row,w2.mu w0.H.length=some (id,b)∧blk w2.h id=some row∧b+((rows.drop off).take len).length*k≤row.length∧ZRs w2 ((rows.drop off).take len).flatten ((row.drop b).take (((rows.drop off).take len).length*k)):=by
  rw[m1,hq];rcases gB with⟨n1,n2⟩|⟨id,b,row,n1,n2,n3,n4⟩
  ·exact .inl ⟨by rw[n1];rfl,by rw[n2];simp⟩
  ·obtain⟨s1,s2⟩:=hrows n1 n2
   exact .inr ⟨id,b+off*k,row,by rw[n1];rfl,by rw[f2];exact n2,by rw[hlen];exact s1,by rw[hlen];exact s2⟩
 obtain ⟨r2, e2⟩ := ren_w r0 r e R hm (fun j p h => by
   rw[f3];simp only[G3,Q3,G9,hHl]
   rcases m3 j p h with h1|⟨h1,_⟩<;>omega)
  (fun j j' p p' h1 h2 he => by
   have key: ∀j p,w2.mu j=some p→ ∃i0 p0,w.mu i0=some p0∧p0.1=p.1∧((j<w0.H.length∧i0=j)∨(j=w0.H.length∧i0=i)):=fun j p h=>by
    rcases m3 j p h with h3|⟨h3,h4⟩
    ·rw[m2 j h3] at h;exact⟨j,p,h,rfl,.inl ⟨h3,rfl⟩⟩
    ·obtain⟨p0,h5,h6⟩:=mq p h4;exact⟨i,p0,h5,h6,.inr ⟨h3,rfl⟩⟩
   obtain⟨i1,p1,a1,a2,a3⟩:=key j p h1;obtain⟨i2,p2,b1,b2,b3⟩:=key j' p' h2;have:=r.inj i1 i2 p1 p2 a1 b1 (a2.trans (he.trans b2.symm));omega)
  (fun j B hj h => by
   have hj':j=w0.H.length:=by
    have:=jap h;rw[f3] at this;simp only[G3,Q3,G9,hHl] at this;omega
   subst hj';rw[hnew] at h;injection h with h;subst h
   exact⟨0,k,_,rfl,hall,hgr⟩)
 refine⟨w2,f2,f3,r2,e2,?_,fun z b hb hr=>hb.ren R hr⟩
 cases hz with
 |fr hf=>cases hf
 |own h1 h2 h3 h4=>
  rcases (h2 _ _ _ hb).2 rfl with⟨s1,rfl,rfl,rfl,hq'⟩|⟨id,b,lb,ex',row,s1,rfl,s2,s3,s4,s5,s6⟩
  ·refine jf9 r2 (k:=k) (by simpa using hnew) (by rw[m1,hq,s1];rfl) ?_
   rw[f1,f2];exact hq'
  ·have:=jiH r2 hnew (id:=id) (b:=b+off*k) (off:=0) (len:=len) (lb:=lb) (ex:=false) (ex':=ex') (row:=row) (by rw[m1,hq,s1];rfl) (by rw[f2];exact s4) (by omega) s3 (by omega) (fun h=>by cases h)
   simpa using this
theorem Fin.own {H0:ZH}{i g off len:Nat}{ex:Bool}{H':ZH}{K:ZV→ZH→Prop}{k:Nat}{rows:List (List ZV)}(hm:Mods H0 H')(hi:H0.length≤i)(hb:H'[i]?=some (.grow g k rows))(hle:off+len≤rows.length)(hp:rows.flatten.all (jcT H0.length)=true)(hk:K (.own H0.length 0 0 len false) (H'.take H0.length++[.grow 0 k ((rows.drop off).take len)])):Fin H0 (.own i g off len ex) H' K:=fun fl L w w' a r e r' e' he hz=>by
 subst e;subst he
 obtain⟨w2,e1,e2,e3,e4,e5,e6⟩:=own_out r r' e' hm hi hb hle hp hz;exact⟨_,w2,e1,e3,e4,e5,by rw[e2];exact hk⟩
/-! ### Calls -/
def zres (S:ZS)(H:ZH):ARes→Option ZV
  | .tmp t=>some (S t)
  | .cell a n=>ldZ H n (S a)
def jl3 (S:ZS)(H:ZH):List ARes→Option (List ZV)
  |[]=>some []
  |r::l=>match zres S H r,jl3 S H l with
    |some z,some zs=>some (z::zs)
    |_,_=>none
def jcn (S:ZS)(H:ZH):List ARes→Option ZV
  |[r]=>zres S H r
  |rs=>(jl3 S H rs).map .tuple
theorem jl4 (r:ZRel fl L w)(hS: ∀t,ZR w (S t) (s t)){q:ARes}{z:ZV}(h:zres S w.H q=some z): ∃a,resA s w.h q=some a∧ZR w z a:=by
 cases q with
 |tmp t=>injection h with h;subst h;exact⟨_,rfl,hS t⟩
 |cell a n=>
  obtain⟨id,off,u,e1,e2,e3⟩:=jg6 r (hS a) (show ldZ w.H n (S a)=some z from h);refine⟨u,?_,e3⟩;simp only[resA,e1]
  cases n with
  |none=>exact e2
  |some n=>
   simp only[ldA] at e2;split at e2
   ·rename_i cs hcs
    show (rd w.h id off n).map AV.agg=_;rw[hcs];exact e2
   ·cases e2
theorem jjL (r:ZRel fl L w)(hS: ∀t,ZR w (S t) (s t)): ∀{l:List ARes} {zs:List ZV},jl3 S w.H l=some zs→ ∃ys,l.mapM (resA s w.h)=some ys∧ZRs w zs ys
 |[],zs,h=>by simp only[jl3,U4] at h;subst h;exact⟨[],rfl,.nil⟩
 |q::l,zs,h=>by
  simp only[jl3] at h;split at h
  ·rename_i z zs' h1 h2
   injection h with h;subst h
   obtain⟨a,e1,e2⟩:=jl4 r hS h1;obtain⟨ys,e3,e4⟩:=jjL r hS h2;exact⟨a::ys,by simp[List.mapM_cons,e1,e3],.cons e2 e4⟩
  ·cases h
theorem jle (r:ZRel fl L w)(hS: ∀t,ZR w (S t) (s t)){l:List ARes}{z:ZV}(h:jcn S w.H l=some z): ∃a,jaR l s w.h=some a∧ZR w z a:=by
 unfold jcn at h;split at h
 ·exact jl4 r hS h
 ·rename_i hne
  cases hz:jl3 S w.H l with
  |none=>rw[hz] at h;cases h
  |some zs=>
   rw[hz] at h;simp only[U9,U4] at h;subst h;obtain⟨ys,e1,e2⟩:=jjL r hS hz;refine⟨.tuple ys,?_,e2.toTuple⟩;unfold jaR;split
   ·rename_i q;exact absurd rfl (hne q)
   ·rw[e1];rfl
theorem ZC.enter {f:FuncId}{af:jbq}{zs:List ZV}{K:ZV→ZH→Prop}(G:Gh)(hx: ∀args fl h,args.length=zs.length→X.x f args fl h=none)(hf:F f=some af)(hl:zs.length≤af.n)
  (hb:zW X F G L af.body (fun t=>zs.getD t .no) H fun x S' H'=>(x= .normal∨x= .ret)∧ ∃z,jcn S' H' af.results=some z∧Fin H z H' K):ZC X F f zs L H K:=by
 intro fl w args r e ha;subst e;refine AC.enter (hx args fl w.h ha.1.symm) hf (by rw[←ha.1];exact hl) ?_;have hS: ∀t,ZR w (zs.getD t .no) (args.getD t .no):=fun t=>by
  rw[C0,C0]
  cases hz:zs[t]? with
  |none=>
   have:args[t]?=none:=by rw[List.getElem?_eq_none_iff] at hz ⊢;rw[←ha.1];exact hz
   rw[this];exact ZRs.nil.toTuple
  |some z=>
   obtain⟨a,h1,h2⟩:=ha.get hz;rw[h1];exact h2
 refine (jpP hb fl w _ r rfl hS).mono fun x s' h' p=>?_
 obtain⟨S',w',rfl,r',e',hS',_,hxx,z,hz,hfin⟩:=p;obtain⟨a,h1,h2⟩:=jle r' hS' hz;exact⟨hxx,a,h1,hfin fl L w w' a r rfl r' e' rfl h2⟩
theorem ZC.enterL {f:FuncId}{af:jbq}{zs:List ZV}{K:ZV→ZH→Prop}(G:Gh)(hx: ∀args fl h,args.length=zs.length→X.x f args fl h=none)(hf:F f=some af)(hl:zs.length≤af.n)
  (hb:(∀k,L (H.length+k)=true)→zW X F G L af.body (fun t=>zs.getD t .no) H fun x S' H'=>(x= .normal∨x= .ret)∧ ∃z,jcn S' H' af.results=some z∧Fin H z H' K):ZC X F f zs L H K:=fun fl w args r e ha=>
 ZC.enter G hx hf hl (hb fun k=>r.lfresh _ (by rw[e];omega)) fl w args r e ha
theorem ZC.const {f:FuncId}{zs:List ZV}{K:ZV→ZH→Prop}{v:Value}(hx: ∀args fl h,args.length=zs.length→X.x f args fl h=some (.val v,h))(k:K (.val v) H):ZC X F f zs L H K:=fun fl w args r e ha=>by
 subst e;exact AC.const (hx args fl w.h ha.1.symm) ⟨.val v,w,rfl,r,B5 w,.fr (.val v),k⟩
end
section
open Go Go.RowKit
section
variable {L:Nat→Bool}{S:ZS}{H:ZH}{X:XT}{F:FuncId→Option jbq}{G:Gh}{KK:jaA→ZS→ZH→Prop}
/-! ### What goes on, held back -/
def ZgoO (X:XT)(F:FuncId→Option jbq)(G:Gh)(L:Nat→Bool)(base:Nat)(rs:List Nat)(pr:Option (List Nat))(l:List jav)(S:ZS)(dst:Option Nat)(K:ZS→ZH→Prop)(z:ZV)(H:ZH):Prop:=zO X F G L base rs pr l (zput S dst z) H K
def ZgoG (G:Gh)(dst:Option Nat)(K:ZV→ZH→Prop)(z:ZV)(H:ZH):Prop:=zgo G dst K z H
def ZgoC (X:XT)(F:FuncId→Option jbq)(G:Gh)(L:Nat→Bool)(c:jam)(K:jaA→ZS→ZH→Prop)(S:ZS)(H:ZH):Prop:=zW X F G L c S H K
section
variable {base:Nat}{rs:List Nat}{pr:Option (List Nat)}{l:List jav}{dst:Option Nat}{K:ZS→ZH→Prop}{z:ZV}{K1:ZV→ZH→Prop}{c a b:jam}{op:AOp}
theorem zgoO:ZgoO X F G L base rs pr l S dst K z H↔zO X F G L base rs pr l (zput S dst z) H K:=I7
theorem zgoG:ZgoG G dst K1 z H↔zgo G dst K1 z H:=I7
theorem zgoC:ZgoC X F G L c KK S H↔zW X F G L c S H KK:=I7
theorem zgoN:ZgoG Gh.no dst K1 z H↔K1 z H:=by cases dst<;>exact I7
theorem js3:zW X F G L .skip S H KK↔KK .normal S H:=I7
theorem zW_ops:zW X F G L (.ops l) S H KK↔zO X F G L H.length [] none l S H (KK .normal):=I7
theorem js5:zW X F G L (.opsD l) S H KK↔zO X.det F G L H.length [] none l S H (KK .normal):=I7
theorem det_mk {x:jby}{b:Bool}{pn:PX}:XT.det ⟨x,b,pn⟩=⟨x,false,pn⟩:=rfl
theorem js4:zW X F G L (.seq a b) S H KK↔zW X F G L a S H (jhF (ZgoC X F G L b KK) KK):=I7
theorem js8 {x:Opd}:zW X F G L (.cond x a b) S H KK↔ ∃t,zev S x=some (.val (.bool t))∧(t=true→zW X F G L a S H KK)∧(t=false→zW X F G L b S H KK):=I7
theorem jpR {id:Nat}:zW X F G L (.block id c) S H KK↔zW X F G L c S H (jdF id KK):=I7
theorem js7 {id:Nat}:zW X F G L (.exit id) S H KK↔KK (.exit id) S H:=I7
theorem jpQ:zW X F G L (.scope c) S H KK↔zW X F G L c S H KK:=I7
theorem zW_ret:zW X F G L .ret S H KK↔KK .ret S H:=I7
theorem ja8 {k1:ZS→ZH→Prop}:jhF k1 KK .normal S H↔k1 S H:=I7
theorem jjK {k1:ZS→ZH→Prop}{id:Nat}:jhF k1 KK (.exit id) S H↔KK (.exit id) S H:=I7
theorem jgf {k1:ZS→ZH→Prop}:jhF k1 KK .ret S H↔KK .ret S H:=I7
theorem jgh {id:Nat}:jdF id KK .normal S H↔KK .normal S H:=I7
theorem jib {id j:Nat}:jdF id KK (.exit j) S H↔(if j=id then KK .normal S H else KK (.exit j) S H):=I7
theorem jjS {id:Nat}:jdF id KK .ret S H↔KK .ret S H:=I7
theorem jew:zO X F G L base rs pr [] S H K↔K S H:=I7
def jj8:ZV→Bool→Option Bool
  | .val (.bool b),w=>some (b==w)
  | .val _,_=>some false
  | .tuple [],_=>some false
  |_,_=>none
theorem jip {b w:Bool}:jj8 (.val (.bool b)) w=some (b==w):=rfl
theorem jmy {w:Bool}:jj8 .no w=some false:=rfl
theorem js9:zO X F G L base rs pr (⟨dst,op,none,true⟩::l) S H K↔z1c X F L none (zlit G dst) S H (ZgoG G dst (ZgoO X F G L base rs pr l S dst K)) op:=by
 show je9 (some true) (if true=true then _ else _) _↔_;rw[jcN,if_pos rfl];exact I7
theorem jio {t:Nat}{wt:Bool}{iso:Bool}:jgV ⟨dst,op,some (t,wt),iso⟩ S=jj8 (S t) wt:=by
 unfold jgV jj8;simp only
 cases S t with
 |val v=>cases v<;>rfl
 |tuple l=>cases l<;>rfl
 |_=>rfl
theorem jpS {t:Nat}{wt:Bool}:zO X F G L base rs pr (⟨dst,op,some (t,wt),true⟩::l) S H K↔je9 (jj8 (S t) wt) (z1c X F L none (zlit G dst) S H (ZgoG G dst (ZgoO X F G L base rs pr l S dst K)) op) (ZgoO X F G L base rs pr l S dst K .no H):=by
 show je9 (jgV _ S) (if true=true then _ else _) _↔_;rw[jio,if_pos rfl];exact I7
def jae (X:XT)(F:FuncId→Option jbq)(G:Gh)(L:Nat→Bool)(base:Nat)(rs:List Nat)(pr:Option (List Nat))(o:jav)(l:List jav)(S:ZS)(H:ZH)(K:ZS→ZH→Prop):Prop:=
  ∃fb,jd8 rs o l S=some fb∧ ∃rs',zrs rs o S=rs'∧ ∃pr',zpr rs pr o l S=pr'∧z1c X F (fun i=>L i&& !fb.contains i) (some (base,pr)) (zlit G o.dst) S H (ZgoG G o.dst (ZgoO X F G L base rs' pr' l S o.dst K)) o.op
theorem jpT:zO X F G L base rs pr (⟨dst,op,none,false⟩::l) S H K↔jae X F G L base rs pr ⟨dst,op,none,false⟩ l S H K:=by
 show je9 (some true) (if false=true then _ else _) _↔_;rw[jcN,if_neg (by simp)];unfold jae;constructor
 ·rintro⟨fb,h1,h2⟩;exact⟨fb,h1,_,rfl,_,rfl,h2⟩
 ·rintro⟨fb,h1,_,rfl,_,rfl,h2⟩;exact⟨fb,h1,h2⟩
theorem jmt {t:Nat}{wt:Bool}:zO X F G L base rs pr (⟨dst,op,some (t,wt),false⟩::l) S H K↔je9 (jj8 (S t) wt) (jae X F G L base rs pr ⟨dst,op,some (t,wt),false⟩ l S H K) (ZgoO X F G L base rs pr l S dst K .no H):=by
 have:jae X F G L base rs pr ⟨dst,op,some (t,wt),false⟩ l S H K↔(∃fb,jd8 rs ⟨dst,op,some (t,wt),false⟩ l S=some fb∧z1c X F (fun i=>L i&& !fb.contains i) (some (base,pr)) (zlit G dst) S H (zgo G dst fun z H'=>zO X F G L base (zrs rs ⟨dst,op,some (t,wt),false⟩ S) (zpr rs pr ⟨dst,op,some (t,wt),false⟩ l S) l (zput S dst z) H' K) op):=by
  unfold jae;constructor
  ·rintro⟨fb,h1,_,rfl,_,rfl,h2⟩;exact⟨fb,h1,h2⟩
  ·rintro⟨fb,h1,h2⟩;exact⟨fb,h1,_,rfl,_,rfl,h2⟩
 rw[this];show je9 (jgV _ S) (if false=true then _ else _) _↔_;rw[jio,if_neg (by simp)];exact I7
end
/-! ### Operations -/
section
variable {top:Option (Nat×Option (List Nat))}{gl:Bool}{K:ZV→ZH→Prop}
theorem z_mv {x:Opd}:z1c X F L top gl S H K (.mv x)↔ ∃z,zev S x=some z∧K z H:=I7
theorem z_pick {c a b:Opd}:z1c X F L top gl S H K (.pick c a b)↔ ∃t x y,zev S c=some (.val (.bool t))∧zev S a=some x∧zev S b=some y∧K (if t=true then x else y) H:=I7
theorem z_box {n:Nat}{x:Opd}:z1c X F L top gl S H K (.box n x)↔ ∃z,zev S x=some z∧z.cells.length=n∧z.cells.all ZV.isCell=true∧K (.ptr H.length 0) (H++[.box z.cells]):=I7
theorem z_zero {cs:List AV}:z1c X F L top gl S H K (.zero cs)↔ ∃zs,zcs cs=some zs∧(if gl=true then K (.eptr H.length 0 0 0) (H++[.grow 0 zs.length [zs]]) else K (.ptr H.length 0) (H++[.box zs])):=I7
theorem js1 {z:List AV}{ps:List (Nat×Nat×Opd)}:z1c X F L top gl S H K (.build z ps)↔ ∃zs qs cs,zcs z=some zs∧je4 S ps=some qs∧jhK zs qs=some cs∧K (.agg cs) H:=I7
theorem z_lits {k len:Nat}{z:List AV}{ps:List (Nat×Nat×Opd)}:z1c X F L top gl S H K (.lits k len z ps)↔ ∃zs qs cs,zcs z=some zs∧je4 S ps=some qs∧jhK zs qs=some cs∧cs.length=len*k∧cs.all ZV.isCell=true∧
   (if gl=true then K (.own H.length 0 0 len true) (H++[.grow 0 k (jac len k cs)]) else cs.all jbR=true∧K (.fz k true (jac len k cs)) H):=I7
theorem z_load {n:Option Nat}{x:Opd}:z1c X F L top gl S H K (.load n x)↔ ∃z v,zev S x=some z∧topZ top z=true∧ldZ H n z=some v∧K v H:=I7
theorem jsT {n:Nat}{a v:Opd}:z1c X F L top gl S H K (.store n a v)↔ ∃p z H',zev S a=some p∧zev S v=some z∧z.cells.length=n∧z.cells.all ZV.isCell=true∧stZ L H z.cells p=some H'∧K .no H':=I7
theorem jj5 {x:Opd}:z1c X F L top gl S H K (.nilCheck x)↔ ∃z,zev S x=some z∧jhx z=true∧K z H:=I7
theorem z_bin {op:BinOp}{x y:Opd}:z1c X F L top gl S H K (.bin op x y)↔ ∃a b v,zev S x=some (.val a)∧zev S y=some (.val b)∧binV op a b=some v∧K (.val v) H:=I7
theorem jsZ {neg:Bool}{kd:Nat}{x:Opd}:z1c X F L top gl S H K (.eqNil neg kd x)↔ ∃z,zev S x=some z∧((∃b,nilZ H kd z=some b∧K (.val (.bool (if neg=true then !b else b))) H)∨((∃k ex,z= .fz k ex []∧kd=0)∧ ∀b,K (.val (.bool b)) H)):=I7
theorem jpM {neg:Bool}{x y:Opd}:z1c X F L top gl S H K (.eqBool neg x y)↔ ∃a b,zev S x=some (.val (.bool a))∧zev S y=some (.val (.bool b))∧K (.val (.bool (if neg=true then !(a==b) else a==b))) H:=I7
theorem js0 {neg:Bool}{ks:List Nat}{x y:Opd}:z1c X F L top gl S H K (.eqAgg neg ks x y)↔ ∃a b t,zev S x=some (.agg a)∧zev S y=some (.agg b)∧jf7 ks a b=some t∧K (.val (.bool (if neg=true then !t else t))) H:=I7
theorem z_un {op:UnOp}{x:Opd}:z1c X F L top gl S H K (.un op x)↔ ∃a v,zev S x=some (.val a)∧unV op a=some v∧K (.val v) H:=I7
theorem z_conv {kd:IntKind}{x:Opd}:z1c X F L top gl S H K (.conv kd x)↔ ∃k' n,zev S x=some (.val (.int k' n))∧K (.val (.int kd (kd.wrap n))) H:=I7
theorem jsY {off:Nat}{n:Option Nat}{x:Opd}:z1c X F L top gl S H K (.field off n x)↔ ∃cs v,zev S x=some (.agg cs)∧jdI cs off n=some v∧K v H:=I7
theorem jik {off:Nat}{x:Opd}:z1c X F L top gl S H K (.fieldAddr off x)↔ ∃z v,zev S x=some z∧addZ off z=some v∧K v H:=I7
theorem jij {k:Nat}{x i:Opd}:z1c X F L top gl S H K (.indexAddr k x i)↔ ∃z y j v,zev S x=some z∧zev S i=some y∧natZ y=some j∧jdd H k j z=some v∧K v H:=I7
theorem jj7 {k len:Nat}{x i:Opd}:z1c X F L top gl S H K (.indexArr k len x i)↔ ∃z y j v,zev S x=some z∧zev S i=some y∧natZ y=some j∧j<len∧addZ (j*k) z=some v∧K v H:=I7
theorem jsX {k len:Nat}{n:Option Nat}{x i:Opd}:z1c X F L top gl S H K (.index k len n x i)↔ ∃cs y j v,zev S x=some (.agg cs)∧zev S i=some y∧natZ y=some j∧j<len∧jdI cs (j*k) n=some v∧K v H:=I7
theorem jj6 {x i:Opd}:z1c X F L top gl S H K (.indexStr x i)↔ ∃t y j b,zev S x=some (.val (.string t))∧zev S i=some y∧natZ y=some j∧t[j]?=some b∧K (.val (.int .u8 b.toNat)) H:=I7
theorem jsU {k:Nat}{x:Opd}{lo hi mx:Option Opd}:z1c X F L top gl S H K (.slice k x lo hi mx)↔ ∃z n l u m v,zev S x=some z∧lenZ H z=some n∧numZ S 0 lo=some l∧numZ S n hi=some u∧numZ S n mx=some m∧cutZ H k l u m mx.isSome z=some v∧K v H:=I7
theorem jmq {k bytes:Nat}{z:List AV}{l c:Opd}:z1c X F L top gl S H K (.mkSlice k bytes z l c)↔ ∃x y a b zs,zev S l=some x∧zev S c=some y∧natZ x=some a∧natZ y=some b∧zcs z=some zs∧zs.length=k∧a≤b∧b*bytes≤reach∧K (.own H.length 0 0 a (a==b)) (H++[.grow 0 k (O6 a zs)]):=I7
theorem jms {i:Nat}{x:Opd}:z1c X F L top gl S H K (.extract i x)↔ ∃vs v,zev S x=some (.tuple vs)∧vs[i]?=some v∧K v H:=I7
theorem z_func {f:FuncId}{caps:List Opd}:z1c X F L top gl S H K (.func f caps)↔ ∃zs,zevs S caps=some zs∧K (.func f zs) H:=I7
theorem z_call {f:Opd}{args:List Opd}:z1c X F L top gl S H K (.call f args)↔ ∃z zs g vs,zev S f=some z∧zevs S args=some zs∧jii z zs=some (g,vs)∧ZC X F g vs L H K:=I7
theorem jhq {f:FuncId}{caps zs:List ZV}:jii (.func f caps) zs=some (f,zs++caps):=rfl
theorem jgk {f:FuncId}{first caps zs:List ZV}:jii (.bfunc f first caps) zs=some (f,first++zs++caps):=rfl
theorem js2 {f:FuncId}{first caps:List Opd}:z1c X F L top gl S H K (.bfunc f first caps)↔ ∃zs us,zevs S first=some zs∧zevs S caps=some us∧K (.bfunc f zs us) H:=I7
theorem jj4 {k n:Nat}{x:Opd}{lo hi mx:Option Opd}:z1c X F L top gl S H K (.sliceArr k n x lo hi mx)↔ ∃i g kk row l u m,zev S x=some (.eptr i g 0 0)∧H[i]?=some (.grow g kk [row])∧row.all jbR=true∧row.length=n*k∧L i=true∧numZ S 0 lo=some l∧numZ S n hi=some u∧numZ S n mx=some m∧l≤u∧u≤m∧m≤n∧K (.fz k false (((jac n k row).drop l).take (u - l))) (H.set i .dead):=I7
theorem jpN {k bytes:Nat}{x y:Opd}:z1c X F L top gl S H K (.append k bytes x y)↔ ∃z u new v H',zev S x=some z∧zev S y=some u∧ja2 H k u=some new∧appZ L H k bytes new z=some (v,H')∧K v H':=I7
theorem z_len {x:Opd}:z1c X F L top gl S H K (.len x)↔ ∃z n,zev S x=some z∧lenZ H z=some n∧K (.val (.int .i64 n)) H:=I7
theorem jpL {x:Opd}:z1c X F L top gl S H K (.lenStr x)↔ ∃t,zev S x=some (.val (.string t))∧K (.val (.int .i64 t.size)) H:=I7
theorem z_clear {k:Nat}{zz:List AV}{x:Opd}:z1c X F L top gl S H K (.clear k zz x)↔ ∃zs u m n H',zcs zz=some zs∧zs.length=k∧zev S x=some u∧lenZ H u=some m∧jnu L H k (O6 m zs) u=some (n,H')∧n=m∧K .no H':=I7
theorem z_copy {k:Nat}{x y:Opd}:z1c X F L top gl S H K (.copy k x y)↔ ∃z u new n H',zev S x=some z∧zev S y=some u∧ja2 H k u=some new∧jnu L H k new z=some (n,H')∧K (.val (.int .i64 (n:Nat))) H':=I7
theorem jsV:z1c X F L top gl S H K .mkMap↔K (.mp H.length) (H++[.box []]):=I7
theorem jfH {ok:Bool}{zz:AV}{x y:Opd}:z1c X F L top gl S H K (.mapGet ok zz x y)↔ ∃i n l z0,zev S x=some (.mp i)∧zev S y=some (.val (.int .i64 n))∧H[i]?=some (.box (l.map ent))∧zev S (.av zz)=some z0∧K (mgot ok z0 (jif l n)) H:=I7
theorem jli {x y v:Opd}:z1c X F L top gl S H K (.mapSet x y v)↔ ∃i n l z,zev S x=some (.mp i)∧zev S y=some (.val (.int .i64 n))∧H[i]?=some (.box (l.map ent))∧zev S v=some z∧L i=true∧K .no (H.set i (.box ((jlf l n z).map ent))):=I7
theorem jlh {kd:Bool}:z1c X F L top gl S H K (.mkMapK kd)↔K (.mp H.length) (H++[.box [.val (.bool kd)]]):=I7
theorem jev {ok:Bool}{zz:AV}{x y:Opd}:z1c X F L top gl S H K (.mapGetK true ok zz x y)↔ ∃i b l z0,zev S x=some (.mp i)∧zev S y=some (.val (.string b))∧b.size≤maxLen∧H[i]?=some (.box (.val (.bool true)::l.map entK))∧zev S (.av zz)=some z0∧K (mgot ok z0 (jdP l (.s b))) H:=by
 constructor
 ·rintro⟨i,q,l,z0,h1,h2,h3,h4,h5,k⟩
  cases q with
  |s b=>exact⟨i,b,l,z0,h1,h2,by simpa[KZ.ok] using h3,h4,h5,k⟩
  |p a b=>cases h3
 ·rintro⟨i,b,l,z0,h1,h2,h3,h4,h5,k⟩
  exact⟨i,.s b,l,z0,h1,h2,by simpa[KZ.ok] using h3,h4,h5,k⟩
theorem jmr {ok:Bool}{zz:AV}{x y:Opd}:z1c X F L top gl S H K (.mapGetK false ok zz x y)↔ ∃i a b l z0,zev S x=some (.mp i)∧zev S y=some (.agg [.val (.int .i64 a),.val (.int .i64 b)])∧((Lit.int .i64 a).wf=true∧(Lit.int .i64 b).wf=true)∧H[i]?=some (.box (.val (.bool false)::l.map entK))∧zev S (.av zz)=some z0∧K (mgot ok z0 (jdP l (.p a b))) H:=by
 constructor
 ·rintro⟨i,q,l,z0,h1,h2,h3,h4,h5,k⟩
  cases q with
  |s b=>cases h3
  |p a b=>exact⟨i,a,b,l,z0,h1,h2,by simpa[KZ.ok] using h3,h4,h5,k⟩
 ·rintro⟨i,a,b,l,z0,h1,h2,h3,h4,h5,k⟩
  exact⟨i,.p a b,l,z0,h1,h2,by simpa[KZ.ok] using h3,h4,h5,k⟩
theorem jeu {x y v:Opd}:z1c X F L top gl S H K (.mapSetK true x y v)↔ ∃i b l z,zev S x=some (.mp i)∧zev S y=some (.val (.string b))∧b.size≤maxLen∧H[i]?=some (.box (.val (.bool true)::l.map entK))∧zev S v=some z∧L i=true∧K .no (H.set i (.box (.val (.bool true)::(jgU l (.s b) z).map entK))):=by
 constructor
 ·rintro⟨i,q,l,z0,h1,h2,h3,h4,h5,k⟩
  cases q with
  |s b=>exact⟨i,b,l,z0,h1,h2,by simpa[KZ.ok] using h3,h4,h5,k⟩
  |p a b=>cases h3
 ·rintro⟨i,b,l,z0,h1,h2,h3,h4,h5,k⟩
  exact⟨i,.s b,l,z0,h1,h2,by simpa[KZ.ok] using h3,h4,h5,k⟩
theorem jsW {x y v:Opd}:z1c X F L top gl S H K (.mapSetK false x y v)↔ ∃i a b l z,zev S x=some (.mp i)∧zev S y=some (.agg [.val (.int .i64 a),.val (.int .i64 b)])∧((Lit.int .i64 a).wf=true∧(Lit.int .i64 b).wf=true)∧H[i]?=some (.box (.val (.bool false)::l.map entK))∧zev S v=some z∧L i=true∧K .no (H.set i (.box (.val (.bool false)::(jgU l (.p a b) z).map entK))):=by
 constructor
 ·rintro⟨i,q,l,z0,h1,h2,h3,h4,h5,k⟩
  cases q with
  |s b=>cases h3
  |p a b=>exact⟨i,a,b,l,z0,h1,h2,by simpa[KZ.ok] using h3,h4,h5,k⟩
 ·rintro⟨i,a,b,l,z0,h1,h2,h3,h4,h5,k⟩
  exact⟨i,.p a b,l,z0,h1,h2,by simpa[KZ.ok] using h3,h4,h5,k⟩
theorem je0 {a b:List (KZ×ZV)}:(a.map entK=b.map entK)↔a=b:=by
 constructor
 ·intro h
  induction a generalizing b with
  |nil=>cases b with
   |nil=>rfl
   |cons y b=>simp at h
  |cons x a ih=>cases b with
   |nil=>simp at h
   |cons y b=>
    simp only[B6,List.cons.injEq] at h;obtain⟨h1,h2⟩:=h;have:x=y:=by
     obtain⟨x1,x2⟩:=x;obtain⟨y1,y2⟩:=y
     simp only[entK,ZV.tuple.injEq,List.cons.injEq,and_true] at h1;obtain⟨h3,rfl⟩:=h1;have:x1=y1:=by
      cases x1<;>cases y1<;>simp_all [KZ.z]
     rw[this]
    rw[this,ih h2]
 ·rintro rfl;rfl
theorem jpK {mx:Bool}{x:Opd}{xs:List Opd}:z1c X F L top gl S H K (.minmax mx x xs)↔ ∃z zs v,zev S x=some z∧zevs S xs=some zs∧jhN mx z zs=some v∧K v H:=I7
end
/-! ### Operands, slots -/
theorem jsP {t:Nat}:zev S (.tmp t)=some (S t):=rfl
theorem jsO {v:Value}:zev S (.av (.val v))=some (.val v):=rfl
theorem jpG {f:FuncId}:zev S (.av (.func f []))=some (.func f []):=rfl
theorem jsQ {cs:List AV}:zev S (.av (.agg cs))=(zcs cs).map .agg:=rfl
theorem zev_no:zev S (.av (.tuple []))=some .no:=rfl
theorem jpF:zevs S []=some []:=rfl
theorem jmk {x:Opd}{l:List Opd}{zs:List ZV}:zevs S (x::l)=some zs↔ ∃z r,zev S x=some z∧zevs S l=some r∧z::r=zs:=by
 simp only[zevs];constructor
 ·intro h
  split at h
  ·rename_i z r h1 h2;injection h with h;exact⟨z,r,h1,h2,h⟩
  ·cases h
 ·rintro⟨z,r,h1,h2,rfl⟩;rw[h1,h2]
theorem jsR:zcs []=some []:=rfl
theorem jpH {v:Value}{l:List AV}:zcs (.val v::l)=(zcs l).map (ZV.val v:: ·):=rfl
theorem jjM:je4 S []=some []:=rfl
theorem jh9 {o n:Nat}{x:Opd}{r:List (Nat×Nat×Opd)}{qs:List (Nat×Nat×ZV)}:je4 S ((o,n,x)::r)=some qs↔ ∃z l,zev S x=some z∧je4 S r=some l∧(o,n,z)::l=qs:=by
 simp only[je4];constructor
 ·intro h
  split at h
  ·rename_i z l h1 h2;injection h with h;exact⟨z,l,h1,h2,h⟩
  ·cases h
 ·rintro⟨z,l,h1,h2,rfl⟩;rw[h1,h2]
theorem jng {cs:List ZV}:jhK cs []=some cs:=rfl
theorem jkt {cs cs':List ZV}{o n:Nat}{v:ZV}{r:List (Nat×Nat×ZV)}:jhK cs ((o,n,v)::r)=some cs'↔(v.cells.length=n∧o+n≤cs.length∧v.cells.all ZV.isCell=true)∧jhK (jad cs o v.cells) r=some cs':=by
 simp only[jhK];constructor
 ·intro h
  split at h
  ·exact⟨by assumption,h⟩
  ·cases h
 ·rintro⟨h1,h2⟩;rw[if_pos h1];exact h2
theorem jl7 {d:Nat}{v:ZV}:zput S (some d) v=zupd S d v:=rfl
theorem jl8 {v:ZV}:zput S none v=S:=rfl
theorem jaj {d t:Nat}{v:ZV}:zupd S d v t=if t=d then v else S t:=rfl
theorem jsw {d:Option Nat}:zlit Gh.no d=false:=by cases d<;>rfl
theorem jmb {d:Nat}:zlit G (some d)=G.lit.contains d:=rfl
theorem jmA {z:ZV}:(topZ none z=true)=True:=by simp[topZ]
theorem jka {b i o:Nat}:(topZ (some (b,none)) (.ptr i o)=true)↔i<b:=by simp[topZ]
theorem jj9 {b i o:Nat}{l:List Nat}:(topZ (some (b,some l)) (.ptr i o)=true)↔i<b∧l.contains i=true:=by simp[topZ]
theorem jgx {n:Nat}:natZ (Z64 (n:Nat))=some n:=by simp[natZ]
theorem jjY {v:Value}:(ZV.val v).cells=[.val v]:=rfl
theorem jml {k:Nat}{ex:Bool}{rows:List (List ZV)}:(ZV.fz k ex rows).cells=[.fz k ex rows]:=rfl
theorem jj0 {i g o l:Nat}{ex:Bool}:(ZV.own i g o l ex).cells=[.own i g o l ex]:=rfl
theorem jjZ {i o:Nat}:(ZV.ptr i o).cells=[.ptr i o]:=rfl
theorem jih {f:FuncId}{c:List ZV}:(ZV.func f c).cells=[.func f c]:=rfl
theorem jj1 {cs:List ZV}:(ZV.agg cs).cells=cs:=rfl
theorem jmm {v:Value}:(ZV.val v).isCell=true:=rfl
theorem jpI {k:Nat}{ex:Bool}{rows:List (List ZV)}:(ZV.fz k ex rows).isCell=true:=rfl
theorem jmo {i g o l:Nat}{ex:Bool}:(ZV.own i g o l ex).isCell=true:=rfl
theorem jmn {i o:Nat}:(ZV.ptr i o).isCell=true:=rfl
theorem jj2 {f:FuncId}{c:List ZV}:(ZV.func f c).isCell=true:=rfl
theorem jqc {v:Value}:jbR (.val v)=true:=rfl
theorem jt5 {k:Nat}{ex:Bool}{rows:List (List ZV)}:jbR (.fz k ex rows)=true:=rfl
theorem jkn {i o:Nat}:jhx (.ptr i o)=true:=rfl
theorem jiP {i g e o:Nat}:jhx (.eptr i g e o)=true:=rfl
theorem jiO {k:Nat}{rows:List (List ZV)}{j o:Nat}:jhx (.fptr k rows j o)=true:=rfl
theorem jiN {f:FuncId}{c:List ZV}:jhx (.func f c)=true:=rfl
theorem jvv {n i o:Nat}:addZ n (.ptr i o)=some (.ptr i (o+n)):=rfl
theorem jqT {n i g e o:Nat}:addZ n (.eptr i g e o)=some (.eptr i g e (o+n)):=rfl
theorem jqS {n k:Nat}{rows:List (List ZV)}{j o:Nat}:addZ n (.fptr k rows j o)=some (.fptr k rows j (o+n)):=rfl
theorem jmX {cs:List ZV}{o:Nat}:jdI cs o none=cs[o]?:=rfl
theorem jmW {cs:List ZV}{o n:Nat}{v:ZV}:jdI cs o (some n)=some v↔o+n≤cs.length∧ .agg ((cs.drop o).take n)=v:=by
 simp only[jdI];constructor
 ·intro h
  split at h
  ·injection h with h;exact⟨by assumption,h⟩
  ·cases h
 ·rintro⟨h1,rfl⟩;rw[if_pos h1]
theorem jo3 {k j:Nat}{ex:Bool}{rows:List (List ZV)}{v:ZV}:jdd H k j (.fz k ex rows)=some v↔j<rows.length∧ .fptr k rows j 0=v:=by
 simp only[jdd];constructor
 ·intro h
  split at h
  ·rename_i hc;injection h with h;exact⟨hc.2,h⟩
  ·cases h
 ·rintro⟨h1,rfl⟩;rw[if_pos ⟨trivial,h1⟩]
theorem jbQ {k j i g off len:Nat}{ex:Bool}{v:ZV}:jdd H k j (.own i g off len ex)=some v↔ ∃rows,H[i]?=some (.grow g k rows)∧off+len≤rows.length∧j<len∧ .eptr i g (off+j) 0=v:=by
 simp only[jdd];constructor
 ·intro h
  split at h
  ·rename_i g' k' rows hb
   split at h
   ·rename_i hc
    obtain⟨rfl,rfl,h1,h2⟩:=hc;injection h with h;exact⟨rows,hb,h1,h2,h⟩
   ·cases h
  ·cases h
 ·rintro⟨rows,h1,h2,h3,rfl⟩;rw[h1];simp only;rw[if_pos ⟨trivial,trivial,h2,h3⟩]
theorem ld_ptr {n:Option Nat}{i o:Nat}{v:ZV}:ldZ H n (.ptr i o)=some v↔ ∃cs,H[i]?=some (.box cs)∧jdI cs o n=some v:=by
 simp only[ldZ];constructor
 ·intro h
  split at h
  ·rename_i cs hb;exact⟨cs,hb,h⟩
  ·cases h
 ·rintro⟨cs,h1,h2⟩;rw[h1];exact h2
theorem jbS {n:Option Nat}{i g e o:Nat}{v:ZV}:ldZ H n (.eptr i g e o)=some v↔ ∃k rows r,H[i]?=some (.grow g k rows)∧rows[e]?=some r∧jdI r o n=some v:=by
 simp only[ldZ];constructor
 ·intro h
  split at h
  ·rename_i g' k rows hb
   split at h
   ·rename_i hg;subst hg
    split at h
    ·rename_i r hr;exact⟨k,rows,r,hb,hr,h⟩
    ·cases h
   ·cases h
  ·cases h
 ·rintro⟨k,rows,r,h1,h2,h3⟩;rw[h1];simp only[if_true];rw[h2];exact h3
theorem joz {n:Option Nat}{k:Nat}{rows:List (List ZV)}{j o:Nat}{v:ZV}:ldZ H n (.fptr k rows j o)=some v↔ ∃r,rows[j]?=some r∧jdI r o n=some v:=by
 simp only[ldZ];constructor
 ·intro h
  split at h
  ·rename_i r hr;exact⟨r,hr,h⟩
  ·cases h
 ·rintro⟨r,h1,h2⟩;rw[h1];exact h2
theorem jmE {vs:List ZV}{i o:Nat}{H':ZH}:stZ L H vs (.ptr i o)=some H'↔ ∃cs,H[i]?=some (.box cs)∧L i=true∧o+vs.length≤cs.length∧H.set i (.box (jad cs o vs))=H':=by
 simp only[stZ];constructor
 ·intro h
  split at h
  ·rename_i cs hb
   split at h
   ·rename_i hc;injection h with h;exact⟨cs,hb,hc.1,hc.2,h⟩
   ·cases h
  ·cases h
 ·rintro⟨cs,h1,h2,h3,rfl⟩;rw[h1];simp only;rw[if_pos ⟨h2,h3⟩]
theorem jfe {vs:List ZV}{i g e o:Nat}{H':ZH}:stZ L H vs (.eptr i g e o)=some H'↔ ∃k rows r,H[i]?=some (.grow g k rows)∧rows[e]?=some r∧L i=true∧o+vs.length≤r.length∧H.set i (.grow g k (rows.set e (jad r o vs)))=H':=by
 simp only[stZ];constructor
 ·intro h
  split at h
  ·rename_i g' k rows hb
   split at h
   ·rename_i hg;subst hg
    split at h
    ·rename_i r hr
     split at h
     ·rename_i hc;injection h with h;exact⟨k,rows,r,hb,hr,hc.1,hc.2,h⟩
     ·cases h
    ·cases h
   ·cases h
  ·cases h
 ·rintro⟨k,rows,r,h1,h2,h3,h4,rfl⟩;rw[h1];simp only[if_true];rw[h2];simp only;rw[if_pos ⟨h3,h4⟩]
theorem jp5 {k:Nat}:ja2 H k .nil=some []:=rfl
theorem jaM {k:Nat}{ex:Bool}{rows:List (List ZV)}:ja2 H k (.fz k ex rows)=some rows:=by simp[ja2]
theorem jlu {k i g off len:Nat}{ex:Bool}{r:List (List ZV)}:ja2 H k (.own i g off len ex)=some r↔ ∃rows,H[i]?=some (.grow g k rows)∧off+len≤rows.length∧(rows.drop off).take len=r:=by
 simp only[ja2];constructor
 ·intro h
  split at h
  ·rename_i g' k' rows hb
   split at h
   ·rename_i hc
    obtain⟨rfl,rfl,h1⟩:=hc;injection h with h;exact⟨rows,hb,h1,h⟩
   ·cases h
  ·cases h
 ·rintro⟨rows,h1,h2,rfl⟩;rw[h1];simp only;rw[if_pos ⟨trivial,trivial,h2⟩]
theorem jui:lenZ H .nil=some 0:=rfl
theorem len_fz {k:Nat}{ex:Bool}{rows:List (List ZV)}:lenZ H (.fz k ex rows)=some rows.length:=rfl
theorem jlA {i g off len:Nat}{ex:Bool}{n:Nat}:lenZ H (.own i g off len ex)=some n↔ ∃k rows,H[i]?=some (.grow g k rows)∧len=n:=by
 simp only[lenZ];constructor
 ·intro h
  split at h
  ·rename_i g' k rows hb
   split at h
   ·rename_i hg;subst hg;injection h with h;exact⟨k,rows,hb,h⟩
   ·cases h
  ·cases h
 ·rintro⟨k,rows,h1,rfl⟩;rw[h1];simp
theorem jvq {k bytes:Nat}{new:List (List ZV)}{v:ZV}{H':ZH}:appZ L H k bytes new .nil=some (v,H')↔new.length*bytes≤reach∧ .own H.length 0 0 new.length false=v∧H++[.grow 0 k new]=H':=by
 simp only[appZ];constructor
 ·intro h
  split at h
  ·injection h with h;injection h with h1 h2;exact⟨by assumption,h1,h2⟩
  ·cases h
 ·rintro⟨h1,rfl,rfl⟩;rw[if_pos h1]
theorem jcU {k bytes i g off len:Nat}{new:List (List ZV)}{v:ZV}{H':ZH}:appZ L H k bytes new (.own i g off len false)=some (v,H')↔ ∃rows,H[i]?=some (.grow g k rows)∧off+len≤rows.length∧(len+new.length)*bytes≤reach∧L i=true∧ .own i (g+1) 0 (len+new.length) false=v∧H.set i (.grow (g+1) k ((rows.drop off).take len++new))=H':=by
 simp only[appZ];constructor
 ·intro h
  split at h
  ·rename_i g' k' rows hb
   split at h
   ·rename_i hc
    obtain⟨rfl,rfl,h1,h2⟩:=hc;simp only[N6,if_false] at h;split at h
    ·injection h with h;injection h with h3 h4;exact⟨rows,hb,h1,h2,by assumption,h3,h4⟩
    ·cases h
   ·cases h
  ·cases h
 ·rintro⟨rows,h1,h2,h3,h4,rfl,rfl⟩;rw[h1];simp only;rw[if_pos ⟨trivial,trivial,h2,h3⟩];simp only[N6,if_false];rw[if_pos h4]
theorem jqP {k bytes i g off len:Nat}{x:List ZV}{v:ZV}{H':ZH}:appZ L H k bytes [x] (.own i g off len true)=some (v,H')↔ ∃rows,H[i]?=some (.grow g k rows)∧off+len≤rows.length∧(len+1)*bytes≤reach∧ .own H.length 0 0 (len+1) false=v∧H++[.grow 0 k ((rows.drop off).take len++[x])]=H':=by
 simp only[appZ];constructor
 ·intro h
  split at h
  ·rename_i g' k' rows hb
   split at h
   ·rename_i hc
    obtain⟨rfl,rfl,h1,h2⟩:=hc;simp at h;exact⟨rows,hb,h1,h2,h.1,h.2⟩
   ·cases h
  ·cases h
 ·rintro⟨rows,h1,h2,h3,rfl,rfl⟩;rw[h1];simp only;rw[if_pos ⟨trivial,trivial,h2,h3⟩];simp
theorem jvr {k bytes:Nat}{rows:List (List ZV)}{x:List ZV}{v:ZV}{H':ZH}:appZ L H k bytes [x] (.fz k true rows)=some (v,H')↔(rows.length+1)*bytes≤reach∧ .own H.length 0 0 (rows.length+1) false=v∧H++[.grow 0 k (rows++[x])]=H':=by
 simp only[appZ];constructor
 ·intro h
  split at h
  ·rename_i hc
   simp at h;exact⟨hc.2,h.1,h.2⟩
  ·cases h
 ·rintro⟨h1,rfl,rfl⟩;rw[if_pos ⟨trivial,h1⟩];simp
end
/-! ### What is seen jhP, as a table -/
def ovG {α:Type}(ov:List (Nat×α))(d:Nat→α)(t:Nat):α:=match ov with
  |[]=>d t
  |(u,x)::r=>if t=u then x else ovG r d t
def owL (ov:List (Nat×List Nat))(S:ZS):Opd→Option (List Nat)
  | .tmp t=>some (ovG ov (fun t=>jaa (S t)) t)
  | .av (.ptr ..)| .av (.slice ..)=>none
  |_=>some []
def owLop (ov:List (Nat×List Nat))(S:ZS):AOp→Option (List Nat)
  | .mv x| .fieldAddr _ x| .indexAddr _ x _| .indexArr _ _ x _| .slice _ x _ _ _| .nilCheck x=>owL ov S x
  |_=>some []
def ovP {α:Type}(ov:List (Nat×α)):Option Nat→α→List (Nat×α)
  |some d,x=>(d,x)::ov
  |none,_=>ov
def ovO (ov:List (Nat×List Nat))(S:ZS):Option Nat→List Nat
  |some d=>ovG ov (fun t=>jaa (S t)) d
  |none=>[]
def jaq:List jav→List (Nat×List Nat)→ZS→Option (List Nat)
  |[],_,_=>some []
  |o::r,ov,S=>if jiQ o.op=true then match owLop ov S o.op with
      |some x=>jaq r (ovP ov o.dst (x++ovO ov S o.dst)) S
      |none=>none
    else match o.op,o.iso with
      | .load _ x,false=>match owL ov S x,jaq r ov S with
        |some a,some b=>some (a++b)
        |_,_=>none
      |_,_=>jaq r ov S
theorem jt9 {α:Type}{ov:List (Nat×α)}{d:Nat→α}{D:Option Nat}{x:α}:putO (fun t=>ovG ov d t) D x=fun t=>ovG (ovP ov D x) d t:=by
 cases D with
 |none=>rfl
 |some k=>funext t;simp only[putO,ovP,ovG]
theorem owL_eq (ov:List (Nat×List Nat))(S:ZS)(x:Opd):owO (fun t=>ovG ov (fun t=>jaa (S t)) t) x=owL ov S x:=by
 cases x with
 |tmp t=>rfl
 |av v=>cases v<;>rfl
theorem owLop_eq (ov:List (Nat×List Nat))(S:ZS)(op:AOp):owOp (fun t=>ovG ov (fun t=>jaa (S t)) t) op=owLop ov S op:=by
 cases op<;>first|rfl|exact owL_eq ov S _
theorem jj3 (S:ZS): ∀(l:List jav) (ov:List (Nat×List Nat)),je5 l (fun t=>ovG ov (fun t=>jaa (S t)) t)=jaq l ov S
 |[],ov=>rfl
 |o::l,ov=>by
  have ho:oldO (fun t=>ovG ov (fun t=>jaa (S t)) t) o.dst=ovO ov S o.dst:=by cases o.dst<;>rfl
  simp only[je5,jaq,owLop_eq,ho,jt9,jj3 S l,owL_eq]
  rfl
def exL (ov:List (Nat×Option ZV))(S:ZS):Opd→Option ZV
  | .tmp t=>ovG ov (fun t=>some (S t)) t
  |_=>none
def exLop (ov:List (Nat×Option ZV))(S:ZS):AOp→Option ZV
  | .mv x=>exL ov S x
  | .fieldAddr n x=>match exL ov S x with
    |some (.ptr i o)=>some (.ptr i (o+n))
    |_=>none
  | .nilCheck x=>match exL ov S x with
    |some (.ptr i o)=>some (.ptr i (o+0))
    |_=>none
  |_=>none
def jao:List jav→List (Nat×Option ZV)→ZS→List Nat
  |[],_,_=>[]
  |o::r,ov,S=>if jiQ o.op=true then jao r (ovP ov o.dst (exLop ov S o.op)) S
    else match o.op,o.iso with
      | .load _ x,false=>match exL ov S x with
        |some (.ptr i _)=>i::jao r ov S
        |_=>jao r ov S
      |_,_=>jao r ov S
theorem exL_eq (ov:List (Nat×Option ZV))(S:ZS)(x:Opd):exO (fun t=>ovG ov (fun t=>some (S t)) t) x=exL ov S x:=by cases x<;>rfl
theorem exLop_eq (ov:List (Nat×Option ZV))(S:ZS)(op:AOp):jsN (fun t=>ovG ov (fun t=>some (S t)) t) op=exLop ov S op:=by
 cases op<;>simp only[jsN,exLop,exL_eq]<;>rfl
theorem jjH (S:ZS): ∀(l:List jav) (ov:List (Nat×Option ZV)),jes l (fun t=>ovG ov (fun t=>some (S t)) t)=jao l ov S
 |[],ov=>rfl
 |o::l,ov=>by
  simp only[jes,jao,exLop_eq,jt9,jjH S l,exL_eq]
  rfl
theorem jpC {rs:List Nat}{o:jav}{l:List jav}{S:ZS}:jd8 rs o l S=if heavy o.op=true then (match jaq l [] S with|some fb=>some (rs++fb)|none=>none) else some []:=by
 unfold jd8;rw[show (fun t=>jaa (S t))=fun t=>ovG [] (fun t=>jaa (S t)) t from rfl,jj3];rfl
theorem jsn {rs:List Nat}{pr:Option (List Nat)}{o:jav}{l:List jav}{S:ZS}:zpr rs pr o l S=if heavy o.op=true then some (match pr with|none=>rs++jao l [] S|some p=>p.filter (rs++jao l [] S).contains) else pr:=by
 unfold zpr;rw[show (fun t=>some (S t))=fun t=>ovG [] (fun t=>some (S t)) t from rfl,jjH];rfl
def appO:Option (List Nat)→Option (List Nat)→Option (List Nat)
  |some a,some b=>some (a++b)
  |_,_=>none
def jr4:Option ZV→List Nat→List Nat
  |some (.ptr i _),l=>i::l
  |_,l=>l
section
variable {d:Option Nat}{g:Option (Nat×Bool)}{i:Bool}{r:List jav}{ov:List (Nat×List Nat)}{ow:List (Nat×Option ZV)}{S:ZS}{op:AOp}{t:Nat}{n:Option Nat}{x y:Opd}{v:Value}
theorem zh_bin {b:BinOp}:jaq (⟨d,.bin b x y,g,i⟩::r) ov S=jaq r (ovP ov d (ovO ov S d)) S:=rfl
theorem zh_mv:jaq (⟨d,.mv (.tmp t),g,i⟩::r) ov S=jaq r (ovP ov d (ovG ov (fun t=>jaa (S t)) t++ovO ov S d)) S:=rfl
theorem zh_mvV:jaq (⟨d,.mv (.av (.val v)),g,i⟩::r) ov S=jaq r (ovP ov d (ovO ov S d)) S:=rfl
theorem jhp {o:Nat}:jaq (⟨d,.fieldAddr o (.tmp t),g,i⟩::r) ov S=jaq r (ovP ov d (ovG ov (fun t=>jaa (S t)) t++ovO ov S d)) S:=rfl
theorem jho {o:Nat}:jaq (⟨d,.indexAddr o (.tmp t) x,g,i⟩::r) ov S=jaq r (ovP ov d (ovG ov (fun t=>jaa (S t)) t++ovO ov S d)) S:=rfl
theorem jie {o l:Nat}:jaq (⟨d,.indexArr o l (.tmp t) x,g,i⟩::r) ov S=jaq r (ovP ov d (ovG ov (fun t=>jaa (S t)) t++ovO ov S d)) S:=rfl
theorem jpr {o:Nat}{a b c:Option Opd}:jaq (⟨d,.slice o (.tmp t) a b c,g,i⟩::r) ov S=jaq r (ovP ov d (ovG ov (fun t=>jaa (S t)) t++ovO ov S d)) S:=rfl
theorem jic:jaq (⟨d,.nilCheck (.tmp t),g,i⟩::r) ov S=jaq r (ovP ov d (ovG ov (fun t=>jaa (S t)) t++ovO ov S d)) S:=rfl
theorem jps:jaq (⟨d,.load n x,g,true⟩::r) ov S=jaq r ov S:=rfl
theorem jsA:jaq (⟨d,.load n (.tmp t),g,false⟩::r) ov S=appO (some (ovG ov (fun t=>jaa (S t)) t)) (jaq r ov S):=by
 simp only[jaq,jiQ,owL,appO]
 cases jaq r ov S<;>rfl
theorem zu_bin {b:BinOp}:jao (⟨d,.bin b x y,g,i⟩::r) ow S=jao r (ovP ow d none) S:=rfl
theorem zu_mv:jao (⟨d,.mv x,g,i⟩::r) ow S=jao r (ovP ow d (exL ow S x)) S:=rfl
def addP (n:Nat):Option ZV→Option ZV
  |some (.ptr i o)=>some (.ptr i (o+n))
  |_=>none
theorem jhn {o:Nat}:jao (⟨d,.fieldAddr o x,g,i⟩::r) ow S=jao r (ovP ow d (addP o (exL ow S x))) S:=rfl
theorem jhm {o:Nat}:jao (⟨d,.indexAddr o x y,g,i⟩::r) ow S=jao r (ovP ow d none) S:=rfl
theorem jh7 {o l:Nat}:jao (⟨d,.indexArr o l x y,g,i⟩::r) ow S=jao r (ovP ow d none) S:=rfl
theorem jo9 {o:Nat}{a b c:Option Opd}:jao (⟨d,.slice o x a b c,g,i⟩::r) ow S=jao r (ovP ow d none) S:=rfl
theorem jh5:jao (⟨d,.nilCheck x,g,i⟩::r) ow S=jao r (ovP ow d (addP 0 (exL ow S x))) S:=rfl
theorem jpa:jao (⟨d,.load n x,g,true⟩::r) ow S=jao r ow S:=rfl
theorem jse:jao (⟨d,.load n x,g,false⟩::r) ow S=jr4 (exL ow S x) (jao r ow S):=by
 simp only[jao,jiQ];unfold jr4
 cases exL ow S x with
 |none=>rfl
 |some z=>cases z<;>rfl
theorem zh_nil:jaq [] ov S=some []:=rfl
theorem zu_nil:jao [] ow S=[]:=rfl
theorem jn2 {a b:List Nat}:appO (some a) (some b)=some (a++b):=rfl
theorem jnw {i o:Nat}{l:List Nat}:jr4 (some (.ptr i o)) l=i::l:=rfl
theorem jkC {l:List Nat}:jr4 none l=l:=rfl
theorem jqU {n i o:Nat}:addP n (some (.ptr i o))=some (.ptr i (o+n)):=rfl
theorem jn4 {n:Nat}:addP n none=none:=rfl
theorem jt8 {α:Type}{f:Nat→α}:ovG [] f t=f t:=rfl
theorem jqk {α:Type}{f:Nat→α}{u:Nat}{a:α}{o:List (Nat×α)}:ovG ((u,a)::o) f t=if t=u then a else ovG o f t:=rfl
theorem jqg {α:Type}{o:List (Nat×α)}{k:Nat}{a:α}:ovP o (some k) a=(k,a)::o:=rfl
theorem jqh {α:Type}{o:List (Nat×α)}{a:α}:ovP o none a=o:=rfl
theorem jqi {k:Nat}:ovO ov S (some k)=ovG ov (fun t=>jaa (S t)) k:=rfl
theorem jqj:ovO ov S none=[]:=rfl
theorem juY:exL ow S (.tmp t)=ovG ow (fun t=>some (S t)) t:=rfl
theorem exL_av {a:AV}:exL ow S (.av a)=none:=rfl
def preO (rs:List Nat):Option (List Nat)→Option (List Nat)
  |some fb=>some (rs++fb)
  |none=>none
theorem jmU {rs fb:List Nat}:preO rs (some fb)=some (rs++fb):=rfl
theorem jgj {rs:List Nat}{l:List jav}(h:heavy op=true):jd8 rs ⟨d,op,g,i⟩ l S=preO rs (jaq l [] S):=by
 rw[jpC,if_pos h];cases jaq l [] S<;>rfl
theorem zf_light {rs:List Nat}{l:List jav}(h:heavy op=false):jd8 rs ⟨d,op,g,i⟩ l S=some []:=by
 rw[jpC,if_neg (by simp[h])]
theorem jfb {rs:List Nat}{l:List jav}(h:heavy op=true):zpr rs none ⟨d,op,g,i⟩ l S=some (rs++jao l [] S):=by
 rw[jsn,if_pos h]
theorem jfa {rs p:List Nat}{l:List jav}(h:heavy op=true):zpr rs (some p) ⟨d,op,g,i⟩ l S=some (p.filter (rs++jao l [] S).contains):=by
 rw[jsn,if_pos h]
theorem zp_light {rs:List Nat}{pr:Option (List Nat)}{l:List jav}(h:heavy op=false):zpr rs pr ⟨d,op,g,i⟩ l S=pr:=by
 rw[jsn,if_neg (by simp[h])]
theorem jsk {rs:List Nat}:zrs rs ⟨d,.load n (.tmp t),g,i⟩ S=jr4 (some (S t)) rs:=by
 simp only[zrs,zev];unfold jr4
 cases S t<;>rfl
theorem jgg {rs:List Nat}(h:heavy op=true):zrs rs ⟨d,op,g,i⟩ S=rs:=by
 cases op<;>first|rfl|(cases h;done)
end
section
variable {n:Option Nat}{x y c a b:Opd}{n0 k l:Nat}{cs:List AV}{ps:List (Nat×Nat×Opd)}{ng:Bool}{ks:List Nat}{u:UnOp}{ik:IntKind}{f:FuncId}{os:List Opd}{d:Option Nat}{g:Option (Nat×Bool)}{i:Bool}{r:List jav}{ov:List (Nat×List Nat)}{ow:List (Nat×Option ZV)}{S:ZS}{rs p:List Nat}{pr:Option (List Nat)}
theorem jsz:jaq (⟨d,.pick c a b,g,i⟩::r) ov S=jaq r ov S:=rfl
theorem jsd:jao (⟨d,.pick c a b,g,i⟩::r) ow S=jao r ow S:=rfl
theorem zh_box:jaq (⟨d,.box n0 x,g,i⟩::r) ov S=jaq r ov S:=rfl
theorem zu_box:jao (⟨d,.box n0 x,g,i⟩::r) ow S=jao r ow S:=rfl
theorem jsy:jaq (⟨d,.zero cs,g,i⟩::r) ov S=jaq r ov S:=rfl
theorem jsc:jao (⟨d,.zero cs,g,i⟩::r) ow S=jao r ow S:=rfl
theorem jpx:jaq (⟨d,.build cs ps,g,i⟩::r) ov S=jaq r ov S:=rfl
theorem jpf:jao (⟨d,.build cs ps,g,i⟩::r) ow S=jao r ow S:=rfl
theorem jsB:jaq (⟨d,.lits k l cs ps,g,i⟩::r) ov S=jaq r ov S:=rfl
theorem jsf:jao (⟨d,.lits k l cs ps,g,i⟩::r) ow S=jao r ow S:=rfl
theorem jpq:jaq (⟨d,.store n0 x y,g,i⟩::r) ov S=jaq r ov S:=rfl
theorem jo8:jao (⟨d,.store n0 x y,g,i⟩::r) ow S=jao r ow S:=rfl
theorem jpv:jaq (⟨d,.eqNil ng k x,g,i⟩::r) ov S=jaq r ov S:=rfl
theorem jpd:jao (⟨d,.eqNil ng k x,g,i⟩::r) ow S=jao r ow S:=rfl
theorem jme:jaq (⟨d,.eqBool ng x y,g,i⟩::r) ov S=jaq r ov S:=rfl
theorem jl1:jao (⟨d,.eqBool ng x y,g,i⟩::r) ow S=jao r ow S:=rfl
theorem jpw:jaq (⟨d,.eqAgg ng ks x y,g,i⟩::r) ov S=jaq r ov S:=rfl
theorem jpe:jao (⟨d,.eqAgg ng ks x y,g,i⟩::r) ow S=jao r ow S:=rfl
theorem zh_un:jaq (⟨d,.un u x,g,i⟩::r) ov S=jaq r ov S:=rfl
theorem zu_un:jao (⟨d,.un u x,g,i⟩::r) ow S=jao r ow S:=rfl
theorem jsE:jaq (⟨d,.conv ik x,g,i⟩::r) ov S=jaq r ov S:=rfl
theorem jsi:jao (⟨d,.conv ik x,g,i⟩::r) ow S=jao r ow S:=rfl
theorem jpu:jaq (⟨d,.field k n x,g,i⟩::r) ov S=jaq r ov S:=rfl
theorem jpc:jao (⟨d,.field k n x,g,i⟩::r) ow S=jao r ow S:=rfl
theorem jpt:jaq (⟨d,.index k l n x y,g,i⟩::r) ov S=jaq r ov S:=rfl
theorem jpb:jao (⟨d,.index k l n x y,g,i⟩::r) ow S=jao r ow S:=rfl
theorem jid:jaq (⟨d,.indexStr x y,g,i⟩::r) ov S=jaq r ov S:=rfl
theorem jh6:jao (⟨d,.indexStr x y,g,i⟩::r) ow S=jao r ow S:=rfl
theorem jjT:jaq (⟨d,.mkSlice k l cs x y,g,i⟩::r) ov S=jaq r ov S:=rfl
theorem jjI:jao (⟨d,.mkSlice k l cs x y,g,i⟩::r) ow S=jao r ow S:=rfl
theorem jjU:jaq (⟨d,.extract k x,g,i⟩::r) ov S=jaq r ov S:=rfl
theorem jjJ:jao (⟨d,.extract k x,g,i⟩::r) ow S=jao r ow S:=rfl
theorem jsC:jaq (⟨d,.func f os,g,i⟩::r) ov S=jaq r ov S:=rfl
theorem jsg:jao (⟨d,.func f os,g,i⟩::r) ow S=jao r ow S:=rfl
theorem jsF:jaq (⟨d,.call x os,g,i⟩::r) ov S=jaq r ov S:=rfl
theorem jsj:jao (⟨d,.call x os,g,i⟩::r) ow S=jao r ow S:=rfl
theorem jmf:jaq (⟨d,.append k l x y,g,i⟩::r) ov S=jaq r ov S:=rfl
theorem jl2:jao (⟨d,.append k l x y,g,i⟩::r) ow S=jao r ow S:=rfl
theorem zh_len:jaq (⟨d,.len x,g,i⟩::r) ov S=jaq r ov S:=rfl
theorem zu_len:jao (⟨d,.len x,g,i⟩::r) ow S=jao r ow S:=rfl
theorem jmd:jaq (⟨d,.lenStr x,g,i⟩::r) ov S=jaq r ov S:=rfl
theorem jl0:jao (⟨d,.lenStr x,g,i⟩::r) ow S=jao r ow S:=rfl
theorem zh_clear {zz:List AV}:jaq (⟨d,.clear k zz x,g,i⟩::r) ov S=jaq r ov S:=rfl
theorem zu_clear {zz:List AV}:jao (⟨d,.clear k zz x,g,i⟩::r) ow S=jao r ow S:=rfl
theorem jsD:jaq (⟨d,.copy k x y,g,i⟩::r) ov S=jaq r ov S:=rfl
theorem jsh:jao (⟨d,.copy k x y,g,i⟩::r) ow S=jao r ow S:=rfl
theorem jmc:jaq (⟨d,.minmax ng x os,g,i⟩::r) ov S=jaq r ov S:=rfl
theorem jlZ:jao (⟨d,.minmax ng x os,g,i⟩::r) ow S=jao r ow S:=rfl
theorem jpE:jd8 rs ⟨d,.store n0 x y,g,i⟩ r S=preO rs (jaq r [] S):=jgj rfl
theorem jma:zpr rs none ⟨d,.store n0 x y,g,i⟩ r S=some (rs++jao r [] S):=jfb rfl
theorem jl9:zpr rs (some p) ⟨d,.store n0 x y,g,i⟩ r S=some (p.filter (rs++jao r [] S).contains):=jfa rfl
theorem jph:zrs rs ⟨d,.store n0 x y,g,i⟩ S=rs:=jgg rfl
theorem jmj:jd8 rs ⟨d,.append k l x y,g,i⟩ r S=preO rs (jaq r [] S):=jgj rfl
theorem jjO:zpr rs none ⟨d,.append k l x y,g,i⟩ r S=some (rs++jao r [] S):=jfb rfl
theorem jjN:zpr rs (some p) ⟨d,.append k l x y,g,i⟩ r S=some (p.filter (rs++jao r [] S).contains):=jfa rfl
theorem jl6:zrs rs ⟨d,.append k l x y,g,i⟩ S=rs:=jgg rfl
theorem zf_clear {zz:List AV}:jd8 rs ⟨d,.clear k zz x,g,i⟩ r S=preO rs (jaq r [] S):=jgj rfl
theorem jsq {zz:List AV}:zpr rs none ⟨d,.clear k zz x,g,i⟩ r S=some (rs++jao r [] S):=jfb rfl
theorem jsp {zz:List AV}:zpr rs (some p) ⟨d,.clear k zz x,g,i⟩ r S=some (p.filter (rs++jao r [] S).contains):=jfa rfl
theorem zr_clear {zz:List AV}:zrs rs ⟨d,.clear k zz x,g,i⟩ S=rs:=jgg rfl
theorem jsL:jd8 rs ⟨d,.copy k x y,g,i⟩ r S=preO rs (jaq r [] S):=jgj rfl
theorem jpk:zpr rs none ⟨d,.copy k x y,g,i⟩ r S=some (rs++jao r [] S):=jfb rfl
theorem jpi:zpr rs (some p) ⟨d,.copy k x y,g,i⟩ r S=some (p.filter (rs++jao r [] S).contains):=jfa rfl
theorem jsl:zrs rs ⟨d,.copy k x y,g,i⟩ S=rs:=jgg rfl
theorem jsM:jd8 rs ⟨d,.call x os,g,i⟩ r S=preO rs (jaq r [] S):=jgj rfl
theorem jpl:zpr rs none ⟨d,.call x os,g,i⟩ r S=some (rs++jao r [] S):=jfb rfl
theorem jpj:zpr rs (some p) ⟨d,.call x os,g,i⟩ r S=some (p.filter (rs++jao r [] S).contains):=jfa rfl
theorem jsm:zrs rs ⟨d,.call x os,g,i⟩ S=rs:=jgg rfl
theorem jsK:jd8 rs ⟨d,.load n x,g,i⟩ r S=some []:=zf_light rfl
theorem jso:zpr rs pr ⟨d,.load n x,g,i⟩ r S=pr:=zp_light rfl
end
/-! ### What the proof adds -/
def zgoS (o:Option (List (Nat×Nat)))(b:Bool)(K:ZV→ZH→Prop)(z:ZV)(H:ZH):Prop:=match o with
  |some l=>zown l K z H
  |none=>if b=true then zfrz K z H else K z H
section
variable {H:ZH}{G:Gh}{K:ZV→ZH→Prop}{z:ZV}{l:List (Nat×Nat)}{b:Bool}{d k:Nat}
theorem jmg {p:Nat×List (Nat×Nat)}{ow:List (Nat×List (Nat×Nat))}{li fr:List Nat}:ZgoG ⟨p::ow,li,fr⟩ (some d) K z H↔zgoS ((p::ow).lookup d) (fr.contains d) K z H:=by
 unfold ZgoG zgo zgoS
 cases h:List.lookup d (p::ow)<;>simp[h]
theorem jjW {li fr:List Nat}{f:Nat}:ZgoG ⟨[],li,f::fr⟩ (some d) K z H↔zgoS none ((f::fr).contains d) K z H:=I7
theorem jjV {li:List Nat}{f:Nat}:ZgoG ⟨[],f::li,[]⟩ (some d) K z H↔K z H:=by
 simp[ZgoG,zgo]
theorem jmh:ZgoG G none K z H↔K z H:=I7
theorem jsG:zgoS none false K z H↔K z H:=by simp[zgoS]
theorem jpz:zgoS none true K z H↔zfrz K z H:=by simp[zgoS]
theorem jpy:zgoS (some l) b K z H↔zown l K z H:=I7
theorem jpo (hk:k<1000):zown [(0,k)] K .nil H↔K (.own H.length 0 0 0 false) (H++[.grow 0 k []]):=by
 simp[zown,jbA,Nat.not_le.2 hk];exact⟨fun⟨_,_,⟨e1,e2⟩,k⟩=>by subst e1;subst e2;exact k,fun k=>⟨_,_,⟨rfl,rfl⟩,k⟩⟩
theorem jpn {i g o n:Nat}{e:Bool}:zown l K (.own i g o n e) H↔K (.own i g o n e) H:=I7
theorem jst {k:Nat}{e:Bool}{r:List (List ZV)}:zown l K (.fz k e r) H↔K (.fz k e r) H:=I7
theorem jpp {cs:List ZV}:zown l K (.agg cs) H↔ ∃cs' H',jbA l cs H=some (cs',H')∧K (.agg cs') H':=I7
theorem jpm {i o:Nat}:zown l K (.ptr i o) H↔ ∃cs,H[i]?=some (.box cs)∧ ∃cs' H',jbA l cs H=some (cs',H')∧K (.ptr i o) (H'.set i (.box cs')):=by
 simp only[zown];constructor
 ·intro h
  split at h
  ·rename_i cs hb;exact⟨cs,hb,h⟩
  ·exact h.elim
 ·rintro⟨cs,h1,h2⟩;rw[h1];exact h2
theorem jpB {i g off len:Nat}{ex:Bool}:zfrz K (.own i g off len ex) H↔ ∃k rows,H[i]?=some (.grow g k rows)∧off+len≤rows.length∧rows.flatten.all jbR=true∧K (.fz k ex ((rows.drop off).take len)) (H.set i .dead):=by
 simp only[zfrz];constructor
 ·intro h
  split at h
  ·rename_i g' k rows hb
   obtain⟨rfl,h1,h2,h3⟩:=h;exact⟨k,rows,hb,h1,h2,h3⟩
  ·exact h.elim
 ·rintro⟨k,rows,h1,h2,h3,h4⟩;rw[h1];exact⟨rfl,h2,h3,h4⟩
theorem jsJ {k:Nat}{e:Bool}{r:List (List ZV)}:zfrz K (.fz k e r) H↔K (.fz k e r) H:=by simp[zfrz,jbR]
theorem jpA {v:Value}:zfrz K (.val v) H↔K (.val v) H:=by simp[zfrz,jbR]
theorem jqf {cs:List ZV}:jbA [] cs H=some (cs,H):=rfl
theorem jm1 {j:Nat}{r:List (Nat×Nat)}{cs:List ZV}{p:List ZV×ZH}(hk:k<1000):jbA ((j,k)::r) cs H=some p↔cs[j]?=some .nil∧jbA r (cs.set j (.own H.length 0 0 0 false)) (H++[.grow 0 k []])=some p:=by
 simp only[jbA,if_neg (Nat.not_le.2 hk)];constructor
 ·intro h
  split at h
  ·rename_i hj;exact⟨hj,h⟩
  ·cases h
 ·rintro⟨h1,h2⟩;rw[h1];exact h2
theorem ownC_fz {j n:Nat}{r:List (Nat×Nat)}{cs:List ZV}{p:List ZV×ZH}(hk:1000≤n):jbA ((j,n)::r) cs H=some p↔cs[j]?=some .nil∧jbA r (cs.set j (.fz (n - 1000) false [])) H=some p:=by
 simp only[jbA,if_pos hk];constructor
 ·intro h
  split at h
  ·rename_i hj;exact⟨hj,h⟩
  ·cases h
 ·rintro⟨h1,h2⟩;rw[h1];exact h2
end
/-! ### Memory -/
section
variable {H e:ZH}
theorem H_at0:(H++e)[H.length]?=e[0]?:=by rw[N0 (V2 _),B4]
theorem H_atK {k:Nat}:(H++e)[H.length+k]?=e[k]?:=by rw[N0 (by omega)];congr 1;omega
theorem H_set0 {B:ZB}:(H++e).set H.length B=H++e.set 0 B:=by rw[B7 _ _ (V2 _),B4]
theorem H_setK {k:Nat}{B:ZB}:(H++e).set (H.length+k) B=H++e.set k B:=by rw[B7 _ _ (by omega),Nat.add_sub_cancel_left]
theorem H_app {i:Nat}{B:ZB}(h:H[i]?=some B)(e:ZH):(H++e)[i]?=some B:=by rw[V5 (U0.1 h).1];exact h
end
end
section
open Go Go.RowKit
section
variable {L:Nat→Bool}{S:ZS}{H:ZH}{X:XT}{F:FuncId→Option jbq}{G:Gh}
theorem jpg {t:Nat}:zres S H (.tmp t)=some (S t):=rfl
theorem jl5 {a:Nat}{n:Option Nat}:zres S H (.cell a n)=ldZ H n (S a):=rfl
theorem zres1 {r:ARes}:jcn S H [r]=zres S H r:=rfl
theorem zres2 {a b:ARes}{z:ZV}:jcn S H [a,b]=some z↔ ∃x y,zres S H a=some x∧zres S H b=some y∧ .tuple [x,y]=z:=by
 simp only[jcn,jl3]
 cases zres S H a<;>cases zres S H b<;>simp
theorem zres3 {a b c:ARes}{z:ZV}:jcn S H [a,b,c]=some z↔ ∃x y u,zres S H a=some x∧zres S H b=some y∧zres S H c=some u∧ .tuple [x,y,u]=z:=by
 simp only[jcn,jl3]
 cases zres S H a<;>cases zres S H b<;>cases zres S H c<;>simp
end
/-! ### From a law's arguments -/
def enc:(t:Ty)→t.val→List ZV
  | .int k,n=>[.val (.int k n)]
  | .bool,b=>[.val (.bool b)]
  | .str,s=>[.val (.string s)]
  | .unit,_=>[]
  | .prod a b,x=>enc a x.1++enc b x.2
  | .slice _ e,l=>[.fz e.size false (l.map (enc e))]
def TOk:(t:Ty)→t.val→Prop
  | .int k,n=>(Lit.int k n).wf=true
  | .bool,_=>True
  | .str,s=>s.size≤maxLen
  | .unit,_=>True
  | .prod a b,x=>TOk a x.1∧TOk b x.2
  | .slice _ e,l=>l.length≤maxLen∧ ∀x∈l,TOk e x
theorem jfS: ∀(t:Ty) (x:t.val),(enc t x).length=t.size
 | .int k,_=>rfl
 | .bool,_=>rfl
 | .str,_=>rfl
 | .unit,_=>rfl
 | .prod a b,x=>by simp[enc,jfS a,jfS b]
 | .slice _ e,l=>rfl
def FRs (Fr:Nat→Prop)(h:Heap)(zs:List ZV)(ys:List AV):Prop:=zs.length=ys.length∧ ∀(i:Nat) z a,zs[i]?=some z→ys[i]?=some a→FR Fr h z a
theorem jqy {h:Heap}: ∀(t:Ty) (cs:List AV) (x:t.val),AHas h t cs x→FRs (fun id=>id<h.length) h (enc t x) cs∧TOk t x
 | .int k,cs,n,hh=>by
  obtain⟨rfl,hw⟩:=hh;refine⟨⟨rfl,fun i z a hz ha=>?_⟩,hw⟩
  cases i with
  |zero=>simp[enc] at hz ha;subst hz;subst ha;exact .val _
  |succ i=>simp at ha
 | .bool,cs,b,hh=>by
  simp only[AHas] at hh;subst hh
  refine⟨⟨rfl,fun i z a hz ha=>?_⟩,trivial⟩
  cases i with
  |zero=>simp[enc] at hz ha;subst hz;subst ha;exact .val _
  |succ i=>simp at ha
 | .str,cs,s,hh=>by
  obtain⟨rfl,hw⟩:=hh;refine⟨⟨rfl,fun i z a hz ha=>?_⟩,hw⟩
  cases i with
  |zero=>simp[enc] at hz ha;subst hz;subst ha;exact .val _
  |succ i=>simp at ha
 | .unit,cs,x,hh=>by
  simp only[AHas] at hh;subst hh
  exact⟨⟨rfl,fun i z a hz ha=>by simp at ha⟩,trivial⟩
 | .prod a b,cs,x,hh=>by
  obtain⟨c,d,rfl,h1,h2⟩:=hh;obtain⟨i1,t1⟩:=jqy a c x.1 h1;obtain⟨i2,t2⟩:=jqy b d x.2 h2;refine⟨⟨by simp[enc,i1.1,i2.1],fun i z y hz hy=>?_⟩,t1,t2⟩;simp only[enc] at hz;by_cases hi:i<c.length
  ·rw[V5 (by rw[i1.1];exact hi)] at hz
   rw[V5 hi] at hy;exact i1.2 i z y hz hy
  ·rw[N0 (by rw[i1.1];omega),i1.1] at hz
   rw[N0 (by omega)] at hy;exact i2.2 _ z y hz hy
 | .slice by_ e,cs,l,hh=>by
  rcases hh with⟨hv,rfl⟩|⟨id,row,rfl,h1,h2,h3,h4⟩
  ·refine⟨⟨by rcases hv with rfl|rfl<;>rfl,fun i z a hz ha=>?_⟩,by simp[TOk,maxLen],by simp⟩
   cases i with
   |zero=>
    simp[enc] at hz;subst hz;refine .fnil ?_;rcases hv with rfl|rfl<;>(simp at ha;subst ha)
    ·exact .inl rfl
    ·exact .inr ⟨rfl,rfl⟩
   |succ i=>rcases hv with rfl|rfl<;>simp at ha
  ·have key:=fun i (hi:i<l.length)=>jqy e _ _ (h4 i hi)
   have hk: ∀r∈l.map (enc e),r.length=e.size:=fun r hr=>by
    obtain⟨x,_,rfl⟩:=List.mem_map.1 hr;exact jfS e x
   refine⟨⟨rfl,fun i z a hz ha=>?_⟩,h3,fun x hx=>?_⟩
   ·cases i with
    |zero=>
     simp[enc] at hz ha;subst hz;subst ha
     have:=FR.ofRows (Fr:=fun id=>id<h.length) (h:=h) (k:=e.size) (ex:=false) (rows:=l.map (enc e)) (id:=id) (off:=0) (lb:=l.length) (ex':=false) (row:=row) (jcm h1) h1 (by simp;omega) (by simp) (fun h=>by cases h) hk (fun i z hz=>?_)
     ·simpa using this
     ·-- a cell of the row
      by_cases hi:i<row.length
      ·refine⟨row[i],by rw[C8];exact U1 hi,?_⟩
       have hes:0<e.size:=by
        cases hes:e.size with
        |zero=>rw[hes] at h2;omega
        |succ n=>omega
       have hj:i / e.size<l.length:=by rw[Nat.div_lt_iff_lt_mul hes];omega
       have hm:i % e.size<e.size:=Nat.mod_lt _ hes;have hdm:i / e.size*e.size+i % e.size=i:=by rw[Nat.mul_comm];exact Nat.div_add_mod i e.size
       refine (key (i / e.size) hj).1.2 (i % e.size) z _ ?_ ?_
       ·have:=jpD hk (j:=i / e.size) (r:=enc e l[i / e.size]) (by simp[hj])
        rw[←this,O8,if_pos hm,O9,hdm];exact hz
       ·rw[O8,if_pos hm,O9,hdm];exact U1 hi
      ·have:=(U0.1 hz).1
       rw[jcE hk] at this;simp at this;omega
    |succ i=>simp at ha
   ·obtain⟨i,hi,rfl⟩:=List.mem_iff_getElem.1 hx
    exact (key i hi).2
def zArg (st:Bool)(cs:List ZV):ZV:=match st with|true=> .agg cs|false=>cs.headD .no
def ZArgs (Q:(t:Ty)→t.val→Prop):List (Bool×Ty)→List ZV→Prop
  |[],zl=>zl=[]
  |p::r,zl=> ∃x zl',zl=zArg p.1 (enc p.2 x)::zl'∧TOk p.2 x∧Q p.2 x∧ZArgs Q r zl'
theorem jpJ {Q:(t:Ty)→t.val→Prop}{w:Wd}(hF:w.Fr=fun id=>id<w.h.length): ∀{tys:List (Bool×Ty)} {al:List AV},jqZ tys=true→jo7 Q w.h tys al→ ∃zl,ZArgs Q tys zl∧ZRs w zl al
 |[],al,_,hh=>by
  simp only[jo7] at hh;subst hh
  exact⟨[],rfl,.nil⟩
 |p::r,al,hok,hh=>by
  obtain⟨cs,x,al',rfl,h1,h2,h3⟩:=hh;simp only[jqZ,U2] at hok;obtain⟨zl,i1,i2⟩:=jpJ hF hok.2 h3;obtain⟨f1,f2⟩:=jqy p.2 cs x h1;refine⟨_,⟨x,zl,rfl,f2,h2,i1⟩,.cons ?_ i2⟩;have f:ZRs w (enc p.2 x) cs:=⟨f1.1,fun i z a hz ha=> .fr (by rw[hF];exact f1.2 i z a hz ha)⟩;unfold zArg aArg
  cases hst:p.1 with
  |true=>exact f.toAgg
  |false=>
   have hl:(enc p.2 x).length=1:=by
    rw[hst] at hok;simp at hok
    rw[jfS];exact hok.1
   have hl2:cs.length=1:=by rw[←f.1];exact hl
   match he:enc p.2 x,cs,f,hl,hl2 with
   |[z],[a],f,_,_=>exact f.2 0 z a rfl rfl
theorem jsv {P:Program}(hmix:P.follows .mixedOrders=true){X:jby}(hX:jcP P X){pn:PX}(hY:YOk P pn)(hg: ∀v,¬ pn.g v){F:FuncId→Option jbq}(hF: ∀f af,F f=some af→jag P f=some af){f:FuncId}{tys:List (Bool×Ty)}{Q:(t:Ty)→t.val→Prop}(hok:jqZ tys=true)
  (main: ∀zl,ZArgs Q tys zl→ZC ⟨X,true,pn⟩ F f zl (fun _=>true) [] fun z _=>z= .val (.bool true)) (W:World) (args:Array Value) (hargs:jeI Q W W.heap.size tys args.toList) (hgl:GlOk W.heap.size W):
  Calls P f args W fun e W'=>e= .returned (.bool true)∧Below W.heap.size W W':=by
 have r0:Rels ([]:Heap).length W.heap.size (fun _=>none) [] W:=jp8 W hgl;obtain⟨al,h,m,_,r,ha,hv⟩:=jk8 tys hok [] (fun _=>none) r0 args.toList hargs;simp only[B8] at r ha;have rz:ZRel (fun i=>decide (h.length≤i)) (fun _=>true) ⟨fun id=>id<h.length,fun _=>none,[],h⟩:=by
  refine⟨fun id hi=>by simpa using hi,fun _ _=>rfl,fun id hi=>hi,(fun i p hp=>by cases hp),(fun i j p q hp=>by cases hp),(fun i p hp=>by cases hp),(fun i p hp=>by cases hp),(fun i cs hb=>by simp at hb),(fun i g k rows hb=>by simp at hb)⟩
 obtain⟨zl,h1,h2⟩:=jpJ (w:=⟨fun id=>id<h.length,fun _=>none,[],h⟩) rfl hok ha;have hm:jgu pn X F (some f) al _ h _:=main zl h1 _ _ al rz rfl h2;refine (jrf hY hmix hX hF hm r hv).mono fun e' W' hp=>?_
 rcases hp with⟨v,h',v',m',hk,rfl,p,hv'⟩|⟨pv,g,_⟩
 ·obtain⟨z,w',_,_,_,hz,rfl⟩:=hk
  rw[hz.val_inv] at hv';exact⟨by rw[hv'.lit],jkl p⟩
 ·exact (hg pv g).elim
end
section
open Go Go.RowKit
variable {H:ZH}{k:Nat}{z:ZV}{rows:List (List ZV)}
theorem rows_ext (h:ja2 H k z=some rows)(e:ZH):ja2 (H++e) k z=some rows:=by
 unfold ja2 at h ⊢;split
 ·exact h
 ·exact h
 ·rename_i i g off len ex
  simp only at h;split at h
  ·rename_i g' k' rows' hb
   rw[H_app hb e];exact h
  ·cases h
 ·rename_i h1 h2 h3
  split at h
  ·exact absurd rfl h1
  ·exact absurd rfl (h2 _ _ _)
  ·exact absurd rfl (h3 _ _ _ _ _)
  ·exact h
theorem ja3 (h:ja2 H k z=some rows):lenZ H z=some rows.length:=by
 unfold ja2 at h;split at h
 ·injection h with h;subst h;rfl
 ·split at h
  ·injection h with h;subst h;rfl
  ·cases h
 ·split at h
  ·rename_i g' k' rows' hb
   split at h
   ·rename_i hc
    obtain⟨rfl,rfl,hle⟩:=hc;injection h with h
    refine jlA.2 ⟨_,_,hb,?_⟩;rw[←h,C4,C5];omega
   ·cases h
  ·cases h
 ·cases h
theorem jtU (h:ja2 H k z=some rows):z.isCell=true:=by
 unfold ja2 at h;split at h<;>first|rfl|(cases h)
theorem jtT (h:ja2 H k z=some rows){j:Nat}(hj:j<rows.length): ∃p,jdd H k j z=some p∧ ∀n v,ldZ H n p=some v↔jdI rows[j] 0 n=some v:=by
 unfold ja2 at h;split at h
 ·injection h with h;subst h;simp at hj
 ·split at h
  ·rename_i k' ex rows' hk
   injection h with h;subst h;subst hk
   refine⟨_,jo3.2 ⟨hj,rfl⟩,fun n v=>?_⟩;rw[joz];simp[hj]
  ·cases h
 ·rename_i i g off len ex
  split at h
  ·rename_i g' k' rows' hb
   split at h
   ·rename_i hc
    obtain⟨rfl,rfl,hle⟩:=hc;injection h with h;subst h
    have hjl:j<len:=by rw[C4] at hj;omega
    refine⟨_,jbQ.2 ⟨rows',hb,hle,hjl,rfl⟩,fun n v=>?_⟩;rw[jbS];have hlt:off+j<rows'.length:=by omega
    constructor
    ·rintro⟨k2,rows2,r,h1,h2,h3⟩
     rw[hb] at h1;injection h1 with h1;injection h1 with _ _ h1;subst h1
     rw[U1 hlt] at h2;injection h2 with h2
     simp only[B9,P0];rw[h2];exact h3
    ·intro h3
     simp only[B9,P0] at h3;exact⟨_,_,_,hb,U1 hlt,h3⟩
   ·cases h
  ·cases h
 ·cases h
theorem jcS {α:Type}{f:α→List ZV}{l:List α}(h:ja2 H k z=some (l.map f)){j:Nat}(hj:j<l.length): ∃p,jdd H k j z=some p∧ ∀n,ldZ H n p=jdI (f l[j]) 0 n:=by
 obtain⟨p,h1,h2⟩:=jtT h (j:=j) (by simpa using hj);refine⟨p,h1,fun n=>?_⟩;simp only[List.getElem_map] at h2
 cases hp:jdI (f l[j]) 0 n with
 |some v=>exact (h2 n v).2 hp
 |none=>
  cases hl:ldZ H n p with
  |none=>rfl
  |some v=>have:=(h2 n v).1 hl;rw[hp] at this;cases this
def SlK:List (Nat×ZV)→ZS→Prop
  |[],_=>True
  |p::r,s=>s p.1=p.2∧SlK r s
theorem SlK.keep {s s':ZS}: ∀{l:List (Nat×ZV)},(∀p∈l,s' p.1=s p.1)→SlK l s→SlK l s'
 |[],_,_=>trivial
 |p::r,h,hk=>⟨(h p (by simp)).trans hk.1,SlK.keep (fun q hq=>h q (by simp[hq])) hk.2⟩
section
variable {L:Nat→Bool}{S:ZS}{X:XT}{F:FuncId→Option jbq}{G:Gh}
theorem jaK {B Cn tc ti tl tn:Nat}{body:jam}{K:jaA→ZS→ZH→Prop}(kp:List (Nat×ZV))(N:Nat)(I:Nat→ZS→ZH→Prop)(hN:N<9223372036854775807)(hG:G.own.lookup tc=none∧G.own.lookup tn=none∧G.own.lookup ti=none∧G.frz.contains tc=false∧G.frz.contains tn=false∧G.frz.contains ti=false)(hti:S ti=Z64 (0:Nat))(htl:S tl=Z64 N)(hkp:SlK kp S)(hq:((tl::kp.map Prod.fst).all fun t=> !(wrs body++[tc,ti,tn]).contains t)=true)(h2:(wrs body).contains ti=false)(h3:tc≠ti∧tc≠tl∧tn≠ti∧tn≠tl∧ti≠tl)
  (h0:I 0 S H)
  (round: ∀k s' h',k<N→I k s' h'→s' ti=Z64 k→s' tl=Z64 N→SlK kp s'→
   zW X F G L body (zupd s' tc (ZBo true)) h' (jdF Cn (jhF (fun s2 h2=>I (k+1) (zupd (zupd s2 tn (Z64 (k+1:Nat))) ti (Z64 (k+1:Nat))) h2) (jdF B K))))
  (done: ∀s' h',I N s' h'→SlK kp s'→K .normal (zupd s' tc (ZBo false)) h'):zW X F G L (jau B Cn tc ti tl tn body) S H K:=by
 have hq': ∀t∈tl::kp.map Prod.fst,(wrs body++[tc,ti,tn]).contains t=false:=fun t ht=>by simpa using N2.1 hq t ht
 have h1:(wrs body).contains tl=false:=by
  have:=hq' tl (by simp)
  cases hc:(wrs body).contains tl with
  |false=>rfl
  |true=>rw[B2.2 (A7 _ (B2.1 hc))] at this;cases this
 have keep: ∀s',(∀t,(wrs body++[tc,ti,tn]).contains t=false→s' t=S t)→SlK kp s':=fun s' h=>SlK.keep (fun p hp=>h p.1 (hq' p.1 (List.mem_cons_of_mem _ (P1 hp)))) hkp
 exact zW_for N hN hG hti htl h1 h2 h3 I h0 (fun k s' h' a b c d e=>round k s' h' a b c d (keep s' e)) fun s' h' a b=>done s' h' a (keep s' b)
theorem jcV {c:jam}{K:jaA→ZS→ZH→Prop}(kp:List (Nat×ZV))(n0:Nat)(I:Nat→ZS→ZH→Prop)(hkp:SlK kp S)(hq:((kp.map Prod.fst).all fun t=> !(wrs c).contains t)=true)(h0:I n0 S H)(round: ∀n s' h',I n s' h'→SlK kp s'→zW X F G L c s' h' (jhF (fun S2 H2=> ∃m,m<n∧I m S2 H2) K)):zW X F G L (.loop c) S H K:=by
 refine jpO I n0 h0 fun n s' h' hI hs=>round n s' h' hI (SlK.keep (fun p hp=>hs p.1 fun hm=>?_) hkp)
 have:=N2.1 hq p.1 (P1 hp);rw[B2.2 hm] at this;cases this
end
abbrev eI (n:Int):List ZV:=[Z64 n]
abbrev eB (b:Bool):List ZV:=[ZBo b]
abbrev zI (l:List Int):ZV:= .fz 1 false (l.map eI)
theorem jfd {α β:Type}{f:α→β}{l:List α}:(l.map f).take l.length=l.map f:=I5 (by simp)
theorem jbz {i g:Nat}{ex:Bool}{rows:List (List ZV)}{n:Nat}(h:H[i]?=some (.grow g k rows))(hn:rows.length=n):ja2 H k (.own i g 0 n ex)=some rows:=by
 rw[jlu];exact⟨rows,h,by omega,by rw[W1,I5 (by omega)]⟩
end
section
open Go Go.RowKit
variable {fl L:Nat→Bool}{w:Wd}
theorem jtS (r:ZRel fl L w){z:ZV}{a:AV}(hz:ZR w z a){k:Nat}{rows:List (List ZV)}(hr:ja2 w.H k z=some rows): ∃cells,Sl w.h k a cells rows.length∧ZRs w rows.flatten cells:=by
 obtain⟨cells,h1,h2,h3⟩:=jgq r hz hr;refine⟨cells,⟨by rw[←h2.1,jcE h3],?_⟩,h2⟩;have hlen:=ja3 hr;have hb:(a= .nil∨a= .hole)∨ ∃id off len lb ex k',a= .slice id off len lb ex k'∧len≤lb:=by
  unfold ja2 at hr;split at hr
  ·exact .inl (.inl hz.val_inv)
  ·split at hr
   ·rcases hz.fz_inv.rows with⟨_,e⟩|⟨id,off,lb,ex',row,e,q1,q2,q3,q4,_⟩
    ·exact .inl (e.imp id fun q=>q.1)
    ·exact .inr ⟨id,off,_,lb,ex',_,e,q4⟩
   ·cases hr
  ·rename_i i g off len ex
   split at hr
   ·rename_i g' k' rows' hB
    split at hr
    ·rename_i hc
     obtain⟨rfl,rfl,hle⟩:=hc
     cases hz with
     |fr hf=>cases hf
     |own p1 p2 p3 p4=>
      rcases (p2 _ _ _ hB).2 rfl with⟨_,_,_,_,e|⟨id,o,row,e,_⟩⟩|⟨id,b,lb,ex',row,_,e,_,q4,_⟩
      ·exact .inl (.inl e)
      ·exact .inr ⟨id,o,0,0,true,_,e,V2 _⟩
      ·exact .inr ⟨id,_,_,lb,ex',_,e,q4⟩
    ·cases hr
   ·cases hr
  ·cases hr
 rcases hb with e|⟨id,off,len,lb,ex,k',rfl,hle⟩
 ·left
  refine⟨?_,e⟩;rcases e with rfl|rfl<;>(simp only[jdN,U4,O4] at h1;exact h1.1.symm)
 ·right
  simp only[jdN] at h1
  cases hrd:rd w.h id off (len*k) with
  |none=>rw[hrd] at h1;cases h1
  |some cs=>
   rw[hrd] at h1;simp only[U4,O4] at h1;obtain⟨e1,e2⟩:=h1;subst e2;have hk':k'=k:=by
    -- the size told
    unfold ja2 at hr;split at hr
    ·have:=hz.val_inv;cases this
    ·split at hr
     ·rename_i hk;injection hr with hr;subst hr;subst hk
      rcases hz.fz_inv.rows with⟨_,e|⟨e,_⟩⟩|⟨id,off,lb,ex',row,e,_⟩
      ·cases e
      ·cases e
      ·injection e
     ·cases hr
    ·split at hr
     ·rename_i g' k2 rows' hB
      split at hr
      ·rename_i hc
       obtain⟨rfl,rfl,hle2⟩:=hc
       cases hz with
       |fr hf=>cases hf
       |own p1 p2 p3 p4=>
        rcases (p2 _ _ _ hB).2 rfl with⟨_,_,_,_,e|⟨id,o,row,e,_⟩⟩|⟨id,b,lb,ex',row,_,e,_⟩
        ·cases e
        ·injection e
        ·injection e
      ·cases hr
     ·cases hr
    ·cases hr
   unfold rd at hrd;split at hrd
   ·rename_i row hrow
    split at hrd
    ·rename_i hfit
     injection hrd with hrd
     subst hk';exact⟨id,off,lb,ex,row,by rw[e1],by omega,hrow,by rw[←e1];exact hfit,by rw[←e1];exact hrd⟩
    ·cases hrd
   ·cases hrd
theorem jgi {α:Type}(l:List α)(f:α→ZV):(l.map fun x=>[f x]).flatten=l.map f:=by induction l with
 |nil=>rfl
 |cons a l ih=>simp[ih]
theorem il_of (r:ZRel fl L w){z:ZV}{a:AV}(hz:ZR w z a){l:List Int}(hr:ja2 w.H 1 z=some (l.map eI)):IL w.h a l:=by
 obtain⟨cells,h1,h2⟩:=jtS r hz hr;rw[P2] at h1;have:cells=l.map I64:=by
  rw[jgi l Z64] at h2;apply List.ext_getElem (by rw[←h2.1];simp)
  intro i hi hi';have hil:i<l.length:=by simpa using hi'
  have:=(h2.2 i (Z64 l[i]) cells[i] (by simp[hil]) (U1 hi)).val_inv;rw[this];simp
 rw[this] at h1;exact h1
theorem ll_of (r:ZRel fl L w){z:ZV}{a:AV}(hz:ZR w z a){ls:List (List Int)}(hr:ja2 w.H 1 z=some (ls.map fun l=>[zI l])):LL w.h a ls:=by
 obtain⟨cells,h1,h2⟩:=jtS r hz hr;rw[P2] at h1;rw[jgi ls zI] at h2;have hl:cells.length=ls.length:=by rw[←h2.1];simp
 refine⟨cells,hl,h1,fun i hi hv=>?_⟩;exact il_of r (h2.2 i (zI ls[i]) cells[i] (by simp[hi]) (U1 hv)) jaM
theorem keep_w (r:ZRel fl L w){h':Heap}(k:Keep w.h h' []):ZRel fl L ⟨w.Fr,w.mu,w.H,h'⟩∧Ext w ⟨w.Fr,w.mu,w.H,h'⟩:=by
 have hb: ∀id row,blk w.h id=some row→blk h' id=some row:=fun id row h=>k.2 id row (by simp) h
 have e:Ext w ⟨w.Fr,w.mu,w.H,h'⟩:=⟨fun _ h=>h,fun id row _ h=>hb id row h,k.1,V2 _,fun i p h=> .inl ⟨p,h,rfl⟩,fun i cs h=>⟨⟨cs,h⟩,rfl⟩,fun i cs _ h=>⟨cs,h⟩,fun i g k rows hi h=>⟨g,rows,h,V2 _,fun _=>⟨rfl,rfl,fun id b row _ hr=>⟨row,hb id row hr,rfl⟩⟩⟩⟩;refine⟨⟨fun id h=>r.fresh id (V3 k.1 h),r.lfresh,fun id h=>V0 (r.frlt id h) k.1,r.dom,r.inj,fun i p h=>⟨(r.nfr i p h).1,V0 (r.nfr i p h).2 k.1⟩,r.wr,fun i cs h=>?_,fun i g k rows h=>?_⟩,e⟩
 ·obtain⟨id,row,h1,h2,h3⟩:=r.box i cs h
  exact⟨id,row,h1,hb id row h2,h3.ext e⟩
 ·obtain⟨h0,h1|⟨id,b,row,h1,h2,h3,h4⟩⟩:=r.grow i g k rows h
  ·exact⟨h0,.inl h1⟩
  ·exact⟨h0,.inr ⟨id,b,row,h1,hb id row h2,h3,h4.ext e⟩⟩
theorem new_w (r:ZRel fl L w){h':Heap}{k n:Nat}{v:AV}{cs:List AV}{rows:List (List ZV)}(hn:New w.h h' k v cs n)(hk: ∀x∈rows,x.length=k)(hl:rows.length=n)(hc: ∀w',ZRs w' rows.flatten cs):
  ∃w',w'.h=h'∧w'.H=w.H++[.grow 0 k rows]∧ZRel fl L w'∧Ext w w'∧ZR w' (.own w.H.length 0 0 n false) v:=by
 obtain⟨ho,hv,hkp⟩:=hn;obtain⟨r1,e1⟩:=keep_w r hkp;obtain⟨h1,⟨rfl,rfl⟩|⟨id,lb,row,rfl,h2,h3,h4,h5⟩⟩:=ho
 ·have:rows=[]:=List.eq_nil_of_length_eq_zero hl
  subst this;obtain⟨w',q1,q2,q3,q4,q5,q6⟩:=jjz r1 k;exact⟨w',q1,q2,q5,e1.trans q6,jf9 q5 (k:=k) (by rw[q2];simp) q3 (.inl rfl)⟩
 ·have hid:w.h.length≤id:=hv id (by simp[idOf])
  have hidl:id<h'.length:=jcm h4;have hnk:n*k≤lb*k:=E9 _ h2;obtain⟨m,hm⟩: ∃m:Nat→Option (Nat×Nat),m=fun i=>if i=w.H.length then some (id,0) else w.mu i:=⟨_,rfl⟩
  have m1:m w.H.length=some (id,0):=by rw[hm];simp
  have m2: ∀i,i≠w.H.length→m i=w.mu i:=fun i hi=>by rw[hm];simp[hi]
  have hmm: ∀i p,m i=some p→(i=w.H.length∧p=(id,0))∨(i<w.H.length∧w.mu i=some p):=fun i p h=>by
   by_cases hi:i=w.H.length
   ·subst hi;rw[m1] at h;injection h with h;exact .inl ⟨rfl,h.symm⟩
   ·rw[m2 i hi] at h;exact .inr ⟨r.dom i p h,h⟩
  have hget: ∀(i:Nat) C,(w.H++[.grow 0 k rows])[i]?=some C→(i<w.H.length∧w.H[i]?=some C)∨(i=w.H.length∧C= .grow 0 k rows):=fun i C h=>by
   by_cases hi:i<w.H.length
   ·rw[V5 hi] at h;exact .inl ⟨hi,h⟩
   ·rw[N0 (by omega)] at h
    have:i - w.H.length=0:=by
     have:=(U0.1 h).1;simp at this;omega
    rw[this] at h;simp at h;exact .inr ⟨by omega,h.symm⟩
  have hb: ∀id row,blk w.h id=some row→blk h' id=some row:=fun id row h=>hkp.2 id row (by simp) h
  have e:Ext w ⟨w.Fr,m,w.H++[.grow 0 k rows],h'⟩:=by
   refine⟨fun _ h=>h,fun id row _ h=>hb id row h,hkp.1,by simp,fun i p h=>?_,fun i cs h=>?_,fun i cs hi h=>(hget i _ h).elim (fun q=>⟨cs,q.2⟩) (fun q=>absurd hi (by omega)),fun i g k' rows' hi h=>?_⟩
   ·rcases hmm i p h with⟨rfl,rfl⟩|⟨_,h⟩
    ·exact .inr hid
    ·exact .inl ⟨p,h,rfl⟩
   ·have hi:=jap h
    exact⟨⟨cs,by show (w.H++_)[i]?=_;rw[V5 hi];exact h⟩,m2 i (by omega)⟩
   ·rcases hget i _ h with⟨_,h⟩|⟨h,_⟩
    ·exact⟨g,rows',h,V2 _,fun _=>⟨m2 i (by omega),rfl,fun id b row _ hr=>⟨row,hb id row hr,rfl⟩⟩⟩
    ·omega
  have rr:ZRel fl L ⟨w.Fr,m,w.H++[.grow 0 k rows],h'⟩:=by
   refine⟨fun id h=>r.fresh id (V3 hkp.1 h),fun i h=>r.lfresh i (by simp at h;omega),fun id h=>V0 (r.frlt id h) hkp.1,fun i p h=>?_,fun i j p q hi hj he=>?_,fun i p h=>?_,fun i p h hl=>?_,fun i cs h=>?_,fun i g k' rows' h=>?_⟩
   ·rcases hmm i p h with⟨rfl,_⟩|⟨h,_⟩<;>simp;omega
   ·rcases hmm i p hi with⟨rfl,rfl⟩|⟨h1,h2⟩<;>rcases hmm j q hj with⟨rfl,rfl⟩|⟨h3,h4⟩
    ·rfl
    ·have:=(r.nfr j q h4).2;simp at he;omega
    ·have:=(r.nfr i p h2).2;simp at he;omega
    ·exact r.inj i j p q h2 h4 he
   ·rcases hmm i p h with⟨rfl,rfl⟩|⟨_,h⟩
    ·exact⟨fun q=>by have:=r.frlt _ q;simp at this;omega,hidl⟩
    ·exact⟨(r.nfr i p h).1,V0 (r.nfr i p h).2 hkp.1⟩
   ·rcases hmm i p h with⟨rfl,rfl⟩|⟨_,h⟩
    ·exact r.fresh _ hid
    ·exact r.wr i p h hl
   ·rcases hget i _ h with⟨hi,h⟩|⟨rfl,hq⟩
    ·obtain⟨id,row0,h1,h2,h3⟩:=r.box i cs h
     exact⟨id,row0,(m2 i (by omega)).trans h1,hb id row0 h2,h3.ext e⟩
    ·cases hq
   ·rcases hget i _ h with⟨hi,h⟩|⟨rfl,hq⟩
    ·obtain⟨h0,h1|⟨id,b,row0,h1,h2,h3,h4⟩⟩:=r.grow i g k' rows' h
     ·exact⟨h0,.inl ⟨(m2 i (by omega)).trans h1.1,h1.2⟩⟩
     ·exact⟨h0,.inr ⟨id,b,row0,(m2 i (by omega)).trans h1,hb id row0 h2,h3,h4.ext e⟩⟩
    ·injection hq with t1 t2 t3;subst t1;subst t2;subst t3
     exact⟨hk,.inr ⟨id,0,row,m1,h4,by rw[hl];omega,by rw[hl,W1,h5];exact hc _⟩⟩
  refine⟨_,rfl,rfl,rr,e,?_⟩;have:=jiH rr (i:=w.H.length) (g:=0) (k:=k) (rows:=rows) (by simp) (id:=id) (b:=0) (off:=0) (len:=n) (lb:=lb) (ex:=false) (ex':=false) (row:=row) m1 h4 (by omega) h2 (by omega) (fun h=>by cases h);simpa using this
theorem jpV {α:Type}{g:α→Value}(l:List α)(w:Wd):ZRs w (l.map fun x=> .val (g x)) (l.map fun x=> .val (g x)):=by
 refine⟨by simp,fun i z a hz ha=>?_⟩;rw[U8] at hz ha
 cases hx:l[i]? with
 |none=>rw[hx] at hz;cases hz
 |some x=>
  rw[hx] at hz ha;simp only[U9,U4] at hz ha;subst hz;subst ha;exact .fr (.val _)
theorem newI_w (r:ZRel fl L w){h':Heap}{v:AV}{l:List Int}(hn:NewI w.h h' v l): ∃w',w'.h=h'∧w'.H=w.H++[.grow 0 1 (l.map eI)]∧ZRel fl L w'∧Ext w w'∧ZR w' (.own w.H.length 0 0 l.length false) v:=
 new_w r hn (by simp) (by simp) fun w'=>by rw[jgi l Z64];exact jpV l w'
end
section
open Go Go.RowKit
theorem zmPack:type_of% (P3 (P3 (P3 (P3 (P3 (P3 (P3 (P3 @zgoN @zW_ops) (P3 @js8 @jpR)) (P3 (P3 @js7 @zW_ret) (P3 @js3 @jpQ))) (P3 (P3 (P3 @js4 @jew) (P3 @js9 @jpS)) (P3 (P3 @jpT @jmt) (P3 @jip @jmy)))) (P3 (P3 (P3 (P3 @jaQ @ja8) (P3 @jjK @jgf)) (P3 (P3 @jgh @jib) (P3 @jjS @z_mv))) (P3 (P3 (P3 @z_pick @z_box) (P3 @z_zero @js1)) (P3 (P3 @z_lits @z_load) (P3 @jsT @jj5))))) (P3 (P3 (P3 (P3 (P3 @z_bin @jsZ) (P3 @jpM @js0)) (P3 (P3 @z_un @z_conv) (P3 @jsY @jik))) (P3 (P3 (P3 @jij @jj7) (P3 @jsX @jj6)) (P3 (P3 @jsU @jmq) (P3 @jms @z_func)))) (P3 (P3 (P3 (P3 @z_call @jpN) (P3 @z_len @jpL)) (P3 (P3 @z_copy @jpK) (P3 @jsP @jsO))) (P3 (P3 (P3 @jpG @jsQ) (P3 @zev_no @jpF)) (P3 (P3 @jmk @jsR) (P3 @jpH (P3 @jjM @jh9))))))) (P3 (P3 (P3 (P3 (P3 (P3 @jng @jkt) (P3 @jl7 @jl8)) (P3 (P3 @jaj @jsw) (P3 @jmA @jka))) (P3 (P3 (P3 @jj9 @jgx) (P3 @jjY @jml)) (P3 (P3 @jj0 @jjZ) (P3 @jih @jj1)))) (P3 (P3 (P3 (P3 @jmm @jpI) (P3 @jmo @jmn)) (P3 (P3 @jj2 @jqc) (P3 @jt5 @jkn))) (P3 (P3 (P3 @jiP @jiO) (P3 @jiN @jvv)) (P3 (P3 @jqT @jqS) (P3 @jmX @jmW))))) (P3 (P3 (P3 (P3 (P3 @jo3 @jbQ) (P3 @ld_ptr @jbS)) (P3 (P3 @joz @jmE) (P3 @jfe @jp5))) (P3 (P3 (P3 @jaM @jlu) (P3 @jui @len_fz)) (P3 (P3 @jlA @jvq) (P3 @jcU @jqP)))) (P3 (P3 (P3 (P3 @jvr @H_at0) (P3 @H_atK @H_set0)) (P3 (P3 @H_setK @zres1) (P3 @zres2 @zres3))) (P3 (P3 (P3 @jpg @jl5) (P3 @zh_bin @zh_mv)) (P3 (P3 @zh_mvV @jhp) (P3 @jho (P3 @jie @jpr)))))))) (P3 (P3 (P3 (P3 (P3 (P3 (P3 @jic @jps) (P3 @jsA @zh_nil)) (P3 (P3 @zu_bin @zu_mv) (P3 @jhn @jhm))) (P3 (P3 (P3 @jh7 @jo9) (P3 @jh5 @jpa)) (P3 (P3 @jse @zu_nil) (P3 @jn2 @jnw)))) (P3 (P3 (P3 (P3 @jkC @jqU) (P3 @jn4 @jt8)) (P3 (P3 @jqk @jqg) (P3 @jqh @jqi))) (P3 (P3 (P3 @jqj @juY) (P3 @exL_av @jmU)) (P3 (P3 @jsk @jsz) (P3 @jsd @zh_box))))) (P3 (P3 (P3 (P3 (P3 @zu_box @jsy) (P3 @jsc @jpx)) (P3 (P3 @jpf @jsB) (P3 @jsf @jpq))) (P3 (P3 (P3 @jo8 @jpv) (P3 @jpd @jme)) (P3 (P3 @jl1 @jpw) (P3 @jpe @zh_un)))) (P3 (P3 (P3 (P3 @zu_un @jsE) (P3 @jsi @jpu)) (P3 (P3 @jpc @jpt) (P3 @jpb @jid))) (P3 (P3 (P3 @jh6 @jjT) (P3 @jjI @jjU)) (P3 (P3 @jjJ @jsC) (P3 @jsg (P3 @jsF @jsj))))))) (P3 (P3 (P3 (P3 (P3 (P3 @jmf @jl2) (P3 @zh_len @zu_len)) (P3 (P3 @jmd @jl0) (P3 @jsD @jsh))) (P3 (P3 (P3 @jmc @jlZ) (P3 @jpE @jma)) (P3 (P3 @jl9 @jph) (P3 @jmj @jjO)))) (P3 (P3 (P3 (P3 @jjN @jl6) (P3 @jsL @jpk)) (P3 (P3 @jpi @jsl) (P3 @jsM @jpl))) (P3 (P3 (P3 @jpj @jsm) (P3 @jsK @jso)) (P3 (P3 @jb1 @jb2) (P3 @jb3 @jb4))))) (P3 (P3 (P3 (P3 (P3 @jb5 @jbZ) (P3 @jbT @jbY)) (P3 (P3 @jb0 @jcW) (P3 @jmg @jjW))) (P3 (P3 (P3 @jjV @jmh) (P3 @jsG @jpz)) (P3 (P3 @jpy @jpo) (P3 @jpn @jst)))) (P3 (P3 (P3 (P3 @jpp @jpm) (P3 @jpB @jsJ)) (P3 (P3 @jpA @jqf) (P3 @jm1 @jmb))) (P3 (P3 (P3 @js5 @det_mk) (P3 @jhq @jgk)) (P3 (P3 @js2 @jj4) @jgf))))))):=(P3 (P3 (P3 (P3 (P3 (P3 (P3 (P3 @zgoN @zW_ops) (P3 @js8 @jpR)) (P3 (P3 @js7 @zW_ret) (P3 @js3 @jpQ))) (P3 (P3 (P3 @js4 @jew) (P3 @js9 @jpS)) (P3 (P3 @jpT @jmt) (P3 @jip @jmy)))) (P3 (P3 (P3 (P3 @jaQ @ja8) (P3 @jjK @jgf)) (P3 (P3 @jgh @jib) (P3 @jjS @z_mv))) (P3 (P3 (P3 @z_pick @z_box) (P3 @z_zero @js1)) (P3 (P3 @z_lits @z_load) (P3 @jsT @jj5))))) (P3 (P3 (P3 (P3 (P3 @z_bin @jsZ) (P3 @jpM @js0)) (P3 (P3 @z_un @z_conv) (P3 @jsY @jik))) (P3 (P3 (P3 @jij @jj7) (P3 @jsX @jj6)) (P3 (P3 @jsU @jmq) (P3 @jms @z_func)))) (P3 (P3 (P3 (P3 @z_call @jpN) (P3 @z_len @jpL)) (P3 (P3 @z_copy @jpK) (P3 @jsP @jsO))) (P3 (P3 (P3 @jpG @jsQ) (P3 @zev_no @jpF)) (P3 (P3 @jmk @jsR) (P3 @jpH (P3 @jjM @jh9))))))) (P3 (P3 (P3 (P3 (P3 (P3 @jng @jkt) (P3 @jl7 @jl8)) (P3 (P3 @jaj @jsw) (P3 @jmA @jka))) (P3 (P3 (P3 @jj9 @jgx) (P3 @jjY @jml)) (P3 (P3 @jj0 @jjZ) (P3 @jih @jj1)))) (P3 (P3 (P3 (P3 @jmm @jpI) (P3 @jmo @jmn)) (P3 (P3 @jj2 @jqc) (P3 @jt5 @jkn))) (P3 (P3 (P3 @jiP @jiO) (P3 @jiN @jvv)) (P3 (P3 @jqT @jqS) (P3 @jmX @jmW))))) (P3 (P3 (P3 (P3 (P3 @jo3 @jbQ) (P3 @ld_ptr @jbS)) (P3 (P3 @joz @jmE) (P3 @jfe @jp5))) (P3 (P3 (P3 @jaM @jlu) (P3 @jui @len_fz)) (P3 (P3 @jlA @jvq) (P3 @jcU @jqP)))) (P3 (P3 (P3 (P3 @jvr @H_at0) (P3 @H_atK @H_set0)) (P3 (P3 @H_setK @zres1) (P3 @zres2 @zres3))) (P3 (P3 (P3 @jpg @jl5) (P3 @zh_bin @zh_mv)) (P3 (P3 @zh_mvV @jhp) (P3 @jho (P3 @jie @jpr)))))))) (P3 (P3 (P3 (P3 (P3 (P3 (P3 @jic @jps) (P3 @jsA @zh_nil)) (P3 (P3 @zu_bin @zu_mv) (P3 @jhn @jhm))) (P3 (P3 (P3 @jh7 @jo9) (P3 @jh5 @jpa)) (P3 (P3 @jse @zu_nil) (P3 @jn2 @jnw)))) (P3 (P3 (P3 (P3 @jkC @jqU) (P3 @jn4 @jt8)) (P3 (P3 @jqk @jqg) (P3 @jqh @jqi))) (P3 (P3 (P3 @jqj @juY) (P3 @exL_av @jmU)) (P3 (P3 @jsk @jsz) (P3 @jsd @zh_box))))) (P3 (P3 (P3 (P3 (P3 @zu_box @jsy) (P3 @jsc @jpx)) (P3 (P3 @jpf @jsB) (P3 @jsf @jpq))) (P3 (P3 (P3 @jo8 @jpv) (P3 @jpd @jme)) (P3 (P3 @jl1 @jpw) (P3 @jpe @zh_un)))) (P3 (P3 (P3 (P3 @zu_un @jsE) (P3 @jsi @jpu)) (P3 (P3 @jpc @jpt) (P3 @jpb @jid))) (P3 (P3 (P3 @jh6 @jjT) (P3 @jjI @jjU)) (P3 (P3 @jjJ @jsC) (P3 @jsg (P3 @jsF @jsj))))))) (P3 (P3 (P3 (P3 (P3 (P3 @jmf @jl2) (P3 @zh_len @zu_len)) (P3 (P3 @jmd @jl0) (P3 @jsD @jsh))) (P3 (P3 (P3 @jmc @jlZ) (P3 @jpE @jma)) (P3 (P3 @jl9 @jph) (P3 @jmj @jjO)))) (P3 (P3 (P3 (P3 @jjN @jl6) (P3 @jsL @jpk)) (P3 (P3 @jpi @jsl) (P3 @jsM @jpl))) (P3 (P3 (P3 @jpj @jsm) (P3 @jsK @jso)) (P3 (P3 @jb1 @jb2) (P3 @jb3 @jb4))))) (P3 (P3 (P3 (P3 (P3 @jb5 @jbZ) (P3 @jbT @jbY)) (P3 (P3 @jb0 @jcW) (P3 @jmg @jjW))) (P3 (P3 (P3 @jjV @jmh) (P3 @jsG @jpz)) (P3 (P3 @jpy @jpo) (P3 @jpn @jst)))) (P3 (P3 (P3 (P3 @jpp @jpm) (P3 @jpB @jsJ)) (P3 (P3 @jpA @jqf) (P3 @jm1 @jmb))) (P3 (P3 (P3 @js5 @det_mk) (P3 @jhq @jgk)) (P3 (P3 @js2 @jj4) @jgf)))))))
theorem zxPack:type_of% (P3 (P3 (P3 (P3 (P3 (P3 @P4.{0} (P3 @P5.{0} @Bool.or_false)) (P3 @Bool.or_true (P3 @P6 @Bool.true_or))) (P3 (P3 @ZV.val.injEq (P3 @ZV.ptr.injEq @ZV.own.injEq)) (P3 @ZV.fz.injEq (P3 @ZV.func.injEq @ZV.tuple.injEq)))) (P3 (P3 (P3 @ZV.agg.injEq (P3 @ZB.box.injEq @ZB.grow.injEq)) (P3 @P7 (P3 @O4.{0,0} @and_assoc))) (P3 (P3 @decide_false (P3 @decide_true @P8)) (P3 @P9 (P3 @S3 @N6))))) (P3 (P3 (P3 (P3 @exists_false.{1} (P3 @S4 @Bool.not_not)) (P3 @Value.bool.injEq (P3 @Value.int.injEq @U4.{0}))) (P3 (P3 @exists_eq_left'.{1} (P3 @exists_eq_left.{1} @exists_and_left.{1})) (P3 @exists_and_right.{1} (P3 @and_true @true_and)))) (P3 (P3 (P3 @decide_eq_true_eq (P3 @decide_eq_false_iff_not @if_true.{1})) (P3 @if_false.{1} (P3 @A9 @beq_true))) (P3 (P3 @beq_false (P3 @not_true_eq_false @not_false_eq_true)) (P3 (P3 @S5.{0} @S6.{0}) (P3 @List.getD_nil.{0} @B6.{0,0})))))) (P3 (P3 (P3 (P3 (P3 @List.map_nil.{0,0} (P3 @A0.{0} @ite_true.{1})) (P3 @ite_false.{1} (P3 @or_true @true_or))) (P3 (P3 @or_false (P3 @false_or @true_imp_iff)) (P3 @false_imp_iff (P3 @imp_false @and_self)))) (P3 (P3 (P3 @imp_self (P3 @and_false @false_and)) (P3 @jfd (P3 @V2 @Q3.{0}))) (P3 (P3 @G9.{0} (P3 @P2.{0,0} @D5.{0})) (P3 @List.all_cons.{0} (P3 @List.all_nil.{0} @Bool.and_self))))) (P3 (P3 (P3 (P3 @S7.{0,0} (P3 @U9.{0,0} @S8.{0})) (P3 @S9.{0} (P3 @Nat.lt_add_one @M8.{0}))) (P3 (P3 @N9.{0} (P3 @B8.{0} @G3.{0})) (P3 @F3.{0} (P3 @F4.{0} @List.take_nil.{0})))) (P3 (P3 (P3 @W1.{0} (P3 @W4.{0} @List.drop_nil.{0})) (P3 @F5.{0} (P3 @Q5.{0} @U8.{0,0}))) (P3 (P3 @F6 (P3 @C8 @Nat.add_zero)) (P3 (P3 @Nat.mul_one @Nat.one_mul) (P3 @D6.{0} @F7.{0}))))))):=P3 (P3 (P3 (P3 (P3 (P3 @P4.{0} (P3 @P5.{0} @Bool.or_false)) (P3 @Bool.or_true (P3 @P6 @Bool.true_or))) (P3 (P3 @ZV.val.injEq (P3 @ZV.ptr.injEq @ZV.own.injEq)) (P3 @ZV.fz.injEq (P3 @ZV.func.injEq @ZV.tuple.injEq)))) (P3 (P3 (P3 @ZV.agg.injEq (P3 @ZB.box.injEq @ZB.grow.injEq)) (P3 @P7 (P3 @O4.{0,0} @and_assoc))) (P3 (P3 @decide_false (P3 @decide_true @P8)) (P3 @P9 (P3 @S3 @N6))))) (P3 (P3 (P3 (P3 @exists_false.{1} (P3 @S4 @Bool.not_not)) (P3 @Value.bool.injEq (P3 @Value.int.injEq @U4.{0}))) (P3 (P3 @exists_eq_left'.{1} (P3 @exists_eq_left.{1} @exists_and_left.{1})) (P3 @exists_and_right.{1} (P3 @and_true @true_and)))) (P3 (P3 (P3 @decide_eq_true_eq (P3 @decide_eq_false_iff_not @if_true.{1})) (P3 @if_false.{1} (P3 @A9 @beq_true))) (P3 (P3 @beq_false (P3 @not_true_eq_false @not_false_eq_true)) (P3 (P3 @S5.{0} @S6.{0}) (P3 @List.getD_nil.{0} @B6.{0,0})))))) (P3 (P3 (P3 (P3 (P3 @List.map_nil.{0,0} (P3 @A0.{0} @ite_true.{1})) (P3 @ite_false.{1} (P3 @or_true @true_or))) (P3 (P3 @or_false (P3 @false_or @true_imp_iff)) (P3 @false_imp_iff (P3 @imp_false @and_self)))) (P3 (P3 (P3 @imp_self (P3 @and_false @false_and)) (P3 @jfd (P3 @V2 @Q3.{0}))) (P3 (P3 @G9.{0} (P3 @P2.{0,0} @D5.{0})) (P3 @List.all_cons.{0} (P3 @List.all_nil.{0} @Bool.and_self))))) (P3 (P3 (P3 (P3 @S7.{0,0} (P3 @U9.{0,0} @S8.{0})) (P3 @S9.{0} (P3 @Nat.lt_add_one @M8.{0}))) (P3 (P3 @N9.{0} (P3 @B8.{0} @G3.{0})) (P3 @F3.{0} (P3 @F4.{0} @List.take_nil.{0})))) (P3 (P3 (P3 @W1.{0} (P3 @W4.{0} @List.drop_nil.{0})) (P3 @F5.{0} (P3 @Q5.{0} @U8.{0,0}))) (P3 (P3 @F6 (P3 @C8 @Nat.add_zero)) (P3 (P3 @Nat.mul_one @Nat.one_mul) (P3 @D6.{0} @F7.{0}))))))
theorem zyPack:type_of% (P3 (P3 (@F8.{0}) (@F9.{0})) (P3 (@BEq.rfl.{0}) (P3 (@Z0.{0,0}) (@Z1.{0,0})))):=P3 (P3 (@F8.{0}) (@F9.{0})) (P3 (@BEq.rfl.{0}) (P3 (@Z0.{0,0}) (@Z1.{0,0})))
theorem jab:type_of% (P3 (P3 @zgoO @zgoG) (P3 @jew (P3 @ja8 @zgoC))):=P3 (P3 @zgoO @zgoG) (P3 @jew (P3 @ja8 @zgoC))
theorem zP:type_of% (P3 (P3 @zmPack @zxPack) (P3 @zyPack (P3 (P3 (@ne_eq.{1}) (P3 (@implies_true.{0}) (@implies_true.{1}))) (P3 (@forall_const.{0}) (@forall_const.{1}))))):=(P3 (P3 @zmPack @zxPack) (P3 @zyPack (P3 (P3 (@ne_eq.{1}) (P3 (@implies_true.{0}) (@implies_true.{1}))) (P3 (@forall_const.{0}) (@forall_const.{1})))))
theorem zQ:type_of% (P3 @zP (P3 @jae.eq_1 (P3 @jaa.eq_1 (P3 @jaa.eq_2 (P3 @jaa.eq_3 (P3 @jaa.eq_4 (P3 @jac.eq_1 (P3 @jac.eq_2 @jad.eq_1)))))))):=(P3 @zP (P3 @jae.eq_1 (P3 @jaa.eq_1 (P3 @jaa.eq_2 (P3 @jaa.eq_3 (P3 @jaa.eq_4 (P3 @jac.eq_1 (P3 @jac.eq_2 @jad.eq_1))))))))
end
section
open Go Go.RowKit
variable {fl L:Nat→Bool}{w:Wd}{H:ZH}{K:ZV→ZH→Prop}
theorem FR.weak {Fr:Nat→Prop}{h:Heap}{k:Nat}{ex:Bool}{rows:List (List ZV)}{a:AV}(hf:FR Fr h (.fz k ex rows) a):FR Fr h (.fz k false rows) a:=by
 cases hf with
 |fnil h=>rcases h with rfl|⟨rfl,_⟩;exact .fnil (.inl rfl);exact .fnil (.inr ⟨rfl,rfl⟩)
 |fz cell h1 h2 h3 h4 h5 h6 h7 h8=>exact .fz cell h1 h2 h3 h4 (fun h=>by cases h) h6 h7 h8
theorem Fin.weak {H0:ZH}{k:Nat}{ex:Bool}{rows:List (List ZV)}{H':ZH}{K:ZV→ZH→Prop}(hk:Fin H0 (.fz k false rows) H' K):Fin H0 (.fz k ex rows) H' K:=fun fl L w w' a r e r' e' he hz=>hk fl L w w' a r e r' e' he (.fr (FR.weak hz.fz_inv))
theorem Fin.nilFz {H0:ZH}{k:Nat}{H':ZH}{K:ZV→ZH→Prop}(hk:Fin H0 (.fz k false []) H' K):Fin H0 .nil H' K:=fun fl L w w' a r e r' e' he hz=>hk fl L w w' a r e r' e' he (.fr (by rw[hz.val_inv];exact .fnil (.inl rfl)))
theorem app_fzN {L:Nat→Bool}{H:ZH}{k bytes:Nat}{new:List (List ZV)}{v:ZV}{H':ZH}(hn:new≠[])(hr:new.length*bytes≤reach):appZ L H k bytes new (.fz k true [])=some (v,H')↔ .own H.length 0 0 new.length false=v∧H++[.grow 0 k new]=H':=by
 simp only[appZ];rw[if_pos ⟨trivial,by simpa using hr⟩,if_neg hn];simp
theorem Fin.frzA {H0:ZH}{i g off len:Nat}{ex:Bool}{H':ZH}{K:ZV→ZH→Prop}{k:Nat}{rows:List (List ZV)}{vs:List ZV}{j:Nat}(hj:vs[j]?=some (.own i g off len ex))(hb:H'[i]?=some (.grow g k rows))(hle:off+len≤rows.length)(hp:rows.flatten.all jbR=true)(hk:Fin H0 (.agg (vs.set j (.fz k ex ((rows.drop off).take len)))) (H'.set i .dead) K):Fin H0 (.agg vs) H' K:=fun fl L w w' a r e r' e' he hz=>by
 subst he;obtain⟨ys,rfl,hys⟩:=hz.agg_inv;obtain⟨y,hy,hyz⟩:=hys.get hj;obtain⟨w2,e1,e2,e3,e4,e5⟩:=jeE r' hb hle hp hyz;rw[←e1];refine hk fl L w w2 _ r e e3 (e'.trans e4) e2 (ZRs.toAgg ⟨by simp[hys.1],fun m z a hz' ha'=>?_⟩);have hjl:j<vs.length:=(U0.1 hj).1;by_cases hm:m=j
 ·subst hm
  rw[M1] at hz';simp[hjl] at hz';rw[hy] at ha';injection ha' with ha'
  subst hz';subst ha';exact e5
 ·rw[M1,if_neg (Ne.symm hm)] at hz'
  exact (hys.2 m z a hz' ha').ext e4
theorem ZC.thenF {X:XT}{F:FuncId→Option jbq}{f:FuncId}{zs:List ZV}{K1:ZV→ZH→Prop}(h:ZC X F f zs L H K1)(hk: ∀z H',K1 z H'→Fin H z H' K):ZC X F f zs L H K:=fun fl w args r e ha=>(h fl w args r e ha).mono fun a h' ⟨z,w',e1,r',x,hz,k⟩=>e1▸hk z _ k fl L w w' a r e r' x rfl hz
theorem ZC.frzF {X:XT}{F:FuncId→Option jbq}{f:FuncId}{zs:List ZV}{k n:Nat}{rows:List (List ZV)}(h:ZC X F f zs L H fun z H'=>z= .own H.length 0 0 n false∧H'=H++[.grow 0 k rows])(hn:rows.length=n)(hp:rows.flatten.all jbR=true)(hK:K (.fz k false rows) H):ZC X F f zs L H K:=by
 refine h.thenF fun z H' ⟨e1,e2⟩=>?_
 subst e1;subst e2
 refine Fin.frz (k:=k) (rows:=rows) (H_at0 ..) (by omega) hp ?_;rw[W1,I5 (by omega)];exact Fin.trunc (by rw[B7 _ _ (V2 _)];exact Mods.ext H _) rfl (by rw[B7 _ _ (V2 _),List.take_left];exact hK)
theorem Fin.truncT {H0:ZH}{zs:List ZV}{H':ZH}{K:ZV→ZH→Prop}(hm:Mods H0 H')(hz:zs.all (refs H0.length)=true)(k:K (.tuple zs) (H'.take H0.length)):Fin H0 (.tuple zs) H' K:=fun fl L w w' a r e r' e' he hzz=>by
 subst e;subst he
 obtain⟨r2,e2⟩:=jtk r r' e' hm;obtain⟨ys,rfl,hys⟩:=hzz.tuple_inv;exact⟨.tuple zs,jfW w' w.H.length,rfl,r2,e2,B3 ⟨hys.1,fun i z b h1 h2=>(hys.2 i z b h1 h2).ren (jis e'.Hl) (N2.1 hz z (R5 h1))⟩,k⟩
theorem Fin.frzTA {H0:ZH}{i g off len:Nat}{ex:Bool}{H':ZH}{K:ZV→ZH→Prop}{k:Nat}{rows:List (List ZV)}{vs cs:List ZV}{j c:Nat}(hj:vs[j]?=some (.agg cs))(hc:cs[c]?=some (.own i g off len ex))(hb:H'[i]?=some (.grow g k rows))(hle:off+len≤rows.length)(hp:rows.flatten.all jbR=true)(hk:Fin H0 (.tuple (vs.set j (.agg (cs.set c (.fz k ex ((rows.drop off).take len)))))) (H'.set i .dead) K):Fin H0 (.tuple vs) H' K:=fun fl L w w' a r e r' e' he hz=>by
 subst he;obtain⟨ys,rfl,hys⟩:=hz.tuple_inv;obtain⟨y,hy,hyz⟩:=hys.get hj;obtain⟨us,rfl,hus⟩:=hyz.agg_inv;obtain⟨u,hu,huz⟩:=hus.get hc;obtain⟨w2,e1,e2,e3,e4,e5⟩:=jeE r' hb hle hp huz;rw[←e1];have hcl:c<cs.length:=(U0.1 hc).1;have hagg : ZR w2 (.agg (cs.set c (.fz k ex ((rows.drop off).take len)))) (.agg us) := ZRs.toAgg ⟨by simp [hus.1], fun m z a hz' ha' => by
  by_cases hm:m=c
  ·subst hm
   rw[M1] at hz';simp[hcl] at hz';rw[hu] at ha';injection ha' with ha'
   subst hz';subst ha';exact e5
  ·rw[M1,if_neg (Ne.symm hm)] at hz'
   exact (hus.2 m z a hz' ha').ext e4⟩
 refine hk fl L w w2 _ r e e3 (e'.trans e4) e2 (B3 ⟨by simp[hys.1],fun m z a hz' ha'=>?_⟩);have hjl:j<vs.length:=(U0.1 hj).1;by_cases hm:m=j
 ·subst hm
  rw[M1] at hz';simp[hjl] at hz';rw[hy] at ha';injection ha' with ha'
  subst hz';subst ha';exact hagg
 ·rw[M1,if_neg (Ne.symm hm)] at hz'
  exact (hys.2 m z a hz' ha').ext e4
end
section
open Go
def oldZ (H0:ZH):ZV→Prop
  | .ptr i _=>i<H0.length
  | .eptr i g _ _=> ∃k rows,H0[i]?=some (.grow g k rows)
  |_=>False
section
variable (X:XT)(F:FuncId→Option jbq)(G:Gh)(L:Nat→Bool)(H0:ZH)
def zOW:List jav→ZS→ZH→(ZS→ZH→Prop)→Prop
  |[],S,H,K=>K S H
  |o::l,S,H,K=>je9 (jgV o S)
      (if o.iso=true then z1c X F L none (zlit G o.dst) S H (zgo G o.dst fun z H'=>zOW l (zput S o.dst z) H' K) o.op
        else match o.op with
          | .load n x=> ∃z v,zev S x=some z∧oldZ H0 z∧ldZ H n z=some v∧zgo G o.dst (fun z H'=>zOW l (zput S o.dst z) H' K) v H
          | .call f args=> ∃fb,jd8 [] o l S=some fb∧z1c X F (fun i=>decide (H.length≤i)) (some (0,none)) (zlit G o.dst) S H (zgo G o.dst fun z H'=>zOW l (zput S o.dst z) H' K) (.call f args)
          | .store n a v=> ∃fb,jd8 [] o l S=some fb∧z1c X F (fun i=>decide (H.length≤i)||(L i&&decide (H0.length≤i)&& !fb.contains i)) (some (0,none)) (zlit G o.dst) S H (zgo G o.dst fun z H'=>zOW l (zput S o.dst z) H' K) (.store n a v)
          |_=>False)
      (zOW l (zput S o.dst .no) H K)
def jvy (l:List jav)(S:ZS)(dst:Option Nat)(K:ZS→ZH→Prop)(z:ZV)(H:ZH):Prop:=zOW X F G L H0 l (zput S dst z) H K
end
variable {X:XT}{F:FuncId→Option jbq}{G:Gh}{L fl:Nat→Bool}{H0 H:ZH}{S:ZS}{l:List jav}{dst:Option Nat}{op:AOp}
theorem jlg {z:ZV}{K:ZS→ZH→Prop}:jvy X F G L H0 l S dst K z H↔zOW X F G L H0 l (zput S dst z) H K:=I7
theorem jcB {K:ZS→ZH→Prop}:zOW X F G L H0 [] S H K↔K S H:=I7
theorem jdR {K:ZS→ZH→Prop}:zOW X F G L H0 (⟨dst,op,none,true⟩::l) S H K↔z1c X F L none (zlit G dst) S H (ZgoG G dst (jvy X F G L H0 l S dst K)) op:=by
 show je9 (some true) (if true=true then _ else _) _↔_;rw[jcN,if_pos rfl];exact I7
theorem jdS {K:ZS→ZH→Prop}{n:Option Nat}{x:Opd}:zOW X F G L H0 (⟨dst,.load n x,none,false⟩::l) S H K↔ ∃z v,zev S x=some z∧oldZ H0 z∧ldZ H n z=some v∧ZgoG G dst (jvy X F G L H0 l S dst K) v H:=by
 show je9 (some true) (if false=true then _ else _) _↔_;rw[jcN,if_neg (by simp)];exact I7
theorem jdT {K:ZS→ZH→Prop}{f:Opd}{args:List Opd}:zOW X F G L H0 (⟨dst,.call f args,none,false⟩::l) S H K↔ ∃fb,jd8 [] ⟨dst,.call f args,none,false⟩ l S=some fb∧z1c X F (fun i=>decide (H.length≤i)) (some (0,none)) (zlit G dst) S H (ZgoG G dst (jvy X F G L H0 l S dst K)) (.call f args):=by
 show je9 (some true) (if false=true then _ else _) _↔_;rw[jcN,if_neg (by simp)];exact I7
theorem jdf {K:ZS→ZH→Prop}{n:Nat}{a v:Opd}:zOW X F G L H0 (⟨dst,.store n a v,none,false⟩::l) S H K↔ ∃fb,jd8 [] ⟨dst,.store n a v,none,false⟩ l S=some fb∧z1c X F (fun i=>decide (H.length≤i)||(L i&&decide (H0.length≤i)&& !fb.contains i)) (some (0,none)) (zlit G dst) S H (ZgoG G dst (jvy X F G L H0 l S dst K)) (.store n a v):=by
 show je9 (some true) (if false=true then _ else _) _↔_;rw[jcN,if_neg (by simp)];exact I7
theorem jdV {i o:Nat}:oldZ H0 (.ptr i o)↔i<H0.length:=I7
theorem jdo {i g j o:Nat}:oldZ H0 (.eptr i g j o)↔ ∃k rows,H0[i]?=some (.grow g k rows):=I7
structure WOk (w0 w:Wd)(bA:Nat)(d:Seen):Prop where
  e:Ext w0 w
  b:w0.h.length=bA
  n0: ∀i p,w0.mu i=some p→p.1<bA
  rs1: ∀id∈d.rs,id<w.h.length
  rs2: ∀id,id<bA→id∈d.rs
  rs3: ∀id∈d.rs,id<bA
  dom0: ∀i p,w0.mu i=some p→i<w0.H.length
  pr:match d.pr with|none=>True|some la=> ∀id,id<bA→id∈la
theorem WOk.ext {w0 w w':Wd}{bA:Nat}{d:Seen}(h:WOk w0 w bA d)(e:Ext w w'):WOk w0 w' bA d:=⟨h.e.trans e,h.b,h.n0,fun id hi=>V0 (h.rs1 id hi) e.hl,h.rs2,h.rs3,h.dom0,h.pr⟩
theorem WOk.shallow {w0 w:Wd}{bA:Nat}{d:Seen}(h:WOk w0 w bA d){id:Nat}(hi:id<bA):jbw (some (bA,d.pr)) id=true:=by
 simp only[jbw,U2,decide_eq_true_eq];refine⟨hi,?_⟩;have:=h.pr
 cases hd:d.pr with
 |none=>rfl
 |some la=>rw[hd] at this;exact B2.2 (this id hi)
theorem old_id {w0 w:Wd}{bA:Nat}{d:Seen}(r:ZRel fl L w)(h:WOk w0 w bA d){z v:ZV}{n:Option Nat}(ho:oldZ w0.H z)(hl:ldZ w.H n z=some v){id off:Nat}(hz:ZR w z (.ptr id off)):id<bA:=by
 cases z with
 |ptr i o=>
  obtain⟨id',cs,e1,e2,e3⟩:=hz.ptr_inv;injection e1 with e1 _;subst e1
  obtain⟨cs0,hc0⟩:=h.e.boxr i cs ho e2;have:=(h.e.box i cs0 hc0).2;rw[this] at e3;exact h.n0 i _ e3
 |eptr i g j o=>
  obtain⟨k,rows,hg⟩:=ho;rw[jbS] at hl;obtain⟨k2,rows2,row,h1,_,_⟩:=hl;have hi:i<w0.H.length:=(U0.1 hg).1;obtain⟨g0,rows0,q1,q2,q3⟩:=h.e.grow i g k2 rows2 hi h1;rw[hg] at q1;injection q1 with q1;injection q1 with q1 _ _
  have hmu:=(q3 q1.symm).1
  cases hz with
  |fr hf=>cases hf
  |eptr a1 a2 a3=>
   obtain⟨b,hb,_⟩:=(a2 g k2 rows2 h1).2 rfl;rw[hmu] at hb;exact h.n0 i _ hb
 |_=>exact ho.elim
theorem jmu {G:Gh}{bA:Nat}{w0:Wd}{K:ZS→ZH→Prop}: ∀(l:List jav) (d:Seen) (S:ZS) (s:jal) (w:Wd),ZRel fl L w→(∀t,ZR w (S t) (s t))→WOk w0 w bA d→zOW X F G L w0.H l S w.H K→AO X F bA fl d l s w.h (PO fl L w K)
 |[],d,S,s,w,r,hS,hd,hk=>by
  rw[ja7];exact⟨S,w,rfl,r,B5 w,hS,hk⟩
 |o::l,d,S,s,w,r,hS,hd,hk=>by
  have go: ∀(w':Wd) (S':ZS) (s':jal) (d':Seen),ZRel fl L w'→Ext w w'→(∀t,ZR w' (S' t) (s' t))→WOk w0 w' bA d'→zOW X F G L w0.H l S' w'.H K→AO X F bA fl d' l s' w'.h (PO fl L w K):=fun w' S' s' d' r' e hS' hd' hk'=>by
   refine (jmu l d' S' s' w' r' hS' hd' hk').mono fun s2 h2 hq=>?_
   obtain⟨S2,w2,f1,f2,f3,f4,f5⟩:=hq;exact⟨S2,w2,f1,f2,e.trans f3,f4,f5⟩
  rw[jgT];simp only[zOW] at hk
  cases hw:jgV o S with
  |none=>rw[hw] at hk;exact hk.elim
  |some b=>
   rw[jmx hS hw];rw[hw] at hk;refine⟨fun hb=>?_,fun hb=>?_⟩
   ·have hk:=hk.1 hb
    cases hiso:o.iso with
    |true=>
     rw[hiso] at hk;simp only[if_true] at hk ⊢;have e1:jbB fl o (jcw fl d o l s w.h)=fl:=by unfold jbB;rw[hiso];rfl
     have e2: ∀fb,d.with o fb s=d:=fun fb=>by unfold Seen.with;rw[hiso];rfl
     rw[e1];refine (jfc r hS (ztop:=none) (top:=none) (fun z id off _ _=>rfl) hk).mono fun v h' p=>?_
     obtain⟨z,w',rfl,r',e,hz,kk⟩:=jfE p;rw[e2];exact go w' _ _ d r' e (ja1 (fun t=>(hS t).ext e) hz) (hd.ext e) kk
    |false=>
     rw[hiso] at hk;simp only[N6,if_false] at hk ⊢;obtain⟨fa,hfa⟩: ∃fa,fa=jcw fl d o l s w.h:=⟨_,rfl⟩;rw[←hfa]
     cases ho:o.op with
     |load n x=>
      rw[ho] at hk;simp only at hk;obtain⟨z,v,k1,k2,k3,k4⟩:=hk;have hzz:=jan hS k1;obtain⟨id,off,u,e1,e2,e3⟩:=jg6 r hzz k3;rw[e1] at hzz;have hid:=old_id r hd k2 k3 hzz;refine jbp.2 ⟨id,off,u,e1,hd.shallow hid,e2,?_⟩;have hp:PK fl L w (fun z H'=>zgo G o.dst (fun z H'=>zOW X F G L w0.H l (zput S o.dst z) H' K) z H') u w.h:=⟨v,w,rfl,r,B5 w,e3,k4⟩;obtain⟨z',w',hh,r',e,hz',kk⟩:=jfE hp;rw[←hh];refine go w' _ _ _ r' e (ja1 (fun t=>(hS t).ext e) hz') (WOk.ext ?_ e) kk;have hs:sees s o.op=[id]:=by rw[ho];simp[sees,e1,idOf]
      refine⟨hd.e,hd.b,hd.n0,fun j hj=>?_,fun j hj=>?_,fun j hj=>?_,hd.dom0,?_⟩
      ·unfold Seen.with at hj;rw[hiso] at hj
       simp only[N6,if_false,hs,Z2,A4] at hj;rcases hj with rfl|hj
       ·have:=hd.e.hl;have:=hd.b;omega
       ·exact hd.rs1 j hj
      ·unfold Seen.with;rw[hiso]
       simp only[N6,if_false];exact A8 _ (hd.rs2 j hj)
      ·unfold Seen.with at hj;rw[hiso] at hj
       simp only[N6,if_false,hs,Z2,A4] at hj;rcases hj with rfl|hj
       ·exact hid
       ·exact hd.rs3 j hj
      ·unfold Seen.with;rw[hiso]
       simp only[N6,if_false,ho,heavy];exact hd.pr
     |call f args=>
      rw[ho] at hk;simp only at hk;obtain⟨fb,hfb,hk⟩:=hk;have hhv:heavy o.op=true:=by rw[ho];rfl
      have hcov: ∀id∈fa,id<w.h.length:=by
       rw[hfa];unfold jcw;unfold jd8 at hfb;rw[hiso,hhv];rw[hhv] at hfb;simp only[if_true] at hfb;split at hfb
       ·rename_i fb' hfb'
        intro id hi;simp only[P9,Z3,N6,if_false,O3] at hi;rcases hi with hi|hi
        ·exact hd.rs1 id hi
        ·exact (jc7 l s _ (fun t=>(hS t).owner r) hfb' id hi).1
       ·cases hfb
      have hall: ∀id,id<bA→id∈fa:=fun id hi=>by
       rw[hfa];unfold jcw;rw[hiso,hhv]
       simp only[P9,Z3,N6,if_false];exact A7 _ (hd.rs2 id hi)
      have rL:ZRel (jbB fl o fa) (fun i=>decide (w.H.length≤i)) w:=by
       refine⟨fun id h=>?_,fun i h=>by simpa using h,r.frlt,r.dom,r.inj,r.nfr,fun i p hp hl=>?_,r.box,r.grow⟩
       ·unfold jbB
        rw[hiso];simp only[N6,if_false,U2,A9];refine⟨r.fresh id h,?_⟩
        cases hc:fa.contains id with
        |false=>rfl
        |true=>have:=hcov id (B2.1 hc);omega
       ·have:=r.dom i p hp
        have:=of_decide_eq_true hl;omega
      have ht: ∀z id off,ZR w z (.ptr id off)→topZ (some (0,none)) z=true→jbw (some (bA,d.pr)) id=true:=fun z id off _ h=>by
       unfold topZ at h
       cases z<;>simp at h
      refine (jfc rL hS (ztop:=some (0,none)) (top:=some (bA,d.pr)) ht hk).mono fun v h' p=>?_
      obtain⟨z,w',rfl,r',e,hz,kk⟩:=jfE p;refine go w' _ _ _ (r.back r' e) e (ja1 (fun t=>(hS t).ext e) hz) (WOk.ext ?_ e) kk;have hs:sees s o.op=[]:=by rw[ho];rfl
      refine⟨hd.e,hd.b,hd.n0,fun j hj=>?_,fun j hj=>?_,fun j hj=>?_,hd.dom0,?_⟩
      ·unfold Seen.with at hj;rw[hiso] at hj
       simp only[N6,if_false,hs,B8] at hj;exact hd.rs1 j hj
      ·unfold Seen.with;rw[hiso]
       simp only[N6,if_false];exact A8 _ (hd.rs2 j hj)
      ·unfold Seen.with at hj;rw[hiso] at hj
       simp only[N6,if_false,hs,B8] at hj;exact hd.rs3 j hj
      ·unfold Seen.with;rw[hiso]
       simp only[N6,if_false,hhv,if_true];have hp:=hd.pr
       cases hdp:d.pr with
       |none=>exact hall
       |some la=>
        rw[hdp] at hp;exact fun id hi=>J7.2 ⟨hp id hi,B2.2 (hall id hi)⟩
     |store n a v=>
      rw[ho] at hk;simp only at hk;obtain⟨fb,hfb,hk⟩:=hk;have hhv:heavy o.op=true:=by rw[ho];rfl
      have hcov: ∀id∈fa,id<w.h.length:=by
       rw[hfa];unfold jcw;unfold jd8 at hfb;rw[hiso,hhv];rw[hhv] at hfb;simp only[if_true] at hfb;split at hfb
       ·rename_i fb' hfb'
        intro id hi;simp only[P9,Z3,N6,if_false,O3] at hi;rcases hi with hi|hi
        ·exact hd.rs1 id hi
        ·exact (jc7 l s _ (fun t=>(hS t).owner r) hfb' id hi).1
       ·cases hfb
      have hall: ∀id,id<bA→id∈fa:=fun id hi=>by
       rw[hfa];unfold jcw;rw[hiso,hhv]
       simp only[P9,Z3,N6,if_false];exact A7 _ (hd.rs2 id hi)
      have hL0:=hd.e.Hl;have rL:ZRel (jbB fl o fa) (fun i=>decide (w.H.length≤i)||(L i&&decide (w0.H.length≤i)&& !fb.contains i)) w:=by
       refine⟨fun id h=>?_,fun i h=>by simp[h],r.frlt,r.dom,r.inj,r.nfr,fun i p hp hl=>?_,r.box,r.grow⟩
       ·unfold jbB
        rw[hiso];simp only[N6,if_false,U2,A9];refine⟨r.fresh id h,?_⟩
        cases hc:fa.contains id with
        |false=>rfl
        |true=>have:=hcov id (B2.1 hc);omega
       ·have hdm:=r.dom i p hp
        rw[decide_eq_false (by omega),P6] at hl;simp only[U2,decide_eq_true_eq,A9] at hl;obtain⟨⟨l1,l2⟩,l3⟩:=hl;have hpb:bA≤p.1:=by
         rcases hd.e.mu i p hp with⟨p0,hp0,_⟩|h
         ·have:=hd.dom0 i p0 hp0;omega
         ·rw[hd.b] at h;exact h
        unfold jbB;rw[hiso];simp only[N6,if_false,U2,A9];refine⟨r.wr i p hp l1,?_⟩
        cases hc:fa.contains p.1 with
        |false=>rfl
        |true=>
         have hm:=B2.1 hc;rw[hfa] at hm;unfold jcw at hm;unfold jd8 at hfb;rw[hiso,hhv] at hm;rw[hhv] at hfb;simp only[if_true] at hfb;split at hfb
         ·rename_i fb' hfb'
          simp only[P9,Z3,N6,if_false,O3] at hm;rcases hm with hm|hm
          ·have:=hd.rs3 _ hm;omega
          ·have:=(jc7 l s _ (fun t=>(hS t).owner r) hfb' _ hm).2 i p hp rfl
           injection hfb with hfb
           rw[←hfb,B8,B2.2 this] at l3
           cases l3
         ·cases hfb
      have ht: ∀z id off,ZR w z (.ptr id off)→topZ (some (0,none)) z=true→jbw (some (bA,d.pr)) id=true:=fun z id off _ h=>by
       unfold topZ at h
       cases z<;>simp at h
      refine (jfc rL hS (ztop:=some (0,none)) (top:=some (bA,d.pr)) ht hk).mono fun v h' p=>?_
      obtain⟨z,w',rfl,r',e,hz,kk⟩:=jfE p;refine go w' _ _ _ (r.back r' e) e (ja1 (fun t=>(hS t).ext e) hz) (WOk.ext ?_ e) kk;have hs:sees s o.op=[]:=by rw[ho];rfl
      refine⟨hd.e,hd.b,hd.n0,fun j hj=>?_,fun j hj=>?_,fun j hj=>?_,hd.dom0,?_⟩
      ·unfold Seen.with at hj;rw[hiso] at hj
       simp only[N6,if_false,hs,B8] at hj;exact hd.rs1 j hj
      ·unfold Seen.with;rw[hiso]
       simp only[N6,if_false];exact A8 _ (hd.rs2 j hj)
      ·unfold Seen.with at hj;rw[hiso] at hj
       simp only[N6,if_false,hs,B8] at hj;exact hd.rs3 j hj
      ·unfold Seen.with;rw[hiso]
       simp only[N6,if_false,hhv,if_true];have hp:=hd.pr
       cases hdp:d.pr with
       |none=>exact hall
       |some la=>
        rw[hdp] at hp;exact fun id hi=>J7.2 ⟨hp id hi,B2.2 (hall id hi)⟩
     |_=>rw[ho] at hk;exact hk.elim
   ·have hk:=hk.2 hb
    exact go w _ _ d r (B5 w) (ja1 hS ZRs.nil.toTuple) hd hk
theorem jfI: ∀{l:List jav} {S:ZS} {H:ZH} {K K':ZS→ZH→Prop},(∀S' H',(∀t,t∉l.filterMap (·.dst)→S' t=S t)→K S' H'→K' S' H')→zOW X F G L H0 l S H K→zOW X F G L H0 l S H K'
 |[],S,H,K,K',hk,h=>hk S H (fun _ _=>rfl) h
 |o::l,S,H,K,K',hk,h=>by
  simp only[zOW] at h ⊢;have next : ∀ z S' H', (∀ t, t ∉ l.filterMap (·.dst) → S' t = zput S o.dst z t) → K S' H' → K' S' H' := fun z S' H' hf k => hk S' H' (fun t ht => by
   have h1:t∉l.filterMap (·.dst):=fun q=>by
    obtain⟨p,hp,e⟩:=D0.1 q;exact ht (D0.2 ⟨p,by simp[hp],e⟩)
   rw[hf t h1]
   cases hd:o.dst with
   |none=>rfl
   |some d=>
    simp only[zput,zupd];have:t≠d:=fun q=>ht (D0.2 ⟨o,by simp,by rw[hd,q]⟩)
    rw[if_neg this]) k
  cases hw:jgV o S with
  |none=>rw[hw] at h;exact h.elim
  |some b=>
  rw[hw] at h;refine⟨fun hb=>?_,fun hb=>jfI (next _) (h.2 hb)⟩;have h:=h.1 hb;split at h
  ·rename_i hi
   rw[if_pos hi];exact jgl (fun z H'=>jfF fun z H'=>jfI (next z)) h
  ·rename_i hi
   rw[if_neg hi];split at h
   ·rename_i n x ho
    obtain⟨z,v,k1,k2,k3,k4⟩:=h;exact⟨z,v,k1,k2,k3,jfF (fun z H'=>jfI (next z)) k4⟩
   ·rename_i f args ho
    obtain⟨fb,k1,k2⟩:=h;exact⟨fb,k1,jgl (fun z H'=>jfF fun z H'=>jfI (next z)) k2⟩
   ·rename_i n a v ho
    obtain⟨fb,k1,k2⟩:=h;exact⟨fb,k1,jgl (fun z H'=>jfF fun z H'=>jfI (next z)) k2⟩
   ·exact h
theorem zW_opsW {KK:jaA→ZS→ZH→Prop}(h:zOW X.det F G L H l S H (KK .normal)):zW X F G L (.opsW l) S H KK:=by
 intro fl w s r e hS;subst e;rw[jvD];have h':=jfI (K':=fun S' H'=>(∀t,t∉l.filterMap (·.dst)→S' t=S t)∧KK .normal S' H') (fun S' H' hf k=>⟨hf,k⟩) h;have hd:WOk w w w.h.length ⟨List.range w.h.length,none⟩:=⟨B5 w,rfl,fun i p hp=>(r.nfr i p hp).2,fun id hi=>R0.1 hi,fun id hi=>R0.2 hi,fun id hi=>R0.1 hi,r.dom,trivial⟩;refine (jmu (w0:=w) l ⟨List.range w.h.length,none⟩ S s w r hS hd h').mono fun s' h1 hq=>?_
 obtain⟨S',w',q1,q2,q3,q4,q5,q6⟩:=hq;exact⟨S',w',q1,q2,q3,q4,q5,q6⟩
end
section
open Go
variable {X:XT}{F:FuncId→Option jbq}{G:Gh}{L fl:Nat→Bool}{H0 H:ZH}{S:ZS}{l:List jav}{dst:Option Nat}{op:AOp}{top:Option (Nat×Option (List Nat))}{gl:Bool}
end
end Go.Proofs.YtlkapggcppcafaaGreatDoor
