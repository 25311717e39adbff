/-
  ZM: loops over a list; what is left behind a call.
-/
import Derived.Test.YtjaahfncbechnaaGreatDoorMrT5
set_option linter.unusedVariables false
set_option linter.unusedSimpArgs false
namespace Go.Proofs.YtjaahfncbechnaaGreatDoor
section
open Go Go.RowKit
variable {fl L:Nat→Bool}{w:Wd}{S:ZS}{s:jah}{H:ZH}{X:XT}{F:FuncId→Option jaM}{G:Gh}
abbrev Z64 (n:Int):ZV:= .val (.int .i64 n)
abbrev ZBo (b:Bool):ZV:= .val (.bool b)
theorem jqg {base:Nat}{rs:List Nat}{pr:Option (List Nat)}{dst:Option Nat}{op:AOp}{l:List jap}{K:ZS→ZH→Prop}(h:z1c X F L none (zlit G dst) S H (zgo G dst fun z H'=>zO X F G L base rs pr l (zput S dst z) H' K) op):zO X F G L base rs pr (⟨dst,op,none,true⟩::l) S H K:=by
 simp only[zO,jeM]
 exact⟨fun _=>by simpa using h,fun q=>by cases q⟩
theorem zW_range {B Cn tc ti tl tn:Nat}{body:jar}{K:jas→ZS→ZH→Prop}(N:Nat)(hN:N<9223372036854775807)(hG:G.own.lookup tc=none∧G.own.lookup tn=none∧G.own.lookup ti=none∧G.frz.contains tc=false∧G.frz.contains tn=false∧G.frz.contains ti=false)(hti:S ti=Z64 (0:Nat))(htl:S tl=Z64 N)(h1:tl∉wrs body)(h2:ti∉wrs body)(h3:tc≠ti∧tc≠tl∧tn≠ti∧tn≠tl∧ti≠tl)
  (I:Nat→ZS→ZH→Prop) (h0:I 0 S H)
  (round: ∀k s' h',k<N→I k s' h'→s' ti=Z64 k→s' tl=Z64 N→(∀t,t∉wrs body→t≠tc→t≠ti→t≠tn→s' t=S t)→
   zW X F G L body (zupd s' tc (ZBo true)) h' (jcb Cn (jfW (fun s2 h2=>I (k+1) (zupd (zupd s2 tn (Z64 (k+1:Nat))) ti (Z64 (k+1:Nat))) h2) (jcb B K))))
  (done: ∀s' h',I N s' h'→(∀t,t∉wrs body→t≠tc→t≠ti→t≠tn→s' t=S t)→K .normal (zupd s' tc (ZBo false)) h'):zW X F G L (jaF B Cn tc ti tl tn body) S H K:=by
 obtain⟨c1,c2,c3,c4,c5⟩:=h3
 obtain⟨g1,g2,g3,g4,g5,g6⟩:=hG
 have gc: ∀{K:ZV→ZH→Prop} {z H},zgo G (some tc) K z H=K z H:=by intro K z H;simp only[zgo,g1,g4,Bool.false_eq_true,if_false]
 have gn: ∀{K:ZV→ZH→Prop} {z H},zgo G (some tn) K z H=K z H:=by intro K z H;simp only[zgo,g2,g5,Bool.false_eq_true,if_false]
 have gi: ∀{K:ZV→ZH→Prop} {z H},zgo G (some ti) K z H=K z H:=by intro K z H;simp only[zgo,g3,g6,Bool.false_eq_true,if_false]
 show zW X F G L (.loop _) S H (jcb B K)
 refine jm8 (fun n s' h'=> ∃k,n=N - k∧k≤N∧I k s' h'∧s' ti=Z64 k∧s' tl=Z64 N) N ⟨0,by omega,Nat.zero_le _,h0,hti,htl⟩ fun n s' h' hI hs=>?_
 obtain⟨k,rfl,hk,hIk,hik,hlk⟩:=hI
 have hst: ∀t,t∉wrs body→t≠tc→t≠ti→t≠tn→s' t=S t:=fun t q1 q2 q3 q4=>hs t (by simp[wrs,q1,q2,q3,q4])
 show zO X F G L _ _ _ _ s' h' _
 refine jqg ?_
 refine⟨.int .i64 k,.int .i64 N,.bool (decide (k<N)),by simp[zev,hik],by simp[zev,hlk],by simp[binV],?_⟩
 rw[gc]
 show zW X F G L (.seq _ _) _ h' _
 refine⟨decide (k<N),by simp[zev,zput,zupd],fun ht=>?_,fun hf=>?_⟩
 ·have hlt:k<N:=by simpa using ht
  show zW X F G L (.seq _ _) _ h' _
  rw[ht]
  show zW X F G L body (zupd s' tc (ZBo true)) h' (jcb Cn _)
  refine zW_frame (jqc (fun x s2 h2' _ kk hfr=>?_) (round k s' h' hlt hIk hik hlk hst))
  have e1:s2 ti=Z64 k:=by rw[hfr ti (by simpa[wrs] using h2)];simp only[zupd];rw[if_neg (Ne.symm c1)];exact hik
  have e2:s2 tl=Z64 N:=by rw[hfr tl (by simpa[wrs] using h1)];simp only[zupd];rw[if_neg (Ne.symm c2)];exact hlk
  have go:I (k+1) (zupd (zupd s2 tn (Z64 (k+1:Nat))) ti (Z64 (k+1:Nat))) h2'→zW X F G L (.ops [⟨some tn,.bin .add (.tmp ti) (.av (.val (.int .i64 1))),none,true⟩,⟨some ti,.mv (.tmp tn),none,true⟩]) s2 h2'
    (jfW (fun s2 h2=> ∃m,m<N - k∧ ∃k,m=N - k∧k≤N∧I k s2 h2∧s2 ti=Z64 k∧s2 tl=Z64 N) (jcb B K)):=by
   intro hI2
   have w1:IntKind.i64.wrap ((k:Int)+1)=((k+1:Nat):Int):=by rw[IntWalk.i64_in _ (by omega)];omega
   refine jqg ⟨.int .i64 k,.int .i64 1,.int .i64 (k+1:Nat),by simp[zev,e1],by simp[zev],by simp[binV,w1],?_⟩
   rw[gn]
   refine jqg ⟨Z64 (k+1:Nat),by simp[zev,zput,zupd],?_⟩
   rw[gi]
   exact⟨N - (k+1),by omega,k+1,rfl,by omega,hI2,by simp[zput,zupd],by simp[zput,zupd,Ne.symm c4,Ne.symm c5,e2]⟩
  cases x with
  |normal=>exact go kk
  |exit j=>
   simp only[jcb] at kk ⊢
   by_cases hj:j=Cn
   ·rw[if_pos hj] at kk ⊢;exact go kk
   ·rw[if_neg hj] at kk ⊢;exact kk
  |ret=>exact kk
 ·have hge:k=N:=by
   have: ¬k<N:=by simpa using hf
   omega
  subst hge
  show (if B=B then K .normal _ h' else _)
  rw[if_pos rfl,hf]
  exact done s' h' hIk hst
theorem zW_for {B Cn tc ti tl tn:Nat}{body:jar}{K:jas→ZS→ZH→Prop}(N:Nat)(hN:N<9223372036854775807)(hG:G.own.lookup tc=none∧G.own.lookup tn=none∧G.own.lookup ti=none∧G.frz.contains tc=false∧G.frz.contains tn=false∧G.frz.contains ti=false)(hti:S ti=Z64 (0:Nat))(htl:S tl=Z64 N)(h1:(wrs body).contains tl=false)(h2:(wrs body).contains ti=false)(h3:tc≠ti∧tc≠tl∧tn≠ti∧tn≠tl∧ti≠tl)
  (I:Nat→ZS→ZH→Prop) (h0:I 0 S H)
  (round: ∀k s' h',k<N→I k s' h'→s' ti=Z64 k→s' tl=Z64 N→(∀t,(wrs body++[tc,ti,tn]).contains t=false→s' t=S t)→
   zW X F G L body (zupd s' tc (ZBo true)) h' (jcb Cn (jfW (fun s2 h2=>I (k+1) (zupd (zupd s2 tn (Z64 (k+1:Nat))) ti (Z64 (k+1:Nat))) h2) (jcb B K))))
  (done: ∀s' h',I N s' h'→(∀t,(wrs body++[tc,ti,tn]).contains t=false→s' t=S t)→K .normal (zupd s' tc (ZBo false)) h'):zW X F G L (jaF B Cn tc ti tl tn body) S H K:=by
 have hc: ∀(l:List Nat) t,l.contains t=false→t∉l:=fun l t h hm=>by
  have:=List.contains_iff_mem.2 hm
  rw[h] at this;cases this
 have hcc: ∀(s':ZS),(∀t,t∉wrs body→t≠tc→t≠ti→t≠tn→s' t=S t)→ ∀t,(wrs body++[tc,ti,tn]).contains t=false→s' t=S t:=fun s' hs t ht=>by
  have:=hc _ _ ht
  simp only[List.mem_append,List.mem_cons,List.not_mem_nil,or_false,not_or] at this
  exact hs t this.1 this.2.1 this.2.2.1 this.2.2.2
 exact zW_range N hN hG hti htl (hc _ _ h1) (hc _ _ h2) h3 I h0 (fun k s' h' a b c d e=>round k s' h' a b c d (hcc s' e)) (fun s' h' a b=>done s' h' a (hcc s' b))
/-! ### What is left -/
def Fin (H0:ZH)(z:ZV)(H':ZH)(K:ZV→ZH→Prop):Prop:= ∀(fl L:Nat→Bool) (w w':Wd) (a:AV),ZRel fl L w→w.H=H0→ZRel fl L w'→Ext w w'→w'.H=H'→ZR w' z a→PK fl L w K a w'.h
theorem Fin.keep {H0:ZH}{z:ZV}{H':ZH}{K:ZV→ZH→Prop}(k:K z H'):Fin H0 z H' K:=fun fl L w w' a r e r' e' he hz=>⟨z,w',rfl,r',e',hz,he▸k⟩
def jcc (n:Nat):ZV→Bool
  | .own i _ _ _ _=>decide (i<n)
  | .ptr i _=>decide (i<n)
  | .eptr i _ _ _=>decide (i<n)
  | .mp i=>decide (i<n)
  | .val _=>true
  | .fz _ _ _=>true
  | .fptr _ _ _ _=>true
  | .func _ caps=>caps.isEmpty
  |_=>false
def refs2 (n:Nat):ZV→Bool
  | .agg cs=>cs.all (jcc n)
  |z=>jcc n z
def refs (n:Nat):ZV→Bool
  | .agg cs=>cs.all (jcc n)
  | .tuple cs=>cs.all (jcc n)||cs.all (refs2 n)
  | .func _ cs=>cs.all (jcc n)
  |z=>jcc n z
def refsB (n:Nat):ZB→Bool
  | .box cs=>cs.all (jcc n)
  | .grow _ _ rows=>rows.flatten.all (jcc n)
  | .dead=>true
structure Ren (w w2:Wd)(n:Nat):Prop where
  fr:w2.Fr=w.Fr
  h:w2.h=w.h
  lt: ∀j,j<n→w2.mu j=w.mu j
  get: ∀(j:Nat) B,j<n→(w2.H[j]?=some B↔w.H[j]?=some B)
  ge: ∀j p,n≤j→w2.mu j=some p→ ∃i p0,n≤i∧w.mu i=some p0∧p0.1=p.1
  len:n≤w2.H.length
section
variable {w2:Wd}{n:Nat}
theorem Jk.ren (R:Ren w w2 n){i:Nat}(hi:i<n){a:AV}(h:Jk w i a):Jk w2 i a:=fun id hid=>by
 obtain⟨h1,h2⟩:=h id hid
 refine⟨by rw[R.h];exact h1,fun j p hp e=>?_⟩
 by_cases hj:j<n
 ·rw[R.lt j hj] at hp;exact h2 j p hp e
 ·obtain⟨j0,p0,q1,q2,q3⟩:=R.ge j p (by omega) hp
  have:=h2 j0 p0 q2 (q3.trans e)
  omega
theorem Hdr.ren (R:Ren w w2 n){i k:Nat}(hi:i<n){rows:List (List ZV)}{off len:Nat}{ex:Bool}{a:AV}(h:Hdr w i k rows off len ex a):Hdr w2 i k rows off len ex a:=by
 rcases h with⟨h1,h2,h3,h4,h5⟩|⟨id,b,lb,ex',row,h1,h2⟩
 ·exact .inl ⟨(R.lt i hi).trans h1,h2,h3,h4,by rw[R.fr,R.h];exact h5⟩
 ·exact .inr ⟨id,b,lb,ex',row,(R.lt i hi).trans h1,by rw[R.h];exact h2⟩
theorem ZR.ren1 (R:Ren w w2 n){z:ZV}{a:AV}(hz:ZR w z a)(hr:jcc n z=true):ZR w2 z a:=by
 have hlen:=R.len
 cases hz with
 |fr hf=>exact .fr (by rw[R.fr,R.h];exact hf)
 |@ptr i o id cs h1 h2=>
  have hi:i<n:=by simpa[jcc] using hr
  exact .ptr ((R.get _ _ hi).2 h1) ((R.lt _ hi).trans h2)
 |@mp i id cs h1 h2=>
  have hi:i<n:=by simpa[jcc] using hr
  exact .mp ((R.get _ _ hi).2 h1) ((R.lt _ hi).trans h2)
 |@own i g off len ex a h1 h2 h3 h4=>
  have hi:i<n:=by simpa[jcc] using hr
  exact .own (by omega) (fun g' k rows hb=>⟨(h2 _ _ _ ((R.get _ _ hi).1 hb)).1,fun e=>((h2 _ _ _ ((R.get _ _ hi).1 hb)).2 e).ren R hi⟩) (h3.ren R hi) h4
 |@eptr i g e o id x h1 h2 h3=>
  have hi:i<n:=by simpa[jcc] using hr
  refine .eptr (by omega) (fun g' k rows hb=>⟨(h2 _ _ _ ((R.get _ _ hi).1 hb)).1,fun e=>?_⟩) (h3.ren R hi)
  obtain⟨b,q1,q2⟩:=(h2 _ _ _ ((R.get _ _ hi).1 hb)).2 e
  exact⟨b,(R.lt _ hi).trans q1,q2⟩
 |fptr h1 h2=>exact .fptr (by rw[R.fr,R.h];exact h1) h2
 |agg h1 h2=>simp[jcc] at hr
 |tuple h1 h2=>simp[jcc] at hr
 |func h1 h2=>
  simp only[jcc,List.isEmpty_iff] at hr
  subst hr
  exact .func h1 (fun i z a h=>by simp at h)
 |bfunc h1 h2 h3 h4=>simp[jcc] at hr
theorem ZRs.ren (R:Ren w w2 n){zs:List ZV}{ys:List AV}(h:ZRs w zs ys)(hr:zs.all (jcc n)=true):ZRs w2 zs ys:=⟨h.1,fun i z a h1 h2=>(h.2 i z a h1 h2).ren1 R (List.all_eq_true.1 hr z (List.mem_of_getElem? h1))⟩
theorem ZR.ren2 (R:Ren w w2 n){z:ZV}{a:AV}(hz:ZR w z a)(hr:refs2 n z=true):ZR w2 z a:=by
 by_cases hc: ∃cs,z= .agg cs
 ·obtain⟨cs,rfl⟩:=hc
  obtain⟨ys,rfl,h⟩:=hz.agg_inv
  exact (h.ren R hr).toAgg
 ·refine hz.ren1 R ?_
  unfold refs2 at hr
  split at hr
  ·exact absurd ⟨_,rfl⟩ hc
  ·exact hr
theorem ZR.ren (R:Ren w w2 n){z:ZV}{a:AV}(hz:ZR w z a)(hr:refs n z=true):ZR w2 z a:=by
 cases hz with
 |agg h1 h2=>exact (ZRs.ren R ⟨h1,h2⟩ hr).toAgg
 |tuple h1 h2=>
  simp only[refs,Bool.or_eq_true] at hr
  rcases hr with hr|hr
  ·exact (ZRs.ren R ⟨h1,h2⟩ hr).toTuple
  ·exact .tuple h1 fun i z a e1 e2=>(h2 i z a e1 e2).ren2 R (List.all_eq_true.1 hr z (List.mem_of_getElem? e1))
 |func h1 h2=>exact (ZRs.ren R ⟨h1,h2⟩ hr).toFunc
 |bfunc h1 h2 h3 h4=>simp[refs,jcc] at hr
 |fr hf=>exact (ZR.fr hf).ren1 R (by cases hf<;>rfl)
 |ptr h1 h2=>exact (ZR.ptr h1 h2).ren1 R hr
 |mp h1 h2=>exact (ZR.mp h1 h2).ren1 R hr
 |own h1 h2 h3 h4=>exact (ZR.own h1 h2 h3 h4).ren1 R hr
 |eptr h1 h2 h3=>exact (ZR.eptr h1 h2 h3).ren1 R hr
 |fptr h1 h2=>exact (ZR.fptr h1 h2).ren1 R rfl
theorem ZR.renO {w0:Wd}(e:Ext w0 w)(R:Ren w w2 w0.H.length){z:ZV}{a:AV}(hz:ZR w z a): ∀{a0:AV},ZR w0 z a0→ZR w2 z a:=by
 have hl:=e.Hl
 have hlen:=R.len
 induction hz with
 |fr hf=>exact fun _=> .fr (by rw[R.fr,R.h];exact hf)
 |ptr h1 h2=>
  intro a0 h0
  obtain⟨_,cs,_,q,_⟩:=h0.ptr_inv
  exact (ZR.ptr h1 h2).ren1 R (by simpa[jcc] using (List.getElem?_eq_some_iff.1 q).1)
 |mp h1 h2=>
  intro a0 h0
  obtain⟨_,cs,_,q,_⟩:=h0.mp_inv
  exact (ZR.mp h1 h2).ren1 R (by simpa[jcc] using (List.getElem?_eq_some_iff.1 q).1)
 |own h1 h2 h3 h4=>
  intro a0 h0
  have hi:_<w0.H.length:=h0.owner_lt _ (by simp[jaa];rfl)
  exact (ZR.own h1 h2 h3 h4).ren1 R (by simpa[jcc] using hi)
 |eptr h1 h2 h3=>
  intro a0 h0
  have hi:_<w0.H.length:=h0.owner_lt _ (by simp[jaa];rfl)
  exact (ZR.eptr h1 h2 h3).ren1 R (by simpa[jcc] using hi)
 |fptr h1 h2=>exact fun _=>(ZR.fptr h1 h2).ren1 R rfl
 |agg h1 h2 ih=>
  intro a0 h0
  obtain⟨ys,_,h3⟩:=h0.agg_inv
  exact .agg h1 fun i z a hz ha=>by obtain⟨b,_,hb⟩:=h3.get hz;exact ih i z a hz ha hb
 |tuple h1 h2 ih=>
  intro a0 h0
  obtain⟨ys,_,h3⟩:=h0.tuple_inv
  exact .tuple h1 fun i z a hz ha=>by obtain⟨b,_,hb⟩:=h3.get hz;exact ih i z a hz ha hb
 |func h1 h2 ih=>
  intro a0 h0
  obtain⟨ys,_,h3⟩:=h0.func_inv
  exact .func h1 fun i z a hz ha=>by obtain⟨b,_,hb⟩:=h3.get hz;exact ih i z a hz ha hb
 |bfunc h1 h2 _ _ ih ih2=>
  intro a0 h0
  obtain⟨ys,us,_,h3,h4⟩:=h0.bfunc_inv
  exact .bfunc h1 h2 (fun i z a hz ha=>by obtain⟨b,_,hb⟩:=h3.get hz;exact ih i z a hz ha hb) (fun i z a hz ha=>by obtain⟨b,_,hb⟩:=h4.get hz;exact ih2 i z a hz ha hb)
end
theorem ren_w {w0 w w2:Wd}(r0:ZRel fl L w0)(r:ZRel fl L w)(e:Ext w0 w)(R:Ren w w2 w0.H.length)(hm: ∀(i:Nat) B,i<w0.H.length→w.H[i]?=some B→w0.H[i]?=some B∨refsB w0.H.length B=true)
  (dom: ∀i p,w2.mu i=some p→i<w2.H.length) (inj: ∀i j p q,w2.mu i=some p→w2.mu j=some q→p.1=q.1→i=j)
  (hx: ∀(i:Nat) B,w0.H.length≤i→w2.H[i]?=some B→ ∃g k rows,B= .grow g k rows∧(∀r∈rows,r.length=k)∧((w2.mu i=none∧rows=[])∨ ∃id b row,w2.mu i=some (id,b)∧blk w2.h id=some row∧b+rows.length*k≤row.length∧ZRs w2 rows.flatten ((row.drop b).take (rows.length*k)))):ZRel fl L w2∧Ext w0 w2:=by
 obtain⟨n,hn⟩: ∃n,n=w0.H.length:=⟨_,rfl⟩
 have old: ∀{zs:List ZV} {ys ys0:List AV},ZRs w zs ys→ZRs w0 zs ys0→ZRs w2 zs ys:=fun h h0=>⟨h.1,fun i z a h1 h2=>by obtain⟨b,_,hb⟩:=h0.get h1;exact (h.2 i z a h1 h2).renO e R hb⟩
 have hmu: ∀i p,w2.mu i=some p→ ∃i0 p0,w.mu i0=some p0∧p0.1=p.1∧(i<w0.H.length→i0=i∧p0=p)∧(w0.H.length≤i→w0.H.length≤i0):=fun i p h=>by
  by_cases hi:i<w0.H.length
  ·rw[R.lt i hi] at h;exact⟨i,p,h,rfl,fun _=>⟨rfl,rfl⟩,fun q=>by omega⟩
  ·obtain⟨i0,p0,q1,q2,q3⟩:=R.ge i p (by omega) h
   exact⟨i0,p0,q2,q3,fun q=>absurd q hi,fun _=>q1⟩
 refine ⟨⟨by rw [R.h]; exact r.fresh, fun i h => r0.lfresh i (Nat.le_trans R.len h), by rw [R.fr, R.h]; exact r.frlt, dom, inj, fun i p h => ?_, fun i p h hl => ?_, fun i cs h => ?_, fun i g k rows h => ?_⟩,
  ⟨by rw[R.fr];exact e.frm,by rw[R.h];exact e.frb,by rw[R.h];exact e.hl,R.len,fun i p h=>?_,fun i cs h=>?_,fun i cs hi h=>e.boxr i cs hi ((R.get i _ hi).1 h),fun i g k rows hi h=>?_⟩⟩
 ·obtain⟨i0,p0,q1,q2,_⟩:=hmu i p h
  rw[R.fr,R.h,← q2];exact r.nfr i0 p0 q1
 ·obtain⟨i0,p0,q1,q2,q3,q4⟩:=hmu i p h
  rw[←q2]
  by_cases hi:i<w0.H.length
  ·rw[(q3 hi).1] at q1;exact r.wr i p0 q1 hl
  ·exact r.wr i0 p0 q1 (r0.lfresh i0 (q4 (by omega)))
 ·by_cases hi:i<w0.H.length
  ·have hb:=(R.get i _ hi).1 h
   obtain⟨id,row,h1,h2,h3⟩:=r.box i cs hb
   refine⟨id,row,(R.lt i hi).trans h1,by rw[R.h];exact h2,?_⟩
   rcases hm i _ hi hb with h4|h4
   ·obtain⟨_,row0,_,_,h5⟩:=r0.box i cs h4
    exact old h3 h5
   ·exact h3.ren R h4
  ·obtain⟨g,k,rows,q,_⟩:=hx i _ (by omega) h
   cases q
 ·by_cases hi:i<w0.H.length
  ·have hb:=(R.get i _ hi).1 h
   obtain⟨h0,h1|⟨id,b,row,h1,h2,h3,h4⟩⟩:=r.grow i g k rows hb
   ·exact⟨h0,.inl ⟨(R.lt i hi).trans h1.1,h1.2⟩⟩
   ·refine⟨h0,.inr ⟨id,b,row,(R.lt i hi).trans h1,by rw[R.h];exact h2,h3,?_⟩⟩
    rcases hm i _ hi hb with h5|h5
    ·obtain⟨_,⟨_,h6⟩|⟨_,_,_,_,_,_,h6⟩⟩:=r0.grow i g k rows h5
     ·subst h6;simp at h4 ⊢;exact .nil
     ·exact old h4 h6
    ·exact h4.ren R h5
  ·obtain⟨g',k',rows',q,h1⟩:=hx i _ (by omega) h
   injection q with t1 t2 t3;subst t1;subst t2;subst t3
   exact h1
 ·obtain⟨i0,p0,q1,q2,q3,q4⟩:=hmu i p h
  rcases e.mu i0 p0 q1 with⟨p',h1,h2⟩|h1
  ·by_cases hi:i<w0.H.length
   ·rw[(q3 hi).1] at h1;exact .inl ⟨p',h1,h2.trans q2⟩
   ·have:=r0.dom i0 p' h1;have:=q4 (by omega);omega
  ·exact .inr (by omega)
 ·have hi:=(List.getElem?_eq_some_iff.1 h).1
  obtain⟨⟨cs',h1⟩,h2⟩:=e.box i cs h
  exact⟨⟨cs',(R.get i _ hi).2 h1⟩,(R.lt i hi).trans h2⟩
 ·obtain⟨g0,rows0,h1,h2,h3⟩:=e.grow i g k rows hi ((R.get i _ hi).1 h)
  exact⟨g0,rows0,h1,h2,fun q=>by obtain⟨a1,a2,a3⟩:=h3 q;exact⟨(R.lt i hi).trans a1,a2,by rw[R.h];exact a3⟩⟩
def jd1 (w:Wd)(n:Nat):Wd:=⟨w.Fr,fun i=>if i<n then w.mu i else none,w.H.take n,w.h⟩
theorem jgd {w:Wd}{n:Nat}(hn:n≤w.H.length):Ren w (jd1 w n) n:=by
 refine⟨rfl,rfl,fun j hj=>by simp[jd1,hj],fun j B hj=>?_,fun j p hj h=>?_,?_⟩
 ·show (w.H.take n)[j]?=some B↔_
  rw[List.getElem?_take,if_pos hj]
 ·simp only[jd1] at h
  rw[if_neg (by omega)] at h;cases h
 ·show n≤(w.H.take n).length
  rw[List.length_take];omega
theorem jqu {w0 w:Wd}(r0:ZRel fl L w0)(r:ZRel fl L w)(e:Ext w0 w)(hm: ∀(i:Nat) B,i<w0.H.length→w.H[i]?=some B→w0.H[i]?=some B∨refsB w0.H.length B=true):ZRel fl L (jd1 w w0.H.length)∧Ext w0 (jd1 w w0.H.length):=by
 have hl:=e.Hl
 have hlen:(jd1 w w0.H.length).H.length=w0.H.length:=by
  show (w.H.take _).length=_
  rw[List.length_take];omega
 have hmu: ∀i p,(jd1 w w0.H.length).mu i=some p→i<w0.H.length∧w.mu i=some p:=fun i p h=>by
  simp only[jd1] at h
  split at h
  ·exact⟨by assumption,h⟩
  ·cases h
 exact ren_w r0 r e (jgd hl) hm (fun i p h=>by rw[hlen];exact (hmu i p h).1) (fun i j p q h1 h2=>r.inj i j p q (hmu i p h1).2 (hmu j q h2).2) fun i B hi h=>by have:=jae h;omega
def Mods (H0 H':ZH):Prop:= ∀(i:Nat) B,i<H0.length→H'[i]?=some B→H0[i]?=some B∨refsB H0.length B=true
theorem Mods.ext (H0 e:ZH):Mods H0 (H0++e):=fun i B hi h=>by rw[List.getElem?_append_left hi] at h;exact .inl h
theorem Mods.set {H0 H':ZH}(h:Mods H0 H'){j:Nat}{B:ZB}(hB:refsB H0.length B=true):Mods H0 (H'.set j B):=fun i C hi hc=>by
 rw[List.getElem?_set] at hc
 split at hc
 ·split at hc
  ·injection hc with hc;subst hc;exact .inr hB
  ·cases hc
 ·exact h i C hi hc
theorem Fin.trunc {H0:ZH}{z:ZV}{H':ZH}{K:ZV→ZH→Prop}(hm:Mods H0 H')(hz:refs H0.length z=true)(k:K z (H'.take H0.length)):Fin H0 z H' K:=fun fl L w w' a r e r' e' he hzz=>by
 subst e;subst he
 obtain⟨r2,e2⟩:=jqu r r' e' hm
 exact⟨z,jd1 w' w.H.length,rfl,r2,e2,hzz.ren (jgd e'.Hl) hz,k⟩
theorem Fin.frz {H0:ZH}{i g off len:Nat}{ex:Bool}{H':ZH}{K:ZV→ZH→Prop}{k:Nat}{rows:List (List ZV)}(hb:H'[i]?=some (.grow g k rows))(hle:off+len≤rows.length)(hp:rows.flatten.all jbL=true)(hk:Fin H0 (.fz k ex ((rows.drop off).take len)) (H'.set i .dead) K):Fin H0 (.own i g off len ex) H' K:=fun fl L w w' a r e r' e' he hz=>by
 subst he
 obtain⟨w2,e1,e2,e3,e4,e5⟩:=jc0 r' hb hle hp hz
 rw[←e1]
 exact hk fl L w w2 a r e e3 (e'.trans e4) e2 e5
theorem Fin.frzT {H0:ZH}{i g off len:Nat}{ex:Bool}{H':ZH}{K:ZV→ZH→Prop}{k:Nat}{rows:List (List ZV)}{vs:List ZV}{j:Nat}(hj:vs[j]?=some (.own i g off len ex))(hb:H'[i]?=some (.grow g k rows))(hle:off+len≤rows.length)(hp:rows.flatten.all jbL=true)(hk:Fin H0 (.tuple (vs.set j (.fz k ex ((rows.drop off).take len)))) (H'.set i .dead) K):Fin H0 (.tuple vs) H' K:=fun fl L w w' a r e r' e' he hz=>by
 subst he
 obtain⟨ys,rfl,hys⟩:=hz.tuple_inv
 obtain⟨y,hy,hyz⟩:=hys.get hj
 obtain⟨w2,e1,e2,e3,e4,e5⟩:=jc0 r' hb hle hp hyz
 rw[←e1]
 refine hk fl L w w2 _ r e e3 (e'.trans e4) e2 (ZRs.toTuple ⟨by simp[hys.1],fun m z a hz' ha'=>?_⟩)
 have hjl:j<vs.length:=(List.getElem?_eq_some_iff.1 hj).1
 by_cases hm:m=j
 ·subst hm
  rw[List.getElem?_set] at hz'
  simp[hjl] at hz'
  rw[hy] at ha';injection ha' with ha'
  subst hz';subst ha';exact e5
 ·rw[List.getElem?_set,if_neg (Ne.symm hm)] at hz'
  exact (hys.2 m z a hz' ha').ext e4
theorem own_out {w0 w:Wd}(r0:ZRel fl L w0)(r:ZRel fl L w)(e:Ext w0 w)(hm:Mods w0.H w.H){i g off len k:Nat}{ex:Bool}{rows:List (List ZV)}{a:AV}(hi:w0.H.length≤i)(hb:w.H[i]?=some (.grow g k rows))(hle:off+len≤rows.length)(hp:rows.flatten.all (jcc w0.H.length)=true)(hz:ZR w (.own i g off len ex) a):
  ∃w2,w2.h=w.h∧w2.H=w.H.take w0.H.length++[.grow 0 k ((rows.drop off).take len)]∧ZRel fl L w2∧Ext w0 w2∧ZR w2 (.own w0.H.length 0 0 len false) a∧ ∀z b,ZR w z b→refs w0.H.length z=true→ZR w2 z b:=by
 obtain⟨g0,gB⟩:=r.grow _ _ _ _ hb
 have hl:=e.Hl
 have hlen:((rows.drop off).take len).length=len:=by rw[List.length_take,List.length_drop];omega
 have hall: ∀x∈(rows.drop off).take len,x.length=k:=fun x hx=>g0 x (List.mem_of_mem_drop (List.mem_of_mem_take hx))
 have hHl:(w.H.take w0.H.length).length=w0.H.length:=by rw[List.length_take];omega
 obtain⟨q,hq⟩: ∃q:Option (Nat×Nat),q=(w.mu i).map fun p=>(p.1,p.2+off*k):=⟨_,rfl⟩
 obtain⟨w2,hw2⟩: ∃w2:Wd,w2=⟨w.Fr,fun j=>if j<w0.H.length then w.mu j else if j=w0.H.length then q else none,w.H.take w0.H.length++[.grow 0 k ((rows.drop off).take len)],w.h⟩:=⟨_,rfl⟩
 have f1:w2.Fr=w.Fr:=by rw[hw2]
 have f2:w2.h=w.h:=by rw[hw2]
 have f3:w2.H=w.H.take w0.H.length++[.grow 0 k ((rows.drop off).take len)]:=by rw[hw2]
 have m1:w2.mu w0.H.length=q:=by rw[hw2];simp
 have m2: ∀j,j<w0.H.length→w2.mu j=w.mu j:=fun j hj=>by rw[hw2];simp[hj]
 have m3: ∀j p,w2.mu j=some p→j<w0.H.length∨(j=w0.H.length∧q=some p):=fun j p h=>by
  rw[hw2] at h
  simp only at h
  split at h
  ·exact .inl (by assumption)
  ·split at h
   ·rename_i hj;exact .inr ⟨hj,h⟩
   ·cases h
 have mq: ∀p,q=some p→ ∃p0,w.mu i=some p0∧p0.1=p.1:=fun p h=>by
  rw[hq] at h
  cases hw:w.mu i with
  |none=>rw[hw] at h;cases h
  |some p0=>rw[hw] at h;injection h with h;exact⟨p0,rfl,by rw[←h]⟩
 have hnew:w2.H[w0.H.length]?=some (.grow 0 k ((rows.drop off).take len)):=by rw[f3,List.getElem?_append_right (by omega),hHl,Nat.sub_self];rfl
 have R:Ren w w2 w0.H.length:=by
  refine⟨f1,f2,m2,fun j B hj=>?_,fun j p hj h=>?_,by rw[f3];simp;omega⟩
  ·rw[f3,List.getElem?_append_left (by omega),List.getElem?_take,if_pos hj]
  ·rcases m3 j p h with h1|⟨_,h1⟩
   ·omega
   ·obtain⟨p0,h2,h3⟩:=mq p h1;exact⟨i,p0,hi,h2,h3⟩
 have hrows: ∀{id b:Nat} {row:List AV},w.mu i=some (id,b)→blk w.h id=some row→b+off*k+len*k≤row.length∧ZRs w2 ((rows.drop off).take len).flatten ((row.drop (b+off*k)).take (len*k)):=fun {id b row} h1 h2=>by
  rcases gB with⟨n1,_⟩|⟨id',b',row',n1,n2,n3,n4⟩
  ·rw[h1] at n1;cases n1
  ·rw[h1] at n1;injection n1 with n1;injection n1 with t1 t2;subst t1;subst t2
   rw[h2] at n2;injection n2 with n2;subst n2
   have hm2:(off+len)*k≤rows.length*k:=Nat.mul_le_mul_right _ hle
   rw[Nat.add_mul] at hm2
   have:=((n4.ren R hp).drop (off*k)).take (len*k)
   rw[jbd g0,ja8 (fun x hx=>g0 x (List.mem_of_mem_drop hx)),List.drop_take,List.drop_drop,List.take_take,Nat.min_eq_left (by omega)] at this
   exact⟨by omega,this⟩
 have hgr:(w2.mu w0.H.length=none∧(rows.drop off).take len=[])∨ ∃id b row,w2.mu w0.H.length=some (id,b)∧blk w2.h id=some row∧b+((rows.drop off).take len).length*k≤row.length∧ZRs w2 ((rows.drop off).take len).flatten ((row.drop b).take (((rows.drop off).take len).length*k)):=by
  rw[m1,hq]
  rcases gB with⟨n1,n2⟩|⟨id,b,row,n1,n2,n3,n4⟩
  ·exact .inl ⟨by rw[n1];rfl,by rw[n2];simp⟩
  ·obtain⟨s1,s2⟩:=hrows n1 n2
   exact .inr ⟨id,b+off*k,row,by rw[n1];rfl,by rw[f2];exact n2,by rw[hlen];exact s1,by rw[hlen];exact s2⟩
 obtain ⟨r2, e2⟩ := ren_w r0 r e R hm (fun j p h => by
   rw[f3];simp only[List.length_append,List.length_cons,List.length_nil,hHl]
   rcases m3 j p h with h1|⟨h1,_⟩<;>omega)
  (fun j j' p p' h1 h2 he => by
   have key: ∀j p,w2.mu j=some p→ ∃i0 p0,w.mu i0=some p0∧p0.1=p.1∧((j<w0.H.length∧i0=j)∨(j=w0.H.length∧i0=i)):=fun j p h=>by
    rcases m3 j p h with h3|⟨h3,h4⟩
    ·rw[m2 j h3] at h;exact⟨j,p,h,rfl,.inl ⟨h3,rfl⟩⟩
    ·obtain⟨p0,h5,h6⟩:=mq p h4;exact⟨i,p0,h5,h6,.inr ⟨h3,rfl⟩⟩
   obtain⟨i1,p1,a1,a2,a3⟩:=key j p h1
   obtain⟨i2,p2,b1,b2,b3⟩:=key j' p' h2
   have:=r.inj i1 i2 p1 p2 a1 b1 (a2.trans (he.trans b2.symm))
   omega)
  (fun j B hj h => by
   have hj':j=w0.H.length:=by
    have:=jae h
    rw[f3] at this
    simp only[List.length_append,List.length_cons,List.length_nil,hHl] at this
    omega
   subst hj'
   rw[hnew] at h;injection h with h;subst h
   exact⟨0,k,_,rfl,hall,hgr⟩)
 refine⟨w2,f2,f3,r2,e2,?_,fun z b hb hr=>hb.ren R hr⟩
 cases hz with
 |fr hf=>cases hf
 |own h1 h2 h3 h4=>
  rcases (h2 _ _ _ hb).2 rfl with⟨s1,rfl,rfl,rfl,hq'⟩|⟨id,b,lb,ex',row,s1,rfl,s2,s3,s4,s5,s6⟩
  ·refine jeV r2 (k:=k) (by simpa using hnew) (by rw[m1,hq,s1];rfl) ?_
   rw[f1,f2];exact hq'
  ·have:=jgq r2 hnew (id:=id) (b:=b+off*k) (off:=0) (len:=len) (lb:=lb) (ex:=false) (ex':=ex') (row:=row) (by rw[m1,hq,s1];rfl) (by rw[f2];exact s4) (by omega) s3 (by omega) (fun h=>by cases h)
   simpa using this
theorem Fin.own {H0:ZH}{i g off len:Nat}{ex:Bool}{H':ZH}{K:ZV→ZH→Prop}{k:Nat}{rows:List (List ZV)}(hm:Mods H0 H')(hi:H0.length≤i)(hb:H'[i]?=some (.grow g k rows))(hle:off+len≤rows.length)(hp:rows.flatten.all (jcc H0.length)=true)(hk:K (.own H0.length 0 0 len false) (H'.take H0.length++[.grow 0 k ((rows.drop off).take len)])):Fin H0 (.own i g off len ex) H' K:=fun fl L w w' a r e r' e' he hz=>by
 subst e;subst he
 obtain⟨w2,e1,e2,e3,e4,e5,e6⟩:=own_out r r' e' hm hi hb hle hp hz
 exact⟨_,w2,e1,e3,e4,e5,by rw[e2];exact hk⟩
/-! ### Calls -/
def zres (S:ZS)(H:ZH):ARes→Option ZV
  | .tmp t=>some (S t)
  | .cell a n=>ldZ H n (S a)
def jju (S:ZS)(H:ZH):List ARes→Option (List ZV)
  |[]=>some []
  |r::l=>match zres S H r,jju S H l with
    |some z,some zs=>some (z::zs)
    |_,_=>none
def jcm (S:ZS)(H:ZH):List ARes→Option ZV
  |[r]=>zres S H r
  |rs=>(jju S H rs).map .tuple
theorem jjv (r:ZRel fl L w)(hS: ∀t,ZR w (S t) (s t)){q:ARes}{z:ZV}(h:zres S w.H q=some z): ∃a,resA s w.h q=some a∧ZR w z a:=by
 cases q with
 |tmp t=>injection h with h;subst h;exact⟨_,rfl,hS t⟩
 |cell a n=>
  obtain⟨id,off,u,e1,e2,e3⟩:=jgE r (hS a) (show ldZ w.H n (S a)=some z from h)
  refine⟨u,?_,e3⟩
  simp only[resA,e1]
  cases n with
  |none=>exact e2
  |some n=>
   simp only[ldA] at e2
   split at e2
   ·rename_i cs hcs
    show (rd w.h id off n).map AV.agg=_
    rw[hcs];exact e2
   ·cases e2
theorem jhb (r:ZRel fl L w)(hS: ∀t,ZR w (S t) (s t)): ∀{l:List ARes} {zs:List ZV},jju S w.H l=some zs→ ∃ys,l.mapM (resA s w.h)=some ys∧ZRs w zs ys
 |[],zs,h=>by simp only[jju,Option.some.injEq] at h;subst h;exact⟨[],rfl,.nil⟩
 |q::l,zs,h=>by
  simp only[jju] at h
  split at h
  ·rename_i z zs' h1 h2
   injection h with h;subst h
   obtain⟨a,e1,e2⟩:=jjv r hS h1
   obtain⟨ys,e3,e4⟩:=jhb r hS h2
   exact⟨a::ys,by simp[List.mapM_cons,e1,e3],.cons e2 e4⟩
  ·cases h
theorem jiG (r:ZRel fl L w)(hS: ∀t,ZR w (S t) (s t)){l:List ARes}{z:ZV}(h:jcm S w.H l=some z): ∃a,jbK l s w.h=some a∧ZR w z a:=by
 unfold jcm at h
 split at h
 ·exact jjv r hS h
 ·rename_i hne
  cases hz:jju S w.H l with
  |none=>rw[hz] at h;cases h
  |some zs=>
   rw[hz] at h
   simp only[Option.map_some,Option.some.injEq] at h
   subst h
   obtain⟨ys,e1,e2⟩:=jhb r hS hz
   refine⟨.tuple ys,?_,e2.toTuple⟩
   unfold jbK
   split
   ·rename_i q;exact absurd rfl (hne q)
   ·rw[e1];rfl
theorem ZC.enter {f:FuncId}{af:jaM}{zs:List ZV}{K:ZV→ZH→Prop}(G:Gh)(hx: ∀args fl h,args.length=zs.length→X.x f args fl h=none)(hf:F f=some af)(hl:zs.length≤af.n)
  (hb:zW X F G L af.body (fun t=>zs.getD t .no) H fun x S' H'=>(x= .normal∨x= .ret)∧ ∃z,jcm S' H' af.results=some z∧Fin H z H' K):ZC X F f zs L H K:=by
 intro fl w args r e ha
 subst e
 refine AC.enter (hx args fl w.h ha.1.symm) hf (by rw[←ha.1];exact hl) ?_
 have hS: ∀t,ZR w (zs.getD t .no) (args.getD t .no):=fun t=>by
  rw[List.getD_eq_getElem?_getD,List.getD_eq_getElem?_getD]
  cases hz:zs[t]? with
  |none=>
   have:args[t]?=none:=by rw[List.getElem?_eq_none_iff] at hz ⊢;rw[←ha.1];exact hz
   rw[this];exact ZRs.nil.toTuple
  |some z=>
   obtain⟨a,h1,h2⟩:=ha.get hz
   rw[h1];exact h2
 refine (jiK hb fl w _ r rfl hS).mono fun x s' h' p=>?_
 obtain⟨S',w',rfl,r',e',hS',_,hxx,z,hz,hfin⟩:=p
 obtain⟨a,h1,h2⟩:=jiG r' hS' hz
 exact⟨hxx,a,h1,hfin fl L w w' a r rfl r' e' rfl h2⟩
theorem ZC.enterL {f:FuncId}{af:jaM}{zs:List ZV}{K:ZV→ZH→Prop}(G:Gh)(hx: ∀args fl h,args.length=zs.length→X.x f args fl h=none)(hf:F f=some af)(hl:zs.length≤af.n)
  (hb:(∀k,L (H.length+k)=true)→zW X F G L af.body (fun t=>zs.getD t .no) H fun x S' H'=>(x= .normal∨x= .ret)∧ ∃z,jcm S' H' af.results=some z∧Fin H z H' K):ZC X F f zs L H K:=fun fl w args r e ha=>
 ZC.enter G hx hf hl (hb fun k=>r.lfresh _ (by rw[e];omega)) fl w args r e ha
theorem ZC.const {f:FuncId}{zs:List ZV}{K:ZV→ZH→Prop}{v:Value}(hx: ∀args fl h,args.length=zs.length→X.x f args fl h=some (.val v,h))(k:K (.val v) H):ZC X F f zs L H K:=fun fl w args r e ha=>by
 subst e
 exact AC.const (hx args fl w.h ha.1.symm) ⟨.val v,w,rfl,r,Ext.refl w,.fr (.val v),k⟩
end
section
open Go Go.RowKit
section
variable {L:Nat→Bool}{S:ZS}{H:ZH}{X:XT}{F:FuncId→Option jaM}{G:Gh}{KK:jas→ZS→ZH→Prop}
/-! ### What goes on, held back -/
def ZgoO (X:XT)(F:FuncId→Option jaM)(G:Gh)(L:Nat→Bool)(base:Nat)(rs:List Nat)(pr:Option (List Nat))(l:List jap)(S:ZS)(dst:Option Nat)(K:ZS→ZH→Prop)(z:ZV)(H:ZH):Prop:=zO X F G L base rs pr l (zput S dst z) H K
def ZgoG (G:Gh)(dst:Option Nat)(K:ZV→ZH→Prop)(z:ZV)(H:ZH):Prop:=zgo G dst K z H
def ZgoC (X:XT)(F:FuncId→Option jaM)(G:Gh)(L:Nat→Bool)(c:jar)(K:jas→ZS→ZH→Prop)(S:ZS)(H:ZH):Prop:=zW X F G L c S H K
section
variable {base:Nat}{rs:List Nat}{pr:Option (List Nat)}{l:List jap}{dst:Option Nat}{K:ZS→ZH→Prop}{z:ZV}{K1:ZV→ZH→Prop}{c a b:jar}{op:AOp}
theorem zgoO:ZgoO X F G L base rs pr l S dst K z H↔zO X F G L base rs pr l (zput S dst z) H K:=Iff.rfl
theorem zgoG:ZgoG G dst K1 z H↔zgo G dst K1 z H:=Iff.rfl
theorem zgoC:ZgoC X F G L c KK S H↔zW X F G L c S H KK:=Iff.rfl
theorem zgoN:ZgoG Gh.no dst K1 z H↔K1 z H:=by cases dst<;>exact Iff.rfl
theorem jqa:zW X F G L .skip S H KK↔KK .normal S H:=Iff.rfl
theorem zW_ops:zW X F G L (.ops l) S H KK↔zO X F G L H.length [] none l S H (KK .normal):=Iff.rfl
theorem jqb:zW X F G L (.opsD l) S H KK↔zO X.det F G L H.length [] none l S H (KK .normal):=Iff.rfl
theorem jrV {x:jaG}{b:Bool}{pn:PX}:XT.det ⟨x,b,pn⟩=⟨x,false,pn⟩:=rfl
theorem zW_map {x:jaG}{pn:PX}{src:Opd}{it nx more pair out nb:Nat}{pre asg:List jap}{body:jar}(hit:(asg.filterMap (·.dst)++wrs body++[nx,more,pair]).contains it=false)(h:zO (⟨x,true,pn⟩:XT) F G L H.length [] none pre S H fun S' H'=> ∃i cs,zev S' src=some (.mp i)∧H'[i]?=some (.box cs)∧ZmapL (⟨x,true,pn⟩:XT) F L nx more pair out nb asg body (asg.filterMap (·.dst)++wrs body++[nx,more,pair]) KK i cs (zupd S' it (.eptr H'.length 0 0 0)) (H'++[.dead])):zW (⟨x,true,pn⟩:XT) F G L (.rng true src it nx more pair out nb pre asg body) S H KK:=
 ⟨hit, by
  simp only[if_true]
  exact jct (fun S' H' _ k=>by obtain⟨i,cs,k1,k2,k3⟩:=k;exact⟨i,cs,k1,k2,.inr trivial,k3⟩) h⟩
theorem jfY {out nb:Nat}{go:ZS→ZH→Prop}:zrng out nb go KK .normal S H↔go S H:=Iff.rfl
theorem jjt {out nb j:Nat}{go:ZS→ZH→Prop}:zrng out nb go KK (.exit j) S H↔(if j=nb then go S H else if j=out then KK .normal S H else KK (.exit j) S H):=Iff.rfl
theorem jmA {out nb:Nat}{go:ZS→ZH→Prop}:zrng out nb go KK .ret S H↔KK .ret S H:=Iff.rfl
theorem zW_seq:zW X F G L (.seq a b) S H KK↔zW X F G L a S H (jfW (ZgoC X F G L b KK) KK):=Iff.rfl
theorem jqe {x:Opd}:zW X F G L (.cond x a b) S H KK↔ ∃t,zev S x=some (.val (.bool t))∧(t=true→zW X F G L a S H KK)∧(t=false→zW X F G L b S H KK):=Iff.rfl
theorem jna {id:Nat}:zW X F G L (.block id c) S H KK↔zW X F G L c S H (jcb id KK):=Iff.rfl
theorem jqd {id:Nat}:zW X F G L (.exit id) S H KK↔KK (.exit id) S H:=Iff.rfl
theorem jm9:zW X F G L (.scope c) S H KK↔zW X F G L c S H KK:=Iff.rfl
theorem zW_ret:zW X F G L .ret S H KK↔KK .ret S H:=Iff.rfl
theorem jaK {k1:ZS→ZH→Prop}:jfW k1 KK .normal S H↔k1 S H:=Iff.rfl
theorem jha {k1:ZS→ZH→Prop}{id:Nat}:jfW k1 KK (.exit id) S H↔KK (.exit id) S H:=Iff.rfl
theorem jjs {k1:ZS→ZH→Prop}:jfW k1 KK .ret S H↔KK .ret S H:=Iff.rfl
theorem jbh {id:Nat}:jcb id KK .normal S H↔KK .normal S H:=Iff.rfl
theorem jf0 {id j:Nat}:jcb id KK (.exit j) S H↔(if j=id then KK .normal S H else KK (.exit j) S H):=Iff.rfl
theorem jhh {id:Nat}:jcb id KK .ret S H↔KK .ret S H:=Iff.rfl
theorem jf8:zO X F G L base rs pr [] S H K↔K S H:=Iff.rfl
def jhy:ZV→Bool→Option Bool
  | .val (.bool b),w=>some (b==w)
  | .val _,_=>some false
  | .tuple [],_=>some false
  |_,_=>none
theorem jgc {b w:Bool}:jhy (.val (.bool b)) w=some (b==w):=rfl
theorem jjV {w:Bool}:jhy .no w=some false:=rfl
theorem jqf:zO X F G L base rs pr (⟨dst,op,none,true⟩::l) S H K↔z1c X F L none (zlit G dst) S H (ZgoG G dst (ZgoO X F G L base rs pr l S dst K)) op:=by
 show jdN (some true) (if true=true then _ else _) _↔_
 rw[jbD,if_pos rfl];exact Iff.rfl
theorem jgb {t:Nat}{wt:Bool}{iso:Bool}:jeM ⟨dst,op,some (t,wt),iso⟩ S=jhy (S t) wt:=by
 unfold jeM jhy
 simp only
 cases S t with
 |val v=>cases v<;>rfl
 |tuple l=>cases l<;>rfl
 |_=>rfl
theorem jnb {t:Nat}{wt:Bool}:zO X F G L base rs pr (⟨dst,op,some (t,wt),true⟩::l) S H K↔jdN (jhy (S t) wt) (z1c X F L none (zlit G dst) S H (ZgoG G dst (ZgoO X F G L base rs pr l S dst K)) op) (ZgoO X F G L base rs pr l S dst K .no H):=by
 show jdN (jeM _ S) (if true=true then _ else _) _↔_
 rw[jgb,if_pos rfl];exact Iff.rfl
def jaf (X:XT)(F:FuncId→Option jaM)(G:Gh)(L:Nat→Bool)(base:Nat)(rs:List Nat)(pr:Option (List Nat))(o:jap)(l:List jap)(S:ZS)(H:ZH)(K:ZS→ZH→Prop):Prop:=
  ∃fb,jdq rs o l S=some fb∧ ∃rs',zrs rs o S=rs'∧ ∃pr',zpr rs pr o l S=pr'∧z1c X F (fun i=>L i&& !fb.contains i) (some (base,pr)) (zlit G o.dst) S H (ZgoG G o.dst (ZgoO X F G L base rs' pr' l S o.dst K)) o.op
theorem jnc:zO X F G L base rs pr (⟨dst,op,none,false⟩::l) S H K↔jaf X F G L base rs pr ⟨dst,op,none,false⟩ l S H K:=by
 show jdN (some true) (if false=true then _ else _) _↔_
 rw[jbD,if_neg (by simp)]
 unfold jaf
 constructor
 ·rintro⟨fb,h1,h2⟩;exact⟨fb,h1,_,rfl,_,rfl,h2⟩
 ·rintro⟨fb,h1,_,rfl,_,rfl,h2⟩;exact⟨fb,h1,h2⟩
theorem jjR {t:Nat}{wt:Bool}:zO X F G L base rs pr (⟨dst,op,some (t,wt),false⟩::l) S H K↔jdN (jhy (S t) wt) (jaf X F G L base rs pr ⟨dst,op,some (t,wt),false⟩ l S H K) (ZgoO X F G L base rs pr l S dst K .no H):=by
 have:jaf X F G L base rs pr ⟨dst,op,some (t,wt),false⟩ l S H K↔(∃fb,jdq rs ⟨dst,op,some (t,wt),false⟩ l S=some fb∧z1c X F (fun i=>L i&& !fb.contains i) (some (base,pr)) (zlit G dst) S H (zgo G dst fun z H'=>zO X F G L base (zrs rs ⟨dst,op,some (t,wt),false⟩ S) (zpr rs pr ⟨dst,op,some (t,wt),false⟩ l S) l (zput S dst z) H' K) op):=by
  unfold jaf
  constructor
  ·rintro⟨fb,h1,_,rfl,_,rfl,h2⟩;exact⟨fb,h1,h2⟩
  ·rintro⟨fb,h1,h2⟩;exact⟨fb,h1,_,rfl,_,rfl,h2⟩
 rw[this]
 show jdN (jeM _ S) (if false=true then _ else _) _↔_
 rw[jgb,if_neg (by simp)];exact Iff.rfl
end
/-! ### Operations -/
section
variable {top:Option (Nat×Option (List Nat))}{gl:Bool}{K:ZV→ZH→Prop}
theorem z_mv {x:Opd}:z1c X F L top gl S H K (.mv x)↔ ∃z,zev S x=some z∧K z H:=Iff.rfl
theorem z_pick {c a b:Opd}:z1c X F L top gl S H K (.pick c a b)↔ ∃t x y,zev S c=some (.val (.bool t))∧zev S a=some x∧zev S b=some y∧K (if t=true then x else y) H:=Iff.rfl
theorem z_box {n:Nat}{x:Opd}:z1c X F L top gl S H K (.box n x)↔ ∃z,zev S x=some z∧z.cells.length=n∧z.cells.all ZV.isCell=true∧K (.ptr H.length 0) (H++[.box z.cells]):=Iff.rfl
theorem z_zero {cs:List AV}:z1c X F L top gl S H K (.zero cs)↔ ∃zs,zcs cs=some zs∧(if gl=true then K (.eptr H.length 0 0 0) (H++[.grow 0 zs.length [zs]]) else K (.ptr H.length 0) (H++[.box zs])):=Iff.rfl
theorem jp8 {z:List AV}{ps:List (Nat×Nat×Opd)}:z1c X F L top gl S H K (.build z ps)↔ ∃zs qs cs,zcs z=some zs∧jdi S ps=some qs∧jfy zs qs=some cs∧K (.agg cs) H:=Iff.rfl
theorem z_lits {k len:Nat}{z:List AV}{ps:List (Nat×Nat×Opd)}:z1c X F L top gl S H K (.lits k len z ps)↔ ∃zs qs cs,zcs z=some zs∧jdi S ps=some qs∧jfy zs qs=some cs∧cs.length=len*k∧cs.all ZV.isCell=true∧
   (if gl=true then K (.own H.length 0 0 len true) (H++[.grow 0 k (jad len k cs)]) else cs.all jbL=true∧K (.fz k true (jad len k cs)) H):=Iff.rfl
theorem z_load {n:Option Nat}{x:Opd}:z1c X F L top gl S H K (.load n x)↔ ∃z v,zev S x=some z∧topZ top z=true∧ldZ H n z=some v∧K v H:=Iff.rfl
theorem jiI {n:Nat}{a v:Opd}:z1c X F L top gl S H K (.store n a v)↔ ∃p z H',zev S a=some p∧zev S v=some z∧z.cells.length=n∧z.cells.all ZV.isCell=true∧stZ L H z.cells p=some H'∧K .no H':=Iff.rfl
theorem jhu {x:Opd}:z1c X F L top gl S H K (.nilCheck x)↔ ∃z,zev S x=some z∧jfm z=true∧K z H:=Iff.rfl
theorem z_bin {op:BinOp}{x y:Opd}:z1c X F L top gl S H K (.bin op x y)↔ ∃a b v,zev S x=some (.val a)∧zev S y=some (.val b)∧binV op a b=some v∧K (.val v) H:=Iff.rfl
theorem jp6 {neg:Bool}{kd:Nat}{x:Opd}:z1c X F L top gl S H K (.eqNil neg kd x)↔ ∃z,zev S x=some z∧((∃b,nilZ H kd z=some b∧K (.val (.bool (if neg=true then !b else b))) H)∨((∃k ex,z= .fz k ex []∧kd=0)∧ ∀b,K (.val (.bool b)) H)):=Iff.rfl
theorem jm6 {neg:Bool}{x y:Opd}:z1c X F L top gl S H K (.eqBool neg x y)↔ ∃a b,zev S x=some (.val (.bool a))∧zev S y=some (.val (.bool b))∧K (.val (.bool (if neg=true then !(a==b) else a==b))) H:=Iff.rfl
theorem jp7 {neg:Bool}{ks:List Nat}{x y:Opd}:z1c X F L top gl S H K (.eqAgg neg ks x y)↔ ∃a b t,zev S x=some (.agg a)∧zev S y=some (.agg b)∧jj7 ks a b=some t∧K (.val (.bool (if neg=true then !t else t))) H:=Iff.rfl
theorem z_un {op:UnOp}{x:Opd}:z1c X F L top gl S H K (.un op x)↔ ∃a v,zev S x=some (.val a)∧unV op a=some v∧K (.val v) H:=Iff.rfl
theorem z_conv {kd:IntKind}{x:Opd}:z1c X F L top gl S H K (.conv kd x)↔ ∃k' n,zev S x=some (.val (.int k' n))∧K (.val (.int kd (kd.wrap n))) H:=Iff.rfl
theorem jp5 {off:Nat}{n:Option Nat}{x:Opd}:z1c X F L top gl S H K (.field off n x)↔ ∃cs v,zev S x=some (.agg cs)∧jcY cs off n=some v∧K v H:=Iff.rfl
theorem jf7 {off:Nat}{x:Opd}:z1c X F L top gl S H K (.fieldAddr off x)↔ ∃z v,zev S x=some z∧addZ off z=some v∧K v H:=Iff.rfl
theorem jd6 {k:Nat}{x i:Opd}:z1c X F L top gl S H K (.indexAddr k x i)↔ ∃z y j v,zev S x=some z∧zev S i=some y∧natZ y=some j∧jbV H k j z=some v∧K v H:=Iff.rfl
theorem jhw {k len:Nat}{x i:Opd}:z1c X F L top gl S H K (.indexArr k len x i)↔ ∃z y j v,zev S x=some z∧zev S i=some y∧natZ y=some j∧j<len∧addZ (j*k) z=some v∧K v H:=Iff.rfl
theorem jp4 {k len:Nat}{n:Option Nat}{x i:Opd}:z1c X F L top gl S H K (.index k len n x i)↔ ∃cs y j v,zev S x=some (.agg cs)∧zev S i=some y∧natZ y=some j∧j<len∧jcY cs (j*k) n=some v∧K v H:=Iff.rfl
theorem jhv {x i:Opd}:z1c X F L top gl S H K (.indexStr x i)↔ ∃t y j b,zev S x=some (.val (.string t))∧zev S i=some y∧natZ y=some j∧t[j]?=some b∧K (.val (.int .u8 b.toNat)) H:=Iff.rfl
theorem jp3 {k:Nat}{x:Opd}{lo hi mx:Option Opd}:z1c X F L top gl S H K (.slice k x lo hi mx)↔ ∃z n l u m v,zev S x=some z∧lenZ H z=some n∧numZ S 0 lo=some l∧numZ S n hi=some u∧numZ S n mx=some m∧cutZ H k l u m mx.isSome z=some v∧K v H:=Iff.rfl
theorem jjP {k bytes:Nat}{z:List AV}{l c:Opd}:z1c X F L top gl S H K (.mkSlice k bytes z l c)↔ ∃x y a b zs,zev S l=some x∧zev S c=some y∧natZ x=some a∧natZ y=some b∧zcs z=some zs∧zs.length=k∧a≤b∧b*bytes≤ja5∧K (.own H.length 0 0 a (a==b)) (H++[.grow 0 k (List.replicate a zs)]):=Iff.rfl
theorem jjQ {i:Nat}{x:Opd}:z1c X F L top gl S H K (.extract i x)↔ ∃vs v,zev S x=some (.tuple vs)∧vs[i]?=some v∧K v H:=Iff.rfl
theorem z_func {f:FuncId}{caps:List Opd}:z1c X F L top gl S H K (.func f caps)↔ ∃zs,zevs S caps=some zs∧K (.func f zs) H:=Iff.rfl
theorem z_call {f:Opd}{args:List Opd}:z1c X F L top gl S H K (.call f args)↔ ∃z zs g vs,zev S f=some z∧zevs S args=some zs∧jd5 z zs=some (g,vs)∧ZC X F g vs L H K:=Iff.rfl
theorem jfa {f:FuncId}{caps zs:List ZV}:jd5 (.func f caps) zs=some (f,zs++caps):=rfl
theorem jem {f:FuncId}{first caps zs:List ZV}:jd5 (.bfunc f first caps) zs=some (f,first++zs++caps):=rfl
theorem jp9 {f:FuncId}{first caps:List Opd}:z1c X F L top gl S H K (.bfunc f first caps)↔ ∃zs us,zevs S first=some zs∧zevs S caps=some us∧K (.bfunc f zs us) H:=Iff.rfl
theorem jht {k n:Nat}{x:Opd}{lo hi mx:Option Opd}:z1c X F L top gl S H K (.sliceArr k n x lo hi mx)↔ ∃i g kk row l u m,zev S x=some (.eptr i g 0 0)∧H[i]?=some (.grow g kk [row])∧row.all jbL=true∧row.length=n*k∧L i=true∧numZ S 0 lo=some l∧numZ S n hi=some u∧numZ S n mx=some m∧l≤u∧u≤m∧m≤n∧K (.fz k false (((jad n k row).drop l).take (u - l))) (H.set i .dead):=Iff.rfl
theorem jm7 {k bytes:Nat}{x y:Opd}:z1c X F L top gl S H K (.append k bytes x y)↔ ∃z u new v H',zev S x=some z∧zev S y=some u∧jbi H k u=some new∧appZ L H k bytes new z=some (v,H')∧K v H':=Iff.rfl
theorem z_len {x:Opd}:z1c X F L top gl S H K (.len x)↔ ∃z n,zev S x=some z∧lenZ H z=some n∧K (.val (.int .i64 n)) H:=Iff.rfl
theorem jm5 {x:Opd}:z1c X F L top gl S H K (.lenStr x)↔ ∃t,zev S x=some (.val (.string t))∧K (.val (.int .i64 t.size)) H:=Iff.rfl
theorem z_copy {k:Nat}{x y:Opd}:z1c X F L top gl S H K (.copy k x y)↔ ∃z u new n H',zev S x=some z∧zev S y=some u∧jbi H k u=some new∧jrY L H k new z=some (n,H')∧K (.val (.int .i64 (n:Nat))) H':=Iff.rfl
theorem jiJ:z1c X F L top gl S H K .mkMap↔K (.mp H.length) (H++[.box []]):=Iff.rfl
theorem jb6 {ok:Bool}{zz:AV}{x y:Opd}:z1c X F L top gl S H K (.mapGet ok zz x y)↔ ∃i n l z0,zev S x=some (.mp i)∧zev S y=some (.val (.int .i64 n))∧H[i]?=some (.box (l.map ent))∧zev S (.av zz)=some z0∧K (mgot ok z0 (jbg l n)) H:=Iff.rfl
theorem jfE {x y v:Opd}:z1c X F L top gl S H K (.mapSet x y v)↔ ∃i n l z,zev S x=some (.mp i)∧zev S y=some (.val (.int .i64 n))∧H[i]?=some (.box (l.map ent))∧zev S v=some z∧L i=true∧K .no (H.set i (.box ((jc3 l n z).map ent))):=Iff.rfl
theorem jm4 {mx:Bool}{x:Opd}{xs:List Opd}:z1c X F L top gl S H K (.minmax mx x xs)↔ ∃z zs v,zev S x=some z∧zevs S xs=some zs∧jjg mx z zs=some v∧K v H:=Iff.rfl
end
/-! ### Operands, slots -/
theorem jp0 {t:Nat}:zev S (.tmp t)=some (S t):=rfl
theorem jpZ {v:Value}:zev S (.av (.val v))=some (.val v):=rfl
theorem jm0 {f:FuncId}:zev S (.av (.func f []))=some (.func f []):=rfl
theorem jp1 {cs:List AV}:zev S (.av (.agg cs))=(zcs cs).map .agg:=rfl
theorem zev_no:zev S (.av (.tuple []))=some .no:=rfl
theorem jmZ:zevs S []=some []:=rfl
theorem jjK {x:Opd}{l:List Opd}{zs:List ZV}:zevs S (x::l)=some zs↔ ∃z r,zev S x=some z∧zevs S l=some r∧z::r=zs:=by
 simp only[zevs]
 constructor
 ·intro h
  split at h
  ·rename_i z r h1 h2;injection h with h;exact⟨z,r,h1,h2,h⟩
  ·cases h
 ·rintro⟨z,r,h1,h2,rfl⟩;rw[h1,h2]
theorem jp2:zcs []=some []:=rfl
theorem jm1 {v:Value}{l:List AV}:zcs (.val v::l)=(zcs l).map (ZV.val v:: ·):=rfl
theorem jhc:jdi S []=some []:=rfl
theorem jfZ {o n:Nat}{x:Opd}{r:List (Nat×Nat×Opd)}{qs:List (Nat×Nat×ZV)}:jdi S ((o,n,x)::r)=some qs↔ ∃z l,zev S x=some z∧jdi S r=some l∧(o,n,z)::l=qs:=by
 simp only[jdi]
 constructor
 ·intro h
  split at h
  ·rename_i z l h1 h2;injection h with h;exact⟨z,l,h1,h2,h⟩
  ·cases h
 ·rintro⟨z,l,h1,h2,rfl⟩;rw[h1,h2]
theorem jkD {cs:List ZV}:jfy cs []=some cs:=rfl
theorem jh1 {cs cs':List ZV}{o n:Nat}{v:ZV}{r:List (Nat×Nat×ZV)}:jfy cs ((o,n,v)::r)=some cs'↔(v.cells.length=n∧o+n≤cs.length∧v.cells.all ZV.isCell=true)∧jfy (jac cs o v.cells) r=some cs':=by
 simp only[jfy]
 constructor
 ·intro h
  split at h
  ·exact⟨by assumption,h⟩
  ·cases h
 ·rintro⟨h1,h2⟩;rw[if_pos h1];exact h2
theorem jjy {d:Nat}{v:ZV}:zput S (some d) v=zupd S d v:=rfl
theorem jjz {v:ZV}:zput S none v=S:=rfl
theorem jaQ {d t:Nat}{v:ZV}:zupd S d v t=if t=d then v else S t:=rfl
theorem jpG {d:Option Nat}:zlit Gh.no d=false:=by cases d<;>rfl
theorem jjC {d:Nat}:zlit G (some d)=G.lit.contains d:=rfl
theorem jjX {z:ZV}:(topZ none z=true)=True:=by simp[topZ]
theorem jhB {b i o:Nat}:(topZ (some (b,none)) (.ptr i o)=true)↔i<b:=by simp[topZ]
theorem jhA {b i o:Nat}{l:List Nat}:(topZ (some (b,some l)) (.ptr i o)=true)↔i<b∧l.contains i=true:=by simp[topZ]
theorem jfN {n:Nat}:natZ (Z64 (n:Nat))=some n:=by simp[natZ]
theorem jhn {v:Value}:(ZV.val v).cells=[.val v]:=rfl
theorem jjL {k:Nat}{ex:Bool}{rows:List (List ZV)}:(ZV.fz k ex rows).cells=[.fz k ex rows]:=rfl
theorem jhp {i g o l:Nat}{ex:Bool}:(ZV.own i g o l ex).cells=[.own i g o l ex]:=rfl
theorem jho {i o:Nat}:(ZV.ptr i o).cells=[.ptr i o]:=rfl
theorem jf6 {f:FuncId}{c:List ZV}:(ZV.func f c).cells=[.func f c]:=rfl
theorem jhq {cs:List ZV}:(ZV.agg cs).cells=cs:=rfl
theorem jjM {v:Value}:(ZV.val v).isCell=true:=rfl
theorem jm2 {k:Nat}{ex:Bool}{rows:List (List ZV)}:(ZV.fz k ex rows).isCell=true:=rfl
theorem jjO {i g o l:Nat}{ex:Bool}:(ZV.own i g o l ex).isCell=true:=rfl
theorem jjN {i o:Nat}:(ZV.ptr i o).isCell=true:=rfl
theorem jhr {f:FuncId}{c:List ZV}:(ZV.func f c).isCell=true:=rfl
theorem jnq {v:Value}:jbL (.val v)=true:=rfl
theorem jqY {k:Nat}{ex:Bool}{rows:List (List ZV)}:jbL (.fz k ex rows)=true:=rfl
theorem jhV {i o:Nat}:jfm (.ptr i o)=true:=rfl
theorem jgy {i g e o:Nat}:jfm (.eptr i g e o)=true:=rfl
theorem jgx {k:Nat}{rows:List (List ZV)}{j o:Nat}:jfm (.fptr k rows j o)=true:=rfl
theorem jgw {f:FuncId}{c:List ZV}:jfm (.func f c)=true:=rfl
theorem jsq {n i o:Nat}:addZ n (.ptr i o)=some (.ptr i (o+n)):=rfl
theorem jnX {n i g e o:Nat}:addZ n (.eptr i g e o)=some (.eptr i g e (o+n)):=rfl
theorem jnW {n k:Nat}{rows:List (List ZV)}{j o:Nat}:addZ n (.fptr k rows j o)=some (.fptr k rows j (o+n)):=rfl
theorem jkk {cs:List ZV}{o:Nat}:jcY cs o none=cs[o]?:=rfl
theorem jkj {cs:List ZV}{o n:Nat}{v:ZV}:jcY cs o (some n)=some v↔o+n≤cs.length∧ .agg ((cs.drop o).take n)=v:=by
 simp only[jcY]
 constructor
 ·intro h
  split at h
  ·injection h with h;exact⟨by assumption,h⟩
  ·cases h
 ·rintro⟨h1,rfl⟩;rw[if_pos h1]
theorem jl6 {k j:Nat}{ex:Bool}{rows:List (List ZV)}{v:ZV}:jbV H k j (.fz k ex rows)=some v↔j<rows.length∧ .fptr k rows j 0=v:=by
 simp only[jbV]
 constructor
 ·intro h
  split at h
  ·rename_i hc;injection h with h;exact⟨hc.2,h⟩
  ·cases h
 ·rintro⟨h1,rfl⟩;rw[if_pos ⟨trivial,h1⟩]
theorem jbT {k j i g off len:Nat}{ex:Bool}{v:ZV}:jbV H k j (.own i g off len ex)=some v↔ ∃rows,H[i]?=some (.grow g k rows)∧off+len≤rows.length∧j<len∧ .eptr i g (off+j) 0=v:=by
 simp only[jbV]
 constructor
 ·intro h
  split at h
  ·rename_i g' k' rows hb
   split at h
   ·rename_i hc
    obtain⟨rfl,rfl,h1,h2⟩:=hc
    injection h with h;exact⟨rows,hb,h1,h2,h⟩
   ·cases h
  ·cases h
 ·rintro⟨rows,h1,h2,h3,rfl⟩;rw[h1];simp only;rw[if_pos ⟨trivial,trivial,h2,h3⟩]
theorem jhX {n:Option Nat}{i o:Nat}{v:ZV}:ldZ H n (.ptr i o)=some v↔ ∃cs,H[i]?=some (.box cs)∧jcY cs o n=some v:=by
 simp only[ldZ]
 constructor
 ·intro h
  split at h
  ·rename_i cs hb;exact⟨cs,hb,h⟩
  ·cases h
 ·rintro⟨cs,h1,h2⟩;rw[h1];exact h2
theorem jbO {n:Option Nat}{i g e o:Nat}{v:ZV}:ldZ H n (.eptr i g e o)=some v↔ ∃k rows r,H[i]?=some (.grow g k rows)∧rows[e]?=some r∧jcY r o n=some v:=by
 simp only[ldZ]
 constructor
 ·intro h
  split at h
  ·rename_i g' k rows hb
   split at h
   ·rename_i hg;subst hg
    split at h
    ·rename_i r hr;exact⟨k,rows,r,hb,hr,h⟩
    ·cases h
   ·cases h
  ·cases h
 ·rintro⟨k,rows,r,h1,h2,h3⟩;rw[h1];simp only[if_true];rw[h2];exact h3
theorem jlL {n:Option Nat}{k:Nat}{rows:List (List ZV)}{j o:Nat}{v:ZV}:ldZ H n (.fptr k rows j o)=some v↔ ∃r,rows[j]?=some r∧jcY r o n=some v:=by
 simp only[ldZ]
 constructor
 ·intro h
  split at h
  ·rename_i r hr;exact⟨r,hr,h⟩
  ·cases h
 ·rintro⟨r,h1,h2⟩;rw[h1];exact h2
theorem st_ptr {vs:List ZV}{i o:Nat}{H':ZH}:stZ L H vs (.ptr i o)=some H'↔ ∃cs,H[i]?=some (.box cs)∧L i=true∧o+vs.length≤cs.length∧H.set i (.box (jac cs o vs))=H':=by
 simp only[stZ]
 constructor
 ·intro h
  split at h
  ·rename_i cs hb
   split at h
   ·rename_i hc;injection h with h;exact⟨cs,hb,hc.1,hc.2,h⟩
   ·cases h
  ·cases h
 ·rintro⟨cs,h1,h2,h3,rfl⟩;rw[h1];simp only;rw[if_pos ⟨h2,h3⟩]
theorem jdt {vs:List ZV}{i g e o:Nat}{H':ZH}:stZ L H vs (.eptr i g e o)=some H'↔ ∃k rows r,H[i]?=some (.grow g k rows)∧rows[e]?=some r∧L i=true∧o+vs.length≤r.length∧H.set i (.grow g k (rows.set e (jac r o vs)))=H':=by
 simp only[stZ]
 constructor
 ·intro h
  split at h
  ·rename_i g' k rows hb
   split at h
   ·rename_i hg;subst hg
    split at h
    ·rename_i r hr
     split at h
     ·rename_i hc;injection h with h;exact⟨k,rows,r,hb,hr,hc.1,hc.2,h⟩
     ·cases h
    ·cases h
   ·cases h
  ·cases h
 ·rintro⟨k,rows,r,h1,h2,h3,h4,rfl⟩;rw[h1];simp only[if_true];rw[h2];simp only;rw[if_pos ⟨h3,h4⟩]
theorem jnl {k:Nat}:jbi H k .nil=some []:=rfl
theorem jd8 {k:Nat}{ex:Bool}{rows:List (List ZV)}:jbi H k (.fz k ex rows)=some rows:=by simp[jbi]
theorem jc7 {k i g off len:Nat}{ex:Bool}{r:List (List ZV)}:jbi H k (.own i g off len ex)=some r↔ ∃rows,H[i]?=some (.grow g k rows)∧off+len≤rows.length∧(rows.drop off).take len=r:=by
 simp only[jbi]
 constructor
 ·intro h
  split at h
  ·rename_i g' k' rows hb
   split at h
   ·rename_i hc
    obtain⟨rfl,rfl,h1⟩:=hc
    injection h with h;exact⟨rows,hb,h1,h⟩
   ·cases h
  ·cases h
 ·rintro⟨rows,h1,h2,rfl⟩;rw[h1];simp only;rw[if_pos ⟨trivial,trivial,h2⟩]
theorem jri:lenZ H .nil=some 0:=rfl
theorem len_fz {k:Nat}{ex:Bool}{rows:List (List ZV)}:lenZ H (.fz k ex rows)=some rows.length:=rfl
theorem jaY {i g off len:Nat}{ex:Bool}{n:Nat}:lenZ H (.own i g off len ex)=some n↔ ∃k rows,H[i]?=some (.grow g k rows)∧len=n:=by
 simp only[lenZ]
 constructor
 ·intro h
  split at h
  ·rename_i g' k rows hb
   split at h
   ·rename_i hg;subst hg;injection h with h;exact⟨k,rows,hb,h⟩
   ·cases h
  ·cases h
 ·rintro⟨k,rows,h1,rfl⟩;rw[h1];simp
theorem jsm {k bytes:Nat}{new:List (List ZV)}{v:ZV}{H':ZH}:appZ L H k bytes new .nil=some (v,H')↔new.length*bytes≤ja5∧ .own H.length 0 0 new.length false=v∧H++[.grow 0 k new]=H':=by
 simp only[appZ]
 constructor
 ·intro h
  split at h
  ·injection h with h;injection h with h1 h2;exact⟨by assumption,h1,h2⟩
  ·cases h
 ·rintro⟨h1,rfl,rfl⟩;rw[if_pos h1]
theorem jdL {k bytes i g off len:Nat}{new:List (List ZV)}{v:ZV}{H':ZH}:appZ L H k bytes new (.own i g off len false)=some (v,H')↔ ∃rows,H[i]?=some (.grow g k rows)∧off+len≤rows.length∧(len+new.length)*bytes≤ja5∧L i=true∧ .own i (g+1) 0 (len+new.length) false=v∧H.set i (.grow (g+1) k ((rows.drop off).take len++new))=H':=by
 simp only[appZ]
 constructor
 ·intro h
  split at h
  ·rename_i g' k' rows hb
   split at h
   ·rename_i hc
    obtain⟨rfl,rfl,h1,h2⟩:=hc
    simp only[Bool.false_eq_true,if_false] at h
    split at h
    ·injection h with h;injection h with h3 h4;exact⟨rows,hb,h1,h2,by assumption,h3,h4⟩
    ·cases h
   ·cases h
  ·cases h
 ·rintro⟨rows,h1,h2,h3,h4,rfl,rfl⟩;rw[h1];simp only;rw[if_pos ⟨trivial,trivial,h2,h3⟩];simp only[Bool.false_eq_true,if_false];rw[if_pos h4]
theorem jnT {k bytes i g off len:Nat}{x:List ZV}{v:ZV}{H':ZH}:appZ L H k bytes [x] (.own i g off len true)=some (v,H')↔ ∃rows,H[i]?=some (.grow g k rows)∧off+len≤rows.length∧(len+1)*bytes≤ja5∧ .own H.length 0 0 (len+1) false=v∧H++[.grow 0 k ((rows.drop off).take len++[x])]=H':=by
 simp only[appZ]
 constructor
 ·intro h
  split at h
  ·rename_i g' k' rows hb
   split at h
   ·rename_i hc
    obtain⟨rfl,rfl,h1,h2⟩:=hc
    simp at h
    exact⟨rows,hb,h1,h2,h.1,h.2⟩
   ·cases h
  ·cases h
 ·rintro⟨rows,h1,h2,h3,rfl,rfl⟩;rw[h1];simp only;rw[if_pos ⟨trivial,trivial,h2,h3⟩];simp
theorem jsn {k bytes:Nat}{rows:List (List ZV)}{x:List ZV}{v:ZV}{H':ZH}:appZ L H k bytes [x] (.fz k true rows)=some (v,H')↔(rows.length+1)*bytes≤ja5∧ .own H.length 0 0 (rows.length+1) false=v∧H++[.grow 0 k (rows++[x])]=H':=by
 simp only[appZ]
 constructor
 ·intro h
  split at h
  ·rename_i hc
   simp at h
   exact⟨hc.2,h.1,h.2⟩
  ·cases h
 ·rintro⟨h1,rfl,rfl⟩;rw[if_pos ⟨trivial,h1⟩];simp
end
/-! ### What is seen jfA, as a table -/
def ovG {α:Type}(ov:List (Nat×α))(d:Nat→α)(t:Nat):α:=match ov with
  |[]=>d t
  |(u,x)::r=>if t=u then x else ovG r d t
def owL (ov:List (Nat×List Nat))(S:ZS):Opd→Option (List Nat)
  | .tmp t=>some (ovG ov (fun t=>jaa (S t)) t)
  | .av (.ptr ..)| .av (.slice ..)=>none
  |_=>some []
def owLop (ov:List (Nat×List Nat))(S:ZS):AOp→Option (List Nat)
  | .mv x| .fieldAddr _ x| .indexAddr _ x _| .indexArr _ _ x _| .slice _ x _ _ _| .nilCheck x=>owL ov S x
  |_=>some []
def ovP {α:Type}(ov:List (Nat×α)):Option Nat→α→List (Nat×α)
  |some d,x=>(d,x)::ov
  |none,_=>ov
def ovO (ov:List (Nat×List Nat))(S:ZS):Option Nat→List Nat
  |some d=>ovG ov (fun t=>jaa (S t)) d
  |none=>[]
def jao:List jap→List (Nat×List Nat)→ZS→Option (List Nat)
  |[],_,_=>some []
  |o::r,ov,S=>if jgD o.op=true then match owLop ov S o.op with
      |some x=>jao r (ovP ov o.dst (x++ovO ov S o.dst)) S
      |none=>none
    else match o.op,o.iso with
      | .load _ x,false=>match owL ov S x,jao r ov S with
        |some a,some b=>some (a++b)
        |_,_=>none
      |_,_=>jao r ov S
theorem jq6 {α:Type}{ov:List (Nat×α)}{d:Nat→α}{D:Option Nat}{x:α}:putO (fun t=>ovG ov d t) D x=fun t=>ovG (ovP ov D x) d t:=by
 cases D with
 |none=>rfl
 |some k=>funext t;simp only[putO,ovP,ovG]
theorem owL_eq (ov:List (Nat×List Nat))(S:ZS)(x:Opd):owO (fun t=>ovG ov (fun t=>jaa (S t)) t) x=owL ov S x:=by
 cases x with
 |tmp t=>rfl
 |av v=>cases v<;>rfl
theorem owLop_eq (ov:List (Nat×List Nat))(S:ZS)(op:AOp):owOp (fun t=>ovG ov (fun t=>jaa (S t)) t) op=owLop ov S op:=by
 cases op<;>first|rfl|exact owL_eq ov S _
theorem jhs (S:ZS): ∀(l:List jap) (ov:List (Nat×List Nat)),jdj l (fun t=>ovG ov (fun t=>jaa (S t)) t)=jao l ov S
 |[],ov=>rfl
 |o::l,ov=>by
  have ho:oldO (fun t=>ovG ov (fun t=>jaa (S t)) t) o.dst=ovO ov S o.dst:=by cases o.dst<;>rfl
  simp only[jdj,jao,owLop_eq,ho,jq6,jhs S l,owL_eq]
  rfl
def exL (ov:List (Nat×Option ZV))(S:ZS):Opd→Option ZV
  | .tmp t=>ovG ov (fun t=>some (S t)) t
  |_=>none
def exLop (ov:List (Nat×Option ZV))(S:ZS):AOp→Option ZV
  | .mv x=>exL ov S x
  | .fieldAddr n x=>match exL ov S x with
    |some (.ptr i o)=>some (.ptr i (o+n))
    |_=>none
  | .nilCheck x=>match exL ov S x with
    |some (.ptr i o)=>some (.ptr i (o+0))
    |_=>none
  |_=>none
def jan:List jap→List (Nat×Option ZV)→ZS→List Nat
  |[],_,_=>[]
  |o::r,ov,S=>if jgD o.op=true then jan r (ovP ov o.dst (exLop ov S o.op)) S
    else match o.op,o.iso with
      | .load _ x,false=>match exL ov S x with
        |some (.ptr i _)=>i::jan r ov S
        |_=>jan r ov S
      |_,_=>jan r ov S
theorem exL_eq (ov:List (Nat×Option ZV))(S:ZS)(x:Opd):exO (fun t=>ovG ov (fun t=>some (S t)) t) x=exL ov S x:=by cases x<;>rfl
theorem exLop_eq (ov:List (Nat×Option ZV))(S:ZS)(op:AOp):jpY (fun t=>ovG ov (fun t=>some (S t)) t) op=exLop ov S op:=by
 cases op<;>simp only[jpY,exLop,exL_eq]<;>rfl
theorem jg7 (S:ZS): ∀(l:List jap) (ov:List (Nat×Option ZV)),jcO l (fun t=>ovG ov (fun t=>some (S t)) t)=jan l ov S
 |[],ov=>rfl
 |o::l,ov=>by
  simp only[jcO,jan,exLop_eq,jq6,jg7 S l,exL_eq]
  rfl
theorem jmX {rs:List Nat}{o:jap}{l:List jap}{S:ZS}:jdq rs o l S=if heavy o.op=true then (match jao l [] S with|some fb=>some (rs++fb)|none=>none) else some []:=by
 unfold jdq
 rw[show (fun t=>jaa (S t))=fun t=>ovG [] (fun t=>jaa (S t)) t from rfl,jhs];rfl
theorem jpz {rs:List Nat}{pr:Option (List Nat)}{o:jap}{l:List jap}{S:ZS}:zpr rs pr o l S=if heavy o.op=true then some (match pr with|none=>rs++jan l [] S|some p=>p.filter (rs++jan l [] S).contains) else pr:=by
 unfold zpr
 rw[show (fun t=>some (S t))=fun t=>ovG [] (fun t=>some (S t)) t from rfl,jg7];rfl
def appO:Option (List Nat)→Option (List Nat)→Option (List Nat)
  |some a,some b=>some (a++b)
  |_,_=>none
def jo9:Option ZV→List Nat→List Nat
  |some (.ptr i _),l=>i::l
  |_,l=>l
section
variable {d:Option Nat}{g:Option (Nat×Bool)}{i:Bool}{r:List jap}{ov:List (Nat×List Nat)}{ow:List (Nat×Option ZV)}{S:ZS}{op:AOp}{t:Nat}{n:Option Nat}{x y:Opd}{v:Value}
theorem zh_bin {b:BinOp}:jao (⟨d,.bin b x y,g,i⟩::r) ov S=jao r (ovP ov d (ovO ov S d)) S:=rfl
theorem zh_mv:jao (⟨d,.mv (.tmp t),g,i⟩::r) ov S=jao r (ovP ov d (ovG ov (fun t=>jaa (S t)) t++ovO ov S d)) S:=rfl
theorem zh_mvV:jao (⟨d,.mv (.av (.val v)),g,i⟩::r) ov S=jao r (ovP ov d (ovO ov S d)) S:=rfl
theorem je9 {o:Nat}:jao (⟨d,.fieldAddr o (.tmp t),g,i⟩::r) ov S=jao r (ovP ov d (ovG ov (fun t=>jaa (S t)) t++ovO ov S d)) S:=rfl
theorem je8 {o:Nat}:jao (⟨d,.indexAddr o (.tmp t) x,g,i⟩::r) ov S=jao r (ovP ov d (ovG ov (fun t=>jaa (S t)) t++ovO ov S d)) S:=rfl
theorem jf3 {o l:Nat}:jao (⟨d,.indexArr o l (.tmp t) x,g,i⟩::r) ov S=jao r (ovP ov d (ovG ov (fun t=>jaa (S t)) t++ovO ov S d)) S:=rfl
theorem jmM {o:Nat}{a b c:Option Opd}:jao (⟨d,.slice o (.tmp t) a b c,g,i⟩::r) ov S=jao r (ovP ov d (ovG ov (fun t=>jaa (S t)) t++ovO ov S d)) S:=rfl
theorem jf1:jao (⟨d,.nilCheck (.tmp t),g,i⟩::r) ov S=jao r (ovP ov d (ovG ov (fun t=>jaa (S t)) t++ovO ov S d)) S:=rfl
theorem jmN:jao (⟨d,.load n x,g,true⟩::r) ov S=jao r ov S:=rfl
theorem jpK:jao (⟨d,.load n (.tmp t),g,false⟩::r) ov S=appO (some (ovG ov (fun t=>jaa (S t)) t)) (jao r ov S):=by
 simp only[jao,jgD,owL,appO]
 cases jao r ov S<;>rfl
theorem zu_bin {b:BinOp}:jan (⟨d,.bin b x y,g,i⟩::r) ow S=jan r (ovP ow d none) S:=rfl
theorem zu_mv:jan (⟨d,.mv x,g,i⟩::r) ow S=jan r (ovP ow d (exL ow S x)) S:=rfl
def addP (n:Nat):Option ZV→Option ZV
  |some (.ptr i o)=>some (.ptr i (o+n))
  |_=>none
theorem je7 {o:Nat}:jan (⟨d,.fieldAddr o x,g,i⟩::r) ow S=jan r (ovP ow d (addP o (exL ow S x))) S:=rfl
theorem je6 {o:Nat}:jan (⟨d,.indexAddr o x y,g,i⟩::r) ow S=jan r (ovP ow d none) S:=rfl
theorem jfV {o l:Nat}:jan (⟨d,.indexArr o l x y,g,i⟩::r) ow S=jan r (ovP ow d none) S:=rfl
theorem jmt {o:Nat}{a b c:Option Opd}:jan (⟨d,.slice o x a b c,g,i⟩::r) ow S=jan r (ovP ow d none) S:=rfl
theorem jfT:jan (⟨d,.nilCheck x,g,i⟩::r) ow S=jan r (ovP ow d (addP 0 (exL ow S x))) S:=rfl
theorem jmu:jan (⟨d,.load n x,g,true⟩::r) ow S=jan r ow S:=rfl
theorem jpp:jan (⟨d,.load n x,g,false⟩::r) ow S=jo9 (exL ow S x) (jan r ow S):=by
 simp only[jan,jgD]
 unfold jo9
 cases exL ow S x with
 |none=>rfl
 |some z=>cases z<;>rfl
theorem zh_nil:jao [] ov S=some []:=rfl
theorem zu_nil:jan [] ow S=[]:=rfl
theorem jlg {a b:List Nat}:appO (some a) (some b)=some (a++b):=rfl
theorem jkS {i o:Nat}{l:List Nat}:jo9 (some (.ptr i o)) l=i::l:=rfl
theorem jib {l:List Nat}:jo9 none l=l:=rfl
theorem jnY {n i o:Nat}:addP n (some (.ptr i o))=some (.ptr i (o+n)):=rfl
theorem jlj {n:Nat}:addP n none=none:=rfl
theorem jq5 {α:Type}{f:Nat→α}:ovG [] f t=f t:=rfl
theorem jnz {α:Type}{f:Nat→α}{u:Nat}{a:α}{o:List (Nat×α)}:ovG ((u,a)::o) f t=if t=u then a else ovG o f t:=rfl
theorem jnv {α:Type}{o:List (Nat×α)}{k:Nat}{a:α}:ovP o (some k) a=(k,a)::o:=rfl
theorem jnw {α:Type}{o:List (Nat×α)}{a:α}:ovP o none a=o:=rfl
theorem jnx {k:Nat}:ovO ov S (some k)=ovG ov (fun t=>jaa (S t)) k:=rfl
theorem jny:ovO ov S none=[]:=rfl
theorem jrO:exL ow S (.tmp t)=ovG ow (fun t=>some (S t)) t:=rfl
theorem exL_av {a:AV}:exL ow S (.av a)=none:=rfl
def preO (rs:List Nat):Option (List Nat)→Option (List Nat)
  |some fb=>some (rs++fb)
  |none=>none
theorem jkh {rs fb:List Nat}:preO rs (some fb)=some (rs++fb):=rfl
theorem jfD {rs:List Nat}{l:List jap}(h:heavy op=true):jdq rs ⟨d,op,g,i⟩ l S=preO rs (jao l [] S):=by
 rw[jmX,if_pos h];cases jao l [] S<;>rfl
theorem zf_light {rs:List Nat}{l:List jap}(h:heavy op=false):jdq rs ⟨d,op,g,i⟩ l S=some []:=by
 rw[jmX,if_neg (by simp[h])]
theorem jej {rs:List Nat}{l:List jap}(h:heavy op=true):zpr rs none ⟨d,op,g,i⟩ l S=some (rs++jan l [] S):=by
 rw[jpz,if_pos h]
theorem jei {rs p:List Nat}{l:List jap}(h:heavy op=true):zpr rs (some p) ⟨d,op,g,i⟩ l S=some (p.filter (rs++jan l [] S).contains):=by
 rw[jpz,if_pos h]
theorem zp_light {rs:List Nat}{pr:Option (List Nat)}{l:List jap}(h:heavy op=false):zpr rs pr ⟨d,op,g,i⟩ l S=pr:=by
 rw[jpz,if_neg (by simp[h])]
theorem jpw {rs:List Nat}:zrs rs ⟨d,.load n (.tmp t),g,i⟩ S=jo9 (some (S t)) rs:=by
 simp only[zrs,zev]
 unfold jo9
 cases S t<;>rfl
theorem jfC {rs:List Nat}(h:heavy op=true):zrs rs ⟨d,op,g,i⟩ S=rs:=by
 cases op<;>first|rfl|(cases h;done)
end
section
variable {n:Option Nat}{x y c a b:Opd}{n0 k l:Nat}{cs:List AV}{ps:List (Nat×Nat×Opd)}{ng:Bool}{ks:List Nat}{u:UnOp}{ik:IntKind}{f:FuncId}{os:List Opd}{d:Option Nat}{g:Option (Nat×Bool)}{i:Bool}{r:List jap}{ov:List (Nat×List Nat)}{ow:List (Nat×Option ZV)}{S:ZS}{rs p:List Nat}{pr:Option (List Nat)}
theorem jpI:jao (⟨d,.pick c a b,g,i⟩::r) ov S=jao r ov S:=rfl
theorem jpo:jan (⟨d,.pick c a b,g,i⟩::r) ow S=jan r ow S:=rfl
theorem zh_box:jao (⟨d,.box n0 x,g,i⟩::r) ov S=jao r ov S:=rfl
theorem zu_box:jan (⟨d,.box n0 x,g,i⟩::r) ow S=jan r ow S:=rfl
theorem jpH:jao (⟨d,.zero cs,g,i⟩::r) ov S=jao r ov S:=rfl
theorem jpn:jan (⟨d,.zero cs,g,i⟩::r) ow S=jan r ow S:=rfl
theorem jmS:jao (⟨d,.build cs ps,g,i⟩::r) ov S=jao r ov S:=rfl
theorem jmz:jan (⟨d,.build cs ps,g,i⟩::r) ow S=jan r ow S:=rfl
theorem jpL:jao (⟨d,.lits k l cs ps,g,i⟩::r) ov S=jao r ov S:=rfl
theorem jpq:jan (⟨d,.lits k l cs ps,g,i⟩::r) ow S=jan r ow S:=rfl
theorem jmL:jao (⟨d,.store n0 x y,g,i⟩::r) ov S=jao r ov S:=rfl
theorem jms:jan (⟨d,.store n0 x y,g,i⟩::r) ow S=jan r ow S:=rfl
theorem jmQ:jao (⟨d,.eqNil ng k x,g,i⟩::r) ov S=jao r ov S:=rfl
theorem jmx:jan (⟨d,.eqNil ng k x,g,i⟩::r) ow S=jan r ow S:=rfl
theorem jjF:jao (⟨d,.eqBool ng x y,g,i⟩::r) ov S=jao r ov S:=rfl
theorem jjq:jan (⟨d,.eqBool ng x y,g,i⟩::r) ow S=jan r ow S:=rfl
theorem jmR:jao (⟨d,.eqAgg ng ks x y,g,i⟩::r) ov S=jao r ov S:=rfl
theorem jmy:jan (⟨d,.eqAgg ng ks x y,g,i⟩::r) ow S=jan r ow S:=rfl
theorem zh_un:jao (⟨d,.un u x,g,i⟩::r) ov S=jao r ov S:=rfl
theorem zu_un:jan (⟨d,.un u x,g,i⟩::r) ow S=jan r ow S:=rfl
theorem jpO:jao (⟨d,.conv ik x,g,i⟩::r) ov S=jao r ov S:=rfl
theorem jpt:jan (⟨d,.conv ik x,g,i⟩::r) ow S=jan r ow S:=rfl
theorem jmP:jao (⟨d,.field k n x,g,i⟩::r) ov S=jao r ov S:=rfl
theorem jmw:jan (⟨d,.field k n x,g,i⟩::r) ow S=jan r ow S:=rfl
theorem jmO:jao (⟨d,.index k l n x y,g,i⟩::r) ov S=jao r ov S:=rfl
theorem jmv:jan (⟨d,.index k l n x y,g,i⟩::r) ow S=jan r ow S:=rfl
theorem jf2:jao (⟨d,.indexStr x y,g,i⟩::r) ov S=jao r ov S:=rfl
theorem jfU:jan (⟨d,.indexStr x y,g,i⟩::r) ow S=jan r ow S:=rfl
theorem jhi:jao (⟨d,.mkSlice k l cs x y,g,i⟩::r) ov S=jao r ov S:=rfl
theorem jg8:jan (⟨d,.mkSlice k l cs x y,g,i⟩::r) ow S=jan r ow S:=rfl
theorem jhj:jao (⟨d,.extract k x,g,i⟩::r) ov S=jao r ov S:=rfl
theorem jg9:jan (⟨d,.extract k x,g,i⟩::r) ow S=jan r ow S:=rfl
theorem jpM:jao (⟨d,.func f os,g,i⟩::r) ov S=jao r ov S:=rfl
theorem jpr:jan (⟨d,.func f os,g,i⟩::r) ow S=jan r ow S:=rfl
theorem jpP:jao (⟨d,.call x os,g,i⟩::r) ov S=jao r ov S:=rfl
theorem jpu:jan (⟨d,.call x os,g,i⟩::r) ow S=jan r ow S:=rfl
theorem jjG:jao (⟨d,.append k l x y,g,i⟩::r) ov S=jao r ov S:=rfl
theorem jjr:jan (⟨d,.append k l x y,g,i⟩::r) ow S=jan r ow S:=rfl
theorem zh_len:jao (⟨d,.len x,g,i⟩::r) ov S=jao r ov S:=rfl
theorem zu_len:jan (⟨d,.len x,g,i⟩::r) ow S=jan r ow S:=rfl
theorem jjE:jao (⟨d,.lenStr x,g,i⟩::r) ov S=jao r ov S:=rfl
theorem jjp:jan (⟨d,.lenStr x,g,i⟩::r) ow S=jan r ow S:=rfl
theorem jpN:jao (⟨d,.copy k x y,g,i⟩::r) ov S=jao r ov S:=rfl
theorem jps:jan (⟨d,.copy k x y,g,i⟩::r) ow S=jan r ow S:=rfl
theorem jjD:jao (⟨d,.minmax ng x os,g,i⟩::r) ov S=jao r ov S:=rfl
theorem jjo:jan (⟨d,.minmax ng x os,g,i⟩::r) ow S=jan r ow S:=rfl
theorem jmY:jdq rs ⟨d,.store n0 x y,g,i⟩ r S=preO rs (jao r [] S):=jfD rfl
theorem jjB:zpr rs none ⟨d,.store n0 x y,g,i⟩ r S=some (rs++jan r [] S):=jej rfl
theorem jjA:zpr rs (some p) ⟨d,.store n0 x y,g,i⟩ r S=some (p.filter (rs++jan r [] S).contains):=jei rfl
theorem jmC:zrs rs ⟨d,.store n0 x y,g,i⟩ S=rs:=jfC rfl
theorem jjJ:jdq rs ⟨d,.append k l x y,g,i⟩ r S=preO rs (jao r [] S):=jfD rfl
theorem jhe:zpr rs none ⟨d,.append k l x y,g,i⟩ r S=some (rs++jan r [] S):=jej rfl
theorem jhd:zpr rs (some p) ⟨d,.append k l x y,g,i⟩ r S=some (p.filter (rs++jan r [] S).contains):=jei rfl
theorem jjx:zrs rs ⟨d,.append k l x y,g,i⟩ S=rs:=jfC rfl
theorem jpW:jdq rs ⟨d,.copy k x y,g,i⟩ r S=preO rs (jao r [] S):=jfD rfl
theorem jmF:zpr rs none ⟨d,.copy k x y,g,i⟩ r S=some (rs++jan r [] S):=jej rfl
theorem jmD:zpr rs (some p) ⟨d,.copy k x y,g,i⟩ r S=some (p.filter (rs++jan r [] S).contains):=jei rfl
theorem jpx:zrs rs ⟨d,.copy k x y,g,i⟩ S=rs:=jfC rfl
theorem jpX:jdq rs ⟨d,.call x os,g,i⟩ r S=preO rs (jao r [] S):=jfD rfl
theorem jmG:zpr rs none ⟨d,.call x os,g,i⟩ r S=some (rs++jan r [] S):=jej rfl
theorem jmE:zpr rs (some p) ⟨d,.call x os,g,i⟩ r S=some (p.filter (rs++jan r [] S).contains):=jei rfl
theorem jpy:zrs rs ⟨d,.call x os,g,i⟩ S=rs:=jfC rfl
theorem jpV:jdq rs ⟨d,.load n x,g,i⟩ r S=some []:=zf_light rfl
theorem jpA:zpr rs pr ⟨d,.load n x,g,i⟩ r S=pr:=zp_light rfl
end
/-! ### What the proof adds -/
def zgoS (o:Option (List (Nat×Nat)))(b:Bool)(K:ZV→ZH→Prop)(z:ZV)(H:ZH):Prop:=match o with
  |some l=>zown l K z H
  |none=>if b=true then zfrz K z H else K z H
section
variable {H:ZH}{G:Gh}{K:ZV→ZH→Prop}{z:ZV}{l:List (Nat×Nat)}{b:Bool}{d k:Nat}
theorem jjH {p:Nat×List (Nat×Nat)}{ow:List (Nat×List (Nat×Nat))}{li fr:List Nat}:ZgoG ⟨p::ow,li,fr⟩ (some d) K z H↔zgoS ((p::ow).lookup d) (fr.contains d) K z H:=by
 unfold ZgoG zgo zgoS
 cases h:List.lookup d (p::ow)<;>simp[h]
theorem jhl {li fr:List Nat}{f:Nat}:ZgoG ⟨[],li,f::fr⟩ (some d) K z H↔zgoS none ((f::fr).contains d) K z H:=Iff.rfl
theorem jhk {li:List Nat}{f:Nat}:ZgoG ⟨[],f::li,[]⟩ (some d) K z H↔K z H:=by
 simp[ZgoG,zgo]
theorem jjI:ZgoG G none K z H↔K z H:=Iff.rfl
theorem jpQ:zgoS none false K z H↔K z H:=by simp[zgoS]
theorem jmU:zgoS none true K z H↔zfrz K z H:=by simp[zgoS]
theorem jmT:zgoS (some l) b K z H↔zown l K z H:=Iff.rfl
theorem jmJ (hk:k<1000):zown [(0,k)] K .nil H↔K (.own H.length 0 0 0 false) (H++[.grow 0 k []]):=by
 simp[zown,jbj,Nat.not_le.2 hk]
 exact⟨fun⟨_,_,⟨e1,e2⟩,k⟩=>by subst e1;subst e2;exact k,fun k=>⟨_,_,⟨rfl,rfl⟩,k⟩⟩
theorem jmI {i g o n:Nat}{e:Bool}:zown l K (.own i g o n e) H↔K (.own i g o n e) H:=Iff.rfl
theorem jpD {k:Nat}{e:Bool}{r:List (List ZV)}:zown l K (.fz k e r) H↔K (.fz k e r) H:=Iff.rfl
theorem jmK {cs:List ZV}:zown l K (.agg cs) H↔ ∃cs' H',jbj l cs H=some (cs',H')∧K (.agg cs') H':=Iff.rfl
theorem jmH {i o:Nat}:zown l K (.ptr i o) H↔ ∃cs,H[i]?=some (.box cs)∧ ∃cs' H',jbj l cs H=some (cs',H')∧K (.ptr i o) (H'.set i (.box cs')):=by
 simp only[zown]
 constructor
 ·intro h
  split at h
  ·rename_i cs hb;exact⟨cs,hb,h⟩
  ·exact h.elim
 ·rintro⟨cs,h1,h2⟩;rw[h1];exact h2
theorem jmW {i g off len:Nat}{ex:Bool}:zfrz K (.own i g off len ex) H↔ ∃k rows,H[i]?=some (.grow g k rows)∧off+len≤rows.length∧rows.flatten.all jbL=true∧K (.fz k ex ((rows.drop off).take len)) (H.set i .dead):=by
 simp only[zfrz]
 constructor
 ·intro h
  split at h
  ·rename_i g' k rows hb
   obtain⟨rfl,h1,h2,h3⟩:=h
   exact⟨k,rows,hb,h1,h2,h3⟩
  ·exact h.elim
 ·rintro⟨k,rows,h1,h2,h3,h4⟩;rw[h1];exact⟨rfl,h2,h3,h4⟩
theorem jpT {k:Nat}{e:Bool}{r:List (List ZV)}:zfrz K (.fz k e r) H↔K (.fz k e r) H:=by simp[zfrz,jbL]
theorem jmV {v:Value}:zfrz K (.val v) H↔K (.val v) H:=by simp[zfrz,jbL]
theorem jnu {cs:List ZV}:jbj [] cs H=some (cs,H):=rfl
theorem jkl {j:Nat}{r:List (Nat×Nat)}{cs:List ZV}{p:List ZV×ZH}(hk:k<1000):jbj ((j,k)::r) cs H=some p↔cs[j]?=some .nil∧jbj r (cs.set j (.own H.length 0 0 0 false)) (H++[.grow 0 k []])=some p:=by
 simp only[jbj,if_neg (Nat.not_le.2 hk)]
 constructor
 ·intro h
  split at h
  ·rename_i hj;exact⟨hj,h⟩
  ·cases h
 ·rintro⟨h1,h2⟩;rw[h1];exact h2
end
/-! ### Memory -/
section
variable {H e:ZH}
theorem H_at0:(H++e)[H.length]?=e[0]?:=by rw[List.getElem?_append_right (Nat.le_refl _),Nat.sub_self]
theorem H_atK {k:Nat}:(H++e)[H.length+k]?=e[k]?:=by rw[List.getElem?_append_right (by omega)];congr 1;omega
theorem H_set0 {B:ZB}:(H++e).set H.length B=H++e.set 0 B:=by rw[List.set_append_right _ _ (Nat.le_refl _),Nat.sub_self]
theorem H_setK {k:Nat}{B:ZB}:(H++e).set (H.length+k) B=H++e.set k B:=by rw[List.set_append_right _ _ (by omega),Nat.add_sub_cancel_left]
theorem H_app {i:Nat}{B:ZB}(h:H[i]?=some B)(e:ZH):(H++e)[i]?=some B:=by rw[List.getElem?_append_left (List.getElem?_eq_some_iff.1 h).1];exact h
end
end
section
open Go Go.RowKit
section
variable {L:Nat→Bool}{S:ZS}{H:ZH}{X:XT}{F:FuncId→Option jaM}{G:Gh}
theorem jmB {t:Nat}:zres S H (.tmp t)=some (S t):=rfl
theorem jjw {a:Nat}{n:Option Nat}:zres S H (.cell a n)=ldZ H n (S a):=rfl
theorem zres1 {r:ARes}:jcm S H [r]=zres S H r:=rfl
theorem zres2 {a b:ARes}{z:ZV}:jcm S H [a,b]=some z↔ ∃x y,zres S H a=some x∧zres S H b=some y∧ .tuple [x,y]=z:=by
 simp only[jcm,jju]
 cases zres S H a<;>cases zres S H b<;>simp
theorem zres3 {a b c:ARes}{z:ZV}:jcm S H [a,b,c]=some z↔ ∃x y u,zres S H a=some x∧zres S H b=some y∧zres S H c=some u∧ .tuple [x,y,u]=z:=by
 simp only[jcm,jju]
 cases zres S H a<;>cases zres S H b<;>cases zres S H c<;>simp
end
/-! ### From a law's arguments -/
def enc:(t:Ty)→t.val→List ZV
  | .int k,n=>[.val (.int k n)]
  | .bool,b=>[.val (.bool b)]
  | .str,s=>[.val (.string s)]
  | .unit,_=>[]
  | .prod a b,x=>enc a x.1++enc b x.2
  | .slice _ e,l=>[.fz e.size false (l.map (enc e))]
def TOk:(t:Ty)→t.val→Prop
  | .int k,n=>(Lit.int k n).wf=true
  | .bool,_=>True
  | .str,s=>s.size≤maxLen
  | .unit,_=>True
  | .prod a b,x=>TOk a x.1∧TOk b x.2
  | .slice _ e,l=>l.length≤maxLen∧ ∀x∈l,TOk e x
theorem jdW: ∀(t:Ty) (x:t.val),(enc t x).length=t.size
 | .int k,_=>rfl
 | .bool,_=>rfl
 | .str,_=>rfl
 | .unit,_=>rfl
 | .prod a b,x=>by simp[enc,jdW a,jdW b]
 | .slice _ e,l=>rfl
def FRs (Fr:Nat→Prop)(h:Heap)(zs:List ZV)(ys:List AV):Prop:=zs.length=ys.length∧ ∀(i:Nat) z a,zs[i]?=some z→ys[i]?=some a→FR Fr h z a
theorem jnK {h:Heap}: ∀(t:Ty) (cs:List AV) (x:t.val),AHas h t cs x→FRs (fun id=>id<h.length) h (enc t x) cs∧TOk t x
 | .int k,cs,n,hh=>by
  obtain⟨rfl,hw⟩:=hh
  refine⟨⟨rfl,fun i z a hz ha=>?_⟩,hw⟩
  cases i with
  |zero=>simp[enc] at hz ha;subst hz;subst ha;exact .val _
  |succ i=>simp at ha
 | .bool,cs,b,hh=>by
  simp only[AHas] at hh;subst hh
  refine⟨⟨rfl,fun i z a hz ha=>?_⟩,trivial⟩
  cases i with
  |zero=>simp[enc] at hz ha;subst hz;subst ha;exact .val _
  |succ i=>simp at ha
 | .str,cs,s,hh=>by
  obtain⟨rfl,hw⟩:=hh
  refine⟨⟨rfl,fun i z a hz ha=>?_⟩,hw⟩
  cases i with
  |zero=>simp[enc] at hz ha;subst hz;subst ha;exact .val _
  |succ i=>simp at ha
 | .unit,cs,x,hh=>by
  simp only[AHas] at hh;subst hh
  exact⟨⟨rfl,fun i z a hz ha=>by simp at ha⟩,trivial⟩
 | .prod a b,cs,x,hh=>by
  obtain⟨c,d,rfl,h1,h2⟩:=hh
  obtain⟨i1,t1⟩:=jnK a c x.1 h1
  obtain⟨i2,t2⟩:=jnK b d x.2 h2
  refine⟨⟨by simp[enc,i1.1,i2.1],fun i z y hz hy=>?_⟩,t1,t2⟩
  simp only[enc] at hz
  by_cases hi:i<c.length
  ·rw[List.getElem?_append_left (by rw[i1.1];exact hi)] at hz
   rw[List.getElem?_append_left hi] at hy
   exact i1.2 i z y hz hy
  ·rw[List.getElem?_append_right (by rw[i1.1];omega),i1.1] at hz
   rw[List.getElem?_append_right (by omega)] at hy
   exact i2.2 _ z y hz hy
 | .slice by_ e,cs,l,hh=>by
  rcases hh with⟨hv,rfl⟩|⟨id,row,rfl,h1,h2,h3,h4⟩
  ·refine⟨⟨by rcases hv with rfl|rfl<;>rfl,fun i z a hz ha=>?_⟩,by simp[TOk,maxLen],by simp⟩
   cases i with
   |zero=>
    simp[enc] at hz
    subst hz
    refine .fnil ?_
    rcases hv with rfl|rfl<;>(simp at ha;subst ha)
    ·exact .inl rfl
    ·exact .inr ⟨rfl,rfl⟩
   |succ i=>rcases hv with rfl|rfl<;>simp at ha
  ·have key:=fun i (hi:i<l.length)=>jnK e _ _ (h4 i hi)
   have hk: ∀r∈l.map (enc e),r.length=e.size:=fun r hr=>by
    obtain⟨x,_,rfl⟩:=List.mem_map.1 hr
    exact jdW e x
   refine⟨⟨rfl,fun i z a hz ha=>?_⟩,h3,fun x hx=>?_⟩
   ·cases i with
    |zero=>
     simp[enc] at hz ha
     subst hz;subst ha
     have:=FR.ofRows (Fr:=fun id=>id<h.length) (h:=h) (k:=e.size) (ex:=false) (rows:=l.map (enc e)) (id:=id) (off:=0) (lb:=l.length) (ex':=false) (row:=row) (ja1 h1) h1 (by simp;omega) (by simp) (fun h=>by cases h) hk (fun i z hz=>?_)
     ·simpa using this
     ·-- a cell of the row
      by_cases hi:i<row.length
      ·refine⟨row[i],by rw[Nat.zero_add];exact List.getElem?_eq_getElem hi,?_⟩
       have hes:0<e.size:=by
        cases hes:e.size with
        |zero=>rw[hes] at h2;omega
        |succ n=>omega
       have hj:i / e.size<l.length:=by rw[Nat.div_lt_iff_lt_mul hes];omega
       have hm:i % e.size<e.size:=Nat.mod_lt _ hes
       have hdm:i / e.size*e.size+i % e.size=i:=by rw[Nat.mul_comm];exact Nat.div_add_mod i e.size
       refine (key (i / e.size) hj).1.2 (i % e.size) z _ ?_ ?_
       ·have:=jiH hk (j:=i / e.size) (r:=enc e l[i / e.size]) (by simp[hj])
        rw[←this,List.getElem?_take,if_pos hm,List.getElem?_drop,hdm];exact hz
       ·rw[List.getElem?_take,if_pos hm,List.getElem?_drop,hdm];exact List.getElem?_eq_getElem hi
      ·have:=(List.getElem?_eq_some_iff.1 hz).1
       rw[jbz hk] at this
       simp at this;omega
    |succ i=>simp at ha
   ·obtain⟨i,hi,rfl⟩:=List.mem_iff_getElem.1 hx
    exact (key i hi).2
def zArg (st:Bool)(cs:List ZV):ZV:=match st with|true=> .agg cs|false=>cs.headD .no
def ZArgs (Q:(t:Ty)→t.val→Prop):List (Bool×Ty)→List ZV→Prop
  |[],zl=>zl=[]
  |p::r,zl=> ∃x zl',zl=zArg p.1 (enc p.2 x)::zl'∧TOk p.2 x∧Q p.2 x∧ZArgs Q r zl'
theorem jm3 {Q:(t:Ty)→t.val→Prop}{w:Wd}(hF:w.Fr=fun id=>id<w.h.length): ∀{tys:List (Bool×Ty)} {al:List AV},joe tys=true→jmo Q w.h tys al→ ∃zl,ZArgs Q tys zl∧ZRs w zl al
 |[],al,_,hh=>by
  simp only[jmo] at hh;subst hh
  exact⟨[],rfl,.nil⟩
 |p::r,al,hok,hh=>by
  obtain⟨cs,x,al',rfl,h1,h2,h3⟩:=hh
  simp only[joe,Bool.and_eq_true] at hok
  obtain⟨zl,i1,i2⟩:=jm3 hF hok.2 h3
  obtain⟨f1,f2⟩:=jnK p.2 cs x h1
  refine⟨_,⟨x,zl,rfl,f2,h2,i1⟩,.cons ?_ i2⟩
  have f:ZRs w (enc p.2 x) cs:=⟨f1.1,fun i z a hz ha=> .fr (by rw[hF];exact f1.2 i z a hz ha)⟩
  unfold zArg aArg
  cases hst:p.1 with
  |true=>exact f.toAgg
  |false=>
   have hl:(enc p.2 x).length=1:=by
    rw[hst] at hok;simp at hok
    rw[jdW];exact hok.1
   have hl2:cs.length=1:=by rw[←f.1];exact hl
   match he:enc p.2 x,cs,f,hl,hl2 with
   |[z],[a],f,_,_=>exact f.2 0 z a rfl rfl
theorem jpF {P:Program}(hmix:P.follows .mixedOrders=true){X:jaG}(hX:jbo P X){pn:PX}(hY:YOk P pn)(hg: ∀v,¬ pn.g v){F:FuncId→Option jaM}(hF: ∀f af,F f=some af→jal P f=some af){f:FuncId}{tys:List (Bool×Ty)}{Q:(t:Ty)→t.val→Prop}(hok:joe tys=true)
  (main: ∀zl,ZArgs Q tys zl→ZC ⟨X,true,pn⟩ F f zl (fun _=>true) [] fun z _=>z= .val (.bool true)) (W:World) (args:Array Value) (hargs:jdO Q W W.heap.size tys args.toList) (hgl:GlOk W.heap.size W):
  Calls P f args W fun e W'=>e= .returned (.bool true)∧Below W.heap.size W W':=by
 have r0:Rels ([]:Heap).length W.heap.size (fun _=>none) [] W:=jnm W hgl
 obtain⟨al,h,m,_,r,ha,hv⟩:=jiz tys hok [] (fun _=>none) r0 args.toList hargs
 simp only[List.nil_append] at r ha
 have rz:ZRel (fun i=>decide (h.length≤i)) (fun _=>true) ⟨fun id=>id<h.length,fun _=>none,[],h⟩:=by
  refine⟨fun id hi=>by simpa using hi,fun _ _=>rfl,fun id hi=>hi,(fun i p hp=>by cases hp),(fun i j p q hp=>by cases hp),(fun i p hp=>by cases hp),(fun i p hp=>by cases hp),(fun i cs hb=>by simp at hb),(fun i g k rows hb=>by simp at hb)⟩
 obtain⟨zl,h1,h2⟩:=jm3 (w:=⟨fun id=>id<h.length,fun _=>none,[],h⟩) rfl hok ha
 have hm:jdn pn X F (some f) al _ h _:=main zl h1 _ _ al rz rfl h2
 refine (jox hY hmix hX hF hm r hv).mono fun e' W' hp=>?_
 rcases hp with⟨v,h',v',m',hk,rfl,p,hv'⟩|⟨pv,g,_⟩
 ·obtain⟨z,w',_,_,_,hz,rfl⟩:=hk
  rw[hz.val_inv] at hv'
  exact⟨by rw[hv'.lit],jhQ p⟩
 ·exact (hg pv g).elim
end
section
open Go Go.RowKit
variable {H:ZH}{k:Nat}{z:ZV}{rows:List (List ZV)}
theorem rows_ext (h:jbi H k z=some rows)(e:ZH):jbi (H++e) k z=some rows:=by
 unfold jbi at h ⊢
 split
 ·exact h
 ·exact h
 ·rename_i i g off len ex
  simp only at h
  split at h
  ·rename_i g' k' rows' hb
   rw[H_app hb e];exact h
  ·cases h
 ·rename_i h1 h2 h3
  split at h
  ·exact absurd rfl h1
  ·exact absurd rfl (h2 _ _ _)
  ·exact absurd rfl (h3 _ _ _ _ _)
  ·exact h
theorem jb7 (h:jbi H k z=some rows):lenZ H z=some rows.length:=by
 unfold jbi at h
 split at h
 ·injection h with h;subst h;rfl
 ·split at h
  ·injection h with h;subst h;rfl
  ·cases h
 ·split at h
  ·rename_i g' k' rows' hb
   split at h
   ·rename_i hc
    obtain⟨rfl,rfl,hle⟩:=hc
    injection h with h
    refine jaY.2 ⟨_,_,hb,?_⟩
    rw[←h,List.length_take,List.length_drop];omega
   ·cases h
  ·cases h
 ·cases h
theorem jqP (h:jbi H k z=some rows){j:Nat}(hj:j<rows.length): ∃p,jbV H k j z=some p∧ ∀n v,ldZ H n p=some v↔jcY rows[j] 0 n=some v:=by
 unfold jbi at h
 split at h
 ·injection h with h;subst h;simp at hj
 ·split at h
  ·rename_i k' ex rows' hk
   injection h with h;subst h;subst hk
   refine⟨_,jl6.2 ⟨hj,rfl⟩,fun n v=>?_⟩
   rw[jlL]
   simp[hj]
  ·cases h
 ·rename_i i g off len ex
  split at h
  ·rename_i g' k' rows' hb
   split at h
   ·rename_i hc
    obtain⟨rfl,rfl,hle⟩:=hc
    injection h with h;subst h
    have hjl:j<len:=by rw[List.length_take] at hj;omega
    refine⟨_,jbT.2 ⟨rows',hb,hle,hjl,rfl⟩,fun n v=>?_⟩
    rw[jbO]
    have hlt:off+j<rows'.length:=by omega
    constructor
    ·rintro⟨k2,rows2,r,h1,h2,h3⟩
     rw[hb] at h1;injection h1 with h1;injection h1 with _ _ h1;subst h1
     rw[List.getElem?_eq_getElem hlt] at h2;injection h2 with h2
     simp only[List.getElem_take,List.getElem_drop]
     rw[h2];exact h3
    ·intro h3
     simp only[List.getElem_take,List.getElem_drop] at h3
     exact⟨_,_,_,hb,List.getElem?_eq_getElem hlt,h3⟩
   ·cases h
  ·cases h
 ·cases h
theorem jd9 {α:Type}{f:α→List ZV}{l:List α}(h:jbi H k z=some (l.map f)){j:Nat}(hj:j<l.length): ∃p,jbV H k j z=some p∧ ∀n,ldZ H n p=jcY (f l[j]) 0 n:=by
 obtain⟨p,h1,h2⟩:=jqP h (j:=j) (by simpa using hj)
 refine⟨p,h1,fun n=>?_⟩
 simp only[List.getElem_map] at h2
 cases hp:jcY (f l[j]) 0 n with
 |some v=>exact (h2 n v).2 hp
 |none=>
  cases hl:ldZ H n p with
  |none=>rfl
  |some v=>have:=(h2 n v).1 hl;rw[hp] at this;cases this
def SlK:List (Nat×ZV)→ZS→Prop
  |[],_=>True
  |p::r,s=>s p.1=p.2∧SlK r s
theorem SlK.keep {s s':ZS}: ∀{l:List (Nat×ZV)},(∀p∈l,s' p.1=s p.1)→SlK l s→SlK l s'
 |[],_,_=>trivial
 |p::r,h,hk=>⟨(h p (by simp)).trans hk.1,SlK.keep (fun q hq=>h q (by simp[hq])) hk.2⟩
section
variable {L:Nat→Bool}{S:ZS}{X:XT}{F:FuncId→Option jaM}{G:Gh}
theorem jbp {B Cn tc ti tl tn:Nat}{body:jar}{K:jas→ZS→ZH→Prop}(kp:List (Nat×ZV))(N:Nat)(I:Nat→ZS→ZH→Prop)(hN:N<9223372036854775807)(hG:G.own.lookup tc=none∧G.own.lookup tn=none∧G.own.lookup ti=none∧G.frz.contains tc=false∧G.frz.contains tn=false∧G.frz.contains ti=false)(hti:S ti=Z64 (0:Nat))(htl:S tl=Z64 N)(hkp:SlK kp S)(hq:((tl::kp.map Prod.fst).all fun t=> !(wrs body++[tc,ti,tn]).contains t)=true)(h2:(wrs body).contains ti=false)(h3:tc≠ti∧tc≠tl∧tn≠ti∧tn≠tl∧ti≠tl)
  (h0:I 0 S H)
  (round: ∀k s' h',k<N→I k s' h'→s' ti=Z64 k→s' tl=Z64 N→SlK kp s'→
   zW X F G L body (zupd s' tc (ZBo true)) h' (jcb Cn (jfW (fun s2 h2=>I (k+1) (zupd (zupd s2 tn (Z64 (k+1:Nat))) ti (Z64 (k+1:Nat))) h2) (jcb B K))))
  (done: ∀s' h',I N s' h'→SlK kp s'→K .normal (zupd s' tc (ZBo false)) h'):zW X F G L (jaF B Cn tc ti tl tn body) S H K:=by
 have hq': ∀t∈tl::kp.map Prod.fst,(wrs body++[tc,ti,tn]).contains t=false:=fun t ht=>by simpa using List.all_eq_true.1 hq t ht
 have h1:(wrs body).contains tl=false:=by
  have:=hq' tl (by simp)
  cases hc:(wrs body).contains tl with
  |false=>rfl
  |true=>rw[List.contains_iff_mem.2 (List.mem_append_left _ (List.contains_iff_mem.1 hc))] at this;cases this
 have keep: ∀s',(∀t,(wrs body++[tc,ti,tn]).contains t=false→s' t=S t)→SlK kp s':=fun s' h=>SlK.keep (fun p hp=>h p.1 (hq' p.1 (List.mem_cons_of_mem _ (List.mem_map_of_mem hp)))) hkp
 exact zW_for N hN hG hti htl h1 h2 h3 I h0 (fun k s' h' a b c d e=>round k s' h' a b c d (keep s' e)) fun s' h' a b=>done s' h' a (keep s' b)
theorem jdr {c:jar}{K:jas→ZS→ZH→Prop}(kp:List (Nat×ZV))(n0:Nat)(I:Nat→ZS→ZH→Prop)(hkp:SlK kp S)(hq:((kp.map Prod.fst).all fun t=> !(wrs c).contains t)=true)(h0:I n0 S H)(round: ∀n s' h',I n s' h'→SlK kp s'→zW X F G L c s' h' (jfW (fun S2 H2=> ∃m,m<n∧I m S2 H2) K)):zW X F G L (.loop c) S H K:=by
 refine jm8 I n0 h0 fun n s' h' hI hs=>round n s' h' hI (SlK.keep (fun p hp=>hs p.1 fun hm=>?_) hkp)
 have:=List.all_eq_true.1 hq p.1 (List.mem_map_of_mem hp)
 rw[List.contains_iff_mem.2 hm] at this;cases this
end
abbrev eI (n:Int):List ZV:=[Z64 n]
abbrev eB (b:Bool):List ZV:=[ZBo b]
theorem jfc {α β:Type}{f:α→β}{l:List α}:(l.map f).take l.length=l.map f:=List.take_of_length_le (by simp)
theorem jhJ {i g:Nat}{ex:Bool}{rows:List (List ZV)}{n:Nat}(h:H[i]?=some (.grow g k rows))(hn:rows.length=n):jbi H k (.own i g 0 n ex)=some rows:=by
 rw[jc7]
 exact⟨rows,h,by omega,by rw[List.drop_zero,List.take_of_length_le (by omega)]⟩
end
section
open Go Go.RowKit
variable {fl L:Nat→Bool}{w:Wd}
end
section
open Go Go.RowKit
theorem zmPack:type_of% (And.intro (And.intro (And.intro (And.intro (And.intro (And.intro (And.intro (And.intro @zgoN @zW_ops) (And.intro @jqe @jna)) (And.intro (And.intro @jqd @zW_ret) (And.intro @jqa @jm9))) (And.intro (And.intro (And.intro @zW_seq @jf8) (And.intro @jqf @jnb)) (And.intro (And.intro @jnc @jjR) (And.intro @jgc @jjV)))) (And.intro (And.intro (And.intro (And.intro @jeN @jaK) (And.intro @jha @jjs)) (And.intro (And.intro @jbh @jf0) (And.intro @jhh @z_mv))) (And.intro (And.intro (And.intro @z_pick @z_box) (And.intro @z_zero @jp8)) (And.intro (And.intro @z_lits @z_load) (And.intro @jiI @jhu))))) (And.intro (And.intro (And.intro (And.intro (And.intro @z_bin @jp6) (And.intro @jm6 @jp7)) (And.intro (And.intro @z_un @z_conv) (And.intro @jp5 @jf7))) (And.intro (And.intro (And.intro @jd6 @jhw) (And.intro @jp4 @jhv)) (And.intro (And.intro @jp3 @jjP) (And.intro @jjQ @z_func)))) (And.intro (And.intro (And.intro (And.intro @z_call @jm7) (And.intro @z_len @jm5)) (And.intro (And.intro @z_copy @jm4) (And.intro @jp0 @jpZ))) (And.intro (And.intro (And.intro @jm0 @jp1) (And.intro @zev_no @jmZ)) (And.intro (And.intro @jjK @jp2) (And.intro @jm1 (And.intro @jhc @jfZ))))))) (And.intro (And.intro (And.intro (And.intro (And.intro (And.intro @jkD @jh1) (And.intro @jjy @jjz)) (And.intro (And.intro @jaQ @jpG) (And.intro @jjX @jhB))) (And.intro (And.intro (And.intro @jhA @jfN) (And.intro @jhn @jjL)) (And.intro (And.intro @jhp @jho) (And.intro @jf6 @jhq)))) (And.intro (And.intro (And.intro (And.intro @jjM @jm2) (And.intro @jjO @jjN)) (And.intro (And.intro @jhr @jnq) (And.intro @jqY @jhV))) (And.intro (And.intro (And.intro @jgy @jgx) (And.intro @jgw @jsq)) (And.intro (And.intro @jnX @jnW) (And.intro @jkk @jkj))))) (And.intro (And.intro (And.intro (And.intro (And.intro @jl6 @jbT) (And.intro @jhX @jbO)) (And.intro (And.intro @jlL @st_ptr) (And.intro @jdt @jnl))) (And.intro (And.intro (And.intro @jd8 @jc7) (And.intro @jri @len_fz)) (And.intro (And.intro @jaY @jsm) (And.intro @jdL @jnT)))) (And.intro (And.intro (And.intro (And.intro @jsn @H_at0) (And.intro @H_atK @H_set0)) (And.intro (And.intro @H_setK @zres1) (And.intro @zres2 @zres3))) (And.intro (And.intro (And.intro @jmB @jjw) (And.intro @zh_bin @zh_mv)) (And.intro (And.intro @zh_mvV @je9) (And.intro @je8 (And.intro @jf3 @jmM)))))))) (And.intro (And.intro (And.intro (And.intro (And.intro (And.intro (And.intro @jf1 @jmN) (And.intro @jpK @zh_nil)) (And.intro (And.intro @zu_bin @zu_mv) (And.intro @je7 @je6))) (And.intro (And.intro (And.intro @jfV @jmt) (And.intro @jfT @jmu)) (And.intro (And.intro @jpp @zu_nil) (And.intro @jlg @jkS)))) (And.intro (And.intro (And.intro (And.intro @jib @jnY) (And.intro @jlj @jq5)) (And.intro (And.intro @jnz @jnv) (And.intro @jnw @jnx))) (And.intro (And.intro (And.intro @jny @jrO) (And.intro @exL_av @jkh)) (And.intro (And.intro @jpw @jpI) (And.intro @jpo @zh_box))))) (And.intro (And.intro (And.intro (And.intro (And.intro @zu_box @jpH) (And.intro @jpn @jmS)) (And.intro (And.intro @jmz @jpL) (And.intro @jpq @jmL))) (And.intro (And.intro (And.intro @jms @jmQ) (And.intro @jmx @jjF)) (And.intro (And.intro @jjq @jmR) (And.intro @jmy @zh_un)))) (And.intro (And.intro (And.intro (And.intro @zu_un @jpO) (And.intro @jpt @jmP)) (And.intro (And.intro @jmw @jmO) (And.intro @jmv @jf2))) (And.intro (And.intro (And.intro @jfU @jhi) (And.intro @jg8 @jhj)) (And.intro (And.intro @jg9 @jpM) (And.intro @jpr (And.intro @jpP @jpu))))))) (And.intro (And.intro (And.intro (And.intro (And.intro (And.intro @jjG @jjr) (And.intro @zh_len @zu_len)) (And.intro (And.intro @jjE @jjp) (And.intro @jpN @jps))) (And.intro (And.intro (And.intro @jjD @jjo) (And.intro @jmY @jjB)) (And.intro (And.intro @jjA @jmC) (And.intro @jjJ @jhe)))) (And.intro (And.intro (And.intro (And.intro @jhd @jjx) (And.intro @jpW @jmF)) (And.intro (And.intro @jmD @jpx) (And.intro @jpX @jmG))) (And.intro (And.intro (And.intro @jmE @jpy) (And.intro @jpV @jpA)) (And.intro (And.intro @jmg @jmh) (And.intro @jmi @jmj))))) (And.intro (And.intro (And.intro (And.intro (And.intro @jmk @jme) (And.intro @jml @jmd)) (And.intro (And.intro @jmf @jqs) (And.intro @jjH @jhl))) (And.intro (And.intro (And.intro @jhk @jjI) (And.intro @jpQ @jmU)) (And.intro (And.intro @jmT @jmJ) (And.intro @jmI @jpD)))) (And.intro (And.intro (And.intro (And.intro @jmK @jmH) (And.intro @jmW @jpT)) (And.intro (And.intro @jmV @jnu) (And.intro @jkl @jjC))) (And.intro (And.intro (And.intro @jqb @jrV) (And.intro @jfa @jem)) (And.intro (And.intro @jp9 @jht) (And.intro @jfY (And.intro @jjt @jmA))))))))):=(And.intro (And.intro (And.intro (And.intro (And.intro (And.intro (And.intro (And.intro @zgoN @zW_ops) (And.intro @jqe @jna)) (And.intro (And.intro @jqd @zW_ret) (And.intro @jqa @jm9))) (And.intro (And.intro (And.intro @zW_seq @jf8) (And.intro @jqf @jnb)) (And.intro (And.intro @jnc @jjR) (And.intro @jgc @jjV)))) (And.intro (And.intro (And.intro (And.intro @jeN @jaK) (And.intro @jha @jjs)) (And.intro (And.intro @jbh @jf0) (And.intro @jhh @z_mv))) (And.intro (And.intro (And.intro @z_pick @z_box) (And.intro @z_zero @jp8)) (And.intro (And.intro @z_lits @z_load) (And.intro @jiI @jhu))))) (And.intro (And.intro (And.intro (And.intro (And.intro @z_bin @jp6) (And.intro @jm6 @jp7)) (And.intro (And.intro @z_un @z_conv) (And.intro @jp5 @jf7))) (And.intro (And.intro (And.intro @jd6 @jhw) (And.intro @jp4 @jhv)) (And.intro (And.intro @jp3 @jjP) (And.intro @jjQ @z_func)))) (And.intro (And.intro (And.intro (And.intro @z_call @jm7) (And.intro @z_len @jm5)) (And.intro (And.intro @z_copy @jm4) (And.intro @jp0 @jpZ))) (And.intro (And.intro (And.intro @jm0 @jp1) (And.intro @zev_no @jmZ)) (And.intro (And.intro @jjK @jp2) (And.intro @jm1 (And.intro @jhc @jfZ))))))) (And.intro (And.intro (And.intro (And.intro (And.intro (And.intro @jkD @jh1) (And.intro @jjy @jjz)) (And.intro (And.intro @jaQ @jpG) (And.intro @jjX @jhB))) (And.intro (And.intro (And.intro @jhA @jfN) (And.intro @jhn @jjL)) (And.intro (And.intro @jhp @jho) (And.intro @jf6 @jhq)))) (And.intro (And.intro (And.intro (And.intro @jjM @jm2) (And.intro @jjO @jjN)) (And.intro (And.intro @jhr @jnq) (And.intro @jqY @jhV))) (And.intro (And.intro (And.intro @jgy @jgx) (And.intro @jgw @jsq)) (And.intro (And.intro @jnX @jnW) (And.intro @jkk @jkj))))) (And.intro (And.intro (And.intro (And.intro (And.intro @jl6 @jbT) (And.intro @jhX @jbO)) (And.intro (And.intro @jlL @st_ptr) (And.intro @jdt @jnl))) (And.intro (And.intro (And.intro @jd8 @jc7) (And.intro @jri @len_fz)) (And.intro (And.intro @jaY @jsm) (And.intro @jdL @jnT)))) (And.intro (And.intro (And.intro (And.intro @jsn @H_at0) (And.intro @H_atK @H_set0)) (And.intro (And.intro @H_setK @zres1) (And.intro @zres2 @zres3))) (And.intro (And.intro (And.intro @jmB @jjw) (And.intro @zh_bin @zh_mv)) (And.intro (And.intro @zh_mvV @je9) (And.intro @je8 (And.intro @jf3 @jmM)))))))) (And.intro (And.intro (And.intro (And.intro (And.intro (And.intro (And.intro @jf1 @jmN) (And.intro @jpK @zh_nil)) (And.intro (And.intro @zu_bin @zu_mv) (And.intro @je7 @je6))) (And.intro (And.intro (And.intro @jfV @jmt) (And.intro @jfT @jmu)) (And.intro (And.intro @jpp @zu_nil) (And.intro @jlg @jkS)))) (And.intro (And.intro (And.intro (And.intro @jib @jnY) (And.intro @jlj @jq5)) (And.intro (And.intro @jnz @jnv) (And.intro @jnw @jnx))) (And.intro (And.intro (And.intro @jny @jrO) (And.intro @exL_av @jkh)) (And.intro (And.intro @jpw @jpI) (And.intro @jpo @zh_box))))) (And.intro (And.intro (And.intro (And.intro (And.intro @zu_box @jpH) (And.intro @jpn @jmS)) (And.intro (And.intro @jmz @jpL) (And.intro @jpq @jmL))) (And.intro (And.intro (And.intro @jms @jmQ) (And.intro @jmx @jjF)) (And.intro (And.intro @jjq @jmR) (And.intro @jmy @zh_un)))) (And.intro (And.intro (And.intro (And.intro @zu_un @jpO) (And.intro @jpt @jmP)) (And.intro (And.intro @jmw @jmO) (And.intro @jmv @jf2))) (And.intro (And.intro (And.intro @jfU @jhi) (And.intro @jg8 @jhj)) (And.intro (And.intro @jg9 @jpM) (And.intro @jpr (And.intro @jpP @jpu))))))) (And.intro (And.intro (And.intro (And.intro (And.intro (And.intro @jjG @jjr) (And.intro @zh_len @zu_len)) (And.intro (And.intro @jjE @jjp) (And.intro @jpN @jps))) (And.intro (And.intro (And.intro @jjD @jjo) (And.intro @jmY @jjB)) (And.intro (And.intro @jjA @jmC) (And.intro @jjJ @jhe)))) (And.intro (And.intro (And.intro (And.intro @jhd @jjx) (And.intro @jpW @jmF)) (And.intro (And.intro @jmD @jpx) (And.intro @jpX @jmG))) (And.intro (And.intro (And.intro @jmE @jpy) (And.intro @jpV @jpA)) (And.intro (And.intro @jmg @jmh) (And.intro @jmi @jmj))))) (And.intro (And.intro (And.intro (And.intro (And.intro @jmk @jme) (And.intro @jml @jmd)) (And.intro (And.intro @jmf @jqs) (And.intro @jjH @jhl))) (And.intro (And.intro (And.intro @jhk @jjI) (And.intro @jpQ @jmU)) (And.intro (And.intro @jmT @jmJ) (And.intro @jmI @jpD)))) (And.intro (And.intro (And.intro (And.intro @jmK @jmH) (And.intro @jmW @jpT)) (And.intro (And.intro @jmV @jnu) (And.intro @jkl @jjC))) (And.intro (And.intro (And.intro @jqb @jrV) (And.intro @jfa @jem)) (And.intro (And.intro @jp9 @jht) (And.intro @jfY (And.intro @jjt @jmA)))))))))
theorem zxPack:type_of% (And.intro (And.intro (And.intro (And.intro (And.intro (And.intro @List.filter_cons.{0} (And.intro @List.filter_nil.{0} @Bool.or_false)) (And.intro @Bool.or_true (And.intro @Bool.false_or @Bool.true_or))) (And.intro (And.intro @ZV.val.injEq (And.intro @ZV.ptr.injEq @ZV.own.injEq)) (And.intro @ZV.fz.injEq (And.intro @ZV.func.injEq @ZV.tuple.injEq)))) (And.intro (And.intro (And.intro @ZV.agg.injEq (And.intro @ZB.box.injEq @ZB.grow.injEq)) (And.intro @Bool.not_eq_false' (And.intro @Prod.mk.injEq.{0,0} @and_assoc))) (And.intro (And.intro @decide_false (And.intro @decide_true @Bool.not_false)) (And.intro @Bool.not_true (And.intro @Bool.true_eq_false @Bool.false_eq_true))))) (And.intro (And.intro (And.intro (And.intro @exists_false.{1} (And.intro @Bool.not_eq_false @Bool.not_not)) (And.intro @Value.bool.injEq (And.intro @Value.int.injEq @Option.some.injEq.{0}))) (And.intro (And.intro @exists_eq_left'.{1} (And.intro @exists_eq_left.{1} @exists_and_left.{1})) (And.intro @exists_and_right.{1} (And.intro @and_true @true_and)))) (And.intro (And.intro (And.intro @decide_eq_true_eq (And.intro @decide_eq_false_iff_not @if_true.{1})) (And.intro @if_false.{1} (And.intro @Bool.not_eq_true' @beq_true))) (And.intro (And.intro @beq_false (And.intro @not_true_eq_false @not_false_eq_true)) (And.intro (And.intro @List.getD_cons_zero.{0} @List.getD_cons_succ.{0}) (And.intro @List.getD_nil.{0} @List.map_cons.{0,0})))))) (And.intro (And.intro (And.intro (And.intro (And.intro @List.map_nil.{0,0} (And.intro @List.append_nil.{0} @ite_true.{1})) (And.intro @ite_false.{1} (And.intro @or_true @true_or))) (And.intro (And.intro @or_false (And.intro @false_or @true_imp_iff)) (And.intro @false_imp_iff (And.intro @imp_false @and_self)))) (And.intro (And.intro (And.intro @imp_self (And.intro @and_false @false_and)) (And.intro @jfc (And.intro @Nat.le_refl @List.length_cons.{0}))) (And.intro (And.intro @List.length_nil.{0} (And.intro @List.length_map.{0,0} @List.length_set.{0})) (And.intro @List.all_cons.{0} (And.intro @List.all_nil.{0} @Bool.and_self))))) (And.intro (And.intro (And.intro (And.intro @Option.map_none.{0,0} (And.intro @Option.map_some.{0,0} @List.set_cons_zero.{0})) (And.intro @List.set_cons_succ.{0} (And.intro @Nat.lt_add_one @List.append_assoc.{0}))) (And.intro (And.intro @List.cons_append.{0} (And.intro @List.nil_append.{0} @List.length_append.{0})) (And.intro @List.take_zero.{0} (And.intro @List.take_succ_cons.{0} @List.take_nil.{0})))) (And.intro (And.intro (And.intro @List.drop_zero.{0} (And.intro @List.drop_succ_cons.{0} @List.drop_nil.{0})) (And.intro @List.getElem?_cons_zero.{0} (And.intro @List.getElem?_cons_succ.{0} @List.getElem?_map.{0,0}))) (And.intro (And.intro @Nat.add_eq_zero_iff (And.intro @Nat.zero_add @Nat.add_zero)) (And.intro (And.intro @Nat.mul_one @Nat.one_mul) (And.intro @List.flatten_cons.{0} @List.flatten_nil.{0}))))))):=And.intro (And.intro (And.intro (And.intro (And.intro (And.intro @List.filter_cons.{0} (And.intro @List.filter_nil.{0} @Bool.or_false)) (And.intro @Bool.or_true (And.intro @Bool.false_or @Bool.true_or))) (And.intro (And.intro @ZV.val.injEq (And.intro @ZV.ptr.injEq @ZV.own.injEq)) (And.intro @ZV.fz.injEq (And.intro @ZV.func.injEq @ZV.tuple.injEq)))) (And.intro (And.intro (And.intro @ZV.agg.injEq (And.intro @ZB.box.injEq @ZB.grow.injEq)) (And.intro @Bool.not_eq_false' (And.intro @Prod.mk.injEq.{0,0} @and_assoc))) (And.intro (And.intro @decide_false (And.intro @decide_true @Bool.not_false)) (And.intro @Bool.not_true (And.intro @Bool.true_eq_false @Bool.false_eq_true))))) (And.intro (And.intro (And.intro (And.intro @exists_false.{1} (And.intro @Bool.not_eq_false @Bool.not_not)) (And.intro @Value.bool.injEq (And.intro @Value.int.injEq @Option.some.injEq.{0}))) (And.intro (And.intro @exists_eq_left'.{1} (And.intro @exists_eq_left.{1} @exists_and_left.{1})) (And.intro @exists_and_right.{1} (And.intro @and_true @true_and)))) (And.intro (And.intro (And.intro @decide_eq_true_eq (And.intro @decide_eq_false_iff_not @if_true.{1})) (And.intro @if_false.{1} (And.intro @Bool.not_eq_true' @beq_true))) (And.intro (And.intro @beq_false (And.intro @not_true_eq_false @not_false_eq_true)) (And.intro (And.intro @List.getD_cons_zero.{0} @List.getD_cons_succ.{0}) (And.intro @List.getD_nil.{0} @List.map_cons.{0,0})))))) (And.intro (And.intro (And.intro (And.intro (And.intro @List.map_nil.{0,0} (And.intro @List.append_nil.{0} @ite_true.{1})) (And.intro @ite_false.{1} (And.intro @or_true @true_or))) (And.intro (And.intro @or_false (And.intro @false_or @true_imp_iff)) (And.intro @false_imp_iff (And.intro @imp_false @and_self)))) (And.intro (And.intro (And.intro @imp_self (And.intro @and_false @false_and)) (And.intro @jfc (And.intro @Nat.le_refl @List.length_cons.{0}))) (And.intro (And.intro @List.length_nil.{0} (And.intro @List.length_map.{0,0} @List.length_set.{0})) (And.intro @List.all_cons.{0} (And.intro @List.all_nil.{0} @Bool.and_self))))) (And.intro (And.intro (And.intro (And.intro @Option.map_none.{0,0} (And.intro @Option.map_some.{0,0} @List.set_cons_zero.{0})) (And.intro @List.set_cons_succ.{0} (And.intro @Nat.lt_add_one @List.append_assoc.{0}))) (And.intro (And.intro @List.cons_append.{0} (And.intro @List.nil_append.{0} @List.length_append.{0})) (And.intro @List.take_zero.{0} (And.intro @List.take_succ_cons.{0} @List.take_nil.{0})))) (And.intro (And.intro (And.intro @List.drop_zero.{0} (And.intro @List.drop_succ_cons.{0} @List.drop_nil.{0})) (And.intro @List.getElem?_cons_zero.{0} (And.intro @List.getElem?_cons_succ.{0} @List.getElem?_map.{0,0}))) (And.intro (And.intro @Nat.add_eq_zero_iff (And.intro @Nat.zero_add @Nat.add_zero)) (And.intro (And.intro @Nat.mul_one @Nat.one_mul) (And.intro @List.flatten_cons.{0} @List.flatten_nil.{0}))))))
theorem zyPack:type_of% (And.intro (And.intro (@List.contains_cons.{0}) (@List.contains_nil.{0})) (And.intro (@BEq.rfl.{0}) (And.intro (@List.lookup_cons.{0,0}) (@List.lookup_nil.{0,0})))):=And.intro (And.intro (@List.contains_cons.{0}) (@List.contains_nil.{0})) (And.intro (@BEq.rfl.{0}) (And.intro (@List.lookup_cons.{0,0}) (@List.lookup_nil.{0,0})))
theorem jab:type_of% (And.intro (And.intro @zgoO @zgoG) (And.intro @jf8 (And.intro @jaK @zgoC))):=And.intro (And.intro @zgoO @zgoG) (And.intro @jf8 (And.intro @jaK @zgoC))
theorem zP:type_of% (And.intro (And.intro @zmPack @zxPack) (And.intro @zyPack (And.intro (And.intro (@ne_eq.{1}) (And.intro (@implies_true.{0}) (@implies_true.{1}))) (And.intro (@forall_const.{0}) (@forall_const.{1}))))):=(And.intro (And.intro @zmPack @zxPack) (And.intro @zyPack (And.intro (And.intro (@ne_eq.{1}) (And.intro (@implies_true.{0}) (@implies_true.{1}))) (And.intro (@forall_const.{0}) (@forall_const.{1})))))
end
section
open Go Go.RowKit
variable {fl L:Nat→Bool}{w:Wd}{H:ZH}{K:ZV→ZH→Prop}
theorem FR.weak {Fr:Nat→Prop}{h:Heap}{k:Nat}{ex:Bool}{rows:List (List ZV)}{a:AV}(hf:FR Fr h (.fz k ex rows) a):FR Fr h (.fz k false rows) a:=by
 cases hf with
 |fnil h=>rcases h with rfl|⟨rfl,_⟩;exact .fnil (.inl rfl);exact .fnil (.inr ⟨rfl,rfl⟩)
 |fz cell h1 h2 h3 h4 h5 h6 h7 h8=>exact .fz cell h1 h2 h3 h4 (fun h=>by cases h) h6 h7 h8
theorem Fin.weak {H0:ZH}{k:Nat}{ex:Bool}{rows:List (List ZV)}{H':ZH}{K:ZV→ZH→Prop}(hk:Fin H0 (.fz k false rows) H' K):Fin H0 (.fz k ex rows) H' K:=fun fl L w w' a r e r' e' he hz=>hk fl L w w' a r e r' e' he (.fr (FR.weak hz.fz_inv))
theorem app_fzN {L:Nat→Bool}{H:ZH}{k bytes:Nat}{new:List (List ZV)}{v:ZV}{H':ZH}(hn:new≠[])(hr:new.length*bytes≤ja5):appZ L H k bytes new (.fz k true [])=some (v,H')↔ .own H.length 0 0 new.length false=v∧H++[.grow 0 k new]=H':=by
 simp only[appZ]
 rw[if_pos ⟨trivial,by simpa using hr⟩,if_neg hn]
 simp
theorem ZC.thenF {X:XT}{F:FuncId→Option jaM}{f:FuncId}{zs:List ZV}{K1:ZV→ZH→Prop}(h:ZC X F f zs L H K1)(hk: ∀z H',K1 z H'→Fin H z H' K):ZC X F f zs L H K:=fun fl w args r e ha=>(h fl w args r e ha).mono fun a h' ⟨z,w',e1,r',x,hz,k⟩=>e1▸hk z _ k fl L w w' a r e r' x rfl hz
theorem Fin.truncT {H0:ZH}{zs:List ZV}{H':ZH}{K:ZV→ZH→Prop}(hm:Mods H0 H')(hz:zs.all (refs H0.length)=true)(k:K (.tuple zs) (H'.take H0.length)):Fin H0 (.tuple zs) H' K:=fun fl L w w' a r e r' e' he hzz=>by
 subst e;subst he
 obtain⟨r2,e2⟩:=jqu r r' e' hm
 obtain⟨ys,rfl,hys⟩:=hzz.tuple_inv
 exact⟨.tuple zs,jd1 w' w.H.length,rfl,r2,e2,ZRs.toTuple ⟨hys.1,fun i z b h1 h2=>(hys.2 i z b h1 h2).ren (jgd e'.Hl) (List.all_eq_true.1 hz z (List.mem_of_getElem? h1))⟩,k⟩
theorem Fin.frzTA {H0:ZH}{i g off len:Nat}{ex:Bool}{H':ZH}{K:ZV→ZH→Prop}{k:Nat}{rows:List (List ZV)}{vs cs:List ZV}{j c:Nat}(hj:vs[j]?=some (.agg cs))(hc:cs[c]?=some (.own i g off len ex))(hb:H'[i]?=some (.grow g k rows))(hle:off+len≤rows.length)(hp:rows.flatten.all jbL=true)(hk:Fin H0 (.tuple (vs.set j (.agg (cs.set c (.fz k ex ((rows.drop off).take len)))))) (H'.set i .dead) K):Fin H0 (.tuple vs) H' K:=fun fl L w w' a r e r' e' he hz=>by
 subst he
 obtain⟨ys,rfl,hys⟩:=hz.tuple_inv
 obtain⟨y,hy,hyz⟩:=hys.get hj
 obtain⟨us,rfl,hus⟩:=hyz.agg_inv
 obtain⟨u,hu,huz⟩:=hus.get hc
 obtain⟨w2,e1,e2,e3,e4,e5⟩:=jc0 r' hb hle hp huz
 rw[←e1]
 have hcl:c<cs.length:=(List.getElem?_eq_some_iff.1 hc).1
 have hagg : ZR w2 (.agg (cs.set c (.fz k ex ((rows.drop off).take len)))) (.agg us) := ZRs.toAgg ⟨by simp [hus.1], fun m z a hz' ha' => by
  by_cases hm:m=c
  ·subst hm
   rw[List.getElem?_set] at hz'
   simp[hcl] at hz'
   rw[hu] at ha';injection ha' with ha'
   subst hz';subst ha';exact e5
  ·rw[List.getElem?_set,if_neg (Ne.symm hm)] at hz'
   exact (hus.2 m z a hz' ha').ext e4⟩
 refine hk fl L w w2 _ r e e3 (e'.trans e4) e2 (ZRs.toTuple ⟨by simp[hys.1],fun m z a hz' ha'=>?_⟩)
 have hjl:j<vs.length:=(List.getElem?_eq_some_iff.1 hj).1
 by_cases hm:m=j
 ·subst hm
  rw[List.getElem?_set] at hz'
  simp[hjl] at hz'
  rw[hy] at ha';injection ha' with ha'
  subst hz';subst ha';exact hagg
 ·rw[List.getElem?_set,if_neg (Ne.symm hm)] at hz'
  exact (hys.2 m z a hz' ha').ext e4
theorem jqw (r:ZRel fl L w){t g k:Nat}{rows rows':List (List ZV)}(hb:w.H[t]?=some (.grow g k rows))(hl:rows'.length=rows.length)(hk: ∀x∈rows',x.length=k)
  (hz: ∀id b row,w.mu t=some (id,b)→blk w.h id=some row→ZRs w rows'.flatten ((row.drop b).take (rows.length*k))):
  ∃w',w'.h=w.h∧w'.H=w.H.set t (.grow g k rows')∧ZRel fl L w'∧Ext w w':=by
 have ht:t<w.H.length:=(List.getElem?_eq_some_iff.1 hb).1
 obtain⟨w',hw⟩: ∃w':Wd,w'=⟨w.Fr,w.mu,w.H.set t (.grow g k rows'),w.h⟩:=⟨_,rfl⟩
 have hat:w'.H[t]?=some (.grow g k rows'):=by rw[hw];simp[ht]
 have hne: ∀i,i≠t→w'.H[i]?=w.H[i]?:=fun i hi=>by rw[hw];exact List.getElem?_set_ne (Ne.symm hi)
 have hh:w'.h=w.h:=by rw[hw]
 have hmu:w'.mu=w.mu:=by rw[hw]
 have hfr:w'.Fr=w.Fr:=by rw[hw]
 have hHl:w'.H.length=w.H.length:=by rw[hw];simp
 have ext:Ext w w':=by
  refine⟨fun id h=>by rw[hfr];exact h,fun id row _ h=>by rw[hh];exact h,by rw[hh];exact Nat.le_refl _,by rw[hHl];exact Nat.le_refl _,fun i p h=> .inl ⟨p,by rw[hmu] at h;exact h,rfl⟩,fun i cs h=>?_,fun i cs hi h=>?_,fun i g' k' rs hi h=>?_⟩
  ·have hi:i≠t:=fun e=>by rw[e,hb] at h;cases h
   exact⟨⟨cs,by rw[hne i hi];exact h⟩,by rw[hmu]⟩
  ·have hi:i≠t:=fun e=>by rw[e,hat] at h;cases h
   exact⟨cs,by rw[←hne i hi];exact h⟩
  ·by_cases e:i=t
   ·subst e
    rw[hat] at h
    injection h with h;injection h with e1 e2 e3
    subst e1;subst e2;subst e3
    exact⟨_,_,hb,Nat.le_refl _,fun _=>⟨by rw[hmu],hl,fun id b row _ hr=>⟨row,by rw[hh];exact hr,rfl⟩⟩⟩
   ·rw[hne i e] at h
    exact⟨_,_,h,Nat.le_refl _,fun _=>⟨by rw[hmu],rfl,fun id b row _ hr=>⟨row,by rw[hh];exact hr,rfl⟩⟩⟩
 refine⟨w',hh,by rw[hw],⟨fun id h=>r.fresh id (by rw[hh] at h;exact h),fun i h=>r.lfresh i (by rw[hHl] at h;exact h),fun id h=>by rw[hh];exact r.frlt id (by rw[hfr] at h;exact h),fun i p h=>by rw[hHl];exact r.dom i p (by rw[hmu] at h;exact h),fun i j p q h1 h2=>by rw[hmu] at h1 h2;exact r.inj i j p q h1 h2,fun i p h=>by rw[hmu] at h;rw[hfr,hh];exact r.nfr i p h,fun i p h=>by rw[hmu] at h;exact r.wr i p h,fun i cs h=>?_,fun i g' k' rs h=>?_⟩,ext⟩
 ·have hi:i≠t:=fun e=>by rw[e,hat] at h;cases h
  rw[hne i hi] at h
  obtain⟨id,row,h1,h2,h3⟩:=r.box i cs h
  exact⟨id,row,by rw[hmu];exact h1,by rw[hh];exact h2,h3.ext ext⟩
 ·by_cases e:i=t
  ·subst e
   rw[hat] at h
   injection h with h;injection h with e1 e2 e3
   subst e1;subst e2;subst e3
   refine⟨hk,?_⟩
   rcases (r.grow _ _ _ _ hb).2 with⟨h1,h2⟩|⟨id,b,row,h1,h2,h3,h4⟩
   ·exact .inl ⟨by rw[hmu];exact h1,List.eq_nil_of_length_eq_zero (by rw[hl,h2];rfl)⟩
   ·exact .inr ⟨id,b,row,by rw[hmu];exact h1,by rw[hh];exact h2,by rw[hl];exact h3,by rw[hl];exact (hz id b row h1 h2).ext ext⟩
  ·rw[hne i e] at h
   obtain⟨q1,q2⟩:=r.grow i g' k' rs h
   refine⟨q1,?_⟩
   rcases q2 with⟨h1,h2⟩|⟨id,b,row,h1,h2,h3,h4⟩
   ·exact .inl ⟨by rw[hmu];exact h1,h2⟩
   ·exact .inr ⟨id,b,row,by rw[hmu];exact h1,by rw[hh];exact h2,h3,h4.ext ext⟩
theorem frz_row (r:ZRel fl L w){t g k e c j g2 n k2:Nat}{ex:Bool}{rows rows2:List (List ZV)}{rr:List ZV}(ht:w.H[t]?=some (.grow g k rows))(hr:rows[e]?=some rr)(hc:rr[c]?=some (.own j g2 0 n ex))(hb:w.H[j]?=some (.grow g2 k2 rows2))(hle:n≤rows2.length)(hp:rows2.flatten.all jbL=true)(hjt:j≠t):
  ∃w',w'.h=w.h∧w'.H=(w.H.set j .dead).set t (.grow g k (rows.set e (jac rr c [.fz k2 ex (rows2.take n)])))∧ZRel fl L w'∧Ext w w':=by
 obtain⟨g0,gB⟩:=r.grow _ _ _ _ ht
 have hrk:rr.length=k:=g0 rr (List.mem_of_getElem? hr)
 have hck:c<k:=by have:=(List.getElem?_eq_some_iff.1 hc).1;omega
 rcases gB with⟨_,h0⟩|⟨id,b,row,m1,m2,m3,m4⟩
 ·rw[h0] at hr;simp at hr
 ·have hat:rows.flatten[e*k+c]?=some (.own j g2 0 n ex):=by
   have h1:=jiH g0 hr
   have h2:((rows.flatten.drop (e*k)).take k)[c]?=some (.own j g2 0 n ex):=by rw[h1];exact hc
   rw[List.getElem?_take,if_pos hck,List.getElem?_drop] at h2
   exact h2
  obtain⟨a,ha,hz⟩:=m4.get hat
  obtain⟨w2,e1,e2,e3,e4,e5⟩:=jc0 r hb (by omega) hp hz
  rw[List.drop_zero] at e5
  have ht2:w2.H[t]?=some (.grow g k rows):=by rw[e2,List.getElem?_set,if_neg hjt];exact ht
  have htl:t<w.H.length:=(List.getElem?_eq_some_iff.1 ht).1
  have hmu:w2.mu t=w.mu t:=by
   obtain⟨g1,r1,q1,_,q3⟩:=e4.grow t g k rows htl ht2
   rw[ht] at q1;injection q1 with q1;injection q1 with q1 _ _
   exact (q3 q1.symm).1
  obtain ⟨w3, f1, f2, f3, f4⟩ := jqw e3 ht2 (rows' := rows.set e (jac rr c [.fz k2 ex (rows2.take n)])) (by simp) (fun x hx => by
   rcases List.mem_or_eq_of_mem_set hx with hx|rfl
   ·exact g0 x hx
   ·rw [jff (by simp; omega)]; exact hrk) (fun id' b' row' q1 q2 => by
   rw[hmu,m1] at q1
   injection q1 with q1;injection q1 with q3 q4
   subst q3;subst q4
   rw[e1,m2] at q2
   injection q2 with q2;subst q2
   rw[jf4 g0 hr (by simp;omega)]
   have hs:=jcT (m4.ext e4) (ZRs.cons e5 .nil) (e*k+c)
   obtain⟨seg,hseg⟩: ∃seg,seg=(row.drop b).take (rows.length*k):=⟨_,rfl⟩
   rw[←hseg] at ha hs ⊢
   have hlt:=(List.getElem?_eq_some_iff.1 ha).1
   have hcut:seg.take (e*k+c)++[a]++seg.drop (e*k+c+[a].length)=seg:=by
    have h1:seg[e*k+c]=a:=(List.getElem?_eq_some_iff.1 ha).2
    rw[List.append_assoc]
    have h2:[a]++seg.drop (e*k+c+[a].length)=seg.drop (e*k+c):=by
     rw[List.drop_eq_getElem_cons hlt,h1];rfl
    rw[h2,List.take_append_drop]
   rw[hcut] at hs
   exact hs)
  exact⟨w3,f1.trans e1,by rw[f2,e2],f3,e4.trans f4⟩
theorem Fin.frzRow {H0:ZH}{z:ZV}{H':ZH}{K:ZV→ZH→Prop}{t g k e c j g2 n k2:Nat}{ex:Bool}{rows rows2:List (List ZV)}{rr:List ZV}(ht:H'[t]?=some (.grow g k rows))(hr:rows[e]?=some rr)(hc:rr[c]?=some (.own j g2 0 n ex))(hb:H'[j]?=some (.grow g2 k2 rows2))(hle:n≤rows2.length)(hp:rows2.flatten.all jbL=true)(hjt:j≠t)
  (hk:Fin H0 z ((H'.set j .dead).set t (.grow g k (rows.set e (jac rr c [.fz k2 ex (rows2.take n)])))) K):Fin H0 z H' K:=fun fl L w w' a r e0 r' e' he hz=>by
 subst he
 obtain⟨w3,f1,f2,f3,f4⟩:=frz_row r' ht hr hc hb hle hp hjt
 rw[←f1]
 exact hk fl L w w3 a r e0 f3 (e'.trans f4) f2 (hz.ext f4)
end
section
open Go
def oldZ (H0:ZH):ZV→Prop
  | .ptr i _=>i<H0.length
  | .eptr i g _ _=> ∃k rows,H0[i]?=some (.grow g k rows)
  |_=>False
section
variable (X:XT)(F:FuncId→Option jaM)(G:Gh)(L:Nat→Bool)(H0:ZH)
def zOW:List jap→ZS→ZH→(ZS→ZH→Prop)→Prop
  |[],S,H,K=>K S H
  |o::l,S,H,K=>jdN (jeM o S)
      (if o.iso=true then z1c X F L none (zlit G o.dst) S H (zgo G o.dst fun z H'=>zOW l (zput S o.dst z) H' K) o.op
        else match o.op with
          | .load n x=> ∃z v,zev S x=some z∧oldZ H0 z∧ldZ H n z=some v∧zgo G o.dst (fun z H'=>zOW l (zput S o.dst z) H' K) v H
          | .call f args=> ∃fb,jdq [] o l S=some fb∧z1c X F (fun i=>decide (H.length≤i)) (some (0,none)) (zlit G o.dst) S H (zgo G o.dst fun z H'=>zOW l (zput S o.dst z) H' K) (.call f args)
          |_=>False)
      (zOW l (zput S o.dst .no) H K)
def ZgoOW (l:List jap)(S:ZS)(dst:Option Nat)(K:ZS→ZH→Prop)(z:ZV)(H:ZH):Prop:=zOW X F G L H0 l (zput S dst z) H K
end
variable {X:XT}{F:FuncId→Option jaM}{G:Gh}{L fl:Nat→Bool}{H0 H:ZH}{S:ZS}{l:List jap}{dst:Option Nat}{op:AOp}
theorem zgoOW {z:ZV}{K:ZS→ZH→Prop}:ZgoOW X F G L H0 l S dst K z H↔zOW X F G L H0 l (zput S dst z) H K:=Iff.rfl
theorem jeK {K:ZS→ZH→Prop}:zOW X F G L H0 [] S H K↔K S H:=Iff.rfl
theorem jiL {K:ZS→ZH→Prop}:zOW X F G L H0 (⟨dst,op,none,true⟩::l) S H K↔z1c X F L none (zlit G dst) S H (ZgoG G dst (ZgoOW X F G L H0 l S dst K)) op:=by
 show jdN (some true) (if true=true then _ else _) _↔_
 rw[jbD,if_pos rfl];exact Iff.rfl
theorem jiM {K:ZS→ZH→Prop}{n:Option Nat}{x:Opd}:zOW X F G L H0 (⟨dst,.load n x,none,false⟩::l) S H K↔ ∃z v,zev S x=some z∧oldZ H0 z∧ldZ H n z=some v∧ZgoG G dst (ZgoOW X F G L H0 l S dst K) v H:=by
 show jdN (some true) (if false=true then _ else _) _↔_
 rw[jbD,if_neg (by simp)];exact Iff.rfl
theorem jiN {K:ZS→ZH→Prop}{f:Opd}{args:List Opd}:zOW X F G L H0 (⟨dst,.call f args,none,false⟩::l) S H K↔ ∃fb,jdq [] ⟨dst,.call f args,none,false⟩ l S=some fb∧z1c X F (fun i=>decide (H.length≤i)) (some (0,none)) (zlit G dst) S H (ZgoG G dst (ZgoOW X F G L H0 l S dst K)) (.call f args):=by
 show jdN (some true) (if false=true then _ else _) _↔_
 rw[jbD,if_neg (by simp)];exact Iff.rfl
theorem ji3 {i o:Nat}:oldZ H0 (.ptr i o)↔i<H0.length:=Iff.rfl
theorem jgt {i g j o:Nat}:oldZ H0 (.eptr i g j o)↔ ∃k rows,H0[i]?=some (.grow g k rows):=Iff.rfl
structure WOk (w0 w:Wd)(bA:Nat)(d:Seen):Prop where
  e:Ext w0 w
  b:w0.h.length=bA
  n0: ∀i p,w0.mu i=some p→p.1<bA
  rs1: ∀id∈d.rs,id<w.h.length
  rs2: ∀id,id<bA→id∈d.rs
  pr:match d.pr with|none=>True|some la=> ∀id,id<bA→id∈la
theorem WOk.ext {w0 w w':Wd}{bA:Nat}{d:Seen}(h:WOk w0 w bA d)(e:Ext w w'):WOk w0 w' bA d:=⟨h.e.trans e,h.b,h.n0,fun id hi=>Nat.lt_of_lt_of_le (h.rs1 id hi) e.hl,h.rs2,h.pr⟩
theorem WOk.shallow {w0 w:Wd}{bA:Nat}{d:Seen}(h:WOk w0 w bA d){id:Nat}(hi:id<bA):jaS (some (bA,d.pr)) id=true:=by
 simp only[jaS,Bool.and_eq_true,decide_eq_true_eq]
 refine⟨hi,?_⟩
 have:=h.pr
 cases hd:d.pr with
 |none=>rfl
 |some la=>rw[hd] at this;exact List.contains_iff_mem.2 (this id hi)
theorem old_id {w0 w:Wd}{bA:Nat}{d:Seen}(r:ZRel fl L w)(h:WOk w0 w bA d){z v:ZV}{n:Option Nat}(ho:oldZ w0.H z)(hl:ldZ w.H n z=some v){id off:Nat}(hz:ZR w z (.ptr id off)):id<bA:=by
 cases z with
 |ptr i o=>
  obtain⟨id',cs,e1,e2,e3⟩:=hz.ptr_inv
  injection e1 with e1 _;subst e1
  obtain⟨cs0,hc0⟩:=h.e.boxr i cs ho e2
  have:=(h.e.box i cs0 hc0).2
  rw[this] at e3
  exact h.n0 i _ e3
 |eptr i g j o=>
  obtain⟨k,rows,hg⟩:=ho
  rw[jbO] at hl
  obtain⟨k2,rows2,row,h1,_,_⟩:=hl
  have hi:i<w0.H.length:=(List.getElem?_eq_some_iff.1 hg).1
  obtain⟨g0,rows0,q1,q2,q3⟩:=h.e.grow i g k2 rows2 hi h1
  rw[hg] at q1;injection q1 with q1;injection q1 with q1 _ _
  have hmu:=(q3 q1.symm).1
  cases hz with
  |fr hf=>cases hf
  |eptr a1 a2 a3=>
   obtain⟨b,hb,_⟩:=(a2 g k2 rows2 h1).2 rfl
   rw[hmu] at hb
   exact h.n0 i _ hb
 |_=>exact ho.elim
theorem jjS {G:Gh}{bA:Nat}{w0:Wd}{K:ZS→ZH→Prop}: ∀(l:List jap) (d:Seen) (S:ZS) (s:jah) (w:Wd),ZRel fl L w→(∀t,ZR w (S t) (s t))→WOk w0 w bA d→zOW X F G L w0.H l S w.H K→AO X F bA fl d l s w.h (PO fl L w K)
 |[],d,S,s,w,r,hS,hd,hk=>by
  rw[jn1]
  exact⟨S,w,rfl,r,Ext.refl w,hS,hk⟩
 |o::l,d,S,s,w,r,hS,hd,hk=>by
  have go: ∀(w':Wd) (S':ZS) (s':jah) (d':Seen),ZRel fl L w'→Ext w w'→(∀t,ZR w' (S' t) (s' t))→WOk w0 w' bA d'→zOW X F G L w0.H l S' w'.H K→AO X F bA fl d' l s' w'.h (PO fl L w K):=fun w' S' s' d' r' e hS' hd' hk'=>by
   refine (jjS l d' S' s' w' r' hS' hd' hk').mono fun s2 h2 hq=>?_
   obtain⟨S2,w2,f1,f2,f3,f4,f5⟩:=hq
   exact⟨S2,w2,f1,f2,e.trans f3,f4,f5⟩
  rw[jfS]
  simp only[zOW] at hk
  cases hw:jeM o S with
  |none=>rw[hw] at hk;exact hk.elim
  |some b=>
   rw[jjU hS hw]
   rw[hw] at hk
   refine⟨fun hb=>?_,fun hb=>?_⟩
   ·have hk:=hk.1 hb
    cases hiso:o.iso with
    |true=>
     rw[hiso] at hk
     simp only[if_true] at hk ⊢
     have e1:ja6 fl o (jbA fl d o l s w.h)=fl:=by unfold ja6;rw[hiso];rfl
     have e2: ∀fb,d.with o fb s=d:=fun fb=>by unfold Seen.with;rw[hiso];rfl
     rw[e1]
     refine (jcP r hS (ztop:=none) (top:=none) (fun z id off _ _=>rfl) hk).mono fun v h' p=>?_
     obtain⟨z,w',rfl,r',e,hz,kk⟩:=jek p
     rw[e2]
     exact go w' _ _ d r' e (jbk (fun t=>(hS t).ext e) hz) (hd.ext e) kk
    |false=>
     rw[hiso] at hk
     simp only[Bool.false_eq_true,if_false] at hk ⊢
     obtain⟨fa,hfa⟩: ∃fa,fa=jbA fl d o l s w.h:=⟨_,rfl⟩
     rw[←hfa]
     cases ho:o.op with
     |load n x=>
      rw[ho] at hk
      simp only at hk
      obtain⟨z,v,k1,k2,k3,k4⟩:=hk
      have hzz:=jak hS k1
      obtain⟨id,off,u,e1,e2,e3⟩:=jgE r hzz k3
      rw[e1] at hzz
      have hid:=old_id r hd k2 k3 hzz
      refine jmq.2 ⟨id,off,u,e1,hd.shallow hid,e2,?_⟩
      have hp:PK fl L w (fun z H'=>zgo G o.dst (fun z H'=>zOW X F G L w0.H l (zput S o.dst z) H' K) z H') u w.h:=⟨v,w,rfl,r,Ext.refl w,e3,k4⟩
      obtain⟨z',w',hh,r',e,hz',kk⟩:=jek hp
      rw[←hh]
      refine go w' _ _ _ r' e (jbk (fun t=>(hS t).ext e) hz') (WOk.ext ?_ e) kk
      have hs:sees s o.op=[id]:=by rw[ho];simp[sees,e1,idOf]
      refine⟨hd.e,hd.b,hd.n0,fun j hj=>?_,fun j hj=>?_,?_⟩
      ·unfold Seen.with at hj;rw[hiso] at hj
       simp only[Bool.false_eq_true,if_false,hs,List.singleton_append,List.mem_cons] at hj
       rcases hj with rfl|hj
       ·have:=hd.e.hl;have:=hd.b;omega
       ·exact hd.rs1 j hj
      ·unfold Seen.with;rw[hiso]
       simp only[Bool.false_eq_true,if_false]
       exact List.mem_append_right _ (hd.rs2 j hj)
      ·unfold Seen.with;rw[hiso]
       simp only[Bool.false_eq_true,if_false,ho,heavy]
       exact hd.pr
     |call f args=>
      rw[ho] at hk
      simp only at hk
      obtain⟨fb,hfb,hk⟩:=hk
      have hhv:heavy o.op=true:=by rw[ho];rfl
      have hcov: ∀id∈fa,id<w.h.length:=by
       rw[hfa]
       unfold jbA
       unfold jdq at hfb
       rw[hiso,hhv]
       rw[hhv] at hfb
       simp only[if_true] at hfb
       split at hfb
       ·rename_i fb' hfb'
        intro id hi
        simp only[Bool.not_true,Bool.or_self,Bool.false_eq_true,if_false,List.mem_append] at hi
        rcases hi with hi|hi
        ·exact hd.rs1 id hi
        ·exact (jcr l s _ (fun t=>(hS t).owner r) hfb' id hi).1
       ·cases hfb
      have hall: ∀id,id<bA→id∈fa:=fun id hi=>by
       rw[hfa];unfold jbA;rw[hiso,hhv]
       simp only[Bool.not_true,Bool.or_self,Bool.false_eq_true,if_false]
       exact List.mem_append_left _ (hd.rs2 id hi)
      have rL:ZRel (ja6 fl o fa) (fun i=>decide (w.H.length≤i)) w:=by
       refine⟨fun id h=>?_,fun i h=>by simpa using h,r.frlt,r.dom,r.inj,r.nfr,fun i p hp hl=>?_,r.box,r.grow⟩
       ·unfold ja6
        rw[hiso]
        simp only[Bool.false_eq_true,if_false,Bool.and_eq_true,Bool.not_eq_true']
        refine⟨r.fresh id h,?_⟩
        cases hc:fa.contains id with
        |false=>rfl
        |true=>have:=hcov id (List.contains_iff_mem.1 hc);omega
       ·have:=r.dom i p hp
        have:=of_decide_eq_true hl
        omega
      have ht: ∀z id off,ZR w z (.ptr id off)→topZ (some (0,none)) z=true→jaS (some (bA,d.pr)) id=true:=fun z id off _ h=>by
       unfold topZ at h
       cases z<;>simp at h
      refine (jcP rL hS (ztop:=some (0,none)) (top:=some (bA,d.pr)) ht hk).mono fun v h' p=>?_
      obtain⟨z,w',rfl,r',e,hz,kk⟩:=jek p
      refine go w' _ _ _ (r.back r' e) e (jbk (fun t=>(hS t).ext e) hz) (WOk.ext ?_ e) kk
      have hs:sees s o.op=[]:=by rw[ho];rfl
      refine⟨hd.e,hd.b,hd.n0,fun j hj=>?_,fun j hj=>?_,?_⟩
      ·unfold Seen.with at hj;rw[hiso] at hj
       simp only[Bool.false_eq_true,if_false,hs,List.nil_append] at hj
       exact hd.rs1 j hj
      ·unfold Seen.with;rw[hiso]
       simp only[Bool.false_eq_true,if_false]
       exact List.mem_append_right _ (hd.rs2 j hj)
      ·unfold Seen.with;rw[hiso]
       simp only[Bool.false_eq_true,if_false,hhv,if_true]
       have hp:=hd.pr
       cases hdp:d.pr with
       |none=>exact hall
       |some la=>
        rw[hdp] at hp
        exact fun id hi=>List.mem_filter.2 ⟨hp id hi,List.contains_iff_mem.2 (hall id hi)⟩
     |_=>rw[ho] at hk;exact hk.elim
   ·have hk:=hk.2 hb
    exact go w _ _ d r (Ext.refl w) (jbk hS ZRs.nil.toTuple) hd hk
theorem jeo: ∀{l:List jap} {S:ZS} {H:ZH} {K K':ZS→ZH→Prop},(∀S' H',(∀t,t∉l.filterMap (·.dst)→S' t=S t)→K S' H'→K' S' H')→zOW X F G L H0 l S H K→zOW X F G L H0 l S H K'
 |[],S,H,K,K',hk,h=>hk S H (fun _ _=>rfl) h
 |o::l,S,H,K,K',hk,h=>by
  simp only[zOW] at h ⊢
  have next : ∀ z S' H', (∀ t, t ∉ l.filterMap (·.dst) → S' t = zput S o.dst z t) → K S' H' → K' S' H' := fun z S' H' hf k => hk S' H' (fun t ht => by
   have h1:t∉l.filterMap (·.dst):=fun q=>by
    obtain⟨p,hp,e⟩:=List.mem_filterMap.1 q
    exact ht (List.mem_filterMap.2 ⟨p,by simp[hp],e⟩)
   rw[hf t h1]
   cases hd:o.dst with
   |none=>rfl
   |some d=>
    simp only[zput,zupd]
    have:t≠d:=fun q=>ht (List.mem_filterMap.2 ⟨o,by simp,by rw[hd,q]⟩)
    rw[if_neg this]) k
  cases hw:jeM o S with
  |none=>rw[hw] at h;exact h.elim
  |some b=>
  rw[hw] at h
  refine⟨fun hb=>?_,fun hb=>jeo (next _) (h.2 hb)⟩
  have h:=h.1 hb
  split at h
  ·rename_i hi
   rw[if_pos hi]
   exact jfF (fun z H'=>jel fun z H'=>jeo (next z)) h
  ·rename_i hi
   rw[if_neg hi]
   split at h
   ·rename_i n x ho
    obtain⟨z,v,k1,k2,k3,k4⟩:=h
    exact⟨z,v,k1,k2,k3,jel (fun z H'=>jeo (next z)) k4⟩
   ·rename_i f args ho
    obtain⟨fb,k1,k2⟩:=h
    exact⟨fb,k1,jfF (fun z H'=>jel fun z H'=>jeo (next z)) k2⟩
   ·exact h
theorem zW_opsW {KK:jas→ZS→ZH→Prop}(h:zOW X.det F G L H l S H (KK .normal)):zW X F G L (.opsW l) S H KK:=by
 intro fl w s r e hS
 subst e
 rw[AW_opsW]
 have h':=jeo (K':=fun S' H'=>(∀t,t∉l.filterMap (·.dst)→S' t=S t)∧KK .normal S' H') (fun S' H' hf k=>⟨hf,k⟩) h
 have hd:WOk w w w.h.length ⟨List.range w.h.length,none⟩:=⟨Ext.refl w,rfl,fun i p hp=>(r.nfr i p hp).2,fun id hi=>List.mem_range.1 hi,fun id hi=>List.mem_range.2 hi,trivial⟩
 refine (jjS (w0:=w) l ⟨List.range w.h.length,none⟩ S s w r hS hd h').mono fun s' h1 hq=>?_
 obtain⟨S',w',q1,q2,q3,q4,q5,q6⟩:=hq
 exact⟨S',w',q1,q2,q3,q4,q5,q6⟩
end
section
open Go
variable {X:XT}{F:FuncId→Option jaM}{G:Gh}{L fl:Nat→Bool}{H0 H:ZH}{S:ZS}{l:List jap}{dst:Option Nat}{op:AOp}{top:Option (Nat×Option (List Nat))}{gl:Bool}
end
section
open Go
theorem jka {C C':jaG}(hC: ∀f args fl h r,C f args fl h=some r→C' f args fl h=some r){D:List (Nat×Nat)}{fl:Nat→Bool}: ∀(l:List jap) (s:jah) (h:Heap) (r:jah×Heap),runV C D fl l s h=some r→runV C' D fl l s h=some r
 |[],s,h,r,e=>e
 |o::l,s,h,r,e=>by
  have ih:=fun s h=>jka (D:=D) (fl:=fl) hC l s h r
  simp only[runV] at e ⊢
  split at e
  ·split at e
   ·split at e
    ·rename_i hc;rw[if_pos hc]
     split at e
     ·exact ih _ _ e
     ·cases e
    ·cases e
   ·cases e
  ·exact ih _ _ e
  ·split at e
   ·exact ih _ _ e
   ·cases e
  ·split at e
   ·exact ih _ _ e
   ·cases e
  ·split at e
   ·rename_i hc;rw[if_pos hc]
    split at e
    ·split at e
     ·rename_i he;rw[hC _ _ _ _ _ he];exact ih _ _ e
     ·cases e
    ·cases e
   ·cases e
  ·split at e
   ·split at e
    ·rename_i hc;rw[if_pos hc]
     split at e
     ·exact ih _ _ e
     ·cases e
    ·cases e
   ·cases e
  ·cases e
section
variable {x:jaG}{pn:PX}{F:FuncId→Option jaM}{p c g j:Nat}{L:Nat→Bool}{l r:List jap}{S:ZS}{H:ZH}{K:ZS→ZH→Prop}{cs:List ZV}{rows:List (List ZV)}{dst:Option Nat}{gd:Option (Nat×Bool)}{io:Bool}
def ZVg (x:jaG)(F:FuncId→Option jaM)(p c j:Nat)(L:Nat→Bool)(l:List jap)(S:ZS)(H:ZH)(K:ZS→ZH→Prop):Prop:=
  ∀(fl:Nat→Bool) (w:Wd) (s:jah) (idp idc b:Nat),ZRel fl L w→w.H=H→(∀t,ZR w (S t) (s t))→w.mu p=some (idp,0)→w.mu c=some (idc,b)→
    ∃n s' h',runV (call x F n) [(idp,0),(idc,b+j)] fl l s w.h=some (s',h')∧PO fl L w K s' h'
theorem zv_nil (k:K S H):ZVg x F p c j L [] S H K:=fun fl w s idp idc b r e hS hp hc=>⟨0,s,w.h,rfl,S,w,rfl,r,Ext.refl w,hS,e.symm▸k⟩
theorem zv_mv {y:Opd}{z:ZV}(hz:zev S y=some z)(h:ZVg x F p c j L l (zput S dst z) H K):ZVg x F p c j L (⟨dst,.mv y,gd,io⟩::l) S H K:=fun fl w s idp idc b r e hS hp hc=>by
 obtain⟨n,s',h',hr,po⟩:=h fl w (put s dst (y.ev s)) idp idc b r e (jbk hS (jak hS hz)) hp hc
 exact⟨n,s',h',by simp only[runV];exact hr,po⟩
theorem PO.ext {fl:Nat→Bool}{w w':Wd}(e:Ext w w'){s':jah}{h':Heap}(q:PO fl L w' K s' h'):PO fl L w K s' h':=by
 obtain⟨S2,w2,f1,f2,f3,f4,f5⟩:=q
 exact⟨S2,w2,f1,f2,e.trans f3,f4,f5⟩
theorem zv_op {op:AOp}(hop:(∃k y,op= .fieldAddr k y)∨ ∃k y i,op= .indexAddr k y i)(hp:H[p]?=some (.box cs))(hc:H[c]?=some (.grow g 4 rows))(h:z1c ⟨x,false,pn⟩ F L none false S H (fun z H'=>H'=H∧ZVg x F p c j L l (zput S dst z) H K) op):
  ZVg x F p c j L (⟨dst,op,gd,io⟩::l) S H K:=fun fl w s idp idc b r e hS hmp hmc=>by
 subst e
 have h1:=jcP (X:=⟨x,false,pn⟩) r hS (ztop:=none) (top:=none) (fun z id off _ _=>rfl) h
 have key: ∃v h',jag none fl s w.h op=some (v,h')∧h'=w.h∧PK fl L w (fun z H'=>H'=w.H∧ZVg x F p c j L l (zput S dst z) w.H K) v h':=by
  rcases hop with⟨k,y,rfl⟩|⟨k,y,i,rfl⟩
  ·obtain⟨v,h',he,k⟩:=h1
   refine⟨v,h',he,?_,k⟩
   simp only[jag] at he
   split at he
   ·injection he with he;injection he with _ he;exact he.symm
   ·cases he
  ·obtain⟨v,h',he,k⟩:=h1
   refine⟨v,h',he,?_,k⟩
   simp only[jag] at he
   split at he
   ·split at he
    ·injection he with he;injection he with _ he;exact he.symm
    ·cases he
   ·cases he
 obtain⟨v,h',he,rfl,z,w',e1,r',ext,hz,eH,hk⟩:=key
 have m1:w'.mu p=some (idp,0):=by rw[(ext.box p cs hp).2];exact hmp
 have m2:w'.mu c=some (idc,b):=by
  obtain⟨g0,rows0,q1,q2,q3⟩:=ext.grow c g 4 rows (jae hc) (by rw[eH];exact hc)
  rw[hc] at q1;injection q1 with q1;injection q1 with q1;subst q1
  rw[(q3 rfl).1];exact hmc
 obtain⟨n,s',h2,hr,po⟩:=hk fl w' (put s dst v) idp idc b r' eH (jbk (fun t=>(hS t).ext ext) hz) m1 m2
 refine⟨n,s',h2,?_,po.ext ext⟩
 rw[e1] at hr
 rcases hop with⟨k,y,rfl⟩|⟨k,y,i,rfl⟩<;>(simp only[runV,he];exact hr)
theorem jn8 {y:Opd}{z v:ZV}(hz:zev S y=some z)(hio:io=true∨z= .ptr p 0∨z= .eptr c g 0 j)(hc:H[c]?=some (.grow g 4 rows))(hv:ldZ H none z=some v)(h:ZVg x F p c j L l (zput S dst v) H K):
  ZVg x F p c j L (⟨dst,.load none y,gd,io⟩::l) S H K:=fun fl w s idp idc b r e hS hmp hmc=>by
 subst e
 have hzr:=jak hS hz
 obtain⟨id,off,u,e1,e2,e3⟩:=jgE r hzr hv
 have hcon:(io||[(idp,0),(idc,b+j)].contains (id,off))=true:=by
  rcases hio with rfl|rfl|rfl
  ·rfl
  ·obtain⟨id',cs,q1,q2,q3⟩:=hzr.ptr_inv
   rw[e1] at q1;injection q1 with q1 q4;subst q1;subst q4
   rw[hmp] at q3;injection q3 with q3;injection q3 with q3 _;subst q3
   simp
  ·rw[e1] at hzr
   cases hzr with
   |fr hf=>cases hf
   |eptr q1 q2 q3=>
    obtain⟨_,q4⟩:=q2 _ _ _ hc
    obtain⟨b',q5,q6,_⟩:=q4 rfl
    rw[hmc] at q5;injection q5 with q5;injection q5 with q5 q7;subst q5;subst q7
    simp[q6]
 obtain⟨n,s',h',hr,po⟩:=h fl w (put s dst u) idp idc b r rfl (jbk hS e3) hmp hmc
 refine⟨n,s',h',?_,po⟩
 simp only[ldA] at e2
 simp only[runV,e1,hcon,if_true,jag,jaS,e2]
 exact hr
theorem zv_st {a y:Opd}{o:Nat}(hza:zev S a=some (.eptr c g 0 o))(ho:o≠j∨(ldZ H none (.eptr c g 0 j)=some .nil∧zev S y=some .nil∧o=j))(hp:H[p]?=some (.box cs))(hc:H[c]?=some (.grow g 4 rows))
  (h:z1c ⟨x,false,pn⟩ F L none false S H (fun z H'=>H'[p]?=some (.box cs)∧(∃rows',H'[c]?=some (.grow g 4 rows'))∧ZVg x F p c j L l (zput S dst z) H' K) (.store 1 a y)):
  ZVg x F p c j L (⟨dst,.store 1 a y,gd,true⟩::l) S H K:=fun fl w s idp idc b r e hS hmp hmc=>by
 subst e
 obtain⟨v,h',he,z,w',e1,r',ext,hz,hp2,⟨rows',hc2⟩,hk⟩:=jcP (X:=⟨x,false,pn⟩) r hS (ztop:=none) (top:=none) (fun z id off _ _=>rfl) h
 have m1:w'.mu p=some (idp,0):=by rw[(ext.box p cs hp).2];exact hmp
 have m2:w'.mu c=some (idc,b):=by
  obtain⟨g0,rows0,q1,q2,q3⟩:=ext.grow c g 4 rows' (jae hc) hc2
  rw[hc] at q1;injection q1 with q1;injection q1 with q1;subst q1
  rw[(q3 rfl).1];exact hmc
 obtain⟨n,s',h2,hr,po⟩:=hk fl w' (put s dst v) idp idc b r' rfl (jbk (fun t=>(hS t).ext ext) hz) m1 m2
 refine⟨n,s',h2,?_,po.ext ext⟩
 have hza:=jak hS hza
 have hane: ∃off,a.ev s= .ptr idc off∧off=b+o:=by
  generalize a.ev s=u at hza
  cases hza with
  |fr hf=>cases hf
  |eptr q1 q2 q3=>
   obtain⟨_,q4⟩:=q2 _ _ _ hc
   obtain⟨b',q5,q6,_⟩:=q4 rfl
   rw[hmc] at q5;injection q5 with q5;injection q5 with q5 q7;subst q5;subst q7
   exact⟨_,rfl,by rw[q6];omega⟩
 obtain⟨off,e3,rfl⟩:=hane
 have halive:jiD [(idp,0),(idc,b+j)] w.h=true:=by
  obtain⟨id1,row1,g1,g2,g3⟩:=r.box p cs hp
  rw[hmp] at g1;injection g1 with g1;injection g1 with g1;subst g1
  obtain⟨_,gB⟩:=r.grow c g 4 rows hc
  rcases gB with⟨n1,_⟩|⟨id',b',row',n1,n2,_⟩
  ·rw[hmc] at n1;cases n1
  ·rw[hmc] at n1;injection n1 with n1;injection n1 with t1 t2;subst t1;subst t2
   simp[jiD,g2,n2]
 have hne:idp≠idc:=fun e=>by
  have:=r.inj p c _ _ hmp hmc e
  subst this
  rw[hp] at hc;cases hc
 have hD:(!([(idp,0),(idc,b+j)].contains (idc,b+o))||(nilA (rd1 w.h idc (b+o))&&nilA (some (y.ev s))))=true:=by
  rcases ho with ho|⟨h1,h2,rfl⟩
  ·have:[(idp,0),(idc,b+j)].contains (idc,b+o)=false:=by
    simp[Ne.symm hne];omega
   rw[this];rfl
  ·have q0:ZR w (.eptr c g 0 o) (.ptr idc (b+o)):=by rw[←e3];exact hza
   obtain⟨id,off,u,k1,k2,k3⟩:=jgE r q0 h1
   injection k1 with k1 k4;subst k1;subst k4
   have k3:=k3.val_inv
   have k5:=(jak hS h2).val_inv
   simp only[ldA] at k2
   rw[k2,k3,k5]
   simp[nilA]
 rw[e1] at hr
 simp only[runV,e3,halive,hD,he,Bool.and_self,beq_self_eq_true,if_true]
 exact hr
theorem jpm {f:Opd}{args:List Opd}{z:ZV}{zs vs:List ZV}{fn:FuncId}(h1:zev S f=some z)(h2:zevs S args=some zs)(h3:jd5 z zs=some (fn,vs))(hp:H[p]?=some (.box cs))(hc:H[c]?=some (.grow g 4 rows))
  (h:ZC ⟨x,false,pn⟩ F fn vs (fun i=>L i&& !(i==p||i==c)) H fun z H'=>H'[p]?=some (.box cs)∧(∃rows',H'[c]?=some (.grow g 4 rows'))∧ZVg x F p c j L l (zput S dst z) H' K):
  ZVg x F p c j L (⟨dst,.call f args,gd,true⟩::l) S H K:=fun fl w s idp idc b r e hS hmp hmc=>by
 subst e
 have hL:ZRel (jg5 [(idp,0),(idc,b+j)] fl) (fun i=>L i&& !(i==p||i==c)) w:=by
  refine⟨fun id hi=>?_,fun i hi=>?_,r.frlt,r.dom,r.inj,r.nfr,fun i q hq hl=>?_,r.box,r.grow⟩
  ·have k1:=(r.nfr p _ hmp).2
   have k2:=(r.nfr c _ hmc).2
   simp only at k1 k2
   have:idp≠id:=by omega
   have:idc≠id:=by omega
   simp[jg5,r.fresh id hi, *]
  ·have k1:=r.dom p _ hmp
   have k2:=r.dom c _ hmc
   have:i≠p:=by omega
   have:i≠c:=by omega
   simp[r.lfresh i hi, *]
  ·simp only[Bool.and_eq_true,Bool.not_eq_true',Bool.or_eq_false_iff,beq_eq_false_iff_ne,ne_eq] at hl
   have k1:idp≠q.1:=fun e=>hl.2.1 (r.inj i p q _ hq hmp e.symm)
   have k2:idc≠q.1:=fun e=>hl.2.2 (r.inj i c q _ hq hmc e.symm)
   simp[jg5,r.wr i q hq hl.1,k1,k2]
 have hz:=jak hS h1
 have ha:=jcs hS h2
 have hcal: ∃us,callee (f.ev s) (args.map (·.ev s))=some (fn,us)∧ZRs w vs us:=by
  unfold jd5 at h3
  split at h3
  ·injection h3 with h3;injection h3 with hc1 hc2;subst hc1;subst hc2
   obtain⟨ys,k1,k2⟩:=hz.func_inv
   exact⟨_,by rw[k1];rfl,ha.append k2⟩
  ·injection h3 with h3;injection h3 with hc1 hc2;subst hc1;subst hc2
   obtain⟨ys,us,k1,k2,k3⟩:=hz.bfunc_inv
   exact⟨_,by rw[k1];rfl,(k2.append ha).append k3⟩
  ·cases h3
 obtain⟨us,hcal,hus⟩:=hcal
 obtain⟨n1,v,h',he,z',w',e1,r',ext,hz',hp2,⟨rows',hc2⟩,hk⟩:=h _ w us hL rfl hus
 have r2:=r.back r' ext
 have m1:w'.mu p=some (idp,0):=by rw[(ext.box p cs hp).2];exact hmp
 have m2:w'.mu c=some (idc,b):=by
  obtain⟨g0,rows0,q1,q2,q3⟩:=ext.grow c g 4 rows' (jae hc) hc2
  rw[hc] at q1;injection q1 with q1;injection q1 with q1;subst q1
  rw[(q3 rfl).1];exact hmc
 obtain⟨n2,s',h2',hr,po⟩:=hk fl w' (put s dst v) idp idc b r2 rfl (jbk (fun t=>(hS t).ext ext) hz') m1 m2
 have halive:jiD [(idp,0),(idc,b+j)] w.h=true:=by
  obtain⟨id1,row1,g1,g2,g3⟩:=r.box p cs hp
  rw[hmp] at g1;injection g1 with g1;injection g1 with g1;subst g1
  obtain⟨_,gB⟩:=r.grow c g 4 rows hc
  rcases gB with⟨q1,_⟩|⟨id',b',row',q1,q2,_⟩
  ·rw[hmc] at q1;cases q1
  ·rw[hmc] at q1;injection q1 with q1;injection q1 with t1 t2;subst t1;subst t2
   simp[jiD,g2,q2]
 have mx1:=jaW (X:=x) (F:=F) (Nat.le_max_left n1 n2)
 have mx2:=jaW (X:=x) (F:=F) (Nat.le_max_right n1 n2)
 refine⟨max n1 n2,s',h2',?_,po.ext ext⟩
 have hr:=jka mx2 _ _ _ _ hr
 rw[e1] at hr
 simp only[runV,halive,Bool.and_self,if_true,hcal,mx1 _ _ _ _ _ he]
 exact hr
theorem zW_opsV {G:Gh}{KK:jas→ZS→ZH→Prop}(hp:H[p]?=some (.box cs))(hc:H[c]?=some (.grow g 4 rows))(hr:rows≠[])(h:ZVg x F p c j L l S H fun S' H'=>(∀t,t∉l.filterMap (·.dst)→S' t=S t)∧KK .normal S' H'):zW ⟨x,true,pn⟩ F G L (.opsV l) S H KK:=by
 intro fl w s r e hS
 subst e
 obtain⟨id1,row1,g1,g2,g3⟩:=r.box p cs hp
 obtain⟨_,gB⟩:=r.grow c g 4 rows hc
 rcases gB with⟨_,n2⟩|⟨id2,b,row',n1,n2,_⟩
 ·exact (hr n2).elim
 ·obtain⟨n,s',h',hrun,S',w',e1,r',ext,hS',hf,hk⟩:=h fl w s id1 id2 b r rfl hS g1 n1
  refine⟨n,_,s',h',fun d hd=>?_,hrun,S',w',e1,r',ext,hS',hf,hk⟩
  rcases List.mem_cons.1 hd with rfl|hd
  ·exact (r.nfr p _ g1).2
  ·rw[List.mem_singleton.1 hd];exact (r.nfr c _ n1).2
end
end
end Go.Proofs.YtjaahfncbechnaaGreatDoor
