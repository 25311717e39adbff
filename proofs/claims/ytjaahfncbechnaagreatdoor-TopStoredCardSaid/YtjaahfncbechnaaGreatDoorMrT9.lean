/-
  Haul: what stands where: plain facts.
-/
import Derived.Test.YtjaahfncbechnaaGreatDoorMrT7
import Derived.Test.YtjaahfncbechnaaGreatDoorMrT8
set_option linter.unusedVariables false
set_option linter.unusedSimpArgs false
namespace Go.Proofs.YtjaahfncbechnaaGreatDoor
section
open Go Go.RowKit
theorem jra (F:List Int): ∀(m b:Nat),F.length - b≤m→b≤jaq F b:=by
 intro m
 induction m with
 |zero=>intro b h;rw[jaq];simp[show ¬b<F.length by omega]
 |succ m ih=>
  intro b h
  rw[jaq]
  by_cases hb:b<F.length
  ·simp only[hb,dite_true]
   have:=ih (b+1+lng F[b]) (by omega)
   omega
  ·simp[hb]
def osz (F:List Int)(a:Nat):Nat:=1+lng (F[a]?.getD 0)
theorem jbN (F:List Int): ∀(m b:Nat),F.length - b≤m→jaq F b=F.length→ ∀a∈objs F b,b≤a∧a<F.length∧a+osz F a≤F.length:=by
 intro m
 induction m with
 |zero=>intro b h he a ha;rw[objs] at ha;simp[show ¬b<F.length by omega] at ha
 |succ m ih=>
  intro b h he a ha
  by_cases hb:b<F.length
  ·rw[objs] at ha
   simp only[hb,dite_true,List.mem_cons] at ha
   rw[jaq] at he
   simp only[hb,dite_true] at he
   have hge:=jra F _ (b+1+lng F[b]) (Nat.le_refl _)
   have hs:osz F b=1+lng F[b]:=by unfold osz;rw[List.getElem?_eq_getElem hb];rfl
   rcases ha with rfl|ha
   ·exact⟨Nat.le_refl _,hb,by omega⟩
   ·obtain⟨h1,h2,h3⟩:=ih (b+1+lng F[b]) (by omega) he a ha
    exact⟨by omega,h2,h3⟩
  ·rw[objs] at ha;simp[hb] at ha
theorem jnB (F:List Int): ∀(m b:Nat),F.length - b≤m→jaq F b=b+((objs F b).map (osz F)).sum:=by
 intro m
 induction m with
 |zero=>intro b h;rw[objs,jaq];simp[show ¬b<F.length by omega]
 |succ m ih=>
  intro b h
  rw[objs,jaq]
  by_cases hb:b<F.length
  ·simp only[hb,dite_true,List.map_cons,List.sum_cons]
   have:=ih (b+1+lng F[b]) (by omega)
   have hs:osz F b=1+lng F[b]:=by unfold osz;rw[List.getElem?_eq_getElem hb];rfl
   omega
  ·simp[hb]
theorem jq8 (F:List Int): ∀(m b:Nat),F.length - b≤m→(∀a∈objs F b,b≤a)∧(objs F b).Nodup:=by
 intro m
 induction m with
 |zero=>intro b h;rw[objs];simp[show ¬b<F.length by omega]
 |succ m ih=>
  intro b h
  rw[objs]
  by_cases hb:b<F.length
  ·simp only[hb,dite_true,List.mem_cons,List.nodup_cons]
   obtain⟨h1,h2⟩:=ih (b+1+lng F[b]) (by omega)
   refine⟨fun a ha=>?_,fun hm=>?_,h2⟩
   ·rcases ha with rfl|ha
    ·exact Nat.le_refl _
    ·have:=h1 a ha;omega
   ·have:=h1 b hm;omega
  ·simp[hb]
theorem jgi {α:Type}[DecidableEq α](f:α→Nat): ∀{l1 l2:List α},l1.Nodup→(∀x∈l1,x∈l2)→(l1.map f).sum≤(l2.map f).sum
 |[],_,_,_=>by simp
 |x::l1,l2,hn,hs=>by
  have hx:=hs x (by simp)
  have hp:=(List.perm_cons_erase hx).map f
  rw[hp.sum_nat,List.map_cons,List.map_cons,List.sum_cons,List.sum_cons]
  have hn':=List.nodup_cons.1 hn
  have:=jgi f (l1:=l1) (l2:=l2.erase x) hn'.2 fun y hy=>(List.mem_erase_of_ne (fun e:y=x=>hn'.1 (by rw[←e];exact hy))).2 (hs y (by simp[hy]))
  omega
theorem jcZ {F:List Int}{a:Nat}(h:a+osz F a≤F.length):(ja7 F a).length=osz F a:=by
 unfold ja7;unfold osz at h ⊢;simp;omega
def orig (F:List Int)(T:List (Int×Int)):List Int:=(T.map fun x=>ja7 F x.2.toNat).flatten
theorem jgs {F:List Int}{T:List (Int×Int)}{x:Int×Int}:orig F (T++[x])=orig F T++ja7 F x.2.toNat:=by simp[orig]
structure jcN (F:List Int)(i:Nat)(to:List Int)(T:List (Int×Int)):Prop where
  len:to.length=(orig F T).length
  rest: ∀j,i≤j→to[j]?=(orig F T)[j]?
  tos: ∀(k:Nat) x,T[k]?=some x→x.1=((orig F (T.take k)).length:Int)
  frm: ∀x∈T,0≤x.2∧x.2.toNat∈objs F 0
  nod:(T.map Prod.snd).Nodup
  head: ∀(k:Nat) x,T[k]?=some x→to[(orig F (T.take k)).length]?=F[x.2.toNat]?
theorem jcN.nil {F:List Int}:jcN F 0 [] []:=⟨rfl,fun j _=>rfl,fun k x h=>by simp at h,fun x h=>by simp at h,by simp,fun k x h=>by simp at h⟩
theorem jfL {F:List Int}(he:jaq F 0=F.length): ∀{T:List (Int×Int)},(∀x∈T,x.2.toNat∈objs F 0)→(orig F T).length=((T.map fun x=>x.2.toNat).map (osz F)).sum
 |[],_=>rfl
 |x::T,h=>by
  have h1:=jbN F _ 0 (Nat.le_refl _) he _ (h x (by simp))
  have h2:=jfL he (T:=T) fun y hy=>h y (by simp[hy])
  have:orig F (x::T)=ja7 F x.2.toNat++orig F T:=by simp[orig]
  rw[this,List.length_append,h2,jcZ h1.2.2]
  simp
theorem jcN.small {F:List Int}{i:Nat}{to:List Int}{T:List (Int×Int)}(he:jaq F 0=F.length)(h:jcN F i to T):to.length≤F.length∧T.length≤F.length:=by
 have hn:(T.map fun x=>x.2.toNat).Nodup:=by
  have:=h.nod
  rw[List.nodup_iff_pairwise_ne,List.pairwise_map] at this
  rw[List.nodup_iff_pairwise_ne,List.pairwise_map]
  refine this.imp_of_mem fun {a b} ha hb hne e=>hne ?_
  have h1:=(h.frm a ha).1
  have h2:=(h.frm b hb).1
  omega
 have hs:=jgi (osz F) hn (l2:=objs F 0) fun y hy=>by
  obtain⟨x,hx,rfl⟩:=List.mem_map.1 hy
  exact (h.frm x hx).2
 have ho:=jnB F _ 0 (Nat.le_refl _)
 have hl:=jfL he (T:=T) fun x hx=>(h.frm x hx).2
 have h1:to.length≤F.length:=by rw[h.len,hl];omega
 have hk: ∀l:List Nat,l.length≤(l.map (osz F)).sum:=fun l=>by
  induction l with
  |nil=>simp
  |cons a l ih=>simp only[List.map_cons,List.sum_cons,List.length_cons];unfold osz at ih ⊢;omega
 have:=hk (T.map fun x=>x.2.toNat)
 rw[List.length_map] at this
 exact⟨h1,by omega⟩
end
section
open Go Go.RowKit
theorem jda {F:List Int}{w:Int}(hr:jaz w (objs F 0)=true)(hp:jax w=true):0≤jau w∧(jau w).toNat∈objs F 0:=by
 simp only[jaz,hp,Bool.not_true,Bool.false_or,Bool.and_eq_true,decide_eq_true_eq] at hr
 obtain⟨a,ha,e⟩:=List.mem_map.1 hr.2
 have e:(a:Int)=jau w:=e
 rw[←e]
 exact⟨by omega,by simpa using ha⟩
theorem jkd {F:List Int}{w:Int}(he:jaq F 0=F.length)(hr:jaz w (objs F 0)=true)(hp:jax w=true):0≤jau w∧ ∃h:(jau w).toNat<F.length,(jau w).toNat+1+lng F[(jau w).toNat]≤F.length:=by
 obtain⟨h1,h2⟩:=jda hr hp
 obtain⟨_,h3,h4⟩:=jbN F _ 0 (Nat.le_refl _) he _ h2
 refine⟨h1,h3,?_⟩
 unfold osz at h4
 rw[List.getElem?_eq_getElem h3] at h4
 simp only[Option.getD_some] at h4
 omega
theorem jcN.move {F:List Int}{i:Nat}{to:List Int}{T:List (Int×Int)}{w:Int}(he:jaq F 0=F.length)(h:jcN F i to T)(hr:jaz w (objs F 0)=true):jcN F i (mvW F w to T).2.1 (mvW F w to T).2.2:=by
 unfold mvW
 by_cases hp:jax w=false
 ·rw[if_pos hp];exact h
 ·rw[if_neg hp]
  have hp:jax w=true:=by simpa using hp
  cases hf:T.find? fun x=>decide (jau w=x.2) with
  |some x=>exact h
  |none=>
   obtain⟨h1,h2⟩:=jda hr hp
   obtain⟨_,h3,h4⟩:=jbN F _ 0 (Nat.le_refl _) he _ h2
   simp only
   have hl:=jcZ h4
   have hpos:0<(ja7 F (jau w).toNat).length:=by rw[hl];unfold osz;omega
   have hT: ∀(k:Nat) x,(T++[((to.length:Int),jau w)])[k]?=some x→(T[k]?=some x∧(T++[((to.length:Int),jau w)]).take k=T.take k)∨(k=T.length∧x=((to.length:Int),jau w)):=fun k x hx=>by
    by_cases hk:k<T.length
    ·rw[List.getElem?_append_left hk] at hx
     exact .inl ⟨hx,List.take_append_of_le_length (by omega)⟩
    ·rw[List.getElem?_append_right (by omega)] at hx
     have:k - T.length=0:=by
      have:=(List.getElem?_eq_some_iff.1 hx).1
      simp at this;omega
     rw[this] at hx
     simp at hx
     exact .inr ⟨by omega,hx.symm⟩
   refine⟨?_,?_,?_,?_,?_,?_⟩
   ·rw[jgs,List.length_append,List.length_append,h.len]
   ·intro j hj
    rw[jgs]
    by_cases hjl:j<to.length
    ·rw[List.getElem?_append_left hjl,List.getElem?_append_left (by rw[←h.len];exact hjl)]
     exact h.rest j hj
    ·rw[List.getElem?_append_right (by omega),List.getElem?_append_right (by rw[←h.len];omega),h.len]
   ·intro k x hx
    rcases hT k x hx with⟨q1,q2⟩|⟨rfl,rfl⟩
    ·rw[q2];exact h.tos k x q1
    ·rw[List.take_append_of_le_length (Nat.le_refl _),List.take_of_length_le (Nat.le_refl _),← h.len]
   ·intro x hx
    rcases List.mem_append.1 hx with hx|hx
    ·exact h.frm x hx
    ·rw[List.mem_singleton.1 hx];exact⟨h1,h2⟩
   ·rw[List.map_append,List.nodup_append]
    refine⟨h.nod,by simp,fun a ha b hb e=>?_⟩
    simp at hb
    subst hb;subst e
    obtain⟨x,hx,e⟩:=List.mem_map.1 ha
    have:=List.find?_eq_none.1 hf x hx
    exact this (decide_eq_true e.symm)
   ·intro k x hx
    rcases hT k x hx with⟨q1,q2⟩|⟨rfl,rfl⟩
    ·rw[q2]
     have:=h.head k x q1
     obtain⟨_,h5,_⟩:=jbN F _ 0 (Nat.le_refl _) he _ (h.frm x (List.mem_of_getElem? q1)).2
     rw[List.getElem?_eq_getElem h5] at this
     rw[List.getElem?_append_left (List.getElem?_eq_some_iff.1 this).1,this,List.getElem?_eq_getElem h5]
    ·rw[List.take_append_of_le_length (Nat.le_refl _),List.take_of_length_le (Nat.le_refl _),← h.len,List.getElem?_append_right (Nat.le_refl _),Nat.sub_self]
     unfold ja7
     rw[List.getElem?_take,if_pos (by omega),List.getElem?_drop]
     rfl
theorem jcN.set {F:List Int}{i:Nat}{to:List Int}{T:List (Int×Int)}(h:jcN F i to T)(hne: ∀(k:Nat) x,T[k]?=some x→(orig F (T.take k)).length≠i)(v:Int):jcN F (i+1) (to.set i v) T:=by
 refine⟨by rw[List.length_set];exact h.len,fun j hj=>?_,h.tos,h.frm,h.nod,fun k x hx=>?_⟩
 ·rw[List.getElem?_set,if_neg (by omega)];exact h.rest j (by omega)
 ·rw[List.getElem?_set,if_neg (Ne.symm (hne k x hx))];exact h.head k x hx
theorem jcN.skip {F:List Int}{i:Nat}{to:List Int}{T:List (Int×Int)}(h:jcN F i to T):jcN F (i+1) to T:=⟨h.len,fun j hj=>h.rest j (by omega),h.tos,h.frm,h.nod,h.head⟩
end
section
open Go Go.RowKit
def jaB (F R:List Int):List Int×List Int×List (Int×Int):=R.foldl (fun s w=>(s.1++[(mvW F w s.2.1 s.2.2).1],(mvW F w s.2.1 s.2.2).2.1,(mvW F w s.2.1 s.2.2).2.2)) ([],[],[])
theorem jc8 {F R:List Int}{w:Int}:jaB F (R++[w])=((jaB F R).1++[(mvW F w (jaB F R).2.1 (jaB F R).2.2).1],(mvW F w (jaB F R).2.1 (jaB F R).2.2).2.1,(mvW F w (jaB F R).2.1 (jaB F R).2.2).2.2):=by simp[jaB,List.foldl_append]
theorem jeR {F:List Int}: ∀{R:List Int},(jaB F R).1.length=R.length:=by
 have: ∀(R:List Int) s,(R.foldl (fun (s:List Int×List Int×List (Int×Int)) w=>(s.1++[(mvW F w s.2.1 s.2.2).1],(mvW F w s.2.1 s.2.2).2.1,(mvW F w s.2.1 s.2.2).2.2)) s).1.length=s.1.length+R.length:=by
  intro R
  induction R with
  |nil=>intro s;rfl
  |cons w R ih=>intro s;rw[List.foldl_cons,ih];simp;omega
 intro R
 unfold jaB
 rw[this];simp
theorem jiS {α:Type}{P:List α→Prop}(h0:P [])(hs: ∀R w,P R→P (R++[w])): ∀R,P R:=by
 have: ∀(n:Nat) R,R.length=n→P R:=by
  intro n
  induction n with
  |zero=>intro R hn;rw[List.eq_nil_of_length_eq_zero hn];exact h0
  |succ n ih=>
   intro R hn
   have hne:R≠[]:=by intro e;subst e;simp at hn
   rw[←List.dropLast_concat_getLast hne]
   exact hs _ _ (ih _ (by simp[hn]))
 exact fun R=>this _ R rfl
theorem jdR {F:List Int}(he:jaq F 0=F.length)(R:List Int):(∀w∈R,jaz w (objs F 0)=true)→jcN F 0 (jaB F R).2.1 (jaB F R).2.2:=by
 refine jiS (P:=fun R=>(∀w∈R,jaz w (objs F 0)=true)→jcN F 0 (jaB F R).2.1 (jaB F R).2.2) (fun _=>jcN.nil) (fun R w ih hr=>?_) R
 rw[jc8]
 exact (ih fun w hw=>hr w (by simp[hw])).move he (hr w (by simp))
theorem chk0 {F R:List Int}(h:chkE F R=0):F.length≤2000∧R.length≤100∧jaq F 0=F.length∧okW F=true∧okR F R=true:=by
 unfold chkE at h
 split at h
 ·cases h
 ·split at h
  ·rename_i h1 h2;exact⟨by omega,by omega,h2⟩
  ·cases h
structure HSt where
  i:Nat
  nx:Nat
  to:List Int
  T:List (Int×Int)
def jdG (F:List Int)(s:HSt):HSt:=
  if s.i=s.nx then ⟨s.i+1,s.i+1+lng (s.to[s.i]?.getD 0),s.to,s.T⟩
  else ⟨s.i+1,s.nx,(mvW F (s.to[s.i]?.getD 0) s.to s.T).2.1.set s.i (mvW F (s.to[s.i]?.getD 0) s.to s.T).1,(mvW F (s.to[s.i]?.getD 0) s.to s.T).2.2⟩
inductive HRun (F:List Int)(s0:HSt):HSt→Prop
  |refl:HRun F s0 s0
  |step {s:HSt}:HRun F s0 s→s.i<s.to.length→HRun F s0 (jdG F s)
theorem jgB (F:List Int)(w:Int)(to:List Int)(T:List (Int×Int)): ∃e E,(mvW F w to T).2.1=to++e∧(mvW F w to T).2.2=T++E:=by
 unfold mvW
 split
 ·exact⟨[],[],by simp,by simp⟩
 ·split
  ·exact⟨[],[],by simp,by simp⟩
  ·exact⟨_,_,rfl,rfl⟩
theorem jco (F:List Int): ∀(m b:Nat),F.length - b≤m→ ∀a∈objs F b,∀ d,1≤d→d<osz F a→a+d∉objs F b:=by
 intro m
 induction m with
 |zero=>intro b h a ha;rw[objs] at ha;simp[show ¬b<F.length by omega] at ha
 |succ m ih=>
  intro b h a ha d h1 h2 hm
  by_cases hb:b<F.length
  ·have hs:osz F b=1+lng F[b]:=by unfold osz;rw[List.getElem?_eq_getElem hb];rfl
   obtain⟨hlt,-⟩:=jq8 F _ (b+1+lng F[b]) (Nat.le_refl _)
   rw[objs] at ha hm
   simp only[hb,dite_true,List.mem_cons] at ha hm
   rcases ha with rfl|ha
   ·rcases hm with hm|hm
    ·omega
    ·have:=hlt _ hm;omega
   ·have:=hlt _ ha
    rcases hm with hm|hm
    ·omega
    ·exact ih (b+1+lng F[b]) (by omega) a ha d h1 h2 hm
  ·rw[objs] at ha;simp[hb] at ha
theorem jev {F:List Int}{A B:List (Int×Int)}:orig F (A++B)=orig F A++orig F B:=by simp[orig]
def ol (F:List Int)(T:List (Int×Int))(k:Nat):Nat:=(orig F (T.take k)).length
theorem jgu {F:List Int}{T:List (Int×Int)}{k k':Nat}(h:k≤k'):ol F T k≤ol F T k':=by
 have e:T.take k=(T.take k').take k:=by rw[List.take_take,Nat.min_eq_left h]
 unfold ol
 rw[e]
 conv=>rhs;rw[←List.take_append_drop k (T.take k'),jev,List.length_append]
 omega
theorem ol_all {F:List Int}{T:List (Int×Int)}{k:Nat}:ol F T k≤(orig F T).length:=by
 unfold ol
 conv=>rhs;rw[←List.take_append_drop k T,jev,List.length_append]
 omega
theorem jlJ {F:List Int}{T:List (Int×Int)}{k:Nat}(h:T.length≤k):ol F T k=(orig F T).length:=by unfold ol;rw[List.take_of_length_le h]
theorem jkn {F:List Int}{T E:List (Int×Int)}{k:Nat}(h:k≤T.length):ol F (T++E) k=ol F T k:=by unfold ol;rw[List.take_append_of_le_length h]
theorem ji4 {F:List Int}{T:List (Int×Int)}{k:Nat}{x:Int×Int}(hx:T[k]?=some x)(h:x.2.toNat+osz F x.2.toNat≤F.length):ol F T (k+1)=ol F T k+osz F x.2.toNat:=by
 unfold ol
 rw[List.take_add_one,hx,Option.toList_some,jgs,List.length_append,jcZ h]
theorem jnA {F:List Int}{T:List (Int×Int)}{k d:Nat}{x:Int×Int}(hx:T[k]?=some x)(h:x.2.toNat+osz F x.2.toNat≤F.length)(hd:d<osz F x.2.toNat):(orig F T)[ol F T k+d]?=F[x.2.toNat+d]?:=by
 obtain⟨hk,hx'⟩:=List.getElem?_eq_some_iff.1 hx
 have e:T=T.take k++([x]++T.drop (k+1)):=by
  conv=>lhs;rw[←List.take_append_drop k T,List.drop_eq_getElem_cons hk,hx']
  rfl
 have hl:=jcZ h
 obtain⟨n,hn⟩: ∃n,n=ol F T k:=⟨_,rfl⟩
 have hn':(orig F (T.take k)).length=n:=hn.symm
 rw[←hn]
 conv=>lhs;rw[e]
 rw[jev,jev,List.getElem?_append_right (by omega),show n+d - (orig F (T.take k)).length=d by omega]
 have e1:orig F [x]=ja7 F x.2.toNat:=by simp[orig]
 rw[e1,List.getElem?_append_left (by omega)]
 unfold ja7
 unfold osz at hd
 rw[List.getElem?_take,if_pos (by omega),List.getElem?_drop]
structure HS (F:List Int)(s:HSt):Prop where
  inv:jcN F s.i s.to s.T
  le:s.i≤s.nx∧s.nx≤s.to.length
  pos: ∃k,k≤s.T.length∧s.nx=ol F s.T k∧ ∀k',k'<k→ol F s.T k'<s.i
theorem HS.start {F:List Int}{to:List Int}{T:List (Int×Int)}(h:jcN F 0 to T):HS F ⟨0,0,to,T⟩:=⟨h,⟨Nat.le_refl _,Nat.zero_le _⟩,0,Nat.zero_le _,rfl,fun k' h=>absurd h (by omega)⟩
theorem HS.obj {F:List Int}{i:Nat}{to:List Int}{T:List (Int×Int)}(he:jaq F 0=F.length)(h:jcN F i to T){k:Nat}{x:Int×Int}(hx:T[k]?=some x):x.2.toNat∈objs F 0∧x.2.toNat<F.length∧x.2.toNat+osz F x.2.toNat≤F.length:=by
 have:=(h.frm x (List.mem_of_getElem? hx)).2
 obtain⟨_,h3,h4⟩:=jbN F _ 0 (Nat.le_refl _) he _ this
 exact⟨this,h3,h4⟩
theorem HS.first {F:List Int}{s:HSt}(he:jaq F 0=F.length)(h:HS F s)(hi:s.i<s.to.length)(hn:s.i=s.nx): ∃k x,k<s.T.length∧s.T[k]?=some x∧s.nx=ol F s.T k∧(∀k',k'<k→ol F s.T k'<s.i)∧s.to[s.i]?=F[x.2.toNat]?∧x.2.toNat<F.length∧1+lng (s.to[s.i]?.getD 0)=osz F x.2.toNat∧ol F s.T (k+1)=s.i+osz F x.2.toNat:=by
 obtain⟨k,h1,h2,h3⟩:=h.pos
 have hk:k<s.T.length:=by
  rcases Nat.lt_or_ge k s.T.length with h|h'
  ·exact h
  ·rw[jlJ h',← h.inv.len] at h2;omega
 obtain⟨x,hx⟩: ∃x,s.T[k]?=some x:=⟨_,List.getElem?_eq_getElem hk⟩
 have ho:=HS.obj he h.inv hx
 have hh:=h.inv.head k x hx
 have hh:s.to[s.i]?=F[x.2.toNat]?:=by rw[hn,h2];exact hh
 refine⟨k,x,hk,hx,h2,h3,hh,ho.2.1,by rw[hh];rfl,?_⟩
 rw[ji4 hx ho.2.2,hn,h2]
theorem HS.other {F:List Int}{s:HSt}(he:jaq F 0=F.length)(hw:okW F=true)(h:HS F s)(hi:s.i<s.to.length)(hn:s.i≠s.nx): ∃k x d,s.T[k]?=some x∧1≤d∧d<osz F x.2.toNat∧s.i=ol F s.T k+d∧x.2.toNat+d<F.length∧s.to[s.i]?=F[x.2.toNat+d]?∧(orig F s.T)[s.i]?=s.to[s.i]?∧ ∀w,F[x.2.toNat+d]?=some w→jaz w (objs F 0)=true:=by
 obtain⟨k,h1,h2,h3⟩:=h.pos
 have hle:=h.le
 cases k with
 |zero=>unfold ol at h2;simp[orig] at h2;omega
 |succ k=>
  obtain⟨x,hx⟩: ∃x,s.T[k]?=some x:=⟨_,List.getElem?_eq_getElem (by omega)⟩
  have ho:=HS.obj he h.inv hx
  have h4:=h3 k (by omega)
  have h5:=ji4 hx ho.2.2
  have hd:s.i=ol F s.T k+(s.i - ol F s.T k):=by omega
  obtain⟨d,hd'⟩: ∃d,d=s.i - ol F s.T k:=⟨_,rfl⟩
  rw[←hd'] at hd
  have hg:=jnA hx ho.2.2 (d:=d) (by omega)
  rw[←hd] at hg
  have hr:=h.inv.rest s.i (Nat.le_refl _)
  refine⟨k,x,d,hx,by omega,by omega,hd,by omega,by rw[hr,hg],hr.symm,fun w hw'=>?_⟩
  obtain⟨hlt,e⟩:=List.getElem?_eq_some_iff.1 hw'
  have:=jdb.1 hw _ hlt
  rw[e] at this
  unfold okAt at this
  rw[decide_eq_false (jco F _ 0 (Nat.le_refl _) _ ho.1 d (by omega) (by omega)),Bool.false_or] at this
  exact this
theorem HS.step {F:List Int}{s:HSt}(he:jaq F 0=F.length)(hw:okW F=true)(h:HS F s)(hi:s.i<s.to.length):HS F (jdG F s):=by
 unfold jdG
 by_cases hn:s.i=s.nx
 ·rw[if_pos hn]
  obtain⟨k,x,hk,hx,h2,h3,hh,hlt,hs,hl⟩:=h.first he hi hn
  have ho:=ol_all (F:=F) (T:=s.T) (k:=k+1)
  rw[←h.inv.len] at ho
  refine⟨h.inv.skip,⟨by show s.i+1≤s.i+1+lng (s.to[s.i]?.getD 0);omega,by show s.i+1+lng (s.to[s.i]?.getD 0)≤s.to.length;omega⟩,k+1,hk,by show s.i+1+lng (s.to[s.i]?.getD 0)=ol F s.T (k+1);rw[hl];omega,fun k' hk'=>?_⟩
  show _<s.i+1
  rcases Nat.lt_or_ge k' k with h'|h'
  ·have:=h3 k' h';show ol F s.T k'<_;omega
  ·have:k'=k:=by omega
   subst this
   show ol F s.T k'<_;omega
 ·rw[if_neg hn]
  obtain⟨k,x,d,hx,hd1,hd2,hid,hlt,hto,hor,hr⟩:=h.other he hw hi hn
  obtain⟨k2,h1,h2,h3⟩:=h.pos
  have hle:=h.le
  have hrw:jaz (s.to[s.i]?.getD 0) (objs F 0)=true:=by
   rw[hto,List.getElem?_eq_getElem hlt]
   exact hr _ (List.getElem?_eq_getElem hlt)
  have hm:=h.inv.move he hrw
  obtain⟨e,E,e1,e2⟩:=jgB F (s.to[s.i]?.getD 0) s.to s.T
  rw[e1,e2] at hm ⊢
  have hne: ∀k',ol F (s.T++E) k'≠s.i:=fun k' he'=>by
   rcases Nat.lt_or_ge k' k2 with h'|h'
   ·rw[jkn (by omega)] at he'
    have:=h3 k' h';omega
   ·have:=jgu (F:=F) (T:=s.T++E) h'
    rw[jkn h1] at this
    omega
  refine⟨jcN.set hm (fun k' x' _=>hne k') _,⟨by show s.i+1≤s.nx;omega,?_⟩,k2,by show k2≤(s.T++E).length;rw[List.length_append];omega,?_,fun k' hk'=>?_⟩
  ·show s.nx≤((s.to++e).set _ _).length
   rw[List.length_set,List.length_append];omega
  ·show s.nx=ol F (s.T++E) k2
   rw[jkn h1];exact h2
  ·show ol F (s.T++E) k'<s.i+1
   rw[jkn (by omega)]
   have:=h3 k' hk';omega
theorem HRun.hs {F:List Int}{s0 s:HSt}(he:jaq F 0=F.length)(hw:okW F=true)(h0:HS F s0)(h:HRun F s0 s):HS F s:=by
 induction h with
 |refl=>exact h0
 |step _ hi ih=>exact ih.step he hw hi
end
section
open Go Go.RowKit
variable {tb:List (FuncId×Bool)}{L:Nat→Bool}{H:ZH}{K:ZV→ZH→Prop}
theorem co_at4 {W Y:ZH}(A B C D E:ZB):(W++(A::B::C::D::E::Y))[W.length+4]?=some E:=by rw[List.getElem?_append_right (by omega),Nat.add_sub_cancel_left];rfl
theorem co_st4 {W Y:ZH}(A B C D E G:ZB):(W++(A::B::C::D::E::Y)).set (W.length+4) G=W++(A::B::C::D::G::Y):=by rw[List.set_append_right _ _ (by omega),Nat.add_sub_cancel_left];rfl
theorem hl_cells {i:Nat}:(ZV.mp i).cells=[.mp i]:=rfl
theorem hl_cell {i:Nat}:(ZV.mp i).isCell=true:=rfl
theorem jr0 {W Y:ZH}{zw:ZV}{b1 b3 m:Nat}{to:List Int}{T:List (Int×Int)}(hm:m<to.length):jbV (colH W Y zw b1 b3 to T) 1 m (.own (W.length+2) b1 0 to.length false)=some (.eptr (W.length+2) b1 m 0):=by
 unfold colH
 rw[jbT];exact⟨_,jid _ _ _ _,by simp,hm,by simp⟩
theorem col_ld {W Y:ZH}{zw:ZV}{b1 b3 m:Nat}{to:List Int}{T:List (Int×Int)}{x:Int}(hm:to[m]?=some x):ldZ (colH W Y zw b1 b3 to T) none (.eptr (W.length+2) b1 m 0)=some (.val (.int .u64 x)):=by
 unfold colH
 rw[jbO];exact⟨_,_,eU x,jid _ _ _ _,by rw[List.getElem?_map,hm];rfl,rfl⟩
theorem col_st {W Y:ZH}{zw:ZV}{b1 b3 m:Nat}{to:List Int}{T:List (Int×Int)}{x:Int}(hm:m<to.length)(hL:L (W.length+2)=true):stZ L (colH W Y zw b1 b3 to T) [.val (.int .u64 x)] (.eptr (W.length+2) b1 m 0)=some (colH W Y zw b1 b3 (to.set m x) T):=by
 rw[jdt]
 refine⟨1,to.map eU,eU to[m],by unfold colH;exact jid _ _ _ _,by rw[List.getElem?_map,List.getElem?_eq_getElem hm];rfl,hL,by simp,?_⟩
 unfold colH
 rw[jr1,List.length_set,List.map_set];rfl
theorem col_at1 {W Y:ZH}{zw:ZV}{b1 b3:Nat}{to:List Int}{T:List (Int×Int)}:(colH W Y zw b1 b3 to T)[W.length+1]?=some (.box [zw,.own (W.length+2) b1 0 to.length false,.mp W.length,.own (W.length+3) b3 0 T.length false]):=by
 unfold colH;exact jnL _ _ _ _
theorem col_at2 {W Y:ZH}{zw:ZV}{b1 b3:Nat}{to:List Int}{T:List (Int×Int)}:(colH W Y zw b1 b3 to T)[W.length+2]?=some (.grow b1 1 (to.map eU)):=by
 unfold colH;exact jid _ _ _ _
theorem HS.word {F:List Int}{s:HSt}(he:jaq F 0=F.length)(hw:okW F=true)(hu:U64 F)(h:HS F s)(hi:s.i<s.to.length): ∃x,s.to[s.i]?=some x∧(0≤x∧x<18446744073709551616)∧(s.i≠s.nx→jaz x (objs F 0)=true):=by
 by_cases hn:s.i=s.nx
 ·obtain⟨k,x,_,_,_,_,hh,hlt,_⟩:=h.first he hi hn
  exact⟨F[x.2.toNat],by rw[hh,List.getElem?_eq_getElem hlt],hu _ (List.getElem_mem hlt),fun h=>absurd hn h⟩
 ·obtain⟨k,x,d,_,_,_,_,hlt,hh,_,hr⟩:=h.other he hw hi hn
  exact⟨F[x.2.toNat+d],by rw[hh,List.getElem?_eq_getElem hlt],hu _ (List.getElem_mem hlt),fun _=>hr _ (List.getElem?_eq_getElem hlt)⟩
theorem pure_U {l:List Int}:(l.map eU).flatten.all jbL=true:=by
 induction l with
 |nil=>rfl
 |cons a l ih=>rw[List.map_cons,List.flatten_cons,List.all_append,ih];rfl
end
section
open Go Go.RowKit
def oddB (u:Int):Bool:=decide (u / 4503599627370496 % 2048=2047∧u % 4503599627370496≠0)
theorem joy (u:Int)(h0:0≤u)(h1:u<18446744073709551616):jbF u=oddB u:=by
 rw[Bool.eq_iff_iff];simp[jbF,oddB];omega
theorem jsf {k n:Int}(h:boxE k n=0):0≤k∧k≤6∧(k=3∨(loI k≤n∧n≤hiI k)):=by
 unfold boxE at h
 split at h
 ·omega
 ·split at h
  ·omega
  ·split at h<;>omega
theorem boxW_tag {k n:Int}(h:boxE k n=0)(h3:k≠3):boxW k n=tagI k+n % 4294967296:=by
 obtain⟨h1,h2,h4⟩:=jsf h
 unfold boxW
 rw[if_neg (by omega),if_neg h3,if_neg (by omega)]
theorem je2 (n:Int):boxW 3 n=if jbF (IntKind.u64.wrap n) then 9221120237041090561 else IntKind.u64.wrap n:=by simp[boxW]
theorem float_lt (n:Int):boxW 3 n<65529*281474976710656+0∨65529*281474976710656+1970324836974592≤boxW 3 n:=by
 rw[je2]
 have:=u64r n
 split
 ·omega
 ·rename_i h
  simp only[jbF,decide_eq_true_eq] at h
  omega
theorem jb4 {k n:Int}:0≤boxW k n∧boxW k n<18446744073709551616:=by
 have:=u64r n
 unfold boxW tagI
 repeat' split
 all_goals omega
theorem jnf {k n:Int}(h:boxE k n=0)(h3:k≠3)(hn: -9223372036854775808≤n∧n≤9223372036854775807):
  unE (boxW k n)=0∧jaw (boxW k n)=k∧jau (boxW k n)=n∧oddB (boxW k n)=true:=by
 obtain⟨h1,h2,h4⟩:=jsf h
 have hb:loI k≤n∧n≤hiI k:=by omega
 have hw:=boxW_tag h h3
 have hm:0≤n % 4294967296∧n % 4294967296<4294967296:=by omega
 have ht:jdp (boxW k n)=true:=by
  rw[hw];unfold jdp tagI;simp only[decide_eq_true_eq];split<;>omega
 have hk:unK (boxW k n)=k:=by
  rw[hw];unfold unK unK0 tagI;split<;>split<;>omega
 have hnn:unN (boxW k n)=n:=by
  unfold unN
  rw[hk,hw]
  have e:(tagI k+n % 4294967296) % 4294967296=n % 4294967296:=by unfold tagI;split<;>omega
  rw[e]
  unfold loI hiI at hb
  split
  ·rename_i h2';subst h2'
   simp at hb
   have e2:wrap32 (n % 4294967296)=n:=by unfold wrap32;omega
   rw[e2]
   exact IntWalk.wrap64_in n hn
  ·repeat' (split at hb)
   all_goals (simp_all;try omega)
 have he:unE (boxW k n)=0:=by simp[unE,ht,hk,hnn,h]
 refine⟨he,by simp[jaw,he,ht,hk],by simp[jau,he,ht,hnn],?_⟩
 rw[hw];unfold oddB tagI;simp only[decide_eq_true_eq];split<;>omega
theorem jn9 (n:Int)(hn: -9223372036854775808≤n∧n≤9223372036854775807):wrap64 (IntKind.u64.wrap n)=n:=by
 simp only[IntKind.wrap_u64];unfold wrap64;omega
theorem jkp (n:Int):jdp (boxW 3 n)=false:=by
 have:=float_lt n
 unfold jdp
 simp only[decide_eq_false_iff_not]
 omega
theorem joG (n:Int)(hn: -9223372036854775808≤n∧n≤9223372036854775807):unE (boxW 3 n)=0∧jaw (boxW 3 n)=3∧(jau (boxW 3 n)=n∨oddB (IntKind.u64.wrap n)=true):=by
 have ht:=jkp n
 have hE:unE (boxW 3 n)=0:=by
  have hx:=je2 n
  unfold unE
  rw[ht]
  simp only[Bool.false_eq_true,if_false]
  rw[if_neg]
  rintro⟨h1,h2⟩
  rw[hx] at h1 h2
  split at h1
  ·rename_i h;rw[if_pos h] at h2;exact h2 rfl
  ·rename_i h;exact h h1
 refine⟨hE,by simp[jaw,hE,ht],?_⟩
 cases ho:oddB (IntKind.u64.wrap n) with
 |true=>exact .inr rfl
 |false=>
  left
  simp only[jau,hE,ht,if_true]
  rw[je2,joy _ (u64r n).1 (u64r n).2,ho]
  simpa using jn9 n hn
end
section
open Go Go.RowKit
def mapW (T:List (Int×Int))(w:Int):Int:=if jax w=false then w else match T.find? fun x=>decide (jau w=x.2) with
  |some x=>boxW 5 x.1
  |none=>w
theorem jgK {T:List (Int×Int)}{n:Int}(h: ∃y∈T,y.2=n): ∃x∈T,x.2=n∧T.find? (fun x=>decide (n=x.2))=some x:=by
 obtain⟨y,hy,e⟩:=h
 cases hf:T.find? (fun x=>decide (n=x.2)) with
 |none=>exact absurd (decide_eq_true e.symm) (List.find?_eq_none.1 hf y hy)
 |some x=>
  have:=List.find?_some hf
  exact⟨x,List.mem_of_find?_eq_some hf,(of_decide_eq_true this).symm,rfl⟩
theorem ji8 {T E:List (Int×Int)}{w:Int}(h:jax w=true→ ∃y∈T,y.2=jau w):mapW (T++E) w=mapW T w:=by
 unfold mapW
 by_cases hp:jax w=false
 ·rw[if_pos hp,if_pos hp]
 ·obtain⟨x,_,_,hf⟩:=jgK (h (by simpa using hp))
  rw[if_neg hp,if_neg hp,List.find?_append,hf];rfl
theorem jrg (F:List Int)(w:Int)(to:List Int)(T:List (Int×Int)):(mvW F w to T).1=mapW (mvW F w to T).2.2 w∧(jax w=true→ ∃y∈(mvW F w to T).2.2,y.2=jau w):=by
 unfold mvW
 by_cases hp:jax w=false
 ·rw[if_pos hp]
  exact⟨by unfold mapW;rw[if_pos hp],fun h=>by rw[hp] at h;cases h⟩
 ·rw[if_neg hp]
  cases hf:T.find? fun x=>decide (jau w=x.2) with
  |some x=>
   refine⟨by unfold mapW;rw[if_neg hp];simp only[hf],fun _=>⟨x,List.mem_of_find?_eq_some hf,?_⟩⟩
   have:=List.find?_some hf
   exact (of_decide_eq_true this).symm
  |none=>
   refine⟨?_,fun _=>⟨_,List.mem_append_right _ (List.mem_singleton_self _),rfl⟩⟩
   unfold mapW
   rw[if_neg hp]
   simp only[List.find?_append,hf,Option.none_or,List.find?_cons,decide_true]
theorem jrf {F:List Int}{w:Int}{to:List Int}{T:List (Int×Int)}: ∀x∈(mvW F w to T).2.2,x∈T∨jax w=true∧x.2=jau w:=by
 unfold mvW
 intro x hx
 split at hx
 ·exact .inl hx
 ·rename_i hp
  split at hx
  ·exact .inl hx
  ·rcases List.mem_append.1 hx with hx|hx
   ·exact .inl hx
   ·rw[List.mem_singleton.1 hx];exact .inr ⟨by simpa using hp,rfl⟩
def jhU (F:List Int)(T:List (Int×Int))(j:Nat):Prop:= ∀(k:Nat) x,T[k]?=some x→ol F T k≠j
def Cop (F:List Int)(s:HSt):Prop:= ∀j o,j<s.i→(orig F s.T)[j]?=some o→jhU F s.T j→s.to[j]?=some (mapW s.T o)∧(jax o=true→ ∃y∈s.T,y.2=jau o)∧jaz o (objs F 0)=true
theorem Cop.step {F:List Int}{s:HSt}(he:jaq F 0=F.length)(hw:okW F=true)(h:HS F s)(hi:s.i<s.to.length)(c:Cop F s):Cop F (jdG F s):=by
 unfold jdG
 by_cases hn:s.i=s.nx
 ·rw[if_pos hn]
  intro j o hj ho hnh
  rcases Nat.lt_or_ge j s.i with h'|h'
  ·exact c j o h' ho hnh
  ·have hj:j<s.i+1:=hj
   have e:j=s.i:=by omega
   subst e
   obtain⟨k,x,hk,hx,h2,_⟩:=h.first he hi hn
   exact absurd (h2.symm.trans hn.symm) (hnh k x hx)
 ·rw[if_neg hn]
  obtain⟨k,x,d,hx,hd1,hd2,hid,hlt,hto,hor,hr⟩:=h.other he hw hi hn
  obtain⟨e,E,e1,e2⟩:=jgB F (s.to[s.i]?.getD 0) s.to s.T
  obtain⟨m1,m2⟩:=jrg F (s.to[s.i]?.getD 0) s.to s.T
  intro j o hj ho hnh
  have hj:j<s.i+1:=hj
  have hjl:j<(orig F s.T).length:=by rw[←h.inv.len];omega
  have ho:(orig F (mvW F (s.to[s.i]?.getD 0) s.to s.T).2.2)[j]?=some o:=ho
  rw[e2,jev,List.getElem?_append_left hjl] at ho
  have hnh2:jhU F s.T j:=fun k' x' hx'=>by
   have hk':=(List.getElem?_eq_some_iff.1 hx').1
   have:=hnh k' x' (by show (mvW F (s.to[s.i]?.getD 0) s.to s.T).2.2[k']?=_;rw[e2,List.getElem?_append_left hk'];exact hx')
   have this:ol F (mvW F (s.to[s.i]?.getD 0) s.to s.T).2.2 k'≠j:=this
   rw[e2,jkn (by omega)] at this
   exact this
  show ((mvW F (s.to[s.i]?.getD 0) s.to s.T).2.1.set s.i (mvW F (s.to[s.i]?.getD 0) s.to s.T).1)[j]?=some (mapW (mvW F (s.to[s.i]?.getD 0) s.to s.T).2.2 o)∧(jax o=true→ ∃y∈(mvW F (s.to[s.i]?.getD 0) s.to s.T).2.2,y.2=jau o)∧_
  rcases Nat.lt_or_ge j s.i with h'|h'
  ·obtain⟨c1,c2,c3⟩:=c j o h' ho hnh2
   rw[e1,e2]
   refine⟨?_,fun hp=>?_,c3⟩
   ·rw[List.getElem?_set,if_neg (by omega),List.getElem?_append_left (by omega),c1,ji8 c2]
   ·obtain⟨y,hy,e⟩:=c2 hp
    exact⟨y,List.mem_append_left _ hy,e⟩
  ·have e:j=s.i:=by omega
   subst e
   rw[hor] at ho
   have hg:s.to[s.i]?.getD 0=o:=by rw[ho];rfl
   rw[hg] at m1 m2 e1 e2 ⊢
   refine⟨?_,m2,hr o (by rw[←hto];exact ho)⟩
   rw[←m1,List.getElem?_set,if_pos rfl,if_pos (by rw[e1,List.length_append];omega)]
theorem HRun.cop {F:List Int}{s0 s:HSt}(he:jaq F 0=F.length)(hw:okW F=true)(h0:HS F s0)(hz:s0.i=0)(h:HRun F s0 s):Cop F s:=by
 induction h with
 |refl=>intro j o hj;rw[hz] at hj;omega
 |step hr hi ih=>exact Cop.step he hw (hr.hs he hw h0) hi ih
theorem jrn (F:List Int)(s:HSt): ∃E,(jdG F s).T=s.T++E:=by
 unfold jdG
 split
 ·exact⟨[],by simp⟩
 ·obtain⟨e,E,e1,e2⟩:=jgB F (s.to[s.i]?.getD 0) s.to s.T
  exact⟨E,e2⟩
theorem HRun.ext {F:List Int}{s0 s:HSt}(h:HRun F s0 s): ∃E,s.T=s0.T++E:=by
 induction h with
 |refl=>exact⟨[],by simp⟩
 |step _ _ ih=>
  obtain⟨E,e⟩:=ih
  obtain⟨E2,e2⟩:=jrn F _
  exact⟨E++E2,by rw[e2,e,List.append_assoc]⟩
theorem no_head {F:List Int}{T:List (Int×Int)}{k d:Nat}{x:Int×Int}(hx:T[k]?=some x)(hl:x.2.toNat+osz F x.2.toNat≤F.length)(h1:1≤d)(h2:d<osz F x.2.toNat):jhU F T (ol F T k+d):=fun k' x' hx' e=>by
 rcases Nat.lt_or_ge k k' with h|h
 ·have:=jgu (F:=F) (T:=T) (show k+1≤k' from h)
  rw[ji4 hx hl] at this
  omega
 ·have:=jgu (F:=F) (T:=T) h
  omega
structure Done (F R:List Int)(to:List Int)(T:List (Int×Int)):Prop where
  inv:jcN F to.length to T
  cop: ∀j o,(orig F T)[j]?=some o→jhU F T j→to[j]?=some (mapW T o)∧(jax o=true→ ∃y∈T,y.2=jau o)∧jaz o (objs F 0)=true
  pre: ∃E,T=(jaB F R).2.2++E
theorem done_of {F R:List Int}(hc:chkE F R=0){s:HSt}(h:HRun F ⟨0,0,(jaB F R).2.1,(jaB F R).2.2⟩ s)(hi:s.i=s.to.length):Done F R s.to s.T:=by
 obtain⟨c1,c2,c3,c4,c5⟩:=chk0 hc
 have h0:=HS.start (jdR c3 R fun w hw=>List.all_eq_true.1 c5 w hw)
 have hs:=h.hs c3 c4 h0
 have hcp:=h.cop c3 c4 h0 rfl
 refine⟨hi▸hs.inv,fun j o ho hn=>hcp j o ?_ ho hn,h.ext⟩
 have:=(List.getElem?_eq_some_iff.1 ho).1
 rw[hi,hs.inv.len];exact this
theorem jqR {F R:List Int}:(jaB F R).1=R.map (mapW (jaB F R).2.2)∧ ∀w∈R,jax w=true→ ∃y∈(jaB F R).2.2,y.2=jau w:=by
 refine jiS (P:=fun R=>(jaB F R).1=R.map (mapW (jaB F R).2.2)∧ ∀w∈R,jax w=true→ ∃y∈(jaB F R).2.2,y.2=jau w) ⟨rfl,fun w h=>by simp at h⟩ (fun R w ih=>?_) R
 obtain⟨i1,i2⟩:=ih
 rw[jc8]
 obtain⟨e,E,e1,e2⟩:=jgB F w (jaB F R).2.1 (jaB F R).2.2
 obtain⟨m1,m2⟩:=jrg F w (jaB F R).2.1 (jaB F R).2.2
 refine⟨?_,fun v hv hp=>?_⟩
 ·show (jaB F R).1++[_]=_
  rw[List.map_append,List.map_singleton,← m1,i1]
  congr 1
  rw[e2]
  exact List.map_congr_left fun v hv=>(ji8 (i2 v hv)).symm
 ·rcases List.mem_append.1 hv with hv|hv
  ·obtain⟨y,hy,e⟩:=i2 v hv hp
   exact⟨y,by show y∈(mvW F w _ _).2.2;rw[e2];exact List.mem_append_left _ hy,e⟩
  ·rw[List.mem_singleton.1 hv] at hp ⊢;exact m2 hp
theorem Done.roots {F R to:List Int}{T:List (Int×Int)}(h:Done F R to T):(jaB F R).1=R.map (mapW T)∧ ∀w∈R,jax w=true→ ∃y∈T,y.2=jau w:=by
 obtain⟨E,e⟩:=h.pre
 obtain⟨r1,r2⟩:=jqR (F:=F) (R:=R)
 rw[e]
 refine⟨?_,fun w hw hp=>?_⟩
 ·conv=>lhs;rw[r1]
  exact List.map_congr_left fun v hv=>(ji8 (r2 v hv)).symm
 ·obtain⟨y,hy,e⟩:=r2 w hw hp
  exact⟨y,List.mem_append_left _ hy,e⟩
theorem Done.words {F R to:List Int}{T:List (Int×Int)}(he:jaq F 0=F.length)(h:Done F R to T){k d:Nat}{x:Int×Int}(hx:T[k]?=some x)(h1:1≤d)(h2:d<osz F x.2.toNat): ∃o,F[x.2.toNat+d]?=some o∧to[ol F T k+d]?=some (mapW T o)∧(jax o=true→ ∃y∈T,y.2=jau o)∧jaz o (objs F 0)=true:=by
 have ho:=HS.obj he h.inv hx
 have hg:=jnA hx ho.2.2 h2
 obtain⟨o,e⟩: ∃o,F[x.2.toNat+d]?=some o:=⟨_,List.getElem?_eq_getElem (by omega)⟩
 rw[e] at hg
 obtain⟨a,b,c⟩:=h.cop _ o hg (no_head hx ho.2.2 h1 h2)
 exact⟨o,e,a,b,c⟩
theorem Done.osz {F R to:List Int}{T:List (Int×Int)}(he:jaq F 0=F.length)(h:Done F R to T){k:Nat}{x:Int×Int}(hx:T[k]?=some x):to[ol F T k]?=F[x.2.toNat]?∧ol F T k<to.length∧osz to (ol F T k)=osz F x.2.toNat∧ol F T (k+1)=ol F T k+osz F x.2.toNat:=by
 have ho:=HS.obj he h.inv hx
 have hh:to[ol F T k]?=F[x.2.toNat]?:=h.inv.head k x hx
 refine⟨hh,?_,by unfold Go.Proofs.YtjaahfncbechnaaGreatDoor.osz;rw[hh],ji4 hx ho.2.2⟩
 rw[List.getElem?_eq_getElem ho.2.1] at hh
 exact (List.getElem?_eq_some_iff.1 hh).1
theorem Done.objs {F R to:List Int}{T:List (Int×Int)}(he:jaq F 0=F.length)(h:Done F R to T): ∀(m k:Nat),T.length - k≤m→k≤T.length→Go.Proofs.YtjaahfncbechnaaGreatDoor.objs to (ol F T k)=(T.drop k).map (fun x=>x.1.toNat)∧jaq to (ol F T k)=to.length:=by
 intro m
 induction m with
 |zero=>
  intro k hm hk
  have e:k=T.length:=by omega
  subst e
  have hl:ol F T T.length=to.length:=by rw[jlJ (Nat.le_refl _),h.inv.len]
  rw[hl,Go.Proofs.YtjaahfncbechnaaGreatDoor.objs,jaq]
  simp
 |succ m ih=>
  intro k hm hk
  rcases Nat.lt_or_ge k T.length with hk'|hk'
  ·have hx:=List.getElem?_eq_getElem hk'
   obtain⟨o1,o2,o3,o4⟩:=h.osz he hx
   obtain⟨i1,i2⟩:=ih (k+1) (by omega) (by omega)
   have hs:Go.Proofs.YtjaahfncbechnaaGreatDoor.osz to (ol F T k)=1+lng to[ol F T k]:=by unfold Go.Proofs.YtjaahfncbechnaaGreatDoor.osz;rw[List.getElem?_eq_getElem o2];rfl
   have e:ol F T k+1+lng to[ol F T k]=ol F T (k+1):=by omega
   have ht:=h.inv.tos k _ hx
   rw[Go.Proofs.YtjaahfncbechnaaGreatDoor.objs,jaq]
   simp only[o2,dite_true,e,i1,i2]
   refine⟨?_,trivial⟩
   rw[List.drop_eq_getElem_cons hk',List.map_cons,ht]
   rfl
  ·have e:k=T.length:=by omega
   subst e
   have hl:ol F T T.length=to.length:=by rw[jlJ (Nat.le_refl _),h.inv.len]
   rw[hl,Go.Proofs.YtjaahfncbechnaaGreatDoor.objs,jaq]
   simp
theorem ol_zero {F:List Int}{T:List (Int×Int)}:ol F T 0=0:=rfl
theorem Done.objs0 {F R to:List Int}{T:List (Int×Int)}(he:jaq F 0=F.length)(h:Done F R to T):Go.Proofs.YtjaahfncbechnaaGreatDoor.objs to 0=T.map (fun x=>x.1.toNat)∧jaq to 0=to.length:=by
 have:=h.objs he _ 0 (Nat.le_refl _) (Nat.zero_le _)
 rwa [ol_zero,List.drop_zero] at this
theorem Done.to_lt {F R to:List Int}{T:List (Int×Int)}(he:jaq F 0=F.length)(h:Done F R to T){x:Int×Int}(hx:x∈T): ∃k,T[k]?=some x∧x.1=(ol F T k:Int)∧ol F T k<to.length:=by
 obtain⟨k,hk⟩:=List.getElem?_of_mem hx
 exact⟨k,hk,h.inv.tos k x hk,(h.osz he hk).2.1⟩
theorem box5 {n:Int}(h0:0≤n)(h1:n≤2000):unE (boxW 5 n)=0∧jaw (boxW 5 n)=5∧jau (boxW 5 n)=n∧jax (boxW 5 n)=true∧jdZ (boxW 5 n)=5∧boxE 5 n=0:=by
 have hE:boxE 5 n=0:=by
  unfold boxE
  rw[if_neg (by omega),if_neg (by omega),if_neg (by unfold loI hiI;simp;omega)]
 obtain⟨a,b,c,_⟩:=jnf hE (by omega) (by omega)
 exact⟨a,b,c,by simp[jax,a,b],by simp[jdZ,a,b],hE⟩
theorem Done.right {F R to:List Int}{T:List (Int×Int)}(he:jaq F 0=F.length)(hl:to.length≤2000)(h:Done F R to T){o:Int}(ho:jax o=true→ ∃y∈T,y.2=jau o)(hr:jaz o (Go.Proofs.YtjaahfncbechnaaGreatDoor.objs F 0)=true):jaz (mapW T o) (Go.Proofs.YtjaahfncbechnaaGreatDoor.objs to 0)=true:=by
 unfold mapW
 by_cases hp:jax o=false
 ·rw[if_pos hp]
  simp only[jaz,hp,Bool.not_false,Bool.true_or,Bool.and_true] at hr ⊢
  exact hr
 ·rw[if_neg hp]
  obtain⟨x,hx,e,hf⟩:=jgK (ho (by simpa using hp))
  simp only[hf]
  obtain⟨k,hk,e1,e2⟩:=h.to_lt he hx
  obtain⟨b1,b2,b3,b4,b5,_⟩:=box5 (n:=x.1) (by omega) (by omega)
  simp only[jaz,b3,b4,b5,Bool.not_true,Bool.false_or,Bool.and_eq_true,decide_eq_true_eq]
  refine⟨by omega,?_⟩
  rw[(h.objs0 he).1,List.map_map]
  exact List.mem_map.2 ⟨x,hx,by show Int.ofNat x.1.toNat=x.1;rw[e1];rfl⟩
theorem Done.check {F R to:List Int}{T:List (Int×Int)}(hc:chkE F R=0)(h:Done F R to T):chkE to (jaB F R).1=0:=by
 obtain⟨c1,c2,c3,c4,c5⟩:=chk0 hc
 have hsm:=h.inv.small c3
 unfold chkE
 rw[if_neg (by rw[jeR];omega),if_pos]
 refine⟨(h.objs0 c3).2,jdb.2 fun j hj=>?_,?_⟩
 ·unfold okAt
  by_cases hn:jhU F T j
  ·obtain⟨o,ho⟩: ∃o,(orig F T)[j]?=some o:=⟨_,List.getElem?_eq_getElem (by rw[←h.inv.len];exact hj)⟩
   obtain⟨a,b,c⟩:=h.cop j o ho hn
   have e:to[j]=mapW T o:=by rw[List.getElem?_eq_getElem hj] at a;injection a
   rw[e,h.right c3 (by omega) b c,Bool.or_true]
  ·have: ∃(k:Nat) (x:Int×Int),T[k]?=some x∧ol F T k=j:=Classical.byContradiction fun hx=>hn fun k x hk e=>hx ⟨k,x,hk,e⟩
   obtain⟨k,x,hk,e⟩:=this
   rw[decide_eq_true,Bool.true_or]
   rw[(h.objs0 c3).1]
   exact List.mem_map.2 ⟨x,List.mem_of_getElem? hk,by rw[h.inv.tos k x hk];show ((ol F T k:Nat):Int).toNat=j;omega⟩
 ·refine List.all_eq_true.2 fun w hw=>?_
  obtain⟨r1,r2⟩:=h.roots
  rw[r1] at hw
  obtain⟨v,hv,rfl⟩:=List.mem_map.1 hw
  exact h.right c3 (by omega) (r2 v hv) (List.all_eq_true.1 c5 v hv)
end
end Go.Proofs.YtjaahfncbechnaaGreatDoor
