/-
  AM's code of functions, written by am/amprint.lean.
-/
import Derived.KernelRfl
import Derived.Lib.Hide
import Derived.Test.YtlkapggcppcafaaGreatDoorMrT4
import Derived.Test.YtlkapggcppcafaaGreatDoorMrT6
import Derived.Test.YtlkapggcppcafaaGreatDoorMrT7
set_option linter.unusedVariables false
set_option maxHeartbeats 32000000
set_option linter.unusedSimpArgs false
open And renaming intro→P3
open Bool renaming not_eq_false'→P7,not_false→P8,not_true→P9,true_eq_false→S3,false_eq_true→N6,not_eq_false→S4,not_not→O0v,not_eq_true'→A9,and_self→O0z
open Int renaming eq_ofNat_of_zero_le→O1g,toNat_natCast→O0f
open List renaming getElem_of_mem→M3,set_cons_succ→S9,getElem?_set_ne→O0a,mem_append→O3,mem_singleton→X6,foldl_cons→O0t,mem_cons→A4,getD_eq_getElem?_getD→C0,getElem?_eq_getElem→U1,getElem_mem→M4,getElem?_eq_none→J1,filter_append→O0p,map_append→L3,length_map→P2,length_filter_le→O0n,replicate→O6,mem_map→U6,mem_filter→J7,take_succ_eq_append_getElem→X5,getD_cons_zero→S5,getD_cons_succ→S6,map_cons→B6,map_nil→O0w,append_nil→A0,length_cons→Q3,length_nil→G9,all_cons→O0x,all_nil→O0y,mapM_cons→Q7,mapM_nil→O1a,set_cons_zero→S8,append_assoc→M8,cons_append→N9,nil_append→B8,length_append→G3,take_zero→F3,take_succ_cons→F4,take_nil→O1c,drop_zero→W1,drop_succ_cons→W4,drop_nil→O1d,getElem?_cons_zero→F5,getElem?_cons_succ→Q5,mem_of_mem_take→M6,map_set→O1h,length_set→D5,length→O0d,take_of_length_le→I5,replicate_succ→A5,length_replicate→O0o,getElem?_append_right→N0,set_append_right→B7,findIdx?_eq_some_iff_getElem→Z7,mem_take_iff_getElem→O1i,findIdx?_eq_none_iff→Z5,all_eq_true→N2,getElem?_set→M1,filter_eq_self→O1j,length_take→C4,length_singleton→O1k,take_length→K7,take_left'→O1l,drop_replicate→O1n,getElem?_append_left→V5,take_left→K5,getElem?_map→U8,getD→E7,ext_getElem?→U7
open Nat renaming reduceEqDiff→X4,lt_add_one→O1b,reduceAdd→O1e,reduceLeDiff→X0,add_eq_zero_iff→F6,zero_add→C8,add_zero→M5,mul_one→O1f,le_refl→V2,sub_self→B4,add_sub_cancel_left→D8,min_eq_left→C7
open Option renaming bind_eq_bind→Q8,bind_some→Q9,pure_def→Q6,map_none→S7,map_some→U9
open Option.some renaming injEq→U4
open Prod.mk renaming injEq→O4
namespace Go.Proofs.YtlkapggcppcafaaGreatDoor
open AC renaming enter→O0u
open IntWalk renaming i64_in→Y5,u64_in→O1m
open Lib renaming hid→Z4
open Mods renaming ext→K4
open ZC renaming enter→Z9,enterL→K6
section
open Go Go.RowKit
def jkM:jam:=kks [kkI 4 (.mv kkn)] (.seq (kks [kkM 7 0,kkH 8 7,kkK 9 0] (jau 0 1 10 9 8 16 (kks [kkX 11 1 7 9,kkL 12 11,kkM 6 12] (kks [kkM 13 1,kkM 14 6,kkB 15 .eql 13 (kkt 14)] (kkr 15 [kkI 4 (.mv kky)]))))) (kks [kkI 4 (.mv kkn)] .ret))
theorem jrz:jag Tryz.prog 12=some ⟨17,jkM,[.tmp 4]⟩:=by kernel_rfl
def jnH:jam:=kks [kkI 4 (.mv kkn)] (.seq (kks [kkM 7 0,kkH 8 7,kkM 9 1,kkH 10 9,kkB 11 .neq 8 (kkt 10)] (kkr 11 [kkI 4 (.mv kkn)])) (.seq (kks [kkM 12 0,kkH 13 12,kkK 14 0] (jau 0 1 15 14 13 25 (kks [kkM 16 14,kkX 17 1 12 14,kkL 18 17,kkM 5 16,kkM 6 18] (kks [kkM 19 6,kkM 20 1,kkM 21 5,kkX 22 1 20 21,kkL 23 22,kkB 24 .neq 19 (kkt 23)] (kkr 24 [kkI 4 (.mv kkn)]))))) (kks [kkI 4 (.mv kky)] .ret)))
theorem juK:jag Tryz.prog 14=some ⟨26,jnH,[.tmp 4]⟩:=by kernel_rfl
def jnx:jam:=kks [kkI 2 (.box 2 (kkt 0)),kkI 4 (.mv (.av kkS))] (kkd [kkQ 6 2 2,kkA 7 0 2,kkL 8 7,kkH 9 8,kkI 10 (.mkSlice 1 1 [(.val (.bool false))] (kkt 9) (kkt 9)),kkI 11 (.build [kkS,kkS,kkS,kkS] [(0,2,(kkt 6)),(2,1,(kkt 10))]),kkI 12 (.box 4 (kkt 11)),kkM 5 12] (kks [kkM 13 5,kkM 14 1,kkC 15 112 [kkt 13,kkt 14]] (kks [kkM 16 5,kkC 17 113 [kkt 16]] (kks [kkM 18 5,kkN 19 18,kkA 20 2 19,kkL 21 20,kkM 4 21] .ret))))
theorem juA:jag Tryz.prog 76=some ⟨22,jnx,[.tmp 4]⟩:=by kernel_rfl
def jkD:jam:=kks [kkM 6 1,kkH 7 6,kkK 8 0] (jau 0 1 9 8 7 36 (kks [kkX 10 1 6 8,kkL 11 10,kkM 5 11] (kks [kkM 12 0,kkN 13 12,kkA 14 2 13,kkL 15 14,kkM 16 5,kkX 17 1 15 16,kkL 18 17,kkU 19 18] (.cond (kkt 19) (kks [kkM 20 0,kkN 21 20,kkA 22 2 21,kkL 23 22,kkM 24 5,kkX 25 1 23 24,⟨none,.store 1 (kkt 25) kky,none,true⟩] (.ops [kkM 26 0,kkM 27 0,kkN 28 27,kkA 29 3 28,kkL 30 29,kkM 31 5,kkI 32 (.lits 1 1 [kkZ 0] [(0,1,(kkt 31))]),kkI 33 (.append 1 8 (kkt 30) (kkt 32)),kkN 34 26,kkA 35 3 34,kkR 1 35 33])) .skip))))
theorem jrq:jag Tryz.prog 112=some ⟨37,jkD,[]⟩:=by kernel_rfl
def jqA:jam:= .block 0 (.loop (.seq (kks [kkM 3 0,kkN 4 3,kkA 5 3 4,kkL 6 5,kkH 7 6,kkB 8 .gtr 7 (kkV 0)] (.cond (kkt 8) .skip (.exit 0))) (.block 1 (kkd [kkM 9 0,kkN 10 9,kkA 11 3 10,kkL 12 11,kkM 13 0,kkN 14 13,kkA 15 3 14,kkL 16 15,kkH 17 16,kkB 18 .sub 17 (kkV 1),kkX 19 1 12 18,kkL 20 19,kkM 2 20] (kkd [kkM 21 0,kkM 22 0,kkN 23 22,kkA 24 3 23,kkL 25 24,kkM 26 0,kkN 27 26,kkA 28 3 27,kkL 29 28,kkH 30 29,kkB 31 .sub 30 (kkV 1),kkI 32 (.slice 1 (kkt 25) none (some (kkt 31)) none),kkN 33 21,kkA 34 3 33,kkR 1 34 32] (.ops [kkM 35 0,kkM 36 0,kkN 37 36,kkA 38 0 37,kkA 39 0 38,kkL 40 39,kkM 41 2,kkX 42 1 40 41,kkL 43 42,kkC 44 112 [kkt 35,kkt 43]]))))))
theorem f_wk_all:jag Tryz.prog 113=some ⟨45,jqA,[]⟩:=by kernel_rfl
end
section
open Go Go.RowKit
variable {tb:List (FuncId×Bool)}{nd:Bool}{fl:Nat→Bool}{h:Heap}{K:AV→Heap→Prop}
instance (N:Nat)(x:Int):Decidable (0≤x∧x<(N:Int)):=inferInstanceAs (Decidable (_∧_))
def jn7 (N:Nat)(l:List Int)(j:Nat):Prop:= ∀i (hi:i<l.length),i<j→0≤l[i]∧l[i]<(N:Int)
theorem jn7.zero {N:Nat}{l:List Int}:jn7 N l 0:=fun i _ h=>absurd h (by omega)
theorem jn7.succ {N:Nat}{l:List Int}{j:Nat}(h:jn7 N l j)(hj:j<l.length)(hx:0≤l[j]∧l[j]<(N:Int)):jn7 N l (j+1):=fun i hi hij=>by
 by_cases e:i=j
 ·subst e;exact hx
 ·exact h i hi (by omega)
theorem jn7.all {N:Nat}{l:List Int}(h:jn7 N l l.length): ∀x∈l,0≤x∧x<(N:Int):=fun x hx=>by
 obtain⟨i,hi,rfl⟩:=M3 hx;exact h i hi hi
def jvz (N:Nat)(ls:List (List Int))(j:Nat):Prop:= ∀i (hi:i<ls.length),i<j→ ∀x∈ls[i],0≤x∧x<(N:Int)
theorem jvz.succ {N:Nat}{ls:List (List Int)}{j:Nat}(h:jvz N ls j)(hj:j<ls.length)(hx:jn7 N ls[j] ls[j].length):jvz N ls (j+1):=fun i hi hij=>by
 by_cases e:i=j
 ·subst e;exact hx.all
 ·exact h i hi (by omega)
end
section
open Go Go.RowKit
def step (s:List Bool×List Int)(n:Int):List Bool×List Int:=if s.1.getD n.toNat false=true then s else (s.1.set n.toNat true,s.2++[n])
def jcd (s:List Bool×List Int)(l:List Int):List Bool×List Int:=l.foldl step s
def jc2 (l:List Bool):Nat:=l.countP (fun b=> !b)
theorem jqY {l:List Bool}{i:Nat}(hi:i<l.length)(h:l.getD i false=false):jc2 (l.set i true)+1=jc2 l:=by
 induction l generalizing i with
 |nil=>simp at hi
 |cons b l ih=>
  cases i with
  |zero=>
   simp at h;subst h;simp[jc2]
  |succ i=>
   have:=ih (i:=i) (by simpa using hi) (by simpa using h);simp only[jc2,S9,List.countP_cons] at*;omega
theorem jeO (s:List Bool×List Int)(n:Int):(step s n).1.length=s.1.length:=by
 unfold step;split<;>simp
theorem jq1 (s:List Bool×List Int)(n:Int)(h:n.toNat<s.1.length):(step s n).2.length+jc2 (step s n).1=s.2.length+jc2 s.1:=by
 unfold step;split
 ·rfl
 ·rename_i hn
  have:=jqY h (by simpa using hn);simp;omega
def Sn (l:List Bool)(n:Nat):Prop:=l.getD n false=true
def Cl (has:List (List Int))(P:Nat→Prop):Prop:= ∀n,P n→ ∀k∈has.getD n [],P k.toNat
theorem Sn_set {l:List Bool}{i n:Nat}(hi:i<l.length):Sn (l.set i true) n↔Sn l n∨n=i:=by
 unfold Sn;by_cases h:n=i
 ·subst h;simp[hi]
 ·simp[O0a (fun e=>h e.symm),h]
theorem jmD {s:List Bool×List Int}{x:Int}(hx:x.toNat<s.1.length)(n:Nat):Sn (step s x).1 n↔Sn s.1 n∨n=x.toNat:=by
 unfold step;split
 ·rename_i h
  constructor
  ·exact .inl
  ·rintro (h'|rfl)
   ·exact h'
   ·exact h
 ·exact Sn_set hx
theorem jgp {s:List Bool×List Int}{x:Int}(y:Int):y∈(step s x).2↔y∈s.2∨(y=x∧ ¬Sn s.1 x.toNat):=by
 unfold step;split
 ·rename_i h
  constructor
  ·exact .inl
  ·rintro (h'|⟨rfl,h'⟩)
   ·exact h'
   ·exact absurd h h'
 ·rename_i h
  simp only[O3,X6];constructor
  ·rintro (h'|rfl)
   ·exact .inl h'
   ·exact .inr ⟨rfl,h⟩
  ·rintro (h'|⟨rfl,_⟩)
   ·exact .inl h'
   ·exact .inr rfl
theorem jcO: ∀(l:List Int) (s:List Bool×List Int),(jcd s l).1.length=s.1.length
 |[],s=>rfl
 |x::l,s=>by
  have:=jcO l (step s x);unfold jcd at*;rw[O0t,this,jeO]
theorem jeS: ∀(l:List Int) (s:List Bool×List Int),(∀x∈l,x.toNat<s.1.length)→ ∀n,Sn (jcd s l).1 n↔Sn s.1 n∨ ∃x∈l,x.toNat=n
 |[],s,_,n=>by simp[jcd]
 |x::l,s,h,n=>by
  have:=jeS l (step s x) (fun y hy=>by rw[jeO];exact h y (by simp[hy])) n;unfold jcd at*;rw[O0t,this,jmD (h x (by simp))];simp only[A4,exists_eq_or_imp];constructor
  ·rintro ((h1|h1)|h1)
   ·exact .inl h1
   ·exact .inr (.inl h1.symm)
   ·exact .inr (.inr h1)
  ·rintro (h1|h1|h1)
   ·exact .inl (.inl h1)
   ·exact .inl (.inr h1.symm)
   ·exact .inr h1
theorem jf8: ∀(l:List Int) (s:List Bool×List Int),(∀x∈l,x.toNat<s.1.length)→(∀y,y∈s.2→y∈(jcd s l).2)∧(∀y∈(jcd s l).2,y∈s.2∨y∈l)∧
  (∀y∈l,¬ Sn s.1 y.toNat→ ∃z∈(jcd s l).2,z.toNat=y.toNat)
 |[],s,_=>by simp[jcd]
 |x::l,s,h=>by
  obtain⟨h1,h2,h3⟩:=jf8 l (step s x) (fun y hy=>by rw[jeO];exact h y (by simp[hy]));unfold jcd at*;rw[O0t];refine⟨fun y hy=>h1 y ((jgp y).2 (.inl hy)),fun y hy=>?_,fun y hy hn=>?_⟩
  ·rcases h2 y hy with h4|h4
   ·rcases (jgp y).1 h4 with h5|⟨rfl,_⟩
    ·exact .inl h5
    ·exact .inr (by simp)
   ·exact .inr (by simp[h4])
  ·by_cases hx:y.toNat=x.toNat
   ·by_cases hyx:y=x
    ·subst hyx
     exact⟨y,h1 y ((jgp y).2 (.inr ⟨rfl,hn⟩)),rfl⟩
    ·exact⟨x,h1 x ((jgp x).2 (.inr ⟨rfl,by rw[←hx];exact hn⟩)),hx.symm⟩
   ·rcases A4.1 hy with rfl|hy
    ·exact absurd rfl hx
    ·refine h3 y hy ?_
     rw[jmD (h x (by simp))];rintro (h4|h4)
     ·exact hn h4
     ·exact hx h4
structure AInv (has:List (List Int))(S0:Nat→Prop)(s:List Bool×List Int):Prop where
  sup: ∀n,S0 n→Sn s.1 n
  todo: ∀x∈s.2,0≤x∧x<s.1.length∧Sn s.1 x.toNat
  closed: ∀n,Sn s.1 n→(∃x∈s.2,x.toNat=n)∨ ∀k∈has.getD n [],Sn s.1 k.toNat
  least: ∀P,Cl has P→(∀n,S0 n→P n)→ ∀n,Sn s.1 n→P n
def jlz (has:List (List Int))(N:Nat):Prop:=has.length=N∧ ∀l∈has,∀ x∈l,0≤x∧x<N
theorem jlz.at {has:List (List Int)}{N:Nat}(h:jlz has N)(n:Nat): ∀x∈has.getD n [],0≤x∧x<N:=by
 intro x hx;by_cases hn:n<has.length
 ·rw[C0,U1 hn] at hx
  exact h.2 _ (M4 hn) x hx
 ·rw[C0,J1 (by omega)] at hx
  simp at hx
theorem AInv.next {has:List (List Int)}{S0:Nat→Prop}{sb:List Bool}{td:List Int}{x:Int}(hh:jlz has sb.length)(h:AInv has S0 (sb,td++[x])):AInv has S0 (jcd (sb,td) (has.getD x.toNat [])):=by
 have hr: ∀y∈has.getD x.toNat [],y.toNat<(sb,td).1.length:=fun y hy=>by have:=hh.at _ y hy;simp;omega
 have hs:=jeS (has.getD x.toNat []) (sb,td) hr;obtain⟨h1,h2,h3⟩:=jf8 (has.getD x.toNat []) (sb,td) hr;have hxs:=h.todo x (by simp);refine⟨fun n hn=>(hs n).2 (.inl (h.sup n hn)),fun y hy=>?_,fun n hn=>?_,fun P hP h0 n hn=>?_⟩
 ·rw[jcO]
  rcases h2 y hy with h4|h4
  ·have:=h.todo y (by simp at h4 ⊢;exact .inl h4)
   exact⟨this.1,this.2.1,(hs _).2 (.inl this.2.2)⟩
  ·have:=hh.at _ y h4
   exact⟨this.1,this.2,(hs _).2 (.inr ⟨y,h4,rfl⟩)⟩
 ·rcases (hs n).1 hn with h4|⟨y,hy,rfl⟩
  ·rcases h.closed n h4 with⟨z,hz,rfl⟩|h5
   ·simp only[O3,X6] at hz
    rcases hz with hz|rfl
    ·exact .inl ⟨z,h1 z hz,rfl⟩
    ·exact .inr fun k hk=>(hs _).2 (.inr ⟨k,hk,rfl⟩)
   ·exact .inr fun k hk=>(hs _).2 (.inl (h5 k hk))
  ·by_cases hy2:Sn sb y.toNat
   ·rcases h.closed _ hy2 with⟨z,hz,hzy⟩|h5
    ·simp only[O3,X6] at hz
     rcases hz with hz|rfl
     ·exact .inl ⟨z,h1 z hz,hzy⟩
     ·right
      rw[←hzy];exact fun k hk=>(hs _).2 (.inr ⟨k,hk,rfl⟩)
    ·exact .inr fun k hk=>(hs _).2 (.inl (h5 k hk))
   ·exact .inl (h3 y hy hy2)
 ·rcases (hs n).1 hn with h4|⟨y,hy,rfl⟩
  ·exact h.least P hP h0 n h4
  ·exact hP x.toNat (h.least P hP h0 _ hxs.2.2) y hy
theorem jed: ∀(l:List Int) (s:List Bool×List Int),(∀x∈l,x.toNat<s.1.length)→(jcd s l).2.length+jc2 (jcd s l).1=s.2.length+jc2 s.1
 |[],s,_=>rfl
 |x::l,s,h=>by
  have:=jed l (step s x) (fun y hy=>by rw[jeO];exact h y (by simp[hy]));unfold jcd at*;rw[O0t,this,jq1 _ _ (h x (by simp))]
def ja6 (sb:List Bool)(k:Nat):List Int:=((List.range k).filter (fun i=>sb.getD i false)).map Int.ofNat
def jcH (sb:List Bool):List Int:=ja6 sb sb.length
theorem jeR (sb:List Bool)(k:Nat):ja6 sb (k+1)=if sb.getD k false=true then ja6 sb k++[(k:Int)] else ja6 sb k:=by
 unfold ja6;rw[List.range_succ,O0p,L3];split
 ·rename_i h;rw[List.filter_cons_of_pos (p:=fun i=>sb.getD i false) h];rfl
 ·rename_i h;rw[List.filter_cons_of_neg (p:=fun i=>sb.getD i false) h];simp
theorem jdh (sb:List Bool)(k:Nat):(ja6 sb k).length≤k:=by
 unfold ja6;rw[P2];exact Nat.le_trans (O0n _ _) (by simp)
def Liv (has:List (List Int))(ps:List (Int×Int))(l:List Int)(n:Nat):Prop:=
  ∀P:Nat→Prop,Cl has P→(∀p∈ps,P p.1.toNat→P p.2.toNat)→(∀x∈l,P x.toNat)→P n
theorem Liv.cl (has:List (List Int))(ps:List (Int×Int))(l:List Int):Cl has (Liv has ps l):=fun n hn k hk P h1 h2 h3=>h1 n (hn P h1 h2 h3) k hk
theorem Liv.pair {has:List (List Int)}{ps:List (Int×Int)}{l:List Int}{p:Int×Int}(hp:p∈ps)(h:Liv has ps l p.1.toNat):Liv has ps l p.2.toNat:=fun P h1 h2 h3=>h2 p hp (h P h1 h2 h3)
theorem Liv.base {has:List (List Int)}{ps:List (Int×Int)}{l:List Int}{x:Int}(hx:x∈l):Liv has ps l x.toNat:=fun P h1 h2 h3=>h3 x hx
structure GInv (has:List (List Int))(L:Nat→Prop)(s:List Bool×List Int):Prop where
  todo: ∀x∈s.2,0≤x∧x<s.1.length∧Sn s.1 x.toNat
  closed: ∀n,Sn s.1 n→(∃x∈s.2,x.toNat=n)∨ ∀k∈has.getD n [],Sn s.1 k.toNat
  sub: ∀n,Sn s.1 n→L n
theorem GInv.toA {has:List (List Int)}{L:Nat→Prop}{s:List Bool×List Int}(h:GInv has L s):AInv has (Sn s.1) s:=
 ⟨fun _ h=>h,h.todo,h.closed,fun _ _ h0 n hn=>h0 n hn⟩
theorem GInv.ofA {has:List (List Int)}{L S0:Nat→Prop}{s:List Bool×List Int}(h:AInv has S0 s)(hL:Cl has L)(h0: ∀n,S0 n→L n):GInv has L s:=
 ⟨h.todo,h.closed,fun n hn=>h.least L hL h0 n hn⟩
theorem GInv.reach {has:List (List Int)}{L:Nat→Prop}{s:List Bool×List Int}{l:List Int}(h:GInv has L s)(hl: ∀x∈l,(0≤x∧x<(s.1.length:Int))∧L x.toNat):GInv has L (jcd s l):=by
 have hr: ∀y∈l,y.toNat<s.1.length:=fun y hy=>by have:=hl y hy;omega
 have hs:=jeS l s hr;obtain⟨h1,h2,h3⟩:=jf8 l s hr;refine⟨fun y hy=>?_,fun n hn=>?_,fun n hn=>?_⟩
 ·rw[jcO]
  rcases h2 y hy with h4|h4
  ·have:=h.todo y h4
   exact⟨this.1,this.2.1,(hs _).2 (.inl this.2.2)⟩
  ·have:=hl y h4
   exact⟨this.1.1,this.1.2,(hs _).2 (.inr ⟨y,h4,rfl⟩)⟩
 ·rcases (hs n).1 hn with h4|⟨y,hy,rfl⟩
  ·rcases h.closed n h4 with⟨z,hz,rfl⟩|h5
   ·exact .inl ⟨z,h1 z hz,rfl⟩
   ·exact .inr fun k hk=>(hs _).2 (.inl (h5 k hk))
  ·by_cases hy2:Sn s.1 y.toNat
   ·rcases h.closed _ hy2 with⟨z,hz,hzy⟩|h5
    ·exact .inl ⟨z,h1 z hz,hzy⟩
    ·exact .inr fun k hk=>(hs _).2 (.inl (h5 k hk))
   ·exact .inl (h3 y hy hy2)
 ·rcases (hs n).1 hn with h4|⟨y,hy,rfl⟩
  ·exact h.sub n h4
  ·exact (hl y hy).2
theorem jn6 (N n:Nat): ¬Sn (O6 N false) n:=by
 unfold Sn;rw[C0,List.getElem?_replicate];split<;>simp
theorem GInv.start (has:List (List Int))(L:Nat→Prop)(N:Nat):GInv has L (O6 N false,[]):=
 ⟨fun x hx=>absurd hx (by simp),fun n hn=>absurd hn (jn6 N n),fun n hn=>absurd hn (jn6 N n)⟩
structure LInv (has:List (List Int))(ps:List (Int×Int))(l:List Int)(sb:List Bool):Prop where
  base: ∀x∈l,Sn sb x.toNat
  clo:Cl has (Sn sb)
  sub: ∀n,Sn sb n→Liv has ps l n
theorem LInv.ofA {has:List (List Int)}{ps:List (Int×Int)}{l:List Int}{S0:Nat→Prop}{sb:List Bool}(h:AInv has S0 (sb,[]))(h0: ∀n,S0 n→Liv has ps l n)(hb: ∀x∈l,S0 x.toNat):LInv has ps l sb:=
 ⟨fun x hx => h.sup _ (hb x hx), fun n hn => by
  rcases h.closed n hn with⟨x,hx,_⟩|h1
  ·cases hx
  ·exact h1,fun n hn=>h.least _ (Liv.cl has ps l) h0 n hn⟩
theorem LInv.iff {has:List (List Int)}{ps:List (Int×Int)}{l:List Int}{sb:List Bool}(h:LInv has ps l sb)(hp: ∀p∈ps,Sn sb p.1.toNat→Sn sb p.2.toNat)(n:Nat):Sn sb n↔Liv has ps l n:=
 ⟨h.sub n,fun hn=>hn (Sn sb) h.clo hp h.base⟩
theorem je8 (N:Nat):jc2 (O6 N false)=N:=by simp[jc2,List.countP_replicate]
def pairIn (N:Nat)(p:Int×Int):Prop:=(0≤p.1∧p.1<(N:Int))∧(0≤p.2∧p.2<(N:Int))
instance (N:Nat)(p:Int×Int):Decidable (pairIn N p):=inferInstanceAs (Decidable (_∧_))
open Classical in
noncomputable def jef (has:List (List Int))(ps:List (Int×Int))(l:List Int):List Bool:=(List.range has.length).map (fun n=>decide (Liv has ps l n))
theorem jdW (has:List (List Int))(ps:List (Int×Int))(l:List Int):(jef has ps l).length=has.length:=by simp[jef]
theorem jn5 (has:List (List Int))(ps:List (Int×Int))(l:List Int)(n:Nat):Sn (jef has ps l) n↔n<has.length∧Liv has ps l n:=by
 unfold Sn jef;by_cases h:n<has.length
 ·simp[h]
 ·simp[h]
theorem Sn_lt {sb:List Bool}{n:Nat}(h:Sn sb n):n<sb.length:=by
 apply Decidable.byContradiction
 intro hn;unfold Sn at h;rw[C0,J1 (by omega)] at h
 cases h
theorem juZ {has:List (List Int)}{ps:List (Int×Int)}{l:List Int}{sb:List Bool}(hl:sb.length=has.length)(h: ∀n,Sn sb n↔Liv has ps l n):sb=jef has ps l:=by
 apply List.ext_getElem
 ·rw[jdW,hl]
 ·intro i h1 h2
  have a1:Sn sb i↔sb[i]=true:=by unfold Sn;simp[h1]
  have a2:Sn (jef has ps l) i↔(jef has ps l)[i]=true:=by
   unfold Sn;rw[C0,U1 h2];simp
  have a3:=jn5 has ps l i;have a4:=h i;have:(sb[i]=true)↔((jef has ps l)[i]=true):=by
   rw[←a1,← a2,a3,a4];constructor
   ·intro h5;exact⟨by omega,h5⟩
   ·intro h5;exact h5.2
  cases hA:sb[i]<;>cases hB:(jef has ps l)[i]<;>simp_all
theorem jfP {sb:List Bool}{k:Int}:k∈jcH sb↔0≤k∧Sn sb k.toNat:=by
 unfold jcH ja6;simp only[U6,J7,List.mem_range];constructor
 ·rintro⟨n,⟨hn,hs⟩,rfl⟩
  exact⟨by simp,by simpa[Sn] using hs⟩
 ·rintro⟨h1,h2⟩
  exact⟨k.toNat,⟨Sn_lt h2,h2⟩,by simp;omega⟩
theorem Liv.mono {has:List (List Int)}{ps ps':List (Int×Int)}{l l':List Int}(hp: ∀p∈ps,p∈ps')(hl: ∀x∈l,x∈l'){n:Nat}(h:Liv has ps l n):Liv has ps' l' n:=
 fun P h1 h2 h3=>h P h1 (fun p hp'=>h2 p (hp p hp')) (fun x hx=>h3 x (hl x hx))
theorem Liv.lt {has:List (List Int)}{ps:List (Int×Int)}{l:List Int}{n:Nat}(ho:jlz has has.length)(hp: ∀p∈ps,pairIn has.length p)(hl: ∀x∈l,0≤x∧x<(has.length:Int))(h:Liv has ps l n):n<has.length:=
 h (fun n=>n<has.length) (fun n _ k hk=>by have:=ho.at n k hk;omega) (fun p hp' _=>by have:=(hp p hp').2;omega) (fun x hx=>by have:=hl x hx;omega)
end
section
open Go Go.RowKit
variable {tb:List (FuncId×Bool)}{nd:Bool}{fl:Nat→Bool}{h:Heap}{K:AV→Heap→Prop}
structure RSt (h:Heap)(rp:Nat)(gh gr sv:AV)(sb:List Bool)(tv:AV)(td:List Int):Prop where
  rc:blk h rp=some [gh,gr,sv,tv]
  seen:BL h sv sb
  todo:OL h 1 tv (td.map I64) td.length
  d1:rp∉idOf sv
  d2:rp∉idOf tv
  d3: ∀i∈idOf sv,i∉idOf tv
theorem jon {s:List Bool×List Int}{l:List Int}{k:Nat}(hk:k<l.length):jcd s (l.take (k+1))=step (jcd s (l.take k)) l[k]:=by
 rw[X5 hk,jcd,List.foldl_append];rfl
structure Wri (fl:Nat→Bool)(h:Heap)(rp:Nat)(sv tv:AV):Prop where
  f1:fl rp=true
  f2: ∀i∈idOf sv,fl i=true
  f3: ∀i∈idOf tv,fl i=true
  f4: ∀i,h.length≤i→fl i=true
def RInv (h:Heap)(rp:Nat)(gh gr sv tv:AV)(s:List Bool×List Int)(h':Heap):Prop:=
  ∃tv',RSt h' rp gh gr sv s.1 tv' s.2∧Keep h h' (rp::(idOf sv++idOf tv))∧ ∀i∈idOf tv',i∈idOf tv∨h.length≤i
theorem jqb {rp:Nat}{gh gr sv tv lv:AV}{sb:List Bool}{td l:List Int}(hR:RSt h rp gh gr sv sb tv td)(hl:IL h lv l)(hli: ∀i∈idOf lv,i∉rp::(idOf sv++idOf tv))(hb: ∀x∈l,0≤x∧x<(sb.length:Int))(hlen:l.length≤1000000)
  (hbd:td.length+jc2 sb≤1000000) (hW:Wri fl h rp sv tv)
  (hK: ∀h' tv',RSt h' rp gh gr sv (jcd (sb,td) l).1 tv' (jcd (sb,td) l).2→Keep h h' (rp::(idOf sv++idOf tv))→(∀i∈idOf tv',i∈idOf tv∨h.length≤i)→K (.tuple []) h'):
  AC (XC tb nd) (jag Tryz.prog) 112 [.ptr rp 0,lv] fl h K:=by
 refine O0u rfl jrq (by simp) ?_;simp only[jkD,kkP];have hln:=hl.len;repeat' (first|(simp only[jct,jcQ,jcf,jb8,jbl,jb7,jc9,jb6,jbL,ja7,jcu,jbM,jaV,jaQ,jar,ja5,jbH,jaG,jaI,jbe,jeK,jcg,jdb,jb9,jbt,jch,jbp,jaF,jbC,jaC,jbd,jaW,jcY,jbs,jbb,jbG,jeJ,jcj,jbF,jaD,jaB,jaL,jbE,jbD,jaS,jaT,jci,jbN,jaP,jaH,jbc,jda,jba,jaU,jbI,jbV,jcL,jeq,jb1,jb2,jb3,jb4,jb5,jbZ,jbT,jbY,jb0,jcW,jaN,P7,O4,and_assoc,decide_false,decide_true,P8,P9,S3,N6,exists_false,S4,O0v,AV.val.injEq,AV.ptr.injEq,AV.slice.injEq,AV.func.injEq,AV.tuple.injEq,AV.agg.injEq,Value.bool.injEq,Value.int.injEq,U4,exists_eq_left',exists_eq_left,exists_and_left,exists_and_right,and_true,true_and,decide_eq_true_eq,decide_eq_false_iff_not,if_true,if_false,A9,beq_true,beq_false,ne_eq,not_true_eq_false,not_false_eq_true,reduceCtorEq,S5,S6,B6,O0w,A0,X4,reduceIte,ite_true,ite_false,or_true,true_or,or_false,false_or,resA,jaR,true_imp_iff,false_imp_iff,implies_true,imp_false,and_self,imp_self,and_false,false_and,forall_const,jbJ,jbK,ja0,jbj,jbi,jbh,jbf,jbg,jaO,jaY,jaX,jaZ,Q3,G9,O0x,O0y,O0z,ldA,Q7,O1a,Q8,Q9,Q6,S7,U9,S8,S9,O1b,M8,N9,B8,A0,G3,jdj,jdi,jdl,jdk,jem,jeT,jen,jeU,jcX,F3,F4,O1c,W1,W4,O1d,F5,Q5,O1e,X0,F6,and_self,C8,M5,O1f,hln, *])|(simp only[goO,ja7,jar,goC])|(with_reducible apply P3)|(with_reducible intro _))
 refine AW.named fun S hS=>?_
 have g0:S 0= .ptr rp 0:=by rw[hS];rfl
 have g6:S 6=lv:=by rw[hS];rfl
 have g7:S 7=I64 l.length:=by rw[hS];rfl
 have g8:S 8=I64 (0:Nat):=by rw[hS];rfl
 clear hS hln;refine AW_for l.length (by omega) g8 g7 rfl rfl (by decide) (fun k s' h'=>RInv h rp gh gr sv tv (jcd (sb,td) (l.take k)) h') ⟨tv,hR,Keep.refl _,fun i hi=> .inl hi⟩ ?_ ?_
 ·rintro k s' h' hk ⟨tv1,hR1,hkp,hti⟩ hi hl' hs
  have f0:=(hs 0 rfl).trans g0;have f6:=(hs 6 rfl).trans g6;clear hs g0 g6 g7 g8;obtain⟨id,off,lb,ex,rfl,hlb,hrd⟩:=(hl.keep hkp hli).at hk;rw[jon hk];have hbk:=hb _ (M4 hk);have b1:=jcO (l.take k) (sb,td);have b2:=jed (l.take k) (sb,td) (fun x hx=>by have:=hb x (M6 hx);simp;omega);obtain⟨⟨sb1,td1⟩,hst⟩: ∃st,st=jcd (sb,td) (l.take k):=⟨_,rfl⟩;rw[←hst] at hR1 b1 b2 ⊢;clear hst;obtain⟨m,hm⟩:=O1g hbk.1;rw[hm] at hrd hbk ⊢;clear hm;dsimp only at b1 b2 hR1;have hm1:m<sb1.length:=by omega
  obtain⟨rc,hseen,htodo,d1,d2,d3⟩:=hR1;obtain⟨sid,soff,slb,sex,hsv,hslb,hsrd⟩:=hseen.at hm1;have hseen':=hseen
  cases hbm:sb1[m] with
  |true=>
   have e:step (sb1,td1) (m:Nat)=(sb1,td1):=by unfold step;rw[if_pos];simp[hm1,hbm]
   have fin:RInv h rp gh gr sv tv (step (sb1,td1) (m:Nat)) h':=by rw[e];exact⟨tv1,⟨rc,hseen,htodo,d1,d2,d3⟩,hkp,hti⟩
   rw[hbm] at hsrd;subst hsv;clear b1 e;repeat' (first|(simp only[jct,jcQ,jcf,jb8,jbl,jb7,jc9,jb6,jbL,ja7,jcu,jbM,jaV,jaQ,jar,ja5,jbH,jaG,jaI,jbe,jeK,jcg,jdb,jb9,jbt,jch,jbp,jaF,jbC,jaC,jbd,jaW,jcY,jbs,jbb,jbG,jeJ,jcj,jbF,jaD,jaB,jaL,jbE,jbD,jaS,jaT,jci,jbN,jaP,jaH,jbc,jda,jba,jaU,jbI,jbV,jcL,jeq,jb1,jb2,jb3,jb4,jb5,jbZ,jbT,jbY,jb0,jcW,jaN,P7,O4,and_assoc,decide_false,decide_true,P8,P9,S3,N6,exists_false,S4,O0v,AV.val.injEq,AV.ptr.injEq,AV.slice.injEq,AV.func.injEq,AV.tuple.injEq,AV.agg.injEq,Value.bool.injEq,Value.int.injEq,U4,exists_eq_left',exists_eq_left,exists_and_left,exists_and_right,and_true,true_and,decide_eq_true_eq,decide_eq_false_iff_not,if_true,if_false,A9,beq_true,beq_false,ne_eq,not_true_eq_false,not_false_eq_true,reduceCtorEq,S5,S6,B6,O0w,A0,X4,reduceIte,ite_true,ite_false,or_true,true_or,or_false,false_or,resA,jaR,true_imp_iff,false_imp_iff,implies_true,imp_false,and_self,imp_self,and_false,false_and,forall_const,jbJ,jbK,ja0,jbj,jbi,jbh,jbf,jbg,jaO,jaY,jaX,jaZ,Q3,G9,O0x,O0y,O0z,ldA,Q7,O1a,Q8,Q9,Q6,S7,U9,S8,S9,O1b,M8,N9,B8,A0,G3,jdj,jdi,jdl,jdk,jem,jeT,jen,jeU,jcX,F3,F4,O1c,W1,W4,O1d,F5,Q5,O1e,X0,F6,and_self,C8,M5,O1f,hrd,hsrd,jiE rc,jaN, *])|(simp only[goO,ja7,jar,goC])|(with_reducible apply P3)|(with_reducible intro _))
  |false=>
   rw[hbm] at hsrd;have e:step (sb1,td1) (m:Nat)=(sb1.set m true,td1++[(m:Int)]):=by unfold step;rw[if_neg];rfl;simp[hm1,hbm]
   have w3: ∀i∈idOf tv1,fl i=true:=fun i hi=>(hti i hi).elim (hW.f3 i) (hW.f4 i)
   obtain⟨sid',soff',slb',sex',h1,hsv',hw1,hs1,hk1,hl1⟩:=Sl.set1 (fl:=fl) (x:=BV true) hseen hm1 hW.f2;rw[hsv] at hsv';injection hsv' with q1 q2 _ q4 q5 _
   subst q1;subst q2;subst q4;subst q5
   have rc1:=hk1.get d1 rc;obtain⟨tv2,h2,hap,ho2,hk2,hti2,hl2⟩:=jn1 (fl:=fl) (bytes:=8) (m:=1) (new:=[I64 m]) (OL.keepK (h':=h1++[some [I64 m]]) htodo ⟨by simp;omega,fun i row hi hr=>jcq _ (hk1.2 i row hi hr)⟩ (fun i hi hm=>d3 i hm hi)) w3 (by omega) rfl (by unfold reach;omega);have rc2:=hk2 rp _ d2 (jcq _ rc1);obtain⟨h3,hw3,rc3,hk3,hl3⟩:=jtc (fl:=fl) (off:=3) (v:=tv2) rc2 hW.f1 (by simp);have htc:=ho2.sl.cell;have hrow:jdN (h1++[some [I64 m]]) 1 (.slice h1.length 0 1 1 true 1)=some (1,[I64 m]):=by simp[jdN,jem,jen]
   have d4:rp∉idOf tv2:=fun hm=>(hti2 rp hm).elim (fun q=>d2 q) (fun q=>by have:=jcm rc1;simp at q;omega)
   have d5: ∀i∈idOf sv,i∉idOf tv2:=fun i hi hm=>(hti2 i hm).elim (fun q=>d3 i hi q) (fun q=>by have:=hs1.lt i hi;simp at q;omega)
   have fin:RInv h rp gh gr sv tv (step (sb1,td1) (m:Nat)) h3:=by
    rw[e];refine⟨tv2,⟨rc3,?_,?_,d1,d4,d5⟩,?_,?_⟩
    ·show Sl _ _ _ ((sb1.set m true).map BV) (sb1.set m true).length
     rw[O1h,D5];exact hs1.cong fun i off lb ex row q hr=>by
      have hi:i∈idOf sv:=by rw[q];simp[idOf]
      rw[hk3 i (fun q=>d1 (q▸hi))];exact hk2 i row (d3 i hi) (jcq _ hr)
    ·simp only[L3,B6,O0w,G3,Q3,G9]
     exact ho2.keep fun i row hi hr=>by rw[hk3 i (fun q=>d4 (q▸hi))];exact hr
    ·have a2:Keep h1 h2 (idOf tv1):=⟨by simp at hl2;omega,fun i row hi hr=>hk2 i row hi (jcq _ hr)⟩
     have a3:Keep h2 h3 [rp]:=⟨by omega,fun i row hi hr=>by rw[hk3 i (by simpa using hi)];exact hr⟩;have t1: ∀i∈rp::(idOf sv++idOf tv),i∈rp::(idOf sv++idOf tv)∨O0d h≤i:=fun i hi=> .inl hi
     refine ((hkp.then hk1 t1 fun i hi=> .inl (by simp[hi])).then a2 t1 fun i hi=>?_).then a3 t1 fun i hi=> .inl (by simp at hi;simp[hi])
     exact (hti i hi).elim (fun q=> .inl (by simp[q])) .inr
    ·intro i hi
     have:=hkp.1;rcases hti2 i hi with q|q
     ·exact hti i q
     ·simp at q;omega
   subst hsv;clear b1 e rc2 rc3 hl1 hl2 hl3;repeat' (first|(simp only[jct,jcQ,jcf,jb8,jbl,jb7,jc9,jb6,jbL,ja7,jcu,jbM,jaV,jaQ,jar,ja5,jbH,jaG,jaI,jbe,jeK,jcg,jdb,jb9,jbt,jch,jbp,jaF,jbC,jaC,jbd,jaW,jcY,jbs,jbb,jbG,jeJ,jcj,jbF,jaD,jaB,jaL,jbE,jbD,jaS,jaT,jci,jbN,jaP,jaH,jbc,jda,jba,jaU,jbI,jbV,jcL,jeq,jb1,jb2,jb3,jb4,jb5,jbZ,jbT,jbY,jb0,jcW,jaN,P7,O4,and_assoc,decide_false,decide_true,P8,P9,S3,N6,exists_false,S4,O0v,AV.val.injEq,AV.ptr.injEq,AV.slice.injEq,AV.func.injEq,AV.tuple.injEq,AV.agg.injEq,Value.bool.injEq,Value.int.injEq,U4,exists_eq_left',exists_eq_left,exists_and_left,exists_and_right,and_true,true_and,decide_eq_true_eq,decide_eq_false_iff_not,if_true,if_false,A9,beq_true,beq_false,ne_eq,not_true_eq_false,not_false_eq_true,reduceCtorEq,S5,S6,B6,O0w,A0,X4,reduceIte,ite_true,ite_false,or_true,true_or,or_false,false_or,resA,jaR,true_imp_iff,false_imp_iff,implies_true,imp_false,and_self,imp_self,and_false,false_and,forall_const,jbJ,jbK,ja0,jbj,jbi,jbh,jbf,jbg,jaO,jaY,jaX,jaZ,Q3,G9,O0x,O0y,O0z,ldA,Q7,O1a,Q8,Q9,Q6,S7,U9,S8,S9,O1b,M8,N9,B8,A0,G3,jdj,jdi,jdl,jdk,jem,jeT,jen,jeU,jcX,F3,F4,O1c,W1,W4,O1d,F5,Q5,O1e,X0,F6,and_self,C8,M5,O1f,hrd,hsrd,jiE rc,jiE rc1,jaN,hw1,hrow,hap,hw3, *])|(simp only[goO,ja7,jar,goC])|(with_reducible apply P3)|(with_reducible intro _))
 ·rintro s' h' ⟨tv1,hR1,hkp,hti⟩ hs
  rw[I5 (V2 _)] at hR1;have:=hK h' tv1 hR1 hkp hti;clear hs;repeat' (first|(simp only[jct,jcQ,jcf,jb8,jbl,jb7,jc9,jb6,jbL,ja7,jcu,jbM,jaV,jaQ,jar,ja5,jbH,jaG,jaI,jbe,jeK,jcg,jdb,jb9,jbt,jch,jbp,jaF,jbC,jaC,jbd,jaW,jcY,jbs,jbb,jbG,jeJ,jcj,jbF,jaD,jaB,jaL,jbE,jbD,jaS,jaT,jci,jbN,jaP,jaH,jbc,jda,jba,jaU,jbI,jbV,jcL,jeq,jb1,jb2,jb3,jb4,jb5,jbZ,jbT,jbY,jb0,jcW,jaN,P7,O4,and_assoc,decide_false,decide_true,P8,P9,S3,N6,exists_false,S4,O0v,AV.val.injEq,AV.ptr.injEq,AV.slice.injEq,AV.func.injEq,AV.tuple.injEq,AV.agg.injEq,Value.bool.injEq,Value.int.injEq,U4,exists_eq_left',exists_eq_left,exists_and_left,exists_and_right,and_true,true_and,decide_eq_true_eq,decide_eq_false_iff_not,if_true,if_false,A9,beq_true,beq_false,ne_eq,not_true_eq_false,not_false_eq_true,reduceCtorEq,S5,S6,B6,O0w,A0,X4,reduceIte,ite_true,ite_false,or_true,true_or,or_false,false_or,resA,jaR,true_imp_iff,false_imp_iff,implies_true,imp_false,and_self,imp_self,and_false,false_and,forall_const,jbJ,jbK,ja0,jbj,jbi,jbh,jbf,jbg,jaO,jaY,jaX,jaZ,Q3,G9,O0x,O0y,O0z,ldA,Q7,O1a,Q8,Q9,Q6,S7,U9,S8,S9,O1b,M8,N9,B8,A0,G3,jdj,jdi,jdl,jdk,jem,jeT,jen,jeU,jcX,F3,F4,O1c,W1,W4,O1d,F5,Q5,O1e,X0,F6,and_self,C8,M5,O1f, *])|(simp only[goO,ja7,jar,goC])|(with_reducible apply P3)|(with_reducible intro _))
theorem all_am {h0:Heap}{rp:Nat}{gh gr sv tv:AV}{has:List (List Int)}{sb:List Bool}{td:List Int}{S0:Nat→Prop}(hR:RSt h rp gh gr sv sb tv td)(hA:AInv has S0 (sb,td))(hok:jlz has sb.length)(hh0:Keep h0 h [])(hL:LL h0 gh has)
  (hge: ∀i∈rp::(idOf sv++idOf tv),h0.length≤i) (hls: ∀l∈has,l.length≤1000) (hbd:td.length+jc2 sb≤1000000) (hW:Wri fl h rp sv tv)
  (hK: ∀h' tv' sb',RSt h' rp gh gr sv sb' tv' []→AInv has S0 (sb',[])→Keep h h' (rp::(idOf sv++idOf tv))→(∀i∈idOf tv',i∈idOf tv∨h.length≤i)→K (.tuple []) h'):
  AC (XC tb nd) (jag Tryz.prog) 113 [.ptr rp 0] fl h K:=by
 refine O0u rfl f_wk_all (by simp) ?_;simp only[jqA,kkP];rw[jbl];refine AW.named fun S hS=>?_
 have g0:S 0= .ptr rp 0:=by rw[hS];rfl
 clear hS;refine jlY (fun n s' h'=> ∃st,n=st.2.length+jc2 st.1∧n≤1000000∧st.1.length=sb.length∧AInv has S0 st∧RInv h rp gh gr sv tv st h') (td.length+jc2 sb) ⟨(sb,td),rfl,hbd,rfl,hA,tv,hR,Keep.refl _,fun i hi=> .inl hi⟩ ?_;rintro n s' h' ⟨⟨sb1,td1⟩,hn,hnb,hsl,hA1,tv1,hR1,hkp,hti⟩ hs;have f0:=(hs 0 (by decide)).trans g0;dsimp only at hn hsl hR1;clear hs g0;obtain⟨rc,hseen,htodo,d1,d2,d3⟩:=hR1;rcases List.eq_nil_or_concat td1 with rfl|⟨td0,x,rfl⟩
 ·have hlt:=htodo.len
  have fin:=hK h' tv1 sb1 ⟨rc,hseen,htodo,d1,d2,d3⟩ hA1 hkp hti;clear hn hsl;repeat' (first|(simp only[jct,jcQ,jcf,jb8,jbl,jb7,jc9,jb6,jbL,ja7,jcu,jbM,jaV,jaQ,jar,ja5,jbH,jaG,jaI,jbe,jeK,jcg,jdb,jb9,jbt,jch,jbp,jaF,jbC,jaC,jbd,jaW,jcY,jbs,jbb,jbG,jeJ,jcj,jbF,jaD,jaB,jaL,jbE,jbD,jaS,jaT,jci,jbN,jaP,jaH,jbc,jda,jba,jaU,jbI,jbV,jcL,jeq,jb1,jb2,jb3,jb4,jb5,jbZ,jbT,jbY,jb0,jcW,jaN,P7,O4,and_assoc,decide_false,decide_true,P8,P9,S3,N6,exists_false,S4,O0v,AV.val.injEq,AV.ptr.injEq,AV.slice.injEq,AV.func.injEq,AV.tuple.injEq,AV.agg.injEq,Value.bool.injEq,Value.int.injEq,U4,exists_eq_left',exists_eq_left,exists_and_left,exists_and_right,and_true,true_and,decide_eq_true_eq,decide_eq_false_iff_not,if_true,if_false,A9,beq_true,beq_false,ne_eq,not_true_eq_false,not_false_eq_true,reduceCtorEq,S5,S6,B6,O0w,A0,X4,reduceIte,ite_true,ite_false,or_true,true_or,or_false,false_or,resA,jaR,true_imp_iff,false_imp_iff,implies_true,imp_false,and_self,imp_self,and_false,false_and,forall_const,jbJ,jbK,ja0,jbj,jbi,jbh,jbf,jbg,jaO,jaY,jaX,jaZ,Q3,G9,O0x,O0y,O0z,ldA,Q7,O1a,Q8,Q9,Q6,S7,U9,S8,S9,O1b,M8,N9,B8,A0,G3,jdj,jdi,jdl,jdk,jem,jeT,jen,jeU,jcX,F3,F4,O1c,W1,W4,O1d,F5,Q5,O1e,X0,F6,and_self,C8,M5,O1f,jiE rc,hlt, *])|(simp only[goO,ja7,jar,goC])|(with_reducible apply P3)|(with_reducible intro _))
  ·exfalso;rename_i hz;exact absurd hz (by simp)
 ·simp only[List.concat_eq_append] at*
  have hx:=hA1.todo x (by simp);obtain⟨m,rfl⟩:=O1g hx.1;have hm1:m<has.length:=by rw[hok.1];have:=hx.2.1;dsimp only at this;omega
  have hlen:(td0++[(m:Int)]).length=td0.length+1:=by simp
  obtain⟨tid,toff,tlb,tex,htv,htlb,htrd⟩:=(show IL h' tv1 (td0++[(m:Int)]) from htodo.sl).at (j:=td0.length) (by simp);rw[List.getElem_append_right (V2 _)] at htrd;simp only[B4,List.getElem_cons_zero] at htrd;have hlt:=htodo.len;have htodo':=htodo;rw[hlen] at hlt;rw[hlen,L3] at htodo';obtain⟨tv2,hsl2,ho2,hid2⟩:=htodo'.pop rfl;have w3: ∀i∈idOf tv1,fl i=true:=fun i hi=>(hti i hi).elim (hW.f3 i) (hW.f4 i)
  obtain⟨h1,hw1,rc1,hk1,hl1⟩:=jtc (fl:=fl) (off:=3) (v:=tv2) rc hW.f1 (by simp);have hwr:IntKind.i64.wrap (((td0.length+1:Nat):Int) - 1)=(td0.length:Nat):=by rw[Y5 _ (by omega)];omega
  have htc:=ho2.sl.cell;have k1:Keep h' h1 [rp]:=⟨by omega,fun i row hi hr=>by rw[hk1 i (by simpa using hi)];exact hr⟩;have k2:Keep h0 h1 []:=(hh0.then hkp (fun i hi=> .inl hi) (fun i hi=> .inr (hge i hi))).then k1 (fun i hi=> .inl hi) (fun i hi=> .inr (hge i (by simp at hi;simp[hi])));obtain⟨gid,goff,glb,gex,u,hgh,hglb,hgrd0,hu0⟩:=hL.at hm1;have hgrd:=k2.rd1 (by simp) hgrd0;have hu:=hu0.keep k2 (fun i _=>by simp);have hlu: ∀i∈idOf u,i<h0.length:=Sl.lt hu0;have hb2:td0.length+jc2 sb1<n:=by rw[hn];simp
  have hok1:jlz has sb1.length:=by rw[hsl];exact hok
  have hget:has.getD m []=has[m]:=by simp[hm1]
  have hAn:=AInv.next hok1 hA1;simp only[O0f,hget] at hAn;have hw4:=hkp.1;have hR2:RSt h1 rp gh gr sv sb1 tv2 td0:=⟨rc1,hseen.keep k1 (fun i hi hm=>d1 (by simp at hm;rw[←hm];exact hi)),by simpa using ho2.keepK k1 (fun i hi hm=>by rw[hid2] at hi;simp at hm;exact d2 (hm▸hi)),d1,by rw[hid2];exact d2,by rw[hid2];exact d3⟩;have hW2:Wri fl h1 rp sv tv2:=⟨hW.f1,hW.f2,by rw[hid2];exact w3,fun i hi=>hW.f4 i (by omega)⟩;have hbu: ∀x∈has[m],0≤x∧x<(sb1.length:Int):=fun x hx=>hok1.2 _ (M4 _) x hx
  have hlu1:has[m].length≤1000:=hls _ (M4 _);have hli: ∀i∈idOf u,i∉rp::(idOf sv++idOf tv2):=fun i hi hm=>by
   have a:=hlu i hi;rw[hid2] at hm;simp only[A4,O3] at hm;rcases hm with rfl|hm|hm
   ·have:=hge _ (List.mem_cons_self ..);omega
   ·have:=hge i (by simp[hm]);omega
   ·rcases hti i hm with q|q
    ·have:=hge i (by simp[q]);omega
    ·have:=hh0.1;omega
  have hgo: ∀h2 tv3,RSt h2 rp gh gr sv (jcd (sb1,td0) has[m]).1 tv3 (jcd (sb1,td0) has[m]).2→Keep h1 h2 (rp::(idOf sv++idOf tv2))→(∀i∈idOf tv3,i∈idOf tv2∨h1.length≤i)→
    ∃n',n'<n∧ ∃st,n'=st.2.length+jc2 st.1∧n'≤1000000∧st.1.length=sb.length∧AInv has S0 st∧RInv h rp gh gr sv tv st h2:=fun h2 tv3 r1 r2 r3=>by
   have hbd2:=jed has[m] (sb1,td0) (fun x hx=>by have:=hbu x hx;simp;omega);have hll:=jcO has[m] (sb1,td0);dsimp only at hbd2 hll;have t1: ∀i∈rp::(idOf sv++idOf tv),i∈rp::(idOf sv++idOf tv)∨O0d h≤i:=fun i hi=> .inl hi
   refine⟨_,by omega,jcd (sb1,td0) has[m],rfl,by omega,by omega,hAn,tv3,r1,(hkp.then k1 t1 (fun i hi=> .inl (by simp at hi;simp[hi]))).then r2 t1 (fun i hi=>?_),fun i hi=>?_⟩
   ·rw[hid2] at hi
    simp only[A4,O3] at hi ⊢;rcases hi with q|q|q
    ·exact .inl (.inl q)
    ·exact .inl (.inr (.inl q))
    ·exact (hti i q).elim (fun q=> .inl (.inr (.inr q))) .inr
   ·rcases r3 i hi with q|q
    ·rw[hid2] at q;exact hti i q
    ·exact .inr (by omega)
  rw[hlen] at htv;subst htv hgh;clear hk1 hl1 hsl hn;repeat' (first|(simp only[jct,jcQ,jcf,jb8,jbl,jb7,jc9,jb6,jbL,ja7,jcu,jbM,jaV,jaQ,jar,ja5,jbH,jaG,jaI,jbe,jeK,jcg,jdb,jb9,jbt,jch,jbp,jaF,jbC,jaC,jbd,jaW,jcY,jbs,jbb,jbG,jeJ,jcj,jbF,jaD,jaB,jaL,jbE,jbD,jaS,jaT,jci,jbN,jaP,jaH,jbc,jda,jba,jaU,jbI,jbV,jcL,jeq,jb1,jb2,jb3,jb4,jb5,jbZ,jbT,jbY,jb0,jcW,jaN,P7,O4,and_assoc,decide_false,decide_true,P8,P9,S3,N6,exists_false,S4,O0v,AV.val.injEq,AV.ptr.injEq,AV.slice.injEq,AV.func.injEq,AV.tuple.injEq,AV.agg.injEq,Value.bool.injEq,Value.int.injEq,U4,exists_eq_left',exists_eq_left,exists_and_left,exists_and_right,and_true,true_and,decide_eq_true_eq,decide_eq_false_iff_not,if_true,if_false,A9,beq_true,beq_false,ne_eq,not_true_eq_false,not_false_eq_true,reduceCtorEq,S5,S6,B6,O0w,A0,X4,reduceIte,ite_true,ite_false,or_true,true_or,or_false,false_or,resA,jaR,true_imp_iff,false_imp_iff,implies_true,imp_false,and_self,imp_self,and_false,false_and,forall_const,jbJ,jbK,ja0,jbj,jbi,jbh,jbf,jbg,jaO,jaY,jaX,jaZ,Q3,G9,O0x,O0y,O0z,ldA,Q7,O1a,Q8,Q9,Q6,S7,U9,S8,S9,O1b,M8,N9,B8,A0,G3,jdj,jdi,jdl,jdk,jem,jeT,jen,jeU,jcX,F3,F4,O1c,W1,W4,O1d,F5,Q5,O1e,X0,F6,and_self,C8,M5,O1f,jiE rc,jiE rc1,hlt,hwr,htrd,hsl2,hw1,jaN, *])|(simp only[goO,ja7,jar,goC])|(with_reducible apply P3)|(with_reducible intro _))
  ·refine jqb hR2 hu hli hbu (by omega) (by omega) hW2 fun h2 tv3 r1 r2 r3=>?_
   have fin:=hgo h2 tv3 r1 r2 r3;clear hgo;repeat' (first|(simp only[jct,jcQ,jcf,jb8,jbl,jb7,jc9,jb6,jbL,ja7,jcu,jbM,jaV,jaQ,jar,ja5,jbH,jaG,jaI,jbe,jeK,jcg,jdb,jb9,jbt,jch,jbp,jaF,jbC,jaC,jbd,jaW,jcY,jbs,jbb,jbG,jeJ,jcj,jbF,jaD,jaB,jaL,jbE,jbD,jaS,jaT,jci,jbN,jaP,jaH,jbc,jda,jba,jaU,jbI,jbV,jcL,jeq,jb1,jb2,jb3,jb4,jb5,jbZ,jbT,jbY,jb0,jcW,jaN,P7,O4,and_assoc,decide_false,decide_true,P8,P9,S3,N6,exists_false,S4,O0v,AV.val.injEq,AV.ptr.injEq,AV.slice.injEq,AV.func.injEq,AV.tuple.injEq,AV.agg.injEq,Value.bool.injEq,Value.int.injEq,U4,exists_eq_left',exists_eq_left,exists_and_left,exists_and_right,and_true,true_and,decide_eq_true_eq,decide_eq_false_iff_not,if_true,if_false,A9,beq_true,beq_false,ne_eq,not_true_eq_false,not_false_eq_true,reduceCtorEq,S5,S6,B6,O0w,A0,X4,reduceIte,ite_true,ite_false,or_true,true_or,or_false,false_or,resA,jaR,true_imp_iff,false_imp_iff,implies_true,imp_false,and_self,imp_self,and_false,false_and,forall_const,jbJ,jbK,ja0,jbj,jbi,jbh,jbf,jbg,jaO,jaY,jaX,jaZ,Q3,G9,O0x,O0y,O0z,ldA,Q7,O1a,Q8,Q9,Q6,S7,U9,S8,S9,O1b,M8,N9,B8,A0,G3,jdj,jdi,jdl,jdk,jem,jeT,jen,jeU,jcX,F3,F4,O1c,W1,W4,O1d,F5,Q5,O1e,X0,F6,and_self,C8,M5,O1f, *])|(simp only[goO,ja7,jar,goC])|(with_reducible apply P3)|(with_reducible intro _))
   all_goals trace_state
  ·exfalso;rename_i hz;exact hz (by omega)
end
section
open Go Go.RowKit
variable {tb:List (FuncId×Bool)}{nd:Bool}{fl:Nat→Bool}{h:Heap}{K:AV→Heap→Prop}
theorem flat_one {n:Nat}{v:AV}:(O6 n [v]).flatten=O6 n v:=by
 induction n with
 |zero=>rfl
 |succ n ih=>rw[A5,List.flatten_cons,ih,A5];rfl
theorem Sl.made {h:Heap}{id n:Nat}{v:AV}{b:Bool}(hb:blk h id=some (O6 n v)):Sl h 1 (.slice id 0 n n b 1) (O6 n v) n:=
 ⟨by simp,.inr ⟨id,0,n,b,_,rfl,V2 _,hb,by simp,by simp⟩⟩
theorem BL.made {h:Heap}{id n:Nat}{b c:Bool}(hb:blk h id=some (O6 n (BV c))):BL h (.slice id 0 n n b 1) (O6 n c):=by
 unfold BL;rw[List.map_replicate,O0o];exact Sl.made hb
theorem NewI.later {h h1 h2:Heap}{v:AV}{l:List Int}(k:Keep h h1 [])(n:NewI h1 h2 v l):NewI h h2 v l:=
 ⟨n.1,fun i hi=>by have:=n.2.1 i hi;have:=k.1;omega,k.then n.2.2 (fun i hi=> .inl hi) (fun i hi=> .inl hi)⟩
end
section
open Go Go.RowKit
variable {tb:List (FuncId×Bool)}{nd:Bool}{L:Nat→Bool}{H:ZH}{K:ZV→ZH→Prop}
theorem hasint_z {z:ZV}{l:List Int}{x:Int}(hz:ja2 H 1 z=some (l.map eI))(hb:l.length≤1000000)(hK:K (ZBo (decide (x∈l))) H):
  ZC (XC tb nd) (jag Tryz.prog) 12 [z,Z64 x] L H K:=by
 refine Z9 Gh.no (jaf (by decide)) jrz (by simp) ?_;simp only[jkM,kkP];have hlen:=ja3 hz;rw[P2] at hlen;with_reducible repeat' first|simp only[zQ,seval,X0,hlen, *]|simp only[jab]|apply P3|intro _
 refine jaK [(1,Z64 x),(7,z)] l.length (fun k s' h'=>h'=H∧x∉l.take k) (by omega) ⟨rfl,rfl,rfl,rfl,rfl,rfl⟩ rfl rfl (by repeat' (first|exact trivial|(refine⟨rfl,?_⟩)|(refine⟨by simp only[jaj,X4,reduceIte];assumption,?_⟩))) rfl rfl (by decide) ⟨rfl,by simp⟩ ?_ ?_
 ·rintro k s' h' hk ⟨rfl,hno⟩ hi hl ⟨f1,f7,-⟩
  obtain⟨p,hp,hld⟩:=jcS hz hk;by_cases he:x=l[k]
  ·have hy:decide (x∈l)=true:=decide_eq_true (by rw[he];exact M4 _)
   rw[hy] at hK;rw[←he] at hld;clear he hy;have fin:=Fin.keep (H0:=h') hK;with_reducible repeat' first|simp only[zQ,seval,X0,hp,hld, *]|simp only[jab]|apply P3|intro _
  ·have fin:x∉l.take (k+1):=by
    rw[X5 hk];simp only[O3,X6,not_or];exact⟨hno,he⟩
   clear hno;with_reducible repeat' first|simp only[zQ,seval,X0,hp,hld, *]|simp only[jab]|apply P3|intro _
 ·rintro s' h' ⟨rfl,hno⟩ ⟨f1,f7,-⟩
  rw[I5 (V2 _)] at hno;have hy:decide (x∈l)=false:=decide_eq_false hno;rw[hy] at hK;have fin:=Fin.keep (H0:=h') hK;clear hno hy;with_reducible repeat' first|simp only[zQ,seval,X0, *]|simp only[jab]|apply P3|intro _
theorem eqint_z {y z:ZV}{a b:List Int}(ha:ja2 H 1 y=some (a.map eI))(hb:ja2 H 1 z=some (b.map eI))(hl1:a.length≤1000000)(hl2:b.length≤1000000)(hK:K (ZBo (decide (a=b))) H):
  ZC (XC tb nd) (jag Tryz.prog) 14 [y,z] L H K:=by
 refine Z9 Gh.no (jaf (by decide)) juK (by simp) ?_;simp only[jnH,kkP];have ha':=ja3 ha;have hb':=ja3 hb;rw[P2] at ha' hb';by_cases hlen:a.length=b.length
 ·rw[hlen] at ha'
  have hlen:=Z4 hlen;with_reducible repeat' first|simp only[zQ,seval,X0,ha',hb', *]|simp only[jab]|apply P3|intro _
  refine jaK [(1,z),(12,y)] b.length (fun k s' h'=>h'=H∧a.take k=b.take k) (by omega) ⟨rfl,rfl,rfl,rfl,rfl,rfl⟩ rfl rfl (by repeat' (first|exact trivial|(refine⟨rfl,?_⟩)|(refine⟨by simp only[jaj,X4,reduceIte];assumption,?_⟩))) rfl rfl (by decide) ⟨rfl,by simp⟩ ?_ ?_
  ·rintro k s' h' hk ⟨rfl,hyes⟩ hi hl ⟨f1,f12,-⟩
   have hka:k<a.length:=by rw[hlen.out];exact hk
   obtain⟨p,hp,hld⟩:=jcS ha hka;obtain⟨q,hq,hlq⟩:=jcS hb hk;by_cases he:a[k]=b[k]
   ·have fin:a.take (k+1)=b.take (k+1):=by
     rw[X5 hka,X5 hk,hyes,he]
    rw[he] at hld;clear hyes he;with_reducible repeat' first|simp only[zQ,seval,X0,hp,hld,hq,hlq, *]|simp only[jab]|apply P3|intro _
   ·have hy:decide (a=b)=false:=decide_eq_false fun e=>he (by subst e;rfl)
    rw[hy] at hK;have fin:=Fin.keep (H0:=h') hK;clear hyes hy;with_reducible repeat' first|simp only[zQ,seval,X0,hp,hld,hq,hlq, *]|simp only[jab]|apply P3|intro _
  ·rintro s' h' ⟨rfl,hyes⟩ ⟨f1,f12,-⟩
   rw[←hlen.out,I5 (V2 _),hlen.out,I5 (V2 _)] at hyes;have hy:decide (a=b)=true:=decide_eq_true hyes;rw[hy] at hK;have fin:=Fin.keep (H0:=h') hK;clear hyes hy;with_reducible repeat' first|simp only[zQ,seval,X0, *]|simp only[jab]|apply P3|intro _
 ·have hN:(decide ((a.length:Int)=(b.length:Int)))=false:=by simp;omega
  have hy:decide (a=b)=false:=decide_eq_false fun e=>hlen (by rw[e])
  rw[hy] at hK;have fin:=Fin.keep (H0:=H) hK;clear hlen hy;with_reducible repeat' first|simp only[zQ,seval,X0,ha',hb',hN, *]|simp only[jab]|apply P3|intro _
end
section
open Go Go.RowKit
def jqF:jam:=kks [kkI 2 (.mv (.av (.val (.pointer none)))),kkK 3 0] (.seq (kks [kkM 4 0,kkB 5 .neq 4 (kkV 1),kkM 6 5,kkG 7 (.mv (kkt 0)) 6,kkG 8 (.bin .neq (kkt 7) (kkV 2)) 6,kkE 9 6 8] (kkr 9 [kkI 2 (.mv (.av (.val (.pointer none)))),kkK 3 1])) (kks [kkM 10 0,kkI 11 (.build [kkZ 0,(.val (.bool false)),kkS] [(0,1,(kkt 10))]),kkI 12 (.box 3 (kkt 11)),kkM 2 12,kkK 3 0] .ret))
theorem f_mk_new:jag Tryz.prog 7=some ⟨13,jqF,[.tmp 2,.tmp 3]⟩:=by kernel_rfl
def jje:jam:=kks [kkK 4 0] (kks [kkM 6 0,kkM 7 1,kkB 8 .rem 6 (kkt 7),kkM 5 8] (.seq (kks [kkM 9 5,kkB 10 .lss 9 (kkV 0)] (.cond (kkt 10) (.ops [kkM 11 5,kkM 12 1,kkB 13 .add 11 (kkt 12),kkM 5 13]) .skip)) (kks [kkM 14 5,kkM 4 14] .ret)))
theorem jnh:jag Tryz.prog 8=some ⟨15,jje,[.tmp 4]⟩:=by kernel_rfl
def jvj:jam:=kks [kkI 3 (.box 4 (kkt 1)),kkK 4 0,kkK 5 0] (.seq (kks [kkA 6 0 3,kkL 7 6] (.block 0 (kks [kkB 9 .eql 7 (kkV 1),kkM 8 9] (.cond (kkt 8) (kks [kkM 10 0,kkA 11 3 3,kkL 12 11,kkC 13 21 [kkt 10,kkt 12],kkx 14 0 13,kkx 15 1 13,kkM 4 14,kkM 5 15] .ret) (kks [kkB 17 .eql 7 (kkV 2),kkM 16 17] (.cond (kkt 16) (kks [kkM 18 0,kkQ 19 4 3,kkC 20 22 [kkt 18,kkt 19],kkK 4 0,kkM 5 20] .ret) (.seq (kks [kkB 22 .eql 7 (kkV 4),kkM 21 22] (.cond (kkt 21) .skip (.ops [kkB 23 .eql 7 (kkV 3),kkM 21 23]))) (.cond (kkt 21) (kks [kkM 24 0,kkA 25 1 3,kkL 26 25,kkA 27 0 3,kkL 28 27,kkB 29 .eql 28 (kkV 4),kkC 30 23 [kkt 24,kkt 26,kkt 29],kkK 4 0,kkM 5 30] .ret) (kks [kkB 32 .eql 7 (kkV 6),kkM 31 32] (.cond (kkt 31) (kks [kkM 33 0,kkC 34 24 [kkt 33],kkx 35 0 34,kkx 36 1 34,kkM 4 35,kkM 5 36] .ret) (kks [kkB 38 .eql 7 (kkV 5),kkM 37 38] (.cond (kkt 37) (kks [kkM 39 0,kkA 40 3 3,kkL 41 40,kkC 42 25 [kkt 39,kkt 41],kkx 43 0 42,kkx 44 1 42,kkM 4 43,kkM 5 44] .ret) (kks [kkB 46 .eql 7 (kkV 7),kkM 45 46] (kkr 45 [kkM 47 0,kkC 48 26 [kkt 47],kkx 49 0 48,kkx 50 1 48,kkM 4 49,kkM 5 50])))))))))))))) (kks [kkK 4 0,kkK 5 7] .ret))
theorem f_mk_do:jag Tryz.prog 11=some ⟨51,jvj,[.tmp 4,.tmp 5]⟩:=by kernel_rfl
def jhz:jam:=kks [kkI 2 (.mv (.av kkS))] (kks [kkI 3 (.mv (.av kkS))] (.seq (kks [kkM 6 0,kkN 7 6,kkA 8 2 7,kkL 9 8,kkH 10 9,kkK 11 0] (jau 0 1 12 11 10 20 (kks [kkX 13 3 9 11,kkQ 14 3 13,kkI 5 (.zero [kkS,kkZ 0,(.val (.bool false))]),kkR 3 5 14] (.ops [kkM 15 3,kkA 16 1 5,kkL 17 16,kkI 18 (.lits 1 1 [kkZ 0] [(0,1,(kkt 17))]),kkI 19 (.append 1 8 (kkt 15) (kkt 18)),kkM 3 19])))) (kks [kkM 21 3,kkM 2 21] .ret)))
theorem jnj:jag Tryz.prog 13=some ⟨22,jhz,[.tmp 2]⟩:=by kernel_rfl
def jnJ:jam:=kks [kkK 4 0,kkK 5 0] (.seq (.block 0 (kks [kkM 8 1,kkB 9 .lss 8 (kkV 0),kkM 10 9,kkJ 11 (.mv (kkt 1)) 10,kkJ 12 (.bin .gtr (kkt 11) (kkV 10)) 10,kkO 13 10 12,kkM 7 13] (.cond (kkt 7) (kks [kkK 4 0,kkK 5 1] .ret) (kks [kkM 15 0,kkN 16 15,kkA 17 2 16,kkL 18 17,kkH 19 18,kkB 20 .geq 19 (kkV 100),kkM 14 20] (kkr 14 [kkK 4 0,kkK 5 2]))))) (kks [kkI 21 (.lits 1 1 [kkZ 0] [(0,1,(kkV (-1)))]),kkM 22 1,kkC 23 42 [kkt 21,kkt 22],kkI 24 (.build [kkS,kkZ 0,(.val (.bool false))] [(0,1,(kkt 23)),(2,1,kky)]),kkI 6 (.zero [kkS,kkZ 0,(.val (.bool false))]),kkR 3 6 24] (.seq (kks [kkM 25 0,kkN 26 25,kkA 27 1 26,kkL 28 27] (.cond (kkt 28) (.ops [kkA 29 1 6,⟨none,.store 1 (kkt 29) (kkV 2),none,true⟩]) .skip)) (kkd [kkM 30 0,kkM 31 0,kkN 32 31,kkA 33 2 32,kkL 34 33,kkQ 35 3 6,kkI 36 (.lits 3 1 [kkS,kkZ 0,(.val (.bool false))] [(0,3,(kkt 35))]),kkI 37 (.append 3 40 (kkt 34) (kkt 36)),kkN 38 30,kkA 39 2 38,kkR 1 39 37] (kks [kkM 40 0,kkN 41 40,kkA 42 2 41,kkL 43 42,kkH 44 43,kkB 45 .sub 44 (kkV 1),kkM 4 45,kkK 5 0] .ret)))))
theorem juM:jag Tryz.prog 21=some ⟨46,jnJ,[.tmp 4,.tmp 5]⟩:=by kernel_rfl
def jqE:jam:=kks [kkI 3 (.box 4 (kkt 1)),kkK 4 0] (kks [kkA 8 1 3,kkL 9 8,kkA 10 2 3,kkL 11 10,kkI 12 (.lits 1 2 [kkZ 0,kkZ 0] [(0,1,(kkt 9)),(1,1,(kkt 11))]),kkM 5 12] (.seq (kks [kkA 13 2 3,kkL 14 13,kkB 15 .eql 14 (kkV (-1))] (.cond (kkt 15) (.ops [kkM 16 5,kkI 17 (.slice 1 (kkt 16) none (some (kkV 1)) none),kkM 5 17]) .skip)) (.seq (kks [kkM 18 0,kkM 19 5,kkC 20 43 [kkt 18,kkt 19],kkM 6 20] (kks [kkM 21 6,kkB 22 .neq 21 (kkV 0)] (kkr 22 [kkM 23 6,kkM 4 23]))) (kkd [kkM 24 0,kkN 25 24,kkA 26 2 25,kkL 27 26,kkA 28 1 3,kkL 29 28,kkX 30 3 27 29,kkQ 31 3 30,kkI 7 (.zero [kkS,kkZ 0,(.val (.bool false))]),kkR 3 7 31] (.seq (kks [kkA 32 3 3,kkL 33 32,kkB 34 .lss 33 (kkV 0),kkM 35 34,kkJ 36 (.fieldAddr 3 (kkt 3)) 35,kkJ 37 (.load none (kkt 36)) 35,kkJ 38 (.fieldAddr 0 (kkt 7)) 35,kkJ 39 (.load none (kkt 38)) 35,kkJ 40 (.len (kkt 39)) 35,kkJ 41 (.bin .geq (kkt 37) (kkt 40)) 35,kkO 42 35 41] (kkr 42 [kkK 4 1])) (.seq (kks [kkM 43 0,kkN 44 43,kkA 45 0 44,kkL 46 45,kkB 47 .eql 46 (kkV 1)] (.cond (kkt 47) (.ops [kkM 48 0,kkA 49 2 3,kkL 50 49,kkC 51 44 [kkt 48,kkt 50]]) (.ops [kkM 52 0,kkA 53 0 7,kkL 54 53,kkA 55 3 3,kkL 56 55,kkX 57 1 54 56,kkL 58 57,kkC 59 44 [kkt 52,kkt 58]]))) (kks [kkA 60 0 7,kkL 61 60,kkA 62 3 3,kkL 63 62,kkA 64 2 3,kkL 65 64,kkX 66 1 61 63,kkR 1 66 65] (kks [kkK 4 0] .ret))))))))
theorem f_mk_set:jag Tryz.prog 22=some ⟨67,jqE,[.tmp 4]⟩:=by kernel_rfl
def jnM:jam:=kks [kkK 6 0] (.seq (kks [kkM 8 0,kkM 9 1,kkI 10 (.lits 1 1 [kkZ 0] [(0,1,(kkt 9))]),kkC 11 43 [kkt 8,kkt 10],kkM 7 11] (kks [kkM 12 7,kkB 13 .neq 12 (kkV 0)] (kkr 13 [kkM 14 7,kkM 6 14]))) (.seq (kks [kkM 15 2,kkU 16 15,kkM 17 16,kkG 18 (.mv (kkt 0)) 17,kkG 19 (.nilCheck (kkt 18)) 17,kkG 20 (.fieldAddr 2 (kkt 19)) 17,kkG 21 (.load none (kkt 20)) 17,kkG 22 (.mv (kkt 1)) 17,kkG 23 (.indexAddr 3 (kkt 21) (kkt 22)) 17,kkG 24 (.fieldAddr 2 (kkt 23)) 17,kkG 25 (.load none (kkt 24)) 17,kkG 26 (.un .not (kkt 25)) 17,kkE 27 17 26] (kkr 27 [kkK 6 8])) (.seq (kks [kkM 28 2,kkM 29 0,kkN 30 29,kkA 31 0 30,kkL 32 31,kkB 33 .eql 32 (kkV 1),kkI 34 (.eqBool false (kkt 28) (kkt 33))] (.cond (kkt 34) (.ops [kkM 35 0,kkM 36 1,kkC 37 44 [kkt 35,kkt 36]]) .skip)) (kks [kkM 38 0,kkN 39 38,kkA 40 2 39,kkL 41 40,kkM 42 1,kkM 43 2,kkX 44 3 41 42,kkA 45 2 44,kkR 1 45 43] (kks [kkK 6 0] .ret)))))
theorem juP:jag Tryz.prog 23=some ⟨46,jnM,[.tmp 6]⟩:=by kernel_rfl
def jkS:jam:=kks [kkK 2 0,kkK 3 0] (.seq (kks [kkM 7 0,kkN 8 7,kkA 9 1 8,kkL 10 9] (kkr 10 [kkK 2 0,kkK 3 8])) (kks [kkM 11 0,kkN 12 11,kkA 13 1 12,⟨none,.store 1 (kkt 13) kky,none,true⟩] (kks [kkK 4 0] (.seq (kks [kkM 14 0,kkN 15 14,kkA 16 2 15,kkL 17 16,kkH 18 17,kkK 19 0] (jau 0 1 20 19 18 31 (kks [kkM 21 19,kkX 22 3 17 19,kkQ 23 3 22,kkI 6 (.zero [kkS,kkZ 0,(.val (.bool false))]),kkM 5 21,kkR 3 6 23] (kks [kkA 24 2 6,kkL 25 24] (.cond (kkt 25) (kks [kkM 26 0,kkM 27 5,kkC 28 44 [kkt 26,kkt 27]] (.ops [kkM 29 4,kkB 30 .add 29 (kkV 1),kkM 4 30])) .skip))))) (kks [kkM 32 4,kkM 2 32,kkK 3 0] .ret)))))
theorem jrF:jag Tryz.prog 24=some ⟨33,jkS,[.tmp 2,.tmp 3]⟩:=by kernel_rfl
def jjd:jam:=kks [kkK 4 0,kkK 5 0] (.seq (.block 0 (kks [kkM 8 0,kkN 9 8,kkA 10 1 9,kkL 11 10,kkU 12 11,kkM 7 12] (.cond (kkt 7) (kks [kkK 4 0,kkK 5 8] .ret) (kks [kkM 14 1,kkB 15 .lss 14 (kkV 0),kkM 13 15] (kkr 13 [kkK 4 0,kkK 5 1]))))) (kks [kkK 6 0] (.seq (.block 1 (.loop (.seq (kks [kkM 16 6,kkM 17 1,kkB 18 .lss 16 (kkt 17),kkM 19 18,kkG 20 (.mv (kkt 0)) 19,kkG 21 (.call (kkF 45) [kkt 20]) 19,kkE 22 19 21] (.cond (kkt 22) .skip (.exit 1))) (.block 2 (.ops [kkM 23 6,kkB 24 .add 23 (kkV 1),kkM 6 24]))))) (kks [kkM 25 6,kkM 4 25,kkK 5 0] .ret))))
theorem joM:jag Tryz.prog 25=some ⟨26,jjd,[.tmp 4,.tmp 5]⟩:=by kernel_rfl
def jqH:jam:=kks [kkK 2 0,kkK 3 0] (.seq (kks [kkM 6 0,kkN 7 6,kkA 8 1 7,kkL 9 8,kkU 10 9] (kkr 10 [kkK 2 0,kkK 3 8])) (.seq (.block 0 (.loop (.seq (kks [kkM 11 0,kkC 12 45 [kkt 11]] (.cond (kkt 12) .skip (.exit 0))) (.block 1 .skip)))) (kks [kkK 4 0] (.seq (kks [kkM 13 0,kkN 14 13,kkA 15 2 14,kkL 16 15,kkH 17 16,kkK 18 0] (jau 2 3 19 18 17 49 (kks [kkM 20 18,kkM 5 20] (kks [kkM 21 0,kkN 22 21,kkA 23 2 22,kkL 24 23,kkM 25 5,kkX 26 3 24 25,kkA 27 1 26,kkL 28 27] (.block 4 (kks [kkB 30 .eql 28 (kkV 0),kkM 29 30] (.cond (kkt 29) (kks [kkM 31 0,kkN 32 31,kkA 33 2 32,kkL 34 33,kkM 35 5,kkI 36 (.build [kkS,kkZ 0,(.val (.bool false))] [(1,1,(kkV 3))]),kkX 37 3 34 35,kkR 3 37 36] (.ops [kkM 38 4,kkB 39 .add 38 (kkV 1),kkM 4 39])) (kks [kkB 41 .eql 28 (kkV 2),kkM 40 41] (.cond (kkt 40) (.ops [kkM 42 0,kkN 43 42,kkA 44 2 43,kkL 45 44,kkM 46 5,kkX 47 3 45 46,kkA 48 1 47,⟨none,.store 1 (kkt 48) (kkV 0),none,true⟩]) .skip))))))))) (kks [kkM 50 0,kkN 51 50,kkA 52 1 51,⟨none,.store 1 (kkt 52) kkn,none,true⟩] (kks [kkM 53 4,kkM 2 53,kkK 3 0] .ret))))))
theorem f_mk_end:jag Tryz.prog 26=some ⟨54,jqH,[.tmp 2,.tmp 3]⟩:=by kernel_rfl
def jjf:jam:=kks [kkI 4 (.mv (.av kkS))] (.seq (kks [kkM 9 1,kkB 10 .lss 9 (kkV 0)] (.cond (kkt 10) (.ops [⟨(some 11),.bad,none,true⟩,⟨none,.panic (kkt 11),none,true⟩]) .skip)) (kks [kkM 13 0,kkH 14 13,kkI 15 (.conv .u64 (kkt 14)),kkM 16 1,kkI 17 (.conv .u64 (kkt 16)),kkC 18 74 [kkt 15,kkt 17],kkM 12 18,kkx 19 0 12,kkx 20 1 12,kkM 5 19,kkM 6 20] (.seq (kks [kkM 21 5,kkB 22 .gtr 21 (.av (.val (.int .u64 0))),kkM 23 22,kkJ 24 (.mv (kkt 6)) 23,kkJ 25 (.bin .gtr (kkt 24) (.av (.val (.int .u64 9223372036854775807)))) 23,kkO 26 23 25] (.cond (kkt 26) (.ops [⟨(some 27),.bad,none,true⟩,⟨none,.panic (kkt 27),none,true⟩]) .skip)) (kks [kkM 28 6,kkI 29 (.conv .i64 (kkt 28)),kkI 30 (.mkSlice 1 8 [kkZ 0] (kkt 29) (kkt 29)),kkM 7 30] (kks [kkM 31 7,kkM 32 0,kkI 33 (.copy 1 (kkt 31) (kkt 32)),kkM 8 33] (.seq (.block 0 (.loop (.seq (kks [kkM 34 8,kkM 35 7,kkH 36 35,kkB 37 .lss 34 (kkt 36)] (.cond (kkt 37) .skip (.exit 0))) (.block 1 (.opsD [kkM 38 8,kkM 39 7,kkM 40 8,kkI 41 (.slice 1 (kkt 39) (some (kkt 40)) none none),kkM 42 7,kkM 43 8,kkI 44 (.slice 1 (kkt 42) none (some (kkt 43)) none),kkI 45 (.copy 1 (kkt 41) (kkt 44)),kkB 46 .add 38 (kkt 45),kkM 8 46]))))) (kks [kkM 47 7,kkM 4 47] .ret)))))))
theorem joN:jag Tryz.prog 42=some ⟨48,jjf,[.tmp 4]⟩:=by kernel_rfl
def jkP:jam:=kks [kkK 4 0] (.seq (kks [kkM 11 1,kkH 12 11,kkK 13 0] (jau 0 1 14 13 12 28 (kks [kkX 15 1 11 13,kkL 16 15,kkM 6 16] (kks [kkM 17 6,kkB 18 .lss 17 (kkV 0),kkM 19 18,kkJ 20 (.mv (kkt 6)) 19,kkJ 21 (.mv (kkt 0)) 19,kkJ 22 (.nilCheck (kkt 21)) 19,kkJ 23 (.fieldAddr 2 (kkt 22)) 19,kkJ 24 (.load none (kkt 23)) 19,kkJ 25 (.len (kkt 24)) 19,kkJ 26 (.bin .geq (kkt 20) (kkt 25)) 19,kkO 27 19 26] (kkr 27 [kkK 4 5]))))) (kks [kkM 29 0,kkC 30 75 [kkt 29],kkI 7 (.zero [kkS,kkS]),kkR 2 7 30] (kks [kkQ 31 2 7,kkA 32 1 7,kkL 33 32,kkC 34 76 [kkt 31,kkt 33],kkM 8 34] (.seq (kks [kkM 35 1,kkH 36 35,kkK 37 0] (jau 2 3 38 37 36 46 (kks [kkX 39 1 35 37,kkL 40 39,kkM 10 40] (kks [kkM 41 8,kkM 42 10,kkX 43 1 41 42,kkL 44 43,kkU 45 44] (kkr 45 [kkK 4 8]))))) (kks [kkK 4 0] .ret)))))
theorem jrC:jag Tryz.prog 43=some ⟨47,jkP,[.tmp 4]⟩:=by kernel_rfl
def jkO:jam:=kks [kkM 4 0,kkN 5 4,kkA 6 1 5,kkL 7 6,kkM 8 7,kkG 9 (.mv (kkt 1)) 8,kkG 10 (.bin .geq (kkt 9) (kkV 0)) 8,kkE 11 8 10,kkM 12 11,kkG 13 (.mv (kkt 0)) 12,kkG 14 (.nilCheck (kkt 13)) 12,kkG 15 (.fieldAddr 2 (kkt 14)) 12,kkG 16 (.load none (kkt 15)) 12,kkG 17 (.mv (kkt 1)) 12,kkG 18 (.indexAddr 3 (kkt 16) (kkt 17)) 12,kkG 19 (.fieldAddr 1 (kkt 18)) 12,kkG 20 (.load none (kkt 19)) 12,kkG 21 (.bin .eql (kkt 20) (kkV 0)) 12,kkE 22 12 21] (.cond (kkt 22) (.ops [kkM 23 0,kkN 24 23,kkA 25 2 24,kkL 26 25,kkM 27 1,kkX 28 3 26 27,kkA 29 1 28,⟨none,.store 1 (kkt 29) (kkV 1),none,true⟩]) .skip)
theorem jrB:jag Tryz.prog 44=some ⟨30,jkO,[]⟩:=by kernel_rfl
def jnI:jam:=kks [kkI 2 (.mv kkn)] (kks [kkM 6 0,kkN 7 6,kkA 8 2 7,kkL 9 8,kkC 10 77 [kkt 9,(kkF 78)],kkM 3 10] (.seq (kks [kkM 11 3,kkB 12 .lss 11 (kkV 0)] (kkr 12 [kkI 2 (.mv kkn)])) (kks [kkM 13 0,kkN 14 13,kkA 15 2 14,kkL 16 15,kkM 17 3,kkX 18 3 16 17,kkA 19 1 18,⟨none,.store 1 (kkt 19) (kkV 2),none,true⟩] (.seq (kks [kkM 20 0,kkN 21 20,kkA 22 2 21,kkL 23 22,kkM 24 3,kkX 25 3 23 24,kkA 26 0 25,kkL 27 26,kkH 28 27,kkK 29 0] (jau 0 1 30 29 28 36 (kks [kkX 31 1 27 29,kkL 32 31,kkM 5 32] (.ops [kkM 33 0,kkM 34 5,kkC 35 44 [kkt 33,kkt 34]])))) (kks [kkI 2 (.mv kky)] .ret)))))
theorem juL:jag Tryz.prog 45=some ⟨37,jnI,[.tmp 2]⟩:=by kernel_rfl
def jqG:jam:=kks [kkI 4 (.mv (.av (.val (.int .u64 0)))),kkI 5 (.mv (.av (.val (.int .u64 0))))] (.seq (.cond kkn (kks [kkM 11 0,kkI 12 (.conv .u32 (kkt 11)),kkM 13 1,kkI 14 (.conv .u32 (kkt 13)),kkC 15 107 [kkt 12,kkt 14],kkM 10 15,kkx 16 0 10,kkx 17 1 10,kkM 6 16,kkM 7 17] (kks [kkM 18 6,kkI 19 (.conv .u64 (kkt 18)),kkM 20 7,kkI 21 (.conv .u64 (kkt 20)),kkM 4 19,kkM 5 21] .ret)) .skip) (kks [kkM 23 0,kkM 24 1,kkC 25 108 [kkt 23,kkt 24],kkM 22 25,kkx 26 0 22,kkx 27 1 22,kkM 8 26,kkM 9 27] (kks [kkM 28 8,kkM 29 9,kkM 4 28,kkM 5 29] .ret)))
theorem f_mk_mul:jag Tryz.prog 74=some ⟨30,jqG,[.tmp 4,.tmp 5]⟩:=by kernel_rfl
def jkR:jam:=kks [kkI 2 (.zero [kkS,kkS])] (kks [kkI 3 (.zero [kkS,kkS])] (.seq (kks [kkM 6 0,kkN 7 6,kkA 8 2 7,kkL 9 8,kkH 10 9,kkK 11 0] (jau 0 1 12 11 10 33 (kks [kkM 13 11,kkX 14 3 9 11,kkQ 15 3 14,kkI 5 (.zero [kkS,kkZ 0,(.val (.bool false))]),kkM 4 13,kkR 3 5 15] (kkd [kkA 16 0 3,⟨(some 17),.load none (kkt 16),none,false⟩,kkA 18 0 5,kkL 19 18,⟨(some 20),.call (kkF 110) [kkt 19],none,false⟩,⟨(some 21),.call (kkF 109) [kkt 20,(kkF 111)],none,false⟩,kkI 22 (.lits 1 1 [kkS] [(0,1,(kkt 21))]),kkI 23 (.append 1 24 (kkt 17) (kkt 22)),kkA 24 0 3,kkR 1 24 23] (kks [kkA 25 2 5,kkL 26 25] (.cond (kkt 26) (.ops [kkA 27 1 3,kkL 28 27,kkM 29 4,kkI 30 (.lits 1 1 [kkZ 0] [(0,1,(kkt 29))]),kkI 31 (.append 1 8 (kkt 28) (kkt 30)),kkA 32 1 3,kkR 1 32 31]) .skip)))))) (kks [kkQ 34 2 3,kkR 2 2 34] .ret)))
theorem jrE:jag Tryz.prog 75=some ⟨35,jkR,[.cell 2 (some 2)]⟩:=by kernel_rfl
def jnK:jam:=kks [kkK 4 0] (.seq (kks [kkM 6 0,kkH 7 6,kkK 8 0] (jau 0 1 9 8 7 18 (kks [kkM 10 8,kkM 5 10] (kks [kkM 11 1,kkM 12 0,kkM 13 5,kkX 14 3 12 13,kkQ 15 3 14,kkI 16 (.call (kkt 11) [kkt 15])] (kkr 16 [kkM 17 5,kkM 4 17]))))) (kks [kkK 4 (-1)] .ret))
theorem juN:jag Tryz.prog 77=some ⟨19,jnK,[.tmp 4]⟩:=by kernel_rfl
def jkN:jam:=kks [kkI 1 (.box 3 (kkt 0)),kkI 2 (.mv kkn)] (kks [kkA 3 1 1,kkL 4 3,kkB 5 .eql 4 (kkV 1),kkM 2 5] .ret)
theorem jrA:jag Tryz.prog 78=some ⟨6,jkN,[.tmp 2]⟩:=by kernel_rfl
def jkQ:jam:=kks [kkI 4 (.mv (.av (.val (.int .u64 0)))),kkI 5 (.mv (.av (.val (.int .u64 0))))] (kks [kkM 14 0,kkB 15 .and 14 (.av (.val (.int .u64 4294967295))),kkM 6 15] (kks [kkM 16 0,kkB 17 .shr 16 (.av (.val (.int .u64 32))),kkM 7 17] (kks [kkM 18 1,kkB 19 .and 18 (.av (.val (.int .u64 4294967295))),kkM 8 19] (kks [kkM 20 1,kkB 21 .shr 20 (.av (.val (.int .u64 32))),kkM 9 21] (kks [kkM 22 6,kkM 23 8,kkB 24 .mul 22 (kkt 23),kkM 10 24] (kks [kkM 25 7,kkM 26 8,kkB 27 .mul 25 (kkt 26),kkM 28 10,kkB 29 .shr 28 (.av (.val (.int .u64 32))),kkB 30 .add 27 (kkt 29),kkM 11 30] (kks [kkM 31 11,kkB 32 .and 31 (.av (.val (.int .u64 4294967295))),kkM 12 32] (kks [kkM 33 11,kkB 34 .shr 33 (.av (.val (.int .u64 32))),kkM 13 34] (kks [kkM 35 12,kkM 36 6,kkM 37 9,kkB 38 .mul 36 (kkt 37),kkB 39 .add 35 (kkt 38),kkM 12 39] (kks [kkM 40 7,kkM 41 9,kkB 42 .mul 40 (kkt 41),kkM 43 13,kkB 44 .add 42 (kkt 43),kkM 45 12,kkB 46 .shr 45 (.av (.val (.int .u64 32))),kkB 47 .add 44 (kkt 46),kkM 4 47] (kks [kkM 48 0,kkM 49 1,kkB 50 .mul 48 (kkt 49),kkM 5 50] .ret)))))))))))
theorem jrD:jag Tryz.prog 108=some ⟨51,jkQ,[.tmp 4,.tmp 5]⟩:=by kernel_rfl
def jjh:jam:=kks [kkI 4 (.mv (.av kkS))] (kks [kkM 8 0,kkM 9 1,kkC 10 130 [kkt 8,kkt 9],kkM 5 10] (.seq (kks [kkM 11 5,kkB 12 .eql 11 (kkV (-1))] (kkr 12 [kkM 13 0,kkM 4 13])) (.seq (kks [kkM 14 5,kkB 15 .add 14 (kkV 1),kkM 6 15] (.block 0 (.loop (.seq (kks [kkM 16 6,kkM 17 0,kkH 18 17,kkB 19 .lss 16 (kkt 18)] (.cond (kkt 19) .skip (.exit 0))) (.seq (.block 1 (kks [kkM 22 0,kkM 23 6,kkX 24 1 22 23,kkL 25 24,kkM 7 25] (kks [kkM 26 1,kkM 27 7,kkI 28 (.call (kkt 26) [kkt 27]),kkU 29 28] (.cond (kkt 29) (kks [kkM 30 0,kkM 31 5,kkM 32 7,kkX 33 1 30 31,kkR 1 33 32] (.ops [kkM 34 5,kkB 35 .add 34 (kkV 1),kkM 5 35])) .skip)))) (.ops [kkM 20 6,kkB 21 .add 20 (kkV 1),kkM 6 21])))))) (kks [kkM 36 0,kkM 37 5,kkI 38 (.slice 1 (kkt 36) (some (kkt 37)) none none),⟨none,.clear 1 [kkZ 0] (kkt 38),none,true⟩] (kks [kkM 39 0,kkM 40 5,kkI 41 (.slice 1 (kkt 39) none (some (kkt 40)) none),kkM 4 41] .ret)))))
theorem jni:jag Tryz.prog 109=some ⟨42,jjh,[.tmp 4]⟩:=by kernel_rfl
def jhh:jam:=kks [kkI 2 (.mv (.av kkS))] (.seq (kks [kkM 3 0,kkI 4 (.eqNil false 0 (kkt 3))] (kkr 4 [kkI 2 (.mv (.av kkS))])) (kks [kkI 5 (.lits 1 0 [] []),kkM 6 0,kkI 7 (.append 1 8 (kkt 5) (kkt 6)),kkM 2 7] .ret))
theorem jkv:jag Tryz.prog 110=some ⟨8,jhh,[.tmp 2]⟩:=by kernel_rfl
def jjg:jam:=kks [kkI 2 (.mv kkn)] (kks [kkM 3 0,kkB 4 .lss 3 (kkV 0),kkM 2 4] .ret)
theorem joO:jag Tryz.prog 111=some ⟨5,jjg,[.tmp 2]⟩:=by kernel_rfl
def jnL:jam:=kks [kkK 4 0] (.seq (kks [kkM 6 0,kkH 7 6,kkK 8 0] (jau 0 1 9 8 7 18 (kks [kkM 10 8,kkM 5 10] (kks [kkM 11 1,kkM 12 0,kkM 13 5,kkX 14 1 12 13,kkL 15 14,kkI 16 (.call (kkt 11) [kkt 15])] (kkr 16 [kkM 17 5,kkM 4 17]))))) (kks [kkK 4 (-1)] .ret))
theorem juO:jag Tryz.prog 130=some ⟨19,jnL,[.tmp 4]⟩:=by kernel_rfl
end
section
open Go Go.RowKit
variable {tb:List (FuncId×Bool)}{nd:Bool}{L:Nat→Bool}{H:ZH}{K:ZV→ZH→Prop}
theorem jeC {W:ZH}(A:ZB)(X:ZH):(W++(A::X))[W.length]?=some A:=by rw[N0 (V2 _),B4];rfl
theorem mv_at1 {W:ZH}(A B:ZB)(X:ZH):(W++(A::B::X))[W.length+1]?=some B:=by rw[N0 (by omega),D8];rfl
theorem jko {W:ZH}(A C:ZB)(X:ZH):(W++(A::X)).set W.length C=W++(C::X):=by rw[B7 _ _ (V2 _),B4];rfl
theorem mv_atX {W X:ZH}(A B:ZB):(W++(A::(X++[B])))[W.length+(X.length+1)]?=some B:=by rw[N0 (by omega),D8,Q5,N0 (V2 _),B4];rfl
theorem mv_stX {W X:ZH}(A B C:ZB):(W++(A::(X++[B]))).set (W.length+(X.length+1)) C=W++(A::(X++[C])):=by rw[B7 _ _ (by omega),D8,S9,B7 _ _ (V2 _),B4];rfl
theorem jug {S:ZS}{d:Nat}:numZ S d none=some d:=rfl
theorem juf {S:ZS}{d:Nat}{x:Opd}:numZ S d (some x)=(zev S x).bind natZ:=by
 simp only[numZ];cases zev S x<;>rfl
theorem rest_z {k m:Int}(hm:0<m∧m≤1000000000)(hK:K (Z64 (k % m)) H):ZC (XC tb nd) (jag Tryz.prog) 8 [Z64 k,Z64 m] L H K:=by
 refine Z9 Gh.no (jaf (by decide)) jnh (by simp) ?_;simp only[jje,kkP];have hr:binV .rem (.int .i64 k) (.int .i64 m)=some (.int .i64 (k.tmod m)):=by simp[binV];omega
 have fin:=Fin.keep (H0:=H) hK;have h1: -m<k.tmod m:=by
  have:=Int.lt_tmod_of_pos k hm.1;omega
 have h2:k.tmod m<m:=Int.tmod_lt_of_pos k hm.1;have h3:k.tmod m=k % m∨k.tmod m=k % m - m:=by
  rw[Int.tmod_eq_emod];split
  ·left;omega
  ·right;omega
 have h4:=Int.emod_nonneg k (b:=m) (by omega);have h5:=Int.emod_lt_of_pos k hm.1;clear hK;by_cases hn:k.tmod m<0
 ·have hw:IntKind.i64.wrap (k.tmod m+m)=k % m:=by
   rw[Y5 _ (by omega)];omega
  have F:=Z4 fin;clear h3 h4 h5 h1 h2 fin;obtain⟨t,ht⟩: ∃t,t=k.tmod m:=⟨_,rfl⟩;rw[←ht] at hr hn hw;have fin:=F.out;clear ht;with_reducible repeat' first|simp only[zQ,seval,X0,hr,hn,hw, *]|simp only[jab]|apply P3|intro _
 ·have hw:k.tmod m=k % m:=by omega
  have F:=Z4 fin;clear h3 h4 h5 h1 h2 fin;rw[hw] at hr hn;have fin:=F.out;clear hw;with_reducible repeat' first|simp only[zQ,seval,X0,hr,hn, *]|simp only[jab]|apply P3|intro _
def idxQ {α:Type}(p:α→Bool)(l:List α):Int:=match l.findIdx? p with
  |some i=>(i:Int)
  |none=> -1
def jhk {α:Type}(p:α→Bool)(l:List α):Prop:= ∀x∈l,p x=false
theorem idxi_z {z:ZV}{l:List Int}{p:Int→Bool}{f:FuncId}{caps:List ZV}(hz:ja2 H 1 z=some (l.map eI))(hb:l.length≤100000000000000)(hf: ∀m∈l,∀ K,K (ZBo (p m)) H→ZC (XC tb nd) (jag Tryz.prog) f (Z64 m::caps) L H K)(hK:K (Z64 (idxQ p l)) H):
  ZC (XC tb nd) (jag Tryz.prog) 130 [z,.func f caps] L H K:=by
 refine Z9 Gh.no (jaf (by decide)) juO (by simp) ?_;simp only[jnL,kkP];have hlen:=ja3 hz;rw[P2] at hlen;have HF:=Z4 hf;have HK:=Z4 hK;clear hf hK;with_reducible repeat' first|simp only[zQ,seval,X0,hlen, *]|simp only[jab]|apply P3|intro _
 refine jaK [(0,z),(1,.func f caps)] l.length (fun k s' h'=>h'=H∧jhk p (l.take k)) (by omega) ⟨rfl,rfl,rfl,rfl,rfl,rfl⟩ rfl rfl (by repeat' (first|exact trivial|(refine⟨rfl,?_⟩)|(refine⟨by simp only[jaj,X4,reduceIte];assumption,?_⟩))) rfl rfl (by decide) ⟨rfl,by simp[jhk]⟩ ?_ ?_
 ·rintro k s' h' hk ⟨rfl,hno⟩ hi hl ⟨f0,f1,-⟩
  obtain⟨q,hq,hld⟩:=jcS hz hk;have HN:=Z4 hno;clear hno;with_reducible repeat' first|simp only[zQ,seval,X0,hq,hld, *]|simp only[jab]|apply P3|intro _
  refine HF.out _ (M4 hk) _ ?_
  cases hp:p l[k] with
  |true=>
   have hi:idxQ p l=(k:Int):=by
    have:l.findIdx? p=some k:=by
     rw[Z7];exact⟨hk,hp,fun j hj=>by simp only[Bool.not_eq_true];exact HN.out _ (by rw[O1i];exact⟨j,by omega,rfl⟩)⟩
    simp only[idxQ,this]
   have hK:=HK.out;rw[hi] at hK;have fin:=Fin.keep (H0:=h') hK;clear hp hi hK hld;with_reducible repeat' first|simp only[zQ,seval,X0, *]|simp only[jab]|apply P3|intro _
  |false=>
   have fin:jhk p (l.take (k+1)):=fun x hx=>by
    rw[X5 hk] at hx;rcases O3.1 hx with hx|hx
    ·exact HN.out x hx
    ·rw[X6.1 hx];exact hp
   clear hp hld;with_reducible repeat' first|simp only[zQ,seval,X0, *]|simp only[jab]|apply P3|intro _
 ·rintro s' h' ⟨rfl,hno⟩ ⟨f0,f1,-⟩
  rw[I5 (V2 _)] at hno;have hi:idxQ p l= -1:=by
   have:l.findIdx? p=none:=Z5.2 fun x hx=>by rw[hno x hx]
   simp only[idxQ,this]
  have hK:=HK.out;rw[hi] at hK;have fin:=Fin.keep (H0:=h') hK;clear hno hi hK;with_reducible repeat' first|simp only[zQ,seval,X0, *]|simp only[jab]|apply P3|intro _
def jdK (l:List Int):List Int:=l.filter fun x=> !decide (x<0)
theorem jqq {x:Int}(hK:K (ZBo (decide (x<0))) H):
  ZC (XC tb nd) (jag Tryz.prog) 111 [Z64 x] L H K:=by
 refine K6 Gh.no (jaf (by decide)) joO (by simp) fun hL=>?_
 simp only[jjg,kkP];have fin:=Fin.keep (H0:=H) hK;clear hK;with_reducible repeat' first|simp only[zQ,seval,X0, *]|simp only[jab]|apply P3|intro _
theorem jg5 {R:List (List ZV)}(h: ∀r∈R,r.all jbR=true):R.flatten.all jbR=true:=by
 rw[N2];intro z hz;obtain⟨r,hr,h1⟩:=List.mem_flatten.1 hz;exact N2.1 (h r hr) z h1
theorem mv_refs {n:Nat}{R:List (List ZV)}(h: ∀r∈R,r.all jbR=true):R.flatten.all (jcT n)=true:=by
 have h:=jg5 h;rw[N2] at h ⊢;intro z hz;have:=h z hz
 cases z<;>simp_all [jbR,jcT]
structure DInv (l:List Int)(m j i:Nat)(R:List (List ZV)):Prop where
  hj:j≤l.length
  hm:m=l.length - j
  hi:i=(jdK (l.take j)).length
  hij:i<j
  hR:R.length=l.length
  ht:R.take i=(jdK (l.take j)).map eI
  hd: ∀t,i≤t→R[t]?=(l.map eI)[t]?
theorem jha {l:List Int}{j:Nat}(hj:j<l.length):jdK (l.take (j+1))=jdK (l.take j)++(if l[j]<0 then [] else [l[j]]):=by
 rw[X5 hj];unfold jdK;rw[O0p];congr 1
 by_cases h:l[j]<0<;>simp[h]
theorem DInv.skip {l:List Int}{m j i:Nat}{R:List (List ZV)}(h:DInv l m j i R)(hj:j<l.length)(he:l[j]<0):DInv l (m - 1) (j+1) i R:=by
 have hn:=jha hj;rw[if_pos he,A0] at hn;exact⟨hj,by have:=h.hm;omega,by rw[hn];exact h.hi,by have:=h.hij;omega,h.hR,by rw[hn];exact h.ht,h.hd⟩
theorem DInv.keep {l:List Int}{m j i:Nat}{R:List (List ZV)}(h:DInv l m j i R)(hj:j<l.length)(he: ¬l[j]<0):DInv l (m - 1) (j+1) (i+1) (R.set i (eI l[j])):=by
 have hn:=jha hj;rw[if_neg he] at hn;have hiR:i<R.length:=by have:=h.hR;have:=h.hij;omega
 refine⟨hj,by have:=h.hm;omega,by rw[hn,G3,← h.hi];rfl,by have:=h.hij;omega,by rw[D5];exact h.hR,?_,fun t ht=>?_⟩
 ·rw[X5 (by rw[D5];exact hiR),List.take_set_of_le (V2 _),h.ht,hn,L3,List.getElem_set_self];rfl
 ·rw[M1,if_neg (by omega)];exact h.hd t (by omega)
theorem DInv.start {l:List Int}{i:Nat}(h:l.findIdx? (fun m=>decide (m<0))=some i):DInv l (l.length - (i+1)) (i+1) i (l.map eI):=by
 obtain⟨h1,h2,h3⟩:=Z7.1 h;have hn:=jha h1;rw[if_pos (by simpa using h2),A0] at hn;have ht:jdK (l.take i)=l.take i:=by
  unfold jdK;rw[O1j];intro x hx;obtain⟨j,hj,rfl⟩:=O1i.1 hx;have:=h3 j (by omega);simpa using this
 refine⟨h1,rfl,by rw[hn,ht,C4];omega,by omega,by simp,?_,fun _ _=>rfl⟩;rw[hn,ht,List.map_take]
theorem delfi_z {l:List Int}(hb:l.length≤60)(l0:L H.length=true)(hK: ∀R:List (List ZV),R.take (jdK l).length=(jdK l).map eI→(jdK l).length≤R.length→(∀r∈R,r.all jbR=true)→K (.own H.length 0 0 (jdK l).length false) (H++[.grow 0 1 R])):
  ZC (XC tb nd) (jag Tryz.prog) 109 [.own H.length 0 0 l.length false,.func 111 []] L (H++[.grow 0 1 (l.map eI)]) K:=by
 refine K6 Gh.no (jaf (by decide)) jni (by simp) fun hL=>?_
 simp only[jjh,kkP];have hL': ∀k,L (H.length+(k+1))=true:=fun k=>by
  have:=hL k;rw[G3,O1k,Nat.add_assoc,Nat.add_comm 1 k] at this;exact this
 have HK:=Z4 hK;have HB:=Z4 hb;clear hK hb hL;with_reducible repeat' first|simp only[zQ,seval,X0, *]|simp only[jab]|apply P3|intro _
 refine idxi_z (l:=l) (p:=fun m=>decide (m<0)) (jbz (jeC _ _) (by simp)) (by have:=HB.out;omega) (fun m _ K2 k2=>jqq k2) ?_
 cases hf:l.findIdx? fun m=>decide (m<0) with
 |none=>
  have hi:idxQ (fun m:Int=>decide (m<0)) l= -1:=by simp only[idxQ,hf]
  have hl:jdK l=l:=by
   unfold jdK;rw[O1j];intro x hx;have:=Z5.1 hf x hx;simpa using this
  have hk:=HK.out (l.map eI) (by rw[hl];exact jfd) (by rw[hl];simp) (fun r hr=>by obtain⟨x,_,rfl⟩:=U6.1 hr;rfl);rw[hl] at hk;have fin:=Fin.keep (H0:=H++[.grow 0 1 (l.map eI)]) hk;clear hk hl hf;rw[hi];clear hi;with_reducible repeat' first|simp only[zQ,seval,X0, *]|simp only[jab]|apply P3|intro _
 |some i0=>
  have hi:idxQ (fun m:Int=>decide (m<0)) l=(i0:Int):=by simp only[idxQ,hf]
  have hD:=DInv.start hf;rw[hi];have hne: ¬((i0:Int)= -1):=by omega
  have hi0:=hD.hj;have e1:IntKind.i64.wrap ((i0:Int)+1)=((i0+1:Nat):Int):=by have:=HB.out;rw[Y5 _ (by omega)];omega
  clear hf hi;with_reducible repeat' first|simp only[zQ,seval,X0,e1, *]|simp only[jab]|apply P3|intro _
  refine jcV [(0,.own H.length 0 0 l.length false),(1,.func 111 [])] (l.length - (i0+1)) (fun m s' h'=> ∃j i R X,s' 6=Z64 (j:Nat)∧s' 5=Z64 (i:Nat)∧h'=H++(.grow 0 1 R::X)∧DInv l m j i R) (by repeat' (first|exact trivial|(refine⟨rfl,?_⟩)|(refine⟨by simp only[jaj,X4,reduceIte];assumption,?_⟩))) rfl ⟨i0+1,i0,_,[],rfl,rfl,rfl,hD⟩ ?_;clear hD hne hi0 e1;rintro m s' h' ⟨j,i,R,X,f6,f5,rfl,hD⟩ ⟨f0,f1,-⟩;have hjl:=hD.hj;have hij:=hD.hij;have hR:=hD.hR;have hle:l.length≤R.length:=Nat.le_of_eq hR.symm;have HD:=Z4 hD;have HR:=Z4 hR;clear hD hR;by_cases hj:j<l.length
  ·have g1:(j:Int)<(l.length:Int):=by omega
   have hx:R[j]?=some (eI l[j]):=by rw[HD.out.hd j (by omega)];simp[hj]
   have hy:R[i]?=some (eI (l[i]'(by omega))):=by rw[HD.out.hd i (by omega)];simp[show i<l.length by omega]
   have hil:i<l.length:=by omega
   have hiR:i<R.length:=by omega
   have hjR:j<R.length:=by omega
   have hm:m - 1<m:=by have:=HD.out.hm;omega
   have wj:IntKind.i64.wrap ((j:Int)+1)=((j+1:Nat):Int):=by have:=HB.out;rw[Y5 _ (by omega)];omega
   have wi:IntKind.i64.wrap ((i:Int)+1)=((i+1:Nat):Int):=by have:=HB.out;rw[Y5 _ (by omega)];omega
   have sk:=fun he=>HD.out.skip hj he
   have kp:=fun he=>HD.out.keep hj he
   obtain⟨q,hq⟩: ∃q,q=l[j]:=⟨_,rfl⟩;obtain⟨q',hq'⟩: ∃q',q'=l[i]'(by omega):=⟨_,rfl⟩;rw[←hq] at hx sk kp;rw[←hq'] at hy;have SK:=Z4 sk;have KP:=Z4 kp;have g0: ∀A Y,(H++(A::Y))[H.length]?=some A:=fun A Y=>jeC A Y
   have gs: ∀A C Y,(H++(A::Y)).set H.length C=H++(C::Y):=fun A C Y=>jko A C Y
   have a0: ∀A C:ZB,(H++(A::(X++[C])))[H.length+(X.length+1)]?=some C:=fun A C=>mv_atX A C
   have s0: ∀A C D:ZB,(H++(A::(X++[C]))).set (H.length+(X.length+1)) D=H++(A::(X++[D])):=fun A C D=>mv_stX A C D
   have lx:L (H.length+(X.length+1))=true:=hL' _;clear hq hq' sk kp hjl hij;have hj':j<l.length:=hj;with_reducible repeat' first|simp only[zQ,seval,X0,hx,hy,g0,gs,a0,s0,lx,wj,wi, *]|simp only[jab]|apply P3|intro _
   refine jqq (x:=q) ?_;by_cases he:q<0
   ·have hd:decide (q<0)=true:=decide_eq_true he
    rw[hd];have fin:=SK.out he;clear hd he;with_reducible repeat' first|simp only[zQ,seval,X0,hx,hy,g0,gs,a0,s0,lx,wj,wi, *]|simp only[jab]|apply P3|intro _
    all_goals exact⟨_,hm,_,rfl,_,rfl,_,⟨_,rfl⟩,fin⟩
   ·have hd:decide (q<0)=false:=decide_eq_false he
    rw[hd];have fin:=KP.out he;clear hd he;with_reducible repeat' first|simp only[zQ,seval,X0,hx,hy,g0,gs,a0,s0,lx,wj,wi, *]|simp only[jab]|apply P3|intro _
    all_goals exact⟨_,hm,_,rfl,_,rfl,_,⟨_,rfl⟩,fin⟩
  ·have hjn:j=l.length:=by omega
   have g1:((j:Int)<(l.length:Int))=False:=by simp;omega
   have hin:i<l.length:=by omega
   have hlose:jdK (l.take j)=jdK l:=by rw[hjn,K7]
   have hil:i=(jdK l).length:=by rw[HD.out.hi,hlose]
   have hRt:=HD.out.ht;rw[hlose] at hRt;obtain⟨R2,hR2⟩: ∃R2,R2=R.take i++(O6 (l.length - i) [Z64 (0:Int)]).take (min (O6 (l.length - i) [Z64 (0:Int)]).length (l.length - i))++R.drop (i+min (O6 (l.length - i) [Z64 (0:Int)]).length (l.length - i)):=⟨_,rfl⟩;have hiR:i≤R.length:=by omega
   have c1: ∀Y,cutZ (H++(.grow 0 1 R::Y)) 1 i l.length l.length false (.own H.length 0 0 l.length false)=some (.own H.length 0 i (l.length - i) false):=fun Y=>by
    simp only[cutZ,jeC];rw[if_pos ⟨trivial,trivial,by omega,V2 _,V2 _,by omega⟩];simp
   have c2: ∀Y,cutZ (H++(.grow 0 1 R2::Y)) 1 0 i l.length false (.own H.length 0 0 l.length false)=some (.own H.length 0 0 i false):=fun Y=>by
    simp only[cutZ,jeC];rw[if_pos ⟨trivial,trivial,Nat.zero_le _,by omega,V2 _,by rw[hR2];simp;omega⟩];simp
   have c3: ∀Y,jnu L (H++(.grow 0 1 R::Y)) 1 (O6 (l.length - i) [Z64 (0:Int)]) (.own H.length 0 i (l.length - i) false)=some (l.length - i,H++(.grow 0 1 R2::Y)):=fun Y=>by
    simp only[jnu,jeC];rw[if_pos ⟨trivial,trivial,by omega,l0,by omega⟩,hR2,jko];simp
   have fin:Fin (H++[.grow 0 1 (l.map eI)]) (.own H.length 0 0 i false) (H++(.grow 0 1 R2::X)) K:=by
    have hp: ∀r∈R2,r.all jbR=true:=fun r hr=>by
     rw[hR2] at hr;simp only[O3] at hr;rcases hr with (hr|hr)|hr
     ·rw[hRt] at hr;obtain⟨x,_,rfl⟩:=U6.1 hr;rfl
     ·rw[(List.mem_replicate.1 (M6 hr)).2];rfl
     ·obtain⟨t,ht,rfl⟩:=M3 hr
      have ht2:R[i+min (O6 (l.length - i) [Z64 (0:Int)]).length (l.length - i)+t]?=some ((R.drop (i+min (O6 (l.length - i) [Z64 (0:Int)]).length (l.length - i)))[t]):=by
       rw[←List.getElem?_drop,U1 ht]
      rw[HD.out.hd _ (by omega)] at ht2;obtain⟨x,_,h⟩:=U6.1 (List.mem_of_getElem? ht2);rw[←h];rfl
    have hh:H++(.grow 0 1 R2::X)=((H++[ZB.grow 0 1 (l.map eI)])++X).set H.length (.grow 0 1 R2):=by rw[M8,List.singleton_append,jko]
    refine Fin.trunc (by rw[hh];exact Mods.set (K4 _ _) (mv_refs hp)) (by simp[refs,jcT]) ?_;have:(H++(.grow 0 1 R2::X)).take (H++[ZB.grow 0 1 (l.map eI)]).length=H++[.grow 0 1 R2]:=by
     rw[G3,O1k,show H++(ZB.grow 0 1 R2::X)=(H++[.grow 0 1 R2])++X by simp,O1l (by simp)]
    rw[this,hil];refine HK.out R2 ?_ (by rw[hR2,← hil];simp;omega) hp;rw[hR2,← hil,M8,O1l (by simp;omega),hRt]
   clear hR2 hRt hlose hil hjl hij hjn;have g0: ∀A Y,(H++(A::Y))[H.length]?=some A:=fun A Y=>jeC A Y
   with_reducible repeat' first|simp only[zQ,seval,X0,c1,c2,c3,g0,jug,juf,Q9,Option.isSome_none,z_clear,zh_clear,zu_clear,zf_clear,jsq,jsp,zr_clear,O0o, *]|simp only[jab]|apply P3|intro _
end
section
open Go Go.RowKit
section
variable {tb:List (FuncId×Bool)}{nd:Bool}{fl:Nat→Bool}{h:Heap}{K:AV→Heap→Prop}
abbrev U64 (n:Int):AV:= .val (.int .u64 n)
theorem jjy (n:Nat)(hn:n≤1000):binV .and (.int .u64 (n:Nat)) (.int .u64 4294967295)=some (.int .u64 (n:Nat)):=by
 have h: ∀n:_root_.Fin 1001,(match binV .and (.int .u64 ((n.val:Nat):Int)) (.int .u64 4294967295) with|some (.int .u64 z)=>z==((n.val:Nat):Int)|_=>false)=true:=by decide+kernel
 have:=h ⟨n,by omega⟩
 revert this
 simp only;generalize binV .and (.int .u64 ((n:Nat):Int)) (.int .u64 4294967295)=r;intro this;split at this
 ·simp at this;rw[this]
 ·cases this
theorem jiB (n:Nat)(hn:n≤1000):binV .shr (.int .u64 (n:Nat)) (.int .u64 32)=some (.int .u64 0):=by
 have h: ∀n:_root_.Fin 1001,(match binV .shr (.int .u64 ((n.val:Nat):Int)) (.int .u64 32) with|some (.int .u64 z)=>z==0|_=>false)=true:=by decide+kernel
 have:=h ⟨n,by omega⟩
 revert this
 generalize binV .shr (.int .u64 ((n:Nat):Int)) (.int .u64 32)=r;intro this;split at this
 ·simp at this;rw[this]
 ·cases this
theorem mul_u {a b:Int}:binV .mul (.int .u64 a) (.int .u64 b)=some (.int .u64 (IntKind.u64.wrap (a*b))):=by simp[binV]
theorem add_u {a b:Int}:binV .add (.int .u64 a) (.int .u64 b)=some (.int .u64 (IntKind.u64.wrap (a+b))):=by simp[binV]
theorem gtr_u {a b:Int}:binV .gtr (.int .u64 a) (.int .u64 b)=some (.bool (decide (b<a))):=by simp[binV]
theorem mul64_am {n:Nat}(hn:n≤1000)(hK:K (.tuple [U64 0,U64 (n:Nat)]) h):AC (XC tb nd) (jag Tryz.prog) 108 [U64 1,U64 (n:Nat)] fl h K:=by
 refine O0u (by first|exact jgQ|rfl) jrD (by simp) ?_;simp only[jkQ,kkP];have a1:binV .and (.int .u64 1) (.int .u64 4294967295)=some (.int .u64 1):=jjy 1 (by omega);have s1:binV .shr (.int .u64 1) (.int .u64 32)=some (.int .u64 0):=jiB 1 (by omega);have a0:binV .and (.int .u64 0) (.int .u64 4294967295)=some (.int .u64 0):=jjy 0 (by omega);have s0:binV .shr (.int .u64 0) (.int .u64 32)=some (.int .u64 0):=jiB 0 (by omega);have an:=jjy n hn;have sn:=jiB n hn;have w0:IntKind.u64.wrap 0=0:=by rfl
 have wn:IntKind.u64.wrap (n:Int)=(n:Int):=O1m _ (by omega);clear hn;repeat' (first|(simp only[jct,jcQ,jcf,jb8,jbl,jb7,jc9,jb6,jbL,ja7,jcu,jbM,jaV,jaQ,jar,ja5,jbH,jaG,jaI,jbe,jeK,jcg,jdb,jb9,jbt,jch,jbp,jaF,jbC,jaC,jbd,jaW,jcY,jbs,jbb,jbG,jeJ,jcj,jbF,jaD,jaB,jaL,jbE,jbD,jaS,jaT,jci,jbN,jaP,jaH,jbc,jda,jba,jaU,jbI,jbV,jcL,jeq,jb1,jb2,jb3,jb4,jb5,jbZ,jbT,jbY,jb0,jcW,jaN,P7,O4,and_assoc,decide_false,decide_true,P8,P9,S3,N6,exists_false,S4,O0v,AV.val.injEq,AV.ptr.injEq,AV.slice.injEq,AV.func.injEq,AV.tuple.injEq,AV.agg.injEq,Value.bool.injEq,Value.int.injEq,U4,exists_eq_left',exists_eq_left,exists_and_left,exists_and_right,and_true,true_and,decide_eq_true_eq,decide_eq_false_iff_not,if_true,if_false,A9,beq_true,beq_false,ne_eq,not_true_eq_false,not_false_eq_true,reduceCtorEq,S5,S6,B6,O0w,A0,X4,reduceIte,ite_true,ite_false,or_true,true_or,or_false,false_or,resA,jaR,true_imp_iff,false_imp_iff,implies_true,imp_false,and_self,imp_self,and_false,false_and,forall_const,jbJ,jbK,ja0,jbj,jbi,jbh,jbf,jbg,jaO,jaY,jaX,jaZ,Q3,G9,O0x,O0y,O0z,ldA,Q7,O1a,Q8,Q9,Q6,S7,U9,S8,S9,O1b,M8,N9,B8,A0,G3,jdj,jdi,jdl,jdk,jem,jeT,jen,jeU,jcX,F3,F4,O1c,W1,W4,O1d,F5,Q5,O1e,X0,F6,and_self,C8,M5,O1f,a1,s1,a0,s0,an,sn,mul_u,add_u,Int.one_mul,Int.zero_mul,Int.mul_zero,Int.add_zero,Int.zero_add,w0,wn, *])|(simp only[goO,ja7,jar,goC])|(with_reducible apply P3)|(with_reducible intro _))
theorem mul_am {n:Nat}(hn:n≤1000)(hK:K (.tuple [U64 0,U64 (n:Nat)]) h):AC (XC tb nd) (jag Tryz.prog) 74 [U64 1,U64 (n:Nat)] fl h K:=by
 refine O0u (by first|exact jgQ|rfl) f_mk_mul (by simp) ?_;simp only[jqG,kkP];have HN:=Z4 hn;clear hn;repeat' (first|(simp only[jct,jcQ,jcf,jb8,jbl,jb7,jc9,jb6,jbL,ja7,jcu,jbM,jaV,jaQ,jar,ja5,jbH,jaG,jaI,jbe,jeK,jcg,jdb,jb9,jbt,jch,jbp,jaF,jbC,jaC,jbd,jaW,jcY,jbs,jbb,jbG,jeJ,jcj,jbF,jaD,jaB,jaL,jbE,jbD,jaS,jaT,jci,jbN,jaP,jaH,jbc,jda,jba,jaU,jbI,jbV,jcL,jeq,jb1,jb2,jb3,jb4,jb5,jbZ,jbT,jbY,jb0,jcW,jaN,P7,O4,and_assoc,decide_false,decide_true,P8,P9,S3,N6,exists_false,S4,O0v,AV.val.injEq,AV.ptr.injEq,AV.slice.injEq,AV.func.injEq,AV.tuple.injEq,AV.agg.injEq,Value.bool.injEq,Value.int.injEq,U4,exists_eq_left',exists_eq_left,exists_and_left,exists_and_right,and_true,true_and,decide_eq_true_eq,decide_eq_false_iff_not,if_true,if_false,A9,beq_true,beq_false,ne_eq,not_true_eq_false,not_false_eq_true,reduceCtorEq,S5,S6,B6,O0w,A0,X4,reduceIte,ite_true,ite_false,or_true,true_or,or_false,false_or,resA,jaR,true_imp_iff,false_imp_iff,implies_true,imp_false,and_self,imp_self,and_false,false_and,forall_const,jbJ,jbK,ja0,jbj,jbi,jbh,jbf,jbg,jaO,jaY,jaX,jaZ,Q3,G9,O0x,O0y,O0z,ldA,Q7,O1a,Q8,Q9,Q6,S7,U9,S8,S9,O1b,M8,N9,B8,A0,G3,jdj,jdi,jdl,jdk,jem,jeT,jen,jeU,jcX,F3,F4,O1c,W1,W4,O1d,F5,Q5,O1e,X0,F6,and_self,C8,M5,O1f, *])|(simp only[goO,ja7,jar,goC])|(with_reducible apply P3)|(with_reducible intro _))
 refine mul64_am HN.out ?_;repeat' (first|(simp only[jct,jcQ,jcf,jb8,jbl,jb7,jc9,jb6,jbL,ja7,jcu,jbM,jaV,jaQ,jar,ja5,jbH,jaG,jaI,jbe,jeK,jcg,jdb,jb9,jbt,jch,jbp,jaF,jbC,jaC,jbd,jaW,jcY,jbs,jbb,jbG,jeJ,jcj,jbF,jaD,jaB,jaL,jbE,jbD,jaS,jaT,jci,jbN,jaP,jaH,jbc,jda,jba,jaU,jbI,jbV,jcL,jeq,jb1,jb2,jb3,jb4,jb5,jbZ,jbT,jbY,jb0,jcW,jaN,P7,O4,and_assoc,decide_false,decide_true,P8,P9,S3,N6,exists_false,S4,O0v,AV.val.injEq,AV.ptr.injEq,AV.slice.injEq,AV.func.injEq,AV.tuple.injEq,AV.agg.injEq,Value.bool.injEq,Value.int.injEq,U4,exists_eq_left',exists_eq_left,exists_and_left,exists_and_right,and_true,true_and,decide_eq_true_eq,decide_eq_false_iff_not,if_true,if_false,A9,beq_true,beq_false,ne_eq,not_true_eq_false,not_false_eq_true,reduceCtorEq,S5,S6,B6,O0w,A0,X4,reduceIte,ite_true,ite_false,or_true,true_or,or_false,false_or,resA,jaR,true_imp_iff,false_imp_iff,implies_true,imp_false,and_self,imp_self,and_false,false_and,forall_const,jbJ,jbK,ja0,jbj,jbi,jbh,jbf,jbg,jaO,jaY,jaX,jaZ,Q3,G9,O0x,O0y,O0z,ldA,Q7,O1a,Q8,Q9,Q6,S7,U9,S8,S9,O1b,M8,N9,B8,A0,G3,jdj,jdi,jdl,jdk,jem,jeT,jen,jeU,jcX,F3,F4,O1c,W1,W4,O1d,F5,Q5,O1e,X0,F6,and_self,C8,M5,O1f, *])|(simp only[goO,ja7,jar,goC])|(with_reducible apply P3)|(with_reducible intro _))
def copyA (fl:Nat→Bool)(h:Heap)(k:Nat)(x y:AV):Option (AV×Heap):=match x,jdN h k y with
    | .val (.slice none 0 0),some _=>some (.val (.int .i64 0),h)
    | .hole,some _=>some (.val (.int .i64 0),h)
    | .slice id off len _ _ _,some (n,cs)=>match wr fl h id off (cs.take (min n len*k)) with
      |some h'=>some (.val (.int .i64 (min n len:Nat)),h')
      |none=>none
    |_,_=>none
theorem jqV {X:XT}{F:FuncId→Option jbq}{top:Option (Nat×Option (List Nat))}{s:jal}{kk:Nat}{x y:Opd}:A1 X F top fl (.copy kk x y) s h K↔ ∃v h',copyA fl h kk (x.ev s) (y.ev s)=some (v,h')∧K v h':=Iff.rfl
theorem jnt {c cs:List AV}{o ln lb ns:Nat}{ex:Bool}{src:AV}(hs:jdN (h++[some c]) 1 src=some (ns,cs))(hf:fl h.length=true)(hfit:o+(cs.take (min ns ln*1)).length≤c.length):
  copyA fl (h++[some c]) 1 (.slice h.length o ln lb ex 1) src=some (.val (.int .i64 (min ns ln:Nat)),h++[some (c.take o++cs.take (min ns ln)++c.drop (o+(cs.take (min ns ln)).length))]):=by
 have hb:blk (h++[some c]) h.length=some c:=by rw[jjv];rfl
 rw[O1f] at hfit;simp only[copyA,hs,O1f,wr,hb];rw[if_pos ⟨hf,hfit⟩];simp only[B7 _ _ (V2 _),B4,S8]
theorem row_last {c:List AV}{o ln lb:Nat}{ex:Bool}(hl:o+ln≤c.length):jdN (h++[some c]) 1 (.slice h.length o ln lb ex 1)=some (ln,(c.drop o).take ln):=by
 have hb:blk (h++[some c]) h.length=some c:=by rw[jjv];rfl
 simp only[jdN,rd,hb,O1f];rw[if_pos hl]
theorem cut_lo {id o ln:Nat}{m:Nat}(hm:m≤ln):jc3 1 (.slice id o ln ln true 1) (some (I64 (m:Nat))) none none=some (.slice id (o+m) (ln - m) (ln - m) true 1):=by
 simp[jc3,jcJ,jiV,hm]
theorem cut_hi {id o ln:Nat}{m:Nat}(hm:m≤ln):jc3 1 (.slice id o ln ln true 1) none (some (I64 (m:Nat))) none=some (.slice id o m ln true 1):=by
 simp[jc3,jcJ,jiV,hm]
def repC (x:Int)(m n:Nat):List AV:=O6 m (I64 x)++O6 (n - m) (I64 0)
theorem jhU {x:Int}{m n:Nat}(h:m≤n):(repC x m n).length=n:=by simp[repC];omega
theorem jt3 {x:Int}{m n j:Nat}(h:m≤n)(hj:j≤m)(hmj:m+j≤n):(repC x m n).take m++(((repC x m n).drop 0).take m).take j++(repC x m n).drop (m+j)=repC x (m+j) n:=by
 have e:(repC x m n).take m=O6 m (I64 x):=by unfold repC;rw[O1l (by simp)]
 rw[W1,e,List.take_replicate,C7 hj];unfold repC;rw[List.drop_append,O0o,List.drop_eq_nil_of_le (by simp)];rw[D8,O1n,B8,List.replicate_append_replicate,Nat.sub_sub]
theorem jt2 {lv:AV}{x:Int}{n:Nat}(hn:n≤1000)(hl:IL h lv [x])(hf: ∀i,h.length≤i→fl i=true)(hK:K (.slice h.length 0 n n true 1) (h++[some ((O6 n x).map I64)])):
  AC (XC tb nd) (jag Tryz.prog) 42 [lv,I64 (n:Nat)] fl h K:=by
 refine O0u (by first|exact jgQ|rfl) joN (by simp) ?_;simp only[jjf,kkP];have HN:=Z4 hn;have l1:=hl.len;have w1:IntKind.u64.wrap 1=1:=by rfl
 have wn:IntKind.u64.wrap (n:Int)=(n:Int):=O1m _ (by omega);have wi:IntKind.i64.wrap (n:Int)=(n:Int):=Y5 _ (by omega);have g0: ¬((n:Int)<0):=by omega
 have g1: ¬((0:Int)<0):=by omega
 have g2: ¬((9223372036854775807:Int)<(n:Int)):=by omega
 have hr:n*8≤reach:=by unfold reach;omega
 have HL:=Z4 hl;have HF:=Z4 hf;have HK:=Z4 hK;clear hl hf hK hn;simp only[O1k] at l1;repeat' (first|(simp only[jct,jcQ,jcf,jb8,jbl,jb7,jc9,jb6,jbL,ja7,jcu,jbM,jaV,jaQ,jar,ja5,jbH,jaG,jaI,jbe,jeK,jcg,jdb,jb9,jbt,jch,jbp,jaF,jbC,jaC,jbd,jaW,jcY,jbs,jbb,jbG,jeJ,jcj,jbF,jaD,jaB,jaL,jbE,jbD,jaS,jaT,jci,jbN,jaP,jaH,jbc,jda,jba,jaU,jbI,jbV,jcL,jeq,jb1,jb2,jb3,jb4,jb5,jbZ,jbT,jbY,jb0,jcW,jaN,P7,O4,and_assoc,decide_false,decide_true,P8,P9,S3,N6,exists_false,S4,O0v,AV.val.injEq,AV.ptr.injEq,AV.slice.injEq,AV.func.injEq,AV.tuple.injEq,AV.agg.injEq,Value.bool.injEq,Value.int.injEq,U4,exists_eq_left',exists_eq_left,exists_and_left,exists_and_right,and_true,true_and,decide_eq_true_eq,decide_eq_false_iff_not,if_true,if_false,A9,beq_true,beq_false,ne_eq,not_true_eq_false,not_false_eq_true,reduceCtorEq,S5,S6,B6,O0w,A0,X4,reduceIte,ite_true,ite_false,or_true,true_or,or_false,false_or,resA,jaR,true_imp_iff,false_imp_iff,implies_true,imp_false,and_self,imp_self,and_false,false_and,forall_const,jbJ,jbK,ja0,jbj,jbi,jbh,jbf,jbg,jaO,jaY,jaX,jaZ,Q3,G9,O0x,O0y,O0z,ldA,Q7,O1a,Q8,Q9,Q6,S7,U9,S8,S9,O1b,M8,N9,B8,A0,G3,jdj,jdi,jdl,jdk,jem,jeT,jen,jeU,jcX,F3,F4,O1c,W1,W4,O1d,F5,Q5,O1e,X0,F6,and_self,C8,M5,O1f,l1,w1,wn,Int.natCast_one, *])|(simp only[goO,ja7,jar,goC])|(with_reducible apply P3)|(with_reducible intro _))
 refine mul_am HN.out ?_;have hflat:(O6 n [I64 0]).flatten=repC x 0 n:=by
  unfold repC;simp only[List.replicate_zero,B8,Nat.sub_zero];induction n with
  |zero=>rfl
  |succ n ih=>simp[A5]
 have hrow:jdN (h++[some (repC x 0 n)]) 1 lv=some (1,[I64 x]):=(HL.out.ext _).row;have hc:=jnt (fl:=fl) (o:=0) (ln:=n) (lb:=n) (ex:=true) hrow (HF.out _ (V2 _)) (by rw[jhU (by omega)];simp;omega);have hc2:(repC x 0 n).take 0++[I64 x].take (min 1 n)++(repC x 0 n).drop (0+([I64 x].take (min 1 n)).length)=repC x (min 1 n) n:=by
  rcases Nat.eq_zero_or_pos n with rfl|hp
  ·rfl
  ·rw[C7 hp]
   unfold repC;simp[O1n]
 rw[hc2] at hc;clear hc2 hrow;have hln: ∀lb,lenA (.slice h.length 0 n lb true 1)=some n:=fun _=>rfl
 obtain⟨m0,hm0⟩: ∃m0,m0=min 1 n:=⟨_,rfl⟩;rw[←hm0] at hc;have HM:=Z4 hm0;clear hm0;repeat' (first|(simp only[jct,jcQ,jcf,jb8,jbl,jb7,jc9,jb6,jbL,ja7,jcu,jbM,jaV,jaQ,jar,ja5,jbH,jaG,jaI,jbe,jeK,jcg,jdb,jb9,jbt,jch,jbp,jaF,jbC,jaC,jbd,jaW,jcY,jbs,jbb,jbG,jeJ,jcj,jbF,jaD,jaB,jaL,jbE,jbD,jaS,jaT,jci,jbN,jaP,jaH,jbc,jda,jba,jaU,jbI,jbV,jcL,jeq,jb1,jb2,jb3,jb4,jb5,jbZ,jbT,jbY,jb0,jcW,jaN,P7,O4,and_assoc,decide_false,decide_true,P8,P9,S3,N6,exists_false,S4,O0v,AV.val.injEq,AV.ptr.injEq,AV.slice.injEq,AV.func.injEq,AV.tuple.injEq,AV.agg.injEq,Value.bool.injEq,Value.int.injEq,U4,exists_eq_left',exists_eq_left,exists_and_left,exists_and_right,and_true,true_and,decide_eq_true_eq,decide_eq_false_iff_not,if_true,if_false,A9,beq_true,beq_false,ne_eq,not_true_eq_false,not_false_eq_true,reduceCtorEq,S5,S6,B6,O0w,A0,X4,reduceIte,ite_true,ite_false,or_true,true_or,or_false,false_or,resA,jaR,true_imp_iff,false_imp_iff,implies_true,imp_false,and_self,imp_self,and_false,false_and,forall_const,jbJ,jbK,ja0,jbj,jbi,jbh,jbf,jbg,jaO,jaY,jaX,jaZ,Q3,G9,O0x,O0y,O0z,ldA,Q7,O1a,Q8,Q9,Q6,S7,U9,S8,S9,O1b,M8,N9,B8,A0,G3,jdj,jdi,jdl,jdk,jem,jeT,jen,jeU,jcX,F3,F4,O1c,W1,W4,O1d,F5,Q5,O1e,X0,F6,and_self,C8,M5,O1f,jqV,gtr_u,g1,g2,wi,jaN,hr,V2,beq_self_eq_true,hflat,hc, *])|(simp only[goO,ja7,jar,goC])|(with_reducible apply P3)|(with_reducible intro _))
 refine AW.named fun S hS=>?_
 have s7:S 7= .slice h.length 0 n n true 1:=by rw[hS];rfl
 have s8:S 8=I64 (m0:Nat):=by rw[hS];rfl
 clear hS hc hflat;refine jlY (fun r s' h'=> ∃m:Nat,r=n - m∧m≤n∧(n=0∨0<m)∧s' 8=I64 (m:Nat)∧h'=h++[some (repC x m n)]) (n - m0) ⟨m0,rfl,by have:=HM.out;omega,by have:=HM.out;omega,s8,rfl⟩ ?_;clear s8;rintro r s' h' ⟨m,rfl,hmn,hpos,s8,rfl⟩ hs;have f7:=(hs 7 (by decide)).trans s7;clear hs s7;by_cases hlt:m<n
 ·have g3:(m:Int)<(n:Int):=by omega
  have c1:=cut_lo (id:=h.length) (o:=0) hmn;have c2:=cut_hi (id:=h.length) (o:=0) hmn;rw[C8] at c1;have hrow:=row_last (h:=h) (c:=repC x m n) (o:=0) (ln:=m) (lb:=n) (ex:=true) (by rw[jhU hmn];omega);have htl:(((repC x m n).drop 0).take m).length=m:=by rw[C4,W1,jhU hmn];omega
  have hc:=jnt (fl:=fl) (o:=m) (ln:=n - m) (lb:=n - m) (ex:=true) hrow (HF.out _ (V2 _)) (by rw[jhU hmn,C4,htl];omega);rw[show (List.take (min m (n - m)) (((repC x m n).drop 0).take m)).length=min m (n - m) by rw[C4,htl];omega] at hc;rw[jt3 hmn (Nat.min_le_left _ _) (by omega)] at hc;have wa:IntKind.i64.wrap ((m:Int)+((min m (n - m):Nat):Int))=((m+min m (n - m):Nat):Int):=by have:=HN.out;rw[Y5 _ (by omega)];omega
  obtain⟨q,hq⟩: ∃q,q=min m (n - m):=⟨_,rfl⟩;rw[←hq] at hc wa;have fin: ∃r2,r2<n - m∧ ∃m2:Nat,r2=n - m2∧m2≤n∧(n=0∨0<m2)∧((m+q:Nat):Int)=((m2:Nat):Int)∧h++[some (repC x (m+q) n)]=h++[some (repC x m2 n)]:=
   ⟨n - (m+q),by omega,m+q,rfl,by omega,by omega,rfl,rfl⟩
  have FI:=Z4 fin;clear hrow htl hq fin g0 g1 g2 hpos hmn;repeat' (first|(simp only[jct,jcQ,jcf,jb8,jbl,jb7,jc9,jb6,jbL,ja7,jcu,jbM,jaV,jaQ,jar,ja5,jbH,jaG,jaI,jbe,jeK,jcg,jdb,jb9,jbt,jch,jbp,jaF,jbC,jaC,jbd,jaW,jcY,jbs,jbb,jbG,jeJ,jcj,jbF,jaD,jaB,jaL,jbE,jbD,jaS,jaT,jci,jbN,jaP,jaH,jbc,jda,jba,jaU,jbI,jbV,jcL,jeq,jb1,jb2,jb3,jb4,jb5,jbZ,jbT,jbY,jb0,jcW,jaN,P7,O4,and_assoc,decide_false,decide_true,P8,P9,S3,N6,exists_false,S4,O0v,AV.val.injEq,AV.ptr.injEq,AV.slice.injEq,AV.func.injEq,AV.tuple.injEq,AV.agg.injEq,Value.bool.injEq,Value.int.injEq,U4,exists_eq_left',exists_eq_left,exists_and_left,exists_and_right,and_true,true_and,decide_eq_true_eq,decide_eq_false_iff_not,if_true,if_false,A9,beq_true,beq_false,ne_eq,not_true_eq_false,not_false_eq_true,reduceCtorEq,S5,S6,B6,O0w,A0,X4,reduceIte,ite_true,ite_false,or_true,true_or,or_false,false_or,resA,jaR,true_imp_iff,false_imp_iff,implies_true,imp_false,and_self,imp_self,and_false,false_and,forall_const,jbJ,jbK,ja0,jbj,jbi,jbh,jbf,jbg,jaO,jaY,jaX,jaZ,Q3,G9,O0x,O0y,O0z,ldA,Q7,O1a,Q8,Q9,Q6,S7,U9,S8,S9,O1b,M8,N9,B8,A0,G3,jdj,jdi,jdl,jdk,jem,jeT,jen,jeU,jcX,F3,F4,O1c,W1,W4,O1d,F5,Q5,O1e,X0,F6,and_self,C8,M5,O1f,jqV,c1,c2,hc,wa,hln, *])|(simp only[goO,ja7,jar,goC])|(with_reducible apply P3)|(with_reducible intro _))
  exact FI.out
 ·have hm:m=n:=by omega
  subst hm;have g3:((m:Int)<(m:Int))=False:=by simp
  have hrp:repC x m m=(O6 m x).map I64:=by unfold repC;simp
  have fin:K (.slice h.length 0 m m true 1) (h++[some (repC x m m)]):=by rw[hrp];exact HK.out
  clear hrp;clear g0 g1 g2;have g4: ¬((m:Int)<(m:Int)):=by omega
  repeat' (first|(simp only[jct,jcQ,jcf,jb8,jbl,jb7,jc9,jb6,jbL,ja7,jcu,jbM,jaV,jaQ,jar,ja5,jbH,jaG,jaI,jbe,jeK,jcg,jdb,jb9,jbt,jch,jbp,jaF,jbC,jaC,jbd,jaW,jcY,jbs,jbb,jbG,jeJ,jcj,jbF,jaD,jaB,jaL,jbE,jbD,jaS,jaT,jci,jbN,jaP,jaH,jbc,jda,jba,jaU,jbI,jbV,jcL,jeq,jb1,jb2,jb3,jb4,jb5,jbZ,jbT,jbY,jb0,jcW,jaN,P7,O4,and_assoc,decide_false,decide_true,P8,P9,S3,N6,exists_false,S4,O0v,AV.val.injEq,AV.ptr.injEq,AV.slice.injEq,AV.func.injEq,AV.tuple.injEq,AV.agg.injEq,Value.bool.injEq,Value.int.injEq,U4,exists_eq_left',exists_eq_left,exists_and_left,exists_and_right,and_true,true_and,decide_eq_true_eq,decide_eq_false_iff_not,if_true,if_false,A9,beq_true,beq_false,ne_eq,not_true_eq_false,not_false_eq_true,reduceCtorEq,S5,S6,B6,O0w,A0,X4,reduceIte,ite_true,ite_false,or_true,true_or,or_false,false_or,resA,jaR,true_imp_iff,false_imp_iff,implies_true,imp_false,and_self,imp_self,and_false,false_and,forall_const,jbJ,jbK,ja0,jbj,jbi,jbh,jbf,jbg,jaO,jaY,jaX,jaZ,Q3,G9,O0x,O0y,O0z,ldA,Q7,O1a,Q8,Q9,Q6,S7,U9,S8,S9,O1b,M8,N9,B8,A0,G3,jdj,jdi,jdl,jdk,jem,jeT,jen,jeU,jcX,F3,F4,O1c,W1,W4,O1d,F5,Q5,O1e,X0,F6,and_self,C8,M5,O1f,hln, *])|(simp only[goO,ja7,jar,goC])|(with_reducible apply P3)|(with_reducible intro _))
theorem ZR.ownEx {w:Wd}{i g off len id o lb k:Nat}(h:ZR w (.own i g off len false) (.slice id o len lb false k)):ZR w (.own i g off len false) (.slice id o len lb true k):=by
 cases h with
 |fr hf=>cases hf
 |own h1 h2 h3 h4=>
  refine .own h1 (fun g' k' rows hb=>⟨(h2 g' k' rows hb).1,fun he=>?_⟩) (fun id hid=>h3 id hid) rfl;rcases (h2 g' k' rows hb).2 he with⟨_,_,_,_,e|⟨_,_,_,e,_⟩⟩|⟨id2,b,lb2,ex2,row,q1,q2,q3,q4,q5,q6,q7⟩
  ·cases e
  ·cases e
  ·injection q2 with t1 t2 t3 t4 t5 t6
   subst t1;subst t2;subst t4;subst t6
   exact .inr ⟨_,b,_,true,row,q1,rfl,q3,q4,q5,q6,fun h=>by cases h⟩
end
section
variable {tb:List (FuncId×Bool)}{nd:Bool}{L:Nat→Bool}{H:ZH}{K:ZV→ZH→Prop}
theorem jp7 {z:ZV}{x:Int}{n:Nat}(hz:ja2 H 1 z=some [[Z64 x]])(hn:n≤1000)(hK:K (.own H.length 0 0 n false) (H++[.grow 0 1 ((O6 n x).map eI)])):
  ZC (XC tb nd) (jag Tryz.prog) 42 [z,Z64 (n:Nat)] L H K:=by
 intro fl w args r e ha;subst e;obtain⟨a,ha0,ha1⟩:=ha.get (i:=0) rfl;obtain⟨b,hb0,hb1⟩:=ha.get (i:=1) rfl;have e2:args=[a,b]:=by
  have:=ha.1;match args,this,ha0,hb0 with
  |[x,y],_,hv0,hu0=>simp at hv0 hu0;rw[hv0,hu0]
 subst e2;have e3:=hb1.val_inv;subst e3;refine jt2 hn (il_of r ha1 (l:=[x]) hz) r.fresh ?_;have hnew:NewI w.h (w.h++[some ((O6 n x).map I64)]) (.slice w.h.length 0 n n false 1) (O6 n x):=by
  refine⟨⟨by simp,.inr ⟨w.h.length,n,(O6 n x).map I64,by simp,by simp,by simp,by rw[jjv];rfl,by simp⟩⟩,by simp[idOf],Keep.ext _ _⟩
 obtain⟨w',q1,q2,q3,q4,q5⟩:=newI_w r hnew;rw[O0o] at q5;exact⟨_,w',q1,q3,q4,q5.ownEx,by rw[q2];exact hK⟩
end
end
section
open Go Go.RowKit
section
variable {L:Nat→Bool}{H:ZH}{K:ZV→ZH→Prop}
end
abbrev Th:=List Int×Int×Bool
abbrev TB:=Option Nat×Th
abbrev plZ (x:TB):ZV:=match x.1 with
  |none=> .fz 1 false []
  |some j=> .own j 0 0 x.2.1.length false
def eT (x:TB):List ZV:=[plZ x,Z64 x.2.2.1,ZBo x.2.2.2]
structure MkAt (H:ZH)(p t g:Nat)(kd:Int)(mk:Bool)(T:List TB):Prop where
  box:H[p]?=some (.box [Z64 kd,ZBo mk,.own t g 0 T.length false])
  arr:H[t]?=some (.grow g 3 (T.map eT))
  pl: ∀x∈T,match x.1 with
    |none=>x.2.1=[]
    |some j=>x.2.1≠[]∧H[j]?=some (.grow 0 1 (x.2.1.map eI))
  nod:(T.filterMap Prod.fst).Nodup
  len:T.length≤100
  sm: ∀x∈T,x.2.1.length≤10
theorem MkAt.ext {H:ZH}{p t g:Nat}{kd:Int}{mk:Bool}{T:List TB}(h:MkAt H p t g kd mk T)(X:ZH):MkAt (H++X) p t g kd mk T:=by
 refine⟨by rw[V5 (jap h.box)];exact h.box,by rw[V5 (jap h.arr)];exact h.arr,fun x hx=>?_,h.nod,h.len,h.sm⟩;have:=h.pl x hx;obtain⟨o,y⟩:=x
 cases o with
 |none=>exact this
 |some j=>exact⟨this.1,(V5 (jap this.2)).trans this.2⟩
theorem MkAt.rows {H:ZH}{p t g:Nat}{kd:Int}{mk:Bool}{T:List TB}(h:MkAt H p t g kd mk T){x:TB}(hx:x∈T):ja2 H 1 (plZ x)=some (x.2.1.map eI):=by
 have:=h.pl x hx;obtain⟨o,y⟩:=x
 cases o with
 |none=>simp only at this;simp[plZ,this,ja2]
 |some j=>exact jbz this.2 (by simp)
variable {tb:List (FuncId×Bool)}{nd:Bool}{L:Nat→Bool}{H:ZH}{K:ZV→ZH→Prop}{p t g:Nat}{kd:Int}{mk:Bool}{T:List TB}
def jc5 (T:List TB):List Int:=T.map fun x=>x.2.2.1
theorem jvb (h:MkAt H p t g kd mk T)(hK:K (.fz 1 false ((jc5 T).map eI)) H):ZC (XC tb nd) (jag Tryz.prog) 13 [.ptr p 0] L H K:=by
 refine K6 ⟨[(3,[(0,1)])],[],[]⟩ (jaf (by decide)) jnj (by simp) fun hL=>?_
 simp only[jhz,kkP];have hb: ∀X,(H++X)[p]?=some (.box [Z64 kd,ZBo mk,.own t g 0 T.length false]):=fun X=>(h.ext X).box
 have ha: ∀X,(H++X)[t]?=some (.grow g 3 (T.map eT)):=fun X=>(h.ext X).arr
 have hlen:=h.len;have F: ∀g' X,Fin H (.own H.length g' 0 T.length false) (H++(.grow g' 1 ((jc5 T).map eI)::X)) K:=fun g' X=>by
  refine Fin.frz (k:=1) (rows:=(jc5 T).map eI) (jeC _ _) (by simp[jc5]) (jg5 (fun r hr=>by obtain⟨x,_,rfl⟩:=U6.1 hr;rfl)) ?_;rw[jko,W1,I5 (by simp[jc5])];exact Fin.trunc (K4 H _) rfl (by rw[K5];exact hK)
 have FF:=Z4 F;have HL:=Z4 hlen;have h3:ja2 (H++[.grow 0 1 []]) 3 (.own t g 0 T.length false)=some (T.map eT):=jbz (ha _) (by simp);have hl3:=ja3 h3;rw[P2] at hl3;clear h hK F hlen h3;with_reducible repeat' first|simp only[zQ,seval,X0,hb,hl3, *]|simp only[jab]|apply P3|intro _
 refine jaK [(9,.own t g 0 T.length false)] T.length (fun k s' h'=> ∃g' X,s' 3= .own H.length g' 0 k false∧h'=H++(.grow g' 1 ((jc5 (T.take k)).map eI)::X)) (by have:=HL.out;omega) ⟨rfl,rfl,rfl,rfl,rfl,rfl⟩ rfl rfl (by repeat' (first|exact trivial|(refine⟨rfl,?_⟩)|(refine⟨by simp only[jaj,X4,reduceIte];assumption,?_⟩))) rfl rfl (by decide) ⟨0,[],rfl,rfl⟩ ?_ ?_
 ·rintro k s' h' hk ⟨g',X,f3,rfl⟩ hi hl ⟨f9,-⟩
  have hx:T[k]?=some T[k]:=U1 hk;have hn:(jc5 (T.take (k+1))).map eI=(jc5 (T.take k)).map eI++[[Z64 T[k].2.2.1]]:=by
   unfold jc5;rw[X5 hk,L3,L3];rfl
  have hln:(jc5 (T.take k)).length=k:=by simp[jc5];omega
  obtain⟨y,hy⟩: ∃y,y=T[k]:=⟨_,rfl⟩;rw[←hy] at hx hn;have he:jdd (H++(.grow g' 1 ((jc5 (T.take k)).map eI)::X)) 3 k (.own t g 0 T.length false)=some (.eptr t g k 0):=by
   rw[jbQ];exact⟨_,ha _,by simp,hk,by simp⟩
  obtain⟨o,pl,co,he2⟩:=y;have hld: ∀Y,ldZ (H++(.grow g' 1 ((jc5 (T.take k)).map eI)::Y)) (some 3) (.eptr t g k 0)=some (.agg (eT (o,pl,co,he2))):=fun Y=>by
   rw[jbS];exact⟨_,_,eT (o,pl,co,he2),ha _,by rw[U8,hx];rfl,rfl⟩
  have het:eT (o,pl,co,he2)=[plZ (o,pl,co,he2),Z64 co,ZBo he2]:=rfl;have hcl:(plZ (o,pl,co,he2)).isCell=true:=by cases o<;>rfl
  obtain⟨pz,hpz⟩: ∃pz,pz=plZ (o,pl,co,he2):=⟨_,rfl⟩;rw[←hpz] at het hcl;rw[het] at hld;have lx: ∀n,L (H.length+n)=true:=fun n=>by cases n with
   |zero=>exact hL 0
   |succ n=>exact hL (n+1)
  have hap: ∀Y,appZ L (H++(.grow g' 1 ((jc5 (T.take k)).map eI)::Y)) 1 8 [[Z64 co]] (.own H.length g' 0 k false)=some (.own H.length (g'+1) 0 (k+1) false,H++(.grow (g'+1) 1 ((jc5 (T.take (k+1))).map eI)::Y)):=fun Y=>by
   rw[jcU];refine⟨_,jeC _ _,by simp[hln],by have:=HL.out;unfold reach;simp;omega,lx 0,rfl,?_⟩;rw[jko,W1,I5 (by simp[hln]),hn]
  have a0: ∀A C:ZB,(H++(A::(X++[C])))[H.length+(X.length+1)]?=some C:=fun A C=>mv_atX A C
  have s0: ∀A C D:ZB,(H++(A::(X++[C]))).set (H.length+(X.length+1)) D=H++(A::(X++[D])):=fun A C D=>mv_stX A C D
  have l0:L (H.length+(X.length+1))=true:=lx _;clear hx hn hln hy hpz hl3 hb;with_reducible repeat' first|simp only[zQ,seval,X0,he,hld,hcl,hap,a0,s0,l0, *]|simp only[jab]|apply P3|intro _
  all_goals exact⟨_,rfl⟩
 ·rintro s' h' ⟨g',X,f3,rfl⟩ ⟨f9,-⟩
  have fin:=FF.out g' X;rw[I5 (V2 _)];clear hl3 hb ha;with_reducible repeat' first|simp only[zQ,seval,X0, *]|simp only[jab]|apply P3|intro _
theorem clonei_0 {ex:Bool}(hK:K (.fz 1 false []) H):ZC (XC tb nd) (jag Tryz.prog) 110 [.fz 1 ex []] L H K:=by
 refine Z9 Gh.no (jaf (by decide)) jkv (by simp) ?_;simp only[jhh,kkP];have fin1:Fin H .nil H K:=Fin.nilFz (k:=1) (Fin.keep hK);have fin2:Fin H (.fz 1 true []) H K:=Fin.weak (Fin.keep hK);have hnz: ∀b,nilZ H 0 (.fz 1 ex [])=some b↔False:=fun b=>by simp[nilZ]
 have hE: ∀L H v H',appZ L H 1 8 [] (.fz 1 true [])=some (v,H')↔ .fz 1 true []=v∧H=H':=fun L H v H'=>by
  simp only[appZ];rw[if_pos ⟨trivial,by simp⟩];simp
 clear hK;with_reducible repeat' first|simp only[zQ,seval,X0,hnz,hE, *]|simp only[jab]|apply P3|intro _
 exact⟨_,rfl⟩
theorem clonei_1 {j:Nat}{a:Int}{l:List Int}(hz:H[j]?=some (.grow 0 1 ((a::l).map eI)))(hb:l.length≤1000)(hK:K (.own H.length 0 0 (a::l).length false) (H++[.grow 0 1 ((a::l).map eI)])):ZC (XC tb nd) (jag Tryz.prog) 110 [.own j 0 0 (a::l).length false] L H K:=by
 refine Z9 Gh.no (jaf (by decide)) jkv (by simp) ?_;simp only[jhh,kkP];have hr:(a::l).length*8≤reach:=by unfold reach;simp;omega
 have hro:ja2 H 1 (.own j 0 0 (a::l).length false)=some ((a::l).map eI):=jbz hz (by simp);have hn:nilZ H 0 (.own j 0 0 (a::l).length false)=some false:=by
  simp[nilZ,hz]
 have hap: ∀L,appZ L H 1 8 ((a::l).map eI) (.fz 1 true [])=some (.own H.length 0 0 (a::l).length false,H++[.grow 0 1 ((a::l).map eI)]):=fun L=>by
  simp only[appZ];rw[if_pos ⟨trivial,by simpa using hr⟩,if_neg (by simp)];simp
 have fin:=Fin.keep (H0:=H) hK;obtain⟨q,hq⟩: ∃q,q=(a::l).map eI:=⟨_,rfl⟩;obtain⟨n,hn0⟩: ∃n,n=(a::l).length:=⟨_,rfl⟩;rw[←hq] at hro hap fin;rw[←hn0] at hro hap fin hn ⊢;clear hK hq hn0 hr hz;with_reducible repeat' first|simp only[zQ,seval,X0,hn,hro,hap, *]|simp only[jab]|apply P3|intro _
theorem delfi_0 (hK:K (.fz 1 false []) H):
  ZC (XC tb nd) (jag Tryz.prog) 109 [.fz 1 false [],.func 111 []] L H K:=by
 refine K6 Gh.no (jaf (by decide)) jni (by simp) fun hL=>?_
 simp only[jjh,kkP];have fin:=Fin.keep (H0:=H) hK;clear hK;with_reducible repeat' first|simp only[zQ,seval,X0, *]|simp only[jab]|apply P3|intro _
 refine idxi_z (l:=[]) (p:=fun m=>decide (m<0)) jaM (by simp) (fun m hm=>by cases hm) ?_;have hi:idxQ (fun m:Int=>decide (m<0)) []= -1:=rfl;rw[hi];clear hi;with_reducible repeat' first|simp only[zQ,seval,X0, *]|simp only[jab]|apply P3|intro _
theorem delfi_f {l:List Int}(hb:l.length≤60)(l0:L H.length=true)(hK:K (.fz 1 false ((jdK l).map eI)) (H++[.dead])):
  ZC (XC tb nd) (jag Tryz.prog) 109 [.own H.length 0 0 l.length false,.func 111 []] L (H++[.grow 0 1 (l.map eI)]) K:=by
 refine ZC.thenF (delfi_z (K:=fun z H'=> ∃R:List (List ZV),R.take (jdK l).length=(jdK l).map eI∧(jdK l).length≤R.length∧(∀r∈R,r.all jbR=true)∧z= .own H.length 0 0 (jdK l).length false∧H'=H++[.grow 0 1 R]) hb l0 fun R h1 h2 h3=>⟨R,h1,h2,h3,rfl,rfl⟩) fun z H' ⟨R,h1,h2,h3,e1,e2⟩=>?_
 subst e1;subst e2
 refine Fin.frz (k:=1) (rows:=R) (jeC _ _) (by omega) (jg5 h3) ?_;rw[W1,h1,jko];exact Fin.keep hK
end
section
open Go Go.RowKit
abbrev eL (l:List Int):List ZV:=[zI l]
variable {tb:List (FuncId×Bool)}{nd:Bool}{L:Nat→Bool}{H:ZH}{K:ZV→ZH→Prop}{p t g:Nat}{kd:Int}{mk:Bool}{T:List TB}
theorem jlW {W:ZH}{k bytes i g n:Nat}{rows new:List (List ZV)}(hb:W[i]?=some (.grow g k rows))(hn:rows.length=n)(hr:(n+new.length)*bytes≤reach)(hL:L i=true):appZ L W k bytes new (.own i g 0 n false)=some (.own i (g+1) 0 (n+new.length) false,W.set i (.grow (g+1) k (rows++new))):=by
 rw[jcU];exact⟨rows,hb,by omega,hr,hL,rfl,by rw[W1,I5 (by omega)]⟩
def jc1 (T:List TB):List (List Int):=T.map fun x=>jdK x.2.1
def jaE (T:List TB):List Bool:=T.map fun x=>x.2.2.2
theorem jro {k:Nat}(hk:k<T.length):jc1 (T.take (k+1))=jc1 (T.take k)++[jdK T[k].2.1]:=by
 unfold jc1;rw[X5 hk,L3];rfl
theorem juq {k:Nat}(hk:k<T.length):ja6 (jaE T) (k+1)=ja6 (jaE T) k++(if T[k].2.2.2=true then [(k:Int)] else []):=by
 rw[jeR];have:(jaE T).getD k false=T[k].2.2.2:=by simp[jaE,E7,hk]
 rw[this];split<;>simp
theorem graph_z (h:MkAt H p t g kd mk T)(hK:K (.agg [.fz 1 false ((jc1 T).map eL),.fz 1 false ((jcH (jaE T)).map eI)]) H):ZC (XC tb nd) (jag Tryz.prog) 75 [.ptr p 0] L H K:=by
 refine K6 ⟨[(3,[(0,1),(1,1)])],[],[]⟩ (jaf (by decide)) jrE (by simp) fun hL=>?_
 simp only[jkR,kkP];have hb: ∀X,(H++X)[p]?=some (.box [Z64 kd,ZBo mk,.own t g 0 T.length false]):=fun X=>(h.ext X).box
 have ha: ∀X,(H++X)[t]?=some (.grow g 3 (T.map eT)):=fun X=>(h.ext X).arr
 have hlen:=h.len;have HL:=Z4 hlen;have HM:=Z4 h;have HK:=Z4 hK;have h3: ∀X,ja2 (H++X) 3 (.own t g 0 T.length false)=some (T.map eT):=fun X=>jbz (ha _) (by simp)
 have hl3: ∀X,lenZ (H++X) (.own t g 0 T.length false)=some T.length:=fun X=>by have:=ja3 (h3 X);rwa [P2] at this
 clear hK hlen h3 h;with_reducible repeat' first|simp only[zQ,seval,X0,hb,hl3, *]|simp only[jab]|apply P3|intro _
 refine jaK [(9,.own t g 0 T.length false),(2,.ptr H.length 0),(3,.ptr (H.length+1) 0)] T.length (fun k s' h'=> ∃g1 g2 X,h'=H++(.box [.nil,.nil]:: .box [.own (H.length+2) g1 0 k false,.own (H.length+3) g2 0 (ja6 (jaE T) k).length false]:: .grow g1 1 ((jc1 (T.take k)).map eL):: .grow g2 1 ((ja6 (jaE T) k).map eI)::X)) (by have:=HL.out;omega) ⟨rfl,rfl,rfl,rfl,rfl,rfl⟩ rfl rfl (by repeat' (first|exact trivial|(refine⟨rfl,?_⟩)|(refine⟨by simp only[jaj,X4,reduceIte];assumption,?_⟩))) rfl rfl (by decide) ⟨0,0,[],rfl⟩ ?_ ?_
 ·rintro k s' h' hk ⟨g1,g2,X,rfl⟩ hi hl ⟨f9,f2,f3,-⟩
  have hx:T[k]?=some T[k]:=U1 hk;have hmem:T[k]∈T:=M4 hk;have hn:=jro hk;have hr:=juq hk;obtain⟨y,hy⟩: ∃y,y=T[k]:=⟨_,rfl⟩;rw[←hy] at hx hn hr hmem;obtain⟨o,pl,co,he2⟩:=y;simp only at hn hr;have he: ∀Y,jdd (H++Y) 3 k (.own t g 0 T.length false)=some (.eptr t g k 0):=fun Y=>by
   rw[jbQ];exact⟨_,ha _,by simp,hk,by simp⟩
  have hld: ∀Y,ldZ (H++Y) (some 3) (.eptr t g k 0)=some (.agg (eT (o,pl,co,he2))):=fun Y=>by
   rw[jbS];exact⟨_,_,eT (o,pl,co,he2),ha _,by rw[U8,hx];rfl,rfl⟩
  have het:eT (o,pl,co,he2)=[plZ (o,pl,co,he2),Z64 co,ZBo he2]:=rfl;have hcl:(plZ (o,pl,co,he2)).isCell=true:=by cases o<;>rfl
  have hpl:=HM.out.pl _ hmem;have hsm:=HM.out.sm _ hmem;obtain⟨pz,hpz⟩: ∃pz,pz=plZ (o,pl,co,he2):=⟨_,rfl⟩;rw[←hpz] at het hcl;rw[het] at hld;clear hx hmem hy;have HPL:=Z4 hpl;have HPZ:=Z4 hpz;have HSM:=Z4 hsm;have HN:=Z4 hn;have HR:=Z4 hr;clear hpl hpz hsm hn hr het;have a0: ∀A B C D E:ZB,(H++(A::B::C::D::(X++[E])))[H.length+(X.length+4)]?=some E:=fun A B C D E=>by
   rw[N0 (by omega),D8];simp
  have s0: ∀A B C D E E2:ZB,(H++(A::B::C::D::(X++[E]))).set (H.length+(X.length+4)) E2=H++(A::B::C::D::(X++[E2])):=fun A B C D E E2=>by
   rw[B7 _ _ (by omega),D8];simp
  have lx: ∀n,L (H.length+n)=true:=fun n=>by cases n with
   |zero=>exact hL 0
   |succ n=>exact hL (n+1)
  have hlt:H.length+1<H.length+(X.length+1+1+1+1+1):=by omega
  have hap1: ∀A B C Y,appZ L (H++(A::B:: .grow g1 1 ((jc1 (T.take k)).map eL)::C::Y)) 1 24 [[.fz 1 false ((jdK pl).map eI)]] (.own (H.length+2) g1 0 k false)=some (.own (H.length+2) (g1+1) 0 (k+1) false,H++(A::B:: .grow (g1+1) 1 ((jc1 (T.take (k+1))).map eL)::C::Y)):=fun A B C Y=>by
   have hln:(jc1 (T.take k)).length=k:=by simp[jc1];omega
   rw[jlW (by rw[N0 (by omega),D8];rfl) (by rw[P2];exact hln) (by have:=HL.out;unfold reach;simp;omega) (lx 2),B7 _ _ (by omega),D8,HN.out,L3];rfl
  have hap2: ∀A B C Y,appZ L (H++(A::B::C:: .grow g2 1 ((ja6 (jaE T) k).map eI)::Y)) 1 8 [[Z64 k]] (.own (H.length+3) g2 0 (ja6 (jaE T) k).length false)=some (.own (H.length+3) (g2+1) 0 ((ja6 (jaE T) k).length+1) false,H++(A::B::C:: .grow (g2+1) 1 ((ja6 (jaE T) k++[(k:Int)]).map eI)::Y)):=fun A B C Y=>by
   have hln:=jdh (jaE T) k;rw[jlW (by rw[N0 (by omega),D8];rfl) (by rw[P2]) (by have:=HL.out;unfold reach;simp;omega) (lx 3),B7 _ _ (by omega),D8,L3];rfl
  have a2: ∀A B C D E Y,(H++(A::B::C::D::(X++(E::Y))))[H.length+(X.length+4)]?=some E:=fun A B C D E Y=>by
   rw[N0 (by omega),D8];simp
  have l1:(fun i=>L i&& !i==H.length+1) (H.length+(X.length+5))=true:=by
   simp[lx]
  have HAP:=Z4 hap1;have HAQ:=Z4 hap2;have HA2:=Z4 a2;have H1:=Z4 l1;have HLD:=Z4 hld;clear hap1 hap2 a2 l1;with_reducible repeat' first|simp only[zQ,seval,X0,he,hld,hcl,a0,s0,lx,hlt, *]|simp only[jab]|apply P3|intro _
  clear hld he hb hl3 hlt lx a0 s0;obtain⟨W,hW⟩: ∃W,W=H++(.box [.nil,.nil]:: .box [.own (H.length+2) g1 0 k false,.own (H.length+3) g2 0 (ja6 (jaE T) k).length false]:: .grow g1 1 ((jc1 (T.take k)).map eL):: .grow g2 1 ((ja6 (jaE T) k).map eI)::(X++[.box [pz,Z64 co,ZBo he2]])):=⟨_,rfl⟩;rw[←hW];have hWl:W.length=H.length+(X.length+5):=by rw[hW];simp
  have l1:=H1.out;rw[←hWl] at l1;have HW:=Z4 hW;have HWl:=Z4 hWl;have HL1:=Z4 l1;clear hW hWl l1 H1;have hap1:=HAP.out;have hap2:=HAQ.out;have a2:=HA2.out;have lx: ∀n,L (H.length+n)=true:=fun n=>by cases n with
   |zero=>exact hL 0
   |succ n=>exact hL (n+1)
  have HE: ∀g1' g2' X',Hid (∀R,R=ja6 (jaE T) (k+1)→ ∃g1 g2 Z,H++(.box [.nil,.nil]:: .box [.own (H.length+2) g1' 0 (k+1) false,.own (H.length+3) g2' 0 R.length false]:: .grow g1' 1 ((jc1 (T.take (k+1))).map eL):: .grow g2' 1 (R.map eI)::X')=H++(.box [.nil,.nil]:: .box [.own (H.length+2) g1 0 (k+1) false,.own (H.length+3) g2 0 (ja6 (jaE T) (k+1)).length false]:: .grow g1 1 ((jc1 (T.take (k+1))).map eL):: .grow g2 1 ((ja6 (jaE T) (k+1)).map eI)::Z)):=fun g1' g2' X'=>Z4 (fun R hR=>by subst hR;exact⟨_,_,_,rfl⟩)
  cases o with
  |none=>
   have hp0:pl=[]:=HPL.out;have hz0:pz= .fz 1 false []:=HPZ.out;subst hp0;subst hz0;refine clonei_0 ?_;with_reducible repeat' first|simp only[zQ,seval,X0, *]|simp only[jab]|apply P3|intro _
   refine delfi_0 ?_;rw[HW.out];have hap1: ∀A B C Y,appZ L (H++(A::B:: .grow g1 1 ((jc1 (T.take k)).map eL)::C::Y)) 1 24 [[.fz 1 false []]] (.own (H.length+2) g1 0 k false)=some (.own (H.length+2) (g1+1) 0 (k+1) false,H++(A::B:: .grow (g1+1) 1 ((jc1 (T.take (k+1))).map eL)::C::Y)):=hap1;clear hcl ha
   cases he2 with
   |true=>
    with_reducible repeat' first|simp only[zQ,seval,X0,hap1,hap2,a2,lx, *]|simp only[jab]|apply P3|intro _
    all_goals (rw[HR.out,if_pos rfl,G3];exact⟨_,_,_,rfl⟩)
   |false=>
    with_reducible repeat' first|simp only[zQ,seval,X0,hap1,hap2,a2,lx, *]|simp only[jab]|apply P3|intro _
    all_goals (rw[HR.out,if_neg (by decide),A0];exact⟨_,_,_,rfl⟩)
  |some j=>
   have hz0:pz= .own j 0 0 pl.length false:=HPZ.out;obtain⟨hne,hj⟩:=HPL.out;simp only at hne hj;subst hz0;have hjW:W[j]?=some (.grow 0 1 (pl.map eI)):=by
    rw[HW.out,V5 (jap hj)];exact hj
   clear hj;match pl,hne,hjW,HSM,hap1,HN,HPL,HPZ,hcl,HLD,HW,HAP with
   |[],h,_,_,_,_,_,_,_,_,_,_=>exact absurd rfl h
   |a::l,_,hjW,HSM,hap1,HN,HPL,HPZ,hcl,HLD,HW,HAP=>
   have hb:=HSM.out;simp only at hb;refine clonei_1 (a:=a) (l:=l) hjW (by simp at hb;omega) ?_;have HB:=Z4 hb;clear hb hjW HAP;obtain⟨N,hN⟩: ∃N,N=(a::l).length:=⟨_,rfl⟩;obtain⟨R,hR⟩: ∃R,R=(a::l).map eI:=⟨_,rfl⟩;rw[←hN,← hR];have HNN:=Z4 hN;have HRR:=Z4 hR;clear hN hR;with_reducible repeat' first|simp only[zQ,seval,X0, *]|simp only[jab]|apply P3|intro _
   rw[HNN.out,HRR.out];refine delfi_f (by have:=HB.out;omega) HL1.out ?_;rw[HW.out];clear ha
   cases he2 with
   |true=>
    with_reducible repeat' first|simp only[zQ,seval,X0,hap1,hap2,a2,lx, *]|simp only[jab]|apply P3|intro _
    all_goals (rw[HR.out,if_pos rfl,G3];exact⟨_,_,_,rfl⟩)
   |false=>
    with_reducible repeat' first|simp only[zQ,seval,X0,hap1,hap2,a2,lx, *]|simp only[jab]|apply P3|intro _
    all_goals (rw[HR.out,if_neg (by decide),A0];exact⟨_,_,_,rfl⟩)
 ·rintro s' h' ⟨g1,g2,X,rfl⟩ ⟨f9,f2,f3,-⟩
  have fin:Fin H (.agg [.own (H.length+2) g1 0 T.length false,.own (H.length+3) g2 0 (ja6 (jaE T) T.length).length false]) (H++(.box [.own (H.length+2) g1 0 T.length false,.own (H.length+3) g2 0 (ja6 (jaE T) T.length).length false]:: .box [.own (H.length+2) g1 0 T.length false,.own (H.length+3) g2 0 (ja6 (jaE T) T.length).length false]:: .grow g1 1 ((jc1 (T.take T.length)).map eL):: .grow g2 1 ((ja6 (jaE T) T.length).map eI)::X)) K:=by
   rw[I5 (V2 _)];have e:ja6 (jaE T) T.length=jcH (jaE T):=by unfold jcH;rw[show (jaE T).length=T.length by simp[jaE]]
   rw[e];refine Fin.frzA (j:=0) (k:=1) (rows:=(jc1 T).map eL) rfl (by rw[N0 (by omega),D8];rfl) (by simp[jc1]) (jg5 (fun r hr=>by obtain⟨x,_,rfl⟩:=U6.1 hr;rfl)) ?_;rw[B7 _ _ (by omega),D8];refine Fin.frzA (j:=1) (k:=1) (rows:=(jcH (jaE T)).map eI) rfl (by rw[N0 (by omega),D8];rfl) (by simp) (jg5 (fun r hr=>by obtain⟨x,_,rfl⟩:=U6.1 hr;rfl)) ?_;rw[B7 _ _ (by omega),D8];rw[W1,I5 (by simp[jc1]),W1,I5 (by simp)];exact Fin.trunc (K4 H _) rfl (by rw[K5];exact HK.out)
  clear hl3 hb ha;have l0:L H.length=true:=hL 0;with_reducible repeat' first|simp only[zQ,seval,X0,l0, *]|simp only[jab]|apply P3|intro _
end
section
open Go Go.RowKit
variable {tb:List (FuncId×Bool)}{nd:Bool}{L:Nat→Bool}{H:ZH}{K:ZV→ZH→Prop}
structure FI (has:List (List Int))(l:List Int)(sb sb':List Bool)(b:Bool)(P:Prop):Prop where
  len:sb'.length=has.length
  base: ∀x∈l,Sn sb' x.toNat
  sub: ∀n,Sn sb' n→Liv has [] l n
  no:b=false→sb'=sb∧P
  yes:b=true→jc2 sb'<jc2 sb
theorem FI.mono {has:List (List Int)}{l:List Int}{sb sb':List Bool}{b:Bool}{P Q:Prop}(h:FI has l sb sb' b P)(hq:sb'=sb→P→Q):FI has l sb sb' b Q:=
 ⟨h.len,h.base,h.sub,fun hb=>⟨(h.no hb).1,hq (h.no hb).1 (h.no hb).2⟩,h.yes⟩
theorem FI.start {has:List (List Int)}{l:List Int}{sb:List Bool}{P:Prop}(h1:sb.length=has.length)(h2: ∀x∈l,Sn sb x.toNat)(h3: ∀n,Sn sb n→Liv has [] l n)(hp:P):FI has l sb sb false P:=
 ⟨h1,h2,h3,fun _=>⟨rfl,hp⟩,fun h=>by cases h⟩
structure FO (has:List (List Int))(l:List Int)(sb:List Bool)(b:Bool):Prop where
  len:sb.length=has.length
  base: ∀x∈l,Sn sb x.toNat
  sub: ∀n,Sn sb n→Liv has [] l n
  clo:b=false→Cl has (Sn sb)
def ClTo (has:List (List Int))(sb:List Bool)(k:Nat):Prop:= ∀n,n<k→Sn sb n→ ∀y∈has.getD n [],Sn sb y.toNat
def ClIn (has:List (List Int))(sb:List Bool)(k:Nat)(own:List Int)(m:Nat):Prop:=ClTo has sb k∧(Sn sb k→ ∀y∈own.take m,Sn sb y.toNat)
structure FB (has:List (List Int))(l:List Int)(k:Nat)(sb:List Bool):Prop where
  len:sb.length=has.length
  base: ∀x∈l.take k,Sn sb x.toNat
  sub: ∀n,Sn sb n→Liv has [] l n
theorem FB.next {has:List (List Int)}{l:List Int}{k:Nat}{sb:List Bool}(h:FB has l k sb)(hk:k<l.length){m:Nat}(hm:l[k]=(m:Int))(hmn:m<has.length):FB has l (k+1) (sb.set m true):=by
 have hs: ∀n,Sn (sb.set m true) n↔Sn sb n∨n=m:=fun n=>Sn_set (by rw[h.len];exact hmn)
 refine⟨by simp[h.len],fun x hx=>?_,fun n hn=>?_⟩
 ·rw[X5 hk] at hx
  rcases O3.1 hx with hx|hx
  ·exact (hs _).2 (.inl (h.base x hx))
  ·rw[X6.1 hx,hm];exact (hs _).2 (.inr (by omega))
 ·rcases (hs n).1 hn with hn|rfl
  ·exact h.sub n hn
  ·have:=Liv.base (has:=has) (ps:=[]) (l:=l) (x:=l[k]) (M4 hk)
   rw[hm] at this;simpa using this
theorem ClIn.start {has:List (List Int)}{sb:List Bool}{k:Nat}{own:List Int}(h:ClTo has sb k):ClIn has sb k own 0:=⟨h,fun _ y hy=>by simp at hy⟩
theorem ClIn.next {has:List (List Int)}{sb:List Bool}{k m:Nat}{own:List Int}(h:ClIn has sb k own m)(hm:m<own.length)(hs:Sn sb k→Sn sb own[m].toNat):ClIn has sb k own (m+1):=⟨h.1,fun hk y hy=>by
 rw[X5 hm] at hy;rcases O3.1 hy with hy|hy
 ·exact h.2 hk y hy
 ·rw[X6.1 hy];exact hs hk⟩
theorem ClIn.done {has:List (List Int)}{sb:List Bool}{k:Nat}{own:List Int}(h:ClIn has sb k own own.length)(ho:has.getD k []=own):ClTo has sb (k+1):=fun n hn hs y hy=>by
 rcases Nat.lt_succ_iff_lt_or_eq.1 hn with hn|rfl
 ·exact h.1 n hn hs y hy
 ·rw[ho] at hy;exact h.2 hs y (by rw[K7];exact hy)
theorem ClTo.all {has:List (List Int)}{sb:List Bool}(h:ClTo has sb has.length):Cl has (Sn sb):=fun n hn y hy=>by
 by_cases hl:n<has.length
 ·exact h n hl hn y hy
 ·simp[E7,J1 (Nat.not_lt.1 hl)] at hy
theorem FI.out {has:List (List Int)}{l:List Int}{sb sb':List Bool}{b:Bool}(h:FI has l sb sb' b (ClTo has sb has.length)):FO has l sb' b:=
 ⟨h.len,h.base,h.sub,fun hb=>by obtain⟨e,hc⟩:=h.no hb;subst e;exact hc.all⟩
theorem FI.less {has:List (List Int)}{l:List Int}{sb sb':List Bool}{b:Bool}{P:Prop}(h:FI has l sb sb' b P):2*jc2 sb'+(if b=true then 1 else 0)<2*jc2 sb+1:=by
 cases b with
 |true=>have:=h.yes rfl;simp;omega
 |false=>have:=(h.no rfl).1;subst this;simp
end
section
open Go Go.RowKit
section
variable {tb:List (FuncId×Bool)}{nd:Bool}{fl:Nat→Bool}{h:Heap}{K:AV→Heap→Prop}
theorem from_am2 {v1 v2 lv:AV}{has:List (List Int)}{l:List Int}(h1:LL h v1 has)(hc2:v2.isCell=true)(hl:IL h lv l)(hN:has.length≤100)(hls: ∀l∈has,l.length≤1000)(hll:l.length≤1000000)(hok:jlz has has.length)
  (hb: ∀x∈l,0≤x∧x<(has.length:Int)) (hf: ∀i,h.length≤i→fl i=true)
  (hK: ∀h' sb,BL h' (.slice (h.length+1) 0 has.length has.length true 1) sb→sb.length=has.length→LInv has [] l sb→Keep h h' []→K (.slice (h.length+1) 0 has.length has.length true 1) h'):
  AC (XC tb nd) (jag Tryz.prog) 76 [.agg [v1,v2],lv] fl h K:=by
 refine O0u (by first|exact jgQ|rfl) juA (by simp) ?_;simp only[jnx,kkP];have hl1:=h1.len;have hc1:=h1.cell;have hre:has.length≤reach:=by unfold reach;omega
 obtain⟨H,hH⟩: ∃H,H=h++[some [v1,v2],some (O6 has.length (BV false)),some [v1,v2,.slice (h.length+1) 0 has.length has.length true 1,.nil]]:=⟨_,rfl⟩;have kH:Keep h H []:=by rw[hH];exact Keep.ext _ _
 have hHl:H.length=h.length+3:=by rw[hH];simp
 have hR:RSt H (h.length+2) v1 v2 (.slice (h.length+1) 0 has.length has.length true 1) (O6 has.length false) .nil []:=by
  refine⟨by rw[hH,jlS];rfl,BL.made (by rw[hH,jlS];rfl),OL.nil,by simp[idOf],by simp[idOf],by simp[idOf]⟩
 have hW:Wri fl H (h.length+2) (.slice (h.length+1) 0 has.length has.length true 1) .nil:=⟨hf _ (by omega),fun i hi=>hf _ (by simp[idOf] at hi;omega),fun i hi=>by simp[idOf] at hi,fun i hi=>hf _ (by omega)⟩;have hgo:=fun (K2:AV→Heap→Prop) (k2:_)=>jqb (tb:=tb) (nd:=nd) (K:=K2) hR (hl.keep kH (by simp)) (fun i hi hm=>by have:=Sl.lt hl i hi;simp[idOf] at hm;omega) (by simpa using hb) hll (by rw[je8];simp;omega) hW k2
 have HH:=Z4 hH;have HL:=Z4 hHl;clear hH hHl;repeat' (first|(simp only[jct,jcQ,jcf,jb8,jbl,jb7,jc9,jb6,jbL,ja7,jcu,jbM,jaV,jaQ,jar,ja5,jbH,jaG,jaI,jbe,jeK,jcg,jdb,jb9,jbt,jch,jbp,jaF,jbC,jaC,jbd,jaW,jcY,jbs,jbb,jbG,jeJ,jcj,jbF,jaD,jaB,jaL,jbE,jbD,jaS,jaT,jci,jbN,jaP,jaH,jbc,jda,jba,jaU,jbI,jbV,jcL,jeq,jb1,jb2,jb3,jb4,jb5,jbZ,jbT,jbY,jb0,jcW,jaN,P7,O4,and_assoc,decide_false,decide_true,P8,P9,S3,N6,exists_false,S4,O0v,AV.val.injEq,AV.ptr.injEq,AV.slice.injEq,AV.func.injEq,AV.tuple.injEq,AV.agg.injEq,Value.bool.injEq,Value.int.injEq,U4,exists_eq_left',exists_eq_left,exists_and_left,exists_and_right,and_true,true_and,decide_eq_true_eq,decide_eq_false_iff_not,if_true,if_false,A9,beq_true,beq_false,ne_eq,not_true_eq_false,not_false_eq_true,reduceCtorEq,S5,S6,B6,O0w,A0,X4,reduceIte,ite_true,ite_false,or_true,true_or,or_false,false_or,resA,jaR,true_imp_iff,false_imp_iff,implies_true,imp_false,and_self,imp_self,and_false,false_and,forall_const,jbJ,jbK,ja0,jbj,jbi,jbh,jbf,jbg,jaO,jaY,jaX,jaZ,Q3,G9,O0x,O0y,O0z,ldA,Q7,O1a,Q8,Q9,Q6,S7,U9,S8,S9,O1b,M8,N9,B8,A0,G3,jdj,jdi,jdl,jdk,jem,jeT,jen,jeU,jcX,F3,F4,O1c,W1,W4,O1d,F5,Q5,O1e,X0,F6,and_self,C8,M5,O1f,hl1,jaN,hre,V2,beq_self_eq_true,flat_one, *])|(simp only[goO,ja7,jar,goC])|(with_reducible apply P3)|(with_reducible intro _))
 rw[←HH.out];refine hgo _ fun h2 tv2 r1 r2 r3=>?_
 repeat' (first|(simp only[jct,jcQ,jcf,jb8,jbl,jb7,jc9,jb6,jbL,ja7,jcu,jbM,jaV,jaQ,jar,ja5,jbH,jaG,jaI,jbe,jeK,jcg,jdb,jb9,jbt,jch,jbp,jaF,jbC,jaC,jbd,jaW,jcY,jbs,jbb,jbG,jeJ,jcj,jbF,jaD,jaB,jaL,jbE,jbD,jaS,jaT,jci,jbN,jaP,jaH,jbc,jda,jba,jaU,jbI,jbV,jcL,jeq,jb1,jb2,jb3,jb4,jb5,jbZ,jbT,jbY,jb0,jcW,jaN,P7,O4,and_assoc,decide_false,decide_true,P8,P9,S3,N6,exists_false,S4,O0v,AV.val.injEq,AV.ptr.injEq,AV.slice.injEq,AV.func.injEq,AV.tuple.injEq,AV.agg.injEq,Value.bool.injEq,Value.int.injEq,U4,exists_eq_left',exists_eq_left,exists_and_left,exists_and_right,and_true,true_and,decide_eq_true_eq,decide_eq_false_iff_not,if_true,if_false,A9,beq_true,beq_false,ne_eq,not_true_eq_false,not_false_eq_true,reduceCtorEq,S5,S6,B6,O0w,A0,X4,reduceIte,ite_true,ite_false,or_true,true_or,or_false,false_or,resA,jaR,true_imp_iff,false_imp_iff,implies_true,imp_false,and_self,imp_self,and_false,false_and,forall_const,jbJ,jbK,ja0,jbj,jbi,jbh,jbf,jbg,jaO,jaY,jaX,jaZ,Q3,G9,O0x,O0y,O0z,ldA,Q7,O1a,Q8,Q9,Q6,S7,U9,S8,S9,O1b,M8,N9,B8,A0,G3,jdj,jdi,jdl,jdk,jem,jeT,jen,jeU,jcX,F3,F4,O1c,W1,W4,O1d,F5,Q5,O1e,X0,F6,and_self,C8,M5,O1f, *])|(simp only[goO,ja7,jar,goC])|(with_reducible apply P3)|(with_reducible intro _))
 have hG:GInv has (Liv has [] l) (jcd (O6 has.length false,[]) l):=(GInv.start has _ has.length).reach fun x hx=>⟨by simpa using hb x hx,Liv.base hx⟩
 have hsn:=jeS l (O6 has.length false,[]) (fun x hx=>by have:=hb x hx;simp;omega);have hll:=jcO l (O6 has.length false,[]);have hbd:=jed l (O6 has.length false,[]) (fun x hx=>by have:=hb x hx;simp;omega);obtain⟨⟨sb1,td1⟩,hst⟩: ∃st,st=jcd (O6 has.length false,[]) l:=⟨_,rfl⟩;rw[←hst] at r1 hG hsn hll hbd;clear hst;dsimp only at r1 hsn hll hbd;rw[O0o] at hll;rw[je8,G9] at hbd;have hk2:Keep h h2 []:=kH.then r2 (fun i hi=> .inl hi) fun i hi=> .inr (by simp[idOf] at hi;omega)
 have hL':=HL.out;have hW2:Wri fl h2 (h.length+2) (.slice (h.length+1) 0 has.length has.length true 1) tv2:=⟨hW.f1,hW.f2,fun i hi=>(r3 i hi).elim (fun q=>by simp[idOf] at q) (fun q=>hf i (by omega)),fun i hi=>hf i (by have:=hk2.1;omega)⟩;have hge: ∀i∈(h.length+2)::(idOf (.slice (h.length+1) 0 has.length has.length true 1)++idOf tv2),h.length≤i:=fun i hi=>by
  simp only[A4,O3] at hi;rcases hi with q|q|q
  ·omega
  ·simp[idOf] at q;omega
  ·exact (r3 i q).elim (fun q=>by simp[idOf] at q) (fun q=>by omega)
 refine all_am r1 hG.toA (by rw[hll];exact hok) hk2 h1 hge hls (by omega) hW2 fun h3 tv3 sb3 q1 q2 q3 q4=>?_
 have hlen3:sb3.length=has.length:=by
  have a:=q1.seen.len;simp[lenA] at a;exact a.symm
 have fin:=hK h3 sb3 q1.seen hlen3 (LInv.ofA q2 (fun n hn=>hG.sub n hn) (fun x hx=>(hsn _).2 (.inr ⟨x,hx,rfl⟩))) (hk2.then q3 (fun i hi=> .inl hi) fun i hi=> .inr (hge i hi));have rc:=q1.rc;clear hgo;repeat' (first|(simp only[jct,jcQ,jcf,jb8,jbl,jb7,jc9,jb6,jbL,ja7,jcu,jbM,jaV,jaQ,jar,ja5,jbH,jaG,jaI,jbe,jeK,jcg,jdb,jb9,jbt,jch,jbp,jaF,jbC,jaC,jbd,jaW,jcY,jbs,jbb,jbG,jeJ,jcj,jbF,jaD,jaB,jaL,jbE,jbD,jaS,jaT,jci,jbN,jaP,jaH,jbc,jda,jba,jaU,jbI,jbV,jcL,jeq,jb1,jb2,jb3,jb4,jb5,jbZ,jbT,jbY,jb0,jcW,jaN,P7,O4,and_assoc,decide_false,decide_true,P8,P9,S3,N6,exists_false,S4,O0v,AV.val.injEq,AV.ptr.injEq,AV.slice.injEq,AV.func.injEq,AV.tuple.injEq,AV.agg.injEq,Value.bool.injEq,Value.int.injEq,U4,exists_eq_left',exists_eq_left,exists_and_left,exists_and_right,and_true,true_and,decide_eq_true_eq,decide_eq_false_iff_not,if_true,if_false,A9,beq_true,beq_false,ne_eq,not_true_eq_false,not_false_eq_true,reduceCtorEq,S5,S6,B6,O0w,A0,X4,reduceIte,ite_true,ite_false,or_true,true_or,or_false,false_or,resA,jaR,true_imp_iff,false_imp_iff,implies_true,imp_false,and_self,imp_self,and_false,false_and,forall_const,jbJ,jbK,ja0,jbj,jbi,jbh,jbf,jbg,jaO,jaY,jaX,jaZ,Q3,G9,O0x,O0y,O0z,ldA,Q7,O1a,Q8,Q9,Q6,S7,U9,S8,S9,O1b,M8,N9,B8,A0,G3,jdj,jdi,jdl,jdk,jem,jeT,jen,jeU,jcX,F3,F4,O1c,W1,W4,O1d,F5,Q5,O1e,X0,F6,and_self,C8,M5,O1f,jiE rc, *])|(simp only[goO,ja7,jar,goC])|(with_reducible apply P3)|(with_reducible intro _))
end
section
variable {tb:List (FuncId×Bool)}{nd:Bool}{L:Nat→Bool}{H:ZH}{K:ZV→ZH→Prop}
theorem wfrom_z {z1 z2 z3:ZV}{has:List (List Int)}{l:List Int}(h1:ja2 H 1 z1=some (has.map eL))(hc:z2.isCell=true)(h3:ja2 H 1 z3=some (l.map eI))(hN:has.length≤100)(hls: ∀l∈has,l.length≤1000)(hll:l.length≤1000000)(hok:jlz has has.length)
  (hb: ∀x∈l,0≤x∧x<(has.length:Int)) (hK:K (.fz 1 false ((jef has [] l).map eB)) H):
  ZC (XC tb nd) (jag Tryz.prog) 76 [.agg [z1,z2],z3] L H K:=by
 refine ZC.frzF (n:=has.length) (k:=1) (rows:=(jef has [] l).map eB) ?_ (by simp[jdW]) (jg5 (fun r hr=>by obtain⟨x,_,rfl⟩:=U6.1 hr;rfl)) hK;intro fl w args r e ha;subst e;obtain⟨a,ha0,ha1⟩:=ha.get (i:=0) rfl;obtain⟨b,hb0,hb1⟩:=ha.get (i:=1) rfl;obtain⟨ys,rfl,hys⟩:=ha1.agg_inv;obtain⟨v1,hv0,hv1⟩:=hys.get (i:=0) rfl;obtain⟨v2,hu0,hu1⟩:=hys.get (i:=1) rfl;have e1:ys=[v1,v2]:=by
  have:=hys.1;match ys,this,hv0,hu0 with
  |[x,y],_,hv0,hu0=>simp at hv0 hu0;rw[hv0,hu0]
 have e2:args=[.agg ys,b]:=by
  have:=ha.1;match args,this,ha0,hb0 with
  |[x,y],_,hv0,hu0=>simp at hv0 hu0;rw[hv0,hu0]
 subst e1;subst e2
 refine from_am2 (ll_of r hv1 h1) (by rw[←hu1.isCell];exact hc) (il_of r hb1 h3) hN hls hll hok hb r.fresh fun h' sb hBL hln hInv hKp=>?_
 have hsb:sb=jef has [] l:=juZ hln (fun n=>hInv.iff (fun p hp=>by cases hp) n);obtain⟨s1,s2⟩:=hBL;have hex: ∃row,blk h' (w.h.length+1)=some row∧has.length≤row.length∧row.take has.length=sb.map BV:=by
  rcases s2 with⟨_,e|e⟩|⟨id,off,lb,ex,row,e,_,q1,q2,q3⟩
  ·cases e
  ·cases e
  ·injection e with t1 t2 t3 t4
   subst t1;subst t2
   rw[hln] at q2 q3;exact⟨row,q1,by omega,by rw[←q3,W1,O1f]⟩
 obtain⟨row,hrow,hr0,hr1⟩:=hex;have hnew:New w.h h' 1 (.slice (w.h.length+1) 0 has.length has.length false 1) (sb.map BV) has.length:=by
  refine⟨⟨by simp[hln],.inr ⟨_,has.length,row,rfl,V2 _,by omega,hrow,by rw[O1f];exact hr1⟩⟩,by simp[idOf],hKp⟩
 obtain⟨w',q1,q2,q3,q4,q5⟩:=new_w (rows:=sb.map eB) r hnew (by intro x hx;obtain⟨y,_,rfl⟩:=U6.1 hx;rfl) (by simp[hln]) (fun w'=>by rw[jgi sb ZBo];exact jpV sb w');exact⟨_,w',q1,q3,q4,q5.ownEx,rfl,by rw[q2,hsb]⟩
structure Rng (T:List TB):Prop where
  len:T.length≤100
  sm: ∀x∈T,x.2.1.length≤10
  rng: ∀x∈T,∀ y∈x.2.1,y<(T.length:Int)
theorem jeD (T:List TB):(jc1 T).length=T.length:=by simp[jc1]
theorem Rng.ok {T:List TB}(h:Rng T):jlz (jc1 T) (jc1 T).length:=by
 refine⟨rfl,fun o ho y hy=>?_⟩;obtain⟨x,hx,rfl⟩:=U6.1 ho;have hm:=J7.1 hy;have:=h.rng x hx y hm.1;have h0: ¬y<0:=by simpa using hm.2
 rw[jeD];omega
theorem Rng.own {T:List TB}(h:Rng T): ∀o∈jc1 T,o.length≤1000:=fun o ho=>by
 obtain⟨x,hx,rfl⟩:=U6.1 ho;have h1:=h.sm x hx;have h2:=O0n (fun x=> !decide (x<0)) x.2.1;unfold jdK;omega
theorem Rng.root {T:List TB}(h:Rng T): ∀x∈jcH (jaE T),0≤x∧x<((jc1 T).length:Int):=fun x hx=>by
 obtain⟨h0,h1⟩:=jfP.1 hx;have:=Sn_lt h1;rw[jeD];simp[jaE] at this;omega
theorem rootsLen {T:List TB}(h:Rng T):(jcH (jaE T)).length≤1000000:=by
 have:=jdh (jaE T) (jaE T).length;have h1:=h.len;unfold jcH;rw[show (jaE T).length=T.length by simp[jaE]] at this ⊢;omega
noncomputable def jfs (T:List TB):List Bool:=jef (jc1 T) [] (jcH (jaE T))
instance {l:List Bool}{n:Nat}:Decidable (Sn l n):=inferInstanceAs (Decidable (_=true))
noncomputable def jbO (T:List TB)(l:List Int):Int:=if ∀n∈l,0≤n∧n<(T.length:Int) then (if ∀n∈l,Sn (jfs T) n.toNat then 0 else 8) else 5
variable {p t g:Nat}{kd:Int}{mk:Bool}{T:List TB}
theorem jow {z:ZV}{l:List Int}(h:MkAt H p t g kd mk T)(hr:Rng T)(hz: ∀X,ja2 (H++X) 1 z=some (l.map eI))(hl:l.length≤1000)(hK:K (Z64 (jbO T l)) H):
  ZC (XC tb nd) (jag Tryz.prog) 43 [.ptr p 0,z] L H K:=by
 refine K6 Gh.no (jaf (by decide)) jrC (by simp) fun hL=>?_
 simp only[jkP,kkP];have hz0:=hz [];rw[A0] at hz0;have hb:=h.box;have ha:=h.arr;have h3:ja2 H 3 (.own t g 0 T.length false)=some (T.map eT):=jbz ha (by simp);have hl3:=ja3 h3;rw[P2] at hl3;have hlz: ∀X,lenZ (H++X) z=some l.length:=fun X=>by have:=ja3 (hz X);rwa [P2] at this
 have hlz0:=hlz [];rw[A0] at hlz0;have F: ∀e X,jbO T l=e→Fin H (Z64 e) (H++X) K:=fun e X he=>Fin.trunc (K4 H X) rfl (by rw[K5,← he];exact hK)
 have FF:=Z4 F;have HM:=Z4 h;have HR:=Z4 hr;have HZ:=Z4 hz;have HL:=Z4 hl;clear F h hr hz hl hK h3 ha;with_reducible repeat' first|simp only[zQ,seval,X0,hb,hlz0, *]|simp only[jab]|apply P3|intro _
 refine jaK [(1,z),(0,.ptr p 0),(11,z)] l.length (fun k s' h'=>h'=H∧ ∀n∈l.take k,0≤n∧n<(T.length:Int)) (by have:=HL.out;omega) ⟨rfl,rfl,rfl,rfl,rfl,rfl⟩ rfl rfl (by repeat' (first|exact trivial|(refine⟨rfl,?_⟩)|(refine⟨by simp only[jaj,X4,reduceIte];assumption,?_⟩))) rfl rfl (by decide) ⟨rfl,by simp⟩ ?_ ?_
 ·rintro k s' h' hk ⟨rfl,hok⟩ hi hll ⟨f1,f0,f11,-⟩
  obtain⟨pp,hp,hld⟩:=jcS hz0 hk;have hnx: ∀P:Int→Prop,(∀n∈l.take k,P n)→P l[k]→ ∀n∈l.take (k+1),P n:=fun P h1 h2 n hn=>by
   rw[X5 hk] at hn;rcases O3.1 hn with hn|hn
   ·exact h1 n hn
   ·rw[X6.1 hn];exact h2
  have hbad: ¬(0≤l[k]∧l[k]<(T.length:Int))→jbO T l=5:=fun hc=>by
   unfold jbO;rw[if_neg fun h=>hc (h _ (M4 hk))]
  obtain⟨q,hq⟩: ∃q,q=l[k]:=⟨_,rfl⟩;rw[←hq] at hld hnx hbad;have NX:=Z4 (hnx (fun n=>0≤n∧n<(T.length:Int)) hok);have BAD:=Z4 hbad;clear hq hnx hbad hok;by_cases hn:q<0
  ·have fin:=FF.out 5 [] (BAD.out (by omega))
   rw[A0] at fin;with_reducible repeat' first|simp only[zQ,seval,X0,hp,hld,hb,hl3, *]|simp only[jab]|apply P3|intro _
  ·by_cases hn2:(T.length:Int)≤q
   ·have fin:=FF.out 5 [] (BAD.out (by omega))
    rw[A0] at fin;with_reducible repeat' first|simp only[zQ,seval,X0,hp,hld,hb,hl3, *]|simp only[jab]|apply P3|intro _
   ·have fin:=NX.out (by omega)
    with_reducible repeat' first|simp only[zQ,seval,X0,hp,hld,hb,hl3, *]|simp only[jab]|apply P3|intro _
 ·rintro s' h' ⟨rfl,hok⟩ ⟨f1,f0,f11,-⟩
  rw[I5 (V2 _)] at hok;have HOK:=Z4 hok;clear hok hlz0 hz0;with_reducible repeat' first|simp only[zQ,seval,X0, *]|simp only[jab]|apply P3|intro _
  refine graph_z HM.out ?_;have l0:L h'.length=true:=hL 0;with_reducible repeat' first|simp only[zQ,seval,X0,l0, *]|simp only[jab]|apply P3|intro _
  refine wfrom_z (z2:= .fz 1 false ((jcH (jaE T)).map eI)) jaM rfl jaM (by rw[jeD];exact HR.out.len) HR.out.own (rootsLen HR.out) HR.out.ok HR.out.root ?_;with_reducible repeat' first|simp only[zQ,seval,X0,hlz,l0, *]|simp only[jab]|apply P3|intro _
  have hbl:(jfs T).length=T.length:=by unfold jfs;rw[jdW,jeD]
  have e:jef (jc1 T) [] (jcH (jaE T))=jfs T:=rfl;rw[e];obtain⟨nb,hnb⟩: ∃nb,nb=jfs T:=⟨_,rfl⟩;rw[←hnb] at hbl ⊢;have HNB:=Z4 hnb;have HBL:=Z4 hbl;clear e hnb hbl;refine jaK [(8,.fz 1 false (nb.map eB)),(35,z)] l.length (fun k s' h2=>(∃X,h2=h'++X)∧ ∀n∈l.take k,Sn nb n.toNat) (by have:=HL.out;omega) ⟨rfl,rfl,rfl,rfl,rfl,rfl⟩ rfl rfl (by repeat' (first|exact trivial|(refine⟨rfl,?_⟩)|(refine⟨by simp only[jaj,X4,reduceIte];assumption,?_⟩))) rfl rfl (by decide) ⟨⟨_,rfl⟩,by simp⟩ ?_ ?_
  ·rintro k s' h2 hk ⟨⟨X,rfl⟩,hsn⟩ hi hll ⟨f8,f35,-⟩
   obtain⟨pp,hp,hld⟩:=jcS (HZ.out X) hk;have hnx: ∀P:Int→Prop,(∀n∈l.take k,P n)→P l[k]→ ∀n∈l.take (k+1),P n:=fun P h1 h2 n hn=>by
    rw[X5 hk] at hn;rcases O3.1 hn with hn|hn
    ·exact h1 n hn
    ·rw[X6.1 hn];exact h2
   have hrg:=HOK.out _ (M4 hk);have hbad: ¬Sn nb l[k].toNat→jbO T l=8:=fun hc=>by
    unfold jbO;rw[if_pos HOK.out,if_neg fun h=>hc (by rw[HNB.out];exact h _ (M4 hk))]
   obtain⟨m,hm⟩:=O1g hrg.1;rw[hm] at hld hnx hbad hrg;have hml:m<nb.length:=by rw[HBL.out];omega
   have hx:nb[m]?=some nb[m]:=U1 hml;have hs:Sn nb m↔nb[m]=true:=by unfold Sn;simp[E7,hml]
   obtain⟨c,hc⟩: ∃c,c=nb[m]:=⟨_,rfl⟩;rw[←hc] at hx hs;have NX:=Z4 (hnx (fun n=>Sn nb n.toNat) hsn);have BAD:=Z4 hbad;have HS:=Z4 hs;clear hm hrg hbad hnx hsn hc hs
   cases c with
   |true=>
    have fin:=NX.out (HS.out.2 rfl);have FN:=Z4 fin;clear fin;with_reducible repeat' first|simp only[zQ,seval,X0,hp,hld,hx,hml, *]|simp only[jab]|apply P3|intro _
    all_goals first|exact FN.out|exact FN.out _ (by assumption)|exact⟨_,rfl⟩
   |false=>
    have fin:=FF.out 8 X (BAD.out fun h=>by have:=HS.out.1 h;cases this);with_reducible repeat' first|simp only[zQ,seval,X0,hp,hld,hx,hml, *]|simp only[jab]|apply P3|intro _
  ·rintro s' h2 ⟨⟨X,rfl⟩,hsn⟩ ⟨f8,f35,-⟩
   rw[I5 (V2 _)] at hsn;have fin:=FF.out 0 X (by unfold jbO;rw[if_pos HOK.out,if_pos (by rw[←HNB.out];exact hsn)]);clear hsn hlz;with_reducible repeat' first|simp only[zQ,seval,X0, *]|simp only[jab]|apply P3|intro _
end
end
section
open Go Go.RowKit
variable {tb:List (FuncId×Bool)}{nd:Bool}{L:Nat→Bool}{H:ZH}{K:ZV→ZH→Prop}{p t g:Nat}{kd:Int}{mk:Bool}{T:List TB}
abbrev keyT (x:TB):Option Nat×List Int:=(x.1,x.2.1)
abbrev thH (H:ZH)(t g:Nat)(T:List TB):ZH:=H.set t (.grow g 3 (T.map eT))
theorem MkAt.pt (h:MkAt H p t g kd mk T):p≠t:=fun e=>by
 have h1:=h.box;have h2:=h.arr
 rw[e,h2] at h1;cases h1
theorem MkAt.jt (h:MkAt H p t g kd mk T){x:TB}{j:Nat}(hx:x∈T)(hj:x.1=some j):j≠t∧j≠p:=by
 have h1:=h.pl x hx;rw[hj] at h1;refine⟨fun e=>?_,fun e=>?_⟩
 ·have h2:=h.arr;rw[←e,h1.2] at h2;cases h2
 ·have h2:=h.box;rw[←e,h1.2] at h2;cases h2
theorem set_same {l:ZH}{i:Nat}{B:ZB}(h:l[i]?=some B):l.set i B=l:=by
 apply U7
 intro j;rw[M1];split
 ·rename_i e;subst e;rw[if_pos (jap h),h]
 ·rfl
theorem MkAt.same (h:MkAt H p t g kd mk T):thH H t g T=H:=set_same h.arr
theorem MkAt.upd (h:MkAt H p t g kd mk T){T':List TB}(hk:T'.map keyT=T.map keyT):MkAt (thH H t g T') p t g kd mk T':=by
 have hl:T'.length=T.length:=by have:=congrArg O0d hk;simpa using this
 have hmem: ∀x∈T',∃ y∈T,y.1=x.1∧y.2.1=x.2.1:=fun x hx=>by
  have:keyT x∈T.map keyT:=by rw[←hk];exact List.mem_map_of_mem hx
  obtain⟨y,hy,e⟩:=U6.1 this;injection e with e1 e2
  exact⟨y,hy,e1,e2⟩
 refine⟨by rw[O0a (Ne.symm h.pt),hl];exact h.box,by rw[List.getElem?_set_self (jap h.arr)],fun x hx=>?_,?_,by rw[hl];exact h.len,fun x hx=>?_⟩
 ·obtain⟨y,hy,e1,e2⟩:=hmem x hx
  have h1:=h.pl y hy;have h2: ∀j,y.1=some j→j≠t∧j≠p:=fun j hj=>h.jt hy hj
  rw[e1,e2] at h1;rw[e1] at h2
  revert h1 h2
  cases x.1 with
  |none=>exact fun h1 _=>h1
  |some j=>exact fun h1 h2=>⟨h1.1,by rw[O0a (Ne.symm (h2 j rfl).1)];exact h1.2⟩
 ·have e:T'.filterMap Prod.fst=T.filterMap Prod.fst:=by
   have h1: ∀l:List TB,l.filterMap Prod.fst=(l.map keyT).filterMap Prod.fst:=fun l=>by rw[List.filterMap_map];rfl
   rw[h1,h1 T,hk]
  rw[e];exact h.nod
 ·obtain⟨y,hy,e1,e2⟩:=hmem x hx
  rw[←e2];exact h.sm y hy
theorem jeN {T1 T2:List TB}:thH (thH H t g T1) t g T2=thH H t g T2:=by unfold thH;rw[List.set_set]
abbrev colX (x:TB)(c:Int):TB:=(x.1,x.2.1,c,x.2.2.2)
theorem jg8 {n:Nat}{x y:TB}(hx:T[n]?=some x)(hk:keyT y=keyT x):(T.set n y).map keyT=T.map keyT:=by
 rw[O1h,hk];apply U7
 intro j;rw[M1];split
 ·rename_i e;subst e;rw[if_pos (by simpa using (List.getElem?_eq_some_iff.1 hx).1),U8,hx];rfl
 ·rfl
def jaz (mk:Bool)(T:List TB)(n:Int):List TB:=if mk=true∧0≤n then (match T[n.toNat]? with
  |some x=>if x.2.2.1=0 then T.set n.toNat (colX x 1) else T
  |none=>T) else T
theorem jdH {n:Int}:(jaz mk T n).map keyT=T.map keyT:=by
 unfold jaz;split
 ·split
  ·rename_i x hx
   split
   ·exact jg8 hx rfl
   ·rfl
  ·rfl
 ·rfl
theorem jd2 {n:Int}:(jaz mk T n).length=T.length:=by have:=congrArg O0d (jdH (mk:=mk) (T:=T) (n:=n));simpa using this
theorem t_el (h:MkAt H p t g kd mk T){n:Nat}(hn:n<T.length):jdd H 3 n (.own t g 0 T.length false)=some (.eptr t g n 0):=by
 rw[jbQ];exact⟨_,h.arr,by simp,hn,by simp⟩
theorem t_ld (h:MkAt H p t g kd mk T){n o:Nat}{x:TB}(hx:T[n]?=some x):ldZ H none (.eptr t g n o)=(eT x)[o]?:=by
 cases hv:(eT x)[o]? with
 |some v=>rw[jbS];exact⟨_,_,_,h.arr,by rw[U8,hx];rfl,hv⟩
 |none=>
  cases hl:ldZ H none (.eptr t g n o) with
  |none=>rfl
  |some v=>
   rw[jbS] at hl;obtain⟨k2,rows,r,h1,h2,h3⟩:=hl;rw[h.arr] at h1;injection h1 with h1;injection h1 with _ _ h1
   rw[←h1,U8,hx] at h2;injection h2 with h2
   rw[←h2] at h3;have h3:(eT x)[o]?=some v:=h3;rw[hv] at h3;cases h3
theorem t_st (h:MkAt H p t g kd mk T)(hL:L t=true){n:Nat}{x:TB}(hx:T[n]?=some x)(c:Int):stZ L H [Z64 c] (.eptr t g n 1)=some (thH H t g (T.set n (colX x c))):=by
 rw[jfe];refine⟨3,_,eT x,h.arr,by rw[U8,hx];rfl,hL,by simp[eT],?_⟩;unfold thH;rw[O1h];rfl
theorem t_sth (h:MkAt H p t g kd mk T)(hL:L t=true){n:Nat}{x:TB}(hx:T[n]?=some x)(b:Bool):stZ L H [ZBo b] (.eptr t g n 2)=some (thH H t g (T.set n (x.1,x.2.1,x.2.2.1,b))):=by
 rw[jfe];refine⟨3,_,eT x,h.arr,by rw[U8,hx];rfl,hL,by simp[eT],?_⟩;unfold thH;rw[O1h];rfl
end
section
open Go Go.RowKit
variable {tb:List (FuncId×Bool)}{nd:Bool}{L:Nat→Bool}{H:ZH}{K:ZV→ZH→Prop}{p t g:Nat}{kd:Int}{mk:Bool}{T:List TB}
theorem jfi {n:Int}(h:MkAt H p t g kd mk T)(hL:L t=true)(hn:mk=true→0≤n→n<(T.length:Int))(hK:K .no (thH H t g (jaz mk T n))):
  ZC (XC tb nd) (jag Tryz.prog) 44 [.ptr p 0,Z64 n] L H K:=by
 refine Z9 Gh.no (jaf (by decide)) jrB (by simp) ?_;simp only[jkO,kkP];have hb:=h.box;have HK:=Z4 hK
 cases mk with
 |false=>
  have fin:K .no H:=by have:=HK.out;unfold jaz at this;rw[if_neg (by simp),h.same] at this;exact this
  have fin:=Fin.keep (H0:=H) fin;clear h hn hK;with_reducible repeat' first|simp only[zQ,seval,X0,hb, *]|simp only[jab]|apply P3|intro _
  all_goals exact⟨_,rfl,fin⟩
 |true=>
  by_cases h0:0≤n
  ·obtain⟨m,rfl⟩:=O1g h0
   have hm:m<T.length:=by have:=hn rfl h0;omega
   have hx:T[m]?=some T[m]:=U1 hm;obtain⟨x,hxe⟩: ∃x,x=T[m]:=⟨_,rfl⟩;rw[←hxe] at hx;have hel:=t_el h hm;have hld:=t_ld h (o:=1) hx;have hst:=t_st h hL hx 1;have hld:ldZ H none (.eptr t g m 1)=some (Z64 x.2.2.1):=hld;by_cases hc:x.2.2.1=0
   ·have fin:K .no (thH H t g (T.set m (colX x 1))):=by have:=HK.out;unfold jaz at this;rw[if_pos ⟨rfl,h0⟩,O0f,hx] at this;simp only at this;rw[if_pos hc] at this;exact this
    have fin:=Fin.keep (H0:=H) fin;rw[hc] at hld;clear h hn hK hxe hc hx;with_reducible repeat' first|simp only[zQ,seval,X0,hb,hel,hld,hst, *]|simp only[jab]|apply P3|intro _
    all_goals exact⟨_,rfl,fin⟩
   ·have fin:K .no H:=by have:=HK.out;unfold jaz at this;rw[if_pos ⟨rfl,h0⟩,O0f,hx] at this;simp only at this;rw[if_neg hc,h.same] at this;exact this
    have fin:=Fin.keep (H0:=H) fin;obtain⟨c,hcc⟩: ∃c,c=x.2.2.1:=⟨_,rfl⟩;rw[←hcc] at hld hc;clear h hn hK hxe hx hst hcc;with_reducible repeat' first|simp only[zQ,seval,X0,hb,hel,hld, *]|simp only[jab]|apply P3|intro _
    all_goals exact⟨_,rfl,fin⟩
  ·have fin:K .no H:=by have:=HK.out;unfold jaz at this;rw[if_neg (fun h=>h0 h.2),h.same] at this;exact this
   have fin:=Fin.keep (H0:=H) fin;clear h hn hK;with_reducible repeat' first|simp only[zQ,seval,X0,hb, *]|simp only[jab]|apply P3|intro _
   all_goals exact⟨_,rfl,fin⟩
end
end Go.Proofs.YtlkapggcppcafaaGreatDoor
