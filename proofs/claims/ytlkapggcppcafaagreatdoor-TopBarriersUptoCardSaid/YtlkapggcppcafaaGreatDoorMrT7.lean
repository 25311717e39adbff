/-
  What package nanbox computes: Box, Unbox, Kind (and the reference's Odd).
-/
import Derived.KernelRfl
import Derived.Laws.Externs
import Derived.Shelf.Strings.Fields
import Derived.Test.YtlkapggcppcafaaGreatDoorMrT1
import Derived.Test.YtlkapggcppcafaaGreatDoorMrT4
import Derived.Test.YtlkapggcppcafaaGreatDoorMrT6
set_option linter.unusedVariables false
set_option maxHeartbeats 32000000
set_option linter.unusedSimpArgs false
open And renaming intro→P3
open Bool renaming and_true→T9,or_true→L0,and_eq_true→U2,or_eq_false_iff→L8,or_eq_true→R7
open Int renaming reduceEq→K8,reduceLE→K9,reduceLT→T5,reduceGE→T6,reduceGT→T7,reduceNe→T8
open List renaming findIdx?_eq_none_iff→Z5,any_eq_false→Z6,findIdx?_eq_some_iff_getElem→Z7,any_eq_true→Z8,getElem_mem→M4,length_map→P2,take_succ_eq_append_getElem→X5,mem_append→O3,mem_singleton→X6,take_of_length_le→I5,getElem?_map→U8,mem_of_getElem?→R5,getD_eq_getElem?_getD→C0,getElem?_eq_getElem→U1,mem_map→U6,getElem?_eq_some_iff→U0,eq_nil_of_length_eq_zero→Y9,replicate→O6,length_nil→G9,length_pos_iff→X9,mem_replicate→A6,getElem?_append_right→N0,set_append_right→B7,take_left→K5,take_length→K7,drop_zero→W1,map_cons→B6,flatten_cons→D6,map_append→L3,dropLast_eq_take→L5,map_take→L6,all_eq_true→N2,mem_flatten→Y6,mem_iff_getElem→W6,length_take→C4,append_assoc→M8,getElem?_append_left→V5,mem_zipIdx_iff_getElem?→L7,any_cons→L9,take_succ_cons→F4,getElem_cons_succ→H5
open Nat renaming reduceLeDiff→X0,reduceEqDiff→X4,le_refl→V2,le_trans→V3,sub_self→B4,add_sub_cancel_left→D8,min_eq_left→C7
open Option renaming map_some→U9,isSome_iff_exists→X8,isSome_none→L4,bind_some→Q9
namespace Go.Proofs.YtlkapggcppcafaaGreatDoor
open Lib renaming hid→Z4,fields→X7
open Mods renaming ext→K4
open ZC renaming enter→Z9,enterL→K6
section
open Go.RowKit
theorem jsb (n:Int)(h0:0≤n)(h1:n<18446744073709551616):bits .and .u64 n 9223372036854775807=n % 9223372036854775808:=by
 rw[u64_and n _ h0 h1 (by omega) (by omega)];have:(9223372036854775807:Int).toNat=2^63 - 1:=rfl;rw[this,Nat.and_two_pow_sub_one_eq_mod];omega
def jix (n:Int):Bool:=decide (9218868437227405312<n % 9223372036854775808)
def tagI (k:Int):Int:=(65529+(if 3<k then k - 1 else k))*281474976710656
def loI (k:Int):Int:=if k=2 then -2147483648 else 0
def hiI (k:Int):Int:=if k=0 then 0 else if k=1 then 1 else if k=2 then 2147483647 else 4294967295
theorem jkc (n:Int)(w:World)(h0:0≤n)(h1:n<18446744073709551616):
  Calls Tryz.prog 27 #[.int .u64 n] w fun e w'=>e= .returned (.bool (jix n))∧w=w':=by
 have e:=Z4 (jsb n h0 h1)
 go_enter Tryz.func27,Tryz.ntmps27
 go_wp2
 go_ret
 exact⟨ret_bool (by unfold jix;rw[e.out]),rfl⟩
theorem tag_any (n:Int)(w:World)(h:0≤n)(h1:n≤6):
  Calls Tryz.prog 29 #[.int .i64 n] w fun e w'=>e= .returned (.int .u64 (tagI n))∧w=w':=by
 go_enter Tryz.func29,Tryz.ntmps29
 go_wp2
 all_goals go_ret
 ·exact⟨jtY (by unfold tagI;rw[if_pos (by assumption)]),rfl⟩
 ·exact⟨jtY (by unfold tagI;rw[if_neg (by omega)]),rfl⟩
theorem jhj (n:Int)(w:World):
  Calls Tryz.prog 28 #[.int .i64 n] w fun e w'=>e= .returned (.tuple #[.int .i64 (loI n),.int .i64 (hiI n)])∧w=w':=by
 go_enter Tryz.func28,Tryz.ntmps28
 go_wp2
 all_goals go_ret2
 all_goals exact⟨jec (by unfold loI;simp_all) (by unfold hiI;simp_all),rfl⟩
def boxE (k n:Int):Int:=if k<0∨6<k then 7 else if k=3 then 0 else if n<loI k∨hiI k<n then 1 else 0
def boxW (k n:Int):Int:=
  if k<0∨6<k then 0 else if k=3 then (if jix (IntKind.u64.wrap n) then 9221120237041090561 else IntKind.u64.wrap n)
  else if n<loI k∨hiI k<n then 0 else tagI k+n % 4294967296
theorem or_tag (k n:Int)(h:0≤k)(h1:k≤6):bits .or .u64 (tagI k) (n % 4294967296)=tagI k+n % 4294967296:=by
 have hn:0≤n % 4294967296:=by omega
 have hn1:n % 4294967296<4294967296:=by omega
 generalize n % 4294967296=m at*;have ht:tagI k=((tagI k).toNat:Int):=by unfold tagI;split<;>omega
 rw[u64_or _ _ (by unfold tagI;split<;>omega) (by unfold tagI;split<;>omega) (by omega) (by omega)];rw[nat_join 48 _ _ (by unfold tagI;split<;>omega) (by omega)];omega
theorem u64r (n:Int):0≤IntKind.u64.wrap n∧IntKind.u64.wrap n<18446744073709551616:=by simp only[IntKind.wrap_u64];omega
theorem box_any (k n:Int)(w:World)  :
  Calls Tryz.prog 15 #[.agg #[.int .i64 k,.int .i64 n]] w fun e w'=>e= .returned (.tuple #[.int .u64 (boxW k n),.int .i64 (boxE k n)])∧Below w.heap.size w w':=by
 by_cases h1:k<0
 ·go_enter Tryz.func15,Tryz.ntmps15
  go_wp2
  go_ret2
  exact⟨jec (by unfold boxW;rw[if_pos (.inl h1)]) (by unfold boxE;rw[if_pos (.inl h1)]),(by repeat' (first|(with_reducible exact Below.refl _ _)|(with_reducible assumption)|(with_reducible refine below_drewN ?_ _)|(with_reducible refine Below.drew ?_)|(with_reducible refine Below.alloc ?_ ?_ _)|(with_reducible refine Below.setCell ?_ ?_ _)|go_size))⟩
 by_cases h2:6<k
 ·go_enter Tryz.func15,Tryz.ntmps15
  go_wp2
  go_ret2
  exact⟨jec (by unfold boxW;rw[if_pos (.inr h2)]) (by unfold boxE;rw[if_pos (.inr h2)]),(by repeat' (first|(with_reducible exact Below.refl _ _)|(with_reducible assumption)|(with_reducible refine below_drewN ?_ _)|(with_reducible refine Below.drew ?_)|(with_reducible refine Below.alloc ?_ ?_ _)|(with_reducible refine Below.setCell ?_ ?_ _)|go_size))⟩
 have h1':0≤k:=by omega
 have h2':k≤6:=by omega
 by_cases h3:k=3
 ·subst h3
  by_cases hs:jix (IntKind.u64.wrap n)=true
  ·go_enter Tryz.func15,Tryz.ntmps15
   go_wp2_with (go_at_call 27;refine (jkc _ _ (u64r n).1 (u64r n).2).mono ?_;rintro e w' ⟨rfl,rfl⟩)
   go_ret2
   exact⟨jec (by unfold boxW;rw[if_neg (by omega),if_pos rfl,if_pos hs]) (by unfold boxE;rw[if_neg (by omega),if_pos rfl]),(by repeat' (first|(with_reducible exact Below.refl _ _)|(with_reducible assumption)|(with_reducible refine below_drewN ?_ _)|(with_reducible refine Below.drew ?_)|(with_reducible refine Below.alloc ?_ ?_ _)|(with_reducible refine Below.setCell ?_ ?_ _)|go_size))⟩
  ·have hs':jix (IntKind.u64.wrap n)=false:=by simpa using hs
   go_enter Tryz.func15,Tryz.ntmps15
   go_wp2_with (go_at_call 27;refine (jkc _ _ (u64r n).1 (u64r n).2).mono ?_;rintro e w' ⟨rfl,rfl⟩)
   go_ret2
   exact⟨jec (by unfold boxW;rw[if_neg (by omega),if_pos rfl,if_neg hs]) (by unfold boxE;rw[if_neg (by omega),if_pos rfl]),(by repeat' (first|(with_reducible exact Below.refl _ _)|(with_reducible assumption)|(with_reducible refine below_drewN ?_ _)|(with_reducible refine Below.drew ?_)|(with_reducible refine Below.alloc ?_ ?_ _)|(with_reducible refine Below.setCell ?_ ?_ _)|go_size))⟩
 by_cases h4:n<loI k
 ·go_enter Tryz.func15,Tryz.ntmps15
  go_wp2_with (go_at_call 28;refine (jhj _ _).mono ?_;rintro e w' ⟨rfl,rfl⟩)
  go_ret2
  exact⟨jec (by unfold boxW;rw[if_neg (by omega),if_neg h3,if_pos (by omega)]) (by unfold boxE;rw[if_neg (by omega),if_neg h3,if_pos (by omega)]),(by repeat' (first|(with_reducible exact Below.refl _ _)|(with_reducible assumption)|(with_reducible refine below_drewN ?_ _)|(with_reducible refine Below.drew ?_)|(with_reducible refine Below.alloc ?_ ?_ _)|(with_reducible refine Below.setCell ?_ ?_ _)|go_size))⟩
 by_cases h5:hiI k<n
 ·go_enter Tryz.func15,Tryz.ntmps15
  go_wp2_with (go_at_call 28;refine (jhj _ _).mono ?_;rintro e w' ⟨rfl,rfl⟩)
  go_ret2
  exact⟨jec (by unfold boxW;rw[if_neg (by omega),if_neg h3,if_pos (by omega)]) (by unfold boxE;rw[if_neg (by omega),if_neg h3,if_pos (by omega)]),(by repeat' (first|(with_reducible exact Below.refl _ _)|(with_reducible assumption)|(with_reducible refine below_drewN ?_ _)|(with_reducible refine Below.drew ?_)|(with_reducible refine Below.alloc ?_ ?_ _)|(with_reducible refine Below.setCell ?_ ?_ _)|go_size))⟩
 have ho:=Z4 (or_tag k n h1' h2')
 go_enter Tryz.func15,Tryz.ntmps15
 go_wp2_with (go_at_call 28;refine (jhj _ _).mono ?_;rintro e w' ⟨rfl,rfl⟩)
 go_quiet ((go_at_call 29;exact Calls.quiet_of_same ((tag_any _ _ h1' h2').mono fun _ _ h=>⟨h.1,h.2.symm⟩)))
 go_wp2
 go_ret2
 exact⟨jec (by unfold boxW;rw[if_neg (by omega),if_neg h3,if_neg (by omega)];exact ho.out) (by unfold boxE;rw[if_neg (by omega),if_neg h3,if_neg (by omega)]),(by repeat' (first|(with_reducible exact Below.refl _ _)|(with_reducible assumption)|(with_reducible refine below_drewN ?_ _)|(with_reducible refine Below.drew ?_)|(with_reducible refine Below.alloc ?_ ?_ _)|(with_reducible refine Below.setCell ?_ ?_ _)|go_size))⟩
end
section
open Go Go.RowKit
variable {X:XT}{F:FuncId→Option jbq}{L:Nat→Bool}{H:ZH}{K:ZV→ZH→Prop}{α:Type}{e:α→List ZV}{arg:α→ZV}{l:List α}{p:α→Bool}{k b:Nat}{n:Option Nat}{g f:FuncId}{caps:List ZV}{z:ZV}
def idxP {α:Type}(p:α→Bool)(l:List α):Int:=match l.findIdx? p with
  |some i=>(i:Int)
  |none=> -1
theorem idx_ge {α:Type}{p:α→Bool}{l:List α}:decide ((0:Int)≤idxP p l)=l.any p:=by
 unfold idxP
 cases h:l.findIdx? p with
 |none=>
  have:=Z5.1 h;simp only[Int.reduceNeg,show ¬((0:Int)≤ -1) by omega,decide_false];symm
  rw[Z6];intro x hx;rw[this x hx];simp
 |some i=>
  obtain⟨h1,h2,_⟩:=Z7.1 h;have h3:(0:Int)≤(i:Int):=by omega
  simp only[h3,decide_true];symm
  exact Z8.2 ⟨_,M4 h1,h2⟩
def NoneY {α:Type}(p:α→Bool)(l:List α):Prop:= ∀x∈l,p x=false
def c_if (k:Nat)(n:Option Nat):jam:=kks [kkK 4 0] (.seq (kks [kkM 6 0,kkH 7 6,kkK 8 0] (jau 0 1 9 8 7 18 (kks [kkM 10 8,kkM 5 10] (kks [kkM 11 1,kkM 12 0,kkM 13 5,kkI 14 (.indexAddr k (kkt 12) (kkt 13)),kkI 15 (.load n (kkt 14)),kkI 16 (.call (kkt 11) [kkt 15])] (kkr 16 [kkM 17 5,kkM 4 17]))))) (kks [kkK 4 (-1)] .ret))
theorem idxg_z (hF:F g=some ⟨19,c_if k n,[.tmp 4]⟩)(hx: ∀args fl hp,args.length=2→X.x g args fl hp=none)(ha: ∀m∈l,jdI (e m) 0 n=some (arg m))(hz:ja2 H k z=some (l.map e))(hb:l.length≤100000000000000)
  (hf: ∀m∈l,∀ K,K (ZBo (p m)) H→ZC X F f (arg m::caps) L H K) (hK:K (Z64 (idxP p l)) H):ZC X F g [z,.func f caps] L H K:=by
 refine Z9 Gh.no hx hF (by simp) ?_;simp only[c_if,kkP];have hlen:=ja3 hz;rw[P2] at hlen;have HF:=Z4 hf;have HK:=Z4 hK;have HA:=Z4 ha;clear hf hK ha hF hx;with_reducible repeat' first|simp only[zQ,seval,X0,hlen, *]|simp only[jab]|apply P3|intro _
 refine jaK [(0,z),(1,.func f caps)] l.length (fun k s' h'=>h'=H∧NoneY p (l.take k)) (by omega) ⟨rfl,rfl,rfl,rfl,rfl,rfl⟩ rfl rfl (by repeat' (first|exact trivial|(refine⟨rfl,?_⟩)|(refine⟨by simp only[jaj,X4,reduceIte];assumption,?_⟩))) rfl rfl (by decide) ⟨rfl,by simp[NoneY]⟩ ?_ ?_
 ·rintro j s' h' hk ⟨rfl,hno⟩ hi hl ⟨f0,f1,-⟩
  obtain⟨q,hq,hld⟩:=jcS hz hk;have hld:=(hld n).trans (HA.out _ (M4 hk));have HN:=Z4 hno;clear hno;with_reducible repeat' first|simp only[zQ,seval,X0,hq,hld, *]|simp only[jab]|apply P3|intro _
  refine HF.out _ (M4 hk) _ ?_
  cases hp:p l[j] with
  |true=>
   have hi:idxP p l=(j:Int):=by
    have:l.findIdx? p=some j:=by
     rw[Z7];exact⟨hk,hp,fun j hj=>by simp only[Bool.not_eq_true];exact HN.out _ (by rw[List.mem_take_iff_getElem];exact⟨j,by omega,rfl⟩)⟩
    simp only[idxP,this]
   have hK:=HK.out;rw[hi] at hK;have fin:=Fin.keep (H0:=h') hK;clear hp hi hK hld;with_reducible repeat' first|simp only[zQ,seval,X0, *]|simp only[jab]|apply P3|intro _
  |false=>
   have fin:NoneY p (l.take (j+1)):=fun x hx=>by
    rw[X5 hk] at hx;rcases O3.1 hx with hx|hx
    ·exact HN.out x hx
    ·rw[X6.1 hx];exact hp
   clear hp hld;with_reducible repeat' first|simp only[zQ,seval,X0, *]|simp only[jab]|apply P3|intro _
 ·rintro s' h' ⟨rfl,hno⟩ ⟨f0,f1,-⟩
  rw[I5 (V2 _)] at hno;have hi:idxP p l= -1:=by
   have:l.findIdx? p=none:=Z5.2 fun x hx=>by rw[hno x hx]
   simp only[idxP,this]
  have hK:=HK.out;rw[hi] at hK;have fin:=Fin.keep (H0:=h') hK;clear hno hi hK;with_reducible repeat' first|simp only[zQ,seval,X0, *]|simp only[jab]|apply P3|intro _
def c_cf (g:FuncId):jam:=kks [kkI 4 (.mv kkn)] (kks [kkM 5 0,kkM 6 1,kkI 7 (.call (.av (.func g [])) [kkt 5,kkt 6]),kkB 8 .geq 7 (kkV 0),kkM 4 8] .ret)
theorem ji4 {g2:FuncId}(hF2:F g2=some ⟨9,c_cf g,[.tmp 4]⟩)(hx2: ∀args fl hp,args.length=2→X.x g2 args fl hp=none)(hF:F g=some ⟨19,c_if k n,[.tmp 4]⟩)(hx: ∀args fl hp,args.length=2→X.x g args fl hp=none)
  (ha: ∀m∈l,jdI (e m) 0 n=some (arg m)) (hz:ja2 H k z=some (l.map e)) (hb:l.length≤100000000000000) (hf: ∀m∈l,∀ K,K (ZBo (p m)) H→ZC X F f (arg m::caps) L H K) (hK:K (ZBo (l.any p)) H):ZC X F g2 [z,.func f caps] L H K:=by
 refine Z9 Gh.no hx2 hF2 (by simp) ?_;simp only[c_cf,kkP];have HF:=Z4 hf;have fin:=Fin.keep (H0:=H) hK;have HX:=Z4 hx;have HA:=Z4 ha;have HFF:=Z4 hF;have HZ:=Z4 hz;clear hf hK hx2 hF2 hx hF hz ha;with_reducible repeat' first|simp only[zQ,seval,X0, *]|simp only[jab]|apply P3|intro _
 refine idxg_z HFF.out HX.out HA.out HZ.out hb HF.out ?_;with_reducible repeat' first|simp only[zQ,seval,X0,idx_ge, *]|simp only[jab]|apply P3|intro _
def c_cl (k b:Nat):jam:=kks [kkI 2 (.mv (.av kkS))] (.seq (kks [kkM 3 0,kkI 4 (.eqNil false 0 (kkt 3))] (kkr 4 [kkI 2 (.mv (.av kkS))])) (kks [kkI 5 (.lits k 0 [] []),kkM 6 0,kkI 7 (.append k b (kkt 5) (kkt 6)),kkM 2 7] .ret))
theorem clg_nil (hF:F g=some ⟨8,c_cl k b,[.tmp 2]⟩)(hx: ∀args fl hp,args.length=1→X.x g args fl hp=none)(hK:K .nil H):ZC X F g [.nil] L H K:=by
 refine Z9 Gh.no hx hF (by simp) ?_;simp only[c_cl,kkP];have fin:=Fin.keep (H0:=H) hK;have hn:nilZ H 0 .nil=some true:=rfl;clear hK hx hF;with_reducible repeat' first|simp only[zQ,seval,X0,hn,Option.some.injEq,exists_eq_left',Bool.true_eq_false, *]|simp only[jab]|apply P3|intro _
theorem nil_cons {H:ZH}{k:Nat}{ex:Bool}{a:List ZV}{r:List (List ZV)}:nilZ H 0 (.fz k ex (a::r))=some false:=rfl
theorem clg_own {ex:Bool}{a:List ZV}{r:List (List ZV)}(hF:F g=some ⟨8,c_cl k b,[.tmp 2]⟩)(hx: ∀args fl hp,args.length=1→X.x g args fl hp=none)(hr:(a::r).length*b≤reach)(hK:K (.own H.length 0 0 (a::r).length false) (H++[.grow 0 k (a::r)])):
  ZC X F g [.fz k ex (a::r)] L H K:=by
 refine Z9 Gh.no hx hF (by simp) ?_;simp only[c_cl,kkP];have hap: ∀L H v H',appZ L H k b (a::r) (.fz k true [])=some (v,H')↔ .own H.length 0 0 (a::r).length false=v∧H++[.grow 0 k (a::r)]=H':=fun L H v H'=>app_fzN (by simp) hr
 have fin:=Fin.keep (H0:=H) hK;have hne: ∀k2 ex,(ZV.fz k ex (a::r)= .fz k2 ex [])↔False:=fun k2 ex=>by simp
 clear hK hx hF;obtain⟨n,hn⟩: ∃n,n=(a::r).length:=⟨_,rfl⟩;rw[←hn] at hap fin;clear hn hr;with_reducible repeat' first|simp only[zQ,seval,X0,nil_cons,hap,hne, *]|simp only[jab]|apply P3|intro _
 omega
end
section
open Go Go.RowKit Go.Shelf
def Tryz.lays157_ren:Go.Shelf.Ren:=⟨fun|157=>115|229=>131|199=>132|261=>139|311=>140|312=>141|n=>n,fun|9=>9|31=>24|3=>3|5=>5|4=>4|119=>202|0=>0|40=>204|152=>208|21=>21|154=>210|51=>85|141=>212|196=>216|193=>213|198=>219|49=>217|194=>214|201=>222|226=>224|46=>115|227=>225|n=>n,fun|0=>0|6=>1|n=>n⟩
theorem Tryz.lays157:Go.Proofs.Lays.n157 Tryz.prog Tryz.lays157_ren:={
  mixed:=by kernel_rfl
  f157:=Tryz.func115.trans (congrArg some (by kernel_rfl))
  f199:=Tryz.func132.trans (congrArg some (by kernel_rfl))
  f229:=Tryz.func131.trans (congrArg some (by kernel_rfl))
  f261:=Tryz.func139.trans (congrArg some (by kernel_rfl))
  f311:=Tryz.func140.trans (congrArg some (by kernel_rfl))
  f312:=Tryz.func141.trans (congrArg some (by kernel_rfl))
  t0:=Tryz.underlying0
  a0:=Tryz.isAgg0
  z0:=Tryz.sizeOf0
  v0:=Tryz.zeroValue0
  t3:=Tryz.underlying3
  a3:=Tryz.isAgg3
  z3:=Tryz.sizeOf3
  v3:=Tryz.zeroValue3
  t4:=Tryz.underlying4
  a4:=Tryz.isAgg4
  z4:=Tryz.sizeOf4
  v4:=Tryz.zeroValue4
  t5:=Tryz.underlying5
  a5:=Tryz.isAgg5
  z5:=Tryz.sizeOf5
  v5:=Tryz.zeroValue5
  t9:=Tryz.underlying9
  a9:=Tryz.isAgg9
  z9:=Tryz.sizeOf9
  v9:=Tryz.zeroValue9
  t21:=Tryz.underlying21
  a21:=Tryz.isAgg21
  z21:=Tryz.sizeOf21
  v21:=Tryz.zeroValue21
  t31:=Tryz.underlying24
  a31:=Tryz.isAgg24
  z31:=Tryz.sizeOf24
  v31:=Tryz.zeroValue24
  t40:=Tryz.underlying204
  a40:=Tryz.isAgg204
  z40:=Tryz.sizeOf204
  v40:=Tryz.zeroValue204
  t46:=Tryz.underlying115
  a46:=Tryz.isAgg115
  z46:=Tryz.sizeOf115
  v46:=Tryz.zeroValue115
  t49:=Tryz.underlying217
  a49:=Tryz.isAgg217
  z49:=Tryz.sizeOf217
  v49:=Tryz.zeroValue217
  t51:=Tryz.underlying85
  a51:=Tryz.isAgg85
  z51:=Tryz.sizeOf85
  v51:=Tryz.zeroValue85
  t119:=Tryz.underlying202
  a119:=Tryz.isAgg202
  z119:=Tryz.sizeOf202
  t141:=Tryz.underlying212
  a141:=Tryz.isAgg212
  z141:=Tryz.sizeOf212
  v141:=Tryz.zeroValue212
  t152:=Tryz.underlying208
  a152:=Tryz.isAgg208
  z152:=Tryz.sizeOf208
  v152:=Tryz.zeroValue208
  t154:=Tryz.underlying210
  a154:=Tryz.isAgg210
  z154:=Tryz.sizeOf210
  v154:=Tryz.zeroValue210
  t193:=Tryz.underlying213
  a193:=Tryz.isAgg213
  z193:=Tryz.sizeOf213
  v193:=Tryz.zeroValue213
  t194:=Tryz.underlying214
  a194:=Tryz.isAgg214
  z194:=Tryz.sizeOf214
  v194:=Tryz.zeroValue214
  t196:=Tryz.underlying216
  a196:=Tryz.isAgg216
  z196:=Tryz.sizeOf216
  v196:=Tryz.zeroValue216
  t198:=Tryz.underlying219
  a198:=Tryz.isAgg219
  z198:=Tryz.sizeOf219
  v198:=Tryz.zeroValue219
  t201:=Tryz.underlying222
  a201:=Tryz.isAgg222
  z201:=Tryz.sizeOf222
  v201:=Tryz.zeroValue222
  t226:=Tryz.underlying224
  a226:=Tryz.isAgg224
  z226:=Tryz.sizeOf224
  v226:=Tryz.zeroValue224
  t227:=Tryz.underlying225
  a227:=Tryz.isAgg225
  z227:=Tryz.sizeOf225
  v227:=Tryz.zeroValue225
  g0:=by kernel_rfl
  g6:=by kernel_rfl }
def jmv:List UInt8:=[107,105,110,100,32,114,97,110,103,101,32,122,101,114,111,32,105,110,100,101,120,32,108,97,114,103,101,32,100,101,101,112,32,115,116,97,116,101,32,99,111,117,110,116,32,110,105,108,32,98,111,111,108,32,105,110,116,32,102,108,111,97,116,32,116,101,120,116,32,111,98,106,101,99,116,32,108,105,115,116,32,102,117,110,99,116,105,111,110,32,103,101,110,101,114,97,116,111,114,32,108,111,99,107,32,119,101,97,107]
def jca:List ByteArray:=(X7 jmv).map fun l=>⟨l.toArray⟩
def je6 (k:Nat):ByteArray:=jca.getD k ByteArray.empty
theorem jcF:jca.length=19:=by kernel_rfl
def TabOk (w:World):Prop:= ∀c:Nat,c<256→w.cell? ⟨0,c,none⟩=some (.int .u8 (if Lib.isSp (UInt8.ofNat c) then 1 else 0))
theorem TabOk.of {B:Nat}{w:World}(h:GlOk B w):TabOk w:=fun c hc=>by
 refine (h (0,_) (X6.2 rfl)).2 c _ ?_;rw[U8,List.getElem?_range hc,U9];have: ∀c:_root_.Fin 256,(if c.val=32∨(9≤c.val∧c.val≤13) then (1:Int) else 0)=if Lib.isSp (UInt8.ofNat c.val) then 1 else 0:=by decide+kernel
 rw[this ⟨c,hc⟩]
theorem hi9:((Tryz.prog).info? 9).map (fun i=>(i.zero,i.size,i.bytes))=some (some (.string ByteArray.empty),1,16):=by kernel_rfl
set_option maxRecDepth 100000 in
theorem job (w:World)(hT:TabOk w):
  Calls Tryz.prog 82 #[] w fun e w'=>e= .returned (.slice (some ⟨w.heap.size,0,none⟩) 19 19)∧w'=w.alloc (.cells (jca.map Value.string).toArray 9):=by
 have H := Any.strings_Fields_core Tryz.lays157 hi9 ⟨jmv.toArray⟩ w (by decide +kernel) (by
  intro j b hb;have: ∀b∈jmv,b.toNat<128:=by decide+kernel
  exact this b (R5 (by simpa using hb))) hT
 have e1:(X7 (⟨jmv.toArray⟩:ByteArray).data.toList).length=19:=by kernel_rfl
 have e2:((X7 (⟨jmv.toArray⟩:ByteArray).data.toList).map fun l=>Value.string ⟨l.toArray⟩).toArray=(jca.map Value.string).toArray:=by kernel_rfl
 rw[e1,e2] at H
 go_enter Tryz.func82,Tryz.ntmps82
 go_wp2_with (go_at_call 115;refine (H).mono ?_;rintro e w' ⟨rfl,rfl⟩)
 go_ret
 exact⟨rfl,rfl⟩
theorem jna (n:Int)(w:World):(callFunc 133 #[.int .u64 n]).run Tryz.prog w= .ok (.value (.float .f64 n.toNat)) w:=by
 rw[run_callFunc_extern (e:=Extern.MathFloatBits.float64frombits) Tryz.func133 (by kernel_rfl) (by kernel_rfl) (by kernel_rfl) (by kernel_rfl)]
 rfl
theorem jov (k n:Int)(w:World):
  Calls Tryz.prog 117 #[.agg #[.int .i64 k,.int .i64 n]] w fun e w'=>e= .returned (.float .f64 (IntKind.u64.wrap n).toNat)∧Below w.heap.size w w':=by
 have hd:=fun u w=>jna u w
 go_enter Tryz.func117,Tryz.ntmps117
 go_wp2
 all_goals go_ret
 all_goals exact⟨rfl,(by repeat' (first|(with_reducible exact Below.refl _ _)|(with_reducible assumption)|(with_reducible refine below_drewN ?_ _)|(with_reducible refine Below.drew ?_)|(with_reducible refine Below.alloc ?_ ?_ _)|(with_reducible refine Below.setCell ?_ ?_ _)|go_size))⟩
def jdr:List (List ZV):=jca.map fun s=>[.val (.string s)]
theorem jdZ:jdr.length=19:=by unfold jdr;rw[P2,jcF]
theorem joc (k:Nat)(hk:k<19):jdr.flatten[k]?=some (.val (.string (je6 k))):=by
 have h1:jca[k]?=some (je6 k):=by
  unfold je6;rw[C0,U1 (by rw[jcF];exact hk)];rfl
 have:jdr.flatten=jca.map fun s=>ZV.val (.string s):=by
  unfold jdr;generalize jca=l;induction l with
  |nil=>rfl
  |cons x l ih=>simp[ih]
 rw[this,U8,h1];rfl
def yW (f:FuncId)(args:List AV)(fl:Nat→Bool)(h:Heap)(K:AV→Heap→Prop):Prop:=
  ∃(L:Nat→Bool) (w:Wd),ZRel fl L w∧w.h=h∧f=82∧args=[]∧K=PK fl L w (fun z H'=>z= .fz 1 false jdr∧H'=w.H)
def pnW:PX:=⟨fun _=>False,yW⟩
theorem body_of {f : FuncId}{fn : Func}(h : (Tryz.prog).funcs[f]? = some fn)(h1 : (fn.name == "runtime.NumGoroutine") = false)(h2 : fn.body.isSome = true) : ∃ fn c, (Tryz.prog).funcs[f]? = some fn ∧ (fn.name == "runtime.NumGoroutine") = false ∧ fn.body = some c := by
 obtain⟨c,hc⟩:=X8.1 h2;exact⟨fn,c,h,h1,hc⟩
theorem pnW_ok:YOk Tryz.prog pnW:=by
 rintro f args fl h K ⟨L,w,r,rfl,hy⟩;obtain⟨rfl,rfl,rfl⟩:=hy
 ·refine⟨body_of Tryz.func82 (by kernel_rfl) (by kernel_rfl),fun n0 B0 m W vals rl hfl hv=>?_⟩
  have hvals:vals= #[]:=Array.eq_empty_of_size_eq_zero (by have:=hv.1;simpa using this.symm);subst hvals;refine (job W (TabOk.of rl.rel.gl)).mono fun e w' hp=>?_
  obtain⟨rfl,rfl⟩:=hp;obtain⟨row,hrow⟩: ∃row,row=jca.map fun s=>AV.val (.string s):=⟨_,rfl⟩
  have hrl:row.length=19:=by rw[hrow,P2,jcF]
  obtain⟨w2,e1,e2,e3,e4,r2,x2⟩:=jqQ r row;have p := jdx (fl := fl) rl row (jca.map Value.string).toArray 9 19 (fun x hx => by rw [hrow] at hx; obtain ⟨s, _, rfl⟩ := U6.1 hx; rfl) (by omega) (by simp [jcF]) (fun i x hx => by
   rw[hrow,U8] at hx;obtain⟨s,hs,rfl⟩:=Option.map_eq_some_iff.1 hx;exact⟨.string s,by simp[hs],.val rfl⟩)
  refine .inl ⟨.slice w.h.length 0 19 19 true 1,w.h++[some row],_,_,⟨.fz 1 false jdr,w2,e1,r2,x2,?_,rfl,e2⟩,rfl,p,?_⟩
  ·have hz:FR w2.Fr w2.h (.fz 1 false jdr) (.slice w.h.length 0 jdr.length 19 true 1):=by
    refine .fz (fun i=> .val (.string (je6 i))) (row:=row) e4 (by rw[e1];exact jbk ..) (by rw[jdZ];omega) (by rw[jdZ];omega) (fun h=>by cases h) (fun q hq=>?_) (fun i z hi=>?_) (fun i z hi=>?_)
    ·unfold jdr at hq
     obtain⟨s,_,rfl⟩:=U6.1 hq;rfl
    all_goals
     have hi19:i<19:=by
      have:=U0.1 hi;obtain⟨h1,_⟩:=this;have:jdr.flatten.length=19:=by kernel_rfl
      omega
    ·have:=jca.length
     have h1:jca[i]?=some (je6 i):=by
      unfold je6;rw[C0,U1 (by rw[jcF];exact hi19)];rfl
     rw[hrow,Nat.zero_add,U8,h1];rfl
    ·rw[joc i hi19] at hi
     injection hi with hi;subst hi
     exact .val _
   rw[jdZ] at hz;exact .fr hz
  ·exact .slice (b:=⟨W.heap.size,0,19,false⟩) (o:=0) ⟨by simp[mset],rfl⟩ (fun _=>rfl) (V2 _) (V2 _) (fun _=>rfl) (by simp)
def boxF (l:List (FuncId×Bool)):jby:=fun f args fl h=>match args with
  |[.agg [.val (.int .i64 k),.val (.int .i64 n)]]=>if f=15 then some (.tuple [.val (.int .u64 (boxW k n)),I64 (boxE k n)],h) else if f=117 then some (.val (.float .f64 (IntKind.u64.wrap n).toNat),h) else none
  |[]=>jnv l f [] fl h
  |_=>none
abbrev XC (tb:List (FuncId×Bool))(nd:Bool):XT:=⟨boxF tb,nd,pnW⟩
theorem juo {m:Map}{k:IntKind}{n:Int}{v:Value}(h:VR m (.val (.int k n)) v):v= .int k n:=h.lit
theorem jmY {m:Map}{k n:Int}{vals:Array Value}(hv:VRs m [.agg [.val (.int .i64 k),.val (.int .i64 n)]] vals.toList):vals= #[.agg #[.int .i64 k,.int .i64 n]]:=by
 obtain⟨hl,hg⟩:=hv;match hvl:vals.toList,hl,hg with
 |[x],_,hg=>
  have:=hg 0 _ x rfl rfl;obtain⟨vs,rfl,h2⟩:=VRs.of_agg this;match hvs:vs.toList,h2 with
  |[a,b],h2=>
   have ha:=juo (h2.2 0 _ a rfl rfl);have hb:=juo (h2.2 1 _ b rfl rfl);subst ha;subst hb
   have e1:vs= #[.int .i64 k,.int .i64 n]:=by apply Array.ext';simpa using hvs
   subst e1;apply Array.ext';simpa using hvl
  |[],h2=>have:=h2.1;simp at this
  |[_],h2=>have:=h2.1;simp at this
  |_::_::_::_,h2=>have:=h2.1;simp at this
theorem boxF_ok {l:List (FuncId×Bool)}(hc:jcP Tryz.prog (jnv l)):jcP Tryz.prog (boxF l):=by
 intro f args fl h v h' he;unfold boxF at he;split at he
 ·rename_i k n
  split at he
  ·rename_i hf
   subst hf;injection he with he;injection he with e1 e2;subst e1;subst e2
   have hb:(Tryz.f15.body).isSome=true:=by kernel_rfl
   obtain⟨c,hc'⟩:=X8.1 hb;refine⟨⟨Tryz.f15,c,Tryz.func15,by kernel_rfl,hc'⟩,fun n0 B0 m w vals r hfl hv=>?_⟩;have hvals:=jmY hv;subst hvals;refine (box_any k n w).mono fun e W' hp=>?_
   obtain⟨rfl,hbl⟩:=hp;refine⟨_,m,rfl,Post.below r hbl,?_⟩;exact VRs.tuple (vs:= #[.int .u64 (boxW k n),.int .i64 (boxE k n)]) (.cons (.val rfl) (.cons (.val rfl) .nil))
  ·split at he
   ·rename_i hf
    subst hf;injection he with he;injection he with e1 e2;subst e1;subst e2
    have hb:(Tryz.f117.body).isSome=true:=by kernel_rfl
    obtain⟨c,hc'⟩:=X8.1 hb;refine⟨⟨Tryz.f117,c,Tryz.func117,by kernel_rfl,hc'⟩,fun n0 B0 m w vals r hfl hv=>?_⟩;have hvals:=jmY hv;subst hvals;refine (jov k n w).mono fun e W' hp=>?_
    obtain⟨rfl,hbl⟩:=hp;exact⟨_,m,rfl,Post.below r hbl,.val rfl⟩
   ·cases he
 ·exact hc _ _ _ _ _ _ he
 ·cases he
section
variable {tb:List (FuncId×Bool)}{nd:Bool}{L:Nat→Bool}{H:ZH}{K:ZV→ZH→Prop}
theorem jaf {f:FuncId}{z:ZV}{zs:List ZV}(hf:f≠15∧f≠117): ∀(args:List AV) (fl:Nat→Bool) (hp:Heap),args.length=(z::zs).length→boxF tb f args fl hp=none:=fun args fl hp ha=>by
 unfold boxF;split
 ·rw[if_neg hf.1,if_neg hf.2]
 ·simp at ha
 ·rfl
theorem jmZ {w:Wd}{k n:Int}{args:List AV}(ha:ZRs w [.agg [Z64 k,Z64 n]] args):args=[.agg [I64 k,I64 n]]:=by
 obtain⟨a,ha0,ha1⟩:=ha.get (i:=0) rfl;obtain⟨ys,rfl,hys⟩:=ha1.agg_inv;have e1:ys=[I64 k,I64 n]:=by
  have h1:=hys.1;match ys,h1,hys with
  |[x,y],_,hys=>rw[(hys.2 0 _ x rfl rfl).val_inv,(hys.2 1 _ y rfl rfl).val_inv]
 have e2:args=[.agg ys]:=by
  have:=ha.1;match args,this,ha0 with
  |[x],_,hv0=>simp at hv0;rw[hv0]
 rw[e2,e1]
theorem boxC_z {k n:Int}(hK:K (.tuple [.val (.int .u64 (boxW k n)),Z64 (boxE k n)]) H):ZC (XC tb nd) (jag Tryz.prog) 15 [.agg [Z64 k,Z64 n]] L H K:=by
 intro fl w args r e ha;subst e;rw[jmZ ha];refine AC.const (v:= .tuple [.val (.int .u64 (boxW k n)),I64 (boxE k n)]) (h':=w.h) (by simp[boxF]) ⟨_,w,rfl,r,Ext.refl w,?_,hK⟩;exact ZRs.toTuple (.cons (.fr (.val _)) (.cons (.fr (.val _)) .nil))
abbrev ZFl (n:Int):ZV:= .val (.float .f64 (IntKind.u64.wrap n).toNat)
theorem jlE {k n:Int}(hK:K (ZFl n) H):ZC (XC tb nd) (jag Tryz.prog) 117 [.agg [Z64 k,Z64 n]] L H K:=by
 intro fl w args r e ha;subst e;rw[jmZ ha];exact AC.const (v:= .val (.float .f64 (IntKind.u64.wrap n).toNat)) (h':=w.h) (by simp[boxF]) ⟨_,w,rfl,r,Ext.refl w,.fr (.val _),hK⟩
theorem jpU (hK:K (.fz 1 false jdr) H):ZC (XC tb true) (jag Tryz.prog) 82 [] L H K:=fun fl w args r e ha=>by
 subst e;have:args=[]:=Y9 ha.1.symm;subst this;refine AC.known rfl ⟨L,w,r,rfl,rfl,rfl,rfl⟩ fun v h' p=>p.mono fun z H' hz=>?_
 obtain⟨rfl,rfl⟩:=hz;exact hK
end
end
section
open Go Go.RowKit
theorem jgQ {tb:List (FuncId×Bool)}{f:FuncId}{a b:AV}{l:List AV}{fl:Nat→Bool}{h:Heap}:boxF tb f (a::b::l) fl h=none:=by
 unfold boxF;split
 ·rename_i e;cases e
 ·rename_i e;cases e
 ·rfl
theorem boxF_no0 {tb:List (FuncId×Bool)}{f:FuncId}(h:tb.lookup f=none): ∀(args:List AV) (fl:Nat→Bool) (hp:Heap),args.length=([]:List ZV).length→boxF tb f args fl hp=none:=fun args fl hp ha=>by
 have:args=[]:=Y9 ha;subst this;simp[boxF,jnv,h]
end
section
open Go Go.RowKit
abbrev InsT:=Int×Int×Int×Int×Int
abbrev FnT:=Int×Int×Bool×List Int×List InsT
abbrev PrT:=List FnT×List (Int×Int)×List ByteArray
abbrev FnT.re (f:FnT):Int:=f.2.1
abbrev FnT.ge (f:FnT):Bool:=f.2.2.1
abbrev FnT.cau (f:FnT):List Int:=f.2.2.2.1
abbrev FnT.co (f:FnT):List InsT:=f.2.2.2.2
def winB (n lo hi:Int):Bool:=decide (lo≤n∧n≤hi)
def juw:Int:=9221120237041090561
def joD (n:Int):Bool:=FloatKind.f64.format.order (IntKind.u64.wrap n).toNat (IntKind.u64.wrap n).toNat==some .eq
def jcl (v:Int×Int):Bool:=
  if v.1=0 then decide (v.2=0) else if v.1=1 then winB v.2 0 1 else if v.1=2 then winB v.2 (-2147483648) 2147483647
  else if v.1=3 then joD v.2||decide (v.2=juw) else if v.1=4∨v.1=5 then decide (0≤v.2) else if v.1=6 then winB v.2 0 15 else false
theorem jgr {v:Int×Int}(h:jcl v=true)(hk:v.1=4∨v.1=5):0≤v.2:=by
 unfold jcl at h;rcases hk with hk|hk<;>simp[hk] at h<;>exact h
def jjE:List (List UInt8):=[[],[114,107,45],[114,114,45],[114,114,114],[114,114,114],[114,114,114],[114,114,114],[114,114,114],[114,114,114],[114,114,114],[114,114,114],[114,114,45],[114,114,45],[97,45,45],[97,45,45],[114,97,45],[114,45,45],[114,114,116],[114,116,114],[114,108,110],[114,114,114],[114,114,114],[114,45,45],[114,114,45],[114,114,45],[114,117,45],[114,102,45],[114,99,110],[114,45,45],[114,45,45],[114,97,45],[45,45,45],[114,114,45],[114,45,45],[114,45,45],[114,114,45],[114,114,45],[114,45,45],[114,45,45]]
def jhb (op:Int):List UInt8:=if 1≤op∧op<39 then jjE.getD op.toNat [] else []
def jdp (p:PrT)(f:FnT)(c:Int)(n:Int):Bool:=
  if c=114 then winB n 0 (f.re - 1) else if c=107 then winB n 0 ((p.2.1.length:Int) - 1) else if c=116 then winB n 0 ((p.2.2.length:Int) - 1)
  else if c=97 then winB n 0 ((f.co.length:Int) - 1) else if c=117 then winB n 0 ((f.cau.length:Int) - 1) else if c=102 then winB n 1 ((p.1.length:Int) - 1)
  else if c=108∨c=99∨c=110 then winB n 0 f.re else decide (n=0)
def jlO (f:FnT)(l:List Int):Bool:= !l.any fun c=> !winB c 0 (f.re - 1)&& !winB c (-(f.cau.length:Int)) (-1)
def jdJ (p:PrT)(f:FnT)(at_:Nat)(i:InsT):Bool:=
  match jhb i.1 with
  |[a,b,c]=>winB i.2.2.2.2 0 2000&&jdp p f a.toNat i.2.1&&jdp p f b.toNat i.2.2.1&&jdp p f c.toNat i.2.2.2.1&&
    (if i.1=14 then decide (i.2.1≤at_) else if i.1=19 then decide (i.2.2.1+i.2.2.2.1≤f.re) else if i.1=27 then winB (i.2.2.1+i.2.2.2.1) 0 (f.re - 1)
     else if i.1=26 then (match p.1[i.2.2.1.toNat]? with|some g=>jlO f g.cau|none=>false) else if i.1=32 then f.ge else true)
  |_=>false
/-! ### What is tried where -/
structure Wk where
  seen:List Bool
  out:List (List (Int×Int))
  todo:List Nat
  bad:Bool
def Wk.come (n:Nat)(w:Wk)(a:Nat)(l:List (Int×Int)):Wk:=
  if n≤a∨20<l.length then { w with bad:=true }
  else if w.seen.getD a true=false then { w with seen:=w.seen.set a true,out:=w.out.set a l,todo:=w.todo++[a] }
  else if w.out.getD a []=l then w else { w with bad:=true }
def Wk.from (co:List InsT)(w:Wk)(a:Nat):Wk:=
  let i:=co.getD a (0,0,0,0,0)
  let l:=w.out.getD a []
  let n:=co.length
  if i.1=28∨i.1=29 then w
  else if i.1=13∨i.1=14 then w.come n i.2.1.toNat l
  else if i.1=15 then (w.come n i.2.2.1.toNat l).come n (a+1) l
  else if i.1=30 then (w.come n i.2.2.1.toNat l).come n (a+1) (l++[(i.2.1,i.2.2.1)])
  else if i.1=31 then (if l.length=0 then { w with bad:=true } else w.come n (a+1) l.dropLast)
  else w.come n (a+1) l
def Wk.turn (co:List InsT)(w:Wk):Wk:=match w.todo.getLast? with
  |some a=>Wk.from co { w with todo:=w.todo.dropLast } a
  |none=>w
def Wk.on (w:Wk):Bool:= !w.todo.isEmpty&& !w.bad
def Wk.run (co:List InsT):Nat→Wk→Wk
  |0,w=>w
  |k+1,w=>if w.on=true then Wk.run co k (w.turn co) else w
def Wk.new (co:List InsT):Wk:=Wk.come co.length ⟨O6 co.length false,O6 co.length [],[],false⟩ 0 []
def jdQ (co:List InsT):Wk:=Wk.run co (2*co.length+3) (Wk.new co)
def Wk.key (w:Wk):Nat:=2*(w.seen.filter (!·)).length+w.todo.length
def jvA (co:List InsT):Prop:= ∀(a:Nat) (i:InsT),co[a]?=some i→(i.1=13∨i.1=14→0≤i.2.1∧i.2.1<co.length)∧(i.1=15∨i.1=30→0≤i.2.2.1∧i.2.2.1<co.length)
structure Wk.Ok (n:Nat)(w:Wk):Prop where
  seen:w.seen.length=n
  out:w.out.length=n
  todo: ∀a∈w.todo,a<n
  short: ∀m∈w.out,m.length≤20
theorem jks {l:List Bool}{a:Nat}(h:l[a]?=some false):((l.set a true).filter (!·)).length+1=(l.filter (!·)).length:=by
 induction l generalizing a with
 |nil=>simp at h
 |cons x l ih=>
  cases a with
  |zero=>simp at h;subst h;simp
  |succ a=>
   have:=ih (a:=a) (by simpa using h)
   cases x<;>simp<;>omega
theorem Wk.Ok.come {n:Nat}{w:Wk}(h:w.Ok n)(a:Nat)(l:List (Int×Int)):(w.come n a l).Ok n∧(w.come n a l).key≤w.key:=by
 unfold Wk.come;split
 ·exact⟨⟨h.seen,h.out,h.todo,h.short⟩,V2 _⟩
 ·rename_i h1
  split
  ·rename_i h2
   refine⟨⟨by simp[h.seen],by simp[h.out],fun b hb=>?_,fun m hm=>?_⟩,?_⟩
   ·rcases O3.1 hb with hb|hb
    ·exact h.todo b hb
    ·rw[X6.1 hb];omega
   ·rcases List.mem_or_eq_of_mem_set hm with hm|rfl
    ·exact h.short m hm
    ·omega
   ·have h3:w.seen[a]?=some false:=by
     rw[C0] at h2
     cases hc:w.seen[a]? with
     |none=>rw[hc] at h2;cases h2
     |some x=>rw[hc] at h2;simp at h2;rw[h2]
    have:=jks h3;simp only[Wk.key,List.length_append,List.length_cons,G9];omega
  ·split
   ·exact⟨h,V2 _⟩
   ·exact⟨⟨h.seen,h.out,h.todo,h.short⟩,V2 _⟩
theorem Wk.Ok.from {co:List InsT}{w:Wk}(h:w.Ok co.length)(a:Nat):(w.from co a).Ok co.length∧(w.from co a).key≤w.key:=by
 unfold Wk.from;dsimp only;split
 ·exact⟨h,V2 _⟩
 split
 ·exact h.come _ _
 split
 ·have h1:=h.come (co.getD a (0,0,0,0,0)).2.2.1.toNat (w.out.getD a [])
  have h2:=h1.1.come (a+1) (w.out.getD a []);exact⟨h2.1,V3 h2.2 h1.2⟩
 split
 ·have h1:=h.come (co.getD a (0,0,0,0,0)).2.2.1.toNat (w.out.getD a [])
  have h2:=h1.1.come (a+1) (w.out.getD a []++[((co.getD a (0,0,0,0,0)).2.1,(co.getD a (0,0,0,0,0)).2.2.1)]);exact⟨h2.1,V3 h2.2 h1.2⟩
 split
 ·split
  ·exact⟨⟨h.seen,h.out,h.todo,h.short⟩,V2 _⟩
  ·exact h.come _ _
 ·exact h.come _ _
theorem Wk.Ok.pop {n:Nat}{w:Wk}(h:w.Ok n)(hon:w.on=true): ∃a,w.todo.getLast?=some a∧a<n∧({ w with todo:=w.todo.dropLast }:Wk).Ok n∧({ w with todo:=w.todo.dropLast }:Wk).key+1=w.key:=by
 unfold Wk.on at hon;have hne:w.todo≠[]:=by
  intro h0;rw[h0] at hon;simp at hon
 refine⟨w.todo.getLast hne,List.getLast?_eq_some_getLast hne,h.todo _ (List.getLast_mem hne),⟨h.seen,h.out,fun b hb=>h.todo b ((List.dropLast_sublist _).subset hb),h.short⟩,?_⟩;have:0<w.todo.length:=X9.2 hne;simp only[Wk.key,List.length_dropLast];omega
theorem Wk.Ok.turn {co:List InsT}{w:Wk}(h:w.Ok co.length)(hon:w.on=true):(w.turn co).Ok co.length∧(w.turn co).key<w.key:=by
 obtain⟨a,h1,h2,h3,h4⟩:=h.pop hon;unfold Wk.turn;rw[h1];obtain⟨q1,q2⟩:=h3.from a;exact⟨q1,Nat.lt_of_le_of_lt q2 (by omega)⟩
theorem Wk.run_off {co:List InsT}{w:Wk}(h:w.on=false): ∀k,Wk.run co k w=w
 |0=>rfl
 |k+1=>by unfold Wk.run;rw[h];rfl
theorem Wk.run_on {co:List InsT}{w:Wk}(h:w.on=true){k:Nat}(hk:0<k):Wk.run co k w=Wk.run co (k - 1) (w.turn co):=by
 cases k with
 |zero=>omega
 |succ k=>
  show (if w.on=true then Wk.run co k (w.turn co) else w)=_;rw[if_pos h];rfl
theorem Wk.Ok.new (co:List InsT):(Wk.new co).Ok co.length∧(Wk.new co).key≤2*co.length:=by
 have h0:(⟨O6 co.length false,O6 co.length [],[],false⟩:Wk).Ok co.length:=⟨by simp,by simp,fun a h=>by simp at h,fun m hm=>by rw[(A6.1 hm).2];simp⟩;have h1:=h0.come 0 [];refine⟨h1.1,V3 h1.2 ?_⟩;simp[Wk.key]
/-! ### All of it -/
def jgE (p:PrT):Bool:=decide (60<p.1.length)||decide (200<p.2.1.length)||decide (200<p.2.2.length)||p.2.2.any (fun t=>decide (200<t.size))||p.1.any fun f=>decide (600<f.co.length)||decide (60<f.re)
def jf0 (nt:Nat)(v:Int×Int):Bool:= !jcl v||decide (v.1=5)||(decide (v.1=4)&&decide ((nt:Int)≤v.2))
def jir:List ByteArray→Bool
  |[]=>false
  |t::r=>r.any (fun s=>decide (t=s))||jir r
def jd1 (ws:List ByteArray)(p:PrT):Bool:=decide (p.2.2.take ws.length=ws)&& !jir p.2.2&& !p.2.1.any (jf0 p.2.2.length)
def ja9 (p:PrT)(f:FnT):Bool:=decide (0≤f.1)&&decide (1≤f.re)&&decide (f.1≤f.re)&&f.co.zipIdx.all (fun x=>jdJ p f x.2 x.1)&& !(jdQ f.co).bad
def jgL (ws:List ByteArray)(p:PrT):Int:=
  if jgE p=true then 2
  else if jd1 ws p=true∧(match p.1 with|f::_=>decide (f.1=0)&&f.cau.isEmpty&& !f.ge|[]=>false)=true then (if p.1.all (ja9 p)=true then 0 else 3)
  else 3
end
section
open Go Go.RowKit
def jk6:jam:=kks [kkI 1 (.box 3 (kkt 0)),kkK 2 0] (.seq (kks [kkQ 3 3 1,kkC 4 46 [kkt 3]] (kkr 4 [kkK 2 2])) (.seq (kks [kkQ 5 3 1,kkC 6 47 [kkt 5],kkU 7 6,kkM 8 7,kkJ 9 (.fieldAddr 0 (kkt 1)) 8,kkJ 10 (.load none (kkt 9)) 8,kkJ 11 (.len (kkt 10)) 8,kkJ 12 (.bin .eql (kkt 11) (kkV 0)) 8,kkO 13 8 12,kkM 14 13,kkJ 15 (.fieldAddr 0 (kkt 1)) 14,kkJ 16 (.load none (kkt 15)) 14,kkJ 17 (.indexAddr 5 (kkt 16) (kkV 0)) 14,kkJ 18 (.fieldAddr 0 (kkt 17)) 14,kkJ 19 (.load none (kkt 18)) 14,kkJ 20 (.bin .neq (kkt 19) (kkV 0)) 14,kkO 21 14 20,kkM 22 21,kkJ 23 (.fieldAddr 0 (kkt 1)) 22,kkJ 24 (.load none (kkt 23)) 22,kkJ 25 (.indexAddr 5 (kkt 24) (kkV 0)) 22,kkJ 26 (.fieldAddr 3 (kkt 25)) 22,kkJ 27 (.load none (kkt 26)) 22,kkJ 28 (.len (kkt 27)) 22,kkJ 29 (.bin .gtr (kkt 28) (kkV 0)) 22,kkO 30 22 29,kkM 31 30,kkJ 32 (.fieldAddr 0 (kkt 1)) 31,kkJ 33 (.load none (kkt 32)) 31,kkJ 34 (.indexAddr 5 (kkt 33) (kkV 0)) 31,kkJ 35 (.fieldAddr 2 (kkt 34)) 31,kkJ 36 (.load none (kkt 35)) 31,kkO 37 31 36] (kkr 37 [kkK 2 3])) (.seq (kks [kkA 38 0 1,kkL 39 38,kkI 40 (.func 49 [kkt 1]),kkC 41 48 [kkt 39,kkt 40]] (kkr 41 [kkK 2 3])) (kks [kkK 2 0] .ret))))
theorem jrY:jag Tryz.prog 30=some ⟨42,jk6,[.tmp 2]⟩:=by kernel_rfl
def jqM:jam:=kks [kkI 1 (.box 3 (kkt 0)),kkI 2 (.mv (.av kkS)),kkI 3 (.mv (.av kkS))] (kks [kkI 4 (.mv (.av kkS))] (kks [kkI 5 (.mv (.av kkS))] (.seq (kks [kkA 11 0 1,kkL 12 11,kkH 13 12,kkK 14 0] (jau 0 1 15 14 13 32 (kks [kkX 16 5 12 14,kkQ 17 5 16,kkI 7 (.zero [kkZ 0,kkZ 0,(.val (.bool false)),kkS,kkS]),kkR 5 7 17] (kks [kkQ 19 5 7,kkC 20 67 [kkt 19],kkM 18 20,kkx 21 0 18,kkx 22 1 18,kkx 23 2 18,kkM 8 21,kkM 9 22,kkM 10 23] (.ops [kkM 24 4,kkM 25 8,kkI 26 (.lits 1 1 [kkS] [(0,1,(kkt 25))]),kkI 27 (.append 1 24 (kkt 24) (kkt 26)),kkM 28 5,kkM 29 9,kkI 30 (.lits 1 1 [kkS] [(0,1,(kkt 29))]),kkI 31 (.append 1 24 (kkt 28) (kkt 30)),kkM 4 27,kkM 5 31]))))) (kks [kkM 33 4,kkM 34 5,kkM 2 33,kkM 3 34] .ret))))
theorem f_cc_all:jag Tryz.prog 34=some ⟨35,jqM,[.tmp 2,.tmp 3]⟩:=by kernel_rfl
def jk5:jam:=kks [kkI 1 (.box 3 (kkt 0)),kkI 2 (.mv kkn)] (kks [kkA 3 0 1,kkL 4 3,kkH 5 4,kkB 6 .gtr 5 (kkV 60),kkM 7 6,kkJ 8 (.fieldAddr 1 (kkt 1)) 7,kkJ 9 (.load none (kkt 8)) 7,kkJ 10 (.len (kkt 9)) 7,kkJ 11 (.bin .gtr (kkt 10) (kkV 200)) 7,kkO 12 7 11,kkM 13 12,kkJ 14 (.fieldAddr 2 (kkt 1)) 13,kkJ 15 (.load none (kkt 14)) 13,kkJ 16 (.len (kkt 15)) 13,kkJ 17 (.bin .gtr (kkt 16) (kkV 200)) 13,kkO 18 13 17,kkM 19 18,kkJ 20 (.fieldAddr 2 (kkt 1)) 19,kkJ 21 (.load none (kkt 20)) 19,kkJ 22 (.call (kkF 79) [kkt 21,(kkF 80)]) 19,kkO 23 19 22,kkM 24 23,kkJ 25 (.fieldAddr 0 (kkt 1)) 24,kkJ 26 (.load none (kkt 25)) 24,kkJ 27 (.call (kkF 48) [kkt 26,(kkF 81)]) 24,kkO 28 24 27,kkM 2 28] .ret)
theorem jrX:jag Tryz.prog 46=some ⟨29,jk5,[.tmp 2]⟩:=by kernel_rfl
def jjp:jam:=kks [kkI 1 (.box 3 (kkt 0)),kkI 2 (.mv kkn)] (kks [kkC 7 82 [],kkM 3 7] (.seq (kks [kkA 8 2 1,kkL 9 8,kkH 10 9,kkM 11 3,kkH 12 11,kkB 13 .lss 10 (kkt 12),kkM 14 13,kkJ 15 (.fieldAddr 2 (kkt 1)) 14,kkJ 16 (.load none (kkt 15)) 14,kkJ 17 (.mv (kkt 3)) 14,kkJ 18 (.len (kkt 17)) 14,kkJ 19 (.slice 1 (kkt 16) none (some (kkt 18)) none) 14,kkJ 20 (.mv (kkt 3)) 14,kkJ 21 (.call (kkF 68) [kkt 19,kkt 20]) 14,kkJ 22 (.un .not (kkt 21)) 14,kkO 23 14 22] (kkr 23 [kkI 2 (.mv kkn)])) (kks [kkI 24 (.mkMapK true),kkM 4 24] (.seq (kks [kkA 25 2 1,kkL 26 25,kkH 27 26,kkK 28 0] (jau 0 1 29 28 27 38 (kks [kkX 30 1 26 28,kkL 31 30,kkM 6 31] (.seq (kks [kkM 32 4,kkM 33 6,kkI 34 (.mapGetK true false (kkZ 0) (kkt 32) (kkt 33)),kkB 35 .eql 34 (kkV 1)] (kkr 35 [kkI 2 (.mv kkn)])) (.ops [kkM 36 4,kkM 37 6,⟨none,.mapSetK true (kkt 36) (kkt 37) (kkV 1),none,true⟩]))))) (kks [kkA 39 1 1,kkL 40 39,kkI 41 (.func 83 [kkt 1]),kkC 42 59 [kkt 40,kkt 41],kkU 43 42,kkM 2 43] .ret)))))
theorem joX:jag Tryz.prog 47=some ⟨44,jjp,[.tmp 2]⟩:=by kernel_rfl
def jjs:jam:=kks [kkI 2 (.box 5 (kkt 0)),kkI 3 (.mv kkn)] (kks [kkQ 4 3 1,kkQ 5 5 2,kkC 6 50 [kkt 4,kkt 5],kkU 7 6,kkM 3 7] .ret)
theorem jo0:jag Tryz.prog 49=some ⟨8,jjs,[.tmp 3]⟩:=by kernel_rfl
def jgN:jam:=kks [kkI 2 (.box 3 (kkt 0)),kkI 3 (.box 5 (kkt 1)),kkI 4 (.mv kkn)] (kks [kkQ 11 3 2,kkQ 12 5 3,kkI 13 (.build [kkS,kkS,kkS,kkZ 0,kkZ 0,(.val (.bool false)),kkS,kkS] [(0,3,(kkt 11)),(3,5,(kkt 12))]),kkI 5 (.zero [kkS,kkS,kkS,kkZ 0,kkZ 0,(.val (.bool false)),kkS,kkS]),kkR 8 5 13] (.seq (kks [kkA 14 0 3,kkL 15 14,kkB 16 .lss 15 (kkV 0),kkM 17 16,kkJ 18 (.fieldAddr 1 (kkt 3)) 17,kkJ 19 (.load none (kkt 18)) 17,kkJ 20 (.bin .lss (kkt 19) (kkV 1)) 17,kkO 21 17 20,kkM 22 21,kkJ 23 (.fieldAddr 0 (kkt 3)) 22,kkJ 24 (.load none (kkt 23)) 22,kkJ 25 (.fieldAddr 1 (kkt 3)) 22,kkJ 26 (.load none (kkt 25)) 22,kkJ 27 (.bin .gtr (kkt 24) (kkt 26)) 22,kkO 28 22 27] (kkr 28 [kkI 4 (.mv kkn)])) (.seq (kks [kkA 29 4 3,kkL 30 29,kkH 31 30,kkK 32 0] (jau 0 1 33 32 31 42 (kks [kkM 34 32,kkX 35 5 30 32,kkQ 36 5 35,kkI 7 (.zero [kkZ 0,kkZ 0,kkZ 0,kkZ 0,kkZ 0]),kkM 6 34,kkR 5 7 36] (kks [kkQ 37 8 5,kkM 38 6,kkQ 39 5 7,kkC 40 86 [kkt 37,kkt 38,kkt 39],kkU 41 40] (kkr 41 [kkI 4 (.mv kkn)]))))) (kks [kkQ 44 5 3,kkC 45 67 [kkt 44],kkM 43 45,kkx 46 0 43,kkx 47 1 43,kkx 48 2 43,kkM 8 46,kkM 9 47,kkM 10 48] (kks [kkM 49 10,kkM 4 49] .ret)))))
theorem jlI:jag Tryz.prog 50=some ⟨50,jgN,[.tmp 4]⟩:=by kernel_rfl
def jdD:jam:=kks [kkI 1 (.box 5 (kkt 0)),kkI 2 (.mv (.av kkS)),kkI 3 (.mv (.av kkS)),kkI 4 (.mv kkn)] (kkd [kkQ 7 5 1,kkA 8 4 1,kkL 9 8,kkH 10 9,kkI 11 (.mkSlice 1 1 [(.val (.bool false))] (kkt 10) (kkt 10)),kkA 12 4 1,kkL 13 12,kkH 14 13,kkI 15 (.mkSlice 1 24 [kkS] (kkt 14) (kkt 14)),kkI 16 (.build [kkZ 0,kkZ 0,(.val (.bool false)),kkS,kkS,kkS,kkS,kkS,(.val (.bool false))] [(0,5,(kkt 7)),(5,1,(kkt 11)),(6,1,(kkt 15))]),kkI 17 (.box 9 (kkt 16)),kkM 5 17] (kks [kkM 18 5,kkC 19 101 [kkt 18,(kkV 0),(.av kkS)]] (.seq (.block 0 (.loop (.seq (kks [kkM 20 5,kkN 21 20,kkA 22 7 21,kkL 23 22,kkH 24 23,kkB 25 .gtr 24 (kkV 0),kkM 26 25,kkG 27 (.mv (kkt 5)) 26,kkG 28 (.nilCheck (kkt 27)) 26,kkG 29 (.fieldAddr 8 (kkt 28)) 26,kkG 30 (.load none (kkt 29)) 26,kkG 31 (.un .not (kkt 30)) 26,kkE 32 26 31] (.cond (kkt 32) .skip (.exit 0))) (.block 1 (kkd [kkM 33 5,kkN 34 33,kkA 35 7 34,kkL 36 35,kkM 37 5,kkN 38 37,kkA 39 7 38,kkL 40 39,kkH 41 40,kkB 42 .sub 41 (kkV 1),kkX 43 1 36 42,kkL 44 43,kkM 6 44] (kkd [kkM 45 5,kkM 46 5,kkN 47 46,kkA 48 7 47,kkL 49 48,kkM 50 5,kkN 51 50,kkA 52 7 51,kkL 53 52,kkH 54 53,kkB 55 .sub 54 (kkV 1),kkI 56 (.slice 1 (kkt 49) none (some (kkt 55)) none),kkN 57 45,kkA 58 7 57,kkR 1 58 56] (.ops [kkM 59 5,kkM 60 6,kkC 61 102 [kkt 59,kkt 60]]))))))) (kkd [kkM 62 5,kkN 63 62,kkA 64 6 63,kkL 65 64,kkM 66 5,kkN 67 66,kkA 68 5 67,kkL 69 68,kkM 70 5,kkN 71 70,kkA 72 8 71,kkL 73 72,kkU 74 73,kkM 2 65,kkM 3 69,kkM 4 74] .ret))))
theorem jrT:jag Tryz.prog 67=some ⟨75,jdD,[.tmp 2,.tmp 3,.tmp 4]⟩:=by kernel_rfl
def jqL:jam:=kks [kkI 4 (.mv kkn)] (.seq (kks [kkM 6 0,kkH 7 6,kkM 8 1,kkH 9 8,kkB 10 .neq 7 (kkt 9)] (kkr 10 [kkI 4 (.mv kkn)])) (.seq (kks [kkM 11 0,kkH 12 11,kkK 13 0] (jau 0 1 14 13 12 25 (kks [kkM 15 13,kkM 5 15] (kkd [kkM 16 0,kkM 17 5,kkX 18 1 16 17,kkL 19 18,kkM 20 1,kkM 21 5,kkX 22 1 20 21,kkL 23 22,kkB 24 .neq 19 (kkt 23)] (kkr 24 [kkI 4 (.mv kkn)]))))) (kks [kkI 4 (.mv kky)] .ret)))
theorem f_cc_eqs:jag Tryz.prog 68=some ⟨26,jqL,[.tmp 4]⟩:=by kernel_rfl
def jjr:jam:=kks [kkI 2 (.mv kkn)] (kks [kkM 3 0,kkI 4 (.lenStr (kkt 3)),kkB 5 .gtr 4 (kkV 200),kkM 2 5] .ret)
theorem joZ:jag Tryz.prog 80=some ⟨6,jjr,[.tmp 2]⟩:=by kernel_rfl
def jjq:jam:=kks [kkI 1 (.box 5 (kkt 0)),kkI 2 (.mv kkn)] (kks [kkA 3 4 1,kkL 4 3,kkH 5 4,kkB 6 .gtr 5 (kkV 600),kkM 7 6,kkJ 8 (.fieldAddr 1 (kkt 1)) 7,kkJ 9 (.load none (kkt 8)) 7,kkJ 10 (.bin .gtr (kkt 9) (kkV 60)) 7,kkO 11 7 10,kkM 2 11] .ret)
theorem joY:jag Tryz.prog 81=some ⟨12,jjq,[.tmp 2]⟩:=by kernel_rfl
def jhB:jam:=kks [kkI 2 (.box 2 (kkt 0)),kkI 3 (.mv kkn)] (kks [kkQ 4 2 2,kkC 5 84 [kkt 4],kkU 6 5,kkM 7 6,kkJ 8 (.fieldAddr 0 (kkt 2)) 7,kkJ 9 (.load none (kkt 8)) 7,kkJ 10 (.bin .eql (kkt 9) (kkV 5)) 7,kkO 11 7 10,kkM 12 11,kkJ 13 (.fieldAddr 0 (kkt 2)) 12,kkJ 14 (.load none (kkt 13)) 12,kkJ 15 (.bin .eql (kkt 14) (kkV 4)) 12,kkJ 16 (.mv (kkt 15)) 12,kkG 17 (.fieldAddr 1 (kkt 2)) 16,kkG 18 (.load none (kkt 17)) 16,kkG 19 (.fieldAddr 2 (kkt 1)) 16,kkG 20 (.load none (kkt 19)) 16,kkG 21 (.len (kkt 20)) 16,kkG 22 (.bin .geq (kkt 18) (kkt 21)) 16,kkJ 23 (.pick (kkt 16) (kkt 22) kkn) 12,kkO 24 12 23,kkM 3 24] .ret)
theorem jnl:jag Tryz.prog 83=some ⟨25,jhB,[.tmp 3]⟩:=by kernel_rfl
def jk2:jam:=kks [kkI 1 (.box 2 (kkt 0)),kkI 2 (.mv kkn)] (.seq (kks [kkA 3 0 1,kkL 4 3] (.block 0 (kks [kkB 6 .eql 4 (kkV 0),kkM 5 6] (.cond (kkt 5) (kks [kkA 7 1 1,kkL 8 7,kkB 9 .eql 8 (kkV 0),kkM 2 9] .ret) (kks [kkB 11 .eql 4 (kkV 1),kkM 10 11] (.cond (kkt 10) (kks [kkA 12 1 1,kkL 13 12,kkC 14 116 [kkt 13,(kkV 0),(kkV 1)],kkM 2 14] .ret) (kks [kkB 16 .eql 4 (kkV 2),kkM 15 16] (.cond (kkt 15) (kks [kkA 17 1 1,kkL 18 17,kkC 19 116 [kkt 18,(kkV (-2147483648)),(kkV 2147483647)],kkM 2 19] .ret) (kks [kkB 21 .eql 4 (kkV 3),kkM 20 21] (.cond (kkt 20) (kkd [kkQ 22 2 1,⟨(some 23),.call (kkF 117) [kkt 22],none,false⟩,⟨(some 24),.load (some 2) (kkt 1),none,false⟩,kkC 25 117 [kkt 24],kkB 26 .eql 23 (kkt 25),kkM 27 26,kkJ 28 (.fieldAddr 1 (kkt 1)) 27,kkJ 29 (.load none (kkt 28)) 27,kkJ 30 (.bin .eql (kkt 29) (kkV 9221120237041090561)) 27,kkO 31 27 30,kkM 2 31] .ret) (.seq (kks [kkB 33 .eql 4 (kkV 4),kkM 32 33] (.cond (kkt 32) .skip (.ops [kkB 34 .eql 4 (kkV 5),kkM 32 34]))) (.cond (kkt 32) (kks [kkA 35 1 1,kkL 36 35,kkB 37 .geq 36 (kkV 0),kkM 2 37] .ret) (kks [kkB 39 .eql 4 (kkV 6),kkM 38 39] (kkr 38 [kkA 40 1 1,kkL 41 40,kkC 42 116 [kkt 41,(kkV 0),(kkV 15)],kkM 2 42])))))))))))))) (kks [kkI 2 (.mv kkn)] .ret))
theorem jrU:jag Tryz.prog 84=some ⟨43,jk2,[.tmp 2]⟩:=by kernel_rfl
def jk3:jam:=kks [kkI 3 (.box 8 (kkt 0)),kkI 5 (.box 5 (kkt 2)),kkI 6 (.mv kkn)] (kks [kkA 8 0 5,kkL 9 8,kkC 10 118 [kkt 9],kkM 7 10] (.seq (kkd [kkM 11 7,⟨(some 12),.bin .eql (kkt 11) (.av (.val (.string ⟨#[]⟩))),none,true⟩,kkM 13 12,kkJ 14 (.fieldAddr 4 (kkt 5)) 13,kkJ 15 (.load none (kkt 14)) 13,kkJ 16 (.call (kkF 119) [kkt 15,(kkV 0),(kkV 2000)]) 13,kkJ 17 (.un .not (kkt 16)) 13,kkO 18 13 17,kkM 19 18,kkJ 20 (.load (some 8) (kkt 3)) 19,kkJ 21 (.mv (kkt 7)) 19,kkJ 22 (.indexStr (kkt 21) (kkV 0)) 19,kkJ 23 (.fieldAddr 1 (kkt 5)) 19,kkJ 24 (.load none (kkt 23)) 19,kkJ 25 (.call (kkF 120) [kkt 20,kkt 22,kkt 24]) 19,kkJ 26 (.un .not (kkt 25)) 19,kkO 27 19 26,kkM 28 27,kkJ 29 (.load (some 8) (kkt 3)) 28,kkJ 30 (.mv (kkt 7)) 28,kkJ 31 (.indexStr (kkt 30) (kkV 1)) 28,kkJ 32 (.fieldAddr 2 (kkt 5)) 28,kkJ 33 (.load none (kkt 32)) 28,kkJ 34 (.call (kkF 120) [kkt 29,kkt 31,kkt 33]) 28,kkJ 35 (.un .not (kkt 34)) 28,kkO 36 28 35,kkM 37 36,kkJ 38 (.load (some 8) (kkt 3)) 37,kkJ 39 (.mv (kkt 7)) 37,kkJ 40 (.indexStr (kkt 39) (kkV 2)) 37,kkJ 41 (.fieldAddr 3 (kkt 5)) 37,kkJ 42 (.load none (kkt 41)) 37,kkJ 43 (.call (kkF 120) [kkt 38,kkt 40,kkt 42]) 37,kkJ 44 (.un .not (kkt 43)) 37,kkO 45 37 44] (kkr 45 [kkI 6 (.mv kkn)])) (.seq (kks [kkA 46 0 5,kkL 47 46] (.block 0 (kks [kkB 49 .eql 47 (kkV 14),kkM 48 49] (.cond (kkt 48) (kks [kkA 50 1 5,kkL 51 50,kkM 52 1,kkB 53 .leq 51 (kkt 52),kkM 6 53] .ret) (kks [kkB 55 .eql 47 (kkV 19),kkM 54 55] (.cond (kkt 54) (kks [kkA 56 2 5,kkL 57 56,kkA 58 3 5,kkL 59 58,kkB 60 .add 57 (kkt 59),kkA 61 3 3,kkA 62 1 61,kkL 63 62,kkB 64 .leq 60 (kkt 63),kkM 6 64] .ret) (kks [kkB 66 .eql 47 (kkV 27),kkM 65 66] (.cond (kkt 65) (kks [kkQ 67 8 3,kkA 68 2 5,kkL 69 68,kkA 70 3 5,kkL 71 70,kkB 72 .add 69 (kkt 71),kkC 73 121 [kkt 67,kkt 72],kkM 6 73] .ret) (kks [kkB 75 .eql 47 (kkV 26),kkM 74 75] (.cond (kkt 74) (kkd [kkQ 76 8 3,kkA 77 0 3,kkA 78 0 77,kkL 79 78,kkA 80 2 5,kkL 81 80,kkX 82 5 79 81,kkQ 83 5 82,kkC 84 122 [kkt 76,kkt 83],kkM 6 84] .ret) (kks [kkB 86 .eql 47 (kkV 32),kkM 85 86] (kkr 85 [kkA 87 3 3,kkA 88 2 87,kkL 89 88,kkM 6 89])))))))))))) (kks [kkI 6 (.mv kky)] .ret))))
theorem jrV:jag Tryz.prog 86=some ⟨90,jk3,[.tmp 6]⟩:=by kernel_rfl
def jnU:jam:= .block 0 (kks [kkM 7 1,kkM 8 0,kkN 9 8,kkA 10 0 9,kkA 11 4 10,kkL 12 11,kkH 13 12,kkB 14 .geq 7 (kkt 13),kkM 15 14,kkJ 16 (.mv (kkt 2)) 15,kkJ 17 (.len (kkt 16)) 15,kkJ 18 (.bin .gtr (kkt 17) (kkV 20)) 15,kkO 19 15 18,kkM 6 19] (.cond (kkt 6) (.ops [kkM 20 0,kkN 21 20,kkA 22 8 21,⟨none,.store 1 (kkt 22) kky,none,true⟩]) (kks [kkM 24 0,kkN 25 24,kkA 26 5 25,kkL 27 26,kkM 28 1,kkX 29 1 27 28,kkL 30 29,kkU 31 30,kkM 23 31] (.cond (kkt 23) (kkd [kkM 32 0,kkN 33 32,kkA 34 5 33,kkL 35 34,kkM 36 1,kkM 37 0,kkN 38 37,kkA 39 6 38,kkL 40 39,kkM 41 1,kkM 42 2,kkX 43 1 35 36,⟨none,.store 1 (kkt 43) kky,none,true⟩,kkX 44 1 40 41,kkR 1 44 42] (.ops [kkM 45 0,kkM 46 0,kkN 47 46,kkA 48 7 47,kkL 49 48,kkM 50 1,kkI 51 (.lits 1 1 [kkZ 0] [(0,1,(kkt 50))]),kkI 52 (.append 1 8 (kkt 49) (kkt 51)),kkN 53 45,kkA 54 7 53,kkR 1 54 52])) (kks [kkM 56 0,kkN 57 56,kkA 58 6 57,kkL 59 58,kkM 60 1,kkX 61 1 59 60,kkL 62 61,kkM 63 2,kkC 64 127 [kkt 62,kkt 63],kkU 65 64,kkM 55 65] (.cond (kkt 55) (.ops [kkM 66 0,kkN 67 66,kkA 68 8 67,⟨none,.store 1 (kkt 68) kky,none,true⟩]) .skip))))))
theorem juX:jag Tryz.prog 101=some ⟨69,jnU,[]⟩:=by kernel_rfl
def jnS:jam:= .seq (.opsW [kkM 6 0,kkN 7 6,kkA 8 0 7,kkA 9 4 8,kkL 10 9,kkM 11 1,kkX 12 5 10 11,kkQ 13 5 12,kkM 14 0,kkN 15 14,kkA 16 6 15,⟨(some 17),.load none (kkt 16),none,false⟩,kkM 18 1,kkX 19 1 17 18,⟨(some 20),.load none (kkt 19),none,false⟩,kkI 4 (.zero [kkZ 0,kkZ 0,kkZ 0,kkZ 0,kkZ 0]),⟨none,.store 5 (kkt 4) (kkt 13),none,false⟩,kkM 5 20]) (.seq (kks [kkA 21 0 4,kkL 22 21] (.block 0 (.seq (kks [kkB 24 .eql 22 (kkV 28),kkM 23 24] (.cond (kkt 23) .skip (.ops [kkB 25 .eql 22 (kkV 29),kkM 23 25]))) (.cond (kkt 23) .ret (.seq (kks [kkB 27 .eql 22 (kkV 13),kkM 26 27] (.cond (kkt 26) .skip (.ops [kkB 28 .eql 22 (kkV 14),kkM 26 28]))) (.cond (kkt 26) (kks [kkM 29 0,kkA 30 1 4,kkL 31 30,kkM 32 5,kkC 33 101 [kkt 29,kkt 31,kkt 32]] .ret) (kks [kkB 35 .eql 22 (kkV 15),kkM 34 35] (.cond (kkt 34) (.ops [kkM 36 0,kkA 37 2 4,kkL 38 37,kkM 39 5,kkC 40 101 [kkt 36,kkt 38,kkt 39]]) (kks [kkB 42 .eql 22 (kkV 30),kkM 41 42] (.cond (kkt 41) (kks [kkM 43 0,kkA 44 2 4,kkL 45 44,kkM 46 5,kkC 47 101 [kkt 43,kkt 45,kkt 46]] (.opsD [kkM 48 5,⟨(some 49),.call (kkF 128) [kkt 48],none,false⟩,kkA 50 1 4,⟨(some 51),.load none (kkt 50),none,false⟩,kkA 52 2 4,⟨(some 53),.load none (kkt 52),none,false⟩,kkI 54 (.build [kkZ 0,kkZ 0] [(0,1,(kkt 51)),(1,1,(kkt 53))]),kkI 55 (.lits 2 1 [kkZ 0,kkZ 0] [(0,2,(kkt 54))]),kkI 56 (.append 2 16 (kkt 49) (kkt 55)),kkM 5 56])) (kks [kkB 58 .eql 22 (kkV 31),kkM 57 58] (.cond (kkt 57) (.seq (kks [kkM 59 5,kkH 60 59,kkB 61 .eql 60 (kkV 0)] (kkr 61 [kkM 62 0,kkN 63 62,kkA 64 8 63,⟨none,.store 1 (kkt 64) kky,none,true⟩])) (.ops [kkM 65 5,kkM 66 5,kkH 67 66,kkB 68 .sub 67 (kkV 1),kkI 69 (.slice 2 (kkt 65) none (some (kkt 68)) none),kkM 5 69])) .skip)))))))))))) (.ops [kkM 70 0,kkM 71 1,kkB 72 .add 71 (kkV 1),kkM 73 5,kkC 74 101 [kkt 70,kkt 72,kkt 73]]))
theorem juV:jag Tryz.prog 102=some ⟨75,jnS,[]⟩:=by kernel_rfl
def jnT:jam:=kks [⟨(some 2),.mv (.av (.val (.string ⟨#[]⟩))),none,true⟩] (kks [⟨(some 4),.build [(.val (.string ⟨#[]⟩)),(.val (.string ⟨#[]⟩)),(.val (.string ⟨#[]⟩)),(.val (.string ⟨#[]⟩)),(.val (.string ⟨#[]⟩)),(.val (.string ⟨#[]⟩)),(.val (.string ⟨#[]⟩)),(.val (.string ⟨#[]⟩)),(.val (.string ⟨#[]⟩)),(.val (.string ⟨#[]⟩)),(.val (.string ⟨#[]⟩)),(.val (.string ⟨#[]⟩)),(.val (.string ⟨#[]⟩)),(.val (.string ⟨#[]⟩)),(.val (.string ⟨#[]⟩)),(.val (.string ⟨#[]⟩)),(.val (.string ⟨#[]⟩)),(.val (.string ⟨#[]⟩)),(.val (.string ⟨#[]⟩)),(.val (.string ⟨#[]⟩)),(.val (.string ⟨#[]⟩)),(.val (.string ⟨#[]⟩)),(.val (.string ⟨#[]⟩)),(.val (.string ⟨#[]⟩)),(.val (.string ⟨#[]⟩)),(.val (.string ⟨#[]⟩)),(.val (.string ⟨#[]⟩)),(.val (.string ⟨#[]⟩)),(.val (.string ⟨#[]⟩)),(.val (.string ⟨#[]⟩)),(.val (.string ⟨#[]⟩)),(.val (.string ⟨#[]⟩)),(.val (.string ⟨#[]⟩)),(.val (.string ⟨#[]⟩)),(.val (.string ⟨#[]⟩)),(.val (.string ⟨#[]⟩)),(.val (.string ⟨#[]⟩)),(.val (.string ⟨#[]⟩)),(.val (.string ⟨#[]⟩))] [(0,1,(.av (.val (.string ⟨#[]⟩)))),(1,1,(.av (.val (.string ⟨#[114,107,45]⟩)))),(2,1,(.av (.val (.string ⟨#[114,114,45]⟩)))),(3,1,(.av (.val (.string ⟨#[114,114,114]⟩)))),(4,1,(.av (.val (.string ⟨#[114,114,114]⟩)))),(5,1,(.av (.val (.string ⟨#[114,114,114]⟩)))),(6,1,(.av (.val (.string ⟨#[114,114,114]⟩)))),(7,1,(.av (.val (.string ⟨#[114,114,114]⟩)))),(8,1,(.av (.val (.string ⟨#[114,114,114]⟩)))),(9,1,(.av (.val (.string ⟨#[114,114,114]⟩)))),(10,1,(.av (.val (.string ⟨#[114,114,114]⟩)))),(11,1,(.av (.val (.string ⟨#[114,114,45]⟩)))),(12,1,(.av (.val (.string ⟨#[114,114,45]⟩)))),(13,1,(.av (.val (.string ⟨#[97,45,45]⟩)))),(14,1,(.av (.val (.string ⟨#[97,45,45]⟩)))),(15,1,(.av (.val (.string ⟨#[114,97,45]⟩)))),(16,1,(.av (.val (.string ⟨#[114,45,45]⟩)))),(17,1,(.av (.val (.string ⟨#[114,114,116]⟩)))),(18,1,(.av (.val (.string ⟨#[114,116,114]⟩)))),(19,1,(.av (.val (.string ⟨#[114,108,110]⟩)))),(20,1,(.av (.val (.string ⟨#[114,114,114]⟩)))),(21,1,(.av (.val (.string ⟨#[114,114,114]⟩)))),(22,1,(.av (.val (.string ⟨#[114,45,45]⟩)))),(23,1,(.av (.val (.string ⟨#[114,114,45]⟩)))),(24,1,(.av (.val (.string ⟨#[114,114,45]⟩)))),(25,1,(.av (.val (.string ⟨#[114,117,45]⟩)))),(26,1,(.av (.val (.string ⟨#[114,102,45]⟩)))),(27,1,(.av (.val (.string ⟨#[114,99,110]⟩)))),(28,1,(.av (.val (.string ⟨#[114,45,45]⟩)))),(29,1,(.av (.val (.string ⟨#[114,45,45]⟩)))),(30,1,(.av (.val (.string ⟨#[114,97,45]⟩)))),(31,1,(.av (.val (.string ⟨#[45,45,45]⟩)))),(32,1,(.av (.val (.string ⟨#[114,114,45]⟩)))),(33,1,(.av (.val (.string ⟨#[114,45,45]⟩)))),(34,1,(.av (.val (.string ⟨#[114,45,45]⟩)))),(35,1,(.av (.val (.string ⟨#[114,114,45]⟩)))),(36,1,(.av (.val (.string ⟨#[114,114,45]⟩)))),(37,1,(.av (.val (.string ⟨#[114,45,45]⟩)))),(38,1,(.av (.val (.string ⟨#[114,45,45]⟩))))],none,true⟩,⟨(some 3),.zero [(.val (.string ⟨#[]⟩)),(.val (.string ⟨#[]⟩)),(.val (.string ⟨#[]⟩)),(.val (.string ⟨#[]⟩)),(.val (.string ⟨#[]⟩)),(.val (.string ⟨#[]⟩)),(.val (.string ⟨#[]⟩)),(.val (.string ⟨#[]⟩)),(.val (.string ⟨#[]⟩)),(.val (.string ⟨#[]⟩)),(.val (.string ⟨#[]⟩)),(.val (.string ⟨#[]⟩)),(.val (.string ⟨#[]⟩)),(.val (.string ⟨#[]⟩)),(.val (.string ⟨#[]⟩)),(.val (.string ⟨#[]⟩)),(.val (.string ⟨#[]⟩)),(.val (.string ⟨#[]⟩)),(.val (.string ⟨#[]⟩)),(.val (.string ⟨#[]⟩)),(.val (.string ⟨#[]⟩)),(.val (.string ⟨#[]⟩)),(.val (.string ⟨#[]⟩)),(.val (.string ⟨#[]⟩)),(.val (.string ⟨#[]⟩)),(.val (.string ⟨#[]⟩)),(.val (.string ⟨#[]⟩)),(.val (.string ⟨#[]⟩)),(.val (.string ⟨#[]⟩)),(.val (.string ⟨#[]⟩)),(.val (.string ⟨#[]⟩)),(.val (.string ⟨#[]⟩)),(.val (.string ⟨#[]⟩)),(.val (.string ⟨#[]⟩)),(.val (.string ⟨#[]⟩)),(.val (.string ⟨#[]⟩)),(.val (.string ⟨#[]⟩)),(.val (.string ⟨#[]⟩)),(.val (.string ⟨#[]⟩))],none,true⟩,kkR 39 3 4] (.seq (kks [kkM 5 0,kkB 6 .lss 5 (kkV 1),kkM 7 6,kkJ 8 (.mv (kkt 0)) 7,kkJ 9 (.bin .geq (kkt 8) (kkV 39)) 7,kkO 10 7 9] (kkr 10 [⟨(some 2),.mv (.av (.val (.string ⟨#[]⟩))),none,true⟩])) (kks [kkM 11 0,kkI 12 (.indexArr 1 39 (kkt 3) (kkt 11)),kkL 13 12,kkM 2 13] .ret)))
theorem juW:jag Tryz.prog 118=some ⟨14,jnT,[.tmp 2]⟩:=by kernel_rfl
def jgd:jam:=kks [kkI 6 (.mv kkn)] (kks [kkM 7 0,kkM 8 1,kkB 9 .geq 7 (kkt 8),kkM 10 9,kkG 11 (.mv (kkt 0)) 10,kkG 12 (.mv (kkt 2)) 10,kkG 13 (.bin .leq (kkt 11) (kkt 12)) 10,kkE 14 10 13,kkM 6 14] .ret)
theorem joW:jag Tryz.prog 119=some ⟨15,jgd,[.tmp 6]⟩:=by kernel_rfl
def jk4:jam:=kks [kkI 3 (.box 8 (kkt 0)),kkI 6 (.mv kkn)] (.seq (kks [kkM 7 1] (.block 0 (kks [kkB 9 .eql 7 (.av (.val (.int .u8 114))),kkM 8 9] (.cond (kkt 8) (kks [kkQ 10 8 3,kkM 11 2,kkC 12 121 [kkt 10,kkt 11],kkM 6 12] .ret) (kks [kkB 14 .eql 7 (.av (.val (.int .u8 107))),kkM 13 14] (.cond (kkt 13) (kks [kkM 15 2,kkA 16 0 3,kkA 17 1 16,kkL 18 17,kkH 19 18,kkB 20 .sub 19 (kkV 1),kkC 21 119 [kkt 15,(kkV 0),kkt 20],kkM 6 21] .ret) (kks [kkB 23 .eql 7 (.av (.val (.int .u8 116))),kkM 22 23] (.cond (kkt 22) (kks [kkQ 24 8 3,kkM 25 2,kkC 26 134 [kkt 24,kkt 25],kkM 6 26] .ret) (kks [kkB 28 .eql 7 (.av (.val (.int .u8 97))),kkM 27 28] (.cond (kkt 27) (kks [kkQ 29 8 3,kkM 30 2,kkC 31 135 [kkt 29,kkt 30],kkM 6 31] .ret) (kks [kkB 33 .eql 7 (.av (.val (.int .u8 117))),kkM 32 33] (.cond (kkt 32) (kks [kkM 34 2,kkA 35 3 3,kkA 36 3 35,kkL 37 36,kkH 38 37,kkB 39 .sub 38 (kkV 1),kkC 40 119 [kkt 34,(kkV 0),kkt 39],kkM 6 40] .ret) (kks [kkB 42 .eql 7 (.av (.val (.int .u8 102))),kkM 41 42] (.cond (kkt 41) (kks [kkM 43 2,kkA 44 0 3,kkA 45 0 44,kkL 46 45,kkH 47 46,kkB 48 .sub 47 (kkV 1),kkC 49 119 [kkt 43,(kkV 1),kkt 48],kkM 6 49] .ret) (.seq (kks [kkB 51 .eql 7 (.av (.val (.int .u8 108))),kkM 50 51] (.cond (kkt 50) .skip (kks [kkB 52 .eql 7 (.av (.val (.int .u8 99))),kkM 50 52] (.cond (kkt 50) .skip (.ops [kkB 53 .eql 7 (.av (.val (.int .u8 110))),kkM 50 53]))))) (kkr 50 [kkM 54 2,kkA 55 3 3,kkA 56 1 55,kkL 57 56,kkC 58 119 [kkt 54,(kkV 0),kkt 57],kkM 6 58])))))))))))))))) (kks [kkM 59 2,kkB 60 .eql 59 (kkV 0),kkM 6 60] .ret))
theorem jrW:jag Tryz.prog 120=some ⟨61,jk4,[.tmp 6]⟩:=by kernel_rfl
def jqJ:jam:=kks [kkI 2 (.box 8 (kkt 0)),kkI 4 (.mv kkn)] (kks [kkM 5 1,kkA 6 3 2,kkA 7 1 6,kkL 8 7,kkB 9 .sub 8 (kkV 1),kkC 10 119 [kkt 5,(kkV 0),kkt 9],kkM 4 10] .ret)
theorem f_cc_reg:jag Tryz.prog 121=some ⟨11,jqJ,[.tmp 4]⟩:=by kernel_rfl
def jjt:jam:=kks [kkI 2 (.box 8 (kkt 0)),kkI 3 (.box 5 (kkt 1)),kkI 4 (.mv kkn)] (kks [kkA 5 3 3,kkL 6 5,kkI 7 (.func 137 [kkt 2]),kkC 8 136 [kkt 6,kkt 7],kkU 9 8,kkM 4 9] .ret)
theorem jo1:jag Tryz.prog 122=some ⟨10,jjt,[.tmp 4]⟩:=by kernel_rfl
def jqK:jam:=kks [kkI 4 (.mv kkn)] (.seq (kks [kkM 6 0,kkH 7 6,kkM 8 1,kkH 9 8,kkB 10 .neq 7 (kkt 9)] (kkr 10 [kkI 4 (.mv kkn)])) (.seq (kks [kkM 11 0,kkH 12 11,kkK 13 0] (jau 0 1 14 13 12 25 (kks [kkM 15 13,kkM 5 15] (kkd [kkM 16 0,kkM 17 5,kkX 18 2 16 17,kkQ 19 2 18,kkM 20 1,kkM 21 5,kkX 22 2 20 21,kkQ 23 2 22,kkI 24 (.eqAgg true [0,0] (kkt 19) (kkt 23))] (kkr 24 [kkI 4 (.mv kkn)]))))) (kks [kkI 4 (.mv kky)] .ret)))
theorem f_cc_eqt:jag Tryz.prog 127=some ⟨26,jqK,[.tmp 4]⟩:=by kernel_rfl
def jnR:jam:=kks [kkI 2 (.box 8 (kkt 0)),kkI 4 (.mv kkn)] (kks [kkM 5 1,kkA 6 0 2,kkA 7 2 6,kkL 8 7,kkH 9 8,kkB 10 .sub 9 (kkV 1),kkC 11 119 [kkt 5,(kkV 0),kkt 10],kkM 4 11] .ret)
theorem juU:jag Tryz.prog 134=some ⟨12,jnR,[.tmp 4]⟩:=by kernel_rfl
def jvl:jam:=kks [kkI 2 (.box 8 (kkt 0)),kkI 4 (.mv kkn)] (kks [kkM 5 1,kkA 6 3 2,kkA 7 4 6,kkL 8 7,kkH 9 8,kkB 10 .sub 9 (kkV 1),kkC 11 119 [kkt 5,(kkV 0),kkt 10],kkM 4 11] .ret)
theorem f_cc_at:jag Tryz.prog 135=some ⟨12,jvl,[.tmp 4]⟩:=by kernel_rfl
def jhC:jam:=kks [kkI 3 (.mv kkn)] (kks [kkQ 4 8 1,kkM 5 0,kkC 6 121 [kkt 4,kkt 5],kkU 7 6,kkM 8 7,kkG 9 (.mv (kkt 0)) 8,kkG 10 (.fieldAddr 3 (kkt 1)) 8,kkG 11 (.fieldAddr 3 (kkt 10)) 8,kkG 12 (.load none (kkt 11)) 8,kkG 13 (.len (kkt 12)) 8,kkG 14 (.un .neg (kkt 13)) 8,kkG 15 (.call (kkF 119) [kkt 9,kkt 14,(kkV (-1))]) 8,kkG 16 (.un .not (kkt 15)) 8,kkE 17 8 16,kkM 3 17] .ret)
theorem jnm:jag Tryz.prog 137=some ⟨18,jhC,[.tmp 3]⟩:=by kernel_rfl
end
section
open Go Go.RowKit
variable {tb:List (FuncId×Bool)}{nd:Bool}{L:Nat→Bool}{H:ZH}{K:ZV→ZH→Prop}{n:Int}
abbrev eVl (v:Int×Int):List ZV:=[Z64 v.1,Z64 v.2]
abbrev eSt (s:ByteArray):List ZV:=[.val (.string s)]
abbrev eIns (i:InsT):List ZV:=[Z64 i.1,Z64 i.2.1,Z64 i.2.2.1,Z64 i.2.2.2.1,Z64 i.2.2.2.2]
abbrev eFn (f:FnT):List ZV:=[Z64 f.1,Z64 f.2.1,ZBo f.2.2.1,.fz 1 false (f.2.2.2.1.map eI),.fz 5 false (f.2.2.2.2.map eIns)]
abbrev ePr (p:PrT):List ZV:=[.fz 5 false (p.1.map eFn),.fz 2 false (p.2.1.map eVl),.fz 1 false (p.2.2.map eSt)]
theorem jep {H:ZH}{A:ZB}{X:ZH}:(H++(A::X))[H.length]?=some A:=by rw[N0 (V2 _),B4];rfl
theorem jup {H:ZH}{A B:ZB}{X:ZH}:(H++(A::B::X))[H.length+1]?=some B:=by rw[N0 (by omega),D8];rfl
theorem hl_st0' {H:ZH}{A C:ZB}{X:ZH}:(H++(A::X)).set H.length C=H++(C::X):=by rw[B7 _ _ (V2 _),B4];rfl
theorem finX {z:ZV}{X:ZH}(hz:refs H.length z=true)(hK:K z H):Fin H z (H++X) K:=Fin.trunc (K4 H X) hz (by rw[K5];exact hK)
theorem jhT {g:FuncId}{lo hi:Int}(hF:jag Tryz.prog g=some ⟨15,jgd,[.tmp 6]⟩)(hx:g≠15∧g≠117)(hK:K (ZBo (winB n lo hi)) H):ZC (XC tb nd) (jag Tryz.prog) g [Z64 n,Z64 lo,Z64 hi] L H K:=by
 refine Z9 Gh.no (jaf hx) hF (by simp) ?_;simp only[jgd,kkP];have HK:=Z4 hK;clear hK hx hF;by_cases h1:lo≤n
 ·by_cases h2:n≤hi
  ·have fin:=Fin.keep (H0:=H) HK.out
   rw[winB,decide_eq_true ⟨h1,h2⟩] at fin;with_reducible repeat' first|simp only[zQ,seval,X0,h1,h2, *]|simp only[jab]|apply P3|intro _
  ·have fin:=Fin.keep (H0:=H) HK.out
   rw[winB,decide_eq_false (fun h=>h2 h.2)] at fin;with_reducible repeat' first|simp only[zQ,seval,X0,h1,h2, *]|simp only[jab]|apply P3|intro _
 ·have fin:=Fin.keep (H0:=H) HK.out
  rw[winB,decide_eq_false (fun h=>h1 h.1)] at fin;with_reducible repeat' first|simp only[zQ,seval,X0,h1, *]|simp only[jab]|apply P3|intro _
theorem jiI {lo hi:Int}(hK:K (ZBo (winB n lo hi)) H):ZC (XC tb nd) (jag Tryz.prog) 116 [Z64 n,Z64 lo,Z64 hi] L H K:=jhT (by kernel_rfl) (by decide) hK
theorem jbP {lo hi:Int}(hK:K (ZBo (winB n lo hi)) H):ZC (XC tb nd) (jag Tryz.prog) 119 [Z64 n,Z64 lo,Z64 hi] L H K:=jhT joW (by decide) hK
theorem jqs {n:Int}:binV .eql (.float .f64 (IntKind.u64.wrap n).toNat) (.float .f64 (IntKind.u64.wrap n).toNat)=some (.bool (joD n)):=rfl
theorem jtV {k:Int}(hK:K (ZBo (jcl (k,n))) H):ZC (XC tb nd) (jag Tryz.prog) 84 [.agg [Z64 k,Z64 n]] L H K:=by
 refine K6 Gh.no (jaf (by decide)) jrU (by simp) fun hL=>?_
 simp only[jk2,kkP];have g0: ∀A X,(H++(A::X))[H.length]?=some A:=fun A X=>jep
 have HK:=Z4 hK;clear hK;have fin: ∀b X,jcl (k,n)=b→Fin H (ZBo b) (H++X) K:=fun b X h=>finX rfl (by rw[←h];exact HK.out)
 by_cases h0:k=0
 ·subst h0
  have fin:=fun X=>fin _ X (show jcl (0,n)=decide (n=0) by simp[jcl])
  with_reducible repeat' first|simp only[zQ,seval,X0,g0, *]|simp only[jab]|apply P3|intro _
 by_cases h1:k=1
 ·subst h1
  have fin:=fun X=>fin _ X (show jcl (1,n)=winB n 0 1 by simp[jcl])
  with_reducible repeat' first|simp only[zQ,seval,X0,g0, *]|simp only[jab]|apply P3|intro _
  refine jiI ?_;with_reducible repeat' first|simp only[zQ,seval,X0,g0, *]|simp only[jab]|apply P3|intro _
 by_cases h2:k=2
 ·subst h2
  have fin:=fun X=>fin _ X (show jcl (2,n)=winB n (-2147483648) 2147483647 by simp[jcl])
  with_reducible repeat' first|simp only[zQ,seval,X0,g0, *]|simp only[jab]|apply P3|intro _
  refine jiI ?_;with_reducible repeat' first|simp only[zQ,seval,X0,g0, *]|simp only[jab]|apply P3|intro _
 by_cases h4:k=4
 ·subst h4
  have fin:=fun X=>fin _ X (show jcl (4,n)=decide (0≤n) by simp[jcl])
  with_reducible repeat' first|simp only[zQ,seval,X0,g0, *]|simp only[jab]|apply P3|intro _
 by_cases h5:k=5
 ·subst h5
  have fin:=fun X=>fin _ X (show jcl (5,n)=decide (0≤n) by simp[jcl])
  with_reducible repeat' first|simp only[zQ,seval,X0,g0, *]|simp only[jab]|apply P3|intro _
 by_cases h6:k=6
 ·subst h6
  have fin:=fun X=>fin _ X (show jcl (6,n)=winB n 0 15 by simp[jcl])
  with_reducible repeat' first|simp only[zQ,seval,X0,g0, *]|simp only[jab]|apply P3|intro _
  refine jiI ?_;with_reducible repeat' first|simp only[zQ,seval,X0,g0, *]|simp only[jab]|apply P3|intro _
 by_cases h3:k=3
 ·subst h3
  cases hf:joD n with
  |true=>
   have fin:=fun X=>fin _ X (show jcl (3,n)=true by simp[jcl,hf])
   have fe:=jqs (n:=n);rw[hf] at fe;with_reducible repeat' first|simp only[zQ,seval,X0,g0, *]|simp only[jab]|apply P3|intro _
   refine jlE ?_;with_reducible repeat' first|simp only[zQ,seval,X0,g0, *]|simp only[jab]|apply P3|intro _
   all_goals (refine jlE ?_;with_reducible repeat' first|simp only[zQ,seval,X0,g0,fe, *]|simp only[jab]|apply P3|intro _)
  |false=>
   have fin:=fun X=>fin _ X (show jcl (3,n)=decide (n=9221120237041090561) by simp only[jcl,hf,juw];rfl)
   have fe:=jqs (n:=n);rw[hf] at fe;with_reducible repeat' first|simp only[zQ,seval,X0,g0, *]|simp only[jab]|apply P3|intro _
   refine jlE ?_;with_reducible repeat' first|simp only[zQ,seval,X0,g0, *]|simp only[jab]|apply P3|intro _
   all_goals (refine jlE ?_;with_reducible repeat' first|simp only[zQ,seval,X0,g0,fe, *]|simp only[jab]|apply P3|intro _)
 ·have fin:=fun X=>fin _ X (show jcl (k,n)=false by simp[jcl, *])
  with_reducible repeat' first|simp only[zQ,seval,X0,g0,h0,h1,h2,h3,h4,h5,h6, *]|simp only[jab]|apply P3|intro _
end
section
open Go Go.RowKit
variable {tb:List (FuncId×Bool)}{nd:Bool}{L:Nat→Bool}{H:ZH}{K:ZV→ZH→Prop}{n:Int}
def formsZ:List ZV:=jjE.map fun s=> .val (.string ⟨s.toArray⟩)
theorem forms_at {j:Nat}(hj:j<39):formsZ[j]?=some (.val (.string ⟨(jjE.getD j []).toArray⟩)):=by
 unfold formsZ;have:j<jjE.length:=hj;rw[U8,U1 this,C0,U1 this];rfl
set_option maxRecDepth 10000 in
theorem form_z {op:Int}(hK:K (.val (.string ⟨(jhb op).toArray⟩)) H):ZC (XC tb nd) (jag Tryz.prog) 118 [Z64 op] L H K:=by
 refine K6 Gh.no (jaf (by decide)) juW (by simp) fun hL=>?_
 simp only[jnT,kkP];have g0: ∀A X,(H++(A::X))[H.length]?=some A:=fun A X=>jep
 have s0: ∀A C X,(H++(A::X)).set H.length C=H++(C::X):=fun A C X=>hl_st0'
 have hL0:L H.length=true:=by simpa using hL 0
 have HK:=Z4 hK;clear hK;have fin: ∀b X,jhb op=b→Fin H (.val (.string ⟨b.toArray⟩)) (H++X) K:=fun b X h=>finX rfl (by rw[←h];exact HK.out)
 by_cases h1:op<1
 ·have fin:=fun X=>fin [] X (by unfold jhb;rw[if_neg (by omega)])
  with_reducible repeat' first|simp only[zQ,seval,X0,g0,s0,hL0,h1, *]|simp only[jab]|apply P3|intro _
 by_cases h2:39≤op
 ·have fin:=fun X=>fin [] X (by unfold jhb;rw[if_neg (by omega)])
  with_reducible repeat' first|simp only[zQ,seval,X0,g0,s0,hL0,h1,h2, *]|simp only[jab]|apply P3|intro _
 obtain⟨j,rfl⟩: ∃j:Nat,op=(j:Int):=⟨op.toNat,by omega⟩;have hn:natZ (Z64 (j:Int))=some j:=by simp[natZ]
 have hj:j<39:=by omega
 have fin:=fun X=>fin (jjE.getD j []) X (by unfold jhb;rw[if_pos (by omega)];rfl)
 with_reducible repeat' first|simp only[zQ,seval,X0,g0,s0,hL0,h1,h2,hn, *]|simp only[jab]|apply P3|intro _
 exact⟨_,forms_at hj,fin _⟩
theorem jhr {α:Type}{l1 l2:List α}{k:Nat}(h1:k<l1.length)(h2:k<l2.length)(h:l1.take k=l2.take k)(e:l1[k]=l2[k]):l1.take (k+1)=l2.take (k+1):=by
 rw[X5 h1,X5 h2,h,e]
theorem eqs_z {z1 z2:ZV}{l1 l2:List ByteArray}(hz1:ja2 H 1 z1=some (l1.map eSt))(hz2:ja2 H 1 z2=some (l2.map eSt))(hb:l1.length≤100000000000000)(hb2:l2.length≤100000000000000)(hK:K (ZBo (decide (l1=l2))) H):
  ZC (XC tb nd) (jag Tryz.prog) 68 [z1,z2] L H K:=by
 refine Z9 Gh.no (jaf (by decide)) f_cc_eqs (by simp) ?_;simp only[jqL,kkP];have len1:=ja3 hz1;have len2:=ja3 hz2;rw[P2] at len1 len2;have HK:=Z4 hK;clear hK;have no:l1≠l2→Fin H (ZBo false) H K:=fun h=>Fin.keep (by have:=HK.out;rwa [decide_eq_false h] at this)
 by_cases hl:(l1.length:Int)=l2.length
 ·have hl':l1.length=l2.length:=by omega
  have hb0:binV .neq (.int .i64 (l1.length:Int)) (.int .i64 (l2.length:Int))=some (.bool false):=by simp[binV,hl]
  have HL:=Z4 hl';clear hl hl';with_reducible repeat' first|simp only[zQ,seval,X0,len1,len2,hb0, *]|simp only[jab]|apply P3|intro _
  refine jaK [(0,z1),(1,z2)] l1.length (fun k s' h'=>h'=H∧l1.take k=l2.take k) (by omega) ⟨rfl,rfl,rfl,rfl,rfl,rfl⟩ rfl rfl (by repeat' (first|exact trivial|(refine⟨rfl,?_⟩)|(refine⟨by simp only[jaj,X4,reduceIte];assumption,?_⟩))) rfl rfl (by decide) ⟨rfl,rfl⟩ ?_ ?_
  ·rintro k s' h' hk ⟨rfl,hno⟩ hi hlx ⟨f0,f1,-⟩
   have hk2:k<l2.length:=by rw[←HL.out];exact hk
   obtain⟨q1,hq1,hd1⟩:=jcS hz1 hk;obtain⟨q2,hq2,hd2⟩:=jcS hz2 hk2;have hd1:=hd1 none;have hd2:=hd2 none;have HN:=Z4 hno;clear hno;by_cases he:l1[k]=l2[k]
   ·have fin:l1.take (k+1)=l2.take (k+1):=jhr hk hk2 HN.out he
    have hb:binV .neq (.string l1[k]) (.string l2[k])=some (.bool false):=by simp[binV,he]
    have FN:=Z4 fin;clear fin he;with_reducible repeat' first|simp only[zQ,seval,X0,hq1,hq2,hd1,hd2,hb, *]|simp only[jab]|apply P3|intro _
    exact FN.out
   ·have fin:=no (fun h=>he (by subst h;rfl))
    have hb:binV .neq (.string l1[k]) (.string l2[k])=some (.bool true):=by simp[binV,he]
    clear he;with_reducible repeat' first|simp only[zQ,seval,X0,hq1,hq2,hd1,hd2,hb, *]|simp only[jab]|apply P3|intro _
  ·rintro s' h' ⟨rfl,hno⟩ ⟨f0,f1,-⟩
   have hEq:l1=l2:=by rw[K7,HL.out,K7] at hno;exact hno
   have fin:Fin h' (ZBo true) h' K:=Fin.keep (by have q:=HK.out;rwa [decide_eq_true hEq] at q);clear hEq hno;with_reducible repeat' first|simp only[zQ,seval,X0, *]|simp only[jab]|apply P3|intro _
 ·have fin:=no (fun h=>hl (by rw[h]))
  have hb0:binV .neq (.int .i64 (l1.length:Int)) (.int .i64 (l2.length:Int))=some (.bool true):=by simp[binV,hl]
  clear hl;with_reducible repeat' first|simp only[zQ,seval,X0,len1,len2,hb0, *]|simp only[jab]|apply P3|intro _
theorem eqt_z {z1 z2:ZV}{l1 l2:List (Int×Int)}(hz1:ja2 H 2 z1=some (l1.map eVl))(hz2:ja2 H 2 z2=some (l2.map eVl))(hb:l1.length≤100000000000000)(hb2:l2.length≤100000000000000)(hK:K (ZBo (decide (l1=l2))) H):
  ZC (XC tb nd) (jag Tryz.prog) 127 [z1,z2] L H K:=by
 refine Z9 Gh.no (jaf (by decide)) f_cc_eqt (by simp) ?_;simp only[jqK,kkP];have len1:=ja3 hz1;have len2:=ja3 hz2;rw[P2] at len1 len2;have HK:=Z4 hK;clear hK;have no:l1≠l2→Fin H (ZBo false) H K:=fun h=>Fin.keep (by have:=HK.out;rwa [decide_eq_false h] at this)
 by_cases hl:(l1.length:Int)=l2.length
 ·have hl':l1.length=l2.length:=by omega
  have hb0:binV .neq (.int .i64 (l1.length:Int)) (.int .i64 (l2.length:Int))=some (.bool false):=by simp[binV,hl]
  have HL:=Z4 hl';clear hl hl';with_reducible repeat' first|simp only[zQ,seval,X0,len1,len2,hb0, *]|simp only[jab]|apply P3|intro _
  refine jaK [(0,z1),(1,z2)] l1.length (fun k s' h'=>h'=H∧l1.take k=l2.take k) (by omega) ⟨rfl,rfl,rfl,rfl,rfl,rfl⟩ rfl rfl (by repeat' (first|exact trivial|(refine⟨rfl,?_⟩)|(refine⟨by simp only[jaj,X4,reduceIte];assumption,?_⟩))) rfl rfl (by decide) ⟨rfl,rfl⟩ ?_ ?_
  ·rintro k s' h' hk ⟨rfl,hno⟩ hi hlx ⟨f0,f1,-⟩
   have hk2:k<l2.length:=by rw[←HL.out];exact hk
   obtain⟨q1,hq1,hd1⟩:=jcS hz1 hk;obtain⟨q2,hq2,hd2⟩:=jcS hz2 hk2;have hd1:=hd1 (some 2);have hd2:=hd2 (some 2);have HN:=Z4 hno;clear hno;by_cases he:l1[k]=l2[k]
   ·have fin:l1.take (k+1)=l2.take (k+1):=jhr hk hk2 HN.out he
    have hb:jf7 [0,0] [Z64 l1[k].1,Z64 l1[k].2] [Z64 l2[k].1,Z64 l2[k].2]=some true:=by rw[he];simp[jf7,jmP]
    have FN:=Z4 fin;clear fin he;with_reducible repeat' first|simp only[zQ,seval,X0,hq1,hq2,hd1,hd2,hb, *]|simp only[jab]|apply P3|intro _
    exact FN.out
   ·have fin:=no (fun h=>he (by subst h;rfl))
    have hb:jf7 [0,0] [Z64 l1[k].1,Z64 l1[k].2] [Z64 l2[k].1,Z64 l2[k].2]=some false:=by
     have: ¬(l1[k].1=l2[k].1∧l1[k].2=l2[k].2):=fun h=>he (Prod.ext h.1 h.2)
     simp only[jf7,jmP,if_true];by_cases h1:l1[k].1=l2[k].1
     ·have h2: ¬l1[k].2=l2[k].2:=fun h2=>this ⟨h1,h2⟩
      simp[h1,h2]
     ·simp[h1]
    clear he;with_reducible repeat' first|simp only[zQ,seval,X0,hq1,hq2,hd1,hd2,hb, *]|simp only[jab]|apply P3|intro _
  ·rintro s' h' ⟨rfl,hno⟩ ⟨f0,f1,-⟩
   have hEq:l1=l2:=by rw[K7,HL.out,K7] at hno;exact hno
   have fin:Fin h' (ZBo true) h' K:=Fin.keep (by have q:=HK.out;rwa [decide_eq_true hEq] at q);clear hEq hno;with_reducible repeat' first|simp only[zQ,seval,X0, *]|simp only[jab]|apply P3|intro _
 ·have fin:=no (fun h=>hl (by rw[h]))
  have hb0:binV .neq (.int .i64 (l1.length:Int)) (.int .i64 (l2.length:Int))=some (.bool true):=by simp[binV,hl]
  clear hl;with_reducible repeat' first|simp only[zQ,seval,X0,len1,len2,hb0, *]|simp only[jab]|apply P3|intro _
end
section
open Go Go.RowKit
variable {tb:List (FuncId×Bool)}{nd:Bool}{L:Nat→Bool}{H:ZH}{K:ZV→ZH→Prop}{n:Int}{p:PrT}{f:FnT}
abbrev eLk (p:PrT)(f:FnT):List ZV:=[.fz 5 false (p.1.map eFn),.fz 2 false (p.2.1.map eVl),.fz 1 false (p.2.2.map eSt),Z64 f.1,Z64 f.2.1,ZBo f.2.2.1,.fz 1 false (f.2.2.2.1.map eI),.fz 5 false (f.2.2.2.2.map eIns)]
structure PfOk (p:PrT)(f:FnT):Prop where
  re:1≤f.2.1∧f.2.1≤60
  fns:p.1.length≤60
  cons:p.2.1.length≤200
  txts:p.2.2.length≤200
  cau:f.2.2.2.1.length≤100000000000000
  co:f.2.2.2.2.length≤600
  caus: ∀g∈p.1,g.2.2.2.1.length≤100000000000000
theorem jbn {a:Int}(h1: -9223372036854775808≤a)(h2:a≤9223372036854775807):IntKind.i64.wrap a=a:=by
 simp[IntKind.wrap,IntKind.signed,IntKind.bits];split<;>omega
theorem reg_z (ok:PfOk p f)(hK:K (ZBo (winB n 0 (f.2.1 - 1))) H):ZC (XC tb nd) (jag Tryz.prog) 121 [.agg (eLk p f),Z64 n] L H K:=by
 refine K6 Gh.no (jaf (by decide)) f_cc_reg (by simp) fun hL=>?_
 simp only[jqJ,kkP];have g0: ∀A X,(H++(A::X))[H.length]?=some A:=fun A X=>jep
 have w1:IntKind.i64.wrap (f.2.1 - 1)=f.2.1 - 1:=jbn (by have:=ok.re;omega) (by have:=ok.re;omega);have fin: ∀X,Fin H (ZBo (winB n 0 (f.2.1 - 1))) (H++X) K:=fun X=>finX rfl hK
 clear hK ok;with_reducible repeat' first|simp only[zQ,seval,X0,g0,w1, *]|simp only[jab]|apply P3|intro _
 refine jbP ?_;with_reducible repeat' first|simp only[zQ,seval,X0,g0,w1, *]|simp only[jab]|apply P3|intro _
theorem text_z (ok:PfOk p f)(hK:K (ZBo (winB n 0 ((p.2.2.length:Int) - 1))) H):ZC (XC tb nd) (jag Tryz.prog) 134 [.agg (eLk p f),Z64 n] L H K:=by
 refine K6 Gh.no (jaf (by decide)) juU (by simp) fun hL=>?_
 simp only[jnR,kkP];have g0: ∀A X,(H++(A::X))[H.length]?=some A:=fun A X=>jep
 have w1:IntKind.i64.wrap ((p.2.2.length:Int) - 1)=(p.2.2.length:Int) - 1:=jbn (by omega) (by have:=ok.txts;omega);have fin: ∀X,Fin H (ZBo (winB n 0 ((p.2.2.length:Int) - 1))) (H++X) K:=fun X=>finX rfl hK
 clear hK ok;with_reducible repeat' first|simp only[zQ,seval,X0,g0,w1, *]|simp only[jab]|apply P3|intro _
 refine jbP ?_;with_reducible repeat' first|simp only[zQ,seval,X0,g0,w1, *]|simp only[jab]|apply P3|intro _
theorem at_z (ok:PfOk p f)(hK:K (ZBo (winB n 0 ((f.2.2.2.2.length:Int) - 1))) H):ZC (XC tb nd) (jag Tryz.prog) 135 [.agg (eLk p f),Z64 n] L H K:=by
 refine K6 Gh.no (jaf (by decide)) f_cc_at (by simp) fun hL=>?_
 simp only[jvl,kkP];have g0: ∀A X,(H++(A::X))[H.length]?=some A:=fun A X=>jep
 have w1:IntKind.i64.wrap ((f.2.2.2.2.length:Int) - 1)=(f.2.2.2.2.length:Int) - 1:=jbn (by omega) (by have:=ok.co;omega);have fin: ∀X,Fin H (ZBo (winB n 0 ((f.2.2.2.2.length:Int) - 1))) (H++X) K:=fun X=>finX rfl hK
 clear hK ok;with_reducible repeat' first|simp only[zQ,seval,X0,g0,w1, *]|simp only[jab]|apply P3|intro _
 refine jbP ?_;with_reducible repeat' first|simp only[zQ,seval,X0,g0,w1, *]|simp only[jab]|apply P3|intro _
theorem jeW (ok:PfOk p f){c:Int}(hK:K (ZBo (jdp p f c n)) H):ZC (XC tb nd) (jag Tryz.prog) 120 [.agg (eLk p f),.val (.int .u8 c),Z64 n] L H K:=by
 refine K6 Gh.no (jaf (by decide)) jrW (by simp) fun hL=>?_
 simp only[jk4,kkP];have g0: ∀A X,(H++(A::X))[H.length]?=some A:=fun A X=>jep
 have bu: ∀a b:Int,binV .eql (.int .u8 a) (.int .u8 b)=some (.bool (decide (a=b))):=fun a b=>by simp[binV]
 have OK:=Z4 ok;have HK:=Z4 hK;have fin: ∀b X,jdp p f c n=b→Fin H (ZBo b) (H++X) K:=fun b X h=>finX rfl (by rw[←h];exact HK.out)
 clear hK ok;by_cases h0:c=114
 ·subst h0
  have fin:=fun X=>fin _ X (show jdp p f 114 n=winB n 0 (f.2.1 - 1) from rfl)
  with_reducible repeat' first|simp only[zQ,seval,X0,g0,bu, *]|simp only[jab]|apply P3|intro _
  refine reg_z OK.out ?_;with_reducible repeat' first|simp only[zQ,seval,X0,g0,bu, *]|simp only[jab]|apply P3|intro _
 by_cases h1:c=107
 ·subst h1
  have fin:=fun X=>fin _ X (show jdp p f 107 n=winB n 0 ((p.2.1.length:Int) - 1) from rfl)
  have w1:IntKind.i64.wrap ((p.2.1.length:Int) - 1)=(p.2.1.length:Int) - 1:=jbn (by omega) (by have:=OK.out.cons;omega);with_reducible repeat' first|simp only[zQ,seval,X0,g0,bu,w1, *]|simp only[jab]|apply P3|intro _
  refine jbP ?_;with_reducible repeat' first|simp only[zQ,seval,X0,g0,bu, *]|simp only[jab]|apply P3|intro _
 by_cases h2:c=116
 ·subst h2
  have fin:=fun X=>fin _ X (show jdp p f 116 n=winB n 0 ((p.2.2.length:Int) - 1) from rfl)
  with_reducible repeat' first|simp only[zQ,seval,X0,g0,bu, *]|simp only[jab]|apply P3|intro _
  refine text_z OK.out ?_;with_reducible repeat' first|simp only[zQ,seval,X0,g0,bu, *]|simp only[jab]|apply P3|intro _
 by_cases h3:c=97
 ·subst h3
  have fin:=fun X=>fin _ X (show jdp p f 97 n=winB n 0 ((f.2.2.2.2.length:Int) - 1) from rfl)
  with_reducible repeat' first|simp only[zQ,seval,X0,g0,bu, *]|simp only[jab]|apply P3|intro _
  refine at_z OK.out ?_;with_reducible repeat' first|simp only[zQ,seval,X0,g0,bu, *]|simp only[jab]|apply P3|intro _
 by_cases h4:c=117
 ·subst h4
  have fin:=fun X=>fin _ X (show jdp p f 117 n=winB n 0 ((f.2.2.2.1.length:Int) - 1) from rfl)
  have w1:IntKind.i64.wrap ((f.2.2.2.1.length:Int) - 1)=(f.2.2.2.1.length:Int) - 1:=jbn (by omega) (by have:=OK.out.cau;omega);with_reducible repeat' first|simp only[zQ,seval,X0,g0,bu,w1, *]|simp only[jab]|apply P3|intro _
  refine jbP ?_;with_reducible repeat' first|simp only[zQ,seval,X0,g0,bu, *]|simp only[jab]|apply P3|intro _
 by_cases h5:c=102
 ·subst h5
  have fin:=fun X=>fin _ X (show jdp p f 102 n=winB n 1 ((p.1.length:Int) - 1) from rfl)
  have w1:IntKind.i64.wrap ((p.1.length:Int) - 1)=(p.1.length:Int) - 1:=jbn (by omega) (by have:=OK.out.fns;omega);with_reducible repeat' first|simp only[zQ,seval,X0,g0,bu,w1, *]|simp only[jab]|apply P3|intro _
  refine jbP ?_;with_reducible repeat' first|simp only[zQ,seval,X0,g0,bu, *]|simp only[jab]|apply P3|intro _
 by_cases h6:c=108
 ·subst h6
  have fin:=fun X=>fin _ X (show jdp p f 108 n=winB n 0 f.2.1 from rfl)
  with_reducible repeat' first|simp only[zQ,seval,X0,g0,bu, *]|simp only[jab]|apply P3|intro _
  refine jbP ?_;with_reducible repeat' first|simp only[zQ,seval,X0,g0,bu, *]|simp only[jab]|apply P3|intro _
 by_cases h7:c=99
 ·subst h7
  have fin:=fun X=>fin _ X (show jdp p f 99 n=winB n 0 f.2.1 from rfl)
  with_reducible repeat' first|simp only[zQ,seval,X0,g0,bu, *]|simp only[jab]|apply P3|intro _
  refine jbP ?_;with_reducible repeat' first|simp only[zQ,seval,X0,g0,bu, *]|simp only[jab]|apply P3|intro _
 by_cases h8:c=110
 ·subst h8
  have fin:=fun X=>fin _ X (show jdp p f 110 n=winB n 0 f.2.1 from rfl)
  with_reducible repeat' first|simp only[zQ,seval,X0,g0,bu, *]|simp only[jab]|apply P3|intro _
  refine jbP ?_;with_reducible repeat' first|simp only[zQ,seval,X0,g0,bu, *]|simp only[jab]|apply P3|intro _
 ·have fin:=fun X=>fin _ X (show jdp p f c n=decide (n=0) by simp[jdp, *])
  with_reducible repeat' first|simp only[zQ,seval,X0,g0,bu,h0,h1,h2,h3,h4,h5,h6,h7,h8, *]|simp only[jab]|apply P3|intro _
/-! ### What is caught -/
theorem f_cc_ifi:jag Tryz.prog 130=some ⟨19,c_if 1 none,[.tmp 4]⟩:=by kernel_rfl
theorem f_cc_cfi:jag Tryz.prog 136=some ⟨9,c_cf 130,[.tmp 4]⟩:=by kernel_rfl
def cauB (f:FnT)(c:Int):Bool:= !winB c 0 (f.2.1 - 1)&& !winB c (-(f.2.2.2.1.length:Int)) (-1)
theorem jvh (ok:PfOk p f){i:Nat}(hi:H[i]?=some (.box (eLk p f))){c:Int}(hK:K (ZBo (cauB f c)) H):ZC (XC tb nd) (jag Tryz.prog) 137 [Z64 c,.ptr i 0] L H K:=by
 refine K6 Gh.no (jaf (by decide)) jnm (by simp) fun hL=>?_
 simp only[jhC,kkP];have OK:=Z4 ok;have HK:=Z4 hK;have un:unV .neg (.int .i64 (f.2.2.2.1.length:Int))=some (.int .i64 (-(f.2.2.2.1.length:Int))):=by
  have:=ok.cau;simp only[unV];rw[jbn (by omega) (by omega)];simp
 clear hK ok;have fin: ∀b,cauB f c=b→Fin H (ZBo b) H K:=fun b h=>Fin.keep (by rw[←h];exact HK.out)
 with_reducible repeat' first|simp only[zQ,seval,X0,hi,un, *]|simp only[jab]|apply P3|intro _
 refine reg_z OK.out ?_
 cases h1:winB c 0 (f.2.1 - 1) with
 |true=>
  have fin:=fin false (by simp[cauB,h1]);with_reducible repeat' first|simp only[zQ,seval,X0,hi,un, *]|simp only[jab]|apply P3|intro _
 |false=>
  have fin:=fin (!winB c (-(f.2.2.2.1.length:Int)) (-1)) (by simp[cauB,h1]);with_reducible repeat' first|simp only[zQ,seval,X0,hi,un, *]|simp only[jab]|apply P3|intro _
  refine jbP ?_;with_reducible repeat' first|simp only[zQ,seval,X0,hi,un, *]|simp only[jab]|apply P3|intro _
theorem caught_z (ok:PfOk p f){g:FnT}(hg:g.2.2.2.1.length≤100000000000000)(hK:K (ZBo (jlO f g.2.2.2.1)) H):ZC (XC tb nd) (jag Tryz.prog) 122 [.agg (eLk p f),.agg (eFn g)] L H K:=by
 refine K6 Gh.no (jaf (by decide)) jo1 (by simp) fun hL=>?_
 simp only[jjt,kkP];have g0: ∀A X,(H++(A::X))[H.length]?=some A:=fun A X=>jep
 have g1: ∀A B X,(H++(A::B::X))[H.length+1]?=some B:=fun A B X=>jup
 have fin: ∀X,Fin H (ZBo (!g.2.2.2.1.any (cauB f))) (H++X) K:=fun X=>finX rfl hK
 have OK:=Z4 ok;clear hK ok;with_reducible repeat' first|simp only[zQ,seval,X0,g0,g1, *]|simp only[jab]|apply P3|intro _
 refine ji4 (l:=g.2.2.2.1) (e:=eI) (arg:=fun c=>Z64 c) (p:=cauB f) f_cc_cfi (jaf (z:=Z64 0) (zs:=[Z64 0]) (by decide)) f_cc_ifi (jaf (z:=Z64 0) (zs:=[Z64 0]) (by decide)) (fun m _=>rfl) (by rw[jaM]) hg (fun m _ K hK=>jvh OK.out (g0 _ _) hK) ?_;with_reducible repeat' first|simp only[zQ,seval,X0,g0,g1, *]|simp only[jab]|apply P3|intro _
/-! ### An order -/
theorem jqr (op:Int):jhb op=[]∨ ∃a b c,jhb op=[a,b,c]:=by
 unfold jhb;split
 ·have key: ∀j:_root_.Fin 39,jjE.getD j.val []=[]∨ ∃a b c,jjE.getD j.val []=[a,b,c]:=by
   intro j;have:(decide ((jjE.getD j.val []).length=0∨(jjE.getD j.val []).length=3))=true:=by revert j;decide+kernel
   rcases of_decide_eq_true this with h|h
   ·exact .inl (Y9 h)
   ·right
    match hl:jjE.getD j.val [],h with
    |[a,b,c],_=>exact⟨a,b,c,rfl⟩
  exact key ⟨op.toNat,by omega⟩
 ·exact .inl rfl
def ordX (p:PrT)(f:FnT)(at_:Nat)(i:InsT):Bool:=if i.1=14 then decide (i.2.1≤at_) else if i.1=19 then decide (i.2.2.1+i.2.2.2.1≤f.re) else if i.1=27 then winB (i.2.2.1+i.2.2.2.1) 0 (f.re - 1)
     else if i.1=26 then (match p.1[i.2.2.1.toNat]? with|some g=>jlO f g.cau|none=>false) else if i.1=32 then f.ge else true
theorem jim {n lo hi:Int}(h:winB n lo hi=true):lo≤n∧n≤hi:=of_decide_eq_true h
theorem order_z (ok:PfOk p f){at_:Nat}{op a b c ln:Int}(hK:K (ZBo (jdJ p f at_ (op,a,b,c,ln))) H):ZC (XC tb nd) (jag Tryz.prog) 86 [.agg (eLk p f),Z64 at_,.agg [Z64 op,Z64 a,Z64 b,Z64 c,Z64 ln]] L H K:=by
 refine K6 Gh.no (jaf (by decide)) jrV (by simp) fun hL=>?_
 simp only[jk3,kkP];have g0: ∀A X,(H++(A::X))[H.length]?=some A:=fun A X=>jep
 have g1: ∀A B X,(H++(A::B::X))[H.length+1]?=some B:=fun A B X=>jup
 have OK:=Z4 ok;have HK:=Z4 hK;clear hK ok;have fin: ∀b0 X,jdJ p f at_ (op,a,b,c,ln)=b0→Fin H (ZBo b0) (H++X) K:=fun b X h=>finX rfl (by rw[←h];exact HK.out)
 with_reducible repeat' first|simp only[zQ,seval,X0,g0,g1, *]|simp only[jab]|apply P3|intro _
 refine form_z ?_;rcases jqr op with hf|⟨x,y,z,hf⟩
 ·have fin:=fun X=>fin false X (by simp only[jdJ,hf])
  have hb:binV .eql (.string ⟨(jhb op).toArray⟩) (.string ⟨#[]⟩)=some (.bool true):=by rw[hf];simp[binV]
  clear hf;with_reducible repeat' first|simp only[zQ,seval,X0,g0,g1,hb, *]|simp only[jab]|apply P3|intro _
 have hb:binV .eql (.string ⟨(jhb op).toArray⟩) (.string ⟨#[]⟩)=some (.bool false):=by rw[hf];simp[binV]
 obtain⟨s,hs⟩: ∃s:ByteArray,s=⟨(jhb op).toArray⟩:=⟨_,rfl⟩;have i0:s[0]?=some x:=by rw[hs,hf];rfl
 have i1:s[1]?=some y:=by rw[hs,hf];rfl
 have i2:s[2]?=some z:=by rw[hs,hf];rfl
 rw[←hs] at hb ⊢;clear hs;have n0:natZ (Z64 0)=some 0:=rfl;have n1:natZ (Z64 1)=some 1:=rfl;have n2:natZ (Z64 2)=some 2:=rfl;have ho:jdJ p f at_ (op,a,b,c,ln)=(winB ln 0 2000&&jdp p f x.toNat a&&jdp p f y.toNat b&&jdp p f z.toNat c&&ordX p f at_ (op,a,b,c,ln)):=by simp only[jdJ,hf,ordX];try rfl
 have HF:=Z4 hf;have HO:=Z4 ho;clear hf ho
 cases h1:winB ln 0 2000 with
 |false=>
  have fin:=fun X=>fin false X (by rw[HO.out,h1];simp)
  with_reducible repeat' first|simp only[zQ,seval,X0,g0,g1,hb, *]|simp only[jab]|apply P3|intro _
  refine jbP ?_;with_reducible repeat' first|simp only[zQ,seval,X0,g0,g1,hb, *]|simp only[jab]|apply P3|intro _
 |true=>
 cases h2:jdp p f x.toNat a with
 |false=>
  have fin:=fun X=>fin false X (by rw[HO.out,h1,h2];simp)
  with_reducible repeat' first|simp only[zQ,seval,X0,g0,g1,hb, *]|simp only[jab]|apply P3|intro _
  refine jbP ?_;with_reducible repeat' first|simp only[zQ,seval,X0,g0,g1,hb,i0,n0,Value.string.injEq, *]|simp only[jab]|apply P3|intro _
  refine jeW OK.out ?_;with_reducible repeat' first|simp only[zQ,seval,X0,g0,g1,hb, *]|simp only[jab]|apply P3|intro _
 |true=>
 cases h3:jdp p f y.toNat b with
 |false=>
  have fin:=fun X=>fin false X (by rw[HO.out,h1,h2,h3];simp)
  with_reducible repeat' first|simp only[zQ,seval,X0,g0,g1,hb, *]|simp only[jab]|apply P3|intro _
  refine jbP ?_;with_reducible repeat' first|simp only[zQ,seval,X0,g0,g1,hb,i0,n0,Value.string.injEq, *]|simp only[jab]|apply P3|intro _
  refine jeW OK.out ?_;with_reducible repeat' first|simp only[zQ,seval,X0,g0,g1,hb,i1,n1,Value.string.injEq, *]|simp only[jab]|apply P3|intro _
  refine jeW OK.out ?_;with_reducible repeat' first|simp only[zQ,seval,X0,g0,g1,hb, *]|simp only[jab]|apply P3|intro _
 |true=>
 cases h4:jdp p f z.toNat c with
 |false=>
  have fin:=fun X=>fin false X (by rw[HO.out,h1,h2,h3,h4];simp)
  with_reducible repeat' first|simp only[zQ,seval,X0,g0,g1,hb, *]|simp only[jab]|apply P3|intro _
  refine jbP ?_;with_reducible repeat' first|simp only[zQ,seval,X0,g0,g1,hb,i0,n0,Value.string.injEq, *]|simp only[jab]|apply P3|intro _
  refine jeW OK.out ?_;with_reducible repeat' first|simp only[zQ,seval,X0,g0,g1,hb,i1,n1,Value.string.injEq, *]|simp only[jab]|apply P3|intro _
  refine jeW OK.out ?_;with_reducible repeat' first|simp only[zQ,seval,X0,g0,g1,hb,i2,n2,Value.string.injEq, *]|simp only[jab]|apply P3|intro _
  refine jeW OK.out ?_;with_reducible repeat' first|simp only[zQ,seval,X0,g0,g1,hb, *]|simp only[jab]|apply P3|intro _
 |true=>
 have fin:=fun b0 X h=>fin b0 X (by rw[HO.out,h1,h2,h3,h4,Bool.and_self,Bool.true_and];exact h)
 have sm: ∀b0 X,ordX p f at_ (op,a,b,c,ln)=b0→Fin H (ZBo b0) (H++X) K:=fin
 have H4:=Z4 h4;have H3:=Z4 h3;with_reducible repeat' first|simp only[zQ,seval,X0,g0,g1,hb, *]|simp only[jab]|apply P3|intro _
 refine jbP ?_;with_reducible repeat' first|simp only[zQ,seval,X0,g0,g1,hb,i0,n0,Value.string.injEq, *]|simp only[jab]|apply P3|intro _
 refine jeW OK.out ?_;with_reducible repeat' first|simp only[zQ,seval,X0,g0,g1,hb,i1,n1,Value.string.injEq, *]|simp only[jab]|apply P3|intro _
 refine jeW OK.out ?_;with_reducible repeat' first|simp only[zQ,seval,X0,g0,g1,hb,i2,n2,Value.string.injEq, *]|simp only[jab]|apply P3|intro _
 refine jeW OK.out ?_;clear h1 h2 i0 i1 i2 fin;by_cases e1:op=14
 ·subst e1
  have fin:=fun X=>sm _ X (show ordX p f at_ (14,a,b,c,ln)=decide (a≤at_) from rfl)
  with_reducible repeat' first|simp only[zQ,seval,X0,g0,g1,hb, *]|simp only[jab]|apply P3|intro _
 by_cases e2:op=19
 ·subst e2
  have fin:=fun X=>sm _ X (show ordX p f at_ (19,a,b,c,ln)=decide (b+c≤f.2.1) from rfl)
  have hyz:[x,y,z]=[114,108,110]:=HF.out.symm.trans rfl;have hb1:0≤b∧b≤f.2.1:=jim (by have:=H3.out;rw[(by injection hyz with _ h;injection h:y=108)] at this;exact this);have hc1:0≤c∧c≤f.2.1:=jim (by have:=H4.out;rw[(by injection hyz with _ h;injection h with _ h;injection h:z=110)] at this;exact this);have w1:IntKind.i64.wrap (b+c)=b+c:=jbn (by omega) (by have:=OK.out.re;omega);clear hyz hb1 hc1;with_reducible repeat' first|simp only[zQ,seval,X0,g0,g1,hb,w1, *]|simp only[jab]|apply P3|intro _
 by_cases e3:op=27
 ·subst e3
  have fin:=fun X=>sm _ X (show ordX p f at_ (27,a,b,c,ln)=winB (b+c) 0 (f.2.1 - 1) from rfl)
  have hyz:[x,y,z]=[114,99,110]:=HF.out.symm.trans rfl;have hb1:0≤b∧b≤f.2.1:=jim (by have:=H3.out;rw[(by injection hyz with _ h;injection h:y=99)] at this;exact this);have hc1:0≤c∧c≤f.2.1:=jim (by have:=H4.out;rw[(by injection hyz with _ h;injection h with _ h;injection h:z=110)] at this;exact this);have w1:IntKind.i64.wrap (b+c)=b+c:=jbn (by omega) (by have:=OK.out.re;omega);clear hyz hb1 hc1;with_reducible repeat' first|simp only[zQ,seval,X0,g0,g1,hb,w1, *]|simp only[jab]|apply P3|intro _
  refine reg_z OK.out ?_;with_reducible repeat' first|simp only[zQ,seval,X0,g0,g1,hb, *]|simp only[jab]|apply P3|intro _
 by_cases e4:op=26
 ·subst e4
  have hyz:[x,y,z]=[114,102,45]:=HF.out.symm.trans rfl;have hb1:1≤b∧b≤(p.1.length:Int) - 1:=jim (by have:=H3.out;rw[(by injection hyz with _ h;injection h:y=102)] at this;exact this);obtain⟨j,rfl⟩: ∃j:Nat,b=(j:Int):=⟨b.toNat,by omega⟩;have hj:j<p.1.length:=by omega
  obtain⟨g,hg⟩: ∃g,p.1[j]?=some g:=⟨_,U1 hj⟩;have fin := fun X => sm _ X (show ordX p f at_ (26, a, (j : Int), c, ln) = jlO f g.2.2.2.1 by
   simp only[ordX,Int.toNat_natCast,hg];rfl)
  have hgm:=R5 hg;clear hyz hb1;with_reducible repeat' first|simp only[zQ,seval,X0,g0,g1,hb,hg, *]|simp only[jab]|apply P3|intro _
  refine caught_z OK.out (OK.out.caus _ hgm) ?_;with_reducible repeat' first|simp only[zQ,seval,X0,g0,g1,hb, *]|simp only[jab]|apply P3|intro _
 by_cases e5:op=32
 ·subst e5
  have fin:=fun X=>sm _ X (show ordX p f at_ (32,a,b,c,ln)=f.2.2.1 from rfl)
  with_reducible repeat' first|simp only[zQ,seval,X0,g0,g1,hb, *]|simp only[jab]|apply P3|intro _
 ·have fin:=fun X=>sm true X (by simp only[ordX,if_neg e1,if_neg e2,if_neg e3,if_neg e4,if_neg e5])
  with_reducible repeat' first|simp only[zQ,seval,X0,g0,g1,hb,e1,e2,e3,e4,e5, *]|simp only[jab]|apply P3|intro _
end
section
open Go Go.RowKit
variable {tb:List (FuncId×Bool)}{nd:Bool}{L:Nat→Bool}{B X:ZH}{K:ZV→ZH→Prop}{f:FnT}{w:Wk}{gt a:Nat}{oz:List ZV}{td:List (List ZV)}{z:ZV}{l:List (Int×Int)}
def TryZ (z:ZV)(l:List (Int×Int)):Prop:=(z= .nil∧l=[])∨z= .fz 2 false (l.map eVl)
theorem TryZ.rows (h:TryZ z l)(H:ZH):ja2 H 2 z=some (l.map eVl):=by
 rcases h with⟨rfl,rfl⟩|rfl
 ·rfl
 ·rw[jaM]
theorem TryZ.len (h:TryZ z l)(H:ZH):lenZ H z=some l.length:=by have:=ja3 (h.rows H);rwa [P2] at this
theorem TryZ.cell (h:TryZ z l):z.isCell=true:=jtU (h.rows [])
theorem TryZ.cells (h:TryZ z l):z.cells=[z]:=by rcases h with⟨rfl,_⟩|rfl<;>rfl
theorem TryZ.pure (h:TryZ z l):jbR z=true:=by rcases h with⟨rfl,_⟩|rfl<;>rfl
def OzOk (oz:List ZV)(out:List (List (Int×Int))):Prop:=oz.length=out.length∧ ∀(i:Nat) z l,oz[i]?=some z→out[i]?=some l→TryZ z l
theorem OzOk.set {out:List (List (Int×Int))}(h:OzOk oz out)(a:Nat)(hz:TryZ z l):OzOk (oz.set a z) (out.set a l):=by
 refine⟨by simp[h.1],fun i y m hy hm=>?_⟩;rw[List.getElem?_set] at hy hm;by_cases hi:a=i
 ·subst hi
  rw[if_pos rfl] at hy hm;by_cases ha:a<oz.length
  ·rw[if_pos ha] at hy
   rw[if_pos (by rw[←h.1];exact ha)] at hm;injection hy with hy;injection hm with hm
   subst hy;subst hm;exact hz
  ·rw[if_neg ha] at hy;cases hy
 ·rw[if_neg hi] at hy hm
  exact h.2 i y m hy hm
def TdOk (td:List (List ZV))(todo:List Nat):Prop:=todo.length≤td.length∧td.take todo.length=todo.map fun (n:Nat)=>[Z64 (n:Int)]
abbrev wBox (B:ZH)(f:FnT)(n gt m:Nat)(bad:Bool):List ZV:=[Z64 f.1,Z64 f.2.1,ZBo f.2.2.1,.fz 1 false (f.2.2.2.1.map eI),.fz 5 false (f.2.2.2.2.map eIns),.own B.length 0 0 n true,.own (B.length+1) 0 0 n true,.own (B.length+2) gt 0 m false,ZBo bad]
abbrev WH (B:ZH)(f:FnT)(gt:Nat)(oz:List ZV)(td:List (List ZV))(w:Wk)(X:ZH):ZH:=B++(.grow 0 1 (w.seen.map eB):: .grow 0 1 (oz.map fun z=>[z]):: .grow gt 1 td:: .box (wBox B f f.2.2.2.2.length gt w.todo.length w.bad)::X)
section
variable {Y:ZH}{P Q R S T:ZB}
theorem jcr:(B++(P::Y))[B.length]?=some P:=by rw[N0 (V2 _),B4];rfl
theorem jeF:(B++(P::Q::Y))[B.length+1]?=some Q:=by rw[N0 (by omega),D8];rfl
theorem jfV:(B++(P::Q::R::Y))[B.length+2]?=some R:=by rw[N0 (by omega),D8];rfl
theorem jsa:(B++(P::Q::R::S::Y))[B.length+3]?=some S:=by rw[N0 (by omega),D8];rfl
theorem jjG:(B++(P::Y)).set B.length T=B++(T::Y):=by rw[B7 _ _ (V2 _),B4];rfl
theorem jhO:(B++(P::Q::Y)).set (B.length+1) T=B++(P::T::Y):=by rw[B7 _ _ (by omega),D8];rfl
theorem jjF:(B++(P::Q::R::Y)).set (B.length+2) T=B++(P::Q::T::Y):=by rw[B7 _ _ (by omega),D8];rfl
theorem jvp:(B++(P::Q::R::S::Y)).set (B.length+3) T=B++(P::Q::R::T::Y):=by rw[B7 _ _ (by omega),D8];rfl
end
theorem jfz (hL: ∀k,L (B.length+k)=true)(hn:f.2.2.2.2.length≤600)(ok:w.Ok f.2.2.2.2.length)(ho:OzOk oz w.out)(ht:TdOk td w.todo)(hz:TryZ z l)(hl:l.length≤1000)(htl:w.todo.length≤100000)
  (hK: ∀gt' oz' td',OzOk oz' (w.come f.2.2.2.2.length a l).out→TdOk td' (w.come f.2.2.2.2.length a l).todo→K .no (WH B f gt' oz' td' (w.come f.2.2.2.2.length a l) X)):
  ZC (XC tb nd) (jag Tryz.prog) 101 [.ptr (B.length+3) 0,Z64 a,z] L (WH B f gt oz td w X) K:=by
 refine K6 Gh.no (jaf (by decide)) juX (by simp) fun hLn=>?_
 simp only[jnU,kkP];have g0: ∀P Y,(B++(P::Y))[B.length]?=some P:=fun P Y=>jcr
 have g1: ∀P Q Y,(B++(P::Q::Y))[B.length+1]?=some Q:=fun P Q Y=>jeF
 have g2: ∀P Q R Y,(B++(P::Q::R::Y))[B.length+2]?=some R:=fun P Q R Y=>jfV
 have g3: ∀P Q R S Y,(B++(P::Q::R::S::Y))[B.length+3]?=some S:=fun P Q R S Y=>jsa
 have s0: ∀P T Y,(B++(P::Y)).set B.length T=B++(T::Y):=fun P T Y=>jjG
 have s1: ∀P Q T Y,(B++(P::Q::Y)).set (B.length+1) T=B++(P::T::Y):=fun P Q T Y=>jhO
 have s2: ∀P Q R T Y,(B++(P::Q::R::Y)).set (B.length+2) T=B++(P::Q::T::Y):=fun P Q R T Y=>jjF
 have s3: ∀P Q R S T Y,(B++(P::Q::R::S::Y)).set (B.length+3) T=B++(P::Q::R::T::Y):=fun P Q R S T Y=>jvp
 have r0: ∀(S:ZS) (h:ZH),jcn S h []=some .no:=fun _ _=>rfl
 have hl0:L B.length=true:=hL 0;have hl1:L (B.length+1)=true:=hL 1;have hl2:L (B.length+2)=true:=hL 2;have hl3:L (B.length+3)=true:=hL 3;have lz: ∀H,lenZ H z=some l.length:=fun H=>hz.len H
 have cz:=hz.cell;have czz:=hz.cells;have HZ:=Z4 hz;have HN:=Z4 hn;have HOK:=Z4 ok;have HO:=Z4 ho;have HT:=Z4 ht;have HK:=Z4 hK;have HTL:=Z4 htl;have HLL:=Z4 hl;clear hK hz hn ok ho ht htl hL hl;have bad : w.come f.2.2.2.2.length a l = { w with bad := true } → Fin (WH B f gt oz td w X) .no (B ++ (.grow 0 1 (w.seen.map eB) :: .grow 0 1 (oz.map fun z => [z]) :: .grow gt 1 td :: .box (wBox B f f.2.2.2.2.length gt w.todo.length true) :: X)) K := fun h => Fin.keep (by
  have:=HK.out gt oz td;rw[h] at this;exact this HO.out HT.out)
 by_cases h1:f.2.2.2.2.length≤a
 ·have fin:=bad (by unfold Wk.come;rw[if_pos (.inl h1)])
  have h1':(f.2.2.2.2.length:Int)≤(a:Int):=by omega
  clear h1 bad;with_reducible repeat' first|simp only[zQ,seval,X0,r0,g3,s3,hl3,h1', *]|simp only[jab]|apply P3|intro _
 have h1': ¬(f.2.2.2.2.length:Int)≤(a:Int):=by omega
 by_cases h2:20<l.length
 ·have fin:=bad (by unfold Wk.come;rw[if_pos (.inr h2)])
  have h2':(20:Int)<(l.length:Int):=by omega
  clear h1 h2 bad;with_reducible repeat' first|simp only[zQ,seval,X0,r0,g3,s3,hl3,h1',h2',lz, *]|simp only[jab]|apply P3|intro _
 have h2': ¬(20:Int)<(l.length:Int):=by omega
 have ha:a<f.2.2.2.2.length:=by omega
 have hsl:w.seen.length=f.2.2.2.2.length:=HOK.out.seen;have hol:oz.length=f.2.2.2.2.length:=HO.out.1.trans HOK.out.out;obtain⟨b,hb⟩: ∃b,w.seen[a]?=some b:=⟨_,U1 (by omega)⟩;obtain⟨y,hy⟩: ∃y,oz[a]?=some y:=⟨_,U1 (by omega)⟩;obtain⟨m,hm⟩: ∃m,w.out[a]?=some m:=⟨_,U1 (by rw[HOK.out.out];omega)⟩;have hym:=HO.out.2 a y m hy hm;have hbd:w.seen.getD a true=b:=by rw[C0,hb];rfl
 have hmd:w.out.getD a []=m:=by rw[C0,hm];rfl
 have e0: ∀Y,jdd (B++(.grow 0 1 (w.seen.map eB)::Y)) 1 a (.own B.length 0 0 f.2.2.2.2.length true)=some (.eptr B.length 0 a 0):=fun Y=>by
  rw[jbQ];exact⟨_,g0 _ _,by simp[hsl],ha,by simp⟩
 have e1: ∀P Y,jdd (B++(P:: .grow 0 1 (oz.map fun z=>[z])::Y)) 1 a (.own (B.length+1) 0 0 f.2.2.2.2.length true)=some (.eptr (B.length+1) 0 a 0):=fun P Y=>by
  rw[jbQ];exact⟨_,g1 _ _ _,by simp[hol],ha,by simp⟩
 have d0: ∀Y,ldZ (B++(.grow 0 1 (w.seen.map eB)::Y)) none (.eptr B.length 0 a 0)=some (ZBo b):=fun Y=>by
  rw[jbS];exact⟨_,_,eB b,g0 _ _,by rw[U8,hb];rfl,rfl⟩
 have d1: ∀P Y,ldZ (B++(P:: .grow 0 1 (oz.map fun z=>[z])::Y)) none (.eptr (B.length+1) 0 a 0)=some y:=fun P Y=>by
  rw[jbS];exact⟨_,_,[y],g1 _ _ _,by rw[U8,hy];rfl,rfl⟩
 cases b with
 |true=>
  by_cases he:m=l
  ·have fin : Fin (WH B f gt oz td w X) .no (WH B f gt oz td w X) K := Fin.keep (by
    have:=HK.out gt oz td;unfold Wk.come at this;rw[if_neg (by omega),hbd,if_neg (by decide),hmd,if_pos he] at this;exact this HO.out HT.out)
   have heq:decide (m=l)=true:=decide_eq_true he;clear h1 h2 bad hbd hmd hb hy hm hsl hol;with_reducible repeat' first|simp only[zQ,seval,X0,r0,g3,s3,hl3,h1',h2',lz,e0,e1,d0,d1, *]|simp only[jab]|apply P3|intro _
   refine eqt_z (hym.rows _) (HZ.out.rows _) (by rw[he];have:=HLL.out;omega) (by have:=HLL.out;omega) ?_;with_reducible repeat' first|simp only[zQ,seval,X0,r0,heq, *]|simp only[jab]|apply P3|intro _
  ·have fin:=bad (by unfold Wk.come;rw[if_neg (by omega),hbd,if_neg (by decide),hmd,if_neg he])
   have heq:decide (m=l)=false:=decide_eq_false he;have hml:m.length≤100000000000000:=by have:=HOK.out.short m (R5 hm);omega
   clear h1 h2 bad hbd hmd hb hy hm hsl hol;with_reducible repeat' first|simp only[zQ,seval,X0,r0,g3,s3,hl3,h1',h2',lz,e0,e1,d0,d1, *]|simp only[jab]|apply P3|intro _
   refine eqt_z (hym.rows _) (HZ.out.rows _) hml (by have:=HLL.out;omega) ?_;with_reducible repeat' first|simp only[zQ,seval,X0,r0,g3,s3,hl3,heq, *]|simp only[jab]|apply P3|intro _
 |false=>
  have hwc:w.come f.2.2.2.2.length a l={ w with seen:=w.seen.set a true,out:=w.out.set a l,todo:=w.todo++[a] }:=by unfold Wk.come;rw[if_neg (by omega),hbd,if_pos rfl]
  have st0: ∀Y,stZ L (B++(.grow 0 1 (w.seen.map eB)::Y)) [ZBo true] (.eptr B.length 0 a 0)=some (B++(.grow 0 1 ((w.seen.set a true).map eB)::Y)):=fun Y=>by
   simp only[stZ,g0,if_true,U8,hb,U9];rw[if_pos ⟨hl0,by decide⟩,s0,List.map_set];rfl
  have st1: ∀P Y,stZ L (B++(P:: .grow 0 1 (oz.map fun z=>[z])::Y)) [z] (.eptr (B.length+1) 0 a 0)=some (B++(P:: .grow 0 1 ((oz.set a z).map fun z=>[z])::Y)):=fun P Y=>by
   simp only[stZ,g1,if_true,U8,hy,U9];rw[if_pos ⟨hl1,by simp⟩,s1,List.map_set];rfl
  have ap: ∀P Q Y,appZ L (B++(P::Q:: .grow gt 1 td::Y)) 1 8 [[Z64 a]] (.own (B.length+2) gt 0 w.todo.length false)=some (.own (B.length+2) (gt+1) 0 (w.todo.length+1) false,B++(P::Q:: .grow (gt+1) 1 (td.take w.todo.length++[[Z64 a]])::Y)):=fun P Q Y=>by
   rw[jcU];refine⟨_,g2 _ _ _ _,by have:=HT.out.1;omega,by have:=HTL.out;unfold reach;simp;omega,hl2,rfl,?_⟩;rw[s2,W1]
  have fin : Fin (WH B f gt oz td w X) .no (B ++ (.grow 0 1 ((w.seen.set a true).map eB) :: .grow 0 1 ((oz.set a z).map fun z => [z]) :: .grow (gt + 1) 1 (td.take w.todo.length ++ [[Z64 a]]) :: .box (wBox B f f.2.2.2.2.length (gt + 1) (w.todo.length + 1) w.bad) :: X)) K := Fin.keep (by
   have:=HK.out (gt+1) (oz.set a z) (td.take w.todo.length++[[Z64 a]]);rw[hwc] at this;have h4 := this (HO.out.set a HZ.out) ⟨by simp; have := HT.out.1; omega, by
    rw[I5 (by simp;omega),HT.out.2];simp⟩
   rw[show w.todo.length+1=(w.todo++[a]).length by simp];exact h4)
  clear h1 h2 bad hbd hmd hb hy hm hsl hol hwc;with_reducible repeat' first|simp only[zQ,seval,X0,r0,g3,s3,hl3,h1',h2',lz,e0,e1,d0,st0,st1,ap,cz,czz, *]|simp only[jab]|apply P3|intro _
end
section
open Go Go.RowKit
variable {tb:List (FuncId×Bool)}{nd:Bool}{L:Nat→Bool}{B X:ZH}{K:ZV→ZH→Prop}{f:FnT}{w:Wk}{gt a:Nat}{oz:List ZV}{td:List (List ZV)}{z:ZV}{l:List (Int×Int)}
theorem jlJ:jag Tryz.prog 128=some ⟨8,c_cl 2 16,[.tmp 2]⟩:=by kernel_rfl
theorem juz {l:List (Int×Int)}:(l.map eVl).flatten.all jbR=true:=by
 induction l with
 |nil=>rfl
 |cons a l ih=>simp[B6,D6,List.all_append,ih,jbR]
theorem clt_e2 {H:ZH}(hK1:K .nil H)(hK2:K (.fz 2 true []) H):ZC (XC tb nd) (jag Tryz.prog) 128 [.fz 2 false []] L H K:=by
 refine Z9 Gh.no (jaf (by decide)) jlJ (by simp) ?_;simp only[c_cl,kkP];have fin1:Fin H .nil H K:=Fin.keep hK1;have fin2:Fin H (.fz 2 true []) H K:=Fin.keep hK2;have hnz: ∀b,nilZ H 0 (.fz 2 false [])=some b↔False:=fun b=>by simp[nilZ]
 have hE: ∀L H v H',appZ L H 2 16 [] (.fz 2 true [])=some (v,H')↔ .fz 2 true []=v∧H=H':=fun L H v H'=>by
  simp only[appZ];rw[if_pos ⟨trivial,by simp⟩];simp
 clear hK1 hK2;with_reducible repeat' first|simp only[zQ,seval,X0,hnz,hE, *]|simp only[jab]|apply P3|intro _
 all_goals exact⟨_,rfl⟩
theorem clt_z {H:ZH}(hz:TryZ z l)(hl:l.length≤1000)(h0:l=[]→K .nil H∧K (.fz 2 true []) H)(h1:l≠[]→K (.own H.length 0 0 l.length false) (H++[.grow 0 2 (l.map eVl)])):ZC (XC tb nd) (jag Tryz.prog) 128 [z] L H K:=by
 rcases hz with⟨rfl,rfl⟩|rfl
 ·exact clg_nil jlJ (jaf (z:= .nil) (zs:=[]) (by decide)) (h0 rfl).1
 ·cases l with
  |nil=>exact clt_e2 (h0 rfl).1 (h0 rfl).2
  |cons x l=>
   refine clg_own jlJ (jaf (z:= .nil) (zs:=[]) (by decide)) (by simp at hl ⊢;unfold reach;omega) ?_;have:=h1 (by simp);simpa using this
theorem b_atX {P Q R S T:ZB}{Y:ZH}:(B++(P::Q::R::S::(X++(T::Y))))[B.length+(X.length+1+1+1+1)]?=some T:=by
 rw[N0 (by omega),D8];simp
theorem b_atX1 {P Q R S T U:ZB}{Y:ZH}:(B++(P::Q::R::S::(X++(T::U::Y))))[B.length+(X.length+1+1+1+1+1)]?=some U:=by
 rw[N0 (by omega),D8];simp
theorem b_stX1 {P Q R S T U V:ZB}{Y:ZH}:(B++(P::Q::R::S::(X++(T::U::Y)))).set (B.length+(X.length+1+1+1+1+1)) V=B++(P::Q::R::S::(X++(T::V::Y))):=by
 rw[B7 _ _ (by omega),D8];simp
theorem num0 {S:ZS}{d:Nat}:numZ S d none=some d:=rfl
theorem num1 {S:ZS}{d:Nat}{x:Opd}:numZ S d (some x)=(zev S x).bind natZ:=by
 simp only[numZ];cases zev S x<;>rfl
theorem jgK {n:Nat}:(w.come n a l).todo.length≤w.todo.length+1:=by
 unfold Wk.come;split
 ·simp
 split
 ·simp
 split<;>simp
theorem from_z (hL: ∀k,L (B.length+k)=true)(hn:f.2.2.2.2.length≤600)(hj:jvA f.2.2.2.2)(ok:w.Ok f.2.2.2.2.length)(ho:OzOk oz w.out)(ht:TdOk td w.todo)(ha:a<f.2.2.2.2.length)(htl:w.todo.length≤90000)
  (hK: ∀gt' oz' td' X',OzOk oz' (w.from f.2.2.2.2 a).out→TdOk td' (w.from f.2.2.2.2 a).todo→K .no (WH B f gt' oz' td' (w.from f.2.2.2.2 a) X')):
  ZC (XC tb nd) (jag Tryz.prog) 102 [.ptr (B.length+3) 0,Z64 a] L (WH B f gt oz td w X) K:=by
 refine K6 ⟨[],[],[56]⟩ (jaf (by decide)) juV (by simp) fun hLn=>?_
 simp only[jnS,kkP];have g0: ∀P Y,(B++(P::Y))[B.length]?=some P:=fun P Y=>jcr
 have g1: ∀P Q Y,(B++(P::Q::Y))[B.length+1]?=some Q:=fun P Q Y=>jeF
 have g2: ∀P Q R Y,(B++(P::Q::R::Y))[B.length+2]?=some R:=fun P Q R Y=>jfV
 have g3: ∀P Q R S Y,(B++(P::Q::R::S::Y))[B.length+3]?=some S:=fun P Q R S Y=>jsa
 have s3: ∀P Q R S T Y,(B++(P::Q::R::S::Y)).set (B.length+3) T=B++(P::Q::R::T::Y):=fun P Q R S T Y=>jvp
 have gX: ∀P Q R S T Y,(B++(P::Q::R::S::(X++(T::Y))))[B.length+(X.length+1+1+1+1)]?=some T:=fun P Q R S T Y=>b_atX
 have gX1: ∀P Q R S T U Y,(B++(P::Q::R::S::(X++(T::U::Y))))[B.length+(X.length+1+1+1+1+1)]?=some U:=fun P Q R S T U Y=>b_atX1
 have sX1: ∀P Q R S T U V Y,(B++(P::Q::R::S::(X++(T::U::Y)))).set (B.length+(X.length+1+1+1+1+1)) V=B++(P::Q::R::S::(X++(T::V::Y))):=fun P Q R S T U V Y=>b_stX1
 have r0: ∀(S:ZS) (h:ZH),jcn S h []=some .no:=fun _ _=>rfl
 obtain⟨⟨op,A,B1,C1,ln⟩,hi⟩: ∃i,f.2.2.2.2[a]?=some i:=⟨_,U1 ha⟩;obtain⟨y,hy⟩: ∃y,oz[a]?=some y:=⟨_,U1 (by rw[ho.1,ok.out];exact ha)⟩;obtain⟨m,hm⟩: ∃m,w.out[a]?=some m:=⟨_,U1 (by rw[ok.out];exact ha)⟩;have hym:=ho.2 a y m hy hm;have hol:oz.length=f.2.2.2.2.length:=ho.1.trans ok.out;have e1: ∀P Y,jdd (B++(P:: .grow 0 1 (oz.map fun z=>[z])::Y)) 1 a (.own (B.length+1) 0 0 f.2.2.2.2.length true)=some (.eptr (B.length+1) 0 a 0):=fun P Y=>by
  rw[jbQ];exact⟨_,g1 _ _ _,by simp[hol],ha,by simp⟩
 have d1: ∀P Y,ldZ (B++(P:: .grow 0 1 (oz.map fun z=>[z])::Y)) none (.eptr (B.length+1) 0 a 0)=some y:=fun P Y=>by
  rw[jbS];exact⟨_,_,[y],g1 _ _ _,by rw[U8,hy];rfl,rfl⟩
 have hco:f.2.2.2.2.getD a (0,0,0,0,0)=(op,A,B1,C1,ln):=by rw[C0,hi];rfl
 have hmo:w.out.getD a []=m:=by rw[C0,hm];rfl
 have hml:m.length≤20:=ok.short m (R5 hm);have lt3:B.length+3<B.length+(X.length+1+1+1+1):=by omega
 have ex3: ∃x,List.map (fun z=>[z]) oz=x:=⟨_,rfl⟩;have w1:IntKind.i64.wrap ((a:Int)+1)=((a+1:Nat):Int):=by rw[jbn (by omega) (by omega)];rfl
 have hll: ∀H,lenZ H y=some m.length:=fun H=>hym.len H
 have hK2: ∀w' gt' oz' td' X',w.from f.2.2.2.2 a=w'→OzOk oz' w'.out→TdOk td' w'.todo→Fin (WH B f gt oz td w X) .no (WH B f gt' oz' td' w' X') K:=fun w' gt' oz' td' X' h h1 h2=>Fin.keep (by subst h;exact hK gt' oz' td' X' h1 h2)
 have hjm:=hj a _ hi;unfold Wk.from at hK2;simp only[hco,hmo] at hK2;have HK2:=Z4 hK2;have HL:=Z4 hL;have HN:=Z4 hn;have HOK:=Z4 ok;have HO:=Z4 ho;have HT:=Z4 ht;have HY:=Z4 hym;have HML:=Z4 hml;have HTL:=Z4 htl;have HJ:=Z4 hjm;have HA:=Z4 ha;have hlX:L (B.length+(X.length+1+1+1+1))=true:=hL _;clear hK hL hn ok ho ht hym hml htl hjm hK2 hj hm hy hol hmo hco hLn;rw[js4];refine zW_opsW ?_;by_cases h1:op=28
 ·subst h1
  have fin:=fun X'=>HK2.out w gt oz td X' (by simp) HO.out HT.out
  repeat' (first|(simp only[zQ,seval,X0,jdR,jdS,jdT,jdf,jcB,jdV,jdo,r0,g3,g1,e1,d1,hi,lt3,ex3,K8,K9,T5,T6,T7,T8, *])|(simp only[jlg,zgoO,zgoG,jew,jcB,ja8,zgoC])|(with_reducible apply P3)|(with_reducible intro _))
  all_goals first|exact lt3|exact ex3|exact ha|exact⟨_,rfl⟩|exact fin _|(simp[hlX];done)
 by_cases h2:op=29
 ·subst h2
  have fin:=fun X'=>HK2.out w gt oz td X' (by simp) HO.out HT.out
  repeat' (first|(simp only[zQ,seval,X0,jdR,jdS,jdT,jdf,jcB,jdV,jdo,r0,g3,g1,e1,d1,hi,lt3,ex3,K8,K9,T5,T6,T7,T8, *])|(simp only[jlg,zgoO,zgoG,jew,jcB,ja8,zgoC])|(with_reducible apply P3)|(with_reducible intro _))
  all_goals first|exact lt3|exact ex3|exact ha|exact⟨_,rfl⟩|exact fin _|(simp[hlX];done)
 by_cases h3:op=13
 ·subst h3
  obtain⟨j,rfl⟩: ∃j:Nat,A=(j:Int):=⟨A.toNat,by have:=(HJ.out.1 (.inl rfl)).1;simp only at this;omega⟩;have fin:=fun gt' oz' td' X'=>HK2.out (w.come f.2.2.2.2.length j m) gt' oz' td' X' (by simp)
  have FN:=Z4 fin;clear fin;repeat' (first|(simp only[zQ,seval,X0,jdR,jdS,jdT,jdf,jcB,jdV,jdo,r0,g3,g1,e1,d1,hi,lt3,ex3,K8,K9,T5,T6,T7,T8, *])|(simp only[jlg,zgoO,zgoG,jew,jcB,ja8,zgoC])|(with_reducible apply P3)|(with_reducible intro _))
  all_goals first|exact lt3|exact ex3|exact ha|exact⟨_,rfl⟩|(simp only[hlX,T9,L0];done)|skip
  refine jfz HL.out HN.out HOK.out HO.out HT.out HY.out (by have:=HML.out;omega) (by have:=HTL.out;omega) fun gt' oz' td' q1 q2=>?_
  have fin:=fun X'=>FN.out gt' oz' td' X' q1 q2
  clear q1 q2;with_reducible repeat' first|simp only[zQ,seval,X0,r0, *]|simp only[jab]|apply P3|intro _
  all_goals exact fin _
 by_cases h4:op=14
 ·subst h4
  obtain⟨j,rfl⟩: ∃j:Nat,A=(j:Int):=⟨A.toNat,by have:=(HJ.out.1 (.inr rfl)).1;simp only at this;omega⟩;have fin:=fun gt' oz' td' X'=>HK2.out (w.come f.2.2.2.2.length j m) gt' oz' td' X' (by simp)
  have FN:=Z4 fin;clear fin;repeat' (first|(simp only[zQ,seval,X0,jdR,jdS,jdT,jdf,jcB,jdV,jdo,r0,g3,g1,e1,d1,hi,lt3,ex3,K8,K9,T5,T6,T7,T8, *])|(simp only[jlg,zgoO,zgoG,jew,jcB,ja8,zgoC])|(with_reducible apply P3)|(with_reducible intro _))
  all_goals first|exact lt3|exact ex3|exact ha|exact⟨_,rfl⟩|(simp only[hlX,T9,L0];done)|skip
  refine jfz HL.out HN.out HOK.out HO.out HT.out HY.out (by have:=HML.out;omega) (by have:=HTL.out;omega) fun gt' oz' td' q1 q2=>?_
  have fin:=fun X'=>FN.out gt' oz' td' X' q1 q2
  clear q1 q2;with_reducible repeat' first|simp only[zQ,seval,X0,r0, *]|simp only[jab]|apply P3|intro _
  all_goals exact fin _
 by_cases h5:op=15
 ·subst h5
  obtain⟨j,rfl⟩: ∃j:Nat,B1=(j:Int):=⟨B1.toNat,by have:=(HJ.out.2 (.inl rfl)).1;simp only at this;omega⟩;have fin:=fun gt' oz' td' X'=>HK2.out ((w.come f.2.2.2.2.length j m).come f.2.2.2.2.length (a+1) m) gt' oz' td' X' (by simp)
  have FN:=Z4 fin;clear fin;repeat' (first|(simp only[zQ,seval,X0,jdR,jdS,jdT,jdf,jcB,jdV,jdo,r0,g3,g1,e1,d1,hi,lt3,ex3,K8,K9,T5,T6,T7,T8, *])|(simp only[jlg,zgoO,zgoG,jew,jcB,ja8,zgoC])|(with_reducible apply P3)|(with_reducible intro _))
  all_goals first|exact lt3|exact ex3|exact ha|exact⟨_,rfl⟩|(simp only[hlX,T9,L0];done)|skip
  refine jfz HL.out HN.out HOK.out HO.out HT.out HY.out (by have:=HML.out;omega) (by have:=HTL.out;omega) fun gt' oz' td' q1 q2=>?_
  have Q1:=Z4 q1;have Q2:=Z4 q2;clear q1 q2;with_reducible repeat' first|simp only[zQ,seval,X0,r0,w1, *]|simp only[jab]|apply P3|intro _
  refine jfz HL.out HN.out (HOK.out.come _ _).1 Q1.out Q2.out HY.out (by have:=HML.out;omega) (by have:=HTL.out;have:=jgK (w:=w) (n:=f.2.2.2.2.length) (a:=j) (l:=m);omega) fun gt' oz' td' q1 q2=>?_
  have fin:=fun X'=>FN.out gt' oz' td' X' q1 q2
  clear q1 q2;with_reducible repeat' first|simp only[zQ,seval,X0,r0, *]|simp only[jab]|apply P3|intro _
  all_goals exact fin _
 by_cases h6:op=30
 ·subst h6
  obtain⟨j,rfl⟩: ∃j:Nat,B1=(j:Int):=⟨B1.toNat,by have:=(HJ.out.2 (.inr rfl)).1;simp only at this;omega⟩;have fin:=fun gt' oz' td' X'=>HK2.out ((w.come f.2.2.2.2.length j m).come f.2.2.2.2.length (a+1) (m++[(A,(j:Int))])) gt' oz' td' X' (by simp)
  have FN:=Z4 fin;clear fin;repeat' (first|(simp only[zQ,seval,X0,jdR,jdS,jdT,jdf,jcB,jdV,jdo,r0,g3,g1,e1,d1,hi,lt3,ex3,K8,K9,T5,T6,T7,T8, *])|(simp only[jlg,zgoO,zgoG,jew,jcB,ja8,zgoC])|(with_reducible apply P3)|(with_reducible intro _))
  all_goals first|exact lt3|exact ex3|exact ha|exact⟨_,rfl⟩|(simp only[hlX,T9,L0];done)|skip
  refine jfz HL.out HN.out HOK.out HO.out HT.out HY.out (by have:=HML.out;omega) (by have:=HTL.out;omega) fun gt' oz' td' q1 q2=>?_
  have Q1:=Z4 q1;have Q2:=Z4 q2;clear q1 q2;with_reducible repeat' first|simp only[zQ,seval,X0,r0,w1,gX, *]|simp only[jab]|apply P3|intro _
  have hlX1:L (B.length+(X.length+1+1+1+1+1))=true:=HL.out _;refine clt_z HY.out (by have:=HML.out;omega) (fun hm=>⟨?_,?_⟩) (fun hm=>?_)
  ·subst hm
   with_reducible repeat' first|simp only[zQ,seval,X0,r0,w1,gX,gX1,sX1,hlX1,juz,W1, *]|simp only[jab]|apply P3|intro _
   all_goals first|omega|exact (by decide:16≤reach)|skip
   refine jfz HL.out HN.out (HOK.out.come _ _).1 Q1.out Q2.out (l:=[(A,(j:Int))]) (.inr rfl) (by have:=HML.out;simp;try omega) (by have:=HTL.out;have:=jgK (w:=w) (n:=f.2.2.2.2.length) (a:=j) (l:=[]);omega) fun gt' oz' td' q1 q2=>?_
   have fin:=fun X'=>FN.out gt' oz' td' X' q1 q2
   clear q1 q2;with_reducible repeat' first|simp only[zQ,seval,X0,r0, *]|simp only[jab]|apply P3|intro _
   all_goals exact fin _
  ·subst hm
   with_reducible repeat' first|simp only[zQ,seval,X0,r0,w1,gX,gX1,sX1,hlX1,juz,W1, *]|simp only[jab]|apply P3|intro _
   all_goals first|omega|exact (by decide:16≤reach)|skip
   refine jfz HL.out HN.out (HOK.out.come _ _).1 Q1.out Q2.out (l:=[(A,(j:Int))]) (.inr rfl) (by have:=HML.out;simp;try omega) (by have:=HTL.out;have:=jgK (w:=w) (n:=f.2.2.2.2.length) (a:=j) (l:=[]);omega) fun gt' oz' td' q1 q2=>?_
   have fin:=fun X'=>FN.out gt' oz' td' X' q1 q2
   clear q1 q2;with_reducible repeat' first|simp only[zQ,seval,X0,r0, *]|simp only[jab]|apply P3|intro _
   all_goals exact fin _
  ·have ap: ∀P Q R S T,appZ L (B++(P::Q::R::S::(X++[T,.grow 0 2 (m.map eVl)]))) 2 16 [[Z64 A,Z64 j]] (.own (B.length+(X.length+1+1+1+1+1)) 0 0 m.length false)=some (.own (B.length+(X.length+1+1+1+1+1)) 1 0 (m.length+1) false,B++(P::Q::R::S::(X++[T,.grow 1 2 ((m++[(A,(j:Int))]).map eVl)]))):=fun P Q R S T=>by
    rw[jcU];refine⟨_,gX1 _ _ _ _ _ _ _,by simp,by have:=HML.out;unfold reach;simp;omega,hlX1,rfl,?_⟩;rw[sX1,W1,I5 (by simp),L3];rfl
   have ln:((m++[(A,(j:Int))]).map eVl).length=m.length+1:=by simp
   have tk:((m++[(A,(j:Int))]).map eVl).take (m.length+1)=(m++[(A,(j:Int))]).map eVl:=I5 (by simp);obtain⟨rr,hrr⟩: ∃rr,rr=(m++[(A,(j:Int))]).map eVl:=⟨_,rfl⟩;have pr:rr.flatten.all jbR=true:=by rw[hrr];exact juz
   have hzr:ZV.fz 2 false rr= .fz 2 false ((m++[(A,(j:Int))]).map eVl):=by rw[hrr]
   have HZR:=Z4 hzr;rw[←hrr] at tk ln;simp only[←hrr] at ap;clear hrr hzr;with_reducible repeat' first|simp only[zQ,seval,X0,r0,w1,gX,gX1,sX1,hlX1,ap,pr,tk,ln,W1,Nat.zero_add,V2, *]|simp only[jab]|apply P3|intro _
   all_goals first|omega|exact (by decide:16≤reach)|skip
   refine jfz HL.out HN.out (HOK.out.come _ _).1 Q1.out Q2.out (l:=m++[(A,(j:Int))]) (.inr HZR.out) (by have:=HML.out;simp;try omega) (by have:=HTL.out;have:=jgK (w:=w) (n:=f.2.2.2.2.length) (a:=j) (l:=m);omega) fun gt' oz' td' q1 q2=>?_
   have fin:=fun X'=>FN.out gt' oz' td' X' q1 q2
   clear q1 q2;with_reducible repeat' first|simp only[zQ,seval,X0,r0, *]|simp only[jab]|apply P3|intro _
   all_goals exact fin _
 by_cases h7:op=31
 ·subst h7
  by_cases h0:m.length=0
  ·have fin:=fun X'=>HK2.out { w with bad:=true } gt oz td X' (by simp[h0]) HO.out HT.out
   have hlX3:L (B.length+3)=true:=HL.out _;have h0':(m.length:Int)=0:=by omega
   clear h0;repeat' (first|(simp only[zQ,seval,X0,jdR,jdS,jdT,jdf,jcB,jdV,jdo,r0,g3,s3,g1,e1,d1,hi,lt3,ex3,hll,h0',hlX3,K8,K9,T5,T6,T7,T8, *])|(simp only[jlg,zgoO,zgoG,jew,jcB,ja8,zgoC])|(with_reducible apply P3)|(with_reducible intro _))
   all_goals first|exact lt3|exact ex3|exact ha|exact⟨_,rfl⟩|(simp only[hlX,T9,L0];done)|exact fin _
  ·have fin:=fun gt' oz' td' X'=>HK2.out (w.come f.2.2.2.2.length (a+1) m.dropLast) gt' oz' td' X' (by simp[h0])
   have FN:=Z4 fin;have h0': ¬(m.length:Int)=0:=by omega
   have hne:m≠[]:=fun h=>h0 (by rw[h];rfl)
   have hyz:y= .fz 2 false (m.map eVl):=by rcases HY.out with⟨_,h⟩|h;exact absurd h hne;exact h
   have hw:IntKind.i64.wrap ((m.length:Int) - 1)=((m.length - 1:Nat):Int):=by rw[jbn (by omega) (by have:=HML.out;omega)];omega
   have hct: ∀H,cutZ H 2 0 (m.length - 1) m.length (none:Option Opd).isSome y=some (.fz 2 false (m.dropLast.map eVl)):=fun H=>by
    rw[hyz];simp only[cutZ,P2,L4];rw[if_pos ⟨trivial,by omega,by omega,by omega⟩,if_neg (by simpa using hne),W1,L5,L6];simp
   have nn:natZ (Z64 ((m.length - 1:Nat):Int))=some (m.length - 1):=by simp[natZ]
   obtain⟨q,hq⟩: ∃q,q=m.length - 1:=⟨_,rfl⟩;rw[←hq] at hw hct nn;clear fin h0 hyz hne hq;repeat' (first|(simp only[zQ,seval,X0,jdR,jdS,jdT,jdf,jcB,jdV,jdo,r0,g3,g1,e1,d1,hi,lt3,ex3,hll,h0',hw,hct,nn,num0,num1,Q9,w1,K8,K9,T5,T6,T7,T8, *])|(simp only[jlg,zgoO,zgoG,jew,jcB,ja8,zgoC])|(with_reducible apply P3)|(with_reducible intro _))
   all_goals first|exact lt3|exact ex3|exact ha|exact⟨_,rfl⟩|(simp only[hlX,T9,L0];done)|skip
   refine jfz HL.out HN.out HOK.out HO.out HT.out (l:=m.dropLast) (.inr rfl) (by have:=HML.out;simp;omega) (by have:=HTL.out;omega) fun gt' oz' td' q1 q2=>?_
   have fin:=fun X'=>FN.out gt' oz' td' X' q1 q2
   clear q1 q2;with_reducible repeat' first|simp only[zQ,seval,X0,r0, *]|simp only[jab]|apply P3|intro _
   all_goals exact fin _
 ·have fin:=fun gt' oz' td' X'=>HK2.out (w.come f.2.2.2.2.length (a+1) m) gt' oz' td' X' (by simp[*])
  have FN:=Z4 fin;clear fin;repeat' (first|(simp only[zQ,seval,X0,jdR,jdS,jdT,jdf,jcB,jdV,jdo,r0,g3,g1,e1,d1,hi,lt3,ex3,h1,h2,h3,h4,h5,h6,h7,w1,K8,K9,T5,T6,T7,T8, *])|(simp only[jlg,zgoO,zgoG,jew,jcB,ja8,zgoC])|(with_reducible apply P3)|(with_reducible intro _))
  all_goals first|exact lt3|exact ex3|exact ha|exact⟨_,rfl⟩|(simp only[hlX,T9,L0];done)|skip
  refine jfz HL.out HN.out HOK.out HO.out HT.out HY.out (by have:=HML.out;omega) (by have:=HTL.out;omega) fun gt' oz' td' q1 q2=>?_
  have fin:=fun X'=>FN.out gt' oz' td' X' q1 q2
  clear q1 q2;with_reducible repeat' first|simp only[zQ,seval,X0,r0, *]|simp only[jab]|apply P3|intro _
  all_goals exact fin _
end
section
open Go Go.RowKit
variable {tb:List (FuncId×Bool)}{nd:Bool}{L:Nat→Bool}{H B X:ZH}{K:ZV→ZH→Prop}{f:FnT}{w:Wk}{gt a:Nat}{oz:List ZV}{td:List (List ZV)}{z:ZV}{l:List (Int×Int)}
def fstC:jam→jam
  | .seq a _=>a
  |c=>c
def sndC:jam→jam
  | .seq _ b=>b
  |c=>c
theorem OzOk.pure {out:List (List (Int×Int))}(h:OzOk oz out):((oz.map fun z=>[z]).flatten).all jbR=true:=by
 rw[N2];intro z hz;obtain⟨r,hr,hzr⟩:=Y6.1 hz;obtain⟨y,hy,rfl⟩:=U6.1 hr;rw[X6.1 hzr];obtain⟨i,hi,rfl⟩:=W6.1 hy;exact (h.2 i _ _ (U1 hi) (U1 (by rw[←h.1];exact hi))).pure
theorem jmO {l:List Bool}:(l.map eB).flatten.all jbR=true:=by
 induction l with
 |nil=>rfl
 |cons a l ih=>simp[B6,D6,ih,jbR]
def TrI (B:ZH)(f:FnT)(k:Nat)(h:ZH):Prop:= ∃(w:Wk) (gt:Nat) (oz:List ZV) (td:List (List ZV)) (X:ZH),h=WH B f gt oz td w X∧w.Ok f.2.2.2.2.length∧OzOk oz w.out∧TdOk td w.todo∧w.key<k∧k≤2*f.2.2.2.2.length+3∧Wk.run f.2.2.2.2 k w=jdQ f.2.2.2.2
theorem TdOk.pop {todo:List Nat}(h:TdOk td todo):TdOk td todo.dropLast:=by
 refine⟨by have:=h.1;simp;omega,?_⟩;have h2:=h.2;rw[L5,C4,C7 (by omega),L6,← h2,List.take_take,C7 (by omega)]
theorem finW (ok:w.Ok f.2.2.2.2.length)(ho:OzOk oz w.out)(hm: ∀Y,Mods H (B++Y))(ht: ∀Y,(B++Y).take H.length=H)(hK:K (.tuple [.fz 1 true (oz.map fun z=>[z]),.fz 1 true (w.seen.map eB),ZBo (!w.bad)]) H):
  Fin H (.tuple [.own (B.length+1) 0 0 f.2.2.2.2.length true,.own B.length 0 0 f.2.2.2.2.length true,ZBo (!w.bad)]) (WH B f gt oz td w X) K:=by
 have h1:oz.length=f.2.2.2.2.length:=ho.1.trans ok.out;have h2:w.seen.length=f.2.2.2.2.length:=ok.seen;refine Fin.frzT (j:=0) (i:=B.length+1) (k:=1) (g:=0) (off:=0) (len:=f.2.2.2.2.length) (ex:=true) (rows:=oz.map fun z=>[z]) rfl jeF (by simp[h1]) ho.pure ?_;rw[jhO,W1,I5 (by simp[h1])];refine Fin.frzT (j:=1) (i:=B.length) (k:=1) (g:=0) (off:=0) (len:=f.2.2.2.2.length) (ex:=true) (rows:=w.seen.map eB) rfl jcr (by simp[h2]) jmO ?_;rw[jjG,W1,I5 (by simp[h2])];exact Fin.truncT (hm _) rfl (by rw[ht];exact hK)
theorem jtl (hn:f.2.2.2.2.length≤600)(hj:jvA f.2.2.2.2)
  (hK: ∀oz,OzOk oz (jdQ f.2.2.2.2).out→K (.tuple [.fz 1 true (oz.map fun z=>[z]),.fz 1 true ((jdQ f.2.2.2.2).seen.map eB),ZBo (!(jdQ f.2.2.2.2).bad)]) H):
  ZC (XC tb nd) (jag Tryz.prog) 67 [.agg (eFn f)] L H K:=by
 refine K6 ⟨[(16,[(7,1)])],[],[]⟩ (jaf (by decide)) jrT (by simp) fun hLn=>?_
 rw[show jdD= .seq (fstC jdD) (sndC jdD) from rfl];have e0:fstC jdD= .ops [⟨(some 1),.box 5 (.tmp 0),none,true⟩,⟨(some 2),.mv (.av (.val (.slice none 0 0))),none,true⟩,⟨(some 3),.mv (.av (.val (.slice none 0 0))),none,true⟩,⟨(some 4),.mv (.av (.val (.bool false))),none,true⟩]:=rfl;obtain⟨cR,hR⟩: ∃c,c=sndC jdD:=⟨_,rfl⟩;rw[←hR,e0];clear e0;have HR:=Z4 hR;have HK:=Z4 hK;have HN:=Z4 hn;have HJ:=Z4 hj;clear hR hK hn hj;with_reducible repeat' first|simp only[zQ,seval,X0, *]|simp only[jab]|apply P3|intro _
 have hB0: ∀k,L ((H++[ZB.box (eFn f)]).length+k)=true:=fun k=>by have:=hLn (1+k);simpa[Nat.add_assoc] using this
 have gB0:(H++[ZB.box (eFn f)])[H.length]?=some (.box (eFn f)):=jep;have hfin: ∀Y,Mods H ((H++[ZB.box (eFn f)])++Y):=fun Y=>by rw[M8];exact K4 H _
 have htk: ∀Y,((H++[ZB.box (eFn f)])++Y).take H.length=H:=fun Y=>by rw[M8,K5]
 have hHB:H.length<(H++[ZB.box (eFn f)]).length:=by simp
 obtain⟨B,hB⟩: ∃B,B=H++[ZB.box (eFn f)]:=⟨_,rfl⟩;rw[←hB] at hB0 gB0 hHB ⊢;simp only[←hB] at hfin htk;have gB: ∀Y,(B++Y)[H.length]?=some (.box (eFn f)):=fun Y=>by rw[V5 hHB];exact gB0
 rw[HR.out];simp only[jdD,kkP,sndC];have g0: ∀P Y,(B++(P::Y))[B.length]?=some P:=fun P Y=>jcr
 have g1: ∀P Q Y,(B++(P::Q::Y))[B.length+1]?=some Q:=fun P Q Y=>jeF
 have g2: ∀P Q R Y,(B++(P::Q::R::Y))[B.length+2]?=some R:=fun P Q R Y=>jfV
 have g3: ∀P Q R S Y,(B++(P::Q::R::S::Y))[B.length+3]?=some S:=fun P Q R S Y=>jsa
 have s3: ∀P Q R S T Y,(B++(P::Q::R::S::Y)).set (B.length+3) T=B++(P::Q::R::T::Y):=fun P Q R S T Y=>jvp
 have hln:f.2.2.2.2.length*1≤reach:=by have:=HN.out;unfold reach;omega
 have hln2:f.2.2.2.2.length*24≤reach:=by have:=HN.out;unfold reach;omega
 have HFI:=Z4 hfin;have HTK:=Z4 htk;have HBB:=Z4 hB;have HL:=Z4 hB0;have HHB:=Z4 hHB;clear hfin htk hB hB0 hHB hLn;with_reducible repeat' first|simp only[zQ,seval,X0,gB,gB0,g0,g1,g2,g3,hln,hln2, *]|simp only[jab]|apply P3|intro _
 ·unfold reach;have:=HN.out;omega
 rw[show O6 f.2.2.2.2.length [ZBo false]=(O6 f.2.2.2.2.length false).map eB by simp,show O6 f.2.2.2.2.length [ZV.val (Value.slice none 0 0)]=(O6 f.2.2.2.2.length ZV.nil).map (fun z=>[z]) by simp];have ok0:(⟨O6 f.2.2.2.2.length false,O6 f.2.2.2.2.length [],[],false⟩:Wk).Ok f.2.2.2.2.length:=⟨by simp,by simp,fun a h=>by simp at h,fun m hm=>by rw[(A6.1 hm).2];simp⟩;refine jfz (X:=[]) (a:=0) (w:=⟨O6 f.2.2.2.2.length false,O6 f.2.2.2.2.length [],[],false⟩) (td:=[]) (l:=[]) HL.out HN.out ok0 ⟨by simp,fun i z l hz hl=>?_⟩ ⟨V2 _,rfl⟩ (.inl ⟨rfl,rfl⟩) (by simp) (by simp) fun gt oz td q1 q2=>?_
 ·rw[List.getElem?_replicate] at hz hl
  split at hz
  ·rename_i hi
   rw[if_pos hi] at hl;injection hz with hz;injection hl with hl
   exact .inl ⟨hz.symm,hl.symm⟩
  ·cases hz
 have hI:TrI B f (2*f.2.2.2.2.length+3) (WH B f gt oz td (Wk.new f.2.2.2.2) []):=⟨Wk.new f.2.2.2.2,gt,oz,td,[],rfl,(Wk.Ok.new _).1,q1,q2,by have:=(Wk.Ok.new f.2.2.2.2).2;omega,V2 _,rfl⟩;have eN:Wk.come f.2.2.2.2.length ⟨O6 f.2.2.2.2.length false,O6 f.2.2.2.2.length [],[],false⟩ 0 []=Wk.new f.2.2.2.2:=rfl;rw[eN];obtain⟨h2,hh2⟩: ∃h2,h2=WH B f gt oz td (Wk.new f.2.2.2.2) []:=⟨_,rfl⟩;rw[←hh2] at hI ⊢;clear hh2 q1 q2 ok0 eN gB gB0;with_reducible repeat' first|simp only[zQ,seval,X0, *]|simp only[jab]|apply P3|intro _
 refine jcV [(5,.ptr (B.length+3) 0)] (2*f.2.2.2.2.length+3) (fun k _ h'=>TrI B f k h') (by repeat' (first|exact trivial|(refine⟨rfl,?_⟩)|(refine⟨by simp only[jaj,X4,reduceIte];assumption,?_⟩))) rfl hI ?_;clear hI;rintro k s' h' ⟨w,gt,oz,td,X,rfl,ok,ho,ht,hk,hk2,hr⟩ ⟨f5,-⟩;have off:w.on=false→Fin H (.tuple [.own (B.length+1) 0 0 f.2.2.2.2.length true,.own B.length 0 0 f.2.2.2.2.length true,ZBo (!w.bad)]) (WH B f gt oz td w X) K:=fun h=>by
  have hw:w=jdQ f.2.2.2.2:=by rw[←hr,Wk.run_off h]
  refine finW ok ho HFI.out HTK.out ?_;have:=HK.out oz;rw[←hw] at this;exact this ho
 have gB: ∀Y,(B++Y)[H.length]?=some (.box (eFn f)):=fun Y=>by rw[V5 HHB.out,HBB.out];exact jep
 have w0: ∀X,WH B f gt oz td w X=B++(.grow 0 1 (w.seen.map eB):: .grow 0 1 (oz.map fun z=>[z]):: .grow gt 1 td:: .box (wBox B f f.2.2.2.2.length gt w.todo.length w.bad)::X):=fun X=>rfl
 by_cases h1:w.todo=[]
 ·have fin:=off (by simp[Wk.on,h1])
  have hl:(w.todo.length:Int)=0:=by rw[h1];rfl
  have hlt: ¬(0:Int)<0:=by omega
  clear h1 off hr hk hk2 ok ho ht;with_reducible repeat' first|simp only[zQ,seval,X0,g3,hl,hlt, *]|simp only[jab]|apply P3|intro _
 have hl:(0:Int)<(w.todo.length:Int):=by have:=X9.2 h1;omega
 cases hb:w.bad with
 |true=>
  have fin:=off (by simp[Wk.on,hb]);rw[w0] at fin;simp only[hb,Bool.not_true] at fin;clear h1 off hr hk hk2 ok ho ht;with_reducible repeat' first|simp only[zQ,seval,X0,g3,hl,hb, *]|simp only[jab]|apply P3|intro _
 |false=>
  have hon:w.on=true:=by simp[Wk.on,hb,h1]
  obtain⟨a,ha,han,ok2,hkey⟩:=ok.pop hon;have hturn:=ok.turn hon;have etn:w.turn f.2.2.2.2=Wk.from f.2.2.2.2 { w with todo:=w.todo.dropLast } a:=by unfold Wk.turn;rw[ha]
  have hrun:=Wk.run_on (co:=f.2.2.2.2) hon (k:=k) (by omega);have hlen:0<w.todo.length:=X9.2 h1;have hgl:td[w.todo.length - 1]?=some [Z64 (a:Int)]:=by
   have e1:(td.take w.todo.length)[w.todo.length - 1]?=some [Z64 (a:Int)]:=by
    rw[ht.2,U8];rw[List.getLast?_eq_getElem?] at ha;rw[ha];rfl
   rwa [List.getElem?_take_of_lt (by omega)] at e1
  have hw:IntKind.i64.wrap ((w.todo.length:Int) - 1)=((w.todo.length - 1:Nat):Int):=by
   have:w.todo.length≤w.key:=by unfold Wk.key;omega
   have:=HN.out;rw[jbn (by omega) (by omega)];omega
  have e2: ∀P Q Y,jdd (B++(P::Q:: .grow gt 1 td::Y)) 1 (w.todo.length - 1) (.own (B.length+2) gt 0 w.todo.length false)=some (.eptr (B.length+2) gt (w.todo.length - 1) 0):=fun P Q Y=>by
   rw[jbQ];exact⟨_,g2 _ _ _ _,by have:=ht.1;omega,by omega,by simp⟩
  have d2: ∀P Q Y,ldZ (B++(P::Q:: .grow gt 1 td::Y)) none (.eptr (B.length+2) gt (w.todo.length - 1) 0)=some (Z64 (a:Int)):=fun P Q Y=>by
   rw[jbS];exact⟨_,_,[Z64 (a:Int)],g2 _ _ _ _,hgl,rfl⟩
  have ct: ∀P Q Y,cutZ (B++(P::Q:: .grow gt 1 td::Y)) 1 0 (w.todo.length - 1) w.todo.length (none:Option Opd).isSome (.own (B.length+2) gt 0 w.todo.length false)=some (.own (B.length+2) gt 0 (w.todo.length - 1) false):=fun P Q Y=>by
   simp only[cutZ,g2];rw[if_pos ⟨trivial,trivial,by omega,by omega,by omega,by have:=ht.1;omega⟩];simp
  have nn:natZ (Z64 ((w.todo.length - 1:Nat):Int))=some (w.todo.length - 1):=by simp[natZ]
  have edl:w.todo.length - 1=w.todo.dropLast.length:=by simp
  have EDL:=Z4 edl;have hl3:L (B.length+3)=true:=HL.out 3;obtain⟨q,hq⟩: ∃q,q=w.todo.length - 1:=⟨_,rfl⟩;rw[←hq] at hw e2 d2 ct nn;have HQ:=Z4 hq;have HT:=Z4 ht;have HO:=Z4 ho;have HOK2:=Z4 ok2;have HTU:=Z4 hturn;have HET:=Z4 etn;have HKEY:=Z4 hkey;have HRUN:=Z4 hrun;have HR2:=Z4 hr;have HAN:=Z4 han;have HK1:=Z4 hk;have HK2:=Z4 hk2;clear hq edl hgl hlen hrun etn hturn hkey ok2 ha hon off ok ho ht h1 hr han hk hk2;with_reducible repeat' first|simp only[zQ,seval,X0,g3,s3,hl,hb,hw,e2,d2,ct,nn,num0,num1,Q9,hl3, *]|simp only[jab]|apply P3|intro _
  have hw3:({ w with todo:=w.todo.dropLast }:Wk)=⟨w.seen,w.out,w.todo.dropLast,false⟩:=by rw[←hb]
  have ok3:=HOK2.out;rw[hw3] at ok3;rw[show q=w.todo.dropLast.length from HQ.out.trans EDL.out];refine from_z (w := ⟨w.seen, w.out, w.todo.dropLast, false⟩) HL.out HN.out HJ.out ok3 HO.out HT.out.pop HAN.out (by
   have h1:w.todo.length≤w.key:=by unfold Wk.key;omega
   have:=HN.out;have:=HK1.out;have:=HK2.out;simp;omega) fun gt' oz' td' X' q1 q2=>?_
  have fin: ∃m,m<k∧TrI B f m (WH B f gt' oz' td' (Wk.from f.2.2.2.2 ⟨w.seen,w.out,w.todo.dropLast,false⟩ a) X'):=by
   have h1:=HTU.out;have h2:=HK1.out;have h3:=HRUN.out;rw[HR2.out] at h3;rw[HET.out,hw3] at h1 h3;exact⟨k - 1,by omega,_,gt',oz',td',X',rfl,h1.1,q1,q2,by have:=h1.2;omega,by have:=HK2.out;omega,h3.symm⟩
  clear q1 q2 ok3 hw3;obtain⟨h5,hh5⟩: ∃h5,h5=WH B f gt' oz' td' (Wk.from f.2.2.2.2 ⟨w.seen,w.out,w.todo.dropLast,false⟩ a) X':=⟨_,rfl⟩;rw[←hh5] at fin ⊢;have FN:=Z4 fin;clear hh5 fin;with_reducible repeat' first|simp only[zQ,seval,X0, *]|simp only[jab]|apply P3|intro _
  exact FN.out
end
section
open Go Go.RowKit
variable {tb:List (FuncId×Bool)}{nd:Bool}{L:Nat→Bool}{H X:ZH}{K:ZV→ZH→Prop}{p:PrT}{f:FnT}
theorem jrg {at_:Nat}{i:InsT}(h:jdJ p f at_ i=true): ∃a b c,jhb i.1=[a,b,c]∧jdp p f a.toNat i.2.1=true∧jdp p f b.toNat i.2.2.1=true∧jdp p f c.toNat i.2.2.2.1=true∧ordX p f at_ i=true:=by
 obtain⟨op,A,B,C,ln⟩:=i;rcases jqr op with hf|⟨a,b,c,hf⟩
 ·simp only[jdJ,hf] at h;cases h
 ·refine⟨a,b,c,hf,?_⟩
  have e:jdJ p f at_ (op,A,B,C,ln)=(winB ln 0 2000&&jdp p f a.toNat A&&jdp p f b.toNat B&&jdp p f c.toNat C&&ordX p f at_ (op,A,B,C,ln)):=by simp only[jdJ,hf,ordX];try rfl
  rw[e] at h;simp only[U2] at h;exact⟨h.1.1.1.2,h.1.1.2,h.1.2,h.2⟩
theorem jmp_of (h: ∀(a:Nat) (i:InsT),f.2.2.2.2[a]?=some i→jdJ p f a i=true):jvA f.2.2.2.2:=fun a i hi=>by
 obtain⟨x,y,z,h1,h2,h3,h4,_⟩:=jrg (h a i hi);obtain⟨op,A,B,C,ln⟩:=i;simp only at h1 h2 h3 ⊢;refine⟨fun hop=>?_,fun hop=>?_⟩
 ·have e:[x,y,z]=[97,45,45]:=by rcases hop with rfl|rfl<;>exact h1.symm.trans rfl
  injection e with e1 _
  rw[e1] at h2;have:=jim (show winB A 0 ((f.2.2.2.2.length:Int) - 1)=true from h2);omega
 ·have e:[x,y,z]=[114,97,45]:=by rcases hop with rfl|rfl<;>exact h1.symm.trans rfl
  injection e with _ e;injection e with e1 _
  rw[e1] at h3;have:=jim (show winB B 0 ((f.2.2.2.2.length:Int) - 1)=true from h3);omega
theorem jsx {co:List InsT}{q:Nat→InsT→Bool}:(co.zipIdx.all (fun x=>q x.2 x.1)=true)↔ ∀(a:Nat) (i:InsT),co[a]?=some i→q a i=true:=by
 rw[N2];constructor
 ·intro h a i hi
  exact h (i,a) (L7.2 hi)
 ·rintro h ⟨i,a⟩ hx
  exact h a i (L7.1 hx)
def OrdsTo (p:PrT)(f:FnT)(k:Nat):Prop:= ∀(j:Nat) i,j<k→f.2.2.2.2[j]?=some i→jdJ p f j i=true
structure SzOk (p:PrT):Prop where
  fns:p.1.length≤60
  cons:p.2.1.length≤200
  txts:p.2.2.length≤200
  caus: ∀g∈p.1,g.2.2.2.1.length≤100000000000000
  cos: ∀g∈p.1,g.2.2.2.2.length≤600∧g.2.1≤60
section
variable {P Q R T U:ZB}{Y:ZH}
theorem c_atX:(H++(P::Q::R::(X++(T::Y))))[H.length+(X.length+1+1+1)]?=some T:=by
 rw[N0 (by omega),D8];simp
theorem c_stX:(H++(P::Q::R::(X++(T::Y)))).set (H.length+(X.length+1+1+1)) U=H++(P::Q::R::(X++(U::Y))):=by
 rw[B7 _ _ (by omega),D8];simp
end
theorem jrp (sz:SzOk p)(hf:f∈p.1)(hK:K (ZBo (ja9 p f)) H):ZC (XC tb nd) (jag Tryz.prog) 50 [.agg (ePr p),.agg (eFn f)] L H K:=by
 refine K6 Gh.no (jaf (by decide)) jlI (by simp) fun hLn=>?_
 simp only[jgN,kkP];have g0: ∀P Y,(H++(P::Y))[H.length]?=some P:=fun P Y=>jcr
 have g1: ∀P Q Y,(H++(P::Q::Y))[H.length+1]?=some Q:=fun P Q Y=>jeF
 have g2: ∀P Q R Y,(H++(P::Q::R::Y))[H.length+2]?=some R:=fun P Q R Y=>jfV
 have s2: ∀P Q R T Y,(H++(P::Q::R::Y)).set (H.length+2) T=H++(P::Q::T::Y):=fun P Q R T Y=>jjF
 have hl2:L (H.length+2)=true:=hLn 2;have HK:=Z4 hK;have HL:=Z4 hLn;have HF:=Z4 hf;have HS:=Z4 sz;have fin0: ∀b X,ja9 p f=b→Fin H (ZBo b) (H++X) K:=fun b X h=>finX rfl (by rw[←h];exact HK.out)
 clear hK hLn hf sz;by_cases h1:f.1<0
 ·have fin:=fun X=>fin0 false X (by unfold ja9;rw[decide_eq_false (by omega: ¬0≤f.1)];rfl)
  clear fin0;with_reducible repeat' first|simp only[zQ,seval,X0,g0,g1,g2,s2,hl2,h1, *]|simp only[jab]|apply P3|intro _
 by_cases h2:f.2.1<1
 ·have fin:=fun X=>fin0 false X (by unfold ja9;rw[decide_eq_false (by show ¬1≤f.2.1;omega: ¬1≤FnT.re f)];simp)
  clear fin0;with_reducible repeat' first|simp only[zQ,seval,X0,g0,g1,g2,s2,hl2,h1,h2, *]|simp only[jab]|apply P3|intro _
 by_cases h3:f.2.1<f.1
 ·have fin:=fun X=>fin0 false X (by unfold ja9;rw[decide_eq_false (by show ¬f.1≤f.2.1;omega: ¬f.1≤FnT.re f)];simp)
  clear fin0;with_reducible repeat' first|simp only[zQ,seval,X0,g0,g1,g2,s2,hl2,h1,h2,h3, *]|simp only[jab]|apply P3|intro _
 have hre:f.2.1≤60:=(HS.out.cos f HF.out).2;have ok:PfOk p f:=⟨⟨by omega,hre⟩,HS.out.fns,HS.out.cons,HS.out.txts,HS.out.caus f HF.out,(HS.out.cos f HF.out).1,HS.out.caus⟩;have eB:ja9 p f=(f.2.2.2.2.zipIdx.all (fun x=>jdJ p f x.2 x.1)&& !(jdQ f.2.2.2.2).bad):=by
  unfold ja9;rw[decide_eq_true (by omega:0≤f.1),decide_eq_true (by show 1≤f.2.1;omega:1≤FnT.re f),decide_eq_true (by show f.1≤f.2.1;omega:f.1≤FnT.re f)]
  rfl
 have HB:=Z4 eB;have HOK:=Z4 ok;clear hre ok eB;with_reducible repeat' first|simp only[zQ,seval,X0,g0,g1,g2,s2,hl2,h1,h2,h3, *]|simp only[jab]|apply P3|intro _
 clear h1 h2 h3;refine jaK [(3,.ptr (H.length+1) 0),(5,.ptr (H.length+2) 0),(30,.fz 5 false (f.2.2.2.2.map eIns))] f.2.2.2.2.length (fun k s h'=> ∃X,h'=H++(.box (ePr p):: .box (eFn f):: .box (eLk p f)::X)∧OrdsTo p f k) (by have:=HOK.out.co;omega) ⟨rfl,rfl,rfl,rfl,rfl,rfl⟩ rfl rfl (by repeat' (first|exact trivial|(refine⟨rfl,?_⟩)|(refine⟨by simp only[jaj,X4,reduceIte];assumption,?_⟩))) rfl rfl (by decide) ⟨[],rfl,fun j i h=>by omega⟩ ?_ ?_
 ·rintro k s' h' hk ⟨X,rfl,hall⟩ hi hl ⟨f3,f5,f30,-⟩
  obtain⟨⟨op,a,b,c,ln⟩,hins⟩: ∃i,f.2.2.2.2[k]?=some i:=⟨_,U1 hk⟩;have gX: ∀P Q R T Y,(H++(P::Q::R::(X++(T::Y))))[H.length+(X.length+1+1+1)]?=some T:=fun P Q R T Y=>c_atX
  have sX: ∀P Q R T U Y,(H++(P::Q::R::(X++(T::Y)))).set (H.length+(X.length+1+1+1)) U=H++(P::Q::R::(X++(U::Y))):=fun P Q R T U Y=>c_stX
  have hlX:L (H.length+(X.length+1+1+1))=true:=HL.out _;have HALL:=Z4 hall;clear hall;have HI:=Z4 hins;with_reducible repeat' first|simp only[zQ,seval,X0,g0,g1,g2,s2,hl2,gX,sX,hlX,hins, *]|simp only[jab]|apply P3|intro _
  refine order_z HOK.out ?_
  cases ho:jdJ p f k (op,a,b,c,ln) with
  |false=>
   have fin := fun X => fin0 false X (by
    rw[HB.out];have:f.2.2.2.2.zipIdx.all (fun x=>jdJ p f x.2 x.1)=false:=by
     cases hc:f.2.2.2.2.zipIdx.all (fun x=>jdJ p f x.2 x.1) with
     |false=>rfl
     |true=>rw[jsx.1 hc k _ HI.out] at ho;cases ho
    rw[this];rfl)
   clear fin0 ho hins;with_reducible repeat' first|simp only[zQ,seval,X0, *]|simp only[jab]|apply P3|intro _
  |true=>
   have fin:OrdsTo p f (k+1):=fun j i hj hji=>by
    by_cases hjk:j=k
    ·subst hjk;rw[HI.out] at hji;injection hji with hji;rw[←hji];exact ho
    ·exact HALL.out j i (by omega) hji
   have FN:=Z4 fin;clear fin fin0 ho hins;with_reducible repeat' first|simp only[zQ,seval,X0, *]|simp only[jab]|apply P3|intro _
   all_goals first|exact⟨_,rfl⟩|exact FN.out
 ·rintro s' h' ⟨X,rfl,hall⟩ ⟨f3,f5,f30,-⟩
  have hall: ∀(j:Nat) i,f.2.2.2.2[j]?=some i→jdJ p f j i=true:=fun j i hji=>hall j i (U0.1 hji).1 hji
  have hz:=jsx.2 hall;have HJ:=Z4 (jmp_of hall);have fin:=fun X=>fin0 (!(jdQ f.2.2.2.2).bad) X (by rw[HB.out,hz];rfl)
  clear hall hz fin0;with_reducible repeat' first|simp only[zQ,seval,X0,g1, *]|simp only[jab]|apply P3|intro _
  refine jtl HOK.out.co HJ.out fun oz hoz=>?_
  with_reducible repeat' first|simp only[zQ,seval,X0, *]|simp only[jab]|apply P3|intro _
theorem check1_z (sz:SzOk p)(hf:f∈p.1){i:Nat}(hi:H[i]?=some (.box (ePr p)))(hK:K (ZBo (!ja9 p f)) H):ZC (XC tb nd) (jag Tryz.prog) 49 [.agg (eFn f),.ptr i 0] L H K:=by
 refine K6 Gh.no (jaf (by decide)) jo0 (by simp) fun hLn=>?_
 simp only[jjs,kkP];have g0: ∀P Y,(H++(P::Y))[H.length]?=some P:=fun P Y=>jcr
 have gi: ∀Y,(H++Y)[i]?=some (.box (ePr p)):=fun Y=>by rw[V5 (jap hi)];exact hi
 have fin: ∀X,Fin H (ZBo (!ja9 p f)) (H++X) K:=fun X=>finX rfl hK
 have SZ:=Z4 sz;have HF:=Z4 hf;clear hK hLn sz hf hi;with_reducible repeat' first|simp only[zQ,seval,X0,g0,gi, *]|simp only[jab]|apply P3|intro _
 refine jrp SZ.out HF.out ?_;with_reducible repeat' first|simp only[zQ,seval,X0, *]|simp only[jab]|apply P3|intro _
end
section
open Go Go.RowKit
variable {tb:List (FuncId×Bool)}{nd:Bool}{L:Nat→Bool}{H X:ZH}{K:ZV→ZH→Prop}{p:PrT}{f:FnT}
theorem jqt:jag Tryz.prog 114=some ⟨19,c_if 1 none,[.tmp 4]⟩:=by kernel_rfl
theorem jqv:jag Tryz.prog 79=some ⟨9,c_cf 114,[.tmp 4]⟩:=by kernel_rfl
theorem jqu:jag Tryz.prog 85=some ⟨19,c_if 5 (some 5),[.tmp 4]⟩:=by kernel_rfl
theorem jqw:jag Tryz.prog 48=some ⟨9,c_cf 85,[.tmp 4]⟩:=by kernel_rfl
theorem jgI:jag Tryz.prog 99=some ⟨19,c_if 2 (some 2),[.tmp 4]⟩:=by kernel_rfl
theorem jgJ:jag Tryz.prog 59=some ⟨9,c_cf 99,[.tmp 4]⟩:=by kernel_rfl
abbrev bx2 {f:FuncId}(hf:f≠15∧f≠117): ∀(args:List AV) (fl:Nat→Bool) (hp:Heap),args.length=2→boxF tb f args fl hp=none:=jaf (z:=Z64 0) (zs:=[Z64 0]) hf
theorem large1_z {t:ByteArray}(hK:K (ZBo (decide (200<t.size))) H):ZC (XC tb nd) (jag Tryz.prog) 80 [.val (.string t)] L H K:=by
 refine Z9 Gh.no (jaf (by decide)) joZ (by simp) ?_;simp only[jjr,kkP];have e:decide ((200:Int)<(t.size:Int))=decide (200<t.size):=decide_eq_decide.2 (by omega);have fin:=Fin.keep (H0:=H) hK;rw[←e] at fin;clear hK e;with_reducible repeat' first|simp only[zQ,seval,X0,Value.string.injEq,exists_eq_left', *]|simp only[jab]|apply P3|intro _
def lrgB (f:FnT):Bool:=decide (600<f.2.2.2.2.length)||decide (60<f.2.1)
theorem large2_z (hK:K (ZBo (lrgB f)) H):ZC (XC tb nd) (jag Tryz.prog) 81 [.agg (eFn f)] L H K:=by
 refine K6 Gh.no (jaf (by decide)) joY (by simp) fun hL=>?_
 simp only[jjq,kkP];have g0: ∀P Y,(H++(P::Y))[H.length]?=some P:=fun P Y=>jcr
 have HK:=Z4 hK;clear hK;by_cases h1:600<f.2.2.2.2.length
 ·have fin: ∀X,Fin H (ZBo true) (H++X) K:=fun X=>finX rfl (by have:=HK.out;unfold lrgB at this;rw[decide_eq_true h1] at this;exact this)
  have h1':(600:Int)<(f.2.2.2.2.length:Int):=by omega
  clear h1;with_reducible repeat' first|simp only[zQ,seval,X0,g0,h1', *]|simp only[jab]|apply P3|intro _
 ·have fin: ∀X,Fin H (ZBo (decide (60<f.2.1))) (H++X) K:=fun X=>finX rfl (by have:=HK.out;unfold lrgB at this;rw[decide_eq_false h1] at this;exact this)
  have h1': ¬(600:Int)<(f.2.2.2.2.length:Int):=by omega
  clear h1;with_reducible repeat' first|simp only[zQ,seval,X0,g0,h1', *]|simp only[jab]|apply P3|intro _
structure jn8 (p:PrT):Prop where
  fns:p.1.length≤100000000000000
  txts:p.2.2.length≤100000000000000
  caus: ∀g∈p.1,g.2.2.2.1.length≤100000000000000
  str: ∀t∈p.2.2,t.size≤maxLen
theorem jfu:jgE p=(decide (60<p.1.length)||decide (200<p.2.1.length)||decide (200<p.2.2.length)||p.2.2.any (fun t=>decide (200<t.size))||p.1.any lrgB):=rfl
theorem large_z (bg:jn8 p)(hK:K (ZBo (jgE p)) H):ZC (XC tb nd) (jag Tryz.prog) 46 [.agg (ePr p)] L H K:=by
 refine K6 Gh.no (jaf (by decide)) jrX (by simp) fun hL=>?_
 simp only[jk5,kkP];have g0: ∀P Y,(H++(P::Y))[H.length]?=some P:=fun P Y=>jcr
 have HK:=Z4 hK;have BG:=Z4 bg;have fin0: ∀b X,jgE p=b→Fin H (ZBo b) (H++X) K:=fun b X h=>finX rfl (by rw[←h];exact HK.out)
 clear hK bg;by_cases h1:60<p.1.length
 ·have fin:=fun X=>fin0 true X (by rw[jfu,decide_eq_true h1];simp)
  have h1':(60:Int)<(p.1.length:Int):=by omega
  clear h1 fin0;with_reducible repeat' first|simp only[zQ,seval,X0,g0,h1', *]|simp only[jab]|apply P3|intro _
 have h1': ¬(60:Int)<(p.1.length:Int):=by omega
 by_cases h2:200<p.2.1.length
 ·have fin:=fun X=>fin0 true X (by rw[jfu,decide_eq_true h2];simp)
  have h2':(200:Int)<(p.2.1.length:Int):=by omega
  clear h1 h2 fin0;with_reducible repeat' first|simp only[zQ,seval,X0,g0,h1',h2', *]|simp only[jab]|apply P3|intro _
 have h2': ¬(200:Int)<(p.2.1.length:Int):=by omega
 by_cases h3:200<p.2.2.length
 ·have fin:=fun X=>fin0 true X (by rw[jfu,decide_eq_true h3];simp)
  have h3':(200:Int)<(p.2.2.length:Int):=by omega
  clear h1 h2 h3 fin0;with_reducible repeat' first|simp only[zQ,seval,X0,g0,h1',h2',h3', *]|simp only[jab]|apply P3|intro _
 have h3': ¬(200:Int)<(p.2.2.length:Int):=by omega
 have e:jgE p=(p.2.2.any (fun t=>decide (200<t.size))||p.1.any lrgB):=by rw[jfu,decide_eq_false h1,decide_eq_false h2,decide_eq_false h3];simp
 have HE:=Z4 e;clear h1 h2 h3 e;with_reducible repeat' first|simp only[zQ,seval,X0,g0,h1',h2',h3', *]|simp only[jab]|apply P3|intro _
 refine ji4 (l:=p.2.2) (e:=eSt) (arg:=fun t=> .val (.string t)) (p:=fun t=>decide (200<t.size)) jqv (bx2 (by decide)) jqt (bx2 (by decide)) (fun m _=>rfl) (by rw[jaM]) BG.out.txts (fun m _ K hK=>large1_z hK) ?_
 cases h4:p.2.2.any (fun t=>decide (200<t.size)) with
 |true=>
  have fin:=fun X=>fin0 true X (by rw[HE.out,h4];rfl)
  clear h4 fin0;with_reducible repeat' first|simp only[zQ,seval,X0,g0,h1',h2',h3', *]|simp only[jab]|apply P3|intro _
 |false=>
  have fin:=fun X=>fin0 (p.1.any lrgB) X (by rw[HE.out,h4];rfl)
  clear h4 fin0;with_reducible repeat' first|simp only[zQ,seval,X0,g0,h1',h2',h3', *]|simp only[jab]|apply P3|intro _
  refine ji4 (l:=p.1) (e:=eFn) (arg:=fun f=> .agg (eFn f)) (p:=lrgB) jqw (bx2 (by decide)) jqu (bx2 (by decide)) (fun m _=>rfl) (by rw[jaM]) BG.out.fns (fun m _ K hK=>large2_z hK) ?_;with_reducible repeat' first|simp only[zQ,seval,X0,g0,h1',h2',h3', *]|simp only[jab]|apply P3|intro _
theorem sz_of (bg:jn8 p)(h:jgE p=false):SzOk p:=by
 rw[jfu] at h;simp only[L8,decide_eq_false_iff_not] at h;obtain⟨⟨⟨⟨h1,h2⟩,h3⟩,h4⟩,h5⟩:=h;refine⟨by omega,by omega,by omega,bg.caus,fun g hg=>?_⟩;have:=Z6.1 h5 g hg;simp only[lrgB,R7,decide_eq_true_eq,not_or] at this;omega
/-! ### Texts and constants -/
theorem jtp {nt:Nat}{k n:Int}{i:Nat}(hn:p.2.2.length=nt)(hi:H[i]?=some (.box (ePr p)))(hK:K (ZBo (jf0 nt (k,n))) H):ZC (XC tb nd) (jag Tryz.prog) 83 [.agg [Z64 k,Z64 n],.ptr i 0] L H K:=by
 refine K6 Gh.no (jaf (by decide)) jnl (by simp) fun hL=>?_
 simp only[jhB,kkP];have g0: ∀P Y,(H++(P::Y))[H.length]?=some P:=fun P Y=>jcr
 have gi: ∀Y,(H++Y)[i]?=some (.box (ePr p)):=fun Y=>by rw[V5 (jap hi)];exact hi
 have HK:=Z4 hK;have fin0: ∀b X,jf0 nt (k,n)=b→Fin H (ZBo b) (H++X) K:=fun b X h=>finX rfl (by rw[←h];exact HK.out)
 clear hK hi;with_reducible repeat' first|simp only[zQ,seval,X0,g0,gi, *]|simp only[jab]|apply P3|intro _
 refine jtV ?_
 cases h1:jcl (k,n) with
 |false=>
  have fin:=fun X=>fin0 true X (by simp[jf0,h1])
  clear h1 fin0;with_reducible repeat' first|simp only[zQ,seval,X0,g0,gi, *]|simp only[jab]|apply P3|intro _
 |true=>
  by_cases h2:k=5
  ·subst h2
   have fin:=fun X=>fin0 true X (by simp[jf0])
   clear h1 fin0;with_reducible repeat' first|simp only[zQ,seval,X0,g0,gi, *]|simp only[jab]|apply P3|intro _
  by_cases h3:k=4
  ·subst h3
   have fin:=fun X=>fin0 (decide ((nt:Int)≤n)) X (by simp[jf0,h1])
   clear h1 fin0;with_reducible repeat' first|simp only[zQ,seval,X0,g0,gi,hn, *]|simp only[jab]|apply P3|intro _
  ·have fin:=fun X=>fin0 false X (by simp[jf0,h1,h2,h3])
   clear h1 fin0;with_reducible repeat' first|simp only[zQ,seval,X0,g0,gi,h2,h3, *]|simp only[jab]|apply P3|intro _
def txM (l:List ByteArray):List (KZ×ZV):=l.map fun t=>(.s t,Z64 1)
theorem jtj {t:ByteArray}: ∀{l:List ByteArray},jdP (txM l) (.s t)=if l.any (fun s=>decide (t=s))=true then some (Z64 1) else none
 |[]=>rfl
 |s::l=>by
  show (if KZ.s t=KZ.s s then some (Z64 1) else jdP (txM l) (.s t))=_;by_cases h:t=s
  ·subst h;simp
  ·rw[if_neg (by intro e;injection e with e;exact h e),jtj,L9,decide_eq_false h,Bool.false_or]
theorem tx_put {t:ByteArray}: ∀{l:List ByteArray},l.any (fun s=>decide (t=s))=false→jgU (txM l) (.s t) (Z64 1)=txM (l++[t])
 |[],_=>rfl
 |s::l,h=>by
  simp only[L9,L8,decide_eq_false_iff_not] at h;show (if KZ.s t=KZ.s s then _ else (KZ.s s,Z64 1)::jgU (txM l) (.s t) (Z64 1))=_;rw[if_neg (by intro e;injection e with e;exact h.1 e),tx_put h.2];rfl
theorem jpX {l:List ByteArray}{t:ByteArray}: ∀{a:List ByteArray},a.any (fun s=>decide (t=s))=true→jir (a++t::l)=true
 |[],h=>by simp at h
 |s::a,h=>by
  simp only[L9,R7,decide_eq_true_eq] at h;rw[List.cons_append];show ((a++t::l).any _||jir (a++t::l))=true;rcases h with rfl|h
  ·simp
  ·rw[jpX h];simp
theorem jpY: ∀{l:List ByteArray},(∀k,(hk:k<l.length)→(l.take k).any (fun s=>decide (l[k]=s))=false)→jir l=false
 |[],_=>rfl
 |t::l,h=>by
  show (_||_)=false;rw[L8];constructor
  ·rw[Z6]
   intro s hs;obtain⟨i,hi,rfl⟩:=W6.1 hs;have:=h (i+1) (by simpa using hi);simp only[F4,L9,H5,L8,decide_eq_false_iff_not] at this;simpa using fun e:t=l[i]=>this.1 e.symm
  ·refine jpY fun k hk=>?_
   have:=h (k+1) (by simpa using hk);simp only[F4,L9,H5,L8] at this;exact this.2
theorem jgy {v:ZV}{z:ZV}:mgot false z (some v)=v:=rfl
theorem jgz {z:ZV}:mgot false z none=z:=rfl
def TxTo (l:List ByteArray)(k:Nat):Prop:= ∀j,(hj:j<l.length)→j<k→(l.take j).any (fun s=>decide (l[j]=s))=false
theorem tables_z (bg:jn8 p)(sz:SzOk p)(hK:K (ZBo (jd1 jca p)) H):ZC (XC tb true) (jag Tryz.prog) 47 [.agg (ePr p)] L H K:=by
 refine K6 Gh.no (jaf (by decide)) joX (by simp) fun hL=>?_
 simp only[jjp,kkP];have g0: ∀P Y,(H++(P::Y))[H.length]?=some P:=fun P Y=>jcr
 have g1: ∀P Q Y,(H++(P::Q::Y))[H.length+1]?=some Q:=fun P Q Y=>jeF
 have s1: ∀P Q T Y,(H++(P::Q::Y)).set (H.length+1) T=H++(P::T::Y):=fun P Q T Y=>jhO
 have HK:=Z4 hK;have BG:=Z4 bg;have SZ:=Z4 sz;have fin0: ∀b X,jd1 jca p=b→Fin H (ZBo b) (H++X) K:=fun b X h=>finX rfl (by rw[←h];exact HK.out)
 have hwl:((jdr.length:Nat):Int)=19:=by rw[jdZ];rfl
 have hl1:L (H.length+1)=true:=hL 1;clear hK bg sz hL;with_reducible repeat' first|simp only[zQ,seval,X0,g0, *]|simp only[jab]|apply P3|intro _
 refine jpU ?_;by_cases h1:p.2.2.length<19
 ·have fin := fun X => fin0 false X (by
   unfold jd1;rw[decide_eq_false (fun e=>?_)];rfl
   have:=congrArg List.length e;rw[C4,jcF] at this;omega)
  have h1':(p.2.2.length:Int)<19:=by omega
  clear h1 fin0;with_reducible repeat' first|simp only[zQ,seval,X0,g0,hwl,h1', *]|simp only[jab]|apply P3|intro _
 have h1': ¬(p.2.2.length:Int)<19:=by omega
 have ct: ∀H,cutZ H 1 0 19 p.2.2.length (none:Option Opd).isSome (.fz 1 false (p.2.2.map eSt))=some (.fz 1 false ((p.2.2.take 19).map eSt)):=fun H=>by
  simp only[cutZ,P2,L4];rw[if_pos ⟨trivial,by omega,by omega,V2 _⟩,if_neg (fun e=>by have:=congrArg List.length e;rw[P2,G9] at this;omega),W1,L6];simp
 have nn:natZ (Z64 19)=some 19:=rfl;with_reducible repeat' first|simp only[zQ,seval,X0,g0,hwl,h1',ct,nn,num0,num1,Q9, *]|simp only[jab]|apply P3|intro _
 refine eqs_z (l1:=p.2.2.take 19) (l2:=jca) (by rw[jaM]) (by rw[jaM];rfl) (by simp;omega) (by rw[jcF];omega) ?_
 cases h2:decide (p.2.2.take 19=jca) with
 |false=>
  have fin:=fun X=>fin0 false X (by unfold jd1;rw[jcF,h2];rfl)
  clear h1 h2 fin0;with_reducible repeat' first|simp only[zQ,seval,X0, *]|simp only[jab]|apply P3|intro _
 |true=>
 have eT:jd1 jca p=(!jir p.2.2&& !p.2.1.any (jf0 p.2.2.length)):=by unfold jd1;rw[jcF,h2];simp
 have HE:=Z4 eT;have hz:ja2 (H++[.box (ePr p),.box [ZBo true]]) 1 (.fz 1 false (p.2.2.map eSt))=some (p.2.2.map eSt):=by rw[jaM]
 clear h2 eT ct nn hz;with_reducible repeat' first|simp only[zQ,seval,X0,g0,jlh, *]|simp only[jab]|apply P3|intro _
 clear h1 h1';refine jaK [(1,.ptr H.length 0),(4,.mp (H.length+1)),(26,.fz 1 false (p.2.2.map eSt))] p.2.2.length (fun k s h'=>h'=H++[.box (ePr p),.box (ZBo true::(txM (p.2.2.take k)).map entK)]∧TxTo p.2.2 k) (by have:=SZ.out.txts;omega) ⟨rfl,rfl,rfl,rfl,rfl,rfl⟩ rfl rfl (by repeat' (first|exact trivial|(refine⟨rfl,?_⟩)|(refine⟨by simp only[jaj,X4,reduceIte];assumption,?_⟩))) rfl rfl (by decide) ⟨rfl,fun j hj h=>by omega⟩ ?_ ?_
 ·rintro k s' h' hk ⟨rfl,htx⟩ hi hl ⟨f1,f4,f26,-⟩
  obtain⟨t,ht⟩: ∃t,p.2.2[k]?=some t:=⟨_,U1 hk⟩;have htk:p.2.2[k]=t:=by have:=U1 hk;rw[ht] at this;injection this with this;exact this.symm
  have hts:=BG.out.str t (R5 ht);have hfi:=jtj (t:=t) (l:=p.2.2.take k)
  cases hd:(p.2.2.take k).any (fun s=>decide (t=s)) with
  |true=>
   rw[hd,if_pos rfl] at hfi;have fin := fun X => fin0 false X (by
    rw[HE.out];have e:p.2.2=p.2.2.take k++t::p.2.2.drop (k+1):=by rw[←htk,← List.drop_eq_getElem_cons hk,List.take_append_drop]
    have:=jpX (l:=p.2.2.drop (k+1)) hd;rw[←e] at this;rw[this];rfl)
   clear hd htk fin0;with_reducible repeat' first|simp only[zQ,seval,X0,g0,g1,s1,hl1,ht,hts,hfi,jev,jeu,List.cons.injEq,je0,jgy,jgz,ZV.mp.injEq,Value.string.injEq,exists_eq_left', *]|simp only[jab]|apply P3|intro _
  |false=>
   rw[hd] at hfi;simp only[Bool.false_eq_true,if_false] at hfi;have hpu:=tx_put hd;have htt:p.2.2.take (k+1)=p.2.2.take k++[t]:=by rw[X5 hk,htk]
   rw[←htt] at hpu;have fin:TxTo p.2.2 (k+1):=fun j hj hjk=>by
    by_cases h:j=k
    ·subst h;rw[htk];exact hd
    ·exact htx j hj (by omega)
   have FN:=Z4 fin;clear hd htk fin0 htx htt fin;with_reducible repeat' first|simp only[zQ,seval,X0,g0,g1,s1,hl1,ht,hts,hfi,hpu,jev,jeu,List.cons.injEq,je0,jgy,jgz,ZV.mp.injEq,Value.string.injEq,exists_eq_left', *]|simp only[jab]|apply P3|intro _
   exact FN.out
 ·rintro s' h' ⟨rfl,htx⟩ ⟨f1,f4,f26,-⟩
  have h3:jir p.2.2=false:=jpY fun k hk=>htx k hk hk
  have fin:=fun X=>fin0 (!p.2.1.any (jf0 p.2.2.length)) X (by rw[HE.out,h3];rfl)
  have hgi:(H++[ZB.box (ePr p),ZB.box (ZBo true::(txM (p.2.2.take p.2.2.length)).map entK)])[H.length]?=some (.box (ePr p)):=g0 _ _;have HGI:=Z4 hgi;clear h3 htx fin0 hgi;with_reducible repeat' first|simp only[zQ,seval,X0,g0, *]|simp only[jab]|apply P3|intro _
  refine ji4 (l:=p.2.1) (e:=eVl) (arg:=fun v=> .agg (eVl v)) (p:=jf0 p.2.2.length) jgJ (bx2 (by decide)) jgI (bx2 (by decide)) (fun m _=>rfl) (by rw[jaM]) (by have:=SZ.out.cons;omega) (fun m _ K hK=>jtp (k:=m.1) (n:=m.2) rfl HGI.out hK) ?_;with_reducible repeat' first|simp only[zQ,seval,X0,g0, *]|simp only[jab]|apply P3|intro _
/-! ### All of it -/
def jhy (f:FnT):Bool:=decide (f.1=0)&&f.2.2.2.1.isEmpty&& !f.2.2.1
theorem ji3 {ws:List ByteArray}:jgL ws p=if jgE p=true then 2 else if jd1 ws p=true∧(match p.1 with|f::_=>jhy f|[]=>false)=true then (if p.1.all (ja9 p)=true then 0 else 3) else 3:=rfl
theorem check_z (bg:jn8 p)(hK:K (Z64 (jgL jca p)) H):ZC (XC tb true) (jag Tryz.prog) 30 [.agg (ePr p)] L H K:=by
 refine K6 Gh.no (jaf (by decide)) jrY (by simp) fun hL=>?_
 simp only[jk6,kkP];have g0: ∀P Y,(H++(P::Y))[H.length]?=some P:=fun P Y=>jcr
 have HK:=Z4 hK;have BG:=Z4 bg;have fin0: ∀b X,jgL jca p=b→Fin H (Z64 b) (H++X) K:=fun b X h=>finX rfl (by rw[←h];exact HK.out)
 clear hK bg hL;with_reducible repeat' first|simp only[zQ,seval,X0,g0, *]|simp only[jab]|apply P3|intro _
 refine large_z BG.out ?_
 cases h1:jgE p with
 |true=>
  have fin:=fun X=>fin0 2 X (by rw[ji3,if_pos h1])
  clear h1 fin0;with_reducible repeat' first|simp only[zQ,seval,X0,g0, *]|simp only[jab]|apply P3|intro _
 |false=>
 have SZ:=Z4 (sz_of BG.out h1);have e1:jgL jca p=if jd1 jca p=true∧(match p.1 with|f::_=>jhy f|[]=>false)=true then (if p.1.all (ja9 p)=true then 0 else 3) else 3:=by rw[ji3,if_neg (by rw[h1];decide)]
 have HE:=Z4 e1;clear h1 e1;with_reducible repeat' first|simp only[zQ,seval,X0,g0, *]|simp only[jab]|apply P3|intro _
 refine tables_z BG.out SZ.out ?_
 cases h2:jd1 jca p with
 |false=>
  have fin:=fun X=>fin0 3 X (by rw[HE.out,if_neg (fun h=>by rw[h2] at h;cases h.1)])
  clear h2 fin0;with_reducible repeat' first|simp only[zQ,seval,X0,g0, *]|simp only[jab]|apply P3|intro _
 |true=>
 have HT:=Z4 h2;clear h2;rcases hp:p.1 with _|⟨f0,r⟩
 ·have fin:=fun X=>fin0 3 X (by rw[HE.out,hp,if_neg (fun h=>by cases h.2)])
  have hl:(p.1.length:Int)=0:=by rw[hp];rfl
  clear hp fin0;with_reducible repeat' first|simp only[zQ,seval,X0,g0,hl, *]|simp only[jab]|apply P3|intro _
 have e2:jgL jca p=if jhy f0=true then (if p.1.all (ja9 p)=true then 0 else 3) else 3:=by
  rw[HE.out,hp];simp only[HT.out,true_and]
 have HE2:=Z4 e2;have hl: ¬(p.1.length:Int)=0:=by rw[hp];simp;omega
 have h0:p.1[0]?=some f0:=by rw[hp];rfl
 have n0:natZ (Z64 0)=some 0:=rfl;have hp0:0<p.1.length:=by rw[hp];simp
 clear hp e2;by_cases h3:f0.1=0
 ·by_cases h4:0<f0.2.2.2.1.length
  ·have fin := fun X => fin0 3 X (by
    rw[HE2.out,if_neg (fun h=>?_)];unfold jhy at h;simp only[U2,List.isEmpty_iff] at h;rw[h.1.2] at h4;simp at h4)
   have h4':(0:Int)<(f0.2.2.2.1.length:Int):=by omega
   clear h4 fin0;with_reducible repeat' first|simp only[zQ,seval,X0,g0,hl,hp0,h0,n0,h3,h4', *]|simp only[jab]|apply P3|intro _
  ·have h4': ¬(0:Int)<(f0.2.2.2.1.length:Int):=by omega
   cases h5:f0.2.2.1 with
   |true=>
    have fin := fun X => fin0 3 X (by
     rw[HE2.out,if_neg (fun h=>?_)];unfold jhy at h;rw[h5] at h;simp at h)
    clear h4 fin0;with_reducible repeat' first|simp only[zQ,seval,X0,g0,hl,hp0,h0,n0,h3,h4',h5, *]|simp only[jab]|apply P3|intro _
   |false=>
    have hfb:jhy f0=true:=by
     unfold jhy;have:f0.2.2.2.1=[]:=Y9 (by omega);rw[h3,this,h5];rfl
    have e3:jgL jca p=if p.1.any (fun f=> !ja9 p f)=true then 3 else 0:=by
     rw[HE2.out,if_pos hfb]
     cases ha:p.1.all (ja9 p) with
     |true=>
      have:p.1.any (fun f=> !ja9 p f)=false:=by
       rw[Z6];intro x hx;rw[N2.1 ha x hx];simp
      rw[this];rfl
     |false=>
      have:p.1.any (fun f=> !ja9 p f)=true:=by
       rw[Z8];obtain⟨x,hx,h⟩:=List.all_eq_false.1 ha;exact⟨x,hx,by simpa using h⟩
      rw[this];rfl
    have HE3:=Z4 e3;clear h4 hfb e3;with_reducible repeat' first|simp only[zQ,seval,X0,g0,hl,hp0,h0,n0,h3,h4',h5, *]|simp only[jab]|apply P3|intro _
    refine ji4 (l:=p.1) (e:=eFn) (arg:=fun f=> .agg (eFn f)) (p:=fun f=> !ja9 p f) jqw (bx2 (by decide)) jqu (bx2 (by decide)) (fun m _=>rfl) (by rw[jaM]) BG.out.fns (fun m hm K hK=>check1_z (nd:=true) SZ.out hm (g0 _ _) hK) ?_
    cases h6:p.1.any (fun f=> !ja9 p f) with
    |true=>
     have fin:=fun X=>fin0 3 X (by rw[HE3.out,h6];rfl)
     clear h6 fin0;with_reducible repeat' first|simp only[zQ,seval,X0,g0, *]|simp only[jab]|apply P3|intro _
    |false=>
     have fin:=fun X=>fin0 0 X (by rw[HE3.out,h6];rfl)
     clear h6 fin0;with_reducible repeat' first|simp only[zQ,seval,X0,g0, *]|simp only[jab]|apply P3|intro _
 ·have fin := fun X => fin0 3 X (by
   rw[HE2.out,if_neg (fun h=>?_)];unfold jhy at h;simp only[U2,decide_eq_true_eq] at h;exact h3 h.1.1)
  clear fin0;with_reducible repeat' first|simp only[zQ,seval,X0,g0,hl,hp0,h0,n0,h3, *]|simp only[jab]|apply P3|intro _
end
section
open Go Go.RowKit
variable {tb:List (FuncId×Bool)}{nd:Bool}{L:Nat→Bool}{H X:ZH}{K:ZV→ZH→Prop}{p:PrT}{f:FnT}
theorem jai:type_of% (P3 (P3 (P3 @jcr @jeF) (P3 @jfV @jsa)) (P3 (P3 @jjG @jhO) (P3 @jjF @jvp))):=P3 (P3 (P3 @jcr @jeF) (P3 @jfV @jsa)) (P3 (P3 @jjG @jhO) (P3 @jjF @jvp))
abbrev wayZ (f:FnT):ZV:= .fz 1 true ((jdQ f.2.2.2.2).seen.map eB)
def AllZ (zl:List ZV)(l:List FnT):Prop:=zl.length=l.length∧ ∀(i:Nat) z f,zl[i]?=some z→l[i]?=some f→ ∃oz,z= .fz 1 true (oz.map fun z=>[z])∧OzOk oz (jdQ f.2.2.2.2).out
theorem AllZ.snoc {zl:List ZV}{l:List FnT}{oz:List ZV}(h:AllZ zl l)(ho:OzOk oz (jdQ f.2.2.2.2).out):AllZ (zl++[.fz 1 true (oz.map fun z=>[z])]) (l++[f]):=by
 refine⟨by simp[h.1],fun i z g hz hg=>?_⟩;by_cases hi:i<zl.length
 ·rw[V5 hi] at hz
  rw[V5 (by rw[←h.1];exact hi)] at hg;exact h.2 i z g hz hg
 ·rw[N0 (by omega)] at hz
  rw[N0 (by rw[←h.1];omega),← h.1] at hg;have:i - zl.length=0:=by
   cases hc:i - zl.length with
   |zero=>rfl
   |succ n=>rw[hc] at hz;simp at hz
  rw[this] at hz hg;injection hz with hz;injection hg with hg
  subst hz;subst hg
  exact⟨oz,rfl,ho⟩
theorem AllZ.pure {zl:List ZV}{l:List FnT}(h:AllZ zl l):(zl.map fun z=>[z]).flatten.all jbR=true:=by
 rw[N2];intro z hz;obtain⟨r,hr,hzr⟩:=Y6.1 hz;obtain⟨y,hy,rfl⟩:=U6.1 hr;rw[X6.1 hzr];obtain⟨i,hi,rfl⟩:=W6.1 hy;obtain⟨oz,e,_⟩:=h.2 i _ _ (U1 hi) (U1 (by rw[←h.1];exact hi));rw[e];rfl
theorem way_pure {l:List FnT}:(l.map fun f=>[wayZ f]).flatten.all jbR=true:=by
 induction l with
 |nil=>rfl
 |cons a l ih=>simp[B6,D6,ih,jbR]
theorem allFin {A:ZB}{g1 g2 n:Nat}{zl:List ZV}{l:List FnT}(hz:AllZ zl l)(hn:l.length=n)(hK:K (.tuple [.fz 1 false (zl.map fun z=>[z]),.fz 1 false (l.map fun f=>[wayZ f])]) H):
  Fin H (.tuple [.own (H.length+1) g1 0 n false,.own (H.length+2) g2 0 n false]) (H++(A:: .grow g1 1 (zl.map fun z=>[z]):: .grow g2 1 (l.map fun f=>[wayZ f])::X)) K:=by
 refine Fin.frzT (j:=0) (i:=H.length+1) (k:=1) (g:=g1) (off:=0) (len:=n) (ex:=false) (rows:=zl.map fun z=>[z]) rfl jeF (by simp[hz.1,hn]) hz.pure ?_;rw[jhO,W1,I5 (by simp[hz.1,hn])];refine Fin.frzT (j:=1) (i:=H.length+2) (k:=1) (g:=g2) (off:=0) (len:=n) (ex:=false) (rows:=l.map fun f=>[wayZ f]) rfl jfV (by simp[hn]) way_pure ?_;rw[jjF,W1,I5 (by simp[hn])];exact Fin.truncT (K4 H _) rfl (by rw[K5];exact hK)
theorem all_z (hn:p.1.length≤60)(hc: ∀f∈p.1,f.2.2.2.2.length≤600∧jvA f.2.2.2.2)(hK: ∀zl,AllZ zl p.1→K (.tuple [.fz 1 false (zl.map fun z=>[z]),.fz 1 false (p.1.map fun f=>[wayZ f])]) H):
  ZC (XC tb nd) (jag Tryz.prog) 34 [.agg (ePr p)] L H K:=by
 refine K6 ⟨[(4,[(0,1)]),(5,[(0,1)])],[],[]⟩ (jaf (by decide)) f_cc_all (by simp) fun hL=>?_
 simp only[jqM,kkP];have hl1:L (H.length+1)=true:=hL 1;have hl2:L (H.length+2)=true:=hL 2;have HL:=Z4 hL;have HK:=Z4 hK;have HN:=Z4 hn;have HC:=Z4 hc;clear hK hn hc hL;with_reducible repeat' first|simp only[zQ,seval,X0,jai, *]|simp only[jab]|apply P3|intro _
 refine jaK [(12,.fz 5 false (p.1.map eFn))] p.1.length (fun k s h'=> ∃zl g1 g2 X,s 4= .own (H.length+1) g1 0 k false∧s 5= .own (H.length+2) g2 0 k false∧h'=H++(.box (ePr p):: .grow g1 1 (zl.map fun z=>[z]):: .grow g2 1 ((p.1.take k).map fun f=>[wayZ f])::X)∧AllZ zl (p.1.take k)) (by have:=HN.out;omega) ⟨rfl,rfl,rfl,rfl,rfl,rfl⟩ rfl rfl (by repeat' (first|exact trivial|(refine⟨rfl,?_⟩)|(refine⟨by simp only[jaj,X4,reduceIte];assumption,?_⟩))) rfl rfl (by decide) ⟨[],0,0,[],rfl,rfl,rfl,⟨rfl,fun i z f h=>by simp at h⟩⟩ ?_ ?_
 ·rintro k s' h' hk ⟨zl,g1,g2,X,f4,f5,rfl,hz⟩ hi hl ⟨f12,-⟩
  obtain⟨f,hf⟩: ∃f,p.1[k]?=some f:=⟨_,U1 hk⟩;have hfk:p.1[k]=f:=by have:=U1 hk;rw[hf] at this;injection this with this;exact this.symm
  have hfc:=HC.out f (R5 hf);have htk:p.1.take (k+1)=p.1.take k++[f]:=by rw[X5 hk,hfk]
  have hX:L (H.length+(X.length+1+1+1))=true:=HL.out _;have hzl:zl.length=k:=by rw[hz.1];simp;omega
  have ap1: ∀z Y,appZ L (H++(.box (ePr p):: .grow g1 1 (zl.map fun z=>[z])::Y)) 1 24 [[z]] (.own (H.length+1) g1 0 k false)=some (.own (H.length+1) (g1+1) 0 (k+1) false,H++(.box (ePr p):: .grow (g1+1) 1 ((zl++[z]).map fun z=>[z])::Y)):=fun z Y=>by
   rw[jcU];refine⟨_,jeF,by simp[hzl],by have:=HN.out;unfold reach;simp;omega,hl1,rfl,?_⟩;rw[jhO,W1,I5 (by simp[hzl]),L3];rfl
  have ap2: ∀P Y,appZ L (H++(.box (ePr p)::P:: .grow g2 1 ((p.1.take k).map fun f=>[wayZ f])::Y)) 1 24 [[wayZ f]] (.own (H.length+2) g2 0 k false)=some (.own (H.length+2) (g2+1) 0 (k+1) false,H++(.box (ePr p)::P:: .grow (g2+1) 1 ((p.1.take (k+1)).map fun f=>[wayZ f])::Y)):=fun P Y=>by
   rw[jcU];refine⟨_,jfV,by simp;omega,by have:=HN.out;unfold reach;simp;omega,hl2,rfl,?_⟩;rw[jjF,W1,I5 (by simp;omega),htk,L3];rfl
  have HZ:=Z4 hz;have HT:=Z4 htk;clear htk hz hzl hfk;with_reducible repeat' first|simp only[zQ,seval,X0,jai,c_atX,c_stX,hX,hf, *]|simp only[jab]|apply P3|intro _
  refine jtl hfc.1 hfc.2 fun oz hoz=>?_
  have hz2:AllZ (zl++[.fz 1 true (oz.map fun z=>[z])]) (p.1.take (k+1)):=by rw[HT.out];exact HZ.out.snoc hoz
  have HZ2:=Z4 hz2;clear hz2 hoz hfc;obtain⟨zz,hzz⟩: ∃z,z=ZV.fz 1 true (oz.map fun z=>[z]):=⟨_,rfl⟩;rw[←hzz] at HZ2 ⊢;have hcl:zz.isCell=true∧zz.cells=[zz]∧jbR zz=true:=by rw[hzz];exact⟨rfl,rfl,rfl⟩
  clear hzz;with_reducible repeat' first|simp only[zQ,seval,X0,jai,ap1,ap2, *]|simp only[jab]|apply P3|intro _
  all_goals exact⟨zl++[zz],⟨_,rfl⟩,HZ2.out⟩
 ·rintro s' h' ⟨zl,g1,g2,X,f4,f5,rfl,hz⟩ ⟨f12,-⟩
  rw[I5 (V2 _)] at hz ⊢;have fin:=allFin (X:=X) (A:= .box (ePr p)) (g1:=g1) (g2:=g2) hz rfl (HK.out zl hz);clear hz;with_reducible repeat' first|simp only[zQ,seval,X0, *]|simp only[jab]|apply P3|intro _
end
end Go.Proofs.YtlkapggcppcafaaGreatDoor
