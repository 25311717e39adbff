/-
  Haul in ZM: words.
-/
import Derived.Test.YtjaahfncbechnaaGreatDoorMrT7
set_option linter.unusedVariables false
set_option linter.unusedSimpArgs false
namespace Go.Proofs.YtjaahfncbechnaaGreatDoor
section
open Go Go.RowKit
variable {tb:List (FuncId×Bool)}{L:Nat→Bool}{H:ZH}{K:ZV→ZH→Prop}
abbrev eU (n:Int):List ZV:=[.val (.int .u64 n)]
theorem jc2 {a b:List (Int×ZV)}:(a.map ent=b.map ent)↔a=b:=by
 constructor
 ·intro h
  have hi: ∀x y:Int×ZV,ent x=ent y→x=y:=fun x y h=>by
   simp only[ent,ZV.tuple.injEq,List.cons.injEq,ZV.val.injEq,Value.int.injEq,true_and,and_true] at h
   exact Prod.ext h.1 h.2
  induction a generalizing b with
  |nil=>cases b with
   |nil=>rfl
   |cons=>simp at h
  |cons x a ih=>cases b with
   |nil=>simp at h
   |cons y b=>
    simp only[List.map_cons,List.cons.injEq] at h
    rw[hi x y h.1,ih h.2]
 ·rintro rfl;rfl
theorem jrh {w:Int}(hK:K (Z64 (w % 4294967296)) H):ZC (boxX tb) (jal Tryz.prog) 39 [.val (.int .u64 w)] L H K:=by
 refine ZC.enter Gh.no (jai (by decide)) jrL (by simp) ?_
 simp only[jld,kkP]
 have h1:IntKind.u32.wrap w=w % 4294967296:=by simp[IntKind.wrap,IntKind.signed,IntKind.bits]
 have h2:IntKind.i64.wrap (w % 4294967296)=w % 4294967296:=IntWalk.i64_in _ (by omega)
 have fin:=Fin.keep (H0:=H) hK
 clear hK
 with_reducible repeat' first|simp only[zP,jaf,jaa,jad,jac,seval,Nat.reduceLeDiff,h1,h2, *]|simp only[jab]|apply And.intro|intro _
def jax (w:Int):Bool:=decide (unE w=0)&&decide (jaw w=5)
theorem jq3 {w:Int}(h0:0≤w∧w<18446744073709551616)(hK:K (.tuple [Z64 (jau w),ZBo (jax w)]) H):ZC (boxX tb) (jal Tryz.prog) 70 [.val (.int .u64 w)] L H K:=by
 refine ZC.enterL Gh.no (jai (by decide)) jo1 (by simp) fun hL=>?_
 simp only[jiv,kkP]
 have fin: ∀X,Fin H (.tuple [Z64 (jau w),ZBo (jax w)]) (H++X) K:=fun X=>Fin.trunc (Mods.ext H X) rfl (by rw[List.take_left];exact hK)
 clear hK
 have hL0:L H.length=true:=hL 0
 with_reducible repeat' first|simp only[zP,jaf,jaa,jad,jac,seval,Nat.reduceLeDiff,h0, *]|simp only[jab]|apply And.intro|intro _
 refine jlr h0 ?_
 by_cases h1:unE w=0
 ·by_cases h2:jaw w=5
  ·have hp:jax w=true:=by simp[jax,h1,h2]
   rw[hp] at fin
   with_reducible repeat' first|simp only[zP,jaf,jaa,jad,jac,seval,Nat.reduceLeDiff,h1,h2, *]|simp only[jab]|apply And.intro|intro _
  ·have hp:jax w=false:=by simp[jax,h1,h2]
   rw[hp] at fin
   with_reducible repeat' first|simp only[zP,jaf,jaa,jad,jac,seval,Nat.reduceLeDiff,h1,h2, *]|simp only[jab]|apply And.intro|intro _
 ·have hp:jax w=false:=by simp[jax,h1]
  rw[hp] at fin
  with_reducible repeat' first|simp only[zP,jaf,jaa,jad,jac,seval,Nat.reduceLeDiff,h1, *]|simp only[jab]|apply And.intro|intro _
theorem hkind_z {w:Int}(h0:0≤w∧w<18446744073709551616)(hK:K (Z64 (jdZ w)) H):ZC (boxX tb) (jal Tryz.prog) 106 [.val (.int .u64 w)] L H K:=by
 refine ZC.enterL Gh.no (jai (by decide)) jrM (by simp) fun hL=>?_
 simp only[jle,kkP]
 have fin: ∀X,Fin H (Z64 (jdZ w)) (H++X) K:=fun X=>Fin.trunc (Mods.ext H X) rfl (by rw[List.take_left];exact hK)
 clear hK
 have hL0:L H.length=true:=hL 0
 with_reducible repeat' first|simp only[zP,jaf,jaa,jad,jac,seval,Nat.reduceLeDiff,h0, *]|simp only[jab]|apply And.intro|intro _
 refine jlr h0 ?_
 by_cases h1:unE w=0
 ·have hp:jdZ w=jaw w:=by simp[jdZ,h1]
  rw[hp] at fin
  with_reducible repeat' first|simp only[zP,jaf,jaa,jad,jac,seval,Nat.reduceLeDiff,h1, *]|simp only[jab]|apply And.intro|intro _
 ·have hp:jdZ w= -1:=by simp[jdZ,h1]
  rw[hp] at fin
  with_reducible repeat' first|simp only[zP,jaf,jaa,jad,jac,seval,Nat.reduceLeDiff,h1, *]|simp only[jab]|apply And.intro|intro _
def lng (w:Int):Nat:=(w % 4294967296).toNat
def objs (l:List Int)(a:Nat):List Nat:=if h:a<l.length then a::objs l (a+1+lng l[a]) else []
termination_by l.length - a
def jaq (l:List Int)(a:Nat):Nat:=if h:a<l.length then jaq l (a+1+lng l[a]) else a
termination_by l.length - a
abbrev eN (n:Nat):List ZV:=[Z64 (n:Int)]
theorem jay {W:ZH}(A:ZB)(X:ZH):(W++(A::X))[W.length]?=some A:=by rw[List.getElem?_append_right (Nat.le_refl _),Nat.sub_self];rfl
theorem jbR {W:ZH}(A C:ZB)(X:ZH):(W++(A::X)).set W.length C=W++(C::X):=by rw[List.set_append_right _ _ (Nat.le_refl _),Nat.sub_self];rfl
theorem hl_pure {l:List Nat}:(l.map eN).flatten.all jbL=true:=by
 induction l with
 |nil=>rfl
 |cons a l ih=>rw[List.map_cons,List.flatten_cons,List.all_append,ih];rfl
theorem jq9 {z:ZV}{l:List Int}(hzX: ∀X,jbi (H++X) 1 z=some (l.map eU))(hb:l.length≤1000000000)(hK:K (.tuple [.fz 1 false ((objs l 0).map eN),ZBo (decide ((jaq l 0:Int)=(l.length:Int)))]) H):
  ZC (boxX tb) (jal Tryz.prog) 68 [z] L H K:=by
 refine ZC.enterL ⟨[(4,[(0,1)])],[],[]⟩ (jai (by decide)) jkK (by simp) fun hL=>?_
 simp only[jfo,kkP]
 have hL0:L H.length=true:=hL 0
 have F: ∀g' X,Fin H (.tuple [.own H.length g' 0 (objs l 0).length false,ZBo (decide ((jaq l 0:Int)=(l.length:Int)))]) (H++(.grow g' 1 ((objs l 0).map eN)::X)) K:=fun g' X=>by
  refine Fin.frzT (j:=0) rfl (k:=1) (rows:=(objs l 0).map eN) (jay _ _) (by simp) hl_pure ?_
  rw[jbR,List.drop_zero,List.take_of_length_le (by simp)]
  exact Fin.trunc (Mods.ext H _) rfl (by rw[List.take_left];exact hK)
 have FF:=Lib.hid F
 clear hK F
 with_reducible repeat' first|simp only[zP,jaf,jaa,jad,jac,seval,Nat.reduceLeDiff,hL0, *]|simp only[jab]|apply And.intro|intro _
 refine jdr [(0,z)] l.length (fun m s' h'=> ∃(a:Nat) (o:List Nat) (g:Nat) (X:ZH),s' 5=Z64 (a:Int)∧s' 4= .own H.length g 0 o.length false∧h'=H++(.grow g 1 (o.map eN)::X)∧m=l.length - a∧o++objs l a=objs l 0∧jaq l a=jaq l 0∧o.length≤a∧a≤l.length+4294967296) (by repeat' (first|exact trivial|(refine⟨rfl,?_⟩)|(refine⟨by simp only[jaQ,Nat.reduceEqDiff,reduceIte];assumption,?_⟩))) rfl ⟨0,[],0,[],rfl,rfl,rfl,rfl,rfl,rfl,Nat.le_refl _,Nat.zero_le _⟩ ?_
 rintro m s' h' ⟨a,o,g,X,s5,s4,rfl,rfl,ho,he,hoa,hal⟩ ⟨f0,-⟩
 have hln:=jb7 (hzX (.grow g 1 (o.map eN)::X))
 rw[List.length_map] at hln
 have HB:=Lib.hid hb
 by_cases ha:a<l.length
 ·have g1:(a:Int)<(l.length:Int):=by omega
  obtain⟨q,hq,hld⟩:=jd9 (hzX (.grow (g+1) 1 (o.map eN++[eN a])::X)) (j:=a) (by simpa using ha)
  have g0: ∀A Y,(H++(A::Y))[H.length]?=some A:=fun A Y=>jay A Y
  have gs: ∀A C Y,(H++(A::Y)).set H.length C=H++(C::Y):=fun A C Y=>jbR A C Y
  have hr:(o.length+1)*8≤ja5:=by unfold ja5;omega
  have ho':objs l a=a::objs l (a+1+lng l[a]):=by rw[objs];simp[ha]
  have he':jaq l a=jaq l (a+1+lng l[a]):=by rw[jaq];simp[ha]
  have hlg:(lng l[a]:Int)=l[a] % 4294967296∧lng l[a]<4294967296:=by unfold lng;omega
  obtain⟨x,hx⟩: ∃x,x=l[a]:=⟨_,rfl⟩
  rw[←hx] at ho' he' hlg hld
  have w1:IntKind.i64.wrap (1+x % 4294967296)=1+x % 4294967296:=IntWalk.i64_in _ (by omega)
  have w2:IntKind.i64.wrap ((a:Int)+(1+x % 4294967296))=((a+1+lng x:Nat):Int):=by rw[IntWalk.i64_in _ (by omega)];omega
  have fin:l.length - (a+1+lng x)<l.length - a∧(o++[a])++objs l (a+1+lng x)=objs l 0∧jaq l (a+1+lng x)=jaq l 0∧(o++[a]).length≤a+1+lng x∧a+1+lng x≤l.length+4294967296:=
   ⟨by omega,by rw[←ho,ho'];simp,by rw[←he,he'],by simp;omega,by omega⟩
  have FN:=Lib.hid fin
  clear hx ho ho' he he' hoa hal hlg fin hb
  with_reducible repeat' first|simp only[zP,jaf,jaa,jad,jac,seval,Nat.reduceLeDiff,hln,g0,gs,hr,hq,hld, *]|simp only[jab]|apply And.intro|intro _
  refine jrh ?_
  with_reducible repeat' first|simp only[zP,jaf,jaa,jad,jac,seval,Nat.reduceLeDiff,w1,w2, *]|simp only[jab]|apply And.intro|intro _
  all_goals exact⟨_,FN.out.1,_,rfl,o++[a],by simp,⟨X,by simp⟩,rfl,FN.out.2⟩
 ·have g1: ¬((a:Int)<(l.length:Int)):=by omega
  have ho':objs l a=[]:=by rw[objs];simp[ha]
  have he':jaq l a=a:=by rw[jaq];simp[ha]
  rw[ho',List.append_nil] at ho
  rw[he'] at he
  subst ho
  rw[←he] at FF
  have fin:=FF.out
  clear he he' hoa hal ho' hb
  with_reducible repeat' first|simp only[zP,jaf,jaa,jad,jac,seval,Nat.reduceLeDiff,hln, *]|simp only[jab]|apply And.intro|intro _
end
section
open Go Go.RowKit
variable {tb:List (FuncId×Bool)}{L:Nat→Bool}{H:ZH}{K:ZV→ZH→Prop}
theorem jpU {l:List (Int×ZV)}{k n:Int}{v:ZV}:jbg (jc3 l k v) n=if n=k then some v else jbg l n:=by
 induction l with
 |nil=>simp[jc3,jbg]
 |cons x l ih=>
  obtain⟨a,b⟩:=x
  by_cases h:k=a
  ·subst h
   simp only[jc3,if_true,jbg]
   by_cases hn:n=k<;>simp[hn]
  ·simp only[jc3,h,if_false,jbg,ih]
   by_cases hn:n=a
   ·subst hn;simp[Ne.symm h]
   ·simp[hn]
def jcL (p:List Nat):List (Int×ZV):=p.foldl (fun m (a:Nat)=>jc3 m (a:Int) (.agg [])) []
theorem jov {p:List Nat}{a:Nat}:jc3 (jcL p) a (.agg [])=jcL (p++[a]):=by simp[jcL]
theorem jeT {n:Int}: ∀(p:List Nat) (m:List (Int×ZV)),jbg (p.foldl (fun m (a:Nat)=>jc3 m (a:Int) (.agg [])) m) n=if n∈p.map Int.ofNat then some (.agg []) else jbg m n
 |[],m=>by simp
 |a::p,m=>by
  rw[List.foldl_cons,jeT p,jpU,List.map_cons]
  by_cases h:n∈p.map Int.ofNat
  ·rw[if_pos h,if_pos (List.mem_cons_of_mem _ h)]
  ·by_cases h2:n=(a:Int)
   ·rw[if_neg h,if_pos h2,if_pos (by rw[h2];exact List.mem_cons_self ..)]
   ·rw[if_neg h,if_neg h2,if_neg (by simp only[List.mem_cons,not_or];exact⟨h2,h⟩)]
theorem jnr {p:List Nat}{n:Int}(h:n∈p.map Int.ofNat):jbg (jcL p) n=some (.agg []):=by unfold jcL;rw[jeT,if_pos h]
theorem jki {p:List Nat}{n:Int}(h:n∉p.map Int.ofNat):jbg (jcL p) n=none:=by unfold jcL;rw[jeT,if_neg h];rfl
def jaz (w:Int)(p:List Nat):Bool:=decide (0≤jdZ w)&&(!jax w||decide (jau w∈p.map Int.ofNat))
theorem jkq {z0 v:ZV}:mgot true z0 (some v)= .tuple [v,ZBo true]:=rfl
theorem jkr {z0:ZV}:mgot true z0 none= .tuple [z0,ZBo false]:=rfl
theorem jqS {w:Int}{p:List Nat}{i:Nat}(h0:0≤w∧w<18446744073709551616)(hg: ∀X,(H++X)[i]?=some (.box ((jcL p).map ent)))(hK:K (ZBo (jaz w p)) H):
  ZC (boxX tb) (jal Tryz.prog) 69 [.val (.int .u64 w),.mp i] L H K:=by
 refine ZC.enterL Gh.no (jai (by decide)) jo0 (by simp) fun hL=>?_
 simp only[jiu,kkP]
 have fin: ∀X,Fin H (ZBo (jaz w p)) (H++X) K:=fun X=>Fin.trunc (Mods.ext H X) rfl (by rw[List.take_left];exact hK)
 clear hK
 have hL0:L H.length=true:=hL 0
 have hg0:H[i]?=some (.box ((jcL p).map ent)):=by have:=hg [];rwa [List.append_nil] at this
 have FF:=Lib.hid fin
 clear fin
 with_reducible repeat' first|simp only[zP,jaf,jaa,jad,jac,seval,Nat.reduceLeDiff,hL0, *]|simp only[jab]|apply And.intro|intro _
 refine hkind_z h0 ?_
 by_cases h1:jdZ w<0
 ·have e:jaz w p=false:=by simp[jaz];omega
  have fin:=FF.out []
  rw[e,List.append_nil] at fin
  clear e
  with_reducible repeat' first|simp only[zP,jaf,jaa,jad,jac,seval,Nat.reduceLeDiff,h1, *]|simp only[jab]|apply And.intro|intro _
 ·have FF2:=Lib.hid h0
  clear h0
  with_reducible repeat' first|simp only[zP,jaf,jaa,jad,jac,seval,Nat.reduceLeDiff,h1, *]|simp only[jab]|apply And.intro|intro _
  refine jq3 FF2.out ?_
  cases h2:jax w with
  |false=>
   have e:jaz w p=true:=by simp[jaz,h2];omega
   have fin:=FF.out []
   rw[e,List.append_nil] at fin
   clear e
   with_reducible repeat' first|simp only[zP,jaf,jaa,jad,jac,seval,Nat.reduceLeDiff,h1, *]|simp only[jab]|apply And.intro|intro _
  |true=>
   by_cases h3:jau w∈p.map Int.ofNat
   ·have e:jaz w p=true:=by simp only[jaz,h2,h3,decide_true,Bool.or_true,Bool.and_true];exact decide_eq_true (by omega)
    have fin:=FF.out
    rw[e] at fin
    have hf:=jnr h3
    clear e h3
    with_reducible repeat' first|simp only[zP,jaf,jaa,jad,jac,seval,Nat.reduceLeDiff,jb6,jc2,hg0,hf,jkq,ZV.mp.injEq,hL0, *]|simp only[jab]|apply And.intro|intro _
   ·have e:jaz w p=false:=by simp only[jaz,h2,h3,decide_false,Bool.not_true,Bool.or_false,Bool.and_false]
    have fin:=FF.out
    rw[e] at fin
    have hf:=jki h3
    clear e h3
    with_reducible repeat' first|simp only[zP,jaf,jaa,jad,jac,seval,Nat.reduceLeDiff,jb6,jc2,hg0,hf,jkr,ZV.mp.injEq,hL0, *]|simp only[jab]|apply And.intro|intro _
end
section
open Go Go.RowKit
variable {tb:List (FuncId×Bool)}{L:Nat→Bool}{H:ZH}{K:ZV→ZH→Prop}
theorem objs_len (l:List Int): ∀(m a:Nat),l.length - a≤m→(objs l a).length≤m:=by
 intro m
 induction m with
 |zero=>intro a h;rw[objs];simp[show ¬a<l.length by omega]
 |succ m ih=>
  intro a h
  rw[objs]
  by_cases ha:a<l.length
  ·simp only[ha,dite_true,List.length_cons]
   have:=ih (a+1+lng l[a]) (by omega)
   omega
  ·simp[ha]
def okAt (W:List Int)(i:Nat)(w:Int):Bool:=decide (i∈objs W 0)||jaz w (objs W 0)
def okW (W:List Int):Bool:=W.zipIdx.all fun x=>okAt W x.2 x.1
def okR (W R:List Int):Bool:=R.all fun w=>jaz w (objs W 0)
def chkE (W R:List Int):Int:=if 2000<W.length∨100<R.length then 2 else if jaq W 0=W.length∧okW W=true∧okR W R=true then 0 else 3
def U64 (l:List Int):Prop:= ∀w∈l,0≤w∧w<18446744073709551616
theorem jbf {W:ZH}(A B:ZB)(X:ZH):(W++(A::B::X))[W.length+1]?=some B:=by rw[List.getElem?_append_right (by omega),Nat.add_sub_cancel_left];rfl
theorem jdH {W:ZH}(A B C:ZB)(X:ZH):(W++(A::B::X)).set (W.length+1) C=W++(A::C::X):=by rw[List.set_append_right _ _ (by omega),Nat.add_sub_cancel_left];rfl
theorem jdb {W:List Int}:okW W=true↔ ∀(j:Nat) (hj:j<W.length),okAt W j W[j]=true:=by
 unfold okW
 rw[List.all_eq_true]
 constructor
 ·intro h j hj
  exact h (W[j],j) (List.mem_zipIdx_iff_getElem?.2 (List.getElem?_eq_getElem hj))
 ·rintro h ⟨x,i⟩ hm
  obtain⟨hi,hx⟩:=List.getElem?_eq_some_iff.1 (List.mem_zipIdx_iff_getElem?.1 hm)
  rw[←hx];exact h i hi
theorem chk3 {W R:List Int}(h1: ¬2000<W.length∧ ¬100<R.length)(h:okW W=false∨okR W R=false):chkE W R=3:=by
 unfold chkE
 rw[if_neg (by omega),if_neg]
 rintro⟨_,h2,h3⟩
 rcases h with h|h
 ·rw[h] at h2;cases h2
 ·rw[h] at h3;cases h3
theorem hl_atX {W X:ZH}(A B C:ZB):(W++(A::B::(X++[C])))[W.length+(X.length+1+1)]?=some C:=by rw[List.getElem?_append_right (by omega),Nat.add_sub_cancel_left,List.getElem?_cons_succ,List.getElem?_cons_succ,List.getElem?_append_right (Nat.le_refl _),Nat.sub_self];rfl
theorem hl_stX {W X:ZH}(A B C D:ZB):(W++(A::B::(X++[C]))).set (W.length+(X.length+1+1)) D=W++(A::B::(X++[D])):=by rw[List.set_append_right _ _ (by omega),Nat.add_sub_cancel_left,List.set_cons_succ,List.set_cons_succ,List.set_append_right _ _ (Nat.le_refl _),Nat.sub_self];rfl
theorem check_z {zw zr:ZV}{W R:List Int}(hcw:zw.isCell=true)(hcr:zr.isCell=true)(hw: ∀X,jbi (H++X) 1 zw=some (W.map eU))(hr: ∀X,jbi (H++X) 1 zr=some (R.map eU))(huw:U64 W)(hur:U64 R)(hK:K (Z64 (chkE W R)) H)(hbW:W.length≤100000000000000)(hbR:R.length≤100000000000000):
  ZC (boxX tb) (jal Tryz.prog) 37 [.agg [zw,zr]] L H K:=by
 refine ZC.enterL Gh.no (jai (by decide)) jo3 (by simp) fun hL=>?_
 simp only[jix,kkP]
 have F: ∀X,Fin H (Z64 (chkE W R)) (H++X) K:=fun X=>Fin.trunc (Mods.ext H X) rfl (by rw[List.take_left];exact hK)
 have FF:=Lib.hid F
 have hL0:L H.length=true:=hL 0
 have hL1:L (H.length+1)=true:=hL 1
 clear hK F
 have lw:=jb7 (hw [.box [zw,zr]])
 have lr:=jb7 (hr [.box [zw,zr]])
 rw[List.length_map] at lw lr
 have HW:=Lib.hid hw
 have HR:=Lib.hid hr
 have HU:=Lib.hid huw
 have HV:=Lib.hid hur
 have g0: ∀A Y,(H++(A::Y))[H.length]?=some A:=fun A Y=>jay A Y
 have g1: ∀A B Y,(H++(A::B::Y))[H.length+1]?=some B:=fun A B Y=>jbf A B Y
 have s1: ∀A B C Y,(H++(A::B::Y)).set (H.length+1) C=H++(A::C::Y):=fun A B C Y=>jdH A B C Y
 clear hw hr huw hur
 by_cases h1:2000<W.length
 ·have k1:(W.length:Int)>2000:=by omega
  have e:chkE W R=2:=by simp[chkE,h1]
  have fin:=FF.out
  rw[e] at fin
  clear e
  with_reducible repeat' first|simp only[zP,jaf,jaa,jad,jac,seval,Nat.reduceLeDiff,lw,lr,g0,k1, *]|simp only[jab]|apply And.intro|intro _
 ·have k1: ¬((W.length:Int)>2000):=by omega
  by_cases h2:100<R.length
  ·have k2:(R.length:Int)>100:=by omega
   have e:chkE W R=2:=by simp[chkE,h2]
   have fin:=FF.out
   rw[e] at fin
   clear e
   with_reducible repeat' first|simp only[zP,jaf,jaa,jad,jac,seval,Nat.reduceLeDiff,lw,lr,g0,k1,k2, *]|simp only[jab]|apply And.intro|intro _
  ·have k2: ¬((R.length:Int)>100):=by omega
   have HB:=Lib.hid (⟨h1,h2⟩: ¬2000<W.length∧ ¬100<R.length)
   clear h1 h2 hbW hbR
   with_reducible repeat' first|simp only[zP,jaf,jaa,jad,jac,seval,Nat.reduceLeDiff,lw,lr,g0,k1,k2, *]|simp only[jab]|apply And.intro|intro _
   refine jq9 (l:=W) (fun X=>by rw[List.append_assoc];exact HW.out _) (by have:=HB.out;omega) ?_
   by_cases h3:(jaq W 0:Int)=(W.length:Int)
   ·have hon:=objs_len W W.length 0 (by omega)
    have HO:=Lib.hid hon
    obtain⟨O,hO⟩: ∃O,O=objs W 0:=⟨_,rfl⟩
    rw[←hO]
    have HOO:=Lib.hid hO
    have hon2:O.length≤2000:=by have:=HB.out;rw[hO];omega
    clear hO hon k1 k2
    with_reducible repeat' first|simp only[zP,jaf,jaa,jad,jac,seval,Nat.reduceLeDiff,lw,lr,g0,h3,jiJ, *]|simp only[jab]|apply And.intro|intro _
    refine jbp [(1,.ptr H.length 0),(5,.mp (H.length+1)),(33,.fz 1 false (O.map eN))] O.length (fun k s' h'=>h'=H++[.box [zw,zr],.box ((jcL (O.take k)).map ent)]) (by omega) ⟨rfl,rfl,rfl,rfl,rfl,rfl⟩ rfl rfl (by repeat' (first|exact trivial|(refine⟨rfl,?_⟩)|(refine⟨by simp only[jaQ,Nat.reduceEqDiff,reduceIte];assumption,?_⟩))) rfl rfl (by decide) rfl ?_ ?_
    ·rintro k s' h' hk rfl hi hl ⟨f1,f5,f33,-⟩
     obtain⟨q,hq,hld⟩:=jd9 (H:=H++[.box [zw,zr],.box ((jcL (O.take k)).map ent)]) (k:=1) (z:= .fz 1 false (O.map eN)) (f:=eN) (l:=O) (by simp[jbi]) hk
     have hsn:jc3 (jcL (O.take k)) (O[k]:Int) (.agg [])=jcL (O.take (k+1)):=by rw[List.take_succ_eq_append_getElem hk];exact jov
     obtain⟨x,hx⟩: ∃x,x=O[k]:=⟨_,rfl⟩
     rw[←hx] at hld hsn
     clear hx
     with_reducible repeat' first|simp only[zP,jaf,jaa,jad,jac,seval,Nat.reduceLeDiff,hq,hld,g1,s1,hsn,jfE,jc2,ZV.mp.injEq, *]|simp only[jab]|apply And.intro|intro _
    ·rintro s' h' rfl ⟨f1,f5,f33,-⟩
     rw[List.take_of_length_le (Nat.le_refl _)]
     have lw2:=jb7 (HW.out [.box [zw,zr],.box ((jcL O).map ent)])
     rw[List.length_map] at lw2
     have hbw:W.length≤2000:=by have:=HB.out;omega
     with_reducible repeat' first|simp only[zP,jaf,jaa,jad,jac,seval,Nat.reduceLeDiff,lw2,g0, *]|simp only[jab]|apply And.intro|intro _
     refine jbp [(1,.ptr H.length 0),(5,.mp (H.length+1)),(44,zw)] W.length (fun k s' h'=>(∃X,h'=H++(.box [zw,zr]:: .box ((jcL O).map ent)::X))∧ ∀(j:Nat) (hj:j<W.length),j<k→okAt W j W[j]=true) (by omega) ⟨rfl,rfl,rfl,rfl,rfl,rfl⟩ rfl rfl (by repeat' (first|exact trivial|(refine⟨rfl,?_⟩)|(refine⟨by simp only[jaQ,Nat.reduceEqDiff,reduceIte];assumption,?_⟩))) rfl rfl (by decide) ⟨⟨[],rfl⟩,fun j hj h=>absurd h (by omega)⟩ ?_ ?_
     ·rintro k s' h' hk ⟨⟨X,rfl⟩,hok⟩ hi hl ⟨f1,f5,f44,-⟩
      obtain⟨q,hq,hld⟩:=jd9 (HW.out (.box [zw,zr]:: .box ((jcL O).map ent)::X)) hk
      have aX: ∀A B C,(H++(A::B::(X++[C])))[H.length+(X.length+1+1)]?=some C:=fun A B C=>hl_atX A B C
      have sX: ∀A B C D,(H++(A::B::(X++[C]))).set (H.length+(X.length+1+1)) D=H++(A::B::(X++[D])):=fun A B C D=>hl_stX A B C D
      have lX:L (H.length+(X.length+1+1))=true:=hL _
      have hux:=HU.out W[k] (List.getElem_mem hk)
      have hnx:okAt W k W[k]=true→ ∀(j:Nat) (hj:j<W.length),j<k+1→okAt W j W[j]=true:=fun h j hj hjk=>by
       by_cases e:j=k
       ·subst e;exact h
       ·exact hok j hj (by omega)
      have hbad : okAt W k W[k] = false → chkE W R = 3 := fun h => chk3 HB.out (.inl (by
       cases hw:okW W with
       |false=>rfl
       |true=>rw[jdb.1 hw k hk] at h;cases h))
      have hdef:okAt W k W[k]=(decide (k∈O)||jaz W[k] O):=by rw[HOO.out];rfl
      obtain⟨x,hx⟩: ∃x,x=W[k]:=⟨_,rfl⟩
      rw[←hx] at hld hux hnx hbad hdef
      have HX:=Lib.hid hux
      have HN:=Lib.hid hnx
      have HBad:=Lib.hid hbad
      have HD:=Lib.hid hdef
      have lXX:=hL
      clear hx hok hux hnx hbad hdef
      by_cases hm:k∈O
      ·have hf:jbg (jcL O) (k:Int)=some (.agg []):=jnr (List.mem_map.2 ⟨k,hm,rfl⟩)
       have hgo:=HN.out (by rw[HD.out,decide_eq_true hm];rfl)
       have HG:=Lib.hid hgo
       clear hgo hm
       with_reducible repeat' first|simp only[zP,jaf,jaa,jad,jac,seval,Nat.reduceLeDiff,hq,hld,g1,hf,aX,sX,lX,jkq,jb6,jc2,ZV.mp.injEq, *]|simp only[jab]|apply And.intro|intro _
       all_goals first|exact⟨_,rfl⟩|exact HG.out _ _ (by assumption)
      ·have hf:jbg (jcL O) (k:Int)=none:=jki (fun h=>by obtain⟨y,hy,e⟩:=List.mem_map.1 h;exact hm (by have:y=k:=Int.ofNat.inj e;rw[←this];exact hy))
       have hd:okAt W k x=jaz x O:=by rw[HD.out,decide_eq_false hm];rfl
       have HDD:=Lib.hid hd
       clear hd hm
       with_reducible repeat' first|simp only[zP,jaf,jaa,jad,jac,seval,Nat.reduceLeDiff,hq,hld,g1,hf,aX,sX,lX,jkr,jb6,jc2,ZV.mp.injEq, *]|simp only[jab]|apply And.intro|intro _
       refine jqS (p:=O) HX.out (fun Y=>by rw[List.append_assoc];exact jbf _ _ _) ?_
       cases hr:jaz x O with
       |true=>
        have hgo:=HN.out (by rw[HDD.out,hr])
        have HG:=Lib.hid hgo
        clear hgo
        with_reducible repeat' first|simp only[zP,jaf,jaa,jad,jac,seval,Nat.reduceLeDiff,hq, *]|simp only[jab]|apply And.intro|intro _
        all_goals first|exact⟨_,rfl⟩|exact HG.out _ _ (by assumption)
       |false=>
        have fin:=FF.out
        rw[HBad.out (by rw[HDD.out,hr])] at fin
        with_reducible repeat' first|simp only[zP,jaf,jaa,jad,jac,seval,Nat.reduceLeDiff,hq, *]|simp only[jab]|apply And.intro|intro _
     ·rintro s' h' ⟨⟨X,rfl⟩,hok⟩ ⟨f1,f5,f44,-⟩
      have hW:okW W=true:=jdb.2 fun j hj=>hok j hj hj
      have HWok:=Lib.hid hW
      have lr2:=jb7 (HR.out (.box [zw,zr]:: .box ((jcL O).map ent)::X))
      rw[List.length_map] at lr2
      have hbr:R.length≤100:=by have:=HB.out;omega
      clear hok hW
      with_reducible repeat' first|simp only[zP,jaf,jaa,jad,jac,seval,Nat.reduceLeDiff,lr2,g0, *]|simp only[jab]|apply And.intro|intro _
      refine jbp [(1,.ptr H.length 0),(5,.mp (H.length+1)),(67,zr)] R.length (fun k s' h'=>h'=H++(.box [zw,zr]:: .box ((jcL O).map ent)::X)∧ ∀(j:Nat) (hj:j<R.length),j<k→jaz R[j] O=true) (by omega) ⟨rfl,rfl,rfl,rfl,rfl,rfl⟩ rfl rfl (by repeat' (first|exact trivial|(refine⟨rfl,?_⟩)|(refine⟨by simp only[jaQ,Nat.reduceEqDiff,reduceIte];assumption,?_⟩))) rfl rfl (by decide) ⟨rfl,fun j hj h=>absurd h (by omega)⟩ ?_ ?_
      ·rintro k s' h' hk ⟨rfl,hok⟩ hi hl ⟨f1,f5,f67,-⟩
       obtain⟨q,hq,hld⟩:=jd9 (HR.out (.box [zw,zr]:: .box ((jcL O).map ent)::X)) hk
       have hux:=HV.out R[k] (List.getElem_mem hk)
       have hnx:jaz R[k] O=true→ ∀(j:Nat) (hj:j<R.length),j<k+1→jaz R[j] O=true:=fun h j hj hjk=>by
        by_cases e:j=k
        ·subst e;exact h
        ·exact hok j hj (by omega)
       have hbad : jaz R[k] O = false → chkE W R = 3 := fun h => chk3 HB.out (.inr (by
        cases hw:okR W R with
        |false=>rfl
        |true=>
         have:=List.all_eq_true.1 hw R[k] (List.getElem_mem hk)
         rw[←HOO.out,h] at this;cases this))
       obtain⟨x,hx⟩: ∃x,x=R[k]:=⟨_,rfl⟩
       rw[←hx] at hld hux hnx hbad
       have HX:=Lib.hid hux
       have HN:=Lib.hid hnx
       have HBad:=Lib.hid hbad
       clear hx hok hux hnx hbad
       with_reducible repeat' first|simp only[zP,jaf,jaa,jad,jac,seval,Nat.reduceLeDiff,hq,hld, *]|simp only[jab]|apply And.intro|intro _
       refine jqS (p:=O) HX.out (fun Y=>by rw[List.append_assoc];exact jbf _ _ _) ?_
       cases hr:jaz x O with
       |true=>
        have hgo:=HN.out hr
        have HG:=Lib.hid hgo
        clear hgo
        with_reducible repeat' first|simp only[zP,jaf,jaa,jad,jac,seval,Nat.reduceLeDiff,hq, *]|simp only[jab]|apply And.intro|intro _
        all_goals exact HG.out _ _ (by assumption)
       |false=>
        have fin:=FF.out
        rw[HBad.out hr] at fin
        with_reducible repeat' first|simp only[zP,jaf,jaa,jad,jac,seval,Nat.reduceLeDiff,hq, *]|simp only[jab]|apply And.intro|intro _
      ·rintro s' h' ⟨rfl,hok⟩ ⟨f1,f5,f67,-⟩
       have hR:okR W R=true:=List.all_eq_true.2 fun w hw=>by
        obtain⟨j,hj,e⟩:=List.getElem_of_mem hw
        rw[←HOO.out,← e];exact hok j hj hj
       have e:chkE W R=0:=by
        unfold chkE
        rw[if_neg (by omega),if_pos ⟨by omega,HWok.out,hR⟩]
       have fin:=FF.out
       rw[e] at fin
       clear e hR hok
       with_reducible repeat' first|simp only[zP,jaf,jaa,jad,jac,seval,Nat.reduceLeDiff,g0, *]|simp only[jab]|apply And.intro|intro _
   ·have e:chkE W R=3:=by
     have:=HB.out
     unfold chkE
     rw[if_neg (by omega),if_neg (fun h=>h3 (by rw[h.1]))]
    have fin:=FF.out
    rw[e] at fin
    clear e
    with_reducible repeat' first|simp only[zP,jaf,jaa,jad,jac,seval,Nat.reduceLeDiff,lw,lr,g0,h3, *]|simp only[jab]|apply And.intro|intro _
end
section
open Go Go.RowKit
variable {tb:List (FuncId×Bool)}{L:Nat→Bool}{W Y:ZH}{K:ZV→ZH→Prop}
abbrev eP (p:Int×Int):List ZV:=[Z64 p.1,Z64 p.2]
def newM (T:List (Int×Int)):List (Int×ZV):=T.map fun x=>(x.2,Z64 x.1)
theorem jdE (n:Int): ∀T:List (Int×Int),jbg (newM T) n=(T.find? fun x=>decide (n=x.2)).map fun x=>Z64 x.1
 |[]=>rfl
 |x::T=>by
  rw[List.find?_cons]
  by_cases h:n=x.2
  ·simp[newM,jbg,h]
  ·have:=jdE n T
   simp only[newM] at this
   simp[newM,jbg,h,this]
theorem ji6 (n v:Int): ∀T:List (Int×Int),jbg (newM T) n=none→jc3 (newM T) n (Z64 v)=newM (T++[(v,n)])
 |[],_=>rfl
 |x::T,h=>by
  by_cases e:n=x.2
  ·simp[newM,jbg,e] at h
  ·have h':jbg (newM T) n=none:=by simpa[newM,jbg,e] using h
   have:=ji6 n v T h'
   simp only[newM] at this
   simp[newM,jc3,e,this]
def colH (W Y:ZH)(zw:ZV)(g1 g3:Nat)(to:List Int)(T:List (Int×Int)):ZH:=
  W++(.box ((newM T).map ent):: .box [zw,.own (W.length+2) g1 0 to.length false,.mp W.length,.own (W.length+3) g3 0 T.length false]:: .grow g1 1 (to.map eU):: .grow g3 2 (T.map eP)::Y)
theorem jlR {z:ZV}:(some z).bind natZ=natZ z:=rfl
theorem jgJ {S:ZS}{d:Nat}:numZ S d none=some d:=rfl
theorem jgI {S:ZS}{d:Nat}{x:Opd}:numZ S d (some x)=(zev S x).bind natZ:=by
 simp only[numZ];cases zev S x<;>rfl
section
variable (A B C D E:ZB)
theorem jnL:(W++(A::B::C::D::Y))[W.length+1]?=some B:=jbf _ _ _
theorem jid:(W++(A::B::C::D::Y))[W.length+2]?=some C:=by rw[List.getElem?_append_right (by omega),Nat.add_sub_cancel_left];rfl
theorem jr2:(W++(A::B::C::D::Y))[W.length+3]?=some D:=by rw[List.getElem?_append_right (by omega),Nat.add_sub_cancel_left];rfl
theorem co_st1:(W++(A::B::C::D::Y)).set (W.length+1) E=W++(A::E::C::D::Y):=jdH _ _ _ _
theorem jr1:(W++(A::B::C::D::Y)).set (W.length+2) E=W++(A::B::E::D::Y):=by rw[List.set_append_right _ _ (by omega),Nat.add_sub_cancel_left];rfl
theorem co_st3:(W++(A::B::C::D::Y)).set (W.length+3) E=W++(A::B::C::E::Y):=by rw[List.set_append_right _ _ (by omega),Nat.add_sub_cancel_left];rfl
end
def ja7 (F:List Int)(a:Nat):List Int:=(F.drop a).take (1+lng (F[a]?.getD 0))
def mvW (F:List Int)(w:Int)(to:List Int)(T:List (Int×Int)):Int×List Int×List (Int×Int):=
  if jax w=false then (w,to,T) else match T.find? fun x=>decide (jau w=x.2) with
    |some x=>(boxW 5 x.1,to,T)
    |none=>(boxW 5 to.length,to++ja7 F (jau w).toNat,T++[((to.length:Int),jau w)])
end
end Go.Proofs.YtjaahfncbechnaaGreatDoor
