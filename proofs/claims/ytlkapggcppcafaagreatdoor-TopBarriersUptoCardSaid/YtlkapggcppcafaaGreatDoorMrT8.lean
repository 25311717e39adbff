/-
  AM's code of functions, written by am/amprint.lean.
-/
import Derived.KernelRfl
import Derived.Test.YtlkapggcppcafaaGreatDoorMrT4
import Derived.Test.YtlkapggcppcafaaGreatDoorMrT7
set_option linter.unusedVariables false
set_option maxHeartbeats 32000000
set_option linter.unusedSimpArgs false
open And renaming intro→P3
open Bool renaming and_eq_true→U2,false_eq_true→N6
open Int renaming toNat_natCast→O0f
open List renaming getElem?_eq_none→J1,length_reverse→H6,getElem?_set_self→H9,getElem?_set_ne→O0a,getElem?_eq_some_iff→U0,set_getElem_self→O0b,getElem?_eq_getElem→U1,length_set→D5,getElem?_map→U8,set_set→O0c,length_map→P2,take_succ_eq_append_getElem→X5,take_of_length_le→I5,mem_of_getElem?→R5,getD_eq_getElem?_getD→C0,length→O0d,length_append→G3,drop_zero→W1,append_assoc→M8,all_eq_true→N2,mem_zipIdx_iff_getElem?→L7,getElem?_append_right→N0,set_append_right→B7,append_nil→A0,length_nil→G9,getElem_mem→M4,mem_append→O3,mem_singleton→X6,getElem?_append_left→V5,all_eq_not_any_not→O0g,mem_cons_self→O0h,mem_cons_of_mem→O0i,forall_mem_cons→O0j,take_left→K5,contains_iff_mem→B2,set_append_left→O0k,length_take→C4
open Nat renaming reduceLeDiff→X0,reduceEqDiff→X4,le_refl→V2,add_sub_cancel_left→D8
open Option renaming isSome_none→L4,bind_some→Q9
open Prod renaming ext→O0e
namespace Go.Proofs.YtlkapggcppcafaaGreatDoor
open Lib renaming hid→Z4
open ZC renaming enter→Z9,enterL→K6
section
open Go Go.RowKit
def jkZ:jam:=kks [kkI 1 (.box 8 (kkt 0)),kkK 2 0] (.seq (kks [kkC 4 51 [kkt 1]] (kkr 4 [kkK 2 2])) (.seq (kks [kkA 5 1 1,kkL 6 5,kkC 7 52 [kkt 6],kkM 3 7] (kks [kkM 8 3,kkB 9 .neq 8 (kkV 0)] (kkr 9 [kkM 10 3,kkM 2 10]))) (.seq (kks [kkA 11 2 1,kkL 12 11,kkC 13 53 [kkt 12],kkU 14 13,kkM 15 14,kkJ 16 (.fieldAddr 1 (kkt 1)) 15,kkJ 17 (.load none (kkt 16)) 15,kkJ 18 (.func 55 [kkt 1]) 15,kkJ 19 (.call (kkF 54) [kkt 17,kkt 18]) 15,kkO 20 15 19,kkM 21 20,kkJ 22 (.fieldAddr 0 (kkt 1)) 21,kkJ 23 (.load none (kkt 22)) 21,kkJ 24 (.func 57 [kkt 1]) 21,kkJ 25 (.call (kkF 56) [kkt 23,kkt 24]) 21,kkO 26 21 25] (kkr 26 [kkK 2 3])) (.seq (kks [kkA 27 5 1,kkL 28 27,kkI 29 (.func 60 [kkt 1]),kkC 30 59 [kkt 28,kkt 29]] (kkr 30 [kkK 2 3])) (.seq (kks [kkA 31 4 1,kkL 32 31,kkI 33 (.func 63 [kkt 1]),kkC 34 62 [kkt 32,kkt 33]] (kkr 34 [kkK 2 3])) (kks [kkK 2 0] .ret))))))
theorem jrO:jag Tryz.prog 31=some ⟨35,jkZ,[.tmp 2]⟩:=by kernel_rfl
def jkW:jam:=kks [kkI 2 (.mv kkn)] (kks [kkM 3 0,kkN 4 3,kkA 5 0 4,kkL 6 5,kkH 7 6,kkB 8 .gtr 7 (kkV 300),kkM 9 8,kkJ 10 (.mv (kkt 0)) 9,kkJ 11 (.nilCheck (kkt 10)) 9,kkJ 12 (.fieldAddr 2 (kkt 11)) 9,kkJ 13 (.load none (kkt 12)) 9,kkJ 14 (.len (kkt 13)) 9,kkJ 15 (.bin .gtr (kkt 14) (kkV 300)) 9,kkO 16 9 15,kkM 17 16,kkJ 18 (.mv (kkt 0)) 17,kkJ 19 (.nilCheck (kkt 18)) 17,kkJ 20 (.fieldAddr 5 (kkt 19)) 17,kkJ 21 (.load none (kkt 20)) 17,kkJ 22 (.len (kkt 21)) 17,kkJ 23 (.bin .gtr (kkt 22) (kkV 200)) 17,kkO 24 17 23,kkM 25 24,kkJ 26 (.mv (kkt 0)) 25,kkJ 27 (.nilCheck (kkt 26)) 25,kkJ 28 (.fieldAddr 4 (kkt 27)) 25,kkJ 29 (.load none (kkt 28)) 25,kkJ 30 (.len (kkt 29)) 25,kkJ 31 (.bin .gtr (kkt 30) (kkV 100)) 25,kkO 32 25 31,kkM 33 32,kkJ 34 (.mv (kkt 0)) 33,kkJ 35 (.nilCheck (kkt 34)) 33,kkJ 36 (.fieldAddr 2 (kkt 35)) 33,kkJ 37 (.load none (kkt 36)) 33,kkJ 38 (.call (kkF 79) [kkt 37,(kkF 87)]) 33,kkO 39 33 38,kkM 40 39,kkJ 41 (.mv (kkt 0)) 40,kkJ 42 (.nilCheck (kkt 41)) 40,kkJ 43 (.fieldAddr 0 (kkt 42)) 40,kkJ 44 (.load none (kkt 43)) 40,kkJ 45 (.call (kkF 56) [kkt 44,(kkF 88)]) 40,kkO 46 40 45,kkM 2 46] .ret)
theorem jrL:jag Tryz.prog 51=some ⟨47,jkW,[.tmp 2]⟩:=by kernel_rfl
def jkU:jam:=kks [kkK 2 0] (.seq (kks [kkM 6 0,kkH 7 6,kkB 8 .gtr 7 (kkV 100)] (kkr 8 [kkK 2 2])) (.seq (kks [kkM 9 0,kkH 10 9,kkB 11 .eql 10 (kkV 0),kkM 12 11,kkJ 13 (.mv (kkt 0)) 12,kkJ 14 (.indexAddr 2 (kkt 13) (kkV 0)) 12,kkJ 15 (.load (some 2) (kkt 14)) 12,kkJ 16 (.build [kkZ 0,kkZ 0] [(0,1,(kkV (-1))),(1,1,(kkV (-1)))]) 12,kkJ 17 (.eqAgg true [0,0] (kkt 15) (kkt 16)) 12,kkO 18 12 17] (kkr 18 [kkK 2 3])) (kks [kkI 19 (.mkMapK false),kkM 3 19] (.seq (kks [kkM 20 0,kkI 21 (.slice 2 (kkt 20) (some (kkV 1)) none none),kkH 22 21,kkK 23 0] (jau 0 1 24 23 22 59 (kks [kkM 25 23,kkX 26 2 21 23,kkQ 27 2 26,kkI 5 (.zero [kkZ 0,kkZ 0]),kkM 4 25,kkR 2 5 27] (.seq (kkd [kkA 28 0 5,kkL 29 28,kkB 30 .lss 29 (kkV 0),kkM 31 30,kkJ 32 (.fieldAddr 0 (kkt 5)) 31,kkJ 33 (.load none (kkt 32)) 31,kkJ 34 (.mv (kkt 4)) 31,kkJ 35 (.bin .gtr (kkt 33) (kkt 34)) 31,kkO 36 31 35,kkM 37 36,kkJ 38 (.fieldAddr 1 (kkt 5)) 37,kkJ 39 (.load none (kkt 38)) 37,kkJ 40 (.bin .lss (kkt 39) (kkV 0)) 37,kkO 41 37 40,kkM 42 41,kkJ 43 (.mv (kkt 3)) 42,kkJ 44 (.load (some 2) (kkt 5)) 42,kkJ 45 (.mapGetK false false (kkZ 0) (kkt 43) (kkt 44)) 42,kkJ 46 (.bin .eql (kkt 45) (kkV 1)) 42,kkO 47 42 46,kkM 48 47,kkJ 49 (.mv (kkt 0)) 48,kkJ 50 (.fieldAddr 0 (kkt 5)) 48,kkJ 51 (.load none (kkt 50)) 48,⟨(some 52),.call (kkF 90) [kkt 49,kkt 51],(some (48,false)),false⟩,kkJ 53 (.fieldAddr 1 (kkt 5)) 48,⟨(some 54),.load none (kkt 53),(some (48,false)),false⟩,kkJ 55 (.call (kkF 89) [kkt 52,kkt 54]) 48,kkO 56 48 55] (kkr 56 [kkK 2 3])) (.ops [kkM 57 3,kkQ 58 2 5,⟨none,.mapSetK false (kkt 57) (kkt 58) (kkV 1),none,true⟩]))))) (kks [kkK 2 0] .ret)))))
theorem jrJ:jag Tryz.prog 52=some ⟨60,jkU,[.tmp 2]⟩:=by kernel_rfl
def jkT:jam:=kks [kkI 2 (.mv kkn)] (kks [kkC 7 82 [],kkM 3 7] (kks [kkI 8 (.mkMapK true),kkM 4 8] (.seq (kks [kkM 9 0,kkH 10 9,kkK 11 0] (jau 0 1 12 11 10 36 (kks [kkM 13 11,kkX 14 1 9 11,kkL 15 14,kkM 5 13,kkM 6 15] (.seq (kks [kkM 16 4,kkM 17 6,kkI 18 (.mapGetK true false (kkZ 0) (kkt 16) (kkt 17)),kkB 19 .eql 18 (kkV 1),kkM 20 19,kkJ 21 (.mv (kkt 5)) 20,kkJ 22 (.mv (kkt 3)) 20,kkJ 23 (.len (kkt 22)) 20,kkJ 24 (.bin .lss (kkt 21) (kkt 23)) 20,kkJ 25 (.mv (kkt 24)) 20,kkG 26 (.mv (kkt 6)) 25,kkG 27 (.mv (kkt 3)) 25,kkG 28 (.mv (kkt 5)) 25,kkG 29 (.indexAddr 1 (kkt 27) (kkt 28)) 25,kkG 30 (.load none (kkt 29)) 25,kkG 31 (.bin .neq (kkt 26) (kkt 30)) 25,kkJ 32 (.pick (kkt 25) (kkt 31) kkn) 20,kkO 33 20 32] (kkr 33 [kkI 2 (.mv kkn)])) (.ops [kkM 34 4,kkM 35 6,⟨none,.mapSetK true (kkt 34) (kkt 35) (kkV 1),none,true⟩]))))) (kks [kkM 37 0,kkH 38 37,kkM 39 3,kkH 40 39,kkB 41 .geq 38 (kkt 40),kkM 2 41] .ret))))
theorem jrI:jag Tryz.prog 53=some ⟨42,jkT,[.tmp 2]⟩:=by kernel_rfl
def jjo:jam:=kks [kkI 2 (.box 2 (kkt 0)),kkI 3 (.mv kkn)] (kks [kkA 4 1 2,kkL 5 4,kkA 6 2 1,kkL 7 6,kkH 8 7,kkB 9 .geq 5 (kkt 8),kkM 3 9] .ret)
theorem joV:jag Tryz.prog 55=some ⟨10,jjo,[.tmp 3]⟩:=by kernel_rfl
def jjn:jam:=kks [kkI 2 (.box 4 (kkt 0)),kkI 3 (.mv kkn)] (kks [kkQ 4 4 2,kkC 5 58 [kkt 1,kkt 4],kkU 6 5,kkM 3 6] .ret)
theorem joU:jag Tryz.prog 57=some ⟨7,jjn,[.tmp 3]⟩:=by kernel_rfl
def jjm:jam:=kks [kkI 2 (.box 2 (kkt 0)),kkI 3 (.mv kkn)] (kks [kkA 4 0 2,kkL 5 4,kkB 6 .neq 5 (kkV 4),kkM 7 6,kkJ 8 (.load (some 2) (kkt 2)) 7,kkJ 9 (.call (kkF 61) [kkt 1,kkt 8]) 7,kkJ 10 (.un .not (kkt 9)) 7,kkO 11 7 10,kkM 3 11] .ret)
theorem joT:jag Tryz.prog 60=some ⟨12,jjm,[.tmp 3]⟩:=by kernel_rfl
def jnO:jam:=kks [kkI 3 (.box 2 (kkt 1)),kkI 4 (.mv kkn)] (.seq (.block 0 (kks [kkQ 6 2 3,kkC 7 84 [kkt 6],kkU 8 7,kkM 5 8] (.cond (kkt 5) (kks [kkI 4 (.mv kkn)] .ret) (kks [kkA 10 0 3,kkL 11 10,kkB 12 .eql 11 (kkV 4),kkM 9 12] (.cond (kkt 9) (kkd [kkA 13 1 3,kkL 14 13,kkM 15 0,kkN 16 15,kkA 17 2 16,kkL 18 17,kkH 19 18,kkB 20 .lss 14 (kkt 19),kkM 4 20] .ret) (kks [kkA 22 0 3,kkL 23 22,kkB 24 .eql 23 (kkV 5),kkM 21 24] (.cond (kkt 21) (kkd [kkA 25 1 3,kkL 26 25,kkM 27 0,kkN 28 27,kkA 29 0 28,kkL 30 29,kkH 31 30,kkB 32 .lss 26 (kkt 31),kkM 33 32,kkG 34 (.mv (kkt 0)) 33,kkG 35 (.nilCheck (kkt 34)) 33,kkG 36 (.fieldAddr 0 (kkt 35)) 33,kkG 37 (.load none (kkt 36)) 33,kkG 38 (.fieldAddr 1 (kkt 3)) 33,kkG 39 (.load none (kkt 38)) 33,kkG 40 (.indexAddr 4 (kkt 37) (kkt 39)) 33,kkG 41 (.fieldAddr 0 (kkt 40)) 33,kkG 42 (.load none (kkt 41)) 33,kkG 43 (.bin .neq (kkt 42) (kkV 0)) 33,kkE 44 33 43,kkM 4 44] .ret) .skip))))))) (kks [kkI 4 (.mv kky)] .ret))
theorem juR:jag Tryz.prog 61=some ⟨45,jnO,[.tmp 4]⟩:=by kernel_rfl
def jjl:jam:=kks [kkI 2 (.box 3 (kkt 0)),kkI 3 (.mv kkn)] (kks [kkA 4 0 2,kkL 5 4,kkA 6 0 1,kkL 7 6,kkH 8 7,kkB 9 .sub 8 (kkV 1),kkC 10 64 [kkt 5,(kkV 0),kkt 9],kkU 11 10,kkM 12 11,kkJ 13 (.fieldAddr 1 (kkt 2)) 12,kkJ 14 (.load (some 2) (kkt 13)) 12,kkJ 15 (.call (kkF 65) [kkt 1,kkt 14,(kkV 4)]) 12,kkJ 16 (.un .not (kkt 15)) 12,kkO 17 12 16,kkM 3 17] .ret)
theorem joS:jag Tryz.prog 63=some ⟨18,jjl,[.tmp 3]⟩:=by kernel_rfl
def jvk:jam:=kks [kkI 4 (.box 2 (kkt 1)),kkI 6 (.mv kkn)] (kkd [kkM 7 0,kkQ 8 2 4,kkC 9 61 [kkt 7,kkt 8],kkM 10 9,kkG 11 (.fieldAddr 0 (kkt 4)) 10,kkG 12 (.load none (kkt 11)) 10,kkG 13 (.bin .eql (kkt 12) (kkV 5)) 10,kkE 14 10 13,kkM 15 14,kkG 16 (.mv (kkt 0)) 15,kkG 17 (.nilCheck (kkt 16)) 15,kkG 18 (.fieldAddr 0 (kkt 17)) 15,kkG 19 (.load none (kkt 18)) 15,kkG 20 (.fieldAddr 1 (kkt 4)) 15,kkG 21 (.load none (kkt 20)) 15,kkG 22 (.indexAddr 4 (kkt 19) (kkt 21)) 15,kkG 23 (.fieldAddr 0 (kkt 22)) 15,kkG 24 (.load none (kkt 23)) 15,kkG 25 (.mv (kkt 2)) 15,kkG 26 (.bin .eql (kkt 24) (kkt 25)) 15,kkE 27 15 26,kkM 6 27] .ret)
theorem f_ck_is:jag Tryz.prog 65=some ⟨28,jvk,[.tmp 6]⟩:=by kernel_rfl
def jjj:jam:=kks [kkI 2 (.mv kkn)] (kks [kkM 3 0,kkI 4 (.lenStr (kkt 3)),kkB 5 .gtr 4 (kkV 200),kkM 2 5] .ret)
theorem joQ:jag Tryz.prog 87=some ⟨6,jjj,[.tmp 2]⟩:=by kernel_rfl
def jji:jam:=kks [kkI 1 (.box 4 (kkt 0)),kkI 2 (.mv kkn)] (kks [kkA 3 2 1,kkL 4 3,kkH 5 4,kkB 6 .gtr 5 (kkV 100),kkM 7 6,kkG 8 (.fieldAddr 0 (kkt 1)) 7,kkG 9 (.load none (kkt 8)) 7,kkG 10 (.bin .neq (kkt 9) (kkV 7)) 7,kkG 11 (.mv (kkt 10)) 7,kkJ 12 (.fieldAddr 2 (kkt 1)) 11,kkJ 13 (.load none (kkt 12)) 11,kkJ 14 (.len (kkt 13)) 11,kkJ 15 (.bin .gtr (kkt 14) (kkV 600)) 11,kkG 16 (.pick (kkt 11) kky (kkt 15)) 7,kkE 17 7 16,kkM 2 17] .ret)
theorem joP:jag Tryz.prog 88=some ⟨18,jji,[.tmp 2]⟩:=by kernel_rfl
def jgM:jam:=kks [kkI 4 (.mv kkn)] (kks [kkM 5 0,kkM 6 1,kkC 7 123 [kkt 5,kkt 6],kkB 8 .geq 7 (kkV 0),kkM 4 8] .ret)
theorem jlH:jag Tryz.prog 89=some ⟨9,jgM,[.tmp 4]⟩:=by kernel_rfl
def jkV:jam:=kks [kkI 4 (.mv (.av kkS))] (kks [kkI 5 (.mv (.av kkS))] (.seq (.block 0 (.loop (.seq (kks [kkM 6 1,kkB 7 .gtr 6 (kkV 0)] (.cond (kkt 7) .skip (.exit 0))) (.seq (.block 1 (.ops [kkM 13 5,kkM 14 0,kkM 15 1,kkX 16 2 14 15,kkA 17 1 16,kkL 18 17,kkI 19 (.lits 1 1 [kkZ 0] [(0,1,(kkt 18))]),kkI 20 (.append 1 8 (kkt 13) (kkt 19)),kkM 5 20])) (.ops [kkM 8 0,kkM 9 1,kkX 10 2 8 9,kkA 11 0 10,kkL 12 11,kkM 1 12]))))) (kks [kkM 21 5,kkC 22 124 [kkt 21]] (kks [kkM 23 5,kkM 4 23] .ret))))
theorem jrK:jag Tryz.prog 90=some ⟨24,jkV,[.tmp 4]⟩:=by kernel_rfl
def jjk:jam:=kks [kkI 4 (.mv (.av kkS))] (.seq (kks [kkM 5 0,kkC 6 52 [kkt 5],kkB 7 .neq 6 (kkV 0),kkM 8 7,kkJ 9 (.mv (kkt 1)) 8,kkJ 10 (.bin .lss (kkt 9) (kkV 0)) 8,kkO 11 8 10,kkM 12 11,kkJ 13 (.mv (kkt 1)) 12,kkJ 14 (.mv (kkt 0)) 12,kkJ 15 (.len (kkt 14)) 12,kkJ 16 (.bin .geq (kkt 13) (kkt 15)) 12,kkO 17 12 16] (kkr 17 [kkI 4 (.mv (.av kkS))])) (kks [kkM 18 0,kkM 19 1,kkC 20 90 [kkt 18,kkt 19],kkM 4 20] .ret))
theorem joR:jag Tryz.prog 93=some ⟨21,jjk,[.tmp 4]⟩:=by kernel_rfl
def jk1:jam:=kks [kkI 2 (.box 2 (kkt 0)),kkI 3 (.mv kkn)] (kks [kkL 4 1,kkQ 5 2 2,kkC 6 65 [kkt 4,kkt 5,(kkV 3)],kkU 7 6,kkM 3 7] .ret)
theorem jrQ:jag Tryz.prog 94=some ⟨8,jk1,[.tmp 3]⟩:=by kernel_rfl
def jnN:jam:=kks [kkI 4 (.mv kkn)] (kks [kkI 7 (.mkMap),kkM 5 7] (.seq (kks [kkK 6 0] (.block 0 (.loop (.seq (kks [kkM 8 6,kkM 9 1,kkH 10 9,kkB 11 .lss 8 (kkt 10)] (.cond (kkt 11) .skip (.exit 0))) (.seq (.block 1 (.seq (kks [kkM 14 1,kkM 15 6,kkX 16 2 14 15,kkA 17 0 16,kkL 18 17,kkB 19 .neq 18 (kkV 5),kkM 20 19,kkJ 21 (.mv (kkt 5)) 20,kkJ 22 (.mv (kkt 1)) 20,kkJ 23 (.mv (kkt 6)) 20,kkJ 24 (.indexAddr 2 (kkt 22) (kkt 23)) 20,kkJ 25 (.fieldAddr 1 (kkt 24)) 20,kkJ 26 (.load none (kkt 25)) 20,kkJ 27 (.mapGet false (kkZ 0) (kkt 21) (kkt 26)) 20,kkJ 28 (.bin .eql (kkt 27) (kkV 1)) 20,kkO 29 20 28] (kkr 29 [kkI 4 (.mv kkn)])) (.ops [kkM 30 5,kkM 31 1,kkM 32 6,kkX 33 2 31 32,kkA 34 1 33,kkL 35 34,⟨none,.mapSet (kkt 30) (kkt 35) (kkV 1),none,true⟩]))) (.ops [kkM 12 6,kkB 13 .add 12 (kkV 2),kkM 6 13])))))) (kks [kkM 36 1,kkH 37 36,kkB 38 .rem 37 (kkV 2),kkB 39 .eql 38 (kkV 0),kkM 4 39] .ret)))
theorem juQ:jag Tryz.prog 95=some ⟨40,jnN,[.tmp 4]⟩:=by kernel_rfl
def jqI:jam:=kks [kkI 2 (.box 1 (kkt 0)),kkI 4 (.mv kkn)] (kks [kkM 5 1,kkI 6 (.func 125 [kkt 2]),kkC 7 59 [kkt 5,kkt 6],kkU 8 7,kkM 4 8] .ret)
theorem f_ck_all:jag Tryz.prog 96=some ⟨9,jqI,[.tmp 4]⟩:=by kernel_rfl
def jk0:jam:=kks [kkI 2 (.box 8 (kkt 0)),kkI 3 (.mv kkn)] (kks [kkL 4 1,kkA 5 6 2,kkL 6 5,kkC 7 96 [kkt 4,kkt 6],kkU 8 7,kkM 9 8,kkJ 10 (.load none (kkt 1)) 9,kkJ 11 (.fieldAddr 4 (kkt 2)) 9,kkJ 12 (.load (some 2) (kkt 11)) 9,kkJ 13 (.call (kkF 61) [kkt 10,kkt 12]) 9,kkJ 14 (.un .not (kkt 13)) 9,kkO 15 9 14,kkM 3 15] .ret)
theorem jrP:jag Tryz.prog 98=some ⟨16,jk0,[.tmp 3]⟩:=by kernel_rfl
def jkY:jam:=kks [kkI 3 (.box 2 (kkt 1)),kkI 4 (.mv kkn)] (kks [kkM 5 0,kkQ 6 2 3,kkC 7 61 [kkt 5,kkt 6],kkM 4 7] .ret)
theorem jrN:jag Tryz.prog 104=some ⟨8,jkY,[.tmp 4]⟩:=by kernel_rfl
def jkX:jam:=kks [kkK 4 0] (.seq (kks [kkM 6 0,kkH 7 6,kkK 8 0] (jau 0 1 9 8 7 18 (kks [kkM 10 8,kkM 5 10] (kks [kkM 11 1,kkM 12 0,kkM 13 5,kkX 14 1 12 13,kkL 15 14,kkB 16 .eql 11 (kkt 15)] (kkr 16 [kkM 17 5,kkM 4 17]))))) (kks [kkK 4 (-1)] .ret))
theorem jrM:jag Tryz.prog 123=some ⟨19,jkX,[.tmp 4]⟩:=by kernel_rfl
def jhA:jam:=kks [kkM 4 0,kkH 5 4,kkB 6 .sub 5 (kkV 1),kkK 2 0,kkM 3 6] (.block 0 (.loop (.seq (kks [kkM 7 2,kkM 8 3,kkB 9 .lss 7 (kkt 8)] (.cond (kkt 9) .skip (.exit 0))) (.seq (.block 1 (.opsD [kkM 14 0,kkM 15 2,kkM 16 0,kkM 17 3,kkM 18 0,kkM 19 3,kkX 20 1 18 19,kkL 21 20,kkM 22 0,kkM 23 2,kkX 24 1 22 23,kkL 25 24,kkX 26 1 14 15,kkR 1 26 21,kkX 27 1 16 17,kkR 1 27 25])) (.ops [kkM 10 2,kkB 11 .add 10 (kkV 1),kkM 12 3,kkB 13 .sub 12 (kkV 1),kkM 2 11,kkM 3 13])))))
theorem jnk:jag Tryz.prog 124=some ⟨28,jhA,[]⟩:=by kernel_rfl
def jnQ:jam:=kks [kkI 2 (.box 2 (kkt 0)),kkI 3 (.mv kkn)] (kks [kkL 4 1,kkQ 5 2 2,kkC 6 61 [kkt 4,kkt 5],kkU 7 6,kkM 3 7] .ret)
theorem juT:jag Tryz.prog 125=some ⟨8,jnQ,[.tmp 3]⟩:=by kernel_rfl
end
section
open Go Go.RowKit
variable {tb:List (FuncId×Bool)}{nd:Bool}{L:Nat→Bool}{H:ZH}{K:ZV→ZH→Prop}
structure RevI (l:List Int)(a:Nat)(R:List Int):Prop where
  len:R.length=l.length
  hd: ∀k,k<l.length→(k<a∨l.length≤k+a)→R[k]?=l[l.length - 1 - k]?
  md: ∀k,k<l.length→ ¬(k<a∨l.length≤k+a)→R[k]?=l[k]?
theorem RevI.start {l:List Int}:RevI l 0 l:=⟨rfl,fun k h q=>by omega,fun k h q=>rfl⟩
theorem RevI.done {l R:List Int}{a:Nat}(h:RevI l a R)(ha:l.length≤2*a+1):R=l.reverse:=by
 refine List.ext_getElem? fun k=>?_
 by_cases hk:k<l.length
 ·rw[List.getElem?_reverse hk]
  by_cases q:k<a∨l.length≤k+a
  ·exact h.hd k hk q
  ·rw[h.md k hk q]
   congr 1;omega
 ·rw[J1 (by rw[h.len];omega),J1 (by rw[H6];omega)]
theorem RevI.next {l R:List Int}{a b:Nat}{x y:Int}(h:RevI l a R)(hb:b+a+1=l.length)(hab:a<b)(hx:R[a]?=some x)(hy:R[b]?=some y):RevI l (a+1) ((R.set a y).set b x):=by
 have e1:=h.md a (by omega) (by omega);have e2:=h.md b (by omega) (by omega);rw[hx] at e1;rw[hy] at e2;have hR:=h.len;refine⟨by simp[hR],fun k hk q=>?_,fun k hk q=>?_⟩
 ·by_cases k1:b=k
  ·subst k1
   rw[H9 (by simp;omega),e1];congr 1;omega
  ·rw[O0a k1]
   by_cases k2:a=k
   ·subst k2
    rw[H9 (by omega),e2];congr 1;omega
   ·rw[O0a k2]
    exact h.hd k hk (by omega)
 ·rw[O0a (by omega),O0a (by omega)]
  exact h.md k hk (by omega)
theorem jtX {i g:Nat}{l:List Int}(hb:H[i]?=some (.grow g 1 (l.map eI)))(hl:l.length≤1000000)(hL:L i=true)(hK:K .no (H.set i (.grow g 1 (l.reverse.map eI)))):
  ZC (XC tb nd) (jag Tryz.prog) 124 [.own i g 0 l.length false] L H K:=by
 refine Z9 Gh.no (jaf (by decide)) jnk (by simp) ?_;simp only[jhA,kkP];have FI:=Z4 (Fin.keep hK:Fin H .no (H.set i (.grow g 1 (l.reverse.map eI))) K);have hln:lenZ H (.own i g 0 l.length false)=some l.length:=by rw[jlA];exact⟨_,_,hb,rfl⟩
 have w1:IntKind.i64.wrap ((l.length:Int) - 1)=(l.length:Int) - 1 - ((0:Nat):Int):=by rw[jbn (by omega) (by omega)];omega
 have hi:i<H.length:=(U0.1 hb).1;have h0:H=H.set i (.grow g 1 (l.map eI)):=by rw[←(U0.1 hb).2,O0b]
 have H0:=Z4 h0;have HI:=Z4 hi;have HL:=Z4 hl;clear hK h0 hb hi hl;with_reducible repeat' first|simp only[zQ,seval,X0,hln,w1, *]|simp only[jab]|apply P3|intro _
 clear hln w1;refine jcV [(0,.own i g 0 l.length false)] l.length (fun n s' h'=> ∃(a:Nat) (R:List Int),s' 2=Z64 (a:Int)∧s' 3=Z64 ((l.length:Int) - 1 - (a:Int))∧h'=H.set i (.grow g 1 (R.map eI))∧RevI l a R∧n=l.length - a) (by repeat' (first|exact trivial|(refine⟨rfl,?_⟩)|(refine⟨by simp only[jaj,X4,reduceIte];assumption,?_⟩))) rfl ⟨0,l,rfl,rfl,H0.out,RevI.start,rfl⟩ ?_;clear H0;rintro n s' h' ⟨a,R,f2,f3,rfl,hR,rfl⟩ ⟨f0,-⟩;have hl:=HL.out;have hRl:=hR.len;have HRR:=Z4 hR;clear hR;by_cases hc:(a:Int)<(l.length:Int) - 1 - (a:Int)
 ·obtain⟨b,hb⟩: ∃b:Nat,b+a+1=l.length:=⟨l.length - 1 - a,by omega⟩
  have eb:(l.length:Int) - 1 - (a:Int)=(b:Int):=by omega
  rw[eb] at f3 hc;have hab:a<b:=by omega
  obtain⟨x,hx⟩: ∃x,R[a]?=some x:=⟨_,U1 (by omega)⟩;obtain⟨y,hy⟩: ∃y,R[b]?=some y:=⟨_,U1 (by omega)⟩;have hn:=HRR.out.next hb hab hx hy;obtain⟨H1,hH1⟩: ∃H1,H1=H.set i (.grow g 1 (R.map eI)):=⟨_,rfl⟩;obtain⟨H2,hH2⟩: ∃H2,H2=H1.set i (.grow g 1 ((R.set a y).map eI)):=⟨_,rfl⟩;obtain⟨H3,hH3⟩: ∃H3,H3=H2.set i (.grow g 1 (((R.set a y).set b x).map eI)):=⟨_,rfl⟩;have hb1:H1[i]?=some (.grow g 1 (R.map eI)):=by rw[hH1,H9 HI.out]
  have hb2:H2[i]?=some (.grow g 1 ((R.set a y).map eI)):=by rw[hH2,H9 (by rw[hH1,D5];exact HI.out)]
  have e1:jdd H1 1 a (.own i g 0 l.length false)=some (.eptr i g a 0):=by rw[jbQ];exact⟨_,hb1,by simp;omega,by omega,by simp⟩
  have e2:jdd H1 1 b (.own i g 0 l.length false)=some (.eptr i g b 0):=by rw[jbQ];exact⟨_,hb1,by simp;omega,by omega,by simp⟩
  have e3:jdd H2 1 b (.own i g 0 l.length false)=some (.eptr i g b 0):=by rw[jbQ];exact⟨_,hb2,by simp;omega,by omega,by simp⟩
  have l1:ldZ H1 none (.eptr i g a 0)=some (Z64 x):=by rw[jbS];exact⟨_,_,_,hb1,by rw[U8,hx];rfl,rfl⟩
  have l2:ldZ H1 none (.eptr i g b 0)=some (Z64 y):=by rw[jbS];exact⟨_,_,_,hb1,by rw[U8,hy];rfl,rfl⟩
  have s1:stZ L H1 [Z64 y] (.eptr i g a 0)=some H2:=by
   rw[jfe];exact⟨1,_,eI x,hb1,by rw[U8,hx];rfl,hL,by simp[eI],by rw[hH2,List.map_set];rfl⟩
  have s2:stZ L H2 [Z64 x] (.eptr i g b 0)=some H3:=by
   rw[jfe];exact⟨1,_,eI y,hb2,by rw[U8,O0a (by omega),hy];rfl,hL,by simp[eI],by rw[hH3,List.map_set (l:=R.set a y)];rfl⟩
  have wa:IntKind.i64.wrap ((a:Int)+1)=((a+1:Nat):Int):=by rw[jbn (by omega) (by omega)];omega
  have wb:IntKind.i64.wrap ((b:Int) - 1)=(l.length:Int) - 1 - ((a+1:Nat):Int):=by rw[jbn (by omega) (by omega)];omega
  have h3:H3=H.set i (.grow g 1 (((R.set a y).set b x).map eI)):=by rw[hH3,hH2,hH1,O0c,O0c]
  rw[←hH1];have H3':=Z4 h3;have HN:=Z4 hn;have HM:=Z4 (show l.length - (a+1)<l.length - a by omega);clear hH1 hH2 hH3 h3 hn hb1 hb2 hx hy hRl HL HRR HI FI hb eb hl;with_reducible repeat' first|simp only[zQ,seval,X0,e1,e2,e3,l1,l2,s1,s2,wa,wb, *]|simp only[jab]|apply P3|intro _
  all_goals first|exact⟨_,HM.out,a+1,rfl,rfl,_,H3'.out,HN.out,rfl⟩|exact⟨_,HM.out,a+1,rfl,_,H3'.out,HN.out,rfl⟩
 ·have e:=HRR.out.done (by omega)
  have fin:=FI.out;rw[←e] at fin;clear FI HRR HL HI hRl hl e;with_reducible repeat' first|simp only[zQ,seval,X0, *]|simp only[jab]|apply P3|intro _
  all_goals exact⟨_,rfl,fin⟩
def IdxP (l:List Int)(a i:Int):Prop:=(i= -1∧a∉l)∨ ∃k:Nat,i=(k:Int)∧l[k]?=some a
theorem sindex_z {z:ZV}{l:List Int}{a:Int}(hz:ja2 H 1 z=some (l.map eI))(hl:l.length≤1000)(hK: ∀i:Int,IdxP l a i→K (Z64 i) H):ZC (XC tb nd) (jag Tryz.prog) 123 [z,Z64 a] L H K:=by
 refine Z9 Gh.no (jaf (by decide)) jrM (by simp) ?_;simp only[jkX,kkP];have HK:=Z4 hK;clear hK;have hlen:l.length<9223372036854775807:=by omega
 have hln:=ja3 hz;rw[P2] at hln;with_reducible repeat' first|simp only[zQ,seval,X0,hln, *]|simp only[jab]|apply P3|intro _
 refine jaK [(0,z),(1,Z64 a)] l.length (fun k s' h'=>h'=H∧a∉l.take k) (by omega) ⟨rfl,rfl,rfl,rfl,rfl,rfl⟩ rfl rfl (by repeat' (first|exact trivial|(refine⟨rfl,?_⟩)|(refine⟨by simp only[jaj,X4,reduceIte];assumption,?_⟩))) rfl rfl (by decide) ⟨rfl,by simp⟩ ?_ ?_
 ·rintro k s' h' hk ⟨rfl,hno⟩ hi hl2 ⟨f0,f1,-⟩
  have hx:l[k]?=some l[k]:=U1 hk;obtain⟨e,he,hld⟩:=jcS hz hk;obtain⟨q,hq⟩: ∃q,q=l[k]:=⟨_,rfl⟩;have hnx:=Z4 (show ¬(a=q)→a∉l.take (k+1) from fun h=>by rw[X5 hk,← hq];simp[hno,h]);rw[←hq] at hx hld;have HX:=Z4 hx;clear hq hno hx;by_cases hc:a=q
  ·have fin:=Fin.keep (H0:=h') (HK.out (k:Int) (.inr ⟨k,rfl,by rw[hc];exact HX.out⟩))
   subst hc;have e1:decide (a=a)=true:=by simp
   with_reducible repeat' first|simp only[zQ,seval,X0,he,hld,f0,f1, *]|simp only[jab]|apply P3|intro _
  ·have fin:=hnx.out hc
   have hc2: ¬(q=a):=fun h=>hc h.symm
   with_reducible repeat' first|simp only[zQ,seval,X0,he,hld,f0,f1,hc,hc2, *]|simp only[jab]|apply P3|intro _
 ·rintro s' h' ⟨rfl,hno⟩ ⟨f0,f1,-⟩
  rw[I5 (V2 _)] at hno;have fin:=Fin.keep (H0:=h') (HK.out (-1) (.inl ⟨rfl,hno⟩));clear hno;with_reducible repeat' first|simp only[zQ,seval,X0, *]|simp only[jab]|apply P3|intro _
theorem jr3 {z:ZV}{l:List Int}{a:Int}(hz:ja2 H 1 z=some (l.map eI))(hl:l.length≤1000)(hK:K (ZBo (decide (a∈l))) H):ZC (XC tb nd) (jag Tryz.prog) 89 [z,Z64 a] L H K:=by
 refine Z9 Gh.no (jaf (by decide)) jlH (by simp) ?_;simp only[jgM,kkP];have fin:=Fin.keep (H0:=H) hK;have HZ:=Z4 hz;clear hK hz;with_reducible repeat' first|simp only[zQ,seval,X0, *]|simp only[jab]|apply P3|intro _
 refine sindex_z HZ.out hl fun i hi=>?_
 have e:decide (0≤i)=decide (a∈l):=by
  rcases hi with⟨rfl,h⟩|⟨k,rfl,h⟩
  ·rw[decide_eq_false h];rfl
  ·rw[decide_eq_true (R5 h)];simp
 clear hi;with_reducible repeat' first|simp only[zQ,seval,X0,e, *]|simp only[jab]|apply P3|intro _
/-! ### Shapes -/
abbrev ShT:=Int×Int
def upN (l:List ShT):Nat→Nat→List Int
  |0,_=>[]
  |k+1,j=>if j=0 then [] else (l.getD j (0,0)).2::upN l k (l.getD j (0,0)).1.toNat
def UpOk (l:List ShT)(n:Nat):Prop:= ∀j:Nat,1≤j→j≤n→ ∃s,l[j]?=some s∧0≤s.1∧s.1<j
theorem upN_more {l:List ShT}{n:Nat}(h:UpOk l n): ∀(j k:Nat),j≤n→j≤k→upN l k j=upN l j j:=by
 intro j;induction j using Nat.strongRecOn with
 |_ j ih=>
  intro k hj hk
  cases j with
  |zero=>cases k<;>simp[upN]
  |succ j=>
   obtain⟨s,hs,h1,h2⟩:=h (j+1) (by omega) hj;have hg:l.getD (j+1) (0,0)=s:=by rw[C0,hs];rfl
   cases k with
   |zero=>omega
   |succ k=>
    simp only[upN,hg,if_neg (Nat.succ_ne_zero j)];rw[ih s.1.toNat (by omega) k (by omega) (by omega),ih s.1.toNat (by omega) j (by omega) (by omega)]
theorem jiq {l:List ShT}: ∀(k j:Nat),(upN l k j).length≤k
 |0,_=>by simp[upN]
 |k+1,j=>by
  simp only[upN];split
  ·simp
  ·simp only[List.length_cons];have:=jiq (l:=l) k (l.getD j (0,0)).1.toNat;omega
theorem jmM {ex:Bool}{l:List ShT}{n:Nat}(h:UpOk l n)(hn:n≤1000)(hK: ∀g,K (.own H.length g 0 (upN l n n).length false) (H++[.grow g 1 ((upN l n n).reverse.map eI)])):
  ZC (XC tb nd) (jag Tryz.prog) 90 [.fz 2 ex (l.map eVl),Z64 n] L H K:=by
 refine K6 ⟨[(5,[(0,1)])],[],[]⟩ (jaf (by decide)) jrK (by simp) fun hL=>?_
 simp only[jkV,kkP];have hL0:L H.length=true:=by simpa using hL 0
 have HU:=Z4 h;have HK:=Z4 hK;have HN:=Z4 hn;clear h hK hn hL;with_reducible repeat' first|simp only[zQ,seval,X0, *]|simp only[jab]|apply P3|intro _
 refine jcV [(0,.fz 2 ex (l.map eVl))] n (fun k s' h'=> ∃(out:List Int) (g:Nat),k≤n∧s' 1=Z64 (k:Int)∧s' 5= .own H.length g 0 out.length false∧h'=H++[.grow g 1 (out.map eI)]∧out++upN l k k=upN l n n) (by repeat' (first|exact trivial|(refine⟨rfl,?_⟩)|(refine⟨by simp only[jaj,X4,reduceIte];assumption,?_⟩))) rfl ⟨[],0,V2 _,rfl,rfl,rfl,rfl⟩ ?_;rintro k s' h' ⟨out,g,hk,f1,f5,rfl,ho⟩ ⟨f0,-⟩;have HO:=Z4 ho;clear ho
 cases k with
 |zero=>
  have hlt: ¬(0:Int)<((0:Nat):Int):=by omega
  have eo:out=upN l n n:=by have:=HO.out;simpa[upN] using this
  have hb:(H++[ZB.grow g 1 (out.map eI)])[H.length]?=some (.grow g 1 (out.map eI)):=jcr;have hl:out.length≤1000000:=by rw[eo];have:=jiq (l:=l) n n;have:=HN.out;omega
  have fin:Fin H (.own H.length g 0 out.length false) (H++[.grow g 1 (out.reverse.map eI)]) K:=Fin.keep (by rw[eo];exact HK.out g);have HB:=Z4 hb;clear eo hb;with_reducible repeat' first|simp only[zQ,seval,X0,hlt, *]|simp only[jab]|apply P3|intro _
  refine jtX HB.out hl hL0 ?_;with_reducible repeat' first|simp only[zQ,seval,X0,jai, *]|simp only[jab]|apply P3|intro _
 |succ j=>
  obtain⟨⟨up,nm⟩,hs,h1,h2⟩:=HU.out (j+1) (by omega) hk;simp only at h1 h2;obtain⟨u,rfl⟩: ∃u:Nat,up=(u:Int):=⟨up.toNat,by omega⟩;have hg:l.getD (j+1) (0,0)=((u:Int),nm):=by rw[C0,hs];rfl
  have hgt:(0:Int)<((j+1:Nat):Int):=by omega
  have hn2:natZ (Z64 ((j+1:Nat):Int))=some (j+1):=by simp[natZ];omega
  have hjl:j+1<l.length:=(U0.1 hs).1;have e1:upN l (j+1) (j+1)=nm::upN l u u:=by
   simp only[upN,hg,if_neg (Nat.succ_ne_zero j)];rw[show ((u:Int)).toNat=u by omega,upN_more HU.out u j (by omega) (by omega)]
  have hol:out.length≤1000:=by
   have:=congrArg O0d HO.out;rw[G3] at this;have:=jiq (l:=l) n n;have:=HN.out;omega
  have ap:appZ L (H++[.grow g 1 (out.map eI)]) 1 8 [[Z64 nm]] (.own H.length g 0 out.length false)=some (.own H.length (g+1) 0 (out++[nm]).length false,H++[.grow (g+1) 1 ((out++[nm]).map eI)]):=by
   rw[jcU];refine⟨_,jcr,by simp,by unfold reach;simp;omega,hL0,by simp,?_⟩;rw[jjG,W1,I5 (by simp),List.map_append];rfl
  have FN:=Z4 (show (out++[nm])++upN l u u=upN l n n by rw[←HO.out,e1,M8];rfl);have HU2:=Z4 (show u<j+1 by omega);clear e1 hg hol h1 h2;obtain⟨o2,ho2⟩: ∃o2,o2=out++[nm]:=⟨_,rfl⟩;rw[←ho2] at ap FN;clear ho2;with_reducible repeat' first|simp only[zQ,seval,X0,hgt,hn2,hs,ap,jai, *]|simp only[jab]|apply P3|intro _
  have:=HU2.out;exact⟨u,by omega,by omega,rfl,o2,rfl,rfl,FN.out⟩
end
section
open Go Go.RowKit
variable {tb:List (FuncId×Bool)}{nd:Bool}{L:Nat→Bool}{H X:ZH}{K:ZV→ZH→Prop}{l:List ShT}
def jeP (l:List ShT)(k:Nat)(s:ShT):Bool:=decide (0≤s.1)&&decide (s.1≤(k:Int))&&decide (0≤s.2)&& !((l.drop 1).take k).any (fun t=>decide (s=t))&& !decide (s.2∈upN l s.1.toNat s.1.toNat)
def jfh (l:List ShT):Int:=if 100<l.length then 2 else match l with
  |[]=>3
  |s0::r=>if s0=(-1,-1) then (if r.zipIdx.all (fun x=>jeP l x.2 x.1)=true then 0 else 3) else 3
theorem jhS {α:Type}{co:List α}{q:Nat→α→Bool}:(co.zipIdx.all (fun x=>q x.2 x.1)=true)↔ ∀(a:Nat) (i:α),co[a]?=some i→q a i=true:=by
 rw[N2];constructor
 ·intro h a i hi
  exact h (i,a) (L7.2 hi)
 ·rintro h ⟨i,a⟩ hx
  exact h a i (L7.1 hx)
def ShTo (l:List ShT)(k:Nat):Prop:= ∀(j:Nat) s,j<k→(l.drop 1)[j]?=some s→jeP l j s=true
theorem ShTo.up {k:Nat}(h:ShTo l k){n:Nat}(hn:n≤k)(hk:k<l.length):UpOk l n:=fun j h1 h2=>by
 obtain⟨s,hs⟩: ∃s,l[j]?=some s:=⟨_,U1 (by omega)⟩;have:=h (j - 1) s (by omega) (by rw[List.getElem?_drop,show 1+(j - 1)=j by omega];exact hs);unfold jeP at this;simp only[U2,decide_eq_true_eq] at this;exact⟨s,hs,this.1.1.1.1,by have:=this.1.1.1.2;omega⟩
theorem jf5 {s0:ShT}{r:List ShT}(h: ¬100<(s0::r).length):jfh (s0::r)=if s0=(-1,-1) then (if r.zipIdx.all (fun x=>jeP (s0::r) x.2 x.1)=true then 0 else 3) else 3:=by
 unfold jfh;rw[if_neg h]
theorem jtI (h:jfh l=0):l.length≤100∧1≤l.length∧UpOk l (l.length - 1):=by
 by_cases h1:100<l.length
 ·unfold jfh at h;rw[if_pos h1] at h;cases h
 cases l with
 |nil=>cases h
 |cons s0 r=>
  rw[jf5 h1] at h;split at h
  ·split at h
   ·rename_i hz
    have h2:=jhS.1 hz;refine⟨by omega,by simp,ShTo.up (k:=(s0::r).length - 1) (fun j s _ hj=>h2 j s (by simpa using hj)) (V2 _) (by simp)⟩
   ·cases h
  ·cases h
def shM (l:List ShT):List (KZ×ZV):=l.map fun s=>(.p s.1 s.2,Z64 1)
theorem jtK {t:ShT}: ∀{l:List ShT},jdP (shM l) (.p t.1 t.2)=if l.any (fun s=>decide (t=s))=true then some (Z64 1) else none
 |[]=>rfl
 |s::l=>by
  show (if KZ.p t.1 t.2=KZ.p s.1 s.2 then some (Z64 1) else jdP (shM l) (.p t.1 t.2))=_;by_cases h:t=s
  ·subst h;simp
  ·rw[if_neg (by intro e;injection e with e1 e2;exact h (O0e e1 e2)),jtK,List.any_cons,decide_eq_false h,Bool.false_or]
theorem sh_put {t:ShT}: ∀{l:List ShT},l.any (fun s=>decide (t=s))=false→jgU (shM l) (.p t.1 t.2) (Z64 1)=shM (l++[t])
 |[],_=>rfl
 |s::l,h=>by
  simp only[List.any_cons,Bool.or_eq_false_iff,decide_eq_false_iff_not] at h;show (if KZ.p t.1 t.2=KZ.p s.1 s.2 then _ else (KZ.p s.1 s.2,Z64 1)::jgU (shM l) (.p t.1 t.2) (Z64 1))=_;rw[if_neg (by intro e;injection e with e1 e2;exact h.1 (O0e e1 e2)),sh_put h.2];rfl
section
variable {P T U V:ZB}{Y:ZH}
theorem jnr:(H++(P::(X++(T::Y))))[H.length+(X.length+1)]?=some T:=by
 rw[N0 (by omega),D8];simp
theorem jr2:(H++(P::(X++(T::Y)))).set (H.length+(X.length+1)) U=H++(P::(X++(U::Y))):=by
 rw[B7 _ _ (by omega),D8];simp
theorem d_atX1:(H++(P::(X++(T::U::Y))))[H.length+(X.length+1+1)]?=some U:=by
 rw[N0 (by omega),D8];simp
end
def ShWf (l:List ShT):Prop:= ∀s∈l,(Lit.int .i64 s.1).wf=true∧(Lit.int .i64 s.2).wf=true
theorem jtH (hw:ShWf l)(hb:l.length≤100000000000000)(hK:K (Z64 (jfh l)) H):ZC (XC tb nd) (jag Tryz.prog) 52 [.fz 2 false (l.map eVl)] L H K:=by
 refine K6 Gh.no (jaf (by decide)) jrJ (by simp) fun hL=>?_
 simp only[jkU,kkP];have HL:=Z4 hL;have HK:=Z4 hK;have HW:=Z4 hw;have fin0: ∀b X,jfh l=b→Fin H (Z64 b) (H++X) K:=fun b X h=>finX rfl (by rw[←h];exact HK.out)
 clear hK hw hL;by_cases h1:100<l.length
 ·have fin:=fin0 2 [] (by unfold jfh;rw[if_pos h1])
  rw[A0] at fin;have h1':(100:Int)<(l.length:Int):=by omega
  clear h1 fin0;with_reducible repeat' first|simp only[zQ,seval,X0,h1', *]|simp only[jab]|apply P3|intro _
 have h1': ¬(100:Int)<(l.length:Int):=by omega
 by_cases hnil:l=[]
 ·have fin:=fin0 3 [] (by rw[hnil];rfl)
  rw[A0] at fin;have h0:(l.length:Int)=0:=by rw[hnil];rfl
  have hlt: ¬(100:Int)<0:=by omega
  clear h1 h1' fin0 hnil;with_reducible repeat' first|simp only[zQ,seval,X0,h0,hlt, *]|simp only[jab]|apply P3|intro _
 obtain⟨s0,r,hl⟩:=List.exists_cons_of_ne_nil hnil;clear hnil;have hl0: ¬(l.length:Int)=0:=by rw[hl];simp;omega
 have hx0:l[0]?=some s0:=by rw[hl];rfl
 have hp0:0<l.length:=by rw[hl];simp
 have n0:natZ (Z64 0)=some 0:=rfl;have hr:l.drop 1=r:=by rw[hl];rfl
 by_cases h2:s0=(-1,-1)
 case neg=>
  have fin:=fin0 3 [] (by rw[hl,jf5 (by rw[←hl];exact h1),if_neg h2]);rw[A0] at fin;have hs:jf7 [0,0] [Z64 s0.1,Z64 s0.2] [Z64 (-1),Z64 (-1)]=some false:=by
   have: ¬(s0.1= -1∧s0.2= -1):=fun h=>h2 (O0e h.1 h.2)
   simp only[jf7,jmP,if_true];by_cases h1:s0.1= -1
   ·have h2: ¬s0.2= -1:=fun h2=>this ⟨h1,h2⟩
    simp[h1,h2]
   ·simp[h1]
  clear h1 h2 fin0 hl hr;with_reducible repeat' first|simp only[zQ,seval,X0,h1',hl0,hx0,hp0,n0,hs, *]|simp only[jab]|apply P3|intro _
 have hs:jf7 [0,0] [Z64 s0.1,Z64 s0.2] [Z64 (-1),Z64 (-1)]=some true:=by rw[h2];rfl
 have eE:jfh l=if r.zipIdx.all (fun x=>jeP l x.2 x.1)=true then 0 else 3:=by
  conv=>lhs;rw[hl]
  rw[jf5 (by rw[←hl];exact h1),if_pos h2,← hl]
 have HE:=Z4 eE;have HR:=Z4 hr;have H1:=Z4 h1;have hrl:r.length+1=l.length:=by rw[hl];rfl
 have HRL:=Z4 hrl;have ct: ∀H,cutZ H 2 1 l.length l.length (none:Option Opd).isSome (.fz 2 false (l.map eVl))=some (.fz 2 false (r.map eVl)):=fun H=>by
  simp only[cutZ,P2,L4];rw[if_pos ⟨trivial,by omega,V2 _,V2 _⟩,if_neg (fun e=>by have:=congrArg O0d e;rw[P2,G9] at this;omega),← List.map_drop,hr,I5 (by simp;omega)];simp
 have n1:natZ (Z64 1)=some 1:=rfl;clear h1 h2 eE hr hl hrl;with_reducible repeat' first|simp only[zQ,seval,X0,h1',hl0,hx0,hp0,n0,hs,ct,n1,num0,num1,Q9,jlh, *]|simp only[jab]|apply P3|intro _
 refine jaK [(0,.fz 2 false (l.map eVl)),(3,.mp H.length),(21,.fz 2 false (r.map eVl))] r.length (fun k s h'=> ∃X,h'=H++(.box (ZBo false::(shM (r.take k)).map entK)::X)∧ShTo l k) (by have:=H1.out;have:=HRL.out;omega) ⟨rfl,rfl,rfl,rfl,rfl,rfl⟩ rfl rfl (by repeat' (first|exact trivial|(refine⟨rfl,?_⟩)|(refine⟨by simp only[jaj,X4,reduceIte];assumption,?_⟩))) rfl rfl (by decide) ⟨[],rfl,fun j s h=>by omega⟩ ?_ ?_
 ·clear hx0 hp0 hl0 hs h1' ct
  rintro k s' h' hk ⟨X,rfl,hsh⟩ hi hln ⟨f0,f3,f21,-⟩;obtain⟨⟨u,nm⟩,hx⟩: ∃s,r[k]?=some s:=⟨_,U1 hk⟩;have hxm:=R5 hx;have hwf:=HW.out (u,nm) (by rw[←HR.out] at hxm;exact List.mem_of_mem_drop hxm);have hwu:(Lit.int .i64 u).wf=true:=hwf.1;have hwn:(Lit.int .i64 nm).wf=true:=hwf.2;have bad : jeP l k (u, nm) = false → ∀ X, Fin H (Z64 3) (H ++ X) K := fun h X => fin0 3 X (by
   rw[HE.out,if_neg (fun hz=>?_)];rw[jhS.1 hz k _ hx] at h;cases h)
  have eA:jeP l k (u,nm)=(decide (0≤u)&&decide (u≤(k:Int))&&decide (0≤nm)&& !(r.take k).any (fun t=>decide ((u,nm)=t))&& !decide (nm∈upN l u.toNat u.toNat)):=by unfold jeP;rw[HR.out]
  have hlX:L (H.length+(X.length+1))=true:=HL.out _;have hl0:L H.length=true:=by simpa using HL.out 0
  have HX:=Z4 hx;have HSH:=Z4 hsh;have HA:=Z4 eA;clear hsh eA hwf hxm fin0;by_cases c1:u<0
  ·have fin:=bad (by rw[HA.out,decide_eq_false (by omega: ¬0≤u)];rfl)
   clear bad;with_reducible repeat' first|simp only[zQ,seval,X0,jnr,jr2,hlX,hx,c1, *]|simp only[jab]|apply P3|intro _
  by_cases c2:(k:Int)<u
  ·have fin:=bad (by rw[HA.out,decide_eq_false (by omega: ¬u≤(k:Int))];simp)
   clear bad;with_reducible repeat' first|simp only[zQ,seval,X0,jnr,jr2,hlX,hx,c1,c2, *]|simp only[jab]|apply P3|intro _
  by_cases c3:nm<0
  ·have fin:=bad (by rw[HA.out,decide_eq_false (by omega: ¬0≤nm)];simp)
   clear bad;with_reducible repeat' first|simp only[zQ,seval,X0,jnr,jr2,hlX,hx,c1,c2,c3, *]|simp only[jab]|apply P3|intro _
  have hfi:=jtK (t:=(u,nm)) (l:=r.take k)
  cases hd:(r.take k).any (fun t=>decide ((u,nm)=t)) with
  |true=>
   have fin:=bad (by rw[HA.out,hd];simp);rw[hd,if_pos rfl] at hfi;simp only at hfi;clear bad hd;with_reducible repeat' first|simp only[zQ,seval,X0,jai,jnr,jr2,hlX,hx,c1,c2,c3,hwu,hwn,hfi,jmr,List.cons.injEq,je0,jgy,jgz,ZV.mp.injEq,exists_eq_left', *]|simp only[jab]|apply P3|intro _
  |false=>
  rw[hd] at hfi;simp only[N6,if_false] at hfi;obtain⟨j,rfl⟩: ∃j:Nat,u=(j:Int):=⟨u.toNat,by omega⟩;have hup:UpOk l j:=HSH.out.up (by omega) (by have:=HRL.out;omega);have hj:j≤1000:=by have:=H1.out;have:=HRL.out;omega
  have hnl:=jiq (l:=l) j j;have HD:=Z4 hd;have HUP:=Z4 hup;have HJ:=Z4 hj;have HNL:=Z4 hnl;clear hd hup hj hnl;with_reducible repeat' first|simp only[zQ,seval,X0,jai,jnr,jr2,hlX,hx,c1,c2,c3,hwu,hwn,hfi,jmr,List.cons.injEq,je0,jgy,jgz,ZV.mp.injEq,exists_eq_left', *]|simp only[jab]|apply P3|intro _
  refine jmM HUP.out HJ.out fun g=>?_
  obtain⟨rv,hrv⟩: ∃rv,rv=(upN l j j).reverse:=⟨_,rfl⟩;have hrl:(upN l j j).length=rv.length:=by rw[hrv,H6]
  have hml:decide (nm∈rv)=decide (nm∈upN l ((j:Int)).toNat ((j:Int)).toNat):=by rw[hrv];simp
  have hr9:rv.length≤1000:=by rw[←hrl];have:=HNL.out;have:=HJ.out;omega
  rw[hrl,← hrv];have HML:=Z4 hml;clear hrl hrv hml;have hz: ∀P T Y,ja2 (H++(P::(X++(T:: .grow g 1 (rv.map eI)::Y)))) 1 (.own (H.length+(X.length+1+1)) g 0 rv.length false)=some (rv.map eI):=fun P T Y=>jbz d_atX1 (by simp)
  have HZ:=Z4 hz;clear hz;with_reducible repeat' first|simp only[zQ,seval,X0,jnr,hl0, *]|simp only[jab]|apply P3|intro _
  all_goals first|omega|skip
  refine jr3 (HZ.out _ _ _) hr9 ?_
  cases hm:decide (nm∈rv) with
  |true=>
   have fin:=bad (by rw[HA.out,← HML.out,hm];simp);clear bad hm;with_reducible repeat' first|simp only[zQ,seval,X0, *]|simp only[jab]|apply P3|intro _
  |false=>
   have hgood:jeP l k ((j:Int),nm)=true:=by
    rw[HA.out,← HML.out,hm,HD.out,decide_eq_true (by omega:(0:Int)≤(j:Int)),decide_eq_true (by omega:(j:Int)≤(k:Int)),decide_eq_true (by omega:0≤nm)];rfl
   have hk1:ShTo l (k+1):=fun a s ha hs=>by
    by_cases hak:a=k
    ·subst hak
     rw[HR.out,HX.out] at hs;injection hs with hs;rw[←hs];exact hgood
    ·exact HSH.out a s (by omega) hs
   have hpu:=sh_put (t:=((j:Int),nm)) HD.out;have htk:r.take k++[((j:Int),nm)]=r.take (k+1):=by
    rw[X5 hk];have:=U1 hk;rw[HX.out] at this;injection this with this;rw[←this]
   rw[htk] at hpu;simp only at hpu;have HK1:=Z4 hk1;clear hm bad hgood hk1 htk c1 c2 c3;with_reducible repeat' first|simp only[zQ,seval,X0,jai,jnr,hl0,hwu,hwn,hpu,jsW,List.cons.injEq,je0,ZV.mp.injEq,exists_eq_left', *]|simp only[jab]|apply P3|intro _
   all_goals first|exact⟨_,rfl⟩|exact HK1.out
 ·rintro s' h' ⟨X,rfl,hsh⟩ ⟨f0,f3,f21,-⟩
  have fin := fun X => fin0 0 X (by
   rw[HE.out,if_pos (jhS.2 fun a i hi=>hsh a i (U0.1 hi).1 (by rw[HR.out];exact hi))])
  clear hsh fin0;with_reducible repeat' first|simp only[zQ,seval,X0, *]|simp only[jab]|apply P3|intro _
end
section
open Go Go.RowKit
section
variable {X:XT}{F:FuncId→Option jbq}{L:Nat→Bool}{H:ZH}{K:ZV→ZH→Prop}{α:Type}{e:α→List ZV}{arg:α→ZV}{l:List α}{k b:Nat}{n:Option Nat}{g f:FuncId}{caps:List ZV}{z:ZV}{I:ZH→Prop}{P:α→Bool→Prop}
def AnyR (P:α→Bool→Prop)(l:List α)(b:Bool):Prop:=(b=true→ ∃m∈l,P m true)∧(b=false→ ∀m∈l,P m false)
def IdxR (P:α→Bool→Prop)(l:List α)(r:Int):Prop:=(0≤r∧ ∃m∈l,P m true)∨(r= -1∧ ∀m∈l,P m false)
theorem IdxR.any {r:Int}(h:IdxR P l r):AnyR P l (decide (0≤r)):=by
 rcases h with⟨h,m⟩|⟨rfl,m⟩
 ·rw[decide_eq_true h];exact⟨fun _=>m,fun e=>(by cases e)⟩
 ·exact⟨fun e=>(by cases e),fun _=>m⟩
theorem idxI_z (hF:F g=some ⟨19,c_if k n,[.tmp 4]⟩)(hx: ∀args fl hp,args.length=2→X.x g args fl hp=none)(ha: ∀m∈l,jdI (e m) 0 n=some (arg m))(hI:I H)(hz: ∀H,I H→ja2 H k z=some (l.map e))(hb:l.length≤100000000000000)
  (hf: ∀m∈l,∀ H,I H→ ∀K,(∀b H',I H'→P m b→K (ZBo b) H')→ZC X F f (arg m::caps) L H K) (hK: ∀r H',I H'→IdxR P l r→K (Z64 r) H'):ZC X F g [z,.func f caps] L H K:=by
 refine Z9 Gh.no hx hF (by simp) ?_;simp only[c_if,kkP];have hlen:=ja3 (hz H hI);rw[P2] at hlen;have HF:=Z4 hf;have HK:=Z4 hK;have HA:=Z4 ha;have HZ:=Z4 hz;have HI:=Z4 hI;clear hf hK ha hF hx hz hI;with_reducible repeat' first|simp only[zQ,seval,X0,hlen, *]|simp only[jab]|apply P3|intro _
 refine jaK [(0,z),(1,.func f caps)] l.length (fun k s' h'=>I h'∧ ∀m∈l.take k,P m false) (by omega) ⟨rfl,rfl,rfl,rfl,rfl,rfl⟩ rfl rfl (by repeat' (first|exact trivial|(refine⟨rfl,?_⟩)|(refine⟨by simp only[jaj,X4,reduceIte];assumption,?_⟩))) rfl rfl (by decide) ⟨HI.out,by simp⟩ ?_ ?_
 ·rintro j s' h' hk ⟨hi',hno⟩ hi hl ⟨f0,f1,-⟩
  obtain⟨q,hq,hld⟩:=jcS (HZ.out _ hi') hk;have hld:=(hld n).trans (HA.out _ (M4 hk));have HN:=Z4 hno;have HJ:=Z4 hi';clear hno hi';with_reducible repeat' first|simp only[zQ,seval,X0,hq,hld, *]|simp only[jab]|apply P3|intro _
  refine HF.out _ (M4 hk) _ HJ.out _ fun b H' hi2 hp=>?_
  cases b with
  |true=>
   have fin:=Fin.keep (H0:=H) (HK.out (j:Int) H' hi2 (.inl ⟨by omega,_,M4 hk,hp⟩));clear hp hi2 hld;with_reducible repeat' first|simp only[zQ,seval,X0, *]|simp only[jab]|apply P3|intro _
  |false=>
   have fin : I H' ∧ ∀ m ∈ l.take (j + 1), P m false := ⟨hi2, fun x hx => by
    rw[X5 hk] at hx;rcases O3.1 hx with hx|hx
    ·exact HN.out x hx
    ·rw[X6.1 hx];exact hp⟩
   clear hp hi2 hld;with_reducible repeat' first|simp only[zQ,seval,X0, *]|simp only[jab]|apply P3|intro _
 ·rintro s' h' ⟨hi',hno⟩ ⟨f0,f1,-⟩
  rw[I5 (V2 _)] at hno;have fin:=Fin.keep (H0:=H) (HK.out (-1) h' hi' (.inr ⟨rfl,hno⟩));clear hno hi';with_reducible repeat' first|simp only[zQ,seval,X0, *]|simp only[jab]|apply P3|intro _
theorem cfI_z {g2:FuncId}(hF2:F g2=some ⟨9,c_cf g,[.tmp 4]⟩)(hx2: ∀args fl hp,args.length=2→X.x g2 args fl hp=none)(hF:F g=some ⟨19,c_if k n,[.tmp 4]⟩)(hx: ∀args fl hp,args.length=2→X.x g args fl hp=none)
  (ha: ∀m∈l,jdI (e m) 0 n=some (arg m)) (hI:I H) (hz: ∀H,I H→ja2 H k z=some (l.map e)) (hb:l.length≤100000000000000) (hf: ∀m∈l,∀ H,I H→ ∀K,(∀b H',I H'→P m b→K (ZBo b) H')→ZC X F f (arg m::caps) L H K)
  (hK: ∀b H',I H'→AnyR P l b→K (ZBo b) H'):ZC X F g2 [z,.func f caps] L H K:=by
 refine Z9 Gh.no hx2 hF2 (by simp) ?_;simp only[c_cf,kkP];have HF:=Z4 hf;have fin:=fun r H' (h1:I H') (h2:IdxR P l r)=>Fin.keep (H0:=H) (hK _ H' h1 h2.any)
 have HX:=Z4 hx;have HA:=Z4 ha;have HFF:=Z4 hF;have HZ:=Z4 hz;have HI:=Z4 hI;clear hf hK hx2 hF2 hx hF hz ha hI;with_reducible repeat' first|simp only[zQ,seval,X0, *]|simp only[jab]|apply P3|intro _
 refine idxI_z HFF.out HX.out HA.out HI.out HZ.out hb HF.out fun r H' h1 h2=>?_
 have fin:=fin r H' h1 h2;clear h1 h2;with_reducible repeat' first|simp only[zQ,seval,X0, *]|simp only[jab]|apply P3|intro _
theorem jr6 {g2:FuncId}(hF2:F g2=some ⟨9,c_cf g,[.tmp 4]⟩)(hx2: ∀args fl hp,args.length=2→X.x g2 args fl hp=none)(hF:F g=some ⟨19,c_if k n,[.tmp 4]⟩)(hx: ∀args fl hp,args.length=2→X.x g args fl hp=none)
  (ha: ∀m∈l,jdI (e m) 0 n=some (arg m)) (hz:ja2 H k z=some (l.map e)) (hb:l.length≤100000000000000) (hf: ∀m∈l,∀ K,(∀b,P m b→K (ZBo b) H)→ZC X F f (arg m::caps) L H K)
  (hK: ∀b,AnyR P l b→K (ZBo b) H):ZC X F g2 [z,.func f caps] L H K:=
 cfI_z (I:=fun h=>h=H) (P:=P) hF2 hx2 hF hx ha rfl (fun _ e=>e.symm▸hz) hb (fun m hm _ e K hk=>e.symm▸hf m hm K fun b h=>hk b _ rfl h) (fun b _ e h=>e.symm▸hK b h)
end
structure FrT where
  fn:Int
  pc:Int
  dst:Int
  gen:Int
  self:Int×Int
  regs:List (Int×Int)
  tries:List (Int×Int)
structure CeT where
  kind:Int
  num:Int
  vals:List (Int×Int)
  frs:List FrT
structure ThT where
  frs:List FrT
  st:Int
  on:Int
  val:Int×Int
structure StT where
  cells:List CeT
  shapes:List (Int×Int)
  texts:List ByteArray
  threads:List ThT
  ends:List (Int×Int×Int)
  said:List (Int×Int)
  asked:Int
  steps:Int
abbrev eFr (f:FrT):List ZV:=[Z64 f.fn,Z64 f.pc,Z64 f.dst,Z64 f.gen,Z64 f.self.1,Z64 f.self.2,.fz 2 false (f.regs.map eVl),.fz 2 false (f.tries.map eVl)]
abbrev eCe (c:CeT):List ZV:=[Z64 c.kind,Z64 c.num,.fz 2 false (c.vals.map eVl),.fz 8 false (c.frs.map eFr)]
abbrev eTh (t:ThT):List ZV:=[.fz 8 false (t.frs.map eFr),Z64 t.st,Z64 t.on,Z64 t.val.1,Z64 t.val.2]
abbrev eEn (e:Int×Int×Int):List ZV:=[Z64 e.1,Z64 e.2.1,Z64 e.2.2]
abbrev eS (s:StT):List ZV:=[.fz 4 false (s.cells.map eCe),.fz 2 false (s.shapes.map eVl),.fz 1 false (s.texts.map eSt),.fz 5 false (s.threads.map eTh),.fz 3 false (s.ends.map eEn),.fz 2 false (s.said.map eVl),Z64 s.asked,Z64 s.steps]
structure BigS (s:StT):Prop where
  cells:s.cells.length≤100000000000000
  shapes:s.shapes.length≤100000000000000
  texts:s.texts.length≤100000000000000
  threads:s.threads.length≤100000000000000
  ends:s.ends.length≤100000000000000
  said:s.said.length≤100000000000000
  vals: ∀c∈s.cells,c.vals.length≤100000000000000
  frs: ∀c∈s.cells,c.frs.length≤100000000000000
  regs: ∀c∈s.cells,∀ f∈c.frs,f.regs.length≤100000000000000
  frt: ∀t∈s.threads,t.frs.length≤100000000000000
  regt: ∀t∈s.threads,∀ f∈t.frs,f.regs.length≤100000000000000
  wf:ShWf s.shapes
  str: ∀t∈s.texts,t.size≤maxLen
variable {tb:List (FuncId×Bool)}{nd:Bool}{L:Nat→Bool}{H X:ZH}{K:ZV→ZH→Prop}{s:StT}{i:Nat}{v:Int×Int}
def jfY (s:StT)(n:Int):Int:=match s.cells[n.toNat]? with
  |some c=>c.kind
  |none=>0
def fitB (s:StT)(v:Int×Int):Bool:=jcl v&&(if v.1=4 then decide (v.2<s.texts.length) else if v.1=5 then decide (v.2<s.cells.length)&& !decide (jfY s v.2=0) else true)
def isB (s:StT)(v:Int×Int)(k:Int):Bool:=fitB s v&&decide (v.1=5)&&decide (jfY s v.2=k)
theorem jax {i:Nat}{B:ZB}(h:H[i]?=some B)(X:ZH):(H++X)[i]?=some B:=by
 rw[V5 (U0.1 h).1];exact h
theorem jnf (hs:H[i]?=some (.box (eS s)))(hK:K (ZBo (fitB s v)) H):ZC (XC tb nd) (jag Tryz.prog) 61 [.ptr i 0,.agg (eVl v)] L H K:=by
 refine K6 Gh.no (jaf (by decide)) juR (by simp) fun hL=>?_
 obtain⟨k,n⟩:=v;simp only[jnO,kkP];have hi:=jax hs;have HK:=Z4 hK;have fin0: ∀b X,fitB s (k,n)=b→Fin H (ZBo b) (H++X) K:=fun b X h=>finX rfl (by rw[←h];exact HK.out)
 clear hK hs hL;with_reducible repeat' first|simp only[zQ,seval,X0,jai, *]|simp only[jab]|apply P3|intro _
 refine jtV ?_
 cases hr:jcl (k,n) with
 |false=>
  have fin:=fun X=>fin0 false X (by unfold fitB;rw[hr];rfl)
  clear hr fin0;with_reducible repeat' first|simp only[zQ,seval,X0, *]|simp only[jab]|apply P3|intro _
 |true=>
 by_cases h4:k=4
 ·subst h4
  have fin:=fun X=>fin0 _ X (show fitB s (4,n)=decide (n<s.texts.length) by unfold fitB;rw[hr];rfl)
  clear hr fin0;with_reducible repeat' first|simp only[zQ,seval,X0,jai,hi, *]|simp only[jab]|apply P3|intro _
 by_cases h5:k=5
 ·subst h5
  have hp:=jgr hr (.inr rfl);obtain⟨m,rfl⟩: ∃m:Nat,n=(m:Int):=⟨n.toNat,by omega⟩;by_cases hm:m<s.cells.length
  ·obtain⟨c,hc⟩: ∃c,s.cells[m]?=some c:=⟨_,U1 hm⟩
   have hk:jfY s (m:Int)=c.kind:=by unfold jfY;rw[O0f,hc]
   have hm':(m:Int)<(s.cells.length:Int):=by omega
   have fin:=fun X=>fin0 _ X (show fitB s (5,(m:Int))= !decide (c.kind=0) by unfold fitB;rw[hr];simp[hk,hm])
   clear hr fin0 hk hp;with_reducible repeat' first|simp only[zQ,seval,X0,jai,hi,hm',hc,hm, *]|simp only[jab]|apply P3|intro _
  ·have hm': ¬(m:Int)<(s.cells.length:Int):=by omega
   have fin:=fun X=>fin0 _ X (show fitB s (5,(m:Int))=false by unfold fitB;rw[hr];simp[hm])
   clear hr fin0 hp hm;with_reducible repeat' first|simp only[zQ,seval,X0,jai,hi,hm', *]|simp only[jab]|apply P3|intro _
 ·have fin:=fun X=>fin0 true X (by unfold fitB;rw[hr];simp[h4,h5])
  clear hr fin0;with_reducible repeat' first|simp only[zQ,seval,X0,jai,h4,h5, *]|simp only[jab]|apply P3|intro _
theorem isB_ex {k:Int}(h:isB s v k=true):fitB s v=true∧v.1=5∧ ∃c,s.cells[v.2.toNat]?=some c∧c.kind=k∧0≤v.2:=by
 unfold isB at h;simp only[U2,decide_eq_true_eq] at h;obtain⟨⟨h1,h2⟩,h3⟩:=h;refine⟨h1,h2,?_⟩;unfold fitB at h1;simp only[U2,h2] at h1;obtain⟨h1,h4⟩:=h1;have hp:0≤v.2:=jgr h1 (.inr h2);have hl:v.2<s.cells.length:=by simp at h4;exact h4.1
 obtain⟨c,hc⟩: ∃c,s.cells[v.2.toNat]?=some c:=⟨_,U1 (by omega)⟩;refine⟨c,hc,?_,hp⟩;unfold jfY at h3;rw[hc] at h3;exact h3
theorem is_z {k:Int}(hs:H[i]?=some (.box (eS s)))(hK:K (ZBo (isB s v k)) H):ZC (XC tb nd) (jag Tryz.prog) 65 [.ptr i 0,.agg (eVl v),Z64 k] L H K:=by
 refine K6 Gh.no (jaf (by decide)) f_ck_is (by simp) fun hL=>?_
 obtain⟨d,n⟩:=v;simp only[jvk,kkP];have hi:=jax hs;have HK:=Z4 hK;have fin0: ∀b X,isB s (d,n) k=b→Fin H (ZBo b) (H++X) K:=fun b X h=>finX rfl (by rw[←h];exact HK.out)
 clear hK hs hL;have HI:=Z4 hi;with_reducible repeat' first|simp only[zQ,seval,X0,jai, *]|simp only[jab]|apply P3|intro _
 refine jnf (v:=(d,n)) (HI.out _) ?_
 cases hr:fitB s (d,n) with
 |false=>
  have fin:=fun X=>fin0 false X (by unfold isB;rw[hr];rfl)
  clear hr fin0;with_reducible repeat' first|simp only[zQ,seval,X0, *]|simp only[jab]|apply P3|intro _
 |true=>
 by_cases h5:d=5
 ·subst h5
  have hf:=hr;unfold fitB at hf;simp only[U2] at hf;have hp:0≤n:=jgr hf.1 (.inr rfl);obtain⟨m,rfl⟩: ∃m:Nat,n=(m:Int):=⟨n.toNat,by omega⟩;have hm:m<s.cells.length:=by
   have:=hf.2;simp at this;exact this.1
  obtain⟨c,hc⟩: ∃c,s.cells[m]?=some c:=⟨_,U1 hm⟩;have hk:jfY s (m:Int)=c.kind:=by unfold jfY;rw[O0f,hc]
  have fin:=fun X=>fin0 _ X (show isB s (5,(m:Int)) k=decide (c.kind=k) by unfold isB;rw[hr];simp[hk])
  clear hr fin0 hk hp hf;with_reducible repeat' first|simp only[zQ,seval,X0,jai,hi,hc,hm, *]|simp only[jab]|apply P3|intro _
 ·have fin:=fun X=>fin0 false X (by unfold isB;simp[h5])
  clear hr fin0;with_reducible repeat' first|simp only[zQ,seval,X0,jai,h5, *]|simp only[jab]|apply P3|intro _
end
section
open Go Go.RowKit
variable {tb:List (FuncId×Bool)}{nd:Bool}{L:Nat→Bool}{H X:ZH}{K:ZV→ZH→Prop}{s:StT}{i:Nat}{v:Int×Int}
theorem jiZ:jag Tryz.prog 56=some ⟨9,c_cf 92,[.tmp 4]⟩:=by kernel_rfl
theorem jiX:jag Tryz.prog 92=some ⟨19,c_if 4 (some 4),[.tmp 4]⟩:=by kernel_rfl
theorem jrS:jag Tryz.prog 97=some ⟨9,c_cf 126,[.tmp 4]⟩:=by kernel_rfl
theorem jrH:jag Tryz.prog 126=some ⟨19,c_if 8 (some 8),[.tmp 4]⟩:=by kernel_rfl
theorem jrR:jag Tryz.prog 54=some ⟨9,c_cf 91,[.tmp 4]⟩:=by kernel_rfl
theorem jrG:jag Tryz.prog 91=some ⟨19,c_if 2 (some 2),[.tmp 4]⟩:=by kernel_rfl
theorem f_cf_end:jag Tryz.prog 62=some ⟨9,c_cf 100,[.tmp 4]⟩:=by kernel_rfl
theorem f_if_end:jag Tryz.prog 100=some ⟨19,c_if 3 (some 3),[.tmp 4]⟩:=by kernel_rfl
/-! ### all -/
theorem all1_z {j:Nat}(hj:H[j]?=some (.box [.ptr i 0]))(hs:H[i]?=some (.box (eS s)))(hK:K (ZBo (!fitB s v)) H):ZC (XC tb nd) (jag Tryz.prog) 125 [.agg (eVl v),.ptr j 0] L H K:=by
 refine K6 Gh.no (jaf (by decide)) juT (by simp) fun hL=>?_
 simp only[jnQ,kkP];have hi:=Z4 (jax hs);have hj:=jax hj;have fin:=fun X=>finX (X:=X) rfl hK
 clear hK hs hL;with_reducible repeat' first|simp only[zQ,seval,X0,jai,hj, *]|simp only[jab]|apply P3|intro _
 refine jnf (v:=v) (hi.out _) ?_;with_reducible repeat' first|simp only[zQ,seval,X0, *]|simp only[jab]|apply P3|intro _
theorem allv_z {l:List (Int×Int)}(hs:H[i]?=some (.box (eS s)))(hb:l.length≤100000000000000)(hK:K (ZBo (l.all (fitB s))) H):ZC (XC tb nd) (jag Tryz.prog) 96 [.ptr i 0,.fz 2 false (l.map eVl)] L H K:=by
 refine K6 Gh.no (jaf (by decide)) f_ck_all (by simp) fun hL=>?_
 simp only[jqI,kkP];have hi:=Z4 (jax hs);have HB:=Z4 hb;have fin:=fun X=>finX (X:=X) rfl hK
 have e:(!l.any fun v=> !fitB s v)=l.all (fitB s):=by rw[O0g]
 clear hK hs hL hb;with_reducible repeat' first|simp only[zQ,seval,X0,jai, *]|simp only[jab]|apply P3|intro _
 refine ji4 (l:=l) (e:=eVl) (arg:=fun v=> .agg (eVl v)) (p:=fun v=> !fitB s v) jgJ (bx2 (by decide)) jgI (bx2 (by decide)) (fun m _=>rfl) (by rw[jaM]) HB.out (fun m _ K hK=>all1_z jcr (hi.out _) hK) ?_;with_reducible repeat' first|simp only[zQ,seval,X0,e, *]|simp only[jab]|apply P3|intro _
/-! ### texts -/
def OneK (M:List (KZ×ZV)):Prop:= ∀x∈M,x.2=Z64 1
theorem OneK.find {q:KZ}: ∀{M:List (KZ×ZV)},OneK M→jdP M q=none∨jdP M q=some (Z64 1)
 |[],_=> .inl rfl
 |(p,z)::M,h=>by
  show (if q=p then some z else jdP M q)=none∨(if q=p then some z else jdP M q)=some (Z64 1);split
  ·exact .inr (by rw[show z=Z64 1 from h _ O0h])
  ·exact OneK.find fun x hx=>h x (O0i _ hx)
theorem OneK.put {q:KZ}: ∀{M:List (KZ×ZV)},OneK M→OneK (jgU M q (Z64 1))
 |[],_=>fun x hx=>by rw[X6.1 hx]
 |(p,z)::M,h=>by
  show OneK (if q=p then (q,Z64 1)::M else (p,z)::jgU M q (Z64 1));have h2:OneK M:=fun x hx=>h x (O0i _ hx)
  split
  ·exact O0j.2 ⟨rfl,h2⟩
  ·exact O0j.2 ⟨h _ O0h,OneK.put h2⟩
theorem jtf {k:Nat}(hk:k<19):jdr[k]?=some [.val (.string (je6 k))]:=by
 have h1:jca[k]?=some (je6 k):=by
  unfold je6;rw[C0,U1 (by rw[jcF];exact hk)];rfl
 unfold jdr;rw[U8,h1];rfl
theorem textsC_z {l:List ByteArray}(hb:l.length≤100000000000000)(hs: ∀t∈l,t.size≤maxLen)(hK: ∀b,K (ZBo b) H):ZC (XC tb true) (jag Tryz.prog) 53 [.fz 1 false (l.map eSt)] L H K:=by
 refine K6 Gh.no (jaf (by decide)) jrI (by simp) fun hL=>?_
 simp only[jkT,kkP];have HS:=Z4 hs;have hl1:L H.length=true:=hL 0;have fin: ∀b X,Fin H (ZBo b) (H++X) K:=fun b X=>finX rfl (hK b)
 have hwl:((jdr.length:Nat):Int)=19:=by rw[jdZ];rfl
 clear hK hs hL;with_reducible repeat' first|simp only[zQ,seval,X0, *]|simp only[jab]|apply P3|intro _
 refine jpU ?_;with_reducible repeat' first|simp only[zQ,seval,X0,jlh, *]|simp only[jab]|apply P3|intro _
 refine jaK [(0,.fz 1 false (l.map eSt)),(3,.fz 1 false jdr),(4,.mp H.length),(9,.fz 1 false (l.map eSt))] l.length (fun k s h'=> ∃M,h'=H++[.box (ZBo true::M.map entK)]∧OneK M) (by omega) ⟨rfl,rfl,rfl,rfl,rfl,rfl⟩ rfl rfl (by repeat' (first|exact trivial|(refine⟨rfl,?_⟩)|(refine⟨by simp only[jaj,X4,reduceIte];assumption,?_⟩))) rfl rfl (by decide) ⟨[],rfl,fun x hx=>by cases hx⟩ ?_ ?_
 ·rintro k s' h' hk ⟨M,rfl,hM⟩ hi hln ⟨f0,f3,f4,f9,-⟩
  obtain⟨t,ht⟩: ∃t,l[k]?=some t:=⟨_,U1 hk⟩;have hts:=HS.out t (R5 ht);have HM:=Z4 hM;clear hM;rcases HM.out.find (q:= .s t) with hf|hf
  ·have HP:=Z4 (HM.out.put (q:= .s t))
   by_cases hw:(k:Int)<19
   ·have hwa:=jtf (k:=k) (by omega)
    have hk19:k<jdr.length:=by rw[jdZ];omega
    have hq:binV .neq (.string t) (.string (je6 k))=some (.bool (!decide (t=je6 k))):=rfl;by_cases he:t=je6 k
    ·rw[decide_eq_true he] at hq
     clear he;with_reducible repeat' first|simp only[zQ,seval,X0,jai,hl1,ht,hts,hf,hwl,hw,hwa,hk19,hq,jev,jeu,List.cons.injEq,je0,jgy,jgz,ZV.mp.injEq,Value.string.injEq,exists_eq_left', *]|simp only[jab]|apply P3|intro _
     all_goals first|exact⟨_,rfl,HP.out⟩|trace_state
    ·rw[decide_eq_false he] at hq
     clear he;with_reducible repeat' first|simp only[zQ,seval,X0,jai,hl1,ht,hts,hf,hwl,hw,hwa,hk19,hq,jev,jeu,List.cons.injEq,je0,jgy,jgz,ZV.mp.injEq,Value.string.injEq,exists_eq_left', *]|simp only[jab]|apply P3|intro _
   ·with_reducible repeat' first|simp only[zQ,seval,X0,jai,hl1,ht,hts,hf,hwl,hw,jev,jeu,List.cons.injEq,je0,jgy,jgz,ZV.mp.injEq,Value.string.injEq,exists_eq_left', *]|simp only[jab]|apply P3|intro _
    all_goals first|exact⟨_,rfl,HP.out⟩|trace_state
  ·with_reducible repeat' first|simp only[zQ,seval,X0,jai,hl1,ht,hts,hf,jev,jeu,List.cons.injEq,je0,jgy,jgz,ZV.mp.injEq,Value.string.injEq,exists_eq_left', *]|simp only[jab]|apply P3|intro _
 ·rintro s' h' ⟨M,rfl,hM⟩ ⟨f0,f3,f4,f9,-⟩
  clear hM;with_reducible repeat' first|simp only[zQ,seval,X0, *]|simp only[jab]|apply P3|intro _
/-! ### large -/
structure SzS (s:StT):Prop where
  cells:s.cells.length≤300
  texts:s.texts.length≤300
  said:s.said.length≤200
  ends:s.ends.length≤100
  vals: ∀c∈s.cells,c.vals.length≤600
theorem jtw {c:CeT}(hK: ∀b,(b=false→c.vals.length≤600)→K (ZBo b) H):ZC (XC tb nd) (jag Tryz.prog) 88 [.agg (eCe c)] L H K:=by
 refine K6 Gh.no (jaf (by decide)) joP (by simp) fun hL=>?_
 simp only[jji,kkP];have fin0: ∀b X,(b=false→c.vals.length≤600)→Fin H (ZBo b) (H++X) K:=fun b X h=>finX rfl (hK b h)
 clear hK hL;by_cases h1:(100:Int)<(c.vals.length:Int)
 ·by_cases h7:c.kind=7
  ·by_cases h6:(600:Int)<(c.vals.length:Int)
   ·have fin:=fun X=>fin0 true X (fun e=>by cases e)
    clear fin0;with_reducible repeat' first|simp only[zQ,seval,X0,jai,h1,h7,h6, *]|simp only[jab]|apply P3|intro _
   ·have fin:=fun X=>fin0 false X (fun e=>by omega)
    clear fin0;with_reducible repeat' first|simp only[zQ,seval,X0,jai,h1,h7,h6, *]|simp only[jab]|apply P3|intro _
  ·have fin:=fun X=>fin0 true X (fun e=>by cases e)
   clear fin0;with_reducible repeat' first|simp only[zQ,seval,X0,jai,h1,h7, *]|simp only[jab]|apply P3|intro _
 ·have fin:=fun X=>fin0 false X (fun e=>by omega)
  clear fin0;with_reducible repeat' first|simp only[zQ,seval,X0,jai,h1, *]|simp only[jab]|apply P3|intro _
theorem jtx {t:ByteArray}(hK:K (ZBo (decide (200<t.size))) H):ZC (XC tb nd) (jag Tryz.prog) 87 [.val (.string t)] L H K:=by
 refine Z9 Gh.no (jaf (by decide)) joQ (by simp) ?_;simp only[jjj,kkP];have e:decide ((200:Int)<(t.size:Int))=decide (200<t.size):=decide_eq_decide.2 (by omega);have fin:=Fin.keep (H0:=H) hK;rw[←e] at fin;clear hK e;with_reducible repeat' first|simp only[zQ,seval,X0,Value.string.injEq,exists_eq_left', *]|simp only[jab]|apply P3|intro _
theorem slarge_z (hs:H[i]?=some (.box (eS s)))(bg:BigS s)(hK: ∀b,(b=false→SzS s)→K (ZBo b) H):ZC (XC tb nd) (jag Tryz.prog) 51 [.ptr i 0] L H K:=by
 refine K6 Gh.no (jaf (by decide)) jrL (by simp) fun hL=>?_
 simp only[jkW,kkP];have fin0: ∀b,(b=false→SzS s)→Fin H (ZBo b) H K:=fun b h=>Fin.keep (hK b h)
 have fint:=fin0 true (fun e=>by cases e);have BG:=Z4 bg;clear hK hL bg;by_cases h1:(300:Int)<(s.cells.length:Int)
 ·clear fin0
  with_reducible repeat' first|simp only[zQ,seval,X0,hs,h1, *]|simp only[jab]|apply P3|intro _
 by_cases h2:(300:Int)<(s.texts.length:Int)
 ·clear fin0
  with_reducible repeat' first|simp only[zQ,seval,X0,hs,h1,h2, *]|simp only[jab]|apply P3|intro _
 by_cases h3:(200:Int)<(s.said.length:Int)
 ·clear fin0
  with_reducible repeat' first|simp only[zQ,seval,X0,hs,h1,h2,h3, *]|simp only[jab]|apply P3|intro _
 by_cases h4:(100:Int)<(s.ends.length:Int)
 ·clear fin0
  with_reducible repeat' first|simp only[zQ,seval,X0,hs,h1,h2,h3,h4, *]|simp only[jab]|apply P3|intro _
 with_reducible repeat' first|simp only[zQ,seval,X0,hs,h1,h2,h3,h4, *]|simp only[jab]|apply P3|intro _
 refine ji4 (l:=s.texts) (e:=eSt) (arg:=fun t=> .val (.string t)) (p:=fun t=>decide (200<t.size)) jqv (bx2 (by decide)) jqt (bx2 (by decide)) (fun m _=>rfl) (by rw[jaM]) BG.out.texts (fun m _ K hK=>jtx hK) ?_
 cases h5:s.texts.any (fun t=>decide (200<t.size)) with
 |true=>
  clear h5 fin0;with_reducible repeat' first|simp only[zQ,seval,X0,hs, *]|simp only[jab]|apply P3|intro _
 |false=>
  clear h5;with_reducible repeat' first|simp only[zQ,seval,X0,hs, *]|simp only[jab]|apply P3|intro _
  refine jr6 (l:=s.cells) (e:=eCe) (arg:=fun c=> .agg (eCe c)) (P:=fun c b=>b=false→c.vals.length≤600) jiZ (bx2 (by decide)) jiX (bx2 (by decide)) (fun m _=>rfl) (by rw[jaM]) BG.out.cells (fun m _ K hK=>jtw hK) fun b hb=>?_
  have fin:=fin0 b fun e=>⟨by omega,by omega,by omega,by omega,fun c hc=>hb.2 e c hc rfl⟩
  clear fin0 hb;with_reducible repeat' first|simp only[zQ,seval,X0, *]|simp only[jab]|apply P3|intro _
/-! ### weak -/
theorem jkz {a b:List (Int×ZV)}:(a.map ent=b.map ent)↔a=b:=by
 constructor
 ·intro h
  have hi: ∀x y:Int×ZV,ent x=ent y→x=y:=fun x y h=>by
   simp only[ent,ZV.tuple.injEq,List.cons.injEq,ZV.val.injEq,Value.int.injEq,true_and,and_true] at h;exact O0e h.1 h.2
  induction a generalizing b with
  |nil=>cases b with
   |nil=>rfl
   |cons=>simp at h
  |cons x a ih=>cases b with
   |nil=>simp at h
   |cons y b=>
    simp only[List.map_cons,List.cons.injEq] at h;rw[hi x y h.1,ih h.2]
 ·rintro rfl;rfl
def OneI (M:List (Int×ZV)):Prop:= ∀x∈M,x.2=Z64 1
theorem OneI.find {q:Int}: ∀{M:List (Int×ZV)},OneI M→jif M q=none∨jif M q=some (Z64 1)
 |[],_=> .inl rfl
 |(p,z)::M,h=>by
  show (if q=p then some z else jif M q)=none∨(if q=p then some z else jif M q)=some (Z64 1);split
  ·exact .inr (by rw[show z=Z64 1 from h _ O0h])
  ·exact OneI.find fun x hx=>h x (O0i _ hx)
theorem OneI.put {q:Int}: ∀{M:List (Int×ZV)},OneI M→OneI (jlf M q (Z64 1))
 |[],_=>fun x hx=>by rw[X6.1 hx]
 |(p,z)::M,h=>by
  show OneI (if q=p then (q,Z64 1)::M else (p,z)::jlf M q (Z64 1));have h2:OneI M:=fun x hx=>h x (O0i _ hx)
  split
  ·exact O0j.2 ⟨rfl,h2⟩
  ·exact O0j.2 ⟨h _ O0h,OneI.put h2⟩
def KeyTo (l:List (Int×Int))(n:Nat):Prop:= ∀k v,k<n→k % 2=0→l[k]?=some v→v.1=5
def jjB (l:List (Int×Int)):Prop:=l.length % 2=0∧KeyTo l l.length
theorem sweak_z {l:List (Int×Int)}(hb:l.length≤600)(hK: ∀b,(b=true→jjB l)→K (ZBo b) H):ZC (XC tb nd) (jag Tryz.prog) 95 [.ptr i 0,.fz 2 false (l.map eVl)] L H K:=by
 refine K6 Gh.no (jaf (by decide)) juQ (by simp) fun hL=>?_
 simp only[jnN,kkP];have hl1:L H.length=true:=hL 0;have fin0: ∀b X,(b=true→jjB l)→Fin H (ZBo b) (H++X) K:=fun b X h=>finX rfl (hK b h)
 clear hK hL;with_reducible repeat' first|simp only[zQ,seval,X0,jsV, *]|simp only[jab]|apply P3|intro _
 refine jcV [(1,.fz 2 false (l.map eVl)),(5,.mp H.length)] (l.length+2) (fun n s' h'=> ∃(k:Nat) (M:List (Int×ZV)),s' 6=Z64 (k:Int)∧h'=H++[.box (M.map ent)]∧OneI M∧KeyTo l k∧k % 2=0∧k≤l.length+1∧n=l.length+2 - k) (by repeat' (first|exact trivial|(refine⟨rfl,?_⟩)|(refine⟨by simp only[jaj,X4,reduceIte];assumption,?_⟩))) rfl ⟨0,[],rfl,rfl,(fun x hx=>by cases hx),(fun k v h=>by omega),rfl,by omega,rfl⟩ ?_;rintro n s' h' ⟨k,M,f6,rfl,hM,hk,he,hle,rfl⟩ ⟨f1,f5,-⟩;by_cases hc:(k:Int)<(l.length:Int)
 ·obtain⟨⟨d,w⟩,hx⟩: ∃x,l[k]?=some x:=⟨_,U1 (by omega)⟩
  have hkl:k<l.length:=by omega
  have HM:=Z4 hM;have HK:=Z4 hk;have wa:IntKind.i64.wrap ((k:Int)+2)=((k+2:Nat):Int):=by rw[jbn (by omega) (by omega)];omega
  have fint:=fun X=>fin0 false X (fun e=>by cases e)
  clear hM hk fin0;by_cases h5:d=5
  ·subst h5
   rcases HM.out.find (q:=w) with hf|hf
   ·have fin2 : l.length + 2 - (k + 2) < l.length + 2 - k ∧ OneI (jlf M w (Z64 1)) ∧ KeyTo l (k + 2) ∧ (k + 2) % 2 = 0 ∧ k + 2 ≤ l.length + 1 := ⟨by omega, HM.out.put, fun a v ha h2 hv => by
     rcases Nat.lt_or_ge a k with h|h
     ·exact HK.out a v h h2 hv
     ·have:a=k:=by omega
      subst this;rw[hx] at hv;injection hv with hv;rw[←hv],by omega,by omega⟩
    have F2:=Z4 fin2;clear fin2 fint he hle;with_reducible repeat' first|simp only[zQ,seval,X0,jai,hl1,hc,hkl,hx,hf,wa,jfH,jli,jgy,jgz,ZV.mp.injEq,jkz, *]|simp only[jab]|apply P3|intro _
    all_goals first|exact⟨_,F2.out.1,k+2,rfl,_,rfl,F2.out.2.1,F2.out.2.2.1,F2.out.2.2.2.1,F2.out.2.2.2.2,rfl⟩|trace_state
   ·clear he hle
    with_reducible repeat' first|simp only[zQ,seval,X0,jai,hl1,hc,hkl,hx,hf,wa,jfH,jli,jgy,jgz,ZV.mp.injEq,jkz, *]|simp only[jab]|apply P3|intro _
  ·clear he hle
   with_reducible repeat' first|simp only[zQ,seval,X0,jai,hl1,hc,hkl,hx,h5,wa, *]|simp only[jab]|apply P3|intro _
 ·have et:(l.length:Int).tmod 2=((l.length % 2:Nat):Int):=by rw[Int.tmod_eq_emod_of_nonneg (by omega)];omega
  have fin := fun X => fin0 (decide ((l.length : Int).tmod 2 = 0)) X (fun e => by
   rw[decide_eq_true_eq,et] at e;exact⟨by omega,fun a v ha h2 hv=>hk a v (by omega) h2 hv⟩)
  have hq:binV .rem (.int .i64 (l.length:Int)) (.int .i64 2)=some (.int .i64 ((l.length:Int).tmod 2)):=rfl;clear hk fin0 hM he hle et;with_reducible repeat' first|simp only[zQ,seval,X0,hc,hq, *]|simp only[jab]|apply P3|intro _
end
section
open Go Go.RowKit
variable {tb:List (FuncId×Bool)}{nd:Bool}{L:Nat→Bool}{H X:ZH}{K:ZV→ZH→Prop}{s:StT}{i:Nat}{v:Int×Int}
def jhi:jam:= .seq (kks [kkM 82 5,kkU 83 82,kkM 84 83,kkJ 85 (.mv (kkt 6)) 84,kkJ 86 (.un .not (kkt 85)) 84,kkO 87 84 86,kkM 88 87,kkJ 89 (.fieldAddr 3 (kkt 3)) 88,kkJ 90 (.load none (kkt 89)) 88,kkJ 91 (.len (kkt 90)) 88,kkJ 92 (.mv (kkt 7)) 88,kkJ 93 (.bin .neq (kkt 91) (kkt 92)) 88,kkO 94 88 93,kkM 95 94,kkJ 96 (.load none (kkt 2)) 95,kkJ 97 (.fieldAddr 2 (kkt 3)) 95,kkJ 98 (.load none (kkt 97)) 95,kkJ 99 (.call (kkF 96) [kkt 96,kkt 98]) 95,kkJ 100 (.un .not (kkt 99)) 95,kkO 101 95 100] (kkr 101 [kkI 4 (.mv kkn)])) (kks [kkA 102 3 3,kkL 103 102,kkI 104 (.func 98 [kkt 2]),kkC 105 97 [kkt 103,kkt 104],kkU 106 105,kkM 4 106] .ret)
def jnP:jam:=kks [kkI 2 (.box 1 (kkt 0)),kkI 3 (.box 4 (kkt 1)),kkI 4 (.mv kkn)] (kkd [kkA 8 1 3,kkL 9 8,kkB 10 .eql 9 (kkV 0),kkA 11 2 3,kkL 12 11,kkH 13 12,kkB 14 .eql 13 (kkV 0),kkM 5 10,kkM 6 14,kkK 7 0] (.seq (kks [kkA 15 0 3,kkL 16 15] (.block 0 (kks [kkB 18 .eql 16 (kkV 0),kkM 17 18] (.cond (kkt 17) .skip (kks [kkB 20 .eql 16 (kkV 1),kkM 19 20] (.cond (kkt 19) (kkd [kkA 21 1 3,kkL 22 21,kkL 23 2,kkN 24 23,kkA 25 1 24,kkL 26 25,kkH 27 26,kkB 28 .sub 27 (kkV 1),kkC 29 64 [kkt 22,(kkV 0),kkt 28],kkM 5 29] (.opsD [kkM 30 5,kkM 31 30,kkG 32 (.fieldAddr 2 (kkt 3)) 31,⟨(some 33),.load none (kkt 32),(some (31,true)),false⟩,kkG 34 (.len (kkt 33)) 31,kkG 35 (.load none (kkt 2)) 31,kkG 36 (.nilCheck (kkt 35)) 31,kkG 37 (.fieldAddr 1 (kkt 36)) 31,kkG 38 (.load none (kkt 37)) 31,kkG 39 (.fieldAddr 1 (kkt 3)) 31,kkG 40 (.load none (kkt 39)) 31,⟨(some 41),.call (kkF 93) [kkt 38,kkt 40],(some (31,true)),false⟩,kkG 42 (.len (kkt 41)) 31,kkG 43 (.bin .eql (kkt 34) (kkt 42)) 31,kkE 44 31 43,kkM 6 44])) (kks [kkB 46 .eql 16 (kkV 2),kkM 45 46] (.cond (kkt 45) (.ops [kkI 6 (.mv kky)]) (kks [kkB 48 .eql 16 (kkV 3),kkM 47 48] (.cond (kkt 47) (.ops [kkA 49 2 3,kkL 50 49,kkH 51 50,kkB 52 .eql 51 (kkV 1),kkM 6 52]) (kks [kkB 54 .eql 16 (kkV 4),kkM 53 54] (.cond (kkt 53) (kks [kkA 55 1 3,kkL 56 55,kkB 57 .geq 56 (kkV 0),kkM 5 57] (.ops [kkA 58 2 3,kkL 59 58,kkI 60 (.func 94 [kkt 2]),kkC 61 59 [kkt 59,kkt 60],kkU 62 61,kkM 6 62])) (kks [kkB 64 .eql 16 (kkV 5),kkM 63 64] (.cond (kkt 63) (kks [kkA 65 1 3,kkL 66 65,kkC 67 64 [kkt 66,(kkV 0),(kkV 2)],kkM 5 67] (kks [kkA 68 1 3,kkL 69 68,kkB 70 .eql 69 (kkV 0)] (.cond (kkt 70) (.ops [kkK 7 1]) .skip))) (kks [kkB 72 .eql 16 (kkV 6),kkM 71 72] (.cond (kkt 71) (.ops [kkA 73 1 3,kkL 74 73,kkC 75 64 [kkt 74,(kkV (-1)),(kkV 4)],kkM 5 75]) (kks [kkB 77 .eql 16 (kkV 7),kkM 76 77] (.cond (kkt 76) (.ops [kkL 78 2,kkA 79 2 3,kkL 80 79,kkC 81 95 [kkt 78,kkt 80],kkM 6 81]) (kks [kkI 4 (.mv kkn)] .ret))))))))))))))))))) jhi))
theorem juS:jag Tryz.prog 58=some ⟨107,jnP,[.tmp 4]⟩:=by kernel_rfl
theorem jlN: ∀r:List Int,(r.map eI).flatten.all jbR=true
 |[]=>rfl
 |a::r=>by simp[List.map_cons,List.flatten_cons,jlN r,jbR]
theorem enames_z {l:List ShT}{n:Int}(hw:ShWf l)(hb:l.length≤100000000000000)(hK: ∀r:List Int,r.length≤1000→K (.fz 1 false (r.map eI)) H):ZC (XC tb nd) (jag Tryz.prog) 93 [.fz 2 false (l.map eVl),Z64 n] L H K:=by
 refine K6 Gh.no (jaf (by decide)) joR (by simp) fun hL=>?_
 simp only[jjk,kkP];have fin:Fin H .nil H K:=Fin.nilFz (Fin.keep (hK [] (by simp)));have fin2: ∀(g m:Nat) (r:List Int),r.length=m→m≤1000→Fin H (.own H.length g 0 m false) (H++[.grow g 1 (r.map eI)]) K:=fun g m r hm h=>by
  refine Fin.frz (k:=1) (rows:=r.map eI) (H_at0 ..) (by simp[hm]) (jlN r) ?_;rw[W1,I5 (by simp[hm])];exact Fin.trunc (by rw[B7 _ _ (V2 _)];exact Mods.ext H _) rfl (by rw[B7 _ _ (V2 _),K5];exact hK r (by omega))
 have F2:=Z4 fin2;have HU:=Z4 (@jtI l);clear hK hL fin2;with_reducible repeat' first|simp only[zQ,seval,X0, *]|simp only[jab]|apply P3|intro _
 refine jtH hw hb ?_;by_cases h0:jfh l=0
 ·have hu:=HU.out h0
  by_cases h1:n<0
  ·clear hu HU
   with_reducible repeat' first|simp only[zQ,seval,X0,h0,h1, *]|simp only[jab]|apply P3|intro _
  by_cases h2:(l.length:Int)≤n
  ·clear hu HU
   with_reducible repeat' first|simp only[zQ,seval,X0,h0,h1,h2, *]|simp only[jab]|apply P3|intro _
  obtain⟨m,rfl⟩: ∃m:Nat,n=(m:Int):=⟨n.toNat,by omega⟩;have hm:UpOk l m:=fun j a b=>hu.2.2 j a (by omega)
  have hm9:m≤1000:=by omega
  clear hu HU;with_reducible repeat' first|simp only[zQ,seval,X0,h0,h1,h2, *]|simp only[jab]|apply P3|intro _
  refine jmM hm hm9 fun g=>?_
  have fin:=F2.out g (upN l m m).length (upN l m m).reverse (by simp) (by have:=jiq (l:=l) m m;omega);clear hm F2;with_reducible repeat' first|simp only[zQ,seval,X0, *]|simp only[jab]|apply P3|intro _
 ·clear HU
  with_reducible repeat' first|simp only[zQ,seval,X0,h0, *]|simp only[jab]|apply P3|intro _
def FrOk (s:StT)(f:FrT):Prop:=f.regs.all (fitB s)=true∧fitB s f.self=true
structure jc8 (s:StT)(c:CeT):Prop where
  vals:c.vals.all (fitB s)=true
  frs: ∀f∈c.frs,FrOk s f
  clos:c.kind=4→0≤c.num
  gen:c.kind=5→c.num=0→c.frs.length=1
  nofr: ¬(c.kind=5∧c.num=0)→c.frs=[]
  weak:c.kind=7→jjB c.vals
theorem jc8.of {c:CeT}{fr:Int}(h:(c.frs.length:Int)=fr∧c.vals.all (fitB s)=true∧ ∀f∈c.frs,FrOk s f)(h4:c.kind=4→0≤c.num)(h5:c.kind=5∧c.num=0∧fr=1∨ ¬(c.kind=5∧c.num=0)∧fr=0)(h7:c.kind=7→jjB c.vals):jc8 s c:=by
 refine⟨h.2.1,h.2.2,h4,fun a b=>?_,fun a=>?_,h7⟩
 ·rcases h5 with q|q
  ·have:=h.1;omega
  ·exact absurd ⟨a,b⟩ q.1
 ·rcases h5 with q|q
  ·exact absurd ⟨q.1,q.2.1⟩ a
  ·exact List.eq_nil_of_length_eq_zero (by have:=h.1;omega)
theorem cell1_z {j:Nat}(hj:H[j]?=some (.box [.ptr i 0]))(hs:H[i]?=some (.box (eS s)))(hK:K (ZBo (!isB s v 3)) H):ZC (XC tb nd) (jag Tryz.prog) 94 [.agg (eVl v),.ptr j 0] L H K:=by
 refine K6 Gh.no (jaf (by decide)) jrQ (by simp) fun hL=>?_
 simp only[jk1,kkP];have hi:=Z4 (jax hs);have hj:=jax hj;have fin:=fun X=>finX (X:=X) rfl hK
 clear hK hs hL;with_reducible repeat' first|simp only[zQ,seval,X0,jai,hj, *]|simp only[jab]|apply P3|intro _
 refine is_z (v:=v) (hi.out _) ?_;with_reducible repeat' first|simp only[zQ,seval,X0, *]|simp only[jab]|apply P3|intro _
theorem cell2_z {j:Nat}{f:FrT}(hj:H[j]?=some (.box [.ptr i 0]))(hs:H[i]?=some (.box (eS s)))(hb:f.regs.length≤100000000000000)(hK: ∀b,(b=false→FrOk s f)→K (ZBo b) H):ZC (XC tb nd) (jag Tryz.prog) 98 [.agg (eFr f),.ptr j 0] L H K:=by
 refine K6 Gh.no (jaf (by decide)) jrP (by simp) fun hL=>?_
 simp only[jk0,kkP];have hi:=Z4 (jax hs);have hj:=jax hj;have fin0:=fun b (h:b=false→FrOk s f) X=>finX (X:=X) rfl (hK b h)
 have HB:=Z4 hb;clear hK hs hL hb;with_reducible repeat' first|simp only[zQ,seval,X0,jai,hj, *]|simp only[jab]|apply P3|intro _
 refine allv_z (hi.out _) HB.out ?_
 cases ha:f.regs.all (fitB s) with
 |false=>
  have fin:=fin0 true (fun e=>by cases e);clear fin0 ha;with_reducible repeat' first|simp only[zQ,seval,X0,jai,hj, *]|simp only[jab]|apply P3|intro _
 |true=>
  have fin:=fin0 (!fitB s f.self) (fun e=>⟨ha,by simpa using e⟩);clear fin0 ha;with_reducible repeat' first|simp only[zQ,seval,X0,jai,hj, *]|simp only[jab]|apply P3|intro _
  refine jnf (v:=f.self) (hi.out _) ?_;with_reducible repeat' first|simp only[zQ,seval,X0, *]|simp only[jab]|apply P3|intro _
theorem cellT_z {c:CeT}{S:ZS}{F0:FuncId→Option jbq}{KK:jaA→ZS→ZH→Prop}{nm vs:Bool}{fr:Int}(hs:H[i]?=some (.box (eS s)))(hb:c.vals.length≤100000000000000)(hb2:c.frs.length≤100000000000000)(hb3: ∀f∈c.frs,f.regs.length≤100000000000000)
  (h2:S 2= .ptr H.length 0) (h3:S 3= .ptr (H.length+1) 0) (h5:S 5=ZBo nm) (h6:S 6=ZBo vs) (h7:S 7=Z64 fr)
  (hr: ∀b X S',(b=true→nm=true∧vs=true∧(c.frs.length:Int)=fr∧c.vals.all (fitB s)=true∧ ∀f∈c.frs,FrOk s f)→S' 4=ZBo b→KK .ret S' (H++X)):
  zW (XC tb nd) (jag Tryz.prog) Gh.no L jhi S (H++(.box [.ptr i 0]:: .box (eCe c)::X)) KK:=by
 simp only[jhi,kkP];have hi:=Z4 (jax hs);have no:=fun X S' h=>hr false X S' (fun e=>by cases e) h
 have HR:=Z4 hr;have NO:=Z4 no;have HB:=Z4 hb;have HB2:=Z4 hb2;have HB3:=Z4 hb3;clear hr no hs hb hb2 hb3
 cases nm with
 |false=>
  with_reducible repeat' first|simp only[zQ,seval,X0,jai, *]|simp only[jab]|apply P3|intro _
  exact NO.out _ _ (by simp only[jaj,X4,reduceIte])
 |true=>
 cases vs with
 |false=>
  with_reducible repeat' first|simp only[zQ,seval,X0,jai, *]|simp only[jab]|apply P3|intro _
  exact NO.out _ _ (by simp only[jaj,X4,reduceIte])
 |true=>
 by_cases hl:(c.frs.length:Int)=fr
 case neg=>
  with_reducible repeat' first|simp only[zQ,seval,X0,jai,hl, *]|simp only[jab]|apply P3|intro _
  exact NO.out _ _ (by simp only[jaj,X4,reduceIte])
 have HLL:=Z4 hl;subst hl;with_reducible repeat' first|simp only[zQ,seval,X0,jai, *]|simp only[jab]|apply P3|intro _
 refine allv_z (hi.out _) HB.out ?_
 cases ha:c.vals.all (fitB s) with
 |false=>
  clear ha;with_reducible repeat' first|simp only[zQ,seval,X0,jai, *]|simp only[jab]|apply P3|intro _
  exact NO.out _ _ (by simp only[jaj,X4,reduceIte])
 |true=>
 have HA:=Z4 ha;clear ha;with_reducible repeat' first|simp only[zQ,seval,X0,jai, *]|simp only[jab]|apply P3|intro _
 refine jr6 (l:=c.frs) (e:=eFr) (arg:=fun f=> .agg (eFr f)) (P:=fun f b=>b=false→FrOk s f) jrS (bx2 (by decide)) jrH (bx2 (by decide)) (fun m _=>rfl) (by rw[jaM]) HB2.out (fun m hm K hK=>cell2_z jcr (hi.out _) (HB3.out m hm) hK) fun b hb=>?_
 have hR:=fun X S'=>HR.out (!b) X S' (fun e=>⟨rfl,rfl,rfl,HA.out,fun f hf=>hb.2 (by simpa using e) f hf rfl⟩)
 clear hb;with_reducible repeat' first|simp only[zQ,seval,X0,jai, *]|simp only[jab]|apply P3|intro _
 all_goals first|exact hR _ _ (by simp only[jaj,X4,reduceIte])|trace_state
end
section
open Go Go.RowKit
variable {tb:List (FuncId×Bool)}{nd:Bool}{L:Nat→Bool}{H X:ZH}{K:ZV→ZH→Prop}{s:StT}{i:Nat}{v:Int×Int}
theorem jgF {n lo hi:Int}(hK:K (ZBo (winB n lo hi)) H):ZC (XC tb nd) (jag Tryz.prog) 64 [Z64 n,Z64 lo,Z64 hi] L H K:=jhT (by kernel_rfl) (by decide) hK
theorem cell_z {c:CeT}(hs:H[i]?=some (.box (eS s)))(sz:SzS s)(bg:BigS s)(hc:c∈s.cells)(hK: ∀b,(b=true→jc8 s c)→K (ZBo b) H):ZC (XC tb nd) (jag Tryz.prog) 58 [.ptr i 0,.agg (eCe c)] L H K:=by
 refine K6 Gh.no (jaf (by decide)) juS (by simp) fun hL=>?_
 simp only[jnP,kkP];have hi:=jax hs;have HS:=Z4 hs;have hv:=sz.vals c hc;have no:=fun X=>finX (X:=X) rfl (hK false fun e=>by cases e)
 have tl:=fun S KK nm vs fr (X:ZH) h2 h3 h5 h6 h7 hr=>@cellT_z tb nd L H X s i c S (fun _=>none) KK nm vs fr hs (by omega) (bg.frs c hc) (bg.regs c hc) h2 h3 h5 h6 h7 hr
 have fin: ∀b X,(b=true→jc8 s c)→Fin H (ZBo b) (H++X) K:=fun b X h=>finX rfl (hK b h)
 have TL:=Z4 tl;have FI:=Z4 fin;have NO:=Z4 no;have HV:=Z4 hv;have BW:=Z4 bg.wf;have BS:=Z4 bg.shapes;have H3:=Z4 sz.cells;clear hs bg sz hc hK tl fin no hv hL;by_cases h0:c.kind=0
 ·with_reducible repeat' first|simp only[zQ,seval,X0,jai,h0, *]|simp only[jab]|apply P3|intro _
  refine TL.out _ _ _ _ _ _ rfl rfl rfl rfl rfl fun b X S' hb h4=>?_
  have fin:=FI.out b X fun e=>jc8.of (hb e).2.2 (by omega) (.inr ⟨by omega,rfl⟩) (by omega)
  clear hb;with_reducible repeat' first|simp only[zQ,seval,X0, *]|simp only[jab]|apply P3|intro _
 by_cases h1:c.kind=1
 ·have hw1:IntKind.i64.wrap ((s.shapes.length:Int) - 1)=(s.shapes.length:Int) - 1:=by
   have:=BS.out;rw[jbn (by omega) (by omega)]
  with_reducible repeat' first|simp only[zQ,seval,X0,jai,hi,h1,hw1, *]|simp only[jab]|apply P3|intro _
  refine jgF ?_
  cases hw:winB c.num 0 ((s.shapes.length:Int) - 1) with
  |false=>
   clear hw;with_reducible repeat' first|simp only[zQ,seval,X0,jai, *]|simp only[jab]|apply P3|intro _
   refine TL.out _ _ _ _ _ _ rfl rfl rfl rfl rfl fun b X S' hb h4=>?_
   have fin:=FI.out b X fun e=>absurd (hb e).1 (by decide)
   clear hb;with_reducible repeat' first|simp only[zQ,seval,X0, *]|simp only[jab]|apply P3|intro _
  |true=>
   clear hw;with_reducible repeat' first|simp only[zQ,seval,X0,jai,hi, *]|simp only[jab]|apply P3|intro _
   refine enames_z BW.out BS.out fun r hr=>?_
   with_reducible repeat' first|simp only[zQ,seval,X0,jai,hi, *]|simp only[jab]|apply P3|intro _
   refine TL.out _ _ _ _ _ _ rfl rfl rfl rfl rfl fun b X S' hb h4=>?_
   have fin:=FI.out b X fun e=>jc8.of (hb e).2.2 (by omega) (.inr ⟨by omega,rfl⟩) (by omega)
   clear hb;with_reducible repeat' first|simp only[zQ,seval,X0, *]|simp only[jab]|apply P3|intro _
 by_cases h2:c.kind=2
 ·with_reducible repeat' first|simp only[zQ,seval,X0,jai,h2, *]|simp only[jab]|apply P3|intro _
  refine TL.out _ _ _ _ _ _ rfl rfl rfl rfl rfl fun b X S' hb h4=>?_
  have fin:=FI.out b X fun e=>jc8.of (hb e).2.2 (by omega) (.inr ⟨by omega,rfl⟩) (by omega)
  clear hb;with_reducible repeat' first|simp only[zQ,seval,X0, *]|simp only[jab]|apply P3|intro _
 by_cases h3:c.kind=3
 ·with_reducible repeat' first|simp only[zQ,seval,X0,jai,h3, *]|simp only[jab]|apply P3|intro _
  refine TL.out _ _ _ _ _ _ rfl rfl rfl rfl rfl fun b X S' hb h4=>?_
  have fin:=FI.out b X fun e=>jc8.of (hb e).2.2 (by omega) (.inr ⟨by omega,rfl⟩) (by omega)
  clear hb;with_reducible repeat' first|simp only[zQ,seval,X0, *]|simp only[jab]|apply P3|intro _
 by_cases h4:c.kind=4
 ·with_reducible repeat' first|simp only[zQ,seval,X0,jai,h4, *]|simp only[jab]|apply P3|intro _
  refine ji4 (l:=c.vals) (e:=eVl) (arg:=fun v=> .agg (eVl v)) (p:=fun v=> !isB s v 3) jgJ (bx2 (by decide)) jgI (bx2 (by decide)) (fun m _=>rfl) (by rw[jaM]) (by have:=HV.out;omega) (fun m _ K hK=>cell1_z jcr (jax HS.out _) hK) ?_;with_reducible repeat' first|simp only[zQ,seval,X0,jai, *]|simp only[jab]|apply P3|intro _
  refine TL.out _ _ _ _ _ _ rfl rfl rfl rfl rfl fun b X S' hb hb4=>?_
  have fin:=FI.out b X fun e=>jc8.of (hb e).2.2 (fun _=>by have:=(hb e).1;simpa using this) (.inr ⟨by omega,rfl⟩) (by omega)
  clear hb;with_reducible repeat' first|simp only[zQ,seval,X0, *]|simp only[jab]|apply P3|intro _
 by_cases h5:c.kind=5
 ·with_reducible repeat' first|simp only[zQ,seval,X0,jai,h5, *]|simp only[jab]|apply P3|intro _
  refine jgF ?_;by_cases hn:c.num=0
  ·with_reducible repeat' first|simp only[zQ,seval,X0,jai,hn, *]|simp only[jab]|apply P3|intro _
   refine TL.out _ _ _ _ _ _ rfl rfl rfl rfl rfl fun b X S' hb hb4=>?_
   have fin:=FI.out b X fun e=>jc8.of (hb e).2.2 (by omega) (.inl ⟨h5,hn,rfl⟩) (by omega)
   clear hb;with_reducible repeat' first|simp only[zQ,seval,X0, *]|simp only[jab]|apply P3|intro _
  ·with_reducible repeat' first|simp only[zQ,seval,X0,jai,hn, *]|simp only[jab]|apply P3|intro _
   refine TL.out _ _ _ _ _ _ rfl rfl rfl rfl rfl fun b X S' hb hb4=>?_
   have fin:=FI.out b X fun e=>jc8.of (hb e).2.2 (by omega) (.inr ⟨by omega,rfl⟩) (by omega)
   clear hb;with_reducible repeat' first|simp only[zQ,seval,X0, *]|simp only[jab]|apply P3|intro _
 by_cases h6:c.kind=6
 ·with_reducible repeat' first|simp only[zQ,seval,X0,jai,h6, *]|simp only[jab]|apply P3|intro _
  refine jgF ?_;with_reducible repeat' first|simp only[zQ,seval,X0,jai, *]|simp only[jab]|apply P3|intro _
  refine TL.out _ _ _ _ _ _ rfl rfl rfl rfl rfl fun b X S' hb hb4=>?_
  have fin:=FI.out b X fun e=>jc8.of (hb e).2.2 (by omega) (.inr ⟨by omega,rfl⟩) (by omega)
  clear hb;with_reducible repeat' first|simp only[zQ,seval,X0, *]|simp only[jab]|apply P3|intro _
 by_cases h7:c.kind=7
 ·with_reducible repeat' first|simp only[zQ,seval,X0,jai,h7, *]|simp only[jab]|apply P3|intro _
  refine sweak_z HV.out fun b0 hb0=>?_
  with_reducible repeat' first|simp only[zQ,seval,X0,jai, *]|simp only[jab]|apply P3|intro _
  refine TL.out _ _ _ _ _ _ rfl rfl rfl rfl rfl fun b X S' hb hb4=>?_
  have fin:=FI.out b X fun e=>jc8.of (hb e).2.2 (by omega) (.inr ⟨by omega,rfl⟩) (fun _=>hb0 (hb e).2.1)
  clear hb hb0;with_reducible repeat' first|simp only[zQ,seval,X0, *]|simp only[jab]|apply P3|intro _
 have fin:=NO.out;with_reducible repeat' first|simp only[zQ,seval,X0,jai,h0,h1,h2,h3,h4,h5,h6,h7, *]|simp only[jab]|apply P3|intro _
end
section
open Go Go.RowKit
variable {tb:List (FuncId×Bool)}{nd:Bool}{L:Nat→Bool}{H X:ZH}{K:ZV→ZH→Prop}{s:StT}{i:Nat}{v:Int×Int}
theorem jtQ (hs:H[i]?=some (.box (eS s)))(hK:K (ZBo (decide ((s.texts.length:Int)≤v.2))) H):ZC (XC tb nd) (jag Tryz.prog) 55 [.agg (eVl v),.ptr i 0] L H K:=by
 refine K6 Gh.no (jaf (by decide)) joV (by simp) fun hL=>?_
 simp only[jjo,kkP];have hi:=jax hs;have fin:=fun X=>finX (X:=X) rfl hK
 clear hK hs hL;with_reducible repeat' first|simp only[zQ,seval,X0,jai,hi, *]|simp only[jab]|apply P3|intro _
theorem jtP {c:CeT}(hs:H[i]?=some (.box (eS s)))(sz:SzS s)(bg:BigS s)(hc:c∈s.cells)(hK: ∀b,(b=false→jc8 s c)→K (ZBo b) H):ZC (XC tb nd) (jag Tryz.prog) 57 [.agg (eCe c),.ptr i 0] L H K:=by
 refine K6 Gh.no (jaf (by decide)) joU (by simp) fun hL=>?_
 simp only[jjn,kkP];have HI:=Z4 (jax hs);have SZ:=Z4 sz;have BG:=Z4 bg;have HC:=Z4 hc;have fin0:=fun b h X=>finX (X:=X) rfl (hK b h)
 clear hK hs hL sz bg hc;with_reducible repeat' first|simp only[zQ,seval,X0,jai, *]|simp only[jab]|apply P3|intro _
 refine cell_z (HI.out _) SZ.out BG.out HC.out fun b hb=>?_
 have fin:=fin0 (!b) (fun e=>hb (by simpa using e));clear fin0 hb;with_reducible repeat' first|simp only[zQ,seval,X0, *]|simp only[jab]|apply P3|intro _
theorem jtO (hs:H[i]?=some (.box (eS s)))(hK: ∀b,K (ZBo b) H):ZC (XC tb nd) (jag Tryz.prog) 60 [.agg (eVl v),.ptr i 0] L H K:=by
 refine K6 Gh.no (jaf (by decide)) joT (by simp) fun hL=>?_
 simp only[jjm,kkP];have HI:=Z4 (jax hs);have fin:=fun b X=>finX (X:=X) rfl (hK b)
 clear hK hs hL;by_cases h4:v.1=4
 ·with_reducible repeat' first|simp only[zQ,seval,X0,jai,h4, *]|simp only[jab]|apply P3|intro _
  refine jnf (v:=(4,v.2)) (HI.out _) ?_;with_reducible repeat' first|simp only[zQ,seval,X0, *]|simp only[jab]|apply P3|intro _
 ·with_reducible repeat' first|simp only[zQ,seval,X0,jai,h4, *]|simp only[jab]|apply P3|intro _
theorem jtN {e:Int×Int×Int}(hs:H[i]?=some (.box (eS s)))(hl:s.cells.length≤300)(hK: ∀b,(b=false→isB s e.2 4=true)→K (ZBo b) H):ZC (XC tb nd) (jag Tryz.prog) 63 [.agg (eEn e),.ptr i 0] L H K:=by
 refine K6 Gh.no (jaf (by decide)) joS (by simp) fun hL=>?_
 simp only[jjl,kkP];have hi:=jax hs;have fin0:=fun b h X=>finX (X:=X) rfl (hK b h)
 have hw:IntKind.i64.wrap ((s.cells.length:Int) - 1)=(s.cells.length:Int) - 1:=by rw[jbn (by omega) (by omega)]
 have HI:=Z4 hi;clear hK hs hL hl;with_reducible repeat' first|simp only[zQ,seval,X0,jai,hi,hw, *]|simp only[jab]|apply P3|intro _
 refine jgF ?_
 cases winB e.1 0 ((s.cells.length:Int) - 1) with
 |false=>
  have fin:=fin0 true (fun e=>by cases e);clear fin0;with_reducible repeat' first|simp only[zQ,seval,X0,jai, *]|simp only[jab]|apply P3|intro _
 |true=>
  with_reducible repeat' first|simp only[zQ,seval,X0,jai, *]|simp only[jab]|apply P3|intro _
  refine is_z (v:=e.2) (HI.out _) ?_;have fin:=fin0 (!isB s e.2 4) (fun e=>by simpa using e);clear fin0;with_reducible repeat' first|simp only[zQ,seval,X0, *]|simp only[jab]|apply P3|intro _
structure StOk (s:StT):Prop where
  sz:SzS s
  cells: ∀c∈s.cells,jc8 s c
  ends: ∀e∈s.ends,isB s e.2 4=true
theorem scheck_z (bg:BigS s)(hK: ∀e,(e=0→StOk s)→K (Z64 e) H):ZC (XC tb true) (jag Tryz.prog) 31 [.agg (eS s)] L H K:=by
 refine K6 Gh.no (jaf (by decide)) jrO (by simp) fun hL=>?_
 simp only[jkZ,kkP];have BG:=Z4 bg;have fin0:=fun e h X=>finX (X:=X) rfl (hK e h)
 have no3:=fin0 3 (fun e=>by cases e);have no2:=fin0 2 (fun e=>by cases e);have NO:=Z4 no3;have F0:=Z4 fin0;clear hK hL bg no3 fin0;with_reducible repeat' first|simp only[zQ,seval,X0,jai, *]|simp only[jab]|apply P3|intro _
 refine slarge_z jcr BG.out fun b hb=>?_
 cases b with
 |true=>
  clear hb;with_reducible repeat' first|simp only[zQ,seval,X0,jai, *]|simp only[jab]|apply P3|intro _
 |false=>
 have SZ:=Z4 (hb rfl);clear hb no2;with_reducible repeat' first|simp only[zQ,seval,X0,jai, *]|simp only[jab]|apply P3|intro _
 refine jtH BG.out.wf BG.out.shapes ?_;by_cases h0:jfh s.shapes=0
 case neg=>
  have fin:=F0.out (jfh s.shapes) (fun e=>absurd e h0);with_reducible repeat' first|simp only[zQ,seval,X0,jai,h0, *]|simp only[jab]|apply P3|intro _
 have no3:=NO.out;with_reducible repeat' first|simp only[zQ,seval,X0,jai,h0, *]|simp only[jab]|apply P3|intro _
 clear h0;refine textsC_z BG.out.texts BG.out.str fun b=>?_
 cases b with
 |false=>
  with_reducible repeat' first|simp only[zQ,seval,X0,jai, *]|simp only[jab]|apply P3|intro _
 |true=>
 with_reducible repeat' first|simp only[zQ,seval,X0,jai, *]|simp only[jab]|apply P3|intro _
 refine ji4 (l:=s.shapes) (e:=eVl) (arg:=fun v=> .agg (eVl v)) (p:=fun v=>decide ((s.texts.length:Int)≤v.2)) jrR (bx2 (by decide)) jrG (bx2 (by decide)) (fun m _=>rfl) (by rw[jaM]) BG.out.shapes (fun m _ K hK=>jtQ jcr hK) ?_
 cases s.shapes.any (fun v=>decide ((s.texts.length:Int)≤v.2)) with
 |true=>
  with_reducible repeat' first|simp only[zQ,seval,X0,jai, *]|simp only[jab]|apply P3|intro _
 |false=>
 with_reducible repeat' first|simp only[zQ,seval,X0,jai, *]|simp only[jab]|apply P3|intro _
 refine jr6 (l:=s.cells) (e:=eCe) (arg:=fun c=> .agg (eCe c)) (P:=fun c b=>b=false→jc8 s c) jiZ (bx2 (by decide)) jiX (bx2 (by decide)) (fun m _=>rfl) (by rw[jaM]) BG.out.cells (fun m hm K hK=>jtP jcr SZ.out BG.out hm hK) fun b hb=>?_
 cases b with
 |true=>
  clear hb;with_reducible repeat' first|simp only[zQ,seval,X0,jai, *]|simp only[jab]|apply P3|intro _
 |false=>
 have CS:=Z4 fun c hc=>hb.2 rfl c hc rfl
 clear hb;with_reducible repeat' first|simp only[zQ,seval,X0,jai, *]|simp only[jab]|apply P3|intro _
 refine jr6 (l:=s.said) (e:=eVl) (arg:=fun c=> .agg (eVl c)) (P:=fun c b=>True) jgJ (bx2 (by decide)) jgI (bx2 (by decide)) (fun m _=>rfl) (by rw[jaM]) BG.out.said (fun m hm K hK=>jtO jcr fun b=>hK b trivial) fun b hb=>?_
 clear hb
 cases b with
 |true=>
  with_reducible repeat' first|simp only[zQ,seval,X0,jai, *]|simp only[jab]|apply P3|intro _
 |false=>
 with_reducible repeat' first|simp only[zQ,seval,X0,jai, *]|simp only[jab]|apply P3|intro _
 refine jr6 (l:=s.ends) (e:=eEn) (arg:=fun c=> .agg (eEn c)) (P:=fun e b=>b=false→isB s e.2 4=true) f_cf_end (bx2 (by decide)) f_if_end (bx2 (by decide)) (fun m _=>rfl) (by rw[jaM]) BG.out.ends (fun m hm K hK=>jtN jcr SZ.out.cells hK) fun b hb=>?_
 cases b with
 |true=>
  clear hb;with_reducible repeat' first|simp only[zQ,seval,X0,jai, *]|simp only[jab]|apply P3|intro _
 |false=>
 have fin:=F0.out 0 (fun _=>⟨SZ.out,CS.out,fun e he=>hb.2 rfl e he rfl⟩);clear hb no3;with_reducible repeat' first|simp only[zQ,seval,X0,jai, *]|simp only[jab]|apply P3|intro _
end
section
open Go Go.RowKit
def jkL:jam:=kks [kkI 2 (.box 3 (kkt 0)),kkI 3 (.box 8 (kkt 1)),kkK 4 0] (.seq (kks [kkQ 8 3 2,kkC 9 30 [kkt 8],kkM 5 9] (kks [kkM 10 5,kkB 11 .neq 10 (kkV 0)] (kkr 11 [kkM 12 5,kkM 4 12]))) (.seq (kks [kkQ 13 8 3,kkC 14 31 [kkt 13],kkM 6 14] (kks [kkM 15 6,kkB 16 .neq 15 (kkV 0)] (kkr 16 [kkM 17 6,kkM 4 17]))) (.seq (kks [kkA 18 3 3,kkL 19 18,kkH 20 19,kkB 21 .gtr 20 (kkV 5),kkM 22 21,kkJ 23 (.fieldAddr 3 (kkt 3)) 22,kkJ 24 (.load none (kkt 23)) 22,kkJ 25 (.call (kkF 32) [kkt 24,(kkF 33)]) 22,kkO 26 22 25] (kkr 26 [kkK 4 2])) (kks [kkQ 27 3 2,kkI 28 (.mkMap),kkI 29 (.build [kkS,kkS,kkS,(.val (.pointer none)),kkS,kkS,(.val (.map none))] [(0,3,(kkt 27)),(3,1,(kkt 3)),(6,1,(kkt 28))]),kkI 30 (.box 7 (kkt 29)),kkM 7 30] (kks [kkM 32 7,kkM 33 7,kkQ 34 3 2,kkC 35 34 [kkt 34],kkM 31 35,kkx 36 0 31,kkx 37 1 31,kkN 38 32,kkA 39 4 38,kkR 1 39 36,kkN 40 33,kkA 41 5 40,kkR 1 41 37] (.seq (kks [kkM 42 7,kkC 43 35 [kkt 42],kkU 44 43] (kkr 44 [kkK 4 3])) (kks [kkK 4 0] .ret)))))))
theorem jry:jag Tryz.prog 16=some ⟨45,jkL,[.tmp 4]⟩:=by kernel_rfl
def jjb:jam:=kks [kkI 1 (.box 5 (kkt 0)),kkI 2 (.mv kkn)] (kks [kkA 3 0 1,kkL 4 3,kkH 5 4,kkB 6 .gtr 5 (kkV 30),kkM 2 6] .ret)
theorem joK:jag Tryz.prog 33=some ⟨7,jjb,[.tmp 2]⟩:=by kernel_rfl
def ji9:jam:=kks [kkI 2 (.box 4 (kkt 0)),kkI 3 (.mv kkn)] (kks [kkL 4 1,kkQ 5 4 2,kkC 6 71 [kkt 4,kkt 5],kkU 7 6,kkM 3 7] .ret)
theorem joI:jag Tryz.prog 70=some ⟨8,ji9,[.tmp 3]⟩:=by kernel_rfl
def jnC:jam:=kks [kkI 3 (.box 4 (kkt 1)),kkI 4 (.mv kkn)] (.seq (kks [kkA 5 0 3,kkL 6 5] (.block 0 (kks [kkB 8 .eql 6 (kkV 4),kkM 7 8] (.cond (kkt 7) (kkd [kkA 9 1 3,kkL 10 9,kkM 11 0,kkN 12 11,kkA 13 0 12,kkA 14 0 13,kkL 15 14,kkH 16 15,kkB 17 .lss 10 (kkt 16),kkM 18 17,kkG 19 (.fieldAddr 2 (kkt 3)) 18,kkG 20 (.load none (kkt 19)) 18,kkG 21 (.len (kkt 20)) 18,kkG 22 (.mv (kkt 0)) 18,kkG 23 (.nilCheck (kkt 22)) 18,kkG 24 (.fieldAddr 0 (kkt 23)) 18,kkG 25 (.fieldAddr 0 (kkt 24)) 18,kkG 26 (.load none (kkt 25)) 18,kkG 27 (.fieldAddr 1 (kkt 3)) 18,kkG 28 (.load none (kkt 27)) 18,kkG 29 (.indexAddr 5 (kkt 26) (kkt 28)) 18,kkG 30 (.fieldAddr 3 (kkt 29)) 18,kkG 31 (.load none (kkt 30)) 18,kkG 32 (.len (kkt 31)) 18,kkG 33 (.bin .eql (kkt 21) (kkt 32)) 18,kkE 34 18 33,kkM 4 34] .ret) (kks [kkB 36 .eql 6 (kkV 5),kkM 35 36] (kkr 35 [kkA 37 1 3,kkL 38 37,kkB 39 .neq 38 (kkV 0),kkM 40 39,kkJ 41 (.mv (kkt 0)) 40,kkJ 42 (.fieldAddr 3 (kkt 3)) 40,kkJ 43 (.load none (kkt 42)) 40,kkJ 44 (.indexAddr 8 (kkt 43) (kkV 0)) 40,kkJ 45 (.load (some 8) (kkt 44)) 40,kkJ 46 (.call (kkF 103) [kkt 41,kkt 45]) 40,kkO 47 40 46,kkM 4 47])))))) (kks [kkI 4 (.mv kky)] .ret))
theorem juF:jag Tryz.prog 71=some ⟨48,jnC,[.tmp 4]⟩:=by kernel_rfl
def ji8:jam:=kks [kkI 2 (.box 5 (kkt 0)),kkI 3 (.mv kkn)] (kks [kkL 4 1,kkQ 5 5 2,kkC 6 73 [kkt 4,kkt 5],kkU 7 6,kkM 3 7] .ret)
theorem joH:jag Tryz.prog 72=some ⟨8,ji8,[.tmp 3]⟩:=by kernel_rfl
def jkI:jam:=kks [kkI 3 (.box 8 (kkt 1)),kkI 4 (.mv kkn)] (.seq (kkd [kkM 5 0,kkQ 6 8 3,kkC 7 129 [kkt 5,kkt 6],kkU 8 7,kkM 9 8,kkJ 10 (.fieldAddr 2 (kkt 3)) 9,kkJ 11 (.load none (kkt 10)) 9,kkJ 12 (.bin .neq (kkt 11) (kkV (-1))) 9,kkO 13 9 12,kkM 14 13,kkJ 15 (.fieldAddr 3 (kkt 3)) 14,kkJ 16 (.load none (kkt 15)) 14,kkJ 17 (.bin .neq (kkt 16) (kkV (-1))) 14,kkO 18 14 17,kkM 19 18,kkJ 20 (.mv (kkt 0)) 19,kkJ 21 (.nilCheck (kkt 20)) 19,kkJ 22 (.fieldAddr 0 (kkt 21)) 19,kkJ 23 (.fieldAddr 0 (kkt 22)) 19,kkJ 24 (.load none (kkt 23)) 19,kkJ 25 (.fieldAddr 0 (kkt 3)) 19,kkJ 26 (.load none (kkt 25)) 19,kkJ 27 (.indexAddr 5 (kkt 24) (kkt 26)) 19,kkJ 28 (.fieldAddr 2 (kkt 27)) 19,kkJ 29 (.load none (kkt 28)) 19,kkJ 30 (.un .not (kkt 29)) 19,kkO 31 19 30] (kkr 31 [kkI 4 (.mv kkn)])) (kkd [kkA 32 1 3,kkL 33 32,kkB 34 .eql 33 (kkV 0),kkM 35 34,kkJ 36 (.mv (kkt 0)) 35,kkJ 37 (.nilCheck (kkt 36)) 35,kkJ 38 (.fieldAddr 0 (kkt 37)) 35,kkJ 39 (.fieldAddr 0 (kkt 38)) 35,kkJ 40 (.load none (kkt 39)) 35,kkJ 41 (.fieldAddr 0 (kkt 3)) 35,kkJ 42 (.load none (kkt 41)) 35,kkJ 43 (.indexAddr 5 (kkt 40) (kkt 42)) 35,kkJ 44 (.fieldAddr 4 (kkt 43)) 35,kkJ 45 (.load none (kkt 44)) 35,kkJ 46 (.fieldAddr 1 (kkt 3)) 35,kkJ 47 (.load none (kkt 46)) 35,kkJ 48 (.bin .sub (kkt 47) (kkV 1)) 35,kkJ 49 (.indexAddr 5 (kkt 45) (kkt 48)) 35,kkJ 50 (.fieldAddr 0 (kkt 49)) 35,kkJ 51 (.load none (kkt 50)) 35,kkJ 52 (.bin .eql (kkt 51) (kkV 32)) 35,kkO 53 35 52,kkM 4 53] .ret))
theorem jrv:jag Tryz.prog 103=some ⟨54,jkI,[.tmp 4]⟩:=by kernel_rfl
def jnD:jam:=kks [kkI 4 (.box 2 (kkt 1)),kkI 6 (.zero [kkZ 0,kkZ 0,kkS,kkS]),kkI 7 (.mv kkn)] (.seq (kkd [kkA 8 0 4,kkL 9 8,kkB 10 .neq 9 (kkV 5),kkM 11 10,kkJ 12 (.fieldAddr 1 (kkt 4)) 11,kkJ 13 (.load none (kkt 12)) 11,kkJ 14 (.bin .lss (kkt 13) (kkV 0)) 11,kkO 15 11 14,kkM 16 15,kkJ 17 (.fieldAddr 1 (kkt 4)) 16,kkJ 18 (.load none (kkt 17)) 16,kkJ 19 (.mv (kkt 0)) 16,kkJ 20 (.nilCheck (kkt 19)) 16,kkJ 21 (.fieldAddr 3 (kkt 20)) 16,kkJ 22 (.load none (kkt 21)) 16,kkJ 23 (.nilCheck (kkt 22)) 16,kkJ 24 (.fieldAddr 0 (kkt 23)) 16,kkJ 25 (.load none (kkt 24)) 16,kkJ 26 (.len (kkt 25)) 16,kkJ 27 (.bin .geq (kkt 18) (kkt 26)) 16,kkO 28 16 27,kkM 29 28,kkJ 30 (.mv (kkt 0)) 29,kkJ 31 (.nilCheck (kkt 30)) 29,kkJ 32 (.fieldAddr 3 (kkt 31)) 29,kkJ 33 (.load none (kkt 32)) 29,kkJ 34 (.nilCheck (kkt 33)) 29,kkJ 35 (.fieldAddr 0 (kkt 34)) 29,kkJ 36 (.load none (kkt 35)) 29,kkJ 37 (.fieldAddr 1 (kkt 4)) 29,kkJ 38 (.load none (kkt 37)) 29,kkJ 39 (.indexAddr 4 (kkt 36) (kkt 38)) 29,kkJ 40 (.fieldAddr 0 (kkt 39)) 29,kkJ 41 (.load none (kkt 40)) 29,kkJ 42 (.mv (kkt 2)) 29,kkJ 43 (.bin .neq (kkt 41) (kkt 42)) 29,kkO 44 29 43] (kkr 44 [kkI 45 (.build [kkZ 0,kkZ 0,kkS,kkS] []),kkR 4 6 45,kkI 7 (.mv kkn)])) (kkd [kkM 46 0,kkN 47 46,kkA 48 3 47,kkL 49 48,kkN 50 49,kkA 51 0 50,kkL 52 51,kkA 53 1 4,kkL 54 53,kkX 55 4 52 54,kkQ 56 4 55,kkR 4 6 56,kkI 7 (.mv kky)] .ret))
theorem juG:jag Tryz.prog 105=some ⟨57,jnD,[.cell 6 (some 4),.tmp 7]⟩:=by kernel_rfl
def jkK:jam:=kks [kkI 2 (.box 1 (kkt 0)),kkI 3 (.box 8 (kkt 1)),kkI 4 (.mv kkn)] (.seq (kkd [kkA 8 0 3,kkL 9 8,kkL 10 2,kkN 11 10,kkA 12 0 11,kkA 13 0 12,kkL 14 13,kkH 15 14,kkB 16 .sub 15 (kkV 1),kkC 17 69 [kkt 9,(kkV 0),kkt 16],kkU 18 17] (kkr 18 [kkI 4 (.mv kkn)])) (kkd [kkL 19 2,kkN 20 19,kkA 21 0 20,kkA 22 0 21,kkL 23 22,kkA 24 0 3,kkL 25 24,kkX 26 5 23 25,kkQ 27 5 26,kkI 5 (.zero [kkZ 0,kkZ 0,(.val (.bool false)),kkS,kkS]),kkR 5 5 27] (kks [kkL 29 2,kkA 30 4 3,kkQ 31 2 30,kkC 32 105 [kkt 29,kkt 31,(kkV 4)],kkM 28 32,kkx 33 0 28,kkx 34 1 28,kkI 6 (.zero [kkZ 0,kkZ 0,kkS,kkS]),kkR 4 6 33,kkM 7 34] (.seq (kkd [kkM 35 7,kkU 36 35,kkM 37 36,kkJ 38 (.fieldAddr 1 (kkt 6)) 37,kkJ 39 (.load none (kkt 38)) 37,kkJ 40 (.fieldAddr 0 (kkt 3)) 37,kkJ 41 (.load none (kkt 40)) 37,kkJ 42 (.bin .neq (kkt 39) (kkt 41)) 37,kkO 43 37 42,kkM 44 43,kkJ 45 (.fieldAddr 6 (kkt 3)) 44,kkJ 46 (.load none (kkt 45)) 44,kkJ 47 (.len (kkt 46)) 44,kkJ 48 (.fieldAddr 1 (kkt 5)) 44,kkJ 49 (.load none (kkt 48)) 44,kkJ 50 (.bin .neq (kkt 47) (kkt 49)) 44,kkO 51 44 50,kkM 52 51,kkJ 53 (.fieldAddr 1 (kkt 3)) 52,kkJ 54 (.load none (kkt 53)) 52,kkJ 55 (.fieldAddr 4 (kkt 5)) 52,kkJ 56 (.load none (kkt 55)) 52,kkJ 57 (.len (kkt 56)) 52,kkJ 58 (.bin .sub (kkt 57) (kkV 1)) 52,kkJ 59 (.call (kkF 69) [kkt 54,(kkV 0),kkt 58]) 52,kkJ 60 (.un .not (kkt 59)) 52,kkO 61 52 60,kkM 62 61,kkJ 63 (.load none (kkt 2)) 62,kkJ 64 (.nilCheck (kkt 63)) 62,kkJ 65 (.fieldAddr 5 (kkt 64)) 62,kkJ 66 (.load none (kkt 65)) 62,kkJ 67 (.fieldAddr 0 (kkt 3)) 62,kkJ 68 (.load none (kkt 67)) 62,kkJ 69 (.indexAddr 1 (kkt 66) (kkt 68)) 62,kkJ 70 (.load none (kkt 69)) 62,kkJ 71 (.fieldAddr 1 (kkt 3)) 62,kkJ 72 (.load none (kkt 71)) 62,kkJ 73 (.indexAddr 1 (kkt 70) (kkt 72)) 62,kkJ 74 (.load none (kkt 73)) 62,kkJ 75 (.un .not (kkt 74)) 62,kkO 76 62 75] (kkr 76 [kkI 4 (.mv kkn)])) (kkd [kkA 77 7 3,kkL 78 77,kkL 79 2,kkN 80 79,kkA 81 4 80,kkL 82 81,kkA 83 0 3,kkL 84 83,kkX 85 1 82 84,kkL 86 85,kkA 87 1 3,kkL 88 87,kkX 89 1 86 88,kkL 90 89,kkC 91 127 [kkt 78,kkt 90],kkM 92 91,kkG 93 (.fieldAddr 6 (kkt 3)) 92,kkG 94 (.load none (kkt 93)) 92,kkG 95 (.func 138 [kkt 2]) 92,kkG 96 (.call (kkF 59) [kkt 94,kkt 95]) 92,kkG 97 (.un .not (kkt 96)) 92,kkE 98 92 97,kkM 4 98] .ret)))))
theorem jrx:jag Tryz.prog 129=some ⟨99,jkK,[.tmp 4]⟩:=by kernel_rfl
def jja:jam:=kks [kkI 2 (.box 2 (kkt 0)),kkI 3 (.mv kkn)] (kkd [kkL 4 1,kkN 5 4,kkA 6 3 5,kkL 7 6,kkQ 8 2 2,kkC 9 104 [kkt 7,kkt 8],kkU 10 9,kkM 3 10] .ret)
theorem joJ:jag Tryz.prog 138=some ⟨11,jja,[.tmp 3]⟩:=by kernel_rfl
end
section
open Go Go.RowKit
def jo6 (ops:List Oper):List (List Nat):=ops.foldl (fun acc o=>acc++[((jdC o).flatMap fun e=>e::acc.getD e []).eraseDups]) []
def AncR (a b:List (List Nat)):Prop:=a.length=b.length∧ ∀k x,x∈a.getD k []↔x∈b.getD k []
theorem AncR.step {a b:List (List Nat)}(h:AncR a b)(o:Oper):AncR (a++[(jdC o).flatMap fun e=>e::a.getD e []]) (b++[((jdC o).flatMap fun e=>e::b.getD e []).eraseDups]):=by
 refine⟨by simp[h.1],fun k x=>?_⟩;simp only[C0];rcases Nat.lt_trichotomy k a.length with hk|hk|hk
 ·rw[V5 hk,V5 (by rw[←h.1];exact hk)]
  have:=h.2 k x;simpa only[C0] using this
 ·subst hk
  rw[N0 (V2 _),h.1,N0 (V2 _)];simp only[Nat.sub_self,List.getElem?_cons_zero,Option.getD_some,List.mem_eraseDups,List.mem_flatMap,List.mem_cons];refine exists_congr fun e=>and_congr_right fun _=>or_congr_right ?_
  have:=h.2 e x;simpa only[C0] using this
 ·rw[J1 (by simp;omega),J1 (by simp[←h.1];omega)]
theorem ancR_go (ops:List Oper): ∀a b,AncR a b→AncR (ops.foldl (fun acc o=>acc++[(jdC o).flatMap fun e=>e::acc.getD e []]) a) (ops.foldl (fun acc o=>acc++[((jdC o).flatMap fun e=>e::acc.getD e []).eraseDups]) b):=by
 induction ops with
 |nil=>exact fun a b h=>h
 |cons o l ih=>exact fun a b h=>ih _ _ (h.step o)
theorem jm2 (ops:List Oper):jfn (ancs ops)=jfn (jo6 ops):=by
 have h:AncR (ancs ops) (jo6 ops):=ancR_go ops [] [] ⟨rfl,fun _ _=>Iff.rfl⟩;funext i k;unfold jfn;have e: ∀a b,((ancs ops).getD a []).contains b=((jo6 ops).getD a []).contains b:=fun a b=>by
  rw[Bool.eq_iff_iff,B2,B2];exact h.2 a b
 rw[e,e]
theorem drawOk_D (ops:Array Oper):ji1 ops (ancs ops.toList)=ji1 ops (jo6 ops.toList):=by
 unfold ji1;rw[jm2]
theorem isoAt_D (ops:List Oper)(k c:Nat):jrk ops (ancs ops) k c=jrk ops (jo6 ops) k c:=by
 unfold jrk;rw[jm2]
section
variable (P:Program)
def jlQ (nt:Nat)(ops:Array Oper)(draw:Bool):Option (List jav):=
  if (draw→ji1 ops (jo6 ops.toList)=true)∧(ops.toList.all fun o=>match o.dst with|some d=>decide (d<nt)|none=>true)=true then
    ops.toList.zipIdx.mapM fun (o,k)=>do
      pure { dst:=o.dst,op:=(if draw then cOp P o else cOpU P o).getD .bad,guard:=(←jdX ops o),iso:= !draw||jrk ops.toList (jo6 ops.toList) k (jhL o.op) }
  else none
theorem jvm (nt:Nat)(ops:Array Oper)(draw:Bool):je1 P nt ops draw=jlQ P nt ops draw:=by
 unfold je1 jlQ;simp only[drawOk_D,isoAt_D]
 rfl
def jd6 (nt:Nat):Code→Option jam
  | .skip=>some .skip
  | .region _ ops draw=>(jlQ P nt ops draw).map fun l=>if draw then (if wideB l then .opsW l else .opsD l) else .ops l
  | .seq a b=>do
    let ca ←jd6 nt a
    let cb ←jd6 nt b
    pure (.seq ca cb)
  | .cond c a b=>do pure (.cond (←cOpd c) (←jd6 nt a) (←jd6 nt b))
  | .block id c=>(jd6 nt c).map (.block id)
  | .loop c=>(jd6 nt c).map .loop
  | .exit id=>some (.exit id)
  | .scope c=>(jd6 nt c).map .scope
  | .label _=>some .skip
  | .ret=>some .ret
  |_=>some .bad
theorem cCode_D (nt:Nat)(c:Code):jde P nt c=jd6 P nt c:=by
 induction c with
 |region a ops d=>simp only[jde,jd6,jvm];try rfl
 |seq a b h1 h2=>simp only[jde,jd6,h1,h2]
 |cond x a b h1 h2=>simp only[jde,jd6,h1,h2]
 |block x a h=>simp only[jde,jd6,h]
 |loop a h=>simp only[jde,jd6,h]
 |scope a h=>simp only[jde,jd6,h]
 |_=>rfl
def cFuncD (f:FuncId):Option jbq:=match P.funcs[f]? with
  | some fn => if fn.name == "runtime.NumGoroutine" then none else match fn.body with
    |some c=>match jd6 P fn.ntmps c,fn.results.toList.mapM (cRes P) with
      |some b,some rs=>some { n:=fn.ntmps,body:=b,results:=rs }
      |_,_=>none
    |none=>none
  |none=>none
theorem cFunc_D (f:FuncId):jag P f=cFuncD P f:=by
 unfold jag cFuncD;simp only[cCode_D]
 rfl
end
end
section
open Go Go.RowKit
variable {tb:List (FuncId×Bool)}{nd:Bool}{L:Nat→Bool}{H X:ZH}{K:ZV→ZH→Prop}{s:StT}{p:PrT}{i j m:Nat}{v:Int×Int}{zl:List ZV}
abbrev lkC (p:PrT)(i:Nat)(zl:List ZV)(m:Nat):List ZV:=[.fz 5 false (p.1.map eFn),.fz 2 false (p.2.1.map eVl),.fz 1 false (p.2.2.map eSt),.ptr i 0,.fz 1 false (zl.map fun z=>[z]),.fz 1 false (p.1.map fun f=>[wayZ f]),.mp m]
structure LkAt (p:PrT)(s:StT)(zl:List ZV)(i j m:Nat)(H:ZH):Prop where
  lk:H[j]?=some (.box (lkC p i zl m))
  st:H[i]?=some (.box (eS s))
  all:AllZ zl p.1
theorem LkAt.ext (h:LkAt p s zl i j m H)(X:ZH):LkAt p s zl i j m (H++X):=⟨jax h.lk X,jax h.st X,h.all⟩
structure jgR (p:PrT):Prop where
  ne:0<p.1.length
  fns:p.1.length≤60
  txts:p.2.2.length≤200
  co: ∀f∈p.1,f.2.2.2.2.length≤600
  cau: ∀f∈p.1,f.2.2.2.1.length≤100000000000000
  jmp: ∀f∈p.1,jvA f.2.2.2.2
  re: ∀f∈p.1,f.2.1≤60
theorem jdG {n lo hi:Int}(hK:K (ZBo (winB n lo hi)) H):ZC (XC tb nd) (jag Tryz.prog) 69 [Z64 n,Z64 lo,Z64 hi] L H K:=jhT (by kernel_rfl) (by decide) hK
def celB (s:StT)(v:Int×Int)(k:Int):Bool:=decide (v.1=5)&&decide (0≤v.2)&&decide (v.2<s.cells.length)&&decide (jfY s v.2=k)
theorem celB_ex {k:Int}(h:celB s v k=true):v.1=5∧ ∃n:Nat,v.2=n∧n<s.cells.length:=by
 unfold celB at h;simp only[U2,decide_eq_true_eq] at h;exact⟨h.1.1.1,v.2.toNat,by omega,by omega⟩
theorem finT {zs:List ZV}(hz:zs.all (refs H.length)=true)(hK:K (.tuple zs) H)(X:ZH):Fin H (.tuple zs) (H++X) K:=Fin.truncT (Mods.ext H X) hz (by rw[K5];exact hK)
theorem jok {k:Int}(lk:LkAt p s zl i j m H)(hK: ∀(n:Nat) c,v.2=(n:Int)→s.cells[n]?=some c→c.kind=k→celB s v k=true→K (.tuple [.agg (eCe c),ZBo true]) H)(hN:K (.tuple [.agg [Z64 0,Z64 0,.nil,.nil],ZBo false]) H):
  ZC (XC tb nd) (jag Tryz.prog) 105 [.ptr j 0,.agg (eVl v),Z64 k] L H K:=by
 refine K6 Gh.no (jaf (by decide)) juG (by simp) fun hL=>?_
 obtain⟨d,n⟩:=v;simp only[jnD,kkP];have hj:=jax lk.lk;have hi:=jax lk.st;have fin:=finT rfl hN;have HK:=Z4 hK;have HL1:L (H.length+1)=true:=hL 1;clear hK hN lk hL;by_cases h5:d=5
 case neg=>
  with_reducible repeat' first|simp only[zQ,seval,X0,jai,hj,hi,HL1,h5, *]|simp only[jab]|apply P3|intro _
 subst h5;by_cases h0:n<0
 ·with_reducible repeat' first|simp only[zQ,seval,X0,jai,hj,hi,HL1,h0, *]|simp only[jab]|apply P3|intro _
 obtain⟨a,rfl⟩: ∃a:Nat,n=(a:Int):=⟨n.toNat,by omega⟩;by_cases h1:(s.cells.length:Int)≤(a:Int)
 ·with_reducible repeat' first|simp only[zQ,seval,X0,jai,hj,hi,HL1,h0,h1, *]|simp only[jab]|apply P3|intro _
 have ha:a<s.cells.length:=by omega
 obtain⟨c,hc⟩: ∃c,s.cells[a]?=some c:=⟨_,U1 ha⟩;by_cases hk:c.kind=k
 ·subst hk
  have hka:jfY s (a:Int)=c.kind:=by unfold jfY;rw[O0f,hc]
  have fin:=finT rfl (HK.out a c rfl hc rfl (by unfold celB;simp[hka,ha]));clear hka;clear HK;with_reducible repeat' first|simp only[zQ,seval,X0,jai,hj,hi,HL1,h0,h1,ha,hc, *]|simp only[jab]|apply P3|intro _
 ·clear HK
  with_reducible repeat' first|simp only[zQ,seval,X0,jai,hj,hi,HL1,h0,h1,ha,hc,hk, *]|simp only[jab]|apply P3|intro _
theorem jls (hs:H[i]?=some (.box (eS s)))(hK:K (ZBo (fitB s v)) H):ZC (XC tb nd) (jag Tryz.prog) 104 [.ptr i 0,.agg (eVl v)] L H K:=by
 refine Z9 Gh.no (jaf (by decide)) jrN (by simp) ?_;simp only[jkY,kkP];have HS:=Z4 (jax hs);have fin:=fun X=>finX (X:=X) rfl hK
 clear hs hK;with_reducible repeat' first|simp only[zQ,seval,X0, *]|simp only[jab]|apply P3|intro _
 refine jnf (v:=v) (HS.out _) ?_;with_reducible repeat' first|simp only[zQ,seval,X0, *]|simp only[jab]|apply P3|intro _
theorem jtL {q:Nat}(hq:H[q]?=some (.box [.ptr j 0]))(lk:LkAt p s zl i j m H)(hK:K (ZBo (!fitB s v)) H):ZC (XC tb nd) (jag Tryz.prog) 138 [.agg (eVl v),.ptr q 0] L H K:=by
 refine K6 Gh.no (jaf (by decide)) joJ (by simp) fun hL=>?_
 simp only[jja,kkP];have hq:=jax hq;have hj:=jax lk.lk;have HI:=Z4 (jax lk.st);have fin:=fun X=>finX (X:=X) rfl hK
 clear hK lk hL;with_reducible repeat' first|simp only[zQ,seval,X0,jai,hq,hj, *]|simp only[jab]|apply P3|intro _
 refine jls (v:=v) (HI.out _) ?_;with_reducible repeat' first|simp only[zQ,seval,X0, *]|simp only[jab]|apply P3|intro _
theorem run_ok {co:List InsT}: ∀(k:Nat) (w:Wk),w.Ok co.length→(Wk.run co k w).Ok co.length
 |0,_,h=>h
 |k+1,w,h=>by
  show (if w.on=true then Wk.run co k (w.turn co) else w).Ok co.length;split
  ·rename_i hon
   exact run_ok k _ (h.turn hon).1
  ·exact h
theorem jtm {co:List InsT}:(jdQ co).Ok co.length:=run_ok _ _ (Wk.Ok.new co).1
structure jjC (p:PrT)(s:StT)(f:FrT):Prop where
  fn: ∃(a b:Nat) (g:FnT),f.fn=a∧p.1[a]?=some g∧f.pc=b∧b<g.2.2.2.2.length
  self:f.self.1=5∧ ∃n:Nat,f.self.2=n∧n<s.cells.length
  regs:f.regs.all (fitB s)=true
  len:f.regs.length≤60
theorem win_ex {n:Int}{k:Nat}(h:winB n 0 ((k:Int) - 1)=true): ∃a:Nat,n=a∧a<k:=by
 unfold winB at h;rw[decide_eq_true_eq] at h;exact⟨n.toNat,by omega,by omega⟩
theorem way_at {g:FnT}{a:Nat}(hg:p.1[a]?=some g):(p.1.map fun f=>[wayZ f])[a]?=some [wayZ g]:=by rw[U8,hg];rfl
theorem jp1 {f:FrT}(pk:jgR p)(lk:LkAt p s zl i j m H)(hr:f.regs.length≤100000000000000)(ht:f.tries.length≤100000000000000)(hK: ∀b,(b=true→jjC p s f)→K (ZBo b) H):
  ZC (XC tb nd) (jag Tryz.prog) 129 [.ptr j 0,.agg (eFr f)] L H K:=by
 refine K6 Gh.no (jaf (by decide)) jrx (by simp) fun hL=>?_
 simp only[jkK,kkP];have hj:=jax lk.lk;have LK:=Z4 lk;have PK:=Z4 pk;have HR:=Z4 hr;have HT:=Z4 ht;have HL:=Z4 hL;have fin0:=fun b h X=>finX (X:=X) rfl (hK b h)
 have fin:=fin0 false (fun e=>by cases e);have F0:=Z4 fin0;have hL2:L (H.length+2)=true:=hL 2;have hL3:L (H.length+3)=true:=hL 3;have hw:IntKind.i64.wrap ((p.1.length:Int) - 1)=(p.1.length:Int) - 1:=by have:=pk.fns;rw[jbn (by omega) (by omega)]
 clear hK hL lk pk fin0 hr ht;with_reducible repeat' first|simp only[zQ,seval,X0,jai,hj,hw, *]|simp only[jab]|apply P3|intro _
 refine jdG ?_
 cases hf:winB f.fn 0 ((p.1.length:Int) - 1) with
 |false=>
  clear hf;with_reducible repeat' first|simp only[zQ,seval,X0,jai, *]|simp only[jab]|apply P3|intro _
 |true=>
 obtain⟨a,hfa,ha⟩:=win_ex hf;obtain⟨g,hg⟩: ∃g,p.1[a]?=some g:=⟨_,U1 ha⟩;clear hf;with_reducible repeat' first|simp only[zQ,seval,X0,jai,hj,hfa,ha,hg,hL2, *]|simp only[jab]|apply P3|intro _
 refine jok (v:=f.self) (LK.out.ext _) (fun n c hn hc hk hcb=>?_) ?_
 case refine_2=>
  with_reducible repeat' first|simp only[zQ,seval,X0,jai,hL3, *]|simp only[jab]|apply P3|intro _
 case refine_1=>
 have HC:=Z4 hcb;clear hk hn hcb hc;by_cases c1:c.num=(a:Int)
 case neg=>
  with_reducible repeat' first|simp only[zQ,seval,X0,jai,hj,hL3,hfa,c1, *]|simp only[jab]|apply P3|intro _
 by_cases c2:(f.regs.length:Int)=g.2.1
 case neg=>
  with_reducible repeat' first|simp only[zQ,seval,X0,jai,hj,hL3,hfa,c1,c2, *]|simp only[jab]|apply P3|intro _
 have hw2:IntKind.i64.wrap ((g.2.2.2.2.length:Int) - 1)=(g.2.2.2.2.length:Int) - 1:=by have:=PK.out.co g (R5 hg);rw[jbn (by omega) (by omega)]
 with_reducible repeat' first|simp only[zQ,seval,X0,jai,hj,hL3,hfa,c1,c2,hw2, *]|simp only[jab]|apply P3|intro _
 refine jdG ?_
 cases hp:winB f.pc 0 ((g.2.2.2.2.length:Int) - 1) with
 |false=>
  clear hp;with_reducible repeat' first|simp only[zQ,seval,X0,jai, *]|simp only[jab]|apply P3|intro _
 |true=>
 obtain⟨b,hpb,hb⟩:=win_ex hp;have ok:(jdQ g.2.2.2.2).Ok g.2.2.2.2.length:=jtm;obtain⟨x,hx⟩: ∃x,(jdQ g.2.2.2.2).seen[b]?=some x:=⟨_,U1 (by rw[ok.seen];exact hb)⟩;have hwa:=way_at hg;have hxl:b<(jdQ g.2.2.2.2).seen.length:=by rw[ok.seen];exact hb
 have OK:=Z4 ok;clear hp ok
 cases x with
 |false=>
  with_reducible repeat' first|simp only[zQ,seval,X0,jai,hj,hfa,hpb,hwa,ha,hx,hxl, *]|simp only[jab]|apply P3|intro _
 |true=>
 have hal:a<zl.length:=by rw[LK.out.all.1];exact ha
 obtain⟨zz,hzz⟩: ∃zz,zl[a]?=some zz:=⟨_,U1 hal⟩;obtain⟨oz,rfl,ho⟩:=LK.out.all.2 a zz g hzz hg;have hol:b<oz.length:=by rw[ho.1,OK.out.out];exact hb
 obtain⟨z,hz⟩: ∃z,oz[b]?=some z:=⟨_,U1 hol⟩;obtain⟨lo,hlo⟩: ∃lo,(jdQ g.2.2.2.2).out[b]?=some lo:=⟨_,U1 (by rw[←ho.1];exact hol)⟩;have htz:=ho.2 b z lo hz hlo;have hsh:=OK.out.short lo (R5 hlo);have hzc:=htz.cell;have TZ:=Z4 htz;have SH:=Z4 hsh;have FG:=Z4 (show ∃(a b:Nat) (g:FnT),f.fn=a∧p.1[a]?=some g∧f.pc=b∧b<g.2.2.2.2.length from ⟨a,b,g,hfa,hg,hpb,hb⟩);clear ho hlo htz hsh OK;with_reducible repeat' first|simp only[zQ,seval,X0,jai,hj,hfa,hpb,hwa,ha,hx,hxl,hal,hzz,hol,hz,hzc, *]|simp only[jab]|apply P3|intro _
 refine eqt_z (l1:=f.tries) (l2:=lo) (by rw[jaM]) (TZ.out.rows _) HT.out (by have:=SH.out;omega) ?_
 cases hq:decide (f.tries=lo) with
 |false=>
  clear hq;with_reducible repeat' first|simp only[zQ,seval,X0,jai, *]|simp only[jab]|apply P3|intro _
 |true=>
 clear hq;with_reducible repeat' first|simp only[zQ,seval,X0,jai,hj, *]|simp only[jab]|apply P3|intro _
 refine ji4 (l:=f.regs) (e:=eVl) (arg:=fun v=> .agg (eVl v)) (p:=fun v=> !fitB s v) jgJ (bx2 (by decide)) jgI (bx2 (by decide)) (fun m _=>rfl) (by rw[jaM]) HR.out (fun m _ K hK=>jtL jcr (LK.out.ext _) hK) ?_;have e:(!f.regs.any fun v=> !fitB s v)=f.regs.all (fitB s):=by rw[O0g]
 have fin:=F0.out (f.regs.all (fitB s)) (fun e=>⟨FG.out,celB_ex HC.out,e,by have:=PK.out.re g (R5 hg);omega⟩);with_reducible repeat' first|simp only[zQ,seval,X0,e, *]|simp only[jab]|apply P3|intro _
end
section
open Go Go.RowKit
variable {tb:List (FuncId×Bool)}{nd:Bool}{L:Nat→Bool}{H X:ZH}{K:ZV→ZH→Prop}{s:StT}{p:PrT}{i j m:Nat}{v:Int×Int}{zl:List ZV}
theorem ssaved_z {f:FrT}(pk:jgR p)(lk:LkAt p s zl i j m H)(hr:f.regs.length≤100000000000000)(ht:f.tries.length≤100000000000000)(hK: ∀b,(b=true→jjC p s f∧f.gen= -1)→K (ZBo b) H):
  ZC (XC tb nd) (jag Tryz.prog) 103 [.ptr j 0,.agg (eFr f)] L H K:=by
 refine K6 Gh.no (jaf (by decide)) jrv (by simp) fun hL=>?_
 simp only[jkI,kkP];have hj:=jax lk.lk;have LK:=Z4 lk;have PK:=Z4 pk;have HR:=Z4 hr;have HT:=Z4 ht;have fin0:=fun b h X=>finX (X:=X) rfl (hK b h)
 have fin:=fin0 false (fun e=>by cases e);have F0:=Z4 fin0;clear hK hL lk pk fin0 hr ht;with_reducible repeat' first|simp only[zQ,seval,X0,jai, *]|simp only[jab]|apply P3|intro _
 refine jp1 (f:=f) PK.out (LK.out.ext _) HR.out HT.out fun b0 hb0=>?_
 cases b0 with
 |false=>
  clear hb0;with_reducible repeat' first|simp only[zQ,seval,X0,jai, *]|simp only[jab]|apply P3|intro _
 |true=>
 have hg:=hb0 rfl;clear hb0;by_cases c1:f.dst= -1
 case neg=>
  clear hg;with_reducible repeat' first|simp only[zQ,seval,X0,jai,c1, *]|simp only[jab]|apply P3|intro _
 by_cases c2:f.gen= -1
 case neg=>
  clear hg;with_reducible repeat' first|simp only[zQ,seval,X0,jai,c1,c2, *]|simp only[jab]|apply P3|intro _
 obtain⟨a,b,g,hfa,hga,hpb,hb⟩:=hg.fn;have hal:a<p.1.length:=(U0.1 hga).1;have HG:=Z4 (show jjC p s f∧f.gen= -1 from ⟨hg,c2⟩);clear hg
 cases hge:g.2.2.1 with
 |false=>
  with_reducible repeat' first|simp only[zQ,seval,X0,jai,hj,c1,c2,hfa,hga,hal,hge, *]|simp only[jab]|apply P3|intro _
 |true=>
 have fin:=fun b=>F0.out b (fun _=>HG.out)
 cases b with
 |zero=>
  have hpb:f.pc=0:=hpb;with_reducible repeat' first|simp only[zQ,seval,X0,jai,hj,c1,c2,hfa,hga,hal,hge,hpb, *]|simp only[jab]|apply P3|intro _
 |succ b=>
  have hp0: ¬((b+1:Nat):Int)=0:=by omega
  have hw:IntKind.i64.wrap (((b+1:Nat):Int) - 1)=(b:Int):=by have:=PK.out.co g (R5 hga);rw[jbn (by omega) (by omega)];omega
  have hbl:b<g.2.2.2.2.length:=by omega
  obtain⟨ins,hins⟩: ∃ins,g.2.2.2.2[b]?=some ins:=⟨_,U1 hbl⟩;with_reducible repeat' first|simp only[zQ,seval,X0,jai,hj,c1,c2,hfa,hga,hal,hge,hpb,hp0,hw,hbl,hins, *]|simp only[jab]|apply P3|intro _
def HpOk (p:PrT)(s:StT)(c:CeT):Prop:= ∀f∈c.frs,jjC p s f∧f.gen= -1
theorem sheap_z {c:CeT}(pk:jgR p)(lk:LkAt p s zl i j m H)(ok:jc8 s c)(hv:c.vals.length≤100000000000000)(hr: ∀f∈c.frs,f.regs.length≤100000000000000∧f.tries.length≤100000000000000)(hK: ∀b,(b=true→HpOk p s c)→K (ZBo b) H):
  ZC (XC tb nd) (jag Tryz.prog) 71 [.ptr j 0,.agg (eCe c)] L H K:=by
 refine K6 Gh.no (jaf (by decide)) juF (by simp) fun hL=>?_
 simp only[jnC,kkP];have hj:=jax lk.lk;have LK:=Z4 lk;have PK:=Z4 pk;have HR:=Z4 hr;have fin0:=fun b h X=>finX (X:=X) rfl (hK b h)
 have fin:=fin0 false (fun e=>by cases e);have F0:=Z4 fin0;have nofr: ¬(c.kind=5∧c.num=0)→HpOk p s c:=fun h f hf=>by rw[ok.nofr h] at hf;cases hf
 have clos:=ok.clos;have gen:=ok.gen;clear hK hL lk pk fin0 hr ok;by_cases h4:c.kind=4
 ·have fin:=fun b=>F0.out b (fun _=>nofr (by omega))
  have hn:=clos h4;clear nofr gen clos;obtain⟨a,ha⟩: ∃a:Nat,c.num=a:=⟨c.num.toNat,by omega⟩;clear hn;by_cases hal:(a:Int)<(p.1.length:Int)
  ·obtain⟨g,hg⟩: ∃g,p.1[a]?=some g:=⟨_,U1 (by omega)⟩
   have hal2:a<p.1.length:=by omega
   with_reducible repeat' first|simp only[zQ,seval,X0,jai,hj,h4,ha,hal,hal2,hg, *]|simp only[jab]|apply P3|intro _
  ·with_reducible repeat' first|simp only[zQ,seval,X0,jai,hj,h4,ha,hal, *]|simp only[jab]|apply P3|intro _
 by_cases h5:c.kind=5
 case neg=>
  have fin:=F0.out true (fun _=>nofr (by omega));clear nofr gen clos;with_reducible repeat' first|simp only[zQ,seval,X0,jai,h4,h5, *]|simp only[jab]|apply P3|intro _
 by_cases hn:c.num=0
 case neg=>
  have fin:=F0.out true (fun _=>nofr (by omega));clear nofr gen clos;with_reducible repeat' first|simp only[zQ,seval,X0,jai,h5,hn, *]|simp only[jab]|apply P3|intro _
 have hl:=gen h5 hn;obtain⟨f,hf⟩:=List.length_eq_one_iff.1 hl;have hf0:c.frs[0]?=some f:=by rw[hf];rfl
 have hl0:0<c.frs.length:=by omega
 have n0:natZ (Z64 0)=some 0:=rfl;have hfm:f∈c.frs:=by rw[hf];exact X6.2 rfl
 have hre:=HR.out f hfm;have F1:=Z4 (show ∀b,(b=true→jjC p s f∧f.gen= -1)→ ∀X,Fin H (ZBo b) (H++X) K from fun b h X=>F0.out b (fun e=>by intro f2 hf2;rw[hf,X6] at hf2;rw[hf2];exact h e) X);have RE:=Z4 hre;clear nofr gen clos hl hf hfm hre;with_reducible repeat' first|simp only[zQ,seval,X0,jai,h5,hn,hf0,hl0,n0, *]|simp only[jab]|apply P3|intro _
 refine ssaved_z (f:=f) PK.out (LK.out.ext _) RE.out.1 RE.out.2 fun b hb=>?_
 have fin:=F1.out b hb;clear hb;with_reducible repeat' first|simp only[zQ,seval,X0,jai, *]|simp only[jab]|apply P3|intro _
theorem jtv {c:CeT}{q:Nat}(hq:H[q]?=some (.box [.ptr j 0]))(pk:jgR p)(lk:LkAt p s zl i j m H)(ok:jc8 s c)(hv:c.vals.length≤100000000000000)(hr: ∀f∈c.frs,f.regs.length≤100000000000000∧f.tries.length≤100000000000000)(hK: ∀b,(b=false→HpOk p s c)→K (ZBo b) H):
  ZC (XC tb nd) (jag Tryz.prog) 70 [.agg (eCe c),.ptr q 0] L H K:=by
 refine K6 Gh.no (jaf (by decide)) joI (by simp) fun hL=>?_
 simp only[ji9,kkP];have hq:=jax hq;have LK:=Z4 lk;have PK:=Z4 pk;have HR:=Z4 hr;have HV:=Z4 hv;have OK:=Z4 ok;have fin0:=fun b h X=>finX (X:=X) rfl (hK b h)
 clear hK hL lk pk hr hv ok;with_reducible repeat' first|simp only[zQ,seval,X0,jai,hq, *]|simp only[jab]|apply P3|intro _
 refine sheap_z (c:=c) PK.out (LK.out.ext _) OK.out HV.out HR.out fun b hb=>?_
 have fin:=fin0 (!b) (fun e=>hb (by simpa using e));clear hb fin0;with_reducible repeat' first|simp only[zQ,seval,X0,jai, *]|simp only[jab]|apply P3|intro _
end
section
open Go Go.RowKit
variable {tb:List (FuncId×Bool)}{nd:Bool}{L:Nat→Bool}{H X:ZH}{K:ZV→ZH→Prop}{s:StT}{p:PrT}{i j m:Nat}{v:Int×Int}{zl:List ZV}
def jhR (p:PrT)(s:StT)(f:FrT):Prop:=jjC p s f∧(0≤f.gen→ ∃n:Nat,f.gen=n∧n<s.cells.length)
abbrev mpB (M:List (Int×ZV)):ZB:= .box (M.map ent)
theorem LkAt.set (h:LkAt p s zl i j m H)(hi:i≠m)(hj:j≠m)(B:ZB):LkAt p s zl i j m (H.set m B):=⟨by rw[O0a (Ne.symm hj)];exact h.lk,by rw[O0a (Ne.symm hi)];exact h.st,h.all⟩
theorem clampZ {n:Int}{k:Nat}(hk:0<k): ∃(q:Int) (a:Nat),jhN false (Z64 n) [Z64 ((k:Int) - 1)]=some (Z64 q)∧jhN true (Z64 0) [Z64 q]=some (Z64 a)∧a<k:=by
 simp only[jhN,N6,if_false,if_true];refine⟨_,(if (if (k:Int) - 1<n then (k:Int) - 1 else n)>0 then (if (k:Int) - 1<n then (k:Int) - 1 else n) else 0).toNat,rfl,?_,?_⟩
 ·congr 3;split<;>split<;>omega
 ·split<;>split<;>omega
def jgb:jam:=kkd [kkM 27 0,kkN 28 27,kkA 29 0 28,kkA 30 0 29,kkL 31 30,kkA 32 0 6,kkL 33 32,kkM 34 0,kkN 35 34,kkA 36 0 35,kkA 37 0 36,kkL 38 37,kkH 39 38,kkB 40 .sub 39 (kkV 1),kkI 41 (.minmax false (kkt 33) [kkt 40]),kkI 42 (.minmax true (kkV 0) [kkt 41]),kkX 43 5 31 42,kkA 44 2 43,kkL 45 44,kkM 8 45] (.seq (kks [kkM 46 0,kkQ 47 8 6,kkC 48 129 [kkt 46,kkt 47],kkU 49 48,kkM 50 49,kkJ 51 (.fieldAddr 2 (kkt 6)) 50,kkJ 52 (.load none (kkt 51)) 50,kkJ 53 (.mv (kkt 7)) 50,kkJ 54 (.bin .sub (kkt 53) (kkV 1)) 50,kkJ 55 (.call (kkF 69) [kkt 52,(kkV (-1)),kkt 54]) 50,kkJ 56 (.un .not (kkt 55)) 50,kkO 57 50 56,kkM 58 57,kkJ 59 (.mv (kkt 8)) 58,kkJ 60 (.fieldAddr 3 (kkt 6)) 58,kkJ 61 (.load none (kkt 60)) 58,kkJ 62 (.bin .geq (kkt 61) (kkV 0)) 58,kkJ 63 (.eqBool true (kkt 59) (kkt 62)) 58,kkO 64 58 63,kkM 65 64,kkJ 66 (.fieldAddr 3 (kkt 6)) 65,kkJ 67 (.load none (kkt 66)) 65,kkJ 68 (.bin .lss (kkt 67) (kkV (-1))) 65,kkO 69 65 68] (kkr 69 [kkI 4 (.mv kkn)])) (.seq (kks [kkM 70 8,kkU 71 70] (.cond (kkt 71) (.exit 1) .skip)) (kks [kkM 73 0,kkA 74 3 6,kkL 75 74,kkI 76 (.build [kkZ 0,kkZ 0] [(0,1,(kkV 5)),(1,1,(kkt 75))]),kkC 77 105 [kkt 73,kkt 76,(kkV 5)],kkM 72 77,kkx 78 0 72,kkx 79 1 72,kkI 9 (.zero [kkZ 0,kkZ 0,kkS,kkS]),kkR 4 9 78,kkM 10 79] (.seq (kkd [kkM 80 5,kkB 81 .eql 80 (kkV 0),kkM 82 81,kkJ 83 (.mv (kkt 10)) 82,kkJ 84 (.un .not (kkt 83)) 82,kkO 85 82 84,kkM 86 85,kkJ 87 (.fieldAddr 1 (kkt 9)) 86,kkJ 88 (.load none (kkt 87)) 86,kkJ 89 (.bin .neq (kkt 88) (kkV 1)) 86,kkO 90 86 89,kkM 91 90,kkJ 92 (.mv (kkt 0)) 91,kkJ 93 (.nilCheck (kkt 92)) 91,kkJ 94 (.fieldAddr 6 (kkt 93)) 91,kkJ 95 (.load none (kkt 94)) 91,kkJ 96 (.fieldAddr 3 (kkt 6)) 91,kkJ 97 (.load none (kkt 96)) 91,kkJ 98 (.mapGet false (kkZ 0) (kkt 95) (kkt 97)) 91,kkJ 99 (.bin .eql (kkt 98) (kkV 1)) 91,kkO 100 91 99] (kkr 100 [kkI 4 (.mv kkn)])) (.opsD [kkM 101 0,kkN 102 101,kkA 103 6 102,kkL 104 103,kkA 105 3 6,kkL 106 105,⟨none,.mapSet (kkt 104) (kkt 106) (kkV 1),none,true⟩])))))
def jkH:jam:=kks [kkI 4 (.mv kkn)] (.seq (kks [kkM 11 1,kkH 12 11,kkK 13 0] (jau 0 1 14 13 12 107 (kks [kkM 15 13,kkX 16 8 11 13,kkQ 17 8 16,kkI 6 (.zero [kkZ 0,kkZ 0,kkZ 0,kkZ 0,kkZ 0,kkZ 0,kkS,kkS]),kkM 5 15,kkR 8 6 17] (kks [kkK 7 0] (.seq (kks [kkM 18 5,kkB 19 .gtr 18 (kkV 0)] (.cond (kkt 19) (.ops [kkM 20 1,kkM 21 5,kkB 22 .sub 21 (kkV 1),kkX 23 8 20 22,kkA 24 6 23,kkL 25 24,kkH 26 25,kkM 7 26]) .skip)) jgb))))) (kks [kkI 4 (.mv kky)] .ret))
theorem jru:jag Tryz.prog 106=some ⟨108,jkH,[.tmp 4]⟩:=by kernel_rfl
theorem stackT_z {G:ZH}{f:FrT}{S:ZS}{KK:jaA→ZS→ZH→Prop}{M:List (Int×ZV)}{k low:Int}(pk:jgR p)(lk:LkAt p s zl i j m G)(hi:i≠m)(hj:j≠m)(hm:G[m]?=some (mpB M))(hM:OneI M)(hLm:L m=true)(hL: ∀k,L (G.length+k)=true)
  (hr:f.regs.length≤100000000000000) (ht:f.tries.length≤100000000000000) (hlo:0≤low) (hlo2:low≤100000000000000)
  (h0:S 0= .ptr j 0) (h5:S 5=Z64 k) (h6:S 6= .ptr G.length 0) (h7:S 7=Z64 low)
  (hno: ∀S' X,S' 4=ZBo false→KK .ret S' (G++X)) (hx: ∀S' X,jhR p s f→KK (.exit 1) S' (G++X)) (hn: ∀S' X M',OneI M'→jhR p s f→KK .normal S' (G.set m (mpB M')++X)):
  zW (XC tb nd) (jag Tryz.prog) Gh.no L jgb S (G++[.box (eFr f)]) KK:=by
 simp only[jgb,kkP];have hjG:=jax lk.lk;have hmG:=jax hm;have hml:m<G.length:=(U0.1 hm).1;have hmS: ∀B X,(G++X).set m B=G.set m B++X:=fun B X=>O0k _ _ hml
 obtain⟨q,a,hq1,hq2,ha⟩:=clampZ (n:=f.fn) pk.ne;obtain⟨g,hg⟩: ∃g,p.1[a]?=some g:=⟨_,U1 ha⟩;have hw:IntKind.i64.wrap ((p.1.length:Int) - 1)=(p.1.length:Int) - 1:=by have:=pk.fns;rw[jbn (by omega) (by omega)]
 have hwl:IntKind.i64.wrap (low - 1)=low - 1:=by rw[jbn (by omega) (by omega)]
 have LK:=Z4 lk;have PK:=Z4 pk;have HR:=Z4 hr;have HT:=Z4 ht;have NO:=Z4 hno;have HX:=Z4 hx;have HN:=Z4 hn;have HM:=Z4 hM;have HLG:=Z4 hL;have hL1:L (G.length+1)=true:=hL 1;clear lk pk hr ht hno hx hn hM hm hL hml hi hj hlo hlo2;with_reducible repeat' first|simp only[zQ,seval,X0,jai,hjG,hw,hq1,hq2,ha,hg, *]|simp only[jab]|apply P3|intro _
 refine jp1 (f:=f) PK.out (LK.out.ext _) HR.out HT.out fun b hb=>?_
 cases b with
 |false=>
  clear hb;with_reducible repeat' first|simp only[zQ,seval,X0,jai, *]|simp only[jab]|apply P3|intro _
  exact NO.out _ _ (by simp only[jaj,X4,reduceIte])
 |true=>
 have HG:=Z4 (hb rfl);clear hb;with_reducible repeat' first|simp only[zQ,seval,X0,jai,hwl, *]|simp only[jab]|apply P3|intro _
 refine jdG ?_
 cases winB f.dst (-1) (low - 1) with
 |false=>
  with_reducible repeat' first|simp only[zQ,seval,X0,jai, *]|simp only[jab]|apply P3|intro _
  exact NO.out _ _ (by simp only[jaj,X4,reduceIte])
 |true=>
 by_cases hgn:0≤f.gen
 case neg=>
  have HF:=Z4 (show jhR p s f from ⟨HG.out,fun h=>absurd h hgn⟩);have hgd:decide (0≤f.gen)=false:=decide_eq_false hgn;clear hgn
  cases hge:g.2.2.1 with
  |true=>
   with_reducible repeat' first|simp only[zQ,seval,X0,jai,hge,hgd, *]|simp only[jab]|apply P3|intro _
   exact NO.out _ _ (by simp only[jaj,X4,reduceIte])
  |false=>
  by_cases hgm:f.gen< -1
  ·with_reducible repeat' first|simp only[zQ,seval,X0,jai,hge,hgd,hgm, *]|simp only[jab]|apply P3|intro _
   exact NO.out _ _ (by simp only[jaj,X4,reduceIte])
  ·with_reducible repeat' first|simp only[zQ,seval,X0,jai,hge,hgd,hgm, *]|simp only[jab]|apply P3|intro _
   exact HX.out _ _ HF.out
 have hgd:decide (0≤f.gen)=true:=decide_eq_true hgn;have hgm: ¬f.gen< -1:=by omega
 clear hgn
 cases hge:g.2.2.1 with
 |false=>
  with_reducible repeat' first|simp only[zQ,seval,X0,jai,hge,hgd, *]|simp only[jab]|apply P3|intro _
  exact NO.out _ _ (by simp only[jaj,X4,reduceIte])
 |true=>
 with_reducible repeat' first|simp only[zQ,seval,X0,jai,hge,hgd,hgm, *]|simp only[jab]|apply P3|intro _
 refine jok (v:=(5,f.gen)) (LK.out.ext _) (fun n c hgn hc hk hcb=>?_) ?_
 case refine_2=>
  by_cases hk0:k=0
  ·with_reducible repeat' first|simp only[zQ,seval,X0,jai,hL1,hk0, *]|simp only[jab]|apply P3|intro _
   exact NO.out _ _ (by simp only[jaj,X4,reduceIte])
  ·with_reducible repeat' first|simp only[zQ,seval,X0,jai,hL1,hk0, *]|simp only[jab]|apply P3|intro _
   exact NO.out _ _ (by simp only[jaj,X4,reduceIte])
 case refine_1=>
 have HF:=Z4 (show jhR p s f from ⟨HG.out,fun _=>⟨n,hgn,(U0.1 hc).1⟩⟩);clear hgn hc hk hcb;by_cases hk0:k=0
 ·with_reducible repeat' first|simp only[zQ,seval,X0,jai,hL1,hk0, *]|simp only[jab]|apply P3|intro _
  exact NO.out _ _ (by simp only[jaj,X4,reduceIte])
 by_cases hc1:c.num=1
 case neg=>
  with_reducible repeat' first|simp only[zQ,seval,X0,jai,hL1,hk0,hc1, *]|simp only[jab]|apply P3|intro _
  exact NO.out _ _ (by simp only[jaj,X4,reduceIte])
 rcases HM.out.find (q:=f.gen) with hf|hf
 ·have HP:=Z4 (HM.out.put (q:=f.gen))
  with_reducible repeat' first|simp only[zQ,seval,X0,jai,hL1,hk0,hc1,hjG,hmG,hmS,hLm,hf,jfH,jli,jgy,jgz,ZV.mp.injEq,jkz, *]|simp only[jab]|apply P3|intro _
  exact HN.out _ _ _ HP.out HF.out
 ·with_reducible repeat' first|simp only[zQ,seval,X0,jai,hL1,hk0,hc1,hjG,hmG,hf,jfH,jgy,jgz,ZV.mp.injEq,jkz, *]|simp only[jab]|apply P3|intro _
  exact NO.out _ _ (by simp only[jaj,X4,reduceIte])
end
section
open Go Go.RowKit
variable {tb:List (FuncId×Bool)}{nd:Bool}{L:Nat→Bool}{H X:ZH}{K:ZV→ZH→Prop}{s:StT}{p:PrT}{i j m:Nat}{v:Int×Int}{zl:List ZV}{M:List (Int×ZV)}
def StI (H:ZH)(m:Nat)(h':ZH):Prop:= ∃M X,h'=H.set m (mpB M)++X∧OneI M
theorem StI.start (hm:H[m]?=some (mpB M))(hM:OneI M):StI H m H:=⟨M,[],by rw[A0,← (U0.1 hm).2,O0b],hM⟩
theorem StI.ext {h':ZH}(h:StI H m h')(X:ZH):StI H m (h'++X):=by
 obtain⟨M,Y,rfl,hM⟩:=h;exact⟨M,Y++X,by rw[M8],hM⟩
theorem StI.trans {h' h2:ZH}(h:StI H m h')(hm:m<H.length)(h2':StI h' m h2):StI H m h2:=by
 obtain⟨M,Y,rfl,hM⟩:=h;obtain⟨M2,Y2,rfl,hM2⟩:=h2';refine⟨M2,Y++Y2,?_,hM2⟩;rw[O0k _ _ (by rw[D5];exact hm),O0c,M8]
theorem StI.mp {h':ZH}(h:StI H m h')(hm:m<H.length): ∃M,h'[m]?=some (mpB M)∧OneI M:=by
 obtain⟨M,Y,rfl,hM⟩:=h;exact⟨M,by rw[V5 (by rw[D5];exact hm),H9 hm],hM⟩
theorem StI.lk {h':ZH}(h:StI H m h')(lk:LkAt p s zl i j m H)(hi:i≠m)(hj:j≠m):LkAt p s zl i j m h':=by
 obtain⟨M,Y,rfl,hM⟩:=h;exact (lk.set hi hj _).ext _
theorem StI.len {h':ZH}(h:StI H m h'): ∃n,h'.length=H.length+n:=by
 obtain⟨M,Y,rfl,hM⟩:=h;exact⟨Y.length,by rw[G3,D5]⟩
theorem StI.setm {G:ZH}{M':List (Int×ZV)}(h:StI H m G)(hm:m<H.length)(hM:OneI M')(X:ZH):StI H m (G.set m (mpB M')++X):=h.trans hm ⟨M',X,rfl,hM⟩
theorem sstack_z {fs:List FrT}(pk:jgR p)(lk:LkAt p s zl i j m H)(hi:i≠m)(hj:j≠m)(hm:H[m]?=some (mpB M))(hM:OneI M)(hLm:L m=true)(hb:fs.length≤100000000000000)(hrt: ∀f∈fs,f.regs.length≤100000000000000∧f.tries.length≤100000000000000)
  (hK: ∀b h',StI H m h'→(b=true→ ∀f∈fs,jhR p s f)→K (ZBo b) h'):ZC (XC tb nd) (jag Tryz.prog) 106 [.ptr j 0,.fz 8 false (fs.map eFr)] L H K:=by
 refine K6 Gh.no (jaf (by decide)) jru (by simp) fun hL=>?_
 simp only[jkH,kkP];have hml:m<H.length:=(U0.1 hm).1;have LK:=Z4 lk;have PK:=Z4 pk;have HL:=Z4 hL;have HRT:=Z4 hrt;have HI:=Z4 hi;have HJ:=Z4 hj;have HML:=Z4 hml;have FI:=Z4 (show ∀b h',StI H m h'→(b=true→ ∀f∈fs,jhR p s f)→Fin H (ZBo b) h' K from fun b h' h1 h2=>Fin.keep (hK b h' h1 h2));have ST:=Z4 (StI.start hm hM);clear hK hL lk pk hrt hi hj hm hM hml;with_reducible repeat' first|simp only[zQ,seval,X0, *]|simp only[jab]|apply P3|intro _
 refine jaK [(0,.ptr j 0),(1,.fz 8 false (fs.map eFr)),(11,.fz 8 false (fs.map eFr))] fs.length (fun k s' h'=>StI H m h'∧ ∀f∈fs.take k,jhR p s f) (by omega) ⟨rfl,rfl,rfl,rfl,rfl,rfl⟩ rfl rfl (by repeat' (first|exact trivial|(refine⟨rfl,?_⟩)|(refine⟨by simp only[jaj,X4,reduceIte];assumption,?_⟩))) rfl rfl (by decide) ⟨ST.out,fun f hf=>by simp at hf⟩ ?_ ?_
 ·rintro k s' G hk ⟨hG,hfr⟩ hi hln ⟨f0,f1,f11,-⟩
  obtain⟨f,hf⟩: ∃f,fs[k]?=some f:=⟨_,U1 hk⟩;obtain⟨n,hn⟩:=hG.len;obtain⟨M2,hm2,hM2⟩:=hG.mp HML.out;have hLG: ∀q,L (G.length+q)=true:=fun q=>by rw[hn,Nat.add_assoc];exact HL.out _
  have hre:=HRT.out f (R5 hf);have hL0:L G.length=true:=hLG 0;have tl:=fun S KK low h1 h2=>@stackT_z tb nd L s p i j m zl G f S KK M2 (k:Int) low PK.out (hG.lk LK.out HI.out HJ.out) HI.out HJ.out hm2 hM2 hLm hLG hre.1 hre.2 h1 h2
  have nx:jhR p s f→ ∀g∈fs.take (k+1),jhR p s g:=fun h g hg=>by
   rw[X5 hk] at hg;rcases O3.1 hg with hg|hg
   ·exact hfr g hg
   ·have e:=U1 hk
    rw[hf] at e;injection e with e
    rw[X6.1 hg,← e];exact h
  have TL:=Z4 tl;have NX:=Z4 nx;have HG:=Z4 hG;clear tl nx hG hfr hn hm2 hM2 hLG hre
  cases k with
  |zero=>
   have hc: ¬(0:Int)<((0:Nat):Int):=by omega
   have n0z:natZ (Z64 0)=some 0:=rfl;with_reducible repeat' first|simp only[zQ,seval,X0,jai,hL0,hf,hc,n0z, *]|simp only[jab]|apply P3|intro _
   refine TL.out _ _ 0 (by omega) (by omega) (by simp only[jaj,X4,reduceIte,f0]<;>rfl) (by simp only[jaj,X4,reduceIte,f0]<;>rfl) (by simp only[jaj,X4,reduceIte,f0]<;>rfl) (by simp only[jaj,X4,reduceIte,f0]<;>rfl) (fun S' X h4=>?_) (fun S' X h=>?_) (fun S' X M' hM' h=>?_)
   ·have fin:=FI.out false _ (HG.out.ext X) (fun e=>by cases e)
    with_reducible repeat' first|simp only[zQ,seval,X0, *]|simp only[jab]|apply P3|intro _
   ·have fin:=P3 (HG.out.ext X) (NX.out h)
    clear h;with_reducible repeat' first|simp only[zQ,seval,X0, *]|simp only[jab]|apply P3|intro _
   ·have fin:=P3 (HG.out.setm HML.out hM' X) (NX.out h)
    clear h hM';with_reducible repeat' first|simp only[zQ,seval,X0, *]|simp only[jab]|apply P3|intro _
  |succ k=>
   have hc:(0:Int)<((k+1:Nat):Int):=by omega
   have hkk:k<fs.length:=by omega
   obtain⟨f0',hf0'⟩: ∃f,fs[k]?=some f:=⟨_,U1 hkk⟩;have hw:IntKind.i64.wrap (((k+1:Nat):Int) - 1)=(k:Int):=by rw[jbn (by omega) (by omega)];omega
   have hr0:=(HRT.out f0' (R5 hf0')).1;have HR0:=Z4 hr0;clear hr0;with_reducible repeat' first|simp only[zQ,seval,X0,jai,hL0,hf,hc,hw,hkk,hf0', *]|simp only[jab]|apply P3|intro _
   refine TL.out _ _ (f0'.regs.length:Int) (by omega) (by have:=HR0.out;omega) (by simp only[jaj,X4,reduceIte,f0]) (by simp only[jaj,X4,reduceIte,f0]) (by simp only[jaj,X4,reduceIte,f0]) (by simp only[jaj,X4,reduceIte,f0]) (fun S' X h4=>?_) (fun S' X h=>?_) (fun S' X M' hM' h=>?_)
   ·have fin:=FI.out false _ (HG.out.ext X) (fun e=>by cases e)
    with_reducible repeat' first|simp only[zQ,seval,X0, *]|simp only[jab]|apply P3|intro _
   ·have fin:=P3 (HG.out.ext X) (NX.out h)
    clear h;with_reducible repeat' first|simp only[zQ,seval,X0, *]|simp only[jab]|apply P3|intro _
   ·have fin:=P3 (HG.out.setm HML.out hM' X) (NX.out h)
    clear h hM';with_reducible repeat' first|simp only[zQ,seval,X0, *]|simp only[jab]|apply P3|intro _
 ·rintro s' G ⟨hG,hfr⟩ ⟨f0,f1,f11,-⟩
  rw[I5 (V2 _)] at hfr;have fin:=FI.out true G hG (fun _=>hfr);clear hG hfr;with_reducible repeat' first|simp only[zQ,seval,X0, *]|simp only[jab]|apply P3|intro _
end
section
open Go Go.RowKit
variable {tb:List (FuncId×Bool)}{nd:Bool}{L:Nat→Bool}{H X:ZH}{K:ZV→ZH→Prop}{s:StT}{p:PrT}{i j m:Nat}{v:Int×Int}{zl:List ZV}{M:List (Int×ZV)}
structure ThOk (p:PrT)(s:StT)(t:ThT):Prop where
  frs: ∀f∈t.frs,jhR p s f
  val:fitB s t.val=true
  on:t.st=1→ ∃n:Nat,t.on=n∧n<s.cells.length
structure LkM (p:PrT)(s:StT)(zl:List ZV)(i j m:Nat)(L:Nat→Bool)(H:ZH):Prop where
  lk:LkAt p s zl i j m H
  ni:i≠m
  nj:j≠m
  hm:m<H.length
  mp:StI H m H
  lm:L m=true
theorem LkM.ext (h:LkM p s zl i j m L H)(X:ZH):LkM p s zl i j m L (H++X):=⟨h.lk.ext X,h.ni,h.nj,by rw[G3];have:=h.hm;omega,by
 obtain⟨M,h1,h2⟩:=h.mp.mp h.hm;exact StI.start (jax h1 X) h2,h.lm⟩
theorem LkM.go (h:LkM p s zl i j m L H){h':ZH}(hs:StI H m h'):LkM p s zl i j m L h':=by
 obtain⟨M,h1,h2⟩:=hs.mp h.hm;obtain⟨n,hn⟩:=hs.len;exact⟨hs.lk h.lk h.ni h.nj,h.ni,h.nj,by have:=h.hm;omega,StI.start h1 h2,h.lm⟩
theorem LkM.back (h:LkM p s zl i j m L H){Y h':ZH}(hs:StI (H++Y) m h'):StI H m h':=(h.mp.ext Y).trans h.hm hs
theorem jln {fs:List FrT}(pk:jgR p)(lm:LkM p s zl i j m L H)(hb:fs.length≤100000000000000)(hrt: ∀f∈fs,f.regs.length≤100000000000000∧f.tries.length≤100000000000000)
  (hK: ∀b h',StI H m h'→(b=true→ ∀f∈fs,jhR p s f)→K (ZBo b) h'):ZC (XC tb nd) (jag Tryz.prog) 106 [.ptr j 0,.fz 8 false (fs.map eFr)] L H K:=by
 obtain⟨M,h1,h2⟩:=lm.mp.mp lm.hm;exact sstack_z pk lm.lk lm.ni lm.nj h1 h2 lm.lm hb hrt hK
def jfA:jam:= .seq (kks [kkA 48 1 3,kkL 49 48] (.block 0 (kks [kkB 54 .eql 49 (kkV 1),kkM 53 54] (.cond (kkt 53) (kks [kkM 56 0,kkA 57 2 3,kkL 58 57,kkI 59 (.build [kkZ 0,kkZ 0] [(0,1,(kkV 5)),(1,1,(kkt 58))]),kkC 60 105 [kkt 56,kkt 59,(kkV 6)],kkM 55 60,kkx 61 0 55,kkx 62 1 55,kkI 6 (.zero [kkZ 0,kkZ 0,kkS,kkS]),kkR 4 6 61,kkM 7 62] (kks [kkM 63 7,kkU 64 63] (kkr 64 [kkI 4 (.mv kkn)]))) (kks [kkB 66 .eql 49 (kkV 2),kkM 65 66] (.cond (kkt 65) (kkd [kkA 67 2 3,kkL 68 67,kkM 69 0,kkN 70 69,kkA 71 3 70,kkL 72 71,kkN 73 72,kkA 74 3 73,kkL 75 74,kkH 76 75,kkB 77 .sub 76 (kkV 1),kkC 78 69 [kkt 68,(kkV 0),kkt 77],kkU 79 78] (kkr 79 [kkI 4 (.mv kkn)])) (kks [kkA 50 2 3,kkL 51 50,kkB 52 .neq 51 (kkV 0)] (kkr 52 [kkI 4 (.mv kkn)])))))))) (kks [kkM 80 0,kkA 81 0 3,kkL 82 81,kkC 83 106 [kkt 80,kkt 82],kkM 4 83] .ret)
def jfB:jam:= .seq (kkd [kkM 16 5,kkA 17 0 3,kkL 18 17,kkH 19 18,kkB 20 .eql 19 (kkV 0),kkI 21 (.eqBool true (kkt 16) (kkt 20)),kkM 22 21,kkJ 23 (.mv (kkt 5)) 22,kkJ 24 (.un .not (kkt 23)) 22,kkJ 25 (.mv (kkt 24)) 22,kkG 26 (.fieldAddr 3 (kkt 3)) 25,kkG 27 (.load (some 2) (kkt 26)) 25,kkG 28 (.build [kkZ 0,kkZ 0] []) 25,kkG 29 (.eqAgg true [0,0] (kkt 27) (kkt 28)) 25,kkJ 30 (.pick (kkt 25) (kkt 29) kkn) 22,kkO 31 22 30,kkM 32 31,kkJ 33 (.mv (kkt 0)) 32,kkJ 34 (.nilCheck (kkt 33)) 32,kkJ 35 (.fieldAddr 3 (kkt 34)) 32,kkJ 36 (.load none (kkt 35)) 32,kkJ 37 (.fieldAddr 3 (kkt 3)) 32,kkJ 38 (.load (some 2) (kkt 37)) 32,kkJ 39 (.call (kkF 104) [kkt 36,kkt 38]) 32,kkJ 40 (.un .not (kkt 39)) 32,kkO 41 32 40,kkM 42 41,kkJ 43 (.fieldAddr 1 (kkt 3)) 42,kkJ 44 (.load none (kkt 43)) 42,kkJ 45 (.call (kkF 69) [kkt 44,(kkV 0),(kkV 4)]) 42,kkJ 46 (.un .not (kkt 45)) 42,kkO 47 42 46] (kkr 47 [kkI 4 (.mv kkn)])) jfA
def ji7:jam:=kks [kkI 3 (.box 5 (kkt 1)),kkI 4 (.mv kkn)] (kks [kkA 8 1 3,kkL 9 8,kkB 10 .eql 9 (kkV 3),kkM 11 10,kkJ 12 (.fieldAddr 1 (kkt 3)) 11,kkJ 13 (.load none (kkt 12)) 11,kkJ 14 (.bin .eql (kkt 13) (kkV 4)) 11,kkO 15 11 14,kkM 5 15] jfB)
theorem joG:jag Tryz.prog 73=some ⟨84,ji7,[.tmp 4]⟩:=by kernel_rfl
theorem jtn {t:ThT}{S:ZS}{KK:jaA→ZS→ZH→Prop}(pk:jgR p)(lm:LkM p s zl i j m L H)(hL: ∀k,L (H.length+k)=true)(hb:t.frs.length≤100000000000000)(hth:s.threads.length≤100000000000000)(hrt: ∀f∈t.frs,f.regs.length≤100000000000000∧f.tries.length≤100000000000000)(hv:fitB s t.val=true)
  (h0:S 0= .ptr j 0) (h3:S 3= .ptr H.length 0)
  (hr: ∀S' b h',StI H m h'→(b=true→ThOk p s t)→S' 4=ZBo b→KK .ret S' h'):zW (XC tb nd) (jag Tryz.prog) Gh.no L jfA S (H++[.box (eTh t)]) KK:=by
 simp only[jfA,kkP];have hj:=jax lm.lk.lk;have hi:=jax lm.lk.st;have hL1:L (H.length+1)=true:=hL 1;have hw:IntKind.i64.wrap ((s.threads.length:Int) - 1)=(s.threads.length:Int) - 1:=by rw[jbn (by omega) (by omega)]
 have no:=fun X S' (h:S' 4=ZBo false)=>hr S' false (H++X) (lm.mp.ext X) (fun e=>by cases e) h
 have st:=fun (hon:t.st=1→ ∃n:Nat,t.on=n∧n<s.cells.length) X (S':ZS) b h' (h1:StI (H++X) m h') (h2:b=true→ ∀f∈t.frs,jhR p s f) (h4:S' 4=ZBo b)=>hr S' b h' (lm.back h1) (fun e=>⟨h2 e,hv,hon⟩) h4
 have LM:=Z4 lm;have PK:=Z4 pk;have HB:=Z4 hb;have RT:=Z4 hrt;have NO:=Z4 no;have ST:=Z4 st;clear hr no st lm pk hb hrt hL hth hv;by_cases h1:t.st=1
 ·with_reducible repeat' first|simp only[zQ,seval,X0,jai,h1, *]|simp only[jab]|apply P3|intro _
  refine jok (v:=(5,t.on)) (LM.out.ext _).lk (fun n c hgn hc hk hcb=>?_) ?_
  case refine_2=>
   with_reducible repeat' first|simp only[zQ,seval,X0,jai,hL1, *]|simp only[jab]|apply P3|intro _
   exact NO.out _ _ (by simp only[jaj,X4,reduceIte])
  case refine_1=>
   have ST2:=Z4 (ST.out fun _=>⟨n,hgn,(U0.1 hc).1⟩);clear hgn hc hk hcb ST;with_reducible repeat' first|simp only[zQ,seval,X0,jai,hL1, *]|simp only[jab]|apply P3|intro _
   refine jln (fs:=t.frs) PK.out (LM.out.ext _) HB.out RT.out fun b h' hs hf=>?_
   have fin:=fun S'=>ST2.out _ S' b h' hs hf
   clear hs hf;with_reducible repeat' first|simp only[zQ,seval,X0,jai, *]|simp only[jab]|apply P3|intro _
   all_goals exact fin _ (by simp only[jaj,X4,reduceIte])
 have ST2:=Z4 (ST.out fun h=>absurd h h1);clear ST;by_cases h2:t.st=2
 ·with_reducible repeat' first|simp only[zQ,seval,X0,jai,hj,hi,h2,hw, *]|simp only[jab]|apply P3|intro _
  refine jdG ?_
  cases winB t.on 0 ((s.threads.length:Int) - 1) with
  |false=>
   with_reducible repeat' first|simp only[zQ,seval,X0,jai, *]|simp only[jab]|apply P3|intro _
   exact NO.out _ _ (by simp only[jaj,X4,reduceIte])
  |true=>
   with_reducible repeat' first|simp only[zQ,seval,X0,jai, *]|simp only[jab]|apply P3|intro _
   refine jln (fs:=t.frs) PK.out (LM.out.ext _) HB.out RT.out fun b h' hs hf=>?_
   have fin:=fun S'=>ST2.out _ S' b h' hs hf
   clear hs hf;with_reducible repeat' first|simp only[zQ,seval,X0,jai, *]|simp only[jab]|apply P3|intro _
   all_goals exact fin _ (by simp only[jaj,X4,reduceIte])
 by_cases ho:t.on=0
 ·with_reducible repeat' first|simp only[zQ,seval,X0,jai,h1,h2,ho, *]|simp only[jab]|apply P3|intro _
  refine jln (fs:=t.frs) PK.out (LM.out.ext _) HB.out RT.out fun b h' hs hf=>?_
  have fin:=fun S'=>ST2.out _ S' b h' hs hf
  clear hs hf;with_reducible repeat' first|simp only[zQ,seval,X0,jai, *]|simp only[jab]|apply P3|intro _
  all_goals exact fin _ (by simp only[jaj,X4,reduceIte])
 ·with_reducible repeat' first|simp only[zQ,seval,X0,jai,h1,h2,ho, *]|simp only[jab]|apply P3|intro _
  exact NO.out _ _ (by simp only[jaj,X4,reduceIte])
theorem jto {t:ThT}{S:ZS}{KK:jaA→ZS→ZH→Prop}{ov:Bool}(pk:jgR p)(lm:LkM p s zl i j m L H)(hL: ∀k,L (H.length+k)=true)(hb:t.frs.length≤100000000000000)(hth:s.threads.length≤100000000000000)(hrt: ∀f∈t.frs,f.regs.length≤100000000000000∧f.tries.length≤100000000000000)
  (h0:S 0= .ptr j 0) (h3:S 3= .ptr H.length 0) (h5:S 5=ZBo ov)
  (hr: ∀S' b h',StI H m h'→(b=true→ThOk p s t)→S' 4=ZBo b→KK .ret S' h'):zW (XC tb nd) (jag Tryz.prog) Gh.no L jfB S (H++[.box (eTh t)]) KK:=by
 simp only[jfB,kkP];have hj:=jax lm.lk.lk;have HS:=Z4 (jax lm.lk.st);have no:=fun X S' (h:S' 4=ZBo false)=>hr S' false (H++X) (lm.mp.ext X) (fun e=>by cases e) h
 have tl:=fun S hv h0 h3=>@jtn tb nd L H s p i j m zl t S KK pk lm hL hb hth hrt hv h0 h3 hr
 have NO:=Z4 no;have TL:=Z4 tl;clear hL lm pk hb hrt hth tl no hr;have rest: ∀vf,jf7 [0,0] [Z64 t.val.1,Z64 t.val.2] [Z64 0,Z64 0]=some vf→True:=fun _ _=>trivial
 clear rest
 cases ov with
 |true=>
  by_cases hl:(t.frs.length:Int)=0
  case neg=>
   with_reducible repeat' first|simp only[zQ,seval,X0,jai,hl, *]|simp only[jab]|apply P3|intro _
   all_goals exact NO.out _ _ (by simp only[jaj,X4,reduceIte])
  with_reducible repeat' first|simp only[zQ,seval,X0,jai,hj,hl, *]|simp only[jab]|apply P3|intro _
  refine jls (v:=t.val) (HS.out _) ?_
  cases hv:fitB s t.val with
  |false=>
   with_reducible repeat' first|simp only[zQ,seval,X0,jai, *]|simp only[jab]|apply P3|intro _
   all_goals exact NO.out _ _ (by simp only[jaj,X4,reduceIte])
  |true=>
  with_reducible repeat' first|simp only[zQ,seval,X0,jai, *]|simp only[jab]|apply P3|intro _
  refine jdG ?_
  cases winB t.st 0 4 with
  |false=>
   with_reducible repeat' first|simp only[zQ,seval,X0,jai, *]|simp only[jab]|apply P3|intro _
   all_goals exact NO.out _ _ (by simp only[jaj,X4,reduceIte])
  |true=>
  with_reducible repeat' first|simp only[zQ,seval,X0,jai, *]|simp only[jab]|apply P3|intro _
  exact TL.out _ hv (by simp only[jaj,X4,reduceIte,h0]) (by simp only[jaj,X4,reduceIte,h3])
 |false=>
  by_cases hl:(t.frs.length:Int)=0
  ·with_reducible repeat' first|simp only[zQ,seval,X0,jai,hl, *]|simp only[jab]|apply P3|intro _
   all_goals exact NO.out _ _ (by simp only[jaj,X4,reduceIte])
  obtain⟨vf,hvf⟩: ∃vf,jf7 [0,0] [Z64 t.val.1,Z64 t.val.2] [Z64 0,Z64 0]=some vf:=⟨_,rfl⟩
  cases vf with
  |false=>
   with_reducible repeat' first|simp only[zQ,seval,X0,jai,hl,hvf, *]|simp only[jab]|apply P3|intro _
   all_goals exact NO.out _ _ (by simp only[jaj,X4,reduceIte])
  |true=>
  with_reducible repeat' first|simp only[zQ,seval,X0,jai,hj,hl,hvf, *]|simp only[jab]|apply P3|intro _
  refine jls (v:=t.val) (HS.out _) ?_
  cases hv:fitB s t.val with
  |false=>
   with_reducible repeat' first|simp only[zQ,seval,X0,jai, *]|simp only[jab]|apply P3|intro _
   all_goals exact NO.out _ _ (by simp only[jaj,X4,reduceIte])
  |true=>
  with_reducible repeat' first|simp only[zQ,seval,X0,jai, *]|simp only[jab]|apply P3|intro _
  refine jdG ?_
  cases winB t.st 0 4 with
  |false=>
   with_reducible repeat' first|simp only[zQ,seval,X0,jai, *]|simp only[jab]|apply P3|intro _
   all_goals exact NO.out _ _ (by simp only[jaj,X4,reduceIte])
  |true=>
  with_reducible repeat' first|simp only[zQ,seval,X0,jai, *]|simp only[jab]|apply P3|intro _
  exact TL.out _ hv (by simp only[jaj,X4,reduceIte,h0]) (by simp only[jaj,X4,reduceIte,h3])
theorem jtq {t:ThT}(pk:jgR p)(lm:LkM p s zl i j m L H)(hb:t.frs.length≤100000000000000)(hth:s.threads.length≤100000000000000)(hrt: ∀f∈t.frs,f.regs.length≤100000000000000∧f.tries.length≤100000000000000)
  (hK: ∀b h',StI H m h'→(b=true→ThOk p s t)→K (ZBo b) h'):ZC (XC tb nd) (jag Tryz.prog) 73 [.ptr j 0,.agg (eTh t)] L H K:=by
 refine K6 Gh.no (jaf (by decide)) joG (by simp) fun hL=>?_
 simp only[ji7,kkP];have fin0:=fun b h' (h1:StI H m h') (h2:b=true→ThOk p s t)=>Fin.keep (H0:=H) (hK b h' h1 h2)
 have tl:=fun S KK ov h0 h3 h5 hr=>@jto tb nd L H s p i j m zl t S KK ov pk lm hL hb hth hrt h0 h3 h5 hr
 have F0:=Z4 fin0;have TL:=Z4 tl;clear hK hL lm pk hb hrt fin0 tl hth;by_cases h3:t.st=3
 ·with_reducible repeat' first|simp only[zQ,seval,X0,jai,h3, *]|simp only[jab]|apply P3|intro _
  refine TL.out _ _ true rfl rfl rfl fun S' b h' h1 h2 h4=>?_
  have fin:=F0.out b h' h1 h2;clear h1 h2;with_reducible repeat' first|simp only[zQ,seval,X0, *]|simp only[jab]|apply P3|intro _
 by_cases h4:t.st=4
 ·with_reducible repeat' first|simp only[zQ,seval,X0,jai,h4, *]|simp only[jab]|apply P3|intro _
  refine TL.out _ _ true rfl rfl rfl fun S' b h' h1 h2 h4=>?_
  have fin:=F0.out b h' h1 h2;clear h1 h2;with_reducible repeat' first|simp only[zQ,seval,X0, *]|simp only[jab]|apply P3|intro _
 ·with_reducible repeat' first|simp only[zQ,seval,X0,jai,h3,h4, *]|simp only[jab]|apply P3|intro _
  refine TL.out _ _ false rfl rfl rfl fun S' b h' h1 h2 h4=>?_
  have fin:=F0.out b h' h1 h2;clear h1 h2;with_reducible repeat' first|simp only[zQ,seval,X0, *]|simp only[jab]|apply P3|intro _
theorem jtu {t:ThT}{q:Nat}(hq:H[q]?=some (.box [.ptr j 0]))(pk:jgR p)(lm:LkM p s zl i j m L H)(hb:t.frs.length≤100000000000000)(hth:s.threads.length≤100000000000000)(hrt: ∀f∈t.frs,f.regs.length≤100000000000000∧f.tries.length≤100000000000000)
  (hK: ∀b h',StI H m h'→(b=false→ThOk p s t)→K (ZBo b) h'):ZC (XC tb nd) (jag Tryz.prog) 72 [.agg (eTh t),.ptr q 0] L H K:=by
 refine K6 Gh.no (jaf (by decide)) joH (by simp) fun hL=>?_
 simp only[ji8,kkP];have hq:=jax hq;have LM:=Z4 lm;have PK:=Z4 pk;have HR:=Z4 hrt;have HB:=Z4 hb;have HT:=Z4 hth;have fin0:=fun X b h' (h1:StI (H++X) m h') (h2:b=true→ThOk p s t)=>Fin.keep (H0:=H) (hK (!b) h' (lm.back h1) (fun e=>h2 (by simpa using e)))
 clear hK hL lm pk hrt hb hth;with_reducible repeat' first|simp only[zQ,seval,X0,jai,hq, *]|simp only[jab]|apply P3|intro _
 refine jtq (t:=t) PK.out (LM.out.ext _) HB.out HT.out HR.out fun b h' h1 h2=>?_
 have fin:=fin0 _ b h' h1 h2;clear h1 h2 fin0;with_reducible repeat' first|simp only[zQ,seval,X0,jai, *]|simp only[jab]|apply P3|intro _
end
section
open Go Go.RowKit
variable {tb:List (FuncId×Bool)}{nd:Bool}{L:Nat→Bool}{H X:ZH}{K:ZV→ZH→Prop}{s:StT}{p:PrT}{i j m:Nat}{v:Int×Int}{zl:List ZV}{M:List (Int×ZV)}
theorem jiY:jag Tryz.prog 32=some ⟨9,c_cf 66,[.tmp 4]⟩:=by kernel_rfl
theorem jiW:jag Tryz.prog 66=some ⟨19,c_if 5 (some 5),[.tmp 4]⟩:=by kernel_rfl
theorem StI.get {h':ZH}(h:StI H m h'){q:Nat}{B:ZB}(hq:q≠m)(hb:H[q]?=some B):h'[q]?=some B:=by
 obtain⟨M,Y,rfl,hM⟩:=h;exact jax (by rw[O0a (Ne.symm hq)];exact hb) Y
structure BigT (s:StT):Prop where
  cells:s.cells.length≤100000000000000
  threads:s.threads.length≤100000000000000
  vals: ∀c∈s.cells,c.vals.length≤100000000000000
  frc: ∀c∈s.cells,∀ f∈c.frs,f.regs.length≤100000000000000∧f.tries.length≤100000000000000
  frt: ∀t∈s.threads,t.frs.length≤100000000000000∧ ∀f∈t.frs,f.regs.length≤100000000000000∧f.tries.length≤100000000000000
structure RtOk (p:PrT)(s:StT):Prop where
  cells: ∀c∈s.cells,HpOk p s c
  threads: ∀t∈s.threads,ThOk p s t
def jgc:jam:= .seq (kks [kkL 73 1,kkN 74 73,kkA 75 3 74,kkL 76 75,kkN 77 76,kkA 78 0 77,kkL 79 78,kkI 80 (.func 70 [kkt 1]),kkC 81 56 [kkt 79,kkt 80],kkM 82 81,kkJ 83 (.load none (kkt 1)) 82,kkJ 84 (.nilCheck (kkt 83)) 82,kkJ 85 (.fieldAddr 3 (kkt 84)) 82,kkJ 86 (.load none (kkt 85)) 82,kkJ 87 (.nilCheck (kkt 86)) 82,kkJ 88 (.fieldAddr 3 (kkt 87)) 82,kkJ 89 (.load none (kkt 88)) 82,kkJ 90 (.func 72 [kkt 1]) 82,kkJ 91 (.call (kkF 32) [kkt 89,kkt 90]) 82,kkO 92 82 91] (kkr 92 [kkI 2 (.mv kkn)])) (.seq (kks [kkL 93 1,kkN 94 93,kkA 95 3 94,kkL 96 95,kkN 97 96,kkA 98 0 97,kkL 99 98,kkH 100 99,kkK 101 0] (jau 0 1 102 101 100 123 (kks [kkM 103 101,kkX 104 4 99 101,kkQ 105 4 104,kkI 5 (.zero [kkZ 0,kkZ 0,kkS,kkS]),kkM 4 103,kkR 4 5 105] (kks [kkA 106 0 5,kkL 107 106,kkB 108 .eql 107 (kkV 5),kkM 109 108,kkG 110 (.fieldAddr 1 (kkt 5)) 109,kkG 111 (.load none (kkt 110)) 109,kkG 112 (.bin .eql (kkt 111) (kkV 1)) 109,kkE 113 109 112,kkM 114 113,kkG 115 (.load none (kkt 1)) 114,kkG 116 (.nilCheck (kkt 115)) 114,kkG 117 (.fieldAddr 6 (kkt 116)) 114,kkG 118 (.load none (kkt 117)) 114,kkG 119 (.mv (kkt 4)) 114,kkG 120 (.mapGet false (kkZ 0) (kkt 118) (kkt 119)) 114,kkG 121 (.bin .eql (kkt 120) (kkV 0)) 114,kkE 122 114 121] (kkr 122 [kkI 2 (.mv kkn)]))))) (kks [kkI 2 (.mv kky)] .ret))
def jkJ:jam:=kks [kkI 1 (.box 1 (kkt 0)),kkI 2 (.mv kkn)] (kks [kkL 6 1,kkN 7 6,kkA 8 0 7,kkA 9 2 8,kkL 10 9,kkH 11 10,kkM 3 11] (.seq (kkd [kkL 12 1,kkN 13 12,kkA 14 3 13,kkL 15 14,kkN 16 15,kkA 17 2 16,kkL 18 17,kkH 19 18,kkM 20 3,kkB 21 .lss 19 (kkt 20),kkM 22 21,kkJ 23 (.load none (kkt 1)) 22,kkJ 24 (.nilCheck (kkt 23)) 22,kkJ 25 (.fieldAddr 3 (kkt 24)) 22,kkJ 26 (.load none (kkt 25)) 22,kkJ 27 (.nilCheck (kkt 26)) 22,kkJ 28 (.fieldAddr 2 (kkt 27)) 22,kkJ 29 (.load none (kkt 28)) 22,kkJ 30 (.mv (kkt 3)) 22,kkJ 31 (.slice 1 (kkt 29) none (some (kkt 30)) none) 22,kkJ 32 (.load none (kkt 1)) 22,kkJ 33 (.nilCheck (kkt 32)) 22,kkJ 34 (.fieldAddr 0 (kkt 33)) 22,kkJ 35 (.fieldAddr 2 (kkt 34)) 22,kkJ 36 (.load none (kkt 35)) 22,kkJ 37 (.call (kkF 68) [kkt 31,kkt 36]) 22,kkJ 38 (.un .not (kkt 37)) 22,kkO 39 22 38,kkM 40 39,kkJ 41 (.load none (kkt 1)) 40,kkJ 42 (.nilCheck (kkt 41)) 40,kkJ 43 (.fieldAddr 3 (kkt 42)) 40,kkJ 44 (.load none (kkt 43)) 40,kkJ 45 (.nilCheck (kkt 44)) 40,kkJ 46 (.fieldAddr 7 (kkt 45)) 40,kkJ 47 (.load none (kkt 46)) 40,kkJ 48 (.call (kkF 69) [kkt 47,(kkV 0),(kkV 1000000000)]) 40,kkJ 49 (.un .not (kkt 48)) 40,kkO 50 40 49,kkM 51 50,kkJ 52 (.load none (kkt 1)) 51,kkJ 53 (.nilCheck (kkt 52)) 51,kkJ 54 (.fieldAddr 3 (kkt 53)) 51,kkJ 55 (.load none (kkt 54)) 51,kkJ 56 (.nilCheck (kkt 55)) 51,kkJ 57 (.fieldAddr 6 (kkt 56)) 51,kkJ 58 (.load none (kkt 57)) 51,kkJ 59 (.call (kkF 69) [kkt 58,(kkV 0),(kkV 1000000000)]) 51,kkJ 60 (.un .not (kkt 59)) 51,kkO 61 51 60,kkM 62 61,kkJ 63 (.load none (kkt 1)) 62,kkJ 64 (.nilCheck (kkt 63)) 62,kkJ 65 (.fieldAddr 3 (kkt 64)) 62,kkJ 66 (.load none (kkt 65)) 62,kkJ 67 (.nilCheck (kkt 66)) 62,kkJ 68 (.fieldAddr 3 (kkt 67)) 62,kkJ 69 (.load none (kkt 68)) 62,kkJ 70 (.len (kkt 69)) 62,kkJ 71 (.bin .eql (kkt 70) (kkV 0)) 62,kkO 72 62 71] (kkr 72 [kkI 2 (.mv kkn)])) jgc))
theorem jrw:jag Tryz.prog 35=some ⟨124,jkJ,[.tmp 2]⟩:=(cFunc_D _ _).trans (by kernel_rfl)
theorem rightT_z {S:ZS}{KK:jaA→ZS→ZH→Prop}(pk:jgR p)(lm:LkM p s zl i j m L H)(hL: ∀k,L (H.length+k)=true)(bg:BigT s)(co: ∀c∈s.cells,jc8 s c)(h1:S 1= .ptr H.length 0)
  (hr: ∀S' b h',StI H m h'→(b=true→RtOk p s)→S' 2=ZBo b→KK .ret S' h'):zW (XC tb nd) (jag Tryz.prog) Gh.no L jgc S (H++[.box [.ptr j 0]]) KK:=by
 simp only[jgc,kkP];have hj:=jax lm.lk.lk;have hi:=jax lm.lk.st;have no:=fun h' S' (h:StI (H++[.box [.ptr j 0]]) m h') (h2:S' 2=ZBo false)=>hr S' false h' (lm.back h) (fun e=>by cases e) h2
 have HR:=Z4 hr;have LM:=Z4 (lm.ext [.box [.ptr j 0]]);have LB:=Z4 lm;have PK:=Z4 pk;have BG:=Z4 bg;have CO:=Z4 co;have HL:=Z4 hL;have NO:=Z4 no;clear hr lm pk bg co no hL;with_reducible repeat' first|simp only[zQ,seval,X0,jai,hj,hi, *]|simp only[jab]|apply P3|intro _
 refine jr6 (l:=s.cells) (e:=eCe) (arg:=fun c=> .agg (eCe c)) (P:=fun c b=>b=false→HpOk p s c) jiZ (bx2 (by decide)) jiX (bx2 (by decide)) (fun m _=>rfl) (by rw[jaM]) BG.out.cells (fun c hc K hK=>jtv jcr PK.out LM.out.lk (CO.out c hc) (BG.out.vals c hc) (BG.out.frc c hc) hK) fun b hb=>?_
 cases b with
 |true=>
  clear hb;with_reducible repeat' first|simp only[zQ,seval,X0,jai,hj,hi, *]|simp only[jab]|apply P3|intro _
  all_goals exact NO.out _ _ LM.out.mp (by simp only[jaj,X4,reduceIte])
 |false=>
 have HC:=Z4 (fun c hc=>hb.2 rfl c hc rfl);clear hb;with_reducible repeat' first|simp only[zQ,seval,X0,jai,hj,hi, *]|simp only[jab]|apply P3|intro _
 refine cfI_z (I:=StI (H++[.box [.ptr j 0]]) m) (l:=s.threads) (e:=eTh) (arg:=fun c=> .agg (eTh c)) (P:=fun t b=>b=false→ThOk p s t) jiY (bx2 (by decide)) jiW (bx2 (by decide)) (fun m _=>rfl) LM.out.mp (fun _ _=>by rw[jaM]) BG.out.threads (fun t ht G hG K hK=>jtu (hG.get (by have:=LB.out.hm;omega) jcr) PK.out (LM.out.go hG) (BG.out.frt t ht).1 BG.out.threads (BG.out.frt t ht).2 fun b h' h1 h2=>hK b h' (hG.trans LM.out.hm h1) h2) fun b G hG hb=>?_
 cases b with
 |true=>
  have fin:=NO.out G;have HG:=Z4 hG;clear hb hG;with_reducible repeat' first|simp only[zQ,seval,X0,jai, *]|simp only[jab]|apply P3|intro _
  all_goals exact NO.out _ _ HG.out (by simp only[jaj,X4,reduceIte])
 |false=>
 have HT:=Z4 (fun t ht=>hb.2 rfl t ht rfl);have hq:=(hG.get (q:=H.length) (by have:=LB.out.hm;omega) jcr);have lg:=LM.out.go hG;have hjg:=lg.lk.lk;have hig:=lg.lk.st;have HG:=Z4 hG;have LG:=Z4 lg;clear hb hG lg;with_reducible repeat' first|simp only[zQ,seval,X0,jai,hq,hjg,hig, *]|simp only[jab]|apply P3|intro _
 refine jaK [(1,.ptr H.length 0),(99,.fz 4 false (s.cells.map eCe))] s.cells.length (fun k s' h'=>StI (H++[.box [.ptr j 0]]) m h') (by have:=BG.out.cells;omega) ⟨rfl,rfl,rfl,rfl,rfl,rfl⟩ rfl rfl (by repeat' (first|exact trivial|(refine⟨rfl,?_⟩)|(refine⟨by simp only[jaj,X4,reduceIte];assumption,?_⟩))) rfl rfl (by decide) HG.out ?_ ?_
 ·rintro k s' G2 hk hG2 hi2 hln ⟨f1,f99,-⟩
  obtain⟨c,hc⟩: ∃c,s.cells[k]?=some c:=⟨_,U1 hk⟩;have hq2:=jax (hG2.get (q:=H.length) (by have:=LB.out.hm;omega) jcr);have lg:=LM.out.go hG2;have hjg:=jax lg.lk.lk;obtain⟨M2,hm2,hM2⟩:=lg.mp.mp lg.hm;have hmG:=jax hm2;obtain⟨n,hn⟩:=hG2.len;have hL0:L G2.length=true:=by rw[hn,G3,Nat.add_assoc];exact HL.out _
  have fin:=fun X=>hG2.ext X
  have HM2:=Z4 hM2;have HG2:=Z4 hG2;clear lg hm2 hM2 hn hG2;by_cases h5:c.kind=5
  case neg=>
   with_reducible repeat' first|simp only[zQ,seval,X0,jai,hL0,hc,h5, *]|simp only[jab]|apply P3|intro _
  by_cases hn1:c.num=1
  case neg=>
   with_reducible repeat' first|simp only[zQ,seval,X0,jai,hL0,hc,h5,hn1, *]|simp only[jab]|apply P3|intro _
  rcases HM2.out.find (q:=(k:Int)) with hf|hf
  ·with_reducible repeat' first|simp only[zQ,seval,X0,jai,hL0,hc,h5,hn1,hq2,hjg,hmG,hf,jfH,jgy,jgz,ZV.mp.injEq,jkz, *]|simp only[jab]|apply P3|intro _
   all_goals exact NO.out _ _ (HG2.out.ext _) (by simp only[jaj,X4,reduceIte])
  ·with_reducible repeat' first|simp only[zQ,seval,X0,jai,hL0,hc,h5,hn1,hq2,hjg,hmG,hf,jfH,jgy,jgz,ZV.mp.injEq,jkz, *]|simp only[jab]|apply P3|intro _
 ·rintro s' G2 hG2 ⟨f1,f99,-⟩
  have fin:=fun S'=>HR.out S' true G2 (LB.out.back hG2) (fun _=>⟨HC.out,HT.out⟩)
  clear hG2;with_reducible repeat' first|simp only[zQ,seval,X0,jai, *]|simp only[jab]|apply P3|intro _
  all_goals exact fin _ (by simp only[jaj,X4,reduceIte])
end
section
open Go Go.RowKit
variable {tb:List (FuncId×Bool)}{nd:Bool}{L:Nat→Bool}{H X:ZH}{K:ZV→ZH→Prop}{s:StT}{p:PrT}{i j m:Nat}{v:Int×Int}{zl:List ZV}{M:List (Int×ZV)}
theorem sright_z (pk:jgR p)(hp:0<p.2.2.length)(lm:LkM p s zl i j m L H)(bg:BigT s)(hbt:s.texts.length≤100000000000000)(co: ∀c∈s.cells,jc8 s c)
  (hK: ∀b h',StI H m h'→(b=true→RtOk p s)→K (ZBo b) h'):ZC (XC tb nd) (jag Tryz.prog) 35 [.ptr j 0] L H K:=by
 refine K6 Gh.no (jaf (by decide)) jrw (by simp) fun hL=>?_
 simp only[jkJ,kkP];have hj:=jax lm.lk.lk;have hi:=jax lm.lk.st;have fin:=fun X=>Fin.keep (H0:=H) (hK false (H++X) (lm.mp.ext X) (fun e=>by cases e))
 have tl:=fun S KK h1 hr=>@rightT_z tb nd L H s p i j m zl S KK pk lm hL bg co h1 hr
 have F0:=Z4 (fun b h' (h1:StI H m h') (h2:b=true→RtOk p s)=>Fin.keep (H0:=H) (hK b h' h1 h2));have TL:=Z4 tl;have PT:=Z4 pk.txts;have ST:=Z4 hbt;clear hK hL lm pk bg co tl hbt;by_cases h1:(s.texts.length:Int)<(p.2.2.length:Int)
 ·with_reducible repeat' first|simp only[zQ,seval,X0,jai,hj,hi,h1, *]|simp only[jab]|apply P3|intro _
 have ct: ∀H,cutZ H 1 0 p.2.2.length s.texts.length (none:Option Opd).isSome (.fz 1 false (s.texts.map eSt))=some (.fz 1 false ((s.texts.take p.2.2.length).map eSt)):=fun H=>by
  simp only[cutZ,P2,L4];rw[if_pos ⟨trivial,by omega,by omega,V2 _⟩,if_neg (fun e=>by have:=congrArg O0d e;rw[P2,G9] at this;omega),W1,List.map_take];simp
 have nn:natZ (Z64 (p.2.2.length:Int))=some p.2.2.length:=jgx;with_reducible repeat' first|simp only[zQ,seval,X0,jai,hj,hi,h1,ct,nn,num0,num1,Q9, *]|simp only[jab]|apply P3|intro _
 refine eqs_z (l1:=s.texts.take p.2.2.length) (l2:=p.2.2) (by rw[jaM]) (by rw[jaM]) (by rw[C4];have:=PT.out;omega) (by have:=PT.out;omega) ?_
 cases decide (s.texts.take p.2.2.length=p.2.2) with
 |false=>
  with_reducible repeat' first|simp only[zQ,seval,X0,jai,hj,hi, *]|simp only[jab]|apply P3|intro _
 |true=>
 clear ct nn h1;with_reducible repeat' first|simp only[zQ,seval,X0,jai,hj,hi, *]|simp only[jab]|apply P3|intro _
 refine jdG ?_
 cases winB s.steps 0 1000000000 with
 |false=>
  with_reducible repeat' first|simp only[zQ,seval,X0,jai,hj,hi, *]|simp only[jab]|apply P3|intro _
 |true=>
 with_reducible repeat' first|simp only[zQ,seval,X0,jai,hj,hi, *]|simp only[jab]|apply P3|intro _
 refine jdG ?_
 cases winB s.asked 0 1000000000 with
 |false=>
  with_reducible repeat' first|simp only[zQ,seval,X0,jai,hj,hi, *]|simp only[jab]|apply P3|intro _
 |true=>
 by_cases h5:(s.threads.length:Int)=0
 ·with_reducible repeat' first|simp only[zQ,seval,X0,jai,hj,hi,h5, *]|simp only[jab]|apply P3|intro _
 with_reducible repeat' first|simp only[zQ,seval,X0,jai,hj,hi,h5, *]|simp only[jab]|apply P3|intro _
 refine TL.out _ _ (by simp only[jaj,X4,reduceIte]) fun S' b h' h1 h2 h4=>?_
 have fin:=F0.out b h' h1 h2;clear h1 h2;with_reducible repeat' first|simp only[zQ,seval,X0, *]|simp only[jab]|apply P3|intro _
end
section
open Go Go.RowKit
variable {tb:List (FuncId×Bool)}{nd:Bool}{L:Nat→Bool}{H X:ZH}{K:ZV→ZH→Prop}{s:StT}{p:PrT}{i j m:Nat}{v:Int×Int}{zl:List ZV}{M:List (Int×ZV)}
theorem ite3 {P:Prop}[Decidable P]{x:Int}(h:(if P then x else 3)=0):P∧x=0:=by
 by_cases hp:P
 ·rw[if_pos hp] at h;exact⟨hp,h⟩
 ·rw[if_neg hp] at h;cases h
theorem jsS {i:Nat}:(ZV.mp i).cells=[.mp i]:=rfl
theorem zcell_mp {i:Nat}:(ZV.mp i).isCell=true:=rfl
theorem prgOk_of (bg:jn8 p)(h:jgL jca p=0):jgR p∧0<p.2.2.length:=by
 rw[ji3] at h;by_cases hl:jgE p=true
 ·rw[if_pos hl] at h;cases h
 rw[if_neg hl] at h;have sz:=sz_of bg (by simpa using hl);obtain⟨ht,h⟩:=ite3 h;obtain⟨ha,_⟩:=ite3 h;have hne:0<p.1.length:=by
  cases hp:p.1 with
  |nil=>rw[hp] at ht;simp at ht
  |cons a l=>simp
 have htx:0<p.2.2.length:=by
  have:=ht.1;unfold jd1 at this;simp only[U2,decide_eq_true_eq] at this;have:=congrArg O0d this.1.1;rw[C4,jcF] at this;omega
 refine⟨⟨hne,sz.fns,sz.txts,fun f hf=>(sz.cos f hf).1,sz.caus,fun f hf=>jmp_of (p:=p) fun a i hai=>?_,fun f hf=>(sz.cos f hf).2⟩,htx⟩;have h2:=N2.1 ha f hf;unfold ja9 at h2;simp only[U2] at h2;exact jhS.1 h2.1.2 a i hai
structure StAll (p:PrT)(s:StT):Prop where
  ok:StOk s
  rt:RtOk p s
  ths:s.threads.length≤5
  frs: ∀t∈s.threads,t.frs.length≤30
theorem jvg {t:ThT}(hK:K (ZBo (decide ((30:Int)<(t.frs.length:Int)))) H):ZC (XC tb nd) (jag Tryz.prog) 33 [.agg (eTh t)] L H K:=by
 refine K6 Gh.no (jaf (by decide)) joK (by simp) fun hL=>?_
 simp only[jjb,kkP];have fin:=fun X=>finX (X:=X) rfl hK
 clear hK hL;with_reducible repeat' first|simp only[zQ,seval,X0,jai, *]|simp only[jab]|apply P3|intro _
theorem st4 {A B C D E:ZB}{Y:ZH}:(H++[A,B,C,D]).set (H.length+2) E++Y=H++(A::B::E::D::Y):=by
 rw[B7 _ _ (by omega),D8,M8];rfl
theorem jtt (bp:jn8 p)(bs:BigS s)(bt:BigT s)(hK: ∀e,(e=0→StAll p s)→K (Z64 e) H):ZC (XC tb true) (jag Tryz.prog) 16 [.agg (ePr p),.agg (eS s)] L H K:=by
 refine K6 Gh.no (jaf (by decide)) jry (by simp) fun hL=>?_
 simp only[jkL,kkP];have BP:=Z4 bp;have BS:=Z4 bs;have BT:=Z4 bt;have fin0:=fun e h X=>finX (X:=X) rfl (hK e h)
 have F0:=Z4 fin0;have hl2:L (H.length+2)=true:=hL 2;have hl3:L (H.length+3)=true:=hL 3;clear hK hL bp bs bt fin0;with_reducible repeat' first|simp only[zQ,seval,X0,jai, *]|simp only[jab]|apply P3|intro _
 refine check_z BP.out ?_;by_cases h1:jgL jca p=0
 case neg=>
  have fin:=F0.out (jgL jca p) (fun e=>absurd e h1);with_reducible repeat' first|simp only[zQ,seval,X0,jai,h1, *]|simp only[jab]|apply P3|intro _
 have pk:=prgOk_of BP.out h1;have PK:=Z4 pk;clear pk;with_reducible repeat' first|simp only[zQ,seval,X0,jai,h1, *]|simp only[jab]|apply P3|intro _
 clear h1;refine scheck_z BS.out fun e he=>?_
 by_cases h2:e=0
 case neg=>
  have fin:=F0.out e (fun h=>absurd h h2);clear he;with_reducible repeat' first|simp only[zQ,seval,X0,jai,h2, *]|simp only[jab]|apply P3|intro _
 have OK:=Z4 (he h2);clear he;subst h2;by_cases h3:(5:Int)<(s.threads.length:Int)
 ·have fin:=F0.out 2 (fun e=>by cases e)
  with_reducible repeat' first|simp only[zQ,seval,X0,jai,h3, *]|simp only[jab]|apply P3|intro _
 with_reducible repeat' first|simp only[zQ,seval,X0,jai,h3, *]|simp only[jab]|apply P3|intro _
 refine ji4 (l:=s.threads) (e:=eTh) (arg:=fun t=> .agg (eTh t)) (p:=fun t=>decide ((30:Int)<(t.frs.length:Int))) jiY (bx2 (by decide)) jiW (bx2 (by decide)) (fun m _=>rfl) (by rw[jaM]) BT.out.threads (fun t _ K hK=>jvg hK) ?_
 cases h4:s.threads.any (fun t=>decide ((30:Int)<(t.frs.length:Int))) with
 |true=>
  have fin:=F0.out 2 (fun e=>by cases e);clear h4;with_reducible repeat' first|simp only[zQ,seval,X0,jai, *]|simp only[jab]|apply P3|intro _
 |false=>
 have hf4: ∀t∈s.threads,t.frs.length≤30:=fun t ht=>by
  have:=List.any_eq_false.1 h4 t ht;simp only[decide_eq_true_eq] at this;omega
 have H4:=Z4 (show s.threads.length≤5∧ ∀t∈s.threads,t.frs.length≤30 from ⟨by omega,hf4⟩);clear h4 hf4;with_reducible repeat' first|simp only[zQ,seval,X0,jai,jsV,jsS,zcell_mp, *]|simp only[jab]|apply P3|intro _
 refine all_z PK.out.1.fns (fun f hf=>⟨PK.out.1.co f hf,PK.out.1.jmp f hf⟩) fun zl hzl=>?_
 have HZ:=Z4 hzl;clear hzl;with_reducible repeat' first|simp only[zQ,seval,X0,jai,hl3, *]|simp only[jab]|apply P3|intro _
 refine sright_z PK.out.1 PK.out.2 (i:=H.length+1) (j:=H.length+3) (m:=H.length+2) (zl:=zl) (s:=s) ⟨⟨jsa,jeF,HZ.out⟩,by omega,by omega,by simp,StI.start (M:=[]) jfV (fun x hx=>by cases hx),hl2⟩ BT.out BS.out.texts OK.out.cells fun b h' hs hb=>?_
 obtain⟨M',X,rfl,-⟩:=hs;rw[st4]
 cases b with
 |false=>
  have fin:=F0.out 3 (fun e=>by cases e);clear hb;with_reducible repeat' first|simp only[zQ,seval,X0,jai, *]|simp only[jab]|apply P3|intro _
 |true=>
 have fin:=F0.out 0 (fun _=>⟨OK.out,hb rfl,H4.out.1,H4.out.2⟩);clear hb;with_reducible repeat' first|simp only[zQ,seval,X0,jai, *]|simp only[jab]|apply P3|intro _
end
end Go.Proofs.YtlkapggcppcafaaGreatDoor
