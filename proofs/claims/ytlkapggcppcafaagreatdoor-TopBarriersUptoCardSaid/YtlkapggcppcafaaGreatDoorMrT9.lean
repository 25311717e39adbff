/-
  AM's code of functions, written by am/amprint.lean.
-/
import Derived.KernelRfl
import Derived.Test.YtlkapggcppcafaaGreatDoorMrT4
import Derived.Test.YtlkapggcppcafaaGreatDoorMrT8
set_option linter.unusedVariables false
set_option maxHeartbeats 32000000
set_option linter.unusedSimpArgs false
open And renaming intro→P3
open Int renaming toNat_natCast→O0f
open List renaming getD_eq_getElem?_getD→C0,length_append→G3,length_cons→Q3,length_nil→G9,foldl_append→O0l,append_assoc→M8,getElem?_append_right→N0,set_append_right→B7,append_nil→A0,getElem?_eq_getElem→U1,mem_of_getElem?→R5,take_succ_eq_append_getElem→X5,getElem?_map→U8,drop_zero→W1,take_of_length_le→I5,mem_append→O3,mem_singleton→X6,mem_cons_self→O0h,mem_cons_of_mem→O0i,mem_of_mem_take→M6,getLast?_eq_some_getLast→O0m,length_pos_iff→X9,map_append→L3,getElem?_eq_some_iff→U0,replicate→O6,length_filter_le→O0n,length_replicate→O0o,take_left→K5,map_cons→B6,flatten_cons→D6,length_take→C4,filter_append→O0p,length_map→P2,flatMap_append→O0q,take_append_drop→O0r,flatMap_cons→O0s,mem_filter→J7,cons_append→N9
open Nat renaming add_sub_cancel_left→D8,reduceLeDiff→X0,reduceEqDiff→X4,le_refl→V2,le_trans→V3
open Option renaming bind_some→Q9
open Prod.mk renaming injEq→O4
namespace Go.Proofs.YtlkapggcppcafaaGreatDoor
open Lib renaming hid→Z4
open Mods renaming ext→K4
open ZC renaming enterL→K6
section
open Go Go.RowKit
def jvi:jam:=kks [kkI 2 (.box 3 (kkt 0)),kkI 3 (.box 8 (kkt 1)),kkI 4 (.mv (.av kkS)),kkK 5 0] (.seq (kks [kkQ 10 3 2,kkQ 11 8 3,kkC 12 16 [kkt 10,kkt 11],kkM 6 12] (kks [kkM 13 6,kkB 14 .neq 13 (kkV 0)] (kkr 14 [kkM 15 6,kkI 4 (.mv (.av kkS)),kkM 5 15]))) (kks [kkI 7 (.mv (.av kkS))] (.seq (kks [kkC 16 17 [kkt 3],kkH 17 16,kkK 18 0] (jau 0 1 19 18 17 28 (kks [kkM 20 18,kkX 21 1 16 18,kkL 22 21,kkM 8 20,kkM 9 22] (kks [kkM 23 9] (.cond (kkt 23) (.ops [kkM 24 7,kkM 25 8,kkI 26 (.lits 1 1 [kkZ 0] [(0,1,(kkt 25))]),kkI 27 (.append 1 8 (kkt 24) (kkt 26)),kkM 7 27]) .skip))))) (kks [kkM 29 7,kkM 4 29,kkK 5 0] .ret))))
theorem f_rc_of:jag Tryz.prog 5=some ⟨30,jvi,[.tmp 4,.tmp 5]⟩:=by kernel_rfl
def jnE:jam:=kks [kkI 2 (.mv (.av kkS))] (kks [kkM 8 0,kkM 9 0,kkN 10 9,kkA 11 0 10,kkL 12 11,kkH 13 12,kkI 14 (.mkSlice 1 1 [(.val (.bool false))] (kkt 13) (kkt 13)),kkI 15 (.build [(.val (.pointer none)),kkS,kkS,kkS] [(0,1,(kkt 8)),(1,1,(kkt 14))]),kkI 16 (.box 4 (kkt 15)),kkM 3 16] (.seq (kks [kkM 17 0,kkN 18 17,kkA 19 3 18,kkL 20 19,kkH 21 20,kkK 22 0] (jau 0 1 23 22 21 44 (kks [kkX 24 5 20 22,kkQ 25 5 24,kkI 5 (.zero [kkS,kkZ 0,kkZ 0,kkZ 0,kkZ 0]),kkR 5 5 25] (kks [kkM 26 3,kkA 27 0 5,kkL 28 27,kkC 29 36 [kkt 26,kkt 28]] (kks [kkM 30 3,kkA 31 3 5,kkQ 32 2 31,kkI 33 (.lits 2 1 [kkZ 0,kkZ 0] [(0,2,(kkt 32))]),kkC 34 37 [kkt 30,kkt 33]] (kks [kkA 35 1 5,kkL 36 35,kkB 37 .eql 36 (kkV 1)] (.cond (kkt 37) (.ops [kkM 38 3,kkA 39 2 5,kkL 40 39,kkI 41 (.build [kkZ 0,kkZ 0] [(0,1,(kkV 5)),(1,1,(kkt 40))]),kkI 42 (.lits 2 1 [kkZ 0,kkZ 0] [(0,2,(kkt 41))]),kkC 43 37 [kkt 38,kkt 42]]) .skip))))))) (.seq (kks [kkM 45 0,kkN 46 45,kkA 47 4 46,kkL 48 47,kkH 49 48,kkK 50 0] (jau 2 3 51 50 49 59 (kks [kkX 52 3 48 50,kkQ 53 3 52,kkI 7 (.zero [kkZ 0,kkZ 0,kkZ 0]),kkR 3 7 53] (.ops [kkM 54 3,kkA 55 1 7,kkQ 56 2 55,kkI 57 (.lits 2 1 [kkZ 0,kkZ 0] [(0,2,(kkt 56))]),kkC 58 37 [kkt 54,kkt 57]])))) (kks [kkM 60 3,kkC 61 38 [kkt 60]] (kks [kkM 62 3,kkC 63 39 [kkt 62]] (kks [kkM 64 3,kkN 65 64,kkA 66 1 65,kkL 67 66,kkM 2 67] .ret))))))
theorem juH:jag Tryz.prog 17=some ⟨68,jnE,[.tmp 2]⟩:=by kernel_rfl
def jjc:jam:=kks [kkM 6 1,kkH 7 6,kkK 8 0] (jau 0 1 9 8 7 30 (kks [kkX 10 8 6 8,kkQ 11 8 10,kkI 5 (.zero [kkZ 0,kkZ 0,kkZ 0,kkZ 0,kkZ 0,kkZ 0,kkS,kkS]),kkR 8 5 11] (kks [kkM 12 0,kkA 13 4 5,kkQ 14 2 13,kkI 15 (.lits 2 1 [kkZ 0,kkZ 0] [(0,2,(kkt 14))]),kkC 16 37 [kkt 12,kkt 15]] (kks [kkM 17 0,kkA 18 6 5,kkL 19 18,kkC 20 37 [kkt 17,kkt 19]] (kks [kkA 21 3 5,kkL 22 21,kkB 23 .geq 22 (kkV 0)] (.cond (kkt 23) (.ops [kkM 24 0,kkA 25 3 5,kkL 26 25,kkI 27 (.build [kkZ 0,kkZ 0] [(0,1,(kkV 5)),(1,1,(kkt 26))]),kkI 28 (.lits 2 1 [kkZ 0,kkZ 0] [(0,2,(kkt 27))]),kkC 29 37 [kkt 24,kkt 28]]) .skip))))))
theorem joL:jag Tryz.prog 36=some ⟨31,jjc,[]⟩:=by kernel_rfl
def jnG:jam:=kks [kkM 6 1,kkH 7 6,kkK 8 0] (jau 0 1 9 8 7 44 (kks [kkX 10 2 6 8,kkQ 11 2 10,kkI 5 (.zero [kkZ 0,kkZ 0]),kkR 2 5 11] (kkd [kkA 12 0 5,kkL 13 12,kkB 14 .eql 13 (kkV 5),kkM 15 14,kkG 16 (.mv (kkt 0)) 15,kkG 17 (.nilCheck (kkt 16)) 15,kkG 18 (.fieldAddr 1 (kkt 17)) 15,kkG 19 (.load none (kkt 18)) 15,kkG 20 (.fieldAddr 1 (kkt 5)) 15,kkG 21 (.load none (kkt 20)) 15,kkG 22 (.indexAddr 1 (kkt 19) (kkt 21)) 15,kkG 23 (.load none (kkt 22)) 15,kkG 24 (.un .not (kkt 23)) 15,kkE 25 15 24] (.cond (kkt 25) (kkd [kkM 26 0,kkN 27 26,kkA 28 1 27,kkL 29 28,kkA 30 1 5,kkL 31 30,kkX 32 1 29 31,⟨none,.store 1 (kkt 32) kky,none,true⟩] (.opsD [kkM 33 0,kkM 34 0,kkN 35 34,kkA 36 2 35,kkL 37 36,kkA 38 1 5,kkL 39 38,kkI 40 (.lits 1 1 [kkZ 0] [(0,1,(kkt 39))]),kkI 41 (.append 1 8 (kkt 37) (kkt 40)),kkN 42 33,kkA 43 2 42,kkR 1 43 41])) .skip))))
theorem juJ:jag Tryz.prog 37=some ⟨45,jnG,[]⟩:=by kernel_rfl
def jqD:jam:= .block 0 (.loop (.seq (kks [kkM 4 0,kkN 5 4,kkA 6 2 5,kkL 7 6,kkH 8 7,kkB 9 .gtr 8 (kkV 0)] (.cond (kkt 9) .skip (.exit 0))) (.block 1 (kkd [kkM 10 0,kkN 11 10,kkA 12 2 11,kkL 13 12,kkM 14 0,kkN 15 14,kkA 16 2 15,kkL 17 16,kkH 18 17,kkB 19 .sub 18 (kkV 1),kkX 20 1 13 19,kkL 21 20,kkM 2 21] (kkd [kkM 22 0,kkM 23 0,kkN 24 23,kkA 25 2 24,kkL 26 25,kkM 27 0,kkN 28 27,kkA 29 2 28,kkL 30 29,kkH 31 30,kkB 32 .sub 31 (kkV 1),kkI 33 (.slice 1 (kkt 26) none (some (kkt 32)) none),kkN 34 22,kkA 35 2 34,kkR 1 35 33] (kks [kkM 36 0,kkN 37 36,kkA 38 0 37,kkL 39 38,kkN 40 39,kkA 41 0 40,kkL 42 41,kkM 43 2,kkX 44 4 42 43,kkQ 45 4 44,kkI 3 (.zero [kkZ 0,kkZ 0,kkS,kkS]),kkR 4 3 45] (.seq (kks [kkA 46 0 3,kkL 47 46,kkB 48 .eql 47 (kkV 7)] (.cond (kkt 48) (kks [kkM 49 0,kkM 50 0,kkN 51 50,kkA 52 3 51,kkL 53 52,kkM 54 2,kkI 55 (.lits 1 1 [kkZ 0] [(0,1,(kkt 54))]),kkI 56 (.append 1 8 (kkt 53) (kkt 55)),kkN 57 49,kkA 58 3 57,kkR 1 58 56] (.exit 1)) .skip)) (kks [kkM 59 0,kkA 60 2 3,kkL 61 60,kkC 62 37 [kkt 59,kkt 61]] (.ops [kkM 63 0,kkA 64 3 3,kkL 65 64,kkC 66 36 [kkt 63,kkt 65]])))))))))
theorem f_rc_all:jag Tryz.prog 38=some ⟨67,jqD,[]⟩:=by kernel_rfl
end
section
open Go Go.RowKit
def jqB:jam:=kks [kkI 4 (.box 3 (kkt 0)),kkI 5 (.box 8 (kkt 1)),kkI 7 (.box 1 (kkt 3)),kkI 8 (.mv kkn)] (.seq (kks [kkC 27 4 [],kkU 28 27] (kkr 28 [kkI 8 (.mv kkn)])) (kks [kkQ 30 3 4,kkQ 31 8 5,kkC 32 5 [kkt 30,kkt 31],kkM 29 32,kkx 33 0 29,kkx 34 1 29,kkM 9 33,kkM 10 34] (kks [kkQ 36 8 5,kkC 37 6 [kkt 36],kkM 35 37,kkx 38 0 35,kkx 39 1 35,kkI 11 (.zero [kkS,kkS]),kkR 2 11 38,kkM 12 39] (kks [kkM 41 2,kkC 42 8 [kkt 41,(kkV 2)],kkI 43 (.bin .add (kkV 1) (kkt 42)),kkC 44 7 [kkt 43],kkM 40 44,kkx 45 0 40,kkx 46 1 40,kkI 13 (.zero [(.val (.pointer none))]),kkR 1 13 45,kkM 14 46] (.seq (kks [kkM 47 10,kkB 48 .neq 47 (kkV 0),kkM 49 48,kkJ 50 (.mv (kkt 12)) 49,kkJ 51 (.un .not (kkt 50)) 49,kkO 52 49 51,kkM 53 52,kkJ 54 (.load (some 8) (kkt 5)) 53,kkJ 55 (.call (kkF 9) [kkt 54]) 53,kkO 56 53 55] (kkr 56 [kkC 57 4 [],kkM 8 57])) (.seq (kks [kkM 58 14,kkB 59 .neq 58 (kkV 0),kkM 60 59,kkJ 61 (.load none (kkt 13)) 60,kkJ 62 (.eqNil false 1 (kkt 61)) 60,kkO 63 60 62] (kkr 63 [kkI 8 (.mv kkn)])) (kks [kkI 15 (.zero [kkZ 0]),⟨none,.store 1 (kkt 15) (kkV 0),none,true⟩] (kks [kkI 64 (.func 10 [kkt 15,kkt 7,kkt 13]),kkM 16 64] (.seq (kks [kkA 65 0 11,kkL 66 65,kkH 67 66,kkK 68 0] (jau 0 1 69 68 67 78 (kks [kkX 70 1 66 68,kkL 71 70,kkM 18 71] (kks [kkM 72 16,kkM 73 18,kkH 74 73,kkI 75 (.build [kkZ 0,kkZ 0,kkZ 0,kkZ 0] [(0,1,(kkV 1)),(3,1,(kkt 74))]),kkI 76 (.call (kkt 72) [kkt 75]),kkU 77 76] (kkr 77 [kkI 8 (.mv kkn)]))))) (.seq (kks [kkA 79 0 11,kkL 80 79,kkH 81 80,kkK 82 0] (jau 2 3 83 82 81 102 (kks [kkM 84 82,kkX 85 1 80 82,kkL 86 85,kkM 19 84,kkM 20 86] (kks [kkM 87 20,kkH 88 87,kkK 89 0] (jau 4 5 90 89 88 101 (kks [kkM 91 89,kkX 92 1 87 89,kkL 93 92,kkM 21 91,kkM 22 93] (kks [kkM 94 16,kkM 95 19,kkM 96 22,kkM 97 21,kkI 98 (.build [kkZ 0,kkZ 0,kkZ 0,kkZ 0] [(0,1,(kkV 2)),(1,1,(kkt 95)),(2,1,(kkt 96)),(3,1,(kkt 97))]),kkI 99 (.call (kkt 94) [kkt 98]),kkU 100 99] (kkr 100 [kkI 8 (.mv kkn)])))))))) (.seq (kks [kkA 103 0 11,kkL 104 103,kkH 105 104,kkK 106 0] (jau 6 7 107 106 105 121 (kks [kkM 108 106,kkM 23 108] (kks [kkA 109 1 11,kkL 110 109,kkM 111 23,kkC 112 12 [kkt 110,kkt 111],kkU 113 112,kkM 114 113,kkG 115 (.mv (kkt 16)) 114,kkG 116 (.mv (kkt 23)) 114,kkG 117 (.build [kkZ 0,kkZ 0,kkZ 0,kkZ 0] [(0,1,(kkV 3)),(1,1,(kkt 116))]) 114,kkG 118 (.call (kkt 115) [kkt 117]) 114,kkG 119 (.un .not (kkt 118)) 114,kkE 120 114 119] (kkr 120 [kkI 8 (.mv kkn)]))))) (kks [kkL 122 13,kkI 123 (.build [kkZ 0,kkZ 0,kkZ 0,kkZ 0] [(0,1,(kkV 7))]),kkC 124 11 [kkt 122,kkt 123]] (kks [kkL 125 13,kkI 126 (.build [kkZ 0,kkZ 0,kkZ 0,kkZ 0] [(0,1,(kkV 6))]),kkC 127 11 [kkt 125,kkt 126]] (kks [kkL 128 13,kkI 129 (.build [kkZ 0,kkZ 0,kkZ 0,kkZ 0] [(0,1,(kkV 7))]),kkC 130 11 [kkt 128,kkt 129]] (kks [kkI 24 (.mv (.av kkS))] (.seq (kks [kkL 131 13,kkC 132 13 [kkt 131],kkH 133 132,kkK 134 0] (jau 8 9 135 134 133 145 (kks [kkM 136 134,kkX 137 1 132 134,kkL 138 137,kkM 25 136,kkM 26 138] (kks [kkM 139 26,kkB 140 .lss 139 (kkV 3)] (.cond (kkt 140) (.ops [kkM 141 24,kkM 142 25,kkI 143 (.lits 1 1 [kkZ 0] [(0,1,(kkt 142))]),kkI 144 (.append 1 8 (kkt 141) (kkt 143)),kkM 24 144]) .skip))))) (kks [kkC 146 4 [],kkM 147 146,kkG 148 (.mv (kkt 24)) 147,kkG 149 (.mv (kkt 9)) 147,kkG 150 (.call (kkF 14) [kkt 148,kkt 149]) 147,kkE 151 147 150,kkM 8 151] .ret)))))))))))))))))
theorem f_tp_top:jag Tryz.prog 3=some ⟨152,jqB,[.tmp 8]⟩:=by kernel_rfl
def jkG:jam:=kks [kkI 0 (.mv kkn)] (kks [kkI 4 (.build [kkZ 0,kkZ 0] [(0,1,(kkV 5)),(1,1,(kkV 3))]),kkC 5 15 [kkt 4],kkM 3 5,kkx 6 0 3,kkx 7 1 3,kkM 1 6,kkM 2 7] (kks [kkM 8 2,kkB 9 .eql 8 (kkV 0),kkM 10 9,kkG 11 (.mv (kkt 1)) 10,kkG 12 (.bin .eql (kkt 11) (.av (.val (.int .u64 18445899648779419651)))) 10,kkE 13 10 12,kkM 0 13] .ret))
theorem jrt:jag Tryz.prog 4=some ⟨14,jkG,[.tmp 0]⟩:=by kernel_rfl
def jkF:jam:=kks [kkI 1 (.box 8 (kkt 0)),kkI 2 (.zero [kkS,kkS]),kkI 3 (.mv kkn)] (kks [kkQ 8 8 1,kkC 9 18 [kkt 8],kkI 10 (.build [kkS,kkS] [(1,1,(kkt 9))]),kkI 4 (.zero [kkS,kkS]),kkR 2 4 10] (.seq (kks [kkA 11 0 1,kkL 12 11,kkH 13 12,kkK 14 0] (jau 0 1 15 14 13 31 (kks [kkX 16 4 12 14,kkQ 17 4 16,kkI 6 (.zero [kkZ 0,kkZ 0,kkS,kkS]),kkR 4 6 17] (kks [kkQ 18 4 6,kkC 19 20 [kkt 18],kkC 20 19 [kkt 19],kkM 7 20] (.seq (kks [kkM 21 7,kkH 22 21,kkB 23 .gtr 22 (kkV 10)] (kkr 23 [kkI 24 (.build [kkS,kkS] []),kkR 2 2 24,kkI 3 (.mv kkn)])) (.ops [kkA 25 0 4,kkL 26 25,kkM 27 7,kkI 28 (.lits 1 1 [kkS] [(0,1,(kkt 27))]),kkI 29 (.append 1 24 (kkt 26) (kkt 28)),kkA 30 0 4,kkR 1 30 29])))))) (kkd [kkQ 32 2 4,kkA 33 0 4,kkL 34 33,kkH 35 34,kkB 36 .leq 35 (kkV 100),kkM 37 36,kkG 38 (.fieldAddr 1 (kkt 4)) 37,⟨(some 39),.load none (kkt 38),(some (37,true)),false⟩,kkG 40 (.len (kkt 39)) 37,kkG 41 (.bin .leq (kkt 40) (kkV 100)) 37,kkE 42 37 41,⟨none,.store 2 (kkt 2) (kkt 32),none,false⟩,kkM 3 42] .ret)))
theorem jrs:jag Tryz.prog 6=some ⟨43,jkF,[.cell 2 (some 2),.tmp 3]⟩:=by kernel_rfl
def jny:jam:=kks [kkI 1 (.box 8 (kkt 0)),kkI 2 (.mv kkn)] (.seq (kks [kkA 5 0 1,kkL 6 5,kkH 7 6,kkK 8 0] (jau 0 1 9 8 7 15 (kks [kkX 10 4 6 8,kkQ 11 4 10,kkI 4 (.zero [kkZ 0,kkZ 0,kkS,kkS]),kkR 4 4 11] (kks [kkA 12 0 4,kkL 13 12,kkB 14 .eql 13 (kkV 7)] (kkr 14 [kkI 2 (.mv kky)]))))) (kks [kkI 2 (.mv kkn)] .ret))
theorem juB:jag Tryz.prog 9=some ⟨16,jny,[.tmp 2]⟩:=by kernel_rfl
def jnz:jam:=kks [kkI 4 (.box 4 (kkt 0)),kkI 5 (.mv kkn)] (.seq (kks [kkL 8 1,kkL 9 2,kkH 10 9,kkI 11 (.minmax false (kkt 10) [(kkV 200)]),kkB 12 .lss 8 (kkt 11)] (.cond (kkt 12) (.seq (.opsW [⟨(some 13),.load none (kkt 3),none,false⟩,kkL 14 2,kkL 15 1,kkX 16 1 14 15,kkL 17 16,⟨(some 18),.call (kkF 8) [kkt 17,(kkV 3)],none,false⟩,kkI 19 (.bin .add (kkV 5) (kkt 18)),⟨(some 20),.load none (kkt 2),none,false⟩,⟨(some 21),.load none (kkt 1),none,false⟩,kkX 22 1 20 21,⟨(some 23),.load none (kkt 22),none,false⟩,⟨(some 24),.call (kkF 8) [kkt 23,(kkV 4)],none,false⟩,kkI 25 (.build [kkZ 0,kkZ 0,kkZ 0,kkZ 0] [(0,1,(kkt 19)),(3,1,(kkt 24))]),kkC 26 11 [kkt 13,kkt 25]]) (.ops [kkL 27 1,kkB 28 .add 27 (kkV 1),kkR 1 1 28])) .skip)) (kks [kkL 30 3,kkQ 31 4 4,kkC 32 11 [kkt 30,kkt 31],kkM 29 32,kkx 33 0 29,kkx 34 1 29,kkM 6 33,kkM 7 34] (kks [kkM 35 7,kkB 36 .eql 35 (kkV 0),kkM 5 36] .ret)))
theorem juC:jag Tryz.prog 10=some ⟨37,jnz,[.tmp 5]⟩:=by kernel_rfl
def jkE:jam:=kks [kkI 1 (.box 8 (kkt 0)),kkI 2 (.mv (.av kkS))] (kks [kkI 3 (.mv (.av kkS))] (.seq (kks [kkA 10 3 1,kkL 11 10,kkH 12 11,kkK 13 0] (jau 0 1 14 13 12 51 (kks [kkX 15 5 11 13,kkQ 16 5 15,kkI 5 (.zero [kkS,kkZ 0,kkZ 0,kkZ 0,kkZ 0]),kkR 5 5 16] (kkd [kkM 17 3,kkA 18 0 5,kkL 19 18,⟨(some 20),.call (kkF 40) [kkt 19],none,false⟩,kkA 21 3 5,⟨(some 22),.load (some 2) (kkt 21),none,false⟩,kkI 23 (.lits 2 1 [kkZ 0,kkZ 0] [(0,2,(kkt 22))]),kkI 24 (.append 2 16 (kkt 20) (kkt 23)),kkC 25 19 [kkt 24],kkI 26 (.append 1 8 (kkt 17) (kkt 25)),kkM 3 26] (.seq (kks [kkA 27 1 5,kkL 28 27,kkB 29 .eql 28 (kkV 1)] (.cond (kkt 29) (.ops [kkM 30 3,kkA 31 2 5,kkL 32 31,kkI 33 (.lits 1 1 [kkZ 0] [(0,1,(kkt 32))]),kkI 34 (.append 1 8 (kkt 30) (kkt 33)),kkM 3 34]) .skip)) (kks [kkA 35 0 5,kkL 36 35,kkH 37 36,kkK 38 0] (jau 2 3 39 38 37 50 (kks [kkX 40 8 36 38,kkQ 41 8 40,kkI 7 (.zero [kkZ 0,kkZ 0,kkZ 0,kkZ 0,kkZ 0,kkZ 0,kkS,kkS]),kkR 8 7 41] (kks [kkA 42 3 7,kkL 43 42,kkB 44 .geq 43 (kkV 0)] (.cond (kkt 44) (.ops [kkM 45 3,kkA 46 3 7,kkL 47 46,kkI 48 (.lits 1 1 [kkZ 0] [(0,1,(kkt 47))]),kkI 49 (.append 1 8 (kkt 45) (kkt 48)),kkM 3 49]) .skip)))))))))) (.seq (kks [kkA 52 4 1,kkL 53 52,kkH 54 53,kkK 55 0] (jau 4 5 56 55 54 65 (kks [kkX 57 3 53 55,kkQ 58 3 57,kkI 9 (.zero [kkZ 0,kkZ 0,kkZ 0]),kkR 3 9 58] (.ops [kkM 59 3,kkA 60 1 9,kkQ 61 2 60,kkI 62 (.lits 2 1 [kkZ 0,kkZ 0] [(0,2,(kkt 61))]),kkC 63 19 [kkt 62],kkI 64 (.append 1 8 (kkt 59) (kkt 63)),kkM 3 64])))) (kks [kkM 66 3,kkM 2 66] .ret))))
theorem jrr:jag Tryz.prog 18=some ⟨67,jkE,[.tmp 2]⟩:=by kernel_rfl
def jnA:jam:=kks [kkI 2 (.mv (.av kkS))] (kks [kkI 3 (.mv (.av kkS))] (.seq (kks [kkM 6 0,kkH 7 6,kkK 8 0] (jau 0 1 9 8 7 20 (kks [kkX 10 2 6 8,kkQ 11 2 10,kkI 5 (.zero [kkZ 0,kkZ 0]),kkR 2 5 11] (kks [kkA 12 0 5,kkL 13 12,kkB 14 .eql 13 (kkV 5)] (.cond (kkt 14) (.ops [kkM 15 3,kkA 16 1 5,kkL 17 16,kkI 18 (.lits 1 1 [kkZ 0] [(0,1,(kkt 17))]),kkI 19 (.append 1 8 (kkt 15) (kkt 18)),kkM 3 19]) .skip))))) (kks [kkM 21 3,kkM 2 21] .ret)))
theorem juD:jag Tryz.prog 19=some ⟨22,jnA,[.tmp 2]⟩:=by kernel_rfl
def jqC:jam:=kks [kkI 1 (.box 4 (kkt 0)),kkI 2 (.mv (.av kkS))] (.seq (kks [kkA 3 0 1,kkL 4 3,kkB 5 .eql 4 (kkV 7)] (kkr 5 [kkI 2 (.mv (.av kkS))])) (kkd [kkA 6 2 1,kkL 7 6,⟨(some 8),.call (kkF 41) [kkt 7],none,false⟩,kkA 9 3 1,⟨(some 10),.load none (kkt 9),none,false⟩,kkC 11 40 [kkt 10],kkI 12 (.append 2 16 (kkt 8) (kkt 11)),kkM 2 12] .ret))
theorem f_tp_has:jag Tryz.prog 20=some ⟨13,jqC,[.tmp 2]⟩:=by kernel_rfl
def ji6:jam:=kks [kkI 2 (.mv (.av kkS))] (kks [kkI 3 (.mv (.av kkS))] (.seq (kks [kkM 6 0,kkH 7 6,kkK 8 0] (jau 0 1 9 8 7 20 (kks [kkX 10 8 6 8,kkQ 11 8 10,kkI 5 (.zero [kkZ 0,kkZ 0,kkZ 0,kkZ 0,kkZ 0,kkZ 0,kkS,kkS]),kkR 8 5 11] (.opsD [kkM 12 3,kkA 13 4 5,kkQ 14 2 13,kkI 15 (.lits 2 1 [kkZ 0,kkZ 0] [(0,2,(kkt 14))]),⟨(some 16),.append 2 16 (kkt 12) (kkt 15),none,false⟩,kkA 17 6 5,⟨(some 18),.load none (kkt 17),none,false⟩,kkI 19 (.append 2 16 (kkt 16) (kkt 18)),kkM 3 19])))) (kks [kkM 21 3,kkM 2 21] .ret)))
theorem joF:jag Tryz.prog 40=some ⟨22,ji6,[.tmp 2]⟩:=by kernel_rfl
def jnB:jam:=kks [kkI 2 (.mv (.av kkS))] (kks [kkM 3 0,kkI 4 (.append 2 16 (.av kkS) (kkt 3)),kkM 2 4] .ret)
theorem juE:jag Tryz.prog 41=some ⟨5,jnB,[.tmp 2]⟩:=by kernel_rfl
end
section
open Go Go.RowKit
variable {tb:List (FuncId×Bool)}{nd:Bool}{L:Nat→Bool}{B H X:ZH}{K:ZV→ZH→Prop}{i:Nat}{l:List (Int×Int)}
structure Rw where
  seen:List Bool
  todo:List Nat
  weak:List Nat
def Rw.put (w:Rw)(v:Int×Int):Rw:=if v.1=5∧w.seen.getD v.2.toNat true=false then { w with seen:=w.seen.set v.2.toNat true,todo:=w.todo++[v.2.toNat] } else w
def Rw.come (w:Rw)(l:List (Int×Int)):Rw:=l.foldl Rw.put w
def Rw.key (w:Rw):Nat:=(w.seen.filter (!·)).length+w.todo.length
theorem Rw.put_key (w:Rw)(v:Int×Int):(w.put v).key=w.key∧(w.put v).seen.length=w.seen.length∧(w.put v).weak=w.weak:=by
 unfold Rw.put;split
 ·rename_i h
  have h3:w.seen[v.2.toNat]?=some false:=by
   have:=h.2;rw[C0] at this
   cases hc:w.seen[v.2.toNat]? with
   |none=>rw[hc] at this;cases this
   |some x=>rw[hc] at this;simp at this;rw[this]
  have:=jks h3;refine⟨?_,by simp,rfl⟩;simp only[Rw.key,G3,Q3,G9];omega
 ·exact⟨rfl,rfl,rfl⟩
theorem Rw.come_key (l:List (Int×Int)): ∀w:Rw,(w.come l).key=w.key∧(w.come l).seen.length=w.seen.length∧(w.come l).weak=w.weak:=by
 induction l with
 |nil=>exact fun w=>⟨rfl,rfl,rfl⟩
 |cons v l ih=>
  intro w;have h1:=ih (w.put v);have h2:=w.put_key v;exact⟨h1.1.trans h2.1,h1.2.1.trans h2.2.1,h1.2.2.trans h2.2.2⟩
theorem jva {w:Rw}{v:Int×Int}:w.come (l++[v])=(w.come l).put v:=by unfold Rw.come;rw[O0l];rfl
abbrev eN (n:Nat):List ZV:=[Z64 (n:Int)]
abbrev rwC (b i n gt m gw q:Nat):List ZV:=[.ptr i 0,.own b 0 0 n true,.own (b+1) gt 0 m false,.own (b+2) gw 0 q false]
abbrev RwH (B:ZH)(i:Nat)(w:Rw)(gt:Nat)(td:List (List ZV))(gw:Nat)(X:ZH):ZH:=B++(.grow 0 1 (w.seen.map eB):: .grow gt 1 td:: .grow gw 1 (w.weak.map eN):: .box (rwC B.length i w.seen.length gt w.todo.length gw w.weak.length)::X)
def RwI (B:ZH)(i:Nat)(w:Rw)(gw:Nat)(X:ZH)(h':ZH):Prop:= ∃gt td Y,h'=RwH B i w gt td gw (X++Y)∧TdOk td w.todo
theorem RwI.trans {u:Rw}{gw:Nat}{Z:ZH}{h':ZH}(h:RwI B i u gw (X++Z) h'):RwI B i u gw X h':=by
 obtain⟨g,t,Y,rfl,ht⟩:=h;exact⟨g,t,Z++Y,by rw[M8],ht⟩
section
variable {P Q R S T U:ZB}{Y:ZH}
theorem x_at4:(B++(P::Q::R::S::(X++(T::Y))))[B.length+(X.length+1+1+1+1)]?=some T:=by
 rw[N0 (by omega),D8];simp
theorem x_st4:(B++(P::Q::R::S::(X++(T::Y)))).set (B.length+(X.length+1+1+1+1)) U=B++(P::Q::R::S::(X++(U::Y))):=by
 rw[B7 _ _ (by omega),D8];simp
end
theorem jeM:type_of% (P3 @x_at4 @x_st4):=P3 @x_at4 @x_st4
def jfD (n:Nat)(l:List (Int×Int)):Prop:= ∀v∈l,v.1=5→ ∃a:Nat,v.2=a∧a<n
theorem jfm {ex:Bool}{w:Rw}{gt gw:Nat}{td:List (List ZV)}(hL: ∀k,L (B.length+k)=true)(hin:jfD w.seen.length l)(hb:l.length≤100000000000000)(hk:w.key≤100000)(ht:TdOk td w.todo)
  (hK: ∀h',RwI B i (w.come l) gw X h'→K .no h'):
  ZC (XC tb nd) (jag Tryz.prog) 37 [.ptr (B.length+3) 0,.fz 2 ex (l.map eVl)] L (RwH B i w gt td gw X) K:=by
 refine K6 Gh.no (jaf (by decide)) juJ (by simp) fun hLn=>?_
 simp only[jnG,kkP];have HL:=Z4 hL;have HIN:=Z4 hin;have HKK:=Z4 hk;have FI:=Z4 (show ∀h',RwI B i (w.come l) gw X h'→Fin (RwH B i w gt td gw X) .no h' K from fun h' h=>Fin.keep (hK h' h));have HT:=Z4 ht;have r0: ∀(S:ZS) (h:ZH),jcn S h []=some .no:=fun _ _=>rfl
 have hl0:L B.length=true:=hL 0;have hl1:L (B.length+1)=true:=hL 1;have hl3:L (B.length+3)=true:=hL 3;clear hL hin hk hK ht hLn;with_reducible repeat' first|simp only[zQ,seval,X0, *]|simp only[jab]|apply P3|intro _
 refine jaK [(0,.ptr (B.length+3) 0),(6,.fz 2 ex (l.map eVl))] l.length (fun k s' h'=>RwI B i (w.come (l.take k)) gw X h') (by omega) ⟨rfl,rfl,rfl,rfl,rfl,rfl⟩ rfl rfl (by repeat' (first|exact trivial|(refine⟨rfl,?_⟩)|(refine⟨by simp only[jaj,X4,reduceIte];assumption,?_⟩))) rfl rfl (by decide) ⟨gt,td,[],by rw[A0];rfl,HT.out⟩ ?_ ?_
 ·rintro k s' h' hkl ⟨g1,t1,Y1,rfl,ht1⟩ hi hln ⟨f0,f6,-⟩
  obtain⟨⟨d,n⟩,hv⟩: ∃v,l[k]?=some v:=⟨_,U1 hkl⟩;have hin:=HIN.out (d,n) (R5 hv);have htk:l.take (k+1)=l.take k++[(d,n)]:=by
   rw[X5 hkl];have:=U1 hkl;rw[hv] at this;injection this with this;rw[←this]
  have hwn:w.come (l.take (k+1))=(w.come (l.take k)).put (d,n):=by rw[htk,jva]
  have hck:=Rw.come_key (l.take k) w;obtain⟨X1,hX1⟩: ∃X1,X1=X++Y1:=⟨_,rfl⟩;rw[←hX1];have HX:=Z4 hX1;clear hX1;obtain⟨u,hu⟩: ∃u,u=w.come (l.take k):=⟨_,rfl⟩;rw[←hu] at hwn hck ht1;rw[←hu];have hlX:L (B.length+(X1.length+1+1+1+1))=true:=HL.out _;have HU:=Z4 hu;have HT1:=Z4 ht1;have HW:=Z4 hwn;have HC:=Z4 hck;clear hu ht1 hwn hck htk;have same:u.put (d,n)=u→ ∀Y,RwI B i (w.come (l.take (k+1))) gw X (B++(.grow 0 1 (u.seen.map eB):: .grow g1 1 t1:: .grow gw 1 (u.weak.map eN):: .box (rwC B.length i u.seen.length g1 u.todo.length gw u.weak.length)::(X1++Y))):=fun h Y=>⟨g1,t1,Y1++Y,by rw[HW.out,h,HX.out,M8],by rw[HW.out,h];exact HT1.out⟩
  by_cases h5:d=5
  case neg=>
   have fin:=same (by unfold Rw.put;rw[if_neg fun h=>h5 h.1]);clear same;with_reducible repeat' first|simp only[zQ,seval,X0,jai,jeM,hlX,hl3,hv,h5, *]|simp only[jab]|apply P3|intro _
  subst h5;obtain⟨a,rfl,ha⟩:=hin rfl;have hal:a<u.seen.length:=by rw[HC.out.2.1];exact ha
  obtain⟨b,hs⟩: ∃b,u.seen[a]?=some b:=⟨_,U1 hal⟩;have hsd:u.seen.getD ((a:Int)).toNat true=b:=by rw[O0f,C0,hs];rfl
  have e0: ∀Y,jdd (B++(.grow 0 1 (u.seen.map eB)::Y)) 1 a (.own B.length 0 0 u.seen.length true)=some (.eptr B.length 0 a 0):=fun Y=>by
   rw[jbQ];exact⟨_,jcr,by simp,hal,by simp⟩
  have d0: ∀Y,ldZ (B++(.grow 0 1 (u.seen.map eB)::Y)) none (.eptr B.length 0 a 0)=some (ZBo b):=fun Y=>by
   rw[jbS];exact⟨_,_,eB b,jcr,by rw[U8,hs];rfl,rfl⟩
  cases b with
  |true=>
   have fin:=same (by unfold Rw.put;rw[if_neg fun h=>by rw[hsd] at h;cases h.2]);clear same hsd hs;with_reducible repeat' first|simp only[zQ,seval,X0,jai,jeM,hlX,hl3,hv,e0,d0, *]|simp only[jab]|apply P3|intro _
  |false=>
   have hp:u.put (5,(a:Int))={ u with seen:=u.seen.set a true,todo:=u.todo++[a] }:=by unfold Rw.put;rw[if_pos ⟨rfl,hsd⟩,O0f]
   have st0: ∀Y,stZ L (B++(.grow 0 1 (u.seen.map eB)::Y)) [ZBo true] (.eptr B.length 0 a 0)=some (B++(.grow 0 1 ((u.seen.set a true).map eB)::Y)):=fun Y=>by
    simp only[stZ,jcr,if_true,U8,hs,Option.map_some];rw[if_pos ⟨hl0,by decide⟩,jjG,List.map_set];rfl
   have htl:u.todo.length≤100000:=by have:=HC.out.1;have:=HKK.out;unfold Rw.key at *; omega
   have ap: ∀P Y,appZ L (B++(P:: .grow g1 1 t1::Y)) 1 8 [[Z64 a]] (.own (B.length+1) g1 0 u.todo.length false)=some (.own (B.length+1) (g1+1) 0 (u.todo.length+1) false,B++(P:: .grow (g1+1) 1 (t1.take u.todo.length++[[Z64 a]])::Y)):=fun P Y=>by
    rw[jcU];refine⟨_,jeF,by have:=HT1.out.1;omega,by unfold reach;simp;omega,hl1,rfl,?_⟩;rw[jhO,W1]
   have fin: ∀Y,RwI B i (w.come (l.take (k+1))) gw X (B++(.grow 0 1 ((u.seen.set a true).map eB):: .grow (g1+1) 1 (t1.take u.todo.length++[[Z64 a]]):: .grow gw 1 (u.weak.map eN):: .box (rwC B.length i u.seen.length (g1+1) (u.todo.length+1) gw u.weak.length)::(X1++Y))):=fun Y=>by
    rw[HW.out,hp];refine⟨g1+1,t1.take u.todo.length++[[Z64 a]],Y1++Y,by rw[HX.out,M8];simp[RwH],⟨by simp;have:=HT1.out.1;omega,?_⟩⟩;rw[I5 (by simp;omega),HT1.out.2];simp
   clear same hsd hs hp htl;with_reducible repeat' first|simp only[zQ,seval,X0,jai,jeM,hlX,hl3,hv,e0,d0,st0,ap, *]|simp only[jab]|apply P3|intro _
 ·rintro s' h' hI ⟨f0,f6,-⟩
  rw[I5 (V2 _)] at hI;have fin:=FI.out h' hI;clear hI;with_reducible repeat' first|simp only[zQ,seval,X0,r0, *]|simp only[jab]|apply P3|intro _
end
section
open Go Go.RowKit
variable {tb:List (FuncId×Bool)}{nd:Bool}{L:Nat→Bool}{B H X:ZH}{K:ZV→ZH→Prop}{i:Nat}{l:List FrT}
def Rw.frame (w:Rw)(f:FrT):Rw:=if 0≤f.gen then ((w.come [f.self]).come f.regs).come [(5,f.gen)] else (w.come [f.self]).come f.regs
def Rw.frames (w:Rw)(l:List FrT):Rw:=l.foldl Rw.frame w
theorem Rw.frame_key (w:Rw)(f:FrT):(w.frame f).key=w.key∧(w.frame f).seen.length=w.seen.length∧(w.frame f).weak=w.weak:=by
 have h1:=Rw.come_key [f.self] w;have h2:=Rw.come_key f.regs (w.come [f.self]);have h3:=Rw.come_key [(5,f.gen)] ((w.come [f.self]).come f.regs);unfold Rw.frame;split
 ·exact⟨h3.1.trans (h2.1.trans h1.1),h3.2.1.trans (h2.2.1.trans h1.2.1),h3.2.2.trans (h2.2.2.trans h1.2.2)⟩
 ·exact⟨h2.1.trans h1.1,h2.2.1.trans h1.2.1,h2.2.2.trans h1.2.2⟩
theorem Rw.frames_key (l:List FrT): ∀w:Rw,(w.frames l).key=w.key∧(w.frames l).seen.length=w.seen.length∧(w.frames l).weak=w.weak:=by
 induction l with
 |nil=>exact fun w=>⟨rfl,rfl,rfl⟩
 |cons v l ih=>
  intro w;have h1:=ih (w.frame v);have h2:=w.frame_key v;exact⟨h1.1.trans h2.1,h1.2.1.trans h2.2.1,h1.2.2.trans h2.2.2⟩
theorem joC {w:Rw}{v:FrT}:w.frames (l++[v])=(w.frames l).frame v:=by unfold Rw.frames;rw[O0l];rfl
def FrIn (n:Nat)(f:FrT):Prop:=jfD n [f.self]∧jfD n f.regs∧(0≤f.gen→jfD n [(5,f.gen)])∧f.regs.length≤100000000000000
theorem jmR {ex:Bool}{w:Rw}{gt gw:Nat}{td:List (List ZV)}(hL: ∀k,L (B.length+k)=true)(hin: ∀f∈l,FrIn w.seen.length f)(hb:l.length≤100000000000000)(hk:w.key≤100000)(ht:TdOk td w.todo)
  (hK: ∀h',RwI B i (w.frames l) gw X h'→K .no h'):
  ZC (XC tb nd) (jag Tryz.prog) 36 [.ptr (B.length+3) 0,.fz 8 ex (l.map eFr)] L (RwH B i w gt td gw X) K:=by
 refine K6 Gh.no (jaf (by decide)) joL (by simp) fun hLn=>?_
 simp only[jjc,kkP];have HL:=Z4 hL;have HIN:=Z4 hin;have HKK:=Z4 hk;have FI:=Z4 (show ∀h',RwI B i (w.frames l) gw X h'→Fin (RwH B i w gt td gw X) .no h' K from fun h' h=>Fin.keep (hK h' h));have HT:=Z4 ht;have r0: ∀(S:ZS) (h:ZH),jcn S h []=some .no:=fun _ _=>rfl
 clear hL hin hk hK ht hLn;with_reducible repeat' first|simp only[zQ,seval,X0, *]|simp only[jab]|apply P3|intro _
 refine jaK [(0,.ptr (B.length+3) 0),(6,.fz 8 ex (l.map eFr))] l.length (fun k s' h'=>RwI B i (w.frames (l.take k)) gw X h') (by omega) ⟨rfl,rfl,rfl,rfl,rfl,rfl⟩ rfl rfl (by repeat' (first|exact trivial|(refine⟨rfl,?_⟩)|(refine⟨by simp only[jaj,X4,reduceIte];assumption,?_⟩))) rfl rfl (by decide) ⟨gt,td,[],by rw[A0];rfl,HT.out⟩ ?_ ?_
 ·rintro k s' h' hkl ⟨g1,t1,Y1,rfl,ht1⟩ hi hln ⟨f0,f6,-⟩
  obtain⟨f,hv⟩: ∃v,l[k]?=some v:=⟨_,U1 hkl⟩;have hin:=HIN.out f (R5 hv);have htk:l.take (k+1)=l.take k++[f]:=by
   rw[X5 hkl];have:=U1 hkl;rw[hv] at this;injection this with this;rw[←this]
  have hwn:w.frames (l.take (k+1))=(w.frames (l.take k)).frame f:=by rw[htk,joC]
  have hck:=Rw.frames_key (l.take k) w;obtain⟨X1,hX1⟩: ∃X1,X1=X++Y1:=⟨_,rfl⟩;rw[←hX1];have HX:=Z4 hX1;clear hX1;obtain⟨u,hu⟩: ∃u,u=w.frames (l.take k):=⟨_,rfl⟩;rw[←hu] at hwn hck ht1;rw[←hu];have hlX:L (B.length+(X1.length+1+1+1+1))=true:=HL.out _;have HT1:=Z4 ht1;have HW:=Z4 hwn;have HC:=Z4 hck;rw[←hck.2.1] at hin;have hke:u.key≤100000:=by rw[hck.1];exact HKK.out
  have HKE:=Z4 hke;have HI:=Z4 hin;clear hu ht1 hwn hck htk hin hke;with_reducible repeat' first|simp only[zQ,seval,X0,jai,jeM,hlX,hv, *]|simp only[jab]|apply P3|intro _
  refine jfm (l:=[f.self]) (X:=X1++[.box (eFr f)]) HL.out HI.out.1 (by simp) HKE.out HT1.out fun h2 hI2=>?_
  obtain⟨g2,t2,Y2,rfl,ht2⟩:=hI2;have hc2:=Rw.come_key [f.self] u;obtain⟨u2,hu2⟩: ∃u2,u2=u.come [f.self]:=⟨_,rfl⟩;rw[←hu2] at ht2 hc2;rw[←hu2];have HU2:=Z4 hu2;have HC2:=Z4 hc2;have HT2:=Z4 ht2;clear hu2 hc2 ht2;with_reducible repeat' first|simp only[zQ,seval,X0,jai,jeM,hlX, *]|simp only[jab]|apply P3|intro _
  refine jfm (l:=f.regs) (X:=X1++(.box (eFr f)::Y2)) HL.out (by rw[HC2.out.2.1];exact HI.out.2.1) HI.out.2.2.2 (by rw[HC2.out.1];exact HKE.out) HT2.out fun h3 hI3=>?_
  obtain⟨g3,t3,Y3,rfl,ht3⟩:=hI3;have hc3:=Rw.come_key f.regs u2;obtain⟨u3,hu3⟩: ∃u3,u3=u2.come f.regs:=⟨_,rfl⟩;rw[←hu3] at ht3 hc3;rw[←hu3];have HU3:=Z4 hu3;have HC3:=Z4 hc3;have HT3:=Z4 ht3;clear hu3 hc3 ht3;by_cases hg:0≤f.gen
  ·with_reducible repeat' first|simp only[zQ,seval,X0,jai,jeM,hlX,hg, *]|simp only[jab]|apply P3|intro _
   refine jfm (l:=[(5,f.gen)]) (X:=X1++(.box (eFr f)::(Y2++Y3))) HL.out (by rw[HC3.out.2.1,HC2.out.2.1];exact HI.out.2.2.1 hg) (by simp) (by rw[HC3.out.1,HC2.out.1];exact HKE.out) HT3.out fun h4 hI4=>?_
   have fin:RwI B i (w.frames (l.take (k+1))) gw X h4:=by
    rw[HX.out,M8] at hI4;rw[HW.out,Rw.frame,if_pos hg,← HU2.out,← HU3.out];exact hI4.trans
   clear hI4;with_reducible repeat' first|simp only[zQ,seval,X0, *]|simp only[jab]|apply P3|intro _
  ·have fin:RwI B i (w.frames (l.take (k+1))) gw X (RwH B i u3 g3 t3 gw (X1++(.box (eFr f)::(Y2++Y3)))):=by
    rw[HX.out,HW.out,Rw.frame,if_neg hg,← HU2.out,← HU3.out];exact⟨g3,t3,Y1++(.box (eFr f)::(Y2++Y3)),by rw[M8],HT3.out⟩
   with_reducible repeat' first|simp only[zQ,seval,X0,jai,jeM,hlX,hg, *]|simp only[jab]|apply P3|intro _
 ·rintro s' h' hI ⟨f0,f6,-⟩
  rw[I5 (V2 _)] at hI;have fin:=FI.out h' hI;clear hI;with_reducible repeat' first|simp only[zQ,seval,X0,r0, *]|simp only[jab]|apply P3|intro _
end
section
open Go Go.RowKit
variable {tb:List (FuncId×Bool)}{nd:Bool}{L:Nat→Bool}{B H X:ZH}{K:ZV→ZH→Prop}{i:Nat}{s:StT}
def Rw.turn (cs:List CeT)(w:Rw):Rw:=match w.todo.getLast? with
  |none=>w
  |some n=>match cs[n]? with
    |none=>{ w with todo:=w.todo.dropLast }
    |some c=>if c.kind=7 then { w with todo:=w.todo.dropLast,weak:=w.weak++[n] } else (({ w with todo:=w.todo.dropLast }:Rw).come c.vals).frames c.frs
def Rw.run (cs:List CeT):Nat→Rw→Rw
  |0,w=>w
  |k+1,w=>if w.todo=[] then w else Rw.run cs k (w.turn cs)
structure Rw.Ok (n:Nat)(w:Rw):Prop where
  seen:w.seen.length=n
  todo: ∀a∈w.todo,a<n
  weak: ∀a∈w.weak,a<n
theorem Rw.Ok.put {n:Nat}{w:Rw}(h:w.Ok n){v:Int×Int}(hv:v.1=5→ ∃a:Nat,v.2=a∧a<n):(w.put v).Ok n:=by
 unfold Rw.put;split
 ·rename_i h1
  obtain⟨a,e,ha⟩:=hv h1.1;refine⟨by simp[h.seen],fun b hb=>?_,h.weak⟩;rcases O3.1 hb with hb|hb
  ·exact h.todo b hb
  ·rw[X6.1 hb,e,O0f];exact ha
 ·exact h
theorem Rw.Ok.come {n:Nat}{l:List (Int×Int)}: ∀{w:Rw},w.Ok n→jfD n l→(w.come l).Ok n:=by
 induction l with
 |nil=>exact fun h _=>h
 |cons v l ih=>exact fun h hv=>ih (h.put (hv v O0h)) fun x hx=>hv x (O0i _ hx)
theorem Rw.Ok.frame {n:Nat}{w:Rw}{f:FrT}(h:w.Ok n)(hf:FrIn n f):(w.frame f).Ok n:=by
 unfold Rw.frame;have h1:=(h.come hf.1).come hf.2.1;split
 ·rename_i hg;exact h1.come (hf.2.2.1 hg)
 ·exact h1
theorem Rw.Ok.frames {n:Nat}{l:List FrT}: ∀{w:Rw},w.Ok n→(∀f∈l,FrIn n f)→(w.frames l).Ok n:=by
 induction l with
 |nil=>exact fun h _=>h
 |cons v l ih=>exact fun h hv=>ih (h.frame (hv v O0h)) fun x hx=>hv x (O0i _ hx)
def CeIn (n:Nat)(c:CeT):Prop:=jfD n c.vals∧(∀f∈c.frs,FrIn n f)∧c.vals.length≤100000000000000∧c.frs.length≤100000000000000
theorem Rw.Ok.pop {n a:Nat}{w:Rw}(h:w.Ok n)(ha:w.todo.getLast?=some a):a<n∧({ w with todo:=w.todo.dropLast }:Rw).Ok n∧({ w with todo:=w.todo.dropLast }:Rw).key+1=w.key:=by
 have hm:a∈w.todo:=List.mem_of_getLast? ha;refine⟨h.todo a hm,⟨h.seen,fun b hb=>h.todo b (M6 (by rw[List.dropLast_eq_take] at hb;exact hb)),h.weak⟩,?_⟩;have:0<w.todo.length:=List.length_pos_of_mem hm;simp only[Rw.key,List.length_dropLast];omega
theorem Rw.turn_ok {cs:List CeT}{w:Rw}{n:Nat}(h:w.Ok n)(hc: ∀c∈cs,CeIn n c)(hn:cs.length=n)(ht:w.todo≠[]):(w.turn cs).Ok n∧(w.turn cs).key+1=w.key∧(w.turn cs).weak.length+(w.turn cs).key≤w.weak.length+w.key:=by
 obtain⟨a,ha⟩: ∃a,w.todo.getLast?=some a:=⟨_,O0m ht⟩;obtain⟨han,h1,hk⟩:=h.pop ha;unfold Rw.turn;rw[ha];obtain⟨c,hca⟩: ∃c,cs[a]?=some c:=⟨_,U1 (by omega)⟩;have hci:=hc c (R5 hca);simp only[hca];split
 ·refine⟨⟨h1.seen,h1.todo,fun b hb=>?_⟩,hk,?_⟩
  ·rcases O3.1 hb with hb|hb
   ·exact h1.weak b hb
   ·rw[X6.1 hb];exact han
  ·simp only[Rw.key,G3,Q3,G9] at hk ⊢;omega
 ·have k1:=Rw.come_key c.vals { w with todo:=w.todo.dropLast }
  have k2:=Rw.frames_key c.frs (({ w with todo:=w.todo.dropLast }:Rw).come c.vals);refine⟨(h1.come hci.1).frames hci.2.1,by rw[k2.1,k1.1];exact hk,?_⟩;rw[k2.1,k1.1,k2.2.2,k1.2.2];show w.weak.length+_≤_;omega
theorem Rw.run_on {cs:List CeT}{w:Rw}{k:Nat}(ht:w.todo≠[]):Rw.run cs (k+1) w=Rw.run cs k (w.turn cs):=by
 show (if w.todo=[] then w else _)=_;rw[if_neg ht]
theorem Rw.run_off {cs:List CeT}{w:Rw}(ht:w.todo=[]): ∀k,Rw.run cs k w=w
 |0=>rfl
 |k+1=>by show (if w.todo=[] then w else _)=_;rw[if_pos ht]
def RwJ (B:ZH)(i:Nat)(w:Rw)(h':ZH):Prop:= ∃gt td gw X,h'=RwH B i w gt td gw X∧TdOk td w.todo
theorem RwI.J {w:Rw}{gw:Nat}{h':ZH}(h:RwI B i w gw X h'):RwJ B i w h':=by
 obtain⟨gt,td,Y,e,ht⟩:=h;exact⟨gt,td,gw,X++Y,e,ht⟩
def AllI (B:ZH)(i:Nat)(cs:List CeT)(n:Nat)(w0:Rw)(k:Nat)(h':ZH):Prop:= ∃u,RwJ B i u h'∧u.Ok n∧u.key=k∧u.weak.length+u.key≤90000∧Rw.run cs u.key u=Rw.run cs w0.key w0
theorem rall_z {w:Rw}{gt gw:Nat}{td:List (List ZV)}(hs:B[i]?=some (.box (eS s)))(hL: ∀k,L (B.length+k)=true)(hc: ∀c∈s.cells,CeIn s.cells.length c)(ok:w.Ok s.cells.length)(hk:w.weak.length+w.key≤90000)(ht:TdOk td w.todo)
  (hK: ∀h',RwJ B i (Rw.run s.cells w.key w) h'→K .no h'):
  ZC (XC tb nd) (jag Tryz.prog) 38 [.ptr (B.length+3) 0] L (RwH B i w gt td gw X) K:=by
 refine K6 Gh.no (jaf (by decide)) f_rc_all (by simp) fun hLn=>?_
 simp only[jqD,kkP];have hI:AllI B i s.cells s.cells.length w w.key (RwH B i w gt td gw X):=⟨w,⟨gt,td,gw,X,rfl,ht⟩,ok,rfl,hk,rfl⟩;have r0: ∀(S:ZS) (h:ZH),jcn S h []=some .no:=fun _ _=>rfl
 have FI:=Z4 (show ∀h',RwJ B i (Rw.run s.cells w.key w) h'→Fin (RwH B i w gt td gw X) .no h' K from fun h' h=>Fin.keep (hK h' h));have HL:=Z4 hL;have HC:=Z4 hc;have hl2:L (B.length+2)=true:=hL 2;have hl3:L (B.length+3)=true:=hL 3;have hgB:=jax hs;obtain⟨H0,hH0⟩: ∃H0,H0=RwH B i w gt td gw X:=⟨_,rfl⟩;rw[←hH0] at hI FI ⊢;clear hK ok hk ht hL hc hLn hH0 hs;with_reducible repeat' first|simp only[zQ,seval,X0, *]|simp only[jab]|apply P3|intro _
 refine jcV [(0,.ptr (B.length+3) 0)] w.key (fun k s' h'=>AllI B i s.cells s.cells.length w k h') (by repeat' (first|exact trivial|(refine⟨rfl,?_⟩)|(refine⟨by simp only[jaj,X4,reduceIte];assumption,?_⟩))) rfl hI ?_;clear hI;rintro k s' h' ⟨u,⟨g1,t1,gw1,X1,rfl,ht⟩,ok,rfl,hk,hr⟩ ⟨f0,-⟩;by_cases h1:u.todo=[]
 ·have hl:(u.todo.length:Int)=0:=by rw[h1];rfl
  have hlt: ¬(0:Int)<0:=by omega
  rw[Rw.run_off h1] at hr;have fin:=FI.out (RwH B i u g1 t1 gw1 X1) (by rw[←hr];exact⟨g1,t1,gw1,X1,rfl,ht⟩);clear h1 hr hk ok ht;with_reducible repeat' first|simp only[zQ,seval,X0,jai,hl,hlt,r0, *]|simp only[jab]|apply P3|intro _
 have hl:(0:Int)<(u.todo.length:Int):=by have:=X9.2 h1;omega
 obtain⟨a,ha⟩: ∃a,u.todo.getLast?=some a:=⟨_,O0m h1⟩;obtain⟨han,ok2,hkey⟩:=ok.pop ha;have htn:=Rw.turn_ok ok HC.out rfl h1;have hlen:0<u.todo.length:=X9.2 h1;have hgl:t1[u.todo.length - 1]?=some [Z64 (a:Int)]:=by
  have e1:(t1.take u.todo.length)[u.todo.length - 1]?=some [Z64 (a:Int)]:=by
   rw[ht.2,U8];rw[List.getLast?_eq_getElem?] at ha;rw[ha];rfl
  rwa [List.getElem?_take_of_lt (by omega)] at e1
 have hw:IntKind.i64.wrap ((u.todo.length:Int) - 1)=((u.todo.length - 1:Nat):Int):=by
  have:u.todo.length≤u.key:=by unfold Rw.key;omega
  rw[jbn (by omega) (by omega)];omega
 have e2: ∀P Y,jdd (B++(P:: .grow g1 1 t1::Y)) 1 (u.todo.length - 1) (.own (B.length+1) g1 0 u.todo.length false)=some (.eptr (B.length+1) g1 (u.todo.length - 1) 0):=fun P Y=>by
  rw[jbQ];exact⟨_,jeF,by have:=ht.1;omega,by omega,by simp⟩
 have d2: ∀P Y,ldZ (B++(P:: .grow g1 1 t1::Y)) none (.eptr (B.length+1) g1 (u.todo.length - 1) 0)=some (Z64 (a:Int)):=fun P Y=>by
  rw[jbS];exact⟨_,_,[Z64 (a:Int)],jeF,hgl,rfl⟩
 have ct: ∀P Y,cutZ (B++(P:: .grow g1 1 t1::Y)) 1 0 (u.todo.length - 1) u.todo.length (none:Option Opd).isSome (.own (B.length+1) g1 0 u.todo.length false)=some (.own (B.length+1) g1 0 (u.todo.length - 1) false):=fun P Y=>by
  simp only[cutZ,jeF];rw[if_pos ⟨trivial,trivial,by omega,by omega,by omega,by have:=ht.1;omega⟩];simp
 have nn:natZ (Z64 ((u.todo.length - 1:Nat):Int))=some (u.todo.length - 1):=by simp[natZ]
 have na:natZ (Z64 (a:Int))=some a:=jgx;have edl:u.todo.length - 1=u.todo.dropLast.length:=by simp
 have EDL:=Z4 edl;obtain⟨q,hq⟩: ∃q,q=u.todo.length - 1:=⟨_,rfl⟩;rw[←hq] at hw e2 d2 ct nn;obtain⟨c,hca⟩: ∃c,s.cells[a]?=some c:=⟨_,U1 han⟩;have etn:u.turn s.cells=if c.kind=7 then { u with todo:=u.todo.dropLast,weak:=u.weak++[a] } else (({ u with todo:=u.todo.dropLast }:Rw).come c.vals).frames c.frs:=by
  unfold Rw.turn;rw[ha];simp only[hca]
 have hci:=HC.out c (R5 hca);have hrun:Rw.run s.cells u.key u=Rw.run s.cells (u.turn s.cells).key (u.turn s.cells):=by
  rw[show u.key=(u.turn s.cells).key+1 from htn.2.1.symm];exact Rw.run_on h1
 have nx: ∀h',RwJ B i (u.turn s.cells) h'→ ∃m,m<u.key∧AllI B i s.cells s.cells.length w m h':=fun h' h=>⟨_,by have:=htn.2.1;omega,u.turn s.cells,h,htn.1,rfl,by have:=htn.2.2;omega,by rw[←hrun];exact hr⟩
 have hlX:L (B.length+(X1.length+1+1+1+1))=true:=HL.out _;have HQ:=Z4 hq;have HT:=Z4 ht;have HOK:=Z4 ok2;have HE:=Z4 etn;have HCI:=Z4 hci;have NX:=Z4 nx;have HKE:=Z4 hkey;have HKK:=Z4 hk;clear hq edl hgl hlen hrun etn htn hkey ok2 ha ok ht h1 hr hk hci nx;by_cases h7:c.kind=7
 ·have ap: ∀P Q Y,appZ L (B++(P::Q:: .grow gw1 1 (u.weak.map eN)::Y)) 1 8 [[Z64 (a:Int)]] (.own (B.length+2) gw1 0 u.weak.length false)=some (.own (B.length+2) (gw1+1) 0 (u.weak.length+1) false,B++(P::Q:: .grow (gw1+1) 1 ((u.weak++[a]).map eN)::Y)):=fun P Q Y=>by
   rw[jcU];refine⟨_,jfV,by simp,by have:=HKK.out;unfold reach;simp;omega,hl2,rfl,?_⟩;rw[jjF,W1,I5 (by simp),L3];rfl
  have fin : ∀ Y, ∃ m, m < u.key ∧ AllI B i s.cells s.cells.length w m (B ++ (.grow 0 1 (u.seen.map eB) :: .grow g1 1 t1 :: .grow (gw1 + 1) 1 ((u.weak ++ [a]).map eN) :: .box (rwC B.length i u.seen.length g1 q (gw1 + 1) (u.weak.length + 1)) :: Y)) := fun Y => NX.out _ (by
   rw[HE.out,if_pos h7];exact⟨g1,t1,gw1+1,Y,by rw[HQ.out,EDL.out];simp[RwH],HT.out.pop⟩)
  with_reducible repeat' first|simp only[zQ,seval,X0,jai,jeM,hlX,hl3,hl,hgB,hw,e2,d2,ct,nn,na,num0,num1,Q9,hca,han,h7,ap, *]|simp only[jab]|apply P3|intro _
 ·with_reducible repeat' first|simp only[zQ,seval,X0,jai,jeM,hlX,hl3,hl,hgB,hw,e2,d2,ct,nn,na,num0,num1,Q9,hca,han,h7, *]|simp only[jab]|apply P3|intro _
  rw[show q=u.todo.dropLast.length from HQ.out.trans EDL.out];refine jfm (l:=c.vals) (w:={ u with todo:=u.todo.dropLast }) (X:=X1++[.box (eCe c)]) HL.out (by rw[HOK.out.seen];exact HCI.out.1) HCI.out.2.2.1 (by have:=HKE.out;have:=HKK.out;omega) HT.out.pop fun h2 hI2=>?_
  obtain⟨g2,t2,Y2,rfl,ht2⟩:=hI2;have hc2:=Rw.come_key c.vals { u with todo:=u.todo.dropLast };obtain⟨u2,hu2⟩: ∃u2,u2=({ u with todo:=u.todo.dropLast }:Rw).come c.vals:=⟨_,rfl⟩;rw[←hu2] at ht2 hc2;rw[←hu2];have HU2:=Z4 hu2;have HC2:=Z4 hc2;have HT2:=Z4 ht2;clear hu2 hc2 ht2 ct e2 d2 nn na hw hl;with_reducible repeat' first|simp only[zQ,seval,X0,jai,jeM,hlX, *]|simp only[jab]|apply P3|intro _
  refine jmR (l:=c.frs) (X:=X1++(.box (eCe c)::Y2)) HL.out (by rw[HC2.out.2.1,HOK.out.seen];exact HCI.out.2.1) HCI.out.2.2.2 (by rw[HC2.out.1];have:=HKE.out;have:=HKK.out;omega) HT2.out fun h3 hI3=>?_
  have fin : ∃ m, m < u.key ∧ AllI B i s.cells s.cells.length w m h3 := NX.out h3 (by
   rw[HE.out,if_neg h7,← HU2.out];exact hI3.J)
  clear hI3;with_reducible repeat' first|simp only[zQ,seval,X0, *]|simp only[jab]|apply P3|intro _
end
section
open Go Go.RowKit
variable {tb:List (FuncId×Bool)}{nd:Bool}{L:Nat→Bool}{B H X:ZH}{K:ZV→ZH→Prop}{i:Nat}{s:StT}
def WkOk (cs:List CeT)(w:Rw):Prop:= ∀a∈w.weak,∃ c,cs[a]?=some c∧c.kind=7
theorem WkOk.of {cs:List CeT}{w u:Rw}(h:WkOk cs w)(e:u.weak=w.weak):WkOk cs u:=fun a ha=>h a (e▸ha)
theorem WkOk.turn {cs:List CeT}{w:Rw}(h:WkOk cs w):WkOk cs (w.turn cs):=by
 unfold Rw.turn;split
 ·exact h
 ·split
  ·exact h
  ·rename_i n _ c hc
   split
   ·rename_i h7
    intro a ha;rcases O3.1 ha with ha|ha
    ·exact h a ha
    ·rw[X6.1 ha];exact⟨c,hc,h7⟩
   ·exact h.of ((Rw.frames_key c.frs _).2.2.trans (Rw.come_key c.vals _).2.2)
theorem Rw.run_ok {cs:List CeT}{n:Nat}(hc: ∀c∈cs,CeIn n c)(hn:cs.length=n): ∀(k:Nat) (w:Rw),w.Ok n→WkOk cs w→(Rw.run cs k w).Ok n∧WkOk cs (Rw.run cs k w)∧(Rw.run cs k w).weak.length+(Rw.run cs k w).key≤w.weak.length+w.key∧(Rw.run cs k w).key≤w.key∧(w.todo≠[]→0<k→(Rw.run cs k w).key<w.key)∧(w.key≤k→(Rw.run cs k w).todo=[])
 | 0, w, h, hw => ⟨h, hw, V2 _, V2 _, fun _ h => absurd h (by omega), fun hk => by
  have:w.todo.length=0:=by unfold Rw.key at hk;omega
  exact List.eq_nil_of_length_eq_zero this⟩
 |k+1,w,h,hw=>by
  by_cases ht:w.todo=[]
  ·rw[Rw.run_off ht]
   exact⟨h,hw,V2 _,V2 _,fun h=>absurd ht h,fun _=>ht⟩
  ·rw[Rw.run_on ht]
   obtain⟨h1,h2,h3⟩:=Rw.turn_ok h hc hn ht;obtain⟨r1,r2,r3,r4,r5,r6⟩:=Rw.run_ok hc hn k _ h1 hw.turn;exact⟨r1,r2,by omega,by omega,fun _ _=>by omega,fun hk=>r6 (by omega)⟩
def jhg:jam:= .block 4 (.loop (.seq (kks [kkM 28 6,kkM 29 5,kkH 30 29,kkB 31 .lss 28 (kkt 30)] (.cond (kkt 31) .skip (.exit 4))) (.seq (.block 5 (kkd [kkM 34 0,kkN 35 34,kkA 36 1 35,kkL 37 36,kkM 38 5,kkM 39 6,kkX 40 2 38 39,kkA 41 1 40,kkL 42 41,kkX 43 1 37 42,kkL 44 43] (.cond (kkt 44) (.ops [kkM 45 0,kkM 46 5,kkM 47 6,kkB 48 .add 47 (kkV 1),kkX 49 2 46 48,kkQ 50 2 49,kkI 51 (.lits 2 1 [kkZ 0,kkZ 0] [(0,2,(kkt 50))]),kkC 52 37 [kkt 45,kkt 51]]) .skip))) (.ops [kkM 32 6,kkB 33 .add 32 (kkV 2),kkM 6 33]))))
def jnF:jam:=kks [kkI 2 (.mv kky)] (.block 0 (.loop (.seq (kks [kkM 7 2] (.cond (kkt 7) .skip (.exit 0))) (.block 1 (kks [kkI 2 (.mv kkn)] (.seq (kks [kkM 8 0,kkN 9 8,kkA 10 3 9,kkL 11 10,kkH 12 11,kkK 13 0] (jau 2 3 14 13 12 53 (kks [kkX 15 1 11 13,kkL 16 15,kkM 4 16] (kks [kkM 17 0,kkN 18 17,kkA 19 0 18,kkL 20 19,kkN 21 20,kkA 22 0 21,kkL 23 22,kkM 24 4,kkX 25 4 23 24,kkA 26 2 25,kkL 27 26,kkM 5 27] (kks [kkK 6 0] jhg))))) (kks [kkM 54 0,kkN 55 54,kkA 56 2 55,kkL 57 56,kkH 58 57,kkB 59 .gtr 58 (kkV 0)] (.cond (kkt 59) (kks [kkI 2 (.mv kky)] (.ops [kkM 60 0,kkC 61 38 [kkt 60]])) .skip))))))))
theorem juI:jag Tryz.prog 39=some ⟨62,jnF,[]⟩:=by kernel_rfl
def KIv (B:ZH)(i gw:Nat)(X:ZH)(m len:Nat)(w:Rw)(n:Nat)(s':ZS)(h':ZH):Prop:= ∃(j:Nat) (u:Rw),s' 6=Z64 (j:Int)∧j % 2=0∧j≤len+1∧RwI B i u gw X h'∧u.Ok m∧u.key=w.key∧u.weak=w.weak∧n=len+2 - j
theorem keysI_z {c:CeT}{S:ZS}{KK:jaA→ZS→ZH→Prop}{w:Rw}{gt gw:Nat}{td:List (List ZV)}(hL: ∀k,L (B.length+k)=true)(hc:jfD s.cells.length c.vals)(hlen:c.vals.length≤600)(hwk:jjB c.vals)(ok:w.Ok s.cells.length)(hk:w.weak.length+w.key≤90000)(ht:TdOk td w.todo)
  (h0:S 0= .ptr (B.length+3) 0) (h5:S 5= .fz 2 false (c.vals.map eVl)) (h6:S 6=Z64 0)
  (hn: ∀S' h' u,RwI B i u gw X h'→u.Ok s.cells.length→u.key=w.key→u.weak=w.weak→KK .normal S' h'):
  zW (XC tb nd) (jag Tryz.prog) Gh.no L jhg S (RwH B i w gt td gw X) KK:=by
 simp only[jhg,kkP];have HL:=Z4 hL;have HC:=Z4 hc;have HWK:=Z4 hwk;have HN:=Z4 hn;have hI:KIv B i gw X s.cells.length c.vals.length w (c.vals.length+2) S (RwH B i w gt td gw X):=
  ⟨0,w,h6,rfl,by omega,⟨gt,td,[],by rw[A0],ht⟩,ok,rfl,rfl,rfl⟩
 have HKK:=Z4 hk;obtain⟨H0,hH0⟩: ∃H0,H0=RwH B i w gt td gw X:=⟨_,rfl⟩;rw[←hH0] at hI ⊢;clear hL hc hwk hn ok hk ht hH0;with_reducible repeat' first|simp only[zQ,seval,X0, *]|simp only[jab]|apply P3|intro _
 refine jcV [(0,.ptr (B.length+3) 0),(5,.fz 2 false (c.vals.map eVl))] (c.vals.length+2) (fun n s' h'=>KIv B i gw X s.cells.length c.vals.length w n s' h') ⟨h0,h5,trivial⟩ rfl hI ?_;clear hI;rintro n s' h' ⟨j,u,f6,hj2,hjl,⟨g1,t1,Y1,rfl,ht⟩,ok,hke,hwe,rfl⟩ ⟨f0,f5,-⟩;obtain⟨X1,hX1⟩: ∃X1,X1=X++Y1:=⟨_,rfl⟩;rw[←hX1];by_cases hj:(j:Int)<(c.vals.length:Int)
 case neg=>
  have fin:=fun S'=>HN.out S' (RwH B i u g1 t1 gw X1) u ⟨g1,t1,Y1,by rw[hX1],ht⟩ ok hke hwe
  clear hX1 ht ok hke hwe;with_reducible repeat' first|simp only[zQ,seval,X0,jai,hj, *]|simp only[jab]|apply P3|intro _
 have hjn:j<c.vals.length:=by omega
 obtain⟨⟨d,x⟩,hv⟩: ∃v,c.vals[j]?=some v:=⟨_,U1 hjn⟩;have hd:d=5:=HWK.out.2 j (d,x) hjn hj2 hv;subst hd;obtain⟨a,rfl,ha⟩:=HC.out (5,x) (R5 hv) rfl;have hal:a<u.seen.length:=by rw[ok.seen];exact ha
 obtain⟨b,hs⟩: ∃b,u.seen[a]?=some b:=⟨_,U1 hal⟩;have e0: ∀Y,jdd (B++(.grow 0 1 (u.seen.map eB)::Y)) 1 a (.own B.length 0 0 u.seen.length true)=some (.eptr B.length 0 a 0):=fun Y=>by
  rw[jbQ];exact⟨_,jcr,by simp,hal,by simp⟩
 have d0: ∀Y,ldZ (B++(.grow 0 1 (u.seen.map eB)::Y)) none (.eptr B.length 0 a 0)=some (ZBo b):=fun Y=>by
  rw[jbS];exact⟨_,_,eB b,jcr,by rw[U8,hs];rfl,rfl⟩
 have w2:IntKind.i64.wrap ((j:Int)+2)=((j+2:Nat):Int):=by rw[jbn (by omega) (by omega)];omega
 have w1:IntKind.i64.wrap ((j:Int)+1)=((j+1:Nat):Int):=by rw[jbn (by omega) (by omega)];omega
 have hj1:j+1<c.vals.length:=by have:=HWK.out.1;omega
 obtain⟨y,hy⟩: ∃v,c.vals[j+1]?=some v:=⟨_,U1 hj1⟩;have hny:jfD s.cells.length [y]:=fun v hv2=>by rw[X6.1 hv2];exact HC.out y (R5 hy)
 have nx: ∀(S':ZS) h' u2,S' 6=Z64 ((j+2:Nat):Int)→RwI B i u2 gw X h'→u2.Ok s.cells.length→u2.key=u.key→u2.weak=u.weak→ ∃m,m<c.vals.length+2 - j∧KIv B i gw X s.cells.length c.vals.length w m S' h':=fun S' h' u2 q1 q2 q3 q4 q5=>⟨c.vals.length+2 - (j+2),by omega,j+2,u2,q1,by omega,by omega,q2,q3,q4.trans hke,q5.trans hwe,rfl⟩
 have NX:=Z4 nx;have OK:=Z4 ok;have HT:=Z4 ht;have HY:=Z4 hny;have HX:=Z4 hX1;have HKU:=Z4 (show u.key≤100000 by have:=HKK.out;omega);clear nx ok ht hny hX1 hs hke hwe hjl hj2
 cases b with
 |false=>
  with_reducible repeat' first|simp only[zQ,seval,X0,jai,hj,hjn,hv,e0,d0,w2, *]|simp only[jab]|apply P3|intro _
  all_goals exact NX.out _ _ u (by simp only[jaj,X4,reduceIte]) ⟨g1,t1,Y1,by rw[HX.out],HT.out⟩ OK.out rfl rfl
 |true=>
  with_reducible repeat' first|simp only[zQ,seval,X0,jai,hj,hjn,hv,e0,d0,w1,hj1,hy, *]|simp only[jab]|apply P3|intro _
  refine jfm (l:=[y]) HL.out (by rw[OK.out.seen];exact HY.out) (by simp) HKU.out HT.out fun h2 hI2=>?_
  have ck:=Rw.come_key [y] u;have fin:=fun S' h6=>NX.out S' h2 (u.come [y]) h6 (by rw[HX.out] at hI2;exact hI2.trans) (OK.out.come HY.out) ck.1 ck.2.2
  clear hI2 ck;with_reducible repeat' first|simp only[zQ,seval,X0,w2, *]|simp only[jab]|apply P3|intro _
  all_goals exact fin _ (by simp only[jaj,X4,reduceIte])
end
section
open Go Go.RowKit
variable {tb:List (FuncId×Bool)}{nd:Bool}{L:Nat→Bool}{B H X:ZH}{K:ZV→ZH→Prop}{i:Nat}{s:StT}
def KyI (B:ZH)(i:Nat)(s:StT)(w0:Rw)(n:Nat)(s':ZS)(h':ZH):Prop:= ∃(u:Rw) (b:Bool),s' 2=ZBo b∧RwJ B i u h'∧u.Ok s.cells.length∧WkOk s.cells u∧u.todo=[]∧u.weak.length+u.key≤90000∧(w0.weak=[]→u=w0)∧n=2*u.key+(if b=true then 1 else 0)
def KwI (B:ZH)(i gw:Nat)(X:ZH)(m:Nat)(u:Rw)(k:Nat)(h':ZH):Prop:= ∃u2,RwI B i u2 gw X h'∧u2.Ok m∧u2.key=u.key∧u2.weak=u.weak∧(k=0→u2=u)
theorem rkeys_z {w:Rw}{gt gw:Nat}{td:List (List ZV)}(hs:B[i]?=some (.box (eS s)))(hL: ∀k,L (B.length+k)=true)(hc: ∀c∈s.cells,CeIn s.cells.length c)(hwc: ∀c∈s.cells,c.kind=7→jjB c.vals)(hv6: ∀c∈s.cells,c.vals.length≤600)(ok:w.Ok s.cells.length)(hw:WkOk s.cells w)(htd:w.todo=[])(hk:w.weak.length+w.key≤90000)(ht:TdOk td w.todo)
  (hK: ∀u h',RwJ B i u h'→u.Ok s.cells.length→(w.weak=[]→u=w)→K .no h'):
  ZC (XC tb nd) (jag Tryz.prog) 39 [.ptr (B.length+3) 0] L (RwH B i w gt td gw X) K:=by
 refine K6 Gh.no (jaf (by decide)) juI (by simp) fun hLn=>?_
 simp only[jnF,kkP];have hI: ∀S:ZS,S 2=ZBo true→KyI B i s w (2*w.key+1) S (RwH B i w gt td gw X):=fun S h=>⟨w,true,h,⟨gt,td,gw,X,rfl,ht⟩,ok,hw,htd,hk,fun _=>rfl,rfl⟩
 have r0: ∀(S:ZS) (h:ZH),jcn S h []=some .no:=fun _ _=>rfl
 have FI:=Z4 (show ∀u h',RwJ B i u h'→u.Ok s.cells.length→(w.weak=[]→u=w)→Fin (RwH B i w gt td gw X) .no h' K from fun u h' h1 h2 h3=>Fin.keep (hK u h' h1 h2 h3));have HL:=Z4 hL;have HC:=Z4 hc;have HWC:=Z4 hwc;have HV6:=Z4 hv6;have HS:=Z4 hs;have hgB:=jax hs;obtain⟨H0,hH0⟩: ∃H0,H0=RwH B i w gt td gw X:=⟨_,rfl⟩;rw[←hH0] at hI FI ⊢;have HI:=Z4 hI;clear hK ok hw htd hk ht hL hc hwc hv6 hLn hH0 hs hI;with_reducible repeat' first|simp only[zQ,seval,X0, *]|simp only[jab]|apply P3|intro _
 refine jcV [(0,.ptr (B.length+3) 0)] (2*w.key+1) (fun n s' h'=>KyI B i s w n s' h') (by repeat' (first|exact trivial|(refine⟨rfl,?_⟩)|(refine⟨by simp only[jaj,X4,reduceIte];assumption,?_⟩))) rfl (HI.out _ (by simp only[jaj,X4,reduceIte])) ?_;rintro n s' h' ⟨u,b,f2,⟨g1,t1,gw1,X1,rfl,ht⟩,ok,hwk,htd,hk,hwe,rfl⟩ ⟨f0,-⟩
 cases b with
 |false=>
  have fin:=FI.out u (RwH B i u g1 t1 gw1 X1) ⟨g1,t1,gw1,X1,rfl,ht⟩ ok hwe;clear ht ok hwk htd hk hwe;with_reducible repeat' first|simp only[zQ,seval,X0,r0, *]|simp only[jab]|apply P3|intro _
 |true=>
 have HT:=Z4 ht;have OK:=Z4 ok;have WK:=Z4 hwk;have TD:=Z4 htd;have HK:=Z4 hk;have HE:=Z4 hwe;clear ht ok hwk htd hk hwe;with_reducible repeat' first|simp only[zQ,seval,X0,jai, *]|simp only[jab]|apply P3|intro _
 refine jaK [(0,.ptr (B.length+3) 0),(2,ZBo false),(11,.own (B.length+2) gw1 0 u.weak.length false)] u.weak.length (fun k s' h'=>KwI B i gw1 X1 s.cells.length u k h') (by have:=HK.out;omega) ⟨rfl,rfl,rfl,rfl,rfl,rfl⟩ rfl rfl (by repeat' (first|exact trivial|(refine⟨rfl,?_⟩)|(refine⟨by simp only[jaj,X4,reduceIte];assumption,?_⟩))) rfl rfl (by decide) ⟨u,⟨g1,t1,[],by rw[A0],HT.out⟩,OK.out,rfl,rfl,fun _=>rfl⟩ ?_ ?_
 ·rintro k s2 h2 hkl ⟨u2,⟨g2,t2,Y2,rfl,ht2⟩,ok2,hk2,hw2,h02⟩ hi hln ⟨f0,f2,f11,-⟩
  obtain⟨X2,hX2⟩: ∃X2,X2=X1++Y2:=⟨_,rfl⟩;rw[←hX2];have hkl2:k<u2.weak.length:=by rw[hw2];exact hkl
  obtain⟨a,ha⟩: ∃a,u2.weak[k]?=some a:=⟨_,U1 hkl2⟩;obtain⟨c,hca,h7⟩:=WK.out a (by rw[←hw2];exact R5 ha);have han:a<s.cells.length:=(U0.1 hca).1;have hcm:=R5 hca;have e3: ∀P Q Y,jdd (B++(P::Q:: .grow gw1 1 (u2.weak.map eN)::Y)) 1 k (.own (B.length+2) gw1 0 u.weak.length false)=some (.eptr (B.length+2) gw1 k 0):=fun P Q Y=>by
   rw[jbQ];exact⟨_,jfV,by simp[hw2],hkl,by simp⟩
  have d3: ∀P Q Y,ldZ (B++(P::Q:: .grow gw1 1 (u2.weak.map eN)::Y)) none (.eptr (B.length+2) gw1 k 0)=some (Z64 (a:Int)):=fun P Q Y=>by
   rw[jbS];exact⟨_,_,eN a,jfV,by rw[U8,ha];rfl,rfl⟩
  have tl:=fun S KK h0 h5 h6 hn=>@keysI_z tb nd L B X2 i s c S KK u2 g2 gw1 t2 HL.out (HC.out c hcm).1 (HV6.out c hcm) (HWC.out c hcm h7) ok2 (by rw[hw2,hk2];exact HK.out) ht2 h0 h5 h6 hn
  have nx: ∀h' u3,RwI B i u3 gw1 X2 h'→u3.Ok s.cells.length→u3.key=u2.key→u3.weak=u2.weak→KwI B i gw1 X1 s.cells.length u (k+1) h':=fun h' u3 q1 q2 q3 q4=>⟨u3,by rw[hX2] at q1;exact q1.trans,q2,q3.trans hk2,q4.trans hw2,fun e=>absurd e (by omega)⟩
  have TL:=Z4 tl;have NX:=Z4 nx;clear tl nx ok2 ht2 hk2 hw2 h02 hX2 hcm h7 ha hkl2;with_reducible repeat' first|simp only[zQ,seval,X0,jai,hgB,e3,d3,hca,han, *]|simp only[jab]|apply P3|intro _
  refine TL.out _ _ (by simp only[jaj,X4,reduceIte,f0]) (by simp only[jaj,X4,reduceIte]) (by simp only[jaj,X4,reduceIte]) fun S' h' u3 q1 q2 q3 q4=>?_
  have fin:=NX.out h' u3 q1 q2 q3 q4;clear q1 q2 q3 q4;with_reducible repeat' first|simp only[zQ,seval,X0, *]|simp only[jab]|apply P3|intro _
 ·rintro s2 h2 ⟨u2,⟨g2,t2,Y2,rfl,ht2⟩,ok2,hk2,hw2,h02⟩ ⟨f0,f2,f11,-⟩
  have hwk2:WkOk s.cells u2:=WK.out.of hw2;have h90:u2.weak.length+u2.key≤90000:=by rw[hw2,hk2];exact HK.out
  have same:w.weak=[]→u2=w:=fun e=>by
   have e1:=HE.out e;have:u.weak.length=0:=by rw[e1,e];rfl
   exact (h02 this).trans e1
  by_cases ht0:u2.todo=[]
  ·have hl:(u2.todo.length:Int)=0:=by rw[ht0];rfl
   have hlt: ¬(0:Int)<0:=by omega
   have nx: ∀S':ZS,S' 2=ZBo false→ ∃m,m<2*u.key+1∧KyI B i s w m S' (RwH B i u2 g2 t2 gw1 (X1++Y2)):=fun S' h=>⟨2*u2.key+0,by omega,u2,false,h,⟨g2,t2,gw1,X1++Y2,rfl,ht2⟩,ok2,hwk2,ht0,h90,same,rfl⟩
   have NX:=Z4 nx;clear nx ht2 ok2 hk2 hw2 h02 hwk2 h90 same ht0;with_reducible repeat' first|simp only[zQ,seval,X0,jai,hl,hlt, *]|simp only[jab]|apply P3|intro _
   all_goals exact NX.out _ (by simp only[jaj,X4,reduceIte,f2])
  ·have hl:(0:Int)<(u2.todo.length:Int):=by have:=X9.2 ht0;omega
   have hp:0<u2.key:=by have:=X9.2 ht0;unfold Rw.key;omega
   obtain⟨r1,r2,r3,r4,r5,r6⟩:=Rw.run_ok HC.out rfl u2.key u2 ok2 hwk2;have same2:w.weak=[]→Rw.run s.cells u2.key u2=w:=fun e=>absurd (by rw[same e];have:=(HE.out e);rw[←this];exact TD.out) ht0
   have nx: ∀(S':ZS) h',S' 2=ZBo true→RwJ B i (Rw.run s.cells u2.key u2) h'→ ∃m,m<2*u.key+1∧KyI B i s w m S' h':=fun S' h' h hJ=>⟨2*(Rw.run s.cells u2.key u2).key+1,by have:=r5 ht0 hp;omega,_,true,h,hJ,r1,r2,r6 (V2 _),by omega,same2,rfl⟩
   have NX:=Z4 nx;have OK2:=Z4 ok2;have H90:=Z4 h90;have HT2:=Z4 ht2;clear nx ht2 ok2 hk2 hw2 h02 hwk2 h90 same ht0 r1 r2 r3 r4 r5 r6 same2 hp;with_reducible repeat' first|simp only[zQ,seval,X0,jai,hl, *]|simp only[jab]|apply P3|intro _
   refine rall_z HS.out HL.out HC.out OK2.out H90.out HT2.out fun h' hJ=>?_
   have fin:=fun S' h=>NX.out S' h' h hJ
   clear hJ;with_reducible repeat' first|simp only[zQ,seval,X0, *]|simp only[jab]|apply P3|intro _
   all_goals exact fin _ (by simp only[jaj,X4,reduceIte])
end
section
open Go Go.RowKit
variable {tb:List (FuncId×Bool)}{nd:Bool}{L:Nat→Bool}{B H X:ZH}{K:ZV→ZH→Prop}{i:Nat}{s:StT}
def Rw.thread (w:Rw)(t:ThT):Rw:=if t.st=1 then ((w.frames t.frs).come [t.val]).come [(5,t.on)] else (w.frames t.frs).come [t.val]
def Rw.threads (w:Rw)(l:List ThT):Rw:=l.foldl Rw.thread w
def Rw.ends (w:Rw)(l:List (Int×Int×Int)):Rw:=l.foldl (fun w e=>w.come [e.2]) w
def jcb (s:StT):Rw:=((⟨O6 s.cells.length false,[],[]⟩:Rw).threads s.threads).ends s.ends
theorem Rw.thread_key (w:Rw)(t:ThT):(w.thread t).key=w.key∧(w.thread t).seen.length=w.seen.length∧(w.thread t).weak=w.weak:=by
 have h1:=Rw.frames_key t.frs w;have h2:=Rw.come_key [t.val] (w.frames t.frs);have h3:=Rw.come_key [(5,t.on)] ((w.frames t.frs).come [t.val]);unfold Rw.thread;split
 ·exact⟨h3.1.trans (h2.1.trans h1.1),h3.2.1.trans (h2.2.1.trans h1.2.1),h3.2.2.trans (h2.2.2.trans h1.2.2)⟩
 ·exact⟨h2.1.trans h1.1,h2.2.1.trans h1.2.1,h2.2.2.trans h1.2.2⟩
theorem Rw.threads_key (l:List ThT): ∀w:Rw,(w.threads l).key=w.key∧(w.threads l).seen.length=w.seen.length∧(w.threads l).weak=w.weak:=by
 induction l with
 |nil=>exact fun w=>⟨rfl,rfl,rfl⟩
 |cons v l ih=>
  intro w;have h1:=ih (w.thread v);have h2:=w.thread_key v;exact⟨h1.1.trans h2.1,h1.2.1.trans h2.2.1,h1.2.2.trans h2.2.2⟩
theorem Rw.ends_key (l:List (Int×Int×Int)): ∀w:Rw,(w.ends l).key=w.key∧(w.ends l).seen.length=w.seen.length∧(w.ends l).weak=w.weak:=by
 induction l with
 |nil=>exact fun w=>⟨rfl,rfl,rfl⟩
 |cons v l ih=>
  intro w;have h1:=ih (w.come [v.2]);have h2:=Rw.come_key [v.2] w;exact⟨h1.1.trans h2.1,h1.2.1.trans h2.2.1,h1.2.2.trans h2.2.2⟩
theorem jmB {w:Rw}{l:List ThT}{v:ThT}:w.threads (l++[v])=(w.threads l).thread v:=by unfold Rw.threads;rw[O0l];rfl
theorem ju0 {w:Rw}{l:List (Int×Int×Int)}{v:Int×Int×Int}:w.ends (l++[v])=(w.ends l).come [v.2]:=by unfold Rw.ends;rw[O0l];rfl
def ThIn (n:Nat)(t:ThT):Prop:=(∀f∈t.frs,FrIn n f)∧jfD n [t.val]∧(t.st=1→jfD n [(5,t.on)])∧t.frs.length≤100000000000000
structure StIn (s:StT):Prop where
  cells: ∀c∈s.cells,CeIn s.cells.length c
  weak: ∀c∈s.cells,c.kind=7→jjB c.vals
  vals: ∀c∈s.cells,c.vals.length≤600
  ths: ∀t∈s.threads,ThIn s.cells.length t
  ends: ∀e∈s.ends,jfD s.cells.length [e.2]
  n:s.cells.length≤300
  nt:s.threads.length≤300
  ne:s.ends.length≤300
theorem Rw.Ok.thread {n:Nat}{w:Rw}{t:ThT}(h:w.Ok n)(ht:ThIn n t):(w.thread t).Ok n:=by
 unfold Rw.thread;have h1:=(h.frames ht.1).come ht.2.1;split
 ·rename_i hg;exact h1.come (ht.2.2.1 hg)
 ·exact h1
theorem Rw.Ok.threads {n:Nat}{l:List ThT}: ∀{w:Rw},w.Ok n→(∀t∈l,ThIn n t)→(w.threads l).Ok n:=by
 induction l with
 |nil=>exact fun h _=>h
 |cons v l ih=>exact fun h hv=>ih (h.thread (hv v O0h)) fun x hx=>hv x (O0i _ hx)
theorem Rw.Ok.ends {n:Nat}{l:List (Int×Int×Int)}: ∀{w:Rw},w.Ok n→(∀t∈l,jfD n [t.2])→(w.ends l).Ok n:=by
 induction l with
 |nil=>exact fun h _=>h
 |cons v l ih=>exact fun h hv=>ih (h.come (hv v O0h)) fun x hx=>hv x (O0i _ hx)
theorem rseen_z (hs:H[i]?=some (.box (eS s)))(si:StIn s)
  (hK: ∀u:Rw,u.Ok s.cells.length→((Rw.run s.cells (jcb s).key (jcb s)).weak=[]→u=Rw.run s.cells (jcb s).key (jcb s))→K (.fz 1 true (u.seen.map eB)) H):
  ZC (XC tb nd) (jag Tryz.prog) 17 [.ptr i 0] L H K:=by
 refine K6 ⟨[(15,[(2,1),(3,1)])],[],[]⟩ (jaf (by decide)) juH (by simp) fun hL=>?_
 simp only[jnE,kkP];have hi:=jax hs;have HL:=Z4 hL;have SI:=Z4 si;have n1:natZ (Z64 (s.cells.length:Int))=some s.cells.length:=jgx;have hre:s.cells.length≤reach:=by have:=si.n;unfold reach;omega
 have HK:=Z4 hK;clear hL si hK;with_reducible repeat' first|simp only[zQ,seval,X0,jai,hs,hi,n1,hre, *]|simp only[jab]|apply P3|intro _
 have hL3: ∀k,L (H.length+k)=true:=HL.out;have k0:(⟨O6 s.cells.length false,[],[]⟩:Rw).key≤300:=by
  have:=SI.out.n;have h2:=O0n (fun b:Bool=> !b) (O6 s.cells.length false);rw[O0o] at h2;simp only[Rw.key,G9];omega
 have o0:(⟨O6 s.cells.length false,[],[]⟩:Rw).Ok s.cells.length:=⟨by simp,fun a h=>(by cases h),fun a h=>(by cases h)⟩;obtain⟨w0,hw0⟩: ∃w0:Rw,w0=⟨O6 s.cells.length false,[],[]⟩:=⟨_,rfl⟩;have hroots:jcb s=(w0.threads s.threads).ends s.ends:=by rw[hw0];rfl
 have i0:RwI H i w0 0 [] (H++[.grow 0 1 (O6 s.cells.length [ZBo false]),.grow 0 1 [],.grow 0 1 [],.box [.ptr i 0,.own H.length 0 0 s.cells.length true,.own (H.length+1) 0 0 0 false,.own (H.length+2) 0 0 0 false]]):=⟨0,[],[],by rw[hw0];simp[RwH,rwC,eB,List.map_replicate],by rw[hw0];exact⟨by simp,rfl⟩⟩;rw[←hw0] at k0 o0;have W0:=Z4 (show w0.weak=[] by rw[hw0]);have K0:=Z4 k0;have O0:=Z4 o0;have HR:=Z4 hroots;clear hw0 k0 o0 hroots hL3;refine jaK [(0,.ptr i 0),(3,.ptr (H.length+3) 0),(20,.fz 5 false (s.threads.map eTh))] s.threads.length (fun k s' h'=>RwI H i (w0.threads (s.threads.take k)) 0 [] h') (by have:=SI.out.nt;omega) ⟨rfl,rfl,rfl,rfl,rfl,rfl⟩ rfl rfl (by repeat' (first|exact trivial|(refine⟨rfl,?_⟩)|(refine⟨by simp only[jaj,X4,reduceIte];assumption,?_⟩))) rfl rfl (by decide) (by first|exact i0|simpa using i0) ?_ ?_
 ·clear i0
  rintro k s' h' hkl ⟨g1,t1,Y1,rfl,ht1⟩ hi2 hln ⟨f0,f3,f20,-⟩;obtain⟨t,hv⟩: ∃v,s.threads[k]?=some v:=⟨_,U1 hkl⟩;have hin:=SI.out.ths t (R5 hv);have htk:s.threads.take (k+1)=s.threads.take k++[t]:=by
   rw[X5 hkl];have:=U1 hkl;rw[hv] at this;injection this with this;rw[←this]
  have hwn:w0.threads (s.threads.take (k+1))=(w0.threads (s.threads.take k)).thread t:=by rw[htk,jmB]
  have hck:=Rw.threads_key (s.threads.take k) w0;have ok1:(w0.threads (s.threads.take k)).Ok s.cells.length:=O0.out.threads fun t ht=>SI.out.ths t (M6 ht)
  obtain⟨X1,hX1⟩: ∃X1,X1=([]:ZH)++Y1:=⟨_,rfl⟩;rw[←hX1];obtain⟨u,hu⟩: ∃u,u=w0.threads (s.threads.take k):=⟨_,rfl⟩;rw[←hu] at hwn hck ht1 ok1;rw[←hu];have hlX:L (H.length+(X1.length+1+1+1+1))=true:=HL.out _;have HT1:=Z4 ht1;have HW:=Z4 hwn;have HC:=Z4 hck;have OK1:=Z4 ok1;have hke:u.key≤100000:=by rw[hck.1];have:=K0.out;omega
  have HKE:=Z4 hke;have HI:=Z4 hin;clear hu ht1 hwn hck htk hin hke hX1 ok1;with_reducible repeat' first|simp only[zQ,seval,X0,jai,jeM,hlX,hv, *]|simp only[jab]|apply P3|intro _
  refine jmR (l:=t.frs) (X:=X1++[.box (eTh t)]) HL.out (by rw[OK1.out.seen];exact HI.out.1) HI.out.2.2.2 HKE.out HT1.out fun h2 hI2=>?_
  obtain⟨g2,t2,Y2,rfl,ht2⟩:=hI2;have hc2:=Rw.frames_key t.frs u;have ok2:=OK1.out.frames HI.out.1;obtain⟨u2,hu2⟩: ∃u2,u2=u.frames t.frs:=⟨_,rfl⟩;rw[←hu2] at ht2 hc2 ok2;rw[←hu2];have HU2:=Z4 hu2;have HC2:=Z4 hc2;have HT2:=Z4 ht2;have OK2:=Z4 ok2;clear hu2 hc2 ht2 ok2;with_reducible repeat' first|simp only[zQ,seval,X0,jai,jeM,hlX, *]|simp only[jab]|apply P3|intro _
  refine jfm (l:=[t.val]) (X:=X1++(.box (eTh t)::Y2)) HL.out (by rw[OK2.out.seen];exact HI.out.2.1) (by simp) (by rw[HC2.out.1];exact HKE.out) HT2.out fun h3 hI3=>?_
  obtain⟨g3,t3,Y3,rfl,ht3⟩:=hI3;have hc3:=Rw.come_key [t.val] u2;have ok3:=OK2.out.come HI.out.2.1;obtain⟨u3,hu3⟩: ∃u3,u3=u2.come [t.val]:=⟨_,rfl⟩;rw[←hu3] at ht3 hc3 ok3;rw[←hu3];have HU3:=Z4 hu3;have HC3:=Z4 hc3;have HT3:=Z4 ht3;have OK3:=Z4 ok3;clear hu3 hc3 ht3 ok3;by_cases hg:t.st=1
  ·with_reducible repeat' first|simp only[zQ,seval,X0,jai,jeM,hlX,hg, *]|simp only[jab]|apply P3|intro _
   refine jfm (l:=[(5,t.on)]) (X:=X1++(.box (eTh t)::(Y2++Y3))) HL.out (by rw[OK3.out.seen];exact HI.out.2.2.1 hg) (by simp) (by rw[HC3.out.1,HC2.out.1];exact HKE.out) HT3.out fun h4 hI4=>?_
   have fin:RwI H i (w0.threads (s.threads.take (k+1))) 0 [] h4:=by
    rw[HW.out,Rw.thread,if_pos hg,← HU2.out,← HU3.out];exact RwI.trans (Z:=X1++(.box (eTh t)::(Y2++Y3))) hI4
   clear hI4;with_reducible repeat' first|simp only[zQ,seval,X0, *]|simp only[jab]|apply P3|intro _
  ·have fin:RwI H i (w0.threads (s.threads.take (k+1))) 0 [] (RwH H i u3 g3 t3 0 (X1++(.box (eTh t)::(Y2++Y3)))):=by
    rw[HW.out,Rw.thread,if_neg hg,← HU2.out,← HU3.out];exact⟨g3,t3,X1++(.box (eTh t)::(Y2++Y3)),rfl,HT3.out⟩
   with_reducible repeat' first|simp only[zQ,seval,X0,jai,jeM,hlX,hg, *]|simp only[jab]|apply P3|intro _
 ·clear i0
  rintro s' h' hI ⟨f0,f3,f20,-⟩;rw[I5 (V2 _)] at hI;have ck1:=Rw.threads_key s.threads w0;have ok1:(w0.threads s.threads).Ok s.cells.length:=O0.out.threads SI.out.ths;have hIe:RwI H i ((w0.threads s.threads).ends (s.ends.take 0)) 0 [] h':=hI;obtain⟨g1,t1,Y1,rfl,ht1⟩:=hI;have HI:=Z4 hIe;have HC1:=Z4 ck1;have OK1:=Z4 ok1;have hiX:=fun X=>hi X
  obtain⟨w1,hw1⟩: ∃w1,w1=w0.threads s.threads:=⟨_,rfl⟩;rw[←hw1] at HI HC1 OK1 HR ⊢;clear hIe ck1 ok1 ht1 hw1;with_reducible repeat' first|simp only[zQ,seval,X0,jai,hiX, *]|simp only[jab]|apply P3|intro _
  refine jaK [(3,.ptr (H.length+3) 0),(48,.fz 3 false (s.ends.map eEn))] s.ends.length (fun k s' h'=>RwI H i (w1.ends (s.ends.take k)) 0 [] h') (by have:=SI.out.ne;omega) ⟨rfl,rfl,rfl,rfl,rfl,rfl⟩ rfl rfl (by repeat' (first|exact trivial|(refine⟨rfl,?_⟩)|(refine⟨by simp only[jaj,X4,reduceIte];assumption,?_⟩))) rfl rfl (by decide) HI.out ?_ ?_
  ·rintro k s' h' hkl ⟨g1,t1,Y1,rfl,ht1⟩ hi2 hln ⟨f3,f48,-⟩
   obtain⟨t,hv⟩: ∃v,s.ends[k]?=some v:=⟨_,U1 hkl⟩;have hin:=SI.out.ends t (R5 hv);have htk:s.ends.take (k+1)=s.ends.take k++[t]:=by
    rw[X5 hkl];have:=U1 hkl;rw[hv] at this;injection this with this;rw[←this]
   have hwn:w1.ends (s.ends.take (k+1))=(w1.ends (s.ends.take k)).come [t.2]:=by rw[htk,ju0]
   have hck:=Rw.ends_key (s.ends.take k) w1;have ok1:(w1.ends (s.ends.take k)).Ok s.cells.length:=OK1.out.ends fun t ht=>SI.out.ends t (M6 ht)
   obtain⟨X1,hX1⟩: ∃X1,X1=([]:ZH)++Y1:=⟨_,rfl⟩;rw[←hX1];obtain⟨u,hu⟩: ∃u,u=w1.ends (s.ends.take k):=⟨_,rfl⟩;rw[←hu] at hwn hck ht1 ok1;rw[←hu];have hlX:L (H.length+(X1.length+1+1+1+1))=true:=HL.out _;have HT1:=Z4 ht1;have HW:=Z4 hwn;have HC:=Z4 hck;have OKu:=Z4 ok1;have hke:u.key≤100000:=by rw[hck.1,HC1.out.1];have:=K0.out;omega
   have HKE:=Z4 hke;have HI:=Z4 hin;clear hu ht1 hwn hck htk hin hke hX1 ok1;with_reducible repeat' first|simp only[zQ,seval,X0,jai,jeM,hlX,hv, *]|simp only[jab]|apply P3|intro _
   refine jfm (l:=[t.2]) (X:=X1++[.box (eEn t)]) HL.out (by rw[OKu.out.seen];exact HI.out) (by simp) HKE.out HT1.out fun h4 hI4=>?_
   have fin:RwI H i (w1.ends (s.ends.take (k+1))) 0 [] h4:=by
    rw[HW.out];exact RwI.trans (Z:=X1++[.box (eEn t)]) hI4
   clear hI4;with_reducible repeat' first|simp only[zQ,seval,X0, *]|simp only[jab]|apply P3|intro _
  ·clear HI
   rintro s' h' hI ⟨f3,f48,-⟩;rw[I5 (V2 _),← HR.out] at hI;obtain⟨g1,t1,Y1,rfl,ht1⟩:=hI;have kr:(jcb s).key≤300:=by rw[HR.out,(Rw.ends_key s.ends w1).1,HC1.out.1];exact K0.out
   have wr:(jcb s).weak=[]:=by
    rw[HR.out,(Rw.ends_key s.ends w1).2.2,HC1.out.2.2];exact W0.out
   have okr:(jcb s).Ok s.cells.length:=by rw[HR.out];exact OK1.out.ends SI.out.ends
   have HT1:=Z4 ht1;have KR:=Z4 kr;have WR:=Z4 wr;have OKR:=Z4 okr;clear ht1 kr wr okr;with_reducible repeat' first|simp only[zQ,seval,X0, *]|simp only[jab]|apply P3|intro _
   refine rall_z hs HL.out SI.out.cells OKR.out (by rw[WR.out];have:=KR.out;simp;omega) HT1.out fun h2 hJ=>?_
   obtain⟨g2,t2,gw2,X2,rfl,ht2⟩:=hJ;obtain⟨r1,r2,r3,r4,r5,r6⟩:=Rw.run_ok SI.out.cells rfl (jcb s).key (jcb s) OKR.out (fun a ha=>by rw[WR.out] at ha;cases ha);have HT2:=Z4 ht2;have R1:=Z4 r1;have R2:=Z4 r2;have R3:=Z4 r3;have R6:=Z4 (r6 (V2 _));clear ht2 r1 r2 r3 r4 r5 r6;with_reducible repeat' first|simp only[zQ,seval,X0, *]|simp only[jab]|apply P3|intro _
   refine rkeys_z hs HL.out SI.out.cells SI.out.weak SI.out.vals R1.out R2.out R6.out (by have e3:=R3.out;have:=KR.out;rw[WR.out,G9] at e3;omega) HT2.out fun u h3 hJ ok3 hw3=>?_
   obtain⟨g3,t3,gw3,X3,rfl,ht3⟩:=hJ;have fin:Fin H (.own H.length 0 0 u.seen.length true) (RwH H i u g3 t3 gw3 X3) K:=by
    refine Fin.frz (k:=1) (rows:=u.seen.map eB) jcr (by simp) jmO ?_;rw[jjG,W1,I5 (by simp)];exact Fin.trunc (K4 H _) rfl (by rw[K5];exact HK.out u ok3 hw3)
   clear ht3 ok3 hw3;with_reducible repeat' first|simp only[zQ,seval,X0,jai, *]|simp only[jab]|apply P3|intro _
end
section
open Go Go.RowKit
variable {tb:List (FuncId×Bool)}{nd:Bool}{L:Nat→Bool}{B H X:ZH}{K:ZV→ZH→Prop}{i:Nat}{s:StT}{p:PrT}
theorem joE {v:Int×Int}(h:fitB s v=true)(h5:v.1=5): ∃a:Nat,v.2=a∧a<s.cells.length:=by
 unfold fitB at h;simp only[Bool.and_eq_true,h5] at h;have hp:0≤v.2:=jgr h.1 (.inr h5);have hl:v.2<s.cells.length:=by have:=h.2;simp at this;exact this.1
 exact⟨v.2.toNat,by omega,by omega⟩
theorem jvt {l:List (Int×Int)}(h:l.all (fitB s)=true):jfD s.cells.length l:=fun v hv h5=>joE (List.all_eq_true.1 h v hv) h5
theorem jiK {v:Int×Int}(h:v.1=5→ ∃a:Nat,v.2=a∧a<s.cells.length):jfD s.cells.length [v]:=fun x hx=>by rw[X6.1 hx];exact h
theorem jiw (bt:BigT s)(h:StAll p s):StIn s:=by
 have good: ∀f:FrT,jjC p s f→f.regs.length≤100000000000000→(0≤f.gen→ ∃n:Nat,f.gen=n∧n<s.cells.length)→FrIn s.cells.length f:=fun f hf hr hg=>⟨jiK fun _=>hf.self.2,jvt hf.regs,fun h0=>jiK fun _=>hg h0,hr⟩
 refine⟨fun c hc=>⟨jvt (h.ok.cells c hc).vals,fun f hf=>?_,bt.vals c hc,?_⟩,fun c hc h7=>(h.ok.cells c hc).weak h7,h.ok.sz.vals,fun t ht=>⟨fun f hf=>?_,jiK fun h5=>joE (h.rt.threads t ht).val h5,fun h1=>jiK fun _=>(h.rt.threads t ht).on h1,(bt.frt t ht).1⟩,fun e he=>jiK fun h5=>joE (isB_ex (h.ok.ends e he)).1 h5,h.ok.sz.cells,by have:=h.ths;omega,by have:=h.ok.sz.ends;omega⟩
 ·have hg:=h.rt.cells c hc f hf
  exact good f hg.1 ((bt.frc c hc f hf).1) (fun h0=>by rw[hg.2] at h0;exact absurd h0 (by decide))
 ·by_cases hk:c.kind=5∧c.num=0
  ·have:=(h.ok.cells c hc).gen hk.1 hk.2;omega
  ·rw[(h.ok.cells c hc).nofr hk];simp
 ·have hg:=(h.rt.threads t ht).frs f hf
  exact good f hg.1 (((bt.frt t ht).2 f hf).1) hg.2
def jdU:List Bool→Nat→List Nat
  |[],_=>[]
  |b::l,k=>if b=true then k::jdU l (k+1) else jdU l (k+1)
theorem jgW {b:Bool}: ∀(l:List Bool) (k:Nat),jdU (l++[b]) k=if b=true then jdU l k++[k+l.length] else jdU l k
 |[],k=>by cases b<;>simp[jdU]
 |c::l,k=>by
  have ih:=jgW (b:=b) l (k+1);have e:k+1+l.length=k+(l.length+1):=by omega
  cases b<;>cases c<;>simp[jdU,ih,e]
theorem jmz: ∀(l:List Bool) (k:Nat),(jdU l k).length≤l.length
 |[],_=>V2 _
 |b::l,k=>by
  have:=jmz l (k+1)
  cases b<;>simp[jdU]<;>omega
theorem ju4: ∀r:List Nat,(r.map eN).flatten.all jbR=true
 |[]=>rfl
 |a::r=>by simp[B6,D6,ju4 r,jbR]
theorem rof_z (bp:jn8 p)(bs:BigS s)(bt:BigT s)(hN: ∀e,e≠0→K (.tuple [.nil,Z64 e]) H)
  (hK: ∀u:Rw,StAll p s→u.Ok s.cells.length→((Rw.run s.cells (jcb s).key (jcb s)).weak=[]→u=Rw.run s.cells (jcb s).key (jcb s))→K (.tuple [.fz 1 false ((jdU u.seen 0).map eN),Z64 0]) H):
  ZC (XC tb true) (jag Tryz.prog) 5 [.agg (ePr p),.agg (eS s)] L H K:=by
 refine K6 ⟨[(7,[(0,1)])],[],[]⟩ (jaf (by decide)) f_rc_of (by simp) fun hL=>?_
 simp only[jvi,kkP];have BP:=Z4 bp;have BS:=Z4 bs;have BT:=Z4 bt;have HN:=Z4 hN;have HK:=Z4 hK;have hl2:L (H.length+2)=true:=hL 2;clear bp bs bt hN hK hL;with_reducible repeat' first|simp only[zQ,seval,X0,jai, *]|simp only[jab]|apply P3|intro _
 refine jtt BP.out BS.out BT.out fun e he=>?_
 by_cases h0:e=0
 case neg=>
  have fin:=finT (H:=H) (zs:=[.nil,Z64 e]) rfl (HN.out e h0);clear he;with_reducible repeat' first|simp only[zQ,seval,X0,jai,h0, *]|simp only[jab]|apply P3|intro _
 subst h0;have SA:=Z4 (he rfl);clear he;with_reducible repeat' first|simp only[zQ,seval,X0,jai, *]|simp only[jab]|apply P3|intro _
 refine rseen_z (s:=s) jeF (jiw BT.out SA.out) fun u ok hu=>?_
 have hn:=SA.out.ok.sz.cells;have hlu:u.seen.length≤300:=by rw[ok.seen];exact hn
 have FI:=Z4 (HK.out u SA.out ok hu);clear ok hu hn;with_reducible repeat' first|simp only[zQ,seval,X0,jai, *]|simp only[jab]|apply P3|intro _
 refine jaK [(16,.fz 1 true (u.seen.map eB))] u.seen.length (fun k s' h'=> ∃g,s' 7= .own (H.length+2) g 0 (jdU (u.seen.take k) 0).length false∧h'=H++[.box (ePr p),.box (eS s),.grow g 1 ((jdU (u.seen.take k) 0).map eN)]) (by omega) ⟨rfl,rfl,rfl,rfl,rfl,rfl⟩ rfl rfl (by repeat' (first|exact trivial|(refine⟨rfl,?_⟩)|(refine⟨by simp only[jaj,X4,reduceIte];assumption,?_⟩))) rfl rfl (by decide) ⟨0,rfl,rfl⟩ ?_ ?_
 ·rintro k s' h' hkl ⟨g,f7,rfl⟩ hi hln ⟨f16,-⟩
  obtain⟨b,hb⟩: ∃b,u.seen[k]?=some b:=⟨_,U1 hkl⟩;have htk:u.seen.take (k+1)=u.seen.take k++[b]:=by
   rw[X5 hkl];have:=U1 hkl;rw[hb] at this;injection this with this;rw[←this]
  have e1:=jgW (b:=b) (u.seen.take k) 0;rw[←htk,C4,Nat.min_eq_left (by omega),Nat.zero_add] at e1;have e2:=jmz (u.seen.take k) 0;have e3:(jdU (u.seen.take k) 0).length≤300:=V3 e2 (by simp;omega);obtain⟨r,hr⟩: ∃r,r=jdU (u.seen.take k) 0:=⟨_,rfl⟩;rw[←hr] at e1 e3 f7;rw[←hr];obtain⟨r2,hr2⟩: ∃r2,r2=jdU (u.seen.take (k+1)) 0:=⟨_,rfl⟩;rw[←hr2] at e1;rw[←hr2];clear hr hr2 htk e2
  cases b with
  |false=>
   rw[if_neg (by decide)] at e1;subst e1;with_reducible repeat' first|simp only[zQ,seval,X0,jai,hb, *]|simp only[jab]|apply P3|intro _
   all_goals first|exact⟨_,rfl,rfl⟩|rfl
  |true=>
   rw[if_pos rfl] at e1;have ap: ∀P Q Y,appZ L (H++(P::Q:: .grow g 1 (r.map eN)::Y)) 1 8 [[Z64 (k:Int)]] (.own (H.length+2) g 0 r.length false)=some (.own (H.length+2) (g+1) 0 (r.length+1) false,H++(P::Q:: .grow (g+1) 1 (r2.map eN)::Y)):=fun P Q Y=>by
    rw[jcU];refine⟨_,jfV,by simp,by unfold reach;simp;omega,hl2,rfl,?_⟩;rw[jjF,W1,I5 (by simp),e1,L3];rfl
   have el:r.length+1=r2.length:=by rw[e1];simp
   have EL:=Z4 el;clear e1 e3 el;with_reducible repeat' first|simp only[zQ,seval,X0,jai,hb,ap, *]|simp only[jab]|apply P3|intro _
   all_goals first|exact EL.out|exact⟨_,by rw[EL.out],rfl⟩
 ·rintro s' h' ⟨g,f7,rfl⟩ ⟨f16,-⟩
  rw[I5 (V2 _)] at f7 ⊢;have fin:Fin H (.tuple [.own (H.length+2) g 0 (jdU u.seen 0).length false,Z64 0]) (H++[.box (ePr p),.box (eS s),.grow g 1 ((jdU u.seen 0).map eN)]) K:=by
   refine Fin.frzT (j:=0) (i:=H.length+2) (k:=1) (g:=g) (off:=0) (len:=(jdU u.seen 0).length) (ex:=false) (rows:=(jdU u.seen 0).map eN) rfl jfV (by simp) (ju4 _) ?_;rw[jjF,W1,I5 (by simp)];exact Fin.truncT (K4 H _) rfl (by rw[K5];exact FI.out)
  with_reducible repeat' first|simp only[zQ,seval,X0,jai, *]|simp only[jab]|apply P3|intro _
end
section
open Go Go.RowKit
variable {tb:List (FuncId×Bool)}{nd:Bool}{L:Nat→Bool}{B H X:ZH}{K:ZV→ZH→Prop}{i:Nat}{s:StT}{p:PrT}
theorem x_at1 {P T:ZB}{Y:ZH}:(B++(P::(X++(T::Y))))[B.length+(X.length+1)]?=some T:=jnr
theorem x_st1 {P T U:ZB}{Y:ZH}:(B++(P::(X++(T::Y)))).set (B.length+(X.length+1)) U=B++(P::(X++(U::Y))):=jr2
theorem jqW:type_of% (P3 @x_at1 @x_st1):=P3 @x_at1 @x_st1
def TwI (H:ZH)(s:StT)(k:Nat)(h':ZH):Prop:= ∃X,h'=H++(.box (eS s)::X)∧ ∀c∈s.cells.take k,c.kind≠7
theorem tweak_z (hb:s.cells.length≤100000000000000)(hK: ∀b,(b=false→ ∀c∈s.cells,c.kind≠7)→K (ZBo b) H):ZC (XC tb nd) (jag Tryz.prog) 9 [.agg (eS s)] L H K:=by
 refine K6 Gh.no (jaf (by decide)) juB (by simp) fun hL=>?_
 simp only[jny,kkP];have FI:=Z4 (show ∀b X,(b=false→ ∀c∈s.cells,c.kind≠7)→Fin H (ZBo b) (H++X) K from fun b X h=>finX rfl (hK b h));have HL:=Z4 hL;clear hK hL;with_reducible repeat' first|simp only[zQ,seval,X0,jai, *]|simp only[jab]|apply P3|intro _
 refine jaK [(6,.fz 4 false (s.cells.map eCe))] s.cells.length (fun k s' h'=>TwI H s k h') (by omega) ⟨rfl,rfl,rfl,rfl,rfl,rfl⟩ rfl rfl (by repeat' (first|exact trivial|(refine⟨rfl,?_⟩)|(refine⟨by simp only[jaj,X4,reduceIte];assumption,?_⟩))) rfl rfl (by decide) ⟨[],rfl,fun c h=>by simp at h⟩ ?_ ?_
 ·rintro k s' h' hkl ⟨X1,rfl,hno⟩ hi hln ⟨f6,-⟩
  obtain⟨c,hc⟩: ∃c,s.cells[k]?=some c:=⟨_,U1 hkl⟩;have hlX:L (H.length+(X1.length+1))=true:=HL.out _;have NO:=Z4 hno;clear hno;by_cases h7:c.kind=7
  ·have fin:=fun X=>FI.out true X (fun e=>by cases e)
   with_reducible repeat' first|simp only[zQ,seval,X0,jai,jqW,hlX,hc,h7, *]|simp only[jab]|apply P3|intro _
  ·have hn: ∀d∈s.cells.take (k+1),d.kind≠7:=fun d hd=>by
    rw[X5 hkl] at hd;rcases O3.1 hd with hd|hd
    ·exact NO.out d hd
    ·have:=U1 hkl
     rw[hc] at this;injection this with this
     rw[X6.1 hd,← this];exact h7
   have HN:=Z4 hn;clear hn;with_reducible repeat' first|simp only[zQ,seval,X0,jai,jqW,hlX,hc,h7, *]|simp only[jab]|apply P3|intro _
   all_goals exact⟨_,rfl,HN.out⟩
 ·rintro s' h' ⟨X1,rfl,hno⟩ ⟨f6,-⟩
  rw[I5 (V2 _)] at hno;have fin:=fun X=>FI.out false X (fun _=>hno)
  clear hno;with_reducible repeat' first|simp only[zQ,seval,X0,jai, *]|simp only[jab]|apply P3|intro _
/-! ### rRefs -/
def jbo (l:List (Int×Int)):List Int:=(l.filter fun v=>decide (v.1=5)).map (·.2)
theorem jt4 {l:List (Int×Int)}{v:Int×Int}:jbo (l++[v])=if v.1=5 then jbo l++[v.2] else jbo l:=by
 unfold jbo;by_cases h:v.1=5<;>simp[O0p,h]
theorem jhV (l:List (Int×Int)):(jbo l).length≤l.length:=by
 unfold jbo;rw[P2];exact O0n _ _
def TrI2 (H:ZH)(l:List (Int×Int))(k:Nat)(s':ZS)(h':ZH):Prop:= ∃g X,s' 3= .own H.length g 0 (jbo (l.take k)).length false∧h'=H++(.grow g 1 ((jbo (l.take k)).map eI)::X)
theorem jod {z:ZV}{l:List (Int×Int)}(hz:ja2 H 2 z=some (l.map eVl))(hb:l.length≤100000000)(hK:K (.fz 1 false ((jbo l).map eI)) H):ZC (XC tb nd) (jag Tryz.prog) 19 [z] L H K:=by
 refine K6 ⟨[(3,[(0,1)])],[],[]⟩ (jaf (by decide)) juD (by simp) fun hL=>?_
 simp only[jnA,kkP];have HZ:=Z4 (fun X=>rows_ext hz X);have HK:=Z4 hK;have HL:=Z4 hL;have hl0:L H.length=true:=hL 0;have hlen: ∀X,lenZ (H++X) z=some l.length:=fun X=>by have:=ja3 (HZ.out X);rwa [P2] at this
 clear hz hK hL;with_reducible repeat' first|simp only[zQ,seval,X0,hlen, *]|simp only[jab]|apply P3|intro _
 refine jaK [(6,z)] l.length (fun k s' h'=>TrI2 H l k s' h') (by omega) ⟨rfl,rfl,rfl,rfl,rfl,rfl⟩ rfl rfl (by repeat' (first|exact trivial|(refine⟨rfl,?_⟩)|(refine⟨by simp only[jaj,X4,reduceIte];assumption,?_⟩))) rfl rfl (by decide) ⟨0,[],rfl,rfl⟩ ?_ ?_
 ·rintro k s' h' hkl ⟨g,X1,f3,rfl⟩ hi hln ⟨f6,-⟩
  obtain⟨q,hq,hld⟩:=jcS (HZ.out (.grow g 1 ((jbo (l.take k)).map eI)::X1)) hkl;have hld:=hld (some 2);have hlX:L (H.length+(X1.length+1))=true:=HL.out _;have e1:jbo (l.take (k+1))=if l[k].1=5 then jbo (l.take k)++[l[k].2] else jbo (l.take k):=by
   rw[X5 hkl,jt4]
  obtain⟨v,hv⟩: ∃v,v=l[k]:=⟨_,rfl⟩;rw[←hv] at e1 hld;have hle:(jbo (l.take k)).length≤100000000:=V3 (jhV _) (by simp;omega);obtain⟨r,hr⟩: ∃r,r=jbo (l.take k):=⟨_,rfl⟩;rw[←hr] at e1 f3 hle hq hld ⊢;have E1:=Z4 e1;clear e1 hr hv;by_cases h5:v.1=5
  ·have ap: ∀Y,appZ L (H++(.grow g 1 (r.map eI)::Y)) 1 8 [[Z64 v.2]] (.own H.length g 0 r.length false)=some (.own H.length (g+1) 0 (r.length+1) false,H++(.grow (g+1) 1 ((r++[v.2]).map eI)::Y)):=fun Y=>by
    rw[jcU];refine⟨_,jcr,by simp,by unfold reach;simp;omega,hl0,rfl,?_⟩;rw[jjG,W1,I5 (by simp),L3];rfl
   have nx: ∀(S':ZS) Y,S' 3= .own H.length (g+1) 0 (r.length+1) false→TrI2 H l (k+1) S' (H++(.grow (g+1) 1 ((r++[v.2]).map eI)::Y)):=fun S' Y h=>⟨g+1,Y,by rw[h,E1.out,if_pos h5];simp,by rw[E1.out,if_pos h5]⟩
   have NX:=Z4 nx;clear nx hle;with_reducible repeat' first|simp only[zQ,seval,X0,jai,jqW,hlX,hq,hld,h5,ap, *]|simp only[jab]|apply P3|intro _
   all_goals exact NX.out _ _ (by simp only[jaj,X4,reduceIte])
  ·have nx: ∀(S':ZS) Y,S' 3= .own H.length g 0 r.length false→TrI2 H l (k+1) S' (H++(.grow g 1 (r.map eI)::Y)):=fun S' Y h=>⟨g,Y,by rw[h,E1.out,if_neg h5],by rw[E1.out,if_neg h5]⟩
   have NX:=Z4 nx;clear nx hle;with_reducible repeat' first|simp only[zQ,seval,X0,jai,jqW,hlX,hq,hld,h5, *]|simp only[jab]|apply P3|intro _
   all_goals exact NX.out _ _ (by simp only[jaj,X4,reduceIte,f3])
 ·rintro s' h' ⟨g,X1,f3,rfl⟩ ⟨f6,-⟩
  rw[I5 (V2 _)] at f3 ⊢;have fin:Fin H (.own H.length g 0 (jbo l).length false) (H++(.grow g 1 ((jbo l).map eI)::X1)) K:=by
   refine Fin.frz (k:=1) (rows:=(jbo l).map eI) jcr (by simp) (jlN _) ?_;rw[jjG,W1,I5 (by simp)];exact Fin.trunc (K4 H _) rfl (by rw[K5];exact HK.out)
  with_reducible repeat' first|simp only[zQ,seval,X0, *]|simp only[jab]|apply P3|intro _
end
section
open Go Go.RowKit
variable {tb:List (FuncId×Bool)}{nd:Bool}{L:Nat→Bool}{B H X:ZH}{K:ZV→ZH→Prop}{i:Nat}{s:StT}{p:PrT}
def jat (l:List FrT):List (Int×Int):=l.flatMap fun f=>f.self::f.regs
theorem jnc {l:List FrT}{f:FrT}:jat (l++[f])=jat l++[f.self]++f.regs:=by unfold jat;simp
theorem jnb (l:List FrT)(k:Nat):(jat (l.take k)).length≤(jat l).length:=by
 have h:jat l=jat (l.take k)++jat (l.drop k):=by unfold jat;rw[←O0q,O0r]
 rw[h,G3];omega
theorem jd0: ∀l:List FrT,l.length≤(jat l).length
 |[]=>V2 _
 |f::l=>by
  have h1:=jd0 l;simp only[jat,O0s,G3,Q3] at*;omega
def PtrAb (n:Nat)(z:ZV):Prop:=z= .no∨ ∃j o,z= .ptr j o∧n<j
theorem PtrAb.of {n j o:Nat}(h:n<j):PtrAb n (.ptr j o):= .inr ⟨j,o,rfl,h⟩
theorem jvo {a b:Nat}(h:a<b):(a==b)=false∧(b==a)=false:=⟨by simp;omega,by simp;omega⟩
def TfI (H:ZH)(l:List FrT)(k:Nat)(s':ZS)(h':ZH):Prop:=PtrAb H.length (s' 17)∧ ∃g X,s' 3= .own H.length g 0 (jat (l.take k)).length false∧h'=H++(.grow g 2 ((jat (l.take k)).map eVl)::X)
theorem jth (n:Nat): ∀r:List (Int×Int),(r.map eVl).flatten.all (jcT n)=true
 |[]=>rfl
 |a::r=>by simp[B6,D6,jth n r,jcT]
theorem jmC {ex:Bool}{l:List FrT}(hb:(jat l).length≤100000000)(hK:K (.own H.length 0 0 (jat l).length false) (H++[.grow 0 2 ((jat l).map eVl)])):ZC (XC tb nd) (jag Tryz.prog) 40 [.fz 8 ex (l.map eFr)] L H K:=by
 refine K6 ⟨[(3,[(0,2)])],[],[]⟩ (jaf (by decide)) joF (by simp) fun hL=>?_
 simp only[ji6,kkP];have HK:=Z4 hK;have HL:=Z4 hL;have hl0:L H.length=true:=hL 0;have HB:=Z4 hb;have hbl:l.length≤100000000:=V3 (jd0 l) hb;clear hK hL hb;with_reducible repeat' first|simp only[zQ,seval,X0, *]|simp only[jab]|apply P3|intro _
 refine jaK [(6,.fz 8 ex (l.map eFr))] l.length (fun k s' h'=>TfI H l k s' h') (by omega) ⟨rfl,rfl,rfl,rfl,rfl,rfl⟩ rfl rfl (by repeat' (first|exact trivial|(refine⟨rfl,?_⟩)|(refine⟨by simp only[jaj,X4,reduceIte];assumption,?_⟩))) rfl rfl (by decide) ⟨.inl rfl,0,[],rfl,rfl⟩ ?_ ?_
 ·rintro k s' h' hkl ⟨f17,g,X1,f3,rfl⟩ hi hln ⟨f6,-⟩
  obtain⟨f,hv⟩: ∃v,l[k]?=some v:=⟨_,U1 hkl⟩;have hlX:L (H.length+(X1.length+1))=true:=HL.out _;have htk:l.take (k+1)=l.take k++[f]:=by
   rw[X5 hkl];have:=U1 hkl;rw[hv] at this;injection this with this;rw[←this]
  have e1:jat (l.take (k+1))=jat (l.take k)++[f.self]++f.regs:=by rw[htk,jnc]
  have hle:(jat (l.take k)).length+1+f.regs.length≤100000000:=by
   have:=jnb l (k+1);rw[e1,G3,G3,List.length_singleton] at this;have:=HB.out;omega
  obtain⟨r,hr⟩: ∃r,r=jat (l.take k):=⟨_,rfl⟩;rw[←hr] at e1 f3 hle ⊢;have E1:=Z4 e1;clear e1 hr htk;have nx: ∀(S':ZS) Y,S' 3= .own H.length (g+1+1) 0 (r.length+1+f.regs.length) false→PtrAb H.length (S' 17)→TfI H l (k+1) S' (H++(.grow (g+1+1) 2 (List.take (r.length+1) (r.map eVl++[[Z64 f.self.1,Z64 f.self.2]])++f.regs.map eVl)::Y)):=fun S' Y h h2=>⟨h2,g+1+1,Y,by rw[h,E1.out];simp;omega,by rw[E1.out,I5 (by simp)];simp⟩
  have NX:=Z4 nx;have hr1:(r.length+1)*16≤reach:=by unfold reach;omega
  have hr2:(r.length+1+f.regs.length)*16≤reach:=by unfold reach;omega
  have hlt:H.length+(X1.length+1)<H.length+(X1.length+1+1):=by omega
  obtain⟨n1,n2⟩:=jvo (show H.length<H.length+(X1.length+1) by omega);clear nx hle;rcases f17 with f17|⟨j,o,f17,hj⟩
  ·with_reducible repeat' first|simp only[zQ,seval,X0,jai,jqW,hlX,hv,hr1,hr2,hlt,n1,n2, *]|simp only[jab]|apply P3|intro _
   all_goals (refine NX.out _ _ ?_ ?_;rfl;exact .of (by omega))
  ·obtain⟨n3,n4⟩:=jvo hj
   with_reducible repeat' first|simp only[zQ,seval,X0,jai,jqW,hlX,hv,hr1,hr2,hlt,n1,n2,n3,n4, *]|simp only[jab]|apply P3|intro _
   all_goals (refine NX.out _ _ ?_ ?_;rfl;exact .of (by omega))
 ·rintro s' h' ⟨-, g,X1,f3,rfl⟩ ⟨f6,-⟩
  rw[I5 (V2 _)] at f3 ⊢;have fin:Fin H (.own H.length g 0 (jat l).length false) (H++(.grow g 2 ((jat l).map eVl)::X1)) K:=by
   refine Fin.own (k:=2) (rows:=(jat l).map eVl) (K4 H _) (V2 _) jcr (by simp) (jth _ _) ?_;rw[K5,W1,I5 (by simp)];exact HK.out
  with_reducible repeat' first|simp only[zQ,seval,X0, *]|simp only[jab]|apply P3|intro _
/-! ### rHas -/
theorem tcopy_z {z:ZV}{l:List (Int×Int)}(hz:ja2 H 2 z=some (l.map eVl))(hb:l.length≤1000000000)(hK:K (.own H.length 0 0 l.length false) (H++[.grow 0 2 (l.map eVl)])):ZC (XC tb nd) (jag Tryz.prog) 41 [z] L H K:=by
 refine ZC.enter Gh.no (jaf (by decide)) juE (by simp) ?_;simp only[jnB,kkP];have hreach:l.length*16≤reach:=by unfold reach;omega
 with_reducible repeat' first|simp only[zQ,seval,X0,hz,hreach, *]|simp only[jab]|apply P3|intro _
 exact Fin.keep hK
def hasV (c:CeT):List (Int×Int):=if c.kind=7 then [] else c.vals++jat c.frs
theorem jti: ∀r:List (Int×Int),(r.map eVl).flatten.all jbR=true
 |[]=>rfl
 |a::r=>by simp[B6,D6,jti r,jbR]
theorem thas_z {c:CeT}(hb:(jat c.frs).length+c.vals.length≤100000000)(hK:K (.fz 2 false ((hasV c).map eVl)) H):ZC (XC tb nd) (jag Tryz.prog) 20 [.agg (eCe c)] L H K:=by
 refine K6 Gh.no (jaf (by decide)) f_tp_has (by simp) fun hL=>?_
 simp only[jqC,kkP];have HK:=Z4 hK;have hl1:L (H.length+1)=true:=hL 1;have hl2:L (H.length+2)=true:=hL 2;clear hK hL;by_cases h7:c.kind=7
 ·have fin: ∀X,Fin H .nil (H++X) K:=fun X=>Fin.nilFz (k:=2) (Fin.trunc (K4 H _) rfl (by rw[K5];have:=HK.out;rwa [hasV,if_pos h7] at this))
  with_reducible repeat' first|simp only[zQ,seval,X0,h7, *]|simp only[jab]|apply P3|intro _
 ·have HB:=Z4 hb
  clear hb;with_reducible repeat' first|simp only[zQ,seval,X0,h7, *]|simp only[jab]|apply P3|intro _
  refine tcopy_z (l:=c.vals) (by simp[jaM]) (by have:=HB.out;omega) ?_;with_reducible repeat' first|simp only[zQ,seval,X0,jai, *]|simp only[jab]|apply P3|intro _
  refine jmC (l:=c.frs) (by have:=HB.out;omega) ?_;have ap:appZ L (H++[.box (eCe c),.grow 0 2 (c.vals.map eVl),.grow 0 2 ((jat c.frs).map eVl)]) 2 16 ((jat c.frs).map eVl) (.own (H.length+1) 0 0 c.vals.length false)=some (.own (H.length+1) 1 0 (c.vals.length+(jat c.frs).length) false,H++[.box (eCe c),.grow 1 2 ((c.vals++jat c.frs).map eVl),.grow 0 2 ((jat c.frs).map eVl)]):=by
   rw[jcU];refine⟨_,jeF,by simp,by unfold reach;have:=HB.out;simp;omega,hl1,by simp,?_⟩;rw[jhO,W1,I5 (by simp),L3]
  have fin:Fin H (.own (H.length+1) 1 0 (c.vals.length+(jat c.frs).length) false) (H++[.box (eCe c),.grow 1 2 ((c.vals++jat c.frs).map eVl),.grow 0 2 ((jat c.frs).map eVl)]) K:=by
   refine Fin.frz (k:=2) (rows:=(c.vals++jat c.frs).map eVl) jeF (by simp) (jti _) ?_;rw[jhO,W1,I5 (by simp)];refine Fin.trunc (K4 H _) rfl ?_;rw[K5];have:=HK.out;rwa [hasV,if_neg h7] at this
  have rw2:ja2 (H++[.box (eCe c),.grow 0 2 (c.vals.map eVl),.grow 0 2 ((jat c.frs).map eVl)]) 2 (.own (H.length+2) 0 0 (jat c.frs).length false)=some ((jat c.frs).map eVl):=by
   simp[ja2,jfV,I5]
  with_reducible repeat' first|simp only[zQ,seval,X0,jai,ap,rw2, *]|simp only[jab]|apply P3|intro _
end
section
open Go Go.RowKit
inductive Rch (e:Nat→Nat→Prop)(r:Nat→Prop):Nat→Prop
  |root {n:Nat}:r n→Rch e r n
  |edge {n k:Nat}:Rch e r n→e n k→Rch e r k
def Rw.S (w:Rw)(n:Nat):Prop:=w.seen[n]?=some true
structure Ad (w w':Rw)(P:Nat→Prop):Prop where
  s: ∀n,w'.S n↔w.S n∨P n
  t: ∀n,n∈w'.todo↔n∈w.todo∨(w'.S n∧ ¬w.S n)
  l:w'.seen.length=w.seen.length
theorem Ad.trans {w1 w2 w3:Rw}{P Q:Nat→Prop}(h:Ad w1 w2 P)(g:Ad w2 w3 Q):Ad w1 w3 fun n=>P n∨Q n:=by
 refine⟨fun n=>by rw[g.s,h.s,or_assoc],fun n=>?_,g.l.trans h.l⟩;rw[g.t,h.t,g.s,h.s];by_cases a:w1.S n<;>by_cases b:P n<;>by_cases c:Q n<;>simp[a,b,c]
theorem Ad.of {w1 w2:Rw}{P Q:Nat→Prop}(h:Ad w1 w2 P)(e: ∀n,P n↔Q n):Ad w1 w2 Q:=⟨fun n=>by rw[h.s,e],h.t,h.l⟩
theorem Ad.none {w:Rw}:Ad w w fun _=>False:=⟨fun n=>by simp,fun n=>by simp,rfl⟩
theorem jfQ {l:List (Int×Int)}{x:Int}:x∈jbo l↔(5,x)∈l:=by
 unfold jbo;simp only[List.mem_map,J7,decide_eq_true_eq];constructor
 ·rintro⟨⟨a,b⟩,⟨h,h5⟩,rfl⟩
  simp only at h5;rw[←h5];exact h
 ·intro h;exact⟨(5,x),⟨h,rfl⟩,rfl⟩
theorem ad_put {w:Rw}{v:Int×Int}(hv:v.1=5→ ∃a:Nat,v.2=a∧a<w.seen.length):Ad w (w.put v) fun n=>(5,(n:Int))=v:=by
 have he: ∀n:Nat,(5,(n:Int))=v↔v.1=5∧v.2=n:=fun n=>by
  obtain⟨a,b⟩:=v;simp only[O4];exact⟨fun h=>⟨h.1.symm,h.2.symm⟩,fun h=>⟨h.1.symm,h.2.symm⟩⟩
 unfold Rw.put;split
 ·rename_i h
  obtain⟨a,ea,la⟩:=hv h.1;have h2:=h.2;rw[ea,O0f,C0,U1 la] at h2;have h3:w.seen[a]?=some false:=by rw[U1 la];simpa using h2
  have hs: ∀n,(w.seen.set a true)[n]?=some true↔w.seen[n]?=some true∨n=a:=fun n=>by
   by_cases hn:n=a
   ·subst hn;rw[List.getElem?_set_self la];simp
   ·rw[List.getElem?_set_ne (fun q=>hn q.symm)];simp[hn]
  rw[ea,O0f];refine⟨fun n=>?_,fun n=>?_,by simp⟩
  ·show (w.seen.set a true)[n]?=some true↔_
   rw[hs,he,ea];constructor
   ·rintro (q|rfl)
    ·exact .inl q
    ·exact .inr ⟨h.1,rfl⟩
   ·rintro (q|⟨_,q⟩)
    ·exact .inl q
    ·exact .inr (by omega)
  ·show n∈w.todo++[a]↔_∨((w.seen.set a true)[n]?=some true∧ ¬w.seen[n]?=some true)
   rw[hs,O3,X6];constructor
   ·rintro (q|rfl)
    ·exact .inl q
    ·exact .inr ⟨.inr rfl,by rw[h3];simp⟩
   ·rintro (q|⟨q|q,q2⟩)
    ·exact .inl q
    ·exact absurd q q2
    ·exact .inr q
 ·rename_i h
  refine⟨fun n=>?_,fun n=>⟨.inl,fun q=>q.elim id fun q=>absurd q.1 q.2⟩,rfl⟩;refine⟨.inl,fun q=>q.elim id fun q=>?_⟩;obtain⟨h5,h2⟩:=(he n).1 q;obtain⟨a,ea,la⟩:=hv h5;have:a=n:=by omega
  subst this;have h3:w.seen.getD a true≠false:=fun q=>h ⟨h5,by rw[ea,O0f];exact q⟩
  rw[C0,U1 la] at h3;show w.seen[a]?=some true;rw[U1 la];simpa using h3
theorem jfC: ∀(l:List (Int×Int)) (w:Rw),jfD w.seen.length l→Ad w (w.come l) fun n=>(n:Int)∈jbo l
 |[],w,_=>Ad.none.of fun n=>by simp[jbo]
 |v::l,w,h=>by
  have h1:=ad_put (h v O0h);have h2:=jfC l (w.put v) (by rw[h1.l];exact fun x hx=>h x (O0i _ hx));refine (h1.trans h2).of fun n=>?_
  rw[jfQ,jfQ,List.mem_cons]
def jck (l:List FrT):List Int:=(l.filter fun f=>decide (0≤f.gen)).map (·.gen)
theorem jhX {l:List FrT}{x:Int}:x∈jck l↔ ∃f∈l,0≤f.gen∧f.gen=x:=by
 unfold jck;simp only[List.mem_map,J7,decide_eq_true_eq,and_assoc]
theorem jfM {a b:List (Int×Int)}{x:Int}:x∈jbo (a++b)↔x∈jbo a∨x∈jbo b:=by simp[jfQ]
theorem ad_frame {w:Rw}{f:FrT}(h:FrIn w.seen.length f):Ad w (w.frame f) fun n=>(n:Int)∈jbo (jat [f])∨(n:Int)∈jck [f]:=by
 have h1:=jfC [f.self] w h.1;have h2:=jfC f.regs (w.come [f.self]) (by rw[h1.l];exact h.2.1);have e:jat [f]=[f.self]++f.regs:=by simp[jat]
 unfold Rw.frame;split
 ·rename_i hg
  have h3:=jfC [(5,f.gen)] ((w.come [f.self]).come f.regs) (by rw[h2.l,h1.l];exact h.2.2.1 hg);refine ((h1.trans h2).trans h3).of fun n=>?_
  rw[e,jfM];refine or_congr Iff.rfl ?_;simp only[jfQ,jhX,X6,O4,true_and,exists_eq_left];exact⟨fun q=>⟨hg,q.symm⟩,fun q=>q.2.symm⟩
 ·rename_i hg
  refine (h1.trans h2).of fun n=>?_
  rw[e,jfM];simp only[jhX,X6,exists_eq_left,hg,false_and,or_false]
theorem jjA: ∀(l:List FrT) (w:Rw),(∀f∈l,FrIn w.seen.length f)→Ad w (w.frames l) fun n=>(n:Int)∈jbo (jat l)∨(n:Int)∈jck l
 |[],w,_=>Ad.none.of fun n=>by simp[jbo,jat,jck]
 |f::l,w,h=>by
  have h1:=ad_frame (h f O0h);have h2:=jjA l (w.frame f) (by rw[h1.l];exact fun x hx=>h x (O0i _ hx));refine (h1.trans h2).of fun n=>?_
  have e:jat (f::l)=jat [f]++jat l:=by simp[jat]
  rw[e,jfM];have e2:(n:Int)∈jck (f::l)↔(n:Int)∈jck [f]∨(n:Int)∈jck l:=by
   simp only[jhX,List.mem_cons,X6,List.not_mem_nil,or_false];constructor
   ·rintro⟨g,rfl|hg,q⟩
    ·exact .inl ⟨g,rfl,q⟩
    ·exact .inr ⟨g,hg,q⟩
   ·rintro (⟨g,rfl,q⟩|⟨g,hg,q⟩)
    ·exact⟨g,.inl rfl,q⟩
    ·exact⟨g,.inr hg,q⟩
  rw[e2];constructor<;>(intro q;rcases q with (q|q)|(q|q))<;>simp[q]
def jbv (t:ThT):List Int:=jbo (jat t.frs++[t.val])++(if t.st=1 then [t.on] else [])++jck t.frs
def jcD (s:StT):List Int:=s.threads.flatMap jbv++s.ends.flatMap fun e=>jbo [e.2]
theorem jvw {w:Rw}{t:ThT}(h:ThIn w.seen.length t):Ad w (w.thread t) fun n=>(n:Int)∈jbv t:=by
 have h1:=jjA t.frs w h.1;have h2:=jfC [t.val] (w.frames t.frs) (by rw[h1.l];exact h.2.1);unfold Rw.thread;split
 ·rename_i hs
  have h3:=jfC [(5,t.on)] ((w.frames t.frs).come [t.val]) (by rw[h2.l,h1.l];exact h.2.2.1 hs);refine ((h1.trans h2).trans h3).of fun n=>?_
  unfold jbv;have e:(n:Int)∈jbo [(5,t.on)]↔(n:Int)∈[t.on]:=by simp[jfQ]
  rw[if_pos hs,O3,O3,jfM,e];constructor<;>(intro q;rcases q with ((q|q)|q)|q)<;>simp[q]
 ·rename_i hs
  refine (h1.trans h2).of fun n=>?_
  unfold jbv;rw[if_neg hs,A0,O3,jfM];constructor<;>(intro q;rcases q with (q|q)|q)<;>simp[q]
theorem jld: ∀(l:List ThT) (w:Rw),(∀t∈l,ThIn w.seen.length t)→Ad w (w.threads l) fun n=>(n:Int)∈l.flatMap jbv
 |[],w,_=>Ad.none.of fun n=>by simp
 |t::l,w,h=>by
  have h1:=jvw (h t O0h);have h2:=jld l (w.thread t) (by rw[h1.l];exact fun x hx=>h x (O0i _ hx));refine (h1.trans h2).of fun n=>?_
  rw[O0s,O3]
theorem jvx: ∀(l:List (Int×Int×Int)) (w:Rw),(∀e∈l,jfD w.seen.length [e.2])→Ad w (w.ends l) fun n=>(n:Int)∈l.flatMap fun e=>jbo [e.2]
 |[],w,_=>Ad.none.of fun n=>by simp
 |t::l,w,h=>by
  have h1:=jfC [t.2] w (h t O0h);have h2:=jvx l (w.come [t.2]) (by rw[h1.l];exact fun x hx=>h x (O0i _ hx));refine (h1.trans h2).of fun n=>?_
  rw[O0s,O3]
theorem jdw {s:StT}(h:StIn s)(n:Nat):((jcb s).S n↔(n:Int)∈jcD s)∧(n∈(jcb s).todo↔(n:Int)∈jcD s):=by
 have h1:=jld s.threads ⟨O6 s.cells.length false,[],[]⟩ (by rw[O0o];exact h.ths);have h2:=jvx s.ends _ (by rw[h1.l,O0o];exact h.ends);have h3:=h1.trans h2;have h0: ¬(⟨O6 s.cells.length false,[],[]⟩:Rw).S n:=fun q=>by
  unfold Rw.S at q;have:=R5 q;have:=(List.mem_replicate.1 this).2
  cases this
 have a:=h3.s n;have b:=h3.t n;have e:((n:Int)∈s.threads.flatMap jbv∨(n:Int)∈s.ends.flatMap fun e=>jbo [e.2])↔(n:Int)∈jcD s:=by unfold jcD;rw[O3]
 rw[e] at a;have a':(jcb s).S n↔(n:Int)∈jcD s:=a.trans ⟨fun q=>q.elim (fun q=>absurd q h0) id,.inr⟩;refine⟨a',b.trans ⟨fun q=>q.elim (fun q=>by cases q) fun q=>a'.1 q.1,fun q=> .inr ⟨a'.2 q,h0⟩⟩⟩
def hasL (s:StT):List (List Int):=s.cells.map fun c=>jbo (hasV c)
def edS (s:StT)(a k:Nat):Prop:= ∃c,s.cells[a]?=some c∧(k:Int)∈jbo (hasV c)
def roS (s:StT)(k:Nat):Prop:=(k:Int)∈jcD s
structure WJ (e:Nat→Nat→Prop)(r:Nat→Prop)(w:Rw):Prop where
  sound: ∀n,w.S n→Rch e r n
  closed: ∀n,w.S n→n∉w.todo→ ∀k,e n k→w.S k
  sub: ∀n,n∈w.todo→w.S n
  roots: ∀n,r n→w.S n
theorem mem_drop {α:Type}{l:List α}{a:α}(h:l.getLast?=some a)(x:α):x∈l↔x∈l.dropLast∨x=a:=by
 have:l=l.dropLast++[a]:=by
  have hn:l≠[]:=fun q=>by rw[q] at h;cases h
  rw[O0m hn] at h;injection h with h
  rw[←h];exact (List.dropLast_concat_getLast hn).symm
 conv=>lhs;rw[this]
 rw[O3,X6]
theorem WJ.turn {s:StT}{w:Rw}(si:StIn s)(h7: ∀c∈s.cells,c.kind≠7)(hg: ∀c∈s.cells,∀ f∈c.frs,¬ 0≤f.gen)(ok:w.Ok s.cells.length)(j:WJ (edS s) (roS s) w)(ht:w.todo≠[]):WJ (edS s) (roS s) (w.turn s.cells):=by
 obtain⟨a,ha⟩: ∃a,w.todo.getLast?=some a:=⟨_,O0m ht⟩;obtain⟨han,h1,hk⟩:=ok.pop ha;have hd:=mem_drop ha;obtain⟨c,hca⟩: ∃c,s.cells[a]?=some c:=⟨_,U1 han⟩;have hm:=R5 hca;have hci:=si.cells c hm;have a1:=jfC c.vals { w with todo:=w.todo.dropLast } (by show jfD w.seen.length _;rw[ok.seen];exact hci.1);have a2:=jjA c.frs _ (by rw[a1.l];show ∀f∈c.frs,FrIn w.seen.length f;rw[ok.seen];exact hci.2.1);have a3:=a1.trans a2;have e: ∀n:Nat,((n:Int)∈jbo c.vals∨(n:Int)∈jbo (jat c.frs)∨(n:Int)∈jck c.frs)↔edS s a n:=fun n=>by
  have g0: ¬(n:Int)∈jck c.frs:=fun q=>by
   obtain⟨f,hf,q,_⟩:=jhX.1 q;exact hg c hm f hf q
  have e1:edS s a n↔(n:Int)∈jbo (hasV c):=⟨fun⟨d,hd,q⟩=>by rw[hca] at hd;injection hd with hd;rw[hd];exact q,fun q=>⟨c,hca,q⟩⟩;rw[e1,hasV,if_neg (h7 c hm),jfM];simp[g0]
 have a4:=a3.of e;have et:w.turn s.cells=(({ w with todo:=w.todo.dropLast }:Rw).come c.vals).frames c.frs:=by
  unfold Rw.turn;rw[ha];simp only[hca];rw[if_neg (h7 c hm)]
 rw[←et] at a4;have s1: ∀n,({ w with todo:=w.todo.dropLast }:Rw).S n↔w.S n:=fun n=>Iff.rfl
 have aS:=fun n=>(a4.s n).trans (or_congr (s1 n) Iff.rfl)
 have at': ∀n,n∈(w.turn s.cells).todo↔n∈w.todo.dropLast∨((w.turn s.cells).S n∧ ¬w.S n):=a4.t;have sa:w.S a:=j.sub a ((hd a).2 (.inr rfl));refine⟨fun n hn=>?_,fun n hn hnt k hk=>?_,fun n hn=>?_,fun n hn=>(aS n).2 (.inl (j.roots n hn))⟩
 ·rcases (aS n).1 hn with q|q
  ·exact j.sound n q
  ·exact .edge (j.sound a sa) q
 ·by_cases q:w.S n
  ·by_cases hna:n=a
   ·subst hna;exact (aS k).2 (.inr hk)
   ·refine (aS k).2 (.inl (j.closed n q (fun q2=>hnt ((at' n).2 (.inl ?_))) k hk))
    rcases (hd n).1 q2 with q3|q3
    ·exact q3
    ·exact absurd q3 hna
  ·exact absurd ((at' n).2 (.inr ⟨hn,q⟩)) hnt
 ·rcases (at' n).1 hn with q|q
  ·exact (aS n).2 (.inl (j.sub n ((hd n).2 (.inl q))))
  ·exact q.1
theorem WJ.run {s:StT}(si:StIn s)(h7: ∀c∈s.cells,c.kind≠7)(hg: ∀c∈s.cells,∀ f∈c.frs,¬ 0≤f.gen): ∀(k:Nat) (w:Rw),w.Ok s.cells.length→WJ (edS s) (roS s) w→WJ (edS s) (roS s) (Rw.run s.cells k w)
 |0,w,_,j=>j
 |k+1,w,ok,j=>by
  by_cases ht:w.todo=[]
  ·rw[Rw.run_off ht];exact j
  ·rw[Rw.run_on ht]
   exact WJ.run si h7 hg k _ (Rw.turn_ok ok si.cells rfl ht).1 (j.turn si h7 hg ok ht)
theorem jp4 {cs:List CeT}(h7: ∀c∈cs,c.kind≠7): ∀(k:Nat) (w:Rw),w.weak=[]→(Rw.run cs k w).weak=[]
 |0,w,h=>h
 |k+1,w,h=>by
  by_cases ht:w.todo=[]
  ·rw[Rw.run_off ht];exact h
  ·rw[Rw.run_on ht]
   refine jp4 h7 k _ ?_;unfold Rw.turn;split
   ·exact h
   ·split
    ·exact h
    ·rename_i hc
     rw[if_neg (h7 _ (R5 hc)),(Rw.frames_key _ _).2.2,(Rw.come_key _ _).2.2];exact h
theorem jlv {s:StT}(si:StIn s):(jcb s).Ok s.cells.length∧(jcb s).weak=[]:=by
 have o0:(⟨O6 s.cells.length false,[],[]⟩:Rw).Ok s.cells.length:=⟨by simp,fun a h=>(by cases h),fun a h=>(by cases h)⟩;refine⟨(o0.threads si.ths).ends si.ends,?_⟩;unfold jcb;rw[(Rw.ends_key _ _).2.2,(Rw.threads_key _ _).2.2]
theorem jp3 {s:StT}(si:StIn s)(h7: ∀c∈s.cells,c.kind≠7)(hg: ∀c∈s.cells,∀ f∈c.frs,¬ 0≤f.gen)(n:Nat):(Rw.run s.cells (jcb s).key (jcb s)).S n↔Rch (edS s) (roS s) n:=by
 obtain⟨ok,wk⟩:=jlv si;have j0:WJ (edS s) (roS s) (jcb s):=⟨fun n hn=> .root ((jdw si n).1.1 hn),fun n hn hnt=>absurd ((jdw si n).2.2 ((jdw si n).1.1 hn)) hnt,fun n hn=>(jdw si n).1.2 ((jdw si n).2.1 hn),fun n hn=>(jdw si n).1.2 hn⟩;have j:=WJ.run si h7 hg (jcb s).key _ ok j0;have ht:=(Rw.run_ok si.cells rfl (jcb s).key (jcb s) ok (fun a ha=>by rw[wk] at ha;cases ha)).2.2.2.2.2 (V2 _);refine⟨j.sound n,fun h=>?_⟩;induction h with
 |root h=>exact j.roots _ h
 |edge _ h ih=>exact j.closed _ ih (by rw[ht];simp) _ h
end
section
open Go Go.RowKit
variable {tb:List (FuncId×Bool)}{nd:Bool}{L:Nat→Bool}{B H X:ZH}{K:ZV→ZH→Prop}{i:Nat}{s:StT}
theorem juv {l:List FrT}{f:FrT}:jck (l++[f])=if 0≤f.gen then jck l++[f.gen] else jck l:=by
 unfold jck;by_cases h:0≤f.gen<;>simp[O0p,h]
theorem juu (l:List FrT)(k:Nat):(jck (l.take k)).length≤(jck l).length:=by
 have h:jck l=jck (l.take k)++jck (l.drop k):=by unfold jck;rw[←L3,← O0p,O0r]
 rw[h,G3];omega
theorem jne {α:Type}(f:α→List Int)(l:List α)(k:Nat):((l.take k).flatMap f).length≤(l.flatMap f).length:=by
 have h:l.flatMap f=(l.take k).flatMap f++(l.drop k).flatMap f:=by rw[←O0q,O0r]
 rw[h,G3];omega
theorem jgo {α:Type}{l:List α}{k:Nat}{t:α}(h:l[k]?=some t):l.take (k+1)=l.take k++[t]:=by
 obtain⟨hk,e⟩:=U0.1 h;rw[X5 hk,e]
theorem ap1 {g:Nat}{P:ZB}{r x:List Int}{Y:ZH}(hl:L (B.length+1)=true)(hb:r.length+x.length≤1000000000):appZ L (B++(P:: .grow g 1 (r.map eI)::Y)) 1 8 (x.map eI) (.own (B.length+1) g 0 r.length false)=some (.own (B.length+1) (g+1) 0 (r.length+x.length) false,B++(P:: .grow (g+1) 1 ((r++x).map eI)::Y)):=by
 rw[jcU];refine⟨_,jeF,by simp,by unfold reach;simp;omega,hl,by simp,?_⟩;rw[jhO,W1,I5 (by simp),L3]
def RtI (H:ZH)(s:StT)(r:List Int)(s':ZS)(h':ZH):Prop:= ∃g X,s' 3= .own (H.length+1) g 0 r.length false∧h'=H++(.box (eS s):: .grow g 1 (r.map eI)::X)
theorem x_at2 {P Q T:ZB}{Y:ZH}:(B++(P::Q::(X++(T::Y))))[B.length+(X.length+1+1)]?=some T:=by
 rw[N0 (by omega),D8];simp
theorem x_st2 {P Q T U:ZB}{Y:ZH}:(B++(P::Q::(X++(T::Y)))).set (B.length+(X.length+1+1)) U=B++(P::Q::(X++(U::Y))):=by
 rw[B7 _ _ (by omega),D8];simp
theorem jil:type_of% (P3 @x_at2 @x_st2):=P3 @x_at2 @x_st2
def ji5:jam:=jau 2 3 39 38 37 50 (kks [kkX 40 8 36 38,kkQ 41 8 40,kkI 7 (.zero [kkZ 0,kkZ 0,kkZ 0,kkZ 0,kkZ 0,kkZ 0,kkS,kkS]),kkR 8 7 41] (kks [kkA 42 3 7,kkL 43 42,kkB 44 .geq 43 (kkV 0)] (.cond (kkt 44) (.ops [kkM 45 3,kkA 46 3 7,kkL 47 46,kkI 48 (.lits 1 1 [kkZ 0] [(0,1,(kkt 47))]),kkI 49 (.append 1 8 (kkt 45) (kkt 48)),kkM 3 49]) .skip)))
theorem jp6 {S:ZS}{KK:jaA→ZS→ZH→Prop}{r1:List Int}{g:Nat}{X1:ZH}{l:List FrT}(h3:S 3= .own (H.length+1) g 0 r1.length false)(h36:S 36= .fz 8 false (l.map eFr))(h37:S 37=Z64 (l.length:Int))(h38:S 38=Z64 0)
  (hb:r1.length+(jck l).length≤100000000) (hbl:l.length≤100000000) (hL: ∀k,L (H.length+k)=true) (hK: ∀s2 h2,RtI H s (r1++jck l) s2 h2→KK .normal s2 h2):
  zW (XC tb nd) (jag Tryz.prog) ⟨[(3,[(0,1)])],[],[]⟩ L ji5 S (H++(.box (eS s):: .grow g 1 (r1.map eI)::X1)) KK:=by
 simp only[ji5,kkP];have HL:=Z4 hL;have HB:=Z4 hb;have HK:=Z4 hK;have l1:L (H.length+1)=true:=hL 1;have i0:RtI H s (r1++jck (l.take 0)) S (H++(.box (eS s):: .grow g 1 (r1.map eI)::X1)):=⟨g,X1,by simp[jck,h3],by simp[jck]⟩;clear hL hb hK;refine jaK [(36,.fz 8 false (l.map eFr))] l.length (fun k s' h'=>RtI H s (r1++jck (l.take k)) s' h') (by omega) ⟨rfl,rfl,rfl,rfl,rfl,rfl⟩ h38 h37 ⟨h36,trivial⟩ rfl rfl (by decide) i0 ?_ ?_
 ·clear h3 h36 h37 h38 i0
  rintro k s' h' hkl ⟨g,X1,f3,rfl⟩ hi hln ⟨f36,-⟩;obtain⟨f,hv⟩: ∃v,l[k]?=some v:=⟨_,U1 hkl⟩;have hn1:r1++jck (l.take (k+1))=if 0≤f.gen then (r1++jck (l.take k))++[f.gen] else r1++jck (l.take k):=by
   rw[jgo hv,juv];split
   ·rw[M8]
   ·rfl
  have hle:(r1++jck (l.take k)).length≤100000000:=by
   have:=juu l k;have:=HB.out;rw[G3];omega
  obtain⟨r,hr⟩: ∃r,r=r1++jck (l.take k):=⟨_,rfl⟩;rw[←hr] at hn1 hle f3 ⊢;have hlX:L (H.length+(X1.length+1+1))=true:=HL.out _;have hr1:(r.length+1)*8≤reach:=by unfold reach;omega
  have N1:=Z4 hn1;clear hn1 hr hle;by_cases hg:0≤f.gen
  ·have nx: ∀(S':ZS) g' Y,S' 3= .own (H.length+1) g' 0 (r.length+1) false→RtI H s (r1++jck (l.take (k+1))) S' (H++(.box (eS s):: .grow g' 1 (r.map eI++[[Z64 f.gen]])::Y)):=fun S' g' Y h=>⟨g',Y,by rw[h,N1.out,if_pos hg];simp,by rw[N1.out,if_pos hg];simp⟩
   have NX:=Z4 nx;clear nx;with_reducible repeat' first|simp only[zQ,seval,X0,jai,jil,hlX,hv,hg,hr1,l1, *]|simp only[jab]|apply P3|intro _
   all_goals (refine NX.out _ _ _ ?_;rfl)
  ·have nx: ∀(S':ZS) Y,S' 3= .own (H.length+1) g 0 r.length false→RtI H s (r1++jck (l.take (k+1))) S' (H++(.box (eS s):: .grow g 1 (r.map eI)::Y)):=fun S' Y h=>⟨g,Y,by rw[h,N1.out,if_neg hg],by rw[N1.out,if_neg hg]⟩
   have NX:=Z4 nx;clear nx;with_reducible repeat' first|simp only[zQ,seval,X0,jai,jil,hlX,hv,hg,l1, *]|simp only[jab]|apply P3|intro _
   all_goals (refine NX.out _ _ ?_;first|rfl|exact f3)
 ·clear h3 h36 h37 h38 i0
  rintro s' h' hI ⟨f36,-⟩;rw[I5 (V2 _)] at hI;exact HK.out _ _ hI
theorem troots_z (hf: ∀t∈s.threads,(jat t.frs).length≤10000000)(hb:(jcD s).length≤100000000)(hn:s.threads.length≤100000000∧s.ends.length≤100000000)(hK:K (.fz 1 false ((jcD s).map eI)) H):
  ZC (XC tb nd) (jag Tryz.prog) 18 [.agg (eS s)] L H K:=by
 refine K6 ⟨[(3,[(0,1)])],[],[]⟩ (jaf (by decide)) jrr (by simp) fun hL=>?_
 simp only[jkE,kkP];have HF:=Z4 hf;have HB:=Z4 hb;have HN:=Z4 hn;have HK:=Z4 hK;have HL:=Z4 hL;clear hf hb hn hK hL;with_reducible repeat' first|simp only[zQ,seval,X0,jai, *]|simp only[jab]|apply P3|intro _
 refine jaK [(11,.fz 5 false (s.threads.map eTh)),(1,.ptr H.length 0)] s.threads.length (fun k s' h'=>RtI H s ((s.threads.take k).flatMap jbv) s' h') (by have:=HN.out;omega) ⟨rfl,rfl,rfl,rfl,rfl,rfl⟩ rfl rfl (by repeat' (first|exact trivial|(refine⟨rfl,?_⟩)|(refine⟨by simp only[jaj,X4,reduceIte];assumption,?_⟩))) rfl rfl (by decide) ⟨0,[],rfl,rfl⟩ ?_ ?_
 ·rintro k s' h' hkl ⟨g,X1,f3,rfl⟩ hi hln ⟨f11,f1,-⟩
  obtain⟨t,hv⟩: ∃v,s.threads[k]?=some v:=⟨_,U1 hkl⟩;have hn1:(s.threads.take (k+1)).flatMap jbv=(s.threads.take k).flatMap jbv++jbv t:=by rw[jgo hv,O0q];simp
  have hle:((s.threads.take k).flatMap jbv).length+(jbv t).length≤100000000:=by
   rw[←G3,← hn1];have h1:=jne jbv s.threads (k+1);have h2:=HB.out;unfold jcD at h2;rw[G3] at h2;omega
  obtain⟨r,hr⟩: ∃r,r=(s.threads.take k).flatMap jbv:=⟨_,rfl⟩;rw[←hr] at hn1 hle f3 ⊢;have hlX:L (H.length+(X1.length+1+1))=true:=HL.out _;have N1:=Z4 hn1;have LE:=Z4 hle;have HFT:=Z4 (HF.out t (R5 hv));clear hn1 hle hr;with_reducible repeat' first|simp only[zQ,seval,X0,jai,jil,hlX,hv, *]|simp only[jab]|apply P3|intro _
  refine jmC (l:=t.frs) (V3 HFT.out (by omega)) ?_;obtain⟨W,hW⟩: ∃W,W=H++(.box (eS s):: .grow g 1 (r.map eI)::(X1++[.box (eTh t)])):=⟨_,rfl⟩;have hWl:L W.length=true:=by rw[hW];simp only[G3,Q3];exact HL.out _
  rw[←hW];have ap2:appZ L (W++[.grow 0 2 ((jat t.frs).map eVl)]) 2 16 [[Z64 t.val.1,Z64 t.val.2]] (.own W.length 0 0 (jat t.frs).length false)=some (.own W.length 1 0 ((jat t.frs).length+1) false,W++[.grow 1 2 ((jat t.frs++[t.val]).map eVl)]):=by
   rw[jcU];refine⟨_,jcr,by simp,by unfold reach;have:=HFT.out;simp;omega,hWl,rfl,?_⟩;rw[jjG,W1,I5 (by simp),L3];rfl
  have bt: ∀Y,(W++Y)[H.length+(X1.length+1+1)]?=some (.box (eTh t)):=fun Y=>by
   rw[hW,M8,N9,N9,M8];exact x_at2
  have HW:=Z4 hW;have hlt:H.length+(X1.length+1+1)<H.length+(X1.length+1+1+1):=by omega
  clear hW hWl;with_reducible repeat' first|simp only[zQ,seval,X0,ap2,bt,hlt, *]|simp only[jab]|apply P3|intro _
  have rw2:ja2 (W++[.grow 1 2 ((jat t.frs++[t.val]).map eVl)]) 2 (.own W.length 1 0 ((jat t.frs).length+1) false)=some ((jat t.frs++[t.val]).map eVl):=jbz jcr (by simp);refine jod (l:=jat t.frs++[t.val]) rw2 (by have:=HFT.out;simp;omega) ?_;have R1:(jbo (jat t.frs++[t.val])).length≤100000000:=V3 (jhV _) (by have:=HFT.out;simp;omega);obtain⟨q,hq⟩: ∃q,q=jbo (jat t.frs++[t.val]):=⟨_,rfl⟩;rw[←hq] at R1 ⊢;rw[HW.out];have HQ:=Z4 hq;have hle2:r.length+q.length≤100000000:=by
   have:=LE.out;unfold jbv at this;rw[G3,G3,← HQ.out] at this;omega
  have l1:L (H.length+1)=true:=HL.out 1;have hb9:r.length+q.length≤100000000:=hle2;have hr1:(r.length+q.length)*8≤reach:=by unfold reach;omega
  have hr2:(r.length+q.length+1)*8≤reach:=by unfold reach;omega
  have fl:t.frs.length≤100000000:=V3 (jd0 _) (V3 HFT.out (by omega));clear hq R1 hle2;by_cases hs:t.st=1
  ·have e1:(s.threads.take (k+1)).flatMap jbv=(r++q++[t.on])++jck t.frs:=by rw[N1.out,jbv,if_pos hs,← HQ.out];simp[M8]
   have hb1:(r++q++[t.on]).length+(jck t.frs).length≤100000000:=by
    have:=LE.out;rw[jbv,if_pos hs,← HQ.out] at this;simp only[G3,Q3,G9] at this ⊢;omega
   have E1:=Z4 e1;have HB1:=Z4 hb1;have e3:List.take (r.length+q.length) (r.map eI++q.map eI)++[[Z64 t.on]]=(r++q++[t.on]).map eI:=by rw[I5 (by simp)];simp
   have E3:=Z4 e3;clear e1 hb1 e3;with_reducible repeat' first|simp only[zQ,seval,X0,jai,jil,hr1,hr2,l1,hs, *]|simp only[jab]|apply P3|intro _
   rw[E3.out];refine jp6 (r1:=r++q++[t.on]) (l:=t.frs) ?_ ?_ ?_ ?_ HB1.out fl HL.out fun s2 h2 hI=>?_
   ·rw[G3,G3];rfl
   ·rfl
   ·rfl
   ·rfl
   rw[←E1.out] at hI;obtain⟨g2,X2,f3b,rfl⟩:=hI;exact⟨g2,X2,f3b,rfl⟩
  ·have e1:(s.threads.take (k+1)).flatMap jbv=(r++q)++jck t.frs:=by rw[N1.out,jbv,if_neg hs,← HQ.out];simp[M8]
   have hb1:(r++q).length+(jck t.frs).length≤100000000:=by
    have:=LE.out;rw[jbv,if_neg hs,← HQ.out] at this;simp only[G3,G9] at this ⊢;omega
   have E1:=Z4 e1;have HB1:=Z4 hb1;clear e1 hb1;with_reducible repeat' first|simp only[zQ,seval,X0,jai,jil,hr1,l1,hs, *]|simp only[jab]|apply P3|intro _
   rw[show r.map eI++q.map eI=(r++q).map eI by simp];refine jp6 (r1:=r++q) (l:=t.frs) ?_ ?_ ?_ ?_ HB1.out fl HL.out fun s2 h2 hI=>?_
   ·rw[G3];rfl
   ·rfl
   ·rfl
   ·rfl
   rw[←E1.out] at hI;obtain⟨g2,X2,f3b,rfl⟩:=hI;exact⟨g2,X2,f3b,rfl⟩
 ·rintro s' h' ⟨g,X1,f3,rfl⟩ ⟨f11,f1,-⟩
  rw[I5 (V2 _)] at f3 ⊢;obtain⟨r0,hr0⟩: ∃r,r=s.threads.flatMap jbv:=⟨_,rfl⟩;have hroots:jcD s=r0++s.ends.flatMap fun e=>jbo [e.2]:=by rw[hr0];rfl
  rw[←hr0] at f3 ⊢;have HR:=Z4 hroots;have l1:L (H.length+1)=true:=HL.out 1;have i0:RtI H s (r0++(s.ends.take 0).flatMap fun e=>jbo [e.2]) s' (H++(.box (eS s):: .grow g 1 (r0.map eI)::X1)):=⟨g,X1,by simp[f3],by simp⟩;have I0: ∀S':ZS,S' 3=s' 3→RtI H s (r0++(s.ends.take 0).flatMap fun e=>jbo [e.2]) S' (H++(.box (eS s):: .grow g 1 (r0.map eI)::X1)):=fun S' h=>⟨g,X1,by simp[f3,h],by simp⟩
  have II:=Z4 I0;clear hr0 hroots i0 I0;with_reducible repeat' first|simp only[zQ,seval,X0,jai, *]|simp only[jab]|apply P3|intro _
  refine jaK [(53,.fz 3 false (s.ends.map eEn))] s.ends.length (fun k s' h'=>RtI H s (r0++(s.ends.take k).flatMap fun e=>jbo [e.2]) s' h') (by have:=HN.out;omega) ⟨rfl,rfl,rfl,rfl,rfl,rfl⟩ rfl rfl (by repeat' (first|exact trivial|(refine⟨rfl,?_⟩)|(refine⟨by simp only[jaj,X4,reduceIte];assumption,?_⟩))) rfl rfl (by decide) (II.out _ rfl) ?_ ?_
  ·rintro k s' h' hkl ⟨g,X1,f3,rfl⟩ hi hln ⟨f53,-⟩
   obtain⟨t,hv⟩: ∃v,s.ends[k]?=some v:=⟨_,U1 hkl⟩;have hn1:r0++((s.ends.take (k+1)).flatMap fun e=>jbo [e.2])=(r0++(s.ends.take k).flatMap fun e=>jbo [e.2])++jbo [t.2]:=by rw[jgo hv,O0q];simp
   have hle:(r0++(s.ends.take k).flatMap fun e=>jbo [e.2]).length+(jbo [t.2]).length≤100000000:=by
    rw[←G3,← hn1];have h1:=jne (fun e:Int×Int×Int=>jbo [e.2]) s.ends (k+1);have h2:=HB.out;rw[HR.out,G3] at h2;rw[G3];omega
   obtain⟨r,hr⟩: ∃r,r=r0++(s.ends.take k).flatMap fun e=>jbo [e.2]:=⟨_,rfl⟩
   rw[←hr] at hn1 hle f3 ⊢;obtain⟨q,hq⟩: ∃q,q=jbo [t.2]:=⟨_,rfl⟩;rw[←hq] at hn1 hle;have hlX:L (H.length+(X1.length+1+1))=true:=HL.out _;have hr1:(r.length+q.length)*8≤reach:=by unfold reach;omega
   have nx: ∀(S':ZS) g' Y,S' 3= .own (H.length+1) g' 0 (r.length+q.length) false→RtI H s (r0++((s.ends.take (k+1)).flatMap fun e=>jbo [e.2])) S' (H++(.box (eS s):: .grow g' 1 (r.map eI++q.map eI)::Y)):=fun S' g' Y h=>⟨g',Y,by rw[h,hn1];simp,by rw[hn1];simp⟩
   have NX:=Z4 nx;have HQ:=Z4 hq;clear hn1 hr hle nx hq;with_reducible repeat' first|simp only[zQ,seval,X0,jai,jil,hlX,hv, *]|simp only[jab]|apply P3|intro _
   refine jod (l:=[t.2]) jaM (by simp) ?_;rw[←HQ.out];with_reducible repeat' first|simp only[zQ,seval,X0,jai,jil,hr1,l1, *]|simp only[jab]|apply P3|intro _
   all_goals (refine NX.out _ _ _ ?_;rfl)
  ·rintro s' h' ⟨g,X1,f3,rfl⟩ ⟨f53,-⟩
   rw[I5 (V2 _),← HR.out] at f3 ⊢;have fin:Fin H (.own (H.length+1) g 0 (jcD s).length false) (H++(.box (eS s):: .grow g 1 ((jcD s).map eI)::X1)) K:=by
    refine Fin.frz (k:=1) (rows:=(jcD s).map eI) jeF (by simp) (jlN _) ?_;rw[jhO,W1,I5 (by simp)];exact Fin.trunc (K4 H _) rfl (by rw[K5];exact HK.out)
   clear II;with_reducible repeat' first|simp only[zQ,seval,X0, *]|simp only[jab]|apply P3|intro _
end
section
open Go Go.RowKit
variable {tb:List (FuncId×Bool)}{nd:Bool}{L:Nat→Bool}{B H X:ZH}{K:ZV→ZH→Prop}{i:Nat}{s:StT}
abbrev eLi (l:List Int):List ZV:=[.fz 1 false (l.map eI)]
theorem jqz: ∀r:List (List Int),(r.map eLi).flatten.all jbR=true
 |[]=>rfl
 |a::r=>by simp[B6,D6,jqz r,jbR]
theorem has_take {k:Nat}{c:CeT}(h:s.cells[k]?=some c):(hasL s).take (k+1)=(hasL s).take k++[jbo (hasV c)]:=by
 refine jgo ?_;unfold hasL;rw[U8,h];rfl
abbrev GtH (H:ZH)(s:StT)(rs:List Int)(g:Nat)(hl:List (List Int))(X:ZH):ZH:=H++(.box (eS s):: .box [.nil,.nil]:: .grow g 1 (hl.map eLi):: .box [.own (H.length+2) g 0 hl.length false,.fz 1 false (rs.map eI)]::X)
def GtI (H:ZH)(s:StT)(rs:List Int)(hl:List (List Int))(h':ZH):Prop:=(∃g X,h'=GtH H s rs g hl X)∧ ∀l∈hl,l.length≤10
theorem jpZ (hf: ∀t∈s.threads,(jat t.frs).length≤10000000)(hb:(jcD s).length≤100000000)(hn:s.threads.length≤100000000∧s.ends.length≤100000000)(hc:s.cells.length≤100000000)(hv: ∀c∈s.cells,(jat c.frs).length+c.vals.length≤100000000)
  (hK: ∀l1 l2 b,(b=true→l1=hasL s∧l2=jcD s∧l1.length≤100∧l2.length≤100∧ ∀l∈l1,l.length≤10)→K (.tuple [.agg [.fz 1 false (l1.map eLi),.fz 1 false (l2.map eI)],ZBo b]) H):
  ZC (XC tb nd) (jag Tryz.prog) 6 [.agg (eS s)] L H K:=by
 refine K6 ⟨[(10,[(0,1)]),(24,[(0,1001),(1,1001)])],[],[]⟩ (jaf (by decide)) jrs (by simp) fun hL=>?_
 simp only[jkF,kkP];have HF:=Z4 hf;have HB:=Z4 hb;have HN:=Z4 hn;have HC:=Z4 hc;have HV:=Z4 hv;have HK:=Z4 hK;have HL:=Z4 hL;clear hf hb hn hc hv hK hL;with_reducible repeat' first|simp only[zQ,seval,X0,jai, *]|simp only[jab]|apply P3|intro _
 refine troots_z HF.out HB.out HN.out ?_;obtain⟨rs,hrs⟩: ∃rs,rs=jcD s:=⟨_,rfl⟩;rw[←hrs];have HRS:=Z4 hrs;have l3:L (H.length+3)=true:=HL.out 3;clear hrs;with_reducible repeat' first|simp only[zQ,seval,X0,jai,l3, *]|simp only[jab]|apply P3|intro _
 refine jaK [(12,.fz 4 false (s.cells.map eCe)),(2,.ptr (H.length+1) 0),(4,.ptr (H.length+3) 0)] s.cells.length (fun k s' h'=>GtI H s rs ((hasL s).take k) h') (by have:=HC.out;omega) ⟨rfl,rfl,rfl,rfl,rfl,rfl⟩ rfl rfl (by repeat' (first|exact trivial|(refine⟨rfl,?_⟩)|(refine⟨by simp only[jaj,X4,reduceIte];assumption,?_⟩))) rfl rfl (by decide) ⟨⟨0,[],rfl⟩,by simp⟩ ?_ ?_
 ·rintro k s' h' hkl ⟨⟨g,X1,rfl⟩,h10⟩ hi hln ⟨f12,f2,f4,-⟩
  obtain⟨c,hv⟩: ∃v,s.cells[k]?=some v:=⟨_,U1 hkl⟩;have hn1:=has_take hv;have hlk:((hasL s).take k).length≤100000000:=by rw[C4];have:=HC.out;omega
  obtain⟨hl,hhl⟩: ∃hl,hl=(hasL s).take k:=⟨_,rfl⟩;rw[←hhl] at hn1 h10 hlk ⊢;have hlX:L (H.length+(X1.length+1+1+1+1))=true:=HL.out _;have HVc:=Z4 (HV.out c (R5 hv));have N1:=Z4 hn1;have H10:=Z4 h10;have HLK:=Z4 hlk;clear hn1 h10 hlk hhl;with_reducible repeat' first|simp only[zQ,seval,X0,jai,jeM,hlX,hv, *]|simp only[jab]|apply P3|intro _
  refine thas_z (c:=c) HVc.out ?_;with_reducible repeat' first|simp only[zQ,seval,X0,jai,jeM,hlX, *]|simp only[jab]|apply P3|intro _
  have hvl:(hasV c).length≤100000000:=by
   unfold hasV;split
   ·simp
   ·have:=HVc.out;rw[G3];omega
  refine jod (l:=hasV c) jaM hvl ?_;obtain⟨q,hq⟩: ∃q,q=jbo (hasV c):=⟨_,rfl⟩;rw[←hq];rw[←hq] at N1;clear hq hvl;by_cases hbig:(10:Int)<(q.length:Int)
  ·have fin:=fun X=>finT (zs:=[.agg [.fz 1 false [],.fz 1 false []],ZBo false]) rfl (HK.out [] [] false (fun h=>by cases h)) X
   have l1:L (H.length+1)=true:=HL.out 1;have oc: ∀H',jbA [(0,1001),(1,1001)] [.nil,.nil] H'=some ([.fz 1 false [],.fz 1 false []],H'):=fun H'=>by simp[jbA]
   with_reducible repeat' first|simp only[zQ,seval,X0,jai,jeM,hbig,l1,oc, *]|simp only[jab]|apply P3|intro _
  ·have hr1:(hl.length+1)*24≤reach:=by have:=HLK.out;unfold reach;omega
   have l2:L (H.length+2)=true:=HL.out 2;have l3:L (H.length+3)=true:=HL.out 3;have nx : ∀ g' Y, GtI H s rs ((hasL s).take (k + 1)) (H ++ (.box (eS s) :: .box [.nil, .nil] :: .grow g' 1 (hl.map eLi ++ [[.fz 1 false (q.map eI)]]) :: .box [.own (H.length + 2) g' 0 (hl.length + 1) false, .fz 1 false (rs.map eI)] :: Y)) := fun g' Y => ⟨⟨g', Y, by rw [N1.out]; simp⟩, fun l h => by
    rw[N1.out] at h;rcases O3.1 h with h|h
    ·exact H10.out l h
    ·rw[X6.1 h];omega⟩
   have NX:=Z4 nx;clear nx;with_reducible repeat' first|simp only[zQ,seval,X0,jai,jeM,hbig,hr1,l2,l3, *]|simp only[jab]|apply P3|intro _
   all_goals exact NX.out _ _
 ·rintro s' h' ⟨⟨g,X1,rfl⟩,h10⟩ ⟨f12,f2,f4,-⟩
  have hln:(hasL s).length=s.cells.length:=by simp[hasL]
  rw[I5 (by omega)] at h10 ⊢;have FI:Hid (∀b P Q X,(b=true→(hasL s).length≤100∧rs.length≤100)→Fin H (.tuple [.agg [.own (H.length+2) g 0 (hasL s).length false,.fz 1 false (rs.map eI)],ZBo b]) (H++(P::Q:: .grow g 1 ((hasL s).map eLi)::X)) K):=Z4 fun b P Q X hb=>by
   refine Fin.frzTA (j:=0) (c:=0) (k:=1) (rows:=(hasL s).map eLi) rfl rfl jfV (by simp) (jqz _) ?_;rw[jjF,W1,I5 (by simp)];exact Fin.truncT (K4 H _) rfl (by rw[K5];exact HK.out (hasL s) rs b fun h=>⟨rfl,HRS.out,(hb h).1,(hb h).2,h10⟩)
  have l1:L (H.length+1)=true:=HL.out 1;have hlt:H.length+3<H.length+(X1.length+1+1+1+1):=by omega
  have n1:=(jvo (show H.length+1<H.length+3 by omega)).1;clear h10 hln;by_cases c1:((hasL s).length:Int)≤100
  ·by_cases c2:(rs.length:Int)≤100
   ·have fin:=fun P Q X=>FI.out true P Q X fun _=>⟨by omega,by omega⟩
    with_reducible repeat' first|simp only[zQ,seval,X0,jai,c1,c2,l1,hlt,n1, *]|simp only[jab]|apply P3|intro _
   ·have fin:=fun P Q X=>FI.out false P Q X fun h=>by cases h
    with_reducible repeat' first|simp only[zQ,seval,X0,jai,c1,c2,l1,hlt,n1, *]|simp only[jab]|apply P3|intro _
  ·have fin:=fun P Q X=>FI.out false P Q X fun h=>by cases h
   with_reducible repeat' first|simp only[zQ,seval,X0,jai,c1,l1,hlt,n1, *]|simp only[jab]|apply P3|intro _
end
end Go.Proofs.YtlkapggcppcafaaGreatDoor
