/-
  Sorting in place in ZM: merging, its stages.
-/
import Derived.Test.YtoeppobpnhlebaaMrV8
namespace Go.Proofs.Ytoeppobpnhlebaa
open Go Go.RowKit
set_option linter.unusedVariables false
set_option linter.unusedSimpArgs false
def c_symT4 : ACode := .seq (.ops [⟨(some 206), .mv (.tmp 18), none, true⟩,
 ⟨(some 207), .mv (.tmp 24), none, true⟩,
 ⟨(some 208), .bin .lss (.tmp 206) (.tmp 207), none, true⟩,
 ⟨(some 209), .mv (.tmp 208), none, true⟩,
 ⟨(some 210), .mv (.tmp 24), (some (209, true)), true⟩,
 ⟨(some 211), .mv (.tmp 3), (some (209, true)), true⟩,
 ⟨(some 212), .bin .lss (.tmp 210) (.tmp 211), (some (209, true)), true⟩,
 ⟨(some 213), .pick (.tmp 209) (.tmp 212) (.av (.val (.bool false))), none, true⟩])
 (.cond (.tmp 213)
 (.ops [⟨(some 214), .mv (.tmp 0), none, true⟩,
 ⟨(some 215), .mv (.tmp 18), none, true⟩,
 ⟨(some 216), .mv (.tmp 24), none, true⟩,
 ⟨(some 217), .mv (.tmp 3), none, true⟩,
 ⟨(some 218), .mv (.tmp 4), none, true⟩,
 ⟨(some 219), .call (.av (.func 59 [])) [(.tmp 214), (.tmp 215), (.tmp 216), (.tmp 217), (.tmp 218)], none, true⟩])
 (.skip))
def c_symT3 : ACode := .seq (.seq (.ops [⟨(some 192), .mv (.tmp 1), none, true⟩,
 ⟨(some 193), .mv (.tmp 20), none, true⟩,
 ⟨(some 194), .bin .lss (.tmp 192) (.tmp 193), none, true⟩,
 ⟨(some 195), .mv (.tmp 194), none, true⟩,
 ⟨(some 196), .mv (.tmp 20), (some (195, true)), true⟩,
 ⟨(some 197), .mv (.tmp 18), (some (195, true)), true⟩,
 ⟨(some 198), .bin .lss (.tmp 196) (.tmp 197), (some (195, true)), true⟩,
 ⟨(some 199), .pick (.tmp 195) (.tmp 198) (.av (.val (.bool false))), none, true⟩])
 (.cond (.tmp 199)
 (.ops [⟨(some 200), .mv (.tmp 0), none, true⟩,
 ⟨(some 201), .mv (.tmp 1), none, true⟩,
 ⟨(some 202), .mv (.tmp 20), none, true⟩,
 ⟨(some 203), .mv (.tmp 18), none, true⟩,
 ⟨(some 204), .mv (.tmp 4), none, true⟩,
 ⟨(some 205), .call (.av (.func 59 [])) [(.tmp 200), (.tmp 201), (.tmp 202), (.tmp 203), (.tmp 204)], none, true⟩])
 (.skip)))
 c_symT4
def c_symT2 : ACode := .seq (.ops [⟨(some 175), .mv (.tmp 19), none, true⟩,
 ⟨(some 176), .mv (.tmp 20), none, true⟩,
 ⟨(some 177), .bin .sub (.tmp 175) (.tmp 176), none, true⟩,
 ⟨(some 24), .mv (.tmp 177), none, true⟩])
 (.seq (.seq (.ops [⟨(some 178), .mv (.tmp 20), none, true⟩,
 ⟨(some 179), .mv (.tmp 2), none, true⟩,
 ⟨(some 180), .bin .lss (.tmp 178) (.tmp 179), none, true⟩,
 ⟨(some 181), .mv (.tmp 180), none, true⟩,
 ⟨(some 182), .mv (.tmp 2), (some (181, true)), true⟩,
 ⟨(some 183), .mv (.tmp 24), (some (181, true)), true⟩,
 ⟨(some 184), .bin .lss (.tmp 182) (.tmp 183), (some (181, true)), true⟩,
 ⟨(some 185), .pick (.tmp 181) (.tmp 184) (.av (.val (.bool false))), none, true⟩])
 (.cond (.tmp 185)
 (.ops [⟨(some 186), .mv (.tmp 0), none, true⟩,
 ⟨(some 187), .mv (.tmp 20), none, true⟩,
 ⟨(some 188), .mv (.tmp 2), none, true⟩,
 ⟨(some 189), .mv (.tmp 24), none, true⟩,
 ⟨(some 190), .mv (.tmp 4), none, true⟩,
 ⟨(some 191), .call (.av (.func 62 [])) [(.tmp 186), (.tmp 187), (.tmp 188), (.tmp 189), (.tmp 190)], none, true⟩])
 (.skip)))
 c_symT3)
def c_symT1 : ACode := .seq (.ops [⟨(some 147), .mv (.tmp 19), none, true⟩,
 ⟨(some 148), .bin .sub (.tmp 147) (.av (.val (.int .i64 1))), none, true⟩,
 ⟨(some 22), .mv (.tmp 148), none, true⟩])
 (.seq (.block 8 (.loop (.seq (.seq (.ops [⟨(some 149), .mv (.tmp 20), none, true⟩,
 ⟨(some 150), .mv (.tmp 21), none, true⟩,
 ⟨(some 151), .bin .lss (.tmp 149) (.tmp 150), none, true⟩])
 (.cond (.tmp 151)
 (.skip)
 (.exit 8)))
 (.block 9 (.seq (.ops [⟨(some 152), .mv (.tmp 20), none, true⟩,
 ⟨(some 153), .mv (.tmp 21), none, true⟩,
 ⟨(some 154), .bin .add (.tmp 152) (.tmp 153), none, true⟩,
 ⟨(some 155), .conv .u64 (.tmp 154), none, true⟩,
 ⟨(some 156), .bin .shr (.tmp 155) (.av (.val (.int .u64 1))), none, true⟩,
 ⟨(some 157), .conv .i64 (.tmp 156), none, true⟩,
 ⟨(some 23), .mv (.tmp 157), none, true⟩])
 (.seq (.opsD [⟨(some 158), .mv (.tmp 4), none, true⟩,
 ⟨(some 159), .mv (.tmp 0), none, true⟩,
 ⟨(some 160), .mv (.tmp 22), none, true⟩,
 ⟨(some 161), .mv (.tmp 23), none, true⟩,
 ⟨(some 162), .bin .sub (.tmp 160) (.tmp 161), none, true⟩,
 ⟨(some 163), .indexAddr 1 (.tmp 159) (.tmp 162), none, true⟩,
 ⟨(some 164), .load none (.tmp 163), none, true⟩,
 ⟨(some 165), .mv (.tmp 0), none, true⟩,
 ⟨(some 166), .mv (.tmp 23), none, true⟩,
 ⟨(some 167), .indexAddr 1 (.tmp 165) (.tmp 166), none, true⟩,
 ⟨(some 168), .load none (.tmp 167), none, true⟩,
 ⟨(some 169), .call (.tmp 158) [(.tmp 164), (.tmp 168)], none, true⟩,
 ⟨(some 170), .bin .lss (.tmp 169) (.av (.val (.int .i64 0))), none, true⟩,
 ⟨(some 171), .un .not (.tmp 170), none, true⟩])
 (.cond (.tmp 171)
 (.ops [⟨(some 172), .mv (.tmp 23), none, true⟩,
 ⟨(some 173), .bin .add (.tmp 172) (.av (.val (.int .i64 1))), none, true⟩,
 ⟨(some 20), .mv (.tmp 173), none, true⟩])
 (.ops [⟨(some 174), .mv (.tmp 23), none, true⟩,
 ⟨(some 21), .mv (.tmp 174), none, true⟩]))))))))
 c_symT2)
def c_symB2 : ACode := .seq (.ops [⟨(some 81), .mv (.tmp 1), none, true⟩,
 ⟨(some 14), .mv (.tmp 81), none, true⟩])
 (.seq (.ops [⟨(some 82), .mv (.tmp 2), none, true⟩,
 ⟨(some 15), .mv (.tmp 82), none, true⟩])
 (.seq (.block 4 (.loop (.seq (.seq (.ops [⟨(some 83), .mv (.tmp 14), none, true⟩,
 ⟨(some 84), .mv (.tmp 15), none, true⟩,
 ⟨(some 85), .bin .lss (.tmp 83) (.tmp 84), none, true⟩])
 (.cond (.tmp 85)
 (.skip)
 (.exit 4)))
 (.block 5 (.seq (.ops [⟨(some 86), .mv (.tmp 14), none, true⟩,
 ⟨(some 87), .mv (.tmp 15), none, true⟩,
 ⟨(some 88), .bin .add (.tmp 86) (.tmp 87), none, true⟩,
 ⟨(some 89), .conv .u64 (.tmp 88), none, true⟩,
 ⟨(some 90), .bin .shr (.tmp 89) (.av (.val (.int .u64 1))), none, true⟩,
 ⟨(some 91), .conv .i64 (.tmp 90), none, true⟩,
 ⟨(some 16), .mv (.tmp 91), none, true⟩])
 (.seq (.opsD [⟨(some 92), .mv (.tmp 4), none, true⟩,
 ⟨(some 93), .mv (.tmp 0), none, true⟩,
 ⟨(some 94), .mv (.tmp 2), none, true⟩,
 ⟨(some 95), .indexAddr 1 (.tmp 93) (.tmp 94), none, true⟩,
 ⟨(some 96), .load none (.tmp 95), none, true⟩,
 ⟨(some 97), .mv (.tmp 0), none, true⟩,
 ⟨(some 98), .mv (.tmp 16), none, true⟩,
 ⟨(some 99), .indexAddr 1 (.tmp 97) (.tmp 98), none, true⟩,
 ⟨(some 100), .load none (.tmp 99), none, true⟩,
 ⟨(some 101), .call (.tmp 92) [(.tmp 96), (.tmp 100)], none, true⟩,
 ⟨(some 102), .bin .lss (.tmp 101) (.av (.val (.int .i64 0))), none, true⟩,
 ⟨(some 103), .un .not (.tmp 102), none, true⟩])
 (.cond (.tmp 103)
 (.ops [⟨(some 104), .mv (.tmp 16), none, true⟩,
 ⟨(some 105), .bin .add (.tmp 104) (.av (.val (.int .i64 1))), none, true⟩,
 ⟨(some 14), .mv (.tmp 105), none, true⟩])
 (.ops [⟨(some 106), .mv (.tmp 16), none, true⟩,
 ⟨(some 15), .mv (.tmp 106), none, true⟩]))))))))
 (.seq (.seq (.ops [⟨(some 107), .mv (.tmp 2), none, true⟩,
 ⟨(some 17), .mv (.tmp 107), none, true⟩])
 (.block 6 (.loop (.seq (.seq (.ops [⟨(some 108), .mv (.tmp 17), none, true⟩,
 ⟨(some 109), .mv (.tmp 14), none, true⟩,
 ⟨(some 110), .bin .gtr (.tmp 108) (.tmp 109), none, true⟩])
 (.cond (.tmp 110)
 (.skip)
 (.exit 6)))
 (.seq (.block 7 (.opsD [⟨(some 113), .mv (.tmp 0), none, true⟩,
 ⟨(some 114), .mv (.tmp 17), none, true⟩,
 ⟨(some 115), .mv (.tmp 0), none, true⟩,
 ⟨(some 116), .mv (.tmp 17), none, true⟩,
 ⟨(some 117), .bin .sub (.tmp 116) (.av (.val (.int .i64 1))), none, true⟩,
 ⟨(some 118), .mv (.tmp 0), none, true⟩,
 ⟨(some 119), .mv (.tmp 17), none, true⟩,
 ⟨(some 120), .bin .sub (.tmp 119) (.av (.val (.int .i64 1))), none, true⟩,
 ⟨(some 121), .indexAddr 1 (.tmp 118) (.tmp 120), none, true⟩,
 ⟨(some 122), .load none (.tmp 121), none, true⟩,
 ⟨(some 123), .mv (.tmp 0), none, true⟩,
 ⟨(some 124), .mv (.tmp 17), none, true⟩,
 ⟨(some 125), .indexAddr 1 (.tmp 123) (.tmp 124), none, true⟩,
 ⟨(some 126), .load none (.tmp 125), none, true⟩,
 ⟨(some 127), .indexAddr 1 (.tmp 113) (.tmp 114), none, true⟩,
 ⟨none, .store 1 (.tmp 127) (.tmp 122), none, true⟩,
 ⟨(some 128), .indexAddr 1 (.tmp 115) (.tmp 117), none, true⟩,
 ⟨none, .store 1 (.tmp 128) (.tmp 126), none, true⟩]))
 (.ops [⟨(some 111), .mv (.tmp 17), none, true⟩,
 ⟨(some 112), .bin .sub (.tmp 111) (.av (.val (.int .i64 1))), none, true⟩,
 ⟨(some 17), .mv (.tmp 112), none, true⟩]))))))
 (.ret))))
def c_symB1 : ACode := .seq (.ops [⟨(some 29), .mv (.tmp 2), none, true⟩,
 ⟨(some 10), .mv (.tmp 29), none, true⟩])
 (.seq (.ops [⟨(some 30), .mv (.tmp 3), none, true⟩,
 ⟨(some 11), .mv (.tmp 30), none, true⟩])
 (.seq (.block 0 (.loop (.seq (.seq (.ops [⟨(some 31), .mv (.tmp 10), none, true⟩,
 ⟨(some 32), .mv (.tmp 11), none, true⟩,
 ⟨(some 33), .bin .lss (.tmp 31) (.tmp 32), none, true⟩])
 (.cond (.tmp 33)
 (.skip)
 (.exit 0)))
 (.block 1 (.seq (.ops [⟨(some 34), .mv (.tmp 10), none, true⟩,
 ⟨(some 35), .mv (.tmp 11), none, true⟩,
 ⟨(some 36), .bin .add (.tmp 34) (.tmp 35), none, true⟩,
 ⟨(some 37), .conv .u64 (.tmp 36), none, true⟩,
 ⟨(some 38), .bin .shr (.tmp 37) (.av (.val (.int .u64 1))), none, true⟩,
 ⟨(some 39), .conv .i64 (.tmp 38), none, true⟩,
 ⟨(some 12), .mv (.tmp 39), none, true⟩])
 (.seq (.opsD [⟨(some 40), .mv (.tmp 4), none, true⟩,
 ⟨(some 41), .mv (.tmp 0), none, true⟩,
 ⟨(some 42), .mv (.tmp 12), none, true⟩,
 ⟨(some 43), .indexAddr 1 (.tmp 41) (.tmp 42), none, true⟩,
 ⟨(some 44), .load none (.tmp 43), none, true⟩,
 ⟨(some 45), .mv (.tmp 0), none, true⟩,
 ⟨(some 46), .mv (.tmp 1), none, true⟩,
 ⟨(some 47), .indexAddr 1 (.tmp 45) (.tmp 46), none, true⟩,
 ⟨(some 48), .load none (.tmp 47), none, true⟩,
 ⟨(some 49), .call (.tmp 40) [(.tmp 44), (.tmp 48)], none, true⟩,
 ⟨(some 50), .bin .lss (.tmp 49) (.av (.val (.int .i64 0))), none, true⟩])
 (.cond (.tmp 50)
 (.ops [⟨(some 51), .mv (.tmp 12), none, true⟩,
 ⟨(some 52), .bin .add (.tmp 51) (.av (.val (.int .i64 1))), none, true⟩,
 ⟨(some 10), .mv (.tmp 52), none, true⟩])
 (.ops [⟨(some 53), .mv (.tmp 12), none, true⟩,
 ⟨(some 11), .mv (.tmp 53), none, true⟩]))))))))
 (.seq (.seq (.ops [⟨(some 54), .mv (.tmp 1), none, true⟩,
 ⟨(some 13), .mv (.tmp 54), none, true⟩])
 (.block 2 (.loop (.seq (.seq (.ops [⟨(some 55), .mv (.tmp 13), none, true⟩,
 ⟨(some 56), .mv (.tmp 10), none, true⟩,
 ⟨(some 57), .bin .sub (.tmp 56) (.av (.val (.int .i64 1))), none, true⟩,
 ⟨(some 58), .bin .lss (.tmp 55) (.tmp 57), none, true⟩])
 (.cond (.tmp 58)
 (.skip)
 (.exit 2)))
 (.seq (.block 3 (.opsD [⟨(some 61), .mv (.tmp 0), none, true⟩,
 ⟨(some 62), .mv (.tmp 13), none, true⟩,
 ⟨(some 63), .mv (.tmp 0), none, true⟩,
 ⟨(some 64), .mv (.tmp 13), none, true⟩,
 ⟨(some 65), .bin .add (.tmp 64) (.av (.val (.int .i64 1))), none, true⟩,
 ⟨(some 66), .mv (.tmp 0), none, true⟩,
 ⟨(some 67), .mv (.tmp 13), none, true⟩,
 ⟨(some 68), .bin .add (.tmp 67) (.av (.val (.int .i64 1))), none, true⟩,
 ⟨(some 69), .indexAddr 1 (.tmp 66) (.tmp 68), none, true⟩,
 ⟨(some 70), .load none (.tmp 69), none, true⟩,
 ⟨(some 71), .mv (.tmp 0), none, true⟩,
 ⟨(some 72), .mv (.tmp 13), none, true⟩,
 ⟨(some 73), .indexAddr 1 (.tmp 71) (.tmp 72), none, true⟩,
 ⟨(some 74), .load none (.tmp 73), none, true⟩,
 ⟨(some 75), .indexAddr 1 (.tmp 61) (.tmp 62), none, true⟩,
 ⟨none, .store 1 (.tmp 75) (.tmp 70), none, true⟩,
 ⟨(some 76), .indexAddr 1 (.tmp 63) (.tmp 65), none, true⟩,
 ⟨none, .store 1 (.tmp 76) (.tmp 74), none, true⟩]))
 (.ops [⟨(some 59), .mv (.tmp 13), none, true⟩,
 ⟨(some 60), .bin .add (.tmp 59) (.av (.val (.int .i64 1))), none, true⟩,
 ⟨(some 13), .mv (.tmp 60), none, true⟩]))))))
 (.ret))))
theorem c_sn_sym_cut : c_sn_sym = .seq (.seq (.ops [⟨(some 25), .mv (.tmp 2), none, true⟩,
 ⟨(some 26), .mv (.tmp 1), none, true⟩,
 ⟨(some 27), .bin .sub (.tmp 25) (.tmp 26), none, true⟩,
 ⟨(some 28), .bin .eql (.tmp 27) (.av (.val (.int .i64 1))), none, true⟩])
 (.cond (.tmp 28)
 c_symB1
 (.skip)))
 (.seq (.seq (.ops [⟨(some 77), .mv (.tmp 3), none, true⟩,
 ⟨(some 78), .mv (.tmp 2), none, true⟩,
 ⟨(some 79), .bin .sub (.tmp 77) (.tmp 78), none, true⟩,
 ⟨(some 80), .bin .eql (.tmp 79) (.av (.val (.int .i64 1))), none, true⟩])
 (.cond (.tmp 80)
 c_symB2
 (.skip)))
 (.seq (.ops [⟨(some 129), .mv (.tmp 1), none, true⟩,
 ⟨(some 130), .mv (.tmp 3), none, true⟩,
 ⟨(some 131), .bin .add (.tmp 129) (.tmp 130), none, true⟩,
 ⟨(some 132), .conv .u64 (.tmp 131), none, true⟩,
 ⟨(some 133), .bin .shr (.tmp 132) (.av (.val (.int .u64 1))), none, true⟩,
 ⟨(some 134), .conv .i64 (.tmp 133), none, true⟩,
 ⟨(some 18), .mv (.tmp 134), none, true⟩])
 (.seq (.ops [⟨(some 135), .mv (.tmp 18), none, true⟩,
 ⟨(some 136), .mv (.tmp 2), none, true⟩,
 ⟨(some 137), .bin .add (.tmp 135) (.tmp 136), none, true⟩,
 ⟨(some 19), .mv (.tmp 137), none, true⟩])
 (.seq (.ops [⟨(some 20), .mv (.av (.val (.int .i64 0))), none, true⟩,
 ⟨(some 21), .mv (.av (.val (.int .i64 0))), none, true⟩])
 (.seq (.seq (.ops [⟨(some 138), .mv (.tmp 2), none, true⟩,
 ⟨(some 139), .mv (.tmp 18), none, true⟩,
 ⟨(some 140), .bin .gtr (.tmp 138) (.tmp 139), none, true⟩])
 (.cond (.tmp 140)
 (.seq (.ops [⟨(some 141), .mv (.tmp 19), none, true⟩,
 ⟨(some 142), .mv (.tmp 3), none, true⟩,
 ⟨(some 143), .bin .sub (.tmp 141) (.tmp 142), none, true⟩,
 ⟨(some 20), .mv (.tmp 143), none, true⟩])
 (.ops [⟨(some 144), .mv (.tmp 18), none, true⟩,
 ⟨(some 21), .mv (.tmp 144), none, true⟩]))
 (.seq (.ops [⟨(some 145), .mv (.tmp 1), none, true⟩,
 ⟨(some 20), .mv (.tmp 145), none, true⟩])
 (.ops [⟨(some 146), .mv (.tmp 2), none, true⟩,
 ⟨(some 21), .mv (.tmp 146), none, true⟩]))))
 c_symT1))))) := rfl
variable {tb : List (FuncId × Bool)} {L : Nat → Bool} {H : ZH} {K : ZV → ZH → Prop}
variable {o g a b m n f : Nat} {ex : Bool} {D D0 : List Int} {fn : FuncId} {caps : List ZV} {cf : Int → Int → Int} {S : ZS} {KK : AExit → ZS → ZH → Prop}
theorem shr1 {x : Nat} : binV .shr (.int .u64 (x : Int)) (.int .u64 1) = some (.int .u64 ((x / 2 : Nat) : Int)) := by
  have h : (x : Int).fdiv 2 = ((x / 2 : Nat) : Int) := by rw [Int.fdiv_eq_ediv_of_nonneg _ (by omega)]; omega
  simp [binV, IntKind.bits, h]
theorem bk_ldD (ho : o < H.length) {i : Nat} (hi : i < D.length) : ldZ (bk H o g D) none (.eptr o g i 0) = some (Z64 (D.getD i 0)) :=
  bk_ld ho (by rw [List.getD_eq_getElem?_getD, List.getElem?_eq_getElem hi]; rfl)
theorem cmp_at (hf : CmpZ tb L H o g fn caps D0 cf) (hp : D.Perm D0) {i j : Nat} (hi : i < D.length) (hj : j < D.length) (K : ZV → ZH → Prop) (hK : K (Z64 (cf (D.getD i 0) (D.getD j 0))) (bk H o g D)) :
    ZC (constX tb) (cFunc Try.prog) fn (Z64 (D.getD i 0) :: Z64 (D.getD j 0) :: caps) L (bk H o g D) K := by
  refine hf _ (hp.mem_iff.1 ?_) _ (hp.mem_iff.1 ?_) _ K hK
  · rw [getD_at hi]; exact List.getElem_mem hi
  · rw [getD_at hj]; exact List.getElem_mem hj
def SymIH (tb : List (FuncId × Bool)) (L : Nat → Bool) (H : ZH) (o g n : Nat) (ex : Bool) (fn : FuncId) (caps : List ZV) (D0 : List Int) (cf : Int → Int → Int) (f : Nat) : Prop :=
  ∀ (D : List Int) (a m b : Nat) (K : ZV → ZH → Prop), D.Perm D0 → a < m → m < b → b ≤ n → b - a ≤ f → K .no (bk H o g (symF (ltC cf) f D a m b)) → ZC (constX tb) (cFunc Try.prog) 59 [.own o g 0 n ex, Z64 (a : Int), Z64 (m : Int), Z64 (b : Int), .func fn caps] L (bk H o g D) K
set_option maxHeartbeats 4000000 in
theorem symT4_z {mid e : Nat} (ih : SymIH tb L H o g n ex fn caps D0 cf f) (hp : D.Perm D0) (s0 : S 0 = .own o g 0 n ex) (s3 : S 3 = Z64 (b : Int)) (s4 : S 4 = .func fn caps) (s18 : S 18 = Z64 (mid : Int)) (s24 : S 24 = Z64 (e : Int)) (hb : b ≤ n) (hf : b - mid ≤ f)
    (hn : ∀ S', KK .normal S' (bk H o g (if mid < e ∧ e < b then symF (ltC cf) f D mid e b else D))) : zW (constX tb) (cFunc Try.prog) Gh.no L c_symT4 S (bk H o g D) KK := by
  simp only [c_symT4]
  have HN := Lib.hid hn
  have HI := Lib.hid ih
  have HP := Lib.hid hp
  clear hn ih hp
  by_cases c1 : mid < e
  · have d1 : (mid : Int) < (e : Int) := by omega
    by_cases c2 : e < b
    · have d2 : (e : Int) < (b : Int) := by omega
      have hn := HN.out
      rw [if_pos ⟨c1, c2⟩] at hn
      repeat' (first | (simp only [zmPack, zxPack, ne_eq, zfree, owners, Nat.reduceLT, List.contains_cons, List.contains_nil, Nat.reduceBEq, BEq.rfl, chunk, setAt, List.lookup_cons, List.lookup_nil, reduceCtorEq, Nat.reduceEqDiff, reduceIte, implies_true, forall_const, Nat.reduceMul, Nat.reduceSub, Nat.reduceAdd, Nat.reduceLeDiff, s0, s3, s4, s18, s24, d1, d2, *]) | (simp only [zgoO, zgoG, zO_nil, zthen_normal, zgoC]) | (with_reducible apply And.intro) | (with_reducible intro _))
      refine HI.out D mid e b _ HP.out c1 c2 hb hf ?_
      repeat' (first | (simp only [zmPack, zxPack, ne_eq, zfree, owners, Nat.reduceLT, List.contains_cons, List.contains_nil, Nat.reduceBEq, BEq.rfl, chunk, setAt, List.lookup_cons, List.lookup_nil, reduceCtorEq, Nat.reduceEqDiff, reduceIte, implies_true, forall_const, Nat.reduceMul, Nat.reduceSub, Nat.reduceAdd, Nat.reduceLeDiff, *]) | (simp only [zgoO, zgoG, zO_nil, zthen_normal, zgoC]) | (with_reducible apply And.intro) | (with_reducible intro _))
      all_goals exact hn _
    · have d2 : ¬ (e : Int) < (b : Int) := by omega
      have hn := HN.out
      rw [if_neg (fun q => c2 q.2)] at hn
      repeat' (first | (simp only [zmPack, zxPack, ne_eq, zfree, owners, Nat.reduceLT, List.contains_cons, List.contains_nil, Nat.reduceBEq, BEq.rfl, chunk, setAt, List.lookup_cons, List.lookup_nil, reduceCtorEq, Nat.reduceEqDiff, reduceIte, implies_true, forall_const, Nat.reduceMul, Nat.reduceSub, Nat.reduceAdd, Nat.reduceLeDiff, s0, s3, s4, s18, s24, d1, d2, *]) | (simp only [zgoO, zgoG, zO_nil, zthen_normal, zgoC]) | (with_reducible apply And.intro) | (with_reducible intro _))
      all_goals exact hn _
  · have d1 : ¬ (mid : Int) < (e : Int) := by omega
    have hn := HN.out
    rw [if_neg (fun q => c1 q.1)] at hn
    repeat' (first | (simp only [zmPack, zxPack, ne_eq, zfree, owners, Nat.reduceLT, List.contains_cons, List.contains_nil, Nat.reduceBEq, BEq.rfl, chunk, setAt, List.lookup_cons, List.lookup_nil, reduceCtorEq, Nat.reduceEqDiff, reduceIte, implies_true, forall_const, Nat.reduceMul, Nat.reduceSub, Nat.reduceAdd, Nat.reduceLeDiff, s0, s3, s4, s18, s24, d1, *]) | (simp only [zgoO, zgoG, zO_nil, zthen_normal, zgoC]) | (with_reducible apply And.intro) | (with_reducible intro _))
    all_goals exact hn _
set_option maxHeartbeats 4000000 in
theorem symT3_z {mid e s : Nat} {lt : Int → Int → Bool} (ih : SymIH tb L H o g n ex fn caps D0 cf f) (hp : D.Perm D0) (s0 : S 0 = .own o g 0 n ex) (s1 : S 1 = Z64 (a : Int)) (s3 : S 3 = Z64 (b : Int)) (s4 : S 4 = .func fn caps) (s18 : S 18 = Z64 (mid : Int)) (s20 : S 20 = Z64 (s : Int)) (s24 : S 24 = Z64 (e : Int))
    (hb : b ≤ n) (hm : mid ≤ b) (ha : a ≤ mid) (hf : b - mid ≤ f) (hf2 : mid - a ≤ f) (hpp : a < s → s < mid → (symF (ltC cf) f D a s mid).Perm D)
    (hn : ∀ S' D2, D2 = (if a < s ∧ s < mid then symF (ltC cf) f D a s mid else D) → KK .normal S' (bk H o g (if mid < e ∧ e < b then symF (ltC cf) f D2 mid e b else D2))) : zW (constX tb) (cFunc Try.prog) Gh.no L c_symT3 S (bk H o g D) KK := by
  simp only [c_symT3]
  have HN := Lib.hid hn
  have HI := Lib.hid ih
  have HP := Lib.hid hp
  have HPP := Lib.hid hpp
  clear hn ih hp hpp
  by_cases c1 : a < s
  · have d1 : (a : Int) < (s : Int) := by omega
    by_cases c2 : s < mid
    · have d2 : (s : Int) < (mid : Int) := by omega
      have hn := fun S' => HN.out S' _ (if_pos ⟨c1, c2⟩).symm
      repeat' (first | (simp only [zmPack, zxPack, ne_eq, zfree, owners, Nat.reduceLT, List.contains_cons, List.contains_nil, Nat.reduceBEq, BEq.rfl, chunk, setAt, List.lookup_cons, List.lookup_nil, reduceCtorEq, Nat.reduceEqDiff, reduceIte, implies_true, forall_const, Nat.reduceMul, Nat.reduceSub, Nat.reduceAdd, Nat.reduceLeDiff, s0, s1, s3, s4, s18, s20, s24, d1, d2, *]) | (simp only [zgoO, zgoG, zO_nil, zthen_normal, zgoC]) | (with_reducible apply And.intro) | (with_reducible intro _))
      refine HI.out D a s mid _ HP.out c1 c2 (by omega) hf2 ?_
      repeat' (first | (simp only [zmPack, zxPack, ne_eq, zfree, owners, Nat.reduceLT, List.contains_cons, List.contains_nil, Nat.reduceBEq, BEq.rfl, chunk, setAt, List.lookup_cons, List.lookup_nil, reduceCtorEq, Nat.reduceEqDiff, reduceIte, implies_true, forall_const, Nat.reduceMul, Nat.reduceSub, Nat.reduceAdd, Nat.reduceLeDiff, *]) | (simp only [zgoO, zgoG, zO_nil, zthen_normal, zgoC]) | (with_reducible apply And.intro) | (with_reducible intro _))
      refine symT4_z (mid := mid) (e := e) HI.out ((HPP.out c1 c2).trans HP.out) ?_ ?_ ?_ ?_ ?_ hb hf hn
      all_goals simp [zupd, s0, s3, s4, s18, s24]
    · have d2 : ¬ (s : Int) < (mid : Int) := by omega
      have hn := fun S' => HN.out S' _ (if_neg (fun q => c2 q.2)).symm
      repeat' (first | (simp only [zmPack, zxPack, ne_eq, zfree, owners, Nat.reduceLT, List.contains_cons, List.contains_nil, Nat.reduceBEq, BEq.rfl, chunk, setAt, List.lookup_cons, List.lookup_nil, reduceCtorEq, Nat.reduceEqDiff, reduceIte, implies_true, forall_const, Nat.reduceMul, Nat.reduceSub, Nat.reduceAdd, Nat.reduceLeDiff, s0, s1, s3, s4, s18, s20, s24, d1, d2, *]) | (simp only [zgoO, zgoG, zO_nil, zthen_normal, zgoC]) | (with_reducible apply And.intro) | (with_reducible intro _))
      refine symT4_z (mid := mid) (e := e) HI.out HP.out ?_ ?_ ?_ ?_ ?_ hb hf hn
      all_goals simp [zupd, s0, s3, s4, s18, s24]
  · have d1 : ¬ (a : Int) < (s : Int) := by omega
    have hn := fun S' => HN.out S' _ (if_neg (fun q => c1 q.1)).symm
    repeat' (first | (simp only [zmPack, zxPack, ne_eq, zfree, owners, Nat.reduceLT, List.contains_cons, List.contains_nil, Nat.reduceBEq, BEq.rfl, chunk, setAt, List.lookup_cons, List.lookup_nil, reduceCtorEq, Nat.reduceEqDiff, reduceIte, implies_true, forall_const, Nat.reduceMul, Nat.reduceSub, Nat.reduceAdd, Nat.reduceLeDiff, s0, s1, s3, s4, s18, s20, s24, d1, *]) | (simp only [zgoO, zgoG, zO_nil, zthen_normal, zgoC]) | (with_reducible apply And.intro) | (with_reducible intro _))
    refine symT4_z (mid := mid) (e := e) HI.out HP.out ?_ ?_ ?_ ?_ ?_ hb hf hn
    all_goals simp [zupd, s0, s3, s4, s18, s24]
end Go.Proofs.Ytoeppobpnhlebaa

namespace Go.Proofs.Ytoeppobpnhlebaa
open Go Go.RowKit
set_option linter.unusedVariables false
set_option linter.unusedSimpArgs false
variable {tb : List (FuncId × Bool)} {L : Nat → Bool} {H : ZH} {K : ZV → ZH → Prop}
variable {o g a b m n f : Nat} {ex : Bool} {D D0 : List Int} {fn : FuncId} {caps : List ZV} {cf : Int → Int → Int} {S : ZS} {KK : AExit → ZS → ZH → Prop}
def symE (lt : Int → Int → Bool) (f : Nat) (D1 : List Int) (a mid s e b : Nat) : List Int :=
  if mid < e ∧ e < b then symF lt f (if a < s ∧ s < mid then symF lt f D1 a s mid else D1) mid e b else (if a < s ∧ s < mid then symF lt f D1 a s mid else D1)
set_option maxHeartbeats 4000000 in
theorem symT2_z {mid s e : Nat} (ho : o < H.length) (hL : L o = true) (hn1 : n ≤ 1000) (hD : D.length = n) (ih : SymIH tb L H o g n ex fn caps D0 cf f) (hp : D.Perm D0) (s0 : S 0 = .own o g 0 n ex) (s1 : S 1 = Z64 (a : Int)) (s2 : S 2 = Z64 (m : Int)) (s3 : S 3 = Z64 (b : Int)) (s4 : S 4 = .func fn caps) (s18 : S 18 = Z64 (mid : Int)) (s19 : S 19 = Z64 ((mid + m : Nat) : Int)) (s20 : S 20 = Z64 (s : Int))
    (he : e = mid + m - s) (hsm : s ≤ m) (hme : m ≤ e) (heb : e ≤ b) (hb : b ≤ n) (hm : mid ≤ b) (ha : a ≤ mid) (hf : b - mid ≤ f) (hf2 : mid - a ≤ f) (hpp : a < s → s < mid → (symF (ltC cf) f (symD D m s e) a s mid).Perm (symD D m s e))
    (hn : ∀ S', KK .normal S' (bk H o g (symE (ltC cf) f (symD D m s e) a mid s e b))) : zW (constX tb) (cFunc Try.prog) Gh.no L c_symT2 S (bk H o g D) KK := by
  simp only [c_symT2]
  have HN := Lib.hid hn
  have HI := Lib.hid ih
  have HP := Lib.hid hp
  have HPP := Lib.hid hpp
  have hDp := symD_perm (D := D) hsm hme (by omega)
  have HDP := Lib.hid hDp
  have w1 : IntKind.i64.wrap (((mid + m : Nat) : Int) - (s : Int)) = (e : Int) := by rw [IntWalk.i64_in _ (by omega)]; omega
  have HE := Lib.hid he
  clear hn ih hp hpp hDp he
  have go : ∀ S' D1, D1 = symD D m s e → S' 0 = .own o g 0 n ex → S' 1 = Z64 (a : Int) → S' 3 = Z64 (b : Int) → S' 4 = .func fn caps → S' 18 = Z64 (mid : Int) → S' 20 = Z64 (s : Int) → S' 24 = Z64 (e : Int) → zW (constX tb) (cFunc Try.prog) Gh.no L c_symT3 S' (bk H o g D1) KK := fun S' D1 e1 k0 k1 k3 k4 k18 k20 k24 => by
    subst e1
    refine symT3_z (lt := ltC cf) HI.out (HDP.out.trans HP.out) k0 k1 k3 k4 k18 k20 k24 hb hm ha hf hf2 HPP.out (fun S' D2 e2 => ?_)
    subst e2
    exact HN.out S'
  have HG := Lib.hid go
  clear go
  by_cases c1 : s < m
  · have d1 : (s : Int) < (m : Int) := by omega
    by_cases c2 : m < e
    · have d2 : (m : Int) < (e : Int) := by omega
      repeat' (first | (simp only [zmPack, zxPack, ne_eq, zfree, owners, Nat.reduceLT, List.contains_cons, List.contains_nil, Nat.reduceBEq, BEq.rfl, chunk, setAt, List.lookup_cons, List.lookup_nil, reduceCtorEq, Nat.reduceEqDiff, reduceIte, implies_true, forall_const, Nat.reduceMul, Nat.reduceSub, Nat.reduceAdd, Nat.reduceLeDiff, s0, s1, s2, s3, s4, s18, s19, s20, w1, d1, d2, *]) | (simp only [zgoO, zgoG, zO_nil, zthen_normal, zgoC]) | (with_reducible apply And.intro) | (with_reducible intro _))
      refine rot_z (a := s) (m := m) (e := e) ho hL hD hn1 c1 c2 (by omega) ?_
      repeat' (first | (simp only [zmPack, zxPack, ne_eq, zfree, owners, Nat.reduceLT, List.contains_cons, List.contains_nil, Nat.reduceBEq, BEq.rfl, chunk, setAt, List.lookup_cons, List.lookup_nil, reduceCtorEq, Nat.reduceEqDiff, reduceIte, implies_true, forall_const, Nat.reduceMul, Nat.reduceSub, Nat.reduceAdd, Nat.reduceLeDiff, *]) | (simp only [zgoO, zgoG, zO_nil, zthen_normal, zgoC]) | (with_reducible apply And.intro) | (with_reducible intro _))
      refine HG.out _ _ (by unfold symD; rw [if_pos ⟨c1, c2⟩]) ?_ ?_ ?_ ?_ ?_ ?_ ?_
      all_goals simp [zupd, s0, s1, s3, s4, s18, s20]
    · have d2 : ¬ (m : Int) < (e : Int) := by omega
      repeat' (first | (simp only [zmPack, zxPack, ne_eq, zfree, owners, Nat.reduceLT, List.contains_cons, List.contains_nil, Nat.reduceBEq, BEq.rfl, chunk, setAt, List.lookup_cons, List.lookup_nil, reduceCtorEq, Nat.reduceEqDiff, reduceIte, implies_true, forall_const, Nat.reduceMul, Nat.reduceSub, Nat.reduceAdd, Nat.reduceLeDiff, s0, s1, s2, s3, s4, s18, s19, s20, w1, d1, d2, *]) | (simp only [zgoO, zgoG, zO_nil, zthen_normal, zgoC]) | (with_reducible apply And.intro) | (with_reducible intro _))
      refine HG.out _ _ (by unfold symD; rw [if_neg (fun q => c2 q.2)]) ?_ ?_ ?_ ?_ ?_ ?_ ?_
      all_goals simp [zupd, s0, s1, s3, s4, s18, s20]
  · have d1 : ¬ (s : Int) < (m : Int) := by omega
    repeat' (first | (simp only [zmPack, zxPack, ne_eq, zfree, owners, Nat.reduceLT, List.contains_cons, List.contains_nil, Nat.reduceBEq, BEq.rfl, chunk, setAt, List.lookup_cons, List.lookup_nil, reduceCtorEq, Nat.reduceEqDiff, reduceIte, implies_true, forall_const, Nat.reduceMul, Nat.reduceSub, Nat.reduceAdd, Nat.reduceLeDiff, s0, s1, s2, s3, s4, s18, s19, s20, w1, d1, *]) | (simp only [zgoO, zgoG, zO_nil, zthen_normal, zgoC]) | (with_reducible apply And.intro) | (with_reducible intro _))
    refine HG.out _ _ (by unfold symD; rw [if_neg (fun q => c1 q.1)]) ?_ ?_ ?_ ?_ ?_ ?_ ?_
    all_goals simp [zupd, s0, s1, s3, s4, s18, s20]
set_option maxHeartbeats 4000000 in
theorem symB1_z (ho : o < H.length) (hL : L o = true) (hn1 : n ≤ 1000) (hD : D.length = n) (hf : CmpZ tb L H o g fn caps D0 cf) (hp : D.Perm D0) (s0 : S 0 = .own o g 0 n ex) (s1 : S 1 = Z64 (a : Int)) (s2 : S 2 = Z64 (m : Int)) (s3 : S 3 = Z64 (b : Int)) (s4 : S 4 = .func fn caps)
    (ham : a < m) (hmb : m < b) (hb : b ≤ n)
    (hr : ∀ S', KK .ret S' (bk H o g (mvR a (bsF (fun h => ltC cf (D.getD h 0) (D.getD a 0)) b m b - 1 - a) D))) : zW (constX tb) (cFunc Try.prog) Gh.no L c_symB1 S (bk H o g D) KK := by
  simp only [c_symB1]
  have HR := Lib.hid hr
  have HF := Lib.hid hf
  have HP := Lib.hid hp
  obtain ⟨P, hP⟩ : ∃ P : Nat → Bool, P = fun h => ltC cf (D.getD h 0) (D.getD a 0) := ⟨_, rfl⟩
  rw [← hP] at HR
  have HPP := Lib.hid hP
  obtain ⟨E, hE⟩ : ∃ E, E = bsF P b m b := ⟨_, rfl⟩
  rw [← hE] at HR
  have hEb := bsF_ok (P := P) (f := b) (i := m) (j := b) (by omega) (by omega)
  rw [← hE] at hEb
  have HE := Lib.hid hE
  have HEB := Lib.hid hEb
  clear hr hf hp hP hE hEb
  repeat' (first | (simp only [zmPack, zxPack, ne_eq, zfree, owners, Nat.reduceLT, List.contains_cons, List.contains_nil, Nat.reduceBEq, BEq.rfl, chunk, setAt, List.lookup_cons, List.lookup_nil, reduceCtorEq, Nat.reduceEqDiff, reduceIte, implies_true, forall_const, Nat.reduceMul, Nat.reduceSub, Nat.reduceAdd, Nat.reduceLeDiff, s0, s1, s2, s3, s4, *]) | (simp only [zgoO, zgoG, zO_nil, zthen_normal, zgoC]) | (with_reducible apply And.intro) | (with_reducible intro _))
  refine zW_whileK [(0, .own o g 0 n ex), (1, Z64 (a : Int)), (4, .func fn caps)] b (fun r s h => ∃ i j : Nat, s 10 = Z64 (i : Int) ∧ s 11 = Z64 (j : Int) ∧ h = bk H o g D ∧ bsF P r i j = E ∧ m ≤ i ∧ j ≤ b ∧ j - i ≤ r) (by repeat' (first | exact trivial | (refine ⟨rfl, ?_⟩) | (refine ⟨by simp only [zupd_at, Nat.reduceEqDiff, reduceIte]; assumption, ?_⟩))) rfl ⟨m, b, rfl, rfl, rfl, HE.out.symm, Nat.le_refl _, Nat.le_refl _, by omega⟩ ?_
  clear s0 s1 s2 s3 s4
  rintro r s h ⟨i, j, f10, f11, rfl, hbs, hi, hj, hr⟩ ⟨f0, f1, f4, -⟩
  by_cases hij : i < j
  · obtain ⟨r, rfl⟩ : ∃ r', r = r' + 1 := ⟨r - 1, by omega⟩
    unfold bsF at hbs
    rw [if_pos hij] at hbs
    have d1 : (i : Int) < (j : Int) := by omega
    have w1 : IntKind.i64.wrap ((i : Int) + (j : Int)) = ((i + j : Nat) : Int) := by rw [IntWalk.i64_in _ (by omega)]; omega
    have w2 : IntKind.u64.wrap ((i + j : Nat) : Int) = ((i + j : Nat) : Int) := IntWalk.u64_in _ (by omega)
    have w3 := shr1 (x := i + j)
    have w4 : IntKind.i64.wrap (((i + j) / 2 : Nat) : Int) = (((i + j) / 2 : Nat) : Int) := IntWalk.i64_in _ (by omega)
    obtain ⟨hh, hhh⟩ : ∃ hh, hh = (i + j) / 2 := ⟨_, rfl⟩
    rw [← hhh] at hbs w3 w4
    have hb1 : i ≤ hh ∧ hh < j := by omega
    have w5 : IntKind.i64.wrap ((hh : Int) + 1) = ((hh + 1 : Nat) : Int) := by rw [IntWalk.i64_in _ (by omega)]; omega
    have e1 := bk_el (H := H) (o := o) (g := g) (ex := ex) (n := n) (D := D) (j := hh) ho hD (by omega)
    have e2 := bk_el (H := H) (o := o) (g := g) (ex := ex) (n := n) (D := D) (j := a) ho hD (by omega)
    have l1 := bk_ldD (H := H) (o := o) (g := g) (D := D) (i := hh) ho (by omega)
    have l2 := bk_ldD (H := H) (o := o) (g := g) (D := D) (i := a) ho (by omega)
    have hc := cmp_at (D := D) (i := hh) (j := a) HF.out HP.out (by omega) (by omega)
    have hPh : P hh = decide (cf (D.getD hh 0) (D.getD a 0) < 0) := by rw [HPP.out]
    rw [hPh] at hbs
    have HBS := Lib.hid hbs
    have HB := Lib.hid hb1
    have HJ := Lib.hid (And.intro hhh hij)
    clear hbs hPh hhh hij hb1
    generalize D.getD hh 0 = x at l1 hc HBS
    generalize D.getD a 0 = y at l2 hc HBS
    obtain ⟨H2, hH2⟩ : ∃ H2, H2 = bk H o g D := ⟨_, rfl⟩
    have HH2 := Lib.hid hH2
    rw [← hH2] at e1 e2 l1 l2 hc ⊢
    clear hH2
    generalize cf x y = q at hc HBS
    repeat' (first | (simp only [zmPack, zxPack, ne_eq, zfree, owners, Nat.reduceLT, List.contains_cons, List.contains_nil, Nat.reduceBEq, BEq.rfl, chunk, setAt, List.lookup_cons, List.lookup_nil, reduceCtorEq, Nat.reduceEqDiff, reduceIte, implies_true, forall_const, Nat.reduceMul, Nat.reduceSub, Nat.reduceAdd, Nat.reduceLeDiff, d1, w1, w2, w3, w4, e1, e2, l1, l2, *]) | (simp only [zgoO, zgoG, zO_nil, zthen_normal, zgoC]) | (with_reducible apply And.intro) | (with_reducible intro _))
    refine hc _ ?_
    by_cases hq : q < 0
    · have hbs := HBS.out
      rw [if_pos (by simpa using hq)] at hbs
      have HBS2 := Lib.hid hbs
      clear hbs HBS e1 e2 l1 l2 hc
      repeat' (first | (simp only [zmPack, zxPack, ne_eq, zfree, owners, Nat.reduceLT, List.contains_cons, List.contains_nil, Nat.reduceBEq, BEq.rfl, chunk, setAt, List.lookup_cons, List.lookup_nil, reduceCtorEq, Nat.reduceEqDiff, reduceIte, implies_true, forall_const, Nat.reduceMul, Nat.reduceSub, Nat.reduceAdd, Nat.reduceLeDiff, hq, w5, *]) | (simp only [zgoO, zgoG, zO_nil, zthen_normal, zgoC]) | (with_reducible apply And.intro) | (with_reducible intro _))
      all_goals first | exact ⟨r, by omega, hh + 1, rfl, j, rfl, HBS2.out, by have := HB.out; omega, by omega, by have := HB.out; omega⟩ | exact ⟨HH2.out, r, by omega, hh + 1, rfl, j, rfl, HBS2.out, by have := HB.out; omega, by omega, by have := HB.out; omega⟩ | exact HH2.out
    · have hbs := HBS.out
      rw [if_neg (by simpa using hq)] at hbs
      have HBS2 := Lib.hid hbs
      clear hbs HBS e1 e2 l1 l2 hc
      repeat' (first | (simp only [zmPack, zxPack, ne_eq, zfree, owners, Nat.reduceLT, List.contains_cons, List.contains_nil, Nat.reduceBEq, BEq.rfl, chunk, setAt, List.lookup_cons, List.lookup_nil, reduceCtorEq, Nat.reduceEqDiff, reduceIte, implies_true, forall_const, Nat.reduceMul, Nat.reduceSub, Nat.reduceAdd, Nat.reduceLeDiff, hq, *]) | (simp only [zgoO, zgoG, zO_nil, zthen_normal, zgoC]) | (with_reducible apply And.intro) | (with_reducible intro _))
      all_goals first | exact ⟨r, by omega, i, rfl, hh, rfl, HBS2.out, by omega, by have := HB.out; omega, by have := HB.out; omega⟩ | exact ⟨HH2.out, r, by omega, i, rfl, hh, rfl, HBS2.out, by omega, by have := HB.out; omega, by have := HB.out; omega⟩ | exact HH2.out
  · have d1 : ¬ (i : Int) < (j : Int) := by omega
    have hbs : i = E := by
      cases r with
      | zero => exact hbs
      | succ r => unfold bsF at hbs; rw [if_neg hij] at hbs; exact hbs
    subst hbs
    clear hij hj hr
    repeat' (first | (simp only [zmPack, zxPack, ne_eq, zfree, owners, Nat.reduceLT, List.contains_cons, List.contains_nil, Nat.reduceBEq, BEq.rfl, chunk, setAt, List.lookup_cons, List.lookup_nil, reduceCtorEq, Nat.reduceEqDiff, reduceIte, implies_true, forall_const, Nat.reduceMul, Nat.reduceSub, Nat.reduceAdd, Nat.reduceLeDiff, d1, *]) | (simp only [zgoO, zgoG, zO_nil, zthen_normal, zgoC]) | (with_reducible apply And.intro) | (with_reducible intro _))
    refine zW_whileK [(0, .own o g 0 n ex), (10, Z64 (i : Int))] (i - 1 - a) (fun r s h => ∃ k : Nat, s 13 = Z64 ((a + k : Nat) : Int) ∧ h = bk H o g (mvR a k D) ∧ k ≤ i - 1 - a ∧ r = i - 1 - a - k) (by repeat' (first | exact trivial | (refine ⟨rfl, ?_⟩) | (refine ⟨by simp only [zupd_at, Nat.reduceEqDiff, reduceIte]; assumption, ?_⟩))) rfl ⟨0, rfl, rfl, Nat.zero_le _, rfl⟩ ?_
    clear f10 f11 f0 f1 f4 d1
    rintro r s h ⟨k, f13, rfl, hk, rfl⟩ ⟨f0, f10, -⟩
    have hib := HEB.out.2.1
    have w1 : IntKind.i64.wrap ((i : Int) - 1) = ((i - 1 : Nat) : Int) := by rw [IntWalk.i64_in _ (by omega)]; omega
    by_cases hc : a + k < i - 1
    · have c1 : ((a + k : Nat) : Int) < ((i - 1 : Nat) : Int) := by omega
      obtain ⟨x, y, H1, F⟩ := bk_swap (H := H) (o := o) (g := g) (L := L) (ex := ex) (n := n) (D := mvR a k D) (i := a + k) (j := a + k + 1) ho hL (by rw [mvR_len]; exact hD) (by omega) (by omega)
      have F2 : bk H o g (sw (mvR a k D) (a + k) (a + k + 1)) = bk H o g (mvR a (k + 1) D) := rfl
      have w2 : IntKind.i64.wrap (((a + k : Nat) : Int) + 1) = ((a + k + 1 : Nat) : Int) := by rw [IntWalk.i64_in _ (by omega)]; omega
      obtain ⟨g1, g2, g3, g4, g5, g6, g7⟩ := F
      rw [F2] at g7
      clear F2
      generalize bk H o g (mvR a k D) = H2 at g1 g2 g3 g4 g5 ⊢
      repeat' (first | (simp only [zmPack, zxPack, ne_eq, zfree, owners, Nat.reduceLT, List.contains_cons, List.contains_nil, Nat.reduceBEq, BEq.rfl, chunk, setAt, List.lookup_cons, List.lookup_nil, reduceCtorEq, Nat.reduceEqDiff, reduceIte, implies_true, forall_const, Nat.reduceMul, Nat.reduceSub, Nat.reduceAdd, Nat.reduceLeDiff, c1, w1, w2, g1, g2, g3, g4, g5, g6, g7, *]) | (simp only [zgoO, zgoG, zO_nil, zthen_normal, zgoC]) | (with_reducible apply And.intro) | (with_reducible intro _))
      all_goals exact ⟨i - 1 - a - (k + 1), by omega, k + 1, rfl, rfl, by omega, rfl⟩
    · have c1 : ¬ ((a + k : Nat) : Int) < ((i - 1 : Nat) : Int) := by omega
      have hke : k = i - 1 - a := by omega
      have hr := HR.out
      rw [← hke] at hr
      clear hke
      repeat' (first | (simp only [zmPack, zxPack, ne_eq, zfree, owners, Nat.reduceLT, List.contains_cons, List.contains_nil, Nat.reduceBEq, BEq.rfl, chunk, setAt, List.lookup_cons, List.lookup_nil, reduceCtorEq, Nat.reduceEqDiff, reduceIte, implies_true, forall_const, Nat.reduceMul, Nat.reduceSub, Nat.reduceAdd, Nat.reduceLeDiff, c1, w1, *]) | (simp only [zgoO, zgoG, zO_nil, zthen_normal, zgoC]) | (with_reducible apply And.intro) | (with_reducible intro _))
      all_goals exact hr _
end Go.Proofs.Ytoeppobpnhlebaa
