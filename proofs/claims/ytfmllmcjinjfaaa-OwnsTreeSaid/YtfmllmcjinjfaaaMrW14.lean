/-
  AM's code of functions, written by am/amprint.lean.
-/
import Derived.KernelRfl
import Derived.Test.YtfmllmcjinjfaaaMrW13
import Derived.Test.YtfmllmcjinjfaaaMrW6
import Derived.Test.YtfmllmcjinjfaaaMrW9
namespace Go.Proofs.Ytfmllmcjinjfaaa
open Go Go.RowKit
set_option linter.unusedVariables false
def c_ow_tree : ACode := .seq (.ops [⟨(some 1), .box 2 (.tmp 0), none, true⟩,
 ⟨(some 2), .mv (.av (.val (.bool false))), none, true⟩])
 (.seq (.seq (.ops [⟨(some 14), .call (.av (.func 9 [])) [], none, true⟩,
 ⟨(some 15), .un .not (.tmp 14), none, true⟩])
 (.cond (.tmp 15)
 (.seq (.ops [⟨(some 2), .mv (.av (.val (.bool false))), none, true⟩])
 (.ret))
 (.skip)))
 (.seq (.ops [⟨(some 17), .load (some 2) (.tmp 1), none, true⟩,
 ⟨(some 18), .call (.av (.func 10 [])) [(.tmp 17)], none, true⟩,
 ⟨(some 16), .mv (.tmp 18), none, true⟩,
 ⟨(some 19), .extract 0 (.tmp 16), none, true⟩,
 ⟨(some 20), .extract 1 (.tmp 16), none, true⟩,
 ⟨(some 3), .mv (.tmp 19), none, true⟩,
 ⟨(some 4), .mv (.tmp 20), none, true⟩])
 (.seq (.ops [⟨(some 22), .load (some 2) (.tmp 1), none, true⟩,
 ⟨(some 23), .call (.av (.func 11 [])) [(.tmp 22)], none, true⟩,
 ⟨(some 21), .mv (.tmp 23), none, true⟩,
 ⟨(some 24), .extract 0 (.tmp 21), none, true⟩,
 ⟨(some 25), .extract 1 (.tmp 21), none, true⟩,
 ⟨(some 5), .mv (.tmp 24), none, true⟩,
 ⟨(some 6), .mv (.tmp 25), none, true⟩])
 (.seq (.seq (.ops [⟨(some 26), .mv (.tmp 4), none, true⟩,
 ⟨(some 27), .bin .neq (.tmp 26) (.av (.val (.int .i64 0))), none, true⟩,
 ⟨(some 28), .mv (.tmp 27), none, true⟩,
 ⟨(some 29), .mv (.tmp 6), (some (28, false)), true⟩,
 ⟨(some 30), .bin .neq (.tmp 29) (.av (.val (.int .i64 0))), (some (28, false)), true⟩,
 ⟨(some 31), .pick (.tmp 28) (.av (.val (.bool true))) (.tmp 30), none, true⟩])
 (.cond (.tmp 31)
 (.seq (.ops [⟨(some 32), .call (.av (.func 9 [])) [], none, true⟩,
 ⟨(some 33), .mv (.tmp 32), none, true⟩,
 ⟨(some 34), .mv (.tmp 4), (some (33, true)), true⟩,
 ⟨(some 35), .mv (.tmp 6), (some (33, true)), true⟩,
 ⟨(some 36), .bin .eql (.tmp 34) (.tmp 35), (some (33, true)), true⟩,
 ⟨(some 37), .pick (.tmp 33) (.tmp 36) (.av (.val (.bool false))), none, true⟩,
 ⟨(some 38), .mv (.tmp 37), none, true⟩,
 ⟨(some 39), .mv (.tmp 3), (some (38, true)), true⟩,
 ⟨(some 40), .len (.tmp 39), (some (38, true)), true⟩,
 ⟨(some 41), .mv (.tmp 5), (some (38, true)), true⟩,
 ⟨(some 42), .len (.tmp 41), (some (38, true)), true⟩,
 ⟨(some 43), .bin .add (.tmp 40) (.tmp 42), (some (38, true)), true⟩,
 ⟨(some 44), .bin .eql (.tmp 43) (.av (.val (.int .i64 0))), (some (38, true)), true⟩,
 ⟨(some 45), .pick (.tmp 38) (.tmp 44) (.av (.val (.bool false))), none, true⟩,
 ⟨(some 2), .mv (.tmp 45), none, true⟩])
 (.ret))
 (.skip)))
 (.seq (.ops [⟨(some 46), .mv (.tmp 3), none, true⟩,
 ⟨(some 47), .len (.tmp 46), none, true⟩,
 ⟨(some 48), .mkSlice 1 8 [(.val (.int .i64 0))] (.tmp 47) (.tmp 47), none, true⟩,
 ⟨(some 7), .mv (.tmp 48), none, true⟩])
 (.seq (.seq (.ops [⟨(some 49), .mv (.tmp 3), none, true⟩,
 ⟨(some 50), .len (.tmp 49), none, true⟩,
 ⟨(some 51), .mv (.av (.val (.int .i64 0))), none, true⟩])
 (rangeCode 0 1 52 51 50 97
 (.seq (.ops [⟨(some 53), .mv (.tmp 51), none, true⟩,
 ⟨(some 54), .indexAddr 1 (.tmp 49) (.tmp 51), none, true⟩,
 ⟨(some 55), .load none (.tmp 54), none, true⟩,
 ⟨(some 8), .mv (.tmp 53), none, true⟩,
 ⟨(some 9), .mv (.tmp 55), none, true⟩])
 (.seq (.seq (.ops [⟨(some 56), .mv (.tmp 9), none, true⟩,
 ⟨(some 57), .bin .geq (.tmp 56) (.av (.val (.int .i64 0))), none, true⟩])
 (.cond (.tmp 57)
 (.seq (.seq (.ops [⟨(some 58), .mv (.tmp 3), none, true⟩,
 ⟨(some 59), .mv (.tmp 9), none, true⟩,
 ⟨(some 60), .indexAddr 1 (.tmp 58) (.tmp 59), none, true⟩,
 ⟨(some 61), .load none (.tmp 60), none, true⟩,
 ⟨(some 62), .bin .eql (.tmp 61) (.av (.val (.int .i64 (-2)))), none, true⟩,
 ⟨(some 63), .mv (.tmp 62), none, true⟩,
 ⟨(some 64), .mv (.tmp 9), (some (63, false)), true⟩,
 ⟨(some 65), .mv (.tmp 8), (some (63, false)), true⟩,
 ⟨(some 66), .bin .eql (.tmp 64) (.tmp 65), (some (63, false)), true⟩,
 ⟨(some 67), .pick (.tmp 63) (.av (.val (.bool true))) (.tmp 66), none, true⟩])
 (.cond (.tmp 67)
 (.seq (.ops [⟨(some 2), .mv (.av (.val (.bool false))), none, true⟩])
 (.ret))
 (.skip)))
 (.opsD [⟨(some 68), .mv (.tmp 7), none, true⟩,
 ⟨(some 69), .mv (.tmp 9), none, true⟩,
 ⟨(some 70), .indexAddr 1 (.tmp 68) (.tmp 69), none, true⟩,
 ⟨(some 71), .load none (.tmp 70), none, true⟩,
 ⟨(some 72), .mv (.tmp 5), none, true⟩,
 ⟨(some 73), .mv (.tmp 8), none, true⟩,
 ⟨(some 74), .indexAddr 1 (.tmp 72) (.tmp 73), none, true⟩,
 ⟨(some 75), .load none (.tmp 74), none, true⟩,
 ⟨(some 76), .bin .add (.tmp 71) (.tmp 75), none, true⟩,
 ⟨(some 77), .indexAddr 1 (.tmp 68) (.tmp 69), none, true⟩,
 ⟨none, .store 1 (.tmp 77) (.tmp 76), none, true⟩]))
 (.skip)))
 (.seq (.ops [⟨(some 10), .mv (.av (.val (.int .i64 0))), none, true⟩])
 (.seq (.seq (.ops [⟨(some 78), .mv (.tmp 8), none, true⟩,
 ⟨(some 11), .mv (.tmp 78), none, true⟩])
 (.block 2 (.loop (.seq (.seq (.ops [⟨(some 79), .mv (.tmp 11), none, true⟩,
 ⟨(some 80), .bin .geq (.tmp 79) (.av (.val (.int .i64 0))), none, true⟩,
 ⟨(some 81), .mv (.tmp 80), none, true⟩,
 ⟨(some 82), .mv (.tmp 10), (some (81, true)), true⟩,
 ⟨(some 83), .mv (.tmp 3), (some (81, true)), true⟩,
 ⟨(some 84), .len (.tmp 83), (some (81, true)), true⟩,
 ⟨(some 85), .bin .leq (.tmp 82) (.tmp 84), (some (81, true)), true⟩,
 ⟨(some 86), .pick (.tmp 81) (.tmp 85) (.av (.val (.bool false))), none, true⟩])
 (.cond (.tmp 86)
 (.skip)
 (.exit 2)))
 (.seq (.block 3 (.ops [⟨(some 91), .mv (.tmp 10), none, true⟩,
 ⟨(some 92), .bin .add (.tmp 91) (.av (.val (.int .i64 1))), none, true⟩,
 ⟨(some 10), .mv (.tmp 92), none, true⟩]))
 (.ops [⟨(some 87), .mv (.tmp 3), none, true⟩,
 ⟨(some 88), .mv (.tmp 11), none, true⟩,
 ⟨(some 89), .indexAddr 1 (.tmp 87) (.tmp 88), none, true⟩,
 ⟨(some 90), .load none (.tmp 89), none, true⟩,
 ⟨(some 11), .mv (.tmp 90), none, true⟩]))))))
 (.seq (.ops [⟨(some 93), .mv (.tmp 10), none, true⟩,
 ⟨(some 94), .mv (.tmp 3), none, true⟩,
 ⟨(some 95), .len (.tmp 94), none, true⟩,
 ⟨(some 96), .bin .gtr (.tmp 93) (.tmp 95), none, true⟩])
 (.cond (.tmp 96)
 (.seq (.ops [⟨(some 2), .mv (.av (.val (.bool false))), none, true⟩])
 (.ret))
 (.skip)))))))))
 (.seq (.seq (.ops [⟨(some 98), .mv (.tmp 3), none, true⟩,
 ⟨(some 99), .len (.tmp 98), none, true⟩,
 ⟨(some 100), .mv (.av (.val (.int .i64 0))), none, true⟩])
 (rangeCode 4 5 101 100 99 130
 (.seq (.ops [⟨(some 102), .mv (.tmp 100), none, true⟩,
 ⟨(some 103), .indexAddr 1 (.tmp 98) (.tmp 100), none, true⟩,
 ⟨(some 104), .load none (.tmp 103), none, true⟩,
 ⟨(some 12), .mv (.tmp 102), none, true⟩,
 ⟨(some 13), .mv (.tmp 104), none, true⟩])
 (.seq (.opsD [⟨(some 105), .mv (.tmp 13), none, true⟩,
 ⟨(some 106), .bin .eql (.tmp 105) (.av (.val (.int .i64 (-2)))), none, true⟩,
 ⟨(some 107), .mv (.tmp 106), none, true⟩,
 ⟨(some 108), .mv (.tmp 5), (some (107, true)), true⟩,
 ⟨(some 109), .mv (.tmp 12), (some (107, true)), true⟩,
 ⟨(some 110), .indexAddr 1 (.tmp 108) (.tmp 109), (some (107, true)), true⟩,
 ⟨(some 111), .load none (.tmp 110), (some (107, true)), true⟩,
 ⟨(some 112), .bin .neq (.tmp 111) (.av (.val (.int .i64 0))), (some (107, true)), true⟩,
 ⟨(some 113), .pick (.tmp 107) (.tmp 112) (.av (.val (.bool false))), none, true⟩,
 ⟨(some 114), .mv (.tmp 113), none, true⟩,
 ⟨(some 115), .mv (.tmp 13), (some (114, false)), true⟩,
 ⟨(some 116), .bin .neq (.tmp 115) (.av (.val (.int .i64 (-2)))), (some (114, false)), true⟩,
 ⟨(some 117), .mv (.tmp 116), (some (114, false)), true⟩,
 ⟨(some 118), .mv (.tmp 5), (some (117, true)), true⟩,
 ⟨(some 119), .mv (.tmp 12), (some (117, true)), true⟩,
 ⟨(some 120), .indexAddr 1 (.tmp 118) (.tmp 119), (some (117, true)), true⟩,
 ⟨(some 121), .load none (.tmp 120), (some (117, true)), true⟩,
 ⟨(some 122), .mv (.tmp 7), (some (117, true)), true⟩,
 ⟨(some 123), .mv (.tmp 12), (some (117, true)), true⟩,
 ⟨(some 124), .indexAddr 1 (.tmp 122) (.tmp 123), (some (117, true)), true⟩,
 ⟨(some 125), .load none (.tmp 124), (some (117, true)), true⟩,
 ⟨(some 126), .bin .add (.av (.val (.int .i64 1))) (.tmp 125), (some (117, true)), true⟩,
 ⟨(some 127), .bin .neq (.tmp 121) (.tmp 126), (some (117, true)), true⟩,
 ⟨(some 128), .pick (.tmp 117) (.tmp 127) (.av (.val (.bool false))), (some (114, false)), true⟩,
 ⟨(some 129), .pick (.tmp 114) (.av (.val (.bool true))) (.tmp 128), none, true⟩])
 (.cond (.tmp 129)
 (.seq (.ops [⟨(some 2), .mv (.av (.val (.bool false))), none, true⟩])
 (.ret))
 (.skip))))))
 (.seq (.ops [⟨(some 131), .call (.av (.func 9 [])) [], none, true⟩,
 ⟨(some 2), .mv (.tmp 131), none, true⟩])
 (.ret)))))))))
theorem f_ow_tree : cFunc Try.prog 4 = some ⟨132, c_ow_tree, [.tmp 2]⟩ := by kernel_rfl
def c_ow_sizes : ACode := .seq (.ops [⟨(some 1), .box 2 (.tmp 0), none, true⟩,
 ⟨(some 2), .mv (.av (.val (.slice none 0 0))), none, true⟩,
 ⟨(some 3), .mv (.av (.val (.int .i64 0))), none, true⟩])
 (.seq (.seq (.ops [⟨(some 5), .load (some 2) (.tmp 1), none, true⟩,
 ⟨(some 6), .call (.av (.func 22 [])) [(.tmp 5)], none, true⟩,
 ⟨(some 4), .mv (.tmp 6), none, true⟩])
 (.seq (.ops [⟨(some 7), .mv (.tmp 4), none, true⟩,
 ⟨(some 8), .bin .neq (.tmp 7) (.av (.val (.int .i64 0))), none, true⟩])
 (.cond (.tmp 8)
 (.seq (.ops [⟨(some 9), .mv (.tmp 4), none, true⟩,
 ⟨(some 2), .mv (.av (.val (.slice none 0 0))), none, true⟩,
 ⟨(some 3), .mv (.tmp 9), none, true⟩])
 (.ret))
 (.skip))))
 (.seq (.ops [⟨(some 10), .load (some 2) (.tmp 1), none, true⟩,
 ⟨(some 11), .call (.av (.func 23 [])) [(.tmp 10)], none, true⟩,
 ⟨(some 12), .call (.av (.func 24 [])) [(.tmp 11)], none, true⟩,
 ⟨(some 2), .mv (.tmp 12), none, true⟩,
 ⟨(some 3), .mv (.av (.val (.int .i64 0))), none, true⟩])
 (.ret)))
theorem f_ow_sizes : cFunc Try.prog 11 = some ⟨13, c_ow_sizes, [.tmp 2, .tmp 3]⟩ := by kernel_rfl
end Go.Proofs.Ytfmllmcjinjfaaa

namespace Go.Proofs.Ytfmllmcjinjfaaa
open Go Go.RowKit
set_option linter.unusedVariables false
set_option linter.unusedSimpArgs false
variable {tb : List (FuncId × Bool)} {L : Nat → Bool} {H : ZH} {K : ZV → ZH → Prop}
variable {ex exr : Bool} {has : List (List Int)} {roots : List Int}
theorem sizesb_z {p : Nat} {cs : List ZV} {zo zd : ZV} {OL DM : List Int} (hb : H[p]? = some (.box cs)) (h3 : cs[3]? = some zo) (h5 : cs[5]? = some zd) (r3 : rowsZ H 1 zo = some (OL.map eI)) (r5 : rowsZ H 1 zd = some (DM.map eI)) (ok : szOk DM OL)
    (hk : K (.own H.length 0 0 DM.length false) (H ++ [.grow 0 1 ((szL DM OL).map eI)])) : ZC (constX tb) (cFunc Try.prog) 24 [.ptr p 0] L H K := by
  intro fl w args r e ha
  subst e
  obtain ⟨a, ha0, ha1⟩ := ha.get (i := 0) rfl
  have e2 : args = [a] := by
    have := ha.1
    match args, this, ha0 with
    | [x], _, hv0 => simp at hv0; rw [hv0]
  subst e2
  obtain ⟨id, cs', rfl, hb', hm⟩ := ha1.ptr_inv
  rw [hb] at hb'
  injection hb' with hb'; injection hb' with hb'; subst hb'
  obtain ⟨id', row, hm', hrow, hz⟩ := r.box p cs hb
  rw [hm] at hm'
  injection hm' with hm'; injection hm' with hm' _; subst hm'
  obtain ⟨so, hso, hvo⟩ := hz.get h3
  obtain ⟨sd, hsd, hvd⟩ := hz.get h5
  obtain ⟨oc, ho1, ho2, -⟩ := rows_spec r hvo r3
  obtain ⟨dc, hd1, hd2, -⟩ := rows_spec r hvd r5
  have e3 := i_cells ho2
  have e4 := i_cells hd2
  subst e3; subst e4
  obtain ⟨w', e1, e2, r', exx, hzv⟩ := newI_w r (h' := w.h ++ [some ((szL DM OL).map fun k => AV.val (.int .i64 k))]) (v := .slice w.h.length 0 DM.length DM.length false 1) (l := szL DM OL)
    ⟨⟨by simp, .inr ⟨w.h.length, DM.length, (szL DM OL).map fun k => AV.val (.int .i64 k), by rw [szL_len], by rw [szL_len]; exact Nat.le_refl _, by simp [szL_len], blk_app_new, List.take_of_length_le (by simp)⟩⟩, by simp [idOf], Keep.ext [] _⟩
  rw [szL_len] at hzv
  refine AC.const (v := .slice w.h.length 0 DM.length DM.length false 1) (h' := w.h ++ [some ((szL DM OL).map fun k => AV.val (.int .i64 k))]) ?_ ⟨_, w', e1, r', exx, hzv, by rw [e2]; exact hk⟩
  show sortK 24 (.ptr id 0) fl w.h = _
  unfold sortK
  rw [if_neg (by decide), if_pos rfl]
  unfold sizesA
  simp only [hrow, Nat.zero_add, hso, hsd, ho1, hd1, intsA_of]
  rw [if_pos ok]
set_option maxHeartbeats 4000000 in
theorem sizesf_z (hK0 : checkE has roots ≠ 0 → K (.tuple [.nil, Z64 (checkE has roots)]) H)
    (hK : checkE has roots = 0 → ∀ PL DM FR X r, DomsR has roots PL DM FR X r → K (.tuple [.own H.length 0 0 has.length false, Z64 0]) (H ++ [.grow 0 1 ((szL DM (ordR X)).map eI)])) :
    ZC (constX tb) (cFunc Try.prog) 11 [.agg [.fz 1 ex (has.map eL), .fz 1 exr (roots.map eI)]] L H K := by
  refine ZC.enterL Gh.no constX_none f_ow_sizes (by simp) fun hL => ?_
  simp only [c_ow_sizes]
  have H0 := Lib.hid hK0
  have H1 := Lib.hid hK
  have HL := Lib.hid hL
  clear hK0 hK hL
  repeat' (first | (simp only [zmPack, zxPack, ne_eq, zfree, owners, Nat.reduceLT, List.contains_cons, List.contains_nil, Nat.reduceBEq, BEq.rfl, chunk, setAt, List.lookup_cons, List.lookup_nil, reduceCtorEq, Nat.reduceEqDiff, reduceIte, implies_true, forall_const, Nat.reduceMul, Nat.reduceSub, Nat.reduceAdd, Nat.reduceLeDiff, *]) | (simp only [zgoO, zgoG, zO_nil, zthen_normal, zgoC]) | (with_reducible apply And.intro) | (with_reducible intro _))
  refine check_z (has := has) (roots := roots) (by simp [rowsZ]) (by simp [rowsZ]) ?_
  by_cases hc : checkE has roots = 0
  · obtain ⟨q1, q2, q3, q4, q5⟩ := checkE_zero hc
    have H1 := Lib.hid (H1.out hc)
    rw [hc]
    clear H0 hc
    repeat' (first | (simp only [zmPack, zxPack, ne_eq, zfree, owners, Nat.reduceLT, List.contains_cons, List.contains_nil, Nat.reduceBEq, BEq.rfl, chunk, setAt, List.lookup_cons, List.lookup_nil, reduceCtorEq, Nat.reduceEqDiff, reduceIte, implies_true, forall_const, Nat.reduceMul, Nat.reduceSub, Nat.reduceAdd, Nat.reduceLeDiff, *]) | (simp only [zgoO, zgoG, zO_nil, zthen_normal, zgoC]) | (with_reducible apply And.intro) | (with_reducible intro _))
    refine doms_z q4 (fun l hl => by have := q3 l hl; omega) q1 (by omega) q5 (fun i hi => ?_) ?_
    · have := HL.out (i - H.length)
      rw [List.length_append] at hi
      rwa [show H.length + (i - H.length) = i by omega] at this
    · intro h p pb ob go fb db PL DM FR X r F T U FI P FT I FX hl hot hdb
      have hfr : ∀ i, i < H.length → h[i]? = H[i]? := fun i hi => by
        rw [F.2 i (by rw [List.length_append]; omega)]
        unfold domH
        rw [List.getElem?_append_left (by rw [List.length_append]; omega), List.getElem?_append_left hi]
      have hle : H.length ≤ h.length := by
        have := F.1
        unfold domH at this
        simp only [List.length_append] at this
        omega
      have RR : DomsR has roots PL DM FR X r := ⟨U, FI, P, FT, I, FX, hl, hot⟩
      have hon : (ordR X).length ≤ has.length := by
        unfold ordR
        rw [List.length_reverse, List.length_map]
        exact nodN_le FI.nd FI.lt
      have hok : szOk DM (ordR X) := by
        refine ⟨by omega, by omega, fun x hx => ?_, fun x hx => ?_⟩
        · obtain ⟨i, hi⟩ := List.getElem?_of_mem hx
          obtain ⟨j, rfl, _, hj, _⟩ := U.ent i x hi
          omega
        · obtain ⟨t, ht⟩ := List.getElem?_of_mem hx
          have htl := (List.getElem?_eq_some_iff.1 ht).1
          by_cases htX : (t : Int) ∈ ordR X
          · obtain ⟨v, hv⟩ := List.getElem?_of_mem htX
            rcases U.dom v t hv x ht with rfl | rfl | ⟨a, ha⟩
            · omega
            · omega
            · obtain ⟨j, rfl, _, hj, _⟩ := U.ent a x ha
              omega
          · have := hot t htX
            rw [ht, List.getElem?_eq_getElem (by simp; omega)] at this
            simp at this; omega
      have ro : rowsZ h 1 (.own ob go 0 (ordR X).length false) = some ((ordR X).map eI) := by rw [rows_own]; exact ⟨_, T.od, by simp, by rw [List.drop_zero, List.take_of_length_le (by simp)]⟩
      have rdm : rowsZ h 1 (.own db 0 0 DM.length false) = some (DM.map eI) := by rw [rows_own]; exact ⟨_, T.dm, by simp, by rw [List.drop_zero, List.take_of_length_le (by simp)]⟩
      have hb := T.box
      have hfr2 : ∀ i, i < H.length → (h ++ [.grow 0 1 ((szL DM (ordR X)).map eI)])[i]? = H[i]? := fun i hi => by rw [List.getElem?_append_left (by omega), hfr i hi]
      have fin : Fin H (.tuple [.own h.length 0 0 DM.length false, Z64 0]) (h ++ [.grow 0 1 ((szL DM (ordR X)).map eI)]) K := by
        refine Fin.ownT (j := 0) (k := 1) (rows := (szL DM (ordR X)).map eI) rfl rfl (fun i B hi he => .inl (by rw [← hfr2 i hi]; exact he)) hle (by simp) (by simp [szL_len]) ?_ ?_
        · simp [refs1]
        · rw [take_pre (by rw [List.length_append]; omega) hfr2, List.drop_zero, List.take_of_length_le (by simp [szL_len]), hl]
          exact H1.out PL DM FR X r RR
      clear H1 HL hfr hle hdb F T U FI P FT I FX hot q1 q2 q3 q4 q5 RR hfr2 hon
      repeat' (first | (simp only [zmPack, zxPack, ne_eq, zfree, owners, Nat.reduceLT, List.contains_cons, List.contains_nil, Nat.reduceBEq, BEq.rfl, chunk, setAt, List.lookup_cons, List.lookup_nil, reduceCtorEq, Nat.reduceEqDiff, reduceIte, implies_true, forall_const, Nat.reduceMul, Nat.reduceSub, Nat.reduceAdd, Nat.reduceLeDiff, *]) | (simp only [zgoO, zgoG, zO_nil, zthen_normal, zgoC]) | (with_reducible apply And.intro) | (with_reducible intro _))
      refine sizesb_z hb rfl rfl ro rdm hok ?_
      clear hb ro rdm hok hl
      repeat' (first | (simp only [zmPack, zxPack, ne_eq, zfree, owners, Nat.reduceLT, List.contains_cons, List.contains_nil, Nat.reduceBEq, BEq.rfl, chunk, setAt, List.lookup_cons, List.lookup_nil, reduceCtorEq, Nat.reduceEqDiff, reduceIte, implies_true, forall_const, Nat.reduceMul, Nat.reduceSub, Nat.reduceAdd, Nat.reduceLeDiff, *]) | (simp only [zgoO, zgoG, zO_nil, zthen_normal, zgoC]) | (with_reducible apply And.intro) | (with_reducible intro _))
  · have fin : Fin H (.tuple [.nil, Z64 (checkE has roots)]) (H ++ [.box [.fz 1 ex (has.map eL), .fz 1 exr (roots.map eI)]]) K :=
      Fin.truncT (Mods.ext H _) rfl (by rw [List.take_left]; exact H0.out hc)
    clear H0 H1
    generalize checkE has roots = e at hc fin
    repeat' (first | (simp only [zmPack, zxPack, ne_eq, zfree, owners, Nat.reduceLT, List.contains_cons, List.contains_nil, Nat.reduceBEq, BEq.rfl, chunk, setAt, List.lookup_cons, List.lookup_nil, reduceCtorEq, Nat.reduceEqDiff, reduceIte, implies_true, forall_const, Nat.reduceMul, Nat.reduceSub, Nat.reduceAdd, Nat.reduceLeDiff, *]) | (simp only [zgoO, zgoG, zO_nil, zthen_normal, zgoC]) | (with_reducible apply And.intro) | (with_reducible intro _))
end Go.Proofs.Ytfmllmcjinjfaaa
