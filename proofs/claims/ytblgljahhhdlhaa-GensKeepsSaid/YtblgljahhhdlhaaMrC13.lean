/-
  Proved: the law GensKeeps answers true, whatever the input: whenever young ones, or all, are collected, the things that are needed, and what they have, are those that they were; behind a collection of all no other thing has anything.
-/
import Derived.Test.YtblgljahhhdlhaaMrC12
namespace Go.Proofs.Ytblgljahhhdlhaa
open Go Go.RowKit
set_option linter.unusedVariables false
set_option linter.unusedSimpArgs false
def c_kT6 : ACode := .seq (.ops [⟨(some 120), .fieldAddr 0 (.tmp 12), none, true⟩,
 ⟨(some 121), .load none (.tmp 120), none, true⟩,
 ⟨(some 122), .len (.tmp 121), none, true⟩,
 ⟨(some 123), .mv (.av (.val (.int .i64 0))), none, true⟩])
 (rangeCode 4 5 124 123 122 145
 (.seq (.ops [⟨(some 125), .mv (.tmp 123), none, true⟩,
 ⟨(some 15), .mv (.tmp 125), none, true⟩])
 (.seq (.ops [⟨(some 126), .fieldAddr 0 (.tmp 8), none, true⟩,
 ⟨(some 127), .load none (.tmp 126), none, true⟩,
 ⟨(some 128), .bin .eql (.tmp 127) (.av (.val (.int .i64 7))), none, true⟩,
 ⟨(some 129), .mv (.tmp 128), none, true⟩,
 ⟨(some 130), .fieldAddr 0 (.tmp 12), (some (129, true)), true⟩,
 ⟨(some 131), .load none (.tmp 130), (some (129, true)), true⟩,
 ⟨(some 132), .mv (.tmp 15), (some (129, true)), true⟩,
 ⟨(some 133), .indexAddr 1 (.tmp 131) (.tmp 132), (some (129, true)), true⟩,
 ⟨(some 134), .load none (.tmp 133), (some (129, true)), true⟩,
 ⟨(some 135), .len (.tmp 134), (some (129, true)), true⟩,
 ⟨(some 136), .bin .gtr (.tmp 135) (.av (.val (.int .i64 0))), (some (129, true)), true⟩,
 ⟨(some 137), .pick (.tmp 129) (.tmp 136) (.av (.val (.bool false))), none, true⟩,
 ⟨(some 138), .mv (.tmp 137), none, true⟩,
 ⟨(some 139), .load (some 2) (.tmp 12), (some (138, true)), true⟩,
 ⟨(some 140), .call (.av (.func 14 [])) [(.tmp 139)], (some (138, true)), true⟩,
 ⟨(some 141), .mv (.tmp 15), (some (138, true)), true⟩,
 ⟨(some 142), .call (.av (.func 12 [])) [(.tmp 140), (.tmp 141)], (some (138, true)), true⟩,
 ⟨(some 143), .un .not (.tmp 142), (some (138, true)), true⟩,
 ⟨(some 144), .pick (.tmp 138) (.tmp 143) (.av (.val (.bool false))), none, true⟩])
 (.cond (.tmp 144)
 (.seq (.ops [⟨(some 4), .mv (.av (.val (.bool false))), none, true⟩])
 (.ret))
 (.skip)))))
def c_kT5 : ACode := .seq (.seq (.ops [⟨(some 100), .load (some 2) (.tmp 12), none, true⟩,
 ⟨(some 101), .call (.av (.func 14 [])) [(.tmp 100)], none, true⟩,
 ⟨(some 102), .len (.tmp 101), none, true⟩,
 ⟨(some 103), .mv (.av (.val (.int .i64 0))), none, true⟩])
 (rangeCode 2 3 104 103 102 119
 (.seq (.ops [⟨(some 105), .indexAddr 1 (.tmp 101) (.tmp 103), none, true⟩,
 ⟨(some 106), .load none (.tmp 105), none, true⟩,
 ⟨(some 14), .mv (.tmp 106), none, true⟩])
 (.seq (.opsD [⟨(some 107), .fieldAddr 0 (.tmp 9), none, true⟩,
 ⟨(some 108), .load none (.tmp 107), none, true⟩,
 ⟨(some 109), .mv (.tmp 14), none, true⟩,
 ⟨(some 110), .indexAddr 1 (.tmp 108) (.tmp 109), none, true⟩,
 ⟨(some 111), .load none (.tmp 110), none, true⟩,
 ⟨(some 112), .fieldAddr 0 (.tmp 12), none, true⟩,
 ⟨(some 113), .load none (.tmp 112), none, true⟩,
 ⟨(some 114), .mv (.tmp 14), none, true⟩,
 ⟨(some 115), .indexAddr 1 (.tmp 113) (.tmp 114), none, true⟩,
 ⟨(some 116), .load none (.tmp 115), none, true⟩,
 ⟨(some 117), .call (.av (.func 15 [])) [(.tmp 111), (.tmp 116)], none, true⟩,
 ⟨(some 118), .un .not (.tmp 117), none, true⟩])
 (.cond (.tmp 118)
 (.seq (.ops [⟨(some 4), .mv (.av (.val (.bool false))), none, true⟩])
 (.ret))
 (.skip))))))
 c_kT6
def c_kT4 : ACode := .seq (.seq (.opsD [⟨(some 66), .mv (.tmp 11), none, true⟩,
 ⟨(some 67), .bin .neq (.tmp 66) (.av (.val (.int .i64 0))), none, true⟩,
 ⟨(some 68), .mv (.tmp 67), none, true⟩,
 ⟨(some 69), .mv (.tmp 10), (some (68, false)), true⟩,
 ⟨(some 70), .bin .lss (.tmp 69) (.av (.val (.int .i64 0))), (some (68, false)), true⟩,
 ⟨(some 71), .pick (.tmp 68) (.av (.val (.bool true))) (.tmp 70), none, true⟩,
 ⟨(some 72), .mv (.tmp 71), none, true⟩,
 ⟨(some 73), .load (some 2) (.tmp 9), (some (72, false)), true⟩,
 ⟨(some 74), .call (.av (.func 14 [])) [(.tmp 73)], (some (72, false)), false⟩,
 ⟨(some 75), .load (some 2) (.tmp 12), (some (72, false)), false⟩,
 ⟨(some 76), .call (.av (.func 14 [])) [(.tmp 75)], (some (72, false)), true⟩,
 ⟨(some 77), .call (.av (.func 15 [])) [(.tmp 74), (.tmp 76)], (some (72, false)), true⟩,
 ⟨(some 78), .un .not (.tmp 77), (some (72, false)), true⟩,
 ⟨(some 79), .pick (.tmp 72) (.av (.val (.bool true))) (.tmp 78), none, true⟩,
 ⟨(some 80), .mv (.tmp 79), none, true⟩,
 ⟨(some 81), .fieldAddr 1 (.tmp 9), (some (80, false)), true⟩,
 ⟨(some 82), .load none (.tmp 81), (some (80, false)), true⟩,
 ⟨(some 83), .fieldAddr 1 (.tmp 12), (some (80, false)), true⟩,
 ⟨(some 84), .load none (.tmp 83), (some (80, false)), true⟩,
 ⟨(some 85), .call (.av (.func 15 [])) [(.tmp 82), (.tmp 84)], (some (80, false)), true⟩,
 ⟨(some 86), .un .not (.tmp 85), (some (80, false)), true⟩,
 ⟨(some 87), .pick (.tmp 80) (.av (.val (.bool true))) (.tmp 86), none, true⟩,
 ⟨(some 88), .mv (.tmp 87), none, true⟩,
 ⟨(some 89), .mv (.tmp 5), (some (88, false)), true⟩,
 ⟨(some 90), .call (.av (.func 10 [])) [(.tmp 89)], (some (88, false)), true⟩,
 ⟨(some 91), .len (.tmp 90), (some (88, false)), true⟩,
 ⟨(some 92), .bin .gtr (.tmp 91) (.av (.val (.int .i64 0))), (some (88, false)), true⟩,
 ⟨(some 93), .pick (.tmp 88) (.av (.val (.bool true))) (.tmp 92), none, true⟩,
 ⟨(some 94), .mv (.tmp 93), none, true⟩,
 ⟨(some 95), .mv (.tmp 5), (some (94, false)), true⟩,
 ⟨(some 96), .call (.av (.func 16 [])) [(.tmp 95)], (some (94, false)), true⟩,
 ⟨(some 97), .len (.tmp 96), (some (94, false)), true⟩,
 ⟨(some 98), .bin .gtr (.tmp 97) (.av (.val (.int .i64 0))), (some (94, false)), true⟩,
 ⟨(some 99), .pick (.tmp 94) (.av (.val (.bool true))) (.tmp 98), none, true⟩])
 (.cond (.tmp 99)
 (.seq (.ops [⟨(some 4), .mv (.av (.val (.bool false))), none, true⟩])
 (.ret))
 (.skip)))
 c_kT5
theorem c_ge_keeps_cut : c_ge_keeps = .seq (.ops [⟨(some 4), .mv (.av (.val (.bool false))), none, true⟩])
 (.seq (.seq (.ops [⟨(some 16), .call (.av (.func 7 [])) [], none, true⟩,
 ⟨(some 17), .un .not (.tmp 16), none, true⟩])
 (.cond (.tmp 17)
 (.seq (.ops [⟨(some 4), .mv (.av (.val (.bool false))), none, true⟩])
 (.ret))
 (.skip)))
 (.seq (.ops [⟨(some 19), .mv (.tmp 0), none, true⟩,
 ⟨(some 20), .call (.av (.func 9 [])) [(.tmp 19), (.av (.val (.int .i64 10)))], none, true⟩,
 ⟨(some 21), .bin .add (.av (.val (.int .i64 1))) (.tmp 20), none, true⟩,
 ⟨(some 22), .call (.av (.func 8 [])) [(.tmp 21)], none, true⟩,
 ⟨(some 18), .mv (.tmp 22), none, true⟩,
 ⟨(some 23), .extract 0 (.tmp 18), none, true⟩,
 ⟨(some 24), .extract 1 (.tmp 18), none, true⟩,
 ⟨(some 5), .mv (.tmp 23), none, true⟩,
 ⟨(some 6), .mv (.tmp 24), none, true⟩])
 (.seq (.seq (.ops [⟨(some 25), .mv (.tmp 6), none, true⟩,
 ⟨(some 26), .bin .neq (.tmp 25) (.av (.val (.int .i64 0))), none, true⟩,
 ⟨(some 27), .mv (.tmp 26), none, true⟩,
 ⟨(some 28), .mv (.tmp 5), (some (27, false)), true⟩,
 ⟨(some 29), .eqNil false 1 (.tmp 28), (some (27, false)), true⟩,
 ⟨(some 30), .pick (.tmp 27) (.av (.val (.bool true))) (.tmp 29), none, true⟩,
 ⟨(some 31), .mv (.tmp 30), none, true⟩,
 ⟨(some 32), .call (.av (.func 7 [])) [], (some (31, false)), true⟩,
 ⟨(some 33), .un .not (.tmp 32), (some (31, false)), true⟩,
 ⟨(some 34), .pick (.tmp 31) (.av (.val (.bool true))) (.tmp 33), none, true⟩])
 (.cond (.tmp 34)
 (.seq (.ops [⟨(some 4), .mv (.av (.val (.bool false))), none, true⟩])
 (.ret))
 (.skip)))
 (.seq (.seq (.ops [⟨(some 35), .mv (.tmp 1), none, true⟩,
 ⟨(some 36), .mv (.tmp 1), none, true⟩,
 ⟨(some 37), .len (.tmp 36), none, true⟩,
 ⟨(some 38), .minmax false (.tmp 37) [(.av (.val (.int .i64 80)))], none, true⟩,
 ⟨(some 39), .slice 4 (.tmp 35) none (some (.tmp 38)) none, none, true⟩,
 ⟨(some 40), .len (.tmp 39), none, true⟩,
 ⟨(some 41), .mv (.av (.val (.int .i64 0))), none, true⟩])
 (rangeCode 0 1 42 41 40 146
 (.seq (.ops [⟨(some 43), .indexAddr 4 (.tmp 39) (.tmp 41), none, true⟩,
 ⟨(some 44), .load (some 4) (.tmp 43), none, true⟩,
 ⟨(some 8), .zero [(.val (.int .i64 0)), (.val (.int .i64 0)), (.val (.int .i64 0)), (.val (.int .i64 0))], none, true⟩,
 ⟨none, .store 4 (.tmp 8) (.tmp 44), none, true⟩])
 (.seq (.ops [⟨(some 45), .mv (.tmp 5), none, true⟩,
 ⟨(some 46), .call (.av (.func 13 [])) [(.tmp 45)], none, true⟩,
 ⟨(some 9), .zero [(.val (.slice none 0 0)), (.val (.slice none 0 0))], none, true⟩,
 ⟨none, .store 2 (.tmp 9) (.tmp 46), none, true⟩])
 (.seq (.seq (.ops [⟨(some 47), .fieldAddr 0 (.tmp 8), none, true⟩,
 ⟨(some 48), .load none (.tmp 47), none, true⟩,
 ⟨(some 49), .bin .neq (.tmp 48) (.av (.val (.int .i64 6))), none, true⟩,
 ⟨(some 50), .mv (.tmp 49), none, true⟩,
 ⟨(some 51), .fieldAddr 0 (.tmp 8), (some (50, true)), true⟩,
 ⟨(some 52), .load none (.tmp 51), (some (50, true)), true⟩,
 ⟨(some 53), .bin .neq (.tmp 52) (.av (.val (.int .i64 7))), (some (50, true)), true⟩,
 ⟨(some 54), .pick (.tmp 50) (.tmp 53) (.av (.val (.bool false))), none, true⟩])
 (.cond (.tmp 54)
 (.seq (.ops [⟨(some 55), .mv (.tmp 5), none, true⟩,
 ⟨(some 56), .load (some 4) (.tmp 8), none, true⟩,
 ⟨(some 57), .call (.av (.func 11 [])) [(.tmp 55), (.tmp 56)], none, true⟩])
 (.exit 1))
 (.skip)))
 (.seq (.ops [⟨(some 59), .mv (.tmp 5), none, true⟩,
 ⟨(some 60), .load (some 4) (.tmp 8), none, true⟩,
 ⟨(some 61), .call (.av (.func 11 [])) [(.tmp 59), (.tmp 60)], none, true⟩,
 ⟨(some 58), .mv (.tmp 61), none, true⟩,
 ⟨(some 62), .extract 0 (.tmp 58), none, true⟩,
 ⟨(some 63), .extract 1 (.tmp 58), none, true⟩,
 ⟨(some 10), .mv (.tmp 62), none, true⟩,
 ⟨(some 11), .mv (.tmp 63), none, true⟩])
 (.seq (.ops [⟨(some 64), .mv (.tmp 5), none, true⟩,
 ⟨(some 65), .call (.av (.func 13 [])) [(.tmp 64)], none, true⟩,
 ⟨(some 12), .zero [(.val (.slice none 0 0)), (.val (.slice none 0 0))], none, true⟩,
 ⟨none, .store 2 (.tmp 12) (.tmp 65), none, true⟩])
 c_kT4)))))))
 (.seq (.ops [⟨(some 4), .mv (.av (.val (.bool true))), none, true⟩])
 (.ret)))))) := rfl
variable {H : ZH} {p t g m : Nat} {nu : Int} {T T2 : List TB} {R : List Int}
theorem needL_eq : liveL (hasOf T) [] (rising (heldB T)) = rising (needT T) := rfl
theorem Alk.held (s : Alk T T2) : heldB T2 = heldB T := by
  apply List.ext_getElem (by simp [heldB, s.len])
  intro n h1 h2
  have := s.root (n := n)
  rw [rF_held, rF_held] at this
  unfold Sn at this
  simp only [List.getD, List.getElem?_eq_getElem h1, List.getElem?_eq_getElem h2, Option.getD_some] at this
  exact Bool.eq_iff_iff.2 this
theorem Alk.need (s : Alk T T2) (h1 : Rng T) (h2 : Rng T2) : needT T2 = needT T := by
  apply List.ext_getElem (by unfold needT; rw [liveSb_length, liveSb_length, hasOf_len, hasOf_len, s.len])
  intro n q1 q2
  have : Sn (needT T2) n ↔ Sn (needT T) n := by rw [need_nd h1, need_nd h2]; exact s.nd
  unfold Sn at this
  simp only [List.getD, List.getElem?_eq_getElem q1, List.getElem?_eq_getElem q2, Option.getD_some] at this
  exact Bool.eq_iff_iff.2 this
structure KpQ (T T2 : List TB) (nl : List Int) (d : Int) : Prop where
  n1 : nl = rising (needT T2)
  n2 : nl = rising (needT T)
  len : nl.length ≤ 100
  at_ : ∀ x ∈ nl, ∃ k : Nat, x = (k : Int) ∧ k < T.length ∧ k < T2.length ∧ ∃ o, o.length ≤ 10 ∧ (hasOf T)[k]? = some o ∧ (hasOf T2)[k]? = some o
  all : d = 7 → ∀ (k : Nat) o, (hasOf T2)[k]? = some o → o ≠ [] → (k : Int) ∈ nl
theorem KpQ.sim {d : Int} (s : Alk T T2) (h1 : Rng T) (h2 : Rng T2) (ha : d = 7 → ∀ n k, eF T2 n k → NdT T2 n) : KpQ T T2 (rising (needT T2)) d := by
  have hnl : (needT T2).length = T2.length := by unfold needT; rw [liveSb_length, hasOf_len]
  refine ⟨rfl, by rw [s.need h1 h2], ?_, fun x hx => ?_, fun hd k o ho hne => ?_⟩
  · have := riseTo_length (needT T2) (needT T2).length
    have := h2.len
    show (riseTo (needT T2) (needT T2).length).length ≤ 100
    omega
  · obtain ⟨q0, q1⟩ := mem_rising.1 hx
    obtain ⟨k, rfl⟩ := Int.eq_ofNat_of_zero_le q0
    rw [Int.toNat_natCast] at q1
    have hn2 := (need_nd h2).1 q1
    have hn := s.nd.1 hn2
    have l1 := nd_lt h1 hn
    have l2 := nd_lt h2 hn2
    have e1 : T[k]? = some T[k] := List.getElem?_eq_getElem l1
    have e2 : T2[k]? = some T2[k] := List.getElem?_eq_getElem l2
    refine ⟨k, rfl, l1, l2, keepN T[k].2.1, ?_, ?_, ?_⟩
    · exact Nat.le_trans (List.length_filter_le _ _) (h1.sm _ (List.getElem_mem l1))
    · unfold hasOf; rw [List.getElem?_map, e1]; rfl
    · unfold hasOf; rw [List.getElem?_map, e2, Option.map_some, (s.pl k hn _ _ e1 e2).1]
  · obtain ⟨y, hy⟩ := List.exists_mem_of_ne_nil o hne
    have hy2 : y ∈ (hasOf T2).getD k [] := by rw [List.getD_eq_getElem?_getD, ho]; exact hy
    have := ha hd k _ (has_mem.1 hy2).2
    exact mem_rising.2 ⟨by omega, by rw [Int.toNat_natCast]; exact (need_nd h2).2 this⟩
theorem KpQ.of {d r e : Int} {R2 : List Int} (c : Clt d r e T T2 R2) (h1 : Rng T) (h2 : Rng T2) : KpQ T T2 (rising (needT T2)) d := .sim c.sim h1 h2 c.all
abbrev gZ (T : List TB) : List ZV := [.fz 1 false ((hasOf T).map eL), .fz 1 false ((rising (heldB T)).map eI)]
set_option maxHeartbeats 4000000 in
theorem kp6_z {S : ZS} {KK : AExit → ZS → ZH → Prop} {d1 d2 d3 d4 : Int} {nl : List Int} {i8 i12 : Nat} (h2 : Rng T2) (q : KpQ T T2 nl d1)
    (b8 : ∀ Y, (H ++ Y)[i8]? = some (.box [Z64 d1, Z64 d2, Z64 d3, Z64 d4])) (b12 : ∀ Y, (H ++ Y)[i12]? = some (.box (gZ T2)))
    (s8 : S 8 = .ptr i8 0) (s12 : S 12 = .ptr i12 0) (hn : ∀ S', KK .normal S' H) : zW (XG tbGe true) (cFunc Try.prog) Gh.no (fun _ => true) c_kT6 S H KK := by
  simp only [c_kT6]
  have HN := Lib.hid hn
  have HR := Lib.hid h2
  have HQ := Lib.hid q
  have r8 := b8 []
  have r12 := b12 []
  rw [List.append_nil] at r8 r12
  clear hn h2 q b8 b12
  repeat' (first | (simp only [zmPack, zxPack, ne_eq, zfree, owners, Nat.reduceLT, List.contains_cons, List.contains_nil, Nat.reduceBEq, BEq.rfl, chunk, setAt, List.lookup_cons, List.lookup_nil, reduceCtorEq, Nat.reduceEqDiff, reduceIte, implies_true, forall_const, Nat.reduceMul, Nat.reduceSub, Nat.reduceAdd, Nat.reduceLeDiff, *]) | (simp only [zgoO, zgoG, zO_nil, zthen_normal, zgoC]) | (with_reducible apply And.intro) | (with_reducible intro _))
  refine zW_forK [(121, .fz 1 false ((hasOf T2).map eL)), (8, .ptr i8 0), (12, .ptr i12 0)] (hasOf T2).length (fun _ _ W => W = H) (by rw [hasOf_len]; have := HR.out.len; omega) ⟨rfl, rfl, rfl, rfl, rfl, rfl⟩ rfl rfl (by repeat' (first | exact trivial | (refine ⟨rfl, ?_⟩) | (refine ⟨by simp only [zupd_at, Nat.reduceEqDiff, reduceIte]; assumption, ?_⟩))) rfl rfl (by decide) rfl ?_ ?_
  · rintro k s' h' hk rfl hi hl ⟨f121, f8, f12, -⟩
    have ho : (hasOf T2)[k]? = some (hasOf T2)[k] := List.getElem?_eq_getElem hk
    obtain ⟨o, hoe⟩ : ∃ o, o = (hasOf T2)[k] := ⟨_, rfl⟩
    rw [← hoe] at ho
    clear hoe
    by_cases hd : d1 = 7
    · subst hd
      cases o with
      | nil =>
        have z0 : ¬ (0 : Int) < ((([] : List Int).length : Nat) : Int) := by simp
        obtain ⟨o2, ho2⟩ : ∃ o2, o2 = ([] : List Int) := ⟨_, rfl⟩
        rw [← ho2] at ho z0
        clear ho2
        repeat' (first | (simp only [zmPack, zxPack, ne_eq, zfree, owners, Nat.reduceLT, List.contains_cons, List.contains_nil, Nat.reduceBEq, BEq.rfl, chunk, setAt, List.lookup_cons, List.lookup_nil, reduceCtorEq, Nat.reduceEqDiff, reduceIte, implies_true, forall_const, Nat.reduceMul, Nat.reduceSub, Nat.reduceAdd, Nat.reduceLeDiff, ho, z0, *]) | (simp only [zgoO, zgoG, zO_nil, zthen_normal, zgoC]) | (with_reducible apply And.intro) | (with_reducible intro _))
      | cons y o =>
        have hmem := HQ.out.all rfl k _ ho (by simp)
        have z1 : (0 : Int) < (((y :: o).length : Nat) : Int) := by simp
        obtain ⟨o2, ho2⟩ : ∃ o2, o2 = y :: o := ⟨_, rfl⟩
        rw [← ho2] at ho z1
        clear ho2
        repeat' (first | (simp only [zmPack, zxPack, ne_eq, zfree, owners, Nat.reduceLT, List.contains_cons, List.contains_nil, Nat.reduceBEq, BEq.rfl, chunk, setAt, List.lookup_cons, List.lookup_nil, reduceCtorEq, Nat.reduceEqDiff, reduceIte, implies_true, forall_const, Nat.reduceMul, Nat.reduceSub, Nat.reduceAdd, Nat.reduceLeDiff, ho, z1, *]) | (simp only [zgoO, zgoG, zO_nil, zthen_normal, zgoC]) | (with_reducible apply And.intro) | (with_reducible intro _))
        refine ZC.up (neededin_z (by rw [hasOf_len]; have := HR.out.len; omega) (rootsLen HR.out) HR.out.own HR.out.ok HR.out.root ?_)
        rw [needL_eq, ← HQ.out.n1]
        have hll : nl.length ≤ 1000000 := by have := HQ.out.len; omega
        have HLL := Lib.hid hll
        clear hll
        repeat' (first | (simp only [zmPack, zxPack, ne_eq, zfree, owners, Nat.reduceLT, List.contains_cons, List.contains_nil, Nat.reduceBEq, BEq.rfl, chunk, setAt, List.lookup_cons, List.lookup_nil, reduceCtorEq, Nat.reduceEqDiff, reduceIte, implies_true, forall_const, Nat.reduceMul, Nat.reduceSub, Nat.reduceAdd, Nat.reduceLeDiff, *]) | (simp only [zgoO, zgoG, zO_nil, zthen_normal, zgoC]) | (with_reducible apply And.intro) | (with_reducible intro _))
        refine ZC.up (hasint_z rows_fz HLL.out ?_)
        rw [decide_eq_true hmem]
        clear hmem
        repeat' (first | (simp only [zmPack, zxPack, ne_eq, zfree, owners, Nat.reduceLT, List.contains_cons, List.contains_nil, Nat.reduceBEq, BEq.rfl, chunk, setAt, List.lookup_cons, List.lookup_nil, reduceCtorEq, Nat.reduceEqDiff, reduceIte, implies_true, forall_const, Nat.reduceMul, Nat.reduceSub, Nat.reduceAdd, Nat.reduceLeDiff, *]) | (simp only [zgoO, zgoG, zO_nil, zthen_normal, zgoC]) | (with_reducible apply And.intro) | (with_reducible intro _))
    · repeat' (first | (simp only [zmPack, zxPack, ne_eq, zfree, owners, Nat.reduceLT, List.contains_cons, List.contains_nil, Nat.reduceBEq, BEq.rfl, chunk, setAt, List.lookup_cons, List.lookup_nil, reduceCtorEq, Nat.reduceEqDiff, reduceIte, implies_true, forall_const, Nat.reduceMul, Nat.reduceSub, Nat.reduceAdd, Nat.reduceLeDiff, ho, hd, *]) | (simp only [zgoO, zgoG, zO_nil, zthen_normal, zgoC]) | (with_reducible apply And.intro) | (with_reducible intro _))
  · rintro s' h' rfl ⟨f121, f8, f12, -⟩
    have fin := HN.out
    repeat' (first | (simp only [zmPack, zxPack, ne_eq, zfree, owners, Nat.reduceLT, List.contains_cons, List.contains_nil, Nat.reduceBEq, BEq.rfl, chunk, setAt, List.lookup_cons, List.lookup_nil, reduceCtorEq, Nat.reduceEqDiff, reduceIte, implies_true, forall_const, Nat.reduceMul, Nat.reduceSub, Nat.reduceAdd, Nat.reduceLeDiff, *]) | (simp only [zgoO, zgoG, zO_nil, zthen_normal, zgoC]) | (with_reducible apply And.intro) | (with_reducible intro _))
set_option maxHeartbeats 4000000 in
theorem kp5_z {S : ZS} {KK : AExit → ZS → ZH → Prop} {d1 d2 d3 d4 : Int} {nl : List Int} {i8 i9 i12 : Nat} (h2 : Rng T2) (q : KpQ T T2 nl d1)
    (b8 : ∀ Y, (H ++ Y)[i8]? = some (.box [Z64 d1, Z64 d2, Z64 d3, Z64 d4])) (b9 : ∀ Y, (H ++ Y)[i9]? = some (.box (gZ T))) (b12 : ∀ Y, (H ++ Y)[i12]? = some (.box (gZ T2)))
    (s8 : S 8 = .ptr i8 0) (s9 : S 9 = .ptr i9 0) (s12 : S 12 = .ptr i12 0) (hn : ∀ S', KK .normal S' H) : zW (XG tbGe true) (cFunc Try.prog) Gh.no (fun _ => true) c_kT5 S H KK := by
  simp only [c_kT5]
  have HN := Lib.hid hn
  have HR := Lib.hid h2
  have HQ := Lib.hid q
  have HB8 := Lib.hid b8
  have HB12 := Lib.hid b12
  have r9 := b9 []
  have r12 := b12 []
  rw [List.append_nil] at r9 r12
  clear hn h2 q b8 b12 b9
  repeat' (first | (simp only [zmPack, zxPack, ne_eq, zfree, owners, Nat.reduceLT, List.contains_cons, List.contains_nil, Nat.reduceBEq, BEq.rfl, chunk, setAt, List.lookup_cons, List.lookup_nil, reduceCtorEq, Nat.reduceEqDiff, reduceIte, implies_true, forall_const, Nat.reduceMul, Nat.reduceSub, Nat.reduceAdd, Nat.reduceLeDiff, *]) | (simp only [zgoO, zgoG, zO_nil, zthen_normal, zgoC]) | (with_reducible apply And.intro) | (with_reducible intro _))
  refine ZC.up (neededin_z (by rw [hasOf_len]; have := HR.out.len; omega) (rootsLen HR.out) HR.out.own HR.out.ok HR.out.root ?_)
  rw [needL_eq, ← HQ.out.n1]
  repeat' (first | (simp only [zmPack, zxPack, ne_eq, zfree, owners, Nat.reduceLT, List.contains_cons, List.contains_nil, Nat.reduceBEq, BEq.rfl, chunk, setAt, List.lookup_cons, List.lookup_nil, reduceCtorEq, Nat.reduceEqDiff, reduceIte, implies_true, forall_const, Nat.reduceMul, Nat.reduceSub, Nat.reduceAdd, Nat.reduceLeDiff, *]) | (simp only [zgoO, zgoG, zO_nil, zthen_normal, zgoC]) | (with_reducible apply And.intro) | (with_reducible intro _))
  refine zW_forK [(101, .fz 1 false (nl.map eI)), (8, .ptr i8 0), (9, .ptr i9 0), (12, .ptr i12 0)] nl.length (fun _ _ W => W = H) (by have := HQ.out.len; omega) ⟨rfl, rfl, rfl, rfl, rfl, rfl⟩ rfl rfl (by repeat' (first | exact trivial | (refine ⟨rfl, ?_⟩) | (refine ⟨by simp only [zupd_at, Nat.reduceEqDiff, reduceIte]; assumption, ?_⟩))) rfl rfl (by decide) rfl ?_ ?_
  · rintro k s' h' hk rfl hi hl ⟨f101, f8, f9, f12, -⟩
    have hx : nl[k]? = some nl[k] := List.getElem?_eq_getElem hk
    obtain ⟨j, hj, l1, l2, o, ol, o1, o2⟩ := HQ.out.at_ _ (List.getElem_mem hk)
    rw [hj] at hx
    have l3 : j < (hasOf T).length := by rw [hasOf_len]; exact l1
    have l4 : j < (hasOf T2).length := by rw [hasOf_len]; exact l2
    have oll : o.length ≤ 1000000 := by omega
    have HOL := Lib.hid oll
    clear hj l1 l2 ol oll
    repeat' (first | (simp only [zmPack, zxPack, ne_eq, zfree, owners, Nat.reduceLT, List.contains_cons, List.contains_nil, Nat.reduceBEq, BEq.rfl, chunk, setAt, List.lookup_cons, List.lookup_nil, reduceCtorEq, Nat.reduceEqDiff, reduceIte, implies_true, forall_const, Nat.reduceMul, Nat.reduceSub, Nat.reduceAdd, Nat.reduceLeDiff, hx, o1, o2, l3, l4, *]) | (simp only [zgoO, zgoG, zO_nil, zthen_normal, zgoC]) | (with_reducible apply And.intro) | (with_reducible intro _))
    refine eqint_z rows_fz rows_fz HOL.out HOL.out ?_
    rw [decide_eq_true rfl]
    repeat' (first | (simp only [zmPack, zxPack, ne_eq, zfree, owners, Nat.reduceLT, List.contains_cons, List.contains_nil, Nat.reduceBEq, BEq.rfl, chunk, setAt, List.lookup_cons, List.lookup_nil, reduceCtorEq, Nat.reduceEqDiff, reduceIte, implies_true, forall_const, Nat.reduceMul, Nat.reduceSub, Nat.reduceAdd, Nat.reduceLeDiff, *]) | (simp only [zgoO, zgoG, zO_nil, zthen_normal, zgoC]) | (with_reducible apply And.intro) | (with_reducible intro _))
  · rintro s' h' rfl ⟨f101, f8, f9, f12, -⟩
    exact kp6_z HR.out HQ.out HB8.out HB12.out f8 f12 HN.out
set_option maxHeartbeats 4000000 in
theorem kp4_z {S : ZS} {KK : AExit → ZS → ZH → Prop} {d1 d2 d3 d4 n : Int} {nl : List Int} {i8 i9 i12 : Nat} (hM : GeAt U0 H p t g m nu T2 []) (h1 : Rng T) (h2 : Rng T2) (q : KpQ T T2 nl d1) (hh : heldB T2 = heldB T) (hy : yN T2 = 0) (h0 : 0 ≤ n)
    (b8 : ∀ Y, (H ++ Y)[i8]? = some (.box [Z64 d1, Z64 d2, Z64 d3, Z64 d4])) (b9 : ∀ Y, (H ++ Y)[i9]? = some (.box (gZ T))) (b12 : ∀ Y, (H ++ Y)[i12]? = some (.box (gZ T2)))
    (s5 : S 5 = .ptr p 0) (s8 : S 8 = .ptr i8 0) (s9 : S 9 = .ptr i9 0) (s10 : S 10 = Z64 n) (s11 : S 11 = Z64 0) (s12 : S 12 = .ptr i12 0) (hn : ∀ S', KK .normal S' H) : zW (XG tbGe true) (cFunc Try.prog) Gh.no (fun _ => true) c_kT4 S H KK := by
  simp only [c_kT4]
  have HN := Lib.hid hn
  have HM := Lib.hid hM
  have HR1 := Lib.hid h1
  have HR := Lib.hid h2
  have HQ := Lib.hid q
  have HB8 := Lib.hid b8
  have HB9 := Lib.hid b9
  have HB12 := Lib.hid b12
  have HH := Lib.hid hh
  have HY := Lib.hid hy
  have r9 := b9 []
  have r12 := b12 []
  rw [List.append_nil] at r9 r12
  have n0 : ¬ n < 0 := by omega
  have l9 := lt_of_get r9
  have l12 := lt_of_get r12
  clear hn h1 h2 q b8 b12 b9 hM hh hy h0
  repeat' (first | (simp only [zmPack, zxPack, ne_eq, zfree, owners, Nat.reduceLT, List.contains_cons, List.contains_nil, Nat.reduceBEq, BEq.rfl, chunk, setAt, List.lookup_cons, List.lookup_nil, reduceCtorEq, Nat.reduceEqDiff, reduceIte, implies_true, forall_const, Nat.reduceMul, Nat.reduceSub, Nat.reduceAdd, Nat.reduceLeDiff, n0, l9, l12, *]) | (simp only [zgoO, zgoG, zO_nil, zthen_normal, zgoC]) | (with_reducible apply And.intro) | (with_reducible intro _))
  refine neededin_z (by rw [hasOf_len]; have := HR1.out.len; omega) (rootsLen HR1.out) HR1.out.own HR1.out.ok HR1.out.root ?_
  rw [needL_eq, ← HQ.out.n2]
  repeat' (first | (simp only [zmPack, zxPack, ne_eq, zfree, owners, Nat.reduceLT, List.contains_cons, List.contains_nil, Nat.reduceBEq, BEq.rfl, chunk, setAt, List.lookup_cons, List.lookup_nil, reduceCtorEq, Nat.reduceEqDiff, reduceIte, implies_true, forall_const, Nat.reduceMul, Nat.reduceSub, Nat.reduceAdd, Nat.reduceLeDiff, *]) | (simp only [zgoO, zgoG, zO_nil, zthen_normal, zgoC]) | (with_reducible apply And.intro) | (with_reducible intro _))
  refine neededin_z (by rw [hasOf_len]; have := HR.out.len; omega) (rootsLen HR.out) HR.out.own HR.out.ok HR.out.root ?_
  rw [needL_eq, ← HQ.out.n1]
  repeat' (first | (simp only [zmPack, zxPack, ne_eq, zfree, owners, Nat.reduceLT, List.contains_cons, List.contains_nil, Nat.reduceBEq, BEq.rfl, chunk, setAt, List.lookup_cons, List.lookup_nil, reduceCtorEq, Nat.reduceEqDiff, reduceIte, implies_true, forall_const, Nat.reduceMul, Nat.reduceSub, Nat.reduceAdd, Nat.reduceLeDiff, *]) | (simp only [zgoO, zgoG, zO_nil, zthen_normal, zgoC]) | (with_reducible apply And.intro) | (with_reducible intro _))
  refine eqint_z rows_fz rows_fz (by have := HQ.out.len; omega) (by have := HQ.out.len; omega) ?_
  rw [decide_eq_true rfl]
  repeat' (first | (simp only [zmPack, zxPack, ne_eq, zfree, owners, Nat.reduceLT, List.contains_cons, List.contains_nil, Nat.reduceBEq, BEq.rfl, chunk, setAt, List.lookup_cons, List.lookup_nil, reduceCtorEq, Nat.reduceEqDiff, reduceIte, implies_true, forall_const, Nat.reduceMul, Nat.reduceSub, Nat.reduceAdd, Nat.reduceLeDiff, *]) | (simp only [zgoO, zgoG, zO_nil, zthen_normal, zgoC]) | (with_reducible apply And.intro) | (with_reducible intro _))
  rw [HH.out]
  refine eqint_z rows_fz rows_fz (rootsLen HR1.out) (rootsLen HR1.out) ?_
  rw [decide_eq_true rfl]
  repeat' (first | (simp only [zmPack, zxPack, ne_eq, zfree, owners, Nat.reduceLT, List.contains_cons, List.contains_nil, Nat.reduceBEq, BEq.rfl, chunk, setAt, List.lookup_cons, List.lookup_nil, reduceCtorEq, Nat.reduceEqDiff, reduceIte, implies_true, forall_const, Nat.reduceMul, Nat.reduceSub, Nat.reduceAdd, Nat.reduceLeDiff, *]) | (simp only [zgoO, zgoG, zO_nil, zthen_normal, zgoC]) | (with_reducible apply And.intro) | (with_reducible intro _))
  refine young_z (nd := false) HM.out ?_
  have hye : rising (ageB T2 0) = [] := List.eq_nil_of_length_eq_zero (by rw [young_cnt]; exact HY.out)
  rw [hye]
  clear hye
  have z0 : ((0 : Nat) : Int) = 0 := rfl
  have z1 : ¬ (0 : Int) < 0 := by omega
  repeat' (first | (simp only [zmPack, zxPack, ne_eq, zfree, owners, Nat.reduceLT, List.contains_cons, List.contains_nil, Nat.reduceBEq, BEq.rfl, chunk, setAt, List.lookup_cons, List.lookup_nil, reduceCtorEq, Nat.reduceEqDiff, reduceIte, implies_true, forall_const, Nat.reduceMul, Nat.reduceSub, Nat.reduceAdd, Nat.reduceLeDiff, z0, z1, List.map_nil, List.length_nil, *]) | (simp only [zgoO, zgoG, zO_nil, zthen_normal, zgoC]) | (with_reducible apply And.intro) | (with_reducible intro _))
  refine barrier0_z (nd := false) HM.out ?_
  repeat' (first | (simp only [zmPack, zxPack, ne_eq, zfree, owners, Nat.reduceLT, List.contains_cons, List.contains_nil, Nat.reduceBEq, BEq.rfl, chunk, setAt, List.lookup_cons, List.lookup_nil, reduceCtorEq, Nat.reduceEqDiff, reduceIte, implies_true, forall_const, Nat.reduceMul, Nat.reduceSub, Nat.reduceAdd, Nat.reduceLeDiff, z0, z1, List.map_nil, List.length_nil, *]) | (simp only [zgoO, zgoG, zO_nil, zthen_normal, zgoC]) | (with_reducible apply And.intro) | (with_reducible intro _))
  exact kp5_z HR.out HQ.out HB8.out HB9.out HB12.out (by simp [zupd, s8]) (by simp [zupd, s9]) (by simp [zupd, s12]) HN.out
theorem fr_box {U : Nat → Prop} {h H2 : ZH} {i : Nat} {a : List ZV} (hf : FrG U p m h H2) (hi : ∀ Y, (h ++ Y)[i]? = some (.box a)) (h1 : i ≠ p) (h2 : i ≠ m) : ∀ Y, (H2 ++ Y)[i]? = some (.box a) := by
  have h0 := hi []
  rw [List.append_nil] at h0
  have h3 := hf.bx i a h1 h2 h0
  exact fun Y => by rw [List.getElem?_append_left (lt_of_get h3)]; exact h3
def KUI (p t m : Nat) (nu : Int) (h' : ZH) : Prop := ∃ g T R, GeAt U0 h' p t g m nu T R ∧ GI nu T R
set_option maxHeartbeats 8000000 in
theorem genskeeps_z {kind : Int} {l : List Dd} :
    ZC (XG tbGe true) (cFunc Try.prog) 5 [Z64 kind, .fz 4 false (l.map eD)] (fun _ => true) [] fun z _ => z = ZBo true := by
  refine ZC.enter Gh.no (fun args fl hp ha => constX_none (l := tbGe) (f := 5) (by decide) args fl hp ha) f_ge_keeps (by simp) ?_
  simp only [c_ge_keeps_cut]
  have fin : ∀ X, Fin [] (ZBo true) X (fun z _ => z = ZBo true) := fun X => Fin.trunc (Mods.ext [] X) rfl rfl
  have FI := Lib.hid fin
  clear fin
  repeat' (first | (simp only [zmPack, zxPack, ne_eq, zfree, owners, Nat.reduceLT, List.contains_cons, List.contains_nil, Nat.reduceBEq, BEq.rfl, chunk, setAt, List.lookup_cons, List.lookup_nil, reduceCtorEq, Nat.reduceEqDiff, reduceIte, implies_true, forall_const, Nat.reduceMul, Nat.reduceSub, Nat.reduceAdd, Nat.reduceLeDiff, *]) | (simp only [zgoO, zgoG, zO_nil, zthen_normal, zgoC]) | (with_reducible apply And.intro) | (with_reducible intro _))
  refine yes_z ?_
  repeat' (first | (simp only [zmPack, zxPack, ne_eq, zfree, owners, Nat.reduceLT, List.contains_cons, List.contains_nil, Nat.reduceBEq, BEq.rfl, chunk, setAt, List.lookup_cons, List.lookup_nil, reduceCtorEq, Nat.reduceEqDiff, reduceIte, implies_true, forall_const, Nat.reduceMul, Nat.reduceSub, Nat.reduceAdd, Nat.reduceLeDiff, *]) | (simp only [zgoO, zgoG, zO_nil, zthen_normal, zgoC]) | (with_reducible apply And.intro) | (with_reducible intro _))
  refine ZC.up (rest_z (by omega) ?_)
  obtain ⟨nu, hnu⟩ : ∃ nu, nu = 1 + kind % 10 := ⟨_, rfl⟩
  have hn1 : 1 ≤ nu ∧ nu ≤ 100 := by omega
  have w1 : IntKind.i64.wrap (1 + kind % 10) = nu := by rw [IntWalk.i64_in _ (by omega), hnu]
  obtain ⟨kr, hkr⟩ : ∃ kr, kr = kind % 10 := ⟨_, rfl⟩
  rw [← hkr] at w1 ⊢
  have HNU := Lib.hid hn1
  clear hnu hn1 hkr
  repeat' (first | (simp only [zmPack, zxPack, ne_eq, zfree, owners, Nat.reduceLT, List.contains_cons, List.contains_nil, Nat.reduceBEq, BEq.rfl, chunk, setAt, List.lookup_cons, List.lookup_nil, reduceCtorEq, Nat.reduceEqDiff, reduceIte, implies_true, forall_const, Nat.reduceMul, Nat.reduceSub, Nat.reduceAdd, Nat.reduceLeDiff, w1, *]) | (simp only [zgoO, zgoG, zO_nil, zthen_normal, zgoC]) | (with_reducible apply And.intro) | (with_reducible intro _))
  refine new_z (U := U0) (fun i hi => hi.elim) HNU.out.1 HNU.out.2 fun H0 p t m hM0 => ?_
  obtain ⟨ex2, hct⟩ := dd_cut (e := eD) (k := 4) (ex := false) (l := l) (n := min l.length 80) (Nat.min_le_left _ _)
  obtain ⟨ds, hds⟩ : ∃ ds, ds = l.take (min l.length 80) := ⟨_, rfl⟩
  have hlen : ds.length ≤ 80 := by rw [hds, List.length_take]; omega
  rw [← hds] at hct
  have hbm : bestZ false (Z64 (l.length : Nat)) [Z64 (80 : Int)] = some (Z64 ((min l.length 80 : Nat) : Int)) := best_min (m := 80)
  have HM0 := Lib.hid hM0
  have HLEN := Lib.hid hlen
  clear hds hM0 hlen w1
  have hnil : ∀ (H : ZH) i o, nilZ H 1 (.ptr i o) = some false := fun _ _ _ => rfl
  repeat' (first | (simp only [zmPack, zxPack, ne_eq, zfree, owners, Nat.reduceLT, List.contains_cons, List.contains_nil, Nat.reduceBEq, BEq.rfl, chunk, setAt, List.lookup_cons, List.lookup_nil, reduceCtorEq, Nat.reduceEqDiff, reduceIte, implies_true, forall_const, Nat.reduceMul, Nat.reduceSub, Nat.reduceAdd, Nat.reduceLeDiff, hnil, *]) | (simp only [zgoO, zgoG, zO_nil, zthen_normal, zgoC]) | (with_reducible apply And.intro) | (with_reducible intro _))
  refine yes_z ?_
  repeat' (first | (simp only [zmPack, zxPack, ne_eq, zfree, owners, Nat.reduceLT, List.contains_cons, List.contains_nil, Nat.reduceBEq, BEq.rfl, chunk, setAt, List.lookup_cons, List.lookup_nil, reduceCtorEq, Nat.reduceEqDiff, reduceIte, implies_true, forall_const, Nat.reduceMul, Nat.reduceSub, Nat.reduceAdd, Nat.reduceLeDiff, hbm, hct, mv_num0, mv_num1, natZ_nat, Option.bind_some, Option.isSome_none, *]) | (simp only [zgoO, zgoG, zO_nil, zthen_normal, zgoC]) | (with_reducible apply And.intro) | (with_reducible intro _))
  clear hct hbm hnil
  refine zW_forK [(5, .ptr p 0), (39, .fz 4 ex2 (ds.map eD))] ds.length (fun k s' h' => KUI p t m nu h') (by have := HLEN.out; omega) ⟨rfl, rfl, rfl, rfl, rfl, rfl⟩ rfl rfl (by repeat' (first | exact trivial | (refine ⟨rfl, ?_⟩) | (refine ⟨by simp only [zupd_at, Nat.reduceEqDiff, reduceIte]; assumption, ?_⟩))) rfl rfl (by decide) ⟨0, [], [], HM0.out, GI.start HNU.out.1⟩ ?_ ?_
  · rintro k s' h' hk ⟨g, T, R, hM, hG⟩ hi hl ⟨f5, f39, -⟩
    have hx : ds[k]? = some ds[k] := List.getElem?_eq_getElem hk
    obtain ⟨d, hd⟩ : ∃ d, d = ds[k] := ⟨_, rfl⟩
    rw [← hd] at hx
    obtain ⟨d1, d2, d3, d4⟩ := d
    have hp := lt_of_get hM.box
    have hm := lt_of_get hM.rem
    have HM := Lib.hid hM
    have HG := Lib.hid hG
    have HP := Lib.hid (And.intro hp hm)
    clear hd hM hG hp hm
    repeat' (first | (simp only [zmPack, zxPack, ne_eq, zfree, owners, Nat.reduceLT, List.contains_cons, List.contains_nil, Nat.reduceBEq, BEq.rfl, chunk, setAt, List.lookup_cons, List.lookup_nil, reduceCtorEq, Nat.reduceEqDiff, reduceIte, implies_true, forall_const, Nat.reduceMul, Nat.reduceSub, Nat.reduceAdd, Nat.reduceLeDiff, hx, *]) | (simp only [zgoO, zgoG, zO_nil, zthen_normal, zgoC]) | (with_reducible apply And.intro) | (with_reducible intro _))
    refine graph_z (HM.out.ext _) ?_
    have b8 : ∀ A Y, ((h' ++ [.box [Z64 d1, Z64 d2, Z64 d3, Z64 d4], A]) ++ Y)[h'.length]? = some (.box [Z64 d1, Z64 d2, Z64 d3, Z64 d4]) := fun A Y => by rw [List.append_assoc]; exact mv_at0 _ _
    have b9 : ∀ B A Y, ((h' ++ [B, A]) ++ Y)[h'.length + 1]? = some A := fun B A Y => by rw [List.append_assoc]; exact mv_at1 _ _ _
    by_cases hd : d1 = 6 ∨ d1 = 7
    · have step : ∀ (S : ZS) (KK : AExit → ZS → ZH → Prop), S 5 = .ptr p 0 → S 8 = .ptr h'.length 0 → S 9 = .ptr (h'.length + 1) 0 → ∀ H2 n T2 g2, S 10 = Z64 n → S 11 = Z64 0 → S 12 = .ptr H2.length 0 → GeAt U0 H2 p t g2 m nu T2 [] → GI nu T2 [] → Clt d1 n 0 T T2 [] →
          (∀ Y, (H2 ++ Y)[h'.length]? = some (.box [Z64 d1, Z64 d2, Z64 d3, Z64 d4])) → (∀ Y, (H2 ++ Y)[h'.length + 1]? = some (.box (gZ T))) → (∀ S' W, KUI p t m nu W → KK .normal S' W) →
          zW (XG tbGe true) (cFunc Try.prog) Gh.no (fun _ => true) c_kT4 S (H2 ++ [.box (gZ T2)]) KK := fun S KK s5 s8 s9 H2 n T2 g2 s10 s11 s12 hM2 hG2 hc b8 b9 hkk => by
        refine kp4_z (n := n) (hM2.ext _) HG.out.rng hG2.rng (KpQ.of hc HG.out.rng hG2.rng) hc.sim.held hc.none hc.ok.2 (fun Y => by rw [List.append_assoc]; exact b8 _) (fun Y => by rw [List.append_assoc]; exact b9 _) (fun Y => by rw [List.append_assoc]; exact mv_at0 _ _) s5 s8 s9 s10 s11 s12 fun S' => hkk S' _ ⟨g2, T2, [], hM2.ext _, hG2⟩
      have ST := Lib.hid step
      clear step
      rcases hd with rfl | rfl
      · have n1 : ¬ (6 : Int) = 7 := by omega
        repeat' (first | (simp only [zmPack, zxPack, ne_eq, zfree, owners, Nat.reduceLT, List.contains_cons, List.contains_nil, Nat.reduceBEq, BEq.rfl, chunk, setAt, List.lookup_cons, List.lookup_nil, reduceCtorEq, Nat.reduceEqDiff, reduceIte, implies_true, forall_const, Nat.reduceMul, Nat.reduceSub, Nat.reduceAdd, Nat.reduceLeDiff, n1, *]) | (simp only [zgoO, zgoG, zO_nil, zthen_normal, zgoC]) | (with_reducible apply And.intro) | (with_reducible intro _))
        refine do_z (HM.out.ext _) HG.out.rng HG.out.rr (fun _ => rfl) fun H2 g2 r e T2 R2 hdo hM2 hfr => ?_
        have hc := do_col hdo HG.out HNU.out.1 (.inl rfl)
        obtain ⟨q1, q2⟩ := hc.ok
        have q3 := hc.rem
        subst q1
        subst q3
        have c8 := fr_box hfr (b8 _) (by have := HP.out.1; omega) (by have := HP.out.2; omega)
        have c9 := fr_box hfr (b9 _ _) (by have := HP.out.1; omega) (by have := HP.out.2; omega)
        have hg2 := (do_gi hdo HG.out HNU.out.1).1
        have HM2 := Lib.hid hM2
        have HG2 := Lib.hid hg2
        have HC := Lib.hid hc
        have C8 := Lib.hid c8
        have C9 := Lib.hid c9
        clear hdo hM2 hfr hc c8 c9 hg2 q2
        repeat' (first | (simp only [zmPack, zxPack, ne_eq, zfree, owners, Nat.reduceLT, List.contains_cons, List.contains_nil, Nat.reduceBEq, BEq.rfl, chunk, setAt, List.lookup_cons, List.lookup_nil, reduceCtorEq, Nat.reduceEqDiff, reduceIte, implies_true, forall_const, Nat.reduceMul, Nat.reduceSub, Nat.reduceAdd, Nat.reduceLeDiff, *]) | (simp only [zgoO, zgoG, zO_nil, zthen_normal, zgoC]) | (with_reducible apply And.intro) | (with_reducible intro _))
        refine graph_z HM2.out ?_
        repeat' (first | (simp only [zmPack, zxPack, ne_eq, zfree, owners, Nat.reduceLT, List.contains_cons, List.contains_nil, Nat.reduceBEq, BEq.rfl, chunk, setAt, List.lookup_cons, List.lookup_nil, reduceCtorEq, Nat.reduceEqDiff, reduceIte, implies_true, forall_const, Nat.reduceMul, Nat.reduceSub, Nat.reduceAdd, Nat.reduceLeDiff, *]) | (simp only [zgoO, zgoG, zO_nil, zthen_normal, zgoC]) | (with_reducible apply And.intro) | (with_reducible intro _))
        refine ST.out _ _ (by simp [zupd, f5]) (by simp [zupd]) (by simp [zupd]) H2 r T2 g2 (by simp [zupd]) (by simp [zupd]) (by simp [zupd]) HM2.out HG2.out HC.out C8.out C9.out fun S' W fin => ?_
        repeat' (first | (simp only [zmPack, zxPack, ne_eq, zfree, owners, Nat.reduceLT, List.contains_cons, List.contains_nil, Nat.reduceBEq, BEq.rfl, chunk, setAt, List.lookup_cons, List.lookup_nil, reduceCtorEq, Nat.reduceEqDiff, reduceIte, implies_true, forall_const, Nat.reduceMul, Nat.reduceSub, Nat.reduceAdd, Nat.reduceLeDiff, *]) | (simp only [zgoO, zgoG, zO_nil, zthen_normal, zgoC]) | (with_reducible apply And.intro) | (with_reducible intro _))
      · have n1 : ¬ (7 : Int) = 6 := by omega
        repeat' (first | (simp only [zmPack, zxPack, ne_eq, zfree, owners, Nat.reduceLT, List.contains_cons, List.contains_nil, Nat.reduceBEq, BEq.rfl, chunk, setAt, List.lookup_cons, List.lookup_nil, reduceCtorEq, Nat.reduceEqDiff, reduceIte, implies_true, forall_const, Nat.reduceMul, Nat.reduceSub, Nat.reduceAdd, Nat.reduceLeDiff, n1, *]) | (simp only [zgoO, zgoG, zO_nil, zthen_normal, zgoC]) | (with_reducible apply And.intro) | (with_reducible intro _))
        refine do_z (HM.out.ext _) HG.out.rng HG.out.rr (fun _ => rfl) fun H2 g2 r e T2 R2 hdo hM2 hfr => ?_
        have hc := do_col hdo HG.out HNU.out.1 (.inr rfl)
        obtain ⟨q1, q2⟩ := hc.ok
        have q3 := hc.rem
        subst q1
        subst q3
        have c8 := fr_box hfr (b8 _) (by have := HP.out.1; omega) (by have := HP.out.2; omega)
        have c9 := fr_box hfr (b9 _ _) (by have := HP.out.1; omega) (by have := HP.out.2; omega)
        have hg2 := (do_gi hdo HG.out HNU.out.1).1
        have HM2 := Lib.hid hM2
        have HG2 := Lib.hid hg2
        have HC := Lib.hid hc
        have C8 := Lib.hid c8
        have C9 := Lib.hid c9
        clear hdo hM2 hfr hc c8 c9 hg2 q2
        repeat' (first | (simp only [zmPack, zxPack, ne_eq, zfree, owners, Nat.reduceLT, List.contains_cons, List.contains_nil, Nat.reduceBEq, BEq.rfl, chunk, setAt, List.lookup_cons, List.lookup_nil, reduceCtorEq, Nat.reduceEqDiff, reduceIte, implies_true, forall_const, Nat.reduceMul, Nat.reduceSub, Nat.reduceAdd, Nat.reduceLeDiff, *]) | (simp only [zgoO, zgoG, zO_nil, zthen_normal, zgoC]) | (with_reducible apply And.intro) | (with_reducible intro _))
        refine graph_z HM2.out ?_
        repeat' (first | (simp only [zmPack, zxPack, ne_eq, zfree, owners, Nat.reduceLT, List.contains_cons, List.contains_nil, Nat.reduceBEq, BEq.rfl, chunk, setAt, List.lookup_cons, List.lookup_nil, reduceCtorEq, Nat.reduceEqDiff, reduceIte, implies_true, forall_const, Nat.reduceMul, Nat.reduceSub, Nat.reduceAdd, Nat.reduceLeDiff, *]) | (simp only [zgoO, zgoG, zO_nil, zthen_normal, zgoC]) | (with_reducible apply And.intro) | (with_reducible intro _))
        refine ST.out _ _ (by simp [zupd, f5]) (by simp [zupd]) (by simp [zupd]) H2 r T2 g2 (by simp [zupd]) (by simp [zupd]) (by simp [zupd]) HM2.out HG2.out HC.out C8.out C9.out fun S' W fin => ?_
        repeat' (first | (simp only [zmPack, zxPack, ne_eq, zfree, owners, Nat.reduceLT, List.contains_cons, List.contains_nil, Nat.reduceBEq, BEq.rfl, chunk, setAt, List.lookup_cons, List.lookup_nil, reduceCtorEq, Nat.reduceEqDiff, reduceIte, implies_true, forall_const, Nat.reduceMul, Nat.reduceSub, Nat.reduceAdd, Nat.reduceLeDiff, *]) | (simp only [zgoO, zgoG, zO_nil, zthen_normal, zgoC]) | (with_reducible apply And.intro) | (with_reducible intro _))
    · have h6 : ¬ d1 = 6 := fun e => hd (.inl e)
      have h7 : ¬ d1 = 7 := fun e => hd (.inr e)
      clear hd
      repeat' (first | (simp only [zmPack, zxPack, ne_eq, zfree, owners, Nat.reduceLT, List.contains_cons, List.contains_nil, Nat.reduceBEq, BEq.rfl, chunk, setAt, List.lookup_cons, List.lookup_nil, reduceCtorEq, Nat.reduceEqDiff, reduceIte, implies_true, forall_const, Nat.reduceMul, Nat.reduceSub, Nat.reduceAdd, Nat.reduceLeDiff, h6, h7, *]) | (simp only [zgoO, zgoG, zO_nil, zthen_normal, zgoC]) | (with_reducible apply And.intro) | (with_reducible intro _))
      refine do_z (HM.out.ext _) HG.out.rng HG.out.rr (fun _ => rfl) fun H2 g2 r e T2 R2 hdo hM2 hfr => ?_
      have fin : KUI p t m nu H2 := ⟨g2, T2, R2, hM2, (do_gi hdo HG.out HNU.out.1).1⟩
      have FN := Lib.hid fin
      clear fin hdo hM2 hfr
      repeat' (first | (simp only [zmPack, zxPack, ne_eq, zfree, owners, Nat.reduceLT, List.contains_cons, List.contains_nil, Nat.reduceBEq, BEq.rfl, chunk, setAt, List.lookup_cons, List.lookup_nil, reduceCtorEq, Nat.reduceEqDiff, reduceIte, implies_true, forall_const, Nat.reduceMul, Nat.reduceSub, Nat.reduceAdd, Nat.reduceLeDiff, *]) | (simp only [zgoO, zgoG, zO_nil, zthen_normal, zgoC]) | (with_reducible apply And.intro) | (with_reducible intro _))
      all_goals exact FN.out
  · rintro s' h' - ⟨f5, f39, -⟩
    have fin := FI.out h'
    repeat' (first | (simp only [zmPack, zxPack, ne_eq, zfree, owners, Nat.reduceLT, List.contains_cons, List.contains_nil, Nat.reduceBEq, BEq.rfl, chunk, setAt, List.lookup_cons, List.lookup_nil, reduceCtorEq, Nat.reduceEqDiff, reduceIte, implies_true, forall_const, Nat.reduceMul, Nat.reduceSub, Nat.reduceAdd, Nat.reduceLeDiff, *]) | (simp only [zgoO, zgoG, zO_nil, zthen_normal, zgoC]) | (with_reducible apply And.intro) | (with_reducible intro _))
end Go.Proofs.Ytblgljahhhdlhaa

namespace Go.Proofs.Ytblgljahhhdlhaa
open Go Go.RowKit Go.ChangeShapes Go.WideShapes Go.ChangeAt
set_option linter.unusedVariables false
set_option linter.unusedSimpArgs false
set_option maxRecDepth 100000 in
theorem genskeeps_lifted (os : Os) (started : os.Started) (H : Type) (enc : TypeId × Value → H) :
    ReturnsInHanded {} Try.checked os 5 .any (Rows.gensKeepsSpec.pre6 enc Try.prog Try.f5 Rows.gensKeepsRow.domain false) (Rows.gensKeepsSpec.post enc Try.prog Try.f5 false true false false) := by
  refine law_lifted (C := Try.checked) 12 [(false, .int .i64), (false, .slice 32 (.prod (.int .i64) (.prod (.int .i64) (.prod (.int .i64) (.int .i64)))))] 4 Try.own Try.laidOut started (by kernel_rfl) Try.func5
    (ChangeSpec.witness6 (enc := enc) (C := Try.checked) false ⟨#[], #[.int .i64 0, .slice none 0 0], []⟩ 8 (by kernel_rfl) (by kernel_rfl) (by kernel_rfl) (by kernel_rfl))
    rfl (by kernel_rfl) Try.underlying4 (fun ds h => ?_) (by kernel_rfl) (by kernel_rfl) (fun W args h => ?_)
  · match ds, h with
    | [d0, d1], _ => rfl
  · refine zm_walk_nd (by kernel_rfl) (constX_ok (n := 200) (F := cFunc Try.prog) (by kernel_rfl) (fun f af h => h) tbGe (by intro p hp; rw [List.mem_singleton.1 hp]; kernel_rfl)) (fun f af h => h) rfl (fun zl hz => ?_) W args h
    obtain ⟨kind, _, rfl, _, _, l, _, rfl, hl, sl, rfl⟩ := hz
    exact genskeeps_z (kind := kind) (l := l)
theorem genskeeps_holds : Rows.GensKeepsSaid :=
  OpenClaim.holds_of_wide 5 Try.f5 rfl rfl rfl rfl rfl rfl rfl ⟨rfl, rfl, rfl, rfl, rfl⟩ rfl rfl rfl rfl rfl (by kernel_rfl) Try.func5 (by kernel_rfl) (of_decide_eq_true (by kernel_rfl)) (by unfold Func.isWrapper; first | (rw [if_pos (by decide +kernel)]; kernel_rfl) | (rw [if_neg (by decide +kernel)]; exact ⟨rfl, rfl⟩))
    (fun os started H enc _ => genskeeps_lifted os started H enc)
end Go.Proofs.Ytblgljahhhdlhaa
