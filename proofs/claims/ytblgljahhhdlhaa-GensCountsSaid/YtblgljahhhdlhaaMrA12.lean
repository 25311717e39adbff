/-
  Proved: the law GensCounts answers true, whatever the input: collections tell how many went; things that are not young any more never are again; numbers rise.
-/
import Derived.Test.YtblgljahhhdlhaaMrA11
namespace Go.Proofs.Ytblgljahhhdlhaa
open Go Go.RowKit
set_option linter.unusedVariables false
set_option linter.unusedSimpArgs false
def c_uT3 : ACode := .seq (.seq (.ops [⟨(some 99), .mv (.tmp 11), none, true⟩,
        ⟨(some 100), .len (.tmp 99), none, true⟩,
        ⟨(some 101), .mv (.av (.val (.int .i64 0))), none, true⟩])
    (rangeCode 4 5 102 101 100 113
      (.seq (.ops [⟨(some 103), .indexAddr 1 (.tmp 99) (.tmp 101), none, true⟩,
          ⟨(some 104), .load none (.tmp 103), none, true⟩,
          ⟨(some 18), .mv (.tmp 104), none, true⟩])
      (.seq (.ops [⟨(some 105), .mv (.tmp 14), none, true⟩,
          ⟨(some 106), .mv (.tmp 18), none, true⟩,
          ⟨(some 107), .call (.av (.func 12 [])) [(.tmp 105), (.tmp 106)], none, true⟩,
          ⟨(some 108), .un .not (.tmp 107), none, true⟩])
      (.cond (.tmp 108)
        (.ops [⟨(some 109), .mv (.tmp 8), none, true⟩,
            ⟨(some 110), .mv (.tmp 18), none, true⟩,
            ⟨(some 111), .lits 1 1 [(.val (.int .i64 0))] [(0, 1, (.tmp 110))], none, true⟩,
            ⟨(some 112), .append 1 8 (.tmp 109) (.tmp 111), none, true⟩,
            ⟨(some 8), .mv (.tmp 112), none, true⟩])
        (.skip))))))
    (.seq (.ops [⟨(some 114), .mv (.tmp 14), none, true⟩,
        ⟨(some 115), .len (.tmp 114), none, true⟩,
        ⟨(some 116), .mv (.tmp 0), none, true⟩,
        ⟨(some 117), .call (.av (.func 9 [])) [(.tmp 116), (.av (.val (.int .i64 10)))], none, true⟩,
        ⟨(some 118), .bin .add (.av (.val (.int .i64 1))) (.tmp 117), none, true⟩,
        ⟨(some 119), .bin .gtr (.tmp 115) (.tmp 118), none, true⟩])
    (.cond (.tmp 119)
      (.seq (.ops [⟨(some 4), .mv (.av (.val (.bool false))), none, true⟩])
      (.ret))
      (.skip)))
def c_uT2 : ACode := .seq (.seq (.ops [⟨(some 89), .mv (.tmp 14), none, true⟩,
        ⟨(some 90), .len (.tmp 89), none, true⟩,
        ⟨(some 91), .mv (.av (.val (.int .i64 0))), none, true⟩])
    (rangeCode 2 3 92 91 90 98
      (.seq (.ops [⟨(some 93), .indexAddr 1 (.tmp 89) (.tmp 91), none, true⟩,
          ⟨(some 94), .load none (.tmp 93), none, true⟩,
          ⟨(some 16), .mv (.tmp 94), none, true⟩])
      (.seq (.ops [⟨(some 95), .mv (.tmp 8), none, true⟩,
          ⟨(some 96), .mv (.tmp 16), none, true⟩,
          ⟨(some 97), .call (.av (.func 12 [])) [(.tmp 95), (.tmp 96)], none, true⟩])
      (.cond (.tmp 97)
        (.seq (.ops [⟨(some 4), .mv (.av (.val (.bool false))), none, true⟩])
        (.ret))
        (.skip))))))
    c_uT3
theorem c_ge_counts_cut : c_ge_counts = .seq (.ops [⟨(some 4), .mv (.av (.val (.bool false))), none, true⟩])
  (.seq (.seq (.ops [⟨(some 19), .call (.av (.func 7 [])) [], none, true⟩,
      ⟨(some 20), .un .not (.tmp 19), none, true⟩])
  (.cond (.tmp 20)
    (.seq (.ops [⟨(some 4), .mv (.av (.val (.bool false))), none, true⟩])
    (.ret))
    (.skip)))
  (.seq (.ops [⟨(some 22), .mv (.tmp 0), none, true⟩,
      ⟨(some 23), .call (.av (.func 9 [])) [(.tmp 22), (.av (.val (.int .i64 10)))], none, true⟩,
      ⟨(some 24), .bin .add (.av (.val (.int .i64 1))) (.tmp 23), none, true⟩,
      ⟨(some 25), .call (.av (.func 8 [])) [(.tmp 24)], none, true⟩,
      ⟨(some 21), .mv (.tmp 25), none, true⟩,
      ⟨(some 26), .extract 0 (.tmp 21), none, true⟩,
      ⟨(some 27), .extract 1 (.tmp 21), none, true⟩,
      ⟨(some 5), .mv (.tmp 26), none, true⟩,
      ⟨(some 6), .mv (.tmp 27), none, true⟩])
  (.seq (.seq (.ops [⟨(some 28), .mv (.tmp 6), none, true⟩,
      ⟨(some 29), .bin .neq (.tmp 28) (.av (.val (.int .i64 0))), none, true⟩,
      ⟨(some 30), .mv (.tmp 29), none, true⟩,
      ⟨(some 31), .mv (.tmp 5), (some (30, false)), true⟩,
      ⟨(some 32), .eqNil false 1 (.tmp 31), (some (30, false)), true⟩,
      ⟨(some 33), .pick (.tmp 30) (.av (.val (.bool true))) (.tmp 32), none, true⟩,
      ⟨(some 34), .mv (.tmp 33), none, true⟩,
      ⟨(some 35), .call (.av (.func 7 [])) [], (some (34, false)), true⟩,
      ⟨(some 36), .un .not (.tmp 35), (some (34, false)), true⟩,
      ⟨(some 37), .pick (.tmp 34) (.av (.val (.bool true))) (.tmp 36), none, true⟩])
  (.cond (.tmp 37)
    (.seq (.ops [⟨(some 4), .mv (.av (.val (.bool false))), none, true⟩])
    (.ret))
    (.skip)))
  (.seq (.ops [⟨(some 7), .mv (.av (.val (.int .i64 0))), none, true⟩])
  (.seq (.ops [⟨(some 8), .mv (.av (.val (.slice none 0 0))), none, true⟩])
  (.seq (.seq (.ops [⟨(some 38), .mv (.tmp 1), none, true⟩,
      ⟨(some 39), .mv (.tmp 1), none, true⟩,
      ⟨(some 40), .len (.tmp 39), none, true⟩,
      ⟨(some 41), .minmax false (.tmp 40) [(.av (.val (.int .i64 80)))], none, true⟩,
      ⟨(some 42), .slice 4 (.tmp 38) none (some (.tmp 41)) none, none, true⟩,
      ⟨(some 43), .len (.tmp 42), none, true⟩,
      ⟨(some 44), .mv (.av (.val (.int .i64 0))), none, true⟩])
  (rangeCode 0 1 45 44 43 120
    (.seq (.ops [⟨(some 46), .indexAddr 4 (.tmp 42) (.tmp 44), none, true⟩,
        ⟨(some 47), .load (some 4) (.tmp 46), none, true⟩,
        ⟨(some 10), .zero [(.val (.int .i64 0)), (.val (.int .i64 0)), (.val (.int .i64 0)), (.val (.int .i64 0))], none, true⟩,
        ⟨none, .store 4 (.tmp 10) (.tmp 47), none, true⟩])
    (.seq (.ops [⟨(some 48), .mv (.tmp 5), none, true⟩,
        ⟨(some 49), .call (.av (.func 10 [])) [(.tmp 48)], none, true⟩,
        ⟨(some 11), .mv (.tmp 49), none, true⟩])
    (.seq (.ops [⟨(some 51), .mv (.tmp 5), none, true⟩,
        ⟨(some 52), .load (some 4) (.tmp 10), none, true⟩,
        ⟨(some 53), .call (.av (.func 11 [])) [(.tmp 51), (.tmp 52)], none, true⟩,
        ⟨(some 50), .mv (.tmp 53), none, true⟩,
        ⟨(some 54), .extract 0 (.tmp 50), none, true⟩,
        ⟨(some 55), .extract 1 (.tmp 50), none, true⟩,
        ⟨(some 12), .mv (.tmp 54), none, true⟩,
        ⟨(some 13), .mv (.tmp 55), none, true⟩])
    (.seq (.ops [⟨(some 56), .mv (.tmp 5), none, true⟩,
        ⟨(some 57), .call (.av (.func 10 [])) [(.tmp 56)], none, true⟩,
        ⟨(some 14), .mv (.tmp 57), none, true⟩])
    (.seq (.seq (.ops [⟨(some 58), .fieldAddr 0 (.tmp 10), none, true⟩,
        ⟨(some 59), .load none (.tmp 58), none, true⟩,
        ⟨(some 60), .bin .eql (.tmp 59) (.av (.val (.int .i64 1))), none, true⟩,
        ⟨(some 61), .mv (.tmp 60), none, true⟩,
        ⟨(some 62), .mv (.tmp 13), (some (61, true)), true⟩,
        ⟨(some 63), .bin .eql (.tmp 62) (.av (.val (.int .i64 0))), (some (61, true)), true⟩,
        ⟨(some 64), .pick (.tmp 61) (.tmp 63) (.av (.val (.bool false))), none, true⟩])
    (.cond (.tmp 64)
      (.seq (.seq (.ops [⟨(some 65), .mv (.tmp 12), none, true⟩,
          ⟨(some 66), .mv (.tmp 7), none, true⟩,
          ⟨(some 67), .bin .neq (.tmp 65) (.tmp 66), none, true⟩,
          ⟨(some 68), .mv (.tmp 67), none, true⟩,
          ⟨(some 69), .mv (.tmp 14), (some (68, false)), true⟩,
          ⟨(some 70), .mv (.tmp 12), (some (68, false)), true⟩,
          ⟨(some 71), .call (.av (.func 12 [])) [(.tmp 69), (.tmp 70)], (some (68, false)), true⟩,
          ⟨(some 72), .un .not (.tmp 71), (some (68, false)), true⟩,
          ⟨(some 73), .pick (.tmp 68) (.av (.val (.bool true))) (.tmp 72), none, true⟩])
      (.cond (.tmp 73)
        (.seq (.ops [⟨(some 4), .mv (.av (.val (.bool false))), none, true⟩])
        (.ret))
        (.skip)))
      (.ops [⟨(some 74), .mv (.tmp 7), none, true⟩,
          ⟨(some 75), .bin .add (.tmp 74) (.av (.val (.int .i64 1))), none, true⟩,
          ⟨(some 7), .mv (.tmp 75), none, true⟩]))
      (.skip)))
    (.seq (.seq (.ops [⟨(some 76), .fieldAddr 0 (.tmp 10), none, true⟩,
        ⟨(some 77), .load none (.tmp 76), none, true⟩,
        ⟨(some 78), .bin .eql (.tmp 77) (.av (.val (.int .i64 6))), none, true⟩,
        ⟨(some 79), .mv (.tmp 78), none, true⟩,
        ⟨(some 80), .mv (.tmp 13), (some (79, true)), true⟩,
        ⟨(some 81), .bin .neq (.tmp 80) (.av (.val (.int .i64 0))), (some (79, true)), true⟩,
        ⟨(some 82), .mv (.tmp 81), (some (79, true)), true⟩,
        ⟨(some 83), .mv (.tmp 12), (some (82, false)), true⟩,
        ⟨(some 84), .mv (.tmp 11), (some (82, false)), true⟩,
        ⟨(some 85), .len (.tmp 84), (some (82, false)), true⟩,
        ⟨(some 86), .bin .gtr (.tmp 83) (.tmp 85), (some (82, false)), true⟩,
        ⟨(some 87), .pick (.tmp 82) (.av (.val (.bool true))) (.tmp 86), (some (79, true)), true⟩,
        ⟨(some 88), .pick (.tmp 79) (.tmp 87) (.av (.val (.bool false))), none, true⟩])
    (.cond (.tmp 88)
      (.seq (.ops [⟨(some 4), .mv (.av (.val (.bool false))), none, true⟩])
      (.ret))
      (.skip)))
    c_uT2))))))))
  (.seq (.ops [⟨(some 121), .mv (.tmp 5), none, true⟩,
      ⟨(some 122), .call (.av (.func 13 [])) [(.tmp 121)], none, true⟩,
      ⟨(some 123), .field 0 none (.tmp 122), none, true⟩,
      ⟨(some 124), .len (.tmp 123), none, true⟩,
      ⟨(some 125), .mv (.tmp 7), none, true⟩,
      ⟨(some 126), .bin .eql (.tmp 124) (.tmp 125), none, true⟩,
      ⟨(some 4), .mv (.tmp 126), none, true⟩])
  (.ret)))))))) := rfl
abbrev GU : Gh := ⟨[(8, [(0, 1)])], [], []⟩
def CuI (p t g m : Nat) (nu : Int) (T : List TB) (R : List Int) (q : Nat) (ys zs G : List Int) (i : Nat) (s8 : ZV) (h' : ZH) : Prop :=
  ∃ (g' : Nat) (G' : List Int), s8 = .own q g' 0 G'.length false ∧ GeAt h' p t g m nu T R ∧ h'[q]? = some (.grow g' 1 (G'.map eI)) ∧ (0 < g' ∨ G' = []) ∧ (∀ k ∈ G', k ∈ G ∨ (k ∈ ys ∧ k ∉ zs)) ∧ G'.length ≤ G.length + i
variable {H : ZH} {p t g m : Nat} {nu : Int} {T : List TB} {R : List Int}
set_option maxHeartbeats 4000000 in
theorem cu3_z {S : ZS} {KK : AExit → ZS → ZH → Prop} {q g2 : Nat} {G ys zs : List Int} {kind c : Int} (h : GeAt H p t g m nu T R) (hq : H[q]? = some (.grow g2 1 (G.map eI))) (hg : 0 < g2 ∨ G = [])
    (s0 : S 0 = Z64 kind) (s7 : S 7 = Z64 c) (s8 : S 8 = .own q g2 0 G.length false) (s11 : S 11 = .fz 1 false (ys.map eI)) (s14 : S 14 = .fz 1 false (zs.map eI)) (hy : ys.length ≤ 100) (hz : (zs.length : Int) ≤ 1 + kind % 10) (hG : G.length ≤ 8000)
    (hn : ∀ S' H', S' 7 = Z64 c → CuI p t g m nu T R q ys zs G 100 (S' 8) H' → KK .normal S' H') : zW (XG tbGe true) (cFunc Try.prog) GU (fun _ => true) c_uT3 S H KK := by
  simp only [c_uT3]
  have HK := Lib.hid hn
  have HY := Lib.hid hy
  have HZ := Lib.hid hz
  have HG := Lib.hid hG
  have h0 : CuI p t g m nu T R q ys zs G 0 (.own q g2 0 G.length false) H := ⟨g2, G, rfl, h, hq, hg, fun k hk => .inl hk, by omega⟩
  have H0 := Lib.hid h0
  clear hn hy hz hG h0 h hq hg
  repeat' (first | (simp only [zmPack, zxPack, ne_eq, zfree, owners, Nat.reduceLT, List.contains_cons, List.contains_nil, Nat.reduceBEq, BEq.rfl, chunk, setAt, List.lookup_cons, List.lookup_nil, reduceCtorEq, Nat.reduceEqDiff, reduceIte, implies_true, forall_const, Nat.reduceMul, Nat.reduceSub, Nat.reduceAdd, Nat.reduceLeDiff, *]) | (simp only [zgoO, zgoG, zO_nil, zthen_normal, zgoC]) | (with_reducible apply And.intro) | (with_reducible intro _))
  refine zW_forK [(99, .fz 1 false (ys.map eI)), (14, .fz 1 false (zs.map eI)), (7, Z64 c), (0, Z64 kind)] ys.length (fun k s' h' => CuI p t g m nu T R q ys zs G k (s' 8) h') (by have := HY.out; omega) ⟨rfl, rfl, rfl, rfl, rfl, rfl⟩ rfl rfl (by repeat' (first | exact trivial | (refine ⟨rfl, ?_⟩) | (refine ⟨by simp only [zupd_at, Nat.reduceEqDiff, reduceIte]; assumption, ?_⟩))) rfl rfl (by decide) (by simp only [zupd_at, Nat.reduceEqDiff, reduceIte]; rw [s8]; exact H0.out) ?_ ?_
  · rintro k s' h' hk ⟨g', G', f8, hM, hb, hgg, hsub, hle⟩ hi hl ⟨f99, f14, f7, f0, -⟩
    have hx : ys[k]? = some ys[k] := List.getElem?_eq_getElem hk
    obtain ⟨x, hxe⟩ : ∃ x, x = ys[k] := ⟨_, rfl⟩
    have hmem : x ∈ ys := by rw [hxe]; exact List.getElem_mem hk
    rw [← hxe] at hx
    have hap : appZ (fun _ => true) h' 1 8 [[Z64 x]] (.own q g' 0 G'.length false) = some (.own q (g' + 1) 0 (G'.length + 1) false, h'.set q (.grow (g' + 1) 1 ((G' ++ [x]).map eI))) := by
      rw [app_ownN hb (by simp) (by have := HG.out; have := HY.out; unfold reach; simp; omega) rfl, List.map_append]; rfl
    have fin1 : x ∈ zs → CuI p t g m nu T R q ys zs G (k + 1) (.own q g' 0 G'.length false) h' := fun _ => ⟨g', G', rfl, hM, hb, hgg, hsub, by omega⟩
    have fin2 : x ∉ zs → CuI p t g m nu T R q ys zs G (k + 1) (.own q (g' + 1) 0 (G'.length + 1) false) (h'.set q (.grow (g' + 1) 1 ((G' ++ [x]).map eI))) := fun hc => by
      refine ⟨g' + 1, G' ++ [x], by simp, hM.beside hb (by rw [List.map_eq_nil_iff]; exact hgg), by rw [List.getElem?_set_self (lt_of_get hb)], .inl (by omega), fun z hz => ?_, by simp; omega⟩
      rcases List.mem_append.1 hz with hz | hz
      · exact hsub z hz
      · rw [List.mem_singleton.1 hz]; exact .inr ⟨hmem, hc⟩
    have F1 := Lib.hid fin1
    have F2 := Lib.hid fin2
    have zl : zs.length ≤ 1000000 := by have := HZ.out; omega
    clear hxe hmem hM hb hgg hsub hle fin1 fin2
    repeat' (first | (simp only [zmPack, zxPack, ne_eq, zfree, owners, Nat.reduceLT, List.contains_cons, List.contains_nil, Nat.reduceBEq, BEq.rfl, chunk, setAt, List.lookup_cons, List.lookup_nil, reduceCtorEq, Nat.reduceEqDiff, reduceIte, implies_true, forall_const, Nat.reduceMul, Nat.reduceSub, Nat.reduceAdd, Nat.reduceLeDiff, hx, *]) | (simp only [zgoO, zgoG, zO_nil, zthen_normal, zgoC]) | (with_reducible apply And.intro) | (with_reducible intro _))
    refine ZC.up (hasint_z rows_fz zl ?_)
    by_cases hc : x ∈ zs
    · have fin := F1.out hc
      rw [decide_eq_true hc]
      clear hc
      repeat' (first | (simp only [zmPack, zxPack, ne_eq, zfree, owners, Nat.reduceLT, List.contains_cons, List.contains_nil, Nat.reduceBEq, BEq.rfl, chunk, setAt, List.lookup_cons, List.lookup_nil, reduceCtorEq, Nat.reduceEqDiff, reduceIte, implies_true, forall_const, Nat.reduceMul, Nat.reduceSub, Nat.reduceAdd, Nat.reduceLeDiff, *]) | (simp only [zgoO, zgoG, zO_nil, zthen_normal, zgoC]) | (with_reducible apply And.intro) | (with_reducible intro _))
    · have fin := F2.out hc
      rw [decide_eq_false hc]
      clear hc
      repeat' (first | (simp only [zmPack, zxPack, ne_eq, zfree, owners, Nat.reduceLT, List.contains_cons, List.contains_nil, Nat.reduceBEq, BEq.rfl, chunk, setAt, List.lookup_cons, List.lookup_nil, reduceCtorEq, Nat.reduceEqDiff, reduceIte, implies_true, forall_const, Nat.reduceMul, Nat.reduceSub, Nat.reduceAdd, Nat.reduceLeDiff, hap, *]) | (simp only [zgoO, zgoG, zO_nil, zthen_normal, zgoC]) | (with_reducible apply And.intro) | (with_reducible intro _))
  · rintro s' h' hI ⟨f99, f14, f7, f0, -⟩
    have fin := fun S' (e7 : S' 7 = Z64 c) (e8 : S' 8 = s' 8) => HK.out S' h' e7 (by
      rw [e8]
      obtain ⟨g', G', q1, q2, q3, q4, q5, q6⟩ := hI
      exact ⟨g', G', q1, q2, q3, q4, q5, by have := HY.out; omega⟩)
    have FN := Lib.hid fin
    obtain ⟨kr, hkr⟩ : ∃ kr, kr = kind % 10 := ⟨_, rfl⟩
    have hk1 : 0 ≤ kr ∧ kr < 10 := by omega
    have w1 : IntKind.i64.wrap (1 + kr) = 1 + kr := by rw [IntWalk.i64_in _ (by omega)]
    have hz2 : ¬ (1 + kr < (zs.length : Int)) := by have := HZ.out; omega
    clear hI fin
    repeat' (first | (simp only [zmPack, zxPack, ne_eq, zfree, owners, Nat.reduceLT, List.contains_cons, List.contains_nil, Nat.reduceBEq, BEq.rfl, chunk, setAt, List.lookup_cons, List.lookup_nil, reduceCtorEq, Nat.reduceEqDiff, reduceIte, implies_true, forall_const, Nat.reduceMul, Nat.reduceSub, Nat.reduceAdd, Nat.reduceLeDiff, *]) | (simp only [zgoO, zgoG, zO_nil, zthen_normal, zgoC]) | (with_reducible apply And.intro) | (with_reducible intro _))
    refine ZC.up (rest_z (by omega) ?_)
    rw [← hkr]
    clear hkr hk1
    repeat' (first | (simp only [zmPack, zxPack, ne_eq, zfree, owners, Nat.reduceLT, List.contains_cons, List.contains_nil, Nat.reduceBEq, BEq.rfl, chunk, setAt, List.lookup_cons, List.lookup_nil, reduceCtorEq, Nat.reduceEqDiff, reduceIte, implies_true, forall_const, Nat.reduceMul, Nat.reduceSub, Nat.reduceAdd, Nat.reduceLeDiff, w1, hz2, *]) | (simp only [zgoO, zgoG, zO_nil, zthen_normal, zgoC]) | (with_reducible apply And.intro) | (with_reducible intro _))
    exact FN.out _ (by simp [zupd, f7]) (by simp [zupd])
set_option maxHeartbeats 4000000 in
theorem cu2_z {S : ZS} {KK : AExit → ZS → ZH → Prop} {q g2 : Nat} {G ys zs : List Int} {kind c : Int} (h : GeAt H p t g m nu T R) (hq : H[q]? = some (.grow g2 1 (G.map eI))) (hg : 0 < g2 ∨ G = [])
    (s0 : S 0 = Z64 kind) (s7 : S 7 = Z64 c) (s8 : S 8 = .own q g2 0 G.length false) (s11 : S 11 = .fz 1 false (ys.map eI)) (s14 : S 14 = .fz 1 false (zs.map eI)) (hy : ys.length ≤ 100) (hz : (zs.length : Int) ≤ 1 + kind % 10) (hG : G.length ≤ 8000) (hno : ∀ k ∈ zs, k ∉ G)
    (hn : ∀ S' H', S' 7 = Z64 c → CuI p t g m nu T R q ys zs G 100 (S' 8) H' → KK .normal S' H') : zW (XG tbGe true) (cFunc Try.prog) GU (fun _ => true) c_uT2 S H KK := by
  simp only [c_uT2]
  have HK := Lib.hid hn
  have HY := Lib.hid hy
  have HZ := Lib.hid hz
  have HG := Lib.hid hG
  have HM := Lib.hid h
  have HQ := Lib.hid hq
  have HGG := Lib.hid hg
  have HNO := Lib.hid hno
  clear hn hy hz hG h hq hg hno
  repeat' (first | (simp only [zmPack, zxPack, ne_eq, zfree, owners, Nat.reduceLT, List.contains_cons, List.contains_nil, Nat.reduceBEq, BEq.rfl, chunk, setAt, List.lookup_cons, List.lookup_nil, reduceCtorEq, Nat.reduceEqDiff, reduceIte, implies_true, forall_const, Nat.reduceMul, Nat.reduceSub, Nat.reduceAdd, Nat.reduceLeDiff, *]) | (simp only [zgoO, zgoG, zO_nil, zthen_normal, zgoC]) | (with_reducible apply And.intro) | (with_reducible intro _))
  refine zW_forK [(89, .fz 1 false (zs.map eI)), (8, .own q g2 0 G.length false), (11, .fz 1 false (ys.map eI)), (14, .fz 1 false (zs.map eI)), (7, Z64 c), (0, Z64 kind)] zs.length (fun k s' h' => h' = H) (by have := HZ.out; omega) ⟨rfl, rfl, rfl, rfl, rfl, rfl⟩ rfl rfl (by repeat' (first | exact trivial | (refine ⟨rfl, ?_⟩) | (refine ⟨by simp only [zupd_at, Nat.reduceEqDiff, reduceIte]; assumption, ?_⟩))) rfl rfl (by decide) rfl ?_ ?_
  · rintro k s' h' hk rfl hi hl ⟨f89, f8, f11, f14, f7, f0, -⟩
    have hx : zs[k]? = some zs[k] := List.getElem?_eq_getElem hk
    obtain ⟨x, hxe⟩ : ∃ x, x = zs[k] := ⟨_, rfl⟩
    have hno : x ∉ G := by rw [hxe]; exact HNO.out _ (List.getElem_mem hk)
    rw [← hxe] at hx
    have hr : rowsZ h' 1 (.own q g2 0 G.length false) = some (G.map eI) := rows_whole HQ.out (by simp)
    have hG := HG.out
    clear hxe
    repeat' (first | (simp only [zmPack, zxPack, ne_eq, zfree, owners, Nat.reduceLT, List.contains_cons, List.contains_nil, Nat.reduceBEq, BEq.rfl, chunk, setAt, List.lookup_cons, List.lookup_nil, reduceCtorEq, Nat.reduceEqDiff, reduceIte, implies_true, forall_const, Nat.reduceMul, Nat.reduceSub, Nat.reduceAdd, Nat.reduceLeDiff, hx, *]) | (simp only [zgoO, zgoG, zO_nil, zthen_normal, zgoC]) | (with_reducible apply And.intro) | (with_reducible intro _))
    refine ZC.up (hasint_z hr (by omega) ?_)
    rw [decide_eq_false hno]
    clear hno hr hG
    repeat' (first | (simp only [zmPack, zxPack, ne_eq, zfree, owners, Nat.reduceLT, List.contains_cons, List.contains_nil, Nat.reduceBEq, BEq.rfl, chunk, setAt, List.lookup_cons, List.lookup_nil, reduceCtorEq, Nat.reduceEqDiff, reduceIte, implies_true, forall_const, Nat.reduceMul, Nat.reduceSub, Nat.reduceAdd, Nat.reduceLeDiff, *]) | (simp only [zgoO, zgoG, zO_nil, zthen_normal, zgoC]) | (with_reducible apply And.intro) | (with_reducible intro _))
  · rintro s' h' rfl ⟨f89, f8, f11, f14, f7, f0, -⟩
    exact cu3_z HM.out HQ.out HGG.out f0 f7 f8 f11 f14 HY.out HZ.out HG.out HK.out
def GUI (p t m : Nat) (nu : Int) (q k : Nat) (s7 s8 : ZV) (h' : ZH) : Prop :=
  ∃ g T R g2 G, s7 = Z64 (T.length : Nat) ∧ s8 = .own q g2 0 (List.length G) false ∧ h'[q]? = some (.grow g2 1 (G.map eI)) ∧ (0 < g2 ∨ G = []) ∧ GeAt h' p t g m nu T R ∧ GI nu T R ∧ (∀ k ∈ G, 0 ≤ k ∧ k < (T.length : Int) ∧ ¬ yF T k.toNat) ∧ G.length ≤ 100 * k
set_option maxHeartbeats 8000000 in
theorem genscounts_z {kind : Int} {l : List Dd} :
    ZC (XG tbGe true) (cFunc Try.prog) 3 [Z64 kind, .fz 4 false (l.map eD)] (fun _ => true) [] fun z _ => z = ZBo true := by
  refine ZC.enter GU (fun args fl hp ha => constX_none (l := tbGe) (f := 3) args fl hp ha) f_ge_counts (by simp) ?_
  simp only [c_ge_counts_cut]
  have fin : ∀ X, Fin [] (ZBo true) X (fun z _ => z = ZBo true) := fun X => Fin.trunc (Mods.ext [] X) rfl rfl
  have FI := Lib.hid fin
  clear fin
  repeat' (first | (simp only [zmPack, zxPack, ne_eq, zfree, owners, Nat.reduceLT, List.contains_cons, List.contains_nil, Nat.reduceBEq, BEq.rfl, chunk, setAt, List.lookup_cons, List.lookup_nil, reduceCtorEq, Nat.reduceEqDiff, reduceIte, implies_true, forall_const, Nat.reduceMul, Nat.reduceSub, Nat.reduceAdd, Nat.reduceLeDiff, *]) | (simp only [zgoO, zgoG, zO_nil, zthen_normal, zgoC]) | (with_reducible apply And.intro) | (with_reducible intro _))
  refine yes_z ?_
  repeat' (first | (simp only [zmPack, zxPack, ne_eq, zfree, owners, Nat.reduceLT, List.contains_cons, List.contains_nil, Nat.reduceBEq, BEq.rfl, chunk, setAt, List.lookup_cons, List.lookup_nil, reduceCtorEq, Nat.reduceEqDiff, reduceIte, implies_true, forall_const, Nat.reduceMul, Nat.reduceSub, Nat.reduceAdd, Nat.reduceLeDiff, *]) | (simp only [zgoO, zgoG, zO_nil, zthen_normal, zgoC]) | (with_reducible apply And.intro) | (with_reducible intro _))
  refine ZC.up (rest_z (by omega) ?_)
  obtain ⟨nu, hnu⟩ : ∃ nu, nu = 1 + kind % 10 := ⟨_, rfl⟩
  have hn1 : 1 ≤ nu ∧ nu ≤ 100 := by omega
  have w1 : IntKind.i64.wrap (1 + kind % 10) = nu := by rw [IntWalk.i64_in _ (by omega), hnu]
  obtain ⟨kr, hkr⟩ : ∃ kr, kr = kind % 10 := ⟨_, rfl⟩
  rw [← hkr] at w1 ⊢
  have HNU := Lib.hid hn1
  have HNK : Hid (nu = 1 + kind % 10) := Lib.hid hnu
  clear hnu hn1 hkr
  repeat' (first | (simp only [zmPack, zxPack, ne_eq, zfree, owners, Nat.reduceLT, List.contains_cons, List.contains_nil, Nat.reduceBEq, BEq.rfl, chunk, setAt, List.lookup_cons, List.lookup_nil, reduceCtorEq, Nat.reduceEqDiff, reduceIte, implies_true, forall_const, Nat.reduceMul, Nat.reduceSub, Nat.reduceAdd, Nat.reduceLeDiff, w1, *]) | (simp only [zgoO, zgoG, zO_nil, zthen_normal, zgoC]) | (with_reducible apply And.intro) | (with_reducible intro _))
  refine new_z HNU.out.1 HNU.out.2 fun H0 p t m hM0 => ?_
  obtain ⟨ex2, hct⟩ := dd_cut (e := eD) (k := 4) (ex := false) (l := l) (n := min l.length 80) (Nat.min_le_left _ _)
  obtain ⟨ds, hds⟩ : ∃ ds, ds = l.take (min l.length 80) := ⟨_, rfl⟩
  have hlen : ds.length ≤ 80 := by rw [hds, List.length_take]; omega
  rw [← hds] at hct
  have hbm : bestZ false (Z64 (l.length : Nat)) [Z64 (80 : Int)] = some (Z64 ((min l.length 80 : Nat) : Int)) := best_min (m := 80)
  have HM0 := Lib.hid hM0
  have HLEN := Lib.hid hlen
  clear hds hM0 hlen w1
  have hnil : ∀ (H : ZH) i o, nilZ H 1 (.ptr i o) = some false := fun _ _ _ => rfl
  repeat' (first | (simp only [zmPack, zxPack, ne_eq, zfree, owners, Nat.reduceLT, List.contains_cons, List.contains_nil, Nat.reduceBEq, BEq.rfl, chunk, setAt, List.lookup_cons, List.lookup_nil, reduceCtorEq, Nat.reduceEqDiff, reduceIte, implies_true, forall_const, Nat.reduceMul, Nat.reduceSub, Nat.reduceAdd, Nat.reduceLeDiff, hnil, *]) | (simp only [zgoO, zgoG, zO_nil, zthen_normal, zgoC]) | (with_reducible apply And.intro) | (with_reducible intro _))
  refine yes_z ?_
  repeat' (first | (simp only [zmPack, zxPack, ne_eq, zfree, owners, Nat.reduceLT, List.contains_cons, List.contains_nil, Nat.reduceBEq, BEq.rfl, chunk, setAt, List.lookup_cons, List.lookup_nil, reduceCtorEq, Nat.reduceEqDiff, reduceIte, implies_true, forall_const, Nat.reduceMul, Nat.reduceSub, Nat.reduceAdd, Nat.reduceLeDiff, hbm, hct, mv_num0, mv_num1, natZ_nat, Option.bind_some, Option.isSome_none, *]) | (simp only [zgoO, zgoG, zO_nil, zthen_normal, zgoC]) | (with_reducible apply And.intro) | (with_reducible intro _))
  clear hct hbm hnil
  refine zW_forK [(5, .ptr p 0), (42, .fz 4 ex2 (ds.map eD)), (0, Z64 kind)] ds.length (fun k s' h' => GUI p t m nu H0.length k (s' 7) (s' 8) h') (by have := HLEN.out; omega) ⟨rfl, rfl, rfl, rfl, rfl, rfl⟩ rfl rfl (by repeat' (first | exact trivial | (refine ⟨rfl, ?_⟩) | (refine ⟨by simp only [zupd_at, Nat.reduceEqDiff, reduceIte]; assumption, ?_⟩))) rfl rfl (by decide) ⟨0, [], [], 0, [], rfl, rfl, mv_at0 _ _, .inr rfl, HM0.out.ext _, GI.start HNU.out.1, by simp, by simp⟩ ?_ ?_
  · rintro k s' h' hk ⟨g, T, R, g2, G, f7, f8, hq, hg, hM, hG, hno, hGl⟩ hi hl ⟨f5, f42, f0, -⟩
    have hx : ds[k]? = some ds[k] := List.getElem?_eq_getElem hk
    have hk80 : k < 80 := by have := HLEN.out; omega
    obtain ⟨d, hd⟩ : ∃ d, d = ds[k] := ⟨_, rfl⟩
    rw [← hd] at hx
    obtain ⟨d1, d2, d3, d4⟩ := d
    have hlt : p < h'.length := lt_of_get hM.box
    have hltm : m < h'.length := lt_of_get hM.rem
    have HM := Lib.hid hM
    have HG := Lib.hid hG
    have HLT := Lib.hid hlt
    have HLM := Lib.hid hltm
    have HQ := Lib.hid hq
    have HGG := Lib.hid hg
    have HNO := Lib.hid hno
    have HGL := Lib.hid hGl
    have HK8 := Lib.hid hk80
    clear hd hM hG hlt hltm hq hg hno hGl hk80
    repeat' (first | (simp only [zmPack, zxPack, ne_eq, zfree, owners, Nat.reduceLT, List.contains_cons, List.contains_nil, Nat.reduceBEq, BEq.rfl, chunk, setAt, List.lookup_cons, List.lookup_nil, reduceCtorEq, Nat.reduceEqDiff, reduceIte, implies_true, forall_const, Nat.reduceMul, Nat.reduceSub, Nat.reduceAdd, Nat.reduceLeDiff, hx, *]) | (simp only [zgoO, zgoG, zO_nil, zthen_normal, zgoC]) | (with_reducible apply And.intro) | (with_reducible intro _))
    refine young_z (HM.out.ext _) ?_
    have hyl := young_len HG.out
    have hym : ∀ k, k ∈ rising (ageB T 0) ↔ 0 ≤ k ∧ yF T k.toNat := fun k => mem_young
    have hyc := young_cnt (T := T)
    obtain ⟨ys, hys⟩ : ∃ ys, ys = rising (ageB T 0) := ⟨_, rfl⟩
    rw [← hys] at hyl hym hyc ⊢
    have HYL := Lib.hid hyl
    have HYM := Lib.hid hym
    have HYC := Lib.hid hyc
    clear hys hyl hym hyc
    repeat' (first | (simp only [zmPack, zxPack, ne_eq, zfree, owners, Nat.reduceLT, List.contains_cons, List.contains_nil, Nat.reduceBEq, BEq.rfl, chunk, setAt, List.lookup_cons, List.lookup_nil, reduceCtorEq, Nat.reduceEqDiff, reduceIte, implies_true, forall_const, Nat.reduceMul, Nat.reduceSub, Nat.reduceAdd, Nat.reduceLeDiff, *]) | (simp only [zgoO, zgoG, zO_nil, zthen_normal, zgoC]) | (with_reducible apply And.intro) | (with_reducible intro _))
    refine do_z (HM.out.ext _) HG.out.rng HG.out.rr (fun _ => rfl) fun H2 g3 r e T2 R2 hdo hM2 hfr => ?_
    have r9 := fr_one hfr HLT.out HLM.out
    have r9e := r9 []
    rw [List.append_nil] at r9e
    have hq2 : H2[H0.length]? = some (.grow g2 1 (G.map eI)) := hfr.2 _ _ _ (by rw [List.map_eq_nil_iff]; exact HGG.out) (by rw [List.getElem?_append_left (lt_of_get HQ.out)]; exact HQ.out)
    obtain ⟨hG2, hyg⟩ := do_gi hdo HG.out HNU.out.1
    have HM2 := Lib.hid hM2
    have HG2 := Lib.hid hG2
    have HYG := Lib.hid hyg
    have HQ2 := Lib.hid hq2
    clear hdo hM2 hfr hG2 hyg r9 hq2
    repeat' (first | (simp only [zmPack, zxPack, ne_eq, zfree, owners, Nat.reduceLT, List.contains_cons, List.contains_nil, Nat.reduceBEq, BEq.rfl, chunk, setAt, List.lookup_cons, List.lookup_nil, reduceCtorEq, Nat.reduceEqDiff, reduceIte, implies_true, forall_const, Nat.reduceMul, Nat.reduceSub, Nat.reduceAdd, Nat.reduceLeDiff, *]) | (simp only [zgoO, zgoG, zO_nil, zthen_normal, zgoC]) | (with_reducible apply And.intro) | (with_reducible intro _))
    refine young_z HM2.out ?_
    have hzl := young_len HG2.out
    have hzm : ∀ k, k ∈ rising (ageB T2 0) ↔ 0 ≤ k ∧ yF T2 k.toNat := fun k => mem_young
    have hzc : ((rising (ageB T2 0)).length : Int) ≤ 1 + kind % 10 := by rw [young_cnt, ← HNK.out]; exact HG2.out.yc
    obtain ⟨zs, hzs⟩ : ∃ zs, zs = rising (ageB T2 0) := ⟨_, rfl⟩
    rw [← hzs] at hzl hzm hzc ⊢
    have HZL := Lib.hid hzl
    have HZM := Lib.hid hzm
    have HZC := Lib.hid hzc
    have hTl := HYG.out.len
    -- those that grew are not young behind the deed
    have hno2 : ∀ k ∈ G, k ∉ zs := fun k hk hz => by
      obtain ⟨h0, h1⟩ := (hzm k).1 hz
      have h2 := HNO.out k hk
      exact h2.2.2 (HYG.out.yng _ (by omega) h1)
    have HNO2 := Lib.hid hno2
    have goOn : ∀ (S : ZS) (KK : AExit → ZS → ZH → Prop), S 0 = Z64 kind → S 7 = Z64 (T2.length : Nat) → S 8 = .own H0.length g2 0 G.length false → S 11 = .fz 1 false (ys.map eI) → S 14 = .fz 1 false (zs.map eI) →
        (∀ S' H', GUI p t m nu H0.length (k + 1) (S' 7) (S' 8) H' → KK .normal S' H') →
        zW (XG tbGe true) (cFunc Try.prog) GU (fun _ => true) c_uT2 S H2 KK := fun S KK q0 q7 q8 q11 q14 hkk => by
      refine cu2_z HM2.out HQ2.out HGG.out q0 q7 q8 q11 q14 HYL.out HZC.out (by have := HGL.out; have := HK8.out; omega) (fun k hz hk => HNO2.out k hk hz) fun S' H' e7 hI => ?_
      obtain ⟨g4, G4, e8, w1, w2, w3, w4, w5⟩ := hI
      refine hkk S' H' ⟨g3, T2, R2, g4, G4, e7, e8, w2, w3, w1, HG2.out, fun k hk => ?_, by have := HGL.out; omega⟩
      rcases w4 k hk with w | ⟨w, w'⟩
      · have h2 := HNO.out k w
        have := HYG.out.len
        exact ⟨h2.1, by omega, fun h1 => h2.2.2 (HYG.out.yng _ (by omega) h1)⟩
      · obtain ⟨h0, h1⟩ := (HYM.out k).1 w
        have := yF_lt h1
        have := HYG.out.len
        exact ⟨h0, by omega, fun h2 => w' ((HZM.out k).2 ⟨h0, h2⟩)⟩
    have GO := Lib.hid goOn
    clear goOn hno2 hzs hzl hzm hzc hTl
    have n16 : ¬ ((1 : Int) = 6) := by omega
    have n61 : ¬ ((6 : Int) = 1) := by omega
    by_cases h1 : d1 = 1
    · by_cases he : e = 0
      · obtain ⟨q1, q2, q3⟩ := HYG.out.new h1 he
        subst h1
        subst he
        subst q1
        have hz : (T.length : Int) ∈ zs := (HZM.out _).2 ⟨by omega, by rw [Int.toNat_natCast]; exact q3⟩
        have w1 : IntKind.i64.wrap ((T.length : Int) + 1) = ((T2.length : Nat) : Int) := by
          have := HG2.out.rng.len
          rw [IntWalk.i64_in _ (by omega)]; omega
        have zl : zs.length ≤ 1000000 := by have := HZL.out; omega
        have G0 := Lib.hid GO.out
        clear q2 q3
        repeat' (first | (simp only [zmPack, zxPack, ne_eq, zfree, owners, Nat.reduceLT, List.contains_cons, List.contains_nil, Nat.reduceBEq, BEq.rfl, chunk, setAt, List.lookup_cons, List.lookup_nil, reduceCtorEq, Nat.reduceEqDiff, reduceIte, implies_true, forall_const, Nat.reduceMul, Nat.reduceSub, Nat.reduceAdd, Nat.reduceLeDiff, r9e, *]) | (simp only [zgoO, zgoG, zO_nil, zthen_normal, zgoC]) | (with_reducible apply And.intro) | (with_reducible intro _))
        refine ZC.up (hasint_z rows_fz zl ?_)
        rw [decide_eq_true hz]
        clear hz zl
        repeat' (first | (simp only [zmPack, zxPack, ne_eq, zfree, owners, Nat.reduceLT, List.contains_cons, List.contains_nil, Nat.reduceBEq, BEq.rfl, chunk, setAt, List.lookup_cons, List.lookup_nil, reduceCtorEq, Nat.reduceEqDiff, reduceIte, implies_true, forall_const, Nat.reduceMul, Nat.reduceSub, Nat.reduceAdd, Nat.reduceLeDiff, r9e, w1, n16, *]) | (simp only [zgoO, zgoG, zO_nil, zthen_normal, zgoC]) | (with_reducible apply And.intro) | (with_reducible intro _))
        refine G0.out _ _ (by simp [zupd, f0]) (by simp [zupd]) (by simp [zupd, f8]) (by simp [zupd]) (by simp [zupd]) fun S' H' fin => ?_
        repeat' (first | (simp only [zmPack, zxPack, ne_eq, zfree, owners, Nat.reduceLT, List.contains_cons, List.contains_nil, Nat.reduceBEq, BEq.rfl, chunk, setAt, List.lookup_cons, List.lookup_nil, reduceCtorEq, Nat.reduceEqDiff, reduceIte, implies_true, forall_const, Nat.reduceMul, Nat.reduceSub, Nat.reduceAdd, Nat.reduceLeDiff, *]) | (simp only [zgoO, zgoG, zO_nil, zthen_normal, zgoC]) | (with_reducible apply And.intro) | (with_reducible intro _))
      · have hl2 := HYG.out.old (fun q => he q.2)
        have f7b : s' 7 = Z64 (T2.length : Nat) := by rw [hl2]; exact f7
        subst h1
        repeat' (first | (simp only [zmPack, zxPack, ne_eq, zfree, owners, Nat.reduceLT, List.contains_cons, List.contains_nil, Nat.reduceBEq, BEq.rfl, chunk, setAt, List.lookup_cons, List.lookup_nil, reduceCtorEq, Nat.reduceEqDiff, reduceIte, implies_true, forall_const, Nat.reduceMul, Nat.reduceSub, Nat.reduceAdd, Nat.reduceLeDiff, r9e, he, n16, *]) | (simp only [zgoO, zgoG, zO_nil, zthen_normal, zgoC]) | (with_reducible apply And.intro) | (with_reducible intro _))
        refine GO.out _ _ (by simp [zupd, f0]) (by simp [zupd, f7b]) (by simp [zupd, f8]) (by simp [zupd]) (by simp [zupd]) fun S' H' fin => ?_
        repeat' (first | (simp only [zmPack, zxPack, ne_eq, zfree, owners, Nat.reduceLT, List.contains_cons, List.contains_nil, Nat.reduceBEq, BEq.rfl, chunk, setAt, List.lookup_cons, List.lookup_nil, reduceCtorEq, Nat.reduceEqDiff, reduceIte, implies_true, forall_const, Nat.reduceMul, Nat.reduceSub, Nat.reduceAdd, Nat.reduceLeDiff, *]) | (simp only [zgoO, zgoG, zO_nil, zthen_normal, zgoC]) | (with_reducible apply And.intro) | (with_reducible intro _))
    · have hl2 := HYG.out.old (fun q => h1 q.1)
      have f7b : s' 7 = Z64 (T2.length : Nat) := by rw [hl2]; exact f7
      by_cases h6 : d1 = 6
      · obtain ⟨q1, q2, q3⟩ := HYG.out.minor h6
        rw [← HYC.out] at q3
        subst h6
        subst q1
        have q4 : ¬ ((ys.length : Int) < r) := by omega
        clear q2 q3 hl2
        repeat' (first | (simp only [zmPack, zxPack, ne_eq, zfree, owners, Nat.reduceLT, List.contains_cons, List.contains_nil, Nat.reduceBEq, BEq.rfl, chunk, setAt, List.lookup_cons, List.lookup_nil, reduceCtorEq, Nat.reduceEqDiff, reduceIte, implies_true, forall_const, Nat.reduceMul, Nat.reduceSub, Nat.reduceAdd, Nat.reduceLeDiff, r9e, n61, q4, *]) | (simp only [zgoO, zgoG, zO_nil, zthen_normal, zgoC]) | (with_reducible apply And.intro) | (with_reducible intro _))
        refine GO.out _ _ (by simp [zupd, f0]) (by simp [zupd, f7b]) (by simp [zupd, f8]) (by simp [zupd]) (by simp [zupd]) fun S' H' fin => ?_
        repeat' (first | (simp only [zmPack, zxPack, ne_eq, zfree, owners, Nat.reduceLT, List.contains_cons, List.contains_nil, Nat.reduceBEq, BEq.rfl, chunk, setAt, List.lookup_cons, List.lookup_nil, reduceCtorEq, Nat.reduceEqDiff, reduceIte, implies_true, forall_const, Nat.reduceMul, Nat.reduceSub, Nat.reduceAdd, Nat.reduceLeDiff, *]) | (simp only [zgoO, zgoG, zO_nil, zthen_normal, zgoC]) | (with_reducible apply And.intro) | (with_reducible intro _))
      · clear hl2
        repeat' (first | (simp only [zmPack, zxPack, ne_eq, zfree, owners, Nat.reduceLT, List.contains_cons, List.contains_nil, Nat.reduceBEq, BEq.rfl, chunk, setAt, List.lookup_cons, List.lookup_nil, reduceCtorEq, Nat.reduceEqDiff, reduceIte, implies_true, forall_const, Nat.reduceMul, Nat.reduceSub, Nat.reduceAdd, Nat.reduceLeDiff, r9e, h1, h6, *]) | (simp only [zgoO, zgoG, zO_nil, zthen_normal, zgoC]) | (with_reducible apply And.intro) | (with_reducible intro _))
        refine GO.out _ _ (by simp [zupd, f0]) (by simp [zupd, f7b]) (by simp [zupd, f8]) (by simp [zupd]) (by simp [zupd]) fun S' H' fin => ?_
        repeat' (first | (simp only [zmPack, zxPack, ne_eq, zfree, owners, Nat.reduceLT, List.contains_cons, List.contains_nil, Nat.reduceBEq, BEq.rfl, chunk, setAt, List.lookup_cons, List.lookup_nil, reduceCtorEq, Nat.reduceEqDiff, reduceIte, implies_true, forall_const, Nat.reduceMul, Nat.reduceSub, Nat.reduceAdd, Nat.reduceLeDiff, *]) | (simp only [zgoO, zgoG, zO_nil, zthen_normal, zgoC]) | (with_reducible apply And.intro) | (with_reducible intro _))
  · rintro s' h' ⟨g, T, R, g2, G, f7, f8, hq, hg, hM, hG, hno, hGl⟩ ⟨f5, f42, f0, -⟩
    have hl : (hasOf T).length = T.length := hasOf_len T
    have HM := Lib.hid hM
    obtain ⟨hs, hhs⟩ : ∃ hs, hs = (hasOf T).map eL := ⟨_, rfl⟩
    have hsl : hs.length = T.length := by rw [hhs, List.length_map, hl]
    have HH := Lib.hid hhs
    clear hq hg hM hG hno hGl hl hhs
    repeat' (first | (simp only [zmPack, zxPack, ne_eq, zfree, owners, Nat.reduceLT, List.contains_cons, List.contains_nil, Nat.reduceBEq, BEq.rfl, chunk, setAt, List.lookup_cons, List.lookup_nil, reduceCtorEq, Nat.reduceEqDiff, reduceIte, implies_true, forall_const, Nat.reduceMul, Nat.reduceSub, Nat.reduceAdd, Nat.reduceLeDiff, *]) | (simp only [zgoO, zgoG, zO_nil, zthen_normal, zgoC]) | (with_reducible apply And.intro) | (with_reducible intro _))
    refine graph_z HM.out ?_
    rw [← HH.out]
    have fin := FI.out h'
    repeat' (first | (simp only [zmPack, zxPack, ne_eq, zfree, owners, Nat.reduceLT, List.contains_cons, List.contains_nil, Nat.reduceBEq, BEq.rfl, chunk, setAt, List.lookup_cons, List.lookup_nil, reduceCtorEq, Nat.reduceEqDiff, reduceIte, implies_true, forall_const, Nat.reduceMul, Nat.reduceSub, Nat.reduceAdd, Nat.reduceLeDiff, hsl, *]) | (simp only [zgoO, zgoG, zO_nil, zthen_normal, zgoC]) | (with_reducible apply And.intro) | (with_reducible intro _))
end Go.Proofs.Ytblgljahhhdlhaa

namespace Go.Proofs.Ytblgljahhhdlhaa
open Go Go.RowKit Go.ChangeShapes Go.WideShapes Go.ChangeAt
set_option linter.unusedVariables false
set_option linter.unusedSimpArgs false
set_option maxRecDepth 100000 in
theorem genscounts_lifted (os : Os) (started : os.Started) (H : Type) (enc : TypeId × Value → H) :
    ReturnsInHanded {} Try.checked os 3 .any (Rows.gensCountsSpec.pre6 enc Try.prog Try.f3 Rows.gensCountsRow.domain false) (Rows.gensCountsSpec.post enc Try.prog Try.f3 false true false false) := by
  refine law_lifted (C := Try.checked) 12 [(false, .int .i64), (false, .slice 32 (.prod (.int .i64) (.prod (.int .i64) (.prod (.int .i64) (.int .i64)))))] 4 Try.own Try.laidOut started (by kernel_rfl) Try.func3
    (ChangeSpec.witness6 (enc := enc) (C := Try.checked) false ⟨#[], #[.int .i64 0, .slice none 0 0], []⟩ 8 (by kernel_rfl) (by kernel_rfl) (by kernel_rfl) (by kernel_rfl))
    rfl (by kernel_rfl) Try.underlying4 (fun ds h => ?_) (by kernel_rfl) (by kernel_rfl) (fun W args h => ?_)
  · match ds, h with
    | [d0, d1], _ => rfl
  · refine zm_walk_nd (by kernel_rfl) (constX_ok (n := 200) (F := cFunc Try.prog) (by kernel_rfl) (fun f af h => h) tbGe (by intro p hp; rw [List.mem_singleton.1 hp]; kernel_rfl)) (fun f af h => h) rfl (fun zl hz => ?_) W args h
    obtain ⟨kind, _, rfl, _, _, l, _, rfl, hl, sl, rfl⟩ := hz
    exact genscounts_z (kind := kind) (l := l)
theorem genscounts_holds : Rows.GensCountsSaid :=
  OpenClaim.holds_of_wide 3 Try.f3 rfl rfl rfl rfl rfl rfl rfl ⟨rfl, rfl, rfl, rfl, rfl⟩ rfl rfl rfl rfl rfl (by kernel_rfl) Try.func3 (by kernel_rfl) (of_decide_eq_true (by kernel_rfl)) (by unfold Func.isWrapper; first | (rw [if_pos (by decide +kernel)]; kernel_rfl) | (rw [if_neg (by decide +kernel)]; exact ⟨rfl, rfl⟩))
    (fun os started H enc _ => genscounts_lifted os started H enc)
end Go.Proofs.Ytblgljahhhdlhaa
