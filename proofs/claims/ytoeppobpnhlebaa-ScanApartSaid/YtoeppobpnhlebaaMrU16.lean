/-
  Scan in ZM: the rest of a division, most at once.
-/
import Derived.Test.YtoeppobpnhlebaaMrU15
namespace Go.Proofs.Ytoeppobpnhlebaa
open Go Go.RowKit
set_option linter.unusedVariables false
set_option linter.unusedSimpArgs false
variable {tb : List (FuncId × Bool)} {L : Nat → Bool} {H : ZH} {K : ZV → ZH → Prop}
theorem rest_z {k m : Int} (hm : 0 < m ∧ m ≤ 1000000000) (hK : K (Z64 (k % m)) H) : ZC (constX tb) (cFunc Try.prog) 14 [Z64 k, Z64 m] L H K := by
  refine ZC.enter Gh.no (constX_none) f_sn_rest (by simp) ?_
  simp only [c_sn_rest]
  have hr : binV .rem (.int .i64 k) (.int .i64 m) = some (.int .i64 (k.tmod m)) := by simp [binV]; omega
  have fin := Fin.keep (H0 := H) hK
  have h1 : -m < k.tmod m := by
    have := Int.lt_tmod_of_pos k hm.1
    omega
  have h2 : k.tmod m < m := Int.tmod_lt_of_pos k hm.1
  have h3 : k.tmod m = k % m ∨ k.tmod m = k % m - m := by
    rw [Int.tmod_eq_emod]
    split
    · left; omega
    · right; omega
  have h4 := Int.emod_nonneg k (b := m) (by omega)
  have h5 := Int.emod_lt_of_pos k hm.1
  clear hK
  by_cases hn : k.tmod m < 0
  · have hw : IntKind.i64.wrap (k.tmod m + m) = k % m := by
      rw [IntWalk.i64_in _ (by omega)]; omega
    have F := Lib.hid fin
    clear h3 h4 h5 h1 h2 fin
    obtain ⟨t, ht⟩ : ∃ t, t = k.tmod m := ⟨_, rfl⟩
    rw [← ht] at hr hn hw
    have fin := F.out
    clear ht
    repeat' (first | (simp only [zmPack, zxPack, ne_eq, zfree, owners, Nat.reduceLT, List.contains_cons, List.contains_nil, Nat.reduceBEq, BEq.rfl, chunk, setAt, List.lookup_cons, List.lookup_nil, reduceCtorEq, Nat.reduceEqDiff, reduceIte, implies_true, forall_const, Nat.reduceMul, Nat.reduceSub, Nat.reduceAdd, Nat.reduceLeDiff, hr, hn, hw, *]) | (simp only [zgoO, zgoG, zO_nil, zthen_normal, zgoC]) | (with_reducible apply And.intro) | (with_reducible intro _))
  · have hw : k.tmod m = k % m := by omega
    have F := Lib.hid fin
    clear h3 h4 h5 h1 h2 fin
    rw [hw] at hr hn
    have fin := F.out
    clear hw
    repeat' (first | (simp only [zmPack, zxPack, ne_eq, zfree, owners, Nat.reduceLT, List.contains_cons, List.contains_nil, Nat.reduceBEq, BEq.rfl, chunk, setAt, List.lookup_cons, List.lookup_nil, reduceCtorEq, Nat.reduceEqDiff, reduceIte, implies_true, forall_const, Nat.reduceMul, Nat.reduceSub, Nat.reduceAdd, Nat.reduceLeDiff, hr, hn, *]) | (simp only [zgoO, zgoG, zO_nil, zthen_normal, zgoC]) | (with_reducible apply And.intro) | (with_reducible intro _))
def nL (M : List Sp) (x : Int) : Nat := M.countP fun b => decide (0 ≤ b.1 ∧ b.1 ≤ x ∧ x < b.2)
theorem nL_snoc {M : List Sp} {x : Int} {b : Sp} : nL (M ++ [b]) x = nL M x + if 0 ≤ b.1 ∧ b.1 ≤ x ∧ x < b.2 then 1 else 0 := by
  unfold nL
  rw [List.countP_append, List.countP_singleton]
  by_cases h : 0 ≤ b.1 ∧ b.1 ≤ x ∧ x < b.2
  · rw [if_pos h, if_pos (by simpa using h)]
  · rw [if_neg h, if_neg (by simpa using h)]
theorem nL_le {M : List Sp} {x : Int} : nL M x ≤ M.length := List.countP_le_length
def MostR (M : List Sp) (r : Int) : Prop := ∀ a, a ∈ M → 0 ≤ a.1 → a.1 < a.2 → (nL M a.1 : Int) ≤ r
def MostI (M : List Sp) (k : Nat) (most : Int) : Prop := ∀ a, a ∈ M.take k → 0 ≤ a.1 → a.1 < a.2 → (nL M a.1 : Int) ≤ most
theorem sn_ld {W Y : ZH} {A : ZB} : (W ++ (Y ++ [A]))[W.length + Y.length]? = some A := by
  rw [← List.append_assoc, show W.length + Y.length = (W ++ Y).length by simp]; exact sn_at0 _ _
theorem sn_sv {W Y : ZH} {A B : ZB} : (W ++ (Y ++ [A])).set (W.length + Y.length) B = W ++ (Y ++ [B]) := by
  rw [← List.append_assoc, ← List.append_assoc, show W.length + Y.length = (W ++ Y).length by simp]; exact sn_st0 _ _ _
set_option maxHeartbeats 8000000 in
theorem most_z {z : ZV} {M : List Sp} (hz : ∀ X, rowsZ (H ++ X) 2 z = some (M.map eS)) (hM : M.length ≤ 1000) (hK : ∀ r, MostR M r → K (Z64 r) H) :
    ZC (constX tb) (cFunc Try.prog) 19 [z] L H K := by
  refine ZC.enterL Gh.no constX_none f_sn_most (by simp) fun hL => ?_
  simp only [c_sn_most]
  have FIN := Lib.hid fun r X (hr : MostR M r) => (Fin.trunc (Mods.ext H X) rfl (by rw [List.take_left]; exact hK r hr) : Fin H (Z64 r) (H ++ X) K)
  have hlz : ∀ X, lenZ (H ++ X) z = some M.length := fun X => by have := rows_len (hz X); rwa [List.length_map] at this
  have HZ := Lib.hid hz
  have HLL := Lib.hid hL
  have hlz0 := hlz []
  rw [List.append_nil] at hlz0
  clear hK hz hL
  repeat' (first | (simp only [zmPack, zxPack, ne_eq, zfree, owners, Nat.reduceLT, List.contains_cons, List.contains_nil, Nat.reduceBEq, BEq.rfl, chunk, setAt, List.lookup_cons, List.lookup_nil, reduceCtorEq, Nat.reduceEqDiff, reduceIte, implies_true, forall_const, Nat.reduceMul, Nat.reduceSub, Nat.reduceAdd, Nat.reduceLeDiff, hlz0, *]) | (simp only [zgoO, zgoG, zO_nil, zthen_normal, zgoC]) | (with_reducible apply And.intro) | (with_reducible intro _))
  clear hlz0
  refine zW_forK [(9, z), (0, z)] M.length (fun k s h => ∃ X most, h = H ++ X ∧ s 3 = Z64 most ∧ MostI M k most) (by omega) ⟨rfl, rfl, rfl, rfl, rfl, rfl⟩ rfl rfl (by repeat' (first | exact trivial | (refine ⟨rfl, ?_⟩) | (refine ⟨by simp only [zupd_at, Nat.reduceEqDiff, reduceIte]; assumption, ?_⟩))) rfl rfl (by decide) ⟨[], 0, by simp, rfl, fun a ha => by simp at ha⟩ ?_ ?_
  · rintro k s h hk ⟨X, most, rfl, f3, hI⟩ hi hll ⟨f9, f0, -⟩
    obtain ⟨pp, hp, hld⟩ := rows_at (HZ.out X) hk
    obtain ⟨a, ha⟩ : ∃ a, a = M[k] := ⟨_, rfl⟩
    have hx : M[k]? = some a := by rw [ha]; exact List.getElem?_eq_getElem hk
    have htk : M.take (k + 1) = M.take k ++ [a] := by rw [List.take_add_one, hx]; rfl
    rw [← ha] at hld
    have hld2 : ldZ (H ++ X) (some 2) pp = some (.agg (eS a)) := by rw [hld]; rfl
    have lx : ∀ n, L (H.length + n) = true := HLL.out
    have skip : ¬ (0 ≤ a.1 ∧ a.1 < a.2) → MostI M (k + 1) most := fun hn b hb h1 h2 => by
      rw [htk] at hb
      rcases List.mem_append.1 hb with h | h
      · exact hI b h h1 h2
      · rw [List.mem_singleton.1 h] at h1 h2; exact absurd ⟨h1, h2⟩ hn
    have take : MostI M (k + 1) (if most < (nL M a.1 : Int) then (nL M a.1 : Int) else most) := fun b hb h1 h2 => by
      rw [htk] at hb
      have : (nL M b.1 : Int) ≤ most ∨ b = a := by
        rcases List.mem_append.1 hb with h | h
        · exact .inl (hI b h h1 h2)
        · exact .inr (List.mem_singleton.1 h)
      rcases this with h | rfl
      · split <;> omega
      · split <;> omega
    have HSK := Lib.hid (And.intro skip take)
    clear hI htk hx ha hld skip take
    by_cases c1 : a.1 < 0
    · have FF := Lib.hid (HSK.out.1 (by omega))
      repeat' (first | (simp only [zmPack, zxPack, ne_eq, zfree, owners, Nat.reduceLT, List.contains_cons, List.contains_nil, Nat.reduceBEq, BEq.rfl, chunk, setAt, List.lookup_cons, List.lookup_nil, reduceCtorEq, Nat.reduceEqDiff, reduceIte, implies_true, forall_const, Nat.reduceMul, Nat.reduceSub, Nat.reduceAdd, Nat.reduceLeDiff, hp, hld2, lx, sn_ld, sn_sv, c1, *]) | (simp only [zgoO, zgoG, zO_nil, zthen_normal, zgoC]) | (with_reducible apply And.intro) | (with_reducible intro _))
      all_goals first | exact ⟨_, rfl⟩ | exact FF.out | trace_state
    · by_cases c2 : a.2 ≤ a.1
      · have FF := Lib.hid (HSK.out.1 (by omega))
        repeat' (first | (simp only [zmPack, zxPack, ne_eq, zfree, owners, Nat.reduceLT, List.contains_cons, List.contains_nil, Nat.reduceBEq, BEq.rfl, chunk, setAt, List.lookup_cons, List.lookup_nil, reduceCtorEq, Nat.reduceEqDiff, reduceIte, implies_true, forall_const, Nat.reduceMul, Nat.reduceSub, Nat.reduceAdd, Nat.reduceLeDiff, hp, hld2, lx, sn_ld, sn_sv, c1, c2, *]) | (simp only [zgoO, zgoG, zO_nil, zthen_normal, zgoC]) | (with_reducible apply And.intro) | (with_reducible intro _))
        all_goals first | exact ⟨_, rfl⟩ | exact FF.out | trace_state
      · have hlz1 := hlz (X ++ [.box [Z64 a.1, Z64 a.2]])
        repeat' (first | (simp only [zmPack, zxPack, ne_eq, zfree, owners, Nat.reduceLT, List.contains_cons, List.contains_nil, Nat.reduceBEq, BEq.rfl, chunk, setAt, List.lookup_cons, List.lookup_nil, reduceCtorEq, Nat.reduceEqDiff, reduceIte, implies_true, forall_const, Nat.reduceMul, Nat.reduceSub, Nat.reduceAdd, Nat.reduceLeDiff, hp, hld2, lx, sn_ld, sn_sv, c1, c2, hlz1, *]) | (simp only [zgoO, zgoG, zO_nil, zthen_normal, zgoC]) | (with_reducible apply And.intro) | (with_reducible intro _))
        obtain ⟨W, hW⟩ : ∃ W, W = H ++ (X ++ [ZB.box [Z64 a.1, Z64 a.2]]) := ⟨_, rfl⟩
        obtain ⟨q, hq⟩ : ∃ q, q = H.length + X.length := ⟨_, rfl⟩
        have hWq : W[q]? = some (.box [Z64 a.1, Z64 a.2]) := by rw [hW, hq]; exact sn_ld
        have hz2 : ∀ Y, rowsZ (W ++ Y) 2 z = some (M.map eS) := fun Y => by rw [hW, List.append_assoc]; exact HZ.out _
        have hqb : ∀ Y, (W ++ Y)[q]? = some (.box [Z64 a.1, Z64 a.2]) := fun Y => by rw [List.getElem?_append_left (List.getElem?_eq_some_iff.1 hWq).1]; exact hWq
        have lw : ∀ n, L (W.length + n) = true := fun n => by
          have := HLL.out (X.length + 1 + n)
          rw [hW, List.length_append, List.length_append, List.length_singleton, Nat.add_assoc]
          exact this
        rw [← hW, ← hq]
        have HWW := Lib.hid hW
        have HZ2 := Lib.hid hz2
        clear hW hq hWq hz2 hlz1 hp hld2 lx hlz
        refine zW_forK [(25, z), (9, z), (0, z), (3, Z64 most), (5, .ptr q 0)] M.length (fun j s2 h2 => ∃ Y, h2 = W ++ Y ∧ s2 6 = Z64 ((nL (M.take j) a.1 : Nat) : Int)) (by omega) ⟨rfl, rfl, rfl, rfl, rfl, rfl⟩ rfl rfl (by repeat' (first | exact trivial | (refine ⟨rfl, ?_⟩) | (refine ⟨by simp only [zupd_at, Nat.reduceEqDiff, reduceIte]; assumption, ?_⟩))) rfl rfl (by decide) ⟨[], by simp, rfl⟩ ?_ ?_
        · rintro j s2 h2 hj ⟨Y, rfl, f6⟩ hi2 hl2 ⟨f25, f9, f0, f3, f5, -⟩
          obtain ⟨pp2, hp, hld⟩ := rows_at (HZ2.out Y) hj
          obtain ⟨b, hb⟩ : ∃ b, b = M[j] := ⟨_, rfl⟩
          have hx : M[j]? = some b := by rw [hb]; exact List.getElem?_eq_getElem hj
          have htk : M.take (j + 1) = M.take j ++ [b] := by rw [List.take_add_one, hx]; rfl
          rw [← hb] at hld
          have hld2 : ldZ (W ++ Y) (some 2) pp2 = some (.agg (eS b)) := by rw [hld]; rfl
          have hn := nL_snoc (M := M.take j) (x := a.1) (b := b)
          rw [← htk] at hn
          have hnl := nL_le (M := M.take j) (x := a.1)
          rw [List.length_take] at hnl
          obtain ⟨c, hc⟩ : ∃ c, c = nL (M.take j) a.1 := ⟨_, rfl⟩
          rw [← hc] at f6 hn hnl
          have w1 : IntKind.i64.wrap ((c : Int) + 1) = ((c + 1 : Nat) : Int) := by rw [IntWalk.i64_in _ (by omega)]; omega
          have HN := Lib.hid hn
          clear hn hc hx htk hld hb hnl HSK
          by_cases d1 : 0 ≤ b.1
          · by_cases d2 : b.1 ≤ a.1
            · by_cases d3 : a.1 < b.2
              · have e := HN.out
                rw [if_pos ⟨d1, d2, d3⟩] at e
                have HE := Lib.hid e
                clear e HN
                repeat' (first | (simp only [zmPack, zxPack, ne_eq, zfree, owners, Nat.reduceLT, List.contains_cons, List.contains_nil, Nat.reduceBEq, BEq.rfl, chunk, setAt, List.lookup_cons, List.lookup_nil, reduceCtorEq, Nat.reduceEqDiff, reduceIte, implies_true, forall_const, Nat.reduceMul, Nat.reduceSub, Nat.reduceAdd, Nat.reduceLeDiff, hp, hld2, lw, sn_ld, sn_sv, hqb, d1, d2, d3, w1, *]) | (simp only [zgoO, zgoG, zO_nil, zthen_normal, zgoC]) | (with_reducible apply And.intro) | (with_reducible intro _))
                all_goals first | exact ⟨_, rfl⟩ | (rw [HE.out]; done) | (rw [HE.out]; rfl) | trace_state
              · have e := HN.out
                rw [if_neg (fun q => d3 q.2.2)] at e
                have HE := Lib.hid e
                clear e HN
                repeat' (first | (simp only [zmPack, zxPack, ne_eq, zfree, owners, Nat.reduceLT, List.contains_cons, List.contains_nil, Nat.reduceBEq, BEq.rfl, chunk, setAt, List.lookup_cons, List.lookup_nil, reduceCtorEq, Nat.reduceEqDiff, reduceIte, implies_true, forall_const, Nat.reduceMul, Nat.reduceSub, Nat.reduceAdd, Nat.reduceLeDiff, hp, hld2, lw, sn_ld, sn_sv, hqb, d1, d2, d3, *]) | (simp only [zgoO, zgoG, zO_nil, zthen_normal, zgoC]) | (with_reducible apply And.intro) | (with_reducible intro _))
                all_goals first | exact ⟨_, rfl⟩ | (rw [HE.out]; done) | (rw [HE.out]; rfl) | trace_state
            · have e := HN.out
              rw [if_neg (fun q => d2 q.2.1)] at e
              have HE := Lib.hid e
              clear e HN
              repeat' (first | (simp only [zmPack, zxPack, ne_eq, zfree, owners, Nat.reduceLT, List.contains_cons, List.contains_nil, Nat.reduceBEq, BEq.rfl, chunk, setAt, List.lookup_cons, List.lookup_nil, reduceCtorEq, Nat.reduceEqDiff, reduceIte, implies_true, forall_const, Nat.reduceMul, Nat.reduceSub, Nat.reduceAdd, Nat.reduceLeDiff, hp, hld2, lw, sn_ld, sn_sv, hqb, d1, d2, *]) | (simp only [zgoO, zgoG, zO_nil, zthen_normal, zgoC]) | (with_reducible apply And.intro) | (with_reducible intro _))
              all_goals first | exact ⟨_, rfl⟩ | (rw [HE.out]; done) | (rw [HE.out]; rfl) | trace_state
          · have e := HN.out
            rw [if_neg (fun q => d1 q.1)] at e
            have HE := Lib.hid e
            clear e HN
            repeat' (first | (simp only [zmPack, zxPack, ne_eq, zfree, owners, Nat.reduceLT, List.contains_cons, List.contains_nil, Nat.reduceBEq, BEq.rfl, chunk, setAt, List.lookup_cons, List.lookup_nil, reduceCtorEq, Nat.reduceEqDiff, reduceIte, implies_true, forall_const, Nat.reduceMul, Nat.reduceSub, Nat.reduceAdd, Nat.reduceLeDiff, hp, hld2, lw, sn_ld, sn_sv, hqb, d1, *]) | (simp only [zgoO, zgoG, zO_nil, zthen_normal, zgoC]) | (with_reducible apply And.intro) | (with_reducible intro _))
            all_goals first | exact ⟨_, rfl⟩ | (rw [HE.out]; done) | (rw [HE.out]; rfl) | trace_state
        · rintro s2 h2 ⟨Y, rfl, f6⟩ ⟨f25, f9, f0, f3, f5, -⟩
          rw [List.take_length] at f6
          have FF := Lib.hid HSK.out.2
          have hWY : ∃ X2, W ++ Y = H ++ X2 := ⟨X ++ [ZB.box [Z64 a.1, Z64 a.2]] ++ Y, by rw [HWW.out]; simp⟩
          have HWY := Lib.hid hWY
          clear HSK hWY
          generalize nL M a.1 = c at f6 FF
          repeat' (first | (simp only [zmPack, zxPack, ne_eq, zfree, owners, Nat.reduceLT, List.contains_cons, List.contains_nil, Nat.reduceBEq, BEq.rfl, chunk, setAt, List.lookup_cons, List.lookup_nil, reduceCtorEq, Nat.reduceEqDiff, reduceIte, implies_true, forall_const, Nat.reduceMul, Nat.reduceSub, Nat.reduceAdd, Nat.reduceLeDiff, best_sl, *]) | (simp only [zgoO, zgoG, zO_nil, zthen_normal, zgoC]) | (with_reducible apply And.intro) | (with_reducible intro _))
          all_goals first | exact HWY.out | exact FF.out | (obtain ⟨X2, e⟩ := HWY.out; exact ⟨X2, _, e, rfl, FF.out⟩) | (obtain ⟨X2, e⟩ := HWY.out; exact ⟨X2, e, FF.out⟩) | (obtain ⟨X2, e⟩ := HWY.out; exact ⟨X2, e, _, rfl, FF.out⟩) | trace_state
  · rintro s h ⟨X, most, rfl, f3, hI⟩ ⟨f9, f0, -⟩
    have hI2 : MostR M most := fun a ha => hI a (by rw [List.take_length]; exact ha)
    have fin := FIN.out most X hI2
    clear hI hI2
    repeat' (first | (simp only [zmPack, zxPack, ne_eq, zfree, owners, Nat.reduceLT, List.contains_cons, List.contains_nil, Nat.reduceBEq, BEq.rfl, chunk, setAt, List.lookup_cons, List.lookup_nil, reduceCtorEq, Nat.reduceEqDiff, reduceIte, implies_true, forall_const, Nat.reduceMul, Nat.reduceSub, Nat.reduceAdd, Nat.reduceLeDiff, f3, *]) | (simp only [zgoO, zgoG, zO_nil, zthen_normal, zgoC]) | (with_reducible apply And.intro) | (with_reducible intro _))
end Go.Proofs.Ytoeppobpnhlebaa

namespace Go.Proofs.Ytoeppobpnhlebaa
open Go Go.RowKit
set_option linter.unusedVariables false
set_option linter.unusedSimpArgs false
variable {l at_ at1 at2 : List Sp} {regs : Nat} {s : Int} {c : Nat → Bool}
def someL (l : List Sp) (c : Nat → Bool) (j : Nat) : List Sp := ((List.range j).filter fun i => c i && decide (0 ≤ (sp l i).1 ∧ (sp l i).1 < (sp l i).2)).map (sp l)
theorem someL_succ {j : Nat} : someL l c (j + 1) = if (c j && decide (0 ≤ (sp l j).1 ∧ (sp l j).1 < (sp l j).2)) = true then someL l c j ++ [sp l j] else someL l c j := by
  unfold someL
  rw [List.range_succ, List.filter_append, List.map_append]
  split
  · rename_i h; rw [List.filter_cons_of_pos (p := fun i => c i && decide (0 ≤ (sp l i).1 ∧ (sp l i).1 < (sp l i).2)) h]; rfl
  · rename_i h; rw [List.filter_cons_of_neg (p := fun i => c i && decide (0 ≤ (sp l i).1 ∧ (sp l i).1 < (sp l i).2)) h]; simp
def chs (l : List Sp) (c : Nat → Bool) (i : Nat) : Prop := c i = true ∧ cts l i
theorem chs_iff {j : Nat} : (c j && decide (0 ≤ (sp l j).1 ∧ (sp l j).1 < (sp l j).2)) = true ↔ chs l c j := by
  unfold chs cts; simp
theorem someL_len : ∀ (j : Nat), (someL l c j).length = num j (chs l c)
  | 0 => by simp [someL, num]
  | j + 1 => by
    rw [someL_succ, num_succ]
    by_cases h : chs l c j
    · rw [if_pos (chs_iff.2 h), if_pos h, List.length_append, someL_len j]; rfl
    · rw [if_neg (fun q => h (chs_iff.1 q)), if_neg h, someL_len j]; rfl
theorem someL_nL {x : Int} : ∀ (j : Nat), nL (someL l c j) x = num j (fun i => chs l c i ∧ cov l x i)
  | 0 => by simp [someL, num, nL]
  | j + 1 => by
    rw [someL_succ, num_succ]
    by_cases h : chs l c j
    · rw [if_pos (chs_iff.2 h), nL_snoc, someL_nL j]
      congr 1
      have h0 := h.2.1
      by_cases h2 : cov l x j
      · rw [if_pos (⟨h0, h2.1, h2.2⟩ : 0 ≤ (sp l j).1 ∧ (sp l j).1 ≤ x ∧ x < (sp l j).2), if_pos ⟨h, h2⟩]
      · rw [if_neg (fun q : 0 ≤ (sp l j).1 ∧ (sp l j).1 ≤ x ∧ x < (sp l j).2 => h2 ⟨q.2.1, q.2.2⟩), if_neg (fun q => h2 q.2)]
    · rw [if_neg (fun q => h (chs_iff.1 q)), if_neg (fun q => h q.1), someL_nL j]; rfl
theorem mem_someL {j i : Nat} (hi : i < j) (h : chs l c i) : sp l i ∈ someL l c j := by
  unfold someL
  exact List.mem_map.2 ⟨i, List.mem_filter.2 ⟨List.mem_range.2 hi, chs_iff.2 h⟩, rfl⟩
theorem someL_feas {r : Int} (hm : MostR (someL l c l.length) r) (hr : r ≤ (regs : Int)) : Feas l regs (chs l c) := fun x => by
  by_cases h : ∃ i, i < l.length ∧ (chs l c i ∧ cov l x i)
  · obtain ⟨i0, h1, h2, h3⟩ := max_ex (fun i => (sp l i).1) h
    have h4 := hm _ (mem_someL h1 h2.1) h2.1.2.1 h2.1.2.2
    rw [someL_nL] at h4
    have h5 := num_le (N := l.length) (P := fun i => chs l c i ∧ cov l x i) (Q := fun i => chs l c i ∧ cov l (sp l i0).1 i) (fun i hi hp => ⟨hp.1, h3 i hi hp, by have := hp.2.2; have := h2.2.1; omega⟩)
    omega
  · rw [num_none (fun i hi hp => h ⟨i, hi, hp⟩)]; exact Nat.zero_le _
structure AsgI (l : List Sp) (regs : Nat) (at2 : List Sp) (s : Int) : Prop where
  len : at2.length = l.length
  ex : ∃ at1, rg at2 = rg at1 ∧ GI l (ordF l) regs (ordF l) (rg at1) ∧ SlI l at1 (ordF l) at2 s
theorem Asg.inv (A : Asg l regs at2 s) : AsgI l regs at2 s := by
  obtain ⟨at1, h1, h2⟩ := A
  obtain ⟨k1, k2, k3⟩ := h1.inv ordF_ok [] (by simp)
  have I := h2.inv (fun k hk => k3 k (by rw [← k1]; exact hk)) ordF_ok.nd (fun k hk => by rw [k1]; exact ((ordF_ok.mem k).1 hk).1) (fun k hk => hk)
  exact ⟨by rw [I.len, k1], at1, I.rge, k2, I⟩
theorem Asg.best (A : Asg l regs at2 s) {F : Nat → Prop} (h1 : Feas l regs F) (h2 : ∀ i, F i → i < l.length ∧ cts l i) : num l.length F ≤ num l.length (fun i => 0 ≤ rg at2 i) := by
  obtain ⟨_, at1, e, G, _⟩ := A.inv
  rw [e]
  exact G.best h1 (fun i hi => (ordF_ok.mem i).2 (h2 i hi))
theorem Asg.some (A : Asg l regs at2 s) {r : Int} (hm : MostR (someL l c l.length) r) (hr : r ≤ (regs : Int)) : (someL l c l.length).length ≤ num l.length (fun i => 0 ≤ rg at2 i) := by
  rw [someL_len]
  have hF : Feas l regs (fun i => i < l.length ∧ chs l c i) := fun x => Nat.le_trans (num_le fun i hi hp => ⟨hp.1.2, hp.2⟩) (someL_feas hm hr x)
  exact Nat.le_trans (num_le fun i hi hp => ⟨hi, hp⟩) (A.best hF (fun i hi => ⟨hi.1, hi.2.2⟩))
end Go.Proofs.Ytoeppobpnhlebaa

namespace Go.Proofs.Ytoeppobpnhlebaa
open Go Go.RowKit
set_option linter.unusedVariables false
set_option linter.unusedSimpArgs false
abbrev tbS : List (FuncId × Bool) := [(13, true)]
theorem scanned_z {L : Nat → Bool} {H : ZH} {K : ZV → ZH → Prop} (k : K (ZBo true) H) : ZC (constX tbS) (cFunc Try.prog) 13 [] L H K :=
  ZC.const (fun args fl hp ha => constX_some (l := tbS) (f := 13) (b := true) rfl args fl hp ha) k
theorem best_min {n m : Nat} : bestZ false (Z64 (n : Nat)) [Z64 (m : Nat)] = some (Z64 ((min n m : Nat) : Int)) := by
  simp only [bestZ]
  by_cases h : m < n
  · rw [show min n m = m by omega]
    have : ((m : Nat) : Int) < ((n : Nat) : Int) := by omega
    simp [this]
  · rw [show min n m = n by omega]
    have : ¬ ((m : Nat) : Int) < ((n : Nat) : Int) := by omega
    simp [this]
theorem numZ_none {S : ZS} {d : Nat} : numZ S d none = some d := rfl
theorem numZ_some {S : ZS} {d : Nat} {x : Opd} : numZ S d (some x) = (zev S x).bind natZ := by
  simp only [numZ]; cases zev S x <;> rfl
theorem dd_cut {α : Type} {e : α → List ZV} {k n : Nat} {ex : Bool} {l : List α} (h : n ≤ l.length) : ∃ ex2, ∀ H, cutZ H k 0 n l.length false (.fz k ex (l.map e)) = some (.fz k ex2 ((l.take n).map e)) := by
  by_cases hl : l = []
  · subst hl
    have : n = 0 := by simpa using h
    subst this
    exact ⟨false, fun H => by simp [cutZ]⟩
  · refine ⟨(ex || false) && n == l.length, fun H => ?_⟩
    simp only [cutZ]
    rw [if_pos ⟨trivial, Nat.zero_le _, h, by simp⟩, if_neg (by simpa using hl)]
    simp only [List.drop_zero, Nat.sub_zero, List.map_take]
variable {l : List Sp} {n : Int}
end Go.Proofs.Ytoeppobpnhlebaa
