/-
  Proved: WHERE WHAT IT READS IS OF BULK AT MOST 1048576 the law LiveLast answers true.
-/
import Derived.Deep.CondSized
import Derived.Test.YtoeppobpnhlebaaMrA1
import Derived.Test.YtoeppobpnhlebaaMrA9
namespace Go.Proofs.Ytoeppobpnhlebaa
open Go Go.RowKit
set_option linter.unusedVariables false
set_option linter.unusedSimpArgs false
variable {tb : List (FuncId × Bool)} {L : Nat → Bool} {H : ZH} {K : ZV → ZH → Prop}
set_option maxHeartbeats 8000000 in
theorem rasks2_z {x : In} (hK0 : asksI x = [] → K .nil H) (hK : K (.fz 1 true ((asksI x).map eI)) H) : ZC (constX tb) (cFunc Try.prog) 11 [.agg (eIn x)] L H K := by
  obtain ⟨op, a, b, c, n, e, kk, kn⟩ := x
  refine ZC.enterL Gh.no constX_none f_li_rasks (by simp) fun hL => ?_
  simp only [c_li_rasks]
  have l0 : L H.length = true := hL 0
  have a00 : ∀ A Y, (H ++ (A :: Y))[H.length]? = some A := fun A Y => atN0 rfl A Y
  have fin0 : ∀ l X, asksI (op, a, b, c, n, e, kk, kn) = l → Fin H (.fz 1 true (l.map eI)) (H ++ X) K := fun l X hl => Fin.trunc (Mods.ext H X) rfl (by rw [List.take_left, ← hl]; exact hK)
  have F0 := Lib.hid (show ∀ X, asksI (op, a, b, c, n, e, kk, kn) = [] → Fin H .nil (H ++ X) K from fun X h => Fin.trunc (Mods.ext H X) rfl (by rw [List.take_left]; exact hK0 h))
  have F1 := Lib.hid (show ∀ X, asksI (op, a, b, c, n, e, kk, kn) = [a] → Fin H (.fz 1 true [[Z64 a]]) (H ++ X) K from fun X h => (fin0 [a] X h))
  have F2 := Lib.hid (show ∀ X, asksI (op, a, b, c, n, e, kk, kn) = [a, b] → Fin H (.fz 1 true [[Z64 a], [Z64 b]]) (H ++ X) K from fun X h => (fin0 [a, b] X h))
  have F3 := Lib.hid (show ∀ X, asksI (op, a, b, c, n, e, kk, kn) = [a, b, c] → Fin H (.fz 1 true [[Z64 a], [Z64 b], [Z64 c]]) (H ++ X) K from fun X h => (fin0 [a, b, c] X h))
  clear fin0 hK hK0
  rcases op_cases op with rfl | rfl | rfl | rfl | rfl | rfl | rfl | rfl | rfl | rfl | rfl | rfl | rfl | rfl | rfl | rfl | rfl | rfl | rfl | h
  · have fin := fun X => F0.out X rfl
    repeat' (first | (simp only [zmPack, zxPack, ne_eq, zfree, owners, Nat.reduceLT, List.contains_cons, List.contains_nil, Nat.reduceBEq, BEq.rfl, chunk, setAt, List.lookup_cons, List.lookup_nil, reduceCtorEq, Nat.reduceEqDiff, reduceIte, implies_true, forall_const, Nat.reduceMul, Nat.reduceSub, Nat.reduceAdd, Nat.reduceLeDiff, l0, a00, Int.reduceEq, *]) | (simp only [zgoO, zgoG, zO_nil, zthen_normal, zgoC]) | (with_reducible apply And.intro) | (with_reducible intro _))
  · have fin := fun X => F0.out X rfl
    repeat' (first | (simp only [zmPack, zxPack, ne_eq, zfree, owners, Nat.reduceLT, List.contains_cons, List.contains_nil, Nat.reduceBEq, BEq.rfl, chunk, setAt, List.lookup_cons, List.lookup_nil, reduceCtorEq, Nat.reduceEqDiff, reduceIte, implies_true, forall_const, Nat.reduceMul, Nat.reduceSub, Nat.reduceAdd, Nat.reduceLeDiff, l0, a00, Int.reduceEq, *]) | (simp only [zgoO, zgoG, zO_nil, zthen_normal, zgoC]) | (with_reducible apply And.intro) | (with_reducible intro _))
  · have fin := fun X => F0.out X rfl
    repeat' (first | (simp only [zmPack, zxPack, ne_eq, zfree, owners, Nat.reduceLT, List.contains_cons, List.contains_nil, Nat.reduceBEq, BEq.rfl, chunk, setAt, List.lookup_cons, List.lookup_nil, reduceCtorEq, Nat.reduceEqDiff, reduceIte, implies_true, forall_const, Nat.reduceMul, Nat.reduceSub, Nat.reduceAdd, Nat.reduceLeDiff, l0, a00, Int.reduceEq, *]) | (simp only [zgoO, zgoG, zO_nil, zthen_normal, zgoC]) | (with_reducible apply And.intro) | (with_reducible intro _))
  · have fin := fun X => F1.out X rfl
    repeat' (first | (simp only [zmPack, zxPack, ne_eq, zfree, owners, Nat.reduceLT, List.contains_cons, List.contains_nil, Nat.reduceBEq, BEq.rfl, chunk, setAt, List.lookup_cons, List.lookup_nil, reduceCtorEq, Nat.reduceEqDiff, reduceIte, implies_true, forall_const, Nat.reduceMul, Nat.reduceSub, Nat.reduceAdd, Nat.reduceLeDiff, l0, a00, Int.reduceEq, *]) | (simp only [zgoO, zgoG, zO_nil, zthen_normal, zgoC]) | (with_reducible apply And.intro) | (with_reducible intro _))
  · have fin := fun X => F1.out X rfl
    repeat' (first | (simp only [zmPack, zxPack, ne_eq, zfree, owners, Nat.reduceLT, List.contains_cons, List.contains_nil, Nat.reduceBEq, BEq.rfl, chunk, setAt, List.lookup_cons, List.lookup_nil, reduceCtorEq, Nat.reduceEqDiff, reduceIte, implies_true, forall_const, Nat.reduceMul, Nat.reduceSub, Nat.reduceAdd, Nat.reduceLeDiff, l0, a00, Int.reduceEq, *]) | (simp only [zgoO, zgoG, zO_nil, zthen_normal, zgoC]) | (with_reducible apply And.intro) | (with_reducible intro _))
  · have fin := fun X => F1.out X rfl
    repeat' (first | (simp only [zmPack, zxPack, ne_eq, zfree, owners, Nat.reduceLT, List.contains_cons, List.contains_nil, Nat.reduceBEq, BEq.rfl, chunk, setAt, List.lookup_cons, List.lookup_nil, reduceCtorEq, Nat.reduceEqDiff, reduceIte, implies_true, forall_const, Nat.reduceMul, Nat.reduceSub, Nat.reduceAdd, Nat.reduceLeDiff, l0, a00, Int.reduceEq, *]) | (simp only [zgoO, zgoG, zO_nil, zthen_normal, zgoC]) | (with_reducible apply And.intro) | (with_reducible intro _))
  · have fin := fun X => F2.out X rfl
    repeat' (first | (simp only [zmPack, zxPack, ne_eq, zfree, owners, Nat.reduceLT, List.contains_cons, List.contains_nil, Nat.reduceBEq, BEq.rfl, chunk, setAt, List.lookup_cons, List.lookup_nil, reduceCtorEq, Nat.reduceEqDiff, reduceIte, implies_true, forall_const, Nat.reduceMul, Nat.reduceSub, Nat.reduceAdd, Nat.reduceLeDiff, l0, a00, Int.reduceEq, *]) | (simp only [zgoO, zgoG, zO_nil, zthen_normal, zgoC]) | (with_reducible apply And.intro) | (with_reducible intro _))
  · have fin := fun X => F1.out X rfl
    repeat' (first | (simp only [zmPack, zxPack, ne_eq, zfree, owners, Nat.reduceLT, List.contains_cons, List.contains_nil, Nat.reduceBEq, BEq.rfl, chunk, setAt, List.lookup_cons, List.lookup_nil, reduceCtorEq, Nat.reduceEqDiff, reduceIte, implies_true, forall_const, Nat.reduceMul, Nat.reduceSub, Nat.reduceAdd, Nat.reduceLeDiff, l0, a00, Int.reduceEq, *]) | (simp only [zgoO, zgoG, zO_nil, zthen_normal, zgoC]) | (with_reducible apply And.intro) | (with_reducible intro _))
  · have fin := fun X => F1.out X rfl
    repeat' (first | (simp only [zmPack, zxPack, ne_eq, zfree, owners, Nat.reduceLT, List.contains_cons, List.contains_nil, Nat.reduceBEq, BEq.rfl, chunk, setAt, List.lookup_cons, List.lookup_nil, reduceCtorEq, Nat.reduceEqDiff, reduceIte, implies_true, forall_const, Nat.reduceMul, Nat.reduceSub, Nat.reduceAdd, Nat.reduceLeDiff, l0, a00, Int.reduceEq, *]) | (simp only [zgoO, zgoG, zO_nil, zthen_normal, zgoC]) | (with_reducible apply And.intro) | (with_reducible intro _))
  · have fin := fun X => F1.out X rfl
    repeat' (first | (simp only [zmPack, zxPack, ne_eq, zfree, owners, Nat.reduceLT, List.contains_cons, List.contains_nil, Nat.reduceBEq, BEq.rfl, chunk, setAt, List.lookup_cons, List.lookup_nil, reduceCtorEq, Nat.reduceEqDiff, reduceIte, implies_true, forall_const, Nat.reduceMul, Nat.reduceSub, Nat.reduceAdd, Nat.reduceLeDiff, l0, a00, Int.reduceEq, *]) | (simp only [zgoO, zgoG, zO_nil, zthen_normal, zgoC]) | (with_reducible apply And.intro) | (with_reducible intro _))
  · have fin := fun X => F2.out X rfl
    repeat' (first | (simp only [zmPack, zxPack, ne_eq, zfree, owners, Nat.reduceLT, List.contains_cons, List.contains_nil, Nat.reduceBEq, BEq.rfl, chunk, setAt, List.lookup_cons, List.lookup_nil, reduceCtorEq, Nat.reduceEqDiff, reduceIte, implies_true, forall_const, Nat.reduceMul, Nat.reduceSub, Nat.reduceAdd, Nat.reduceLeDiff, l0, a00, Int.reduceEq, *]) | (simp only [zgoO, zgoG, zO_nil, zthen_normal, zgoC]) | (with_reducible apply And.intro) | (with_reducible intro _))
  · have fin := fun X => F2.out X rfl
    repeat' (first | (simp only [zmPack, zxPack, ne_eq, zfree, owners, Nat.reduceLT, List.contains_cons, List.contains_nil, Nat.reduceBEq, BEq.rfl, chunk, setAt, List.lookup_cons, List.lookup_nil, reduceCtorEq, Nat.reduceEqDiff, reduceIte, implies_true, forall_const, Nat.reduceMul, Nat.reduceSub, Nat.reduceAdd, Nat.reduceLeDiff, l0, a00, Int.reduceEq, *]) | (simp only [zgoO, zgoG, zO_nil, zthen_normal, zgoC]) | (with_reducible apply And.intro) | (with_reducible intro _))
  · have fin := fun X => F2.out X rfl
    repeat' (first | (simp only [zmPack, zxPack, ne_eq, zfree, owners, Nat.reduceLT, List.contains_cons, List.contains_nil, Nat.reduceBEq, BEq.rfl, chunk, setAt, List.lookup_cons, List.lookup_nil, reduceCtorEq, Nat.reduceEqDiff, reduceIte, implies_true, forall_const, Nat.reduceMul, Nat.reduceSub, Nat.reduceAdd, Nat.reduceLeDiff, l0, a00, Int.reduceEq, *]) | (simp only [zgoO, zgoG, zO_nil, zthen_normal, zgoC]) | (with_reducible apply And.intro) | (with_reducible intro _))
  · have fin := fun X => F3.out X rfl
    repeat' (first | (simp only [zmPack, zxPack, ne_eq, zfree, owners, Nat.reduceLT, List.contains_cons, List.contains_nil, Nat.reduceBEq, BEq.rfl, chunk, setAt, List.lookup_cons, List.lookup_nil, reduceCtorEq, Nat.reduceEqDiff, reduceIte, implies_true, forall_const, Nat.reduceMul, Nat.reduceSub, Nat.reduceAdd, Nat.reduceLeDiff, l0, a00, Int.reduceEq, *]) | (simp only [zgoO, zgoG, zO_nil, zthen_normal, zgoC]) | (with_reducible apply And.intro) | (with_reducible intro _))
  · have fin := fun X => F1.out X rfl
    repeat' (first | (simp only [zmPack, zxPack, ne_eq, zfree, owners, Nat.reduceLT, List.contains_cons, List.contains_nil, Nat.reduceBEq, BEq.rfl, chunk, setAt, List.lookup_cons, List.lookup_nil, reduceCtorEq, Nat.reduceEqDiff, reduceIte, implies_true, forall_const, Nat.reduceMul, Nat.reduceSub, Nat.reduceAdd, Nat.reduceLeDiff, l0, a00, Int.reduceEq, *]) | (simp only [zgoO, zgoG, zO_nil, zthen_normal, zgoC]) | (with_reducible apply And.intro) | (with_reducible intro _))
  · have fin := fun X => F0.out X rfl
    repeat' (first | (simp only [zmPack, zxPack, ne_eq, zfree, owners, Nat.reduceLT, List.contains_cons, List.contains_nil, Nat.reduceBEq, BEq.rfl, chunk, setAt, List.lookup_cons, List.lookup_nil, reduceCtorEq, Nat.reduceEqDiff, reduceIte, implies_true, forall_const, Nat.reduceMul, Nat.reduceSub, Nat.reduceAdd, Nat.reduceLeDiff, l0, a00, Int.reduceEq, *]) | (simp only [zgoO, zgoG, zO_nil, zthen_normal, zgoC]) | (with_reducible apply And.intro) | (with_reducible intro _))
  · have fin := fun X => F2.out X rfl
    repeat' (first | (simp only [zmPack, zxPack, ne_eq, zfree, owners, Nat.reduceLT, List.contains_cons, List.contains_nil, Nat.reduceBEq, BEq.rfl, chunk, setAt, List.lookup_cons, List.lookup_nil, reduceCtorEq, Nat.reduceEqDiff, reduceIte, implies_true, forall_const, Nat.reduceMul, Nat.reduceSub, Nat.reduceAdd, Nat.reduceLeDiff, l0, a00, Int.reduceEq, *]) | (simp only [zgoO, zgoG, zO_nil, zthen_normal, zgoC]) | (with_reducible apply And.intro) | (with_reducible intro _))
  · have fin := fun X => F0.out X rfl
    repeat' (first | (simp only [zmPack, zxPack, ne_eq, zfree, owners, Nat.reduceLT, List.contains_cons, List.contains_nil, Nat.reduceBEq, BEq.rfl, chunk, setAt, List.lookup_cons, List.lookup_nil, reduceCtorEq, Nat.reduceEqDiff, reduceIte, implies_true, forall_const, Nat.reduceMul, Nat.reduceSub, Nat.reduceAdd, Nat.reduceLeDiff, l0, a00, Int.reduceEq, *]) | (simp only [zgoO, zgoG, zO_nil, zthen_normal, zgoC]) | (with_reducible apply And.intro) | (with_reducible intro _))
  · have fin := fun X => F0.out X rfl
    repeat' (first | (simp only [zmPack, zxPack, ne_eq, zfree, owners, Nat.reduceLT, List.contains_cons, List.contains_nil, Nat.reduceBEq, BEq.rfl, chunk, setAt, List.lookup_cons, List.lookup_nil, reduceCtorEq, Nat.reduceEqDiff, reduceIte, implies_true, forall_const, Nat.reduceMul, Nat.reduceSub, Nat.reduceAdd, Nat.reduceLeDiff, l0, a00, Int.reduceEq, *]) | (simp only [zgoO, zgoG, zO_nil, zthen_normal, zgoC]) | (with_reducible apply And.intro) | (with_reducible intro _))
  · have e1 : opE op = (0, false) := by unfold opE; rw [if_neg (by rw [h]; simp)]
    have fin := fun X => F0.out X (by unfold asksI; simp only; rw [e1]; rfl)
    unfold isOp at h
    simp only [Bool.and_eq_false_iff, decide_eq_false_iff_not] at h
    have n4 : op ≠ 4 := by omega
    have n5 : op ≠ 5 := by omega
    have n6 : op ≠ 6 := by omega
    have n8 : op ≠ 8 := by omega
    have n9 : op ≠ 9 := by omega
    have n10 : op ≠ 10 := by omega
    have n15 : op ≠ 15 := by omega
    have n7 : op ≠ 7 := by omega
    have n11 : op ≠ 11 := by omega
    have n12 : op ≠ 12 := by omega
    have n13 : op ≠ 13 := by omega
    have n17 : op ≠ 17 := by omega
    have n14 : op ≠ 14 := by omega
    clear h e1
    repeat' (first | (simp only [zmPack, zxPack, ne_eq, zfree, owners, Nat.reduceLT, List.contains_cons, List.contains_nil, Nat.reduceBEq, BEq.rfl, chunk, setAt, List.lookup_cons, List.lookup_nil, reduceCtorEq, Nat.reduceEqDiff, reduceIte, implies_true, forall_const, Nat.reduceMul, Nat.reduceSub, Nat.reduceAdd, Nat.reduceLeDiff, l0, a00, n4, n5, n6, n8, n9, n10, n15, n7, n11, n12, n13, n17, n14, *]) | (simp only [zgoO, zgoG, zO_nil, zthen_normal, zgoC]) | (with_reducible apply And.intro) | (with_reducible intro _))
theorem rasks_z {x : In} (hK : K (.fz 1 false ((asksI x).map eI)) H) : ZC (constX tb) (cFunc Try.prog) 11 [.agg (eIn x)] L H K :=
  ZC.thenF (K1 := fun z H' => H' = H ∧ ((z = .nil ∧ asksI x = []) ∨ z = .fz 1 true ((asksI x).map eI))) (rasks2_z (fun h => ⟨rfl, .inl ⟨rfl, h⟩⟩) ⟨rfl, .inr rfl⟩) fun z H' h => by
    obtain ⟨rfl, ⟨rfl, h⟩ | rfl⟩ := h
    · rw [h] at hK
      exact Fin.nilFz (Fin.keep hK)
    · exact Fin.weak (Fin.keep hK)
end Go.Proofs.Ytoeppobpnhlebaa

namespace Go.Proofs.Ytoeppobpnhlebaa
open Go Go.RowKit
set_option linter.unusedVariables false
set_option linter.unusedSimpArgs false
abbrev dS : Int × Int := (-1, -1)
def putL (o : List (Int × Int)) (ps : List (Int × Int)) : List (Int × Int) := ps.foldl (fun o p => putS p.1 o p.2) o
theorem putL_len : ∀ {ps o : List (Int × Int)}, (putL o ps).length = o.length
  | [], o => rfl
  | p :: ps, o => by
    show (putL (putS p.1 o p.2) ps).length = _
    rw [putL_len, putS_len]
theorem putL_app {o ps qs : List (Int × Int)} : putL o (ps ++ qs) = putL (putL o ps) qs := List.foldl_append
theorem askS_putL {lp n p : Int} {o : List (Int × Int)} {l : List Int} : askS lp n p o l = putL o (l.map fun v => (toOf lp n p v, v)) := by
  unfold askS putL; rw [List.foldl_map]
theorem turnS_putL {lp : Int} {o : List (Int × Int)} {l : List Int} : turnS lp o l = putL o (l.map fun v => (lp, v)) := by
  unfold turnS putL; rw [List.foldl_map]
/-- Who is asked where. -/
def askedK (t : Tr) : Nat → List (Int × Int)
  | 0 => []
  | k + 1 => askedK t k ++ (match t.ins[k]? with
    | some x => (asksI x ++ exV t x.2.2.2.2.2.1).map fun v => ((k : Int), v)
    | none => [])
def asked (t : Tr) : List (Int × Int) := askedK t t.ins.length ++ (valsX t.back).map fun v => ((t.ins.length : Int), v)
def prs (t : Tr) (l : List (Int × Int)) : List (Int × Int) := l.map fun q => (toOf t.lp t.ins.length q.1 q.2, q.2)
def trns (t : Tr) : List (Int × Int) := if 0 < t.lp then (valsX t.turn).map fun v => (t.lp, v) else []
theorem outK_putL {t : Tr} : ∀ {k : Nat}, outK t k = putL (List.replicate t.ins.length dS) (prs t (askedK t k))
  | 0 => rfl
  | k + 1 => by
    unfold outK askedK
    cases t.ins[k]? with
    | none => simp only [List.append_nil]; exact outK_putL
    | some x =>
      simp only
      unfold insS
      rw [askS_putL, askS_putL, outK_putL, ← putL_app, ← putL_app]
      unfold prs
      simp only [List.map_append, List.map_map, List.append_assoc]
      rfl
theorem spans_putL {t : Tr} : spans t = putL (List.replicate t.ins.length dS) (prs t (asked t) ++ trns t) := by
  have h1 : outB t = putL (List.replicate t.ins.length dS) (prs t (asked t)) := by
    unfold outB
    rw [askS_putL, outK_putL, ← putL_app]
    unfold asked prs
    simp only [List.map_append, List.map_map]
    rfl
  unfold spans trns
  by_cases h : 0 < t.lp
  · rw [if_pos h, if_pos h, turnS_putL, h1, putL_app]
  · rw [if_neg h, if_neg h, h1, List.append_nil]
/-- One write. -/
theorem putS_at {o : List (Int × Int)} {to : Int} {v m : Nat} (hv : v < o.length) : (putS to o v).getD m dS = if m = v then ((v : Int), max (o.getD v dS).2 to) else o.getD m dS := by
  unfold putS
  rw [Int.toNat_natCast, List.getD_eq_getElem?_getD, List.getElem?_set]
  by_cases h : m = v
  · subst h; simp [hv]
  · rw [if_neg h, if_neg (Ne.symm h), ← List.getD_eq_getElem?_getD]
def Okp (n : Nat) (ps : List (Int × Int)) : Prop := ∀ p ∈ ps, 0 ≤ p.2 ∧ p.2 < (n : Int) ∧ 0 ≤ p.1 ∧ p.1 ≤ (n : Int)
theorem putL_le : ∀ {ps o : List (Int × Int)} (_ : Okp o.length ps) (m : Nat), (o.getD m dS).2 ≤ ((putL o ps).getD m dS).2
  | [], o, _, m => Int.le_refl _
  | p :: ps, o, h, m => by
    obtain ⟨a, b, c, d⟩ := h p List.mem_cons_self
    obtain ⟨v, hv⟩ : ∃ v : Nat, p.2 = (v : Int) := ⟨p.2.toNat, by omega⟩
    have h1 : ((putS p.1 o p.2).getD m dS).2 ≤ ((putL o (p :: ps)).getD m dS).2 := putL_le (ps := ps) (o := putS p.1 o p.2) (by rw [putS_len]; exact fun q hq => h q (List.mem_cons_of_mem _ hq)) m
    refine Int.le_trans ?_ h1
    rw [hv, putS_at (by omega)]
    by_cases e : m = v
    · subst e; rw [if_pos rfl]; simp only; omega
    · rw [if_neg e]; exact Int.le_refl _
theorem putL_keep1 : ∀ {ps o : List (Int × Int)} (_ : Okp o.length ps) (m : Nat), (o.getD m dS).1 = (m : Int) → ((putL o ps).getD m dS).1 = (m : Int)
  | [], o, _, m, h => h
  | p :: ps, o, h, m, he => by
    obtain ⟨a, b, c, d⟩ := h p List.mem_cons_self
    obtain ⟨v, hv⟩ : ∃ v : Nat, p.2 = (v : Int) := ⟨p.2.toNat, by omega⟩
    refine putL_keep1 (ps := ps) (o := putS p.1 o p.2) (by rw [putS_len]; exact fun q hq => h q (List.mem_cons_of_mem _ hq)) m ?_
    rw [hv, putS_at (by omega)]
    by_cases e : m = v
    · subst e; rw [if_pos rfl]
    · rw [if_neg e]; exact he
theorem putL_mem {to v : Int} : ∀ {ps o : List (Int × Int)} (_ : Okp o.length ps), (to, v) ∈ ps → ((putL o ps).getD v.toNat dS).1 = v ∧ to ≤ ((putL o ps).getD v.toNat dS).2
  | p :: ps, o, h, hm => by
    have h2 : Okp (putS p.1 o p.2).length ps := by rw [putS_len]; exact fun q hq => h q (List.mem_cons_of_mem _ hq)
    rcases List.mem_cons.1 hm with rfl | hm
    · obtain ⟨a, b, c, d⟩ := h _ List.mem_cons_self
      simp only at a b
      obtain ⟨v, rfl⟩ : ∃ w : Nat, v = (w : Int) := ⟨v.toNat, by omega⟩
      have h3 := putL_le h2 v
      have h4 := putL_keep1 h2 v
      rw [putS_at (by omega), if_pos rfl] at h3 h4
      simp only at h3 h4
      rw [Int.toNat_natCast]
      exact ⟨h4 trivial, Int.le_trans (by omega) h3⟩
    · exact putL_mem (ps := ps) h2 hm
theorem putL_inv {R : List (Int × Int)} : ∀ {ps o : List (Int × Int)} (_ : Okp o.length ps), (∀ p ∈ ps, p ∈ R) → (∀ m, o.getD m dS = dS ∨ ((o.getD m dS).1 = (m : Int) ∧ ((o.getD m dS).2, (m : Int)) ∈ R)) → ∀ m, (putL o ps).getD m dS = dS ∨ (((putL o ps).getD m dS).1 = (m : Int) ∧ (((putL o ps).getD m dS).2, (m : Int)) ∈ R)
  | [], o, _, _, h => h
  | p :: ps, o, h, hR, hi => by
    obtain ⟨a, b, c, d⟩ := h p List.mem_cons_self
    refine putL_inv (ps := ps) (o := putS p.1 o p.2) (by rw [putS_len]; exact fun q hq => h q (List.mem_cons_of_mem _ hq)) (fun q hq => hR q (List.mem_cons_of_mem _ hq)) fun m => ?_
    obtain ⟨v, hv⟩ : ∃ v : Nat, p.2 = (v : Int) := ⟨p.2.toNat, by omega⟩
    have hp : (p.1, (v : Int)) ∈ R := by rw [← hv]; exact hR p List.mem_cons_self
    rw [hv, putS_at (by omega)]
    by_cases e : m = v
    · subst e
      rw [if_pos rfl]
      refine .inr ⟨rfl, ?_⟩
      simp only
      rcases hi m with h1 | ⟨h1, h2⟩
      · rw [h1]
        rw [show max dS.2 p.1 = p.1 by simp only [dS]; omega]; exact hp
      · by_cases hle : (o.getD m dS).2 ≤ p.1
        · rw [show max (o.getD m dS).2 p.1 = p.1 by omega]; exact hp
        · rw [show max (o.getD m dS).2 p.1 = (o.getD m dS).2 by omega]; exact h2
    · rw [if_neg e]; exact hi m
/-- Later ends, later spans. -/
theorem putL_mono {f g : Int × Int → Int} : ∀ {l : List (Int × Int)} {o o' : List (Int × Int)}, o.length = o'.length → (∀ q ∈ l, 0 ≤ q.2 ∧ q.2 < (o.length : Int) ∧ f q ≤ g q) → (∀ m, (o.getD m dS).2 ≤ (o'.getD m dS).2) → ∀ m, ((putL o (l.map fun q => (f q, q.2))).getD m dS).2 ≤ ((putL o' (l.map fun q => (g q, q.2))).getD m dS).2
  | [], o, o', _, _, h => h
  | q :: l, o, o', hl, hq, h => by
    obtain ⟨a, b, c⟩ := hq q List.mem_cons_self
    refine putL_mono (l := l) (o := putS (f q) o q.2) (o' := putS (g q) o' q.2) (by rw [putS_len, putS_len]; exact hl) (by rw [putS_len]; exact fun r hr => hq r (List.mem_cons_of_mem _ hr)) fun m => ?_
    obtain ⟨v, hv⟩ : ∃ v : Nat, q.2 = (v : Int) := ⟨q.2.toNat, by omega⟩
    rw [hv, putS_at (by omega), putS_at (by omega)]
    by_cases e : m = v
    · subst e; rw [if_pos rfl, if_pos rfl]; have := h m; simp only; omega
    · rw [if_neg e, if_neg e]; exact h m
theorem askedK_mem {t : Tr} {k : Nat} {x : In} {v : Int} (hx : t.ins[k]? = some x) (hv : v ∈ asksI x ++ exV t x.2.2.2.2.2.1) : ∀ {n : Nat}, k < n → ((k : Int), v) ∈ askedK t n
  | n + 1, h => by
    unfold askedK
    rcases Nat.lt_succ_iff_lt_or_eq.1 h with h | rfl
    · exact List.mem_append_left _ (askedK_mem hx hv h)
    · rw [hx]
      exact List.mem_append_right _ (List.mem_map.2 ⟨v, hv, rfl⟩)
theorem askedK_of {t : Tr} {q : Int × Int} : ∀ {n : Nat}, q ∈ askedK t n → ∃ k x, k < n ∧ t.ins[k]? = some x ∧ q.2 ∈ asksI x ++ exV t x.2.2.2.2.2.1 ∧ q.1 = (k : Int)
  | n + 1, h => by
    unfold askedK at h
    rcases List.mem_append.1 h with h | h
    · obtain ⟨k, x, h1, h2⟩ := askedK_of h
      exact ⟨k, x, by omega, h2⟩
    · cases hx : t.ins[n]? with
      | none => rw [hx] at h; cases h
      | some x =>
        rw [hx] at h
        obtain ⟨v, hv, rfl⟩ := List.mem_map.1 h
        exact ⟨n, x, by omega, hx, hv, rfl⟩
theorem asked_in {t : Tr} {k : Nat} {x : In} {v : Int} (hx : t.ins[k]? = some x) (hv : v ∈ asksI x ++ exV t x.2.2.2.2.2.1) : ((k : Int), v) ∈ asked t :=
  List.mem_append_left _ (askedK_mem hx hv (List.getElem?_eq_some_iff.1 hx).1)
theorem GoodT.asks {t : Tr} (h : GoodT t) {k : Nat} {x : In} {v : Int} (hx : t.ins[k]? = some x) (hv : v ∈ asksI x ++ exV t x.2.2.2.2.2.1) : 0 ≤ v ∧ v < (t.ins.length : Int) ∧ v < (k : Int) := by
  have h1 := h.one k x hx
  simp only [oneB, Bool.and_eq_true, decide_eq_true_eq] at h1
  obtain ⟨_, ⟨⟨oA, oB⟩, oC⟩, oD⟩ := h1
  rcases List.mem_append.1 hv with hv | hv
  · have := allV_in oA v hv; omega
  · unfold exV at hv
    unfold exB at oD
    split at hv
    · rename_i h0
      rw [if_pos h0] at oD
      split at hv
      · rename_i X hX
        rw [hX] at oD
        have := allV_in oD v hv; omega
      · cases hv
    · cases hv
theorem GoodT.asked {t : Tr} (h : GoodT t) : ∀ q ∈ asked t, 0 ≤ q.2 ∧ q.2 < (t.ins.length : Int) ∧ 0 ≤ q.1 ∧ q.1 ≤ (t.ins.length : Int) := fun q hq => by
  rcases List.mem_append.1 hq with hq | hq
  · obtain ⟨k, x, h1, h2, h3, h4⟩ := askedK_of hq
    have := h.asks h2 h3
    omega
  · obtain ⟨v, hv, rfl⟩ := List.mem_map.1 hq
    have hbk := h.ends
    simp only [List.any_cons, Bool.or_eq_false_iff, Bool.not_eq_false'] at hbk
    have := allV_in hbk.1 v hv
    simp only
    omega
theorem toOf_rng {lp n p v : Int} (hp : 0 ≤ p) (hn : p ≤ n) : 0 ≤ toOf lp n p v ∧ p ≤ toOf lp n p v ∧ toOf lp n p v ≤ n ∧ (toOf lp n p v = n ∨ toOf lp n p v = p) := by
  unfold toOf
  split <;> omega
theorem GoodT.okp {t : Tr} (h : GoodT t) : Okp t.ins.length (prs t (Go.Proofs.Ytoeppobpnhlebaa.asked t) ++ trns t) := fun p hp => by
  rcases List.mem_append.1 hp with hp | hp
  · obtain ⟨q, hq, rfl⟩ := List.mem_map.1 hp
    obtain ⟨a, b, c, d⟩ := h.asked q hq
    have := toOf_rng (lp := t.lp) (v := q.2) c d
    simp only
    omega
  · unfold trns at hp
    split at hp
    · rename_i h0
      obtain ⟨v, hv, rfl⟩ := List.mem_map.1 hp
      have := allV_in (h.turn h0) v hv
      have h1 := h.l1
      simp only
      omega
    · cases hp
theorem spans_len {t : Tr} : (spans t).length = t.ins.length := by rw [spans_putL, putL_len, List.length_replicate]
/-- A value that is asked: it is told of as itself, and lives until then. -/
theorem GoodT.at {t : Tr} (h : GoodT t) {k : Nat} {x : In} {v : Int} (hx : t.ins[k]? = some x) (hv : v ∈ asksI x ++ exV t x.2.2.2.2.2.1) : ((spans t).getD v.toNat dS).1 = v ∧ toOf t.lp t.ins.length k v ≤ ((spans t).getD v.toNat dS).2 := by
  rw [spans_putL]
  exact putL_mem (by rw [List.length_replicate]; exact h.okp) (List.mem_append_left _ (List.mem_map.2 ⟨_, asked_in hx hv, rfl⟩))
theorem rep_getD {n m : Nat} : (List.replicate n dS).getD m dS = dS := by
  rw [List.getD_eq_getElem?_getD, List.getElem?_replicate]; split <;> rfl
theorem GoodT.inv {t : Tr} (h : GoodT t) (m : Nat) : (spans t).getD m dS = dS ∨ (((spans t).getD m dS).1 = (m : Int) ∧ (((spans t).getD m dS).2, (m : Int)) ∈ prs t (Go.Proofs.Ytoeppobpnhlebaa.asked t) ++ trns t) := by
  rw [spans_putL]
  exact putL_inv (by rw [List.length_replicate]; exact h.okp) (fun p hp => hp) (fun m => .inl rep_getD) m
theorem GoodT.upper {t : Tr} (h : GoodT t) (m : Nat) : ((spans t).getD m dS).2 ≤ (t.ins.length : Int) := by
  rcases h.inv m with e | ⟨_, e⟩
  · rw [e]; simp only; omega
  · exact (h.okp _ e).2.2.2
/-- Where a span ends. -/
theorem GoodT.last {t : Tr} (h : GoodT t) (m : Nat) (h0 : 0 ≤ ((spans t).getD m dS).1) : ((spans t).getD m dS).2 = (t.ins.length : Int) ∨ ((spans t).getD m dS).2 = t.lp ∨ ∃ (k : Nat) (x : In), t.ins[k]? = some x ∧ (m : Int) ∈ asksI x ++ exV t x.2.2.2.2.2.1 ∧ ((spans t).getD m dS).2 = (k : Int) := by
  rcases h.inv m with e | ⟨_, e⟩
  · rw [e] at h0; simp only at h0; omega
  · rcases List.mem_append.1 e with e | e
    · obtain ⟨q, hq, e⟩ := List.mem_map.1 e
      injection e with e1 e2
      have hr := h.asked q hq
      rcases (toOf_rng (lp := t.lp) (v := q.2) hr.2.2.1 hr.2.2.2).2.2.2 with e3 | e3
      · exact .inl (by rw [← e1, e3])
      · rcases List.mem_append.1 hq with hq | hq
        · obtain ⟨k, x, h1, h2, h3, h4⟩ := askedK_of hq
          exact .inr (.inr ⟨k, x, h2, by rw [← e2]; exact h3, by rw [← e1, e3, h4]⟩)
        · obtain ⟨v, hv, rfl⟩ := List.mem_map.1 hq
          exact .inl (by rw [← e1, e3])
    · unfold trns at e
      split at e
      · obtain ⟨v, hv, e⟩ := List.mem_map.1 e
        injection e with e1 e2
        exact .inr (.inl e1.symm)
      · cases e
/-- The trace without its loop. -/
abbrev nolp (t : Tr) : Tr := ⟨t.fn, t.pl, 0, t.ins, t.exs, t.turn, t.back⟩
theorem exV_unl {t : Tr} {e : Int} : exV (nolp t) e = exV t e := rfl
theorem GoodT.unl {t : Tr} (h : GoodT t) : GoodT (nolp t) := ⟨h.n, h.m, Int.le_refl _, by simp only; omega, h.one, fun h => by simp only at h; omega, h.ends, h.big⟩
theorem askedK_unl {t : Tr} : ∀ {n : Nat}, askedK (Go.Proofs.Ytoeppobpnhlebaa.nolp t) n = askedK t n
  | 0 => rfl
  | n + 1 => by unfold askedK; rw [askedK_unl]; rfl
theorem GoodT.less {t : Tr} (h : GoodT t) (m : Nat) : ((spans (Go.Proofs.Ytoeppobpnhlebaa.nolp t)).getD m dS).2 ≤ ((spans t).getD m dS).2 := by
  have hu : Go.Proofs.Ytoeppobpnhlebaa.asked (Go.Proofs.Ytoeppobpnhlebaa.nolp t) = Go.Proofs.Ytoeppobpnhlebaa.asked t := by unfold Go.Proofs.Ytoeppobpnhlebaa.asked; rw [askedK_unl]
  have ht : trns (Go.Proofs.Ytoeppobpnhlebaa.nolp t) = [] := by unfold trns; rw [if_neg (by simp)]
  rw [spans_putL, spans_putL, ht, List.append_nil, putL_app, hu]
  have h1 := putL_mono (f := fun q => toOf 0 t.ins.length q.1 q.2) (g := fun q => toOf t.lp t.ins.length q.1 q.2) (l := Go.Proofs.Ytoeppobpnhlebaa.asked t) (o := List.replicate t.ins.length dS) (o' := List.replicate t.ins.length dS) rfl (fun q hq => by
    obtain ⟨a, b, c, d⟩ := h.asked q hq
    have := (toOf_rng (lp := t.lp) (v := q.2) c d).2.1
    rw [List.length_replicate]
    refine ⟨a, b, ?_⟩
    rw [show toOf 0 t.ins.length q.1 q.2 = q.1 by unfold toOf; rw [if_neg (by omega)]]
    exact this) (fun m => Int.le_refl _) m
  refine Int.le_trans h1 (putL_le ?_ m)
  rw [putL_len, List.length_replicate]
  exact fun p hp => h.okp p (List.mem_append_right _ hp)
end Go.Proofs.Ytoeppobpnhlebaa

namespace Go.Proofs.Ytoeppobpnhlebaa
open Go Go.RowKit
set_option linter.unusedVariables false
set_option linter.unusedSimpArgs false
variable {L : Nat → Bool} {H : ZH} {K : ZV → ZH → Prop}
abbrev tbV : List (FuncId × Bool) := [(9, true)]
theorem lived_z {L : Nat → Bool} {H : ZH} {K : ZV → ZH → Prop} (k : K (ZBo true) H) : ZC (constX tbV) (cFunc Try.prog) 9 [] L H K := ZC.const (constX_some (l := tbV) (f := 9) rfl) k
theorem getD_of {o : List (Int × Int)} {m : Nat} {y : Int × Int} (h : o[m]? = some y) : o.getD m dS = y := by rw [List.getD_eq_getElem?_getD, h]; rfl
/-- A list that was told: nothing, or known exactly. -/
def AskZ (z : ZV) (l : List Int) : Prop := (z = .nil ∧ l = []) ∨ z = .fz 1 true (l.map eI)
theorem rasks3_z {tb : List (FuncId × Bool)} {x : In} (hK : ∀ z, AskZ z (asksI x) → K z H) : ZC (constX tb) (cFunc Try.prog) 11 [.agg (eIn x)] L H K :=
  rasks2_z (fun h => hK _ (.inl ⟨rfl, h⟩)) (hK _ (.inr rfl))
theorem ask_rows {z : ZV} {l : List Int} (h : AskZ z l) (W : ZH) : rowsZ W 1 z = some (l.map eI) := by
  rcases h with ⟨rfl, rfl⟩ | rfl <;> simp [rowsZ]
theorem app_asks {z : ZV} {l vs : List Int} {W : ZH} (h : AskZ z l) (hb : l.length + vs.length ≤ 1000000000) (hL : L W.length = true) : ∃ z8 Y, appZ L W 1 8 (vs.map eI) z = some (z8, W ++ Y) ∧ ∀ W', W'.length = W.length → rowsZ (W' ++ Y) 1 z8 = some ((l ++ vs).map eI) := by
  have hr : ∀ (W' : ZH) (r : List (List ZV)), W'.length = W.length → rowsZ (W' ++ [.grow 0 1 r]) 1 (.own W.length 0 0 r.length false) = some r := fun W' r e => by
    simp only [rowsZ]
    rw [List.getElem?_append_right (by omega), e, Nat.sub_self, List.getElem?_cons_zero]
    simp only
    rw [if_pos ⟨trivial, trivial, by omega⟩, List.drop_zero, List.take_length]
  rcases h with ⟨rfl, rfl⟩ | rfl
  · refine ⟨.own W.length 0 0 (vs.map eI).length false, [.grow 0 1 (vs.map eI)], ?_, fun W' e => hr W' _ e⟩
    rw [app_nil]
    exact ⟨by rw [List.length_map]; unfold reach; simp at hb; omega, rfl, rfl⟩
  · by_cases hv : vs = []
    · subst hv
      refine ⟨.fz 1 true (l.map eI), [], ?_, fun W' e => by simp [rowsZ]⟩
      simp only [appZ, List.map_nil]
      rw [if_pos ⟨trivial, by simp at hb ⊢; unfold reach; omega⟩, if_pos trivial, List.append_nil]
    · refine ⟨.own W.length 0 0 ((l ++ vs).map eI).length false, [.grow 0 1 ((l ++ vs).map eI)], ?_, fun W' e => hr W' _ e⟩
      simp only [appZ]
      rw [if_pos ⟨trivial, by simp at hb ⊢; unfold reach; omega⟩, if_neg (by simpa using hv), if_pos trivial]
      simp
/-- The heap within LiveLast. -/
def LaH (H : ZH) (t : Tr) (E : List Bool) (X : ZH) : ZH := H ++ (.box (eTr t) :: .grow 0 1 (E.map eB) :: X)
theorem LaH_app {t : Tr} {E : List Bool} {X Y : ZH} : LaH H t E X ++ Y = LaH H t E (X ++ Y) := by simp [LaH]
theorem LaH_len {t : Tr} {E : List Bool} {X : ZH} : (LaH H t E X).length = H.length + (X.length + 2) := by simp [LaH]
theorem LaH_0 {t : Tr} {E : List Bool} {X : ZH} : (LaH H t E X)[H.length]? = some (.box (eTr t)) := atN0 rfl _ _
theorem LaH_1 {t : Tr} {E : List Bool} {X : ZH} : (LaH H t E X)[H.length + 1]? = some (.grow 0 1 (E.map eB)) := atN1 rfl _ _ _
theorem LaH_el {t : Tr} {E : List Bool} {X : ZH} {m n : Nat} (hm : m < n) (hE : E.length = n) : elemZ (LaH H t E X) 1 m (.own (H.length + 1) 0 0 n true) = some (.eptr (H.length + 1) 0 m 0) := by
  rw [elem_own]; exact ⟨_, LaH_1, by simp [hE], hm, by simp⟩
theorem LaH_ld {t : Tr} {E : List Bool} {X : ZH} {m : Nat} {b : Bool} (hb : E[m]? = some b) : ldZ (LaH H t E X) none (.eptr (H.length + 1) 0 m 0) = some (ZBo b) := by
  rw [ld_eptr]; exact ⟨_, _, _, LaH_1, by rw [List.getElem?_map, hb]; rfl, rfl⟩
theorem LaH_st {t : Tr} {E : List Bool} {X : ZH} {m : Nat} {b : Bool} (hb : E[m]? = some b) (l1 : L (H.length + 1) = true) (c : Bool) : stZ L (LaH H t E X) [ZBo c] (.eptr (H.length + 1) 0 m 0) = some (LaH H t (E.set m c) X) := by
  rw [st_eptr]
  refine ⟨1, _, _, LaH_1, by rw [List.getElem?_map, hb]; rfl, l1, by simp, ?_⟩
  rw [show (LaH H t E X).set (H.length + 1) _ = _ from stN1 rfl _ _ _ _]
  unfold LaH
  rw [List.map_set]; rfl
theorem LaH_last {t : Tr} {E E' : List Bool} {X : ZH} {A : ZB} : (LaH H t E' (X ++ [A]))[(LaH H t E X).length]? = some A := by
  rw [LaH_len, ← LaH_app, List.getElem?_append_right (by rw [LaH_len]; omega), LaH_len, Nat.sub_self]; rfl
/-- What is marked. -/
def EndsAt (sp : List (Int × Int)) (l : List Int) (j : Nat) (E : List Bool) : Prop := ∀ v ∈ l, (sp.getD v.toNat dS).2 = (j : Int) → E.getD v.toNat false = true
def EndsK (t : Tr) (sp : List (Int × Int)) (k : Nat) (E : List Bool) : Prop := ∀ (j : Nat) (x : In), j < k → t.ins[j]? = some x → EndsAt sp (asksI x ++ exV t x.2.2.2.2.2.1) j E
theorem set_more {E : List Bool} {m a : Nat} {c : Bool} (h : E.getD m false = true → c = true) (hE : E.getD a false = true) : (E.set m c).getD a false = true := by
  rw [List.getD_eq_getElem?_getD, List.getElem?_set]
  by_cases e : m = a
  · subst e
    have h1 : m < E.length := by
      rcases Nat.lt_or_ge m E.length with h | h
      · exact h
      · rw [List.getD_eq_getElem?_getD, List.getElem?_eq_none h] at hE; cases hE
    rw [if_pos rfl, if_pos h1, h hE]; rfl
  · rw [if_neg e, ← List.getD_eq_getElem?_getD]; exact hE
/-- The invariant of the inner loop. -/
def LaI (H : ZH) (t : Tr) (sp : List (Int × Int)) (k : Nat) (l : List Int) (X : ZH) (h' : ZH) : Prop := ∃ E, h' = LaH H t E X ∧ E.length = t.ins.length ∧ EndsK t sp k E ∧ EndsAt sp l k E
def LaO (H : ZH) (t : Tr) (sp : List (Int × Int)) (k : Nat) (h' : ZH) : Prop := ∃ E X, h' = LaH H t E X ∧ E.length = t.ins.length ∧ EndsK t sp k E
set_option maxHeartbeats 4000000 in
theorem livelast_z {t : Tr} (hS : TrS t) (hK : K (ZBo true) H) : ZC (constX tbV) (cFunc Try.prog) 4 [.agg (eTr t)] L H K := by
  have HS := Lib.hid hS
  clear hS
  refine ZC.enterL Gh.no (constX_none (l := tbV) (f := 4)) f_li_last (by simp) fun hL => ?_
  simp only [c_li_last]
  have fin0 : ∀ X, Fin H (ZBo true) (H ++ X) K := fun X => Fin.trunc (Mods.ext H X) rfl (by rw [List.take_left]; exact hK)
  clear hK
  obtain ⟨fn, pl, lp, ins, exs, turn, back⟩ := t
  have l0 : L H.length = true := hL 0
  have l1 : L (H.length + 1) = true := hL 1
  have a00 : ∀ A Y, (H ++ (A :: Y))[H.length]? = some A := fun A Y => atN0 rfl A Y
  have F0 := Lib.hid fin0
  clear fin0
  repeat' (first | (simp only [zmPack, zxPack, ne_eq, zfree, owners, Nat.reduceLT, List.contains_cons, List.contains_nil, Nat.reduceBEq, BEq.rfl, chunk, setAt, List.lookup_cons, List.lookup_nil, reduceCtorEq, Nat.reduceEqDiff, reduceIte, implies_true, forall_const, Nat.reduceMul, Nat.reduceSub, Nat.reduceAdd, Nat.reduceLeDiff, l0, a00, *]) | (simp only [zgoO, zgoG, zO_nil, zthen_normal, zgoC]) | (with_reducible apply And.intro) | (with_reducible intro _))
  refine lived_z ?_
  repeat' (first | (simp only [zmPack, zxPack, ne_eq, zfree, owners, Nat.reduceLT, List.contains_cons, List.contains_nil, Nat.reduceBEq, BEq.rfl, chunk, setAt, List.lookup_cons, List.lookup_nil, reduceCtorEq, Nat.reduceEqDiff, reduceIte, implies_true, forall_const, Nat.reduceMul, Nat.reduceSub, Nat.reduceAdd, Nat.reduceLeDiff, l0, a00, *]) | (simp only [zgoO, zgoG, zO_nil, zthen_normal, zgoC]) | (with_reducible apply And.intro) | (with_reducible intro _))
  refine spans_z (t := ⟨fn, pl, lp, ins, exs, turn, back⟩) HS.out (fun e he _ => ?_) fun hG => ?_
  · repeat' (first | (simp only [zmPack, zxPack, ne_eq, zfree, owners, Nat.reduceLT, List.contains_cons, List.contains_nil, Nat.reduceBEq, BEq.rfl, chunk, setAt, List.lookup_cons, List.lookup_nil, reduceCtorEq, Nat.reduceEqDiff, reduceIte, implies_true, forall_const, Nat.reduceMul, Nat.reduceSub, Nat.reduceAdd, Nat.reduceLeDiff, l0, a00, he, *]) | (simp only [zgoO, zgoG, zO_nil, zthen_normal, zgoC]) | (with_reducible apply And.intro) | (with_reducible intro _))
    refine lived_z ?_
    have fin := F0.out
    have z00 : ((0 : Nat) : Int) = 0 := rfl
    repeat' (first | (simp only [zmPack, zxPack, ne_eq, zfree, owners, Nat.reduceLT, List.contains_cons, List.contains_nil, Nat.reduceBEq, BEq.rfl, chunk, setAt, List.lookup_cons, List.lookup_nil, reduceCtorEq, Nat.reduceEqDiff, reduceIte, implies_true, forall_const, Nat.reduceMul, Nat.reduceSub, Nat.reduceAdd, Nat.reduceLeDiff, z00, *]) | (simp only [zgoO, zgoG, zO_nil, zthen_normal, zgoC]) | (with_reducible apply And.intro) | (with_reducible intro _))
  · have HG := Lib.hid hG
    have hn : ins.length ≤ 300 := hG.n
    clear hG
    have hsl : (spans ⟨fn, pl, lp, ins, exs, turn, back⟩).length = ins.length := spans_len
    obtain ⟨sp, hsp⟩ : ∃ sp, sp = spans ⟨fn, pl, lp, ins, exs, turn, back⟩ := ⟨_, rfl⟩
    rw [← hsp] at hsl ⊢
    have HSP := Lib.hid hsp
    have HSL := Lib.hid hsl
    have hr : ins.length ≤ reach := by unfold reach; omega
    have hlen : ins.length < 9223372036854775807 := by omega
    clear hsp
    repeat' (first | (simp only [zmPack, zxPack, ne_eq, zfree, owners, Nat.reduceLT, List.contains_cons, List.contains_nil, Nat.reduceBEq, BEq.rfl, chunk, setAt, List.lookup_cons, List.lookup_nil, reduceCtorEq, Nat.reduceEqDiff, reduceIte, implies_true, forall_const, Nat.reduceMul, Nat.reduceSub, Nat.reduceAdd, Nat.reduceLeDiff, l0, a00, hsl, hr, *]) | (simp only [zgoO, zgoG, zO_nil, zthen_normal, zgoC]) | (with_reducible apply And.intro) | (with_reducible intro _))
    refine zW_forK [(1, .ptr H.length 0), (3, .fz 2 false (sp.map eP2)), (5, .own (H.length + 1) 0 0 ins.length true), (32, .fz 8 false (ins.map eIn))] ins.length (fun k s' h' => LaO H ⟨fn, pl, lp, ins, exs, turn, back⟩ sp k h') (by omega) ⟨rfl, rfl, rfl, rfl, rfl, rfl⟩ rfl rfl (by repeat' (first | exact trivial | (refine ⟨rfl, ?_⟩) | (refine ⟨by simp only [zupd_at, Nat.reduceEqDiff, reduceIte]; assumption, ?_⟩))) rfl rfl (by decide) ⟨List.replicate ins.length false, [], by simp [LaH], by simp, fun j x hj => by omega⟩ ?_ ?_
    · clear hsl
      rintro k s' h' hk ⟨E, X, rfl, hEl, hEk⟩ hi hl ⟨f1, f3, f5, f32, -⟩
      have hx : ins[k]? = some ins[k] := List.getElem?_eq_getElem hk
      obtain ⟨x, hxe⟩ : ∃ x, x = ins[k] := ⟨_, rfl⟩
      rw [← hxe] at hx
      clear hxe
      have HX := Lib.hid hx
      have HEL := Lib.hid hEl
      have HEK := Lib.hid hEk
      have ho := HG.out.one k x hx
      clear hEl hEk
      obtain ⟨op, a, b, c, n, e, kk, kn⟩ := x
      have p0 : ∀ E X, (LaH H ⟨fn, pl, lp, ins, exs, turn, back⟩ E X)[H.length]? = some (.box _) := fun E X => LaH_0
      have p0' : ∀ E X Y, (LaH H ⟨fn, pl, lp, ins, exs, turn, back⟩ E X ++ Y)[H.length]? = some (.box _) := fun E X Y => by rw [LaH_app]; exact LaH_0
      have l9 : L (LaH H ⟨fn, pl, lp, ins, exs, turn, back⟩ E X).length = true := by rw [LaH_len]; exact hL _
      repeat' (first | (simp only [zmPack, zxPack, ne_eq, zfree, owners, Nat.reduceLT, List.contains_cons, List.contains_nil, Nat.reduceBEq, BEq.rfl, chunk, setAt, List.lookup_cons, List.lookup_nil, reduceCtorEq, Nat.reduceEqDiff, reduceIte, implies_true, forall_const, Nat.reduceMul, Nat.reduceSub, Nat.reduceAdd, Nat.reduceLeDiff, hx, p0, p0', l9, *]) | (simp only [zgoO, zgoG, zO_nil, zthen_normal, zgoC]) | (with_reducible apply And.intro) | (with_reducible intro _))
      refine rasks3_z (x := (op, a, b, c, n, e, kk, kn)) fun z hz => ?_
      rw [LaH_app]
      have p9 : ∀ E' A, (LaH H ⟨fn, pl, lp, ins, exs, turn, back⟩ E' (X ++ [A]))[(LaH H ⟨fn, pl, lp, ins, exs, turn, back⟩ E X).length]? = some A := fun E' A => LaH_last
      have hal := asks_len (op, a, b, c, n, e, kk, kn)
      have HZ := Lib.hid hz
      simp only [oneB, Bool.and_eq_true, decide_eq_true_eq] at ho
      obtain ⟨_, ⟨⟨oA, oB⟩, oC⟩, oD⟩ := ho
      clear hz oA oD
      by_cases e3 : 0 ≤ e
      case' pos =>
        obtain ⟨m, rfl⟩ : ∃ m : Nat, e = (m : Int) := ⟨e.toNat, by omega⟩
        have hml : m < exs.length := by omega
        have hX : exs[m]? = some exs[m] := List.getElem?_eq_getElem hml
        have hXS := HS.out.x _ (List.getElem_mem hml)
        obtain ⟨q, hq⟩ : ∃ q, q = exs[m] := ⟨_, rfl⟩
        rw [← hq] at hX hXS
        clear hq
        have hlv : (valsX q).length ≤ 2000000 := hXS
        have hXS' := Lib.hid hXS
        obtain ⟨z8, Y, e1, e2⟩ := app_asks (L := L) (W := LaH H ⟨fn, pl, lp, ins, exs, turn, back⟩ E (X ++ [.box (eIn (op, a, b, c, n, (m : Int), kk, kn))])) (vs := valsX q) HZ.out (by omega) (by rw [LaH_len]; exact hL _)
        obtain ⟨X2, hX2⟩ : ∃ X2, X2 = X ++ [.box (eIn (op, a, b, c, n, (m : Int), kk, kn))] ++ Y := ⟨_, rfl⟩
        have hrw := Lib.hid (show ∀ E', rowsZ (LaH H ⟨fn, pl, lp, ins, exs, turn, back⟩ E' X2) 1 z8 = some ((asksI (op, a, b, c, n, (m : Int), kk, kn) ++ valsX q).map eI) from fun E' => by rw [hX2, ← LaH_app]; exact e2 _ (by rw [LaH_len, LaH_len]))
        have hll : (asksI (op, a, b, c, n, (m : Int), kk, kn) ++ valsX q).length < 9223372036854775807 := by rw [List.length_append]; omega
        obtain ⟨l, hll2⟩ : ∃ l, l = asksI (op, a, b, c, n, (m : Int), kk, kn) ++ valsX q := ⟨_, rfl⟩
        rw [← hll2] at hrw hll
        have hle := Lib.hid (show l = asksI (op, a, b, c, n, (m : Int), kk, kn) ++ exV ⟨fn, pl, lp, ins, exs, turn, back⟩ (m : Int) by unfold exV; simp only [if_pos e3, Int.toNat_natCast, hX]; exact hll2)
        have hln : ∀ E', lenZ (LaH H ⟨fn, pl, lp, ins, exs, turn, back⟩ E' X2) z8 = some l.length := fun E' => by have := rows_len (hrw.out E'); rwa [List.length_map] at this
        rw [LaH_app, ← hX2] at e1
        clear hXS e2 hX2 hll2 hal hlv
        repeat' (first | (simp only [zmPack, zxPack, ne_eq, zfree, owners, Nat.reduceLT, List.contains_cons, List.contains_nil, Nat.reduceBEq, BEq.rfl, chunk, setAt, List.lookup_cons, List.lookup_nil, reduceCtorEq, Nat.reduceEqDiff, reduceIte, implies_true, forall_const, Nat.reduceMul, Nat.reduceSub, Nat.reduceAdd, Nat.reduceLeDiff, p0, p9, e3, hX, *]) | (simp only [zgoO, zgoG, zO_nil, zthen_normal, zgoC]) | (with_reducible apply And.intro) | (with_reducible intro _))
        refine rvalues_z (x := q) hXS'.out ?_
        repeat' (first | (simp only [zmPack, zxPack, ne_eq, zfree, owners, Nat.reduceLT, List.contains_cons, List.contains_nil, Nat.reduceBEq, BEq.rfl, chunk, setAt, List.lookup_cons, List.lookup_nil, reduceCtorEq, Nat.reduceEqDiff, reduceIte, implies_true, forall_const, Nat.reduceMul, Nat.reduceSub, Nat.reduceAdd, Nat.reduceLeDiff, e1, hln, *]) | (simp only [zgoO, zgoG, zO_nil, zthen_normal, zgoC]) | (with_reducible apply And.intro) | (with_reducible intro _))
      case' neg =>
        obtain ⟨X2, hX2⟩ : ∃ X2, X2 = X ++ [.box (eIn (op, a, b, c, n, e, kk, kn))] := ⟨_, rfl⟩
        obtain ⟨z8, hz8⟩ : ∃ z8, z8 = z := ⟨_, rfl⟩
        have hrw := Lib.hid (show ∀ E', rowsZ (LaH H ⟨fn, pl, lp, ins, exs, turn, back⟩ E' X2) 1 z8 = some ((asksI (op, a, b, c, n, e, kk, kn)).map eI) from fun E' => by rw [hz8]; exact ask_rows HZ.out _)
        have hll : (asksI (op, a, b, c, n, e, kk, kn)).length < 9223372036854775807 := by omega
        obtain ⟨l, hll2⟩ : ∃ l, l = asksI (op, a, b, c, n, e, kk, kn) := ⟨_, rfl⟩
        rw [← hll2] at hrw hll
        have hle := Lib.hid (show l = asksI (op, a, b, c, n, e, kk, kn) ++ exV ⟨fn, pl, lp, ins, exs, turn, back⟩ e by unfold exV; rw [if_neg e3, List.append_nil]; exact hll2)
        have hln : ∀ E', lenZ (LaH H ⟨fn, pl, lp, ins, exs, turn, back⟩ E' X2) z8 = some l.length := fun E' => by have := rows_len (hrw.out E'); rwa [List.length_map] at this
        have p9' := p9 E (.box (eIn (op, a, b, c, n, e, kk, kn)))
        rw [← hX2] at p9' ⊢
        rw [← hz8]
        clear hX2 hll2 hal hz8 p9
        repeat' (first | (simp only [zmPack, zxPack, ne_eq, zfree, owners, Nat.reduceLT, List.contains_cons, List.contains_nil, Nat.reduceBEq, BEq.rfl, chunk, setAt, List.lookup_cons, List.lookup_nil, reduceCtorEq, Nat.reduceEqDiff, reduceIte, implies_true, forall_const, Nat.reduceMul, Nat.reduceSub, Nat.reduceAdd, Nat.reduceLeDiff, p0, p9', e3, hln, *]) | (simp only [zgoO, zgoG, zO_nil, zthen_normal, zgoC]) | (with_reducible apply And.intro) | (with_reducible intro _))
      all_goals
        refine zW_forK [(3, .fz 2 false (sp.map eP2)), (5, .own (H.length + 1) 0 0 ins.length true), (6, Z64 (k : Nat)), (53, z8)] l.length (fun i s' h' => LaI H ⟨fn, pl, lp, ins, exs, turn, back⟩ sp k (l.take i) X2 h') (by omega) ⟨rfl, rfl, rfl, rfl, rfl, rfl⟩ rfl rfl (by repeat' (first | exact trivial | (refine ⟨rfl, ?_⟩) | (refine ⟨by simp only [zupd_at, Nat.reduceEqDiff, reduceIte]; assumption, ?_⟩))) rfl rfl (by decide) ⟨E, rfl, HEL.out, HEK.out, fun v hv => by simp at hv⟩ ?_ ?_
        · clear p0 p0' l9 e3 hln
          rintro i s' h' hi ⟨E, rfl, hEl, hEk, hEa⟩ hii hil ⟨f3, f5, f6, f53, -⟩
          obtain ⟨q, hq, hld⟩ := rows_at (hrw.out E) hi
          have hvm := List.getElem_mem hi
          have htk := List.take_succ_eq_append_getElem hi
          obtain ⟨v, hve⟩ : ∃ v, v = l[i] := ⟨_, rfl⟩
          rw [← hve] at hld hvm htk
          clear hve
          have hb := HG.out.asks HX.out (by have h := hvm; rw [hle.out] at h; exact h)
          have hat := HG.out.at HX.out (by have h := hvm; rw [hle.out] at h; exact h)
          rw [← HSP.out] at hat
          simp only at hb hat
          obtain ⟨m, rfl⟩ : ∃ m : Nat, v = (m : Int) := ⟨v.toNat, by omega⟩
          rw [Int.toNat_natCast] at hat
          have hm : m < sp.length := by have := HSL.out; omega
          have hmn : m < ins.length := by have := HSL.out; omega
          have hy : sp[m]? = some sp[m] := List.getElem?_eq_getElem hm
          have hyg := getD_of hy
          obtain ⟨y, hye⟩ : ∃ y, y = sp[m] := ⟨_, rfl⟩
          rw [← hye] at hy hyg
          rw [hyg] at hat
          obtain ⟨y1, y2⟩ := y
          obtain ⟨hat1, hat2⟩ := hat
          simp only at hat1 hat2
          subst hat1
          have h2 : ¬ (y2 < (k : Int)) := by
            have := (toOf_rng (lp := lp) (n := (ins.length : Int)) (p := (k : Int)) (v := (m : Int)) (by omega) (by omega)).2.1
            omega
          obtain ⟨b, hEb⟩ : ∃ b, E[m]? = some b := ⟨_, List.getElem?_eq_getElem (by simp only at hEl; omega)⟩
          have he := LaH_el (H := H) (t := ⟨fn, pl, lp, ins, exs, turn, back⟩) (X := X2) hmn hEl
          have hle2 := LaH_ld (H := H) (t := ⟨fn, pl, lp, ins, exs, turn, back⟩) (X := X2) hEb
          have hst := LaH_st (H := H) (t := ⟨fn, pl, lp, ins, exs, turn, back⟩) (X := X2) hEb l1
          have hbD : E.getD m false = b := by rw [List.getD_eq_getElem?_getD, hEb]; rfl
          have hmE : m < E.length := (List.getElem?_eq_some_iff.1 hEb).1
          have fin0 : ∀ c, (b = true → c = true) → (y2 = (k : Int) → c = true) → LaI H ⟨fn, pl, lp, ins, exs, turn, back⟩ sp k (l.take (i + 1)) X2 (LaH H ⟨fn, pl, lp, ins, exs, turn, back⟩ (E.set m c) X2) := fun c c1 c2 => by
            have hmore : ∀ a, E.getD a false = true → (E.set m c).getD a false = true := fun a ha => set_more (fun h => c1 (by rw [← hbD]; exact h)) ha
            refine ⟨_, rfl, by rw [List.length_set]; exact hEl, fun j x hj hx v hv hto => hmore _ (hEk j x hj hx v hv hto), fun v hv hto => ?_⟩
            rw [htk] at hv
            rcases List.mem_append.1 hv with hv | hv
            · exact hmore _ (hEa v hv hto)
            · rw [List.mem_singleton.1 hv, Int.toNat_natCast] at hto ⊢
              rw [hyg] at hto
              rw [List.getD_eq_getElem?_getD, List.getElem?_set, if_pos rfl, if_pos hmE, c2 hto]; rfl
          have FI := Lib.hid fin0
          clear fin0 hEk hEa htk hvm hyg hb hat2 hye hbD hmE hEl hEb hmn
          cases b with
          | true =>
            have fin := FI.out true (fun _ => rfl) (fun _ => rfl)
            repeat' (first | (simp only [zmPack, zxPack, ne_eq, zfree, owners, Nat.reduceLT, List.contains_cons, List.contains_nil, Nat.reduceBEq, BEq.rfl, chunk, setAt, List.lookup_cons, List.lookup_nil, reduceCtorEq, Nat.reduceEqDiff, reduceIte, implies_true, forall_const, Nat.reduceMul, Nat.reduceSub, Nat.reduceAdd, Nat.reduceLeDiff, hq, hld, hy, hm, h2, he, hle2, hst, *]) | (simp only [zgoO, zgoG, zO_nil, zthen_normal, zgoC]) | (with_reducible apply And.intro) | (with_reducible intro _))
          | false =>
            by_cases h3 : y2 = (k : Int)
            · subst h3
              have fin := FI.out true (fun _ => rfl) (fun _ => rfl)
              repeat' (first | (simp only [zmPack, zxPack, ne_eq, zfree, owners, Nat.reduceLT, List.contains_cons, List.contains_nil, Nat.reduceBEq, BEq.rfl, chunk, setAt, List.lookup_cons, List.lookup_nil, reduceCtorEq, Nat.reduceEqDiff, reduceIte, implies_true, forall_const, Nat.reduceMul, Nat.reduceSub, Nat.reduceAdd, Nat.reduceLeDiff, hq, hld, hy, hm, h2, he, hle2, hst, *]) | (simp only [zgoO, zgoG, zO_nil, zthen_normal, zgoC]) | (with_reducible apply And.intro) | (with_reducible intro _))
            · have fin := FI.out false (fun h => h) (fun h => absurd h h3)
              repeat' (first | (simp only [zmPack, zxPack, ne_eq, zfree, owners, Nat.reduceLT, List.contains_cons, List.contains_nil, Nat.reduceBEq, BEq.rfl, chunk, setAt, List.lookup_cons, List.lookup_nil, reduceCtorEq, Nat.reduceEqDiff, reduceIte, implies_true, forall_const, Nat.reduceMul, Nat.reduceSub, Nat.reduceAdd, Nat.reduceLeDiff, hq, hld, hy, hm, h2, he, hle2, hst, h3, *]) | (simp only [zgoO, zgoG, zO_nil, zthen_normal, zgoC]) | (with_reducible apply And.intro) | (with_reducible intro _))
        · rintro s' h' ⟨E', rfl, hEl, hEk, hEa⟩ ⟨f3, f5, f6, f53, -⟩
          rw [List.take_of_length_le (Nat.le_refl _), hle.out] at hEa
          have fin : LaO H ⟨fn, pl, lp, ins, exs, turn, back⟩ sp (k + 1) (LaH H ⟨fn, pl, lp, ins, exs, turn, back⟩ E' X2) := ⟨E', X2, rfl, hEl, fun j x hj hxx => by
            rcases Nat.lt_succ_iff_lt_or_eq.1 hj with hj | hj
            · exact hEk j x hj hxx
            · subst hj
              have e := Option.some.inj (HX.out.symm.trans hxx)
              subst e
              exact hEa⟩
          exact fin
    · rintro s' h' ⟨E, X, rfl, hEl, hEk⟩ ⟨f1, f3, f5, f32, -⟩
      have HEL := Lib.hid hEl
      have HEK := Lib.hid hEk
      have hsl2 : sp.length < 9223372036854775807 := by rw [hsl]; omega
      clear hEl hEk hr
      repeat' (first | (simp only [zmPack, zxPack, ne_eq, zfree, owners, Nat.reduceLT, List.contains_cons, List.contains_nil, Nat.reduceBEq, BEq.rfl, chunk, setAt, List.lookup_cons, List.lookup_nil, reduceCtorEq, Nat.reduceEqDiff, reduceIte, implies_true, forall_const, Nat.reduceMul, Nat.reduceSub, Nat.reduceAdd, Nat.reduceLeDiff, *]) | (simp only [zgoO, zgoG, zO_nil, zthen_normal, zgoC]) | (with_reducible apply And.intro) | (with_reducible intro _))
      refine zW_forK [(1, .ptr H.length 0), (3, .fz 2 false (sp.map eP2)), (5, .own (H.length + 1) 0 0 ins.length true), (93, .fz 2 false (sp.map eP2))] ins.length (fun k s' h' => ∃ X, h' = LaH H ⟨fn, pl, lp, ins, exs, turn, back⟩ E X) (by omega) ⟨rfl, rfl, rfl, rfl, rfl, rfl⟩ rfl rfl (by repeat' (first | exact trivial | (refine ⟨rfl, ?_⟩) | (refine ⟨by simp only [zupd_at, Nat.reduceEqDiff, reduceIte]; assumption, ?_⟩))) rfl rfl (by decide) ⟨X, rfl⟩ ?_ ?_
      · rintro k s' h' hk ⟨X, rfl⟩ hki hkl ⟨f1, f3, f5, f93, -⟩
        have hkn : k < ins.length := hk
        have hks : k < sp.length := by omega
        have hy : sp[k]? = some sp[k] := List.getElem?_eq_getElem hks
        have hyg := getD_of hy
        have hlast := HG.out.last k
        rw [← HSP.out] at hlast
        obtain ⟨y, hye⟩ : ∃ y, y = sp[k] := ⟨_, rfl⟩
        rw [← hye] at hy hyg
        rw [hyg] at hlast
        clear hye
        obtain ⟨y1, y2⟩ := y
        simp only at hlast
        obtain ⟨b, hEb⟩ : ∃ b, E[k]? = some b := ⟨_, List.getElem?_eq_getElem (by have := HEL.out; simp only at this; omega)⟩
        have hbD : E.getD k false = b := by rw [List.getD_eq_getElem?_getD, hEb]; rfl
        have p0 : ∀ A, (LaH H ⟨fn, pl, lp, ins, exs, turn, back⟩ E X ++ [A])[H.length]? = some (.box (eTr ⟨fn, pl, lp, ins, exs, turn, back⟩)) := fun A => by rw [LaH_app]; exact LaH_0
        have l9 : L (LaH H ⟨fn, pl, lp, ins, exs, turn, back⟩ E X).length = true := by rw [LaH_len]; exact hL _
        have he : ∀ A, elemZ (LaH H ⟨fn, pl, lp, ins, exs, turn, back⟩ E X ++ [A]) 1 k (.own (H.length + 1) 0 0 ins.length true) = some (.eptr (H.length + 1) 0 k 0) := fun A => by rw [LaH_app]; exact LaH_el hkn HEL.out
        have hle2 : ∀ A, ldZ (LaH H ⟨fn, pl, lp, ins, exs, turn, back⟩ E X ++ [A]) none (.eptr (H.length + 1) 0 k 0) = some (ZBo b) := fun A => by rw [LaH_app]; exact LaH_ld hEb
        have hcase : y1 < 0 ∨ b = true ∨ y2 = (ins.length : Int) ∨ y2 = lp := by
          by_cases h0 : 0 ≤ y1
          · rcases hlast h0 with h | h | ⟨j, x, h1, h2, h3⟩
            · exact .inr (.inr (.inl h))
            · exact .inr (.inr (.inr h))
            · have := HEK.out j x (List.getElem?_eq_some_iff.1 h1).1 h1 _ h2 (by rw [Int.toNat_natCast, hyg]; exact h3)
              rw [Int.toNat_natCast, hbD] at this
              exact .inr (.inl this)
          · exact .inl (by omega)
        have fin : ∃ X2, LaH H ⟨fn, pl, lp, ins, exs, turn, back⟩ E X ++ [.box [Z64 y1, Z64 y2]] = LaH H ⟨fn, pl, lp, ins, exs, turn, back⟩ E X2 := ⟨_, LaH_app⟩
        have FI := Lib.hid fin
        clear hlast hbD hEb hyg fin
        by_cases h0 : 0 ≤ y1
        · cases b with
          | true =>
            clear hcase
            repeat' (first | (simp only [zmPack, zxPack, ne_eq, zfree, owners, Nat.reduceLT, List.contains_cons, List.contains_nil, Nat.reduceBEq, BEq.rfl, chunk, setAt, List.lookup_cons, List.lookup_nil, reduceCtorEq, Nat.reduceEqDiff, reduceIte, implies_true, forall_const, Nat.reduceMul, Nat.reduceSub, Nat.reduceAdd, Nat.reduceLeDiff, p0, l9, he, hle2, hy, h0, hsl, hks, *]) | (simp only [zgoO, zgoG, zO_nil, zthen_normal, zgoC]) | (with_reducible apply And.intro) | (with_reducible intro _))
            exact FI.out
          | false =>
            by_cases h3 : y2 = (ins.length : Int)
            · subst h3
              clear hcase
              repeat' (first | (simp only [zmPack, zxPack, ne_eq, zfree, owners, Nat.reduceLT, List.contains_cons, List.contains_nil, Nat.reduceBEq, BEq.rfl, chunk, setAt, List.lookup_cons, List.lookup_nil, reduceCtorEq, Nat.reduceEqDiff, reduceIte, implies_true, forall_const, Nat.reduceMul, Nat.reduceSub, Nat.reduceAdd, Nat.reduceLeDiff, p0, l9, he, hle2, hy, h0, hsl, hks, *]) | (simp only [zgoO, zgoG, zO_nil, zthen_normal, zgoC]) | (with_reducible apply And.intro) | (with_reducible intro _))
              exact FI.out
            · have h4 : y2 = lp := by rcases hcase with h | h | h | h; omega; cases h; exact absurd h h3; exact h
              subst h4
              clear hcase
              repeat' (first | (simp only [zmPack, zxPack, ne_eq, zfree, owners, Nat.reduceLT, List.contains_cons, List.contains_nil, Nat.reduceBEq, BEq.rfl, chunk, setAt, List.lookup_cons, List.lookup_nil, reduceCtorEq, Nat.reduceEqDiff, reduceIte, implies_true, forall_const, Nat.reduceMul, Nat.reduceSub, Nat.reduceAdd, Nat.reduceLeDiff, p0, l9, he, hle2, hy, h0, h3, hsl, hks, *]) | (simp only [zgoO, zgoG, zO_nil, zthen_normal, zgoC]) | (with_reducible apply And.intro) | (with_reducible intro _))
              exact FI.out
        · clear hcase
          repeat' (first | (simp only [zmPack, zxPack, ne_eq, zfree, owners, Nat.reduceLT, List.contains_cons, List.contains_nil, Nat.reduceBEq, BEq.rfl, chunk, setAt, List.lookup_cons, List.lookup_nil, reduceCtorEq, Nat.reduceEqDiff, reduceIte, implies_true, forall_const, Nat.reduceMul, Nat.reduceSub, Nat.reduceAdd, Nat.reduceLeDiff, p0, l9, he, hle2, hy, h0, hsl, hks, *]) | (simp only [zgoO, zgoG, zO_nil, zthen_normal, zgoC]) | (with_reducible apply And.intro) | (with_reducible intro _))
          exact FI.out
      · rintro s' h' ⟨X, rfl⟩ ⟨f1, f3, f5, f93, -⟩
        repeat' (first | (simp only [zmPack, zxPack, ne_eq, zfree, owners, Nat.reduceLT, List.contains_cons, List.contains_nil, Nat.reduceBEq, BEq.rfl, chunk, setAt, List.lookup_cons, List.lookup_nil, reduceCtorEq, Nat.reduceEqDiff, reduceIte, implies_true, forall_const, Nat.reduceMul, Nat.reduceSub, Nat.reduceAdd, Nat.reduceLeDiff, *]) | (simp only [zgoO, zgoG, zO_nil, zthen_normal, zgoC]) | (with_reducible apply And.intro) | (with_reducible intro _))
        refine lived_z ?_
        have fin := F0.out (.box (eTr ⟨fn, pl, lp, ins, exs, turn, back⟩) :: .grow 0 1 (E.map eB) :: X)
        have fin : Fin H (ZBo true) (LaH H ⟨fn, pl, lp, ins, exs, turn, back⟩ E X) K := fin
        repeat' (first | (simp only [zmPack, zxPack, ne_eq, zfree, owners, Nat.reduceLT, List.contains_cons, List.contains_nil, Nat.reduceBEq, BEq.rfl, chunk, setAt, List.lookup_cons, List.lookup_nil, reduceCtorEq, Nat.reduceEqDiff, reduceIte, implies_true, forall_const, Nat.reduceMul, Nat.reduceSub, Nat.reduceAdd, Nat.reduceLeDiff, *]) | (simp only [zgoO, zgoG, zO_nil, zthen_normal, zgoC]) | (with_reducible apply And.intro) | (with_reducible intro _))
end Go.Proofs.Ytoeppobpnhlebaa

namespace Go.Proofs.Ytoeppobpnhlebaa
open Go.RowKit Go.ChangeShapes Go.WideShapes Go.ChangeAt
set_option linter.unusedVariables false
set_option linter.unusedSimpArgs false

/-- How many data there are, each counted once, a list one more. -/
def cnt : (t : Ty) → t.val → Nat
  | .int _, _ => 1
  | .bool, _ => 1
  | .str, _ => 1
  | .unit, _ => 0
  | .prod a b, x => cnt a x.1 + cnt b x.2
  | .slice _ e, l => (l.map (cnt e)).sum + 1

section
variable {H : Type} {enc : TypeId × Value → H} {P : Program} {w : World} {B : Nat}

theorem bulk_pos (d : DataW H) : 1 ≤ Rows.uptoBulk d := by
  cases d with
  | lit l => cases l <;> simp [Rows.uptoBulk]
  | _ => simp [Rows.uptoBulk]
theorem bulkAll_app (a b : List (DataW H)) : Rows.uptoBulkAll (a ++ b) = Rows.uptoBulkAll a + Rows.uptoBulkAll b := by
  induction a with
  | nil => simp [Rows.uptoBulkAll]
  | cons x r ih => simp only [List.cons_append, Rows.uptoBulkAll, ih]; omega
theorem bulkAll_mem {d : DataW H} {l : List (DataW H)} (h : d ∈ l) : Rows.uptoBulk d ≤ Rows.uptoBulkAll l := by
  induction l with
  | nil => cases h
  | cons x r ih =>
    simp only [Rows.uptoBulkAll]
    rcases List.mem_cons.1 h with rfl | h
    · omega
    · have := ih h; omega

theorem cnt_fields (g : TypeId → Option Ty) (n : Nat)
    (ih : ∀ (t : TypeId) (ty : Ty), g t = some ty → ∀ (cs : List Value) (d : DataW H) (ps : List MemPlace) (x : ty.val), DataW.trod enc P w 0 (fun _ => true) true n t cs = some (d, ps) → Has w B ty cs x → cnt ty x ≤ Rows.uptoBulk d) :
    ∀ (fs : List Field) (acc : Nat) (ts : List Ty) (xs : List (DataW H × List MemPlace)) (cs : List Value) (x : (prodAll ts).val), fieldsTy P g acc fs = some ts → xs.length = fs.length →
      (∀ (i : Nat) (f : Field), fs[i]? = some f → DataW.trod enc P w 0 (fun _ => true) true n f.type ((cs.drop f.offset).take (P.cellsOf f.type)) = xs[i]?) →
      Has w B (prodAll ts) (cs.drop acc) x → cnt (prodAll ts) x ≤ Rows.uptoBulkAll (xs.map (·.1)) := by
  intro fs
  induction fs with
  | nil =>
    intro acc ts xs cs x h1 h2 _ _
    simp only [fieldsTy, Option.some.injEq] at h1
    subst h1
    simp [prodAll, cnt]
  | cons f r ihf =>
    intro acc ts xs cs x h1 h2 h4 hh
    simp only [fieldsTy] at h1
    split at h1
    · rename_i ty hty
      split at h1
      · rename_i hoc
        obtain ⟨ho, hc⟩ := hoc
        obtain ⟨ts', hts', rfl⟩ := Option.map_eq_some_iff.1 h1
        match xs, h2 with
        | y :: ys, h2 =>
        have hy := h4 0 f rfl
        simp only [List.getElem?_cons_zero] at hy
        rw [ho, hc] at hy
        have h4' : ∀ (i : Nat) (f' : Field), r[i]? = some f' → DataW.trod enc P w 0 (fun _ => true) true n f'.type ((cs.drop f'.offset).take (P.cellsOf f'.type)) = ys[i]? :=
          fun i f' hf' => by have := h4 (i + 1) f' (by simpa using hf'); simpa using this
        simp only [List.map_cons, Rows.uptoBulkAll]
        match ts', hts', x, hh with
        | [], hts', x, hh =>
          simp only [prodAll] at hh x ⊢
          have hl := hh.size
          have e : (cs.drop acc).take ty.size = cs.drop acc := by rw [← hl]; exact List.take_length
          rw [e] at hy
          have := ih f.type ty hty _ y.1 y.2 x (by rw [hy]) hh
          omega
        | b :: r', hts', x, hh =>
          simp only [prodAll] at hh x ⊢
          obtain ⟨c, d, hcd, h5, h6⟩ := hh
          have hl := h5.size
          have e1 : (cs.drop acc).take ty.size = c := by rw [hcd, ← hl, List.take_left]
          have e2 : cs.drop (acc + ty.size) = d := by rw [← List.drop_drop, hcd, ← hl, List.drop_left]
          rw [e1] at hy
          have k1 := ih f.type ty hty _ y.1 y.2 x.1 (by rw [hy]) h5
          have k2 := ihf (acc + ty.size) (b :: r') ys cs x.2 hts' (by simpa using h2) h4' (by rw [e2]; exact h6)
          simp only [cnt]
          omega
      · cases h1
    · cases h1

theorem sum_le {α : Type} (f : α → Nat) (l : List α) (D : Nat → DataW H) (h : ∀ i (hi : i < l.length), f l[i] ≤ Rows.uptoBulk (D i)) : (l.map f).sum ≤ Rows.uptoBulkAll ((List.range l.length).map D) := by
  have key : ∀ (l : List α) (a : Nat), (∀ i (hi : i < l.length), f l[i] ≤ Rows.uptoBulk (D (a + i))) → (l.map f).sum ≤ Rows.uptoBulkAll ((List.range' a l.length).map D) := by
    intro l
    induction l with
    | nil => intro a _; simp
    | cons x r ih =>
      intro a h
      have h0 := h 0 (by simp)
      have h1 := ih (a + 1) (fun i hi => by have := h (i + 1) (by simpa using hi); rw [show a + 1 + i = a + (i + 1) by omega]; simpa using this)
      simp only [List.map_cons, List.sum_cons, List.length_cons, List.range'_succ, Rows.uptoBulkAll]
      simp only [List.getElem_cons_zero, Nat.add_zero] at h0
      omega
  rw [List.range_eq_range']
  exact key l 0 (fun i hi => by simpa using h i hi)

theorem cnt_trod : ∀ (m : Nat) (t : TypeId) (ty : Ty), tyOf P m t = some ty → ∀ (n : Nat) (cs : List Value) (d : DataW H) (ps : List MemPlace) (x : ty.val),
    DataW.trod enc P w 0 (fun _ => true) true n t cs = some (d, ps) → Has w B ty cs x → cnt ty x ≤ Rows.uptoBulk d := by
  intro m
  induction m with
  | zero => intro t ty h; cases h
  | succ m ih =>
    intro t ty h n cs d ps x htr hh
    simp only [tyOf] at h
    split at h
    · injection h with h; subst h; exact bulk_pos d
    · injection h with h; subst h; exact bulk_pos d
    · injection h with h; subst h; exact bulk_pos d
    · rename_i e hk
      split at h
      · rename_i ety hety
        split at h
        · rename_i hc
          injection h with h
          subst h
          obtain ⟨A, cap0, rfl, h1, h2, h3, h4⟩ := hh
          rcases Go.Deep.open_slice hk htr with ⟨he, h0⟩ | ⟨a, len, cap, m', n', D, Pl, he, _, hl, hm, hmm, hx, hi⟩
          · simp only [Prod.mk.injEq] at h0
            have : x = [] := by
              simp only [List.cons.injEq, Value.slice.injEq] at he
              exact List.eq_nil_of_length_eq_zero he.1.2.1
            subst this
            simp only [cnt, List.map_nil, List.sum_nil]
            exact bulk_pos d
          · simp only [if_true] at hmm
            subst hmm
            simp only [Prod.mk.injEq] at hx
            obtain ⟨rfl, rfl⟩ := hx
            simp only [List.cons.injEq, Value.slice.injEq, and_true] at he
            obtain ⟨rfl, hlen, hcap⟩ := he
            subst hlen
            simp only [cnt, Rows.uptoBulk]
            have := sum_le (cnt ety) x D (fun i hil => by
              obtain ⟨b, off, hA, _, hel⟩ := h4 (fun h => by subst h; simp at hil)
              obtain ⟨ecs, e1, e2, e3⟩ := hel i hil
              obtain ⟨cs', hcs', ht'⟩ := hi i (by omega)
              obtain ⟨_, hcl, hat⟩ := World.cells?_some hcs'
              rw [hc.1] at hcl hat
              simp only [Option.some.injEq] at hA
              subst hA
              have : ecs = cs' := by
                apply List.ext_getElem?
                intro j
                by_cases hj : j < ety.size
                · rw [← e2 j hj, ← hat j hj, Go.Deep.add_add]
                  congr 1
                  unfold Addr.add
                  simp [Nat.add_assoc]
                · rw [List.getElem?_eq_none (by omega), List.getElem?_eq_none (by omega)]
              subst this
              exact ih e ety hety n' ecs (D i) (Pl i) x[i] ht' e3)
            omega
        · cases h
      · cases h
    · rename_i fs hk
      split at h
      · rename_i ts hts
        split at h
        · rename_i hc
          injection h with h
          subst h
          obtain ⟨xs, n', _, hx, hcl, hxl, hf⟩ := DataW.trod_struct hk htr
          simp only [Prod.mk.injEq] at hx
          obtain ⟨rfl, rfl⟩ := hx
          simp only [Rows.uptoBulk]
          have := cnt_fields (enc := enc) (P := P) (w := w) (B := B) (tyOf P m) n' (fun t ty h cs d ps x h1 h2 => ih t ty h n' cs d ps x h1 h2) fs.toList 0 ts xs cs x hts (by simpa using hxl)
            (fun i f hif => hf i f (by simpa using hif)) (by simpa using hh)
          omega
        · cases h
      · cases h
    · cases h

/-- The arguments' data, each of a bulk no greater than N. -/
def SizedUp (N : Nat) (t : Ty) (x : t.val) : Prop := Sized t x ∧ cnt t x ≤ N

theorem argsHoldUp_of {N : Nat} (m : Nat) : ∀ (ts : List TypeId) (tys : List (Bool × Ty)), argTys P m ts = some tys → ∀ (vs : List Value) (ds : List (DataW H)) (ps : List MemPlace) (r : Go.Reach) (b0 : Nat),
    (∀ (j : Nat) t v, ts[j]? = some t → vs[j]? = some v → Value.okWide P w r b0 t v) → DataW.TrodAll enc P w 0 (fun _ => true) true ts vs ds ps → (∀ p ∈ ps, p.block < B) →
    (∀ k ∈ DataW.weightsEach P ts ds, k ≤ reachBytes) → (∀ d ∈ ds, Rows.uptoBulk d ≤ N) → ArgsHoldQ (SizedUp N) w B tys vs := by
  intro ts
  induction ts with
  | nil =>
    intro tys h vs ds ps r b0 _ htr _ _ _
    simp only [argTys, Option.some.injEq] at h
    subst h
    exact (trodAll_nil htr).1
  | cons t ts ih =>
    intro tys h vs ds ps r b0 hok htr hps hwt hN
    simp only [argTys] at h
    split at h
    · rename_i ty l hty hl
      injection h with h; subst h
      obtain ⟨v, vs', d, ds', p, q, rfl, rfl, rfl, h0, h1⟩ := trodAll_cons htr
      simp only [DataW.weightsEach] at hwt
      obtain ⟨cs, x, e, rfl, hx, hs⟩ := has_of_arg m hty (hok 0 t v rfl rfl) h0 (fun y hy => hps y (by simp [hy])) (fun k hk => hwt k (by simp [hk]))
      refine ⟨cs, x, vs', rfl, hx, ⟨hs, ?_⟩, ih l hl vs' ds' q r b0 (fun j t v h1 h2 => hok (j + 1) t v (by simpa using h1) (by simpa using h2)) h1 (fun y hy => hps y (by simp [hy])) (fun k hk => hwt k (by simp [hk])) (fun y hy => hN y (by simp [hy]))⟩
      obtain ⟨n, hn⟩ := h0
      rw [e] at hn
      exact Nat.le_trans (cnt_trod m t ty hty n cs d p x hn hx) (hN d (by simp))
    · cases h

/-- THE FRAME: a law that answers true and turns nothing that was there, where what it reads is of small bulk. -/
theorem law_lifted_upto {C : Checked} {os : Os} {f : FuncId} {fn : Func} {s : ChangeSpec} (m : Nat) (tys : List (Bool × Ty)) (tb : TypeId)
    (own : ownKnob C.prog.godebug = none) (hlo : laidOutB C.prog = true) (started : os.Started) (noInit : C.prog.inits.idxOf? f = none) (hfn : C.prog.funcs[f]? = some fn)
    (witness : ∃ (w : World) (tape : Tape) (i : Input), w.os = os ∧ (w.forCall tape i).Shaped C.prog ∧ i.vars = [] ∧ Input.okWide C.prog (w.forCall tape i) .any w.heap.size f i ∧
      (Rows.OpenSpec.upto s).pre6 enc C.prog fn [] false (w.forCall tape i).memory i.args ∧ ({} : Assume).holds C.prog (lone (Frame.enter C.prog f i.args .normal) [] (w.forCall tape i)))
    (hvars : s.vars = []) (hres : fn.resultTypes = #[tb]) (htb : C.prog.underlying tb = some .bool)
    (hspec : ∀ ds : List (DataW H), ds.length = fn.params.size → s.fn H ds = { results := [.lit (.bool true)], args := ds })
    (hread : fn.params.all (fun t => C.prog.readableRec t && decide (t < C.prog.types.size)) = true)
    (htys : argTys C.prog m fn.params.toList = some tys)
    (walk : ∀ (W : World) (args : Array Value), ArgsHoldQ (SizedUp 1048576) W W.heap.size tys args.toList → Calls C.prog f args W fun e W' => e = .returned (.bool true) ∧ Below W.heap.size W W')
    (F : Stop.Interp) :
    ReturnsInHanded {} C os f .any ((Rows.OpenSpec.upto s).pre6 enc C.prog fn [] false) (((Rows.OpenSpec.upto s).at F).post enc C.prog fn false true false false) := by
  refine returnsInHanded_of_cond_sized (s := Rows.OpenSpec.upto s) (k := Rows.uptoSmall) rfl own started noInit hfn witness ?_
  intro W base args ds gs before hval hW _ hk hsz _
  have hW' := hW
  obtain ⟨p, q, hA, hV, rfl, _, _⟩ := hW
  have hvars' : (Rows.OpenSpec.upto s).vars = [] := hvars
  rw [hvars'] at hV
  obtain ⟨rfl, rfl⟩ := trodVars_none hV
  simp only [List.append_nil] at hsz hW' hk
  have hvt : (Rows.OpenSpec.upto s).bare.plain.varTypes C.prog = [] := by
    have e : (Rows.OpenSpec.upto s).bare.plain.vars = [] := hvars
    simp [DataSpec.varTypes, e]
  rw [hvt, List.append_nil] at hsz
  have hlt : ∀ x ∈ p, x.block < W.heap.size := fun x hx => by simpa using hW'.lt x hx
  have hlen : ds.length = fn.params.size := by
    have : ∀ (ts : List TypeId) (vs : List Value) (ds : List (DataW H)) (ps : List MemPlace), DataW.TrodAll enc C.prog W 0 (fun _ => true) true ts vs ds ps → ds.length = ts.length := by
      intro ts
      induction ts with
      | nil => intro vs ds ps h; obtain ⟨_, rfl, _⟩ := trodAll_nil h; rfl
      | cons t ts ih =>
        intro vs ds ps h
        obtain ⟨v, vs', d, ds', p, q, rfl, rfl, rfl, h0, h1⟩ := trodAll_cons h
        simp [ih _ _ _ h1]
    simpa using this _ _ _ _ hA
  have hbulk : Rows.uptoBulkAll ds ≤ 1048576 := by simpa [Rows.uptoSmall] using hk
  have hargs := argsHoldUp_of (N := 1048576) (B := W.heap.size) m fn.params.toList tys htys args.toList ds p .any base (fun j t v h1 h2 => hval j t v (by simpa using h1) (by simpa using h2)) hA hlt
    (fun k hk => by simpa using List.all_eq_true.1 hsz k hk) (fun d hd => Nat.le_trans (bulkAll_mem hd) hbulk)
  refine (walk W args hargs).mono fun e W' ⟨he, hb⟩ => ⟨_, he, ds, [], p, [], p, [], hW', ?_, ?_, ?_, hb.frame _, fun h => by cases h⟩
  · rw [List.append_nil]
    show DataW.TrodAll enc C.prog W' _ _ _ _ _ (s.fn H ds).results _
    rw [hspec ds hlen, hres]
    exact trodAll_mk1 (shut_bool htb true)
  · rw [List.append_nil]
    show DataW.TrodAll enc C.prog W' _ _ _ _ _ (s.fn H ds).args _
    rw [hspec ds hlen]
    refine trodAll_below hlo hb fn.params.toList (fun t ht => ?_) args.toList ds p hA hlt
    have := Array.all_eq_true_iff_forall_mem.1 hread t (by simpa using ht)
    simpa using this
  · rw [List.append_nil]
    show DataW.TrodVars enc C.prog W' _ (Rows.OpenSpec.upto s).vars (s.fn H ds).vars _
    rw [hspec ds hlen, hvars']
    rfl
end
end Go.Proofs.Ytoeppobpnhlebaa

namespace Go.Proofs.Ytoeppobpnhlebaa
open Go Go.RowKit Go.ChangeShapes Go.WideShapes Go.ChangeAt
set_option linter.unusedVariables false
set_option linter.unusedSimpArgs false
abbrev tyP2 : Ty := .prod (.int .i64) (.int .i64)
abbrev tyMk : Ty := .prod (.int .i64) (.prod (.int .i64) (.prod (.int .i64) (.slice 8 (.int .i64))))
abbrev tyXt : Ty := .prod (.int .i64) (.prod (.int .i64) (.prod (.slice 16 tyP2) (.slice 48 tyMk)))
abbrev tyIn : Ty := .prod (.int .i64) (.prod (.int .i64) (.prod (.int .i64) (.prod (.int .i64) (.prod (.int .i64) (.prod (.int .i64) (.prod (.int .i64) (.int .i64)))))))
abbrev tyTr : Ty := .prod (.int .i64) (.prod (.int .i64) (.prod (.int .i64) (.prod (.slice 64 tyIn) (.prod (.slice 64 tyXt) (.prod tyXt tyXt)))))
theorem sum_ge {α : Type} (f : α → Nat) (c : Nat) (h : ∀ x, c ≤ f x) (l : List α) : l.length * c ≤ (l.map f).sum := by
  induction l with
  | nil => simp
  | cons x r ih => have := h x; simp only [List.length_cons, List.map_cons, List.sum_cons, Nat.add_mul]; omega
theorem mem_sumL {α : Type} (f : α → Nat) {l : List α} {x : α} (h : x ∈ l) : f x ≤ (l.map f).sum := by
  induction l with
  | nil => cases h
  | cons y r ih =>
    simp only [List.map_cons, List.sum_cons]
    rcases List.mem_cons.1 h with rfl | h
    · omega
    · have := ih h; omega
theorem cnt_ints (l : List Int) : (l.map fun _ => 1).sum = l.length := by
  induction l with
  | nil => rfl
  | cons x r ih => simp only [List.map_cons, List.sum_cons, List.length_cons, ih]; omega
theorem cnt_mks : ∀ (l : List Mk), (l.flatMap valsM).length ≤ (l.map (cnt tyMk)).sum
  | [] => by simp
  | m :: l => by
    have h1 := cnt_mks l
    have h2 := cnt_ints m.2.2.2
    have h3 : (valsM m).length ≤ cnt tyMk m := by
      unfold valsM
      simp only [cnt, List.length_cons]
      rw [h2]
      omega
    simp only [List.flatMap_cons, List.length_append, List.map_cons, List.sum_cons]
    omega
theorem XtS_of {x : tyXt.val} {N : Nat} (hN : N ≤ 1048576) (h : cnt tyXt x ≤ N) : XtS x := by
  have h1 := sum_ge (cnt tyP2) 1 (fun x => by simp [cnt]) x.2.2.1
  have h2 := cnt_mks x.2.2.2
  unfold XtS valsX
  simp only [cnt] at h h1 h2
  rw [List.length_append, List.length_map]
  omega
theorem TrS_of {x : tyTr.val} {N : Nat} (hN : N ≤ 1048576) (h : cnt tyTr x ≤ N) : TrS ⟨x.1, x.2.1, x.2.2.1, x.2.2.2.1, x.2.2.2.2.1, x.2.2.2.2.2.1, x.2.2.2.2.2.2⟩ := by
  have h1 := sum_ge (cnt tyIn) 8 (fun x => by simp [cnt]) x.2.2.2.1
  have h2 := sum_ge (cnt tyXt) 2 (fun x => by simp only [cnt]; omega) x.2.2.2.2.1
  have e : cnt tyTr x = 1 + (1 + (1 + (((x.2.2.2.1.map (cnt tyIn)).sum + 1) + (((x.2.2.2.2.1.map (cnt tyXt)).sum + 1) + (cnt tyXt x.2.2.2.2.2.1 + cnt tyXt x.2.2.2.2.2.2))))) := rfl
  rw [e] at h
  refine ⟨by simp only; omega, by simp only; omega, fun y hy => XtS_of (N := N) hN ?_, XtS_of (N := N) hN (by simp only; omega), XtS_of (N := N) hN (by simp only; omega)⟩
  have := mem_sumL (cnt tyXt) hy
  simp only at this
  omega
end Go.Proofs.Ytoeppobpnhlebaa

namespace Go.Proofs.Ytoeppobpnhlebaa
open Go Go.RowKit Go.ChangeShapes Go.WideShapes Go.ChangeAt
set_option linter.unusedVariables false
set_option linter.unusedSimpArgs false
set_option maxRecDepth 100000 in
theorem livelast_lifted (os : Os) (started : os.Started) (H : Type) (enc : TypeId × Value → H) (F : Stop.Interp) :
    ReturnsInHanded {} Try.checked os 4 .any ((Rows.OpenSpec.upto Rows.liveLastSpec).pre6 enc Try.prog Try.f4 Rows.liveLastUptoRow.domain false) (((Rows.OpenSpec.upto Rows.liveLastSpec).at F).post enc Try.prog Try.f4 false true false false) := by
  refine law_lifted_upto (C := Try.checked) 12 [(true, tyTr)] 4 Try.own Try.laidOut started (by kernel_rfl) Try.func4
    (OpenSpec.witness (enc := enc) (C := Try.checked) (s := Rows.OpenSpec.upto Rows.liveLastSpec) (k := Rows.uptoSmall) rfl false ⟨#[], #[.agg #[.int .i64 0, .int .i64 0, .int .i64 0, .slice none 0 0, .slice none 0 0, .int .i64 0, .int .i64 0, .slice none 0 0, .slice none 0 0, .int .i64 0, .int .i64 0, .slice none 0 0, .slice none 0 0]], []⟩ 8 (by kernel_rfl) (by kernel_rfl) (by kernel_rfl)
      (x := ([.agg [.lit (.int .i64 0), .lit (.int .i64 0), .lit (.int .i64 0), .nil, .nil, .agg [.lit (.int .i64 0), .lit (.int .i64 0), .nil, .nil], .agg [.lit (.int .i64 0), .lit (.int .i64 0), .nil, .nil]]], [], [])) (by kernel_rfl) (by kernel_rfl) (by kernel_rfl))
    rfl (by kernel_rfl) Try.underlying4 (fun ds h => ?_) (by kernel_rfl) (by kernel_rfl) (fun W args h => ?_) F
  · match ds, h with
    | [d0], _ => rfl
  · refine zm_walk (by kernel_rfl) (constX_ok (n := 1000) (F := cFunc Try.prog) (by kernel_rfl) (fun f af h => h) tbV (by intro p hp; rw [List.mem_singleton.1 hp]; kernel_rfl)) (fun f af h => h) rfl (fun zl hz => ?_) W args h
    obtain ⟨x, _, rfl, hx, sx, rfl⟩ := hz
    exact livelast_z (L := fun _ => true) (H := []) (K := fun z _ => z = ZBo true) (t := ⟨x.1, x.2.1, x.2.2.1, x.2.2.2.1, x.2.2.2.2.1, x.2.2.2.2.2.1, x.2.2.2.2.2.2⟩) (TrS_of (Nat.le_refl _) sx.2) rfl
theorem livelast_holds : Rows.LiveLastUptoSaid :=
  OpenClaim.holds_of_cond 4 Try.f4 rfl rfl rfl rfl rfl rfl rfl ⟨rfl, rfl, rfl, rfl, rfl⟩ rfl rfl rfl rfl rfl (by kernel_rfl) Try.func4 (by kernel_rfl) (of_decide_eq_true (by kernel_rfl)) (by unfold Func.isWrapper; first | (rw [if_pos (by decide +kernel)]; kernel_rfl) | (rw [if_neg (by decide +kernel)]; exact ⟨rfl, rfl⟩))
    (fun os started H enc _ F => livelast_lifted os started H enc F)
end Go.Proofs.Ytoeppobpnhlebaa
