/-
  Proved: the law OwnsAway answers true, whatever the input: what a thing keeps is just what is needed with it and is not needed without it.
-/
import Derived.Test.YtfmllmcjinjfaaaMrO12
namespace Go.Proofs.Ytfmllmcjinjfaaa
open Go Go.RowKit
set_option linter.unusedVariables false
set_option linter.unusedSimpArgs false
abbrev tbO : List (FuncId × Bool) := [(9, true)]
theorem owned_z {L : Nat → Bool} {H : ZH} {K : ZV → ZH → Prop} (k : K (ZBo true) H) : ZC (constX tbO) (cFunc Try.prog) 9 [] L H K :=
  ZC.const (fun args fl hp ha => constX_some (l := tbO) (f := 9) (b := true) rfl args fl hp ha) k
variable {has : List (List Int)} {roots l : List Int}
end Go.Proofs.Ytfmllmcjinjfaaa

namespace Go.Proofs.Ytfmllmcjinjfaaa
open Go Go.RowKit
set_option linter.unusedVariables false
set_option linter.unusedSimpArgs false
variable {has : List (List Int)} {roots : List Int} {n : Int}
theorem DomsR.away {PL DM : List Int} {FR : List Fr} {X : List Nat} {r : Nat} (R : DomsR has roots PL DM FR X r) (hc : checkE has roots = 0) (h0 : 0 ≤ n) (h1 : n < (has.length : Int)) :
    (∀ x ∈ liveL has [] roots, (x ∈ liveL (woH has n) [] (strip n roots) ↔ ¬ x ∈ risP (Kp PL DM X n) has.length)) ∧ ((risP (Kp PL DM X n) has.length).length = 0 ↔ ¬ n ∈ liveL has [] roots) ∧
    (risP (Kp PL DM X n) has.length).length + (liveL (woH has n) [] (strip n roots)).length = (liveL has [] roots).length := by
  rw [rising_risP, rising_risP, show (woH has n).length = has.length from woTo_len]
  have hX : ∀ j, j ∈ X → j < has.length := fun j hj => R.fi.lt j hj
  refine ⟨fun x hx => ?_, ?_, ?_⟩
  · obtain ⟨j, rfl, h2, h3⟩ := mem_risP.1 hx
    have hj := (R.liv hc).1 h3
    constructor
    · intro h4 h5
      obtain ⟨j1, e1, _, h6⟩ := mem_risP.1 h4
      obtain ⟨j2, e2, _, h7⟩ := mem_risP.1 h5
      have e1 : j = j1 := by omega
      have e2 : j = j2 := by omega
      subst e1; subst e2
      exact ((R.wo hc).1 h6).2 h7
    · intro h4
      exact mem_risP.2 ⟨j, rfl, h2, (R.wo hc).2 ⟨hj, fun h5 => h4 (mem_risP.2 ⟨j, rfl, h2, h5⟩)⟩⟩
  · obtain ⟨t, rfl⟩ := Int.eq_ofNat_of_zero_le h0
    constructor
    · intro h2 h3
      obtain ⟨j, e, h4, h5⟩ := mem_risP.1 h3
      have e : t = j := by omega
      subst e
      have := List.length_eq_zero_iff.1 h2
      have h6 : (t : Int) ∈ risP (Kp PL DM X (t : Int)) has.length := mem_risP.2 ⟨t, rfl, h4, R.self ((R.liv hc).1 h5)⟩
      rw [this] at h6
      cases h6
    · intro h2
      refine List.length_eq_zero_iff.2 (List.eq_nil_iff_forall_not_mem.2 fun x hx => ?_)
      obtain ⟨j, rfl, h4, v, d, k1, k2, k3⟩ := mem_risP.1 hx
      have ht := mem_ordR.1 (List.mem_of_getElem? k2)
      exact h2 (mem_risP.2 ⟨t, rfl, hX t ht, (R.liv hc).2 ht⟩)
  · refine risP_sum _ fun j hj => ?_
    rw [R.wo hc, R.liv hc]
    refine ⟨⟨fun h => ?_, fun h => ?_⟩, fun h => h.2.2 h.1⟩
    · by_cases hk : Kp PL DM X n j
      · exact .inl hk
      · exact .inr ⟨h, hk⟩
    · rcases h with h | h
      · exact R.kpX h
      · exact h.1
set_option maxHeartbeats 8000000 in
theorem ownsaway_z : ZC (constX tbO) (cFunc Try.prog) 5 [.agg [.fz 1 false (has.map eL), .fz 1 false (roots.map eI)], Z64 n] (fun _ => true) [] fun z _ => z = ZBo true := by
  refine ZC.enter Gh.no (fun args fl hp ha => constX_none (l := tbO) (f := 5) (by decide) args fl hp ha) f_ow_away (by simp) ?_
  simp only [c_ow_away]
  have fin : ∀ X, Fin [] (ZBo true) X (fun z _ => z = ZBo true) := fun X => Fin.trunc (Mods.ext [] X) rfl rfl
  have FI := Lib.hid fin
  clear fin
  repeat' (first | (simp only [zmPack, zxPack, ne_eq, zfree, owners, Nat.reduceLT, List.contains_cons, List.contains_nil, Nat.reduceBEq, BEq.rfl, chunk, setAt, List.lookup_cons, List.lookup_nil, reduceCtorEq, Nat.reduceEqDiff, reduceIte, implies_true, forall_const, Nat.reduceMul, Nat.reduceSub, Nat.reduceAdd, Nat.reduceLeDiff, *]) | (simp only [zgoO, zgoG, zO_nil, zthen_normal, zgoC]) | (with_reducible apply And.intro) | (with_reducible intro _))
  refine owned_z ?_
  repeat' (first | (simp only [zmPack, zxPack, ne_eq, zfree, owners, Nat.reduceLT, List.contains_cons, List.contains_nil, Nat.reduceBEq, BEq.rfl, chunk, setAt, List.lookup_cons, List.lookup_nil, reduceCtorEq, Nat.reduceEqDiff, reduceIte, implies_true, forall_const, Nat.reduceMul, Nat.reduceSub, Nat.reduceAdd, Nat.reduceLeDiff, *]) | (simp only [zgoO, zgoG, zO_nil, zthen_normal, zgoC]) | (with_reducible apply And.intro) | (with_reducible intro _))
  refine keeps_z (fun hne => ?_) (fun he hn => ?_) (fun he h0 h1 PL DM FR X r R => ?_)
  · obtain ⟨c, hc⟩ : ∃ c, c = checkE has roots := ⟨_, rfl⟩
    rw [← hc] at hne ⊢
    clear hc
    repeat' (first | (simp only [zmPack, zxPack, ne_eq, zfree, owners, Nat.reduceLT, List.contains_cons, List.contains_nil, Nat.reduceBEq, BEq.rfl, chunk, setAt, List.lookup_cons, List.lookup_nil, reduceCtorEq, Nat.reduceEqDiff, reduceIte, implies_true, forall_const, Nat.reduceMul, Nat.reduceSub, Nat.reduceAdd, Nat.reduceLeDiff, hne, *]) | (simp only [zgoO, zgoG, zO_nil, zthen_normal, zgoC]) | (with_reducible apply And.intro) | (with_reducible intro _))
    refine owned_z ?_
    have fin := FI.out
    repeat' (first | (simp only [zmPack, zxPack, ne_eq, zfree, owners, Nat.reduceLT, List.contains_cons, List.contains_nil, Nat.reduceBEq, BEq.rfl, chunk, setAt, List.lookup_cons, List.lookup_nil, reduceCtorEq, Nat.reduceEqDiff, reduceIte, implies_true, forall_const, Nat.reduceMul, Nat.reduceSub, Nat.reduceAdd, Nat.reduceLeDiff, *]) | (simp only [zgoO, zgoG, zO_nil, zthen_normal, zgoC]) | (with_reducible apply And.intro) | (with_reducible intro _))
    exact fin _
  · have e5 : ¬ (5 : Int) = 0 := by decide
    clear he hn
    repeat' (first | (simp only [zmPack, zxPack, ne_eq, zfree, owners, Nat.reduceLT, List.contains_cons, List.contains_nil, Nat.reduceBEq, BEq.rfl, chunk, setAt, List.lookup_cons, List.lookup_nil, reduceCtorEq, Nat.reduceEqDiff, reduceIte, implies_true, forall_const, Nat.reduceMul, Nat.reduceSub, Nat.reduceAdd, Nat.reduceLeDiff, e5, *]) | (simp only [zgoO, zgoG, zO_nil, zthen_normal, zgoC]) | (with_reducible apply And.intro) | (with_reducible intro _))
    refine owned_z ?_
    have fin := FI.out
    repeat' (first | (simp only [zmPack, zxPack, ne_eq, zfree, owners, Nat.reduceLT, List.contains_cons, List.contains_nil, Nat.reduceBEq, BEq.rfl, chunk, setAt, List.lookup_cons, List.lookup_nil, reduceCtorEq, Nat.reduceEqDiff, reduceIte, implies_true, forall_const, Nat.reduceMul, Nat.reduceSub, Nat.reduceAdd, Nat.reduceLeDiff, *]) | (simp only [zgoO, zgoG, zO_nil, zthen_normal, zgoC]) | (with_reducible apply And.intro) | (with_reducible intro _))
    exact fin _
  · obtain ⟨a1, a2, a3⟩ := R.away he h0 h1
    obtain ⟨q1, q2, q3, q4, q5⟩ := checkE_zero he
    have hwc := wo_check (n := n) he
    have hwl := liveL_length has [] roots
    have hil := liveL_length (woH has n) [] (strip n roots)
    rw [show (woH has n).length = has.length from woTo_len] at hil
    obtain ⟨W, hW⟩ : ∃ W, W = liveL has [] roots := ⟨_, rfl⟩
    obtain ⟨I, hI⟩ : ∃ I, I = liveL (woH has n) [] (strip n roots) := ⟨_, rfl⟩
    obtain ⟨Q, hQ⟩ : ∃ Q, Q = risP (Kp PL DM X n) has.length := ⟨_, rfl⟩
    rw [← hW] at a1 a2 a3 hwl
    rw [← hI] at a1 a3 hil
    rw [← hQ] at a1 a2 a3 ⊢
    have HA := Lib.hid (And.intro a1 (And.intro a2 a3))
    have HE := Lib.hid (And.intro he hwc)
    have HWI := Lib.hid (And.intro hW hI)
    have HQ := Lib.hid (And.intro q1 (And.intro q2 q3))
    have wl : W.length ≤ 100 := by omega
    have il : I.length ≤ 100 := by omega
    have ql : Q.length ≤ 100 := by omega
    clear a1 a2 a3 he hwc hW hI hQ q1 q2 q3 q4 q5 R h0 h1 hwl hil
    repeat' (first | (simp only [zmPack, zxPack, ne_eq, zfree, owners, Nat.reduceLT, List.contains_cons, List.contains_nil, Nat.reduceBEq, BEq.rfl, chunk, setAt, List.lookup_cons, List.lookup_nil, reduceCtorEq, Nat.reduceEqDiff, reduceIte, implies_true, forall_const, Nat.reduceMul, Nat.reduceSub, Nat.reduceAdd, Nat.reduceLeDiff, *]) | (simp only [zgoO, zgoG, zO_nil, zthen_normal, zgoC]) | (with_reducible apply And.intro) | (with_reducible intro _))
    refine needed_z (has := has) (roots := roots) (by simp [rowsZ]) (by simp [rowsZ]) (fun l hl => ?_)
    rw [if_pos HE.out.1, ← HWI.out.1] at hl
    rw [HE.out.1]
    subst hl
    repeat' (first | (simp only [zmPack, zxPack, ne_eq, zfree, owners, Nat.reduceLT, List.contains_cons, List.contains_nil, Nat.reduceBEq, BEq.rfl, chunk, setAt, List.lookup_cons, List.lookup_nil, reduceCtorEq, Nat.reduceEqDiff, reduceIte, implies_true, forall_const, Nat.reduceMul, Nat.reduceSub, Nat.reduceAdd, Nat.reduceLeDiff, *]) | (simp only [zgoO, zgoG, zO_nil, zthen_normal, zgoC]) | (with_reducible apply And.intro) | (with_reducible intro _))
    refine without_z HQ.out.1 (fun l hl => by have := HQ.out.2.2 l hl; omega) (by have := HQ.out.2.1; omega) ?_
    repeat' (first | (simp only [zmPack, zxPack, ne_eq, zfree, owners, Nat.reduceLT, List.contains_cons, List.contains_nil, Nat.reduceBEq, BEq.rfl, chunk, setAt, List.lookup_cons, List.lookup_nil, reduceCtorEq, Nat.reduceEqDiff, reduceIte, implies_true, forall_const, Nat.reduceMul, Nat.reduceSub, Nat.reduceAdd, Nat.reduceLeDiff, *]) | (simp only [zgoO, zgoG, zO_nil, zthen_normal, zgoC]) | (with_reducible apply And.intro) | (with_reducible intro _))
    refine needed_z (has := woH has n) (roots := strip n roots) (by simp [rowsZ]) (by simp [rowsZ]) (fun l2 hl2 => ?_)
    rw [if_pos HE.out.2, ← HWI.out.2] at hl2
    rw [HE.out.2]
    subst hl2
    obtain ⟨H1, hH1⟩ : ∃ H1, H1 = ([.box [.fz 1 false (has.map eL), .fz 1 false (roots.map eI)], .grow 0 1 (l.map eI), .grow 0 1 (l2.map eI)] : ZH) := ⟨_, rfl⟩
    have hl1 : lenZ H1 (.own 1 0 0 l.length false) = some l.length := by rw [len_own, hH1]; exact ⟨_, _, rfl, rfl⟩
    have hl2 : lenZ H1 (.own 2 0 0 l2.length false) = some l2.length := by rw [len_own, hH1]; exact ⟨_, _, rfl, rfl⟩
    have hr1 : rowsZ H1 1 (.own 1 0 0 l.length false) = some (l.map eI) := rows_whole (by rw [hH1]; rfl) (by simp)
    have hr2 : rowsZ H1 1 (.own 2 0 0 l2.length false) = some (l2.map eI) := rows_whole (by rw [hH1]; rfl) (by simp)
    simp only [List.length_append, List.length_cons, List.length_nil, List.cons_append, List.nil_append]
    rw [← hH1]
    have HR := Lib.hid (And.intro hr1 hr2)
    clear hr1 hr2 hH1
    repeat' (first | (simp only [zmPack, zxPack, ne_eq, zfree, owners, Nat.reduceLT, List.contains_cons, List.contains_nil, Nat.reduceBEq, BEq.rfl, chunk, setAt, List.lookup_cons, List.lookup_nil, reduceCtorEq, Nat.reduceEqDiff, reduceIte, implies_true, forall_const, Nat.reduceMul, Nat.reduceSub, Nat.reduceAdd, Nat.reduceLeDiff, hl1, *]) | (simp only [zgoO, zgoG, zO_nil, zthen_normal, zgoC]) | (with_reducible apply And.intro) | (with_reducible intro _))
    refine zW_forK [(47, .own 1 0 0 l.length false), (5, .fz 1 false (Q.map eI)), (9, .own 2 0 0 l2.length false), (7, .own 1 0 0 l.length false), (1, Z64 n)] l.length (fun k s h => h = H1) (by omega) ⟨rfl, rfl, rfl, rfl, rfl, rfl⟩ rfl rfl (by repeat' (first | exact trivial | (refine ⟨rfl, ?_⟩) | (refine ⟨by simp only [zupd_at, Nat.reduceEqDiff, reduceIte]; assumption, ?_⟩))) rfl rfl (by decide) rfl ?_ ?_
    · rintro k s' h' hk rfl hi hll ⟨f47, f5, f9, f7, f1, -⟩
      obtain ⟨pp, hp, hld⟩ := rows_at HR.out.1 hk
      have hx : l[k]? = some l[k] := List.getElem?_eq_getElem hk
      obtain ⟨x, hxx⟩ : ∃ x, x = l[k] := ⟨_, rfl⟩
      rw [← hxx] at hld hx
      have hm := HA.out.1 x (List.mem_of_getElem? hx)
      have HM := Lib.hid hm
      clear hx hxx hm
      repeat' (first | (simp only [zmPack, zxPack, ne_eq, zfree, owners, Nat.reduceLT, List.contains_cons, List.contains_nil, Nat.reduceBEq, BEq.rfl, chunk, setAt, List.lookup_cons, List.lookup_nil, reduceCtorEq, Nat.reduceEqDiff, reduceIte, implies_true, forall_const, Nat.reduceMul, Nat.reduceSub, Nat.reduceAdd, Nat.reduceLeDiff, hp, hld, *]) | (simp only [zgoO, zgoG, zO_nil, zthen_normal, zgoC]) | (with_reducible apply And.intro) | (with_reducible intro _))
      refine hasint_z (l := Q) (x := x) (by simp [rowsZ]) (by omega) ?_
      repeat' (first | (simp only [zmPack, zxPack, ne_eq, zfree, owners, Nat.reduceLT, List.contains_cons, List.contains_nil, Nat.reduceBEq, BEq.rfl, chunk, setAt, List.lookup_cons, List.lookup_nil, reduceCtorEq, Nat.reduceEqDiff, reduceIte, implies_true, forall_const, Nat.reduceMul, Nat.reduceSub, Nat.reduceAdd, Nat.reduceLeDiff, *]) | (simp only [zgoO, zgoG, zO_nil, zthen_normal, zgoC]) | (with_reducible apply And.intro) | (with_reducible intro _))
      refine hasint_z (l := l2) (x := x) HR.out.2 (by omega) ?_
      have hm2 : decide (x ∈ l2) = !decide (x ∈ Q) := by
        by_cases h : x ∈ Q
        · rw [decide_eq_false (fun h2 => HM.out.1 h2 h), decide_eq_true h]; rfl
        · rw [decide_eq_true (HM.out.2 h), decide_eq_false h]; rfl
      rw [hm2]
      clear hm2 HM
      generalize decide (x ∈ Q) = b
      cases b
      · repeat' (first | (simp only [zmPack, zxPack, ne_eq, zfree, owners, Nat.reduceLT, List.contains_cons, List.contains_nil, Nat.reduceBEq, BEq.rfl, chunk, setAt, List.lookup_cons, List.lookup_nil, reduceCtorEq, Nat.reduceEqDiff, reduceIte, implies_true, forall_const, Nat.reduceMul, Nat.reduceSub, Nat.reduceAdd, Nat.reduceLeDiff, *]) | (simp only [zgoO, zgoG, zO_nil, zthen_normal, zgoC]) | (with_reducible apply And.intro) | (with_reducible intro _))
      · repeat' (first | (simp only [zmPack, zxPack, ne_eq, zfree, owners, Nat.reduceLT, List.contains_cons, List.contains_nil, Nat.reduceBEq, BEq.rfl, chunk, setAt, List.lookup_cons, List.lookup_nil, reduceCtorEq, Nat.reduceEqDiff, reduceIte, implies_true, forall_const, Nat.reduceMul, Nat.reduceSub, Nat.reduceAdd, Nat.reduceLeDiff, *]) | (simp only [zgoO, zgoG, zO_nil, zthen_normal, zgoC]) | (with_reducible apply And.intro) | (with_reducible intro _))
    · rintro s' h' rfl ⟨f47, f5, f9, f7, f1, -⟩
      repeat' (first | (simp only [zmPack, zxPack, ne_eq, zfree, owners, Nat.reduceLT, List.contains_cons, List.contains_nil, Nat.reduceBEq, BEq.rfl, chunk, setAt, List.lookup_cons, List.lookup_nil, reduceCtorEq, Nat.reduceEqDiff, reduceIte, implies_true, forall_const, Nat.reduceMul, Nat.reduceSub, Nat.reduceAdd, Nat.reduceLeDiff, hl1, hl2, *]) | (simp only [zgoO, zgoG, zO_nil, zthen_normal, zgoC]) | (with_reducible apply And.intro) | (with_reducible intro _))
      refine owned_z ?_
      repeat' (first | (simp only [zmPack, zxPack, ne_eq, zfree, owners, Nat.reduceLT, List.contains_cons, List.contains_nil, Nat.reduceBEq, BEq.rfl, chunk, setAt, List.lookup_cons, List.lookup_nil, reduceCtorEq, Nat.reduceEqDiff, reduceIte, implies_true, forall_const, Nat.reduceMul, Nat.reduceSub, Nat.reduceAdd, Nat.reduceLeDiff, hl1, hl2, *]) | (simp only [zgoO, zgoG, zO_nil, zthen_normal, zgoC]) | (with_reducible apply And.intro) | (with_reducible intro _))
      refine hasint_z (l := l) (x := n) HR.out.1 (by omega) ?_
      have fin := FI.out
      obtain ⟨-, a2, a3⟩ := HA.out
      have w1 : IntKind.i64.wrap (l.length : Int) = (l.length : Int) := IntWalk.i64_in _ (by omega)
      have w2 : Q.length = 0 → IntKind.i64.wrap (0 + (l2.length : Int)) = (l.length : Int) := fun h => by rw [show (0 + (l2.length : Int)) = (l.length : Int) by omega]; exact w1
      have a4 : ((Q.length : Int) + (l2.length : Int)) = (l.length : Int) := by omega
      by_cases hn : n ∈ l
      · have b1 : ¬ (Q.length : Int) = 0 := fun e => a2.1 (by omega) hn
        have b2 : ¬ Q.length = 0 := by omega
        rw [decide_eq_true hn]
        clear a2 a3 hn HA w2
        repeat' (first | (simp only [zmPack, zxPack, ne_eq, zfree, owners, Nat.reduceLT, List.contains_cons, List.contains_nil, Nat.reduceBEq, BEq.rfl, chunk, setAt, List.lookup_cons, List.lookup_nil, reduceCtorEq, Nat.reduceEqDiff, reduceIte, implies_true, forall_const, Nat.reduceMul, Nat.reduceSub, Nat.reduceAdd, Nat.reduceLeDiff, hl1, hl2, a4, w1, *]) | (simp only [zgoO, zgoG, zO_nil, zthen_normal, zgoC]) | (with_reducible apply And.intro) | (with_reducible intro _))
        all_goals exact fin _
      · have b1 : (Q.length : Int) = 0 := by have := a2.2 hn; omega
        have b2 : Q.length = 0 := by omega
        rw [decide_eq_false hn]
        have w3 := w2 b2
        clear a2 a3 hn HA w2 w1 a4 b2
        repeat' (first | (simp only [zmPack, zxPack, ne_eq, zfree, owners, Nat.reduceLT, List.contains_cons, List.contains_nil, Nat.reduceBEq, BEq.rfl, chunk, setAt, List.lookup_cons, List.lookup_nil, reduceCtorEq, Nat.reduceEqDiff, reduceIte, implies_true, forall_const, Nat.reduceMul, Nat.reduceSub, Nat.reduceAdd, Nat.reduceLeDiff, hl1, hl2, w3, eq_self, *]) | (simp only [zgoO, zgoG, zO_nil, zthen_normal, zgoC]) | (with_reducible apply And.intro) | (with_reducible intro _))
        all_goals exact fin _
end Go.Proofs.Ytfmllmcjinjfaaa

namespace Go.Proofs.Ytfmllmcjinjfaaa
open Go Go.RowKit Go.ChangeShapes Go.WideShapes Go.ChangeAt
set_option linter.unusedVariables false
set_option linter.unusedSimpArgs false
set_option maxRecDepth 100000 in
theorem ownsaway_lifted (os : Os) (started : os.Started) (H : Type) (enc : TypeId × Value → H) :
    ReturnsInHanded {} Try.checked os 5 .any (Rows.ownsAwaySpec.pre6 enc Try.prog Try.f5 Rows.ownsAwayRow.domain false) (Rows.ownsAwaySpec.post enc Try.prog Try.f5 false true false false) := by
  refine law_lifted (C := Try.checked) 12 [(true, .prod (.slice 24 (.slice 8 (.int .i64))) (.slice 8 (.int .i64))), (false, .int .i64)] 4 Try.own Try.laidOut started (by kernel_rfl) Try.func5
    (ChangeSpec.witness6 (enc := enc) (C := Try.checked) false ⟨#[], #[.agg #[.slice none 0 0, .slice none 0 0], .int .i64 0], []⟩ 8 (by kernel_rfl) (by kernel_rfl) (by kernel_rfl) (by kernel_rfl))
    rfl (by kernel_rfl) Try.underlying4 (fun ds h => ?_) (by kernel_rfl) (by kernel_rfl) (fun W args h => ?_)
  · match ds, h with
    | [d0, d1], _ => rfl
  · refine zm_walk (by kernel_rfl) (constX_ok (n := 1000) (F := cFunc Try.prog) (by kernel_rfl) (fun f af h => h) tbO (by intro p hp; rw [List.mem_singleton.1 hp]; kernel_rfl)) (fun f af h => h) rfl (fun zl hz => ?_) W args h
    obtain ⟨g, _, rfl, hg, sg, n, _, rfl, hn, _, rfl⟩ := hz
    exact ownsaway_z (has := g.1) (roots := g.2) (n := n)
theorem ownsaway_holds : Rows.OwnsAwaySaid :=
  OpenClaim.holds_of_wide 5 Try.f5 rfl rfl rfl rfl rfl rfl rfl ⟨rfl, rfl, rfl, rfl, rfl⟩ rfl rfl rfl rfl rfl (by kernel_rfl) Try.func5 (by kernel_rfl) (of_decide_eq_true (by kernel_rfl)) (by unfold Func.isWrapper; first | (rw [if_pos (by decide +kernel)]; kernel_rfl) | (rw [if_neg (by decide +kernel)]; exact ⟨rfl, rfl⟩))
    (fun os started H enc _ => ownsaway_lifted os started H enc)
end Go.Proofs.Ytfmllmcjinjfaaa
