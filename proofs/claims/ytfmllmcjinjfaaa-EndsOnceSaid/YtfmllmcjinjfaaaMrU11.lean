/-
  Proved: the law EndsOnce answers true, whatever the input: rounds have the due things, each in one; none that is due is needed, or fails to stay.
-/
import Derived.Test.YtfmllmcjinjfaaaMrU10
namespace Go.Proofs.Ytfmllmcjinjfaaa
open Go Go.RowKit
set_option linter.unusedVariables false
set_option linter.unusedSimpArgs false
variable {has : List (List Int)}
theorem rounds_ind {P : List Int → List (List Int) → Prop} (h0 : P [] []) (h1 : ∀ left, left ≠ [] → P (leftL has left) (rounds has (leftL has left)) → P left (nowL has left :: rounds has (leftL has left))) : ∀ (n : Nat) left, left.length ≤ n → P left (rounds has left)
  | 0, left, h => by
    have e : left = [] := List.eq_nil_of_length_eq_zero (by omega)
    subst e; exact h0
  | n + 1, left, h => by
    by_cases e : left = []
    · subst e; exact h0
    · have := left_less (has := has) e
      rw [rounds_step e]
      exact h1 left e (rounds_ind h0 h1 n _ (by omega))
theorem left_sub {left : List Int} {x : Int} (h : x ∈ leftL has left) : x ∈ left ∧ x ∉ nowL has left := by
  obtain ⟨h1, h2⟩ := mem_keep.1 h
  exact ⟨h1, by simpa using h2⟩
theorem rounds_mem {left r : List Int} (hr : r ∈ rounds has left) {x : Int} (hx : x ∈ r) : x ∈ left := by
  refine rounds_ind (has := has) (P := fun left rs => ∀ r ∈ rs, ∀ x ∈ r, x ∈ left) (fun r hr => by cases hr) (fun left _ ih r hr x hx => ?_) left.length left (Nat.le_refl _) r hr x hx
  rcases List.mem_cons.1 hr with rfl | hr
  · exact now_sub hx
  · exact (left_sub (ih r hr x hx)).1
theorem rounds_len (left : List Int) : (rounds has left).length ≤ left.length := by
  refine rounds_ind (has := has) (P := fun left rs => rs.length ≤ left.length) (Nat.le_refl _) (fun left e ih => ?_) left.length left (Nat.le_refl _)
  have := left_less (has := has) e
  simp only [List.length_cons]; omega
theorem now_filter (left : List Int) : ∃ q : Int → Bool, nowL has left = left.filter q := by
  unfold nowL
  split
  · exact ⟨fun _ => true, (List.filter_eq_self.2 fun _ _ => rfl).symm⟩
  · exact ⟨_, rfl⟩
theorem filter_cnt {p : Int → Bool} : ∀ (l : List Int), (l.filter p).length + (l.filter fun x => !p x).length = l.length
  | [] => rfl
  | x :: l => by
    have := filter_cnt (p := p) l
    by_cases h : p x = true
    · simp [List.filter_cons, h]; omega
    · simp [List.filter_cons, h]; omega
theorem now_cnt (left : List Int) : (nowL has left).length + (leftL has left).length = left.length := by
  obtain ⟨q, hq⟩ := now_filter (has := has) left
  have : leftL has left = left.filter fun x => !q x := by
    unfold leftL keepP
    rw [hq]
    refine List.filter_congr fun x hx => ?_
    have : decide (x ∈ left.filter q) = q x := by rw [Bool.eq_iff_iff, decide_eq_true_iff, List.mem_filter]; simp [hx]
    show (!decide (x ∈ left.filter q)) = !q x
    rw [this]
  rw [this, hq]
  exact filter_cnt left
theorem rounds_sum (left : List Int) : ((rounds has left).map List.length).sum = left.length := by
  refine rounds_ind (has := has) (P := fun left rs => (rs.map List.length).sum = left.length) rfl (fun left e ih => ?_) left.length left (Nat.le_refl _)
  rw [List.map_cons, List.sum_cons, ih]
  exact now_cnt left
theorem rounds_rise {left : List Int} (h : left.Pairwise (· < ·)) : ∀ r ∈ rounds has left, r.Pairwise (· < ·) := by
  refine rounds_ind (has := has) (P := fun left rs => left.Pairwise (· < ·) → ∀ r ∈ rs, r.Pairwise (· < ·)) (fun _ r hr => by cases hr) (fun left e ih hp r hr => ?_) left.length left (Nat.le_refl _) h
  rcases List.mem_cons.1 hr with rfl | hr
  · obtain ⟨q, hq⟩ := now_filter (has := has) left
    rw [hq]; exact hp.sublist List.filter_sublist
  · exact ih (hp.sublist List.filter_sublist) r hr
end Go.Proofs.Ytfmllmcjinjfaaa

namespace Go.Proofs.Ytfmllmcjinjfaaa
open Go Go.RowKit
set_option linter.unusedVariables false
set_option linter.unusedSimpArgs false
variable {has : List (List Int)} {roots l : List Int}
def lsum (rs : List (List Int)) (k : Nat) : Nat := ((rs.take k).map List.length).sum
theorem lsum_next {rs : List (List Int)} {k : Nat} (hk : k < rs.length) : lsum rs (k + 1) = lsum rs k + rs[k].length := by
  unfold lsum
  rw [List.take_succ_eq_append_getElem hk, List.map_append, List.sum_append]; simp
theorem lsum_le {rs : List (List Int)} : ∀ {k : Nat}, lsum rs k ≤ (rs.map List.length).sum := by
  intro k
  unfold lsum
  rw [← List.take_append_drop k (rs.map List.length), List.sum_append, List.map_take]
  omega
set_option maxHeartbeats 8000000 in
theorem endsonce_z : ZC (constX tbE) (cFunc Try.prog) 8 [.agg [.fz 1 false (has.map eL), .fz 1 false (roots.map eI)], .fz 1 false (l.map eI)] (fun _ => true) [] fun z _ => z = ZBo true := by
  refine ZC.enter Gh.no (fun args fl hp ha => constX_none (l := tbE) (f := 8) (by decide) args fl hp ha) f_en_once (by simp) ?_
  simp only [c_en_once]
  have fin : ∀ X, Fin [] (ZBo true) X (fun z _ => z = ZBo true) := fun X => Fin.trunc (Mods.ext [] X) rfl rfl
  have FI := Lib.hid fin
  clear fin
  have z0 : ((0 : Nat) : Int) = 0 := rfl
  have w0 : IntKind.i64.wrap ((0 : Int) + 0) = 0 := rfl
  have Z0 := Lib.hid z0
  have W0 := Lib.hid w0
  clear z0 w0
  repeat' (first | (simp only [zmPack, zxPack, ne_eq, zfree, owners, Nat.reduceLT, List.contains_cons, List.contains_nil, Nat.reduceBEq, BEq.rfl, chunk, setAt, List.lookup_cons, List.lookup_nil, reduceCtorEq, Nat.reduceEqDiff, reduceIte, implies_true, forall_const, Nat.reduceMul, Nat.reduceSub, Nat.reduceAdd, Nat.reduceLeDiff, *]) | (simp only [zgoO, zgoG, zO_nil, zthen_normal, zgoC]) | (with_reducible apply And.intro) | (with_reducible intro _))
  refine yes_z ?_
  repeat' (first | (simp only [zmPack, zxPack, ne_eq, zfree, owners, Nat.reduceLT, List.contains_cons, List.contains_nil, Nat.reduceBEq, BEq.rfl, chunk, setAt, List.lookup_cons, List.lookup_nil, reduceCtorEq, Nat.reduceEqDiff, reduceIte, implies_true, forall_const, Nat.reduceMul, Nat.reduceSub, Nat.reduceAdd, Nat.reduceLeDiff, *]) | (simp only [zgoO, zgoG, zO_nil, zthen_normal, zgoC]) | (with_reducible apply And.intro) | (with_reducible intro _))
  refine duex_z (fun hne => ?_) (fun he => ?_)
  · obtain ⟨c, hc⟩ : ∃ c, c = dueE has roots l := ⟨_, rfl⟩
    have HCC := Lib.hid hc
    rw [← hc] at hne ⊢
    clear hc
    repeat' (first | (simp only [zmPack, zxPack, ne_eq, zfree, owners, Nat.reduceLT, List.contains_cons, List.contains_nil, Nat.reduceBEq, BEq.rfl, chunk, setAt, List.lookup_cons, List.lookup_nil, reduceCtorEq, Nat.reduceEqDiff, reduceIte, implies_true, forall_const, Nat.reduceMul, Nat.reduceSub, Nat.reduceAdd, Nat.reduceLeDiff, *]) | (simp only [zgoO, zgoG, zO_nil, zthen_normal, zgoC]) | (with_reducible apply And.intro) | (with_reducible intro _))
    refine rounds_z (fun _ => ?_) (fun he => absurd (HCC.out.trans he) hne)
    rw [← HCC.out]
    repeat' (first | (simp only [zmPack, zxPack, ne_eq, zfree, owners, Nat.reduceLT, List.contains_cons, List.contains_nil, Nat.reduceBEq, BEq.rfl, chunk, setAt, List.lookup_cons, List.lookup_nil, reduceCtorEq, Nat.reduceEqDiff, reduceIte, implies_true, forall_const, Nat.reduceMul, Nat.reduceSub, Nat.reduceAdd, Nat.reduceLeDiff, *]) | (simp only [zgoO, zgoG, zO_nil, zthen_normal, zgoC]) | (with_reducible apply And.intro) | (with_reducible intro _))
    refine needed_z rows_fz rows_fz fun nl hnl => ?_
    clear hnl
    obtain ⟨c2, hc2⟩ : ∃ c2, c2 = checkE has roots := ⟨_, rfl⟩
    rw [← hc2]
    clear hc2
    repeat' (first | (simp only [zmPack, zxPack, ne_eq, zfree, owners, Nat.reduceLT, List.contains_cons, List.contains_nil, Nat.reduceBEq, BEq.rfl, chunk, setAt, List.lookup_cons, List.lookup_nil, reduceCtorEq, Nat.reduceEqDiff, reduceIte, implies_true, forall_const, Nat.reduceMul, Nat.reduceSub, Nat.reduceAdd, Nat.reduceLeDiff, hne, *]) | (simp only [zgoO, zgoG, zO_nil, zthen_normal, zgoC]) | (with_reducible apply And.intro) | (with_reducible intro _))
    refine yes_z ?_
    have fin := FI.out
    have z0 := Z0.out
    have w0 := W0.out
    repeat' (first | (simp only [zmPack, zxPack, ne_eq, zfree, owners, Nat.reduceLT, List.contains_cons, List.contains_nil, Nat.reduceBEq, BEq.rfl, chunk, setAt, List.lookup_cons, List.lookup_nil, reduceCtorEq, Nat.reduceEqDiff, reduceIte, implies_true, forall_const, Nat.reduceMul, Nat.reduceSub, Nat.reduceAdd, Nat.reduceLeDiff, z0, w0, List.length_nil, *]) | (simp only [zgoO, zgoG, zO_nil, zthen_normal, zgoC]) | (with_reducible apply And.intro) | (with_reducible intro _))
  · have hE := Lib.hid he
    obtain ⟨q1, q2, q3⟩ := dueE_zero he
    obtain ⟨c1, c2, c3, c4, c5⟩ := checkE_zero q1
    have hdl := due_len (nb := needL has roots) (l := l)
    have hsum := rounds_sum (has := has) (dueL (needL has roots) l)
    have hrl := rounds_len (has := has) (dueL (needL has roots) l)
    have hrm := fun r hr x hx => rounds_mem (has := has) (left := dueL (needL has roots) l) (r := r) hr (x := x) hx
    have hri := rounds_rise (has := has) (due_rise (nb := needL has roots) (l := l))
    have hx3 : ∀ x ∈ dueL (needL has roots) l, x ∉ liveL has [] roots ∧ x ∈ stayL has roots l ∧ x ∈ l := fun x hx => by
      obtain ⟨h1, h2⟩ := mem_due.1 hx
      have h3 := q3 x h1
      have h4 : ¬ Liv has [] roots x.toNat := fun h => h2 (Sn_need.2 ⟨by omega, h⟩)
      exact ⟨fun h => h4 (mem_liveL.1 h).2.2, mem_stay.2 ⟨h3.1, by omega, Liv.base hx, h4⟩, h1⟩
    have hsl := stay_len (has := has) (roots := roots) (l := l)
    have hll := liveL_length has [] roots
    obtain ⟨st, hst⟩ : ∃ st, st = stayL has roots l := ⟨_, rfl⟩
    rw [← hst] at hx3 hsl ⊢
    clear hst
    repeat' (first | (simp only [zmPack, zxPack, ne_eq, zfree, owners, Nat.reduceLT, List.contains_cons, List.contains_nil, Nat.reduceBEq, BEq.rfl, chunk, setAt, List.lookup_cons, List.lookup_nil, reduceCtorEq, Nat.reduceEqDiff, reduceIte, implies_true, forall_const, Nat.reduceMul, Nat.reduceSub, Nat.reduceAdd, Nat.reduceLeDiff, *]) | (simp only [zgoO, zgoG, zO_nil, zthen_normal, zgoC]) | (with_reducible apply And.intro) | (with_reducible intro _))
    refine rounds_z (fun hn => absurd hE.out hn) (fun _ => ?_)
    obtain ⟨d, hd⟩ : ∃ d, d = dueL (needL has roots) l := ⟨_, rfl⟩
    rw [← hd] at hdl hsum hrl hrm hri hx3 ⊢
    obtain ⟨rs, hrs⟩ : ∃ rs, rs = rounds has d := ⟨_, rfl⟩
    rw [← hrs] at hsum hrl hrm hri ⊢
    have HC := Lib.hid (And.intro c1 (And.intro q2 (And.intro hdl (And.intro hsum (And.intro hrl (And.intro hrm (And.intro hri (And.intro hx3 (And.intro hsl hll)))))))))
    have Q1 := Lib.hid q1
    clear c1 c2 c3 c4 c5 q1 q2 q3 hdl hsum hrl hrm hri hx3 hsl hll hd hrs he
    repeat' (first | (simp only [zmPack, zxPack, ne_eq, zfree, owners, Nat.reduceLT, List.contains_cons, List.contains_nil, Nat.reduceBEq, BEq.rfl, chunk, setAt, List.lookup_cons, List.lookup_nil, reduceCtorEq, Nat.reduceEqDiff, reduceIte, implies_true, forall_const, Nat.reduceMul, Nat.reduceSub, Nat.reduceAdd, Nat.reduceLeDiff, *]) | (simp only [zgoO, zgoG, zO_nil, zthen_normal, zgoC]) | (with_reducible apply And.intro) | (with_reducible intro _))
    refine needed_z rows_fz rows_fz fun nl hnl => ?_
    rw [Q1.out, if_pos rfl] at hnl
    rw [Q1.out]
    have HNL := Lib.hid hnl
    clear hnl
    repeat' (first | (simp only [zmPack, zxPack, ne_eq, zfree, owners, Nat.reduceLT, List.contains_cons, List.contains_nil, Nat.reduceBEq, BEq.rfl, chunk, setAt, List.lookup_cons, List.lookup_nil, reduceCtorEq, Nat.reduceEqDiff, reduceIte, implies_true, forall_const, Nat.reduceMul, Nat.reduceSub, Nat.reduceAdd, Nat.reduceLeDiff, *]) | (simp only [zgoO, zgoG, zO_nil, zthen_normal, zgoC]) | (with_reducible apply And.intro) | (with_reducible intro _))
    obtain ⟨B0, hB0⟩ : ∃ B0 : ZB, B0 = .box [.fz 1 false (has.map eL), .fz 1 false (roots.map eI)] := ⟨_, rfl⟩
    rw [← hB0]
    clear hB0
    refine zW_forK [(58, .fz 1 false (rs.map eL)), (5, .fz 1 false (d.map eI)), (6, .fz 1 false (st.map eI)), (10, .own 1 0 0 nl.length false), (1, .fz 1 false (l.map eI)), (9, Z64 0), (11, Z64 0)] rs.length (fun i s' W => W = [B0, .grow 0 1 (nl.map eI)] ∧ s' 12 = Z64 (lsum rs i : Nat)) (by have := HC.out.2.1; have := HC.out.2.2.1; have := HC.out.2.2.2.2.1; omega) ⟨rfl, rfl, rfl, rfl, rfl, rfl⟩ rfl rfl (by repeat' (first | exact trivial | (refine ⟨rfl, ?_⟩) | (refine ⟨by simp only [zupd_at, Nat.reduceEqDiff, reduceIte]; assumption, ?_⟩))) rfl rfl (by decide) ⟨rfl, rfl⟩ ?_ ?_
    · rintro i s' h' hi0 ⟨rfl, f12⟩ hi hll ⟨f58, f5, f6, f10, f1, f9, f11, -⟩
      have hr : rs[i]? = some rs[i] := List.getElem?_eq_getElem hi0
      have hn := lsum_next hi0
      have hle := lsum_le (rs := rs) (k := i + 1)
      rw [HC.out.2.2.2.1] at hle
      obtain ⟨r, hre⟩ : ∃ r, r = rs[i] := ⟨_, rfl⟩
      rw [← hre] at hr hn
      have hm : r ∈ rs := List.mem_of_getElem? hr
      have hd100 : d.length ≤ 100 := by have := HC.out.2.1; have := HC.out.2.2.1; omega
      have wm : IntKind.i64.wrap (((lsum rs i : Nat) : Int) + ((r.length : Nat) : Int)) = ((lsum rs (i + 1) : Nat) : Int) := by rw [IntWalk.i64_in _ (by omega)]; omega
      have hrl : r.length ≤ 100 := by omega
      have HRL := Lib.hid (And.intro hrl (And.intro hm hd100))
      clear hre hn hle hm hd100 hrl
      repeat' (first | (simp only [zmPack, zxPack, ne_eq, zfree, owners, Nat.reduceLT, List.contains_cons, List.contains_nil, Nat.reduceBEq, BEq.rfl, chunk, setAt, List.lookup_cons, List.lookup_nil, reduceCtorEq, Nat.reduceEqDiff, reduceIte, implies_true, forall_const, Nat.reduceMul, Nat.reduceSub, Nat.reduceAdd, Nat.reduceLeDiff, hr, wm, *]) | (simp only [zgoO, zgoG, zO_nil, zthen_normal, zgoC]) | (with_reducible apply And.intro) | (with_reducible intro _))
      clear wm hr
      refine zW_forK [(68, zI r), (14, zI r), (5, .fz 1 false (d.map eI)), (12, Z64 (lsum rs (i + 1) : Nat))] r.length (fun _ _ W => W = [B0, .grow 0 1 (nl.map eI)]) (by have := HRL.out.1; omega) ⟨rfl, rfl, rfl, rfl, rfl, rfl⟩ rfl rfl (by repeat' (first | exact trivial | (refine ⟨rfl, ?_⟩) | (refine ⟨by simp only [zupd_at, Nat.reduceEqDiff, reduceIte]; assumption, ?_⟩))) rfl rfl (by decide) rfl ?_ ?_
      · clear f12 f58 f5 f6 f10 f1 f9 f11
        rintro j s2 h2 hj rfl hi2 hl2 ⟨f68, f14, f5, f12, -⟩
        have hx : r[j]? = some r[j] := List.getElem?_eq_getElem hj
        have hmd := HC.out.2.2.2.2.2.1 r HRL.out.2.1 _ (List.getElem_mem hj)
        have hpw := List.pairwise_iff_getElem.1 (HC.out.2.2.2.2.2.2.1 r HRL.out.2.1)
        have hjr := HRL.out.1
        cases j with
        | zero =>
          obtain ⟨x, hxe⟩ : ∃ x, x = r[0] := ⟨_, rfl⟩
          rw [← hxe] at hx hmd
          have hdec : decide (x ∈ d) = true := decide_eq_true hmd
          have HD := Lib.hid hdec
          have n0 : ¬ (0 : Int) < ((0 : Nat) : Int) := by omega
          clear hxe hmd hpw hdec
          repeat' (first | (simp only [zmPack, zxPack, ne_eq, zfree, owners, Nat.reduceLT, List.contains_cons, List.contains_nil, Nat.reduceBEq, BEq.rfl, chunk, setAt, List.lookup_cons, List.lookup_nil, reduceCtorEq, Nat.reduceEqDiff, reduceIte, implies_true, forall_const, Nat.reduceMul, Nat.reduceSub, Nat.reduceAdd, Nat.reduceLeDiff, hx, *]) | (simp only [zgoO, zgoG, zO_nil, zthen_normal, zgoC]) | (with_reducible apply And.intro) | (with_reducible intro _))
          refine hasint_z rows_fz (by have := HRL.out.2.2; omega) ?_
          rw [HD.out]
          repeat' (first | (simp only [zmPack, zxPack, ne_eq, zfree, owners, Nat.reduceLT, List.contains_cons, List.contains_nil, Nat.reduceBEq, BEq.rfl, chunk, setAt, List.lookup_cons, List.lookup_nil, reduceCtorEq, Nat.reduceEqDiff, reduceIte, implies_true, forall_const, Nat.reduceMul, Nat.reduceSub, Nat.reduceAdd, Nat.reduceLeDiff, n0, *]) | (simp only [zgoO, zgoG, zO_nil, zthen_normal, zgoC]) | (with_reducible apply And.intro) | (with_reducible intro _))
          all_goals fail
        | succ j =>
          have hj0 : j < r.length := by omega
          have hy : r[j]? = some r[j] := List.getElem?_eq_getElem hj0
          have hlt := hpw j (j + 1) hj0 hj (by omega)
          obtain ⟨x, hxe⟩ : ∃ x, x = r[j + 1] := ⟨_, rfl⟩
          obtain ⟨y, hye⟩ : ∃ y, y = r[j] := ⟨_, rfl⟩
          rw [← hxe] at hx hmd hlt
          rw [← hye] at hy hlt
          have hdec : decide (x ∈ d) = true := decide_eq_true hmd
          have HD := Lib.hid hdec
          have n0 : (0 : Int) < ((j + 1 : Nat) : Int) := by omega
          have n1 : ¬ x ≤ y := by omega
          have wj : IntKind.i64.wrap (((j + 1 : Nat) : Int) - 1) = ((j : Nat) : Int) := by rw [IntWalk.i64_in _ (by omega)]; omega
          clear hxe hye hmd hpw hdec hlt
          repeat' (first | (simp only [zmPack, zxPack, ne_eq, zfree, owners, Nat.reduceLT, List.contains_cons, List.contains_nil, Nat.reduceBEq, BEq.rfl, chunk, setAt, List.lookup_cons, List.lookup_nil, reduceCtorEq, Nat.reduceEqDiff, reduceIte, implies_true, forall_const, Nat.reduceMul, Nat.reduceSub, Nat.reduceAdd, Nat.reduceLeDiff, hx, *]) | (simp only [zgoO, zgoG, zO_nil, zthen_normal, zgoC]) | (with_reducible apply And.intro) | (with_reducible intro _))
          refine hasint_z rows_fz (by have := HRL.out.2.2; omega) ?_
          rw [HD.out]
          repeat' (first | (simp only [zmPack, zxPack, ne_eq, zfree, owners, Nat.reduceLT, List.contains_cons, List.contains_nil, Nat.reduceBEq, BEq.rfl, chunk, setAt, List.lookup_cons, List.lookup_nil, reduceCtorEq, Nat.reduceEqDiff, reduceIte, implies_true, forall_const, Nat.reduceMul, Nat.reduceSub, Nat.reduceAdd, Nat.reduceLeDiff, n0, n1, wj, hy, hj0, *]) | (simp only [zgoO, zgoG, zO_nil, zthen_normal, zgoC]) | (with_reducible apply And.intro) | (with_reducible intro _))
          all_goals fail
      · rintro s2 h2 rfl ⟨f68, f14, g5, g12, -⟩
        repeat' (first | (simp only [zmPack, zxPack, ne_eq, zfree, owners, Nat.reduceLT, List.contains_cons, List.contains_nil, Nat.reduceBEq, BEq.rfl, chunk, setAt, List.lookup_cons, List.lookup_nil, reduceCtorEq, Nat.reduceEqDiff, reduceIte, implies_true, forall_const, Nat.reduceMul, Nat.reduceSub, Nat.reduceAdd, Nat.reduceLeDiff, *]) | (simp only [zgoO, zgoG, zO_nil, zthen_normal, zgoC]) | (with_reducible apply And.intro) | (with_reducible intro _))
        all_goals fail
    · rintro s' h' ⟨rfl, f12⟩ ⟨f58, f5, f6, f10, f1, f9, f11, -⟩
      have hls : lsum rs rs.length = d.length := by unfold lsum; rw [List.take_of_length_le (Nat.le_refl _)]; exact HC.out.2.2.2.1
      rw [hls] at f12
      clear hls
      repeat' (first | (simp only [zmPack, zxPack, ne_eq, zfree, owners, Nat.reduceLT, List.contains_cons, List.contains_nil, Nat.reduceBEq, BEq.rfl, chunk, setAt, List.lookup_cons, List.lookup_nil, reduceCtorEq, Nat.reduceEqDiff, reduceIte, implies_true, forall_const, Nat.reduceMul, Nat.reduceSub, Nat.reduceAdd, Nat.reduceLeDiff, *]) | (simp only [zgoO, zgoG, zO_nil, zthen_normal, zgoC]) | (with_reducible apply And.intro) | (with_reducible intro _))
      refine zW_forK [(94, .fz 1 false (d.map eI)), (5, .fz 1 false (d.map eI)), (6, .fz 1 false (st.map eI)), (10, .own 1 0 0 nl.length false), (1, .fz 1 false (l.map eI)), (9, Z64 0), (11, Z64 0), (12, Z64 (d.length : Nat))] d.length (fun _ _ W => W = [B0, .grow 0 1 (nl.map eI)]) (by have := HC.out.2.1; have := HC.out.2.2.1; omega) ⟨rfl, rfl, rfl, rfl, rfl, rfl⟩ rfl rfl (by repeat' (first | exact trivial | (refine ⟨rfl, ?_⟩) | (refine ⟨by simp only [zupd_at, Nat.reduceEqDiff, reduceIte]; assumption, ?_⟩))) rfl rfl (by decide) rfl ?_ ?_
      · clear f12 f58 f5 f6 f10 f1 f9 f11
        rintro j s2 h2 hj rfl hi2 hl2 ⟨f94, f5, f6, f10, f1, -⟩
        have hx : d[j]? = some d[j] := List.getElem?_eq_getElem hj
        obtain ⟨x1, x2, x3⟩ := HC.out.2.2.2.2.2.2.2.1 _ (List.getElem_mem hj)
        rw [← HNL.out] at x1
        obtain ⟨x, hxe⟩ : ∃ x, x = d[j] := ⟨_, rfl⟩
        rw [← hxe] at hx x1 x2 x3
        have X1 := Lib.hid (decide_eq_false x1)
        have X2 := Lib.hid (decide_eq_true x2)
        have X3 := Lib.hid (decide_eq_true x3)
        clear hxe x1 x2 x3
        repeat' (first | (simp only [zmPack, zxPack, ne_eq, zfree, owners, Nat.reduceLT, List.contains_cons, List.contains_nil, Nat.reduceBEq, BEq.rfl, chunk, setAt, List.lookup_cons, List.lookup_nil, reduceCtorEq, Nat.reduceEqDiff, reduceIte, implies_true, forall_const, Nat.reduceMul, Nat.reduceSub, Nat.reduceAdd, Nat.reduceLeDiff, hx, *]) | (simp only [zgoO, zgoG, zO_nil, zthen_normal, zgoC]) | (with_reducible apply And.intro) | (with_reducible intro _))
        refine hasint_z (l := nl) (rows_whole rfl (by simp)) (by rw [HNL.out]; have := HC.out.2.2.2.2.2.2.2.2.2; have := HC.out.1; omega) ?_
        rw [X1.out]
        repeat' (first | (simp only [zmPack, zxPack, ne_eq, zfree, owners, Nat.reduceLT, List.contains_cons, List.contains_nil, Nat.reduceBEq, BEq.rfl, chunk, setAt, List.lookup_cons, List.lookup_nil, reduceCtorEq, Nat.reduceEqDiff, reduceIte, implies_true, forall_const, Nat.reduceMul, Nat.reduceSub, Nat.reduceAdd, Nat.reduceLeDiff, *]) | (simp only [zgoO, zgoG, zO_nil, zthen_normal, zgoC]) | (with_reducible apply And.intro) | (with_reducible intro _))
        refine hasint_z rows_fz (by have := HC.out.2.2.2.2.2.2.2.2.1; have := HC.out.1; omega) ?_
        rw [X2.out]
        repeat' (first | (simp only [zmPack, zxPack, ne_eq, zfree, owners, Nat.reduceLT, List.contains_cons, List.contains_nil, Nat.reduceBEq, BEq.rfl, chunk, setAt, List.lookup_cons, List.lookup_nil, reduceCtorEq, Nat.reduceEqDiff, reduceIte, implies_true, forall_const, Nat.reduceMul, Nat.reduceSub, Nat.reduceAdd, Nat.reduceLeDiff, *]) | (simp only [zgoO, zgoG, zO_nil, zthen_normal, zgoC]) | (with_reducible apply And.intro) | (with_reducible intro _))
        refine hasint_z rows_fz (by have := HC.out.2.1; omega) ?_
        rw [X3.out]
        repeat' (first | (simp only [zmPack, zxPack, ne_eq, zfree, owners, Nat.reduceLT, List.contains_cons, List.contains_nil, Nat.reduceBEq, BEq.rfl, chunk, setAt, List.lookup_cons, List.lookup_nil, reduceCtorEq, Nat.reduceEqDiff, reduceIte, implies_true, forall_const, Nat.reduceMul, Nat.reduceSub, Nat.reduceAdd, Nat.reduceLeDiff, *]) | (simp only [zgoO, zgoG, zO_nil, zthen_normal, zgoC]) | (with_reducible apply And.intro) | (with_reducible intro _))
      · rintro s2 h2 rfl ⟨f94, g5, g6, g10, g1, g9, g11, g12, -⟩
        repeat' (first | (simp only [zmPack, zxPack, ne_eq, zfree, owners, Nat.reduceLT, List.contains_cons, List.contains_nil, Nat.reduceBEq, BEq.rfl, chunk, setAt, List.lookup_cons, List.lookup_nil, reduceCtorEq, Nat.reduceEqDiff, reduceIte, implies_true, forall_const, Nat.reduceMul, Nat.reduceSub, Nat.reduceAdd, Nat.reduceLeDiff, *]) | (simp only [zgoO, zgoG, zO_nil, zthen_normal, zgoC]) | (with_reducible apply And.intro) | (with_reducible intro _))
        refine yes_z ?_
        have fin := FI.out
        repeat' (first | (simp only [zmPack, zxPack, ne_eq, zfree, owners, Nat.reduceLT, List.contains_cons, List.contains_nil, Nat.reduceBEq, BEq.rfl, chunk, setAt, List.lookup_cons, List.lookup_nil, reduceCtorEq, Nat.reduceEqDiff, reduceIte, implies_true, forall_const, Nat.reduceMul, Nat.reduceSub, Nat.reduceAdd, Nat.reduceLeDiff, *]) | (simp only [zgoO, zgoG, zO_nil, zthen_normal, zgoC]) | (with_reducible apply And.intro) | (with_reducible intro _))
end Go.Proofs.Ytfmllmcjinjfaaa

namespace Go.Proofs.Ytfmllmcjinjfaaa
open Go Go.RowKit Go.ChangeShapes Go.WideShapes Go.ChangeAt
set_option linter.unusedVariables false
set_option linter.unusedSimpArgs false
set_option maxRecDepth 100000 in
theorem endsonce_lifted (os : Os) (started : os.Started) (H : Type) (enc : TypeId × Value → H) :
    ReturnsInHanded {} Try.checked os 8 .any (Rows.endsOnceSpec.pre6 enc Try.prog Try.f8 Rows.endsOnceRow.domain false) (Rows.endsOnceSpec.post enc Try.prog Try.f8 false true false false) := by
  refine law_lifted (C := Try.checked) 12 [(true, .prod (.slice 24 (.slice 8 (.int .i64))) (.slice 8 (.int .i64))), (false, .slice 8 (.int .i64))] 4 Try.own Try.laidOut started (by kernel_rfl) Try.func8
    (ChangeSpec.witness6 (enc := enc) (C := Try.checked) false ⟨#[], #[.agg #[.slice none 0 0, .slice none 0 0], .slice none 0 0], []⟩ 8 (by kernel_rfl) (by kernel_rfl) (by kernel_rfl) (by kernel_rfl))
    rfl (by kernel_rfl) Try.underlying4 (fun ds h => ?_) (by kernel_rfl) (by kernel_rfl) (fun W args h => ?_)
  · match ds, h with
    | [d0, d1], _ => rfl
  · refine zm_walk (by kernel_rfl) (constX_ok (n := 1000) (F := cFunc Try.prog) (by kernel_rfl) (fun f af h => h) tbE (by intro p hp; rw [List.mem_singleton.1 hp]; kernel_rfl)) (fun f af h => h) rfl (fun zl hz => ?_) W args h
    obtain ⟨g, _, rfl, hg, sg, l, _, rfl, hl, sl, rfl⟩ := hz
    exact endsonce_z (has := g.1) (roots := g.2) (l := l)
theorem endsonce_holds : Rows.EndsOnceSaid :=
  OpenClaim.holds_of_wide 8 Try.f8 rfl rfl rfl rfl rfl rfl rfl ⟨rfl, rfl, rfl, rfl, rfl⟩ rfl rfl rfl rfl rfl (by kernel_rfl) Try.func8 (by kernel_rfl) (of_decide_eq_true (by kernel_rfl)) (by unfold Func.isWrapper; first | (rw [if_pos (by decide +kernel)]; kernel_rfl) | (rw [if_neg (by decide +kernel)]; exact ⟨rfl, rfl⟩))
    (fun os started H enc _ => endsonce_lifted os started H enc)
end Go.Proofs.Ytfmllmcjinjfaaa
