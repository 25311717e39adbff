/-
  Proved: the law EndsOrder answers true, whatever the input: of two due things in two rounds the later one has not the earlier one, by whatever way.
-/
import Derived.Test.YtfmllmcjinjfaaaMrO10
namespace Go.Proofs.Ytfmllmcjinjfaaa
open Go Go.RowKit
set_option linter.unusedVariables false
set_option linter.unusedSimpArgs false
variable {has : List (List Int)}
theorem rounds_ind {P : List Int → List (List Int) → Prop} (h0 : P [] []) (h1 : ∀ left, left ≠ [] → P (leftL has left) (rounds has (leftL has left)) → P left (nowL has left :: rounds has (leftL has left))) : ∀ (n : Nat) left, left.length ≤ n → P left (rounds has left)
  | 0, left, h => by
    have e : left = [] := List.eq_nil_of_length_eq_zero (by omega)
    subst e; exact h0
  | n + 1, left, h => by
    by_cases e : left = []
    · subst e; exact h0
    · have := left_less (has := has) e
      rw [rounds_step e]
      exact h1 left e (rounds_ind h0 h1 n _ (by omega))
theorem left_sub {left : List Int} {x : Int} (h : x ∈ leftL has left) : x ∈ left ∧ x ∉ nowL has left := by
  obtain ⟨h1, h2⟩ := mem_keep.1 h
  exact ⟨h1, by simpa using h2⟩
theorem rounds_mem {left r : List Int} (hr : r ∈ rounds has left) {x : Int} (hx : x ∈ r) : x ∈ left := by
  refine rounds_ind (has := has) (P := fun left rs => ∀ r ∈ rs, ∀ x ∈ r, x ∈ left) (fun r hr => by cases hr) (fun left _ ih r hr x hx => ?_) left.length left (Nat.le_refl _) r hr x hx
  rcases List.mem_cons.1 hr with rfl | hr
  · exact now_sub hx
  · exact (left_sub (ih r hr x hx)).1
theorem rounds_len (left : List Int) : (rounds has left).length ≤ left.length := by
  refine rounds_ind (has := has) (P := fun left rs => rs.length ≤ left.length) (Nat.le_refl _) (fun left e ih => ?_) left.length left (Nat.le_refl _)
  have := left_less (has := has) e
  simp only [List.length_cons]; omega
theorem now_early {left : List Int} {late early : Int} (h1 : late ∈ leftL has left) (h2 : early ∈ nowL has left) : hadF has late early = false := by
  obtain ⟨a1, a2⟩ := left_sub h1
  unfold nowL at a2 h2
  split at h2
  · rename_i e; rw [if_pos e] at a2; exact absurd a1 a2
  · have h3 := (mem_keep.1 h2).2
    rename_i e
    rw [if_neg e] at a2
    unfold byP at h3
    rw [List.any_eq_false] at h3
    have h4 := h3 late a1
    have hne : late ≠ early := fun q => a2 (q ▸ h2)
    simpa [hne] using h4
theorem rounds_order {left : List Int} : ∀ (i k : Nat) (r1 r2 : List Int), i < k → (rounds has left)[i]? = some r1 → (rounds has left)[k]? = some r2 → ∀ late ∈ r2, ∀ early ∈ r1, hadF has late early = false := by
  refine rounds_ind (has := has) (P := fun left rs => ∀ (i k : Nat) (r1 r2 : List Int), i < k → rs[i]? = some r1 → rs[k]? = some r2 → ∀ late ∈ r2, ∀ early ∈ r1, hadF has late early = false) (fun i k r1 r2 _ h => by simp at h) (fun left e ih i k r1 r2 hik h1 h2 late hl early he => ?_) left.length left (Nat.le_refl _)
  obtain ⟨k', rfl⟩ : ∃ k', k = k' + 1 := ⟨k - 1, by omega⟩
  rw [List.getElem?_cons_succ] at h2
  cases i with
  | zero =>
    rw [List.getElem?_cons_zero] at h1
    injection h1 with h1; subst h1
    exact now_early (rounds_mem (List.mem_of_getElem? h2) hl) he
  | succ i =>
    rw [List.getElem?_cons_succ] at h1
    exact ih i k' r1 r2 (by omega) h1 h2 late hl early he
theorem now_filter (left : List Int) : ∃ q : Int → Bool, nowL has left = left.filter q := by
  unfold nowL
  split
  · exact ⟨fun _ => true, (List.filter_eq_self.2 fun _ _ => rfl).symm⟩
  · exact ⟨_, rfl⟩
theorem filter_cnt {p : Int → Bool} : ∀ (l : List Int), (l.filter p).length + (l.filter fun x => !p x).length = l.length
  | [] => rfl
  | x :: l => by
    have := filter_cnt (p := p) l
    by_cases h : p x = true
    · simp [List.filter_cons, h]; omega
    · simp [List.filter_cons, h]; omega
theorem now_cnt (left : List Int) : (nowL has left).length + (leftL has left).length = left.length := by
  obtain ⟨q, hq⟩ := now_filter (has := has) left
  have : leftL has left = left.filter fun x => !q x := by
    unfold leftL keepP
    rw [hq]
    refine List.filter_congr fun x hx => ?_
    have : decide (x ∈ left.filter q) = q x := by rw [Bool.eq_iff_iff, decide_eq_true_iff, List.mem_filter]; simp [hx]
    show (!decide (x ∈ left.filter q)) = !q x
    rw [this]
  rw [this, hq]
  exact filter_cnt left
theorem rounds_sum (left : List Int) : ((rounds has left).map List.length).sum = left.length := by
  refine rounds_ind (has := has) (P := fun left rs => (rs.map List.length).sum = left.length) rfl (fun left e ih => ?_) left.length left (Nat.le_refl _)
  rw [List.map_cons, List.sum_cons, ih]
  exact now_cnt left
end Go.Proofs.Ytfmllmcjinjfaaa

namespace Go.Proofs.Ytfmllmcjinjfaaa
open Go Go.RowKit
set_option linter.unusedVariables false
set_option linter.unusedSimpArgs false
variable {has : List (List Int)} {roots l : List Int}
set_option maxHeartbeats 8000000 in
theorem endsorder_z : ZC (constX tbE) (cFunc Try.prog) 7 [.agg [.fz 1 false (has.map eL), .fz 1 false (roots.map eI)], .fz 1 false (l.map eI)] (fun _ => true) [] fun z _ => z = ZBo true := by
  refine ZC.enter Gh.no (fun args fl hp ha => constX_none (l := tbE) (f := 7) (by decide) args fl hp ha) f_en_order (by simp) ?_
  simp only [c_en_order]
  have fin : ∀ X, Fin [] (ZBo true) X (fun z _ => z = ZBo true) := fun X => Fin.trunc (Mods.ext [] X) rfl rfl
  have FI := Lib.hid fin
  clear fin
  repeat' (first | (simp only [zmPack, zxPack, ne_eq, zfree, owners, Nat.reduceLT, List.contains_cons, List.contains_nil, Nat.reduceBEq, BEq.rfl, chunk, setAt, List.lookup_cons, List.lookup_nil, reduceCtorEq, Nat.reduceEqDiff, reduceIte, implies_true, forall_const, Nat.reduceMul, Nat.reduceSub, Nat.reduceAdd, Nat.reduceLeDiff, *]) | (simp only [zgoO, zgoG, zO_nil, zthen_normal, zgoC]) | (with_reducible apply And.intro) | (with_reducible intro _))
  refine yes_z ?_
  repeat' (first | (simp only [zmPack, zxPack, ne_eq, zfree, owners, Nat.reduceLT, List.contains_cons, List.contains_nil, Nat.reduceBEq, BEq.rfl, chunk, setAt, List.lookup_cons, List.lookup_nil, reduceCtorEq, Nat.reduceEqDiff, reduceIte, implies_true, forall_const, Nat.reduceMul, Nat.reduceSub, Nat.reduceAdd, Nat.reduceLeDiff, *]) | (simp only [zgoO, zgoG, zO_nil, zthen_normal, zgoC]) | (with_reducible apply And.intro) | (with_reducible intro _))
  refine rounds_z (fun hne => ?_) (fun he => ?_)
  · obtain ⟨c, hc⟩ : ∃ c, c = dueE has roots l := ⟨_, rfl⟩
    rw [← hc] at hne ⊢
    clear hc
    repeat' (first | (simp only [zmPack, zxPack, ne_eq, zfree, owners, Nat.reduceLT, List.contains_cons, List.contains_nil, Nat.reduceBEq, BEq.rfl, chunk, setAt, List.lookup_cons, List.lookup_nil, reduceCtorEq, Nat.reduceEqDiff, reduceIte, implies_true, forall_const, Nat.reduceMul, Nat.reduceSub, Nat.reduceAdd, Nat.reduceLeDiff, hne, *]) | (simp only [zgoO, zgoG, zO_nil, zthen_normal, zgoC]) | (with_reducible apply And.intro) | (with_reducible intro _))
    refine yes_z ?_
    have fin := FI.out
    repeat' (first | (simp only [zmPack, zxPack, ne_eq, zfree, owners, Nat.reduceLT, List.contains_cons, List.contains_nil, Nat.reduceBEq, BEq.rfl, chunk, setAt, List.lookup_cons, List.lookup_nil, reduceCtorEq, Nat.reduceEqDiff, reduceIte, implies_true, forall_const, Nat.reduceMul, Nat.reduceSub, Nat.reduceAdd, Nat.reduceLeDiff, *]) | (simp only [zgoO, zgoG, zO_nil, zthen_normal, zgoC]) | (with_reducible apply And.intro) | (with_reducible intro _))
  · obtain ⟨q1, q2, q3⟩ := dueE_zero he
    obtain ⟨c1, c2, c3, c4, c5⟩ := checkE_zero q1
    have hdl := due_len (nb := needL has roots) (l := l)
    have hdr : ∀ x ∈ dueL (needL has roots) l, 0 ≤ x ∧ x < (has.length : Int) := fun x hx => q3 x (mem_due.1 hx).1
    have hro := rounds_order (has := has) (left := dueL (needL has roots) l)
    have hrm := fun r hr x hx => rounds_mem (has := has) (left := dueL (needL has roots) l) (r := r) hr (x := x) hx
    have hrl := rounds_len (has := has) (dueL (needL has roots) l)
    have hrs : ∀ r ∈ rounds has (dueL (needL has roots) l), r.length ≤ 1000000 := fun r hr => by
      have h1 := rounds_sum (has := has) (dueL (needL has roots) l)
      have h2 : r.length ≤ ((rounds has (dueL (needL has roots) l)).map List.length).sum := by
        generalize rounds has (dueL (needL has roots) l) = rs at hr ⊢
        induction rs with
        | nil => cases hr
        | cons a rs ih =>
          rw [List.map_cons, List.sum_cons]
          rcases List.mem_cons.1 hr with rfl | hr
          · omega
          · have := ih hr; omega
      omega
    obtain ⟨d, hd⟩ : ∃ d, d = dueL (needL has roots) l := ⟨_, rfl⟩
    rw [← hd] at hdl hdr hro hrm hrl hrs ⊢
    obtain ⟨rs, hrs2⟩ : ∃ rs, rs = rounds has d := ⟨_, rfl⟩
    rw [← hrs2] at hro hrm hrl hrs ⊢
    have HC := Lib.hid (And.intro c1 (And.intro c2 (And.intro c3 (And.intro c4 (And.intro hdr (And.intro hdl q2))))))
    have HR := Lib.hid (And.intro hro (And.intro hrm (And.intro hrl hrs)))
    clear c1 c2 c3 c4 c5 q1 q2 q3 hdl hdr hro hrm hrl hrs hd hrs2 he
    repeat' (first | (simp only [zmPack, zxPack, ne_eq, zfree, owners, Nat.reduceLT, List.contains_cons, List.contains_nil, Nat.reduceBEq, BEq.rfl, chunk, setAt, List.lookup_cons, List.lookup_nil, reduceCtorEq, Nat.reduceEqDiff, reduceIte, implies_true, forall_const, Nat.reduceMul, Nat.reduceSub, Nat.reduceAdd, Nat.reduceLeDiff, *]) | (simp only [zgoO, zgoG, zO_nil, zthen_normal, zgoC]) | (with_reducible apply And.intro) | (with_reducible intro _))
    obtain ⟨B0, hB0⟩ : ∃ B0 : ZB, B0 = .box [.fz 1 false (has.map eL), .fz 1 false (roots.map eI)] := ⟨_, rfl⟩
    rw [← hB0]
    have HB0 := Lib.hid hB0
    clear hB0
    refine zW_forK [(25, .fz 1 false (rs.map eL)), (5, .fz 1 false (rs.map eL)), (2, .ptr 0 0)] rs.length (fun _ _ W => W = [B0]) (by have := HR.out.2.2.1; have := HC.out.2.2.2.2.2.1; have := HC.out.2.2.2.2.2.2; omega) ⟨rfl, rfl, rfl, rfl, rfl, rfl⟩ rfl rfl (by repeat' (first | exact trivial | (refine ⟨rfl, ?_⟩) | (refine ⟨by simp only [zupd_at, Nat.reduceEqDiff, reduceIte]; assumption, ?_⟩))) rfl rfl (by decide) rfl ?_ ?_
    · rintro i s' h' hi0 rfl hi hll ⟨f25, f5, f2, -⟩
      have hrl : rs.length ≤ 100 := by have := HR.out.2.2.1; have := HC.out.2.2.2.2.2.1; have := HC.out.2.2.2.2.2.2; omega
      have wi : IntKind.i64.wrap ((i : Int) + 1) = ((i + 1 : Nat) : Int) := by rw [IntWalk.i64_in _ (by omega)]; omega
      have HRL := Lib.hid hrl
      clear hrl
      repeat' (first | (simp only [zmPack, zxPack, ne_eq, zfree, owners, Nat.reduceLT, List.contains_cons, List.contains_nil, Nat.reduceBEq, BEq.rfl, chunk, setAt, List.lookup_cons, List.lookup_nil, reduceCtorEq, Nat.reduceEqDiff, reduceIte, implies_true, forall_const, Nat.reduceMul, Nat.reduceSub, Nat.reduceAdd, Nat.reduceLeDiff, wi, *]) | (simp only [zgoO, zgoG, zO_nil, zthen_normal, zgoC]) | (with_reducible apply And.intro) | (with_reducible intro _))
      clear wi
      have hr1 : rs[i]? = some rs[i] := List.getElem?_eq_getElem hi0
      obtain ⟨r1, hr1e⟩ : ∃ r1, r1 = rs[i] := ⟨_, rfl⟩
      rw [← hr1e] at hr1
      have hm1 : r1 ∈ rs := List.mem_of_getElem? hr1
      clear hr1e
      refine zW_whileK [(5, .fz 1 false (rs.map eL)), (7, Z64 (i : Nat)), (2, .ptr 0 0)] (rs.length - (i + 1)) (fun n s2 h2 => ∃ k, s2 8 = Z64 (k : Nat) ∧ h2 = [B0] ∧ i < k ∧ n = rs.length - k) (by repeat' (first | exact trivial | (refine ⟨rfl, ?_⟩) | (refine ⟨by simp only [zupd_at, Nat.reduceEqDiff, reduceIte]; assumption, ?_⟩))) rfl ⟨i + 1, rfl, rfl, by omega, rfl⟩ ?_
      clear f25 f5 f2 hi hll
      rintro n s2 h2 ⟨k, f8, rfl, hik, rfl⟩ ⟨f5, f7, f2, -⟩
      by_cases hk : k < rs.length
      · have g1 : (k : Int) < (rs.length : Int) := by omega
        have hr2 : rs[k]? = some rs[k] := List.getElem?_eq_getElem hk
        obtain ⟨r2, hr2e⟩ : ∃ r2, r2 = rs[k] := ⟨_, rfl⟩
        rw [← hr2e] at hr2
        have hm2 : r2 ∈ rs := List.mem_of_getElem? hr2
        have hord := HR.out.1 i k r1 r2 hik hr1 hr2
        have wk : IntKind.i64.wrap ((k : Int) + 1) = ((k + 1 : Nat) : Int) := by have := HRL.out; rw [IntWalk.i64_in _ (by omega)]; omega
        have hmn : rs.length - (k + 1) < rs.length - k := by omega
        have HORD := Lib.hid hord
        have HM := Lib.hid (And.intro hm1 hm2)
        have HWK := Lib.hid (And.intro wk (And.intro hmn hik))
        clear hr2e hm2 hord hmn wk hik
        repeat' (first | (simp only [zmPack, zxPack, ne_eq, zfree, owners, Nat.reduceLT, List.contains_cons, List.contains_nil, Nat.reduceBEq, BEq.rfl, chunk, setAt, List.lookup_cons, List.lookup_nil, reduceCtorEq, Nat.reduceEqDiff, reduceIte, implies_true, forall_const, Nat.reduceMul, Nat.reduceSub, Nat.reduceAdd, Nat.reduceLeDiff, g1, hr2, *]) | (simp only [zgoO, zgoG, zO_nil, zthen_normal, zgoC]) | (with_reducible apply And.intro) | (with_reducible intro _))
        clear g1
        refine zW_forK [(41, zI r2), (5, .fz 1 false (rs.map eL)), (7, Z64 (i : Nat)), (8, Z64 (k : Nat)), (2, .ptr 0 0)] r2.length (fun _ _ W => W = [B0]) (by have := HR.out.2.2.2 r2 HM.out.2; omega) ⟨rfl, rfl, rfl, rfl, rfl, rfl⟩ rfl rfl (by repeat' (first | exact trivial | (refine ⟨rfl, ?_⟩) | (refine ⟨by simp only [zupd_at, Nat.reduceEqDiff, reduceIte]; assumption, ?_⟩))) rfl rfl (by decide) rfl ?_ ?_
        · clear f5 f7 f8 f2
          rintro a s3 h3 ha rfl hi3 hl3 ⟨f41, f5, f7, f8, f2, -⟩
          have hx : r2[a]? = some r2[a] := List.getElem?_eq_getElem ha
          have hlr := HC.out.2.2.2.2.1 _ (HR.out.2.1 r2 HM.out.2 _ (List.getElem_mem ha))
          have hlo := HORD.out _ (List.getElem_mem ha)
          obtain ⟨q, hq⟩ : ∃ q, q = r2[a] := ⟨_, rfl⟩
          rw [← hq] at hx hlr hlo
          obtain ⟨j, rfl⟩ := Int.eq_ofNat_of_zero_le hlr.1
          have hj : j < has.length := by omega
          have ho : has[j]? = some has[j] := List.getElem?_eq_getElem hj
          have hhd : hadB has (j : Int) = liveSb has [] has[j] := by
            unfold hadB; rw [Int.toNat_natCast, List.getD_eq_getElem?_getD, ho]; rfl
          have hol := HC.out.2.2.1 _ (List.getElem_mem hj)
          have hor := HC.out.2.2.2.1.2 _ (List.getElem_mem hj)
          obtain ⟨o, hoe⟩ : ∃ o, o = has[j] := ⟨_, rfl⟩
          rw [← hoe] at ho hhd hol hor
          have hear : ∀ e ∈ r1, ∃ m : Nat, e = (m : Int) ∧ (liveSb has [] o)[m]? = some false := fun e he => by
            have h1 := HC.out.2.2.2.2.1 _ (HR.out.2.1 r1 HM.out.1 _ he)
            obtain ⟨m, rfl⟩ := Int.eq_ofNat_of_zero_le h1.1
            have h2 := hlo _ he
            unfold hadF at h2
            rw [hhd, Int.toNat_natCast, List.getD_eq_getElem?_getD, List.getElem?_eq_getElem (by rw [liveSb_length]; omega)] at h2
            exact ⟨m, rfl, by rw [List.getElem?_eq_getElem (by rw [liveSb_length]; omega)]; simpa using h2⟩
          have hb0 : ([B0] : ZH)[0]? = some (.box [.fz 1 false (has.map eL), .fz 1 false (roots.map eI)]) := by rw [HB0.out]; rfl
          have HEA := Lib.hid hear
          have HO := Lib.hid (And.intro hol hor)
          clear hq hlr hlo hhd hoe hol hor hear
          repeat' (first | (simp only [zmPack, zxPack, ne_eq, zfree, owners, Nat.reduceLT, List.contains_cons, List.contains_nil, Nat.reduceBEq, BEq.rfl, chunk, setAt, List.lookup_cons, List.lookup_nil, reduceCtorEq, Nat.reduceEqDiff, reduceIte, implies_true, forall_const, Nat.reduceMul, Nat.reduceSub, Nat.reduceAdd, Nat.reduceLeDiff, hx, ho, hj, hb0, *]) | (simp only [zgoO, zgoG, zO_nil, zthen_normal, zgoC]) | (with_reducible apply And.intro) | (with_reducible intro _))
          refine rfrom_z (l := o) rows_fz rfl rfl rows_fz (by have := HC.out.1; omega) (by have := HO.out.1; omega) (fun a ha => by have := HC.out.2.2.1 a ha; omega) HC.out.2.2.2.1 HO.out.2 (fun _ => rows_fz) (fun _ => rows_fz) fun ex => ?_
          obtain ⟨hb, hbe⟩ : ∃ hb, hb = liveSb has [] o := ⟨_, rfl⟩
          rw [← hbe] at HEA ⊢
          clear hbe hx ho
          repeat' (first | (simp only [zmPack, zxPack, ne_eq, zfree, owners, Nat.reduceLT, List.contains_cons, List.contains_nil, Nat.reduceBEq, BEq.rfl, chunk, setAt, List.lookup_cons, List.lookup_nil, reduceCtorEq, Nat.reduceEqDiff, reduceIte, implies_true, forall_const, Nat.reduceMul, Nat.reduceSub, Nat.reduceAdd, Nat.reduceLeDiff, hr1, *]) | (simp only [zgoO, zgoG, zO_nil, zthen_normal, zgoC]) | (with_reducible apply And.intro) | (with_reducible intro _))
          refine zW_forK [(57, zI r1), (11, .fz 1 ex (hb.map eB)), (5, .fz 1 false (rs.map eL)), (7, Z64 (i : Nat)), (8, Z64 (k : Nat)), (2, .ptr 0 0)] r1.length (fun _ _ W => W = [B0]) (by have := HR.out.2.2.2 r1 HM.out.1; omega) ⟨rfl, rfl, rfl, rfl, rfl, rfl⟩ rfl rfl (by repeat' (first | exact trivial | (refine ⟨rfl, ?_⟩) | (refine ⟨by simp only [zupd_at, Nat.reduceEqDiff, reduceIte]; assumption, ?_⟩))) rfl rfl (by decide) rfl ?_ ?_
          · rintro e s4 h4 he rfl hi4 hl4 ⟨f57, f11, -⟩
            have hy : r1[e]? = some r1[e] := List.getElem?_eq_getElem he
            obtain ⟨m, hm, hmf⟩ := HEA.out _ (List.getElem_mem he)
            rw [hm] at hy
            have hml : m < hb.length := (List.getElem?_eq_some_iff.1 hmf).1
            clear hm
            repeat' (first | (simp only [zmPack, zxPack, ne_eq, zfree, owners, Nat.reduceLT, List.contains_cons, List.contains_nil, Nat.reduceBEq, BEq.rfl, chunk, setAt, List.lookup_cons, List.lookup_nil, reduceCtorEq, Nat.reduceEqDiff, reduceIte, implies_true, forall_const, Nat.reduceMul, Nat.reduceSub, Nat.reduceAdd, Nat.reduceLeDiff, hy, hmf, hml, *]) | (simp only [zgoO, zgoG, zO_nil, zthen_normal, zgoC]) | (with_reducible apply And.intro) | (with_reducible intro _))
          · rintro s4 h4 rfl ⟨f57, f11, g5, g7, g8, g2, -⟩
            repeat' (first | (simp only [zmPack, zxPack, ne_eq, zfree, owners, Nat.reduceLT, List.contains_cons, List.contains_nil, Nat.reduceBEq, BEq.rfl, chunk, setAt, List.lookup_cons, List.lookup_nil, reduceCtorEq, Nat.reduceEqDiff, reduceIte, implies_true, forall_const, Nat.reduceMul, Nat.reduceSub, Nat.reduceAdd, Nat.reduceLeDiff, *]) | (simp only [zgoO, zgoG, zO_nil, zthen_normal, zgoC]) | (with_reducible apply And.intro) | (with_reducible intro _))
        · rintro s3 h3 rfl ⟨f41, g5, g7, g8, g2, -⟩
          have wk := HWK.out.1
          have hfin := HWK.out.2.1
          have hik1 : i < k + 1 := by have := HWK.out.2.2; omega
          repeat' (first | (simp only [zmPack, zxPack, ne_eq, zfree, owners, Nat.reduceLT, List.contains_cons, List.contains_nil, Nat.reduceBEq, BEq.rfl, chunk, setAt, List.lookup_cons, List.lookup_nil, reduceCtorEq, Nat.reduceEqDiff, reduceIte, implies_true, forall_const, Nat.reduceMul, Nat.reduceSub, Nat.reduceAdd, Nat.reduceLeDiff, wk, *]) | (simp only [zgoO, zgoG, zO_nil, zthen_normal, zgoC]) | (with_reducible apply And.intro) | (with_reducible intro _))
          all_goals first | exact ⟨_, hfin, _, rfl, hik1, rfl⟩ | exact ⟨_, hfin, _, rfl, rfl, hik1, rfl⟩ | fail
      · have g1 : ¬ (k : Int) < (rs.length : Int) := by omega
        repeat' (first | (simp only [zmPack, zxPack, ne_eq, zfree, owners, Nat.reduceLT, List.contains_cons, List.contains_nil, Nat.reduceBEq, BEq.rfl, chunk, setAt, List.lookup_cons, List.lookup_nil, reduceCtorEq, Nat.reduceEqDiff, reduceIte, implies_true, forall_const, Nat.reduceMul, Nat.reduceSub, Nat.reduceAdd, Nat.reduceLeDiff, g1, *]) | (simp only [zgoO, zgoG, zO_nil, zthen_normal, zgoC]) | (with_reducible apply And.intro) | (with_reducible intro _))
        all_goals fail
    · rintro s' h' rfl ⟨f25, f5, f2, -⟩
      repeat' (first | (simp only [zmPack, zxPack, ne_eq, zfree, owners, Nat.reduceLT, List.contains_cons, List.contains_nil, Nat.reduceBEq, BEq.rfl, chunk, setAt, List.lookup_cons, List.lookup_nil, reduceCtorEq, Nat.reduceEqDiff, reduceIte, implies_true, forall_const, Nat.reduceMul, Nat.reduceSub, Nat.reduceAdd, Nat.reduceLeDiff, *]) | (simp only [zgoO, zgoG, zO_nil, zthen_normal, zgoC]) | (with_reducible apply And.intro) | (with_reducible intro _))
      refine yes_z ?_
      have fin := FI.out
      repeat' (first | (simp only [zmPack, zxPack, ne_eq, zfree, owners, Nat.reduceLT, List.contains_cons, List.contains_nil, Nat.reduceBEq, BEq.rfl, chunk, setAt, List.lookup_cons, List.lookup_nil, reduceCtorEq, Nat.reduceEqDiff, reduceIte, implies_true, forall_const, Nat.reduceMul, Nat.reduceSub, Nat.reduceAdd, Nat.reduceLeDiff, *]) | (simp only [zgoO, zgoG, zO_nil, zthen_normal, zgoC]) | (with_reducible apply And.intro) | (with_reducible intro _))
end Go.Proofs.Ytfmllmcjinjfaaa

namespace Go.Proofs.Ytfmllmcjinjfaaa
open Go Go.RowKit Go.ChangeShapes Go.WideShapes Go.ChangeAt
set_option linter.unusedVariables false
set_option linter.unusedSimpArgs false
set_option maxRecDepth 100000 in
theorem endsorder_lifted (os : Os) (started : os.Started) (H : Type) (enc : TypeId × Value → H) :
    ReturnsInHanded {} Try.checked os 7 .any (Rows.endsOrderSpec.pre6 enc Try.prog Try.f7 Rows.endsOrderRow.domain false) (Rows.endsOrderSpec.post enc Try.prog Try.f7 false true false false) := by
  refine law_lifted (C := Try.checked) 12 [(true, .prod (.slice 24 (.slice 8 (.int .i64))) (.slice 8 (.int .i64))), (false, .slice 8 (.int .i64))] 4 Try.own Try.laidOut started (by kernel_rfl) Try.func7
    (ChangeSpec.witness6 (enc := enc) (C := Try.checked) false ⟨#[], #[.agg #[.slice none 0 0, .slice none 0 0], .slice none 0 0], []⟩ 8 (by kernel_rfl) (by kernel_rfl) (by kernel_rfl) (by kernel_rfl))
    rfl (by kernel_rfl) Try.underlying4 (fun ds h => ?_) (by kernel_rfl) (by kernel_rfl) (fun W args h => ?_)
  · match ds, h with
    | [d0, d1], _ => rfl
  · refine zm_walk (by kernel_rfl) (constX_ok (n := 1000) (F := cFunc Try.prog) (by kernel_rfl) (fun f af h => h) tbE (by intro p hp; rw [List.mem_singleton.1 hp]; kernel_rfl)) (fun f af h => h) rfl (fun zl hz => ?_) W args h
    obtain ⟨g, _, rfl, hg, sg, l, _, rfl, hl, sl, rfl⟩ := hz
    exact endsorder_z (has := g.1) (roots := g.2) (l := l)
theorem endsorder_holds : Rows.EndsOrderSaid :=
  OpenClaim.holds_of_wide 7 Try.f7 rfl rfl rfl rfl rfl rfl rfl ⟨rfl, rfl, rfl, rfl, rfl⟩ rfl rfl rfl rfl rfl (by kernel_rfl) Try.func7 (by kernel_rfl) (of_decide_eq_true (by kernel_rfl)) (by unfold Func.isWrapper; first | (rw [if_pos (by decide +kernel)]; kernel_rfl) | (rw [if_neg (by decide +kernel)]; exact ⟨rfl, rfl⟩))
    (fun os started H enc _ => endsorder_lifted os started H enc)
end Go.Proofs.Ytfmllmcjinjfaaa
