/-
  Proved: the law EndsStay answers true, whatever the input: what stays for ends is what these have, in turn; with all of it held nothing more is due of them.
-/
import Derived.Test.YtfmllmcjinjfaaaMrS9
namespace Go.Proofs.Ytfmllmcjinjfaaa
open Go Go.RowKit
set_option linter.unusedVariables false
set_option linter.unusedSimpArgs false
abbrev tbE : List (FuncId × Bool) := [(16, true)]
theorem yes_z {L : Nat → Bool} {H : ZH} {K : ZV → ZH → Prop} (k : K (ZBo true) H) : ZC (constX tbE) (cFunc Try.prog) 16 [] L H K :=
  ZC.const (fun args fl hp ha => constX_some (l := tbE) (f := 16) (b := true) rfl args fl hp ha) k
variable {has : List (List Int)} {roots l : List Int}
theorem Sn_need {n : Nat} : Sn (needL has roots) n ↔ n < has.length ∧ Liv has [] roots n := Sn_liveSb ..
theorem mem_stay {x : Int} : x ∈ stayL has roots l ↔ 0 ≤ x ∧ x.toNat < has.length ∧ Liv has [] (dueL (needL has roots) l) x.toNat ∧ ¬ Liv has [] roots x.toNat := by
  unfold stayL
  rw [mem_rising, Sn_andB (by rw [liveSb_length]; exact (liveSb_length ..).symm), Sn_liveSb, Sn_need]
  constructor
  · rintro ⟨h0, ⟨h1, h2⟩, h3⟩; exact ⟨h0, h1, h2, fun h => h3 ⟨h1, h⟩⟩
  · rintro ⟨h0, h1, h2, h3⟩; exact ⟨h0, ⟨h1, h2⟩, fun h => h3 h.2⟩
theorem liv_none {n : Nat} : ¬ Liv has [] [] n := fun h => h (fun _ => False) (fun _ h => h.elim) (fun p hp => by cases hp) (fun x hx => by cases hx)
theorem stay_len : (stayL has roots l).length ≤ has.length := by
  unfold stayL rising
  have := riseTo_length (andB (liveSb has [] (dueL (needL has roots) l)) (needL has roots)) (andB (liveSb has [] (dueL (needL has roots) l)) (needL has roots)).length
  rw [andB_len (by rw [liveSb_length]; exact (liveSb_length ..).symm), liveSb_length] at this
  rw [andB_len (by rw [liveSb_length]; exact (liveSb_length ..).symm), liveSb_length]
  omega
theorem held_due (h : ∀ n ∈ l, 0 ≤ n ∧ n < (has.length : Int)) : dueL (needL has (roots ++ dueL (needL has roots) l)) (dueL (needL has roots) l) = [] := by
  refine List.eq_nil_iff_forall_not_mem.2 fun x hx => ?_
  obtain ⟨h1, h2⟩ := mem_due.1 hx
  have h3 := h x (mem_due.1 h1).1
  exact h2 (Sn_need.2 ⟨by omega, Liv.base (List.mem_append_right _ h1)⟩)
theorem held_stay (h : ∀ n ∈ l, 0 ≤ n ∧ n < (has.length : Int)) : stayL has (roots ++ dueL (needL has roots) l) (dueL (needL has roots) l) = [] := by
  refine List.eq_nil_iff_forall_not_mem.2 fun x hx => ?_
  have := (mem_stay.1 hx).2.2.1
  rw [held_due h] at this
  exact liv_none this
set_option maxHeartbeats 8000000 in
theorem endsstay_z : ZC (constX tbE) (cFunc Try.prog) 6 [.agg [.fz 1 false (has.map eL), .fz 1 false (roots.map eI)], .fz 1 false (l.map eI)] (fun _ => true) [] fun z _ => z = ZBo true := by
  refine ZC.enter ⟨[], [], [34]⟩ (fun args fl hp ha => constX_none (l := tbE) (f := 6) (by decide) args fl hp ha) f_en_stay (by simp) ?_
  simp only [c_en_stay]
  have fin : ∀ X, Fin [] (ZBo true) X (fun z _ => z = ZBo true) := fun X => Fin.trunc (Mods.ext [] X) rfl rfl
  have FI := Lib.hid fin
  clear fin
  repeat' (first | (simp only [zmPack, zxPack, ne_eq, zfree, owners, Nat.reduceLT, List.contains_cons, List.contains_nil, Nat.reduceBEq, BEq.rfl, chunk, setAt, List.lookup_cons, List.lookup_nil, reduceCtorEq, Nat.reduceEqDiff, reduceIte, implies_true, forall_const, Nat.reduceMul, Nat.reduceSub, Nat.reduceAdd, Nat.reduceLeDiff, *]) | (simp only [zgoO, zgoG, zO_nil, zthen_normal, zgoC]) | (with_reducible apply And.intro) | (with_reducible intro _))
  refine yes_z ?_
  repeat' (first | (simp only [zmPack, zxPack, ne_eq, zfree, owners, Nat.reduceLT, List.contains_cons, List.contains_nil, Nat.reduceBEq, BEq.rfl, chunk, setAt, List.lookup_cons, List.lookup_nil, reduceCtorEq, Nat.reduceEqDiff, reduceIte, implies_true, forall_const, Nat.reduceMul, Nat.reduceSub, Nat.reduceAdd, Nat.reduceLeDiff, *]) | (simp only [zgoO, zgoG, zO_nil, zthen_normal, zgoC]) | (with_reducible apply And.intro) | (with_reducible intro _))
  refine duex_z (fun hne => ?_) (fun he => ?_)
  · obtain ⟨c, hc⟩ : ∃ c, c = dueE has roots l := ⟨_, rfl⟩
    rw [← hc] at hne ⊢
    clear hc
    repeat' (first | (simp only [zmPack, zxPack, ne_eq, zfree, owners, Nat.reduceLT, List.contains_cons, List.contains_nil, Nat.reduceBEq, BEq.rfl, chunk, setAt, List.lookup_cons, List.lookup_nil, reduceCtorEq, Nat.reduceEqDiff, reduceIte, implies_true, forall_const, Nat.reduceMul, Nat.reduceSub, Nat.reduceAdd, Nat.reduceLeDiff, hne, *]) | (simp only [zgoO, zgoG, zO_nil, zthen_normal, zgoC]) | (with_reducible apply And.intro) | (with_reducible intro _))
    refine yes_z ?_
    have fin := FI.out
    repeat' (first | (simp only [zmPack, zxPack, ne_eq, zfree, owners, Nat.reduceLT, List.contains_cons, List.contains_nil, Nat.reduceBEq, BEq.rfl, chunk, setAt, List.lookup_cons, List.lookup_nil, reduceCtorEq, Nat.reduceEqDiff, reduceIte, implies_true, forall_const, Nat.reduceMul, Nat.reduceSub, Nat.reduceAdd, Nat.reduceLeDiff, *]) | (simp only [zgoO, zgoG, zO_nil, zthen_normal, zgoC]) | (with_reducible apply And.intro) | (with_reducible intro _))
  · obtain ⟨q1, q2, q3⟩ := dueE_zero he
    obtain ⟨c1, c2, c3, c4, c5⟩ := checkE_zero q1
    have hdl := due_len (nb := needL has roots) (l := l)
    have hd0 := held_due (roots := roots) q3
    have hs0 := held_stay (roots := roots) q3
    have hst : ∀ x ∈ stayL has roots l, 0 ≤ x ∧ x.toNat < has.length ∧ Liv has [] (dueL (needL has roots) l) x.toNat := fun x hx => ⟨(mem_stay.1 hx).1, (mem_stay.1 hx).2.1, (mem_stay.1 hx).2.2.1⟩
    have hsl := stay_len (has := has) (roots := roots) (l := l)
    obtain ⟨d, hd⟩ : ∃ d, d = dueL (needL has roots) l := ⟨_, rfl⟩
    rw [← hd] at hdl hd0 hs0 hst ⊢
    obtain ⟨st, hst2⟩ : ∃ st, st = stayL has roots l := ⟨_, rfl⟩
    rw [← hst2] at hst hsl ⊢
    have HC := Lib.hid (And.intro c1 (And.intro c2 (And.intro c3 (And.intro c4 (And.intro c5 (And.intro q2 hdl))))))
    have HD := Lib.hid (And.intro hd0 hs0)
    have HST := Lib.hid (And.intro hst hsl)
    clear c1 c2 c3 c4 c5 q1 q2 q3 hdl hd0 hs0 hst hsl hd hst2 he
    repeat' (first | (simp only [zmPack, zxPack, ne_eq, zfree, owners, Nat.reduceLT, List.contains_cons, List.contains_nil, Nat.reduceBEq, BEq.rfl, chunk, setAt, List.lookup_cons, List.lookup_nil, reduceCtorEq, Nat.reduceEqDiff, reduceIte, implies_true, forall_const, Nat.reduceMul, Nat.reduceSub, Nat.reduceAdd, Nat.reduceLeDiff, *]) | (simp only [zgoO, zgoG, zO_nil, zthen_normal, zgoC]) | (with_reducible apply And.intro) | (with_reducible intro _))
    refine copyint_z rows_fz (by have := HC.out.2.1; omega) ?_
    have hre : (roots.length + d.length) * 8 ≤ reach := by have := HC.out.2.1; have := HC.out.2.2.2.2.2.1; have := HC.out.2.2.2.2.2.2; unfold reach; omega
    have hpu : (roots.map eI ++ d.map eI).flatten.all pureZ = true := mv_pure fun r hr => by
      rcases List.mem_append.1 hr with hr | hr <;> (obtain ⟨x, _, rfl⟩ := List.mem_map.1 hr; rfl)
    have htk : List.take (roots.length + d.length) (roots.map eI ++ d.map eI) = (roots ++ d).map eI := by rw [← List.map_append, List.take_of_length_le (by simp)]
    have hba : ∀ x ∈ d, x ∈ roots ++ d := fun x hx => List.mem_append_right _ hx
    have hrl : (roots ++ d).length ≤ 200 := by rw [List.length_append]; have := HC.out.2.1; have := HC.out.2.2.2.2.2.1; have := HC.out.2.2.2.2.2.2; omega
    obtain ⟨rs, hrs⟩ : ∃ rs, rs = roots ++ d := ⟨_, rfl⟩
    rw [← hrs] at htk hrl HD hba
    have HRL := Lib.hid hrl
    have HBA := Lib.hid hba
    clear hrs hrl hba
    repeat' (first | (simp only [zmPack, zxPack, ne_eq, zfree, owners, Nat.reduceLT, List.contains_cons, List.contains_nil, Nat.reduceBEq, BEq.rfl, chunk, setAt, List.lookup_cons, List.lookup_nil, reduceCtorEq, Nat.reduceEqDiff, reduceIte, implies_true, forall_const, Nat.reduceMul, Nat.reduceSub, Nat.reduceAdd, Nat.reduceLeDiff, hre, hpu, htk, *]) | (simp only [zgoO, zgoG, zO_nil, zthen_normal, zgoC]) | (with_reducible apply And.intro) | (with_reducible intro _))
    refine duex_z (fun hne => ?_) (fun he => ?_)
    · obtain ⟨c, hc⟩ : ∃ c, c = dueE has rs d := ⟨_, rfl⟩
      rw [← hc] at hne ⊢
      clear hc htk hre hpu
      repeat' (first | (simp only [zmPack, zxPack, ne_eq, zfree, owners, Nat.reduceLT, List.contains_cons, List.contains_nil, Nat.reduceBEq, BEq.rfl, chunk, setAt, List.lookup_cons, List.lookup_nil, reduceCtorEq, Nat.reduceEqDiff, reduceIte, implies_true, forall_const, Nat.reduceMul, Nat.reduceSub, Nat.reduceAdd, Nat.reduceLeDiff, *]) | (simp only [zgoO, zgoG, zO_nil, zthen_normal, zgoC]) | (with_reducible apply And.intro) | (with_reducible intro _))
      refine needed_z rows_fz rows_fz fun nl hnl => ?_
      clear hnl
      obtain ⟨c2, hc2⟩ : ∃ c2, c2 = checkE has rs := ⟨_, rfl⟩
      rw [← hc2]
      clear hc2
      repeat' (first | (simp only [zmPack, zxPack, ne_eq, zfree, owners, Nat.reduceLT, List.contains_cons, List.contains_nil, Nat.reduceBEq, BEq.rfl, chunk, setAt, List.lookup_cons, List.lookup_nil, reduceCtorEq, Nat.reduceEqDiff, reduceIte, implies_true, forall_const, Nat.reduceMul, Nat.reduceSub, Nat.reduceAdd, Nat.reduceLeDiff, hne, *]) | (simp only [zgoO, zgoG, zO_nil, zthen_normal, zgoC]) | (with_reducible apply And.intro) | (with_reducible intro _))
      refine yes_z ?_
      have fin := FI.out
      repeat' (first | (simp only [zmPack, zxPack, ne_eq, zfree, owners, Nat.reduceLT, List.contains_cons, List.contains_nil, Nat.reduceBEq, BEq.rfl, chunk, setAt, List.lookup_cons, List.lookup_nil, reduceCtorEq, Nat.reduceEqDiff, reduceIte, implies_true, forall_const, Nat.reduceMul, Nat.reduceSub, Nat.reduceAdd, Nat.reduceLeDiff, *]) | (simp only [zgoO, zgoG, zO_nil, zthen_normal, zgoC]) | (with_reducible apply And.intro) | (with_reducible intro _))
    · obtain ⟨p1, p2, p3⟩ := dueE_zero he
      rw [HD.out.1, HD.out.2]
      clear htk hre hpu
      have HP := Lib.hid p1
      clear p2 p3 he p1
      repeat' (first | (simp only [zmPack, zxPack, ne_eq, zfree, owners, Nat.reduceLT, List.contains_cons, List.contains_nil, Nat.reduceBEq, BEq.rfl, chunk, setAt, List.lookup_cons, List.lookup_nil, reduceCtorEq, Nat.reduceEqDiff, reduceIte, implies_true, forall_const, Nat.reduceMul, Nat.reduceSub, Nat.reduceAdd, Nat.reduceLeDiff, *]) | (simp only [zgoO, zgoG, zO_nil, zthen_normal, zgoC]) | (with_reducible apply And.intro) | (with_reducible intro _))
      refine needed_z rows_fz rows_fz fun nl hnl => ?_
      rw [HP.out, if_pos rfl] at hnl
      rw [HP.out]
      have hin : ∀ x ∈ st, x ∈ nl := fun x hx => by
        obtain ⟨h0, h1, h2⟩ := HST.out.1 x hx
        rw [hnl]
        exact mem_liveL.2 ⟨h0, by omega, h2.mono (fun p hp => by cases hp) HBA.out⟩
      have hnll : nl.length ≤ 1000000 := by
        rw [hnl]
        have := liveL_length has [] rs
        have := HC.out.1; omega
      have HIN := Lib.hid hin
      have HNL := Lib.hid hnll
      clear hnl hin hnll
      repeat' (first | (simp only [zmPack, zxPack, ne_eq, zfree, owners, Nat.reduceLT, List.contains_cons, List.contains_nil, Nat.reduceBEq, BEq.rfl, chunk, setAt, List.lookup_cons, List.lookup_nil, reduceCtorEq, Nat.reduceEqDiff, reduceIte, implies_true, forall_const, Nat.reduceMul, Nat.reduceSub, Nat.reduceAdd, Nat.reduceLeDiff, *]) | (simp only [zgoO, zgoG, zO_nil, zthen_normal, zgoC]) | (with_reducible apply And.intro) | (with_reducible intro _))
      refine zW_forK [(51, .fz 1 false (st.map eI)), (12, .own 3 0 0 nl.length false), (9, .fz 1 false []), (10, .fz 1 false []), (13, Z64 0)] st.length (fun _ _ W => W = _) (by have := HST.out.2; have := HC.out.1; omega) ⟨rfl, rfl, rfl, rfl, rfl, rfl⟩ rfl rfl (by repeat' (first | exact trivial | (refine ⟨rfl, ?_⟩) | (refine ⟨by simp only [zupd_at, Nat.reduceEqDiff, reduceIte]; assumption, ?_⟩))) rfl rfl (by decide) rfl ?_ ?_
      · rintro k s' h' hk rfl hi hl ⟨f51, f12, f9, f10, f13, -⟩
        have hx : st[k]? = some st[k] := List.getElem?_eq_getElem hk
        have hm := HIN.out _ (List.getElem_mem hk)
        obtain ⟨x, hxe⟩ : ∃ x, x = st[k] := ⟨_, rfl⟩
        rw [← hxe] at hx hm
        have HM := Lib.hid hm
        clear hxe hm
        repeat' (first | (simp only [zmPack, zxPack, ne_eq, zfree, owners, Nat.reduceLT, List.contains_cons, List.contains_nil, Nat.reduceBEq, BEq.rfl, chunk, setAt, List.lookup_cons, List.lookup_nil, reduceCtorEq, Nat.reduceEqDiff, reduceIte, implies_true, forall_const, Nat.reduceMul, Nat.reduceSub, Nat.reduceAdd, Nat.reduceLeDiff, hx, *]) | (simp only [zgoO, zgoG, zO_nil, zthen_normal, zgoC]) | (with_reducible apply And.intro) | (with_reducible intro _))
        refine hasint_z (l := nl) (rows_whole rfl (by simp)) HNL.out ?_
        rw [decide_eq_true HM.out]
        repeat' (first | (simp only [zmPack, zxPack, ne_eq, zfree, owners, Nat.reduceLT, List.contains_cons, List.contains_nil, Nat.reduceBEq, BEq.rfl, chunk, setAt, List.lookup_cons, List.lookup_nil, reduceCtorEq, Nat.reduceEqDiff, reduceIte, implies_true, forall_const, Nat.reduceMul, Nat.reduceSub, Nat.reduceAdd, Nat.reduceLeDiff, *]) | (simp only [zgoO, zgoG, zO_nil, zthen_normal, zgoC]) | (with_reducible apply And.intro) | (with_reducible intro _))
      · rintro s' h' rfl ⟨f51, f12, f9, f10, f13, -⟩
        repeat' (first | (simp only [zmPack, zxPack, ne_eq, zfree, owners, Nat.reduceLT, List.contains_cons, List.contains_nil, Nat.reduceBEq, BEq.rfl, chunk, setAt, List.lookup_cons, List.lookup_nil, reduceCtorEq, Nat.reduceEqDiff, reduceIte, implies_true, forall_const, Nat.reduceMul, Nat.reduceSub, Nat.reduceAdd, Nat.reduceLeDiff, *]) | (simp only [zgoO, zgoG, zO_nil, zthen_normal, zgoC]) | (with_reducible apply And.intro) | (with_reducible intro _))
        refine yes_z ?_
        have fin := FI.out
        have z0 : ((0 : Nat) : Int) = 0 := rfl
        have w0 : IntKind.i64.wrap ((0 : Int) + 0) = 0 := rfl
        repeat' (first | (simp only [zmPack, zxPack, ne_eq, zfree, owners, Nat.reduceLT, List.contains_cons, List.contains_nil, Nat.reduceBEq, BEq.rfl, chunk, setAt, List.lookup_cons, List.lookup_nil, reduceCtorEq, Nat.reduceEqDiff, reduceIte, implies_true, forall_const, Nat.reduceMul, Nat.reduceSub, Nat.reduceAdd, Nat.reduceLeDiff, z0, w0, List.length_nil, *]) | (simp only [zgoO, zgoG, zO_nil, zthen_normal, zgoC]) | (with_reducible apply And.intro) | (with_reducible intro _))
end Go.Proofs.Ytfmllmcjinjfaaa

namespace Go.Proofs.Ytfmllmcjinjfaaa
open Go Go.RowKit Go.ChangeShapes Go.WideShapes Go.ChangeAt
set_option linter.unusedVariables false
set_option linter.unusedSimpArgs false
set_option maxRecDepth 100000 in
theorem endsstay_lifted (os : Os) (started : os.Started) (H : Type) (enc : TypeId × Value → H) :
    ReturnsInHanded {} Try.checked os 6 .any (Rows.endsStaySpec.pre6 enc Try.prog Try.f6 Rows.endsStayRow.domain false) (Rows.endsStaySpec.post enc Try.prog Try.f6 false true false false) := by
  refine law_lifted (C := Try.checked) 12 [(true, .prod (.slice 24 (.slice 8 (.int .i64))) (.slice 8 (.int .i64))), (false, .slice 8 (.int .i64))] 4 Try.own Try.laidOut started (by kernel_rfl) Try.func6
    (ChangeSpec.witness6 (enc := enc) (C := Try.checked) false ⟨#[], #[.agg #[.slice none 0 0, .slice none 0 0], .slice none 0 0], []⟩ 8 (by kernel_rfl) (by kernel_rfl) (by kernel_rfl) (by kernel_rfl))
    rfl (by kernel_rfl) Try.underlying4 (fun ds h => ?_) (by kernel_rfl) (by kernel_rfl) (fun W args h => ?_)
  · match ds, h with
    | [d0, d1], _ => rfl
  · refine zm_walk (by kernel_rfl) (constX_ok (n := 1000) (F := cFunc Try.prog) (by kernel_rfl) (fun f af h => h) tbE (by intro p hp; rw [List.mem_singleton.1 hp]; kernel_rfl)) (fun f af h => h) rfl (fun zl hz => ?_) W args h
    obtain ⟨g, _, rfl, hg, sg, l, _, rfl, hl, sl, rfl⟩ := hz
    exact endsstay_z (has := g.1) (roots := g.2) (l := l)
theorem endsstay_holds : Rows.EndsStaySaid :=
  OpenClaim.holds_of_wide 6 Try.f6 rfl rfl rfl rfl rfl rfl rfl ⟨rfl, rfl, rfl, rfl, rfl⟩ rfl rfl rfl rfl rfl (by kernel_rfl) Try.func6 (by kernel_rfl) (of_decide_eq_true (by kernel_rfl)) (by unfold Func.isWrapper; first | (rw [if_pos (by decide +kernel)]; kernel_rfl) | (rw [if_neg (by decide +kernel)]; exact ⟨rfl, rfl⟩))
    (fun os started H enc _ => endsstay_lifted os started H enc)
end Go.Proofs.Ytfmllmcjinjfaaa
