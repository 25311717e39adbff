/-
  order in ZM: one order, whole.
-/
import Derived.Test.YtmholkmghhkbhaaMrB8
set_option linter.unusedVariables false
set_option linter.unusedSimpArgs false
namespace Go.Proofs.Ytmholkmghhkbhaa
open Go Go.RowKit
variable {tb : List (FuncId × Bool)} {L : Nat → Bool} {H : ZH} {K : ZV → ZH → Prop}
theorem jjs {α : Type} {l : List α} {i : Nat} {a : α} (h : l[i]? = some a) : l.set i a = l := by
 apply List.ext_getElem?
 intro j
 rw [List.getElem?_set]
 by_cases e : i = j
 ·subst e
  have hi : i < l.length := (List.getElem?_eq_some_iff.1 h).1
  rw [if_pos rfl, if_pos hi, h]
 ·rw [if_neg e]
def wSet (H : ZH) (p q : Nat) (W : Wr) : ZH := (H.set q (.grow 0 1 (W.slots.map eB))).set p (.box (wBox q W))
theorem jl3 {W : Wr} {x : Rd} : (wrO W x).regs.length = W.regs.length ∧ (wrO W x).slots.length = W.slots.length := by
 unfold wrO
 constructor
 ·simp only; split <;> simp
 ·simp only; split <;> simp
theorem WAt.stS {p q : Nat} {W : Wr} (h : WAt H p q W) (hL : L q = true) {m : Nat} (hm : m < W.slots.length) : stZ L H [ZBo true] (.eptr q 0 m 0) = some (H.set q (.grow 0 1 ((W.slots.set m true).map eB))) := by
 rw [jmf]
 refine ⟨1, _, eB W.slots[m], h.sl, by rw [List.getElem?_map, List.getElem?_eq_getElem hm]; rfl, hL, by simp, ?_⟩
 rw [List.map_set]; rfl
theorem wBox_set {q : Nat} {W : Wr} {m : Nat} (h8 : W.regs.length = 8) (hm : m < 8) : jae (wBox q W) m [ZBo true] = wBox q ⟨W.regs.set m true, W.slots⟩ := by
 unfold wBox jae
 have e : ((W.regs.set m true).map ZBo ++ [ZV.own q 0 0 W.slots.length true]) = (W.regs.map ZBo ++ [ZV.own q 0 0 W.slots.length true]).set m (ZBo true) := by
  rw [List.set_append_left _ _ (by simp; omega), List.map_set]
 simp only
 rw [e, List.set_eq_take_append_cons_drop, if_pos (by simp; omega)]
 simp
theorem WAt.stR {p q : Nat} {W : Wr} (h : WAt H p q W) (hL : L p = true) {m : Nat} (hm : m < 8) : stZ L H [ZBo true] (.ptr p m) = some (H.set p (.box (wBox q ⟨W.regs.set m true, W.slots⟩))) := by
 rw [st_ptr]
 have h8 := h.len
 exact ⟨_, h.bx, hL, by simp [wBox]; omega, by rw [wBox_set h8 hm]⟩
theorem jl8 {q n : Nat} {W : Wr} (h : q < n) : jiD n (.box (wBox q W)) = true := by
 show (wBox q W).all (jbA n) = true
 unfold wBox
 rw [List.all_append]
 simp [jbA, h]
theorem jky {n : Nat} {l : List Bool} : jiD n (.grow 0 1 (l.map eB)) = true := by
 show (l.map eB).flatten.all (jbA n) = true
 induction l with
 | nil => rfl
 | cons a l ih => rw [List.map_cons, List.flatten_cons, List.all_append, ih]; rfl
theorem WAt.wSet {p q : Nat} {W W' : Wr} (h : WAt H p q W) (hpq : p ≠ q) (h8 : W'.regs.length = 8) : WAt (wSet H p q W') p q W' := by
 have hp := jas h.bx
 have hq := jas h.sl
 refine ⟨?_, ?_, h8⟩
 ·unfold Proofs.Ytmholkmghhkbhaa.wSet; rw [List.getElem?_set_self (by simp; exact hp)]
 ·unfold Proofs.Ytmholkmghhkbhaa.wSet; rw [List.getElem?_set_ne hpq, List.getElem?_set_self hq]
theorem jjp {p q : Nat} {W W' : Wr} (h : WAt H p q W) (Y : ZH) : wSet (H ++ Y) p q W' = wSet H p q W' ++ Y := by
 unfold wSet
 rw [List.set_append_left _ _ (jas h.sl), List.set_append_left _ _ (by rw [List.length_set]; exact jas h.bx)]
theorem wSet_len {p q : Nat} {W : Wr} : (wSet H p q W).length = H.length := by simp [wSet]
set_option maxHeartbeats 8000000 in
theorem order_z {p q : Nat} {W : Wr} {x : Rd} {c : Cd} (hW : WAt H p q W) (hpq : p ≠ q) (hsl : W.slots.length = c.sl.toNat) (hs3 : c.sl ≤ 300) (hlp : L p = true) (hlq : L q = true) (hxs : ∀ y ∈ c.exs, OXS y) (hnx : c.exs.length ≤ 200)
  (hbad : ∀ r, jbD W x c = r → r ≠ 0 → K (Z64 r) H) (hok : jbD W x c = 0 → K (Z64 0) (wSet H p q (wrO W x))) :
  ZC (boxY tb) (jap Try.prog) 28 [.ptr p 0, .agg (eRd x), .agg (eCd c)] L H K := by
 refine ZC.enterL Gh.no (jan (by decide)) jkY (by simp) fun hL => ?_
 simp only [jgC]
 have HB := Lib.hid (show ∀ r, jbD W x c = r → r ≠ 0 → ∀ X, Fin H (Z64 r) (H ++ X) K from fun r hr hr0 X => Fin.trunc (Mods.ext H X) rfl (by rw [List.take_left]; exact hbad r hr hr0))
 have hq' := jas hW.sl
 have HOK := Lib.hid (show jbD W x c = 0 → ∀ X, Fin H (Z64 0) (wSet H p q (wrO W x) ++ X) K from fun hr X => Fin.trunc (by rw [← jjp hW]; exact Mods.set (Mods.set (Mods.ext H X) jky) (jl8 hq')) rfl (by rw [show H.length = (wSet H p q (wrO W x)).length by rw [wSet_len], List.take_left]; exact hok hr))
 clear hbad hok
 have hxx := hxs
 have HXS := Lib.hid hxx
 clear hxs hxx
 have l0 : L H.length = true := hL 0
 have l1 : L (H.length + 1) = true := hL 1
 have l2 : L (H.length + 2) = true := hL 2
 have a00 : ∀ A Y, (H ++ (A :: Y))[H.length]? = some A := fun A Y => atN0 rfl A Y
 have a1 : ∀ A B Y, (H ++ (A :: B :: Y))[H.length + 1]? = some B := fun A B Y => atN1 rfl A B Y
 have a2 : ∀ A B C Y, (H ++ (A :: B :: C :: Y))[H.length + 2]? = some C := fun A B C Y => atN2 rfl A B C Y
 have s2 : ∀ A B C D Y, (H ++ (A :: B :: C :: Y)).set (H.length + 2) D = H ++ (A :: B :: D :: Y) := fun A B C D Y => stN2 rfl A B C D Y
 obtain ⟨op, a, b2, cc, n, e, kk, kn⟩ := x
 obtain ⟨fn, pl, lp, slc, ords, exs, turn, back, xo, xe⟩ := c
 have HW := Lib.hid hW
 have HSL := Lib.hid hsl
 clear hW hsl
 simp only at hs3 hnx
 repeat' (first | (simp only [zP, jaf, jaa, jad, jae, seval, Nat.reduceLeDiff, a00, a1, a2, l0, l1, l2, *]) | (simp only [jab]) | (with_reducible apply And.intro) | (with_reducible intro _))
 refine of_z ?_
 have hrd := jmI op
 have hB0 : (ofO op).2 = false → jbD W (op, a, b2, cc, n, e, kk, kn) ⟨fn, pl, lp, slc, ords, exs, turn, back, xo, xe⟩ = 7 := fun h => by unfold jbD; rw [if_pos h]
 have hB1 : (ofO op).2 = true → jcc (ofO op).1 (op, a, b2, cc, n, e, kk, kn) ⟨fn, pl, lp, slc, ords, exs, turn, back, xo, xe⟩ = false → jbD W (op, a, b2, cc, n, e, kk, kn) ⟨fn, pl, lp, slc, ords, exs, turn, back, xo, xe⟩ = 3 := fun h h1 => by unfold jbD; rw [if_neg (by rw [h]; simp), if_pos h1]
 have hB2 : (ofO op).2 = true → jcc (ofO op).1 (op, a, b2, cc, n, e, kk, kn) ⟨fn, pl, lp, slc, ords, exs, turn, back, xo, xe⟩ = true → (jeI (op, a, b2, cc, n, e, kk, kn)).any (fun r => !jep W r) = true → jbD W (op, a, b2, cc, n, e, kk, kn) ⟨fn, pl, lp, slc, ords, exs, turn, back, xo, xe⟩ = 3 := fun h h1 h2 => by unfold jbD; rw [if_neg (by rw [h]; simp), if_neg (by rw [h1]; simp), if_pos h2]
 have hB3 : (ofO op).2 = true → jcc (ofO op).1 (op, a, b2, cc, n, e, kk, kn) ⟨fn, pl, lp, slc, ords, exs, turn, back, xo, xe⟩ = true → (jeI (op, a, b2, cc, n, e, kk, kn)).any (fun r => !jep W r) = false → jbD W (op, a, b2, cc, n, e, kk, kn) ⟨fn, pl, lp, slc, ords, exs, turn, back, xo, xe⟩ = if badB W (op, a, b2, cc, n, e, kk, kn) ⟨fn, pl, lp, slc, ords, exs, turn, back, xo, xe⟩ = true then 3 else 0 := fun h h1 h2 => by unfold jbD badB; rw [if_neg (by rw [h]; simp), if_neg (by rw [h1]; simp), if_neg (by rw [h2]; simp)]
 have hwr : 0 ≤ jbg (op, a, b2, cc, n, e, kk, kn) → (ofO op).1.wr = true ∧ jbg (op, a, b2, cc, n, e, kk, kn) = a := fun h => by
  unfold jbg at h ⊢
  simp only at h ⊢
  split at h
  ·rename_i hw
   exact ⟨hw, by rw [if_pos hw]⟩
  ·omega
 have hlo : op = 3 ∨ op = 4 → (ofO op).1.lo = 0 := fun h => by rcases h with rfl | rfl; exact lo4.2; exact lo4.1
 generalize ofO op = fo at hrd hB0 hB1 hB2 hB3 hwr hlo ⊢
 obtain ⟨f, is⟩ := fo
 simp only at hrd hB0 hB1 hB2 hB3 hwr hlo
 have HRD := Lib.hid hrd
 have HB0 := Lib.hid hB0
 have HB1 := Lib.hid hB1
 have HB2 := Lib.hid hB2
 have HB3 := Lib.hid hB3
 have HWR := Lib.hid hwr
 have HLO := Lib.hid hlo
 clear hrd hB0 hB1 hB2 hB3 hwr hlo
 obtain ⟨rd, wr, lo, hi, nm, k2, ex⟩ := f
 cases is with
 | false =>
  have fin := HB.out 7 (HB0.out rfl) (by decide)
  repeat' (first | (simp only [zP, jaf, jaa, jad, jae, seval, Nat.reduceLeDiff, a00, a1, a2, s2, l0, l1, l2, *]) | (simp only [jab]) | (with_reducible apply And.intro) | (with_reducible intro _))
 | true =>
  repeat' (first | (simp only [zP, jaf, jaa, jad, jae, seval, Nat.reduceLeDiff, a00, a1, a2, s2, l0, l1, l2, *]) | (simp only [jab]) | (with_reducible apply And.intro) | (with_reducible intro _))
  refine right_z (f := ⟨rd, wr, lo, hi, nm, k2, ex⟩) (x := (op, a, b2, cc, n, e, kk, kn)) (c := ⟨fn, pl, lp, slc, ords, exs, turn, back, xo, xe⟩) HRD.out (by simp only; omega) ?_
  obtain ⟨rB, hrB⟩ : ∃ rB, rB = jcc ⟨rd, wr, lo, hi, nm, k2, ex⟩ (op, a, b2, cc, n, e, kk, kn) ⟨fn, pl, lp, slc, ords, exs, turn, back, xo, xe⟩ := ⟨_, rfl⟩
  rw [← hrB]
  have HR := Lib.hid hrB
  clear hrB
  cases rB with
  | false =>
   have fin := HB.out 3 (HB1.out rfl HR.out.symm) (by decide)
   repeat' (first | (simp only [zP, jaf, jaa, jad, jae, seval, Nat.reduceLeDiff, a00, a1, a2, s2, l0, l1, l2, *]) | (simp only [jab]) | (with_reducible apply And.intro) | (with_reducible intro _))
  | true =>
   repeat' (first | (simp only [zP, jaf, jaa, jad, jae, seval, Nat.reduceLeDiff, a00, a1, a2, s2, l0, l1, l2, *]) | (simp only [jab]) | (with_reducible apply And.intro) | (with_reducible intro _))
   refine reads_z (x := (op, a, b2, cc, n, e, kk, kn)) ?_
   obtain ⟨rs, hrs⟩ : ∃ rs, rs = jeI (op, a, b2, cc, n, e, kk, kn) := ⟨_, rfl⟩
   have hrl : rs.length ≤ 3 := by
    rw [hrs]; unfold jeI
    rw [List.length_map]
    exact (jft _ (jmI _)).2.2
   rw [← hrs] at HB2 HB3 ⊢
   clear hrs
   have hrl2 : rs.length < 9223372036854775807 := by omega
   repeat' (first | (simp only [zP, jaf, jaa, jad, jae, seval, Nat.reduceLeDiff, hrl, *]) | (simp only [jab]) | (with_reducible apply And.intro) | (with_reducible intro _))
   obtain ⟨Hc, hHc⟩ : ∃ Hc, Hc = H ++ [.box (eRd (op, a, b2, cc, n, e, kk, kn)), .box (eCd ⟨fn, pl, lp, slc, ords, exs, turn, back, xo, xe⟩), .box (eOF ⟨rd, wr, lo, hi, nm, k2, ex⟩)] := ⟨_, rfl⟩
   have wp : WAt Hc p q W := by rw [hHc]; exact HW.out.app _
   have c0 : Hc[H.length]? = some (.box (eRd (op, a, b2, cc, n, e, kk, kn))) := by rw [hHc]; exact atN0 rfl _ _
   have c1 : Hc[H.length + 1]? = some (.box (eCd ⟨fn, pl, lp, slc, ords, exs, turn, back, xo, xe⟩)) := by rw [hHc]; exact atN1 rfl _ _ _
   rw [← hHc]
   have HHC := Lib.hid hHc
   have HWP := Lib.hid wp
   have C0 := Lib.hid c0
   have C1 := Lib.hid c1
   clear hHc wp c0 c1
   have F3 := Lib.hid (show ∀ r, jbD W (op, a, b2, cc, n, e, kk, kn) ⟨fn, pl, lp, slc, ords, exs, turn, back, xo, xe⟩ = r → r ≠ 0 → Fin H (Z64 r) Hc K from fun r h1 h2 => by rw [HHC.out]; exact HB.out r h1 h2 _)
   refine jaP [(0, .ptr p 0), (4, .ptr H.length 0), (5, .ptr (H.length + 1) 0), (26, .fz 1 false (rs.map eI))] rs.length (fun k s' h' => h' = Hc ∧ jdY (fun r => !jep W r) (rs.take k)) (by omega) ⟨rfl, rfl, rfl, rfl, rfl, rfl⟩ rfl rfl (by repeat' (first | exact trivial | (refine ⟨rfl, ?_⟩) | (refine ⟨by simp only [jaE, Nat.reduceEqDiff, reduceIte]; assumption, ?_⟩))) rfl rfl (by decide) ⟨rfl, by simp [jdY]⟩ ?_ ?_
   ·rintro k s' h' hk ⟨rfl, hno⟩ hi2 hl2 ⟨f0, f4, f5, f26, -⟩
    have hx : rs[k]? = some rs[k] := List.getElem?_eq_getElem hk
    obtain ⟨r, hr⟩ : ∃ r, r = rs[k] := ⟨_, rfl⟩
    have hmem : r ∈ rs := by rw [hr]; exact List.getElem_mem hk
    have hsucc := Lib.hid (show jep W r = true → jdY (fun r => !jep W r) (rs.take (k + 1)) from fun h => by
     rw [List.take_succ_eq_append_getElem hk, ← hr]
     intro y hy
     rcases List.mem_append.1 hy with hy | hy
     ·exact hno y hy
     ·simp only [List.mem_cons, List.not_mem_nil, or_false] at hy
      subst hy; simp [h])
    have hfail := Lib.hid (show jep W r = false → rs.any (fun r => !jep W r) = true from fun h => List.any_eq_true.2 ⟨r, hmem, by simp [h]⟩)
    rw [← hr] at hx
    clear hno hr hmem
    repeat' (first | (simp only [zP, jaf, jaa, jad, jae, seval, Nat.reduceLeDiff, hx, f0, f26, *]) | (simp only [jab]) | (with_reducible apply And.intro) | (with_reducible intro _))
    refine jiS ?_
    have ap := HWP.out.bx
    by_cases q1 : 0 ≤ r ∧ r < 8
    ·have hn : natZ (Z64 r) = some r.toNat := jcv q1.1
     have hm : r.toNat < 8 := by omega
     have hg := HWP.out.reg hm
     have hreg : jep W r = W.regs.getD r.toNat false := by unfold jep; rw [decide_eq_true q1, Bool.true_and]
     generalize wBox q W = wb at ap hg
     generalize W.regs.getD r.toNat false = rb at hg hreg
     generalize r.toNat = m at hn hm hg
     have HREG := Lib.hid hreg
     clear hreg
     cases rb with
     | true =>
      repeat' (first | (simp only [zP, jaf, jaa, jad, jae, seval, Nat.reduceLeDiff, hx, f0, f26, ap, q1, hn, hm, hg, *]) | (simp only [jab]) | (with_reducible apply And.intro) | (with_reducible intro _))
      exact hsucc.out HREG.out
     | false =>
      have fin := F3.out 3 (HB2.out rfl HR.out.symm (hfail.out HREG.out)) (by decide)
      repeat' (first | (simp only [zP, jaf, jaa, jad, jae, seval, Nat.reduceLeDiff, hx, f0, f26, ap, q1, hn, hm, hg, *]) | (simp only [jab]) | (with_reducible apply And.intro) | (with_reducible intro _))
    ·have fin := F3.out 3 (HB2.out rfl HR.out.symm (hfail.out (by unfold jep; rw [decide_eq_false q1]; rfl))) (by decide)
     repeat' (first | (simp only [zP, jaf, jaa, jad, jae, seval, Nat.reduceLeDiff, hx, f0, f26, q1, *]) | (simp only [jab]) | (with_reducible apply And.intro) | (with_reducible intro _))
   ·rintro s' h' ⟨rfl, hno⟩ ⟨f0, f4, f5, f26, -⟩
    rw [List.take_of_length_le (Nat.le_refl _)] at hno
    have hany : rs.any (fun r => !jep W r) = false := by rw [List.any_eq_false]; intro y hy; have := hno y hy; simp only at this; rw [this]; simp
    have hrt := HR.out.symm
    have hob := HB3.out rfl hrt hany
    have hwl := jl3 (W := W) (x := (op, a, b2, cc, n, e, kk, kn))
    have hq1 : q < H.length := hq'
    refine oT1_z (W := W) (x := (op, a, b2, cc, n, e, kk, kn)) (c := ⟨fn, pl, lp, slc, ords, exs, turn, back, xo, xe⟩) (q := q) f0 f4 f5 C0.out C1.out HWP.out (by rw [HSL.out]; simp only; omega) (fun h => ?_) (fun h => right_ex hrt h) HXS.out (fun hb S' h6 => ?_) fun hb S' t0 t4 => ?_
    ·obtain ⟨u1, u2⟩ := jju hrt (.inr h)
     simp only at u1 u2 h ⊢
     have hl := HLO.out (.inr h)
     simp only at hl
     rw [hl] at u1
     rw [HSL.out]
     simp only
     omega
    ·have fin := F3.out 3 (by rw [hob, if_pos hb]) (by decide)
     show _ ∧ Fin H (S' 6) h' K
     rw [h6]
     exact ⟨.inr rfl, fin⟩
    ·have hob0 := hob.trans (if_neg (by rw [hb]; simp))
     have HO := HOK.out hob0
     obtain ⟨W1, hW1⟩ : ∃ W1, W1 = (⟨W.regs, (wrO W (op, a, b2, cc, n, e, kk, kn)).slots⟩ : Wr) := ⟨_, rfl⟩
     have hw8 := HW.out.len
     have hp' := jas HW.out.bx
     have hbe : wBox q W1 = wBox q W := by rw [hW1]; unfold wBox; simp only; rw [hwl.2]
     have h1c : WAt (h'.set q (.grow 0 1 (W1.slots.map eB))) p q W1 := by
      refine ⟨?_, ?_, by rw [hW1]; exact hw8⟩
      ·rw [List.getElem?_set_ne (Ne.symm hpq), hbe]; exact HWP.out.bx
      ·rw [List.getElem?_set_self (jas HWP.out.sl)]
     refine oT2_z (x := (op, a, b2, cc, n, e, kk, kn)) (Hc1 := h'.set q (.grow 0 1 (W1.slots.map eB))) (Hc2 := wSet h' p q (wrO W (op, a, b2, cc, n, e, kk, kn))) (nn := W.slots.length) (wb := wBox q W) (sl := W.slots.map eB) t0 t4 C0.out (by rw [List.getElem?_set_ne (by omega)]; exact C0.out) HWP.out.bx HWP.out.own HWP.out.sl (by simp) (fun h => ?_) (fun h => ?_) (fun h => ?_) (fun h => ?_) (fun S2 h6 => ?_)
     ·obtain ⟨u1, u2⟩ := jju hrt (.inl h)
      have hl := HLO.out (.inl h)
      simp only at u1 u2 h hl ⊢
      rw [hl] at u1
      have hm : n.toNat < W.slots.length := by rw [HSL.out]; simp only; omega
      refine ⟨u1, hm, ?_⟩
      rw [HWP.out.stS hlq hm, hW1]
      simp only [wrO, h, if_true]
     ·simp only at h
      rw [hW1]
      simp only [wrO]
      rw [if_neg h]
      exact jjs HWP.out.sl
     ·obtain ⟨v1, v2⟩ := HWR.out h
      have v3 := right_wr hrt v1
      simp only at v3
      have hm : (jbg (op, a, b2, cc, n, e, kk, kn)).toNat < 8 := by omega
      refine ⟨hm, ?_⟩
      rw [h1c.stR hlp hm]
      unfold wSet
      rw [hW1]
      simp only [wrO]
      rw [if_pos h]
     ·unfold wSet
      have hb2 : wBox q (wrO W (op, a, b2, cc, n, e, kk, kn)) = wBox q W1 := by
       rw [hW1]; unfold wBox; simp only [wrO]; rw [if_neg h]
      have hb3 : (wrO W (op, a, b2, cc, n, e, kk, kn)).slots = W1.slots := by rw [hW1]
      rw [hb2, hb3]
      exact jjs h1c.bx
     ·show _ ∧ Fin H (S2 6) (wSet h' p q _) K
      rw [h6, HHC.out, jjp HW.out]
      exact ⟨.inr rfl, HO _⟩
end Go.Proofs.Ytmholkmghhkbhaa

namespace Go.Proofs.Ytmholkmghhkbhaa
open Go Go.RowKit
variable {tb : List (FuncId × Bool)} {L : Nat → Bool} {H : ZH} {K : ZV → ZH → Prop}
def jef (m : OMk) : Bool := decide (100 < (m.2.2.2.2.length : Int))
def jc3 (x : OXt) : Bool := decide (60 < (x.2.2.1.length : Int)) || (decide (300 < (x.2.2.2.length : Int)) || x.2.2.2.any jef)
def jfY (x : OXt) : Bool := decide (x.1 = 0) && (decide (x.2.1 = 0) && (decide ((x.2.2.1.length : Int) = 0) && decide ((x.2.2.2.length : Int) = 0)))
structure OXB (x : OXt) : Prop where
  sets : x.2.2.1.length ≤ 100000000
  makes : x.2.2.2.length ≤ 100000000
  vals : ∀ m ∈ x.2.2.2, m.2.2.2.2.length ≤ 100000000
theorem large_ok {x : OXt} (h : jc3 x = false) : OXS x := by
 unfold jc3 at h
 simp only [Bool.or_eq_false_iff, decide_eq_false_iff_not, List.any_eq_false] at h
 obtain ⟨h1, h2, h3⟩ := h
 refine ⟨by omega, by omega, fun m hm => ?_⟩
 have := h3 m hm
 unfold jef at this
 simp only [decide_eq_true_eq] at this
 omega
theorem largea_z {m : OMk} (hm : m.2.2.2.2.length ≤ 100000000) (hK : K (ZBo (jef m)) H) : ZC (boxY tb) (jap Try.prog) 42 [zRM m] L H K := by
 obtain ⟨a, b, c, d, v⟩ := m
 refine ZC.enter Gh.no (jan (by decide)) ji0 (by simp) ?_
 simp only [jfU]
 have fin : ∀ X, Fin H (ZBo (jef (a, b, c, d, v))) (H ++ X) K := fun X => Fin.trunc (Mods.ext H X) rfl (by rw [List.take_left]; exact hK)
 unfold jef at fin
 simp only at hm fin
 clear hK
 have a00 : ∀ A Y, (H ++ (A :: Y))[H.length]? = some A := fun A Y => atN0 rfl A Y
 repeat' (first | (simp only [zP, jaf, jaa, jad, jae, seval, Nat.reduceLeDiff, a00, *]) | (simp only [jab]) | (with_reducible apply And.intro) | (with_reducible intro _))
set_option maxHeartbeats 4000000 in
theorem large_z {x : OXt} (hx : OXB x) (hK : K (ZBo (jc3 x)) H) : ZC (boxY tb) (jap Try.prog) 25 [zRX x] L H K := by
 obtain ⟨xa, xb, sets, makes⟩ := x
 refine ZC.enter Gh.no (jan (by decide)) jkZ (by simp) ?_
 simp only [jgD]
 have F0 := Lib.hid (show ∀ r, jc3 (xa, xb, sets, makes) = r → ∀ X, Fin H (ZBo r) (H ++ X) K from fun r hr X => Fin.trunc (Mods.ext H X) rfl (by rw [List.take_left, ← hr]; exact hK))
 clear hK
 have hs := hx.sets
 have hm := hx.makes
 have HV := Lib.hid hx.vals
 simp only at hs hm
 clear hx
 have a00 : ∀ A Y, (H ++ (A :: Y))[H.length]? = some A := fun A Y => atN0 rfl A Y
 by_cases q1 : (60 : Int) < (sets.length : Int)
 ·have fin := F0.out true (by simp only [jc3]; rw [decide_eq_true q1]; rfl)
  repeat' (first | (simp only [zP, jaf, jaa, jad, jae, seval, Nat.reduceLeDiff, a00, q1, *]) | (simp only [jab]) | (with_reducible apply And.intro) | (with_reducible intro _))
 ·by_cases q2 : (300 : Int) < (makes.length : Int)
  ·have fin := F0.out true (by simp only [jc3]; rw [decide_eq_true q2]; simp)
   repeat' (first | (simp only [zP, jaf, jaa, jad, jae, seval, Nat.reduceLeDiff, a00, q1, q2, *]) | (simp only [jab]) | (with_reducible apply And.intro) | (with_reducible intro _))
  ·repeat' (first | (simp only [zP, jaf, jaa, jad, jae, seval, Nat.reduceLeDiff, a00, q1, q2, *]) | (simp only [jab]) | (with_reducible apply And.intro) | (with_reducible intro _))
   refine cfM_z (p := jef) (by simp [jaX]) (by simp only; omega) (fun m hm K hK => largea_z (HV.out m hm) hK) ?_
   have fin := F0.out (makes.any jef) (by simp only [jc3]; rw [decide_eq_false q1, decide_eq_false q2]; rfl)
   generalize makes.any jef = bb at fin ⊢
   repeat' (first | (simp only [zP, jaf, jaa, jad, jae, seval, Nat.reduceLeDiff, a00, q1, q2, *]) | (simp only [jab]) | (with_reducible apply And.intro) | (with_reducible intro _))
set_option maxHeartbeats 4000000 in
theorem bare_z {x : OXt} (hx : OXB x) (hK : K (ZBo (jfY x)) H) : ZC (boxY tb) (jap Try.prog) 26 [zRX x] L H K := by
 obtain ⟨xa, xb, sets, makes⟩ := x
 refine ZC.enter Gh.no (jan (by decide)) jm4 (by simp) ?_
 simp only [jh9]
 have F0 := Lib.hid (show ∀ r, jfY (xa, xb, sets, makes) = r → ∀ X, Fin H (ZBo r) (H ++ X) K from fun r hr X => Fin.trunc (Mods.ext H X) rfl (by rw [List.take_left, ← hr]; exact hK))
 clear hK
 have hs := hx.sets
 have hm := hx.makes
 simp only at hs hm
 clear hx
 have a00 : ∀ A Y, (H ++ (A :: Y))[H.length]? = some A := fun A Y => atN0 rfl A Y
 have z0 : ((0 : Nat) : Int) = 0 := rfl
 have e0 : ∀ n : Int, n = n := fun _ => rfl
 clear e0
 by_cases q1 : xa = 0
 ·by_cases q2 : xb = 0
  ·by_cases q3 : (sets.length : Int) = 0
   ·by_cases q4 : (makes.length : Int) = 0
    ·have fin := F0.out true (by simp only [jfY]; rw [decide_eq_true q1, decide_eq_true q2, decide_eq_true q3, decide_eq_true q4]; rfl)
     clear hs hm
     repeat' (first | (simp only [zP, jaf, jaa, jad, jae, seval, Nat.reduceLeDiff, a00, q1, q2, q3, q4, *]) | (simp only [jab]) | (with_reducible apply And.intro) | (with_reducible intro _))
    ·have fin := F0.out false (by simp only [jfY]; rw [decide_eq_false q4]; simp)
     repeat' (first | (simp only [zP, jaf, jaa, jad, jae, seval, Nat.reduceLeDiff, a00, q1, q2, q3, q4, *]) | (simp only [jab]) | (with_reducible apply And.intro) | (with_reducible intro _))
   ·have fin := F0.out false (by simp only [jfY]; rw [decide_eq_false q3]; simp)
    repeat' (first | (simp only [zP, jaf, jaa, jad, jae, seval, Nat.reduceLeDiff, a00, q1, q2, q3, *]) | (simp only [jab]) | (with_reducible apply And.intro) | (with_reducible intro _))
  ·have fin := F0.out false (by simp only [jfY]; rw [decide_eq_false q2]; simp)
   repeat' (first | (simp only [zP, jaf, jaa, jad, jae, seval, Nat.reduceLeDiff, a00, q1, q2, *]) | (simp only [jab]) | (with_reducible apply And.intro) | (with_reducible intro _))
 ·have fin := F0.out false (by simp only [jfY]; rw [decide_eq_false q1]; simp)
  repeat' (first | (simp only [zP, jaf, jaa, jad, jae, seval, Nat.reduceLeDiff, a00, q1, *]) | (simp only [jab]) | (with_reducible apply And.intro) | (with_reducible intro _))
def jet (m : OMk) : Bool := decide (m.2.2.1 < 1) || (decide (3 < m.2.2.1) || (decide (m.2.2.2.1 < 0) || (decide (0 < m.2.2.2.1) && decide (m.2.2.1 ≠ 1))))
def jeT (slots : Int) (p : OPl) : Bool := !((decide (p.2 = -1) && decide (0 ≤ p.1 ∧ p.1 < 8)) || (decide (p.1 = -1) && (decide (0 ≤ p.2) && decide (p.2 < slots))))
def srt : Int → List OSt → Bool
  | _, [] => true
  | last, s :: r => !(decide (s.1 ≤ last) || decide (60 ≤ s.1)) && srt s.1 r
def jca (x : OXt) (slots : Int) : Bool := !(decide (x.1 < 0) || (decide (x.2.1 < 0) || decide (200 < x.2.1))) && (srt (-1) x.2.2.1 && (!x.2.2.2.any jet && !(plX x).any (jeT slots)))
set_option maxHeartbeats 4000000 in
theorem jm0 {m : OMk} (hK : K (ZBo (jet m)) H) : ZC (boxY tb) (jap Try.prog) 52 [zRM m] L H K := by
 obtain ⟨a, b, c, d, v⟩ := m
 refine ZC.enter Gh.no (jan (by decide)) jhZ (by simp) ?_
 simp only [jeQ]
 have F0 := Lib.hid (show ∀ r, jet (a, b, c, d, v) = r → ∀ X, Fin H (ZBo r) (H ++ X) K from fun r hr X => Fin.trunc (Mods.ext H X) rfl (by rw [List.take_left, ← hr]; exact hK))
 clear hK
 have a00 : ∀ A Y, (H ++ (A :: Y))[H.length]? = some A := fun A Y => atN0 rfl A Y
 by_cases q1 : c < 1
 ·have fin := F0.out true (by simp only [jet]; rw [decide_eq_true q1]; rfl)
  repeat' (first | (simp only [zP, jaf, jaa, jad, jae, seval, Nat.reduceLeDiff, a00, q1, *]) | (simp only [jab]) | (with_reducible apply And.intro) | (with_reducible intro _))
 ·by_cases q2 : 3 < c
  ·have fin := F0.out true (by simp only [jet]; rw [decide_eq_true q2]; simp)
   repeat' (first | (simp only [zP, jaf, jaa, jad, jae, seval, Nat.reduceLeDiff, a00, q1, q2, *]) | (simp only [jab]) | (with_reducible apply And.intro) | (with_reducible intro _))
  ·by_cases q3 : d < 0
   ·have fin := F0.out true (by simp only [jet]; rw [decide_eq_true q3]; simp)
    repeat' (first | (simp only [zP, jaf, jaa, jad, jae, seval, Nat.reduceLeDiff, a00, q1, q2, q3, *]) | (simp only [jab]) | (with_reducible apply And.intro) | (with_reducible intro _))
   ·by_cases q4 : 0 < d
    ·by_cases q5 : c = 1
     ·have fin := F0.out false (by simp only [jet]; rw [decide_eq_false q1, decide_eq_false q2, decide_eq_false q3, q5]; simp)
      subst q5
      have e1 : ¬ ((1 : Int) < 1) := by omega
      have e2 : ¬ ((3 : Int) < 1) := by omega
      repeat' (first | (simp only [zP, jaf, jaa, jad, jae, seval, Nat.reduceLeDiff, a00, q3, q4, e1, e2, *]) | (simp only [jab]) | (with_reducible apply And.intro) | (with_reducible intro _))
     ·have fin := F0.out true (by simp only [jet]; rw [decide_eq_true q4]; simp [q5])
      repeat' (first | (simp only [zP, jaf, jaa, jad, jae, seval, Nat.reduceLeDiff, a00, q1, q2, q3, q4, q5, *]) | (simp only [jab]) | (with_reducible apply And.intro) | (with_reducible intro _))
    ·have fin := F0.out false (by simp only [jet]; rw [decide_eq_false q1, decide_eq_false q2, decide_eq_false q3, decide_eq_false q4]; rfl)
     repeat' (first | (simp only [zP, jaf, jaa, jad, jae, seval, Nat.reduceLeDiff, a00, q1, q2, q3, q4, *]) | (simp only [jab]) | (with_reducible apply And.intro) | (with_reducible intro _))
set_option maxHeartbeats 8000000 in
theorem jmZ {p : OPl} {slots : Int} {b : Nat} (hb : H[b]? = some (.box [Z64 slots])) (hK : K (ZBo (jeT slots p)) H) : ZC (boxY tb) (jap Try.prog) 53 [zRP p, .ptr b 0] L H K := by
 obtain ⟨r, s⟩ := p
 refine ZC.enter Gh.no (jan (by decide)) jhY (by simp) ?_
 simp only [jeP]
 have F0 := Lib.hid (show ∀ u, jeT slots (r, s) = u → ∀ X, Fin H (ZBo u) (H ++ X) K from fun u hr X => Fin.trunc (Mods.ext H X) rfl (by rw [List.take_left, ← hr]; exact hK))
 clear hK
 have a00 : ∀ A Y, (H ++ (A :: Y))[H.length]? = some A := fun A Y => atN0 rfl A Y
 have ab : ∀ X, (H ++ X)[b]? = some (.box [Z64 slots]) := fun X => by rw [List.getElem?_append_left (jas hb)]; exact hb
 clear hb
 have m1 : ¬ ((0 : Int) ≤ -1) := by omega
 by_cases q1 : s = -1
 ·subst q1
  repeat' (first | (simp only [zP, jaf, jaa, jad, jae, seval, Nat.reduceLeDiff, a00, ab, *]) | (simp only [jab]) | (with_reducible apply And.intro) | (with_reducible intro _))
  refine jiS ?_
  by_cases q2 : 0 ≤ r ∧ r < 8
  ·have q3 : ¬ (r = -1) := by omega
   have fin := F0.out false (by simp [jeT, q2])
   repeat' (first | (simp only [zP, jaf, jaa, jad, jae, seval, Nat.reduceLeDiff, a00, ab, q2, *]) | (simp only [jab]) | (with_reducible apply And.intro) | (with_reducible intro _))
  ·have fin := F0.out true (by simp only [jeT]; rw [decide_eq_false q2, decide_eq_false m1]; simp)
   by_cases q3 : r = -1
   ·subst q3
    repeat' (first | (simp only [zP, jaf, jaa, jad, jae, seval, Nat.reduceLeDiff, a00, ab, q2, m1, *]) | (simp only [jab]) | (with_reducible apply And.intro) | (with_reducible intro _))
   ·repeat' (first | (simp only [zP, jaf, jaa, jad, jae, seval, Nat.reduceLeDiff, a00, ab, q2, q3, m1, *]) | (simp only [jab]) | (with_reducible apply And.intro) | (with_reducible intro _))
 ·by_cases q3 : r = -1
  ·subst q3
   by_cases q4 : 0 ≤ s
   ·have fin := F0.out (!decide (s < slots)) (by simp [jeT, q1, q4])
    by_cases q5 : s < slots
    ·rw [decide_eq_true q5, Bool.not_true] at fin
     repeat' (first | (simp only [zP, jaf, jaa, jad, jae, seval, Nat.reduceLeDiff, a00, ab, q1, q4, q5, *]) | (simp only [jab]) | (with_reducible apply And.intro) | (with_reducible intro _))
    ·rw [decide_eq_false q5, Bool.not_false] at fin
     repeat' (first | (simp only [zP, jaf, jaa, jad, jae, seval, Nat.reduceLeDiff, a00, ab, q1, q4, q5, *]) | (simp only [jab]) | (with_reducible apply And.intro) | (with_reducible intro _))
   ·have fin := F0.out true (by simp [jeT, q1, q4])
    repeat' (first | (simp only [zP, jaf, jaa, jad, jae, seval, Nat.reduceLeDiff, a00, ab, q1, q4, *]) | (simp only [jab]) | (with_reducible apply And.intro) | (with_reducible intro _))
  ·have fin := F0.out true (by simp [jeT, q1, q3])
   repeat' (first | (simp only [zP, jaf, jaa, jad, jae, seval, Nat.reduceLeDiff, a00, ab, q1, q3, *]) | (simp only [jab]) | (with_reducible apply And.intro) | (with_reducible intro _))
def SrtI (H : ZH) (A B : ZB) (sets : List OSt) (k : Nat) (s' : ZS) (h' : ZH) : Prop := ∃ last X, s' 5 = Z64 last ∧ srt (-1) sets = srt last (sets.drop k) ∧ h' = H ++ (A :: B :: X)
theorem srt_step {last : Int} {l : List OSt} {k : Nat} {s : OSt} (h : l[k]? = some s) : srt last (l.drop k) = (!(decide (s.1 ≤ last) || decide (60 ≤ s.1)) && srt s.1 (l.drop (k + 1))) := by
 have hk := (List.getElem?_eq_some_iff.1 h).1
 rw [List.drop_eq_getElem_cons hk]
 rw [List.getElem?_eq_getElem hk] at h
 injection h with h
 rw [h]; rfl
set_option maxHeartbeats 8000000 in
theorem formed_z {x : OXt} {slots : Int} (hx : OXS x) (hK : K (ZBo (jca x slots)) H) : ZC (boxY tb) (jap Try.prog) 30 [zRX x, Z64 slots] L H K := by
 obtain ⟨xa, xb, sets, makes⟩ := x
 refine ZC.enterL Gh.no (jan (by decide)) ji1 (by simp) fun hL => ?_
 simp only [jfV]
 have F0 := Lib.hid (show ∀ r, jca (xa, xb, sets, makes) slots = r → ∀ X, Fin H (ZBo r) (H ++ X) K from fun r hr X => Fin.trunc (Mods.ext H X) rfl (by rw [List.take_left, ← hr]; exact hK))
 clear hK
 have HX := Lib.hid hx
 have hns := hx.sets
 have hnm := hx.makes
 simp only at hns hnm
 clear hx
 have l0 : L H.length = true := hL 0
 have l1 : L (H.length + 1) = true := hL 1
 have l2 : ∀ k, L (H.length + k) = true := hL
 have a00 : ∀ A Y, (H ++ (A :: Y))[H.length]? = some A := fun A Y => atN0 rfl A Y
 have a1 : ∀ A B Y, (H ++ (A :: B :: Y))[H.length + 1]? = some B := fun A B Y => atN1 rfl A B Y
 have hlen1 : sets.length < 9223372036854775807 := by omega
 by_cases q1 : xa < 0
 ·have fin := F0.out false (by simp [jca, q1])
  repeat' (first | (simp only [zP, jaf, jaa, jad, jae, seval, Nat.reduceLeDiff, a00, a1, q1, *]) | (simp only [jab]) | (with_reducible apply And.intro) | (with_reducible intro _))
 ·by_cases q2 : xb < 0
  ·have fin := F0.out false (by simp [jca, q2])
   repeat' (first | (simp only [zP, jaf, jaa, jad, jae, seval, Nat.reduceLeDiff, a00, a1, q1, q2, *]) | (simp only [jab]) | (with_reducible apply And.intro) | (with_reducible intro _))
  ·by_cases q3 : 200 < xb
   ·have fin := F0.out false (by simp [jca, q3])
    repeat' (first | (simp only [zP, jaf, jaa, jad, jae, seval, Nat.reduceLeDiff, a00, a1, q1, q2, q3, *]) | (simp only [jab]) | (with_reducible apply And.intro) | (with_reducible intro _))
   ·have F1 := Lib.hid (show ∀ r, (srt (-1) sets && (!makes.any jet && !(plX (xa, xb, sets, makes)).any (jeT slots))) = r → ∀ X, Fin H (ZBo r) (H ++ X) K from fun r hr => F0.out r (by simp only [jca]; rw [decide_eq_false q1, decide_eq_false q2, decide_eq_false q3]; simpa using hr))
    clear F0
    repeat' (first | (simp only [zP, jaf, jaa, jad, jae, seval, Nat.reduceLeDiff, a00, a1, q1, q2, q3, *]) | (simp only [jab]) | (with_reducible apply And.intro) | (with_reducible intro _))
    refine jaP [(2, .ptr H.length 0), (3, .ptr (H.length + 1) 0), (22, .fz 3 false (sets.map eRS))] sets.length (fun k s' h' => SrtI H (.box (eRX (xa, xb, sets, makes))) (.box [Z64 slots]) sets k s' h') (by omega) ⟨rfl, rfl, rfl, rfl, rfl, rfl⟩ rfl rfl (by repeat' (first | exact trivial | (refine ⟨rfl, ?_⟩) | (refine ⟨by simp only [jaE, Nat.reduceEqDiff, reduceIte]; assumption, ?_⟩))) rfl rfl (by decide) ⟨-1, [], rfl, rfl, rfl⟩ ?_ ?_
    ·rintro k s' h' hk ⟨last, X, e5, hsr, rfl⟩ hi hl ⟨f2, f3, f22, -⟩
     have hx : sets[k]? = some sets[k] := List.getElem?_eq_getElem hk
     obtain ⟨q, hq⟩ : ∃ q, q = sets[k] := ⟨_, rfl⟩
     rw [← hq] at hx
     have hst := srt_step (last := last) hx
     have aX : ∀ A B C, (H ++ (A :: B :: (X ++ [C])))[H.length + (X.length + 1 + 1)]? = some C := fun A B C => by rw [List.getElem?_append_right (by omega), Nat.add_sub_cancel_left, List.getElem?_cons_succ, List.getElem?_cons_succ, List.getElem?_append_right (Nat.le_refl _), Nat.sub_self]; rfl
     have sX : ∀ A B C D, (H ++ (A :: B :: (X ++ [C]))).set (H.length + (X.length + 1 + 1)) D = H ++ (A :: B :: (X ++ [D])) := fun A B C D => by rw [List.set_append_right _ _ (by omega), Nat.add_sub_cancel_left, List.set_cons_succ, List.set_cons_succ, List.set_append_right _ _ (Nat.le_refl _), Nat.sub_self]; rfl
     have lX : L (H.length + (X.length + 1 + 1)) = true := hL _
     obtain ⟨sa, sb, sc⟩ := q
     simp only at hst
     have HST := Lib.hid hst
     have HSR := Lib.hid hsr
     clear hq hst hsr
     by_cases p1 : sa ≤ last
     ·have fin := F1.out false (by rw [HSR.out, HST.out]; simp [p1])
      repeat' (first | (simp only [zP, jaf, jaa, jad, jae, seval, Nat.reduceLeDiff, hx, a00, a1, aX, sX, lX, e5, f22, p1, *]) | (simp only [jab]) | (with_reducible apply And.intro) | (with_reducible intro _))
     ·by_cases p2 : 60 ≤ sa
      ·have fin := F1.out false (by rw [HSR.out, HST.out]; simp [p2])
       repeat' (first | (simp only [zP, jaf, jaa, jad, jae, seval, Nat.reduceLeDiff, hx, a00, a1, aX, sX, lX, e5, f22, p1, p2, *]) | (simp only [jab]) | (with_reducible apply And.intro) | (with_reducible intro _))
      ·repeat' (first | (simp only [zP, jaf, jaa, jad, jae, seval, Nat.reduceLeDiff, hx, a00, a1, aX, sX, lX, e5, f22, p1, p2, *]) | (simp only [jab]) | (with_reducible apply And.intro) | (with_reducible intro _))
       exact ⟨sa, X ++ [.box [Z64 sa, Z64 sb, Z64 sc]], by simp [zupd], by rw [HSR.out, HST.out]; simp [p1, p2], by simp⟩
    ·rintro s' h' ⟨last, X, e5, hsr, rfl⟩ ⟨f2, f3, f22, -⟩
     rw [List.drop_of_length_le (Nat.le_refl _)] at hsr
     have HSR := Lib.hid (hsr.trans (show srt last [] = true from rfl))
     clear hsr
     have hmi : makes.length ≤ 100000000000000 := by omega
     repeat' (first | (simp only [zP, jaf, jaa, jad, jae, seval, Nat.reduceLeDiff, a00, a1, *]) | (simp only [jab]) | (with_reducible apply And.intro) | (with_reducible intro _))
     refine cfM_z (p := jet) (by simp [jaX]) hmi (fun m _ K hK => jm0 hK) ?_
     have F2 := Lib.hid (show ∀ r, (!makes.any jet && !(plX (xa, xb, sets, makes)).any (jeT slots)) = r → ∀ X, Fin H (ZBo r) (H ++ X) K from fun r hr => F1.out r (by rw [HSR.out]; simpa using hr))
     clear F1
     generalize makes.any jet = mb at F2 ⊢
     cases mb with
     | true =>
      have fin := F2.out false rfl
      repeat' (first | (simp only [zP, jaf, jaa, jad, jae, seval, Nat.reduceLeDiff, a00, a1, *]) | (simp only [jab]) | (with_reducible apply And.intro) | (with_reducible intro _))
     | false =>
      repeat' (first | (simp only [zP, jaf, jaa, jad, jae, seval, Nat.reduceLeDiff, a00, a1, *]) | (simp only [jab]) | (with_reducible apply And.intro) | (with_reducible intro _))
      refine jjB (x := (xa, xb, sets, makes)) HX.out ?_
      have hn := HX.out.len
      repeat' (first | (simp only [zP, jaf, jaa, jad, jae, seval, Nat.reduceLeDiff, a00, a1, *]) | (simp only [jab]) | (with_reducible apply And.intro) | (with_reducible intro _))
      refine cfP_z (l := plX (xa, xb, sets, makes)) (p := jeT slots) (by simp [jaX]) (by omega) (fun m _ K hK => jmZ (by first | exact a1 _ _ _ | exact atN1 rfl _ _ _) hK) ?_
      have F3 := F2.out
      generalize List.any _ (jeT slots) = pb at F3 ⊢
      have fin := F3 (!pb) (by simp)
      repeat' (first | (simp only [zP, jaf, jaa, jad, jae, seval, Nat.reduceLeDiff, a00, a1, *]) | (simp only [jab]) | (with_reducible apply And.intro) | (with_reducible intro _))
theorem checka_z {x : OXt} {c : Cd} {b : Nat} (hb : H[b]? = some (.box (eCd c))) (hx : OXS x) (hK : K (ZBo (!jca x c.sl)) H) : ZC (boxY tb) (jap Try.prog) 29 [zRX x, .ptr b 0] L H K := by
 obtain ⟨xa, xb, sets, makes⟩ := x
 obtain ⟨fn, pl, lp, slc, ords, exs, turn, back, xo, xe⟩ := c
 refine ZC.enter Gh.no (jan (by decide)) ji2 (by simp) ?_
 simp only [jfW]
 have F0 := Lib.hid (show ∀ X, Fin H (ZBo (!jca (xa, xb, sets, makes) slc)) (H ++ X) K from fun X => Fin.trunc (Mods.ext H X) rfl (by rw [List.take_left]; exact hK))
 clear hK
 have a00 : ∀ A Y, (H ++ (A :: Y))[H.length]? = some A := fun A Y => atN0 rfl A Y
 have ab : ∀ X, (H ++ X)[b]? = some (.box (eCd ⟨fn, pl, lp, slc, ords, exs, turn, back, xo, xe⟩)) := fun X => by rw [List.getElem?_append_left (jas hb)]; exact hb
 have HX := Lib.hid hx
 clear hb hx
 repeat' (first | (simp only [zP, jaf, jaa, jad, jae, seval, Nat.reduceLeDiff, a00, ab, *]) | (simp only [jab]) | (with_reducible apply And.intro) | (with_reducible intro _))
 refine formed_z (x := (xa, xb, sets, makes)) HX.out ?_
 have fin := F0.out
 generalize jca (xa, xb, sets, makes) slc = bb at fin ⊢
 repeat' (first | (simp only [zP, jaf, jaa, jad, jae, seval, Nat.reduceLeDiff, a00, ab, *]) | (simp only [jab]) | (with_reducible apply And.intro) | (with_reducible intro _))
end Go.Proofs.Ytmholkmghhkbhaa

namespace Go.Proofs.Ytmholkmghhkbhaa
open Go Go.RowKit
variable {tb : List (FuncId × Bool)} {L : Nat → Bool} {H : ZH} {K : ZV → ZH → Prop}
def c_kT4 : jar := .seq (.seq (.ops [⟨(some 121), .mv (.tmp 5), none, true⟩,
 ⟨(some 122), .un .not (.tmp 121), none, true⟩,
 ⟨(some 123), .mv (.tmp 122), none, true⟩,
 ⟨(some 124), .mv (.tmp 4), (some (123, false)), true⟩,
 ⟨(some 125), .fieldAddr 10 (.tmp 1), (some (123, false)), true⟩,
 ⟨(some 126), .load (some 4) (.tmp 125), (some (123, false)), true⟩,
 ⟨(some 127), .call (.av (.func 27 [])) [(.tmp 124), (.tmp 126)], (some (123, false)), true⟩,
 ⟨(some 128), .un .not (.tmp 127), (some (123, false)), true⟩,
 ⟨(some 129), .pick (.tmp 123) (.av (.val (.bool true))) (.tmp 128), none, true⟩,
 ⟨(some 130), .mv (.tmp 129), none, true⟩,
 ⟨(some 131), .mv (.tmp 3), (some (130, false)), true⟩,
 ⟨(some 132), .func 29 [(.tmp 1)], (some (130, false)), true⟩,
 ⟨(some 133), .call (.av (.func 24 [])) [(.tmp 131), (.tmp 132)], (some (130, false)), true⟩,
 ⟨(some 134), .pick (.tmp 130) (.av (.val (.bool true))) (.tmp 133), none, true⟩])
 (.cond (.tmp 134)
 (.seq (.ops [⟨(some 2), .mv (.av (.val (.int .i64 3))), none, true⟩])
 (.ret))
 (.skip)))
 (.seq (.ops [⟨(some 2), .mv (.av (.val (.int .i64 0))), none, true⟩])
 (.ret))
def c_kT3 : jar := .seq (.seq (.ops [⟨(some 106), .fieldAddr 2 (.tmp 1), none, true⟩,
 ⟨(some 107), .load none (.tmp 106), none, true⟩,
 ⟨(some 108), .bin .gtr (.tmp 107) (.av (.val (.int .i64 0))), none, true⟩,
 ⟨(some 109), .mv (.tmp 108), none, true⟩,
 ⟨(some 110), .fieldAddr 2 (.tmp 1), (some (109, true)), true⟩,
 ⟨(some 111), .load none (.tmp 110), (some (109, true)), true⟩,
 ⟨(some 112), .fieldAddr 4 (.tmp 1), (some (109, true)), true⟩,
 ⟨(some 113), .load none (.tmp 112), (some (109, true)), true⟩,
 ⟨(some 114), .len (.tmp 113), (some (109, true)), true⟩,
 ⟨(some 115), .bin .eql (.tmp 111) (.tmp 114), (some (109, true)), true⟩,
 ⟨(some 116), .pick (.tmp 109) (.tmp 115) (.av (.val (.bool false))), none, true⟩])
 (.cond (.tmp 116)
 (.ops [⟨(some 117), .mv (.tmp 4), none, true⟩,
 ⟨(some 118), .fieldAddr 6 (.tmp 1), none, true⟩,
 ⟨(some 119), .load (some 4) (.tmp 118), none, true⟩,
 ⟨(some 120), .call (.av (.func 27 [])) [(.tmp 117), (.tmp 119)], none, true⟩,
 ⟨(some 5), .mv (.tmp 120), none, true⟩])
 (.skip)))
 c_kT4
def c_kT2 : jar := .seq (.seq (.ops [⟨(some 77), .fieldAddr 4 (.tmp 1), none, true⟩,
 ⟨(some 78), .load none (.tmp 77), none, true⟩,
 ⟨(some 79), .len (.tmp 78), none, true⟩,
 ⟨(some 80), .mv (.av (.val (.int .i64 0))), none, true⟩])
 (jax 1 2 81 80 79 105
 (.seq (.ops [⟨(some 82), .mv (.tmp 80), none, true⟩,
 ⟨(some 83), .indexAddr 8 (.tmp 78) (.tmp 80), none, true⟩,
 ⟨(some 84), .load (some 8) (.tmp 83), none, true⟩,
 ⟨(some 7), .zero [(.val (.int .i64 0)), (.val (.int .i64 0)), (.val (.int .i64 0)), (.val (.int .i64 0)), (.val (.int .i64 0)), (.val (.int .i64 0)), (.val (.int .i64 0)), (.val (.int .i64 0))], none, true⟩,
 ⟨(some 6), .mv (.tmp 82), none, true⟩,
 ⟨none, .store 8 (.tmp 7) (.tmp 84), none, true⟩])
 (.seq (.seq (.ops [⟨(some 85), .fieldAddr 2 (.tmp 1), none, true⟩,
 ⟨(some 86), .load none (.tmp 85), none, true⟩,
 ⟨(some 87), .bin .gtr (.tmp 86) (.av (.val (.int .i64 0))), none, true⟩,
 ⟨(some 88), .mv (.tmp 87), none, true⟩,
 ⟨(some 89), .mv (.tmp 6), (some (88, true)), true⟩,
 ⟨(some 90), .fieldAddr 2 (.tmp 1), (some (88, true)), true⟩,
 ⟨(some 91), .load none (.tmp 90), (some (88, true)), true⟩,
 ⟨(some 92), .bin .eql (.tmp 89) (.tmp 91), (some (88, true)), true⟩,
 ⟨(some 93), .pick (.tmp 88) (.tmp 92) (.av (.val (.bool false))), none, true⟩])
 (.cond (.tmp 93)
 (.ops [⟨(some 94), .mv (.tmp 4), none, true⟩,
 ⟨(some 95), .fieldAddr 6 (.tmp 1), none, true⟩,
 ⟨(some 96), .load (some 4) (.tmp 95), none, true⟩,
 ⟨(some 97), .call (.av (.func 27 [])) [(.tmp 94), (.tmp 96)], none, true⟩,
 ⟨(some 5), .mv (.tmp 97), none, true⟩])
 (.skip)))
 (.seq (.ops [⟨(some 98), .mv (.tmp 4), none, true⟩,
 ⟨(some 99), .load (some 8) (.tmp 7), none, true⟩,
 ⟨(some 100), .load (some 14) (.tmp 1), none, true⟩,
 ⟨(some 101), .call (.av (.func 28 [])) [(.tmp 98), (.tmp 99), (.tmp 100)], none, true⟩,
 ⟨(some 8), .mv (.tmp 101), none, true⟩])
 (.seq (.ops [⟨(some 102), .mv (.tmp 8), none, true⟩,
 ⟨(some 103), .bin .neq (.tmp 102) (.av (.val (.int .i64 0))), none, true⟩])
 (.cond (.tmp 103)
 (.seq (.ops [⟨(some 104), .mv (.tmp 8), none, true⟩,
 ⟨(some 2), .mv (.tmp 104), none, true⟩])
 (.ret))
 (.skip))))))))
 c_kT3
def c_kT1 : jar := .seq (.ops [⟨(some 64), .fieldAddr 3 (.tmp 1), none, true⟩,
 ⟨(some 65), .load none (.tmp 64), none, true⟩,
 ⟨(some 66), .mkSlice 1 1 [(.val (.bool false))] (.tmp 65) (.tmp 65), none, true⟩,
 ⟨(some 67), .build [(.val (.bool false)), (.val (.bool false)), (.val (.bool false)), (.val (.bool false)), (.val (.bool false)), (.val (.bool false)), (.val (.bool false)), (.val (.bool false)), (.val (.slice none 0 0))] [(8, 1, (.tmp 66))], none, true⟩,
 ⟨(some 68), .box 9 (.tmp 67), none, true⟩,
 ⟨(some 4), .mv (.tmp 68), none, true⟩])
 (.seq (.ops [⟨(some 69), .fieldAddr 2 (.tmp 1), none, true⟩,
 ⟨(some 70), .load none (.tmp 69), none, true⟩,
 ⟨(some 71), .bin .eql (.tmp 70) (.av (.val (.int .i64 0))), none, true⟩,
 ⟨(some 72), .mv (.tmp 71), none, true⟩,
 ⟨(some 73), .fieldAddr 6 (.tmp 1), (some (72, true)), true⟩,
 ⟨(some 74), .load (some 4) (.tmp 73), (some (72, true)), true⟩,
 ⟨(some 75), .call (.av (.func 26 [])) [(.tmp 74)], (some (72, true)), true⟩,
 ⟨(some 76), .pick (.tmp 72) (.tmp 75) (.av (.val (.bool false))), none, true⟩,
 ⟨(some 5), .mv (.tmp 76), none, true⟩])
 c_kT2)
def c_kT0 : jar := .seq (.ops [⟨(some 38), .fieldAddr 3 (.tmp 1), none, true⟩,
 ⟨(some 39), .load none (.tmp 38), none, true⟩,
 ⟨(some 40), .bin .lss (.tmp 39) (.av (.val (.int .i64 0))), none, true⟩,
 ⟨(some 41), .mv (.tmp 40), none, true⟩,
 ⟨(some 42), .fieldAddr 0 (.tmp 1), (some (41, false)), true⟩,
 ⟨(some 43), .load none (.tmp 42), (some (41, false)), true⟩,
 ⟨(some 44), .bin .lss (.tmp 43) (.av (.val (.int .i64 0))), (some (41, false)), true⟩,
 ⟨(some 45), .pick (.tmp 41) (.av (.val (.bool true))) (.tmp 44), none, true⟩,
 ⟨(some 46), .mv (.tmp 45), none, true⟩,
 ⟨(some 47), .fieldAddr 1 (.tmp 1), (some (46, false)), true⟩,
 ⟨(some 48), .load none (.tmp 47), (some (46, false)), true⟩,
 ⟨(some 49), .bin .lss (.tmp 48) (.av (.val (.int .i64 0))), (some (46, false)), true⟩,
 ⟨(some 50), .pick (.tmp 46) (.av (.val (.bool true))) (.tmp 49), none, true⟩,
 ⟨(some 51), .mv (.tmp 50), none, true⟩,
 ⟨(some 52), .fieldAddr 2 (.tmp 1), (some (51, false)), true⟩,
 ⟨(some 53), .load none (.tmp 52), (some (51, false)), true⟩,
 ⟨(some 54), .bin .lss (.tmp 53) (.av (.val (.int .i64 0))), (some (51, false)), true⟩,
 ⟨(some 55), .pick (.tmp 51) (.av (.val (.bool true))) (.tmp 54), none, true⟩,
 ⟨(some 56), .mv (.tmp 55), none, true⟩,
 ⟨(some 57), .fieldAddr 2 (.tmp 1), (some (56, false)), true⟩,
 ⟨(some 58), .load none (.tmp 57), (some (56, false)), true⟩,
 ⟨(some 59), .fieldAddr 4 (.tmp 1), (some (56, false)), true⟩,
 ⟨(some 60), .load none (.tmp 59), (some (56, false)), true⟩,
 ⟨(some 61), .len (.tmp 60), (some (56, false)), true⟩,
 ⟨(some 62), .bin .gtr (.tmp 58) (.tmp 61), (some (56, false)), true⟩,
 ⟨(some 63), .pick (.tmp 56) (.av (.val (.bool true))) (.tmp 62), none, true⟩,
 ⟨(some 37), .mv (.tmp 63), none, true⟩])
 (.cond (.tmp 37)
 (.seq (.ops [⟨(some 2), .mv (.av (.val (.int .i64 3))), none, true⟩])
 (.ret))
 (.skip))
def c_kTb : jar := .seq (.block 0 (.seq (.ops [⟨(some 18), .fieldAddr 4 (.tmp 1), none, true⟩,
 ⟨(some 19), .load none (.tmp 18), none, true⟩,
 ⟨(some 20), .len (.tmp 19), none, true⟩,
 ⟨(some 21), .bin .gtr (.tmp 20) (.av (.val (.int .i64 1500))), none, true⟩,
 ⟨(some 22), .mv (.tmp 21), none, true⟩,
 ⟨(some 23), .fieldAddr 5 (.tmp 1), (some (22, false)), true⟩,
 ⟨(some 24), .load none (.tmp 23), (some (22, false)), true⟩,
 ⟨(some 25), .len (.tmp 24), (some (22, false)), true⟩,
 ⟨(some 26), .bin .gtr (.tmp 25) (.av (.val (.int .i64 200))), (some (22, false)), true⟩,
 ⟨(some 27), .pick (.tmp 22) (.av (.val (.bool true))) (.tmp 26), none, true⟩,
 ⟨(some 28), .mv (.tmp 27), none, true⟩,
 ⟨(some 29), .fieldAddr 3 (.tmp 1), (some (28, false)), true⟩,
 ⟨(some 30), .load none (.tmp 29), (some (28, false)), true⟩,
 ⟨(some 31), .bin .gtr (.tmp 30) (.av (.val (.int .i64 300))), (some (28, false)), true⟩,
 ⟨(some 32), .pick (.tmp 28) (.av (.val (.bool true))) (.tmp 31), none, true⟩,
 ⟨(some 33), .mv (.tmp 32), none, true⟩,
 ⟨(some 34), .mv (.tmp 3), (some (33, false)), true⟩,
 ⟨(some 35), .call (.av (.func 24 [])) [(.tmp 34), (.av (.func 25 []))], (some (33, false)), true⟩,
 ⟨(some 36), .pick (.tmp 33) (.av (.val (.bool true))) (.tmp 35), none, true⟩,
 ⟨(some 17), .mv (.tmp 36), none, true⟩])
 (.cond (.tmp 17)
 (.seq (.ops [⟨(some 2), .mv (.av (.val (.int .i64 2))), none, true⟩])
 (.ret))
 c_kT0)))
 c_kT1
def jgF : jar := .seq (.ops [⟨(some 1), .box 14 (.tmp 0), none, true⟩,
 ⟨(some 2), .mv (.av (.val (.int .i64 0))), none, true⟩])
 (.seq (.ops [⟨(some 9), .fieldAddr 6 (.tmp 1), none, true⟩,
 ⟨(some 10), .load (some 4) (.tmp 9), none, true⟩,
 ⟨(some 11), .fieldAddr 10 (.tmp 1), none, true⟩,
 ⟨(some 12), .load (some 4) (.tmp 11), none, true⟩,
 ⟨(some 13), .lits 4 2 [(.val (.int .i64 0)), (.val (.int .i64 0)), (.val (.slice none 0 0)), (.val (.slice none 0 0)), (.val (.int .i64 0)), (.val (.int .i64 0)), (.val (.slice none 0 0)), (.val (.slice none 0 0))] [(0, 4, (.tmp 10)), (4, 4, (.tmp 12))], none, true⟩,
 ⟨(some 14), .fieldAddr 5 (.tmp 1), none, true⟩,
 ⟨(some 15), .load none (.tmp 14), none, true⟩,
 ⟨(some 16), .append 4 64 (.tmp 13) (.tmp 15), none, true⟩,
 ⟨(some 3), .mv (.tmp 16), none, true⟩])
 c_kTb)
theorem jk1 : jap Try.prog 11 = some ⟨135, jgF, [.tmp 2]⟩ := by kernel_rfl

/-! ### What Check answers -/
def w0 (c : Cd) : Wr := ⟨List.replicate 8 false, List.replicate c.sl.toNat false⟩
def wAtK (c : Cd) (k : Nat) : Wr := (c.ords.take k).foldl wrO (w0 c)
def jdI (c : Cd) : Wr → List Rd → Int
  | _, [] => 0
  | W, x :: r => if jbD W x c = 0 then jdI c (wrO W x) r else jbD W x c
def exsL (c : Cd) : List OXt := c.turn :: c.back :: c.exs
def tooB (c : Cd) : Bool := decide (1500 < (c.ords.length : Int)) || (decide (200 < (c.exs.length : Int)) || (decide (300 < c.sl) || (exsL c).any jc3))
def jdi (c : Cd) : Bool := decide (c.sl < 0) || (decide (c.fn < 0) || (decide (c.pl < 0) || (decide (c.lp < 0) || decide ((c.ords.length : Int) < c.lp))))
def jkv (c : Cd) : Bool := if c.lp = 0 then jfY c.turn else allB (wAtK c c.lp.toNat) c.turn
def endB (c : Cd) (W : Wr) (t : Bool) : Bool := !t || (!allB W c.back || (exsL c).any fun x => !jca x c.sl)
def jbu (c : Cd) : Int :=
  if tooB c = true then 2
  else if jdi c = true then 3
  else if jdI c (w0 c) c.ords ≠ 0 then jdI c (w0 c) c.ords
  else if endB c (wAtK c c.ords.length) (jkv c) = true then 3
  else 0
/-! ### The heap within Check: the list of slots, the object, others -/
def CkH (H1 : ZH) (W : Wr) (X : ZH) : ZH := H1 ++ (.grow 0 1 (W.slots.map eB) :: .box (wBox H1.length W) :: X)
theorem jf0 {H1 : ZH} {W : Wr} {X Y : ZH} : CkH H1 W X ++ Y = CkH H1 W (X ++ Y) := by simp [CkH]
theorem jdZ {H1 : ZH} {W : Wr} {X : ZH} : (CkH H1 W X).length = H1.length + (X.length + 2) := by simp [CkH]
theorem jj5 {H1 : ZH} {W : Wr} {X : ZH} (h8 : W.regs.length = 8) : WAt (CkH H1 W X) (H1.length + 1) H1.length W := ⟨atN1 rfl _ _ _, atN0 rfl _ _, h8⟩
theorem jhk {H1 : ZH} {W : Wr} {X : ZH} {i : Nat} {B : ZB} (h : ∀ Y, (H1 ++ Y)[i]? = some B) : (CkH H1 W X)[i]? = some B := h _
theorem CkH_set {H1 : ZH} {W W' : Wr} {X : ZH} : wSet (CkH H1 W X) (H1.length + 1) H1.length W' = CkH H1 W' X := by
 unfold wSet CkH
 rw [show (H1 ++ (ZB.grow 0 1 (W.slots.map eB) :: ZB.box (wBox H1.length W) :: X)).set H1.length (.grow 0 1 (W'.slots.map eB)) = H1 ++ (ZB.grow 0 1 (W'.slots.map eB) :: ZB.box (wBox H1.length W) :: X) from stN0 rfl _ _ _]
 exact stN1 rfl _ _ _ _
theorem CkH_last {H1 : ZH} {W W' : Wr} {X : ZH} {A : ZB} : (CkH H1 W' (X ++ [A]))[(CkH H1 W X).length]? = some A := by
 rw [jdZ, ← jf0, List.getElem?_append_right (by rw [jdZ]; omega), jdZ, Nat.sub_self]; rfl
structure CkE (H H1 : ZH) (c : Cd) (z : ZV) : Prop where
  box : ∀ Y, (H1 ++ Y)[H.length]? = some (.box (eCd c))
  rows : ∀ Y, jaX (H1 ++ Y) 4 z = some ((exsL c).map eRX)
  sml : ∀ y ∈ exsL c, OXS y
  nex : c.exs.length ≤ 200
set_option maxHeartbeats 4000000 in
theorem kT4_z {S : ZS} {KK : jaq → ZS → ZH → Prop} {H1 : ZH} {c : Cd} {z : ZV} {W : Wr} {X : ZH} {t : Bool} (hE : CkE H H1 c z) (h1 : S 1 = .ptr H.length 0) (h3 : S 3 = z) (h4 : S 4 = .ptr (H1.length + 1) 0) (h5 : S 5 = ZBo t)
  (h8 : W.regs.length = 8) (hsl : W.slots.length ≤ 300) (hr : ∀ S', S' 2 = Z64 (if endB c W t = true then 3 else 0) → KK .ret S' (CkH H1 W X)) : zW (boxY tb) (jap Try.prog) Gh.no L c_kT4 S (CkH H1 W X) KK := by
 have hWA := jj5 (H1 := H1) (X := X) h8
 have bx := jhk (W := W) (X := X) hE.box
 have rw0 : jaX (CkH H1 W X) 4 z = some ((exsL c).map eRX) := hE.rows _
 have hback := hE.sml c.back (by simp [exsL])
 have hln : (exsL c).length ≤ 100000000000000 := by have := hE.nex; simp [exsL]; omega
 obtain ⟨Hc, hHc⟩ : ∃ Hc, Hc = CkH H1 W X := ⟨_, rfl⟩
 rw [← hHc] at hWA bx rw0 hr ⊢
 have HWA := Lib.hid hWA
 have HRW := Lib.hid rw0
 have HE := Lib.hid hE
 have HBK := Lib.hid hback
 clear hHc hWA rw0 hE hback h8
 obtain ⟨fn, pl, lp, slc, ords, exs, turn, back, xo, xe⟩ := c
 obtain ⟨ba, bb, bc, bd⟩ := back
 simp only [c_kT4]
 have HR := Lib.hid hr
 clear hr
 cases t with
 | false =>
  have fin := fun S' (h : S' 2 = Z64 3) => HR.out S' (by rw [h]; simp [endB])
  repeat' (first | (simp only [zP, jaf, jaa, jad, jae, seval, Nat.reduceLeDiff, h1, h3, h4, h5, bx, *]) | (simp only [jab]) | (with_reducible apply And.intro) | (with_reducible intro _))
 | true =>
  repeat' (first | (simp only [zP, jaf, jaa, jad, jae, seval, Nat.reduceLeDiff, h1, h3, h4, h5, bx, *]) | (simp only [jab]) | (with_reducible apply And.intro) | (with_reducible intro _))
  refine jnI (x := (ba, bb, bc, bd)) HBK.out HWA.out hsl ?_
  obtain ⟨ab, hab⟩ : ∃ ab, ab = allB W (ba, bb, bc, bd) := ⟨_, rfl⟩
  rw [← hab]
  have HAB := Lib.hid hab
  clear hab
  cases ab with
  | false =>
   have hev : endB ⟨fn, pl, lp, slc, ords, exs, turn, (ba, bb, bc, bd), xo, xe⟩ W true = true := by simp only [endB]; rw [← HAB.out]; rfl
   have fin := fun S' (h : S' 2 = Z64 3) => HR.out S' (by rw [h, if_pos hev])
   repeat' (first | (simp only [zP, jaf, jaa, jad, jae, seval, Nat.reduceLeDiff, h1, h3, h4, h5, bx, *]) | (simp only [jab]) | (with_reducible apply And.intro) | (with_reducible intro _))
  | true =>
   repeat' (first | (simp only [zP, jaf, jaa, jad, jae, seval, Nat.reduceLeDiff, h1, h3, h4, h5, bx, *]) | (simp only [jab]) | (with_reducible apply And.intro) | (with_reducible intro _))
   refine cfX_z (l := exsL ⟨fn, pl, lp, slc, ords, exs, turn, (ba, bb, bc, bd), xo, xe⟩) (p := fun x => !jca x slc) HRW.out hln (fun m hm K hK => checka_z (c := ⟨fn, pl, lp, slc, ords, exs, turn, (ba, bb, bc, bd), xo, xe⟩) bx (HE.out.sml m hm) hK) ?_
   obtain ⟨fb, hfb⟩ : ∃ fb, fb = (exsL ⟨fn, pl, lp, slc, ords, exs, turn, (ba, bb, bc, bd), xo, xe⟩).any (fun x => !jca x slc) := ⟨_, rfl⟩
   rw [← hfb]
   have hev : endB ⟨fn, pl, lp, slc, ords, exs, turn, (ba, bb, bc, bd), xo, xe⟩ W true = fb := by simp only [endB]; rw [← HAB.out, ← hfb]; rfl
   rw [hev] at HR
   clear hfb hev
   cases fb with
   | false =>
    have fin := fun S' (h : S' 2 = Z64 0) => HR.out S' (by rw [h]; simp)
    repeat' (first | (simp only [zP, jaf, jaa, jad, jae, seval, Nat.reduceLeDiff, h1, h3, h4, h5, bx, *]) | (simp only [jab]) | (with_reducible apply And.intro) | (with_reducible intro _))
   | true =>
    have fin := fun S' (h : S' 2 = Z64 3) => HR.out S' (by rw [h]; simp)
    repeat' (first | (simp only [zP, jaf, jaa, jad, jae, seval, Nat.reduceLeDiff, h1, h3, h4, h5, bx, *]) | (simp only [jab]) | (with_reducible apply And.intro) | (with_reducible intro _))
set_option maxHeartbeats 4000000 in
theorem kT3_z {S : ZS} {KK : jaq → ZS → ZH → Prop} {H1 : ZH} {c : Cd} {z : ZV} {W : Wr} {X : ZH} {t : Bool} (hno : c.ords.length ≤ 1500) (hE : CkE H H1 c z) (h1 : S 1 = .ptr H.length 0) (h3 : S 3 = z) (h4 : S 4 = .ptr (H1.length + 1) 0) (h5 : S 5 = ZBo t)
  (h8 : W.regs.length = 8) (hsl : W.slots.length ≤ 300) (hr : ∀ S', S' 2 = Z64 (if endB c W (if 0 < c.lp ∧ c.lp = (c.ords.length : Int) then allB W c.turn else t) = true then 3 else 0) → KK .ret S' (CkH H1 W X)) : zW (boxY tb) (jap Try.prog) Gh.no L c_kT3 S (CkH H1 W X) KK := by
 have hWA := jj5 (H1 := H1) (X := X) h8
 have bx := jhk (W := W) (X := X) hE.box
 have htn := hE.sml c.turn (by simp [exsL])
 have nx : ∀ (u : Bool), (if 0 < c.lp ∧ c.lp = (c.ords.length : Int) then allB W c.turn else t) = u → ∀ S', S' 1 = .ptr H.length 0 → S' 3 = z → S' 4 = .ptr (H1.length + 1) 0 → S' 5 = ZBo u → zW (boxY tb) (jap Try.prog) Gh.no L c_kT4 S' (CkH H1 W X) KK := fun u hu S' t1 t3 t4 t5 =>
  kT4_z hE t1 t3 t4 t5 h8 hsl (fun S2 h => hr S2 (by rw [hu]; exact h))
 obtain ⟨Hc, hHc⟩ : ∃ Hc, Hc = CkH H1 W X := ⟨_, rfl⟩
 rw [← hHc] at hWA bx nx ⊢
 have HWA := Lib.hid hWA
 have HNX := Lib.hid nx
 have HTN := Lib.hid htn
 clear hHc hWA hE h8 htn nx hr
 obtain ⟨fn, pl, lp, slc, ords, exs, turn, back, xo, xe⟩ := c
 obtain ⟨ba, bb, bc, bd⟩ := turn
 simp only [c_kT3]
 simp only at hno
 by_cases q1 : 0 < lp
 ·by_cases q2 : lp = (ords.length : Int)
  ·have NX := Lib.hid (HNX.out _ (if_pos ⟨q1, q2⟩))
   clear HNX
   have q3 : (0 : Int) < (ords.length : Int) := by omega
   repeat' (first | (simp only [zP, jaf, jaa, jad, jae, seval, Nat.reduceLeDiff, h1, h4, bx, q1, q2, q3, *]) | (simp only [jab]) | (with_reducible apply And.intro) | (with_reducible intro _))
   refine jnI (x := (ba, bb, bc, bd)) HTN.out HWA.out hsl ?_
   generalize allB W (ba, bb, bc, bd) = ab at NX ⊢
   repeat' (first | (simp only [zP, jaf, jaa, jad, jae, seval, Nat.reduceLeDiff, h1, h4, bx, q1, q2, *]) | (simp only [jab]) | (with_reducible apply And.intro) | (with_reducible intro _))
   exact NX.out _ (by simp [zupd, h1]) (by simp [zupd, h3]) (by simp [zupd, h4]) (by simp [zupd])
  ·have NX := Lib.hid (HNX.out _ (if_neg fun h => q2 h.2))
   clear HNX
   repeat' (first | (simp only [zP, jaf, jaa, jad, jae, seval, Nat.reduceLeDiff, h1, h4, bx, q1, q2, *]) | (simp only [jab]) | (with_reducible apply And.intro) | (with_reducible intro _))
   exact NX.out _ (by simp [zupd, h1]) (by simp [zupd, h3]) (by simp [zupd, h4]) (by simp [zupd, h5])
 ·have NX := Lib.hid (HNX.out _ (if_neg fun h => q1 h.1))
  clear HNX
  repeat' (first | (simp only [zP, jaf, jaa, jad, jae, seval, Nat.reduceLeDiff, h1, h4, bx, q1, *]) | (simp only [jab]) | (with_reducible apply And.intro) | (with_reducible intro _))
  exact NX.out _ (by simp [zupd, h1]) (by simp [zupd, h3]) (by simp [zupd, h4]) (by simp [zupd, h5])
set_option maxHeartbeats 4000000 in
theorem kT0_z {S : ZS} {KK : jaq → ZS → ZH → Prop} {H1 : ZH} {c : Cd} {z : ZV} (hno : c.ords.length ≤ 1500) (bx : H1[H.length]? = some (.box (eCd c))) (h1 : S 1 = .ptr H.length 0) (h3 : S 3 = z)
  (hr : jdi c = true → ∀ S', S' 2 = Z64 3 → KK .ret S' H1) (hn : jdi c = false → ∀ S', S' 1 = .ptr H.length 0 → S' 3 = z → KK .normal S' H1) : zW (boxY tb) (jap Try.prog) Gh.no L c_kT0 S H1 KK := by
 obtain ⟨fn, pl, lp, slc, ords, exs, turn, back, xo, xe⟩ := c
 have HR := Lib.hid hr
 have HN := Lib.hid hn
 clear hr hn
 simp only at hno
 simp only [c_kT0]
 by_cases q1 : slc < 0
 ·have fin := HR.out (by simp only [jdi]; rw [decide_eq_true q1]; simp)
  clear HR HN
  repeat' (first | (simp only [zP, jaf, jaa, jad, jae, seval, Nat.reduceLeDiff, h1, bx, q1, *]) | (simp only [jab]) | (with_reducible apply And.intro) | (with_reducible intro _))
 ·by_cases q2 : fn < 0
  ·have fin := HR.out (by simp only [jdi]; rw [decide_eq_true q2]; simp)
   clear HR HN
   repeat' (first | (simp only [zP, jaf, jaa, jad, jae, seval, Nat.reduceLeDiff, h1, bx, q1, q2, *]) | (simp only [jab]) | (with_reducible apply And.intro) | (with_reducible intro _))
  ·by_cases q3 : pl < 0
   ·have fin := HR.out (by simp only [jdi]; rw [decide_eq_true q3]; simp)
    clear HR HN
    repeat' (first | (simp only [zP, jaf, jaa, jad, jae, seval, Nat.reduceLeDiff, h1, bx, q1, q2, q3, *]) | (simp only [jab]) | (with_reducible apply And.intro) | (with_reducible intro _))
   ·by_cases q4 : lp < 0
    ·have fin := HR.out (by simp only [jdi]; rw [decide_eq_true q4]; simp)
     clear HR HN
     repeat' (first | (simp only [zP, jaf, jaa, jad, jae, seval, Nat.reduceLeDiff, h1, bx, q1, q2, q3, q4, *]) | (simp only [jab]) | (with_reducible apply And.intro) | (with_reducible intro _))
    ·by_cases q5 : (ords.length : Int) < lp
     ·have fin := HR.out (by simp only [jdi]; rw [decide_eq_true q5]; simp)
      clear HR HN
      repeat' (first | (simp only [zP, jaf, jaa, jad, jae, seval, Nat.reduceLeDiff, h1, bx, q1, q2, q3, q4, q5, *]) | (simp only [jab]) | (with_reducible apply And.intro) | (with_reducible intro _))
     ·have hn := Lib.hid (HN.out (by simp only [jdi]; rw [decide_eq_false q1, decide_eq_false q2, decide_eq_false q3, decide_eq_false q4, decide_eq_false q5]; rfl))
      clear HR HN
      repeat' (first | (simp only [zP, jaf, jaa, jad, jae, seval, Nat.reduceLeDiff, h1, bx, q1, q2, q3, q4, q5, *]) | (simp only [jab]) | (with_reducible apply And.intro) | (with_reducible intro _))
      exact hn.out _ (by simp [zupd, h1]) (by simp [zupd, h3])
end Go.Proofs.Ytmholkmghhkbhaa

namespace Go.Proofs.Ytmholkmghhkbhaa
open Go Go.RowKit
variable {tb : List (FuncId × Bool)} {L : Nat → Bool} {H : ZH} {K : ZV → ZH → Prop}
theorem app_lit {k b : Nat} {r0 r : List (List ZV)} (W : ZH) (hb : (r0.length + r.length) * b ≤ jaN) : ∃ z Y, appZ L W k b r (.fz k true r0) = some (z, W ++ Y) ∧ ∀ X, jaX (W ++ Y ++ X) k z = some (r0 ++ r) := by
 by_cases hr : r = []
 ·subst hr
  refine ⟨.fz k true r0, [], ?_, fun X => by simp [jaX]⟩
  simp only [appZ]
  rw [if_pos ⟨trivial, by simpa using hb⟩, if_pos trivial, List.append_nil]
 ·refine ⟨.own W.length 0 0 (r0.length + r.length) false, [.grow 0 k (r0 ++ r)], ?_, fun X => ?_⟩
  ·simp only [appZ]
   rw [if_pos ⟨trivial, hb⟩, if_neg hr, if_pos trivial]
  ·simp only [jaX]
   rw [List.append_assoc, List.getElem?_append_right (Nat.le_refl _), Nat.sub_self]
   simp only [List.cons_append, List.nil_append, List.getElem?_cons_zero]
   rw [if_pos ⟨trivial, trivial, by simp⟩, List.drop_zero, List.take_of_length_le (by simp)]
theorem CkH_setl {H1 : ZH} {W W' : Wr} {X : ZH} {A C : ZB} : (CkH H1 W' (X ++ [A])).set (CkH H1 W X).length C = CkH H1 W' (X ++ [C]) := by
 rw [jdZ, ← jf0, List.set_append_right _ _ (by rw [jdZ]; omega), jdZ, Nat.sub_self, ← jf0]; rfl
def tkAt (c : Cd) (k : Nat) : Bool := if c.lp = 0 then jfY c.turn else if c.lp < (k : Int) then allB (wAtK c c.lp.toNat) c.turn else false
def CkI (H1 : ZH) (c : Cd) (k : Nat) (s' : ZS) (h' : ZH) : Prop := ∃ X, h' = CkH H1 (wAtK c k) X ∧ s' 5 = ZBo (tkAt c k) ∧ jdI c (w0 c) c.ords = jdI c (wAtK c k) (c.ords.drop k)
theorem wAtK_len {c : Cd} {k : Nat} : (wAtK c k).regs.length = 8 ∧ (wAtK c k).slots.length = c.sl.toNat := by
 unfold wAtK
 generalize c.ords.take k = l
 have h0 : (w0 c).regs.length = 8 ∧ (w0 c).slots.length = c.sl.toNat := by simp [w0]
 generalize w0 c = W at h0 ⊢
 induction l generalizing W with
 | nil => exact h0
 | cons x l ih => exact ih _ ⟨(jl3 (W := W) (x := x)).1.trans h0.1, (jl3 (W := W) (x := x)).2.trans h0.2⟩
theorem jl9 {c : Cd} {k : Nat} {x : Rd} (h : c.ords[k]? = some x) : wAtK c (k + 1) = wrO (wAtK c k) x := by
 have hk := (List.getElem?_eq_some_iff.1 h).1
 unfold wAtK
 rw [List.take_succ_eq_append_getElem hk, List.foldl_append]
 rw [List.getElem?_eq_getElem hk] at h
 injection h with h
 rw [h]; rfl
theorem ordsE_at {c : Cd} {W : Wr} {k : Nat} {x : Rd} (h : c.ords[k]? = some x) : jdI c W (c.ords.drop k) = if jbD W x c = 0 then jdI c (wrO W x) (c.ords.drop (k + 1)) else jbD W x c := by
 have hk := (List.getElem?_eq_some_iff.1 h).1
 rw [List.drop_eq_getElem_cons hk]
 rw [List.getElem?_eq_getElem hk] at h
 injection h with h
 rw [h]; rfl
theorem turnF_eq {c : Cd} (h0 : 0 ≤ c.lp) (hn : c.lp ≤ (c.ords.length : Int)) : (if 0 < c.lp ∧ c.lp = (c.ords.length : Int) then allB (wAtK c c.ords.length) c.turn else tkAt c c.ords.length) = jkv c := by
 unfold jkv tkAt
 by_cases h : c.lp = 0
 ·rw [if_pos h, if_pos h, if_neg (by omega)]
 ·rw [if_neg h, if_neg h]
  by_cases h2 : c.lp = (c.ords.length : Int)
  ·rw [if_pos ⟨by omega, h2⟩, h2, Int.toNat_natCast]
  ·rw [if_neg (fun q => h2 q.2), if_pos (by omega)]
set_option maxHeartbeats 8000000 in
theorem kT2_z {S : ZS} {KK : jaq → ZS → ZH → Prop} {H1 : ZH} {c : Cd} {z : ZV} (hno : c.ords.length ≤ 1500) (hE : CkE H H1 c z) (hs0 : 0 ≤ c.sl) (hs3 : c.sl ≤ 300) (hl0 : 0 ≤ c.lp) (hln : c.lp ≤ (c.ords.length : Int)) (hL : ∀ k, L (H1.length + k) = true)
  (h1 : S 1 = .ptr H.length 0) (h3 : S 3 = z) (h4 : S 4 = .ptr (H1.length + 1) 0) (h5 : S 5 = ZBo (tkAt c 0))
  (hr : ∀ S' W X r, r ≠ 0 → jdI c (w0 c) c.ords = r → S' 2 = Z64 r → KK .ret S' (CkH H1 W X))
  (hr2 : jdI c (w0 c) c.ords = 0 → ∀ S' W X, S' 2 = Z64 (if endB c (wAtK c c.ords.length) (jkv c) = true then 3 else 0) → KK .ret S' (CkH H1 W X)) : zW (boxY tb) (jap Try.prog) Gh.no L c_kT2 S (CkH H1 (w0 c) []) KK := by
 have HE := Lib.hid hE
 have HR := Lib.hid hr
 have HR2 := Lib.hid hr2
 have bx : ∀ W X, (CkH H1 W X)[H.length]? = some (.box (eCd c)) := fun W X => jhk hE.box
 have bx' : ∀ W X Y, (CkH H1 W X ++ Y)[H.length]? = some (.box (eCd c)) := fun W X Y => by rw [jf0]; exact jhk hE.box
 have htk : ∀ (k : Nat), c.lp = (k : Int) → 0 < c.lp → tkAt c (k + 1) = allB (wAtK c k) c.turn := fun k h h0 => by unfold tkAt; rw [if_neg (by omega), if_pos (by omega), h, Int.toNat_natCast]
 have htk2 : ∀ (k : Nat), ¬ (0 < c.lp ∧ (k : Int) = c.lp) → tkAt c (k + 1) = tkAt c k := fun k h => by
  unfold tkAt
  by_cases h0 : c.lp = 0
  ·rw [if_pos h0, if_pos h0]
  ·rw [if_neg h0, if_neg h0]
   by_cases h1 : c.lp < (k : Int)
   ·rw [if_pos h1, if_pos (by omega)]
   ·rw [if_neg h1, if_neg (by omega)]
 have HTK := Lib.hid htk
 have HTK2 := Lib.hid htk2
 have hlx := fun (k : Nat) (x : Rd) (h : c.ords[k]? = some x) => jl9 h
 have hox := fun (k : Nat) (x : Rd) (h : c.ords[k]? = some x) => ordsE_at (W := wAtK c k) h
 have HLX := Lib.hid hlx
 have HOX := Lib.hid hox
 have htF := turnF_eq hl0 hln
 have HTF := Lib.hid htF
 clear hE hr hr2 htk htk2 hlx hox htF
 have HWL := Lib.hid (fun k => wAtK_len (c := c) (k := k))
 obtain ⟨fn, pl, lp, slc, ords, exs, turn, back, xo, xe⟩ := c
 simp only at hno hs0 hs3 hl0 hln
 simp only [c_kT2]
 obtain ⟨wk, hwk⟩ : ∃ wk, wk = wAtK ⟨fn, pl, lp, slc, ords, exs, turn, back, xo, xe⟩ := ⟨_, rfl⟩
 obtain ⟨tk, htke⟩ : ∃ tk, tk = tkAt ⟨fn, pl, lp, slc, ords, exs, turn, back, xo, xe⟩ := ⟨_, rfl⟩
 obtain ⟨oe, hoe⟩ : ∃ oe, oe = jdI ⟨fn, pl, lp, slc, ords, exs, turn, back, xo, xe⟩ := ⟨_, rfl⟩
 have hw0 : wk 0 = w0 ⟨fn, pl, lp, slc, ords, exs, turn, back, xo, xe⟩ := by rw [hwk]; rfl
 simp only at HLX HOX HTF HR HR2 HTK HTK2 HWL
 rw [← hwk] at HLX HOX HTK HWL HTF HR2
 rw [← htke] at h5 HTK HTK2 HTF
 rw [← hoe] at HR HR2 HOX
 have HW0 := Lib.hid hw0
 have HOE0 := Lib.hid (show ∀ W, oe W [] = 0 by rw [hoe]; intro W; rfl)
 obtain ⟨CI, hCI⟩ : ∃ CI, CI = CkI H1 ⟨fn, pl, lp, slc, ords, exs, turn, back, xo, xe⟩ := ⟨_, rfl⟩
 have HCI := Lib.hid (show CI = fun (k : Nat) s' h' => ∃ X, h' = CkH H1 (wk k) X ∧ s' 5 = ZBo (tk k) ∧ oe (w0 ⟨fn, pl, lp, slc, ords, exs, turn, back, xo, xe⟩) ords = oe (wk k) (ords.drop k) by rw [hCI, hwk, htke, hoe]; rfl)
 rw [← hw0]
 rw [← hw0] at HR HR2 HCI
 clear hwk htke hoe hw0 hCI
 repeat' (first | (simp only [zP, jaf, jaa, jad, jae, seval, Nat.reduceLeDiff, h1, h4, bx, *]) | (simp only [jab]) | (with_reducible apply And.intro) | (with_reducible intro _))
 refine jaP [(1, .ptr H.length 0), (3, z), (4, .ptr (H1.length + 1) 0), (78, .fz 8 xo (ords.map eRd))] ords.length (fun k s' h' => CI k s' h') (by omega) ⟨rfl, rfl, rfl, rfl, rfl, rfl⟩ rfl rfl (by repeat' (first | exact trivial | (refine ⟨rfl, ?_⟩) | (refine ⟨by simp only [jaE, Nat.reduceEqDiff, reduceIte]; assumption, ?_⟩))) rfl rfl (by decide) (by rw [HCI.out]; exact ⟨[], rfl, by simp [zupd, h5], rfl⟩) ?_ ?_
 ·rintro k s' h' hk inv hi hl ⟨f1, f3, f4, f78, -⟩
  rw [HCI.out] at inv
  obtain ⟨X, rfl, e5, hoe⟩ := inv
  have hx : ords[k]? = some ords[k] := List.getElem?_eq_getElem hk
  obtain ⟨x, hxe⟩ : ∃ x, x = ords[k] := ⟨_, rfl⟩
  rw [← hxe] at hx
  clear hxe
  have HX := Lib.hid hx
  have HOE := Lib.hid hoe
  clear hoe
  have l9 : L (CkH H1 (wk k) X).length = true := by rw [jdZ]; exact hL _
  have p9 : ∀ W A, (CkH H1 W (X ++ [A]))[(CkH H1 (wk k) X).length]? = some A := fun W A => CkH_last
  have s9 : ∀ W A C, (CkH H1 W (X ++ [A])).set (CkH H1 (wk k) X).length C = CkH H1 W (X ++ [C]) := fun W A C => CkH_setl
  have lp1 : L (H1.length + 1) = true := hL 1
  have lp0 : L H1.length = true := hL 0
  have hap : ∀ W Y, CkH H1 W X ++ Y = CkH H1 W (X ++ Y) := fun W Y => jf0
  obtain ⟨op, a, b2, cc, n, e, kk, kn⟩ := x
  have hw8 := (HWL.out k).1
  have hws := (HWL.out k).2
  have hws3 : (wk k).slots.length ≤ 300 := by omega
  have HWS := Lib.hid hws
  clear hws
  have hne : H1.length + 1 ≠ H1.length := by omega
  have goB : ∀ (KB : ZV → ZH → Prop), (∀ r, r ≠ 0 → oe (wk 0) ords = r → KB (Z64 r) (CkH H1 (wk k) (X ++ [.box (eRd (op, a, b2, cc, n, e, kk, kn))]))) → (oe (wk 0) ords = oe (wk (k + 1)) (ords.drop (k + 1)) → KB (Z64 0) (CkH H1 (wk (k + 1)) (X ++ [.box (eRd (op, a, b2, cc, n, e, kk, kn))]))) →
    ZC (boxY tb) (jap Try.prog) 28 [.ptr (H1.length + 1) 0, .agg (eRd (op, a, b2, cc, n, e, kk, kn)), .agg (eCd ⟨fn, pl, lp, slc, ords, exs, turn, back, xo, xe⟩)] L (CkH H1 (wk k) (X ++ [.box (eRd (op, a, b2, cc, n, e, kk, kn))])) KB := fun KB hb hg => by
   refine order_z (W := wk k) (x := (op, a, b2, cc, n, e, kk, kn)) (c := ⟨fn, pl, lp, slc, ords, exs, turn, back, xo, xe⟩) (jj5 hw8) hne HWS.out hs3 lp1 lp0 (fun y hy => HE.out.sml y (by simp [exsL, hy])) HE.out.nex (fun r hr hr0 => hb r hr0 ?_) (fun hr => ?_)
   ·rw [HOE.out, HOX.out k _ HX.out, hr, if_neg hr0]
   ·rw [CkH_set, ← HLX.out k _ HX.out]
    refine hg ?_
    rw [HOE.out, HOX.out k _ HX.out, if_pos hr, ← HLX.out k _ HX.out]
  have GOB := Lib.hid goB
  clear goB
  have hsp : (0 < lp ∧ lp = (k : Int)) ∨ (0 < lp ∧ ¬ ((k : Int) = lp)) ∨ (¬ (0 < lp) ∧ (0 : Int) ≤ 0) := by omega
  rcases hsp with ⟨q1, q2⟩ | ⟨q1, q2⟩ | ⟨q1, q2⟩
  case' inl =>
   have q3 : (0 : Int) < (k : Int) := by omega
   have htk := HTK.out k q2 q1
   have HTKK := Lib.hid htk
   clear htk
   repeat' (first | (simp only [zP, jaf, jaa, jad, jae, seval, Nat.reduceLeDiff, hx, f1, f4, f78, bx, bx', l9, p9, s9, hap, q1, q2, q3, *]) | (simp only [jab]) | (with_reducible apply And.intro) | (with_reducible intro _))
   refine jnI (x := turn) (HE.out.sml _ (by simp [exsL])) (jj5 hw8) hws3 ?_
   rw [← HTKK.out]
   generalize htu : tk (k + 1) = tu
   have HTU := Lib.hid htu
   clear htu q2
   repeat' (first | (simp only [zP, jaf, jaa, jad, jae, seval, Nat.reduceLeDiff, hx, f1, f4, f78, bx, bx', l9, p9, s9, hap, q1, q3, *]) | (simp only [jab]) | (with_reducible apply And.intro) | (with_reducible intro _))
  case' inr.inl =>
   have htk := HTK2.out k (fun h => q2 h.2)
   generalize htu : tk (k + 1) = tu at htk
   have HTU := Lib.hid htu
   rw [← htk] at e5
   clear htu htk
   repeat' (first | (simp only [zP, jaf, jaa, jad, jae, seval, Nat.reduceLeDiff, hx, f1, f4, f78, bx, bx', l9, p9, s9, hap, q1, q2, *]) | (simp only [jab]) | (with_reducible apply And.intro) | (with_reducible intro _))
  case' inr.inr =>
   have htk := HTK2.out k (fun h => q1 h.1)
   generalize htu : tk (k + 1) = tu at htk
   have HTU := Lib.hid htu
   rw [← htk] at e5
   clear htu htk
   repeat' (first | (simp only [zP, jaf, jaa, jad, jae, seval, Nat.reduceLeDiff, hx, f1, f4, f78, bx, bx', l9, p9, s9, hap, q1, *]) | (simp only [jab]) | (with_reducible apply And.intro) | (with_reducible intro _))
  all_goals
   refine GOB.out _ (fun r hr0 hr => ?_) (fun hr => ?_)
   ·have HRR := Lib.hid hr
    clear hr
    repeat' (first | (simp only [zP, jaf, jaa, jad, jae, seval, Nat.reduceLeDiff, hr0, *]) | (simp only [jab]) | (with_reducible apply And.intro) | (with_reducible intro _))
    exact HR.out _ _ _ r hr0 HRR.out (by simp [zupd])
   ·have HRR := Lib.hid hr
    clear hr
    repeat' (first | (simp only [zP, jaf, jaa, jad, jae, seval, Nat.reduceLeDiff, *]) | (simp only [jab]) | (with_reducible apply And.intro) | (with_reducible intro _))
    rw [HCI.out]
    exact ⟨_, rfl, by rw [HTU.out]; simp [zupd, e5], HRR.out⟩
 ·rintro s' h' inv ⟨f1, f3, f4, f78, -⟩
  rw [HCI.out] at inv
  obtain ⟨X, rfl, e5, hoe⟩ := inv
  rw [List.drop_of_length_le (Nat.le_refl _)] at hoe
  have h0 : oe (wk 0) ords = 0 := by rw [hoe]; exact HOE0.out _
  refine kT3_z (c := ⟨fn, pl, lp, slc, ords, exs, turn, back, xo, xe⟩) (z := z) hno HE.out f1 f3 f4 e5 (HWL.out _).1 (by have := (HWL.out ords.length).2; omega) fun S' h2 => ?_
  refine HR2.out h0 S' _ _ ?_
  rw [h2, ← HTF.out]
end Go.Proofs.Ytmholkmghhkbhaa

namespace Go.Proofs.Ytmholkmghhkbhaa
open Go Go.RowKit
variable {tb : List (FuncId × Bool)} {L : Nat → Bool} {H : ZH} {K : ZV → ZH → Prop}
structure CdB (c : Cd) : Prop where
  ords : c.ords.length ≤ 100000000
  exs : c.exs.length ≤ 100000000
  all : ∀ y ∈ exsL c, OXB y
set_option maxHeartbeats 8000000 in
theorem kT1_z {S : ZS} {KK : jaq → ZS → ZH → Prop} {H1 : ZH} {c : Cd} {z : ZV} (hno : c.ords.length ≤ 1500) (hB : OXB c.turn) (hE : CkE H H1 c z) (hs0 : 0 ≤ c.sl) (hs3 : c.sl ≤ 300) (hl0 : 0 ≤ c.lp) (hln : c.lp ≤ (c.ords.length : Int)) (hL : ∀ k, L (H1.length + k) = true)
  (h1 : S 1 = .ptr H.length 0) (h3 : S 3 = z)
  (hr : ∀ S' W X r, r ≠ 0 → jdI c (w0 c) c.ords = r → S' 2 = Z64 r → KK .ret S' (CkH H1 W X))
  (hr2 : jdI c (w0 c) c.ords = 0 → ∀ S' W X, S' 2 = Z64 (if endB c (wAtK c c.ords.length) (jkv c) = true then 3 else 0) → KK .ret S' (CkH H1 W X)) : zW (boxY tb) (jap Try.prog) Gh.no L c_kT1 S H1 KK := by
 have nx : ∀ S', S' 1 = .ptr H.length 0 → S' 3 = z → S' 4 = .ptr (H1.length + 1) 0 → S' 5 = ZBo (tkAt c 0) → zW (boxY tb) (jap Try.prog) Gh.no L c_kT2 S' (CkH H1 (w0 c) []) KK := fun S' t1 t3 t4 t5 =>
  kT2_z hno hE hs0 hs3 hl0 hln hL t1 t3 t4 t5 hr hr2
 have NX := Lib.hid nx
 have hck : CkH H1 (w0 c) [] = H1 ++ [.grow 0 1 (List.replicate c.sl.toNat [ZBo false]), .box [ZBo false, ZBo false, ZBo false, ZBo false, ZBo false, ZBo false, ZBo false, ZBo false, .own H1.length 0 0 c.sl.toNat true]] := by simp [CkH, w0, wBox]
 have HCK := Lib.hid hck
 have ht0 : tkAt c 0 = if c.lp = 0 then jfY c.turn else false := by
  unfold tkAt
  by_cases h : c.lp = 0
  ·rw [if_pos h, if_pos h]
  ·rw [if_neg h, if_neg h, if_neg (by omega)]
 rw [ht0] at NX
 have bx := hE.box
 have bx1 : H1[H.length]? = some (.box (eCd c)) := by have := bx []; rwa [List.append_nil] at this
 have hn : natZ (Z64 c.sl) = some c.sl.toNat := jcv hs0
 have hrr : c.sl.toNat * 1 ≤ jaN := by unfold jaN; omega
 have hrr2 : c.sl.toNat ≤ jaN := by unfold jaN; omega
 have hm1 : L (H1.length + 1) = true := hL 1
 have hm0 : L H1.length = true := hL 0
 have HBB := Lib.hid hB
 clear nx hck ht0 hr hr2 hE hB
 obtain ⟨fn, pl, lp, slc, ords, exs, turn, back, xo, xe⟩ := c
 simp only at hno hs0 hs3 hl0 hln hn hrr hrr2 HCK NX HBB
 simp only [c_kT1]
 obtain ⟨ns, hns⟩ : ∃ ns, ns = slc.toNat := ⟨_, rfl⟩
 rw [← hns] at hn hrr hrr2 HCK
 clear hns hs0 hs3 hln hL
 obtain ⟨ta, tb2, ts, tm⟩ := turn
 by_cases q1 : lp = 0
 ·rw [if_pos q1] at NX
  repeat' (first | (simp only [zP, jaf, jaa, jad, jae, seval, Nat.reduceLeDiff, h1, bx, bx1, hn, hrr, hrr2, q1, *]) | (simp only [jab]) | (with_reducible apply And.intro) | (with_reducible intro _))
  refine bare_z (x := (ta, tb2, ts, tm)) HBB.out ?_
  generalize jfY (ta, tb2, ts, tm) = bb at NX ⊢
  repeat' (first | (simp only [zP, jaf, jaa, jad, jae, seval, Nat.reduceLeDiff, h1, bx, bx1, hn, hrr, hrr2, q1, *]) | (simp only [jab]) | (with_reducible apply And.intro) | (with_reducible intro _))
  rw [← HCK.out]
  exact NX.out _ (by simp [zupd, h1]) (by simp [zupd, h3]) (by simp [zupd]) (by simp [zupd])
 ·rw [if_neg q1] at NX
  repeat' (first | (simp only [zP, jaf, jaa, jad, jae, seval, Nat.reduceLeDiff, h1, bx, bx1, hn, hrr, hrr2, q1, *]) | (simp only [jab]) | (with_reducible apply And.intro) | (with_reducible intro _))
  rw [← HCK.out]
  exact NX.out _ (by simp [zupd, h1]) (by simp [zupd, h3]) (by simp [zupd]) (by simp [zupd])
set_option maxHeartbeats 8000000 in
theorem check_z {c : Cd} (hB : CdB c) (hK : K (Z64 (jbu c)) H) : ZC (boxY tb) (jap Try.prog) 11 [.agg (eCd c)] L H K := by
 refine ZC.enterL Gh.no (jan (by decide)) jk1 (by simp) fun hL => ?_
 simp only [jgF]
 obtain ⟨z, Y, happ, hrows⟩ := app_lit (L := L) (k := 4) (b := 64) (r0 := [eRX c.turn, eRX c.back]) (r := c.exs.map eRX) (H ++ [.box (eCd c)]) (by have := hB.exs; simp; unfold jaN; omega)
 obtain ⟨H1, hH1⟩ : ∃ H1, H1 = H ++ [.box (eCd c)] ++ Y := ⟨_, rfl⟩
 have F0 := Lib.hid (show ∀ r, jbu c = r → ∀ X, Fin H (Z64 r) (H1 ++ X) K from fun r hr X => by rw [hH1, List.append_assoc, List.append_assoc]; exact Fin.trunc (Mods.ext H _) rfl (by rw [List.take_left, ← hr]; exact hK))
 clear hK
 rw [← hH1] at happ hrows
 have bx : ∀ Y', (H1 ++ Y')[H.length]? = some (.box (eCd c)) := fun Y' => by rw [hH1]; simp only [List.append_assoc]; exact atN0 rfl _ _
 have bx1 : H1[H.length]? = some (.box (eCd c)) := by have := bx []; rwa [List.append_nil] at this
 have a00 : ∀ A Y, (H ++ (A :: Y))[H.length]? = some A := fun A Y => atN0 rfl A Y
 have hL1 : ∀ k, L (H1.length + k) = true := fun k => by rw [hH1]; simp only [List.length_append]; rw [Nat.add_assoc, Nat.add_assoc]; exact hL _
 have hrw : ∀ Y', jaX (H1 ++ Y') 4 z = some ((exsL c).map eRX) := fun Y' => by rw [hrows]; rfl
 have hrw1 : jaX H1 4 z = some ((exsL c).map eRX) := by have := hrw []; rwa [List.append_nil] at this
 have HRW := Lib.hid hrw
 have HRW1 := Lib.hid hrw1
 have HBB := Lib.hid hB
 clear hrows hrw hrw1 hH1 hL hB
 have hsm := Lib.hid (show tooB c = false → c.ords.length ≤ 1500 ∧ c.exs.length ≤ 200 ∧ c.sl ≤ 300 ∧ ∀ y ∈ exsL c, OXS y from fun h => by
  unfold tooB at h
  simp only [Bool.or_eq_false_iff, decide_eq_false_iff_not, List.any_eq_false] at h
  obtain ⟨u1, u2, u3, u4⟩ := h
  exact ⟨by omega, by omega, by omega, fun y hy => large_ok (by have := u4 y hy; simpa using this)⟩)
 have hno := HBB.out.ords
 have hnx := HBB.out.exs
 obtain ⟨fn, pl, lp, slc, ords, exs, turn, back, xo, xe⟩ := c
 simp only at hno hnx
 have fin2 := fun (h : tooB ⟨fn, pl, lp, slc, ords, exs, turn, back, xo, xe⟩ = true) => F0.out 2 (by unfold jbu; rw [if_pos h])
 have FIN2 := Lib.hid fin2
 clear fin2
 have hex : (exsL ⟨fn, pl, lp, slc, ords, exs, turn, back, xo, xe⟩).length ≤ 100000000000000 := by simp [exsL]; omega
 repeat' (first | (simp only [zP, jaf, jaa, jad, jae, seval, Nat.reduceLeDiff, a00, happ, *]) | (simp only [jab]) | (with_reducible apply And.intro) | (with_reducible intro _))
 simp only [c_kTb]
 have rest : ∀ (S : ZS) (KK : jaq → ZS → ZH → Prop), tooB ⟨fn, pl, lp, slc, ords, exs, turn, back, xo, xe⟩ = false → S 1 = .ptr H.length 0 → S 3 = z →
   (∀ S' r X, S' 2 = Z64 r → Fin H (Z64 r) (H1 ++ X) K → KK .ret S' (H1 ++ X)) → (∀ S', S' 1 = .ptr H.length 0 → S' 3 = z → (∀ KK', (∀ S' r X, S' 2 = Z64 r → Fin H (Z64 r) (H1 ++ X) K → KK' .ret S' (H1 ++ X)) → zW (boxY tb) (jap Try.prog) Gh.no L c_kT1 S' H1 KK') → KK .normal S' H1) →
   zW (boxY tb) (jap Try.prog) Gh.no L c_kT0 S H1 KK := fun S KK ht t1 t3 hr hn => by
  obtain ⟨u1, u2, u3, u4⟩ := hsm.out ht
  refine kT0_z (c := ⟨fn, pl, lp, slc, ords, exs, turn, back, xo, xe⟩) u1 bx1 t1 t3 (fun hb S' h2 => ?_) (fun hb S' v1 v3 => hn S' v1 v3 fun KK' hr' => ?_)
  ·have h := hr S' 3 [] h2 (F0.out 3 (by unfold jbu; rw [if_neg (by rw [ht]; simp), if_pos hb]) _)
   rwa [List.append_nil] at h
  ·have hb2 := hb
   unfold jdi at hb2
   simp only [Bool.or_eq_false_iff, decide_eq_false_iff_not] at hb2
   obtain ⟨w1, w2, w3, w4, w5⟩ := hb2
   refine kT1_z (c := ⟨fn, pl, lp, slc, ords, exs, turn, back, xo, xe⟩) (z := z) u1 (HBB.out.all _ (by simp [exsL])) ⟨bx, HRW.out, u4, u2⟩ (by simp only; omega) u3 (by simp only; omega) (by simp only; omega) hL1 v1 v3 (fun S2 W X r hr0 ho h2 => ?_) (fun ho S2 W X h2 => ?_)
   ·exact hr' S2 r _ h2 (F0.out r (by unfold jbu; rw [if_neg (by rw [ht]; simp), if_neg (by rw [hb]; simp), if_pos (by rw [ho]; exact hr0), ho]) _)
   ·exact hr' S2 _ _ h2 (F0.out _ (by unfold jbu; rw [if_neg (by rw [ht]; simp), if_neg (by rw [hb]; simp), if_neg (by rw [ho]; simp)]) _)
 have RST := Lib.hid rest
 clear rest happ
 by_cases q1 : (1500 : Int) < (ords.length : Int)
 ·have fin := fun X => FIN2.out (by unfold tooB; rw [decide_eq_true q1]; rfl) X
  have fin1 := FIN2.out (by unfold tooB; rw [decide_eq_true q1]; rfl) []
  rw [List.append_nil] at fin1
  repeat' (first | (simp only [zP, jaf, jaa, jad, jae, seval, Nat.reduceLeDiff, bx1, q1, *]) | (simp only [jab]) | (with_reducible apply And.intro) | (with_reducible intro _))
 ·by_cases q2 : (200 : Int) < (exs.length : Int)
  ·have fin1 := FIN2.out (by unfold tooB; rw [decide_eq_true q2]; simp) []
   rw [List.append_nil] at fin1
   repeat' (first | (simp only [zP, jaf, jaa, jad, jae, seval, Nat.reduceLeDiff, bx1, q1, q2, *]) | (simp only [jab]) | (with_reducible apply And.intro) | (with_reducible intro _))
  ·by_cases q3 : (300 : Int) < slc
   ·have fin1 := FIN2.out (by unfold tooB; rw [decide_eq_true q3]; simp) []
    rw [List.append_nil] at fin1
    repeat' (first | (simp only [zP, jaf, jaa, jad, jae, seval, Nat.reduceLeDiff, bx1, q1, q2, q3, *]) | (simp only [jab]) | (with_reducible apply And.intro) | (with_reducible intro _))
   ·repeat' (first | (simp only [zP, jaf, jaa, jad, jae, seval, Nat.reduceLeDiff, bx1, q1, q2, q3, *]) | (simp only [jab]) | (with_reducible apply And.intro) | (with_reducible intro _))
    refine cfX_z (l := exsL ⟨fn, pl, lp, slc, ords, exs, turn, back, xo, xe⟩) (p := jc3) HRW1.out hex (fun m hm K hK => large_z (HBB.out.all m hm) hK) ?_
    have htb : tooB ⟨fn, pl, lp, slc, ords, exs, turn, back, xo, xe⟩ = (exsL ⟨fn, pl, lp, slc, ords, exs, turn, back, xo, xe⟩).any jc3 := by unfold tooB; rw [decide_eq_false q1, decide_eq_false q2, decide_eq_false q3]; rfl
    generalize (exsL ⟨fn, pl, lp, slc, ords, exs, turn, back, xo, xe⟩).any jc3 = lb at htb ⊢
    have HTB := Lib.hid htb
    clear htb
    cases lb with
    | true =>
     have fin1 := FIN2.out HTB.out []
     rw [List.append_nil] at fin1
     repeat' (first | (simp only [zP, jaf, jaa, jad, jae, seval, Nat.reduceLeDiff, bx1, q1, q2, q3, *]) | (simp only [jab]) | (with_reducible apply And.intro) | (with_reducible intro _))
    | false =>
     repeat' (first | (simp only [zP, jaf, jaa, jad, jae, seval, Nat.reduceLeDiff, bx1, q1, q2, q3, *]) | (simp only [jab]) | (with_reducible apply And.intro) | (with_reducible intro _))
     refine RST.out _ _ HTB.out (by simp [zupd]) (by simp [zupd]) (fun S' r X h2 hf => ?_) (fun S' v1 v3 hgo => ?_)
     ·simp only [jbv, jdN]
      rw [h2]; exact ⟨.inr trivial, hf⟩
     ·refine hgo _ fun S2 r X h2 hf => ?_
      show _ ∧ Fin H (S2 2) (H1 ++ X) K
      rw [h2]; exact ⟨.inr rfl, hf⟩
end Go.Proofs.Ytmholkmghhkbhaa

namespace Go.Proofs.Ytmholkmghhkbhaa
open Go Go.RowKit
variable {tb : List (FuncId × Bool)} {L : Nat → Bool} {H : ZH} {K : ZV → ZH → Prop}
abbrev tbO : List (FuncId × Bool) := [(5, true)]
theorem jfA {L : Nat → Bool} {H : ZH} {K : ZV → ZH → Prop} (k : K (ZBo true) H) : ZC (boxY tbO) (jap Try.prog) 5 [] L H K := ZC.const (jnB (tb := tbO) (f := 5) rfl) k
end Go.Proofs.Ytmholkmghhkbhaa

namespace Go.Proofs.Ytmholkmghhkbhaa
open Go Go.RowKit
theorem jea {c : Cd} : ∀ {W : Wr} {l : List Rd}, jdI c W l = 0 ↔ ∀ (k : Nat) x, l[k]? = some x → jbD ((l.take k).foldl wrO W) x c = 0
 | W, [] => by simp [jdI]
 | W, y :: l => by
  unfold jdI
  constructor
  ·intro h k x hx
   split at h
   ·rename_i h0
    match k, hx with
    | 0, hx =>
     simp at hx
     subst hx; exact h0
    | k + 1, hx => exact (jea.1 h) k x (by simpa using hx)
   ·rename_i h0
    exact absurd h h0
  ·intro h
   rw [if_pos (show jbD W y c = 0 from h 0 y rfl)]
   exact jea.2 fun k x hx => h (k + 1) x (by simpa using hx)
structure Ok0 (c : Cd) : Prop where
  too : tooB c = false
  row : jdi c = false
  ord : ∀ (k : Nat) x, c.ords[k]? = some x → jbD (wAtK c k) x c = 0
  fin : endB c (wAtK c c.ords.length) (jkv c) = false
theorem check_ok {c : Cd} : jbu c = 0 ↔ Ok0 c := by
 unfold jbu
 constructor
 ·intro h
  split at h
  ·cases h
  split at h
  ·cases h
  split at h
  ·rename_i h3; exact absurd h h3
  split at h
  ·cases h
  rename_i h1 h2 h3 h4
  exact ⟨by simpa using h1, by simpa using h2, jea.1 (by omega), by simpa using h4⟩
 ·rintro ⟨h1, h2, h3, h4⟩
  have h5 : jdI c (w0 c) c.ords = 0 := jea.2 h3
  rw [if_neg (by rw [h1]; simp), if_neg (by rw [h2]; simp), if_neg (by rw [h5]; simp), if_neg (by rw [h4]; simp)]
structure OrdOk (W : Wr) (x : Rd) (c : Cd) : Prop where
  is : (ofO x.1).2 = true
  right : jcc (ofO x.1).1 x c = true
  reads : ∀ r ∈ jeI x, jep W r = true
  slot : x.1 = 4 → W.slots.getD x.2.2.2.2.1.toNat false = true
  exit : 0 ≤ x.2.2.2.2.2.1 → allB W (exAt c x.2.2.2.2.2.1) = true
/-! ### One more -/
def x1 : Rd := (6, 7, 0, 0, 0, -1, 0, 0)
def x2 : Rd := (1, 6, 7, 0, 0, -1, 0, 0)
end Go.Proofs.Ytmholkmghhkbhaa

namespace Go.Proofs.Ytmholkmghhkbhaa
open Go Go.RowKit
variable {X : XT} {F : FuncId → Option jaL} {f : FuncId} {fl L : Nat → Bool} {w : Wd} {H : ZH} {K : ZV → ZH → Prop}
inductive Wk : ZV → ZV → Prop
  | refl (z : ZV) : Wk z z
  | nil (k : Nat) : Wk .nil (.fz k false [])
def Wks (r r' : List ZV) : Prop := r'.length = r.length ∧ ∀ (i : Nat) z', r'[i]? = some z' → ∃ z, r[i]? = some z ∧ Wk z z'
inductive Wk2 : ZV → ZV → Prop
  | one {z z' : ZV} : Wk z z' → Wk2 z z'
  | rows {k : Nat} {ex : Bool} {rows rows' : List (List ZV)} : rows'.length = rows.length → (∀ r ∈ rows', r.length = k) → Wks rows.flatten rows'.flatten → Wk2 (.fz k ex rows) (.fz k ex rows')
theorem FR.wk {Fr : Nat → Prop} {h : Heap} {z z' : ZV} {a : AV} (hw : Wk z z') (hz : FR Fr h z a) : FR Fr h z' a := by
 cases hw with
 | refl => exact hz
 | nil k => cases hz with
  | val v => exact .fnil (.inl rfl)
theorem ZR.wk {z z' : ZV} {a : AV} (hw : Wk z z') (hz : ZR w z a) : ZR w z' a := by
 cases hw with
 | refl => exact hz
 | nil k => exact .fr (by rw [hz.val_inv]; exact .fnil (.inl rfl))
end Go.Proofs.Ytmholkmghhkbhaa
