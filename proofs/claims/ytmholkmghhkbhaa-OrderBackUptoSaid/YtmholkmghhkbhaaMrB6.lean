/-
  ZM: loops over a list; what is left behind a call.
-/
import Derived.Test.YtmholkmghhkbhaaMrB5
set_option linter.unusedVariables false
set_option linter.unusedSimpArgs false
namespace Go.Proofs.Ytmholkmghhkbhaa
open Go Go.RowKit
variable {fl L : Nat → Bool} {w : Wd} {S : ZS} {s : jah} {H : ZH} {X : XT} {F : FuncId → Option jaL} {G : Gh}

abbrev Z64 (n : Int) : ZV := .val (.int .i64 n)
abbrev ZBo (b : Bool) : ZV := .val (.bool b)

theorem jl0 {base : Nat} {rs : List Nat} {pr : Option (List Nat)} {dst : Option Nat} {op : AOp} {l : List jao} {K : ZS → ZH → Prop} (h : z1c X F L none (zlit G dst) S H (zgo G dst fun z H' => zO X F G L base rs pr l (zput S dst z) H' K) op) : zO X F G L base rs pr (⟨dst, op, none, true⟩ :: l) S H K := by
 simp only [zO, jf1]
 exact ⟨fun _ => by simpa using h, fun q => by cases q⟩

theorem zW_range {B Cn tc ti tl tn : Nat} {body : jar} {K : jaq → ZS → ZH → Prop} (N : Nat) (hN : N < 9223372036854775807) (hG : G.own.lookup tc = none ∧ G.own.lookup tn = none ∧ G.own.lookup ti = none ∧ G.frz.contains tc = false ∧ G.frz.contains tn = false ∧ G.frz.contains ti = false) (hti : S ti = Z64 (0 : Nat)) (htl : S tl = Z64 N) (h1 : tl ∉ wrs body) (h2 : ti ∉ wrs body) (h3 : tc ≠ ti ∧ tc ≠ tl ∧ tn ≠ ti ∧ tn ≠ tl ∧ ti ≠ tl)
  (I : Nat → ZS → ZH → Prop) (h0 : I 0 S H)
  (round : ∀ k s' h', k < N → I k s' h' → s' ti = Z64 k → s' tl = Z64 N → (∀ t, t ∉ wrs body → t ≠ tc → t ≠ ti → t ≠ tn → s' t = S t) →
   zW X F G L body (zupd s' tc (ZBo true)) h' (jbv Cn (jdN (fun s2 h2 => I (k + 1) (zupd (zupd s2 tn (Z64 (k + 1 : Nat))) ti (Z64 (k + 1 : Nat))) h2) (jbv B K))))
  (done : ∀ s' h', I N s' h' → (∀ t, t ∉ wrs body → t ≠ tc → t ≠ ti → t ≠ tn → s' t = S t) → K .normal (zupd s' tc (ZBo false)) h') : zW X F G L (jax B Cn tc ti tl tn body) S H K := by
 obtain ⟨c1, c2, c3, c4, c5⟩ := h3
 obtain ⟨g1, g2, g3, g4, g5, g6⟩ := hG
 have gc : ∀ {K : ZV → ZH → Prop} {z H}, zgo G (some tc) K z H = K z H := by intro K z H; simp only [zgo, g1, g4, Bool.false_eq_true, if_false]
 have gn : ∀ {K : ZV → ZH → Prop} {z H}, zgo G (some tn) K z H = K z H := by intro K z H; simp only [zgo, g2, g5, Bool.false_eq_true, if_false]
 have gi : ∀ {K : ZV → ZH → Prop} {z H}, zgo G (some ti) K z H = K z H := by intro K z H; simp only [zgo, g3, g6, Bool.false_eq_true, if_false]
 show zW X F G L (.loop _) S H (jbv B K)
 refine jjl (fun n s' h' => ∃ k, n = N - k ∧ k ≤ N ∧ I k s' h' ∧ s' ti = Z64 k ∧ s' tl = Z64 N) N ⟨0, by omega, Nat.zero_le _, h0, hti, htl⟩ fun n s' h' hI hs => ?_
 obtain ⟨k, rfl, hk, hIk, hik, hlk⟩ := hI
 have hst : ∀ t, t ∉ wrs body → t ≠ tc → t ≠ ti → t ≠ tn → s' t = S t := fun t q1 q2 q3 q4 => hs t (by simp [wrs, q1, q2, q3, q4])
 show zO X F G L _ _ _ _ s' h' _
 refine jl0 ?_
 refine ⟨.int .i64 k, .int .i64 N, .bool (decide (k < N)), by simp [zev, hik], by simp [zev, hlk], by simp [binV], ?_⟩
 rw [gc]
 show zW X F G L (.seq _ _) _ h' _
 refine ⟨decide (k < N), by simp [zev, zput, zupd], fun ht => ?_, fun hf => ?_⟩
 ·have hlt : k < N := by simpa using ht
  show zW X F G L (.seq _ _) _ h' _
  rw [ht]
  show zW X F G L body (zupd s' tc (ZBo true)) h' (jbv Cn _)
  refine zW_frame (jlY (fun x s2 h2' _ kk hfr => ?_) (round k s' h' hlt hIk hik hlk hst))
  have e1 : s2 ti = Z64 k := by rw [hfr ti (by simpa [wrs] using h2)]; simp only [zupd]; rw [if_neg (Ne.symm c1)]; exact hik
  have e2 : s2 tl = Z64 N := by rw [hfr tl (by simpa [wrs] using h1)]; simp only [zupd]; rw [if_neg (Ne.symm c2)]; exact hlk
  have go : I (k + 1) (zupd (zupd s2 tn (Z64 (k + 1 : Nat))) ti (Z64 (k + 1 : Nat))) h2' → zW X F G L (.ops [⟨some tn, .bin .add (.tmp ti) (.av (.val (.int .i64 1))), none, true⟩, ⟨some ti, .mv (.tmp tn), none, true⟩]) s2 h2'
    (jdN (fun s2 h2 => ∃ m, m < N - k ∧ ∃ k, m = N - k ∧ k ≤ N ∧ I k s2 h2 ∧ s2 ti = Z64 k ∧ s2 tl = Z64 N) (jbv B K)) := by
   intro hI2
   have w1 : IntKind.i64.wrap ((k : Int) + 1) = ((k + 1 : Nat) : Int) := by rw [IntWalk.i64_in _ (by omega)]; omega
   refine jl0 ⟨.int .i64 k, .int .i64 1, .int .i64 (k + 1 : Nat), by simp [zev, e1], by simp [zev], by simp [binV, w1], ?_⟩
   rw [gn]
   refine jl0 ⟨Z64 (k + 1 : Nat), by simp [zev, zput, zupd], ?_⟩
   rw [gi]
   exact ⟨N - (k + 1), by omega, k + 1, rfl, by omega, hI2, by simp [zput, zupd], by simp [zput, zupd, Ne.symm c4, Ne.symm c5, e2]⟩
  cases x with
  | normal => exact go kk
  | exit j =>
   simp only [jbv] at kk ⊢
   by_cases hj : j = Cn
   ·rw [if_pos hj] at kk ⊢; exact go kk
   ·rw [if_neg hj] at kk ⊢; exact kk
  | ret => exact kk
 ·have hge : k = N := by
   have : ¬ k < N := by simpa using hf
   omega
  subst hge
  show (if B = B then K .normal _ h' else _)
  rw [if_pos rfl, hf]
  exact done s' h' hIk hst
theorem zW_for {B Cn tc ti tl tn : Nat} {body : jar} {K : jaq → ZS → ZH → Prop} (N : Nat) (hN : N < 9223372036854775807) (hG : G.own.lookup tc = none ∧ G.own.lookup tn = none ∧ G.own.lookup ti = none ∧ G.frz.contains tc = false ∧ G.frz.contains tn = false ∧ G.frz.contains ti = false) (hti : S ti = Z64 (0 : Nat)) (htl : S tl = Z64 N) (h1 : (wrs body).contains tl = false) (h2 : (wrs body).contains ti = false) (h3 : tc ≠ ti ∧ tc ≠ tl ∧ tn ≠ ti ∧ tn ≠ tl ∧ ti ≠ tl)
  (I : Nat → ZS → ZH → Prop) (h0 : I 0 S H)
  (round : ∀ k s' h', k < N → I k s' h' → s' ti = Z64 k → s' tl = Z64 N → (∀ t, (wrs body ++ [tc, ti, tn]).contains t = false → s' t = S t) →
   zW X F G L body (zupd s' tc (ZBo true)) h' (jbv Cn (jdN (fun s2 h2 => I (k + 1) (zupd (zupd s2 tn (Z64 (k + 1 : Nat))) ti (Z64 (k + 1 : Nat))) h2) (jbv B K))))
  (done : ∀ s' h', I N s' h' → (∀ t, (wrs body ++ [tc, ti, tn]).contains t = false → s' t = S t) → K .normal (zupd s' tc (ZBo false)) h') : zW X F G L (jax B Cn tc ti tl tn body) S H K := by
 have hc : ∀ (l : List Nat) t, l.contains t = false → t ∉ l := fun l t h hm => by
  have := List.contains_iff_mem.2 hm
  rw [h] at this; cases this
 have hcc : ∀ (s' : ZS), (∀ t, t ∉ wrs body → t ≠ tc → t ≠ ti → t ≠ tn → s' t = S t) → ∀ t, (wrs body ++ [tc, ti, tn]).contains t = false → s' t = S t := fun s' hs t ht => by
  have := hc _ _ ht
  simp only [List.mem_append, List.mem_cons, List.not_mem_nil, or_false, not_or] at this
  exact hs t this.1 this.2.1 this.2.2.1 this.2.2.2
 exact zW_range N hN hG hti htl (hc _ _ h1) (hc _ _ h2) h3 I h0 (fun k s' h' a b c d e => round k s' h' a b c d (hcc s' e)) (fun s' h' a b => done s' h' a (hcc s' b))

/-! ### What is left -/
def Fin (H0 : ZH) (z : ZV) (H' : ZH) (K : ZV → ZH → Prop) : Prop := ∀ (fl L : Nat → Bool) (w w' : Wd) (a : AV), ZRel fl L w → w.H = H0 → ZRel fl L w' → Ext w w' → w'.H = H' → ZR w' z a → PK fl L w K a w'.h
theorem Fin.keep {H0 : ZH} {z : ZV} {H' : ZH} {K : ZV → ZH → Prop} (k : K z H') : Fin H0 z H' K := fun fl L w w' a r e r' e' he hz => ⟨z, w', rfl, r', e', hz, he ▸ k⟩
def jbA (n : Nat) : ZV → Bool
  | .own i _ _ _ _ => decide (i < n)
  | .ptr i _ => decide (i < n)
  | .eptr i _ _ _ => decide (i < n)
  | .mp i => decide (i < n)
  | .val _ => true
  | .fz _ _ _ => true
  | .fptr _ _ _ _ => true
  | .func _ caps => caps.isEmpty
  | _ => false
def refs2 (n : Nat) : ZV → Bool
  | .agg cs => cs.all (jbA n)
  | z => jbA n z
def refs (n : Nat) : ZV → Bool
  | .agg cs => cs.all (jbA n)
  | .tuple cs => cs.all (jbA n) || cs.all (refs2 n)
  | .func _ cs => cs.all (jbA n)
  | z => jbA n z
def jiD (n : Nat) : ZB → Bool
  | .box cs => cs.all (jbA n)
  | .grow _ _ rows => rows.flatten.all (jbA n)
  | .dead => true
structure Ren (w w2 : Wd) (n : Nat) : Prop where
  fr : w2.Fr = w.Fr
  h : w2.h = w.h
  lt : ∀ j, j < n → w2.mu j = w.mu j
  get : ∀ (j : Nat) B, j < n → (w2.H[j]? = some B ↔ w.H[j]? = some B)
  ge : ∀ j p, n ≤ j → w2.mu j = some p → ∃ i p0, n ≤ i ∧ w.mu i = some p0 ∧ p0.1 = p.1
  len : n ≤ w2.H.length
section
variable {w2 : Wd} {n : Nat}
theorem Jk.ren (R : Ren w w2 n) {i : Nat} (hi : i < n) {a : AV} (h : Jk w i a) : Jk w2 i a := fun id hid => by
 obtain ⟨h1, h2⟩ := h id hid
 refine ⟨by rw [R.h]; exact h1, fun j p hp e => ?_⟩
 by_cases hj : j < n
 ·rw [R.lt j hj] at hp; exact h2 j p hp e
 ·obtain ⟨j0, p0, q1, q2, q3⟩ := R.ge j p (by omega) hp
  have := h2 j0 p0 q2 (q3.trans e)
  omega
theorem Hdr.ren (R : Ren w w2 n) {i k : Nat} (hi : i < n) {rows : List (List ZV)} {off len : Nat} {ex : Bool} {a : AV} (h : Hdr w i k rows off len ex a) : Hdr w2 i k rows off len ex a := by
 rcases h with ⟨h1, h2, h3, h4, h5⟩ | ⟨id, b, lb, ex', row, h1, h2⟩
 ·exact .inl ⟨(R.lt i hi).trans h1, h2, h3, h4, by rw [R.fr, R.h]; exact h5⟩
 ·exact .inr ⟨id, b, lb, ex', row, (R.lt i hi).trans h1, by rw [R.h]; exact h2⟩
theorem ZR.ren1 (R : Ren w w2 n) {z : ZV} {a : AV} (hz : ZR w z a) (hr : jbA n z = true) : ZR w2 z a := by
 have hlen := R.len
 cases hz with
 | fr hf => exact .fr (by rw [R.fr, R.h]; exact hf)
 | @ptr i o id cs h1 h2 =>
  have hi : i < n := by simpa [jbA] using hr
  exact .ptr ((R.get _ _ hi).2 h1) ((R.lt _ hi).trans h2)
 | @mp i id cs h1 h2 =>
  have hi : i < n := by simpa [jbA] using hr
  exact .mp ((R.get _ _ hi).2 h1) ((R.lt _ hi).trans h2)
 | @own i g off len ex a h1 h2 h3 h4 =>
  have hi : i < n := by simpa [jbA] using hr
  exact .own (by omega) (fun g' k rows hb => ⟨(h2 _ _ _ ((R.get _ _ hi).1 hb)).1, fun e => ((h2 _ _ _ ((R.get _ _ hi).1 hb)).2 e).ren R hi⟩) (h3.ren R hi) h4
 | @eptr i g e o id x h1 h2 h3 =>
  have hi : i < n := by simpa [jbA] using hr
  refine .eptr (by omega) (fun g' k rows hb => ⟨(h2 _ _ _ ((R.get _ _ hi).1 hb)).1, fun e => ?_⟩) (h3.ren R hi)
  obtain ⟨b, q1, q2⟩ := (h2 _ _ _ ((R.get _ _ hi).1 hb)).2 e
  exact ⟨b, (R.lt _ hi).trans q1, q2⟩
 | fptr h1 h2 => exact .fptr (by rw [R.fr, R.h]; exact h1) h2
 | agg h1 h2 => simp [jbA] at hr
 | tuple h1 h2 => simp [jbA] at hr
 | func h1 h2 =>
  simp only [jbA, List.isEmpty_iff] at hr
  subst hr
  exact .func h1 (fun i z a h => by simp at h)
 | bfunc h1 h2 h3 h4 => simp [jbA] at hr
theorem ZRs.ren (R : Ren w w2 n) {zs : List ZV} {ys : List AV} (h : ZRs w zs ys) (hr : zs.all (jbA n) = true) : ZRs w2 zs ys := ⟨h.1, fun i z a h1 h2 => (h.2 i z a h1 h2).ren1 R (List.all_eq_true.1 hr z (List.mem_of_getElem? h1))⟩
theorem ZR.ren2 (R : Ren w w2 n) {z : ZV} {a : AV} (hz : ZR w z a) (hr : refs2 n z = true) : ZR w2 z a := by
 by_cases hc : ∃ cs, z = .agg cs
 ·obtain ⟨cs, rfl⟩ := hc
  obtain ⟨ys, rfl, h⟩ := hz.agg_inv
  exact (h.ren R hr).toAgg
 ·refine hz.ren1 R ?_
  unfold refs2 at hr
  split at hr
  ·exact absurd ⟨_, rfl⟩ hc
  ·exact hr
theorem ZR.ren (R : Ren w w2 n) {z : ZV} {a : AV} (hz : ZR w z a) (hr : refs n z = true) : ZR w2 z a := by
 cases hz with
 | agg h1 h2 => exact (ZRs.ren R ⟨h1, h2⟩ hr).toAgg
 | tuple h1 h2 =>
  simp only [refs, Bool.or_eq_true] at hr
  rcases hr with hr | hr
  ·exact (ZRs.ren R ⟨h1, h2⟩ hr).toTuple
  ·exact .tuple h1 fun i z a e1 e2 => (h2 i z a e1 e2).ren2 R (List.all_eq_true.1 hr z (List.mem_of_getElem? e1))
 | func h1 h2 => exact (ZRs.ren R ⟨h1, h2⟩ hr).toFunc
 | bfunc h1 h2 h3 h4 => simp [refs, jbA] at hr
 | fr hf => exact (ZR.fr hf).ren1 R (by cases hf <;> rfl)
 | ptr h1 h2 => exact (ZR.ptr h1 h2).ren1 R hr
 | mp h1 h2 => exact (ZR.mp h1 h2).ren1 R hr
 | own h1 h2 h3 h4 => exact (ZR.own h1 h2 h3 h4).ren1 R hr
 | eptr h1 h2 h3 => exact (ZR.eptr h1 h2 h3).ren1 R hr
 | fptr h1 h2 => exact (ZR.fptr h1 h2).ren1 R rfl
theorem ZR.renO {w0 : Wd} (e : Ext w0 w) (R : Ren w w2 w0.H.length) {z : ZV} {a : AV} (hz : ZR w z a) : ∀ {a0 : AV}, ZR w0 z a0 → ZR w2 z a := by
 have hl := e.Hl
 have hlen := R.len
 induction hz with
 | fr hf => exact fun _ => .fr (by rw [R.fr, R.h]; exact hf)
 | ptr h1 h2 =>
  intro a0 h0
  obtain ⟨_, cs, _, q, _⟩ := h0.ptr_inv
  exact (ZR.ptr h1 h2).ren1 R (by simpa [jbA] using (List.getElem?_eq_some_iff.1 q).1)
 | mp h1 h2 =>
  intro a0 h0
  obtain ⟨_, cs, _, q, _⟩ := h0.mp_inv
  exact (ZR.mp h1 h2).ren1 R (by simpa [jbA] using (List.getElem?_eq_some_iff.1 q).1)
 | own h1 h2 h3 h4 =>
  intro a0 h0
  have hi : _ < w0.H.length := h0.owner_lt _ (by simp [jaa]; rfl)
  exact (ZR.own h1 h2 h3 h4).ren1 R (by simpa [jbA] using hi)
 | eptr h1 h2 h3 =>
  intro a0 h0
  have hi : _ < w0.H.length := h0.owner_lt _ (by simp [jaa]; rfl)
  exact (ZR.eptr h1 h2 h3).ren1 R (by simpa [jbA] using hi)
 | fptr h1 h2 => exact fun _ => (ZR.fptr h1 h2).ren1 R rfl
 | agg h1 h2 ih =>
  intro a0 h0
  obtain ⟨ys, _, h3⟩ := h0.agg_inv
  exact .agg h1 fun i z a hz ha => by obtain ⟨b, _, hb⟩ := h3.get hz; exact ih i z a hz ha hb
 | tuple h1 h2 ih =>
  intro a0 h0
  obtain ⟨ys, _, h3⟩ := h0.tuple_inv
  exact .tuple h1 fun i z a hz ha => by obtain ⟨b, _, hb⟩ := h3.get hz; exact ih i z a hz ha hb
 | func h1 h2 ih =>
  intro a0 h0
  obtain ⟨ys, _, h3⟩ := h0.func_inv
  exact .func h1 fun i z a hz ha => by obtain ⟨b, _, hb⟩ := h3.get hz; exact ih i z a hz ha hb
 | bfunc h1 h2 _ _ ih ih2 =>
  intro a0 h0
  obtain ⟨ys, us, _, h3, h4⟩ := h0.bfunc_inv
  exact .bfunc h1 h2 (fun i z a hz ha => by obtain ⟨b, _, hb⟩ := h3.get hz; exact ih i z a hz ha hb) (fun i z a hz ha => by obtain ⟨b, _, hb⟩ := h4.get hz; exact ih2 i z a hz ha hb)
end
theorem ren_w {w0 w w2 : Wd} (r0 : ZRel fl L w0) (r : ZRel fl L w) (e : Ext w0 w) (R : Ren w w2 w0.H.length) (hm : ∀ (i : Nat) B, i < w0.H.length → w.H[i]? = some B → w0.H[i]? = some B ∨ jiD w0.H.length B = true)
  (dom : ∀ i p, w2.mu i = some p → i < w2.H.length) (inj : ∀ i j p q, w2.mu i = some p → w2.mu j = some q → p.1 = q.1 → i = j)
  (hx : ∀ (i : Nat) B, w0.H.length ≤ i → w2.H[i]? = some B → ∃ g k rows, B = .grow g k rows ∧ (∀ r ∈ rows, r.length = k) ∧ ((w2.mu i = none ∧ rows = []) ∨ ∃ id b row, w2.mu i = some (id, b) ∧ blk w2.h id = some row ∧ b + rows.length * k ≤ row.length ∧ ZRs w2 rows.flatten ((row.drop b).take (rows.length * k)))) : ZRel fl L w2 ∧ Ext w0 w2 := by
 obtain ⟨n, hn⟩ : ∃ n, n = w0.H.length := ⟨_, rfl⟩
 have old : ∀ {zs : List ZV} {ys ys0 : List AV}, ZRs w zs ys → ZRs w0 zs ys0 → ZRs w2 zs ys := fun h h0 => ⟨h.1, fun i z a h1 h2 => by obtain ⟨b, _, hb⟩ := h0.get h1; exact (h.2 i z a h1 h2).renO e R hb⟩
 have hmu : ∀ i p, w2.mu i = some p → ∃ i0 p0, w.mu i0 = some p0 ∧ p0.1 = p.1 ∧ (i < w0.H.length → i0 = i ∧ p0 = p) ∧ (w0.H.length ≤ i → w0.H.length ≤ i0) := fun i p h => by
  by_cases hi : i < w0.H.length
  ·rw [R.lt i hi] at h; exact ⟨i, p, h, rfl, fun _ => ⟨rfl, rfl⟩, fun q => by omega⟩
  ·obtain ⟨i0, p0, q1, q2, q3⟩ := R.ge i p (by omega) h
   exact ⟨i0, p0, q2, q3, fun q => absurd q hi, fun _ => q1⟩
 refine ⟨⟨by rw [R.h]; exact r.fresh, fun i h => r0.lfresh i (Nat.le_trans R.len h), by rw [R.fr, R.h]; exact r.frlt, dom, inj, fun i p h => ?_, fun i p h hl => ?_, fun i cs h => ?_, fun i g k rows h => ?_⟩,
  ⟨by rw [R.fr]; exact e.frm, by rw [R.h]; exact e.frb, by rw [R.h]; exact e.hl, R.len, fun i p h => ?_, fun i cs h => ?_, fun i cs hi h => e.boxr i cs hi ((R.get i _ hi).1 h), fun i g k rows hi h => ?_⟩⟩
 ·obtain ⟨i0, p0, q1, q2, _⟩ := hmu i p h
  rw [R.fr, R.h, ← q2]; exact r.nfr i0 p0 q1
 ·obtain ⟨i0, p0, q1, q2, q3, q4⟩ := hmu i p h
  rw [← q2]
  by_cases hi : i < w0.H.length
  ·rw [(q3 hi).1] at q1; exact r.wr i p0 q1 hl
  ·exact r.wr i0 p0 q1 (r0.lfresh i0 (q4 (by omega)))
 ·by_cases hi : i < w0.H.length
  ·have hb := (R.get i _ hi).1 h
   obtain ⟨id, row, h1, h2, h3⟩ := r.box i cs hb
   refine ⟨id, row, (R.lt i hi).trans h1, by rw [R.h]; exact h2, ?_⟩
   rcases hm i _ hi hb with h4 | h4
   ·obtain ⟨_, row0, _, _, h5⟩ := r0.box i cs h4
    exact old h3 h5
   ·exact h3.ren R h4
  ·obtain ⟨g, k, rows, q, _⟩ := hx i _ (by omega) h
   cases q
 ·by_cases hi : i < w0.H.length
  ·have hb := (R.get i _ hi).1 h
   obtain ⟨h0, h1 | ⟨id, b, row, h1, h2, h3, h4⟩⟩ := r.grow i g k rows hb
   ·exact ⟨h0, .inl ⟨(R.lt i hi).trans h1.1, h1.2⟩⟩
   ·refine ⟨h0, .inr ⟨id, b, row, (R.lt i hi).trans h1, by rw [R.h]; exact h2, h3, ?_⟩⟩
    rcases hm i _ hi hb with h5 | h5
    ·obtain ⟨_, ⟨_, h6⟩ | ⟨_, _, _, _, _, _, h6⟩⟩ := r0.grow i g k rows h5
     ·subst h6; simp at h4 ⊢; exact .nil
     ·exact old h4 h6
    ·exact h4.ren R h5
  ·obtain ⟨g', k', rows', q, h1⟩ := hx i _ (by omega) h
   injection q with t1 t2 t3; subst t1; subst t2; subst t3
   exact h1
 ·obtain ⟨i0, p0, q1, q2, q3, q4⟩ := hmu i p h
  rcases e.mu i0 p0 q1 with ⟨p', h1, h2⟩ | h1
  ·by_cases hi : i < w0.H.length
   ·rw [(q3 hi).1] at h1; exact .inl ⟨p', h1, h2.trans q2⟩
   ·have := r0.dom i0 p' h1; have := q4 (by omega); omega
  ·exact .inr (by omega)
 ·have hi := (List.getElem?_eq_some_iff.1 h).1
  obtain ⟨⟨cs', h1⟩, h2⟩ := e.box i cs h
  exact ⟨⟨cs', (R.get i _ hi).2 h1⟩, (R.lt i hi).trans h2⟩
 ·obtain ⟨g0, rows0, h1, h2, h3⟩ := e.grow i g k rows hi ((R.get i _ hi).1 h)
  exact ⟨g0, rows0, h1, h2, fun q => by obtain ⟨a1, a2, a3⟩ := h3 q; exact ⟨(R.lt i hi).trans a1, a2, by rw [R.h]; exact a3⟩⟩
def jdL (w : Wd) (n : Nat) : Wd := ⟨w.Fr, fun i => if i < n then w.mu i else none, w.H.take n, w.h⟩
theorem jfj {w : Wd} {n : Nat} (hn : n ≤ w.H.length) : Ren w (jdL w n) n := by
 refine ⟨rfl, rfl, fun j hj => by simp [jdL, hj], fun j B hj => ?_, fun j p hj h => ?_, ?_⟩
 ·show (w.H.take n)[j]? = some B ↔ _
  rw [List.getElem?_take, if_pos hj]
 ·simp only [jdL] at h
  rw [if_neg (by omega)] at h; cases h
 ·show n ≤ (w.H.take n).length
  rw [List.length_take]; omega
theorem jmd {w0 w : Wd} (r0 : ZRel fl L w0) (r : ZRel fl L w) (e : Ext w0 w) (hm : ∀ (i : Nat) B, i < w0.H.length → w.H[i]? = some B → w0.H[i]? = some B ∨ jiD w0.H.length B = true) : ZRel fl L (jdL w w0.H.length) ∧ Ext w0 (jdL w w0.H.length) := by
 have hl := e.Hl
 have hlen : (jdL w w0.H.length).H.length = w0.H.length := by
  show (w.H.take _).length = _
  rw [List.length_take]; omega
 have hmu : ∀ i p, (jdL w w0.H.length).mu i = some p → i < w0.H.length ∧ w.mu i = some p := fun i p h => by
  simp only [jdL] at h
  split at h
  ·exact ⟨by assumption, h⟩
  ·cases h
 exact ren_w r0 r e (jfj hl) hm (fun i p h => by rw [hlen]; exact (hmu i p h).1) (fun i j p q h1 h2 => r.inj i j p q (hmu i p h1).2 (hmu j q h2).2) fun i B hi h => by have := jas h; omega
def Mods (H0 H' : ZH) : Prop := ∀ (i : Nat) B, i < H0.length → H'[i]? = some B → H0[i]? = some B ∨ jiD H0.length B = true
theorem Mods.ext (H0 e : ZH) : Mods H0 (H0 ++ e) := fun i B hi h => by rw [List.getElem?_append_left hi] at h; exact .inl h
theorem Mods.set {H0 H' : ZH} (h : Mods H0 H') {j : Nat} {B : ZB} (hB : jiD H0.length B = true) : Mods H0 (H'.set j B) := fun i C hi hc => by
 rw [List.getElem?_set] at hc
 split at hc
 ·split at hc
  ·injection hc with hc; subst hc; exact .inr hB
  ·cases hc
 ·exact h i C hi hc
theorem Fin.trunc {H0 : ZH} {z : ZV} {H' : ZH} {K : ZV → ZH → Prop} (hm : Mods H0 H') (hz : refs H0.length z = true) (k : K z (H'.take H0.length)) : Fin H0 z H' K := fun fl L w w' a r e r' e' he hzz => by
 subst e; subst he
 obtain ⟨r2, e2⟩ := jmd r r' e' hm
 exact ⟨z, jdL w' w.H.length, rfl, r2, e2, hzz.ren (jfj e'.Hl) hz, k⟩
theorem Fin.frz {H0 : ZH} {i g off len : Nat} {ex : Bool} {H' : ZH} {K : ZV → ZH → Prop} {k : Nat} {rows : List (List ZV)} (hb : H'[i]? = some (.grow g k rows)) (hle : off + len ≤ rows.length) (hp : rows.flatten.all jb2 = true) (hk : Fin H0 (.fz k ex ((rows.drop off).take len)) (H'.set i .dead) K) : Fin H0 (.own i g off len ex) H' K := fun fl L w w' a r e r' e' he hz => by
 subst he
 obtain ⟨w2, e1, e2, e3, e4, e5⟩ := jev r' hb hle hp hz
 rw [← e1]
 exact hk fl L w w2 a r e e3 (e'.trans e4) e2 e5
theorem Fin.frzT {H0 : ZH} {i g off len : Nat} {ex : Bool} {H' : ZH} {K : ZV → ZH → Prop} {k : Nat} {rows : List (List ZV)} {vs : List ZV} {j : Nat} (hj : vs[j]? = some (.own i g off len ex)) (hb : H'[i]? = some (.grow g k rows)) (hle : off + len ≤ rows.length) (hp : rows.flatten.all jb2 = true) (hk : Fin H0 (.tuple (vs.set j (.fz k ex ((rows.drop off).take len)))) (H'.set i .dead) K) : Fin H0 (.tuple vs) H' K := fun fl L w w' a r e r' e' he hz => by
 subst he
 obtain ⟨ys, rfl, hys⟩ := hz.tuple_inv
 obtain ⟨y, hy, hyz⟩ := hys.get hj
 obtain ⟨w2, e1, e2, e3, e4, e5⟩ := jev r' hb hle hp hyz
 rw [← e1]
 refine hk fl L w w2 _ r e e3 (e'.trans e4) e2 (ZRs.toTuple ⟨by simp [hys.1], fun m z a hz' ha' => ?_⟩)
 have hjl : j < vs.length := (List.getElem?_eq_some_iff.1 hj).1
 by_cases hm : m = j
 ·subst hm
  rw [List.getElem?_set] at hz'
  simp [hjl] at hz'
  rw [hy] at ha'; injection ha' with ha'
  subst hz'; subst ha'; exact e5
 ·rw [List.getElem?_set, if_neg (Ne.symm hm)] at hz'
  exact (hys.2 m z a hz' ha').ext e4
theorem own_out {w0 w : Wd} (r0 : ZRel fl L w0) (r : ZRel fl L w) (e : Ext w0 w) (hm : Mods w0.H w.H) {i g off len k : Nat} {ex : Bool} {rows : List (List ZV)} {a : AV} (hi : w0.H.length ≤ i) (hb : w.H[i]? = some (.grow g k rows)) (hle : off + len ≤ rows.length) (hp : rows.flatten.all (jbA w0.H.length) = true) (hz : ZR w (.own i g off len ex) a) :
  ∃ w2, w2.h = w.h ∧ w2.H = w.H.take w0.H.length ++ [.grow 0 k ((rows.drop off).take len)] ∧ ZRel fl L w2 ∧ Ext w0 w2 ∧ ZR w2 (.own w0.H.length 0 0 len false) a ∧ ∀ z b, ZR w z b → refs w0.H.length z = true → ZR w2 z b := by
 obtain ⟨g0, gB⟩ := r.grow _ _ _ _ hb
 have hl := e.Hl
 have hlen : ((rows.drop off).take len).length = len := by rw [List.length_take, List.length_drop]; omega
 have hall : ∀ x ∈ (rows.drop off).take len, x.length = k := fun x hx => g0 x (List.mem_of_mem_drop (List.mem_of_mem_take hx))
 have hHl : (w.H.take w0.H.length).length = w0.H.length := by rw [List.length_take]; omega
 obtain ⟨q, hq⟩ : ∃ q : Option (Nat × Nat), q = (w.mu i).map fun p => (p.1, p.2 + off * k) := ⟨_, rfl⟩
 obtain ⟨w2, hw2⟩ : ∃ w2 : Wd, w2 = ⟨w.Fr, fun j => if j < w0.H.length then w.mu j else if j = w0.H.length then q else none, w.H.take w0.H.length ++ [.grow 0 k ((rows.drop off).take len)], w.h⟩ := ⟨_, rfl⟩
 have f1 : w2.Fr = w.Fr := by rw [hw2]
 have f2 : w2.h = w.h := by rw [hw2]
 have f3 : w2.H = w.H.take w0.H.length ++ [.grow 0 k ((rows.drop off).take len)] := by rw [hw2]
 have m1 : w2.mu w0.H.length = q := by rw [hw2]; simp
 have m2 : ∀ j, j < w0.H.length → w2.mu j = w.mu j := fun j hj => by rw [hw2]; simp [hj]
 have m3 : ∀ j p, w2.mu j = some p → j < w0.H.length ∨ (j = w0.H.length ∧ q = some p) := fun j p h => by
  rw [hw2] at h
  simp only at h
  split at h
  ·exact .inl (by assumption)
  ·split at h
   ·rename_i hj; exact .inr ⟨hj, h⟩
   ·cases h
 have mq : ∀ p, q = some p → ∃ p0, w.mu i = some p0 ∧ p0.1 = p.1 := fun p h => by
  rw [hq] at h
  cases hw : w.mu i with
  | none => rw [hw] at h; cases h
  | some p0 => rw [hw] at h; injection h with h; exact ⟨p0, rfl, by rw [← h]⟩
 have hnew : w2.H[w0.H.length]? = some (.grow 0 k ((rows.drop off).take len)) := by rw [f3, List.getElem?_append_right (by omega), hHl, Nat.sub_self]; rfl
 have R : Ren w w2 w0.H.length := by
  refine ⟨f1, f2, m2, fun j B hj => ?_, fun j p hj h => ?_, by rw [f3]; simp; omega⟩
  ·rw [f3, List.getElem?_append_left (by omega), List.getElem?_take, if_pos hj]
  ·rcases m3 j p h with h1 | ⟨_, h1⟩
   ·omega
   ·obtain ⟨p0, h2, h3⟩ := mq p h1; exact ⟨i, p0, hi, h2, h3⟩
 have hrows : ∀ {id b : Nat} {row : List AV}, w.mu i = some (id, b) → blk w.h id = some row → b + off * k + len * k ≤ row.length ∧ ZRs w2 ((rows.drop off).take len).flatten ((row.drop (b + off * k)).take (len * k)) := fun {id b row} h1 h2 => by
  rcases gB with ⟨n1, _⟩ | ⟨id', b', row', n1, n2, n3, n4⟩
  ·rw [h1] at n1; cases n1
  ·rw [h1] at n1; injection n1 with n1; injection n1 with t1 t2; subst t1; subst t2
   rw [h2] at n2; injection n2 with n2; subst n2
   have hm2 : (off + len) * k ≤ rows.length * k := Nat.mul_le_mul_right _ hle
   rw [Nat.add_mul] at hm2
   have := ((n4.ren R hp).drop (off * k)).take (len * k)
   rw [jbf g0, jbe (fun x hx => g0 x (List.mem_of_mem_drop hx)), List.drop_take, List.drop_drop, List.take_take, Nat.min_eq_left (by omega)] at this
   exact ⟨by omega, this⟩
 have hgr : (w2.mu w0.H.length = none ∧ (rows.drop off).take len = []) ∨ ∃ id b row, w2.mu w0.H.length = some (id, b) ∧ blk w2.h id = some row ∧ b + ((rows.drop off).take len).length * k ≤ row.length ∧ ZRs w2 ((rows.drop off).take len).flatten ((row.drop b).take (((rows.drop off).take len).length * k)) := by
  rw [m1, hq]
  rcases gB with ⟨n1, n2⟩ | ⟨id, b, row, n1, n2, n3, n4⟩
  ·exact .inl ⟨by rw [n1]; rfl, by rw [n2]; simp⟩
  ·obtain ⟨s1, s2⟩ := hrows n1 n2
   exact .inr ⟨id, b + off * k, row, by rw [n1]; rfl, by rw [f2]; exact n2, by rw [hlen]; exact s1, by rw [hlen]; exact s2⟩
 obtain ⟨r2, e2⟩ := ren_w r0 r e R hm (fun j p h => by
   rw [f3]; simp only [List.length_append, List.length_cons, List.length_nil, hHl]
   rcases m3 j p h with h1 | ⟨h1, _⟩ <;> omega)
  (fun j j' p p' h1 h2 he => by
   have key : ∀ j p, w2.mu j = some p → ∃ i0 p0, w.mu i0 = some p0 ∧ p0.1 = p.1 ∧ ((j < w0.H.length ∧ i0 = j) ∨ (j = w0.H.length ∧ i0 = i)) := fun j p h => by
    rcases m3 j p h with h3 | ⟨h3, h4⟩
    ·rw [m2 j h3] at h; exact ⟨j, p, h, rfl, .inl ⟨h3, rfl⟩⟩
    ·obtain ⟨p0, h5, h6⟩ := mq p h4; exact ⟨i, p0, h5, h6, .inr ⟨h3, rfl⟩⟩
   obtain ⟨i1, p1, a1, a2, a3⟩ := key j p h1
   obtain ⟨i2, p2, b1, b2, b3⟩ := key j' p' h2
   have := r.inj i1 i2 p1 p2 a1 b1 (a2.trans (he.trans b2.symm))
   omega)
  (fun j B hj h => by
   have hj' : j = w0.H.length := by
    have := jas h
    rw [f3] at this
    simp only [List.length_append, List.length_cons, List.length_nil, hHl] at this
    omega
   subst hj'
   rw [hnew] at h; injection h with h; subst h
   exact ⟨0, k, _, rfl, hall, hgr⟩)
 refine ⟨w2, f2, f3, r2, e2, ?_, fun z b hb hr => hb.ren R hr⟩
 cases hz with
 | fr hf => cases hf
 | own h1 h2 h3 h4 =>
  rcases (h2 _ _ _ hb).2 rfl with ⟨s1, rfl, rfl, rfl, hq'⟩ | ⟨id, b, lb, ex', row, s1, rfl, s2, s3, s4, s5, s6⟩
  ·refine jer r2 (k := k) (by simpa using hnew) (by rw [m1, hq, s1]; rfl) ?_
   rw [f1, f2]; exact hq'
  ·have := jgo r2 hnew (id := id) (b := b + off * k) (off := 0) (len := len) (lb := lb) (ex := false) (ex' := ex') (row := row) (by rw [m1, hq, s1]; rfl) (by rw [f2]; exact s4) (by omega) s3 (by omega) (fun h => by cases h)
   simpa using this
theorem Fin.own {H0 : ZH} {i g off len : Nat} {ex : Bool} {H' : ZH} {K : ZV → ZH → Prop} {k : Nat} {rows : List (List ZV)} (hm : Mods H0 H') (hi : H0.length ≤ i) (hb : H'[i]? = some (.grow g k rows)) (hle : off + len ≤ rows.length) (hp : rows.flatten.all (jbA H0.length) = true) (hk : K (.own H0.length 0 0 len false) (H'.take H0.length ++ [.grow 0 k ((rows.drop off).take len)])) : Fin H0 (.own i g off len ex) H' K := fun fl L w w' a r e r' e' he hz => by
 subst e; subst he
 obtain ⟨w2, e1, e2, e3, e4, e5, e6⟩ := own_out r r' e' hm hi hb hle hp hz
 exact ⟨_, w2, e1, e3, e4, e5, by rw [e2]; exact hk⟩
/-! ### Calls -/
def zres (S : ZS) (H : ZH) : ARes → Option ZV
  | .tmp t => some (S t)
  | .cell a n => ldZ H n (S a)
def jhn (S : ZS) (H : ZH) : List ARes → Option (List ZV)
  | [] => some []
  | r :: l => match zres S H r, jhn S H l with
    | some z, some zs => some (z :: zs)
    | _, _ => none
def jbH (S : ZS) (H : ZH) : List ARes → Option ZV
  | [r] => zres S H r
  | rs => (jhn S H rs).map .tuple
theorem jho (r : ZRel fl L w) (hS : ∀ t, ZR w (S t) (s t)) {q : ARes} {z : ZV} (h : zres S w.H q = some z) : ∃ a, resA s w.h q = some a ∧ ZR w z a := by
 cases q with
 | tmp t => injection h with h; subst h; exact ⟨_, rfl, hS t⟩
 | cell a n =>
  obtain ⟨id, off, u, e1, e2, e3⟩ := jmP r (hS a) (show ldZ w.H n (S a) = some z from h)
  refine ⟨u, ?_, e3⟩
  simp only [resA, e1]
  cases n with
  | none => exact e2
  | some n =>
   simp only [ldA] at e2
   split at e2
   ·rename_i cs hcs
    show (rd w.h id off n).map AV.agg = _
    rw [hcs]; exact e2
   ·cases e2
theorem jf4 (r : ZRel fl L w) (hS : ∀ t, ZR w (S t) (s t)) : ∀ {l : List ARes} {zs : List ZV}, jhn S w.H l = some zs → ∃ ys, l.mapM (resA s w.h) = some ys ∧ ZRs w zs ys
 | [], zs, h => by simp only [jhn, Option.some.injEq] at h; subst h; exact ⟨[], rfl, .nil⟩
 | q :: l, zs, h => by
  simp only [jhn] at h
  split at h
  ·rename_i z zs' h1 h2
   injection h with h; subst h
   obtain ⟨a, e1, e2⟩ := jho r hS h1
   obtain ⟨ys, e3, e4⟩ := jf4 r hS h2
   exact ⟨a :: ys, by simp [List.mapM_cons, e1, e3], .cons e2 e4⟩
  ·cases h
theorem jd0 (r : ZRel fl L w) (hS : ∀ t, ZR w (S t) (s t)) {l : List ARes} {z : ZV} (h : jbH S w.H l = some z) : ∃ a, jbz l s w.h = some a ∧ ZR w z a := by
 unfold jbH at h
 split at h
 ·exact jho r hS h
 ·rename_i hne
  cases hz : jhn S w.H l with
  | none => rw [hz] at h; cases h
  | some zs =>
   rw [hz] at h
   simp only [Option.map_some, Option.some.injEq] at h
   subst h
   obtain ⟨ys, e1, e2⟩ := jf4 r hS hz
   refine ⟨.tuple ys, ?_, e2.toTuple⟩
   unfold jbz
   split
   ·rename_i q; exact absurd rfl (hne q)
   ·rw [e1]; rfl
theorem ZC.enter {f : FuncId} {af : jaL} {zs : List ZV} {K : ZV → ZH → Prop} (G : Gh) (hx : ∀ args fl h, args.length = zs.length → X.x f args fl h = none) (hf : F f = some af) (hl : zs.length ≤ af.n)
  (hb : zW X F G L af.body (fun t => zs.getD t .no) H fun x S' H' => (x = .normal ∨ x = .ret) ∧ ∃ z, jbH S' H' af.results = some z ∧ Fin H z H' K) : ZC X F f zs L H K := by
 intro fl w args r e ha
 subst e
 refine AC.enter (hx args fl w.h ha.1.symm) hf (by rw [← ha.1]; exact hl) ?_
 have hS : ∀ t, ZR w (zs.getD t .no) (args.getD t .no) := fun t => by
  rw [List.getD_eq_getElem?_getD, List.getD_eq_getElem?_getD]
  cases hz : zs[t]? with
  | none =>
   have : args[t]? = none := by rw [List.getElem?_eq_none_iff] at hz ⊢; rw [← ha.1]; exact hz
   rw [this]; exact ZRs.nil.toTuple
  | some z =>
   obtain ⟨a, h1, h2⟩ := ha.get hz
   rw [h1]; exact h2
 refine (je4 hb fl w _ r rfl hS).mono fun x s' h' p => ?_
 obtain ⟨S', w', rfl, r', e', hS', _, hxx, z, hz, hfin⟩ := p
 obtain ⟨a, h1, h2⟩ := jd0 r' hS' hz
 exact ⟨hxx, a, h1, hfin fl L w w' a r rfl r' e' rfl h2⟩
theorem ZC.enterL {f : FuncId} {af : jaL} {zs : List ZV} {K : ZV → ZH → Prop} (G : Gh) (hx : ∀ args fl h, args.length = zs.length → X.x f args fl h = none) (hf : F f = some af) (hl : zs.length ≤ af.n)
  (hb : (∀ k, L (H.length + k) = true) → zW X F G L af.body (fun t => zs.getD t .no) H fun x S' H' => (x = .normal ∨ x = .ret) ∧ ∃ z, jbH S' H' af.results = some z ∧ Fin H z H' K) : ZC X F f zs L H K := fun fl w args r e ha =>
 ZC.enter G hx hf hl (hb fun k => r.lfresh _ (by rw [e]; omega)) fl w args r e ha
theorem ZC.const {f : FuncId} {zs : List ZV} {K : ZV → ZH → Prop} {v : Value} (hx : ∀ args fl h, args.length = zs.length → X.x f args fl h = some (.val v, h)) (k : K (.val v) H) : ZC X F f zs L H K := fun fl w args r e ha => by
 subst e
 exact AC.const (hx args fl w.h ha.1.symm) ⟨.val v, w, rfl, r, Ext.refl w, .fr (.val v), k⟩
end Go.Proofs.Ytmholkmghhkbhaa

namespace Go.Proofs.Ytmholkmghhkbhaa
open Go Go.RowKit
section
variable {L : Nat → Bool} {S : ZS} {H : ZH} {X : XT} {F : FuncId → Option jaL} {G : Gh} {KK : jaq → ZS → ZH → Prop}

/-! ### What goes on, held back -/
def ZgoO (X : XT) (F : FuncId → Option jaL) (G : Gh) (L : Nat → Bool) (base : Nat) (rs : List Nat) (pr : Option (List Nat)) (l : List jao) (S : ZS) (dst : Option Nat) (K : ZS → ZH → Prop) (z : ZV) (H : ZH) : Prop := zO X F G L base rs pr l (zput S dst z) H K
def ZgoG (G : Gh) (dst : Option Nat) (K : ZV → ZH → Prop) (z : ZV) (H : ZH) : Prop := zgo G dst K z H
def ZgoC (X : XT) (F : FuncId → Option jaL) (G : Gh) (L : Nat → Bool) (c : jar) (K : jaq → ZS → ZH → Prop) (S : ZS) (H : ZH) : Prop := zW X F G L c S H K
section
variable {base : Nat} {rs : List Nat} {pr : Option (List Nat)} {l : List jao} {dst : Option Nat} {K : ZS → ZH → Prop} {z : ZV} {K1 : ZV → ZH → Prop} {c a b : jar} {op : AOp}
theorem zgoO : ZgoO X F G L base rs pr l S dst K z H ↔ zO X F G L base rs pr l (zput S dst z) H K := Iff.rfl
theorem zgoG : ZgoG G dst K1 z H ↔ zgo G dst K1 z H := Iff.rfl
theorem zgoC : ZgoC X F G L c KK S H ↔ zW X F G L c S H KK := Iff.rfl
theorem zgoN : ZgoG Gh.no dst K1 z H ↔ K1 z H := by cases dst <;> exact Iff.rfl
theorem zW_skip : zW X F G L .skip S H KK ↔ KK .normal S H := Iff.rfl
theorem zW_ops : zW X F G L (.ops l) S H KK ↔ zO X F G L H.length [] none l S H (KK .normal) := Iff.rfl
theorem zW_opsD : zW X F G L (.opsD l) S H KK ↔ zO X.det F G L H.length [] none l S H (KK .normal) := Iff.rfl
theorem det_mk {x : jaJ} {b : Bool} {pn : PX} : XT.det ⟨x, b, pn⟩ = ⟨x, false, pn⟩ := rfl
theorem zW_str {src : Opd} {it nx more pair out nb : Nat} {pre asg : List jao} {body : jar} (hit : (asg.filterMap (·.dst) ++ wrs body ++ [nx, more, pair]).contains it = false) (h : zO X F G L H.length [] none pre S H fun S' H' => ∃ t, zev S' src = some (.val (.string t)) ∧ ZstrL X F L nx more out nb asg body (asg.filterMap (·.dst) ++ wrs body ++ [nx, more, pair]) KK t (zupd S' it (.eptr H'.length 0 0 0)) (H' ++ [.dead])) : zW X F G L (.rng false src it nx more pair out nb pre asg body) S H KK :=
 ⟨hit, by simpa using h⟩
theorem jio {out nb : Nat} {go : ZS → ZH → Prop} : zrng out nb go KK .normal S H ↔ go S H := Iff.rfl
theorem jls {out nb j : Nat} {go : ZS → ZH → Prop} : zrng out nb go KK (.exit j) S H ↔ (if j = nb then go S H else if j = out then KK .normal S H else KK (.exit j) S H) := Iff.rfl
theorem zrng_ret {out nb : Nat} {go : ZS → ZH → Prop} : zrng out nb go KK .ret S H ↔ KK .ret S H := Iff.rfl
theorem zW_seq : zW X F G L (.seq a b) S H KK ↔ zW X F G L a S H (jdN (ZgoC X F G L b KK) KK) := Iff.rfl
theorem zW_cond {x : Opd} : zW X F G L (.cond x a b) S H KK ↔ ∃ t, zev S x = some (.val (.bool t)) ∧ (t = true → zW X F G L a S H KK) ∧ (t = false → zW X F G L b S H KK) := Iff.rfl
theorem zW_block {id : Nat} : zW X F G L (.block id c) S H KK ↔ zW X F G L c S H (jbv id KK) := Iff.rfl
theorem zW_exit {id : Nat} : zW X F G L (.exit id) S H KK ↔ KK (.exit id) S H := Iff.rfl
theorem zW_scope : zW X F G L (.scope c) S H KK ↔ zW X F G L c S H KK := Iff.rfl
theorem zW_ret : zW X F G L .ret S H KK ↔ KK .ret S H := Iff.rfl
theorem jeF {k1 : ZS → ZH → Prop} : jdN k1 KK .normal S H ↔ k1 S H := Iff.rfl
theorem jj9 {k1 : ZS → ZH → Prop} {id : Nat} : jdN k1 KK (.exit id) S H ↔ KK (.exit id) S H := Iff.rfl
theorem jlr {k1 : ZS → ZH → Prop} : jdN k1 KK .ret S H ↔ KK .ret S H := Iff.rfl
theorem jgO {id : Nat} : jbv id KK .normal S H ↔ KK .normal S H := Iff.rfl
theorem jiq {id j : Nat} : jbv id KK (.exit j) S H ↔ (if j = id then KK .normal S H else KK (.exit j) S H) := Iff.rfl
theorem jke {id : Nat} : jbv id KK .ret S H ↔ KK .ret S H := Iff.rfl
theorem zO_nil : zO X F G L base rs pr [] S H K ↔ K S H := Iff.rfl
def jf9 : ZV → Bool → Option Bool
  | .val (.bool b), w => some (b == w)
  | .val _, _ => some false
  | .tuple [], _ => some false
  | _, _ => none
theorem jix {b w : Bool} : jf9 (.val (.bool b)) w = some (b == w) := rfl
theorem jl7 {w : Bool} : jf9 .no w = some false := rfl
theorem zO_next : zO X F G L base rs pr (⟨dst, op, none, true⟩ :: l) S H K ↔ z1c X F L none (zlit G dst) S H (ZgoG G dst (ZgoO X F G L base rs pr l S dst K)) op := by
 show jfZ (some true) (if true = true then _ else _) _ ↔ _
 rw [jdy, if_pos rfl]; exact Iff.rfl
theorem jfh {t : Nat} {wt : Bool} {iso : Bool} : jf1 ⟨dst, op, some (t, wt), iso⟩ S = jf9 (S t) wt := by
 unfold jf1 jf9
 simp only
 cases S t with
 | val v => cases v <;> rfl
 | tuple l => cases l <;> rfl
 | _ => rfl
theorem zO_nextW {t : Nat} {wt : Bool} : zO X F G L base rs pr (⟨dst, op, some (t, wt), true⟩ :: l) S H K ↔ jfZ (jf9 (S t) wt) (z1c X F L none (zlit G dst) S H (ZgoG G dst (ZgoO X F G L base rs pr l S dst K)) op) (ZgoO X F G L base rs pr l S dst K .no H) := by
 show jfZ (jf1 _ S) (if true = true then _ else _) _ ↔ _
 rw [jfh, if_pos rfl]; exact Iff.rfl
def jaf (X : XT) (F : FuncId → Option jaL) (G : Gh) (L : Nat → Bool) (base : Nat) (rs : List Nat) (pr : Option (List Nat)) (o : jao) (l : List jao) (S : ZS) (H : ZH) (K : ZS → ZH → Prop) : Prop :=
  ∃ fb, jd4 rs o l S = some fb ∧ ∃ rs', zrs rs o S = rs' ∧ ∃ pr', zpr rs pr o l S = pr' ∧ z1c X F (fun i => L i && !fb.contains i) (some (base, pr)) (zlit G o.dst) S H (ZgoG G o.dst (ZgoO X F G L base rs' pr' l S o.dst K)) o.op
theorem zO_nextF : zO X F G L base rs pr (⟨dst, op, none, false⟩ :: l) S H K ↔ jaf X F G L base rs pr ⟨dst, op, none, false⟩ l S H K := by
 show jfZ (some true) (if false = true then _ else _) _ ↔ _
 rw [jdy, if_neg (by simp)]
 unfold jaf
 constructor
 ·rintro ⟨fb, h1, h2⟩; exact ⟨fb, h1, _, rfl, _, rfl, h2⟩
 ·rintro ⟨fb, h1, _, rfl, _, rfl, h2⟩; exact ⟨fb, h1, h2⟩
theorem jlZ {t : Nat} {wt : Bool} : zO X F G L base rs pr (⟨dst, op, some (t, wt), false⟩ :: l) S H K ↔ jfZ (jf9 (S t) wt) (jaf X F G L base rs pr ⟨dst, op, some (t, wt), false⟩ l S H K) (ZgoO X F G L base rs pr l S dst K .no H) := by
 have : jaf X F G L base rs pr ⟨dst, op, some (t, wt), false⟩ l S H K ↔ (∃ fb, jd4 rs ⟨dst, op, some (t, wt), false⟩ l S = some fb ∧ z1c X F (fun i => L i && !fb.contains i) (some (base, pr)) (zlit G dst) S H (zgo G dst fun z H' => zO X F G L base (zrs rs ⟨dst, op, some (t, wt), false⟩ S) (zpr rs pr ⟨dst, op, some (t, wt), false⟩ l S) l (zput S dst z) H' K) op) := by
  unfold jaf
  constructor
  ·rintro ⟨fb, h1, _, rfl, _, rfl, h2⟩; exact ⟨fb, h1, h2⟩
  ·rintro ⟨fb, h1, h2⟩; exact ⟨fb, h1, _, rfl, _, rfl, h2⟩
 rw [this]
 show jfZ (jf1 _ S) (if false = true then _ else _) _ ↔ _
 rw [jfh, if_neg (by simp)]; exact Iff.rfl
end

/-! ### Operations -/
section
variable {top : Option (Nat × Option (List Nat))} {gl : Bool} {K : ZV → ZH → Prop}
theorem z_mv {x : Opd} : z1c X F L top gl S H K (.mv x) ↔ ∃ z, zev S x = some z ∧ K z H := Iff.rfl
theorem z_pick {c a b : Opd} : z1c X F L top gl S H K (.pick c a b) ↔ ∃ t x y, zev S c = some (.val (.bool t)) ∧ zev S a = some x ∧ zev S b = some y ∧ K (if t = true then x else y) H := Iff.rfl
theorem z_box {n : Nat} {x : Opd} : z1c X F L top gl S H K (.box n x) ↔ ∃ z, zev S x = some z ∧ z.cells.length = n ∧ z.cells.all ZV.isCell = true ∧ K (.ptr H.length 0) (H ++ [.box z.cells]) := Iff.rfl
theorem z_zero {cs : List AV} : z1c X F L top gl S H K (.zero cs) ↔ ∃ zs, zcs cs = some zs ∧ (if gl = true then K (.eptr H.length 0 0 0) (H ++ [.grow 0 zs.length [zs]]) else K (.ptr H.length 0) (H ++ [.box zs])) := Iff.rfl
theorem z_build {z : List AV} {ps : List (Nat × Nat × Opd)} : z1c X F L top gl S H K (.build z ps) ↔ ∃ zs qs cs, zcs z = some zs ∧ jcY S ps = some qs ∧ jeX zs qs = some cs ∧ K (.agg cs) H := Iff.rfl
theorem z_lits {k len : Nat} {z : List AV} {ps : List (Nat × Nat × Opd)} : z1c X F L top gl S H K (.lits k len z ps) ↔ ∃ zs qs cs, zcs z = some zs ∧ jcY S ps = some qs ∧ jeX zs qs = some cs ∧ cs.length = len * k ∧ cs.all ZV.isCell = true ∧
   (if gl = true then K (.own H.length 0 0 len true) (H ++ [.grow 0 k (jad len k cs)]) else cs.all jb2 = true ∧ K (.fz k true (jad len k cs)) H) := Iff.rfl
theorem z_load {n : Option Nat} {x : Opd} : z1c X F L top gl S H K (.load n x) ↔ ∃ z v, zev S x = some z ∧ topZ top z = true ∧ ldZ H n z = some v ∧ K v H := Iff.rfl
theorem z_store {n : Nat} {a v : Opd} : z1c X F L top gl S H K (.store n a v) ↔ ∃ p z H', zev S a = some p ∧ zev S v = some z ∧ z.cells.length = n ∧ z.cells.all ZV.isCell = true ∧ stZ L H z.cells p = some H' ∧ K .no H' := Iff.rfl
theorem jkq {x : Opd} : z1c X F L top gl S H K (.nilCheck x) ↔ ∃ z, zev S x = some z ∧ jeO z = true ∧ K z H := Iff.rfl
theorem z_bin {op : BinOp} {x y : Opd} : z1c X F L top gl S H K (.bin op x y) ↔ ∃ a b v, zev S x = some (.val a) ∧ zev S y = some (.val b) ∧ binV op a b = some v ∧ K (.val v) H := Iff.rfl
theorem z_eqNil {neg : Bool} {kd : Nat} {x : Opd} : z1c X F L top gl S H K (.eqNil neg kd x) ↔ ∃ z, zev S x = some z ∧ ((∃ b, nilZ H kd z = some b ∧ K (.val (.bool (if neg = true then !b else b))) H) ∨ ((∃ k ex, z = .fz k ex [] ∧ kd = 0) ∧ ∀ b, K (.val (.bool b)) H)) := Iff.rfl
theorem z_eqBool {neg : Bool} {x y : Opd} : z1c X F L top gl S H K (.eqBool neg x y) ↔ ∃ a b, zev S x = some (.val (.bool a)) ∧ zev S y = some (.val (.bool b)) ∧ K (.val (.bool (if neg = true then !(a == b) else a == b))) H := Iff.rfl
theorem z_eqAgg {neg : Bool} {ks : List Nat} {x y : Opd} : z1c X F L top gl S H K (.eqAgg neg ks x y) ↔ ∃ a b t, zev S x = some (.agg a) ∧ zev S y = some (.agg b) ∧ jdG ks a b = some t ∧ K (.val (.bool (if neg = true then !t else t))) H := Iff.rfl
theorem z_un {op : UnOp} {x : Opd} : z1c X F L top gl S H K (.un op x) ↔ ∃ a v, zev S x = some (.val a) ∧ unV op a = some v ∧ K (.val v) H := Iff.rfl
theorem z_conv {kd : IntKind} {x : Opd} : z1c X F L top gl S H K (.conv kd x) ↔ ∃ k' n, zev S x = some (.val (.int k' n)) ∧ K (.val (.int kd (kd.wrap n))) H := Iff.rfl
theorem z_field {off : Nat} {n : Option Nat} {x : Opd} : z1c X F L top gl S H K (.field off n x) ↔ ∃ cs v, zev S x = some (.agg cs) ∧ jcD cs off n = some v ∧ K v H := Iff.rfl
theorem jiw {off : Nat} {x : Opd} : z1c X F L top gl S H K (.fieldAddr off x) ↔ ∃ z v, zev S x = some z ∧ addZ off z = some v ∧ K v H := Iff.rfl
theorem jiv {k : Nat} {x i : Opd} : z1c X F L top gl S H K (.indexAddr k x i) ↔ ∃ z y j v, zev S x = some z ∧ zev S i = some y ∧ natZ y = some j ∧ jf2 H k j z = some v ∧ K v H := Iff.rfl
theorem jks {k len : Nat} {x i : Opd} : z1c X F L top gl S H K (.indexArr k len x i) ↔ ∃ z y j v, zev S x = some z ∧ zev S i = some y ∧ natZ y = some j ∧ j < len ∧ addZ (j * k) z = some v ∧ K v H := Iff.rfl
theorem z_index {k len : Nat} {n : Option Nat} {x i : Opd} : z1c X F L top gl S H K (.index k len n x i) ↔ ∃ cs y j v, zev S x = some (.agg cs) ∧ zev S i = some y ∧ natZ y = some j ∧ j < len ∧ jcD cs (j * k) n = some v ∧ K v H := Iff.rfl
theorem jkr {x i : Opd} : z1c X F L top gl S H K (.indexStr x i) ↔ ∃ t y j b, zev S x = some (.val (.string t)) ∧ zev S i = some y ∧ natZ y = some j ∧ t[j]? = some b ∧ K (.val (.int .u8 b.toNat)) H := Iff.rfl
theorem z_slice {k : Nat} {x : Opd} {lo hi mx : Option Opd} : z1c X F L top gl S H K (.slice k x lo hi mx) ↔ ∃ z n l u m v, zev S x = some z ∧ lenZ H z = some n ∧ numZ S 0 lo = some l ∧ numZ S n hi = some u ∧ numZ S n mx = some m ∧ cutZ H k l u m mx.isSome z = some v ∧ K v H := Iff.rfl
theorem jlW {k bytes : Nat} {z : List AV} {l c : Opd} : z1c X F L top gl S H K (.mkSlice k bytes z l c) ↔ ∃ x y a b zs, zev S l = some x ∧ zev S c = some y ∧ natZ x = some a ∧ natZ y = some b ∧ zcs z = some zs ∧ zs.length = k ∧ a ≤ b ∧ b * bytes ≤ jaN ∧ K (.own H.length 0 0 a (a == b)) (H ++ [.grow 0 k (List.replicate a zs)]) := Iff.rfl
theorem jlX {i : Nat} {x : Opd} : z1c X F L top gl S H K (.extract i x) ↔ ∃ vs v, zev S x = some (.tuple vs) ∧ vs[i]? = some v ∧ K v H := Iff.rfl
theorem z_func {f : FuncId} {caps : List Opd} : z1c X F L top gl S H K (.func f caps) ↔ ∃ zs, zevs S caps = some zs ∧ K (.func f zs) H := Iff.rfl
theorem z_call {f : Opd} {args : List Opd} : z1c X F L top gl S H K (.call f args) ↔ ∃ z zs g vs, zev S f = some z ∧ zevs S args = some zs ∧ jcy z zs = some (g, vs) ∧ ZC X F g vs L H K := Iff.rfl
theorem jht {f : FuncId} {caps zs : List ZV} : jcy (.func f caps) zs = some (f, zs ++ caps) := rfl
theorem jgP {f : FuncId} {first caps zs : List ZV} : jcy (.bfunc f first caps) zs = some (f, first ++ zs ++ caps) := rfl
theorem z_bfunc {f : FuncId} {first caps : List Opd} : z1c X F L top gl S H K (.bfunc f first caps) ↔ ∃ zs us, zevs S first = some zs ∧ zevs S caps = some us ∧ K (.bfunc f zs us) H := Iff.rfl
theorem jkp {k n : Nat} {x : Opd} {lo hi mx : Option Opd} : z1c X F L top gl S H K (.sliceArr k n x lo hi mx) ↔ ∃ i g kk row l u m, zev S x = some (.eptr i g 0 0) ∧ H[i]? = some (.grow g kk [row]) ∧ row.all jb2 = true ∧ row.length = n * k ∧ L i = true ∧ numZ S 0 lo = some l ∧ numZ S n hi = some u ∧ numZ S n mx = some m ∧ l ≤ u ∧ u ≤ m ∧ m ≤ n ∧ K (.fz k false (((jad n k row).drop l).take (u - l))) (H.set i .dead) := Iff.rfl
theorem z_append {k bytes : Nat} {x y : Opd} : z1c X F L top gl S H K (.append k bytes x y) ↔ ∃ z u new v H', zev S x = some z ∧ zev S y = some u ∧ jaX H k u = some new ∧ appZ L H k bytes new z = some (v, H') ∧ K v H' := Iff.rfl
theorem z_len {x : Opd} : z1c X F L top gl S H K (.len x) ↔ ∃ z n, zev S x = some z ∧ lenZ H z = some n ∧ K (.val (.int .i64 n)) H := Iff.rfl
theorem z_lenStr {x : Opd} : z1c X F L top gl S H K (.lenStr x) ↔ ∃ t, zev S x = some (.val (.string t)) ∧ K (.val (.int .i64 t.size)) H := Iff.rfl
theorem z_copy {k : Nat} {x y : Opd} : z1c X F L top gl S H K (.copy k x y) ↔ ∃ z u new n H', zev S x = some z ∧ zev S y = some u ∧ jaX H k u = some new ∧ jni L H k new z = some (n, H') ∧ K (.val (.int .i64 (n : Nat))) H' := Iff.rfl
theorem z_minmax {mx : Bool} {x : Opd} {xs : List Opd} : z1c X F L top gl S H K (.minmax mx x xs) ↔ ∃ z zs v, zev S x = some z ∧ zevs S xs = some zs ∧ jid mx z zs = some v ∧ K v H := Iff.rfl
end

/-! ### Operands, slots -/
theorem zev_tmp {t : Nat} : zev S (.tmp t) = some (S t) := rfl
theorem zev_val {v : Value} : zev S (.av (.val v)) = some (.val v) := rfl
theorem zev_func {f : FuncId} : zev S (.av (.func f [])) = some (.func f []) := rfl
theorem zev_agg {cs : List AV} : zev S (.av (.agg cs)) = (zcs cs).map .agg := rfl
theorem zev_no : zev S (.av (.tuple [])) = some .no := rfl
theorem zevs_nil : zevs S [] = some [] := rfl
theorem jlR {x : Opd} {l : List Opd} {zs : List ZV} : zevs S (x :: l) = some zs ↔ ∃ z r, zev S x = some z ∧ zevs S l = some r ∧ z :: r = zs := by
 simp only [zevs]
 constructor
 ·intro h
  split at h
  ·rename_i z r h1 h2; injection h with h; exact ⟨z, r, h1, h2, h⟩
  ·cases h
 ·rintro ⟨z, r, h1, h2, rfl⟩; rw [h1, h2]
theorem zcs_nil : zcs [] = some [] := rfl
theorem zcs_cons {v : Value} {l : List AV} : zcs (.val v :: l) = (zcs l).map (ZV.val v :: ·) := rfl
theorem jkb : jcY S [] = some [] := rfl
theorem jip {o n : Nat} {x : Opd} {r : List (Nat × Nat × Opd)} {qs : List (Nat × Nat × ZV)} : jcY S ((o, n, x) :: r) = some qs ↔ ∃ z l, zev S x = some z ∧ jcY S r = some l ∧ (o, n, z) :: l = qs := by
 simp only [jcY]
 constructor
 ·intro h
  split at h
  ·rename_i z l h1 h2; injection h with h; exact ⟨z, l, h1, h2, h⟩
  ·cases h
 ·rintro ⟨z, l, h1, h2, rfl⟩; rw [h1, h2]
theorem jm2 {cs : List ZV} : jeX cs [] = some cs := rfl
theorem jkV {cs cs' : List ZV} {o n : Nat} {v : ZV} {r : List (Nat × Nat × ZV)} : jeX cs ((o, n, v) :: r) = some cs' ↔ (v.cells.length = n ∧ o + n ≤ cs.length ∧ v.cells.all ZV.isCell = true) ∧ jeX (jae cs o v.cells) r = some cs' := by
 simp only [jeX]
 constructor
 ·intro h
  split at h
  ·exact ⟨by assumption, h⟩
  ·cases h
 ·rintro ⟨h1, h2⟩; rw [if_pos h1]; exact h2
theorem jlv {d : Nat} {v : ZV} : zput S (some d) v = zupd S d v := rfl
theorem jlw {v : ZV} : zput S none v = S := rfl
theorem jaE {d t : Nat} {v : ZV} : zupd S d v t = if t = d then v else S t := rfl
theorem zlit_no {d : Option Nat} : zlit Gh.no d = false := by cases d <;> rfl
theorem jlG {d : Nat} : zlit G (some d) = G.lit.contains d := rfl
theorem jme {z : ZV} : (topZ none z = true) = True := by simp [topZ]
theorem jkx {b i o : Nat} : (topZ (some (b, none)) (.ptr i o) = true) ↔ i < b := by simp [topZ]
theorem jkw {b i o : Nat} {l : List Nat} : (topZ (some (b, some l)) (.ptr i o) = true) ↔ i < b ∧ l.contains i = true := by simp [topZ]
theorem jg9 {n : Nat} : natZ (Z64 (n : Nat)) = some n := by simp [natZ]
theorem jcv {n : Int} (h : 0 ≤ n) : natZ (Z64 n) = some n.toNat := by simp [natZ, h]
theorem jkk {v : Value} : (ZV.val v).cells = [.val v] := rfl
theorem jlS {k : Nat} {ex : Bool} {rows : List (List ZV)} : (ZV.fz k ex rows).cells = [.fz k ex rows] := rfl
theorem jkm {i g o l : Nat} {ex : Bool} : (ZV.own i g o l ex).cells = [.own i g o l ex] := rfl
theorem jkl {i o : Nat} : (ZV.ptr i o).cells = [.ptr i o] := rfl
theorem jiu {f : FuncId} {c : List ZV} : (ZV.func f c).cells = [.func f c] := rfl
theorem jkn {cs : List ZV} : (ZV.agg cs).cells = cs := rfl
theorem jlT {v : Value} : (ZV.val v).isCell = true := rfl
theorem zcell_fz {k : Nat} {ex : Bool} {rows : List (List ZV)} : (ZV.fz k ex rows).isCell = true := rfl
theorem jlV {i g o l : Nat} {ex : Bool} : (ZV.own i g o l ex).isCell = true := rfl
theorem jlU {i o : Nat} : (ZV.ptr i o).isCell = true := rfl
theorem jko {f : FuncId} {c : List ZV} : (ZV.func f c).isCell = true := rfl
theorem pure_val {v : Value} : jb2 (.val v) = true := rfl
theorem pure_fz {k : Nat} {ex : Bool} {rows : List (List ZV)} : jb2 (.fz k ex rows) = true := rfl
theorem jkO {i o : Nat} : jeO (.ptr i o) = true := rfl
theorem jiO {i g e o : Nat} : jeO (.eptr i g e o) = true := rfl
theorem jiN {k : Nat} {rows : List (List ZV)} {j o : Nat} : jeO (.fptr k rows j o) = true := rfl
theorem jiM {f : FuncId} {c : List ZV} : jeO (.func f c) = true := rfl
theorem add_ptr {n i o : Nat} : addZ n (.ptr i o) = some (.ptr i (o + n)) := rfl
theorem add_eptr {n i g e o : Nat} : addZ n (.eptr i g e o) = some (.eptr i g e (o + n)) := rfl
theorem add_fptr {n k : Nat} {rows : List (List ZV)} {j o : Nat} : addZ n (.fptr k rows j o) = some (.fptr k rows j (o + n)) := rfl
theorem jmC {cs : List ZV} {o : Nat} : jcD cs o none = cs[o]? := rfl
theorem jmB {cs : List ZV} {o n : Nat} {v : ZV} : jcD cs o (some n) = some v ↔ o + n ≤ cs.length ∧ .agg ((cs.drop o).take n) = v := by
 simp only [jcD]
 constructor
 ·intro h
  split at h
  ·injection h with h; exact ⟨by assumption, h⟩
  ·cases h
 ·rintro ⟨h1, rfl⟩; rw [if_pos h1]
theorem jnc {k j : Nat} {ex : Bool} {rows : List (List ZV)} {v : ZV} : jf2 H k j (.fz k ex rows) = some v ↔ j < rows.length ∧ .fptr k rows j 0 = v := by
 simp only [jf2]
 constructor
 ·intro h
  split at h
  ·rename_i hc; injection h with h; exact ⟨hc.2, h⟩
  ·cases h
 ·rintro ⟨h1, rfl⟩; rw [if_pos ⟨trivial, h1⟩]
theorem jjK {k j i g off len : Nat} {ex : Bool} {v : ZV} : jf2 H k j (.own i g off len ex) = some v ↔ ∃ rows, H[i]? = some (.grow g k rows) ∧ off + len ≤ rows.length ∧ j < len ∧ .eptr i g (off + j) 0 = v := by
 simp only [jf2]
 constructor
 ·intro h
  split at h
  ·rename_i g' k' rows hb
   split at h
   ·rename_i hc
    obtain ⟨rfl, rfl, h1, h2⟩ := hc
    injection h with h; exact ⟨rows, hb, h1, h2, h⟩
   ·cases h
  ·cases h
 ·rintro ⟨rows, h1, h2, h3, rfl⟩; rw [h1]; simp only; rw [if_pos ⟨trivial, trivial, h2, h3⟩]
theorem ld_ptr {n : Option Nat} {i o : Nat} {v : ZV} : ldZ H n (.ptr i o) = some v ↔ ∃ cs, H[i]? = some (.box cs) ∧ jcD cs o n = some v := by
 simp only [ldZ]
 constructor
 ·intro h
  split at h
  ·rename_i cs hb; exact ⟨cs, hb, h⟩
  ·cases h
 ·rintro ⟨cs, h1, h2⟩; rw [h1]; exact h2
theorem jmR {n : Option Nat} {i g e o : Nat} {v : ZV} : ldZ H n (.eptr i g e o) = some v ↔ ∃ k rows r, H[i]? = some (.grow g k rows) ∧ rows[e]? = some r ∧ jcD r o n = some v := by
 simp only [ldZ]
 constructor
 ·intro h
  split at h
  ·rename_i g' k rows hb
   split at h
   ·rename_i hg; subst hg
    split at h
    ·rename_i r hr; exact ⟨k, rows, r, hb, hr, h⟩
    ·cases h
   ·cases h
  ·cases h
 ·rintro ⟨k, rows, r, h1, h2, h3⟩; rw [h1]; simp only [if_true]; rw [h2]; exact h3
theorem jmQ {n : Option Nat} {k : Nat} {rows : List (List ZV)} {j o : Nat} {v : ZV} : ldZ H n (.fptr k rows j o) = some v ↔ ∃ r, rows[j]? = some r ∧ jcD r o n = some v := by
 simp only [ldZ]
 constructor
 ·intro h
  split at h
  ·rename_i r hr; exact ⟨r, hr, h⟩
  ·cases h
 ·rintro ⟨r, h1, h2⟩; rw [h1]; exact h2
theorem st_ptr {vs : List ZV} {i o : Nat} {H' : ZH} : stZ L H vs (.ptr i o) = some H' ↔ ∃ cs, H[i]? = some (.box cs) ∧ L i = true ∧ o + vs.length ≤ cs.length ∧ H.set i (.box (jae cs o vs)) = H' := by
 simp only [stZ]
 constructor
 ·intro h
  split at h
  ·rename_i cs hb
   split at h
   ·rename_i hc; injection h with h; exact ⟨cs, hb, hc.1, hc.2, h⟩
   ·cases h
  ·cases h
 ·rintro ⟨cs, h1, h2, h3, rfl⟩; rw [h1]; simp only; rw [if_pos ⟨h2, h3⟩]
theorem jmf {vs : List ZV} {i g e o : Nat} {H' : ZH} : stZ L H vs (.eptr i g e o) = some H' ↔ ∃ k rows r, H[i]? = some (.grow g k rows) ∧ rows[e]? = some r ∧ L i = true ∧ o + vs.length ≤ r.length ∧ H.set i (.grow g k (rows.set e (jae r o vs))) = H' := by
 simp only [stZ]
 constructor
 ·intro h
  split at h
  ·rename_i g' k rows hb
   split at h
   ·rename_i hg; subst hg
    split at h
    ·rename_i r hr
     split at h
     ·rename_i hc; injection h with h; exact ⟨k, rows, r, hb, hr, hc.1, hc.2, h⟩
     ·cases h
    ·cases h
   ·cases h
  ·cases h
 ·rintro ⟨k, rows, r, h1, h2, h3, h4, rfl⟩; rw [h1]; simp only [if_true]; rw [h2]; simp only; rw [if_pos ⟨h3, h4⟩]
theorem rows_nil {k : Nat} : jaX H k .nil = some [] := rfl
theorem rows_fz {k : Nat} {ex : Bool} {rows : List (List ZV)} : jaX H k (.fz k ex rows) = some rows := by simp [jaX]
theorem rows_own {k i g off len : Nat} {ex : Bool} {r : List (List ZV)} : jaX H k (.own i g off len ex) = some r ↔ ∃ rows, H[i]? = some (.grow g k rows) ∧ off + len ≤ rows.length ∧ (rows.drop off).take len = r := by
 simp only [jaX]
 constructor
 ·intro h
  split at h
  ·rename_i g' k' rows hb
   split at h
   ·rename_i hc
    obtain ⟨rfl, rfl, h1⟩ := hc
    injection h with h; exact ⟨rows, hb, h1, h⟩
   ·cases h
  ·cases h
 ·rintro ⟨rows, h1, h2, rfl⟩; rw [h1]; simp only; rw [if_pos ⟨trivial, trivial, h2⟩]
theorem len_nil : lenZ H .nil = some 0 := rfl
theorem len_fz {k : Nat} {ex : Bool} {rows : List (List ZV)} : lenZ H (.fz k ex rows) = some rows.length := rfl
theorem jmO {i g off len : Nat} {ex : Bool} {n : Nat} : lenZ H (.own i g off len ex) = some n ↔ ∃ k rows, H[i]? = some (.grow g k rows) ∧ len = n := by
 simp only [lenZ]
 constructor
 ·intro h
  split at h
  ·rename_i g' k rows hb
   split at h
   ·rename_i hg; subst hg; injection h with h; exact ⟨k, rows, hb, h⟩
   ·cases h
  ·cases h
 ·rintro ⟨k, rows, h1, rfl⟩; rw [h1]; simp
theorem jnF {k bytes : Nat} {new : List (List ZV)} {v : ZV} {H' : ZH} : appZ L H k bytes new .nil = some (v, H') ↔ new.length * bytes ≤ jaN ∧ .own H.length 0 0 new.length false = v ∧ H ++ [.grow 0 k new] = H' := by
 simp only [appZ]
 constructor
 ·intro h
  split at h
  ·injection h with h; injection h with h1 h2; exact ⟨by assumption, h1, h2⟩
  ·cases h
 ·rintro ⟨h1, rfl, rfl⟩; rw [if_pos h1]
theorem app_own {k bytes i g off len : Nat} {new : List (List ZV)} {v : ZV} {H' : ZH} : appZ L H k bytes new (.own i g off len false) = some (v, H') ↔ ∃ rows, H[i]? = some (.grow g k rows) ∧ off + len ≤ rows.length ∧ (len + new.length) * bytes ≤ jaN ∧ L i = true ∧ .own i (g + 1) 0 (len + new.length) false = v ∧ H.set i (.grow (g + 1) k ((rows.drop off).take len ++ new)) = H' := by
 simp only [appZ]
 constructor
 ·intro h
  split at h
  ·rename_i g' k' rows hb
   split at h
   ·rename_i hc
    obtain ⟨rfl, rfl, h1, h2⟩ := hc
    simp only [Bool.false_eq_true, if_false] at h
    split at h
    ·injection h with h; injection h with h3 h4; exact ⟨rows, hb, h1, h2, by assumption, h3, h4⟩
    ·cases h
   ·cases h
  ·cases h
 ·rintro ⟨rows, h1, h2, h3, h4, rfl, rfl⟩; rw [h1]; simp only; rw [if_pos ⟨trivial, trivial, h2, h3⟩]; simp only [Bool.false_eq_true, if_false]; rw [if_pos h4]
theorem app_ownX {k bytes i g off len : Nat} {x : List ZV} {v : ZV} {H' : ZH} : appZ L H k bytes [x] (.own i g off len true) = some (v, H') ↔ ∃ rows, H[i]? = some (.grow g k rows) ∧ off + len ≤ rows.length ∧ (len + 1) * bytes ≤ jaN ∧ .own H.length 0 0 (len + 1) false = v ∧ H ++ [.grow 0 k ((rows.drop off).take len ++ [x])] = H' := by
 simp only [appZ]
 constructor
 ·intro h
  split at h
  ·rename_i g' k' rows hb
   split at h
   ·rename_i hc
    obtain ⟨rfl, rfl, h1, h2⟩ := hc
    simp at h
    exact ⟨rows, hb, h1, h2, h.1, h.2⟩
   ·cases h
  ·cases h
 ·rintro ⟨rows, h1, h2, h3, rfl, rfl⟩; rw [h1]; simp only; rw [if_pos ⟨trivial, trivial, h2, h3⟩]; simp
theorem app_fzX {k bytes : Nat} {rows : List (List ZV)} {x : List ZV} {v : ZV} {H' : ZH} : appZ L H k bytes [x] (.fz k true rows) = some (v, H') ↔ (rows.length + 1) * bytes ≤ jaN ∧ .own H.length 0 0 (rows.length + 1) false = v ∧ H ++ [.grow 0 k (rows ++ [x])] = H' := by
 simp only [appZ]
 constructor
 ·intro h
  split at h
  ·rename_i hc
   simp at h
   exact ⟨hc.2, h.1, h.2⟩
  ·cases h
 ·rintro ⟨h1, rfl, rfl⟩; rw [if_pos ⟨trivial, h1⟩]; simp
end
/-! ### What is seen jeY, as a table -/
def ovG {α : Type} (ov : List (Nat × α)) (d : Nat → α) (t : Nat) : α := match ov with
  | [] => d t
  | (u, x) :: r => if t = u then x else ovG r d t
def owL (ov : List (Nat × List Nat)) (S : ZS) : Opd → Option (List Nat)
  | .tmp t => some (ovG ov (fun t => jaa (S t)) t)
  | .av (.ptr ..) | .av (.slice ..) => none
  | _ => some []
def owLop (ov : List (Nat × List Nat)) (S : ZS) : AOp → Option (List Nat)
  | .mv x | .fieldAddr _ x | .indexAddr _ x _ | .indexArr _ _ x _ | .slice _ x _ _ _ | .nilCheck x => owL ov S x
  | _ => some []
def ovP {α : Type} (ov : List (Nat × α)) : Option Nat → α → List (Nat × α)
  | some d, x => (d, x) :: ov
  | none, _ => ov
def ovO (ov : List (Nat × List Nat)) (S : ZS) : Option Nat → List Nat
  | some d => ovG ov (fun t => jaa (S t)) d
  | none => []
def jal : List jao → List (Nat × List Nat) → ZS → Option (List Nat)
  | [], _, _ => some []
  | o :: r, ov, S => if jfF o.op = true then match owLop ov S o.op with
      | some x => jal r (ovP ov o.dst (x ++ ovO ov S o.dst)) S
      | none => none
    else match o.op, o.iso with
      | .load _ x, false => match owL ov S x, jal r ov S with
        | some a, some b => some (a ++ b)
        | _, _ => none
      | _, _ => jal r ov S
theorem jmE {α : Type} {ov : List (Nat × α)} {d : Nat → α} {D : Option Nat} {x : α} : putO (fun t => ovG ov d t) D x = fun t => ovG (ovP ov D x) d t := by
 cases D with
 | none => rfl
 | some k => funext t; simp only [putO, ovP, ovG]
theorem owL_eq (ov : List (Nat × List Nat)) (S : ZS) (x : Opd) : owO (fun t => ovG ov (fun t => jaa (S t)) t) x = owL ov S x := by
 cases x with
 | tmp t => rfl
 | av v => cases v <;> rfl
theorem owLop_eq (ov : List (Nat × List Nat)) (S : ZS) (op : AOp) : owOp (fun t => ovG ov (fun t => jaa (S t)) t) op = owLop ov S op := by
 cases op <;> first | rfl | exact owL_eq ov S _
theorem jf8 (S : ZS) : ∀ (l : List jao) (ov : List (Nat × List Nat)), jcZ l (fun t => ovG ov (fun t => jaa (S t)) t) = jal l ov S
 | [], ov => rfl
 | o :: l, ov => by
  have ho : oldO (fun t => ovG ov (fun t => jaa (S t)) t) o.dst = ovO ov S o.dst := by cases o.dst <;> rfl
  simp only [jcZ, jal, owLop_eq, ho, jmE, jf8 S l, owL_eq]
  rfl
def exL (ov : List (Nat × Option ZV)) (S : ZS) : Opd → Option ZV
  | .tmp t => ovG ov (fun t => some (S t)) t
  | _ => none
def exLop (ov : List (Nat × Option ZV)) (S : ZS) : AOp → Option ZV
  | .mv x => exL ov S x
  | .fieldAddr n x => match exL ov S x with
    | some (.ptr i o) => some (.ptr i (o + n))
    | _ => none
  | .nilCheck x => match exL ov S x with
    | some (.ptr i o) => some (.ptr i (o + 0))
    | _ => none
  | _ => none
def jaj : List jao → List (Nat × Option ZV) → ZS → List Nat
  | [], _, _ => []
  | o :: r, ov, S => if jfF o.op = true then jaj r (ovP ov o.dst (exLop ov S o.op)) S
    else match o.op, o.iso with
      | .load _ x, false => match exL ov S x with
        | some (.ptr i _) => i :: jaj r ov S
        | _ => jaj r ov S
      | _, _ => jaj r ov S
theorem exL_eq (ov : List (Nat × Option ZV)) (S : ZS) (x : Opd) : exO (fun t => ovG ov (fun t => some (S t)) t) x = exL ov S x := by cases x <;> rfl
theorem exLop_eq (ov : List (Nat × Option ZV)) (S : ZS) (op : AOp) : jlQ (fun t => ovG ov (fun t => some (S t)) t) op = exLop ov S op := by
 cases op <;> simp only [jlQ, exLop, exL_eq] <;> rfl
theorem jf3 (S : ZS) : ∀ (l : List jao) (ov : List (Nat × Option ZV)), jcE l (fun t => ovG ov (fun t => some (S t)) t) = jaj l ov S
 | [], ov => rfl
 | o :: l, ov => by
  simp only [jcE, jaj, exLop_eq, jmE, jf3 S l, exL_eq]
  rfl
theorem jjh {rs : List Nat} {o : jao} {l : List jao} {S : ZS} : jd4 rs o l S = if heavy o.op = true then (match jal l [] S with | some fb => some (rs ++ fb) | none => none) else some [] := by
 unfold jd4
 rw [show (fun t => jaa (S t)) = fun t => ovG [] (fun t => jaa (S t)) t from rfl, jf8]; rfl
theorem jly {rs : List Nat} {pr : Option (List Nat)} {o : jao} {l : List jao} {S : ZS} : zpr rs pr o l S = if heavy o.op = true then some (match pr with | none => rs ++ jaj l [] S | some p => p.filter (rs ++ jaj l [] S).contains) else pr := by
 unfold zpr
 rw [show (fun t => some (S t)) = fun t => ovG [] (fun t => some (S t)) t from rfl, jf3]; rfl
def appO : Option (List Nat) → Option (List Nat) → Option (List Nat)
  | some a, some b => some (a ++ b)
  | _, _ => none
def jk9 : Option ZV → List Nat → List Nat
  | some (.ptr i _), l => i :: l
  | _, l => l
section
variable {d : Option Nat} {g : Option (Nat × Bool)} {i : Bool} {r : List jao} {ov : List (Nat × List Nat)} {ow : List (Nat × Option ZV)} {S : ZS} {op : AOp} {t : Nat} {n : Option Nat} {x y : Opd} {v : Value}
theorem zh_bin {b : BinOp} : jal (⟨d, .bin b x y, g, i⟩ :: r) ov S = jal r (ovP ov d (ovO ov S d)) S := rfl
theorem zh_mv : jal (⟨d, .mv (.tmp t), g, i⟩ :: r) ov S = jal r (ovP ov d (ovG ov (fun t => jaa (S t)) t ++ ovO ov S d)) S := rfl
theorem zh_mvV : jal (⟨d, .mv (.av (.val v)), g, i⟩ :: r) ov S = jal r (ovP ov d (ovO ov S d)) S := rfl
theorem jhr {o : Nat} : jal (⟨d, .fieldAddr o (.tmp t), g, i⟩ :: r) ov S = jal r (ovP ov d (ovG ov (fun t => jaa (S t)) t ++ ovO ov S d)) S := rfl
theorem jhq {o : Nat} : jal (⟨d, .indexAddr o (.tmp t) x, g, i⟩ :: r) ov S = jal r (ovP ov d (ovG ov (fun t => jaa (S t)) t ++ ovO ov S d)) S := rfl
theorem jit {o l : Nat} : jal (⟨d, .indexArr o l (.tmp t) x, g, i⟩ :: r) ov S = jal r (ovP ov d (ovG ov (fun t => jaa (S t)) t ++ ovO ov S d)) S := rfl
theorem zh_slice {o : Nat} {a b c : Option Opd} : jal (⟨d, .slice o (.tmp t) a b c, g, i⟩ :: r) ov S = jal r (ovP ov d (ovG ov (fun t => jaa (S t)) t ++ ovO ov S d)) S := rfl
theorem jir : jal (⟨d, .nilCheck (.tmp t), g, i⟩ :: r) ov S = jal r (ovP ov d (ovG ov (fun t => jaa (S t)) t ++ ovO ov S d)) S := rfl
theorem zh_loadI : jal (⟨d, .load n x, g, true⟩ :: r) ov S = jal r ov S := rfl
theorem zh_load : jal (⟨d, .load n (.tmp t), g, false⟩ :: r) ov S = appO (some (ovG ov (fun t => jaa (S t)) t)) (jal r ov S) := by
 simp only [jal, jfF, owL, appO]
 cases jal r ov S <;> rfl
theorem zu_bin {b : BinOp} : jaj (⟨d, .bin b x y, g, i⟩ :: r) ow S = jaj r (ovP ow d none) S := rfl
theorem zu_mv : jaj (⟨d, .mv x, g, i⟩ :: r) ow S = jaj r (ovP ow d (exL ow S x)) S := rfl
def addP (n : Nat) : Option ZV → Option ZV
  | some (.ptr i o) => some (.ptr i (o + n))
  | _ => none
theorem jhm {o : Nat} : jaj (⟨d, .fieldAddr o x, g, i⟩ :: r) ow S = jaj r (ovP ow d (addP o (exL ow S x))) S := rfl
theorem jhl {o : Nat} : jaj (⟨d, .indexAddr o x y, g, i⟩ :: r) ow S = jaj r (ovP ow d none) S := rfl
theorem jim {o l : Nat} : jaj (⟨d, .indexArr o l x y, g, i⟩ :: r) ow S = jaj r (ovP ow d none) S := rfl
theorem zu_slice {o : Nat} {a b c : Option Opd} : jaj (⟨d, .slice o x a b c, g, i⟩ :: r) ow S = jaj r (ovP ow d none) S := rfl
theorem jik : jaj (⟨d, .nilCheck x, g, i⟩ :: r) ow S = jaj r (ovP ow d (addP 0 (exL ow S x))) S := rfl
theorem zu_loadI : jaj (⟨d, .load n x, g, true⟩ :: r) ow S = jaj r ow S := rfl
theorem zu_load : jaj (⟨d, .load n x, g, false⟩ :: r) ow S = jk9 (exL ow S x) (jaj r ow S) := by
 simp only [jaj, jfF]
 unfold jk9
 cases exL ow S x with
 | none => rfl
 | some z => cases z <;> rfl
theorem zh_nil : jal [] ov S = some [] := rfl
theorem zu_nil : jaj [] ow S = [] := rfl
theorem jnG {a b : List Nat} : appO (some a) (some b) = some (a ++ b) := rfl
theorem jnj {i o : Nat} {l : List Nat} : jk9 (some (.ptr i o)) l = i :: l := rfl
theorem jk8 {l : List Nat} : jk9 none l = l := rfl
theorem addP_ptr {n i o : Nat} : addP n (some (.ptr i o)) = some (.ptr i (o + n)) := rfl
theorem jnK {n : Nat} : addP n none = none := rfl
theorem ovG_nil {α : Type} {f : Nat → α} : ovG [] f t = f t := rfl
theorem ovG_cons {α : Type} {f : Nat → α} {u : Nat} {a : α} {o : List (Nat × α)} : ovG ((u, a) :: o) f t = if t = u then a else ovG o f t := rfl
theorem ovP_some {α : Type} {o : List (Nat × α)} {k : Nat} {a : α} : ovP o (some k) a = (k, a) :: o := rfl
theorem ovP_none {α : Type} {o : List (Nat × α)} {a : α} : ovP o none a = o := rfl
theorem ovO_some {k : Nat} : ovO ov S (some k) = ovG ov (fun t => jaa (S t)) k := rfl
theorem ovO_none : ovO ov S none = [] := rfl
theorem exL_tmp : exL ow S (.tmp t) = ovG ow (fun t => some (S t)) t := rfl
theorem exL_av {a : AV} : exL ow S (.av a) = none := rfl
def preO (rs : List Nat) : Option (List Nat) → Option (List Nat)
  | some fb => some (rs ++ fb)
  | none => none
theorem jmw {rs fb : List Nat} : preO rs (some fb) = some (rs ++ fb) := rfl
theorem je3 {rs : List Nat} {l : List jao} (h : heavy op = true) : jd4 rs ⟨d, op, g, i⟩ l S = preO rs (jal l [] S) := by
 rw [jjh, if_pos h]; cases jal l [] S <;> rfl
theorem zf_light {rs : List Nat} {l : List jao} (h : heavy op = false) : jd4 rs ⟨d, op, g, i⟩ l S = some [] := by
 rw [jjh, if_neg (by simp [h])]
theorem jd3 {rs : List Nat} {l : List jao} (h : heavy op = true) : zpr rs none ⟨d, op, g, i⟩ l S = some (rs ++ jaj l [] S) := by
 rw [jly, if_pos h]
theorem jd2 {rs p : List Nat} {l : List jao} (h : heavy op = true) : zpr rs (some p) ⟨d, op, g, i⟩ l S = some (p.filter (rs ++ jaj l [] S).contains) := by
 rw [jly, if_pos h]
theorem zp_light {rs : List Nat} {pr : Option (List Nat)} {l : List jao} (h : heavy op = false) : zpr rs pr ⟨d, op, g, i⟩ l S = pr := by
 rw [jly, if_neg (by simp [h])]
theorem zr_load {rs : List Nat} : zrs rs ⟨d, .load n (.tmp t), g, i⟩ S = jk9 (some (S t)) rs := by
 simp only [zrs, zev]
 unfold jk9
 cases S t <;> rfl
theorem je2 {rs : List Nat} (h : heavy op = true) : zrs rs ⟨d, op, g, i⟩ S = rs := by
 cases op <;> first | rfl | (cases h; done)
end
section
variable {n : Option Nat} {x y c a b : Opd} {n0 k l : Nat} {cs : List AV} {ps : List (Nat × Nat × Opd)} {ng : Bool} {ks : List Nat} {u : UnOp} {ik : IntKind} {f : FuncId} {os : List Opd} {d : Option Nat} {g : Option (Nat × Bool)} {i : Bool} {r : List jao} {ov : List (Nat × List Nat)} {ow : List (Nat × Option ZV)} {S : ZS} {rs p : List Nat} {pr : Option (List Nat)}
theorem zh_pick : jal (⟨d, .pick c a b, g, i⟩ :: r) ov S = jal r ov S := rfl
theorem zu_pick : jaj (⟨d, .pick c a b, g, i⟩ :: r) ow S = jaj r ow S := rfl
theorem zh_box : jal (⟨d, .box n0 x, g, i⟩ :: r) ov S = jal r ov S := rfl
theorem zu_box : jaj (⟨d, .box n0 x, g, i⟩ :: r) ow S = jaj r ow S := rfl
theorem zh_zero : jal (⟨d, .zero cs, g, i⟩ :: r) ov S = jal r ov S := rfl
theorem zu_zero : jaj (⟨d, .zero cs, g, i⟩ :: r) ow S = jaj r ow S := rfl
theorem zh_build : jal (⟨d, .build cs ps, g, i⟩ :: r) ov S = jal r ov S := rfl
theorem zu_build : jaj (⟨d, .build cs ps, g, i⟩ :: r) ow S = jaj r ow S := rfl
theorem zh_lits : jal (⟨d, .lits k l cs ps, g, i⟩ :: r) ov S = jal r ov S := rfl
theorem zu_lits : jaj (⟨d, .lits k l cs ps, g, i⟩ :: r) ow S = jaj r ow S := rfl
theorem zh_store : jal (⟨d, .store n0 x y, g, i⟩ :: r) ov S = jal r ov S := rfl
theorem zu_store : jaj (⟨d, .store n0 x y, g, i⟩ :: r) ow S = jaj r ow S := rfl
theorem zh_eqNil : jal (⟨d, .eqNil ng k x, g, i⟩ :: r) ov S = jal r ov S := rfl
theorem zu_eqNil : jaj (⟨d, .eqNil ng k x, g, i⟩ :: r) ow S = jaj r ow S := rfl
theorem jlJ : jal (⟨d, .eqBool ng x y, g, i⟩ :: r) ov S = jal r ov S := rfl
theorem jlp : jaj (⟨d, .eqBool ng x y, g, i⟩ :: r) ow S = jaj r ow S := rfl
theorem zh_eqAgg : jal (⟨d, .eqAgg ng ks x y, g, i⟩ :: r) ov S = jal r ov S := rfl
theorem zu_eqAgg : jaj (⟨d, .eqAgg ng ks x y, g, i⟩ :: r) ow S = jaj r ow S := rfl
theorem zh_un : jal (⟨d, .un u x, g, i⟩ :: r) ov S = jal r ov S := rfl
theorem zu_un : jaj (⟨d, .un u x, g, i⟩ :: r) ow S = jaj r ow S := rfl
theorem zh_conv : jal (⟨d, .conv ik x, g, i⟩ :: r) ov S = jal r ov S := rfl
theorem zu_conv : jaj (⟨d, .conv ik x, g, i⟩ :: r) ow S = jaj r ow S := rfl
theorem zh_field : jal (⟨d, .field k n x, g, i⟩ :: r) ov S = jal r ov S := rfl
theorem zu_field : jaj (⟨d, .field k n x, g, i⟩ :: r) ow S = jaj r ow S := rfl
theorem zh_index : jal (⟨d, .index k l n x y, g, i⟩ :: r) ov S = jal r ov S := rfl
theorem zu_index : jaj (⟨d, .index k l n x y, g, i⟩ :: r) ow S = jaj r ow S := rfl
theorem jis : jal (⟨d, .indexStr x y, g, i⟩ :: r) ov S = jal r ov S := rfl
theorem jil : jaj (⟨d, .indexStr x y, g, i⟩ :: r) ow S = jaj r ow S := rfl
theorem jkf : jal (⟨d, .mkSlice k l cs x y, g, i⟩ :: r) ov S = jal r ov S := rfl
theorem jj7 : jaj (⟨d, .mkSlice k l cs x y, g, i⟩ :: r) ow S = jaj r ow S := rfl
theorem jkg : jal (⟨d, .extract k x, g, i⟩ :: r) ov S = jal r ov S := rfl
theorem jj8 : jaj (⟨d, .extract k x, g, i⟩ :: r) ow S = jaj r ow S := rfl
theorem zh_func : jal (⟨d, .func f os, g, i⟩ :: r) ov S = jal r ov S := rfl
theorem zu_func : jaj (⟨d, .func f os, g, i⟩ :: r) ow S = jaj r ow S := rfl
theorem zh_call : jal (⟨d, .call x os, g, i⟩ :: r) ov S = jal r ov S := rfl
theorem zu_call : jaj (⟨d, .call x os, g, i⟩ :: r) ow S = jaj r ow S := rfl
theorem jlK : jal (⟨d, .append k l x y, g, i⟩ :: r) ov S = jal r ov S := rfl
theorem jlq : jaj (⟨d, .append k l x y, g, i⟩ :: r) ow S = jaj r ow S := rfl
theorem zh_len : jal (⟨d, .len x, g, i⟩ :: r) ov S = jal r ov S := rfl
theorem zu_len : jaj (⟨d, .len x, g, i⟩ :: r) ow S = jaj r ow S := rfl
theorem jlI : jal (⟨d, .lenStr x, g, i⟩ :: r) ov S = jal r ov S := rfl
theorem jlo : jaj (⟨d, .lenStr x, g, i⟩ :: r) ow S = jaj r ow S := rfl
theorem zh_copy : jal (⟨d, .copy k x y, g, i⟩ :: r) ov S = jal r ov S := rfl
theorem zu_copy : jaj (⟨d, .copy k x y, g, i⟩ :: r) ow S = jaj r ow S := rfl
theorem jlH : jal (⟨d, .minmax ng x os, g, i⟩ :: r) ov S = jal r ov S := rfl
theorem jln : jaj (⟨d, .minmax ng x os, g, i⟩ :: r) ow S = jaj r ow S := rfl
theorem zf_store : jd4 rs ⟨d, .store n0 x y, g, i⟩ r S = preO rs (jal r [] S) := je3 rfl
theorem jlA : zpr rs none ⟨d, .store n0 x y, g, i⟩ r S = some (rs ++ jaj r [] S) := jd3 rfl
theorem jlz : zpr rs (some p) ⟨d, .store n0 x y, g, i⟩ r S = some (p.filter (rs ++ jaj r [] S).contains) := jd2 rfl
theorem zr_store : zrs rs ⟨d, .store n0 x y, g, i⟩ S = rs := je2 rfl
theorem jlP : jd4 rs ⟨d, .append k l x y, g, i⟩ r S = preO rs (jal r [] S) := je3 rfl
theorem jkd : zpr rs none ⟨d, .append k l x y, g, i⟩ r S = some (rs ++ jaj r [] S) := jd3 rfl
theorem jkc : zpr rs (some p) ⟨d, .append k l x y, g, i⟩ r S = some (p.filter (rs ++ jaj r [] S).contains) := jd2 rfl
theorem jlu : zrs rs ⟨d, .append k l x y, g, i⟩ S = rs := je2 rfl
theorem zf_copy : jd4 rs ⟨d, .copy k x y, g, i⟩ r S = preO rs (jal r [] S) := je3 rfl
theorem zp0_copy : zpr rs none ⟨d, .copy k x y, g, i⟩ r S = some (rs ++ jaj r [] S) := jd3 rfl
theorem zp1_copy : zpr rs (some p) ⟨d, .copy k x y, g, i⟩ r S = some (p.filter (rs ++ jaj r [] S).contains) := jd2 rfl
theorem zr_copy : zrs rs ⟨d, .copy k x y, g, i⟩ S = rs := je2 rfl
theorem zf_call : jd4 rs ⟨d, .call x os, g, i⟩ r S = preO rs (jal r [] S) := je3 rfl
theorem zp0_call : zpr rs none ⟨d, .call x os, g, i⟩ r S = some (rs ++ jaj r [] S) := jd3 rfl
theorem zp1_call : zpr rs (some p) ⟨d, .call x os, g, i⟩ r S = some (p.filter (rs ++ jaj r [] S).contains) := jd2 rfl
theorem zr_call : zrs rs ⟨d, .call x os, g, i⟩ S = rs := je2 rfl
theorem zf_load : jd4 rs ⟨d, .load n x, g, i⟩ r S = some [] := zf_light rfl
theorem zp_load : zpr rs pr ⟨d, .load n x, g, i⟩ r S = pr := zp_light rfl
end
/-! ### What the proof adds -/
def zgoS (o : Option (List (Nat × Nat))) (b : Bool) (K : ZV → ZH → Prop) (z : ZV) (H : ZH) : Prop := match o with
  | some l => zown l K z H
  | none => if b = true then zfrz K z H else K z H
section
variable {H : ZH} {G : Gh} {K : ZV → ZH → Prop} {z : ZV} {l : List (Nat × Nat)} {b : Bool} {d k : Nat}
theorem jlL {p : Nat × List (Nat × Nat)} {ow : List (Nat × List (Nat × Nat))} {li fr : List Nat} : ZgoG ⟨p :: ow, li, fr⟩ (some d) K z H ↔ zgoS ((p :: ow).lookup d) (fr.contains d) K z H := by
 unfold ZgoG zgo zgoS
 cases h : List.lookup d (p :: ow) <;> simp [h]
theorem jki {li fr : List Nat} {f : Nat} : ZgoG ⟨[], li, f :: fr⟩ (some d) K z H ↔ zgoS none ((f :: fr).contains d) K z H := Iff.rfl
theorem jkh {li : List Nat} {f : Nat} : ZgoG ⟨[], f :: li, []⟩ (some d) K z H ↔ K z H := by
 simp [ZgoG, zgo]
theorem jlM : ZgoG G none K z H ↔ K z H := Iff.rfl
theorem zgoS_no : zgoS none false K z H ↔ K z H := by simp [zgoS]
theorem zgoS_frz : zgoS none true K z H ↔ zfrz K z H := by simp [zgoS]
theorem zgoS_own : zgoS (some l) b K z H ↔ zown l K z H := Iff.rfl
theorem zown_nil (hk : k < 1000) : zown [(0, k)] K .nil H ↔ K (.own H.length 0 0 0 false) (H ++ [.grow 0 k []]) := by
 simp [zown, ja9, Nat.not_le.2 hk]
 exact ⟨fun ⟨_, _, ⟨e1, e2⟩, k⟩ => by subst e1; subst e2; exact k, fun k => ⟨_, _, ⟨rfl, rfl⟩, k⟩⟩
theorem zown_own {i g o n : Nat} {e : Bool} : zown l K (.own i g o n e) H ↔ K (.own i g o n e) H := Iff.rfl
theorem zown_fz {k : Nat} {e : Bool} {r : List (List ZV)} : zown l K (.fz k e r) H ↔ K (.fz k e r) H := Iff.rfl
theorem zown_agg {cs : List ZV} : zown l K (.agg cs) H ↔ ∃ cs' H', ja9 l cs H = some (cs', H') ∧ K (.agg cs') H' := Iff.rfl
theorem zown_ptr {i o : Nat} : zown l K (.ptr i o) H ↔ ∃ cs, H[i]? = some (.box cs) ∧ ∃ cs' H', ja9 l cs H = some (cs', H') ∧ K (.ptr i o) (H'.set i (.box cs')) := by
 simp only [zown]
 constructor
 ·intro h
  split at h
  ·rename_i cs hb; exact ⟨cs, hb, h⟩
  ·exact h.elim
 ·rintro ⟨cs, h1, h2⟩; rw [h1]; exact h2
theorem zfrz_own {i g off len : Nat} {ex : Bool} : zfrz K (.own i g off len ex) H ↔ ∃ k rows, H[i]? = some (.grow g k rows) ∧ off + len ≤ rows.length ∧ rows.flatten.all jb2 = true ∧ K (.fz k ex ((rows.drop off).take len)) (H.set i .dead) := by
 simp only [zfrz]
 constructor
 ·intro h
  split at h
  ·rename_i g' k rows hb
   obtain ⟨rfl, h1, h2, h3⟩ := h
   exact ⟨k, rows, hb, h1, h2, h3⟩
  ·exact h.elim
 ·rintro ⟨k, rows, h1, h2, h3, h4⟩; rw [h1]; exact ⟨rfl, h2, h3, h4⟩
theorem zfrz_fz {k : Nat} {e : Bool} {r : List (List ZV)} : zfrz K (.fz k e r) H ↔ K (.fz k e r) H := by simp [zfrz, jb2]
theorem zfrz_val {v : Value} : zfrz K (.val v) H ↔ K (.val v) H := by simp [zfrz, jb2]
theorem ownC_nil {cs : List ZV} : ja9 [] cs H = some (cs, H) := rfl
theorem jmD {j : Nat} {r : List (Nat × Nat)} {cs : List ZV} {p : List ZV × ZH} (hk : k < 1000) : ja9 ((j, k) :: r) cs H = some p ↔ cs[j]? = some .nil ∧ ja9 r (cs.set j (.own H.length 0 0 0 false)) (H ++ [.grow 0 k []]) = some p := by
 simp only [ja9, if_neg (Nat.not_le.2 hk)]
 constructor
 ·intro h
  split at h
  ·rename_i hj; exact ⟨hj, h⟩
  ·cases h
 ·rintro ⟨h1, h2⟩; rw [h1]; exact h2
theorem jfy {α : Type} {f : α → List ZV} {l : List α} (h : ∀ a, (f a).all jb2 = true) : (l.map f).flatten.all jb2 = true := by
 induction l with
 | nil => rfl
 | cons a l ih => rw [List.map_cons, List.flatten_cons, List.all_append, h, ih]; rfl
end
/-! ### Memory -/
section
variable {H e : ZH}
theorem H_at0 : (H ++ e)[H.length]? = e[0]? := by rw [List.getElem?_append_right (Nat.le_refl _), Nat.sub_self]
theorem H_atK {k : Nat} : (H ++ e)[H.length + k]? = e[k]? := by rw [List.getElem?_append_right (by omega)]; congr 1; omega
theorem H_set0 {B : ZB} : (H ++ e).set H.length B = H ++ e.set 0 B := by rw [List.set_append_right _ _ (Nat.le_refl _), Nat.sub_self]
theorem H_setK {k : Nat} {B : ZB} : (H ++ e).set (H.length + k) B = H ++ e.set k B := by rw [List.set_append_right _ _ (by omega), Nat.add_sub_cancel_left]
end
end Go.Proofs.Ytmholkmghhkbhaa

namespace Go.Proofs.Ytmholkmghhkbhaa
open Go Go.RowKit
section
variable {L : Nat → Bool} {S : ZS} {H : ZH} {X : XT} {F : FuncId → Option jaL} {G : Gh}
theorem zres_tmp {t : Nat} : zres S H (.tmp t) = some (S t) := rfl
theorem jlt {a : Nat} {n : Option Nat} : zres S H (.cell a n) = ldZ H n (S a) := rfl
theorem zres1 {r : ARes} : jbH S H [r] = zres S H r := rfl
theorem zres2 {a b : ARes} {z : ZV} : jbH S H [a, b] = some z ↔ ∃ x y, zres S H a = some x ∧ zres S H b = some y ∧ .tuple [x, y] = z := by
 simp only [jbH, jhn]
 cases zres S H a <;> cases zres S H b <;> simp
theorem zres3 {a b c : ARes} {z : ZV} : jbH S H [a, b, c] = some z ↔ ∃ x y u, zres S H a = some x ∧ zres S H b = some y ∧ zres S H c = some u ∧ .tuple [x, y, u] = z := by
 simp only [jbH, jhn]
 cases zres S H a <;> cases zres S H b <;> cases zres S H c <;> simp
end

/-! ### From a law's arguments -/
def enc : (t : Ty) → t.val → List ZV
  | .int k, n => [.val (.int k n)]
  | .bool, b => [.val (.bool b)]
  | .str, s => [.val (.string s)]
  | .unit, _ => []
  | .prod a b, x => enc a x.1 ++ enc b x.2
  | .slice _ e, l => [.fz e.size false (l.map (enc e))]
def TOk : (t : Ty) → t.val → Prop
  | .int k, n => (Lit.int k n).wf = true
  | .bool, _ => True
  | .str, s => s.size ≤ maxLen
  | .unit, _ => True
  | .prod a b, x => TOk a x.1 ∧ TOk b x.2
  | .slice _ e, l => l.length ≤ maxLen ∧ ∀ x ∈ l, TOk e x
theorem jdE : ∀ (t : Ty) (x : t.val), (enc t x).length = t.size
 | .int k, _ => rfl
 | .bool, _ => rfl
 | .str, _ => rfl
 | .unit, _ => rfl
 | .prod a b, x => by simp [enc, jdE a, jdE b]
 | .slice _ e, l => rfl
def FRs (Fr : Nat → Prop) (h : Heap) (zs : List ZV) (ys : List AV) : Prop := zs.length = ys.length ∧ ∀ (i : Nat) z a, zs[i]? = some z → ys[i]? = some a → FR Fr h z a
theorem jjI {h : Heap} : ∀ (t : Ty) (cs : List AV) (x : t.val), AHas h t cs x → FRs (fun id => id < h.length) h (enc t x) cs ∧ TOk t x
 | .int k, cs, n, hh => by
  obtain ⟨rfl, hw⟩ := hh
  refine ⟨⟨rfl, fun i z a hz ha => ?_⟩, hw⟩
  cases i with
  | zero => simp [enc] at hz ha; subst hz; subst ha; exact .val _
  | succ i => simp at ha
 | .bool, cs, b, hh => by
  simp only [AHas] at hh; subst hh
  refine ⟨⟨rfl, fun i z a hz ha => ?_⟩, trivial⟩
  cases i with
  | zero => simp [enc] at hz ha; subst hz; subst ha; exact .val _
  | succ i => simp at ha
 | .str, cs, s, hh => by
  obtain ⟨rfl, hw⟩ := hh
  refine ⟨⟨rfl, fun i z a hz ha => ?_⟩, hw⟩
  cases i with
  | zero => simp [enc] at hz ha; subst hz; subst ha; exact .val _
  | succ i => simp at ha
 | .unit, cs, x, hh => by
  simp only [AHas] at hh; subst hh
  exact ⟨⟨rfl, fun i z a hz ha => by simp at ha⟩, trivial⟩
 | .prod a b, cs, x, hh => by
  obtain ⟨c, d, rfl, h1, h2⟩ := hh
  obtain ⟨i1, t1⟩ := jjI a c x.1 h1
  obtain ⟨i2, t2⟩ := jjI b d x.2 h2
  refine ⟨⟨by simp [enc, i1.1, i2.1], fun i z y hz hy => ?_⟩, t1, t2⟩
  simp only [enc] at hz
  by_cases hi : i < c.length
  ·rw [List.getElem?_append_left (by rw [i1.1]; exact hi)] at hz
   rw [List.getElem?_append_left hi] at hy
   exact i1.2 i z y hz hy
  ·rw [List.getElem?_append_right (by rw [i1.1]; omega), i1.1] at hz
   rw [List.getElem?_append_right (by omega)] at hy
   exact i2.2 _ z y hz hy
 | .slice by_ e, cs, l, hh => by
  rcases hh with ⟨hv, rfl⟩ | ⟨id, row, rfl, h1, h2, h3, h4⟩
  ·refine ⟨⟨by rcases hv with rfl | rfl <;> rfl, fun i z a hz ha => ?_⟩, by simp [TOk, maxLen], by simp⟩
   cases i with
   | zero =>
    simp [enc] at hz
    subst hz
    refine .fnil ?_
    rcases hv with rfl | rfl <;> (simp at ha; subst ha)
    ·exact .inl rfl
    ·exact .inr ⟨rfl, rfl⟩
   | succ i => rcases hv with rfl | rfl <;> simp at ha
  ·have key := fun i (hi : i < l.length) => jjI e _ _ (h4 i hi)
   have hk : ∀ r ∈ l.map (enc e), r.length = e.size := fun r hr => by
    obtain ⟨x, _, rfl⟩ := List.mem_map.1 hr
    exact jdE e x
   refine ⟨⟨rfl, fun i z a hz ha => ?_⟩, h3, fun x hx => ?_⟩
   ·cases i with
    | zero =>
     simp [enc] at hz ha
     subst hz; subst ha
     have := FR.ofRows (Fr := fun id => id < h.length) (h := h) (k := e.size) (ex := false) (rows := l.map (enc e)) (id := id) (off := 0) (lb := l.length) (ex' := false) (row := row) (jaI h1) h1 (by simp; omega) (by simp) (fun h => by cases h) hk (fun i z hz => ?_)
     ·simpa using this
     ·-- a cell of the row
      by_cases hi : i < row.length
      ·refine ⟨row[i], by rw [Nat.zero_add]; exact List.getElem?_eq_getElem hi, ?_⟩
       have hes : 0 < e.size := by
        cases hes : e.size with
        | zero => rw [hes] at h2; omega
        | succ n => omega
       have hj : i / e.size < l.length := by rw [Nat.div_lt_iff_lt_mul hes]; omega
       have hm : i % e.size < e.size := Nat.mod_lt _ hes
       have hdm : i / e.size * e.size + i % e.size = i := by rw [Nat.mul_comm]; exact Nat.div_add_mod i e.size
       refine (key (i / e.size) hj).1.2 (i % e.size) z _ ?_ ?_
       ·have := jji hk (j := i / e.size) (r := enc e l[i / e.size]) (by simp [hj])
        rw [← this, List.getElem?_take, if_pos hm, List.getElem?_drop, hdm]; exact hz
       ·rw [List.getElem?_take, if_pos hm, List.getElem?_drop, hdm]; exact List.getElem?_eq_getElem hi
      ·have := (List.getElem?_eq_some_iff.1 hz).1
       rw [jbw hk] at this
       simp at this; omega
    | succ i => simp at ha
   ·obtain ⟨i, hi, rfl⟩ := List.mem_iff_getElem.1 hx
    exact (key i hi).2
def zArg (st : Bool) (cs : List ZV) : ZV := match st with | true => .agg cs | false => cs.headD .no
def ZArgs (Q : (t : Ty) → t.val → Prop) : List (Bool × Ty) → List ZV → Prop
  | [], zl => zl = []
  | p :: r, zl => ∃ x zl', zl = zArg p.1 (enc p.2 x) :: zl' ∧ TOk p.2 x ∧ Q p.2 x ∧ ZArgs Q r zl'
theorem jjk {Q : (t : Ty) → t.val → Prop} {w : Wd} (hF : w.Fr = fun id => id < w.h.length) : ∀ {tys : List (Bool × Ty)} {al : List AV}, jku tys = true → jjc Q w.h tys al → ∃ zl, ZArgs Q tys zl ∧ ZRs w zl al
 | [], al, _, hh => by
  simp only [jjc] at hh; subst hh
  exact ⟨[], rfl, .nil⟩
 | p :: r, al, hok, hh => by
  obtain ⟨cs, x, al', rfl, h1, h2, h3⟩ := hh
  simp only [jku, Bool.and_eq_true] at hok
  obtain ⟨zl, i1, i2⟩ := jjk hF hok.2 h3
  obtain ⟨f1, f2⟩ := jjI p.2 cs x h1
  refine ⟨_, ⟨x, zl, rfl, f2, h2, i1⟩, .cons ?_ i2⟩
  have f : ZRs w (enc p.2 x) cs := ⟨f1.1, fun i z a hz ha => .fr (by rw [hF]; exact f1.2 i z a hz ha)⟩
  unfold zArg aArg
  cases hst : p.1 with
  | true => exact f.toAgg
  | false =>
   have hl : (enc p.2 x).length = 1 := by
    rw [hst] at hok; simp at hok
    rw [jdE]; exact hok.1
   have hl2 : cs.length = 1 := by rw [← f.1]; exact hl
   match he : enc p.2 x, cs, f, hl, hl2 with
   | [z], [a], f, _, _ => exact f.2 0 z a rfl rfl
end Go.Proofs.Ytmholkmghhkbhaa

namespace Go.Proofs.Ytmholkmghhkbhaa
open Go Go.RowKit
variable {H : ZH} {k : Nat} {z : ZV} {rows : List (List ZV)}
theorem jbk (h : jaX H k z = some rows) : lenZ H z = some rows.length := by
 unfold jaX at h
 split at h
 ·injection h with h; subst h; rfl
 ·split at h
  ·injection h with h; subst h; rfl
  ·cases h
 ·split at h
  ·rename_i g' k' rows' hb
   split at h
   ·rename_i hc
    obtain ⟨rfl, rfl, hle⟩ := hc
    injection h with h
    refine jmO.2 ⟨_, _, hb, ?_⟩
    rw [← h, List.length_take, List.length_drop]; omega
   ·cases h
  ·cases h
 ·cases h
theorem jmr (h : jaX H k z = some rows) {j : Nat} (hj : j < rows.length) : ∃ p, jf2 H k j z = some p ∧ ∀ n v, ldZ H n p = some v ↔ jcD rows[j] 0 n = some v := by
 unfold jaX at h
 split at h
 ·injection h with h; subst h; simp at hj
 ·split at h
  ·rename_i k' ex rows' hk
   injection h with h; subst h; subst hk
   refine ⟨_, jnc.2 ⟨hj, rfl⟩, fun n v => ?_⟩
   rw [jmQ]
   simp [hj]
  ·cases h
 ·rename_i i g off len ex
  split at h
  ·rename_i g' k' rows' hb
   split at h
   ·rename_i hc
    obtain ⟨rfl, rfl, hle⟩ := hc
    injection h with h; subst h
    have hjl : j < len := by rw [List.length_take] at hj; omega
    refine ⟨_, jjK.2 ⟨rows', hb, hle, hjl, rfl⟩, fun n v => ?_⟩
    rw [jmR]
    have hlt : off + j < rows'.length := by omega
    constructor
    ·rintro ⟨k2, rows2, r, h1, h2, h3⟩
     rw [hb] at h1; injection h1 with h1; injection h1 with _ _ h1; subst h1
     rw [List.getElem?_eq_getElem hlt] at h2; injection h2 with h2
     simp only [List.getElem_take, List.getElem_drop]
     rw [h2]; exact h3
    ·intro h3
     simp only [List.getElem_take, List.getElem_drop] at h3
     exact ⟨_, _, _, hb, List.getElem?_eq_getElem hlt, h3⟩
   ·cases h
  ·cases h
 ·cases h
theorem jbK {α : Type} {f : α → List ZV} {l : List α} (h : jaX H k z = some (l.map f)) {j : Nat} (hj : j < l.length) : ∃ p, jf2 H k j z = some p ∧ ∀ n, ldZ H n p = jcD (f l[j]) 0 n := by
 obtain ⟨p, h1, h2⟩ := jmr h (j := j) (by simpa using hj)
 refine ⟨p, h1, fun n => ?_⟩
 simp only [List.getElem_map] at h2
 cases hp : jcD (f l[j]) 0 n with
 | some v => exact (h2 n v).2 hp
 | none =>
  cases hl : ldZ H n p with
  | none => rfl
  | some v => have := (h2 n v).1 hl; rw [hp] at this; cases this
def SlK : List (Nat × ZV) → ZS → Prop
  | [], _ => True
  | p :: r, s => s p.1 = p.2 ∧ SlK r s
theorem SlK.keep {s s' : ZS} : ∀ {l : List (Nat × ZV)}, (∀ p ∈ l, s' p.1 = s p.1) → SlK l s → SlK l s'
 | [], _, _ => trivial
 | p :: r, h, hk => ⟨(h p (by simp)).trans hk.1, SlK.keep (fun q hq => h q (by simp [hq])) hk.2⟩
section
variable {L : Nat → Bool} {S : ZS} {X : XT} {F : FuncId → Option jaL} {G : Gh}
theorem jaP {B Cn tc ti tl tn : Nat} {body : jar} {K : jaq → ZS → ZH → Prop} (kp : List (Nat × ZV)) (N : Nat) (I : Nat → ZS → ZH → Prop) (hN : N < 9223372036854775807) (hG : G.own.lookup tc = none ∧ G.own.lookup tn = none ∧ G.own.lookup ti = none ∧ G.frz.contains tc = false ∧ G.frz.contains tn = false ∧ G.frz.contains ti = false) (hti : S ti = Z64 (0 : Nat)) (htl : S tl = Z64 N) (hkp : SlK kp S) (hq : ((tl :: kp.map Prod.fst).all fun t => !(wrs body ++ [tc, ti, tn]).contains t) = true) (h2 : (wrs body).contains ti = false) (h3 : tc ≠ ti ∧ tc ≠ tl ∧ tn ≠ ti ∧ tn ≠ tl ∧ ti ≠ tl)
  (h0 : I 0 S H)
  (round : ∀ k s' h', k < N → I k s' h' → s' ti = Z64 k → s' tl = Z64 N → SlK kp s' →
   zW X F G L body (zupd s' tc (ZBo true)) h' (jbv Cn (jdN (fun s2 h2 => I (k + 1) (zupd (zupd s2 tn (Z64 (k + 1 : Nat))) ti (Z64 (k + 1 : Nat))) h2) (jbv B K))))
  (done : ∀ s' h', I N s' h' → SlK kp s' → K .normal (zupd s' tc (ZBo false)) h') : zW X F G L (jax B Cn tc ti tl tn body) S H K := by
 have hq' : ∀ t ∈ tl :: kp.map Prod.fst, (wrs body ++ [tc, ti, tn]).contains t = false := fun t ht => by simpa using List.all_eq_true.1 hq t ht
 have h1 : (wrs body).contains tl = false := by
  have := hq' tl (by simp)
  cases hc : (wrs body).contains tl with
  | false => rfl
  | true => rw [List.contains_iff_mem.2 (List.mem_append_left _ (List.contains_iff_mem.1 hc))] at this; cases this
 have keep : ∀ s', (∀ t, (wrs body ++ [tc, ti, tn]).contains t = false → s' t = S t) → SlK kp s' := fun s' h => SlK.keep (fun p hp => h p.1 (hq' p.1 (List.mem_cons_of_mem _ (List.mem_map_of_mem hp)))) hkp
 exact zW_for N hN hG hti htl h1 h2 h3 I h0 (fun k s' h' a b c d e => round k s' h' a b c d (keep s' e)) fun s' h' a b => done s' h' a (keep s' b)
theorem jfg {c : jar} {K : jaq → ZS → ZH → Prop} (kp : List (Nat × ZV)) (n0 : Nat) (I : Nat → ZS → ZH → Prop) (hkp : SlK kp S) (hq : ((kp.map Prod.fst).all fun t => !(wrs c).contains t) = true) (h0 : I n0 S H) (round : ∀ n s' h', I n s' h' → SlK kp s' → zW X F G L c s' h' (jdN (fun S2 H2 => ∃ m, m < n ∧ I m S2 H2) K)) : zW X F G L (.loop c) S H K := by
 refine jjl I n0 h0 fun n s' h' hI hs => round n s' h' hI (SlK.keep (fun p hp => hs p.1 fun hm => ?_) hkp)
 have := List.all_eq_true.1 hq p.1 (List.mem_map_of_mem hp)
 rw [List.contains_iff_mem.2 hm] at this; cases this
end
abbrev eI (n : Int) : List ZV := [Z64 n]
abbrev eB (b : Bool) : List ZV := [ZBo b]
theorem jhw {α β : Type} {f : α → β} {l : List α} : (l.map f).take l.length = l.map f := List.take_of_length_le (by simp)
theorem app_nil' {L : Nat → Bool} {bytes : Nat} {new : List (List ZV)} (h : new.length * bytes ≤ jaN) : appZ L H k bytes new .nil = some (.own H.length 0 0 new.length false, H ++ [.grow 0 k new]) := by rw [jnF]; exact ⟨h, rfl, rfl⟩
end Go.Proofs.Ytmholkmghhkbhaa

namespace Go.Proofs.Ytmholkmghhkbhaa
open Go Go.RowKit
variable {fl L : Nat → Bool} {w : Wd}

end Go.Proofs.Ytmholkmghhkbhaa

namespace Go.Proofs.Ytmholkmghhkbhaa
open Go Go.RowKit
theorem zmPack : type_of% (And.intro (And.intro (And.intro (And.intro (And.intro (And.intro (And.intro (And.intro @zgoN @zW_ops) (And.intro @zW_cond @zW_block)) (And.intro (And.intro @zW_exit @zW_ret) (And.intro @zW_skip @zW_scope))) (And.intro (And.intro (And.intro @zW_seq @zO_nil) (And.intro @zO_next @zO_nextW)) (And.intro (And.intro @zO_nextF @jlZ) (And.intro @jix @jl7)))) (And.intro (And.intro (And.intro (And.intro @jkt @jeF) (And.intro @jj9 @jlr)) (And.intro (And.intro @jgO @jiq) (And.intro @jke @z_mv))) (And.intro (And.intro (And.intro @z_pick @z_box) (And.intro @z_zero @z_build)) (And.intro (And.intro @z_lits @z_load) (And.intro @z_store @jkq))))) (And.intro (And.intro (And.intro (And.intro (And.intro @z_bin @z_eqNil) (And.intro @z_eqBool @z_eqAgg)) (And.intro (And.intro @z_un @z_conv) (And.intro @z_field @jiw))) (And.intro (And.intro (And.intro @jiv @jks) (And.intro @z_index @jkr)) (And.intro (And.intro @z_slice @jlW) (And.intro @jlX @z_func)))) (And.intro (And.intro (And.intro (And.intro @z_call @z_append) (And.intro @z_len @z_lenStr)) (And.intro (And.intro @z_copy @z_minmax) (And.intro @zev_tmp @zev_val))) (And.intro (And.intro (And.intro @zev_func @zev_agg) (And.intro @zev_no @zevs_nil)) (And.intro (And.intro @jlR @zcs_nil) (And.intro @zcs_cons (And.intro @jkb @jip))))))) (And.intro (And.intro (And.intro (And.intro (And.intro (And.intro @jm2 @jkV) (And.intro @jlv @jlw)) (And.intro (And.intro @jaE @zlit_no) (And.intro @jme @jkx))) (And.intro (And.intro (And.intro @jkw @jg9) (And.intro @jkk @jlS)) (And.intro (And.intro @jkm @jkl) (And.intro @jiu @jkn)))) (And.intro (And.intro (And.intro (And.intro @jlT @zcell_fz) (And.intro @jlV @jlU)) (And.intro (And.intro @jko @pure_val) (And.intro @pure_fz @jkO))) (And.intro (And.intro (And.intro @jiO @jiN) (And.intro @jiM @add_ptr)) (And.intro (And.intro @add_eptr @add_fptr) (And.intro @jmC @jmB))))) (And.intro (And.intro (And.intro (And.intro (And.intro @jnc @jjK) (And.intro @ld_ptr @jmR)) (And.intro (And.intro @jmQ @st_ptr) (And.intro @jmf @rows_nil))) (And.intro (And.intro (And.intro @rows_fz @rows_own) (And.intro @len_nil @len_fz)) (And.intro (And.intro @jmO @jnF) (And.intro @app_own @app_ownX)))) (And.intro (And.intro (And.intro (And.intro @app_fzX @H_at0) (And.intro @H_atK @H_set0)) (And.intro (And.intro @H_setK @zres1) (And.intro @zres2 @zres3))) (And.intro (And.intro (And.intro @zres_tmp @jlt) (And.intro @zh_bin @zh_mv)) (And.intro (And.intro @zh_mvV @jhr) (And.intro @jhq (And.intro @jit @zh_slice)))))))) (And.intro (And.intro (And.intro (And.intro (And.intro (And.intro (And.intro @jir @zh_loadI) (And.intro @zh_load @zh_nil)) (And.intro (And.intro @zu_bin @zu_mv) (And.intro @jhm @jhl))) (And.intro (And.intro (And.intro @jim @zu_slice) (And.intro @jik @zu_loadI)) (And.intro (And.intro @zu_load @zu_nil) (And.intro @jnG @jnj)))) (And.intro (And.intro (And.intro (And.intro @jk8 @addP_ptr) (And.intro @jnK @ovG_nil)) (And.intro (And.intro @ovG_cons @ovP_some) (And.intro @ovP_none @ovO_some))) (And.intro (And.intro (And.intro @ovO_none @exL_tmp) (And.intro @exL_av @jmw)) (And.intro (And.intro @zr_load @zh_pick) (And.intro @zu_pick @zh_box))))) (And.intro (And.intro (And.intro (And.intro (And.intro @zu_box @zh_zero) (And.intro @zu_zero @zh_build)) (And.intro (And.intro @zu_build @zh_lits) (And.intro @zu_lits @zh_store))) (And.intro (And.intro (And.intro @zu_store @zh_eqNil) (And.intro @zu_eqNil @jlJ)) (And.intro (And.intro @jlp @zh_eqAgg) (And.intro @zu_eqAgg @zh_un)))) (And.intro (And.intro (And.intro (And.intro @zu_un @zh_conv) (And.intro @zu_conv @zh_field)) (And.intro (And.intro @zu_field @zh_index) (And.intro @zu_index @jis))) (And.intro (And.intro (And.intro @jil @jkf) (And.intro @jj7 @jkg)) (And.intro (And.intro @jj8 @zh_func) (And.intro @zu_func (And.intro @zh_call @zu_call))))))) (And.intro (And.intro (And.intro (And.intro (And.intro (And.intro @jlK @jlq) (And.intro @zh_len @zu_len)) (And.intro (And.intro @jlI @jlo) (And.intro @zh_copy @zu_copy))) (And.intro (And.intro (And.intro @jlH @jln) (And.intro @zf_store @jlA)) (And.intro (And.intro @jlz @zr_store) (And.intro @jlP @jkd)))) (And.intro (And.intro (And.intro (And.intro @jkc @jlu) (And.intro @zf_copy @zp0_copy)) (And.intro (And.intro @zp1_copy @zr_copy) (And.intro @zf_call @zp0_call))) (And.intro (And.intro (And.intro @zp1_call @zr_call) (And.intro @zf_load @zp_load)) (And.intro (And.intro @bin_lss @bin_leq) (And.intro @bin_gtr @bin_geq))))) (And.intro (And.intro (And.intro (And.intro (And.intro @bin_eql @bin_neq) (And.intro @bin_add @bin_sub)) (And.intro (And.intro @bin_mul @un_not) (And.intro @jlL @jki))) (And.intro (And.intro (And.intro @jkh @jlM) (And.intro @zgoS_no @zgoS_frz)) (And.intro (And.intro @zgoS_own @zown_nil) (And.intro @zown_own @zown_fz)))) (And.intro (And.intro (And.intro (And.intro @zown_agg @zown_ptr) (And.intro @zfrz_own @zfrz_fz)) (And.intro (And.intro @zfrz_val @ownC_nil) (And.intro @jmD @jlG))) (And.intro (And.intro (And.intro @zW_opsD @det_mk) (And.intro @jht @jgP)) (And.intro (And.intro @z_bfunc @jkp) (And.intro @jio (And.intro @jls @zrng_ret))))))))) := (And.intro (And.intro (And.intro (And.intro (And.intro (And.intro (And.intro (And.intro @zgoN @zW_ops) (And.intro @zW_cond @zW_block)) (And.intro (And.intro @zW_exit @zW_ret) (And.intro @zW_skip @zW_scope))) (And.intro (And.intro (And.intro @zW_seq @zO_nil) (And.intro @zO_next @zO_nextW)) (And.intro (And.intro @zO_nextF @jlZ) (And.intro @jix @jl7)))) (And.intro (And.intro (And.intro (And.intro @jkt @jeF) (And.intro @jj9 @jlr)) (And.intro (And.intro @jgO @jiq) (And.intro @jke @z_mv))) (And.intro (And.intro (And.intro @z_pick @z_box) (And.intro @z_zero @z_build)) (And.intro (And.intro @z_lits @z_load) (And.intro @z_store @jkq))))) (And.intro (And.intro (And.intro (And.intro (And.intro @z_bin @z_eqNil) (And.intro @z_eqBool @z_eqAgg)) (And.intro (And.intro @z_un @z_conv) (And.intro @z_field @jiw))) (And.intro (And.intro (And.intro @jiv @jks) (And.intro @z_index @jkr)) (And.intro (And.intro @z_slice @jlW) (And.intro @jlX @z_func)))) (And.intro (And.intro (And.intro (And.intro @z_call @z_append) (And.intro @z_len @z_lenStr)) (And.intro (And.intro @z_copy @z_minmax) (And.intro @zev_tmp @zev_val))) (And.intro (And.intro (And.intro @zev_func @zev_agg) (And.intro @zev_no @zevs_nil)) (And.intro (And.intro @jlR @zcs_nil) (And.intro @zcs_cons (And.intro @jkb @jip))))))) (And.intro (And.intro (And.intro (And.intro (And.intro (And.intro @jm2 @jkV) (And.intro @jlv @jlw)) (And.intro (And.intro @jaE @zlit_no) (And.intro @jme @jkx))) (And.intro (And.intro (And.intro @jkw @jg9) (And.intro @jkk @jlS)) (And.intro (And.intro @jkm @jkl) (And.intro @jiu @jkn)))) (And.intro (And.intro (And.intro (And.intro @jlT @zcell_fz) (And.intro @jlV @jlU)) (And.intro (And.intro @jko @pure_val) (And.intro @pure_fz @jkO))) (And.intro (And.intro (And.intro @jiO @jiN) (And.intro @jiM @add_ptr)) (And.intro (And.intro @add_eptr @add_fptr) (And.intro @jmC @jmB))))) (And.intro (And.intro (And.intro (And.intro (And.intro @jnc @jjK) (And.intro @ld_ptr @jmR)) (And.intro (And.intro @jmQ @st_ptr) (And.intro @jmf @rows_nil))) (And.intro (And.intro (And.intro @rows_fz @rows_own) (And.intro @len_nil @len_fz)) (And.intro (And.intro @jmO @jnF) (And.intro @app_own @app_ownX)))) (And.intro (And.intro (And.intro (And.intro @app_fzX @H_at0) (And.intro @H_atK @H_set0)) (And.intro (And.intro @H_setK @zres1) (And.intro @zres2 @zres3))) (And.intro (And.intro (And.intro @zres_tmp @jlt) (And.intro @zh_bin @zh_mv)) (And.intro (And.intro @zh_mvV @jhr) (And.intro @jhq (And.intro @jit @zh_slice)))))))) (And.intro (And.intro (And.intro (And.intro (And.intro (And.intro (And.intro @jir @zh_loadI) (And.intro @zh_load @zh_nil)) (And.intro (And.intro @zu_bin @zu_mv) (And.intro @jhm @jhl))) (And.intro (And.intro (And.intro @jim @zu_slice) (And.intro @jik @zu_loadI)) (And.intro (And.intro @zu_load @zu_nil) (And.intro @jnG @jnj)))) (And.intro (And.intro (And.intro (And.intro @jk8 @addP_ptr) (And.intro @jnK @ovG_nil)) (And.intro (And.intro @ovG_cons @ovP_some) (And.intro @ovP_none @ovO_some))) (And.intro (And.intro (And.intro @ovO_none @exL_tmp) (And.intro @exL_av @jmw)) (And.intro (And.intro @zr_load @zh_pick) (And.intro @zu_pick @zh_box))))) (And.intro (And.intro (And.intro (And.intro (And.intro @zu_box @zh_zero) (And.intro @zu_zero @zh_build)) (And.intro (And.intro @zu_build @zh_lits) (And.intro @zu_lits @zh_store))) (And.intro (And.intro (And.intro @zu_store @zh_eqNil) (And.intro @zu_eqNil @jlJ)) (And.intro (And.intro @jlp @zh_eqAgg) (And.intro @zu_eqAgg @zh_un)))) (And.intro (And.intro (And.intro (And.intro @zu_un @zh_conv) (And.intro @zu_conv @zh_field)) (And.intro (And.intro @zu_field @zh_index) (And.intro @zu_index @jis))) (And.intro (And.intro (And.intro @jil @jkf) (And.intro @jj7 @jkg)) (And.intro (And.intro @jj8 @zh_func) (And.intro @zu_func (And.intro @zh_call @zu_call))))))) (And.intro (And.intro (And.intro (And.intro (And.intro (And.intro @jlK @jlq) (And.intro @zh_len @zu_len)) (And.intro (And.intro @jlI @jlo) (And.intro @zh_copy @zu_copy))) (And.intro (And.intro (And.intro @jlH @jln) (And.intro @zf_store @jlA)) (And.intro (And.intro @jlz @zr_store) (And.intro @jlP @jkd)))) (And.intro (And.intro (And.intro (And.intro @jkc @jlu) (And.intro @zf_copy @zp0_copy)) (And.intro (And.intro @zp1_copy @zr_copy) (And.intro @zf_call @zp0_call))) (And.intro (And.intro (And.intro @zp1_call @zr_call) (And.intro @zf_load @zp_load)) (And.intro (And.intro @bin_lss @bin_leq) (And.intro @bin_gtr @bin_geq))))) (And.intro (And.intro (And.intro (And.intro (And.intro @bin_eql @bin_neq) (And.intro @bin_add @bin_sub)) (And.intro (And.intro @bin_mul @un_not) (And.intro @jlL @jki))) (And.intro (And.intro (And.intro @jkh @jlM) (And.intro @zgoS_no @zgoS_frz)) (And.intro (And.intro @zgoS_own @zown_nil) (And.intro @zown_own @zown_fz)))) (And.intro (And.intro (And.intro (And.intro @zown_agg @zown_ptr) (And.intro @zfrz_own @zfrz_fz)) (And.intro (And.intro @zfrz_val @ownC_nil) (And.intro @jmD @jlG))) (And.intro (And.intro (And.intro @zW_opsD @det_mk) (And.intro @jht @jgP)) (And.intro (And.intro @z_bfunc @jkp) (And.intro @jio (And.intro @jls @zrng_ret)))))))))
theorem zxPack : type_of% (And.intro (And.intro (And.intro (And.intro (And.intro (And.intro @List.filter_cons.{0} (And.intro @List.filter_nil.{0} @Bool.or_false)) (And.intro @Bool.or_true (And.intro @Bool.false_or @Bool.true_or))) (And.intro (And.intro @ZV.val.injEq (And.intro @ZV.ptr.injEq @ZV.own.injEq)) (And.intro @ZV.fz.injEq (And.intro @ZV.func.injEq @ZV.tuple.injEq)))) (And.intro (And.intro (And.intro @ZV.agg.injEq (And.intro @ZB.box.injEq @ZB.grow.injEq)) (And.intro @Bool.not_eq_false' (And.intro @Prod.mk.injEq.{0,0} @and_assoc))) (And.intro (And.intro @decide_false (And.intro @decide_true @Bool.not_false)) (And.intro @Bool.not_true (And.intro @Bool.true_eq_false @Bool.false_eq_true))))) (And.intro (And.intro (And.intro (And.intro @exists_false.{1} (And.intro @Bool.not_eq_false @Bool.not_not)) (And.intro @Value.bool.injEq (And.intro @Value.int.injEq @Option.some.injEq.{0}))) (And.intro (And.intro @exists_eq_left'.{1} (And.intro @exists_eq_left.{1} @exists_and_left.{1})) (And.intro @exists_and_right.{1} (And.intro @and_true @true_and)))) (And.intro (And.intro (And.intro @decide_eq_true_eq (And.intro @decide_eq_false_iff_not @if_true.{1})) (And.intro @if_false.{1} (And.intro @Bool.not_eq_true' @beq_true))) (And.intro (And.intro @beq_false (And.intro @not_true_eq_false @not_false_eq_true)) (And.intro (And.intro @List.getD_cons_zero.{0} @List.getD_cons_succ.{0}) (And.intro @List.getD_nil.{0} @List.map_cons.{0,0})))))) (And.intro (And.intro (And.intro (And.intro (And.intro @List.map_nil.{0,0} (And.intro @List.append_nil.{0} @ite_true.{1})) (And.intro @ite_false.{1} (And.intro @or_true @true_or))) (And.intro (And.intro @or_false (And.intro @false_or @true_imp_iff)) (And.intro @false_imp_iff (And.intro @imp_false @and_self)))) (And.intro (And.intro (And.intro @imp_self (And.intro @and_false @false_and)) (And.intro @jhw (And.intro @Nat.le_refl @List.length_cons.{0}))) (And.intro (And.intro @List.length_nil.{0} (And.intro @List.length_map.{0,0} @List.length_set.{0})) (And.intro @List.all_cons.{0} (And.intro @List.all_nil.{0} @Bool.and_self))))) (And.intro (And.intro (And.intro (And.intro @Option.map_none.{0,0} (And.intro @Option.map_some.{0,0} @List.set_cons_zero.{0})) (And.intro @List.set_cons_succ.{0} (And.intro @Nat.lt_add_one @List.append_assoc.{0}))) (And.intro (And.intro @List.cons_append.{0} (And.intro @List.nil_append.{0} @List.length_append.{0})) (And.intro @List.take_zero.{0} (And.intro @List.take_succ_cons.{0} @List.take_nil.{0})))) (And.intro (And.intro (And.intro @List.drop_zero.{0} (And.intro @List.drop_succ_cons.{0} @List.drop_nil.{0})) (And.intro @List.getElem?_cons_zero.{0} (And.intro @List.getElem?_cons_succ.{0} @List.getElem?_map.{0,0}))) (And.intro (And.intro @Nat.add_eq_zero_iff (And.intro @Nat.zero_add @Nat.add_zero)) (And.intro (And.intro @Nat.mul_one @Nat.one_mul) (And.intro @List.flatten_cons.{0} @List.flatten_nil.{0}))))))) := And.intro (And.intro (And.intro (And.intro (And.intro (And.intro @List.filter_cons.{0} (And.intro @List.filter_nil.{0} @Bool.or_false)) (And.intro @Bool.or_true (And.intro @Bool.false_or @Bool.true_or))) (And.intro (And.intro @ZV.val.injEq (And.intro @ZV.ptr.injEq @ZV.own.injEq)) (And.intro @ZV.fz.injEq (And.intro @ZV.func.injEq @ZV.tuple.injEq)))) (And.intro (And.intro (And.intro @ZV.agg.injEq (And.intro @ZB.box.injEq @ZB.grow.injEq)) (And.intro @Bool.not_eq_false' (And.intro @Prod.mk.injEq.{0,0} @and_assoc))) (And.intro (And.intro @decide_false (And.intro @decide_true @Bool.not_false)) (And.intro @Bool.not_true (And.intro @Bool.true_eq_false @Bool.false_eq_true))))) (And.intro (And.intro (And.intro (And.intro @exists_false.{1} (And.intro @Bool.not_eq_false @Bool.not_not)) (And.intro @Value.bool.injEq (And.intro @Value.int.injEq @Option.some.injEq.{0}))) (And.intro (And.intro @exists_eq_left'.{1} (And.intro @exists_eq_left.{1} @exists_and_left.{1})) (And.intro @exists_and_right.{1} (And.intro @and_true @true_and)))) (And.intro (And.intro (And.intro @decide_eq_true_eq (And.intro @decide_eq_false_iff_not @if_true.{1})) (And.intro @if_false.{1} (And.intro @Bool.not_eq_true' @beq_true))) (And.intro (And.intro @beq_false (And.intro @not_true_eq_false @not_false_eq_true)) (And.intro (And.intro @List.getD_cons_zero.{0} @List.getD_cons_succ.{0}) (And.intro @List.getD_nil.{0} @List.map_cons.{0,0})))))) (And.intro (And.intro (And.intro (And.intro (And.intro @List.map_nil.{0,0} (And.intro @List.append_nil.{0} @ite_true.{1})) (And.intro @ite_false.{1} (And.intro @or_true @true_or))) (And.intro (And.intro @or_false (And.intro @false_or @true_imp_iff)) (And.intro @false_imp_iff (And.intro @imp_false @and_self)))) (And.intro (And.intro (And.intro @imp_self (And.intro @and_false @false_and)) (And.intro @jhw (And.intro @Nat.le_refl @List.length_cons.{0}))) (And.intro (And.intro @List.length_nil.{0} (And.intro @List.length_map.{0,0} @List.length_set.{0})) (And.intro @List.all_cons.{0} (And.intro @List.all_nil.{0} @Bool.and_self))))) (And.intro (And.intro (And.intro (And.intro @Option.map_none.{0,0} (And.intro @Option.map_some.{0,0} @List.set_cons_zero.{0})) (And.intro @List.set_cons_succ.{0} (And.intro @Nat.lt_add_one @List.append_assoc.{0}))) (And.intro (And.intro @List.cons_append.{0} (And.intro @List.nil_append.{0} @List.length_append.{0})) (And.intro @List.take_zero.{0} (And.intro @List.take_succ_cons.{0} @List.take_nil.{0})))) (And.intro (And.intro (And.intro @List.drop_zero.{0} (And.intro @List.drop_succ_cons.{0} @List.drop_nil.{0})) (And.intro @List.getElem?_cons_zero.{0} (And.intro @List.getElem?_cons_succ.{0} @List.getElem?_map.{0,0}))) (And.intro (And.intro @Nat.add_eq_zero_iff (And.intro @Nat.zero_add @Nat.add_zero)) (And.intro (And.intro @Nat.mul_one @Nat.one_mul) (And.intro @List.flatten_cons.{0} @List.flatten_nil.{0}))))))
theorem zyPack : type_of% (And.intro (And.intro (@List.contains_cons.{0}) (@List.contains_nil.{0})) (And.intro (@BEq.rfl.{0}) (And.intro (@List.lookup_cons.{0,0}) (@List.lookup_nil.{0,0})))) := And.intro (And.intro (@List.contains_cons.{0}) (@List.contains_nil.{0})) (And.intro (@BEq.rfl.{0}) (And.intro (@List.lookup_cons.{0,0}) (@List.lookup_nil.{0,0})))
theorem jab : type_of% (And.intro (And.intro @zgoO @zgoG) (And.intro @zO_nil (And.intro @jeF @zgoC))) := And.intro (And.intro @zgoO @zgoG) (And.intro @zO_nil (And.intro @jeF @zgoC))
theorem zP : type_of% (And.intro (And.intro @zmPack @zxPack) (And.intro @zyPack (And.intro (And.intro (@ne_eq.{1}) (And.intro (@implies_true.{0}) (@implies_true.{1}))) (And.intro (@forall_const.{0}) (@forall_const.{1}))))) := (And.intro (And.intro @zmPack @zxPack) (And.intro @zyPack (And.intro (And.intro (@ne_eq.{1}) (And.intro (@implies_true.{0}) (@implies_true.{1}))) (And.intro (@forall_const.{0}) (@forall_const.{1})))))
end Go.Proofs.Ytmholkmghhkbhaa

namespace Go.Proofs.Ytmholkmghhkbhaa
open Go Go.RowKit
variable {fl L : Nat → Bool} {w : Wd} {H : ZH} {K : ZV → ZH → Prop}
theorem atN0 {W : ZH} {n : Nat} (h : W.length = n) (A : ZB) (X : ZH) : (W ++ (A :: X))[n]? = some A := by rw [← h, List.getElem?_append_right (Nat.le_refl _), Nat.sub_self]; rfl
theorem atN1 {W : ZH} {n : Nat} (h : W.length = n) (A B : ZB) (X : ZH) : (W ++ (A :: B :: X))[n + 1]? = some B := by rw [← h, List.getElem?_append_right (by omega), Nat.add_sub_cancel_left]; rfl
theorem atN2 {W : ZH} {n : Nat} (h : W.length = n) (A B C : ZB) (X : ZH) : (W ++ (A :: B :: C :: X))[n + 2]? = some C := by rw [← h, List.getElem?_append_right (by omega), Nat.add_sub_cancel_left]; rfl
theorem stN0 {W : ZH} {n : Nat} (h : W.length = n) (A C : ZB) (X : ZH) : (W ++ (A :: X)).set n C = W ++ (C :: X) := by rw [← h, List.set_append_right _ _ (Nat.le_refl _), Nat.sub_self]; rfl
theorem stN1 {W : ZH} {n : Nat} (h : W.length = n) (A B C : ZB) (X : ZH) : (W ++ (A :: B :: X)).set (n + 1) C = W ++ (A :: C :: X) := by rw [← h, List.set_append_right _ _ (by omega), Nat.add_sub_cancel_left]; rfl
theorem stN2 {W : ZH} {n : Nat} (h : W.length = n) (A B D C : ZB) (X : ZH) : (W ++ (A :: B :: D :: X)).set (n + 2) C = W ++ (A :: B :: C :: X) := by rw [← h, List.set_append_right _ _ (by omega), Nat.add_sub_cancel_left]; rfl
theorem FR.weak {Fr : Nat → Prop} {h : Heap} {k : Nat} {ex : Bool} {rows : List (List ZV)} {a : AV} (hf : FR Fr h (.fz k ex rows) a) : FR Fr h (.fz k false rows) a := by
 cases hf with
 | fnil h => rcases h with rfl | ⟨rfl, _⟩; exact .fnil (.inl rfl); exact .fnil (.inr ⟨rfl, rfl⟩)
 | fz cell h1 h2 h3 h4 h5 h6 h7 h8 => exact .fz cell h1 h2 h3 h4 (fun h => by cases h) h6 h7 h8
theorem Fin.weak {H0 : ZH} {k : Nat} {ex : Bool} {rows : List (List ZV)} {H' : ZH} {K : ZV → ZH → Prop} (hk : Fin H0 (.fz k false rows) H' K) : Fin H0 (.fz k ex rows) H' K := fun fl L w w' a r e r' e' he hz => hk fl L w w' a r e r' e' he (.fr (FR.weak hz.fz_inv))
theorem Fin.truncT {H0 : ZH} {zs : List ZV} {H' : ZH} {K : ZV → ZH → Prop} (hm : Mods H0 H') (hz : zs.all (refs H0.length) = true) (k : K (.tuple zs) (H'.take H0.length)) : Fin H0 (.tuple zs) H' K := fun fl L w w' a r e r' e' he hzz => by
 subst e; subst he
 obtain ⟨r2, e2⟩ := jmd r r' e' hm
 obtain ⟨ys, rfl, hys⟩ := hzz.tuple_inv
 exact ⟨.tuple zs, jdL w' w.H.length, rfl, r2, e2, ZRs.toTuple ⟨hys.1, fun i z b h1 h2 => (hys.2 i z b h1 h2).ren (jfj e'.Hl) (List.all_eq_true.1 hz z (List.mem_of_getElem? h1))⟩, k⟩
end Go.Proofs.Ytmholkmghhkbhaa

namespace Go.Proofs.Ytmholkmghhkbhaa
open Go
section
variable (X : XT) (F : FuncId → Option jaL) (G : Gh) (L : Nat → Bool) (H0 : ZH)
end
variable {X : XT} {F : FuncId → Option jaL} {G : Gh} {L fl : Nat → Bool} {H0 H : ZH} {S : ZS} {l : List jao} {dst : Option Nat} {op : AOp}
structure WOk (w0 w : Wd) (bA : Nat) (d : Seen) : Prop where
  e : Ext w0 w
  b : w0.h.length = bA
  n0 : ∀ i p, w0.mu i = some p → p.1 < bA
  rs1 : ∀ id ∈ d.rs, id < w.h.length
  rs2 : ∀ id, id < bA → id ∈ d.rs
  pr : match d.pr with | none => True | some la => ∀ id, id < bA → id ∈ la
theorem WOk.ext {w0 w w' : Wd} {bA : Nat} {d : Seen} (h : WOk w0 w bA d) (e : Ext w w') : WOk w0 w' bA d := ⟨h.e.trans e, h.b, h.n0, fun id hi => Nat.lt_of_lt_of_le (h.rs1 id hi) e.hl, h.rs2, h.pr⟩
end Go.Proofs.Ytmholkmghhkbhaa

namespace Go.Proofs.Ytmholkmghhkbhaa
open Go
variable {X : XT} {F : FuncId → Option jaL} {G : Gh} {L fl : Nat → Bool} {H0 H : ZH} {S : ZS} {l : List jao} {dst : Option Nat} {op : AOp} {top : Option (Nat × Option (List Nat))} {gl : Bool}
theorem jb8 {K : ZV → ZH → Prop} {t : TypeId} {x : Opd} : z1c X F L top gl S H K (.iface t x) ↔ zev S x = some (.agg []) ∧ K (.val (.iface t (.agg #[]))) H := Iff.rfl
theorem jb7 {K : ZV → ZH → Prop} {x : Opd} : z1c X F L top gl S H K (.panic x) ↔ X.nd = true ∧ ∃ t, zev S x = some (.val (.iface t (.agg #[]))) ∧ X.pn.g (.iface t (.agg #[])) := Iff.rfl

theorem z_toStr {K : ZV → ZH → Prop} {x : Opd} : z1c X F L top gl S H K (.toStr x) ↔ ∃ z rows ns, zev S x = some z ∧ jaX H 1 z = some rows ∧ jhN rows.flatten = some ns ∧ K (.val (.string (jdR ns))) H := Iff.rfl

def jdK (l : List jao) (S : ZS) (o : jao) : List Nat := if jda l o then (match o.op with
  | .load _ (.tmp t) => (match S t with | .ptr i _ => [i] | _ => [])
  | _ => []) else []
def zflH (L : Nat → Bool) (l : List jao) (S : ZS) : Nat → Bool := fun i => L i && !(l.flatMap (jdK l S)).contains i
def jlx (l : List jao) (S : ZS) (H : ZH) : Bool := l.all fun o => (match o.op with | .bad => false | _ => true) && (!jda l o || (match o.op with
  | .load n (.tmp t) => (match S t with | .ptr i off => (ldZ H n (.ptr i off)).isSome | _ => false)
  | _ => true))
theorem zW_opsH {KK : jaq → ZS → ZH → Prop} (h1 : jlx l S H = true) (h : zO X F G (zflH L l S) H.length [] none l S H (KK .normal)) : zW X F G L (.opsH l) S H KK := by
 intro fl w s r e hS
 subst e
 rw [AW_opsH]
 have hload : ∀ o ∈ l, jda l o = true → ∃ n t i off v id, o.op = .load n (.tmp t) ∧ S t = .ptr i off ∧ ldZ w.H n (.ptr i off) = some v ∧ s t = .ptr id off ∧ w.mu i = some (id, 0) ∧ i < w.H.length := fun o ho hf => by
  have := List.all_eq_true.1 h1 o ho
  simp only [Bool.and_eq_true, hf, Bool.not_true, Bool.false_or] at this
  have h2 := this.2
  have hf' := hf
  unfold jda at hf'
  split at hf'
  ·rename_i n t heq
   rw [heq] at h2
   simp only at h2
   split at h2
   ·rename_i i off hst
    obtain ⟨v, hv⟩ := Option.isSome_iff_exists.1 h2
    have hz := hS t
    rw [hst] at hz
    obtain ⟨id, cs, e1, e2, e3⟩ := hz.ptr_inv
    exact ⟨n, t, i, off, v, id, heq, hst, hv, e1, e3, (List.getElem?_eq_some_iff.1 e2).1⟩
   ·cases h2
  ·cases hf'
 have hsee : ∀ id, id ∈ l.flatMap (jdS l s) → ∃ i, i ∈ l.flatMap (jdK l S) ∧ w.mu i = some (id, 0) := fun id hid => by
  obtain ⟨o, ho, hi⟩ := List.mem_flatMap.1 hid
  unfold jdS at hi
  split at hi
  ·rename_i hf
   obtain ⟨n, t, i, off, v, id', q1, q2, q3, q4, q5, q6⟩ := hload o ho hf
   rw [q1] at hi
   simp only [sees, Opd.ev, q4, idOf, List.mem_singleton] at hi
   subst hi
   refine ⟨i, List.mem_flatMap.2 ⟨o, ho, ?_⟩, q5⟩
   unfold jdK
   rw [if_pos hf, q1]
   simp [q2]
  ·simp at hi
 have hzs : ∀ i, i ∈ l.flatMap (jdK l S) → i < w.H.length ∧ ∃ id, id ∈ l.flatMap (jdS l s) ∧ w.mu i = some (id, 0) := fun i hi => by
  obtain ⟨o, ho, hm⟩ := List.mem_flatMap.1 hi
  unfold jdK at hm
  split at hm
  ·rename_i hf
   obtain ⟨n, t, i', off, v, id', q1, q2, q3, q4, q5, q6⟩ := hload o ho hf
   rw [q1] at hm
   simp only [q2, List.mem_singleton] at hm
   subst hm
   refine ⟨q6, id', List.mem_flatMap.2 ⟨o, ho, ?_⟩, q5⟩
   unfold jdS
   rw [if_pos hf, q1]
   simp [sees, Opd.ev, q4, idOf]
  ·simp at hm
 have rL : ZRel (flH fl l s) (zflH L l S) w := by
  refine ⟨fun id hi => ?_, fun i hi => ?_, r.frlt, r.dom, r.inj, r.nfr, fun i p hp hl => ?_, r.box, r.grow⟩
  ·unfold flH
   simp only [Bool.and_eq_true, Bool.not_eq_true']
   refine ⟨r.fresh id hi, ?_⟩
   cases hc : (l.flatMap (jdS l s)).contains id with
   | false => rfl
   | true =>
    obtain ⟨i, _, hm⟩ := hsee id (List.contains_iff_mem.1 hc)
    have := (r.nfr i _ hm).2
    simp at this; omega
  ·unfold zflH
   simp only [Bool.and_eq_true, Bool.not_eq_true']
   refine ⟨r.lfresh i hi, ?_⟩
   cases hc : (l.flatMap (jdK l S)).contains i with
   | false => rfl
   | true =>
    have := (hzs i (List.contains_iff_mem.1 hc)).1
    omega
  ·unfold zflH at hl
   simp only [Bool.and_eq_true, Bool.not_eq_true'] at hl
   unfold flH
   simp only [Bool.and_eq_true, Bool.not_eq_true']
   refine ⟨r.wr i p hp hl.1, ?_⟩
   cases hc : (l.flatMap (jdS l s)).contains p.1 with
   | false => rfl
   | true =>
    obtain ⟨i', hi', hm⟩ := hsee p.1 (List.contains_iff_mem.1 hc)
    have := r.inj i i' _ _ hp hm rfl
    subst this
    rw [List.contains_iff_mem.2 hi'] at hl
    cases hl.2
 refine ⟨List.all_eq_true.2 fun o ho => ?_, ?_⟩
 ·have := List.all_eq_true.1 h1 o ho
  simp only [Bool.and_eq_true] at this ⊢
  refine ⟨this.1, ?_⟩
  cases hf : jda l o with
  | false => rfl
  | true =>
   obtain ⟨n, t, i, off, v, id', q1, q2, q3, q4, q5, q6⟩ := hload o ho hf
   have hk : z1 L none false S w.H (fun _ _ => True) (.load n (.tmp t)) := ⟨_, v, by rw [← q2]; rfl, rfl, q3, trivial⟩
   have ha := jjn (X := X) (F := F) (gl := false) (top := none) r hS (fun z id off _ _ => rfl) hk
   obtain ⟨v', h', he, _⟩ := ha
   obtain ⟨_, id2, off2, row, e1, e2, e3, e4⟩ := jdp he
   rw [q1]
   simp only [Bool.not_true, Bool.false_or]
   rw [e4 (fun _ => false) w.h e3]; rfl
 ·have h' := jcj (K' := fun S' H' => (∀ t, t ∉ l.filterMap (·.dst) → S' t = S t) ∧ KK .normal S' H') (fun S' H' hf k => ⟨hf, k⟩) h
  have hd : jc6 w w.H.length w.h.length [] none ⟨[], none⟩ := ⟨fun id hi => by simp at hi, fun i hi => by simp at hi, trivial, Nat.le_refl _, fun i cs _ _ p hp => (r.nfr i p hp).2⟩
  refine (jcd l [] none ⟨[], none⟩ S s w rL hS hd h').mono fun s' h1 hq => ?_
  obtain ⟨S', w', q1, q2, q3, q4, q5, q6⟩ := hq
  exact ⟨S', w', q1, r.back q2 q3, q3, q4, q5, q6⟩
end Go.Proofs.Ytmholkmghhkbhaa
