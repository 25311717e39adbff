/-
  ZM: loops over a list; what is left behind a call.
-/
import Derived.Test.YtpmmiaadfnildaaZmK
namespace Go.Proofs.Ytpmmiaadfnildaa
open Go Go.RowKit
set_option linter.unusedVariables false
set_option linter.unusedSimpArgs false
variable {fl L : Nat → Bool} {w : Wd} {S : ZS} {s : Slots} {H : ZH} {X : CallT} {F : FuncId → Option AFunc} {G : Gh}

abbrev Z64 (n : Int) : ZV := .val (.int .i64 n)
abbrev ZBo (b : Bool) : ZV := .val (.bool b)

theorem zO_iso {base : Nat} {rs : List Nat} {pr : Option (List Nat)} {dst : Option Nat} {op : AOp} {l : List AOper} {K : ZS → ZH → Prop} (h : z1c X F L none (zlit G dst) S H (zgo G dst fun z H' => zO X F G L base rs pr l (zput S dst z) H' K) op) : zO X F G L base rs pr (⟨dst, op, none, true⟩ :: l) S H K := by
  simp only [zO, wantZ]
  exact ⟨fun _ => by simpa using h, fun q => by cases q⟩

theorem zW_range {B Cn tc ti tl tn : Nat} {body : ACode} {K : AExit → ZS → ZH → Prop} (N : Nat) (hN : N < 9223372036854775807) (hG : G.own.lookup tc = none ∧ G.own.lookup tn = none ∧ G.own.lookup ti = none ∧ G.frz.contains tc = false ∧ G.frz.contains tn = false ∧ G.frz.contains ti = false) (hti : S ti = Z64 (0 : Nat)) (htl : S tl = Z64 N) (h1 : tl ∉ wrs body) (h2 : ti ∉ wrs body) (h3 : tc ≠ ti ∧ tc ≠ tl ∧ tn ≠ ti ∧ tn ≠ tl ∧ ti ≠ tl)
    (I : Nat → ZS → ZH → Prop) (h0 : I 0 S H)
    (round : ∀ k s' h', k < N → I k s' h' → s' ti = Z64 k → s' tl = Z64 N → (∀ t, t ∉ wrs body → t ≠ tc → t ≠ ti → t ≠ tn → s' t = S t) →
      zW X F G L body (zupd s' tc (ZBo true)) h' (zinBlk Cn (zthen (fun s2 h2 => I (k + 1) (zupd (zupd s2 tn (Z64 (k + 1 : Nat))) ti (Z64 (k + 1 : Nat))) h2) (zinBlk B K))))
    (done : ∀ s' h', I N s' h' → (∀ t, t ∉ wrs body → t ≠ tc → t ≠ ti → t ≠ tn → s' t = S t) → K .normal (zupd s' tc (ZBo false)) h') : zW X F G L (rangeCode B Cn tc ti tl tn body) S H K := by
  obtain ⟨c1, c2, c3, c4, c5⟩ := h3
  obtain ⟨g1, g2, g3, g4, g5, g6⟩ := hG
  have gc : ∀ {K : ZV → ZH → Prop} {z H}, zgo G (some tc) K z H = K z H := by intro K z H; simp only [zgo, g1, g4, Bool.false_eq_true, if_false]
  have gn : ∀ {K : ZV → ZH → Prop} {z H}, zgo G (some tn) K z H = K z H := by intro K z H; simp only [zgo, g2, g5, Bool.false_eq_true, if_false]
  have gi : ∀ {K : ZV → ZH → Prop} {z H}, zgo G (some ti) K z H = K z H := by intro K z H; simp only [zgo, g3, g6, Bool.false_eq_true, if_false]
  show zW X F G L (.loop _) S H (zinBlk B K)
  refine zW_while (fun n s' h' => ∃ k, n = N - k ∧ k ≤ N ∧ I k s' h' ∧ s' ti = Z64 k ∧ s' tl = Z64 N) N ⟨0, by omega, Nat.zero_le _, h0, hti, htl⟩ fun n s' h' hI hs => ?_
  obtain ⟨k, rfl, hk, hIk, hik, hlk⟩ := hI
  have hst : ∀ t, t ∉ wrs body → t ≠ tc → t ≠ ti → t ≠ tn → s' t = S t := fun t q1 q2 q3 q4 => hs t (by simp [wrs, q1, q2, q3, q4])
  show zO X F G L _ _ _ _ s' h' _
  refine zO_iso ?_
  refine ⟨.int .i64 k, .int .i64 N, .bool (decide (k < N)), by simp [zev, hik], by simp [zev, hlk], by simp [binV], ?_⟩
  rw [gc]
  show zW X F G L (.seq _ _) _ h' _
  refine ⟨decide (k < N), by simp [zev, zput, zupd], fun ht => ?_, fun hf => ?_⟩
  · have hlt : k < N := by simpa using ht
    show zW X F G L (.seq _ _) _ h' _
    rw [ht]
    show zW X F G L body (zupd s' tc (ZBo true)) h' (zinBlk Cn _)
    refine zW_frame (zW_mono (fun x s2 h2' _ kk hfr => ?_) (round k s' h' hlt hIk hik hlk hst))
    have e1 : s2 ti = Z64 k := by rw [hfr ti (by simpa [wrs] using h2)]; simp only [zupd]; rw [if_neg (Ne.symm c1)]; exact hik
    have e2 : s2 tl = Z64 N := by rw [hfr tl (by simpa [wrs] using h1)]; simp only [zupd]; rw [if_neg (Ne.symm c2)]; exact hlk
    have go : I (k + 1) (zupd (zupd s2 tn (Z64 (k + 1 : Nat))) ti (Z64 (k + 1 : Nat))) h2' → zW X F G L (.ops [⟨some tn, .bin .add (.tmp ti) (.av (.val (.int .i64 1))), none, true⟩, ⟨some ti, .mv (.tmp tn), none, true⟩]) s2 h2'
        (zthen (fun s2 h2 => ∃ m, m < N - k ∧ ∃ k, m = N - k ∧ k ≤ N ∧ I k s2 h2 ∧ s2 ti = Z64 k ∧ s2 tl = Z64 N) (zinBlk B K)) := by
      intro hI2
      have w1 : IntKind.i64.wrap ((k : Int) + 1) = ((k + 1 : Nat) : Int) := by rw [IntWalk.i64_in _ (by omega)]; omega
      refine zO_iso ⟨.int .i64 k, .int .i64 1, .int .i64 (k + 1 : Nat), by simp [zev, e1], by simp [zev], by simp [binV, w1], ?_⟩
      rw [gn]
      refine zO_iso ⟨Z64 (k + 1 : Nat), by simp [zev, zput, zupd], ?_⟩
      rw [gi]
      exact ⟨N - (k + 1), by omega, k + 1, rfl, by omega, hI2, by simp [zput, zupd], by simp [zput, zupd, Ne.symm c4, Ne.symm c5, e2]⟩
    cases x with
    | normal => exact go kk
    | exit j =>
      simp only [zinBlk] at kk ⊢
      by_cases hj : j = Cn
      · rw [if_pos hj] at kk ⊢; exact go kk
      · rw [if_neg hj] at kk ⊢; exact kk
    | ret => exact kk
  · have hge : k = N := by
      have : ¬ k < N := by simpa using hf
      omega
    subst hge
    show (if B = B then K .normal _ h' else _)
    rw [if_pos rfl, hf]
    exact done s' h' hIk hst
theorem zW_for {B Cn tc ti tl tn : Nat} {body : ACode} {K : AExit → ZS → ZH → Prop} (N : Nat) (hN : N < 9223372036854775807) (hG : G.own.lookup tc = none ∧ G.own.lookup tn = none ∧ G.own.lookup ti = none ∧ G.frz.contains tc = false ∧ G.frz.contains tn = false ∧ G.frz.contains ti = false) (hti : S ti = Z64 (0 : Nat)) (htl : S tl = Z64 N) (h1 : (wrs body).contains tl = false) (h2 : (wrs body).contains ti = false) (h3 : tc ≠ ti ∧ tc ≠ tl ∧ tn ≠ ti ∧ tn ≠ tl ∧ ti ≠ tl)
    (I : Nat → ZS → ZH → Prop) (h0 : I 0 S H)
    (round : ∀ k s' h', k < N → I k s' h' → s' ti = Z64 k → s' tl = Z64 N → (∀ t, (wrs body ++ [tc, ti, tn]).contains t = false → s' t = S t) →
      zW X F G L body (zupd s' tc (ZBo true)) h' (zinBlk Cn (zthen (fun s2 h2 => I (k + 1) (zupd (zupd s2 tn (Z64 (k + 1 : Nat))) ti (Z64 (k + 1 : Nat))) h2) (zinBlk B K))))
    (done : ∀ s' h', I N s' h' → (∀ t, (wrs body ++ [tc, ti, tn]).contains t = false → s' t = S t) → K .normal (zupd s' tc (ZBo false)) h') : zW X F G L (rangeCode B Cn tc ti tl tn body) S H K := by
  have hc : ∀ (l : List Nat) t, l.contains t = false → t ∉ l := fun l t h hm => by
    have := List.contains_iff_mem.2 hm
    rw [h] at this; cases this
  have hcc : ∀ (s' : ZS), (∀ t, t ∉ wrs body → t ≠ tc → t ≠ ti → t ≠ tn → s' t = S t) → ∀ t, (wrs body ++ [tc, ti, tn]).contains t = false → s' t = S t := fun s' hs t ht => by
    have := hc _ _ ht
    simp only [List.mem_append, List.mem_cons, List.not_mem_nil, or_false, not_or] at this
    exact hs t this.1 this.2.1 this.2.2.1 this.2.2.2
  exact zW_range N hN hG hti htl (hc _ _ h1) (hc _ _ h2) h3 I h0 (fun k s' h' a b c d e => round k s' h' a b c d (hcc s' e)) (fun s' h' a b => done s' h' a (hcc s' b))

/-! ### What is left -/
def Fin (H0 : ZH) (z : ZV) (H' : ZH) (K : ZV → ZH → Prop) : Prop := ∀ (fl L : Nat → Bool) (w w' : Wd) (a : AV), ZRel fl L w → w.H = H0 → ZRel fl L w' → Ext w w' → w'.H = H' → ZR w' z a → PK fl L w K a w'.h
theorem Fin.keep {H0 : ZH} {z : ZV} {H' : ZH} {K : ZV → ZH → Prop} (k : K z H') : Fin H0 z H' K := fun fl L w w' a r e r' e' he hz => ⟨z, w', rfl, r', e', hz, he ▸ k⟩
/-- It speaks of the first n blocks alone. -/
def refs1 (n : Nat) : ZV → Bool
  | .own i _ _ _ _ => decide (i < n)
  | .ptr i _ => decide (i < n)
  | .eptr i _ _ _ => decide (i < n)
  | .val _ => true
  | .fz _ _ _ => true
  | .fptr _ _ _ _ => true
  | .func _ caps => caps.isEmpty
  | _ => false
def refs (n : Nat) : ZV → Bool
  | .agg cs => cs.all (refs1 n)
  | .tuple cs => cs.all (refs1 n)
  | .func _ cs => cs.all (refs1 n)
  | z => refs1 n z
def refsB (n : Nat) : ZB → Bool
  | .box cs => cs.all (refs1 n)
  | .grow _ _ rows => rows.flatten.all (refs1 n)
  | .dead => true
/-- The first n blocks as they are, others perhaps elsewhere. -/
structure Ren (w w2 : Wd) (n : Nat) : Prop where
  fr : w2.Fr = w.Fr
  h : w2.h = w.h
  lt : ∀ j, j < n → w2.mu j = w.mu j
  get : ∀ (j : Nat) B, j < n → (w2.H[j]? = some B ↔ w.H[j]? = some B)
  ge : ∀ j p, n ≤ j → w2.mu j = some p → ∃ i p0, n ≤ i ∧ w.mu i = some p0 ∧ p0.1 = p.1
  len : n ≤ w2.H.length
section
variable {w2 : Wd} {n : Nat}
theorem Jk.ren (R : Ren w w2 n) {i : Nat} (hi : i < n) {a : AV} (h : Jk w i a) : Jk w2 i a := fun id hid => by
  obtain ⟨h1, h2⟩ := h id hid
  refine ⟨by rw [R.h]; exact h1, fun j p hp e => ?_⟩
  by_cases hj : j < n
  · rw [R.lt j hj] at hp; exact h2 j p hp e
  · obtain ⟨j0, p0, q1, q2, q3⟩ := R.ge j p (by omega) hp
    have := h2 j0 p0 q2 (q3.trans e)
    omega
theorem Hdr.ren (R : Ren w w2 n) {i k : Nat} (hi : i < n) {rows : List (List ZV)} {off len : Nat} {ex : Bool} {a : AV} (h : Hdr w i k rows off len ex a) : Hdr w2 i k rows off len ex a := by
  rcases h with ⟨h1, h2, h3, h4, h5⟩ | ⟨id, b, lb, ex', row, h1, h2⟩
  · exact .inl ⟨(R.lt i hi).trans h1, h2, h3, h4, by rw [R.fr, R.h]; exact h5⟩
  · exact .inr ⟨id, b, lb, ex', row, (R.lt i hi).trans h1, by rw [R.h]; exact h2⟩
theorem ZR.ren1 (R : Ren w w2 n) {z : ZV} {a : AV} (hz : ZR w z a) (hr : refs1 n z = true) : ZR w2 z a := by
  have hlen := R.len
  cases hz with
  | fr hf => exact .fr (by rw [R.fr, R.h]; exact hf)
  | @ptr i o id cs h1 h2 =>
    have hi : i < n := by simpa [refs1] using hr
    exact .ptr ((R.get _ _ hi).2 h1) ((R.lt _ hi).trans h2)
  | @own i g off len ex a h1 h2 h3 h4 =>
    have hi : i < n := by simpa [refs1] using hr
    exact .own (by omega) (fun g' k rows hb => ⟨(h2 _ _ _ ((R.get _ _ hi).1 hb)).1, fun e => ((h2 _ _ _ ((R.get _ _ hi).1 hb)).2 e).ren R hi⟩) (h3.ren R hi) h4
  | @eptr i g e o id x h1 h2 h3 =>
    have hi : i < n := by simpa [refs1] using hr
    refine .eptr (by omega) (fun g' k rows hb => ⟨(h2 _ _ _ ((R.get _ _ hi).1 hb)).1, fun e => ?_⟩) (h3.ren R hi)
    obtain ⟨b, q1, q2⟩ := (h2 _ _ _ ((R.get _ _ hi).1 hb)).2 e
    exact ⟨b, (R.lt _ hi).trans q1, q2⟩
  | fptr h1 h2 => exact .fptr (by rw [R.fr, R.h]; exact h1) h2
  | agg h1 h2 => simp [refs1] at hr
  | tuple h1 h2 => simp [refs1] at hr
  | func h1 h2 =>
    simp only [refs1, List.isEmpty_iff] at hr
    subst hr
    exact .func h1 (fun i z a h => by simp at h)
theorem ZRs.ren (R : Ren w w2 n) {zs : List ZV} {ys : List AV} (h : ZRs w zs ys) (hr : zs.all (refs1 n) = true) : ZRs w2 zs ys := ⟨h.1, fun i z a h1 h2 => (h.2 i z a h1 h2).ren1 R (List.all_eq_true.1 hr z (List.mem_of_getElem? h1))⟩
theorem ZR.ren (R : Ren w w2 n) {z : ZV} {a : AV} (hz : ZR w z a) (hr : refs n z = true) : ZR w2 z a := by
  cases hz with
  | agg h1 h2 => exact (ZRs.ren R ⟨h1, h2⟩ hr).toAgg
  | tuple h1 h2 => exact (ZRs.ren R ⟨h1, h2⟩ hr).toTuple
  | func h1 h2 => exact (ZRs.ren R ⟨h1, h2⟩ hr).toFunc
  | fr hf => exact (ZR.fr hf).ren1 R (by cases hf <;> rfl)
  | ptr h1 h2 => exact (ZR.ptr h1 h2).ren1 R hr
  | own h1 h2 h3 h4 => exact (ZR.own h1 h2 h3 h4).ren1 R hr
  | eptr h1 h2 h3 => exact (ZR.eptr h1 h2 h3).ren1 R hr
  | fptr h1 h2 => exact (ZR.fptr h1 h2).ren1 R rfl
/-- What was there before. -/
theorem ZR.renO {w0 : Wd} (e : Ext w0 w) (R : Ren w w2 w0.H.length) {z : ZV} {a : AV} (hz : ZR w z a) : ∀ {a0 : AV}, ZR w0 z a0 → ZR w2 z a := by
  have hl := e.Hl
  have hlen := R.len
  induction hz with
  | fr hf => exact fun _ => .fr (by rw [R.fr, R.h]; exact hf)
  | ptr h1 h2 =>
    intro a0 h0
    obtain ⟨_, cs, _, q, _⟩ := h0.ptr_inv
    exact (ZR.ptr h1 h2).ren1 R (by simpa [refs1] using (List.getElem?_eq_some_iff.1 q).1)
  | own h1 h2 h3 h4 =>
    intro a0 h0
    have hi : _ < w0.H.length := h0.owner_lt _ (by simp [owners]; rfl)
    exact (ZR.own h1 h2 h3 h4).ren1 R (by simpa [refs1] using hi)
  | eptr h1 h2 h3 =>
    intro a0 h0
    have hi : _ < w0.H.length := h0.owner_lt _ (by simp [owners]; rfl)
    exact (ZR.eptr h1 h2 h3).ren1 R (by simpa [refs1] using hi)
  | fptr h1 h2 => exact fun _ => (ZR.fptr h1 h2).ren1 R rfl
  | agg h1 h2 ih =>
    intro a0 h0
    obtain ⟨ys, _, h3⟩ := h0.agg_inv
    exact .agg h1 fun i z a hz ha => by obtain ⟨b, _, hb⟩ := h3.get hz; exact ih i z a hz ha hb
  | tuple h1 h2 ih =>
    intro a0 h0
    obtain ⟨ys, _, h3⟩ := h0.tuple_inv
    exact .tuple h1 fun i z a hz ha => by obtain ⟨b, _, hb⟩ := h3.get hz; exact ih i z a hz ha hb
  | func h1 h2 ih =>
    intro a0 h0
    obtain ⟨ys, _, h3⟩ := h0.func_inv
    exact .func h1 fun i z a hz ha => by obtain ⟨b, _, hb⟩ := h3.get hz; exact ih i z a hz ha hb
end
theorem ren_w {w0 w w2 : Wd} (r0 : ZRel fl L w0) (r : ZRel fl L w) (e : Ext w0 w) (R : Ren w w2 w0.H.length) (hm : ∀ (i : Nat) B, i < w0.H.length → w.H[i]? = some B → w0.H[i]? = some B ∨ refsB w0.H.length B = true)
    (dom : ∀ i p, w2.mu i = some p → i < w2.H.length) (inj : ∀ i j p q, w2.mu i = some p → w2.mu j = some q → p.1 = q.1 → i = j)
    (hx : ∀ (i : Nat) B, w0.H.length ≤ i → w2.H[i]? = some B → ∃ g k rows, B = .grow g k rows ∧ (∀ r ∈ rows, r.length = k) ∧ ((w2.mu i = none ∧ rows = []) ∨ ∃ id b row, w2.mu i = some (id, b) ∧ blk w2.h id = some row ∧ b + rows.length * k ≤ row.length ∧ ZRs w2 rows.flatten ((row.drop b).take (rows.length * k)))) : ZRel fl L w2 ∧ Ext w0 w2 := by
  obtain ⟨n, hn⟩ : ∃ n, n = w0.H.length := ⟨_, rfl⟩
  have old : ∀ {zs : List ZV} {ys ys0 : List AV}, ZRs w zs ys → ZRs w0 zs ys0 → ZRs w2 zs ys := fun h h0 => ⟨h.1, fun i z a h1 h2 => by obtain ⟨b, _, hb⟩ := h0.get h1; exact (h.2 i z a h1 h2).renO e R hb⟩
  have hmu : ∀ i p, w2.mu i = some p → ∃ i0 p0, w.mu i0 = some p0 ∧ p0.1 = p.1 ∧ (i < w0.H.length → i0 = i ∧ p0 = p) ∧ (w0.H.length ≤ i → w0.H.length ≤ i0) := fun i p h => by
    by_cases hi : i < w0.H.length
    · rw [R.lt i hi] at h; exact ⟨i, p, h, rfl, fun _ => ⟨rfl, rfl⟩, fun q => by omega⟩
    · obtain ⟨i0, p0, q1, q2, q3⟩ := R.ge i p (by omega) h
      exact ⟨i0, p0, q2, q3, fun q => absurd q hi, fun _ => q1⟩
  refine ⟨⟨by rw [R.h]; exact r.fresh, fun i h => r0.lfresh i (Nat.le_trans R.len h), by rw [R.fr, R.h]; exact r.frlt, dom, inj, fun i p h => ?_, fun i p h hl => ?_, fun i cs h => ?_, fun i g k rows h => ?_⟩,
    ⟨by rw [R.fr]; exact e.frm, by rw [R.h]; exact e.frb, by rw [R.h]; exact e.hl, R.len, fun i p h => ?_, fun i cs h => ?_, fun i cs hi h => e.boxr i cs hi ((R.get i _ hi).1 h), fun i g k rows hi h => ?_⟩⟩
  · obtain ⟨i0, p0, q1, q2, _⟩ := hmu i p h
    rw [R.fr, R.h, ← q2]; exact r.nfr i0 p0 q1
  · obtain ⟨i0, p0, q1, q2, q3, q4⟩ := hmu i p h
    rw [← q2]
    by_cases hi : i < w0.H.length
    · rw [(q3 hi).1] at q1; exact r.wr i p0 q1 hl
    · exact r.wr i0 p0 q1 (r0.lfresh i0 (q4 (by omega)))
  · by_cases hi : i < w0.H.length
    · have hb := (R.get i _ hi).1 h
      obtain ⟨id, row, h1, h2, h3⟩ := r.box i cs hb
      refine ⟨id, row, (R.lt i hi).trans h1, by rw [R.h]; exact h2, ?_⟩
      rcases hm i _ hi hb with h4 | h4
      · obtain ⟨_, row0, _, _, h5⟩ := r0.box i cs h4
        exact old h3 h5
      · exact h3.ren R h4
    · obtain ⟨g, k, rows, q, _⟩ := hx i _ (by omega) h
      cases q
  · by_cases hi : i < w0.H.length
    · have hb := (R.get i _ hi).1 h
      obtain ⟨h0, h1 | ⟨id, b, row, h1, h2, h3, h4⟩⟩ := r.grow i g k rows hb
      · exact ⟨h0, .inl ⟨(R.lt i hi).trans h1.1, h1.2⟩⟩
      · refine ⟨h0, .inr ⟨id, b, row, (R.lt i hi).trans h1, by rw [R.h]; exact h2, h3, ?_⟩⟩
        rcases hm i _ hi hb with h5 | h5
        · obtain ⟨_, ⟨_, h6⟩ | ⟨_, _, _, _, _, _, h6⟩⟩ := r0.grow i g k rows h5
          · subst h6; simp at h4 ⊢; exact .nil
          · exact old h4 h6
        · exact h4.ren R h5
    · obtain ⟨g', k', rows', q, h1⟩ := hx i _ (by omega) h
      injection q with t1 t2 t3; subst t1; subst t2; subst t3
      exact h1
  · obtain ⟨i0, p0, q1, q2, q3, q4⟩ := hmu i p h
    rcases e.mu i0 p0 q1 with ⟨p', h1, h2⟩ | h1
    · by_cases hi : i < w0.H.length
      · rw [(q3 hi).1] at h1; exact .inl ⟨p', h1, h2.trans q2⟩
      · have := r0.dom i0 p' h1; have := q4 (by omega); omega
    · exact .inr (by omega)
  · have hi := (List.getElem?_eq_some_iff.1 h).1
    obtain ⟨⟨cs', h1⟩, h2⟩ := e.box i cs h
    exact ⟨⟨cs', (R.get i _ hi).2 h1⟩, (R.lt i hi).trans h2⟩
  · obtain ⟨g0, rows0, h1, h2, h3⟩ := e.grow i g k rows hi ((R.get i _ hi).1 h)
    exact ⟨g0, rows0, h1, h2, fun q => by obtain ⟨a1, a2, a3⟩ := h3 q; exact ⟨(R.lt i hi).trans a1, a2, by rw [R.h]; exact a3⟩⟩
def truncW (w : Wd) (n : Nat) : Wd := ⟨w.Fr, fun i => if i < n then w.mu i else none, w.H.take n, w.h⟩
theorem trunc_ren {w : Wd} {n : Nat} (hn : n ≤ w.H.length) : Ren w (truncW w n) n := by
  refine ⟨rfl, rfl, fun j hj => by simp [truncW, hj], fun j B hj => ?_, fun j p hj h => ?_, ?_⟩
  · show (w.H.take n)[j]? = some B ↔ _
    rw [List.getElem?_take, if_pos hj]
  · simp only [truncW] at h
    rw [if_neg (by omega)] at h; cases h
  · show n ≤ (w.H.take n).length
    rw [List.length_take]; omega
theorem trunc_w {w0 w : Wd} (r0 : ZRel fl L w0) (r : ZRel fl L w) (e : Ext w0 w) (hm : ∀ (i : Nat) B, i < w0.H.length → w.H[i]? = some B → w0.H[i]? = some B ∨ refsB w0.H.length B = true) : ZRel fl L (truncW w w0.H.length) ∧ Ext w0 (truncW w w0.H.length) := by
  have hl := e.Hl
  have hlen : (truncW w w0.H.length).H.length = w0.H.length := by
    show (w.H.take _).length = _
    rw [List.length_take]; omega
  have hmu : ∀ i p, (truncW w w0.H.length).mu i = some p → i < w0.H.length ∧ w.mu i = some p := fun i p h => by
    simp only [truncW] at h
    split at h
    · exact ⟨by assumption, h⟩
    · cases h
  exact ren_w r0 r e (trunc_ren hl) hm (fun i p h => by rw [hlen]; exact (hmu i p h).1) (fun i j p q h1 h2 => r.inj i j p q (hmu i p h1).2 (hmu j q h2).2) fun i B hi h => by have := lt_of_get h; omega
/-- Which blocks of the caller's are changed: into what they may hold. -/
def Mods (H0 H' : ZH) : Prop := ∀ (i : Nat) B, i < H0.length → H'[i]? = some B → H0[i]? = some B ∨ refsB H0.length B = true
theorem Mods.ext (H0 e : ZH) : Mods H0 (H0 ++ e) := fun i B hi h => by rw [List.getElem?_append_left hi] at h; exact .inl h
theorem Mods.set {H0 H' : ZH} (h : Mods H0 H') {j : Nat} {B : ZB} (hB : refsB H0.length B = true) : Mods H0 (H'.set j B) := fun i C hi hc => by
  rw [List.getElem?_set] at hc
  split at hc
  · split at hc
    · injection hc with hc; subst hc; exact .inr hB
    · cases hc
  · exact h i C hi hc
theorem Fin.trunc {H0 : ZH} {z : ZV} {H' : ZH} {K : ZV → ZH → Prop} (hm : Mods H0 H') (hz : refs H0.length z = true) (k : K z (H'.take H0.length)) : Fin H0 z H' K := fun fl L w w' a r e r' e' he hzz => by
  subst e; subst he
  obtain ⟨r2, e2⟩ := trunc_w r r' e' hm
  exact ⟨z, truncW w' w.H.length, rfl, r2, e2, hzz.ren (trunc_ren e'.Hl) hz, k⟩
/-- A part of the result is written to no more. -/
theorem Fin.frz {H0 : ZH} {i g off len : Nat} {ex : Bool} {H' : ZH} {K : ZV → ZH → Prop} {k : Nat} {rows : List (List ZV)} (hb : H'[i]? = some (.grow g k rows)) (hle : off + len ≤ rows.length) (hp : rows.flatten.all pureZ = true) (hk : Fin H0 (.fz k ex ((rows.drop off).take len)) (H'.set i .dead) K) : Fin H0 (.own i g off len ex) H' K := fun fl L w w' a r e r' e' he hz => by
  subst he
  obtain ⟨w2, e1, e2, e3, e4, e5⟩ := freeze_own r' hb hle hp hz
  rw [← e1]
  exact hk fl L w w2 a r e e3 (e'.trans e4) e2 e5
theorem Fin.frzT {H0 : ZH} {i g off len : Nat} {ex : Bool} {H' : ZH} {K : ZV → ZH → Prop} {k : Nat} {rows : List (List ZV)} {vs : List ZV} {j : Nat} (hj : vs[j]? = some (.own i g off len ex)) (hb : H'[i]? = some (.grow g k rows)) (hle : off + len ≤ rows.length) (hp : rows.flatten.all pureZ = true) (hk : Fin H0 (.tuple (vs.set j (.fz k ex ((rows.drop off).take len)))) (H'.set i .dead) K) : Fin H0 (.tuple vs) H' K := fun fl L w w' a r e r' e' he hz => by
  subst he
  obtain ⟨ys, rfl, hys⟩ := hz.tuple_inv
  obtain ⟨y, hy, hyz⟩ := hys.get hj
  obtain ⟨w2, e1, e2, e3, e4, e5⟩ := freeze_own r' hb hle hp hyz
  rw [← e1]
  refine hk fl L w w2 _ r e e3 (e'.trans e4) e2 (ZRs.toTuple ⟨by simp [hys.1], fun m z a hz' ha' => ?_⟩)
  have hjl : j < vs.length := (List.getElem?_eq_some_iff.1 hj).1
  by_cases hm : m = j
  · subst hm
    rw [List.getElem?_set] at hz'
    simp [hjl] at hz'
    rw [hy] at ha'; injection ha' with ha'
    subst hz'; subst ha'; exact e5
  · rw [List.getElem?_set, if_neg (Ne.symm hm)] at hz'
    exact (hys.2 m z a hz' ha').ext e4
/-- A list of the call's own is handed on as the caller's new block. -/
theorem own_out {w0 w : Wd} (r0 : ZRel fl L w0) (r : ZRel fl L w) (e : Ext w0 w) (hm : Mods w0.H w.H) {i g off len k : Nat} {ex : Bool} {rows : List (List ZV)} {a : AV} (hi : w0.H.length ≤ i) (hb : w.H[i]? = some (.grow g k rows)) (hle : off + len ≤ rows.length) (hp : rows.flatten.all (refs1 w0.H.length) = true) (hz : ZR w (.own i g off len ex) a) :
    ∃ w2, w2.h = w.h ∧ w2.H = w.H.take w0.H.length ++ [.grow 0 k ((rows.drop off).take len)] ∧ ZRel fl L w2 ∧ Ext w0 w2 ∧ ZR w2 (.own w0.H.length 0 0 len false) a ∧ ∀ z b, ZR w z b → refs w0.H.length z = true → ZR w2 z b := by
  obtain ⟨g0, gB⟩ := r.grow _ _ _ _ hb
  have hl := e.Hl
  have hlen : ((rows.drop off).take len).length = len := by rw [List.length_take, List.length_drop]; omega
  have hall : ∀ x ∈ (rows.drop off).take len, x.length = k := fun x hx => g0 x (List.mem_of_mem_drop (List.mem_of_mem_take hx))
  have hHl : (w.H.take w0.H.length).length = w0.H.length := by rw [List.length_take]; omega
  obtain ⟨q, hq⟩ : ∃ q : Option (Nat × Nat), q = (w.mu i).map fun p => (p.1, p.2 + off * k) := ⟨_, rfl⟩
  obtain ⟨w2, hw2⟩ : ∃ w2 : Wd, w2 = ⟨w.Fr, fun j => if j < w0.H.length then w.mu j else if j = w0.H.length then q else none, w.H.take w0.H.length ++ [.grow 0 k ((rows.drop off).take len)], w.h⟩ := ⟨_, rfl⟩
  have f1 : w2.Fr = w.Fr := by rw [hw2]
  have f2 : w2.h = w.h := by rw [hw2]
  have f3 : w2.H = w.H.take w0.H.length ++ [.grow 0 k ((rows.drop off).take len)] := by rw [hw2]
  have m1 : w2.mu w0.H.length = q := by rw [hw2]; simp
  have m2 : ∀ j, j < w0.H.length → w2.mu j = w.mu j := fun j hj => by rw [hw2]; simp [hj]
  have m3 : ∀ j p, w2.mu j = some p → j < w0.H.length ∨ (j = w0.H.length ∧ q = some p) := fun j p h => by
    rw [hw2] at h
    simp only at h
    split at h
    · exact .inl (by assumption)
    · split at h
      · rename_i hj; exact .inr ⟨hj, h⟩
      · cases h
  have mq : ∀ p, q = some p → ∃ p0, w.mu i = some p0 ∧ p0.1 = p.1 := fun p h => by
    rw [hq] at h
    cases hw : w.mu i with
    | none => rw [hw] at h; cases h
    | some p0 => rw [hw] at h; injection h with h; exact ⟨p0, rfl, by rw [← h]⟩
  have hnew : w2.H[w0.H.length]? = some (.grow 0 k ((rows.drop off).take len)) := by rw [f3, List.getElem?_append_right (by omega), hHl, Nat.sub_self]; rfl
  have R : Ren w w2 w0.H.length := by
    refine ⟨f1, f2, m2, fun j B hj => ?_, fun j p hj h => ?_, by rw [f3]; simp; omega⟩
    · rw [f3, List.getElem?_append_left (by omega), List.getElem?_take, if_pos hj]
    · rcases m3 j p h with h1 | ⟨_, h1⟩
      · omega
      · obtain ⟨p0, h2, h3⟩ := mq p h1; exact ⟨i, p0, hi, h2, h3⟩
  have hrows : ∀ {id b : Nat} {row : List AV}, w.mu i = some (id, b) → blk w.h id = some row → b + off * k + len * k ≤ row.length ∧ ZRs w2 ((rows.drop off).take len).flatten ((row.drop (b + off * k)).take (len * k)) := fun {id b row} h1 h2 => by
    rcases gB with ⟨n1, _⟩ | ⟨id', b', row', n1, n2, n3, n4⟩
    · rw [h1] at n1; cases n1
    · rw [h1] at n1; injection n1 with n1; injection n1 with t1 t2; subst t1; subst t2
      rw [h2] at n2; injection n2 with n2; subst n2
      have hm2 : (off + len) * k ≤ rows.length * k := Nat.mul_le_mul_right _ hle
      rw [Nat.add_mul] at hm2
      have := ((n4.ren R hp).drop (off * k)).take (len * k)
      rw [zflat_drop g0, zflat_take (fun x hx => g0 x (List.mem_of_mem_drop hx)), List.drop_take, List.drop_drop, List.take_take, Nat.min_eq_left (by omega)] at this
      exact ⟨by omega, this⟩
  have hgr : (w2.mu w0.H.length = none ∧ (rows.drop off).take len = []) ∨ ∃ id b row, w2.mu w0.H.length = some (id, b) ∧ blk w2.h id = some row ∧ b + ((rows.drop off).take len).length * k ≤ row.length ∧ ZRs w2 ((rows.drop off).take len).flatten ((row.drop b).take (((rows.drop off).take len).length * k)) := by
    rw [m1, hq]
    rcases gB with ⟨n1, n2⟩ | ⟨id, b, row, n1, n2, n3, n4⟩
    · exact .inl ⟨by rw [n1]; rfl, by rw [n2]; simp⟩
    · obtain ⟨s1, s2⟩ := hrows n1 n2
      exact .inr ⟨id, b + off * k, row, by rw [n1]; rfl, by rw [f2]; exact n2, by rw [hlen]; exact s1, by rw [hlen]; exact s2⟩
  obtain ⟨r2, e2⟩ := ren_w r0 r e R hm (fun j p h => by
      rw [f3]; simp only [List.length_append, List.length_cons, List.length_nil, hHl]
      rcases m3 j p h with h1 | ⟨h1, _⟩ <;> omega)
    (fun j j' p p' h1 h2 he => by
      have key : ∀ j p, w2.mu j = some p → ∃ i0 p0, w.mu i0 = some p0 ∧ p0.1 = p.1 ∧ ((j < w0.H.length ∧ i0 = j) ∨ (j = w0.H.length ∧ i0 = i)) := fun j p h => by
        rcases m3 j p h with h3 | ⟨h3, h4⟩
        · rw [m2 j h3] at h; exact ⟨j, p, h, rfl, .inl ⟨h3, rfl⟩⟩
        · obtain ⟨p0, h5, h6⟩ := mq p h4; exact ⟨i, p0, h5, h6, .inr ⟨h3, rfl⟩⟩
      obtain ⟨i1, p1, a1, a2, a3⟩ := key j p h1
      obtain ⟨i2, p2, b1, b2, b3⟩ := key j' p' h2
      have := r.inj i1 i2 p1 p2 a1 b1 (a2.trans (he.trans b2.symm))
      omega)
    (fun j B hj h => by
      have hj' : j = w0.H.length := by
        have := lt_of_get h
        rw [f3] at this
        simp only [List.length_append, List.length_cons, List.length_nil, hHl] at this
        omega
      subst hj'
      rw [hnew] at h; injection h with h; subst h
      exact ⟨0, k, _, rfl, hall, hgr⟩)
  refine ⟨w2, f2, f3, r2, e2, ?_, fun z b hb hr => hb.ren R hr⟩
  cases hz with
  | fr hf => cases hf
  | own h1 h2 h3 h4 =>
    rcases (h2 _ _ _ hb).2 rfl with ⟨s1, rfl, rfl, rfl, hq'⟩ | ⟨id, b, lb, ex', row, s1, rfl, s2, s3, s4, s5, s6⟩
    · refine own_nil r2 (k := k) (by simpa using hnew) (by rw [m1, hq, s1]; rfl) ?_
      rw [f1, f2]; exact hq'
    · have := own_mk r2 hnew (id := id) (b := b + off * k) (off := 0) (len := len) (lb := lb) (ex := false) (ex' := ex') (row := row) (by rw [m1, hq, s1]; rfl) (by rw [f2]; exact s4) (by omega) s3 (by omega) (fun h => by cases h)
      simpa using this
theorem Fin.own {H0 : ZH} {i g off len : Nat} {ex : Bool} {H' : ZH} {K : ZV → ZH → Prop} {k : Nat} {rows : List (List ZV)} (hm : Mods H0 H') (hi : H0.length ≤ i) (hb : H'[i]? = some (.grow g k rows)) (hle : off + len ≤ rows.length) (hp : rows.flatten.all (refs1 H0.length) = true) (hk : K (.own H0.length 0 0 len false) (H'.take H0.length ++ [.grow 0 k ((rows.drop off).take len)])) : Fin H0 (.own i g off len ex) H' K := fun fl L w w' a r e r' e' he hz => by
  subst e; subst he
  obtain ⟨w2, e1, e2, e3, e4, e5, e6⟩ := own_out r r' e' hm hi hb hle hp hz
  exact ⟨_, w2, e1, e3, e4, e5, by rw [e2]; exact hk⟩
theorem Fin.ownT {H0 : ZH} {i g off len : Nat} {ex : Bool} {H' : ZH} {K : ZV → ZH → Prop} {k : Nat} {rows : List (List ZV)} {vs : List ZV} {j : Nat} (hj : vs[j]? = some (.own i g off len ex)) (hv : (vs.set j .no).all (fun z => refs1 H0.length z || (match z with | .tuple [] => true | _ => false)) = true) (hm : Mods H0 H') (hi : H0.length ≤ i) (hb : H'[i]? = some (.grow g k rows)) (hle : off + len ≤ rows.length) (hp : rows.flatten.all (refs1 H0.length) = true) (hk : K (.tuple (vs.set j (.own H0.length 0 0 len false))) (H'.take H0.length ++ [.grow 0 k ((rows.drop off).take len)])) : Fin H0 (.tuple vs) H' K := fun fl L w w' a r e r' e' he hz => by
  subst e; subst he
  obtain ⟨ys, rfl, hys⟩ := hz.tuple_inv
  obtain ⟨y, hy, hyz⟩ := hys.get hj
  obtain ⟨w2, e1, e2, e3, e4, e5, e6⟩ := own_out r r' e' hm hi hb hle hp hyz
  refine ⟨.tuple (vs.set j (.own w.H.length 0 0 len false)), w2, e1, e3, e4, ZRs.toTuple ⟨by simp [hys.1], fun m z b hz' hb' => ?_⟩, by rw [e2]; exact hk⟩
  have hjl : j < vs.length := (List.getElem?_eq_some_iff.1 hj).1
  by_cases hmj : m = j
  · subst hmj
    rw [List.getElem?_set] at hz'
    simp [hjl] at hz'
    rw [hy] at hb'; injection hb' with hb'
    subst hz'; subst hb'; exact e5
  · rw [List.getElem?_set, if_neg (Ne.symm hmj)] at hz'
    have h1 : (vs.set j ZV.no)[m]? = some z := by rw [List.getElem?_set, if_neg (Ne.symm hmj)]; exact hz'
    have h2 := List.all_eq_true.1 hv z (List.mem_of_getElem? h1)
    refine e6 z b (hys.2 m z b hz' hb') ?_
    simp only [Bool.or_eq_true] at h2
    rcases h2 with h2 | h2
    · cases z <;> first | exact h2 | (simp [refs1] at h2; done) | skip
      simp only [refs1, List.isEmpty_iff] at h2
      subst h2; rfl
    · split at h2
      · rfl
      · cases h2

/-! ### Calls -/
def zres (S : ZS) (H : ZH) : ARes → Option ZV
  | .tmp t => some (S t)
  | .cell a n => ldZ H n (S a)
def zress (S : ZS) (H : ZH) : List ARes → Option (List ZV)
  | [] => some []
  | r :: l => match zres S H r, zress S H l with
    | some z, some zs => some (z :: zs)
    | _, _ => none
def zresults (S : ZS) (H : ZH) : List ARes → Option ZV
  | [r] => zres S H r
  | rs => (zress S H rs).map .tuple
theorem zres_spec (r : ZRel fl L w) (hS : ∀ t, ZR w (S t) (s t)) {q : ARes} {z : ZV} (h : zres S w.H q = some z) : ∃ a, resA s w.h q = some a ∧ ZR w z a := by
  cases q with
  | tmp t => injection h with h; subst h; exact ⟨_, rfl, hS t⟩
  | cell a n =>
    obtain ⟨id, off, u, e1, e2, e3⟩ := ld_spec r (hS a) (show ldZ w.H n (S a) = some z from h)
    refine ⟨u, ?_, e3⟩
    simp only [resA, e1]
    cases n with
    | none => exact e2
    | some n =>
      simp only [ldA] at e2
      split at e2
      · rename_i cs hcs
        show (rd w.h id off n).map AV.agg = _
        rw [hcs]; exact e2
      · cases e2
theorem zress_spec (r : ZRel fl L w) (hS : ∀ t, ZR w (S t) (s t)) : ∀ {l : List ARes} {zs : List ZV}, zress S w.H l = some zs → ∃ ys, l.mapM (resA s w.h) = some ys ∧ ZRs w zs ys
  | [], zs, h => by simp only [zress, Option.some.injEq] at h; subst h; exact ⟨[], rfl, .nil⟩
  | q :: l, zs, h => by
    simp only [zress] at h
    split at h
    · rename_i z zs' h1 h2
      injection h with h; subst h
      obtain ⟨a, e1, e2⟩ := zres_spec r hS h1
      obtain ⟨ys, e3, e4⟩ := zress_spec r hS h2
      exact ⟨a :: ys, by simp [List.mapM_cons, e1, e3], .cons e2 e4⟩
    · cases h
theorem zresults_spec (r : ZRel fl L w) (hS : ∀ t, ZR w (S t) (s t)) {l : List ARes} {z : ZV} (h : zresults S w.H l = some z) : ∃ a, resultsA l s w.h = some a ∧ ZR w z a := by
  unfold zresults at h
  split at h
  · exact zres_spec r hS h
  · rename_i hne
    cases hz : zress S w.H l with
    | none => rw [hz] at h; cases h
    | some zs =>
      rw [hz] at h
      simp only [Option.map_some, Option.some.injEq] at h
      subst h
      obtain ⟨ys, e1, e2⟩ := zress_spec r hS hz
      refine ⟨.tuple ys, ?_, e2.toTuple⟩
      unfold resultsA
      split
      · rename_i q; exact absurd rfl (hne q)
      · rw [e1]; rfl
theorem ZC.enter {f : FuncId} {af : AFunc} {zs : List ZV} {K : ZV → ZH → Prop} (G : Gh) (hx : ∀ args fl h, args.length = zs.length → X f args fl h = none) (hf : F f = some af) (hl : zs.length ≤ af.n)
    (hb : zW X F G L af.body (fun t => zs.getD t .no) H fun x S' H' => (x = .normal ∨ x = .ret) ∧ ∃ z, zresults S' H' af.results = some z ∧ Fin H z H' K) : ZC X F f zs L H K := by
  intro fl w args r e ha
  subst e
  refine AC.enter (hx args fl w.h ha.1.symm) hf (by rw [← ha.1]; exact hl) ?_
  have hS : ∀ t, ZR w (zs.getD t .no) (args.getD t .no) := fun t => by
    rw [List.getD_eq_getElem?_getD, List.getD_eq_getElem?_getD]
    cases hz : zs[t]? with
    | none =>
      have : args[t]? = none := by rw [List.getElem?_eq_none_iff] at hz ⊢; rw [← ha.1]; exact hz
      rw [this]; exact ZRs.nil.toTuple
    | some z =>
      obtain ⟨a, h1, h2⟩ := ha.get hz
      rw [h1]; exact h2
  refine (zW_sound hb fl w _ r rfl hS).mono fun x s' h' p => ?_
  obtain ⟨S', w', rfl, r', e', hS', _, hxx, z, hz, hfin⟩ := p
  obtain ⟨a, h1, h2⟩ := zresults_spec r' hS' hz
  exact ⟨hxx, a, h1, hfin fl L w w' a r rfl r' e' rfl h2⟩
theorem ZC.enterL {f : FuncId} {af : AFunc} {zs : List ZV} {K : ZV → ZH → Prop} (G : Gh) (hx : ∀ args fl h, args.length = zs.length → X f args fl h = none) (hf : F f = some af) (hl : zs.length ≤ af.n)
    (hb : (∀ k, L (H.length + k) = true) → zW X F G L af.body (fun t => zs.getD t .no) H fun x S' H' => (x = .normal ∨ x = .ret) ∧ ∃ z, zresults S' H' af.results = some z ∧ Fin H z H' K) : ZC X F f zs L H K := fun fl w args r e ha =>
  ZC.enter G hx hf hl (hb fun k => r.lfresh _ (by rw [e]; omega)) fl w args r e ha
theorem ZC.const {f : FuncId} {zs : List ZV} {K : ZV → ZH → Prop} {v : Value} (hx : ∀ args fl h, args.length = zs.length → X f args fl h = some (.val v, h)) (k : K (.val v) H) : ZC X F f zs L H K := fun fl w args r e ha => by
  subst e
  exact AC.const (hx args fl w.h ha.1.symm) ⟨.val v, w, rfl, r, Ext.refl w, .fr (.val v), k⟩
end Go.Proofs.Ytpmmiaadfnildaa
