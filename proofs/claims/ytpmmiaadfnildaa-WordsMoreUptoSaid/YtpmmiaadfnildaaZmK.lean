/-
  ZM: code, loops, calls.
-/
import Derived.Test.YtpmmiaadfnildaaZmJ
namespace Go.Proofs.Ytpmmiaadfnildaa
open Go Go.RowKit
set_option linter.unusedVariables false
set_option linter.unusedSimpArgs false
variable {fl L : Nat → Bool} {w : Wd} {S : ZS} {s : Slots} {H : ZH} {X : CallT} {F : FuncId → Option AFunc} {G : Gh}

/-! ### What goes on may be more -/
theorem z1_mono {top : Option (Nat × Option (List Nat))} {gl : Bool} {K K' : ZV → ZH → Prop} {op : AOp} (hk : ∀ z H, K z H → K' z H) (h : z1 L top gl S H K op) : z1 L top gl S H K' op := by
  cases op with
  | mv x => obtain ⟨z, h1, k⟩ := h; exact ⟨z, h1, hk _ _ k⟩
  | pick c a b => obtain ⟨t, x, y, h1, h2, h3, k⟩ := h; exact ⟨t, x, y, h1, h2, h3, hk _ _ k⟩
  | box n x => obtain ⟨z, h1, h2, h3, k⟩ := h; exact ⟨z, h1, h2, h3, hk _ _ k⟩
  | zero cs => obtain ⟨z, h1, k⟩ := h; exact ⟨z, h1, hk _ _ k⟩
  | build z ps => obtain ⟨zs, qs, cs, h1, h2, h3, k⟩ := h; exact ⟨zs, qs, cs, h1, h2, h3, hk _ _ k⟩
  | lits k len z ps =>
    obtain ⟨zs, qs, cs, h1, h2, h3, h4, h5, kk⟩ := h
    refine ⟨zs, qs, cs, h1, h2, h3, h4, h5, ?_⟩
    split at kk
    · rw [if_pos (by assumption)]; exact hk _ _ kk
    · rw [if_neg (by assumption)]; exact ⟨kk.1, hk _ _ kk.2⟩
  | load n x => obtain ⟨z, v, h1, h2, h3, k⟩ := h; exact ⟨z, v, h1, h2, h3, hk _ _ k⟩
  | store n a v => obtain ⟨p, z, H', h1, h2, h3, h4, h5, k⟩ := h; exact ⟨p, z, H', h1, h2, h3, h4, h5, hk _ _ k⟩
  | nilCheck x => obtain ⟨z, h1, h2, k⟩ := h; exact ⟨z, h1, h2, hk _ _ k⟩
  | bin op x y => obtain ⟨a, b, v, h1, h2, h3, k⟩ := h; exact ⟨a, b, v, h1, h2, h3, hk _ _ k⟩
  | eqNil neg kd x => obtain ⟨z, b, h1, h2, k⟩ := h; exact ⟨z, b, h1, h2, hk _ _ k⟩
  | eqBool neg x y => obtain ⟨a, b, h1, h2, k⟩ := h; exact ⟨a, b, h1, h2, hk _ _ k⟩
  | eqAgg neg ks x y => obtain ⟨a, b, t, h1, h2, h3, k⟩ := h; exact ⟨a, b, t, h1, h2, h3, hk _ _ k⟩
  | un op x => obtain ⟨a, v, h1, h2, k⟩ := h; exact ⟨a, v, h1, h2, hk _ _ k⟩
  | conv kd x => obtain ⟨k', n, h1, k⟩ := h; exact ⟨k', n, h1, hk _ _ k⟩
  | field off n x => obtain ⟨cs, v, h1, h2, k⟩ := h; exact ⟨cs, v, h1, h2, hk _ _ k⟩
  | fieldAddr off x => obtain ⟨z, v, h1, h2, k⟩ := h; exact ⟨z, v, h1, h2, hk _ _ k⟩
  | indexAddr kk x i => obtain ⟨z, y, j, v, h1, h2, h3, h4, k⟩ := h; exact ⟨z, y, j, v, h1, h2, h3, h4, hk _ _ k⟩
  | indexArr kk len x i => obtain ⟨z, y, j, v, h1, h2, h3, h4, h5, k⟩ := h; exact ⟨z, y, j, v, h1, h2, h3, h4, h5, hk _ _ k⟩
  | index kk len n x i => obtain ⟨cs, y, j, v, h1, h2, h3, h4, h5, k⟩ := h; exact ⟨cs, y, j, v, h1, h2, h3, h4, h5, hk _ _ k⟩
  | indexStr x i => obtain ⟨t, y, j, b, h1, h2, h3, h4, k⟩ := h; exact ⟨t, y, j, b, h1, h2, h3, h4, hk _ _ k⟩
  | slice kk x lo hi mx => obtain ⟨z, n, l, u, m, v, h1, h2, h3, h4, h5, h6, k⟩ := h; exact ⟨z, n, l, u, m, v, h1, h2, h3, h4, h5, h6, hk _ _ k⟩
  | mkSlice kk bytes z l c => obtain ⟨x, y, a, b, zs, h1, h2, h3, h4, h5, h6, h7, h8, k⟩ := h; exact ⟨x, y, a, b, zs, h1, h2, h3, h4, h5, h6, h7, h8, hk _ _ k⟩
  | extract i x => obtain ⟨vs, v, h1, h2, k⟩ := h; exact ⟨vs, v, h1, h2, hk _ _ k⟩
  | func f caps => obtain ⟨zs, h1, k⟩ := h; exact ⟨zs, h1, hk _ _ k⟩
  | call f args => exact h
  | append kk bytes x y => obtain ⟨z, u, new, v, H', h1, h2, h3, h4, k⟩ := h; exact ⟨z, u, new, v, H', h1, h2, h3, h4, hk _ _ k⟩
  | len x => obtain ⟨z, n, h1, h2, k⟩ := h; exact ⟨z, n, h1, h2, hk _ _ k⟩
  | lenStr x => obtain ⟨t, h1, k⟩ := h; exact ⟨t, h1, hk _ _ k⟩
  | copy kk x y => obtain ⟨z, u, new, n, H', h1, h2, h3, h4, k⟩ := h; exact ⟨z, u, new, n, H', h1, h2, h3, h4, hk _ _ k⟩
  | clear kk z x => exact h
  | minmax mx x xs => obtain ⟨z, zs, v, h1, h2, h3, k⟩ := h; exact ⟨z, zs, v, h1, h2, h3, hk _ _ k⟩
  | bad => exact h
theorem ZC.mono {f : FuncId} {zs : List ZV} {K K' : ZV → ZH → Prop} (hk : ∀ z H, K z H → K' z H) (h : ZC X F f zs L H K) : ZC X F f zs L H K' :=
  fun fl w args r e ha => (h fl w args r e ha).mono fun v h' p => p.mono hk
theorem z1c_ne {top : Option (Nat × Option (List Nat))} {gl : Bool} {K : ZV → ZH → Prop} {op : AOp} (h : ∀ f a, op ≠ .call f a) : z1c X F L top gl S H K op = z1 L top gl S H K op := by
  cases op <;> first | rfl | exact absurd rfl (h _ _)
theorem z1c_mono {top : Option (Nat × Option (List Nat))} {gl : Bool} {K K' : ZV → ZH → Prop} {op : AOp} (hk : ∀ z H, K z H → K' z H) (h : z1c X F L top gl S H K op) : z1c X F L top gl S H K' op := by
  by_cases hc : ∃ f a, op = .call f a
  · obtain ⟨f, a, rfl⟩ := hc
    obtain ⟨g, caps, zs, h1, h2, h3⟩ := h; exact ⟨g, caps, zs, h1, h2, h3.mono hk⟩
  · have hn : ∀ f a, op ≠ .call f a := fun f a e => hc ⟨f, a, e⟩
    rw [z1c_ne hn] at h ⊢
    exact z1_mono hk h
theorem zown_mono {l : List (Nat × Nat)} {K K' : ZV → ZH → Prop} (hk : ∀ z H, K z H → K' z H) {z : ZV} {H : ZH} (h : zown l K z H) : zown l K' z H := by
  unfold zown at h ⊢
  split
  · obtain ⟨z', H', h1, k⟩ := h; exact ⟨z', H', h1, hk _ _ k⟩
  · obtain ⟨z', H', h1, k⟩ := h; exact ⟨z', H', h1, hk _ _ k⟩
  · rename_i i o
    simp only at h
    split
    · rename_i cs hb
      rw [hb] at h
      obtain ⟨z', H', h1, k⟩ := h; exact ⟨z', H', h1, hk _ _ k⟩
    · split at h
      · rename_i hne _ cs hb; exact absurd hb (hne cs)
      · exact h
  · rename_i h1 h2 h3
    split at h
    · exact absurd rfl h1
    · exact absurd rfl (h2 _)
    · exact absurd rfl (h3 _ _)
    · exact hk _ _ h
theorem zfrz_mono {K K' : ZV → ZH → Prop} (hk : ∀ z H, K z H → K' z H) {z : ZV} {H : ZH} (h : zfrz K z H) : zfrz K' z H := by
  cases z with
  | own i g off len ex =>
    simp only [zfrz] at h ⊢
    split
    · rename_i g' k rows hb
      rw [hb] at h
      exact ⟨h.1, h.2.1, h.2.2.1, hk _ _ h.2.2.2⟩
    · split at h
      · rename_i hne _ g' k rows hb; exact absurd hb (hne _ _ _)
      · exact h
  | _ => exact ⟨h.1, hk _ _ h.2⟩
theorem zgo_mono {dst : Option Nat} {K K' : ZV → ZH → Prop} (hk : ∀ z H, K z H → K' z H) {z : ZV} {H : ZH} (h : zgo G dst K z H) : zgo G dst K' z H := by
  cases dst with
  | none => exact hk _ _ h
  | some d =>
    simp only [zgo] at h ⊢
    cases hl : G.own.lookup d with
    | some l => rw [hl] at h; exact zown_mono hk h
    | none =>
      rw [hl] at h
      simp only at h ⊢
      by_cases hf : G.frz.contains d = true
      · rw [if_pos hf] at h ⊢; exact zfrz_mono hk h
      · rw [if_neg hf] at h ⊢; exact hk _ _ h
theorem zO_mono {base : Nat} : ∀ {l : List AOper} {rs : List Nat} {pr : Option (List Nat)} {S : ZS} {H : ZH} {K K' : ZS → ZH → Prop}, (∀ S' H', (∀ t, t ∉ l.filterMap (·.dst) → S' t = S t) → K S' H' → K' S' H') → zO X F G L base rs pr l S H K → zO X F G L base rs pr l S H K'
  | [], rs, pr, S, H, K, K', hk, h => hk S H (fun _ _ => rfl) h
  | o :: l, rs, pr, S, H, K, K', hk, h => by
    simp only [zO] at h ⊢
    have next : ∀ z S' H', (∀ t, t ∉ l.filterMap (·.dst) → S' t = zput S o.dst z t) → K S' H' → K' S' H' := fun z S' H' hf k => hk S' H' (fun t ht => by
      have h1 : t ∉ l.filterMap (·.dst) := fun q => by
        obtain ⟨p, hp, e⟩ := List.mem_filterMap.1 q
        exact ht (List.mem_filterMap.2 ⟨p, by simp [hp], e⟩)
      rw [hf t h1]
      cases hd : o.dst with
      | none => rfl
      | some d =>
        simp only [zput, zupd]
        rw [if_neg]
        intro e; subst e
        exact ht (List.mem_filterMap.2 ⟨o, by simp, hd⟩)) k
    cases hw : wantZ o S with
    | none => rw [hw] at h; exact h.elim
    | some b =>
      rw [hw] at h
      refine ⟨fun hb => ?_, fun hb => zO_mono (next _) (h.2 hb)⟩
      have h := h.1 hb
      split
      · rw [if_pos (by assumption)] at h
        exact z1c_mono (fun z H' => zgo_mono fun z H' => zO_mono (next z)) h
      · rw [if_neg (by assumption)] at h
        obtain ⟨fb, h1, h2⟩ := h
        exact ⟨fb, h1, z1c_mono (fun z H' => zgo_mono fun z H' => zO_mono (next z)) h2⟩

/-! ### Code -/
def PW (fl L : Nat → Bool) (w : Wd) (c : ACode) (S : ZS) (K : AExit → ZS → ZH → Prop) (x : AExit) (s' : Slots) (h' : Heap) : Prop := ∃ S' w', w'.h = h' ∧ ZRel fl L w' ∧ Ext w w' ∧ (∀ t, ZR w' (S' t) (s' t)) ∧ (∀ t, t ∉ wrs c → S' t = S t) ∧ K x S' w'.H
def zthen (k1 : ZS → ZH → Prop) (K : AExit → ZS → ZH → Prop) : AExit → ZS → ZH → Prop
  | .normal, s, h => k1 s h
  | x, s, h => K x s h
def zinBlk (id : Nat) (K : AExit → ZS → ZH → Prop) : AExit → ZS → ZH → Prop
  | .exit j, s, h => if j = id then K .normal s h else K (.exit j) s h
  | x, s, h => K x s h
section
variable (X : CallT) (F : FuncId → Option AFunc)
def ZWs (L : Nat → Bool) (c : ACode) (S : ZS) (H : ZH) (K : AExit → ZS → ZH → Prop) : Prop :=
  ∀ (fl : Nat → Bool) (w : Wd) (s : Slots), ZRel fl L w → w.H = H → (∀ t, ZR w (S t) (s t)) → AW X F fl c s w.h (PW fl L w c S K)
def zW (G : Gh) (L : Nat → Bool) : ACode → ZS → ZH → (AExit → ZS → ZH → Prop) → Prop
  | .skip, S, H, K => K .normal S H
  | .ops l, S, H, K => zO X F G L H.length [] none l S H (K .normal)
  | .seq a b, S, H, K => zW G L a S H (zthen (fun S H => zW G L b S H K) K)
  | .cond c a b, S, H, K => ∃ t, zev S c = some (.val (.bool t)) ∧ (t = true → zW G L a S H K) ∧ (t = false → zW G L b S H K)
  | .block id c, S, H, K => zW G L c S H (zinBlk id K)
  | .loop c, S, H, K => ZWs X F L (.loop c) S H K
  | .exit id, S, H, K => K (.exit id) S H
  | .scope c, S, H, K => zW G L c S H K
  | .ret, S, H, K => K .ret S H
  | .bad, _, _, _ => False
end
theorem PW.mono {c : ACode} {K K' : AExit → ZS → ZH → Prop} {x : AExit} {s' : Slots} {h' : Heap} (p : PW fl L w c S K x s' h') (hk : ∀ x S' H', (∀ t, t ∉ wrs c → S' t = S t) → K x S' H' → K' x S' H') : PW fl L w c S K' x s' h' := by
  obtain ⟨S', w', h1, h2, h3, h4, h5, h6⟩ := p
  exact ⟨S', w', h1, h2, h3, h4, h5, hk _ _ _ h5 h6⟩
theorem zW_mono : ∀ {c : ACode} {S : ZS} {H : ZH} {K K' : AExit → ZS → ZH → Prop}, (∀ x S' H', (∀ t, t ∉ wrs c → S' t = S t) → K x S' H' → K' x S' H') → zW X F G L c S H K → zW X F G L c S H K' := by
  intro c
  induction c with
  | skip => intro S H K K' hk h; exact hk _ _ _ (fun _ _ => rfl) h
  | ops l => intro S H K K' hk h; exact zO_mono (fun S' H' hf k => hk _ _ _ hf k) h
  | seq a b iha ihb =>
    intro S H K K' hk h
    refine iha (fun x S1 H1 hf k => ?_) h
    have hf' : ∀ t, t ∉ wrs (.seq a b) → S1 t = S t := fun t ht => hf t fun q => ht (by simp [wrs, q])
    cases x with
    | normal => exact ihb (fun x S2 H2 hf2 k2 => hk x S2 H2 (fun t ht => (hf2 t fun q => ht (by simp [wrs, q])).trans (hf' t ht)) k2) k
    | exit id => exact hk _ _ _ hf' k
    | ret => exact hk _ _ _ hf' k
  | cond c a b iha ihb =>
    intro S H K K' hk h
    obtain ⟨t, h1, h2, h3⟩ := h
    exact ⟨t, h1, fun q => iha (fun x S' H' hf k => hk x S' H' (fun t ht => hf t fun q => ht (by simp [wrs, q])) k) (h2 q), fun q => ihb (fun x S' H' hf k => hk x S' H' (fun t ht => hf t fun q => ht (by simp [wrs, q])) k) (h3 q)⟩
  | block id a iha =>
    intro S H K K' hk h
    refine iha (fun x S1 H1 hf k => ?_) h
    cases x with
    | normal => exact hk _ _ _ hf k
    | exit j =>
      simp only [zinBlk] at k ⊢
      split
      · rw [if_pos (by assumption)] at k; exact hk _ _ _ hf k
      · rw [if_neg (by assumption)] at k; exact hk _ _ _ hf k
    | ret => exact hk _ _ _ hf k
  | loop a iha => intro S H K K' hk h fl w s r e hS; exact (h fl w s r e hS).mono fun x s' h' p => p.mono hk
  | exit id => intro S H K K' hk h; exact hk _ _ _ (fun _ _ => rfl) h
  | scope a iha => intro S H K K' hk h; exact iha hk h
  | ret => intro S H K K' hk h; exact hk _ _ _ (fun _ _ => rfl) h
  | bad => intro S H K K' hk h; exact h
theorem zW_frame {c : ACode} {K : AExit → ZS → ZH → Prop} (h : zW X F G L c S H fun x S' H' => (∀ t, t ∉ wrs c → S' t = S t) → K x S' H') : zW X F G L c S H K := zW_mono (fun x S' H' hf k => k hf) h
theorem zW_sound : ∀ {c : ACode} {S : ZS} {H : ZH} {K : AExit → ZS → ZH → Prop}, zW X F G L c S H K → ZWs X F L c S H K := by
  intro c
  induction c with
  | skip => intro S H K h fl w s r e hS; exact AW_skip.2 ⟨S, w, rfl, r, Ext.refl w, hS, fun _ _ => rfl, e ▸ h⟩
  | ops l =>
    intro S H K h fl w s r e hS
    subst e
    rw [AW_ops]
    have h' := zO_mono (K' := fun S' H' => (∀ t, t ∉ l.filterMap (·.dst) → S' t = S t) ∧ K .normal S' H') (fun S' H' hf k => ⟨hf, k⟩) h
    have hd : SeenOk w w.H.length w.h.length [] none ⟨[], none⟩ := ⟨fun id hi => by simp at hi, fun i hi => by simp at hi, trivial, Nat.le_refl _, fun i cs _ _ p hp => (r.nfr i p hp).2⟩
    obtain ⟨n, s', h1, e1, S', w', q1, q2, q3, q4, q5, q6⟩ := zO_sound l [] none ⟨[], none⟩ S s w r hS hd h'
    exact ⟨n, s', h1, e1, S', w', q1, q2, q3, q4, q5, q6⟩
  | seq a b iha ihb =>
    intro S H K h fl w s r e hS
    rw [AW_seq]
    refine (iha h fl w s r e hS).mono fun x s1 h1 p => ?_
    obtain ⟨S1, w1, rfl, r1, e1, hS1, hf1, k⟩ := p
    have hf' : ∀ t, t ∉ wrs (.seq a b) → S1 t = S t := fun t ht => hf1 t fun q => ht (by simp [wrs, q])
    cases x with
    | normal =>
      refine (ihb k fl w1 s1 r1 rfl hS1).mono fun x s2 h2 p2 => ?_
      obtain ⟨S2, w2, rfl, r2, e2, hS2, hf2, k2⟩ := p2
      exact ⟨S2, w2, rfl, r2, e1.trans e2, hS2, fun t ht => (hf2 t fun q => ht (by simp [wrs, q])).trans (hf' t ht), k2⟩
    | exit id => exact ⟨S1, w1, rfl, r1, e1, hS1, hf', k⟩
    | ret => exact ⟨S1, w1, rfl, r1, e1, hS1, hf', k⟩
  | cond c a b iha ihb =>
    intro S H K h fl w s r e hS
    obtain ⟨t, h1, h2, h3⟩ := h
    refine AW_cond.2 ⟨t, (zev_spec hS h1).val_inv, fun q => ?_, fun q => ?_⟩
    · refine (iha (h2 q) fl w s r e hS).mono fun x s1 h1 p => ?_
      obtain ⟨S1, w1, q1, r1, e1, hS1, hf1, k⟩ := p
      exact ⟨S1, w1, q1, r1, e1, hS1, fun t ht => hf1 t fun q => ht (by simp [wrs, q]), k⟩
    · refine (ihb (h3 q) fl w s r e hS).mono fun x s1 h1 p => ?_
      obtain ⟨S1, w1, q1, r1, e1, hS1, hf1, k⟩ := p
      exact ⟨S1, w1, q1, r1, e1, hS1, fun t ht => hf1 t fun q => ht (by simp [wrs, q]), k⟩
  | block id a iha =>
    intro S H K h fl w s r e hS
    rw [AW_block]
    refine (iha h fl w s r e hS).mono fun x s1 h1 p => ?_
    obtain ⟨S1, w1, q1, r1, e1, hS1, hf1, k⟩ := p
    cases x with
    | normal => exact ⟨S1, w1, q1, r1, e1, hS1, hf1, k⟩
    | exit j =>
      rw [inBlk_exit]
      simp only [zinBlk] at k
      split
      · rw [if_pos (by assumption)] at k; exact ⟨S1, w1, q1, r1, e1, hS1, hf1, k⟩
      · rw [if_neg (by assumption)] at k; exact ⟨S1, w1, q1, r1, e1, hS1, hf1, k⟩
    | ret => exact ⟨S1, w1, q1, r1, e1, hS1, hf1, k⟩
  | loop a iha => intro S H K h; exact h
  | exit id => intro S H K h fl w s r e hS; exact AW_exit.2 ⟨S, w, rfl, r, Ext.refl w, hS, fun _ _ => rfl, e ▸ h⟩
  | scope a iha => intro S H K h; exact iha h
  | ret => intro S H K h fl w s r e hS; exact AW_ret.2 ⟨S, w, rfl, r, Ext.refl w, hS, fun _ _ => rfl, e ▸ h⟩
  | bad => intro S H K h; exact h.elim

/-- A loop: I holds at each head, with a number that falls. -/
theorem zW_while {c : ACode} {K : AExit → ZS → ZH → Prop} (I : Nat → ZS → ZH → Prop) (n0 : Nat) (h0 : I n0 S H) (round : ∀ n S' H', I n S' H' → (∀ t, t ∉ wrs c → S' t = S t) → zW X F G L c S' H' (zthen (fun S2 H2 => ∃ m, m < n ∧ I m S2 H2) K)) : zW X F G L (.loop c) S H K := by
  intro fl w s r e hS
  refine (AW_loop (K := PW fl L w (.loop c) S K) (fun n s' h' => ∃ S' w', w'.h = h' ∧ ZRel fl L w' ∧ Ext w w' ∧ (∀ t, ZR w' (S' t) (s' t)) ∧ (∀ t, t ∉ wrs c → S' t = S t) ∧ I n S' w'.H) n0 ⟨S, w, rfl, r, Ext.refl w, hS, fun _ _ => rfl, e ▸ h0⟩ fun n s1 h1 p => ?_)
  obtain ⟨S1, w1, rfl, r1, e1, hS1, hf1, hI⟩ := p
  refine (zW_sound (round n S1 w1.H hI hf1) fl w1 s1 r1 rfl hS1).mono fun x s2 h2 p2 => ?_
  obtain ⟨S2, w2, rfl, r2, e2, hS2, hf2, k⟩ := p2
  have hf' : ∀ t, t ∉ wrs c → S2 t = S t := fun t ht => (hf2 t ht).trans (hf1 t ht)
  cases x with
  | normal =>
    obtain ⟨m, hm, hI2⟩ := k
    exact ⟨m, hm, S2, w2, rfl, r2, e1.trans e2, hS2, hf', hI2⟩
  | exit id => exact ⟨S2, w2, rfl, r2, e1.trans e2, hS2, hf', k⟩
  | ret => exact ⟨S2, w2, rfl, r2, e1.trans e2, hS2, hf', k⟩
end Go.Proofs.Ytpmmiaadfnildaa
