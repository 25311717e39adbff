/-
  ZM: regions of operations are sound.
-/
import Derived.Test.YtpmmiaadfnildaaZmI
namespace Go.Proofs.Ytpmmiaadfnildaa
open Go Go.RowKit
set_option linter.unusedVariables false
set_option linter.unusedSimpArgs false
variable {fl L : Nat → Bool} {w : Wd} {S : ZS} {s : Slots} {X : CallT} {F : FuncId → Option AFunc}

/-- A value's blocks are among these. -/
def Cv (w : Wd) (a : AV) (l : List Nat) : Prop := ∀ id ∈ idsOf a, id < w.h.length ∧ ∀ i p, w.mu i = some p → p.1 = id → i ∈ l
theorem Cv.mono {a : AV} {l l' : List Nat} (h : Cv w a l) (hs : ∀ i ∈ l, i ∈ l') : Cv w a l' := fun id hi => ⟨(h id hi).1, fun i p hp e => hs i ((h id hi).2 i p hp e)⟩
theorem Cv.of {a b : AV} {l : List Nat} (h : Cv w a l) (hs : ∀ i ∈ idsOf b, i ∈ idsOf a) : Cv w b l := fun id hi => h id (hs id hi)
theorem ow_opd {O : Nat → List Nat} (hO : ∀ t, Cv w (s t) (O t)) {x : Opd} {l : List Nat} (h : owO O x = some l) : Cv w (x.ev s) l := by
  unfold owO at h
  split at h
  · injection h with h; subst h; exact hO _
  · cases h
  · cases h
  · rename_i h1 h2 h3
    injection h with h; subst h
    cases x with
    | tmp t => exact absurd rfl (h1 t)
    | av v => cases v with
      | ptr a b => exact absurd rfl (h2 a b)
      | slice a b c d e f => exact absurd rfl (h3 a b c d e f)
      | _ => intro id hi; simp [ev_av, idsOf] at hi
theorem sliceA_ids {k : Nat} {a b : AV} {lo hi mx : Option AV} (h : sliceA k a lo hi mx = some b) : ∀ i ∈ idsOf b, i ∈ idsOf a := by
  have triple : ∀ {α : Type} {p q r : Option Nat} {f : Nat → Nat → Nat → Option α} {x : α}, (match p, q, r with | some l, some u, some m => f l u m | _, _, _ => none) = some x → ∃ l u m, f l u m = some x := fun {α p q r f x} h => by
    cases p <;> cases q <;> cases r <;> first | (cases h; done) | exact ⟨_, _, _, h⟩
  unfold sliceA at h
  dsimp only at h
  split at h
  · split at h
    · injection h with h; subst h; exact fun i h => h
    · cases h
  · split at h
    · injection h with h; subst h; exact fun i h => h
    · cases h
  · split at h
    · split at h
      · injection h with h; subst h; exact fun i h => h
      · cases h
    · cases h
  · cases h
theorem ow_op {O : Nat → List Nat} (hO : ∀ t, Cv w (s t) (O t)) {op : AOp} (hl : light op = true) {l : List Nat} (h : owOp O op = some l) {v : AV} {h' : Heap} (he : opEval none fl s w.h op = some (v, h')) : Cv w v l := by
  cases op with
  | mv x => simp only [opEval, Option.some.injEq, Prod.mk.injEq] at he; rw [← he.1]; exact ow_opd hO h
  | nilCheck x =>
    refine (ow_opd hO h).of ?_
    simp only [opEval] at he
    split at he
    · rename_i id off e; injection he with he; injection he with he; subst he; rw [e]; exact fun i h => h
    · rename_i f cs e; injection he with he; injection he with he; subst he; rw [e]; exact fun i h => h
    · cases he
  | bin op x y =>
    simp only [opEval] at he
    split at he
    · split at he
      · injection he with he; injection he with he; subst he; intro id hi; simp [idsOf] at hi
      · cases he
    · cases he
  | fieldAddr n x =>
    refine (ow_opd hO h).of ?_
    simp only [opEval] at he
    split at he
    · rename_i id off e; injection he with he; injection he with he; subst he; rw [e]; exact fun i h => h
    · cases he
  | indexAddr k x i =>
    refine (ow_opd hO h).of ?_
    simp only [opEval] at he
    split at he
    · rename_i e _
      split at he
      · injection he with he; injection he with he; subst he; rw [e]; exact fun i h => h
      · cases he
    · cases he
  | indexArr k len x i =>
    refine (ow_opd hO h).of ?_
    simp only [opEval] at he
    split at he
    · rename_i e _
      split at he
      · injection he with he; injection he with he; subst he; rw [e]; exact fun i h => h
      · cases he
    · cases he
  | slice k x lo hi mx =>
    refine (ow_opd hO h).of ?_
    simp only [opEval] at he
    split at he
    · rename_i b hb
      injection he with he; injection he with he; subst he
      exact sliceA_ids hb
    · cases he
  | _ => cases hl
theorem put_cv {O : Nat → List Nat} (hO : ∀ t, Cv w (s t) (O t)) {d : Option Nat} {v : AV} {l : List Nat} (hv : Cv w v l) : ∀ t, Cv w (put s d v t) (putO O d (l ++ oldO O d) t) := fun t => by
  cases d with
  | none => exact hO t
  | some d =>
    simp only [put_some, upd_at, putO, oldO]
    by_cases ht : t = d
    · subst ht; rw [if_pos rfl, if_pos rfl]; exact hv.mono fun i hi => List.mem_append_left _ hi
    · rw [if_neg ht, if_neg ht]; exact hO t
theorem old_cv {O : Nat → List Nat} (hO : ∀ t, Cv w (s t) (O t)) {d : Option Nat} {l : List Nat} : ∀ t, Cv w (s t) (putO O d (l ++ oldO O d) t) := fun t => by
  cases d with
  | none => exact hO t
  | some d =>
    simp only [putO, oldO]
    by_cases ht : t = d
    · subst ht; rw [if_pos rfl]; exact (hO t).mono fun i hi => List.mem_append_right _ hi
    · rw [if_neg ht]; exact hO t
theorem ahead_over : ∀ (l : List AOper) (s : Slots) (O : Nat → List Nat), (∀ t, Cv w (s t) (O t)) → ∀ {fb}, zahead l O = some fb → ∀ id ∈ ahead fl w.h l s, id < w.h.length ∧ ∀ i p, w.mu i = some p → p.1 = id → i ∈ fb
  | [], s, O, hO, fb, h => by intro id hi; simp [ahead] at hi
  | o :: l, s, O, hO, fb, h => by
    simp only [zahead, ahead] at h ⊢
    by_cases hl : light o.op = true
    · rw [if_pos hl] at h ⊢
      split at h
      · rename_i x hx
        split
        · rename_i v h' he
          exact ahead_over l _ _ (put_cv hO (ow_op hO hl hx he)) h
        · exact ahead_over l _ _ (old_cv hO) h
      · cases h
    · rw [if_neg hl] at h ⊢
      have skip : ∀ fb, zahead l O = some fb → sees s o.op = [] ∨ o.iso = true → ∀ id ∈ (if o.iso = true then [] else sees s o.op) ++ ahead fl w.h l s, id < w.h.length ∧ ∀ i p, w.mu i = some p → p.1 = id → i ∈ fb := fun fb hfb hc id hi => by
        have : (if o.iso = true then [] else sees s o.op) = [] := by
          rcases hc with hc | hc
          · rw [hc]; simp
          · rw [if_pos hc]
        rw [this] at hi
        exact ahead_over l s O hO hfb id hi
      split at h
      · rename_i n x heq hiso
        split at h
        · rename_i a b ha hb
          injection h with h; subst h
          intro id hi
          rw [hiso] at hi
          simp only [Bool.false_eq_true, if_false, List.mem_append] at hi
          rcases hi with hi | hi
          · rw [heq] at hi
            simp only [sees, idsOf_eq] at hi
            obtain ⟨q1, q2⟩ := ow_opd hO ha id hi
            exact ⟨q1, fun i p hp e => List.mem_append_left _ (q2 i p hp e)⟩
          · obtain ⟨q1, q2⟩ := ahead_over l s O hO hb id hi
            exact ⟨q1, fun i p hp e => List.mem_append_right _ (q2 i p hp e)⟩
        · cases h
      · rename_i hne
        refine skip fb h ?_
        cases hi : o.iso with
        | true => exact .inr rfl
        | false =>
          left
          cases ho : o.op with
          | load n x => exact absurd hi (hne n x ho)
          | _ => rfl
theorem zahead_mem : ∀ (l : List AOper) (O : Nat → List Nat) {fb : List Nat}, zahead l O = some fb → ∀ i ∈ fb, ∃ t, i ∈ O t
  | [], O, fb, h => by simp only [zahead, Option.some.injEq] at h; subst h; intro i hi; simp at hi
  | o :: l, O, fb, h => by
    have opd : ∀ {x : Opd} {a : List Nat}, owO O x = some a → ∀ i ∈ a, ∃ t, i ∈ O t := fun {x a} h i hi => by
      unfold owO at h
      split at h
      · injection h with h; subst h; exact ⟨_, hi⟩
      · cases h
      · cases h
      · injection h with h; subst h; simp at hi
    simp only [zahead] at h
    by_cases hl : light o.op = true
    · rw [if_pos hl] at h
      split at h
      · rename_i x hx
        intro i hi
        obtain ⟨t, ht⟩ := zahead_mem l _ h i hi
        cases hd : o.dst with
        | none => rw [hd] at ht; exact ⟨t, ht⟩
        | some d =>
          rw [hd] at ht
          simp only [putO, oldO] at ht
          split at ht
          · rcases List.mem_append.1 ht with ht | ht
            · unfold owOp at hx
              split at hx <;> first | exact opd hx i ht | (injection hx with hx; subst hx; simp at ht)
            · exact ⟨d, ht⟩
          · exact ⟨t, ht⟩
      · cases h
    · rw [if_neg hl] at h
      split at h
      · split at h
        · rename_i a b ha hb
          injection h with h; subst h
          intro i hi
          rcases List.mem_append.1 hi with hi | hi
          · exact opd ha i hi
          · exact zahead_mem l O hb i hi
        · cases h
      · exact zahead_mem l O h
theorem ZR.owner_lt {z : ZV} {a : AV} (hz : ZR w z a) : ∀ i ∈ owners z, i < w.H.length := by
  intro i hi
  cases hz with
  | fr hf => cases hf <;> simp [owners] at hi
  | ptr h1 h2 => simp [owners] at hi; subst hi; exact (List.getElem?_eq_some_iff.1 h1).1
  | own h1 => simp [owners] at hi; subst hi; exact h1
  | eptr h1 => simp [owners] at hi; subst hi; exact h1
  | _ => simp [owners] at hi
theorem ex_opd {E : Nat → Option ZV} (hE : ∀ t z, E t = some z → ZR w z (s t)) {x : Opd} {z : ZV} (h : exO E x = some z) : ZR w z (x.ev s) := by
  unfold exO at h
  split at h
  · exact hE _ _ h
  · cases h
theorem ahead_under : ∀ (l : List AOper) (s : Slots) (E : Nat → Option ZV), (∀ t z, E t = some z → ZR w z (s t)) → ∀ i ∈ zunder l E, ∃ cs p, w.H[i]? = some (.box cs) ∧ w.mu i = some p ∧ p.1 ∈ ahead fl w.h l s
  | [], s, E, hE => by intro i hi; simp [zunder] at hi
  | o :: l, s, E, hE => by
    intro i hi
    simp only [zunder, ahead] at hi ⊢
    by_cases hl : light o.op = true
    · rw [if_pos hl] at hi ⊢
      split
      · rename_i v h' he
        refine ahead_under l _ _ (fun t z hz => ?_) i hi
        cases hd : o.dst with
        | none => rw [hd] at hz; exact hE t z hz
        | some d =>
          rw [hd] at hz
          simp only [putO] at hz
          rw [put_some, upd_at]
          by_cases ht : t = d
          · rw [if_pos ht] at hz ⊢
            unfold exOp at hz
            split at hz
            · rename_i x heq
              rw [heq] at he
              simp only [opEval, Option.some.injEq, Prod.mk.injEq] at he
              rw [← he.1]; exact ex_opd hE hz
            · rename_i n x heq
              split at hz
              · rename_i j o' hx
                injection hz with hz; subst hz
                obtain ⟨id, cs, e1, e2, e3⟩ := (ex_opd hE hx).ptr_inv
                rw [heq] at he
                simp only [opEval, e1, Option.some.injEq, Prod.mk.injEq] at he
                rw [← he.1]; exact .ptr e2 e3
              · cases hz
            · cases hz
          · rw [if_neg ht] at hz ⊢; exact hE t z hz
      · rename_i he
        refine ahead_under l _ _ (fun t z hz => ?_) i hi
        cases hd : o.dst with
        | none => rw [hd] at hz; exact hE t z hz
        | some d =>
          rw [hd] at hz
          simp only [putO] at hz
          by_cases ht : t = d
          · rw [if_pos ht] at hz
            exfalso
            unfold exOp at hz
            split at hz
            · rename_i x heq
              rw [heq] at he
              simp [opEval] at he
            · rename_i n x heq
              split at hz
              · rename_i j o' hx
                obtain ⟨id, cs, e1, e2, e3⟩ := (ex_opd hE hx).ptr_inv
                rw [heq] at he
                simp [opEval, e1] at he
              · cases hz
            · cases hz
          · rw [if_neg ht] at hz; exact hE t z hz
    · rw [if_neg hl] at hi ⊢
      have later : i ∈ zunder l E → ∃ cs p, w.H[i]? = some (.box cs) ∧ w.mu i = some p ∧ p.1 ∈ (if o.iso = true then [] else sees s o.op) ++ ahead fl w.h l s := fun h => by
        obtain ⟨cs, p, q1, q2, q3⟩ := ahead_under l s E hE i h
        exact ⟨cs, p, q1, q2, List.mem_append_right _ q3⟩
      split at hi
      · rename_i n x heq hiso
        split at hi
        · rename_i j o' hx
          rcases List.mem_cons.1 hi with rfl | hi
          · obtain ⟨id, cs, e1, e2, e3⟩ := (ex_opd hE hx).ptr_inv
            refine ⟨cs, _, e2, e3, List.mem_append_left _ ?_⟩
            rw [hiso, heq]
            simp [sees, e1, idOf]
          · exact later hi
        · exact later hi
      · exact later hi

/-- What was seen, ys ZM knows it. -/
structure SeenOk (w : Wd) (base bA : Nat) (rs : List Nat) (pr : Option (List Nat)) (d : Seen) : Prop where
  r1 : ∀ id ∈ d.rs, id < w.h.length ∧ ∀ i p, w.mu i = some p → p.1 = id → i ∈ rs
  r2 : ∀ i ∈ rs, ∃ cs p, w.H[i]? = some (.box cs) ∧ w.mu i = some p ∧ p.1 ∈ d.rs
  p1 : match pr, d.pr with | none, none => True | some lz, some la => ∀ i ∈ lz, ∃ cs p, w.H[i]? = some (.box cs) ∧ w.mu i = some p ∧ p.1 ∈ la | _, _ => False
  b0 : base ≤ w.H.length
  b1 : ∀ (i : Nat) cs, i < base → w.H[i]? = some (.box cs) → ∀ p, w.mu i = some p → p.1 < bA
theorem box_ext {w' : Wd} (e : Ext w w') {i : Nat} {la : List Nat} (h : ∃ cs p, w.H[i]? = some (.box cs) ∧ w.mu i = some p ∧ p.1 ∈ la) : ∃ cs p, w'.H[i]? = some (.box cs) ∧ w'.mu i = some p ∧ p.1 ∈ la := by
  obtain ⟨cs, p, h1, h2, h3⟩ := h
  obtain ⟨⟨cs', h4⟩, h5⟩ := e.box i cs h1
  exact ⟨cs', p, h4, h5.trans h2, h3⟩
theorem SeenOk.ext {w' : Wd} (e : Ext w w') {base bA : Nat} {rs : List Nat} {pr : Option (List Nat)} {d : Seen} (h : SeenOk w base bA rs pr d) : SeenOk w' base bA rs pr d := by
  refine ⟨fun id hi => ?_, fun i hi => box_ext e (h.r2 i hi), ?_, Nat.le_trans h.b0 e.Hl, fun i cs hi hb p hp => ?_⟩
  · obtain ⟨q1, q2⟩ := h.r1 id hi
    refine ⟨Nat.lt_of_lt_of_le q1 e.hl, fun i p hp he => ?_⟩
    rcases e.mu i p hp with ⟨p0, hp0, e0⟩ | hh
    · exact q2 i p0 hp0 (e0.trans he)
    · omega
  · have := h.p1
    cases pr <;> cases hd : d.pr <;> rw [hd] at this <;> simp only at this ⊢
    exact fun i hi => box_ext e (this i hi)
  · obtain ⟨cs0, hb0⟩ := e.boxr i cs (Nat.lt_of_lt_of_le hi h.b0) hb
    rw [(e.box i cs0 hb0).2] at hp
    exact h.b1 i cs0 hi hb0 p hp
/-- Back from where less may be written. -/
theorem ZRel.back {fl' L' : Nat → Bool} {w' : Wd} (r : ZRel fl L w) (r' : ZRel fl' L' w') (e : Ext w w') : ZRel fl L w' :=
  ⟨fun id h => r.fresh id (Nat.le_trans e.hl h), fun i h => r.lfresh i (Nat.le_trans e.Hl h), r'.frlt, r'.dom, r'.inj, r'.nfr, fun i p hp hl => by
    rcases e.mu i p hp with ⟨p0, hp0, e0⟩ | h
    · rw [← e0]; exact r.wr i p0 hp0 hl
    · exact r.fresh _ h, r'.box, r'.grow⟩
theorem z1c_sound (r : ZRel fl L w) (hS : ∀ t, ZR w (S t) (s t)) {op : AOp} {top ztop : Option (Nat × Option (List Nat))} (ht : ∀ z id off, ZR w z (.ptr id off) → topZ ztop z = true → shallowOk top id = true) {gl : Bool} {K : ZV → ZH → Prop} (hk : z1c X F L ztop gl S w.H K op) :
    A1 X F top fl op s w.h (PK fl L w K) := by
  cases op with
  | call f args =>
    obtain ⟨g, caps, zs, h1, h2, h3⟩ := hk
    obtain ⟨ys, e1, e2⟩ := (zev_spec hS h1).func_inv
    exact A1_call.2 ⟨g, ys, e1, h3 fl w _ r rfl ((zevs_spec hS h2).append e2)⟩
  | _ => exact z1_sound (gl := gl) r hS ht hk
theorem A1.mono {top : Option (Nat × Option (List Nat))} {op : AOp} {h : Heap} {K K' : AV → Heap → Prop} (ha : A1 X F top fl op s h K) (hk : ∀ v h', K v h' → K' v h') : A1 X F top fl op s h K' := by
  unfold A1 at ha ⊢
  split at ha
  · obtain ⟨g, caps, e, hc⟩ := ha; exact ⟨g, caps, e, hc.mono hk⟩
  · obtain ⟨v, h', e, k⟩ := ha; exact ⟨v, h', e, hk v h' k⟩
theorem zput_spec {w' : Wd} (hS : ∀ t, ZR w' (S t) (s t)) {d : Option Nat} {z : ZV} {a : AV} (hz : ZR w' z a) : ∀ t, ZR w' (zput S d z t) (put s d a t) := fun t => by
  cases d with
  | none => exact hS t
  | some d =>
    simp only [zput, zupd, put_some, upd_at]
    by_cases ht : t = d
    · rw [if_pos ht, if_pos ht]; exact hz
    · rw [if_neg ht, if_neg ht]; exact hS t
theorem want_spec (hS : ∀ t, ZR w (S t) (s t)) {o : AOper} {b : Bool} (h : wantZ o S = some b) : wantedA o s = some b := by
  unfold wantZ at h
  unfold wantedA
  split at h
  · rename_i hg; rw [hg]; exact h
  · rename_i t want hg
    rw [hg]
    simp only
    have hz := hS t
    split at h
    · rename_i b' hb; rw [hb] at hz; rw [hz.val_inv]; exact h
    · rename_i v hb hv
      rw [hv] at hz; rw [hz.val_inv]
      cases v with
      | bool b' => exact (hb b' rfl).elim
      | _ => exact h
    · rename_i hb
      rw [hb] at hz
      obtain ⟨ys, e1, e2⟩ := hz.tuple_inv
      have : ys = [] := List.eq_nil_of_length_eq_zero (by simpa using e2.1.symm)
      subst this
      rw [e1]; exact h
    · cases h

def PO (fl L : Nat → Bool) (w : Wd) (K : ZS → ZH → Prop) (s' : Slots) (h' : Heap) : Prop := ∃ S' w', w'.h = h' ∧ ZRel fl L w' ∧ Ext w w' ∧ (∀ t, ZR w' (S' t) (s' t)) ∧ K S' w'.H

theorem zO_sound {G : Gh} {base bA : Nat} {K : ZS → ZH → Prop} : ∀ (l : List AOper) (rs : List Nat) (pr : Option (List Nat)) (d : Seen) (S : ZS) (s : Slots) (w : Wd), ZRel fl L w → (∀ t, ZR w (S t) (s t)) → SeenOk w base bA rs pr d → zO X F G L base rs pr l S w.H K →
    AO X F bA fl d l s w.h (PO fl L w K)
  | [], rs, pr, d, S, s, w, r, hS, hd, hk => by
    rw [AO_nil]
    exact ⟨S, w, rfl, r, Ext.refl w, hS, hk⟩
  | o :: l, rs, pr, d, S, s, w, r, hS, hd, hk => by
    have go : ∀ (w' : Wd) (S' : ZS) (s' : Slots) (rs' : List Nat) (pr' : Option (List Nat)) (d' : Seen), ZRel fl L w' → Ext w w' → (∀ t, ZR w' (S' t) (s' t)) → SeenOk w' base bA rs' pr' d' → zO X F G L base rs' pr' l S' w'.H K → AO X F bA fl d' l s' w'.h (PO fl L w K) := fun w' S' s' rs' pr' d' r' e hS' hd' hk' => by
      obtain ⟨n, s2, h2, e2, S2, w2, f1, f2, f3, f4, f5⟩ := zO_sound l rs' pr' d' S' s' w' r' hS' hd' hk'
      exact ⟨n, s2, h2, e2, S2, w2, f1, f2, e.trans f3, f4, f5⟩
    rw [AO_consG]
    simp only [zO] at hk
    cases hw : wantZ o S with
    | none => rw [hw] at hk; exact hk.elim
    | some b =>
      rw [want_spec hS hw]
      rw [hw] at hk
      refine ⟨fun hb => ?_, fun hb => ?_⟩
      · have hk := hk.1 hb
        cases hiso : o.iso with
        | true =>
          rw [hiso] at hk
          simp only [if_true] at hk ⊢
          have e1 : lessen fl o (forbs fl d o l s w.h) = fl := by unfold lessen; rw [hiso]; rfl
          have e2 : ∀ fb, d.with o fb s = d := fun fb => by unfold Seen.with; rw [hiso]; rfl
          rw [e1]
          refine (z1c_sound r hS (ztop := none) (top := none) (fun z id off _ _ => rfl) hk).mono fun v h' p => ?_
          obtain ⟨z, w', rfl, r', e, hz, kk⟩ := zgo_spec p
          rw [e2]
          exact go w' _ _ rs pr d r' e (zput_spec (fun t => (hS t).ext e) hz) (hd.ext e) kk
        | false =>
          rw [hiso] at hk
          simp only [Bool.false_eq_true, if_false] at hk ⊢
          obtain ⟨fb, hfb, hk⟩ := hk
          -- what may not be written
          obtain ⟨fa, hfa⟩ : ∃ fa, fa = forbs fl d o l s w.h := ⟨_, rfl⟩
          rw [← hfa]
          have hcov : ∀ id ∈ fa, id < w.h.length ∧ ∀ i p, w.mu i = some p → p.1 = id → i ∈ fb := by
            rw [hfa]
            unfold forbs
            unfold zforb at hfb
            rw [hiso]
            cases hh : heavy o.op with
            | false => intro id hi; simp at hi
            | true =>
              rw [hh] at hfb
              simp only [if_true] at hfb
              split at hfb
              · rename_i fb' hfb'
                injection hfb with hfb; subst hfb
                intro id hi
                simp only [Bool.not_true, Bool.or_self, Bool.false_eq_true, if_false, List.mem_append] at hi
                rcases hi with hi | hi
                · obtain ⟨q1, q2⟩ := hd.r1 id hi
                  exact ⟨q1, fun i p hp e => List.mem_append_left _ (q2 i p hp e)⟩
                · obtain ⟨q1, q2⟩ := ahead_over l s _ (fun t => (hS t).owner r) hfb' id hi
                  exact ⟨q1, fun i p hp e => List.mem_append_right _ (q2 i p hp e)⟩
              · cases hfb
          have hfbl : ∀ i ∈ fb, i < w.H.length := by
            unfold zforb at hfb
            split at hfb
            · split at hfb
              · rename_i fb' hfb'
                injection hfb with hfb; subst hfb
                intro i hi
                rcases List.mem_append.1 hi with hi | hi
                · obtain ⟨cs, p, h1, _⟩ := hd.r2 i hi
                  exact (List.getElem?_eq_some_iff.1 h1).1
                · obtain ⟨t, ht⟩ := zahead_mem l _ hfb' i hi
                  exact (hS t).owner_lt i ht
              · cases hfb
            · injection hfb with hfb; subst hfb; intro i hi; simp at hi
          have rL : ZRel (lessen fl o fa) (fun i => L i && !fb.contains i) w := by
            refine ⟨fun id h => ?_, fun i h => ?_, r.frlt, r.dom, r.inj, r.nfr, fun i p hp hl => ?_, r.box, r.grow⟩
            · unfold lessen
              rw [hiso]
              simp only [Bool.false_eq_true, if_false, Bool.and_eq_true, Bool.not_eq_true']
              refine ⟨r.fresh id h, ?_⟩
              cases hc : fa.contains id with
              | false => rfl
              | true => have := (hcov id (List.contains_iff_mem.1 hc)).1; omega
            · simp only [Bool.and_eq_true, Bool.not_eq_true']
              refine ⟨r.lfresh i h, ?_⟩
              cases hc : fb.contains i with
              | false => rfl
              | true => have := hfbl i (List.contains_iff_mem.1 hc); omega
            · simp only [Bool.and_eq_true, Bool.not_eq_true'] at hl
              unfold lessen
              rw [hiso]
              simp only [Bool.false_eq_true, if_false, Bool.and_eq_true, Bool.not_eq_true']
              refine ⟨r.wr i p hp hl.1, ?_⟩
              cases hc : fa.contains p.1 with
              | false => rfl
              | true =>
                have h1 := (hcov p.1 (List.contains_iff_mem.1 hc)).2 i p hp rfl
                have h2 : fb.contains i = true := List.contains_iff_mem.2 h1
                rw [h2] at hl; cases hl.2
          -- a free read
          have ht : ∀ z id off, ZR w z (.ptr id off) → topZ (some (base, pr)) z = true → shallowOk (some (bA, d.pr)) id = true := fun z id off hz htop => by
            unfold topZ at htop
            split at htop
            · rename_i heq; cases heq
            · rename_i b' pr' i o' heq
              injection heq with heq; injection heq with e1 e2; subst e1; subst e2
              obtain ⟨id', cs, e1, e2, e3⟩ := hz.ptr_inv
              injection e1 with e1 _; subst e1
              simp only [Bool.and_eq_true, decide_eq_true_eq] at htop
              simp only [shallowOk, Bool.and_eq_true, decide_eq_true_eq]
              refine ⟨hd.b1 i cs htop.1 e2 _ e3, ?_⟩
              have hp1 := hd.p1
              cases hpr : pr with
              | none =>
                rw [hpr] at hp1
                cases hdp : d.pr with
                | none => rfl
                | some la => rw [hdp] at hp1; exact hp1.elim
              | some lz =>
                rw [hpr] at hp1 htop
                cases hdp : d.pr with
                | none => rfl
                | some la =>
                  rw [hdp] at hp1
                  simp only at hp1 htop
                  obtain ⟨cs2, p2, q1, q2, q3⟩ := hp1 i (List.contains_iff_mem.1 htop.2)
                  rw [e3] at q2; injection q2 with q2; subst q2
                  exact List.contains_iff_mem.2 q3
            · cases htop
          -- what is known to be seen
          have hnew : SeenOk w base bA (zrs rs o S) (zpr rs pr o l S) (d.with o fa s) := by
            have hrs : (d.with o fa s).rs = sees s o.op ++ d.rs := by unfold Seen.with; rw [hiso]; rfl
            have hpr : (d.with o fa s).pr = if heavy o.op = true then some (match d.pr with | none => fa | some l => l.filter fa.contains) else d.pr := by unfold Seen.with; rw [hiso]; rfl
            have hloads : ∀ {n : Option Nat} {x : Opd}, o.op = .load n x → ∃ i o' , zev S x = some (.ptr i o') := fun {n x} ho => by
              rw [ho] at hk
              obtain ⟨z, v, h1, h2, h3, _⟩ := hk
              unfold topZ at h2
              split at h2
              · rename_i heq; cases heq
              · exact ⟨_, _, h1⟩
              · cases h2
            refine ⟨fun id hi => ?_, fun i hi => ?_, ?_, hd.b0, hd.b1⟩
            · rw [hrs] at hi
              unfold zrs
              rcases List.mem_append.1 hi with hi | hi
              · cases ho : o.op with
                | load n x =>
                  obtain ⟨i, o', h1⟩ := hloads ho
                  simp only [h1]
                  obtain ⟨id', cs, e1, e2, e3⟩ := (zev_spec hS h1).ptr_inv
                  rw [ho] at hi
                  simp [sees, e1, idOf] at hi
                  subst hi
                  exact ⟨(r.nfr i _ e3).2, fun j p hp e => by rw [r.inj j i p _ hp e3 e]; simp⟩
                | _ => rw [ho] at hi; simp [sees] at hi
              · obtain ⟨q1, q2⟩ := hd.r1 id hi
                refine ⟨q1, fun i p hp e => ?_⟩
                have := q2 i p hp e
                split
                · split
                  · exact List.mem_cons_of_mem _ this
                  · exact this
                · exact this
            · rw [hrs]
              have old : i ∈ rs → ∃ cs p, w.H[i]? = some (.box cs) ∧ w.mu i = some p ∧ p.1 ∈ sees s o.op ++ d.rs := fun h => by
                obtain ⟨cs, p, q1, q2, q3⟩ := hd.r2 i h
                exact ⟨cs, p, q1, q2, List.mem_append_right _ q3⟩
              unfold zrs at hi
              split at hi
              · rename_i n x ho
                split at hi
                · rename_i j o' h1
                  rcases List.mem_cons.1 hi with rfl | hi
                  · obtain ⟨id', cs, e1, e2, e3⟩ := (zev_spec hS h1).ptr_inv
                    refine ⟨cs, _, e2, e3, List.mem_append_left _ ?_⟩
                    rw [ho]; simp [sees, e1, idOf]
                  · exact old hi
                · exact old hi
              · exact old hi
            · rw [hpr]
              unfold zpr
              by_cases hh : heavy o.op = true
              · rw [if_pos hh, if_pos hh]
                have hu : ∀ i ∈ rs ++ zunder l (fun t => some (S t)), ∃ cs p, w.H[i]? = some (.box cs) ∧ w.mu i = some p ∧ p.1 ∈ fa := fun i hi => by
                  rw [hfa]
                  unfold forbs
                  rw [hiso, hh]
                  simp only [Bool.not_true, Bool.or_self, Bool.false_eq_true, if_false]
                  rcases List.mem_append.1 hi with hi | hi
                  · obtain ⟨cs, p, q1, q2, q3⟩ := hd.r2 i hi
                    exact ⟨cs, p, q1, q2, List.mem_append_left _ q3⟩
                  · obtain ⟨cs, p, q1, q2, q3⟩ := ahead_under (fl := fl) l s _ (fun t z h => by injection h with h; subst h; exact hS t) i hi
                    exact ⟨cs, p, q1, q2, List.mem_append_right _ q3⟩
                have hp1 := hd.p1
                cases hpr2 : pr with
                | none =>
                  rw [hpr2] at hp1
                  cases hdp : d.pr with
                  | none => exact hu
                  | some la => rw [hdp] at hp1; exact hp1.elim
                | some lz =>
                  rw [hpr2] at hp1
                  cases hdp : d.pr with
                  | none => rw [hdp] at hp1; exact hp1.elim
                  | some la =>
                    rw [hdp] at hp1
                    intro i hi
                    obtain ⟨h1, h2⟩ := List.mem_filter.1 hi
                    obtain ⟨cs, p, q1, q2, q3⟩ := hp1 i h1
                    obtain ⟨cs', p', q4, q5, q6⟩ := hu i (List.contains_iff_mem.1 h2)
                    rw [q2] at q5; injection q5 with q5; subst q5
                    exact ⟨cs, p, q1, q2, List.mem_filter.2 ⟨q3, List.contains_iff_mem.2 q6⟩⟩
              · rw [if_neg hh, if_neg hh]; exact hd.p1
          refine (z1c_sound rL hS (ztop := some (base, pr)) (top := some (bA, d.pr)) ht hk).mono fun v h' p => ?_
          obtain ⟨z, w', rfl, r', e, hz, kk⟩ := zgo_spec p
          exact go w' _ _ _ _ _ (r.back r' e) e (zput_spec (fun t => (hS t).ext e) hz) (hnew.ext e) kk
      · have hk := hk.2 hb
        exact go w _ _ rs pr d r (Ext.refl w) (zput_spec hS ZRs.nil.toTuple) hd hk
end Go.Proofs.Ytpmmiaadfnildaa
