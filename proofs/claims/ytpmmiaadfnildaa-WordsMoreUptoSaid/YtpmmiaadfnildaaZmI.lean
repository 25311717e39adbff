/-
  ZM: regions of operations.
-/
import Derived.Test.YtpmmiaadfnildaaZmH
namespace Go.Proofs.Ytpmmiaadfnildaa
open Go Go.RowKit
set_option linter.unusedVariables false
set_option linter.unusedSimpArgs false

/-- What a call does: told of AM's. -/
def ZC (X : CallT) (F : FuncId → Option AFunc) (f : FuncId) (zs : List ZV) (L : Nat → Bool) (H : ZH) (K : ZV → ZH → Prop) : Prop :=
  ∀ (fl : Nat → Bool) (w : Wd) (args : List AV), ZRel fl L w → w.H = H → ZRs w zs args → AC X F f args fl w.h (PK fl L w K)

/-- What the proof adds to the code: which nils become lists of their own (slot, cell, size), which literals do, which lists are written to no more. -/
structure Gh where
  own : List (Nat × List (Nat × Nat))
  lit : List Nat
  frz : List Nat
abbrev Gh.no : Gh := ⟨[], [], []⟩

def ownCells : List (Nat × Nat) → List ZV → ZH → Option (List ZV × ZH)
  | [], cs, H => some (cs, H)
  | (j, k) :: r, cs, H => match cs[j]? with
    | some (.val (.slice none 0 0)) => ownCells r (cs.set j (.own H.length 0 0 0 false)) (H ++ [.grow 0 k []])
    | _ => none
def zown (l : List (Nat × Nat)) (K : ZV → ZH → Prop) (z : ZV) (H : ZH) : Prop := match z with
  | .val (.slice none 0 0) => ∃ z' H', ownCells l [.nil] H = some ([z'], H') ∧ K z' H'
  | .agg cs => ∃ cs' H', ownCells l cs H = some (cs', H') ∧ K (.agg cs') H'
  | .ptr i o => match H[i]? with
    | some (.box cs) => ∃ cs' H', ownCells l cs H = some (cs', H') ∧ K (.ptr i o) (H'.set i (.box cs'))
    | _ => False
  | z => K z H
def zfrz (K : ZV → ZH → Prop) (z : ZV) (H : ZH) : Prop := match z with
  | .own i g off len ex => match H[i]? with
    | some (.grow g' k rows) => g' = g ∧ off + len ≤ rows.length ∧ rows.flatten.all pureZ = true ∧ K (.fz k ex ((rows.drop off).take len)) (H.set i .dead)
    | _ => False
  | _ => pureZ z = true ∧ K z H
def zgo (G : Gh) (dst : Option Nat) (K : ZV → ZH → Prop) (z : ZV) (H : ZH) : Prop := match dst with
  | none => K z H
  | some d => match G.own.lookup d with
    | some l => zown l K z H
    | none => if G.frz.contains d = true then zfrz K z H else K z H

def owO (O : Nat → List Nat) : Opd → Option (List Nat)
  | .tmp t => some (O t)
  | .av (.ptr ..) | .av (.slice ..) => none
  | _ => some []
def owOp (O : Nat → List Nat) : AOp → Option (List Nat)
  | .mv x | .fieldAddr _ x | .indexAddr _ x _ | .indexArr _ _ x _ | .slice _ x _ _ _ | .nilCheck x => owO O x
  | _ => some []
def putO {α : Type} (O : Nat → α) (d : Option Nat) (v : α) : Nat → α := match d with
  | some d => fun t => if t = d then v else O t
  | none => O
def oldO (O : Nat → List Nat) : Option Nat → List Nat
  | some d => O d
  | none => []
/-- Whose blocks the free reads behind may see. -/
def zahead : List AOper → (Nat → List Nat) → Option (List Nat)
  | [], _ => some []
  | o :: r, O => if light o.op = true then match owOp O o.op with
      | some x => zahead r (putO O o.dst (x ++ oldO O o.dst))
      | none => none
    else match o.op, o.iso with
      | .load _ x, false => match owO O x, zahead r O with
        | some a, some b => some (a ++ b)
        | _, _ => none
      | _, _ => zahead r O
def exO (E : Nat → Option ZV) : Opd → Option ZV
  | .tmp t => E t
  | _ => none
def exOp (E : Nat → Option ZV) : AOp → Option ZV
  | .mv x => exO E x
  | .fieldAddr n x => match exO E x with
    | some (.ptr i o) => some (.ptr i (o + n))
    | _ => none
  | _ => none
/-- Which boxes they will see for sure. -/
def zunder : List AOper → (Nat → Option ZV) → List Nat
  | [], _ => []
  | o :: r, E => if light o.op = true then zunder r (putO E o.dst (exOp E o.op))
    else match o.op, o.iso with
      | .load _ x, false => match exO E x with
        | some (.ptr i _) => i :: zunder r E
        | _ => zunder r E
      | _, _ => zunder r E
def zforb (rs : List Nat) (o : AOper) (l : List AOper) (S : ZS) : Option (List Nat) :=
  if heavy o.op = true then match zahead l (fun t => owners (S t)) with
    | some fb => some (rs ++ fb)
    | none => none
  else some []
def zpr (rs : List Nat) (pr : Option (List Nat)) (o : AOper) (l : List AOper) (S : ZS) : Option (List Nat) :=
  if heavy o.op = true then some (match pr with
    | none => rs ++ zunder l (fun t => some (S t))
    | some p => p.filter (rs ++ zunder l (fun t => some (S t))).contains) else pr
def zrs (rs : List Nat) (o : AOper) (S : ZS) : List Nat := match o.op with
  | .load _ x => match zev S x with
    | some (.ptr i _) => i :: rs
    | _ => rs
  | _ => rs
def zlit (G : Gh) : Option Nat → Bool
  | some d => G.lit.contains d
  | none => false
def wantZ (o : AOper) (S : ZS) : Option Bool := match o.guard with
  | none => some true
  | some (t, want) => match S t with
    | .val (.bool b) => some (b == want)
    | .val _ => some false
    | .tuple [] => some false
    | _ => none
section
variable (X : CallT) (F : FuncId → Option AFunc)
def z1c (L : Nat → Bool) (top : Option (Nat × Option (List Nat))) (gl : Bool) (S : ZS) (H : ZH) (K : ZV → ZH → Prop) (op : AOp) : Prop := match op with
  | .call f args => ∃ g caps zs, zev S f = some (.func g caps) ∧ zevs S args = some zs ∧ ZC X F g (zs ++ caps) L H K
  | op => z1 L top gl S H K op
def zO (G : Gh) (L : Nat → Bool) (base : Nat) : List Nat → Option (List Nat) → List AOper → ZS → ZH → (ZS → ZH → Prop) → Prop
  | _, _, [], S, H, K => K S H
  | rs, pr, o :: l, S, H, K => WantK (wantZ o S)
      (if o.iso = true then z1c X F L none (zlit G o.dst) S H (zgo G o.dst fun z H' => zO G L base rs pr l (zput S o.dst z) H' K) o.op
        else ∃ fb, zforb rs o l S = some fb ∧ z1c X F (fun i => L i && !fb.contains i) (some (base, pr)) (zlit G o.dst) S H (zgo G o.dst fun z H' => zO G L base (zrs rs o S) (zpr rs pr o l S) l (zput S o.dst z) H' K) o.op)
      (zO G L base rs pr l (zput S o.dst .no) H K)
end

variable {fl L : Nat → Bool} {w : Wd} {S : ZS} {s : Slots} {X : CallT} {F : FuncId → Option AFunc}

theorem idsOf_eq (a : AV) : idOf a = idsOf a := by cases a <;> rfl
theorem PK.mono {fl L : Nat → Bool} {w : Wd} {K K' : ZV → ZH → Prop} {a : AV} {h' : Heap} (p : PK fl L w K a h') (hk : ∀ z H, K z H → K' z H) : PK fl L w K' a h' := by
  obtain ⟨z, w', h1, h2, h3, h4, h5⟩ := p
  exact ⟨z, w', h1, h2, h3, h4, hk _ _ h5⟩

/-! ### What the proof adds -/
theorem ownCells_spec : ∀ {l : List (Nat × Nat)} {cs cs' : List ZV} {ys : List AV} {w : Wd} {H' : ZH}, ZRel fl L w → ZRs w cs ys → ownCells l cs w.H = some (cs', H') → ∃ w', w'.h = w.h ∧ w'.H = H' ∧ ZRel fl L w' ∧ Ext w w' ∧ ZRs w' cs' ys
  | [], cs, cs', ys, w, H', r, h, ho => by
    simp only [ownCells, Option.some.injEq, Prod.mk.injEq] at ho
    obtain ⟨rfl, rfl⟩ := ho
    exact ⟨w, rfl, rfl, r, Ext.refl w, h⟩
  | (j, k) :: l, cs, cs', ys, w, H', r, h, ho => by
    simp only [ownCells] at ho
    split at ho
    · rename_i hj
      obtain ⟨w1, e1, e2, e3, e4, e5, e6⟩ := alloc_nil r k
      obtain ⟨a, ha, hz⟩ := h.get hj
      have hz := hz.val_inv
      subst hz
      have hown : ZR w1 (.own w.H.length 0 0 0 false) .nil := own_nil e5 (k := k) (by rw [e2]; simp) e3 (.inl rfl)
      have hjl : j < cs.length := (List.getElem?_eq_some_iff.1 hj).1
      have h1 : ZRs w1 (cs.set j (.own w.H.length 0 0 0 false)) ys := by
        refine ⟨by simp [h.1], fun i z a hz' ha' => ?_⟩
        by_cases hi : i = j
        · subst hi
          rw [List.getElem?_set] at hz'
          simp [hjl] at hz'
          rw [ha] at ha'
          injection ha' with ha'
          subst hz'; subst ha'; exact hown
        · rw [List.getElem?_set, if_neg (Ne.symm hi)] at hz'
          exact (h.2 i z a hz' ha').ext e6
      rw [← e2] at ho
      obtain ⟨w2, f1, f2, f3, f4, f5⟩ := ownCells_spec e5 h1 ho
      exact ⟨w2, f1.trans e1, f2, f3, e6.trans f4, f5⟩
    · cases ho
theorem zown_spec {w0 : Wd} {l : List (Nat × Nat)} {K : ZV → ZH → Prop} {a : AV} {h' : Heap} (p : PK fl L w (zown l K) a h') : PK fl L w K a h' := by
  obtain ⟨z, w', rfl, r, e, hz, hk⟩ := p
  unfold zown at hk
  split at hk
  · obtain ⟨z', H', h1, k⟩ := hk
    obtain ⟨w2, e1, e2, e3, e4, e5⟩ := ownCells_spec r (ZRs.cons hz .nil) h1
    exact ⟨z', w2, e1, e3, e.trans e4, e5.2 0 _ _ rfl rfl, by rw [e2]; exact k⟩
  · obtain ⟨cs', H', h1, k⟩ := hk
    obtain ⟨ys, rfl, hc⟩ := hz.agg_inv
    obtain ⟨w2, e1, e2, e3, e4, e5⟩ := ownCells_spec r hc h1
    exact ⟨_, w2, e1, e3, e.trans e4, e5.toAgg, by rw [e2]; exact k⟩
  · rename_i i o
    split at hk
    · rename_i cs hb
      obtain ⟨cs', H', h1, k⟩ := hk
      obtain ⟨id, cs0, rfl, _, hm⟩ := hz.ptr_inv
      obtain ⟨id', row, q1, q2, q3⟩ := r.box i cs hb
      rw [hm] at q1; injection q1 with q1; injection q1 with q1; subst q1
      obtain ⟨w2, e1, e2, e3, e4, e5⟩ := ownCells_spec r q3 h1
      obtain ⟨⟨cs2, hb2⟩, hm2⟩ := e4.box i cs hb
      have hid : id < w'.h.length := (r.nfr i _ hm).2
      obtain ⟨w3, f1, f2, f3, f4, f5⟩ := upd_blk0 e3 (lt_of_get hb2) (.box cs') (id, 0) w2.h row (fun _ _ _ => rfl) (Nat.le_refl _) ⟨by rw [e1]; exact hid, .inl ⟨_, hm2.trans hm, rfl⟩⟩ (by rw [e1]; exact q2) (.inl ⟨cs2, cs', hb2, rfl, hm2.trans hm, fun w' e' => e5.ext e'⟩)
      have hb3 : w3.H[i]? = some (.box cs') := by rw [f2, List.getElem?_set]; simp [lt_of_get hb2]
      exact ⟨_, w3, f1.trans e1, f4, e.trans (e4.trans f5), .ptr hb3 f3, by rw [f2, e2]; exact k⟩
    · exact hk.elim
  · exact ⟨_, w', rfl, r, e, hz, hk⟩
/-- A block is written to no more: nobody speaks of it as one's own. -/
theorem freeze_blk (r : ZRel fl L w) {i g k : Nat} {rows : List (List ZV)} (hb : w.H[i]? = some (.grow g k rows)) :
    ∃ w', w'.h = w.h ∧ w'.H = w.H.set i .dead ∧ (∀ p, w.mu i = some p → w'.Fr p.1) ∧ ZRel fl L w' ∧ Ext w w' := by
  have hi := lt_of_get hb
  obtain ⟨m, hm⟩ : ∃ m : Nat → Option (Nat × Nat), m = fun j => if j = i then none else w.mu j := ⟨_, rfl⟩
  have m1 : m i = none := by rw [hm]; simp
  have m2 : ∀ j, j ≠ i → m j = w.mu j := fun j hj => by rw [hm]; simp [hj]
  have m3 : ∀ j p, m j = some p → j ≠ i ∧ w.mu j = some p := fun j p h => by
    by_cases hj : j = i
    · subst hj; rw [m1] at h; cases h
    · exact ⟨hj, (m2 j hj).symm.trans h⟩
  have hget : ∀ (j : Nat) C, (w.H.set i .dead)[j]? = some C → (j ≠ i ∧ w.H[j]? = some C) ∨ (j = i ∧ C = .dead) := fun j C h => by
    by_cases hj : j = i
    · subst hj
      rw [List.getElem?_set] at h
      simp [hi] at h
      exact .inr ⟨rfl, h.symm⟩
    · rw [List.getElem?_set, if_neg (Ne.symm hj)] at h; exact .inl ⟨hj, h⟩
  have e : Ext w ⟨fun id => w.Fr id ∨ ∃ p, w.mu i = some p ∧ p.1 = id, m, w.H.set i .dead, w.h⟩ := by
    refine ⟨fun _ h => .inl h, fun id _ h hr => hr, Nat.le_refl _, by simp, fun j p h => .inl ⟨p, (m3 j p h).2, rfl⟩, fun j cs h => ?_, fun j cs hj h => (hget j _ h).elim (fun q => ⟨cs, q.2⟩) (fun q => by cases q.2), fun j g2 k2 rows2 hj h => ?_⟩
    · have hj : j ≠ i := fun q => by subst q; rw [hb] at h; cases h
      exact ⟨⟨cs, by show (w.H.set i _)[j]? = _; rw [List.getElem?_set, if_neg (Ne.symm hj)]; exact h⟩, m2 j hj⟩
    · rcases hget j _ h with ⟨hj', h⟩ | ⟨rfl, hq⟩
      · exact ⟨g2, rows2, h, Nat.le_refl _, fun _ => ⟨m2 j hj', rfl, fun id b row hp hr => ⟨row, hr, rfl⟩⟩⟩
      · cases hq
  refine ⟨⟨fun id => w.Fr id ∨ ∃ p, w.mu i = some p ∧ p.1 = id, m, w.H.set i .dead, w.h⟩, rfl, rfl, fun p hp => .inr ⟨p, hp, rfl⟩, ?_, e⟩
  refine ⟨r.fresh, fun j h => r.lfresh j (by simpa using h), fun id h => ?_, fun j p h => by simpa using r.dom j p (m3 j p h).2, fun j j' p q hj hj' he => r.inj j j' p q (m3 j p hj).2 (m3 j' q hj').2 he, fun j p h => ?_, fun j p h hl => r.wr j p (m3 j p h).2 hl, fun j cs h => ?_, fun j g2 k2 rows2 h => ?_⟩
  · rcases h with h | ⟨p, hp, rfl⟩
    · exact r.frlt id h
    · exact (r.nfr i p hp).2
  · obtain ⟨hj, hp⟩ := m3 j p h
    refine ⟨fun q => ?_, (r.nfr j p hp).2⟩
    rcases q with q | ⟨p', hp', he⟩
    · exact (r.nfr j p hp).1 q
    · exact hj (r.inj j i p p' hp hp' he.symm)
  · rcases hget j _ h with ⟨hj, h⟩ | ⟨rfl, hq⟩
    · obtain ⟨id, row0, q1, q2, q3⟩ := r.box j cs h
      exact ⟨id, row0, (m2 j hj).trans q1, q2, q3.ext e⟩
    · cases hq
  · rcases hget j _ h with ⟨hj, h⟩ | ⟨rfl, hq⟩
    · obtain ⟨q0, q1 | ⟨id, b, row0, q1, q2, q3, q4⟩⟩ := r.grow j g2 k2 rows2 h
      · exact ⟨q0, .inl ⟨(m2 j hj).trans q1.1, q1.2⟩⟩
      · exact ⟨q0, .inr ⟨id, b, row0, (m2 j hj).trans q1, q2, q3, q4.ext e⟩⟩
    · cases hq
/-- A list of one's own, written to no more. -/
theorem freeze_own (r : ZRel fl L w) {i g k off len : Nat} {rows : List (List ZV)} {ex : Bool} {a : AV} (hb : w.H[i]? = some (.grow g k rows)) (hle : off + len ≤ rows.length) (hp : rows.flatten.all pureZ = true) (hz : ZR w (.own i g off len ex) a) :
    ∃ w', w'.h = w.h ∧ w'.H = w.H.set i .dead ∧ ZRel fl L w' ∧ Ext w w' ∧ ZR w' (.fz k ex ((rows.drop off).take len)) a := by
  obtain ⟨w', e1, e2, e3, e4, e5⟩ := freeze_blk r hb
  refine ⟨w', e1, e2, e4, e5, .fr ?_⟩
  obtain ⟨g0, gB⟩ := r.grow _ _ _ _ hb
  have hlen : ((rows.drop off).take len).length = len := by rw [List.length_take, List.length_drop]; omega
  cases hz with
  | fr hf => cases hf
  | own h1 h2 h3 h4 =>
    rcases (h2 _ _ _ hb).2 rfl with ⟨m0, rfl, rfl, rfl, hq⟩ | ⟨id, b, lb, ex', row, m1, rfl, m2, m3, m4, m5, m6⟩
    · rcases hq with rfl | ⟨id, o, row, rfl, q2, q3, q4⟩
      · exact .fnil (.inl rfl)
      · have := FR.ofRows (Fr := w'.Fr) (h := w'.h) (k := k) (ex := ex) (rows := []) (id := id) (off := o) (lb := 0) (ex' := true) (row := row) (e5.frm _ q2) (by rw [e1]; exact q3) (by simpa using q4) (by simp) (fun _ => ⟨rfl, rfl⟩) (by simp) (fun i z hz => by simp at hz)
        simpa using this
    · rcases gB with ⟨n1, n2⟩ | ⟨id', b', row', n1, n2, n3, n4⟩
      · rw [m1] at n1; cases n1
      · rw [m1] at n1; injection n1 with n1; injection n1 with t1 t2; subst t1; subst t2
        rw [m4] at n2; injection n2 with n2; subst n2
        have hm : len * k ≤ lb * k := Nat.mul_le_mul_right _ m3
        have hm2 : (off + len) * k ≤ rows.length * k := Nat.mul_le_mul_right _ hle
        rw [Nat.add_mul] at hm2
        have := FR.ofRows (Fr := w'.Fr) (h := w'.h) (k := k) (ex := ex) (rows := (rows.drop off).take len) (id := id) (off := b + off * k) (lb := lb) (ex' := ex') (row := row) (e3 _ m1) (by rw [e1]; exact m4) (by rw [hlen]; omega) (by rw [hlen]; exact m3) (by rw [hlen]; exact m6) (fun x hx => g0 x (List.mem_of_mem_drop (List.mem_of_mem_take hx))) (fun i z hz => ?_)
        · rw [hlen] at this; exact this
        · rw [← zflat_take (fun x hx => g0 x (List.mem_of_mem_drop hx)), ← zflat_drop g0, List.getElem?_take] at hz
          split at hz
          · rw [List.getElem?_drop] at hz
            obtain ⟨c, t1, t2⟩ := n4.get hz
            rw [List.getElem?_take] at t1
            split at t1
            · rw [List.getElem?_drop] at t1
              exact ⟨c, by rw [← t1]; congr 1; omega, pure_fr (t2.ext e5) (List.all_eq_true.1 hp z (List.mem_of_getElem? hz))⟩
            · cases t1
          · cases hz
theorem zfrz_spec {K : ZV → ZH → Prop} {a : AV} {h' : Heap} (p : PK fl L w (zfrz K) a h') : PK fl L w K a h' := by
  obtain ⟨z, w', rfl, r, e, hz, hk⟩ := p
  unfold zfrz at hk
  split at hk
  · split at hk
    · rename_i g' k rows hb
      obtain ⟨rfl, h1, h2, k⟩ := hk
      obtain ⟨w2, e1, e2, e3, e4, e5⟩ := freeze_own r hb h1 h2 hz
      exact ⟨_, w2, e1, e3, e.trans e4, e5, by rw [e2]; exact k⟩
    · exact hk.elim
  · exact ⟨z, w', rfl, r, e, hz, hk.2⟩
theorem zgo_spec {G : Gh} {dst : Option Nat} {K : ZV → ZH → Prop} {a : AV} {h' : Heap} (p : PK fl L w (zgo G dst K) a h') : PK fl L w K a h' := by
  cases dst with
  | none => exact p
  | some d =>
    cases hl : G.own.lookup d with
    | some l => exact zown_spec (w0 := w) (l := l) (p.mono fun z H h => by simp only [zgo, hl] at h; exact h)
    | none =>
      by_cases hf : G.frz.contains d = true
      · exact zfrz_spec (p.mono fun z H h => by simp only [zgo, hl, hf, if_true] at h; exact h)
      · exact p.mono fun z H h => by simp only [zgo, hl, hf] at h; simpa using h
end Go.Proofs.Ytpmmiaadfnildaa
