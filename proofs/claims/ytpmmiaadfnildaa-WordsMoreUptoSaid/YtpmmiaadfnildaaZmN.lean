/-
  ZM: results; the law's entry.
-/
import Derived.Test.YtpmmiaadfnildaaZmM
namespace Go.Proofs.Ytpmmiaadfnildaa
open Go Go.RowKit
set_option linter.unusedVariables false
set_option linter.unusedSimpArgs false
section
variable {L : Nat → Bool} {S : ZS} {H : ZH} {X : CallT} {F : FuncId → Option AFunc} {G : Gh}
theorem zres_tmp {t : Nat} : zres S H (.tmp t) = some (S t) := rfl
theorem zres_cell {a : Nat} {n : Option Nat} : zres S H (.cell a n) = ldZ H n (S a) := rfl
theorem zres1 {r : ARes} : zresults S H [r] = zres S H r := rfl
theorem zres2 {a b : ARes} {z : ZV} : zresults S H [a, b] = some z ↔ ∃ x y, zres S H a = some x ∧ zres S H b = some y ∧ .tuple [x, y] = z := by
  simp only [zresults, zress]
  cases zres S H a <;> cases zres S H b <;> simp
theorem zres3 {a b c : ARes} {z : ZV} : zresults S H [a, b, c] = some z ↔ ∃ x y u, zres S H a = some x ∧ zres S H b = some y ∧ zres S H c = some u ∧ .tuple [x, y, u] = z := by
  simp only [zresults, zress]
  cases zres S H a <;> cases zres S H b <;> cases zres S H c <;> simp
end

/-! ### From a law's arguments -/
/-- A datum, as ZM has it. -/
def enc : (t : Ty) → t.val → List ZV
  | .int k, n => [.val (.int k n)]
  | .bool, b => [.val (.bool b)]
  | .str, s => [.val (.string s)]
  | .unit, _ => []
  | .prod a b, x => enc a x.1 ++ enc b x.2
  | .slice _ e, l => [.fz e.size false (l.map (enc e))]
/-- What the machine's bounds give. -/
def TOk : (t : Ty) → t.val → Prop
  | .int k, n => (Lit.int k n).wf = true
  | .bool, _ => True
  | .str, s => s.size ≤ maxLen
  | .unit, _ => True
  | .prod a b, x => TOk a x.1 ∧ TOk b x.2
  | .slice _ e, l => l.length ≤ maxLen ∧ ∀ x ∈ l, TOk e x
theorem enc_length : ∀ (t : Ty) (x : t.val), (enc t x).length = t.size
  | .int k, _ => rfl
  | .bool, _ => rfl
  | .str, _ => rfl
  | .unit, _ => rfl
  | .prod a b, x => by simp [enc, enc_length a, enc_length b]
  | .slice _ e, l => rfl
def FRs (Fr : Nat → Prop) (h : Heap) (zs : List ZV) (ys : List AV) : Prop := zs.length = ys.length ∧ ∀ (i : Nat) z a, zs[i]? = some z → ys[i]? = some a → FR Fr h z a
theorem enc_fr {h : Heap} : ∀ (t : Ty) (cs : List AV) (x : t.val), AHas h t cs x → FRs (fun id => id < h.length) h (enc t x) cs ∧ TOk t x
  | .int k, cs, n, hh => by
    obtain ⟨rfl, hw⟩ := hh
    refine ⟨⟨rfl, fun i z a hz ha => ?_⟩, hw⟩
    cases i with
    | zero => simp [enc] at hz ha; subst hz; subst ha; exact .val _
    | succ i => simp at ha
  | .bool, cs, b, hh => by
    simp only [AHas] at hh; subst hh
    refine ⟨⟨rfl, fun i z a hz ha => ?_⟩, trivial⟩
    cases i with
    | zero => simp [enc] at hz ha; subst hz; subst ha; exact .val _
    | succ i => simp at ha
  | .str, cs, s, hh => by
    obtain ⟨rfl, hw⟩ := hh
    refine ⟨⟨rfl, fun i z a hz ha => ?_⟩, hw⟩
    cases i with
    | zero => simp [enc] at hz ha; subst hz; subst ha; exact .val _
    | succ i => simp at ha
  | .unit, cs, x, hh => by
    simp only [AHas] at hh; subst hh
    exact ⟨⟨rfl, fun i z a hz ha => by simp at ha⟩, trivial⟩
  | .prod a b, cs, x, hh => by
    obtain ⟨c, d, rfl, h1, h2⟩ := hh
    obtain ⟨i1, t1⟩ := enc_fr a c x.1 h1
    obtain ⟨i2, t2⟩ := enc_fr b d x.2 h2
    refine ⟨⟨by simp [enc, i1.1, i2.1], fun i z y hz hy => ?_⟩, t1, t2⟩
    simp only [enc] at hz
    by_cases hi : i < c.length
    · rw [List.getElem?_append_left (by rw [i1.1]; exact hi)] at hz
      rw [List.getElem?_append_left hi] at hy
      exact i1.2 i z y hz hy
    · rw [List.getElem?_append_right (by rw [i1.1]; omega), i1.1] at hz
      rw [List.getElem?_append_right (by omega)] at hy
      exact i2.2 _ z y hz hy
  | .slice by_ e, cs, l, hh => by
    rcases hh with ⟨hv, rfl⟩ | ⟨id, row, rfl, h1, h2, h3, h4⟩
    · refine ⟨⟨by rcases hv with rfl | rfl <;> rfl, fun i z a hz ha => ?_⟩, by simp [TOk, maxLen], by simp⟩
      cases i with
      | zero =>
        simp [enc] at hz
        subst hz
        refine .fnil ?_
        rcases hv with rfl | rfl <;> (simp at ha; subst ha)
        · exact .inl rfl
        · exact .inr ⟨rfl, rfl⟩
      | succ i => rcases hv with rfl | rfl <;> simp at ha
    · have key := fun i (hi : i < l.length) => enc_fr e _ _ (h4 i hi)
      have hk : ∀ r ∈ l.map (enc e), r.length = e.size := fun r hr => by
        obtain ⟨x, _, rfl⟩ := List.mem_map.1 hr
        exact enc_length e x
      refine ⟨⟨rfl, fun i z a hz ha => ?_⟩, h3, fun x hx => ?_⟩
      · cases i with
        | zero =>
          simp [enc] at hz ha
          subst hz; subst ha
          have := FR.ofRows (Fr := fun id => id < h.length) (h := h) (k := e.size) (ex := false) (rows := l.map (enc e)) (id := id) (off := 0) (lb := l.length) (ex' := false) (row := row) (blk_lt h1) h1 (by simp; omega) (by simp) (fun h => by cases h) hk (fun i z hz => ?_)
          · simpa using this
          · -- a cell of the row
            by_cases hi : i < row.length
            · refine ⟨row[i], by rw [Nat.zero_add]; exact List.getElem?_eq_getElem hi, ?_⟩
              have hes : 0 < e.size := by
                cases hes : e.size with
                | zero => rw [hes] at h2; omega
                | succ n => omega
              have hj : i / e.size < l.length := by rw [Nat.div_lt_iff_lt_mul hes]; omega
              have hm : i % e.size < e.size := Nat.mod_lt _ hes
              have hdm : i / e.size * e.size + i % e.size = i := by rw [Nat.mul_comm]; exact Nat.div_add_mod i e.size
              refine (key (i / e.size) hj).1.2 (i % e.size) z _ ?_ ?_
              · have := zflat_at hk (j := i / e.size) (r := enc e l[i / e.size]) (by simp [hj])
                rw [← this, List.getElem?_take, if_pos hm, List.getElem?_drop, hdm]; exact hz
              · rw [List.getElem?_take, if_pos hm, List.getElem?_drop, hdm]; exact List.getElem?_eq_getElem hi
            · have := (List.getElem?_eq_some_iff.1 hz).1
              rw [zflat_len hk] at this
              simp at this; omega
        | succ i => simp at ha
      · obtain ⟨i, hi, rfl⟩ := List.mem_iff_getElem.1 hx
        exact (key i hi).2
def zArg (st : Bool) (cs : List ZV) : ZV := match st with | true => .agg cs | false => cs.headD .no
/-- The arguments, as ZM has them. -/
def ZArgs (Q : (t : Ty) → t.val → Prop) : List (Bool × Ty) → List ZV → Prop
  | [], zl => zl = []
  | p :: r, zl => ∃ x zl', zl = zArg p.1 (enc p.2 x) :: zl' ∧ TOk p.2 x ∧ Q p.2 x ∧ ZArgs Q r zl'
theorem zargs_of {Q : (t : Ty) → t.val → Prop} {w : Wd} (hF : w.Fr = fun id => id < w.h.length) : ∀ {tys : List (Bool × Ty)} {al : List AV}, tysOk tys = true → AArgs Q w.h tys al → ∃ zl, ZArgs Q tys zl ∧ ZRs w zl al
  | [], al, _, hh => by
    simp only [AArgs] at hh; subst hh
    exact ⟨[], rfl, .nil⟩
  | p :: r, al, hok, hh => by
    obtain ⟨cs, x, al', rfl, h1, h2, h3⟩ := hh
    simp only [tysOk, Bool.and_eq_true] at hok
    obtain ⟨zl, i1, i2⟩ := zargs_of hF hok.2 h3
    obtain ⟨f1, f2⟩ := enc_fr p.2 cs x h1
    refine ⟨_, ⟨x, zl, rfl, f2, h2, i1⟩, .cons ?_ i2⟩
    have f : ZRs w (enc p.2 x) cs := ⟨f1.1, fun i z a hz ha => .fr (by rw [hF]; exact f1.2 i z a hz ha)⟩
    unfold zArg aArg
    cases hst : p.1 with
    | true => exact f.toAgg
    | false =>
      have hl : (enc p.2 x).length = 1 := by
        rw [hst] at hok; simp at hok
        rw [enc_length]; exact hok.1
      have hl2 : cs.length = 1 := by rw [← f.1]; exact hl
      match he : enc p.2 x, cs, f, hl, hl2 with
      | [z], [a], f, _, _ => exact f.2 0 z a rfl rfl
/-- A law's walk, out of ZM's. -/
theorem zm_walk {P : Program} (hmix : P.follows .mixedOrders = true) {X : CallT} (hX : CallOk P X) {F : FuncId → Option AFunc} (hF : ∀ f af, F f = some af → cFunc P f = some af) {f : FuncId} {tys : List (Bool × Ty)} {Q : (t : Ty) → t.val → Prop} (hok : tysOk tys = true)
    (main : ∀ zl, ZArgs Q tys zl → ZC X F f zl (fun _ => true) [] fun z _ => z = .val (.bool true)) (W : World) (args : Array Value) (hargs : ArgsHoldQ Q W W.heap.size tys args.toList) :
    Calls P f args W fun e W' => e = .returned (.bool true) ∧ Below W.heap.size W W' := by
  refine am_walk hmix hX hF hok (fun h al ha => ?_) W args hargs
  have r : ZRel (fun i => decide (h.length ≤ i)) (fun _ => true) ⟨fun id => id < h.length, fun _ => none, [], h⟩ := by
    refine ⟨fun id hi => by simpa using hi, fun _ _ => rfl, fun id hi => hi, (fun i p hp => by cases hp), (fun i j p q hp => by cases hp), (fun i p hp => by cases hp), (fun i p hp => by cases hp), (fun i cs hb => by simp at hb), (fun i g k rows hb => by simp at hb)⟩
  obtain ⟨zl, h1, h2⟩ := zargs_of (w := ⟨fun id => id < h.length, fun _ => none, [], h⟩) rfl hok ha
  obtain ⟨n, v, h', e, z, w', rfl, _, _, hz, rfl⟩ := main zl h1 _ _ al r rfl h2
  exact ⟨n, _, by rw [hz.val_inv] at e; exact e⟩
/-- Closed facts are known. -/
theorem constX_some {l : List (FuncId × Bool)} {f : FuncId} {b : Bool} (h : l.lookup f = some b) : ∀ (args : List AV) (fl : Nat → Bool) (hp : Heap), args.length = ([] : List ZV).length → constX l f args fl hp = some (.val (.bool b), hp) := fun args fl hp ha => by
  have : args = [] := List.eq_nil_of_length_eq_zero ha
  subst this
  simp [constX, h]
theorem constX_none {l : List (FuncId × Bool)} {f : FuncId} {z : ZV} {zs : List ZV} : ∀ (args : List AV) (fl : Nat → Bool) (hp : Heap), args.length = (z :: zs).length → constX l f args fl hp = none := fun args fl hp ha => by
  cases args with
  | nil => simp at ha
  | cons a r => rfl
theorem constX_no0 {l : List (FuncId × Bool)} {f : FuncId} (h : l.lookup f = none) : ∀ (args : List AV) (fl : Nat → Bool) (hp : Heap), args.length = ([] : List ZV).length → constX l f args fl hp = none := fun args fl hp ha => by
  have : args = [] := List.eq_nil_of_length_eq_zero ha
  subst this
  simp [constX, h]
end Go.Proofs.Ytpmmiaadfnildaa
