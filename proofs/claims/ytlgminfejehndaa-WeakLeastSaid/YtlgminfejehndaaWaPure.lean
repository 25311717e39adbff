/-
  What is reached in a graph: plain.
-/
import Derived.Test.YtlgminfejehndaaWaCheck
namespace Go.Proofs.Ytlgminfejehndaa
open Go Go.RowKit
set_option linter.unusedVariables false
set_option linter.unusedSimpArgs false

def step (s : List Bool × List Int) (n : Int) : List Bool × List Int := if s.1.getD n.toNat false = true then s else (s.1.set n.toNat true, s.2 ++ [n])
def reachL (s : List Bool × List Int) (l : List Int) : List Bool × List Int := l.foldl step s
def unseen (l : List Bool) : Nat := l.countP (fun b => !b)

theorem unseen_set {l : List Bool} {i : Nat} (hi : i < l.length) (h : l.getD i false = false) : unseen (l.set i true) + 1 = unseen l := by
  induction l generalizing i with
  | nil => simp at hi
  | cons b l ih =>
    cases i with
    | zero =>
      simp at h
      subst h
      simp [unseen]
    | succ i =>
      have := ih (i := i) (by simpa using hi) (by simpa using h)
      simp only [unseen, List.set_cons_succ, List.countP_cons] at *
      omega
theorem step_length (s : List Bool × List Int) (n : Int) : (step s n).1.length = s.1.length := by
  unfold step; split <;> simp
theorem step_bound (s : List Bool × List Int) (n : Int) (h : n.toNat < s.1.length) : (step s n).2.length + unseen (step s n).1 = s.2.length + unseen s.1 := by
  unfold step
  split
  · rfl
  · rename_i hn
    have := unseen_set h (by simpa using hn)
    simp
    omega

def Sn (l : List Bool) (n : Nat) : Prop := l.getD n false = true
/-- A set that has what its things have. -/
def Cl (has : List (List Int)) (P : Nat → Prop) : Prop := ∀ n, P n → ∀ k ∈ has.getD n [], P k.toNat
theorem Sn_set {l : List Bool} {i n : Nat} (hi : i < l.length) : Sn (l.set i true) n ↔ Sn l n ∨ n = i := by
  unfold Sn
  by_cases h : n = i
  · subst h; simp [hi]
  · simp [List.getElem?_set_ne (fun e => h e.symm), h]
theorem step_seen {s : List Bool × List Int} {x : Int} (hx : x.toNat < s.1.length) (n : Nat) : Sn (step s x).1 n ↔ Sn s.1 n ∨ n = x.toNat := by
  unfold step
  split
  · rename_i h
    constructor
    · exact .inl
    · rintro (h' | rfl)
      · exact h'
      · exact h
  · exact Sn_set hx
theorem step_todo {s : List Bool × List Int} {x : Int} (y : Int) : y ∈ (step s x).2 ↔ y ∈ s.2 ∨ (y = x ∧ ¬ Sn s.1 x.toNat) := by
  unfold step
  split
  · rename_i h
    constructor
    · exact .inl
    · rintro (h' | ⟨rfl, h'⟩)
      · exact h'
      · exact absurd h h'
  · rename_i h
    simp only [List.mem_append, List.mem_singleton]
    constructor
    · rintro (h' | rfl)
      · exact .inl h'
      · exact .inr ⟨rfl, h⟩
    · rintro (h' | ⟨rfl, _⟩)
      · exact .inl h'
      · exact .inr rfl
theorem reachL_length : ∀ (l : List Int) (s : List Bool × List Int), (reachL s l).1.length = s.1.length
  | [], s => rfl
  | x :: l, s => by
    have := reachL_length l (step s x)
    unfold reachL at *
    rw [List.foldl_cons, this, step_length]
theorem reachL_seen : ∀ (l : List Int) (s : List Bool × List Int), (∀ x ∈ l, x.toNat < s.1.length) → ∀ n, Sn (reachL s l).1 n ↔ Sn s.1 n ∨ ∃ x ∈ l, x.toNat = n
  | [], s, _, n => by simp [reachL]
  | x :: l, s, h, n => by
    have := reachL_seen l (step s x) (fun y hy => by rw [step_length]; exact h y (by simp [hy])) n
    unfold reachL at *
    rw [List.foldl_cons, this, step_seen (h x (by simp))]
    simp only [List.mem_cons, exists_eq_or_imp]
    constructor
    · rintro ((h1 | h1) | h1)
      · exact .inl h1
      · exact .inr (.inl h1.symm)
      · exact .inr (.inr h1)
    · rintro (h1 | h1 | h1)
      · exact .inl (.inl h1)
      · exact .inl (.inr h1.symm)
      · exact .inr h1
theorem reachL_todo : ∀ (l : List Int) (s : List Bool × List Int), (∀ x ∈ l, x.toNat < s.1.length) → (∀ y, y ∈ s.2 → y ∈ (reachL s l).2) ∧ (∀ y ∈ (reachL s l).2, y ∈ s.2 ∨ y ∈ l) ∧
    (∀ y ∈ l, ¬ Sn s.1 y.toNat → ∃ z ∈ (reachL s l).2, z.toNat = y.toNat)
  | [], s, _ => by simp [reachL]
  | x :: l, s, h => by
    obtain ⟨h1, h2, h3⟩ := reachL_todo l (step s x) (fun y hy => by rw [step_length]; exact h y (by simp [hy]))
    unfold reachL at *
    rw [List.foldl_cons]
    refine ⟨fun y hy => h1 y ((step_todo y).2 (.inl hy)), fun y hy => ?_, fun y hy hn => ?_⟩
    · rcases h2 y hy with h4 | h4
      · rcases (step_todo y).1 h4 with h5 | ⟨rfl, _⟩
        · exact .inl h5
        · exact .inr (by simp)
      · exact .inr (by simp [h4])
    · by_cases hx : y.toNat = x.toNat
      · by_cases hyx : y = x
        · subst hyx
          exact ⟨y, h1 y ((step_todo y).2 (.inr ⟨rfl, hn⟩)), rfl⟩
        · exact ⟨x, h1 x ((step_todo x).2 (.inr ⟨rfl, by rw [← hx]; exact hn⟩)), hx.symm⟩
      · rcases List.mem_cons.1 hy with rfl | hy
        · exact absurd rfl hx
        · refine h3 y hy ?_
          rw [step_seen (h x (by simp))]
          rintro (h4 | h4)
          · exact hn h4
          · exact hx h4

/-- What stays true while 'all' goes round: S0 is what was seen at its start. -/
structure AInv (has : List (List Int)) (S0 : Nat → Prop) (s : List Bool × List Int) : Prop where
  sup : ∀ n, S0 n → Sn s.1 n
  todo : ∀ x ∈ s.2, 0 ≤ x ∧ x < s.1.length ∧ Sn s.1 x.toNat
  closed : ∀ n, Sn s.1 n → (∃ x ∈ s.2, x.toNat = n) ∨ ∀ k ∈ has.getD n [], Sn s.1 k.toNat
  least : ∀ P, Cl has P → (∀ n, S0 n → P n) → ∀ n, Sn s.1 n → P n

def okHas (has : List (List Int)) (N : Nat) : Prop := has.length = N ∧ ∀ l ∈ has, ∀ x ∈ l, 0 ≤ x ∧ x < N
theorem okHas.at {has : List (List Int)} {N : Nat} (h : okHas has N) (n : Nat) : ∀ x ∈ has.getD n [], 0 ≤ x ∧ x < N := by
  intro x hx
  by_cases hn : n < has.length
  · rw [List.getD_eq_getElem?_getD, List.getElem?_eq_getElem hn] at hx
    exact h.2 _ (List.getElem_mem hn) x hx
  · rw [List.getD_eq_getElem?_getD, List.getElem?_eq_none (by omega)] at hx
    simp at hx

theorem AInv.next {has : List (List Int)} {S0 : Nat → Prop} {sb : List Bool} {td : List Int} {x : Int} (hh : okHas has sb.length) (h : AInv has S0 (sb, td ++ [x])) : AInv has S0 (reachL (sb, td) (has.getD x.toNat [])) := by
  have hr : ∀ y ∈ has.getD x.toNat [], y.toNat < (sb, td).1.length := fun y hy => by have := hh.at _ y hy; simp; omega
  have hs := reachL_seen (has.getD x.toNat []) (sb, td) hr
  obtain ⟨h1, h2, h3⟩ := reachL_todo (has.getD x.toNat []) (sb, td) hr
  have hxs := h.todo x (by simp)
  refine ⟨fun n hn => (hs n).2 (.inl (h.sup n hn)), fun y hy => ?_, fun n hn => ?_, fun P hP h0 n hn => ?_⟩
  · rw [reachL_length]
    rcases h2 y hy with h4 | h4
    · have := h.todo y (by simp at h4 ⊢; exact .inl h4)
      exact ⟨this.1, this.2.1, (hs _).2 (.inl this.2.2)⟩
    · have := hh.at _ y h4
      exact ⟨this.1, this.2, (hs _).2 (.inr ⟨y, h4, rfl⟩)⟩
  · rcases (hs n).1 hn with h4 | ⟨y, hy, rfl⟩
    · rcases h.closed n h4 with ⟨z, hz, rfl⟩ | h5
      · simp only [List.mem_append, List.mem_singleton] at hz
        rcases hz with hz | rfl
        · exact .inl ⟨z, h1 z hz, rfl⟩
        · exact .inr fun k hk => (hs _).2 (.inr ⟨k, hk, rfl⟩)
      · exact .inr fun k hk => (hs _).2 (.inl (h5 k hk))
    · by_cases hy2 : Sn sb y.toNat
      · rcases h.closed _ hy2 with ⟨z, hz, hzy⟩ | h5
        · simp only [List.mem_append, List.mem_singleton] at hz
          rcases hz with hz | rfl
          · exact .inl ⟨z, h1 z hz, hzy⟩
          · right
            rw [← hzy]
            exact fun k hk => (hs _).2 (.inr ⟨k, hk, rfl⟩)
        · exact .inr fun k hk => (hs _).2 (.inl (h5 k hk))
      · exact .inl (h3 y hy hy2)
  · rcases (hs n).1 hn with h4 | ⟨y, hy, rfl⟩
    · exact h.least P hP h0 n h4
    · exact hP x.toNat (h.least P hP h0 _ hxs.2.2) y hy

theorem reachL_bound : ∀ (l : List Int) (s : List Bool × List Int), (∀ x ∈ l, x.toNat < s.1.length) → (reachL s l).2.length + unseen (reachL s l).1 = s.2.length + unseen s.1
  | [], s, _ => rfl
  | x :: l, s, h => by
    have := reachL_bound l (step s x) (fun y hy => by rw [step_length]; exact h y (by simp [hy]))
    unfold reachL at *
    rw [List.foldl_cons, this, step_bound _ _ (h x (by simp))]

theorem reachL_grow : ∀ (l : List Int) (s : List Bool × List Int), s.2.length ≤ (reachL s l).2.length
  | [], s => Nat.le_refl _
  | x :: l, s => by
    have := reachL_grow l (step s x)
    have h : s.2.length ≤ (step s x).2.length := by unfold step; split <;> simp
    unfold reachL at *
    rw [List.foldl_cons]; omega

def riseTo (sb : List Bool) (k : Nat) : List Int := ((List.range k).filter (fun i => sb.getD i false)).map Int.ofNat
def rising (sb : List Bool) : List Int := riseTo sb sb.length
theorem riseTo_succ (sb : List Bool) (k : Nat) : riseTo sb (k + 1) = if sb.getD k false = true then riseTo sb k ++ [(k : Int)] else riseTo sb k := by
  unfold riseTo
  rw [List.range_succ, List.filter_append, List.map_append]
  split
  · rename_i h; rw [List.filter_cons_of_pos (p := fun i => sb.getD i false) h]; rfl
  · rename_i h; rw [List.filter_cons_of_neg (p := fun i => sb.getD i false) h]; simp
theorem riseTo_length (sb : List Bool) (k : Nat) : (riseTo sb k).length ≤ k := by
  unfold riseTo
  rw [List.length_map]
  exact Nat.le_trans (List.length_filter_le _ _) (by simp)

/-- The least set that has these, and what its things have, and what its pairs want. -/
def Liv (has : List (List Int)) (ps : List (Int × Int)) (l : List Int) (n : Nat) : Prop :=
  ∀ P : Nat → Prop, Cl has P → (∀ p ∈ ps, P p.1.toNat → P p.2.toNat) → (∀ x ∈ l, P x.toNat) → P n

theorem Liv.cl (has : List (List Int)) (ps : List (Int × Int)) (l : List Int) : Cl has (Liv has ps l) := fun n hn k hk P h1 h2 h3 => h1 n (hn P h1 h2 h3) k hk
theorem Liv.pair {has : List (List Int)} {ps : List (Int × Int)} {l : List Int} {p : Int × Int} (hp : p ∈ ps) (h : Liv has ps l p.1.toNat) : Liv has ps l p.2.toNat := fun P h1 h2 h3 => h2 p hp (h P h1 h2 h3)
theorem Liv.base {has : List (List Int)} {ps : List (Int × Int)} {l : List Int} {x : Int} (hx : x ∈ l) : Liv has ps l x.toNat := fun P h1 h2 h3 => h3 x hx

/-- A state of the reacher whose seen things lie in L. -/
structure GInv (has : List (List Int)) (L : Nat → Prop) (s : List Bool × List Int) : Prop where
  todo : ∀ x ∈ s.2, 0 ≤ x ∧ x < s.1.length ∧ Sn s.1 x.toNat
  closed : ∀ n, Sn s.1 n → (∃ x ∈ s.2, x.toNat = n) ∨ ∀ k ∈ has.getD n [], Sn s.1 k.toNat
  sub : ∀ n, Sn s.1 n → L n
theorem GInv.toA {has : List (List Int)} {L : Nat → Prop} {s : List Bool × List Int} (h : GInv has L s) : AInv has (Sn s.1) s :=
  ⟨fun _ h => h, h.todo, h.closed, fun _ _ h0 n hn => h0 n hn⟩
theorem GInv.ofA {has : List (List Int)} {L S0 : Nat → Prop} {s : List Bool × List Int} (h : AInv has S0 s) (hL : Cl has L) (h0 : ∀ n, S0 n → L n) : GInv has L s :=
  ⟨h.todo, h.closed, fun n hn => h.least L hL h0 n hn⟩
theorem GInv.reach {has : List (List Int)} {L : Nat → Prop} {s : List Bool × List Int} {l : List Int} (h : GInv has L s) (hl : ∀ x ∈ l, (0 ≤ x ∧ x < (s.1.length : Int)) ∧ L x.toNat) : GInv has L (reachL s l) := by
  have hr : ∀ y ∈ l, y.toNat < s.1.length := fun y hy => by have := hl y hy; omega
  have hs := reachL_seen l s hr
  obtain ⟨h1, h2, h3⟩ := reachL_todo l s hr
  refine ⟨fun y hy => ?_, fun n hn => ?_, fun n hn => ?_⟩
  · rw [reachL_length]
    rcases h2 y hy with h4 | h4
    · have := h.todo y h4
      exact ⟨this.1, this.2.1, (hs _).2 (.inl this.2.2)⟩
    · have := hl y h4
      exact ⟨this.1.1, this.1.2, (hs _).2 (.inr ⟨y, h4, rfl⟩)⟩
  · rcases (hs n).1 hn with h4 | ⟨y, hy, rfl⟩
    · rcases h.closed n h4 with ⟨z, hz, rfl⟩ | h5
      · exact .inl ⟨z, h1 z hz, rfl⟩
      · exact .inr fun k hk => (hs _).2 (.inl (h5 k hk))
    · by_cases hy2 : Sn s.1 y.toNat
      · rcases h.closed _ hy2 with ⟨z, hz, hzy⟩ | h5
        · exact .inl ⟨z, h1 z hz, hzy⟩
        · exact .inr fun k hk => (hs _).2 (.inl (h5 k hk))
      · exact .inl (h3 y hy hy2)
  · rcases (hs n).1 hn with h4 | ⟨y, hy, rfl⟩
    · exact h.sub n h4
    · exact (hl y hy).2
theorem Sn_falses (N n : Nat) : ¬ Sn (List.replicate N false) n := by
  unfold Sn; rw [List.getD_eq_getElem?_getD, List.getElem?_replicate]; split <;> simp
theorem GInv.start (has : List (List Int)) (L : Nat → Prop) (N : Nat) : GInv has L (List.replicate N false, []) :=
  ⟨fun x hx => absurd hx (by simp), fun n hn => absurd hn (Sn_falses N n), fun n hn => absurd hn (Sn_falses N n)⟩

/-- Behind 'all': roots are in, it is closed, no greater. -/
structure LInv (has : List (List Int)) (ps : List (Int × Int)) (l : List Int) (sb : List Bool) : Prop where
  base : ∀ x ∈ l, Sn sb x.toNat
  clo : Cl has (Sn sb)
  sub : ∀ n, Sn sb n → Liv has ps l n
theorem LInv.ofA {has : List (List Int)} {ps : List (Int × Int)} {l : List Int} {S0 : Nat → Prop} {sb : List Bool} (h : AInv has S0 (sb, [])) (h0 : ∀ n, S0 n → Liv has ps l n) (hb : ∀ x ∈ l, S0 x.toNat) : LInv has ps l sb :=
  ⟨fun x hx => h.sup _ (hb x hx), fun n hn => by
    rcases h.closed n hn with ⟨x, hx, _⟩ | h1
    · cases hx
    · exact h1, fun n hn => h.least _ (Liv.cl has ps l) h0 n hn⟩
theorem LInv.iff {has : List (List Int)} {ps : List (Int × Int)} {l : List Int} {sb : List Bool} (h : LInv has ps l sb) (hp : ∀ p ∈ ps, Sn sb p.1.toNat → Sn sb p.2.toNat) (n : Nat) : Sn sb n ↔ Liv has ps l n :=
  ⟨h.sub n, fun hn => hn (Sn sb) h.clo hp h.base⟩

theorem replicate_unseen (N : Nat) : unseen (List.replicate N false) = N := by simp [unseen, List.countP_replicate]

def pairIn (N : Nat) (p : Int × Int) : Prop := (0 ≤ p.1 ∧ p.1 < (N : Int)) ∧ (0 ≤ p.2 ∧ p.2 < (N : Int))
instance (N : Nat) (p : Int × Int) : Decidable (pairIn N p) := inferInstanceAs (Decidable (_ ∧ _))
def liveE (has : List (List Int)) (roots : List Int) (ps : List (Int × Int)) : Int :=
  if checkE has roots ≠ 0 then checkE has roots else if ps.length > 50 then 2 else if ∀ p ∈ ps, pairIn has.length p then 0 else 3

theorem checkE_zero {has : List (List Int)} {roots : List Int} (h : checkE has roots = 0) : has.length ≤ 100 ∧ roots.length ≤ 100 ∧ (∀ l ∈ has, l.length ≤ 10) ∧ okHas has has.length ∧ ∀ x ∈ roots, 0 ≤ x ∧ x < (has.length : Int) := by
  unfold checkE at h
  split at h
  · cases h
  · rename_i h1
    split at h
    · cases h
    · rename_i h2
      split at h
      · rename_i h3
        refine ⟨by omega, by omega, fun l hl => ?_, ⟨rfl, fun l hl => h3 l (by simp [hl])⟩, h3 roots (by simp)⟩
        apply Decidable.byContradiction
        intro hn
        exact h2 ⟨l, hl, by omega⟩
      · cases h

theorem step_unseen_le (s : List Bool × List Int) (x : Int) (hx : x.toNat < s.1.length) : unseen (step s x).1 ≤ unseen s.1 := by
  have h1 := step_bound s x hx
  have : s.2.length ≤ (step s x).2.length := by unfold step; split <;> simp
  omega
theorem step_unseen_lt (s : List Bool × List Int) (x : Int) (hx : x.toNat < s.1.length) (hn : s.1.getD x.toNat false = false) : unseen (step s x).1 < unseen s.1 := by
  have := unseen_set hx hn
  unfold step
  rw [if_neg (by rw [hn]; simp)]
  show unseen (s.1.set x.toNat true) < _
  omega
theorem unseen_le {sb sb' : List Bool} (hl : sb'.length = sb.length) (h : ∀ n, Sn sb n → Sn sb' n) : unseen sb' ≤ unseen sb := by
  unfold unseen
  induction sb generalizing sb' with
  | nil => cases sb' with
    | nil => simp
    | cons b l => simp at hl
  | cons b l ih => cases sb' with
    | nil => simp at hl
    | cons b' l' =>
      have h0 := h 0
      have := ih (sb' := l') (by simpa using hl) (fun n hn => by have := h (n + 1); simp only [Sn, List.getD_cons_succ] at this hn ⊢; exact this hn)
      simp only [Sn, List.getD_cons_zero] at h0
      simp only [List.countP_cons]
      cases b <;> cases b' <;> simp_all <;> omega

theorem pairs_next {ps : List (Int × Int)} {k : Nat} (hlt : k < ps.length) {x : Int × Int} (hx : x = ps[k]) {sb : List Bool} {u : List Bool × List Int} {mo : Bool} (h : if mo = true then unseen u.1 < unseen sb else u = (sb, []) ∧ ∀ p ∈ ps.take k, Sn sb p.1.toNat → Sn sb p.2.toNat)
    (hp : Sn u.1 x.1.toNat → Sn u.1 x.2.toNat) : if mo = true then unseen u.1 < unseen sb else u = (sb, []) ∧ ∀ p ∈ ps.take (k + 1), Sn sb p.1.toNat → Sn sb p.2.toNat := by
  cases mo with
  | true => exact h
  | false =>
    simp only [Bool.false_eq_true, if_false] at h ⊢
    obtain ⟨rfl, h⟩ := h
    refine ⟨rfl, ?_⟩
    rw [List.take_succ_eq_append_getElem hlt]
    intro p hp2
    simp only [List.mem_append, List.mem_singleton] at hp2
    rcases hp2 with hp2 | rfl
    · exact h p hp2
    · rw [← hx]; exact hp

open Classical in
/-- Which things are live. -/
noncomputable def liveSb (has : List (List Int)) (ps : List (Int × Int)) (l : List Int) : List Bool := (List.range has.length).map (fun n => decide (Liv has ps l n))
theorem liveSb_length (has : List (List Int)) (ps : List (Int × Int)) (l : List Int) : (liveSb has ps l).length = has.length := by simp [liveSb]
theorem Sn_liveSb (has : List (List Int)) (ps : List (Int × Int)) (l : List Int) (n : Nat) : Sn (liveSb has ps l) n ↔ n < has.length ∧ Liv has ps l n := by
  unfold Sn liveSb
  by_cases h : n < has.length
  · simp [h]
  · simp [h]
theorem Sn_lt {sb : List Bool} {n : Nat} (h : Sn sb n) : n < sb.length := by
  apply Decidable.byContradiction
  intro hn
  unfold Sn at h
  rw [List.getD_eq_getElem?_getD, List.getElem?_eq_none (by omega)] at h
  cases h
theorem eq_liveSb {has : List (List Int)} {ps : List (Int × Int)} {l : List Int} {sb : List Bool} (hl : sb.length = has.length) (h : ∀ n, Sn sb n ↔ Liv has ps l n) : sb = liveSb has ps l := by
  apply List.ext_getElem
  · rw [liveSb_length, hl]
  · intro i h1 h2
    have a1 : Sn sb i ↔ sb[i] = true := by unfold Sn; simp [h1]
    have a2 : Sn (liveSb has ps l) i ↔ (liveSb has ps l)[i] = true := by
      unfold Sn
      rw [List.getD_eq_getElem?_getD, List.getElem?_eq_getElem h2]; simp
    have a3 := Sn_liveSb has ps l i
    have a4 := h i
    have : (sb[i] = true) ↔ ((liveSb has ps l)[i] = true) := by
      rw [← a1, ← a2, a3, a4]
      constructor
      · intro h5; exact ⟨by omega, h5⟩
      · intro h5; exact h5.2
    cases hA : sb[i] <;> cases hB : (liveSb has ps l)[i] <;> simp_all
theorem mem_rising {sb : List Bool} {k : Int} : k ∈ rising sb ↔ 0 ≤ k ∧ Sn sb k.toNat := by
  unfold rising riseTo
  simp only [List.mem_map, List.mem_filter, List.mem_range]
  constructor
  · rintro ⟨n, ⟨hn, hs⟩, rfl⟩
    exact ⟨by simp, by simpa [Sn] using hs⟩
  · rintro ⟨h1, h2⟩
    exact ⟨k.toNat, ⟨Sn_lt h2, h2⟩, by simp; omega⟩
noncomputable def liveL (has : List (List Int)) (ps : List (Int × Int)) (l : List Int) : List Int := rising (liveSb has ps l)
theorem mem_liveL {has : List (List Int)} {ps : List (Int × Int)} {l : List Int} {k : Int} : k ∈ liveL has ps l ↔ 0 ≤ k ∧ k < (has.length : Int) ∧ Liv has ps l k.toNat := by
  unfold liveL
  rw [mem_rising, Sn_liveSb]
  constructor
  · rintro ⟨h1, h2, h3⟩; exact ⟨h1, by omega, h3⟩
  · rintro ⟨h1, h2, h3⟩; exact ⟨h1, by omega, h3⟩
theorem liveL_length (has : List (List Int)) (ps : List (Int × Int)) (l : List Int) : (liveL has ps l).length ≤ has.length := by
  have := riseTo_length (liveSb has ps l) (liveSb has ps l).length
  rw [liveSb_length] at this
  unfold liveL rising
  rw [liveSb_length]; exact this

theorem Liv.mono {has : List (List Int)} {ps ps' : List (Int × Int)} {l l' : List Int} (hp : ∀ p ∈ ps, p ∈ ps') (hl : ∀ x ∈ l, x ∈ l') {n : Nat} (h : Liv has ps l n) : Liv has ps' l' n :=
  fun P h1 h2 h3 => h P h1 (fun p hp' => h2 p (hp p hp')) (fun x hx => h3 x (hl x hx))
theorem more_root {has : List (List Int)} {ps : List (Int × Int)} {l : List Int} {n k : Int} (h : k ∈ liveL has ps l) : k ∈ liveL has ps (l ++ [n]) := by
  rw [mem_liveL] at h ⊢
  exact ⟨h.1, h.2.1, h.2.2.mono (fun _ h => h) (fun x hx => by simp [hx])⟩
theorem more_pair {has : List (List Int)} {ps : List (Int × Int)} {l : List Int} {p : Int × Int} {k : Int} (h : k ∈ liveL has ps l) : k ∈ liveL has (ps ++ [p]) l := by
  rw [mem_liveL] at h ⊢
  exact ⟨h.1, h.2.1, h.2.2.mono (fun x hx => by simp [hx]) (fun _ h => h)⟩
theorem Liv.lt {has : List (List Int)} {ps : List (Int × Int)} {l : List Int} {n : Nat} (ho : okHas has has.length) (hp : ∀ p ∈ ps, pairIn has.length p) (hl : ∀ x ∈ l, 0 ≤ x ∧ x < (has.length : Int)) (h : Liv has ps l n) : n < has.length :=
  h (fun n => n < has.length) (fun n _ k hk => by have := ho.at n k hk; omega) (fun p hp' _ => by have := (hp p hp').2; omega) (fun x hx => by have := hl x hx; omega)
theorem liveE_zero {has : List (List Int)} {roots : List Int} {ps : List (Int × Int)} (h : liveE has roots ps = 0) : checkE has roots = 0 ∧ ps.length ≤ 50 ∧ ∀ p ∈ ps, pairIn has.length p := by
  unfold liveE at h
  split at h
  · rename_i h1; exact absurd h h1
  · rename_i h1
    split at h
    · cases h
    · rename_i h2
      split at h
      · rename_i h3; exact ⟨Decidable.byContradiction h1, by omega, h3⟩
      · cases h
theorem same_pair {has : List (List Int)} {ps : List (Int × Int)} {l : List Int} {p : Int × Int} (hp : pairIn has.length p) (hE : liveE has l ps = 0) (h : p.1 ∉ liveL has ps l) : liveL has (ps ++ [p]) l = liveL has ps l := by
  have : liveSb has (ps ++ [p]) l = liveSb has ps l := by
    refine eq_liveSb (liveSb_length _ _ _) fun n => ?_
    rw [Sn_liveSb]
    constructor
    · rintro ⟨_, h1⟩
      refine h1 (Liv has ps l) (Liv.cl has ps l) ?_ (fun x hx => Liv.base hx)
      intro q hq hq1
      simp only [List.mem_append, List.mem_singleton] at hq
      rcases hq with hq | rfl
      · exact Liv.pair hq hq1
      · exact absurd (mem_liveL.2 ⟨hp.1.1, hp.1.2, hq1⟩) h
    · intro h1
      obtain ⟨e1, _, e3⟩ := liveE_zero hE
      obtain ⟨_, _, _, e4, e5⟩ := checkE_zero e1
      exact ⟨h1.lt e4 e3 e5, h1.mono (fun x hx => by simp [hx]) (fun _ h => h)⟩
  unfold liveL
  rw [this]


end Go.Proofs.Ytlgminfejehndaa
