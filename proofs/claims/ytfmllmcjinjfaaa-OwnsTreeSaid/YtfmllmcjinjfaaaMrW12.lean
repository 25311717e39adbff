/-
  Owns: what the walk does to the tree's state.
-/
import Derived.Lib.Hide
import Derived.Test.YtfmllmcjinjfaaaMrW11
import Derived.Test.YtfmllmcjinjfaaaMrW8
namespace Go.Proofs.Ytfmllmcjinjfaaa
open Go Go.RowKit
set_option linter.unusedVariables false
set_option linter.unusedSimpArgs false
variable {L : Nat → Bool} {H : ZH} {p pb ob go fb db B : Nat} {zh zr : ZV} {ef : Bool} {PL PL2 OR DM : List Int} {FR : List Fr}
def FrW (B : Nat) (H H' : ZH) : Prop := H.length ≤ H'.length ∧ ∀ i, i < B → H'[i]? = H[i]?
theorem FrW.rfl' : FrW B H H := ⟨Nat.le_refl _, fun _ _ => rfl⟩
theorem FrW.trans {H1 H2 : ZH} (a : FrW B H H1) (b : FrW B H1 H2) : FrW B H H2 := ⟨Nat.le_trans a.1 b.1, fun i h => (b.2 i h).trans (a.2 i h)⟩
theorem FrW.set {i : Nat} (h : B ≤ i) {C : ZB} : FrW B H (H.set i C) := ⟨by simp, fun j hj => List.getElem?_set_ne (by omega)⟩
theorem FrW.ext {C : ZB} (h : B ≤ H.length) : FrW B H (H ++ [C]) := ⟨by simp, fun j hj => List.getElem?_append_left (by omega)⟩
structure TrB (B : Nat) (p pb ob fb db : Nat) (FR : List Fr) : Prop where
  bp : B ≤ p
  bpb : B ≤ pb
  bob : B ≤ ob
  bfb : B ≤ fb
  bdb : B ≤ db
  bfr : ∀ x ∈ FR, ∀ j g, x.1 = some (j, g) → B ≤ j
theorem TrA.setP (A : TrA H p zh zr pb ob go fb db ef PL OR FR DM) (hl : PL2.length = PL.length) : TrA (H.set pb (.grow 0 1 (PL2.map eI))) p zh zr pb ob go fb db ef PL2 OR FR DM := by
  obtain ⟨m1, -, -, m4, m5, -⟩ := A.ne
  have n4 : pb ≠ p := fun e => by subst e; have := A.box; rw [A.pl] at this; cases this
  have hdb : pb < H.length := (List.getElem?_eq_some_iff.1 A.pl).1
  refine ⟨?_, ?_, ?_, ?_, ?_, ?_, A.ne, A.fne, A.fin⟩
  · rw [List.getElem?_set_ne n4, A.box, hl]
  · rw [List.getElem?_set_self hdb]
  · rw [List.getElem?_set_ne (Ne.symm m1), A.od]
  · rw [List.getElem?_set_ne m4, A.fr]
  · rw [List.getElem?_set_ne m5, A.dm]
  · intro x hx
    have h := A.fl x hx
    have h2 := A.fne x hx
    rcases x with ⟨_ | ⟨j, g⟩, l⟩
    · exact h
    · simp only at h ⊢
      rw [List.getElem?_set_ne (Ne.symm (h2 j g rfl).2.1), h]
theorem TrA.push (A : TrA H p zh zr pb ob go fb db ef PL OR FR DM) (k : Int) : TrA ((H.set ob (.grow (go + 1) 1 ((OR ++ [k]).map eI))).set p (.box [zh, zr, .own pb 0 0 PL.length false, .own ob (go + 1) 0 (OR.length + 1) false, .own fb 0 0 FR.length ef, .own db 0 0 DM.length false])) p zh zr pb ob (go + 1) fb db ef PL (OR ++ [k]) FR DM := by
  obtain ⟨m1, m2, m3, -, -, -⟩ := A.ne
  have p1 : p ≠ ob := fun e => by subst e; have := A.box; rw [A.od] at this; cases this
  have p2 : p ≠ pb := fun e => by subst e; have := A.box; rw [A.pl] at this; cases this
  have p3 : p ≠ fb := fun e => by subst e; have := A.box; rw [A.fr] at this; cases this
  have p4 : p ≠ db := fun e => by subst e; have := A.box; rw [A.dm] at this; cases this
  have ho : ob < H.length := (List.getElem?_eq_some_iff.1 A.od).1
  have hp : p < H.length := (List.getElem?_eq_some_iff.1 A.box).1
  refine ⟨?_, ?_, ?_, ?_, ?_, ?_, A.ne, A.fne, A.fin⟩
  · rw [List.getElem?_set_self (by simpa using hp), List.length_append]; rfl
  · rw [List.getElem?_set_ne p2, List.getElem?_set_ne m1, A.pl]
  · rw [List.getElem?_set_ne p1, List.getElem?_set_self ho]
  · rw [List.getElem?_set_ne p3, List.getElem?_set_ne m2, A.fr]
  · rw [List.getElem?_set_ne p4, List.getElem?_set_ne m3, A.dm]
  · intro x hx
    have h := A.fl x hx
    have h2 := A.fne x hx
    rcases x with ⟨_ | ⟨j, g⟩, l⟩
    · exact h
    · simp only at h ⊢
      have p5 : p ≠ j := fun e => by subst e; have := A.box; rw [h] at this; cases this
      rw [List.getElem?_set_ne p5, List.getElem?_set_ne (Ne.symm (h2 j g rfl).1), h]
theorem TrA.app (A : TrA H p zh zr pb ob go fb db ef PL OR FR DM) (Bd : TrB B p pb ob fb db FR) (hL : ∀ i, B ≤ i → i ≠ p → L i = true) {t : Nat} {x : Fr} (hx : FR[t]? = some x) (hxl : x.2.length ≤ 1000000) (k : Int) :
    ∃ x' H2, x'.2 = x.2 ++ [k] ∧ appZ L H 1 8 [[Z64 k]] (frZ x) = some (frZ x', H2) ∧ H2[p]? = H[p]? ∧ H2[fb]? = H[fb]? ∧ TrA (H2.set fb (.grow 0 1 ((FR.set t x').map fun x => [frZ x]))) p zh zr pb ob go fb db ef PL OR (FR.set t x') DM ∧ TrB B p pb ob fb db (FR.set t x') ∧ FrW B H (H2.set fb (.grow 0 1 ((FR.set t x').map fun x => [frZ x]))) := by
  have ht : t < FR.length := (List.getElem?_eq_some_iff.1 hx).1
  have hxm := List.mem_of_getElem? hx
  obtain ⟨m1, m2, m3, m4, m5, m6⟩ := A.ne
  have p3 : fb ≠ p := fun e => by subst e; have := A.box; rw [A.fr] at this; cases this
  have hp : p < H.length := (List.getElem?_eq_some_iff.1 A.box).1
  have hpb : pb < H.length := (List.getElem?_eq_some_iff.1 A.pl).1
  have hob : ob < H.length := (List.getElem?_eq_some_iff.1 A.od).1
  have hfb : fb < H.length := (List.getElem?_eq_some_iff.1 A.fr).1
  have hdb : db < H.length := (List.getElem?_eq_some_iff.1 A.dm).1
  have hfl := A.fl x hxm
  have lt : ∀ y ∈ FR, ∀ j g, y.1 = some (j, g) → j < H.length := fun y hy j g e => by
    have := A.fl y hy
    rw [e] at this
    exact (List.getElem?_eq_some_iff.1 this).1
  have mem : ∀ {x' y : Fr}, y ∈ FR.set t x' → y = x' ∨ ∃ a : Nat, a ≠ t ∧ FR[a]? = some y := fun {x' y} hy => by
    obtain ⟨a, ha⟩ := List.mem_iff_getElem?.1 hy
    by_cases e : t = a
    · subst e; rw [List.getElem?_set_self ht] at ha; injection ha with ha; exact .inl ha.symm
    · rw [List.getElem?_set_ne e] at ha; exact .inr ⟨a, Ne.symm e, ha⟩
  rcases x with ⟨_ | ⟨j, g⟩, l⟩
  · simp only at hfl
    subst hfl
    have hb : B ≤ H.length := by have := Bd.bp; omega
    refine ⟨(some (H.length, 0), [k]), H ++ [.grow 0 1 [[Z64 k]]], rfl, ?_, List.getElem?_append_left hp, List.getElem?_append_left hfb, ⟨?_, ?_, ?_, ?_, ?_, ?_, A.ne, ?_, ?_⟩, ⟨Bd.bp, Bd.bpb, Bd.bob, Bd.bfb, Bd.bdb, ?_⟩, (FrW.ext hb).trans (FrW.set Bd.bfb)⟩
    · show appZ L H 1 8 [[Z64 k]] .nil = _
      rw [app_nil]
      exact ⟨by unfold reach; simp, rfl, rfl⟩
    · rw [List.getElem?_set_ne p3, List.getElem?_append_left hp, A.box, List.length_set]
    · rw [List.getElem?_set_ne (Ne.symm m4), List.getElem?_append_left hpb, A.pl]
    · rw [List.getElem?_set_ne (Ne.symm m2), List.getElem?_append_left hob, A.od]
    · rw [List.getElem?_set_self (by simp; omega)]
    · rw [List.getElem?_set_ne m6, List.getElem?_append_left hdb, A.dm]
    · intro y hy
      rcases mem hy with rfl | ⟨a, ha, hy⟩
      · simp only
        rw [List.getElem?_set_ne (by omega), List.getElem?_append_right (Nat.le_refl _), Nat.sub_self]; rfl
      · have h := A.fl y (List.mem_of_getElem? hy)
        have h2 := A.fne y (List.mem_of_getElem? hy)
        have h3 := lt y (List.mem_of_getElem? hy)
        rcases y with ⟨_ | ⟨j, g⟩, l⟩
        · exact h
        · simp only at h ⊢
          rw [List.getElem?_set_ne (Ne.symm (h2 j g rfl).2.2.1), List.getElem?_append_left (h3 j g rfl), h]
    · intro y hy j g e
      rcases mem hy with rfl | ⟨a, ha, hy⟩
      · injection e with e; injection e with e1 e2
        subst e1
        exact ⟨by omega, by omega, by omega, by omega⟩
      · exact A.fne y (List.mem_of_getElem? hy) j g e
    · intro a b x y j g1 g2 ha hb e1 e2
      have hone : ∀ (a : Nat) z g, (FR.set t (some (H.length, 0), [k]))[a]? = some z → z.1 = some (j, g) → (a = t ∧ j = H.length) ∨ (a ≠ t ∧ FR[a]? = some z ∧ j < H.length) := fun a z g ha e => by
        by_cases q : t = a
        · subst q; rw [List.getElem?_set_self ht] at ha; injection ha with ha; subst ha
          injection e with e; injection e with e1 e2; exact .inl ⟨rfl, e1.symm⟩
        · rw [List.getElem?_set_ne q] at ha; exact .inr ⟨Ne.symm q, ha, lt z (List.mem_of_getElem? ha) j g e⟩
      rcases hone a x g1 ha e1 with ⟨q1, q2⟩ | ⟨q1, q2, q3⟩
      · rcases hone b y g2 hb e2 with ⟨r1, r2⟩ | ⟨r1, r2, r3⟩
        · omega
        · omega
      · rcases hone b y g2 hb e2 with ⟨r1, r2⟩ | ⟨r1, r2, r3⟩
        · omega
        · exact A.fin a b x y j g1 g2 q2 r2 e1 e2
    · intro y hy j g e
      rcases mem hy with rfl | ⟨a, ha, hy⟩
      · injection e with e; injection e with e1 e2; omega
      · exact Bd.bfr y (List.mem_of_getElem? hy) j g e
  · simp only at hfl
    obtain ⟨f1, f2, f3, f4⟩ := A.fne _ hxm j g rfl
    have hbj := Bd.bfr _ hxm j g rfl
    have hjl := lt _ hxm j g rfl
    have pj : j ≠ p := fun e => by subst e; have := A.box; rw [hfl] at this; cases this
    refine ⟨(some (j, g + 1), l ++ [k]), H.set j (.grow (g + 1) 1 ((l ++ [k]).map eI)), rfl, ?_, List.getElem?_set_ne pj, List.getElem?_set_ne f3, ⟨?_, ?_, ?_, ?_, ?_, ?_, A.ne, ?_, ?_⟩, ⟨Bd.bp, Bd.bpb, Bd.bob, Bd.bfb, Bd.bdb, ?_⟩, (FrW.set hbj).trans (FrW.set Bd.bfb)⟩
    · show appZ L H 1 8 [[Z64 k]] (.own j g 0 l.length false) = _
      rw [app_own]
      refine ⟨_, hfl, by simp, by simp only at hxl; unfold reach; simp; omega, hL j hbj pj, ?_, ?_⟩
      · show ZV.own j (g + 1) 0 (l.length + 1) false = .own j (g + 1) 0 (l ++ [k]).length false
        rw [List.length_append]; rfl
      · rw [List.drop_zero, List.take_of_length_le (by simp), List.map_append]; rfl
    · rw [List.getElem?_set_ne p3, List.getElem?_set_ne pj, A.box, List.length_set]
    · rw [List.getElem?_set_ne (Ne.symm m4), List.getElem?_set_ne f2, A.pl]
    · rw [List.getElem?_set_ne (Ne.symm m2), List.getElem?_set_ne f1, A.od]
    · rw [List.getElem?_set_self (by simp; omega)]
    · rw [List.getElem?_set_ne m6, List.getElem?_set_ne f4, A.dm]
    · intro y hy
      rcases mem hy with rfl | ⟨a, ha, hy⟩
      · simp only
        rw [List.getElem?_set_ne (Ne.symm f3), List.getElem?_set_self hjl]
      · have h := A.fl y (List.mem_of_getElem? hy)
        have h2 := A.fne y (List.mem_of_getElem? hy)
        have h3 := A.fin a t y (some (j, g), l)
        rcases y with ⟨_ | ⟨j2, g2⟩, l2⟩
        · exact h
        · simp only at h ⊢
          have hne : j ≠ j2 := fun e => by subst e; exact ha (h3 j g2 g hy hx rfl rfl)
          rw [List.getElem?_set_ne (Ne.symm (h2 j2 g2 rfl).2.2.1), List.getElem?_set_ne hne, h]
    · intro y hy j2 g2 e
      rcases mem hy with rfl | ⟨a, ha, hy⟩
      · injection e with e; injection e with e1 e2
        subst e1
        exact ⟨f1, f2, f3, f4⟩
      · exact A.fne y (List.mem_of_getElem? hy) j2 g2 e
    · intro a b x y j2 g1 g2 ha hb e1 e2
      have hone : ∀ (a : Nat) z g3, (FR.set t (some (j, g + 1), l ++ [k]))[a]? = some z → z.1 = some (j2, g3) → ∃ z' g4, FR[a]? = some z' ∧ z'.1 = some (j2, g4) := fun a z g3 ha e => by
        by_cases q : t = a
        · subst q; rw [List.getElem?_set_self ht] at ha; injection ha with ha; subst ha
          injection e with e; injection e with e1 e2; exact ⟨_, g, hx, by rw [← e1]⟩
        · rw [List.getElem?_set_ne q] at ha; exact ⟨z, g3, ha, e⟩
      obtain ⟨x', g3, q1, q2⟩ := hone a x g1 ha e1
      obtain ⟨y', g4, r1, r2⟩ := hone b y g2 hb e2
      exact A.fin a b x' y' j2 g3 g4 q1 r1 q2 r2
    · intro y hy j2 g2 e
      rcases mem hy with rfl | ⟨a, ha, hy⟩
      · injection e with e; injection e with e1 e2; omega
      · exact Bd.bfr y (List.mem_of_getElem? hy) j2 g2 e
end Go.Proofs.Ytfmllmcjinjfaaa

namespace Go.Proofs.Ytfmllmcjinjfaaa
open Go Go.RowKit
set_option linter.unusedVariables false
set_option linter.unusedSimpArgs false
def edg (has : List (List Int)) (u t : Nat) : Prop := ∃ l, has[u]? = some l ∧ (t : Int) ∈ l
def unv : List Int → Nat
  | [] => 0
  | y :: r => (if y = -2 then 1 else 0) + unv r
theorem unv_set : ∀ {l : List Int} {k : Nat}, l[k]? = some (-2) → unv (l.set k (-1)) + 1 = unv l
  | [], k, h => by simp at h
  | y :: r, 0, h => by
    simp only [List.getElem?_cons_zero, Option.some.injEq] at h
    subst h
    simp [unv]; omega
  | y :: r, k + 1, h => by
    simp only [List.getElem?_cons_succ] at h
    have := unv_set h
    simp only [List.set_cons_succ, unv]
    omega
def tot : List Fr → Nat
  | [] => 0
  | x :: r => x.2.length + tot r
theorem tot_le : ∀ {l : List Fr} {x : Fr}, x ∈ l → x.2.length ≤ tot l
  | [], x, h => by cases h
  | y :: r, x, h => by
    rcases List.mem_cons.1 h with rfl | h
    · simp only [tot]; omega
    · have := tot_le h; simp only [tot]; omega
theorem tot_set : ∀ {l : List Fr} {k : Nat} {x x' : Fr} {a : Int}, l[k]? = some x → x'.2 = x.2 ++ [a] → tot (l.set k x') = tot l + 1
  | [], k, x, x', a, h, _ => by simp at h
  | y :: r, 0, x, x', a, h, e => by
    simp only [List.getElem?_cons_zero, Option.some.injEq] at h
    subst h
    simp only [List.set_cons_zero, tot, e, List.length_append, List.length_cons, List.length_nil]; omega
  | y :: r, k + 1, x, x', a, h, e => by
    simp only [List.getElem?_cons_succ] at h
    have := tot_set h e
    simp only [List.set_cons_succ, tot]
    omega
structure WI (n : Nat) (has : List (List Int)) (R : Nat → Prop) (A : Int → Nat → Prop) (V : Nat → Prop) (PL OR : List Int) (FR : List Fr) (X : List Nat) (PL' OR' : List Int) (FR' : List Fr) : Prop where
  ord : OR' = OR ++ X.map (fun v : Nat => (v : Int))
  len : PL'.length = PL.length
  mrk : ∀ t, t < n → (V t ∨ t ∈ X → PL'[t]? = some (-1)) ∧ (¬ (V t ∨ t ∈ X) → PL'[t]? = PL[t]?)
  fresh : ∀ t ∈ X, PL[t]? = some (-2) ∧ ¬ V t
  nd : X.Nodup
  kin : ∀ (i t : Nat), X[i]? = some t → R t ∨ ∃ i' u : Nat, i < i' ∧ X[i']? = some u ∧ edg has u t
  cl : ∀ x ∈ X, ∀ t, edg has x t → PL'[t]? = some (-1)
  fl : FR'.length = FR.length
  fr : ∀ (t : Nat) x x', FR[t]? = some x → FR'[t]? = some x' → ∀ v, v ∈ x'.2 ↔ v ∈ x.2 ∨ (∃ j : Nat, j ∈ X ∧ v = (j : Int) ∧ edg has j t) ∨ A v t
variable {n : Nat} {has : List (List Int)} {R V : Nat → Prop} {A : Int → Nat → Prop} {PL OR PL1 OR1 PL2 OR2 : List Int} {FR FR1 FR2 : List Fr} {X X2 : List Nat}
theorem WI.cat {to : Nat} (h1 : WI n has R A V PL OR FR X PL1 OR1 FR1) (h2 : WI n has (· = to) (fun _ _ => False) (fun _ => False) PL1 OR1 FR1 X2 PL2 OR2 FR2) (hR : R to) (hn : PL.length = n) : WI n has R A V PL OR FR (X ++ X2) PL2 OR2 FR2 := by
  have ltn1 : ∀ {t : Nat} {y : Int}, PL1[t]? = some y → t < n := fun {t y} h => by have := (List.getElem?_eq_some_iff.1 h).1; rw [h1.len] at this; omega
  have ltn : ∀ {t : Nat} {y : Int}, PL[t]? = some y → t < n := fun {t y} h => by have := (List.getElem?_eq_some_iff.1 h).1; omega
  have fr2 : ∀ t, t ∈ X2 → ¬ (V t ∨ t ∈ X) ∧ PL[t]? = some (-2) := fun t ht => by
    have q := (h2.fresh t ht).1
    have hv : ¬ (V t ∨ t ∈ X) := fun h => by rw [(h1.mrk t (ltn1 q)).1 h] at q; simp at q
    exact ⟨hv, by rw [← (h1.mrk t (ltn1 q)).2 hv]; exact q⟩
  refine ⟨by rw [h2.ord, h1.ord, List.map_append, List.append_assoc], h2.len.trans h1.len, fun t ht => ⟨fun h => ?_, fun h => ?_⟩, fun t ht => ?_, ?_, fun i t hi => ?_, fun x hx t he => ?_, h2.fl.trans h1.fl, fun t x x' hx hx' v => ?_⟩
  · by_cases h3 : t ∈ X2
    · exact (h2.mrk t ht).1 (.inr h3)
    · rw [(h2.mrk t ht).2 (by simp [h3])]
      refine (h1.mrk t ht).1 ?_
      rcases h with h | h
      · exact .inl h
      · rcases List.mem_append.1 h with h | h
        · exact .inr h
        · exact absurd h h3
  · rw [(h2.mrk t ht).2 (by intro h4; rcases h4 with h4 | h4; exact h4; exact h (.inr (List.mem_append_right _ h4))), (h1.mrk t ht).2 (fun h4 => h (h4.imp id (List.mem_append_left _)))]
  · rcases List.mem_append.1 ht with ht | ht
    · exact h1.fresh t ht
    · exact ⟨(fr2 t ht).2, fun h => (fr2 t ht).1 (.inl h)⟩
  · refine List.nodup_append.2 ⟨h1.nd, h2.nd, fun a ha b hb e => ?_⟩
    subst e
    exact (fr2 a hb).1 (.inr ha)
  · by_cases hl : i < X.length
    · rw [List.getElem?_append_left hl] at hi
      rcases h1.kin i t hi with h | ⟨i', u, q1, q2, q3⟩
      · exact .inl h
      · exact .inr ⟨i', u, q1, by rw [List.getElem?_append_left (List.getElem?_eq_some_iff.1 q2).1]; exact q2, q3⟩
    · rw [List.getElem?_append_right (by omega)] at hi
      rcases h2.kin _ t hi with h | ⟨i', u, q1, q2, q3⟩
      · exact .inl (h ▸ hR)
      · exact .inr ⟨X.length + i', u, by omega, by rw [List.getElem?_append_right (by omega), Nat.add_sub_cancel_left]; exact q2, q3⟩
  · rcases List.mem_append.1 hx with hx | hx
    · have q := h1.cl x hx t he
      by_cases h3 : t ∈ X2
      · exact (h2.mrk t (ltn1 q)).1 (.inr h3)
      · rw [(h2.mrk t (ltn1 q)).2 (by simp [h3])]; exact q
    · exact h2.cl x hx t he
  · have hlt : t < FR1.length := by rw [h1.fl]; exact (List.getElem?_eq_some_iff.1 hx).1
    obtain ⟨x1, hx1⟩ : ∃ x1, FR1[t]? = some x1 := ⟨_, List.getElem?_eq_getElem hlt⟩
    rw [h2.fr t x1 x' hx1 hx' v, h1.fr t x x1 hx hx1 v]
    constructor
    · rintro ((h | ⟨j, a, b, c⟩ | h) | ⟨j, a, b, c⟩ | h)
      · exact .inl h
      · exact .inr (.inl ⟨j, List.mem_append_left _ a, b, c⟩)
      · exact .inr (.inr h)
      · exact .inr (.inl ⟨j, List.mem_append_right _ a, b, c⟩)
      · exact h.elim
    · rintro (h | ⟨j, a, b, c⟩ | h)
      · exact .inl (.inl h)
      · rcases List.mem_append.1 a with a | a
        · exact .inl (.inr (.inl ⟨j, a, b, c⟩))
        · exact .inr (.inl ⟨j, a, b, c⟩)
      · exact .inl (.inr (.inr h))
theorem WI.tell {t0 : Nat} {x0 x1 : Fr} {a : Int} (h : WI n has R A V PL OR FR X PL1 OR1 FR1) (h0 : FR1[t0]? = some x0) (h1 : x1.2 = x0.2 ++ [a]) : WI n has R (fun v t => A v t ∨ (v = a ∧ t = t0)) V PL OR FR X PL1 OR1 (FR1.set t0 x1) := by
  refine ⟨h.ord, h.len, h.mrk, h.fresh, h.nd, h.kin, h.cl, by rw [List.length_set, h.fl], fun t x x' hx hx' v => ?_⟩
  by_cases e : t0 = t
  · subst e
    rw [List.getElem?_set_self (List.getElem?_eq_some_iff.1 h0).1] at hx'
    injection hx' with hx'
    subst hx'
    rw [h1, List.mem_append, List.mem_singleton, h.fr t0 x x0 hx h0 v]
    constructor
    · rintro ((q | q | q) | q)
      · exact .inl q
      · exact .inr (.inl q)
      · exact .inr (.inr (.inl q))
      · exact .inr (.inr (.inr ⟨q, rfl⟩))
    · rintro (q | q | q | q)
      · exact .inl (.inl q)
      · exact .inl (.inr (.inl q))
      · exact .inl (.inr (.inr q))
      · exact .inr q.1
  · rw [List.getElem?_set_ne e] at hx'
    rw [h.fr t x x' hx hx' v]
    constructor
    · rintro (q | q | q)
      · exact .inl q
      · exact .inr (.inl q)
      · exact .inr (.inr (.inl q))
    · rintro (q | q | q | q)
      · exact .inl q
      · exact .inr (.inl q)
      · exact .inr (.inr q)
      · exact absurd q.2.symm e
theorem WI.start (hp : ∀ t, t < n → V t → PL1[t]? = some (-1)) (hq : ∀ t, t < n → ¬ V t → PL1[t]? = PL[t]?) (hl : PL1.length = PL.length) : WI n has R (fun _ _ => False) V PL OR FR [] PL1 OR FR :=
  ⟨by simp, hl, fun t ht => ⟨fun h => hp t ht (by simpa using h), fun h => hq t ht (by simpa using h)⟩, fun t ht => (by cases ht), List.nodup_nil, fun i t h => (by simp at h), fun x hx => (by cases hx), rfl, fun t x x' hx hx' v => by rw [hx] at hx'; injection hx' with hx'; subst hx'; simp⟩
theorem WI.push {k : Nat} {l : List Int} (h : WI n has (edg has k) A (· = k) PL OR FR X PL1 OR1 FR1) (hk : has[k]? = some l) (hkn : k < n) (h0 : PL[k]? = some (-2)) (hA : ∀ v t, A v t ↔ v = (k : Int) ∧ (t : Int) ∈ l) (hc : ∀ t : Nat, (t : Int) ∈ l → PL1[t]? = some (-1)) :
    WI n has (· = k) (fun _ _ => False) (fun _ => False) PL OR FR (X ++ [k]) PL1 (OR1 ++ [(k : Int)]) FR1 := by
  have hkX : k ∉ X := fun hm => (h.fresh k hm).2 rfl
  refine ⟨by rw [h.ord, List.map_append, List.append_assoc]; rfl, h.len, fun t ht => ⟨fun q => (h.mrk t ht).1 ?_, fun q => (h.mrk t ht).2 fun q2 => q ?_⟩, fun t ht => ?_, ?_, fun i t hi => ?_, fun x hx t he => ?_, h.fl, fun t x x' hx hx' v => ?_⟩
  · rcases q with q | q
    · exact q.elim
    · rcases List.mem_append.1 q with q | q
      · exact .inr q
      · exact .inl (List.mem_singleton.1 q)
  · rcases q2 with q2 | q2
    · exact .inr (List.mem_append_right _ (List.mem_singleton.2 q2))
    · exact .inr (List.mem_append_left _ q2)
  · rcases List.mem_append.1 ht with ht | ht
    · exact ⟨(h.fresh t ht).1, fun q => q⟩
    · rw [List.mem_singleton.1 ht]; exact ⟨h0, fun q => q⟩
  · refine List.nodup_append.2 ⟨h.nd, by simp, fun a ha b hb e => ?_⟩
    rw [List.mem_singleton.1 hb] at e
    exact hkX (e ▸ ha)
  · by_cases hl : i < X.length
    · rw [List.getElem?_append_left hl] at hi
      rcases h.kin i t hi with q | ⟨i', u, q1, q2, q3⟩
      · exact .inr ⟨X.length, k, hl, by rw [List.getElem?_append_right (Nat.le_refl _), Nat.sub_self]; rfl, q⟩
      · exact .inr ⟨i', u, q1, by rw [List.getElem?_append_left (List.getElem?_eq_some_iff.1 q2).1]; exact q2, q3⟩
    · rw [List.getElem?_append_right (by omega)] at hi
      cases hd : i - X.length with
      | zero => rw [hd] at hi; simp at hi; exact .inl hi.symm
      | succ m => rw [hd] at hi; simp at hi
  · rcases List.mem_append.1 hx with hx | hx
    · exact h.cl x hx t he
    · rw [List.mem_singleton.1 hx] at he
      obtain ⟨l', e1, e2⟩ := he
      rw [hk] at e1; injection e1 with e1; subst e1
      exact hc t e2
  · rw [h.fr t x x' hx hx' v, hA]
    constructor
    · rintro (q | ⟨j, a, b, c⟩ | ⟨q1, q2⟩)
      · exact .inl q
      · exact .inr (.inl ⟨j, List.mem_append_left _ a, b, c⟩)
      · exact .inr (.inl ⟨k, by simp, q1, l, hk, q2⟩)
    · rintro (q | ⟨j, a, b, c⟩ | q)
      · exact .inl q
      · rcases List.mem_append.1 a with a | a
        · exact .inr (.inl ⟨j, a, b, c⟩)
        · have := List.mem_singleton.1 a
          subst this
          obtain ⟨l', e1, e2⟩ := c
          rw [hk] at e1; injection e1 with e1; subst e1
          exact .inr (.inr ⟨b, e2⟩)
      · exact q.elim
end Go.Proofs.Ytfmllmcjinjfaaa

namespace Go.Proofs.Ytfmllmcjinjfaaa
open Go Go.RowKit
set_option linter.unusedVariables false
set_option linter.unusedSimpArgs false
theorem WI.congr {n : Nat} {has : List (List Int)} {R V : Nat → Prop} {A A' : Int → Nat → Prop} {PL OR PL1 OR1 : List Int} {FR FR1 : List Fr} {X : List Nat} (h : WI n has R A V PL OR FR X PL1 OR1 FR1) (e : ∀ v t, A v t ↔ A' v t) : WI n has R A' V PL OR FR X PL1 OR1 FR1 :=
  ⟨h.ord, h.len, h.mrk, h.fresh, h.nd, h.kin, h.cl, h.fl, fun t x x' a b v => by rw [h.fr t x x' a b v, e]⟩
structure WS (B : Nat) (H : ZH) (p : Nat) (zr : ZV) (pb ob go fb db : Nat) (ef ex : Bool) (has : List (List Int)) (PL OR : List Int) (FR : List Fr) (DM : List Int) : Prop where
  tr : TrA H p (.fz 1 ex (has.map eL)) zr pb ob go fb db ef PL OR FR DM
  tb : TrB B p pb ob fb db FR
  pn : PL.length = has.length
  fn : FR.length = has.length
  pv : ∀ y ∈ PL, y = -2 ∨ y = -1
  pot : tot FR + 1000 * unv PL ≤ 200000
  cnt : OR.length + unv PL ≤ 1000
structure WM (B : Nat) (H : ZH) (p : Nat) (zr : ZV) (pb ob fb db : Nat) (ef ex : Bool) (has : List (List Int)) (PL OR : List Int) (FR : List Fr) (DM : List Int) (k : Nat) (l : List Int) (i : Nat) (H1 : ZH) (go1 : Nat) (PL1 OR1 : List Int) (FR1 : List Fr) (X : List Nat) : Prop where
  ws : WS B H1 p zr pb ob go1 fb db ef ex has PL1 OR1 FR1 DM
  fr : FrW B H H1
  wi : WI has.length has (edg has k) (fun v t => v = (k : Int) ∧ (t : Int) ∈ l.take i) (· = k) PL OR FR X PL1 OR1 FR1
  cl : ∀ t : Nat, (t : Int) ∈ l.take i → PL1[t]? = some (-1)
  pot : tot FR1 + 1000 * unv PL1 + (l.length - i) ≤ tot FR + 1000 * unv PL
  cnt : OR1.length + unv PL1 + 1 ≤ OR.length + unv PL
  un : unv PL1 + 1 ≤ unv PL
structure WE (B : Nat) (H : ZH) (p : Nat) (zr : ZV) (pb ob fb db : Nat) (ef ex : Bool) (has : List (List Int)) (PL OR : List Int) (FR : List Fr) (DM : List Int) (k : Nat) (H1 : ZH) (go1 : Nat) (PL1 OR1 : List Int) (FR1 : List Fr) (X : List Nat) : Prop where
  ws : WS B H1 p zr pb ob go1 fb db ef ex has PL1 OR1 FR1 DM
  fr : FrW B H H1
  wi : WI has.length has (· = k) (fun _ _ => False) (fun _ => False) PL OR FR X PL1 OR1 FR1
  vis : PL1[k]? = some (-1)
  pot : tot FR1 + 1000 * unv PL1 ≤ tot FR + 1000 * unv PL
  cnt : OR1.length + unv PL1 ≤ OR.length + unv PL
  un : unv PL1 ≤ unv PL
variable {B p pb ob go fb db k n : Nat} {H : ZH} {zr : ZV} {ef ex : Bool} {has : List (List Int)} {PL OR DM : List Int} {FR : List Fr} {L : Nat → Bool}
theorem WS.old (W : WS B H p zr pb ob go fb db ef ex has PL OR FR DM) (hk : PL[k]? = some (-1)) : WE B H p zr pb ob fb db ef ex has PL OR FR DM k H go PL OR FR [] :=
  ⟨W, FrW.rfl', WI.start (fun t _ h => h.elim) (fun t _ _ => rfl) rfl, hk, Nat.le_refl _, Nat.le_refl _, Nat.le_refl _⟩
theorem WS.mark (W : WS B H p zr pb ob go fb db ef ex has PL OR FR DM) (hk : PL[k]? = some (-2)) {l : List Int} (hl : l.length ≤ 1000) : WM B H p zr pb ob fb db ef ex has PL OR FR DM k l 0 (H.set pb (.grow 0 1 ((PL.set k (-1)).map eI))) go (PL.set k (-1)) OR FR [] := by
  have hu := unv_set hk
  have hkl := (List.getElem?_eq_some_iff.1 hk).1
  have q1 := W.pot
  have q2 := W.cnt
  refine ⟨⟨W.tr.setP (by simp), W.tb, by rw [List.length_set]; exact W.pn, W.fn, fun y hy => ?_, by omega, by omega⟩, FrW.set W.tb.bpb, (WI.start (fun t _ h => ?_) (fun t _ h => ?_) (by simp)).congr (by simp), fun t h => by simp at h, by omega, by omega, by omega⟩
  · rcases List.mem_or_eq_of_mem_set hy with h | h
    · exact W.pv y h
    · exact .inr h
  · rw [h, List.getElem?_set_self hkl]
  · rw [List.getElem?_set_ne (Ne.symm h)]
theorem WM.next {l : List Int} {i : Nat} {H1 H2 H3 : ZH} {go1 go2 : Nat} {PL1 OR1 PL2 OR2 : List Int} {FR1 FR2 : List Fr} {X X2 : List Nat} {t : Nat} {x x' : Fr} (W : WS B H p zr pb ob go fb db ef ex has PL OR FR DM) (M : WM B H p zr pb ob fb db ef ex has PL OR FR DM k l i H1 go1 PL1 OR1 FR1 X) (hi : l[i]? = some (t : Int)) (hl : has[k]? = some l)
    (E : WE B H1 p zr pb ob fb db ef ex has PL1 OR1 FR1 DM t H2 go2 PL2 OR2 FR2 X2) (hx : FR2[t]? = some x) (hx' : x'.2 = x.2 ++ [(k : Int)]) (hT : TrA H3 p (.fz 1 ex (has.map eL)) zr pb ob go2 fb db ef PL2 OR2 (FR2.set t x') DM) (hB : TrB B p pb ob fb db (FR2.set t x')) (hF : FrW B H2 H3) :
    WM B H p zr pb ob fb db ef ex has PL OR FR DM k l (i + 1) H3 go2 PL2 OR2 (FR2.set t x') (X ++ X2) := by
  have hil := (List.getElem?_eq_some_iff.1 hi).1
  have hts := tot_set hx hx'
  have q1 := M.pot
  have q2 := M.cnt
  have q3 := M.un
  have r1 := E.pot
  have r2 := E.cnt
  have r3 := E.un
  have w1 := E.ws.pot
  have w2 := E.ws.cnt
  have p0 := W.pot
  have htk : l.take (i + 1) = l.take i ++ [(t : Int)] := by rw [List.take_add_one, hi]; rfl
  have hc := M.wi.cat E.wi ⟨l, hl, List.mem_of_getElem? hi⟩ W.pn
  refine ⟨⟨hT, hB, E.ws.pn, by rw [List.length_set]; exact E.ws.fn, E.ws.pv, by omega, by omega⟩, (M.fr.trans E.fr).trans hF, (hc.tell hx hx').congr fun v u => ?_, fun u hu => ?_, by omega, by omega, by omega⟩
  · rw [htk, List.mem_append, List.mem_singleton]
    constructor
    · rintro (⟨a, b⟩ | ⟨a, b⟩)
      · exact ⟨a, .inl b⟩
      · exact ⟨a, .inr (by rw [b])⟩
    · rintro ⟨a, b | b⟩
      · exact .inl ⟨a, b⟩
      · exact .inr ⟨a, by omega⟩
  · rw [htk, List.mem_append, List.mem_singleton] at hu
    rcases hu with hu | hu
    · have q := M.cl u hu
      by_cases h3 : u ∈ X2
      · exact (E.wi.mrk u (by have := (List.getElem?_eq_some_iff.1 q).1; rw [M.ws.pn] at this; exact this)).1 (.inr h3)
      · rw [(E.wi.mrk u (by have := (List.getElem?_eq_some_iff.1 q).1; rw [M.ws.pn] at this; exact this)).2 (by simp [h3])]; exact q
    · have : u = t := by omega
      subst this
      exact E.vis
theorem WM.done {l : List Int} {H1 H2 : ZH} {go1 : Nat} {PL1 OR1 : List Int} {FR1 : List Fr} {X : List Nat} (W : WS B H p zr pb ob go fb db ef ex has PL OR FR DM) (M : WM B H p zr pb ob fb db ef ex has PL OR FR DM k l l.length H1 go1 PL1 OR1 FR1 X) (hl : has[k]? = some l) (hk : PL[k]? = some (-2))
    (hT : TrA H2 p (.fz 1 ex (has.map eL)) zr pb ob (go1 + 1) fb db ef PL1 (OR1 ++ [(k : Int)]) FR1 DM) (hF : FrW B H1 H2) : WE B H p zr pb ob fb db ef ex has PL OR FR DM k H2 (go1 + 1) PL1 (OR1 ++ [(k : Int)]) FR1 (X ++ [k]) := by
  have hkn : k < has.length := (List.getElem?_eq_some_iff.1 hl).1
  have q1 := M.pot
  have q2 := M.cnt
  have q3 := M.un
  have w1 := M.ws.pot
  have w2 := W.cnt
  have htk : l.take l.length = l := List.take_length
  have hA := M.wi
  have hc := M.cl
  rw [htk] at hA hc
  exact ⟨⟨hT, M.ws.tb, M.ws.pn, M.ws.fn, M.ws.pv, w1, by rw [List.length_append]; simp only [List.length_cons, List.length_nil]; omega⟩, M.fr.trans hF, hA.push hl hkn hk (fun v t => Iff.rfl) hc, (M.wi.mrk k hkn).1 (.inl rfl), by omega, by rw [List.length_append]; simp only [List.length_cons, List.length_nil]; omega, by omega⟩
variable {tb : List (FuncId × Bool)}
set_option maxHeartbeats 8000000 in
theorem walk_z (hok : okHas has has.length) (hls : ∀ l ∈ has, l.length ≤ 1000) (hL : ∀ i, B ≤ i → L i = true) : ∀ (m : Nat) (H : ZH) (go k : Nat) (PL OR : List Int) (FR : List Fr) (K : ZV → ZH → Prop), WS B H p zr pb ob go fb db ef ex has PL OR FR DM → unv PL ≤ m → k < has.length →
    (∀ H1 go1 PL1 OR1 FR1 X, WE B H p zr pb ob fb db ef ex has PL OR FR DM k H1 go1 PL1 OR1 FR1 X → K .no H1) → ZC (constX tb) (cFunc Try.prog) 39 [.ptr p 0, Z64 (k : Int)] L H K := by
  intro m
  induction m using Nat.strongRecOn with
  | ind m ih =>
    intro H go k PL OR FR K W hm hk hK
    refine ZC.enter Gh.no constX_none f_ow_walk (by simp) ?_
    simp only [c_ow_walk]
    have FI := Lib.hid fun H1 go1 PL1 OR1 FR1 X E => (Fin.keep (hK H1 go1 PL1 OR1 FR1 X E) : Fin H .no H1 K)
    have HW := Lib.hid W
    have IH := Lib.hid ih
    have HO := Lib.hid hok
    have HLS := Lib.hid hls
    have HL := Lib.hid hL
    have hbx := W.tr.box
    have hkp : k < PL.length := by rw [W.pn]; exact hk
    obtain ⟨y, hy⟩ : ∃ y, PL[k]? = some y := ⟨_, List.getElem?_eq_getElem hkp⟩
    have ep : elemZ H 1 k (.own pb 0 0 PL.length false) = some (.eptr pb 0 k 0) := by rw [elem_own]; exact ⟨_, W.tr.pl, by simp, hkp, by simp⟩
    have lp : ldZ H none (.eptr pb 0 k 0) = some (Z64 y) := by rw [ld_eptr]; exact ⟨_, _, _, W.tr.pl, by rw [List.getElem?_map, hy]; rfl, rfl⟩
    have hyv := W.pv y (List.mem_of_getElem? hy)
    clear hK W ih hok hls hL
    by_cases hne : y = -1
    · subst hne
      have fin := FI.out _ _ _ _ _ _ (HW.out.old hy)
      have hlit : ¬ ((-1 : Int) = -2) := by decide
      clear FI HW IH HO HLS HL hy hyv
      repeat' (first | (simp only [zmPack, zxPack, ne_eq, zfree, owners, Nat.reduceLT, List.contains_cons, List.contains_nil, Nat.reduceBEq, BEq.rfl, chunk, setAt, List.lookup_cons, List.lookup_nil, reduceCtorEq, Nat.reduceEqDiff, reduceIte, implies_true, forall_const, Nat.reduceMul, Nat.reduceSub, Nat.reduceAdd, Nat.reduceLeDiff, ep, lp, *]) | (simp only [zgoO, zgoG, zO_nil, zthen_normal, zgoC]) | (with_reducible apply And.intro) | (with_reducible intro _))
      all_goals exact ⟨_, rfl, fin⟩
    · have hy2 : y = -2 := hyv.resolve_right hne
      subst hy2
      obtain ⟨l, hl⟩ : ∃ l, has[k]? = some l := ⟨_, List.getElem?_eq_getElem hk⟩
      have hll := HLS.out l (List.mem_of_getElem? hl)
      have hM := HW.out.mark hy hll
      have st : stZ L H [Z64 (-1)] (.eptr pb 0 k 0) = some (H.set pb (.grow 0 1 ((PL.set k (-1)).map eI))) := by
        rw [st_eptr]
        exact ⟨1, _, eI (-2), HW.out.tr.pl, by rw [List.getElem?_map, hy]; rfl, HL.out pb HW.out.tb.bpb, by simp [eI], by rw [List.map_set]; rfl⟩
      obtain ⟨H1, hH1⟩ : ∃ H1, H1 = H.set pb (.grow 0 1 ((PL.set k (-1)).map eI)) := ⟨_, rfl⟩
      rw [← hH1] at st hM
      have hb1 := hM.ws.tr.box
      have HM := Lib.hid hM
      have HY := Lib.hid hy
      clear hM hy hyv hne hH1
      repeat' (first | (simp only [zmPack, zxPack, ne_eq, zfree, owners, Nat.reduceLT, List.contains_cons, List.contains_nil, Nat.reduceBEq, BEq.rfl, chunk, setAt, List.lookup_cons, List.lookup_nil, reduceCtorEq, Nat.reduceEqDiff, reduceIte, implies_true, forall_const, Nat.reduceMul, Nat.reduceSub, Nat.reduceAdd, Nat.reduceLeDiff, ep, lp, st, *]) | (simp only [zgoO, zgoG, zO_nil, zthen_normal, zgoC]) | (with_reducible apply And.intro) | (with_reducible intro _))
      refine zW_forK [(0, .ptr p 0), (1, Z64 (k : Int)), (27, zI l)] l.length (fun i s' h' => ∃ go1 PL1 OR1 FR1 X, WM B H p zr pb ob fb db ef ex has PL OR FR DM k l i h' go1 PL1 OR1 FR1 X) (by omega) ⟨rfl, rfl, rfl, rfl, rfl, rfl⟩ rfl rfl (by repeat' (first | exact trivial | (refine ⟨rfl, ?_⟩) | (refine ⟨by simp only [zupd_at, Nat.reduceEqDiff, reduceIte]; assumption, ?_⟩))) rfl rfl (by decide) ⟨go, _, _, _, _, HM.out⟩ ?_ ?_
      · clear HM
        rintro i s' h' hi ⟨go1, PL1, OR1, FR1, X, M⟩ hii hli ⟨f0, f1, f27, -⟩
        obtain ⟨x, hx⟩ : ∃ x, l[i]? = some x := ⟨_, List.getElem?_eq_getElem hi⟩
        obtain ⟨x0, x1⟩ := HO.out.2 l (List.mem_of_getElem? hl) x (List.mem_of_getElem? hx)
        obtain ⟨t, rfl⟩ := Int.eq_ofNat_of_zero_le x0
        have ht : t < has.length := by omega
        have HHX := Lib.hid (And.intro hx hl)
        have HMM := Lib.hid M
        clear M x0 x1 hl
        repeat' (first | (simp only [zmPack, zxPack, ne_eq, zfree, owners, Nat.reduceLT, List.contains_cons, List.contains_nil, Nat.reduceBEq, BEq.rfl, chunk, setAt, List.lookup_cons, List.lookup_nil, reduceCtorEq, Nat.reduceEqDiff, reduceIte, implies_true, forall_const, Nat.reduceMul, Nat.reduceSub, Nat.reduceAdd, Nat.reduceLeDiff, hx, *]) | (simp only [zgoO, zgoG, zO_nil, zthen_normal, zgoC]) | (with_reducible apply And.intro) | (with_reducible intro _))
        refine IH.out (unv PL1) (by have := HMM.out.un; omega) _ go1 t PL1 OR1 FR1 _ HMM.out.ws (Nat.le_refl _) ht ?_
        clear hx
        rintro H2 go2 PL2 OR2 FR2 X2 E
        have htf : t < FR2.length := by rw [E.ws.fn]; exact ht
        obtain ⟨x0, hx0⟩ : ∃ x0, FR2[t]? = some x0 := ⟨_, List.getElem?_eq_getElem htf⟩
        have hxl : x0.2.length ≤ 1000000 := by have := tot_le (List.mem_of_getElem? hx0); have := E.ws.pot; omega
        obtain ⟨x', H3, hx', ap, hp3, hf3, hT, hB, hF⟩ := E.ws.tr.app (L := fun i => L i && !i == p) E.ws.tb (fun i h1 h2 => by simp [HL.out i h1, h2]) hx0 hxl (k : Int)
        have hnx := HMM.out.next HW.out HHX.out.1 HHX.out.2 E hx0 hx' hT hB hF
        have hb2 := E.ws.tr.box
        have e2 : elemZ H2 1 t (.own fb 0 0 FR2.length ef) = some (.eptr fb 0 t 0) := by rw [elem_own]; exact ⟨_, E.ws.tr.fr, by simp, htf, by simp⟩
        have l2 : ldZ H2 none (.eptr fb 0 t 0) = some (frZ x0) := by rw [ld_eptr]; exact ⟨_, _, _, E.ws.tr.fr, by rw [List.getElem?_map, hx0]; rfl, rfl⟩
        have e3 : elemZ H3 1 t (.own fb 0 0 FR2.length ef) = some (.eptr fb 0 t 0) := by rw [elem_own]; exact ⟨_, hf3.trans E.ws.tr.fr, by simp, htf, by simp⟩
        have st : stZ L H3 [frZ x'] (.eptr fb 0 t 0) = some (H3.set fb (.grow 0 1 ((FR2.set t x').map fun x => [frZ x]))) := by
          rw [st_eptr]
          exact ⟨1, _, [frZ x0], hf3.trans E.ws.tr.fr, by rw [List.getElem?_map, hx0]; rfl, HL.out fb E.ws.tb.bfb, by simp, by rw [List.map_set]; rfl⟩
        have hpl : p < H2.length := (List.getElem?_eq_some_iff.1 hb2).1
        have hc1 : (frZ x').isCell = true := by unfold frZ; split <;> rfl
        have hc2 : (frZ x').cells = [frZ x'] := by unfold frZ; split <;> rfl
        obtain ⟨H4, hH4⟩ : ∃ H4, H4 = H3.set fb (.grow 0 1 ((FR2.set t x').map fun x => [frZ x])) := ⟨_, rfl⟩
        rw [← hH4] at st hnx
        have fin : ∃ go1 PL1 OR1 FR1 X, WM B H p zr pb ob fb db ef ex has PL OR FR DM k l (i + 1) H4 go1 PL1 OR1 FR1 X := ⟨_, _, _, _, _, hnx⟩
        have FF := Lib.hid fin
        rw [hb2] at hp3
        clear fin hnx hT hB hF hx' hxl hx0 E HMM HHX HW IH HO HLS HL FI HY hH4 hf3
        generalize frZ x0 = z0 at ap l2
        generalize frZ x' = z1 at ap st hc1 hc2
        repeat' (first | (simp only [zmPack, zxPack, ne_eq, zfree, owners, Nat.reduceLT, List.contains_cons, List.contains_nil, Nat.reduceBEq, BEq.rfl, chunk, setAt, List.lookup_cons, List.lookup_nil, reduceCtorEq, Nat.reduceEqDiff, reduceIte, implies_true, forall_const, Nat.reduceMul, Nat.reduceSub, Nat.reduceAdd, Nat.reduceLeDiff, hb2, hp3, e2, l2, e3, st, ap, hpl, hc1, hc2, *]) | (simp only [zgoO, zgoG, zO_nil, zthen_normal, zgoC]) | (with_reducible apply And.intro) | (with_reducible intro _))
        all_goals exact FF.out
      · clear HM
        rintro s' h' ⟨go1, PL1, OR1, FR1, X, M⟩ ⟨f0, f1, f27, -⟩
        have hT := M.ws.tr.push (k : Int)
        have bob := M.ws.tb.bob
        have bp := M.ws.tb.bp
        have p1 : p ≠ ob := fun e => by have := M.ws.tr.box; rw [e, M.ws.tr.od] at this; cases this
        obtain ⟨H2, hH2⟩ : ∃ H2, H2 = h'.set ob (.grow (go1 + 1) 1 ((OR1 ++ [(k : Int)]).map eI)) := ⟨_, rfl⟩
        have ap : appZ L h' 1 8 [[Z64 (k : Int)]] (.own ob go1 0 OR1.length false) = some (.own ob (go1 + 1) 0 (OR1.length + 1) false, H2) := by
          rw [app_own]
          refine ⟨_, M.ws.tr.od, by simp, by have := M.ws.cnt; unfold reach; simp; omega, HL.out ob bob, rfl, ?_⟩
          rw [hH2, List.drop_zero, List.take_of_length_le (by simp), List.map_append]; rfl
        have hb1 := M.ws.tr.box
        have hb2 : H2[p]? = some (.box [.fz 1 ex (has.map eL), zr, .own pb 0 0 PL1.length false, .own ob go1 0 OR1.length false, .own fb 0 0 FR1.length ef, .own db 0 0 DM.length false]) := by rw [hH2, List.getElem?_set_ne (Ne.symm p1), hb1]
        rw [← hH2] at hT
        obtain ⟨H3, hH3⟩ : ∃ H3, H3 = H2.set p (.box [.fz 1 ex (has.map eL), zr, .own pb 0 0 PL1.length false, .own ob (go1 + 1) 0 (OR1.length + 1) false, .own fb 0 0 FR1.length ef, .own db 0 0 DM.length false]) := ⟨_, rfl⟩
        have st : stZ L H2 [.own ob (go1 + 1) 0 (OR1.length + 1) false] (.ptr p 3) = some H3 := by
          rw [st_ptr]
          exact ⟨_, hb2, HL.out p bp, by simp, by rw [hH3]; rfl⟩
        rw [← hH3] at hT
        have hF : FrW B h' H3 := by rw [hH3, hH2]; exact (FrW.set bob).trans (FrW.set bp)
        have fin := FI.out _ _ _ _ _ _ (M.done HW.out hl HY.out hT hF)
        clear FI HW IH HO HLS HL HY hH2 hH3 M hT hF bob bp p1 hl
        repeat' (first | (simp only [zmPack, zxPack, ne_eq, zfree, owners, Nat.reduceLT, List.contains_cons, List.contains_nil, Nat.reduceBEq, BEq.rfl, chunk, setAt, List.lookup_cons, List.lookup_nil, reduceCtorEq, Nat.reduceEqDiff, reduceIte, implies_true, forall_const, Nat.reduceMul, Nat.reduceSub, Nat.reduceAdd, Nat.reduceLeDiff, hb1, hb2, ap, st, *]) | (simp only [zgoO, zgoG, zO_nil, zthen_normal, zgoC]) | (with_reducible apply And.intro) | (with_reducible intro _))
        all_goals exact ⟨_, rfl, fin⟩
end Go.Proofs.Ytfmllmcjinjfaaa

namespace Go.Proofs.Ytfmllmcjinjfaaa
open Go Go.RowKit
set_option linter.unusedVariables false
set_option linter.unusedSimpArgs false
section
variable {tb : List (FuncId × Bool)} {fl : Nat → Bool} {h : Heap} {K : AV → Heap → Prop}
abbrev U64 (n : Int) : AV := .val (.int .u64 n)
theorem and_small (n : Nat) (hn : n ≤ 1000) : binV .and (.int .u64 (n : Nat)) (.int .u64 4294967295) = some (.int .u64 (n : Nat)) := by
  have h : ∀ n : _root_.Fin 1001, (match binV .and (.int .u64 ((n.val : Nat) : Int)) (.int .u64 4294967295) with | some (.int .u64 z) => z == ((n.val : Nat) : Int) | _ => false) = true := by decide +kernel
  have := h ⟨n, by omega⟩
  revert this
  simp only
  generalize binV .and (.int .u64 ((n : Nat) : Int)) (.int .u64 4294967295) = r
  intro this
  split at this
  · simp at this; rw [this]
  · cases this
theorem shr_small (n : Nat) (hn : n ≤ 1000) : binV .shr (.int .u64 (n : Nat)) (.int .u64 32) = some (.int .u64 0) := by
  have h : ∀ n : _root_.Fin 1001, (match binV .shr (.int .u64 ((n.val : Nat) : Int)) (.int .u64 32) with | some (.int .u64 z) => z == 0 | _ => false) = true := by decide +kernel
  have := h ⟨n, by omega⟩
  revert this
  generalize binV .shr (.int .u64 ((n : Nat) : Int)) (.int .u64 32) = r
  intro this
  split at this
  · simp at this; rw [this]
  · cases this
theorem mul_u {a b : Int} : binV .mul (.int .u64 a) (.int .u64 b) = some (.int .u64 (IntKind.u64.wrap (a * b))) := by simp [binV]
theorem add_u {a b : Int} : binV .add (.int .u64 a) (.int .u64 b) = some (.int .u64 (IntKind.u64.wrap (a + b))) := by simp [binV]
theorem gtr_u {a b : Int} : binV .gtr (.int .u64 a) (.int .u64 b) = some (.bool (decide (b < a))) := by simp [binV]
theorem mul64_am {n : Nat} (hn : n ≤ 1000) (hK : K (.tuple [U64 0, U64 (n : Nat)]) h) : AC (constX tb) (cFunc Try.prog) 56 [U64 1, U64 (n : Nat)] fl h K := by
  refine AC.enter rfl f_mk_mul64 (by simp) ?_
  simp only [c_mk_mul64]
  have a1 : binV .and (.int .u64 1) (.int .u64 4294967295) = some (.int .u64 1) := and_small 1 (by omega)
  have s1 : binV .shr (.int .u64 1) (.int .u64 32) = some (.int .u64 0) := shr_small 1 (by omega)
  have a0 : binV .and (.int .u64 0) (.int .u64 4294967295) = some (.int .u64 0) := and_small 0 (by omega)
  have s0 : binV .shr (.int .u64 0) (.int .u64 32) = some (.int .u64 0) := shr_small 0 (by omega)
  have an := and_small n hn
  have sn := shr_small n hn
  have w0 : IntKind.u64.wrap 0 = 0 := by rfl
  have wn : IntKind.u64.wrap (n : Int) = (n : Int) := IntWalk.u64_in _ (by omega)
  clear hn
  repeat' (first | (simp only [AW_next, AW_ops, AW_opsD, AW_cond, AW_block, AW_exit, AW_ret, AW_skip, AW_scope, AO_nil, AO_next, AO_nextW, wantB_bool, wantK_some, then_normal, then_exit, then_ret, inBlk_normal, inBlk_exit, inBlk_ret, A1_mv, A1_pick, A1_box, A1_zero, A1_build, A1_lits, A1_load, shallow_none, A1_store, A1_nilCheckI, nilOk_ptr, nilOk_func, A1_bin, A1_eqNil, A1_eqBool, A1_eqAgg, A1_un, A1_conv, A1_field, A1_fieldAddr, A1_indexAddr, A1_indexArr, A1_index, A1_slice, A1_mkSlice, A1_extract, A1_func, A1_call, callee_func, callee_bfunc, A1_append, A1_len, A1_minmax, put_some, put_none, upd_at, ev_tmp, ev_av, bin_lss, bin_leq, bin_gtr, bin_geq, bin_eql, bin_neq, bin_add, bin_sub, bin_mul, un_not, natOf_nat, Bool.not_eq_false', Prod.mk.injEq, and_assoc, decide_false, decide_true, Bool.not_false, Bool.not_true, Bool.true_eq_false, Bool.false_eq_true, exists_false, Bool.not_eq_false, Bool.not_not, AV.val.injEq, AV.ptr.injEq, AV.slice.injEq, AV.func.injEq, AV.tuple.injEq, AV.agg.injEq, Value.bool.injEq, Value.int.injEq, Option.some.injEq, exists_eq_left', exists_eq_left, exists_and_left, exists_and_right, and_true, true_and, decide_eq_true_eq, decide_eq_false_iff_not, if_true, if_false, Bool.not_eq_true', beq_true, beq_false, ne_eq, not_true_eq_false, not_false_eq_true, reduceCtorEq, List.getD_cons_zero, List.getD_cons_succ, List.map_cons, List.map_nil, List.append_nil, Nat.reduceEqDiff, reduceIte, ite_true, ite_false, or_true, true_or, or_false, false_or, resA, resultsA, true_imp_iff, false_imp_iff, implies_true, imp_false, and_self, imp_self, and_false, false_and, forall_const, cell_val, cell_ptr, cell_slice, cell_func, cell_hole, cells_agg, cells_val, cells_ptr, cells_slice, cells_func, cells_hole, cells_cell, List.length_cons, List.length_nil, List.all_cons, List.all_nil, Bool.and_self, ldA, List.mapM_cons, List.mapM_nil, Option.bind_eq_bind, Option.bind_some, Option.pure_def, Option.map_none, Option.map_some, List.set_cons_zero, List.set_cons_succ, Nat.lt_add_one, List.append_assoc, List.cons_append, List.nil_append, List.append_nil, List.length_append, rd1_n0, rd1_nK, rd1_c0, rd1_cS, rd_n0, rd_nK, rd_c0, rd_cS, fillA, List.take_zero, List.take_succ_cons, List.take_nil, List.drop_zero, List.drop_succ_cons, List.drop_nil, List.getElem?_cons_zero, List.getElem?_cons_succ, Nat.reduceAdd, Nat.reduceLeDiff, Nat.add_eq_zero_iff, and_self, Nat.zero_add, Nat.add_zero, Nat.mul_one, a1, s1, a0, s0, an, sn, mul_u, add_u, Int.one_mul, Int.zero_mul, Int.mul_zero, Int.add_zero, Int.zero_add, w0, wn, *]) | (simp only [goO, AO_nil, then_normal, goC]) | (with_reducible apply And.intro) | (with_reducible intro _))
theorem mul_am {n : Nat} (hn : n ≤ 1000) (hK : K (.tuple [U64 0, U64 (n : Nat)]) h) : AC (constX tb) (cFunc Try.prog) 50 [U64 1, U64 (n : Nat)] fl h K := by
  refine AC.enter rfl f_mk_mul (by simp) ?_
  simp only [c_mk_mul]
  have HN := Lib.hid hn
  clear hn
  repeat' (first | (simp only [AW_next, AW_ops, AW_opsD, AW_cond, AW_block, AW_exit, AW_ret, AW_skip, AW_scope, AO_nil, AO_next, AO_nextW, wantB_bool, wantK_some, then_normal, then_exit, then_ret, inBlk_normal, inBlk_exit, inBlk_ret, A1_mv, A1_pick, A1_box, A1_zero, A1_build, A1_lits, A1_load, shallow_none, A1_store, A1_nilCheckI, nilOk_ptr, nilOk_func, A1_bin, A1_eqNil, A1_eqBool, A1_eqAgg, A1_un, A1_conv, A1_field, A1_fieldAddr, A1_indexAddr, A1_indexArr, A1_index, A1_slice, A1_mkSlice, A1_extract, A1_func, A1_call, callee_func, callee_bfunc, A1_append, A1_len, A1_minmax, put_some, put_none, upd_at, ev_tmp, ev_av, bin_lss, bin_leq, bin_gtr, bin_geq, bin_eql, bin_neq, bin_add, bin_sub, bin_mul, un_not, natOf_nat, Bool.not_eq_false', Prod.mk.injEq, and_assoc, decide_false, decide_true, Bool.not_false, Bool.not_true, Bool.true_eq_false, Bool.false_eq_true, exists_false, Bool.not_eq_false, Bool.not_not, AV.val.injEq, AV.ptr.injEq, AV.slice.injEq, AV.func.injEq, AV.tuple.injEq, AV.agg.injEq, Value.bool.injEq, Value.int.injEq, Option.some.injEq, exists_eq_left', exists_eq_left, exists_and_left, exists_and_right, and_true, true_and, decide_eq_true_eq, decide_eq_false_iff_not, if_true, if_false, Bool.not_eq_true', beq_true, beq_false, ne_eq, not_true_eq_false, not_false_eq_true, reduceCtorEq, List.getD_cons_zero, List.getD_cons_succ, List.map_cons, List.map_nil, List.append_nil, Nat.reduceEqDiff, reduceIte, ite_true, ite_false, or_true, true_or, or_false, false_or, resA, resultsA, true_imp_iff, false_imp_iff, implies_true, imp_false, and_self, imp_self, and_false, false_and, forall_const, cell_val, cell_ptr, cell_slice, cell_func, cell_hole, cells_agg, cells_val, cells_ptr, cells_slice, cells_func, cells_hole, cells_cell, List.length_cons, List.length_nil, List.all_cons, List.all_nil, Bool.and_self, ldA, List.mapM_cons, List.mapM_nil, Option.bind_eq_bind, Option.bind_some, Option.pure_def, Option.map_none, Option.map_some, List.set_cons_zero, List.set_cons_succ, Nat.lt_add_one, List.append_assoc, List.cons_append, List.nil_append, List.append_nil, List.length_append, rd1_n0, rd1_nK, rd1_c0, rd1_cS, rd_n0, rd_nK, rd_c0, rd_cS, fillA, List.take_zero, List.take_succ_cons, List.take_nil, List.drop_zero, List.drop_succ_cons, List.drop_nil, List.getElem?_cons_zero, List.getElem?_cons_succ, Nat.reduceAdd, Nat.reduceLeDiff, Nat.add_eq_zero_iff, and_self, Nat.zero_add, Nat.add_zero, Nat.mul_one, *]) | (simp only [goO, AO_nil, then_normal, goC]) | (with_reducible apply And.intro) | (with_reducible intro _))
  refine mul64_am HN.out ?_
  repeat' (first | (simp only [AW_next, AW_ops, AW_opsD, AW_cond, AW_block, AW_exit, AW_ret, AW_skip, AW_scope, AO_nil, AO_next, AO_nextW, wantB_bool, wantK_some, then_normal, then_exit, then_ret, inBlk_normal, inBlk_exit, inBlk_ret, A1_mv, A1_pick, A1_box, A1_zero, A1_build, A1_lits, A1_load, shallow_none, A1_store, A1_nilCheckI, nilOk_ptr, nilOk_func, A1_bin, A1_eqNil, A1_eqBool, A1_eqAgg, A1_un, A1_conv, A1_field, A1_fieldAddr, A1_indexAddr, A1_indexArr, A1_index, A1_slice, A1_mkSlice, A1_extract, A1_func, A1_call, callee_func, callee_bfunc, A1_append, A1_len, A1_minmax, put_some, put_none, upd_at, ev_tmp, ev_av, bin_lss, bin_leq, bin_gtr, bin_geq, bin_eql, bin_neq, bin_add, bin_sub, bin_mul, un_not, natOf_nat, Bool.not_eq_false', Prod.mk.injEq, and_assoc, decide_false, decide_true, Bool.not_false, Bool.not_true, Bool.true_eq_false, Bool.false_eq_true, exists_false, Bool.not_eq_false, Bool.not_not, AV.val.injEq, AV.ptr.injEq, AV.slice.injEq, AV.func.injEq, AV.tuple.injEq, AV.agg.injEq, Value.bool.injEq, Value.int.injEq, Option.some.injEq, exists_eq_left', exists_eq_left, exists_and_left, exists_and_right, and_true, true_and, decide_eq_true_eq, decide_eq_false_iff_not, if_true, if_false, Bool.not_eq_true', beq_true, beq_false, ne_eq, not_true_eq_false, not_false_eq_true, reduceCtorEq, List.getD_cons_zero, List.getD_cons_succ, List.map_cons, List.map_nil, List.append_nil, Nat.reduceEqDiff, reduceIte, ite_true, ite_false, or_true, true_or, or_false, false_or, resA, resultsA, true_imp_iff, false_imp_iff, implies_true, imp_false, and_self, imp_self, and_false, false_and, forall_const, cell_val, cell_ptr, cell_slice, cell_func, cell_hole, cells_agg, cells_val, cells_ptr, cells_slice, cells_func, cells_hole, cells_cell, List.length_cons, List.length_nil, List.all_cons, List.all_nil, Bool.and_self, ldA, List.mapM_cons, List.mapM_nil, Option.bind_eq_bind, Option.bind_some, Option.pure_def, Option.map_none, Option.map_some, List.set_cons_zero, List.set_cons_succ, Nat.lt_add_one, List.append_assoc, List.cons_append, List.nil_append, List.append_nil, List.length_append, rd1_n0, rd1_nK, rd1_c0, rd1_cS, rd_n0, rd_nK, rd_c0, rd_cS, fillA, List.take_zero, List.take_succ_cons, List.take_nil, List.drop_zero, List.drop_succ_cons, List.drop_nil, List.getElem?_cons_zero, List.getElem?_cons_succ, Nat.reduceAdd, Nat.reduceLeDiff, Nat.add_eq_zero_iff, and_self, Nat.zero_add, Nat.add_zero, Nat.mul_one, *]) | (simp only [goO, AO_nil, then_normal, goC]) | (with_reducible apply And.intro) | (with_reducible intro _))
def copyA (fl : Nat → Bool) (h : Heap) (k : Nat) (x y : AV) : Option (AV × Heap) := match x, rowOf h k y with
    | .val (.slice none 0 0), some _ => some (.val (.int .i64 0), h)
    | .hole, some _ => some (.val (.int .i64 0), h)
    | .slice id off len _ _ _, some (n, cs) => match wr fl h id off (cs.take (min n len * k)) with
      | some h' => some (.val (.int .i64 (min n len : Nat)), h')
      | none => none
    | _, _ => none
theorem A1_copyG {X : XT} {F : FuncId → Option AFunc} {top : Option (Nat × Option (List Nat))} {s : Slots} {kk : Nat} {x y : Opd} : A1 X F top fl (.copy kk x y) s h K ↔ ∃ v h', copyA fl h kk (x.ev s) (y.ev s) = some (v, h') ∧ K v h' := Iff.rfl
theorem copy_last {c cs : List AV} {o ln lb ns : Nat} {ex : Bool} {src : AV} (hs : rowOf (h ++ [some c]) 1 src = some (ns, cs)) (hf : fl h.length = true) (hfit : o + (cs.take (min ns ln * 1)).length ≤ c.length) :
    copyA fl (h ++ [some c]) 1 (.slice h.length o ln lb ex 1) src = some (.val (.int .i64 (min ns ln : Nat)), h ++ [some (c.take o ++ cs.take (min ns ln) ++ c.drop (o + (cs.take (min ns ln)).length))]) := by
  have hb : blk (h ++ [some c]) h.length = some c := by rw [blk_at0]; rfl
  rw [Nat.mul_one] at hfit
  simp only [copyA, hs, Nat.mul_one, wr, hb]
  rw [if_pos ⟨hf, hfit⟩]
  simp only [List.set_append_right _ _ (Nat.le_refl _), Nat.sub_self, List.set_cons_zero]
theorem row_last {c : List AV} {o ln lb : Nat} {ex : Bool} (hl : o + ln ≤ c.length) : rowOf (h ++ [some c]) 1 (.slice h.length o ln lb ex 1) = some (ln, (c.drop o).take ln) := by
  have hb : blk (h ++ [some c]) h.length = some c := by rw [blk_at0]; rfl
  simp only [rowOf, rd, hb, Nat.mul_one]
  rw [if_pos hl]
theorem cut_lo {id o ln : Nat} {m : Nat} (hm : m ≤ ln) : sliceA 1 (.slice id o ln ln true 1) (some (I64 (m : Nat))) none none = some (.slice id (o + m) (ln - m) (ln - m) true 1) := by
  simp [sliceA, natOfA, intOfA, hm]
theorem cut_hi {id o ln : Nat} {m : Nat} (hm : m ≤ ln) : sliceA 1 (.slice id o ln ln true 1) none (some (I64 (m : Nat))) none = some (.slice id o m ln true 1) := by
  simp [sliceA, natOfA, intOfA, hm]
def repC (x : Int) (m n : Nat) : List AV := List.replicate m (I64 x) ++ List.replicate (n - m) (I64 0)
theorem repC_len {x : Int} {m n : Nat} (h : m ≤ n) : (repC x m n).length = n := by simp [repC]; omega
theorem repC_step {x : Int} {m n j : Nat} (h : m ≤ n) (hj : j ≤ m) (hmj : m + j ≤ n) : (repC x m n).take m ++ (((repC x m n).drop 0).take m).take j ++ (repC x m n).drop (m + j) = repC x (m + j) n := by
  have e : (repC x m n).take m = List.replicate m (I64 x) := by unfold repC; rw [List.take_left' (by simp)]
  rw [List.drop_zero, e, List.take_replicate, Nat.min_eq_left hj]
  unfold repC
  rw [List.drop_append, List.length_replicate, List.drop_eq_nil_of_le (by simp)]
  rw [Nat.add_sub_cancel_left, List.drop_replicate, List.nil_append, List.replicate_append_replicate, Nat.sub_sub]
set_option maxHeartbeats 2000000 in
theorem repeat_am {lv : AV} {x : Int} {n : Nat} (hn : n ≤ 1000) (hl : IL h lv [x]) (hf : ∀ i, h.length ≤ i → fl i = true) (hK : K (.slice h.length 0 n n true 1) (h ++ [some ((List.replicate n x).map I64)])) :
    AC (constX tb) (cFunc Try.prog) 38 [lv, I64 (n : Nat)] fl h K := by
  refine AC.enter rfl f_mk_repeat (by simp) ?_
  simp only [c_mk_repeat]
  have HN := Lib.hid hn
  have l1 := hl.len
  have w1 : IntKind.u64.wrap 1 = 1 := by rfl
  have wn : IntKind.u64.wrap (n : Int) = (n : Int) := IntWalk.u64_in _ (by omega)
  have wi : IntKind.i64.wrap (n : Int) = (n : Int) := IntWalk.i64_in _ (by omega)
  have g0 : ¬ ((n : Int) < 0) := by omega
  have g1 : ¬ ((0 : Int) < 0) := by omega
  have g2 : ¬ ((9223372036854775807 : Int) < (n : Int)) := by omega
  have hr : n * 8 ≤ reach := by unfold reach; omega
  have HL := Lib.hid hl
  have HF := Lib.hid hf
  have HK := Lib.hid hK
  clear hl hf hK hn
  simp only [List.length_singleton] at l1
  repeat' (first | (simp only [AW_next, AW_ops, AW_opsD, AW_cond, AW_block, AW_exit, AW_ret, AW_skip, AW_scope, AO_nil, AO_next, AO_nextW, wantB_bool, wantK_some, then_normal, then_exit, then_ret, inBlk_normal, inBlk_exit, inBlk_ret, A1_mv, A1_pick, A1_box, A1_zero, A1_build, A1_lits, A1_load, shallow_none, A1_store, A1_nilCheckI, nilOk_ptr, nilOk_func, A1_bin, A1_eqNil, A1_eqBool, A1_eqAgg, A1_un, A1_conv, A1_field, A1_fieldAddr, A1_indexAddr, A1_indexArr, A1_index, A1_slice, A1_mkSlice, A1_extract, A1_func, A1_call, callee_func, callee_bfunc, A1_append, A1_len, A1_minmax, put_some, put_none, upd_at, ev_tmp, ev_av, bin_lss, bin_leq, bin_gtr, bin_geq, bin_eql, bin_neq, bin_add, bin_sub, bin_mul, un_not, natOf_nat, Bool.not_eq_false', Prod.mk.injEq, and_assoc, decide_false, decide_true, Bool.not_false, Bool.not_true, Bool.true_eq_false, Bool.false_eq_true, exists_false, Bool.not_eq_false, Bool.not_not, AV.val.injEq, AV.ptr.injEq, AV.slice.injEq, AV.func.injEq, AV.tuple.injEq, AV.agg.injEq, Value.bool.injEq, Value.int.injEq, Option.some.injEq, exists_eq_left', exists_eq_left, exists_and_left, exists_and_right, and_true, true_and, decide_eq_true_eq, decide_eq_false_iff_not, if_true, if_false, Bool.not_eq_true', beq_true, beq_false, ne_eq, not_true_eq_false, not_false_eq_true, reduceCtorEq, List.getD_cons_zero, List.getD_cons_succ, List.map_cons, List.map_nil, List.append_nil, Nat.reduceEqDiff, reduceIte, ite_true, ite_false, or_true, true_or, or_false, false_or, resA, resultsA, true_imp_iff, false_imp_iff, implies_true, imp_false, and_self, imp_self, and_false, false_and, forall_const, cell_val, cell_ptr, cell_slice, cell_func, cell_hole, cells_agg, cells_val, cells_ptr, cells_slice, cells_func, cells_hole, cells_cell, List.length_cons, List.length_nil, List.all_cons, List.all_nil, Bool.and_self, ldA, List.mapM_cons, List.mapM_nil, Option.bind_eq_bind, Option.bind_some, Option.pure_def, Option.map_none, Option.map_some, List.set_cons_zero, List.set_cons_succ, Nat.lt_add_one, List.append_assoc, List.cons_append, List.nil_append, List.append_nil, List.length_append, rd1_n0, rd1_nK, rd1_c0, rd1_cS, rd_n0, rd_nK, rd_c0, rd_cS, fillA, List.take_zero, List.take_succ_cons, List.take_nil, List.drop_zero, List.drop_succ_cons, List.drop_nil, List.getElem?_cons_zero, List.getElem?_cons_succ, Nat.reduceAdd, Nat.reduceLeDiff, Nat.add_eq_zero_iff, and_self, Nat.zero_add, Nat.add_zero, Nat.mul_one, l1, w1, wn, Int.natCast_one, *]) | (simp only [goO, AO_nil, then_normal, goC]) | (with_reducible apply And.intro) | (with_reducible intro _))
  refine mul_am HN.out ?_
  have hflat : (List.replicate n [I64 0]).flatten = repC x 0 n := by
    unfold repC
    simp only [List.replicate_zero, List.nil_append, Nat.sub_zero]
    induction n with
    | zero => rfl
    | succ n ih => simp [List.replicate_succ]
  have hrow : rowOf (h ++ [some (repC x 0 n)]) 1 lv = some (1, [I64 x]) := (HL.out.ext _).row
  have hc := copy_last (fl := fl) (o := 0) (ln := n) (lb := n) (ex := true) hrow (HF.out _ (Nat.le_refl _)) (by rw [repC_len (by omega)]; simp; omega)
  have hc2 : (repC x 0 n).take 0 ++ [I64 x].take (min 1 n) ++ (repC x 0 n).drop (0 + ([I64 x].take (min 1 n)).length) = repC x (min 1 n) n := by
    rcases Nat.eq_zero_or_pos n with rfl | hp
    · rfl
    · rw [Nat.min_eq_left hp]
      unfold repC
      simp [List.drop_replicate]
  rw [hc2] at hc
  clear hc2 hrow
  have hln : ∀ lb, lenA (.slice h.length 0 n lb true 1) = some n := fun _ => rfl
  obtain ⟨m0, hm0⟩ : ∃ m0, m0 = min 1 n := ⟨_, rfl⟩
  rw [← hm0] at hc
  have HM := Lib.hid hm0
  clear hm0
  repeat' (first | (simp only [AW_next, AW_ops, AW_opsD, AW_cond, AW_block, AW_exit, AW_ret, AW_skip, AW_scope, AO_nil, AO_next, AO_nextW, wantB_bool, wantK_some, then_normal, then_exit, then_ret, inBlk_normal, inBlk_exit, inBlk_ret, A1_mv, A1_pick, A1_box, A1_zero, A1_build, A1_lits, A1_load, shallow_none, A1_store, A1_nilCheckI, nilOk_ptr, nilOk_func, A1_bin, A1_eqNil, A1_eqBool, A1_eqAgg, A1_un, A1_conv, A1_field, A1_fieldAddr, A1_indexAddr, A1_indexArr, A1_index, A1_slice, A1_mkSlice, A1_extract, A1_func, A1_call, callee_func, callee_bfunc, A1_append, A1_len, A1_minmax, put_some, put_none, upd_at, ev_tmp, ev_av, bin_lss, bin_leq, bin_gtr, bin_geq, bin_eql, bin_neq, bin_add, bin_sub, bin_mul, un_not, natOf_nat, Bool.not_eq_false', Prod.mk.injEq, and_assoc, decide_false, decide_true, Bool.not_false, Bool.not_true, Bool.true_eq_false, Bool.false_eq_true, exists_false, Bool.not_eq_false, Bool.not_not, AV.val.injEq, AV.ptr.injEq, AV.slice.injEq, AV.func.injEq, AV.tuple.injEq, AV.agg.injEq, Value.bool.injEq, Value.int.injEq, Option.some.injEq, exists_eq_left', exists_eq_left, exists_and_left, exists_and_right, and_true, true_and, decide_eq_true_eq, decide_eq_false_iff_not, if_true, if_false, Bool.not_eq_true', beq_true, beq_false, ne_eq, not_true_eq_false, not_false_eq_true, reduceCtorEq, List.getD_cons_zero, List.getD_cons_succ, List.map_cons, List.map_nil, List.append_nil, Nat.reduceEqDiff, reduceIte, ite_true, ite_false, or_true, true_or, or_false, false_or, resA, resultsA, true_imp_iff, false_imp_iff, implies_true, imp_false, and_self, imp_self, and_false, false_and, forall_const, cell_val, cell_ptr, cell_slice, cell_func, cell_hole, cells_agg, cells_val, cells_ptr, cells_slice, cells_func, cells_hole, cells_cell, List.length_cons, List.length_nil, List.all_cons, List.all_nil, Bool.and_self, ldA, List.mapM_cons, List.mapM_nil, Option.bind_eq_bind, Option.bind_some, Option.pure_def, Option.map_none, Option.map_some, List.set_cons_zero, List.set_cons_succ, Nat.lt_add_one, List.append_assoc, List.cons_append, List.nil_append, List.append_nil, List.length_append, rd1_n0, rd1_nK, rd1_c0, rd1_cS, rd_n0, rd_nK, rd_c0, rd_cS, fillA, List.take_zero, List.take_succ_cons, List.take_nil, List.drop_zero, List.drop_succ_cons, List.drop_nil, List.getElem?_cons_zero, List.getElem?_cons_succ, Nat.reduceAdd, Nat.reduceLeDiff, Nat.add_eq_zero_iff, and_self, Nat.zero_add, Nat.add_zero, Nat.mul_one, A1_copyG, gtr_u, g1, g2, wi, natOf_nat, hr, Nat.le_refl, beq_self_eq_true, hflat, hc, *]) | (simp only [goO, AO_nil, then_normal, goC]) | (with_reducible apply And.intro) | (with_reducible intro _))
  refine AW.named fun S hS => ?_
  have s7 : S 7 = .slice h.length 0 n n true 1 := by rw [hS]; rfl
  have s8 : S 8 = I64 (m0 : Nat) := by rw [hS]; rfl
  clear hS hc hflat
  refine AW_while (fun r s' h' => ∃ m : Nat, r = n - m ∧ m ≤ n ∧ (n = 0 ∨ 0 < m) ∧ s' 8 = I64 (m : Nat) ∧ h' = h ++ [some (repC x m n)]) (n - m0) ⟨m0, rfl, by have := HM.out; omega, by have := HM.out; omega, s8, rfl⟩ ?_
  clear s8
  rintro r s' h' ⟨m, rfl, hmn, hpos, s8, rfl⟩ hs
  have f7 := (hs 7 (by decide)).trans s7
  clear hs s7
  by_cases hlt : m < n
  · have g3 : (m : Int) < (n : Int) := by omega
    have c1 := cut_lo (id := h.length) (o := 0) hmn
    have c2 := cut_hi (id := h.length) (o := 0) hmn
    rw [Nat.zero_add] at c1
    have hrow := row_last (h := h) (c := repC x m n) (o := 0) (ln := m) (lb := n) (ex := true) (by rw [repC_len hmn]; omega)
    have htl : (((repC x m n).drop 0).take m).length = m := by rw [List.length_take, List.drop_zero, repC_len hmn]; omega
    have hc := copy_last (fl := fl) (o := m) (ln := n - m) (lb := n - m) (ex := true) hrow (HF.out _ (Nat.le_refl _)) (by rw [repC_len hmn, List.length_take, htl]; omega)
    rw [show (List.take (min m (n - m)) (((repC x m n).drop 0).take m)).length = min m (n - m) by rw [List.length_take, htl]; omega] at hc
    rw [repC_step hmn (Nat.min_le_left _ _) (by omega)] at hc
    have wa : IntKind.i64.wrap ((m : Int) + ((min m (n - m) : Nat) : Int)) = ((m + min m (n - m) : Nat) : Int) := by have := HN.out; rw [IntWalk.i64_in _ (by omega)]; omega
    obtain ⟨q, hq⟩ : ∃ q, q = min m (n - m) := ⟨_, rfl⟩
    rw [← hq] at hc wa
    have fin : ∃ r2, r2 < n - m ∧ ∃ m2 : Nat, r2 = n - m2 ∧ m2 ≤ n ∧ (n = 0 ∨ 0 < m2) ∧ ((m + q : Nat) : Int) = ((m2 : Nat) : Int) ∧ h ++ [some (repC x (m + q) n)] = h ++ [some (repC x m2 n)] :=
      ⟨n - (m + q), by omega, m + q, rfl, by omega, by omega, rfl, rfl⟩
    have FI := Lib.hid fin
    clear hrow htl hq fin g0 g1 g2 hpos hmn
    repeat' (first | (simp only [AW_next, AW_ops, AW_opsD, AW_cond, AW_block, AW_exit, AW_ret, AW_skip, AW_scope, AO_nil, AO_next, AO_nextW, wantB_bool, wantK_some, then_normal, then_exit, then_ret, inBlk_normal, inBlk_exit, inBlk_ret, A1_mv, A1_pick, A1_box, A1_zero, A1_build, A1_lits, A1_load, shallow_none, A1_store, A1_nilCheckI, nilOk_ptr, nilOk_func, A1_bin, A1_eqNil, A1_eqBool, A1_eqAgg, A1_un, A1_conv, A1_field, A1_fieldAddr, A1_indexAddr, A1_indexArr, A1_index, A1_slice, A1_mkSlice, A1_extract, A1_func, A1_call, callee_func, callee_bfunc, A1_append, A1_len, A1_minmax, put_some, put_none, upd_at, ev_tmp, ev_av, bin_lss, bin_leq, bin_gtr, bin_geq, bin_eql, bin_neq, bin_add, bin_sub, bin_mul, un_not, natOf_nat, Bool.not_eq_false', Prod.mk.injEq, and_assoc, decide_false, decide_true, Bool.not_false, Bool.not_true, Bool.true_eq_false, Bool.false_eq_true, exists_false, Bool.not_eq_false, Bool.not_not, AV.val.injEq, AV.ptr.injEq, AV.slice.injEq, AV.func.injEq, AV.tuple.injEq, AV.agg.injEq, Value.bool.injEq, Value.int.injEq, Option.some.injEq, exists_eq_left', exists_eq_left, exists_and_left, exists_and_right, and_true, true_and, decide_eq_true_eq, decide_eq_false_iff_not, if_true, if_false, Bool.not_eq_true', beq_true, beq_false, ne_eq, not_true_eq_false, not_false_eq_true, reduceCtorEq, List.getD_cons_zero, List.getD_cons_succ, List.map_cons, List.map_nil, List.append_nil, Nat.reduceEqDiff, reduceIte, ite_true, ite_false, or_true, true_or, or_false, false_or, resA, resultsA, true_imp_iff, false_imp_iff, implies_true, imp_false, and_self, imp_self, and_false, false_and, forall_const, cell_val, cell_ptr, cell_slice, cell_func, cell_hole, cells_agg, cells_val, cells_ptr, cells_slice, cells_func, cells_hole, cells_cell, List.length_cons, List.length_nil, List.all_cons, List.all_nil, Bool.and_self, ldA, List.mapM_cons, List.mapM_nil, Option.bind_eq_bind, Option.bind_some, Option.pure_def, Option.map_none, Option.map_some, List.set_cons_zero, List.set_cons_succ, Nat.lt_add_one, List.append_assoc, List.cons_append, List.nil_append, List.append_nil, List.length_append, rd1_n0, rd1_nK, rd1_c0, rd1_cS, rd_n0, rd_nK, rd_c0, rd_cS, fillA, List.take_zero, List.take_succ_cons, List.take_nil, List.drop_zero, List.drop_succ_cons, List.drop_nil, List.getElem?_cons_zero, List.getElem?_cons_succ, Nat.reduceAdd, Nat.reduceLeDiff, Nat.add_eq_zero_iff, and_self, Nat.zero_add, Nat.add_zero, Nat.mul_one, A1_copyG, c1, c2, hc, wa, hln, *]) | (simp only [goO, AO_nil, then_normal, goC]) | (with_reducible apply And.intro) | (with_reducible intro _))
    exact FI.out
  · have hm : m = n := by omega
    subst hm
    have g3 : ((m : Int) < (m : Int)) = False := by simp
    have hrp : repC x m m = (List.replicate m x).map I64 := by unfold repC; simp
    have fin : K (.slice h.length 0 m m true 1) (h ++ [some (repC x m m)]) := by rw [hrp]; exact HK.out
    clear hrp
    clear g0 g1 g2
    have g4 : ¬ ((m : Int) < (m : Int)) := by omega
    repeat' (first | (simp only [AW_next, AW_ops, AW_opsD, AW_cond, AW_block, AW_exit, AW_ret, AW_skip, AW_scope, AO_nil, AO_next, AO_nextW, wantB_bool, wantK_some, then_normal, then_exit, then_ret, inBlk_normal, inBlk_exit, inBlk_ret, A1_mv, A1_pick, A1_box, A1_zero, A1_build, A1_lits, A1_load, shallow_none, A1_store, A1_nilCheckI, nilOk_ptr, nilOk_func, A1_bin, A1_eqNil, A1_eqBool, A1_eqAgg, A1_un, A1_conv, A1_field, A1_fieldAddr, A1_indexAddr, A1_indexArr, A1_index, A1_slice, A1_mkSlice, A1_extract, A1_func, A1_call, callee_func, callee_bfunc, A1_append, A1_len, A1_minmax, put_some, put_none, upd_at, ev_tmp, ev_av, bin_lss, bin_leq, bin_gtr, bin_geq, bin_eql, bin_neq, bin_add, bin_sub, bin_mul, un_not, natOf_nat, Bool.not_eq_false', Prod.mk.injEq, and_assoc, decide_false, decide_true, Bool.not_false, Bool.not_true, Bool.true_eq_false, Bool.false_eq_true, exists_false, Bool.not_eq_false, Bool.not_not, AV.val.injEq, AV.ptr.injEq, AV.slice.injEq, AV.func.injEq, AV.tuple.injEq, AV.agg.injEq, Value.bool.injEq, Value.int.injEq, Option.some.injEq, exists_eq_left', exists_eq_left, exists_and_left, exists_and_right, and_true, true_and, decide_eq_true_eq, decide_eq_false_iff_not, if_true, if_false, Bool.not_eq_true', beq_true, beq_false, ne_eq, not_true_eq_false, not_false_eq_true, reduceCtorEq, List.getD_cons_zero, List.getD_cons_succ, List.map_cons, List.map_nil, List.append_nil, Nat.reduceEqDiff, reduceIte, ite_true, ite_false, or_true, true_or, or_false, false_or, resA, resultsA, true_imp_iff, false_imp_iff, implies_true, imp_false, and_self, imp_self, and_false, false_and, forall_const, cell_val, cell_ptr, cell_slice, cell_func, cell_hole, cells_agg, cells_val, cells_ptr, cells_slice, cells_func, cells_hole, cells_cell, List.length_cons, List.length_nil, List.all_cons, List.all_nil, Bool.and_self, ldA, List.mapM_cons, List.mapM_nil, Option.bind_eq_bind, Option.bind_some, Option.pure_def, Option.map_none, Option.map_some, List.set_cons_zero, List.set_cons_succ, Nat.lt_add_one, List.append_assoc, List.cons_append, List.nil_append, List.append_nil, List.length_append, rd1_n0, rd1_nK, rd1_c0, rd1_cS, rd_n0, rd_nK, rd_c0, rd_cS, fillA, List.take_zero, List.take_succ_cons, List.take_nil, List.drop_zero, List.drop_succ_cons, List.drop_nil, List.getElem?_cons_zero, List.getElem?_cons_succ, Nat.reduceAdd, Nat.reduceLeDiff, Nat.add_eq_zero_iff, and_self, Nat.zero_add, Nat.add_zero, Nat.mul_one, hln, *]) | (simp only [goO, AO_nil, then_normal, goC]) | (with_reducible apply And.intro) | (with_reducible intro _))
end
section
variable {tb : List (FuncId × Bool)} {L : Nat → Bool} {H : ZH} {K : ZV → ZH → Prop}
theorem repeat_z {z : ZV} {x : Int} {n : Nat} (hz : rowsZ H 1 z = some [[Z64 x]]) (hn : n ≤ 1000) (hK : K (.own H.length 0 0 n false) (H ++ [.grow 0 1 ((List.replicate n x).map eI)])) :
    ZC (constX tb) (cFunc Try.prog) 38 [z, Z64 (n : Nat)] L H K := by
  intro fl w args r e ha
  subst e
  obtain ⟨a, ha0, ha1⟩ := ha.get (i := 0) rfl
  obtain ⟨b, hb0, hb1⟩ := ha.get (i := 1) rfl
  have e2 : args = [a, b] := by
    have := ha.1
    match args, this, ha0, hb0 with
    | [x, y], _, hv0, hu0 => simp at hv0 hu0; rw [hv0, hu0]
  subst e2
  have e3 := hb1.val_inv
  subst e3
  refine repeat_am hn (il_of r ha1 (l := [x]) hz) r.fresh ?_
  have hnew : NewI w.h (w.h ++ [some ((List.replicate n x).map I64)]) (.slice w.h.length 0 n n false 1) (List.replicate n x) := by
    refine ⟨⟨by simp, .inr ⟨w.h.length, n, (List.replicate n x).map I64, by simp, by simp, by simp, by rw [blk_at0]; rfl, by simp⟩⟩, by simp [idOf], Keep.ext _ _⟩
  obtain ⟨w', q1, q2, q3, q4, q5⟩ := newI_w r hnew
  rw [List.length_replicate] at q5
  exact ⟨_, w', q1, q3, q4, q5.ownEx, by rw [q2]; exact hK⟩
end
end Go.Proofs.Ytfmllmcjinjfaaa

namespace Go.Proofs.Ytfmllmcjinjfaaa
open Go Go.RowKit
set_option linter.unusedVariables false
set_option linter.unusedSimpArgs false
variable {tb : List (FuncId × Bool)} {L : Nat → Bool} {H : ZH} {K : ZV → ZH → Prop}
structure RevI (l : List Int) (a : Nat) (R : List Int) : Prop where
  len : R.length = l.length
  hd : ∀ k, k < l.length → (k < a ∨ l.length ≤ k + a) → R[k]? = l[l.length - 1 - k]?
  md : ∀ k, k < l.length → ¬ (k < a ∨ l.length ≤ k + a) → R[k]? = l[k]?
theorem RevI.start {l : List Int} : RevI l 0 l := ⟨rfl, fun k h q => by omega, fun k h q => rfl⟩
theorem RevI.done {l R : List Int} {a : Nat} (h : RevI l a R) (ha : l.length ≤ 2 * a + 1) : R = l.reverse := by
  refine List.ext_getElem? fun k => ?_
  by_cases hk : k < l.length
  · rw [List.getElem?_reverse hk]
    by_cases q : k < a ∨ l.length ≤ k + a
    · exact h.hd k hk q
    · rw [h.md k hk q]
      congr 1; omega
  · rw [List.getElem?_eq_none (by rw [h.len]; omega), List.getElem?_eq_none (by rw [List.length_reverse]; omega)]
theorem RevI.next {l R : List Int} {a b : Nat} {x y : Int} (h : RevI l a R) (hb : b + a + 1 = l.length) (hab : a < b) (hx : R[a]? = some x) (hy : R[b]? = some y) : RevI l (a + 1) ((R.set a y).set b x) := by
  have e1 := h.md a (by omega) (by omega)
  have e2 := h.md b (by omega) (by omega)
  rw [hx] at e1
  rw [hy] at e2
  have hR := h.len
  refine ⟨by simp [hR], fun k hk q => ?_, fun k hk q => ?_⟩
  · by_cases k1 : b = k
    · subst k1
      rw [List.getElem?_set_self (by simp; omega), e1]
      congr 1; omega
    · rw [List.getElem?_set_ne k1]
      by_cases k2 : a = k
      · subst k2
        rw [List.getElem?_set_self (by omega), e2]
        congr 1; omega
      · rw [List.getElem?_set_ne k2]
        exact h.hd k hk (by omega)
  · rw [List.getElem?_set_ne (by omega), List.getElem?_set_ne (by omega)]
    exact h.md k hk (by omega)
set_option maxHeartbeats 4000000 in
theorem reverse_z {i g : Nat} {l : List Int} (hb : H[i]? = some (.grow g 1 (l.map eI))) (hl : l.length ≤ 1000000) (hL : L i = true) (hK : K .no (H.set i (.grow g 1 (l.reverse.map eI)))) :
    ZC (constX tb) (cFunc Try.prog) 40 [.own i g 0 l.length false] L H K := by
  refine ZC.enter Gh.no constX_none f_ow_reverse (by simp) ?_
  simp only [c_ow_reverse]
  have FI := Lib.hid (Fin.keep hK : Fin H .no (H.set i (.grow g 1 (l.reverse.map eI))) K)
  have hln : lenZ H (.own i g 0 l.length false) = some l.length := by rw [len_own]; exact ⟨_, _, hb, rfl⟩
  have w1 : IntKind.i64.wrap ((l.length : Int) - 1) = (l.length : Int) - 1 - ((0 : Nat) : Int) := by rw [IntWalk.i64_in _ (by omega)]; omega
  have hi : i < H.length := (List.getElem?_eq_some_iff.1 hb).1
  have h0 : H = H.set i (.grow g 1 (l.map eI)) := by rw [← (List.getElem?_eq_some_iff.1 hb).2, List.set_getElem_self]
  have H0 := Lib.hid h0
  have HI := Lib.hid hi
  have HL := Lib.hid hl
  clear hK h0 hb hi hl
  repeat' (first | (simp only [zmPack, zxPack, ne_eq, zfree, owners, Nat.reduceLT, List.contains_cons, List.contains_nil, Nat.reduceBEq, BEq.rfl, chunk, setAt, List.lookup_cons, List.lookup_nil, reduceCtorEq, Nat.reduceEqDiff, reduceIte, implies_true, forall_const, Nat.reduceMul, Nat.reduceSub, Nat.reduceAdd, Nat.reduceLeDiff, hln, w1, *]) | (simp only [zgoO, zgoG, zO_nil, zthen_normal, zgoC]) | (with_reducible apply And.intro) | (with_reducible intro _))
  clear hln w1
  refine zW_whileK [(0, .own i g 0 l.length false)] l.length (fun n s' h' => ∃ (a : Nat) (R : List Int), s' 2 = Z64 (a : Int) ∧ s' 3 = Z64 ((l.length : Int) - 1 - (a : Int)) ∧ h' = H.set i (.grow g 1 (R.map eI)) ∧ RevI l a R ∧ n = l.length - a) (by repeat' (first | exact trivial | (refine ⟨rfl, ?_⟩) | (refine ⟨by simp only [zupd_at, Nat.reduceEqDiff, reduceIte]; assumption, ?_⟩))) rfl ⟨0, l, rfl, rfl, H0.out, RevI.start, rfl⟩ ?_
  clear H0
  rintro n s' h' ⟨a, R, f2, f3, rfl, hR, rfl⟩ ⟨f0, -⟩
  have hl := HL.out
  have hRl := hR.len
  have HRR := Lib.hid hR
  clear hR
  by_cases hc : (a : Int) < (l.length : Int) - 1 - (a : Int)
  · obtain ⟨b, hb⟩ : ∃ b : Nat, b + a + 1 = l.length := ⟨l.length - 1 - a, by omega⟩
    have eb : (l.length : Int) - 1 - (a : Int) = (b : Int) := by omega
    rw [eb] at f3 hc
    have hab : a < b := by omega
    obtain ⟨x, hx⟩ : ∃ x, R[a]? = some x := ⟨_, List.getElem?_eq_getElem (by omega)⟩
    obtain ⟨y, hy⟩ : ∃ y, R[b]? = some y := ⟨_, List.getElem?_eq_getElem (by omega)⟩
    have hn := HRR.out.next hb hab hx hy
    obtain ⟨H1, hH1⟩ : ∃ H1, H1 = H.set i (.grow g 1 (R.map eI)) := ⟨_, rfl⟩
    obtain ⟨H2, hH2⟩ : ∃ H2, H2 = H1.set i (.grow g 1 ((R.set a y).map eI)) := ⟨_, rfl⟩
    obtain ⟨H3, hH3⟩ : ∃ H3, H3 = H2.set i (.grow g 1 (((R.set a y).set b x).map eI)) := ⟨_, rfl⟩
    have hb1 : H1[i]? = some (.grow g 1 (R.map eI)) := by rw [hH1, List.getElem?_set_self HI.out]
    have hb2 : H2[i]? = some (.grow g 1 ((R.set a y).map eI)) := by rw [hH2, List.getElem?_set_self (by rw [hH1, List.length_set]; exact HI.out)]
    have e1 : elemZ H1 1 a (.own i g 0 l.length false) = some (.eptr i g a 0) := by rw [elem_own]; exact ⟨_, hb1, by simp; omega, by omega, by simp⟩
    have e2 : elemZ H1 1 b (.own i g 0 l.length false) = some (.eptr i g b 0) := by rw [elem_own]; exact ⟨_, hb1, by simp; omega, by omega, by simp⟩
    have e3 : elemZ H2 1 b (.own i g 0 l.length false) = some (.eptr i g b 0) := by rw [elem_own]; exact ⟨_, hb2, by simp; omega, by omega, by simp⟩
    have l1 : ldZ H1 none (.eptr i g a 0) = some (Z64 x) := by rw [ld_eptr]; exact ⟨_, _, _, hb1, by rw [List.getElem?_map, hx]; rfl, rfl⟩
    have l2 : ldZ H1 none (.eptr i g b 0) = some (Z64 y) := by rw [ld_eptr]; exact ⟨_, _, _, hb1, by rw [List.getElem?_map, hy]; rfl, rfl⟩
    have s1 : stZ L H1 [Z64 y] (.eptr i g a 0) = some H2 := by
      rw [st_eptr]
      exact ⟨1, _, eI x, hb1, by rw [List.getElem?_map, hx]; rfl, hL, by simp [eI], by rw [hH2, List.map_set]; rfl⟩
    have s2 : stZ L H2 [Z64 x] (.eptr i g b 0) = some H3 := by
      rw [st_eptr]
      exact ⟨1, _, eI y, hb2, by rw [List.getElem?_map, List.getElem?_set_ne (by omega), hy]; rfl, hL, by simp [eI], by rw [hH3, List.map_set (l := R.set a y)]; rfl⟩
    have wa : IntKind.i64.wrap ((a : Int) + 1) = ((a + 1 : Nat) : Int) := by rw [IntWalk.i64_in _ (by omega)]; omega
    have wb : IntKind.i64.wrap ((b : Int) - 1) = (l.length : Int) - 1 - ((a + 1 : Nat) : Int) := by rw [IntWalk.i64_in _ (by omega)]; omega
    have h3 : H3 = H.set i (.grow g 1 (((R.set a y).set b x).map eI)) := by rw [hH3, hH2, hH1, List.set_set, List.set_set]
    rw [← hH1]
    have H3' := Lib.hid h3
    have HN := Lib.hid hn
    have HM := Lib.hid (show l.length - (a + 1) < l.length - a by omega)
    clear hH1 hH2 hH3 h3 hn hb1 hb2 hx hy hRl HL HRR HI FI hb eb hl
    repeat' (first | (simp only [zmPack, zxPack, ne_eq, zfree, owners, Nat.reduceLT, List.contains_cons, List.contains_nil, Nat.reduceBEq, BEq.rfl, chunk, setAt, List.lookup_cons, List.lookup_nil, reduceCtorEq, Nat.reduceEqDiff, reduceIte, implies_true, forall_const, Nat.reduceMul, Nat.reduceSub, Nat.reduceAdd, Nat.reduceLeDiff, e1, e2, e3, l1, l2, s1, s2, wa, wb, *]) | (simp only [zgoO, zgoG, zO_nil, zthen_normal, zgoC]) | (with_reducible apply And.intro) | (with_reducible intro _))
    all_goals first | exact ⟨_, HM.out, a + 1, rfl, rfl, _, H3'.out, HN.out, rfl⟩ | exact ⟨_, HM.out, a + 1, rfl, _, H3'.out, HN.out, rfl⟩
  · have e := HRR.out.done (by omega)
    have fin := FI.out
    rw [← e] at fin
    clear FI HRR HL HI hRl hl e
    repeat' (first | (simp only [zmPack, zxPack, ne_eq, zfree, owners, Nat.reduceLT, List.contains_cons, List.contains_nil, Nat.reduceBEq, BEq.rfl, chunk, setAt, List.lookup_cons, List.lookup_nil, reduceCtorEq, Nat.reduceEqDiff, reduceIte, implies_true, forall_const, Nat.reduceMul, Nat.reduceSub, Nat.reduceAdd, Nat.reduceLeDiff, *]) | (simp only [zgoO, zgoG, zO_nil, zthen_normal, zgoC]) | (with_reducible apply And.intro) | (with_reducible intro _))
    all_goals exact ⟨_, rfl, fin⟩
end Go.Proofs.Ytfmllmcjinjfaaa

namespace Go.Proofs.Ytfmllmcjinjfaaa
open Go Go.RowKit
set_option linter.unusedVariables false
set_option linter.unusedSimpArgs false
theorem unv_rep : ∀ n : Nat, unv (List.replicate n (-2)) = n
  | 0 => rfl
  | n + 1 => by rw [List.replicate_succ]; simp only [unv, unv_rep n, if_pos]; omega
theorem tot_rep : ∀ n : Nat, tot (List.replicate n ((none, []) : Fr)) = 0
  | 0 => rfl
  | n + 1 => by rw [List.replicate_succ]; simp only [tot, tot_rep n, List.length_nil]
variable {H : ZH} {ex : Bool} {has : List (List Int)} {zr z0 z1 : ZV} {roots : List Int}
def domH (H : ZH) (ex : Bool) (has : List (List Int)) (zr : ZV) : ZH := H ++
      [ZB.box [ZV.fz 1 ex (List.map eL has), zr],
        ZB.grow 0 1 (List.map eI (List.replicate has.length (-2))),
        ZB.grow 0 1 (List.replicate has.length [.nil]),
        ZB.grow 0 1 (List.map eI (List.replicate has.length (-2))), ZB.grow 0 1 [],
        ZB.box
          [ZV.fz 1 ex (List.map eL has), zr,
            ZV.own (List.length H + 1) 0 0 has.length false, ZV.own (List.length H + 4) 0 0 0 false,
            ZV.own (List.length H + 2) 0 0 has.length true, ZV.own (List.length H + 3) 0 0 has.length false]]
theorem domH_at {n : Nat} : (domH H ex has zr)[H.length + n]? = ([ZB.box [ZV.fz 1 ex (List.map eL has), zr],
        ZB.grow 0 1 (List.map eI (List.replicate has.length (-2))),
        ZB.grow 0 1 (List.replicate has.length [.nil]),
        ZB.grow 0 1 (List.map eI (List.replicate has.length (-2))), ZB.grow 0 1 [],
        ZB.box
          [ZV.fz 1 ex (List.map eL has), zr,
            ZV.own (List.length H + 1) 0 0 has.length false, ZV.own (List.length H + 4) 0 0 0 false,
            ZV.own (List.length H + 2) 0 0 has.length true, ZV.own (List.length H + 3) 0 0 has.length false]] : ZH)[n]? := by
  unfold domH
  rw [List.getElem?_append_right (by omega), Nat.add_sub_cancel_left]
theorem WS.new (hN : has.length ≤ 100) : WS (H.length + 1) (domH H ex has zr) (H.length + 5) zr (H.length + 1) (H.length + 4) 0 (H.length + 2) (H.length + 3) true ex has (List.replicate has.length (-2)) [] (List.replicate has.length (none, [])) (List.replicate has.length (-2)) := by
  have hm : ∀ {n : Nat} {x : Fr}, x ∈ List.replicate n ((none, []) : Fr) → x = (none, []) := fun h => List.eq_of_mem_replicate h
  refine ⟨⟨?_, ?_, ?_, ?_, ?_, fun x hx => ?_, ⟨by omega, by omega, by omega, by omega, by omega, by omega⟩, fun x hx j g e => ?_, fun a b x y j g1 g2 hx hy e1 e2 => ?_⟩, ⟨by omega, by omega, by omega, by omega, by omega, fun x hx j g e => ?_⟩, by simp, by simp, fun y hy => .inl (List.eq_of_mem_replicate hy), ?_, ?_⟩
  · rw [domH_at]; simp
  · rw [domH_at]; rfl
  · rw [domH_at]; rfl
  · rw [domH_at]; simp [frZ]
  · rw [domH_at]; rfl
  · rw [hm hx]
  · rw [hm hx] at e; cases e
  · rw [hm (List.mem_of_getElem? hx)] at e1; cases e1
  · rw [hm hx] at e; cases e
  · rw [unv_rep, tot_rep]; omega
  · rw [unv_rep]; simp; omega
structure WR (B : Nat) (H : ZH) (p : Nat) (zr : ZV) (pb ob fb db : Nat) (ef ex : Bool) (has : List (List Int)) (roots : List Int) (DM : List Int) (i : Nat) (H1 : ZH) (go1 : Nat) (PL1 OR1 : List Int) (FR1 : List Fr) (X : List Nat) : Prop where
  ws : WS B H1 p zr pb ob go1 fb db ef ex has PL1 OR1 FR1 DM
  fr : FrW B H H1
  wi : WI has.length has (fun t => (t : Int) ∈ roots) (fun v t => v = -1 ∧ (t : Int) ∈ roots.take i) (fun _ => False) (List.replicate has.length (-2)) [] (List.replicate has.length (none, [])) X PL1 OR1 FR1
  cl : ∀ t : Nat, (t : Int) ∈ roots.take i → PL1[t]? = some (-1)
  pot : tot FR1 + 1000 * unv PL1 ≤ 100000 + i
  cnt : OR1.length + unv PL1 ≤ 100
variable {B p pb ob fb db k n go : Nat} {ef : Bool} {PL OR DM : List Int} {FR : List Fr}
theorem WR.start (hN : has.length ≤ 100) (W : WS B H p zr pb ob go fb db ef ex has (List.replicate has.length (-2)) [] (List.replicate has.length (none, [])) DM) : WR B H p zr pb ob fb db ef ex has roots DM 0 H go (List.replicate has.length (-2)) [] (List.replicate has.length (none, [])) [] :=
  ⟨W, FrW.rfl', (WI.start (fun t _ h => h.elim) (fun t _ _ => rfl) rfl).congr (by simp), fun t h => by simp at h, by rw [unv_rep, tot_rep]; omega, by rw [unv_rep]; simpa using hN⟩
theorem WR.next {i : Nat} {H1 H2 H3 : ZH} {go1 go2 : Nat} {PL1 OR1 PL2 OR2 : List Int} {FR1 FR2 : List Fr} {X X2 : List Nat} {t : Nat} {x x' : Fr} (hrl : roots.length ≤ 1000) (M : WR B H p zr pb ob fb db ef ex has roots DM i H1 go1 PL1 OR1 FR1 X) (hi : roots[i]? = some (t : Int))
    (E : WE B H1 p zr pb ob fb db ef ex has PL1 OR1 FR1 DM t H2 go2 PL2 OR2 FR2 X2) (hx : FR2[t]? = some x) (hx' : x'.2 = x.2 ++ [(-1 : Int)]) (hT : TrA H3 p (.fz 1 ex (has.map eL)) zr pb ob go2 fb db ef PL2 OR2 (FR2.set t x') DM) (hB : TrB B p pb ob fb db (FR2.set t x')) (hF : FrW B H2 H3) :
    WR B H p zr pb ob fb db ef ex has roots DM (i + 1) H3 go2 PL2 OR2 (FR2.set t x') (X ++ X2) := by
  have hil := (List.getElem?_eq_some_iff.1 hi).1
  have hts := tot_set hx hx'
  have q1 := M.pot
  have q2 := M.cnt
  have r1 := E.pot
  have r2 := E.cnt
  have htk : roots.take (i + 1) = roots.take i ++ [(t : Int)] := by rw [List.take_add_one, hi]; rfl
  have hc := M.wi.cat E.wi (List.mem_of_getElem? hi) (by simp)
  refine ⟨⟨hT, hB, E.ws.pn, by rw [List.length_set]; exact E.ws.fn, E.ws.pv, by omega, by omega⟩, (M.fr.trans E.fr).trans hF, (hc.tell hx hx').congr fun v u => ?_, fun u hu => ?_, by omega, by omega⟩
  · rw [htk, List.mem_append, List.mem_singleton]
    constructor
    · rintro (⟨a, b⟩ | ⟨a, b⟩)
      · exact ⟨a, .inl b⟩
      · exact ⟨a, .inr (by rw [b])⟩
    · rintro ⟨a, b | b⟩
      · exact .inl ⟨a, b⟩
      · exact .inr ⟨a, by omega⟩
  · rw [htk, List.mem_append, List.mem_singleton] at hu
    rcases hu with hu | hu
    · have q := M.cl u hu
      have hun : u < has.length := by have := (List.getElem?_eq_some_iff.1 q).1; rw [M.ws.pn] at this; exact this
      by_cases h3 : u ∈ X2
      · exact (E.wi.mrk u hun).1 (.inr h3)
      · rw [(E.wi.mrk u hun).2 (by simp [h3])]; exact q
    · have : u = t := by omega
      subst this
      exact E.vis
end Go.Proofs.Ytfmllmcjinjfaaa
