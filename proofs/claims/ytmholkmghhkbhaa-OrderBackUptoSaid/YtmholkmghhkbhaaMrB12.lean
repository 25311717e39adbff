/-
  The writer of bytes in ZM: numbers, places.
-/
import Derived.Test.YtmholkmghhkbhaaMrB10
set_option linter.unusedVariables false
set_option linter.unusedSimpArgs false
namespace Go.Proofs.Ytmholkmghhkbhaa
open Go Go.RowKit
section
variable {tb : List (FuncId × Bool)} {L : Nat → Bool} {H : ZH} {K : ZV → ZH → Prop}
def wtH (H : ZH) (p j g : Nat) (out : List Int) : ZH := (H.set j (.grow g 1 (out.map eC))).set p (.box [.own j g 0 out.length false])
theorem wt_p {p j g : Nat} {out : List Int} (hp : p < H.length) : (wtH H p j g out)[p]? = some (.box [.own j g 0 out.length false]) := by simp [wtH, hp]
theorem wt_j {p j g : Nat} {out : List Int} (hj : j < H.length) (hpj : p ≠ j) : (wtH H p j g out)[j]? = some (.grow g 1 (out.map eC)) := by
 unfold wtH
 rw [List.getElem?_set, if_neg hpj]
 simp [hj]
theorem wt_ne {p j g i : Nat} {out : List Int} (h1 : i ≠ p) (h2 : i ≠ j) : (wtH H p j g out)[i]? = H[i]? := by
 unfold wtH
 rw [List.getElem?_set, if_neg (Ne.symm h1), List.getElem?_set, if_neg (Ne.symm h2)]
theorem wt_wt {p j g g' : Nat} {out out' : List Int} (hpj : p ≠ j) : wtH (wtH H p j g out) p j g' out' = wtH H p j g' out' := by
 unfold wtH
 rw [List.set_comm _ _ hpj, List.set_set, List.set_set]
theorem wt_next {p j g g' : Nat} {out out' : List Int} (hpj : p ≠ j) : ((wtH H p j g out).set j (.grow g' 1 (out'.map eC))).set p (.box [.own j g' 0 out'.length false]) = wtH H p j g' out' := wt_wt hpj
theorem jaW {p j g : Nat} {out : List Int} : (wtH H p j g out).length = H.length := by simp [wtH]
theorem wt_app {p j g : Nat} {out : List Int} {X : ZH} (hp : p < H.length) (hj : j < H.length) : wtH (H ++ X) p j g out = wtH H p j g out ++ X := by
 unfold wtH
 rw [List.set_append_left _ _ hj, List.set_append_left _ _ (by simpa using hp)]
theorem jlf {n : Nat} (out : List Int) : (out.map eC).flatten.all (jbA n) = true := by
 induction out with
 | nil => rfl
 | cons c r ih => simp [ih, jbA]
theorem jlg (out : List Int) : (out.map eC).flatten.all jb2 = true := by
 induction out with
 | nil => rfl
 | cons c r ih => simp [ih, jb2]
structure WtAt (H : ZH) (p j g : Nat) (out : List Int) : Prop where
  bx : H[p]? = some (.box [.own j g 0 out.length false])
  gr : H[j]? = some (.grow g 1 (out.map eC))
  ne : p ≠ j
theorem WtAt.same {p j g : Nat} {out : List Int} (h : WtAt H p j g out) : wtH H p j g out = H := by
 unfold wtH
 obtain ⟨h1, e1⟩ := List.getElem?_eq_some_iff.1 h.gr
 obtain ⟨h2, e2⟩ := List.getElem?_eq_some_iff.1 h.bx
 rw [show H.set j (.grow g 1 (out.map eC)) = H by rw [← e1]; exact List.set_getElem_self h1]
 rw [← e2]; exact List.set_getElem_self h2
theorem WtAt.app {p j g : Nat} {out : List Int} (h : WtAt H p j g out) (X : ZH) : WtAt (H ++ X) p j g out := ⟨by rw [List.getElem?_append_left (jas h.bx)]; exact h.bx, by rw [List.getElem?_append_left (jas h.gr)]; exact h.gr, h.ne⟩
theorem WtAt.wt {p j g g' : Nat} {out out' : List Int} (h : WtAt H p j g out) : WtAt (wtH H p j g' out') p j g' out' := ⟨wt_p (jas h.bx), wt_j (jas h.gr) h.ne, h.ne⟩
theorem jj3 {a b : Int} : binV .geq (.int .u64 a) (.int .u64 b) = some (.bool (decide (b ≤ a))) := by simp [binV]
theorem jjJ : ∀ (u : Nat), u < 18446744073709551616 → (encU u).length ≤ 10 := by
 have key : ∀ (n u : Nat), u < 128 ^ (n + 1) → (encU u).length ≤ n + 1 := by
  intro n
  induction n with
  | zero => intro u h; rw [jey (by simpa using h)]; simp
  | succ n ih =>
   intro u h
   by_cases h2 : u < 128
   ·rw [jey h2]; simp
   ·rw [jez h2]
    have := ih (u / 128) (by rw [Nat.pow_succ] at h; exact Nat.div_lt_of_lt_mul (by rw [Nat.mul_comm]; exact h))
    simp only [List.length_cons]; omega
 intro u h
 exact key 9 u (Nat.lt_of_lt_of_le h (by decide))
theorem jbp {α : Type} {f : α → List Int} {c : Nat} : ∀ {l : List α}, (∀ x ∈ l, (f x).length ≤ c) → (l.flatMap f).length ≤ c * l.length
 | [], _ => by simp
 | x :: l, h => by
  have h1 := h x (by simp)
  have h2 := jbp (l := l) fun y hy => h y (by simp [hy])
  simp only [List.flatMap_cons, List.length_append, List.length_cons, Nat.mul_add, Nat.mul_one]
  omega
theorem jaw {n : Int} (h : R64 n) : (encN n).length ≤ 10 := jjJ _ (jhp h)
theorem wt_mid {p j g : Nat} {out : List Int} {B : ZB} (hp : p < H.length) (hpj : p ≠ j) : ((wtH H p j g out).set j B)[p]? = some (.box [.own j g 0 out.length false]) := by
 rw [List.getElem?_set, if_neg (Ne.symm hpj)]; exact wt_p hp
theorem wt_fin {p j g : Nat} {out : List Int} {c : Int} (hpj : p ≠ j) : ((wtH H p j g out).set j (.grow (g + 1) 1 (out.map eC ++ [[.val (.int .u8 c)]]))).set p (.box [.own j (g + 1) 0 (out.length + 1) false]) = wtH H p j (g + 1) (out ++ [c]) := by
 have := wt_next (H := H) (g := g) (g' := g + 1) (out := out) (out' := out ++ [c]) hpj
 rw [← this]
 simp
theorem zres0 {S : ZS} {H : ZH} : jbH S H [] = some .no := rfl
def WnI (H : ZH) (p j : Nat) (o1 : List Int) (u0 : Nat) (n : Nat) (s' : ZS) (h' : ZH) : Prop := ∃ u g o2, n = u ∧ u < 18446744073709551616 ∧ s' 6 = U64v u ∧ h' = wtH H p j g o2 ∧ o1 ++ encU u0 = o2 ++ encU u ∧ o2.length ≤ 91000000000
set_option maxHeartbeats 8000000 in
theorem nums_z {p j g : Nat} {out l : List Int} (hw : WtAt H p j g out) (hL : L p = true ∧ L j = true) (hl : ∀ n ∈ l, R64 n) (hb : out.length + 10 * l.length ≤ 90000000000) (hn : l.length ≤ 10000000000) (hK : ∀ g', K .no (wtH H p j g' (out ++ l.flatMap encN))) :
  ZC (boxY tb) (jap Try.prog) 12 [.ptr p 0, .fz 1 true (l.map eI)] L H K := by
 obtain ⟨hLp, hLj⟩ := hL
 have hpl := jas hw.bx
 have hjl := jas hw.gr
 have hpj := hw.ne
 refine ZC.enter Gh.no (jan (by decide)) jm7 (by simp) ?_
 simp only [jic]
 have F0 := Lib.hid hK
 have HS := Lib.hid hw.same.symm
 have HR := Lib.hid hl
 have HL := Lib.hid hb
 clear hK hl hw hb
 have ap := fun g o => wt_p (H := H) (j := j) (g := g) (out := o) hpl
 have aj := fun g o => wt_j (H := H) (p := p) (g := g) (out := o) hjl hpj
 have am := fun g o B => wt_mid (H := H) (j := j) (g := g) (out := o) (B := B) hpl hpj
 have af := fun g o c => wt_fin (H := H) (p := p) (j := j) (g := g) (out := o) (c := c) hpj
 have hml : (l.map eI).length = l.length := List.length_map ..
 repeat' (first | (simp only [zP, jaf, jaa, jad, jae, seval, Nat.reduceLeDiff, hml, *]) | (simp only [jab]) | (with_reducible apply And.intro) | (with_reducible intro _))
 refine jaP [(0, .ptr p 0), (7, .fz 1 true (l.map eI))] l.length (fun k s' h' => ∃ g', h' = wtH H p j g' (out ++ (l.take k).flatMap encN)) (by omega) ⟨rfl, rfl, rfl, rfl, rfl, rfl⟩ rfl rfl (by repeat' (first | exact trivial | (refine ⟨rfl, ?_⟩) | (refine ⟨by simp only [jaE, Nat.reduceEqDiff, reduceIte]; assumption, ?_⟩))) rfl rfl (by decide) ⟨g, by simpa using HS.out⟩ ?_ ?_
 ·rintro k s' h' hk ⟨g', rfl⟩ hi hl' ⟨f0, f7, -⟩
  obtain ⟨n, hnk⟩ : ∃ n, l[k]? = some n := ⟨_, List.getElem?_eq_getElem hk⟩
  have hnr : R64 n := HR.out n (List.mem_of_getElem? hnk)
  obtain ⟨x, y, z, q1, q2, q3, q4⟩ := zigz hnr
  have hzl := jhp hnr
  have hnext : (l.take (k + 1)).flatMap encN = (l.take k).flatMap encN ++ encN n := by
   rw [List.take_add_one, List.flatMap_append, hnk]; simp
  obtain ⟨o1, ho1⟩ : ∃ o1, o1 = out ++ (l.take k).flatMap encN := ⟨_, rfl⟩
  have ho1l : o1.length ≤ 90000000000 := by
   have h1 := jbp (c := 10) (f := encN) (l := l.take k) fun m hm => jaw (HR.out m (List.mem_of_mem_take hm))
   rw [List.length_take] at h1
   have h2 := HL.out
   rw [ho1, List.length_append]
   have : min k l.length ≤ l.length := Nat.min_le_right ..
   omega
  obtain ⟨u0, hu0⟩ : ∃ u0, u0 = zig n := ⟨_, rfl⟩
  have HN := Lib.hid (show ∀ g', ∃ g'', wtH H p j g' (o1 ++ encU u0) = wtH H p j g'' (out ++ (l.take (k + 1)).flatMap encN) from fun g' => ⟨g', by rw [hnext, ho1, hu0]; unfold encN; rw [List.append_assoc]⟩)
  have HU := Lib.hid (show (encU u0).length ≤ 10 from by rw [hu0]; exact jjJ _ hzl)
  rw [← ho1]
  rw [← hu0] at q4 hzl
  clear ho1 hnext hnr hu0
  repeat' (first | (simp only [zP, jaf, jaa, jad, jae, seval, Nat.reduceLeDiff, f0, f7, hnk, Option.map_some, q1, q2, q3, q4, *]) | (simp only [jab]) | (with_reducible apply And.intro) | (with_reducible intro _))
  refine jfg [(0, .ptr p 0), (7, .fz 1 true (l.map eI))] u0 (WnI H p j o1 u0) (by repeat' (first | exact trivial | (refine ⟨rfl, ?_⟩) | (refine ⟨by simp only [jaE, Nat.reduceEqDiff, reduceIte]; assumption, ?_⟩))) rfl ⟨u0, g', o1, rfl, hzl, rfl, rfl, rfl, by omega⟩ ?_
  rintro u s2 h2 ⟨_, g2, o2, rfl, hu64, s6, rfl, hout, ho2⟩ ⟨e0, e7, -⟩
  have w8 : IntKind.u8.wrap (u : Int) = ((u % 256 : Nat) : Int) := by rw [wr8]; omega
  have hre : o2.length + 1 ≤ jaN := by unfold jaN; omega
  have htk : (o2.map eC).take o2.length = o2.map eC := List.take_of_length_le (by simp)
  have hln : o2.length ≤ (o2.map eC).length := by simp
  by_cases h128 : u < 128
  ·have h128' : ¬ (128 : Int) ≤ (u : Int) := by omega
   have w8' : IntKind.u8.wrap (u : Int) = (u : Int) := by rw [wr8]; omega
   have hgo := HN.out (g2 + 1)
   rw [hout, jey h128] at hgo
   have HG := Lib.hid hgo
   clear HN HU hgo hout F0 HS HR HL w8
   repeat' (first | (simp only [zP, jaf, jaa, jad, jae, seval, Nat.reduceLeDiff, e0, e7, s6, ap, aj, am, af, hLp, hLj, h128', jj3, w8', hre, htk, hln, *]) | (simp only [jab]) | (with_reducible apply And.intro) | (with_reducible intro _))
   exact HG.out
  ·have h128' : (128 : Int) ≤ (u : Int) := by omega
   have o8 := or_u8 (u := u)
   have s7 := shr7 hu64
   have hlen : o2.length < o2.length + (encU u).length - 1 := by
    rw [jez h128]
    have : 1 ≤ (encU (u / 128)).length := by
     by_cases h : u / 128 < 128
     ·rw [jey h]; simp
     ·rw [jez h]; simp
    simp only [List.length_cons]; omega
   have hnx := Lib.hid (show ∃ m, m < u ∧ WnI H p j o1 u0 m (zupd (zupd s2 35 (U64v (u / 128))) 6 (U64v (u / 128))) (wtH H p j (g2 + 1) (o2 ++ [((u % 128 + 128 : Nat) : Int)])) from ⟨u / 128, by omega, u / 128, g2 + 1, _, rfl, by omega, by simp [zupd], rfl, by rw [hout, jez h128]; simp, by
    have := congrArg List.length hout
    have h10 := HU.out
    simp only [List.length_append] at this ⊢
    simp only [List.length_cons, List.length_nil]
    omega⟩)
   clear HN HU hout F0 HS HR HL hlen
   repeat' (first | (simp only [zP, jaf, jaa, jad, jae, seval, Nat.reduceLeDiff, e0, e7, s6, ap, aj, am, af, hLp, hLj, h128', jj3, w8, o8, s7, hre, htk, hln, *]) | (simp only [jab]) | (with_reducible apply And.intro) | (with_reducible intro _))
   exact hnx.out
 ·rintro s' h' ⟨g', rfl⟩ ⟨f0, f7, -⟩
  rw [List.take_length]
  have fin : Fin H .no (wtH H p j g' (out ++ l.flatMap encN)) K := Fin.keep (F0.out g')
  repeat' (first | (simp only [zP, jaf, jaa, jad, jae, seval, Nat.reduceLeDiff, f0, f7, zres0, *]) | (simp only [jab]) | (with_reducible apply And.intro) | (with_reducible intro _))
end
end Go.Proofs.Ytmholkmghhkbhaa

namespace Go.Proofs.Ytmholkmghhkbhaa
open Go Go.RowKit
theorem jci {p : OPl} (h : PlR p) : (ja7 p).length ≤ 20 := by
 have h1 := jaw h.1
 have h2 := jaw h.2
 simp only [ja7, List.length_append]; omega
theorem jgV {p : OSt} (h : StR p) : (setE p).length ≤ 30 := by
 have h1 := jaw h.1
 have h2 := jci h.2
 simp only [setE, List.length_append]; omega
theorem jhQ {m : OMk} (h : MkR m) (hl : m.2.2.2.2.length ≤ 100) : (jc9 m).length ≤ 3000 := by
 obtain ⟨h1, h2, h3, h4, h5⟩ := h
 have a1 := jci (p := (m.1, m.2.1)) ⟨h1, h2⟩
 have a2 := jaw h3
 have a3 := jaw h4
 have a4 := jaw (n := (m.2.2.2.2.length : Int)) ⟨by omega, by omega⟩
 have a5 := jbp (c := 20) (f := ja7) (l := m.2.2.2.2) fun p hp => jci (h5 p hp)
 simp only [jc9, encL, List.length_append]; omega
theorem jfK {x : OXt} (h : XtR x) (hl : XtL x) : (jcb x).length ≤ 1000000 := by
 obtain ⟨h1, h2, h3, h4⟩ := h
 have l1 := hl.sets
 have l2 := hl.makes
 have a1 := jaw h1
 have a2 := jaw h2
 have a3 := jaw (n := (x.2.2.1.length : Int)) ⟨by omega, by omega⟩
 have a4 := jaw (n := (x.2.2.2.length : Int)) ⟨by omega, by omega⟩
 have a5 := jbp (c := 30) (f := setE) (l := x.2.2.1) fun p hp => jgV (h3 p hp)
 have a6 := jbp (c := 3000) (f := jc9) (l := x.2.2.2) fun p hp => jhQ (h4 p hp) (hl.vals p hp)
 simp only [jcb, encL, List.length_append]; omega
section
variable {tb : List (FuncId × Bool)} {L : Nat → Bool} {H : ZH} {K : ZV → ZH → Prop}
theorem jjo {p j g g' : Nat} {out out' : List Int} {X Y : ZH} (hj : j < H.length) : Mods (wtH H p j g out ++ X) (wtH H p j g' out' ++ (X ++ Y)) := by
 rw [← List.append_assoc]
 intro i B hi hB
 rw [List.getElem?_append_left (by simpa [jaW] using hi)] at hB
 by_cases h : i < H.length
 ·rw [List.getElem?_append_left (by rw [jaW]; exact h)] at hB ⊢
  unfold wtH at hB ⊢
  rw [List.getElem?_set] at hB ⊢
  split at hB
  ·split at hB
   ·injection hB with hB; subst hB
    right; simp [jiD, jbA, jaW]; omega
   ·cases hB
  ·rename_i hpi
   rw [if_neg hpi]
   rw [List.getElem?_set] at hB ⊢
   split at hB
   ·injection hB with hB; subst hB
    right; exact jlf out'
   ·rename_i hji
    rw [if_neg hji]; exact .inl hB
 ·rw [List.getElem?_append_right (by rw [jaW]; omega), jaW] at hB ⊢
  exact .inl hB
theorem jl1 {p j g g' : Nat} {out out' : List Int} {X Y : ZH} : (wtH H p j g' out' ++ (X ++ Y)).take (wtH H p j g out ++ X).length = wtH H p j g' out' ++ X := by
 rw [← List.append_assoc]
 exact List.take_left' (by simp [jaW])
theorem jeN {p j g : Nat} {out l : List Int} {X : ZH} (hp : p < H.length) (hj : j < H.length) (hpj : p ≠ j) (hL : L p = true ∧ L j = true) (hl : ∀ n ∈ l, R64 n) (hb : out.length + 10 * l.length ≤ 90000000000) (hK : ∀ g', K .no (wtH H p j g' (out ++ l.flatMap encN) ++ X)) :
  ZC (boxY tb) (jap Try.prog) 12 [.ptr p 0, .fz 1 true (l.map eI)] L (wtH H p j g out ++ X) K := by
 refine nums_z (WtAt.app ⟨wt_p hp, wt_j hj hpj, hpj⟩ X) hL hl hb (by omega) fun g' => ?_
 have := wt_app (H := wtH H p j g out) (p := p) (j := j) (g := g') (out := out ++ l.flatMap encN) (X := X) (by rw [jaW]; exact hp) (by rw [jaW]; exact hj)
 rw [this, wt_wt hpj]
 exact hK g'
theorem jd5 {p j g N : Nat} {out : List Int} {X Y : ZH} {B : ZB} (hN : N = H.length + X.length) : (wtH H p j g out ++ (X ++ B :: Y))[N]? = some B := by
 rw [hN, ← List.append_assoc, List.getElem?_append_right (by simp [jaW])]
 simp [jaW]
theorem jdc {p j g N : Nat} {out : List Int} {X Y : ZH} {B C : ZB} (hN : N = H.length + X.length) : (wtH H p j g out ++ (X ++ B :: Y)).set N C = wtH H p j g out ++ (X ++ C :: Y) := by
 rw [hN, ← List.append_assoc, List.set_append_right _ _ (by simp [jaW])]
 simp [jaW]
set_option maxHeartbeats 4000000 in
theorem wp_z {p j g : Nat} {out : List Int} {X : ZH} {x : OPl} (hp : p < H.length) (hj : j < H.length) (hpj : p ≠ j) (hL : L p = true ∧ L j = true) (hx : PlR x) (hb : out.length ≤ 80000000000) (hK : ∀ g', K .no (wtH H p j g' (out ++ ja7 x) ++ X)) :
  ZC (boxY tb) (jap Try.prog) 31 [.ptr p 0, .agg (eRP x)] L (wtH H p j g out ++ X) K := by
 refine ZC.enterL Gh.no (jan (by decide)) f_od_wp (by simp) fun hL' => ?_
 simp only [jnp]
 have F0 := Lib.hid hK
 clear hK
 have hat := fun g o B Y => jd5 (H := H) (p := p) (j := j) (g := g) (out := o) (X := X) (B := B) (Y := Y) rfl
 have hlt := hL' 0
 simp only [List.length_append, jaW, Nat.add_zero] at hlt
 repeat' (first | (simp only [zP, jaf, jaa, jad, jae, seval, Nat.reduceLeDiff, hat, jaW, List.length_append, *]) | (simp only [jab]) | (with_reducible apply And.intro) | (with_reducible intro _))
 refine jeN (l := [x.1, x.2]) hp hj hpj hL (by intro n hn; simp at hn; rcases hn with rfl | rfl; exact hx.1; exact hx.2) (by simp; omega) fun g' => ?_
 have hk := F0.out g'
 have he : out ++ [x.1, x.2].flatMap encN = out ++ ja7 x := by simp [ja7]
 have fin : ∀ B, Fin (wtH H p j g out ++ X) .no (wtH H p j g' (out ++ ja7 x) ++ (X ++ [B])) K := fun B => by
  refine Fin.trunc (jjo hj) rfl ?_
  rw [jl1]; exact hk
 rw [he]
 clear F0 hk he
 repeat' (first | (simp only [zP, jaf, jaa, jad, jae, seval, Nat.reduceLeDiff, zres0, *]) | (simp only [jab]) | (with_reducible apply And.intro) | (with_reducible intro _))
set_option maxHeartbeats 16000000 in
theorem wx_z {p j g : Nat} {out : List Int} {X : ZH} {x : OXt} (hp : p < H.length) (hj : j < H.length) (hpj : p ≠ j) (hL : L p = true ∧ L j = true) (hx : XtR x) (hxl : XtL x) (hb : out.length ≤ 70000000000) (hK : ∀ g', K .no (wtH H p j g' (out ++ jcb x) ++ X)) :
  ZC (boxY tb) (jap Try.prog) 14 [.ptr p 0, .agg (eRX x)] L (wtH H p j g out ++ X) K := by
 refine ZC.enterL Gh.no (jan (by decide)) f_od_wx (by simp) fun hL' => ?_
 simp only [jno]
 obtain ⟨at_, st, sets, makes⟩ := x
 obtain ⟨r1, r2, r3, r4⟩ := hx
 have l1 := hxl.sets
 have l2 := hxl.makes
 have l3 := Lib.hid hxl.vals
 simp only at r1 r2 r3 r4 l1 l2 l3
 have R3 := Lib.hid r3
 have R4 := Lib.hid r4
 have hsl : (sets.map eRS).length = sets.length := List.length_map ..
 have hml : (makes.map eRM).length = makes.length := List.length_map ..
 have E := Lib.hid (show jcb (at_, st, sets, makes) = [at_, st, (sets.length : Int)].flatMap encN ++ (sets.flatMap setE ++ ([(makes.length : Int)].flatMap encN ++ makes.flatMap jc9)) by simp [jcb, encL])
 have F0 := Lib.hid (show ∀ g' Y, Fin (wtH H p j g out ++ X) .no (wtH H p j g' (out ++ jcb (at_, st, sets, makes)) ++ (X ++ Y)) K from fun g' Y => by
  refine Fin.trunc (jjo hj) rfl ?_
  rw [jl1]; exact hK g')
 clear hK r3 r4 hxl
 have hat := fun g o B Y => jd5 (H := H) (p := p) (j := j) (g := g) (out := o) (X := X) (B := B) (Y := Y) rfl
 have hlt := fun k => hL' k
 simp only [List.length_append, jaW, Nat.add_assoc] at hlt
 clear hL'
 repeat' (first | (simp only [zP, jaf, jaa, jad, jae, seval, Nat.reduceLeDiff, hat, jaW, List.length_append, hsl, *]) | (simp only [jab]) | (with_reducible apply And.intro) | (with_reducible intro _))
 refine jeN (l := [at_, st, (sets.length : Int)]) hp hj hpj hL (by intro n hn; simp at hn; rcases hn with rfl | rfl | rfl; exact r1; exact r2; exact ⟨by omega, by omega⟩) (by simp; omega) fun g1 => ?_
 obtain ⟨o1, ho1⟩ : ∃ o1, o1 = out ++ [at_, st, (sets.length : Int)].flatMap encN := ⟨_, rfl⟩
 have ho1l : o1.length ≤ 70000000030 := by
  have a1 := jaw r1
  have a2 := jaw r2
  have a3 := jaw (n := (sets.length : Int)) ⟨by omega, by omega⟩
  rw [ho1]; simp only [List.flatMap_cons, List.flatMap_nil, List.length_append, List.length_nil]; omega
 rw [← ho1]
 repeat' (first | (simp only [zP, jaf, jaa, jad, jae, seval, Nat.reduceLeDiff, hat, jaW, List.length_append, hsl, *]) | (simp only [jab]) | (with_reducible apply And.intro) | (with_reducible intro _))
 obtain ⟨A, hA⟩ : ∃ A, A = ZB.box (eRX (at_, st, sets, makes)) := ⟨_, rfl⟩
 have HA := Lib.hid hA
 have HO1 := Lib.hid ho1
 clear hA ho1
 refine jaP [(0, .ptr p 0), (3, .ptr (H.length + X.length) 0), (21, .fz 3 false (sets.map eRS))] sets.length (fun k s' h' => ∃ g' Y, h' = wtH H p j g' (o1 ++ (sets.take k).flatMap setE) ++ (X ++ A :: Y)) (by omega) ⟨rfl, rfl, rfl, rfl, rfl, rfl⟩ rfl rfl (by repeat' (first | exact trivial | (refine ⟨rfl, ?_⟩) | (refine ⟨by simp only [jaE, Nat.reduceEqDiff, reduceIte]; assumption, ?_⟩))) rfl rfl (by decide) ⟨g1, [], by rw [HA.out]; simp only [HO1.out, List.take_zero, List.flatMap_nil, List.append_nil]⟩ ?_ ?_
 ·rintro k s' h' hk ⟨g', Y, rfl⟩ hi hl' ⟨f0, f3, f21, -⟩
  obtain ⟨s, hsk⟩ : ∃ s, sets[k]? = some s := ⟨_, List.getElem?_eq_getElem hk⟩
  have hsr := R3.out s (List.mem_of_getElem? hsk)
  have hnext : (sets.take (k + 1)).flatMap setE = (sets.take k).flatMap setE ++ setE s := by
   rw [List.take_add_one, List.flatMap_append, hsk]; simp
  obtain ⟨o2, ho2⟩ : ∃ o2, o2 = o1 ++ (sets.take k).flatMap setE := ⟨_, rfl⟩
  have ho2l : o2.length ≤ 70000002000 := by
   have h1 := jbp (c := 30) (f := setE) (l := sets.take k) fun m hm => jgV (R3.out m (List.mem_of_mem_take hm))
   rw [List.length_take] at h1
   rw [ho2, List.length_append]
   have : min k sets.length ≤ sets.length := Nat.min_le_right ..
   omega
  have HN := Lib.hid (show o1 ++ (sets.take (k + 1)).flatMap setE = (o2 ++ [s.1].flatMap encN) ++ ja7 s.2 by rw [hnext, ho2]; simp [setE])
  rw [← ho2]
  clear ho2 hnext
  have hN := fun g o B Z => jd5 (H := H) (p := p) (j := j) (g := g) (out := o) (X := X ++ A :: Y) (B := B) (Y := Z) (N := H.length + (X.length + (Y.length + 1))) (by simp only [List.length_append, List.length_cons])
  have sN := fun g o B C Z => jdc (H := H) (p := p) (j := j) (g := g) (out := o) (X := X ++ A :: Y) (B := B) (C := C) (Y := Z) (N := H.length + (X.length + (Y.length + 1))) (by simp only [List.length_append, List.length_cons])
  simp only [List.append_assoc, List.cons_append] at hN sN
  have hLN := hlt (Y.length + 1)
  have hYl : (A :: Y).length = Y.length + 1 := rfl
  clear F0 E R3 R4 l3
  repeat' (first | (simp only [zP, jaf, jaa, jad, jae, seval, Nat.reduceLeDiff, f0, f3, f21, hsk, Option.map_some, hN, sN, hLN, jaW, List.length_append, List.length_cons, *]) | (simp only [jab]) | (with_reducible apply And.intro) | (with_reducible intro _))
  refine jeN (l := [s.1]) hp hj hpj hL (by intro n hn; simp at hn; rw [hn]; exact hsr.1) (by simp; omega) fun g2 => ?_
  repeat' (first | (simp only [zP, jaf, jaa, jad, jae, seval, Nat.reduceLeDiff, f0, f3, f21, hN, sN, hLN, jaW, List.length_append, List.length_cons, *]) | (simp only [jab]) | (with_reducible apply And.intro) | (with_reducible intro _))
  refine wp_z (x := s.2) hp hj hpj hL hsr.2 (by have := jaw hsr.1; simp; omega) fun g3 => ?_
  repeat' (first | (simp only [zP, jaf, jaa, jad, jae, seval, Nat.reduceLeDiff, *]) | (simp only [jab]) | (with_reducible apply And.intro) | (with_reducible intro _))
  exact ⟨g3, Y ++ [.box (eRS s)], by rw [HN.out]; simp only [List.append_assoc, List.cons_append]⟩
 ·rintro s' h' ⟨g', Y, rfl⟩ ⟨f0, f3, f21, -⟩
  rw [List.take_length]
  obtain ⟨o3, ho3⟩ : ∃ o3, o3 = o1 ++ sets.flatMap setE := ⟨_, rfl⟩
  have ho3l : o3.length ≤ 70000003000 := by
   have h1 := jbp (c := 30) (f := setE) (l := sets) fun m hm => jgV (R3.out m hm)
   rw [ho3, List.length_append]; omega
  rw [← ho3]
  have hA2 : ∀ g o Z, (wtH H p j g o ++ (X ++ A :: Z))[H.length + X.length]? = some (.box [Z64 at_, Z64 st, .fz 3 false (sets.map eRS), .fz 5 false (makes.map eRM)]) := fun g o Z => by rw [jd5 rfl, HA.out]
  have HO3 := Lib.hid ho3
  clear ho3 hat
  repeat' (first | (simp only [zP, jaf, jaa, jad, jae, seval, Nat.reduceLeDiff, f0, f3, hA2, hml, *]) | (simp only [jab]) | (with_reducible apply And.intro) | (with_reducible intro _))
  refine jeN (l := [(makes.length : Int)]) hp hj hpj hL (by intro n hn; simp at hn; rw [hn]; exact ⟨by omega, by omega⟩) (by simp; omega) fun g2 => ?_
  obtain ⟨o4, ho4⟩ : ∃ o4, o4 = o3 ++ [(makes.length : Int)].flatMap encN := ⟨_, rfl⟩
  have ho4l : o4.length ≤ 70000003010 := by
   have a3 := jaw (n := (makes.length : Int)) ⟨by omega, by omega⟩
   rw [ho4]; simp only [List.flatMap_cons, List.flatMap_nil, List.length_append, List.length_nil]; omega
  have HE := Lib.hid (show o4 ++ makes.flatMap jc9 = out ++ jcb (at_, st, sets, makes) by rw [ho4, HO3.out, HO1.out, E.out]; simp only [List.append_assoc])
  have HO4 := Lib.hid ho4
  rw [← ho4]
  clear ho4
  repeat' (first | (simp only [zP, jaf, jaa, jad, jae, seval, Nat.reduceLeDiff, f0, f3, hA2, hml, *]) | (simp only [jab]) | (with_reducible apply And.intro) | (with_reducible intro _))
  refine jaP [(0, .ptr p 0), (44, .fz 5 false (makes.map eRM))] makes.length (fun k s' h' => ∃ g' Y, h' = wtH H p j g' (o4 ++ (makes.take k).flatMap jc9) ++ (X ++ A :: Y)) (by omega) ⟨rfl, rfl, rfl, rfl, rfl, rfl⟩ rfl rfl (by repeat' (first | exact trivial | (refine ⟨rfl, ?_⟩) | (refine ⟨by simp only [jaE, Nat.reduceEqDiff, reduceIte]; assumption, ?_⟩))) rfl rfl (by decide) ⟨g2, Y, by simp only [HO4.out, List.take_zero, List.flatMap_nil, List.append_nil]⟩ ?_ ?_
  ·rintro k s' h' hk ⟨g', Y, rfl⟩ hi hl' ⟨f0, f44, -⟩
   obtain ⟨m, hmk⟩ : ∃ m, makes[k]? = some m := ⟨_, List.getElem?_eq_getElem hk⟩
   have hmr := R4.out m (List.mem_of_getElem? hmk)
   have hmv := l3.out m (List.mem_of_getElem? hmk)
   have hnext : (makes.take (k + 1)).flatMap jc9 = (makes.take k).flatMap jc9 ++ jc9 m := by
    rw [List.take_add_one, List.flatMap_append, hmk]; simp
   obtain ⟨o5, ho5⟩ : ∃ o5, o5 = o4 ++ (makes.take k).flatMap jc9 := ⟨_, rfl⟩
   have ho5l : o5.length ≤ 70001000000 := by
    have h1 := jbp (c := 3000) (f := jc9) (l := makes.take k) fun m hm => jhQ (R4.out m (List.mem_of_mem_take hm)) (l3.out m (List.mem_of_mem_take hm))
    rw [List.length_take] at h1
    rw [ho5, List.length_append]
    have : min k makes.length ≤ makes.length := Nat.min_le_right ..
    omega
   obtain ⟨a, b, kd, nm, vals⟩ := m
   obtain ⟨m1, m2, m3, m4, m5⟩ := hmr
   simp only at m1 m2 m3 m4 m5 hmv
   have HN := Lib.hid (show o4 ++ (makes.take (k + 1)).flatMap jc9 = ((o5 ++ ja7 (a, b)) ++ [kd, nm, (vals.length : Int)].flatMap encN) ++ vals.flatMap ja7 by rw [hnext, ho5]; simp [jc9, encL])
   have M5 := Lib.hid m5
   rw [← ho5]
   clear ho5 hnext m5
   have hN := fun g o B Z => jd5 (H := H) (p := p) (j := j) (g := g) (out := o) (X := X ++ A :: Y) (B := B) (Y := Z) (N := H.length + (X.length + (Y.length + 1))) (by simp only [List.length_append, List.length_cons])
   have sN := fun g o B C Z => jdc (H := H) (p := p) (j := j) (g := g) (out := o) (X := X ++ A :: Y) (B := B) (C := C) (Y := Z) (N := H.length + (X.length + (Y.length + 1))) (by simp only [List.length_append, List.length_cons])
   simp only [List.append_assoc, List.cons_append] at hN sN
   have hLN := hlt (Y.length + 1)
   have hvl : (vals.map eRP).length = vals.length := List.length_map ..
   clear F0 E R3 R4 l3 hA2 HE HO4 HO3 HA HO1
   repeat' (first | (simp only [zP, jaf, jaa, jad, jae, seval, Nat.reduceLeDiff, f0, f44, hmk, Option.map_some, hN, sN, hLN, jaW, List.length_append, List.length_cons, *]) | (simp only [jab]) | (with_reducible apply And.intro) | (with_reducible intro _))
   refine wp_z (x := (a, b)) hp hj hpj hL ⟨m1, m2⟩ (by omega) fun g3 => ?_
   repeat' (first | (simp only [zP, jaf, jaa, jad, jae, seval, Nat.reduceLeDiff, f0, f44, hN, hvl, jaW, List.length_append, List.length_cons, *]) | (simp only [jab]) | (with_reducible apply And.intro) | (with_reducible intro _))
   refine jeN (l := [kd, nm, (vals.length : Int)]) hp hj hpj hL (by intro n hn; simp at hn; rcases hn with rfl | rfl | rfl; exact m3; exact m4; exact ⟨by omega, by omega⟩) (by have := jci (p := (a, b)) ⟨m1, m2⟩; simp; omega) fun g4 => ?_
   obtain ⟨o6, ho6⟩ : ∃ o6, o6 = (o5 ++ ja7 (a, b)) ++ [kd, nm, (vals.length : Int)].flatMap encN := ⟨_, rfl⟩
   have ho6l : o6.length ≤ 70001000100 := by
    have a1 := jaw m3
    have a2 := jaw m4
    have a3 := jaw (n := (vals.length : Int)) ⟨by omega, by omega⟩
    have a4 := jci (p := (a, b)) ⟨m1, m2⟩
    rw [ho6]; simp only [List.flatMap_cons, List.flatMap_nil, List.length_append, List.length_nil]; omega
   have HN2 := Lib.hid (show o4 ++ (makes.take (k + 1)).flatMap jc9 = o6 ++ vals.flatMap ja7 by rw [HN.out, ho6])
   have HO6 := Lib.hid ho6
   rw [← ho6]
   clear ho6 HN
   repeat' (first | (simp only [zP, jaf, jaa, jad, jae, seval, Nat.reduceLeDiff, f0, f44, hN, hvl, jaW, List.length_append, List.length_cons, *]) | (simp only [jab]) | (with_reducible apply And.intro) | (with_reducible intro _))
   obtain ⟨B, hB⟩ : ∃ B, B = ZB.box (eRM (a, b, kd, nm, vals)) := ⟨_, rfl⟩
   have HB := Lib.hid hB
   clear hB hN sN
   refine jaP [(0, .ptr p 0), (65, .fz 2 false (vals.map eRP))] vals.length (fun i s' h' => ∃ g' Z, h' = wtH H p j g' (o6 ++ (vals.take i).flatMap ja7) ++ (X ++ A :: (Y ++ B :: Z))) (by omega) ⟨rfl, rfl, rfl, rfl, rfl, rfl⟩ rfl rfl (by repeat' (first | exact trivial | (refine ⟨rfl, ?_⟩) | (refine ⟨by simp only [jaE, Nat.reduceEqDiff, reduceIte]; assumption, ?_⟩))) rfl rfl (by decide) ⟨g4, [], by simp only [HB.out, HO6.out, List.take_zero, List.flatMap_nil, List.append_nil]⟩ ?_ ?_
   ·rintro i s' h' hi2 ⟨g', Z, rfl⟩ hi3 hl3 ⟨f0, f65, -⟩
    obtain ⟨v, hvk⟩ : ∃ v, vals[i]? = some v := ⟨_, List.getElem?_eq_getElem hi2⟩
    have hvr := M5.out v (List.mem_of_getElem? hvk)
    have hnext : (vals.take (i + 1)).flatMap ja7 = (vals.take i).flatMap ja7 ++ ja7 v := by
     rw [List.take_add_one, List.flatMap_append, hvk]; simp
    obtain ⟨o7, ho7⟩ : ∃ o7, o7 = o6 ++ (vals.take i).flatMap ja7 := ⟨_, rfl⟩
    have ho7l : o7.length ≤ 70001010000 := by
     have h1 := jbp (c := 20) (f := ja7) (l := vals.take i) fun m hm => jci (M5.out m (List.mem_of_mem_take hm))
     rw [List.length_take] at h1
     rw [ho7, List.length_append]
     have : min i vals.length ≤ vals.length := Nat.min_le_right ..
     omega
    have HN3 := Lib.hid (show o6 ++ (vals.take (i + 1)).flatMap ja7 = o7 ++ ja7 v by rw [hnext, ho7]; simp only [List.append_assoc])
    rw [← ho7]
    clear ho7 hnext
    have hN := fun g o C W => jd5 (H := H) (p := p) (j := j) (g := g) (out := o) (X := X ++ A :: (Y ++ B :: Z)) (B := C) (Y := W) (N := H.length + (X.length + (Y.length + (Z.length + 1) + 1))) (by simp only [List.length_append, List.length_cons])
    have sN := fun g o C D W => jdc (H := H) (p := p) (j := j) (g := g) (out := o) (X := X ++ A :: (Y ++ B :: Z)) (B := C) (C := D) (Y := W) (N := H.length + (X.length + (Y.length + (Z.length + 1) + 1))) (by simp only [List.length_append, List.length_cons])
    simp only [List.append_assoc, List.cons_append] at hN sN
    have hLN := hlt (Y.length + (Z.length + 1) + 1)
    clear HN2 HO6 HB M5
    repeat' (first | (simp only [zP, jaf, jaa, jad, jae, seval, Nat.reduceLeDiff, f0, f65, hvk, Option.map_some, hN, sN, hLN, jaW, List.length_append, List.length_cons, *]) | (simp only [jab]) | (with_reducible apply And.intro) | (with_reducible intro _))
    refine wp_z (x := v) hp hj hpj hL hvr (by omega) fun g5 => ?_
    repeat' (first | (simp only [zP, jaf, jaa, jad, jae, seval, Nat.reduceLeDiff, *]) | (simp only [jab]) | (with_reducible apply And.intro) | (with_reducible intro _))
    exact ⟨g5, Z ++ [.box (eRP v)], by rw [HN3.out]⟩
   ·rintro s' h' ⟨g', Z, rfl⟩ ⟨f0, f65, -⟩
    rw [List.take_length]
    clear HO6 M5
    repeat' (first | (simp only [zP, jaf, jaa, jad, jae, seval, Nat.reduceLeDiff, *]) | (simp only [jab]) | (with_reducible apply And.intro) | (with_reducible intro _))
    exact ⟨g', Y ++ B :: Z, by rw [HN2.out]⟩
  ·rintro s' h' ⟨g', Y, rfl⟩ ⟨f0, f44, -⟩
   rw [List.take_length, HE.out]
   have fin := F0.out g' (A :: Y)
   clear F0 E R3 R4 l3 hA2 HE HO4 HO3 HA HO1
   repeat' (first | (simp only [zP, jaf, jaa, jad, jae, seval, Nat.reduceLeDiff, zres0, *]) | (simp only [jab]) | (with_reducible apply And.intro) | (with_reducible intro _))
end
end Go.Proofs.Ytmholkmghhkbhaa

namespace Go.Proofs.Ytmholkmghhkbhaa
open Go Go.RowKit
theorem jfM {c : Cd} (h : CdR c) (ho : c.ords.length ≤ 1500) (hx : c.exs.length ≤ 200) (hl : ∀ x ∈ exsL c, XtL x) : (jdv c).length ≤ 300000000 := by
 have a1 := jaw h.fn
 have a2 := jaw h.pl
 have a3 := jaw h.lp
 have a4 := jaw h.sl
 have a5 := jaw (n := (c.ords.length : Int)) ⟨by omega, by omega⟩
 have a6 := jaw (n := (c.exs.length : Int)) ⟨by omega, by omega⟩
 have a7 := jbp (c := 80) (f := ordE) (l := c.ords) fun x hx => by
  obtain ⟨h1, h2, h3, h4, h5, h6, h7, h8⟩ := h.ords x hx
  have b1 := jaw h1
  have b2 := jaw h2
  have b3 := jaw h3
  have b4 := jaw h4
  have b5 := jaw h5
  have b6 := jaw h6
  have b7 := jaw h7
  have b8 := jaw h8
  simp only [ordE, List.length_append]; omega
 have a8 := jbp (c := 1000000) (f := jcb) (l := c.exs) fun x hx => jfK (h.exs x hx) (hl x (by simp [exsL, hx]))
 have a9 := jfK h.turn (hl _ (by simp [exsL]))
 have a10 := jfK h.back (hl _ (by simp [exsL]))
 simp only [jdv, encL, List.length_append]; omega
theorem mods_pre {H H' : ZH} (h : ∀ i, i < H.length → H'[i]? = H[i]?) : Mods H H' := fun i B hi hB => .inl (by rw [← h i hi]; exact hB)
theorem take_pre {H H' : ZH} (h : ∀ i, i < H.length → H'[i]? = H[i]?) : H'.take H.length = H := by
 apply List.ext_getElem?
 intro i
 rw [List.getElem?_take]
 split
 ·rename_i hi; exact h i hi
 ·rename_i hi; rw [List.getElem?_eq_none (by omega)]
section
variable {tb : List (FuncId × Bool)} {L : Nat → Bool} {H : ZH} {K : ZV → ZH → Prop}
set_option maxHeartbeats 4000000 in
theorem clonex_z {ex : Bool} {l : List OXt} (hb : l.length ≤ 1000000) (hK : ∀ z Y g2, (∀ (L' : Nat → Bool) (a b : List ZV), L' H.length = true → appZ L' (H ++ Y) 4 64 [a, b] z = some (.own H.length g2 0 (l.length + 2) false, H ++ [.grow g2 4 (l.map eRX ++ [a, b])])) → K z (H ++ Y)) :
  ZC (boxY tb) (jap Try.prog) 13 [.fz 4 ex (l.map eRX)] L H K := by
 refine ZC.enterL Gh.no (jan (by decide)) jk3 (by simp) fun hL => ?_
 simp only [jgH]
 have l0 : L H.length = true := hL 0
 have hre : (l.length + 2) * 64 ≤ jaN := by unfold jaN; omega
 cases l with
 | nil =>
  have k1 := hK .nil [] 0 (fun L' a b _ => by rw [List.append_nil, app_nil' (by unfold jaN; simp)]; rfl)
  have k2 := hK (.fz 4 true []) [] 0 (fun L' a b _ => by simp [appZ, jaN])
  rw [List.append_nil] at k1 k2
  have fin1 : Fin H .nil H K := Fin.keep k1
  have fin2 : Fin H (.fz 4 true []) H K := Fin.keep k2
  have hap : appZ L H 4 64 [] (.fz 4 true []) = some (.fz 4 true [], H) := by simp [appZ, jaN]
  clear hK k1 k2 hL hb
  simp only [List.map_nil]
  repeat' (first | (simp only [zP, jaf, jaa, jad, jae, seval, Nat.reduceLeDiff, hap, *]) | (simp only [jab]) | (with_reducible apply And.intro) | (with_reducible intro _))
  all_goals first | exact fin1 | exact fin2 | exact .inr ⟨_, rfl⟩
 | cons y l =>
  obtain ⟨o, ho⟩ : ∃ o, o = y :: l := ⟨_, rfl⟩
  have hne : o ≠ [] := by rw [ho]; simp
  rw [← ho] at hK hb hre ⊢
  have hnil : ∀ (W : ZH), nilZ W 0 (.fz 4 ex (o.map eRX)) = some false := fun W => by rw [ho]; rfl
  have hap : appZ L H 4 64 (o.map eRX) (.fz 4 true []) = some (.own H.length 0 0 o.length false, H ++ [.grow 0 4 (o.map eRX)]) := by
   have hre : o.length * 64 ≤ jaN := by unfold jaN; omega
   simp [appZ, hne, hre]
  have k1 := hK (.own H.length 0 0 o.length false) [.grow 0 4 (o.map eRX)] 1 (fun L' a b hl => by
   simp only [appZ]
   rw [List.getElem?_append_right (Nat.le_refl _), Nat.sub_self]
   simp [hl, hre]
   rw [List.take_of_length_le (by simp)])
  have fin : Fin H (.own H.length 0 0 o.length false) (H ++ [.grow 0 4 (o.map eRX)]) K := Fin.keep k1
  clear hK k1 hL ho
  repeat' (first | (simp only [zP, jaf, jaa, jad, jae, seval, Nat.reduceLeDiff, hnil, hap, *]) | (simp only [jab]) | (with_reducible apply And.intro) | (with_reducible intro _))
  all_goals first | exact .inl fin
def enH (H : ZH) (c : Cd) : ZH := H ++ [.box (eCd c), .box [.own (H.length + 2) 0 0 0 false], .grow 0 1 []]
theorem jbR {c : Cd} : (enH H c).length = H.length + 3 := by simp [enH]
theorem en_low {c : Cd} {g i : Nat} {out : List Int} {X : ZH} (hi : i < H.length) : (wtH (enH H c) (H.length + 1) (H.length + 2) g out ++ X)[i]? = H[i]? := by
 rw [List.getElem?_append_left (by rw [jaW, jbR]; omega), wt_ne (by omega) (by omega)]
 unfold enH
 rw [List.getElem?_append_left hi]
theorem en_box {c : Cd} {g : Nat} {out : List Int} {X : ZH} : (wtH (enH H c) (H.length + 1) (H.length + 2) g out ++ X)[H.length]? = some (.box (eCd c)) := by
 rw [List.getElem?_append_left (by rw [jaW, jbR]; omega), wt_ne (by omega) (by omega)]
 unfold enH
 rw [List.getElem?_append_right (Nat.le_refl _), Nat.sub_self]; rfl
theorem en_p {c : Cd} {g : Nat} {out : List Int} {X : ZH} : (wtH (enH H c) (H.length + 1) (H.length + 2) g out ++ X)[H.length + 1]? = some (.box [.own (H.length + 2) g 0 out.length false]) := by
 rw [List.getElem?_append_left (by rw [jaW, jbR]; omega)]
 exact wt_p (by rw [jbR]; omega)
theorem en_j {c : Cd} {g : Nat} {out : List Int} {X : ZH} : (wtH (enH H c) (H.length + 1) (H.length + 2) g out ++ X)[H.length + 2]? = some (.grow g 1 (out.map eC)) := by
 rw [List.getElem?_append_left (by rw [jaW, jbR]; omega)]
 exact wt_j (by rw [jbR]; omega) (by omega)
theorem en_start {c : Cd} : H ++ [.box (eCd c), .box [.own (H.length + 2) 0 0 0 false], .grow 0 1 []] = wtH (enH H c) (H.length + 1) (H.length + 2) 0 [] ++ [] := by
 rw [List.append_nil]
 refine (WtAt.same (H := enH H c) (p := H.length + 1) (j := H.length + 2) (g := 0) (out := []) ⟨?_, ?_, by omega⟩).symm
 ·unfold enH; rw [List.getElem?_append_right (by omega)]; simp
 ·unfold enH; rw [List.getElem?_append_right (by omega)]; simp
theorem en_fin {c : Cd} {g : Nat} {out : List Int} {X : ZH} (hk : K (.tuple [.fz 1 false (out.map eC), Z64 0]) H) : Fin H (.tuple [.own (H.length + 2) g 0 out.length false, Z64 0]) (wtH (enH H c) (H.length + 1) (H.length + 2) g out ++ X) K := by
 refine Fin.frzT (j := 0) rfl en_j (by simp) (jlg out) ?_
 rw [List.drop_zero, List.take_of_length_le (by simp)]
 have hpre : ∀ i, i < H.length → ((wtH (enH H c) (H.length + 1) (H.length + 2) g out ++ X).set (H.length + 2) .dead)[i]? = H[i]? := fun i hi => by
  rw [List.getElem?_set, if_neg (by omega)]; exact en_low hi
 refine Fin.truncT (mods_pre hpre) rfl ?_
 rw [take_pre hpre]
 exact hk
set_option maxHeartbeats 16000000 in
theorem jhf {c : Cd} (hB : CdB c) (hR : jbu c = 0 → CdR c) (hK1 : jbu c ≠ 0 → K (.tuple [.nil, Z64 (jbu c)]) H) (hK2 : jbu c = 0 → K (.tuple [.fz 1 false ((jdv c).map eC), Z64 0]) H) :
  ZC (boxY tb) (jap Try.prog) 6 [.agg (eCd c)] L H K := by
 refine ZC.enterL ⟨[(16, [(0, 1)])], [], []⟩ (jan (by decide)) f_od_enc (by simp) fun hL => ?_
 simp only [jj2]
 have HB := Lib.hid hB
 have HR := Lib.hid hR
 have HK1 := Lib.hid hK1
 have HK2 := Lib.hid hK2
 have a00 : ∀ A Y, (H ++ (A :: Y))[H.length]? = some A := fun A Y => atN0 rfl A Y
 have a1 : ∀ A B Y, (H ++ (A :: B :: Y))[H.length + 1]? = some B := fun A B Y => atN1 rfl A B Y
 have s1 : ∀ A B C Y, (H ++ (A :: B :: Y)).set (H.length + 1) C = H ++ (A :: C :: Y) := fun A B C Y => stN1 rfl A B C Y
 clear hB hR hK1 hK2
 repeat' (first | (simp only [zP, jaf, jaa, jad, jae, seval, Nat.reduceLeDiff, a00, *]) | (simp only [jab]) | (with_reducible apply And.intro) | (with_reducible intro _))
 refine check_z HB.out ?_
 by_cases h0 : jbu c = 0
 ·have hk := HK2.out h0
  obtain ⟨l1, l2, l3⟩ := jei h0
  have hr := HR.out h0
  have hcl := jfM hr l1 l2 l3
  rw [h0]
  have HR := Lib.hid hr
  have HL := Lib.hid l3
  have HC := Lib.hid h0
  clear hr l3 h0 HB HK1 HK2
  have hol : (c.ords.map eRd).length = c.ords.length := List.length_map ..
  have hxl : (c.exs.map eRX).length = c.exs.length := List.length_map ..
  repeat' (first | (simp only [zP, jaf, jaa, jad, jae, seval, Nat.reduceLeDiff, a00, a1, s1, hol, *]) | (simp only [jab]) | (with_reducible apply And.intro) | (with_reducible intro _))
  have hp : H.length + 1 < (enH H c).length := by rw [jbR]; omega
  have hj : H.length + 2 < (enH H c).length := by rw [jbR]; omega
  have hpj : H.length + 1 ≠ H.length + 2 := by omega
  have hLL : L (H.length + 1) = true ∧ L (H.length + 2) = true := ⟨hL 1, hL 2⟩
  have E := Lib.hid (show jdv c = [c.fn, c.pl, c.lp, c.sl, (c.ords.length : Int)].flatMap encN ++ (c.ords.flatMap ordE ++ ([(c.exs.length : Int)].flatMap encN ++ (c.exs ++ [c.turn, c.back]).flatMap jcb)) by simp [jdv, encL])
  have F0 := Lib.hid (fun g Y => en_fin (H := H) (c := c) (g := g) (X := Y) hk)
  have hM3 := fun k => hL (3 + k)
  simp only [← Nat.add_assoc] at hM3
  clear hk hL a00 a1 s1
  rw [en_start (c := c)]
  refine jeN (l := [c.fn, c.pl, c.lp, c.sl, (c.ords.length : Int)]) hp hj hpj hLL (by
   have hr := HR.out
   intro n hn; simp at hn
   rcases hn with rfl | rfl | rfl | rfl | rfl
   ·exact hr.fn
   ·exact hr.pl
   ·exact hr.lp
   ·exact hr.sl
   ·exact ⟨by omega, by omega⟩) (by simp) fun g1 => ?_
  obtain ⟨o1, ho1⟩ : ∃ o1, o1 = [] ++ [c.fn, c.pl, c.lp, c.sl, (c.ords.length : Int)].flatMap encN := ⟨_, rfl⟩
  have ho1l : o1.length ≤ 50 := by
   have a1 := jaw HR.out.fn
   have a2 := jaw HR.out.pl
   have a3 := jaw HR.out.lp
   have a4 := jaw HR.out.sl
   have a5 := jaw (n := (c.ords.length : Int)) ⟨by omega, by omega⟩
   rw [ho1]; simp only [List.flatMap_cons, List.flatMap_nil, List.length_append, List.length_nil]; omega
  have HO1 := Lib.hid ho1
  rw [← ho1]
  clear ho1
  have ebx : ∀ g o X, (wtH (enH H c) (H.length + 1) (H.length + 2) g o ++ X)[H.length]? = some (.box [Z64 c.fn, Z64 c.pl, Z64 c.lp, Z64 c.sl, .fz 8 c.xo (c.ords.map eRd), .fz 4 c.xe (c.exs.map eRX), Z64 c.turn.1, Z64 c.turn.2.1, .fz 3 false (c.turn.2.2.1.map eRS), .fz 5 false (c.turn.2.2.2.map eRM), Z64 c.back.1, Z64 c.back.2.1, .fz 3 false (c.back.2.2.1.map eRS), .fz 5 false (c.back.2.2.2.map eRM)]) := fun g o X => en_box (H := H) (c := c) (g := g) (out := o) (X := X)
  have ebx0 := fun g o => ebx g o []
  simp only [List.append_nil] at ebx0
  repeat' (first | (simp only [zP, jaf, jaa, jad, jae, seval, Nat.reduceLeDiff, ebx, ebx0, hol, *]) | (simp only [jab]) | (with_reducible apply And.intro) | (with_reducible intro _))
  refine jaP [(1, .ptr H.length 0), (5, .ptr (H.length + 1) 0), (32, .fz 8 c.xo (c.ords.map eRd)), (69, .no), (71, .no)] c.ords.length (fun k s' h' => ∃ g' Y, h' = wtH (enH H c) (H.length + 1) (H.length + 2) g' (o1 ++ (c.ords.take k).flatMap ordE) ++ Y) (by omega) ⟨rfl, rfl, rfl, rfl, rfl, rfl⟩ rfl rfl (by repeat' (first | exact trivial | (refine ⟨rfl, ?_⟩) | (refine ⟨by simp only [jaE, Nat.reduceEqDiff, reduceIte]; assumption, ?_⟩))) rfl rfl (by decide) ⟨g1, [], by simp only [HO1.out, List.take_zero, List.flatMap_nil, List.append_nil]⟩ ?_ ?_
  ·rintro k s' h' hk ⟨g', Y, rfl⟩ hi hl' ⟨f1, f5, f32, f69, f71, -⟩
   obtain ⟨x, hxk⟩ : ∃ x, c.ords[k]? = some x := ⟨_, List.getElem?_eq_getElem hk⟩
   have hxr := HR.out.ords x (List.mem_of_getElem? hxk)
   have hnext : (c.ords.take (k + 1)).flatMap ordE = (c.ords.take k).flatMap ordE ++ ordE x := by
    rw [List.take_add_one, List.flatMap_append, hxk]; simp
   obtain ⟨o2, ho2⟩ : ∃ o2, o2 = o1 ++ (c.ords.take k).flatMap ordE := ⟨_, rfl⟩
   have ho2l : o2.length ≤ 300000000 := by
    have h1 := congrArg List.length E.out
    have h2 := congrArg List.length HO1.out
    have h3 : ((c.ords.take k).flatMap ordE).length ≤ (c.ords.flatMap ordE).length := by
     conv => rhs; rw [← List.take_append_drop k c.ords, List.flatMap_append, List.length_append]
     omega
    simp only [List.length_append, List.length_nil] at h1 h2
    rw [ho2, List.length_append]; omega
   obtain ⟨x1, x2, x3, x4, x5, x6, x7, x8⟩ := x
   have HN := Lib.hid (show o1 ++ (c.ords.take (k + 1)).flatMap ordE = o2 ++ [x1, x2, x3, x4, x5, x6, x7, x8].flatMap encN by rw [hnext, ho2]; simp [ordE])
   rw [← ho2]
   clear ho2 hnext
   have hN := fun g o B Z => jd5 (H := enH H c) (p := H.length + 1) (j := H.length + 2) (g := g) (out := o) (X := Y) (B := B) (Y := Z) (N := H.length + 3 + Y.length) (by rw [jbR])
   have sN := fun g o B C Z => jdc (H := enH H c) (p := H.length + 1) (j := H.length + 2) (g := g) (out := o) (X := Y) (B := B) (C := C) (Y := Z) (N := H.length + 3 + Y.length) (by rw [jbR])
   have hLN := hM3 Y.length
   clear F0 E HR HL HO1 HC ebx
   repeat' (first | (simp only [zP, jaf, jaa, jad, jae, seval, Nat.reduceLeDiff, f1, f5, f32, hxk, Option.map_some, hN, sN, hLN, jaW, jbR, List.length_append, *]) | (simp only [jab]) | (with_reducible apply And.intro) | (with_reducible intro _))
   refine jeN (l := [x1, x2, x3, x4, x5, x6, x7, x8]) hp hj hpj hLL (by
    obtain ⟨r1, r2, r3, r4, r5, r6, r7, r8⟩ := hxr
    intro n hn; simp at hn
    rcases hn with rfl | rfl | rfl | rfl | rfl | rfl | rfl | rfl <;> assumption) (by simp; omega) fun g2 => ?_
   repeat' (first | (simp only [zP, jaf, jaa, jad, jae, seval, Nat.reduceLeDiff, *]) | (simp only [jab]) | (with_reducible apply And.intro) | (with_reducible intro _))
   exact ⟨g2, Y ++ [.box (eRd (x1, x2, x3, x4, x5, x6, x7, x8))], by rw [HN.out]⟩
  ·rintro s' h' ⟨g', Y, rfl⟩ ⟨f1, f5, f32, f69, f71, -⟩
   rw [List.take_length]
   obtain ⟨o3, ho3⟩ : ∃ o3, o3 = o1 ++ c.ords.flatMap ordE := ⟨_, rfl⟩
   have ho3l : o3.length ≤ 300000000 := by
    have h1 := congrArg List.length E.out
    have h2 := congrArg List.length HO1.out
    simp only [List.length_append, List.length_nil] at h1 h2
    rw [ho3, List.length_append]; omega
   have HO3 := Lib.hid ho3
   rw [← ho3]
   clear ho3
   repeat' (first | (simp only [zP, jaf, jaa, jad, jae, seval, Nat.reduceLeDiff, f1, f5, ebx, hxl, *]) | (simp only [jab]) | (with_reducible apply And.intro) | (with_reducible intro _))
   refine jeN (l := [(c.exs.length : Int)]) hp hj hpj hLL (by intro n hn; simp at hn; rw [hn]; exact ⟨by omega, by omega⟩) (by simp; omega) fun g2 => ?_
   obtain ⟨o4, ho4⟩ : ∃ o4, o4 = o3 ++ [(c.exs.length : Int)].flatMap encN := ⟨_, rfl⟩
   have HE := Lib.hid (show jdv c = o4 ++ (c.exs ++ [c.turn, c.back]).flatMap jcb by rw [E.out, ho4, HO3.out, HO1.out]; simp only [List.append_assoc, List.nil_append])
   have ho4l : o4.length ≤ 300000000 := by
    have h1 := congrArg List.length HE.out
    rw [List.length_append] at h1; omega
   rw [← ho4]
   have hxr : ∀ x ∈ c.exs ++ [c.turn, c.back], XtR x ∧ XtL x := fun x hx => by
    rcases List.mem_append.1 hx with h | h
    ·exact ⟨HR.out.exs x h, HL.out x (by simp [exsL, h])⟩
    ·simp only [List.mem_cons, List.not_mem_nil, or_false] at h
     rcases h with rfl | rfl
     ·exact ⟨HR.out.turn, HL.out _ (by simp [exsL])⟩
     ·exact ⟨HR.out.back, HL.out _ (by simp [exsL])⟩
   have HX := Lib.hid hxr
   clear ho4 E HO1 HO3 HR HL hxr
   have fin0 := Lib.hid F0.out
   clear F0
   repeat' (first | (simp only [zP, jaf, jaa, jad, jae, seval, Nat.reduceLeDiff, f1, f5, f69, f71, ebx, jaW, jbR, List.length_append, *]) | (simp only [jab]) | (with_reducible apply And.intro) | (with_reducible intro _))
   refine clonex_z (by omega) (fun z Y1 gz hap => ?_)
   have hM0 := hM3 Y.length
   have happ := fun a b => hap L a b (by simpa [jaW, jbR, ← Nat.add_assoc] using hM0)
   simp only [List.append_assoc, List.length_append, jaW, jbR] at happ
   clear hap
   have ebx2 := fun g o X X2 => ebx g o (X ++ X2)
   simp only [← List.append_assoc] at ebx2
   have hb0 : H.length < H.length + 3 + Y.length := by omega
   obtain ⟨R, hR⟩ : ∃ R, R = c.exs.map eRX ++ [eRX c.turn, eRX c.back] := ⟨_, rfl⟩
   have hR' : c.exs.map eRX ++ [[Z64 c.turn.1, Z64 c.turn.2.1, .fz 3 false (c.turn.2.2.1.map eRS), .fz 5 false (c.turn.2.2.2.map eRM)], [Z64 c.back.1, Z64 c.back.2.1, .fz 3 false (c.back.2.2.1.map eRS), .fz 5 false (c.back.2.2.2.map eRM)]] = R := hR.symm
   have hRx : R = (c.exs ++ [c.turn, c.back]).map eRX := by rw [hR]; simp
   have hRl : 0 + (c.exs.length + 2) ≤ R.length := by rw [hR]; simp
   have hRl2 : c.exs.length + 2 ≤ R.length := by omega
   have HRX := Lib.hid hRx
   clear hR hRx
   have hgr := fun g o B Z => jd5 (H := enH H c) (p := H.length + 1) (j := H.length + 2) (g := g) (out := o) (X := Y) (B := B) (Y := Z) (N := H.length + 3 + Y.length) (by rw [jbR])
   repeat' (first | (simp only [zP, jaf, jaa, jad, jae, seval, Nat.reduceLeDiff, f1, f5, ebx, ebx2, happ, hb0, hgr, hR', jaW, jbR, List.length_append, List.append_assoc, *]) | (simp only [jab]) | (with_reducible apply And.intro) | (with_reducible intro _))
   clear happ ebx2 hR'
   obtain ⟨M, hM⟩ : ∃ M, M = H.length + 3 + Y.length := ⟨_, rfl⟩
   rw [← hM] at hgr hM0
   obtain ⟨xs, hxs⟩ : ∃ xs, xs = c.exs ++ [c.turn, c.back] := ⟨_, rfl⟩
   have hxl2 : xs.length = c.exs.length + 2 := by rw [hxs]; simp
   have HM := Lib.hid hM
   rw [← hM]
   clear hM
   refine jaP [(5, .ptr (H.length + 1) 0), (74, .own M gz 0 (c.exs.length + 2) false)] (c.exs.length + 2) (fun k s' h' => ∃ g' Z, h' = wtH (enH H c) (H.length + 1) (H.length + 2) g' (o4 ++ (xs.take k).flatMap jcb) ++ (Y ++ .grow gz 4 R :: Z)) (by omega) ⟨rfl, rfl, rfl, rfl, rfl, rfl⟩ rfl rfl (by repeat' (first | exact trivial | (refine ⟨rfl, ?_⟩) | (refine ⟨by simp only [jaE, Nat.reduceEqDiff, reduceIte]; assumption, ?_⟩))) rfl rfl (by decide) ⟨g2, [], by simp only [List.take_zero, List.flatMap_nil, List.append_nil]⟩ ?_ ?_
   ·rintro k s' h' hk ⟨g', Z, rfl⟩ hi hl' ⟨f5, f74, -⟩
    obtain ⟨x, hxk⟩ : ∃ x, xs[k]? = some x := ⟨_, List.getElem?_eq_getElem (by omega)⟩
    have hxm : x ∈ c.exs ++ [c.turn, c.back] := by rw [← hxs]; exact List.mem_of_getElem? hxk
    obtain ⟨xr, xl⟩ := HX.out x hxm
    have hnext : (xs.take (k + 1)).flatMap jcb = (xs.take k).flatMap jcb ++ jcb x := by
     rw [List.take_add_one, List.flatMap_append, hxk]; simp
    obtain ⟨o5, ho5⟩ : ∃ o5, o5 = o4 ++ (xs.take k).flatMap jcb := ⟨_, rfl⟩
    have ho5l : o5.length ≤ 300000000 := by
     have h1 := congrArg List.length HE.out
     have h3 : ((xs.take k).flatMap jcb).length ≤ (xs.flatMap jcb).length := by
      conv => rhs; rw [← List.take_append_drop k xs, List.flatMap_append, List.length_append]
      omega
     rw [← hxs] at h1
     rw [List.length_append] at h1
     rw [ho5, List.length_append]; omega
    have HN := Lib.hid (show o4 ++ (xs.take (k + 1)).flatMap jcb = o5 ++ jcb x by rw [hnext, ho5]; simp only [List.append_assoc])
    have hRk : R[k]? = some (eRX x) := by rw [HRX.out, ← hxs, List.getElem?_map, hxk]; rfl
    rw [← ho5]
    clear ho5 hnext hxm hxs
    obtain ⟨at_, st, sets, makes⟩ := x
    have hN := fun g o C W => jd5 (H := enH H c) (p := H.length + 1) (j := H.length + 2) (g := g) (out := o) (X := Y ++ .grow gz 4 R :: Z) (B := C) (Y := W) (N := H.length + 3 + (Y.length + (Z.length + 1))) (by rw [jbR]; simp only [List.length_append, List.length_cons])
    have sN := fun g o C D W => jdc (H := enH H c) (p := H.length + 1) (j := H.length + 2) (g := g) (out := o) (X := Y ++ .grow gz 4 R :: Z) (B := C) (C := D) (Y := W) (N := H.length + 3 + (Y.length + (Z.length + 1))) (by rw [jbR]; simp only [List.length_append, List.length_cons])
    simp only [List.append_assoc, List.cons_append] at hN sN
    have hLN := hM3 (Y.length + (Z.length + 1))
    clear fin0 HE HX HC ebx ebx0 HRX HM HR
    repeat' (first | (simp only [zP, jaf, jaa, jad, jae, seval, Nat.reduceLeDiff, f5, f74, hgr, hRl, hRl2, hRk, hN, sN, hLN, jaW, jbR, List.length_append, List.length_cons, *]) | (simp only [jab]) | (with_reducible apply And.intro) | (with_reducible intro _))
    refine wx_z (out := o5) (x := (at_, st, sets, makes)) hp hj hpj hLL xr xl (by omega) fun g3 => ?_
    repeat' (first | (simp only [zP, jaf, jaa, jad, jae, seval, Nat.reduceLeDiff, *]) | (simp only [jab]) | (with_reducible apply And.intro) | (with_reducible intro _))
    exact ⟨g3, Z ++ [.box (eRX (at_, st, sets, makes))], by rw [HN.out]⟩
   ·rintro s' h' ⟨g', Z, rfl⟩ ⟨f5, f74, -⟩
    rw [List.take_of_length_le (by omega), hxs, ← HE.out]
    have fin := fin0.out g' (Y ++ .grow gz 4 R :: Z)
    have hpp : ∀ g o X, (wtH (enH H c) (H.length + 1) (H.length + 2) g o ++ X)[H.length + 1]? = some (.box [.own (H.length + 2) g 0 o.length false]) := fun g o X => en_p
    clear fin0 HE HX HC ebx ebx0 HRX HM HR hxs
    repeat' (first | (simp only [zP, jaf, jaa, jad, jae, seval, Nat.reduceLeDiff, f5, hpp, *]) | (simp only [jab]) | (with_reducible apply And.intro) | (with_reducible intro _))
 ·have hk := HK1.out h0
  have fin : ∀ Y, Fin H (.tuple [.nil, Z64 (jbu c)]) (H ++ Y) K := fun Y => Fin.truncT (Mods.ext H Y) rfl (by rw [List.take_left]; exact hk)
  clear HB HR HK1 HK2 hk
  repeat' (first | (simp only [zP, jaf, jaa, jad, jae, seval, Nat.reduceLeDiff, a00, h0, *]) | (simp only [jab]) | (with_reducible apply And.intro) | (with_reducible intro _))
end
end Go.Proofs.Ytmholkmghhkbhaa
