/-
  The reader of bytes in ZM: what its lists and records share.
-/
import Derived.Test.YtmholkmghhkbhaaMrB10
set_option linter.unusedVariables false
set_option linter.unusedSimpArgs false
namespace Go.Proofs.Ytmholkmghhkbhaa
open Go Go.RowKit
section
variable {tb : List (FuncId × Bool)} {g : PX} {L : Nat → Bool} {H : ZH} {K : ZV → ZH → Prop}
theorem jb1 {p : Nat} {ex : Bool} {l : List Int} {X Y : ZH} {B : ZB} : (rdH H p ex l ++ (X ++ B :: Y))[H.length + X.length]? = some B := by
 rw [← List.append_assoc, List.getElem?_append_right (by simp [jaB])]
 simp [jaB]
theorem jaT {p : Nat} {ex : Bool} {l : List Int} {X Y : ZH} {B C : ZB} : (rdH H p ex l ++ (X ++ B :: Y)).set (H.length + X.length) C = rdH H p ex l ++ (X ++ C :: Y) := by
 rw [← List.append_assoc, List.set_append_right _ _ (by simp [jaB])]
 simp [jaB]
theorem jmv {p : Nat} {ex : Bool} {l : List Int} {X Y : ZH} {A B : ZB} : (rdH H p ex l ++ (X ++ A :: B :: Y))[H.length + (X.length + 1)]? = some B := by
 rw [show X ++ A :: B :: Y = (X ++ [A]) ++ B :: Y by simp, show H.length + (X.length + 1) = H.length + (X ++ [A]).length by simp]
 exact jb1
theorem jgj {p : Nat} {ex : Bool} {l : List Int} {X Y : ZH} {A B C : ZB} : (rdH H p ex l ++ (X ++ A :: B :: Y)).set (H.length + (X.length + 1)) C = rdH H p ex l ++ (X ++ A :: C :: Y) := by
 rw [show X ++ A :: B :: Y = (X ++ [A]) ++ B :: Y by simp, show H.length + (X.length + 1) = H.length + (X ++ [A]).length by simp, jaT]
 simp
theorem rd_top3 {p : Nat} {ex : Bool} {l : List Int} {X Y : ZH} {A A2 B : ZB} : (rdH H p ex l ++ (X ++ A :: A2 :: B :: Y))[H.length + (X.length + 2)]? = some B := by
 rw [show X ++ A :: A2 :: B :: Y = (X ++ [A, A2]) ++ B :: Y by simp, show H.length + (X.length + 2) = H.length + (X ++ [A, A2]).length by simp]
 exact jb1
theorem jkI {p : Nat} {ex : Bool} {l : List Int} {X Y : ZH} {A A2 B C : ZB} : (rdH H p ex l ++ (X ++ A :: A2 :: B :: Y)).set (H.length + (X.length + 2)) C = rdH H p ex l ++ (X ++ A :: A2 :: C :: Y) := by
 rw [show X ++ A :: A2 :: B :: Y = (X ++ [A, A2]) ++ B :: Y by simp, show H.length + (X.length + 2) = H.length + (X ++ [A, A2]).length by simp, jaT]
 simp
def RlI {α : Type} (H : ZH) (p : Nat) (ex : Bool) (X : ZH) (k : Nat) (e : α → List ZV) (one : Rdr α) (N : Nat) (r0 : List Int) (i : Nat) (s' : ZS) (h' : ZH) : Prop :=
  ∃ xs r gq, xs.length = i ∧ s' 8 = .own (H.length + X.length) gq 0 i false ∧ h' = rdH H p ex r ++ (X ++ [.grow gq k (xs.map e)]) ∧ repP one N r0 = jba (repP one (N - i) r) (fun ys r' => some (xs ++ ys, r')) ∧ ja5 r
set_option maxHeartbeats 4000000 in
theorem jiJ {p : Nat} {ex : Bool} (hpl : p < H.length) (hL : L p = true) : RdC tb g L 34 [.ptr p 0] H p ex jdk (fun x => .agg (eRP x)) := by
 intro l X K hb hbad hK
 refine ZC.enterL Gh.no (jan (by decide)) f_od_rp (by simp) fun hL' => ?_
 simp only [jnr]
 have F0 := Lib.hid hK
 have HB := Lib.hid hbad
 clear hK hbad
 have hat := fun r' B Y => jb1 (H := H) (p := p) (ex := ex) (l := r') (X := X) (B := B) (Y := Y)
 have hst := fun r' B C Y => jaT (H := H) (p := p) (ex := ex) (l := r') (X := X) (B := B) (C := C) (Y := Y)
 have hlt := hL' 0
 simp only [List.length_append, jaB, Nat.add_zero] at hlt
 repeat' (first | (simp only [zP, jaf, jaa, jad, jae, seval, Nat.reduceLeDiff, *]) | (simp only [jab]) | (with_reducible apply And.intro) | (with_reducible intro _))
 refine jcf hpl hL l _ _ hb (fun h => HB.out (by unfold jdk; rw [h]; rfl)) (fun a r1 h1 hb1 => ?_)
 repeat' (first | (simp only [zP, jaf, jaa, jad, jae, seval, Nat.reduceLeDiff, *]) | (simp only [jab]) | (with_reducible apply And.intro) | (with_reducible intro _))
 refine jcf hpl hL r1 _ _ hb1 (fun h => HB.out (by unfold jdk; rw [h1, jac, h]; rfl)) (fun b r2 h2 hb2 => ?_)
 have hk := F0.out (a, b) r2 (by unfold jdk; rw [h1, jac, h2]; rfl) hb2
 have fin : ∀ B, Fin (rdH H p ex l ++ X) (.agg [Z64 a, Z64 b]) (rdH H p ex r2 ++ (X ++ [B])) K := fun B => by
  refine Fin.trunc jcC rfl ?_
  rw [jcB]; exact hk
 clear F0 HB h1 h2 hk
 repeat' (first | (simp only [zP, jaf, jaa, jad, jae, seval, Nat.reduceLeDiff, hat, hst, hlt, jaB, List.length_append, *]) | (simp only [jab]) | (with_reducible apply And.intro) | (with_reducible intro _))
end
end Go.Proofs.Ytmholkmghhkbhaa

namespace Go.Proofs.Ytmholkmghhkbhaa
open Go Go.RowKit
section
variable {tb : List (FuncId × Bool)} {g : PX} {L : Nat → Bool} {H : ZH} {K : ZV → ZH → Prop}

theorem pure_lP (l : List OPl) : (l.map eRP).flatten.all jb2 = true := by
 induction l with
 | nil => rfl
 | cons x r ih => simp only [List.map_cons, List.flatten_cons, List.all_append, ih, Bool.and_true]; rfl
set_option maxHeartbeats 8000000 in
theorem lP_c {p : Nat} {ex : Bool} {one : Rdr OPl} {f : FuncId} {vs : List ZV} {zf : ZV} {most : Int} (hpl : p < H.length) (hL : L p = true) (hzf : jcy zf [] = some (f, vs)) (hm : most ≤ 10000)
  (hone : RdC tb g L f vs H p ex one (fun x => .agg (eRP x))) : RdC tb g L 37 [.ptr p 0, Z64 most, zf] H p ex (ja6 most one) (fun xs => .fz 2 false (xs.map eRP)) := by
 intro l X K hb hbad hK
 refine ZC.enterL ⟨[(8, [(0, 2)])], [], []⟩ (jan (by decide)) f_od_lP (by simp) fun hL' => ?_
 simp only [jnv]
 have F0 := Lib.hid hK
 have HB := Lib.hid hbad
 have HO := Lib.hid hone
 clear hK hbad hone
 repeat' (first | (simp only [zP, jaf, jaa, jad, jae, seval, Nat.reduceLeDiff, *]) | (simp only [jab]) | (with_reducible apply And.intro) | (with_reducible intro _))
 refine jcf hpl hL l _ _ hb (fun h => HB.out (by unfold ja6; rw [h]; rfl)) (fun n r0 hn hb0 => ?_)
 by_cases h0 : n < 0
 ·have hg := jc5 (HB.out (by unfold ja6; rw [hn, jac, if_pos (.inl h0)]))
  clear F0 HB HO hn
  repeat' (first | (simp only [zP, jaf, jaa, jad, jae, seval, Nat.reduceLeDiff, jb8, jb7, *]) | (simp only [jab]) | (with_reducible apply And.intro) | (with_reducible intro _))
 by_cases h1 : most < n
 ·have hg := jc5 (HB.out (by unfold ja6; rw [hn, jac, if_pos (.inr h1)]))
  clear F0 HB HO hn
  repeat' (first | (simp only [zP, jaf, jaa, jad, jae, seval, Nat.reduceLeDiff, jb8, jb7, *]) | (simp only [jab]) | (with_reducible apply And.intro) | (with_reducible intro _))
 obtain ⟨N, hN⟩ : ∃ N : Nat, n = (N : Int) := ⟨n.toNat, by omega⟩
 subst hN
 have hlist : ja6 most one l = repP one N r0 := by unfold ja6; rw [hn, jac, if_neg (by omega), Int.toNat_natCast]
 have HH := Lib.hid hlist
 have hNm : N ≤ 10000 := by omega
 clear hn hlist
 repeat' (first | (simp only [zP, jaf, jaa, jad, jae, seval, Nat.reduceLeDiff, *]) | (simp only [jab]) | (with_reducible apply And.intro) | (with_reducible intro _))
 have hB0 := Lib.hid hb0
 refine jaP [(0, .ptr p 0), (2, zf), (20, Z64 (N : Int))] N (RlI H p ex X 2 eRP one N r0) (by omega) ⟨rfl, rfl, rfl, rfl, rfl, rfl⟩ rfl rfl (by repeat' (first | exact trivial | (refine ⟨rfl, ?_⟩) | (refine ⟨by simp only [jaE, Nat.reduceEqDiff, reduceIte]; assumption, ?_⟩))) rfl rfl (by decide) ⟨[], r0, 0, rfl, by simp [zupd, jaB], by simp, by rw [Nat.sub_zero]; cases repP one N r0 <;> rfl, hB0.out⟩ ?_ ?_
 ·rintro i s' h' hi ⟨xs, r, gq, hxl, s8, rfl, hrep, hbr⟩ hti htl ⟨f0, f2, f20, -⟩
  obtain ⟨M, hM⟩ : ∃ M, N - i = M + 1 := ⟨N - i - 1, by omega⟩
  have HP := Lib.hid hrep
  clear hrep
  repeat' (first | (simp only [zP, jaf, jaa, jad, jae, seval, Nat.reduceLeDiff, f0, f2, hzf, *]) | (simp only [jab]) | (with_reducible apply And.intro) | (with_reducible intro _))
  refine HO.out r _ _ hbr (fun h => HB.out (by rw [HH.out, HP.out, hM]; simp only [repP, h]; rfl)) (fun x r1 hx hb1 => ?_)
  have hat := fun r' B Y => jb1 (H := H) (p := p) (ex := ex) (l := r') (X := X) (B := B) (Y := Y)
  have hst := fun r' B C Y => jaT (H := H) (p := p) (ex := ex) (l := r') (X := X) (B := B) (C := C) (Y := Y)
  have hlt := hL' 0
  have hxn : i ≤ (xs.map eRP).length := by simp [hxl]
  have hre : (i + 1) * 16 ≤ jaN := by unfold jaN; omega
  have htk : (xs.map eRP).take i = xs.map eRP := List.take_of_length_le (by simp [hxl])
  simp only [List.length_append, jaB, Nat.add_zero] at hlt
  repeat' (first | (simp only [zP, jaf, jaa, jad, jae, seval, Nat.reduceLeDiff, f0, f2, s8, hat, hst, hlt, hxn, hre, htk, jaB, List.length_append, *]) | (simp only [jab]) | (with_reducible apply And.intro) | (with_reducible intro _))
  refine ⟨xs ++ [x], r1, gq + 1, by simp [hxl], rfl, by simp, ?_, hb1⟩
  rw [HP.out, hM, show N - (i + 1) = M by omega]
  simp only [repP, hx, jac]
  cases repP one M r1 <;> simp [jba]
 ·rintro s' h' ⟨xs, r, gq, hxl, s8, rfl, hrep, hbr⟩ ⟨f0, f2, f20, -⟩
  rw [Nat.sub_self] at hrep
  simp only [repP, jac, List.append_nil] at hrep
  have hk := F0.out xs r (by rw [HH.out, hrep]) hbr
  have hxn : 0 + N ≤ (xs.map eRP).length := by simp [hxl]
  have fin : Fin (rdH H p ex l ++ X) (.own (H.length + X.length) gq 0 N false) (rdH H p ex r ++ (X ++ [.grow gq 2 (xs.map eRP)])) K := by
   refine Fin.frz (jb1 (Y := [])) hxn (pure_lP xs) ?_
   rw [List.drop_zero, List.take_of_length_le (by simp [hxl]), jaT]
   refine Fin.trunc jcC rfl ?_
   rw [jcB]; exact hk
  clear F0 HB HO HH hk hrep
  repeat' (first | (simp only [zP, jaf, jaa, jad, jae, seval, Nat.reduceLeDiff, f0, f2, s8, *]) | (simp only [jab]) | (with_reducible apply And.intro) | (with_reducible intro _))

theorem pure_lO (l : List Rd) : (l.map eRd).flatten.all jb2 = true := by
 induction l with
 | nil => rfl
 | cons x r ih => simp only [List.map_cons, List.flatten_cons, List.all_append, ih, Bool.and_true]; rfl
set_option maxHeartbeats 8000000 in
theorem lO_c {p : Nat} {ex : Bool} {one : Rdr Rd} {f : FuncId} {vs : List ZV} {zf : ZV} {most : Int} (hpl : p < H.length) (hL : L p = true) (hzf : jcy zf [] = some (f, vs)) (hm : most ≤ 10000)
  (hone : RdC tb g L f vs H p ex one (fun x => .agg (eRd x))) : RdC tb g L 17 [.ptr p 0, Z64 most, zf] H p ex (ja6 most one) (fun xs => .fz 8 false (xs.map eRd)) := by
 intro l X K hb hbad hK
 refine ZC.enterL ⟨[(8, [(0, 8)])], [], []⟩ (jan (by decide)) f_od_lO (by simp) fun hL' => ?_
 simp only [jnw]
 have F0 := Lib.hid hK
 have HB := Lib.hid hbad
 have HO := Lib.hid hone
 clear hK hbad hone
 repeat' (first | (simp only [zP, jaf, jaa, jad, jae, seval, Nat.reduceLeDiff, *]) | (simp only [jab]) | (with_reducible apply And.intro) | (with_reducible intro _))
 refine jcf hpl hL l _ _ hb (fun h => HB.out (by unfold ja6; rw [h]; rfl)) (fun n r0 hn hb0 => ?_)
 by_cases h0 : n < 0
 ·have hg := jc5 (HB.out (by unfold ja6; rw [hn, jac, if_pos (.inl h0)]))
  clear F0 HB HO hn
  repeat' (first | (simp only [zP, jaf, jaa, jad, jae, seval, Nat.reduceLeDiff, jb8, jb7, *]) | (simp only [jab]) | (with_reducible apply And.intro) | (with_reducible intro _))
 by_cases h1 : most < n
 ·have hg := jc5 (HB.out (by unfold ja6; rw [hn, jac, if_pos (.inr h1)]))
  clear F0 HB HO hn
  repeat' (first | (simp only [zP, jaf, jaa, jad, jae, seval, Nat.reduceLeDiff, jb8, jb7, *]) | (simp only [jab]) | (with_reducible apply And.intro) | (with_reducible intro _))
 obtain ⟨N, hN⟩ : ∃ N : Nat, n = (N : Int) := ⟨n.toNat, by omega⟩
 subst hN
 have hlist : ja6 most one l = repP one N r0 := by unfold ja6; rw [hn, jac, if_neg (by omega), Int.toNat_natCast]
 have HH := Lib.hid hlist
 have hNm : N ≤ 10000 := by omega
 clear hn hlist
 repeat' (first | (simp only [zP, jaf, jaa, jad, jae, seval, Nat.reduceLeDiff, *]) | (simp only [jab]) | (with_reducible apply And.intro) | (with_reducible intro _))
 have hB0 := Lib.hid hb0
 refine jaP [(0, .ptr p 0), (2, zf), (20, Z64 (N : Int))] N (RlI H p ex X 8 eRd one N r0) (by omega) ⟨rfl, rfl, rfl, rfl, rfl, rfl⟩ rfl rfl (by repeat' (first | exact trivial | (refine ⟨rfl, ?_⟩) | (refine ⟨by simp only [jaE, Nat.reduceEqDiff, reduceIte]; assumption, ?_⟩))) rfl rfl (by decide) ⟨[], r0, 0, rfl, by simp [zupd, jaB], by simp, by rw [Nat.sub_zero]; cases repP one N r0 <;> rfl, hB0.out⟩ ?_ ?_
 ·rintro i s' h' hi ⟨xs, r, gq, hxl, s8, rfl, hrep, hbr⟩ hti htl ⟨f0, f2, f20, -⟩
  obtain ⟨M, hM⟩ : ∃ M, N - i = M + 1 := ⟨N - i - 1, by omega⟩
  have HP := Lib.hid hrep
  clear hrep
  repeat' (first | (simp only [zP, jaf, jaa, jad, jae, seval, Nat.reduceLeDiff, f0, f2, hzf, *]) | (simp only [jab]) | (with_reducible apply And.intro) | (with_reducible intro _))
  refine HO.out r _ _ hbr (fun h => HB.out (by rw [HH.out, HP.out, hM]; simp only [repP, h]; rfl)) (fun x r1 hx hb1 => ?_)
  have hat := fun r' B Y => jb1 (H := H) (p := p) (ex := ex) (l := r') (X := X) (B := B) (Y := Y)
  have hst := fun r' B C Y => jaT (H := H) (p := p) (ex := ex) (l := r') (X := X) (B := B) (C := C) (Y := Y)
  have hlt := hL' 0
  have hxn : i ≤ (xs.map eRd).length := by simp [hxl]
  have hre : (i + 1) * 64 ≤ jaN := by unfold jaN; omega
  have htk : (xs.map eRd).take i = xs.map eRd := List.take_of_length_le (by simp [hxl])
  simp only [List.length_append, jaB, Nat.add_zero] at hlt
  repeat' (first | (simp only [zP, jaf, jaa, jad, jae, seval, Nat.reduceLeDiff, f0, f2, s8, hat, hst, hlt, hxn, hre, htk, jaB, List.length_append, *]) | (simp only [jab]) | (with_reducible apply And.intro) | (with_reducible intro _))
  refine ⟨xs ++ [x], r1, gq + 1, by simp [hxl], rfl, by simp, ?_, hb1⟩
  rw [HP.out, hM, show N - (i + 1) = M by omega]
  simp only [repP, hx, jac]
  cases repP one M r1 <;> simp [jba]
 ·rintro s' h' ⟨xs, r, gq, hxl, s8, rfl, hrep, hbr⟩ ⟨f0, f2, f20, -⟩
  rw [Nat.sub_self] at hrep
  simp only [repP, jac, List.append_nil] at hrep
  have hk := F0.out xs r (by rw [HH.out, hrep]) hbr
  have hxn : 0 + N ≤ (xs.map eRd).length := by simp [hxl]
  have fin : Fin (rdH H p ex l ++ X) (.own (H.length + X.length) gq 0 N false) (rdH H p ex r ++ (X ++ [.grow gq 8 (xs.map eRd)])) K := by
   refine Fin.frz (jb1 (Y := [])) hxn (pure_lO xs) ?_
   rw [List.drop_zero, List.take_of_length_le (by simp [hxl]), jaT]
   refine Fin.trunc jcC rfl ?_
   rw [jcB]; exact hk
  clear F0 HB HO HH hk hrep
  repeat' (first | (simp only [zP, jaf, jaa, jad, jae, seval, Nat.reduceLeDiff, f0, f2, s8, *]) | (simp only [jab]) | (with_reducible apply And.intro) | (with_reducible intro _))

theorem pure_lS (l : List OSt) : (l.map eRS).flatten.all jb2 = true := by
 induction l with
 | nil => rfl
 | cons x r ih => simp only [List.map_cons, List.flatten_cons, List.all_append, ih, Bool.and_true]; rfl
set_option maxHeartbeats 8000000 in
theorem lS_c {p : Nat} {ex : Bool} {one : Rdr OSt} {f : FuncId} {vs : List ZV} {zf : ZV} {most : Int} (hpl : p < H.length) (hL : L p = true) (hzf : jcy zf [] = some (f, vs)) (hm : most ≤ 10000)
  (hone : RdC tb g L f vs H p ex one (fun x => .agg (eRS x))) : RdC tb g L 32 [.ptr p 0, Z64 most, zf] H p ex (ja6 most one) (fun xs => .fz 3 false (xs.map eRS)) := by
 intro l X K hb hbad hK
 refine ZC.enterL ⟨[(8, [(0, 3)])], [], []⟩ (jan (by decide)) f_od_lS (by simp) fun hL' => ?_
 simp only [jnu]
 have F0 := Lib.hid hK
 have HB := Lib.hid hbad
 have HO := Lib.hid hone
 clear hK hbad hone
 repeat' (first | (simp only [zP, jaf, jaa, jad, jae, seval, Nat.reduceLeDiff, *]) | (simp only [jab]) | (with_reducible apply And.intro) | (with_reducible intro _))
 refine jcf hpl hL l _ _ hb (fun h => HB.out (by unfold ja6; rw [h]; rfl)) (fun n r0 hn hb0 => ?_)
 by_cases h0 : n < 0
 ·have hg := jc5 (HB.out (by unfold ja6; rw [hn, jac, if_pos (.inl h0)]))
  clear F0 HB HO hn
  repeat' (first | (simp only [zP, jaf, jaa, jad, jae, seval, Nat.reduceLeDiff, jb8, jb7, *]) | (simp only [jab]) | (with_reducible apply And.intro) | (with_reducible intro _))
 by_cases h1 : most < n
 ·have hg := jc5 (HB.out (by unfold ja6; rw [hn, jac, if_pos (.inr h1)]))
  clear F0 HB HO hn
  repeat' (first | (simp only [zP, jaf, jaa, jad, jae, seval, Nat.reduceLeDiff, jb8, jb7, *]) | (simp only [jab]) | (with_reducible apply And.intro) | (with_reducible intro _))
 obtain ⟨N, hN⟩ : ∃ N : Nat, n = (N : Int) := ⟨n.toNat, by omega⟩
 subst hN
 have hlist : ja6 most one l = repP one N r0 := by unfold ja6; rw [hn, jac, if_neg (by omega), Int.toNat_natCast]
 have HH := Lib.hid hlist
 have hNm : N ≤ 10000 := by omega
 clear hn hlist
 repeat' (first | (simp only [zP, jaf, jaa, jad, jae, seval, Nat.reduceLeDiff, *]) | (simp only [jab]) | (with_reducible apply And.intro) | (with_reducible intro _))
 have hB0 := Lib.hid hb0
 refine jaP [(0, .ptr p 0), (2, zf), (20, Z64 (N : Int))] N (RlI H p ex X 3 eRS one N r0) (by omega) ⟨rfl, rfl, rfl, rfl, rfl, rfl⟩ rfl rfl (by repeat' (first | exact trivial | (refine ⟨rfl, ?_⟩) | (refine ⟨by simp only [jaE, Nat.reduceEqDiff, reduceIte]; assumption, ?_⟩))) rfl rfl (by decide) ⟨[], r0, 0, rfl, by simp [zupd, jaB], by simp, by rw [Nat.sub_zero]; cases repP one N r0 <;> rfl, hB0.out⟩ ?_ ?_
 ·rintro i s' h' hi ⟨xs, r, gq, hxl, s8, rfl, hrep, hbr⟩ hti htl ⟨f0, f2, f20, -⟩
  obtain ⟨M, hM⟩ : ∃ M, N - i = M + 1 := ⟨N - i - 1, by omega⟩
  have HP := Lib.hid hrep
  clear hrep
  repeat' (first | (simp only [zP, jaf, jaa, jad, jae, seval, Nat.reduceLeDiff, f0, f2, hzf, *]) | (simp only [jab]) | (with_reducible apply And.intro) | (with_reducible intro _))
  refine HO.out r _ _ hbr (fun h => HB.out (by rw [HH.out, HP.out, hM]; simp only [repP, h]; rfl)) (fun x r1 hx hb1 => ?_)
  have hat := fun r' B Y => jb1 (H := H) (p := p) (ex := ex) (l := r') (X := X) (B := B) (Y := Y)
  have hst := fun r' B C Y => jaT (H := H) (p := p) (ex := ex) (l := r') (X := X) (B := B) (C := C) (Y := Y)
  have hlt := hL' 0
  have hxn : i ≤ (xs.map eRS).length := by simp [hxl]
  have hre : (i + 1) * 24 ≤ jaN := by unfold jaN; omega
  have htk : (xs.map eRS).take i = xs.map eRS := List.take_of_length_le (by simp [hxl])
  simp only [List.length_append, jaB, Nat.add_zero] at hlt
  repeat' (first | (simp only [zP, jaf, jaa, jad, jae, seval, Nat.reduceLeDiff, f0, f2, s8, hat, hst, hlt, hxn, hre, htk, jaB, List.length_append, *]) | (simp only [jab]) | (with_reducible apply And.intro) | (with_reducible intro _))
  refine ⟨xs ++ [x], r1, gq + 1, by simp [hxl], rfl, by simp, ?_, hb1⟩
  rw [HP.out, hM, show N - (i + 1) = M by omega]
  simp only [repP, hx, jac]
  cases repP one M r1 <;> simp [jba]
 ·rintro s' h' ⟨xs, r, gq, hxl, s8, rfl, hrep, hbr⟩ ⟨f0, f2, f20, -⟩
  rw [Nat.sub_self] at hrep
  simp only [repP, jac, List.append_nil] at hrep
  have hk := F0.out xs r (by rw [HH.out, hrep]) hbr
  have hxn : 0 + N ≤ (xs.map eRS).length := by simp [hxl]
  have fin : Fin (rdH H p ex l ++ X) (.own (H.length + X.length) gq 0 N false) (rdH H p ex r ++ (X ++ [.grow gq 3 (xs.map eRS)])) K := by
   refine Fin.frz (jb1 (Y := [])) hxn (pure_lS xs) ?_
   rw [List.drop_zero, List.take_of_length_le (by simp [hxl]), jaT]
   refine Fin.trunc jcC rfl ?_
   rw [jcB]; exact hk
  clear F0 HB HO HH hk hrep
  repeat' (first | (simp only [zP, jaf, jaa, jad, jae, seval, Nat.reduceLeDiff, f0, f2, s8, *]) | (simp only [jab]) | (with_reducible apply And.intro) | (with_reducible intro _))

theorem pure_lM (l : List OMk) : (l.map eRM).flatten.all jb2 = true := by
 induction l with
 | nil => rfl
 | cons x r ih => simp only [List.map_cons, List.flatten_cons, List.all_append, ih, Bool.and_true]; rfl
set_option maxHeartbeats 8000000 in
theorem lM_c {p : Nat} {ex : Bool} {one : Rdr OMk} {f : FuncId} {vs : List ZV} {zf : ZV} {most : Int} (hpl : p < H.length) (hL : L p = true) (hzf : jcy zf [] = some (f, vs)) (hm : most ≤ 10000)
  (hone : RdC tb g L f vs H p ex one (fun x => .agg (eRM x))) : RdC tb g L 35 [.ptr p 0, Z64 most, zf] H p ex (ja6 most one) (fun xs => .fz 5 false (xs.map eRM)) := by
 intro l X K hb hbad hK
 refine ZC.enterL ⟨[(8, [(0, 5)])], [], []⟩ (jan (by decide)) f_od_lM (by simp) fun hL' => ?_
 simp only [jnx]
 have F0 := Lib.hid hK
 have HB := Lib.hid hbad
 have HO := Lib.hid hone
 clear hK hbad hone
 repeat' (first | (simp only [zP, jaf, jaa, jad, jae, seval, Nat.reduceLeDiff, *]) | (simp only [jab]) | (with_reducible apply And.intro) | (with_reducible intro _))
 refine jcf hpl hL l _ _ hb (fun h => HB.out (by unfold ja6; rw [h]; rfl)) (fun n r0 hn hb0 => ?_)
 by_cases h0 : n < 0
 ·have hg := jc5 (HB.out (by unfold ja6; rw [hn, jac, if_pos (.inl h0)]))
  clear F0 HB HO hn
  repeat' (first | (simp only [zP, jaf, jaa, jad, jae, seval, Nat.reduceLeDiff, jb8, jb7, *]) | (simp only [jab]) | (with_reducible apply And.intro) | (with_reducible intro _))
 by_cases h1 : most < n
 ·have hg := jc5 (HB.out (by unfold ja6; rw [hn, jac, if_pos (.inr h1)]))
  clear F0 HB HO hn
  repeat' (first | (simp only [zP, jaf, jaa, jad, jae, seval, Nat.reduceLeDiff, jb8, jb7, *]) | (simp only [jab]) | (with_reducible apply And.intro) | (with_reducible intro _))
 obtain ⟨N, hN⟩ : ∃ N : Nat, n = (N : Int) := ⟨n.toNat, by omega⟩
 subst hN
 have hlist : ja6 most one l = repP one N r0 := by unfold ja6; rw [hn, jac, if_neg (by omega), Int.toNat_natCast]
 have HH := Lib.hid hlist
 have hNm : N ≤ 10000 := by omega
 clear hn hlist
 repeat' (first | (simp only [zP, jaf, jaa, jad, jae, seval, Nat.reduceLeDiff, *]) | (simp only [jab]) | (with_reducible apply And.intro) | (with_reducible intro _))
 have hB0 := Lib.hid hb0
 refine jaP [(0, .ptr p 0), (2, zf), (20, Z64 (N : Int))] N (RlI H p ex X 5 eRM one N r0) (by omega) ⟨rfl, rfl, rfl, rfl, rfl, rfl⟩ rfl rfl (by repeat' (first | exact trivial | (refine ⟨rfl, ?_⟩) | (refine ⟨by simp only [jaE, Nat.reduceEqDiff, reduceIte]; assumption, ?_⟩))) rfl rfl (by decide) ⟨[], r0, 0, rfl, by simp [zupd, jaB], by simp, by rw [Nat.sub_zero]; cases repP one N r0 <;> rfl, hB0.out⟩ ?_ ?_
 ·rintro i s' h' hi ⟨xs, r, gq, hxl, s8, rfl, hrep, hbr⟩ hti htl ⟨f0, f2, f20, -⟩
  obtain ⟨M, hM⟩ : ∃ M, N - i = M + 1 := ⟨N - i - 1, by omega⟩
  have HP := Lib.hid hrep
  clear hrep
  repeat' (first | (simp only [zP, jaf, jaa, jad, jae, seval, Nat.reduceLeDiff, f0, f2, hzf, *]) | (simp only [jab]) | (with_reducible apply And.intro) | (with_reducible intro _))
  refine HO.out r _ _ hbr (fun h => HB.out (by rw [HH.out, HP.out, hM]; simp only [repP, h]; rfl)) (fun x r1 hx hb1 => ?_)
  have hat := fun r' B Y => jb1 (H := H) (p := p) (ex := ex) (l := r') (X := X) (B := B) (Y := Y)
  have hst := fun r' B C Y => jaT (H := H) (p := p) (ex := ex) (l := r') (X := X) (B := B) (C := C) (Y := Y)
  have hlt := hL' 0
  have hxn : i ≤ (xs.map eRM).length := by simp [hxl]
  have hre : (i + 1) * 56 ≤ jaN := by unfold jaN; omega
  have htk : (xs.map eRM).take i = xs.map eRM := List.take_of_length_le (by simp [hxl])
  simp only [List.length_append, jaB, Nat.add_zero] at hlt
  repeat' (first | (simp only [zP, jaf, jaa, jad, jae, seval, Nat.reduceLeDiff, f0, f2, s8, hat, hst, hlt, hxn, hre, htk, jaB, List.length_append, *]) | (simp only [jab]) | (with_reducible apply And.intro) | (with_reducible intro _))
  refine ⟨xs ++ [x], r1, gq + 1, by simp [hxl], rfl, by simp, ?_, hb1⟩
  rw [HP.out, hM, show N - (i + 1) = M by omega]
  simp only [repP, hx, jac]
  cases repP one M r1 <;> simp [jba]
 ·rintro s' h' ⟨xs, r, gq, hxl, s8, rfl, hrep, hbr⟩ ⟨f0, f2, f20, -⟩
  rw [Nat.sub_self] at hrep
  simp only [repP, jac, List.append_nil] at hrep
  have hk := F0.out xs r (by rw [HH.out, hrep]) hbr
  have hxn : 0 + N ≤ (xs.map eRM).length := by simp [hxl]
  have fin : Fin (rdH H p ex l ++ X) (.own (H.length + X.length) gq 0 N false) (rdH H p ex r ++ (X ++ [.grow gq 5 (xs.map eRM)])) K := by
   refine Fin.frz (jb1 (Y := [])) hxn (pure_lM xs) ?_
   rw [List.drop_zero, List.take_of_length_le (by simp [hxl]), jaT]
   refine Fin.trunc jcC rfl ?_
   rw [jcB]; exact hk
  clear F0 HB HO HH hk hrep
  repeat' (first | (simp only [zP, jaf, jaa, jad, jae, seval, Nat.reduceLeDiff, f0, f2, s8, *]) | (simp only [jab]) | (with_reducible apply And.intro) | (with_reducible intro _))

theorem pure_lX (l : List OXt) : (l.map eRX).flatten.all jb2 = true := by
 induction l with
 | nil => rfl
 | cons x r ih => simp only [List.map_cons, List.flatten_cons, List.all_append, ih, Bool.and_true]; rfl
set_option maxHeartbeats 8000000 in
theorem lX_c {p : Nat} {ex : Bool} {one : Rdr OXt} {f : FuncId} {vs : List ZV} {zf : ZV} {most : Int} (hpl : p < H.length) (hL : L p = true) (hzf : jcy zf [] = some (f, vs)) (hm : most ≤ 10000)
  (hone : RdC tb g L f vs H p ex one (fun x => .agg (eRX x))) : RdC tb g L 19 [.ptr p 0, Z64 most, zf] H p ex (ja6 most one) (fun xs => .fz 4 false (xs.map eRX)) := by
 intro l X K hb hbad hK
 refine ZC.enterL ⟨[(8, [(0, 4)])], [], []⟩ (jan (by decide)) f_od_lX (by simp) fun hL' => ?_
 simp only [jnt]
 have F0 := Lib.hid hK
 have HB := Lib.hid hbad
 have HO := Lib.hid hone
 clear hK hbad hone
 repeat' (first | (simp only [zP, jaf, jaa, jad, jae, seval, Nat.reduceLeDiff, *]) | (simp only [jab]) | (with_reducible apply And.intro) | (with_reducible intro _))
 refine jcf hpl hL l _ _ hb (fun h => HB.out (by unfold ja6; rw [h]; rfl)) (fun n r0 hn hb0 => ?_)
 by_cases h0 : n < 0
 ·have hg := jc5 (HB.out (by unfold ja6; rw [hn, jac, if_pos (.inl h0)]))
  clear F0 HB HO hn
  repeat' (first | (simp only [zP, jaf, jaa, jad, jae, seval, Nat.reduceLeDiff, jb8, jb7, *]) | (simp only [jab]) | (with_reducible apply And.intro) | (with_reducible intro _))
 by_cases h1 : most < n
 ·have hg := jc5 (HB.out (by unfold ja6; rw [hn, jac, if_pos (.inr h1)]))
  clear F0 HB HO hn
  repeat' (first | (simp only [zP, jaf, jaa, jad, jae, seval, Nat.reduceLeDiff, jb8, jb7, *]) | (simp only [jab]) | (with_reducible apply And.intro) | (with_reducible intro _))
 obtain ⟨N, hN⟩ : ∃ N : Nat, n = (N : Int) := ⟨n.toNat, by omega⟩
 subst hN
 have hlist : ja6 most one l = repP one N r0 := by unfold ja6; rw [hn, jac, if_neg (by omega), Int.toNat_natCast]
 have HH := Lib.hid hlist
 have hNm : N ≤ 10000 := by omega
 clear hn hlist
 repeat' (first | (simp only [zP, jaf, jaa, jad, jae, seval, Nat.reduceLeDiff, *]) | (simp only [jab]) | (with_reducible apply And.intro) | (with_reducible intro _))
 have hB0 := Lib.hid hb0
 refine jaP [(0, .ptr p 0), (2, zf), (20, Z64 (N : Int))] N (RlI H p ex X 4 eRX one N r0) (by omega) ⟨rfl, rfl, rfl, rfl, rfl, rfl⟩ rfl rfl (by repeat' (first | exact trivial | (refine ⟨rfl, ?_⟩) | (refine ⟨by simp only [jaE, Nat.reduceEqDiff, reduceIte]; assumption, ?_⟩))) rfl rfl (by decide) ⟨[], r0, 0, rfl, by simp [zupd, jaB], by simp, by rw [Nat.sub_zero]; cases repP one N r0 <;> rfl, hB0.out⟩ ?_ ?_
 ·rintro i s' h' hi ⟨xs, r, gq, hxl, s8, rfl, hrep, hbr⟩ hti htl ⟨f0, f2, f20, -⟩
  obtain ⟨M, hM⟩ : ∃ M, N - i = M + 1 := ⟨N - i - 1, by omega⟩
  have HP := Lib.hid hrep
  clear hrep
  repeat' (first | (simp only [zP, jaf, jaa, jad, jae, seval, Nat.reduceLeDiff, f0, f2, hzf, *]) | (simp only [jab]) | (with_reducible apply And.intro) | (with_reducible intro _))
  refine HO.out r _ _ hbr (fun h => HB.out (by rw [HH.out, HP.out, hM]; simp only [repP, h]; rfl)) (fun x r1 hx hb1 => ?_)
  have hat := fun r' B Y => jb1 (H := H) (p := p) (ex := ex) (l := r') (X := X) (B := B) (Y := Y)
  have hst := fun r' B C Y => jaT (H := H) (p := p) (ex := ex) (l := r') (X := X) (B := B) (C := C) (Y := Y)
  have hlt := hL' 0
  have hxn : i ≤ (xs.map eRX).length := by simp [hxl]
  have hre : (i + 1) * 64 ≤ jaN := by unfold jaN; omega
  have htk : (xs.map eRX).take i = xs.map eRX := List.take_of_length_le (by simp [hxl])
  simp only [List.length_append, jaB, Nat.add_zero] at hlt
  repeat' (first | (simp only [zP, jaf, jaa, jad, jae, seval, Nat.reduceLeDiff, f0, f2, s8, hat, hst, hlt, hxn, hre, htk, jaB, List.length_append, *]) | (simp only [jab]) | (with_reducible apply And.intro) | (with_reducible intro _))
  refine ⟨xs ++ [x], r1, gq + 1, by simp [hxl], rfl, by simp, ?_, hb1⟩
  rw [HP.out, hM, show N - (i + 1) = M by omega]
  simp only [repP, hx, jac]
  cases repP one M r1 <;> simp [jba]
 ·rintro s' h' ⟨xs, r, gq, hxl, s8, rfl, hrep, hbr⟩ ⟨f0, f2, f20, -⟩
  rw [Nat.sub_self] at hrep
  simp only [repP, jac, List.append_nil] at hrep
  have hk := F0.out xs r (by rw [HH.out, hrep]) hbr
  have hxn : 0 + N ≤ (xs.map eRX).length := by simp [hxl]
  have fin : Fin (rdH H p ex l ++ X) (.own (H.length + X.length) gq 0 N false) (rdH H p ex r ++ (X ++ [.grow gq 4 (xs.map eRX)])) K := by
   refine Fin.frz (jb1 (Y := [])) hxn (pure_lX xs) ?_
   rw [List.drop_zero, List.take_of_length_le (by simp [hxl]), jaT]
   refine Fin.trunc jcC rfl ?_
   rw [jcB]; exact hk
  clear F0 HB HO HH hk hrep
  repeat' (first | (simp only [zP, jaf, jaa, jad, jae, seval, Nat.reduceLeDiff, f0, f2, s8, *]) | (simp only [jab]) | (with_reducible apply And.intro) | (with_reducible intro _))

end
end Go.Proofs.Ytmholkmghhkbhaa

namespace Go.Proofs.Ytmholkmghhkbhaa
open Go Go.RowKit
theorem jgQ {X : XT} {F : FuncId → Option jaL} {G : Gh} {L : Nat → Bool} {H : ZH} {S : ZS} {l : List jao} {KK : jaq → ZS → ZH → Prop} {ids : List Nat} (h1 : jlx l S H = true) (h0 : l.flatMap (jdK l S) = ids) (h : ∀ L2 : Nat → Bool, (∀ i, L i = true → i ∉ ids → L2 i = true) → zO X F G L2 H.length [] none l S H (KK .normal)) : zW X F G L (.opsH l) S H KK :=
 zW_opsH h1 (h _ (fun i hi hn => by
  unfold zflH
  rw [h0]
  simp only [hi, Bool.true_and, Bool.not_eq_true']
  cases hc : ids.contains i with
  | false => rfl
  | true => exact absurd (List.contains_iff_mem.1 hc) hn))
section
variable {tb : List (FuncId × Bool)} {g : PX} {L : Nat → Bool} {H : ZH} {K : ZV → ZH → Prop}
set_option maxHeartbeats 8000000 in
theorem order_c {p : Nat} {ex : Bool} (hpl : p < H.length) (hL : L p = true) : RdC tb g L 18 [.ptr p 0] H p ex ordP (fun x => .agg (eRd x)) := by
 intro l X K hb hbad hK
 refine ZC.enterL Gh.no (jan (by decide)) f_od_ro (by simp) fun hL' => ?_
 simp only [jns]
 have F0 := Lib.hid hK
 have HB := Lib.hid hbad
 clear hK hbad
 have hat := fun r' B Y => jb1 (H := H) (p := p) (ex := ex) (l := r') (X := X) (B := B) (Y := Y)
 have hst := fun r' B C Y => jaT (H := H) (p := p) (ex := ex) (l := r') (X := X) (B := B) (C := C) (Y := Y)
 have hlt := hL' 0
 simp only [List.length_append, jaB, Nat.add_zero] at hlt
 repeat' (first | (simp only [zP, jaf, jaa, jad, jae, seval, Nat.reduceLeDiff, *]) | (simp only [jab]) | (with_reducible apply And.intro) | (with_reducible intro _))
 refine jcf hpl hL l _ _ hb (fun h => HB.out (by unfold ordP; rw [h]; rfl)) (fun a1 r1 h1 b1 => ?_)
 repeat' (first | (simp only [zP, jaf, jaa, jad, jae, seval, Nat.reduceLeDiff, *]) | (simp only [jab]) | (with_reducible apply And.intro) | (with_reducible intro _))
 refine jcf hpl hL r1 _ _ b1 (fun h => HB.out (by unfold ordP; rw [h1, jac, h]; rfl)) (fun a2 r2 h2 b2 => ?_)
 repeat' (first | (simp only [zP, jaf, jaa, jad, jae, seval, Nat.reduceLeDiff, *]) | (simp only [jab]) | (with_reducible apply And.intro) | (with_reducible intro _))
 refine jcf hpl hL r2 _ _ b2 (fun h => HB.out (by unfold ordP; rw [h1, jac, h2, jac, h]; rfl)) (fun a3 r3 h3 b3 => ?_)
 repeat' (first | (simp only [zP, jaf, jaa, jad, jae, seval, Nat.reduceLeDiff, *]) | (simp only [jab]) | (with_reducible apply And.intro) | (with_reducible intro _))
 refine jcf hpl hL r3 _ _ b3 (fun h => HB.out (by unfold ordP; rw [h1, jac, h2, jac, h3, jac, h]; rfl)) (fun a4 r4 h4 b4 => ?_)
 repeat' (first | (simp only [zP, jaf, jaa, jad, jae, seval, Nat.reduceLeDiff, *]) | (simp only [jab]) | (with_reducible apply And.intro) | (with_reducible intro _))
 refine jcf hpl hL r4 _ _ b4 (fun h => HB.out (by unfold ordP; rw [h1, jac, h2, jac, h3, jac, h4, jac, h]; rfl)) (fun a5 r5 h5 b5 => ?_)
 repeat' (first | (simp only [zP, jaf, jaa, jad, jae, seval, Nat.reduceLeDiff, *]) | (simp only [jab]) | (with_reducible apply And.intro) | (with_reducible intro _))
 refine jcf hpl hL r5 _ _ b5 (fun h => HB.out (by unfold ordP; rw [h1, jac, h2, jac, h3, jac, h4, jac, h5, jac, h]; rfl)) (fun a6 r6 h6 b6 => ?_)
 repeat' (first | (simp only [zP, jaf, jaa, jad, jae, seval, Nat.reduceLeDiff, *]) | (simp only [jab]) | (with_reducible apply And.intro) | (with_reducible intro _))
 refine jcf hpl hL r6 _ _ b6 (fun h => HB.out (by unfold ordP; rw [h1, jac, h2, jac, h3, jac, h4, jac, h5, jac, h6, jac, h]; rfl)) (fun a7 r7 h7 b7 => ?_)
 repeat' (first | (simp only [zP, jaf, jaa, jad, jae, seval, Nat.reduceLeDiff, *]) | (simp only [jab]) | (with_reducible apply And.intro) | (with_reducible intro _))
 refine jcf hpl hL r7 _ _ b7 (fun h => HB.out (by unfold ordP; rw [h1, jac, h2, jac, h3, jac, h4, jac, h5, jac, h6, jac, h7, jac, h]; rfl)) (fun a8 r8 h8 b8 => ?_)
 have hk := F0.out (a1, a2, a3, a4, a5, a6, a7, a8) r8 (by unfold ordP; rw [h1, jac, h2, jac, h3, jac, h4, jac, h5, jac, h6, jac, h7, jac, h8]; rfl) b8
 have fin : ∀ B, Fin (rdH H p ex l ++ X) (.agg [Z64 a1, Z64 a2, Z64 a3, Z64 a4, Z64 a5, Z64 a6, Z64 a7, Z64 a8]) (rdH H p ex r8 ++ (X ++ [B])) K := fun B => by
  refine Fin.trunc jcC rfl ?_
  rw [jcB]; exact hk
 clear F0 HB h1 h2 h3 h4 h5 h6 h7 h8 hk
 repeat' (first | (simp only [zP, jaf, jaa, jad, jae, seval, Nat.reduceLeDiff, hat, hst, hlt, jaB, List.length_append, *]) | (simp only [jab]) | (with_reducible apply And.intro) | (with_reducible intro _))
theorem rd_nin {p q : Nat} {ex : Bool} {l : List Int} {X : ZH} {B : ZB} (hq : H[q]? = some B) (hqp : q ≠ p) : (rdH H p ex l ++ X)[q]? = some B := by
 rw [List.getElem?_append_left (by rw [jaB]; exact jas hq), rd_ne hqp]; exact hq
set_option maxHeartbeats 8000000 in
theorem set_c {p q : Nat} {ex : Bool} (hpl : p < H.length) (hL : L p = true) (hq : H[q]? = some (.box [.ptr p 0])) (hqp : q ≠ p) : RdC tb g L 33 [.ptr q 0] H p ex setP (fun x => .agg (eRS x)) := by
 intro l X K hb hbad hK
 refine ZC.enterL Gh.no (jan (by decide)) f_od_rxa (by simp) fun hL' => ?_
 simp only [jjX]
 have F0 := Lib.hid hK
 have HB := Lib.hid hbad
 clear hK hbad
 have hat := fun r' B Y => jb1 (H := H) (p := p) (ex := ex) (l := r') (X := X) (B := B) (Y := Y)
 have hst := fun r' B C Y => jaT (H := H) (p := p) (ex := ex) (l := r') (X := X) (B := B) (C := C) (Y := Y)
 have hqn := fun r' Y => rd_nin (p := p) (ex := ex) (l := r') (X := Y) hq hqp
 have hlt := hL' 0
 have hql := jas hq
 simp only [List.length_append, jaB, Nat.add_zero] at hlt
 repeat' (first | (simp only [zP, jaf, jaa, jad, jae, seval, Nat.reduceLeDiff, *]) | (simp only [jab]) | (with_reducible apply And.intro) | (with_reducible intro _))
 refine jgQ (ids := [q, q]) ?_ ?_ fun L2 hL2 => ?_
 ·simp [jlx, jda, zupd, ldZ, hqn, jcD]
 ·simp [jdK, jda, zupd]
 have hp2 := hL2 p hL (by simp [Ne.symm hqp])
 have hlt2 := hL2 _ hlt (by simp; omega)
 clear hL2
 repeat' (first | (simp only [zP, jaf, jaa, jad, jae, seval, Nat.reduceLeDiff, hqn, *]) | (simp only [jab]) | (with_reducible apply And.intro) | (with_reducible intro _))
 refine jcf hpl hp2 l _ _ hb (fun h => HB.out (by unfold setP; rw [h]; rfl)) (fun a1 r1 h1 b1 => ?_)
 repeat' (first | (simp only [zP, jaf, jaa, jad, jae, seval, Nat.reduceLeDiff, hqn, *]) | (simp only [jab]) | (with_reducible apply And.intro) | (with_reducible intro _))
 refine jiJ hpl hp2 r1 _ _ b1 (fun h => HB.out (by unfold setP; rw [h1, jac, h]; rfl)) (fun a2 r2 h2 b2 => ?_)
 have hk := F0.out (a1, a2) r2 (by unfold setP; rw [h1, jac, h2]; rfl) b2
 have fin : ∀ B, Fin (rdH H p ex l ++ X) (.agg [Z64 a1, Z64 a2.1, Z64 a2.2]) (rdH H p ex r2 ++ (X ++ [B])) K := fun B => by
  refine Fin.trunc jcC rfl ?_
  rw [jcB]; exact hk
 clear F0 HB h1 h2 hk
 repeat' (first | (simp only [zP, jaf, jaa, jad, jae, seval, Nat.reduceLeDiff, hat, hst, hlt, hlt2, jaB, List.length_append, *]) | (simp only [jab]) | (with_reducible apply And.intro) | (with_reducible intro _))
set_option maxHeartbeats 8000000 in
theorem make_c {p q : Nat} {ex : Bool} (hpl : p < H.length) (hL : L p = true) (hq : H[q]? = some (.box [.ptr p 0])) (hqp : q ≠ p) : RdC tb g L 36 [.ptr q 0] H p ex jeW (fun x => .agg (eRM x)) := by
 intro l X K hb hbad hK
 refine ZC.enterL Gh.no (jan (by decide)) f_od_rxb (by simp) fun hL' => ?_
 simp only [jjW]
 have F0 := Lib.hid hK
 have HB := Lib.hid hbad
 clear hK hbad
 have hat := fun r' B Y => jb1 (H := H) (p := p) (ex := ex) (l := r') (X := X) (B := B) (Y := Y)
 have hst := fun r' B C Y => jaT (H := H) (p := p) (ex := ex) (l := r') (X := X) (B := B) (C := C) (Y := Y)
 have hat2 := fun r' A B Y => jmv (H := H) (p := p) (ex := ex) (l := r') (X := X) (A := A) (B := B) (Y := Y)
 have hst2 := fun r' A B C Y => jgj (H := H) (p := p) (ex := ex) (l := r') (X := X) (A := A) (B := B) (C := C) (Y := Y)
 have hqn := fun r' Y => rd_nin (p := p) (ex := ex) (l := r') (X := Y) hq hqp
 have hlt := hL' 0
 have hlt1 := hL' 1
 have hql := jas hq
 simp only [List.length_append, jaB, Nat.add_zero, Nat.add_assoc] at hlt hlt1
 repeat' (first | (simp only [zP, jaf, jaa, jad, jae, seval, Nat.reduceLeDiff, *]) | (simp only [jab]) | (with_reducible apply And.intro) | (with_reducible intro _))
 refine jgQ (ids := [q, q, q]) ?_ ?_ fun L2 hL2 => ?_
 ·simp [jlx, jda, zupd, ldZ, hqn, jcD]
 ·simp [jdK, jda, zupd]
 have hp2 := hL2 p hL (by simp [Ne.symm hqp])
 have hlt2 := hL2 _ hlt (by simp; omega)
 have hlt3 := hL2 _ hlt1 (by simp; omega)
 clear hL2
 repeat' (first | (simp only [zP, jaf, jaa, jad, jae, seval, Nat.reduceLeDiff, hqn, *]) | (simp only [jab]) | (with_reducible apply And.intro) | (with_reducible intro _))
 refine jiJ hpl hp2 l _ _ hb (fun h => HB.out (by unfold jeW; rw [h]; rfl)) (fun a1 r1 h1 b1 => ?_)
 repeat' (first | (simp only [zP, jaf, jaa, jad, jae, seval, Nat.reduceLeDiff, hqn, *]) | (simp only [jab]) | (with_reducible apply And.intro) | (with_reducible intro _))
 refine jcf hpl hp2 r1 _ _ b1 (fun h => HB.out (by unfold jeW; rw [h1, jac, h]; rfl)) (fun a2 r2 h2 b2 => ?_)
 repeat' (first | (simp only [zP, jaf, jaa, jad, jae, seval, Nat.reduceLeDiff, hqn, *]) | (simp only [jab]) | (with_reducible apply And.intro) | (with_reducible intro _))
 refine jcf hpl hp2 r2 _ _ b2 (fun h => HB.out (by unfold jeW; rw [h1, jac, h2, jac, h]; rfl)) (fun a3 r3 h3 b3 => ?_)
 repeat' (first | (simp only [zP, jaf, jaa, jad, jae, seval, Nat.reduceLeDiff, hqn, hat, hst, hat2, hst2, hlt, hlt2, hlt1, hlt3, jaB, List.length_append, Nat.add_assoc, *]) | (simp only [jab]) | (with_reducible apply And.intro) | (with_reducible intro _))
 refine lP_c hpl hL rfl (by omega) (jiJ hpl hL) r3 _ _ b3 (fun h => HB.out (by unfold jeW; rw [h1, jac, h2, jac, h3, jac, h]; rfl)) (fun a4 r4 h4 b4 => ?_)
 have hk := F0.out (a1.1, a1.2, a2, a3, a4) r4 (by unfold jeW; rw [h1, jac, h2, jac, h3, jac, h4]; rfl) b4
 have fin : ∀ A B, Fin (rdH H p ex l ++ X) (.agg [Z64 a1.1, Z64 a1.2, Z64 a2, Z64 a3, .fz 2 false (a4.map eRP)]) (rdH H p ex r4 ++ (X ++ [A, B])) K := fun A B => by
  refine Fin.trunc jcC rfl ?_
  rw [jcB]; exact hk
 clear F0 HB h1 h2 h3 h4 hk
 repeat' (first | (simp only [zP, jaf, jaa, jad, jae, seval, Nat.reduceLeDiff, hat, hst, hat2, hst2, hlt, hlt1, hlt2, hlt3, jaB, List.length_append, Nat.add_assoc, *]) | (simp only [jab]) | (with_reducible apply And.intro) | (with_reducible intro _))
end
end Go.Proofs.Ytmholkmghhkbhaa

namespace Go.Proofs.Ytmholkmghhkbhaa
open Go Go.RowKit
section
variable {tb : List (FuncId × Bool)} {g : PX} {L : Nat → Bool} {H : ZH} {K : ZV → ZH → Prop}
theorem RdC.at_ {α : Type} {f : FuncId} {vs : List ZV} {p : Nat} {ex : Bool} {one : Rdr α} {e : α → ZV} {Y : ZH} (h : RdC tb g L f vs (H ++ Y) p ex one e) (hpl : p < H.length) {l : List Int} (hb : ja5 l) (hbad : one l = none → g.g badV) (hK : ∀ x r, one l = some (x, r) → ja5 r → K (e x) (rdH H p ex r ++ Y)) :
  ZC (XQ tb g) (jap Try.prog) f vs L (rdH H p ex l ++ Y) K := by
 have := h l [] K hb hbad (fun x r h1 h2 => by rw [rd_app hpl, List.append_nil]; exact hK x r h1 h2)
 rw [rd_app hpl, List.append_nil] at this
 exact this
set_option maxHeartbeats 8000000 in
theorem jm9 {p : Nat} {ex : Bool} (hpl : p < H.length) (hL : L p = true) : RdC tb g L 20 [.ptr p 0] H p ex jdX (fun x => .agg (eRX x)) := by
 intro l X K hb hbad hK
 refine ZC.enterL Gh.no (jan (by decide)) f_od_rx (by simp) fun hL' => ?_
 simp only [jnq]
 have F0 := Lib.hid hK
 have HB := Lib.hid hbad
 clear hK hbad
 have hat := fun r' B Y => jb1 (H := H) (p := p) (ex := ex) (l := r') (X := X) (B := B) (Y := Y)
 have hst := fun r' B C Y => jaT (H := H) (p := p) (ex := ex) (l := r') (X := X) (B := B) (C := C) (Y := Y)
 have hat2 := fun r' A B Y => jmv (H := H) (p := p) (ex := ex) (l := r') (X := X) (A := A) (B := B) (Y := Y)
 have hst2 := fun r' A B C Y => jgj (H := H) (p := p) (ex := ex) (l := r') (X := X) (A := A) (B := B) (C := C) (Y := Y)
 have hat3 := fun r' A A2 B Y => rd_top3 (H := H) (p := p) (ex := ex) (l := r') (X := X) (A := A) (A2 := A2) (B := B) (Y := Y)
 have hst3 := fun r' A A2 B C Y => jkI (H := H) (p := p) (ex := ex) (l := r') (X := X) (A := A) (A2 := A2) (B := B) (C := C) (Y := Y)
 have hlt := hL' 0
 have hlt1 := hL' 1
 have hlt2 := hL' 2
 simp only [List.length_append, jaB, Nat.add_zero, Nat.add_assoc] at hlt hlt1 hlt2
 have hqa : ∀ B C Y, (H ++ (X ++ (ZB.box [.ptr p 0] :: B :: C :: Y)))[H.length + X.length]? = some (.box [.ptr p 0]) := fun B C Y => by
  rw [← List.append_assoc, List.getElem?_append_right (by simp)]; simp
 have hpl' : ∀ B C Y, p < (H ++ (X ++ (ZB.box [.ptr p 0] :: B :: C :: Y))).length := fun B C Y => by rw [List.length_append]; omega
 have hne : H.length + X.length ≠ p := by omega
 have hpl2 : p < H.length + X.length := by omega
 repeat' (first | (simp only [zP, jaf, jaa, jad, jae, seval, Nat.reduceLeDiff, jaB, List.length_append, *]) | (simp only [jab]) | (with_reducible apply And.intro) | (with_reducible intro _))
 refine jgQ (ids := [H.length + X.length, H.length + X.length]) ?_ ?_ fun L2 hL2 => ?_
 ·simp [jlx, jda, zupd, ldZ, hat, jcD, jaB]
 ·simp [jdK, jda, zupd, jaB]
 have hp2 := hL2 p hL (by simp; omega)
 have hlt3 := hL2 _ hlt1 (by simp)
 have hlt4 := hL2 _ hlt2 (by simp)
 clear hL2
 repeat' (first | (simp only [zP, jaf, jaa, jad, jae, seval, Nat.reduceLeDiff, hat, jaB, List.length_append, *]) | (simp only [jab]) | (with_reducible apply And.intro) | (with_reducible intro _))
 refine jcf hpl hp2 l _ _ hb (fun h => HB.out (by unfold jdX; rw [h]; rfl)) (fun a1 r1 h1 b1 => ?_)
 repeat' (first | (simp only [zP, jaf, jaa, jad, jae, seval, Nat.reduceLeDiff, hat, jaB, List.length_append, *]) | (simp only [jab]) | (with_reducible apply And.intro) | (with_reducible intro _))
 refine jcf hpl hp2 r1 _ _ b1 (fun h => HB.out (by unfold jdX; rw [h1, jac, h]; rfl)) (fun a2 r2 h2 b2 => ?_)
 repeat' (first | (simp only [zP, jaf, jaa, jad, jae, seval, Nat.reduceLeDiff, hat, hst, hat2, hst2, hat3, hst3, hlt, hlt1, hlt2, hlt3, hlt4, jaB, List.length_append, Nat.add_assoc, *]) | (simp only [jab]) | (with_reducible apply And.intro) | (with_reducible intro _))
 refine RdC.at_ (lS_c (most := 60) (hpl' _ _ _) hL rfl (by omega) (set_c (hpl' _ _ _) hL (hqa _ _ _) hne)) hpl b2 (fun h => HB.out (by unfold jdX; rw [h1, jac, h2, jac, h]; rfl)) (fun a3 r3 h3 b3 => ?_)
 repeat' (first | (simp only [zP, jaf, jaa, jad, jae, seval, Nat.reduceLeDiff, hat, hst, hat2, hst2, hat3, hst3, hlt, hlt1, hlt2, hlt3, hlt4, jaB, List.length_append, Nat.add_assoc, *]) | (simp only [jab]) | (with_reducible apply And.intro) | (with_reducible intro _))
 refine RdC.at_ (lM_c (most := 300) (hpl' _ _ _) hL rfl (by omega) (make_c (hpl' _ _ _) hL (hqa _ _ _) hne)) hpl b3 (fun h => HB.out (by unfold jdX; rw [h1, jac, h2, jac, h3, jac, h]; rfl)) (fun a4 r4 h4 b4 => ?_)
 have hk := F0.out (a1, a2, a3, a4) r4 (by unfold jdX; rw [h1, jac, h2, jac, h3, jac, h4]; rfl) b4
 have fin : ∀ A B C, Fin (rdH H p ex l ++ X) (.agg [Z64 a1, Z64 a2, .fz 3 false (a3.map eRS), .fz 5 false (a4.map eRM)]) (rdH H p ex r4 ++ (X ++ [A, B, C])) K := fun A B C => by
  refine Fin.trunc jcC rfl ?_
  rw [jcB]; exact hk
 clear F0 HB h1 h2 h3 h4 hk
 repeat' (first | (simp only [zP, jaf, jaa, jad, jae, seval, Nat.reduceLeDiff, hat, hst, hat2, hst2, hat3, hst3, hlt, hlt1, hlt2, hlt3, hlt4, jaB, List.length_append, Nat.add_assoc, *]) | (simp only [jab]) | (with_reducible apply And.intro) | (with_reducible intro _))
end
end Go.Proofs.Ytmholkmghhkbhaa
