/-
  Proved: WHERE WHAT IT READS IS OF BULK AT MOST 1048576 the law OrderBack answers true.
-/
import Derived.Test.YtmholkmghhkbhaaMrB10
import Derived.Test.YtmholkmghhkbhaaMrB14
import Derived.Test.YtmholkmghhkbhaaMrB9
set_option linter.unusedVariables false
set_option linter.unusedSimpArgs false
namespace Go.Proofs.Ytmholkmghhkbhaa
open Go Go.RowKit
variable {L : Nat → Bool} {H : ZH} {K : ZV → ZH → Prop}
theorem encU_b : ∀ (u : Nat), ∀ x ∈ encU u, 0 ≤ x ∧ x < 256 := fun u => by
 induction u using Nat.strongRecOn with
 | _ u ih =>
  intro x hx
  by_cases h : u < 128
  ·rw [jey h] at hx
   simp only [List.mem_singleton] at hx; omega
  ·rw [jez h] at hx
   rcases List.mem_cons.1 hx with rfl | hx
   ·omega
   ·exact ih (u / 128) (by omega) x hx
abbrev Bys (l : List Int) : Prop := ∀ x ∈ l, 0 ≤ x ∧ x < 256
theorem Bys.app {a b : List Int} (h1 : Bys a) (h2 : Bys b) : Bys (a ++ b) := fun x hx => (List.mem_append.1 hx).elim (h1 x) (h2 x)
theorem Bys.flat {α : Type} {f : α → List Int} {l : List α} (h : ∀ x, Bys (f x)) : Bys (l.flatMap f) := fun x hx => by
 obtain ⟨y, _, hy⟩ := List.mem_flatMap.1 hx
 exact h y x hy
theorem jbE (n : Int) : Bys (encN n) := encU_b _
theorem jh3 {α : Type} {f : α → List Int} {l : List α} (h : ∀ x, Bys (f x)) : Bys (encL f l) := (jbE _).app (Bys.flat h)
theorem jg5 (p : OPl) : Bys (ja7 p) := (jbE _).app (jbE _)
theorem setE_b (p : OSt) : Bys (setE p) := (jbE _).app (jg5 _)
theorem makeE_b (p : OMk) : Bys (jc9 p) := (jg5 _).app ((jbE _).app ((jbE _).app (jh3 jg5)))
theorem ji6 (p : OXt) : Bys (jcb p) := (jbE _).app ((jbE _).app ((jh3 setE_b).app (jh3 makeE_b)))
theorem ordE_b (x : Rd) : Bys (ordE x) := (jbE _).app ((jbE _).app ((jbE _).app ((jbE _).app ((jbE _).app ((jbE _).app ((jbE _).app (jbE _)))))))
theorem codeE_b (c : Cd) : Bys (jdv c) := (jbE _).app ((jbE _).app ((jbE _).app ((jbE _).app ((jh3 ordE_b).app ((jh3 ji6).app ((ji6 _).app (ji6 _)))))))
theorem jla {c : Cd} (hR : CdR c) (h0 : jbu c = 0) : (jdv c).length ≤ 300000000 := let h := jei (c := c) h0; jfM hR h.1 h.2.1 h.2.2
theorem jmN {r : Nat} : natZ (Z64 (r : Int)) = some r := by simp [natZ]
end Go.Proofs.Ytmholkmghhkbhaa

namespace Go.Proofs.Ytmholkmghhkbhaa
open Go Go.RowKit Go.ChangeShapes Go.WideShapes Go.ChangeAt
theorem jby {n : Int} (h : (Lit.int .i64 n).wf = true) : R64 n := by
 simpa [Lit.wf, IntKind.min, IntKind.max, IntKind.signed, IntKind.bits] using h
theorem r8_of {n : Int} (h : (Lit.int .u8 n).wf = true) : 0 ≤ n ∧ n < 256 := by
 have : 0 ≤ n ∧ n ≤ 255 := by simpa [Lit.wf, IntKind.min, IntKind.max, IntKind.signed, IntKind.bits] using h
 omega
theorem PlR_of {x : tyRP.val} (h : TOk tyRP x) : PlR x := ⟨jby h.1, jby h.2⟩
theorem StR_of {x : tyRS.val} (h : TOk tyRS x) : StR x := ⟨jby h.1, PlR_of h.2⟩
theorem MkR_of {x : tyRM.val} (h : TOk tyRM x) : MkR (oM x) := ⟨jby h.1.1, jby h.1.2, jby h.2.1, jby h.2.2.1, fun p hp => PlR_of (h.2.2.2.2 p hp)⟩
theorem jnL {x : tyRX.val} (h : TOk tyRX x) : XtR (oX x) := by
 refine ⟨jby h.1, jby h.2.1, fun p hp => StR_of (h.2.2.1.2 p hp), fun m hm => ?_⟩
 simp only [oX, List.mem_map] at hm
 obtain ⟨m0, hm0, rfl⟩ := hm
 exact MkR_of (h.2.2.2.2 m0 hm0)
theorem OdR_of {x : tyRd.val} (h : TOk tyRd x) : OdR x := ⟨jby h.1, jby h.2.1, jby h.2.2.1, jby h.2.2.2.1, jby h.2.2.2.2.1, jby h.2.2.2.2.2.1, jby h.2.2.2.2.2.2.1, jby h.2.2.2.2.2.2.2⟩
theorem CdR_of {x : tyCd.val} (h : TOk tyCd x) : CdR (oC x) := by
 obtain ⟨h1, h2, h3, h4, h5, h6, h7, h8⟩ := h
 refine ⟨jby h1, jby h2, jby h3, jby h4, fun y hy => OdR_of (h5.2 y hy), fun y hy => ?_, jnL h7, jnL h8⟩
 simp only [oC, List.mem_map] at hy
 obtain ⟨y0, hy0, rfl⟩ := hy
 exact jnL (h6.2 y0 hy0)
end Go.Proofs.Ytmholkmghhkbhaa

namespace Go.Proofs.Ytmholkmghhkbhaa
open Go Go.RowKit
def jhg : jar := .seq (.ops [⟨(some 35), .mv (.tmp 1), none, true⟩,
 ⟨(some 36), .mv (.tmp 1), none, true⟩,
 ⟨(some 37), .len (.tmp 36), none, true⟩,
 ⟨(some 38), .minmax false (.tmp 37) [(.av (.val (.int .i64 3000)))], none, true⟩,
 ⟨(some 39), .slice 1 (.tmp 35) none (some (.tmp 38)) none, none, true⟩,
 ⟨(some 1), .mv (.tmp 39), none, true⟩])
 (.seq (.ops [⟨(some 41), .mv (.tmp 1), none, true⟩,
 ⟨(some 42), .call (.av (.func 7 [])) [(.tmp 41)], none, true⟩,
 ⟨(some 40), .mv (.tmp 42), none, true⟩,
 ⟨(some 43), .extract 0 (.tmp 40), none, true⟩,
 ⟨(some 44), .extract 1 (.tmp 40), none, true⟩,
 ⟨(some 9), .zero [(.val (.int .i64 0)), (.val (.int .i64 0)), (.val (.int .i64 0)), (.val (.int .i64 0)), (.val (.slice none 0 0)), (.val (.slice none 0 0)), (.val (.int .i64 0)), (.val (.int .i64 0)), (.val (.slice none 0 0)), (.val (.slice none 0 0)), (.val (.int .i64 0)), (.val (.int .i64 0)), (.val (.slice none 0 0)), (.val (.slice none 0 0))], none, true⟩,
 ⟨none, .store 14 (.tmp 9) (.tmp 43), none, true⟩,
 ⟨(some 10), .mv (.tmp 44), none, true⟩])
 (.seq (.seq (.ops [⟨(some 45), .mv (.tmp 10), none, true⟩,
 ⟨(some 46), .bin .neq (.tmp 45) (.av (.val (.int .i64 0))), none, true⟩])
 (.cond (.tmp 46)
 (.seq (.ops [⟨(some 47), .call (.av (.func 5 [])) [], none, true⟩,
 ⟨(some 48), .mv (.tmp 47), none, true⟩,
 ⟨(some 49), .mv (.tmp 10), (some (48, true)), true⟩,
 ⟨(some 50), .bin .eql (.tmp 49) (.av (.val (.int .i64 3))), (some (48, true)), true⟩,
 ⟨(some 51), .pick (.tmp 48) (.tmp 50) (.av (.val (.bool false))), none, true⟩,
 ⟨(some 52), .mv (.tmp 51), none, true⟩,
 ⟨(some 53), .load (some 14) (.tmp 9), (some (52, true)), true⟩,
 ⟨(some 54), .build [(.val (.int .i64 0)), (.val (.int .i64 0)), (.val (.int .i64 0)), (.val (.int .i64 0)), (.val (.slice none 0 0)), (.val (.slice none 0 0)), (.val (.int .i64 0)), (.val (.int .i64 0)), (.val (.slice none 0 0)), (.val (.slice none 0 0)), (.val (.int .i64 0)), (.val (.int .i64 0)), (.val (.slice none 0 0)), (.val (.slice none 0 0))] [], (some (52, true)), true⟩,
 ⟨(some 55), .call (.av (.func 8 [])) [(.tmp 53), (.tmp 54)], (some (52, true)), true⟩,
 ⟨(some 56), .pick (.tmp 52) (.tmp 55) (.av (.val (.bool false))), none, true⟩,
 ⟨(some 4), .mv (.tmp 56), none, true⟩])
 (.ret))
 (.skip)))
 (.seq (.ops [⟨(some 58), .load (some 14) (.tmp 9), none, true⟩,
 ⟨(some 59), .call (.av (.func 6 [])) [(.tmp 58)], none, true⟩,
 ⟨(some 57), .mv (.tmp 59), none, true⟩,
 ⟨(some 60), .extract 0 (.tmp 57), none, true⟩,
 ⟨(some 61), .extract 1 (.tmp 57), none, true⟩,
 ⟨(some 11), .mv (.tmp 60), none, true⟩,
 ⟨(some 12), .mv (.tmp 61), none, true⟩])
 (.seq (.ops [⟨(some 62), .call (.av (.func 5 [])) [], none, true⟩,
 ⟨(some 63), .mv (.tmp 62), none, true⟩,
 ⟨(some 64), .mv (.tmp 12), (some (63, true)), true⟩,
 ⟨(some 65), .bin .eql (.tmp 64) (.av (.val (.int .i64 0))), (some (63, true)), true⟩,
 ⟨(some 66), .pick (.tmp 63) (.tmp 65) (.av (.val (.bool false))), none, true⟩,
 ⟨(some 67), .mv (.tmp 66), none, true⟩,
 ⟨(some 68), .mv (.tmp 11), (some (67, true)), true⟩,
 ⟨(some 69), .toStr (.tmp 68), (some (67, true)), true⟩,
 ⟨(some 70), .mv (.tmp 1), (some (67, true)), true⟩,
 ⟨(some 71), .toStr (.tmp 70), (some (67, true)), true⟩,
 ⟨(some 72), .bin .eql (.tmp 69) (.tmp 71), (some (67, true)), true⟩,
 ⟨(some 73), .pick (.tmp 67) (.tmp 72) (.av (.val (.bool false))), none, true⟩,
 ⟨(some 4), .mv (.tmp 73), none, true⟩])
 (.ret)))))
def jnz : jar := .seq (.ops [⟨(some 2), .box 14 (.tmp 0), none, true⟩,
 ⟨(some 4), .mv (.av (.val (.bool false))), none, true⟩]) (.seq (.seq (.ops [⟨(some 13), .call (.av (.func 5 [])) [], none, true⟩,
 ⟨(some 14), .un .not (.tmp 13), none, true⟩])
 (.cond (.tmp 14)
 (.seq (.ops [⟨(some 4), .mv (.av (.val (.bool false))), none, true⟩])
 (.ret))
 (.skip))) (.seq (.ops [⟨(some 16), .load (some 14) (.tmp 2), none, true⟩,
 ⟨(some 17), .call (.av (.func 6 [])) [(.tmp 16)], none, true⟩,
 ⟨(some 15), .mv (.tmp 17), none, true⟩,
 ⟨(some 18), .extract 0 (.tmp 15), none, true⟩,
 ⟨(some 19), .extract 1 (.tmp 15), none, true⟩,
 ⟨(some 5), .mv (.tmp 18), none, true⟩,
 ⟨(some 6), .mv (.tmp 19), none, true⟩]) (.seq (.seq (.ops [⟨(some 20), .mv (.tmp 6), none, true⟩,
 ⟨(some 21), .bin .eql (.tmp 20) (.av (.val (.int .i64 0))), none, true⟩])
 (.cond (.tmp 21)
 (.seq (.ops [⟨(some 23), .mv (.tmp 5), none, true⟩,
 ⟨(some 24), .call (.av (.func 7 [])) [(.tmp 23)], none, true⟩,
 ⟨(some 22), .mv (.tmp 24), none, true⟩,
 ⟨(some 25), .extract 0 (.tmp 22), none, true⟩,
 ⟨(some 26), .extract 1 (.tmp 22), none, true⟩,
 ⟨(some 7), .zero [(.val (.int .i64 0)), (.val (.int .i64 0)), (.val (.int .i64 0)), (.val (.int .i64 0)), (.val (.slice none 0 0)), (.val (.slice none 0 0)), (.val (.int .i64 0)), (.val (.int .i64 0)), (.val (.slice none 0 0)), (.val (.slice none 0 0)), (.val (.int .i64 0)), (.val (.int .i64 0)), (.val (.slice none 0 0)), (.val (.slice none 0 0))], none, true⟩,
 ⟨none, .store 14 (.tmp 7) (.tmp 25), none, true⟩,
 ⟨(some 8), .mv (.tmp 26), none, true⟩])
 (.seq (.ops [⟨(some 27), .mv (.tmp 8), none, true⟩,
 ⟨(some 28), .bin .neq (.tmp 27) (.av (.val (.int .i64 0))), none, true⟩,
 ⟨(some 29), .mv (.tmp 28), none, true⟩,
 ⟨(some 30), .load (some 14) (.tmp 2), (some (29, false)), true⟩,
 ⟨(some 31), .load (some 14) (.tmp 7), (some (29, false)), true⟩,
 ⟨(some 32), .call (.av (.func 8 [])) [(.tmp 30), (.tmp 31)], (some (29, false)), true⟩,
 ⟨(some 33), .un .not (.tmp 32), (some (29, false)), true⟩,
 ⟨(some 34), .pick (.tmp 29) (.av (.val (.bool true))) (.tmp 33), none, true⟩])
 (.cond (.tmp 34)
 (.seq (.ops [⟨(some 4), .mv (.av (.val (.bool false))), none, true⟩])
 (.ret))
 (.skip))))
 (.skip))) jhg)))
theorem jm8 : jap Try.prog 3 = some ⟨74, jnz, [.tmp 4]⟩ := by kernel_rfl

end Go.Proofs.Ytmholkmghhkbhaa

namespace Go.Proofs.Ytmholkmghhkbhaa
open Go Go.RowKit
variable {L : Nat → Bool} {H : ZH} {K : ZV → ZH → Prop}
theorem rows_eC {Hh : ZH} {ex : Bool} {l : List Int} : jaX Hh 1 (.fz 1 ex (l.map eC)) = some (l.map eC) := by simp [jaX]
theorem jmJ : ∀ {l : List Int}, jhN (l.map eC).flatten = some l
 | [] => rfl
 | c :: l => by
  have := jmJ (l := l)
  rw [List.map_cons, List.flatten_cons]
  show (jhN (l.map eC).flatten).map (c :: ·) = _
  rw [this]; rfl
theorem decF_b {l : List Int} {c : Cd} (h : decF l = some c) : CdB c := by
 unfold decF at h
 split at h
 ·rename_i c' r hc
  split at h
  ·injection h with h; subst h; exact jnk hc
  ·cases h
 ·cases h
theorem CdS_of {c : Cd} (h : CdB c) : CdS c := ⟨by have := h.ords; omega, by have := h.exs; omega, fun x hx => by
 have hx := h.all x hx
 exact ⟨by have := hx.sets; omega, by have := hx.makes; omega, fun m hm => by have := hx.vals m hm; omega⟩⟩
theorem CdB0 : CdB c0 := ⟨by simp [c0], by simp [c0], fun x hx => by simp [exsL, c0] at hx; rcases hx with rfl; exact ⟨by simp, by simp, by simp⟩⟩
set_option maxHeartbeats 8000000 in
theorem jnD {b : List Int} {S : ZS} {KK : jaq → ZS → ZH → Prop} (hb : ja5 b) (h1 : S 1 = .fz 1 false (b.map eC)) (hL : ∀ k, L (H.length + k) = true) (hK : ∀ S' Y, S' 4 = ZBo true → KK .ret S' (H ++ Y)) : zW (XQ tbO pnD) (jap Try.prog) Gh.no L jhg S H KK := by
 have a00 : ∀ A Y, (H ++ (A :: Y))[H.length]? = some A := fun A Y => atN0 rfl A Y
 have s0 : ∀ A A' X, (H ++ A :: X).set H.length A' = H ++ A' :: X := fun A A' X => by rw [List.set_append_right _ _ (Nat.le_refl _), Nat.sub_self]; rfl
 have l0 : L H.length = true := hL 0
 have F0 := Lib.hid hK
 clear hK hL
 obtain ⟨m, hm⟩ : ∃ m, m = min b.length 3000 := ⟨_, rfl⟩
 have hml : (b.map eC).length = b.length := by simp
 have hct : ∀ Hh : ZH, cutZ Hh 1 0 m b.length false (.fz 1 false (b.map eC)) = some (.fz 1 false ((b.take m).map eC)) := fun Hh => by
  simp only [cutZ, hml]
  rw [if_pos (by refine ⟨?_, ?_, ?_, ?_⟩ <;> first | trivial | omega)]
  cases b with
  | nil => simp
  | cons x b => simp [List.map_take]
 have hbest : jid false (Z64 (b.length : Int)) [Z64 3000] = some (Z64 (m : Int)) := by
  rw [hm]; simp [jid]; try omega
 have HB := Lib.hid (⟨fun x hx => hb.b x (List.mem_of_mem_take hx), by rw [List.length_take]; have := hb.n; omega⟩ : ja5 (b.take m))
 clear hm hb
 unfold jhg
 repeat' (first | (simp only [zP, jaf, jaa, jad, jae, seval, Nat.reduceLeDiff, h1, hml, hbest, jfD, jfC, *]) | (simp only [jab]) | (with_reducible apply And.intro) | (with_reducible intro _))
 refine ⟨m, jmN, _, hct _, ?_⟩
 repeat' (first | (simp only [zP, jaf, jaa, jad, jae, seval, Nat.reduceLeDiff, *]) | (simp only [jab]) | (with_reducible apply And.intro) | (with_reducible intro _))
 refine jjL HB.out ?_
 cases hd : decF (b.take m) with
 | none =>
  have hz : decZ (b.take m) = .tuple [.agg (eCd c0), Z64 3] := by unfold decZ; rw [hd]
  rw [hz]
  clear hz hd HB hct hbest h1
  have n3 : binV .neq (.int .i64 3) (.int .i64 0) = some (.bool true) := rfl
  have q3 : binV .eql (.int .i64 3) (.int .i64 3) = some (.bool true) := rfl
  repeat' (first | (simp only [zP, jaf, jaa, jad, jae, seval, Nat.reduceLeDiff, a00, s0, l0, n3, q3, *]) | (simp only [jab]) | (with_reducible apply And.intro) | (with_reducible intro _))
  refine ZC.upQ (jfA ?_)
  repeat' (first | (simp only [zP, jaf, jaa, jad, jae, seval, Nat.reduceLeDiff, a00, s0, l0, n3, q3, *]) | (simp only [jab]) | (with_reducible apply And.intro) | (with_reducible intro _))
  refine ZC.upQ (same_z (c := c0) CdZ.fz CdZ.nil (CdS_of CdB0) ?_)
  have fin := F0.out
  repeat' (first | (simp only [zP, jaf, jaa, jad, jae, seval, Nat.reduceLeDiff, a00, s0, l0, *]) | (simp only [jab]) | (with_reducible apply And.intro) | (with_reducible intro _))
 | some d =>
  have hz : decZ (b.take m) = .tuple [.agg (eCd d), Z64 0] := by unfold decZ; rw [hd]
  obtain ⟨e1, e2, e3, e4, e5⟩ := jng hd
  have HE := Lib.hid e1
  have HC := Lib.hid e2
  have HR := Lib.hid e3
  have HD := Lib.hid (decF_b hd)
  rw [hz]
  clear hz hd HB hct hbest h1 e1 e2 e3 e4 e5
  repeat' (first | (simp only [zP, jaf, jaa, jad, jae, seval, Nat.reduceLeDiff, a00, s0, l0, *]) | (simp only [jab]) | (with_reducible apply And.intro) | (with_reducible intro _))
  refine ZC.upQ (jhf (c := d) HD.out (fun _ => HR.out) (fun h0 => absurd HC.out h0) (fun h0 => ?_))
  rw [HE.out]
  clear h0 HE HC HR HD
  repeat' (first | (simp only [zP, jaf, jaa, jad, jae, seval, Nat.reduceLeDiff, a00, s0, l0, *]) | (simp only [jab]) | (with_reducible apply And.intro) | (with_reducible intro _))
  refine ZC.upQ (jfA ?_)
  have fin := F0.out
  have hr := fun (Hh : ZH) (ex : Bool) (l : List Int) => rows_eC (Hh := Hh) (ex := ex) (l := l)
  have hn := fun (l : List Int) => jmJ (l := l)
  have hq : ∀ s : ByteArray, binV .eql (.string s) (.string s) = some (.bool true) := fun s => by simp [binV]
  repeat' (first | (simp only [zP, jaf, jaa, jad, jae, seval, Nat.reduceLeDiff, a00, s0, l0, hr, hn, hq, z_toStr, *]) | (simp only [jab]) | (with_reducible apply And.intro) | (with_reducible intro _))
end Go.Proofs.Ytmholkmghhkbhaa

namespace Go.Proofs.Ytmholkmghhkbhaa
open Go Go.RowKit
variable {L : Nat → Bool} {H : ZH} {K : ZV → ZH → Prop}
set_option maxHeartbeats 8000000 in
theorem jiL {c : Cd} {b : List Int} (hB : CdB c) (hR : CdR c) (hxo : c.xo = false) (hxe : c.xe = false) (hb : ja5 b) (hK : K (ZBo true) H) : ZC (XQ tbO pnD) (jap Try.prog) 3 [.agg (eCd c), .fz 1 false (b.map eC)] L H K := by
 refine ZC.enterL Gh.no (jan (by decide)) jm8 (by simp) fun hL => ?_
 simp only [jnz]
 have F0 := Lib.hid (show ∀ X, Fin H (ZBo true) (H ++ X) K from fun X => Fin.trunc (Mods.ext H X) rfl (by rw [List.take_left]; exact hK))
 have HB := Lib.hid hB
 have HR := Lib.hid hR
 have HY := Lib.hid hb
 clear hK hB hR hb
 have a00 : ∀ A Y, (H ++ (A :: Y))[H.length]? = some A := fun A Y => atN0 rfl A Y
 have a1 : ∀ A B Y, (H ++ (A :: B :: Y))[H.length + 1]? = some B := fun A B Y => atN1 rfl A B Y
 have s1 : ∀ A B C Y, (H ++ (A :: B :: Y)).set (H.length + 1) C = H ++ (A :: C :: Y) := fun A B C Y => stN1 rfl A B C Y
 have l1 : L (H.length + 1) = true := hL 1
 have HL := Lib.hid hL
 clear hL
 have tail : ∀ (S : ZS) (X : ZH), S 1 = .fz 1 false (b.map eC) → zW (XQ tbO pnD) (jap Try.prog) Gh.no L jhg S (H ++ X) (fun x S' H' => (x = .normal ∨ x = .ret) ∧ Fin H (S' 4) H' K) := fun S X h1 => by
  refine jnD (H := H ++ X) HY.out h1 (fun k => by rw [List.length_append, Nat.add_assoc]; exact HL.out _) fun S' Y h4 => ⟨.inr rfl, ?_⟩
  rw [h4, List.append_assoc]; exact F0.out _
 have HT := Lib.hid tail
 clear tail
 obtain ⟨fn, pl, lp, slc, ords, exs, turn, back, xo, xe⟩ := c
 simp only at hxo hxe
 subst hxo
 subst hxe
 repeat' (first | (simp only [zP, jaf, jaa, jad, jae, seval, Nat.reduceLeDiff, a00, *]) | (simp only [jab]) | (with_reducible apply And.intro) | (with_reducible intro _))
 refine ZC.upQ (jfA ?_)
 repeat' (first | (simp only [zP, jaf, jaa, jad, jae, seval, Nat.reduceLeDiff, a00, *]) | (simp only [jab]) | (with_reducible apply And.intro) | (with_reducible intro _))
 refine ZC.upQ (jhf (c := ⟨fn, pl, lp, slc, ords, exs, turn, back, false, false⟩) HB.out (fun _ => HR.out) (fun h0 => ?_) (fun h0 => ?_))
 ·obtain ⟨e, he⟩ : ∃ e, e = jbu ⟨fn, pl, lp, slc, ords, exs, turn, back, false, false⟩ := ⟨_, rfl⟩
  rw [← he] at h0 ⊢
  clear he
  have q0 : binV .eql (.int .i64 e) (.int .i64 0) = some (.bool false) := by simp [binV, h0]
  clear h0 HB HR HY F0 HL
  repeat' (first | (simp only [zP, jaf, jaa, jad, jae, seval, Nat.reduceLeDiff, a00, q0, *]) | (simp only [jab]) | (with_reducible apply And.intro) | (with_reducible intro _))
  exact HT.out _ _ rfl
 ·have hd : decZ (jdv ⟨fn, pl, lp, slc, ords, exs, turn, back, false, false⟩) = .tuple [.agg (eCd ⟨fn, pl, lp, slc, ords, exs, turn, back, false, false⟩), Z64 0] := by
   unfold decZ; rw [decF_enc HR.out h0 rfl rfl]
  have hy : ja5 (jdv ⟨fn, pl, lp, slc, ords, exs, turn, back, false, false⟩) := ⟨codeE_b _, by have := jla HR.out h0; omega⟩
  have HD := Lib.hid hd
  have HE := Lib.hid hy
  have HS := Lib.hid (CdS_of HB.out)
  have e0 : binV .eql (.int .i64 0) (.int .i64 0) = some (.bool true) := rfl
  have n0 : binV .neq (.int .i64 0) (.int .i64 0) = some (.bool false) := rfl
  clear hd hy h0 HB HR HY F0 HL
  repeat' (first | (simp only [zP, jaf, jaa, jad, jae, seval, Nat.reduceLeDiff, a00, e0, *]) | (simp only [jab]) | (with_reducible apply And.intro) | (with_reducible intro _))
  refine jjL HE.out ?_
  rw [HD.out]
  clear HD HE
  repeat' (first | (simp only [zP, jaf, jaa, jad, jae, seval, Nat.reduceLeDiff, a00, a1, s1, l1, n0, *]) | (simp only [jab]) | (with_reducible apply And.intro) | (with_reducible intro _))
  refine ZC.upQ (same_z (c := ⟨fn, pl, lp, slc, ords, exs, turn, back, false, false⟩) CdZ.fz CdZ.fz HS.out ?_)
  repeat' (first | (simp only [zP, jaf, jaa, jad, jae, seval, Nat.reduceLeDiff, a00, a1, s1, l1, *]) | (simp only [jab]) | (with_reducible apply And.intro) | (with_reducible intro _))
  exact HT.out _ _ rfl
end Go.Proofs.Ytmholkmghhkbhaa

namespace Go.Proofs.Ytmholkmghhkbhaa
open Go Go.RowKit Go.ChangeShapes Go.WideShapes Go.ChangeAt
set_option maxRecDepth 100000 in
theorem jeU (os : Os) (started : os.Started) (H : Type) (enc : TypeId × Value → H) (F : Stop.Interp) :
  ReturnsInHanded {} Try.checked os 3 .any ((Rows.OpenSpec.upto Rows.orderBackSpec).pre6 enc Try.prog Try.f3 Rows.orderBackUptoRow.domain false) (((Rows.OpenSpec.upto Rows.orderBackSpec).at F).post enc Try.prog Try.f3 false true false false) := by
 refine jfG (C := Try.checked) 12 [(true, tyCd), (false, .slice 1 (.int .u8))] 4 Try.own Try.laidOut started (by kernel_rfl) Try.func3
  (OpenSpec.witness (enc := enc) (C := Try.checked) (s := Rows.OpenSpec.upto Rows.orderBackSpec) (k := Rows.uptoSmall) rfl false ⟨#[], #[.agg #[.int .i64 0, .int .i64 0, .int .i64 0, .int .i64 0, .slice none 0 0, .slice none 0 0, .int .i64 0, .int .i64 0, .slice none 0 0, .slice none 0 0, .int .i64 0, .int .i64 0, .slice none 0 0, .slice none 0 0], .slice none 0 0], []⟩ 8 (by kernel_rfl) (by kernel_rfl) (by kernel_rfl)
   (x := ([.agg [.lit (.int .i64 0), .lit (.int .i64 0), .lit (.int .i64 0), .lit (.int .i64 0), .nil, .nil, .agg [.lit (.int .i64 0), .lit (.int .i64 0), .nil, .nil], .agg [.lit (.int .i64 0), .lit (.int .i64 0), .nil, .nil]], .nil], [], [])) (by kernel_rfl) (by kernel_rfl) (by kernel_rfl))
  rfl (by kernel_rfl) Try.underlying4 (fun ds h => ?_) (by kernel_rfl) (by kernel_rfl) (fun W args h => ?_) F
 ·match ds, h with
  | [d0, d1], _ => rfl
 ·refine jlF (by kernel_rfl) (jnC (jh6 (n := 1000) (F := jap Try.prog) (by kernel_rfl) (fun f af h => h) tbO (by intro p hp; rw [List.mem_singleton.1 hp]; kernel_rfl))) pnD_ok (fun v h => h) (fun f af h => h) rfl (fun zl hz => ?_) W args h
  obtain ⟨x, _, rfl, hx, sx, b, _, rfl, hb, sb, rfl⟩ := hz
  show ZC _ _ _ [.agg (Go.Proofs.Ytmholkmghhkbhaa.enc tyCd x), .fz 1 false (b.map eC)] _ _ _
  rw [encC]
  exact jiL (L := fun _ => true) (H := []) (K := fun z _ => z = ZBo true) (c := oC x) (CdB_of (Nat.le_refl _) sx.2) (CdR_of hx) rfl rfl ⟨fun c hc => r8_of (hb.2 c hc), by have h1 := jel (cnt (.int .u8)) (fun x => Nat.le_refl 1) b; have h2 : (b.map (cnt (.int .u8))).sum + 1 ≤ 1048576 := sb.2; omega⟩ rfl
theorem orderback_holds : Rows.OrderBackUptoSaid :=
 OpenClaim.holds_of_cond 3 Try.f3 rfl rfl rfl rfl rfl rfl rfl ⟨rfl, rfl, rfl, rfl, rfl⟩ rfl rfl rfl rfl rfl (by kernel_rfl) Try.func3 (by kernel_rfl) (of_decide_eq_true (by kernel_rfl)) (by unfold Func.isWrapper; first | (rw [if_pos (by decide +kernel)]; kernel_rfl) | (rw [if_neg (by decide +kernel)]; exact ⟨rfl, rfl⟩))
  (fun os started H enc _ F => jeU os started H enc F)
end Go.Proofs.Ytmholkmghhkbhaa
