/-
  Proved: WHERE WHAT IT READS IS OF BULK AT MOST 1048576 the law OrderCut answers true.
-/
import Derived.Test.YtmholkmghhkbhaaMrC10
import Derived.Test.YtmholkmghhkbhaaMrC14
import Derived.Test.YtmholkmghhkbhaaMrC9
set_option linter.unusedVariables false
set_option linter.unusedSimpArgs false
namespace Go.Proofs.Ytmholkmghhkbhaa
open Go Go.RowKit
variable {L : Nat → Bool} {H : ZH} {K : ZV → ZH → Prop}
theorem encU_b : ∀ (u : Nat), ∀ x ∈ encU u, 0 ≤ x ∧ x < 256 := fun u => by
 induction u using Nat.strongRecOn with
 | _ u ih =>
  intro x hx
  by_cases h : u < 128
  ·rw [encU_lt h] at hx
   simp only [List.mem_singleton] at hx; omega
  ·rw [encU_ge h] at hx
   rcases List.mem_cons.1 hx with rfl | hx
   ·omega
   ·exact ih (u / 128) (by omega) x hx
abbrev Bys (l : List Int) : Prop := ∀ x ∈ l, 0 ≤ x ∧ x < 256
theorem Bys.app {a b : List Int} (h1 : Bys a) (h2 : Bys b) : Bys (a ++ b) := fun x hx => (List.mem_append.1 hx).elim (h1 x) (h2 x)
theorem Bys.flat {α : Type} {f : α → List Int} {l : List α} (h : ∀ x, Bys (f x)) : Bys (l.flatMap f) := fun x hx => by
 obtain ⟨y, _, hy⟩ := List.mem_flatMap.1 hx
 exact h y x hy
theorem encN_b (n : Int) : Bys (encN n) := encU_b _
theorem encL_b {α : Type} {f : α → List Int} {l : List α} (h : ∀ x, Bys (f x)) : Bys (encL f l) := (encN_b _).app (Bys.flat h)
theorem placeE_b (p : OPl) : Bys (placeE p) := (encN_b _).app (encN_b _)
theorem setE_b (p : OSt) : Bys (setE p) := (encN_b _).app (placeE_b _)
theorem makeE_b (p : OMk) : Bys (makeE p) := (placeE_b _).app ((encN_b _).app ((encN_b _).app (encL_b placeE_b)))
theorem exitE_b (p : OXt) : Bys (exitE p) := (encN_b _).app ((encN_b _).app ((encL_b setE_b).app (encL_b makeE_b)))
theorem ordE_b (x : Rd) : Bys (ordE x) := (encN_b _).app ((encN_b _).app ((encN_b _).app ((encN_b _).app ((encN_b _).app ((encN_b _).app ((encN_b _).app (encN_b _)))))))
theorem codeE_b (c : Cd) : Bys (codeE c) := (encN_b _).app ((encN_b _).app ((encN_b _).app ((encN_b _).app ((encL_b ordE_b).app ((encL_b exitE_b).app ((exitE_b _).app (exitE_b _)))))))
theorem pure_eC : ∀ l : List Int, (l.map eC).flatten.all pureZ = true
 | [] => rfl
 | c :: l => by rw [List.map_cons, List.flatten_cons, List.all_append, pure_eC l]; rfl
theorem encU_pos (u : Nat) : 0 < (encU u).length := by
 by_cases h : u < 128
 ·rw [encU_lt h]; simp
 ·rw [encU_ge h]; simp
theorem codeE_pos (c : Cd) : 0 < (codeE c).length := by
 have := encU_pos (zig c.fn)
 simp only [codeE, encN, List.length_append]; omega
theorem codeE_lenC {c : Cd} (hR : CdR c) (h0 : checkB c = 0) : (codeE c).length ≤ 300000000 := let h := check_len (c := c) h0; codeE_len hR h.1 h.2.1 h.2.2
theorem natZ_cast {r : Nat} : natZ (Z64 (r : Int)) = some r := by simp [natZ]
set_option maxHeartbeats 8000000 in
theorem ordercut_z {c : Cd} {k more : Int} (hB : CdB c) (hR : CdR c) (hxo : c.xo = false) (hxe : c.xe = false) (hm : 0 ≤ more ∧ more < 256) (hK : K (ZBo true) H) : ZC (XQ tbO pnD) (cFunc Try.prog) 4 [.agg (eCd c), Z64 k, .val (.int .u8 more)] L H K := by
 refine ZC.enterL ⟨[], [], [38]⟩ (boxY_none (by decide)) f_od_cut (by simp) fun hL => ?_
 simp only [c_od_cut]
 have F0 := Lib.hid (show ∀ X, Fin H (ZBo true) (H ++ X) K from fun X => Fin.trunc (Mods.ext H X) rfl (by rw [List.take_left]; exact hK))
 have HB := Lib.hid hB
 have HR := Lib.hid hR
 clear hK hB hR
 have a00 : ∀ A Y, (H ++ (A :: Y))[H.length]? = some A := fun A Y => atN0 rfl A Y
 have a1 : ∀ A B Y, (H ++ (A :: B :: Y))[H.length + 1]? = some B := fun A B Y => atN1 rfl A B Y
 have a2 : ∀ A B C Y, (H ++ (A :: B :: C :: Y))[H.length + 2]? = some C := fun A B C Y => atN2 rfl A B C Y
 have s1 : ∀ A B C Y, (H ++ (A :: B :: Y)).set (H.length + 1) C = H ++ (A :: C :: Y) := fun A B C Y => stN1 rfl A B C Y
 have s2 : ∀ A B D C Y, (H ++ (A :: B :: D :: Y)).set (H.length + 2) C = H ++ (A :: B :: C :: Y) := fun A B D C Y => stN2 rfl A B D C Y
 have l1 : L (H.length + 1) = true := hL 1
 have l2 : L (H.length + 2) = true := hL 2
 have l3 : L (H.length + 3) = true := hL 3
 obtain ⟨fn, pl, lp, slc, ords, exs, turn, back, xo, xe⟩ := c
 simp only at hxo hxe
 subst hxo
 subst hxe
 repeat' (first | (simp only [zP, zfree, owners, chunk, setAt, seval, Nat.reduceLeDiff, a00, *]) | (simp only [zgPack]) | (with_reducible apply And.intro) | (with_reducible intro _))
 refine ZC.upQ (ordered_z ?_)
 repeat' (first | (simp only [zP, zfree, owners, chunk, setAt, seval, Nat.reduceLeDiff, a00, *]) | (simp only [zgPack]) | (with_reducible apply And.intro) | (with_reducible intro _))
 refine ZC.upQ (encode_z (c := ⟨fn, pl, lp, slc, ords, exs, turn, back, false, false⟩) HB.out (fun _ => HR.out) (fun h0 => ?_) (fun h0 => ?_))
 ·obtain ⟨e, he⟩ : ∃ e, e = checkB ⟨fn, pl, lp, slc, ords, exs, turn, back, false, false⟩ := ⟨_, rfl⟩
  rw [← he] at h0 ⊢
  clear he
  have fin := F0.out
  repeat' (first | (simp only [zP, zfree, owners, chunk, setAt, seval, Nat.reduceLeDiff, a00, h0, *]) | (simp only [zgPack]) | (with_reducible apply And.intro) | (with_reducible intro _))
  refine ZC.upQ (ordered_z ?_)
  repeat' (first | (simp only [zP, zfree, owners, chunk, setAt, seval, Nat.reduceLeDiff, a00, *]) | (simp only [zgPack]) | (with_reducible apply And.intro) | (with_reducible intro _))
 ·obtain ⟨b, hb⟩ : ∃ b, b = codeE ⟨fn, pl, lp, slc, ords, exs, turn, back, false, false⟩ := ⟨_, rfl⟩
  have hby : Bys b := by rw [hb]; exact codeE_b _
  have hpos : 0 < b.length := by rw [hb]; exact codeE_pos _
  have hlen : b.length ≤ 300000000 := by rw [hb]; exact codeE_lenC HR.out h0
  have hcut : ∀ k, k < b.length → decZ (b.take k) = .tuple [.agg (eCd c0), Z64 3] := fun k hk => by
   unfold decZ; rw [hb, decF_cut HR.out h0 rfl rfl (by rw [← hb]; exact hk)]
  have hmore : decZ (b ++ [more]) = .tuple [.agg (eCd c0), Z64 3] := by
   unfold decZ; rw [hb, decF_more HR.out h0 rfl rfl]
  rw [← hb]
  obtain ⟨r, hr⟩ : ∃ r : Nat, k % (b.length : Int) = (r : Int) := ⟨(k % (b.length : Int)).toNat, (Int.toNat_of_nonneg (Int.emod_nonneg k (by omega))).symm⟩
  have hrl : r < b.length := by
   have := Int.emod_lt_of_pos k (b := (b.length : Int)) (by omega)
   omega
  have HC := Lib.hid hcut
  have HM := Lib.hid hmore
  have HBY := Lib.hid hby
  clear hb hcut hmore hby HR HB h0
  have hml : (b.map eC).length = b.length := by simp
  repeat' (first | (simp only [zP, zfree, owners, chunk, setAt, seval, Nat.reduceLeDiff, a00, hml, *]) | (simp only [zgPack]) | (with_reducible apply And.intro) | (with_reducible intro _))
  refine ZC.upQ (rest_z (by omega) ?_)
  rw [hr]
  clear hr
  have hct : ∀ Hh : ZH, cutZ Hh 1 0 r b.length false (.fz 1 false (b.map eC)) = some (.fz 1 false ((b.take r).map eC)) := fun Hh => by
   simp only [cutZ, hml]
   rw [if_pos (by refine ⟨?_, ?_, ?_, ?_⟩ <;> first | trivial | omega), if_neg (fun h => by rw [List.map_eq_nil_iff] at h; rw [h] at hpos; simp at hpos)]
   simp [List.map_take]
  repeat' (first | (simp only [zP, zfree, owners, chunk, setAt, seval, Nat.reduceLeDiff, a00, hml, numZ_none, numZ_some, *]) | (simp only [zgPack]) | (with_reducible apply And.intro) | (with_reducible intro _))
  refine ⟨r, natZ_cast, _, hct _, ?_⟩
  refine decode_z ⟨fun x hx => HBY.out x (List.mem_of_mem_take hx), by rw [List.length_take]; omega⟩ ?_
  rw [HC.out r hrl]
  clear HC hct
  repeat' (first | (simp only [zP, zfree, owners, chunk, setAt, seval, Nat.reduceLeDiff, a00, a1, s1, l1, *]) | (simp only [zgPack]) | (with_reducible apply And.intro) | (with_reducible intro _))
  refine ZC.upQ (copyb_z (by omega) ?_)
  have hrow : b.map eC ++ [[.val (.int .u8 more)]] = (b ++ [more]).map eC := by simp
  have hby2 : BytesOk (b ++ [more]) := ⟨HBY.out.app (fun x hx => by rw [List.mem_singleton.1 hx]; exact hm), by simp; omega⟩
  have HB2 := Lib.hid hby2
  clear hby2
  repeat' (first | (simp only [zP, zfree, owners, chunk, setAt, seval, Nat.reduceLeDiff, a00, a1, a2, s1, s2, l1, l2, *]) | (simp only [zgPack]) | (with_reducible apply And.intro) | (with_reducible intro _))
  ·unfold reach; omega
  ·exact pure_eC _
  rw [List.take_of_length_le (by simp)]
  refine decode_z HB2.out ?_
  rw [HM.out]
  clear HB2 HM hrow
  have a3 : ∀ A B C D Y, (H ++ (A :: B :: C :: D :: Y))[H.length + 3]? = some D := fun A B C D Y => by rw [List.getElem?_append_right (by omega), Nat.add_sub_cancel_left]; rfl
  have s3 : ∀ A B C D D' Y, (H ++ (A :: B :: C :: D :: Y)).set (H.length + 3) D' = H ++ (A :: B :: C :: D' :: Y) := fun A B C D D' Y => by rw [List.set_append_right _ _ (by omega), Nat.add_sub_cancel_left]; rfl
  repeat' (first | (simp only [zP, zfree, owners, chunk, setAt, seval, Nat.reduceLeDiff, a00, a1, a2, a3, s1, s2, s3, l1, l2, l3, *]) | (simp only [zgPack]) | (with_reducible apply And.intro) | (with_reducible intro _))
  refine ZC.upQ (ordered_z ?_)
  have fin := F0.out
  repeat' (first | (simp only [zP, zfree, owners, chunk, setAt, seval, Nat.reduceLeDiff, a00, a1, a2, a3, s1, s2, s3, l1, l2, l3, *]) | (simp only [zgPack]) | (with_reducible apply And.intro) | (with_reducible intro _))
end Go.Proofs.Ytmholkmghhkbhaa

namespace Go.Proofs.Ytmholkmghhkbhaa
open Go Go.RowKit Go.ChangeShapes Go.WideShapes Go.ChangeAt
theorem r64_of {n : Int} (h : (Lit.int .i64 n).wf = true) : R64 n := by
 simpa [Lit.wf, IntKind.min, IntKind.max, IntKind.signed, IntKind.bits] using h
theorem r8_of {n : Int} (h : (Lit.int .u8 n).wf = true) : 0 ≤ n ∧ n < 256 := by
 have : 0 ≤ n ∧ n ≤ 255 := by simpa [Lit.wf, IntKind.min, IntKind.max, IntKind.signed, IntKind.bits] using h
 omega
theorem PlR_of {x : tyRP.val} (h : TOk tyRP x) : PlR x := ⟨r64_of h.1, r64_of h.2⟩
theorem StR_of {x : tyRS.val} (h : TOk tyRS x) : StR x := ⟨r64_of h.1, PlR_of h.2⟩
theorem MkR_of {x : tyRM.val} (h : TOk tyRM x) : MkR (oM x) := ⟨r64_of h.1.1, r64_of h.1.2, r64_of h.2.1, r64_of h.2.2.1, fun p hp => PlR_of (h.2.2.2.2 p hp)⟩
theorem XtR_of {x : tyRX.val} (h : TOk tyRX x) : XtR (oX x) := by
 refine ⟨r64_of h.1, r64_of h.2.1, fun p hp => StR_of (h.2.2.1.2 p hp), fun m hm => ?_⟩
 simp only [oX, List.mem_map] at hm
 obtain ⟨m0, hm0, rfl⟩ := hm
 exact MkR_of (h.2.2.2.2 m0 hm0)
theorem OdR_of {x : tyRd.val} (h : TOk tyRd x) : OdR x := ⟨r64_of h.1, r64_of h.2.1, r64_of h.2.2.1, r64_of h.2.2.2.1, r64_of h.2.2.2.2.1, r64_of h.2.2.2.2.2.1, r64_of h.2.2.2.2.2.2.1, r64_of h.2.2.2.2.2.2.2⟩
theorem CdR_of {x : tyCd.val} (h : TOk tyCd x) : CdR (oC x) := by
 obtain ⟨h1, h2, h3, h4, h5, h6, h7, h8⟩ := h
 refine ⟨r64_of h1, r64_of h2, r64_of h3, r64_of h4, fun y hy => OdR_of (h5.2 y hy), fun y hy => ?_, XtR_of h7, XtR_of h8⟩
 simp only [oC, List.mem_map] at hy
 obtain ⟨y0, hy0, rfl⟩ := hy
 exact XtR_of (h6.2 y0 hy0)
end Go.Proofs.Ytmholkmghhkbhaa

namespace Go.Proofs.Ytmholkmghhkbhaa
open Go Go.RowKit Go.ChangeShapes Go.WideShapes Go.ChangeAt
set_option maxRecDepth 100000 in
theorem ordercut_lifted (os : Os) (started : os.Started) (H : Type) (enc : TypeId × Value → H) (F : Stop.Interp) :
  ReturnsInHanded {} Try.checked os 4 .any ((Rows.OpenSpec.upto Rows.orderCutSpec).pre6 enc Try.prog Try.f4 Rows.orderCutUptoRow.domain false) (((Rows.OpenSpec.upto Rows.orderCutSpec).at F).post enc Try.prog Try.f4 false true false false) := by
 refine law_lifted_upto (C := Try.checked) 12 [(true, tyCd), (false, .int .i64), (false, .int .u8)] 4 Try.own Try.laidOut started (by kernel_rfl) Try.func4
  (OpenSpec.witness (enc := enc) (C := Try.checked) (s := Rows.OpenSpec.upto Rows.orderCutSpec) (k := Rows.uptoSmall) rfl false ⟨#[], #[.agg #[.int .i64 0, .int .i64 0, .int .i64 0, .int .i64 0, .slice none 0 0, .slice none 0 0, .int .i64 0, .int .i64 0, .slice none 0 0, .slice none 0 0, .int .i64 0, .int .i64 0, .slice none 0 0, .slice none 0 0], .int .i64 0, .int .u8 0], []⟩ 8 (by kernel_rfl) (by kernel_rfl) (by kernel_rfl)
   (x := ([.agg [.lit (.int .i64 0), .lit (.int .i64 0), .lit (.int .i64 0), .lit (.int .i64 0), .nil, .nil, .agg [.lit (.int .i64 0), .lit (.int .i64 0), .nil, .nil], .agg [.lit (.int .i64 0), .lit (.int .i64 0), .nil, .nil]], .lit (.int .i64 0), .lit (.int .u8 0)], [], [])) (by kernel_rfl) (by kernel_rfl) (by kernel_rfl))
  rfl (by kernel_rfl) Try.underlying4 (fun ds h => ?_) (by kernel_rfl) (by kernel_rfl) (fun W args h => ?_) F
 ·match ds, h with
  | [d0, d1, d2], _ => rfl
 ·refine zm_walk_y (by kernel_rfl) (boxY_ok (constX_ok (n := 1000) (F := cFunc Try.prog) (by kernel_rfl) (fun f af h => h) tbO (by intro p hp; rw [List.mem_singleton.1 hp]; kernel_rfl))) pnD_ok (fun v h => h) (fun f af h => h) rfl (fun zl hz => ?_) W args h
  obtain ⟨x, _, rfl, hx, sx, k, _, rfl, _, _, m, _, rfl, hm, _, rfl⟩ := hz
  show ZC _ _ _ [.agg (Go.Proofs.Ytmholkmghhkbhaa.enc tyCd x), Z64 k, .val (.int .u8 m)] _ _ _
  rw [encC]
  exact ordercut_z (L := fun _ => true) (H := []) (K := fun z _ => z = ZBo true) (c := oC x) (CdB_of (Nat.le_refl _) sx.2) (CdR_of hx) rfl rfl (r8_of hm) rfl
theorem ordercut_holds : Rows.OrderCutUptoSaid :=
 OpenClaim.holds_of_cond 4 Try.f4 rfl rfl rfl rfl rfl rfl rfl ⟨rfl, rfl, rfl, rfl, rfl⟩ rfl rfl rfl rfl rfl (by kernel_rfl) Try.func4 (by kernel_rfl) (of_decide_eq_true (by kernel_rfl)) (by unfold Func.isWrapper; first | (rw [if_pos (by decide +kernel)]; kernel_rfl) | (rw [if_neg (by decide +kernel)]; exact ⟨rfl, rfl⟩))
  (fun os started H enc _ F => ordercut_lifted os started H enc F)
end Go.Proofs.Ytmholkmghhkbhaa
