/-
  Scan, plain: all turns; slots.
-/
import Derived.KernelRfl
import Derived.Lib.Hide
import Derived.Test.YtoeppobpnhlebaaMrV13
import Derived.Test.YtoeppobpnhlebaaMrV4
import Derived.Test.YtoeppobpnhlebaaMrV6
namespace Go.Proofs.Ytoeppobpnhlebaa
open Go Go.RowKit
set_option linter.unusedVariables false
set_option linter.unusedSimpArgs false
variable {l at_ at2 at3 : List Sp} {order done rest : List Nat} {regs n : Nat}
theorem sp_set {k : Nat} {v : Sp} (hn : n < at_.length) : sp (at_.set n v) k = if k = n then v else sp at_ k := by
  unfold sp
  rw [List.getD_eq_getElem?_getD, List.getElem?_set]
  by_cases e : n = k
  · subst e; rw [if_pos rfl, if_pos hn, if_pos rfl]; rfl
  · rw [if_neg e, if_neg (Ne.symm e), ← List.getD_eq_getElem?_getD]
theorem rg_set {v : Sp} (hn : n < at_.length) : rg (at_.set n v) = updR (rg at_) n v.1 := by
  funext k
  unfold updR
  by_cases h : k < at_.length
  · rw [rg_eq (by rw [List.length_set]; exact h), sp_set hn, rg_eq h]
    split <;> rfl
  · rw [rg_out (by rw [List.length_set]; exact h), rg_out h, if_neg (by omega)]
theorem TakeL.len (T : TakeL l order regs at_ n at2) : at2.length = at_.length := by
  cases T with
  | have_ => simp
  | same => rfl
  | swap => simp
theorem TakeL.take (T : TakeL l order regs at_ n at2) (hn : n ∈ order) (hl : ∀ k, k ∈ order → k < at_.length) : Take l order regs (rg at_) n (rg at2) := by
  cases T with
  | have_ h1 h2 => rw [rg_set (hl n hn)]; exact .have_ h1 h2
  | same h1 h2 h3 =>
    have := Take.out (l := l) (regs := regs) (R := rg at_) h1 h2 hn h3.1 h3.2.1
    rwa [if_pos rfl] at this
  | @swap r m h1 h2 h3 h4 h5 =>
    have := Take.out (l := l) (regs := regs) (R := rg at_) h1 h2 h3 h5.1 h5.2.1
    rw [if_neg h4] at this
    rw [rg_set (by rw [List.length_set]; exact hl m h3), rg_set (hl n hn)]
    exact this
theorem TakeL.slot (T : TakeL l order regs at_ n at2) (hn : n ∈ order) (hl : ∀ k, k ∈ order → k < at_.length) (k : Nat) : (sp at2 k).2 = (sp at_ k).2 := by
  cases T with
  | have_ h1 h2 =>
    rw [sp_set (hl n hn)]
    split
    · rename_i e; rw [e]
    · rfl
  | same => rfl
  | @swap r m h1 h2 h3 h4 h5 =>
    rw [sp_set (by rw [List.length_set]; exact hl m h3)]
    split
    · rename_i e; rw [e]
    · rw [sp_set (hl n hn)]
      split
      · rename_i e; rw [e]
      · rfl
theorem TakeL.eq (T : TakeL l order regs at_ n at2) (T2 : TakeL l order regs at_ n at3) : at2 = at3 := by
  cases T with
  | have_ h1 h2 =>
    cases T2 with
    | have_ k1 k2 => rw [h1.eq k1]
    | same k1 k2 _ => rw [h1.eq k1] at h2; omega
    | swap k1 k2 _ _ _ => rw [h1.eq k1] at h2; omega
  | same h1 h2 h3 =>
    cases T2 with
    | have_ k1 k2 => rw [h1.eq k1] at h2; omega
    | same k1 k2 _ => rfl
    | swap k1 k2 _ k4 k5 => exact absurd (k5.eq h3) k4
  | @swap r m h1 h2 h3 h4 h5 =>
    cases T2 with
    | have_ k1 k2 => rw [h1.eq k1] at h2; omega
    | same k1 k2 k3 => exact absurd (h5.eq k3) h4
    | swap k1 k2 _ k4 k5 => rw [h5.eq k5]
inductive Takes (l : List Sp) (order : List Nat) (regs : Nat) (at0 : List Sp) : List Nat → List Sp → Prop
  | start : Takes l order regs at0 [] at0
  | next {done : List Nat} {at_ at2 : List Sp} {n : Nat} : Takes l order regs at0 done at_ → TakeL l order regs at_ n at2 → Takes l order regs at0 (done ++ [n]) at2
def at00 (N : Nat) : List Sp := List.replicate N (-1, -1)
theorem sp_00 {N k : Nat} : (sp (at00 N) k).2 = -1 ∨ ¬ k < N := by
  by_cases h : k < N
  · left
    unfold sp at00
    rw [List.getD_eq_getElem?_getD, List.getElem?_replicate, if_pos h]; rfl
  · exact .inr h
end Go.Proofs.Ytoeppobpnhlebaa

namespace Go.Proofs.Ytoeppobpnhlebaa
open Go Go.RowKit
set_option linter.unusedVariables false
set_option linter.unusedSimpArgs false
variable {tb : List (FuncId × Bool)} {L : Nat → Bool} {H : ZH} {K : ZV → ZH → Prop}
variable {p a o g n : Nat} {ex : Bool} {l at_ : List Sp} {order os : List Nat} {R : Nat → Int}
theorem eS_refs {N : Nat} {l : List Sp} : refsB N (.grow 0 2 (l.map eS)) = true := by
  unfold refsB
  simp only [List.all_eq_true]
  intro z hz
  obtain ⟨r, hr, hz⟩ := List.mem_flatten.1 hz
  obtain ⟨x, _, rfl⟩ := List.mem_map.1 hr
  simp only [eS, List.mem_cons, List.not_mem_nil, or_false] at hz
  rcases hz with rfl | rfl <;> rfl
theorem busyG_rg {x : Int} (hl : ∀ k, k ∈ order → k < at_.length) : busyG l (fun k => (sp at_ k).1) order n x ↔ busyG l (rg at_) order n x := by
  unfold busyG
  constructor
  · rintro ⟨k, h1, h2, h3, h4, h5⟩
    have e := rg_eq (hl k h1)
    exact ⟨k, h1, h2, by rw [e]; exact h3, h4, by rw [e]; exact h5⟩
  · rintro ⟨k, h1, h2, h3, h4, h5⟩
    have e := rg_eq (hl k h1)
    rw [e] at h3 h5
    exact ⟨k, h1, h2, h3, h4, h5⟩
theorem sc_fin {B : ZB} {Y : ZH} (ha : a < H.length) (hB : refsB H.length B = true) (hK : K .no (H.set a B)) : Fin H .no (H.set a B ++ Y) K := by
  refine Fin.trunc ?_ rfl ?_
  · rw [← List.set_append_left _ _ ha]; exact Mods.set (Mods.ext H Y) hB
  · rw [show H.length = (H.set a B).length by simp, List.take_left]; exact hK
set_option maxHeartbeats 4000000 in
theorem take_z {regs : Nat} (S : ScAt H p a o g ex l at_ order) (hn : n ∈ order) (hap : a ≠ p) (hao : a ≠ o) (hLa : L a = true) (ho : order.length ≤ 1000) (hr : ∀ k, k < l.length → (sp at_ k).1 < 1000)
    (hK : ∀ at2, TakeL l order regs at_ n at2 → K .no (H.set a (.grow 0 2 (at2.map eS)))) :
    ZC (constX tb) (cFunc Try.prog) 32 [.ptr p 0, Z64 (n : Int), Z64 (regs : Int)] L H K := by
  refine ZC.enterL Gh.no constX_none f_sn_take (by simp) fun hL => ?_
  simp only [c_sn_take]
  have hal := (List.getElem?_eq_some_iff.1 S.arr).1
  have FIN := Lib.hid fun at2 Y T => (sc_fin (Y := Y) hal eS_refs (hK at2 T) : Fin H .no (H.set a (.grow 0 2 (at2.map eS)) ++ Y) K)
  have HS := Lib.hid S
  have HN := Lib.hid (And.intro hn (And.intro hap (And.intro hao hr)))
  have hnl := S.inn n hn
  have hlo : ∀ k, k ∈ order → k < at_.length := fun k hk => by rw [S.len]; exact S.inn k hk
  have HLO := Lib.hid hlo
  clear hK S hn hap hao hr hL hlo
  repeat' (first | (simp only [zmPack, zxPack, ne_eq, zfree, owners, Nat.reduceLT, List.contains_cons, List.contains_nil, Nat.reduceBEq, BEq.rfl, chunk, setAt, List.lookup_cons, List.lookup_nil, reduceCtorEq, Nat.reduceEqDiff, reduceIte, implies_true, forall_const, Nat.reduceMul, Nat.reduceSub, Nat.reduceAdd, Nat.reduceLeDiff, *]) | (simp only [zgoO, zgoG, zO_nil, zthen_normal, zgoC]) | (with_reducible apply And.intro) | (with_reducible intro _))
  refine busy_z (pl := Prod.fst) HS.out hnl (fun s Y K k => reg_z k) ho (fun M hM => ?_)
  have hlt : ∀ x, x ∈ M → x < 1000 := fun x hx => by
    obtain ⟨k, h1, h2, h3, h4, h5⟩ := (hM x).1 hx
    rw [← h5]
    exact HN.out.2.2.2 k (HS.out.inn k h1)
  have HM := Lib.hid hM
  clear hM
  repeat' (first | (simp only [zmPack, zxPack, ne_eq, zfree, owners, Nat.reduceLT, List.contains_cons, List.contains_nil, Nat.reduceBEq, BEq.rfl, chunk, setAt, List.lookup_cons, List.lookup_nil, reduceCtorEq, Nat.reduceEqDiff, reduceIte, implies_true, forall_const, Nat.reduceMul, Nat.reduceSub, Nat.reduceAdd, Nat.reduceLeDiff, *]) | (simp only [zgoO, zgoG, zO_nil, zthen_normal, zgoC]) | (with_reducible apply And.intro) | (with_reducible intro _))
  refine least_z (M := M) (sn_at0 _ _) hlt (fun r hr => ?_)
  have hr2 : IsLeast (busyG l (rg at_) order n) r := ⟨fun h => hr.1 ((HM.out _).2 ((busyG_rg HLO.out).2 h)), fun i hi => (busyG_rg HLO.out).1 ((HM.out _).1 (hr.2 i hi))⟩
  have HR := Lib.hid hr2
  have hb := fun Y => (HS.out.ext Y).box
  have e1 := fun Y => (HS.out.ext Y).ael hnl
  clear hr hr2 hlt
  by_cases hc : r < regs
  · have c1 : (r : Int) < (regs : Int) := by omega
    have s1 := fun v Y => sc_st HS.out hLa hnl (v := v) Y
    have fin := fun Y => FIN.out _ Y (TakeL.have_ HR.out hc)
    clear hc
    have s1 := s1 (r : Int)
    repeat' (first | (simp only [zmPack, zxPack, ne_eq, zfree, owners, Nat.reduceLT, List.contains_cons, List.contains_nil, Nat.reduceBEq, BEq.rfl, chunk, setAt, List.lookup_cons, List.lookup_nil, reduceCtorEq, Nat.reduceEqDiff, reduceIte, implies_true, forall_const, Nat.reduceMul, Nat.reduceSub, Nat.reduceAdd, Nat.reduceLeDiff, c1, hb, e1, s1, *]) | (simp only [zgoO, zgoG, zO_nil, zthen_normal, zgoC]) | (with_reducible apply And.intro) | (with_reducible intro _))
    all_goals exact ⟨_, rfl, fin _⟩
  · have c1 : ¬ (r : Int) < (regs : Int) := by omega
    repeat' (first | (simp only [zmPack, zxPack, ne_eq, zfree, owners, Nat.reduceLT, List.contains_cons, List.contains_nil, Nat.reduceBEq, BEq.rfl, chunk, setAt, List.lookup_cons, List.lookup_nil, reduceCtorEq, Nat.reduceEqDiff, reduceIte, implies_true, forall_const, Nat.reduceMul, Nat.reduceSub, Nat.reduceAdd, Nat.reduceLeDiff, c1, *]) | (simp only [zgoO, zgoG, zO_nil, zthen_normal, zgoC]) | (with_reducible apply And.intro) | (with_reducible intro _))
    refine longest_z (HS.out.ext _) HN.out.1 ho (fun m hm hlong => ?_)
    by_cases hmn : m = n
    · subst hmn
      have fin := fun Y => FIN.out _ Y (TakeL.same HR.out (by omega) hlong)
      have hsm : H.set a (.grow 0 2 (at_.map eS)) = H := by
        have := (List.getElem?_eq_some_iff.1 HS.out.arr).2
        rw [← this, List.set_getElem_self]
      rw [hsm] at fin
      have n1 : ¬ ¬ ((m : Int) = (m : Int)) := fun h => h rfl
      clear hlong hc
      repeat' (first | (simp only [zmPack, zxPack, ne_eq, zfree, owners, Nat.reduceLT, List.contains_cons, List.contains_nil, Nat.reduceBEq, BEq.rfl, chunk, setAt, List.lookup_cons, List.lookup_nil, reduceCtorEq, Nat.reduceEqDiff, reduceIte, implies_true, forall_const, Nat.reduceMul, Nat.reduceSub, Nat.reduceAdd, Nat.reduceLeDiff, n1, *]) | (simp only [zgoO, zgoG, zO_nil, zthen_normal, zgoC]) | (with_reducible apply And.intro) | (with_reducible intro _))
      all_goals exact ⟨_, rfl, fin _⟩
    · have n1 : ¬ (m : Int) = (n : Int) := by omega
      have hml := HS.out.inn m hm
      have e2 := fun Y => (HS.out.ext Y).ael hml
      have l2 := fun Y => (HS.out.ext Y).ald0 hml
      have s1 := fun Y => sc_st HS.out hLa hnl (v := rg at_ m) Y
      have S2 := HS.out.set (at2 := at_.set n (rg at_ m, (sp at_ n).2)) (by simp) HN.out.2.1 HN.out.2.2.1
      have e3 := fun Y => (S2.ext Y).ael hml
      have s2 := fun Y => sc_st S2 hLa hml (v := -1) Y
      have hsl : (sp (at_.set n (rg at_ m, (sp at_ n).2)) m).2 = (sp at_ m).2 := by rw [sp_set (HLO.out n HN.out.1), if_neg hmn]
      simp only [hsl, List.set_set] at s2
      simp only [List.length_set] at e3
      have fin := fun Y => FIN.out _ Y (TakeL.swap HR.out (by omega) hm hmn hlong)
      rw [← rg_eq (HLO.out m hm)] at l2
      clear hmn hlong hsl S2 hc
      repeat' (first | (simp only [zmPack, zxPack, ne_eq, zfree, owners, Nat.reduceLT, List.contains_cons, List.contains_nil, Nat.reduceBEq, BEq.rfl, chunk, setAt, List.lookup_cons, List.lookup_nil, reduceCtorEq, Nat.reduceEqDiff, reduceIte, implies_true, forall_const, Nat.reduceMul, Nat.reduceSub, Nat.reduceAdd, Nat.reduceLeDiff, n1, hb, e1, e2, l2, s1, e3, s2, *]) | (simp only [zgoO, zgoG, zO_nil, zthen_normal, zgoC]) | (with_reducible apply And.intro) | (with_reducible intro _))
      all_goals exact ⟨_, rfl, fin _⟩
end Go.Proofs.Ytoeppobpnhlebaa

namespace Go.Proofs.Ytoeppobpnhlebaa
open Go Go.RowKit
set_option linter.unusedVariables false
set_option linter.unusedSimpArgs false
variable {l at_ at1 at2 at3 : List Sp} {order done rest : List Nat} {regs n : Nat} {s : Int}
theorem rg_00 {N : Nat} : rg (at00 N) = fun _ => -1 := by
  funext k
  unfold rg at00
  rw [List.getD_eq_getElem?_getD, List.getElem?_replicate]
  split <;> rfl
theorem Takes.inv (O : OrdS l order) (T : Takes l order regs (at00 l.length) done at_) : ∀ rest, order = done ++ rest → at_.length = l.length ∧ GI l order regs done (rg at_) ∧ ∀ k, k < l.length → (sp at_ k).2 = -1 := by
  induction T with
  | start =>
    intro rest e
    refine ⟨by simp [at00], by rw [rg_00]; exact GI.start, fun k hk => (sp_00 (N := l.length)).resolve_right (fun h => h hk)⟩
  | @next done at_ at2 n T1 T2 ih =>
    intro rest e
    have e2 : order = done ++ n :: rest := by rw [e]; simp
    obtain ⟨h1, h2, h3⟩ := ih (n :: rest) e2
    have hl : ∀ k, k ∈ order → k < at_.length := fun k hk => by rw [h1]; exact ((O.mem k).1 hk).1
    have hn : n ∈ order := by rw [e2]; simp
    refine ⟨by rw [T2.len, h1], ?_, fun k hk => by rw [T2.slot hn hl]; exact h3 k hk⟩
    have tk := T2.take hn hl
    subst e2
    exact GI.take O h2 tk
def sl (at_ : List Sp) (k : Nat) : Int := (at_.getD k (-1, -1)).2
theorem sl_eq {k : Nat} (h : k < at_.length) : sl at_ k = (sp at_ k).2 := by
  unfold sl sp
  rw [List.getD_eq_getElem?_getD, List.getD_eq_getElem?_getD, List.getElem?_eq_getElem h]; rfl
theorem sl_out {k : Nat} (h : ¬ k < at_.length) : sl at_ k = -1 := by
  unfold sl
  rw [List.getD_eq_getElem?_getD, List.getElem?_eq_none (by omega)]; rfl
theorem sl_set {v : Sp} (hn : n < at_.length) : sl (at_.set n v) = updR (sl at_) n v.2 := by
  funext k
  unfold updR
  by_cases h : k < at_.length
  · rw [sl_eq (by rw [List.length_set]; exact h), sp_set hn, sl_eq h]
    split <;> rfl
  · rw [sl_out (by rw [List.length_set]; exact h), sl_out h, if_neg (by omega)]
inductive SlotL (l : List Sp) (order : List Nat) (at_ : List Sp) (n : Nat) (s : Int) : List Sp → Int → Prop
  | skip : 0 ≤ rg at_ n → SlotL l order at_ n s at_ s
  | put {r : Nat} : rg at_ n < 0 → IsLeast (busyG l (sl at_) order n) r → SlotL l order at_ n s (at_.set n ((sp at_ n).1, (r : Int))) (if s < (r : Int) + 1 then (r : Int) + 1 else s)
theorem SlotL.eq {s2 s3 : Int} (h : SlotL l order at_ n s at2 s2) (h2 : SlotL l order at_ n s at3 s3) : at2 = at3 ∧ s2 = s3 := by
  cases h with
  | skip h1 =>
    cases h2 with
    | skip => exact ⟨rfl, rfl⟩
    | put k1 => omega
  | put h1 k =>
    cases h2 with
    | skip k1 => omega
    | put k1 k2 => rw [k.eq k2]; exact ⟨rfl, rfl⟩
inductive SlotsR (l : List Sp) (order : List Nat) (at1 : List Sp) : List Nat → List Sp → Int → Prop
  | start : SlotsR l order at1 [] at1 0
  | next {done : List Nat} {at_ at2 : List Sp} {n : Nat} {s s2 : Int} : SlotsR l order at1 done at_ s → SlotL l order at_ n s at2 s2 → SlotsR l order at1 (done ++ [n]) at2 s2
structure SlI (l : List Sp) (at1 : List Sp) (done : List Nat) (at_ : List Sp) (s : Int) : Prop where
  len : at_.length = at1.length
  rge : rg at_ = rg at1
  s0 : 0 ≤ s
  sb : s ≤ (done.length : Int)
  lt : ∀ k, sl at_ k < s ∨ sl at_ k = -1
  ge : ∀ k, -1 ≤ sl at_ k
  dn : ∀ k, 0 ≤ sl at_ k → k ∈ done ∧ rg at1 k < 0
  all : ∀ k, k ∈ done → rg at1 k < 0 → 0 ≤ sl at_ k
  ap : ∀ a b, 0 ≤ sl at_ a → sl at_ a = sl at_ b → mt l a b → a = b
  no : (∀ k, k ∈ done → 0 ≤ rg at1 k) → s = 0
theorem SlotsR.inv (T : SlotsR l order at1 done at_ s) (h1 : ∀ k, k < at1.length → (sp at1 k).2 = -1) (hnd : done.Nodup) (hl : ∀ k, k ∈ order → k < at1.length) (hdo : ∀ k, k ∈ done → k ∈ order) : SlI l at1 done at_ s := by
  induction T with
  | start =>
    have e : ∀ k, sl at1 k = -1 := fun k => by
      by_cases h : k < at1.length
      · rw [sl_eq h]; exact h1 k h
      · exact sl_out h
    exact ⟨rfl, rfl, Int.le_refl _, Int.le_refl _, fun k => .inr (e k), fun k => by rw [e]; omega, fun k h => by rw [e] at h; omega, fun k h => (by cases h), fun a b h => by rw [e] at h; omega, fun _ => rfl⟩
  | @next done at_ at2 n s s2 T1 T2 ih =>
    have hnn : ¬ n ∈ done := fun h => (List.nodup_append.1 hnd).2.2 n h n (by simp) rfl
    have I := ih (List.nodup_append.1 hnd).1 (fun k hk => hdo k (List.mem_append_left _ hk))
    have hno : n ∈ order := hdo n (by simp)
    have hnl : n < at_.length := by rw [I.len]; exact hl n hno
    cases T2 with
    | skip h =>
      rw [I.rge] at h
      refine ⟨I.len, I.rge, I.s0, by have := I.sb; rw [List.length_append]; simp; omega, I.lt, I.ge, fun k hk => ⟨List.mem_append_left _ (I.dn k hk).1, (I.dn k hk).2⟩, fun k hk hr => ?_, I.ap, fun hh => I.no fun k hk => hh k (List.mem_append_left _ hk)⟩
      rcases List.mem_append.1 hk with q | q
      · exact I.all k q hr
      · rw [List.mem_singleton.1 q] at hr; omega
    | @put r h hr =>
      rw [I.rge] at h
      have hrs : (r : Int) ≤ s := Classical.byContradiction fun hc => by
        obtain ⟨t, rfl⟩ := Int.eq_ofNat_of_zero_le I.s0
        obtain ⟨k, _, _, k3, _, k5⟩ := hr.2 t (by omega)
        rcases I.lt k with q | q <;> omega
      have hu := sl_set (at_ := at_) (v := ((sp at_ n).1, (r : Int))) hnl
      have hun : sl (at_.set n ((sp at_ n).1, (r : Int))) n = (r : Int) := by rw [hu, updR_n]
      have huo : ∀ k, k ≠ n → sl (at_.set n ((sp at_ n).1, (r : Int))) k = sl at_ k := fun k hk => by rw [hu, updR_ne hk]
      have hrg : rg (at_.set n ((sp at_ n).1, (r : Int))) = rg at_ := by
        rw [rg_set hnl]
        funext k
        by_cases e : k = n
        · subst e; rw [updR_n, rg_eq hnl]
        · rw [updR_ne e]
      have hss : s ≤ (if s < (r : Int) + 1 then (r : Int) + 1 else s) ∧ (r : Int) < (if s < (r : Int) + 1 then (r : Int) + 1 else s) ∧ (if s < (r : Int) + 1 then (r : Int) + 1 else s) ≤ s + 1 := by
        split <;> omega
      generalize (if s < (r : Int) + 1 then (r : Int) + 1 else s) = s2 at hss
      have hlB : (at_.set n ((sp at_ n).1, (r : Int))).length = at_.length := List.length_set ..
      generalize at_.set n ((sp at_ n).1, (r : Int)) = B at hun huo hrg hu hlB
      obtain ⟨ss1, ss2, ss3⟩ := hss
      refine ⟨by rw [hlB, I.len], by rw [hrg, I.rge], by have := I.s0; omega, by have := I.sb; rw [List.length_append]; simp; omega, fun k => ?_, fun k => ?_, fun k hk => ?_, fun k hk hr2 => ?_, fun a b h1 h2 h3 => ?_, fun hh => ?_⟩
      · by_cases e : k = n
        · subst e; rw [hun]; exact .inl ss2
        · rw [huo k e]; rcases I.lt k with q | q
          · left; omega
          · exact .inr q
      · by_cases e : k = n
        · subst e; rw [hun]; omega
        · rw [huo k e]; exact I.ge k
      · by_cases e : k = n
        · subst e; exact ⟨by simp, h⟩
        · rw [huo k e] at hk; exact ⟨List.mem_append_left _ (I.dn k hk).1, (I.dn k hk).2⟩
      · by_cases e : k = n
        · subst e; rw [hun]; omega
        · rw [huo k e]
          rcases List.mem_append.1 hk with q | q
          · exact I.all k q hr2
          · exact absurd (List.mem_singleton.1 q) e
      · by_cases ea : a = n
        · by_cases eb : b = n
          · rw [ea, eb]
          · subst ea
            rw [hun, huo b eb] at h2
            refine absurd ⟨b, hdo b (List.mem_append_left _ (I.dn b (by omega)).1), eb, by omega, ⟨h3.2, h3.1⟩, h2.symm⟩ hr.1
        · rw [huo a ea] at h1 h2
          by_cases eb : b = n
          · subst eb
            rw [hun] at h2
            exact absurd ⟨a, hdo a (List.mem_append_left _ (I.dn a h1).1), ea, h1, h3, h2⟩ hr.1
          · rw [huo b eb] at h2
            exact I.ap a b h1 h2 h3
      · have := hh n (by simp); omega
end Go.Proofs.Ytoeppobpnhlebaa

namespace Go.Proofs.Ytoeppobpnhlebaa
open Go Go.RowKit
set_option linter.unusedVariables false
def c_rp_mul : ACode := .seq (.ops [⟨(some 4), .mv (.av (.val (.int .u64 0))), none, true⟩,
 ⟨(some 5), .mv (.av (.val (.int .u64 0))), none, true⟩])
 (.seq (.cond (.av (.val (.bool false)))
 (.seq (.ops [⟨(some 11), .mv (.tmp 0), none, true⟩,
 ⟨(some 12), .conv .u32 (.tmp 11), none, true⟩,
 ⟨(some 13), .mv (.tmp 1), none, true⟩,
 ⟨(some 14), .conv .u32 (.tmp 13), none, true⟩,
 ⟨(some 15), .call (.av (.func 56 [])) [(.tmp 12), (.tmp 14)], none, true⟩,
 ⟨(some 10), .mv (.tmp 15), none, true⟩,
 ⟨(some 16), .extract 0 (.tmp 10), none, true⟩,
 ⟨(some 17), .extract 1 (.tmp 10), none, true⟩,
 ⟨(some 6), .mv (.tmp 16), none, true⟩,
 ⟨(some 7), .mv (.tmp 17), none, true⟩])
 (.seq (.ops [⟨(some 18), .mv (.tmp 6), none, true⟩,
 ⟨(some 19), .conv .u64 (.tmp 18), none, true⟩,
 ⟨(some 20), .mv (.tmp 7), none, true⟩,
 ⟨(some 21), .conv .u64 (.tmp 20), none, true⟩,
 ⟨(some 4), .mv (.tmp 19), none, true⟩,
 ⟨(some 5), .mv (.tmp 21), none, true⟩])
 (.ret)))
 (.skip))
 (.seq (.ops [⟨(some 23), .mv (.tmp 0), none, true⟩,
 ⟨(some 24), .mv (.tmp 1), none, true⟩,
 ⟨(some 25), .call (.av (.func 57 [])) [(.tmp 23), (.tmp 24)], none, true⟩,
 ⟨(some 22), .mv (.tmp 25), none, true⟩,
 ⟨(some 26), .extract 0 (.tmp 22), none, true⟩,
 ⟨(some 27), .extract 1 (.tmp 22), none, true⟩,
 ⟨(some 8), .mv (.tmp 26), none, true⟩,
 ⟨(some 9), .mv (.tmp 27), none, true⟩])
 (.seq (.ops [⟨(some 28), .mv (.tmp 8), none, true⟩,
 ⟨(some 29), .mv (.tmp 9), none, true⟩,
 ⟨(some 4), .mv (.tmp 28), none, true⟩,
 ⟨(some 5), .mv (.tmp 29), none, true⟩])
 (.ret))))
theorem f_rp_mul : cFunc Try.prog 43 = some ⟨30, c_rp_mul, [.tmp 4, .tmp 5]⟩ := by kernel_rfl
def c_rp_mul64 : ACode := .seq (.ops [⟨(some 4), .mv (.av (.val (.int .u64 0))), none, true⟩,
 ⟨(some 5), .mv (.av (.val (.int .u64 0))), none, true⟩])
 (.seq (.ops [⟨(some 14), .mv (.tmp 0), none, true⟩,
 ⟨(some 15), .bin .and (.tmp 14) (.av (.val (.int .u64 4294967295))), none, true⟩,
 ⟨(some 6), .mv (.tmp 15), none, true⟩])
 (.seq (.ops [⟨(some 16), .mv (.tmp 0), none, true⟩,
 ⟨(some 17), .bin .shr (.tmp 16) (.av (.val (.int .u64 32))), none, true⟩,
 ⟨(some 7), .mv (.tmp 17), none, true⟩])
 (.seq (.ops [⟨(some 18), .mv (.tmp 1), none, true⟩,
 ⟨(some 19), .bin .and (.tmp 18) (.av (.val (.int .u64 4294967295))), none, true⟩,
 ⟨(some 8), .mv (.tmp 19), none, true⟩])
 (.seq (.ops [⟨(some 20), .mv (.tmp 1), none, true⟩,
 ⟨(some 21), .bin .shr (.tmp 20) (.av (.val (.int .u64 32))), none, true⟩,
 ⟨(some 9), .mv (.tmp 21), none, true⟩])
 (.seq (.ops [⟨(some 22), .mv (.tmp 6), none, true⟩,
 ⟨(some 23), .mv (.tmp 8), none, true⟩,
 ⟨(some 24), .bin .mul (.tmp 22) (.tmp 23), none, true⟩,
 ⟨(some 10), .mv (.tmp 24), none, true⟩])
 (.seq (.ops [⟨(some 25), .mv (.tmp 7), none, true⟩,
 ⟨(some 26), .mv (.tmp 8), none, true⟩,
 ⟨(some 27), .bin .mul (.tmp 25) (.tmp 26), none, true⟩,
 ⟨(some 28), .mv (.tmp 10), none, true⟩,
 ⟨(some 29), .bin .shr (.tmp 28) (.av (.val (.int .u64 32))), none, true⟩,
 ⟨(some 30), .bin .add (.tmp 27) (.tmp 29), none, true⟩,
 ⟨(some 11), .mv (.tmp 30), none, true⟩])
 (.seq (.ops [⟨(some 31), .mv (.tmp 11), none, true⟩,
 ⟨(some 32), .bin .and (.tmp 31) (.av (.val (.int .u64 4294967295))), none, true⟩,
 ⟨(some 12), .mv (.tmp 32), none, true⟩])
 (.seq (.ops [⟨(some 33), .mv (.tmp 11), none, true⟩,
 ⟨(some 34), .bin .shr (.tmp 33) (.av (.val (.int .u64 32))), none, true⟩,
 ⟨(some 13), .mv (.tmp 34), none, true⟩])
 (.seq (.ops [⟨(some 35), .mv (.tmp 12), none, true⟩,
 ⟨(some 36), .mv (.tmp 6), none, true⟩,
 ⟨(some 37), .mv (.tmp 9), none, true⟩,
 ⟨(some 38), .bin .mul (.tmp 36) (.tmp 37), none, true⟩,
 ⟨(some 39), .bin .add (.tmp 35) (.tmp 38), none, true⟩,
 ⟨(some 12), .mv (.tmp 39), none, true⟩])
 (.seq (.ops [⟨(some 40), .mv (.tmp 7), none, true⟩,
 ⟨(some 41), .mv (.tmp 9), none, true⟩,
 ⟨(some 42), .bin .mul (.tmp 40) (.tmp 41), none, true⟩,
 ⟨(some 43), .mv (.tmp 13), none, true⟩,
 ⟨(some 44), .bin .add (.tmp 42) (.tmp 43), none, true⟩,
 ⟨(some 45), .mv (.tmp 12), none, true⟩,
 ⟨(some 46), .bin .shr (.tmp 45) (.av (.val (.int .u64 32))), none, true⟩,
 ⟨(some 47), .bin .add (.tmp 44) (.tmp 46), none, true⟩,
 ⟨(some 4), .mv (.tmp 47), none, true⟩])
 (.seq (.ops [⟨(some 48), .mv (.tmp 0), none, true⟩,
 ⟨(some 49), .mv (.tmp 1), none, true⟩,
 ⟨(some 50), .bin .mul (.tmp 48) (.tmp 49), none, true⟩,
 ⟨(some 5), .mv (.tmp 50), none, true⟩])
 (.ret))))))))))))
theorem f_rp_mul64 : cFunc Try.prog 57 = some ⟨51, c_rp_mul64, [.tmp 4, .tmp 5]⟩ := by kernel_rfl
end Go.Proofs.Ytoeppobpnhlebaa

namespace Go.Proofs.Ytoeppobpnhlebaa
open Go Go.RowKit
set_option linter.unusedVariables false
set_option linter.unusedSimpArgs false
section
variable {tb : List (FuncId × Bool)} {fl : Nat → Bool} {h : Heap} {K : AV → Heap → Prop}
abbrev U64 (n : Int) : AV := .val (.int .u64 n)
theorem and_small (n : Nat) (hn : n ≤ 1000) : binV .and (.int .u64 (n : Nat)) (.int .u64 4294967295) = some (.int .u64 (n : Nat)) := by
  have h : ∀ n : _root_.Fin 1001, (match binV .and (.int .u64 ((n.val : Nat) : Int)) (.int .u64 4294967295) with | some (.int .u64 z) => z == ((n.val : Nat) : Int) | _ => false) = true := by decide +kernel
  have := h ⟨n, by omega⟩
  revert this
  simp only
  generalize binV .and (.int .u64 ((n : Nat) : Int)) (.int .u64 4294967295) = r
  intro this
  split at this
  · simp at this; rw [this]
  · cases this
theorem shr_small (n : Nat) (hn : n ≤ 1000) : binV .shr (.int .u64 (n : Nat)) (.int .u64 32) = some (.int .u64 0) := by
  have h : ∀ n : _root_.Fin 1001, (match binV .shr (.int .u64 ((n.val : Nat) : Int)) (.int .u64 32) with | some (.int .u64 z) => z == 0 | _ => false) = true := by decide +kernel
  have := h ⟨n, by omega⟩
  revert this
  generalize binV .shr (.int .u64 ((n : Nat) : Int)) (.int .u64 32) = r
  intro this
  split at this
  · simp at this; rw [this]
  · cases this
theorem mul_u {a b : Int} : binV .mul (.int .u64 a) (.int .u64 b) = some (.int .u64 (IntKind.u64.wrap (a * b))) := by simp [binV]
theorem add_u {a b : Int} : binV .add (.int .u64 a) (.int .u64 b) = some (.int .u64 (IntKind.u64.wrap (a + b))) := by simp [binV]
theorem gtr_u {a b : Int} : binV .gtr (.int .u64 a) (.int .u64 b) = some (.bool (decide (b < a))) := by simp [binV]
theorem mul64_am {n : Nat} (hn : n ≤ 1000) (hK : K (.tuple [U64 0, U64 (n : Nat)]) h) : AC (constX tb) (cFunc Try.prog) 57 [U64 1, U64 (n : Nat)] fl h K := by
  refine AC.enter rfl f_rp_mul64 (by simp) ?_
  simp only [c_rp_mul64]
  have a1 : binV .and (.int .u64 1) (.int .u64 4294967295) = some (.int .u64 1) := and_small 1 (by omega)
  have s1 : binV .shr (.int .u64 1) (.int .u64 32) = some (.int .u64 0) := shr_small 1 (by omega)
  have a0 : binV .and (.int .u64 0) (.int .u64 4294967295) = some (.int .u64 0) := and_small 0 (by omega)
  have s0 : binV .shr (.int .u64 0) (.int .u64 32) = some (.int .u64 0) := shr_small 0 (by omega)
  have an := and_small n hn
  have sn := shr_small n hn
  have w0 : IntKind.u64.wrap 0 = 0 := by rfl
  have wn : IntKind.u64.wrap (n : Int) = (n : Int) := IntWalk.u64_in _ (by omega)
  clear hn
  repeat' (first | (simp only [AW_next, AW_ops, AW_opsD, AW_cond, AW_block, AW_exit, AW_ret, AW_skip, AW_scope, AO_nil, AO_next, AO_nextW, wantB_bool, wantK_some, then_normal, then_exit, then_ret, inBlk_normal, inBlk_exit, inBlk_ret, A1_mv, A1_pick, A1_box, A1_zero, A1_build, A1_lits, A1_load, shallow_none, A1_store, A1_nilCheckI, nilOk_ptr, nilOk_func, A1_bin, A1_eqNil, A1_eqBool, A1_eqAgg, A1_un, A1_conv, A1_field, A1_fieldAddr, A1_indexAddr, A1_indexArr, A1_index, A1_slice, A1_mkSlice, A1_extract, A1_func, A1_call, callee_func, callee_bfunc, A1_append, A1_len, A1_minmax, put_some, put_none, upd_at, ev_tmp, ev_av, bin_lss, bin_leq, bin_gtr, bin_geq, bin_eql, bin_neq, bin_add, bin_sub, bin_mul, un_not, natOf_nat, Bool.not_eq_false', Prod.mk.injEq, and_assoc, decide_false, decide_true, Bool.not_false, Bool.not_true, Bool.true_eq_false, Bool.false_eq_true, exists_false, Bool.not_eq_false, Bool.not_not, AV.val.injEq, AV.ptr.injEq, AV.slice.injEq, AV.func.injEq, AV.tuple.injEq, AV.agg.injEq, Value.bool.injEq, Value.int.injEq, Option.some.injEq, exists_eq_left', exists_eq_left, exists_and_left, exists_and_right, and_true, true_and, decide_eq_true_eq, decide_eq_false_iff_not, if_true, if_false, Bool.not_eq_true', beq_true, beq_false, ne_eq, not_true_eq_false, not_false_eq_true, reduceCtorEq, List.getD_cons_zero, List.getD_cons_succ, List.map_cons, List.map_nil, List.append_nil, Nat.reduceEqDiff, reduceIte, ite_true, ite_false, or_true, true_or, or_false, false_or, resA, resultsA, true_imp_iff, false_imp_iff, implies_true, imp_false, and_self, imp_self, and_false, false_and, forall_const, cell_val, cell_ptr, cell_slice, cell_func, cell_hole, cells_agg, cells_val, cells_ptr, cells_slice, cells_func, cells_hole, cells_cell, List.length_cons, List.length_nil, List.all_cons, List.all_nil, Bool.and_self, ldA, List.mapM_cons, List.mapM_nil, Option.bind_eq_bind, Option.bind_some, Option.pure_def, Option.map_none, Option.map_some, List.set_cons_zero, List.set_cons_succ, Nat.lt_add_one, List.append_assoc, List.cons_append, List.nil_append, List.append_nil, List.length_append, rd1_n0, rd1_nK, rd1_c0, rd1_cS, rd_n0, rd_nK, rd_c0, rd_cS, fillA, List.take_zero, List.take_succ_cons, List.take_nil, List.drop_zero, List.drop_succ_cons, List.drop_nil, List.getElem?_cons_zero, List.getElem?_cons_succ, Nat.reduceAdd, Nat.reduceLeDiff, Nat.add_eq_zero_iff, and_self, Nat.zero_add, Nat.add_zero, Nat.mul_one, a1, s1, a0, s0, an, sn, mul_u, add_u, Int.one_mul, Int.zero_mul, Int.mul_zero, Int.add_zero, Int.zero_add, w0, wn, *]) | (simp only [goO, AO_nil, then_normal, goC]) | (with_reducible apply And.intro) | (with_reducible intro _))
theorem mul_am {n : Nat} (hn : n ≤ 1000) (hK : K (.tuple [U64 0, U64 (n : Nat)]) h) : AC (constX tb) (cFunc Try.prog) 43 [U64 1, U64 (n : Nat)] fl h K := by
  refine AC.enter rfl f_rp_mul (by simp) ?_
  simp only [c_rp_mul]
  have HN := Lib.hid hn
  clear hn
  repeat' (first | (simp only [AW_next, AW_ops, AW_opsD, AW_cond, AW_block, AW_exit, AW_ret, AW_skip, AW_scope, AO_nil, AO_next, AO_nextW, wantB_bool, wantK_some, then_normal, then_exit, then_ret, inBlk_normal, inBlk_exit, inBlk_ret, A1_mv, A1_pick, A1_box, A1_zero, A1_build, A1_lits, A1_load, shallow_none, A1_store, A1_nilCheckI, nilOk_ptr, nilOk_func, A1_bin, A1_eqNil, A1_eqBool, A1_eqAgg, A1_un, A1_conv, A1_field, A1_fieldAddr, A1_indexAddr, A1_indexArr, A1_index, A1_slice, A1_mkSlice, A1_extract, A1_func, A1_call, callee_func, callee_bfunc, A1_append, A1_len, A1_minmax, put_some, put_none, upd_at, ev_tmp, ev_av, bin_lss, bin_leq, bin_gtr, bin_geq, bin_eql, bin_neq, bin_add, bin_sub, bin_mul, un_not, natOf_nat, Bool.not_eq_false', Prod.mk.injEq, and_assoc, decide_false, decide_true, Bool.not_false, Bool.not_true, Bool.true_eq_false, Bool.false_eq_true, exists_false, Bool.not_eq_false, Bool.not_not, AV.val.injEq, AV.ptr.injEq, AV.slice.injEq, AV.func.injEq, AV.tuple.injEq, AV.agg.injEq, Value.bool.injEq, Value.int.injEq, Option.some.injEq, exists_eq_left', exists_eq_left, exists_and_left, exists_and_right, and_true, true_and, decide_eq_true_eq, decide_eq_false_iff_not, if_true, if_false, Bool.not_eq_true', beq_true, beq_false, ne_eq, not_true_eq_false, not_false_eq_true, reduceCtorEq, List.getD_cons_zero, List.getD_cons_succ, List.map_cons, List.map_nil, List.append_nil, Nat.reduceEqDiff, reduceIte, ite_true, ite_false, or_true, true_or, or_false, false_or, resA, resultsA, true_imp_iff, false_imp_iff, implies_true, imp_false, and_self, imp_self, and_false, false_and, forall_const, cell_val, cell_ptr, cell_slice, cell_func, cell_hole, cells_agg, cells_val, cells_ptr, cells_slice, cells_func, cells_hole, cells_cell, List.length_cons, List.length_nil, List.all_cons, List.all_nil, Bool.and_self, ldA, List.mapM_cons, List.mapM_nil, Option.bind_eq_bind, Option.bind_some, Option.pure_def, Option.map_none, Option.map_some, List.set_cons_zero, List.set_cons_succ, Nat.lt_add_one, List.append_assoc, List.cons_append, List.nil_append, List.append_nil, List.length_append, rd1_n0, rd1_nK, rd1_c0, rd1_cS, rd_n0, rd_nK, rd_c0, rd_cS, fillA, List.take_zero, List.take_succ_cons, List.take_nil, List.drop_zero, List.drop_succ_cons, List.drop_nil, List.getElem?_cons_zero, List.getElem?_cons_succ, Nat.reduceAdd, Nat.reduceLeDiff, Nat.add_eq_zero_iff, and_self, Nat.zero_add, Nat.add_zero, Nat.mul_one, *]) | (simp only [goO, AO_nil, then_normal, goC]) | (with_reducible apply And.intro) | (with_reducible intro _))
  refine mul64_am HN.out ?_
  repeat' (first | (simp only [AW_next, AW_ops, AW_opsD, AW_cond, AW_block, AW_exit, AW_ret, AW_skip, AW_scope, AO_nil, AO_next, AO_nextW, wantB_bool, wantK_some, then_normal, then_exit, then_ret, inBlk_normal, inBlk_exit, inBlk_ret, A1_mv, A1_pick, A1_box, A1_zero, A1_build, A1_lits, A1_load, shallow_none, A1_store, A1_nilCheckI, nilOk_ptr, nilOk_func, A1_bin, A1_eqNil, A1_eqBool, A1_eqAgg, A1_un, A1_conv, A1_field, A1_fieldAddr, A1_indexAddr, A1_indexArr, A1_index, A1_slice, A1_mkSlice, A1_extract, A1_func, A1_call, callee_func, callee_bfunc, A1_append, A1_len, A1_minmax, put_some, put_none, upd_at, ev_tmp, ev_av, bin_lss, bin_leq, bin_gtr, bin_geq, bin_eql, bin_neq, bin_add, bin_sub, bin_mul, un_not, natOf_nat, Bool.not_eq_false', Prod.mk.injEq, and_assoc, decide_false, decide_true, Bool.not_false, Bool.not_true, Bool.true_eq_false, Bool.false_eq_true, exists_false, Bool.not_eq_false, Bool.not_not, AV.val.injEq, AV.ptr.injEq, AV.slice.injEq, AV.func.injEq, AV.tuple.injEq, AV.agg.injEq, Value.bool.injEq, Value.int.injEq, Option.some.injEq, exists_eq_left', exists_eq_left, exists_and_left, exists_and_right, and_true, true_and, decide_eq_true_eq, decide_eq_false_iff_not, if_true, if_false, Bool.not_eq_true', beq_true, beq_false, ne_eq, not_true_eq_false, not_false_eq_true, reduceCtorEq, List.getD_cons_zero, List.getD_cons_succ, List.map_cons, List.map_nil, List.append_nil, Nat.reduceEqDiff, reduceIte, ite_true, ite_false, or_true, true_or, or_false, false_or, resA, resultsA, true_imp_iff, false_imp_iff, implies_true, imp_false, and_self, imp_self, and_false, false_and, forall_const, cell_val, cell_ptr, cell_slice, cell_func, cell_hole, cells_agg, cells_val, cells_ptr, cells_slice, cells_func, cells_hole, cells_cell, List.length_cons, List.length_nil, List.all_cons, List.all_nil, Bool.and_self, ldA, List.mapM_cons, List.mapM_nil, Option.bind_eq_bind, Option.bind_some, Option.pure_def, Option.map_none, Option.map_some, List.set_cons_zero, List.set_cons_succ, Nat.lt_add_one, List.append_assoc, List.cons_append, List.nil_append, List.append_nil, List.length_append, rd1_n0, rd1_nK, rd1_c0, rd1_cS, rd_n0, rd_nK, rd_c0, rd_cS, fillA, List.take_zero, List.take_succ_cons, List.take_nil, List.drop_zero, List.drop_succ_cons, List.drop_nil, List.getElem?_cons_zero, List.getElem?_cons_succ, Nat.reduceAdd, Nat.reduceLeDiff, Nat.add_eq_zero_iff, and_self, Nat.zero_add, Nat.add_zero, Nat.mul_one, *]) | (simp only [goO, AO_nil, then_normal, goC]) | (with_reducible apply And.intro) | (with_reducible intro _))
def copyA (fl : Nat → Bool) (h : Heap) (k : Nat) (x y : AV) : Option (AV × Heap) := match x, rowOf h k y with
    | .val (.slice none 0 0), some _ => some (.val (.int .i64 0), h)
    | .hole, some _ => some (.val (.int .i64 0), h)
    | .slice id off len _ _ _, some (n, cs) => match wr fl h id off (cs.take (min n len * k)) with
      | some h' => some (.val (.int .i64 (min n len : Nat)), h')
      | none => none
    | _, _ => none
theorem A1_copyG {X : CallT} {F : FuncId → Option AFunc} {top : Option (Nat × Option (List Nat))} {s : Slots} {kk : Nat} {x y : Opd} : A1 X F top fl (.copy kk x y) s h K ↔ ∃ v h', copyA fl h kk (x.ev s) (y.ev s) = some (v, h') ∧ K v h' := Iff.rfl
theorem copy_last {c cs : List AV} {k o ln lb ns : Nat} {ex : Bool} {src : AV} (hs : rowOf (h ++ [some c]) k src = some (ns, cs)) (hf : fl h.length = true) (hfit : o + (cs.take (min ns ln * k)).length ≤ c.length) :
    copyA fl (h ++ [some c]) k (.slice h.length o ln lb ex k) src = some (.val (.int .i64 (min ns ln : Nat)), h ++ [some (c.take o ++ cs.take (min ns ln * k) ++ c.drop (o + (cs.take (min ns ln * k)).length))]) := by
  have hb : blk (h ++ [some c]) h.length = some c := by rw [blk_at0]; rfl
  simp only [copyA, hs, wr, hb]
  rw [if_pos ⟨hf, hfit⟩]
  simp only [List.set_append_right _ _ (Nat.le_refl _), Nat.sub_self, List.set_cons_zero]
theorem row_last {c : List AV} {k o ln lb : Nat} {ex : Bool} (hl : o + ln * k ≤ c.length) : rowOf (h ++ [some c]) k (.slice h.length o ln lb ex k) = some (ln, (c.drop o).take (ln * k)) := by
  have hb : blk (h ++ [some c]) h.length = some c := by rw [blk_at0]; rfl
  simp only [rowOf, rd, hb]
  rw [if_pos hl]
theorem cut_lo {id o ln k : Nat} {m : Nat} (hm : m ≤ ln) : sliceA k (.slice id o ln ln true k) (some (I64 (m : Nat))) none none = some (.slice id (o + m * k) (ln - m) (ln - m) true k) := by
  simp [sliceA, natOfA, intOfA, hm]
theorem cut_hi {id o ln k : Nat} {m : Nat} (hm : m ≤ ln) : sliceA k (.slice id o ln ln true k) none (some (I64 (m : Nat))) none = some (.slice id o m ln true k) := by
  simp [sliceA, natOfA, intOfA, hm]
def repA (e : List AV) (n : Nat) : List AV := (List.replicate n e).flatten
theorem repA_len {e : List AV} {n k : Nat} (h : e.length = k) : (repA e n).length = n * k := by
  unfold repA; induction n with
  | zero => simp
  | succ n ih => rw [List.replicate_succ, List.flatten_cons, List.length_append, ih, h, Nat.add_mul]; omega
theorem repA_add {e : List AV} {m n : Nat} : repA e m ++ repA e n = repA e (m + n) := by
  unfold repA; rw [← List.replicate_append_replicate, List.flatten_append]
def repC (e z : List AV) (m n : Nat) : List AV := repA e m ++ repA z (n - m)
theorem repC_len {e z : List AV} {m n k : Nat} (he : e.length = k) (hz : z.length = k) (h : m ≤ n) : (repC e z m n).length = n * k := by
  unfold repC; rw [List.length_append, repA_len he, repA_len hz, ← Nat.add_mul]; congr 1; omega
theorem repC_take {e z : List AV} {m n k : Nat} (he : e.length = k) : (repC e z m n).take (m * k) = repA e m := by
  unfold repC; rw [List.take_left' (repA_len he)]
theorem repA_take {e : List AV} {j m k : Nat} (he : e.length = k) (h : j ≤ m) : (repA e m).take (j * k) = repA e j := by
  obtain ⟨d, rfl⟩ : ∃ d, m = j + d := ⟨m - j, by omega⟩
  rw [← repA_add, List.take_left' (repA_len he)]
theorem repA_drop {e : List AV} {j m k : Nat} (he : e.length = k) (h : j ≤ m) : (repA e m).drop (j * k) = repA e (m - j) := by
  obtain ⟨d, rfl⟩ : ∃ d, m = j + d := ⟨m - j, by omega⟩
  rw [← repA_add, List.drop_left' (repA_len he), Nat.add_sub_cancel_left]
theorem repC_drop {e z : List AV} {m n j k : Nat} (he : e.length = k) (hz : z.length = k) (h : m + j ≤ n) : (repC e z m n).drop ((m + j) * k) = repA z (n - (m + j)) := by
  unfold repC
  rw [List.drop_append, repA_len he, List.drop_eq_nil_of_le (by rw [repA_len he]; exact Nat.mul_le_mul_right _ (by omega)), List.nil_append, ← Nat.sub_mul, Nat.add_sub_cancel_left, repA_drop hz (by omega)]
  congr 1; omega
theorem repC_step {e z : List AV} {m n j k : Nat} (he : e.length = k) (hz : z.length = k) (h : m ≤ n) (hj : j ≤ m) (hmj : m + j ≤ n) : (repC e z m n).take (m * k) ++ (((repC e z m n).drop 0).take (m * k)).take (j * k) ++ (repC e z m n).drop (m * k + j * k) = repC e z (m + j) n := by
  rw [List.drop_zero, repC_take he, repA_take he hj, ← Nat.add_mul, repC_drop he hz hmj, repA_add]
  rfl
theorem repC_zero {e z : List AV} {n : Nat} : (List.replicate n z).flatten = repC e z 0 n := by
  unfold repC repA; simp
theorem repC_all {e z : List AV} {n : Nat} : repC e z n n = repA e n := by unfold repC repA; simp
theorem repC_first {e z : List AV} {n k : Nat} (he : e.length = k) (hz : z.length = k) : (repC e z 0 n).take 0 ++ e.take (min 1 n * k) ++ (repC e z 0 n).drop (0 + (e.take (min 1 n * k)).length) = repC e z (min 1 n) n := by
  rcases Nat.eq_zero_or_pos n with rfl | hp
  · simp [repC, repA]
  · have e1 : e.take k = e := List.take_of_length_le (by omega)
    rw [Nat.min_eq_left hp, Nat.one_mul, e1, List.take_zero, List.nil_append, Nat.zero_add, he]
    have := repC_drop (e := e) (z := z) (m := 0) (n := n) (j := 1) he hz (by omega)
    rw [show (0 + 1) * k = k by omega] at this
    rw [this]
    unfold repC
    congr 1
    simp [repA]
end
theorem ZRs.vals {w : Wd} {zs : List ZV} {ys : List AV} (h : ZRs w zs ys) (hp : ∀ z ∈ zs, ∃ v, z = .val v) (w' : Wd) : ZRs w' zs ys := ⟨h.1, fun i z a h1 h2 => by
  obtain ⟨v, rfl⟩ := hp z (List.mem_of_getElem? h1)
  rw [(h.2 i _ _ h1 h2).val_inv]
  exact .fr (.val _)⟩
theorem rep_zrs {w : Wd} {zs : List ZV} {ys : List AV} (h : ZRs w zs ys) : ∀ {n : Nat}, ZRs w (List.replicate n zs).flatten (repA ys n)
  | 0 => by unfold repA; exact ZRs.nil
  | n + 1 => by
    have := rep_zrs h (n := n)
    unfold repA at *
    rw [List.replicate_succ, List.replicate_succ, List.flatten_cons, List.flatten_cons]
    exact h.append this
theorem ZR.ownEx {w : Wd} {i g off len id o lb k : Nat} (h : ZR w (.own i g off len false) (.slice id o len lb false k)) : ZR w (.own i g off len false) (.slice id o len lb true k) := by
  cases h with
  | fr hf => cases hf
  | own h1 h2 h3 h4 =>
    refine .own h1 (fun g' k' rows hb => ⟨(h2 g' k' rows hb).1, fun he => ?_⟩) (fun id hid => h3 id hid) rfl
    rcases (h2 g' k' rows hb).2 he with ⟨_, _, _, _, e | ⟨_, _, _, e, _⟩⟩ | ⟨id2, b, lb2, ex2, row, q1, q2, q3, q4, q5, q6, q7⟩
    · cases e
    · cases e
    · injection q2 with t1 t2 t3 t4 t5 t6
      subst t1; subst t2; subst t4; subst t6
      exact .inr ⟨_, b, _, true, row, q1, rfl, q3, q4, q5, q6, fun h => by cases h⟩
end Go.Proofs.Ytoeppobpnhlebaa

namespace Go.Proofs.Ytoeppobpnhlebaa
open Go Go.RowKit
set_option linter.unusedVariables false
def c_sn_rest : ACode := .seq (.ops [⟨(some 4), .mv (.av (.val (.int .i64 0))), none, true⟩])
 (.seq (.ops [⟨(some 6), .mv (.tmp 0), none, true⟩,
 ⟨(some 7), .mv (.tmp 1), none, true⟩,
 ⟨(some 8), .bin .rem (.tmp 6) (.tmp 7), none, true⟩,
 ⟨(some 5), .mv (.tmp 8), none, true⟩])
 (.seq (.seq (.ops [⟨(some 9), .mv (.tmp 5), none, true⟩,
 ⟨(some 10), .bin .lss (.tmp 9) (.av (.val (.int .i64 0))), none, true⟩])
 (.cond (.tmp 10)
 (.ops [⟨(some 11), .mv (.tmp 5), none, true⟩,
 ⟨(some 12), .mv (.tmp 1), none, true⟩,
 ⟨(some 13), .bin .add (.tmp 11) (.tmp 12), none, true⟩,
 ⟨(some 5), .mv (.tmp 13), none, true⟩])
 (.skip)))
 (.seq (.ops [⟨(some 14), .mv (.tmp 5), none, true⟩,
 ⟨(some 4), .mv (.tmp 14), none, true⟩])
 (.ret))))
theorem f_sn_rest : cFunc Try.prog 14 = some ⟨15, c_sn_rest, [.tmp 4]⟩ := by kernel_rfl
def c_sn_repeat : ACode := .seq (.ops [⟨(some 4), .mv (.av (.val (.slice none 0 0))), none, true⟩])
 (.seq (.seq (.ops [⟨(some 9), .mv (.tmp 1), none, true⟩,
 ⟨(some 10), .bin .lss (.tmp 9) (.av (.val (.int .i64 0))), none, true⟩])
 (.cond (.tmp 10)
 (.ops [⟨(some 11), .bad, none, true⟩,
 ⟨none, .bad, none, true⟩])
 (.skip)))
 (.seq (.ops [⟨(some 13), .mv (.tmp 0), none, true⟩,
 ⟨(some 14), .len (.tmp 13), none, true⟩,
 ⟨(some 15), .conv .u64 (.tmp 14), none, true⟩,
 ⟨(some 16), .mv (.tmp 1), none, true⟩,
 ⟨(some 17), .conv .u64 (.tmp 16), none, true⟩,
 ⟨(some 18), .call (.av (.func 43 [])) [(.tmp 15), (.tmp 17)], none, true⟩,
 ⟨(some 12), .mv (.tmp 18), none, true⟩,
 ⟨(some 19), .extract 0 (.tmp 12), none, true⟩,
 ⟨(some 20), .extract 1 (.tmp 12), none, true⟩,
 ⟨(some 5), .mv (.tmp 19), none, true⟩,
 ⟨(some 6), .mv (.tmp 20), none, true⟩])
 (.seq (.seq (.ops [⟨(some 21), .mv (.tmp 5), none, true⟩,
 ⟨(some 22), .bin .gtr (.tmp 21) (.av (.val (.int .u64 0))), none, true⟩,
 ⟨(some 23), .mv (.tmp 22), none, true⟩,
 ⟨(some 24), .mv (.tmp 6), (some (23, false)), true⟩,
 ⟨(some 25), .bin .gtr (.tmp 24) (.av (.val (.int .u64 9223372036854775807))), (some (23, false)), true⟩,
 ⟨(some 26), .pick (.tmp 23) (.av (.val (.bool true))) (.tmp 25), none, true⟩])
 (.cond (.tmp 26)
 (.ops [⟨(some 27), .bad, none, true⟩,
 ⟨none, .bad, none, true⟩])
 (.skip)))
 (.seq (.ops [⟨(some 28), .mv (.tmp 6), none, true⟩,
 ⟨(some 29), .conv .i64 (.tmp 28), none, true⟩,
 ⟨(some 30), .mkSlice 2 16 [(.val (.int .i64 0)), (.val (.int .i64 0))] (.tmp 29) (.tmp 29), none, true⟩,
 ⟨(some 7), .mv (.tmp 30), none, true⟩])
 (.seq (.ops [⟨(some 31), .mv (.tmp 7), none, true⟩,
 ⟨(some 32), .mv (.tmp 0), none, true⟩,
 ⟨(some 33), .copy 2 (.tmp 31) (.tmp 32), none, true⟩,
 ⟨(some 8), .mv (.tmp 33), none, true⟩])
 (.seq (.block 0 (.loop (.seq (.seq (.ops [⟨(some 34), .mv (.tmp 8), none, true⟩,
 ⟨(some 35), .mv (.tmp 7), none, true⟩,
 ⟨(some 36), .len (.tmp 35), none, true⟩,
 ⟨(some 37), .bin .lss (.tmp 34) (.tmp 36), none, true⟩])
 (.cond (.tmp 37)
 (.skip)
 (.exit 0)))
 (.block 1 (.opsD [⟨(some 38), .mv (.tmp 8), none, true⟩,
 ⟨(some 39), .mv (.tmp 7), none, true⟩,
 ⟨(some 40), .mv (.tmp 8), none, true⟩,
 ⟨(some 41), .slice 2 (.tmp 39) (some (.tmp 40)) none none, none, true⟩,
 ⟨(some 42), .mv (.tmp 7), none, true⟩,
 ⟨(some 43), .mv (.tmp 8), none, true⟩,
 ⟨(some 44), .slice 2 (.tmp 42) none (some (.tmp 43)) none, none, true⟩,
 ⟨(some 45), .copy 2 (.tmp 41) (.tmp 44), none, true⟩,
 ⟨(some 46), .bin .add (.tmp 38) (.tmp 45), none, true⟩,
 ⟨(some 8), .mv (.tmp 46), none, true⟩])))))
 (.seq (.ops [⟨(some 47), .mv (.tmp 7), none, true⟩,
 ⟨(some 4), .mv (.tmp 47), none, true⟩])
 (.ret))))))))
theorem f_sn_repeat : cFunc Try.prog 27 = some ⟨48, c_sn_repeat, [.tmp 4]⟩ := by kernel_rfl
end Go.Proofs.Ytoeppobpnhlebaa

namespace Go.Proofs.Ytoeppobpnhlebaa
open Go Go.RowKit
set_option linter.unusedVariables false
set_option linter.unusedSimpArgs false
section
variable {tb : List (FuncId × Bool)} {fl : Nat → Bool} {h : Heap} {K : AV → Heap → Prop}
abbrev zeroPl : List AV := [I64 0, I64 0]
set_option maxHeartbeats 2000000 in
theorem repeatPl_am {lv : AV} {x : List AV} {n : Nat} (hx : x.length = 2) (hn : n ≤ 1000) (hlen : lenA lv = some 1) (hl : ∀ X, rowOf (h ++ X) 2 lv = some (1, x)) (hf : ∀ i, h.length ≤ i → fl i = true) (hK : K (.slice h.length 0 n n true 2) (h ++ [some (repA x n)])) :
    AC (constX tb) (cFunc Try.prog) 27 [lv, I64 (n : Nat)] fl h K := by
  refine AC.enter rfl f_sn_repeat (by simp) ?_
  simp only [c_sn_repeat]
  have HN := Lib.hid hn
  have l1 := hlen
  have w1 : IntKind.u64.wrap 1 = 1 := by rfl
  have wn : IntKind.u64.wrap (n : Int) = (n : Int) := IntWalk.u64_in _ (by omega)
  have wi : IntKind.i64.wrap (n : Int) = (n : Int) := IntWalk.i64_in _ (by omega)
  have g0 : ¬ ((n : Int) < 0) := by omega
  have g1 : ¬ ((0 : Int) < 0) := by omega
  have g2 : ¬ ((9223372036854775807 : Int) < (n : Int)) := by omega
  have hr : n * 16 ≤ reach := by unfold reach; omega
  have HL := Lib.hid hl
  have HF := Lib.hid hf
  have HK := Lib.hid hK
  have HX := Lib.hid hx
  have hz : (zeroPl).length = 2 := rfl
  have HZ := Lib.hid hz
  clear hl hf hK hn hx hlen hz
  repeat' (first | (simp only [AW_next, AW_ops, AW_opsD, AW_cond, AW_block, AW_exit, AW_ret, AW_skip, AW_scope, AO_nil, AO_next, AO_nextW, wantB_bool, wantK_some, then_normal, then_exit, then_ret, inBlk_normal, inBlk_exit, inBlk_ret, A1_mv, A1_pick, A1_box, A1_zero, A1_build, A1_lits, A1_load, shallow_none, A1_store, A1_nilCheckI, nilOk_ptr, nilOk_func, A1_bin, A1_eqNil, A1_eqBool, A1_eqAgg, A1_un, A1_conv, A1_field, A1_fieldAddr, A1_indexAddr, A1_indexArr, A1_index, A1_slice, A1_mkSlice, A1_extract, A1_func, A1_call, callee_func, callee_bfunc, A1_append, A1_len, A1_minmax, put_some, put_none, upd_at, ev_tmp, ev_av, bin_lss, bin_leq, bin_gtr, bin_geq, bin_eql, bin_neq, bin_add, bin_sub, bin_mul, un_not, natOf_nat, Bool.not_eq_false', Prod.mk.injEq, and_assoc, decide_false, decide_true, Bool.not_false, Bool.not_true, Bool.true_eq_false, Bool.false_eq_true, exists_false, Bool.not_eq_false, Bool.not_not, AV.val.injEq, AV.ptr.injEq, AV.slice.injEq, AV.func.injEq, AV.tuple.injEq, AV.agg.injEq, Value.bool.injEq, Value.int.injEq, Option.some.injEq, exists_eq_left', exists_eq_left, exists_and_left, exists_and_right, and_true, true_and, decide_eq_true_eq, decide_eq_false_iff_not, if_true, if_false, Bool.not_eq_true', beq_true, beq_false, ne_eq, not_true_eq_false, not_false_eq_true, reduceCtorEq, List.getD_cons_zero, List.getD_cons_succ, List.map_cons, List.map_nil, List.append_nil, Nat.reduceEqDiff, reduceIte, ite_true, ite_false, or_true, true_or, or_false, false_or, resA, resultsA, true_imp_iff, false_imp_iff, implies_true, imp_false, and_self, imp_self, and_false, false_and, forall_const, cell_val, cell_ptr, cell_slice, cell_func, cell_hole, cells_agg, cells_val, cells_ptr, cells_slice, cells_func, cells_hole, cells_cell, List.length_cons, List.length_nil, List.all_cons, List.all_nil, Bool.and_self, ldA, List.mapM_cons, List.mapM_nil, Option.bind_eq_bind, Option.bind_some, Option.pure_def, Option.map_none, Option.map_some, List.set_cons_zero, List.set_cons_succ, Nat.lt_add_one, List.append_assoc, List.cons_append, List.nil_append, List.append_nil, List.length_append, rd1_n0, rd1_nK, rd1_c0, rd1_cS, rd_n0, rd_nK, rd_c0, rd_cS, fillA, List.take_zero, List.take_succ_cons, List.take_nil, List.drop_zero, List.drop_succ_cons, List.drop_nil, List.getElem?_cons_zero, List.getElem?_cons_succ, Nat.reduceAdd, Nat.reduceLeDiff, Nat.add_eq_zero_iff, and_self, Nat.zero_add, Nat.add_zero, Nat.mul_one, l1, w1, wn, Int.natCast_one, *]) | (simp only [goO, AO_nil, then_normal, goC]) | (with_reducible apply And.intro) | (with_reducible intro _))
  refine mul_am HN.out ?_
  have hflat : (List.replicate n zeroPl).flatten = repC x zeroPl 0 n := repC_zero
  have hc := copy_last (fl := fl) (k := 2) (o := 0) (ln := n) (lb := n) (ex := true) (HL.out [some (repC x zeroPl 0 n)]) (HF.out _ (Nat.le_refl _)) (by rw [repC_len HX.out HZ.out (Nat.zero_le _), List.length_take, HX.out]; omega)
  rw [repC_first HX.out HZ.out] at hc
  have hln : ∀ lb, lenA (.slice h.length 0 n lb true 2) = some n := fun _ => rfl
  obtain ⟨m0, hm0⟩ : ∃ m0, m0 = min 1 n := ⟨_, rfl⟩
  rw [← hm0] at hc
  have HM := Lib.hid hm0
  clear hm0
  repeat' (first | (simp only [AW_next, AW_ops, AW_opsD, AW_cond, AW_block, AW_exit, AW_ret, AW_skip, AW_scope, AO_nil, AO_next, AO_nextW, wantB_bool, wantK_some, then_normal, then_exit, then_ret, inBlk_normal, inBlk_exit, inBlk_ret, A1_mv, A1_pick, A1_box, A1_zero, A1_build, A1_lits, A1_load, shallow_none, A1_store, A1_nilCheckI, nilOk_ptr, nilOk_func, A1_bin, A1_eqNil, A1_eqBool, A1_eqAgg, A1_un, A1_conv, A1_field, A1_fieldAddr, A1_indexAddr, A1_indexArr, A1_index, A1_slice, A1_mkSlice, A1_extract, A1_func, A1_call, callee_func, callee_bfunc, A1_append, A1_len, A1_minmax, put_some, put_none, upd_at, ev_tmp, ev_av, bin_lss, bin_leq, bin_gtr, bin_geq, bin_eql, bin_neq, bin_add, bin_sub, bin_mul, un_not, natOf_nat, Bool.not_eq_false', Prod.mk.injEq, and_assoc, decide_false, decide_true, Bool.not_false, Bool.not_true, Bool.true_eq_false, Bool.false_eq_true, exists_false, Bool.not_eq_false, Bool.not_not, AV.val.injEq, AV.ptr.injEq, AV.slice.injEq, AV.func.injEq, AV.tuple.injEq, AV.agg.injEq, Value.bool.injEq, Value.int.injEq, Option.some.injEq, exists_eq_left', exists_eq_left, exists_and_left, exists_and_right, and_true, true_and, decide_eq_true_eq, decide_eq_false_iff_not, if_true, if_false, Bool.not_eq_true', beq_true, beq_false, ne_eq, not_true_eq_false, not_false_eq_true, reduceCtorEq, List.getD_cons_zero, List.getD_cons_succ, List.map_cons, List.map_nil, List.append_nil, Nat.reduceEqDiff, reduceIte, ite_true, ite_false, or_true, true_or, or_false, false_or, resA, resultsA, true_imp_iff, false_imp_iff, implies_true, imp_false, and_self, imp_self, and_false, false_and, forall_const, cell_val, cell_ptr, cell_slice, cell_func, cell_hole, cells_agg, cells_val, cells_ptr, cells_slice, cells_func, cells_hole, cells_cell, List.length_cons, List.length_nil, List.all_cons, List.all_nil, Bool.and_self, ldA, List.mapM_cons, List.mapM_nil, Option.bind_eq_bind, Option.bind_some, Option.pure_def, Option.map_none, Option.map_some, List.set_cons_zero, List.set_cons_succ, Nat.lt_add_one, List.append_assoc, List.cons_append, List.nil_append, List.append_nil, List.length_append, rd1_n0, rd1_nK, rd1_c0, rd1_cS, rd_n0, rd_nK, rd_c0, rd_cS, fillA, List.take_zero, List.take_succ_cons, List.take_nil, List.drop_zero, List.drop_succ_cons, List.drop_nil, List.getElem?_cons_zero, List.getElem?_cons_succ, Nat.reduceAdd, Nat.reduceLeDiff, Nat.add_eq_zero_iff, and_self, Nat.zero_add, Nat.add_zero, Nat.mul_one, A1_copyG, gtr_u, g1, g2, wi, natOf_nat, hr, Nat.le_refl, beq_self_eq_true, hflat, hc, *]) | (simp only [goO, AO_nil, then_normal, goC]) | (with_reducible apply And.intro) | (with_reducible intro _))
  refine AW.named fun S hS => ?_
  have s7 : S 7 = .slice h.length 0 n n true 2 := by rw [hS]; rfl
  have s8 : S 8 = I64 (m0 : Nat) := by rw [hS]; rfl
  clear hS hc hflat
  refine AW_while (fun r s' h' => ∃ m : Nat, r = n - m ∧ m ≤ n ∧ (n = 0 ∨ 0 < m) ∧ s' 8 = I64 (m : Nat) ∧ h' = h ++ [some (repC x zeroPl m n)]) (n - m0) ⟨m0, rfl, by have := HM.out; omega, by have := HM.out; omega, s8, rfl⟩ ?_
  clear s8
  rintro r s' h' ⟨m, rfl, hmn, hpos, s8, rfl⟩ hs
  have f7 := (hs 7 (by decide)).trans s7
  clear hs s7
  by_cases hlt : m < n
  · have g3 : (m : Int) < (n : Int) := by omega
    have c1 := cut_lo (id := h.length) (o := 0) (k := 2) hmn
    have c2 := cut_hi (id := h.length) (o := 0) (k := 2) hmn
    rw [Nat.zero_add] at c1
    have hcl := repC_len (m := m) (n := n) HX.out HZ.out hmn
    have hrow := row_last (h := h) (c := repC x zeroPl m n) (k := 2) (o := 0) (ln := m) (lb := n) (ex := true) (by rw [hcl]; omega)
    have htl : (((repC x zeroPl m n).drop 0).take (m * 2)).length = m * 2 := by rw [List.length_take, List.drop_zero, hcl]; omega
    have hc := copy_last (fl := fl) (k := 2) (o := m * 2) (ln := n - m) (lb := n - m) (ex := true) hrow (HF.out _ (Nat.le_refl _)) (by rw [hcl, List.length_take, htl]; omega)
    rw [show (List.take (min m (n - m) * 2) (((repC x zeroPl m n).drop 0).take (m * 2))).length = min m (n - m) * 2 by rw [List.length_take, htl]; omega] at hc
    rw [repC_step HX.out HZ.out hmn (Nat.min_le_left _ _) (by omega)] at hc
    have wa : IntKind.i64.wrap ((m : Int) + ((min m (n - m) : Nat) : Int)) = ((m + min m (n - m) : Nat) : Int) := by have := HN.out; rw [IntWalk.i64_in _ (by omega)]; omega
    obtain ⟨q, hq⟩ : ∃ q, q = min m (n - m) := ⟨_, rfl⟩
    rw [← hq] at hc wa
    have fin : ∃ r2, r2 < n - m ∧ ∃ m2 : Nat, r2 = n - m2 ∧ m2 ≤ n ∧ (n = 0 ∨ 0 < m2) ∧ ((m + q : Nat) : Int) = ((m2 : Nat) : Int) ∧ h ++ [some (repC x zeroPl (m + q) n)] = h ++ [some (repC x zeroPl m2 n)] :=
      ⟨n - (m + q), by omega, m + q, rfl, by omega, by omega, rfl, rfl⟩
    have FI := Lib.hid fin
    clear hrow htl hq fin g0 g1 g2 hpos hmn hcl
    repeat' (first | (simp only [AW_next, AW_ops, AW_opsD, AW_cond, AW_block, AW_exit, AW_ret, AW_skip, AW_scope, AO_nil, AO_next, AO_nextW, wantB_bool, wantK_some, then_normal, then_exit, then_ret, inBlk_normal, inBlk_exit, inBlk_ret, A1_mv, A1_pick, A1_box, A1_zero, A1_build, A1_lits, A1_load, shallow_none, A1_store, A1_nilCheckI, nilOk_ptr, nilOk_func, A1_bin, A1_eqNil, A1_eqBool, A1_eqAgg, A1_un, A1_conv, A1_field, A1_fieldAddr, A1_indexAddr, A1_indexArr, A1_index, A1_slice, A1_mkSlice, A1_extract, A1_func, A1_call, callee_func, callee_bfunc, A1_append, A1_len, A1_minmax, put_some, put_none, upd_at, ev_tmp, ev_av, bin_lss, bin_leq, bin_gtr, bin_geq, bin_eql, bin_neq, bin_add, bin_sub, bin_mul, un_not, natOf_nat, Bool.not_eq_false', Prod.mk.injEq, and_assoc, decide_false, decide_true, Bool.not_false, Bool.not_true, Bool.true_eq_false, Bool.false_eq_true, exists_false, Bool.not_eq_false, Bool.not_not, AV.val.injEq, AV.ptr.injEq, AV.slice.injEq, AV.func.injEq, AV.tuple.injEq, AV.agg.injEq, Value.bool.injEq, Value.int.injEq, Option.some.injEq, exists_eq_left', exists_eq_left, exists_and_left, exists_and_right, and_true, true_and, decide_eq_true_eq, decide_eq_false_iff_not, if_true, if_false, Bool.not_eq_true', beq_true, beq_false, ne_eq, not_true_eq_false, not_false_eq_true, reduceCtorEq, List.getD_cons_zero, List.getD_cons_succ, List.map_cons, List.map_nil, List.append_nil, Nat.reduceEqDiff, reduceIte, ite_true, ite_false, or_true, true_or, or_false, false_or, resA, resultsA, true_imp_iff, false_imp_iff, implies_true, imp_false, and_self, imp_self, and_false, false_and, forall_const, cell_val, cell_ptr, cell_slice, cell_func, cell_hole, cells_agg, cells_val, cells_ptr, cells_slice, cells_func, cells_hole, cells_cell, List.length_cons, List.length_nil, List.all_cons, List.all_nil, Bool.and_self, ldA, List.mapM_cons, List.mapM_nil, Option.bind_eq_bind, Option.bind_some, Option.pure_def, Option.map_none, Option.map_some, List.set_cons_zero, List.set_cons_succ, Nat.lt_add_one, List.append_assoc, List.cons_append, List.nil_append, List.append_nil, List.length_append, rd1_n0, rd1_nK, rd1_c0, rd1_cS, rd_n0, rd_nK, rd_c0, rd_cS, fillA, List.take_zero, List.take_succ_cons, List.take_nil, List.drop_zero, List.drop_succ_cons, List.drop_nil, List.getElem?_cons_zero, List.getElem?_cons_succ, Nat.reduceAdd, Nat.reduceLeDiff, Nat.add_eq_zero_iff, and_self, Nat.zero_add, Nat.add_zero, Nat.mul_one, A1_copyG, AW_opsD, det_mk, c1, c2, hc, wa, hln, *]) | (simp only [goO, AO_nil, then_normal, goC]) | (with_reducible apply And.intro) | (with_reducible intro _))
    exact FI.out
  · have hm : m = n := by omega
    subst hm
    have fin : K (.slice h.length 0 m m true 2) (h ++ [some (repC x zeroPl m m)]) := by rw [repC_all]; exact HK.out
    clear g0 g1 g2
    have g4 : ¬ ((m : Int) < (m : Int)) := by omega
    repeat' (first | (simp only [AW_next, AW_ops, AW_opsD, AW_cond, AW_block, AW_exit, AW_ret, AW_skip, AW_scope, AO_nil, AO_next, AO_nextW, wantB_bool, wantK_some, then_normal, then_exit, then_ret, inBlk_normal, inBlk_exit, inBlk_ret, A1_mv, A1_pick, A1_box, A1_zero, A1_build, A1_lits, A1_load, shallow_none, A1_store, A1_nilCheckI, nilOk_ptr, nilOk_func, A1_bin, A1_eqNil, A1_eqBool, A1_eqAgg, A1_un, A1_conv, A1_field, A1_fieldAddr, A1_indexAddr, A1_indexArr, A1_index, A1_slice, A1_mkSlice, A1_extract, A1_func, A1_call, callee_func, callee_bfunc, A1_append, A1_len, A1_minmax, put_some, put_none, upd_at, ev_tmp, ev_av, bin_lss, bin_leq, bin_gtr, bin_geq, bin_eql, bin_neq, bin_add, bin_sub, bin_mul, un_not, natOf_nat, Bool.not_eq_false', Prod.mk.injEq, and_assoc, decide_false, decide_true, Bool.not_false, Bool.not_true, Bool.true_eq_false, Bool.false_eq_true, exists_false, Bool.not_eq_false, Bool.not_not, AV.val.injEq, AV.ptr.injEq, AV.slice.injEq, AV.func.injEq, AV.tuple.injEq, AV.agg.injEq, Value.bool.injEq, Value.int.injEq, Option.some.injEq, exists_eq_left', exists_eq_left, exists_and_left, exists_and_right, and_true, true_and, decide_eq_true_eq, decide_eq_false_iff_not, if_true, if_false, Bool.not_eq_true', beq_true, beq_false, ne_eq, not_true_eq_false, not_false_eq_true, reduceCtorEq, List.getD_cons_zero, List.getD_cons_succ, List.map_cons, List.map_nil, List.append_nil, Nat.reduceEqDiff, reduceIte, ite_true, ite_false, or_true, true_or, or_false, false_or, resA, resultsA, true_imp_iff, false_imp_iff, implies_true, imp_false, and_self, imp_self, and_false, false_and, forall_const, cell_val, cell_ptr, cell_slice, cell_func, cell_hole, cells_agg, cells_val, cells_ptr, cells_slice, cells_func, cells_hole, cells_cell, List.length_cons, List.length_nil, List.all_cons, List.all_nil, Bool.and_self, ldA, List.mapM_cons, List.mapM_nil, Option.bind_eq_bind, Option.bind_some, Option.pure_def, Option.map_none, Option.map_some, List.set_cons_zero, List.set_cons_succ, Nat.lt_add_one, List.append_assoc, List.cons_append, List.nil_append, List.append_nil, List.length_append, rd1_n0, rd1_nK, rd1_c0, rd1_cS, rd_n0, rd_nK, rd_c0, rd_cS, fillA, List.take_zero, List.take_succ_cons, List.take_nil, List.drop_zero, List.drop_succ_cons, List.drop_nil, List.getElem?_cons_zero, List.getElem?_cons_succ, Nat.reduceAdd, Nat.reduceLeDiff, Nat.add_eq_zero_iff, and_self, Nat.zero_add, Nat.add_zero, Nat.mul_one, hln, *]) | (simp only [goO, AO_nil, then_normal, goC]) | (with_reducible apply And.intro) | (with_reducible intro _))
end
section
variable {tb : List (FuncId × Bool)} {L : Nat → Bool} {H : ZH} {K : ZV → ZH → Prop}
theorem repeatPl_z {z : ZV} {zx : List ZV} {n : Nat} (hzx : zx.length = 2) (hp : ∀ z ∈ zx, ∃ v, z = .val v) (hz : rowsZ H 2 z = some [zx]) (hn : n ≤ 1000) (hK : K (.own H.length 0 0 n false) (H ++ [.grow 0 2 (List.replicate n zx)])) :
    ZC (constX tb) (cFunc Try.prog) 27 [z, Z64 (n : Nat)] L H K := by
  intro fl w args r e ha
  subst e
  obtain ⟨a, ha0, ha1⟩ := ha.get (i := 0) rfl
  obtain ⟨b, hb0, hb1⟩ := ha.get (i := 1) rfl
  have e2 : args = [a, b] := by
    have := ha.1
    match args, this, ha0, hb0 with
    | [x, y], _, hv0, hu0 => simp at hv0 hu0; rw [hv0, hu0]
  subst e2
  have e3 := hb1.val_inv
  subst e3
  obtain ⟨cells, h1, h2⟩ := rows_sl r ha1 hz
  rw [List.flatten_cons, List.flatten_nil, List.append_nil] at h2
  have hcl : cells.length = 2 := by rw [← h2.1]; exact hzx
  refine repeatPl_am hcl hn h1.len (fun X => (h1.ext X).row) r.fresh ?_
  have hnew : New w.h (w.h ++ [some (repA cells n)]) 2 (.slice w.h.length 0 n n false 2) (repA cells n) n := by
    refine ⟨⟨repA_len hcl, .inr ⟨w.h.length, n, repA cells n, rfl, Nat.le_refl _, by rw [repA_len hcl]; exact Nat.le_refl _, by rw [blk_at0]; rfl, by rw [← repA_len hcl]; exact List.take_length⟩⟩, by simp [idOf], Keep.ext _ _⟩
  obtain ⟨w', q1, q2, q3, q4, q5⟩ := new_w r hnew (rows := List.replicate n zx) (fun x hx => by rw [(List.mem_replicate.1 hx).2]; exact hzx) (by simp) (fun w' => rep_zrs (h2.vals hp w'))
  exact ⟨_, w', q1, q3, q4, q5.ownEx, by rw [q2]; exact hK⟩
end
end Go.Proofs.Ytoeppobpnhlebaa
