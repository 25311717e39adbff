/-
  AM and the program's machine: comparing, building, slices.
-/
import Derived.Test.YtpmmiaadfnildaaAmD
import Derived.Laws.StructEq
namespace Go.Proofs.Ytpmmiaadfnildaa
open Go
set_option linter.unusedVariables false
set_option linter.unusedSimpArgs false
section
variable {n0 B0 : Nat} {P : Program} {m : Map} {h : Heap} {w : World} {fl : Nat → Bool}
variable {ρ : Operand → Value} {s : Slots} {x y z : Operand} {x' y' z' : Opd} {d : Option Tmp} {ty : TypeId} {pos : String} {af : Array Edge} {gd : Option (Nat × Bool)}

theorem bytes_eq (a b : ByteArray) : (a.toList == b.toList) = decide (a = b) := by
  rw [ByteArray.toList_eq, ByteArray.toList_eq]
  obtain ⟨⟨x⟩⟩ := a
  obtain ⟨⟨y⟩⟩ := b
  show (x == y) = _
  by_cases hab : x = y <;> simp_all

theorem run_bin {op : BinOp} {t : TypeId} {a b v : Value} (hv : binV op a b = some v) (x y : Operand) : (do eqGuard op t x y a b; binOp op t a b : Sem Value).run P w = .ok v w ∧ plainV v = true := by
  unfold binV at hv
  split at hv
  · rename_i k a k' b
    split at hv
    · split at hv
      · rename_i hb
        injection hv with hv; subst hv
        refine ⟨?_, rfl⟩
        simp [eqGuard, binOp, Op.shift]
        intro hb'; omega
      · cases hv
    · split at hv
      · rename_i hb
        injection hv with hv; subst hv
        refine ⟨?_, rfl⟩
        simp [eqGuard, binOp, Op.shift]
        intro hb'; omega
      · cases hv
    · rename_i h1 h2
      split at hv
      · rename_i hk; subst hk
        split at hv <;> first
          | (injection hv with hv; subst hv; refine ⟨?_, rfl⟩; simp [eqGuard, binOp, Op.intArith, Op.intBits, Op.intCmp]; done)
          | (injection hv with hv; subst hv; refine ⟨?_, rfl⟩; simp [eqGuard, binOp, Op.intArith, Op.intBits, Op.intCmp]; rfl)
          | (split at hv; · cases hv
             · rename_i hb; injection hv with hv; subst hv; refine ⟨?_, rfl⟩; simp [eqGuard, binOp, Op.intDiv, hb])
          | cases hv
      · cases hv
  · split at hv
    · injection hv with hv; subst hv
      refine ⟨?_, rfl⟩
      simp [eqGuard, binOp, Op.stringOp, bytes_eq]
    · injection hv with hv; subst hv
      refine ⟨?_, rfl⟩
      simp [eqGuard, binOp, Op.stringOp, bytes_eq]
    · cases hv
  · cases hv

theorem sim_bin (r : Rels n0 B0 m h w) {op : BinOp} {t u : TypeId} (hx : VR m (x'.ev s) (ρ x)) (hy : VR m (y'.ev s) (ρ y)) {v : AV} {h' : Heap} {top} (he : opEval top fl s h (.bin op x' y') = some (v, h')) :
    Sim P n0 B0 fl m h w ρ ⟨d, .binOp op t x y u, ty, pos, af, gd⟩ v h' := by
  simp only [opEval] at he
  split at he
  · rename_i a b hp hq
    rw [hp] at hx; rw [hq] at hy
    split at he
    · rename_i v0 hv
      injection he with he; injection he with he1 he2; subst he1; subst he2
      obtain ⟨h1, h2⟩ := run_bin (P := P) (w := w) (t := t) hv x y
      refine sim_pure r (v' := v0) ?_ (.val h2)
      simp only [execOp, hx.lit, hy.lit, Sem.run_bind] at h1 ⊢
      rw [h1]; rfl
    · cases he
  · cases he

theorem nilKind_spec {k : Nat} (hk : nilKind y = k) (h3 : k ≠ 3) : (k = 0 ∧ y = .const (.slice none 0 0)) ∨ (k = 1 ∧ y = .const (.pointer none)) ∨ (k = 2 ∧ y = .const .nilFunc) := by
  unfold nilKind at hk
  split at hk
  · exact .inl ⟨hk.symm, rfl⟩
  · exact .inr (.inl ⟨hk.symm, rfl⟩)
  · exact .inr (.inr ⟨hk.symm, rfl⟩)
  · exact absurd hk.symm h3

theorem equal_one (t : TypeId) (a b : Value) : Op.equal t a b = Op.equalIn 10000 t a b := rfl
theorem eqIn_nilslice {t e : TypeId} (hu : P.underlying t = some (.slice e)) (d : Nat) : (Op.equalIn (d + 1) t (.slice none 0 0) (.slice none 0 0)).run P w = .ok true w := by simp [Op.equalIn, run_under hu]
theorem eqIn_slice {t e : TypeId} (hu : P.underlying t = some (.slice e)) (d : Nat) (a : Addr) (n c : Nat) : (Op.equalIn (d + 1) t (.slice (some a) n c) (.slice none 0 0)).run P w = .ok false w := by simp [Op.equalIn, run_under hu]
theorem eqIn_nilptr {t e : TypeId} (hu : P.underlying t = some (.pointer e)) (d : Nat) : (Op.equalIn (d + 1) t (.pointer none) (.pointer none)).run P w = .ok true w := by simp [Op.equalIn, run_under hu]
theorem eqIn_ptr {t e : TypeId} (hu : P.underlying t = some (.pointer e)) (d : Nat) (a : Addr) : (Op.equalIn (d + 1) t (.pointer (some a)) (.pointer none)).run P w = .ok false w := by simp [Op.equalIn, run_under hu]
theorem eqIn_nilfunc {t : TypeId} {a b c} (hu : P.underlying t = some (.func a b c)) (d : Nat) : (Op.equalIn (d + 1) t .nilFunc .nilFunc).run P w = .ok true w := by simp [Op.equalIn, run_under hu]
theorem eqIn_func {t : TypeId} {a b c} (hu : P.underlying t = some (.func a b c)) (d : Nat) (f : Fn) (x y : Array Value) : (Op.equalIn (d + 1) t (.func f x y) .nilFunc).run P w = .ok false w := by simp [Op.equalIn, run_under hu]

theorem run_eqv {neg : Bool} {t : TypeId} {a yv : Value} {b : Bool} (hg : ∀ op, (eqGuard op t x y a yv).run P w = .ok () w) (h3 : binOp .eql t a yv = (do pure (.bool (← Op.equal t a yv)))) (h4 : binOp .neq t a yv = (do pure (.bool (!(← Op.equal t a yv)))))
    (hrun : (Op.equalIn 10000 t a yv).run P w = .ok b w) : ((do eqGuard (if neg then .neq else .eql) t x y a yv; binOp (if neg then .neq else .eql) t a yv : Sem Value)).run P w = .ok (.bool (if neg then !b else b)) w := by
  cases neg
  · simp only [Sem.run_bind, hg, Result.andThen_ok, Bool.false_eq_true, if_false, h3, equal_one, hrun, Sem.run_pure]
  · simp only [Sem.run_bind, hg, Result.andThen_ok, if_true, h4, equal_one, hrun, Sem.run_pure]

theorem sim_eqNil (r : Rels n0 B0 m h w) {neg : Bool} {t u : TypeId} {kd : Nat} (hk : nilKind y = kd) (ht : (kd = 0 ∧ ∃ e, P.underlying t = some (.slice e)) ∨ (kd = 1 ∧ ∃ e, P.underlying t = some (.pointer e)) ∨ (kd = 2 ∧ ∃ a b c, P.underlying t = some (.func a b c)))
    (hconst : ∀ v, y = .const v → ρ y = v) (hx : VR m (x'.ev s) (ρ x)) {v : AV} {h' : Heap} {top} (he : opEval top fl s h (.eqNil neg kd x') = some (v, h')) :
    Sim P n0 B0 fl m h w ρ ⟨d, .binOp (if neg then .neq else .eql) t x y u, ty, pos, af, gd⟩ v h' := by
  simp only [opEval] at he
  split at he
  · rename_i b hb
    injection he with he; injection he with he1 he2; subst he1; subst he2
    have key : ∀ a yv, ρ x = a → ρ y = yv → ((do eqGuard (if neg then .neq else .eql) t x y a yv; binOp (if neg then .neq else .eql) t a yv : Sem Value)).run P w = .ok (.bool (if neg then !b else b)) w →
        Sim P n0 B0 fl m h w ρ ⟨d, .binOp (if neg then .neq else .eql) t x y u, ty, pos, af, gd⟩ (.val (.bool (if neg then !b else b))) h := by
      intro a yv ha hy hrun
      refine sim_pure r (v' := .bool (if neg then !b else b)) ?_ (.val rfl)
      simp only [execOp, ha, hy, Sem.run_bind] at hrun ⊢
      rw [hrun]; rfl
    rcases ht with ⟨rfl, e, hu⟩ | ⟨rfl, e, hu⟩ | ⟨rfl, e1, e2, e3, hu⟩
    · obtain rfl : y = .const (.slice none 0 0) := by
        rcases nilKind_spec hk (by decide) with ⟨_, h1⟩ | ⟨h1, _⟩ | ⟨h1, _⟩ <;> first | exact h1 | omega
      have hy := hconst _ rfl
      generalize hq : x'.ev s = xv at hx hb
      generalize hv : ρ x = xv' at hx
      cases hx with
      | val hp =>
        have hb2 : xv' = .slice none 0 0 ∧ b = true := by
          unfold nilness at hb
          split at hb <;> simp_all
        obtain ⟨rfl, rfl⟩ := hb2
        exact key _ _ hv hy (run_eqv (fun op => by cases op <;> simp [eqGuard]) rfl rfl (eqIn_nilslice hu 9999))
      | slice =>
        have hb2 : b = false := by
          unfold nilness at hb
          split at hb <;> simp_all
        subst hb2
        exact key _ _ hv hy (run_eqv (fun op => by cases op <;> simp [eqGuard]) rfl rfl (eqIn_slice hu 9999 _ _ _))
      | hole =>
        have hb2 : b = false := by
          unfold nilness at hb
          split at hb <;> simp_all
        subst hb2
        exact key _ _ hv hy (run_eqv (fun op => by cases op <;> simp [eqGuard]) rfl rfl (eqIn_slice hu 9999 _ _ _))
      | _ => (simp [nilness] at hb)
    · obtain rfl : y = .const (.pointer none) := by
        rcases nilKind_spec hk (by decide) with ⟨h1, _⟩ | ⟨_, h1⟩ | ⟨h1, _⟩ <;> first | exact h1 | omega
      have hy := hconst _ rfl
      generalize hq : x'.ev s = xv at hx hb
      generalize hv : ρ x = xv' at hx
      cases hx with
      | val hp =>
        have hb2 : xv' = .pointer none ∧ b = true := by
          unfold nilness at hb
          split at hb <;> simp_all
        obtain ⟨rfl, rfl⟩ := hb2
        exact key _ _ hv hy (run_eqv (fun op => by cases op <;> simp [eqGuard]) rfl rfl (eqIn_nilptr hu 9999))
      | ptr =>
        have hb2 : b = false := by
          unfold nilness at hb
          split at hb <;> simp_all
        subst hb2
        exact key _ _ hv hy (run_eqv (fun op => by cases op <;> simp [eqGuard]) rfl rfl (eqIn_ptr hu 9999 _))
      | _ => (simp [nilness] at hb)
    · obtain rfl : y = .const .nilFunc := by
        rcases nilKind_spec hk (by decide) with ⟨h1, _⟩ | ⟨h1, _⟩ | ⟨_, h1⟩ <;> first | exact h1 | omega
      have hy := hconst _ rfl
      generalize hq : x'.ev s = xv at hx hb
      generalize hv : ρ x = xv' at hx
      cases hx with
      | val hp =>
        have hb2 : xv' = .nilFunc ∧ b = true := by
          unfold nilness at hb
          split at hb <;> simp_all
        obtain ⟨rfl, rfl⟩ := hb2
        exact key _ _ hv hy (run_eqv (fun op => by cases op <;> simp [eqGuard]) rfl rfl (eqIn_nilfunc hu 9999))
      | func =>
        have hb2 : b = false := by
          unfold nilness at hb
          split at hb <;> simp_all
        subst hb2
        exact key _ _ hv hy (run_eqv (fun op => by cases op <;> simp [eqGuard]) rfl rfl (eqIn_func hu 9999 _ _ _))
      | _ => (simp [nilness] at hb)
  · cases he

theorem sim_eqBool (r : Rels n0 B0 m h w) {neg : Bool} {t u : TypeId} (hu : P.underlying t = some .bool) (hx : VR m (x'.ev s) (ρ x)) (hy : VR m (y'.ev s) (ρ y)) {v : AV} {h' : Heap} {top} (he : opEval top fl s h (.eqBool neg x' y') = some (v, h')) :
    Sim P n0 B0 fl m h w ρ ⟨d, .binOp (if neg then .neq else .eql) t x y u, ty, pos, af, gd⟩ v h' := by
  simp only [opEval] at he
  split at he
  · rename_i a b hp hq
    rw [hp] at hx; rw [hq] at hy
    injection he with he; injection he with he1 he2; subst he1; subst he2
    refine sim_pure r (v' := .bool (if neg then !(a == b) else a == b)) ?_ (.val rfl)
    have hrun := run_eqv (P := P) (w := w) (x := x) (y := y) (neg := neg) (t := t) (a := .bool a) (yv := .bool b) (fun op => by cases op <;> simp [eqGuard]) rfl rfl (run_equalIn_bool' w 9999 t a b hu)
    simp only [execOp, hx.bool, hy.bool, Sem.run_bind] at hrun ⊢
    rw [hrun]; rfl
  · cases he

theorem sameV_spec {t : TypeId} {tag : Nat} (ht : tagT P t = some tag) {a b : Value} {c : Bool} (hs : sameV tag a b = some c) (d : Nat) : (Op.equalIn (d + 1) t a b).run P w = .ok c w := by
  unfold tagT at ht
  unfold sameV at hs
  split at hs
  · split at hs
    · rename_i hk; subst hk
      injection hs with hs; subst hs
      split at ht <;> first | (injection ht with ht; omega) | cases ht | skip
      · rename_i hu
        rw [run_equalIn_int w d t _ _ _ _ hu]; rfl
      all_goals (simp at ht)
    · cases hs
  · injection hs with hs; subst hs
    split at ht <;> first | (simp at ht; done) | skip
    rename_i hu
    exact run_equalIn_bool' w d t _ _ hu
  · injection hs with hs; subst hs
    split at ht <;> first | (simp at ht; done) | skip
    rename_i hu
    rw [run_equalIn_string w d t _ _ hu, bytes_eq]
  · cases hs

theorem sameCells_spec {d : Nat} (xs ys : Array Value) : ∀ (fs : List Field) (j : Nat) (ts : List Nat) (cs ds : List AV) (c : Bool), flatFrom P j fs = some ts → sameCells ts cs ds = some c → VRs m cs (xs.toList.drop j) → VRs m ds (ys.toList.drop j) →
    (Op.eqFields (d + 1) xs ys fs).run P w = .ok c w
  | [], j, ts, cs, ds, c, h1, h2, h3, h4 => by
    simp only [flatFrom, Option.some.injEq] at h1; subst h1
    unfold sameCells at h2
    split at h2
    · injection h2 with h2; subst h2; simp [Op.eqFields]
    · rename_i heq; cases heq
    · cases h2
  | f :: fs, j, ts, cs, ds, c, h1, h2, h3, h4 => by
    simp only [flatFrom] at h1
    split at h1
    · rename_i hc
      split at h1
      · rename_i tag htag
        obtain ⟨ts', h5, rfl⟩ := Option.map_eq_some_iff.1 h1
        unfold sameCells at h2
        split at h2
        · rename_i heq; cases heq
        · rename_i t0 ts0 a x b y heq
          injection heq with e1 e2; subst e1; subst e2
          split at h2
          · rename_i c0 hc0
            split at h2
            · rename_i c1 hc1
              injection h2 with h2; subst h2
              obtain ⟨hn, ho⟩ := hc
              have hxa : xs[j]? = some a := by
                obtain ⟨u, hu, hr⟩ := h3.get (i := 0) (x := .val a) rfl
                rw [hr.lit] at hu
                simpa [List.getElem?_drop] using hu
              have hyb : ys[j]? = some b := by
                obtain ⟨u, hu, hr⟩ := h4.get (i := 0) (x := .val b) rfl
                rw [hr.lit] at hu
                simpa [List.getElem?_drop] using hu
              have hag : (isAgg f.type).run P w = .ok false w := by
                unfold tagT at htag
                split at htag <;> first | cases htag | skip
                all_goals (rename_i hu; simp [isAgg, run_under hu])
              have ih := sameCells_spec (d := d) xs ys fs (j + 1) ts' x y c1 h5 hc1 (by simpa [List.drop_drop, Nat.add_comm] using h3.drop 1) (by simpa [List.drop_drop, Nat.add_comm] using h4.drop 1)
              simp only [Op.eqFields, hn, ne_eq, not_false_eq_true, if_true, Sem.run_bind, part, hag, Result.andThen_ok, Bool.false_eq_true, if_false, ho, hxa, hyb, Sem.run_pure, sameV_spec htag hc0]
              cases c0 <;> simp [ih]
            · cases h2
          · cases h2
        · cases h2
      · cases h1
    · cases h1

theorem sim_eqAgg (r : Rels n0 B0 m h w) {neg : Bool} {t u : TypeId} {ks : List Nat} (hf : flatT P t = some ks) (hx : VR m (x'.ev s) (ρ x)) (hy : VR m (y'.ev s) (ρ y)) {v : AV} {h' : Heap} {top} (he : opEval top fl s h (.eqAgg neg ks x' y') = some (v, h')) :
    Sim P n0 B0 fl m h w ρ ⟨d, .binOp (if neg then .neq else .eql) t x y u, ty, pos, af, gd⟩ v h' := by
  simp only [opEval] at he
  split at he
  · rename_i a b hp hq
    rw [hp] at hx; rw [hq] at hy
    obtain ⟨xs, hxs, hvx⟩ := VRs.of_agg hx
    obtain ⟨ys, hys, hvy⟩ := VRs.of_agg hy
    split at he
    · rename_i c hc
      injection he with he; injection he with he1 he2; subst he1; subst he2
      unfold flatT at hf
      split at hf
      · rename_i fs hu
        split at hf
        · rename_i hcond
          have hfo : P.fieldsOf t = fs := by simp [Program.fieldsOf, hu]
          have hrun : (Op.equalIn 10000 t (.agg xs) (.agg ys)).run P w = .ok c w := by
            rw [run_equalIn_agg w 9999 t xs ys (by rw [hfo]; exact hu) hcond.1, hfo]
            exact sameCells_spec xs ys fs.toList 0 ks a b c hf hc (by simpa using hvx) (by simpa using hvy)
          refine sim_pure r (v' := .bool (if neg then !c else c)) ?_ (.val rfl)
          cases neg
          · simp only [execOp, hxs, hys, Sem.run_bind, run_eqGuard_agg w _ t x y xs ys hcond.2, Result.andThen_ok, Bool.false_eq_true, if_false, run_eql_struct, hrun, Sem.run_pure]
          · simp only [execOp, hxs, hys, Sem.run_bind, run_eqGuard_agg w _ t x y xs ys hcond.2, Result.andThen_ok, if_true, run_neq_struct, hrun, Sem.run_pure]
        · cases hf
      · cases hf
    · cases he
  · cases he
end
end Go.Proofs.Ytpmmiaadfnildaa
