/-
  Proved: WHERE WHAT IT READS IS OF BULK AT MOST 1048576 the law OrderWritten answers true.
-/
import Derived.Deep.CondSized
import Derived.Test.YthakklmbchnohaaMrA1
import Derived.Test.YthakklmbchnohaaMrA9
namespace Go.Proofs.Ythakklmbchnohaa
open Go.RowKit Go.ChangeShapes Go.WideShapes Go.ChangeAt
set_option linter.unusedVariables false
set_option linter.unusedSimpArgs false

/-- How many data there are, each counted once, a list one more. -/
def cnt : (t : Ty) → t.val → Nat
  | .int _, _ => 1
  | .bool, _ => 1
  | .str, _ => 1
  | .unit, _ => 0
  | .prod a b, x => cnt a x.1 + cnt b x.2
  | .slice _ e, l => (l.map (cnt e)).sum + 1

section
variable {H : Type} {enc : TypeId × Value → H} {P : Program} {w : World} {B : Nat}

theorem bulk_pos (d : DataW H) : 1 ≤ Rows.uptoBulk d := by
  cases d with
  | lit l => cases l <;> simp [Rows.uptoBulk]
  | _ => simp [Rows.uptoBulk]
theorem bulkAll_app (a b : List (DataW H)) : Rows.uptoBulkAll (a ++ b) = Rows.uptoBulkAll a + Rows.uptoBulkAll b := by
  induction a with
  | nil => simp [Rows.uptoBulkAll]
  | cons x r ih => simp only [List.cons_append, Rows.uptoBulkAll, ih]; omega
theorem bulkAll_mem {d : DataW H} {l : List (DataW H)} (h : d ∈ l) : Rows.uptoBulk d ≤ Rows.uptoBulkAll l := by
  induction l with
  | nil => cases h
  | cons x r ih =>
    simp only [Rows.uptoBulkAll]
    rcases List.mem_cons.1 h with rfl | h
    · omega
    · have := ih h; omega

theorem cnt_fields (g : TypeId → Option Ty) (n : Nat)
    (ih : ∀ (t : TypeId) (ty : Ty), g t = some ty → ∀ (cs : List Value) (d : DataW H) (ps : List MemPlace) (x : ty.val), DataW.trod enc P w 0 (fun _ => true) true n t cs = some (d, ps) → Has w B ty cs x → cnt ty x ≤ Rows.uptoBulk d) :
    ∀ (fs : List Field) (acc : Nat) (ts : List Ty) (xs : List (DataW H × List MemPlace)) (cs : List Value) (x : (prodAll ts).val), fieldsTy P g acc fs = some ts → xs.length = fs.length →
      (∀ (i : Nat) (f : Field), fs[i]? = some f → DataW.trod enc P w 0 (fun _ => true) true n f.type ((cs.drop f.offset).take (P.cellsOf f.type)) = xs[i]?) →
      Has w B (prodAll ts) (cs.drop acc) x → cnt (prodAll ts) x ≤ Rows.uptoBulkAll (xs.map (·.1)) := by
  intro fs
  induction fs with
  | nil =>
    intro acc ts xs cs x h1 h2 _ _
    simp only [fieldsTy, Option.some.injEq] at h1
    subst h1
    simp [prodAll, cnt]
  | cons f r ihf =>
    intro acc ts xs cs x h1 h2 h4 hh
    simp only [fieldsTy] at h1
    split at h1
    · rename_i ty hty
      split at h1
      · rename_i hoc
        obtain ⟨ho, hc⟩ := hoc
        obtain ⟨ts', hts', rfl⟩ := Option.map_eq_some_iff.1 h1
        match xs, h2 with
        | y :: ys, h2 =>
        have hy := h4 0 f rfl
        simp only [List.getElem?_cons_zero] at hy
        rw [ho, hc] at hy
        have h4' : ∀ (i : Nat) (f' : Field), r[i]? = some f' → DataW.trod enc P w 0 (fun _ => true) true n f'.type ((cs.drop f'.offset).take (P.cellsOf f'.type)) = ys[i]? :=
          fun i f' hf' => by have := h4 (i + 1) f' (by simpa using hf'); simpa using this
        simp only [List.map_cons, Rows.uptoBulkAll]
        match ts', hts', x, hh with
        | [], hts', x, hh =>
          simp only [prodAll] at hh x ⊢
          have hl := hh.size
          have e : (cs.drop acc).take ty.size = cs.drop acc := by rw [← hl]; exact List.take_length
          rw [e] at hy
          have := ih f.type ty hty _ y.1 y.2 x (by rw [hy]) hh
          omega
        | b :: r', hts', x, hh =>
          simp only [prodAll] at hh x ⊢
          obtain ⟨c, d, hcd, h5, h6⟩ := hh
          have hl := h5.size
          have e1 : (cs.drop acc).take ty.size = c := by rw [hcd, ← hl, List.take_left]
          have e2 : cs.drop (acc + ty.size) = d := by rw [← List.drop_drop, hcd, ← hl, List.drop_left]
          rw [e1] at hy
          have k1 := ih f.type ty hty _ y.1 y.2 x.1 (by rw [hy]) h5
          have k2 := ihf (acc + ty.size) (b :: r') ys cs x.2 hts' (by simpa using h2) h4' (by rw [e2]; exact h6)
          simp only [cnt]
          omega
      · cases h1
    · cases h1

theorem sum_le {α : Type} (f : α → Nat) (l : List α) (D : Nat → DataW H) (h : ∀ i (hi : i < l.length), f l[i] ≤ Rows.uptoBulk (D i)) : (l.map f).sum ≤ Rows.uptoBulkAll ((List.range l.length).map D) := by
  have key : ∀ (l : List α) (a : Nat), (∀ i (hi : i < l.length), f l[i] ≤ Rows.uptoBulk (D (a + i))) → (l.map f).sum ≤ Rows.uptoBulkAll ((List.range' a l.length).map D) := by
    intro l
    induction l with
    | nil => intro a _; simp
    | cons x r ih =>
      intro a h
      have h0 := h 0 (by simp)
      have h1 := ih (a + 1) (fun i hi => by have := h (i + 1) (by simpa using hi); rw [show a + 1 + i = a + (i + 1) by omega]; simpa using this)
      simp only [List.map_cons, List.sum_cons, List.length_cons, List.range'_succ, Rows.uptoBulkAll]
      simp only [List.getElem_cons_zero, Nat.add_zero] at h0
      omega
  rw [List.range_eq_range']
  exact key l 0 (fun i hi => by simpa using h i hi)

theorem cnt_trod : ∀ (m : Nat) (t : TypeId) (ty : Ty), tyOf P m t = some ty → ∀ (n : Nat) (cs : List Value) (d : DataW H) (ps : List MemPlace) (x : ty.val),
    DataW.trod enc P w 0 (fun _ => true) true n t cs = some (d, ps) → Has w B ty cs x → cnt ty x ≤ Rows.uptoBulk d := by
  intro m
  induction m with
  | zero => intro t ty h; cases h
  | succ m ih =>
    intro t ty h n cs d ps x htr hh
    simp only [tyOf] at h
    split at h
    · injection h with h; subst h; exact bulk_pos d
    · injection h with h; subst h; exact bulk_pos d
    · injection h with h; subst h; exact bulk_pos d
    · rename_i e hk
      split at h
      · rename_i ety hety
        split at h
        · rename_i hc
          injection h with h
          subst h
          obtain ⟨A, cap0, rfl, h1, h2, h3, h4⟩ := hh
          rcases Go.Deep.open_slice hk htr with ⟨he, h0⟩ | ⟨a, len, cap, m', n', D, Pl, he, _, hl, hm, hmm, hx, hi⟩
          · simp only [Prod.mk.injEq] at h0
            have : x = [] := by
              simp only [List.cons.injEq, Value.slice.injEq] at he
              exact List.eq_nil_of_length_eq_zero he.1.2.1
            subst this
            simp only [cnt, List.map_nil, List.sum_nil]
            exact bulk_pos d
          · simp only [if_true] at hmm
            subst hmm
            simp only [Prod.mk.injEq] at hx
            obtain ⟨rfl, rfl⟩ := hx
            simp only [List.cons.injEq, Value.slice.injEq, and_true] at he
            obtain ⟨rfl, hlen, hcap⟩ := he
            subst hlen
            simp only [cnt, Rows.uptoBulk]
            have := sum_le (cnt ety) x D (fun i hil => by
              obtain ⟨b, off, hA, _, hel⟩ := h4 (fun h => by subst h; simp at hil)
              obtain ⟨ecs, e1, e2, e3⟩ := hel i hil
              obtain ⟨cs', hcs', ht'⟩ := hi i (by omega)
              obtain ⟨_, hcl, hat⟩ := World.cells?_some hcs'
              rw [hc.1] at hcl hat
              simp only [Option.some.injEq] at hA
              subst hA
              have : ecs = cs' := by
                apply List.ext_getElem?
                intro j
                by_cases hj : j < ety.size
                · rw [← e2 j hj, ← hat j hj, Go.Deep.add_add]
                  congr 1
                  unfold Addr.add
                  simp [Nat.add_assoc]
                · rw [List.getElem?_eq_none (by omega), List.getElem?_eq_none (by omega)]
              subst this
              exact ih e ety hety n' ecs (D i) (Pl i) x[i] ht' e3)
            omega
        · cases h
      · cases h
    · rename_i fs hk
      split at h
      · rename_i ts hts
        split at h
        · rename_i hc
          injection h with h
          subst h
          obtain ⟨xs, n', _, hx, hcl, hxl, hf⟩ := DataW.trod_struct hk htr
          simp only [Prod.mk.injEq] at hx
          obtain ⟨rfl, rfl⟩ := hx
          simp only [Rows.uptoBulk]
          have := cnt_fields (enc := enc) (P := P) (w := w) (B := B) (tyOf P m) n' (fun t ty h cs d ps x h1 h2 => ih t ty h n' cs d ps x h1 h2) fs.toList 0 ts xs cs x hts (by simpa using hxl)
            (fun i f hif => hf i f (by simpa using hif)) (by simpa using hh)
          omega
        · cases h
      · cases h
    · cases h

/-- The arguments' data, each of a bulk no greater than N. -/
def SizedUp (N : Nat) (t : Ty) (x : t.val) : Prop := Sized t x ∧ cnt t x ≤ N

theorem argsHoldUp_of {N : Nat} (m : Nat) : ∀ (ts : List TypeId) (tys : List (Bool × Ty)), argTys P m ts = some tys → ∀ (vs : List Value) (ds : List (DataW H)) (ps : List MemPlace) (r : Go.Reach) (b0 : Nat),
    (∀ (j : Nat) t v, ts[j]? = some t → vs[j]? = some v → Value.okWide P w r b0 t v) → DataW.TrodAll enc P w 0 (fun _ => true) true ts vs ds ps → (∀ p ∈ ps, p.block < B) →
    (∀ k ∈ DataW.weightsEach P ts ds, k ≤ reachBytes) → (∀ d ∈ ds, Rows.uptoBulk d ≤ N) → ArgsHoldQ (SizedUp N) w B tys vs := by
  intro ts
  induction ts with
  | nil =>
    intro tys h vs ds ps r b0 _ htr _ _ _
    simp only [argTys, Option.some.injEq] at h
    subst h
    exact (trodAll_nil htr).1
  | cons t ts ih =>
    intro tys h vs ds ps r b0 hok htr hps hwt hN
    simp only [argTys] at h
    split at h
    · rename_i ty l hty hl
      injection h with h; subst h
      obtain ⟨v, vs', d, ds', p, q, rfl, rfl, rfl, h0, h1⟩ := trodAll_cons htr
      simp only [DataW.weightsEach] at hwt
      obtain ⟨cs, x, e, rfl, hx, hs⟩ := has_of_arg m hty (hok 0 t v rfl rfl) h0 (fun y hy => hps y (by simp [hy])) (fun k hk => hwt k (by simp [hk]))
      refine ⟨cs, x, vs', rfl, hx, ⟨hs, ?_⟩, ih l hl vs' ds' q r b0 (fun j t v h1 h2 => hok (j + 1) t v (by simpa using h1) (by simpa using h2)) h1 (fun y hy => hps y (by simp [hy])) (fun k hk => hwt k (by simp [hk])) (fun y hy => hN y (by simp [hy]))⟩
      obtain ⟨n, hn⟩ := h0
      rw [e] at hn
      exact Nat.le_trans (cnt_trod m t ty hty n cs d p x hn hx) (hN d (by simp))
    · cases h

/-- THE FRAME: a law that answers true and turns nothing that was there, where what it reads is of small bulk. -/
theorem law_lifted_upto {C : Checked} {os : Os} {f : FuncId} {fn : Func} {s : ChangeSpec} (m : Nat) (tys : List (Bool × Ty)) (tb : TypeId)
    (own : ownKnob C.prog.godebug = none) (hlo : laidOutB C.prog = true) (started : os.Started) (noInit : C.prog.inits.idxOf? f = none) (hfn : C.prog.funcs[f]? = some fn)
    (witness : ∃ (w : World) (tape : Tape) (i : Input), w.os = os ∧ (w.forCall tape i).Shaped C.prog ∧ i.vars = [] ∧ Input.okWide C.prog (w.forCall tape i) .any w.heap.size f i ∧
      (Rows.OpenSpec.upto s).pre6 enc C.prog fn [] false (w.forCall tape i).memory i.args ∧ ({} : Assume).holds C.prog (lone (Frame.enter C.prog f i.args .normal) [] (w.forCall tape i)))
    (hvars : s.vars = []) (hres : fn.resultTypes = #[tb]) (htb : C.prog.underlying tb = some .bool)
    (hspec : ∀ ds : List (DataW H), ds.length = fn.params.size → s.fn H ds = { results := [.lit (.bool true)], args := ds })
    (hread : fn.params.all (fun t => C.prog.readableRec t && decide (t < C.prog.types.size)) = true)
    (htys : argTys C.prog m fn.params.toList = some tys)
    (walk : ∀ (W : World) (args : Array Value), ArgsHoldQ (SizedUp 1048576) W W.heap.size tys args.toList → Calls C.prog f args W fun e W' => e = .returned (.bool true) ∧ Below W.heap.size W W')
    (F : Stop.Interp) :
    ReturnsInHanded {} C os f .any ((Rows.OpenSpec.upto s).pre6 enc C.prog fn [] false) (((Rows.OpenSpec.upto s).at F).post enc C.prog fn false true false false) := by
  refine returnsInHanded_of_cond_sized (s := Rows.OpenSpec.upto s) (k := Rows.uptoSmall) rfl own started noInit hfn witness ?_
  intro W base args ds gs before hval hW _ hk hsz _
  have hW' := hW
  obtain ⟨p, q, hA, hV, rfl, _, _⟩ := hW
  have hvars' : (Rows.OpenSpec.upto s).vars = [] := hvars
  rw [hvars'] at hV
  obtain ⟨rfl, rfl⟩ := trodVars_none hV
  simp only [List.append_nil] at hsz hW' hk
  have hvt : (Rows.OpenSpec.upto s).bare.plain.varTypes C.prog = [] := by
    have e : (Rows.OpenSpec.upto s).bare.plain.vars = [] := hvars
    simp [DataSpec.varTypes, e]
  rw [hvt, List.append_nil] at hsz
  have hlt : ∀ x ∈ p, x.block < W.heap.size := fun x hx => by simpa using hW'.lt x hx
  have hlen : ds.length = fn.params.size := by
    have : ∀ (ts : List TypeId) (vs : List Value) (ds : List (DataW H)) (ps : List MemPlace), DataW.TrodAll enc C.prog W 0 (fun _ => true) true ts vs ds ps → ds.length = ts.length := by
      intro ts
      induction ts with
      | nil => intro vs ds ps h; obtain ⟨_, rfl, _⟩ := trodAll_nil h; rfl
      | cons t ts ih =>
        intro vs ds ps h
        obtain ⟨v, vs', d, ds', p, q, rfl, rfl, rfl, h0, h1⟩ := trodAll_cons h
        simp [ih _ _ _ h1]
    simpa using this _ _ _ _ hA
  have hbulk : Rows.uptoBulkAll ds ≤ 1048576 := by simpa [Rows.uptoSmall] using hk
  have hargs := argsHoldUp_of (N := 1048576) (B := W.heap.size) m fn.params.toList tys htys args.toList ds p .any base (fun j t v h1 h2 => hval j t v (by simpa using h1) (by simpa using h2)) hA hlt
    (fun k hk => by simpa using List.all_eq_true.1 hsz k hk) (fun d hd => Nat.le_trans (bulkAll_mem hd) hbulk)
  refine (walk W args hargs).mono fun e W' ⟨he, hb⟩ => ⟨_, he, ds, [], p, [], p, [], hW', ?_, ?_, ?_, hb.frame _, fun h => by cases h⟩
  · rw [List.append_nil]
    show DataW.TrodAll enc C.prog W' _ _ _ _ _ (s.fn H ds).results _
    rw [hspec ds hlen, hres]
    exact trodAll_mk1 (shut_bool htb true)
  · rw [List.append_nil]
    show DataW.TrodAll enc C.prog W' _ _ _ _ _ (s.fn H ds).args _
    rw [hspec ds hlen]
    refine trodAll_below hlo hb fn.params.toList (fun t ht => ?_) args.toList ds p hA hlt
    have := Array.all_eq_true_iff_forall_mem.1 hread t (by simpa using ht)
    simpa using this
  · rw [List.append_nil]
    show DataW.TrodVars enc C.prog W' _ (Rows.OpenSpec.upto s).vars (s.fn H ds).vars _
    rw [hspec ds hlen, hvars']
    rfl
end
end Go.Proofs.Ythakklmbchnohaa

namespace Go.Proofs.Ythakklmbchnohaa
open Go Go.RowKit Go.ChangeShapes Go.WideShapes Go.ChangeAt
set_option linter.unusedVariables false
set_option linter.unusedSimpArgs false
abbrev tyI : Ty := .int .i64
abbrev tyRP : Ty := .prod tyI tyI
abbrev tyRS : Ty := .prod tyI tyRP
abbrev tyRM : Ty := .prod tyRP (.prod tyI (.prod tyI (.slice 16 tyRP)))
abbrev tyRX : Ty := .prod tyI (.prod tyI (.prod (.slice 24 tyRS) (.slice 56 tyRM)))
abbrev tyRd : Ty := .prod tyI (.prod tyI (.prod tyI (.prod tyI (.prod tyI (.prod tyI (.prod tyI tyI))))))
abbrev tyCd : Ty := .prod tyI (.prod tyI (.prod tyI (.prod tyI (.prod (.slice 64 tyRd) (.prod (.slice 64 tyRX) (.prod tyRX tyRX))))))
def oM (m : tyRM.val) : OMk := (m.1.1, m.1.2, m.2.1, m.2.2.1, m.2.2.2)
def oX (x : tyRX.val) : OXt := (x.1, x.2.1, x.2.2.1, x.2.2.2.map oM)
def oC (x : tyCd.val) : Cd := ⟨x.1, x.2.1, x.2.2.1, x.2.2.2.1, x.2.2.2.2.1, x.2.2.2.2.2.1.map oX, oX x.2.2.2.2.2.2.1, oX x.2.2.2.2.2.2.2, false, false⟩
theorem encM : enc tyRM = fun m => eRM (oM m) := rfl
theorem encX : enc tyRX = fun x => eRX (oX x) := by
  funext x
  show [Z64 x.1, Z64 x.2.1, .fz 3 false (x.2.2.1.map (enc tyRS)), .fz 5 false (x.2.2.2.map (enc tyRM))] = _
  rw [encM]
  unfold oX eRX
  simp only [List.map_map]
  rfl
theorem encC (x : tyCd.val) : enc tyCd x = eCd (oC x) := by
  show [Z64 x.1, Z64 x.2.1, Z64 x.2.2.1, Z64 x.2.2.2.1, .fz 8 false (x.2.2.2.2.1.map (enc tyRd)), .fz 4 false (x.2.2.2.2.2.1.map (enc tyRX))] ++ (enc tyRX x.2.2.2.2.2.2.1 ++ enc tyRX x.2.2.2.2.2.2.2) = _
  rw [encX]
  unfold oC eCd
  simp only [List.map_map]
  rfl
theorem sum_geO {α : Type} (f : α → Nat) (h : ∀ x, 1 ≤ f x) (l : List α) : l.length ≤ (l.map f).sum := by
  induction l with
  | nil => simp
  | cons x r ih => have := h x; simp only [List.length_cons, List.map_cons, List.sum_cons]; omega
theorem mem_sumO {α : Type} (f : α → Nat) {l : List α} {x : α} (h : x ∈ l) : f x ≤ (l.map f).sum := by
  induction l with
  | nil => cases h
  | cons y r ih =>
    simp only [List.map_cons, List.sum_cons]
    rcases List.mem_cons.1 h with rfl | h
    · omega
    · have := ih h; omega
theorem OXB_of {x : tyRX.val} {N : Nat} (hN : N ≤ 1048576) (h : cnt tyRX x ≤ N) : OXB (oX x) := by
  have e : cnt tyRX x = 1 + (1 + (((x.2.2.1.map (cnt tyRS)).sum + 1) + ((x.2.2.2.map (cnt tyRM)).sum + 1))) := rfl
  have h1 := sum_geO (cnt tyRS) (fun x => by simp only [cnt]; omega) x.2.2.1
  have h2 := sum_geO (cnt tyRM) (fun x => by simp only [cnt]; omega) x.2.2.2
  refine ⟨by simp only [oX]; omega, by simp only [oX, List.length_map]; omega, fun m hm => ?_⟩
  simp only [oX, List.mem_map] at hm
  obtain ⟨m0, hm0, rfl⟩ := hm
  have h3 := mem_sumO (cnt tyRM) hm0
  have e2 : cnt tyRM m0 = (1 + 1) + (1 + (1 + ((m0.2.2.2.map (cnt tyRP)).sum + 1))) := rfl
  have h4 := sum_geO (cnt tyRP) (fun x => by simp only [cnt]; omega) m0.2.2.2
  simp only [oM]
  omega
theorem CdB_of {x : tyCd.val} {N : Nat} (hN : N ≤ 1048576) (h : cnt tyCd x ≤ N) : CdB (oC x) := by
  have e : cnt tyCd x = 1 + (1 + (1 + (1 + (((x.2.2.2.2.1.map (cnt tyRd)).sum + 1) + (((x.2.2.2.2.2.1.map (cnt tyRX)).sum + 1) + (cnt tyRX x.2.2.2.2.2.2.1 + cnt tyRX x.2.2.2.2.2.2.2)))))) := rfl
  have h1 := sum_geO (cnt tyRd) (fun x => by simp only [cnt]; omega) x.2.2.2.2.1
  have h2 := sum_geO (cnt tyRX) (fun x => by simp only [cnt]; omega) x.2.2.2.2.2.1
  refine ⟨by simp only [oC]; omega, by simp only [oC, List.length_map]; omega, fun y hy => ?_⟩
  simp only [exsL, oC, List.mem_cons, List.mem_map] at hy
  rcases hy with rfl | rfl | ⟨y0, hy0, rfl⟩
  · exact OXB_of (N := N) hN (by omega)
  · exact OXB_of (N := N) hN (by omega)
  · have := mem_sumO (cnt tyRX) hy0
    exact OXB_of (N := N) hN (by omega)
end Go.Proofs.Ythakklmbchnohaa

namespace Go.Proofs.Ythakklmbchnohaa
open Go Go.RowKit
set_option linter.unusedVariables false
set_option linter.unusedSimpArgs false
variable {L : Nat → Bool} {H : ZH} {K : ZV → ZH → Prop}
theorem regs_set {l : List Bool} {m : Nat} (hm : m < l.length) : setAt (l.map ZBo) m [ZBo true] = (l.set m true).map ZBo := by
  unfold setAt
  rw [List.map_set, List.set_eq_take_append_cons_drop, if_pos (by simpa using hm)]
  simp
def WrI (H : ZH) (c : Cd) (k : Nat) (h' : ZH) : Prop := ∃ X, h' = H ++ (.box (eCd c) :: .box ((wAtK c k).regs.map ZBo) :: X)
set_option maxHeartbeats 8000000 in
theorem orderwritten_z {c : Cd} (hB : CdB c) (hK : K (ZBo true) H) : ZC (boxY tbO) (cFunc Try.prog) 4 [.agg (eCd c)] L H K := by
  refine ZC.enterL Gh.no (boxY_none (by decide)) f_or_written (by simp) fun hL => ?_
  simp only [c_or_written]
  have F0 := Lib.hid (show ∀ X, Fin H (ZBo true) (H ++ X) K from fun X => Fin.trunc (Mods.ext H X) rfl (by rw [List.take_left]; exact hK))
  have HB := Lib.hid hB
  clear hK hB
  have a00 : ∀ A Y, (H ++ (A :: Y))[H.length]? = some A := fun A Y => atN0 rfl A Y
  have a1 : ∀ A B Y, (H ++ (A :: B :: Y))[H.length + 1]? = some B := fun A B Y => atN1 rfl A B Y
  have l1 : L (H.length + 1) = true := hL 1
  have hno := HB.out.ords
  have hle : c.ords.length < 9223372036854775807 := by omega
  have hok := check_ok (c := c)
  have HOK := Lib.hid hok
  have HWI := Lib.hid (fun k => (rfl : WrI H c k = WrI H c k))
  clear hok hno
  have hox : checkB c = 0 → ∀ (k : Nat) x, c.ords[k]? = some x → (∀ r ∈ readsO x, (0 ≤ r ∧ r < 8) ∧ (wAtK c k).regs.getD r.toNat false = true) ∧ (0 ≤ writesO x → writesO x < 8) ∧ wAtK c (k + 1) = wrO (wAtK c k) x := fun h k x hx => by
    have ho := order_ok.1 ((check_ok.1 h).ord k x hx)
    refine ⟨fun r hr => ?_, fun hw => ?_, wAtK_succ hx⟩
    · have := ho.reads r hr
      unfold regOk at this
      simp only [Bool.and_eq_true, decide_eq_true_eq] at this
      exact this
    · unfold writesO at hw ⊢
      split at hw
      · rename_i hwr
        rw [if_pos hwr]
        exact (right_wr ho.right hwr).2
      · omega
  have HOX := Lib.hid hox
  clear hox
  have hw8 := fun k => (wAtK_len (c := c) (k := k)).1
  have HW8 := Lib.hid hw8
  clear hw8
  have hw0 : (wAtK c 0).regs = List.replicate 8 false := rfl
  obtain ⟨wk, hwk⟩ : ∃ wk, wk = fun k => (wAtK c k).regs := ⟨_, rfl⟩
  have HWK := Lib.hid (show ∀ k, (wAtK c k).regs = wk k from fun k => by rw [hwk])
  clear hwk
  obtain ⟨fn, pl, lp, slc, ords, exs, turn, back, xo, xe⟩ := c
  simp only at hle
  repeat' (first | (simp only [zmPack, zxPack, ne_eq, zfree, owners, Nat.reduceLT, List.contains_cons, List.contains_nil, Nat.reduceBEq, BEq.rfl, chunk, setAt, List.lookup_cons, List.lookup_nil, reduceCtorEq, Nat.reduceEqDiff, reduceIte, implies_true, forall_const, Nat.reduceMul, Nat.reduceSub, Nat.reduceAdd, Nat.reduceLeDiff, a00, *]) | (simp only [zgoO, zgoG, zO_nil, zthen_normal, zgoC]) | (with_reducible apply And.intro) | (with_reducible intro _))
  refine ordered_z ?_
  repeat' (first | (simp only [zmPack, zxPack, ne_eq, zfree, owners, Nat.reduceLT, List.contains_cons, List.contains_nil, Nat.reduceBEq, BEq.rfl, chunk, setAt, List.lookup_cons, List.lookup_nil, reduceCtorEq, Nat.reduceEqDiff, reduceIte, implies_true, forall_const, Nat.reduceMul, Nat.reduceSub, Nat.reduceAdd, Nat.reduceLeDiff, a00, *]) | (simp only [zgoO, zgoG, zO_nil, zthen_normal, zgoC]) | (with_reducible apply And.intro) | (with_reducible intro _))
  refine check_z (c := ⟨fn, pl, lp, slc, ords, exs, turn, back, xo, xe⟩) HB.out ?_
  by_cases h0 : checkB ⟨fn, pl, lp, slc, ords, exs, turn, back, xo, xe⟩ = 0
  · have HX := Lib.hid (HOX.out h0)
    rw [h0]
    clear h0 HOX
    repeat' (first | (simp only [zmPack, zxPack, ne_eq, zfree, owners, Nat.reduceLT, List.contains_cons, List.contains_nil, Nat.reduceBEq, BEq.rfl, chunk, setAt, List.lookup_cons, List.lookup_nil, reduceCtorEq, Nat.reduceEqDiff, reduceIte, implies_true, forall_const, Nat.reduceMul, Nat.reduceSub, Nat.reduceAdd, Nat.reduceLeDiff, a00, *]) | (simp only [zgoO, zgoG, zO_nil, zthen_normal, zgoC]) | (with_reducible apply And.intro) | (with_reducible intro _))
    refine zW_forK [(1, .ptr H.length 0), (3, .ptr (H.length + 1) 0), (16, .fz 8 xo (ords.map eRd))] ords.length (fun k s' h' => ∃ X, h' = H ++ (.box (eCd ⟨fn, pl, lp, slc, ords, exs, turn, back, xo, xe⟩) :: .box ((wk k).map ZBo) :: X)) (by omega) ⟨rfl, rfl, rfl, rfl, rfl, rfl⟩ rfl rfl (by repeat' (first | exact trivial | (refine ⟨rfl, ?_⟩) | (refine ⟨by simp only [zupd_at, Nat.reduceEqDiff, reduceIte]; assumption, ?_⟩))) rfl rfl (by decide) ⟨[], by rw [← HWK.out, hw0]; rfl⟩ ?_ ?_
    · rintro k s' h' hk ⟨X, rfl⟩ hi hl ⟨f1, f3, f16, -⟩
      have hx : ords[k]? = some ords[k] := List.getElem?_eq_getElem hk
      obtain ⟨x, hxe⟩ : ∃ x, x = ords[k] := ⟨_, rfl⟩
      rw [← hxe] at hx
      clear hxe
      obtain ⟨u1, u2, u3⟩ := HX.out k x hx
      have hwn : wk (k + 1) = if 0 ≤ writesO x then (wk k).set (writesO x).toNat true else wk k := by rw [← HWK.out, ← HWK.out, u3]; rfl
      have h8 : (wk k).length = 8 := by rw [← HWK.out]; exact HW8.out k
      have u1' : ∀ r ∈ readsO x, (0 ≤ r ∧ r < 8) ∧ (wk k).getD r.toNat false = true := fun r hr => by have := u1 r hr; rw [HWK.out] at this; exact this
      have U1 := Lib.hid u1'
      have U2 := Lib.hid u2
      have HWN := Lib.hid hwn
      clear u1 u2 u3 hwn u1'
      obtain ⟨rs, hrs⟩ : ∃ rs, rs = readsO x := ⟨_, rfl⟩
      have hrl : rs.length ≤ 3 := by
        rw [hrs]; unfold readsO
        rw [List.length_map]
        exact (runes_rdL _ (ofO_rd _)).2.2
      rw [← hrs] at U1
      have HRS := Lib.hid hrs
      clear hrs
      obtain ⟨op, a, b2, cc, n, e, kk, kn⟩ := x
      have aX : ∀ A B C, (H ++ (A :: B :: (X ++ [C])))[H.length + (X.length + 1 + 1)]? = some C := fun A B C => by rw [List.getElem?_append_right (by omega), Nat.add_sub_cancel_left, List.getElem?_cons_succ, List.getElem?_cons_succ, List.getElem?_append_right (Nat.le_refl _), Nat.sub_self]; rfl
      have sX : ∀ A B C D, (H ++ (A :: B :: (X ++ [C]))).set (H.length + (X.length + 1 + 1)) D = H ++ (A :: B :: (X ++ [D])) := fun A B C D => by rw [List.set_append_right _ _ (by omega), Nat.add_sub_cancel_left, List.set_cons_succ, List.set_cons_succ, List.set_append_right _ _ (Nat.le_refl _), Nat.sub_self]; rfl
      have lX : L (H.length + (X.length + 1 + 1)) = true := hL _
      obtain ⟨wb, hwb⟩ : ∃ wb, wb = (wk k).map ZBo := ⟨_, rfl⟩
      rw [← hwb]
      have HWB := Lib.hid hwb
      clear hwb
      have hrl2 : rs.length < 9223372036854775807 := by omega
      repeat' (first | (simp only [zmPack, zxPack, ne_eq, zfree, owners, Nat.reduceLT, List.contains_cons, List.contains_nil, Nat.reduceBEq, BEq.rfl, chunk, setAt, List.lookup_cons, List.lookup_nil, reduceCtorEq, Nat.reduceEqDiff, reduceIte, implies_true, forall_const, Nat.reduceMul, Nat.reduceSub, Nat.reduceAdd, Nat.reduceLeDiff, hx, f1, f16, aX, sX, lX, *]) | (simp only [zgoO, zgoG, zO_nil, zthen_normal, zgoC]) | (with_reducible apply And.intro) | (with_reducible intro _))
      refine reads_z (x := (op, a, b2, cc, n, e, kk, kn)) ?_
      rw [← HRS.out]
      repeat' (first | (simp only [zmPack, zxPack, ne_eq, zfree, owners, Nat.reduceLT, List.contains_cons, List.contains_nil, Nat.reduceBEq, BEq.rfl, chunk, setAt, List.lookup_cons, List.lookup_nil, reduceCtorEq, Nat.reduceEqDiff, reduceIte, implies_true, forall_const, Nat.reduceMul, Nat.reduceSub, Nat.reduceAdd, Nat.reduceLeDiff, hrl2, *]) | (simp only [zgoO, zgoG, zO_nil, zthen_normal, zgoC]) | (with_reducible apply And.intro) | (with_reducible intro _))
      refine zW_forK [(3, .ptr (H.length + 1) 0), (5, .ptr (H.length + (X.length + 1 + 1)) 0), (23, .fz 1 false (rs.map eI))] rs.length (fun j s2 h2 => h2 = H ++ (.box (eCd ⟨fn, pl, lp, slc, ords, exs, turn, back, xo, xe⟩) :: .box wb :: (X ++ [.box (eRd (op, a, b2, cc, n, e, kk, kn))]))) (by omega) ⟨rfl, rfl, rfl, rfl, rfl, rfl⟩ rfl rfl (by repeat' (first | exact trivial | (refine ⟨rfl, ?_⟩) | (refine ⟨by simp only [zupd_at, Nat.reduceEqDiff, reduceIte]; assumption, ?_⟩))) rfl rfl (by decide) rfl ?_ ?_
      · rintro j s2 h2 hj rfl hi2 hl2 ⟨g3, g5, g23, -⟩
        have hy : rs[j]? = some rs[j] := List.getElem?_eq_getElem hj
        obtain ⟨r, hr⟩ : ∃ r, r = rs[j] := ⟨_, rfl⟩
        rw [← hr] at hy
        obtain ⟨⟨q1, q2⟩, q3⟩ := U1.out r (List.mem_of_getElem? hy)
        clear hr
        have q4 : ¬ (r < 0) := by omega
        have q5 : ¬ (8 ≤ r) := by omega
        have hn : natZ (Z64 r) = some r.toNat := natZ_lit q1
        have hm : r.toNat < 8 := by omega
        have hg : wb[r.toNat]? = some (ZBo true) := by
          rw [HWB.out, List.getElem?_map, List.getElem?_eq_getElem (by omega)]
          rw [List.getD_eq_getElem?_getD, List.getElem?_eq_getElem (by omega)] at q3
          simp only [Option.getD_some] at q3
          simp [q3]
        generalize r.toNat = m at hn hm hg
        clear q1 q2 q3
        repeat' (first | (simp only [zmPack, zxPack, ne_eq, zfree, owners, Nat.reduceLT, List.contains_cons, List.contains_nil, Nat.reduceBEq, BEq.rfl, chunk, setAt, List.lookup_cons, List.lookup_nil, reduceCtorEq, Nat.reduceEqDiff, reduceIte, implies_true, forall_const, Nat.reduceMul, Nat.reduceSub, Nat.reduceAdd, Nat.reduceLeDiff, hy, g3, g23, a1, q4, q5, hn, hm, hg, *]) | (simp only [zgoO, zgoG, zO_nil, zthen_normal, zgoC]) | (with_reducible apply And.intro) | (with_reducible intro _))
      · rintro s2 h2 rfl ⟨g3, g5, g23, -⟩
        repeat' (first | (simp only [zmPack, zxPack, ne_eq, zfree, owners, Nat.reduceLT, List.contains_cons, List.contains_nil, Nat.reduceBEq, BEq.rfl, chunk, setAt, List.lookup_cons, List.lookup_nil, reduceCtorEq, Nat.reduceEqDiff, reduceIte, implies_true, forall_const, Nat.reduceMul, Nat.reduceSub, Nat.reduceAdd, Nat.reduceLeDiff, g3, g5, aX, *]) | (simp only [zgoO, zgoG, zO_nil, zthen_normal, zgoC]) | (with_reducible apply And.intro) | (with_reducible intro _))
        refine writes_z (x := (op, a, b2, cc, n, e, kk, kn)) ?_
        obtain ⟨w, hw⟩ : ∃ w, w = writesO (op, a, b2, cc, n, e, kk, kn) := ⟨_, rfl⟩
        rw [← hw] at U2 HWN ⊢
        clear hw
        by_cases q1 : 0 ≤ w
        · have hn : natZ (Z64 w) = some w.toNat := natZ_lit q1
          have hm : w.toNat < 8 := by have := U2.out q1; omega
          have hst : ∀ A Y, stZ L (H ++ (A :: .box wb :: Y)) [ZBo true] (.ptr (H.length + 1) w.toNat) = some (H ++ (A :: .box ((wk (k + 1)).map ZBo) :: Y)) := fun A Y => by
            rw [st_ptr]
            refine ⟨_, a1 _ _ _, l1, by rw [HWB.out]; simp; omega, ?_⟩
            rw [show (H ++ (A :: .box wb :: Y)).set (H.length + 1) _ = _ from stN1 rfl _ _ _ _, HWB.out, regs_set (by omega), HWN.out, if_pos q1]
          generalize w.toNat = m at hn hm hst
          repeat' (first | (simp only [zmPack, zxPack, ne_eq, zfree, owners, Nat.reduceLT, List.contains_cons, List.contains_nil, Nat.reduceBEq, BEq.rfl, chunk, setAt, List.lookup_cons, List.lookup_nil, reduceCtorEq, Nat.reduceEqDiff, reduceIte, implies_true, forall_const, Nat.reduceMul, Nat.reduceSub, Nat.reduceAdd, Nat.reduceLeDiff, g3, q1, hn, hm, hst, *]) | (simp only [zgoO, zgoG, zO_nil, zthen_normal, zgoC]) | (with_reducible apply And.intro) | (with_reducible intro _))
          exact ⟨_, rfl⟩
        · have hwe : wb = (wk (k + 1)).map ZBo := by rw [HWB.out, HWN.out, if_neg q1]
          have HWE := Lib.hid hwe
          clear hwe
          repeat' (first | (simp only [zmPack, zxPack, ne_eq, zfree, owners, Nat.reduceLT, List.contains_cons, List.contains_nil, Nat.reduceBEq, BEq.rfl, chunk, setAt, List.lookup_cons, List.lookup_nil, reduceCtorEq, Nat.reduceEqDiff, reduceIte, implies_true, forall_const, Nat.reduceMul, Nat.reduceSub, Nat.reduceAdd, Nat.reduceLeDiff, g3, q1, *]) | (simp only [zgoO, zgoG, zO_nil, zthen_normal, zgoC]) | (with_reducible apply And.intro) | (with_reducible intro _))
          exact ⟨_, by rw [HWE.out]⟩
    · rintro s' h' ⟨X, rfl⟩ ⟨f1, f3, f16, -⟩
      repeat' (first | (simp only [zmPack, zxPack, ne_eq, zfree, owners, Nat.reduceLT, List.contains_cons, List.contains_nil, Nat.reduceBEq, BEq.rfl, chunk, setAt, List.lookup_cons, List.lookup_nil, reduceCtorEq, Nat.reduceEqDiff, reduceIte, implies_true, forall_const, Nat.reduceMul, Nat.reduceSub, Nat.reduceAdd, Nat.reduceLeDiff, *]) | (simp only [zgoO, zgoG, zO_nil, zthen_normal, zgoC]) | (with_reducible apply And.intro) | (with_reducible intro _))
      refine ordered_z ?_
      have fin := F0.out
      repeat' (first | (simp only [zmPack, zxPack, ne_eq, zfree, owners, Nat.reduceLT, List.contains_cons, List.contains_nil, Nat.reduceBEq, BEq.rfl, chunk, setAt, List.lookup_cons, List.lookup_nil, reduceCtorEq, Nat.reduceEqDiff, reduceIte, implies_true, forall_const, Nat.reduceMul, Nat.reduceSub, Nat.reduceAdd, Nat.reduceLeDiff, *]) | (simp only [zgoO, zgoG, zO_nil, zthen_normal, zgoC]) | (with_reducible apply And.intro) | (with_reducible intro _))
  · repeat' (first | (simp only [zmPack, zxPack, ne_eq, zfree, owners, Nat.reduceLT, List.contains_cons, List.contains_nil, Nat.reduceBEq, BEq.rfl, chunk, setAt, List.lookup_cons, List.lookup_nil, reduceCtorEq, Nat.reduceEqDiff, reduceIte, implies_true, forall_const, Nat.reduceMul, Nat.reduceSub, Nat.reduceAdd, Nat.reduceLeDiff, a00, h0, *]) | (simp only [zgoO, zgoG, zO_nil, zthen_normal, zgoC]) | (with_reducible apply And.intro) | (with_reducible intro _))
    refine ordered_z ?_
    have fin := F0.out
    repeat' (first | (simp only [zmPack, zxPack, ne_eq, zfree, owners, Nat.reduceLT, List.contains_cons, List.contains_nil, Nat.reduceBEq, BEq.rfl, chunk, setAt, List.lookup_cons, List.lookup_nil, reduceCtorEq, Nat.reduceEqDiff, reduceIte, implies_true, forall_const, Nat.reduceMul, Nat.reduceSub, Nat.reduceAdd, Nat.reduceLeDiff, a00, *]) | (simp only [zgoO, zgoG, zO_nil, zthen_normal, zgoC]) | (with_reducible apply And.intro) | (with_reducible intro _))
end Go.Proofs.Ythakklmbchnohaa

namespace Go.Proofs.Ythakklmbchnohaa
open Go Go.RowKit Go.ChangeShapes Go.WideShapes Go.ChangeAt
set_option linter.unusedVariables false
set_option linter.unusedSimpArgs false
set_option maxRecDepth 100000 in
theorem orderwritten_lifted (os : Os) (started : os.Started) (H : Type) (enc : TypeId × Value → H) (F : Stop.Interp) :
    ReturnsInHanded {} Try.checked os 4 .any ((Rows.OpenSpec.upto Rows.orderWrittenSpec).pre6 enc Try.prog Try.f4 Rows.orderWrittenUptoRow.domain false) (((Rows.OpenSpec.upto Rows.orderWrittenSpec).at F).post enc Try.prog Try.f4 false true false false) := by
  refine law_lifted_upto (C := Try.checked) 12 [(true, tyCd)] 4 Try.own Try.laidOut started (by kernel_rfl) Try.func4
    (OpenSpec.witness (enc := enc) (C := Try.checked) (s := Rows.OpenSpec.upto Rows.orderWrittenSpec) (k := Rows.uptoSmall) rfl false ⟨#[], #[.agg #[.int .i64 0, .int .i64 0, .int .i64 0, .int .i64 0, .slice none 0 0, .slice none 0 0, .int .i64 0, .int .i64 0, .slice none 0 0, .slice none 0 0, .int .i64 0, .int .i64 0, .slice none 0 0, .slice none 0 0]], []⟩ 8 (by kernel_rfl) (by kernel_rfl) (by kernel_rfl)
      (x := ([.agg [.lit (.int .i64 0), .lit (.int .i64 0), .lit (.int .i64 0), .lit (.int .i64 0), .nil, .nil, .agg [.lit (.int .i64 0), .lit (.int .i64 0), .nil, .nil], .agg [.lit (.int .i64 0), .lit (.int .i64 0), .nil, .nil]]], [], [])) (by kernel_rfl) (by kernel_rfl) (by kernel_rfl))
    rfl (by kernel_rfl) Try.underlying4 (fun ds h => ?_) (by kernel_rfl) (by kernel_rfl) (fun W args h => ?_) F
  · match ds, h with
    | [d0], _ => rfl
  · refine zm_walk (by kernel_rfl) (boxY_ok (constX_ok (n := 1000) (F := cFunc Try.prog) (by kernel_rfl) (fun f af h => h) tbO (by intro p hp; rw [List.mem_singleton.1 hp]; kernel_rfl))) (fun f af h => h) rfl (fun zl hz => ?_) W args h
    obtain ⟨x, _, rfl, hx, sx, rfl⟩ := hz
    show ZC _ _ _ [.agg (Go.Proofs.Ythakklmbchnohaa.enc tyCd x)] _ _ _
    rw [encC]
    exact orderwritten_z (L := fun _ => true) (H := []) (K := fun z _ => z = ZBo true) (c := oC x) (CdB_of (Nat.le_refl _) sx.2) rfl
theorem orderwritten_holds : Rows.OrderWrittenUptoSaid :=
  OpenClaim.holds_of_cond 4 Try.f4 rfl rfl rfl rfl rfl rfl rfl ⟨rfl, rfl, rfl, rfl, rfl⟩ rfl rfl rfl rfl rfl (by kernel_rfl) Try.func4 (by kernel_rfl) (of_decide_eq_true (by kernel_rfl)) (by unfold Func.isWrapper; first | (rw [if_pos (by decide +kernel)]; kernel_rfl) | (rw [if_neg (by decide +kernel)]; exact ⟨rfl, rfl⟩))
    (fun os started H enc _ F => orderwritten_lifted os started H enc F)
end Go.Proofs.Ythakklmbchnohaa
