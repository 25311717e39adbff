/-
  Proved: WHERE WHAT IT READS IS OF BULK AT MOST 1048576 the law OrderExits answers true.
-/
import Derived.Deep.CondSized
import Derived.Test.YthakklmbchnohaaMrA1
import Derived.Test.YthakklmbchnohaaMrA9
namespace Go.Proofs.Ythakklmbchnohaa
open Go.RowKit Go.ChangeShapes Go.WideShapes Go.ChangeAt
set_option linter.unusedVariables false
set_option linter.unusedSimpArgs false

/-- How many data there are, each counted once, a list one more. -/
def cnt : (t : Ty) → t.val → Nat
  | .int _, _ => 1
  | .bool, _ => 1
  | .str, _ => 1
  | .unit, _ => 0
  | .prod a b, x => cnt a x.1 + cnt b x.2
  | .slice _ e, l => (l.map (cnt e)).sum + 1

section
variable {H : Type} {enc : TypeId × Value → H} {P : Program} {w : World} {B : Nat}

theorem bulk_pos (d : DataW H) : 1 ≤ Rows.uptoBulk d := by
  cases d with
  | lit l => cases l <;> simp [Rows.uptoBulk]
  | _ => simp [Rows.uptoBulk]
theorem bulkAll_app (a b : List (DataW H)) : Rows.uptoBulkAll (a ++ b) = Rows.uptoBulkAll a + Rows.uptoBulkAll b := by
  induction a with
  | nil => simp [Rows.uptoBulkAll]
  | cons x r ih => simp only [List.cons_append, Rows.uptoBulkAll, ih]; omega
theorem bulkAll_mem {d : DataW H} {l : List (DataW H)} (h : d ∈ l) : Rows.uptoBulk d ≤ Rows.uptoBulkAll l := by
  induction l with
  | nil => cases h
  | cons x r ih =>
    simp only [Rows.uptoBulkAll]
    rcases List.mem_cons.1 h with rfl | h
    · omega
    · have := ih h; omega

theorem cnt_fields (g : TypeId → Option Ty) (n : Nat)
    (ih : ∀ (t : TypeId) (ty : Ty), g t = some ty → ∀ (cs : List Value) (d : DataW H) (ps : List MemPlace) (x : ty.val), DataW.trod enc P w 0 (fun _ => true) true n t cs = some (d, ps) → Has w B ty cs x → cnt ty x ≤ Rows.uptoBulk d) :
    ∀ (fs : List Field) (acc : Nat) (ts : List Ty) (xs : List (DataW H × List MemPlace)) (cs : List Value) (x : (prodAll ts).val), fieldsTy P g acc fs = some ts → xs.length = fs.length →
      (∀ (i : Nat) (f : Field), fs[i]? = some f → DataW.trod enc P w 0 (fun _ => true) true n f.type ((cs.drop f.offset).take (P.cellsOf f.type)) = xs[i]?) →
      Has w B (prodAll ts) (cs.drop acc) x → cnt (prodAll ts) x ≤ Rows.uptoBulkAll (xs.map (·.1)) := by
  intro fs
  induction fs with
  | nil =>
    intro acc ts xs cs x h1 h2 _ _
    simp only [fieldsTy, Option.some.injEq] at h1
    subst h1
    simp [prodAll, cnt]
  | cons f r ihf =>
    intro acc ts xs cs x h1 h2 h4 hh
    simp only [fieldsTy] at h1
    split at h1
    · rename_i ty hty
      split at h1
      · rename_i hoc
        obtain ⟨ho, hc⟩ := hoc
        obtain ⟨ts', hts', rfl⟩ := Option.map_eq_some_iff.1 h1
        match xs, h2 with
        | y :: ys, h2 =>
        have hy := h4 0 f rfl
        simp only [List.getElem?_cons_zero] at hy
        rw [ho, hc] at hy
        have h4' : ∀ (i : Nat) (f' : Field), r[i]? = some f' → DataW.trod enc P w 0 (fun _ => true) true n f'.type ((cs.drop f'.offset).take (P.cellsOf f'.type)) = ys[i]? :=
          fun i f' hf' => by have := h4 (i + 1) f' (by simpa using hf'); simpa using this
        simp only [List.map_cons, Rows.uptoBulkAll]
        match ts', hts', x, hh with
        | [], hts', x, hh =>
          simp only [prodAll] at hh x ⊢
          have hl := hh.size
          have e : (cs.drop acc).take ty.size = cs.drop acc := by rw [← hl]; exact List.take_length
          rw [e] at hy
          have := ih f.type ty hty _ y.1 y.2 x (by rw [hy]) hh
          omega
        | b :: r', hts', x, hh =>
          simp only [prodAll] at hh x ⊢
          obtain ⟨c, d, hcd, h5, h6⟩ := hh
          have hl := h5.size
          have e1 : (cs.drop acc).take ty.size = c := by rw [hcd, ← hl, List.take_left]
          have e2 : cs.drop (acc + ty.size) = d := by rw [← List.drop_drop, hcd, ← hl, List.drop_left]
          rw [e1] at hy
          have k1 := ih f.type ty hty _ y.1 y.2 x.1 (by rw [hy]) h5
          have k2 := ihf (acc + ty.size) (b :: r') ys cs x.2 hts' (by simpa using h2) h4' (by rw [e2]; exact h6)
          simp only [cnt]
          omega
      · cases h1
    · cases h1

theorem sum_le {α : Type} (f : α → Nat) (l : List α) (D : Nat → DataW H) (h : ∀ i (hi : i < l.length), f l[i] ≤ Rows.uptoBulk (D i)) : (l.map f).sum ≤ Rows.uptoBulkAll ((List.range l.length).map D) := by
  have key : ∀ (l : List α) (a : Nat), (∀ i (hi : i < l.length), f l[i] ≤ Rows.uptoBulk (D (a + i))) → (l.map f).sum ≤ Rows.uptoBulkAll ((List.range' a l.length).map D) := by
    intro l
    induction l with
    | nil => intro a _; simp
    | cons x r ih =>
      intro a h
      have h0 := h 0 (by simp)
      have h1 := ih (a + 1) (fun i hi => by have := h (i + 1) (by simpa using hi); rw [show a + 1 + i = a + (i + 1) by omega]; simpa using this)
      simp only [List.map_cons, List.sum_cons, List.length_cons, List.range'_succ, Rows.uptoBulkAll]
      simp only [List.getElem_cons_zero, Nat.add_zero] at h0
      omega
  rw [List.range_eq_range']
  exact key l 0 (fun i hi => by simpa using h i hi)

theorem cnt_trod : ∀ (m : Nat) (t : TypeId) (ty : Ty), tyOf P m t = some ty → ∀ (n : Nat) (cs : List Value) (d : DataW H) (ps : List MemPlace) (x : ty.val),
    DataW.trod enc P w 0 (fun _ => true) true n t cs = some (d, ps) → Has w B ty cs x → cnt ty x ≤ Rows.uptoBulk d := by
  intro m
  induction m with
  | zero => intro t ty h; cases h
  | succ m ih =>
    intro t ty h n cs d ps x htr hh
    simp only [tyOf] at h
    split at h
    · injection h with h; subst h; exact bulk_pos d
    · injection h with h; subst h; exact bulk_pos d
    · injection h with h; subst h; exact bulk_pos d
    · rename_i e hk
      split at h
      · rename_i ety hety
        split at h
        · rename_i hc
          injection h with h
          subst h
          obtain ⟨A, cap0, rfl, h1, h2, h3, h4⟩ := hh
          rcases Go.Deep.open_slice hk htr with ⟨he, h0⟩ | ⟨a, len, cap, m', n', D, Pl, he, _, hl, hm, hmm, hx, hi⟩
          · simp only [Prod.mk.injEq] at h0
            have : x = [] := by
              simp only [List.cons.injEq, Value.slice.injEq] at he
              exact List.eq_nil_of_length_eq_zero he.1.2.1
            subst this
            simp only [cnt, List.map_nil, List.sum_nil]
            exact bulk_pos d
          · simp only [if_true] at hmm
            subst hmm
            simp only [Prod.mk.injEq] at hx
            obtain ⟨rfl, rfl⟩ := hx
            simp only [List.cons.injEq, Value.slice.injEq, and_true] at he
            obtain ⟨rfl, hlen, hcap⟩ := he
            subst hlen
            simp only [cnt, Rows.uptoBulk]
            have := sum_le (cnt ety) x D (fun i hil => by
              obtain ⟨b, off, hA, _, hel⟩ := h4 (fun h => by subst h; simp at hil)
              obtain ⟨ecs, e1, e2, e3⟩ := hel i hil
              obtain ⟨cs', hcs', ht'⟩ := hi i (by omega)
              obtain ⟨_, hcl, hat⟩ := World.cells?_some hcs'
              rw [hc.1] at hcl hat
              simp only [Option.some.injEq] at hA
              subst hA
              have : ecs = cs' := by
                apply List.ext_getElem?
                intro j
                by_cases hj : j < ety.size
                · rw [← e2 j hj, ← hat j hj, Go.Deep.add_add]
                  congr 1
                  unfold Addr.add
                  simp [Nat.add_assoc]
                · rw [List.getElem?_eq_none (by omega), List.getElem?_eq_none (by omega)]
              subst this
              exact ih e ety hety n' ecs (D i) (Pl i) x[i] ht' e3)
            omega
        · cases h
      · cases h
    · rename_i fs hk
      split at h
      · rename_i ts hts
        split at h
        · rename_i hc
          injection h with h
          subst h
          obtain ⟨xs, n', _, hx, hcl, hxl, hf⟩ := DataW.trod_struct hk htr
          simp only [Prod.mk.injEq] at hx
          obtain ⟨rfl, rfl⟩ := hx
          simp only [Rows.uptoBulk]
          have := cnt_fields (enc := enc) (P := P) (w := w) (B := B) (tyOf P m) n' (fun t ty h cs d ps x h1 h2 => ih t ty h n' cs d ps x h1 h2) fs.toList 0 ts xs cs x hts (by simpa using hxl)
            (fun i f hif => hf i f (by simpa using hif)) (by simpa using hh)
          omega
        · cases h
      · cases h
    · cases h

/-- The arguments' data, each of a bulk no greater than N. -/
def SizedUp (N : Nat) (t : Ty) (x : t.val) : Prop := Sized t x ∧ cnt t x ≤ N

theorem argsHoldUp_of {N : Nat} (m : Nat) : ∀ (ts : List TypeId) (tys : List (Bool × Ty)), argTys P m ts = some tys → ∀ (vs : List Value) (ds : List (DataW H)) (ps : List MemPlace) (r : Go.Reach) (b0 : Nat),
    (∀ (j : Nat) t v, ts[j]? = some t → vs[j]? = some v → Value.okWide P w r b0 t v) → DataW.TrodAll enc P w 0 (fun _ => true) true ts vs ds ps → (∀ p ∈ ps, p.block < B) →
    (∀ k ∈ DataW.weightsEach P ts ds, k ≤ reachBytes) → (∀ d ∈ ds, Rows.uptoBulk d ≤ N) → ArgsHoldQ (SizedUp N) w B tys vs := by
  intro ts
  induction ts with
  | nil =>
    intro tys h vs ds ps r b0 _ htr _ _ _
    simp only [argTys, Option.some.injEq] at h
    subst h
    exact (trodAll_nil htr).1
  | cons t ts ih =>
    intro tys h vs ds ps r b0 hok htr hps hwt hN
    simp only [argTys] at h
    split at h
    · rename_i ty l hty hl
      injection h with h; subst h
      obtain ⟨v, vs', d, ds', p, q, rfl, rfl, rfl, h0, h1⟩ := trodAll_cons htr
      simp only [DataW.weightsEach] at hwt
      obtain ⟨cs, x, e, rfl, hx, hs⟩ := has_of_arg m hty (hok 0 t v rfl rfl) h0 (fun y hy => hps y (by simp [hy])) (fun k hk => hwt k (by simp [hk]))
      refine ⟨cs, x, vs', rfl, hx, ⟨hs, ?_⟩, ih l hl vs' ds' q r b0 (fun j t v h1 h2 => hok (j + 1) t v (by simpa using h1) (by simpa using h2)) h1 (fun y hy => hps y (by simp [hy])) (fun k hk => hwt k (by simp [hk])) (fun y hy => hN y (by simp [hy]))⟩
      obtain ⟨n, hn⟩ := h0
      rw [e] at hn
      exact Nat.le_trans (cnt_trod m t ty hty n cs d p x hn hx) (hN d (by simp))
    · cases h

/-- THE FRAME: a law that answers true and turns nothing that was there, where what it reads is of small bulk. -/
theorem law_lifted_upto {C : Checked} {os : Os} {f : FuncId} {fn : Func} {s : ChangeSpec} (m : Nat) (tys : List (Bool × Ty)) (tb : TypeId)
    (own : ownKnob C.prog.godebug = none) (hlo : laidOutB C.prog = true) (started : os.Started) (noInit : C.prog.inits.idxOf? f = none) (hfn : C.prog.funcs[f]? = some fn)
    (witness : ∃ (w : World) (tape : Tape) (i : Input), w.os = os ∧ (w.forCall tape i).Shaped C.prog ∧ i.vars = [] ∧ Input.okWide C.prog (w.forCall tape i) .any w.heap.size f i ∧
      (Rows.OpenSpec.upto s).pre6 enc C.prog fn [] false (w.forCall tape i).memory i.args ∧ ({} : Assume).holds C.prog (lone (Frame.enter C.prog f i.args .normal) [] (w.forCall tape i)))
    (hvars : s.vars = []) (hres : fn.resultTypes = #[tb]) (htb : C.prog.underlying tb = some .bool)
    (hspec : ∀ ds : List (DataW H), ds.length = fn.params.size → s.fn H ds = { results := [.lit (.bool true)], args := ds })
    (hread : fn.params.all (fun t => C.prog.readableRec t && decide (t < C.prog.types.size)) = true)
    (htys : argTys C.prog m fn.params.toList = some tys)
    (walk : ∀ (W : World) (args : Array Value), ArgsHoldQ (SizedUp 1048576) W W.heap.size tys args.toList → Calls C.prog f args W fun e W' => e = .returned (.bool true) ∧ Below W.heap.size W W')
    (F : Stop.Interp) :
    ReturnsInHanded {} C os f .any ((Rows.OpenSpec.upto s).pre6 enc C.prog fn [] false) (((Rows.OpenSpec.upto s).at F).post enc C.prog fn false true false false) := by
  refine returnsInHanded_of_cond_sized (s := Rows.OpenSpec.upto s) (k := Rows.uptoSmall) rfl own started noInit hfn witness ?_
  intro W base args ds gs before hval hW _ hk hsz _
  have hW' := hW
  obtain ⟨p, q, hA, hV, rfl, _, _⟩ := hW
  have hvars' : (Rows.OpenSpec.upto s).vars = [] := hvars
  rw [hvars'] at hV
  obtain ⟨rfl, rfl⟩ := trodVars_none hV
  simp only [List.append_nil] at hsz hW' hk
  have hvt : (Rows.OpenSpec.upto s).bare.plain.varTypes C.prog = [] := by
    have e : (Rows.OpenSpec.upto s).bare.plain.vars = [] := hvars
    simp [DataSpec.varTypes, e]
  rw [hvt, List.append_nil] at hsz
  have hlt : ∀ x ∈ p, x.block < W.heap.size := fun x hx => by simpa using hW'.lt x hx
  have hlen : ds.length = fn.params.size := by
    have : ∀ (ts : List TypeId) (vs : List Value) (ds : List (DataW H)) (ps : List MemPlace), DataW.TrodAll enc C.prog W 0 (fun _ => true) true ts vs ds ps → ds.length = ts.length := by
      intro ts
      induction ts with
      | nil => intro vs ds ps h; obtain ⟨_, rfl, _⟩ := trodAll_nil h; rfl
      | cons t ts ih =>
        intro vs ds ps h
        obtain ⟨v, vs', d, ds', p, q, rfl, rfl, rfl, h0, h1⟩ := trodAll_cons h
        simp [ih _ _ _ h1]
    simpa using this _ _ _ _ hA
  have hbulk : Rows.uptoBulkAll ds ≤ 1048576 := by simpa [Rows.uptoSmall] using hk
  have hargs := argsHoldUp_of (N := 1048576) (B := W.heap.size) m fn.params.toList tys htys args.toList ds p .any base (fun j t v h1 h2 => hval j t v (by simpa using h1) (by simpa using h2)) hA hlt
    (fun k hk => by simpa using List.all_eq_true.1 hsz k hk) (fun d hd => Nat.le_trans (bulkAll_mem hd) hbulk)
  refine (walk W args hargs).mono fun e W' ⟨he, hb⟩ => ⟨_, he, ds, [], p, [], p, [], hW', ?_, ?_, ?_, hb.frame _, fun h => by cases h⟩
  · rw [List.append_nil]
    show DataW.TrodAll enc C.prog W' _ _ _ _ _ (s.fn H ds).results _
    rw [hspec ds hlen, hres]
    exact trodAll_mk1 (shut_bool htb true)
  · rw [List.append_nil]
    show DataW.TrodAll enc C.prog W' _ _ _ _ _ (s.fn H ds).args _
    rw [hspec ds hlen]
    refine trodAll_below hlo hb fn.params.toList (fun t ht => ?_) args.toList ds p hA hlt
    have := Array.all_eq_true_iff_forall_mem.1 hread t (by simpa using ht)
    simpa using this
  · rw [List.append_nil]
    show DataW.TrodVars enc C.prog W' _ (Rows.OpenSpec.upto s).vars (s.fn H ds).vars _
    rw [hspec ds hlen, hvars']
    rfl
end
end Go.Proofs.Ythakklmbchnohaa

namespace Go.Proofs.Ythakklmbchnohaa
open Go Go.RowKit Go.ChangeShapes Go.WideShapes Go.ChangeAt
set_option linter.unusedVariables false
set_option linter.unusedSimpArgs false
abbrev tyI : Ty := .int .i64
abbrev tyRP : Ty := .prod tyI tyI
abbrev tyRS : Ty := .prod tyI tyRP
abbrev tyRM : Ty := .prod tyRP (.prod tyI (.prod tyI (.slice 16 tyRP)))
abbrev tyRX : Ty := .prod tyI (.prod tyI (.prod (.slice 24 tyRS) (.slice 56 tyRM)))
abbrev tyRd : Ty := .prod tyI (.prod tyI (.prod tyI (.prod tyI (.prod tyI (.prod tyI (.prod tyI tyI))))))
abbrev tyCd : Ty := .prod tyI (.prod tyI (.prod tyI (.prod tyI (.prod (.slice 64 tyRd) (.prod (.slice 64 tyRX) (.prod tyRX tyRX))))))
def oM (m : tyRM.val) : OMk := (m.1.1, m.1.2, m.2.1, m.2.2.1, m.2.2.2)
def oX (x : tyRX.val) : OXt := (x.1, x.2.1, x.2.2.1, x.2.2.2.map oM)
def oC (x : tyCd.val) : Cd := ⟨x.1, x.2.1, x.2.2.1, x.2.2.2.1, x.2.2.2.2.1, x.2.2.2.2.2.1.map oX, oX x.2.2.2.2.2.2.1, oX x.2.2.2.2.2.2.2, false, false⟩
theorem encM : enc tyRM = fun m => eRM (oM m) := rfl
theorem encX : enc tyRX = fun x => eRX (oX x) := by
  funext x
  show [Z64 x.1, Z64 x.2.1, .fz 3 false (x.2.2.1.map (enc tyRS)), .fz 5 false (x.2.2.2.map (enc tyRM))] = _
  rw [encM]
  unfold oX eRX
  simp only [List.map_map]
  rfl
theorem encC (x : tyCd.val) : enc tyCd x = eCd (oC x) := by
  show [Z64 x.1, Z64 x.2.1, Z64 x.2.2.1, Z64 x.2.2.2.1, .fz 8 false (x.2.2.2.2.1.map (enc tyRd)), .fz 4 false (x.2.2.2.2.2.1.map (enc tyRX))] ++ (enc tyRX x.2.2.2.2.2.2.1 ++ enc tyRX x.2.2.2.2.2.2.2) = _
  rw [encX]
  unfold oC eCd
  simp only [List.map_map]
  rfl
theorem sum_geO {α : Type} (f : α → Nat) (h : ∀ x, 1 ≤ f x) (l : List α) : l.length ≤ (l.map f).sum := by
  induction l with
  | nil => simp
  | cons x r ih => have := h x; simp only [List.length_cons, List.map_cons, List.sum_cons]; omega
theorem mem_sumO {α : Type} (f : α → Nat) {l : List α} {x : α} (h : x ∈ l) : f x ≤ (l.map f).sum := by
  induction l with
  | nil => cases h
  | cons y r ih =>
    simp only [List.map_cons, List.sum_cons]
    rcases List.mem_cons.1 h with rfl | h
    · omega
    · have := ih h; omega
theorem OXB_of {x : tyRX.val} {N : Nat} (hN : N ≤ 1048576) (h : cnt tyRX x ≤ N) : OXB (oX x) := by
  have e : cnt tyRX x = 1 + (1 + (((x.2.2.1.map (cnt tyRS)).sum + 1) + ((x.2.2.2.map (cnt tyRM)).sum + 1))) := rfl
  have h1 := sum_geO (cnt tyRS) (fun x => by simp only [cnt]; omega) x.2.2.1
  have h2 := sum_geO (cnt tyRM) (fun x => by simp only [cnt]; omega) x.2.2.2
  refine ⟨by simp only [oX]; omega, by simp only [oX, List.length_map]; omega, fun m hm => ?_⟩
  simp only [oX, List.mem_map] at hm
  obtain ⟨m0, hm0, rfl⟩ := hm
  have h3 := mem_sumO (cnt tyRM) hm0
  have e2 : cnt tyRM m0 = (1 + 1) + (1 + (1 + ((m0.2.2.2.map (cnt tyRP)).sum + 1))) := rfl
  have h4 := sum_geO (cnt tyRP) (fun x => by simp only [cnt]; omega) m0.2.2.2
  simp only [oM]
  omega
theorem CdB_of {x : tyCd.val} {N : Nat} (hN : N ≤ 1048576) (h : cnt tyCd x ≤ N) : CdB (oC x) := by
  have e : cnt tyCd x = 1 + (1 + (1 + (1 + (((x.2.2.2.2.1.map (cnt tyRd)).sum + 1) + (((x.2.2.2.2.2.1.map (cnt tyRX)).sum + 1) + (cnt tyRX x.2.2.2.2.2.2.1 + cnt tyRX x.2.2.2.2.2.2.2)))))) := rfl
  have h1 := sum_geO (cnt tyRd) (fun x => by simp only [cnt]; omega) x.2.2.2.2.1
  have h2 := sum_geO (cnt tyRX) (fun x => by simp only [cnt]; omega) x.2.2.2.2.2.1
  refine ⟨by simp only [oC]; omega, by simp only [oC, List.length_map]; omega, fun y hy => ?_⟩
  simp only [exsL, oC, List.mem_cons, List.mem_map] at hy
  rcases hy with rfl | rfl | ⟨y0, hy0, rfl⟩
  · exact OXB_of (N := N) hN (by omega)
  · exact OXB_of (N := N) hN (by omega)
  · have := mem_sumO (cnt tyRX) hy0
    exact OXB_of (N := N) hN (by omega)
end Go.Proofs.Ythakklmbchnohaa

namespace Go.Proofs.Ythakklmbchnohaa
open Go Go.RowKit
set_option linter.unusedVariables false
set_option linter.unusedSimpArgs false
variable {L : Nat → Bool} {H : ZH} {K : ZV → ZH → Prop}
abbrev rowX (a : Int) : List ZV := [Z64 a, Z64 0, .nil, .nil]
/-- Exits with one more: what comes of the two appends. -/
theorem ex_app (N : Nat) (rows : List (List ZV)) (row : List ZV) (hr : (rows.length + 1) * 64 ≤ reach) : ∃ zA YA g, (∀ W : ZH, W.length = N → appZ L W 4 64 rows (.fz 4 true []) = some (zA, W ++ YA)) ∧ ∀ W : ZH, W.length = N → L N = true → appZ L (W ++ YA) 4 64 [row] zA = some (.own N g 0 (rows.length + 1) false, W ++ [.grow g 4 (rows ++ [row])]) := by
  by_cases he : rows = []
  · subst he
    refine ⟨.fz 4 true [], [], 0, fun W hW => ?_, fun W hW hl => ?_⟩
    · rw [List.append_nil]; exact app_fzE.2 ⟨rfl, rfl⟩
    · rw [List.append_nil]
      simp only [appZ]
      rw [if_pos ⟨trivial, by simpa using hr⟩, if_neg (by simp), if_pos trivial, hW]
      simp
  · refine ⟨.own N 0 0 rows.length false, [.grow 0 4 rows], 1, fun W hW => ?_, fun W hW hl => ?_⟩
    · simp only [appZ]
      rw [if_pos ⟨trivial, by simp; omega⟩, if_neg he, if_pos trivial, hW]
      simp only [List.length_nil, Nat.zero_add, List.nil_append]
    · simp only [appZ]
      rw [show (W ++ [ZB.grow 0 4 rows])[N]? = some (.grow 0 4 rows) from by rw [← hW]; exact atN0 rfl _ _]
      simp only
      rw [if_pos ⟨trivial, trivial, by simp, by simpa using hr⟩, if_neg (by simp), if_pos hl]
      have hs : ∀ B, (W ++ [ZB.grow 0 4 rows]).set N B = W ++ [B] := fun B => by subst hW; exact stN0 rfl _ _ _
      rw [hs]
      simp
/-- The cells of code with its orders at zo, its exits at zx. -/
abbrev dE (fn pl lp sl : Int) (zo zx : ZV) (turn back : OXt) : List ZV := [Z64 fn, Z64 pl, Z64 lp, Z64 sl, zo, zx, Z64 turn.1, Z64 turn.2.1, .fz 3 false (turn.2.2.1.map eRS), .fz 5 false (turn.2.2.2.map eRM), Z64 back.1, Z64 back.2.1, .fz 3 false (back.2.2.1.map eRS), .fz 5 false (back.2.2.2.map eRM)]
theorem wks_last (exs : List OXt) (a : Int) : Wks (exs.map eRX ++ [rowX a]).flatten ((exs ++ [(a, 0, [], [])]).map eRX).flatten := by
  rw [List.map_append, List.flatten_append, List.flatten_append]
  refine ⟨by simp, fun i z' hi => ?_⟩
  by_cases hl : i < (exs.map eRX).flatten.length
  · rw [List.getElem?_append_left hl] at hi
    rw [List.getElem?_append_left hl]
    exact ⟨z', hi, .refl _⟩
  · rw [List.getElem?_append_right (by omega)] at hi
    rw [List.getElem?_append_right (by omega)]
    generalize i - (exs.map eRX).flatten.length = j at hi
    match j, hi with
    | 0, hi => simp at hi; exact ⟨_, rfl, hi ▸ .refl _⟩
    | 1, hi => simp at hi; exact ⟨_, rfl, hi ▸ .refl _⟩
    | 2, hi => simp at hi; exact ⟨_, rfl, hi ▸ .nil 3⟩
    | 3, hi => simp at hi; exact ⟨_, rfl, hi ▸ .nil 5⟩
    | j + 4, hi => simp at hi
theorem pure_eRX (exs : List OXt) (a : Int) : (exs.map eRX ++ [rowX a]).flatten.all pureZ = true := by
  rw [List.flatten_append, List.all_append, pure_mapI fun _ => rfl]; rfl
theorem exits_arg {fn pl lp sl a : Int} {ords : List Rd} {exs : List OXt} {turn back : OXt} : ∀ (i : Nat) z', (eCd ⟨fn, pl, lp, sl, ords, exs ++ [(a, 0, [], [])], turn, back, false, false⟩)[i]? = some z' → ∃ z, (dE fn pl lp sl (.fz 8 false (ords.map eRd)) (.fz 4 false (exs.map eRX ++ [rowX a])) turn back)[i]? = some z ∧ Wk2 z z' := by
  intro i z' hi
  match i, hi with
  | 0, hi => simp at hi; exact ⟨_, rfl, .one (hi ▸ .refl _)⟩
  | 1, hi => simp at hi; exact ⟨_, rfl, .one (hi ▸ .refl _)⟩
  | 2, hi => simp at hi; exact ⟨_, rfl, .one (hi ▸ .refl _)⟩
  | 3, hi => simp at hi; exact ⟨_, rfl, .one (hi ▸ .refl _)⟩
  | 4, hi => simp at hi; exact ⟨_, rfl, .one (hi ▸ .refl _)⟩
  | 5, hi =>
    have hi : some (ZV.fz 4 false ((exs ++ [(a, 0, [], [])]).map eRX)) = some z' := hi
    injection hi with hi
    subst hi
    exact ⟨_, rfl, .rows (by simp) (fun r hr => by obtain ⟨x, _, rfl⟩ := List.mem_map.1 hr; rfl) (wks_last exs a)⟩
  | 6, hi => simp at hi; exact ⟨_, rfl, .one (hi ▸ .refl _)⟩
  | 7, hi => simp at hi; exact ⟨_, rfl, .one (hi ▸ .refl _)⟩
  | 8, hi => simp at hi; exact ⟨_, rfl, .one (hi ▸ .refl _)⟩
  | 9, hi => simp at hi; exact ⟨_, rfl, .one (hi ▸ .refl _)⟩
  | 10, hi => simp at hi; exact ⟨_, rfl, .one (hi ▸ .refl _)⟩
  | 11, hi => simp at hi; exact ⟨_, rfl, .one (hi ▸ .refl _)⟩
  | 12, hi => simp at hi; exact ⟨_, rfl, .one (hi ▸ .refl _)⟩
  | 13, hi => simp at hi; exact ⟨_, rfl, .one (hi ▸ .refl _)⟩
  | i + 14, hi => simp at hi
theorem OXB0 {a : Int} : OXB (a, 0, [], []) := ⟨by simp, by simp, by simp⟩
theorem CdB_moreX {c : Cd} {a : Int} (h : CdB c) (hn : c.exs.length < 190) : CdB (moreX c a) := by
  refine ⟨h.ords, by simp only [moreX, List.length_append, List.length_cons, List.length_nil]; omega, fun y hy => ?_⟩
  rw [exsL_moreX] at hy
  rcases List.mem_append.1 hy with hy | hy
  · exact h.all y hy
  · rw [List.mem_singleton.1 hy]; exact OXB0
theorem CdB_moreO {c : Cd} (h : CdB c) (hn : c.ords.length < 1400) : CdB (moreO c) := ⟨by simp only [moreO, List.length_append, List.length_cons, List.length_nil]; omega, h.exs, h.all⟩
abbrev cX1 : List ZV := [Z64 6, Z64 7, Z64 0, Z64 0, Z64 0, Z64 (-1), Z64 0, Z64 0]
abbrev cX2 : List ZV := [Z64 1, Z64 6, Z64 7, Z64 0, Z64 0, Z64 (-1), Z64 0, Z64 0]
set_option maxHeartbeats 8000000 in
theorem orderexits_z {c : Cd} (hB : CdB c) (hxo : c.xo = false) (hxe : c.xe = false) (hK : K (ZBo true) H) : ZC (boxY tbO) (cFunc Try.prog) 3 [.agg (eCd c)] L H K := by
  refine ZC.enterL Gh.no (boxY_none (by decide)) f_or_exits (by simp) fun hL => ?_
  simp only [c_or_exits]
  have F0 := Lib.hid (show ∀ X, Fin H (ZBo true) (H ++ X) K from fun X => Fin.trunc (Mods.ext H X) rfl (by rw [List.take_left]; exact hK))
  have HB := Lib.hid hB
  clear hK hB
  have a0 : ∀ A Y, (H ++ (A :: Y))[H.length]? = some A := fun A Y => atN0 rfl A Y
  have a1 : ∀ A B Y, (H ++ (A :: B :: Y))[H.length + 1]? = some B := fun A B Y => atN1 rfl A B Y
  have a2 : ∀ A B C Y, (H ++ (A :: B :: C :: Y))[H.length + 2]? = some C := fun A B C Y => atN2 rfl A B C Y
  have a3 : ∀ A B C D Y, (H ++ (A :: B :: C :: D :: Y))[H.length + 3]? = some D := fun A B C D Y => by rw [List.getElem?_append_right (by omega), Nat.add_sub_cancel_left]; rfl
  have a4 : ∀ A B C D E Y, (H ++ (A :: B :: C :: D :: E :: Y))[H.length + 4]? = some E := fun A B C D E Y => by rw [List.getElem?_append_right (by omega), Nat.add_sub_cancel_left]; rfl
  have a5 : ∀ A B C D E F Y, (H ++ (A :: B :: C :: D :: E :: F :: Y))[H.length + 5]? = some F := fun A B C D E F Y => by rw [List.getElem?_append_right (by omega), Nat.add_sub_cancel_left]; rfl
  have a6 : ∀ A B C D E F G Y, (H ++ (A :: B :: C :: D :: E :: F :: G :: Y))[H.length + 6]? = some G := fun A B C D E F G Y => by rw [List.getElem?_append_right (by omega), Nat.add_sub_cancel_left]; rfl
  have s1 : ∀ A B Z Y, (H ++ (A :: B :: Y)).set (H.length + 1) Z = H ++ (A :: Z :: Y) := fun A B Z Y => by rw [List.set_append_right _ _ (by omega), Nat.add_sub_cancel_left]; rfl
  have s2 : ∀ A B C Z Y, (H ++ (A :: B :: C :: Y)).set (H.length + 2) Z = H ++ (A :: B :: Z :: Y) := fun A B C Z Y => by rw [List.set_append_right _ _ (by omega), Nat.add_sub_cancel_left]; rfl
  have s3 : ∀ A B C D Z Y, (H ++ (A :: B :: C :: D :: Y)).set (H.length + 3) Z = H ++ (A :: B :: C :: Z :: Y) := fun A B C D Z Y => by rw [List.set_append_right _ _ (by omega), Nat.add_sub_cancel_left]; rfl
  have s4 : ∀ A B C D E Z Y, (H ++ (A :: B :: C :: D :: E :: Y)).set (H.length + 4) Z = H ++ (A :: B :: C :: D :: Z :: Y) := fun A B C D E Z Y => by rw [List.set_append_right _ _ (by omega), Nat.add_sub_cancel_left]; rfl
  have s5 : ∀ A B C D E F Z Y, (H ++ (A :: B :: C :: D :: E :: F :: Y)).set (H.length + 5) Z = H ++ (A :: B :: C :: D :: E :: Z :: Y) := fun A B C D E F Z Y => by rw [List.set_append_right _ _ (by omega), Nat.add_sub_cancel_left]; rfl
  have s6 : ∀ A B C D E F G Z Y, (H ++ (A :: B :: C :: D :: E :: F :: G :: Y)).set (H.length + 6) Z = H ++ (A :: B :: C :: D :: E :: F :: Z :: Y) := fun A B C D E F G Z Y => by rw [List.set_append_right _ _ (by omega), Nat.add_sub_cancel_left]; rfl
  have l1 : L (H.length + 1) = true := hL 1
  have l2 : L (H.length + 2) = true := hL 2
  have l3 : L (H.length + 3) = true := hL 3
  have l4 : L (H.length + 4) = true := hL 4
  have l5 : L (H.length + 5) = true := hL 5
  have l6 : L (H.length + 6) = true := hL 6
  have hno := HB.out.ords
  have hnx := HB.out.exs
  obtain ⟨fn, pl, lp, slc, ords, exs, turn, back, xo, xe⟩ := c
  simp only at hno hnx hxo hxe
  subst hxo
  subst hxe
  have hno2 : ords.length < 9223372036854775807 := by omega
  repeat' (first | (simp only [zmPack, zxPack, ne_eq, zfree, owners, Nat.reduceLT, List.contains_cons, List.contains_nil, Nat.reduceBEq, BEq.rfl, chunk, setAt, List.lookup_cons, List.lookup_nil, reduceCtorEq, Nat.reduceEqDiff, reduceIte, implies_true, forall_const, Nat.reduceMul, Nat.reduceSub, Nat.reduceAdd, Nat.reduceLeDiff, a0, *]) | (simp only [zgoO, zgoG, zO_nil, zthen_normal, zgoC]) | (with_reducible apply And.intro) | (with_reducible intro _))
  refine ordered_z ?_
  repeat' (first | (simp only [zmPack, zxPack, ne_eq, zfree, owners, Nat.reduceLT, List.contains_cons, List.contains_nil, Nat.reduceBEq, BEq.rfl, chunk, setAt, List.lookup_cons, List.lookup_nil, reduceCtorEq, Nat.reduceEqDiff, reduceIte, implies_true, forall_const, Nat.reduceMul, Nat.reduceSub, Nat.reduceAdd, Nat.reduceLeDiff, a0, *]) | (simp only [zgoO, zgoG, zO_nil, zthen_normal, zgoC]) | (with_reducible apply And.intro) | (with_reducible intro _))
  refine check_z (c := ⟨fn, pl, lp, slc, ords, exs, turn, back, false, false⟩) HB.out ?_
  by_cases h0 : checkB ⟨fn, pl, lp, slc, ords, exs, turn, back, false, false⟩ = 0
  · by_cases q1 : (190 : Int) ≤ (exs.length : Int)
    · rw [h0]
      clear h0
      repeat' (first | (simp only [zmPack, zxPack, ne_eq, zfree, owners, Nat.reduceLT, List.contains_cons, List.contains_nil, Nat.reduceBEq, BEq.rfl, chunk, setAt, List.lookup_cons, List.lookup_nil, reduceCtorEq, Nat.reduceEqDiff, reduceIte, implies_true, forall_const, Nat.reduceMul, Nat.reduceSub, Nat.reduceAdd, Nat.reduceLeDiff, a0, q1, *]) | (simp only [zgoO, zgoG, zO_nil, zthen_normal, zgoC]) | (with_reducible apply And.intro) | (with_reducible intro _))
      refine ordered_z ?_
      have fin := F0.out
      repeat' (first | (simp only [zmPack, zxPack, ne_eq, zfree, owners, Nat.reduceLT, List.contains_cons, List.contains_nil, Nat.reduceBEq, BEq.rfl, chunk, setAt, List.lookup_cons, List.lookup_nil, reduceCtorEq, Nat.reduceEqDiff, reduceIte, implies_true, forall_const, Nat.reduceMul, Nat.reduceSub, Nat.reduceAdd, Nat.reduceLeDiff, a0, *]) | (simp only [zgoO, zgoG, zO_nil, zthen_normal, zgoC]) | (with_reducible apply And.intro) | (with_reducible intro _))
    · by_cases q2 : (ords.length : Int) = 0
      · rw [h0]
        clear h0 hno hno2
        repeat' (first | (simp only [zmPack, zxPack, ne_eq, zfree, owners, Nat.reduceLT, List.contains_cons, List.contains_nil, Nat.reduceBEq, BEq.rfl, chunk, setAt, List.lookup_cons, List.lookup_nil, reduceCtorEq, Nat.reduceEqDiff, reduceIte, implies_true, forall_const, Nat.reduceMul, Nat.reduceSub, Nat.reduceAdd, Nat.reduceLeDiff, a0, q1, q2, *]) | (simp only [zgoO, zgoG, zO_nil, zthen_normal, zgoC]) | (with_reducible apply And.intro) | (with_reducible intro _))
        refine ordered_z ?_
        have fin := F0.out
        repeat' (first | (simp only [zmPack, zxPack, ne_eq, zfree, owners, Nat.reduceLT, List.contains_cons, List.contains_nil, Nat.reduceBEq, BEq.rfl, chunk, setAt, List.lookup_cons, List.lookup_nil, reduceCtorEq, Nat.reduceEqDiff, reduceIte, implies_true, forall_const, Nat.reduceMul, Nat.reduceSub, Nat.reduceAdd, Nat.reduceLeDiff, a0, *]) | (simp only [zgoO, zgoG, zO_nil, zthen_normal, zgoC]) | (with_reducible apply And.intro) | (with_reducible intro _))
      · by_cases q3 : (1400 : Int) ≤ (ords.length : Int)
        · rw [h0]
          clear h0
          repeat' (first | (simp only [zmPack, zxPack, ne_eq, zfree, owners, Nat.reduceLT, List.contains_cons, List.contains_nil, Nat.reduceBEq, BEq.rfl, chunk, setAt, List.lookup_cons, List.lookup_nil, reduceCtorEq, Nat.reduceEqDiff, reduceIte, implies_true, forall_const, Nat.reduceMul, Nat.reduceSub, Nat.reduceAdd, Nat.reduceLeDiff, a0, q1, q2, q3, *]) | (simp only [zgoO, zgoG, zO_nil, zthen_normal, zgoC]) | (with_reducible apply And.intro) | (with_reducible intro _))
          refine ordered_z ?_
          have fin := F0.out
          repeat' (first | (simp only [zmPack, zxPack, ne_eq, zfree, owners, Nat.reduceLT, List.contains_cons, List.contains_nil, Nat.reduceBEq, BEq.rfl, chunk, setAt, List.lookup_cons, List.lookup_nil, reduceCtorEq, Nat.reduceEqDiff, reduceIte, implies_true, forall_const, Nat.reduceMul, Nat.reduceSub, Nat.reduceAdd, Nat.reduceLeDiff, a0, *]) | (simp only [zgoO, zgoG, zO_nil, zthen_normal, zgoC]) | (with_reducible apply And.intro) | (with_reducible intro _))
        · have hX1 := Lib.hid (moreX_ok h0 (by simp only; omega))
          have hX2 := Lib.hid (moreX_no h0 (by simp only; omega))
          have hO := Lib.hid (moreO_ok h0 (by simp only; omega))
          have hB1 := Lib.hid (CdB_moreX (a := 1) HB.out (by simp only; omega))
          have hB2 := Lib.hid (CdB_moreX (a := -1) HB.out (by simp only; omega))
          have hBO := Lib.hid (CdB_moreO HB.out (by simp only; omega))
          rw [h0]
          clear h0
          have hno3 : ords.length ≤ 1000000 := by omega
          have hrr : (ords.length + 2) * 64 ≤ reach := by unfold reach; omega
          repeat' (first | (simp only [zmPack, zxPack, ne_eq, zfree, owners, Nat.reduceLT, List.contains_cons, List.contains_nil, Nat.reduceBEq, BEq.rfl, chunk, setAt, List.lookup_cons, List.lookup_nil, reduceCtorEq, Nat.reduceEqDiff, reduceIte, implies_true, forall_const, Nat.reduceMul, Nat.reduceSub, Nat.reduceAdd, Nat.reduceLeDiff, a0, a1, s1, l1, q1, q2, q3, *]) | (simp only [zgoO, zgoG, zO_nil, zthen_normal, zgoC]) | (with_reducible apply And.intro) | (with_reducible intro _))
          refine copyo_z (l := ords) (by simp [rowsZ]) hno3 ?_
          have hmr : (ords.map eRd).length = ords.length := List.length_map ..
          obtain ⟨zA, YA, gA, e1, e2⟩ := ex_app (H.length + 4) (exs.map eRX) (rowX 1) (by rw [List.length_map]; unfold reach; omega)
          obtain ⟨zB, YB, gB, e3, e4⟩ := ex_app (H.length + 6) (exs.map eRX) (rowX (-1)) (by rw [List.length_map]; unfold reach; omega)
          have e1' : ∀ A B C D, appZ L (H ++ [A, B, C, D]) 4 64 (exs.map eRX) (.fz 4 true []) = some (zA, H ++ (A :: B :: C :: D :: YA)) := fun A B C D => by rw [e1 _ (by simp)]; simp
          have e2' : ∀ A B C D, appZ L (H ++ (A :: B :: C :: D :: YA)) 4 64 [rowX 1] zA = some (.own (H.length + 4) gA 0 (exs.length + 1) false, H ++ [A, B, C, D, .grow gA 4 (exs.map eRX ++ [rowX 1])]) := fun A B C D => by
            have := e2 (H ++ [A, B, C, D]) (by simp) l4
            rw [List.length_map] at this
            simpa using this
          have e3' : ∀ A B C D E F, appZ L (H ++ [A, B, C, D, E, F]) 4 64 (exs.map eRX) (.fz 4 true []) = some (zB, H ++ (A :: B :: C :: D :: E :: F :: YB)) := fun A B C D E F => by rw [e3 _ (by simp)]; simp
          have e4' : ∀ A B C D E F, appZ L (H ++ (A :: B :: C :: D :: E :: F :: YB)) 4 64 [rowX (-1)] zB = some (.own (H.length + 6) gB 0 (exs.length + 1) false, H ++ [A, B, C, D, E, F, .grow gB 4 (exs.map eRX ++ [rowX (-1)])]) := fun A B C D E F => by
            have := e4 (H ++ [A, B, C, D, E, F]) (by simp) l6
            rw [List.length_map] at this
            simpa using this
          clear e1 e2 e3 e4
          repeat' (first | (simp only [zmPack, zxPack, ne_eq, zfree, owners, Nat.reduceLT, List.contains_cons, List.contains_nil, Nat.reduceBEq, BEq.rfl, chunk, setAt, List.lookup_cons, List.lookup_nil, reduceCtorEq, Nat.reduceEqDiff, reduceIte, implies_true, forall_const, Nat.reduceMul, Nat.reduceSub, Nat.reduceAdd, Nat.reduceLeDiff, a0, a1, a2, a3, a4, a5, s1, s2, s3, s4, s5, l1, l2, l3, l4, l5, hrr, hmr, e1', e2', e3', e4', *]) | (simp only [zgoO, zgoG, zO_nil, zthen_normal, zgoC]) | (with_reducible apply And.intro) | (with_reducible intro _))
          refine ordered_z ?_
          clear e1' e2' e3' e4' hrr hmr
          have htk : ∀ (r : List (List ZV)) n, r.length = n → (r.drop 0).take n = r := fun r n h => by rw [List.drop_zero, List.take_of_length_le (by omega)]
          repeat' (first | (simp only [zmPack, zxPack, ne_eq, zfree, owners, Nat.reduceLT, List.contains_cons, List.contains_nil, Nat.reduceBEq, BEq.rfl, chunk, setAt, List.lookup_cons, List.lookup_nil, reduceCtorEq, Nat.reduceEqDiff, reduceIte, implies_true, forall_const, Nat.reduceMul, Nat.reduceSub, Nat.reduceAdd, Nat.reduceLeDiff, a1, a2, a3, a5, *]) | (simp only [zgoO, zgoG, zO_nil, zthen_normal, zgoC]) | (with_reducible apply And.intro) | (with_reducible intro _))
          refine ZC.frzArg (c := 4) (i := H.length + 2) (g := 1) (off := 0) (len := ords.length + 2) (k := 8) (ex := false) (rows := ords.map eRd ++ [cX1, cX2]) rfl (a2 _ _ _ _) (by simp) (by rw [List.flatten_append, List.all_append, pure_mapI fun _ => rfl]; rfl) ?_
          rw [htk _ _ (by simp), s2]
          have ho : ords.map eRd ++ [cX1, cX2] = (ords ++ [x1, x2]).map eRd := by rw [List.map_append]; rfl
          rw [ho]
          refine check_z (c := moreO ⟨fn, pl, lp, slc, ords, exs, turn, back, false, false⟩) hBO.out ?_
          rw [hO.out]
          clear ho
          repeat' (first | (simp only [zmPack, zxPack, ne_eq, zfree, owners, Nat.reduceLT, List.contains_cons, List.contains_nil, Nat.reduceBEq, BEq.rfl, chunk, setAt, List.lookup_cons, List.lookup_nil, reduceCtorEq, Nat.reduceEqDiff, reduceIte, implies_true, forall_const, Nat.reduceMul, Nat.reduceSub, Nat.reduceAdd, Nat.reduceLeDiff, a1, a2, a3, a5, *]) | (simp only [zgoO, zgoG, zO_nil, zthen_normal, zgoC]) | (with_reducible apply And.intro) | (with_reducible intro _))
          refine ZC.frzArg (c := 5) (i := H.length + 4) (g := gA) (off := 0) (len := exs.length + 1) (k := 4) (ex := false) (rows := exs.map eRX ++ [rowX 1]) rfl (a4 _ _ _ _ _ _) (by simp) (pure_eRX _ _) ?_
          rw [htk _ _ (by simp), s4]
          refine ZC.wkArg (cs' := eCd (moreX ⟨fn, pl, lp, slc, ords, exs, turn, back, false, false⟩ 1)) rfl exits_arg ?_
          refine check_z hB1.out ?_
          rw [hX1.out]
          repeat' (first | (simp only [zmPack, zxPack, ne_eq, zfree, owners, Nat.reduceLT, List.contains_cons, List.contains_nil, Nat.reduceBEq, BEq.rfl, chunk, setAt, List.lookup_cons, List.lookup_nil, reduceCtorEq, Nat.reduceEqDiff, reduceIte, implies_true, forall_const, Nat.reduceMul, Nat.reduceSub, Nat.reduceAdd, Nat.reduceLeDiff, a1, a2, a3, a5, *]) | (simp only [zgoO, zgoG, zO_nil, zthen_normal, zgoC]) | (with_reducible apply And.intro) | (with_reducible intro _))
          refine ZC.frzArg (c := 5) (i := H.length + 6) (g := gB) (off := 0) (len := exs.length + 1) (k := 4) (ex := false) (rows := exs.map eRX ++ [rowX (-1)]) rfl (a6 _ _ _ _ _ _ _ _) (by simp) (pure_eRX _ _) ?_
          rw [htk _ _ (by simp), s6]
          refine ZC.wkArg (cs' := eCd (moreX ⟨fn, pl, lp, slc, ords, exs, turn, back, false, false⟩ (-1))) rfl exits_arg ?_
          refine check_z hB2.out ?_
          rw [hX2.out]
          have fin := F0.out
          repeat' (first | (simp only [zmPack, zxPack, ne_eq, zfree, owners, Nat.reduceLT, List.contains_cons, List.contains_nil, Nat.reduceBEq, BEq.rfl, chunk, setAt, List.lookup_cons, List.lookup_nil, reduceCtorEq, Nat.reduceEqDiff, reduceIte, implies_true, forall_const, Nat.reduceMul, Nat.reduceSub, Nat.reduceAdd, Nat.reduceLeDiff, *]) | (simp only [zgoO, zgoG, zO_nil, zthen_normal, zgoC]) | (with_reducible apply And.intro) | (with_reducible intro _))
  · repeat' (first | (simp only [zmPack, zxPack, ne_eq, zfree, owners, Nat.reduceLT, List.contains_cons, List.contains_nil, Nat.reduceBEq, BEq.rfl, chunk, setAt, List.lookup_cons, List.lookup_nil, reduceCtorEq, Nat.reduceEqDiff, reduceIte, implies_true, forall_const, Nat.reduceMul, Nat.reduceSub, Nat.reduceAdd, Nat.reduceLeDiff, a0, h0, *]) | (simp only [zgoO, zgoG, zO_nil, zthen_normal, zgoC]) | (with_reducible apply And.intro) | (with_reducible intro _))
    refine ordered_z ?_
    have fin := F0.out
    repeat' (first | (simp only [zmPack, zxPack, ne_eq, zfree, owners, Nat.reduceLT, List.contains_cons, List.contains_nil, Nat.reduceBEq, BEq.rfl, chunk, setAt, List.lookup_cons, List.lookup_nil, reduceCtorEq, Nat.reduceEqDiff, reduceIte, implies_true, forall_const, Nat.reduceMul, Nat.reduceSub, Nat.reduceAdd, Nat.reduceLeDiff, a0, *]) | (simp only [zgoO, zgoG, zO_nil, zthen_normal, zgoC]) | (with_reducible apply And.intro) | (with_reducible intro _))
end Go.Proofs.Ythakklmbchnohaa

namespace Go.Proofs.Ythakklmbchnohaa
open Go Go.RowKit Go.ChangeShapes Go.WideShapes Go.ChangeAt
set_option linter.unusedVariables false
set_option linter.unusedSimpArgs false
set_option maxRecDepth 100000 in
theorem orderexits_lifted (os : Os) (started : os.Started) (H : Type) (enc : TypeId × Value → H) (F : Stop.Interp) :
    ReturnsInHanded {} Try.checked os 3 .any ((Rows.OpenSpec.upto Rows.orderExitsSpec).pre6 enc Try.prog Try.f3 Rows.orderExitsUptoRow.domain false) (((Rows.OpenSpec.upto Rows.orderExitsSpec).at F).post enc Try.prog Try.f3 false true false false) := by
  refine law_lifted_upto (C := Try.checked) 12 [(true, tyCd)] 4 Try.own Try.laidOut started (by kernel_rfl) Try.func3
    (OpenSpec.witness (enc := enc) (C := Try.checked) (s := Rows.OpenSpec.upto Rows.orderExitsSpec) (k := Rows.uptoSmall) rfl false ⟨#[], #[.agg #[.int .i64 0, .int .i64 0, .int .i64 0, .int .i64 0, .slice none 0 0, .slice none 0 0, .int .i64 0, .int .i64 0, .slice none 0 0, .slice none 0 0, .int .i64 0, .int .i64 0, .slice none 0 0, .slice none 0 0]], []⟩ 8 (by kernel_rfl) (by kernel_rfl) (by kernel_rfl)
      (x := ([.agg [.lit (.int .i64 0), .lit (.int .i64 0), .lit (.int .i64 0), .lit (.int .i64 0), .nil, .nil, .agg [.lit (.int .i64 0), .lit (.int .i64 0), .nil, .nil], .agg [.lit (.int .i64 0), .lit (.int .i64 0), .nil, .nil]]], [], [])) (by kernel_rfl) (by kernel_rfl) (by kernel_rfl))
    rfl (by kernel_rfl) Try.underlying4 (fun ds h => ?_) (by kernel_rfl) (by kernel_rfl) (fun W args h => ?_) F
  · match ds, h with
    | [d0], _ => rfl
  · refine zm_walk (by kernel_rfl) (boxY_ok (constX_ok (n := 1000) (F := cFunc Try.prog) (by kernel_rfl) (fun f af h => h) tbO (by intro p hp; rw [List.mem_singleton.1 hp]; kernel_rfl))) (fun f af h => h) rfl (fun zl hz => ?_) W args h
    obtain ⟨x, _, rfl, hx, sx, rfl⟩ := hz
    show ZC _ _ _ [.agg (Go.Proofs.Ythakklmbchnohaa.enc tyCd x)] _ _ _
    rw [encC]
    exact orderexits_z (L := fun _ => true) (H := []) (K := fun z _ => z = ZBo true) (c := oC x) (CdB_of (Nat.le_refl _) sx.2) rfl rfl rfl
theorem orderexits_holds : Rows.OrderExitsUptoSaid :=
  OpenClaim.holds_of_cond 3 Try.f3 rfl rfl rfl rfl rfl rfl rfl ⟨rfl, rfl, rfl, rfl, rfl⟩ rfl rfl rfl rfl rfl (by kernel_rfl) Try.func3 (by kernel_rfl) (of_decide_eq_true (by kernel_rfl)) (by unfold Func.isWrapper; first | (rw [if_pos (by decide +kernel)]; kernel_rfl) | (rw [if_neg (by decide +kernel)]; exact ⟨rfl, rfl⟩))
    (fun os started H enc _ F => orderexits_lifted os started H enc F)
end Go.Proofs.Ythakklmbchnohaa
