/-
  Proved: WHERE WHAT IT READS IS OF BULK AT MOST 1048576 the law LeaveOut answers true: a state is left as its last frame and its cells are left, and nothing else is another one.
-/
import Derived.Deep.CondSized
import Derived.Test.YtmecaddjeljliaaMrA1
import Derived.Test.YtmecaddjeljliaaMrA10
import Derived.Test.YtmecaddjeljliaaMrA7
import Derived.Test.YtmecaddjeljliaaMrA9
namespace Go.Proofs.Ytmecaddjeljliaa
open Go.RowKit Go.ChangeShapes Go.WideShapes Go.ChangeAt
set_option linter.unusedVariables false
set_option linter.unusedSimpArgs false

/-- How many data there are, each counted once, a list one more. -/
def cnt : (t : Ty) → t.val → Nat
  | .int _, _ => 1
  | .bool, _ => 1
  | .str, _ => 1
  | .unit, _ => 0
  | .prod a b, x => cnt a x.1 + cnt b x.2
  | .slice _ e, l => (l.map (cnt e)).sum + 1

section
variable {H : Type} {enc : TypeId × Value → H} {P : Program} {w : World} {B : Nat}

theorem bulk_pos (d : DataW H) : 1 ≤ Rows.uptoBulk d := by
  cases d with
  | lit l => cases l <;> simp [Rows.uptoBulk]
  | _ => simp [Rows.uptoBulk]
theorem bulkAll_app (a b : List (DataW H)) : Rows.uptoBulkAll (a ++ b) = Rows.uptoBulkAll a + Rows.uptoBulkAll b := by
  induction a with
  | nil => simp [Rows.uptoBulkAll]
  | cons x r ih => simp only [List.cons_append, Rows.uptoBulkAll, ih]; omega
theorem bulkAll_mem {d : DataW H} {l : List (DataW H)} (h : d ∈ l) : Rows.uptoBulk d ≤ Rows.uptoBulkAll l := by
  induction l with
  | nil => cases h
  | cons x r ih =>
    simp only [Rows.uptoBulkAll]
    rcases List.mem_cons.1 h with rfl | h
    · omega
    · have := ih h; omega

theorem cnt_fields (g : TypeId → Option Ty) (n : Nat)
    (ih : ∀ (t : TypeId) (ty : Ty), g t = some ty → ∀ (cs : List Value) (d : DataW H) (ps : List MemPlace) (x : ty.val), DataW.trod enc P w 0 (fun _ => true) true n t cs = some (d, ps) → Has w B ty cs x → cnt ty x ≤ Rows.uptoBulk d) :
    ∀ (fs : List Field) (acc : Nat) (ts : List Ty) (xs : List (DataW H × List MemPlace)) (cs : List Value) (x : (prodAll ts).val), fieldsTy P g acc fs = some ts → xs.length = fs.length →
      (∀ (i : Nat) (f : Field), fs[i]? = some f → DataW.trod enc P w 0 (fun _ => true) true n f.type ((cs.drop f.offset).take (P.cellsOf f.type)) = xs[i]?) →
      Has w B (prodAll ts) (cs.drop acc) x → cnt (prodAll ts) x ≤ Rows.uptoBulkAll (xs.map (·.1)) := by
  intro fs
  induction fs with
  | nil =>
    intro acc ts xs cs x h1 h2 _ _
    simp only [fieldsTy, Option.some.injEq] at h1
    subst h1
    simp [prodAll, cnt]
  | cons f r ihf =>
    intro acc ts xs cs x h1 h2 h4 hh
    simp only [fieldsTy] at h1
    split at h1
    · rename_i ty hty
      split at h1
      · rename_i hoc
        obtain ⟨ho, hc⟩ := hoc
        obtain ⟨ts', hts', rfl⟩ := Option.map_eq_some_iff.1 h1
        match xs, h2 with
        | y :: ys, h2 =>
        have hy := h4 0 f rfl
        simp only [List.getElem?_cons_zero] at hy
        rw [ho, hc] at hy
        have h4' : ∀ (i : Nat) (f' : Field), r[i]? = some f' → DataW.trod enc P w 0 (fun _ => true) true n f'.type ((cs.drop f'.offset).take (P.cellsOf f'.type)) = ys[i]? :=
          fun i f' hf' => by have := h4 (i + 1) f' (by simpa using hf'); simpa using this
        simp only [List.map_cons, Rows.uptoBulkAll]
        match ts', hts', x, hh with
        | [], hts', x, hh =>
          simp only [prodAll] at hh x ⊢
          have hl := hh.size
          have e : (cs.drop acc).take ty.size = cs.drop acc := by rw [← hl]; exact List.take_length
          rw [e] at hy
          have := ih f.type ty hty _ y.1 y.2 x (by rw [hy]) hh
          omega
        | b :: r', hts', x, hh =>
          simp only [prodAll] at hh x ⊢
          obtain ⟨c, d, hcd, h5, h6⟩ := hh
          have hl := h5.size
          have e1 : (cs.drop acc).take ty.size = c := by rw [hcd, ← hl, List.take_left]
          have e2 : cs.drop (acc + ty.size) = d := by rw [← List.drop_drop, hcd, ← hl, List.drop_left]
          rw [e1] at hy
          have k1 := ih f.type ty hty _ y.1 y.2 x.1 (by rw [hy]) h5
          have k2 := ihf (acc + ty.size) (b :: r') ys cs x.2 hts' (by simpa using h2) h4' (by rw [e2]; exact h6)
          simp only [cnt]
          omega
      · cases h1
    · cases h1

theorem sum_le {α : Type} (f : α → Nat) (l : List α) (D : Nat → DataW H) (h : ∀ i (hi : i < l.length), f l[i] ≤ Rows.uptoBulk (D i)) : (l.map f).sum ≤ Rows.uptoBulkAll ((List.range l.length).map D) := by
  have key : ∀ (l : List α) (a : Nat), (∀ i (hi : i < l.length), f l[i] ≤ Rows.uptoBulk (D (a + i))) → (l.map f).sum ≤ Rows.uptoBulkAll ((List.range' a l.length).map D) := by
    intro l
    induction l with
    | nil => intro a _; simp
    | cons x r ih =>
      intro a h
      have h0 := h 0 (by simp)
      have h1 := ih (a + 1) (fun i hi => by have := h (i + 1) (by simpa using hi); rw [show a + 1 + i = a + (i + 1) by omega]; simpa using this)
      simp only [List.map_cons, List.sum_cons, List.length_cons, List.range'_succ, Rows.uptoBulkAll]
      simp only [List.getElem_cons_zero, Nat.add_zero] at h0
      omega
  rw [List.range_eq_range']
  exact key l 0 (fun i hi => by simpa using h i hi)

theorem cnt_trod : ∀ (m : Nat) (t : TypeId) (ty : Ty), tyOf P m t = some ty → ∀ (n : Nat) (cs : List Value) (d : DataW H) (ps : List MemPlace) (x : ty.val),
    DataW.trod enc P w 0 (fun _ => true) true n t cs = some (d, ps) → Has w B ty cs x → cnt ty x ≤ Rows.uptoBulk d := by
  intro m
  induction m with
  | zero => intro t ty h; cases h
  | succ m ih =>
    intro t ty h n cs d ps x htr hh
    simp only [tyOf] at h
    split at h
    · injection h with h; subst h; exact bulk_pos d
    · injection h with h; subst h; exact bulk_pos d
    · injection h with h; subst h; exact bulk_pos d
    · rename_i e hk
      split at h
      · rename_i ety hety
        split at h
        · rename_i hc
          injection h with h
          subst h
          obtain ⟨A, cap0, rfl, h1, h2, h3, h4⟩ := hh
          rcases Go.Deep.open_slice hk htr with ⟨he, h0⟩ | ⟨a, len, cap, m', n', D, Pl, he, _, hl, hm, hmm, hx, hi⟩
          · simp only [Prod.mk.injEq] at h0
            have : x = [] := by
              simp only [List.cons.injEq, Value.slice.injEq] at he
              exact List.eq_nil_of_length_eq_zero he.1.2.1
            subst this
            simp only [cnt, List.map_nil, List.sum_nil]
            exact bulk_pos d
          · simp only [if_true] at hmm
            subst hmm
            simp only [Prod.mk.injEq] at hx
            obtain ⟨rfl, rfl⟩ := hx
            simp only [List.cons.injEq, Value.slice.injEq, and_true] at he
            obtain ⟨rfl, hlen, hcap⟩ := he
            subst hlen
            simp only [cnt, Rows.uptoBulk]
            have := sum_le (cnt ety) x D (fun i hil => by
              obtain ⟨b, off, hA, _, hel⟩ := h4 (fun h => by subst h; simp at hil)
              obtain ⟨ecs, e1, e2, e3⟩ := hel i hil
              obtain ⟨cs', hcs', ht'⟩ := hi i (by omega)
              obtain ⟨_, hcl, hat⟩ := World.cells?_some hcs'
              rw [hc.1] at hcl hat
              simp only [Option.some.injEq] at hA
              subst hA
              have : ecs = cs' := by
                apply List.ext_getElem?
                intro j
                by_cases hj : j < ety.size
                · rw [← e2 j hj, ← hat j hj, Go.Deep.add_add]
                  congr 1
                  unfold Addr.add
                  simp [Nat.add_assoc]
                · rw [List.getElem?_eq_none (by omega), List.getElem?_eq_none (by omega)]
              subst this
              exact ih e ety hety n' ecs (D i) (Pl i) x[i] ht' e3)
            omega
        · cases h
      · cases h
    · rename_i fs hk
      split at h
      · rename_i ts hts
        split at h
        · rename_i hc
          injection h with h
          subst h
          obtain ⟨xs, n', _, hx, hcl, hxl, hf⟩ := DataW.trod_struct hk htr
          simp only [Prod.mk.injEq] at hx
          obtain ⟨rfl, rfl⟩ := hx
          simp only [Rows.uptoBulk]
          have := cnt_fields (enc := enc) (P := P) (w := w) (B := B) (tyOf P m) n' (fun t ty h cs d ps x h1 h2 => ih t ty h n' cs d ps x h1 h2) fs.toList 0 ts xs cs x hts (by simpa using hxl)
            (fun i f hif => hf i f (by simpa using hif)) (by simpa using hh)
          omega
        · cases h
      · cases h
    · cases h

/-- The arguments' data, each of a bulk no greater than N. -/
def SizedUp (N : Nat) (t : Ty) (x : t.val) : Prop := Sized t x ∧ cnt t x ≤ N

theorem argsHoldUp_of {N : Nat} (m : Nat) : ∀ (ts : List TypeId) (tys : List (Bool × Ty)), argTys P m ts = some tys → ∀ (vs : List Value) (ds : List (DataW H)) (ps : List MemPlace) (r : Go.Reach) (b0 : Nat),
    (∀ (j : Nat) t v, ts[j]? = some t → vs[j]? = some v → Value.okWide P w r b0 t v) → DataW.TrodAll enc P w 0 (fun _ => true) true ts vs ds ps → (∀ p ∈ ps, p.block < B) →
    (∀ k ∈ DataW.weightsEach P ts ds, k ≤ reachBytes) → (∀ d ∈ ds, Rows.uptoBulk d ≤ N) → ArgsHoldQ (SizedUp N) w B tys vs := by
  intro ts
  induction ts with
  | nil =>
    intro tys h vs ds ps r b0 _ htr _ _ _
    simp only [argTys, Option.some.injEq] at h
    subst h
    exact (trodAll_nil htr).1
  | cons t ts ih =>
    intro tys h vs ds ps r b0 hok htr hps hwt hN
    simp only [argTys] at h
    split at h
    · rename_i ty l hty hl
      injection h with h; subst h
      obtain ⟨v, vs', d, ds', p, q, rfl, rfl, rfl, h0, h1⟩ := trodAll_cons htr
      simp only [DataW.weightsEach] at hwt
      obtain ⟨cs, x, e, rfl, hx, hs⟩ := has_of_arg m hty (hok 0 t v rfl rfl) h0 (fun y hy => hps y (by simp [hy])) (fun k hk => hwt k (by simp [hk]))
      refine ⟨cs, x, vs', rfl, hx, ⟨hs, ?_⟩, ih l hl vs' ds' q r b0 (fun j t v h1 h2 => hok (j + 1) t v (by simpa using h1) (by simpa using h2)) h1 (fun y hy => hps y (by simp [hy])) (fun k hk => hwt k (by simp [hk])) (fun y hy => hN y (by simp [hy]))⟩
      obtain ⟨n, hn⟩ := h0
      rw [e] at hn
      exact Nat.le_trans (cnt_trod m t ty hty n cs d p x hn hx) (hN d (by simp))
    · cases h

/-- THE FRAME: a law that answers true and turns nothing that was there, where what it reads is of small bulk. -/
theorem law_lifted_upto {C : Checked} {os : Os} {f : FuncId} {fn : Func} {s : ChangeSpec} (m : Nat) (tys : List (Bool × Ty)) (tb : TypeId)
    (own : ownKnob C.prog.godebug = none) (hlo : laidOutB C.prog = true) (started : os.Started) (noInit : C.prog.inits.idxOf? f = none) (hfn : C.prog.funcs[f]? = some fn)
    (witness : ∃ (w : World) (tape : Tape) (i : Input), w.os = os ∧ (w.forCall tape i).Shaped C.prog ∧ i.vars = [] ∧ Input.okWide C.prog (w.forCall tape i) .any w.heap.size f i ∧
      (Rows.OpenSpec.upto s).pre6 enc C.prog fn [] false (w.forCall tape i).memory i.args ∧ ({} : Assume).holds C.prog (lone (Frame.enter C.prog f i.args .normal) [] (w.forCall tape i)))
    (hvars : s.vars = []) (hres : fn.resultTypes = #[tb]) (htb : C.prog.underlying tb = some .bool)
    (hspec : ∀ ds : List (DataW H), ds.length = fn.params.size → s.fn H ds = { results := [.lit (.bool true)], args := ds })
    (hread : fn.params.all (fun t => C.prog.readableRec t && decide (t < C.prog.types.size)) = true)
    (htys : argTys C.prog m fn.params.toList = some tys)
    (walk : ∀ (W : World) (args : Array Value), ArgsHoldQ (SizedUp 1048576) W W.heap.size tys args.toList → Calls C.prog f args W fun e W' => e = .returned (.bool true) ∧ Below W.heap.size W W')
    (F : Stop.Interp) :
    ReturnsInHanded {} C os f .any ((Rows.OpenSpec.upto s).pre6 enc C.prog fn [] false) (((Rows.OpenSpec.upto s).at F).post enc C.prog fn false true false false) := by
  refine returnsInHanded_of_cond_sized (s := Rows.OpenSpec.upto s) (k := Rows.uptoSmall) rfl own started noInit hfn witness ?_
  intro W base args ds gs before hval hW _ hk hsz _
  have hW' := hW
  obtain ⟨p, q, hA, hV, rfl, _, _⟩ := hW
  have hvars' : (Rows.OpenSpec.upto s).vars = [] := hvars
  rw [hvars'] at hV
  obtain ⟨rfl, rfl⟩ := trodVars_none hV
  simp only [List.append_nil] at hsz hW' hk
  have hvt : (Rows.OpenSpec.upto s).bare.plain.varTypes C.prog = [] := by
    have e : (Rows.OpenSpec.upto s).bare.plain.vars = [] := hvars
    simp [DataSpec.varTypes, e]
  rw [hvt, List.append_nil] at hsz
  have hlt : ∀ x ∈ p, x.block < W.heap.size := fun x hx => by simpa using hW'.lt x hx
  have hlen : ds.length = fn.params.size := by
    have : ∀ (ts : List TypeId) (vs : List Value) (ds : List (DataW H)) (ps : List MemPlace), DataW.TrodAll enc C.prog W 0 (fun _ => true) true ts vs ds ps → ds.length = ts.length := by
      intro ts
      induction ts with
      | nil => intro vs ds ps h; obtain ⟨_, rfl, _⟩ := trodAll_nil h; rfl
      | cons t ts ih =>
        intro vs ds ps h
        obtain ⟨v, vs', d, ds', p, q, rfl, rfl, rfl, h0, h1⟩ := trodAll_cons h
        simp [ih _ _ _ h1]
    simpa using this _ _ _ _ hA
  have hbulk : Rows.uptoBulkAll ds ≤ 1048576 := by simpa [Rows.uptoSmall] using hk
  have hargs := argsHoldUp_of (N := 1048576) (B := W.heap.size) m fn.params.toList tys htys args.toList ds p .any base (fun j t v h1 h2 => hval j t v (by simpa using h1) (by simpa using h2)) hA hlt
    (fun k hk => by simpa using List.all_eq_true.1 hsz k hk) (fun d hd => Nat.le_trans (bulkAll_mem hd) hbulk)
  refine (walk W args hargs).mono fun e W' ⟨he, hb⟩ => ⟨_, he, ds, [], p, [], p, [], hW', ?_, ?_, ?_, hb.frame _, fun h => by cases h⟩
  · rw [List.append_nil]
    show DataW.TrodAll enc C.prog W' _ _ _ _ _ (s.fn H ds).results _
    rw [hspec ds hlen, hres]
    exact trodAll_mk1 (shut_bool htb true)
  · rw [List.append_nil]
    show DataW.TrodAll enc C.prog W' _ _ _ _ _ (s.fn H ds).args _
    rw [hspec ds hlen]
    refine trodAll_below hlo hb fn.params.toList (fun t ht => ?_) args.toList ds p hA hlt
    have := Array.all_eq_true_iff_forall_mem.1 hread t (by simpa using ht)
    simpa using this
  · rw [List.append_nil]
    show DataW.TrodVars enc C.prog W' _ (Rows.OpenSpec.upto s).vars (s.fn H ds).vars _
    rw [hspec ds hlen, hvars']
    rfl
end
end Go.Proofs.Ytmecaddjeljliaa

namespace Go.Proofs.Ytmecaddjeljliaa
open Go Go.RowKit Go.ChangeShapes Go.WideShapes Go.ChangeAt
set_option linter.unusedVariables false
set_option linter.unusedSimpArgs false
abbrev tyV : Ty := .prod (.int .i64) (.int .i64)
abbrev tyF : Ty := .prod (.int .i64) (.prod (.int .i64) (.prod (.int .i64) (.prod (.int .i64) (.prod tyV (.prod (.slice 16 tyV) (.slice 16 tyV))))))
abbrev tyC : Ty := .prod (.int .i64) (.prod (.int .i64) (.prod (.slice 16 tyV) (.slice 96 tyF)))
abbrev tyM : Ty := .prod (.int .i64) (.prod (.int .i64) (.prod (.int .i64) (.slice 8 (.int .i64))))
abbrev tyX : Ty := .prod (.int .i64) (.prod (.int .i64) (.prod (.slice 16 tyV) (.slice 48 tyM)))
theorem frS_of {f : tyF.val} (h : Sized tyF f) : frS f := by
  obtain ⟨-, -, -, -, -, h6, h7⟩ := h
  have h6 := h6.1
  have h7 := h7.1
  exact ⟨by unfold reach; omega, by unfold reach; omega⟩
theorem clS_of {c : tyC.val} (h : Sized tyC c) : clS c := by
  obtain ⟨-, -, h3, h4⟩ := h
  have h3' := h3.1
  have h4' := h4.1
  exact ⟨by unfold reach; omega, by unfold reach; omega, fun f hf => frS_of (h4.2 f hf)⟩
theorem len_sumL {α : Type} (f : α → Nat) (h : ∀ x, 1 ≤ f x) (l : List α) : l.length ≤ (l.map f).sum := by
  induction l with
  | nil => simp
  | cons x r ih => have := h x; simp only [List.length_cons, List.map_cons, List.sum_cons]; omega
theorem mem_sumL {α : Type} (f : α → Nat) {l : List α} {x : α} (h : x ∈ l) : f x ≤ (l.map f).sum := by
  induction l with
  | nil => cases h
  | cons y r ih =>
    simp only [List.map_cons, List.sum_cons]
    rcases List.mem_cons.1 h with rfl | h
    · omega
    · have := ih h; omega
theorem cntX {x : tyX.val} {N : Nat} (h : cnt tyX x ≤ N) : x.2.2.2.length ≤ N ∧ ∀ m ∈ x.2.2.2, m.2.2.2.length ≤ N := by
  have h1 := len_sumL (cnt tyM) (fun x => by simp only [cnt]; omega) x.2.2.2
  simp only [cnt] at h h1
  refine ⟨by omega, fun m hm => ?_⟩
  have h2 := mem_sumL (cnt tyM) hm
  have h3 := len_sumL (cnt (.int .i64)) (fun x => by simp [cnt]) m.2.2.2
  simp only [cnt] at h2 h3
  omega
end Go.Proofs.Ytmecaddjeljliaa

namespace Go.Proofs.Ytmecaddjeljliaa
open Go Go.RowKit Go.ChangeShapes Go.WideShapes Go.ChangeAt
set_option linter.unusedVariables false
set_option linter.unusedSimpArgs false
abbrev tyTh : Ty := .prod (.slice 96 tyF) (.prod (.int .i64) (.prod (.int .i64) tyV))
abbrev tyE : Ty := .prod (.int .i64) tyV
abbrev tySt : Ty := .prod (.slice 64 tyC) (.prod (.slice 16 tyV) (.prod (.slice 16 .str) (.prod (.slice 56 tyTh) (.prod (.slice 24 tyE) (.prod (.slice 16 tyV) (.prod (.int .i64) (.int .i64)))))))
theorem stS_of {s : tySt.val} (h : Sized tySt s) : stS s := by
  obtain ⟨h1, h2, h3, h4, h5, h6, -⟩ := h
  have a1 := h1.1
  have a2 := h2.1
  have a3 := h3.1
  have a4 := h4.1
  have a5 := h5.1
  have a6 := h6.1
  refine ⟨by unfold reach; omega, fun c hc => clS_of (h1.2 c hc), by unfold reach; omega, by unfold reach; omega, by unfold reach; omega, fun t ht => ?_, by unfold reach; omega, by unfold reach; omega⟩
  obtain ⟨b1, -⟩ := h4.2 t ht
  have b2 := b1.1
  exact ⟨by unfold reach; omega, fun f hf => frS_of (b1.2 f hf)⟩
end Go.Proofs.Ytmecaddjeljliaa

namespace Go.Proofs.Ytmecaddjeljliaa
open Go Go.RowKit Go.ChangeShapes Go.WideShapes Go.ChangeAt
set_option linter.unusedVariables false
set_option linter.unusedSimpArgs false
set_option maxRecDepth 100000 in
theorem leaveout_lifted (os : Os) (started : os.Started) (H : Type) (enc : TypeId × Value → H) (F : Stop.Interp) :
    ReturnsInHanded {} Try.checked os 5 .any ((Rows.OpenSpec.upto Rows.leaveOutSpec).pre6 enc Try.prog Try.f5 Rows.leaveOutUptoRow.domain false) (((Rows.OpenSpec.upto Rows.leaveOutSpec).at F).post enc Try.prog Try.f5 false true false false) := by
  refine law_lifted_upto (C := Try.checked) 12 [(true, tySt), (false, .int .i64), (true, tyX), (false, .slice 16 tyV)] 4 Try.own Try.laidOut started (by kernel_rfl) Try.func5
    (OpenSpec.witness (enc := enc) (C := Try.checked) (s := Rows.OpenSpec.upto Rows.leaveOutSpec) (k := Rows.uptoSmall) rfl false ⟨#[], #[.agg #[.slice none 0 0, .slice none 0 0, .slice none 0 0, .slice none 0 0, .slice none 0 0, .slice none 0 0, .int .i64 0, .int .i64 0], .int .i64 0, .agg #[.int .i64 0, .int .i64 0, .slice none 0 0, .slice none 0 0], .slice none 0 0], []⟩ 8 (by kernel_rfl) (by kernel_rfl) (by kernel_rfl)
      (x := ([.agg [.nil, .nil, .nil, .nil, .nil, .nil, .lit (.int .i64 0), .lit (.int .i64 0)], .lit (.int .i64 0), .agg [.lit (.int .i64 0), .lit (.int .i64 0), .nil, .nil], .nil], [], [])) (by kernel_rfl) (by kernel_rfl) (by kernel_rfl))
    rfl (by kernel_rfl) Try.underlying4 (fun ds h => ?_) (by kernel_rfl) (by kernel_rfl) (fun W args h => ?_) F
  · match ds, h with
    | [d0, d1, d2, d3], _ => rfl
  · refine zm_walk (by kernel_rfl) (constX_ok (n := 100) (F := cFunc Try.prog) (by kernel_rfl) (fun f af h => h) tbL (by intro p hp; rw [List.mem_singleton.1 hp]; kernel_rfl)) (fun f af h => h) rfl (fun zl hz => ?_) W args h
    obtain ⟨s, _, rfl, hs, ss, th, _, rfl, _, _, x, _, rfl, hx, sx, v, _, rfl, hv, sv, rfl⟩ := hz
    obtain ⟨h1, h2⟩ := cntX sx.2
    have h3 := sx.1.2.2.1.1
    exact leaveout_z (s := s) (th := th) (p1 := x.1) (p2 := x.2.1) (sets := x.2.2.1) (ms := x.2.2.2) (vals := v) (stS_of ss.1) (by omega) h1 h2
theorem leaveout_holds : Rows.LeaveOutUptoSaid :=
  OpenClaim.holds_of_cond 5 Try.f5 rfl rfl rfl rfl rfl rfl rfl ⟨rfl, rfl, rfl, rfl, rfl⟩ rfl rfl rfl rfl rfl (by kernel_rfl) Try.func5 (by kernel_rfl) (of_decide_eq_true (by kernel_rfl)) (by unfold Func.isWrapper; first | (rw [if_pos (by decide +kernel)]; kernel_rfl) | (rw [if_neg (by decide +kernel)]; exact ⟨rfl, rfl⟩))
    (fun os started H enc _ F => leaveout_lifted os started H enc F)
end Go.Proofs.Ytmecaddjeljliaa
