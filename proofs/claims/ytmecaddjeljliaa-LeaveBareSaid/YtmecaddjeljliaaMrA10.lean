/-
  Proved: the law LeaveBare answers true, whatever the input: by an exit that sets and makes nothing all stays, but for the place and the steps.
-/
import Derived.Deep.CondSized
import Derived.Test.YtmecaddjeljliaaMrA1
import Derived.Test.YtmecaddjeljliaaMrA7
import Derived.Test.YtmecaddjeljliaaMrA9
namespace Go.Proofs.Ytmecaddjeljliaa
open Go.RowKit Go.ChangeShapes Go.WideShapes Go.ChangeAt
set_option linter.unusedVariables false
set_option linter.unusedSimpArgs false

/-- How many data there are, each counted once, a list one more. -/
def cnt : (t : Ty) → t.val → Nat
  | .int _, _ => 1
  | .bool, _ => 1
  | .str, _ => 1
  | .unit, _ => 0
  | .prod a b, x => cnt a x.1 + cnt b x.2
  | .slice _ e, l => (l.map (cnt e)).sum + 1

section
variable {H : Type} {enc : TypeId × Value → H} {P : Program} {w : World} {B : Nat}

theorem bulk_pos (d : DataW H) : 1 ≤ Rows.uptoBulk d := by
  cases d with
  | lit l => cases l <;> simp [Rows.uptoBulk]
  | _ => simp [Rows.uptoBulk]
theorem bulkAll_app (a b : List (DataW H)) : Rows.uptoBulkAll (a ++ b) = Rows.uptoBulkAll a + Rows.uptoBulkAll b := by
  induction a with
  | nil => simp [Rows.uptoBulkAll]
  | cons x r ih => simp only [List.cons_append, Rows.uptoBulkAll, ih]; omega
theorem bulkAll_mem {d : DataW H} {l : List (DataW H)} (h : d ∈ l) : Rows.uptoBulk d ≤ Rows.uptoBulkAll l := by
  induction l with
  | nil => cases h
  | cons x r ih =>
    simp only [Rows.uptoBulkAll]
    rcases List.mem_cons.1 h with rfl | h
    · omega
    · have := ih h; omega

theorem cnt_fields (g : TypeId → Option Ty) (n : Nat)
    (ih : ∀ (t : TypeId) (ty : Ty), g t = some ty → ∀ (cs : List Value) (d : DataW H) (ps : List MemPlace) (x : ty.val), DataW.trod enc P w 0 (fun _ => true) true n t cs = some (d, ps) → Has w B ty cs x → cnt ty x ≤ Rows.uptoBulk d) :
    ∀ (fs : List Field) (acc : Nat) (ts : List Ty) (xs : List (DataW H × List MemPlace)) (cs : List Value) (x : (prodAll ts).val), fieldsTy P g acc fs = some ts → xs.length = fs.length →
      (∀ (i : Nat) (f : Field), fs[i]? = some f → DataW.trod enc P w 0 (fun _ => true) true n f.type ((cs.drop f.offset).take (P.cellsOf f.type)) = xs[i]?) →
      Has w B (prodAll ts) (cs.drop acc) x → cnt (prodAll ts) x ≤ Rows.uptoBulkAll (xs.map (·.1)) := by
  intro fs
  induction fs with
  | nil =>
    intro acc ts xs cs x h1 h2 _ _
    simp only [fieldsTy, Option.some.injEq] at h1
    subst h1
    simp [prodAll, cnt]
  | cons f r ihf =>
    intro acc ts xs cs x h1 h2 h4 hh
    simp only [fieldsTy] at h1
    split at h1
    · rename_i ty hty
      split at h1
      · rename_i hoc
        obtain ⟨ho, hc⟩ := hoc
        obtain ⟨ts', hts', rfl⟩ := Option.map_eq_some_iff.1 h1
        match xs, h2 with
        | y :: ys, h2 =>
        have hy := h4 0 f rfl
        simp only [List.getElem?_cons_zero] at hy
        rw [ho, hc] at hy
        have h4' : ∀ (i : Nat) (f' : Field), r[i]? = some f' → DataW.trod enc P w 0 (fun _ => true) true n f'.type ((cs.drop f'.offset).take (P.cellsOf f'.type)) = ys[i]? :=
          fun i f' hf' => by have := h4 (i + 1) f' (by simpa using hf'); simpa using this
        simp only [List.map_cons, Rows.uptoBulkAll]
        match ts', hts', x, hh with
        | [], hts', x, hh =>
          simp only [prodAll] at hh x ⊢
          have hl := hh.size
          have e : (cs.drop acc).take ty.size = cs.drop acc := by rw [← hl]; exact List.take_length
          rw [e] at hy
          have := ih f.type ty hty _ y.1 y.2 x (by rw [hy]) hh
          omega
        | b :: r', hts', x, hh =>
          simp only [prodAll] at hh x ⊢
          obtain ⟨c, d, hcd, h5, h6⟩ := hh
          have hl := h5.size
          have e1 : (cs.drop acc).take ty.size = c := by rw [hcd, ← hl, List.take_left]
          have e2 : cs.drop (acc + ty.size) = d := by rw [← List.drop_drop, hcd, ← hl, List.drop_left]
          rw [e1] at hy
          have k1 := ih f.type ty hty _ y.1 y.2 x.1 (by rw [hy]) h5
          have k2 := ihf (acc + ty.size) (b :: r') ys cs x.2 hts' (by simpa using h2) h4' (by rw [e2]; exact h6)
          simp only [cnt]
          omega
      · cases h1
    · cases h1

theorem sum_le {α : Type} (f : α → Nat) (l : List α) (D : Nat → DataW H) (h : ∀ i (hi : i < l.length), f l[i] ≤ Rows.uptoBulk (D i)) : (l.map f).sum ≤ Rows.uptoBulkAll ((List.range l.length).map D) := by
  have key : ∀ (l : List α) (a : Nat), (∀ i (hi : i < l.length), f l[i] ≤ Rows.uptoBulk (D (a + i))) → (l.map f).sum ≤ Rows.uptoBulkAll ((List.range' a l.length).map D) := by
    intro l
    induction l with
    | nil => intro a _; simp
    | cons x r ih =>
      intro a h
      have h0 := h 0 (by simp)
      have h1 := ih (a + 1) (fun i hi => by have := h (i + 1) (by simpa using hi); rw [show a + 1 + i = a + (i + 1) by omega]; simpa using this)
      simp only [List.map_cons, List.sum_cons, List.length_cons, List.range'_succ, Rows.uptoBulkAll]
      simp only [List.getElem_cons_zero, Nat.add_zero] at h0
      omega
  rw [List.range_eq_range']
  exact key l 0 (fun i hi => by simpa using h i hi)

theorem cnt_trod : ∀ (m : Nat) (t : TypeId) (ty : Ty), tyOf P m t = some ty → ∀ (n : Nat) (cs : List Value) (d : DataW H) (ps : List MemPlace) (x : ty.val),
    DataW.trod enc P w 0 (fun _ => true) true n t cs = some (d, ps) → Has w B ty cs x → cnt ty x ≤ Rows.uptoBulk d := by
  intro m
  induction m with
  | zero => intro t ty h; cases h
  | succ m ih =>
    intro t ty h n cs d ps x htr hh
    simp only [tyOf] at h
    split at h
    · injection h with h; subst h; exact bulk_pos d
    · injection h with h; subst h; exact bulk_pos d
    · injection h with h; subst h; exact bulk_pos d
    · rename_i e hk
      split at h
      · rename_i ety hety
        split at h
        · rename_i hc
          injection h with h
          subst h
          obtain ⟨A, cap0, rfl, h1, h2, h3, h4⟩ := hh
          rcases Go.Deep.open_slice hk htr with ⟨he, h0⟩ | ⟨a, len, cap, m', n', D, Pl, he, _, hl, hm, hmm, hx, hi⟩
          · simp only [Prod.mk.injEq] at h0
            have : x = [] := by
              simp only [List.cons.injEq, Value.slice.injEq] at he
              exact List.eq_nil_of_length_eq_zero he.1.2.1
            subst this
            simp only [cnt, List.map_nil, List.sum_nil]
            exact bulk_pos d
          · simp only [if_true] at hmm
            subst hmm
            simp only [Prod.mk.injEq] at hx
            obtain ⟨rfl, rfl⟩ := hx
            simp only [List.cons.injEq, Value.slice.injEq, and_true] at he
            obtain ⟨rfl, hlen, hcap⟩ := he
            subst hlen
            simp only [cnt, Rows.uptoBulk]
            have := sum_le (cnt ety) x D (fun i hil => by
              obtain ⟨b, off, hA, _, hel⟩ := h4 (fun h => by subst h; simp at hil)
              obtain ⟨ecs, e1, e2, e3⟩ := hel i hil
              obtain ⟨cs', hcs', ht'⟩ := hi i (by omega)
              obtain ⟨_, hcl, hat⟩ := World.cells?_some hcs'
              rw [hc.1] at hcl hat
              simp only [Option.some.injEq] at hA
              subst hA
              have : ecs = cs' := by
                apply List.ext_getElem?
                intro j
                by_cases hj : j < ety.size
                · rw [← e2 j hj, ← hat j hj, Go.Deep.add_add]
                  congr 1
                  unfold Addr.add
                  simp [Nat.add_assoc]
                · rw [List.getElem?_eq_none (by omega), List.getElem?_eq_none (by omega)]
              subst this
              exact ih e ety hety n' ecs (D i) (Pl i) x[i] ht' e3)
            omega
        · cases h
      · cases h
    · rename_i fs hk
      split at h
      · rename_i ts hts
        split at h
        · rename_i hc
          injection h with h
          subst h
          obtain ⟨xs, n', _, hx, hcl, hxl, hf⟩ := DataW.trod_struct hk htr
          simp only [Prod.mk.injEq] at hx
          obtain ⟨rfl, rfl⟩ := hx
          simp only [Rows.uptoBulk]
          have := cnt_fields (enc := enc) (P := P) (w := w) (B := B) (tyOf P m) n' (fun t ty h cs d ps x h1 h2 => ih t ty h n' cs d ps x h1 h2) fs.toList 0 ts xs cs x hts (by simpa using hxl)
            (fun i f hif => hf i f (by simpa using hif)) (by simpa using hh)
          omega
        · cases h
      · cases h
    · cases h

/-- The arguments' data, each of a bulk no greater than N. -/
def SizedUp (N : Nat) (t : Ty) (x : t.val) : Prop := Sized t x ∧ cnt t x ≤ N

theorem argsHoldUp_of {N : Nat} (m : Nat) : ∀ (ts : List TypeId) (tys : List (Bool × Ty)), argTys P m ts = some tys → ∀ (vs : List Value) (ds : List (DataW H)) (ps : List MemPlace) (r : Go.Reach) (b0 : Nat),
    (∀ (j : Nat) t v, ts[j]? = some t → vs[j]? = some v → Value.okWide P w r b0 t v) → DataW.TrodAll enc P w 0 (fun _ => true) true ts vs ds ps → (∀ p ∈ ps, p.block < B) →
    (∀ k ∈ DataW.weightsEach P ts ds, k ≤ reachBytes) → (∀ d ∈ ds, Rows.uptoBulk d ≤ N) → ArgsHoldQ (SizedUp N) w B tys vs := by
  intro ts
  induction ts with
  | nil =>
    intro tys h vs ds ps r b0 _ htr _ _ _
    simp only [argTys, Option.some.injEq] at h
    subst h
    exact (trodAll_nil htr).1
  | cons t ts ih =>
    intro tys h vs ds ps r b0 hok htr hps hwt hN
    simp only [argTys] at h
    split at h
    · rename_i ty l hty hl
      injection h with h; subst h
      obtain ⟨v, vs', d, ds', p, q, rfl, rfl, rfl, h0, h1⟩ := trodAll_cons htr
      simp only [DataW.weightsEach] at hwt
      obtain ⟨cs, x, e, rfl, hx, hs⟩ := has_of_arg m hty (hok 0 t v rfl rfl) h0 (fun y hy => hps y (by simp [hy])) (fun k hk => hwt k (by simp [hk]))
      refine ⟨cs, x, vs', rfl, hx, ⟨hs, ?_⟩, ih l hl vs' ds' q r b0 (fun j t v h1 h2 => hok (j + 1) t v (by simpa using h1) (by simpa using h2)) h1 (fun y hy => hps y (by simp [hy])) (fun k hk => hwt k (by simp [hk])) (fun y hy => hN y (by simp [hy]))⟩
      obtain ⟨n, hn⟩ := h0
      rw [e] at hn
      exact Nat.le_trans (cnt_trod m t ty hty n cs d p x hn hx) (hN d (by simp))
    · cases h

/-- THE FRAME: a law that answers true and turns nothing that was there, where what it reads is of small bulk. -/
theorem law_lifted_upto {C : Checked} {os : Os} {f : FuncId} {fn : Func} {s : ChangeSpec} (m : Nat) (tys : List (Bool × Ty)) (tb : TypeId)
    (own : ownKnob C.prog.godebug = none) (hlo : laidOutB C.prog = true) (started : os.Started) (noInit : C.prog.inits.idxOf? f = none) (hfn : C.prog.funcs[f]? = some fn)
    (witness : ∃ (w : World) (tape : Tape) (i : Input), w.os = os ∧ (w.forCall tape i).Shaped C.prog ∧ i.vars = [] ∧ Input.okWide C.prog (w.forCall tape i) .any w.heap.size f i ∧
      (Rows.OpenSpec.upto s).pre6 enc C.prog fn [] false (w.forCall tape i).memory i.args ∧ ({} : Assume).holds C.prog (lone (Frame.enter C.prog f i.args .normal) [] (w.forCall tape i)))
    (hvars : s.vars = []) (hres : fn.resultTypes = #[tb]) (htb : C.prog.underlying tb = some .bool)
    (hspec : ∀ ds : List (DataW H), ds.length = fn.params.size → s.fn H ds = { results := [.lit (.bool true)], args := ds })
    (hread : fn.params.all (fun t => C.prog.readableRec t && decide (t < C.prog.types.size)) = true)
    (htys : argTys C.prog m fn.params.toList = some tys)
    (walk : ∀ (W : World) (args : Array Value), ArgsHoldQ (SizedUp 1048576) W W.heap.size tys args.toList → Calls C.prog f args W fun e W' => e = .returned (.bool true) ∧ Below W.heap.size W W')
    (F : Stop.Interp) :
    ReturnsInHanded {} C os f .any ((Rows.OpenSpec.upto s).pre6 enc C.prog fn [] false) (((Rows.OpenSpec.upto s).at F).post enc C.prog fn false true false false) := by
  refine returnsInHanded_of_cond_sized (s := Rows.OpenSpec.upto s) (k := Rows.uptoSmall) rfl own started noInit hfn witness ?_
  intro W base args ds gs before hval hW _ hk hsz _
  have hW' := hW
  obtain ⟨p, q, hA, hV, rfl, _, _⟩ := hW
  have hvars' : (Rows.OpenSpec.upto s).vars = [] := hvars
  rw [hvars'] at hV
  obtain ⟨rfl, rfl⟩ := trodVars_none hV
  simp only [List.append_nil] at hsz hW' hk
  have hvt : (Rows.OpenSpec.upto s).bare.plain.varTypes C.prog = [] := by
    have e : (Rows.OpenSpec.upto s).bare.plain.vars = [] := hvars
    simp [DataSpec.varTypes, e]
  rw [hvt, List.append_nil] at hsz
  have hlt : ∀ x ∈ p, x.block < W.heap.size := fun x hx => by simpa using hW'.lt x hx
  have hlen : ds.length = fn.params.size := by
    have : ∀ (ts : List TypeId) (vs : List Value) (ds : List (DataW H)) (ps : List MemPlace), DataW.TrodAll enc C.prog W 0 (fun _ => true) true ts vs ds ps → ds.length = ts.length := by
      intro ts
      induction ts with
      | nil => intro vs ds ps h; obtain ⟨_, rfl, _⟩ := trodAll_nil h; rfl
      | cons t ts ih =>
        intro vs ds ps h
        obtain ⟨v, vs', d, ds', p, q, rfl, rfl, rfl, h0, h1⟩ := trodAll_cons h
        simp [ih _ _ _ h1]
    simpa using this _ _ _ _ hA
  have hbulk : Rows.uptoBulkAll ds ≤ 1048576 := by simpa [Rows.uptoSmall] using hk
  have hargs := argsHoldUp_of (N := 1048576) (B := W.heap.size) m fn.params.toList tys htys args.toList ds p .any base (fun j t v h1 h2 => hval j t v (by simpa using h1) (by simpa using h2)) hA hlt
    (fun k hk => by simpa using List.all_eq_true.1 hsz k hk) (fun d hd => Nat.le_trans (bulkAll_mem hd) hbulk)
  refine (walk W args hargs).mono fun e W' ⟨he, hb⟩ => ⟨_, he, ds, [], p, [], p, [], hW', ?_, ?_, ?_, hb.frame _, fun h => by cases h⟩
  · rw [List.append_nil]
    show DataW.TrodAll enc C.prog W' _ _ _ _ _ (s.fn H ds).results _
    rw [hspec ds hlen, hres]
    exact trodAll_mk1 (shut_bool htb true)
  · rw [List.append_nil]
    show DataW.TrodAll enc C.prog W' _ _ _ _ _ (s.fn H ds).args _
    rw [hspec ds hlen]
    refine trodAll_below hlo hb fn.params.toList (fun t ht => ?_) args.toList ds p hA hlt
    have := Array.all_eq_true_iff_forall_mem.1 hread t (by simpa using ht)
    simpa using this
  · rw [List.append_nil]
    show DataW.TrodVars enc C.prog W' _ (Rows.OpenSpec.upto s).vars (s.fn H ds).vars _
    rw [hspec ds hlen, hvars']
    rfl
end
end Go.Proofs.Ytmecaddjeljliaa

namespace Go.Proofs.Ytmecaddjeljliaa
open Go Go.RowKit Go.ChangeShapes Go.WideShapes Go.ChangeAt
set_option linter.unusedVariables false
set_option linter.unusedSimpArgs false
abbrev tyV : Ty := .prod (.int .i64) (.int .i64)
abbrev tyF : Ty := .prod (.int .i64) (.prod (.int .i64) (.prod (.int .i64) (.prod (.int .i64) (.prod tyV (.prod (.slice 16 tyV) (.slice 16 tyV))))))
abbrev tyC : Ty := .prod (.int .i64) (.prod (.int .i64) (.prod (.slice 16 tyV) (.slice 96 tyF)))
abbrev tyM : Ty := .prod (.int .i64) (.prod (.int .i64) (.prod (.int .i64) (.slice 8 (.int .i64))))
abbrev tyX : Ty := .prod (.int .i64) (.prod (.int .i64) (.prod (.slice 16 tyV) (.slice 48 tyM)))
theorem frS_of {f : tyF.val} (h : Sized tyF f) : frS f := by
  obtain ⟨-, -, -, -, -, h6, h7⟩ := h
  have h6 := h6.1
  have h7 := h7.1
  exact ⟨by unfold reach; omega, by unfold reach; omega⟩
theorem clS_of {c : tyC.val} (h : Sized tyC c) : clS c := by
  obtain ⟨-, -, h3, h4⟩ := h
  have h3' := h3.1
  have h4' := h4.1
  exact ⟨by unfold reach; omega, by unfold reach; omega, fun f hf => frS_of (h4.2 f hf)⟩
theorem len_sumL {α : Type} (f : α → Nat) (h : ∀ x, 1 ≤ f x) (l : List α) : l.length ≤ (l.map f).sum := by
  induction l with
  | nil => simp
  | cons x r ih => have := h x; simp only [List.length_cons, List.map_cons, List.sum_cons]; omega
theorem mem_sumL {α : Type} (f : α → Nat) {l : List α} {x : α} (h : x ∈ l) : f x ≤ (l.map f).sum := by
  induction l with
  | nil => cases h
  | cons y r ih =>
    simp only [List.map_cons, List.sum_cons]
    rcases List.mem_cons.1 h with rfl | h
    · omega
    · have := ih h; omega
theorem cntX {x : tyX.val} {N : Nat} (h : cnt tyX x ≤ N) : x.2.2.2.length ≤ N ∧ ∀ m ∈ x.2.2.2, m.2.2.2.length ≤ N := by
  have h1 := len_sumL (cnt tyM) (fun x => by simp only [cnt]; omega) x.2.2.2
  simp only [cnt] at h h1
  refine ⟨by omega, fun m hm => ?_⟩
  have h2 := mem_sumL (cnt tyM) hm
  have h3 := len_sumL (cnt (.int .i64)) (fun x => by simp [cnt]) m.2.2.2
  simp only [cnt] at h2 h3
  omega
end Go.Proofs.Ytmecaddjeljliaa

namespace Go.Proofs.Ytmecaddjeljliaa
open Go Go.RowKit Go.ChangeShapes Go.WideShapes Go.ChangeAt
set_option linter.unusedVariables false
set_option linter.unusedSimpArgs false
abbrev tyTh : Ty := .prod (.slice 96 tyF) (.prod (.int .i64) (.prod (.int .i64) tyV))
abbrev tyE : Ty := .prod (.int .i64) tyV
abbrev tySt : Ty := .prod (.slice 64 tyC) (.prod (.slice 16 tyV) (.prod (.slice 16 .str) (.prod (.slice 56 tyTh) (.prod (.slice 24 tyE) (.prod (.slice 16 tyV) (.prod (.int .i64) (.int .i64)))))))
theorem stS_of {s : tySt.val} (h : Sized tySt s) : stS s := by
  obtain ⟨h1, h2, h3, h4, h5, h6, -⟩ := h
  have a1 := h1.1
  have a2 := h2.1
  have a3 := h3.1
  have a4 := h4.1
  have a5 := h5.1
  have a6 := h6.1
  refine ⟨by unfold reach; omega, fun c hc => clS_of (h1.2 c hc), by unfold reach; omega, by unfold reach; omega, by unfold reach; omega, fun t ht => ?_, by unfold reach; omega, by unfold reach; omega⟩
  obtain ⟨b1, -⟩ := h4.2 t ht
  have b2 := b1.1
  exact ⟨by unfold reach; omega, fun f hf => frS_of (b1.2 f hf)⟩
end Go.Proofs.Ytmecaddjeljliaa

namespace Go.Proofs.Ytmecaddjeljliaa
open Go Go.RowKit
set_option linter.unusedVariables false
set_option linter.unusedSimpArgs false
set_option maxHeartbeats 8000000 in
theorem leavebare_z {s : St} {th at_ st : Int} (hs : stS s) :
    ZC (constX tbL) (cFunc Try.prog) 4 [.agg (eSt s), Z64 th, Z64 at_, Z64 st] (fun _ => true) [] fun z _ => z = ZBo true := by
  refine ZC.enter ⟨[(23, [(2, 1002), (3, 1004)])], [], []⟩ constX_none f_l_leavebare (by simp) ?_
  simp only [c_l_leavebare]
  have HS := Lib.hid hs
  obtain ⟨cells, shapes, texts, ths, ends, said, asked, steps⟩ := s
  simp only [eSt]
  clear hs
  have fin : ∀ X, Fin [] (ZBo true) X (fun z _ => z = ZBo true) := fun X => Fin.trunc (Mods.ext [] X) rfl rfl
  repeat' (first | (simp only [zmPack, zfree, owners, Nat.reduceLT, List.filter_cons, List.filter_nil, List.contains_cons, List.contains_nil, Nat.reduceBEq, Bool.or_false, Bool.or_true, Bool.false_or, Bool.true_or, BEq.rfl, chunk, setAt, List.lookup_cons, List.lookup_nil, ZV.val.injEq, ZV.ptr.injEq, ZV.own.injEq, ZV.fz.injEq, ZV.func.injEq, ZV.tuple.injEq, ZV.agg.injEq, ZB.box.injEq, ZB.grow.injEq, Bool.not_eq_false', Prod.mk.injEq, and_assoc, decide_false, decide_true, Bool.not_false, Bool.not_true, Bool.true_eq_false, Bool.false_eq_true, exists_false, Bool.not_eq_false, Bool.not_not, Value.bool.injEq, Value.int.injEq, Option.some.injEq, exists_eq_left', exists_eq_left, exists_and_left, exists_and_right, and_true, true_and, decide_eq_true_eq, decide_eq_false_iff_not, if_true, if_false, Bool.not_eq_true', beq_true, beq_false, ne_eq, not_true_eq_false, not_false_eq_true, reduceCtorEq, List.getD_cons_zero, List.getD_cons_succ, List.getD_nil, List.map_cons, List.map_nil, List.append_nil, Nat.reduceEqDiff, reduceIte, ite_true, ite_false, or_true, true_or, or_false, false_or, true_imp_iff, false_imp_iff, implies_true, imp_false, and_self, imp_self, and_false, false_and, forall_const, take_map_all, Nat.le_refl, Nat.reduceMul, Nat.reduceSub, List.length_cons, List.length_nil, List.length_map, List.length_set, List.all_cons, List.all_nil, Bool.and_self, Option.map_none, Option.map_some, List.set_cons_zero, List.set_cons_succ, Nat.lt_add_one, List.append_assoc, List.cons_append, List.nil_append, List.append_nil, List.length_append, List.take_zero, List.take_succ_cons, List.take_nil, List.drop_zero, List.drop_succ_cons, List.drop_nil, List.getElem?_cons_zero, List.getElem?_cons_succ, List.getElem?_map, Nat.reduceAdd, Nat.reduceLeDiff, Nat.add_eq_zero_iff, and_self, Nat.zero_add, Nat.add_zero, Nat.mul_one, Nat.one_mul, List.flatten_cons, List.flatten_nil, *]) | (simp only [zgoO, zgoG, zO_nil, zthen_normal, zgoC]) | (with_reducible apply And.intro) | (with_reducible intro _))
  refine leftby_z ?_
  repeat' (first | (simp only [zmPack, zfree, owners, Nat.reduceLT, List.filter_cons, List.filter_nil, List.contains_cons, List.contains_nil, Nat.reduceBEq, Bool.or_false, Bool.or_true, Bool.false_or, Bool.true_or, BEq.rfl, chunk, setAt, List.lookup_cons, List.lookup_nil, ZV.val.injEq, ZV.ptr.injEq, ZV.own.injEq, ZV.fz.injEq, ZV.func.injEq, ZV.tuple.injEq, ZV.agg.injEq, ZB.box.injEq, ZB.grow.injEq, Bool.not_eq_false', Prod.mk.injEq, and_assoc, decide_false, decide_true, Bool.not_false, Bool.not_true, Bool.true_eq_false, Bool.false_eq_true, exists_false, Bool.not_eq_false, Bool.not_not, Value.bool.injEq, Value.int.injEq, Option.some.injEq, exists_eq_left', exists_eq_left, exists_and_left, exists_and_right, and_true, true_and, decide_eq_true_eq, decide_eq_false_iff_not, if_true, if_false, Bool.not_eq_true', beq_true, beq_false, ne_eq, not_true_eq_false, not_false_eq_true, reduceCtorEq, List.getD_cons_zero, List.getD_cons_succ, List.getD_nil, List.map_cons, List.map_nil, List.append_nil, Nat.reduceEqDiff, reduceIte, ite_true, ite_false, or_true, true_or, or_false, false_or, true_imp_iff, false_imp_iff, implies_true, imp_false, and_self, imp_self, and_false, false_and, forall_const, take_map_all, Nat.le_refl, Nat.reduceMul, Nat.reduceSub, List.length_cons, List.length_nil, List.length_map, List.length_set, List.all_cons, List.all_nil, Bool.and_self, Option.map_none, Option.map_some, List.set_cons_zero, List.set_cons_succ, Nat.lt_add_one, List.append_assoc, List.cons_append, List.nil_append, List.append_nil, List.length_append, List.take_zero, List.take_succ_cons, List.take_nil, List.drop_zero, List.drop_succ_cons, List.drop_nil, List.getElem?_cons_zero, List.getElem?_cons_succ, List.getElem?_map, Nat.reduceAdd, Nat.reduceLeDiff, Nat.add_eq_zero_iff, and_self, Nat.zero_add, Nat.add_zero, Nat.mul_one, Nat.one_mul, List.flatten_cons, List.flatten_nil, *]) | (simp only [zgoO, zgoG, zO_nil, zthen_normal, zgoC]) | (with_reducible apply And.intro) | (with_reducible intro _))
  refine rest_z (by omega) ?_
  obtain ⟨r, hr⟩ : ∃ r, r = st % 1000 := ⟨_, rfl⟩
  rw [← hr]
  have HR := Lib.hid hr
  clear hr
  repeat' (first | (simp only [zmPack, zfree, owners, Nat.reduceLT, List.filter_cons, List.filter_nil, List.contains_cons, List.contains_nil, Nat.reduceBEq, Bool.or_false, Bool.or_true, Bool.false_or, Bool.true_or, BEq.rfl, chunk, setAt, List.lookup_cons, List.lookup_nil, ZV.val.injEq, ZV.ptr.injEq, ZV.own.injEq, ZV.fz.injEq, ZV.func.injEq, ZV.tuple.injEq, ZV.agg.injEq, ZB.box.injEq, ZB.grow.injEq, Bool.not_eq_false', Prod.mk.injEq, and_assoc, decide_false, decide_true, Bool.not_false, Bool.not_true, Bool.true_eq_false, Bool.false_eq_true, exists_false, Bool.not_eq_false, Bool.not_not, Value.bool.injEq, Value.int.injEq, Option.some.injEq, exists_eq_left', exists_eq_left, exists_and_left, exists_and_right, and_true, true_and, decide_eq_true_eq, decide_eq_false_iff_not, if_true, if_false, Bool.not_eq_true', beq_true, beq_false, ne_eq, not_true_eq_false, not_false_eq_true, reduceCtorEq, List.getD_cons_zero, List.getD_cons_succ, List.getD_nil, List.map_cons, List.map_nil, List.append_nil, Nat.reduceEqDiff, reduceIte, ite_true, ite_false, or_true, true_or, or_false, false_or, true_imp_iff, false_imp_iff, implies_true, imp_false, and_self, imp_self, and_false, false_and, forall_const, take_map_all, Nat.le_refl, Nat.reduceMul, Nat.reduceSub, List.length_cons, List.length_nil, List.length_map, List.length_set, List.all_cons, List.all_nil, Bool.and_self, Option.map_none, Option.map_some, List.set_cons_zero, List.set_cons_succ, Nat.lt_add_one, List.append_assoc, List.cons_append, List.nil_append, List.append_nil, List.length_append, List.take_zero, List.take_succ_cons, List.take_nil, List.drop_zero, List.drop_succ_cons, List.drop_nil, List.getElem?_cons_zero, List.getElem?_cons_succ, List.getElem?_map, Nat.reduceAdd, Nat.reduceLeDiff, Nat.add_eq_zero_iff, and_self, Nat.zero_add, Nat.add_zero, Nat.mul_one, Nat.one_mul, List.flatten_cons, List.flatten_nil, ownC_fz, *]) | (simp only [zgoO, zgoG, zO_nil, zthen_normal, zgoC]) | (with_reducible apply And.intro) | (with_reducible intro _))
  refine ZC.nil3 (k := 2) ?_
  refine out_z (s := (cells, shapes, texts, ths, ends, said, asked, steps)) (sets := []) (ms := []) (vals := []) HS.out (by simp) (by simp) (by simp) (fun h => ?_) (fun _ E hE he => absurd he.symm hE) (fun _ _ h => absurd rfl h) (fun h _ _ => ?_)
  · clear h
    have n5 : ¬ (5 : Int) = 0 := by omega
    repeat' (first | (simp only [zmPack, zfree, owners, Nat.reduceLT, List.filter_cons, List.filter_nil, List.contains_cons, List.contains_nil, Nat.reduceBEq, Bool.or_false, Bool.or_true, Bool.false_or, Bool.true_or, BEq.rfl, chunk, setAt, List.lookup_cons, List.lookup_nil, ZV.val.injEq, ZV.ptr.injEq, ZV.own.injEq, ZV.fz.injEq, ZV.func.injEq, ZV.tuple.injEq, ZV.agg.injEq, ZB.box.injEq, ZB.grow.injEq, Bool.not_eq_false', Prod.mk.injEq, and_assoc, decide_false, decide_true, Bool.not_false, Bool.not_true, Bool.true_eq_false, Bool.false_eq_true, exists_false, Bool.not_eq_false, Bool.not_not, Value.bool.injEq, Value.int.injEq, Option.some.injEq, exists_eq_left', exists_eq_left, exists_and_left, exists_and_right, and_true, true_and, decide_eq_true_eq, decide_eq_false_iff_not, if_true, if_false, Bool.not_eq_true', beq_true, beq_false, ne_eq, not_true_eq_false, not_false_eq_true, reduceCtorEq, List.getD_cons_zero, List.getD_cons_succ, List.getD_nil, List.map_cons, List.map_nil, List.append_nil, Nat.reduceEqDiff, reduceIte, ite_true, ite_false, or_true, true_or, or_false, false_or, true_imp_iff, false_imp_iff, implies_true, imp_false, and_self, imp_self, and_false, false_and, forall_const, take_map_all, Nat.le_refl, Nat.reduceMul, Nat.reduceSub, List.length_cons, List.length_nil, List.length_map, List.length_set, List.all_cons, List.all_nil, Bool.and_self, Option.map_none, Option.map_some, List.set_cons_zero, List.set_cons_succ, Nat.lt_add_one, List.append_assoc, List.cons_append, List.nil_append, List.append_nil, List.length_append, List.take_zero, List.take_succ_cons, List.take_nil, List.drop_zero, List.drop_succ_cons, List.drop_nil, List.getElem?_cons_zero, List.getElem?_cons_succ, List.getElem?_map, Nat.reduceAdd, Nat.reduceLeDiff, Nat.add_eq_zero_iff, and_self, Nat.zero_add, Nat.add_zero, Nat.mul_one, Nat.one_mul, List.flatten_cons, List.flatten_nil, n5, *]) | (simp only [zgoO, zgoG, zO_nil, zthen_normal, zgoC]) | (with_reducible apply And.intro) | (with_reducible intro _))
    refine leftby_z ?_
    repeat' (first | (simp only [zmPack, zfree, owners, Nat.reduceLT, List.filter_cons, List.filter_nil, List.contains_cons, List.contains_nil, Nat.reduceBEq, Bool.or_false, Bool.or_true, Bool.false_or, Bool.true_or, BEq.rfl, chunk, setAt, List.lookup_cons, List.lookup_nil, ZV.val.injEq, ZV.ptr.injEq, ZV.own.injEq, ZV.fz.injEq, ZV.func.injEq, ZV.tuple.injEq, ZV.agg.injEq, ZB.box.injEq, ZB.grow.injEq, Bool.not_eq_false', Prod.mk.injEq, and_assoc, decide_false, decide_true, Bool.not_false, Bool.not_true, Bool.true_eq_false, Bool.false_eq_true, exists_false, Bool.not_eq_false, Bool.not_not, Value.bool.injEq, Value.int.injEq, Option.some.injEq, exists_eq_left', exists_eq_left, exists_and_left, exists_and_right, and_true, true_and, decide_eq_true_eq, decide_eq_false_iff_not, if_true, if_false, Bool.not_eq_true', beq_true, beq_false, ne_eq, not_true_eq_false, not_false_eq_true, reduceCtorEq, List.getD_cons_zero, List.getD_cons_succ, List.getD_nil, List.map_cons, List.map_nil, List.append_nil, Nat.reduceEqDiff, reduceIte, ite_true, ite_false, or_true, true_or, or_false, false_or, true_imp_iff, false_imp_iff, implies_true, imp_false, and_self, imp_self, and_false, false_and, forall_const, take_map_all, Nat.le_refl, Nat.reduceMul, Nat.reduceSub, List.length_cons, List.length_nil, List.length_map, List.length_set, List.all_cons, List.all_nil, Bool.and_self, Option.map_none, Option.map_some, List.set_cons_zero, List.set_cons_succ, Nat.lt_add_one, List.append_assoc, List.cons_append, List.nil_append, List.append_nil, List.length_append, List.take_zero, List.take_succ_cons, List.take_nil, List.drop_zero, List.drop_succ_cons, List.drop_nil, List.getElem?_cons_zero, List.getElem?_cons_succ, List.getElem?_map, Nat.reduceAdd, Nat.reduceLeDiff, Nat.add_eq_zero_iff, and_self, Nat.zero_add, Nat.add_zero, Nat.mul_one, Nat.one_mul, List.flatten_cons, List.flatten_nil, *]) | (simp only [zgoO, zgoG, zO_nil, zthen_normal, zgoC]) | (with_reducible apply And.intro) | (with_reducible intro _))
  · simp only at h
    unfold noTh at h
    simp only [not_or] at h
    obtain ⟨c1, c2, c3⟩ := h
    obtain ⟨t, rfl⟩ : ∃ t : Nat, th = t := ⟨th.toNat, by omega⟩
    have ht : t < ths.length := by omega
    have hx : ths[t]? = some ths[t] := List.getElem?_eq_getElem ht
    have hg : ths.getD t ([], 0, 0, 0, 0) = ths[t] := by simp [List.getD, hx]
    rw [show (((t : Nat) : Int)).toNat = t by omega] at c3 ⊢
    rw [hg] at c3
    have hsz := HS.out.t2 ths[t] (List.getElem_mem ht)
    obtain ⟨q, hq⟩ : ∃ q, q = ths[t] := ⟨_, rfl⟩
    rw [← hq] at hx hg hsz c3
    obtain ⟨frs, q2, q3, q4, q5⟩ := q
    simp only at c3 hsz
    have hfl : 0 < frs.length := List.length_pos_iff.2 c3
    have hm : frs.length - 1 < frs.length := by omega
    have hyl : frs[frs.length - 1]? = some frs[frs.length - 1] := List.getElem?_eq_getElem hm
    have hfs := hsz.2 frs[frs.length - 1] (List.getElem_mem hm)
    have hlf : lastF ths t = frs[frs.length - 1] := by unfold lastF; rw [hg]; simp [List.getD, hyl]
    obtain ⟨lf, hlfe⟩ : ∃ lf, lf = frs[frs.length - 1] := ⟨_, rfl⟩
    rw [← hlfe] at hyl hfs hlf
    have hO : outSt (cells, shapes, texts, ths, ends, said, asked, steps) t at_ r [] [] [] = (cells, shapes, texts, outTh ths t (frOut lf at_ [] []), ends, said, asked, IntKind.i64.wrap (steps + r)) := by
      unfold outSt; rw [hlf]; rfl
    rw [hO]
    obtain ⟨l1, l2, l3, l4, ⟨l5, l6⟩, l7, l8⟩ := lf
    have hfo : frOut (l1, l2, l3, l4, (l5, l6), l7, l8) at_ [] [] = (l1, at_, l3, l4, (l5, l6), l7, l8) := rfl
    rw [hfo]
    have hth : (outTh ths t (l1, at_, l3, l4, (l5, l6), l7, l8))[t]? = some (frs.set (frs.length - 1) (l1, at_, l3, l4, (l5, l6), l7, l8), q2, q3, (q4, q5)) := by
      unfold outTh; rw [hg, List.getElem?_set]; simp [ht]
    have htl : t < (outTh ths t (l1, at_, l3, l4, (l5, l6), l7, l8)).length := by unfold outTh; simpa using ht
    have hnl : (frs.set (frs.length - 1) (l1, at_, l3, l4, (l5, l6), l7, l8)).length = frs.length := by simp
    have hnx : (frs.set (frs.length - 1) (l1, at_, l3, l4, (l5, l6), l7, l8))[frs.length - 1]? = some (l1, at_, l3, l4, (l5, l6), l7, l8) := by rw [List.getElem?_set]; simp [hm]
    obtain ⟨T, hT⟩ : ∃ T, T = outTh ths t (l1, at_, l3, l4, (l5, l6), l7, l8) := ⟨_, rfl⟩
    rw [← hT] at hth htl ⊢
    obtain ⟨N, hN⟩ : ∃ N, N = frs.set (frs.length - 1) (l1, at_, l3, l4, (l5, l6), l7, l8) := ⟨_, rfl⟩
    rw [← hN] at hth hnl hnx
    have hws : IntKind.i64.wrap ((frs.length : Int) - 1) = ((frs.length - 1 : Nat) : Int) := by
      have := hsz.1
      unfold reach at this
      rw [IntWalk.i64_in _ (by omega)]; omega
    have hmn : frs.length - 1 < N.length := by omega
    have FS := Lib.hid hfs
    have hcl : cells.length < 9223372036854775807 := by have := HS.out.c1; simp only at this; unfold reach at this; omega
    clear hq hg hlf hlfe hO hfo hT hN c3 hsz hfs
    simp only [eSt]
    repeat' (first | (simp only [zmPack, zfree, owners, Nat.reduceLT, List.filter_cons, List.filter_nil, List.contains_cons, List.contains_nil, Nat.reduceBEq, Bool.or_false, Bool.or_true, Bool.false_or, Bool.true_or, BEq.rfl, chunk, setAt, List.lookup_cons, List.lookup_nil, ZV.val.injEq, ZV.ptr.injEq, ZV.own.injEq, ZV.fz.injEq, ZV.func.injEq, ZV.tuple.injEq, ZV.agg.injEq, ZB.box.injEq, ZB.grow.injEq, Bool.not_eq_false', Prod.mk.injEq, and_assoc, decide_false, decide_true, Bool.not_false, Bool.not_true, Bool.true_eq_false, Bool.false_eq_true, exists_false, Bool.not_eq_false, Bool.not_not, Value.bool.injEq, Value.int.injEq, Option.some.injEq, exists_eq_left', exists_eq_left, exists_and_left, exists_and_right, and_true, true_and, decide_eq_true_eq, decide_eq_false_iff_not, if_true, if_false, Bool.not_eq_true', beq_true, beq_false, ne_eq, not_true_eq_false, not_false_eq_true, reduceCtorEq, List.getD_cons_zero, List.getD_cons_succ, List.getD_nil, List.map_cons, List.map_nil, List.append_nil, Nat.reduceEqDiff, reduceIte, ite_true, ite_false, or_true, true_or, or_false, false_or, true_imp_iff, false_imp_iff, implies_true, imp_false, and_self, imp_self, and_false, false_and, forall_const, take_map_all, Nat.le_refl, Nat.reduceMul, Nat.reduceSub, List.length_cons, List.length_nil, List.length_map, List.length_set, List.all_cons, List.all_nil, Bool.and_self, Option.map_none, Option.map_some, List.set_cons_zero, List.set_cons_succ, Nat.lt_add_one, List.append_assoc, List.cons_append, List.nil_append, List.append_nil, List.length_append, List.take_zero, List.take_succ_cons, List.take_nil, List.drop_zero, List.drop_succ_cons, List.drop_nil, List.getElem?_cons_zero, List.getElem?_cons_succ, List.getElem?_map, Nat.reduceAdd, Nat.reduceLeDiff, Nat.add_eq_zero_iff, and_self, Nat.zero_add, Nat.add_zero, Nat.mul_one, Nat.one_mul, List.flatten_cons, List.flatten_nil, hx, ht, hth, htl, hws, hyl, hm, *]) | (simp only [zgoO, zgoG, zO_nil, zthen_normal, zgoC]) | (with_reducible apply And.intro) | (with_reducible intro _))
    refine zW_forK [(4, .ptr 0 0), (9, .ptr 1 0), (11, .fz 8 false (frs.map eF)), (12, .fz 8 false (N.map eF)), (13, .ptr 2 0), (3, Z64 st)] cells.length (fun k s' h' => h' = [.box [.fz 4 false (cells.map eC), .fz 2 false (shapes.map eP), .fz 1 false (texts.map eS), .fz 5 false (ths.map eT), .fz 3 false (ends.map eN), .fz 2 false (said.map eP), Z64 asked, Z64 steps], .box [.fz 4 false (cells.map eC), .fz 2 false (shapes.map eP), .fz 1 false (texts.map eS), .fz 5 false (T.map eT), .fz 3 false (ends.map eN), .fz 2 false (said.map eP), Z64 asked, Z64 (IntKind.i64.wrap (steps + r))], .box (eF (l1, at_, l3, l4, (l5, l6), l7, l8))]) (by omega) ⟨rfl, rfl, rfl, rfl, rfl, rfl⟩ rfl rfl (by repeat' (first | exact trivial | (refine ⟨rfl, ?_⟩) | (refine ⟨by simp only [zupd_at, Nat.reduceEqDiff, reduceIte]; assumption, ?_⟩))) rfl rfl (by decide) rfl ?_ ?_
    · rintro k s' h' hk rfl hi hll ⟨f4, f9, f11, f12, f13, f3, -⟩
      have hxk : cells[k]? = some cells[k] := List.getElem?_eq_getElem hk
      have hsk := HS.out.c2 cells[k] (List.getElem_mem hk)
      obtain ⟨c, hc⟩ : ∃ c, c = cells[k] := ⟨_, rfl⟩
      rw [← hc] at hxk hsk
      have HSK := Lib.hid hsk
      clear hc hsk
      obtain ⟨d1, d2, d3, d4⟩ := c
      repeat' (first | (simp only [zmPack, zfree, owners, Nat.reduceLT, List.filter_cons, List.filter_nil, List.contains_cons, List.contains_nil, Nat.reduceBEq, Bool.or_false, Bool.or_true, Bool.false_or, Bool.true_or, BEq.rfl, chunk, setAt, List.lookup_cons, List.lookup_nil, ZV.val.injEq, ZV.ptr.injEq, ZV.own.injEq, ZV.fz.injEq, ZV.func.injEq, ZV.tuple.injEq, ZV.agg.injEq, ZB.box.injEq, ZB.grow.injEq, Bool.not_eq_false', Prod.mk.injEq, and_assoc, decide_false, decide_true, Bool.not_false, Bool.not_true, Bool.true_eq_false, Bool.false_eq_true, exists_false, Bool.not_eq_false, Bool.not_not, Value.bool.injEq, Value.int.injEq, Option.some.injEq, exists_eq_left', exists_eq_left, exists_and_left, exists_and_right, and_true, true_and, decide_eq_true_eq, decide_eq_false_iff_not, if_true, if_false, Bool.not_eq_true', beq_true, beq_false, ne_eq, not_true_eq_false, not_false_eq_true, reduceCtorEq, List.getD_cons_zero, List.getD_cons_succ, List.getD_nil, List.map_cons, List.map_nil, List.append_nil, Nat.reduceEqDiff, reduceIte, ite_true, ite_false, or_true, true_or, or_false, false_or, true_imp_iff, false_imp_iff, implies_true, imp_false, and_self, imp_self, and_false, false_and, forall_const, take_map_all, Nat.le_refl, Nat.reduceMul, Nat.reduceSub, List.length_cons, List.length_nil, List.length_map, List.length_set, List.all_cons, List.all_nil, Bool.and_self, Option.map_none, Option.map_some, List.set_cons_zero, List.set_cons_succ, Nat.lt_add_one, List.append_assoc, List.cons_append, List.nil_append, List.append_nil, List.length_append, List.take_zero, List.take_succ_cons, List.take_nil, List.drop_zero, List.drop_succ_cons, List.drop_nil, List.getElem?_cons_zero, List.getElem?_cons_succ, List.getElem?_map, Nat.reduceAdd, Nat.reduceLeDiff, Nat.add_eq_zero_iff, and_self, Nat.zero_add, Nat.add_zero, Nat.mul_one, Nat.one_mul, List.flatten_cons, List.flatten_nil, hxk, hk, *]) | (simp only [zgoO, zgoG, zO_nil, zthen_normal, zgoC]) | (with_reducible apply And.intro) | (with_reducible intro _))
      refine samecell_z (c := (d1, d2, d3, d4)) (by have := HSK.out.1; unfold reach at this; omega) (by have := HSK.out.2.1; unfold reach at this; omega) (fun f hf => ⟨by have := (HSK.out.2.2 f hf).1; unfold reach at this; omega, by have := (HSK.out.2.2 f hf).2; unfold reach at this; omega⟩) ?_
      repeat' (first | (simp only [zmPack, zfree, owners, Nat.reduceLT, List.filter_cons, List.filter_nil, List.contains_cons, List.contains_nil, Nat.reduceBEq, Bool.or_false, Bool.or_true, Bool.false_or, Bool.true_or, BEq.rfl, chunk, setAt, List.lookup_cons, List.lookup_nil, ZV.val.injEq, ZV.ptr.injEq, ZV.own.injEq, ZV.fz.injEq, ZV.func.injEq, ZV.tuple.injEq, ZV.agg.injEq, ZB.box.injEq, ZB.grow.injEq, Bool.not_eq_false', Prod.mk.injEq, and_assoc, decide_false, decide_true, Bool.not_false, Bool.not_true, Bool.true_eq_false, Bool.false_eq_true, exists_false, Bool.not_eq_false, Bool.not_not, Value.bool.injEq, Value.int.injEq, Option.some.injEq, exists_eq_left', exists_eq_left, exists_and_left, exists_and_right, and_true, true_and, decide_eq_true_eq, decide_eq_false_iff_not, if_true, if_false, Bool.not_eq_true', beq_true, beq_false, ne_eq, not_true_eq_false, not_false_eq_true, reduceCtorEq, List.getD_cons_zero, List.getD_cons_succ, List.getD_nil, List.map_cons, List.map_nil, List.append_nil, Nat.reduceEqDiff, reduceIte, ite_true, ite_false, or_true, true_or, or_false, false_or, true_imp_iff, false_imp_iff, implies_true, imp_false, and_self, imp_self, and_false, false_and, forall_const, take_map_all, Nat.le_refl, Nat.reduceMul, Nat.reduceSub, List.length_cons, List.length_nil, List.length_map, List.length_set, List.all_cons, List.all_nil, Bool.and_self, Option.map_none, Option.map_some, List.set_cons_zero, List.set_cons_succ, Nat.lt_add_one, List.append_assoc, List.cons_append, List.nil_append, List.append_nil, List.length_append, List.take_zero, List.take_succ_cons, List.take_nil, List.drop_zero, List.drop_succ_cons, List.drop_nil, List.getElem?_cons_zero, List.getElem?_cons_succ, List.getElem?_map, Nat.reduceAdd, Nat.reduceLeDiff, Nat.add_eq_zero_iff, and_self, Nat.zero_add, Nat.add_zero, Nat.mul_one, Nat.one_mul, List.flatten_cons, List.flatten_nil, *]) | (simp only [zgoO, zgoG, zO_nil, zthen_normal, zgoC]) | (with_reducible apply And.intro) | (with_reducible intro _))
    · rintro s' h' rfl ⟨f4, f9, f11, f12, f13, f3, -⟩
      repeat' (first | (simp only [zmPack, zfree, owners, Nat.reduceLT, List.filter_cons, List.filter_nil, List.contains_cons, List.contains_nil, Nat.reduceBEq, Bool.or_false, Bool.or_true, Bool.false_or, Bool.true_or, BEq.rfl, chunk, setAt, List.lookup_cons, List.lookup_nil, ZV.val.injEq, ZV.ptr.injEq, ZV.own.injEq, ZV.fz.injEq, ZV.func.injEq, ZV.tuple.injEq, ZV.agg.injEq, ZB.box.injEq, ZB.grow.injEq, Bool.not_eq_false', Prod.mk.injEq, and_assoc, decide_false, decide_true, Bool.not_false, Bool.not_true, Bool.true_eq_false, Bool.false_eq_true, exists_false, Bool.not_eq_false, Bool.not_not, Value.bool.injEq, Value.int.injEq, Option.some.injEq, exists_eq_left', exists_eq_left, exists_and_left, exists_and_right, and_true, true_and, decide_eq_true_eq, decide_eq_false_iff_not, if_true, if_false, Bool.not_eq_true', beq_true, beq_false, ne_eq, not_true_eq_false, not_false_eq_true, reduceCtorEq, List.getD_cons_zero, List.getD_cons_succ, List.getD_nil, List.map_cons, List.map_nil, List.append_nil, Nat.reduceEqDiff, reduceIte, ite_true, ite_false, or_true, true_or, or_false, false_or, true_imp_iff, false_imp_iff, implies_true, imp_false, and_self, imp_self, and_false, false_and, forall_const, take_map_all, Nat.le_refl, Nat.reduceMul, Nat.reduceSub, List.length_cons, List.length_nil, List.length_map, List.length_set, List.all_cons, List.all_nil, Bool.and_self, Option.map_none, Option.map_some, List.set_cons_zero, List.set_cons_succ, Nat.lt_add_one, List.append_assoc, List.cons_append, List.nil_append, List.append_nil, List.length_append, List.take_zero, List.take_succ_cons, List.take_nil, List.drop_zero, List.drop_succ_cons, List.drop_nil, List.getElem?_cons_zero, List.getElem?_cons_succ, List.getElem?_map, Nat.reduceAdd, Nat.reduceLeDiff, Nat.add_eq_zero_iff, and_self, Nat.zero_add, Nat.add_zero, Nat.mul_one, Nat.one_mul, List.flatten_cons, List.flatten_nil, *]) | (simp only [zgoO, zgoG, zO_nil, zthen_normal, zgoC]) | (with_reducible apply And.intro) | (with_reducible intro _))
      refine leftby_z ?_
      repeat' (first | (simp only [zmPack, zfree, owners, Nat.reduceLT, List.filter_cons, List.filter_nil, List.contains_cons, List.contains_nil, Nat.reduceBEq, Bool.or_false, Bool.or_true, Bool.false_or, Bool.true_or, BEq.rfl, chunk, setAt, List.lookup_cons, List.lookup_nil, ZV.val.injEq, ZV.ptr.injEq, ZV.own.injEq, ZV.fz.injEq, ZV.func.injEq, ZV.tuple.injEq, ZV.agg.injEq, ZB.box.injEq, ZB.grow.injEq, Bool.not_eq_false', Prod.mk.injEq, and_assoc, decide_false, decide_true, Bool.not_false, Bool.not_true, Bool.true_eq_false, Bool.false_eq_true, exists_false, Bool.not_eq_false, Bool.not_not, Value.bool.injEq, Value.int.injEq, Option.some.injEq, exists_eq_left', exists_eq_left, exists_and_left, exists_and_right, and_true, true_and, decide_eq_true_eq, decide_eq_false_iff_not, if_true, if_false, Bool.not_eq_true', beq_true, beq_false, ne_eq, not_true_eq_false, not_false_eq_true, reduceCtorEq, List.getD_cons_zero, List.getD_cons_succ, List.getD_nil, List.map_cons, List.map_nil, List.append_nil, Nat.reduceEqDiff, reduceIte, ite_true, ite_false, or_true, true_or, or_false, false_or, true_imp_iff, false_imp_iff, implies_true, imp_false, and_self, imp_self, and_false, false_and, forall_const, take_map_all, Nat.le_refl, Nat.reduceMul, Nat.reduceSub, List.length_cons, List.length_nil, List.length_map, List.length_set, List.all_cons, List.all_nil, Bool.and_self, Option.map_none, Option.map_some, List.set_cons_zero, List.set_cons_succ, Nat.lt_add_one, List.append_assoc, List.cons_append, List.nil_append, List.append_nil, List.length_append, List.take_zero, List.take_succ_cons, List.take_nil, List.drop_zero, List.drop_succ_cons, List.drop_nil, List.getElem?_cons_zero, List.getElem?_cons_succ, List.getElem?_map, Nat.reduceAdd, Nat.reduceLeDiff, Nat.add_eq_zero_iff, and_self, Nat.zero_add, Nat.add_zero, Nat.mul_one, Nat.one_mul, List.flatten_cons, List.flatten_nil, hnl, hws, hnx, hmn, *]) | (simp only [zgoO, zgoG, zO_nil, zthen_normal, zgoC]) | (with_reducible apply And.intro) | (with_reducible intro _))
      refine sameframe_z (f := (l1, at_, l3, l4, (l5, l6), l7, l8)) (by have := FS.out.1; unfold reach at this; simp only at this ⊢; omega) (by have := FS.out.2; unfold reach at this; simp only at this ⊢; omega) ?_
      repeat' (first | (simp only [zmPack, zfree, owners, Nat.reduceLT, List.filter_cons, List.filter_nil, List.contains_cons, List.contains_nil, Nat.reduceBEq, Bool.or_false, Bool.or_true, Bool.false_or, Bool.true_or, BEq.rfl, chunk, setAt, List.lookup_cons, List.lookup_nil, ZV.val.injEq, ZV.ptr.injEq, ZV.own.injEq, ZV.fz.injEq, ZV.func.injEq, ZV.tuple.injEq, ZV.agg.injEq, ZB.box.injEq, ZB.grow.injEq, Bool.not_eq_false', Prod.mk.injEq, and_assoc, decide_false, decide_true, Bool.not_false, Bool.not_true, Bool.true_eq_false, Bool.false_eq_true, exists_false, Bool.not_eq_false, Bool.not_not, Value.bool.injEq, Value.int.injEq, Option.some.injEq, exists_eq_left', exists_eq_left, exists_and_left, exists_and_right, and_true, true_and, decide_eq_true_eq, decide_eq_false_iff_not, if_true, if_false, Bool.not_eq_true', beq_true, beq_false, ne_eq, not_true_eq_false, not_false_eq_true, reduceCtorEq, List.getD_cons_zero, List.getD_cons_succ, List.getD_nil, List.map_cons, List.map_nil, List.append_nil, Nat.reduceEqDiff, reduceIte, ite_true, ite_false, or_true, true_or, or_false, false_or, true_imp_iff, false_imp_iff, implies_true, imp_false, and_self, imp_self, and_false, false_and, forall_const, take_map_all, Nat.le_refl, Nat.reduceMul, Nat.reduceSub, List.length_cons, List.length_nil, List.length_map, List.length_set, List.all_cons, List.all_nil, Bool.and_self, Option.map_none, Option.map_some, List.set_cons_zero, List.set_cons_succ, Nat.lt_add_one, List.append_assoc, List.cons_append, List.nil_append, List.append_nil, List.length_append, List.take_zero, List.take_succ_cons, List.take_nil, List.drop_zero, List.drop_succ_cons, List.drop_nil, List.getElem?_cons_zero, List.getElem?_cons_succ, List.getElem?_map, Nat.reduceAdd, Nat.reduceLeDiff, Nat.add_eq_zero_iff, and_self, Nat.zero_add, Nat.add_zero, Nat.mul_one, Nat.one_mul, List.flatten_cons, List.flatten_nil, *]) | (simp only [zgoO, zgoG, zO_nil, zthen_normal, zgoC]) | (with_reducible apply And.intro) | (with_reducible intro _))
      refine rest_z (by omega) ?_
      rw [← HR.out]
      repeat' (first | (simp only [zmPack, zfree, owners, Nat.reduceLT, List.filter_cons, List.filter_nil, List.contains_cons, List.contains_nil, Nat.reduceBEq, Bool.or_false, Bool.or_true, Bool.false_or, Bool.true_or, BEq.rfl, chunk, setAt, List.lookup_cons, List.lookup_nil, ZV.val.injEq, ZV.ptr.injEq, ZV.own.injEq, ZV.fz.injEq, ZV.func.injEq, ZV.tuple.injEq, ZV.agg.injEq, ZB.box.injEq, ZB.grow.injEq, Bool.not_eq_false', Prod.mk.injEq, and_assoc, decide_false, decide_true, Bool.not_false, Bool.not_true, Bool.true_eq_false, Bool.false_eq_true, exists_false, Bool.not_eq_false, Bool.not_not, Value.bool.injEq, Value.int.injEq, Option.some.injEq, exists_eq_left', exists_eq_left, exists_and_left, exists_and_right, and_true, true_and, decide_eq_true_eq, decide_eq_false_iff_not, if_true, if_false, Bool.not_eq_true', beq_true, beq_false, ne_eq, not_true_eq_false, not_false_eq_true, reduceCtorEq, List.getD_cons_zero, List.getD_cons_succ, List.getD_nil, List.map_cons, List.map_nil, List.append_nil, Nat.reduceEqDiff, reduceIte, ite_true, ite_false, or_true, true_or, or_false, false_or, true_imp_iff, false_imp_iff, implies_true, imp_false, and_self, imp_self, and_false, false_and, forall_const, take_map_all, Nat.le_refl, Nat.reduceMul, Nat.reduceSub, List.length_cons, List.length_nil, List.length_map, List.length_set, List.all_cons, List.all_nil, Bool.and_self, Option.map_none, Option.map_some, List.set_cons_zero, List.set_cons_succ, Nat.lt_add_one, List.append_assoc, List.cons_append, List.nil_append, List.append_nil, List.length_append, List.take_zero, List.take_succ_cons, List.take_nil, List.drop_zero, List.drop_succ_cons, List.drop_nil, List.getElem?_cons_zero, List.getElem?_cons_succ, List.getElem?_map, Nat.reduceAdd, Nat.reduceLeDiff, Nat.add_eq_zero_iff, and_self, Nat.zero_add, Nat.add_zero, Nat.mul_one, Nat.one_mul, List.flatten_cons, List.flatten_nil, *]) | (simp only [zgoO, zgoG, zO_nil, zthen_normal, zgoC]) | (with_reducible apply And.intro) | (with_reducible intro _))
end Go.Proofs.Ytmecaddjeljliaa

namespace Go.Proofs.Ytmecaddjeljliaa
open Go Go.RowKit Go.ChangeShapes Go.WideShapes Go.ChangeAt
set_option linter.unusedVariables false
set_option linter.unusedSimpArgs false
set_option maxRecDepth 100000 in
theorem leavebare_lifted (os : Os) (started : os.Started) (H : Type) (enc : TypeId × Value → H) :
    ReturnsInHanded {} Try.checked os 4 .any (Rows.leaveBareSpec.pre6 enc Try.prog Try.f4 Rows.leaveBareRow.domain false) (Rows.leaveBareSpec.post enc Try.prog Try.f4 false true false false) := by
  refine law_lifted (C := Try.checked) 12 [(true, tySt), (false, .int .i64), (false, .int .i64), (false, .int .i64)] 4 Try.own Try.laidOut started (by kernel_rfl) Try.func4
    (ChangeSpec.witness6 (enc := enc) (C := Try.checked) false ⟨#[], #[.agg #[.slice none 0 0, .slice none 0 0, .slice none 0 0, .slice none 0 0, .slice none 0 0, .slice none 0 0, .int .i64 0, .int .i64 0], .int .i64 0, .int .i64 0, .int .i64 0], []⟩ 8 (by kernel_rfl) (by kernel_rfl) (by kernel_rfl) (by kernel_rfl))
    rfl (by kernel_rfl) Try.underlying4 (fun ds h => ?_) (by kernel_rfl) (by kernel_rfl) (fun W args h => ?_)
  · match ds, h with
    | [d0, d1, d2, d3], _ => rfl
  · refine zm_walk (by kernel_rfl) (constX_ok (n := 100) (F := cFunc Try.prog) (by kernel_rfl) (fun f af h => h) tbL (by intro p hp; rw [List.mem_singleton.1 hp]; kernel_rfl)) (fun f af h => h) rfl (fun zl hz => ?_) W args h
    obtain ⟨s, _, rfl, hs, ss, th, _, rfl, _, _, a, _, rfl, _, _, st, _, rfl, _, _, rfl⟩ := hz
    exact leavebare_z (s := s) (th := th) (at_ := a) (st := st) (stS_of ss)
theorem leavebare_holds : Rows.LeaveBareSaid :=
  OpenClaim.holds_of_wide 4 Try.f4 rfl rfl rfl rfl rfl rfl rfl ⟨rfl, rfl, rfl, rfl, rfl⟩ rfl rfl rfl rfl rfl (by kernel_rfl) Try.func4 (by kernel_rfl) (of_decide_eq_true (by kernel_rfl)) (by unfold Func.isWrapper; first | (rw [if_pos (by decide +kernel)]; kernel_rfl) | (rw [if_neg (by decide +kernel)]; exact ⟨rfl, rfl⟩))
    (fun os started H enc _ => leavebare_lifted os started H enc)
end Go.Proofs.Ytmecaddjeljliaa
