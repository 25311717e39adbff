/-
  Words of my own: the frame for a law's second form: how many values a reading holds bounds how many the arguments hold.
-/
import Derived.Deep.CondSized
import Derived.IntWalk
import Derived.KernelRfl
import Derived.Test.YtmholkmghhkbhaaMrB1
import Derived.Test.YtmholkmghhkbhaaMrB4
import Derived.Test.YtmholkmghhkbhaaMrB6
import Derived.Test.YtmholkmghhkbhaaMrB9
set_option linter.unusedVariables false
set_option linter.unusedSimpArgs false
namespace Go.Proofs.Ytmholkmghhkbhaa
open Go.RowKit Go.ChangeShapes Go.WideShapes Go.ChangeAt

def cnt : (t : Ty) → t.val → Nat
  | .int _, _ => 1
  | .bool, _ => 1
  | .str, _ => 1
  | .unit, _ => 0
  | .prod a b, x => cnt a x.1 + cnt b x.2
  | .slice _ e, l => (l.map (cnt e)).sum + 1

section
variable {H : Type} {enc : TypeId × Value → H} {P : Program} {w : World} {B : Nat}

theorem jfc (d : DataW H) : 1 ≤ Rows.uptoBulk d := by
 cases d with
 | lit l => cases l <;> simp [Rows.uptoBulk]
 | _ => simp [Rows.uptoBulk]
theorem jjb {d : DataW H} {l : List (DataW H)} (h : d ∈ l) : Rows.uptoBulk d ≤ Rows.uptoBulkAll l := by
 induction l with
 | nil => cases h
 | cons x r ih =>
  simp only [Rows.uptoBulkAll]
  rcases List.mem_cons.1 h with rfl | h
  ·omega
  ·have := ih h; omega

theorem jlb (g : TypeId → Option Ty) (n : Nat)
  (ih : ∀ (t : TypeId) (ty : Ty), g t = some ty → ∀ (cs : List Value) (d : DataW H) (ps : List MemPlace) (x : ty.val), DataW.trod enc P w 0 (fun _ => true) true n t cs = some (d, ps) → Has w B ty cs x → cnt ty x ≤ Rows.uptoBulk d) :
  ∀ (fs : List Field) (acc : Nat) (ts : List Ty) (xs : List (DataW H × List MemPlace)) (cs : List Value) (x : (jbn ts).val), jcw P g acc fs = some ts → xs.length = fs.length →
   (∀ (i : Nat) (f : Field), fs[i]? = some f → DataW.trod enc P w 0 (fun _ => true) true n f.type ((cs.drop f.offset).take (P.cellsOf f.type)) = xs[i]?) →
   Has w B (jbn ts) (cs.drop acc) x → cnt (jbn ts) x ≤ Rows.uptoBulkAll (xs.map (·.1)) := by
 intro fs
 induction fs with
 | nil =>
  intro acc ts xs cs x h1 h2 _ _
  simp only [jcw, Option.some.injEq] at h1
  subst h1
  simp [jbn, cnt]
 | cons f r ihf =>
  intro acc ts xs cs x h1 h2 h4 hh
  simp only [jcw] at h1
  split at h1
  ·rename_i ty hty
   split at h1
   ·rename_i hoc
    obtain ⟨ho, hc⟩ := hoc
    obtain ⟨ts', hts', rfl⟩ := Option.map_eq_some_iff.1 h1
    match xs, h2 with
    | y :: ys, h2 =>
    have hy := h4 0 f rfl
    simp only [List.getElem?_cons_zero] at hy
    rw [ho, hc] at hy
    have h4' : ∀ (i : Nat) (f' : Field), r[i]? = some f' → DataW.trod enc P w 0 (fun _ => true) true n f'.type ((cs.drop f'.offset).take (P.cellsOf f'.type)) = ys[i]? :=
     fun i f' hf' => by have := h4 (i + 1) f' (by simpa using hf'); simpa using this
    simp only [List.map_cons, Rows.uptoBulkAll]
    match ts', hts', x, hh with
    | [], hts', x, hh =>
     simp only [jbn] at hh x ⊢
     have hl := hh.size
     have e : (cs.drop acc).take ty.size = cs.drop acc := by rw [← hl]; exact List.take_length
     rw [e] at hy
     have := ih f.type ty hty _ y.1 y.2 x (by rw [hy]) hh
     omega
    | b :: r', hts', x, hh =>
     simp only [jbn] at hh x ⊢
     obtain ⟨c, d, hcd, h5, h6⟩ := hh
     have hl := h5.size
     have e1 : (cs.drop acc).take ty.size = c := by rw [hcd, ← hl, List.take_left]
     have e2 : cs.drop (acc + ty.size) = d := by rw [← List.drop_drop, hcd, ← hl, List.drop_left]
     rw [e1] at hy
     have k1 := ih f.type ty hty _ y.1 y.2 x.1 (by rw [hy]) h5
     have k2 := ihf (acc + ty.size) (b :: r') ys cs x.2 hts' (by simpa using h2) h4' (by rw [e2]; exact h6)
     simp only [cnt]
     omega
   ·cases h1
  ·cases h1

theorem sum_le {α : Type} (f : α → Nat) (l : List α) (D : Nat → DataW H) (h : ∀ i (hi : i < l.length), f l[i] ≤ Rows.uptoBulk (D i)) : (l.map f).sum ≤ Rows.uptoBulkAll ((List.range l.length).map D) := by
 have key : ∀ (l : List α) (a : Nat), (∀ i (hi : i < l.length), f l[i] ≤ Rows.uptoBulk (D (a + i))) → (l.map f).sum ≤ Rows.uptoBulkAll ((List.range' a l.length).map D) := by
  intro l
  induction l with
  | nil => intro a _; simp
  | cons x r ih =>
   intro a h
   have h0 := h 0 (by simp)
   have h1 := ih (a + 1) (fun i hi => by have := h (i + 1) (by simpa using hi); rw [show a + 1 + i = a + (i + 1) by omega]; simpa using this)
   simp only [List.map_cons, List.sum_cons, List.length_cons, List.range'_succ, Rows.uptoBulkAll]
   simp only [List.getElem_cons_zero, Nat.add_zero] at h0
   omega
 rw [List.range_eq_range']
 exact key l 0 (fun i hi => by simpa using h i hi)

theorem cnt_trod : ∀ (m : Nat) (t : TypeId) (ty : Ty), tyOf P m t = some ty → ∀ (n : Nat) (cs : List Value) (d : DataW H) (ps : List MemPlace) (x : ty.val),
  DataW.trod enc P w 0 (fun _ => true) true n t cs = some (d, ps) → Has w B ty cs x → cnt ty x ≤ Rows.uptoBulk d := by
 intro m
 induction m with
 | zero => intro t ty h; cases h
 | succ m ih =>
  intro t ty h n cs d ps x htr hh
  simp only [tyOf] at h
  split at h
  ·injection h with h; subst h; exact jfc d
  ·injection h with h; subst h; exact jfc d
  ·injection h with h; subst h; exact jfc d
  ·rename_i e hk
   split at h
   ·rename_i ety hety
    split at h
    ·rename_i hc
     injection h with h
     subst h
     obtain ⟨A, cap0, rfl, h1, h2, h3, h4⟩ := hh
     rcases Go.Deep.open_slice hk htr with ⟨he, h0⟩ | ⟨a, len, cap, m', n', D, Pl, he, _, hl, hm, hmm, hx, hi⟩
     ·simp only [Prod.mk.injEq] at h0
      have : x = [] := by
       simp only [List.cons.injEq, Value.slice.injEq] at he
       exact List.eq_nil_of_length_eq_zero he.1.2.1
      subst this
      simp only [cnt, List.map_nil, List.sum_nil]
      exact jfc d
     ·simp only [if_true] at hmm
      subst hmm
      simp only [Prod.mk.injEq] at hx
      obtain ⟨rfl, rfl⟩ := hx
      simp only [List.cons.injEq, Value.slice.injEq, and_true] at he
      obtain ⟨rfl, hlen, hcap⟩ := he
      subst hlen
      simp only [cnt, Rows.uptoBulk]
      have := sum_le (cnt ety) x D (fun i hil => by
       obtain ⟨b, off, hA, _, hel⟩ := h4 (fun h => by subst h; simp at hil)
       obtain ⟨ecs, e1, e2, e3⟩ := hel i hil
       obtain ⟨cs', hcs', ht'⟩ := hi i (by omega)
       obtain ⟨_, hcl, hat⟩ := World.cells?_some hcs'
       rw [hc.1] at hcl hat
       simp only [Option.some.injEq] at hA
       subst hA
       have : ecs = cs' := by
        apply List.ext_getElem?
        intro j
        by_cases hj : j < ety.size
        ·rw [← e2 j hj, ← hat j hj, Go.Deep.add_add]
         congr 1
         unfold Addr.add
         simp [Nat.add_assoc]
        ·rw [List.getElem?_eq_none (by omega), List.getElem?_eq_none (by omega)]
       subst this
       exact ih e ety hety n' ecs (D i) (Pl i) x[i] ht' e3)
      omega
    ·cases h
   ·cases h
  ·rename_i fs hk
   split at h
   ·rename_i ts hts
    split at h
    ·rename_i hc
     injection h with h
     subst h
     obtain ⟨xs, n', _, hx, hcl, hxl, hf⟩ := DataW.trod_struct hk htr
     simp only [Prod.mk.injEq] at hx
     obtain ⟨rfl, rfl⟩ := hx
     simp only [Rows.uptoBulk]
     have := jlb (enc := enc) (P := P) (w := w) (B := B) (tyOf P m) n' (fun t ty h cs d ps x h1 h2 => ih t ty h n' cs d ps x h1 h2) fs.toList 0 ts xs cs x hts (by simpa using hxl)
      (fun i f hif => hf i f (by simpa using hif)) (by simpa using hh)
     omega
    ·cases h
   ·cases h
  ·cases h

def jnM (N : Nat) (t : Ty) (x : t.val) : Prop := jeZ t x ∧ cnt t x ≤ N

theorem jhj {N : Nat} (m : Nat) : ∀ (ts : List TypeId) (tys : List (Bool × Ty)), jie P m ts = some tys → ∀ (vs : List Value) (ds : List (DataW H)) (ps : List MemPlace) (r : Go.Reach) (b0 : Nat),
  (∀ (j : Nat) t v, ts[j]? = some t → vs[j]? = some v → Value.okWide P w r b0 t v) → DataW.TrodAll enc P w 0 (fun _ => true) true ts vs ds ps → (∀ p ∈ ps, p.block < B) →
  (∀ k ∈ DataW.weightsEach P ts ds, k ≤ reachBytes) → (∀ d ∈ ds, Rows.uptoBulk d ≤ N) → jcO (jnM N) w B tys vs := by
 intro ts
 induction ts with
 | nil =>
  intro tys h vs ds ps r b0 _ htr _ _ _
  simp only [jie, Option.some.injEq] at h
  subst h
  exact (trodAll_nil htr).1
 | cons t ts ih =>
  intro tys h vs ds ps r b0 hok htr hps hwt hN
  simp only [jie] at h
  split at h
  ·rename_i ty l hty hl
   injection h with h; subst h
   obtain ⟨v, vs', d, ds', p, q, rfl, rfl, rfl, h0, h1⟩ := trodAll_cons htr
   simp only [DataW.weightsEach] at hwt
   obtain ⟨cs, x, e, rfl, hx, hs⟩ := jkT m hty (hok 0 t v rfl rfl) h0 (fun y hy => hps y (by simp [hy])) (fun k hk => hwt k (by simp [hk]))
   refine ⟨cs, x, vs', rfl, hx, ⟨hs, ?_⟩, ih l hl vs' ds' q r b0 (fun j t v h1 h2 => hok (j + 1) t v (by simpa using h1) (by simpa using h2)) h1 (fun y hy => hps y (by simp [hy])) (fun k hk => hwt k (by simp [hk])) (fun y hy => hN y (by simp [hy]))⟩
   obtain ⟨n, hn⟩ := h0
   rw [e] at hn
   exact Nat.le_trans (cnt_trod m t ty hty n cs d p x hn hx) (hN d (by simp))
  ·cases h

theorem jfG {C : Checked} {os : Os} {f : FuncId} {fn : Func} {s : ChangeSpec} (m : Nat) (tys : List (Bool × Ty)) (tb : TypeId)
  (own : ownKnob C.prog.godebug = none) (hlo : laidOutB C.prog = true) (started : os.Started) (noInit : C.prog.inits.idxOf? f = none) (hfn : C.prog.funcs[f]? = some fn)
  (witness : ∃ (w : World) (tape : Tape) (i : Input), w.os = os ∧ (w.forCall tape i).Shaped C.prog ∧ i.vars = [] ∧ Input.okWide C.prog (w.forCall tape i) .any w.heap.size f i ∧
   (Rows.OpenSpec.upto s).pre6 enc C.prog fn [] false (w.forCall tape i).memory i.args ∧ ({} : Assume).holds C.prog (lone (Frame.enter C.prog f i.args .normal) [] (w.forCall tape i)))
  (hvars : s.vars = []) (hres : fn.resultTypes = #[tb]) (htb : C.prog.underlying tb = some .bool)
  (hspec : ∀ ds : List (DataW H), ds.length = fn.params.size → s.fn H ds = { results := [.lit (.bool true)], args := ds })
  (hread : fn.params.all (fun t => C.prog.readableRec t && decide (t < C.prog.types.size)) = true)
  (htys : jie C.prog m fn.params.toList = some tys)
  (walk : ∀ (W : World) (args : Array Value), jcO (jnM 1048576) W W.heap.size tys args.toList → Calls C.prog f args W fun e W' => e = .returned (.bool true) ∧ Below W.heap.size W W')
  (F : Stop.Interp) :
  ReturnsInHanded {} C os f .any ((Rows.OpenSpec.upto s).pre6 enc C.prog fn [] false) (((Rows.OpenSpec.upto s).at F).post enc C.prog fn false true false false) := by
 refine returnsInHanded_of_cond_sized (s := Rows.OpenSpec.upto s) (k := Rows.uptoSmall) rfl own started noInit hfn witness ?_
 intro W base args ds gs before hval hW _ hk hsz _
 have hW' := hW
 obtain ⟨p, q, hA, hV, rfl, _, _⟩ := hW
 have hvars' : (Rows.OpenSpec.upto s).vars = [] := hvars
 rw [hvars'] at hV
 obtain ⟨rfl, rfl⟩ := trodVars_none hV
 simp only [List.append_nil] at hsz hW' hk
 have hvt : (Rows.OpenSpec.upto s).bare.plain.varTypes C.prog = [] := by
  have e : (Rows.OpenSpec.upto s).bare.plain.vars = [] := hvars
  simp [DataSpec.varTypes, e]
 rw [hvt, List.append_nil] at hsz
 have hlt : ∀ x ∈ p, x.block < W.heap.size := fun x hx => by simpa using hW'.lt x hx
 have hlen : ds.length = fn.params.size := by
  have : ∀ (ts : List TypeId) (vs : List Value) (ds : List (DataW H)) (ps : List MemPlace), DataW.TrodAll enc C.prog W 0 (fun _ => true) true ts vs ds ps → ds.length = ts.length := by
   intro ts
   induction ts with
   | nil => intro vs ds ps h; obtain ⟨_, rfl, _⟩ := trodAll_nil h; rfl
   | cons t ts ih =>
    intro vs ds ps h
    obtain ⟨v, vs', d, ds', p, q, rfl, rfl, rfl, h0, h1⟩ := trodAll_cons h
    simp [ih _ _ _ h1]
  simpa using this _ _ _ _ hA
 have hbulk : Rows.uptoBulkAll ds ≤ 1048576 := by simpa [Rows.uptoSmall] using hk
 have hargs := jhj (N := 1048576) (B := W.heap.size) m fn.params.toList tys htys args.toList ds p .any base (fun j t v h1 h2 => hval j t v (by simpa using h1) (by simpa using h2)) hA hlt
  (fun k hk => by simpa using List.all_eq_true.1 hsz k hk) (fun d hd => Nat.le_trans (jjb hd) hbulk)
 refine (walk W args hargs).mono fun e W' ⟨he, hb⟩ => ⟨_, he, ds, [], p, [], p, [], hW', ?_, ?_, ?_, hb.frame _, fun h => by cases h⟩
 ·rw [List.append_nil]
  show DataW.TrodAll enc C.prog W' _ _ _ _ _ (s.fn H ds).results _
  rw [hspec ds hlen, hres]
  exact trodAll_mk1 (shut_bool htb true)
 ·rw [List.append_nil]
  show DataW.TrodAll enc C.prog W' _ _ _ _ _ (s.fn H ds).args _
  rw [hspec ds hlen]
  refine jgR hlo hb fn.params.toList (fun t ht => ?_) args.toList ds p hA hlt
  have := Array.all_eq_true_iff_forall_mem.1 hread t (by simpa using ht)
  simpa using this
 ·rw [List.append_nil]
  show DataW.TrodVars enc C.prog W' _ (Rows.OpenSpec.upto s).vars (s.fn H ds).vars _
  rw [hspec ds hlen, hvars']
  rfl
end
end Go.Proofs.Ytmholkmghhkbhaa

namespace Go.Proofs.Ytmholkmghhkbhaa
open Go Go.RowKit Go.ChangeShapes Go.WideShapes Go.ChangeAt
abbrev tyI : Ty := .int .i64
abbrev tyRP : Ty := .prod tyI tyI
abbrev tyRS : Ty := .prod tyI tyRP
abbrev tyRM : Ty := .prod tyRP (.prod tyI (.prod tyI (.slice 16 tyRP)))
abbrev tyRX : Ty := .prod tyI (.prod tyI (.prod (.slice 24 tyRS) (.slice 56 tyRM)))
abbrev tyRd : Ty := .prod tyI (.prod tyI (.prod tyI (.prod tyI (.prod tyI (.prod tyI (.prod tyI tyI))))))
abbrev tyCd : Ty := .prod tyI (.prod tyI (.prod tyI (.prod tyI (.prod (.slice 64 tyRd) (.prod (.slice 64 tyRX) (.prod tyRX tyRX))))))
def oM (m : tyRM.val) : OMk := (m.1.1, m.1.2, m.2.1, m.2.2.1, m.2.2.2)
def oX (x : tyRX.val) : OXt := (x.1, x.2.1, x.2.2.1, x.2.2.2.map oM)
def oC (x : tyCd.val) : Cd := ⟨x.1, x.2.1, x.2.2.1, x.2.2.2.1, x.2.2.2.2.1, x.2.2.2.2.2.1.map oX, oX x.2.2.2.2.2.2.1, oX x.2.2.2.2.2.2.2, false, false⟩
theorem encM : enc tyRM = fun m => eRM (oM m) := rfl
theorem encX : enc tyRX = fun x => eRX (oX x) := by
 funext x
 show [Z64 x.1, Z64 x.2.1, .fz 3 false (x.2.2.1.map (enc tyRS)), .fz 5 false (x.2.2.2.map (enc tyRM))] = _
 rw [encM]
 unfold oX eRX
 simp only [List.map_map]
 rfl
theorem encC (x : tyCd.val) : enc tyCd x = eCd (oC x) := by
 show [Z64 x.1, Z64 x.2.1, Z64 x.2.2.1, Z64 x.2.2.2.1, .fz 8 false (x.2.2.2.2.1.map (enc tyRd)), .fz 4 false (x.2.2.2.2.2.1.map (enc tyRX))] ++ (enc tyRX x.2.2.2.2.2.2.1 ++ enc tyRX x.2.2.2.2.2.2.2) = _
 rw [encX]
 unfold oC eCd
 simp only [List.map_map]
 rfl
theorem jel {α : Type} (f : α → Nat) (h : ∀ x, 1 ≤ f x) (l : List α) : l.length ≤ (l.map f).sum := by
 induction l with
 | nil => simp
 | cons x r ih => have := h x; simp only [List.length_cons, List.map_cons, List.sum_cons]; omega
theorem jjE {α : Type} (f : α → Nat) {l : List α} {x : α} (h : x ∈ l) : f x ≤ (l.map f).sum := by
 induction l with
 | nil => cases h
 | cons y r ih =>
  simp only [List.map_cons, List.sum_cons]
  rcases List.mem_cons.1 h with rfl | h
  ·omega
  ·have := ih h; omega
theorem jnN {x : tyRX.val} {N : Nat} (hN : N ≤ 1048576) (h : cnt tyRX x ≤ N) : OXB (oX x) := by
 have e : cnt tyRX x = 1 + (1 + (((x.2.2.1.map (cnt tyRS)).sum + 1) + ((x.2.2.2.map (cnt tyRM)).sum + 1))) := rfl
 have h1 := jel (cnt tyRS) (fun x => by simp only [cnt]; omega) x.2.2.1
 have h2 := jel (cnt tyRM) (fun x => by simp only [cnt]; omega) x.2.2.2
 refine ⟨by simp only [oX]; omega, by simp only [oX, List.length_map]; omega, fun m hm => ?_⟩
 simp only [oX, List.mem_map] at hm
 obtain ⟨m0, hm0, rfl⟩ := hm
 have h3 := jjE (cnt tyRM) hm0
 have e2 : cnt tyRM m0 = (1 + 1) + (1 + (1 + ((m0.2.2.2.map (cnt tyRP)).sum + 1))) := rfl
 have h4 := jel (cnt tyRP) (fun x => by simp only [cnt]; omega) m0.2.2.2
 simp only [oM]
 omega
theorem CdB_of {x : tyCd.val} {N : Nat} (hN : N ≤ 1048576) (h : cnt tyCd x ≤ N) : CdB (oC x) := by
 have e : cnt tyCd x = 1 + (1 + (1 + (1 + (((x.2.2.2.2.1.map (cnt tyRd)).sum + 1) + (((x.2.2.2.2.2.1.map (cnt tyRX)).sum + 1) + (cnt tyRX x.2.2.2.2.2.2.1 + cnt tyRX x.2.2.2.2.2.2.2)))))) := rfl
 have h1 := jel (cnt tyRd) (fun x => by simp only [cnt]; omega) x.2.2.2.2.1
 have h2 := jel (cnt tyRX) (fun x => by simp only [cnt]; omega) x.2.2.2.2.2.1
 refine ⟨by simp only [oC]; omega, by simp only [oC, List.length_map]; omega, fun y hy => ?_⟩
 simp only [exsL, oC, List.mem_cons, List.mem_map] at hy
 rcases hy with rfl | rfl | ⟨y0, hy0, rfl⟩
 ·exact jnN (N := N) hN (by omega)
 ·exact jnN (N := N) hN (by omega)
 ·have := jjE (cnt tyRX) hy0
  exact jnN (N := N) hN (by omega)
end Go.Proofs.Ytmholkmghhkbhaa

namespace Go.Proofs.Ytmholkmghhkbhaa
open Go Go.RowKit
def jj2 : jar := .seq (.ops [⟨(some 1), .box 14 (.tmp 0), none, true⟩,
 ⟨(some 2), .mv (.av (.val (.slice none 0 0))), none, true⟩,
 ⟨(some 3), .mv (.av (.val (.int .i64 0))), none, true⟩])
 (.seq (.seq (.ops [⟨(some 10), .load (some 14) (.tmp 1), none, true⟩,
 ⟨(some 11), .call (.av (.func 11 [])) [(.tmp 10)], none, true⟩,
 ⟨(some 4), .mv (.tmp 11), none, true⟩])
 (.seq (.ops [⟨(some 12), .mv (.tmp 4), none, true⟩,
 ⟨(some 13), .bin .neq (.tmp 12) (.av (.val (.int .i64 0))), none, true⟩])
 (.cond (.tmp 13)
 (.seq (.ops [⟨(some 14), .mv (.tmp 4), none, true⟩,
 ⟨(some 2), .mv (.av (.val (.slice none 0 0))), none, true⟩,
 ⟨(some 3), .mv (.tmp 14), none, true⟩])
 (.ret))
 (.skip))))
 (.seq (.ops [⟨(some 15), .build [(.val (.slice none 0 0))] [], none, true⟩,
 ⟨(some 16), .box 1 (.tmp 15), none, true⟩,
 ⟨(some 5), .mv (.tmp 16), none, true⟩])
 (.seq (.ops [⟨(some 17), .mv (.tmp 5), none, true⟩,
 ⟨(some 18), .fieldAddr 0 (.tmp 1), none, true⟩,
 ⟨(some 19), .load none (.tmp 18), none, true⟩,
 ⟨(some 20), .fieldAddr 1 (.tmp 1), none, true⟩,
 ⟨(some 21), .load none (.tmp 20), none, true⟩,
 ⟨(some 22), .fieldAddr 2 (.tmp 1), none, true⟩,
 ⟨(some 23), .load none (.tmp 22), none, true⟩,
 ⟨(some 24), .fieldAddr 3 (.tmp 1), none, true⟩,
 ⟨(some 25), .load none (.tmp 24), none, true⟩,
 ⟨(some 26), .fieldAddr 4 (.tmp 1), none, true⟩,
 ⟨(some 27), .load none (.tmp 26), none, true⟩,
 ⟨(some 28), .len (.tmp 27), none, true⟩,
 ⟨(some 29), .lits 1 5 [(.val (.int .i64 0)), (.val (.int .i64 0)), (.val (.int .i64 0)), (.val (.int .i64 0)), (.val (.int .i64 0))] [(0, 1, (.tmp 19)), (1, 1, (.tmp 21)), (2, 1, (.tmp 23)), (3, 1, (.tmp 25)), (4, 1, (.tmp 28))], none, true⟩,
 ⟨(some 30), .call (.av (.func 12 [])) [(.tmp 17), (.tmp 29)], none, true⟩])
 (.seq (.seq (.ops [⟨(some 31), .fieldAddr 4 (.tmp 1), none, true⟩,
 ⟨(some 32), .load none (.tmp 31), none, true⟩,
 ⟨(some 33), .len (.tmp 32), none, true⟩,
 ⟨(some 34), .mv (.av (.val (.int .i64 0))), none, true⟩])
 (jax 0 1 35 34 33 59
 (.seq (.ops [⟨(some 36), .indexAddr 8 (.tmp 32) (.tmp 34), none, true⟩,
 ⟨(some 37), .load (some 8) (.tmp 36), none, true⟩,
 ⟨(some 7), .zero [(.val (.int .i64 0)), (.val (.int .i64 0)), (.val (.int .i64 0)), (.val (.int .i64 0)), (.val (.int .i64 0)), (.val (.int .i64 0)), (.val (.int .i64 0)), (.val (.int .i64 0))], none, true⟩,
 ⟨none, .store 8 (.tmp 7) (.tmp 37), none, true⟩])
 (.ops [⟨(some 38), .mv (.tmp 5), none, true⟩,
 ⟨(some 39), .fieldAddr 0 (.tmp 7), none, true⟩,
 ⟨(some 40), .load none (.tmp 39), none, true⟩,
 ⟨(some 41), .fieldAddr 1 (.tmp 7), none, true⟩,
 ⟨(some 42), .load none (.tmp 41), none, true⟩,
 ⟨(some 43), .fieldAddr 2 (.tmp 7), none, true⟩,
 ⟨(some 44), .load none (.tmp 43), none, true⟩,
 ⟨(some 45), .fieldAddr 3 (.tmp 7), none, true⟩,
 ⟨(some 46), .load none (.tmp 45), none, true⟩,
 ⟨(some 47), .fieldAddr 4 (.tmp 7), none, true⟩,
 ⟨(some 48), .load none (.tmp 47), none, true⟩,
 ⟨(some 49), .fieldAddr 5 (.tmp 7), none, true⟩,
 ⟨(some 50), .load none (.tmp 49), none, true⟩,
 ⟨(some 51), .fieldAddr 6 (.tmp 7), none, true⟩,
 ⟨(some 52), .fieldAddr 0 (.tmp 51), none, true⟩,
 ⟨(some 53), .load none (.tmp 52), none, true⟩,
 ⟨(some 54), .fieldAddr 6 (.tmp 7), none, true⟩,
 ⟨(some 55), .fieldAddr 1 (.tmp 54), none, true⟩,
 ⟨(some 56), .load none (.tmp 55), none, true⟩,
 ⟨(some 57), .lits 1 8 [(.val (.int .i64 0)), (.val (.int .i64 0)), (.val (.int .i64 0)), (.val (.int .i64 0)), (.val (.int .i64 0)), (.val (.int .i64 0)), (.val (.int .i64 0)), (.val (.int .i64 0))] [(0, 1, (.tmp 40)), (1, 1, (.tmp 42)), (2, 1, (.tmp 44)), (3, 1, (.tmp 46)), (4, 1, (.tmp 48)), (5, 1, (.tmp 50)), (6, 1, (.tmp 53)), (7, 1, (.tmp 56))], none, true⟩,
 ⟨(some 58), .call (.av (.func 12 [])) [(.tmp 38), (.tmp 57)], none, true⟩]))))
 (.seq (.ops [⟨(some 60), .mv (.tmp 5), none, true⟩,
 ⟨(some 61), .fieldAddr 5 (.tmp 1), none, true⟩,
 ⟨(some 62), .load none (.tmp 61), none, true⟩,
 ⟨(some 63), .len (.tmp 62), none, true⟩,
 ⟨(some 64), .lits 1 1 [(.val (.int .i64 0))] [(0, 1, (.tmp 63))], none, true⟩,
 ⟨(some 65), .call (.av (.func 12 [])) [(.tmp 60), (.tmp 64)], none, true⟩])
 (.seq (.seq (.opsD [⟨(some 66), .fieldAddr 5 (.tmp 1), none, true⟩,
 ⟨(some 67), .load none (.tmp 66), none, true⟩,
 ⟨(some 68), .call (.av (.func 13 [])) [(.tmp 67)], none, false⟩,
 ⟨(some 69), .fieldAddr 6 (.tmp 1), none, true⟩,
 ⟨(some 70), .load (some 4) (.tmp 69), none, false⟩,
 ⟨(some 71), .fieldAddr 10 (.tmp 1), none, true⟩,
 ⟨(some 72), .load (some 4) (.tmp 71), none, false⟩,
 ⟨(some 73), .lits 4 2 [(.val (.int .i64 0)), (.val (.int .i64 0)), (.val (.slice none 0 0)), (.val (.slice none 0 0)), (.val (.int .i64 0)), (.val (.int .i64 0)), (.val (.slice none 0 0)), (.val (.slice none 0 0))] [(0, 4, (.tmp 70)), (4, 4, (.tmp 72))], none, true⟩,
 ⟨(some 74), .append 4 64 (.tmp 68) (.tmp 73), none, true⟩,
 ⟨(some 75), .len (.tmp 74), none, true⟩,
 ⟨(some 76), .mv (.av (.val (.int .i64 0))), none, true⟩])
 (jax 2 3 77 76 75 83
 (.seq (.ops [⟨(some 78), .indexAddr 4 (.tmp 74) (.tmp 76), none, true⟩,
 ⟨(some 79), .load (some 4) (.tmp 78), none, true⟩,
 ⟨(some 9), .zero [(.val (.int .i64 0)), (.val (.int .i64 0)), (.val (.slice none 0 0)), (.val (.slice none 0 0))], none, true⟩,
 ⟨none, .store 4 (.tmp 9) (.tmp 79), none, true⟩])
 (.ops [⟨(some 80), .mv (.tmp 5), none, true⟩,
 ⟨(some 81), .load (some 4) (.tmp 9), none, true⟩,
 ⟨(some 82), .call (.av (.func 14 [])) [(.tmp 80), (.tmp 81)], none, true⟩]))))
 (.seq (.ops [⟨(some 84), .mv (.tmp 5), none, true⟩,
 ⟨(some 85), .nilCheck (.tmp 84), none, true⟩,
 ⟨(some 86), .fieldAddr 0 (.tmp 85), none, true⟩,
 ⟨(some 87), .load none (.tmp 86), none, true⟩,
 ⟨(some 2), .mv (.tmp 87), none, true⟩,
 ⟨(some 3), .mv (.av (.val (.int .i64 0))), none, true⟩])
 (.ret))))))))
theorem f_od_enc : jap Try.prog 6 = some ⟨88, jj2, [.tmp 2, .tmp 3]⟩ := by kernel_rfl
def jib : jar := .seq (.ops [⟨(some 2), .box 14 (.tmp 0), none, true⟩,
 ⟨(some 3), .box 14 (.tmp 1), none, true⟩,
 ⟨(some 4), .mv (.av (.val (.bool false))), none, true⟩])
 (.seq (.seq (.ops [⟨(some 6), .fieldAddr 0 (.tmp 2), none, true⟩,
 ⟨(some 7), .load none (.tmp 6), none, true⟩,
 ⟨(some 8), .fieldAddr 0 (.tmp 3), none, true⟩,
 ⟨(some 9), .load none (.tmp 8), none, true⟩,
 ⟨(some 10), .bin .neq (.tmp 7) (.tmp 9), none, true⟩,
 ⟨(some 11), .mv (.tmp 10), none, true⟩,
 ⟨(some 12), .fieldAddr 1 (.tmp 2), (some (11, false)), true⟩,
 ⟨(some 13), .load none (.tmp 12), (some (11, false)), true⟩,
 ⟨(some 14), .fieldAddr 1 (.tmp 3), (some (11, false)), true⟩,
 ⟨(some 15), .load none (.tmp 14), (some (11, false)), true⟩,
 ⟨(some 16), .bin .neq (.tmp 13) (.tmp 15), (some (11, false)), true⟩,
 ⟨(some 17), .pick (.tmp 11) (.av (.val (.bool true))) (.tmp 16), none, true⟩,
 ⟨(some 18), .mv (.tmp 17), none, true⟩,
 ⟨(some 19), .fieldAddr 2 (.tmp 2), (some (18, false)), true⟩,
 ⟨(some 20), .load none (.tmp 19), (some (18, false)), true⟩,
 ⟨(some 21), .fieldAddr 2 (.tmp 3), (some (18, false)), true⟩,
 ⟨(some 22), .load none (.tmp 21), (some (18, false)), true⟩,
 ⟨(some 23), .bin .neq (.tmp 20) (.tmp 22), (some (18, false)), true⟩,
 ⟨(some 24), .pick (.tmp 18) (.av (.val (.bool true))) (.tmp 23), none, true⟩,
 ⟨(some 25), .mv (.tmp 24), none, true⟩,
 ⟨(some 26), .fieldAddr 3 (.tmp 2), (some (25, false)), true⟩,
 ⟨(some 27), .load none (.tmp 26), (some (25, false)), true⟩,
 ⟨(some 28), .fieldAddr 3 (.tmp 3), (some (25, false)), true⟩,
 ⟨(some 29), .load none (.tmp 28), (some (25, false)), true⟩,
 ⟨(some 30), .bin .neq (.tmp 27) (.tmp 29), (some (25, false)), true⟩,
 ⟨(some 31), .pick (.tmp 25) (.av (.val (.bool true))) (.tmp 30), none, true⟩,
 ⟨(some 32), .mv (.tmp 31), none, true⟩,
 ⟨(some 33), .fieldAddr 4 (.tmp 2), (some (32, false)), true⟩,
 ⟨(some 34), .load none (.tmp 33), (some (32, false)), true⟩,
 ⟨(some 35), .fieldAddr 4 (.tmp 3), (some (32, false)), true⟩,
 ⟨(some 36), .load none (.tmp 35), (some (32, false)), true⟩,
 ⟨(some 37), .call (.av (.func 22 [])) [(.tmp 34), (.tmp 36)], (some (32, false)), true⟩,
 ⟨(some 38), .un .not (.tmp 37), (some (32, false)), true⟩,
 ⟨(some 39), .pick (.tmp 32) (.av (.val (.bool true))) (.tmp 38), none, true⟩,
 ⟨(some 40), .mv (.tmp 39), none, true⟩,
 ⟨(some 41), .fieldAddr 5 (.tmp 2), (some (40, false)), true⟩,
 ⟨(some 42), .load none (.tmp 41), (some (40, false)), true⟩,
 ⟨(some 43), .len (.tmp 42), (some (40, false)), true⟩,
 ⟨(some 44), .fieldAddr 5 (.tmp 3), (some (40, false)), true⟩,
 ⟨(some 45), .load none (.tmp 44), (some (40, false)), true⟩,
 ⟨(some 46), .len (.tmp 45), (some (40, false)), true⟩,
 ⟨(some 47), .bin .neq (.tmp 43) (.tmp 46), (some (40, false)), true⟩,
 ⟨(some 48), .pick (.tmp 40) (.av (.val (.bool true))) (.tmp 47), none, true⟩])
 (.cond (.tmp 48)
 (.seq (.ops [⟨(some 4), .mv (.av (.val (.bool false))), none, true⟩])
 (.ret))
 (.skip)))
 (.seq (.seq (.ops [⟨(some 49), .fieldAddr 5 (.tmp 2), none, true⟩,
 ⟨(some 50), .load none (.tmp 49), none, true⟩,
 ⟨(some 51), .len (.tmp 50), none, true⟩,
 ⟨(some 52), .mv (.av (.val (.int .i64 0))), none, true⟩])
 (jax 0 1 53 52 51 67
 (.seq (.ops [⟨(some 54), .mv (.tmp 52), none, true⟩,
 ⟨(some 5), .mv (.tmp 54), none, true⟩])
 (.seq (.opsD [⟨(some 55), .fieldAddr 5 (.tmp 2), none, true⟩,
 ⟨(some 56), .load none (.tmp 55), none, true⟩,
 ⟨(some 57), .mv (.tmp 5), none, true⟩,
 ⟨(some 58), .indexAddr 4 (.tmp 56) (.tmp 57), none, true⟩,
 ⟨(some 59), .load (some 4) (.tmp 58), none, true⟩,
 ⟨(some 60), .fieldAddr 5 (.tmp 3), none, true⟩,
 ⟨(some 61), .load none (.tmp 60), none, true⟩,
 ⟨(some 62), .mv (.tmp 5), none, true⟩,
 ⟨(some 63), .indexAddr 4 (.tmp 61) (.tmp 62), none, true⟩,
 ⟨(some 64), .load (some 4) (.tmp 63), none, true⟩,
 ⟨(some 65), .call (.av (.func 23 [])) [(.tmp 59), (.tmp 64)], none, true⟩,
 ⟨(some 66), .un .not (.tmp 65), none, true⟩])
 (.cond (.tmp 66)
 (.seq (.ops [⟨(some 4), .mv (.av (.val (.bool false))), none, true⟩])
 (.ret))
 (.skip))))))
 (.seq (.ops [⟨(some 68), .fieldAddr 6 (.tmp 2), none, true⟩,
 ⟨(some 69), .load (some 4) (.tmp 68), none, true⟩,
 ⟨(some 70), .fieldAddr 6 (.tmp 3), none, true⟩,
 ⟨(some 71), .load (some 4) (.tmp 70), none, true⟩,
 ⟨(some 72), .call (.av (.func 23 [])) [(.tmp 69), (.tmp 71)], none, true⟩,
 ⟨(some 73), .mv (.tmp 72), none, true⟩,
 ⟨(some 74), .fieldAddr 10 (.tmp 2), (some (73, true)), true⟩,
 ⟨(some 75), .load (some 4) (.tmp 74), (some (73, true)), true⟩,
 ⟨(some 76), .fieldAddr 10 (.tmp 3), (some (73, true)), true⟩,
 ⟨(some 77), .load (some 4) (.tmp 76), (some (73, true)), true⟩,
 ⟨(some 78), .call (.av (.func 23 [])) [(.tmp 75), (.tmp 77)], (some (73, true)), true⟩,
 ⟨(some 79), .pick (.tmp 73) (.tmp 78) (.av (.val (.bool false))), none, true⟩,
 ⟨(some 4), .mv (.tmp 79), none, true⟩])
 (.ret))))
theorem jm6 : jap Try.prog 8 = some ⟨80, jib, [.tmp 4]⟩ := by kernel_rfl
def jic : jar := .seq (.ops [⟨(some 7), .mv (.tmp 1), none, true⟩,
 ⟨(some 8), .len (.tmp 7), none, true⟩,
 ⟨(some 9), .mv (.av (.val (.int .i64 0))), none, true⟩])
 (jax 0 1 10 9 8 47
 (.seq (.ops [⟨(some 11), .indexAddr 1 (.tmp 7) (.tmp 9), none, true⟩,
 ⟨(some 12), .load none (.tmp 11), none, true⟩,
 ⟨(some 5), .mv (.tmp 12), none, true⟩])
 (.seq (.ops [⟨(some 13), .mv (.tmp 5), none, true⟩,
 ⟨(some 14), .conv .u64 (.tmp 13), none, true⟩,
 ⟨(some 15), .bin .shl (.tmp 14) (.av (.val (.int .u64 1))), none, true⟩,
 ⟨(some 16), .mv (.tmp 5), none, true⟩,
 ⟨(some 17), .bin .shr (.tmp 16) (.av (.val (.int .u64 63))), none, true⟩,
 ⟨(some 18), .conv .u64 (.tmp 17), none, true⟩,
 ⟨(some 19), .bin .xor (.tmp 15) (.tmp 18), none, true⟩,
 ⟨(some 6), .mv (.tmp 19), none, true⟩])
 (.seq (.block 2 (.loop (.seq (.seq (.ops [⟨(some 20), .mv (.tmp 6), none, true⟩,
 ⟨(some 21), .bin .geq (.tmp 20) (.av (.val (.int .u64 128))), none, true⟩])
 (.cond (.tmp 21)
 (.skip)
 (.exit 2)))
 (.block 3 (.seq (.ops [⟨(some 22), .mv (.tmp 0), none, true⟩,
 ⟨(some 23), .mv (.tmp 0), none, true⟩,
 ⟨(some 24), .nilCheck (.tmp 23), none, true⟩,
 ⟨(some 25), .fieldAddr 0 (.tmp 24), none, true⟩,
 ⟨(some 26), .load none (.tmp 25), none, true⟩,
 ⟨(some 27), .mv (.tmp 6), none, true⟩,
 ⟨(some 28), .conv .u8 (.tmp 27), none, true⟩,
 ⟨(some 29), .bin .or (.tmp 28) (.av (.val (.int .u8 128))), none, true⟩,
 ⟨(some 30), .lits 1 1 [(.val (.int .u8 0))] [(0, 1, (.tmp 29))], none, true⟩,
 ⟨(some 31), .append 1 1 (.tmp 26) (.tmp 30), none, true⟩,
 ⟨(some 32), .nilCheck (.tmp 22), none, true⟩,
 ⟨(some 33), .fieldAddr 0 (.tmp 32), none, true⟩,
 ⟨none, .store 1 (.tmp 33) (.tmp 31), none, true⟩])
 (.ops [⟨(some 34), .mv (.tmp 6), none, true⟩,
 ⟨(some 35), .bin .shr (.tmp 34) (.av (.val (.int .u64 7))), none, true⟩,
 ⟨(some 6), .mv (.tmp 35), none, true⟩]))))))
 (.ops [⟨(some 36), .mv (.tmp 0), none, true⟩,
 ⟨(some 37), .mv (.tmp 0), none, true⟩,
 ⟨(some 38), .nilCheck (.tmp 37), none, true⟩,
 ⟨(some 39), .fieldAddr 0 (.tmp 38), none, true⟩,
 ⟨(some 40), .load none (.tmp 39), none, true⟩,
 ⟨(some 41), .mv (.tmp 6), none, true⟩,
 ⟨(some 42), .conv .u8 (.tmp 41), none, true⟩,
 ⟨(some 43), .lits 1 1 [(.val (.int .u8 0))] [(0, 1, (.tmp 42))], none, true⟩,
 ⟨(some 44), .append 1 1 (.tmp 40) (.tmp 43), none, true⟩,
 ⟨(some 45), .nilCheck (.tmp 36), none, true⟩,
 ⟨(some 46), .fieldAddr 0 (.tmp 45), none, true⟩,
 ⟨none, .store 1 (.tmp 46) (.tmp 44), none, true⟩])))))
theorem jm7 : jap Try.prog 12 = some ⟨48, jic, []⟩ := by kernel_rfl
def jgH : jar := .seq (.ops [⟨(some 2), .mv (.av (.val (.slice none 0 0))), none, true⟩])
 (.seq (.seq (.ops [⟨(some 3), .mv (.tmp 0), none, true⟩,
 ⟨(some 4), .eqNil false 0 (.tmp 3), none, true⟩])
 (.cond (.tmp 4)
 (.seq (.ops [⟨(some 2), .mv (.av (.val (.slice none 0 0))), none, true⟩])
 (.ret))
 (.skip)))
 (.seq (.ops [⟨(some 5), .lits 4 0 [] [], none, true⟩,
 ⟨(some 6), .mv (.tmp 0), none, true⟩,
 ⟨(some 7), .append 4 64 (.tmp 5) (.tmp 6), none, true⟩,
 ⟨(some 2), .mv (.tmp 7), none, true⟩])
 (.ret)))
theorem jk3 : jap Try.prog 13 = some ⟨8, jgH, [.tmp 2]⟩ := by kernel_rfl
def jno : jar := .seq (.ops [⟨(some 3), .box 4 (.tmp 1), none, true⟩])
 (.seq (.ops [⟨(some 10), .mv (.tmp 0), none, true⟩,
 ⟨(some 11), .fieldAddr 0 (.tmp 3), none, true⟩,
 ⟨(some 12), .load none (.tmp 11), none, true⟩,
 ⟨(some 13), .fieldAddr 1 (.tmp 3), none, true⟩,
 ⟨(some 14), .load none (.tmp 13), none, true⟩,
 ⟨(some 15), .fieldAddr 2 (.tmp 3), none, true⟩,
 ⟨(some 16), .load none (.tmp 15), none, true⟩,
 ⟨(some 17), .len (.tmp 16), none, true⟩,
 ⟨(some 18), .lits 1 3 [(.val (.int .i64 0)), (.val (.int .i64 0)), (.val (.int .i64 0))] [(0, 1, (.tmp 12)), (1, 1, (.tmp 14)), (2, 1, (.tmp 17))], none, true⟩,
 ⟨(some 19), .call (.av (.func 12 [])) [(.tmp 10), (.tmp 18)], none, true⟩])
 (.seq (.seq (.ops [⟨(some 20), .fieldAddr 2 (.tmp 3), none, true⟩,
 ⟨(some 21), .load none (.tmp 20), none, true⟩,
 ⟨(some 22), .len (.tmp 21), none, true⟩,
 ⟨(some 23), .mv (.av (.val (.int .i64 0))), none, true⟩])
 (jax 0 1 24 23 22 36
 (.seq (.ops [⟨(some 25), .indexAddr 3 (.tmp 21) (.tmp 23), none, true⟩,
 ⟨(some 26), .load (some 3) (.tmp 25), none, true⟩,
 ⟨(some 5), .zero [(.val (.int .i64 0)), (.val (.int .i64 0)), (.val (.int .i64 0))], none, true⟩,
 ⟨none, .store 3 (.tmp 5) (.tmp 26), none, true⟩])
 (.seq (.ops [⟨(some 27), .mv (.tmp 0), none, true⟩,
 ⟨(some 28), .fieldAddr 0 (.tmp 5), none, true⟩,
 ⟨(some 29), .load none (.tmp 28), none, true⟩,
 ⟨(some 30), .lits 1 1 [(.val (.int .i64 0))] [(0, 1, (.tmp 29))], none, true⟩,
 ⟨(some 31), .call (.av (.func 12 [])) [(.tmp 27), (.tmp 30)], none, true⟩])
 (.ops [⟨(some 32), .mv (.tmp 0), none, true⟩,
 ⟨(some 33), .fieldAddr 1 (.tmp 5), none, true⟩,
 ⟨(some 34), .load (some 2) (.tmp 33), none, true⟩,
 ⟨(some 35), .call (.av (.func 31 [])) [(.tmp 32), (.tmp 34)], none, true⟩])))))
 (.seq (.ops [⟨(some 37), .mv (.tmp 0), none, true⟩,
 ⟨(some 38), .fieldAddr 3 (.tmp 3), none, true⟩,
 ⟨(some 39), .load none (.tmp 38), none, true⟩,
 ⟨(some 40), .len (.tmp 39), none, true⟩,
 ⟨(some 41), .lits 1 1 [(.val (.int .i64 0))] [(0, 1, (.tmp 40))], none, true⟩,
 ⟨(some 42), .call (.av (.func 12 [])) [(.tmp 37), (.tmp 41)], none, true⟩])
 (.seq (.ops [⟨(some 43), .fieldAddr 3 (.tmp 3), none, true⟩,
 ⟨(some 44), .load none (.tmp 43), none, true⟩,
 ⟨(some 45), .len (.tmp 44), none, true⟩,
 ⟨(some 46), .mv (.av (.val (.int .i64 0))), none, true⟩])
 (jax 2 3 47 46 45 75
 (.seq (.ops [⟨(some 48), .indexAddr 5 (.tmp 44) (.tmp 46), none, true⟩,
 ⟨(some 49), .load (some 5) (.tmp 48), none, true⟩,
 ⟨(some 7), .zero [(.val (.int .i64 0)), (.val (.int .i64 0)), (.val (.int .i64 0)), (.val (.int .i64 0)), (.val (.slice none 0 0))], none, true⟩,
 ⟨none, .store 5 (.tmp 7) (.tmp 49), none, true⟩])
 (.seq (.ops [⟨(some 50), .mv (.tmp 0), none, true⟩,
 ⟨(some 51), .fieldAddr 0 (.tmp 7), none, true⟩,
 ⟨(some 52), .load (some 2) (.tmp 51), none, true⟩,
 ⟨(some 53), .call (.av (.func 31 [])) [(.tmp 50), (.tmp 52)], none, true⟩])
 (.seq (.ops [⟨(some 54), .mv (.tmp 0), none, true⟩,
 ⟨(some 55), .fieldAddr 2 (.tmp 7), none, true⟩,
 ⟨(some 56), .load none (.tmp 55), none, true⟩,
 ⟨(some 57), .fieldAddr 3 (.tmp 7), none, true⟩,
 ⟨(some 58), .load none (.tmp 57), none, true⟩,
 ⟨(some 59), .fieldAddr 4 (.tmp 7), none, true⟩,
 ⟨(some 60), .load none (.tmp 59), none, true⟩,
 ⟨(some 61), .len (.tmp 60), none, true⟩,
 ⟨(some 62), .lits 1 3 [(.val (.int .i64 0)), (.val (.int .i64 0)), (.val (.int .i64 0))] [(0, 1, (.tmp 56)), (1, 1, (.tmp 58)), (2, 1, (.tmp 61))], none, true⟩,
 ⟨(some 63), .call (.av (.func 12 [])) [(.tmp 54), (.tmp 62)], none, true⟩])
 (.seq (.ops [⟨(some 64), .fieldAddr 4 (.tmp 7), none, true⟩,
 ⟨(some 65), .load none (.tmp 64), none, true⟩,
 ⟨(some 66), .len (.tmp 65), none, true⟩,
 ⟨(some 67), .mv (.av (.val (.int .i64 0))), none, true⟩])
 (jax 4 5 68 67 66 74
 (.seq (.ops [⟨(some 69), .indexAddr 2 (.tmp 65) (.tmp 67), none, true⟩,
 ⟨(some 70), .load (some 2) (.tmp 69), none, true⟩,
 ⟨(some 9), .zero [(.val (.int .i64 0)), (.val (.int .i64 0))], none, true⟩,
 ⟨none, .store 2 (.tmp 9) (.tmp 70), none, true⟩])
 (.ops [⟨(some 71), .mv (.tmp 0), none, true⟩,
 ⟨(some 72), .load (some 2) (.tmp 9), none, true⟩,
 ⟨(some 73), .call (.av (.func 31 [])) [(.tmp 71), (.tmp 72)], none, true⟩]))))))))))))
theorem f_od_wx : jap Try.prog 14 = some ⟨76, jno, []⟩ := by kernel_rfl
def jjY : jar := .seq (.ops [⟨(some 2), .mv (.av (.val (.int .i64 0))), none, true⟩])
 (.seq (.ops [⟨(some 3), .mv (.av (.val (.int .u64 0))), none, true⟩])
 (.seq (.ops [⟨(some 4), .mv (.av (.val (.int .i64 0))), none, true⟩])
 (.block 0 (.loop (.seq (.block 1 (.seq (.seq (.ops [⟨(some 8), .mv (.tmp 0), none, true⟩,
 ⟨(some 9), .nilCheck (.tmp 8), none, true⟩,
 ⟨(some 10), .fieldAddr 0 (.tmp 9), none, true⟩,
 ⟨(some 11), .load none (.tmp 10), none, true⟩,
 ⟨(some 12), .len (.tmp 11), none, true⟩,
 ⟨(some 13), .bin .eql (.tmp 12) (.av (.val (.int .i64 0))), none, true⟩,
 ⟨(some 14), .mv (.tmp 13), none, true⟩,
 ⟨(some 15), .mv (.tmp 4), (some (14, false)), true⟩,
 ⟨(some 16), .bin .gtr (.tmp 15) (.av (.val (.int .i64 63))), (some (14, false)), true⟩,
 ⟨(some 17), .pick (.tmp 14) (.av (.val (.bool true))) (.tmp 16), none, true⟩])
 (.cond (.tmp 17)
 (.ops [⟨(some 18), .build [] [], none, true⟩,
 ⟨(some 19), .iface 54 (.tmp 18), none, true⟩,
 ⟨none, .panic (.tmp 19), none, true⟩])
 (.skip)))
 (.seq (.ops [⟨(some 20), .mv (.tmp 0), none, true⟩,
 ⟨(some 21), .nilCheck (.tmp 20), none, true⟩,
 ⟨(some 22), .fieldAddr 0 (.tmp 21), none, true⟩,
 ⟨(some 23), .load none (.tmp 22), none, true⟩,
 ⟨(some 24), .indexAddr 1 (.tmp 23) (.av (.val (.int .i64 0))), none, true⟩,
 ⟨(some 25), .load none (.tmp 24), none, true⟩,
 ⟨(some 5), .mv (.tmp 25), none, true⟩])
 (.seq (.ops [⟨(some 26), .mv (.tmp 0), none, true⟩,
 ⟨(some 27), .mv (.tmp 0), none, true⟩,
 ⟨(some 28), .nilCheck (.tmp 27), none, true⟩,
 ⟨(some 29), .fieldAddr 0 (.tmp 28), none, true⟩,
 ⟨(some 30), .load none (.tmp 29), none, true⟩,
 ⟨(some 31), .slice 1 (.tmp 30) (some (.av (.val (.int .i64 1)))) none none, none, true⟩,
 ⟨(some 32), .nilCheck (.tmp 26), none, true⟩,
 ⟨(some 33), .fieldAddr 0 (.tmp 32), none, true⟩,
 ⟨none, .store 1 (.tmp 33) (.tmp 31), none, true⟩])
 (.seq (.ops [⟨(some 34), .mv (.tmp 3), none, true⟩,
 ⟨(some 35), .mv (.tmp 5), none, true⟩,
 ⟨(some 36), .bin .and (.tmp 35) (.av (.val (.int .u8 127))), none, true⟩,
 ⟨(some 37), .conv .u64 (.tmp 36), none, true⟩,
 ⟨(some 38), .mv (.tmp 4), none, true⟩,
 ⟨(some 39), .bin .shl (.tmp 37) (.tmp 38), none, true⟩,
 ⟨(some 40), .bin .or (.tmp 34) (.tmp 39), none, true⟩,
 ⟨(some 3), .mv (.tmp 40), none, true⟩])
 (.seq (.ops [⟨(some 41), .mv (.tmp 5), none, true⟩,
 ⟨(some 42), .bin .lss (.tmp 41) (.av (.val (.int .u8 128))), none, true⟩])
 (.cond (.tmp 42)
 (.seq (.ops [⟨(some 43), .mv (.tmp 3), none, true⟩,
 ⟨(some 44), .bin .shr (.tmp 43) (.av (.val (.int .u64 1))), none, true⟩,
 ⟨(some 45), .conv .i64 (.tmp 44), none, true⟩,
 ⟨(some 46), .mv (.tmp 3), none, true⟩,
 ⟨(some 47), .bin .and (.tmp 46) (.av (.val (.int .u64 1))), none, true⟩,
 ⟨(some 48), .conv .i64 (.tmp 47), none, true⟩,
 ⟨(some 49), .un .neg (.tmp 48), none, true⟩,
 ⟨(some 50), .bin .xor (.tmp 45) (.tmp 49), none, true⟩,
 ⟨(some 2), .mv (.tmp 50), none, true⟩])
 (.ret))
 (.skip))))))))
 (.ops [⟨(some 6), .mv (.tmp 4), none, true⟩,
 ⟨(some 7), .bin .add (.tmp 6) (.av (.val (.int .i64 7))), none, true⟩,
 ⟨(some 4), .mv (.tmp 7), none, true⟩]))))))
theorem f_od_num : jap Try.prog 16 = some ⟨51, jjY, [.tmp 2]⟩ := by kernel_rfl
def jnw : jar := .seq (.ops [⟨(some 6), .mv (.av (.val (.slice none 0 0))), none, true⟩])
 (.seq (.ops [⟨(some 9), .mv (.tmp 0), none, true⟩,
 ⟨(some 10), .call (.av (.func 16 [])) [(.tmp 9)], none, true⟩,
 ⟨(some 7), .mv (.tmp 10), none, true⟩])
 (.seq (.seq (.ops [⟨(some 11), .mv (.tmp 7), none, true⟩,
 ⟨(some 12), .bin .lss (.tmp 11) (.av (.val (.int .i64 0))), none, true⟩,
 ⟨(some 13), .mv (.tmp 12), none, true⟩,
 ⟨(some 14), .mv (.tmp 7), (some (13, false)), true⟩,
 ⟨(some 15), .mv (.tmp 1), (some (13, false)), true⟩,
 ⟨(some 16), .bin .gtr (.tmp 14) (.tmp 15), (some (13, false)), true⟩,
 ⟨(some 17), .pick (.tmp 13) (.av (.val (.bool true))) (.tmp 16), none, true⟩])
 (.cond (.tmp 17)
 (.ops [⟨(some 18), .build [] [], none, true⟩,
 ⟨(some 19), .iface 54 (.tmp 18), none, true⟩,
 ⟨none, .panic (.tmp 19), none, true⟩])
 (.skip)))
 (.seq (.ops [⟨(some 8), .mv (.av (.val (.slice none 0 0))), none, true⟩])
 (.seq (.seq (.ops [⟨(some 20), .mv (.tmp 7), none, true⟩,
 ⟨(some 21), .mv (.av (.val (.int .i64 0))), none, true⟩])
 (jax 0 1 22 21 20 28
 (.ops [⟨(some 23), .mv (.tmp 8), none, true⟩,
 ⟨(some 24), .mv (.tmp 2), none, true⟩,
 ⟨(some 25), .call (.tmp 24) [], none, true⟩,
 ⟨(some 26), .lits 8 1 [(.val (.int .i64 0)), (.val (.int .i64 0)), (.val (.int .i64 0)), (.val (.int .i64 0)), (.val (.int .i64 0)), (.val (.int .i64 0)), (.val (.int .i64 0)), (.val (.int .i64 0))] [(0, 8, (.tmp 25))], none, true⟩,
 ⟨(some 27), .append 8 64 (.tmp 23) (.tmp 26), none, true⟩,
 ⟨(some 8), .mv (.tmp 27), none, true⟩])))
 (.seq (.ops [⟨(some 29), .mv (.tmp 8), none, true⟩,
 ⟨(some 6), .mv (.tmp 29), none, true⟩])
 (.ret))))))
theorem f_od_lO : jap Try.prog 17 = some ⟨30, jnw, [.tmp 6]⟩ := by kernel_rfl
def jns : jar := .seq (.ops [⟨(some 2), .zero [(.val (.int .i64 0)), (.val (.int .i64 0)), (.val (.int .i64 0)), (.val (.int .i64 0)), (.val (.int .i64 0)), (.val (.int .i64 0)), (.val (.int .i64 0)), (.val (.int .i64 0))], none, true⟩])
 (.seq (.ops [⟨(some 3), .mv (.tmp 0), none, true⟩,
 ⟨(some 4), .call (.av (.func 16 [])) [(.tmp 3)], none, true⟩,
 ⟨(some 5), .mv (.tmp 0), none, true⟩,
 ⟨(some 6), .call (.av (.func 16 [])) [(.tmp 5)], none, true⟩,
 ⟨(some 7), .mv (.tmp 0), none, true⟩,
 ⟨(some 8), .call (.av (.func 16 [])) [(.tmp 7)], none, true⟩,
 ⟨(some 9), .mv (.tmp 0), none, true⟩,
 ⟨(some 10), .call (.av (.func 16 [])) [(.tmp 9)], none, true⟩,
 ⟨(some 11), .mv (.tmp 0), none, true⟩,
 ⟨(some 12), .call (.av (.func 16 [])) [(.tmp 11)], none, true⟩,
 ⟨(some 13), .mv (.tmp 0), none, true⟩,
 ⟨(some 14), .call (.av (.func 16 [])) [(.tmp 13)], none, true⟩,
 ⟨(some 15), .mv (.tmp 0), none, true⟩,
 ⟨(some 16), .call (.av (.func 16 [])) [(.tmp 15)], none, true⟩,
 ⟨(some 17), .mv (.tmp 0), none, true⟩,
 ⟨(some 18), .call (.av (.func 16 [])) [(.tmp 17)], none, true⟩,
 ⟨(some 19), .build [(.val (.int .i64 0)), (.val (.int .i64 0))] [(0, 1, (.tmp 16)), (1, 1, (.tmp 18))], none, true⟩,
 ⟨(some 20), .build [(.val (.int .i64 0)), (.val (.int .i64 0)), (.val (.int .i64 0)), (.val (.int .i64 0)), (.val (.int .i64 0)), (.val (.int .i64 0)), (.val (.int .i64 0)), (.val (.int .i64 0))] [(0, 1, (.tmp 4)), (1, 1, (.tmp 6)), (2, 1, (.tmp 8)), (3, 1, (.tmp 10)), (4, 1, (.tmp 12)), (5, 1, (.tmp 14)), (6, 2, (.tmp 19))], none, true⟩,
 ⟨none, .store 8 (.tmp 2) (.tmp 20), none, true⟩])
 (.ret))
theorem f_od_ro : jap Try.prog 18 = some ⟨21, jns, [.cell 2 (some 8)]⟩ := by kernel_rfl
def jnt : jar := .seq (.ops [⟨(some 6), .mv (.av (.val (.slice none 0 0))), none, true⟩])
 (.seq (.ops [⟨(some 9), .mv (.tmp 0), none, true⟩,
 ⟨(some 10), .call (.av (.func 16 [])) [(.tmp 9)], none, true⟩,
 ⟨(some 7), .mv (.tmp 10), none, true⟩])
 (.seq (.seq (.ops [⟨(some 11), .mv (.tmp 7), none, true⟩,
 ⟨(some 12), .bin .lss (.tmp 11) (.av (.val (.int .i64 0))), none, true⟩,
 ⟨(some 13), .mv (.tmp 12), none, true⟩,
 ⟨(some 14), .mv (.tmp 7), (some (13, false)), true⟩,
 ⟨(some 15), .mv (.tmp 1), (some (13, false)), true⟩,
 ⟨(some 16), .bin .gtr (.tmp 14) (.tmp 15), (some (13, false)), true⟩,
 ⟨(some 17), .pick (.tmp 13) (.av (.val (.bool true))) (.tmp 16), none, true⟩])
 (.cond (.tmp 17)
 (.ops [⟨(some 18), .build [] [], none, true⟩,
 ⟨(some 19), .iface 54 (.tmp 18), none, true⟩,
 ⟨none, .panic (.tmp 19), none, true⟩])
 (.skip)))
 (.seq (.ops [⟨(some 8), .mv (.av (.val (.slice none 0 0))), none, true⟩])
 (.seq (.seq (.ops [⟨(some 20), .mv (.tmp 7), none, true⟩,
 ⟨(some 21), .mv (.av (.val (.int .i64 0))), none, true⟩])
 (jax 0 1 22 21 20 28
 (.ops [⟨(some 23), .mv (.tmp 8), none, true⟩,
 ⟨(some 24), .mv (.tmp 2), none, true⟩,
 ⟨(some 25), .call (.tmp 24) [], none, true⟩,
 ⟨(some 26), .lits 4 1 [(.val (.int .i64 0)), (.val (.int .i64 0)), (.val (.slice none 0 0)), (.val (.slice none 0 0))] [(0, 4, (.tmp 25))], none, true⟩,
 ⟨(some 27), .append 4 64 (.tmp 23) (.tmp 26), none, true⟩,
 ⟨(some 8), .mv (.tmp 27), none, true⟩])))
 (.seq (.ops [⟨(some 29), .mv (.tmp 8), none, true⟩,
 ⟨(some 6), .mv (.tmp 29), none, true⟩])
 (.ret))))))
theorem f_od_lX : jap Try.prog 19 = some ⟨30, jnt, [.tmp 6]⟩ := by kernel_rfl
def jnq : jar := .seq (.ops [⟨(some 1), .box 1 (.tmp 0), none, true⟩,
 ⟨(some 2), .zero [(.val (.int .i64 0)), (.val (.int .i64 0)), (.val (.slice none 0 0)), (.val (.slice none 0 0))], none, true⟩])
 (.seq (.opsH [⟨(some 4), .load none (.tmp 1), none, true⟩,
 ⟨(some 5), .call (.av (.func 16 [])) [(.tmp 4)], none, true⟩,
 ⟨(some 6), .load none (.tmp 1), none, true⟩,
 ⟨(some 7), .call (.av (.func 16 [])) [(.tmp 6)], none, true⟩,
 ⟨(some 8), .build [(.val (.int .i64 0)), (.val (.int .i64 0)), (.val (.slice none 0 0)), (.val (.slice none 0 0))] [(0, 1, (.tmp 5)), (1, 1, (.tmp 7))], none, true⟩,
 ⟨(some 3), .zero [(.val (.int .i64 0)), (.val (.int .i64 0)), (.val (.slice none 0 0)), (.val (.slice none 0 0))], none, true⟩,
 ⟨none, .store 4 (.tmp 3) (.tmp 8), none, true⟩])
 (.seq (.ops [⟨(some 9), .load none (.tmp 1), none, true⟩,
 ⟨(some 10), .func 33 [(.tmp 1)], none, true⟩,
 ⟨(some 11), .call (.av (.func 32 [])) [(.tmp 9), (.av (.val (.int .i64 60))), (.tmp 10)], none, true⟩,
 ⟨(some 12), .fieldAddr 2 (.tmp 3), none, true⟩,
 ⟨none, .store 1 (.tmp 12) (.tmp 11), none, true⟩])
 (.seq (.ops [⟨(some 13), .load none (.tmp 1), none, true⟩,
 ⟨(some 14), .func 36 [(.tmp 1)], none, true⟩,
 ⟨(some 15), .call (.av (.func 35 [])) [(.tmp 13), (.av (.val (.int .i64 300))), (.tmp 14)], none, true⟩,
 ⟨(some 16), .fieldAddr 3 (.tmp 3), none, true⟩,
 ⟨none, .store 1 (.tmp 16) (.tmp 15), none, true⟩])
 (.seq (.ops [⟨(some 17), .load (some 4) (.tmp 3), none, true⟩,
 ⟨none, .store 4 (.tmp 2) (.tmp 17), none, true⟩])
 (.ret)))))
theorem f_od_rx : jap Try.prog 20 = some ⟨18, jnq, [.cell 2 (some 4)]⟩ := by kernel_rfl
def jny : jar := .seq (.ops [⟨(some 4), .mv (.av (.val (.bool false))), none, true⟩])
 (.seq (.seq (.ops [⟨(some 6), .mv (.tmp 0), none, true⟩,
 ⟨(some 7), .len (.tmp 6), none, true⟩,
 ⟨(some 8), .mv (.tmp 1), none, true⟩,
 ⟨(some 9), .len (.tmp 8), none, true⟩,
 ⟨(some 10), .bin .neq (.tmp 7) (.tmp 9), none, true⟩])
 (.cond (.tmp 10)
 (.seq (.ops [⟨(some 4), .mv (.av (.val (.bool false))), none, true⟩])
 (.ret))
 (.skip)))
 (.seq (.seq (.ops [⟨(some 11), .mv (.tmp 0), none, true⟩,
 ⟨(some 12), .len (.tmp 11), none, true⟩,
 ⟨(some 13), .mv (.av (.val (.int .i64 0))), none, true⟩])
 (jax 0 1 14 13 12 25
 (.seq (.ops [⟨(some 15), .mv (.tmp 13), none, true⟩,
 ⟨(some 5), .mv (.tmp 15), none, true⟩])
 (.seq (.opsD [⟨(some 16), .mv (.tmp 0), none, true⟩,
 ⟨(some 17), .mv (.tmp 5), none, true⟩,
 ⟨(some 18), .indexAddr 1 (.tmp 16) (.tmp 17), none, true⟩,
 ⟨(some 19), .load none (.tmp 18), none, true⟩,
 ⟨(some 20), .mv (.tmp 1), none, true⟩,
 ⟨(some 21), .mv (.tmp 5), none, true⟩,
 ⟨(some 22), .indexAddr 1 (.tmp 20) (.tmp 21), none, true⟩,
 ⟨(some 23), .load none (.tmp 22), none, true⟩,
 ⟨(some 24), .bin .neq (.tmp 19) (.tmp 23), none, true⟩])
 (.cond (.tmp 24)
 (.seq (.ops [⟨(some 4), .mv (.av (.val (.bool false))), none, true⟩])
 (.ret))
 (.skip))))))
 (.seq (.ops [⟨(some 4), .mv (.av (.val (.bool true))), none, true⟩])
 (.ret))))
theorem f_od_eq : jap Try.prog 21 = some ⟨26, jny, [.tmp 4]⟩ := by kernel_rfl
def jgG : jar := .seq (.ops [⟨(some 2), .box 4 (.tmp 0), none, true⟩,
 ⟨(some 3), .box 4 (.tmp 1), none, true⟩,
 ⟨(some 4), .mv (.av (.val (.bool false))), none, true⟩])
 (.seq (.seq (.ops [⟨(some 8), .fieldAddr 0 (.tmp 2), none, true⟩,
 ⟨(some 9), .load none (.tmp 8), none, true⟩,
 ⟨(some 10), .fieldAddr 0 (.tmp 3), none, true⟩,
 ⟨(some 11), .load none (.tmp 10), none, true⟩,
 ⟨(some 12), .bin .neq (.tmp 9) (.tmp 11), none, true⟩,
 ⟨(some 13), .mv (.tmp 12), none, true⟩,
 ⟨(some 14), .fieldAddr 1 (.tmp 2), (some (13, false)), true⟩,
 ⟨(some 15), .load none (.tmp 14), (some (13, false)), true⟩,
 ⟨(some 16), .fieldAddr 1 (.tmp 3), (some (13, false)), true⟩,
 ⟨(some 17), .load none (.tmp 16), (some (13, false)), true⟩,
 ⟨(some 18), .bin .neq (.tmp 15) (.tmp 17), (some (13, false)), true⟩,
 ⟨(some 19), .pick (.tmp 13) (.av (.val (.bool true))) (.tmp 18), none, true⟩,
 ⟨(some 20), .mv (.tmp 19), none, true⟩,
 ⟨(some 21), .fieldAddr 2 (.tmp 2), (some (20, false)), true⟩,
 ⟨(some 22), .load none (.tmp 21), (some (20, false)), true⟩,
 ⟨(some 23), .fieldAddr 2 (.tmp 3), (some (20, false)), true⟩,
 ⟨(some 24), .load none (.tmp 23), (some (20, false)), true⟩,
 ⟨(some 25), .call (.av (.func 38 [])) [(.tmp 22), (.tmp 24)], (some (20, false)), true⟩,
 ⟨(some 26), .un .not (.tmp 25), (some (20, false)), true⟩,
 ⟨(some 27), .pick (.tmp 20) (.av (.val (.bool true))) (.tmp 26), none, true⟩,
 ⟨(some 28), .mv (.tmp 27), none, true⟩,
 ⟨(some 29), .fieldAddr 3 (.tmp 2), (some (28, false)), true⟩,
 ⟨(some 30), .load none (.tmp 29), (some (28, false)), true⟩,
 ⟨(some 31), .len (.tmp 30), (some (28, false)), true⟩,
 ⟨(some 32), .fieldAddr 3 (.tmp 3), (some (28, false)), true⟩,
 ⟨(some 33), .load none (.tmp 32), (some (28, false)), true⟩,
 ⟨(some 34), .len (.tmp 33), (some (28, false)), true⟩,
 ⟨(some 35), .bin .neq (.tmp 31) (.tmp 34), (some (28, false)), true⟩,
 ⟨(some 36), .pick (.tmp 28) (.av (.val (.bool true))) (.tmp 35), none, true⟩])
 (.cond (.tmp 36)
 (.seq (.ops [⟨(some 4), .mv (.av (.val (.bool false))), none, true⟩])
 (.ret))
 (.skip)))
 (.seq (.seq (.ops [⟨(some 37), .fieldAddr 3 (.tmp 2), none, true⟩,
 ⟨(some 38), .load none (.tmp 37), none, true⟩,
 ⟨(some 39), .len (.tmp 38), none, true⟩,
 ⟨(some 40), .mv (.av (.val (.int .i64 0))), none, true⟩])
 (jax 0 1 41 40 39 77
 (.seq (.ops [⟨(some 42), .mv (.tmp 40), none, true⟩,
 ⟨(some 43), .indexAddr 5 (.tmp 38) (.tmp 40), none, true⟩,
 ⟨(some 44), .load (some 5) (.tmp 43), none, true⟩,
 ⟨(some 6), .zero [(.val (.int .i64 0)), (.val (.int .i64 0)), (.val (.int .i64 0)), (.val (.int .i64 0)), (.val (.slice none 0 0))], none, true⟩,
 ⟨(some 5), .mv (.tmp 42), none, true⟩,
 ⟨none, .store 5 (.tmp 6) (.tmp 44), none, true⟩])
 (.seq (.ops [⟨(some 45), .fieldAddr 3 (.tmp 3), none, true⟩,
 ⟨(some 46), .load none (.tmp 45), none, true⟩,
 ⟨(some 47), .mv (.tmp 5), none, true⟩,
 ⟨(some 48), .indexAddr 5 (.tmp 46) (.tmp 47), none, true⟩,
 ⟨(some 49), .load (some 5) (.tmp 48), none, true⟩,
 ⟨(some 7), .zero [(.val (.int .i64 0)), (.val (.int .i64 0)), (.val (.int .i64 0)), (.val (.int .i64 0)), (.val (.slice none 0 0))], none, true⟩,
 ⟨none, .store 5 (.tmp 7) (.tmp 49), none, true⟩])
 (.seq (.ops [⟨(some 50), .fieldAddr 0 (.tmp 6), none, true⟩,
 ⟨(some 51), .load (some 2) (.tmp 50), none, true⟩,
 ⟨(some 52), .fieldAddr 0 (.tmp 7), none, true⟩,
 ⟨(some 53), .load (some 2) (.tmp 52), none, true⟩,
 ⟨(some 54), .eqAgg true [0, 0] (.tmp 51) (.tmp 53), none, true⟩,
 ⟨(some 55), .mv (.tmp 54), none, true⟩,
 ⟨(some 56), .fieldAddr 2 (.tmp 6), (some (55, false)), true⟩,
 ⟨(some 57), .load none (.tmp 56), (some (55, false)), true⟩,
 ⟨(some 58), .fieldAddr 2 (.tmp 7), (some (55, false)), true⟩,
 ⟨(some 59), .load none (.tmp 58), (some (55, false)), true⟩,
 ⟨(some 60), .bin .neq (.tmp 57) (.tmp 59), (some (55, false)), true⟩,
 ⟨(some 61), .pick (.tmp 55) (.av (.val (.bool true))) (.tmp 60), none, true⟩,
 ⟨(some 62), .mv (.tmp 61), none, true⟩,
 ⟨(some 63), .fieldAddr 3 (.tmp 6), (some (62, false)), true⟩,
 ⟨(some 64), .load none (.tmp 63), (some (62, false)), true⟩,
 ⟨(some 65), .fieldAddr 3 (.tmp 7), (some (62, false)), true⟩,
 ⟨(some 66), .load none (.tmp 65), (some (62, false)), true⟩,
 ⟨(some 67), .bin .neq (.tmp 64) (.tmp 66), (some (62, false)), true⟩,
 ⟨(some 68), .pick (.tmp 62) (.av (.val (.bool true))) (.tmp 67), none, true⟩,
 ⟨(some 69), .mv (.tmp 68), none, true⟩,
 ⟨(some 70), .fieldAddr 4 (.tmp 6), (some (69, false)), true⟩,
 ⟨(some 71), .load none (.tmp 70), (some (69, false)), true⟩,
 ⟨(some 72), .fieldAddr 4 (.tmp 7), (some (69, false)), true⟩,
 ⟨(some 73), .load none (.tmp 72), (some (69, false)), true⟩,
 ⟨(some 74), .call (.av (.func 39 [])) [(.tmp 71), (.tmp 73)], (some (69, false)), true⟩,
 ⟨(some 75), .un .not (.tmp 74), (some (69, false)), true⟩,
 ⟨(some 76), .pick (.tmp 69) (.av (.val (.bool true))) (.tmp 75), none, true⟩])
 (.cond (.tmp 76)
 (.seq (.ops [⟨(some 4), .mv (.av (.val (.bool false))), none, true⟩])
 (.ret))
 (.skip)))))))
 (.seq (.ops [⟨(some 4), .mv (.av (.val (.bool true))), none, true⟩])
 (.ret))))
theorem jk2 : jap Try.prog 23 = some ⟨78, jgG, [.tmp 4]⟩ := by kernel_rfl
def jnp : jar := .seq (.ops [⟨(some 3), .box 2 (.tmp 1), none, true⟩])
 (.ops [⟨(some 4), .mv (.tmp 0), none, true⟩,
 ⟨(some 5), .fieldAddr 0 (.tmp 3), none, true⟩,
 ⟨(some 6), .load none (.tmp 5), none, true⟩,
 ⟨(some 7), .fieldAddr 1 (.tmp 3), none, true⟩,
 ⟨(some 8), .load none (.tmp 7), none, true⟩,
 ⟨(some 9), .lits 1 2 [(.val (.int .i64 0)), (.val (.int .i64 0))] [(0, 1, (.tmp 6)), (1, 1, (.tmp 8))], none, true⟩,
 ⟨(some 10), .call (.av (.func 12 [])) [(.tmp 4), (.tmp 9)], none, true⟩])
theorem f_od_wp : jap Try.prog 31 = some ⟨11, jnp, []⟩ := by kernel_rfl
def jnu : jar := .seq (.ops [⟨(some 6), .mv (.av (.val (.slice none 0 0))), none, true⟩])
 (.seq (.ops [⟨(some 9), .mv (.tmp 0), none, true⟩,
 ⟨(some 10), .call (.av (.func 16 [])) [(.tmp 9)], none, true⟩,
 ⟨(some 7), .mv (.tmp 10), none, true⟩])
 (.seq (.seq (.ops [⟨(some 11), .mv (.tmp 7), none, true⟩,
 ⟨(some 12), .bin .lss (.tmp 11) (.av (.val (.int .i64 0))), none, true⟩,
 ⟨(some 13), .mv (.tmp 12), none, true⟩,
 ⟨(some 14), .mv (.tmp 7), (some (13, false)), true⟩,
 ⟨(some 15), .mv (.tmp 1), (some (13, false)), true⟩,
 ⟨(some 16), .bin .gtr (.tmp 14) (.tmp 15), (some (13, false)), true⟩,
 ⟨(some 17), .pick (.tmp 13) (.av (.val (.bool true))) (.tmp 16), none, true⟩])
 (.cond (.tmp 17)
 (.ops [⟨(some 18), .build [] [], none, true⟩,
 ⟨(some 19), .iface 54 (.tmp 18), none, true⟩,
 ⟨none, .panic (.tmp 19), none, true⟩])
 (.skip)))
 (.seq (.ops [⟨(some 8), .mv (.av (.val (.slice none 0 0))), none, true⟩])
 (.seq (.seq (.ops [⟨(some 20), .mv (.tmp 7), none, true⟩,
 ⟨(some 21), .mv (.av (.val (.int .i64 0))), none, true⟩])
 (jax 0 1 22 21 20 28
 (.ops [⟨(some 23), .mv (.tmp 8), none, true⟩,
 ⟨(some 24), .mv (.tmp 2), none, true⟩,
 ⟨(some 25), .call (.tmp 24) [], none, true⟩,
 ⟨(some 26), .lits 3 1 [(.val (.int .i64 0)), (.val (.int .i64 0)), (.val (.int .i64 0))] [(0, 3, (.tmp 25))], none, true⟩,
 ⟨(some 27), .append 3 24 (.tmp 23) (.tmp 26), none, true⟩,
 ⟨(some 8), .mv (.tmp 27), none, true⟩])))
 (.seq (.ops [⟨(some 29), .mv (.tmp 8), none, true⟩,
 ⟨(some 6), .mv (.tmp 29), none, true⟩])
 (.ret))))))
theorem f_od_lS : jap Try.prog 32 = some ⟨30, jnu, [.tmp 6]⟩ := by kernel_rfl
def jjX : jar := .seq (.ops [⟨(some 1), .zero [(.val (.int .i64 0)), (.val (.int .i64 0)), (.val (.int .i64 0))], none, true⟩])
 (.seq (.opsH [⟨(some 2), .load none (.tmp 0), none, true⟩,
 ⟨(some 3), .call (.av (.func 16 [])) [(.tmp 2)], none, true⟩,
 ⟨(some 4), .load none (.tmp 0), none, true⟩,
 ⟨(some 5), .call (.av (.func 34 [])) [(.tmp 4)], none, true⟩,
 ⟨(some 6), .build [(.val (.int .i64 0)), (.val (.int .i64 0)), (.val (.int .i64 0))] [(0, 1, (.tmp 3)), (1, 2, (.tmp 5))], none, true⟩,
 ⟨none, .store 3 (.tmp 1) (.tmp 6), none, true⟩])
 (.ret))
theorem f_od_rxa : jap Try.prog 33 = some ⟨7, jjX, [.cell 1 (some 3)]⟩ := by kernel_rfl
def jnr : jar := .seq (.ops [⟨(some 2), .zero [(.val (.int .i64 0)), (.val (.int .i64 0))], none, true⟩])
 (.seq (.ops [⟨(some 3), .mv (.tmp 0), none, true⟩,
 ⟨(some 4), .call (.av (.func 16 [])) [(.tmp 3)], none, true⟩,
 ⟨(some 5), .mv (.tmp 0), none, true⟩,
 ⟨(some 6), .call (.av (.func 16 [])) [(.tmp 5)], none, true⟩,
 ⟨(some 7), .build [(.val (.int .i64 0)), (.val (.int .i64 0))] [(0, 1, (.tmp 4)), (1, 1, (.tmp 6))], none, true⟩,
 ⟨none, .store 2 (.tmp 2) (.tmp 7), none, true⟩])
 (.ret))
theorem f_od_rp : jap Try.prog 34 = some ⟨8, jnr, [.cell 2 (some 2)]⟩ := by kernel_rfl
def jnx : jar := .seq (.ops [⟨(some 6), .mv (.av (.val (.slice none 0 0))), none, true⟩])
 (.seq (.ops [⟨(some 9), .mv (.tmp 0), none, true⟩,
 ⟨(some 10), .call (.av (.func 16 [])) [(.tmp 9)], none, true⟩,
 ⟨(some 7), .mv (.tmp 10), none, true⟩])
 (.seq (.seq (.ops [⟨(some 11), .mv (.tmp 7), none, true⟩,
 ⟨(some 12), .bin .lss (.tmp 11) (.av (.val (.int .i64 0))), none, true⟩,
 ⟨(some 13), .mv (.tmp 12), none, true⟩,
 ⟨(some 14), .mv (.tmp 7), (some (13, false)), true⟩,
 ⟨(some 15), .mv (.tmp 1), (some (13, false)), true⟩,
 ⟨(some 16), .bin .gtr (.tmp 14) (.tmp 15), (some (13, false)), true⟩,
 ⟨(some 17), .pick (.tmp 13) (.av (.val (.bool true))) (.tmp 16), none, true⟩])
 (.cond (.tmp 17)
 (.ops [⟨(some 18), .build [] [], none, true⟩,
 ⟨(some 19), .iface 54 (.tmp 18), none, true⟩,
 ⟨none, .panic (.tmp 19), none, true⟩])
 (.skip)))
 (.seq (.ops [⟨(some 8), .mv (.av (.val (.slice none 0 0))), none, true⟩])
 (.seq (.seq (.ops [⟨(some 20), .mv (.tmp 7), none, true⟩,
 ⟨(some 21), .mv (.av (.val (.int .i64 0))), none, true⟩])
 (jax 0 1 22 21 20 28
 (.ops [⟨(some 23), .mv (.tmp 8), none, true⟩,
 ⟨(some 24), .mv (.tmp 2), none, true⟩,
 ⟨(some 25), .call (.tmp 24) [], none, true⟩,
 ⟨(some 26), .lits 5 1 [(.val (.int .i64 0)), (.val (.int .i64 0)), (.val (.int .i64 0)), (.val (.int .i64 0)), (.val (.slice none 0 0))] [(0, 5, (.tmp 25))], none, true⟩,
 ⟨(some 27), .append 5 56 (.tmp 23) (.tmp 26), none, true⟩,
 ⟨(some 8), .mv (.tmp 27), none, true⟩])))
 (.seq (.ops [⟨(some 29), .mv (.tmp 8), none, true⟩,
 ⟨(some 6), .mv (.tmp 29), none, true⟩])
 (.ret))))))
theorem f_od_lM : jap Try.prog 35 = some ⟨30, jnx, [.tmp 6]⟩ := by kernel_rfl
def jjW : jar := .seq (.ops [⟨(some 1), .zero [(.val (.int .i64 0)), (.val (.int .i64 0)), (.val (.int .i64 0)), (.val (.int .i64 0)), (.val (.slice none 0 0))], none, true⟩])
 (.seq (.opsH [⟨(some 3), .load none (.tmp 0), none, true⟩,
 ⟨(some 4), .call (.av (.func 34 [])) [(.tmp 3)], none, true⟩,
 ⟨(some 5), .load none (.tmp 0), none, true⟩,
 ⟨(some 6), .call (.av (.func 16 [])) [(.tmp 5)], none, true⟩,
 ⟨(some 7), .load none (.tmp 0), none, true⟩,
 ⟨(some 8), .call (.av (.func 16 [])) [(.tmp 7)], none, true⟩,
 ⟨(some 9), .build [(.val (.int .i64 0)), (.val (.int .i64 0)), (.val (.int .i64 0)), (.val (.int .i64 0)), (.val (.slice none 0 0))] [(0, 2, (.tmp 4)), (2, 1, (.tmp 6)), (3, 1, (.tmp 8))], none, true⟩,
 ⟨(some 2), .zero [(.val (.int .i64 0)), (.val (.int .i64 0)), (.val (.int .i64 0)), (.val (.int .i64 0)), (.val (.slice none 0 0))], none, true⟩,
 ⟨none, .store 5 (.tmp 2) (.tmp 9), none, true⟩])
 (.seq (.ops [⟨(some 10), .load none (.tmp 0), none, true⟩,
 ⟨(some 11), .load none (.tmp 0), none, true⟩,
 ⟨(some 12), .bfunc 34 [(.tmp 11)] [], none, true⟩,
 ⟨(some 13), .call (.av (.func 37 [])) [(.tmp 10), (.av (.val (.int .i64 100))), (.tmp 12)], none, true⟩,
 ⟨(some 14), .fieldAddr 4 (.tmp 2), none, true⟩,
 ⟨none, .store 1 (.tmp 14) (.tmp 13), none, true⟩])
 (.seq (.ops [⟨(some 15), .load (some 5) (.tmp 2), none, true⟩,
 ⟨none, .store 5 (.tmp 1) (.tmp 15), none, true⟩])
 (.ret))))
theorem f_od_rxb : jap Try.prog 36 = some ⟨16, jjW, [.cell 1 (some 5)]⟩ := by kernel_rfl
def jnv : jar := .seq (.ops [⟨(some 6), .mv (.av (.val (.slice none 0 0))), none, true⟩])
 (.seq (.ops [⟨(some 9), .mv (.tmp 0), none, true⟩,
 ⟨(some 10), .call (.av (.func 16 [])) [(.tmp 9)], none, true⟩,
 ⟨(some 7), .mv (.tmp 10), none, true⟩])
 (.seq (.seq (.ops [⟨(some 11), .mv (.tmp 7), none, true⟩,
 ⟨(some 12), .bin .lss (.tmp 11) (.av (.val (.int .i64 0))), none, true⟩,
 ⟨(some 13), .mv (.tmp 12), none, true⟩,
 ⟨(some 14), .mv (.tmp 7), (some (13, false)), true⟩,
 ⟨(some 15), .mv (.tmp 1), (some (13, false)), true⟩,
 ⟨(some 16), .bin .gtr (.tmp 14) (.tmp 15), (some (13, false)), true⟩,
 ⟨(some 17), .pick (.tmp 13) (.av (.val (.bool true))) (.tmp 16), none, true⟩])
 (.cond (.tmp 17)
 (.ops [⟨(some 18), .build [] [], none, true⟩,
 ⟨(some 19), .iface 54 (.tmp 18), none, true⟩,
 ⟨none, .panic (.tmp 19), none, true⟩])
 (.skip)))
 (.seq (.ops [⟨(some 8), .mv (.av (.val (.slice none 0 0))), none, true⟩])
 (.seq (.seq (.ops [⟨(some 20), .mv (.tmp 7), none, true⟩,
 ⟨(some 21), .mv (.av (.val (.int .i64 0))), none, true⟩])
 (jax 0 1 22 21 20 28
 (.ops [⟨(some 23), .mv (.tmp 8), none, true⟩,
 ⟨(some 24), .mv (.tmp 2), none, true⟩,
 ⟨(some 25), .call (.tmp 24) [], none, true⟩,
 ⟨(some 26), .lits 2 1 [(.val (.int .i64 0)), (.val (.int .i64 0))] [(0, 2, (.tmp 25))], none, true⟩,
 ⟨(some 27), .append 2 16 (.tmp 23) (.tmp 26), none, true⟩,
 ⟨(some 8), .mv (.tmp 27), none, true⟩])))
 (.seq (.ops [⟨(some 29), .mv (.tmp 8), none, true⟩,
 ⟨(some 6), .mv (.tmp 29), none, true⟩])
 (.ret))))))
theorem f_od_lP : jap Try.prog 37 = some ⟨30, jnv, [.tmp 6]⟩ := by kernel_rfl
end Go.Proofs.Ytmholkmghhkbhaa

namespace Go.Proofs.Ytmholkmghhkbhaa
open Go
/-! ### Numbers -/
def zig (n : Int) : Nat := if 0 ≤ n then (2 * n).toNat else (-2 * n - 1).toNat
def jfi (u : Nat) : Int := if u % 2 = 0 then ((u / 2 : Nat) : Int) else -((u / 2 : Nat) : Int) - 1
abbrev R64 (n : Int) : Prop := -9223372036854775808 ≤ n ∧ n ≤ 9223372036854775807
theorem jmb (n : Int) : jfi (zig n) = n := by
 unfold zig
 split
 ·rename_i h
  unfold jfi
  rw [if_pos (by omega)]; omega
 ·rename_i h
  unfold jfi
  rw [if_neg (by omega)]; omega
theorem jhp {n : Int} (h : R64 n) : zig n < 18446744073709551616 := by unfold zig; split <;> omega
theorem unzig_r {u : Nat} (h : u < 18446744073709551616) : R64 (jfi u) := by unfold jfi; split <;> constructor <;> omega
def encU (u : Nat) : List Int := if h : u < 128 then [(u : Int)] else ((u % 128 + 128 : Nat) : Int) :: encU (u / 128)
  termination_by u
  decreasing_by omega
theorem jey {u : Nat} (h : u < 128) : encU u = [(u : Int)] := by rw [encU, dif_pos h]
theorem jez {u : Nat} (h : ¬ u < 128) : encU u = ((u % 128 + 128 : Nat) : Int) :: encU (u / 128) := by rw [encU, dif_neg h]
def numL (acc k : Nat) : List Int → Option (Nat × List Int)
  | [] => none
  | c :: r => if 63 < 7 * k then none else
    if c < 128 then some (acc + c.toNat % 128 * 2 ^ (7 * k) % 18446744073709551616, r) else numL (acc + c.toNat % 128 * 2 ^ (7 * k) % 18446744073709551616) (k + 1) r
theorem numL_enc : ∀ (u : Nat) (acc k : Nat) (r : List Int), 7 * k ≤ 63 → acc + u * 2 ^ (7 * k) < 18446744073709551616 → numL acc k (encU u ++ r) = some (acc + u * 2 ^ (7 * k), r) := by
 intro u
 induction u using Nat.strongRecOn with
 | _ u ih =>
  intro acc k r hk hlt
  by_cases h : u < 128
  ·rw [jey h]
   simp only [List.cons_append, List.nil_append, numL]
   rw [if_neg (by omega), if_pos (by omega), Int.toNat_natCast, Nat.mod_eq_of_lt h, Nat.mod_eq_of_lt (by omega)]
  ·rw [jez h]
   simp only [List.cons_append, numL]
   rw [if_neg (by omega), if_neg (by omega), Int.toNat_natCast]
   have e1 : (u % 128 + 128) % 128 = u % 128 := by omega
   have hp : 2 ^ (7 * (k + 1)) = 128 * 2 ^ (7 * k) := by
    rw [show 7 * (k + 1) = 7 + 7 * k by omega, Nat.pow_add]
   have e2 : u * 2 ^ (7 * k) = u % 128 * 2 ^ (7 * k) + u / 128 * 2 ^ (7 * (k + 1)) := by
    rw [hp]
    have : u = u % 128 + u / 128 * 128 := by omega
    conv => lhs; rw [this]
    rw [Nat.add_mul, Nat.mul_assoc]
   rw [e1, Nat.mod_eq_of_lt (by omega)]
   have hq : 1 ≤ u / 128 := by omega
   have hm : 2 ^ (7 * (k + 1)) ≤ u / 128 * 2 ^ (7 * (k + 1)) := Nat.le_mul_of_pos_left _ hq
   have hk2 : 7 * (k + 1) < 64 := by
    refine (Nat.pow_lt_pow_iff_right (a := 2) (by omega)).1 ?_
    have : (2 : Nat) ^ 64 = 18446744073709551616 := by decide
    omega
   rw [ih (u / 128) (by omega) _ (k + 1) r (by omega) (by omega), e2]
   simp only [Option.some.injEq, Prod.mk.injEq, and_true]
   omega
theorem jmp (c k : Nat) (hk : 7 * k ≤ 63) : ∃ q, c * 2 ^ (7 * k) % 18446744073709551616 = q * 2 ^ (7 * k) ∧ q * 2 ^ (7 * k) + 2 ^ (7 * k) ≤ 18446744073709551616 := by
 have h64 : 18446744073709551616 = 2 ^ (64 - 7 * k) * 2 ^ (7 * k) := by
  rw [← Nat.pow_add, show 64 - 7 * k + 7 * k = 64 by omega]
 refine ⟨c % 2 ^ (64 - 7 * k), ?_, ?_⟩
 ·rw [h64, Nat.mul_mod_mul_right]
 ·have : c % 2 ^ (64 - 7 * k) < 2 ^ (64 - 7 * k) := Nat.mod_lt _ (Nat.two_pow_pos _)
  have h2 : (c % 2 ^ (64 - 7 * k) + 1) * 2 ^ (7 * k) ≤ 2 ^ (64 - 7 * k) * 2 ^ (7 * k) := Nat.mul_le_mul_right _ this
  rw [Nat.add_mul, Nat.one_mul] at h2
  omega
theorem jmK : ∀ (l : List Int) (acc k : Nat) (u : Nat) (r : List Int), acc < 2 ^ (7 * k) → numL acc k l = some (u, r) → u < 18446744073709551616
 | [], acc, k, u, r, _, h => by simp [numL] at h
 | c :: l, acc, k, u, r, ha, h => by
  simp only [numL] at h
  split at h
  ·cases h
  ·rename_i hk
   obtain ⟨q, h1, h2⟩ := jmp (c.toNat % 128) k (by omega)
   rw [h1] at h
   split at h
   ·simp only [Option.some.injEq, Prod.mk.injEq] at h
    omega
   ·refine jmK l _ (k + 1) u r ?_ h
    have hq : c.toNat % 128 * 2 ^ (7 * k) % 18446744073709551616 ≤ c.toNat % 128 * 2 ^ (7 * k) := Nat.mod_le _ _
    have hp : 2 ^ (7 * (k + 1)) = 128 * 2 ^ (7 * k) := by
     rw [show 7 * (k + 1) = 7 + 7 * k by omega, Nat.pow_add]
    have h3 : c.toNat % 128 * 2 ^ (7 * k) ≤ 127 * 2 ^ (7 * k) := Nat.mul_le_mul_right _ (by omega)
    omega
def numP (l : List Int) : Option (Int × List Int) := match numL 0 0 l with
  | some (u, r) => some (jfi u, r)
  | none => none
def encN (n : Int) : List Int := encU (zig n)
theorem jaU {n : Int} (h : R64 n) (r : List Int) : numP (encN n ++ r) = some (n, r) := by
 unfold numP encN
 rw [numL_enc _ _ _ _ (by omega) (by have := jhp h; omega)]
 simp [jmb]
theorem jbM {l r : List Int} {n : Int} (h : numP l = some (n, r)) : R64 n := by
 unfold numP at h
 split at h
 ·rename_i u r' hu
  simp only [Option.some.injEq, Prod.mk.injEq] at h
  rw [← h.1]
  exact unzig_r (jmK _ _ _ _ _ (by simp) hu)
 ·cases h

/-! ### Readers -/
abbrev Rdr (α : Type) := List Int → Option (α × List Int)
def jba {α β : Type} (p : Option (α × List Int)) (f : α → List Int → Option (β × List Int)) : Option (β × List Int) := match p with
  | some (a, r) => f a r
  | none => none
theorem jac {α β : Type} {a : α} {r : List Int} {f : α → List Int → Option (β × List Int)} : jba (some (a, r)) f = f a r := rfl
theorem jat {α β : Type} {p : Option (α × List Int)} {f : α → List Int → Option (β × List Int)} {b : β × List Int} (h : jba p f = some b) : ∃ a r, p = some (a, r) ∧ f a r = some b := by
 match p, h with
 | some (a, r), h => exact ⟨a, r, rfl, h⟩
def repP {α : Type} (one : Rdr α) : Nat → List Int → Option (List α × List Int)
  | 0, l => some ([], l)
  | n + 1, l => jba (one l) fun x r => jba (repP one n r) fun xs r => some (x :: xs, r)
def ja6 {α : Type} (most : Int) (one : Rdr α) (l : List Int) : Option (List α × List Int) := jba (numP l) fun n r => if n < 0 ∨ most < n then none else repP one n.toNat r
def Goes {α : Type} (one : Rdr α) (enc : α → List Int) (x : α) : Prop := ∀ r, one (enc x ++ r) = some (x, r)
theorem jjw {α : Type} {one : Rdr α} {enc : α → List Int} : ∀ (xs : List α) (r : List Int), (∀ x ∈ xs, Goes one enc x) → repP one xs.length (xs.flatMap enc ++ r) = some (xs, r)
 | [], r, _ => rfl
 | x :: xs, r, h => by
  simp only [List.length_cons, repP, List.flatMap_cons, List.append_assoc]
  rw [h x (by simp), jac, jjw xs r (fun y hy => h y (by simp [hy])), jac]
def encL {α : Type} (enc : α → List Int) (xs : List α) : List Int := encN xs.length ++ xs.flatMap enc
theorem jdr {α : Type} {most : Int} {one : Rdr α} {enc : α → List Int} {xs : List α} (hm : (xs.length : Int) ≤ most) (hm2 : most ≤ 10000) (h : ∀ x ∈ xs, Goes one enc x) : Goes (ja6 most one) (encL enc) xs := fun r => by
 unfold ja6 encL
 rw [List.append_assoc, jaU ⟨by omega, by omega⟩, jac, if_neg (by omega), Int.toNat_natCast, jjw xs r h]
theorem jjx {α : Type} {one : Rdr α} {Q : α → Prop} (h1 : ∀ l x r, one l = some (x, r) → Q x) : ∀ (n : Nat) (l : List Int) xs r, repP one n l = some (xs, r) → ∀ x ∈ xs, Q x
 | 0, l, xs, r, h => by
  simp only [repP, Option.some.injEq, Prod.mk.injEq] at h
  rw [← h.1]; simp
 | n + 1, l, xs, r, h => by
  simp only [repP] at h
  obtain ⟨a, r1, e1, h⟩ := jat h
  obtain ⟨ys, r2, e2, h⟩ := jat h
  simp only [Option.some.injEq, Prod.mk.injEq] at h
  rw [← h.1]
  intro x hx
  rcases List.mem_cons.1 hx with rfl | hx
  ·exact h1 _ _ _ e1
  ·exact jjx h1 n _ _ _ e2 x hx
theorem jcn {α : Type} {most : Int} {one : Rdr α} {Q : α → Prop} (h1 : ∀ l x r, one l = some (x, r) → Q x) {l : List Int} {xs : List α} {r : List Int} (h : ja6 most one l = some (xs, r)) : ∀ x ∈ xs, Q x := by
 unfold ja6 at h
 obtain ⟨n, r1, e1, h⟩ := jat h
 split at h
 ·cases h
 ·exact jjx h1 _ _ _ _ h
theorem jjv {α : Type} {one : Rdr α} : ∀ (n : Nat) (l : List Int) xs r, repP one n l = some (xs, r) → xs.length = n
 | 0, l, xs, r, h => by
  simp only [repP, Option.some.injEq, Prod.mk.injEq] at h
  rw [← h.1]; rfl
 | n + 1, l, xs, r, h => by
  simp only [repP] at h
  obtain ⟨a, r1, e1, h⟩ := jat h
  obtain ⟨ys, r2, e2, h⟩ := jat h
  simp only [Option.some.injEq, Prod.mk.injEq] at h
  rw [← h.1, List.length_cons, jjv n _ _ _ e2]
theorem jdq {α : Type} {most : Int} {one : Rdr α} {l : List Int} {xs : List α} {r : List Int} (h : ja6 most one l = some (xs, r)) : (xs.length : Int) ≤ most := by
 unfold ja6 at h
 obtain ⟨n, r1, e1, h⟩ := jat h
 split at h
 ·cases h
 ·rw [jjv _ _ _ _ h]; omega

/-! ### Places, sets, makes, exits, orders, code -/
def jdk : Rdr OPl := fun l => jba (numP l) fun a r => jba (numP r) fun b r => some ((a, b), r)
def ja7 (p : OPl) : List Int := encN p.1 ++ encN p.2
def setP : Rdr OSt := fun l => jba (numP l) fun a r => jba (jdk r) fun p r => some ((a, p), r)
def setE (s : OSt) : List Int := encN s.1 ++ ja7 s.2
def jeW : Rdr OMk := fun l => jba (jdk l) fun p r => jba (numP r) fun k r => jba (numP r) fun n r => jba (ja6 100 jdk r) fun v r => some ((p.1, p.2, k, n, v), r)
def jc9 (m : OMk) : List Int := ja7 (m.1, m.2.1) ++ (encN m.2.2.1 ++ (encN m.2.2.2.1 ++ encL ja7 m.2.2.2.2))
def jdX : Rdr OXt := fun l => jba (numP l) fun a r => jba (numP r) fun s r => jba (ja6 60 setP r) fun ss r => jba (ja6 300 jeW r) fun ms r => some ((a, s, ss, ms), r)
def jcb (x : OXt) : List Int := encN x.1 ++ (encN x.2.1 ++ (encL setE x.2.2.1 ++ encL jc9 x.2.2.2))
def ordP : Rdr Rd := fun l => jba (numP l) fun o r => jba (numP r) fun a r => jba (numP r) fun b r => jba (numP r) fun c r => jba (numP r) fun n r => jba (numP r) fun x r => jba (numP r) fun k r => jba (numP r) fun m r => some ((o, a, b, c, n, x, k, m), r)
def ordE (x : Rd) : List Int := encN x.1 ++ (encN x.2.1 ++ (encN x.2.2.1 ++ (encN x.2.2.2.1 ++ (encN x.2.2.2.2.1 ++ (encN x.2.2.2.2.2.1 ++ (encN x.2.2.2.2.2.2.1 ++ encN x.2.2.2.2.2.2.2))))))
def jdb : Rdr Cd := fun l => jba (numP l) fun fn r => jba (numP r) fun pl r => jba (numP r) fun lp r => jba (numP r) fun sl r => jba (ja6 1500 ordP r) fun os r => jba (ja6 200 jdX r) fun xs r => jba (jdX r) fun t r => jba (jdX r) fun b r => some (⟨fn, pl, lp, sl, os, xs, t, b, false, false⟩, r)
def jdv (c : Cd) : List Int := encN c.fn ++ (encN c.pl ++ (encN c.lp ++ (encN c.sl ++ (encL ordE c.ords ++ (encL jcb c.exs ++ (jcb c.turn ++ jcb c.back))))))
/-! ### Numbers in range -/
def PlR (p : OPl) : Prop := R64 p.1 ∧ R64 p.2
def StR (s : OSt) : Prop := R64 s.1 ∧ PlR s.2
def MkR (m : OMk) : Prop := R64 m.1 ∧ R64 m.2.1 ∧ R64 m.2.2.1 ∧ R64 m.2.2.2.1 ∧ ∀ p ∈ m.2.2.2.2, PlR p
def XtR (x : OXt) : Prop := R64 x.1 ∧ R64 x.2.1 ∧ (∀ s ∈ x.2.2.1, StR s) ∧ ∀ m ∈ x.2.2.2, MkR m
def OdR (x : Rd) : Prop := R64 x.1 ∧ R64 x.2.1 ∧ R64 x.2.2.1 ∧ R64 x.2.2.2.1 ∧ R64 x.2.2.2.2.1 ∧ R64 x.2.2.2.2.2.1 ∧ R64 x.2.2.2.2.2.2.1 ∧ R64 x.2.2.2.2.2.2.2
structure CdR (c : Cd) : Prop where
  fn : R64 c.fn
  pl : R64 c.pl
  lp : R64 c.lp
  sl : R64 c.sl
  ords : ∀ x ∈ c.ords, OdR x
  exs : ∀ x ∈ c.exs, XtR x
  turn : XtR c.turn
  back : XtR c.back
theorem je7 {l : List Int} {p : OPl} {r : List Int} (h : jdk l = some (p, r)) : PlR p := by
 unfold jdk at h
 obtain ⟨a, r1, e1, h⟩ := jat h
 obtain ⟨b, r2, e2, h⟩ := jat h
 simp only [Option.some.injEq, Prod.mk.injEq] at h
 rw [← h.1]
 exact ⟨jbM e1, jbM e2⟩
theorem setP_r {l : List Int} {p : OSt} {r : List Int} (h : setP l = some (p, r)) : StR p := by
 unfold setP at h
 obtain ⟨a, r1, e1, h⟩ := jat h
 obtain ⟨b, r2, e2, h⟩ := jat h
 simp only [Option.some.injEq, Prod.mk.injEq] at h
 rw [← h.1]
 exact ⟨jbM e1, je7 e2⟩
theorem makeP_r {l : List Int} {p : OMk} {r : List Int} (h : jeW l = some (p, r)) : MkR p := by
 unfold jeW at h
 obtain ⟨a, r1, e1, h⟩ := jat h
 obtain ⟨b, r2, e2, h⟩ := jat h
 obtain ⟨c, r3, e3, h⟩ := jat h
 obtain ⟨d, r4, e4, h⟩ := jat h
 simp only [Option.some.injEq, Prod.mk.injEq] at h
 rw [← h.1]
 exact ⟨(je7 e1).1, (je7 e1).2, jbM e2, jbM e3, jcn (fun _ _ _ => je7) e4⟩
theorem ji4 {l : List Int} {p : OXt} {r : List Int} (h : jdX l = some (p, r)) : XtR p := by
 unfold jdX at h
 obtain ⟨a, r1, e1, h⟩ := jat h
 obtain ⟨b, r2, e2, h⟩ := jat h
 obtain ⟨c, r3, e3, h⟩ := jat h
 obtain ⟨d, r4, e4, h⟩ := jat h
 simp only [Option.some.injEq, Prod.mk.injEq] at h
 rw [← h.1]
 exact ⟨jbM e1, jbM e2, jcn (fun _ _ _ => setP_r) e3, jcn (fun _ _ _ => makeP_r) e4⟩
theorem ordP_r {l : List Int} {p : Rd} {r : List Int} (h : ordP l = some (p, r)) : OdR p := by
 unfold ordP at h
 obtain ⟨a1, r1, e1, h⟩ := jat h
 obtain ⟨a2, r2, e2, h⟩ := jat h
 obtain ⟨a3, r3, e3, h⟩ := jat h
 obtain ⟨a4, r4, e4, h⟩ := jat h
 obtain ⟨a5, r5, e5, h⟩ := jat h
 obtain ⟨a6, r6, e6, h⟩ := jat h
 obtain ⟨a7, r7, e7, h⟩ := jat h
 obtain ⟨a8, r8, e8, h⟩ := jat h
 simp only [Option.some.injEq, Prod.mk.injEq] at h
 rw [← h.1]
 exact ⟨jbM e1, jbM e2, jbM e3, jbM e4, jbM e5, jbM e6, jbM e7, jbM e8⟩
theorem ji9 {l : List Int} {c : Cd} {r : List Int} (h : jdb l = some (c, r)) : CdR c ∧ c.xo = false ∧ c.xe = false ∧ c.ords.length ≤ 1500 ∧ c.exs.length ≤ 200 := by
 unfold jdb at h
 obtain ⟨a1, r1, e1, h⟩ := jat h
 obtain ⟨a2, r2, e2, h⟩ := jat h
 obtain ⟨a3, r3, e3, h⟩ := jat h
 obtain ⟨a4, r4, e4, h⟩ := jat h
 obtain ⟨a5, r5, e5, h⟩ := jat h
 obtain ⟨a6, r6, e6, h⟩ := jat h
 obtain ⟨a7, r7, e7, h⟩ := jat h
 obtain ⟨a8, r8, e8, h⟩ := jat h
 simp only [Option.some.injEq, Prod.mk.injEq] at h
 rw [← h.1]
 have h5 := jdq e5
 have h6 := jdq e6
 exact ⟨⟨jbM e1, jbM e2, jbM e3, jbM e4, jcn (fun _ _ _ => ordP_r) e5, jcn (fun _ _ _ => ji4) e6, ji4 e7, ji4 e8⟩, rfl, rfl, by simp only; omega, by simp only; omega⟩
/-! ### There and back -/
theorem jg4 {p : OPl} (h : PlR p) : Goes jdk ja7 p := fun r => by
 unfold jdk ja7
 rw [List.append_assoc, jaU h.1, jac, jaU h.2, jac]
theorem set_go {s : OSt} (h : StR s) : Goes setP setE s := fun r => by
 unfold setP setE
 rw [List.append_assoc, jaU h.1, jac, jg4 h.2, jac]
theorem make_go {m : OMk} (h : MkR m) (hl : m.2.2.2.2.length ≤ 100) : Goes jeW jc9 m := fun r => by
 obtain ⟨h1, h2, h3, h4, h5⟩ := h
 unfold jeW jc9
 simp only [List.append_assoc]
 rw [jg4 (p := (m.1, m.2.1)) ⟨h1, h2⟩, jac, jaU h3, jac, jaU h4, jac, jdr (by omega) (by omega) (fun p hp => jg4 (h5 p hp)), jac]
structure XtL (x : OXt) : Prop where
  sets : x.2.2.1.length ≤ 60
  makes : x.2.2.2.length ≤ 300
  vals : ∀ m ∈ x.2.2.2, m.2.2.2.2.length ≤ 100
theorem ji3 {x : OXt} (h : XtR x) (hl : XtL x) : Goes jdX jcb x := fun r => by
 obtain ⟨h1, h2, h3, h4⟩ := h
 have l1 := hl.sets
 have l2 := hl.makes
 unfold jdX jcb
 simp only [List.append_assoc]
 rw [jaU h1, jac, jaU h2, jac, jdr (by omega) (by omega) (fun s hs => set_go (h3 s hs)), jac, jdr (by omega) (by omega) (fun m hm => make_go (h4 m hm) (hl.vals m hm)), jac]
theorem ord_go {x : Rd} (h : OdR x) : Goes ordP ordE x := fun r => by
 obtain ⟨h1, h2, h3, h4, h5, h6, h7, h8⟩ := h
 unfold ordP ordE
 simp only [List.append_assoc]
 rw [jaU h1, jac, jaU h2, jac, jaU h3, jac, jaU h4, jac, jaU h5, jac, jaU h6, jac, jaU h7, jac, jaU h8, jac]
theorem code_go {c : Cd} (h : CdR c) (ho : c.ords.length ≤ 1500) (hx : c.exs.length ≤ 200) (hl : ∀ x ∈ exsL c, XtL x) (h1 : c.xo = false) (h2 : c.xe = false) : Goes jdb jdv c := fun r => by
 unfold jdb jdv
 simp only [List.append_assoc]
 rw [jaU h.fn, jac, jaU h.pl, jac, jaU h.lp, jac, jaU h.sl, jac, jdr (by omega) (by omega) (fun x hx => ord_go (h.ords x hx)), jac, jdr (by omega) (by omega) (fun x hx => ji3 (h.exs x hx) (hl x (by simp [exsL, hx]))), jac,
  ji3 h.turn (hl _ (by simp [exsL])), jac, ji3 h.back (hl _ (by simp [exsL])), jac]
 obtain ⟨fn, pl, lp, sl, ords, exs, turn, back, xo, xe⟩ := c
 simp only at h1 h2
 subst h1; subst h2; rfl
theorem jei {c : Cd} (h : jbu c = 0) : c.ords.length ≤ 1500 ∧ c.exs.length ≤ 200 ∧ ∀ x ∈ exsL c, XtL x := by
 have := (check_ok.1 h).too
 unfold tooB at this
 simp only [Bool.or_eq_false_iff, decide_eq_false_iff_not] at this
 obtain ⟨t1, t2, t3, t4⟩ := this
 refine ⟨by omega, by omega, fun x hx => ?_⟩
 have := List.any_eq_false.1 t4 x hx
 unfold jc3 at this
 simp only [Bool.or_eq_true, decide_eq_true_eq, not_or, List.any_eq_true, not_exists, not_and] at this
 obtain ⟨q1, q2, q3⟩ := this
 refine ⟨by omega, by omega, fun m hm => ?_⟩
 have := q3 m hm
 unfold jef at this
 simp at this
 omega
def decF (b : List Int) : Option Cd := match jdb b with
  | some (c, _) => if jbu c = 0 ∧ jdv c = b then some c else none
  | none => none
theorem decF_enc {c : Cd} (h : CdR c) (hc : jbu c = 0) (h1 : c.xo = false) (h2 : c.xe = false) : decF (jdv c) = some c := by
 obtain ⟨l1, l2, l3⟩ := jei hc
 have := code_go h l1 l2 l3 h1 h2 []
 rw [List.append_nil] at this
 unfold decF
 rw [this]
 simp only
 rw [if_pos ⟨hc, trivial⟩]
theorem jng {b : List Int} {c : Cd} (h : decF b = some c) : jdv c = b ∧ jbu c = 0 ∧ CdR c ∧ c.xo = false ∧ c.xe = false := by
 unfold decF at h
 split at h
 ·rename_i c' r hc
  split at h
  ·rename_i hh
   injection h with h; subst h
   obtain ⟨q1, q2, q3, _⟩ := ji9 hc
   exact ⟨hh.2, hh.1, q1, q2, q3⟩
  ·cases h
 ·cases h
end Go.Proofs.Ytmholkmghhkbhaa

namespace Go.Proofs.Ytmholkmghhkbhaa
open Go Go.RowKit
theorem and_u8 {c : Int} (h : 0 ≤ c ∧ c < 256) : binV .and (.int .u8 c) (.int .u8 127) = some (.int .u8 ((c.toNat % 128 : Nat) : Int)) := by
 have hd : ∀ n : _root_.Fin 256, (match binV .and (.int .u8 ((n.val : Nat) : Int)) (.int .u8 127) with | some (.int .u8 z) => z == ((n.val % 128 : Nat) : Int) | _ => false) = true := by decide +kernel
 have := hd ⟨c.toNat, by omega⟩
 rw [show ((c.toNat : Nat) : Int) = c by omega] at this
 revert this
 generalize binV .and (.int .u8 c) (.int .u8 127) = r
 intro this
 split at this
 ·simp at this; rw [this]; simp
 ·cases this
theorem or_u8 {u : Nat} : binV .or (.int .u8 ((u % 256 : Nat) : Int)) (.int .u8 128) = some (.int .u8 ((u % 128 + 128 : Nat) : Int)) := by
 have hd : ∀ n : _root_.Fin 256, (match binV .or (.int .u8 ((n.val : Nat) : Int)) (.int .u8 128) with | some (.int .u8 z) => z == ((n.val % 128 + 128 : Nat) : Int) | _ => false) = true := by decide +kernel
 have := hd ⟨u % 256, by omega⟩
 revert this
 simp only
 generalize binV .or (.int .u8 ((u % 256 : Nat) : Int)) (.int .u8 128) = r
 intro this
 split at this
 ·simp at this; rw [this]; rfl
 ·cases this
theorem wr8 {n : Int} : IntKind.u8.wrap n = n % 256 := by simp [IntKind.wrap, IntKind.bits, IntKind.signed]
theorem wr64 {n : Int} : IntKind.u64.wrap n = n % 18446744073709551616 := by simp [IntKind.wrap, IntKind.bits, IntKind.signed]
theorem wu {n : Nat} (h : n < 18446744073709551616) : IntKind.u64.wrap (n : Int) = (n : Int) := by rw [wr64]; omega
theorem wi {n : Int} (h : R64 n) : IntKind.i64.wrap n = n := IntWalk.i64_in _ (by omega)
theorem shl_k {c k : Nat} (hk : 7 * k ≤ 63) : binV .shl (.int .u64 (c : Int)) (.int .i64 ((7 * k : Nat) : Int)) = some (.int .u64 ((c * 2 ^ (7 * k) % 18446744073709551616 : Nat) : Int)) := by
 have h0 : (0 : Int) ≤ ((7 * k : Nat) : Int) := by omega
 simp only [binV]
 rw [if_pos h0, wr64]
 congr 2
 have : min (((7 * k : Nat) : Int).toNat) (IntKind.u64.bits) = 7 * k := by simp [IntKind.bits]; omega
 rw [this]
 have e : (c : Int) * 2 ^ (7 * k) = ((c * 2 ^ (7 * k) : Nat) : Int) := by rw [Int.natCast_mul, Int.natCast_pow]; rfl
 rw [e]; omega
theorem or_k {acc x k : Nat} (hk : 7 * k ≤ 63) (ha : acc < 2 ^ (7 * k)) (hx : ∃ q, x = q * 2 ^ (7 * k)) (hlt : acc + x < 18446744073709551616) : binV .or (.int .u64 (acc : Int)) (.int .u64 (x : Int)) = some (.int .u64 ((acc + x : Nat) : Int)) := by
 obtain ⟨q, rfl⟩ := hx
 simp only [binV, if_true]
 congr 2
 rw [show IntKind.u64.bits = 64 from rfl]
 have e1 : BitVec.ofInt 64 (acc : Int) = BitVec.ofNat 64 acc := by simp
 have e2 : BitVec.ofInt 64 ((q * 2 ^ (7 * k) : Nat) : Int) = BitVec.ofNat 64 (q * 2 ^ (7 * k)) := BitVec.ofInt_natCast _ _
 rw [e1, e2, BitVec.toNat_or, BitVec.toNat_ofNat, BitVec.toNat_ofNat, Nat.mod_eq_of_lt (show acc < 2 ^ 64 by omega), Nat.mod_eq_of_lt (show q * 2 ^ (7 * k) < 2 ^ 64 by omega), Nat.or_comm]
 have : q * 2 ^ (7 * k) ||| acc = q * 2 ^ (7 * k) + acc := by
  rw [Nat.mul_comm]; exact (Nat.two_pow_add_eq_or_of_lt ha q).symm
 rw [this, wr64]; omega
theorem shr1 {u : Nat} (h : u < 18446744073709551616) : binV .shr (.int .u64 (u : Int)) (.int .u64 1) = some (.int .u64 ((u / 2 : Nat) : Int)) := by
 simp only [binV]
 rw [if_pos (by omega)]
 congr 2
 have : (u : Int).fdiv (2 ^ (min (Int.toNat 1) IntKind.u64.bits)) = ((u / 2 : Nat) : Int) := by
  have : min (Int.toNat 1) IntKind.u64.bits = 1 := by decide
  rw [this, Int.fdiv_eq_ediv_of_nonneg _ (by omega)]
  omega
 exact this
theorem shr7 {u : Nat} (h : u < 18446744073709551616) : binV .shr (.int .u64 (u : Int)) (.int .u64 7) = some (.int .u64 ((u / 128 : Nat) : Int)) := by
 simp only [binV]
 rw [if_pos (by omega)]
 congr 2
 have : (u : Int).fdiv (2 ^ (min (Int.toNat 7) IntKind.u64.bits)) = ((u / 128 : Nat) : Int) := by
  have : min (Int.toNat 7) IntKind.u64.bits = 7 := by decide
  rw [this, Int.fdiv_eq_ediv_of_nonneg _ (by omega)]
  omega
 exact this
theorem and1 {u : Nat} (h : u < 18446744073709551616) : binV .and (.int .u64 (u : Int)) (.int .u64 1) = some (.int .u64 ((u % 2 : Nat) : Int)) := by
 simp only [binV, if_true]
 congr 2
 rw [show IntKind.u64.bits = 64 from rfl]
 have e1 : BitVec.ofInt 64 (u : Int) = BitVec.ofNat 64 u := by simp
 have e2 : BitVec.ofInt 64 (1 : Int) = BitVec.ofNat 64 1 := by rfl
 rw [e1, e2, BitVec.toNat_and, BitVec.toNat_ofNat, BitVec.toNat_ofNat, Nat.mod_eq_of_lt (show u < 2 ^ 64 by omega), Nat.mod_eq_of_lt (show 1 < 2 ^ 64 by omega), Nat.and_one_is_mod]
 rw [wr64]; omega
theorem xor0 {u : Nat} (h : u < 9223372036854775808) : binV .xor (.int .i64 (u : Int)) (.int .i64 0) = some (.int .i64 (u : Int)) := by
 simp only [binV, if_true]
 congr 2
 rw [show IntKind.i64.bits = 64 from rfl]
 have e1 : BitVec.ofInt 64 (u : Int) = BitVec.ofNat 64 u := by simp
 have e2 : BitVec.ofInt 64 (0 : Int) = 0#64 := by rfl
 rw [e1, e2, BitVec.xor_zero, BitVec.toNat_ofNat, Nat.mod_eq_of_lt (show u < 2 ^ 64 by omega)]
 exact wi ⟨by omega, by omega⟩
theorem xor1 {u : Nat} (h : u < 9223372036854775808) : binV .xor (.int .i64 (u : Int)) (.int .i64 (-1)) = some (.int .i64 (-(u : Int) - 1)) := by
 simp only [binV, if_true]
 congr 2
 rw [show IntKind.i64.bits = 64 from rfl]
 have e1 : BitVec.ofInt 64 (u : Int) = BitVec.ofNat 64 u := by simp
 have e2 : BitVec.ofInt 64 (-1 : Int) = BitVec.allOnes 64 := by decide
 rw [e1, e2, BitVec.xor_allOnes, BitVec.toNat_not, BitVec.toNat_ofNat, Nat.mod_eq_of_lt (show u < 2 ^ 64 by omega)]
 have e3 : ((2 ^ 64 - 1 - u : Nat) : Int) = 18446744073709551615 - (u : Int) := by omega
 rw [e3]
 rw [IntKind.wrap_i64]; omega
theorem unz {u : Nat} (h : u < 18446744073709551616) : ∃ x : Int, unV .neg (.int .i64 ((u % 2 : Nat) : Int)) = some (.int .i64 x) ∧ binV .xor (.int .i64 ((u / 2 : Nat) : Int)) (.int .i64 x) = some (.int .i64 (jfi u)) := by
 by_cases h2 : u % 2 = 0
 ·refine ⟨0, by rw [h2]; rfl, ?_⟩
  rw [xor0 (by omega)]
  unfold jfi; rw [if_pos h2]
 ·have h3 : u % 2 = 1 := by omega
  refine ⟨-1, by rw [h3]; rfl, ?_⟩
  rw [xor1 (by omega)]
  unfold jfi; rw [if_neg h2]
theorem zigz {n : Int} (h : R64 n) : ∃ x y z : Int, binV .shl (.int .u64 (IntKind.u64.wrap n)) (.int .u64 1) = some (.int .u64 x) ∧ binV .shr (.int .i64 n) (.int .u64 63) = some (.int .i64 y) ∧ IntKind.u64.wrap y = z ∧ binV .xor (.int .u64 x) (.int .u64 z) = some (.int .u64 ((zig n : Nat) : Int)) := by
 have m1 : min (Int.toNat 1) IntKind.u64.bits = 1 := by decide
 have m63 : min (Int.toNat 63) IntKind.i64.bits = 63 := by decide
 have hy : binV .shr (.int .i64 n) (.int .u64 63) = some (.int .i64 (n.fdiv (2 ^ 63))) := by simp only [binV]; rw [if_pos (by omega), m63]
 have hx : binV .shl (.int .u64 (IntKind.u64.wrap n)) (.int .u64 1) = some (.int .u64 ((2 * n) % 18446744073709551616)) := by
  simp only [binV]
  rw [if_pos (by omega), m1, wr64, wr64]
  congr 2; omega
 rw [Int.fdiv_eq_ediv_of_nonneg _ (by omega)] at hy
 refine ⟨_, _, _, hx, hy, rfl, ?_⟩
 by_cases h0 : 0 ≤ n
 ·have e1 : n / 2 ^ 63 = 0 := by omega
  have e2 : (2 * n) % 18446744073709551616 = ((zig n : Nat) : Int) := by unfold zig; rw [if_pos h0]; omega
  have hz := jhp h
  rw [e1, e2, wr64, Int.zero_emod]
  simp only [binV, if_true]
  congr 2
  rw [show IntKind.u64.bits = 64 from rfl]
  rw [BitVec.ofInt_natCast, show BitVec.ofInt 64 (0 : Int) = 0#64 from rfl, BitVec.xor_zero, BitVec.toNat_ofNat, Nat.mod_eq_of_lt (show zig n < 2 ^ 64 by omega)]
  exact wu hz
 ·have e1 : n / 2 ^ 63 = -1 := by omega
  have hz := jhp h
  have e2 : (2 * n) % 18446744073709551616 = ((18446744073709551615 - zig n : Nat) : Int) := by unfold zig; rw [if_neg h0]; omega
  rw [e1, e2, wr64, show (-1 : Int) % 18446744073709551616 = 18446744073709551615 by decide]
  simp only [binV, if_true]
  congr 2
  rw [show IntKind.u64.bits = 64 from rfl]
  rw [BitVec.ofInt_natCast, show BitVec.ofInt 64 (18446744073709551615 : Int) = BitVec.allOnes 64 by decide, BitVec.xor_allOnes, BitVec.toNat_not, BitVec.toNat_ofNat, Nat.mod_eq_of_lt (show 18446744073709551615 - zig n < 2 ^ 64 by omega)]
  rw [show 2 ^ 64 - 1 - (18446744073709551615 - zig n) = zig n by omega]
  exact wu hz
end Go.Proofs.Ytmholkmghhkbhaa

namespace Go.Proofs.Ytmholkmghhkbhaa
open Go Go.RowKit
abbrev XQ (tb : List (FuncId × Bool)) (g : PX) : XT := ⟨boxY tb, true, g⟩
abbrev eC (c : Int) : List ZV := [.val (.int .u8 c)]
abbrev U64v (u : Nat) : ZV := .val (.int .u64 (u : Int))
abbrev badV : Value := .iface 54 (.agg #[])
structure ja5 (l : List Int) : Prop where
  b : ∀ c ∈ l, 0 ≤ c ∧ c < 256
  n : l.length ≤ 1000000000000
theorem ja5.tail {c : Int} {l : List Int} (h : ja5 (c :: l)) : ja5 l := ⟨fun x hx => h.b x (by simp [hx]), by have := h.n; simp at this; omega⟩
theorem ZC.upQ {tb : List (FuncId × Bool)} {g : PX} {F : FuncId → Option jaL} {f : FuncId} {zs : List ZV} {L : Nat → Bool} {H : ZH} {K : ZV → ZH → Prop} (h : ZC (boxY tb) F f zs L H K) : ZC (XQ tb g) F f zs L H K := fun fl w args r e ha =>
 AC.lift (X := XQ tb g) (h fl w args r e ha)
section
variable {tb : List (FuncId × Bool)} {g : PX} {L : Nat → Bool} {H : ZH} {K : ZV → ZH → Prop}
def rdH (H : ZH) (p : Nat) (ex : Bool) (l : List Int) : ZH := H.set p (.box [.fz 1 ex (l.map eC)])
theorem rd_at {p : Nat} {ex : Bool} {l : List Int} (hp : p < H.length) : (rdH H p ex l)[p]? = some (.box [.fz 1 ex (l.map eC)]) := by simp [rdH, hp]
theorem rd_set {p : Nat} {ex : Bool} {l l' : List Int} : (rdH H p ex l).set p (.box [.fz 1 ex (l'.map eC)]) = rdH H p ex l' := by simp [rdH]
theorem jaB {p : Nat} {ex : Bool} {l : List Int} : (rdH H p ex l).length = H.length := by simp [rdH]
theorem rd_app {p : Nat} {ex : Bool} {l : List Int} {X : ZH} (hp : p < H.length) : rdH (H ++ X) p ex l = rdH H p ex l ++ X := by simp [rdH, List.set_append_left _ _ hp]
theorem rd_ne {p i : Nat} {ex : Bool} {l : List Int} (hi : i ≠ p) : (rdH H p ex l)[i]? = H[i]? := by
 unfold rdH; rw [List.getElem?_set, if_neg (Ne.symm hi)]
theorem ja5.of {l r : List Int} (h : ja5 l) (hs : r <:+ l) : ja5 r := ⟨fun c hc => h.b c (hs.subset hc), by have := hs.length_le; have := h.n; omega⟩
def RdC {α : Type} (tb : List (FuncId × Bool)) (g : PX) (L : Nat → Bool) (f : FuncId) (vs : List ZV) (H : ZH) (p : Nat) (ex : Bool) (one : Rdr α) (e : α → ZV) : Prop :=
  ∀ (l : List Int) (X : ZH) (K : ZV → ZH → Prop), ja5 l → (one l = none → g.g badV) → (∀ x r, one l = some (x, r) → ja5 r → K (e x) (rdH H p ex r ++ X)) → ZC (XQ tb g) (jap Try.prog) f vs L (rdH H p ex l ++ X) K
theorem rd_in {p : Nat} {ex : Bool} {l : List Int} {X : ZH} (hp : p < H.length) : (rdH H p ex l ++ X)[p]? = some (.box [.fz 1 ex (l.map eC)]) := by
 rw [List.getElem?_append_left (by rw [jaB]; exact hp)]; exact rd_at hp
theorem rd_put {p : Nat} {ex : Bool} {l l' : List Int} {X : ZH} (hp : p < H.length) : (rdH H p ex l ++ X).set p (.box [.fz 1 ex (l'.map eC)]) = rdH H p ex l' ++ X := by
 rw [List.set_append_left _ _ (by rw [jaB]; exact hp), rd_set]
theorem jcC {p : Nat} {ex : Bool} {l l' : List Int} {X Y : ZH} : Mods (rdH H p ex l ++ X) (rdH H p ex l' ++ (X ++ Y)) := by
 rw [← List.append_assoc]
 intro i B hi hB
 rw [List.getElem?_append_left (by simpa [jaB] using hi)] at hB
 by_cases h : i < H.length
 ·rw [List.getElem?_append_left (by rw [jaB]; exact h)] at hB ⊢
  unfold rdH at hB ⊢
  rw [List.getElem?_set] at hB ⊢
  split at hB
  ·split at hB
   ·injection hB with hB; subst hB
    right; rfl
   ·cases hB
  ·rename_i h2; rw [if_neg h2]; exact .inl hB
 ·rw [List.getElem?_append_right (by rw [jaB]; omega), jaB] at hB ⊢
  exact .inl hB
theorem jcB {p : Nat} {ex : Bool} {l l' : List Int} {X Y : ZH} : (rdH H p ex l' ++ (X ++ Y)).take (rdH H p ex l ++ X).length = rdH H p ex l' ++ X := by
 rw [← List.append_assoc]
 exact List.take_left' (by simp [jaB])
def NumI (H : ZH) (p : Nat) (ex : Bool) (X : ZH) (l : List Int) (n : Nat) (s' : ZS) (h' : ZH) : Prop := ∃ acc k r, n = r.length ∧ s' 3 = U64v acc ∧ s' 4 = Z64 ((7 * k : Nat) : Int) ∧ h' = rdH H p ex r ++ X ∧ numL 0 0 l = numL acc k r ∧ acc < 2 ^ (7 * k) ∧ ja5 r ∧ 7 * k ≤ 70
theorem jc5 {g : PX} (h : g.g badV) : ∃ t, Value.iface 54 (.agg #[]) = Value.iface t (.agg #[]) ∧ g.g (Value.iface t (.agg #[])) := ⟨_, rfl, h⟩
theorem jfD {S : ZS} {d : Nat} : numZ S d none = some d := rfl
theorem jfC {S : ZS} {d : Nat} {x : Opd} : numZ S d (some x) = (zev S x).bind natZ := by
 simp only [numZ]; cases zev S x <;> rfl
theorem lss_u8 {a b : Int} : binV .lss (.int .u8 a) (.int .u8 b) = some (.bool (decide (a < b))) := by simp [binV]
set_option maxHeartbeats 4000000 in
theorem jcf {p : Nat} {ex : Bool} (hpl : p < H.length) (hL : L p = true) : RdC tb g L 16 [.ptr p 0] H p ex numP (fun n => Z64 n) := by
 intro l X K hb hbad hK
 refine ZC.enter Gh.no (jan (by decide)) f_od_num (by simp) ?_
 simp only [jjY]
 have F0 := Lib.hid hK
 have HB := Lib.hid hbad
 have H0 := Lib.hid (show NumI H p ex X l l.length (zupd (zupd (zupd (fun t => [ZV.ptr p 0].getD t .no) 2 (Z64 0)) 3 (U64v 0)) 4 (Z64 0)) (rdH H p ex l ++ X) from ⟨0, 0, l, rfl, rfl, rfl, rfl, rfl, by simp, hb, by omega⟩)
 clear hK hbad hb
 repeat' (first | (simp only [zP, jaf, jaa, jad, jae, seval, Nat.reduceLeDiff, *]) | (simp only [jab]) | (with_reducible apply And.intro) | (with_reducible intro _))
 refine jfg [(0, .ptr p 0)] l.length (NumI H p ex X l) (by repeat' (first | exact trivial | (refine ⟨rfl, ?_⟩) | (refine ⟨by simp only [jaE, Nat.reduceEqDiff, reduceIte]; assumption, ?_⟩))) rfl H0.out ?_
 rintro n s' h' ⟨acc, k, r, rfl, s3, s4, rfl, hnl, hacc, hbr, hk7⟩ ⟨f0, -⟩
 have a0 := fun l' => rd_in (H := H) (ex := ex) (l := l') (X := X) hpl
 have st := fun l1 l2 => rd_put (H := H) (p := p) (ex := ex) (l := l1) (l' := l2) (X := X) hpl
 cases r with
 | nil =>
  have hg := jc5 (HB.out (by unfold numP; rw [hnl]; rfl))
  have z0 : ((0 : Nat) : Int) = 0 := rfl
  clear H0 HB F0 hnl hbr hacc
  repeat' (first | (simp only [zP, jaf, jaa, jad, jae, seval, Nat.reduceLeDiff, f0, s3, s4, a0, jb8, jb7, List.length_nil, z0, *]) | (simp only [jab]) | (with_reducible apply And.intro) | (with_reducible intro _))
 | cons c r =>
  by_cases hk : 63 < 7 * k
  ·have hg := jc5 (HB.out (by unfold numP; rw [hnl]; simp only [numL]; rw [if_pos hk]))
   have hk' : (63 : Int) < ((7 * k : Nat) : Int) := by omega
   have hlen : ¬ (((c :: r).length : Nat) : Int) = 0 := by simp only [List.length_cons]; omega
   have hlm : ((c :: r).map eC).length = (c :: r).length := List.length_map ..
   have a1 := a0 (c :: r)
   obtain ⟨cr, hcr⟩ : ∃ cr, cr = c :: r := ⟨_, rfl⟩
   rw [← hcr] at hlen hlm a1 ⊢
   clear H0 HB F0 hnl hbr hacc hcr
   repeat' (first | (simp only [zP, jaf, jaa, jad, jae, seval, Nat.reduceLeDiff, f0, s3, s4, a1, jb8, jb7, hk', hlen, hlm, *]) | (simp only [jab]) | (with_reducible apply And.intro) | (with_reducible intro _))
  ·have hc := hbr.b c (by simp)
   have hbt := hbr.tail
   have e1 := and_u8 hc
   have e2 : IntKind.u64.wrap ((c.toNat % 128 : Nat) : Int) = ((c.toNat % 128 : Nat) : Int) := wu (by omega)
   have e3 := shl_k (c := c.toNat % 128) (k := k) (by omega)
   obtain ⟨q, q1, q2⟩ := jmp (c.toNat % 128) k (by omega)
   have e4 := or_k (acc := acc) (x := c.toNat % 128 * 2 ^ (7 * k) % 18446744073709551616) (k := k) (by omega) hacc ⟨q, q1⟩ (by omega)
   obtain ⟨A, hA⟩ : ∃ A, A = acc + c.toNat % 128 * 2 ^ (7 * k) % 18446744073709551616 := ⟨_, rfl⟩
   have hA64 : A < 18446744073709551616 := by rw [hA, q1]; omega
   have hA2 : A < 2 ^ (7 * (k + 1)) := by
    have hp : 2 ^ (7 * (k + 1)) = 128 * 2 ^ (7 * k) := by
     rw [show 7 * (k + 1) = 7 + 7 * k by omega, Nat.pow_add]
    have hq : c.toNat % 128 * 2 ^ (7 * k) % 18446744073709551616 ≤ c.toNat % 128 * 2 ^ (7 * k) := Nat.mod_le _ _
    have h3 : c.toNat % 128 * 2 ^ (7 * k) ≤ 127 * 2 ^ (7 * k) := Nat.mul_le_mul_right _ (by omega)
    omega
   have hstep : numL acc k (c :: r) = if c < 128 then some (A, r) else numL A (k + 1) r := by
    simp only [numL]; rw [if_neg hk, hA]
   rw [← hA] at e4
   have hk' : ¬ (63 : Int) < ((7 * k : Nat) : Int) := by omega
   have hlen : ¬ (((c :: r).length : Nat) : Int) = 0 := by simp only [List.length_cons]; omega
   have hlen2 : 0 < (c :: r).length := by simp
   have hcut : ∀ Hh : ZH, cutZ Hh 1 1 (c :: r).length (c :: r).length false (.fz 1 ex ((c :: r).map eC)) = some (.fz 1 ex (r.map eC)) := fun Hh => by
    simp only [cutZ]
    rw [if_pos ⟨trivial, by simp, Nat.le_refl _, by simp⟩, if_neg (by simp)]
    simp only [Bool.or_false, BEq.rfl, Bool.and_true, List.map_cons, List.drop_succ_cons, List.drop_zero]
    rw [List.take_of_length_le (by simp)]
   have hrow : (c :: r)[0]? = some c := rfl
   have n0 : natZ (.val (.int .i64 0)) = some 0 := rfl
   have n1 : natZ (.val (.int .i64 1)) = some 1 := rfl
   have hmap : ((c :: r).map eC).length = (c :: r).length := by simp
   obtain ⟨cr, hcr⟩ : ∃ cr, cr = c :: r := ⟨_, rfl⟩
   have a1 := a0 (c :: r)
   have st1 := fun l2 => st (c :: r) l2
   rw [← hcr] at hlen hlen2 hcut hrow hmap a1 st1 ⊢
   have e5 := shr1 hA64
   have e6 := and1 hA64
   obtain ⟨xx, e7, e8⟩ := unz hA64
   have e9 : IntKind.i64.wrap ((A / 2 : Nat) : Int) = ((A / 2 : Nat) : Int) := wi ⟨by omega, by omega⟩
   have e10 : IntKind.i64.wrap ((A % 2 : Nat) : Int) = ((A % 2 : Nat) : Int) := wi ⟨by omega, by omega⟩
   have e11 : IntKind.i64.wrap (((7 * k : Nat) : Int) + 7) = ((7 * (k + 1) : Nat) : Int) := by rw [wi ⟨by omega, by omega⟩]; omega
   by_cases hlt : c < 128
   ·have hk := F0.out (jfi A) r (by unfold numP; rw [hnl, hstep, if_pos hlt]) hbt
    have fin : Fin (rdH H p ex l ++ X) (Z64 (jfi A)) (rdH H p ex r ++ X) K := Fin.keep hk
    clear hA q1 q2 hacc hbr H0 HB F0 hnl hcr hstep hA2 hc
    repeat' (first | (simp only [zP, jaf, jaa, jad, jae, seval, Nat.reduceLeDiff, f0, s3, s4, a1, a0, st, st1, hk', hlen, hmap, hcut, hrow, n0, n1, Option.map_some, hlen2, e1, e2, e3, e4, e5, e6, e7, e8, e9, e10, lss_u8, hlt, jfD, jfC, jg9, Option.bind_some, Option.isSome_none, *]) | (simp only [jab]) | (with_reducible apply And.intro) | (with_reducible intro _))
   ·have hrec := Lib.hid (show ∃ m, m < cr.length ∧ NumI H p ex X l m (zupd (zupd (zupd s' 3 (U64v A)) 7 (Z64 ((7 * (k + 1) : Nat) : Int))) 4 (Z64 ((7 * (k + 1) : Nat) : Int))) (rdH H p ex r ++ X) from ⟨r.length, by rw [hcr]; simp, A, k + 1, r, rfl, by simp [zupd], by simp [zupd], rfl, by rw [hnl, hstep, if_neg hlt], hA2, hbt, by omega⟩)
    clear hA q1 q2 hacc hbr H0 HB F0 hnl hcr hstep hA2 hc
    repeat' (first | (simp only [zP, jaf, jaa, jad, jae, seval, Nat.reduceLeDiff, f0, s3, s4, a1, a0, st, st1, hk', hlen, hmap, hcut, hrow, n0, n1, Option.map_some, hlen2, e1, e2, e3, e4, e11, lss_u8, hlt, jfD, jfC, jg9, Option.bind_some, Option.isSome_none, *]) | (simp only [jab]) | (with_reducible apply And.intro) | (with_reducible intro _))
    exact hrec.out
end
end Go.Proofs.Ytmholkmghhkbhaa
