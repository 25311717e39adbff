/-
  Decode's deferred closure, by the kit's walk.
-/
import Derived.Defers
import Derived.KernelRfl
import Derived.Laws.Pointers
import Derived.Recover
import Derived.Test.YtmholkmghhkbhaaMrB11
import Derived.Test.YtmholkmghhkbhaaMrB12
import Derived.Test.YtmholkmghhkbhaaMrB13
set_option linter.unusedVariables false
set_option linter.unusedSimpArgs false
namespace Go.Proofs.Ytmholkmghhkbhaa
open Go Go.RowKit
theorem jlc (p q : Addr) (w : World) :
  CallsD Try.prog 15 #[.pointer (some p), .pointer (some q)] .returning w fun e u' w' => e = .returned (.tuple #[]) ∧ u' = .returning ∧ w' = w := by
 refine callsD_of_wpS Try.func15 rfl fun c₀ cs hu => ?_
 apply wpS_seq
 apply wpS_region
 simp [wpOpsS, go_sem, recoverD, hu, Try.ntmps15, Exit.thenS]
 apply wpS_seq
 apply wpS_region
 simp [wpOpsS, go_sem, Exit.thenS]
 refine wpS_cond (t := false) (by simp [Act.eval, Array.replicate]) ?_
 simp only [Bool.false_eq_true, if_false]
 refine wpS_of_wp (wp_skip ?_)
 cases c₀
 simp_all [bodyPostS, results, Try.results15]
theorem jkH (w : World) : (Instr.typeAssert badV 20 54 true).run Try.prog w = .ok (.tuple #[.agg #[], .bool true]) w := by
 have hu : Try.prog.underlying 54 = some (.struct #[]) := by kernel_rfl
 simp [Instr.typeAssert, jai hu]
abbrev zc14 : List AV := [.val (.int .i64 0), .val (.int .i64 0), .val (.int .i64 0), .val (.int .i64 0), .val (.slice none 0 0), .val (.slice none 0 0), .val (.int .i64 0), .val (.int .i64 0), .val (.slice none 0 0), .val (.slice none 0 0), .val (.int .i64 0), .val (.int .i64 0), .val (.slice none 0 0), .val (.slice none 0 0)]
abbrev o5a : Oper := { dst := some 16, op := Op.build 29 #[], type := 29, pos := "order.go:364", after := #[], guard := none }
abbrev o5b : Oper := { dst := none, op := Op.store 29 (Operand.tmp 0) (Operand.tmp 16), type := 0, pos := "order.go:364", after := #[{ on := 0, ground := Ground.data }, { on := 0, ground := Ground.phase }], guard := none }
abbrev o5c : Oper := { dst := none, op := Op.store 32 (Operand.tmp 1) (Operand.const (Value.int IntKind.i64 3)), type := 0, pos := "order.go:364", after := #[{ on := 1, ground := Ground.chain }, { on := 0, ground := Ground.phase }, { on := 1, ground := Ground.phase }], guard := none }
theorem o5a_c : cOp Try.prog o5a = some (.build zc14 []) := by kernel_rfl
theorem o5b_c : cOp Try.prog o5b = some (.store 14 (.tmp 0) (.tmp 16)) := by kernel_rfl
theorem o5c_c : cOp Try.prog o5c = some (.store 1 (.tmp 1) (.av (.val (.int .i64 3)))) := by kernel_rfl
def sF (ic ie : Nat) : jah := fun t => if t = 0 then .ptr ic 0 else if t = 1 then .ptr ie 0 else .agg zc14
theorem sF_0 {ic ie : Nat} : sF ic ie 0 = .ptr ic 0 := rfl
theorem sF_1 {ic ie : Nat} : sF ic ie 1 = .ptr ie 0 := rfl
theorem sF_16 {ic ie : Nat} : sF ic ie 16 = .agg zc14 := rfl
set_option maxRecDepth 20000 in
theorem final_wp {n0 B0 : Nat} {m : Map} {h : Heap} {w : World} {fl : Nat → Bool} (r : Rels n0 B0 m h w) (hfl : ∀ id, fl id = true → n0 ≤ id) {ic ie : Nat} {bc be : Base} (hc : CB m ic bc) (he : CB m ie be) (hfc : fl ic = true) (hfe : fl ie = true) {lc le : List AV} (hlc : blk h ic = some lc) (hle : blk h ie = some le) (h14 : lc.length = 14) (h1 : le.length = 1) (hne : ie ≠ ic)
  {a : Act} (hs : a.tmps.size = 17) (ha0 : a.tmps.getD 0 undef = .pointer (some ⟨bc.b, bc.off, none⟩)) (ha1 : a.tmps.getD 1 undef = .pointer (some ⟨be.b, be.off, none⟩)) {Q : Exit → Act → World → Prop} (hQ : ∀ a' w' m', a'.defers = a.defers → Post n0 B0 fl m h w m' ((h.set ic (some zc14)).set ie (some [.val (.int .i64 3)])) w' → Q .normal a' w') :
  (Code.region 5 #[o5a, o5b, o5c] false).wp Try.prog Q a w := by
 have hs0 : wr fl h ic 0 zc14 = some (h.set ic (some zc14)) := by
  unfold wr
  rw [hlc]
  simp only
  rw [if_pos ⟨hfc, by rw [h14]; exact Nat.le_refl _⟩, List.take_zero, List.nil_append, List.drop_eq_nil_of_le (by rw [h14]; exact Nat.le_refl _), List.append_nil]
 have hlt := jaI hlc
 have hlt2 := jaI hle
 have hle2 : blk (h.set ic (some zc14)) ie = some le := by
  rw [← hle]; exact jbc (by rw [List.getElem?_set, if_neg (Ne.symm hne)])
 have hs1 : wr fl (h.set ic (some zc14)) ie 0 [.val (.int .i64 3)] = some ((h.set ic (some zc14)).set ie (some [.val (.int .i64 3)])) := by
  unfold wr
  rw [hle2]
  simp only
  rw [if_pos ⟨hfe, by rw [h1]; exact Nat.le_refl _⟩, List.take_zero, List.nil_append, List.drop_eq_nil_of_le (by rw [h1]; exact Nat.le_refl _), List.append_nil]
 have hz14 : (AV.agg zc14).cells.length = 14 ∧ (AV.agg zc14).cells.all AV.isCell = true := ⟨rfl, rfl⟩
 refine wp_region ?_
 show wpOps _ _ _ [0, 1, 2] _ _
 rw [wpOps_cons]
 unfold wpOp
 show (if Region.wanted o5a _ = true then _ else _)
 rw [show ∀ y, Region.wanted o5a y = true from fun _ => rfl, if_pos rfl]
 left
 refine jfp (P := Try.prog) (s := sF ic ie) (top := none) o5a_c (show _ = some (AV.agg zc14, h) from rfl) r hfl (fun y hy z hz => by simp [Op.operands] at hy) (fun v1 w1 m1 p1 hv1 => ?_)
 have e1 := p1.ext r.dom
 have g0 : (a.put o5a.dst v1).tmps.getD 0 undef = .pointer (some ⟨bc.b, bc.off, none⟩) := by
  rw [jbl a _ _ _ (fun x hx => by cases hx; rw [hs]; decide), if_neg (by simp)]; exact ha0
 have g1 : (a.put o5a.dst v1).tmps.getD 1 undef = .pointer (some ⟨be.b, be.off, none⟩) := by
  rw [jbl a _ _ _ (fun x hx => by cases hx; rw [hs]; decide), if_neg (by simp)]; exact ha1
 have g16 : (a.put o5a.dst v1).tmps.getD 16 undef = v1 := by
  rw [jbl a _ _ _ (fun x hx => by cases hx; rw [hs]; decide), if_pos rfl]
 have gd : (a.put o5a.dst v1).defers = a.defers := rfl
 generalize a.put o5a.dst v1 = a1 at g0 g1 g16 gd
 rw [wpOps_cons]
 unfold wpOp
 show (if Region.wanted o5b _ = true then _ else _)
 rw [show ∀ y, Region.wanted o5b y = true from fun _ => rfl, if_pos rfl]
 left
 refine jfp (P := Try.prog) (s := sF ic ie) (top := none) (v := .no) (h' := h.set ic (some zc14)) o5b_c ?_ p1.rels hfl (fun y hy z hz => ?_) (fun v2 w2 m2 p2 hv2 => ?_)
 ·simp only [jag, Opd.ev, sF_0, sF_16]
  refine (if_pos hz14).trans ?_
  show (match wr fl h ic 0 zc14 with | some h' => some (AV.no, h') | none => none) = _
  rw [hs0]
 ·refine jcM hz fun t ht => ?_
  subst ht
  simp [Op.operands] at hy
  rcases hy with rfl | rfl
  ·rw [sF_0, g0]
   exact VR.ptr (b := bc) (off := 0) ⟨e1 _ _ hc.1, hc.2⟩
  ·rw [sF_16, g16]; exact hv1
 have e2 := p2.ext p1.rels.dom
 have g1' : (a1.put o5b.dst v2).tmps.getD 1 undef = .pointer (some ⟨be.b, be.off, none⟩) := g1
 have gd' : (a1.put o5b.dst v2).defers = a.defers := gd
 generalize a1.put o5b.dst v2 = a2 at g1' gd'
 rw [wpOps_cons]
 unfold wpOp
 show (if Region.wanted o5c _ = true then _ else _)
 rw [show ∀ y, Region.wanted o5c y = true from fun _ => rfl, if_pos rfl]
 left
 refine jfp (P := Try.prog) (s := sF ic ie) (top := none) (v := .no) (h' := (h.set ic (some zc14)).set ie (some [.val (.int .i64 3)])) o5c_c ?_ p2.rels hfl (fun y hy z hz => ?_) (fun v3 w3 m3 p3 hv3 => ?_)
 ·simp only [jag, Opd.ev, sF_1]
  refine (if_pos ⟨rfl, rfl⟩).trans ?_
  show (match wr fl (h.set ic (some zc14)) ie 0 [.val (.int .i64 3)] with | some h' => some (AV.no, h') | none => none) = _
  rw [hs1]
 ·refine jcM hz fun t ht => ?_
  subst ht
  simp [Op.operands] at hy
  subst hy
  rw [sF_1, g1']
  exact VR.ptr (b := be) (off := 0) ⟨e2 _ _ (e1 _ _ he.1), he.2⟩
 show Q .normal _ _
 exact hQ _ w3 m3 gd' ((p1.trans r.dom p2).trans r.dom p3)
set_option maxHeartbeats 4000000 in
theorem jnm {n0 B0 : Nat} {m : Map} {h : Heap} {w : World} {fl : Nat → Bool} (r : Rels n0 B0 m h w) (hfl : ∀ id, fl id = true → n0 ≤ id) {ic ie : Nat} {bc be : Base} (hc : CB m ic bc) (he : CB m ie be) (hfc : fl ic = true) (hfe : fl ie = true) {lc le : List AV} (hlc : blk h ic = some lc) (hle : blk h ie = some le) (h14 : lc.length = 14) (h1 : le.length = 1) (hne : ie ≠ ic) :
  CallsD Try.prog 15 #[.pointer (some ⟨bc.b, bc.off, none⟩), .pointer (some ⟨be.b, be.off, none⟩)] (.panicking ({ v := badV, recovered := false } :: [])) w fun e u' w' => e = .returned (.tuple #[]) ∧ u' = .panicking ({ v := badV, recovered := true } :: []) ∧ ∃ m' h', blk h' ic = some zc14 ∧ blk h' ie = some [.val (.int .i64 3)] ∧ Post n0 B0 fl m h w m' h' w' := by
 refine callsD_of_wpS Try.func15 rfl fun c₀ cs hu => ?_
 apply wpS_seq
 apply wpS_region
 simp [wpOpsS, go_sem, recoverD, hu, Try.ntmps15, Exit.thenS]
 apply wpS_seq
 apply wpS_region
 simp [wpOpsS, go_sem, Exit.thenS]
 refine wpS_cond (t := true) (by simp [Act.eval, Array.replicate]) ?_
 simp only [if_true]
 apply wpS_seq
 apply wpS_seq
 apply wpS_region
 simp [wpOpsS, go_sem, Exit.thenS, jkH]
 apply wpS_seq
 apply wpS_region
 simp [wpOpsS, go_sem, Exit.thenS]
 refine wpS_cond (t := false) (by simp [Act.eval, Array.replicate]) ?_
 simp only [Bool.false_eq_true, if_false]
 refine wpS_of_wp (wp_skip ?_)
 simp only [Exit.thenS]
 refine wpS_of_wp ?_
 refine wp_mono (final_wp (jiH (fl := fl) r (Obj.cells #[] 54)).rels hfl hc he hfc hfe hlc hle h14 h1 hne (by simp) (by simp) (by simp) (Q := fun e a' w' => e = .normal ∧ a'.defers = [] ∧ ∃ m', Post n0 B0 fl m h w m' ((h.set ic (some zc14)).set ie (some [.val (.int .i64 3)])) w') fun a' w' m' hd p => ⟨rfl, hd, m', (jiH r _).trans r.dom p⟩) ?_
 rintro e a' w' ⟨rfl, hd, m', p⟩
 have hlt := jaI hlc
 have hlt2 := jaI hle
 refine ⟨hd, _, rfl, .tuple #[], by simp [results, Try.results15], rfl, rfl, m', _, ?_, ?_, p⟩
 ·rw [jbs, List.getElem?_set, if_neg hne]; simp [hlt]
 ·rw [jbs]; simp [hlt2]
end Go.Proofs.Ytmholkmghhkbhaa

namespace Go.Proofs.Ytmholkmghhkbhaa
open Go Go.RowKit
section
variable {P : Program}
theorem jd7 {Gp : Value → Prop} {C : jcq} (hC : jbS P Gp C) {n0 B0 nt base : Nat} {fl : Nat → Bool} (hfl : ∀ id, fl id = true → n0 ≤ id) {ops : Array Oper} {defs : List Deferred} {T : Act → Prop} {Q : Exit → Act → World → Prop} {rest : List Nat} {m0 : Map} {h0 : Heap} {w0 : World} (hd0 : ∀ id b, m0 id = some b → id < h0.length)
  (hG : ∀ pv h' m' a' w', Gp pv → Post n0 B0 fl m0 h0 w0 m' h' w' → a'.defers = defs → T a' → Q (.panic [{ v := pv, recovered := false }]) a' w') :
  ∀ (l : List jao) (d : Seen) (i : Nat) (s : jah) (h : Heap) (KK : jah → Heap → Prop), (∀ o ∈ l, ∀ a v, T a → T (a.put o.dst v)) → je0 P nt ops i l → jaz C base fl d l s h KK → ∀ m a w, Post n0 B0 fl m0 h0 w0 m h w → SR nt m s a → a.defers = defs → T a →
   (∀ s' h' a' w' m', KK s' h' → Post n0 B0 fl m0 h0 w0 m' h' w' → SR nt m' s' a' → a'.defers = defs → T a' → wpOps P ops Q rest a' w') → wpOps P ops Q (List.range' i l.length ++ rest) a w
 | [], d, i, s, h, KK, hT, hc, hr, m, a, w, hp, hs, hda, hta, hK => by
  simpa using hK s h a w m hr hp hs hda hta
 | o :: l, d, i, s, h, KK, hT, hc, hr, m, a, w, hp, hs, hda, hta, hK => by
  obtain ⟨O, hO, hop, hdst, hg, hd⟩ := hc.at_ 0 o rfl
  rw [Nat.add_zero] at hO
  rw [List.length_cons, List.range'_succ, List.cons_append, wpOps_cons]
  unfold wpOp
  rw [hO]
  simp only
  have hmono : ∀ {fl' : Nat → Bool} {m' : Map} {h' : Heap} {w' : World}, Post n0 B0 fl' m h w m' h' w' → ∀ id b, m id = some b → m' id = some b := fun p => p.ext hp.rels.dom
  have hT1 : ∀ v, T (a.put O.dst v) := fun v => by rw [← hdst]; exact hT o (List.mem_cons_self ..) a v hta
  have hT2 : ∀ o ∈ l, ∀ a v, T a → T (a.put o.dst v) := fun o ho => hT o (List.mem_cons_of_mem _ ho)
  simp only [jaz] at hr
  split at hr
  ·rename_i hw
   rw [ja4 hg (fun t b hgt => hs.slot t) hw]
   simp only [if_true]
   refine .inl (jg1 hC hop hr hp.rels hfl (fun y hy z hz => hs.opd hz) (fun v h' v' w' m' hkk pp hv => ?_) fun pv h' m' w' hg pp => hG pv h' m' a w' hg (hp.trans hd0 (pp.mono fun i h => jbN i h)) hda hta)
   refine jd7 hC hfl hd0 hG l _ (i + 1) _ h' KK hT2 hc.tail hkk m' _ w' (hp.trans hd0 (pp.mono fun i h => jbN i h)) ?_ ?_ (hT1 _) hK
   ·rw [← hdst]
    exact hs.put (hmono pp) (by rw [hdst]; exact hd) hv
   ·cases hdd : O.dst <;> exact hda
  ·rename_i hw
   rw [ja4 hg (fun t b hgt => hs.slot t) hw]
   simp only [Bool.false_eq_true, if_false]
   refine jd7 hC hfl hd0 hG l _ (i + 1) _ h KK hT2 hc.tail hr m _ w hp ?_ ?_ (hT1 _) hK
   ·rw [← hdst]
    exact hs.put (fun _ _ h => h) (by rw [hdst]; exact hd) VRs.no
   ·cases hdd : O.dst <;> exact hda
  ·exact hr.elim
structure T23 (nt : Nat) (v2 v3 : Value) (a : Act) : Prop where
  size : a.tmps.size = nt
  s2 : a.tmps.getD 2 undef = v2
  s3 : a.tmps.getD 3 undef = v3
theorem T23.put {nt : Nat} {v2 v3 : Value} {a : Act} (h : T23 nt v2 v3 a) {d : Option Nat} (hd : d ≠ some 2 ∧ d ≠ some 3) (v : Value) : T23 nt v2 v3 (a.put d v) := by
 have key : ∀ t, d ≠ some t → (a.put d v).tmps.getD t undef = a.tmps.getD t undef := fun t ht => by
  cases d with
  | none => rfl
  | some x =>
   have hx : x ≠ t := fun e => ht (by rw [e])
   show (a.tmps.setIfInBounds x v).getD t undef = _
   simp only [Array.getD_eq_getD_getElem?, Array.getElem?_setIfInBounds]
   rw [if_neg hx]
 exact ⟨(jdA a d v).trans h.size, (key 2 hd.1).trans h.s2, (key 3 hd.2).trans h.s3⟩
abbrev Reg := Nat × Array Oper × List jao × List jao
def regC : List Reg → Code → Code
  | [], T => T
  | q :: r, T => .seq (.region q.1 q.2.1 false) (regC r T)
variable (XP XN : XT) (F : FuncId → Option jaL)
def lessB (L : Nat → Bool) (i j : Nat) : Nat → Bool := fun q => L q && !(q == i || q == j)
def ZD (L : Nat → Bool) (zc ze nc : Nat) : List Reg → jar → ZS → ZH → (jaq → ZS → ZH → Prop) → Prop
  | [], T, S, H, K => zW XN F Gh.no L T S H K
  | q :: r, T, S, H, K => (∃ cs, H[zc]? = some (.box cs) ∧ cs.length = nc) ∧ (∃ z, H[ze]? = some (.box [z])) ∧
    zO XP F Gh.no (lessB L zc ze) H.length [] none q.2.2.1 S H fun S' H' => zO XN F Gh.no L H'.length [] none q.2.2.2 S' H' fun S' H' => ZD L zc ze nc r T S' H' K
end
theorem seen0 {fl L : Nat → Bool} {w : Wd} (r : ZRel fl L w) : jc6 w w.H.length w.h.length [] none ⟨[], none⟩ := ⟨fun id hi => by simp at hi, fun i hi => by simp at hi, trivial, Nat.le_refl _, fun i cs _ _ p hp => (r.nfr i p hp).2⟩
theorem ZRel.lessB {fl L : Nat → Bool} {w : Wd} (r : ZRel fl L w) {i j ic ie : Nat} (hi : w.mu i = some (ic, 0)) (hj : w.mu j = some (ie, 0)) : ZRel (lessB fl ic ie) (Go.Proofs.Ytmholkmghhkbhaa.lessB L i j) w := by
 refine ⟨fun id h => ?_, fun q h => ?_, r.frlt, r.dom, r.inj, r.nfr, fun q p hp hl => ?_, r.box, r.grow⟩
 ·have h2 : ic < w.h.length := (r.nfr i _ hi).2
  have h3 : ie < w.h.length := (r.nfr j _ hj).2
  have h4 : id ≠ ic := by omega
  have h5 : id ≠ ie := by omega
  simp [Go.Proofs.Ytmholkmghhkbhaa.lessB, r.fresh id h, h4, h5]
 ·have h2 := r.dom i _ hi
  have h3 := r.dom j _ hj
  have h4 : q ≠ i := by omega
  have h5 : q ≠ j := by omega
  simp [Go.Proofs.Ytmholkmghhkbhaa.lessB, r.lfresh q h, h4, h5]
 ·simp only [Go.Proofs.Ytmholkmghhkbhaa.lessB, Bool.and_eq_true, Bool.not_eq_true', Bool.or_eq_false_iff, beq_eq_false_iff_ne, ne_eq] at hl ⊢
  exact ⟨r.wr q p hp hl.1, fun he => hl.2.1 (r.inj q i p _ hp hi he), fun he => hl.2.2 (r.inj q j p _ hp hj he)⟩
theorem jhb {L : Nat → Bool} {i j : Nat} (q : Nat) (h : lessB L i j q = true) : L q = true := by
 unfold lessB at h; simp at h; exact h.1
section
variable {P : Program}
set_option maxHeartbeats 1000000 in
theorem jjj (hmix : P.follows .mixedOrders = true) {pn : PX} (hY : YOk P pn) {X : jaJ} (hX : jbd P X) {F : FuncId → Option jaL} (hF : ∀ f af, F f = some af → jap P f = some af)
  {n0 B0 nt : Nat} {fl L : Nat → Bool} (hfl : ∀ id, fl id = true → n0 ≤ id) {zc ze nc ic ie : Nat} {v2 v3 : Value} {T : Code} {tc : jar} (hT : jbG P nt T = some tc) {KK : jaq → ZS → ZH → Prop} {D : List Deferred} {Q : Exit → Act → World → Prop} {m0 : Map} {h0 : Heap} {W0 : World} {wd0 : Wd} (hd0 : ∀ id b, m0 id = some b → id < h0.length)
  (hQ : ∀ x S' w' s' m' a' W', KK x S' w'.H → ZRel fl L w' → Ext wd0 w' → (∀ t, ZR w' (S' t) (s' t)) → Post n0 B0 fl m0 h0 W0 m' w'.h W' → SR nt m' s' a' → a'.defers = D → Q (jaY x) a' W')
  (hG : ∀ pv h' m' a' W', pn.g pv → (∃ lc, blk h' ic = some lc ∧ lc.length = nc) → (∃ le, blk h' ie = some le ∧ le.length = 1) → Post n0 B0 fl m0 h0 W0 m' h' W' → a'.defers = D → T23 nt v2 v3 a' → Q (.panic [{ v := pv, recovered := false }]) a' W') :
  ∀ (rs : List Reg), (∀ q ∈ rs, jbi P nt q.2.1 false = some (q.2.2.1 ++ q.2.2.2) ∧ ∀ o ∈ q.2.2.1 ++ q.2.2.2, o.dst ≠ some 2 ∧ o.dst ≠ some 3) → ∀ (S : ZS) (w : Wd) (s : jah) (m : Map) (a : Act) (W : World), ZD ⟨X, true, pn⟩ ⟨X, true, PX.no⟩ F L zc ze nc rs tc S w.H KK → ZRel fl L w → Ext wd0 w → w.mu zc = some (ic, 0) → w.mu ze = some (ie, 0) → (∀ t, ZR w (S t) (s t)) → Post n0 B0 fl m0 h0 W0 m w.h W → SR nt m s a → a.defers = D → T23 nt v2 v3 a → (regC rs T).wp P Q a W
 | [], hrs, S, w, s, m, a, W, hZ, r, e0, hc, he, hS, p0, hs, hda, ht => by
  have hw := je4 hZ fl w s r rfl hS
  refine ja0 hmix (fun k => jfP hmix hX hF k) (jd9 YOk.no hmix hX hF) T tc hT fl hfl s w.h _ hw m W a p0.rels hs Q (fun x s' h' m' a' W' hk p q d => ?_) (fun pv h' m' a' w' g p d => g.elim)
  obtain ⟨S', w', rfl, r', e, hS', hk⟩ := hk
  exact hQ x S' w' s' m' a' W' hk.2 r' (e0.trans e) hS' (p0.trans hd0 p) q (d.trans hda)
 | q :: rs, hrs, S, w, s, m, a, W, hZ, r, e0, hc, he, hS, p0, hs, hda, ht => by
  obtain ⟨⟨cs, hcs, hcl⟩, ⟨z, hz⟩, hO⟩ := hZ
  obtain ⟨hcomp, hdst⟩ := hrs q (List.mem_cons_self ..)
  obtain ⟨hlen, hcu⟩ := jb6 hcomp
  have r1 := r.lessB hc he
  have hfl1 : ∀ id, lessB fl ic ie id = true → n0 ≤ id := fun id h => hfl id (jhb id h)
  have ha := jcd q.2.2.1 [] none ⟨[], none⟩ S s w r1 hS (seen0 r1) hO
  obtain ⟨id1, row1, g1, g2, g3⟩ := r.box zc cs hcs
  rw [hc] at g1; injection g1 with g1; injection g1 with g1; subst g1
  obtain ⟨id2, row2, k1, k2, k3⟩ := r.box ze _ hz
  rw [he] at k1; injection k1 with k1; injection k1 with k1; subst k1
  have hk : ∀ {m' : Map} {h' : Heap} {W' : World}, Post n0 B0 (lessB fl ic ie) m w.h W m' h' W' → (∃ lc, blk h' ic = some lc ∧ lc.length = nc) ∧ (∃ le, blk h' ie = some le ∧ le.length = 1) := fun p => by
   refine ⟨⟨row1, ?_, ?_⟩, row2, ?_, ?_⟩
   ·rw [← g2]; exact jbc (p.unt ic (jaI g2) (.inr (by simp [lessB])))
   ·rw [← g3.1]; exact hcl
   ·rw [← k2]; exact jbc (p.unt ie (jaI k2) (.inr (by simp [lessB])))
   ·rw [← k3.1]; rfl
  refine wp_seq (wp_region ?_)
  have hsplit : List.range q.2.1.size = List.range' 0 q.2.2.1.length ++ (List.range' q.2.2.1.length q.2.2.2.length ++ []) := by
   rw [List.range_eq_range', ← hlen, List.length_append, List.append_nil]
   have := @List.range'_append_1 0 q.2.2.1.length q.2.2.2.length
   rw [Nat.zero_add] at this
   exact this.symm
  rw [hsplit]
  have hcA : je0 P nt q.2.1 0 q.2.2.1 := ⟨fun j o hj => hcu.at_ j o (by rw [List.getElem?_append_left (List.getElem?_eq_some_iff.1 hj).1]; exact hj)⟩
  have hcB : je0 P nt q.2.1 q.2.2.1.length q.2.2.2 := ⟨fun j o hj => by
   have := hcu.at_ (q.2.2.1.length + j) o (by rw [List.getElem?_append_right (by omega), Nat.add_sub_cancel_left]; exact hj)
   rw [Nat.zero_add] at this; exact this⟩
  refine jd7 (T := T23 nt v2 v3) (n0 := n0) (B0 := B0) (defs := D) (m0 := m) (h0 := w.h) (w0 := W) (jd9 hY hmix hX hF) hfl1 p0.rels.dom (fun pv h' m' a' w' g p d t => ?_) q.2.2.1 _ 0 s w.h _ (fun o ho a v t => t.put (hdst o (List.mem_append_left _ ho)) v) hcA ha m a W (.refl p0.rels) hs hda ht fun s' h' a' W' m' hk1 p1 q1 d1 t1 => ?_
  ·exact hG pv h' m' a' w' g (hk p).1 (hk p).2 (p0.trans hd0 (p.mono fun i h => jhb i h)) d t
  ·obtain ⟨S', w', rfl, r', e', hS', hO'⟩ := hk1
   have r2 := r.back r' e'
   have hb := jcd q.2.2.2 [] none ⟨[], none⟩ S' s' w' r2 hS' (seen0 r2) hO'
   have p01 := p0.trans hd0 (p1.mono fun i h => jhb i h)
   refine jd7 (T := T23 nt v2 v3) (n0 := n0) (B0 := B0) (defs := D) (m0 := m') (h0 := w'.h) (w0 := W') (jd9 YOk.no hmix hX hF) hfl p1.rels.dom (fun pv h' m' a' w' g p d t => g.elim) q.2.2.2 _ _ s' w'.h _ (fun o ho a v t => t.put (hdst o (List.mem_append_right _ ho)) v) hcB hb m' a' W' (.refl p1.rels) q1 d1 t1 fun s2 h2 a2 W2 m2 hk2 p2 q2 d2 t2 => ?_
   obtain ⟨S2, w2, rfl, r3, e2, hS2, hD⟩ := hk2
   show (regC rs T).wp P Q a2 W2
   have b1 := e'.box zc cs hcs
   have b2 := e'.box ze _ hz
   obtain ⟨⟨c1, hc1⟩, u1⟩ := b1
   obtain ⟨⟨c2, hc2⟩, u2⟩ := b2
   refine jjj hmix hY hX hF hfl hT hd0 hQ hG rs (fun q hq => hrs q (List.mem_cons_of_mem _ hq)) S2 w2 s2 m2 a2 W2 hD r3 (e0.trans (e'.trans e2)) ?_ ?_ hS2 (p01.trans hd0 p2) q2 d2 t2
   ·rw [(e2.box zc c1 hc1).2, u1]; exact hc
   ·rw [(e2.box ze c2 hc2).2, u2]; exact he
end
end Go.Proofs.Ytmholkmghhkbhaa

namespace Go.Proofs.Ytmholkmghhkbhaa
open Go Go.RowKit
def cHd : Code → Code
  | .seq a _ => a
  | c => c
def cTl : Code → Code
  | .seq _ b => b
  | c => c
def rgI : Code → Nat
  | .region i _ _ => i
  | _ => 0
def rgO : Code → Array Oper
  | .region _ o _ => o
  | _ => #[]
noncomputable def dB : Code := (Try.f7.body).getD .skip
noncomputable def dB1 : Code := cTl dB
noncomputable def dB2 : Code := cTl dB1
noncomputable def dB3 : Code := cTl dB2
noncomputable def dB4 : Code := cTl dB3
noncomputable def dB5 : Code := cTl dB4
noncomputable def dB6 : Code := cTl dB5
noncomputable def dB7 : Code := cTl dB6
def dl0 : List jao := [⟨(some 2), .zero [(.val (.int .i64 0)), (.val (.int .i64 0)), (.val (.int .i64 0)), (.val (.int .i64 0)), (.val (.slice none 0 0)), (.val (.slice none 0 0)), (.val (.int .i64 0)), (.val (.int .i64 0)), (.val (.slice none 0 0)), (.val (.slice none 0 0)), (.val (.int .i64 0)), (.val (.int .i64 0)), (.val (.slice none 0 0)), (.val (.slice none 0 0))], none, true⟩,
  ⟨(some 3), .zero [(.val (.int .i64 0))], none, true⟩]
def dla2 : List jao := []
def dlb2 : List jao := [⟨(some 8), .mv (.tmp 0), none, true⟩,
  ⟨(some 9), .build [(.val (.slice none 0 0))] [(0, 1, (.tmp 8))], none, true⟩,
  ⟨(some 10), .box 1 (.tmp 9), none, true⟩,
  ⟨(some 4), .mv (.tmp 10), none, true⟩]
def dla3 : List jao := [⟨(some 11), .mv (.tmp 4), none, true⟩,
  ⟨(some 12), .call (.av (.func 16 [])) [(.tmp 11)], none, true⟩,
  ⟨(some 13), .mv (.tmp 4), none, true⟩,
  ⟨(some 14), .call (.av (.func 16 [])) [(.tmp 13)], none, true⟩,
  ⟨(some 15), .mv (.tmp 4), none, true⟩,
  ⟨(some 16), .call (.av (.func 16 [])) [(.tmp 15)], none, true⟩,
  ⟨(some 17), .mv (.tmp 4), none, true⟩,
  ⟨(some 18), .call (.av (.func 16 [])) [(.tmp 17)], none, true⟩,
  ⟨(some 19), .build [(.val (.int .i64 0)), (.val (.int .i64 0)), (.val (.int .i64 0)), (.val (.int .i64 0)), (.val (.slice none 0 0)), (.val (.slice none 0 0)), (.val (.int .i64 0)), (.val (.int .i64 0)), (.val (.slice none 0 0)), (.val (.slice none 0 0)), (.val (.int .i64 0)), (.val (.int .i64 0)), (.val (.slice none 0 0)), (.val (.slice none 0 0))] [(0, 1, (.tmp 12)), (1, 1, (.tmp 14)), (2, 1, (.tmp 16)), (3, 1, (.tmp 18))], none, true⟩]
def dlb3 : List jao := [⟨none, .store 14 (.tmp 2) (.tmp 19), none, true⟩]
def dla4 : List jao := [⟨(some 20), .mv (.tmp 4), none, true⟩,
  ⟨(some 21), .mv (.tmp 4), none, true⟩,
  ⟨(some 22), .bfunc 18 [(.tmp 21)] [], none, true⟩,
  ⟨(some 23), .call (.av (.func 17 [])) [(.tmp 20), (.av (.val (.int .i64 1500))), (.tmp 22)], none, true⟩]
def dlb4 : List jao := [⟨(some 24), .fieldAddr 4 (.tmp 2), none, true⟩,
  ⟨none, .store 1 (.tmp 24) (.tmp 23), none, true⟩]
def dla5 : List jao := [⟨(some 25), .mv (.tmp 4), none, true⟩,
  ⟨(some 26), .mv (.tmp 4), none, true⟩,
  ⟨(some 27), .bfunc 20 [(.tmp 26)] [], none, true⟩,
  ⟨(some 28), .call (.av (.func 19 [])) [(.tmp 25), (.av (.val (.int .i64 200))), (.tmp 27)], none, true⟩]
def dlb5 : List jao := [⟨(some 29), .fieldAddr 5 (.tmp 2), none, true⟩,
  ⟨none, .store 1 (.tmp 29) (.tmp 28), none, true⟩]
def dla6 : List jao := [⟨(some 30), .mv (.tmp 4), none, true⟩,
  ⟨(some 31), .call (.av (.func 20 [])) [(.tmp 30)], none, true⟩,
  ⟨(some 32), .mv (.tmp 4), none, true⟩,
  ⟨(some 33), .call (.av (.func 20 [])) [(.tmp 32)], none, true⟩]
def dlb6 : List jao := [⟨(some 34), .fieldAddr 6 (.tmp 2), none, true⟩,
  ⟨none, .store 4 (.tmp 34) (.tmp 31), none, true⟩,
  ⟨(some 35), .fieldAddr 10 (.tmp 2), none, true⟩,
  ⟨none, .store 4 (.tmp 35) (.tmp 33), none, true⟩]
def dT : jar := .seq (.seq (.ops [⟨(some 37), .load (some 14) (.tmp 2), none, true⟩,
      ⟨(some 38), .call (.av (.func 6 [])) [(.tmp 37)], none, true⟩,
      ⟨(some 36), .mv (.tmp 38), none, true⟩,
      ⟨(some 39), .extract 0 (.tmp 36), none, true⟩,
      ⟨(some 40), .extract 1 (.tmp 36), none, true⟩,
      ⟨(some 5), .mv (.tmp 39), none, true⟩,
      ⟨(some 6), .mv (.tmp 40), none, true⟩])
  (.seq (.ops [⟨(some 41), .mv (.tmp 6), none, true⟩,
      ⟨(some 42), .bin .neq (.tmp 41) (.av (.val (.int .i64 0))), none, true⟩,
      ⟨(some 43), .mv (.tmp 42), none, true⟩,
      ⟨(some 44), .mv (.tmp 5), (some (43, false)), true⟩,
      ⟨(some 45), .mv (.tmp 0), (some (43, false)), true⟩,
      ⟨(some 46), .call (.av (.func 21 [])) [(.tmp 44), (.tmp 45)], (some (43, false)), true⟩,
      ⟨(some 47), .un .not (.tmp 46), (some (43, false)), true⟩,
      ⟨(some 48), .pick (.tmp 43) (.av (.val (.bool true))) (.tmp 47), none, true⟩])
  (.cond (.tmp 48)
    (.seq (.ops [⟨(some 49), .build [(.val (.int .i64 0)), (.val (.int .i64 0)), (.val (.int .i64 0)), (.val (.int .i64 0)), (.val (.slice none 0 0)), (.val (.slice none 0 0)), (.val (.int .i64 0)), (.val (.int .i64 0)), (.val (.slice none 0 0)), (.val (.slice none 0 0)), (.val (.int .i64 0)), (.val (.int .i64 0)), (.val (.slice none 0 0)), (.val (.slice none 0 0))] [], none, true⟩,
        ⟨none, .store 14 (.tmp 2) (.tmp 49), none, true⟩,
        ⟨none, .store 1 (.tmp 3) (.av (.val (.int .i64 3))), none, true⟩])
    (.ret))
    (.skip))))
  (.seq (.ops [⟨(some 50), .load (some 14) (.tmp 2), none, true⟩,
      ⟨none, .store 14 (.tmp 2) (.tmp 50), none, true⟩,
      ⟨none, .store 1 (.tmp 3) (.av (.val (.int .i64 0))), none, true⟩])
  (.ret))
noncomputable def dRs : List Reg := [(rgI (cHd dB2), rgO (cHd dB2), dla2, dlb2), (rgI (cHd dB3), rgO (cHd dB3), dla3, dlb3), (rgI (cHd dB4), rgO (cHd dB4), dla4, dlb4), (rgI (cHd dB5), rgO (cHd dB5), dla5, dlb5), (rgI (cHd dB6), rgO (cHd dB6), dla6, dlb6)]
abbrev jk7 : Array Oper := #[{ dst := some 7, op := Op.makeFunc (Fn.func 15) #[] #[Operand.tmp 2, Operand.tmp 3], type := 1, pos := "order.go:359", after := #[], guard := none },
  { dst := none, op := Op.defer { callee := Callee.value (Operand.tmp 7), args := #[], argTypes := #[] }, type := 0, pos := "order.go:359", after := #[{ on := 0, ground := Ground.data }], guard := none }]
theorem dB_eq : Try.f7.body = some (.seq (.region (rgI (cHd dB)) (rgO (cHd dB)) false) (.seq (.region (rgI (cHd dB1)) jk7 false) (regC dRs dB7))) := by kernel_rfl
theorem dT_eq : jbG Try.prog 51 dB7 = some dT := by kernel_rfl
theorem d0_eq : jbi Try.prog 51 (rgO (cHd dB)) false = some dl0 := by kernel_rfl
theorem d2_eq : jbi Try.prog 51 (rgO (cHd dB2)) false = some (dla2 ++ dlb2) := by kernel_rfl
theorem d3_eq : jbi Try.prog 51 (rgO (cHd dB3)) false = some (dla3 ++ dlb3) := by kernel_rfl
theorem d4_eq : jbi Try.prog 51 (rgO (cHd dB4)) false = some (dla4 ++ dlb4) := by kernel_rfl
theorem d5_eq : jbi Try.prog 51 (rgO (cHd dB5)) false = some (dla5 ++ dlb5) := by kernel_rfl
theorem d6_eq : jbi Try.prog 51 (rgO (cHd dB6)) false = some (dla6 ++ dlb6) := by kernel_rfl
def no23 (l : List jao) : Bool := l.all fun o => o.dst != some 2 && o.dst != some 3
theorem jdm {l : List jao} (h : no23 l = true) : ∀ o ∈ l, o.dst ≠ some 2 ∧ o.dst ≠ some 3 := fun o ho => by
 have := List.all_eq_true.1 h o ho
 simpa using this
theorem dRs_ok : ∀ q ∈ dRs, jbi Try.prog 51 q.2.1 false = some (q.2.2.1 ++ q.2.2.2) ∧ ∀ o ∈ q.2.2.1 ++ q.2.2.2, o.dst ≠ some 2 ∧ o.dst ≠ some 3 := by
 intro q hq
 simp only [dRs, List.mem_cons, List.not_mem_nil, or_false] at hq
 rcases hq with rfl | rfl | rfl | rfl | rfl
 ·exact ⟨d2_eq, jdm (by decide)⟩
 ·exact ⟨d3_eq, jdm (by decide)⟩
 ·exact ⟨d4_eq, jdm (by decide)⟩
 ·exact ⟨d5_eq, jdm (by decide)⟩
 ·exact ⟨d6_eq, jdm (by decide)⟩
theorem d_res : Try.f7.results.toList.mapM (cRes Try.prog) = some [.cell 2 (some 14), .cell 3 none] := by kernel_rfl
theorem d_nt : Try.f7.ntmps = 51 := by kernel_rfl
theorem r1_wp {v2 v3 : Value} {a : Act} {W : World} (ht : T23 51 v2 v3 a) {i : Nat} {Q : Exit → Act → World → Prop} (hQ : ∀ a', a'.tmps = (a.put (some 7) (.func (Fn.func 15) #[] #[v2, v3])).tmps → a'.defers = { target := .fn (Fn.func 15) #[v2, v3], args := #[] } :: a.defers → Q .normal a' W) : (Code.region i jk7 false).wp Try.prog Q a W := by
 refine wp_region ?_
 show wpOps _ _ _ [0, 1] _ _
 rw [wpOps_cons]
 refine jek (O := jk7[0]) rfl rfl (v := .func (Fn.func 15) #[] #[v2, v3]) (w' := W) ?_ ?_
 ·have h2 : a.tmps[2]?.getD undef = v2 := by rw [← Array.getD_eq_getD_getElem?]; exact ht.s2
  have h3 : a.tmps[3]?.getD undef = v3 := by rw [← Array.getD_eq_getD_getElem?]; exact ht.s3
  simp [execOp, h2, h3, go_sem]
 ·have h7 : (a.put (some 7) (.func (Fn.func 15) #[] #[v2, v3])).eval (.tmp 7) = .func (Fn.func 15) #[] #[v2, v3] := by
   show (a.put _ _).tmps.getD 7 undef = _
   rw [jbl a _ _ _ (fun x hx => by injection hx with hx; subst hx; rw [ht.size]; decide), if_pos rfl]
  have hd : (a.put (some 7) (.func (Fn.func 15) #[] #[v2, v3])).defers = a.defers := rfl
  have hQ2 := hQ
  clear hQ
  show wpOps _ _ _ [1] (a.put (some 7) (.func (Fn.func 15) #[] #[v2, v3])) _
  generalize a.put (some 7) (.func (Fn.func 15) #[] #[v2, v3]) = a1 at h7 hd hQ2
  rw [wpOps_cons]
  unfold wpOp
  show (if Region.wanted jk7[1] _ = true then _ else _)
  rw [show ∀ y, Region.wanted jk7[1] y = true from fun _ => rfl, if_pos rfl]
  left
  unfold Oper.wp
  have hx : (execOp a1.eval jk7[1]).run Try.prog W = .ok (.defer { target := .fn (Fn.func 15) #[v2, v3], args := #[] }) W := by
   have h8 : a1.tmps[7]?.getD undef = .func (Fn.func 15) #[] #[v2, v3] := by rw [← Array.getD_eq_getD_getElem?]; exact h7
   simp [execOp, h8, Deferred.ofValue, go_sem]
  rw [hx]
  refine hQ2 _ ?_ ?_
  ·rfl
  ·show _ :: a1.defers = _
   rw [hd]
end Go.Proofs.Ytmholkmghhkbhaa

namespace Go.Proofs.Ytmholkmghhkbhaa
open Go Go.RowKit
def decZ (l : List Int) : ZV := match decF l with
  | some c => .tuple [.agg (eCd c), Z64 0]
  | none => .tuple [.agg (eCd c0), Z64 3]
theorem wd_late {fl L : Nat → Bool} {wd : Wd} (r : ZRel fl L wd) {h' : Heap} (hl : wd.h.length ≤ h'.length) (hb : ∀ id, id < wd.h.length → blk h' id = blk wd.h id) : Ext wd ⟨wd.Fr, wd.mu, wd.H, h'⟩ ∧ ZRel fl L ⟨wd.Fr, wd.mu, wd.H, h'⟩ := by
 have e : Ext wd ⟨wd.Fr, wd.mu, wd.H, h'⟩ := ⟨fun _ h => h, fun id row h hr => by rw [← hr]; exact hb id (r.frlt id h), hl, Nat.le_refl _, fun i p h => .inl ⟨p, h, rfl⟩, fun i cs h => ⟨⟨cs, h⟩, rfl⟩, fun i cs _ h => ⟨cs, h⟩, fun i g k rows hi h => ⟨g, rows, h, Nat.le_refl _, fun _ => ⟨rfl, rfl, fun id b row hm hr => ⟨row, by rw [← hr]; exact hb id (r.nfr i _ hm).2, rfl⟩⟩⟩⟩
 refine ⟨e, fun id h => r.fresh id (Nat.le_trans hl h), r.lfresh, fun id h => Nat.lt_of_lt_of_le (r.frlt id h) hl, r.dom, r.inj, fun i p h => ⟨(r.nfr i p h).1, Nat.lt_of_lt_of_le (r.nfr i p h).2 hl⟩, r.wr, fun i cs h => ?_, fun i g k rows h => ?_⟩
 ·obtain ⟨id, row, h1, h2, h3⟩ := r.box i cs h
  exact ⟨id, row, h1, by rw [← h2]; exact hb id (r.nfr i _ h1).2, h3.ext e⟩
 ·obtain ⟨h1, h2⟩ := r.grow i g k rows h
  refine ⟨h1, ?_⟩
  rcases h2 with h2 | ⟨id, b, row, h2, h3, h4, h5⟩
  ·exact .inl h2
  ·exact .inr ⟨id, b, row, h2, by rw [← h3]; exact hb id (r.nfr i _ h2).2, h4, h5.ext e⟩
def DecK (H : ZH) (l : List Int) : jaq → ZS → ZH → Prop := fun x S' H' => (x = .normal ∨ x = .ret) ∧ ∃ z, jbH S' H' [.cell 2 (some 14), .cell 3 none] = some z ∧ Fin H z H' (fun z H' => z = decZ l ∧ H' = H)
def s23 (ic ie : Nat) : jah := fun t => if t = 2 then .ptr ic 0 else if t = 3 then .ptr ie 0 else .no
theorem SR.of_tmps {nt : Nat} {m : Map} {s : jah} {a a' : Act} (h : SR nt m s a) (e : a'.tmps = a.tmps) : SR nt m s a' := ⟨by rw [e]; exact h.size, fun t => by rw [e]; exact h.slot t⟩
theorem jmu {t t' : Array Value} (h2 : t.getD 2 undef = t'.getD 2 undef) (h3 : t.getD 3 undef = t'.getD 3 undef) : results Try.f7 t = results Try.f7 t' := by
 rw [jeo, jeo]
 have : Try.f7.results.mapM (resV t) = Try.f7.results.mapM (resV t') := by
  rw [Try.results7]
  simp only [List.mapM_toArray, List.mapM_cons, List.mapM_nil, resV, h2, h3]
 rw [this]
theorem inv_d {v2 v3 : Value} {W : World} : (invoke (.fn (Fn.func 15) #[v2, v3]) #[]).run Try.prog W = .ok (.enter 15 #[v2, v3]) W := by
 simp [invoke, go_sem]
theorem zc14_z {w : Wd} : ZR w (.tuple [.agg (eCd c0), Z64 3]) (.tuple [.agg zc14, .val (.int .i64 3)]) := by
 have n : ∀ {k : Nat}, ZR w (.fz k false []) (.val (.slice none 0 0)) := fun {k} => .fr (.fnil (.inl rfl))
 have v : ∀ (v : Value), ZR w (.val v) (.val v) := fun v => .fr (.val v)
 refine ZRs.toTuple (.cons (ZRs.toAgg ?_) (.cons (v _) .nil))
 exact .cons (v _) (.cons (v _) (.cons (v _) (.cons (v _) (.cons n (.cons n (.cons (v _) (.cons (v _) (.cons n (.cons n (.cons (v _) (.cons (v _) (.cons n (.cons n .nil)))))))))))))
set_option maxHeartbeats 4000000 in
theorem jh4 {X : jaJ} (hX : jbd Try.prog X) {F : FuncId → Option jaL} (hF : ∀ f af, F f = some af → jap Try.prog f = some af) {pn : PX} (hY : YOk Try.prog pn) {l : List Int} (hpn : ∀ v, pn.g v → v = badV ∧ decF l = none) {ex : Bool}
  {wd : Wd} {fl L : Nat → Bool} (r : ZRel fl L wd) {args : List AV} (ha : ZRs wd [.fz 1 ex (l.map eC)] args)
  (hZ : ∀ L : Nat → Bool, (∀ i, wd.H.length ≤ i → L i = true) → zO ⟨X, true, PX.no⟩ F Gh.no L wd.H.length [] none dl0 (fun t => [ZV.fz 1 ex (l.map eC)].getD t .no) wd.H fun S1 H1 => (∃ cs, H1[wd.H.length]? = some (.box cs)) ∧ (∃ cs, H1[wd.H.length + 1]? = some (.box cs)) ∧ S1 2 = .ptr wd.H.length 0 ∧ S1 3 = .ptr (wd.H.length + 1) 0 ∧
   ZD ⟨X, true, pn⟩ ⟨X, true, PX.no⟩ F L wd.H.length (wd.H.length + 1) 14 dRs dT (zput S1 (some 7) (.func 15 [.ptr wd.H.length 0, .ptr (wd.H.length + 1) 0])) H1 (DecK wd.H l))
  {n0 B0 : Nat} {m : Map} {W : World} {vals : Array Value} (rl : Rels n0 B0 m wd.h W) (hv : VRs m args vals.toList) :
  Calls Try.prog 7 vals W fun e w' => ∃ v h' v' m', PK fl L wd (fun z H' => z = decZ l ∧ H' = wd.H) v h' ∧ e = .returned v' ∧ Post n0 B0 (fun i => decide (wd.h.length ≤ i)) m wd.h W m' h' w' ∧ VR m' v v' := by
 have hmix : Try.prog.follows .mixedOrders = true := by kernel_rfl
 obtain ⟨fl0, hfl0⟩ : ∃ f : Nat → Bool, f = fun i => decide (wd.h.length ≤ i) := ⟨_, rfl⟩
 obtain ⟨L0, hL0⟩ : ∃ f : Nat → Bool, f = fun i => decide (wd.H.length ≤ i) := ⟨_, rfl⟩
 have hn0 : ∀ id, fl0 id = true → n0 ≤ id := fun id h => by rw [hfl0] at h; have := rl.n0; simp at h; omega
 have r0 : ZRel fl0 L0 wd := ⟨fun id h => by rw [hfl0]; simpa using h, fun i h => by rw [hL0]; simpa using h, r.frlt, r.dom, r.inj, r.nfr, fun i p hp hl => by
  rw [hL0] at hl; have := r.dom i p hp; simp at hl; omega, r.box, r.grow⟩
 rw [← hfl0]
 refine calls_of_wp_defers Try.func7 dB_eq ?_
 rw [d_nt]
 have hvl := hv.1
 have hal : args.length = 1 := ha.1.symm
 simp only [Array.length_toList] at hvl
 have hsr : SR 51 m (fun t => args.getD t .no) { tmps := vals ++ Array.replicate (51 - vals.size) undef, defers := [] } := by
  refine ⟨by simp; omega, fun t => ?_⟩
  by_cases ht : t < args.length
  ·have h1 : (vals ++ Array.replicate (51 - vals.size) undef).getD t undef = vals[t]'(by omega) := by
    rw [Array.getD_eq_getD_getElem?, Array.getElem?_append_left (by omega), Array.getElem?_eq_getElem (by omega)]; rfl
   simp only [h1]
   refine hv.2 t _ _ ?_ ?_
   ·simp [List.getD, List.getElem?_eq_getElem ht]
   ·rw [Array.getElem?_toList, Array.getElem?_eq_getElem (by omega)]
  ·have h1 : (vals ++ Array.replicate (51 - vals.size) undef).getD t undef = undef := by
    rw [Array.getD_eq_getD_getElem?, Array.getElem?_append_right (by omega), Array.getElem?_replicate]
    split <;> rfl
   simp only [h1]
   have h2 : args.getD t .no = .no := by simp [List.getD, List.getElem?_eq_none (Nat.le_of_not_lt ht)]
   rw [h2]; exact VRs.no
 generalize hact : ({ tmps := vals ++ Array.replicate (51 - vals.size) undef, defers := [] } : Act) = a0 at hsr ⊢
 have hd0 : a0.defers = [] := by rw [← hact]
 clear hact
 have hS : ∀ t, ZR wd ([ZV.fz 1 ex (l.map eC)].getD t .no) (args.getD t .no) := fun t => by
  rw [List.getD_eq_getElem?_getD, List.getD_eq_getElem?_getD]
  cases hz : [ZV.fz 1 ex (l.map eC)][t]? with
  | none =>
   have : args[t]? = none := by rw [List.getElem?_eq_none_iff] at hz ⊢; rw [← ha.1]; exact hz
   rw [this]; exact ZRs.nil.toTuple
  | some z =>
   obtain ⟨a, h1, h2⟩ := ha.get hz
   rw [h1]; exact h2
 have h0 := jcd dl0 [] none ⟨[], none⟩ _ _ wd r0 hS (seen0 r0) (hZ L0 fun i h => by rw [hL0]; simpa using h)
 refine wp_seq (jcR (jd9 YOk.no hmix hX hF) hn0 d0_eq h0 rl hsr (fun s1 h1 m1 a1 W1 hk p1 q1 d1 => ?_) fun pv h' m' a' w' g p d => g.elim)
 obtain ⟨S1, w1, rfl, r1, e1, hS1, ⟨cc, hcc⟩, ⟨ce, hce⟩, hs2, hs3, hD⟩ := hk
 have z2 := hS1 2
 have z3 := hS1 3
 rw [hs2] at z2
 rw [hs3] at z3
 obtain ⟨ic, _, x2, _, hmc⟩ := z2.ptr_inv
 obtain ⟨ie, _, x3, _, hme⟩ := z3.ptr_inv
 have y2 := q1.slot 2
 have y3 := q1.slot 3
 rw [x2] at y2
 rw [x3] at y3
 obtain ⟨v2, hv2⟩ : ∃ v, v = a1.tmps.getD 2 undef := ⟨_, rfl⟩
 obtain ⟨v3, hv3⟩ : ∃ v, v = a1.tmps.getD 3 undef := ⟨_, rfl⟩
 have t1 : T23 51 v2 v3 a1 := ⟨q1.size, hv2.symm, hv3.symm⟩
 rw [← hv2] at y2
 rw [← hv3] at y3
 obtain ⟨bc, hbc, hv2⟩ : ∃ b, CB m1 ic b ∧ v2 = .pointer (some ⟨b.b, b.off, none⟩) := by cases y2 with | ptr h => exact ⟨_, h, rfl⟩
 obtain ⟨be, hbe, hv3⟩ : ∃ b, CB m1 ie b ∧ v3 = .pointer (some ⟨b.b, b.off, none⟩) := by cases y3 with | ptr h => exact ⟨_, h, rfl⟩
 have hfc : fl0 ic = true := by
  rw [hfl0]
  rcases e1.mu _ _ hmc with ⟨p, hp, _⟩ | h
  ·exact absurd (r.dom _ _ hp) (by omega)
  ·simpa using h
 have hfe : fl0 ie = true := by
  rw [hfl0]
  rcases e1.mu _ _ hme with ⟨p, hp, _⟩ | h
  ·exact absurd (r.dom _ _ hp) (by omega)
  ·simpa using h
 have hne : ie ≠ ic := fun e => by
  have := r1.inj _ _ _ _ hmc hme e.symm
  omega
 refine wp_seq (r1_wp t1 fun a2 ha2 hda2 => ?_)
 show (regC dRs dB7).wp Try.prog _ a2 W1
 have t2 : T23 51 v2 v3 a2 := by
  have := t1.put (d := some 7) (by decide) (.func (Fn.func 15) #[] #[v2, v3])
  exact ⟨by rw [ha2]; exact this.size, by rw [ha2]; exact this.s2, by rw [ha2]; exact this.s3⟩
 have y23 : VRs m1 [.ptr ic 0, .ptr ie 0] #[v2, v3].toList := .cons y2 (.cons y3 .nil)
 have q2 : SR 51 m1 (put s1 (some 7) (.func 15 [.ptr ic 0, .ptr ie 0])) a2 := SR.of_tmps (q1.put (d := some 7) (fun _ _ h => h) (fun x hx => by injection hx with hx; subst hx; decide) (.func rfl (fun i x y hx hy => y23.2 i x y hx (by rw [Array.getElem?_toList]; exact hy)))) ha2
 have z23 : ZRs w1 [.ptr wd.H.length 0, .ptr (wd.H.length + 1) 0] [.ptr ic 0, .ptr ie 0] := .cons (by rw [← x2]; exact z2) (.cons (by rw [← x3]; exact z3) .nil)
 have hS2 : ∀ t, ZR w1 (zput S1 (some 7) (.func 15 [.ptr wd.H.length 0, .ptr (wd.H.length + 1) 0]) t) (put s1 (some 7) (.func 15 [.ptr ic 0, .ptr ie 0]) t) := jd1 (d := some 7) hS1 (.func rfl z23.2)
 have hda3 : a2.defers = [{ target := .fn (Fn.func 15) #[v2, v3], args := #[] }] := by rw [hda2, d1, hd0]
 refine jjj (n0 := n0) (B0 := B0) (D := [{ target := .fn (Fn.func 15) #[v2, v3], args := #[] }]) (m0 := m1) (h0 := w1.h) (W0 := W1) (wd0 := w1) (v2 := v2) (v3 := v3) (ic := ic) (ie := ie) hmix hY hX hF hn0 dT_eq p1.rels.dom (fun x S' w' s' m' a' W' hk r' e' hS' p' q' d' => ?_) (fun pv h' m' a' W' hg hlc hle p' d' t' => ?_) dRs dRs_ok _ w1 _ m1 a2 W1 hD r1 (Ext.refl w1) hmc hme hS2 (.refl p1.rels) q2 hda3 t2
 ·obtain ⟨hx, z, hz, hfin⟩ := hk
  have go : Leaves Try.prog Try.f7 a'.tmps (fun e w' => ∃ v h' v' m', PK fl L wd (fun z H' => z = decZ l ∧ H' = wd.H) v h' ∧ e = .returned v' ∧ Post n0 B0 fl0 m wd.h W m' h' w' ∧ VR m' v v') a'.defers .returning W' := by
   rw [d']
   refine leaves_cons (by simp) inv_d ?_
   rw [hv2, hv3]
   refine (jlc _ _ W').mono fun e u' w2 hp => ?_
   obtain ⟨rfl, rfl, rfl⟩ := hp
   show Leaves _ _ _ _ [] .returning w2
   have e2 := e1.trans e'
   obtain ⟨v, hv1, hvz⟩ := jd0 r' hS' hz
   obtain ⟨v', h3, h4⟩ := jce (P := Try.prog) p'.rels q' d_res hv1
   exact ⟨v', h3, v, _, v', m', hfin fl L wd w' v r rfl (r.back r' e2) e2 rfl hvz, rfl, p1.trans rl.dom p', h4⟩
  rcases hx with rfl | rfl
  ·exact go
  ·exact go
 ·obtain ⟨rfl, hdec⟩ := hpn pv hg
  obtain ⟨lc, hlc, hlc2⟩ := hlc
  obtain ⟨le, hle, hle2⟩ := hle
  show Leaves Try.prog Try.f7 a'.tmps _ a'.defers _ W'
  rw [d']
  refine leaves_cons (by simp) inv_d ?_
  have hic : m' ic = m1 ic := p'.keep ic (r1.nfr _ _ hmc).2
  have hie : m' ie = m1 ie := p'.keep ie (r1.nfr _ _ hme).2
  have hbc' : CB m' ic bc := ⟨hic.trans hbc.1, hbc.2⟩
  have hbe' : CB m' ie be := ⟨hie.trans hbe.1, hbe.2⟩
  rw [hv2, hv3]
  refine (jnm p'.rels hn0 hbc' hbe' hfc hfe hlc hle hlc2 hle2 hne).mono fun e u' w2 hp => ?_
  obtain ⟨rfl, rfl, m2, h2, hc2, he2, p2⟩ := hp
  show Leaves _ _ _ _ [] .returning w2
  have p3 := (p1.trans rl.dom p').trans rl.dom p2
  have c2 : CB m2 ic bc := ⟨(p2.keep ic (jaI hlc)).trans hbc'.1, hbc.2⟩
  have c3 : CB m2 ie be := ⟨(p2.keep ie (jaI hle)).trans hbe'.1, hbe.2⟩
  have q3 : SR 4 m2 (s23 ic ie) { tmps := #[undef, undef, v2, v3], defers := [] } := by
   refine ⟨rfl, fun t => ?_⟩
   unfold s23
   match t with
   | 0 => exact VRs.no
   | 1 => exact VRs.no
   | 2 => show VR m2 (.ptr ic 0) v2; rw [hv2]; exact VR.ptr (off := 0) c2
   | 3 => show VR m2 (.ptr ie 0) v3; rw [hv3]; exact VR.ptr (off := 0) c3
   | t + 4 => simp [Array.getD]; exact VRs.no
  have hres : jbz [.cell 2 (some 14), .cell 3 none] (s23 ic ie) h2 = some (.tuple [.agg zc14, .val (.int .i64 3)]) := by
   have e2 : resA (s23 ic ie) h2 (.cell 2 (some 14)) = some (.agg zc14) := by
    show (rd h2 ic 0 14).map AV.agg = _
    unfold rd; rw [hc2]; rfl
   have e3 : resA (s23 ic ie) h2 (.cell 3 none) = some (.val (.int .i64 3)) := by
    show rd1 h2 ie 0 = _
    unfold rd1; rw [he2]; rfl
   simp [jbz, List.mapM_cons, e2, e3]
  obtain ⟨v', h3, h4⟩ := jce (P := Try.prog) p2.rels q3 d_res hres
  rw [jmu (t := #[undef, undef, v2, v3]) (t' := a'.tmps) (show v2 = _ from t'.s2.symm) (show v3 = _ from t'.s3.symm)] at h3
  obtain ⟨late1, late2⟩ := wd_late r p3.len fun id hid => jbc (p3.unt id hid (.inr (by rw [hfl0]; simp; omega)))
  refine ⟨v', h3, _, h2, v', m2, ⟨_, _, rfl, late2, late1, zc14_z, ?_, rfl⟩, rfl, p3, h4⟩
  unfold decZ; rw [hdec]
end Go.Proofs.Ytmholkmghhkbhaa

namespace Go.Proofs.Ytmholkmghhkbhaa
open Go Go.RowKit
def pnB (l : List Int) : PX := ⟨fun v => v = badV ∧ decF l = none, fun _ _ _ _ _ => False⟩
theorem YOk.pnB {l : List Int} : YOk Try.prog (Go.Proofs.Ytmholkmghhkbhaa.pnB l) := fun _ _ _ _ _ h => h.elim
theorem jb5 {l : List Int} (h : jdb l = none) : decF l = none := by unfold decF; rw [h]
theorem jjq {w : Wd} : ∀ {vs : List Value} {ys : List AV}, ZRs w (vs.map ZV.val) ys → ys = vs.map AV.val
 | [], ys, h => List.eq_nil_of_length_eq_zero (by simpa using h.1.symm)
 | v :: vs, [], h => by have := h.1; simp at this
 | v :: vs, y :: ys, h => by
  have h1 := (h.2 0 _ _ rfl rfl).val_inv
  have h2 := jjq (vs := vs) (ys := ys) ⟨by simpa using h.1, fun i z a hz ha => h.2 (i + 1) z a (by simpa using hz) (by simpa using ha)⟩
  rw [h1, h2]; rfl
abbrev zn14 : List ZV := [Z64 0, Z64 0, Z64 0, Z64 0, .nil, .nil, Z64 0, Z64 0, .nil, .nil, Z64 0, Z64 0, .nil, .nil]
theorem Fin.c0 {H0 H' : ZH} {K : ZV → ZH → Prop} (h : Fin H0 (.tuple [.agg (eCd c0), Z64 3]) H' K) : Fin H0 (.tuple [.agg zn14, Z64 3]) H' K := fun fl L w w' a r e r' e' he hz => by
 refine h fl L w w' a r e r' e' he ?_
 obtain ⟨ys, rfl, hy⟩ := hz.tuple_inv
 match ys, hy with
 | [], hy => have := hy.1; simp at this
 | [_], hy => have := hy.1; simp at this
 | _ :: _ :: _ :: _, hy => have := hy.1; simp at this
 | [a, b], hy =>
  have hb := (hy.2 1 _ _ rfl rfl).val_inv
  obtain ⟨xs, rfl, hx⟩ := (hy.2 0 _ _ rfl rfl).agg_inv
  have := jjq (vs := [.int .i64 0, .int .i64 0, .int .i64 0, .int .i64 0, .slice none 0 0, .slice none 0 0, .int .i64 0, .int .i64 0, .slice none 0 0, .slice none 0 0, .int .i64 0, .int .i64 0, .slice none 0 0, .slice none 0 0]) hx
  subst this; subst hb
  exact zc14_z
theorem ji5 {l : List Int} {p : OXt} {r : List Int} (h : jdX l = some (p, r)) : OXB p := by
 unfold jdX at h
 obtain ⟨a, r1, e1, h⟩ := jat h
 obtain ⟨b, r2, e2, h⟩ := jat h
 obtain ⟨c, r3, e3, h⟩ := jat h
 obtain ⟨d, r4, e4, h⟩ := jat h
 simp only [Option.some.injEq, Prod.mk.injEq] at h
 rw [← h.1]
 have h3 := jdq e3
 have h4 := jdq e4
 refine ⟨by simp only; omega, by simp only; omega, fun m hm => ?_⟩
 have := jcn (Q := fun m : OMk => m.2.2.2.2.length ≤ 100) (fun l x r h => by
  unfold jeW at h
  obtain ⟨a, r1, e1, h⟩ := jat h
  obtain ⟨b, r2, e2, h⟩ := jat h
  obtain ⟨c, r3, e3, h⟩ := jat h
  obtain ⟨d, r4, e4, h⟩ := jat h
  simp only [Option.some.injEq, Prod.mk.injEq] at h
  rw [← h.1]
  have := jdq e4
  simp only; omega) e4 m hm
 omega
theorem jnk {l : List Int} {c : Cd} {r : List Int} (h : jdb l = some (c, r)) : CdB c := by
 obtain ⟨h0, h1, h2, h3, h4⟩ := ji9 h
 refine ⟨by omega, by omega, fun y hy => ?_⟩
 unfold jdb at h
 obtain ⟨a1, r1, e1, h⟩ := jat h
 obtain ⟨a2, r2, e2, h⟩ := jat h
 obtain ⟨a3, r3, e3, h⟩ := jat h
 obtain ⟨a4, r4, e4, h⟩ := jat h
 obtain ⟨a5, r5, e5, h⟩ := jat h
 obtain ⟨a6, r6, e6, h⟩ := jat h
 obtain ⟨a7, r7, e7, h⟩ := jat h
 obtain ⟨a8, r8, e8, h⟩ := jat h
 simp only [Option.some.injEq, Prod.mk.injEq] at h
 rw [← h.1] at hy
 simp only [exsL, List.mem_cons] at hy
 rcases hy with rfl | rfl | hy
 ·exact ji5 e7
 ·exact ji5 e8
 ·exact jcn (fun _ _ _ => ji5) e6 y hy
section
variable {tb : List (FuncId × Bool)} {L : Nat → Bool} {H : ZH} {K : ZV → ZH → Prop}
theorem rd_dec {A B C : ZB} {ex : Bool} {r : List Int} : rdH (H ++ [A, B, C]) (H.length + 2) ex r ++ [] = H ++ [A, B, .box [.fz 1 ex (r.map eC)]] := by
 rw [List.append_nil]; unfold rdH
 rw [List.set_append_right _ _ (by omega)]
 rw [show H.length + 2 - H.length = 2 by omega]; rfl
theorem RdC.dec {g : PX} {α : Type} {f : FuncId} {vs : List ZV} {ex : Bool} {one : Rdr α} {e : α → ZV} {A B : ZB} (h : RdC tb g L f vs (H ++ [A, B, .dead]) (H.length + 2) ex one e) {l : List Int} (hb : ja5 l) (hbad : one l = none → g.g badV) (hK : ∀ x r, one l = some (x, r) → ja5 r → K (e x) (H ++ [A, B, .box [.fz 1 ex (r.map eC)]])) :
  ZC (XQ tb g) (jap Try.prog) f vs L (H ++ [A, B, .box [.fz 1 ex (l.map eC)]]) K := by
 have := h l [] K hb hbad (fun x r h1 h2 => by rw [rd_dec]; exact hK x r h1 h2)
 rw [rd_dec] at this
 exact this
theorem ZD.cons {XP XN : XT} {F : FuncId → Option jaL} {zc ze nc id : Nat} {o : Array Oper} {la lb : List jao} {r : List Reg} {T : jar} {S : ZS} {KK : jaq → ZS → ZH → Prop} {cs : List ZV} {z : ZV} (h1 : H[zc]? = some (.box cs)) (h2 : cs.length = nc) (h3 : H[ze]? = some (.box [z]))
  (h : zO XP F Gh.no (lessB L zc ze) H.length [] none la S H fun S' H' => zO XN F Gh.no L H'.length [] none lb S' H' fun S' H' => ZD XP XN F L zc ze nc r T S' H' KK) : ZD XP XN F L zc ze nc ((id, o, la, lb) :: r) T S H KK := ⟨⟨_, h1, h2⟩, ⟨_, h3⟩, h⟩
theorem ZD.nil_ {XP XN : XT} {F : FuncId → Option jaL} {zc ze nc : Nat} {T : jar} {S : ZS} {KK : jaq → ZS → ZH → Prop} (h : zW XN F Gh.no L T S H KK) : ZD XP XN F L zc ze nc [] T S H KK := h
set_option maxHeartbeats 8000000 in
theorem decode_w {ex : Bool} {l : List Int} (hb : ja5 l) (hL : ∀ i, H.length ≤ i → L i = true) : zO (XQ tb PX.no) (jap Try.prog) Gh.no L H.length [] none dl0 (fun t => [ZV.fz 1 ex (l.map eC)].getD t .no) H fun S1 H1 => (∃ cs, H1[H.length]? = some (.box cs)) ∧ (∃ cs, H1[H.length + 1]? = some (.box cs)) ∧ S1 2 = .ptr H.length 0 ∧ S1 3 = .ptr (H.length + 1) 0 ∧
   ZD (XQ tb (pnB l)) (XQ tb PX.no) (jap Try.prog) L H.length (H.length + 1) 14 dRs dT (zput S1 (some 7) (.func 15 [.ptr H.length 0, .ptr (H.length + 1) 0])) H1 (DecK H l) := by
 have a0 : ∀ A X, (H ++ A :: X)[H.length]? = some A := fun A X => by simp
 have a1 : ∀ A B X, (H ++ A :: B :: X)[H.length + 1]? = some B := fun A B X => by rw [List.getElem?_append_right (by omega), Nat.add_sub_cancel_left]; rfl
 have a2 : ∀ A B C X, (H ++ A :: B :: C :: X)[H.length + 2]? = some C := fun A B C X => by rw [List.getElem?_append_right (by omega), Nat.add_sub_cancel_left]; rfl
 have s0 : ∀ A A' X, (H ++ A :: X).set H.length A' = H ++ A' :: X := fun A A' X => by rw [List.set_append_right _ _ (Nat.le_refl _), Nat.sub_self]; rfl
 have s1 : ∀ A B B' X, (H ++ A :: B :: X).set (H.length + 1) B' = H ++ A :: B' :: X := fun A B B' X => by rw [List.set_append_right _ _ (by omega), Nat.add_sub_cancel_left]; rfl
 have l0 := hL H.length (Nat.le_refl _)
 have l1 := hL (H.length + 1) (by omega)
 have l2 := hL (H.length + 2) (by omega)
 have p2 : lessB L H.length (H.length + 1) (H.length + 2) = true := by unfold lessB; rw [l2]; simp
 have w0 := Lib.hid hb
 unfold dl0
 repeat' (first | (simp only [zP, jaf, jaa, jad, jae, seval, Nat.reduceLeDiff, List.append_assoc, List.cons_append, List.nil_append, a0, a1, *]) | (simp only [jab]) | (with_reducible apply And.intro) | (with_reducible intro _))
 ·exact ⟨_, rfl⟩
 ·exact ⟨_, rfl⟩
 unfold dRs
 refine ZD.cons (a0 _ _) rfl (a1 _ _ _) ?_
 unfold dla2 dlb2
 repeat' (first | (simp only [zP, jaf, jaa, jad, jae, seval, Nat.reduceLeDiff, List.append_assoc, List.cons_append, List.nil_append, a0, a1, a2, *]) | (simp only [jab]) | (with_reducible apply And.intro) | (with_reducible intro _))
 refine ZD.cons (a0 _ _) rfl (a1 _ _ _) ?_
 unfold dla3 dlb3
 have hp2 : ∀ A B, H.length + 2 < (H ++ [A, B, ZB.dead]).length := fun A B => by simp
 repeat' (first | (simp only [zP, jaf, jaa, jad, jae, seval, Nat.reduceLeDiff, List.append_assoc, List.cons_append, List.nil_append, a0, a1, a2, s0, s1, *]) | (simp only [jab]) | (with_reducible apply And.intro) | (with_reducible intro _))
 refine RdC.dec (jcf (hp2 _ _) p2) w0.out (fun h => ⟨rfl, jb5 (by unfold jdb; rw [h]; rfl)⟩) (fun x1 r1 h1 b1 => ?_)
 repeat' (first | (simp only [zP, jaf, jaa, jad, jae, seval, Nat.reduceLeDiff, List.append_assoc, List.cons_append, List.nil_append, a0, a1, a2, s0, s1, *]) | (simp only [jab]) | (with_reducible apply And.intro) | (with_reducible intro _))
 refine RdC.dec (jcf (hp2 _ _) p2) b1 (fun h => ⟨rfl, jb5 (by unfold jdb; rw [h1, jac, h]; rfl)⟩) (fun x2 r2 h2 b2 => ?_)
 repeat' (first | (simp only [zP, jaf, jaa, jad, jae, seval, Nat.reduceLeDiff, List.append_assoc, List.cons_append, List.nil_append, a0, a1, a2, s0, s1, *]) | (simp only [jab]) | (with_reducible apply And.intro) | (with_reducible intro _))
 refine RdC.dec (jcf (hp2 _ _) p2) b2 (fun h => ⟨rfl, jb5 (by unfold jdb; rw [h1, jac, h2, jac, h]; rfl)⟩) (fun x3 r3 h3 b3 => ?_)
 repeat' (first | (simp only [zP, jaf, jaa, jad, jae, seval, Nat.reduceLeDiff, List.append_assoc, List.cons_append, List.nil_append, a0, a1, a2, s0, s1, *]) | (simp only [jab]) | (with_reducible apply And.intro) | (with_reducible intro _))
 refine RdC.dec (jcf (hp2 _ _) p2) b3 (fun h => ⟨rfl, jb5 (by unfold jdb; rw [h1, jac, h2, jac, h3, jac, h]; rfl)⟩) (fun x4 r4 h4 b4 => ?_)
 repeat' (first | (simp only [zP, jaf, jaa, jad, jae, seval, Nat.reduceLeDiff, List.append_assoc, List.cons_append, List.nil_append, a0, a1, a2, s0, s1, *]) | (simp only [jab]) | (with_reducible apply And.intro) | (with_reducible intro _))
 refine ZD.cons (a0 _ _) rfl (a1 _ _ _) ?_
 unfold dla4 dlb4
 repeat' (first | (simp only [zP, jaf, jaa, jad, jae, seval, Nat.reduceLeDiff, List.append_assoc, List.cons_append, List.nil_append, a0, a1, a2, s0, s1, *]) | (simp only [jab]) | (with_reducible apply And.intro) | (with_reducible intro _))
 refine RdC.dec (lO_c (most := 1500) (hp2 _ _) p2 rfl (by omega) (order_c (hp2 _ _) p2)) b4 (fun h => ⟨rfl, jb5 (by unfold jdb; rw [h1, jac, h2, jac, h3, jac, h4, jac, h]; rfl)⟩) (fun x5 r5 h5 b5 => ?_)
 repeat' (first | (simp only [zP, jaf, jaa, jad, jae, seval, Nat.reduceLeDiff, List.append_assoc, List.cons_append, List.nil_append, a0, a1, a2, s0, s1, *]) | (simp only [jab]) | (with_reducible apply And.intro) | (with_reducible intro _))
 refine ZD.cons (a0 _ _) rfl (a1 _ _ _) ?_
 unfold dla5 dlb5
 repeat' (first | (simp only [zP, jaf, jaa, jad, jae, seval, Nat.reduceLeDiff, List.append_assoc, List.cons_append, List.nil_append, a0, a1, a2, s0, s1, *]) | (simp only [jab]) | (with_reducible apply And.intro) | (with_reducible intro _))
 refine RdC.dec (lX_c (most := 200) (hp2 _ _) p2 rfl (by omega) (jm9 (hp2 _ _) p2)) b5 (fun h => ⟨rfl, jb5 (by unfold jdb; rw [h1, jac, h2, jac, h3, jac, h4, jac, h5, jac, h]; rfl)⟩) (fun x6 r6 h6 b6 => ?_)
 repeat' (first | (simp only [zP, jaf, jaa, jad, jae, seval, Nat.reduceLeDiff, List.append_assoc, List.cons_append, List.nil_append, a0, a1, a2, s0, s1, *]) | (simp only [jab]) | (with_reducible apply And.intro) | (with_reducible intro _))
 refine ZD.cons (a0 _ _) rfl (a1 _ _ _) ?_
 unfold dla6 dlb6
 repeat' (first | (simp only [zP, jaf, jaa, jad, jae, seval, Nat.reduceLeDiff, List.append_assoc, List.cons_append, List.nil_append, a0, a1, a2, s0, s1, *]) | (simp only [jab]) | (with_reducible apply And.intro) | (with_reducible intro _))
 refine RdC.dec (jm9 (hp2 _ _) p2) b6 (fun h => ⟨rfl, jb5 (by unfold jdb; rw [h1, jac, h2, jac, h3, jac, h4, jac, h5, jac, h6, jac, h]; rfl)⟩) (fun x7 r7 h7 b7 => ?_)
 repeat' (first | (simp only [zP, jaf, jaa, jad, jae, seval, Nat.reduceLeDiff, List.append_assoc, List.cons_append, List.nil_append, a0, a1, a2, s0, s1, *]) | (simp only [jab]) | (with_reducible apply And.intro) | (with_reducible intro _))
 refine RdC.dec (jm9 (hp2 _ _) p2) b7 (fun h => ⟨rfl, jb5 (by unfold jdb; rw [h1, jac, h2, jac, h3, jac, h4, jac, h5, jac, h6, jac, h7, jac, h]; rfl)⟩) (fun x8 r8 h8 b8 => ?_)
 repeat' (first | (simp only [zP, jaf, jaa, jad, jae, seval, Nat.reduceLeDiff, List.append_assoc, List.cons_append, List.nil_append, a0, a1, a2, s0, s1, *]) | (simp only [jab]) | (with_reducible apply And.intro) | (with_reducible intro _))
 refine ZD.nil_ ?_
 unfold dT
 obtain ⟨c, hcd⟩ : ∃ c : Cd, c = ⟨x1, x2, x3, x4, x5, x6, x7, x8, false, false⟩ := ⟨_, rfl⟩
 have hco : jdb l = some (c, r8) := by rw [hcd]; unfold jdb; simp only [h1, h2, h3, h4, h5, h6, h7, h8, jac]
 have hdec : decF l = if jbu c = 0 ∧ jdv c = l then some c else none := by unfold decF; rw [hco]
 have hB := jnk hco
 have hR := (ji9 hco).1
 have hlen := fun h0 => let h := jei (c := c) h0; jfM hR h.1 h.2.1 h.2.2
 have fz : ∀ A B C, decF l = none → Fin H (.tuple [.agg (eCd c0), Z64 3]) (H ++ [A, B, C]) (fun z H' => z = decZ l ∧ H' = H) := fun A B C h => by
  refine Fin.truncT (Mods.ext H _) rfl ⟨by unfold decZ; rw [h], ?_⟩
  rw [List.take_left]
 have fo : ∀ A B C, decF l = some c → Fin H (.tuple [.agg (eCd c), Z64 0]) (H ++ [A, B, C]) (fun z H' => z = decZ l ∧ H' = H) := fun A B C h => by
  refine Fin.truncT (Mods.ext H _) rfl ⟨by unfold decZ; rw [h], ?_⟩
  rw [List.take_left]
 clear h1 h2 h3 h4 h5 h6 h7 h8 b1 b2 b3 b4 b5 b6 b7 b8 hco
 have F1 := Lib.hid fz
 have F2 := Lib.hid fo
 have HD := Lib.hid hdec
 have HC := Lib.hid hcd
 have HN := Lib.hid hlen
 clear fz fo hdec hp2 hL p2 hcd hlen hb
 repeat' (first | (simp only [zP, jaf, jaa, jad, jae, seval, Nat.reduceLeDiff, List.append_assoc, List.cons_append, List.nil_append, a0, a1, a2, s0, s1, *]) | (simp only [jab]) | (with_reducible apply And.intro) | (with_reducible intro _))
 refine ZC.upQ (jhf (c := ⟨x1, x2, x3, x4, x5, x6, x7, x8, false, false⟩) (by rw [← HC.out]; exact hB) (fun _ => by rw [← HC.out]; exact hR) (fun h0 => ?_) (fun h0 => ?_))
 ·have hn : decF l = none := by rw [HD.out, if_neg (fun h => h0 (by rw [← HC.out]; exact h.1))]
  have fin := fun A B C => (F1.out A B C hn).c0
  obtain ⟨e, he⟩ : ∃ e, e = jbu ⟨x1, x2, x3, x4, x5, x6, x7, x8, false, false⟩ := ⟨_, rfl⟩
  rw [← he] at h0 ⊢
  clear he F1 F2 HD HC HN hB hR hn
  repeat' (first | (simp only [zP, jaf, jaa, jad, jae, seval, Nat.reduceLeDiff, List.append_assoc, List.cons_append, List.nil_append, a0, a1, a2, s0, s1, h0, DecK, zres2, *]) | (simp only [jab]) | (with_reducible apply And.intro) | (with_reducible intro _))
 ·rw [← HC.out] at h0 ⊢
  have hl1 := HN.out h0
  have hl2 := w0.out.n
  repeat' (first | (simp only [zP, jaf, jaa, jad, jae, seval, Nat.reduceLeDiff, List.append_assoc, List.cons_append, List.nil_append, a0, a1, a2, s0, s1, *]) | (simp only [jab]) | (with_reducible apply And.intro) | (with_reducible intro _))
  refine ZC.upQ (eqb_z (by omega) (by omega) ?_)
  by_cases hE : jdv c = l
  ·have hs : decF l = some c := by rw [HD.out, if_pos ⟨h0, hE⟩]
   have fin := fun A B C => F2.out A B C hs
   rw [HC.out] at fin
   rw [decide_eq_true hE]
   clear F1 F2 HD HC HN hB hR hs hE hl1 hl2 h0
   repeat' (first | (simp only [zP, jaf, jaa, jad, jae, seval, Nat.reduceLeDiff, List.append_assoc, List.cons_append, List.nil_append, a0, a1, a2, s0, s1, DecK, zres2, *]) | (simp only [jab]) | (with_reducible apply And.intro) | (with_reducible intro _))
  ·have hn : decF l = none := by rw [HD.out, if_neg (fun h => hE h.2)]
   have fin := fun A B C => (F1.out A B C hn).c0
   rw [decide_eq_false hE]
   clear F1 F2 HD HC HN hB hR hn hE hl1 hl2 h0
   repeat' (first | (simp only [zP, jaf, jaa, jad, jae, seval, Nat.reduceLeDiff, List.append_assoc, List.cons_append, List.nil_append, a0, a1, a2, s0, s1, DecK, zres2, *]) | (simp only [jab]) | (with_reducible apply And.intro) | (with_reducible intro _))
end
end Go.Proofs.Ytmholkmghhkbhaa

namespace Go.Proofs.Ytmholkmghhkbhaa
open Go Go.RowKit
def yDec (f : FuncId) (args : List AV) (fl : Nat → Bool) (h : Heap) (K : AV → Heap → Prop) : Prop := f = 7 ∧ ∃ (L : Nat → Bool) (w : Wd) (ex : Bool) (l : List Int), ja5 l ∧ ZRel fl L w ∧ w.h = h ∧ ZRs w [.fz 1 ex (l.map eC)] args ∧ K = PK fl L w (fun z H' => z = decZ l ∧ H' = w.H)
def pnD : PX := ⟨fun _ => False, yDec⟩
theorem box0_ok : jbd Try.prog (boxY []) := jnC (jh6 (n := 1000) (F := jap Try.prog) (by kernel_rfl) (fun f af h => h) [] (by intro p hp; cases hp))
theorem pnD_ok : YOk Try.prog pnD := by
 intro f args fl h K hy
 obtain ⟨rfl, L, w, ex, l, hb, r, rfl, ha, rfl⟩ := hy
 refine ⟨⟨Try.f7, _, Try.func7, by kernel_rfl, dB_eq⟩, fun n0 B0 m W vals rl hfl hv => ?_⟩
 refine (jh4 (X := boxY []) box0_ok (F := jap Try.prog) (fun f af h => h) (pn := pnB l) YOk.pnB (fun v hv => hv) r ha (fun L hL => decode_w hb hL) rl hv).mono fun e w' hp => ?_
 obtain ⟨v, h', v', m', k, e1, p, hv'⟩ := hp
 exact .inl ⟨v, h', v', m', k, e1, p.mono (fun i h => r.fresh i (by simpa using h)), hv'⟩
section
variable {tb : List (FuncId × Bool)} {L : Nat → Bool} {H : ZH} {K : ZV → ZH → Prop}
theorem jjL {ex : Bool} {l : List Int} (hb : ja5 l) (hK : K (decZ l) H) : ZC (XQ tb pnD) (jap Try.prog) 7 [.fz 1 ex (l.map eC)] L H K := fun fl w args r e ha => by
 subst e
 refine AC.known rfl ⟨rfl, L, w, ex, l, hb, r, rfl, ha, rfl⟩ fun v h' p => p.mono fun z H' hz => ?_
 obtain ⟨rfl, rfl⟩ := hz
 exact hK
end
theorem jlF {P : Program} (hmix : P.follows .mixedOrders = true) {X : jaJ} (hX : jbd P X) {pn : PX} (hY : YOk P pn) (hg : ∀ v, ¬ pn.g v) {F : FuncId → Option jaL} (hF : ∀ f af, F f = some af → jap P f = some af) {f : FuncId} {tys : List (Bool × Ty)} {Q : (t : Ty) → t.val → Prop} (hok : jku tys = true)
  (main : ∀ zl, ZArgs Q tys zl → ZC ⟨X, true, pn⟩ F f zl (fun _ => true) [] fun z _ => z = .val (.bool true)) (W : World) (args : Array Value) (hargs : jcO Q W W.heap.size tys args.toList) :
  Calls P f args W fun e W' => e = .returned (.bool true) ∧ Below W.heap.size W W' := by
 have r0 : Rels ([] : Heap).length W.heap.size (fun _ => none) [] W := jjy W
 obtain ⟨al, h, m, _, r, ha, hv⟩ := jgJ tys hok [] (fun _ => none) r0 args.toList hargs
 simp only [List.nil_append] at r ha
 have rz : ZRel (fun i => decide (h.length ≤ i)) (fun _ => true) ⟨fun id => id < h.length, fun _ => none, [], h⟩ := by
  refine ⟨fun id hi => by simpa using hi, fun _ _ => rfl, fun id hi => hi, (fun i p hp => by cases hp), (fun i j p q hp => by cases hp), (fun i p hp => by cases hp), (fun i p hp => by cases hp), (fun i cs hb => by simp at hb), (fun i g k rows hb => by simp at hb)⟩
 obtain ⟨zl, h1, h2⟩ := jjk (w := ⟨fun id => id < h.length, fun _ => none, [], h⟩) rfl hok ha
 have hm : jc8 pn X F (some f) al _ h _ := main zl h1 _ _ al rz rfl h2
 refine (jkN hY hmix hX hF hm r hv).mono fun e' W' hp => ?_
 rcases hp with ⟨v, h', v', m', hk, rfl, p, hv'⟩ | ⟨pv, g, _⟩
 ·obtain ⟨z, w', _, _, _, hz, rfl⟩ := hk
  rw [hz.val_inv] at hv'
  exact ⟨by rw [hv'.lit], jgn p⟩
 ·exact (hg pv g).elim
end Go.Proofs.Ytmholkmghhkbhaa
