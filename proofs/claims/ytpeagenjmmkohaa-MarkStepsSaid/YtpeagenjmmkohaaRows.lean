/-
  No cell of these rows narrows 'for every input' (looked for: loops, veiled, ifaces, maps, wideKeys, modest, calm, conditions, laid).
  DERIVED. THE GIVEN ROWS OF THIS SEAT. 8 by the template 'for every input the law returns true; each argument reads behind the call as it read before'; 0 by the template 'total and deterministic' (their statements: YtpeagenjmmkohaaTotals.lean).
  GIVEN WITH THE SEED: the statements are not yours to turn. If you find one false, say at which input.
  Laid BY PROGRAM, IN A SANDBOX (cutbox-rows.mjs): the forced cells as the released guide's own fill.sh prints them over the translation c2606d76fea5d959… (all of the seat's roots in one cut). By AI agents, Wed Nov 11 2026. No macro, syntax, notation, axiom, sorry.
-/
import Derived.Test.YtpeagenjmmkohaaChecked
import GoSem.Claim
import GoSem.ClaimJoined
import GoSem.ClaimMapViews
import Derived.JoinedTies
import Derived.KernelRfl
namespace Go.Proofs.Ytpeagenjmmkohaa
/- THE CELL 'sum', in the pinned program and in every row, IS THE sha256 OF THE DUMP (.gsa) THAT YtpeagenjmmkohaaProg.lean LOADS. Nothing in Lean hashes anything: it is a label: what it is worth is what the hold of that sum in a sandbox is worth. -/
noncomputable def Try.pinned : Pinned := { name := "ytpeagenjmmkohaa", sum := "c2606d76fea5d959f6381c03d50a1217e9f0d6d1358056190bf45d910fb776aa", checked := Try.checked }
namespace Rows
def none {H : Type} : Left H := { results := [], args := [] }

/-- 'backstitchkeep3.GensCounts': WHATEVER THE INPUT: true; the input reads as it did. -/
def gensCountsSpec : ChangeSpec := { name := "gensCounts", fn := fun _ => fun
  | [d1, d2] => { results := [.lit (.bool true)], args := [d1, d2] }
  | _ => none }
def gensCountsRow : OpenClaim := { program := "ytpeagenjmmkohaa", sum := "c2606d76fea5d959f6381c03d50a1217e9f0d6d1358056190bf45d910fb776aa", func := "backstitch/backstitchkeep3.GensCounts", spec := "gensCounts", unfollowed := true, recurses := true, apart := false }
def GensCountsSaid : Prop := gensCountsRow.holds Try.pinned (OpenSpec.ofChange gensCountsSpec)

/-- ITS FALSE NEIGHBOUR: 'it returns false'. Refute it at one input. -/
def gensCountsWrong : ChangeSpec := { name := "gensCounts", fn := fun _ => fun
  | [d1, d2] => { results := [.lit (.bool false)], args := [d1, d2] }
  | _ => none }
def GensCountsWrongFalsely : Prop := gensCountsRow.holds Try.pinned (OpenSpec.ofChange gensCountsWrong)

/-- 'backstitchkeep3.GensAny': WHATEVER THE INPUT: true; the input reads as it did. -/
def gensAnySpec : ChangeSpec := { name := "gensAny", fn := fun _ => fun
  | [d1, d2, d3] => { results := [.lit (.bool true)], args := [d1, d2, d3] }
  | _ => none }
def gensAnyRow : OpenClaim := { program := "ytpeagenjmmkohaa", sum := "c2606d76fea5d959f6381c03d50a1217e9f0d6d1358056190bf45d910fb776aa", func := "backstitch/backstitchkeep3.GensAny", spec := "gensAny", unfollowed := true, recurses := true, apart := false }
def GensAnySaid : Prop := gensAnyRow.holds Try.pinned (OpenSpec.ofChange gensAnySpec)

/-- ITS FALSE NEIGHBOUR: 'it returns false'. Refute it at one input. -/
def gensAnyWrong : ChangeSpec := { name := "gensAny", fn := fun _ => fun
  | [d1, d2, d3] => { results := [.lit (.bool false)], args := [d1, d2, d3] }
  | _ => none }
def GensAnyWrongFalsely : Prop := gensAnyRow.holds Try.pinned (OpenSpec.ofChange gensAnyWrong)

/-- 'backstitchkeep3.GensKeeps': WHATEVER THE INPUT: true; the input reads as it did. -/
def gensKeepsSpec : ChangeSpec := { name := "gensKeeps", fn := fun _ => fun
  | [d1, d2] => { results := [.lit (.bool true)], args := [d1, d2] }
  | _ => none }
def gensKeepsRow : OpenClaim := { program := "ytpeagenjmmkohaa", sum := "c2606d76fea5d959f6381c03d50a1217e9f0d6d1358056190bf45d910fb776aa", func := "backstitch/backstitchkeep3.GensKeeps", spec := "gensKeeps", unfollowed := true, recurses := true, apart := false }
def GensKeepsSaid : Prop := gensKeepsRow.holds Try.pinned (OpenSpec.ofChange gensKeepsSpec)

/-- ITS FALSE NEIGHBOUR: 'it returns false'. Refute it at one input. -/
def gensKeepsWrong : ChangeSpec := { name := "gensKeeps", fn := fun _ => fun
  | [d1, d2] => { results := [.lit (.bool false)], args := [d1, d2] }
  | _ => none }
def GensKeepsWrongFalsely : Prop := gensKeepsRow.holds Try.pinned (OpenSpec.ofChange gensKeepsWrong)

/-- 'backstitchkeep3.GensBarrier': WHATEVER THE INPUT: true; the input reads as it did. -/
def gensBarrierSpec : ChangeSpec := { name := "gensBarrier", fn := fun _ => fun
  | [d1, d2] => { results := [.lit (.bool true)], args := [d1, d2] }
  | _ => none }
def gensBarrierRow : OpenClaim := { program := "ytpeagenjmmkohaa", sum := "c2606d76fea5d959f6381c03d50a1217e9f0d6d1358056190bf45d910fb776aa", func := "backstitch/backstitchkeep3.GensBarrier", spec := "gensBarrier", unfollowed := true, recurses := true, apart := false }
def GensBarrierSaid : Prop := gensBarrierRow.holds Try.pinned (OpenSpec.ofChange gensBarrierSpec)

/-- ITS FALSE NEIGHBOUR: 'it returns false'. Refute it at one input. -/
def gensBarrierWrong : ChangeSpec := { name := "gensBarrier", fn := fun _ => fun
  | [d1, d2] => { results := [.lit (.bool false)], args := [d1, d2] }
  | _ => none }
def GensBarrierWrongFalsely : Prop := gensBarrierRow.holds Try.pinned (OpenSpec.ofChange gensBarrierWrong)

/-- 'backstitchkeep3.MarkSteps': WHATEVER THE INPUT: true; the input reads as it did. -/
def markStepsSpec : ChangeSpec := { name := "markSteps", fn := fun _ => fun
  | [d1, d2] => { results := [.lit (.bool true)], args := [d1, d2] }
  | _ => none }
def markStepsRow : OpenClaim := { program := "ytpeagenjmmkohaa", sum := "c2606d76fea5d959f6381c03d50a1217e9f0d6d1358056190bf45d910fb776aa", func := "backstitch/backstitchkeep3.MarkSteps", spec := "markSteps", unfollowed := true, recurses := true, apart := false }
def MarkStepsSaid : Prop := markStepsRow.holds Try.pinned (OpenSpec.ofChange markStepsSpec)

/-- ITS FALSE NEIGHBOUR: 'it returns false'. Refute it at one input. -/
def markStepsWrong : ChangeSpec := { name := "markSteps", fn := fun _ => fun
  | [d1, d2] => { results := [.lit (.bool false)], args := [d1, d2] }
  | _ => none }
def MarkStepsWrongFalsely : Prop := markStepsRow.holds Try.pinned (OpenSpec.ofChange markStepsWrong)

/-- 'backstitchkeep3.MarkKeeps': WHATEVER THE INPUT: true; the input reads as it did. -/
def markKeepsSpec : ChangeSpec := { name := "markKeeps", fn := fun _ => fun
  | [d1, d2] => { results := [.lit (.bool true)], args := [d1, d2] }
  | _ => none }
def markKeepsRow : OpenClaim := { program := "ytpeagenjmmkohaa", sum := "c2606d76fea5d959f6381c03d50a1217e9f0d6d1358056190bf45d910fb776aa", func := "backstitch/backstitchkeep3.MarkKeeps", spec := "markKeeps", unfollowed := true, recurses := true, apart := false }
def MarkKeepsSaid : Prop := markKeepsRow.holds Try.pinned (OpenSpec.ofChange markKeepsSpec)

/-- ITS FALSE NEIGHBOUR: 'it returns false'. Refute it at one input. -/
def markKeepsWrong : ChangeSpec := { name := "markKeeps", fn := fun _ => fun
  | [d1, d2] => { results := [.lit (.bool false)], args := [d1, d2] }
  | _ => none }
def MarkKeepsWrongFalsely : Prop := markKeepsRow.holds Try.pinned (OpenSpec.ofChange markKeepsWrong)

/-- 'backstitchkeep3.MarkColours': WHATEVER THE INPUT: true; the input reads as it did. -/
def markColoursSpec : ChangeSpec := { name := "markColours", fn := fun _ => fun
  | [d1, d2] => { results := [.lit (.bool true)], args := [d1, d2] }
  | _ => none }
def markColoursRow : OpenClaim := { program := "ytpeagenjmmkohaa", sum := "c2606d76fea5d959f6381c03d50a1217e9f0d6d1358056190bf45d910fb776aa", func := "backstitch/backstitchkeep3.MarkColours", spec := "markColours", unfollowed := true, recurses := true, apart := false }
def MarkColoursSaid : Prop := markColoursRow.holds Try.pinned (OpenSpec.ofChange markColoursSpec)

/-- ITS FALSE NEIGHBOUR: 'it returns false'. Refute it at one input. -/
def markColoursWrong : ChangeSpec := { name := "markColours", fn := fun _ => fun
  | [d1, d2] => { results := [.lit (.bool false)], args := [d1, d2] }
  | _ => none }
def MarkColoursWrongFalsely : Prop := markColoursRow.holds Try.pinned (OpenSpec.ofChange markColoursWrong)

/-- 'backstitchkeep3.MarkRaces': WHATEVER THE INPUT: true; the input reads as it did. -/
def markRacesSpec : ChangeSpec := { name := "markRaces", fn := fun _ => fun
  | [d1, d2, d3] => { results := [.lit (.bool true)], args := [d1, d2, d3] }
  | _ => none }
def markRacesRow : OpenClaim := { program := "ytpeagenjmmkohaa", sum := "c2606d76fea5d959f6381c03d50a1217e9f0d6d1358056190bf45d910fb776aa", func := "backstitch/backstitchkeep3.MarkRaces", spec := "markRaces", unfollowed := true, recurses := true, apart := false }
def MarkRacesSaid : Prop := markRacesRow.holds Try.pinned (OpenSpec.ofChange markRacesSpec)

/-- ITS FALSE NEIGHBOUR: 'it returns false'. Refute it at one input. -/
def markRacesWrong : ChangeSpec := { name := "markRaces", fn := fun _ => fun
  | [d1, d2, d3] => { results := [.lit (.bool false)], args := [d1, d2, d3] }
  | _ => none }
def MarkRacesWrongFalsely : Prop := markRacesRow.holds Try.pinned (OpenSpec.ofChange markRacesWrong)

/- THE SECOND FORM. 'bulk': how many values and letters a reading holds, each counted each time it is reached (what is shared counts as often as it is met; a slice's spare places count too). A statement '..UptoSaid' is the law's where the arguments, and the package variables that the reading takes, are together of bulk at most 1048576: NARROWER than '..Said'. Prove '..Said' where nothing that the law and all that it calls make is longer than what came in: it says more and counts as full. Else prove '..UptoSaid'. A law counts once. -/
mutual
def uptoBulk {H : Type} : DataW H → Nat
  | .lit (.string bytes) => bytes.length + 1
  | .lit _ => 1
  | .nil => 1
  | .ptr d => uptoBulk d + 1
  | .slice elems spare => uptoBulkAll elems + uptoBulkAll spare + 1
  | .agg parts => uptoBulkAll parts + 1
  | .iface _ d => uptoBulk d + 1
  | .map entries => uptoBulkEntries entries + 1
  | .held _ => 1
def uptoBulkAll {H : Type} : List (DataW H) → Nat
  | [] => 0
  | d :: r => uptoBulk d + uptoBulkAll r
def uptoBulkEntries {H : Type} : List (Lit × DataW H) → Nat
  | [] => 0
  | x :: r => uptoBulkEntry x + uptoBulkEntries r
def uptoBulkEntry {H : Type} : Lit × DataW H → Nat
  | (.string bytes, d) => bytes.length + uptoBulk d + 1
  | (_, d) => uptoBulk d + 1
 end
def uptoSmall : (H : Type) → List (DataW H) → Bool := fun _ ds => decide (uptoBulkAll ds ≤ 1048576)
def OpenSpec.upto (s : _root_.Go.ChangeSpec) : _root_.Go.OpenSpec := { _root_.Go.OpenSpec.ofChange s with cond := some uptoSmall }

/-- 'backstitchkeep3.GensCounts', WHERE WHAT IT READS IS OF BULK AT MOST 1048576: true; the input reads as it did. -/
def gensCountsUptoRow : OpenClaim := { program := "ytpeagenjmmkohaa", sum := "c2606d76fea5d959f6381c03d50a1217e9f0d6d1358056190bf45d910fb776aa", func := "backstitch/backstitchkeep3.GensCounts", spec := "gensCounts", unfollowed := true, recurses := true, apart := false, narrowed := true }
def GensCountsUptoSaid : Prop := gensCountsUptoRow.holds Try.pinned (OpenSpec.upto gensCountsSpec)

/-- 'backstitchkeep3.GensAny', WHERE WHAT IT READS IS OF BULK AT MOST 1048576: true; the input reads as it did. -/
def gensAnyUptoRow : OpenClaim := { program := "ytpeagenjmmkohaa", sum := "c2606d76fea5d959f6381c03d50a1217e9f0d6d1358056190bf45d910fb776aa", func := "backstitch/backstitchkeep3.GensAny", spec := "gensAny", unfollowed := true, recurses := true, apart := false, narrowed := true }
def GensAnyUptoSaid : Prop := gensAnyUptoRow.holds Try.pinned (OpenSpec.upto gensAnySpec)

/-- 'backstitchkeep3.GensKeeps', WHERE WHAT IT READS IS OF BULK AT MOST 1048576: true; the input reads as it did. -/
def gensKeepsUptoRow : OpenClaim := { program := "ytpeagenjmmkohaa", sum := "c2606d76fea5d959f6381c03d50a1217e9f0d6d1358056190bf45d910fb776aa", func := "backstitch/backstitchkeep3.GensKeeps", spec := "gensKeeps", unfollowed := true, recurses := true, apart := false, narrowed := true }
def GensKeepsUptoSaid : Prop := gensKeepsUptoRow.holds Try.pinned (OpenSpec.upto gensKeepsSpec)

/-- 'backstitchkeep3.GensBarrier', WHERE WHAT IT READS IS OF BULK AT MOST 1048576: true; the input reads as it did. -/
def gensBarrierUptoRow : OpenClaim := { program := "ytpeagenjmmkohaa", sum := "c2606d76fea5d959f6381c03d50a1217e9f0d6d1358056190bf45d910fb776aa", func := "backstitch/backstitchkeep3.GensBarrier", spec := "gensBarrier", unfollowed := true, recurses := true, apart := false, narrowed := true }
def GensBarrierUptoSaid : Prop := gensBarrierUptoRow.holds Try.pinned (OpenSpec.upto gensBarrierSpec)

/-- 'backstitchkeep3.MarkSteps', WHERE WHAT IT READS IS OF BULK AT MOST 1048576: true; the input reads as it did. -/
def markStepsUptoRow : OpenClaim := { program := "ytpeagenjmmkohaa", sum := "c2606d76fea5d959f6381c03d50a1217e9f0d6d1358056190bf45d910fb776aa", func := "backstitch/backstitchkeep3.MarkSteps", spec := "markSteps", unfollowed := true, recurses := true, apart := false, narrowed := true }
def MarkStepsUptoSaid : Prop := markStepsUptoRow.holds Try.pinned (OpenSpec.upto markStepsSpec)

/-- 'backstitchkeep3.MarkKeeps', WHERE WHAT IT READS IS OF BULK AT MOST 1048576: true; the input reads as it did. -/
def markKeepsUptoRow : OpenClaim := { program := "ytpeagenjmmkohaa", sum := "c2606d76fea5d959f6381c03d50a1217e9f0d6d1358056190bf45d910fb776aa", func := "backstitch/backstitchkeep3.MarkKeeps", spec := "markKeeps", unfollowed := true, recurses := true, apart := false, narrowed := true }
def MarkKeepsUptoSaid : Prop := markKeepsUptoRow.holds Try.pinned (OpenSpec.upto markKeepsSpec)

/-- 'backstitchkeep3.MarkColours', WHERE WHAT IT READS IS OF BULK AT MOST 1048576: true; the input reads as it did. -/
def markColoursUptoRow : OpenClaim := { program := "ytpeagenjmmkohaa", sum := "c2606d76fea5d959f6381c03d50a1217e9f0d6d1358056190bf45d910fb776aa", func := "backstitch/backstitchkeep3.MarkColours", spec := "markColours", unfollowed := true, recurses := true, apart := false, narrowed := true }
def MarkColoursUptoSaid : Prop := markColoursUptoRow.holds Try.pinned (OpenSpec.upto markColoursSpec)

/-- 'backstitchkeep3.MarkRaces', WHERE WHAT IT READS IS OF BULK AT MOST 1048576: true; the input reads as it did. -/
def markRacesUptoRow : OpenClaim := { program := "ytpeagenjmmkohaa", sum := "c2606d76fea5d959f6381c03d50a1217e9f0d6d1358056190bf45d910fb776aa", func := "backstitch/backstitchkeep3.MarkRaces", spec := "markRaces", unfollowed := true, recurses := true, apart := false, narrowed := true }
def MarkRacesUptoSaid : Prop := markRacesUptoRow.holds Try.pinned (OpenSpec.upto markRacesSpec)

end Rows
end Go.Proofs.Ytpeagenjmmkohaa
