/-
  No cell of these rows narrows 'for every input' (looked for: loops, veiled, ifaces, maps, wideKeys, modest, calm, conditions, laid).
  DERIVED. THE GIVEN ROWS OF THIS SEAT. 4 by the template 'for every input the law returns true; each argument reads behind the call as it read before'; 0 by the template 'total and deterministic' (their statements: YtblgljahhhdlhaaTotals.lean).
  GIVEN WITH THE SEED: the statements are not yours to turn. If you find one false, say at which input.
  Laid BY PROGRAM, IN A SANDBOX (cutbox-rows.mjs): the forced cells as the released guide's own fill.sh prints them over the translation 504319a837a2667b… (all of the seat's roots in one cut). By AI agents, Wed Nov 11 2026. No macro, syntax, notation, axiom, sorry.
-/
import Derived.Test.YtblgljahhhdlhaaChecked
import GoSem.Claim
import GoSem.ClaimJoined
import GoSem.ClaimMapViews
import Derived.JoinedTies
import Derived.KernelRfl
namespace Go.Proofs.Ytblgljahhhdlhaa
/- THE CELL 'sum', in the pinned program and in every row, IS THE sha256 OF THE DUMP (.gsa) THAT YtblgljahhhdlhaaProg.lean LOADS. Nothing in Lean hashes anything: it is a label: what it is worth is what the hold of that sum in a sandbox is worth. -/
noncomputable def Try.pinned : Pinned := { name := "ytblgljahhhdlhaa", sum := "504319a837a2667b8049e5587f81438ba38e82ad5fda0876bfaeb5e6406a4688", checked := Try.checked }
namespace Rows
def none {H : Type} : Left H := { results := [], args := [] }

/-- 'backstitchkeep3.GensCounts': WHATEVER THE INPUT: true; the input reads as it did. -/
def gensCountsSpec : ChangeSpec := { name := "gensCounts", fn := fun _ => fun
  | [d1, d2] => { results := [.lit (.bool true)], args := [d1, d2] }
  | _ => none }
def gensCountsRow : OpenClaim := { program := "ytblgljahhhdlhaa", sum := "504319a837a2667b8049e5587f81438ba38e82ad5fda0876bfaeb5e6406a4688", func := "backstitch/backstitchkeep3.GensCounts", spec := "gensCounts", unfollowed := true, recurses := true, apart := false }
def GensCountsSaid : Prop := gensCountsRow.holds Try.pinned (OpenSpec.ofChange gensCountsSpec)

/-- ITS FALSE NEIGHBOUR: 'it returns false'. Refute it at one input. -/
def gensCountsWrong : ChangeSpec := { name := "gensCounts", fn := fun _ => fun
  | [d1, d2] => { results := [.lit (.bool false)], args := [d1, d2] }
  | _ => none }
def GensCountsWrongFalsely : Prop := gensCountsRow.holds Try.pinned (OpenSpec.ofChange gensCountsWrong)

/-- 'backstitchkeep3.GensAny': WHATEVER THE INPUT: true; the input reads as it did. -/
def gensAnySpec : ChangeSpec := { name := "gensAny", fn := fun _ => fun
  | [d1, d2, d3] => { results := [.lit (.bool true)], args := [d1, d2, d3] }
  | _ => none }
def gensAnyRow : OpenClaim := { program := "ytblgljahhhdlhaa", sum := "504319a837a2667b8049e5587f81438ba38e82ad5fda0876bfaeb5e6406a4688", func := "backstitch/backstitchkeep3.GensAny", spec := "gensAny", unfollowed := true, recurses := true, apart := false }
def GensAnySaid : Prop := gensAnyRow.holds Try.pinned (OpenSpec.ofChange gensAnySpec)

/-- ITS FALSE NEIGHBOUR: 'it returns false'. Refute it at one input. -/
def gensAnyWrong : ChangeSpec := { name := "gensAny", fn := fun _ => fun
  | [d1, d2, d3] => { results := [.lit (.bool false)], args := [d1, d2, d3] }
  | _ => none }
def GensAnyWrongFalsely : Prop := gensAnyRow.holds Try.pinned (OpenSpec.ofChange gensAnyWrong)

/-- 'backstitchkeep3.GensKeeps': WHATEVER THE INPUT: true; the input reads as it did. -/
def gensKeepsSpec : ChangeSpec := { name := "gensKeeps", fn := fun _ => fun
  | [d1, d2] => { results := [.lit (.bool true)], args := [d1, d2] }
  | _ => none }
def gensKeepsRow : OpenClaim := { program := "ytblgljahhhdlhaa", sum := "504319a837a2667b8049e5587f81438ba38e82ad5fda0876bfaeb5e6406a4688", func := "backstitch/backstitchkeep3.GensKeeps", spec := "gensKeeps", unfollowed := true, recurses := true, apart := false }
def GensKeepsSaid : Prop := gensKeepsRow.holds Try.pinned (OpenSpec.ofChange gensKeepsSpec)

/-- ITS FALSE NEIGHBOUR: 'it returns false'. Refute it at one input. -/
def gensKeepsWrong : ChangeSpec := { name := "gensKeeps", fn := fun _ => fun
  | [d1, d2] => { results := [.lit (.bool false)], args := [d1, d2] }
  | _ => none }
def GensKeepsWrongFalsely : Prop := gensKeepsRow.holds Try.pinned (OpenSpec.ofChange gensKeepsWrong)

/-- 'backstitchkeep3.GensBarrier': WHATEVER THE INPUT: true; the input reads as it did. -/
def gensBarrierSpec : ChangeSpec := { name := "gensBarrier", fn := fun _ => fun
  | [d1, d2] => { results := [.lit (.bool true)], args := [d1, d2] }
  | _ => none }
def gensBarrierRow : OpenClaim := { program := "ytblgljahhhdlhaa", sum := "504319a837a2667b8049e5587f81438ba38e82ad5fda0876bfaeb5e6406a4688", func := "backstitch/backstitchkeep3.GensBarrier", spec := "gensBarrier", unfollowed := true, recurses := true, apart := false }
def GensBarrierSaid : Prop := gensBarrierRow.holds Try.pinned (OpenSpec.ofChange gensBarrierSpec)

/-- ITS FALSE NEIGHBOUR: 'it returns false'. Refute it at one input. -/
def gensBarrierWrong : ChangeSpec := { name := "gensBarrier", fn := fun _ => fun
  | [d1, d2] => { results := [.lit (.bool false)], args := [d1, d2] }
  | _ => none }
def GensBarrierWrongFalsely : Prop := gensBarrierRow.holds Try.pinned (OpenSpec.ofChange gensBarrierWrong)

/- THE SECOND FORM. 'bulk': how many values and letters a reading holds, each counted each time it is reached (what is shared counts as often as it is met; a slice's spare places count too). A statement '..UptoSaid' is the law's where the arguments, and the package variables that the reading takes, are together of bulk at most 1048576: NARROWER than '..Said'. Prove '..Said' where nothing that the law and all that it calls make is longer than what came in: it says more and counts as full. Else prove '..UptoSaid'. A law counts once. -/
mutual
def uptoBulk {H : Type} : DataW H → Nat
  | .lit (.string bytes) => bytes.length + 1
  | .lit _ => 1
  | .nil => 1
  | .ptr d => uptoBulk d + 1
  | .slice elems spare => uptoBulkAll elems + uptoBulkAll spare + 1
  | .agg parts => uptoBulkAll parts + 1
  | .iface _ d => uptoBulk d + 1
  | .map entries => uptoBulkEntries entries + 1
  | .held _ => 1
def uptoBulkAll {H : Type} : List (DataW H) → Nat
  | [] => 0
  | d :: r => uptoBulk d + uptoBulkAll r
def uptoBulkEntries {H : Type} : List (Lit × DataW H) → Nat
  | [] => 0
  | x :: r => uptoBulkEntry x + uptoBulkEntries r
def uptoBulkEntry {H : Type} : Lit × DataW H → Nat
  | (.string bytes, d) => bytes.length + uptoBulk d + 1
  | (_, d) => uptoBulk d + 1
 end
def uptoSmall : (H : Type) → List (DataW H) → Bool := fun _ ds => decide (uptoBulkAll ds ≤ 1048576)
def OpenSpec.upto (s : _root_.Go.ChangeSpec) : _root_.Go.OpenSpec := { _root_.Go.OpenSpec.ofChange s with cond := some uptoSmall }

/-- 'backstitchkeep3.GensCounts', WHERE WHAT IT READS IS OF BULK AT MOST 1048576: true; the input reads as it did. -/
def gensCountsUptoRow : OpenClaim := { program := "ytblgljahhhdlhaa", sum := "504319a837a2667b8049e5587f81438ba38e82ad5fda0876bfaeb5e6406a4688", func := "backstitch/backstitchkeep3.GensCounts", spec := "gensCounts", unfollowed := true, recurses := true, apart := false, narrowed := true }
def GensCountsUptoSaid : Prop := gensCountsUptoRow.holds Try.pinned (OpenSpec.upto gensCountsSpec)

/-- 'backstitchkeep3.GensAny', WHERE WHAT IT READS IS OF BULK AT MOST 1048576: true; the input reads as it did. -/
def gensAnyUptoRow : OpenClaim := { program := "ytblgljahhhdlhaa", sum := "504319a837a2667b8049e5587f81438ba38e82ad5fda0876bfaeb5e6406a4688", func := "backstitch/backstitchkeep3.GensAny", spec := "gensAny", unfollowed := true, recurses := true, apart := false, narrowed := true }
def GensAnyUptoSaid : Prop := gensAnyUptoRow.holds Try.pinned (OpenSpec.upto gensAnySpec)

/-- 'backstitchkeep3.GensKeeps', WHERE WHAT IT READS IS OF BULK AT MOST 1048576: true; the input reads as it did. -/
def gensKeepsUptoRow : OpenClaim := { program := "ytblgljahhhdlhaa", sum := "504319a837a2667b8049e5587f81438ba38e82ad5fda0876bfaeb5e6406a4688", func := "backstitch/backstitchkeep3.GensKeeps", spec := "gensKeeps", unfollowed := true, recurses := true, apart := false, narrowed := true }
def GensKeepsUptoSaid : Prop := gensKeepsUptoRow.holds Try.pinned (OpenSpec.upto gensKeepsSpec)

/-- 'backstitchkeep3.GensBarrier', WHERE WHAT IT READS IS OF BULK AT MOST 1048576: true; the input reads as it did. -/
def gensBarrierUptoRow : OpenClaim := { program := "ytblgljahhhdlhaa", sum := "504319a837a2667b8049e5587f81438ba38e82ad5fda0876bfaeb5e6406a4688", func := "backstitch/backstitchkeep3.GensBarrier", spec := "gensBarrier", unfollowed := true, recurses := true, apart := false, narrowed := true }
def GensBarrierUptoSaid : Prop := gensBarrierUptoRow.holds Try.pinned (OpenSpec.upto gensBarrierSpec)

end Rows
end Go.Proofs.Ytblgljahhhdlhaa
