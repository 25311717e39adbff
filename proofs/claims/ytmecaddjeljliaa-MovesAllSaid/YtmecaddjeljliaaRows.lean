/-
  No cell of these rows narrows 'for every input' (looked for: loops, veiled, ifaces, maps, wideKeys, modest, calm, conditions, laid).
  DERIVED. THE GIVEN ROWS OF THIS SEAT. 5 by the template 'for every input the law returns true; each argument reads behind the call as it read before'; 0 by the template 'total and deterministic' (their statements: YtmecaddjeljliaaTotals.lean).
  GIVEN WITH THE SEED: the statements are not yours to turn. If you find one false, say at which input.
  Laid BY PROGRAM, IN A SANDBOX (cutbox-rows.mjs): the forced cells as the released guide's own fill.sh prints them over the translation a2546e0b595412cb… (all of the seat's roots in one cut). By AI agents, Wed Nov 11 2026. No macro, syntax, notation, axiom, sorry.
-/
import Derived.Test.YtmecaddjeljliaaChecked
import GoSem.Claim
import GoSem.ClaimJoined
import GoSem.ClaimMapViews
import Derived.JoinedTies
import Derived.KernelRfl
namespace Go.Proofs.Ytmecaddjeljliaa
/- THE CELL 'sum', in the pinned program and in every row, IS THE sha256 OF THE DUMP (.gsa) THAT YtmecaddjeljliaaProg.lean LOADS. Nothing in Lean hashes anything: it is a label: what it is worth is what the hold of that sum in a sandbox is worth. -/
noncomputable def Try.pinned : Pinned := { name := "ytmecaddjeljliaa", sum := "a2546e0b595412cb78d4a60f7c5d20c224970bd2034eb2d004008ec9050b5f1e", checked := Try.checked }
namespace Rows
def none {H : Type} : Left H := { results := [], args := [] }

/-- 'backstitchkeep3.LeaveMakes': WHATEVER THE INPUT: true; the input reads as it did. -/
def leaveMakesSpec : ChangeSpec := { name := "leaveMakes", fn := fun _ => fun
  | [d1, d2, d3] => { results := [.lit (.bool true)], args := [d1, d2, d3] }
  | _ => none }
def leaveMakesRow : OpenClaim := { program := "ytmecaddjeljliaa", sum := "a2546e0b595412cb78d4a60f7c5d20c224970bd2034eb2d004008ec9050b5f1e", func := "backstitch/backstitchkeep3.LeaveMakes", spec := "leaveMakes", apart := false }
def LeaveMakesSaid : Prop := leaveMakesRow.holds Try.pinned (OpenSpec.ofChange leaveMakesSpec)

/-- ITS FALSE NEIGHBOUR: 'it returns false'. Refute it at one input. -/
def leaveMakesWrong : ChangeSpec := { name := "leaveMakes", fn := fun _ => fun
  | [d1, d2, d3] => { results := [.lit (.bool false)], args := [d1, d2, d3] }
  | _ => none }
def LeaveMakesWrongFalsely : Prop := leaveMakesRow.holds Try.pinned (OpenSpec.ofChange leaveMakesWrong)

/-- 'backstitchkeep3.LeaveBare': WHATEVER THE INPUT: true; the input reads as it did. -/
def leaveBareSpec : ChangeSpec := { name := "leaveBare", fn := fun _ => fun
  | [d1, d2, d3, d4] => { results := [.lit (.bool true)], args := [d1, d2, d3, d4] }
  | _ => none }
def leaveBareRow : OpenClaim := { program := "ytmecaddjeljliaa", sum := "a2546e0b595412cb78d4a60f7c5d20c224970bd2034eb2d004008ec9050b5f1e", func := "backstitch/backstitchkeep3.LeaveBare", spec := "leaveBare", apart := false }
def LeaveBareSaid : Prop := leaveBareRow.holds Try.pinned (OpenSpec.ofChange leaveBareSpec)

/-- ITS FALSE NEIGHBOUR: 'it returns false'. Refute it at one input. -/
def leaveBareWrong : ChangeSpec := { name := "leaveBare", fn := fun _ => fun
  | [d1, d2, d3, d4] => { results := [.lit (.bool false)], args := [d1, d2, d3, d4] }
  | _ => none }
def LeaveBareWrongFalsely : Prop := leaveBareRow.holds Try.pinned (OpenSpec.ofChange leaveBareWrong)

/-- 'backstitchkeep3.LeaveOut': WHATEVER THE INPUT: true; the input reads as it did. -/
def leaveOutSpec : ChangeSpec := { name := "leaveOut", fn := fun _ => fun
  | [d1, d2, d3, d4] => { results := [.lit (.bool true)], args := [d1, d2, d3, d4] }
  | _ => none }
def leaveOutRow : OpenClaim := { program := "ytmecaddjeljliaa", sum := "a2546e0b595412cb78d4a60f7c5d20c224970bd2034eb2d004008ec9050b5f1e", func := "backstitch/backstitchkeep3.LeaveOut", spec := "leaveOut", apart := false }
def LeaveOutSaid : Prop := leaveOutRow.holds Try.pinned (OpenSpec.ofChange leaveOutSpec)

/-- ITS FALSE NEIGHBOUR: 'it returns false'. Refute it at one input. -/
def leaveOutWrong : ChangeSpec := { name := "leaveOut", fn := fun _ => fun
  | [d1, d2, d3, d4] => { results := [.lit (.bool false)], args := [d1, d2, d3, d4] }
  | _ => none }
def LeaveOutWrongFalsely : Prop := leaveOutRow.holds Try.pinned (OpenSpec.ofChange leaveOutWrong)

/-- 'backstitchkeep3.MovesIdle': WHATEVER THE INPUT: true; the input reads as it did. -/
def movesIdleSpec : ChangeSpec := { name := "movesIdle", fn := fun _ => fun
  | [d1, d2] => { results := [.lit (.bool true)], args := [d1, d2] }
  | _ => none }
def movesIdleRow : OpenClaim := { program := "ytmecaddjeljliaa", sum := "a2546e0b595412cb78d4a60f7c5d20c224970bd2034eb2d004008ec9050b5f1e", func := "backstitch/backstitchkeep3.MovesIdle", spec := "movesIdle", unfollowed := true, recurses := true, apart := false }
def MovesIdleSaid : Prop := movesIdleRow.holds Try.pinned (OpenSpec.ofChange movesIdleSpec)

/-- ITS FALSE NEIGHBOUR: 'it returns false'. Refute it at one input. -/
def movesIdleWrong : ChangeSpec := { name := "movesIdle", fn := fun _ => fun
  | [d1, d2] => { results := [.lit (.bool false)], args := [d1, d2] }
  | _ => none }
def MovesIdleWrongFalsely : Prop := movesIdleRow.holds Try.pinned (OpenSpec.ofChange movesIdleWrong)

/-- 'backstitchkeep3.MovesAll': WHATEVER THE INPUT: true; the input reads as it did. -/
def movesAllSpec : ChangeSpec := { name := "movesAll", fn := fun _ => fun
  | [d1, d2, d3] => { results := [.lit (.bool true)], args := [d1, d2, d3] }
  | _ => none }
def movesAllRow : OpenClaim := { program := "ytmecaddjeljliaa", sum := "a2546e0b595412cb78d4a60f7c5d20c224970bd2034eb2d004008ec9050b5f1e", func := "backstitch/backstitchkeep3.MovesAll", spec := "movesAll", unfollowed := true, recurses := true, apart := false }
def MovesAllSaid : Prop := movesAllRow.holds Try.pinned (OpenSpec.ofChange movesAllSpec)

/-- ITS FALSE NEIGHBOUR: 'it returns false'. Refute it at one input. -/
def movesAllWrong : ChangeSpec := { name := "movesAll", fn := fun _ => fun
  | [d1, d2, d3] => { results := [.lit (.bool false)], args := [d1, d2, d3] }
  | _ => none }
def MovesAllWrongFalsely : Prop := movesAllRow.holds Try.pinned (OpenSpec.ofChange movesAllWrong)

/- THE SECOND FORM. 'bulk': how many values and letters a reading holds, each counted each time it is reached (what is shared counts as often as it is met; a slice's spare places count too). A statement '..UptoSaid' is the law's where the arguments, and the package variables that the reading takes, are together of bulk at most 1048576: NARROWER than '..Said'. Prove '..Said' where nothing that the law and all that it calls make is longer than what came in: it says more and counts as full. Else prove '..UptoSaid'. A law counts once. -/
mutual
def uptoBulk {H : Type} : DataW H → Nat
  | .lit (.string bytes) => bytes.length + 1
  | .lit _ => 1
  | .nil => 1
  | .ptr d => uptoBulk d + 1
  | .slice elems spare => uptoBulkAll elems + uptoBulkAll spare + 1
  | .agg parts => uptoBulkAll parts + 1
  | .iface _ d => uptoBulk d + 1
  | .map entries => uptoBulkEntries entries + 1
  | .held _ => 1
def uptoBulkAll {H : Type} : List (DataW H) → Nat
  | [] => 0
  | d :: r => uptoBulk d + uptoBulkAll r
def uptoBulkEntries {H : Type} : List (Lit × DataW H) → Nat
  | [] => 0
  | x :: r => uptoBulkEntry x + uptoBulkEntries r
def uptoBulkEntry {H : Type} : Lit × DataW H → Nat
  | (.string bytes, d) => bytes.length + uptoBulk d + 1
  | (_, d) => uptoBulk d + 1
 end
def uptoSmall : (H : Type) → List (DataW H) → Bool := fun _ ds => decide (uptoBulkAll ds ≤ 1048576)
def OpenSpec.upto (s : _root_.Go.ChangeSpec) : _root_.Go.OpenSpec := { _root_.Go.OpenSpec.ofChange s with cond := some uptoSmall }

/-- 'backstitchkeep3.LeaveMakes', WHERE WHAT IT READS IS OF BULK AT MOST 1048576: true; the input reads as it did. -/
def leaveMakesUptoRow : OpenClaim := { program := "ytmecaddjeljliaa", sum := "a2546e0b595412cb78d4a60f7c5d20c224970bd2034eb2d004008ec9050b5f1e", func := "backstitch/backstitchkeep3.LeaveMakes", spec := "leaveMakes", apart := false, narrowed := true }
def LeaveMakesUptoSaid : Prop := leaveMakesUptoRow.holds Try.pinned (OpenSpec.upto leaveMakesSpec)

/-- 'backstitchkeep3.LeaveBare', WHERE WHAT IT READS IS OF BULK AT MOST 1048576: true; the input reads as it did. -/
def leaveBareUptoRow : OpenClaim := { program := "ytmecaddjeljliaa", sum := "a2546e0b595412cb78d4a60f7c5d20c224970bd2034eb2d004008ec9050b5f1e", func := "backstitch/backstitchkeep3.LeaveBare", spec := "leaveBare", apart := false, narrowed := true }
def LeaveBareUptoSaid : Prop := leaveBareUptoRow.holds Try.pinned (OpenSpec.upto leaveBareSpec)

/-- 'backstitchkeep3.LeaveOut', WHERE WHAT IT READS IS OF BULK AT MOST 1048576: true; the input reads as it did. -/
def leaveOutUptoRow : OpenClaim := { program := "ytmecaddjeljliaa", sum := "a2546e0b595412cb78d4a60f7c5d20c224970bd2034eb2d004008ec9050b5f1e", func := "backstitch/backstitchkeep3.LeaveOut", spec := "leaveOut", apart := false, narrowed := true }
def LeaveOutUptoSaid : Prop := leaveOutUptoRow.holds Try.pinned (OpenSpec.upto leaveOutSpec)

/-- 'backstitchkeep3.MovesIdle', WHERE WHAT IT READS IS OF BULK AT MOST 1048576: true; the input reads as it did. -/
def movesIdleUptoRow : OpenClaim := { program := "ytmecaddjeljliaa", sum := "a2546e0b595412cb78d4a60f7c5d20c224970bd2034eb2d004008ec9050b5f1e", func := "backstitch/backstitchkeep3.MovesIdle", spec := "movesIdle", unfollowed := true, recurses := true, apart := false, narrowed := true }
def MovesIdleUptoSaid : Prop := movesIdleUptoRow.holds Try.pinned (OpenSpec.upto movesIdleSpec)

/-- 'backstitchkeep3.MovesAll', WHERE WHAT IT READS IS OF BULK AT MOST 1048576: true; the input reads as it did. -/
def movesAllUptoRow : OpenClaim := { program := "ytmecaddjeljliaa", sum := "a2546e0b595412cb78d4a60f7c5d20c224970bd2034eb2d004008ec9050b5f1e", func := "backstitch/backstitchkeep3.MovesAll", spec := "movesAll", unfollowed := true, recurses := true, apart := false, narrowed := true }
def MovesAllUptoSaid : Prop := movesAllUptoRow.holds Try.pinned (OpenSpec.upto movesAllSpec)

end Rows
end Go.Proofs.Ytmecaddjeljliaa
