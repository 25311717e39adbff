/-
  No cell of these rows narrows 'for every input' (looked for: loops, veiled, ifaces, maps, wideKeys, modest, calm, conditions, laid).
  DERIVED. THE GIVEN ROWS OF THIS SEAT. 6 by the template 'for every input the law returns true; each argument reads behind the call as it read before'; 0 by the template 'total and deterministic' (their statements: YtfmllmcjinjfaaaTotals.lean).
  GIVEN WITH THE SEED: the statements are not yours to turn. If you find one false, say at which input.
  Laid BY PROGRAM, IN A SANDBOX (cutbox-rows.mjs): the forced cells as the released guide's own fill.sh prints them over the translation e30c70e041c31ad7… (all of the seat's roots in one cut). By AI agents, Wed Nov 11 2026. No macro, syntax, notation, axiom, sorry.
-/
import Derived.Test.YtfmllmcjinjfaaaChecked
import GoSem.Claim
import GoSem.ClaimJoined
import GoSem.ClaimMapViews
import Derived.JoinedTies
import Derived.KernelRfl
namespace Go.Proofs.Ytfmllmcjinjfaaa
/- THE CELL 'sum', in the pinned program and in every row, IS THE sha256 OF THE DUMP (.gsa) THAT YtfmllmcjinjfaaaProg.lean LOADS. Nothing in Lean hashes anything: it is a label: what it is worth is what the hold of that sum in a sandbox is worth. -/
noncomputable def Try.pinned : Pinned := { name := "ytfmllmcjinjfaaa", sum := "e30c70e041c31ad7eebe561303d619a16dd1d1cc7377147013dd4343d139fd2e", checked := Try.checked }
namespace Rows
def none {H : Type} : Left H := { results := [], args := [] }

/-- 'backstitchkeep3.OwnsEdges': WHATEVER THE INPUT: true; the input reads as it did. -/
def ownsEdgesSpec : ChangeSpec := { name := "ownsEdges", fn := fun _ => fun
  | [d] => { results := [.lit (.bool true)], args := [d] }
  | _ => none }
def ownsEdgesRow : OpenClaim := { program := "ytfmllmcjinjfaaa", sum := "e30c70e041c31ad7eebe561303d619a16dd1d1cc7377147013dd4343d139fd2e", func := "backstitch/backstitchkeep3.OwnsEdges", spec := "ownsEdges", recurses := true, apart := false }
def OwnsEdgesSaid : Prop := ownsEdgesRow.holds Try.pinned (OpenSpec.ofChange ownsEdgesSpec)

/-- ITS FALSE NEIGHBOUR: 'it returns false'. Refute it at one input. -/
def ownsEdgesWrong : ChangeSpec := { name := "ownsEdges", fn := fun _ => fun
  | [d] => { results := [.lit (.bool false)], args := [d] }
  | _ => none }
def OwnsEdgesWrongFalsely : Prop := ownsEdgesRow.holds Try.pinned (OpenSpec.ofChange ownsEdgesWrong)

/-- 'backstitchkeep3.OwnsTree': WHATEVER THE INPUT: true; the input reads as it did. -/
def ownsTreeSpec : ChangeSpec := { name := "ownsTree", fn := fun _ => fun
  | [d] => { results := [.lit (.bool true)], args := [d] }
  | _ => none }
def ownsTreeRow : OpenClaim := { program := "ytfmllmcjinjfaaa", sum := "e30c70e041c31ad7eebe561303d619a16dd1d1cc7377147013dd4343d139fd2e", func := "backstitch/backstitchkeep3.OwnsTree", spec := "ownsTree", unfollowed := true, recurses := true, apart := false }
def OwnsTreeSaid : Prop := ownsTreeRow.holds Try.pinned (OpenSpec.ofChange ownsTreeSpec)

/-- ITS FALSE NEIGHBOUR: 'it returns false'. Refute it at one input. -/
def ownsTreeWrong : ChangeSpec := { name := "ownsTree", fn := fun _ => fun
  | [d] => { results := [.lit (.bool false)], args := [d] }
  | _ => none }
def OwnsTreeWrongFalsely : Prop := ownsTreeRow.holds Try.pinned (OpenSpec.ofChange ownsTreeWrong)

/-- 'backstitchkeep3.OwnsAway': WHATEVER THE INPUT: true; the input reads as it did. -/
def ownsAwaySpec : ChangeSpec := { name := "ownsAway", fn := fun _ => fun
  | [d1, d2] => { results := [.lit (.bool true)], args := [d1, d2] }
  | _ => none }
def ownsAwayRow : OpenClaim := { program := "ytfmllmcjinjfaaa", sum := "e30c70e041c31ad7eebe561303d619a16dd1d1cc7377147013dd4343d139fd2e", func := "backstitch/backstitchkeep3.OwnsAway", spec := "ownsAway", unfollowed := true, recurses := true, apart := false }
def OwnsAwaySaid : Prop := ownsAwayRow.holds Try.pinned (OpenSpec.ofChange ownsAwaySpec)

/-- ITS FALSE NEIGHBOUR: 'it returns false'. Refute it at one input. -/
def ownsAwayWrong : ChangeSpec := { name := "ownsAway", fn := fun _ => fun
  | [d1, d2] => { results := [.lit (.bool false)], args := [d1, d2] }
  | _ => none }
def OwnsAwayWrongFalsely : Prop := ownsAwayRow.holds Try.pinned (OpenSpec.ofChange ownsAwayWrong)

/-- 'backstitchkeep3.EndsStay': WHATEVER THE INPUT: true; the input reads as it did. -/
def endsStaySpec : ChangeSpec := { name := "endsStay", fn := fun _ => fun
  | [d1, d2] => { results := [.lit (.bool true)], args := [d1, d2] }
  | _ => none }
def endsStayRow : OpenClaim := { program := "ytfmllmcjinjfaaa", sum := "e30c70e041c31ad7eebe561303d619a16dd1d1cc7377147013dd4343d139fd2e", func := "backstitch/backstitchkeep3.EndsStay", spec := "endsStay", unfollowed := true, recurses := true, apart := false }
def EndsStaySaid : Prop := endsStayRow.holds Try.pinned (OpenSpec.ofChange endsStaySpec)

/-- ITS FALSE NEIGHBOUR: 'it returns false'. Refute it at one input. -/
def endsStayWrong : ChangeSpec := { name := "endsStay", fn := fun _ => fun
  | [d1, d2] => { results := [.lit (.bool false)], args := [d1, d2] }
  | _ => none }
def EndsStayWrongFalsely : Prop := endsStayRow.holds Try.pinned (OpenSpec.ofChange endsStayWrong)

/-- 'backstitchkeep3.EndsOrder': WHATEVER THE INPUT: true; the input reads as it did. -/
def endsOrderSpec : ChangeSpec := { name := "endsOrder", fn := fun _ => fun
  | [d1, d2] => { results := [.lit (.bool true)], args := [d1, d2] }
  | _ => none }
def endsOrderRow : OpenClaim := { program := "ytfmllmcjinjfaaa", sum := "e30c70e041c31ad7eebe561303d619a16dd1d1cc7377147013dd4343d139fd2e", func := "backstitch/backstitchkeep3.EndsOrder", spec := "endsOrder", unfollowed := true, recurses := true, apart := false }
def EndsOrderSaid : Prop := endsOrderRow.holds Try.pinned (OpenSpec.ofChange endsOrderSpec)

/-- ITS FALSE NEIGHBOUR: 'it returns false'. Refute it at one input. -/
def endsOrderWrong : ChangeSpec := { name := "endsOrder", fn := fun _ => fun
  | [d1, d2] => { results := [.lit (.bool false)], args := [d1, d2] }
  | _ => none }
def EndsOrderWrongFalsely : Prop := endsOrderRow.holds Try.pinned (OpenSpec.ofChange endsOrderWrong)

/-- 'backstitchkeep3.EndsOnce': WHATEVER THE INPUT: true; the input reads as it did. -/
def endsOnceSpec : ChangeSpec := { name := "endsOnce", fn := fun _ => fun
  | [d1, d2] => { results := [.lit (.bool true)], args := [d1, d2] }
  | _ => none }
def endsOnceRow : OpenClaim := { program := "ytfmllmcjinjfaaa", sum := "e30c70e041c31ad7eebe561303d619a16dd1d1cc7377147013dd4343d139fd2e", func := "backstitch/backstitchkeep3.EndsOnce", spec := "endsOnce", unfollowed := true, recurses := true, apart := false }
def EndsOnceSaid : Prop := endsOnceRow.holds Try.pinned (OpenSpec.ofChange endsOnceSpec)

/-- ITS FALSE NEIGHBOUR: 'it returns false'. Refute it at one input. -/
def endsOnceWrong : ChangeSpec := { name := "endsOnce", fn := fun _ => fun
  | [d1, d2] => { results := [.lit (.bool false)], args := [d1, d2] }
  | _ => none }
def EndsOnceWrongFalsely : Prop := endsOnceRow.holds Try.pinned (OpenSpec.ofChange endsOnceWrong)

/- THE SECOND FORM. 'bulk': how many values and letters a reading holds, each counted each time it is reached (what is shared counts as often as it is met; a slice's spare places count too). A statement '..UptoSaid' is the law's where the arguments, and the package variables that the reading takes, are together of bulk at most 1048576: NARROWER than '..Said'. Prove '..Said' where nothing that the law and all that it calls make is longer than what came in: it says more and counts as full. Else prove '..UptoSaid'. A law counts once. -/
mutual
def uptoBulk {H : Type} : DataW H → Nat
  | .lit (.string bytes) => bytes.length + 1
  | .lit _ => 1
  | .nil => 1
  | .ptr d => uptoBulk d + 1
  | .slice elems spare => uptoBulkAll elems + uptoBulkAll spare + 1
  | .agg parts => uptoBulkAll parts + 1
  | .iface _ d => uptoBulk d + 1
  | .map entries => uptoBulkEntries entries + 1
  | .held _ => 1
def uptoBulkAll {H : Type} : List (DataW H) → Nat
  | [] => 0
  | d :: r => uptoBulk d + uptoBulkAll r
def uptoBulkEntries {H : Type} : List (Lit × DataW H) → Nat
  | [] => 0
  | x :: r => uptoBulkEntry x + uptoBulkEntries r
def uptoBulkEntry {H : Type} : Lit × DataW H → Nat
  | (.string bytes, d) => bytes.length + uptoBulk d + 1
  | (_, d) => uptoBulk d + 1
 end
def uptoSmall : (H : Type) → List (DataW H) → Bool := fun _ ds => decide (uptoBulkAll ds ≤ 1048576)
def OpenSpec.upto (s : _root_.Go.ChangeSpec) : _root_.Go.OpenSpec := { _root_.Go.OpenSpec.ofChange s with cond := some uptoSmall }

/-- 'backstitchkeep3.OwnsEdges', WHERE WHAT IT READS IS OF BULK AT MOST 1048576: true; the input reads as it did. -/
def ownsEdgesUptoRow : OpenClaim := { program := "ytfmllmcjinjfaaa", sum := "e30c70e041c31ad7eebe561303d619a16dd1d1cc7377147013dd4343d139fd2e", func := "backstitch/backstitchkeep3.OwnsEdges", spec := "ownsEdges", recurses := true, apart := false, narrowed := true }
def OwnsEdgesUptoSaid : Prop := ownsEdgesUptoRow.holds Try.pinned (OpenSpec.upto ownsEdgesSpec)

/-- 'backstitchkeep3.OwnsTree', WHERE WHAT IT READS IS OF BULK AT MOST 1048576: true; the input reads as it did. -/
def ownsTreeUptoRow : OpenClaim := { program := "ytfmllmcjinjfaaa", sum := "e30c70e041c31ad7eebe561303d619a16dd1d1cc7377147013dd4343d139fd2e", func := "backstitch/backstitchkeep3.OwnsTree", spec := "ownsTree", unfollowed := true, recurses := true, apart := false, narrowed := true }
def OwnsTreeUptoSaid : Prop := ownsTreeUptoRow.holds Try.pinned (OpenSpec.upto ownsTreeSpec)

/-- 'backstitchkeep3.OwnsAway', WHERE WHAT IT READS IS OF BULK AT MOST 1048576: true; the input reads as it did. -/
def ownsAwayUptoRow : OpenClaim := { program := "ytfmllmcjinjfaaa", sum := "e30c70e041c31ad7eebe561303d619a16dd1d1cc7377147013dd4343d139fd2e", func := "backstitch/backstitchkeep3.OwnsAway", spec := "ownsAway", unfollowed := true, recurses := true, apart := false, narrowed := true }
def OwnsAwayUptoSaid : Prop := ownsAwayUptoRow.holds Try.pinned (OpenSpec.upto ownsAwaySpec)

/-- 'backstitchkeep3.EndsStay', WHERE WHAT IT READS IS OF BULK AT MOST 1048576: true; the input reads as it did. -/
def endsStayUptoRow : OpenClaim := { program := "ytfmllmcjinjfaaa", sum := "e30c70e041c31ad7eebe561303d619a16dd1d1cc7377147013dd4343d139fd2e", func := "backstitch/backstitchkeep3.EndsStay", spec := "endsStay", unfollowed := true, recurses := true, apart := false, narrowed := true }
def EndsStayUptoSaid : Prop := endsStayUptoRow.holds Try.pinned (OpenSpec.upto endsStaySpec)

/-- 'backstitchkeep3.EndsOrder', WHERE WHAT IT READS IS OF BULK AT MOST 1048576: true; the input reads as it did. -/
def endsOrderUptoRow : OpenClaim := { program := "ytfmllmcjinjfaaa", sum := "e30c70e041c31ad7eebe561303d619a16dd1d1cc7377147013dd4343d139fd2e", func := "backstitch/backstitchkeep3.EndsOrder", spec := "endsOrder", unfollowed := true, recurses := true, apart := false, narrowed := true }
def EndsOrderUptoSaid : Prop := endsOrderUptoRow.holds Try.pinned (OpenSpec.upto endsOrderSpec)

/-- 'backstitchkeep3.EndsOnce', WHERE WHAT IT READS IS OF BULK AT MOST 1048576: true; the input reads as it did. -/
def endsOnceUptoRow : OpenClaim := { program := "ytfmllmcjinjfaaa", sum := "e30c70e041c31ad7eebe561303d619a16dd1d1cc7377147013dd4343d139fd2e", func := "backstitch/backstitchkeep3.EndsOnce", spec := "endsOnce", unfollowed := true, recurses := true, apart := false, narrowed := true }
def EndsOnceUptoSaid : Prop := endsOnceUptoRow.holds Try.pinned (OpenSpec.upto endsOnceSpec)

end Rows
end Go.Proofs.Ytfmllmcjinjfaaa
