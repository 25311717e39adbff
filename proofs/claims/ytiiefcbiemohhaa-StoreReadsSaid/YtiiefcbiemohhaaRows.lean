/-
  No cell of these rows narrows 'for every input' (looked for: loops, veiled, ifaces, maps, wideKeys, modest, calm, conditions, laid).
  DERIVED. THE GIVEN ROWS OF THIS SEAT. 4 by the template 'for every input the law returns true; each argument reads behind the call as it read before'; 0 by the template 'total and deterministic' (their statements: YtiiefcbiemohhaaTotals.lean).
  GIVEN WITH THE SEED: the statements are not yours to turn. If you find one false, say at which input.
  Laid BY PROGRAM, IN A SANDBOX (cutbox-rows.mjs): the forced cells as the released guide's own fill.sh prints them over the translation ea113ca215d37292… (all of the seat's roots in one cut). By AI agents, Wed Nov 11 2026. No macro, syntax, notation, axiom, sorry.
-/
import Derived.Test.YtiiefcbiemohhaaChecked
import GoSem.Claim
import GoSem.ClaimJoined
import GoSem.ClaimMapViews
import Derived.JoinedTies
import Derived.KernelRfl
namespace Go.Proofs.Ytiiefcbiemohhaa
/- THE CELL 'sum', in the pinned program and in every row, IS THE sha256 OF THE DUMP (.gsa) THAT YtiiefcbiemohhaaProg.lean LOADS. Nothing in Lean hashes anything: it is a label: what it is worth is what the hold of that sum in a sandbox is worth. -/
noncomputable def Try.pinned : Pinned := { name := "ytiiefcbiemohhaa", sum := "ea113ca215d37292f7e694c663128ca444c5d341cf18be93c119aec91fa90d81", checked := Try.checked }
namespace Rows
def none {H : Type} : Left H := { results := [], args := [] }

/-- 'backstitchkeep3.StoreGone': WHATEVER THE INPUT: true; the input reads as it did. -/
def storeGoneSpec : ChangeSpec := { name := "storeGone", fn := fun _ => fun
  | [d] => { results := [.lit (.bool true)], args := [d] }
  | _ => none }
def storeGoneRow : OpenClaim := { program := "ytiiefcbiemohhaa", sum := "ea113ca215d37292f7e694c663128ca444c5d341cf18be93c119aec91fa90d81", func := "backstitch/backstitchkeep3.StoreGone", spec := "storeGone", unfollowed := true, recurses := true, apart := false }
def StoreGoneSaid : Prop := storeGoneRow.holds Try.pinned (OpenSpec.ofChange storeGoneSpec)

/-- ITS FALSE NEIGHBOUR: 'it returns false'. Refute it at one input. -/
def storeGoneWrong : ChangeSpec := { name := "storeGone", fn := fun _ => fun
  | [d] => { results := [.lit (.bool false)], args := [d] }
  | _ => none }
def StoreGoneWrongFalsely : Prop := storeGoneRow.holds Try.pinned (OpenSpec.ofChange storeGoneWrong)

/-- 'backstitchkeep3.StoreReads': WHATEVER THE INPUT: true; the input reads as it did. -/
def storeReadsSpec : ChangeSpec := { name := "storeReads", fn := fun _ => fun
  | [d1, d2, d3, d4] => { results := [.lit (.bool true)], args := [d1, d2, d3, d4] }
  | _ => none }
def storeReadsRow : OpenClaim := { program := "ytiiefcbiemohhaa", sum := "ea113ca215d37292f7e694c663128ca444c5d341cf18be93c119aec91fa90d81", func := "backstitch/backstitchkeep3.StoreReads", spec := "storeReads", unfollowed := true, recurses := true, apart := false }
def StoreReadsSaid : Prop := storeReadsRow.holds Try.pinned (OpenSpec.ofChange storeReadsSpec)

/-- ITS FALSE NEIGHBOUR: 'it returns false'. Refute it at one input. -/
def storeReadsWrong : ChangeSpec := { name := "storeReads", fn := fun _ => fun
  | [d1, d2, d3, d4] => { results := [.lit (.bool false)], args := [d1, d2, d3, d4] }
  | _ => none }
def StoreReadsWrongFalsely : Prop := storeReadsRow.holds Try.pinned (OpenSpec.ofChange storeReadsWrong)

/-- 'backstitchkeep3.StoreMoves': WHATEVER THE INPUT: true; the input reads as it did. -/
def storeMovesSpec : ChangeSpec := { name := "storeMoves", fn := fun _ => fun
  | [d1, d2, d3] => { results := [.lit (.bool true)], args := [d1, d2, d3] }
  | _ => none }
def storeMovesRow : OpenClaim := { program := "ytiiefcbiemohhaa", sum := "ea113ca215d37292f7e694c663128ca444c5d341cf18be93c119aec91fa90d81", func := "backstitch/backstitchkeep3.StoreMoves", spec := "storeMoves", unfollowed := true, recurses := true, apart := false }
def StoreMovesSaid : Prop := storeMovesRow.holds Try.pinned (OpenSpec.ofChange storeMovesSpec)

/-- ITS FALSE NEIGHBOUR: 'it returns false'. Refute it at one input. -/
def storeMovesWrong : ChangeSpec := { name := "storeMoves", fn := fun _ => fun
  | [d1, d2, d3] => { results := [.lit (.bool false)], args := [d1, d2, d3] }
  | _ => none }
def StoreMovesWrongFalsely : Prop := storeMovesRow.holds Try.pinned (OpenSpec.ofChange storeMovesWrong)

/-- 'backstitchkeep3.StoreNeeds': WHATEVER THE INPUT: true; the input reads as it did. -/
def storeNeedsSpec : ChangeSpec := { name := "storeNeeds", fn := fun _ => fun
  | [d1, d2] => { results := [.lit (.bool true)], args := [d1, d2] }
  | _ => none }
def storeNeedsRow : OpenClaim := { program := "ytiiefcbiemohhaa", sum := "ea113ca215d37292f7e694c663128ca444c5d341cf18be93c119aec91fa90d81", func := "backstitch/backstitchkeep3.StoreNeeds", spec := "storeNeeds", unfollowed := true, recurses := true, apart := false }
def StoreNeedsSaid : Prop := storeNeedsRow.holds Try.pinned (OpenSpec.ofChange storeNeedsSpec)

/-- ITS FALSE NEIGHBOUR: 'it returns false'. Refute it at one input. -/
def storeNeedsWrong : ChangeSpec := { name := "storeNeeds", fn := fun _ => fun
  | [d1, d2] => { results := [.lit (.bool false)], args := [d1, d2] }
  | _ => none }
def StoreNeedsWrongFalsely : Prop := storeNeedsRow.holds Try.pinned (OpenSpec.ofChange storeNeedsWrong)

/- THE SECOND FORM. 'bulk': how many values and letters a reading holds, each counted each time it is reached (what is shared counts as often as it is met; a slice's spare places count too). A statement '..UptoSaid' is the law's where the arguments, and the package variables that the reading takes, are together of bulk at most 1048576: NARROWER than '..Said'. Prove '..Said' where nothing that the law and all that it calls make is longer than what came in: it says more and counts as full. Else prove '..UptoSaid'. A law counts once. -/
mutual
def uptoBulk {H : Type} : DataW H → Nat
  | .lit (.string bytes) => bytes.length + 1
  | .lit _ => 1
  | .nil => 1
  | .ptr d => uptoBulk d + 1
  | .slice elems spare => uptoBulkAll elems + uptoBulkAll spare + 1
  | .agg parts => uptoBulkAll parts + 1
  | .iface _ d => uptoBulk d + 1
  | .map entries => uptoBulkEntries entries + 1
  | .held _ => 1
def uptoBulkAll {H : Type} : List (DataW H) → Nat
  | [] => 0
  | d :: r => uptoBulk d + uptoBulkAll r
def uptoBulkEntries {H : Type} : List (Lit × DataW H) → Nat
  | [] => 0
  | x :: r => uptoBulkEntry x + uptoBulkEntries r
def uptoBulkEntry {H : Type} : Lit × DataW H → Nat
  | (.string bytes, d) => bytes.length + uptoBulk d + 1
  | (_, d) => uptoBulk d + 1
 end
def uptoSmall : (H : Type) → List (DataW H) → Bool := fun _ ds => decide (uptoBulkAll ds ≤ 1048576)
def OpenSpec.upto (s : _root_.Go.ChangeSpec) : _root_.Go.OpenSpec := { _root_.Go.OpenSpec.ofChange s with cond := some uptoSmall }

/-- 'backstitchkeep3.StoreGone', WHERE WHAT IT READS IS OF BULK AT MOST 1048576: true; the input reads as it did. -/
def storeGoneUptoRow : OpenClaim := { program := "ytiiefcbiemohhaa", sum := "ea113ca215d37292f7e694c663128ca444c5d341cf18be93c119aec91fa90d81", func := "backstitch/backstitchkeep3.StoreGone", spec := "storeGone", unfollowed := true, recurses := true, apart := false, narrowed := true }
def StoreGoneUptoSaid : Prop := storeGoneUptoRow.holds Try.pinned (OpenSpec.upto storeGoneSpec)

/-- 'backstitchkeep3.StoreReads', WHERE WHAT IT READS IS OF BULK AT MOST 1048576: true; the input reads as it did. -/
def storeReadsUptoRow : OpenClaim := { program := "ytiiefcbiemohhaa", sum := "ea113ca215d37292f7e694c663128ca444c5d341cf18be93c119aec91fa90d81", func := "backstitch/backstitchkeep3.StoreReads", spec := "storeReads", unfollowed := true, recurses := true, apart := false, narrowed := true }
def StoreReadsUptoSaid : Prop := storeReadsUptoRow.holds Try.pinned (OpenSpec.upto storeReadsSpec)

/-- 'backstitchkeep3.StoreMoves', WHERE WHAT IT READS IS OF BULK AT MOST 1048576: true; the input reads as it did. -/
def storeMovesUptoRow : OpenClaim := { program := "ytiiefcbiemohhaa", sum := "ea113ca215d37292f7e694c663128ca444c5d341cf18be93c119aec91fa90d81", func := "backstitch/backstitchkeep3.StoreMoves", spec := "storeMoves", unfollowed := true, recurses := true, apart := false, narrowed := true }
def StoreMovesUptoSaid : Prop := storeMovesUptoRow.holds Try.pinned (OpenSpec.upto storeMovesSpec)

/-- 'backstitchkeep3.StoreNeeds', WHERE WHAT IT READS IS OF BULK AT MOST 1048576: true; the input reads as it did. -/
def storeNeedsUptoRow : OpenClaim := { program := "ytiiefcbiemohhaa", sum := "ea113ca215d37292f7e694c663128ca444c5d341cf18be93c119aec91fa90d81", func := "backstitch/backstitchkeep3.StoreNeeds", spec := "storeNeeds", unfollowed := true, recurses := true, apart := false, narrowed := true }
def StoreNeedsUptoSaid : Prop := storeNeedsUptoRow.holds Try.pinned (OpenSpec.upto storeNeedsSpec)

end Rows
end Go.Proofs.Ytiiefcbiemohhaa
