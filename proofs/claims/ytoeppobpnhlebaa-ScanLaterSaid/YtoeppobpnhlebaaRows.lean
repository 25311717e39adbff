/-
  No cell of these rows narrows 'for every input' (looked for: loops, veiled, ifaces, maps, wideKeys, modest, calm, conditions, laid).
  DERIVED. THE GIVEN ROWS OF THIS SEAT. 6 by the template 'for every input the law returns true; each argument reads behind the call as it read before'; 0 by the template 'total and deterministic' (their statements: YtoeppobpnhlebaaTotals.lean).
  GIVEN WITH THE SEED: the statements are not yours to turn. If you find one false, say at which input.
  Laid BY PROGRAM, IN A SANDBOX (cutbox-rows.mjs): the forced cells as the released guide's own fill.sh prints them over the translation c8a36456d28ff71e… (all of the seat's roots in one cut). By AI agents, Wed Nov 11 2026. No macro, syntax, notation, axiom, sorry.
-/
import Derived.Test.YtoeppobpnhlebaaChecked
import GoSem.Claim
import GoSem.ClaimJoined
import GoSem.ClaimMapViews
import Derived.JoinedTies
import Derived.KernelRfl
namespace Go.Proofs.Ytoeppobpnhlebaa
/- THE CELL 'sum', in the pinned program and in every row, IS THE sha256 OF THE DUMP (.gsa) THAT YtoeppobpnhlebaaProg.lean LOADS. Nothing in Lean hashes anything: it is a label: what it is worth is what the hold of that sum in a sandbox is worth. -/
noncomputable def Try.pinned : Pinned := { name := "ytoeppobpnhlebaa", sum := "c8a36456d28ff71e773000737d0570fb383e482a39ac1cb0122e2696c97a075b", checked := Try.checked }
namespace Rows
def none {H : Type} : Left H := { results := [], args := [] }

/-- 'backstitchkeep3.LiveLoops': WHATEVER THE INPUT: true; the input reads as it did. -/
def liveLoopsSpec : ChangeSpec := { name := "liveLoops", fn := fun _ => fun
  | [d] => { results := [.lit (.bool true)], args := [d] }
  | _ => none }
def liveLoopsRow : OpenClaim := { program := "ytoeppobpnhlebaa", sum := "c8a36456d28ff71e773000737d0570fb383e482a39ac1cb0122e2696c97a075b", func := "backstitch/backstitchkeep3.LiveLoops", spec := "liveLoops", unfollowed := true, recurses := true, apart := false }
def LiveLoopsSaid : Prop := liveLoopsRow.holds Try.pinned (OpenSpec.ofChange liveLoopsSpec)

/-- ITS FALSE NEIGHBOUR: 'it returns false'. Refute it at one input. -/
def liveLoopsWrong : ChangeSpec := { name := "liveLoops", fn := fun _ => fun
  | [d] => { results := [.lit (.bool false)], args := [d] }
  | _ => none }
def LiveLoopsWrongFalsely : Prop := liveLoopsRow.holds Try.pinned (OpenSpec.ofChange liveLoopsWrong)

/-- 'backstitchkeep3.LiveLast': WHATEVER THE INPUT: true; the input reads as it did. -/
def liveLastSpec : ChangeSpec := { name := "liveLast", fn := fun _ => fun
  | [d] => { results := [.lit (.bool true)], args := [d] }
  | _ => none }
def liveLastRow : OpenClaim := { program := "ytoeppobpnhlebaa", sum := "c8a36456d28ff71e773000737d0570fb383e482a39ac1cb0122e2696c97a075b", func := "backstitch/backstitchkeep3.LiveLast", spec := "liveLast", unfollowed := true, recurses := true, apart := false }
def LiveLastSaid : Prop := liveLastRow.holds Try.pinned (OpenSpec.ofChange liveLastSpec)

/-- ITS FALSE NEIGHBOUR: 'it returns false'. Refute it at one input. -/
def liveLastWrong : ChangeSpec := { name := "liveLast", fn := fun _ => fun
  | [d] => { results := [.lit (.bool false)], args := [d] }
  | _ => none }
def LiveLastWrongFalsely : Prop := liveLastRow.holds Try.pinned (OpenSpec.ofChange liveLastWrong)

/-- 'backstitchkeep3.ScanMore': WHATEVER THE INPUT: true; the input reads as it did. -/
def scanMoreSpec : ChangeSpec := { name := "scanMore", fn := fun _ => fun
  | [d1, d2] => { results := [.lit (.bool true)], args := [d1, d2] }
  | _ => none }
def scanMoreRow : OpenClaim := { program := "ytoeppobpnhlebaa", sum := "c8a36456d28ff71e773000737d0570fb383e482a39ac1cb0122e2696c97a075b", func := "backstitch/backstitchkeep3.ScanMore", spec := "scanMore", unfollowed := true, recurses := true, apart := false }
def ScanMoreSaid : Prop := scanMoreRow.holds Try.pinned (OpenSpec.ofChange scanMoreSpec)

/-- ITS FALSE NEIGHBOUR: 'it returns false'. Refute it at one input. -/
def scanMoreWrong : ChangeSpec := { name := "scanMore", fn := fun _ => fun
  | [d1, d2] => { results := [.lit (.bool false)], args := [d1, d2] }
  | _ => none }
def ScanMoreWrongFalsely : Prop := scanMoreRow.holds Try.pinned (OpenSpec.ofChange scanMoreWrong)

/-- 'backstitchkeep3.ScanLater': WHATEVER THE INPUT: true; the input reads as it did. -/
def scanLaterSpec : ChangeSpec := { name := "scanLater", fn := fun _ => fun
  | [d1, d2, d3] => { results := [.lit (.bool true)], args := [d1, d2, d3] }
  | _ => none }
def scanLaterRow : OpenClaim := { program := "ytoeppobpnhlebaa", sum := "c8a36456d28ff71e773000737d0570fb383e482a39ac1cb0122e2696c97a075b", func := "backstitch/backstitchkeep3.ScanLater", spec := "scanLater", unfollowed := true, recurses := true, apart := false }
def ScanLaterSaid : Prop := scanLaterRow.holds Try.pinned (OpenSpec.ofChange scanLaterSpec)

/-- ITS FALSE NEIGHBOUR: 'it returns false'. Refute it at one input. -/
def scanLaterWrong : ChangeSpec := { name := "scanLater", fn := fun _ => fun
  | [d1, d2, d3] => { results := [.lit (.bool false)], args := [d1, d2, d3] }
  | _ => none }
def ScanLaterWrongFalsely : Prop := scanLaterRow.holds Try.pinned (OpenSpec.ofChange scanLaterWrong)

/-- 'backstitchkeep3.ScanFewest': WHATEVER THE INPUT: true; the input reads as it did. -/
def scanFewestSpec : ChangeSpec := { name := "scanFewest", fn := fun _ => fun
  | [d1, d2] => { results := [.lit (.bool true)], args := [d1, d2] }
  | _ => none }
def scanFewestRow : OpenClaim := { program := "ytoeppobpnhlebaa", sum := "c8a36456d28ff71e773000737d0570fb383e482a39ac1cb0122e2696c97a075b", func := "backstitch/backstitchkeep3.ScanFewest", spec := "scanFewest", unfollowed := true, recurses := true, apart := false }
def ScanFewestSaid : Prop := scanFewestRow.holds Try.pinned (OpenSpec.ofChange scanFewestSpec)

/-- ITS FALSE NEIGHBOUR: 'it returns false'. Refute it at one input. -/
def scanFewestWrong : ChangeSpec := { name := "scanFewest", fn := fun _ => fun
  | [d1, d2] => { results := [.lit (.bool false)], args := [d1, d2] }
  | _ => none }
def ScanFewestWrongFalsely : Prop := scanFewestRow.holds Try.pinned (OpenSpec.ofChange scanFewestWrong)

/-- 'backstitchkeep3.ScanApart': WHATEVER THE INPUT: true; the input reads as it did. -/
def scanApartSpec : ChangeSpec := { name := "scanApart", fn := fun _ => fun
  | [d1, d2] => { results := [.lit (.bool true)], args := [d1, d2] }
  | _ => none }
def scanApartRow : OpenClaim := { program := "ytoeppobpnhlebaa", sum := "c8a36456d28ff71e773000737d0570fb383e482a39ac1cb0122e2696c97a075b", func := "backstitch/backstitchkeep3.ScanApart", spec := "scanApart", unfollowed := true, recurses := true, apart := false }
def ScanApartSaid : Prop := scanApartRow.holds Try.pinned (OpenSpec.ofChange scanApartSpec)

/-- ITS FALSE NEIGHBOUR: 'it returns false'. Refute it at one input. -/
def scanApartWrong : ChangeSpec := { name := "scanApart", fn := fun _ => fun
  | [d1, d2] => { results := [.lit (.bool false)], args := [d1, d2] }
  | _ => none }
def ScanApartWrongFalsely : Prop := scanApartRow.holds Try.pinned (OpenSpec.ofChange scanApartWrong)

/- THE SECOND FORM. 'bulk': how many values and letters a reading holds, each counted each time it is reached (what is shared counts as often as it is met; a slice's spare places count too). A statement '..UptoSaid' is the law's where the arguments, and the package variables that the reading takes, are together of bulk at most 1048576: NARROWER than '..Said'. Prove '..Said' where nothing that the law and all that it calls make is longer than what came in: it says more and counts as full. Else prove '..UptoSaid'. A law counts once. -/
mutual
def uptoBulk {H : Type} : DataW H → Nat
  | .lit (.string bytes) => bytes.length + 1
  | .lit _ => 1
  | .nil => 1
  | .ptr d => uptoBulk d + 1
  | .slice elems spare => uptoBulkAll elems + uptoBulkAll spare + 1
  | .agg parts => uptoBulkAll parts + 1
  | .iface _ d => uptoBulk d + 1
  | .map entries => uptoBulkEntries entries + 1
  | .held _ => 1
def uptoBulkAll {H : Type} : List (DataW H) → Nat
  | [] => 0
  | d :: r => uptoBulk d + uptoBulkAll r
def uptoBulkEntries {H : Type} : List (Lit × DataW H) → Nat
  | [] => 0
  | x :: r => uptoBulkEntry x + uptoBulkEntries r
def uptoBulkEntry {H : Type} : Lit × DataW H → Nat
  | (.string bytes, d) => bytes.length + uptoBulk d + 1
  | (_, d) => uptoBulk d + 1
 end
def uptoSmall : (H : Type) → List (DataW H) → Bool := fun _ ds => decide (uptoBulkAll ds ≤ 1048576)
def OpenSpec.upto (s : _root_.Go.ChangeSpec) : _root_.Go.OpenSpec := { _root_.Go.OpenSpec.ofChange s with cond := some uptoSmall }

/-- 'backstitchkeep3.LiveLoops', WHERE WHAT IT READS IS OF BULK AT MOST 1048576: true; the input reads as it did. -/
def liveLoopsUptoRow : OpenClaim := { program := "ytoeppobpnhlebaa", sum := "c8a36456d28ff71e773000737d0570fb383e482a39ac1cb0122e2696c97a075b", func := "backstitch/backstitchkeep3.LiveLoops", spec := "liveLoops", unfollowed := true, recurses := true, apart := false, narrowed := true }
def LiveLoopsUptoSaid : Prop := liveLoopsUptoRow.holds Try.pinned (OpenSpec.upto liveLoopsSpec)

/-- 'backstitchkeep3.LiveLast', WHERE WHAT IT READS IS OF BULK AT MOST 1048576: true; the input reads as it did. -/
def liveLastUptoRow : OpenClaim := { program := "ytoeppobpnhlebaa", sum := "c8a36456d28ff71e773000737d0570fb383e482a39ac1cb0122e2696c97a075b", func := "backstitch/backstitchkeep3.LiveLast", spec := "liveLast", unfollowed := true, recurses := true, apart := false, narrowed := true }
def LiveLastUptoSaid : Prop := liveLastUptoRow.holds Try.pinned (OpenSpec.upto liveLastSpec)

/-- 'backstitchkeep3.ScanMore', WHERE WHAT IT READS IS OF BULK AT MOST 1048576: true; the input reads as it did. -/
def scanMoreUptoRow : OpenClaim := { program := "ytoeppobpnhlebaa", sum := "c8a36456d28ff71e773000737d0570fb383e482a39ac1cb0122e2696c97a075b", func := "backstitch/backstitchkeep3.ScanMore", spec := "scanMore", unfollowed := true, recurses := true, apart := false, narrowed := true }
def ScanMoreUptoSaid : Prop := scanMoreUptoRow.holds Try.pinned (OpenSpec.upto scanMoreSpec)

/-- 'backstitchkeep3.ScanLater', WHERE WHAT IT READS IS OF BULK AT MOST 1048576: true; the input reads as it did. -/
def scanLaterUptoRow : OpenClaim := { program := "ytoeppobpnhlebaa", sum := "c8a36456d28ff71e773000737d0570fb383e482a39ac1cb0122e2696c97a075b", func := "backstitch/backstitchkeep3.ScanLater", spec := "scanLater", unfollowed := true, recurses := true, apart := false, narrowed := true }
def ScanLaterUptoSaid : Prop := scanLaterUptoRow.holds Try.pinned (OpenSpec.upto scanLaterSpec)

/-- 'backstitchkeep3.ScanFewest', WHERE WHAT IT READS IS OF BULK AT MOST 1048576: true; the input reads as it did. -/
def scanFewestUptoRow : OpenClaim := { program := "ytoeppobpnhlebaa", sum := "c8a36456d28ff71e773000737d0570fb383e482a39ac1cb0122e2696c97a075b", func := "backstitch/backstitchkeep3.ScanFewest", spec := "scanFewest", unfollowed := true, recurses := true, apart := false, narrowed := true }
def ScanFewestUptoSaid : Prop := scanFewestUptoRow.holds Try.pinned (OpenSpec.upto scanFewestSpec)

/-- 'backstitchkeep3.ScanApart', WHERE WHAT IT READS IS OF BULK AT MOST 1048576: true; the input reads as it did. -/
def scanApartUptoRow : OpenClaim := { program := "ytoeppobpnhlebaa", sum := "c8a36456d28ff71e773000737d0570fb383e482a39ac1cb0122e2696c97a075b", func := "backstitch/backstitchkeep3.ScanApart", spec := "scanApart", unfollowed := true, recurses := true, apart := false, narrowed := true }
def ScanApartUptoSaid : Prop := scanApartUptoRow.holds Try.pinned (OpenSpec.upto scanApartSpec)

end Rows
end Go.Proofs.Ytoeppobpnhlebaa
