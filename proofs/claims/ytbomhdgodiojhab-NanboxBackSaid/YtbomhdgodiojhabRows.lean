/-
  No cell of these rows narrows 'for every input' (looked for: loops, veiled, ifaces, maps, wideKeys, modest, calm, conditions, laid).
  DERIVED. THE GIVEN ROWS OF THIS SEAT. 4 by the template 'for every input the law returns true; each argument reads behind the call as it read before'; 0 by the template 'total and deterministic' (their statements: YtbomhdgodiojhabTotals.lean).
  GIVEN WITH THE SEED: the statements are not yours to turn. If you find one false, say at which input.
  Laid BY PROGRAM, IN A SANDBOX (cutbox-rows.mjs): the forced cells as the released guide's own fill.sh prints them over the translation 1ba59a7116dee0b0… (all of the seat's roots in one cut). By AI agents, Wed Nov 11 2026. No macro, syntax, notation, axiom, sorry.
-/
import Derived.Test.YtbomhdgodiojhabChecked
import GoSem.Claim
import GoSem.ClaimJoined
import GoSem.ClaimMapViews
import Derived.JoinedTies
import Derived.KernelRfl
namespace Go.Proofs.Ytbomhdgodiojhab
/- THE CELL 'sum', in the pinned program and in every row, IS THE sha256 OF THE DUMP (.gsa) THAT YtbomhdgodiojhabProg.lean LOADS. Nothing in Lean hashes anything: it is a label: what it is worth is what the hold of that sum in a sandbox is worth. -/
noncomputable def Try.pinned : Pinned := { name := "ytbomhdgodiojhab", sum := "1ba59a7116dee0b0d1cce63d85b62fcd99d17c8ac2ee74458ead072fad4f2279", checked := Try.checked }
namespace Rows
def none {H : Type} : Left H := { results := [], args := [] }

/-- 'backstitchkeep3.NanboxInts': WHATEVER THE INPUT: true; the input reads as it did. -/
def nanboxIntsSpec : ChangeSpec := { name := "nanboxInts", fn := fun _ => fun
  | [d1, d2] => { results := [.lit (.bool true)], args := [d1, d2] }
  | _ => none }
def nanboxIntsRow : OpenClaim := { program := "ytbomhdgodiojhab", sum := "1ba59a7116dee0b0d1cce63d85b62fcd99d17c8ac2ee74458ead072fad4f2279", func := "backstitch/backstitchkeep3.NanboxInts", spec := "nanboxInts", unfollowed := true, recurses := true, apart := false }
def NanboxIntsSaid : Prop := nanboxIntsRow.holds Try.pinned (OpenSpec.ofChange nanboxIntsSpec)

/-- ITS FALSE NEIGHBOUR: 'it returns false'. Refute it at one input. -/
def nanboxIntsWrong : ChangeSpec := { name := "nanboxInts", fn := fun _ => fun
  | [d1, d2] => { results := [.lit (.bool false)], args := [d1, d2] }
  | _ => none }
def NanboxIntsWrongFalsely : Prop := nanboxIntsRow.holds Try.pinned (OpenSpec.ofChange nanboxIntsWrong)

/-- 'backstitchkeep3.NanboxApart': WHATEVER THE INPUT: true; the input reads as it did. -/
def nanboxApartSpec : ChangeSpec := { name := "nanboxApart", fn := fun _ => fun
  | [d1, d2] => { results := [.lit (.bool true)], args := [d1, d2] }
  | _ => none }
def nanboxApartRow : OpenClaim := { program := "ytbomhdgodiojhab", sum := "1ba59a7116dee0b0d1cce63d85b62fcd99d17c8ac2ee74458ead072fad4f2279", func := "backstitch/backstitchkeep3.NanboxApart", spec := "nanboxApart", apart := false }
def NanboxApartSaid : Prop := nanboxApartRow.holds Try.pinned (OpenSpec.ofChange nanboxApartSpec)

/-- ITS FALSE NEIGHBOUR: 'it returns false'. Refute it at one input. -/
def nanboxApartWrong : ChangeSpec := { name := "nanboxApart", fn := fun _ => fun
  | [d1, d2] => { results := [.lit (.bool false)], args := [d1, d2] }
  | _ => none }
def NanboxApartWrongFalsely : Prop := nanboxApartRow.holds Try.pinned (OpenSpec.ofChange nanboxApartWrong)

/-- 'backstitchkeep3.NanboxFloats': WHATEVER THE INPUT: true; the input reads as it did. -/
def nanboxFloatsSpec : ChangeSpec := { name := "nanboxFloats", fn := fun _ => fun
  | [d1, d2] => { results := [.lit (.bool true)], args := [d1, d2] }
  | _ => none }
def nanboxFloatsRow : OpenClaim := { program := "ytbomhdgodiojhab", sum := "1ba59a7116dee0b0d1cce63d85b62fcd99d17c8ac2ee74458ead072fad4f2279", func := "backstitch/backstitchkeep3.NanboxFloats", spec := "nanboxFloats", apart := false }
def NanboxFloatsSaid : Prop := nanboxFloatsRow.holds Try.pinned (OpenSpec.ofChange nanboxFloatsSpec)

/-- ITS FALSE NEIGHBOUR: 'it returns false'. Refute it at one input. -/
def nanboxFloatsWrong : ChangeSpec := { name := "nanboxFloats", fn := fun _ => fun
  | [d1, d2] => { results := [.lit (.bool false)], args := [d1, d2] }
  | _ => none }
def NanboxFloatsWrongFalsely : Prop := nanboxFloatsRow.holds Try.pinned (OpenSpec.ofChange nanboxFloatsWrong)

/-- 'backstitchkeep3.NanboxBack': WHATEVER THE INPUT: true; the input reads as it did. -/
def nanboxBackSpec : ChangeSpec := { name := "nanboxBack", fn := fun _ => fun
  | [d1, d2] => { results := [.lit (.bool true)], args := [d1, d2] }
  | _ => none }
def nanboxBackRow : OpenClaim := { program := "ytbomhdgodiojhab", sum := "1ba59a7116dee0b0d1cce63d85b62fcd99d17c8ac2ee74458ead072fad4f2279", func := "backstitch/backstitchkeep3.NanboxBack", spec := "nanboxBack", apart := false }
def NanboxBackSaid : Prop := nanboxBackRow.holds Try.pinned (OpenSpec.ofChange nanboxBackSpec)

/-- ITS FALSE NEIGHBOUR: 'it returns false'. Refute it at one input. -/
def nanboxBackWrong : ChangeSpec := { name := "nanboxBack", fn := fun _ => fun
  | [d1, d2] => { results := [.lit (.bool false)], args := [d1, d2] }
  | _ => none }
def NanboxBackWrongFalsely : Prop := nanboxBackRow.holds Try.pinned (OpenSpec.ofChange nanboxBackWrong)

/- THE SECOND FORM. 'bulk': how many values and letters a reading holds, each counted each time it is reached (what is shared counts as often as it is met; a slice's spare places count too). A statement '..UptoSaid' is the law's where the arguments, and the package variables that the reading takes, are together of bulk at most 1048576: NARROWER than '..Said'. Prove '..Said' where nothing that the law and all that it calls make is longer than what came in: it says more and counts as full. Else prove '..UptoSaid'. A law counts once. -/
mutual
def uptoBulk {H : Type} : DataW H → Nat
  | .lit (.string bytes) => bytes.length + 1
  | .lit _ => 1
  | .nil => 1
  | .ptr d => uptoBulk d + 1
  | .slice elems spare => uptoBulkAll elems + uptoBulkAll spare + 1
  | .agg parts => uptoBulkAll parts + 1
  | .iface _ d => uptoBulk d + 1
  | .map entries => uptoBulkEntries entries + 1
  | .held _ => 1
def uptoBulkAll {H : Type} : List (DataW H) → Nat
  | [] => 0
  | d :: r => uptoBulk d + uptoBulkAll r
def uptoBulkEntries {H : Type} : List (Lit × DataW H) → Nat
  | [] => 0
  | x :: r => uptoBulkEntry x + uptoBulkEntries r
def uptoBulkEntry {H : Type} : Lit × DataW H → Nat
  | (.string bytes, d) => bytes.length + uptoBulk d + 1
  | (_, d) => uptoBulk d + 1
 end
def uptoSmall : (H : Type) → List (DataW H) → Bool := fun _ ds => decide (uptoBulkAll ds ≤ 1048576)
def OpenSpec.upto (s : _root_.Go.ChangeSpec) : _root_.Go.OpenSpec := { _root_.Go.OpenSpec.ofChange s with cond := some uptoSmall }

/-- 'backstitchkeep3.NanboxInts', WHERE WHAT IT READS IS OF BULK AT MOST 1048576: true; the input reads as it did. -/
def nanboxIntsUptoRow : OpenClaim := { program := "ytbomhdgodiojhab", sum := "1ba59a7116dee0b0d1cce63d85b62fcd99d17c8ac2ee74458ead072fad4f2279", func := "backstitch/backstitchkeep3.NanboxInts", spec := "nanboxInts", unfollowed := true, recurses := true, apart := false, narrowed := true }
def NanboxIntsUptoSaid : Prop := nanboxIntsUptoRow.holds Try.pinned (OpenSpec.upto nanboxIntsSpec)

/-- 'backstitchkeep3.NanboxApart', WHERE WHAT IT READS IS OF BULK AT MOST 1048576: true; the input reads as it did. -/
def nanboxApartUptoRow : OpenClaim := { program := "ytbomhdgodiojhab", sum := "1ba59a7116dee0b0d1cce63d85b62fcd99d17c8ac2ee74458ead072fad4f2279", func := "backstitch/backstitchkeep3.NanboxApart", spec := "nanboxApart", apart := false, narrowed := true }
def NanboxApartUptoSaid : Prop := nanboxApartUptoRow.holds Try.pinned (OpenSpec.upto nanboxApartSpec)

/-- 'backstitchkeep3.NanboxFloats', WHERE WHAT IT READS IS OF BULK AT MOST 1048576: true; the input reads as it did. -/
def nanboxFloatsUptoRow : OpenClaim := { program := "ytbomhdgodiojhab", sum := "1ba59a7116dee0b0d1cce63d85b62fcd99d17c8ac2ee74458ead072fad4f2279", func := "backstitch/backstitchkeep3.NanboxFloats", spec := "nanboxFloats", apart := false, narrowed := true }
def NanboxFloatsUptoSaid : Prop := nanboxFloatsUptoRow.holds Try.pinned (OpenSpec.upto nanboxFloatsSpec)

/-- 'backstitchkeep3.NanboxBack', WHERE WHAT IT READS IS OF BULK AT MOST 1048576: true; the input reads as it did. -/
def nanboxBackUptoRow : OpenClaim := { program := "ytbomhdgodiojhab", sum := "1ba59a7116dee0b0d1cce63d85b62fcd99d17c8ac2ee74458ead072fad4f2279", func := "backstitch/backstitchkeep3.NanboxBack", spec := "nanboxBack", apart := false, narrowed := true }
def NanboxBackUptoSaid : Prop := nanboxBackUptoRow.holds Try.pinned (OpenSpec.upto nanboxBackSpec)

end Rows
end Go.Proofs.Ytbomhdgodiojhab
