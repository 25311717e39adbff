/-
  No cell of these rows narrows 'for every input' (looked for: loops, veiled, ifaces, maps, wideKeys, modest, calm, conditions, laid).
  DERIVED. THE GIVEN ROWS OF THIS SEAT. 5 by the template 'for every input the law returns true; each argument reads behind the call as it read before'; 0 by the template 'total and deterministic' (their statements: YtijcjkgammldlaaTotals.lean).
  GIVEN WITH THE SEED: the statements are not yours to turn. If you find one false, say at which input.
  Laid BY PROGRAM, IN A SANDBOX (cutbox-rows.mjs): the forced cells as the released guide's own fill.sh prints them over the translation 4f061861edb0b0af… (all of the seat's roots in one cut). By AI agents, Wed Nov 11 2026. No macro, syntax, notation, axiom, sorry.
-/
import Derived.Test.YtijcjkgammldlaaChecked
import GoSem.Claim
import GoSem.ClaimJoined
import GoSem.ClaimMapViews
import Derived.JoinedTies
import Derived.KernelRfl
namespace Go.Proofs.Ytijcjkgammldlaa
/- THE CELL 'sum', in the pinned program and in every row, IS THE sha256 OF THE DUMP (.gsa) THAT YtijcjkgammldlaaProg.lean LOADS. Nothing in Lean hashes anything: it is a label: what it is worth is what the hold of that sum in a sandbox is worth. -/
noncomputable def Try.pinned : Pinned := { name := "ytijcjkgammldlaa", sum := "4f061861edb0b0af88b29e6da472141bb45d029ed9c2e454773936e0dc2088ea", checked := Try.checked }
namespace Rows
def none {H : Type} : Left H := { results := [], args := [] }

/-- 'backstitchkeep3.HaulAlike': WHATEVER THE INPUT: true; the input reads as it did. -/
def haulAlikeSpec : ChangeSpec := { name := "haulAlike", fn := fun _ => fun
  | [d] => { results := [.lit (.bool true)], args := [d] }
  | _ => none }
def haulAlikeRow : OpenClaim := { program := "ytijcjkgammldlaa", sum := "4f061861edb0b0af88b29e6da472141bb45d029ed9c2e454773936e0dc2088ea", func := "backstitch/backstitchkeep3.HaulAlike", spec := "haulAlike", apart := false }
def HaulAlikeSaid : Prop := haulAlikeRow.holds Try.pinned (OpenSpec.ofChange haulAlikeSpec)

/-- ITS FALSE NEIGHBOUR: 'it returns false'. Refute it at one input. -/
def haulAlikeWrong : ChangeSpec := { name := "haulAlike", fn := fun _ => fun
  | [d] => { results := [.lit (.bool false)], args := [d] }
  | _ => none }
def HaulAlikeWrongFalsely : Prop := haulAlikeRow.holds Try.pinned (OpenSpec.ofChange haulAlikeWrong)

/-- 'backstitchkeep3.HaulTwice': WHATEVER THE INPUT: true; the input reads as it did. -/
def haulTwiceSpec : ChangeSpec := { name := "haulTwice", fn := fun _ => fun
  | [d] => { results := [.lit (.bool true)], args := [d] }
  | _ => none }
def haulTwiceRow : OpenClaim := { program := "ytijcjkgammldlaa", sum := "4f061861edb0b0af88b29e6da472141bb45d029ed9c2e454773936e0dc2088ea", func := "backstitch/backstitchkeep3.HaulTwice", spec := "haulTwice", apart := false }
def HaulTwiceSaid : Prop := haulTwiceRow.holds Try.pinned (OpenSpec.ofChange haulTwiceSpec)

/-- ITS FALSE NEIGHBOUR: 'it returns false'. Refute it at one input. -/
def haulTwiceWrong : ChangeSpec := { name := "haulTwice", fn := fun _ => fun
  | [d] => { results := [.lit (.bool false)], args := [d] }
  | _ => none }
def HaulTwiceWrongFalsely : Prop := haulTwiceRow.holds Try.pinned (OpenSpec.ofChange haulTwiceWrong)

/-- 'backstitchkeep3.HaulRoots': WHATEVER THE INPUT: true; the input reads as it did. -/
def haulRootsSpec : ChangeSpec := { name := "haulRoots", fn := fun _ => fun
  | [d1, d2] => { results := [.lit (.bool true)], args := [d1, d2] }
  | _ => none }
def haulRootsRow : OpenClaim := { program := "ytijcjkgammldlaa", sum := "4f061861edb0b0af88b29e6da472141bb45d029ed9c2e454773936e0dc2088ea", func := "backstitch/backstitchkeep3.HaulRoots", spec := "haulRoots", apart := false }
def HaulRootsSaid : Prop := haulRootsRow.holds Try.pinned (OpenSpec.ofChange haulRootsSpec)

/-- ITS FALSE NEIGHBOUR: 'it returns false'. Refute it at one input. -/
def haulRootsWrong : ChangeSpec := { name := "haulRoots", fn := fun _ => fun
  | [d1, d2] => { results := [.lit (.bool false)], args := [d1, d2] }
  | _ => none }
def HaulRootsWrongFalsely : Prop := haulRootsRow.holds Try.pinned (OpenSpec.ofChange haulRootsWrong)

/-- 'backstitchkeep3.HaulLess': WHATEVER THE INPUT: true; the input reads as it did. -/
def haulLessSpec : ChangeSpec := { name := "haulLess", fn := fun _ => fun
  | [d] => { results := [.lit (.bool true)], args := [d] }
  | _ => none }
def haulLessRow : OpenClaim := { program := "ytijcjkgammldlaa", sum := "4f061861edb0b0af88b29e6da472141bb45d029ed9c2e454773936e0dc2088ea", func := "backstitch/backstitchkeep3.HaulLess", spec := "haulLess", apart := false }
def HaulLessSaid : Prop := haulLessRow.holds Try.pinned (OpenSpec.ofChange haulLessSpec)

/-- ITS FALSE NEIGHBOUR: 'it returns false'. Refute it at one input. -/
def haulLessWrong : ChangeSpec := { name := "haulLess", fn := fun _ => fun
  | [d] => { results := [.lit (.bool false)], args := [d] }
  | _ => none }
def HaulLessWrongFalsely : Prop := haulLessRow.holds Try.pinned (OpenSpec.ofChange haulLessWrong)

/-- 'backstitchkeep3.HaulWhole': WHATEVER THE INPUT: true; the input reads as it did. -/
def haulWholeSpec : ChangeSpec := { name := "haulWhole", fn := fun _ => fun
  | [d] => { results := [.lit (.bool true)], args := [d] }
  | _ => none }
def haulWholeRow : OpenClaim := { program := "ytijcjkgammldlaa", sum := "4f061861edb0b0af88b29e6da472141bb45d029ed9c2e454773936e0dc2088ea", func := "backstitch/backstitchkeep3.HaulWhole", spec := "haulWhole", apart := false }
def HaulWholeSaid : Prop := haulWholeRow.holds Try.pinned (OpenSpec.ofChange haulWholeSpec)

/-- ITS FALSE NEIGHBOUR: 'it returns false'. Refute it at one input. -/
def haulWholeWrong : ChangeSpec := { name := "haulWhole", fn := fun _ => fun
  | [d] => { results := [.lit (.bool false)], args := [d] }
  | _ => none }
def HaulWholeWrongFalsely : Prop := haulWholeRow.holds Try.pinned (OpenSpec.ofChange haulWholeWrong)

/- THE SECOND FORM. 'bulk': how many values and letters a reading holds, each counted each time it is reached (what is shared counts as often as it is met; a slice's spare places count too). A statement '..UptoSaid' is the law's where the arguments, and the package variables that the reading takes, are together of bulk at most 1048576: NARROWER than '..Said'. Prove '..Said' where nothing that the law and all that it calls make is longer than what came in: it says more and counts as full. Else prove '..UptoSaid'. A law counts once. -/
mutual
def uptoBulk {H : Type} : DataW H → Nat
  | .lit (.string bytes) => bytes.length + 1
  | .lit _ => 1
  | .nil => 1
  | .ptr d => uptoBulk d + 1
  | .slice elems spare => uptoBulkAll elems + uptoBulkAll spare + 1
  | .agg parts => uptoBulkAll parts + 1
  | .iface _ d => uptoBulk d + 1
  | .map entries => uptoBulkEntries entries + 1
  | .held _ => 1
def uptoBulkAll {H : Type} : List (DataW H) → Nat
  | [] => 0
  | d :: r => uptoBulk d + uptoBulkAll r
def uptoBulkEntries {H : Type} : List (Lit × DataW H) → Nat
  | [] => 0
  | x :: r => uptoBulkEntry x + uptoBulkEntries r
def uptoBulkEntry {H : Type} : Lit × DataW H → Nat
  | (.string bytes, d) => bytes.length + uptoBulk d + 1
  | (_, d) => uptoBulk d + 1
 end
def uptoSmall : (H : Type) → List (DataW H) → Bool := fun _ ds => decide (uptoBulkAll ds ≤ 1048576)
def OpenSpec.upto (s : _root_.Go.ChangeSpec) : _root_.Go.OpenSpec := { _root_.Go.OpenSpec.ofChange s with cond := some uptoSmall }

/-- 'backstitchkeep3.HaulAlike', WHERE WHAT IT READS IS OF BULK AT MOST 1048576: true; the input reads as it did. -/
def haulAlikeUptoRow : OpenClaim := { program := "ytijcjkgammldlaa", sum := "4f061861edb0b0af88b29e6da472141bb45d029ed9c2e454773936e0dc2088ea", func := "backstitch/backstitchkeep3.HaulAlike", spec := "haulAlike", apart := false, narrowed := true }
def HaulAlikeUptoSaid : Prop := haulAlikeUptoRow.holds Try.pinned (OpenSpec.upto haulAlikeSpec)

/-- 'backstitchkeep3.HaulTwice', WHERE WHAT IT READS IS OF BULK AT MOST 1048576: true; the input reads as it did. -/
def haulTwiceUptoRow : OpenClaim := { program := "ytijcjkgammldlaa", sum := "4f061861edb0b0af88b29e6da472141bb45d029ed9c2e454773936e0dc2088ea", func := "backstitch/backstitchkeep3.HaulTwice", spec := "haulTwice", apart := false, narrowed := true }
def HaulTwiceUptoSaid : Prop := haulTwiceUptoRow.holds Try.pinned (OpenSpec.upto haulTwiceSpec)

/-- 'backstitchkeep3.HaulRoots', WHERE WHAT IT READS IS OF BULK AT MOST 1048576: true; the input reads as it did. -/
def haulRootsUptoRow : OpenClaim := { program := "ytijcjkgammldlaa", sum := "4f061861edb0b0af88b29e6da472141bb45d029ed9c2e454773936e0dc2088ea", func := "backstitch/backstitchkeep3.HaulRoots", spec := "haulRoots", apart := false, narrowed := true }
def HaulRootsUptoSaid : Prop := haulRootsUptoRow.holds Try.pinned (OpenSpec.upto haulRootsSpec)

/-- 'backstitchkeep3.HaulLess', WHERE WHAT IT READS IS OF BULK AT MOST 1048576: true; the input reads as it did. -/
def haulLessUptoRow : OpenClaim := { program := "ytijcjkgammldlaa", sum := "4f061861edb0b0af88b29e6da472141bb45d029ed9c2e454773936e0dc2088ea", func := "backstitch/backstitchkeep3.HaulLess", spec := "haulLess", apart := false, narrowed := true }
def HaulLessUptoSaid : Prop := haulLessUptoRow.holds Try.pinned (OpenSpec.upto haulLessSpec)

/-- 'backstitchkeep3.HaulWhole', WHERE WHAT IT READS IS OF BULK AT MOST 1048576: true; the input reads as it did. -/
def haulWholeUptoRow : OpenClaim := { program := "ytijcjkgammldlaa", sum := "4f061861edb0b0af88b29e6da472141bb45d029ed9c2e454773936e0dc2088ea", func := "backstitch/backstitchkeep3.HaulWhole", spec := "haulWhole", apart := false, narrowed := true }
def HaulWholeUptoSaid : Prop := haulWholeUptoRow.holds Try.pinned (OpenSpec.upto haulWholeSpec)

end Rows
end Go.Proofs.Ytijcjkgammldlaa
