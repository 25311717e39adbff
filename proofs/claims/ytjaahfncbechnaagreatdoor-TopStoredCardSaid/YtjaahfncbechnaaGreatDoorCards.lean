/-
  DERIVED. GIVEN WITH THE SEED: THE CARDS: each row of YtjaahfncbechnaaGreatDoorRows.lean that lists a variable, with what it lists TIED to the program's text (the seventh form; the later family's looks); each row that meets fmt, with fmt's text TOLD by the authors' own Lean function (tested against real Go, not proved from fmt's source: count such statements apart). THE CARD IS WHAT COUNTS. Prove the row's statement (the work); the ties are given (YtjaahfncbechnaaGreatDoorTie.lean); close each card by the builder's one call (the guide's Derived/Test/ToyasCard.lean, 'card_holds'). Laid BY PROGRAM, IN A SANDBOX (cutbox-door.mjs). By AI agents, Wed Nov 11 2026. No macro, syntax, notation, axiom, sorry.
-/
import Derived.Test.YtjaahfncbechnaaGreatDoorRows
import GoSem.ClaimSeven
namespace Go.Proofs.YtjaahfncbechnaaGreatDoor
namespace Rows

/-- THE TIED CARD OF 'backstitchtop.TopStored'. -/
def topStoredCard : Claim7 := { stood := { row := topStoredRow, standIns := [], harness := (true, "83111cf8e9d5db8d0021e0afe627cb011d5d3294bc9004deb87398b1d7cedb43"), looks := false }, kinds := [], alts := [], laidByText := true, laidKinds := [.data, .data, .data, .listed, .data], laidTests := true, laidLooks := .later }
def TopStoredCardSaid : Prop := Claim7.holds Tryz.pinned (.plain (OpenSpec.ofChange topStoredSpec)) topStoredCard

/-- THE SECOND FORM's CARD OF 'backstitchtop.TopStored'. -/
def topStoredUptoCard : Claim7 := { stood := { row := topStoredUptoRow, standIns := [], harness := (true, "83111cf8e9d5db8d0021e0afe627cb011d5d3294bc9004deb87398b1d7cedb43"), looks := false }, kinds := [], alts := [], laidByText := true, laidKinds := [.data, .data, .data, .listed, .data], laidTests := true, laidLooks := .later }
def TopStoredUptoCardSaid : Prop := Claim7.holds Tryz.pinned (.plain (OpenSpec.upto topStoredSpec)) topStoredUptoCard
end Rows
end Go.Proofs.YtjaahfncbechnaaGreatDoor
