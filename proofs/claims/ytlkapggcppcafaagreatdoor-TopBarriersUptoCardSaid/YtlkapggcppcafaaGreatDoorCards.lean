/-
  DERIVED. GIVEN WITH THE SEED: THE CARDS: each row of YtlkapggcppcafaaGreatDoorRows.lean that lists a variable, with what it lists TIED to the program's text (the seventh form; the later family's looks); each row that meets fmt, with fmt's text TOLD by the authors' own Lean function (tested against real Go, not proved from fmt's source: count such statements apart). THE CARD IS WHAT COUNTS. Prove the row's statement (the work); the ties are given (YtlkapggcppcafaaGreatDoorTie.lean); close each card by the builder's one call (the guide's Derived/Test/ToyasCard.lean, 'card_holds'). Laid BY PROGRAM, IN A SANDBOX (cutbox-door.mjs). By AI agents, Wed Nov 11 2026. No macro, syntax, notation, axiom, sorry.
-/
import Derived.Test.YtlkapggcppcafaaGreatDoorRows
import GoSem.ClaimSeven
namespace Go.Proofs.YtlkapggcppcafaaGreatDoor
namespace Rows

/-- THE TIED CARD OF 'backstitchtop.TopBarriers'. -/
def topBarriersCard : Claim7 := { stood := { row := topBarriersRow, standIns := [], harness := (true, "081f13d4931de5405243bc4110b60979102133ab2d7f923e3cf7606bd389449a"), looks := false }, kinds := [], alts := [], laidByText := true, laidKinds := [.listed, .data], laidTests := true, laidLooks := .later }
def TopBarriersCardSaid : Prop := Claim7.holds Tryz.pinned (.plain (OpenSpec.ofChange topBarriersSpec)) topBarriersCard

/-- THE SECOND FORM's CARD OF 'backstitchtop.TopBarriers'. -/
def topBarriersUptoCard : Claim7 := { stood := { row := topBarriersUptoRow, standIns := [], harness := (true, "081f13d4931de5405243bc4110b60979102133ab2d7f923e3cf7606bd389449a"), looks := false }, kinds := [], alts := [], laidByText := true, laidKinds := [.listed, .data], laidTests := true, laidLooks := .later }
def TopBarriersUptoCardSaid : Prop := Claim7.holds Tryz.pinned (.plain (OpenSpec.upto topBarriersSpec)) topBarriersUptoCard
end Rows
end Go.Proofs.YtlkapggcppcafaaGreatDoor
