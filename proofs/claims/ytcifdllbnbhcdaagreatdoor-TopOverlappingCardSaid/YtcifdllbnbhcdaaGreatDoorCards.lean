/-
  DERIVED. GIVEN WITH THE SEED: THE CARDS: each row of YtcifdllbnbhcdaaGreatDoorRows.lean that lists a variable, with what it lists TIED to the program's text (the seventh form; the later family's looks); each row that meets fmt, with fmt's text TOLD by the authors' own Lean function (tested against real Go, not proved from fmt's source: count such statements apart). THE CARD IS WHAT COUNTS. Prove the row's statement (the work); the ties are given (YtcifdllbnbhcdaaGreatDoorTie.lean); close each card by the builder's one call (the guide's Derived/Test/ToyasCard.lean, 'card_holds'). Laid BY PROGRAM, IN A SANDBOX (cutbox-door.mjs). By AI agents, Wed Nov 11 2026. No macro, syntax, notation, axiom, sorry.
-/
import Derived.Test.YtcifdllbnbhcdaaGreatDoorRows
import GoSem.ClaimSeven
namespace Go.Proofs.YtcifdllbnbhcdaaGreatDoor
namespace Rows

/-- THE TIED CARD OF 'timetabletop.TopOverlapping'. -/
def topOverlappingCard : Claim7 := { stood := { row := topOverlappingRow, standIns := [], harness := (true, "1ba19e0056a6b6d366641ded3d131dd526d16ffcfa093ec88987cd12e43d8d7f"), looks := true }, kinds := [], alts := [], laidByText := true, laidKinds := [.data, .data, .data, .data, .sentinel, .sentinel, .sentinel, .pinned], laidTests := true, laidLooks := .later }
def TopOverlappingCardSaid : Prop := Claim7.holds Tryz.pinned (.plain (OpenSpec.ofChange topOverlappingSpec)) topOverlappingCard

/-- THE SECOND FORM's CARD OF 'timetabletop.TopOverlapping'. -/
def topOverlappingUptoCard : Claim7 := { stood := { row := topOverlappingUptoRow, standIns := [], harness := (true, "1ba19e0056a6b6d366641ded3d131dd526d16ffcfa093ec88987cd12e43d8d7f"), looks := true }, kinds := [], alts := [], laidByText := true, laidKinds := [.data, .data, .data, .data, .sentinel, .sentinel, .sentinel, .pinned], laidTests := true, laidLooks := .later }
def TopOverlappingUptoCardSaid : Prop := Claim7.holds Tryz.pinned (.plain (OpenSpec.upto topOverlappingSpec)) topOverlappingUptoCard
end Rows
end Go.Proofs.YtcifdllbnbhcdaaGreatDoor
