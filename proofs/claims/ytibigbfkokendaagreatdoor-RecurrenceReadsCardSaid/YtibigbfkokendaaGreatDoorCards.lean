/-
  DERIVED. GIVEN WITH THE SEED: THE CARDS: each row of YtibigbfkokendaaGreatDoorRows.lean that lists a variable, with what it lists TIED to the program's text (the seventh form; the later family's looks); each row that meets fmt, with fmt's text TOLD by the authors' own Lean function (tested against real Go, not proved from fmt's source: count such statements apart). THE CARD IS WHAT COUNTS. Prove the row's statement (the work); the ties are given (YtibigbfkokendaaGreatDoorTie.lean); close each card by the builder's one call (the guide's Derived/Test/ToyasCard.lean, 'card_holds'). Laid BY PROGRAM, IN A SANDBOX (cutbox-door.mjs). By AI agents, Wed Nov 11 2026. No macro, syntax, notation, axiom, sorry.
-/
import Derived.Test.YtibigbfkokendaaGreatDoorRows
import GoSem.ClaimSeven
namespace Go.Proofs.YtibigbfkokendaaGreatDoor
namespace Rows

/-- THE TIED CARD OF 'timetablelaw39.RecurrenceTexts'. -/
def recurrenceTextsCard : Claim7 := { stood := { row := recurrenceTextsRow, standIns := [], harness := (true, "b1fd97cf22ed7dc2b4298c16b6417dc570f4cca74c8c48479418eb3b667b5f77"), looks := false }, kinds := [], alts := [], laidByText := true, laidKinds := [.data, .data, .data, .data], laidTests := true, laidLooks := .later }
def RecurrenceTextsCardSaid : Prop := Claim7.holds Tryz.pinned (.plain (OpenSpec.ofChange recurrenceTextsSpec)) recurrenceTextsCard

/-- THE TIED CARD OF 'timetablelaw39.RecurrenceReads'. -/
def recurrenceReadsCard : Claim7 := { stood := { row := recurrenceReadsRow, standIns := [], harness := (true, "b1fd97cf22ed7dc2b4298c16b6417dc570f4cca74c8c48479418eb3b667b5f77"), looks := false }, kinds := [], alts := [], laidByText := true, laidKinds := [.data, .data, .data, .data], laidTests := true, laidLooks := .later }
def RecurrenceReadsCardSaid : Prop := Claim7.holds Tryz.pinned (.plain (OpenSpec.ofChange recurrenceReadsSpec)) recurrenceReadsCard

/-- THE SECOND FORM's CARD OF 'timetablelaw39.RecurrenceTexts'. -/
def recurrenceTextsUptoCard : Claim7 := { stood := { row := recurrenceTextsUptoRow, standIns := [], harness := (true, "b1fd97cf22ed7dc2b4298c16b6417dc570f4cca74c8c48479418eb3b667b5f77"), looks := false }, kinds := [], alts := [], laidByText := true, laidKinds := [.data, .data, .data, .data], laidTests := true, laidLooks := .later }
def RecurrenceTextsUptoCardSaid : Prop := Claim7.holds Tryz.pinned (.plain (OpenSpec.upto recurrenceTextsSpec)) recurrenceTextsUptoCard

/-- THE SECOND FORM's CARD OF 'timetablelaw39.RecurrenceReads'. -/
def recurrenceReadsUptoCard : Claim7 := { stood := { row := recurrenceReadsUptoRow, standIns := [], harness := (true, "b1fd97cf22ed7dc2b4298c16b6417dc570f4cca74c8c48479418eb3b667b5f77"), looks := false }, kinds := [], alts := [], laidByText := true, laidKinds := [.data, .data, .data, .data], laidTests := true, laidLooks := .later }
def RecurrenceReadsUptoCardSaid : Prop := Claim7.holds Tryz.pinned (.plain (OpenSpec.upto recurrenceReadsSpec)) recurrenceReadsUptoCard
end Rows
end Go.Proofs.YtibigbfkokendaaGreatDoor
