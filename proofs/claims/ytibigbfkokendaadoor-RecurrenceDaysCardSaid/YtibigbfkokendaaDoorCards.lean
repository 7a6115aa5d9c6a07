/-
  DERIVED. GIVEN WITH THE SEED: THE CARDS: each row of YtibigbfkokendaaDoorRows.lean that lists a variable, with what it lists TIED to the program's text (the seventh form; the later family's looks); each row that meets fmt, with fmt's text TOLD by the authors' own Lean function (tested against real Go, not proved from fmt's source: count such statements apart). THE CARD IS WHAT COUNTS. Prove the row's statement (the work); the ties are given (YtibigbfkokendaaDoorTie.lean); close each card by the builder's one call (the guide's Derived/Test/ToyasCard.lean, 'card_holds'). Laid BY PROGRAM, IN A SANDBOX (cutbox-door.mjs). By AI agents, Wed Nov 11 2026. No macro, syntax, notation, axiom, sorry.
-/
import Derived.Test.YtibigbfkokendaaDoorRows
import GoSem.ClaimSeven
namespace Go.Proofs.YtibigbfkokendaaDoor
namespace Rows

/-- THE TIED CARD OF 'timetablelaw39.RecurrenceOf'. -/
def recurrenceOfCard : Claim7 := { stood := { row := recurrenceOfRow, standIns := [], harness := (true, "b39c7a9fc4f2c99641736f4a666ad775e4ef9eff11c53f96522750be7cdd28fd"), looks := false }, kinds := [], alts := [], laidByText := true, laidKinds := [.data, .data, .data, .data], laidTests := true, laidLooks := .later }
def RecurrenceOfCardSaid : Prop := Claim7.holds Tryd.pinned (.plain (OpenSpec.ofChange recurrenceOfSpec)) recurrenceOfCard

/-- THE TIED CARD OF 'timetablelaw39.RecurrenceBack'. -/
def recurrenceBackCard : Claim7 := { stood := { row := recurrenceBackRow, standIns := [], harness := (true, "b39c7a9fc4f2c99641736f4a666ad775e4ef9eff11c53f96522750be7cdd28fd"), looks := false }, kinds := [], alts := [], laidByText := true, laidKinds := [.data, .data, .data, .data], laidTests := true, laidLooks := .later }
def RecurrenceBackCardSaid : Prop := Claim7.holds Tryd.pinned (.plain (OpenSpec.ofChange recurrenceBackSpec)) recurrenceBackCard

/-- THE TIED CARD OF 'timetablelaw39.RecurrenceFewest'. -/
def recurrenceFewestCard : Claim7 := { stood := { row := recurrenceFewestRow, standIns := [], harness := (true, "b39c7a9fc4f2c99641736f4a666ad775e4ef9eff11c53f96522750be7cdd28fd"), looks := false }, kinds := [], alts := [], laidByText := true, laidKinds := [.data, .data, .data, .data], laidTests := true, laidLooks := .later }
def RecurrenceFewestCardSaid : Prop := Claim7.holds Tryd.pinned (.plain (OpenSpec.ofChange recurrenceFewestSpec)) recurrenceFewestCard

/-- THE TIED CARD OF 'timetablelaw39.RecurrenceDays'. -/
def recurrenceDaysCard : Claim7 := { stood := { row := recurrenceDaysRow, standIns := [], harness := (true, "b39c7a9fc4f2c99641736f4a666ad775e4ef9eff11c53f96522750be7cdd28fd"), looks := false }, kinds := [], alts := [], laidByText := true, laidKinds := [.data, .data, .data, .data], laidTests := true, laidLooks := .later }
def RecurrenceDaysCardSaid : Prop := Claim7.holds Tryd.pinned (.plain (OpenSpec.ofChange recurrenceDaysSpec)) recurrenceDaysCard

/-- THE SECOND FORM's CARD OF 'timetablelaw39.RecurrenceOf'. -/
def recurrenceOfUptoCard : Claim7 := { stood := { row := recurrenceOfUptoRow, standIns := [], harness := (true, "b39c7a9fc4f2c99641736f4a666ad775e4ef9eff11c53f96522750be7cdd28fd"), looks := false }, kinds := [], alts := [], laidByText := true, laidKinds := [.data, .data, .data, .data], laidTests := true, laidLooks := .later }
def RecurrenceOfUptoCardSaid : Prop := Claim7.holds Tryd.pinned (.plain (OpenSpec.upto recurrenceOfSpec)) recurrenceOfUptoCard

/-- THE SECOND FORM's CARD OF 'timetablelaw39.RecurrenceBack'. -/
def recurrenceBackUptoCard : Claim7 := { stood := { row := recurrenceBackUptoRow, standIns := [], harness := (true, "b39c7a9fc4f2c99641736f4a666ad775e4ef9eff11c53f96522750be7cdd28fd"), looks := false }, kinds := [], alts := [], laidByText := true, laidKinds := [.data, .data, .data, .data], laidTests := true, laidLooks := .later }
def RecurrenceBackUptoCardSaid : Prop := Claim7.holds Tryd.pinned (.plain (OpenSpec.upto recurrenceBackSpec)) recurrenceBackUptoCard

/-- THE SECOND FORM's CARD OF 'timetablelaw39.RecurrenceFewest'. -/
def recurrenceFewestUptoCard : Claim7 := { stood := { row := recurrenceFewestUptoRow, standIns := [], harness := (true, "b39c7a9fc4f2c99641736f4a666ad775e4ef9eff11c53f96522750be7cdd28fd"), looks := false }, kinds := [], alts := [], laidByText := true, laidKinds := [.data, .data, .data, .data], laidTests := true, laidLooks := .later }
def RecurrenceFewestUptoCardSaid : Prop := Claim7.holds Tryd.pinned (.plain (OpenSpec.upto recurrenceFewestSpec)) recurrenceFewestUptoCard

/-- THE SECOND FORM's CARD OF 'timetablelaw39.RecurrenceDays'. -/
def recurrenceDaysUptoCard : Claim7 := { stood := { row := recurrenceDaysUptoRow, standIns := [], harness := (true, "b39c7a9fc4f2c99641736f4a666ad775e4ef9eff11c53f96522750be7cdd28fd"), looks := false }, kinds := [], alts := [], laidByText := true, laidKinds := [.data, .data, .data, .data], laidTests := true, laidLooks := .later }
def RecurrenceDaysUptoCardSaid : Prop := Claim7.holds Tryd.pinned (.plain (OpenSpec.upto recurrenceDaysSpec)) recurrenceDaysUptoCard
end Rows
end Go.Proofs.YtibigbfkokendaaDoor
