/-
  DERIVED. GIVEN WITH THE SEED: THE CARDS: each row of YtllcoocllkaanaaDoorRows.lean that lists a variable, with what it lists TIED to the program's text (the seventh form; the later family's looks); each row that meets fmt, with fmt's text TOLD by the authors' own Lean function (tested against real Go, not proved from fmt's source: count such statements apart). THE CARD IS WHAT COUNTS. Prove the row's statement (the work); the ties are given (YtllcoocllkaanaaDoorTie.lean); close each card by the builder's one call (the guide's Derived/Test/ToyasCard.lean, 'card_holds'). Laid BY PROGRAM, IN A SANDBOX (cutbox-door.mjs). By AI agents, Wed Nov 11 2026. No macro, syntax, notation, axiom, sorry.
-/
import Derived.Test.YtllcoocllkaanaaDoorRows
import GoSem.ClaimSeven
namespace Go.Proofs.YtllcoocllkaanaaDoor
namespace Rows

/-- THE TIED CARD OF 'timetablelaw38.ZoneInstants'. -/
def zoneInstantsCard : Claim7 := { stood := { row := zoneInstantsRow, standIns := [], harness := (true, "34f2d617debf30527ae43923b1cda151e4ce675f8540141125d9c57f3db858fd"), looks := false }, kinds := [], alts := [], laidByText := true, laidKinds := [.data, .data, .data, .data], laidTests := true, laidLooks := .later }
def ZoneInstantsCardSaid : Prop := Claim7.holds Tryd.pinned (.plain (OpenSpec.ofChange zoneInstantsSpec)) zoneInstantsCard

/-- THE TIED CARD OF 'timetablelaw38.ZoneOffsets'. -/
def zoneOffsetsCard : Claim7 := { stood := { row := zoneOffsetsRow, standIns := [], harness := (true, "34f2d617debf30527ae43923b1cda151e4ce675f8540141125d9c57f3db858fd"), looks := false }, kinds := [], alts := [], laidByText := true, laidKinds := [.data, .data, .data, .data], laidTests := true, laidLooks := .later }
def ZoneOffsetsCardSaid : Prop := Claim7.holds Tryd.pinned (.plain (OpenSpec.ofChange zoneOffsetsSpec)) zoneOffsetsCard

/-- THE TIED CARD OF 'timetablelaw38.ZoneInverse'. -/
def zoneInverseCard : Claim7 := { stood := { row := zoneInverseRow, standIns := [], harness := (true, "34f2d617debf30527ae43923b1cda151e4ce675f8540141125d9c57f3db858fd"), looks := false }, kinds := [], alts := [], laidByText := true, laidKinds := [.data, .data, .data, .data], laidTests := true, laidLooks := .later }
def ZoneInverseCardSaid : Prop := Claim7.holds Tryd.pinned (.plain (OpenSpec.ofChange zoneInverseSpec)) zoneInverseCard

/-- THE TIED CARD OF 'timetablelaw38.ZoneGaps'. -/
def zoneGapsCard : Claim7 := { stood := { row := zoneGapsRow, standIns := [], harness := (true, "34f2d617debf30527ae43923b1cda151e4ce675f8540141125d9c57f3db858fd"), looks := false }, kinds := [], alts := [], laidByText := true, laidKinds := [.data, .data, .data, .data], laidTests := true, laidLooks := .later }
def ZoneGapsCardSaid : Prop := Claim7.holds Tryd.pinned (.plain (OpenSpec.ofChange zoneGapsSpec)) zoneGapsCard

/-- THE TIED CARD OF 'timetablelaw38.ZoneTexts'. -/
def zoneTextsCard : Claim7 := { stood := { row := zoneTextsRow, standIns := [], harness := (true, "34f2d617debf30527ae43923b1cda151e4ce675f8540141125d9c57f3db858fd"), looks := false }, kinds := [], alts := [], laidByText := true, laidKinds := [.data, .data, .data, .data, .data, .pinned], laidTests := true, laidLooks := .later }
def ZoneTextsCardSaid : Prop := Claim7.holds Tryd.pinned (.plain (OpenSpec.ofChange zoneTextsSpec)) zoneTextsCard

/-- THE TIED CARD OF 'timetablelaw38.ZoneReads'. -/
def zoneReadsCard : Claim7 := { stood := { row := zoneReadsRow, standIns := [], harness := (true, "34f2d617debf30527ae43923b1cda151e4ce675f8540141125d9c57f3db858fd"), looks := false }, kinds := [], alts := [], laidByText := true, laidKinds := [.data, .data, .data, .data, .data, .pinned], laidTests := true, laidLooks := .later }
def ZoneReadsCardSaid : Prop := Claim7.holds Tryd.pinned (.plain (OpenSpec.ofChange zoneReadsSpec)) zoneReadsCard

/-- THE SECOND FORM's CARD OF 'timetablelaw38.ZoneInstants'. -/
def zoneInstantsUptoCard : Claim7 := { stood := { row := zoneInstantsUptoRow, standIns := [], harness := (true, "34f2d617debf30527ae43923b1cda151e4ce675f8540141125d9c57f3db858fd"), looks := false }, kinds := [], alts := [], laidByText := true, laidKinds := [.data, .data, .data, .data], laidTests := true, laidLooks := .later }
def ZoneInstantsUptoCardSaid : Prop := Claim7.holds Tryd.pinned (.plain (OpenSpec.upto zoneInstantsSpec)) zoneInstantsUptoCard

/-- THE SECOND FORM's CARD OF 'timetablelaw38.ZoneOffsets'. -/
def zoneOffsetsUptoCard : Claim7 := { stood := { row := zoneOffsetsUptoRow, standIns := [], harness := (true, "34f2d617debf30527ae43923b1cda151e4ce675f8540141125d9c57f3db858fd"), looks := false }, kinds := [], alts := [], laidByText := true, laidKinds := [.data, .data, .data, .data], laidTests := true, laidLooks := .later }
def ZoneOffsetsUptoCardSaid : Prop := Claim7.holds Tryd.pinned (.plain (OpenSpec.upto zoneOffsetsSpec)) zoneOffsetsUptoCard

/-- THE SECOND FORM's CARD OF 'timetablelaw38.ZoneInverse'. -/
def zoneInverseUptoCard : Claim7 := { stood := { row := zoneInverseUptoRow, standIns := [], harness := (true, "34f2d617debf30527ae43923b1cda151e4ce675f8540141125d9c57f3db858fd"), looks := false }, kinds := [], alts := [], laidByText := true, laidKinds := [.data, .data, .data, .data], laidTests := true, laidLooks := .later }
def ZoneInverseUptoCardSaid : Prop := Claim7.holds Tryd.pinned (.plain (OpenSpec.upto zoneInverseSpec)) zoneInverseUptoCard

/-- THE SECOND FORM's CARD OF 'timetablelaw38.ZoneGaps'. -/
def zoneGapsUptoCard : Claim7 := { stood := { row := zoneGapsUptoRow, standIns := [], harness := (true, "34f2d617debf30527ae43923b1cda151e4ce675f8540141125d9c57f3db858fd"), looks := false }, kinds := [], alts := [], laidByText := true, laidKinds := [.data, .data, .data, .data], laidTests := true, laidLooks := .later }
def ZoneGapsUptoCardSaid : Prop := Claim7.holds Tryd.pinned (.plain (OpenSpec.upto zoneGapsSpec)) zoneGapsUptoCard

/-- THE SECOND FORM's CARD OF 'timetablelaw38.ZoneTexts'. -/
def zoneTextsUptoCard : Claim7 := { stood := { row := zoneTextsUptoRow, standIns := [], harness := (true, "34f2d617debf30527ae43923b1cda151e4ce675f8540141125d9c57f3db858fd"), looks := false }, kinds := [], alts := [], laidByText := true, laidKinds := [.data, .data, .data, .data, .data, .pinned], laidTests := true, laidLooks := .later }
def ZoneTextsUptoCardSaid : Prop := Claim7.holds Tryd.pinned (.plain (OpenSpec.upto zoneTextsSpec)) zoneTextsUptoCard

/-- THE SECOND FORM's CARD OF 'timetablelaw38.ZoneReads'. -/
def zoneReadsUptoCard : Claim7 := { stood := { row := zoneReadsUptoRow, standIns := [], harness := (true, "34f2d617debf30527ae43923b1cda151e4ce675f8540141125d9c57f3db858fd"), looks := false }, kinds := [], alts := [], laidByText := true, laidKinds := [.data, .data, .data, .data, .data, .pinned], laidTests := true, laidLooks := .later }
def ZoneReadsUptoCardSaid : Prop := Claim7.holds Tryd.pinned (.plain (OpenSpec.upto zoneReadsSpec)) zoneReadsUptoCard
end Rows
end Go.Proofs.YtllcoocllkaanaaDoor
