/-
  DERIVED. GIVEN WITH THE SEED: THE CARDS: each row of YtihbpggbpapcfaaGreatDoorRows.lean that lists a variable, with what it lists TIED to the program's text (the seventh form; the later family's looks); each row that meets fmt, with fmt's text TOLD by the authors' own Lean function (tested against real Go, not proved from fmt's source: count such statements apart). THE CARD IS WHAT COUNTS. Prove the row's statement (the work); the ties are given (YtihbpggbpapcfaaGreatDoorTie.lean); close each card by the builder's one call (the guide's Derived/Test/ToyasCard.lean, 'card_holds'). Laid BY PROGRAM, IN A SANDBOX (cutbox-door.mjs). By AI agents, Wed Nov 11 2026. No macro, syntax, notation, axiom, sorry.
-/
import Derived.Test.YtihbpggbpapcfaaGreatDoorRows
import GoSem.ClaimSeven
namespace Go.Proofs.YtihbpggbpapcfaaGreatDoor
namespace Rows

/-- THE TIED CARD OF 'timetablelaw37.VersionsRecords'. -/
def versionsRecordsCard : Claim7 := { stood := { row := versionsRecordsRow, standIns := [], harness := (true, "929024c8d01d3891a5c1e100335d02a596f4b68f52d10e6e8f9132a148588129"), looks := true }, kinds := [], alts := [], laidByText := true, laidKinds := [.data, .data, .data, .data, .sentinel, .sentinel, .sentinel, .pinned], laidTests := true, laidLooks := .later }
def VersionsRecordsCardSaid : Prop := Claim7.holds Tryz.pinned (.plain (OpenSpec.ofChange versionsRecordsSpec)) versionsRecordsCard

/-- THE TIED CARD OF 'timetablelaw37.VersionsReads'. -/
def versionsReadsCard : Claim7 := { stood := { row := versionsReadsRow, standIns := [], harness := (true, "929024c8d01d3891a5c1e100335d02a596f4b68f52d10e6e8f9132a148588129"), looks := true }, kinds := [], alts := [], laidByText := true, laidKinds := [.data, .data, .data, .data, .sentinel, .sentinel, .sentinel, .pinned], laidTests := true, laidLooks := .later }
def VersionsReadsCardSaid : Prop := Claim7.holds Tryz.pinned (.plain (OpenSpec.ofChange versionsReadsSpec)) versionsReadsCard

/-- THE TIED CARD OF 'timetablelaw37.VersionsFlips'. -/
def versionsFlipsCard : Claim7 := { stood := { row := versionsFlipsRow, standIns := [], harness := (true, "929024c8d01d3891a5c1e100335d02a596f4b68f52d10e6e8f9132a148588129"), looks := true }, kinds := [], alts := [], laidByText := true, laidKinds := [.data, .data, .data, .data, .sentinel, .sentinel, .sentinel, .pinned], laidTests := true, laidLooks := .later }
def VersionsFlipsCardSaid : Prop := Claim7.holds Tryz.pinned (.plain (OpenSpec.ofChange versionsFlipsSpec)) versionsFlipsCard

/-- THE TIED CARD OF 'timetablelaw37.VersionsOpens'. -/
def versionsOpensCard : Claim7 := { stood := { row := versionsOpensRow, standIns := [], harness := (true, "929024c8d01d3891a5c1e100335d02a596f4b68f52d10e6e8f9132a148588129"), looks := true }, kinds := [], alts := [], laidByText := true, laidKinds := [.data, .data, .data, .data, .sentinel, .sentinel, .sentinel, .pinned], laidTests := true, laidLooks := .later }
def VersionsOpensCardSaid : Prop := Claim7.holds Tryz.pinned (.plain (OpenSpec.ofChange versionsOpensSpec)) versionsOpensCard

/-- THE TIED CARD OF 'timetablelaw37.VersionsPublishes'. -/
def versionsPublishesCard : Claim7 := { stood := { row := versionsPublishesRow, standIns := [], harness := (true, "929024c8d01d3891a5c1e100335d02a596f4b68f52d10e6e8f9132a148588129"), looks := true }, kinds := [], alts := [], laidByText := true, laidKinds := [.data, .data, .data, .data, .sentinel, .sentinel, .sentinel, .pinned], laidTests := true, laidLooks := .later }
def VersionsPublishesCardSaid : Prop := Claim7.holds Tryz.pinned (.plain (OpenSpec.ofChange versionsPublishesSpec)) versionsPublishesCard

/-- THE TIED CARD OF 'timetablelaw37.VersionsStates'. -/
def versionsStatesCard : Claim7 := { stood := { row := versionsStatesRow, standIns := [], harness := (true, "929024c8d01d3891a5c1e100335d02a596f4b68f52d10e6e8f9132a148588129"), looks := true }, kinds := [], alts := [], laidByText := true, laidKinds := [.data, .data, .data, .data, .sentinel, .sentinel, .sentinel, .pinned], laidTests := true, laidLooks := .later }
def VersionsStatesCardSaid : Prop := Claim7.holds Tryz.pinned (.plain (OpenSpec.ofChange versionsStatesSpec)) versionsStatesCard

/-- THE TIED CARD OF 'timetablelaw37.VersionsCrashes'. -/
def versionsCrashesCard : Claim7 := { stood := { row := versionsCrashesRow, standIns := [], harness := (true, "929024c8d01d3891a5c1e100335d02a596f4b68f52d10e6e8f9132a148588129"), looks := true }, kinds := [], alts := [], laidByText := true, laidKinds := [.data, .data, .data, .data, .sentinel, .sentinel, .sentinel, .pinned], laidTests := true, laidLooks := .later }
def VersionsCrashesCardSaid : Prop := Claim7.holds Tryz.pinned (.plain (OpenSpec.ofChange versionsCrashesSpec)) versionsCrashesCard

/-- THE TIED CARD OF 'timetablelaw37.VersionsPrefix'. -/
def versionsPrefixCard : Claim7 := { stood := { row := versionsPrefixRow, standIns := [], harness := (true, "929024c8d01d3891a5c1e100335d02a596f4b68f52d10e6e8f9132a148588129"), looks := true }, kinds := [], alts := [], laidByText := true, laidKinds := [.data, .data, .data, .data, .sentinel, .sentinel, .sentinel, .pinned], laidTests := true, laidLooks := .later }
def VersionsPrefixCardSaid : Prop := Claim7.holds Tryz.pinned (.plain (OpenSpec.ofChange versionsPrefixSpec)) versionsPrefixCard

/-- THE TIED CARD OF 'timetablelaw37.VersionsHeld'. -/
def versionsHeldCard : Claim7 := { stood := { row := versionsHeldRow, standIns := [], harness := (true, "929024c8d01d3891a5c1e100335d02a596f4b68f52d10e6e8f9132a148588129"), looks := true }, kinds := [], alts := [], laidByText := true, laidKinds := [.data, .data, .data, .data, .sentinel, .sentinel, .sentinel, .pinned], laidTests := true, laidLooks := .later }
def VersionsHeldCardSaid : Prop := Claim7.holds Tryz.pinned (.plain (OpenSpec.ofChange versionsHeldSpec)) versionsHeldCard

/-- THE SECOND FORM's CARD OF 'timetablelaw37.VersionsRecords'. -/
def versionsRecordsUptoCard : Claim7 := { stood := { row := versionsRecordsUptoRow, standIns := [], harness := (true, "929024c8d01d3891a5c1e100335d02a596f4b68f52d10e6e8f9132a148588129"), looks := true }, kinds := [], alts := [], laidByText := true, laidKinds := [.data, .data, .data, .data, .sentinel, .sentinel, .sentinel, .pinned], laidTests := true, laidLooks := .later }
def VersionsRecordsUptoCardSaid : Prop := Claim7.holds Tryz.pinned (.plain (OpenSpec.upto versionsRecordsSpec)) versionsRecordsUptoCard

/-- THE SECOND FORM's CARD OF 'timetablelaw37.VersionsReads'. -/
def versionsReadsUptoCard : Claim7 := { stood := { row := versionsReadsUptoRow, standIns := [], harness := (true, "929024c8d01d3891a5c1e100335d02a596f4b68f52d10e6e8f9132a148588129"), looks := true }, kinds := [], alts := [], laidByText := true, laidKinds := [.data, .data, .data, .data, .sentinel, .sentinel, .sentinel, .pinned], laidTests := true, laidLooks := .later }
def VersionsReadsUptoCardSaid : Prop := Claim7.holds Tryz.pinned (.plain (OpenSpec.upto versionsReadsSpec)) versionsReadsUptoCard

/-- THE SECOND FORM's CARD OF 'timetablelaw37.VersionsFlips'. -/
def versionsFlipsUptoCard : Claim7 := { stood := { row := versionsFlipsUptoRow, standIns := [], harness := (true, "929024c8d01d3891a5c1e100335d02a596f4b68f52d10e6e8f9132a148588129"), looks := true }, kinds := [], alts := [], laidByText := true, laidKinds := [.data, .data, .data, .data, .sentinel, .sentinel, .sentinel, .pinned], laidTests := true, laidLooks := .later }
def VersionsFlipsUptoCardSaid : Prop := Claim7.holds Tryz.pinned (.plain (OpenSpec.upto versionsFlipsSpec)) versionsFlipsUptoCard

/-- THE SECOND FORM's CARD OF 'timetablelaw37.VersionsOpens'. -/
def versionsOpensUptoCard : Claim7 := { stood := { row := versionsOpensUptoRow, standIns := [], harness := (true, "929024c8d01d3891a5c1e100335d02a596f4b68f52d10e6e8f9132a148588129"), looks := true }, kinds := [], alts := [], laidByText := true, laidKinds := [.data, .data, .data, .data, .sentinel, .sentinel, .sentinel, .pinned], laidTests := true, laidLooks := .later }
def VersionsOpensUptoCardSaid : Prop := Claim7.holds Tryz.pinned (.plain (OpenSpec.upto versionsOpensSpec)) versionsOpensUptoCard

/-- THE SECOND FORM's CARD OF 'timetablelaw37.VersionsPublishes'. -/
def versionsPublishesUptoCard : Claim7 := { stood := { row := versionsPublishesUptoRow, standIns := [], harness := (true, "929024c8d01d3891a5c1e100335d02a596f4b68f52d10e6e8f9132a148588129"), looks := true }, kinds := [], alts := [], laidByText := true, laidKinds := [.data, .data, .data, .data, .sentinel, .sentinel, .sentinel, .pinned], laidTests := true, laidLooks := .later }
def VersionsPublishesUptoCardSaid : Prop := Claim7.holds Tryz.pinned (.plain (OpenSpec.upto versionsPublishesSpec)) versionsPublishesUptoCard

/-- THE SECOND FORM's CARD OF 'timetablelaw37.VersionsStates'. -/
def versionsStatesUptoCard : Claim7 := { stood := { row := versionsStatesUptoRow, standIns := [], harness := (true, "929024c8d01d3891a5c1e100335d02a596f4b68f52d10e6e8f9132a148588129"), looks := true }, kinds := [], alts := [], laidByText := true, laidKinds := [.data, .data, .data, .data, .sentinel, .sentinel, .sentinel, .pinned], laidTests := true, laidLooks := .later }
def VersionsStatesUptoCardSaid : Prop := Claim7.holds Tryz.pinned (.plain (OpenSpec.upto versionsStatesSpec)) versionsStatesUptoCard

/-- THE SECOND FORM's CARD OF 'timetablelaw37.VersionsCrashes'. -/
def versionsCrashesUptoCard : Claim7 := { stood := { row := versionsCrashesUptoRow, standIns := [], harness := (true, "929024c8d01d3891a5c1e100335d02a596f4b68f52d10e6e8f9132a148588129"), looks := true }, kinds := [], alts := [], laidByText := true, laidKinds := [.data, .data, .data, .data, .sentinel, .sentinel, .sentinel, .pinned], laidTests := true, laidLooks := .later }
def VersionsCrashesUptoCardSaid : Prop := Claim7.holds Tryz.pinned (.plain (OpenSpec.upto versionsCrashesSpec)) versionsCrashesUptoCard

/-- THE SECOND FORM's CARD OF 'timetablelaw37.VersionsPrefix'. -/
def versionsPrefixUptoCard : Claim7 := { stood := { row := versionsPrefixUptoRow, standIns := [], harness := (true, "929024c8d01d3891a5c1e100335d02a596f4b68f52d10e6e8f9132a148588129"), looks := true }, kinds := [], alts := [], laidByText := true, laidKinds := [.data, .data, .data, .data, .sentinel, .sentinel, .sentinel, .pinned], laidTests := true, laidLooks := .later }
def VersionsPrefixUptoCardSaid : Prop := Claim7.holds Tryz.pinned (.plain (OpenSpec.upto versionsPrefixSpec)) versionsPrefixUptoCard

/-- THE SECOND FORM's CARD OF 'timetablelaw37.VersionsHeld'. -/
def versionsHeldUptoCard : Claim7 := { stood := { row := versionsHeldUptoRow, standIns := [], harness := (true, "929024c8d01d3891a5c1e100335d02a596f4b68f52d10e6e8f9132a148588129"), looks := true }, kinds := [], alts := [], laidByText := true, laidKinds := [.data, .data, .data, .data, .sentinel, .sentinel, .sentinel, .pinned], laidTests := true, laidLooks := .later }
def VersionsHeldUptoCardSaid : Prop := Claim7.holds Tryz.pinned (.plain (OpenSpec.upto versionsHeldSpec)) versionsHeldUptoCard
end Rows
end Go.Proofs.YtihbpggbpapcfaaGreatDoor
