/-
  DERIVED. GIVEN WITH THE SEED: THE CARDS: each row of YtmnoiknpamfmoaaDoorRows.lean that lists a variable, with what it lists TIED to the program's text (the seventh form; the later family's looks); each row that meets fmt, with fmt's text TOLD by the authors' own Lean function (tested against real Go, not proved from fmt's source: count such statements apart). THE CARD IS WHAT COUNTS. Prove the row's statement (the work); the ties are given (YtmnoiknpamfmoaaDoorTie.lean); close each card by the builder's one call (the guide's Derived/Test/ToyasCard.lean, 'card_holds'). Laid BY PROGRAM, IN A SANDBOX (cutbox-door.mjs). By AI agents, Wed Nov 11 2026. No macro, syntax, notation, axiom, sorry.
-/
import Derived.Test.YtmnoiknpamfmoaaDoorRows
import GoSem.ClaimSeven
namespace Go.Proofs.YtmnoiknpamfmoaaDoor
namespace Rows

/-- THE TIED CARD OF 'timetablelaw01.CharsetDecodes'. -/
def charsetDecodesCard : Claim7 := { stood := { row := charsetDecodesRow, standIns := [], harness := (true, "f1f4d39c9345c2a5812fe6c86a35ee12417861c6047bf25d9403df9e613d1412"), looks := false }, kinds := [], alts := [], laidByText := true, laidKinds := [.data, .pinned], laidTests := true, laidLooks := .later }
def CharsetDecodesCardSaid : Prop := Claim7.holds Tryd.pinned (.plain (OpenSpec.ofChange charsetDecodesSpec)) charsetDecodesCard

/-- THE TIED CARD OF 'timetablelaw01.CharsetMends'. -/
def charsetMendsCard : Claim7 := { stood := { row := charsetMendsRow, standIns := [], harness := (true, "f1f4d39c9345c2a5812fe6c86a35ee12417861c6047bf25d9403df9e613d1412"), looks := false }, kinds := [], alts := [], laidByText := true, laidKinds := [.data, .pinned], laidTests := true, laidLooks := .later }
def CharsetMendsCardSaid : Prop := Claim7.holds Tryd.pinned (.plain (OpenSpec.ofChange charsetMendsSpec)) charsetMendsCard

/-- THE TIED CARD OF 'timetablelaw01.CharsetEncodes'. -/
def charsetEncodesCard : Claim7 := { stood := { row := charsetEncodesRow, standIns := [], harness := (true, "f1f4d39c9345c2a5812fe6c86a35ee12417861c6047bf25d9403df9e613d1412"), looks := false }, kinds := [], alts := [], laidByText := true, laidKinds := [.data, .pinned], laidTests := true, laidLooks := .later }
def CharsetEncodesCardSaid : Prop := Claim7.holds Tryd.pinned (.plain (OpenSpec.ofChange charsetEncodesSpec)) charsetEncodesCard

/-- THE TIED CARD OF 'timetablelaw01.CharsetDetects'. -/
def charsetDetectsCard : Claim7 := { stood := { row := charsetDetectsRow, standIns := [], harness := (true, "f1f4d39c9345c2a5812fe6c86a35ee12417861c6047bf25d9403df9e613d1412"), looks := false }, kinds := [], alts := [], laidByText := true, laidKinds := [.data, .pinned], laidTests := true, laidLooks := .later }
def CharsetDetectsCardSaid : Prop := Claim7.holds Tryd.pinned (.plain (OpenSpec.ofChange charsetDetectsSpec)) charsetDetectsCard

/-- THE TIED CARD OF 'timetablelaw01.CharsetReturns'. -/
def charsetReturnsCard : Claim7 := { stood := { row := charsetReturnsRow, standIns := [], harness := (true, "f1f4d39c9345c2a5812fe6c86a35ee12417861c6047bf25d9403df9e613d1412"), looks := false }, kinds := [], alts := [], laidByText := true, laidKinds := [.data, .pinned], laidTests := true, laidLooks := .later }
def CharsetReturnsCardSaid : Prop := Claim7.holds Tryd.pinned (.plain (OpenSpec.ofChange charsetReturnsSpec)) charsetReturnsCard

/-- THE SECOND FORM's CARD OF 'timetablelaw01.CharsetDecodes'. -/
def charsetDecodesUptoCard : Claim7 := { stood := { row := charsetDecodesUptoRow, standIns := [], harness := (true, "f1f4d39c9345c2a5812fe6c86a35ee12417861c6047bf25d9403df9e613d1412"), looks := false }, kinds := [], alts := [], laidByText := true, laidKinds := [.data, .pinned], laidTests := true, laidLooks := .later }
def CharsetDecodesUptoCardSaid : Prop := Claim7.holds Tryd.pinned (.plain (OpenSpec.upto charsetDecodesSpec)) charsetDecodesUptoCard

/-- THE SECOND FORM's CARD OF 'timetablelaw01.CharsetMends'. -/
def charsetMendsUptoCard : Claim7 := { stood := { row := charsetMendsUptoRow, standIns := [], harness := (true, "f1f4d39c9345c2a5812fe6c86a35ee12417861c6047bf25d9403df9e613d1412"), looks := false }, kinds := [], alts := [], laidByText := true, laidKinds := [.data, .pinned], laidTests := true, laidLooks := .later }
def CharsetMendsUptoCardSaid : Prop := Claim7.holds Tryd.pinned (.plain (OpenSpec.upto charsetMendsSpec)) charsetMendsUptoCard

/-- THE SECOND FORM's CARD OF 'timetablelaw01.CharsetEncodes'. -/
def charsetEncodesUptoCard : Claim7 := { stood := { row := charsetEncodesUptoRow, standIns := [], harness := (true, "f1f4d39c9345c2a5812fe6c86a35ee12417861c6047bf25d9403df9e613d1412"), looks := false }, kinds := [], alts := [], laidByText := true, laidKinds := [.data, .pinned], laidTests := true, laidLooks := .later }
def CharsetEncodesUptoCardSaid : Prop := Claim7.holds Tryd.pinned (.plain (OpenSpec.upto charsetEncodesSpec)) charsetEncodesUptoCard

/-- THE SECOND FORM's CARD OF 'timetablelaw01.CharsetDetects'. -/
def charsetDetectsUptoCard : Claim7 := { stood := { row := charsetDetectsUptoRow, standIns := [], harness := (true, "f1f4d39c9345c2a5812fe6c86a35ee12417861c6047bf25d9403df9e613d1412"), looks := false }, kinds := [], alts := [], laidByText := true, laidKinds := [.data, .pinned], laidTests := true, laidLooks := .later }
def CharsetDetectsUptoCardSaid : Prop := Claim7.holds Tryd.pinned (.plain (OpenSpec.upto charsetDetectsSpec)) charsetDetectsUptoCard

/-- THE SECOND FORM's CARD OF 'timetablelaw01.CharsetReturns'. -/
def charsetReturnsUptoCard : Claim7 := { stood := { row := charsetReturnsUptoRow, standIns := [], harness := (true, "f1f4d39c9345c2a5812fe6c86a35ee12417861c6047bf25d9403df9e613d1412"), looks := false }, kinds := [], alts := [], laidByText := true, laidKinds := [.data, .pinned], laidTests := true, laidLooks := .later }
def CharsetReturnsUptoCardSaid : Prop := Claim7.holds Tryd.pinned (.plain (OpenSpec.upto charsetReturnsSpec)) charsetReturnsUptoCard
end Rows
end Go.Proofs.YtmnoiknpamfmoaaDoor
