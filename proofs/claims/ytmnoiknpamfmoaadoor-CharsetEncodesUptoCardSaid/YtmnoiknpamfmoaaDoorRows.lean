/-
  NARROWER THAN 'FOR EVERY INPUT', by the rows' own cells (each row's printed sentence says how): CharsetDecodes: laid · CharsetMends: laid · CharsetEncodes: laid · CharsetDetects: laid · CharsetReturns: laid.
  DERIVED. THE GIVEN ROWS OF THIS SEAT. 5 by the template 'for every input the law returns true; each argument reads behind the call as it read before'; 0 by the template 'total and deterministic' (their statements: YtmnoiknpamfmoaaDoorTotals.lean).
  GIVEN WITH THE SEED: the statements are not yours to turn. If you find one false, say at which input.
  Laid BY PROGRAM, IN A SANDBOX (cutbox-rows.mjs): the forced cells as the released guide's own fill.sh prints them over the translation 8c5f4487a3e5c444… (all of the seat's roots in one cut). By AI agents, Wed Nov 11 2026. No macro, syntax, notation, axiom, sorry.
-/
import Derived.Test.YtmnoiknpamfmoaaDoorChecked
import GoSem.PinnedTables
import GoSem.Claim
import GoSem.ClaimJoined
import GoSem.ClaimMapViews
import Derived.JoinedTies
import Derived.KernelRfl
namespace Go.Proofs.YtmnoiknpamfmoaaDoor
/- THE CELL 'sum', in the pinned program and in every row, IS THE sha256 OF THE DUMP (.gsa) THAT YtmnoiknpamfmoaaDoorProg.lean LOADS. Nothing in Lean hashes anything: it is a label: what it is worth is what the hold of that sum in a sandbox is worth. -/
noncomputable def Tryd.pinned : Pinned := { name := "ytmnoiknpamfmoaadoor", sum := "8c5f4487a3e5c4443b18861a6b4da9bef5c8f67f2009915e68ea3a386e148a63", checked := Tryd.checked }
namespace Rows
def none {H : Type} : Left H := { results := [], args := [] }

/- WHAT THE LISTED PACKAGE-LEVEL VARIABLES READ AS WHEN THE CALL BEGINS. Each datum BY PROGRAM (the guide's laid-datum.mjs) off the statement by which the dump's own 'gosem.cut.vars' lays the variable. In a bare row this is a premise. The card (YtmnoiknpamfmoaaDoorCards.lean) ties it to the program's text. -/
def laid_unicode_utf8_acceptRanges {H : Type} : DataW H := .agg [.agg [.lit (.int .u8 128), .lit (.int .u8 191)], .agg [.lit (.int .u8 160), .lit (.int .u8 191)], .agg [.lit (.int .u8 128), .lit (.int .u8 159)], .agg [.lit (.int .u8 144), .lit (.int .u8 191)], .agg [.lit (.int .u8 128), .lit (.int .u8 143)], .agg [.lit (.int .u8 0), .lit (.int .u8 0)], .agg [.lit (.int .u8 0), .lit (.int .u8 0)], .agg [.lit (.int .u8 0), .lit (.int .u8 0)], .agg [.lit (.int .u8 0), .lit (.int .u8 0)], .agg [.lit (.int .u8 0), .lit (.int .u8 0)], .agg [.lit (.int .u8 0), .lit (.int .u8 0)], .agg [.lit (.int .u8 0), .lit (.int .u8 0)], .agg [.lit (.int .u8 0), .lit (.int .u8 0)], .agg [.lit (.int .u8 0), .lit (.int .u8 0)], .agg [.lit (.int .u8 0), .lit (.int .u8 0)], .agg [.lit (.int .u8 0), .lit (.int .u8 0)]]
/-- One of Go's own tables, pinned by name: the form's constant. -/
def laid_unicode_utf8_first : DataW Unit := Go.Pinned.utf8First

/-- 'timetablelaw01.CharsetDecodes': WHATEVER THE INPUT: true; the input reads as it did. -/
def charsetDecodesSpec : ChangeSpec := { name := "charsetDecodes", fn := fun _ => fun
  | [d1, d2] => { results := [.lit (.bool true)], args := [d1, d2] }
  | _ => none }
def charsetDecodesRow : OpenClaim := { program := "ytmnoiknpamfmoaadoor", sum := "8c5f4487a3e5c4443b18861a6b4da9bef5c8f67f2009915e68ea3a386e148a63", func := "timetable/timetablelaw01.CharsetDecodes", spec := "charsetDecodes", inPlace := ["internal/abi.NoEscape"], named := ["unicode/utf8.first", "unicode/utf8.acceptRanges"], apart := false, laid := [("unicode/utf8.acceptRanges", laid_unicode_utf8_acceptRanges), ("unicode/utf8.first", laid_unicode_utf8_first)] }
def CharsetDecodesSaid : Prop := charsetDecodesRow.holds Tryd.pinned (OpenSpec.ofChange charsetDecodesSpec)

/-- ITS FALSE NEIGHBOUR: 'it returns false'. Refute it at one input. -/
def charsetDecodesWrong : ChangeSpec := { name := "charsetDecodes", fn := fun _ => fun
  | [d1, d2] => { results := [.lit (.bool false)], args := [d1, d2] }
  | _ => none }
def CharsetDecodesWrongFalsely : Prop := charsetDecodesRow.holds Tryd.pinned (OpenSpec.ofChange charsetDecodesWrong)

/-- 'timetablelaw01.CharsetMends': WHATEVER THE INPUT: true; the input reads as it did. -/
def charsetMendsSpec : ChangeSpec := { name := "charsetMends", fn := fun _ => fun
  | [d1, d2] => { results := [.lit (.bool true)], args := [d1, d2] }
  | _ => none }
def charsetMendsRow : OpenClaim := { program := "ytmnoiknpamfmoaadoor", sum := "8c5f4487a3e5c4443b18861a6b4da9bef5c8f67f2009915e68ea3a386e148a63", func := "timetable/timetablelaw01.CharsetMends", spec := "charsetMends", inPlace := ["internal/abi.NoEscape"], named := ["unicode/utf8.first", "unicode/utf8.acceptRanges"], apart := false, laid := [("unicode/utf8.acceptRanges", laid_unicode_utf8_acceptRanges), ("unicode/utf8.first", laid_unicode_utf8_first)] }
def CharsetMendsSaid : Prop := charsetMendsRow.holds Tryd.pinned (OpenSpec.ofChange charsetMendsSpec)

/-- ITS FALSE NEIGHBOUR: 'it returns false'. Refute it at one input. -/
def charsetMendsWrong : ChangeSpec := { name := "charsetMends", fn := fun _ => fun
  | [d1, d2] => { results := [.lit (.bool false)], args := [d1, d2] }
  | _ => none }
def CharsetMendsWrongFalsely : Prop := charsetMendsRow.holds Tryd.pinned (OpenSpec.ofChange charsetMendsWrong)

/-- 'timetablelaw01.CharsetEncodes': WHATEVER THE INPUT: true; the input reads as it did. -/
def charsetEncodesSpec : ChangeSpec := { name := "charsetEncodes", fn := fun _ => fun
  | [d1, d2] => { results := [.lit (.bool true)], args := [d1, d2] }
  | _ => none }
def charsetEncodesRow : OpenClaim := { program := "ytmnoiknpamfmoaadoor", sum := "8c5f4487a3e5c4443b18861a6b4da9bef5c8f67f2009915e68ea3a386e148a63", func := "timetable/timetablelaw01.CharsetEncodes", spec := "charsetEncodes", inPlace := ["internal/abi.NoEscape"], named := ["unicode/utf8.first", "unicode/utf8.acceptRanges"], apart := false, laid := [("unicode/utf8.acceptRanges", laid_unicode_utf8_acceptRanges), ("unicode/utf8.first", laid_unicode_utf8_first)] }
def CharsetEncodesSaid : Prop := charsetEncodesRow.holds Tryd.pinned (OpenSpec.ofChange charsetEncodesSpec)

/-- ITS FALSE NEIGHBOUR: 'it returns false'. Refute it at one input. -/
def charsetEncodesWrong : ChangeSpec := { name := "charsetEncodes", fn := fun _ => fun
  | [d1, d2] => { results := [.lit (.bool false)], args := [d1, d2] }
  | _ => none }
def CharsetEncodesWrongFalsely : Prop := charsetEncodesRow.holds Tryd.pinned (OpenSpec.ofChange charsetEncodesWrong)

/-- 'timetablelaw01.CharsetDetects': WHATEVER THE INPUT: true; the input reads as it did. -/
def charsetDetectsSpec : ChangeSpec := { name := "charsetDetects", fn := fun _ => fun
  | [d] => { results := [.lit (.bool true)], args := [d] }
  | _ => none }
def charsetDetectsRow : OpenClaim := { program := "ytmnoiknpamfmoaadoor", sum := "8c5f4487a3e5c4443b18861a6b4da9bef5c8f67f2009915e68ea3a386e148a63", func := "timetable/timetablelaw01.CharsetDetects", spec := "charsetDetects", inPlace := ["internal/abi.NoEscape"], unfollowed := true, recurses := true, named := ["unicode/utf8.first", "unicode/utf8.acceptRanges"], apart := false, laid := [("unicode/utf8.acceptRanges", laid_unicode_utf8_acceptRanges), ("unicode/utf8.first", laid_unicode_utf8_first)] }
def CharsetDetectsSaid : Prop := charsetDetectsRow.holds Tryd.pinned (OpenSpec.ofChange charsetDetectsSpec)

/-- ITS FALSE NEIGHBOUR: 'it returns false'. Refute it at one input. -/
def charsetDetectsWrong : ChangeSpec := { name := "charsetDetects", fn := fun _ => fun
  | [d] => { results := [.lit (.bool false)], args := [d] }
  | _ => none }
def CharsetDetectsWrongFalsely : Prop := charsetDetectsRow.holds Tryd.pinned (OpenSpec.ofChange charsetDetectsWrong)

/-- 'timetablelaw01.CharsetReturns': WHATEVER THE INPUT: true; the input reads as it did. -/
def charsetReturnsSpec : ChangeSpec := { name := "charsetReturns", fn := fun _ => fun
  | [d1, d2] => { results := [.lit (.bool true)], args := [d1, d2] }
  | _ => none }
def charsetReturnsRow : OpenClaim := { program := "ytmnoiknpamfmoaadoor", sum := "8c5f4487a3e5c4443b18861a6b4da9bef5c8f67f2009915e68ea3a386e148a63", func := "timetable/timetablelaw01.CharsetReturns", spec := "charsetReturns", inPlace := ["internal/abi.NoEscape"], named := ["unicode/utf8.first", "unicode/utf8.acceptRanges"], apart := false, laid := [("unicode/utf8.acceptRanges", laid_unicode_utf8_acceptRanges), ("unicode/utf8.first", laid_unicode_utf8_first)] }
def CharsetReturnsSaid : Prop := charsetReturnsRow.holds Tryd.pinned (OpenSpec.ofChange charsetReturnsSpec)

/-- ITS FALSE NEIGHBOUR: 'it returns false'. Refute it at one input. -/
def charsetReturnsWrong : ChangeSpec := { name := "charsetReturns", fn := fun _ => fun
  | [d1, d2] => { results := [.lit (.bool false)], args := [d1, d2] }
  | _ => none }
def CharsetReturnsWrongFalsely : Prop := charsetReturnsRow.holds Tryd.pinned (OpenSpec.ofChange charsetReturnsWrong)

/- THE SECOND FORM. 'bulk': how many values and letters a reading holds, each counted each time it is reached (what is shared counts as often as it is met; a slice's spare places count too). A statement '..UptoSaid' is the law's where the arguments, and the package variables that the reading takes, are together of bulk at most 1048576: NARROWER than '..Said'. Prove '..Said' where nothing that the law and all that it calls make is longer than what came in: it says more and counts as full. Else prove '..UptoSaid'. A law counts once. -/
mutual
def uptoBulk {H : Type} : DataW H → Nat
  | .lit (.string bytes) => bytes.length + 1
  | .lit _ => 1
  | .nil => 1
  | .ptr d => uptoBulk d + 1
  | .slice elems spare => uptoBulkAll elems + uptoBulkAll spare + 1
  | .agg parts => uptoBulkAll parts + 1
  | .iface _ d => uptoBulk d + 1
  | .map entries => uptoBulkEntries entries + 1
  | .held _ => 1
def uptoBulkAll {H : Type} : List (DataW H) → Nat
  | [] => 0
  | d :: r => uptoBulk d + uptoBulkAll r
def uptoBulkEntries {H : Type} : List (Lit × DataW H) → Nat
  | [] => 0
  | x :: r => uptoBulkEntry x + uptoBulkEntries r
def uptoBulkEntry {H : Type} : Lit × DataW H → Nat
  | (.string bytes, d) => bytes.length + uptoBulk d + 1
  | (_, d) => uptoBulk d + 1
 end
def uptoSmall : (H : Type) → List (DataW H) → Bool := fun _ ds => decide (uptoBulkAll ds ≤ 1048576)
def OpenSpec.upto (s : _root_.Go.ChangeSpec) : _root_.Go.OpenSpec := { _root_.Go.OpenSpec.ofChange s with cond := some uptoSmall }

/-- 'timetablelaw01.CharsetDecodes', WHERE WHAT IT READS IS OF BULK AT MOST 1048576: true; the input reads as it did. -/
def charsetDecodesUptoRow : OpenClaim := { program := "ytmnoiknpamfmoaadoor", sum := "8c5f4487a3e5c4443b18861a6b4da9bef5c8f67f2009915e68ea3a386e148a63", func := "timetable/timetablelaw01.CharsetDecodes", spec := "charsetDecodes", inPlace := ["internal/abi.NoEscape"], named := ["unicode/utf8.first", "unicode/utf8.acceptRanges"], apart := false, laid := [("unicode/utf8.acceptRanges", laid_unicode_utf8_acceptRanges), ("unicode/utf8.first", laid_unicode_utf8_first)], narrowed := true }
def CharsetDecodesUptoSaid : Prop := charsetDecodesUptoRow.holds Tryd.pinned (OpenSpec.upto charsetDecodesSpec)

/-- 'timetablelaw01.CharsetMends', WHERE WHAT IT READS IS OF BULK AT MOST 1048576: true; the input reads as it did. -/
def charsetMendsUptoRow : OpenClaim := { program := "ytmnoiknpamfmoaadoor", sum := "8c5f4487a3e5c4443b18861a6b4da9bef5c8f67f2009915e68ea3a386e148a63", func := "timetable/timetablelaw01.CharsetMends", spec := "charsetMends", inPlace := ["internal/abi.NoEscape"], named := ["unicode/utf8.first", "unicode/utf8.acceptRanges"], apart := false, laid := [("unicode/utf8.acceptRanges", laid_unicode_utf8_acceptRanges), ("unicode/utf8.first", laid_unicode_utf8_first)], narrowed := true }
def CharsetMendsUptoSaid : Prop := charsetMendsUptoRow.holds Tryd.pinned (OpenSpec.upto charsetMendsSpec)

/-- 'timetablelaw01.CharsetEncodes', WHERE WHAT IT READS IS OF BULK AT MOST 1048576: true; the input reads as it did. -/
def charsetEncodesUptoRow : OpenClaim := { program := "ytmnoiknpamfmoaadoor", sum := "8c5f4487a3e5c4443b18861a6b4da9bef5c8f67f2009915e68ea3a386e148a63", func := "timetable/timetablelaw01.CharsetEncodes", spec := "charsetEncodes", inPlace := ["internal/abi.NoEscape"], named := ["unicode/utf8.first", "unicode/utf8.acceptRanges"], apart := false, laid := [("unicode/utf8.acceptRanges", laid_unicode_utf8_acceptRanges), ("unicode/utf8.first", laid_unicode_utf8_first)], narrowed := true }
def CharsetEncodesUptoSaid : Prop := charsetEncodesUptoRow.holds Tryd.pinned (OpenSpec.upto charsetEncodesSpec)

/-- 'timetablelaw01.CharsetDetects', WHERE WHAT IT READS IS OF BULK AT MOST 1048576: true; the input reads as it did. -/
def charsetDetectsUptoRow : OpenClaim := { program := "ytmnoiknpamfmoaadoor", sum := "8c5f4487a3e5c4443b18861a6b4da9bef5c8f67f2009915e68ea3a386e148a63", func := "timetable/timetablelaw01.CharsetDetects", spec := "charsetDetects", inPlace := ["internal/abi.NoEscape"], unfollowed := true, recurses := true, named := ["unicode/utf8.first", "unicode/utf8.acceptRanges"], apart := false, laid := [("unicode/utf8.acceptRanges", laid_unicode_utf8_acceptRanges), ("unicode/utf8.first", laid_unicode_utf8_first)], narrowed := true }
def CharsetDetectsUptoSaid : Prop := charsetDetectsUptoRow.holds Tryd.pinned (OpenSpec.upto charsetDetectsSpec)

/-- 'timetablelaw01.CharsetReturns', WHERE WHAT IT READS IS OF BULK AT MOST 1048576: true; the input reads as it did. -/
def charsetReturnsUptoRow : OpenClaim := { program := "ytmnoiknpamfmoaadoor", sum := "8c5f4487a3e5c4443b18861a6b4da9bef5c8f67f2009915e68ea3a386e148a63", func := "timetable/timetablelaw01.CharsetReturns", spec := "charsetReturns", inPlace := ["internal/abi.NoEscape"], named := ["unicode/utf8.first", "unicode/utf8.acceptRanges"], apart := false, laid := [("unicode/utf8.acceptRanges", laid_unicode_utf8_acceptRanges), ("unicode/utf8.first", laid_unicode_utf8_first)], narrowed := true }
def CharsetReturnsUptoSaid : Prop := charsetReturnsUptoRow.holds Tryd.pinned (OpenSpec.upto charsetReturnsSpec)

end Rows
end Go.Proofs.YtmnoiknpamfmoaaDoor
