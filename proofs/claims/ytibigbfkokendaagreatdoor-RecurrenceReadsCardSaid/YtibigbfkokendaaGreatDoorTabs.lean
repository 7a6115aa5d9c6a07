/- Series: the tables that lie in memory, from the row's condition. -/
import Derived.Test.YtibigbfkokendaaGreatDoorR20
import Derived.Test.YtibigbfkokendaaGreatDoorRows
import Derived.Stop.LaidErr
namespace Go.Proofs.YtibigbfkokendaaGreatDoor
open Go Go.RowKit

theorem gLens : Tryz.prog.globalNamed "timetable/calendar.lengths" = some 0 := by kernel_rfl
theorem gLensType : (Tryz.prog.globals[0]?).map (·.type) = some 93 := by kernel_rfl
theorem gPow : Tryz.prog.globalNamed "internal/strconv.uint64pow10" = some 1 := by kernel_rfl
theorem gPowType : (Tryz.prog.globals[1]?).map (·.type) = some 128 := by kernel_rfl
theorem uU64 : Tryz.prog.underlying 109 = some (.int .u64) := by kernel_rfl
theorem uInt : Tryz.prog.underlying 3 = some (.int .i64) := by kernel_rfl
theorem cU64 : Tryz.prog.cellsOf 109 = 1 := by kernel_rfl
theorem cInt : Tryz.prog.cellsOf 3 = 1 := by kernel_rfl
theorem cPow : Tryz.prog.cellsOf 128 = 20 := by kernel_rfl
theorem cLens : Tryz.prog.cellsOf 93 = 12 := by kernel_rfl
theorem pow_data : (Rows.laid_internal_strconv_uint64pow10 : DataW Unit) = Lib.tabData .u64 Lib.pow10Tab := by kernel_rfl
theorem lens_data : (Rows.laid_timetable_calendar_lengths : DataW Unit) = Lib.tabData .i64 [31, 28, 31, 30, 31, 30, 31, 31, 30, 31, 30, 31] := by kernel_rfl
theorem tbs_of {W : World} {a b : String × DataW Unit} {r : List (String × DataW Unit)} (h : laidMet Tryz.prog (a :: b :: ("internal/strconv.uint64pow10", Rows.laid_internal_strconv_uint64pow10) :: ("timetable/calendar.lengths", Rows.laid_timetable_calendar_lengths) :: r) W) : Tbs W := by
  have h2 := laidMet.tail (laidMet.tail h)
  have h3 := laidMet.tail h2
  rw [pow_data] at h2
  rw [lens_data] at h3
  have t : Lib.TabIs Tryz.prog W "timetable/calendar.lengths" .i64 [31, 28, 31, 30, 31, 30, 31, 31, 30, 31, 30, 31] :=
    Lib.tabIs_of_head gLens gLensType Tryz.underlying93 uInt cInt cLens h3
  refine ⟨Lib.tabIs_of_head gPow gPowType Tryz.underlying128 uU64 cU64 cPow h2, fun i hi => ?_⟩
  have := t.cell gLens i (by simpa using hi)
  rw [this]; rfl

end Go.Proofs.YtibigbfkokendaaGreatDoor
