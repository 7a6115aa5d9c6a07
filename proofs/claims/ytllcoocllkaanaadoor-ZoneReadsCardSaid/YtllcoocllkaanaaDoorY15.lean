/- Zones: the tables that lie in memory, from the row's condition. -/
import Derived.Test.YtllcoocllkaanaaDoorY4
import Derived.Test.YtllcoocllkaanaaDoorRows
import Derived.Stop.LaidErr
namespace Go.Proofs.YtllcoocllkaanaaDoor
open Go Go.RowKit

theorem gLens : Tryd.prog.globalNamed "timetable/calendar.lengths" = some 0 := by kernel_rfl
theorem gLensType : (Tryd.prog.globals[0]?).map (·.type) = some 91 := by kernel_rfl
theorem gPow : Tryd.prog.globalNamed "internal/strconv.uint64pow10" = some 4 := by kernel_rfl
theorem gPowType : (Tryd.prog.globals[4]?).map (·.type) = some 111 := by kernel_rfl
theorem u101 : Tryd.prog.underlying 101 = some (.int .u64) := by kernel_rfl
theorem u3 : Tryd.prog.underlying 3 = some (.int .i64) := by kernel_rfl
theorem c101 : Tryd.prog.cellsOf 101 = 1 := by kernel_rfl
theorem c3 : Tryd.prog.cellsOf 3 = 1 := by kernel_rfl
theorem c111 : Tryd.prog.cellsOf 111 = 20 := by kernel_rfl
theorem c91 : Tryd.prog.cellsOf 91 = 12 := by kernel_rfl
theorem pow_data : (Rows.laid_internal_strconv_uint64pow10 : DataW Unit) = Lib.tabData .u64 Lib.pow10Tab := by kernel_rfl
theorem lens_data : (Rows.laid_timetable_calendar_lengths : DataW Unit) = Lib.tabData .i64 [31, 28, 31, 30, 31, 30, 31, 31, 30, 31, 30, 31] := by kernel_rfl
theorem tbs_of {W : World} {a b : String × DataW Unit} {r : List (String × DataW Unit)} (h : laidMet Tryd.prog (a :: b :: ("internal/strconv.uint64pow10", Rows.laid_internal_strconv_uint64pow10) :: ("timetable/calendar.lengths", Rows.laid_timetable_calendar_lengths) :: r) W) (hsh : W.ShapedOpen Tryd.prog) : Tbs W := by
  have h2 := laidMet.tail (laidMet.tail h)
  have h3 := laidMet.tail h2
  rw [pow_data] at h2
  rw [lens_data] at h3
  have t : Lib.TabIs Tryd.prog W "timetable/calendar.lengths" .i64 [31, 28, 31, 30, 31, 30, 31, 31, 30, 31, 30, 31] :=
    Lib.tabIs_of_head gLens gLensType Tryd.underlying91 u3 c3 c91 h3
  refine ⟨Lib.tabIs_of_head gPow gPowType Tryd.underlying111 u101 c101 c111 h2, fun i hi => ?_, Tryd.laysM145.s1_3 W hsh⟩
  have := t.cell gLens i (by simpa using hi)
  rw [this]; rfl
end Go.Proofs.YtllcoocllkaanaaDoor
