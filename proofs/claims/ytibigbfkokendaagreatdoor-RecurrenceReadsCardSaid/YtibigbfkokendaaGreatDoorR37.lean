/- Series: a series without its exceptions, of the reference. -/
import Derived.Test.YtibigbfkokendaaGreatDoorR35
namespace Go.Proofs.YtibigbfkokendaaGreatDoor
open Go.RowKit Go.Maps TT

set_option maxRecDepth 100000 in
set_option maxHeartbeats 1000000 in
theorem rplain_any (f l e k : Int) (a : Option Addr) (n c : Nat) (b : Option Addr) (m q : Nat) (w : World) :
    Calls Tryz.prog 13 #[serV f l e k a n c b m q] w (RetB (serV f l e k none 0 0 none 0 0) w) := by
  have hb1 : Below w.heap.size w (w.alloc (.cells #[.int .i64 f, .int .i64 l, .int .i64 e, .int .i64 k, .slice none 0 0, .slice none 0 0] 24)) := (Below.refl _ _).alloc (Nat.le_refl _) _
  have HB := Lib.hid (hb1.alloc hb1.size (.cells #[.int .i64 f, .int .i64 l, .int .i64 e, .int .i64 k, .slice none 0 0, .slice none 0 0] 24))
  have HR := Lib.hid (show ((w.alloc (.cells #[.int .i64 f, .int .i64 l, .int .i64 e, .int .i64 k, .slice none 0 0, .slice none 0 0] 24)).alloc (.cells #[.int .i64 f, .int .i64 l, .int .i64 e, .int .i64 k, .slice none 0 0, .slice none 0 0] 24)).heap[w.heap.size + 1]? = some (cells6 f l e k (.slice none 0 0) (.slice none 0 0)) by
    have := World.alloc_heap_new (w.alloc (.cells #[.int .i64 f, .int .i64 l, .int .i64 e, .int .i64 k, .slice none 0 0, .slice none 0 0] 24)) (.cells #[.int .i64 f, .int .i64 l, .int .i64 e, .int .i64 k, .slice none 0 0, .slice none 0 0] 24)
    rw [World.size_alloc] at this; exact this)
  clear hb1
  go_enter Tryz.func13, Tryz.ntmps13
  go_wp2_with fail
  obtain ⟨p0, p1, p2, p3, p4, p5, _⟩ := c6_cells HR.out
  refine bodyPost_ret (v := serV f l e k none 0 0 none 0 0) (by simp [results, Tryz.results13, go_sem, p0, p1, p2, p3, p4, p5]) rfl ?_
  exact ⟨rfl, HB.out⟩

end Go.Proofs.YtibigbfkokendaaGreatDoor
