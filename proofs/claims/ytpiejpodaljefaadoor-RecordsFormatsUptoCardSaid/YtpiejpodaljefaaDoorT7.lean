import Derived.Test.YtpiejpodaljefaaDoorT6
import Derived.Test.YtpiejpodaljefaaDoorT5
import Derived.Test.YtpiejpodaljefaaDoorT2
namespace Go.Proofs.YtpiejpodaljefaaDoor
open Go.RowKit

set_option maxRecDepth 100000 in
theorem agree_any (s : ByteArray) (d q : UInt8) (w : World) (hs : s.size ≤ 9223372036854775807) :
    Calls Tryd.prog 12 #[.string s, .agg #[.int .u8 d.toNat, .int .u8 q.toNat]] w (RetB (.bool true) w) := by
  go_enter Tryd.func12, Tryd.ntmps12
  go_wp2_with fail
  refine (parse_any s d q _ hs).mono ?_
  rintro e w1 ⟨va, vb, rfl, hr1, hp1, hb1⟩
  have hdx := (hb1.block w.heap.size (by simp)).trans (heap_alloc_new w (.cells #[.int .u8 d.toNat, .int .u8 q.toNat] 23))
  obtain ⟨d0, d1⟩ := cells2_of hdx
  have HB1 := Lib.hid (below2 hb1)
  have HR1 := Lib.hid hr1
  have HP1 := Lib.hid hp1
  clear hb1 hr1 hp1 hdx
  go_wp2_with fail
  refine (rparse_any s d q _ hs).mono ?_
  rintro e w2 ⟨vc, vd, rfl, hr2, hp2, hb2⟩
  have HR1 := Lib.hid (HR1.out.below hb2)
  have HP1 := Lib.hid (HP1.out.below hb2)
  have HR2 := Lib.hid hr2
  have HP2 := Lib.hid hp2
  have HB2 := Lib.hid (below3 HB1.out hb2)
  clear hb2 hr2 hp2 d0 d1 HB1
  go_wp2_with fail
  refine (same_any va vc _ _ _ _ HR1.out HR2.out).mono ?_
  rintro e w3 ⟨rfl, m, rfl⟩
  go_wp2_with fail
  refine (sameProblems_any vb vd _ _ _ _ (HP1.out.below (below_drewN _ _)) (HP2.out.below (below_drewN _ _))).mono ?_
  rintro e w4 ⟨rfl, m2, rfl⟩
  go_wp2_with fail
  go_ret
  exact ⟨rfl, bel_drewN HB2.out _⟩
end Go.Proofs.YtpiejpodaljefaaDoor
