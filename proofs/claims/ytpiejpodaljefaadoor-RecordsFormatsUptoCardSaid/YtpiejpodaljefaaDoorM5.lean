import Derived.Test.YtpiejpodaljefaaDoorM2
namespace Go.Proofs.YtpiejpodaljefaaDoor
open Go.RowKit

set_option maxRecDepth 100000 in
set_option maxHeartbeats 4000000 in
theorem dialect_any (p : Nat) (w : World) (hD : DiceAt w p) :
    Calls Tryd.prog 16 #[.pointer (some ⟨p, 0, none⟩)] w (DialOut p w) := by
  have HD := Lib.hid hD
  have PB := Lib.hid hD.lt
  have z0 : w.heap.size ≠ p := by have := hD.lt; omega
  have z1 : w.heap.size + 1 ≠ p := by have := hD.lt; omega
  have z2 : w.heap.size + 1 + 1 ≠ p := by have := hD.lt; omega
  have hbx : Box w.heap.size (w.alloc (.cells #[.int .u8 0, .int .u8 0] 23)) := heap_alloc_new _ _
  have HX := Lib.hid hbx
  clear hD hbx
  go_enter Tryd.func16, Tryd.ntmps16
  go_wp2_with fail
  obtain ⟨c0, c1, g0, g1⟩ := HX.out.facts
  go_region_with (go_at_call 31; refine next_go p _ _ (by decide) (by decide) ?_ ?_; (repeat (first | exact HD.out | assumption | apply DiceAt.alloc | apply DiceAt.drew)); intro r w1 r0 r1 hd1 hb1 hn1 hn2 hn3 hc1 hf1 hz1; (try have hg1 := tab4_el r r0 r1); (try have hg2 := tab2_el r r0 r1); have HX1 : Box w.heap.size w1 := Box.but (by (repeat (first | exact HX.out | assumption | apply Box.alloc | apply Box.drew))) hb1 z0; obtain ⟨k0, k1, f0, f1⟩ := HX1.facts; have zl := lt_of_heap HX1; have hsz := hb1.size; (try have za : w.heap.size + 1 < w1.heap.size := by (simp at hsz; omega)); (try have zb : w.heap.size + 1 + 1 < w1.heap.size := by (simp at hsz; omega)); clear hsz; (try have h4 : T4 r := ⟨r0, r1⟩); (try have h2 : T2 r := ⟨r0, r1⟩); have BN : But p w w1 := But.trans (by (repeat (first | exact But.refl p w | assumption | apply But.alloc1 | apply But.drew1))) hb1)
  all_goals (
    go_wp2_with fail
    first
      | (refine bodyPost_ret ?res rfl (dial_mk ‹T4 _› ‹T2 _› ?hd ?hb)
         case res => (simp [results, Tryd.results16, go_sem, k0, k1, zl]; done)
         case hd => (repeat (first | assumption | (apply DiceAt.alloc) | (refine DiceAt.setNew ?_ PB.out)))
         case hb => (repeat (first | assumption | (apply But.alloc1) | (refine But.setNew ?_ (Nat.le_refl _)))))
      | skip)
end Go.Proofs.YtpiejpodaljefaaDoor
