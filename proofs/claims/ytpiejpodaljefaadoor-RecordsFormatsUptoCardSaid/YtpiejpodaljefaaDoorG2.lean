import Derived.Test.YtpiejpodaljefaaDoorG1
namespace Go.Proofs.YtpiejpodaljefaaDoor
open Go.RowKit

set_option maxRecDepth 100000 in
set_option maxHeartbeats 4000000 in
theorem law_parses (s : ByteArray) (d q : UInt8) (w : World) (hs : s.size ≤ 9223372036854775807) (hM : MaxAt w) :
    Calls Tryd.prog 3 #[.string s, .agg #[.int .u8 d.toNat, .int .u8 q.toNat]] w (RetB (.bool true) w) := by
  obtain ⟨m, hm⟩ := hM
  have hx := heap_alloc_new w (.cells #[.int .u8 d.toNat, .int .u8 q.toNat] 23)
  obtain ⟨d0, d1⟩ := cells2_of hx
  have hb : Below w.heap.size w (w.alloc (.cells #[.int .u8 d.toNat, .int .u8 q.toNat] 23)) := (Below.refl _ _).alloc (Nat.le_refl _) _
  have hm1 := below_cell hb hm
  clear hx hm
  have HD : ∀ (x y : UInt8) w, Calls Tryd.prog 12 #[.string s, .agg #[.int .u8 x.toNat, .int .u8 y.toNat]] w (RetB (.bool true) w) := fun x y w => agree_any s x y w hs
  obtain ⟨dc, qc, HK⟩ : ∃ dc qc : UInt8, ∀ w, Calls Tryd.prog 13 #[] w (RetB (.agg #[.int .u8 dc.toNat, .int .u8 qc.toNat]) w) := ⟨44, 34, comma_any⟩
  go_enter Tryd.func3, Tryd.ntmps3
  go_wp2_with fail
  generalize w.alloc (.cells #[.int .u8 d.toNat, .int .u8 q.toNat] 23) = W0 at *
  have hsz := hb.size
  go_region_held3 (fun w' => w'.cell? ⟨w.heap.size, 0, none⟩ = some (.int .u8 d.toNat) ∧ w'.cell? ⟨w.heap.size, 1, none⟩ = some (.int .u8 q.toNat) ∧ w'.cell? ⟨0, 0, none⟩ = some (.int .i64 m) ∧ Below w.heap.size w w' ∧ w.heap.size ≤ w'.heap.size)
    (first | (with_reducible exact ⟨k0, k1, k2, kb, kz⟩) | (exact ⟨d0, d1, hm1, hb, hsz⟩) | (exact ⟨d0, d1, hm1, bel_drew hb, hsz⟩) | go_keep)
    (first
      | (go_at_call 9; refine (awake_any _ ⟨m, And.left (And.right (And.right ‹_ ∧ _ ∧ _ ∧ Below w.heap.size w _ ∧ _›))⟩).mono ?_; rintro e w1 ⟨rfl, hb1⟩; obtain ⟨h0, h1, h2, h3, h4⟩ := ‹_ ∧ _ ∧ _ ∧ Below w.heap.size w _ ∧ _›; have k0 := below_cell hb1 h0; have k1 := below_cell hb1 h1; have k2 := below_cell hb1 h2; have kb : Below w.heap.size w w1 := Below.trans h3 (hb1.mono h4); have kz := kb.size)
      | (go_at_call 10; refine (valid_any d q _).mono ?_; rintro e w1 ⟨rfl, hb1⟩; obtain ⟨h0, h1, h2, h3, h4⟩ := ‹_ ∧ _ ∧ _ ∧ Below w.heap.size w _ ∧ _›; have k0 := below_cell hb1 h0; have k1 := below_cell hb1 h1; have k2 := below_cell hb1 h2; have kb : Below w.heap.size w w1 := Below.trans h3 (hb1.mono h4); have kz := kb.size)
      | (go_at_call 11; refine (rvalid_any d q _).mono ?_; rintro e w1 ⟨rfl, hb1⟩; obtain ⟨h0, h1, h2, h3, h4⟩ := ‹_ ∧ _ ∧ _ ∧ Below w.heap.size w _ ∧ _›; have k0 := below_cell hb1 h0; have k1 := below_cell hb1 h1; have k2 := below_cell hb1 h2; have kb : Below w.heap.size w w1 := Below.trans h3 (hb1.mono h4); have kz := kb.size)
      | (go_at_call 12; refine (HD _ _ _).mono ?_; rintro e w1 ⟨rfl, hb1⟩; obtain ⟨h0, h1, h2, h3, h4⟩ := ‹_ ∧ _ ∧ _ ∧ Below w.heap.size w _ ∧ _›; have k0 := below_cell hb1 h0; have k1 := below_cell hb1 h1; have k2 := below_cell hb1 h2; have kb : Below w.heap.size w w1 := Below.trans h3 (hb1.mono h4); have kz := kb.size)
      | (go_at_call 13; refine (HK _).mono ?_; rintro e w1 ⟨rfl, hb1⟩; obtain ⟨h0, h1, h2, h3, h4⟩ := ‹_ ∧ _ ∧ _ ∧ Below w.heap.size w _ ∧ _›; have k0 := below_cell hb1 h0; have k1 := below_cell hb1 h1; have k2 := below_cell hb1 h2; have kb : Below w.heap.size w w1 := Below.trans h3 (hb1.mono h4); have kz := kb.size))
  go_wp2_with fail
  go_ret
  exact ⟨rfl, by assumption⟩
end Go.Proofs.YtpiejpodaljefaaDoor
