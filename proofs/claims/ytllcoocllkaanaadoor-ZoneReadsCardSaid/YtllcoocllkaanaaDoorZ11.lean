import Derived.Test.YtllcoocllkaanaaDoorZ10
namespace Go.Proofs.YtllcoocllkaanaaDoor
open Go.RowKit

theorem aw_v : vldE [99, 97, 109, 112, 117, 115] 60 [] = 0 := by kernel_rfl
theorem aw_h : arr (headL [99, 97, 109, 112, 117, 115] 60) = ⟨#[99, 97, 109, 112, 117, 115, 32, 43, 48, 49, 48, 48, 10]⟩ := by kernel_rfl
theorem aw_r1 : resV [99, 97, 109, 112, 117, 115] 60 [(100000, 120), (400000, 60)] 100060 = 100000 := by kernel_rfl
theorem aw_r2 : resE [99, 97, 109, 112, 117, 115] 60 [(100000, 120), (400000, 60)] 100060 = 0 := by kernel_rfl
theorem aw_i1 : insts [99, 97, 109, 112, 117, 115] 60 [(100000, 120), (400000, 60)] 400060 = [399940, 400000] := by kernel_rfl
theorem aw_i2 : insts [99, 97, 109, 112, 117, 115] 60 [(100000, 120), (400000, 60)] 100070 = [] := by kernel_rfl

/-- The zone of the sanity check lies here. -/
structure AwW (g : Nat) (W : World) : Prop where
  s0 : W.cell? ⟨g, 0, none⟩ = some (.int .i64 100000)
  s1 : W.cell? ⟨g, 1, none⟩ = some (.int .i64 120)
  s2 : W.cell? ⟨g, 2, none⟩ = some (.int .i64 400000)
  s3 : W.cell? ⟨g, 3, none⟩ = some (.int .i64 60)
  z0 : W.cell? ⟨g + 1, 0, none⟩ = some (.string ⟨#[99, 97, 109, 112, 117, 115]⟩)
  z1 : W.cell? ⟨g + 1, 1, none⟩ = some (.int .i64 60)
  z2 : W.cell? ⟨g + 1, 2, none⟩ = some (.slice (some ⟨g, 0, none⟩) 2 2)
theorem AwW.below {g : Nat} {W W' : World} (h : AwW g W) (hb : Below W.heap.size W W') : AwW g W' := by
  have e : ∀ a v, W.cell? a = some v → W'.cell? a = some v := fun a v hv => by rw [hb.cell (lt_of_cell hv)]; exact hv
  exact ⟨e _ _ h.s0, e _ _ h.s1, e _ _ h.s2, e _ _ h.s3, e _ _ h.z0, e _ _ h.z1, e _ _ h.z2⟩
theorem AwW.start (w : World) : AwW w.heap.size ((w.alloc (.cells #[.int .i64 100000, .int .i64 120, .int .i64 400000, .int .i64 60] 43)).alloc (.cells #[.string ⟨#[99, 97, 109, 112, 117, 115]⟩, .int .i64 60, .slice (some ⟨w.heap.size, 0, none⟩) 2 2] 24)) := by
  have e : ∀ i, ((w.alloc (.cells #[.int .i64 100000, .int .i64 120, .int .i64 400000, .int .i64 60] 43)).alloc (.cells #[.string ⟨#[99, 97, 109, 112, 117, 115]⟩, .int .i64 60, .slice (some ⟨w.heap.size, 0, none⟩) 2 2] 24)).cell? ⟨w.heap.size, i, none⟩ = (#[.int .i64 100000, .int .i64 120, .int .i64 400000, .int .i64 60] : Array Value)[i]? := fun i => by
    rw [World.cell?_alloc_past _ _ _ (by simp), World.cell?_alloc_at _ _ _ _ rfl]
  have e2 : ∀ i, ((w.alloc (.cells #[.int .i64 100000, .int .i64 120, .int .i64 400000, .int .i64 60] 43)).alloc (.cells #[.string ⟨#[99, 97, 109, 112, 117, 115]⟩, .int .i64 60, .slice (some ⟨w.heap.size, 0, none⟩) 2 2] 24)).cell? ⟨w.heap.size + 1, i, none⟩ = (#[.string ⟨#[99, 97, 109, 112, 117, 115]⟩, .int .i64 60, .slice (some ⟨w.heap.size, 0, none⟩) 2 2] : Array Value)[i]? := fun i => by
    rw [World.cell?_alloc_at _ _ _ _ (by simp)]
  exact ⟨by rw [e]; rfl, by rw [e]; rfl, by rw [e]; rfl, by rw [e]; rfl, by rw [e2]; rfl, by rw [e2]; rfl, by rw [e2]; rfl⟩
theorem AwW.zval {g : Nat} {W : World} (h : AwW g W) : ZVal W (.agg #[.string ⟨#[99, 97, 109, 112, 117, 115]⟩, .int .i64 60, .slice (some ⟨g, 0, none⟩) 2 2]) ⟨#[99, 97, 109, 112, 117, 115]⟩ 60 [(100000, 120), (400000, 60)] := by
  refine ⟨_, rfl, by decide, some ⟨g, 0, none⟩, 2, rfl, by decide, Or.inr ⟨g, 0, rfl, fun j hj => ?_⟩⟩
  match j, hj with
  | 0, _ => exact ⟨h.s0, h.s1⟩
  | 1, _ => exact ⟨h.s2, h.s3⟩

theorem aw_resolve {g : Nat} {W : World} (h : AwW g W) : Calls Tryd.prog 15 #[.agg #[.string ⟨#[99, 97, 109, 112, 117, 115]⟩, .int .i64 60, .slice (some ⟨g, 0, none⟩) 2 2], .int .i64 100060] W (RetB (.tuple #[.int .i64 100000, .int .i64 0]) W) :=
  (resolve_any 100060 W h.zval).mono fun e w' ⟨a, b⟩ => by
    have r1 : resV (⟨#[99, 97, 109, 112, 117, 115]⟩ : ByteArray).data.toList 60 [(100000, 120), (400000, 60)] 100060 = 100000 := aw_r1
    have r2 : resE (⟨#[99, 97, 109, 112, 117, 115]⟩ : ByteArray).data.toList 60 [(100000, 120), (400000, 60)] 100060 = 0 := aw_r2
    rw [r1, r2] at a
    exact ⟨a, b⟩
def IntsP (L : List Int) (w : World) (e : Ending) (w' : World) : Prop := ∃ v, e = .returned v ∧ Ints w' v L ∧ Below w.heap.size w w'
theorem aw_ins1 {g : Nat} {W : World} (h : AwW g W) : Calls Tryd.prog 18 #[.agg #[.string ⟨#[99, 97, 109, 112, 117, 115]⟩, .int .i64 60, .slice (some ⟨g, 0, none⟩) 2 2], .int .i64 400060] W (IntsP [399940, 400000] W) :=
  (instants_any 400060 W h.zval).mono fun e w' ⟨v, a, b, c⟩ => by
    have r1 : insts (⟨#[99, 97, 109, 112, 117, 115]⟩ : ByteArray).data.toList 60 [(100000, 120), (400000, 60)] 400060 = [399940, 400000] := aw_i1
    rw [r1] at b
    exact ⟨v, a, b, c⟩
theorem aw_ins2 {g : Nat} {W : World} (h : AwW g W) : Calls Tryd.prog 18 #[.agg #[.string ⟨#[99, 97, 109, 112, 117, 115]⟩, .int .i64 60, .slice (some ⟨g, 0, none⟩) 2 2], .int .i64 100070] W (IntsP [] W) :=
  (instants_any 100070 W h.zval).mono fun e w' ⟨v, a, b, c⟩ => by
    have r1 : insts (⟨#[99, 97, 109, 112, 117, 115]⟩ : ByteArray).data.toList 60 [(100000, 120), (400000, 60)] 100070 = [] := aw_i2
    rw [r1] at b
    exact ⟨v, a, b, c⟩

set_option maxHeartbeats 2000000 in
set_option maxRecDepth 100000 in
theorem awake_any (w : World) : Calls Tryd.prog 10 #[] w (RetB (.bool true) w) := by
  have FM : Hid (∀ W, Calls Tryd.prog 27 #[.agg #[.string ⟨#[99, 97, 109, 112, 117, 115]⟩, .int .i64 60, .slice none 0 0]] W (RetB (.tuple #[.string ⟨#[99, 97, 109, 112, 117, 115, 32, 43, 48, 49, 48, 48, 10]⟩, .int .i64 0]) W)) := Lib.hid (fun W => by
    have := format_nil [99, 97, 109, 112, 117, 115] 60 none 0 aw_v W
    rw [aw_h] at this
    exact this)
  have A0 := Lib.hid (AwW.start w)
  have B0 := Lib.hid (((Below.refl w.heap.size w).alloc (Nat.le_refl _) (.cells #[.int .i64 100000, .int .i64 120, .int .i64 400000, .int .i64 60] 43)).alloc (by simp) (.cells #[.string ⟨#[99, 97, 109, 112, 117, 115]⟩, .int .i64 60, .slice (some ⟨w.heap.size, 0, none⟩) 2 2] 24))
  go_enter Tryd.func10, Tryd.ntmps10
  go_wp2_with (first | (go_at_call 27; refine (FM.out _).mono ?_) | fail)
  rintro e w1 ⟨rfl, hb1⟩
  have A1 := Lib.hid (A0.out.below hb1)
  have B1 := Lib.hid (B0.out.trans (hb1.mono B0.out.size))
  obtain ⟨_, _, _, _, z0, z1, z2⟩ := A1.out
  clear hb1
  go_wp2_with (first | (go_at_call 15; refine (aw_resolve A1.out).mono ?_) | fail)
  rintro e w2 ⟨rfl, hb2⟩
  have A2 := Lib.hid (A1.out.below hb2)
  have B2 := Lib.hid (B1.out.trans (hb2.mono B1.out.size))
  clear hb2 z0 z1 z2
  obtain ⟨_, _, _, _, z0, z1, z2⟩ := A2.out
  go_wp2_with (first | (go_at_call 18; refine (aw_ins1 A2.out).mono ?_) | fail)
  rintro e w3 ⟨v3, rfl, hv3, hb3⟩
  have A3 := Lib.hid (A2.out.below hb3)
  have B3 := Lib.hid (B2.out.trans (hb3.mono B2.out.size))
  have HV3 := Lib.hid hv3
  clear hb3 z0 z1 z2 hv3
  obtain ⟨_, _, _, _, z0, z1, z2⟩ := A3.out
  go_wp2_with (first | (go_at_call 18; refine (aw_ins2 A3.out).mono ?_) | fail)
  rintro e w4 ⟨v4, rfl, hv4, hb4⟩
  obtain ⟨a4, c4, rfl⟩ := ints_none hv4
  have B4 := Lib.hid (B3.out.trans (hb4.mono B3.out.size))
  have HV4 := Lib.hid (HV3.out.below hb4)
  have hi : Hid (∀ o, Ints (w4.alloc o) v3 [399940, 400000]) := Lib.hid (fun o => HV4.out.below ((Below.refl _ _).alloc (Nat.le_refl _) o))
  have hn : Hid (Ints (w4.alloc (.cells #[.int .i64 399940, .int .i64 400000] 3)) (.slice (some ⟨w4.heap.size, 0, none⟩) 2 2) [399940, 400000]) := Lib.hid ⟨some ⟨w4.heap.size, 0, none⟩, 2, rfl, rfl, by decide, Or.inr ⟨w4.heap.size, 0, rfl, fun i hi => by
    rw [World.cell?_alloc_at _ _ _ _ rfl]
    match i, hi with
    | 0, _ => rfl
    | 1, _ => rfl⟩⟩
  have B5 := Lib.hid (B4.out.alloc B4.out.size (.cells #[.int .i64 399940, .int .i64 400000] 3))
  clear hb4 z0 z1 z2 hv4
  go_wp2_with (first | (go_at_call 17; refine (same_any _ (by decide) (hi.out _) hn.out).mono ?_) | fail)
  rintro e w5 ⟨rfl, hb5⟩
  have B6 := Lib.hid (B5.out.trans (hb5.mono B5.out.size))
  clear hb5
  go_wp2
  go_ret
  exact ⟨rfl, B6.out⟩

end Go.Proofs.YtllcoocllkaanaaDoor
