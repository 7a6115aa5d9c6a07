/- Zones: the law ZoneReads. -/
import Derived.Test.YtllcoocllkaanaaDoorZ24
import Derived.Test.YtllcoocllkaanaaDoorZ23
import Derived.Test.YtllcoocllkaanaaDoorBytes
import Derived.Test.YtllcoocllkaanaaDoorY9
import Derived.Test.YtllcoocllkaanaaDoorY20
namespace Go.Proofs.YtllcoocllkaanaaDoor
open Go.RowKit TT

theorem fmtS_len (z : Zn) : (arr (fmtS z)).size ≤ 1495 := by
  by_cases h : vldE z.1 z.2.1 z.2.2 = 0
  · obtain ⟨hc, _, hl, _⟩ := vldE_ok h
    have hc16 : z.1.length ≤ 16 := (codeOk_of hc).2.1
    have h1 := headZ_len (off := z.2.1) hc16
    rw [arr_size, show fmtS z = fmtZ z from if_pos h, fmtZ, List.length_append, linesZ_len]
    omega
  · rw [show fmtS z = [] from if_neg h]; decide
theorem fmtS_pos {z : Zn} (h : vldE z.1 z.2.1 z.2.2 = 0) : 0 < (arr (fmtS z)).size := by
  rw [arr_size, show fmtS z = fmtZ z from if_pos h]
  simp only [fmtZ, headZ, List.length_append, List.length_cons]
  omega
theorem parZ_lim (t : L8) : (pZ (parZ whenC t)).2.2.length ≤ 64 := by
  cases h : parZ whenC t with
  | none => simp [pZ]
  | some z => exact (vldE_ok (parZ_some h).1).2.2.1
/-- four texts that lie in a row -/
def RMid (W : World) (s56 s57 s58 : Value) (wx : World) : Prop :=
  ∃ g : Nat, s56 = .slice (some ⟨g, 0, none⟩) 4 4 ∧ s57 = .int .i64 4 ∧ s58 = .int .i64 0 ∧ Below W.heap.size W wx ∧ ∀ k, k < 4 → ∃ x : ByteArray, x.size ≤ 5000 ∧ wx.cell? ⟨g, k, none⟩ = some (.string x)
set_option maxRecDepth 100000 in
set_option maxHeartbeats 4000000 in
theorem law_reads (t : ByteArray) (a : Option Addr) (n c : Nat) (L : List Int) (q v : Int) (w : World) (ht : t.size ≤ 9223372036854775807)
    (q0 : -9223372036854775808 ≤ q) (q1 : q ≤ 9223372036854775807) (v0 : 0 ≤ v) (v1 : v ≤ 255)
    (hI : IntsAt w a n L) (hL : ∀ x ∈ L, -9223372036854775808 ≤ x ∧ x ≤ 9223372036854775807) (hT : Tbs w) :
    Calls Tryd.prog 8 #[.string t, .slice a n c, .int .i64 q, .int .u8 v] w (RetB (.bool true) w) := by
  have HT := Lib.hid hT
  clear hT
  by_cases hn : n ≤ 400 ∧ t.size ≤ 3000
  rotate_left
  · by_cases hn4 : n ≤ 400
    · have hd : decide (n ≤ 400) = true := by simpa using hn4
      have hn6 : ¬ (t.size ≤ 3000) := by omega
      have hn7 : 3000 < t.size := by omega
      clear hI hL hn
      go_enter Tryd.func8, Tryd.ntmps8
      go_wp2_with (first | (go_at_call 9; refine (light_any _ _ _ _).mono ?_; rw [hd]; rintro e w' ⟨rfl, rfl⟩) | (go_at_call 10; refine (awake_any _).mono ?_; rintro e w' ⟨rfl, hb⟩))
      go_ret
      exact ⟨rfl, hb⟩
    · have hd : decide (n ≤ 400) = false := by simpa using hn4
      clear hI hL hn
      go_enter Tryd.func8, Tryd.ntmps8
      go_wp2_with (first | (go_at_call 9; refine (light_any _ _ _ _).mono ?_; rw [hd]; rintro e w' ⟨rfl, rfl⟩) | (go_at_call 10; refine (awake_any _).mono ?_; rintro e w' ⟨rfl, hb⟩))
      go_ret
      exact ⟨rfl, hb⟩
  obtain ⟨hn4, hn5⟩ := hn
  have hd : decide (n ≤ 400) = true := by simpa using hn4
  have HD0 := Lib.hid (DiceAt.mk0 c 55 hI hn4 hL)
  have B0 : Hid (Below w.heap.size w (w.alloc (.cells #[.slice a n c, .int .i64 0] 55))) := Lib.hid ((Below.refl _ _).alloc (Nat.le_refl _) _)
  clear hI hL hn4
  have hcv := fun w s => run_bytes_of_string (P := Tryd.prog) w 9 51 5 s Tryd.underlying9 Tryd.underlying51 Tryd.underlying5
  go_enter Tryd.func8, Tryd.ntmps8
  go_wp2_with (first | (go_at_call 9; refine (light_any _ _ _ _).mono ?_; rw [hd]; rintro e w' ⟨rfl, rfl⟩) | (go_at_call 11; refine (roll_any _ _ _ _).mono ?_; rintro e w' ⟨rfl, rfl⟩) | fail)
  refine (some_any w.heap.size _ HD0.out).mono ?_
  rintro e w3 ⟨s', off', a', cap', xs', rfl, h2, h3, h4, h5, h6⟩
  have hW3 : Below w.heap.size w w3 := But.below B0.out h6 (Nat.le_refl _) (by simp)
  have hz3 : ZVal w3 (.agg #[.string s', .int .i64 off', .slice a' xs'.length cap']) s' off' xs' := ⟨_, rfl, by omega, a', cap', rfl, by omega, h4.imp id (fun ⟨b, of, e, _, hP⟩ => ⟨b, of, e, hP⟩)⟩
  have HW3 := Lib.hid hW3
  have FR := Lib.hid (rformat_any w3 hz3)
  clear h2 h3 h4 h5 h6 hW3 hz3 HD0 B0
  go_wp2_with fail
  refine (FR.out).mono ?_
  rintro e w4 ⟨rfl, hb4⟩
  have HW4 := Lib.hid (HW3.out.trans (hb4.mono HW3.out.size))
  have hsz := fmtS_len (s'.data.toList, off', xs')
  have HPOS := Lib.hid (fun h => fmtS_pos (z := (s'.data.toList, off', xs')) h)
  clear hb4 FR HW3
  have HM := Lib.hid (mrow_bytes (arr (fmtS (s'.data.toList, off', xs'))) w4 (by omega))
  have hge := grownCap_ge w4 (arr (fmtS (s'.data.toList, off', xs'))).size 0 5
  have hcm := grownCap_le_maxLen w4 (arr (fmtS (s'.data.toList, off', xs'))).size 0 5 (by unfold maxLen; omega)
  unfold maxLen at hcm
  generalize arr (fmtS (s'.data.toList, off', xs')) = so at *
  have HEV : Hid ((vldE s'.data.toList off' xs' = 0) → 0 < so.size) := Lib.hid (fun h => HPOS.out h)
  clear HPOS
  by_cases hv : vldE s'.data.toList off' xs' = 0
  · have b1 : (vldE s'.data.toList off' xs' == 0) = true := by rw [hv]; rfl
    have hs0 := HEV.out hv
    have m0 := Int.emod_nonneg q (show (so.size : Int) ≠ 0 by omega)
    have m1 := Int.emod_lt_of_pos q (show (0 : Int) < (so.size : Int) by omega)
    have MD := Lib.hid (fun W => mod_any q (so.size : Int) q0 q1 (by omega) (by omega) W)
    clear hv HEV
    obtain ⟨rn, hr⟩ := Int.eq_ofNat_of_zero_le m0
    rw [hr] at MD m0 m1
    obtain ⟨sp1, sp2⟩ := HM.out.sp rn (by omega)
    obtain ⟨u0, hu0⟩ := Option.isSome_iff_exists.1 sp1
    have rn2 : rn < so.size := by omega
    clear hr sp1
    go_wp2_with fail
    refine (MD.out _).mono ?_
    rintro e5 w5 ⟨rfl, rfl⟩
    go_wp2_with fail
    have HB5 := Lib.hid ((HW4.out.alloc HW4.out.size (.cells (bytesRow so (grownCap w4 so.size 0 5)) 5 ((bytesRow so (grownCap w4 so.size 0 5)).size, (bytesRow so (grownCap w4 so.size 0 5)).size + 1))).drew)
    have hg4 := HW4.out.size
    have HBW := Lib.hid (bel_set HB5.out w4.heap.size rn (.int .u8 v) hg4)
    have HM1 := Lib.hid (HM.out.sets rn [.int .u8 v] (fun x hx => ⟨UInt8.ofNat v.toNat, by rw [List.mem_singleton.1 hx, UInt8.toNat_ofNat']; congr 1; omega⟩) (by simp; omega) so.size hge (Or.inl (Nat.le_refl _)))
    have hset : ∀ (X : World) (g r : Nat) (y : Value), X.setCells g r [y] = X.setCell ⟨g, r, none⟩ y := fun _ _ _ _ => rfl
    rw [hset] at HM1
    have hdr : ∀ (X : World) (ad : Addr) (y : Value), X.drew.setCell ad y = (X.setCell ad y).drew := fun X ad y => by first | rfl | simp only [go_sem] | (unfold World.setCell; split <;> simp_all [World.drew]) | (cases X; rfl)
    rw [hdr] at HM1 HBW
    generalize hW : (((w4.alloc (.cells (bytesRow so (grownCap w4 so.size 0 5)) 5 ((bytesRow so (grownCap w4 so.size 0 5)).size, (bytesRow so (grownCap w4 so.size 0 5)).size + 1))).setCell ⟨w4.heap.size, rn, none⟩ (.int .u8 v)).drew) = W at *
    clear hW HM HB5 hu0 sp2 hset hdr MD m0 m1 rn2
    generalize grownCap w4 so.size 0 5 = cp at *
    generalize w4.heap.size = g at *
    have hsz2 : ¬ 9223372036854775807 < so.size + t.size := by omega
    have hcv1 := HM1.out.below (⟨rfl, rfl, rfl, Nat.le_refl _, fun _ _ => rfl⟩ : Below W.heap.size W W.drew)
    obtain ⟨l, hl, hcv2⟩ := mrow_string hcv1
    clear hcv1 HM1
    have hal : (arr l).size = so.size := by rw [arr_size]; exact hl
    generalize arr l = bs at *
    have z1 : (so.size : Int).tdiv 2 = ((so.size / 2 : Nat) : Int) := by rw [Int.tdiv_eq_ediv_of_nonneg (by omega)]; omega
    have z2 : so.size / 2 ≤ so.size := by omega
    have z3 : IntKind.i64.wrap ((so.size : Int) / 2) = (so.size : Int) / 2 := IntWalk.i64_in _ (by omega)
    have HHL : Hid ((so.extract 0 (so.size / 2)).size ≤ 1495) := Lib.hid (by rw [ByteArray.size_extract]; omega)
    have HST : Hid ((so ++ t).size ≤ 5000) := Lib.hid (by rw [ByteArray.size_append]; omega)
    go_cut [56, 57, 58] (fun s56 s57 s58 wx => RMid W s56 s57 s58 wx)
    case first =>
      go_region
      all_goals (
        try go_wp2_with fail
        go_meet
        refine ⟨_, rfl, rfl, rfl, ⟨rfl, rfl, rfl, by simp, fun q hq => heap_alloc_old _ _ hq⟩, fun k hk => ?_⟩
        rcases (show k = 0 ∨ k = 1 ∨ k = 2 ∨ k = 3 by omega) with rfl | rfl | rfl | rfl
        · exact ⟨t, by omega, (World.cell?_alloc_at _ _ _ _ rfl).trans rfl⟩
        · exact ⟨bs, by omega, (World.cell?_alloc_at _ _ _ _ rfl).trans rfl⟩
        · exact ⟨so ++ t, HST.out, (World.cell?_alloc_at _ _ _ _ rfl).trans rfl⟩
        · exact ⟨so.extract 0 (so.size / 2), by have := HHL.out; omega, (World.cell?_alloc_at _ _ _ _ rfl).trans rfl⟩)
    case rest =>
      obtain ⟨g2, rfl, rfl, rfl, hbx, hx4⟩ := hcut
      have HBX := Lib.hid (HBW.out.trans (hbx.mono HBW.out.size))
      have HX := Lib.hid hx4
      clear hbx hx4 hcv2 hal hl HHL HST z1 z2 z3 hsz hsz2
      go_wp2_with fail
      go_loopw [58] (fun i wr => ∃ k : Nat, k ≤ 4 ∧ i = .int .i64 k ∧ Hid (Below wc.heap.size wc wr)) (fun i _ => 4 - (intOf i).toNat)
      case atStart => exact ⟨0, by omega, rfl, Lib.hid (Below.refl _ _)⟩
      case round =>
        obtain ⟨k, hk, rfl, HB⟩ := hrel
        have BE : Hid (Below w.heap.size w wr) := Lib.hid (HBX.out.trans (HB.out.mono HBX.out.size))
        by_cases hlt : k < 4
        · obtain ⟨x, hx5, hxc⟩ := HX.out k hlt
          have hxr := below_cell HB.out hxc
          clear hxc
          have PA := Lib.hid (parse_any x wr (HT.out.below BE.out) (by omega))
          have RP := Lib.hid (fun W => by have h := rparse_any x W (by omega); rw [← parZ_eq] at h; exact h)
          have h64 := parZ_lim x.data.toList
          unfold ParP at PA RP
          generalize parZ whenC x.data.toList = oz at *
          generalize arr (pZ oz).1 = nmB at *
          generalize (pZ oz).2.1 = oo at *
          generalize (pZ oz).2.2 = ys at *
          generalize pE' oz = ee at *
          go_wp2_with fail
          refine PA.out.mono ?_
          rintro e6 w6 ⟨v6, rfl, hv6, hb6⟩
          have BW6 := Lib.hid hb6
          have HV6 := Lib.hid hv6
          obtain ⟨sv6, rfl, _, a6, c6, rfl, _, _⟩ := hv6
          clear hb6
          have BA6 : Hid (Below w6.heap.size w6 (w6.alloc (.cells #[.string nmB, .int .i64 oo, .slice a6 ys.length c6] 24))) := Lib.hid ((Below.refl _ _).alloc (Nat.le_refl _) _)
          have y0 : (w6.alloc (.cells #[.string nmB, .int .i64 oo, .slice a6 ys.length c6] 24)).cell? ⟨w6.heap.size, 0, none⟩ = some (.string nmB) := by rw [World.cell?_alloc_at _ _ _ _ rfl]; rfl
          have y1 : (w6.alloc (.cells #[.string nmB, .int .i64 oo, .slice a6 ys.length c6] 24)).cell? ⟨w6.heap.size, 1, none⟩ = some (.int .i64 oo) := by rw [World.cell?_alloc_at _ _ _ _ rfl]; rfl
          have y2 : (w6.alloc (.cells #[.string nmB, .int .i64 oo, .slice a6 ys.length c6] 24)).cell? ⟨w6.heap.size, 2, none⟩ = some (.slice a6 ys.length c6) := by rw [World.cell?_alloc_at _ _ _ _ rfl]; rfl
          have Y0 := Lib.hid y0; have Y1 := Lib.hid y1; have Y2 := Lib.hid y2
          clear y0 y1 y2
          go_wp2_with fail
          refine (RP.out _).mono ?_
          rintro e7 w7 ⟨v7, rfl, hv7, hb7⟩
          have y0 := below_cell hb7 Y0.out
          have y1 := below_cell hb7 Y1.out
          have y2 := below_cell hb7 Y2.out
          have gl6 := lt_of_cell y0
          have BW7 := Lib.hid (BA6.out.trans (hb7.mono BA6.out.size))
          have SM := Lib.hid (fun W (hb : Below w7.heap.size w7 W) => zsame_any W h64 ((HV6.out.below BW7.out).below hb) (hv7.below hb))
          obtain ⟨sv7, rfl, _, a7, c7, rfl, _, _⟩ := hv7
          clear hb7 Y0 Y1 Y2
          have BA7 : Hid (Below w7.heap.size w7 (w7.alloc (.cells #[.string nmB, .int .i64 oo, .slice a7 ys.length c7] 24))) := Lib.hid ((Below.refl _ _).alloc (Nat.le_refl _) _)
          go_wp2_with fail
          refine (SM.out _ BA7.out).mono ?_
          rintro e8 w8 ⟨rfl, hb8⟩
          have BW8 := Lib.hid (BA7.out.trans (hb8.mono BA7.out.size))
          have BWW := Lib.hid ((HB.out.trans (BW6.out.mono HB.out.size)).trans ((BW7.out.trans (BW8.out.mono BW7.out.size)).mono (HB.out.trans (BW6.out.mono HB.out.size)).size))
          clear hb8
          go_wp2_with fail
          go_roundw
          case rel => exact ⟨k + 1, by omega, by go_num, BWW⟩
          case measure => simp [intOf]; omega
        · obtain rfl : k = 4 := by omega
          go_wp2_with (first | (go_at_call 10; refine (awake_any _).mono ?_) | fail)
          rintro e w' ⟨rfl, hb⟩
          go_wp2_with fail
          go_ret
          exact ⟨rfl, below3 BE.out hb⟩
  · have b1 : (vldE s'.data.toList off' xs' == 0) = false := by rw [beq_eq_false_iff_ne]; exact hv
    clear hv HEV
    go_wp2_with fail
    have HBW := Lib.hid ((HW4.out.alloc HW4.out.size (.cells (bytesRow so (grownCap w4 so.size 0 5)) 5 ((bytesRow so (grownCap w4 so.size 0 5)).size, (bytesRow so (grownCap w4 so.size 0 5)).size + 1))).drew)
    have HM1 := HM
    generalize hW : ((w4.alloc (.cells (bytesRow so (grownCap w4 so.size 0 5)) 5 ((bytesRow so (grownCap w4 so.size 0 5)).size, (bytesRow so (grownCap w4 so.size 0 5)).size + 1))).drew) = W at *
    clear hW HM
    generalize grownCap w4 so.size 0 5 = cp at *
    generalize w4.heap.size = g at *
    have hsz2 : ¬ 9223372036854775807 < so.size + t.size := by omega
    have hcv1 := HM1.out.below (⟨rfl, rfl, rfl, Nat.le_refl _, fun _ _ => rfl⟩ : Below W.heap.size W W.drew)
    obtain ⟨l, hl, hcv2⟩ := mrow_string hcv1
    clear hcv1 HM1
    have hal : (arr l).size = so.size := by rw [arr_size]; exact hl
    generalize arr l = bs at *
    have z1 : (so.size : Int).tdiv 2 = ((so.size / 2 : Nat) : Int) := by rw [Int.tdiv_eq_ediv_of_nonneg (by omega)]; omega
    have z2 : so.size / 2 ≤ so.size := by omega
    have z3 : IntKind.i64.wrap ((so.size : Int) / 2) = (so.size : Int) / 2 := IntWalk.i64_in _ (by omega)
    have HHL : Hid ((so.extract 0 (so.size / 2)).size ≤ 1495) := Lib.hid (by rw [ByteArray.size_extract]; omega)
    have HST : Hid ((so ++ t).size ≤ 5000) := Lib.hid (by rw [ByteArray.size_append]; omega)
    go_cut [56, 57, 58] (fun s56 s57 s58 wx => RMid W s56 s57 s58 wx)
    case first =>
      go_region
      all_goals (
        try go_wp2_with fail
        go_meet
        refine ⟨_, rfl, rfl, rfl, ⟨rfl, rfl, rfl, by simp, fun q hq => heap_alloc_old _ _ hq⟩, fun k hk => ?_⟩
        rcases (show k = 0 ∨ k = 1 ∨ k = 2 ∨ k = 3 by omega) with rfl | rfl | rfl | rfl
        · exact ⟨t, by omega, (World.cell?_alloc_at _ _ _ _ rfl).trans rfl⟩
        · exact ⟨bs, by omega, (World.cell?_alloc_at _ _ _ _ rfl).trans rfl⟩
        · exact ⟨so ++ t, HST.out, (World.cell?_alloc_at _ _ _ _ rfl).trans rfl⟩
        · exact ⟨so.extract 0 (so.size / 2), by have := HHL.out; omega, (World.cell?_alloc_at _ _ _ _ rfl).trans rfl⟩)
    case rest =>
      obtain ⟨g2, rfl, rfl, rfl, hbx, hx4⟩ := hcut
      have HBX := Lib.hid (HBW.out.trans (hbx.mono HBW.out.size))
      have HX := Lib.hid hx4
      clear hbx hx4 hcv2 hal hl HHL HST z1 z2 z3 hsz hsz2
      go_wp2_with fail
      go_loopw [58] (fun i wr => ∃ k : Nat, k ≤ 4 ∧ i = .int .i64 k ∧ Hid (Below wc.heap.size wc wr)) (fun i _ => 4 - (intOf i).toNat)
      case atStart => exact ⟨0, by omega, rfl, Lib.hid (Below.refl _ _)⟩
      case round =>
        obtain ⟨k, hk, rfl, HB⟩ := hrel
        have BE : Hid (Below w.heap.size w wr) := Lib.hid (HBX.out.trans (HB.out.mono HBX.out.size))
        by_cases hlt : k < 4
        · obtain ⟨x, hx5, hxc⟩ := HX.out k hlt
          have hxr := below_cell HB.out hxc
          clear hxc
          have PA := Lib.hid (parse_any x wr (HT.out.below BE.out) (by omega))
          have RP := Lib.hid (fun W => by have h := rparse_any x W (by omega); rw [← parZ_eq] at h; exact h)
          have h64 := parZ_lim x.data.toList
          unfold ParP at PA RP
          generalize parZ whenC x.data.toList = oz at *
          generalize arr (pZ oz).1 = nmB at *
          generalize (pZ oz).2.1 = oo at *
          generalize (pZ oz).2.2 = ys at *
          generalize pE' oz = ee at *
          go_wp2_with fail
          refine PA.out.mono ?_
          rintro e6 w6 ⟨v6, rfl, hv6, hb6⟩
          have BW6 := Lib.hid hb6
          have HV6 := Lib.hid hv6
          obtain ⟨sv6, rfl, _, a6, c6, rfl, _, _⟩ := hv6
          clear hb6
          have BA6 : Hid (Below w6.heap.size w6 (w6.alloc (.cells #[.string nmB, .int .i64 oo, .slice a6 ys.length c6] 24))) := Lib.hid ((Below.refl _ _).alloc (Nat.le_refl _) _)
          have y0 : (w6.alloc (.cells #[.string nmB, .int .i64 oo, .slice a6 ys.length c6] 24)).cell? ⟨w6.heap.size, 0, none⟩ = some (.string nmB) := by rw [World.cell?_alloc_at _ _ _ _ rfl]; rfl
          have y1 : (w6.alloc (.cells #[.string nmB, .int .i64 oo, .slice a6 ys.length c6] 24)).cell? ⟨w6.heap.size, 1, none⟩ = some (.int .i64 oo) := by rw [World.cell?_alloc_at _ _ _ _ rfl]; rfl
          have y2 : (w6.alloc (.cells #[.string nmB, .int .i64 oo, .slice a6 ys.length c6] 24)).cell? ⟨w6.heap.size, 2, none⟩ = some (.slice a6 ys.length c6) := by rw [World.cell?_alloc_at _ _ _ _ rfl]; rfl
          have Y0 := Lib.hid y0; have Y1 := Lib.hid y1; have Y2 := Lib.hid y2
          clear y0 y1 y2
          go_wp2_with fail
          refine (RP.out _).mono ?_
          rintro e7 w7 ⟨v7, rfl, hv7, hb7⟩
          have y0 := below_cell hb7 Y0.out
          have y1 := below_cell hb7 Y1.out
          have y2 := below_cell hb7 Y2.out
          have gl6 := lt_of_cell y0
          have BW7 := Lib.hid (BA6.out.trans (hb7.mono BA6.out.size))
          have SM := Lib.hid (fun W (hb : Below w7.heap.size w7 W) => zsame_any W h64 ((HV6.out.below BW7.out).below hb) (hv7.below hb))
          obtain ⟨sv7, rfl, _, a7, c7, rfl, _, _⟩ := hv7
          clear hb7 Y0 Y1 Y2
          have BA7 : Hid (Below w7.heap.size w7 (w7.alloc (.cells #[.string nmB, .int .i64 oo, .slice a7 ys.length c7] 24))) := Lib.hid ((Below.refl _ _).alloc (Nat.le_refl _) _)
          go_wp2_with fail
          refine (SM.out _ BA7.out).mono ?_
          rintro e8 w8 ⟨rfl, hb8⟩
          have BW8 := Lib.hid (BA7.out.trans (hb8.mono BA7.out.size))
          have BWW := Lib.hid ((HB.out.trans (BW6.out.mono HB.out.size)).trans ((BW7.out.trans (BW8.out.mono BW7.out.size)).mono (HB.out.trans (BW6.out.mono HB.out.size)).size))
          clear hb8
          go_wp2_with fail
          go_roundw
          case rel => exact ⟨k + 1, by omega, by go_num, BWW⟩
          case measure => simp [intOf]; omega
        · obtain rfl : k = 4 := by omega
          go_wp2_with (first | (go_at_call 10; refine (awake_any _).mono ?_) | fail)
          rintro e w' ⟨rfl, hb⟩
          go_wp2_with fail
          go_ret
          exact ⟨rfl, below3 BE.out hb⟩
end Go.Proofs.YtllcoocllkaanaaDoor
