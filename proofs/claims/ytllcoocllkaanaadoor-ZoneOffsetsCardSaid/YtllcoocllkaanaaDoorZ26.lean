import Derived.Test.YtllcoocllkaanaaDoorZ24
import Derived.Test.YtllcoocllkaanaaDoorZ23
namespace Go.Proofs.YtllcoocllkaanaaDoor
open Go.RowKit

set_option maxRecDepth 100000 in
set_option maxHeartbeats 4000000 in
theorem law_offsets (s0 : ByteArray) (off0 : Int) (a0 : Option Addr) (n0 c0 : Nat) (xs0 : Prs) (a : Option Addr) (n c : Nat) (L : List Int) (q : Int) (q0 : -9223372036854775808 ≤ q) (q1 : q ≤ 9223372036854775807) (w : World)
    (hs0 : s0.size ≤ 9223372036854775807) (hl0 : xs0.length = n0) (hn0 : n0 ≤ 9223372036854775807) (hc0 : xs0 = [] ∨ ∃ b of, a0 = some ⟨b, of, none⟩ ∧ PCells w b of xs0)
    (hI : IntsAt w a n L) (hL : ∀ x ∈ L, -9223372036854775808 ≤ x ∧ x ≤ 9223372036854775807) :
    Calls Tryd.prog 4 #[.agg #[.string s0, .int .i64 off0, .slice a0 n0 c0], .slice a n c, .int .i64 q] w (RetB (.bool true) w) := by
  have BX : Hid (Below w.heap.size w (w.alloc (.cells #[.string s0, .int .i64 off0, .slice a0 n0 c0] 24))) := Lib.hid ((Below.refl _ _).alloc (Nat.le_refl _) _)
  by_cases hn : n ≤ 400 ∧ n0 ≤ 100
  rotate_left
  · by_cases hn4 : n ≤ 400
    · have hd : decide (n ≤ 400) = true := by simpa using hn4
      have hn5 : 100 < n0 := by omega
      have hn6 : ¬ (n0 ≤ 100) := by omega
      clear hI hL hn hc0
      go_enter Tryd.func4, Tryd.ntmps4
      go_wp2_with (first | (go_at_call 9; refine (light_any _ _ _ _).mono ?_; rw [hd]; rintro e w' ⟨rfl, rfl⟩) | (go_at_call 10; refine (awake_any _).mono ?_; rintro e w' ⟨rfl, hb⟩))
      go_ret
      exact ⟨rfl, below3 BX.out hb⟩
    · have hd : decide (n ≤ 400) = false := by simpa using hn4
      clear hI hL hn hc0
      go_enter Tryd.func4, Tryd.ntmps4
      go_wp2_with (first | (go_at_call 9; refine (light_any _ _ _ _).mono ?_; rw [hd]; rintro e w' ⟨rfl, rfl⟩) | (go_at_call 10; refine (awake_any _).mono ?_; rintro e w' ⟨rfl, hb⟩))
      go_ret
      exact ⟨rfl, below3 BX.out hb⟩
  obtain ⟨hn4, hn5⟩ := hn
  have hd : decide (n ≤ 400) = true := by simpa using hn4
  have HD0 := Lib.hid (DiceAt.mk0 c 55 (hI.below BX.out) hn4 hL)
  have m0 := Int.emod_nonneg q (show (52596000 : Int) ≠ 0 by decide)
  have m1 := Int.emod_lt_of_pos q (show (0 : Int) < 52596000 by decide)
  have HM : Hid (∀ W, Calls Tryd.prog 13 #[.int .i64 q, .int .i64 52596000] W (RetS (.int .i64 (q % 52596000)) W)) := Lib.hid (fun W => mod_any q 52596000 q0 q1 (by decide) (by decide) W)
  have B0 : Below w.heap.size w ((w.alloc (.cells #[.string s0, .int .i64 off0, .slice a0 n0 c0] 24)).alloc (.cells #[.slice a n c, .int .i64 0] 55)) := BX.out.alloc (by simp) _
  have hz0 : ZC ((w.alloc (.cells #[.string s0, .int .i64 off0, .slice a0 n0 c0] 24)).alloc (.cells #[.slice a n c, .int .i64 0] 55)) (w.heap.size + 1) w.heap.size 0 s0 off0 a0 n0 c0 xs0 := by
    refine ⟨?_, ?_, ?_, hl0, hn5, hs0, by omega, ?_⟩
    · rw [World.cell?_alloc_past _ _ _ (by simp), World.cell?_alloc_at _ _ _ _ rfl]; rfl
    · rw [World.cell?_alloc_past _ _ _ (by simp), World.cell?_alloc_at _ _ _ _ rfl]; rfl
    · rw [World.cell?_alloc_past _ _ _ (by simp), World.cell?_alloc_at _ _ _ _ rfl]; rfl
    · rcases hc0 with h0 | ⟨b, of, e, hP⟩
      · exact Or.inl h0
      · by_cases h0 : xs0 = []
        · exact Or.inl h0
        · have hb := lt_of_cell (hP 0 (List.length_pos_iff.2 h0)).1
          exact Or.inr ⟨b, of, e, by simp at hb; omega, hP.below B0⟩
  have HZ0 := Lib.hid hz0
  have HB0 := Lib.hid B0
  clear hI hL hn4 hc0 hz0 B0
  generalize q % 52596000 = x at *
  go_enter Tryd.func4, Tryd.ntmps4
  go_wp2_with (first | (go_at_call 9; refine (light_any _ _ _ _).mono ?_; rw [hd]; rintro e w' ⟨rfl, rfl⟩) | (go_at_call 11; refine (roll_any _ _ _ _).mono ?_; rintro e w' ⟨rfl, rfl⟩) | fail)
  generalize (w.alloc (.cells #[.string s0, .int .i64 off0, .slice a0 n0 c0] 24)).alloc (.cells #[.slice a n c, .int .i64 0] 55) = W0 at *
  have HD1 : Hid (DiceAt W0 (w.heap.size + 1)) := by simpa using HD0
  generalize hp : w.heap.size + 1 = p at *
  have HP := Lib.hid hp
  clear hp HD0
  have hpl := HD1.out.lt
  obtain ⟨z0, z1, z2, _, _, _, zne, _⟩ := HZ0.out
  have zl := lt_of_cell z0
  go_upto_region 4 with fail
  go_cut [35, 36, 37] (fun s35 s36 s37 wx => OMid p W0 s35 s36 s37 wx)
  case first =>
    go_region_with (go_at_call 12; refine (some_any p _ ?_).mono ?_; (first | exact HD1.out | exact HD1.out.drew); rintro e w3 ⟨s', off', a', cap', xs', rfl, h2, h3, h4, h5, h6⟩; have BN : But p W0 w3 := (by first | exact h6 | exact h6.undrw); have Z3 := Lib.hid (HZ0.out.but BN); obtain ⟨k0, k1, k2, _, _, _, _, _⟩ := Z3.out; have H4 := Lib.hid h4; clear h4 h6; have h5l := h5.lt; have H5 := Lib.hid h5; clear h5; have hn3 : w3.heap.size ≠ p := (by omega))
    all_goals (
      go_wp2_with fail
      go_meet
      refine ⟨_, rfl, rfl, rfl, H5.out.alloc _, BN.alloc _, fun k hk => ?_⟩
      rcases (show k = 0 ∨ k = 1 by omega) with rfl | rfl
      · exact ⟨_, _, _, _, _, _, Z3.out.box ((But.refl p w3).alloc _) hn3 (by rw [World.cell?_alloc_at _ _ _ _ rfl]; rfl) (by rw [World.cell?_alloc_at _ _ _ _ rfl]; rfl) (by rw [World.cell?_alloc_at _ _ _ _ rfl]; rfl)⟩
      · refine ⟨_, _, _, _, _, xs', ZC.of_some h2 h3 ?_ hn3 (by rw [World.cell?_alloc_at _ _ _ _ rfl]; rfl) (by rw [World.cell?_alloc_at _ _ _ _ rfl]; rfl) (by rw [World.cell?_alloc_at _ _ _ _ rfl]; rfl)⟩
        rcases H4.out with h0 | ⟨b, of, e, hb, hP⟩
        · exact Or.inl h0
        · exact Or.inr ⟨b, of, e, hb, hP.below ((Below.refl _ _).alloc (Nat.le_refl _) _)⟩)
  case rest =>
    obtain ⟨g, rfl, rfl, rfl, hdx, hbx, hzz⟩ := hcut
    have HZZ := Lib.hid hzz
    have HDX := Lib.hid hdx
    have HBX := Lib.hid hbx
    clear hzz hdx hbx z0 z1 z2
    go_wp2_with fail
    go_loopw [37] (fun i wr => ∃ k : Nat, k ≤ 2 ∧ i = .int .i64 k ∧ Hid (DiceAt wr p) ∧ Hid (But p wc wr)) (fun i _ => 2 - (intOf i).toNat)
    case atStart => exact ⟨0, by omega, rfl, HDX, Lib.hid (But.refl _ _)⟩
    case round =>
      obtain ⟨k, hk, rfl, HD, HB⟩ := hrel
      by_cases hlt : k < 2
      · obtain ⟨s, off, az, nz, cz, xs, hz⟩ := HZZ.out k hlt
        have HZ := Lib.hid (hz.but HB.out)
        clear hz
        obtain ⟨y0, y1, y2, hlen, hle, hsz, hgp, _⟩ := HZ.out
        have HL := Lib.hid hlen
        clear hlen
        have hpr := HD.out.lt
        have gl := lt_of_cell y0
        go_wp2_with fail
        have hrn : wr.heap.size ≠ p := by omega
        have HZ1 : Hid (ZC (wr.alloc (.cells #[.string s, .int .i64 off, .slice az nz cz] 24)) p wr.heap.size 0 s off az nz cz xs) := Lib.hid (HZ.out.box ((But.refl p wr).alloc _) hrn (by rw [World.cell?_alloc_at _ _ _ _ rfl]; rfl) (by rw [World.cell?_alloc_at _ _ _ _ rfl]; rfl) (by rw [World.cell?_alloc_at _ _ _ _ rfl]; rfl))
        have HD1' : Hid (DiceAt (wr.alloc (.cells #[.string s, .int .i64 off, .slice az nz cz] 24)) p) := Lib.hid (HD.out.alloc _)
        have HB1' : Hid (But p wc (wr.alloc (.cells #[.string s, .int .i64 off, .slice az nz cz] 24))) := Lib.hid (HB.out.alloc _)
        clear y0 y1 y2 HZ HD HB
        generalize wr.alloc (.cells #[.string s, .int .i64 off, .slice az nz cz] 24) = wz at *
        generalize wr.heap.size = bz at *
        obtain ⟨wo, rfl⟩ : ∃ wo : World, wo = wc := ⟨_, rfl⟩
        obtain ⟨y0, y1, y2, _, _, _, _, _⟩ := HZ1.out
        have zl := lt_of_cell y0
        have BD : Hid (Below wz.heap.size wz wz.drew) := Lib.hid ⟨rfl, rfl, rfl, Nat.le_refl _, fun _ _ => rfl⟩
        have RV : Hid (∃ V : Int, ∀ W, Below wz.heap.size wz W → (Calls Tryd.prog 20 #[.agg #[.string s, .int .i64 off, .slice az nz cz]] W (RetB (.int .i64 V) W)) ∧ (Calls Tryd.prog 21 #[.agg #[.string s, .int .i64 off, .slice az nz cz]] W (RetB (.int .i64 V) W))) := Lib.hid ⟨_, fun W hb => ⟨valid_any W (HZ1.out.below hb).val, rvalid_any W (HZ1.out.below hb).val⟩⟩
        obtain ⟨V, hV⟩ := RV.out
        have HV := Lib.hid hV
        clear hV RV
        go_upto_region 7 with fail
        go_cut [45] (fun s45 wx => s45 = .bool false ∧ Below wz.heap.size wz wx)
        case first =>
          go_region_with (first
            | (go_at_call 20; refine (HV.out _ ?_).1.mono ?_; (first | exact BD.out | assumption); rintro e w4 ⟨rfl, hb4⟩; have BQ : Below wz.heap.size wz w4 := (by first | exact below3 BD.out hb4 | exact below3 (by assumption) hb4); obtain ⟨k0, k1, k2, _, _, _, _, _⟩ := HZ1.out.below BQ; have kl := lt_of_cell k0; clear hb4)
            | (go_at_call 21; refine (HV.out _ ?_).2.mono ?_; (first | exact BD.out | assumption); rintro e w4 ⟨rfl, hb4⟩; have BQ : Below wz.heap.size wz w4 := (by first | exact below3 BD.out hb4 | exact below3 (by assumption) hb4); obtain ⟨k0, k1, k2, _, _, _, _, _⟩ := HZ1.out.below BQ; have kl := lt_of_cell k0; clear hb4))
          all_goals (
            go_wp2_with fail
            go_meet
            exact ⟨by simp, by assumption⟩)
        case rest =>
          obtain ⟨rfl, hbz⟩ := hcut
          have HZ2 := Lib.hid (HZ1.out.below hbz)
          have HD2 := Lib.hid (HD1'.out.below hbz)
          have HB2 := Lib.hid (HB1'.out.trans (But.of_below hbz))
          clear hbz HZ1 HD1' HB1' BD HV y0 y1 y2
          obtain ⟨wq, rfl⟩ : ∃ wo : World, wo = wc := ⟨_, rfl⟩
          obtain ⟨y0, y1, y2, _, _, _, _, _⟩ := HZ2.out
          have ql := lt_of_cell y0
          have qp := HD2.out.lt
          have qn : wq.heap.size ≠ p := by omega
          have near : Hid (∀ W, DiceAt W p → But p wq W → Calls Tryd.prog 14 #[.pointer (some ⟨p, 0, none⟩), .agg #[.string s, .int .i64 off, .slice az nz cz]] W (NearP p W)) := Lib.hid (fun W hD hB => by
            have h := HZ2.out.but hB
            exact mnear_any p W s off _ _ _ xs h.len h.cel h.le hD)
          go_wp2_with fail
          go_upto_region 9 with fail
          go_cut [52, 53, 54] (fun s52 s53 s54 wx => NMid3 p wq q x s52 s53 s54 wx)
          case first =>
            go_region_with (first
              | (go_at_call 13; refine (HM.out _).mono ?_; rintro e w' ⟨rfl, rfl⟩)
              | (go_at_call 14; refine (near.out _ ?_ ?_).mono ?_; (first | exact HD2.out | exact HD2.out.drew); (first | exact But.refl _ _ | exact (But.refl _ _).drew); rintro e w5 ⟨y, rfl, yy0, yy1, hd5, hb5⟩; have BN : But p wq w5 := (by first | exact hb5 | exact hb5.undrw); have hd5l := hd5.lt; have HD5 := Lib.hid hd5; clear hd5 hb5))
            all_goals (
              go_wp2_with fail
              go_meet
              refine ⟨_, y, rfl, rfl, rfl, HD5.out.alloc _, BN.alloc _, by omega, ?c0, ?c1, ?c2⟩
              case c0 => rw [World.cell?_alloc_at _ _ _ _ rfl]; rfl
              case c1 => rw [World.cell?_alloc_at _ _ _ _ rfl]; rfl
              case c2 => rw [World.cell?_alloc_at _ _ _ _ rfl]; rfl)
          case rest =>
            obtain ⟨ga, y, rfl, rfl, rfl, hd9, hb9, gn9, n0', n1', n2'⟩ := hcut
            have HZ9 := Lib.hid (HZ2.out.but hb9)
            have HD9 := Lib.hid hd9
            have HB9 := Lib.hid (HB2.out.trans hb9)
            have HN9 : Hid (∀ j, j < 3 → ∃ N, wc.cell? ⟨ga, j, none⟩ = some (.int .i64 N)) := Lib.hid (fun j hj => by
              rcases (show j = 0 ∨ j = 1 ∨ j = 2 by omega) with rfl | rfl | rfl
              · exact ⟨_, n0'⟩
              · exact ⟨_, n1'⟩
              · exact ⟨_, n2'⟩)
            have ga9 := lt_of_cell n0'
            clear hd9 hb9 n0' n1' n2' HZ2 HD2 HB2 near y0 y1 y2 ql qp qn
            obtain ⟨w9, rfl⟩ : ∃ wo : World, wo = wc := ⟨_, rfl⟩
            obtain ⟨wr0, rfl⟩ : ∃ wo : World, wo = wr := ⟨_, rfl⟩
            go_wp2_with fail
            go_loopw [54] (fun i wr => ∃ j : Nat, j ≤ 3 ∧ i = .int .i64 j ∧ Hid (Below w9.heap.size w9 wr)) (fun i _ => 3 - (intOf i).toNat)
            case atStart => exact ⟨0, by omega, rfl, Lib.hid (Below.refl _ _)⟩
            case round =>
              obtain ⟨j, hj, rfl, HQ⟩ := hrel
              by_cases hj3 : j < 3
              · obtain ⟨N, hN⟩ := HN9.out j hj3
                have hN' : wr.cell? ⟨ga, j, none⟩ = some (.int .i64 N) := (HQ.out.cell (p := ⟨ga, j, none⟩) ga9).trans hN
                have HZr := Lib.hid (HZ9.out.below HQ.out)
                obtain ⟨y0, y1, y2, _, _, _, _, _⟩ := HZr.out
                have zl := lt_of_cell y0
                have R : Hid (∃ V E U F : Int, ∀ W, Below wr.heap.size wr W → (Calls Tryd.prog 22 #[.agg #[.string s, .int .i64 off, .slice az nz cz], .int .i64 N] W (RetB (.tuple #[.int .i64 V, .int .i64 E]) W)) ∧ (Calls Tryd.prog 23 #[.agg #[.string s, .int .i64 off, .slice az nz cz], .int .i64 N] W (RetB (.tuple #[.int .i64 V, .int .i64 E]) W)) ∧ (Calls Tryd.prog 24 #[.agg #[.string s, .int .i64 off, .slice az nz cz], .int .i64 N] W (RetB (.tuple #[.int .i64 U, .int .i64 F]) W)) ∧ (Calls Tryd.prog 25 #[.agg #[.string s, .int .i64 off, .slice az nz cz], .int .i64 N] W (RetB (.tuple #[.int .i64 U, .int .i64 F]) W))) :=
                  Lib.hid ⟨_, _, _, _, fun W hb => ⟨offset_any N W (HZr.out.below hb).val, roffset_any N W (HZr.out.below hb).val, local_any N W (HZr.out.below hb).val, rlocal_any N W (HZr.out.below hb).val⟩⟩
                obtain ⟨V, E, U, F, hR⟩ := R.out
                have HR := Lib.hid hR
                clear hR R hN
                go_wp2_with (first | (go_at_call 22; refine ((HR.out _ (Below.refl _ _)).1).mono ?_) | fail)
                rintro e w3 ⟨rfl, hb3⟩
                have BD3 := Lib.hid hb3
                obtain ⟨hc3, hf3⟩ := bcell hb3
                clear hb3 hf3 hN'
                go_wp2_with (first | (go_at_call 23; refine ((HR.out _ BD3.out).2.1).mono ?_) | fail)
                rintro e w4 ⟨rfl, hb4⟩
                have BD4 := Lib.hid (below3 BD3.out hb4)
                clear hc3 hb4
                obtain ⟨hc4, hf4⟩ := bcell BD4.out
                clear hf4
                go_wp2_with (first | (go_at_call 24; refine ((HR.out _ BD4.out).2.2.1).mono ?_) | fail)
                rintro e w5 ⟨rfl, hb5⟩
                have BD5 := Lib.hid (below3 BD4.out hb5)
                clear hc4 hb5
                obtain ⟨hc5, hf5⟩ := bcell BD5.out
                clear hf5
                go_wp2_with (first | (go_at_call 25; refine ((HR.out _ BD5.out).2.2.2).mono ?_) | fail)
                rintro e w6 ⟨rfl, hb6⟩
                have BD6 := Lib.hid (below3 HQ.out (below3 BD5.out hb6))
                clear hc5 hb6
                go_wp2_with fail
                go_roundw
                case rel => exact ⟨j + 1, by omega, by go_num, BD6⟩
                case measure => simp [intOf]; omega
              · obtain rfl : j = 3 := by omega
                have HDr := Lib.hid (HD9.out.below HQ.out)
                have HBr := Lib.hid (HB9.out.trans (But.of_below HQ.out))
                go_wp2_with fail
                go_roundw
                case rel => exact ⟨k + 1, by omega, by go_num, HDr, HBr⟩
                case measure => simp [intOf]; omega
      · obtain rfl : k = 2 := by omega
        have BE : Hid (Below w.heap.size w wr) := Lib.hid (But.below HB0.out (HBX.out.trans HB.out) (by have := HP.out; omega) (by have := HP.out; omega))
        go_wp2_with (first | (go_at_call 10; refine (awake_any _).mono ?_) | fail)
        rintro e w' ⟨rfl, hb⟩
        go_wp2_with fail
        go_ret
        exact ⟨rfl, below3 BE.out hb⟩
end Go.Proofs.YtllcoocllkaanaaDoor
