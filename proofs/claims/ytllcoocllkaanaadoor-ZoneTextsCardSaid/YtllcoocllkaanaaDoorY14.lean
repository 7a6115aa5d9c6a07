/- Zones: the law ZoneTexts. -/
import Derived.Test.YtllcoocllkaanaaDoorZ24
import Derived.Test.YtllcoocllkaanaaDoorZ23
import Derived.Test.YtllcoocllkaanaaDoorY9
import Derived.Test.YtllcoocllkaanaaDoorY13
namespace Go.Proofs.YtllcoocllkaanaaDoor
open Go.RowKit TT

theorem fmt_len {z : Zn} (h : vldE z.1 z.2.1 z.2.2 = 0) : (arr (fmtS z)).size ≤ 1495 := by
  obtain ⟨hc, _, hl, _⟩ := vldE_ok h
  have hc16 : z.1.length ≤ 16 := (codeOk_of hc).2.1
  have h1 := headZ_len (off := z.2.1) hc16
  rw [arr_size, show fmtS z = fmtZ z from if_pos h, fmtZ, List.length_append, linesZ_len]
  omega
theorem par_fmt {z : Zn} (h : vldE z.1 z.2.1 z.2.2 = 0) : parZ whenC (arr (fmtS z)).data.toList = some z := by
  show parZ whenC (fmtS z) = some z
  rw [show fmtS z = fmtZ z from if_pos h]
  exact parZ_fmt (fun t a b => (when_stp t a b).1) z (code_ink (vldE_ok h).1) h
set_option maxRecDepth 100000 in
set_option maxHeartbeats 4000000 in
theorem law_texts (s0 : ByteArray) (off0 : Int) (a0 : Option Addr) (n0 c0 : Nat) (xs0 : Prs) (a : Option Addr) (n c : Nat) (L : List Int) (w : World)
    (hs0 : s0.size ≤ 9223372036854775807) (hl0 : xs0.length = n0) (hn0 : n0 ≤ 9223372036854775807) (hc0 : xs0 = [] ∨ ∃ b of, a0 = some ⟨b, of, none⟩ ∧ PCells w b of xs0)
    (hI : IntsAt w a n L) (hL : ∀ x ∈ L, -9223372036854775808 ≤ x ∧ x ≤ 9223372036854775807) (hT : Tbs w) :
    Calls Tryd.prog 7 #[.agg #[.string s0, .int .i64 off0, .slice a0 n0 c0], .slice a n c] w (RetB (.bool true) w) := by
  have HT := Lib.hid hT
  clear hT
  have BX : Hid (Below w.heap.size w (w.alloc (.cells #[.string s0, .int .i64 off0, .slice a0 n0 c0] 24))) := Lib.hid ((Below.refl _ _).alloc (Nat.le_refl _) _)
  by_cases hn : n ≤ 400 ∧ n0 ≤ 100
  rotate_left
  · by_cases hn4 : n ≤ 400
    · have hd : decide (n ≤ 400) = true := by simpa using hn4
      have hn5 : 100 < n0 := by omega
      have hn6 : ¬ (n0 ≤ 100) := by omega
      clear hI hL hn hc0
      go_enter Tryd.func7, Tryd.ntmps7
      go_wp2_with (first | (go_at_call 9; refine (light_any _ _ _ _).mono ?_; rw [hd]; rintro e w' ⟨rfl, rfl⟩) | (go_at_call 10; refine (awake_any _).mono ?_; rintro e w' ⟨rfl, hb⟩))
      go_ret
      exact ⟨rfl, below3 BX.out hb⟩
    · have hd : decide (n ≤ 400) = false := by simpa using hn4
      clear hI hL hn hc0
      go_enter Tryd.func7, Tryd.ntmps7
      go_wp2_with (first | (go_at_call 9; refine (light_any _ _ _ _).mono ?_; rw [hd]; rintro e w' ⟨rfl, rfl⟩) | (go_at_call 10; refine (awake_any _).mono ?_; rintro e w' ⟨rfl, hb⟩))
      go_ret
      exact ⟨rfl, below3 BX.out hb⟩
  obtain ⟨hn4, hn5⟩ := hn
  have hd : decide (n ≤ 400) = true := by simpa using hn4
  have HDx := Lib.hid (DiceAt.mk0 c 55 (hI.below BX.out) hn4 hL)
  have HD0 : Hid (DiceAt ((w.alloc (.cells #[.string s0, .int .i64 off0, .slice a0 n0 c0] 24)).alloc (.cells #[.slice a n c, .int .i64 0] 55)) (w.heap.size + 1)) := by simpa using HDx
  clear HDx
  have B0 : Below w.heap.size w ((w.alloc (.cells #[.string s0, .int .i64 off0, .slice a0 n0 c0] 24)).alloc (.cells #[.slice a n c, .int .i64 0] 55)) := BX.out.alloc (by simp) _
  have hz0 : ZC ((w.alloc (.cells #[.string s0, .int .i64 off0, .slice a0 n0 c0] 24)).alloc (.cells #[.slice a n c, .int .i64 0] 55)) (w.heap.size + 1) w.heap.size 0 s0 off0 a0 n0 c0 xs0 := by
    refine ⟨?_, ?_, ?_, hl0, hn5, hs0, by omega, ?_⟩
    · rw [World.cell?_alloc_past _ _ _ (by simp), World.cell?_alloc_at _ _ _ _ rfl]; rfl
    · rw [World.cell?_alloc_past _ _ _ (by simp), World.cell?_alloc_at _ _ _ _ rfl]; rfl
    · rw [World.cell?_alloc_past _ _ _ (by simp), World.cell?_alloc_at _ _ _ _ rfl]; rfl
    · rcases hc0 with h0 | ⟨b, of, e, hP⟩
      · exact Or.inl h0
      · by_cases h0 : xs0 = []
        · exact Or.inl h0
        · have hb := lt_of_cell (hP 0 (List.length_pos_iff.2 h0)).1
          exact Or.inr ⟨b, of, e, by simp at hb; omega, hP.below B0⟩
  have HZ0 := Lib.hid hz0
  have HB0 := Lib.hid B0
  clear hI hL hn4 hc0 hz0 B0
  go_enter Tryd.func7, Tryd.ntmps7
  go_wp2_with (first | (go_at_call 9; refine (light_any _ _ _ _).mono ?_; rw [hd]; rintro e w' ⟨rfl, rfl⟩) | fail)
  obtain ⟨z0, z1, z2, _, _, _, zne, _⟩ := HZ0.out
  have d0 : ((w.alloc (.cells #[.string s0, .int .i64 off0, .slice a0 n0 c0] 24)).drew.alloc (.cells #[.slice a n c, .int .i64 0] 55)).cell? ⟨w.heap.size, 0, none⟩ = some (.string s0) := z0
  have d1 : ((w.alloc (.cells #[.string s0, .int .i64 off0, .slice a0 n0 c0] 24)).drew.alloc (.cells #[.slice a n c, .int .i64 0] 55)).cell? ⟨w.heap.size, 1, none⟩ = some (.int .i64 off0) := z1
  have d2 : ((w.alloc (.cells #[.string s0, .int .i64 off0, .slice a0 n0 c0] 24)).drew.alloc (.cells #[.slice a n c, .int .i64 0] 55)).cell? ⟨w.heap.size, 2, none⟩ = some (.slice a0 n0 c0) := z2
  have x0 : (w.alloc (.cells #[.string s0, .int .i64 off0, .slice a0 n0 c0] 24)).cell? ⟨w.heap.size, 0, none⟩ = some (.string s0) := by rw [World.cell?_alloc_at _ _ _ _ rfl]; rfl
  have x1 : (w.alloc (.cells #[.string s0, .int .i64 off0, .slice a0 n0 c0] 24)).cell? ⟨w.heap.size, 1, none⟩ = some (.int .i64 off0) := by rw [World.cell?_alloc_at _ _ _ _ rfl]; rfl
  have x2 : (w.alloc (.cells #[.string s0, .int .i64 off0, .slice a0 n0 c0] 24)).cell? ⟨w.heap.size, 2, none⟩ = some (.slice a0 n0 c0) := by rw [World.cell?_alloc_at _ _ _ _ rfl]; rfl
  go_upto_region 3 with fail
  go_cut [27, 28, 29] (fun s35 s36 s37 wx => OMid (w.heap.size + 1) ((w.alloc (.cells #[.string s0, .int .i64 off0, .slice a0 n0 c0] 24)).alloc (.cells #[.slice a n c, .int .i64 0] 55)) s35 s36 s37 wx)
  case first =>
    go_region_with (first
      | (go_at_call 11; refine (roll_any _ _ _ _).mono ?_; rintro e w' ⟨rfl, rfl⟩; skip)
      | (go_at_call 12; refine (some_any (w.heap.size + 1) _ ?_).mono ?_; (first | exact HD0.out | exact HD0.out.same (fun _ _ => rfl)); rintro e w3 ⟨s', off', a', cap', xs', rfl, h2, h3, h4, h5, h6⟩; have BN : But (w.heap.size + 1) ((w.alloc (.cells #[.string s0, .int .i64 off0, .slice a0 n0 c0] 24)).alloc (.cells #[.slice a n c, .int .i64 0] 55)) w3 := ⟨h6.os, h6.tape, h6.output, h6.size, h6.block⟩; have Z3 := Lib.hid (HZ0.out.but BN); obtain ⟨k0, k1, k2, _, _, _, _, _⟩ := Z3.out; have H4 := Lib.hid h4; clear h4 h6; have h5l := h5.lt; have H5 := Lib.hid h5; clear h5; have hn3 : w3.heap.size ≠ w.heap.size + 1 := (by omega)))
    all_goals (
      go_wp2_with fail
      go_meet
      refine ⟨_, rfl, rfl, rfl, H5.out.alloc _, BN.alloc _, fun k hk => ?_⟩
      rcases (show k = 0 ∨ k = 1 by omega) with rfl | rfl
      · exact ⟨_, _, _, _, _, _, Z3.out.box ((But.refl _ w3).alloc _) hn3 (by rw [World.cell?_alloc_at _ _ _ _ rfl]; rfl) (by rw [World.cell?_alloc_at _ _ _ _ rfl]; rfl) (by rw [World.cell?_alloc_at _ _ _ _ rfl]; rfl)⟩
      · refine ⟨_, _, _, _, _, xs', ZC.of_some h2 h3 ?_ hn3 (by rw [World.cell?_alloc_at _ _ _ _ rfl]; rfl) (by rw [World.cell?_alloc_at _ _ _ _ rfl]; rfl) (by rw [World.cell?_alloc_at _ _ _ _ rfl]; rfl)⟩
        rcases H4.out with h0 | ⟨b, of, e, hb, hP⟩
        · exact Or.inl h0
        · exact Or.inr ⟨b, of, e, hb, hP.below ((Below.refl _ _).alloc (Nat.le_refl _) _)⟩)
  case rest =>
    generalize (w.alloc (.cells #[.string s0, .int .i64 off0, .slice a0 n0 c0] 24)).alloc (.cells #[.slice a n c, .int .i64 0] 55) = W0 at *
    generalize hp : w.heap.size + 1 = p at *
    have HP := Lib.hid hp
    have hpl := HD0.out.lt
    clear hp HD0
    obtain ⟨g, rfl, rfl, rfl, hdx, hbx, hzz⟩ := hcut
    have HZZ := Lib.hid hzz
    have HDX := Lib.hid hdx
    have HBX := Lib.hid hbx
    clear hzz hdx hbx z0 z1 z2 d0 d1 d2 x0 x1 x2
    go_wp2_with fail
    go_loopw [29] (fun i wr => ∃ k : Nat, k ≤ 2 ∧ i = .int .i64 k ∧ Hid (DiceAt wr p) ∧ Hid (But p wc wr)) (fun i _ => 2 - (intOf i).toNat)
    case atStart => exact ⟨0, by omega, rfl, HDX, Lib.hid (But.refl _ _)⟩
    case round =>
      obtain ⟨k, hk, rfl, HD, HB⟩ := hrel
      have BE : Hid (Below w.heap.size w wr) := Lib.hid (But.below HB0.out (HBX.out.trans HB.out) (by have := HP.out; omega) (by have := HP.out; omega))
      by_cases hlt : k < 2
      · obtain ⟨s, off, az, nz, cz, xs, hz⟩ := HZZ.out k hlt
        have HZ := Lib.hid (hz.but HB.out)
        clear hz
        obtain ⟨y0, y1, y2, hlen, hle, hsz, hgp, _⟩ := HZ.out
        subst hlen
        have hpr := HD.out.lt
        have gl := lt_of_cell y0
        have hrn : wr.heap.size ≠ p := by omega
        have HZ1 : Hid (ZC (wr.alloc (.cells #[.string s, .int .i64 off, .slice az xs.length cz] 24)) p wr.heap.size 0 s off az xs.length cz xs) := Lib.hid (HZ.out.box ((But.refl p wr).alloc _) hrn (by rw [World.cell?_alloc_at _ _ _ _ rfl]; rfl) (by rw [World.cell?_alloc_at _ _ _ _ rfl]; rfl) (by rw [World.cell?_alloc_at _ _ _ _ rfl]; rfl))
        have BW : Hid (Below wr.heap.size wr (wr.alloc (.cells #[.string s, .int .i64 off, .slice az xs.length cz] 24))) := Lib.hid ((Below.refl _ _).alloc (Nat.le_refl _) _)
        have FM := Lib.hid (fun W (hb : Below wr.heap.size wr W) (hv : ZVal W (.agg #[.string s, .int .i64 off, .slice az xs.length cz]) s off xs) => format_any W hv (HT.out.below (BE.out.trans (hb.mono BE.out.size))))
        have FR := Lib.hid (fun W (hv : ZVal W (.agg #[.string s, .int .i64 off, .slice az xs.length cz]) s off xs) => rformat_any W hv)
        go_wp2_with fail
        refine (FM.out _ BW.out HZ1.out.val).mono ?_
        rintro e w4 ⟨rfl, hb4⟩
        have HZ4 := Lib.hid (HZ1.out.below hb4)
        have BW4 := Lib.hid (BW.out.trans (hb4.mono BW.out.size))
        clear hb4 y0 y1 y2 gl
        obtain ⟨y0, y1, y2, _, _, _, _, _⟩ := HZ4.out
        have gl := lt_of_cell y0
        go_wp2_with fail
        refine (FR.out _ HZ4.out.val).mono ?_
        rintro e w5 ⟨rfl, hb5⟩
        have HZ5 := Lib.hid (HZ4.out.below hb5)
        have BW5 := Lib.hid (BW4.out.trans (hb5.mono BW4.out.size))
        clear hb5 y0 y1 y2 gl
        obtain ⟨y0, y1, y2, _, _, _, _, _⟩ := HZ5.out
        have gl := lt_of_cell y0
        have HDr := Lib.hid (HD.out.below BW5.out)
        have HBr := Lib.hid (HB.out.trans (But.of_below BW5.out))
        by_cases hv : vldE s.data.toList off xs = 0
        · have hv1 : (vldE s.data.toList off xs != 0) = false := by rw [hv]; rfl
          have hv2 : (vldE s.data.toList off xs == 0) = true := by rw [hv]; rfl
          have hsz2 := fmt_len (z := (s.data.toList, off, xs)) hv
          have hpar := par_fmt (z := (s.data.toList, off, xs)) hv
          have hl64 : xs.length ≤ 64 := (vldE_ok hv).2.2.1
          have PA := Lib.hid (parse_any (arr (fmtS (s.data.toList, off, xs))) w5 (HT.out.below (BE.out.trans (BW5.out.mono BE.out.size))) (by omega))
          rw [hpar] at PA
          generalize arr (fmtS (s.data.toList, off, xs)) = so at *
          clear hpar
          go_wp2_with fail
          refine PA.out.mono ?_
          rintro e w6 ⟨v6, rfl, hv6, hb6⟩
          rw [show (pZ (some (s.data.toList, off, xs))) = (s.data.toList, off, xs) from rfl] at hv6
          simp only at hv6
          rw [arr_of] at hv6
          rw [show pE' (some (s.data.toList, off, xs)) = 0 from rfl]
          have HZ6 := Lib.hid (HZ5.out.below hb6)
          have BW6 := Lib.hid (BW5.out.trans (hb6.mono BW5.out.size))
          have HDr6 := Lib.hid (HD.out.below BW6.out)
          have HBr6 := Lib.hid (HB.out.trans (But.of_below BW6.out))
          have SM := Lib.hid (fun W (hb : Below w6.heap.size w6 W) => zsame_any W hl64 (hv6.below hb) (HZ6.out.val.below hb))
          obtain ⟨sv6, rfl, _, a6, cp6, rfl, _, _⟩ := hv6
          clear hb6 y0 y1 y2 gl
          obtain ⟨y0, y1, y2, _, _, _, _, _⟩ := HZ6.out
          have gl := lt_of_cell y0
          have BA : Hid (Below w6.heap.size w6 (w6.alloc (.cells #[.string s, .int .i64 off, .slice a6 xs.length cp6] 24))) := Lib.hid ((Below.refl _ _).alloc (Nat.le_refl _) _)
          go_wp2_with fail
          refine (SM.out _ BA.out).mono ?_
          rintro e w7 ⟨rfl, hb7⟩
          have BW7 := Lib.hid (BA.out.trans (hb7.mono BA.out.size))
          have HDr7 := Lib.hid (HDr6.out.below BW7.out)
          have HBr7 := Lib.hid (HBr6.out.trans (But.of_below BW7.out))
          clear hb7
          go_wp2_with fail
          go_roundw
          case rel => exact ⟨k + 1, by omega, by go_num, HDr7, HBr7⟩
          case measure => simp [intOf]; omega
        · have hv1 : (vldE s.data.toList off xs != 0) = true := by rw [bne_iff_ne]; exact hv
          have hv2 : (vldE s.data.toList off xs == 0) = false := by rw [beq_eq_false_iff_ne]; exact hv
          clear hv
          generalize arr (fmtS (s.data.toList, off, xs)) = so at *
          go_wp2_with fail
          go_roundw
          case rel => exact ⟨k + 1, by omega, by go_num, HDr, HBr⟩
          case measure => simp [intOf]; omega
      · obtain rfl : k = 2 := by omega
        go_wp2_with (first | (go_at_call 10; refine (awake_any _).mono ?_) | fail)
        rintro e w' ⟨rfl, hb⟩
        go_wp2_with fail
        go_ret
        exact ⟨rfl, below3 BE.out hb⟩
end Go.Proofs.YtllcoocllkaanaaDoor
