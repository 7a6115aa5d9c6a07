import Derived.Test.YtgdgpniceaknbaaDoorT21
import Derived.Test.YtgdgpniceaknbaaDoorPlain3
import Derived.Deep.RegionHeld3
namespace Go.Proofs.YtgdgpniceaknbaaDoor
open Go.RowKit TT

def SetPost (p : Nat) (w : World) (e : Ending) (w' : World) : Prop := ∃ r : Int, 0 ≤ r ∧ r ≤ 1048576 ∧ e = .returned (.int .i64 r) ∧ DiceAt w' p ∧ But p w w'
set_option maxHeartbeats 4000000 in
theorem set_any (p : Nat) (k : Int) (w : World) (k1 : 1 ≤ k) (k2 : k ≤ 8) (hD : DiceAt w p) :
    Calls Tryd.prog 33 #[.pointer (some ⟨p, 0, none⟩), .int .i64 k] w (SetPost p w) := by
  have HD := Lib.hid hD
  clear hD
  have hk : k = 1 ∨ k = 2 ∨ k = 3 ∨ k = 4 ∨ k = 5 ∨ k = 6 ∨ k = 7 ∨ k = 8 := by omega
  rcases hk with rfl | rfl | rfl | rfl | rfl | rfl | rfl | rfl
  all_goals
    clear k1 k2
    go_enter Tryd.func33, Tryd.ntmps33
    go_wp2_with fail
    refine (next_any p 4 _ (by omega) (by omega) HD.out).mono ?_
    rintro e w1 ⟨r, r0, r1, rfl, hd1, hb1⟩
    have hr : r = 0 ∨ r = 1 ∨ 2 ≤ r := by omega
    rcases hr with rfl | rfl | hr
    · go_wp2_with fail
      go_ret
      exact ⟨_, by decide, by decide, rfl, hd1, hb1⟩
    · go_wp2_with fail
      go_ret
      exact ⟨_, by decide, by decide, rfl, hd1, hb1⟩
    · have HD1 := Lib.hid hd1
      have HB1 := Lib.hid hb1
      clear hd1 hb1
      go_wp2_with fail
      refine (next_any p _ _ (by omega) (by omega) HD1.out).mono ?_
      rintro e w2 ⟨q, q0, q1, rfl, hd2, hb2⟩
      go_wp2_with fail
      go_ret
      exact ⟨_, by omega, by omega, rfl, hd2, HB1.out.trans hb2⟩

/-- the same, with one cell more -/
theorem IntsAt.get {w : World} {b off n : Nat} {hs : List Int} (h : IntsAt w (some ⟨b, off, none⟩) n hs) {i : Nat} (hi : i < n) : w.cell? ⟨b, off + i, none⟩ = some (.int .i64 (hs.getD i 0)) := by
  obtain ⟨_, _, h0 | ⟨b', off', e, hc⟩⟩ := h
  · omega
  · cases e; exact hc i hi
/-- what the regions of the law keep -/
def PlaceS (w : World) (B : Nat) (f k : Int) (a : Option Addr) (n c : Nat) (hs : List Int) (wr : World) : Prop :=
  MadeW w wr w.heap.size B f k a n c hs ∧ wr.cell? ⟨B, 0, none⟩ = some (.int .i64 f) ∧ wr.cell? ⟨B, 1, none⟩ = some (.int .i64 k) ∧ wr.cell? ⟨B, 2, none⟩ = some (.slice a n c)
section
variable {w wr w2 : World} {B : Nat} {f k : Int} {a : Option Addr} {n c : Nat} {hs : List Int}
theorem PlaceS.mk0 (h : MadeW w wr w.heap.size B f k a n c hs) : PlaceS w B f k a n c hs wr := ⟨h, h.cells.1.1, h.cells.1.2.1, h.cells.1.2.2⟩
theorem PlaceS.drew (h : PlaceS w B f k a n c hs wr) : PlaceS w B f k a n c hs wr.drew := PlaceS.mk0 (MadeW.below (w2 := wr.drew) h.1 ⟨rfl, rfl, rfl, Nat.le_refl _, fun _ _ => rfl⟩)
theorem PlaceS.next (h : PlaceS w B f k a n c hs wr) (hd : DiceAt w2 w.heap.size) (hb : But w.heap.size wr w2) : PlaceS w B f k a n c hs w2 := PlaceS.mk0 (h.1.next hd hb)
theorem PlaceS.below (h : PlaceS w B f k a n c hs wr) (hb : Below wr.heap.size wr w2) : PlaceS w B f k a n c hs w2 := PlaceS.mk0 (h.1.below hb)
end

set_option maxRecDepth 100000 in
set_option maxHeartbeats 8000000 in
theorem law_places (a : Option Addr) (n c : Nat) (L : List Int) (w : World) (hI : IntsAt w a n L) (hL : ∀ x ∈ L, -9223372036854775808 ≤ x ∧ x ≤ 9223372036854775807) (hl : Lens w) :
    Calls Tryd.prog 7 #[.slice a n c] w fun e w' => e = .returned (.bool true) ∧ Below w.heap.size w w' := by
  by_cases hn : n ≤ 400
  rotate_left
  · have hd : decide (n ≤ 400) = false := by simpa using hn
    clear hI hL hn
    go_enter Tryd.func7, Tryd.ntmps7
    go_wp2_with (first | (go_at_call 27; refine (light_any _ _ _ _).mono ?_; rw [hd]; rintro e w' ⟨rfl, rfl⟩) | (go_at_call 14; refine (awake_any _ hl).mono ?_; rintro e w' ⟨rfl, rfl⟩))
    go_ret
    exact ⟨rfl, Below.refl _ _⟩
  have hd : decide (n ≤ 400) = true := by simpa using hn
  have HD0 := Lib.hid (DiceAt.mk0 c 57 hI hn hL)
  have HL0 := Lib.hid hl
  clear hI hL hn hl
  go_enter Tryd.func7, Tryd.ntmps7
  go_wp2_with (first | (go_at_call 27; refine (light_any _ _ _ _).mono ?_; rw [hd]; rintro e w' ⟨rfl, rfl⟩) | (go_at_call 28; refine (roll_any _ _ _ _).mono ?_; rintro e w' ⟨rfl, rfl⟩))
  refine (mterm_any w.heap.size _ HD0.out).mono ?_
  rintro e w1 ⟨f, k, hs, a1, c1, rfl, ht, hpw, hin, hk, hf, hlen, hnl, hne, hi1, hd1, hb1⟩
  have hM := MadeW.start (f := f) (k := k) (c1 := c1) HL0.out hb1 hi1 hd1 hne
  have Z := termE_zero ht
  obtain ⟨_, f1, f2, k1, k2, _, _, _, _, _⟩ := Z
  have HT := Lib.hid ht; have HPW := Lib.hid hpw
  have HLO := Lib.hid (cnt_low (hs := hs) (x := f) (fun y hy => (hin y hy).1))
  have HHI := Lib.hid (cnt_high (hs := hs) (x := f + 7 * k) (fun y hy => by have := (hin y hy).2; unfold lastD at this; omega))
  have HM0 := Lib.hid hM
  clear hM hi1 hd1 hb1 hne ht hnl hpw hin hd
  have HP0 : Hid (w.heap.size < w1.heap.size) := Lib.hid HM0.out.pB
  go_wp2_with fail
  generalize w1.heap.size = B at *
  go_loopw [5, 6, 7, 8, 9, 10, 11, 12] (fun q v _ _ _ _ _ _ wr => ∃ (j : Nat), (j : Int) ≤ k ∧ v = .int .i64 ((j : Int) + 1) ∧ q = .int .i64 (cnt hs (f + 7 * j)) ∧ MadeW w wr w.heap.size B f k a1 hs.length c1 hs) (fun _ v _ _ _ _ _ _ _ => (k + 1 - intOf v).toNat)
  case atStart => exact ⟨0, by omega, rfl, by rw [show f + 7 * ((0 : Nat) : Int) = f by omega, HLO.out]; rfl, HM0.out⟩
  case round =>
    obtain ⟨j, hj, rfl, rfl, hM⟩ := hrel
    clear HM0
    obtain ⟨⟨c0, c1', c2⟩, g0, g1, g2⟩ := hM.cells
    have HM := Lib.hid hM
    clear hM
    have cb := cnt_le hs (f + 7 * j)
    by_cases hjk : (j : Int) + 1 ≤ k
    · go_wp2_with fail
      obtain ⟨wo, hwo⟩ : ∃ wo : World, wo = wr := ⟨_, rfl⟩
      subst hwo
      clear c0 c1' c2 g0 g1 g2
      go_loopw [5, 7, 8, 9, 10, 11, 12] (fun q v _ _ _ _ _ wr => ∃ (m : Nat), m ≤ 7 ∧ v = .int .i64 (m : Int) ∧ q = .int .i64 (cnt hs (f + 7 * j + m)) ∧ MadeW w wr w.heap.size B f k a1 hs.length c1 hs) (fun _ v _ _ _ _ _ _ => 7 - (intOf v).toNat)
      case atStart => exact ⟨0, by omega, rfl, by rw [show f + 7 * (j : Int) + ((0 : Nat) : Int) = f + 7 * j by omega], HM.out⟩
      case round =>
        clear HM
        obtain ⟨m, hm, rfl, rfl, hM⟩ := hrel
        obtain ⟨⟨c0, c1', c2⟩, g0, g1, g2⟩ := hM.cells
        have HM := Lib.hid hM
        clear hM cb
        have cb := cnt_le hs (f + 7 * j + m)
        by_cases hm7 : m < 7
        · have hst := cnt_step (hs := hs) (f + 7 * j + m) HPW.out
          have hpe := place_eq (w := (j : Int) + 1) (d := (m : Int)) HT.out (by omega) hjk (by omega) (by omega)
          have hpw := place_where (w := (j : Int) + 1) (d := (m : Int)) HT.out (by omega) hjk (by omega) (by omega)
          have hx : f + 7 * ((j : Int) + 1 - 1) + m = f + 7 * j + m := by omega
          rw [hx] at hpe hpw
          cases hh : hasI hs (f + 7 * j + m)
          · obtain ⟨p1, p2, p3, p4, p5⟩ := hpw hh
            rw [hh] at hst hpe
            simp only [Bool.not_false] at hpe
            simp only [cond_false, Nat.add_zero] at hst
            have E0 := Lib.hid hpe; have E1 := Lib.hid p1; have E2 := Lib.hid p2; have E3 := Lib.hid p3; have E4 := Lib.hid p4; have E5 := Lib.hid p5; have ST := Lib.hid hst
            clear hpe hst hpw p1 p2 p3 p4 p5 hx hh
            go_wp2_with fail
            refine (at_any f k _ _ hs a1 hs.length c1 _ HM.out.ints).mono ?_
            rw [E0.out, E1.out]
            rintro e w2 ⟨rfl, hb2⟩
            have HM2 := Lib.hid (HM.out.below hb2)
            obtain ⟨⟨c0b, c1b, c2b⟩, _⟩ := HM2.out.cells
            clear hb2 c0 c1' c2 g0 g1 g2
            go_wp2_with fail
            refine (where_any f k _ hs a1 hs.length c1 _ HM2.out.ints).mono ?_
            rw [E2.out, E3.out, E4.out]
            rintro e w3 ⟨rfl, hb3⟩
            have HM3 := Lib.hid (HM2.out.below hb3)
            obtain ⟨⟨c0c, c1c, c2c⟩, _⟩ := HM3.out.cells
            clear hb3 c0b c1b c2b
            go_wp2_with fail
            refine (wday_any _ _).mono ?_
            rw [E5.out]
            rintro e w' ⟨rfl, rfl⟩
            go_wp2_with fail
            go_roundw
            case rel => exact ⟨m + 1, by omega, by go_num, by rw [show f + 7 * (j : Int) + ((m + 1 : Nat) : Int) = f + 7 * j + m + 1 by omega, ST.out], HM3.out⟩
            case measure => simp [intOf]; omega
          · rw [hh] at hst hpe
            simp only [Bool.not_true] at hpe
            simp only [cond_true] at hst
            have E0 := Lib.hid hpe; have ST := Lib.hid hst
            clear hpe hst hpw hx hh
            go_wp2_with fail
            refine (at_any f k _ _ hs a1 hs.length c1 _ HM.out.ints).mono ?_
            rw [E0.out]
            rintro e w2 ⟨rfl, hb2⟩
            have HM2 := Lib.hid (HM.out.below hb2)
            clear hb2 c0 c1' c2 g0 g1 g2
            go_wp2_with fail
            go_roundw
            case rel => exact ⟨m + 1, by omega, by go_num, by rw [show f + 7 * (j : Int) + ((m + 1 : Nat) : Int) = f + 7 * j + m + 1 by omega, ST.out]; go_num, HM2.out⟩
            case measure => simp [intOf]; omega
        · obtain rfl : m = 7 := by omega
          go_wp2_with fail
          go_roundw
          case rel => exact ⟨j + 1, by omega, by go_num, by rw [show f + 7 * ((j + 1 : Nat) : Int) = f + 7 * (j : Int) + ((7 : Nat) : Int) by omega], HM.out⟩
          case measure => simp [intOf]; omega
    · have hjk' : (j : Int) = k := by omega
      have hcn : cnt hs (f + 7 * (j : Int)) = hs.length := by rw [hjk']; exact HHI.out
      rw [hcn]
      clear hjk' hcn
      go_wp2_with fail
      refine (set_any w.heap.size k _ (by omega) hk HM.out.dice).mono ?_
      rintro e w2 ⟨set, s0, s1, rfl, hd2, hb2⟩
      have HM2 := Lib.hid (HM.out.next hd2 hb2)
      obtain ⟨⟨c0b, c1b, c2b⟩, _⟩ := HM2.out.cells
      clear hb2 hd2 c0 c1' c2 g0 g1 g2 cb
      go_wp2_with fail
      have HS := Lib.hid (PlaceS.mk0 HM2.out)
      go_region_held3 (fun w' => MadeW w w' w.heap.size B f k a1 hs.length c1 hs ∧ w'.cell? ⟨B, 0, none⟩ = some (.int .i64 f) ∧ w'.cell? ⟨B, 1, none⟩ = some (.int .i64 k) ∧ w'.cell? ⟨B, 2, none⟩ = some (.slice a1 hs.length c1))
        (first
          | assumption
          | exact PlaceS.drew HS.out
          | exact PlaceS.next (by assumption) hd3 hb3
          | exact PlaceS.below (by assumption) hb4)
        (first
          | (go_at_call 32; refine (next_any w.heap.size 7 _ (by omega) (by omega) (MadeW.dice (And.left (by assumption)))).mono ?_; rintro e w3 ⟨wd, y10, y11, rfl, hd3, hb3⟩)
          | (go_at_call 25; refine (days_ints set wd 0 1 f k hs a1 hs.length c1 _ (MadeW.ints (And.left (by assumption))) (by omega)).mono ?_; rintro e w4 ⟨a4, c4, rfl, hi4, hb4⟩))
      all_goals
        have HM4 : Hid (MadeW w w4 w.heap.size B f k a1 hs.length c1 hs) := Lib.hid (And.left (by assumption))
        have HI4 := Lib.hid hi4
        obtain ⟨⟨c0d, c1d, c2d⟩, _⟩ := HM4.out.cells
        have hsp := daysL_spec f k hs set wd 20
        clear hi4 hb4 hb3 hd3 c0b c1b c2b
        generalize daysL f k hs set wd 20 = l at *
        obtain ⟨hs1, hs2, hs3⟩ := hsp
        have hs3' : (l.length : Int) ≤ k := by omega
        have S1 := Lib.hid hs1; have S2 := Lib.hid hs2
        clear hs1 hs2 hs3
        rcases Nat.eq_zero_or_pos l.length with h0 | h0
        · rw [h0] at hs3' ⊢
          have h00 := Lib.hid h0
          clear h0
          go_wp2_with fail
          go_loop [15, 16, 17, 18] (fun v _ _ _ => v = .int .i64 0) (fun _ _ _ _ => 0)
          case atStart => rfl
          case round =>
            obtain rfl := hrel
            go_wp2_with (go_at_call 14; refine (awake_any _ HM4.out.lens).mono ?_; rintro e w' ⟨rfl, rfl⟩)
            go_ret
            exact ⟨ret_bool (by simp; omega), HM4.out.bl⟩
        obtain ⟨b, off, hab⟩ : ∃ b off, a4 = some ⟨b, off, none⟩ := by
          rcases HI4.out.2.2 with h | ⟨b, off, h, _⟩
          · omega
          · exact ⟨b, off, h⟩
        subst hab
        go_wp2_with fail
        go_loopw [15, 16, 17, 18] (fun v _ _ _ wr => ∃ (q : Nat), q ≤ l.length ∧ v = .int .i64 (q : Int) ∧ MadeW w wr w.heap.size B f k a1 hs.length c1 hs ∧ IntsAt wr (some ⟨b, off, none⟩) l.length l) (fun v _ _ _ _ => l.length - (intOf v).toNat)
        case atStart => exact ⟨0, by omega, rfl, HM4.out, HI4.out⟩
        case round =>
          clear HM4 HI4 HM2 HM HS c0d c1d c2d
          obtain ⟨q, hq, rfl, hM, hIL⟩ := hrel
          obtain ⟨⟨c0, c1', c2⟩, g0, g1, g2⟩ := hM.cells
          have HM := Lib.hid hM; have HIL := Lib.hid hIL
          clear hM hIL
          by_cases hlt : q < l.length
          · obtain ⟨j', j1, j2, j3, j4⟩ := day_where (Nat.le_refl 20) (S1.out (l.getD q 0) (by rw [List.getD_eq_getElem?_getD, List.getElem?_eq_getElem hlt]; exact List.getElem_mem _))
            have gq := HIL.out.get hlt
            have gp : 0 < q → wr.cell? ⟨b, off + (q - 1), none⟩ = some (.int .i64 (l.getD (q - 1) 0)) := fun _ => HIL.out.get (by omega)
            have hpr : 0 < q → l.getD (q - 1) 0 < l.getD q 0 := fun h => getD_lt_of_pairwise S2.out h hlt
            generalize hx : l.getD q 0 = x at *
            generalize hxp : l.getD (q - 1) 0 = xp at *
            have HX := Lib.hid hx; have HXP := Lib.hid hxp
            clear hx hxp
            have J2 := Lib.hid j2; have J3 := Lib.hid j3; have J4 := Lib.hid j4
            clear j2 j3 j4
            have hS : PlaceS w B f k a1 hs.length c1 hs wr := PlaceS.mk0 HM.out
            have HS := Lib.hid hS
            clear hS
            have y1 : (0 : Int) ≤ q := by omega
            have y2 : (q : Int) < l.length := by omega
            go_wp2_with fail
            go_region_held3 (fun w' => (MadeW w w' w.heap.size B f k a1 hs.length c1 hs ∧ w'.cell? ⟨B, 0, none⟩ = some (.int .i64 f) ∧ w'.cell? ⟨B, 1, none⟩ = some (.int .i64 k) ∧ w'.cell? ⟨B, 2, none⟩ = some (.slice a1 hs.length c1)) ∧ IntsAt w' (some ⟨b, off, none⟩) l.length l ∧ w'.cell? ⟨b, off + q, none⟩ = some (.int .i64 x))
              (first
                | assumption
                | exact ⟨PlaceS.drew HS.out, HIL.out, gq⟩
                | (have hBD : Below wr.drew.heap.size wr.drew w5 := hb5; exact ⟨PlaceS.below (wr := wr.drew) (PlaceS.drew HS.out) hBD, IntsAt.below (w := wr.drew) HIL.out hBD, (IntsAt.below (w := wr.drew) HIL.out hBD).get hlt |>.trans (by rw [HX.out])⟩))
              ((go_at_call 20; refine (where_any f k _ hs a1 hs.length c1 _ (MadeW.ints (And.left (And.left (by assumption))))).mono ?_; rw [J3.out, J4.out]; rintro e w5 ⟨rfl, hb5⟩))
            have HM5 := Lib.hid (MadeW.below (wr := wr.drew) (PlaceS.drew HS.out).1 hb5)
            have HIL5 := Lib.hid (IntsAt.below (w := wr.drew) HIL.out hb5)
            have gq5 : w5.cell? ⟨b, off + q, none⟩ = some (.int .i64 x) := (HIL5.out.get hlt).trans (by rw [HX.out])
            have hbit := bit_eq0 set j' s0 (by omega)
            rw [J2.out] at hbit
            simp only [Bool.not_true] at hbit
            have y3 : IntKind.i64.wrap (j' : Int) = j' := IntWalk.i64_in _ (by omega)
            clear hb5 gq g0 g1 g2 c0 c1' c2
            by_cases hq0 : 0 < q
            · have gp5 : w5.cell? ⟨b, off + (q - 1), none⟩ = some (.int .i64 xp) := (HIL5.out.get (by omega)).trans (by rw [HXP.out])
              have gp5' : w5.cell? ⟨b, off + ((q : Int) - 1).toNat, none⟩ = some (.int .i64 xp) := by rw [show ((q : Int) - 1).toNat = q - 1 by omega]; exact gp5
              have hlx := hpr hq0
              have d1 : decide (0 < (q : Int)) = true := by simp; omega
              have d2 : decide (x ≤ xp) = false := by simp; omega
              have y4 : IntKind.i64.wrap ((q : Int) - 1) = (q : Int) - 1 := IntWalk.i64_in _ (by omega)
              have y5 : (0 : Int) ≤ (q : Int) - 1 := by omega
              have y6 : (q : Int) - 1 < l.length := by omega
              clear gp hpr
              go_wp2_with fail
              go_quiet (fail)
              clear y3 y4 y5 y6 d1 d2
              go_wp2_with fail
              go_roundw
              case rel => exact ⟨q + 1, by omega, by go_num, HM5.out.below ⟨rfl, rfl, rfl, Nat.le_refl _, fun _ _ => rfl⟩, HIL5.out⟩
              case measure => simp [intOf]; omega
            · have d1 : decide (0 < (q : Int)) = false := by simp; omega
              clear gp hpr
              go_wp2_with fail
              go_quiet (fail)
              clear y3 d1
              go_wp2_with fail
              go_roundw
              case rel => exact ⟨q + 1, by omega, by go_num, HM5.out.below ⟨rfl, rfl, rfl, Nat.le_refl _, fun _ _ => rfl⟩, HIL5.out⟩
              case measure => simp [intOf]; omega
          · obtain rfl : q = l.length := by omega
            clear c0 c1' c2 g0 g1 g2
            obtain ⟨⟨c0, c1', c2⟩, _⟩ := HM.out.cells
            have hlk : (l.length : Int) ≤ k := hs3'
            go_wp2_with (go_at_call 14; refine (awake_any _ HM.out.lens).mono ?_; rintro e w' ⟨rfl, rfl⟩)
            go_ret
            exact ⟨rfl, HM.out.bl⟩
end Go.Proofs.YtgdgpniceaknbaaDoor
