import Derived.Test.YtgdgpniceaknbaaDoorT3
namespace Go.Proofs.YtgdgpniceaknbaaDoor
open Go.RowKit TT

theorem dby_succ' (y : Int) (h0 : 1999 ≤ y) (h : y ≤ 2099) : dby (y + 1) = dby y + yd y := by
  by_cases e : y = 1999
  · subst e; decide
  · exact dby_succ y (by omega) h
theorem dby_bd' (y : Int) (h0 : 1999 ≤ y) (h : y ≤ 2100) : -365 ≤ dby y ∧ dby y ≤ 36525 := by unfold dby; omega
theorem thu_bd (n : Int) (h1 : 0 ≤ n) (h2 : n ≤ 36524) : -3 ≤ thu n ∧ thu n ≤ 36527 := by unfold thu; omega

theorem week_fin (n y : Int) (h : okDay n = true) (y1 : 1999 ≤ y) (y2 : y ≤ 2100) (h0 : 0 ≤ thu n - dby y) (h1 : thu n - dby y < yd y) :
    y = wY n ∧ (thu n - dby y) / 7 + 1 = wW n ∧ 0 = pE n := by
  obtain ⟨a, b⟩ := okDay_of h
  obtain ⟨c, d⟩ := thu_bd n a b
  have hy : yearOf (thu n) = y := by
    refine yearOf_eq _ y y1 y2 (by omega) ?_ (by omega) (by omega)
    by_cases e : y = 2100
    · subst e; simp [dby]; omega
    · rw [dby_succ' y y1 (by omega)]; omega
  exact ⟨by simp [wY, h, wyear, hy], by simp [wW, h, weekOf, wyear, hy], by simp [pE, h]⟩

set_option maxHeartbeats 400000 in
theorem week_no (n : Int) (h : okDay n = false) (w : World) :
    Calls Tryd.prog 12 #[.int .i64 n] w fun e w' => e = .returned (.tuple #[.int .i64 (wY n), .int .i64 (wW n), .int .i64 (pE n)]) ∧ w = w' := by
  have q1 := Lib.hid (show 0 = wY n by simp [wY, h])
  have q2 := Lib.hid (show 0 = wW n by simp [wW, h])
  have q4 := Lib.hid (show 13 = pE n by simp [pE, h])
  go_enter Tryd.func12, Tryd.ntmps12
  go_wp2_with (go_at_call 37; refine (valid_any _ _).mono ?_; rintro e w' ⟨rfl, rfl⟩)
  go_ret3
  exact ⟨ret_three q1.out q2.out q4.out, rfl⟩

set_option maxHeartbeats 1000000 in
theorem week_yes (n : Int) (h : okDay n = true) (w : World) :
    Calls Tryd.prog 12 #[.int .i64 n] w fun e w' => e = .returned (.tuple #[.int .i64 (wY n), .int .i64 (wW n), .int .i64 (pE n)]) ∧ w = w' := by
  obtain ⟨n1, n2⟩ := okDay_of h
  obtain ⟨t1, t2⟩ := thu_bd n n1 n2
  have hwd : Hid (wday n = (n + 5) % 7) := Lib.hid (by simp [wday, h])
  have b0 : 0 ≤ wday n ∧ wday n ≤ 6 := by rw [hwd.out]; omega
  obtain ⟨b1, b2⟩ := b0
  have ht : Hid (thu n = n - wday n + 3) := Lib.hid (by rw [hwd.out]; rfl)
  go_enter Tryd.func12, Tryd.ntmps12
  go_wp2_with (first | (go_at_call 37; refine (valid_any _ _).mono ?_; rintro e w' ⟨rfl, rfl⟩) | (go_at_call 15; refine (wday_any _ _).mono ?_; rintro e w' ⟨rfl, rfl⟩))
  go_loop [2, 5] (fun k r => ∃ y : Int, 1999 ≤ y ∧ y ≤ 2000 ∧ k = .int .i64 y ∧ r = .int .i64 (thu n - dby y)) (fun k _ => (intOf k - 1999).toNat)
  case atStart => exact ⟨2000, by omega, by omega, rfl, by rw [dby_2000, ht.out]; simp⟩
  case round =>
    obtain ⟨y, y1, y2, rfl, rfl⟩ := hrel
    obtain ⟨d1, d2⟩ := dby_bd' y y1 (by omega)
    by_cases hlt : thu n - dby y < 0
    · have hy : 2000 ≤ y := by
        by_cases e : y = 1999
        · subst e; simp [dby] at hlt; omega
        · omega
      have hs := Lib.hid (dby_succ' (y - 1) (by omega) (by omega))
      obtain ⟨e1, e2⟩ := yd_pos (y - 1)
      go_wp2_with (go_at_call 35; refine (days_any _ (by omega) (by omega) _).mono ?_; rintro e w' ⟨rfl, rfl⟩)
      go_round
      case rel => exact ⟨y - 1, by omega, by omega, by go_num, by have := hs.out; rw [Int.sub_add_cancel] at this; rw [this]; go_num⟩
      case measure => simp [intOf]; omega
    · go_wp2
      go_loop [2, 5] (fun k r => ∃ y : Int, 1999 ≤ y ∧ y ≤ 2100 ∧ k = .int .i64 y ∧ 0 ≤ thu n - dby y ∧ r = .int .i64 (thu n - dby y)) (fun k _ => (2100 - intOf k).toNat)
      case atStart => exact ⟨y, by omega, by omega, rfl, by omega, rfl⟩
      case round =>
        clear hlt d1 d2
        obtain ⟨z, z1, z2, rfl, hr, rfl⟩ := hrel
        obtain ⟨d1, d2⟩ := dby_bd' z z1 z2
        obtain ⟨e1, e2⟩ := yd_pos z
        by_cases hlt : yd z ≤ thu n - dby z
        · have hz : z ≤ 2099 := by
            by_cases e : z = 2100
            · subst e; simp [dby, yd] at hlt; omega
            · omega
          have hs := Lib.hid (dby_succ' z z1 hz)
          go_wp2_with (go_at_call 35; refine (days_any _ (by omega) (by omega) _).mono ?_; rintro e w' ⟨rfl, rfl⟩)
          go_round
          case rel => exact ⟨z + 1, by omega, by omega, by go_num, by rw [hs.out]; omega, by rw [hs.out]; go_num⟩
          case measure => simp [intOf]; omega
        · have hfin := Lib.hid (week_fin n z h z1 z2 hr (by omega))
          go_wp2_with (go_at_call 35; refine (days_any _ (by omega) (by omega) _).mono ?_; rintro e w' ⟨rfl, rfl⟩)
          go_ret3
          exact ⟨ret_three hfin.out.1 hfin.out.2.1 hfin.out.2.2, rfl⟩

theorem week_any (n : Int) (w : World) :
    Calls Tryd.prog 12 #[.int .i64 n] w fun e w' => e = .returned (.tuple #[.int .i64 (wY n), .int .i64 (wW n), .int .i64 (pE n)]) ∧ w = w' := by
  by_cases h : okDay n = true
  · exact week_yes n h w
  · exact week_no n (by simpa using h) w

set_option maxHeartbeats 400000 in
theorem first_any (y : Int) (y1 : 1999 ≤ y) (y2 : y ≤ 2100) (w : World) :
    Calls Tryd.prog 39 #[.int .i64 y] w fun e w' => e = .returned (.int .i64 (fst y)) ∧ w = w' := by
  obtain ⟨c1, c2⟩ := dby_bd' y y1 y2
  by_cases hy : y = 1999
  · subst hy
    go_enter Tryd.func39, Tryd.ntmps39
    go_wp2
    go_loop [3, 4] (fun n i => n = .int .i64 3 ∧ i = .int .i64 2000) (fun _ _ => 0)
    case atStart => exact ⟨rfl, rfl⟩
    case round =>
      obtain ⟨rfl, rfl⟩ := hrel
      go_wp2
      go_ret
      exact ⟨ret_int (by decide), rfl⟩
  · have hb : (y == 1999) = false := by simpa using hy
    have hf : Hid (fst y = dby y + 3 - (dby y + 3 + 5 + 420) % 7) := Lib.hid (by unfold fst; omega)
    go_enter Tryd.func39, Tryd.ntmps39
    go_wp2
    go_loop [3, 4] (fun n i => ∃ k : Int, 2000 ≤ k ∧ k ≤ y ∧ i = .int .i64 k ∧ n = .int .i64 (dby k + 3)) (fun _ i => (y - intOf i).toNat)
    case atStart => exact ⟨2000, by omega, by omega, rfl, by simp [dby_2000]⟩
    case round =>
      obtain ⟨k, k1, k2, rfl, rfl⟩ := hrel
      obtain ⟨b2, b3⟩ := dby_bd k k1 (by omega)
      obtain ⟨b5, b6⟩ := ml_bd k 2
      by_cases hlt : k < y
      · have hs := Lib.hid (dby_succ k k1 (by omega))
        have hy := Lib.hid (yd_ml k)
        go_wp2_with (go_at_call 36; refine (long_any _ _ (by omega) (by omega) (by omega) (by omega) _).mono ?_; rintro e w' ⟨rfl, rfl⟩)
        go_round
        case rel => exact ⟨k + 1, by omega, by omega, by go_num, by rw [hs.out, hy.out]; go_num⟩
        case measure => simp [intOf]; omega
      · obtain rfl : k = y := by omega
        go_wp2
        go_ret
        exact ⟨ret_int (by rw [hf.out]), rfl⟩

set_option maxHeartbeats 400000 in
theorem rweek_no (n : Int) (h : okDay n = false) (w : World) :
    Calls Tryd.prog 13 #[.int .i64 n] w fun e w' => e = .returned (.tuple #[.int .i64 (wY n), .int .i64 (wW n), .int .i64 (pE n)]) ∧ w = w' := by
  have q1 := Lib.hid (show 0 = wY n by simp [wY, h])
  have q2 := Lib.hid (show 0 = wW n by simp [wW, h])
  have q4 := Lib.hid (show 13 = pE n by simp [pE, h])
  go_enter Tryd.func13, Tryd.ntmps13
  go_wp2_with (go_at_call 38; refine (rvalid_any _ _).mono ?_; rintro e w' ⟨rfl, rfl⟩)
  go_ret3
  exact ⟨ret_three q1.out q2.out q4.out, rfl⟩

theorem rweek_fin (n r : Int) (h : okDay n = true) (hr : r = if n < fst (yearOf n) then yearOf n - 1 else if fst (yearOf n + 1) ≤ n then yearOf n + 1 else yearOf n) :
    (r = wY n ∧ (n - fst r) / 7 + 1 = wW n ∧ 0 = pE n) ∧ fst r ≤ n ∧ 1999 ≤ r ∧ r ≤ 2100 := by
  obtain ⟨a, b⟩ := okDay_of h
  obtain ⟨c, d, e, f, g⟩ := week_eq n (yearOf n) r a b rfl hr
  exact ⟨⟨by simp [wY, h, c], by simp [wW, h, d], by simp [pE, h]⟩, e, f, g⟩
theorem fst_bd (y : Int) (h0 : 1999 ≤ y) (h : y ≤ 2100) : -370 ≤ fst y ∧ fst y ≤ 36530 := by unfold fst dby; omega

set_option maxHeartbeats 1000000 in
theorem rweek_yes (n : Int) (h : okDay n = true) (w : World) :
    Calls Tryd.prog 13 #[.int .i64 n] w fun e w' => e = .returned (.tuple #[.int .i64 (wY n), .int .i64 (wW n), .int .i64 (pE n)]) ∧ w = w' := by
  obtain ⟨n1, n2⟩ := okDay_of h
  have hp : pY n = yearOf n := by simp [pY, h]
  have hY := yearOf_spec n n1 n2
  obtain ⟨y1, y2, _, _⟩ := hY
  have hfin := rweek_fin n _ h rfl
  rw [← hp] at hfin y1 y2
  obtain ⟨f1, f2⟩ := fst_bd (pY n) (by omega) (by omega)
  obtain ⟨f3, f4⟩ := fst_bd (pY n + 1) (by omega) (by omega)
  clear hp
  by_cases c1 : n < fst (pY n)
  · rw [if_pos c1] at hfin
    obtain ⟨hf, g1, g2, g3⟩ := hfin
    obtain ⟨f5, f6⟩ := fst_bd (pY n - 1) (by omega) (by omega)
    have H := Lib.hid hf; clear hf
    go_enter Tryd.func13, Tryd.ntmps13
    go_wp2_with (first | (go_at_call 38; refine (rvalid_any _ _).mono ?_; rintro e w' ⟨rfl, rfl⟩) | (go_at_call 11; refine (rparts_any _ _).mono ?_; rintro e w' ⟨rfl, rfl⟩) | (go_at_call 39; refine (first_any _ (by omega) (by omega) _).mono ?_; rintro e w' ⟨rfl, rfl⟩))
    go_ret3
    exact ⟨ret_three H.out.1 H.out.2.1 H.out.2.2, rfl⟩
  · rw [if_neg c1] at hfin
    by_cases c2 : fst (pY n + 1) ≤ n
    · rw [if_pos c2] at hfin
      obtain ⟨hf, g1, g2, g3⟩ := hfin
      have H := Lib.hid hf; clear hf
      go_enter Tryd.func13, Tryd.ntmps13
      go_wp2_with (first | (go_at_call 38; refine (rvalid_any _ _).mono ?_; rintro e w' ⟨rfl, rfl⟩) | (go_at_call 11; refine (rparts_any _ _).mono ?_; rintro e w' ⟨rfl, rfl⟩) | (go_at_call 39; refine (first_any _ (by omega) (by omega) _).mono ?_; rintro e w' ⟨rfl, rfl⟩))
      go_ret3
      exact ⟨ret_three H.out.1 H.out.2.1 H.out.2.2, rfl⟩
    · rw [if_neg c2] at hfin
      obtain ⟨hf, g1, g2, g3⟩ := hfin
      have H := Lib.hid hf; clear hf
      go_enter Tryd.func13, Tryd.ntmps13
      go_wp2_with (first | (go_at_call 38; refine (rvalid_any _ _).mono ?_; rintro e w' ⟨rfl, rfl⟩) | (go_at_call 11; refine (rparts_any _ _).mono ?_; rintro e w' ⟨rfl, rfl⟩) | (go_at_call 39; refine (first_any _ (by omega) (by omega) _).mono ?_; rintro e w' ⟨rfl, rfl⟩))
      go_ret3
      exact ⟨ret_three H.out.1 H.out.2.1 H.out.2.2, rfl⟩

theorem rweek_any (n : Int) (w : World) :
    Calls Tryd.prog 13 #[.int .i64 n] w fun e w' => e = .returned (.tuple #[.int .i64 (wY n), .int .i64 (wW n), .int .i64 (pE n)]) ∧ w = w' := by
  by_cases h : okDay n = true
  · exact rweek_yes n h w
  · exact rweek_no n (by simpa using h) w

theorem awake_any (w : World) (hl : Lens w) :
    Calls Tryd.prog 14 #[] w fun e w' => e = .returned (.bool true) ∧ w = w' := by
  have e1 : Hid (dayN 2024 12 31 = 9131) := Lib.hid (by decide)
  have e2 : Hid (dayE 2024 12 31 = 0) := Lib.hid (by decide)
  have e3 : Hid (wY 9131 = 2025) := Lib.hid (by decide)
  have e4 : Hid (wW 9131 = 1) := Lib.hid (by decide)
  have e5 : Hid (pE 9131 = 0) := Lib.hid (by decide)
  have e6 : Hid (wday 0 = 5) := Lib.hid (by decide)
  go_enter Tryd.func14, Tryd.ntmps14
  go_wp2_with (first | (go_at_call 8; refine (day_any _ _ _ _ hl).mono ?_; rw [e1.out, e2.out]; rintro e w' ⟨rfl, rfl⟩) | (go_at_call 12; refine (week_any _ _).mono ?_; rw [e3.out, e4.out, e5.out]; rintro e w' ⟨rfl, rfl⟩) | (go_at_call 15; refine (wday_any _ _).mono ?_; rw [e6.out]; rintro e w' ⟨rfl, rfl⟩))
  go_ret
  exact ⟨rfl, rfl⟩
end Go.Proofs.YtgdgpniceaknbaaDoor
