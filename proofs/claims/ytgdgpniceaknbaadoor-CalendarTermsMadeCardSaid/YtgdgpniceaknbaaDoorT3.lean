import Derived.Test.YtgdgpniceaknbaaDoorT2
namespace Go.Proofs.YtgdgpniceaknbaaDoor
open Go.RowKit TT

theorem ret_four {a b c d a' b' c' d' : Int} (h1 : a = a') (h2 : b = b') (h3 : c = c') (h4 : d = d') : Ending.returned (.tuple #[.int .i64 a, .int .i64 b, .int .i64 c, .int .i64 d]) = .returned (.tuple #[.int .i64 a', .int .i64 b', .int .i64 c', .int .i64 d']) := by rw [h1, h2, h3, h4]
theorem ret_three {a b c a' b' c' : Int} (h1 : a = a') (h2 : b = b') (h3 : c = c') : Ending.returned (.tuple #[.int .i64 a, .int .i64 b, .int .i64 c]) = .returned (.tuple #[.int .i64 a', .int .i64 b', .int .i64 c']) := by rw [h1, h2, h3]

/-- the date of a day, as it is found: hidden equations -/
theorem parts_fin (n y m : Int) (h : okDay n = true) (y1 : 2000 ≤ y) (y2 : y ≤ 2099) (m1 : 1 ≤ m) (m2 : m ≤ 12) (h3 : 0 ≤ n - dby y - dbm y m) (h4 : n - dby y - dbm y m < ml y m) :
    y = pY n ∧ m = pM n ∧ n - dby y - dbm y m + 1 = pD n ∧ 0 = pE n := by
  obtain ⟨a, b⟩ := okDay_of h
  have hs := dby_succ y y1 y2
  have hb : dbm y m + ml y m ≤ yd y := by
    have e := dbm_succ y m m1 m2
    have e13 := dbm_13 y
    have mono : ∀ k : Nat, k ≤ 12 → ∀ j : Int, j = 13 - k → 1 ≤ j → dbm y j ≤ dbm y 13 := by
      intro k
      induction k with
      | zero => intro _ j hj _; subst hj; simp
      | succ k ih =>
        intro hk j hj h1
        have := ih (by omega) (j + 1) (by omega) (by omega)
        have e2 := dbm_succ y j h1 (by omega)
        have := ml_bd y j
        omega
    have := mono (13 - (m + 1)).toNat (by omega) (m + 1) (by omega) (by omega)
    omega
  have d0 := dbm_bd y m m1 (by omega)
  have hy : yearOf n = y := yearOf_eq n y (by omega) (by omega) (by omega) (by omega) (by omega) (by omega)
  have hm : monthOf n = m := monthOf_eq n y m hy m1 m2 (by omega) (by omega)
  exact ⟨by simp [pY, h, hy], by simp [pM, h, hm], by simp [pD, h, domOf_eq n y m hy hm], by simp [pE, h]⟩

set_option maxHeartbeats 400000 in
theorem parts_no (n : Int) (h : okDay n = false) (w : World) :
    Calls Tryd.prog 10 #[.int .i64 n] w fun e w' => e = .returned (.tuple #[.int .i64 (pY n), .int .i64 (pM n), .int .i64 (pD n), .int .i64 (pE n)]) ∧ w = w' := by
  have q1 := Lib.hid (show 0 = pY n by simp [pY, h])
  have q2 := Lib.hid (show 0 = pM n by simp [pM, h])
  have q3 := Lib.hid (show 0 = pD n by simp [pD, h])
  have q4 := Lib.hid (show 13 = pE n by simp [pE, h])
  go_enter Tryd.func10, Tryd.ntmps10
  go_wp2_with (go_at_call 37; refine (valid_any _ _).mono ?_; rintro e w' ⟨rfl, rfl⟩)
  refine bodyPost_ret (v := .tuple #[.int .i64 0, .int .i64 0, .int .i64 0, .int .i64 13]) (by simp [results, Tryd.results10, go_sem]) rfl ⟨ret_four q1.out q2.out q3.out q4.out, rfl⟩

set_option maxHeartbeats 1000000 in
theorem parts_yes (n : Int) (h : okDay n = true) (w : World) (hl : Lens w) :
    Calls Tryd.prog 10 #[.int .i64 n] w fun e w' => e = .returned (.tuple #[.int .i64 (pY n), .int .i64 (pM n), .int .i64 (pD n), .int .i64 (pE n)]) ∧ w = w' := by
  obtain ⟨n1, n2⟩ := okDay_of h
  go_enter Tryd.func10, Tryd.ntmps10
  go_wp2_with (go_at_call 37; refine (valid_any _ _).mono ?_; rintro e w' ⟨rfl, rfl⟩)
  go_loop [0, 2] (fun r k => ∃ y : Int, 2000 ≤ y ∧ y ≤ 2099 ∧ k = .int .i64 y ∧ 0 ≤ n - dby y ∧ r = .int .i64 (n - dby y)) (fun _ k => (2099 - intOf k).toNat)
  case atStart => exact ⟨2000, by omega, by omega, rfl, by simp [dby_2000]; omega, by simp [dby_2000]⟩
  case round =>
    obtain ⟨y, y1, y2, rfl, hr, rfl⟩ := hrel
    obtain ⟨e1, e2⟩ := yd_pos y
    obtain ⟨b1, b2⟩ := dby_bd y y1 (by omega)
    by_cases hlt : yd y ≤ n - dby y
    · have hs := Lib.hid (dby_succ y y1 y2)
      have hy : y ≤ 2098 := by
        have := hs.out
        by_cases e : y = 2099
        · subst e; simp [dby, yd] at hlt; omega
        · omega
      go_wp2_with (go_at_call 35; refine (days_any _ (by omega) (by omega) _).mono ?_; rintro e w' ⟨rfl, rfl⟩)
      go_round
      case rel => exact ⟨y + 1, by omega, by omega, by go_num, by rw [hs.out]; omega, by rw [hs.out]; go_num⟩
      case measure => simp [intOf]; omega
    · go_wp2_with (go_at_call 35; refine (days_any _ (by omega) (by omega) _).mono ?_; rintro e w' ⟨rfl, rfl⟩)
      go_loop [0, 3] (fun r k => ∃ m : Int, 1 ≤ m ∧ m ≤ 12 ∧ k = .int .i64 m ∧ 0 ≤ n - dby y - dbm y m ∧ r = .int .i64 (n - dby y - dbm y m)) (fun _ k => (12 - intOf k).toNat)
      case atStart => exact ⟨1, by omega, by omega, rfl, by simp [dbm_one]; omega, by simp [dbm_one]⟩
      case round =>
        obtain ⟨m, m1, m2, rfl, hr2, rfl⟩ := hrel
        obtain ⟨f1, f2⟩ := ml_bd y m
        obtain ⟨g1, g2⟩ := dbm_bd y m m1 (by omega)
        by_cases hlt2 : ml y m ≤ n - dby y - dbm y m
        · have hs := Lib.hid (dbm_succ y m m1 m2)
          have hm : m ≤ 11 := by
            have := hs.out
            by_cases e : m = 12
            · subst e; have := dbm_13 y; simp only [Int.reduceAdd] at *; omega
            · omega
          go_wp2_with (go_at_call 34; refine (length_any _ _ (by omega) (by omega) (by omega) (by omega) _ hl).mono ?_; rintro e w' ⟨rfl, rfl⟩)
          go_round
          case rel => exact ⟨m + 1, by omega, by omega, by go_num, by rw [hs.out]; omega, by rw [hs.out]; go_num⟩
          case measure => simp [intOf]; omega
        · have hfin := Lib.hid (parts_fin n y m h y1 y2 m1 m2 hr2 (by omega))
          go_wp2_with (go_at_call 34; refine (length_any _ _ (by omega) (by omega) (by omega) (by omega) _ hl).mono ?_; rintro e w' ⟨rfl, rfl⟩)
          refine bodyPost_ret (v := .tuple #[.int .i64 y, .int .i64 m, .int .i64 (n - dby y - dbm y m + 1), .int .i64 0]) (by simp [results, Tryd.results10, go_sem]) rfl ⟨ret_four hfin.out.1 hfin.out.2.1 hfin.out.2.2.1 hfin.out.2.2.2, rfl⟩

theorem parts_any (n : Int) (w : World) (hl : Lens w) :
    Calls Tryd.prog 10 #[.int .i64 n] w fun e w' => e = .returned (.tuple #[.int .i64 (pY n), .int .i64 (pM n), .int .i64 (pD n), .int .i64 (pE n)]) ∧ w = w' := by
  by_cases h : okDay n = true
  · exact parts_yes n h w hl
  · exact parts_no n (by simpa using h) w

set_option maxHeartbeats 400000 in
theorem rparts_no (n : Int) (h : okDay n = false) (w : World) :
    Calls Tryd.prog 11 #[.int .i64 n] w fun e w' => e = .returned (.tuple #[.int .i64 (pY n), .int .i64 (pM n), .int .i64 (pD n), .int .i64 (pE n)]) ∧ w = w' := by
  have q1 := Lib.hid (show 0 = pY n by simp [pY, h])
  have q2 := Lib.hid (show 0 = pM n by simp [pM, h])
  have q3 := Lib.hid (show 0 = pD n by simp [pD, h])
  have q4 := Lib.hid (show 13 = pE n by simp [pE, h])
  go_enter Tryd.func11, Tryd.ntmps11
  go_wp2_with (go_at_call 38; refine (rvalid_any _ _).mono ?_; rintro e w' ⟨rfl, rfl⟩)
  refine bodyPost_ret (v := .tuple #[.int .i64 0, .int .i64 0, .int .i64 0, .int .i64 13]) (by simp [results, Tryd.results11, go_sem]) rfl ⟨ret_four q1.out q2.out q3.out q4.out, rfl⟩

set_option maxHeartbeats 1000000 in
theorem rparts_yes (n : Int) (h : okDay n = true) (w : World) :
    Calls Tryd.prog 11 #[.int .i64 n] w fun e w' => e = .returned (.tuple #[.int .i64 (pY n), .int .i64 (pM n), .int .i64 (pD n), .int .i64 (pE n)]) ∧ w = w' := by
  obtain ⟨n1, n2⟩ := okDay_of h
  go_enter Tryd.func11, Tryd.ntmps11
  go_wp2_with (go_at_call 38; refine (rvalid_any _ _).mono ?_; rintro e w' ⟨rfl, rfl⟩)
  go_loop [0, 6, 7, 8] (fun r k l _ => ∃ y m : Int, 2000 ≤ y ∧ y ≤ 2099 ∧ k = .int .i64 y ∧ 1 ≤ m ∧ m ≤ 12 ∧ l = .int .i64 m ∧ 0 ≤ n - dby y - dbm y m ∧ r = .int .i64 (n - dby y - dbm y m)) (fun r _ _ _ => (intOf r).toNat)
  case atStart => exact ⟨2000, 1, by omega, by omega, rfl, by omega, by omega, rfl, by simp [dby_2000, dbm_one]; omega, by simp [dby_2000, dbm_one]⟩
  case round =>
    obtain ⟨y, m, y1, y2, rfl, m1, m2, rfl, hr, rfl⟩ := hrel
    obtain ⟨f1, f2⟩ := ml_bd y m
    obtain ⟨g1, g2⟩ := dbm_bd y m m1 (by omega)
    obtain ⟨b1, b2⟩ := dby_bd y y1 (by omega)
    by_cases hlt : ml y m ≤ n - dby y - dbm y m
    · have hs := Lib.hid (dbm_succ y m m1 m2)
      by_cases hm : m = 12
      · have hy := Lib.hid (dby_succ y y1 y2)
        have h13 := Lib.hid (dbm_13 y)
        have H : dbm y 13 = dbm y m + ml y m := by have := hs.out; rw [hm] at this ⊢; simpa using this
        have hH := Lib.hid H
        clear H
        have hy2 : y ≤ 2098 := by
          have := hy.out; have := h13.out; have := hH.out
          by_cases e : y = 2099
          · subst e; simp [dby, yd] at *; omega
          · omega
        have hm' : 12 ≤ m := by omega
        clear hm
        go_wp2_with (go_at_call 36; refine (long_any _ _ (by omega) (by omega) (by omega) (by omega) _).mono ?_; rintro e w' ⟨rfl, rfl⟩)
        go_round
        case rel => exact ⟨y + 1, 1, by omega, by omega, by go_num, by omega, by omega, rfl, by rw [hy.out, dbm_one, ← h13.out, hH.out]; omega, by rw [hy.out, dbm_one, ← h13.out, hH.out]; go_num⟩
        case measure => simp [intOf]; omega
      · go_wp2_with (go_at_call 36; refine (long_any _ _ (by omega) (by omega) (by omega) (by omega) _).mono ?_; rintro e w' ⟨rfl, rfl⟩)
        go_round
        case rel => exact ⟨y, m + 1, by omega, by omega, by go_num, by omega, by omega, by go_num, by rw [hs.out]; omega, by rw [hs.out]; go_num⟩
        case measure => simp [intOf]; omega
    · have hfin := Lib.hid (parts_fin n y m h y1 y2 m1 m2 hr (by omega))
      go_wp2_with (go_at_call 36; refine (long_any _ _ (by omega) (by omega) (by omega) (by omega) _).mono ?_; rintro e w' ⟨rfl, rfl⟩)
      refine bodyPost_ret (v := .tuple #[.int .i64 y, .int .i64 m, .int .i64 (n - dby y - dbm y m + 1), .int .i64 0]) (by simp [results, Tryd.results11, go_sem]) rfl ⟨ret_four hfin.out.1 hfin.out.2.1 hfin.out.2.2.1 hfin.out.2.2.2, rfl⟩

theorem rparts_any (n : Int) (w : World) :
    Calls Tryd.prog 11 #[.int .i64 n] w fun e w' => e = .returned (.tuple #[.int .i64 (pY n), .int .i64 (pM n), .int .i64 (pD n), .int .i64 (pE n)]) ∧ w = w' := by
  by_cases h : okDay n = true
  · exact rparts_yes n h w
  · exact rparts_no n (by simpa using h) w
end Go.Proofs.YtgdgpniceaknbaaDoor
