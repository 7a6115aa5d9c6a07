/- The calendar's functions, of the program and of the reference: dates and days. -/
import Derived.Test.YtibigbfkokendaaGreatDoorProg
import Derived.Test.YtibigbfkokendaaGreatDoorBase
import Derived.Test.YtibigbfkokendaaGreatDoorCalp
namespace Go.Proofs.YtibigbfkokendaaGreatDoor.Cal
open Go.RowKit TT



def lenAt (i : Nat) : Int := [31, 28, 31, 30, 31, 30, 31, 31, 30, 31, 30, 31].getD i 0
def Lens (w : World) : Prop := ∀ i : Nat, i < 12 → w.cell? ⟨0, i, none⟩ = some (.int .i64 (lenAt i))

theorem valid_any (d : Int) (w : World) :
    Calls Tryz.prog 47 #[.int .i64 d] w fun e w' => e = .returned (.bool (okDay d)) ∧ w = w' := by
  go_enter Tryz.func47, Tryz.ntmps47
  go_wp2
  all_goals go_ret
  all_goals exact ⟨ret_bool (by unfold okDay; simp; try omega), rfl⟩

theorem rvalid_any (d : Int) (w : World) :
    Calls Tryz.prog 93 #[.int .i64 d] w fun e w' => e = .returned (.bool (okDay d)) ∧ w = w' := by
  go_enter Tryz.func93, Tryz.ntmps93
  go_wp2
  all_goals go_ret
  all_goals exact ⟨ret_bool (by unfold okDay; simp; try omega), rfl⟩

def lp (y : Int) : Bool := y % 4 == 0 && y != 2100
theorem leap_any (y : Int) (h1 : 1999 ≤ y) (h2 : y ≤ 2101) (w : World) :
    Calls Tryz.prog 66 #[.int .i64 y] w fun e w' => e = .returned (.bool (lp y)) ∧ w = w' := by
  go_enter Tryz.func66, Tryz.ntmps66
  go_wp2
  all_goals go_ret
  all_goals exact ⟨ret_bool (by unfold lp; rw [Bool.eq_iff_iff]; simp [*]; try omega), rfl⟩

theorem days_any (y : Int) (h1 : 1999 ≤ y) (h2 : y ≤ 2101) (w : World) :
    Calls Tryz.prog 48 #[.int .i64 y] w fun e w' => e = .returned (.int .i64 (yd y)) ∧ w = w' := by
  go_enter Tryz.func48, Tryz.ntmps48
  go_wp2_with (go_at_call 66; refine (leap_any _ h1 h2 _).mono ?_; rintro e w' ⟨rfl, rfl⟩)
  all_goals go_ret
  all_goals exact ⟨ret_int (by unfold yd; simp_all [lp]), rfl⟩

theorem length_any (y m : Int) (h1 : 1999 ≤ y) (h2 : y ≤ 2101) (h3 : 1 ≤ m) (h4 : m ≤ 12) (w : World) (hl : Lens w) :
    Calls Tryz.prog 49 #[.int .i64 y, .int .i64 m] w fun e w' => e = .returned (.int .i64 (ml y m)) ∧ w = w' := by
  have c0 := hl 0 (by decide)
  have c1 := hl 1 (by decide)
  have c2 := hl 2 (by decide)
  have c3 := hl 3 (by decide)
  have c4 := hl 4 (by decide)
  have c5 := hl 5 (by decide)
  have c6 := hl 6 (by decide)
  have c7 := hl 7 (by decide)
  have c8 := hl 8 (by decide)
  have c9 := hl 9 (by decide)
  have c10 := hl 10 (by decide)
  have c11 := hl 11 (by decide)
  simp only [lenAt, List.getD_cons_zero, List.getD_cons_succ] at c0 c1 c2 c3 c4 c5 c6 c7 c8 c9 c10 c11
  clear hl
  rcases cases12 m h3 h4 with rfl | rfl | rfl | rfl | rfl | rfl | rfl | rfl | rfl | rfl | rfl | rfl <;> clear h3 h4
  all_goals
    go_enter Tryz.func49, Tryz.ntmps49
    go_wp2_with (go_at_call 66; refine (leap_any _ h1 h2 _).mono ?_; rintro e w' ⟨rfl, rfl⟩)
  all_goals go_ret
  all_goals exact ⟨ret_int (by unfold ml; simp_all [lp]), rfl⟩

theorem long_any (y m : Int) (h1 : 1999 ≤ y) (h2 : y ≤ 2101) (h3 : 1 ≤ m) (h4 : m ≤ 12) (w : World) :
    Calls Tryz.prog 56 #[.int .i64 y, .int .i64 m] w fun e w' => e = .returned (.int .i64 (ml y m)) ∧ w = w' := by
  rcases cases12 m h3 h4 with rfl | rfl | rfl | rfl | rfl | rfl | rfl | rfl | rfl | rfl | rfl | rfl <;> clear h3 h4
  all_goals
    go_enter Tryz.func56, Tryz.ntmps56
    go_wp2
  all_goals go_ret
  all_goals exact ⟨ret_int (by unfold ml; simp_all), rfl⟩



theorem okDate_of {y m d : Int} (h : okDate y m d = true) : 2000 ≤ y ∧ y ≤ 2099 ∧ 1 ≤ m ∧ m ≤ 12 ∧ 1 ≤ d ∧ d ≤ ml y m := by simpa [okDate] using h

set_option maxHeartbeats 400000 in
theorem day_yes (y m d : Int) (h : okDate y m d = true) (w : World) (hl : Lens w) :
    Calls Tryz.prog 55 #[.int .i64 y, .int .i64 m, .int .i64 d] w fun e w' => e = .returned (.tuple #[.int .i64 (dayN y m d), .int .i64 (dayE y m d)]) ∧ w = w' := by
  have hN : Hid (dayN y m d = d - 1 + dby y + dbm y m) := Lib.hid (by simp [dayN, h])
  have hE : Hid (dayE y m d = 0) := Lib.hid (by simp [dayE, h])
  obtain ⟨a1, a2, a3, a4, a5, a6⟩ := okDate_of h
  have a7 := ml_bd y m
  obtain ⟨a8, a9⟩ := a7
  clear h
  go_enter Tryz.func55, Tryz.ntmps55
  go_wp2_with (go_at_call 49; refine (length_any _ _ (by omega) (by omega) a3 a4 _ hl).mono ?_; rintro e w' ⟨rfl, rfl⟩)
  go_loop [8, 9] (fun n i => ∃ k : Int, 2000 ≤ k ∧ k ≤ y ∧ i = .int .i64 k ∧ n = .int .i64 (d - 1 + dby k)) (fun _ i => (y - intOf i).toNat)
  case atStart => exact ⟨2000, by omega, by omega, rfl, by simp [dby_2000]⟩
  case round =>
    obtain ⟨k, hk1, hk2, rfl, rfl⟩ := hrel
    have b1 := dby_bd k hk1 (by omega)
    obtain ⟨b2, b3⟩ := b1
    have b4 := yd_pos k
    obtain ⟨b5, b6⟩ := b4
    by_cases hlt : k < y
    · have hs := Lib.hid (dby_succ k hk1 (by omega))
      go_wp2_with (go_at_call 48; refine (days_any _ (by omega) (by omega) _).mono ?_; rintro e w' ⟨rfl, rfl⟩)
      go_round
      case rel => exact ⟨k + 1, by omega, by omega, by go_num, by rw [hs.out]; go_num⟩
      case measure => simp [intOf]; omega
    · obtain rfl : k = y := by omega
      go_wp2
      go_loop [8, 10] (fun n i => ∃ j : Int, 1 ≤ j ∧ j ≤ m ∧ i = .int .i64 j ∧ n = .int .i64 (d - 1 + dby k + dbm k j)) (fun _ i => (m - intOf i).toNat)
      case atStart => exact ⟨1, by omega, by omega, rfl, by simp [dbm_one]⟩
      case round =>
        obtain ⟨j, hj1, hj2, rfl, rfl⟩ := hrel
        have e1 := dbm_bd k j hj1 (by omega)
        obtain ⟨e2, e3⟩ := e1
        by_cases hlt2 : j < m
        · have hs := Lib.hid (dbm_succ k j hj1 (by omega))
          have e4 := ml_bd k j
          obtain ⟨e5, e6⟩ := e4
          go_wp2_with (go_at_call 49; refine (length_any _ _ (by omega) (by omega) (by omega) (by omega) _ hl).mono ?_; rintro e w' ⟨rfl, rfl⟩)
          go_round
          case rel => exact ⟨j + 1, by omega, by omega, by go_num, by rw [hs.out]; go_num⟩
          case measure => simp [intOf]; omega
        · obtain rfl : j = m := by omega
          go_wp2
          go_ret2
          exact ⟨ret_two hN.out.symm hE.out.symm, rfl⟩

set_option maxHeartbeats 400000 in
theorem day_no (y m d : Int) (h : okDate y m d = false) (w : World) (hl : Lens w) :
    Calls Tryz.prog 55 #[.int .i64 y, .int .i64 m, .int .i64 d] w fun e w' => e = .returned (.tuple #[.int .i64 (dayN y m d), .int .i64 (dayE y m d)]) ∧ w = w' := by
  have hN : Hid (dayN y m d = 0) := Lib.hid (by simp [dayN, h])
  have hE : Hid (dayE y m d = 13) := Lib.hid (by simp [dayE, h])
  have hf : y < 2000 ∨ 2099 < y ∨ m < 1 ∨ 12 < m ∨ d < 1 ∨ ml y m < d := by simp [okDate] at h; omega
  clear h
  by_cases a1 : y < 2000
  · clear hf; go_enter Tryz.func55, Tryz.ntmps55; go_wp2; go_ret2; exact ⟨ret_two hN.out.symm hE.out.symm, rfl⟩
  by_cases a2 : 2099 < y
  · clear hf; go_enter Tryz.func55, Tryz.ntmps55; go_wp2; go_ret2; exact ⟨ret_two hN.out.symm hE.out.symm, rfl⟩
  by_cases a3 : m < 1
  · clear hf; go_enter Tryz.func55, Tryz.ntmps55; go_wp2; go_ret2; exact ⟨ret_two hN.out.symm hE.out.symm, rfl⟩
  by_cases a4 : 12 < m
  · clear hf; go_enter Tryz.func55, Tryz.ntmps55; go_wp2; go_ret2; exact ⟨ret_two hN.out.symm hE.out.symm, rfl⟩
  by_cases a5 : d < 1
  · clear hf; go_enter Tryz.func55, Tryz.ntmps55; go_wp2; go_ret2; exact ⟨ret_two hN.out.symm hE.out.symm, rfl⟩
  have a6 : ml y m < d := by omega
  clear hf
  go_enter Tryz.func55, Tryz.ntmps55
  go_wp2_with (go_at_call 49; refine (length_any _ _ (by omega) (by omega) (by omega) (by omega) _ hl).mono ?_; rintro e w' ⟨rfl, rfl⟩)
  go_ret2; exact ⟨ret_two hN.out.symm hE.out.symm, rfl⟩

theorem day_any (y m d : Int) (w : World) (hl : Lens w) :
    Calls Tryz.prog 55 #[.int .i64 y, .int .i64 m, .int .i64 d] w fun e w' => e = .returned (.tuple #[.int .i64 (dayN y m d), .int .i64 (dayE y m d)]) ∧ w = w' := by
  by_cases h : okDate y m d = true
  · exact day_yes y m d h w hl
  · exact day_no y m d (by simpa using h) w hl

set_option maxHeartbeats 400000 in
theorem rday_yes (y m d : Int) (h : okDate y m d = true) (w : World) :
    Calls Tryz.prog 36 #[.int .i64 y, .int .i64 m, .int .i64 d] w fun e w' => e = .returned (.tuple #[.int .i64 (dayN y m d), .int .i64 (dayE y m d)]) ∧ w = w' := by
  have hN : Hid (dayN y m d = d - 1 + dby y + dbm y m) := Lib.hid (by simp [dayN, h])
  have hE : Hid (dayE y m d = 0) := Lib.hid (by simp [dayE, h])
  obtain ⟨a1, a2, a3, a4, a5, a6⟩ := okDate_of h
  have a7 := ml_bd y m
  obtain ⟨a8, a9⟩ := a7
  clear h
  go_enter Tryz.func36, Tryz.ntmps36
  go_wp2_with (go_at_call 56; refine (long_any _ _ (by omega) (by omega) a3 a4 _).mono ?_; rintro e w' ⟨rfl, rfl⟩)
  go_loop [8, 9] (fun n i => ∃ k : Int, 2000 ≤ k ∧ k ≤ y ∧ i = .int .i64 k ∧ n = .int .i64 (d - 1 + dby k)) (fun _ i => (y - intOf i).toNat)
  case atStart => exact ⟨2000, by omega, by omega, rfl, by simp [dby_2000]⟩
  case round =>
    obtain ⟨k, hk1, hk2, rfl, rfl⟩ := hrel
    have b1 := dby_bd k hk1 (by omega)
    obtain ⟨b2, b3⟩ := b1
    have b4 := ml_bd k 2
    obtain ⟨b5, b6⟩ := b4
    by_cases hlt : k < y
    · have hs := Lib.hid (dby_succ k hk1 (by omega))
      have hy := Lib.hid (yd_ml k)
      go_wp2_with (go_at_call 56; refine (long_any _ _ (by omega) (by omega) (by omega) (by omega) _).mono ?_; rintro e w' ⟨rfl, rfl⟩)
      go_round
      case rel => exact ⟨k + 1, by omega, by omega, by go_num, by rw [hs.out, hy.out]; go_num⟩
      case measure => simp [intOf]; omega
    · obtain rfl : k = y := by omega
      go_wp2
      go_loop [8, 10] (fun n i => ∃ j : Int, 1 ≤ j ∧ j ≤ m ∧ i = .int .i64 j ∧ n = .int .i64 (d - 1 + dby k + dbm k j)) (fun _ i => (m - intOf i).toNat)
      case atStart => exact ⟨1, by omega, by omega, rfl, by simp [dbm_one]⟩
      case round =>
        obtain ⟨j, hj1, hj2, rfl, rfl⟩ := hrel
        have e1 := dbm_bd k j hj1 (by omega)
        obtain ⟨e2, e3⟩ := e1
        by_cases hlt2 : j < m
        · have hs := Lib.hid (dbm_succ k j hj1 (by omega))
          have e4 := ml_bd k j
          obtain ⟨e5, e6⟩ := e4
          go_wp2_with (go_at_call 56; refine (long_any _ _ (by omega) (by omega) (by omega) (by omega) _).mono ?_; rintro e w' ⟨rfl, rfl⟩)
          go_round
          case rel => exact ⟨j + 1, by omega, by omega, by go_num, by rw [hs.out]; go_num⟩
          case measure => simp [intOf]; omega
        · obtain rfl : j = m := by omega
          go_wp2
          go_ret2
          exact ⟨ret_two hN.out.symm hE.out.symm, rfl⟩

set_option maxHeartbeats 400000 in
theorem rday_no (y m d : Int) (h : okDate y m d = false) (w : World) :
    Calls Tryz.prog 36 #[.int .i64 y, .int .i64 m, .int .i64 d] w fun e w' => e = .returned (.tuple #[.int .i64 (dayN y m d), .int .i64 (dayE y m d)]) ∧ w = w' := by
  have hN : Hid (dayN y m d = 0) := Lib.hid (by simp [dayN, h])
  have hE : Hid (dayE y m d = 13) := Lib.hid (by simp [dayE, h])
  have hf : y < 2000 ∨ 2099 < y ∨ m < 1 ∨ 12 < m ∨ d < 1 ∨ ml y m < d := by simp [okDate] at h; omega
  clear h
  by_cases a1 : y < 2000
  · clear hf; go_enter Tryz.func36, Tryz.ntmps36; go_wp2; go_ret2; exact ⟨ret_two hN.out.symm hE.out.symm, rfl⟩
  by_cases a2 : 2099 < y
  · clear hf; go_enter Tryz.func36, Tryz.ntmps36; go_wp2; go_ret2; exact ⟨ret_two hN.out.symm hE.out.symm, rfl⟩
  by_cases a3 : m < 1
  · clear hf; go_enter Tryz.func36, Tryz.ntmps36; go_wp2; go_ret2; exact ⟨ret_two hN.out.symm hE.out.symm, rfl⟩
  by_cases a4 : 12 < m
  · clear hf; go_enter Tryz.func36, Tryz.ntmps36; go_wp2; go_ret2; exact ⟨ret_two hN.out.symm hE.out.symm, rfl⟩
  by_cases a5 : d < 1
  · clear hf; go_enter Tryz.func36, Tryz.ntmps36; go_wp2; go_ret2; exact ⟨ret_two hN.out.symm hE.out.symm, rfl⟩
  have a6 : ml y m < d := by omega
  clear hf
  go_enter Tryz.func36, Tryz.ntmps36
  go_wp2_with (go_at_call 56; refine (long_any _ _ (by omega) (by omega) (by omega) (by omega) _).mono ?_; rintro e w' ⟨rfl, rfl⟩)
  go_ret2; exact ⟨ret_two hN.out.symm hE.out.symm, rfl⟩

theorem rday_any (y m d : Int) (w : World) :
    Calls Tryz.prog 36 #[.int .i64 y, .int .i64 m, .int .i64 d] w fun e w' => e = .returned (.tuple #[.int .i64 (dayN y m d), .int .i64 (dayE y m d)]) ∧ w = w' := by
  by_cases h : okDate y m d = true
  · exact rday_yes y m d h w
  · exact rday_no y m d (by simpa using h) w



theorem ret_four {a b c d a' b' c' d' : Int} (h1 : a = a') (h2 : b = b') (h3 : c = c') (h4 : d = d') : Ending.returned (.tuple #[.int .i64 a, .int .i64 b, .int .i64 c, .int .i64 d]) = .returned (.tuple #[.int .i64 a', .int .i64 b', .int .i64 c', .int .i64 d']) := by rw [h1, h2, h3, h4]
theorem ret_three {a b c a' b' c' : Int} (h1 : a = a') (h2 : b = b') (h3 : c = c') : Ending.returned (.tuple #[.int .i64 a, .int .i64 b, .int .i64 c]) = .returned (.tuple #[.int .i64 a', .int .i64 b', .int .i64 c']) := by rw [h1, h2, h3]

/-- the date of a day, as it is found: hidden equations -/
theorem parts_fin (n y m : Int) (h : okDay n = true) (y1 : 2000 ≤ y) (y2 : y ≤ 2099) (m1 : 1 ≤ m) (m2 : m ≤ 12) (h3 : 0 ≤ n - dby y - dbm y m) (h4 : n - dby y - dbm y m < ml y m) :
    y = pY n ∧ m = pM n ∧ n - dby y - dbm y m + 1 = pD n ∧ 0 = pE n := by
  obtain ⟨a, b⟩ := okDay_of h
  have hs := dby_succ y y1 y2
  have hb : dbm y m + ml y m ≤ yd y := by
    have e := dbm_succ y m m1 m2
    have e13 := dbm_13 y
    have mono : ∀ k : Nat, k ≤ 12 → ∀ j : Int, j = 13 - k → 1 ≤ j → dbm y j ≤ dbm y 13 := by
      intro k
      induction k with
      | zero => intro _ j hj _; subst hj; simp
      | succ k ih =>
        intro hk j hj h1
        have := ih (by omega) (j + 1) (by omega) (by omega)
        have e2 := dbm_succ y j h1 (by omega)
        have := ml_bd y j
        omega
    have := mono (13 - (m + 1)).toNat (by omega) (m + 1) (by omega) (by omega)
    omega
  have d0 := dbm_bd y m m1 (by omega)
  have hy : yearOf n = y := yearOf_eq n y (by omega) (by omega) (by omega) (by omega) (by omega) (by omega)
  have hm : monthOf n = m := monthOf_eq n y m hy m1 m2 (by omega) (by omega)
  exact ⟨by simp [pY, h, hy], by simp [pM, h, hm], by simp [pD, h, domOf_eq n y m hy hm], by simp [pE, h]⟩

set_option maxHeartbeats 400000 in
theorem parts_no (n : Int) (h : okDay n = false) (w : World) :
    Calls Tryz.prog 24 #[.int .i64 n] w fun e w' => e = .returned (.tuple #[.int .i64 (pY n), .int .i64 (pM n), .int .i64 (pD n), .int .i64 (pE n)]) ∧ w = w' := by
  have q1 := Lib.hid (show 0 = pY n by simp [pY, h])
  have q2 := Lib.hid (show 0 = pM n by simp [pM, h])
  have q3 := Lib.hid (show 0 = pD n by simp [pD, h])
  have q4 := Lib.hid (show 13 = pE n by simp [pE, h])
  go_enter Tryz.func24, Tryz.ntmps24
  go_wp2_with (go_at_call 47; refine (valid_any _ _).mono ?_; rintro e w' ⟨rfl, rfl⟩)
  refine bodyPost_ret (v := .tuple #[.int .i64 0, .int .i64 0, .int .i64 0, .int .i64 13]) (by simp [results, Tryz.results24, go_sem]) rfl ⟨ret_four q1.out q2.out q3.out q4.out, rfl⟩

set_option maxHeartbeats 1000000 in
theorem parts_yes (n : Int) (h : okDay n = true) (w : World) (hl : Lens w) :
    Calls Tryz.prog 24 #[.int .i64 n] w fun e w' => e = .returned (.tuple #[.int .i64 (pY n), .int .i64 (pM n), .int .i64 (pD n), .int .i64 (pE n)]) ∧ w = w' := by
  obtain ⟨n1, n2⟩ := okDay_of h
  go_enter Tryz.func24, Tryz.ntmps24
  go_wp2_with (go_at_call 47; refine (valid_any _ _).mono ?_; rintro e w' ⟨rfl, rfl⟩)
  go_loop [0, 2] (fun r k => ∃ y : Int, 2000 ≤ y ∧ y ≤ 2099 ∧ k = .int .i64 y ∧ 0 ≤ n - dby y ∧ r = .int .i64 (n - dby y)) (fun _ k => (2099 - intOf k).toNat)
  case atStart => exact ⟨2000, by omega, by omega, rfl, by simp [dby_2000]; omega, by simp [dby_2000]⟩
  case round =>
    obtain ⟨y, y1, y2, rfl, hr, rfl⟩ := hrel
    obtain ⟨e1, e2⟩ := yd_pos y
    obtain ⟨b1, b2⟩ := dby_bd y y1 (by omega)
    by_cases hlt : yd y ≤ n - dby y
    · have hs := Lib.hid (dby_succ y y1 y2)
      have hy : y ≤ 2098 := by
        have := hs.out
        by_cases e : y = 2099
        · subst e; simp [dby, yd] at hlt; omega
        · omega
      go_wp2_with (go_at_call 48; refine (days_any _ (by omega) (by omega) _).mono ?_; rintro e w' ⟨rfl, rfl⟩)
      go_round
      case rel => exact ⟨y + 1, by omega, by omega, by go_num, by rw [hs.out]; omega, by rw [hs.out]; go_num⟩
      case measure => simp [intOf]; omega
    · go_wp2_with (go_at_call 48; refine (days_any _ (by omega) (by omega) _).mono ?_; rintro e w' ⟨rfl, rfl⟩)
      go_loop [0, 3] (fun r k => ∃ m : Int, 1 ≤ m ∧ m ≤ 12 ∧ k = .int .i64 m ∧ 0 ≤ n - dby y - dbm y m ∧ r = .int .i64 (n - dby y - dbm y m)) (fun _ k => (12 - intOf k).toNat)
      case atStart => exact ⟨1, by omega, by omega, rfl, by simp [dbm_one]; omega, by simp [dbm_one]⟩
      case round =>
        obtain ⟨m, m1, m2, rfl, hr2, rfl⟩ := hrel
        obtain ⟨f1, f2⟩ := ml_bd y m
        obtain ⟨g1, g2⟩ := dbm_bd y m m1 (by omega)
        by_cases hlt2 : ml y m ≤ n - dby y - dbm y m
        · have hs := Lib.hid (dbm_succ y m m1 m2)
          have hm : m ≤ 11 := by
            have := hs.out
            by_cases e : m = 12
            · subst e; have := dbm_13 y; simp only [Int.reduceAdd] at *; omega
            · omega
          go_wp2_with (go_at_call 49; refine (length_any _ _ (by omega) (by omega) (by omega) (by omega) _ hl).mono ?_; rintro e w' ⟨rfl, rfl⟩)
          go_round
          case rel => exact ⟨m + 1, by omega, by omega, by go_num, by rw [hs.out]; omega, by rw [hs.out]; go_num⟩
          case measure => simp [intOf]; omega
        · have hfin := Lib.hid (parts_fin n y m h y1 y2 m1 m2 hr2 (by omega))
          go_wp2_with (go_at_call 49; refine (length_any _ _ (by omega) (by omega) (by omega) (by omega) _ hl).mono ?_; rintro e w' ⟨rfl, rfl⟩)
          refine bodyPost_ret (v := .tuple #[.int .i64 y, .int .i64 m, .int .i64 (n - dby y - dbm y m + 1), .int .i64 0]) (by simp [results, Tryz.results24, go_sem]) rfl ⟨ret_four hfin.out.1 hfin.out.2.1 hfin.out.2.2.1 hfin.out.2.2.2, rfl⟩

theorem parts_any (n : Int) (w : World) (hl : Lens w) :
    Calls Tryz.prog 24 #[.int .i64 n] w fun e w' => e = .returned (.tuple #[.int .i64 (pY n), .int .i64 (pM n), .int .i64 (pD n), .int .i64 (pE n)]) ∧ w = w' := by
  by_cases h : okDay n = true
  · exact parts_yes n h w hl
  · exact parts_no n (by simpa using h) w

set_option maxHeartbeats 400000 in
theorem rparts_no (n : Int) (h : okDay n = false) (w : World) :
    Calls Tryz.prog 72 #[.int .i64 n] w fun e w' => e = .returned (.tuple #[.int .i64 (pY n), .int .i64 (pM n), .int .i64 (pD n), .int .i64 (pE n)]) ∧ w = w' := by
  have q1 := Lib.hid (show 0 = pY n by simp [pY, h])
  have q2 := Lib.hid (show 0 = pM n by simp [pM, h])
  have q3 := Lib.hid (show 0 = pD n by simp [pD, h])
  have q4 := Lib.hid (show 13 = pE n by simp [pE, h])
  go_enter Tryz.func72, Tryz.ntmps72
  go_wp2_with (go_at_call 93; refine (rvalid_any _ _).mono ?_; rintro e w' ⟨rfl, rfl⟩)
  refine bodyPost_ret (v := .tuple #[.int .i64 0, .int .i64 0, .int .i64 0, .int .i64 13]) (by simp [results, Tryz.results72, go_sem]) rfl ⟨ret_four q1.out q2.out q3.out q4.out, rfl⟩

set_option maxHeartbeats 1000000 in
theorem rparts_yes (n : Int) (h : okDay n = true) (w : World) :
    Calls Tryz.prog 72 #[.int .i64 n] w fun e w' => e = .returned (.tuple #[.int .i64 (pY n), .int .i64 (pM n), .int .i64 (pD n), .int .i64 (pE n)]) ∧ w = w' := by
  obtain ⟨n1, n2⟩ := okDay_of h
  go_enter Tryz.func72, Tryz.ntmps72
  go_wp2_with (go_at_call 93; refine (rvalid_any _ _).mono ?_; rintro e w' ⟨rfl, rfl⟩)
  go_loop [0, 6, 7, 8] (fun r k l _ => ∃ y m : Int, 2000 ≤ y ∧ y ≤ 2099 ∧ k = .int .i64 y ∧ 1 ≤ m ∧ m ≤ 12 ∧ l = .int .i64 m ∧ 0 ≤ n - dby y - dbm y m ∧ r = .int .i64 (n - dby y - dbm y m)) (fun r _ _ _ => (intOf r).toNat)
  case atStart => exact ⟨2000, 1, by omega, by omega, rfl, by omega, by omega, rfl, by simp [dby_2000, dbm_one]; omega, by simp [dby_2000, dbm_one]⟩
  case round =>
    obtain ⟨y, m, y1, y2, rfl, m1, m2, rfl, hr, rfl⟩ := hrel
    obtain ⟨f1, f2⟩ := ml_bd y m
    obtain ⟨g1, g2⟩ := dbm_bd y m m1 (by omega)
    obtain ⟨b1, b2⟩ := dby_bd y y1 (by omega)
    by_cases hlt : ml y m ≤ n - dby y - dbm y m
    · have hs := Lib.hid (dbm_succ y m m1 m2)
      by_cases hm : m = 12
      · have hy := Lib.hid (dby_succ y y1 y2)
        have h13 := Lib.hid (dbm_13 y)
        have H : dbm y 13 = dbm y m + ml y m := by have := hs.out; rw [hm] at this ⊢; simpa using this
        have hH := Lib.hid H
        clear H
        have hy2 : y ≤ 2098 := by
          have := hy.out; have := h13.out; have := hH.out
          by_cases e : y = 2099
          · subst e; simp [dby, yd] at *; omega
          · omega
        have hm' : 12 ≤ m := by omega
        clear hm
        go_wp2_with (go_at_call 56; refine (long_any _ _ (by omega) (by omega) (by omega) (by omega) _).mono ?_; rintro e w' ⟨rfl, rfl⟩)
        go_round
        case rel => exact ⟨y + 1, 1, by omega, by omega, by go_num, by omega, by omega, rfl, by rw [hy.out, dbm_one, ← h13.out, hH.out]; omega, by rw [hy.out, dbm_one, ← h13.out, hH.out]; go_num⟩
        case measure => simp [intOf]; omega
      · go_wp2_with (go_at_call 56; refine (long_any _ _ (by omega) (by omega) (by omega) (by omega) _).mono ?_; rintro e w' ⟨rfl, rfl⟩)
        go_round
        case rel => exact ⟨y, m + 1, by omega, by omega, by go_num, by omega, by omega, by go_num, by rw [hs.out]; omega, by rw [hs.out]; go_num⟩
        case measure => simp [intOf]; omega
    · have hfin := Lib.hid (parts_fin n y m h y1 y2 m1 m2 hr (by omega))
      go_wp2_with (go_at_call 56; refine (long_any _ _ (by omega) (by omega) (by omega) (by omega) _).mono ?_; rintro e w' ⟨rfl, rfl⟩)
      refine bodyPost_ret (v := .tuple #[.int .i64 y, .int .i64 m, .int .i64 (n - dby y - dbm y m + 1), .int .i64 0]) (by simp [results, Tryz.results72, go_sem]) rfl ⟨ret_four hfin.out.1 hfin.out.2.1 hfin.out.2.2.1 hfin.out.2.2.2, rfl⟩

theorem rparts_any (n : Int) (w : World) :
    Calls Tryz.prog 72 #[.int .i64 n] w fun e w' => e = .returned (.tuple #[.int .i64 (pY n), .int .i64 (pM n), .int .i64 (pD n), .int .i64 (pE n)]) ∧ w = w' := by
  by_cases h : okDay n = true
  · exact rparts_yes n h w
  · exact rparts_no n (by simpa using h) w

end Go.Proofs.YtibigbfkokendaaGreatDoor.Cal
