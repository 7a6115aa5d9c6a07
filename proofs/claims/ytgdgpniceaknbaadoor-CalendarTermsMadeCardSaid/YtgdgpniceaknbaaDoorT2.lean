import Derived.Test.YtgdgpniceaknbaaDoorT1
namespace Go.Proofs.YtgdgpniceaknbaaDoor
open Go.RowKit TT

theorem ret_two {a b c d : Int} (h : a = b) (h' : c = d) : Ending.returned (.tuple #[.int .i64 a, .int .i64 c]) = .returned (.tuple #[.int .i64 b, .int .i64 d]) := by rw [h, h']

theorem okDate_of {y m d : Int} (h : okDate y m d = true) : 2000 ≤ y ∧ y ≤ 2099 ∧ 1 ≤ m ∧ m ≤ 12 ∧ 1 ≤ d ∧ d ≤ ml y m := by simpa [okDate] using h

set_option maxHeartbeats 400000 in
theorem day_yes (y m d : Int) (h : okDate y m d = true) (w : World) (hl : Lens w) :
    Calls Tryd.prog 8 #[.int .i64 y, .int .i64 m, .int .i64 d] w fun e w' => e = .returned (.tuple #[.int .i64 (dayN y m d), .int .i64 (dayE y m d)]) ∧ w = w' := by
  have hN : Hid (dayN y m d = d - 1 + dby y + dbm y m) := Lib.hid (by simp [dayN, h])
  have hE : Hid (dayE y m d = 0) := Lib.hid (by simp [dayE, h])
  obtain ⟨a1, a2, a3, a4, a5, a6⟩ := okDate_of h
  have a7 := ml_bd y m
  obtain ⟨a8, a9⟩ := a7
  clear h
  go_enter Tryd.func8, Tryd.ntmps8
  go_wp2_with (go_at_call 34; refine (length_any _ _ (by omega) (by omega) a3 a4 _ hl).mono ?_; rintro e w' ⟨rfl, rfl⟩)
  go_loop [8, 9] (fun n i => ∃ k : Int, 2000 ≤ k ∧ k ≤ y ∧ i = .int .i64 k ∧ n = .int .i64 (d - 1 + dby k)) (fun _ i => (y - intOf i).toNat)
  case atStart => exact ⟨2000, by omega, by omega, rfl, by simp [dby_2000]⟩
  case round =>
    obtain ⟨k, hk1, hk2, rfl, rfl⟩ := hrel
    have b1 := dby_bd k hk1 (by omega)
    obtain ⟨b2, b3⟩ := b1
    have b4 := yd_pos k
    obtain ⟨b5, b6⟩ := b4
    by_cases hlt : k < y
    · have hs := Lib.hid (dby_succ k hk1 (by omega))
      go_wp2_with (go_at_call 35; refine (days_any _ (by omega) (by omega) _).mono ?_; rintro e w' ⟨rfl, rfl⟩)
      go_round
      case rel => exact ⟨k + 1, by omega, by omega, by go_num, by rw [hs.out]; go_num⟩
      case measure => simp [intOf]; omega
    · obtain rfl : k = y := by omega
      go_wp2
      go_loop [8, 10] (fun n i => ∃ j : Int, 1 ≤ j ∧ j ≤ m ∧ i = .int .i64 j ∧ n = .int .i64 (d - 1 + dby k + dbm k j)) (fun _ i => (m - intOf i).toNat)
      case atStart => exact ⟨1, by omega, by omega, rfl, by simp [dbm_one]⟩
      case round =>
        obtain ⟨j, hj1, hj2, rfl, rfl⟩ := hrel
        have e1 := dbm_bd k j hj1 (by omega)
        obtain ⟨e2, e3⟩ := e1
        by_cases hlt2 : j < m
        · have hs := Lib.hid (dbm_succ k j hj1 (by omega))
          have e4 := ml_bd k j
          obtain ⟨e5, e6⟩ := e4
          go_wp2_with (go_at_call 34; refine (length_any _ _ (by omega) (by omega) (by omega) (by omega) _ hl).mono ?_; rintro e w' ⟨rfl, rfl⟩)
          go_round
          case rel => exact ⟨j + 1, by omega, by omega, by go_num, by rw [hs.out]; go_num⟩
          case measure => simp [intOf]; omega
        · obtain rfl : j = m := by omega
          go_wp2
          go_ret2
          exact ⟨ret_two hN.out.symm hE.out.symm, rfl⟩

set_option maxHeartbeats 400000 in
theorem day_no (y m d : Int) (h : okDate y m d = false) (w : World) (hl : Lens w) :
    Calls Tryd.prog 8 #[.int .i64 y, .int .i64 m, .int .i64 d] w fun e w' => e = .returned (.tuple #[.int .i64 (dayN y m d), .int .i64 (dayE y m d)]) ∧ w = w' := by
  have hN : Hid (dayN y m d = 0) := Lib.hid (by simp [dayN, h])
  have hE : Hid (dayE y m d = 13) := Lib.hid (by simp [dayE, h])
  have hf : y < 2000 ∨ 2099 < y ∨ m < 1 ∨ 12 < m ∨ d < 1 ∨ ml y m < d := by simp [okDate] at h; omega
  clear h
  by_cases a1 : y < 2000
  · clear hf; go_enter Tryd.func8, Tryd.ntmps8; go_wp2; go_ret2; exact ⟨ret_two hN.out.symm hE.out.symm, rfl⟩
  by_cases a2 : 2099 < y
  · clear hf; go_enter Tryd.func8, Tryd.ntmps8; go_wp2; go_ret2; exact ⟨ret_two hN.out.symm hE.out.symm, rfl⟩
  by_cases a3 : m < 1
  · clear hf; go_enter Tryd.func8, Tryd.ntmps8; go_wp2; go_ret2; exact ⟨ret_two hN.out.symm hE.out.symm, rfl⟩
  by_cases a4 : 12 < m
  · clear hf; go_enter Tryd.func8, Tryd.ntmps8; go_wp2; go_ret2; exact ⟨ret_two hN.out.symm hE.out.symm, rfl⟩
  by_cases a5 : d < 1
  · clear hf; go_enter Tryd.func8, Tryd.ntmps8; go_wp2; go_ret2; exact ⟨ret_two hN.out.symm hE.out.symm, rfl⟩
  have a6 : ml y m < d := by omega
  clear hf
  go_enter Tryd.func8, Tryd.ntmps8
  go_wp2_with (go_at_call 34; refine (length_any _ _ (by omega) (by omega) (by omega) (by omega) _ hl).mono ?_; rintro e w' ⟨rfl, rfl⟩)
  go_ret2; exact ⟨ret_two hN.out.symm hE.out.symm, rfl⟩

theorem day_any (y m d : Int) (w : World) (hl : Lens w) :
    Calls Tryd.prog 8 #[.int .i64 y, .int .i64 m, .int .i64 d] w fun e w' => e = .returned (.tuple #[.int .i64 (dayN y m d), .int .i64 (dayE y m d)]) ∧ w = w' := by
  by_cases h : okDate y m d = true
  · exact day_yes y m d h w hl
  · exact day_no y m d (by simpa using h) w hl

set_option maxHeartbeats 400000 in
theorem rday_yes (y m d : Int) (h : okDate y m d = true) (w : World) :
    Calls Tryd.prog 9 #[.int .i64 y, .int .i64 m, .int .i64 d] w fun e w' => e = .returned (.tuple #[.int .i64 (dayN y m d), .int .i64 (dayE y m d)]) ∧ w = w' := by
  have hN : Hid (dayN y m d = d - 1 + dby y + dbm y m) := Lib.hid (by simp [dayN, h])
  have hE : Hid (dayE y m d = 0) := Lib.hid (by simp [dayE, h])
  obtain ⟨a1, a2, a3, a4, a5, a6⟩ := okDate_of h
  have a7 := ml_bd y m
  obtain ⟨a8, a9⟩ := a7
  clear h
  go_enter Tryd.func9, Tryd.ntmps9
  go_wp2_with (go_at_call 36; refine (long_any _ _ (by omega) (by omega) a3 a4 _).mono ?_; rintro e w' ⟨rfl, rfl⟩)
  go_loop [8, 9] (fun n i => ∃ k : Int, 2000 ≤ k ∧ k ≤ y ∧ i = .int .i64 k ∧ n = .int .i64 (d - 1 + dby k)) (fun _ i => (y - intOf i).toNat)
  case atStart => exact ⟨2000, by omega, by omega, rfl, by simp [dby_2000]⟩
  case round =>
    obtain ⟨k, hk1, hk2, rfl, rfl⟩ := hrel
    have b1 := dby_bd k hk1 (by omega)
    obtain ⟨b2, b3⟩ := b1
    have b4 := ml_bd k 2
    obtain ⟨b5, b6⟩ := b4
    by_cases hlt : k < y
    · have hs := Lib.hid (dby_succ k hk1 (by omega))
      have hy := Lib.hid (yd_ml k)
      go_wp2_with (go_at_call 36; refine (long_any _ _ (by omega) (by omega) (by omega) (by omega) _).mono ?_; rintro e w' ⟨rfl, rfl⟩)
      go_round
      case rel => exact ⟨k + 1, by omega, by omega, by go_num, by rw [hs.out, hy.out]; go_num⟩
      case measure => simp [intOf]; omega
    · obtain rfl : k = y := by omega
      go_wp2
      go_loop [8, 10] (fun n i => ∃ j : Int, 1 ≤ j ∧ j ≤ m ∧ i = .int .i64 j ∧ n = .int .i64 (d - 1 + dby k + dbm k j)) (fun _ i => (m - intOf i).toNat)
      case atStart => exact ⟨1, by omega, by omega, rfl, by simp [dbm_one]⟩
      case round =>
        obtain ⟨j, hj1, hj2, rfl, rfl⟩ := hrel
        have e1 := dbm_bd k j hj1 (by omega)
        obtain ⟨e2, e3⟩ := e1
        by_cases hlt2 : j < m
        · have hs := Lib.hid (dbm_succ k j hj1 (by omega))
          have e4 := ml_bd k j
          obtain ⟨e5, e6⟩ := e4
          go_wp2_with (go_at_call 36; refine (long_any _ _ (by omega) (by omega) (by omega) (by omega) _).mono ?_; rintro e w' ⟨rfl, rfl⟩)
          go_round
          case rel => exact ⟨j + 1, by omega, by omega, by go_num, by rw [hs.out]; go_num⟩
          case measure => simp [intOf]; omega
        · obtain rfl : j = m := by omega
          go_wp2
          go_ret2
          exact ⟨ret_two hN.out.symm hE.out.symm, rfl⟩

set_option maxHeartbeats 400000 in
theorem rday_no (y m d : Int) (h : okDate y m d = false) (w : World) :
    Calls Tryd.prog 9 #[.int .i64 y, .int .i64 m, .int .i64 d] w fun e w' => e = .returned (.tuple #[.int .i64 (dayN y m d), .int .i64 (dayE y m d)]) ∧ w = w' := by
  have hN : Hid (dayN y m d = 0) := Lib.hid (by simp [dayN, h])
  have hE : Hid (dayE y m d = 13) := Lib.hid (by simp [dayE, h])
  have hf : y < 2000 ∨ 2099 < y ∨ m < 1 ∨ 12 < m ∨ d < 1 ∨ ml y m < d := by simp [okDate] at h; omega
  clear h
  by_cases a1 : y < 2000
  · clear hf; go_enter Tryd.func9, Tryd.ntmps9; go_wp2; go_ret2; exact ⟨ret_two hN.out.symm hE.out.symm, rfl⟩
  by_cases a2 : 2099 < y
  · clear hf; go_enter Tryd.func9, Tryd.ntmps9; go_wp2; go_ret2; exact ⟨ret_two hN.out.symm hE.out.symm, rfl⟩
  by_cases a3 : m < 1
  · clear hf; go_enter Tryd.func9, Tryd.ntmps9; go_wp2; go_ret2; exact ⟨ret_two hN.out.symm hE.out.symm, rfl⟩
  by_cases a4 : 12 < m
  · clear hf; go_enter Tryd.func9, Tryd.ntmps9; go_wp2; go_ret2; exact ⟨ret_two hN.out.symm hE.out.symm, rfl⟩
  by_cases a5 : d < 1
  · clear hf; go_enter Tryd.func9, Tryd.ntmps9; go_wp2; go_ret2; exact ⟨ret_two hN.out.symm hE.out.symm, rfl⟩
  have a6 : ml y m < d := by omega
  clear hf
  go_enter Tryd.func9, Tryd.ntmps9
  go_wp2_with (go_at_call 36; refine (long_any _ _ (by omega) (by omega) (by omega) (by omega) _).mono ?_; rintro e w' ⟨rfl, rfl⟩)
  go_ret2; exact ⟨ret_two hN.out.symm hE.out.symm, rfl⟩

theorem rday_any (y m d : Int) (w : World) :
    Calls Tryd.prog 9 #[.int .i64 y, .int .i64 m, .int .i64 d] w fun e w' => e = .returned (.tuple #[.int .i64 (dayN y m d), .int .i64 (dayE y m d)]) ∧ w = w' := by
  by_cases h : okDate y m d = true
  · exact rday_yes y m d h w
  · exact rday_no y m d (by simpa using h) w

theorem wday_any (n : Int) (w : World) :
    Calls Tryd.prog 15 #[.int .i64 n] w fun e w' => e = .returned (.int .i64 (wday n)) ∧ w = w' := by
  by_cases h : okDay n = true
  · have h' : 0 ≤ n ∧ n ≤ 36524 := by simpa [okDay] using h
    obtain ⟨h1, h2⟩ := h'
    go_enter Tryd.func15, Tryd.ntmps15
    go_wp2_with (go_at_call 37; refine (valid_any _ _).mono ?_; rintro e w' ⟨rfl, rfl⟩)
    go_ret
    exact ⟨ret_int (by simp [wday, h]), rfl⟩
  · have h' : okDay n = false := by simpa using h
    go_enter Tryd.func15, Tryd.ntmps15
    go_wp2_with (go_at_call 37; refine (valid_any _ _).mono ?_; rintro e w' ⟨rfl, rfl⟩)
    go_ret
    exact ⟨ret_int (by simp [wday, h']), rfl⟩
theorem rwday_any (n : Int) (w : World) :
    Calls Tryd.prog 16 #[.int .i64 n] w fun e w' => e = .returned (.int .i64 (wday n)) ∧ w = w' := by
  by_cases h : okDay n = true
  · have h' : 0 ≤ n ∧ n ≤ 36524 := by simpa [okDay] using h
    obtain ⟨h1, h2⟩ := h'
    go_enter Tryd.func16, Tryd.ntmps16
    go_wp2_with (go_at_call 38; refine (rvalid_any _ _).mono ?_; rintro e w' ⟨rfl, rfl⟩)
    go_ret
    exact ⟨ret_int (by simp [wday, h]), rfl⟩
  · have h' : okDay n = false := by simpa using h
    go_enter Tryd.func16, Tryd.ntmps16
    go_wp2_with (go_at_call 38; refine (rvalid_any _ _).mono ?_; rintro e w' ⟨rfl, rfl⟩)
    go_ret
    exact ⟨ret_int (by simp [wday, h']), rfl⟩
end Go.Proofs.YtgdgpniceaknbaaDoor
