/- The calendar's functions, of the program and of the reference: dates and days. -/
import Derived.Test.YtibigbfkokendaaDoorProg
import Derived.Test.YtibigbfkokendaaDoorBase
import Derived.Test.YtibigbfkokendaaDoorCalp
namespace Go.Proofs.YtibigbfkokendaaDoor.Cal
open Go.RowKit TT



def lenAt (i : Nat) : Int := [31, 28, 31, 30, 31, 30, 31, 31, 30, 31, 30, 31].getD i 0
def Lens (w : World) : Prop := ∀ i : Nat, i < 12 → w.cell? ⟨0, i, none⟩ = some (.int .i64 (lenAt i))

theorem valid_any (d : Int) (w : World) :
    Calls Tryd.prog 57 #[.int .i64 d] w fun e w' => e = .returned (.bool (okDay d)) ∧ w = w' := by
  go_enter Tryd.func57, Tryd.ntmps57
  go_wp2
  all_goals go_ret
  all_goals exact ⟨ret_bool (by unfold okDay; simp; try omega), rfl⟩

theorem rvalid_any (d : Int) (w : World) :
    Calls Tryd.prog 72 #[.int .i64 d] w fun e w' => e = .returned (.bool (okDay d)) ∧ w = w' := by
  go_enter Tryd.func72, Tryd.ntmps72
  go_wp2
  all_goals go_ret
  all_goals exact ⟨ret_bool (by unfold okDay; simp; try omega), rfl⟩

def lp (y : Int) : Bool := y % 4 == 0 && y != 2100
theorem leap_any (y : Int) (h1 : 1999 ≤ y) (h2 : y ≤ 2101) (w : World) :
    Calls Tryd.prog 76 #[.int .i64 y] w fun e w' => e = .returned (.bool (lp y)) ∧ w = w' := by
  go_enter Tryd.func76, Tryd.ntmps76
  go_wp2
  all_goals go_ret
  all_goals exact ⟨ret_bool (by unfold lp; rw [Bool.eq_iff_iff]; simp [*]; try omega), rfl⟩

theorem days_any (y : Int) (h1 : 1999 ≤ y) (h2 : y ≤ 2101) (w : World) :
    Calls Tryd.prog 58 #[.int .i64 y] w fun e w' => e = .returned (.int .i64 (yd y)) ∧ w = w' := by
  go_enter Tryd.func58, Tryd.ntmps58
  go_wp2_with (go_at_call 76; refine (leap_any _ h1 h2 _).mono ?_; rintro e w' ⟨rfl, rfl⟩)
  all_goals go_ret
  all_goals exact ⟨ret_int (by unfold yd; simp_all [lp]), rfl⟩

theorem length_any (y m : Int) (h1 : 1999 ≤ y) (h2 : y ≤ 2101) (h3 : 1 ≤ m) (h4 : m ≤ 12) (w : World) (hl : Lens w) :
    Calls Tryd.prog 59 #[.int .i64 y, .int .i64 m] w fun e w' => e = .returned (.int .i64 (ml y m)) ∧ w = w' := by
  have c0 := hl 0 (by decide)
  have c1 := hl 1 (by decide)
  have c2 := hl 2 (by decide)
  have c3 := hl 3 (by decide)
  have c4 := hl 4 (by decide)
  have c5 := hl 5 (by decide)
  have c6 := hl 6 (by decide)
  have c7 := hl 7 (by decide)
  have c8 := hl 8 (by decide)
  have c9 := hl 9 (by decide)
  have c10 := hl 10 (by decide)
  have c11 := hl 11 (by decide)
  simp only [lenAt, List.getD_cons_zero, List.getD_cons_succ] at c0 c1 c2 c3 c4 c5 c6 c7 c8 c9 c10 c11
  clear hl
  rcases cases12 m h3 h4 with rfl | rfl | rfl | rfl | rfl | rfl | rfl | rfl | rfl | rfl | rfl | rfl <;> clear h3 h4
  all_goals
    go_enter Tryd.func59, Tryd.ntmps59
    go_wp2_with (go_at_call 76; refine (leap_any _ h1 h2 _).mono ?_; rintro e w' ⟨rfl, rfl⟩)
  all_goals go_ret
  all_goals exact ⟨ret_int (by unfold ml; simp_all [lp]), rfl⟩



theorem okDate_of {y m d : Int} (h : okDate y m d = true) : 2000 ≤ y ∧ y ≤ 2099 ∧ 1 ≤ m ∧ m ≤ 12 ∧ 1 ≤ d ∧ d ≤ ml y m := by simpa [okDate] using h



theorem ret_four {a b c d a' b' c' d' : Int} (h1 : a = a') (h2 : b = b') (h3 : c = c') (h4 : d = d') : Ending.returned (.tuple #[.int .i64 a, .int .i64 b, .int .i64 c, .int .i64 d]) = .returned (.tuple #[.int .i64 a', .int .i64 b', .int .i64 c', .int .i64 d']) := by rw [h1, h2, h3, h4]
theorem ret_three {a b c a' b' c' : Int} (h1 : a = a') (h2 : b = b') (h3 : c = c') : Ending.returned (.tuple #[.int .i64 a, .int .i64 b, .int .i64 c]) = .returned (.tuple #[.int .i64 a', .int .i64 b', .int .i64 c']) := by rw [h1, h2, h3]

/-- the date of a day, as it is found: hidden equations -/
theorem parts_fin (n y m : Int) (h : okDay n = true) (y1 : 2000 ≤ y) (y2 : y ≤ 2099) (m1 : 1 ≤ m) (m2 : m ≤ 12) (h3 : 0 ≤ n - dby y - dbm y m) (h4 : n - dby y - dbm y m < ml y m) :
    y = pY n ∧ m = pM n ∧ n - dby y - dbm y m + 1 = pD n ∧ 0 = pE n := by
  obtain ⟨a, b⟩ := okDay_of h
  have hs := dby_succ y y1 y2
  have hb : dbm y m + ml y m ≤ yd y := by
    have e := dbm_succ y m m1 m2
    have e13 := dbm_13 y
    have mono : ∀ k : Nat, k ≤ 12 → ∀ j : Int, j = 13 - k → 1 ≤ j → dbm y j ≤ dbm y 13 := by
      intro k
      induction k with
      | zero => intro _ j hj _; subst hj; simp
      | succ k ih =>
        intro hk j hj h1
        have := ih (by omega) (j + 1) (by omega) (by omega)
        have e2 := dbm_succ y j h1 (by omega)
        have := ml_bd y j
        omega
    have := mono (13 - (m + 1)).toNat (by omega) (m + 1) (by omega) (by omega)
    omega
  have d0 := dbm_bd y m m1 (by omega)
  have hy : yearOf n = y := yearOf_eq n y (by omega) (by omega) (by omega) (by omega) (by omega) (by omega)
  have hm : monthOf n = m := monthOf_eq n y m hy m1 m2 (by omega) (by omega)
  exact ⟨by simp [pY, h, hy], by simp [pM, h, hm], by simp [pD, h, domOf_eq n y m hy hm], by simp [pE, h]⟩

set_option maxHeartbeats 400000 in
theorem parts_no (n : Int) (h : okDay n = false) (w : World) :
    Calls Tryd.prog 43 #[.int .i64 n] w fun e w' => e = .returned (.tuple #[.int .i64 (pY n), .int .i64 (pM n), .int .i64 (pD n), .int .i64 (pE n)]) ∧ w = w' := by
  have q1 := Lib.hid (show 0 = pY n by simp [pY, h])
  have q2 := Lib.hid (show 0 = pM n by simp [pM, h])
  have q3 := Lib.hid (show 0 = pD n by simp [pD, h])
  have q4 := Lib.hid (show 13 = pE n by simp [pE, h])
  go_enter Tryd.func43, Tryd.ntmps43
  go_wp2_with (go_at_call 57; refine (valid_any _ _).mono ?_; rintro e w' ⟨rfl, rfl⟩)
  refine bodyPost_ret (v := .tuple #[.int .i64 0, .int .i64 0, .int .i64 0, .int .i64 13]) (by simp [results, Tryd.results43, go_sem]) rfl ⟨ret_four q1.out q2.out q3.out q4.out, rfl⟩

set_option maxHeartbeats 1000000 in
theorem parts_yes (n : Int) (h : okDay n = true) (w : World) (hl : Lens w) :
    Calls Tryd.prog 43 #[.int .i64 n] w fun e w' => e = .returned (.tuple #[.int .i64 (pY n), .int .i64 (pM n), .int .i64 (pD n), .int .i64 (pE n)]) ∧ w = w' := by
  obtain ⟨n1, n2⟩ := okDay_of h
  go_enter Tryd.func43, Tryd.ntmps43
  go_wp2_with (go_at_call 57; refine (valid_any _ _).mono ?_; rintro e w' ⟨rfl, rfl⟩)
  go_loop [0, 2] (fun r k => ∃ y : Int, 2000 ≤ y ∧ y ≤ 2099 ∧ k = .int .i64 y ∧ 0 ≤ n - dby y ∧ r = .int .i64 (n - dby y)) (fun _ k => (2099 - intOf k).toNat)
  case atStart => exact ⟨2000, by omega, by omega, rfl, by simp [dby_2000]; omega, by simp [dby_2000]⟩
  case round =>
    obtain ⟨y, y1, y2, rfl, hr, rfl⟩ := hrel
    obtain ⟨e1, e2⟩ := yd_pos y
    obtain ⟨b1, b2⟩ := dby_bd y y1 (by omega)
    by_cases hlt : yd y ≤ n - dby y
    · have hs := Lib.hid (dby_succ y y1 y2)
      have hy : y ≤ 2098 := by
        have := hs.out
        by_cases e : y = 2099
        · subst e; simp [dby, yd] at hlt; omega
        · omega
      go_wp2_with (go_at_call 58; refine (days_any _ (by omega) (by omega) _).mono ?_; rintro e w' ⟨rfl, rfl⟩)
      go_round
      case rel => exact ⟨y + 1, by omega, by omega, by go_num, by rw [hs.out]; omega, by rw [hs.out]; go_num⟩
      case measure => simp [intOf]; omega
    · go_wp2_with (go_at_call 58; refine (days_any _ (by omega) (by omega) _).mono ?_; rintro e w' ⟨rfl, rfl⟩)
      go_loop [0, 3] (fun r k => ∃ m : Int, 1 ≤ m ∧ m ≤ 12 ∧ k = .int .i64 m ∧ 0 ≤ n - dby y - dbm y m ∧ r = .int .i64 (n - dby y - dbm y m)) (fun _ k => (12 - intOf k).toNat)
      case atStart => exact ⟨1, by omega, by omega, rfl, by simp [dbm_one]; omega, by simp [dbm_one]⟩
      case round =>
        obtain ⟨m, m1, m2, rfl, hr2, rfl⟩ := hrel
        obtain ⟨f1, f2⟩ := ml_bd y m
        obtain ⟨g1, g2⟩ := dbm_bd y m m1 (by omega)
        by_cases hlt2 : ml y m ≤ n - dby y - dbm y m
        · have hs := Lib.hid (dbm_succ y m m1 m2)
          have hm : m ≤ 11 := by
            have := hs.out
            by_cases e : m = 12
            · subst e; have := dbm_13 y; simp only [Int.reduceAdd] at *; omega
            · omega
          go_wp2_with (go_at_call 59; refine (length_any _ _ (by omega) (by omega) (by omega) (by omega) _ hl).mono ?_; rintro e w' ⟨rfl, rfl⟩)
          go_round
          case rel => exact ⟨m + 1, by omega, by omega, by go_num, by rw [hs.out]; omega, by rw [hs.out]; go_num⟩
          case measure => simp [intOf]; omega
        · have hfin := Lib.hid (parts_fin n y m h y1 y2 m1 m2 hr2 (by omega))
          go_wp2_with (go_at_call 59; refine (length_any _ _ (by omega) (by omega) (by omega) (by omega) _ hl).mono ?_; rintro e w' ⟨rfl, rfl⟩)
          refine bodyPost_ret (v := .tuple #[.int .i64 y, .int .i64 m, .int .i64 (n - dby y - dbm y m + 1), .int .i64 0]) (by simp [results, Tryd.results43, go_sem]) rfl ⟨ret_four hfin.out.1 hfin.out.2.1 hfin.out.2.2.1 hfin.out.2.2.2, rfl⟩

theorem parts_any (n : Int) (w : World) (hl : Lens w) :
    Calls Tryd.prog 43 #[.int .i64 n] w fun e w' => e = .returned (.tuple #[.int .i64 (pY n), .int .i64 (pM n), .int .i64 (pD n), .int .i64 (pE n)]) ∧ w = w' := by
  by_cases h : okDay n = true
  · exact parts_yes n h w hl
  · exact parts_no n (by simpa using h) w

end Go.Proofs.YtibigbfkokendaaDoor.Cal
