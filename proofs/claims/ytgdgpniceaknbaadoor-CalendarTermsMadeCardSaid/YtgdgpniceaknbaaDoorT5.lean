import Derived.Test.YtgdgpniceaknbaaDoorT4
namespace Go.Proofs.YtgdgpniceaknbaaDoor
open Go.RowKit TT

theorem Lens.below {w w' : World} (hl : Lens w) (hb : Below w.heap.size w w') : Lens w' := fun i hi => by
  rw [hb.cell (p := ⟨0, i, none⟩) (World.block_lt_of_cell? _ ⟨0, i, none⟩ (hl i hi))]; exact hl i hi
theorem Lens.alloc {w : World} (hl : Lens w) (o : Obj) : Lens (w.alloc o) := hl.below ((Below.refl _ _).alloc (Nat.le_refl _) o)

set_option maxHeartbeats 1000000 in
theorem law_dates (a b c n : Int) (w : World) (hl : Lens w) :
    Calls Tryd.prog 3 #[.agg #[.int .i64 a, .int .i64 b, .int .i64 c], .int .i64 n] w fun e w' => e = .returned (.bool true) ∧ Below w.heap.size w w' := by
  go_enter Tryd.func3, Tryd.ntmps3
  go_wp2_with (first | (go_at_call 8; refine (day_any _ _ _ _ (hl.alloc _)).mono ?_; rintro e w' ⟨rfl, rfl⟩) | (go_at_call 9; refine (rday_any _ _ _ _).mono ?_; rintro e w' ⟨rfl, rfl⟩) | (go_at_call 10; refine (parts_any _ _ (hl.alloc _)).mono ?_; rintro e w' ⟨rfl, rfl⟩) | (go_at_call 11; refine (rparts_any _ _).mono ?_; rintro e w' ⟨rfl, rfl⟩) | (go_at_call 12; refine (week_any _ _).mono ?_; rintro e w' ⟨rfl, rfl⟩) | (go_at_call 13; refine (rweek_any _ _).mono ?_; rintro e w' ⟨rfl, rfl⟩) | (go_at_call 14; refine (awake_any _ (hl.alloc _)).mono ?_; rintro e w' ⟨rfl, rfl⟩) | (go_at_call 15; refine (wday_any _ _).mono ?_; rintro e w' ⟨rfl, rfl⟩) | (go_at_call 16; refine (rwday_any _ _).mono ?_; rintro e w' ⟨rfl, rfl⟩))
  go_ret
  exact ⟨rfl, (Below.refl _ _).alloc (Nat.le_refl _) _⟩

theorem mod_any (n m : Int) (h1 : -9223372036854775808 ≤ n) (h2 : n ≤ 9223372036854775807) (hm : 1 ≤ m) (hm2 : m ≤ 1000000000000) (w : World) :
    Calls Tryd.prog 17 #[.int .i64 n, .int .i64 m] w fun e w' => e = .returned (.int .i64 (n % m)) ∧ w = w' := by
  have hb := Int.emod_nonneg n (show m ≠ 0 by omega)
  have hb2 := Int.emod_lt_of_pos n (show 0 < m by omega)
  by_cases hn : 0 ≤ n
  · go_enter Tryd.func17, Tryd.ntmps17
    go_wp2
    go_ret
    exact ⟨rfl, rfl⟩
  · have ht : n.tmod m = if n % m = 0 then 0 else n % m - m := by
      rw [Int.tmod_eq_emod]
      have hd : (0 ≤ n ∨ m ∣ n) ↔ n % m = 0 := by
        constructor
        · rintro (h | h)
          · omega
          · exact Int.emod_eq_zero_of_dvd h
        · intro h; exact Or.inr (Int.dvd_of_emod_eq_zero h)
      by_cases c : n % m = 0
      · rw [if_pos (hd.2 c), if_pos c, c]; simp
      · rw [if_neg (fun h => c (hd.1 h)), if_neg c]; omega
    by_cases c : n % m = 0
    · rw [if_pos c] at ht
      have H := Lib.hid c
      clear c
      go_enter Tryd.func17, Tryd.ntmps17
      go_wp2
      go_ret
      exact ⟨ret_int (by rw [H.out]), rfl⟩
    · rw [if_neg c] at ht
      go_enter Tryd.func17, Tryd.ntmps17
      go_wp2
      go_ret
      exact ⟨ret_int (by omega), rfl⟩

set_option maxRecDepth 100000 in
set_option maxHeartbeats 4000000 in
theorem law_follows (n : Int) (h1 : -9223372036854775808 ≤ n) (h2 : n ≤ 9223372036854775807) (w : World) (hl : Lens w) :
    Calls Tryd.prog 4 #[.int .i64 n] w fun e w' => e = .returned (.bool true) ∧ Below w.heap.size w w' := by
  have a1 := Int.emod_nonneg n (show (36524 : Int) ≠ 0 by omega)
  have a2 := Int.emod_lt_of_pos n (show (0 : Int) < 36524 by omega)
  have b := dayN_back (n % 36524) a1 (by omega)
  have B1 := Lib.hid b.1
  have B2 := Lib.hid b.2
  have nd := next_date (n % 36524) a1 (by omega)
  have nw := next_week (n % 36524) a1 (by omega)
  obtain ⟨wn, w1, w2⟩ := wday_next (n % 36524) a1 (by omega)
  have P1 : Hid (pE (n % 36524) = 0) := Lib.hid (by simp [pE, okDay_mk a1 (show n % 36524 ≤ 36524 by omega)])
  have P2 : Hid (pE (n % 36524 + 1) = 0) := Lib.hid (by simp [pE, okDay_mk (show 0 ≤ n % 36524 + 1 by omega) (show n % 36524 + 1 ≤ 36524 by omega)])
  have W := Lib.hid wn
  clear b wn
  have HM := Lib.hid (fun w => mod_any n 36524 h1 h2 (by omega) (by omega) w)
  clear h1 h2
  generalize n % 36524 = a at *
  obtain ⟨p1, p2, p3, p4, p5, p6⟩ := p_bd a
  obtain ⟨q1, q2, q3, q4⟩ := w_bd a
  rcases nd with ⟨d1, d2, d3⟩ | ⟨d1, d2, d3⟩ | ⟨d1, d2, d3, d4⟩ <;> rcases nw with ⟨c0, c1, c2⟩ | ⟨c0, c1, c2⟩ | ⟨c0, c1, c2, c3⟩
  all_goals
    rw [W.out] at c0
    have E1 := Lib.hid d1
    have E2 := Lib.hid d2
    have F1 := Lib.hid c1
    have F2 := Lib.hid c2
    clear d1 d2 c1 c2
  case inl.inl =>
    have E3 := Lib.hid d3
    clear d3
    have k1 : ((wday a + 1) % 7 == 0) = false := beq_eq_false_iff_ne.2 c0
    have k2 : ((wday a + 1) % 7 != 0) = true := by rw [bne_iff_ne]; exact c0
    clear c0
    go_enter Tryd.func4, Tryd.ntmps4
    go_wp2_with (first | (go_at_call 17; refine (HM.out _).mono ?_; rintro e w' ⟨rfl, rfl⟩) | (go_at_call 8; refine (day_any _ _ _ _ hl).mono ?_; rw [B1.out, B2.out]; rintro e w' ⟨rfl, rfl⟩) | (go_at_call 10; refine (parts_any _ _ hl).mono ?_; (first | rw [P1.out] | rw [E1.out, E2.out, E3.out, P2.out]); rintro e w' ⟨rfl, rfl⟩) | (go_at_call 12; refine (week_any _ _).mono ?_; (first | rw [P1.out] | rw [F1.out, F2.out, P2.out]); rintro e w' ⟨rfl, rfl⟩) | (go_at_call 14; refine (awake_any _ hl).mono ?_; rintro e w' ⟨rfl, rfl⟩) | (go_at_call 15; refine (wday_any _ _).mono ?_; (try rw [W.out]); rintro e w' ⟨rfl, rfl⟩))
    go_ret
    exact ⟨rfl, Below.refl _ _⟩
  case inl.inr.inl =>
    have E3 := Lib.hid d3
    clear d3
    have k1 : ((wday a + 1) % 7 == 0) = true := by rw [beq_iff_eq]; exact c0
    have k2 : ((wday a + 1) % 7 != 0) = false := by rw [bne_eq_false_iff_eq]; exact c0
    clear c0
    go_enter Tryd.func4, Tryd.ntmps4
    go_wp2_with (first | (go_at_call 17; refine (HM.out _).mono ?_; rintro e w' ⟨rfl, rfl⟩) | (go_at_call 8; refine (day_any _ _ _ _ hl).mono ?_; rw [B1.out, B2.out]; rintro e w' ⟨rfl, rfl⟩) | (go_at_call 10; refine (parts_any _ _ hl).mono ?_; (first | rw [P1.out] | rw [E1.out, E2.out, E3.out, P2.out]); rintro e w' ⟨rfl, rfl⟩) | (go_at_call 12; refine (week_any _ _).mono ?_; (first | rw [P1.out] | rw [F1.out, F2.out, P2.out]); rintro e w' ⟨rfl, rfl⟩) | (go_at_call 14; refine (awake_any _ hl).mono ?_; rintro e w' ⟨rfl, rfl⟩) | (go_at_call 15; refine (wday_any _ _).mono ?_; (try rw [W.out]); rintro e w' ⟨rfl, rfl⟩))
    go_ret
    exact ⟨rfl, Below.refl _ _⟩
  case inl.inr.inr =>
    have E3 := Lib.hid d3
    clear d3
    have k1 : ((wday a + 1) % 7 == 0) = true := by rw [beq_iff_eq]; exact c0
    have k2 : ((wday a + 1) % 7 != 0) = false := by rw [bne_eq_false_iff_eq]; exact c0
    clear c0
    go_enter Tryd.func4, Tryd.ntmps4
    go_wp2_with (first | (go_at_call 17; refine (HM.out _).mono ?_; rintro e w' ⟨rfl, rfl⟩) | (go_at_call 8; refine (day_any _ _ _ _ hl).mono ?_; rw [B1.out, B2.out]; rintro e w' ⟨rfl, rfl⟩) | (go_at_call 10; refine (parts_any _ _ hl).mono ?_; (first | rw [P1.out] | rw [E1.out, E2.out, E3.out, P2.out]); rintro e w' ⟨rfl, rfl⟩) | (go_at_call 12; refine (week_any _ _).mono ?_; (first | rw [P1.out] | rw [F1.out, F2.out, P2.out]); rintro e w' ⟨rfl, rfl⟩) | (go_at_call 14; refine (awake_any _ hl).mono ?_; rintro e w' ⟨rfl, rfl⟩) | (go_at_call 15; refine (wday_any _ _).mono ?_; (try rw [W.out]); rintro e w' ⟨rfl, rfl⟩))
    go_ret
    exact ⟨rfl, Below.refl _ _⟩
  case inr.inl.inl =>
    have E3 := Lib.hid d3
    clear d3
    have k1 : ((wday a + 1) % 7 == 0) = false := beq_eq_false_iff_ne.2 c0
    have k2 : ((wday a + 1) % 7 != 0) = true := by rw [bne_iff_ne]; exact c0
    clear c0
    go_enter Tryd.func4, Tryd.ntmps4
    go_wp2_with (first | (go_at_call 17; refine (HM.out _).mono ?_; rintro e w' ⟨rfl, rfl⟩) | (go_at_call 8; refine (day_any _ _ _ _ hl).mono ?_; rw [B1.out, B2.out]; rintro e w' ⟨rfl, rfl⟩) | (go_at_call 10; refine (parts_any _ _ hl).mono ?_; (first | rw [P1.out] | rw [E1.out, E2.out, E3.out, P2.out]); rintro e w' ⟨rfl, rfl⟩) | (go_at_call 12; refine (week_any _ _).mono ?_; (first | rw [P1.out] | rw [F1.out, F2.out, P2.out]); rintro e w' ⟨rfl, rfl⟩) | (go_at_call 14; refine (awake_any _ hl).mono ?_; rintro e w' ⟨rfl, rfl⟩) | (go_at_call 15; refine (wday_any _ _).mono ?_; (try rw [W.out]); rintro e w' ⟨rfl, rfl⟩))
    go_ret
    exact ⟨rfl, Below.refl _ _⟩
  case inr.inl.inr.inl =>
    have E3 := Lib.hid d3
    clear d3
    have k1 : ((wday a + 1) % 7 == 0) = true := by rw [beq_iff_eq]; exact c0
    have k2 : ((wday a + 1) % 7 != 0) = false := by rw [bne_eq_false_iff_eq]; exact c0
    clear c0
    go_enter Tryd.func4, Tryd.ntmps4
    go_wp2_with (first | (go_at_call 17; refine (HM.out _).mono ?_; rintro e w' ⟨rfl, rfl⟩) | (go_at_call 8; refine (day_any _ _ _ _ hl).mono ?_; rw [B1.out, B2.out]; rintro e w' ⟨rfl, rfl⟩) | (go_at_call 10; refine (parts_any _ _ hl).mono ?_; (first | rw [P1.out] | rw [E1.out, E2.out, E3.out, P2.out]); rintro e w' ⟨rfl, rfl⟩) | (go_at_call 12; refine (week_any _ _).mono ?_; (first | rw [P1.out] | rw [F1.out, F2.out, P2.out]); rintro e w' ⟨rfl, rfl⟩) | (go_at_call 14; refine (awake_any _ hl).mono ?_; rintro e w' ⟨rfl, rfl⟩) | (go_at_call 15; refine (wday_any _ _).mono ?_; (try rw [W.out]); rintro e w' ⟨rfl, rfl⟩))
    go_ret
    exact ⟨rfl, Below.refl _ _⟩
  case inr.inl.inr.inr =>
    have E3 := Lib.hid d3
    clear d3
    have k1 : ((wday a + 1) % 7 == 0) = true := by rw [beq_iff_eq]; exact c0
    have k2 : ((wday a + 1) % 7 != 0) = false := by rw [bne_eq_false_iff_eq]; exact c0
    clear c0
    go_enter Tryd.func4, Tryd.ntmps4
    go_wp2_with (first | (go_at_call 17; refine (HM.out _).mono ?_; rintro e w' ⟨rfl, rfl⟩) | (go_at_call 8; refine (day_any _ _ _ _ hl).mono ?_; rw [B1.out, B2.out]; rintro e w' ⟨rfl, rfl⟩) | (go_at_call 10; refine (parts_any _ _ hl).mono ?_; (first | rw [P1.out] | rw [E1.out, E2.out, E3.out, P2.out]); rintro e w' ⟨rfl, rfl⟩) | (go_at_call 12; refine (week_any _ _).mono ?_; (first | rw [P1.out] | rw [F1.out, F2.out, P2.out]); rintro e w' ⟨rfl, rfl⟩) | (go_at_call 14; refine (awake_any _ hl).mono ?_; rintro e w' ⟨rfl, rfl⟩) | (go_at_call 15; refine (wday_any _ _).mono ?_; (try rw [W.out]); rintro e w' ⟨rfl, rfl⟩))
    go_ret
    exact ⟨rfl, Below.refl _ _⟩
  case inr.inr.inl =>
    have E3 := Lib.hid d4
    clear d4
    have E4 := Lib.hid d3
    clear d3
    have k1 : ((wday a + 1) % 7 == 0) = false := beq_eq_false_iff_ne.2 c0
    have k2 : ((wday a + 1) % 7 != 0) = true := by rw [bne_iff_ne]; exact c0
    clear c0
    go_enter Tryd.func4, Tryd.ntmps4
    go_wp2_with (first | (go_at_call 17; refine (HM.out _).mono ?_; rintro e w' ⟨rfl, rfl⟩) | (go_at_call 8; refine (day_any _ _ _ _ hl).mono ?_; have b1 := B1.out; have b2 := B2.out; rw [E4.out] at b1 b2; rw [b1, b2]; clear b1 b2; rintro e w' ⟨rfl, rfl⟩) | (go_at_call 10; refine (parts_any _ _ hl).mono ?_; (first | rw [P1.out, E4.out] | rw [E1.out, E2.out, E3.out, P2.out]); rintro e w' ⟨rfl, rfl⟩) | (go_at_call 12; refine (week_any _ _).mono ?_; (first | rw [P1.out] | rw [F1.out, F2.out, P2.out]); rintro e w' ⟨rfl, rfl⟩) | (go_at_call 14; refine (awake_any _ hl).mono ?_; rintro e w' ⟨rfl, rfl⟩) | (go_at_call 15; refine (wday_any _ _).mono ?_; (try rw [W.out]); rintro e w' ⟨rfl, rfl⟩))
    go_ret
    exact ⟨rfl, Below.refl _ _⟩
  case inr.inr.inr.inl =>
    have E3 := Lib.hid d4
    clear d4
    have E4 := Lib.hid d3
    clear d3
    have k1 : ((wday a + 1) % 7 == 0) = true := by rw [beq_iff_eq]; exact c0
    have k2 : ((wday a + 1) % 7 != 0) = false := by rw [bne_eq_false_iff_eq]; exact c0
    clear c0
    go_enter Tryd.func4, Tryd.ntmps4
    go_wp2_with (first | (go_at_call 17; refine (HM.out _).mono ?_; rintro e w' ⟨rfl, rfl⟩) | (go_at_call 8; refine (day_any _ _ _ _ hl).mono ?_; have b1 := B1.out; have b2 := B2.out; rw [E4.out] at b1 b2; rw [b1, b2]; clear b1 b2; rintro e w' ⟨rfl, rfl⟩) | (go_at_call 10; refine (parts_any _ _ hl).mono ?_; (first | rw [P1.out, E4.out] | rw [E1.out, E2.out, E3.out, P2.out]); rintro e w' ⟨rfl, rfl⟩) | (go_at_call 12; refine (week_any _ _).mono ?_; (first | rw [P1.out] | rw [F1.out, F2.out, P2.out]); rintro e w' ⟨rfl, rfl⟩) | (go_at_call 14; refine (awake_any _ hl).mono ?_; rintro e w' ⟨rfl, rfl⟩) | (go_at_call 15; refine (wday_any _ _).mono ?_; (try rw [W.out]); rintro e w' ⟨rfl, rfl⟩))
    go_ret
    exact ⟨rfl, Below.refl _ _⟩
  case inr.inr.inr.inr =>
    have E3 := Lib.hid d4
    clear d4
    have E4 := Lib.hid d3
    clear d3
    have k1 : ((wday a + 1) % 7 == 0) = true := by rw [beq_iff_eq]; exact c0
    have k2 : ((wday a + 1) % 7 != 0) = false := by rw [bne_eq_false_iff_eq]; exact c0
    clear c0
    go_enter Tryd.func4, Tryd.ntmps4
    go_wp2_with (first | (go_at_call 17; refine (HM.out _).mono ?_; rintro e w' ⟨rfl, rfl⟩) | (go_at_call 8; refine (day_any _ _ _ _ hl).mono ?_; have b1 := B1.out; have b2 := B2.out; rw [E4.out] at b1 b2; rw [b1, b2]; clear b1 b2; rintro e w' ⟨rfl, rfl⟩) | (go_at_call 10; refine (parts_any _ _ hl).mono ?_; (first | rw [P1.out, E4.out] | rw [E1.out, E2.out, E3.out, P2.out]); rintro e w' ⟨rfl, rfl⟩) | (go_at_call 12; refine (week_any _ _).mono ?_; (first | rw [P1.out] | rw [F1.out, F2.out, P2.out]); rintro e w' ⟨rfl, rfl⟩) | (go_at_call 14; refine (awake_any _ hl).mono ?_; rintro e w' ⟨rfl, rfl⟩) | (go_at_call 15; refine (wday_any _ _).mono ?_; (try rw [W.out]); rintro e w' ⟨rfl, rfl⟩))
    go_ret
    exact ⟨rfl, Below.refl _ _⟩
end Go.Proofs.YtgdgpniceaknbaaDoor
