/- Series: weekdays, the weeks that count, regular days; of the program and of the reference. -/
import Derived.Test.YtibigbfkokendaaGreatDoorCal
import Derived.Test.YtibigbfkokendaaGreatDoorP1
import Derived.Deep.RegionHeld3
namespace Go.Proofs.YtibigbfkokendaaGreatDoor
open Go.RowKit TT

/-- a series as a value -/
abbrev serV (f l e k : Int) (a : Option Addr) (n c : Nat) (b : Option Addr) (m q : Nat) : Value :=
  .agg #[.int .i64 f, .int .i64 l, .int .i64 e, .int .i64 k, .slice a n c, .slice b m q]

theorem isDay_any (d : Int) (w : World) : Calls Tryz.prog 28 #[.int .i64 d] w fun e w' => e = .returned (.bool (okDay d)) ∧ w = w' := by
  go_enter Tryz.func28, Tryz.ntmps28
  go_wp2
  all_goals go_ret
  all_goals exact ⟨ret_bool (by unfold okDay; simp; try omega), rfl⟩

theorem ris_any (d : Int) (w : World) : Calls Tryz.prog 33 #[.int .i64 d] w fun e w' => e = .returned (.bool (okDay d)) ∧ w = w' := by
  go_enter Tryz.func33, Tryz.ntmps33
  go_wp2
  all_goals go_ret
  all_goals exact ⟨ret_bool (by unfold okDay; simp; try omega), rfl⟩

theorem weekday_any (d : Int) (h1 : 0 ≤ d) (h2 : d ≤ 36524) (w : World) : Calls Tryz.prog 58 #[.int .i64 d] w fun e w' => e = .returned (.int .i64 (wd7 d)) ∧ w = w' := by
  have ok := Lib.hid (okDay_mk h1 h2)
  go_enter Tryz.func58, Tryz.ntmps58
  go_wp2_with (go_at_call 47; refine (Cal.valid_any _ _).mono ?_; rintro e w' ⟨rfl, rfl⟩; rw [ok.out])
  go_ret
  exact ⟨ret_int (by unfold wd7; omega), rfl⟩

theorem rweekday_any (d : Int) (h1 : 0 ≤ d) (h2 : d ≤ 36524) (w : World) : Calls Tryz.prog 70 #[.int .i64 d] w fun e w' => e = .returned (.int .i64 (wd7 d)) ∧ w = w' := by
  have ok := Lib.hid (okDay_mk h1 h2)
  go_enter Tryz.func70, Tryz.ntmps70
  go_wp2_with (go_at_call 93; refine (Cal.rvalid_any _ _).mono ?_; rintro e w' ⟨rfl, rfl⟩; rw [ok.out])
  go_ret
  exact ⟨ret_int (by unfold wd7; omega), rfl⟩

theorem monday_any (d : Int) (h1 : 0 ≤ d) (h2 : d ≤ 36524) (w : World) : Calls Tryz.prog 71 #[.int .i64 d] w fun e w' => e = .returned (.int .i64 (d - wd7 d)) ∧ w = w' := by
  have hw := wd7_bd d
  obtain ⟨hw1, hw2⟩ := hw
  go_enter Tryz.func71, Tryz.ntmps71
  go_wp2_with (go_at_call 70; refine (rweekday_any _ h1 h2 _).mono ?_; rintro e w' ⟨rfl, rfl⟩)
  go_ret
  exact ⟨rfl, rfl⟩

theorem cnt_form (f e d : Int) (h1 : f ≤ d) (_he : 1 ≤ e) : ((((d - wd7 d) - (f - wd7 f)).tdiv 7).tmod e == 0) = cntB f e d := by
  have h : 0 ≤ (d - wd7 d) - (f - wd7 f) := by unfold wd7; omega
  rw [Int.tdiv_eq_ediv_of_nonneg h, Int.tmod_eq_emod_of_nonneg (by omega)]
  unfold cntB
  rw [Bool.eq_iff_iff]; simp

set_option maxHeartbeats 400000 in
theorem counts_any (f l e k d : Int) (a : Option Addr) (n c : Nat) (b : Option Addr) (m q : Nat) (w : World) (h0 : 0 ≤ f) (h1 : f ≤ d) (h2 : d ≤ 36524) (e1 : 1 ≤ e) (e2 : e ≤ 4) :
    Calls Tryz.prog 57 #[serV f l e k a n c b m q, .int .i64 d] w (RetB (.bool (cntB f e d)) w) := by
  have hfin := Lib.hid (cnt_form f e d h1 e1)
  obtain ⟨hw1, hw2⟩ := wd7_bd d
  obtain ⟨hv1, hv2⟩ := wd7_bd f
  go_enter Tryz.func57, Tryz.ntmps57
  go_wp2_with (go_at_call 58; refine (weekday_any d (by omega) h2 _).mono ?_; rintro e w' ⟨rfl, rfl⟩)
  go_quiet ((go_at_call 58; exact Calls.quiet_of_same (same_flip (weekday_any f h0 (by omega) _))))
  go_wp2
  go_ret
  exact ⟨ret_bool hfin.out, below2 (below_drewN _ _)⟩

theorem bits_one (x : Int) (h0 : 0 ≤ x) (h1 : x ≤ 9223372036854775807) : bits .and .i64 x 1 = x % 2 := by
  obtain ⟨n, rfl⟩ := Int.eq_ofNat_of_zero_le h0
  have hn : n < 2 ^ 64 := by omega
  have hb : (BitVec.ofInt 64 (n : Int) &&& BitVec.ofInt 64 1).toNat = n % 2 := by
    rw [BitVec.toNat_and]
    have e1 : (BitVec.ofInt 64 (n : Int)).toNat = n := by simp; omega
    have e2 : (BitVec.ofInt 64 (1 : Int)).toNat = 1 := by decide
    rw [e1, e2, Nat.and_one_is_mod]
  show IntKind.i64.wrap (((BitVec.ofInt 64 (n : Int) &&& BitVec.ofInt 64 1).toNat : Nat) : Int) = _
  rw [hb]
  rw [IntWalk.i64_in _ (by omega)]
  omega
theorem shr_bd (ws : Int) (j : Nat) (h0 : 0 ≤ ws) (h1 : ws ≤ 9223372036854775807) : 0 ≤ ws / 2 ^ j ∧ ws / 2 ^ j ≤ 9223372036854775807 := by
  have hp : (0 : Int) < 2 ^ j := Int.pow_pos (by decide)
  refine ⟨Int.ediv_nonneg h0 (Int.le_of_lt hp), Int.le_trans (Int.ediv_le_self _ h0) h1⟩
theorem bit_eq0 (k j : Int) (h0 : 0 ≤ k) (h1 : k ≤ 9223372036854775807) : (bits .and .i64 (k / 2 ^ j.toNat) 1 == 0) = !bitN k j := by
  obtain ⟨a, b⟩ := shr_bd k j.toNat h0 h1
  rw [bits_one _ a b]
  unfold bitN
  rw [Bool.eq_iff_iff]
  simp only [beq_iff_eq, Bool.not_eq_true', decide_eq_false_iff_not]
  omega
theorem bit_eq1 (k j : Int) (h0 : 0 ≤ k) (h1 : k ≤ 9223372036854775807) : (bits .and .i64 (k / 2 ^ j.toNat) 1 == 1) = bitN k j := by
  obtain ⟨a, b⟩ := shr_bd k j.toNat h0 h1
  rw [bits_one _ a b]
  unfold bitN
  rw [Bool.eq_iff_iff]
  simp only [beq_iff_eq, decide_eq_true_eq]

set_option maxHeartbeats 1000000 in
theorem regular_any (f l e k d : Int) (a : Option Addr) (n c : Nat) (b : Option Addr) (m q : Nat) (w : World) (h0 : 0 ≤ f) (hl : l ≤ 36524) (e1 : 1 ≤ e) (e2 : e ≤ 4) (k0 : 0 ≤ k) (k1 : k ≤ 127) :
    Calls Tryz.prog 42 #[serV f l e k a n c b m q, .int .i64 d] w (RetB (.bool (regB f l e k d)) w) := by
  by_cases c1 : d < f
  · have hr : Hid (regB f l e k d = false) := Lib.hid (by simp [regB]; omega)
    clear h0
    go_enter Tryz.func42, Tryz.ntmps42
    go_wp2
    go_quiet (fail)
    go_wp2
    go_ret
    exact ⟨ret_bool hr.out.symm, below2 (below_drewN _ _)⟩
  have g1 : decide (d < f) = false := by simp; omega
  by_cases c2 : l < d
  · have hr : Hid (regB f l e k d = false) := Lib.hid (by simp [regB]; omega)
    clear h0
    go_enter Tryz.func42, Tryz.ntmps42
    go_wp2
    go_quiet (fail)
    go_wp2
    go_ret
    exact ⟨ret_bool hr.out.symm, below2 (below_drewN _ _)⟩
  have g2 : decide (l < d) = false := by simp; omega
  have hb := bit_eq0 k (wd7 d) k0 (by omega)
  obtain ⟨hw1, hw2⟩ := wd7_bd d
  cases hbit : bitN k (wd7 d)
  · have hr : Hid (regB f l e k d = false) := Lib.hid (by simp [regB, hbit])
    rw [hbit] at hb
    simp only [Bool.not_false] at hb
    clear hbit
    go_enter Tryz.func42, Tryz.ntmps42
    go_wp2
    go_quiet ((go_at_call 58; exact Calls.quiet_of_same (same_flip (weekday_any d (by omega) (by omega) _))))
    go_wp2
    go_ret
    exact ⟨ret_bool hr.out.symm, below2 (below_drewN _ _)⟩
  · have hr : Hid (regB f l e k d = cntB f e d) := Lib.hid (by simp [regB, hbit]; intro; omega)
    rw [hbit] at hb
    simp only [Bool.not_true] at hb
    clear hbit
    go_enter Tryz.func42, Tryz.ntmps42
    go_wp2
    go_quiet ((go_at_call 58; exact Calls.quiet_of_same (same_flip (weekday_any d (by omega) (by omega) _))))
    go_wp2_with (go_at_call 57; refine (counts_any f l e k d a n c b m q _ h0 (by omega) (by omega) e1 e2).mono ?_; rintro e w' ⟨rfl, hb'⟩)
    go_ret
    exact ⟨ret_bool hr.out.symm, below3 (below2 (below_drewN _ _)) hb'⟩

set_option maxHeartbeats 1000000 in
theorem rregular_any (f l e k d : Int) (a : Option Addr) (n c : Nat) (b : Option Addr) (m q : Nat) (w : World) (h0 : 0 ≤ f) (hl : l ≤ 36524) (e1 : 1 ≤ e) (e2 : e ≤ 4) (k0 : 0 ≤ k) (k1 : k ≤ 127) :
    Calls Tryz.prog 51 #[serV f l e k a n c b m q, .int .i64 d] w (RetB (.bool (regB f l e k d)) w) := by
  by_cases c1 : d < f
  · have hr : Hid (regB f l e k d = false) := Lib.hid (by simp [regB]; omega)
    have g1 : decide (f ≤ d) = false := by simp; omega
    clear h0
    go_enter Tryz.func51, Tryz.ntmps51
    go_wp2
    go_quiet (fail)
    go_wp2
    go_ret
    exact ⟨ret_bool hr.out.symm, below2 (below_drewN _ _)⟩
  have g1 : decide (f ≤ d) = true := by simp; omega
  by_cases c2 : l < d
  · have hr : Hid (regB f l e k d = false) := Lib.hid (by simp [regB]; omega)
    have g2 : decide (d ≤ l) = false := by simp; omega
    clear h0
    go_enter Tryz.func51, Tryz.ntmps51
    go_wp2
    go_quiet (fail)
    go_wp2
    go_ret
    exact ⟨ret_bool hr.out.symm, below2 (below_drewN _ _)⟩
  have g2 : decide (d ≤ l) = true := by simp; omega
  have hb := bit_eq1 k (wd7 d) k0 (by omega)
  obtain ⟨hw1, hw2⟩ := wd7_bd d
  obtain ⟨hv1, hv2⟩ := wd7_bd f
  cases hbit : bitN k (wd7 d)
  · have hr : Hid (regB f l e k d = false) := Lib.hid (by simp [regB, hbit])
    rw [hbit] at hb
    clear hbit
    go_enter Tryz.func51, Tryz.ntmps51
    go_wp2
    go_quiet ((go_at_call 70; exact Calls.quiet_of_same (same_flip (rweekday_any d (by omega) (by omega) _))))
    go_wp2
    go_ret
    exact ⟨ret_bool hr.out.symm, below2 (below_drewN _ _)⟩
  · have hr : Hid (regB f l e k d = cntB f e d) := Lib.hid (by simp [regB, hbit]; intro; omega)
    have hfin := Lib.hid (cnt_form f e d (by omega) e1)
    rw [hbit] at hb
    clear hbit
    go_enter Tryz.func51, Tryz.ntmps51
    go_wp2
    go_quiet (first
      | (go_at_call 70; exact Calls.quiet_of_same (same_flip (rweekday_any d (by omega) (by omega) _)))
      | (go_at_call 71; exact Calls.quiet_of_same (same_flip (monday_any _ (by omega) (by omega) _))))
    go_wp2
    go_ret
    exact ⟨ret_bool (by rw [hr.out]; exact hfin.out), below2 (below_drewN _ _)⟩

end Go.Proofs.YtibigbfkokendaaGreatDoor
