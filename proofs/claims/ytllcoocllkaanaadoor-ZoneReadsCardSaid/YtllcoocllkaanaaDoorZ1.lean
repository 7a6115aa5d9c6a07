import Derived.Test.YtllcoocllkaanaaDoorZ0
import Derived.Test.YtllcoocllkaanaaDoorDice
namespace Go.Proofs.YtllcoocllkaanaaDoor
open Go.RowKit

theorem digit_any (c : Int) (w : World) : Calls Tryd.prog 55 #[.int .u8 c] w (RetS (.bool (digI c)) w) := by
  go_enter Tryd.func55, Tryd.ntmps55
  go_wp2
  all_goals go_ret
  all_goals exact ⟨ret_bool (by unfold digI; rw [Bool.eq_iff_iff]; simp; try omega), rfl⟩
theorem rdigit_any (c : Int) (w : World) : Calls Tryd.prog 57 #[.int .u8 c] w (RetS (.bool (digI c)) w) := by
  go_enter Tryd.func57, Tryd.ntmps57
  go_wp2
  all_goals go_ret
  all_goals exact ⟨ret_bool (by unfold digI; rw [Bool.eq_iff_iff]; simp; try omega), rfl⟩
theorem letter_any (c : Int) (w : World) : Calls Tryd.prog 56 #[.int .u8 c] w (RetS (.bool (ltrI c)) w) := by
  go_enter Tryd.func56, Tryd.ntmps56
  go_wp2
  all_goals go_ret
  all_goals exact ⟨ret_bool (by unfold ltrI; rw [Bool.eq_iff_iff]; simp; try omega), rfl⟩
theorem rletter_any (c : Int) (w : World) : Calls Tryd.prog 58 #[.int .u8 c] w (RetS (.bool (ltrI c)) w) := by
  go_enter Tryd.func58, Tryd.ntmps58
  go_wp2
  all_goals go_ret
  all_goals exact ⟨ret_bool (by unfold ltrI; rw [Bool.eq_iff_iff]; simp; try omega), rfl⟩
theorem instant_any (n : Int) (w : World) : Calls Tryd.prog 35 #[.int .i64 n] w (RetS (.bool (isI n)) w) := by
  go_enter Tryd.func35, Tryd.ntmps35
  go_wp2
  all_goals go_ret
  all_goals exact ⟨ret_bool (by unfold isI; rw [Bool.eq_iff_iff]; simp; try omega), rfl⟩
theorem is_any (n : Int) (w : World) : Calls Tryd.prog 36 #[.int .i64 n] w (RetS (.bool (isI n)) w) := by
  go_enter Tryd.func36, Tryd.ntmps36
  go_wp2
  all_goals go_ret
  all_goals exact ⟨ret_bool (by unfold isI; rw [Bool.eq_iff_iff]; simp; try omega), rfl⟩
theorem near_any (n : Int) (w : World) : Calls Tryd.prog 39 #[.int .i64 n] w (RetS (.bool (nearI n)) w) := by
  go_enter Tryd.func39, Tryd.ntmps39
  go_wp2
  all_goals go_ret
  all_goals exact ⟨ret_bool (by unfold nearI; rw [Bool.eq_iff_iff]; simp; try omega), rfl⟩

theorem get_getD (s : ByteArray) (k : Nat) (h : k < s.size) : s.data.toList.getD k 0 = s[k] := by
  have h' : k < s.data.toList.length := h
  simp only [List.getD, List.getElem?_eq_getElem h', Option.getD_some]
  rfl

theorem code_no (s : ByteArray) (h : s.size < 1 ∨ 16 < s.size) (hs : s.size ≤ 9223372036854775807) (w : World) : Calls Tryd.prog 38 #[.string s] w (RetS (.bool (codeOk s.data.toList)) w) := by
  have e : Hid (codeOk s.data.toList = false) := Lib.hid (codeOk_no (by have e : s.data.toList.length = s.size := rfl; omega))
  rcases (show s.size < 1 ∨ (1 ≤ s.size ∧ 16 < s.size) from by omega) with h1 | ⟨h1, h2⟩
  all_goals
    clear h
    go_enter Tryd.func38, Tryd.ntmps38
    go_wp2
    go_ret
    exact ⟨ret_bool e.out.symm, rfl⟩

set_option maxHeartbeats 1000000 in
set_option maxRecDepth 100000 in
theorem code_yes (s : ByteArray) (h1 : 1 ≤ s.size) (h2 : s.size ≤ 16) (w : World) : Calls Tryd.prog 38 #[.string s] w (RetS (.bool (codeOk s.data.toList)) w) := by
  have NO := Lib.hid (fun m (hm : m < s.size) h => codeOk_no (l := s.data.toList) (Or.inr (Or.inr ⟨m, hm, h⟩)))
  have YES := Lib.hid (fun h => codeOk_mk (l := s.data.toList) h1 h2 h)
  have D := Lib.hid (fun c w => digit_any c w)
  have L := Lib.hid (fun c w => letter_any c w)
  go_enter Tryd.func38, Tryd.ntmps38
  go_wp2
  go_loop [3, 4, 15] (fun _ _ i => ∃ j : Nat, j ≤ s.size ∧ i = .int .i64 j ∧ Hid (∀ m, m < j → okAt ((s.data.toList.getD m 0).toNat : Int) m = true)) (fun _ _ i => s.size - (intOf i).toNat)
  case atStart => exact ⟨0, Nat.zero_le _, rfl, Lib.hid (fun m h => by omega)⟩
  case round =>
    obtain ⟨j, hj, rfl, HA⟩ := hrel
    by_cases hlt : j < s.size
    · have hg := get_getD s j hlt
      have hx : (s[j].toNat : Int) < 256 := by have := s[j].toNat_lt; omega
      have NJ := Lib.hid (NO.out j hlt)
      have HN : Hid (okAt (s[j].toNat : Int) j = true → ∀ m, m < j + 1 → okAt ((s.data.toList.getD m 0).toNat : Int) m = true) := Lib.hid (fun h m hm => by
        rcases Nat.lt_or_ge m j with h3 | h3
        · exact HA.out m h3
        · have : m = j := by omega
          rw [this, hg]; exact h)
      rw [hg] at NJ
      clear hg
      have OK : Hid (okAt (s[j].toNat : Int) j = (digI (s[j].toNat : Int) || ltrI (s[j].toNat : Int) || (decide (0 < j) && ((s[j].toNat : Int) == 95 || (s[j].toNat : Int) == 45)))) := Lib.hid rfl
      have D0 : Hid (j ≤ 0 → decide (0 < j) = false) := Lib.hid (fun h => by simp; omega)
      have D1 : Hid (0 < j → decide (0 < j) = true) := Lib.hid (fun h => by simpa using h)
      rcases (show j ≤ 0 ∨ 0 < j from by omega) with h0 | h0
      · have d0 := D0.out h0
        rw [d0] at OK
        clear d0
        cases hd : digI (s[j].toNat : Int) <;> cases hl : ltrI (s[j].toNat : Int)
        · have hk : okAt (s[j].toNat : Int) j = false := by rw [OK.out, hd, hl]; rfl
          have F := Lib.hid (NJ.out hk)
          clear hk
          go_wp2_with (first | (go_at_call 55; refine (D.out _ _).mono ?_; rintro e w' ⟨rfl, rfl⟩) | (go_at_call 56; refine (L.out _ _).mono ?_; rintro e w' ⟨rfl, rfl⟩))
          go_ret
          exact ⟨ret_bool F.out.symm, rfl⟩
        all_goals
          have hk : okAt (s[j].toNat : Int) j = true := by rw [OK.out, hd, hl]; rfl
          have F := Lib.hid (HN.out hk)
          clear hk
          go_wp2_with (first | (go_at_call 55; refine (D.out _ _).mono ?_; rintro e w' ⟨rfl, rfl⟩) | (go_at_call 56; refine (L.out _ _).mono ?_; rintro e w' ⟨rfl, rfl⟩))
          go_round
          case rel => exact ⟨j + 1, by omega, by go_num, F⟩
          case measure => simp [intOf]; omega
      · have d0 := D1.out h0
        rw [d0] at OK
        clear d0
        cases hd : digI (s[j].toNat : Int) <;> cases hl : ltrI (s[j].toNat : Int) <;> cases q1 : ((s[j].toNat : Int) == 95) <;> cases q2 : ((s[j].toNat : Int) == 45)
        · have hk : okAt (s[j].toNat : Int) j = false := by rw [OK.out, hd, hl, q1, q2]; rfl
          have F := Lib.hid (NJ.out hk)
          clear hk
          go_wp2_with (first | (go_at_call 55; refine (D.out _ _).mono ?_; rintro e w' ⟨rfl, rfl⟩) | (go_at_call 56; refine (L.out _ _).mono ?_; rintro e w' ⟨rfl, rfl⟩))
          go_ret
          exact ⟨ret_bool F.out.symm, rfl⟩
        all_goals
          have hk : okAt (s[j].toNat : Int) j = true := by rw [OK.out, hd, hl, q1, q2]; rfl
          have F := Lib.hid (HN.out hk)
          clear hk
          go_wp2_with (first | (go_at_call 55; refine (D.out _ _).mono ?_; rintro e w' ⟨rfl, rfl⟩) | (go_at_call 56; refine (L.out _ _).mono ?_; rintro e w' ⟨rfl, rfl⟩))
          go_round
          case rel => exact ⟨j + 1, by omega, by go_num, F⟩
          case measure => simp [intOf]; omega
    · have F : Hid (codeOk s.data.toList = true) := Lib.hid (YES.out (fun m hm => HA.out m (by have e : s.data.toList.length = s.size := rfl; omega)))
      go_wp2
      go_ret
      exact ⟨ret_bool F.out.symm, rfl⟩

theorem code_any (s : ByteArray) (hs : s.size ≤ 9223372036854775807) (w : World) : Calls Tryd.prog 38 #[.string s] w (RetS (.bool (codeOk s.data.toList)) w) := by
  by_cases h : s.size < 1 ∨ 16 < s.size
  · exact code_no s h hs w
  · exact code_yes s (by omega) (by omega) w

end Go.Proofs.YtllcoocllkaanaaDoor
