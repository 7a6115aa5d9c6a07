import Derived.Test.YtllcoocllkaanaaDoorZ1
namespace Go.Proofs.YtllcoocllkaanaaDoor
open Go.RowKit

theorem rcode_no (s : ByteArray) (h : s.size < 1 ∨ 16 < s.size) (hs : s.size ≤ 9223372036854775807) (w : World) : Calls Tryd.prog 40 #[.string s] w (RetS (.bool (codeOk s.data.toList)) w) := by
  have e : Hid (codeOk s.data.toList = false) := Lib.hid (codeOk_no (by have e : s.data.toList.length = s.size := rfl; omega))
  rcases (show s.size < 1 ∨ (1 ≤ s.size ∧ 16 < s.size) from by omega) with h1 | ⟨h1, h2⟩
  all_goals
    clear h
    go_enter Tryd.func40, Tryd.ntmps40
    go_wp2
    go_ret
    exact ⟨ret_bool e.out.symm, rfl⟩

theorem okAt_sign {c : Int} (h : c = 95 ∨ c = 45) : okAt c 0 = false := by rcases h with rfl | rfl <;> rfl

set_option maxRecDepth 100000 in
theorem rcode_sign (s : ByteArray) (h1 : 1 ≤ s.size) (h2 : s.size ≤ 16) (h : ((s[0].toNat : Int) == 95) = true ∨ (((s[0].toNat : Int) == 95) = false ∧ ((s[0].toNat : Int) == 45) = true)) (w : World) : Calls Tryd.prog 40 #[.string s] w (RetS (.bool (codeOk s.data.toList)) w) := by
  have hp : 0 < s.size := by omega
  have e : Hid (codeOk s.data.toList = false) := Lib.hid (codeOk_no (Or.inr (Or.inr ⟨0, h1, by
    rw [get_getD s 0 h1]
    refine okAt_sign ?_
    rcases h with h | ⟨_, h⟩
    · exact Or.inl (by simpa using h)
    · exact Or.inr (by simpa using h)⟩)))
  rcases h with q1 | ⟨q1, q2⟩
  all_goals
    go_enter Tryd.func40, Tryd.ntmps40
    go_wp2
    go_ret
    exact ⟨ret_bool e.out.symm, rfl⟩

set_option maxRecDepth 100000 in
theorem rcode_yes (s : ByteArray) (h1 : 1 ≤ s.size) (h2 : s.size ≤ 16) (p1 : ((s[0].toNat : Int) == 95) = false) (p2 : ((s[0].toNat : Int) == 45) = false) (w : World) : Calls Tryd.prog 40 #[.string s] w (RetS (.bool (codeOk s.data.toList)) w) := by
  have hp : 0 < s.size := by omega
  have NO := Lib.hid (fun m (hm : m < s.size) h => codeOk_no (l := s.data.toList) (Or.inr (Or.inr ⟨m, hm, h⟩)))
  have YES := Lib.hid (fun h => codeOk_mk (l := s.data.toList) h1 h2 h)
  have D := Lib.hid (fun c w => rdigit_any c w)
  have L := Lib.hid (fun c w => rletter_any c w)
  have P : Hid (∀ j (h : j < s.size), (((s[j].toNat : Int) == 95) = true ∨ ((s[j].toNat : Int) == 45) = true) → 0 < j) := Lib.hid (fun j h hq => by
    rcases Nat.eq_zero_or_pos j with h0 | h0
    · subst h0
      rcases hq with hq | hq
      · rw [hq] at p1; cases p1
      · rw [hq] at p2; cases p2
    · exact h0)
  go_enter Tryd.func40, Tryd.ntmps40
  go_wp2
  clear p1 p2
  go_loop [3] (fun i => ∃ j : Nat, j ≤ s.size ∧ i = .int .i64 j ∧ Hid (∀ m, m < j → okAt ((s.data.toList.getD m 0).toNat : Int) m = true)) (fun i => s.size - (intOf i).toNat)
  case atStart => exact ⟨0, Nat.zero_le _, rfl, Lib.hid (fun m h => by omega)⟩
  case round =>
    obtain ⟨j, hj, rfl, HA⟩ := hrel
    by_cases hlt : j < s.size
    · have hg := get_getD s j hlt
      have hx : (s[j].toNat : Int) < 256 := by have := s[j].toNat_lt; omega
      have NJ := Lib.hid (NO.out j hlt)
      have HN : Hid (okAt (s[j].toNat : Int) j = true → ∀ m, m < j + 1 → okAt ((s.data.toList.getD m 0).toNat : Int) m = true) := Lib.hid (fun h m hm => by
        rcases Nat.lt_or_ge m j with h3 | h3
        · exact HA.out m h3
        · have : m = j := by omega
          rw [this, hg]; exact h)
      rw [hg] at NJ
      clear hg
      have PJ := Lib.hid (P.out j hlt)
      have OK : Hid (okAt (s[j].toNat : Int) j = (digI (s[j].toNat : Int) || ltrI (s[j].toNat : Int) || (decide (0 < j) && ((s[j].toNat : Int) == 95 || (s[j].toNat : Int) == 45)))) := Lib.hid rfl
      cases hd : digI (s[j].toNat : Int) <;> cases hl : ltrI (s[j].toNat : Int)
      · cases q1 : ((s[j].toNat : Int) == 95) <;> cases q2 : ((s[j].toNat : Int) == 45)
        · have hk : okAt (s[j].toNat : Int) j = false := by rw [OK.out, hd, hl, q1, q2]; simp
          have F := Lib.hid (NJ.out hk)
          have q1' : ((s[j].toNat : Int) != 95) = true := by rw [bne, q1]; rfl
          have q2' : ((s[j].toNat : Int) != 45) = true := by rw [bne, q2]; rfl
          clear hk
          go_wp2_with (first | (go_at_call 57; refine (D.out _ _).mono ?_; rintro e w' ⟨rfl, rfl⟩) | (go_at_call 58; refine (L.out _ _).mono ?_; rintro e w' ⟨rfl, rfl⟩))
          go_ret
          exact ⟨ret_bool F.out.symm, rfl⟩
        · have q1' : ((s[j].toNat : Int) != 95) = true := by rw [bne, q1]; rfl
          have q2' : ((s[j].toNat : Int) != 45) = false := by rw [bne, q2]; rfl
          have h0 : 0 < j := PJ.out (Or.inr q2)
          have hk : okAt (s[j].toNat : Int) j = true := by rw [OK.out, hd, hl, q1, q2]; simpa using h0
          have F := Lib.hid (HN.out hk)
          clear hk
          go_wp2_with (first | (go_at_call 57; refine (D.out _ _).mono ?_; rintro e w' ⟨rfl, rfl⟩) | (go_at_call 58; refine (L.out _ _).mono ?_; rintro e w' ⟨rfl, rfl⟩))
          go_round
          case rel => exact ⟨j + 1, by omega, by go_num, F⟩
          case measure => simp [intOf]; omega
        all_goals
          have q1' : ((s[j].toNat : Int) != 95) = false := by rw [bne, q1]; rfl
          have h0 : 0 < j := PJ.out (Or.inl q1)
          have hk : okAt (s[j].toNat : Int) j = true := by rw [OK.out, hd, hl, q1, q2]; simpa using h0
          have F := Lib.hid (HN.out hk)
          clear hk
          go_wp2_with (first | (go_at_call 57; refine (D.out _ _).mono ?_; rintro e w' ⟨rfl, rfl⟩) | (go_at_call 58; refine (L.out _ _).mono ?_; rintro e w' ⟨rfl, rfl⟩))
          go_round
          case rel => exact ⟨j + 1, by omega, by go_num, F⟩
          case measure => simp [intOf]; omega
      all_goals
        have hk : okAt (s[j].toNat : Int) j = true := by rw [OK.out, hd, hl]; rfl
        have F := Lib.hid (HN.out hk)
        clear hk
        go_wp2_with (first | (go_at_call 57; refine (D.out _ _).mono ?_; rintro e w' ⟨rfl, rfl⟩) | (go_at_call 58; refine (L.out _ _).mono ?_; rintro e w' ⟨rfl, rfl⟩))
        go_round
        case rel => exact ⟨j + 1, by omega, by go_num, F⟩
        case measure => simp [intOf]; omega
    · have F : Hid (codeOk s.data.toList = true) := Lib.hid (YES.out (fun m hm => HA.out m (by have e : s.data.toList.length = s.size := rfl; omega)))
      go_wp2
      go_ret
      exact ⟨ret_bool F.out.symm, rfl⟩

theorem rcode_any (s : ByteArray) (hs : s.size ≤ 9223372036854775807) (w : World) : Calls Tryd.prog 40 #[.string s] w (RetS (.bool (codeOk s.data.toList)) w) := by
  by_cases h : s.size < 1 ∨ 16 < s.size
  · exact rcode_no s h hs w
  · cases q1 : ((s[0].toNat : Int) == 95)
    · cases q2 : ((s[0].toNat : Int) == 45)
      · exact rcode_yes s (by omega) (by omega) q1 q2 w
      · exact rcode_sign s (by omega) (by omega) (Or.inr ⟨q1, q2⟩) w
    · exact rcode_sign s (by omega) (by omega) (Or.inl q1) w

end Go.Proofs.YtllcoocllkaanaaDoor
