/- Texts Codes, V1, V2, joined: walks and laws for the versions. -/
import Derived.Test.YtihbpggbpapcfaaGreatDoorM01
import Derived.Test.YtihbpggbpapcfaaGreatDoorProg
namespace Go.Proofs.YtihbpggbpapcfaaGreatDoor
open Go.RowKit

def digI (c : Int) : Bool := decide (48 ≤ c) && decide (c ≤ 57)
def ltrI (c : Int) : Bool := (decide (65 ≤ c) && decide (c ≤ 90)) || (decide (97 ≤ c) && decide (c ≤ 122))
def okAt (c : Int) (m : Nat) : Bool := digI c || ltrI c || (decide (0 < m) && (c == 95 || c == 45))
def codeOk (l : L8) : Bool := decide (1 ≤ l.length ∧ l.length ≤ 16 ∧ ∀ m, m < l.length → okAt ((l.getD m 0).toNat : Int) m = true)

theorem codeOk_of {l : L8} (h : codeOk l = true) : 1 ≤ l.length ∧ l.length ≤ 16 ∧ ∀ m, m < l.length → okAt ((l.getD m 0).toNat : Int) m = true := of_decide_eq_true h
theorem codeOk_mk {l : L8} (h1 : 1 ≤ l.length) (h2 : l.length ≤ 16) (h3 : ∀ m, m < l.length → okAt ((l.getD m 0).toNat : Int) m = true) : codeOk l = true := decide_eq_true ⟨h1, h2, h3⟩
theorem codeOk_no {l : L8} (h : l.length < 1 ∨ 16 < l.length ∨ ∃ m, m < l.length ∧ okAt ((l.getD m 0).toNat : Int) m = false) : codeOk l = false := by
  apply decide_eq_false
  rintro ⟨h1, h2, h3⟩
  rcases h with h | h | ⟨m, hm, h⟩
  · omega
  · omega
  · rw [h3 m hm] at h; cases h

theorem digit_any (c : Int) (w : World) : Calls Tryz.prog 121 #[.int .u8 c] w (RetS (.bool (digI c)) w) := by
  go_enter Tryz.func121, Tryz.ntmps121
  go_wp2
  all_goals go_ret
  all_goals exact ⟨ret_bool (by unfold digI; rw [Bool.eq_iff_iff]; simp; try omega), rfl⟩
theorem rdigit_any (c : Int) (w : World) : Calls Tryz.prog 132 #[.int .u8 c] w (RetS (.bool (digI c)) w) := by
  go_enter Tryz.func132, Tryz.ntmps132
  go_wp2
  all_goals go_ret
  all_goals exact ⟨ret_bool (by unfold digI; rw [Bool.eq_iff_iff]; simp; try omega), rfl⟩
theorem letter_any (c : Int) (w : World) : Calls Tryz.prog 122 #[.int .u8 c] w (RetS (.bool (ltrI c)) w) := by
  go_enter Tryz.func122, Tryz.ntmps122
  go_wp2
  all_goals go_ret
  all_goals exact ⟨ret_bool (by unfold ltrI; rw [Bool.eq_iff_iff]; simp; try omega), rfl⟩
theorem rletter_any (c : Int) (w : World) : Calls Tryz.prog 133 #[.int .u8 c] w (RetS (.bool (ltrI c)) w) := by
  go_enter Tryz.func133, Tryz.ntmps133
  go_wp2
  all_goals go_ret
  all_goals exact ⟨ret_bool (by unfold ltrI; rw [Bool.eq_iff_iff]; simp; try omega), rfl⟩

theorem get_getD (s : ByteArray) (k : Nat) (h : k < s.size) : s.data.toList.getD k 0 = s[k] := by
  have h' : k < s.data.toList.length := h
  simp only [List.getD, List.getElem?_eq_getElem h', Option.getD_some]
  rfl

theorem code_no (s : ByteArray) (h : s.size < 1 ∨ 16 < s.size) (hs : s.size ≤ 9223372036854775807) (w : World) : Calls Tryz.prog 86 #[.string s] w (RetS (.bool (codeOk s.data.toList)) w) := by
  have e : Hid (codeOk s.data.toList = false) := Lib.hid (codeOk_no (by have e : s.data.toList.length = s.size := rfl; omega))
  rcases (show s.size < 1 ∨ (1 ≤ s.size ∧ 16 < s.size) from by omega) with h1 | ⟨h1, h2⟩
  all_goals
    clear h
    go_enter Tryz.func86, Tryz.ntmps86
    go_wp2
    go_ret
    exact ⟨ret_bool e.out.symm, rfl⟩

set_option maxHeartbeats 1000000 in
set_option maxRecDepth 100000 in
theorem code_yes (s : ByteArray) (h1 : 1 ≤ s.size) (h2 : s.size ≤ 16) (w : World) : Calls Tryz.prog 86 #[.string s] w (RetS (.bool (codeOk s.data.toList)) w) := by
  have NO := Lib.hid (fun m (hm : m < s.size) h => codeOk_no (l := s.data.toList) (Or.inr (Or.inr ⟨m, hm, h⟩)))
  have YES := Lib.hid (fun h => codeOk_mk (l := s.data.toList) h1 h2 h)
  have D := Lib.hid (fun c w => digit_any c w)
  have L := Lib.hid (fun c w => letter_any c w)
  go_enter Tryz.func86, Tryz.ntmps86
  go_wp2
  go_loop [3, 4, 15] (fun _ _ i => ∃ j : Nat, j ≤ s.size ∧ i = .int .i64 j ∧ Hid (∀ m, m < j → okAt ((s.data.toList.getD m 0).toNat : Int) m = true)) (fun _ _ i => s.size - (intOf i).toNat)
  case atStart => exact ⟨0, Nat.zero_le _, rfl, Lib.hid (fun m h => by omega)⟩
  case round =>
    obtain ⟨j, hj, rfl, HA⟩ := hrel
    by_cases hlt : j < s.size
    · have hg := get_getD s j hlt
      have hx : (s[j].toNat : Int) < 256 := by have := s[j].toNat_lt; omega
      have NJ := Lib.hid (NO.out j hlt)
      have HN : Hid (okAt (s[j].toNat : Int) j = true → ∀ m, m < j + 1 → okAt ((s.data.toList.getD m 0).toNat : Int) m = true) := Lib.hid (fun h m hm => by
        rcases Nat.lt_or_ge m j with h3 | h3
        · exact HA.out m h3
        · have : m = j := by omega
          rw [this, hg]; exact h)
      rw [hg] at NJ
      clear hg
      have OK : Hid (okAt (s[j].toNat : Int) j = (digI (s[j].toNat : Int) || ltrI (s[j].toNat : Int) || (decide (0 < j) && ((s[j].toNat : Int) == 95 || (s[j].toNat : Int) == 45)))) := Lib.hid rfl
      have D0 : Hid (j ≤ 0 → decide (0 < j) = false) := Lib.hid (fun h => by simp; omega)
      have D1 : Hid (0 < j → decide (0 < j) = true) := Lib.hid (fun h => by simpa using h)
      rcases (show j ≤ 0 ∨ 0 < j from by omega) with h0 | h0
      · have d0 := D0.out h0
        rw [d0] at OK
        clear d0
        cases hd : digI (s[j].toNat : Int) <;> cases hl : ltrI (s[j].toNat : Int)
        · have hk : okAt (s[j].toNat : Int) j = false := by rw [OK.out, hd, hl]; rfl
          have F := Lib.hid (NJ.out hk)
          clear hk
          go_wp2_with (first | (go_at_call 121; refine (D.out _ _).mono ?_; rintro e w' ⟨rfl, rfl⟩) | (go_at_call 122; refine (L.out _ _).mono ?_; rintro e w' ⟨rfl, rfl⟩))
          go_ret
          exact ⟨ret_bool F.out.symm, rfl⟩
        all_goals
          have hk : okAt (s[j].toNat : Int) j = true := by rw [OK.out, hd, hl]; rfl
          have F := Lib.hid (HN.out hk)
          clear hk
          go_wp2_with (first | (go_at_call 121; refine (D.out _ _).mono ?_; rintro e w' ⟨rfl, rfl⟩) | (go_at_call 122; refine (L.out _ _).mono ?_; rintro e w' ⟨rfl, rfl⟩))
          go_round
          case rel => exact ⟨j + 1, by omega, by go_num, F⟩
          case measure => simp [intOf]; omega
      · have d0 := D1.out h0
        rw [d0] at OK
        clear d0
        cases hd : digI (s[j].toNat : Int) <;> cases hl : ltrI (s[j].toNat : Int) <;> cases q1 : ((s[j].toNat : Int) == 95) <;> cases q2 : ((s[j].toNat : Int) == 45)
        · have hk : okAt (s[j].toNat : Int) j = false := by rw [OK.out, hd, hl, q1, q2]; rfl
          have F := Lib.hid (NJ.out hk)
          clear hk
          go_wp2_with (first | (go_at_call 121; refine (D.out _ _).mono ?_; rintro e w' ⟨rfl, rfl⟩) | (go_at_call 122; refine (L.out _ _).mono ?_; rintro e w' ⟨rfl, rfl⟩))
          go_ret
          exact ⟨ret_bool F.out.symm, rfl⟩
        all_goals
          have hk : okAt (s[j].toNat : Int) j = true := by rw [OK.out, hd, hl, q1, q2]; rfl
          have F := Lib.hid (HN.out hk)
          clear hk
          go_wp2_with (first | (go_at_call 121; refine (D.out _ _).mono ?_; rintro e w' ⟨rfl, rfl⟩) | (go_at_call 122; refine (L.out _ _).mono ?_; rintro e w' ⟨rfl, rfl⟩))
          go_round
          case rel => exact ⟨j + 1, by omega, by go_num, F⟩
          case measure => simp [intOf]; omega
    · have F : Hid (codeOk s.data.toList = true) := Lib.hid (YES.out (fun m hm => HA.out m (by have e : s.data.toList.length = s.size := rfl; omega)))
      go_wp2
      go_ret
      exact ⟨ret_bool F.out.symm, rfl⟩

theorem code_any (s : ByteArray) (hs : s.size ≤ 9223372036854775807) (w : World) : Calls Tryz.prog 86 #[.string s] w (RetS (.bool (codeOk s.data.toList)) w) := by
  by_cases h : s.size < 1 ∨ 16 < s.size
  · exact code_no s h hs w
  · exact code_yes s (by omega) (by omega) w

theorem rcode_no (s : ByteArray) (h : s.size < 1 ∨ 16 < s.size) (hs : s.size ≤ 9223372036854775807) (w : World) : Calls Tryz.prog 94 #[.string s] w (RetS (.bool (codeOk s.data.toList)) w) := by
  have e : Hid (codeOk s.data.toList = false) := Lib.hid (codeOk_no (by have e : s.data.toList.length = s.size := rfl; omega))
  rcases (show s.size < 1 ∨ (1 ≤ s.size ∧ 16 < s.size) from by omega) with h1 | ⟨h1, h2⟩
  all_goals
    clear h
    go_enter Tryz.func94, Tryz.ntmps94
    go_wp2
    go_ret
    exact ⟨ret_bool e.out.symm, rfl⟩

theorem okAt_sign {c : Int} (h : c = 95 ∨ c = 45) : okAt c 0 = false := by rcases h with rfl | rfl <;> rfl

set_option maxRecDepth 100000 in
theorem rcode_sign (s : ByteArray) (h1 : 1 ≤ s.size) (h2 : s.size ≤ 16) (h : ((s[0].toNat : Int) == 95) = true ∨ (((s[0].toNat : Int) == 95) = false ∧ ((s[0].toNat : Int) == 45) = true)) (w : World) : Calls Tryz.prog 94 #[.string s] w (RetS (.bool (codeOk s.data.toList)) w) := by
  have hp : 0 < s.size := by omega
  have e : Hid (codeOk s.data.toList = false) := Lib.hid (codeOk_no (Or.inr (Or.inr ⟨0, h1, by
    rw [get_getD s 0 h1]
    refine okAt_sign ?_
    rcases h with h | ⟨_, h⟩
    · exact Or.inl (by simpa using h)
    · exact Or.inr (by simpa using h)⟩)))
  rcases h with q1 | ⟨q1, q2⟩
  all_goals
    go_enter Tryz.func94, Tryz.ntmps94
    go_wp2
    go_ret
    exact ⟨ret_bool e.out.symm, rfl⟩

set_option maxRecDepth 100000 in
theorem rcode_yes (s : ByteArray) (h1 : 1 ≤ s.size) (h2 : s.size ≤ 16) (p1 : ((s[0].toNat : Int) == 95) = false) (p2 : ((s[0].toNat : Int) == 45) = false) (w : World) : Calls Tryz.prog 94 #[.string s] w (RetS (.bool (codeOk s.data.toList)) w) := by
  have hp : 0 < s.size := by omega
  have NO := Lib.hid (fun m (hm : m < s.size) h => codeOk_no (l := s.data.toList) (Or.inr (Or.inr ⟨m, hm, h⟩)))
  have YES := Lib.hid (fun h => codeOk_mk (l := s.data.toList) h1 h2 h)
  have D := Lib.hid (fun c w => rdigit_any c w)
  have L := Lib.hid (fun c w => rletter_any c w)
  have P : Hid (∀ j (h : j < s.size), (((s[j].toNat : Int) == 95) = true ∨ ((s[j].toNat : Int) == 45) = true) → 0 < j) := Lib.hid (fun j h hq => by
    rcases Nat.eq_zero_or_pos j with h0 | h0
    · subst h0
      rcases hq with hq | hq
      · rw [hq] at p1; cases p1
      · rw [hq] at p2; cases p2
    · exact h0)
  go_enter Tryz.func94, Tryz.ntmps94
  go_wp2
  clear p1 p2
  go_loop [3] (fun i => ∃ j : Nat, j ≤ s.size ∧ i = .int .i64 j ∧ Hid (∀ m, m < j → okAt ((s.data.toList.getD m 0).toNat : Int) m = true)) (fun i => s.size - (intOf i).toNat)
  case atStart => exact ⟨0, Nat.zero_le _, rfl, Lib.hid (fun m h => by omega)⟩
  case round =>
    obtain ⟨j, hj, rfl, HA⟩ := hrel
    by_cases hlt : j < s.size
    · have hg := get_getD s j hlt
      have hx : (s[j].toNat : Int) < 256 := by have := s[j].toNat_lt; omega
      have NJ := Lib.hid (NO.out j hlt)
      have HN : Hid (okAt (s[j].toNat : Int) j = true → ∀ m, m < j + 1 → okAt ((s.data.toList.getD m 0).toNat : Int) m = true) := Lib.hid (fun h m hm => by
        rcases Nat.lt_or_ge m j with h3 | h3
        · exact HA.out m h3
        · have : m = j := by omega
          rw [this, hg]; exact h)
      rw [hg] at NJ
      clear hg
      have PJ := Lib.hid (P.out j hlt)
      have OK : Hid (okAt (s[j].toNat : Int) j = (digI (s[j].toNat : Int) || ltrI (s[j].toNat : Int) || (decide (0 < j) && ((s[j].toNat : Int) == 95 || (s[j].toNat : Int) == 45)))) := Lib.hid rfl
      cases hd : digI (s[j].toNat : Int) <;> cases hl : ltrI (s[j].toNat : Int)
      · cases q1 : ((s[j].toNat : Int) == 95) <;> cases q2 : ((s[j].toNat : Int) == 45)
        · have hk : okAt (s[j].toNat : Int) j = false := by rw [OK.out, hd, hl, q1, q2]; simp
          have F := Lib.hid (NJ.out hk)
          have q1' : ((s[j].toNat : Int) != 95) = true := by rw [bne, q1]; rfl
          have q2' : ((s[j].toNat : Int) != 45) = true := by rw [bne, q2]; rfl
          clear hk
          go_wp2_with (first | (go_at_call 132; refine (D.out _ _).mono ?_; rintro e w' ⟨rfl, rfl⟩) | (go_at_call 133; refine (L.out _ _).mono ?_; rintro e w' ⟨rfl, rfl⟩))
          go_ret
          exact ⟨ret_bool F.out.symm, rfl⟩
        · have q1' : ((s[j].toNat : Int) != 95) = true := by rw [bne, q1]; rfl
          have q2' : ((s[j].toNat : Int) != 45) = false := by rw [bne, q2]; rfl
          have h0 : 0 < j := PJ.out (Or.inr q2)
          have hk : okAt (s[j].toNat : Int) j = true := by rw [OK.out, hd, hl, q1, q2]; simpa using h0
          have F := Lib.hid (HN.out hk)
          clear hk
          go_wp2_with (first | (go_at_call 132; refine (D.out _ _).mono ?_; rintro e w' ⟨rfl, rfl⟩) | (go_at_call 133; refine (L.out _ _).mono ?_; rintro e w' ⟨rfl, rfl⟩))
          go_round
          case rel => exact ⟨j + 1, by omega, by go_num, F⟩
          case measure => simp [intOf]; omega
        all_goals
          have q1' : ((s[j].toNat : Int) != 95) = false := by rw [bne, q1]; rfl
          have h0 : 0 < j := PJ.out (Or.inl q1)
          have hk : okAt (s[j].toNat : Int) j = true := by rw [OK.out, hd, hl, q1, q2]; simpa using h0
          have F := Lib.hid (HN.out hk)
          clear hk
          go_wp2_with (first | (go_at_call 132; refine (D.out _ _).mono ?_; rintro e w' ⟨rfl, rfl⟩) | (go_at_call 133; refine (L.out _ _).mono ?_; rintro e w' ⟨rfl, rfl⟩))
          go_round
          case rel => exact ⟨j + 1, by omega, by go_num, F⟩
          case measure => simp [intOf]; omega
      all_goals
        have hk : okAt (s[j].toNat : Int) j = true := by rw [OK.out, hd, hl]; rfl
        have F := Lib.hid (HN.out hk)
        clear hk
        go_wp2_with (first | (go_at_call 132; refine (D.out _ _).mono ?_; rintro e w' ⟨rfl, rfl⟩) | (go_at_call 133; refine (L.out _ _).mono ?_; rintro e w' ⟨rfl, rfl⟩))
        go_round
        case rel => exact ⟨j + 1, by omega, by go_num, F⟩
        case measure => simp [intOf]; omega
    · have F : Hid (codeOk s.data.toList = true) := Lib.hid (YES.out (fun m hm => HA.out m (by have e : s.data.toList.length = s.size := rfl; omega)))
      go_wp2
      go_ret
      exact ⟨ret_bool F.out.symm, rfl⟩

theorem rcode_any (s : ByteArray) (hs : s.size ≤ 9223372036854775807) (w : World) : Calls Tryz.prog 94 #[.string s] w (RetS (.bool (codeOk s.data.toList)) w) := by
  by_cases h : s.size < 1 ∨ 16 < s.size
  · exact rcode_no s h hs w
  · cases q1 : ((s[0].toNat : Int) == 95)
    · cases q2 : ((s[0].toNat : Int) == 45)
      · exact rcode_yes s (by omega) (by omega) q1 q2 w
      · exact rcode_sign s (by omega) (by omega) (Or.inr ⟨q1, q2⟩) w
    · exact rcode_sign s (by omega) (by omega) (Or.inl q1) w
end Go.Proofs.YtihbpggbpapcfaaGreatDoor

namespace Go.Proofs.YtihbpggbpapcfaaGreatDoor
open Go.RowKit

def wsB (set n : Int) : Bool := decide (1 ≤ n ∧ n ≤ 20 ∧ 1 ≤ set ∧ set < 2 ^ n.toNat)
def sndB (wk dy st ln : Int) : Bool := wsB wk 20 && decide (0 ≤ dy ∧ dy ≤ 6 ∧ 0 ≤ st ∧ st ≤ 23 ∧ 1 ≤ ln ∧ st + ln ≤ 24)
theorem wsB_20 (set : Int) : wsB set 20 = decide (1 ≤ set ∧ set < 1048576) := by
  unfold wsB; rw [Bool.eq_iff_iff]; simp
theorem n20 {n : Int} (h1 : 1 ≤ n) (h2 : n ≤ 20) : n = 1 ∨ n = 2 ∨ n = 3 ∨ n = 4 ∨ n = 5 ∨ n = 6 ∨ n = 7 ∨ n = 8 ∨ n = 9 ∨ n = 10 ∨ n = 11 ∨ n = 12 ∨ n = 13 ∨ n = 14 ∨ n = 15 ∨ n = 16 ∨ n = 17 ∨ n = 18 ∨ n = 19 ∨ n = 20 := by omega

theorem ws_any (set n : Int) (w : World) : Calls Tryz.prog 141 #[.int .i64 set, .int .i64 n] w (RetS (.bool (wsB set n)) w) := by
  by_cases h : 1 ≤ n ∧ n ≤ 20
  · obtain ⟨h1, h2⟩ := h
    rcases n20 h1 h2 with rfl | rfl | rfl | rfl | rfl | rfl | rfl | rfl | rfl | rfl | rfl | rfl | rfl | rfl | rfl | rfl | rfl | rfl | rfl | rfl
    all_goals
      clear h1 h2
      go_enter Tryz.func141, Tryz.ntmps141
      go_wp2
      all_goals go_ret
      all_goals exact ⟨ret_bool (by unfold wsB; rw [Bool.eq_iff_iff]; simp; try omega), rfl⟩
  · have e : Hid (wsB set n = false) := Lib.hid (by unfold wsB; simp; omega)
    rcases (show n < 1 ∨ (1 ≤ n ∧ 20 < n) by omega) with h1 | ⟨h1, h2⟩
    all_goals
      clear h
      go_enter Tryz.func141, Tryz.ntmps141
      go_wp2
      all_goals go_ret
      all_goals exact ⟨ret_bool e.out.symm, rfl⟩

theorem rws_any (set n : Int) (w : World) : Calls Tryz.prog 138 #[.int .i64 set, .int .i64 n] w (RetS (.bool (wsB set n)) w) := by
  by_cases h : 1 ≤ n ∧ n ≤ 20
  · obtain ⟨h1, h2⟩ := h
    rcases n20 h1 h2 with rfl | rfl | rfl | rfl | rfl | rfl | rfl | rfl | rfl | rfl | rfl | rfl | rfl | rfl | rfl | rfl | rfl | rfl | rfl | rfl
    all_goals
      clear h1 h2
      go_enter Tryz.func138, Tryz.ntmps138
      go_wp2
      all_goals go_ret
      all_goals exact ⟨ret_bool (by unfold wsB; rw [Bool.eq_iff_iff]; simp; try omega), rfl⟩
  · have e : Hid (wsB set n = false) := Lib.hid (by unfold wsB; simp; omega)
    rcases (show n < 1 ∨ (1 ≤ n ∧ 20 < n) by omega) with h1 | ⟨h1, h2⟩
    all_goals
      clear h
      go_enter Tryz.func138, Tryz.ntmps138
      go_wp2
      all_goals go_ret
      all_goals exact ⟨ret_bool e.out.symm, rfl⟩

abbrev timV (wk dy st ln : Int) : Value := .agg #[.int .i64 wk, .int .i64 dy, .int .i64 st, .int .i64 ln]
end Go.Proofs.YtihbpggbpapcfaaGreatDoor

namespace Go.Proofs.YtihbpggbpapcfaaGreatDoor
open Go.RowKit

set_option maxRecDepth 100000 in
set_option maxHeartbeats 1000000 in
theorem sound_any (wk dy st ln : Int) (_h1 : -9223372036854775808 ≤ st) (_h2 : st ≤ 9223372036854775807) (w : World) : Calls Tryz.prog 140 #[timV wk dy st ln] w (RetB (.bool (sndB wk dy st ln)) w) := by
  have HB := Lib.hid (show Below w.heap.size w (w.alloc (.cells #[.int .i64 wk, .int .i64 dy, .int .i64 st, .int .i64 ln] 93)) from (Below.refl _ _).alloc (Nat.le_refl _) _)
  have HS : Hid (sndB wk dy st ln = (wsB wk 20 && decide (0 ≤ dy ∧ dy ≤ 6 ∧ 0 ≤ st ∧ st ≤ 23 ∧ 1 ≤ ln ∧ st + ln ≤ 24))) := Lib.hid rfl
  have HW := Lib.hid (fun W => ws_any wk 20 W)
  by_cases hc : 0 ≤ st ∧ st ≤ 23 ∧ 1 ≤ ln ∧ st + ln ≤ 24
  · obtain ⟨g1, g2, g3, g4⟩ := hc
    cases hw : wsB wk 20
    · rw [hw] at HW HS
      have HF : Hid (sndB wk dy st ln = false) := Lib.hid (by rw [HS.out]; rfl)
      clear hw HS
      go_enter Tryz.func140, Tryz.ntmps140
      go_wp2_with (go_at_call 141; refine (HW.out _).mono ?_; rintro e w' ⟨rfl, rfl⟩)
      all_goals go_ret
      all_goals exact ⟨ret_bool HF.out.symm, HB.out⟩
    · rw [hw] at HW HS
      have HF : Hid (sndB wk dy st ln = decide (0 ≤ dy ∧ dy ≤ 6)) := Lib.hid (by rw [HS.out, Bool.eq_iff_iff]; simp; omega)
      clear hw HS
      go_enter Tryz.func140, Tryz.ntmps140
      go_wp2_with (go_at_call 141; refine (HW.out _).mono ?_; rintro e w' ⟨rfl, rfl⟩)
      all_goals go_ret
      all_goals exact ⟨ret_bool (by rw [HF.out, Bool.eq_iff_iff]; simp; try omega), HB.out⟩
  · have HF : Hid (sndB wk dy st ln = false) := Lib.hid (by rw [HS.out]; simp; omega)
    have hb2 : Hid (wsB wk 20 = true ∨ wsB wk 20 = false) := Lib.hid (by cases wsB wk 20 <;> simp)
    clear HS
    rcases (show st < 0 ∨ (0 ≤ st ∧ 23 < st) ∨ (0 ≤ st ∧ st ≤ 23 ∧ ln < 1) ∨ (0 ≤ st ∧ st ≤ 23 ∧ 1 ≤ ln ∧ 24 < st + ln) by omega) with h | ⟨h, h'⟩ | ⟨h, h', h''⟩ | ⟨h, h', h'', h'''⟩
    all_goals
      clear hc
      generalize wsB wk 20 = bw at *
      cases bw
      all_goals
        go_enter Tryz.func140, Tryz.ntmps140
        go_wp2_with (go_at_call 141; refine (HW.out _).mono ?_; rintro e w' ⟨rfl, rfl⟩)
        all_goals go_ret
        all_goals exact ⟨ret_bool (by rw [HF.out]; try (simp; omega)), HB.out⟩

set_option maxRecDepth 100000 in
set_option maxHeartbeats 1000000 in
theorem rsound_any (wk dy st ln : Int) (w : World) : Calls Tryz.prog 137 #[timV wk dy st ln] w (RetB (.bool (sndB wk dy st ln)) w) := by
  have HB := Lib.hid (show Below w.heap.size w (w.alloc (.cells #[.int .i64 wk, .int .i64 dy, .int .i64 st, .int .i64 ln] 93)) from (Below.refl _ _).alloc (Nat.le_refl _) _)
  have HS : Hid (sndB wk dy st ln = (wsB wk 20 && decide (0 ≤ dy ∧ dy ≤ 6 ∧ 0 ≤ st ∧ st ≤ 23 ∧ 1 ≤ ln ∧ st + ln ≤ 24))) := Lib.hid rfl
  have HW := Lib.hid (fun W => rws_any wk 20 W)
  cases hw : wsB wk 20
  · rw [hw] at HW HS
    have HF : Hid (sndB wk dy st ln = false) := Lib.hid (by rw [HS.out]; rfl)
    clear hw HS
    go_enter Tryz.func137, Tryz.ntmps137
    go_wp2_with (go_at_call 138; refine (HW.out _).mono ?_; rintro e w' ⟨rfl, rfl⟩)
    all_goals go_ret
    all_goals exact ⟨ret_bool HF.out.symm, HB.out⟩
  · rw [hw] at HW HS
    have HF : Hid (sndB wk dy st ln = decide (0 ≤ dy ∧ dy ≤ 6 ∧ 0 ≤ st ∧ st ≤ 23 ∧ 1 ≤ ln ∧ st + ln ≤ 24)) := Lib.hid (by rw [HS.out]; rfl)
    clear hw HS
    go_enter Tryz.func137, Tryz.ntmps137
    go_wp2_with (go_at_call 138; refine (HW.out _).mono ?_; rintro e w' ⟨rfl, rfl⟩)
    all_goals go_ret
    all_goals exact ⟨ret_bool (by rw [HF.out, Bool.eq_iff_iff]; simp; try omega), HB.out⟩
end Go.Proofs.YtihbpggbpapcfaaGreatDoor
