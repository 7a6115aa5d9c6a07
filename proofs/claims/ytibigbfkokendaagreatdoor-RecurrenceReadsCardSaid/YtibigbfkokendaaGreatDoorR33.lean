/- Series: weekdays and dates, read by the program. -/
import Derived.Test.YtibigbfkokendaaGreatDoorR21
import Derived.Test.YtibigbfkokendaaGreatDoorR11
import Derived.Test.YtibigbfkokendaaGreatDoorR31
import Derived.Test.YtibigbfkokendaaGreatDoorShelf
namespace Go.Proofs.YtibigbfkokendaaGreatDoor
open Go.RowKit TT

theorem cut_any (t p : L8) (w : World) : Calls Tryz.prog 29 #[.string (arr t), .string (arr p)] w (fun e w' => e = .returned (.tuple #[.string (arr (Lib.trimPrefix t p)), .bool (Lib.hasPrefix t p)]) ∧ w' = w) := Tryz.strings_CutPrefix (arr t) (arr p) w
theorem ret_two_v {a a' : Value} {b b' : Value} (h : a = a') (h' : b = b') : Ending.returned (.tuple #[a, b]) = .returned (.tuple #[a', b']) := by rw [h, h']
theorem wk_no {r : Nat} {set : Int} {s : L8} (h : Lib.hasPrefix s (nmL (6 - r)) = false) : wk (r + 1) set s = wk r set s := by
  rw [wk, if_neg (by rw [h]; simp)]
theorem wk_end {r : Nat} {set : Int} {s : L8} (h : Lib.hasPrefix s (nmL (6 - r)) = true) (h2 : Lib.hasPrefix (Lib.trimPrefix s (nmL (6 - r))) [44] = false) : wk (r + 1) set s = (set + 2 ^ (6 - r), Lib.trimPrefix s (nmL (6 - r))) := by
  rw [wk, if_pos h, if_neg (by rw [h2]; simp)]
theorem wk_go {r : Nat} {set : Int} {s : L8} (h : Lib.hasPrefix s (nmL (6 - r)) = true) (h2 : Lib.hasPrefix (Lib.trimPrefix s (nmL (6 - r))) [44] = true) : wk (r + 1) set s = wk r (set + 2 ^ (6 - r)) (Lib.trimPrefix (Lib.trimPrefix s (nmL (6 - r))) [44]) := by
  rw [wk, if_pos h, if_pos h2]
/-- what weekdays hands back -/
def WkP (L : L8) (w : World) (e : Ending) (w' : World) : Prop := e = .returned (.tuple #[.int .i64 (wk 7 0 L).1, .string (arr (wk 7 0 L).2)]) ∧ w' = w
theorem wkP_of {L t : L8} {k : Int} {w : World} (h : (k, t) = wk 7 0 L) : WkP L w (.returned (.tuple #[.int .i64 k, .string (arr t)])) w := by
  unfold WkP; rw [← h]; exact ⟨rfl, rfl⟩

set_option maxRecDepth 100000 in
set_option maxHeartbeats 4000000 in
theorem wkdays_any (L : L8) (w : World) : Calls Tryz.prog 30 #[.string (arr L)] w (WkP L w) := by
  go_enter Tryz.func30, Tryz.ntmps30
  go_wp2_with fail
  go_loop [0, 4, 8] (fun s k i => ∃ (p : Nat) (t : L8) (set : Int), p ≤ 7 ∧ s = .string (arr t) ∧ k = .int .i64 set ∧ i = .int .i64 p ∧ 0 ≤ set ∧ set < 2 ^ p ∧ Hid (wk (7 - p) set t = wk 7 0 L)) (fun _ _ i => 7 - (intOf i).toNat)
  case atStart => exact ⟨0, L, 0, by omega, rfl, rfl, rfl, by omega, by decide, Lib.hid rfl⟩
  case round =>
    obtain ⟨p, t, set, hp, rfl, rfl, rfl, hk0, hk1, HK⟩ := hrel
    rcases (show p = 0 ∨ p = 1 ∨ p = 2 ∨ p = 3 ∨ p = 4 ∨ p = 5 ∨ p = 6 ∨ p = 7 by omega) with rfl | rfl | rfl | rfl | rfl | rfl | rfl | rfl
    · rw [show ((0 : Nat) : Int) = 0 from rfl]
      have K := HK.out
      rw [show (7 : Nat) - 0 = 6 + 1 from rfl] at K
      cases h1 : Lib.hasPrefix t (nmL 0)
      · have HN : Hid (wk (7 - 1) set t = wk 7 0 L) := Lib.hid (by rw [← K, wk_no (r := 6) h1])
        have C1 := cut_any t (nmL 0) w
        rw [h1] at C1
        have HC1 := Lib.hid C1
        clear C1 h1 K HK
        have hnm : ByteArray.extract ⟨#[77, 79, 84, 85, 87, 69, 84, 72, 70, 82, 83, 65, 83, 85]⟩ 0 2 = arr (nmL 0) := rfl
        generalize Lib.trimPrefix t (nmL 0) = t1 at *
        go_wp2_with (go_at_call 29; refine HC1.out.mono ?_; rintro en w9 ⟨rfl, hw9⟩; subst hw9)
        refine ⟨⟨1, t, set, by omega, rfl, rfl, by go_num, hk0, by omega, HN⟩, by simp [intOf]⟩
      · cases h2 : Lib.hasPrefix (Lib.trimPrefix t (nmL 0)) [44]
        · have HN : Hid ((set + 1, Lib.trimPrefix t (nmL 0)) = wk 7 0 L) := Lib.hid (by rw [← K, wk_end (r := 6) h1 h2]; rfl)
          have C1 := cut_any t (nmL 0) w
          have C2 := cut_any (Lib.trimPrefix t (nmL 0)) [44] w
          rw [h1] at C1
          rw [h2] at C2
          have HC1 := Lib.hid C1
          have HC2 := Lib.hid C2
          have hor : bits .or .i64 set 1 = set + 1 := or_pow set 0 hk0 hk1 (by omega)
          clear C1 C2 h1 h2 K HK
          have hnm : ByteArray.extract ⟨#[77, 79, 84, 85, 87, 69, 84, 72, 70, 82, 83, 65, 83, 85]⟩ 0 2 = arr (nmL 0) := rfl
          generalize Lib.trimPrefix (Lib.trimPrefix t (nmL 0)) [44] = t2 at *
          generalize Lib.trimPrefix t (nmL 0) = t1 at *
          go_wp2_with fail
          refine HC1.out.mono ?_
          rintro en w9 ⟨rfl, hw9⟩
          subst hw9
          go_wp2_with fail
          refine HC2.out.mono ?_
          rintro en w9 ⟨rfl, hw9⟩
          subst hw9
          go_wp2_with fail
          go_ret2
          exact wkP_of HN.out
        · have HN : Hid (wk (7 - 1) (set + 1) (Lib.trimPrefix (Lib.trimPrefix t (nmL 0)) [44]) = wk 7 0 L) := Lib.hid (by rw [← K, wk_go (r := 6) h1 h2]; rfl)
          have C1 := cut_any t (nmL 0) w
          have C2 := cut_any (Lib.trimPrefix t (nmL 0)) [44] w
          rw [h1] at C1
          rw [h2] at C2
          have HC1 := Lib.hid C1
          have HC2 := Lib.hid C2
          have hor : bits .or .i64 set 1 = set + 1 := or_pow set 0 hk0 hk1 (by omega)
          clear C1 C2 h1 h2 K HK
          have hnm : ByteArray.extract ⟨#[77, 79, 84, 85, 87, 69, 84, 72, 70, 82, 83, 65, 83, 85]⟩ 0 2 = arr (nmL 0) := rfl
          generalize Lib.trimPrefix (Lib.trimPrefix t (nmL 0)) [44] = t2 at *
          generalize Lib.trimPrefix t (nmL 0) = t1 at *
          go_wp2_with fail
          refine HC1.out.mono ?_
          rintro en w9 ⟨rfl, hw9⟩
          subst hw9
          go_wp2_with fail
          refine HC2.out.mono ?_
          rintro en w9 ⟨rfl, hw9⟩
          subst hw9
          go_wp2_with fail
          refine ⟨⟨1, t2, set + 1, by omega, rfl, rfl, by go_num, by omega, by omega, HN⟩, by simp [intOf]⟩
    · rw [show ((1 : Nat) : Int) = 1 from rfl]
      have K := HK.out
      rw [show (7 : Nat) - 1 = 5 + 1 from rfl] at K
      cases h1 : Lib.hasPrefix t (nmL 1)
      · have HN : Hid (wk (7 - 2) set t = wk 7 0 L) := Lib.hid (by rw [← K, wk_no (r := 5) h1])
        have C1 := cut_any t (nmL 1) w
        rw [h1] at C1
        have HC1 := Lib.hid C1
        clear C1 h1 K HK
        have hnm : ByteArray.extract ⟨#[77, 79, 84, 85, 87, 69, 84, 72, 70, 82, 83, 65, 83, 85]⟩ 2 4 = arr (nmL 1) := rfl
        generalize Lib.trimPrefix t (nmL 1) = t1 at *
        go_wp2_with (go_at_call 29; refine HC1.out.mono ?_; rintro en w9 ⟨rfl, hw9⟩; subst hw9)
        refine ⟨⟨2, t, set, by omega, rfl, rfl, by go_num, hk0, by omega, HN⟩, by simp [intOf]⟩
      · cases h2 : Lib.hasPrefix (Lib.trimPrefix t (nmL 1)) [44]
        · have HN : Hid ((set + 2, Lib.trimPrefix t (nmL 1)) = wk 7 0 L) := Lib.hid (by rw [← K, wk_end (r := 5) h1 h2]; rfl)
          have C1 := cut_any t (nmL 1) w
          have C2 := cut_any (Lib.trimPrefix t (nmL 1)) [44] w
          rw [h1] at C1
          rw [h2] at C2
          have HC1 := Lib.hid C1
          have HC2 := Lib.hid C2
          have hor : bits .or .i64 set 2 = set + 2 := or_pow set 1 hk0 hk1 (by omega)
          clear C1 C2 h1 h2 K HK
          have hnm : ByteArray.extract ⟨#[77, 79, 84, 85, 87, 69, 84, 72, 70, 82, 83, 65, 83, 85]⟩ 2 4 = arr (nmL 1) := rfl
          generalize Lib.trimPrefix (Lib.trimPrefix t (nmL 1)) [44] = t2 at *
          generalize Lib.trimPrefix t (nmL 1) = t1 at *
          go_wp2_with fail
          refine HC1.out.mono ?_
          rintro en w9 ⟨rfl, hw9⟩
          subst hw9
          go_wp2_with fail
          refine HC2.out.mono ?_
          rintro en w9 ⟨rfl, hw9⟩
          subst hw9
          go_wp2_with fail
          go_ret2
          exact wkP_of HN.out
        · have HN : Hid (wk (7 - 2) (set + 2) (Lib.trimPrefix (Lib.trimPrefix t (nmL 1)) [44]) = wk 7 0 L) := Lib.hid (by rw [← K, wk_go (r := 5) h1 h2]; rfl)
          have C1 := cut_any t (nmL 1) w
          have C2 := cut_any (Lib.trimPrefix t (nmL 1)) [44] w
          rw [h1] at C1
          rw [h2] at C2
          have HC1 := Lib.hid C1
          have HC2 := Lib.hid C2
          have hor : bits .or .i64 set 2 = set + 2 := or_pow set 1 hk0 hk1 (by omega)
          clear C1 C2 h1 h2 K HK
          have hnm : ByteArray.extract ⟨#[77, 79, 84, 85, 87, 69, 84, 72, 70, 82, 83, 65, 83, 85]⟩ 2 4 = arr (nmL 1) := rfl
          generalize Lib.trimPrefix (Lib.trimPrefix t (nmL 1)) [44] = t2 at *
          generalize Lib.trimPrefix t (nmL 1) = t1 at *
          go_wp2_with fail
          refine HC1.out.mono ?_
          rintro en w9 ⟨rfl, hw9⟩
          subst hw9
          go_wp2_with fail
          refine HC2.out.mono ?_
          rintro en w9 ⟨rfl, hw9⟩
          subst hw9
          go_wp2_with fail
          refine ⟨⟨2, t2, set + 2, by omega, rfl, rfl, by go_num, by omega, by omega, HN⟩, by simp [intOf]⟩
    · rw [show ((2 : Nat) : Int) = 2 from rfl]
      have K := HK.out
      rw [show (7 : Nat) - 2 = 4 + 1 from rfl] at K
      cases h1 : Lib.hasPrefix t (nmL 2)
      · have HN : Hid (wk (7 - 3) set t = wk 7 0 L) := Lib.hid (by rw [← K, wk_no (r := 4) h1])
        have C1 := cut_any t (nmL 2) w
        rw [h1] at C1
        have HC1 := Lib.hid C1
        clear C1 h1 K HK
        have hnm : ByteArray.extract ⟨#[77, 79, 84, 85, 87, 69, 84, 72, 70, 82, 83, 65, 83, 85]⟩ 4 6 = arr (nmL 2) := rfl
        generalize Lib.trimPrefix t (nmL 2) = t1 at *
        go_wp2_with (go_at_call 29; refine HC1.out.mono ?_; rintro en w9 ⟨rfl, hw9⟩; subst hw9)
        refine ⟨⟨3, t, set, by omega, rfl, rfl, by go_num, hk0, by omega, HN⟩, by simp [intOf]⟩
      · cases h2 : Lib.hasPrefix (Lib.trimPrefix t (nmL 2)) [44]
        · have HN : Hid ((set + 4, Lib.trimPrefix t (nmL 2)) = wk 7 0 L) := Lib.hid (by rw [← K, wk_end (r := 4) h1 h2]; rfl)
          have C1 := cut_any t (nmL 2) w
          have C2 := cut_any (Lib.trimPrefix t (nmL 2)) [44] w
          rw [h1] at C1
          rw [h2] at C2
          have HC1 := Lib.hid C1
          have HC2 := Lib.hid C2
          have hor : bits .or .i64 set 4 = set + 4 := or_pow set 2 hk0 hk1 (by omega)
          clear C1 C2 h1 h2 K HK
          have hnm : ByteArray.extract ⟨#[77, 79, 84, 85, 87, 69, 84, 72, 70, 82, 83, 65, 83, 85]⟩ 4 6 = arr (nmL 2) := rfl
          generalize Lib.trimPrefix (Lib.trimPrefix t (nmL 2)) [44] = t2 at *
          generalize Lib.trimPrefix t (nmL 2) = t1 at *
          go_wp2_with fail
          refine HC1.out.mono ?_
          rintro en w9 ⟨rfl, hw9⟩
          subst hw9
          go_wp2_with fail
          refine HC2.out.mono ?_
          rintro en w9 ⟨rfl, hw9⟩
          subst hw9
          go_wp2_with fail
          go_ret2
          exact wkP_of HN.out
        · have HN : Hid (wk (7 - 3) (set + 4) (Lib.trimPrefix (Lib.trimPrefix t (nmL 2)) [44]) = wk 7 0 L) := Lib.hid (by rw [← K, wk_go (r := 4) h1 h2]; rfl)
          have C1 := cut_any t (nmL 2) w
          have C2 := cut_any (Lib.trimPrefix t (nmL 2)) [44] w
          rw [h1] at C1
          rw [h2] at C2
          have HC1 := Lib.hid C1
          have HC2 := Lib.hid C2
          have hor : bits .or .i64 set 4 = set + 4 := or_pow set 2 hk0 hk1 (by omega)
          clear C1 C2 h1 h2 K HK
          have hnm : ByteArray.extract ⟨#[77, 79, 84, 85, 87, 69, 84, 72, 70, 82, 83, 65, 83, 85]⟩ 4 6 = arr (nmL 2) := rfl
          generalize Lib.trimPrefix (Lib.trimPrefix t (nmL 2)) [44] = t2 at *
          generalize Lib.trimPrefix t (nmL 2) = t1 at *
          go_wp2_with fail
          refine HC1.out.mono ?_
          rintro en w9 ⟨rfl, hw9⟩
          subst hw9
          go_wp2_with fail
          refine HC2.out.mono ?_
          rintro en w9 ⟨rfl, hw9⟩
          subst hw9
          go_wp2_with fail
          refine ⟨⟨3, t2, set + 4, by omega, rfl, rfl, by go_num, by omega, by omega, HN⟩, by simp [intOf]⟩
    · rw [show ((3 : Nat) : Int) = 3 from rfl]
      have K := HK.out
      rw [show (7 : Nat) - 3 = 3 + 1 from rfl] at K
      cases h1 : Lib.hasPrefix t (nmL 3)
      · have HN : Hid (wk (7 - 4) set t = wk 7 0 L) := Lib.hid (by rw [← K, wk_no (r := 3) h1])
        have C1 := cut_any t (nmL 3) w
        rw [h1] at C1
        have HC1 := Lib.hid C1
        clear C1 h1 K HK
        have hnm : ByteArray.extract ⟨#[77, 79, 84, 85, 87, 69, 84, 72, 70, 82, 83, 65, 83, 85]⟩ 6 8 = arr (nmL 3) := rfl
        generalize Lib.trimPrefix t (nmL 3) = t1 at *
        go_wp2_with (go_at_call 29; refine HC1.out.mono ?_; rintro en w9 ⟨rfl, hw9⟩; subst hw9)
        refine ⟨⟨4, t, set, by omega, rfl, rfl, by go_num, hk0, by omega, HN⟩, by simp [intOf]⟩
      · cases h2 : Lib.hasPrefix (Lib.trimPrefix t (nmL 3)) [44]
        · have HN : Hid ((set + 8, Lib.trimPrefix t (nmL 3)) = wk 7 0 L) := Lib.hid (by rw [← K, wk_end (r := 3) h1 h2]; rfl)
          have C1 := cut_any t (nmL 3) w
          have C2 := cut_any (Lib.trimPrefix t (nmL 3)) [44] w
          rw [h1] at C1
          rw [h2] at C2
          have HC1 := Lib.hid C1
          have HC2 := Lib.hid C2
          have hor : bits .or .i64 set 8 = set + 8 := or_pow set 3 hk0 hk1 (by omega)
          clear C1 C2 h1 h2 K HK
          have hnm : ByteArray.extract ⟨#[77, 79, 84, 85, 87, 69, 84, 72, 70, 82, 83, 65, 83, 85]⟩ 6 8 = arr (nmL 3) := rfl
          generalize Lib.trimPrefix (Lib.trimPrefix t (nmL 3)) [44] = t2 at *
          generalize Lib.trimPrefix t (nmL 3) = t1 at *
          go_wp2_with fail
          refine HC1.out.mono ?_
          rintro en w9 ⟨rfl, hw9⟩
          subst hw9
          go_wp2_with fail
          refine HC2.out.mono ?_
          rintro en w9 ⟨rfl, hw9⟩
          subst hw9
          go_wp2_with fail
          go_ret2
          exact wkP_of HN.out
        · have HN : Hid (wk (7 - 4) (set + 8) (Lib.trimPrefix (Lib.trimPrefix t (nmL 3)) [44]) = wk 7 0 L) := Lib.hid (by rw [← K, wk_go (r := 3) h1 h2]; rfl)
          have C1 := cut_any t (nmL 3) w
          have C2 := cut_any (Lib.trimPrefix t (nmL 3)) [44] w
          rw [h1] at C1
          rw [h2] at C2
          have HC1 := Lib.hid C1
          have HC2 := Lib.hid C2
          have hor : bits .or .i64 set 8 = set + 8 := or_pow set 3 hk0 hk1 (by omega)
          clear C1 C2 h1 h2 K HK
          have hnm : ByteArray.extract ⟨#[77, 79, 84, 85, 87, 69, 84, 72, 70, 82, 83, 65, 83, 85]⟩ 6 8 = arr (nmL 3) := rfl
          generalize Lib.trimPrefix (Lib.trimPrefix t (nmL 3)) [44] = t2 at *
          generalize Lib.trimPrefix t (nmL 3) = t1 at *
          go_wp2_with fail
          refine HC1.out.mono ?_
          rintro en w9 ⟨rfl, hw9⟩
          subst hw9
          go_wp2_with fail
          refine HC2.out.mono ?_
          rintro en w9 ⟨rfl, hw9⟩
          subst hw9
          go_wp2_with fail
          refine ⟨⟨4, t2, set + 8, by omega, rfl, rfl, by go_num, by omega, by omega, HN⟩, by simp [intOf]⟩
    · rw [show ((4 : Nat) : Int) = 4 from rfl]
      have K := HK.out
      rw [show (7 : Nat) - 4 = 2 + 1 from rfl] at K
      cases h1 : Lib.hasPrefix t (nmL 4)
      · have HN : Hid (wk (7 - 5) set t = wk 7 0 L) := Lib.hid (by rw [← K, wk_no (r := 2) h1])
        have C1 := cut_any t (nmL 4) w
        rw [h1] at C1
        have HC1 := Lib.hid C1
        clear C1 h1 K HK
        have hnm : ByteArray.extract ⟨#[77, 79, 84, 85, 87, 69, 84, 72, 70, 82, 83, 65, 83, 85]⟩ 8 10 = arr (nmL 4) := rfl
        generalize Lib.trimPrefix t (nmL 4) = t1 at *
        go_wp2_with (go_at_call 29; refine HC1.out.mono ?_; rintro en w9 ⟨rfl, hw9⟩; subst hw9)
        refine ⟨⟨5, t, set, by omega, rfl, rfl, by go_num, hk0, by omega, HN⟩, by simp [intOf]⟩
      · cases h2 : Lib.hasPrefix (Lib.trimPrefix t (nmL 4)) [44]
        · have HN : Hid ((set + 16, Lib.trimPrefix t (nmL 4)) = wk 7 0 L) := Lib.hid (by rw [← K, wk_end (r := 2) h1 h2]; rfl)
          have C1 := cut_any t (nmL 4) w
          have C2 := cut_any (Lib.trimPrefix t (nmL 4)) [44] w
          rw [h1] at C1
          rw [h2] at C2
          have HC1 := Lib.hid C1
          have HC2 := Lib.hid C2
          have hor : bits .or .i64 set 16 = set + 16 := or_pow set 4 hk0 hk1 (by omega)
          clear C1 C2 h1 h2 K HK
          have hnm : ByteArray.extract ⟨#[77, 79, 84, 85, 87, 69, 84, 72, 70, 82, 83, 65, 83, 85]⟩ 8 10 = arr (nmL 4) := rfl
          generalize Lib.trimPrefix (Lib.trimPrefix t (nmL 4)) [44] = t2 at *
          generalize Lib.trimPrefix t (nmL 4) = t1 at *
          go_wp2_with fail
          refine HC1.out.mono ?_
          rintro en w9 ⟨rfl, hw9⟩
          subst hw9
          go_wp2_with fail
          refine HC2.out.mono ?_
          rintro en w9 ⟨rfl, hw9⟩
          subst hw9
          go_wp2_with fail
          go_ret2
          exact wkP_of HN.out
        · have HN : Hid (wk (7 - 5) (set + 16) (Lib.trimPrefix (Lib.trimPrefix t (nmL 4)) [44]) = wk 7 0 L) := Lib.hid (by rw [← K, wk_go (r := 2) h1 h2]; rfl)
          have C1 := cut_any t (nmL 4) w
          have C2 := cut_any (Lib.trimPrefix t (nmL 4)) [44] w
          rw [h1] at C1
          rw [h2] at C2
          have HC1 := Lib.hid C1
          have HC2 := Lib.hid C2
          have hor : bits .or .i64 set 16 = set + 16 := or_pow set 4 hk0 hk1 (by omega)
          clear C1 C2 h1 h2 K HK
          have hnm : ByteArray.extract ⟨#[77, 79, 84, 85, 87, 69, 84, 72, 70, 82, 83, 65, 83, 85]⟩ 8 10 = arr (nmL 4) := rfl
          generalize Lib.trimPrefix (Lib.trimPrefix t (nmL 4)) [44] = t2 at *
          generalize Lib.trimPrefix t (nmL 4) = t1 at *
          go_wp2_with fail
          refine HC1.out.mono ?_
          rintro en w9 ⟨rfl, hw9⟩
          subst hw9
          go_wp2_with fail
          refine HC2.out.mono ?_
          rintro en w9 ⟨rfl, hw9⟩
          subst hw9
          go_wp2_with fail
          refine ⟨⟨5, t2, set + 16, by omega, rfl, rfl, by go_num, by omega, by omega, HN⟩, by simp [intOf]⟩
    · rw [show ((5 : Nat) : Int) = 5 from rfl]
      have K := HK.out
      rw [show (7 : Nat) - 5 = 1 + 1 from rfl] at K
      cases h1 : Lib.hasPrefix t (nmL 5)
      · have HN : Hid (wk (7 - 6) set t = wk 7 0 L) := Lib.hid (by rw [← K, wk_no (r := 1) h1])
        have C1 := cut_any t (nmL 5) w
        rw [h1] at C1
        have HC1 := Lib.hid C1
        clear C1 h1 K HK
        have hnm : ByteArray.extract ⟨#[77, 79, 84, 85, 87, 69, 84, 72, 70, 82, 83, 65, 83, 85]⟩ 10 12 = arr (nmL 5) := rfl
        generalize Lib.trimPrefix t (nmL 5) = t1 at *
        go_wp2_with (go_at_call 29; refine HC1.out.mono ?_; rintro en w9 ⟨rfl, hw9⟩; subst hw9)
        refine ⟨⟨6, t, set, by omega, rfl, rfl, by go_num, hk0, by omega, HN⟩, by simp [intOf]⟩
      · cases h2 : Lib.hasPrefix (Lib.trimPrefix t (nmL 5)) [44]
        · have HN : Hid ((set + 32, Lib.trimPrefix t (nmL 5)) = wk 7 0 L) := Lib.hid (by rw [← K, wk_end (r := 1) h1 h2]; rfl)
          have C1 := cut_any t (nmL 5) w
          have C2 := cut_any (Lib.trimPrefix t (nmL 5)) [44] w
          rw [h1] at C1
          rw [h2] at C2
          have HC1 := Lib.hid C1
          have HC2 := Lib.hid C2
          have hor : bits .or .i64 set 32 = set + 32 := or_pow set 5 hk0 hk1 (by omega)
          clear C1 C2 h1 h2 K HK
          have hnm : ByteArray.extract ⟨#[77, 79, 84, 85, 87, 69, 84, 72, 70, 82, 83, 65, 83, 85]⟩ 10 12 = arr (nmL 5) := rfl
          generalize Lib.trimPrefix (Lib.trimPrefix t (nmL 5)) [44] = t2 at *
          generalize Lib.trimPrefix t (nmL 5) = t1 at *
          go_wp2_with fail
          refine HC1.out.mono ?_
          rintro en w9 ⟨rfl, hw9⟩
          subst hw9
          go_wp2_with fail
          refine HC2.out.mono ?_
          rintro en w9 ⟨rfl, hw9⟩
          subst hw9
          go_wp2_with fail
          go_ret2
          exact wkP_of HN.out
        · have HN : Hid (wk (7 - 6) (set + 32) (Lib.trimPrefix (Lib.trimPrefix t (nmL 5)) [44]) = wk 7 0 L) := Lib.hid (by rw [← K, wk_go (r := 1) h1 h2]; rfl)
          have C1 := cut_any t (nmL 5) w
          have C2 := cut_any (Lib.trimPrefix t (nmL 5)) [44] w
          rw [h1] at C1
          rw [h2] at C2
          have HC1 := Lib.hid C1
          have HC2 := Lib.hid C2
          have hor : bits .or .i64 set 32 = set + 32 := or_pow set 5 hk0 hk1 (by omega)
          clear C1 C2 h1 h2 K HK
          have hnm : ByteArray.extract ⟨#[77, 79, 84, 85, 87, 69, 84, 72, 70, 82, 83, 65, 83, 85]⟩ 10 12 = arr (nmL 5) := rfl
          generalize Lib.trimPrefix (Lib.trimPrefix t (nmL 5)) [44] = t2 at *
          generalize Lib.trimPrefix t (nmL 5) = t1 at *
          go_wp2_with fail
          refine HC1.out.mono ?_
          rintro en w9 ⟨rfl, hw9⟩
          subst hw9
          go_wp2_with fail
          refine HC2.out.mono ?_
          rintro en w9 ⟨rfl, hw9⟩
          subst hw9
          go_wp2_with fail
          refine ⟨⟨6, t2, set + 32, by omega, rfl, rfl, by go_num, by omega, by omega, HN⟩, by simp [intOf]⟩
    · rw [show ((6 : Nat) : Int) = 6 from rfl]
      have K := HK.out
      rw [show (7 : Nat) - 6 = 0 + 1 from rfl] at K
      cases h1 : Lib.hasPrefix t (nmL 6)
      · have HN : Hid (wk (7 - 7) set t = wk 7 0 L) := Lib.hid (by rw [← K, wk_no (r := 0) h1])
        have C1 := cut_any t (nmL 6) w
        rw [h1] at C1
        have HC1 := Lib.hid C1
        clear C1 h1 K HK
        have hnm : ByteArray.extract ⟨#[77, 79, 84, 85, 87, 69, 84, 72, 70, 82, 83, 65, 83, 85]⟩ 12 14 = arr (nmL 6) := rfl
        generalize Lib.trimPrefix t (nmL 6) = t1 at *
        go_wp2_with (go_at_call 29; refine HC1.out.mono ?_; rintro en w9 ⟨rfl, hw9⟩; subst hw9)
        refine ⟨⟨7, t, set, by omega, rfl, rfl, by go_num, hk0, by omega, HN⟩, by simp [intOf]⟩
      · cases h2 : Lib.hasPrefix (Lib.trimPrefix t (nmL 6)) [44]
        · have HN : Hid ((set + 64, Lib.trimPrefix t (nmL 6)) = wk 7 0 L) := Lib.hid (by rw [← K, wk_end (r := 0) h1 h2]; rfl)
          have C1 := cut_any t (nmL 6) w
          have C2 := cut_any (Lib.trimPrefix t (nmL 6)) [44] w
          rw [h1] at C1
          rw [h2] at C2
          have HC1 := Lib.hid C1
          have HC2 := Lib.hid C2
          have hor : bits .or .i64 set 64 = set + 64 := or_pow set 6 hk0 hk1 (by omega)
          clear C1 C2 h1 h2 K HK
          have hnm : ByteArray.extract ⟨#[77, 79, 84, 85, 87, 69, 84, 72, 70, 82, 83, 65, 83, 85]⟩ 12 14 = arr (nmL 6) := rfl
          generalize Lib.trimPrefix (Lib.trimPrefix t (nmL 6)) [44] = t2 at *
          generalize Lib.trimPrefix t (nmL 6) = t1 at *
          go_wp2_with fail
          refine HC1.out.mono ?_
          rintro en w9 ⟨rfl, hw9⟩
          subst hw9
          go_wp2_with fail
          refine HC2.out.mono ?_
          rintro en w9 ⟨rfl, hw9⟩
          subst hw9
          go_wp2_with fail
          go_ret2
          exact wkP_of HN.out
        · have HN : Hid (wk (7 - 7) (set + 64) (Lib.trimPrefix (Lib.trimPrefix t (nmL 6)) [44]) = wk 7 0 L) := Lib.hid (by rw [← K, wk_go (r := 0) h1 h2]; rfl)
          have C1 := cut_any t (nmL 6) w
          have C2 := cut_any (Lib.trimPrefix t (nmL 6)) [44] w
          rw [h1] at C1
          rw [h2] at C2
          have HC1 := Lib.hid C1
          have HC2 := Lib.hid C2
          have hor : bits .or .i64 set 64 = set + 64 := or_pow set 6 hk0 hk1 (by omega)
          clear C1 C2 h1 h2 K HK
          have hnm : ByteArray.extract ⟨#[77, 79, 84, 85, 87, 69, 84, 72, 70, 82, 83, 65, 83, 85]⟩ 12 14 = arr (nmL 6) := rfl
          generalize Lib.trimPrefix (Lib.trimPrefix t (nmL 6)) [44] = t2 at *
          generalize Lib.trimPrefix t (nmL 6) = t1 at *
          go_wp2_with fail
          refine HC1.out.mono ?_
          rintro en w9 ⟨rfl, hw9⟩
          subst hw9
          go_wp2_with fail
          refine HC2.out.mono ?_
          rintro en w9 ⟨rfl, hw9⟩
          subst hw9
          go_wp2_with fail
          refine ⟨⟨7, t2, set + 64, by omega, rfl, rfl, by go_num, by omega, by omega, HN⟩, by simp [intOf]⟩
    · rw [show ((7 : Nat) : Int) = 7 from rfl]
      have K := HK.out
      rw [show (7 : Nat) - 7 = 0 from rfl, wk] at K
      by_cases hs : 0 < set
      · rw [if_pos hs] at K
        have HN := Lib.hid K
        have hd : decide (0 < set) = true := by simpa using hs
        clear K HK
        go_wp2_with fail
        go_ret2
        exact wkP_of HN.out
      · rw [if_neg hs] at K
        have HN := Lib.hid K
        have hd : decide (0 < set) = false := by simpa using hs
        clear K HK
        go_wp2_with fail
        go_ret2
        exact wkP_of HN.out

end Go.Proofs.YtibigbfkokendaaGreatDoor
