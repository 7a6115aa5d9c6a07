import Derived.Test.YtpiejpodaljefaaDoorR3
import Derived.Test.YtpiejpodaljefaaDoorDice
namespace Go.Proofs.YtpiejpodaljefaaDoor
open Go.RowKit

set_option maxRecDepth 100000 in
set_option maxHeartbeats 4000000 in
theorem limits_of (n m : Int) (h1 : -9223372036854775808 ≤ n) (h2 : n ≤ 9223372036854775807) (h3 : -9223372036854775808 ≤ m) (h4 : m ≤ 9223372036854775807) (w : World) (x y : UInt8)
    (HW : Calls Tryd.prog 9 #[] w (RetB (.bool true) w)) (HK : ∀ w, Calls Tryd.prog 13 #[] w (RetB (.agg #[.int .u8 x.toNat, .int .u8 y.toNat]) w))
    (HG : ∀ (s : ByteArray) w, s.size ≤ 9223372036854775807 → Calls Tryd.prog 12 #[.string s, .agg #[.int .u8 x.toNat, .int .u8 y.toNat]] w (RetB (.bool true) w)) :
    Calls Tryd.prog 8 #[.int .i64 n, .int .i64 m] w (RetB (.bool true) w) := by
  obtain ⟨a, ea, la⟩ : ∃ a : Nat, n % 5 = a ∧ a < 5 := ⟨(n % 5).toNat, by omega, by omega⟩
  obtain ⟨c, ec, lc⟩ : ∃ c : Nat, m % 5 = c ∧ c < 5 := ⟨(m % 5).toNat, by omega, by omega⟩
  have HA : ∀ w, Calls Tryd.prog 26 #[.int .i64 n, .int .i64 5] w fun e w' => e = .returned (.int .i64 a) ∧ w = w' := fun w => ea ▸ mod_any n 5 h1 h2 (by omega) (by omega) w
  have HC : ∀ w, Calls Tryd.prog 26 #[.int .i64 m, .int .i64 5] w fun e w' => e = .returned (.int .i64 c) ∧ w = w' := fun w => ec ▸ mod_any m 5 h3 h4 (by omega) (by omega) w
  clear h1 h2 h3 h4 ea ec
  go_enter Tryd.func8, Tryd.ntmps8
  go_wp2_with fail
  refine (HA _).mono ?_
  rintro e w1 ⟨rfl, rfl⟩
  go_wp2_with fail
  refine (HC _).mono ?_
  rintro e w1 ⟨rfl, rfl⟩
  go_wp2_with fail
  go_loop [5, 6] (fun v i => ∃ (k : Nat) (z : ByteArray), k ≤ 398 + a ∧ i = .int .i64 k ∧ v = .string z ∧ z.size = 2 * k) (fun _ i => 398 + a - (intOf i).toNat)
  case atStart => exact ⟨0, ⟨#[]⟩, by omega, rfl, rfl, rfl⟩
  case round =>
    obtain ⟨k, z, hk, rfl, rfl, hz⟩ := hrel
    by_cases hlt : k < 398 + a
    · have f1 : ((k : Nat) : Int) < 398 + a := by omega
      go_wp2_with fail
      go_round
      case rel => exact ⟨k + 1, z ++ ⟨#[97, 10]⟩, by omega, by go_num, rfl, by rw [ByteArray.size_append, show (⟨#[97, 10]⟩ : ByteArray).size = 2 from rfl]; omega⟩
      case measure => simp [intOf]; omega
    · obtain rfl : k = 398 + a := by omega
      go_wp2_with fail
      go_loop [5, 7] (fun v i => ∃ (k : Nat) (z : ByteArray), 1 ≤ k ∧ k ≤ 10 + c ∧ i = .int .i64 k ∧ v = .string z ∧ z.size ≤ 1000 + 2 * k) (fun _ i => 10 + c - (intOf i).toNat)
      case atStart => exact ⟨1, z, by omega, by omega, rfl, rfl, by omega⟩
      case round =>
        obtain ⟨k, z, hk0, hk, rfl, rfl, hz⟩ := hrel
        by_cases hlt : k < 10 + c
        · have f1 : ((k : Nat) : Int) < 10 + c := by omega
          go_wp2_with fail
          go_round
          case rel => exact ⟨k + 1, z ++ ⟨#[98, 44]⟩, by omega, by omega, by go_num, rfl, by rw [ByteArray.size_append, show (⟨#[98, 44]⟩ : ByteArray).size = 2 from rfl]; omega⟩
          case measure => simp [intOf]; omega
        · obtain rfl : k = 10 + c := by omega
          go_wp2_with fail
          refine HW.mono ?_
          rintro e w1 ⟨rfl, hb1⟩
          have HB1 := Lib.hid hb1
          clear hb1
          go_wp2_with fail
          refine (HK _).mono ?_
          rintro e w2 ⟨rfl, hb2⟩
          have HB2 := Lib.hid (below3 HB1.out hb2)
          clear hb2 HB1
          go_wp2_with fail
          refine (HG _ _ (by rw [ByteArray.size_append, show (⟨#[98, 10]⟩ : ByteArray).size = 2 from rfl]; omega)).mono ?_
          rintro e w3 ⟨rfl, hb3⟩
          have HB3 := Lib.hid (below3 HB2.out hb3)
          clear hb3 HB2
          go_wp2_with fail
          refine (HK _).mono ?_
          rintro e w4 ⟨rfl, hb4⟩
          have HB4 := Lib.hid (below3 HB3.out hb4)
          clear hb4 HB3
          go_wp2_with fail
          refine (HG _ _ (by omega)).mono ?_
          rintro e w5 ⟨rfl, hb5⟩
          have HB5 := Lib.hid (below3 HB4.out hb5)
          clear hb5 HB4
          go_wp2_with fail
          go_ret
          exact ⟨rfl, HB5.out⟩
end Go.Proofs.YtpiejpodaljefaaDoor
