/- Zones: the reference writes numbers, offsets, dates. -/
import Derived.Test.YtllcoocllkaanaaDoorY1
import Derived.Test.YtllcoocllkaanaaDoorCal
import Derived.Test.YtllcoocllkaanaaDoorBytes
import Derived.Outline
namespace Go.Proofs.YtllcoocllkaanaaDoor
open Go.RowKit TT

/-- k decimal digits of a number -/
def dgt : Nat → Nat → L8
  | 0, _ => []
  | k + 1, m => dgt k (m / 10) ++ [UInt8.ofNat (48 + m % 10)]
theorem dgt_two (n : Nat) (h : n < 100) : dgt 2 n = two n := by
  have e : n / 10 % 10 = n / 10 := Nat.mod_eq_of_lt (by omega)
  simp [dgt, two, e]
theorem dgt_four (n : Nat) (h0 : 2000 ≤ n) (h1 : n ≤ 2099) : dgt 4 n = [50, 48] ++ two (n - 2000) := by
  have e1 : n / 10 / 10 / 10 % 10 = 2 := by omega
  have e2 : n / 10 / 10 % 10 = 0 := by omega
  have e3 : n / 10 % 10 = (n - 2000) / 10 := by omega
  have e4 : n % 10 = (n - 2000) % 10 := by omega
  simp only [dgt, two, e1, e2, e3, e4]
  rfl
theorem one_conv (c : UInt8) (W : World) : (convert 51 9 (.slice (some ⟨W.heap.size, 0, none⟩) 1 1)).run Tryd.prog (W.alloc (.cells #[.int .u8 (c.toNat : Int)] 5)) = .ok (.string (arr [c])) (W.alloc (.cells #[.int .u8 (c.toNat : Int)] 5)) :=
  run_convert_bytes_back _ 51 9 5 ⟨W.heap.size, 0, none⟩ 1 [c] Tryd.underlying51 Tryd.underlying5 Tryd.underlying9 (fun j hj => by
    obtain rfl : j = 0 := by simpa using hj
    rw [Go.WideShapes.add_plain, World.cell?_alloc_at _ _ _ _ rfl]; rfl)

set_option maxRecDepth 100000 in
set_option maxHeartbeats 2000000 in
theorem rdigits_any (k n : Nat) (hk : k ≤ 4) (hn : n < 10 ^ k) (hn2 : n ≤ 100000) (w : World) : Calls Tryd.prog 62 #[.int .i64 n, .int .i64 k] w (RetB (.string (arr (dgt k n))) w) := by
  have HN := Lib.hid hn
  have HB : Hid (Below w.heap.size w w) := Lib.hid (Below.refl _ _)
  have HD : Hid (dgt k n ++ [] = dgt k n) := Lib.hid (List.append_nil _)
  clear hn
  go_enter Tryd.func62, Tryd.ntmps62
  go_wp2
  go_loopw [0, 1, 5] (fun a b s wr => ∃ (m j : Nat) (o : L8), a = .int .i64 m ∧ b = .int .i64 j ∧ s = .string (arr o) ∧ m ≤ 100000 ∧ j ≤ 4 ∧ o.length ≤ 4 - j ∧ Hid (m < 10 ^ j) ∧ Hid (Below w.heap.size w wr) ∧ Hid (dgt j m ++ o = dgt k n)) (fun _ b _ _ => (intOf b).toNat)
  case atStart => exact ⟨n, k, [], rfl, rfl, rfl, hn2, hk, by simp, HN, HB, HD⟩
  case round =>
    obtain ⟨m, j, o, rfl, rfl, rfl, hm, hj, ho, HM, HW, HO⟩ := hrel
    clear HN HB HD
    cases j with
    | zero =>
      have hm0 : m = 0 := by have := HM.out; simpa using this
      subst hm0
      have HE : Hid (o = dgt k n) := Lib.hid (by have := HO.out; simpa [dgt] using this)
      rw [show ((0 : Nat) : Int) = 0 from rfl]
      go_wp2_with fail
      go_ret
      exact ⟨by rw [← HE.out]; rfl, HW.out⟩
    | succ j =>
      have hc : (UInt8.ofNat (48 + m % 10)).toNat = 48 + m % 10 := by rw [UInt8.toNat_ofNat']; omega
      have hcv := one_conv (UInt8.ofNat (48 + m % 10))
      have hcc : (((UInt8.ofNat (48 + m % 10)).toNat : Nat) : Int) = 48 + (m : Int) % 10 := by rw [hc]; omega
      rw [hcc] at hcv
      have y1 : IntKind.u8.wrap (48 + (m : Int) % 10) = 48 + (m : Int) % 10 := by
        have h1 : (0 : Int) ≤ (m : Int) % 10 := by omega
        have h2 : (m : Int) % 10 < 10 := by omega
        unfold IntKind.wrap
        simp [IntKind.bits, IntKind.signed]
        omega
      have hcat : arr [UInt8.ofNat (48 + m % 10)] ++ arr o = arr (UInt8.ofNat (48 + m % 10) :: o) := arr_app _ _
      have hsz : ¬ 9223372036854775807 < (arr [UInt8.ofNat (48 + m % 10)]).size + (arr o).size := by rw [arr_size, arr_size]; simp; omega
      have HL : Hid (m / 10 < 10 ^ j) := Lib.hid (by
        have := HM.out
        rw [Nat.pow_succ] at this
        omega)
      have HOO : Hid (dgt j (m / 10) ++ (UInt8.ofNat (48 + m % 10) :: o) = dgt k n) := Lib.hid (by
        have := HO.out
        rw [dgt] at this
        rw [← this]; simp)
      have HWA := Lib.hid (fun ob => HW.out.alloc HW.out.size ob)
      clear hc hcc
      generalize arr [UInt8.ofNat (48 + m % 10)] = cs at *
      have HSS := Lib.hid hcat
      clear hcat
      have HL4 : Hid ((UInt8.ofNat (48 + m % 10) :: o).length ≤ 4 - j) := Lib.hid (by simp; omega)
      by_cases hm0 : 0 < m
      all_goals
        go_wp2_with fail
        go_roundw
        case rel => exact ⟨m / 10, j, UInt8.ofNat (48 + m % 10) :: o, by simp, by simp, by rw [HSS.out], by omega, by omega, HL4.out, HL, Lib.hid (HWA.out _), HOO⟩
        case measure => simp [intOf]
end Go.Proofs.YtllcoocllkaanaaDoor
