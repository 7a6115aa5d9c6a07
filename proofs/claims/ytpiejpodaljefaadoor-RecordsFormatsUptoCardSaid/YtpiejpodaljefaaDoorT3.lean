import Derived.Test.YtpiejpodaljefaaDoorT1
import Derived.Test.YtpiejpodaljefaaDoorS3
import Derived.Test.YtpiejpodaljefaaDoorR8
namespace Go.Proofs.YtpiejpodaljefaaDoor
open Go.RowKit

/-- a valid dialect -/
def okD (d q : UInt8) : Bool := ((d == 44) || (d == 59) || (d == 124) || (d == 9)) && ((q == 34) || (q == 39))
theorem okD_mk {d q : UInt8} (h1 : d = 44 ∨ d = 59 ∨ d = 124 ∨ d = 9) (h2 : q = 34 ∨ q = 39) : okD d q = true := by
  rcases h1 with rfl | rfl | rfl | rfl <;> rcases h2 with rfl | rfl <;> rfl
theorem okD_of {d q : UInt8} (h : okD d q = true) : (d = 44 ∨ d = 59 ∨ d = 124 ∨ d = 9) ∧ (q = 34 ∨ q = 39) := by
  unfold okD at h
  simpa [or_assoc] using h
theorem okD_10 {d q : UInt8} (h : okD d q = true) : (d == 10) = false ∧ (q == 10) = false := by
  obtain ⟨h1, h2⟩ := okD_of h
  exact ⟨by rcases h1 with rfl | rfl | rfl | rfl <;> rfl, by rcases h2 with rfl | rfl <;> rfl⟩

def okI (x y : Int) : Bool := ((x == 44) || (x == 59) || (x == 124) || (x == 9)) && ((y == 34) || (y == 39))
theorem okI_eq (d q : UInt8) : okI (d.toNat : Int) (q.toNat : Int) = okD d q := by
  have e1 : ((d.toNat : Int) == 44) = (d == 44) := beq_cast d 44 (by decide)
  have e2 : ((d.toNat : Int) == 59) = (d == 59) := beq_cast d 59 (by decide)
  have e3 : ((d.toNat : Int) == 124) = (d == 124) := beq_cast d 124 (by decide)
  have e4 : ((d.toNat : Int) == 9) = (d == 9) := beq_cast d 9 (by decide)
  have e5 : ((q.toNat : Int) == 34) = (q == 34) := beq_cast q 34 (by decide)
  have e6 : ((q.toNat : Int) == 39) = (q == 39) := beq_cast q 39 (by decide)
  unfold okI okD; rw [e1, e2, e3, e4, e5, e6]
set_option maxHeartbeats 2000000 in
theorem rvalid_i (x y : Int) (w : World) : Calls Tryd.prog 11 #[.agg #[.int .u8 x, .int .u8 y]] w (RetB (.bool (okI x y)) w) := by
  go_enter Tryd.func11, Tryd.ntmps11
  go_wp2
  all_goals go_ret
  all_goals exact ⟨ret_bool (by unfold okI; simp_all), (Below.refl _ _).alloc (Nat.le_refl _) _⟩
theorem rvalid_any (d q : UInt8) (w : World) : Calls Tryd.prog 11 #[.agg #[.int .u8 d.toNat, .int .u8 q.toNat]] w (RetB (.bool (okD d q)) w) := by
  rw [← okI_eq]; exact rvalid_i _ _ w

theorem ib4 (d : UInt8) : decide (0 ≤ Lib.indexByte [44, 59, 124, 9] d) = ((d == 44) || (d == 59) || (d == 124) || (d == 9)) := by
  have h : ∀ n : Fin 256, decide (0 ≤ Lib.indexByte [44, 59, 124, 9] (UInt8.ofNat n.val)) = ((UInt8.ofNat n.val == 44) || (UInt8.ofNat n.val == 59) || (UInt8.ofNat n.val == 124) || (UInt8.ofNat n.val == 9)) := by decide +kernel
  have h1 := h ⟨d.toNat, d.toNat_lt⟩
  rw [UInt8.ofNat_toNat] at h1
  exact h1
theorem ib2 (q : UInt8) : decide (0 ≤ Lib.indexByte [34, 39] q) = ((q == 34) || (q == 39)) := by
  have h : ∀ n : Fin 256, decide (0 ≤ Lib.indexByte [34, 39] (UInt8.ofNat n.val)) = ((UInt8.ofNat n.val == 34) || (UInt8.ofNat n.val == 39)) := by decide +kernel
  have h1 := h ⟨q.toNat, q.toNat_lt⟩
  rw [UInt8.ofNat_toNat] at h1
  exact h1
set_option maxHeartbeats 2000000 in
theorem valid_any (d q : UInt8) (w : World) : Calls Tryd.prog 10 #[.agg #[.int .u8 d.toNat, .int .u8 q.toNat]] w (RetB (.bool (okD d q)) w) := by
  have P1 := Tryd.strings_IndexByte ⟨#[44, 59, 124, 9]⟩ (d.toNat : Int)
  have P2 := Tryd.strings_IndexByte ⟨#[34, 39]⟩ (q.toNat : Int)
  have e1 : ((d.toNat : Int)).toNat.toUInt8 = d := by rw [Int.toNat_natCast]; exact UInt8.ofNat_toNat
  have e2 : ((q.toNat : Int)).toNat.toUInt8 = q := by rw [Int.toNat_natCast]; exact UInt8.ofNat_toNat
  rw [e1] at P1
  rw [e2] at P2
  have i1 := ib4 d
  have i2 := ib2 q
  have E : Hid (okD d q = (decide (0 ≤ Lib.indexByte [44, 59, 124, 9] d) && decide (0 ≤ Lib.indexByte [34, 39] q))) := Lib.hid (by unfold okD; rw [i1, i2])
  change ∀ w, Calls _ _ _ _ (fun e w' => e = .returned (.int .i64 (Lib.indexByte [44, 59, 124, 9] d)) ∧ w' = w) at P1
  change ∀ w, Calls _ _ _ _ (fun e w' => e = .returned (.int .i64 (Lib.indexByte [34, 39] q)) ∧ w' = w) at P2
  generalize Lib.indexByte [44, 59, 124, 9] d = x at *
  generalize Lib.indexByte [34, 39] q = y at *
  have P1 := Lib.hid P1
  have P2 := Lib.hid P2
  clear i1 i2 e1 e2
  cases h1 : decide (0 ≤ x) <;> cases h2 : decide (0 ≤ y) <;> (
    go_enter Tryd.func10, Tryd.ntmps10
    go_wp2_with (go_at_call 27; first | ((with_reducible refine (P1.out _).mono ?_); rintro e w' ⟨rfl, rfl⟩) | ((with_reducible refine (P2.out _).mono ?_); rintro e w' ⟨rfl, rfl⟩))
    go_ret
    exact ⟨by rw [E.out, h1, h2]; rfl, (Below.refl _ _).alloc (Nat.le_refl _) _⟩)
end Go.Proofs.YtpiejpodaljefaaDoor
