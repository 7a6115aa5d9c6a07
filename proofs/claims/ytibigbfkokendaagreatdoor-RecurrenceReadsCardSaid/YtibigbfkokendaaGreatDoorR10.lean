/- Series: Holds, Same. -/
import Derived.Test.YtibigbfkokendaaGreatDoorR9
namespace Go.Proofs.YtibigbfkokendaaGreatDoor
open Go.RowKit TT

set_option maxRecDepth 100000 in
set_option maxHeartbeats 2000000 in
/-- two series that read the same -/
theorem same_any (f l e k : Int) (a : Option Addr) (n c : Nat) (b : Option Addr) (m q : Nat) (a' : Option Addr) (c' : Nat) (b' : Option Addr) (q' : Nat) (xs ys : List Int) (w : World)
    (hx : IntsAt w a n xs) (hy : IntsAt w b m ys) (hx' : IntsAt w a' n xs) (hy' : IntsAt w b' m ys) :
    Calls Tryz.prog 12 #[serV f l e k a n c b m q, serV f l e k a' n c' b' m q'] w (RetB (.bool true) w) := by
  have hb1 : Below w.heap.size w (w.alloc (.cells #[.int .i64 f, .int .i64 l, .int .i64 e, .int .i64 k, .slice a n c, .slice b m q] 24)) := (Below.refl _ _).alloc (Nat.le_refl _) _
  have hS1 := (SC.mk0 (w := w) (f := f) (l := l) (e := e) (k := k) (c := c) (q := q) 24 hx hy).next ((Below.refl _ _).alloc (Nat.le_refl _) (.cells #[.int .i64 f, .int .i64 l, .int .i64 e, .int .i64 k, .slice a' n c', .slice b' m q'] 24))
  have hS2 := SC.mk0 (w := w.alloc (.cells #[.int .i64 f, .int .i64 l, .int .i64 e, .int .i64 k, .slice a n c, .slice b m q] 24)) (f := f) (l := l) (e := e) (k := k) (c := c') (q := q') 24 (hx'.below hb1) (hy'.below hb1)
  rw [World.size_alloc] at hS2
  have HS1 := Lib.hid hS1
  have HS2 := Lib.hid hS2
  have hn := hx.le
  have hm := hy.le
  clear hS1 hS2 hb1 hx hy hx' hy'
  have i1 : ((n : Int) != (n : Int)) = false := by simp
  have i2 : ((m : Int) != (m : Int)) = false := by simp
  have i3 : (f != f) = false := by simp
  have i4 : (l != l) = false := by simp
  have i5 : (e != e) = false := by simp
  have i6 : (k != k) = false := by simp
  go_enter Tryz.func12, Tryz.ntmps12
  go_wp2
  clear i1 i2 i3 i4 i5 i6
  go_loopw [5] (fun i wr => ∃ j : Nat, j ≤ n ∧ i = .int .i64 j ∧ Hid (SC w wr w.heap.size f l e k a n c b m q xs ys) ∧ Hid (SC (w.alloc (.cells #[.int .i64 f, .int .i64 l, .int .i64 e, .int .i64 k, .slice a n c, .slice b m q] 24)) wr (w.heap.size + 1) f l e k a' n c' b' m q' xs ys)) (fun i _ => n - (intOf i).toNat)
  case atStart => exact ⟨0, by omega, rfl, HS1, HS2⟩
  case round =>
    clear HS1 HS2
    obtain ⟨j, hj, rfl, HS1, HS2⟩ := hrel
    obtain ⟨c0, c1, c2, c3, c4, c5, _, _, sz, _⟩ := HS1.out
    obtain ⟨d0, d1, d2, d3, d4, d5, _, _, sz2, _⟩ := HS2.out
    by_cases hlt : j < n
    · obtain ⟨ba, oa, rfl, _, hcc⟩ := HS1.out.xa.cell hlt
      obtain ⟨bb, ob, rfl, _, hcc2⟩ := HS2.out.xa.cell hlt
      have gx := hcc j hlt
      have gy := hcc2 j hlt
      clear hcc hcc2
      have y5 : (0 : Int) ≤ j := by omega
      have y6 : (j : Int) < n := by omega
      generalize xs.getD j 0 = x at *
      have t' : (x != x) = false := by simp
      go_wp2
      go_quiet (fail)
      clear y5 y6
      go_wp2
      go_roundw
      case rel => exact ⟨j + 1, by omega, by go_num, Lib.hid (HS1.out.drewN _), Lib.hid (HS2.out.drewN _)⟩
      case measure => simp [intOf]; omega
    · obtain rfl : j = n := by omega
      obtain ⟨wo, rfl⟩ : ∃ wo : World, wo = wr := ⟨_, rfl⟩
      go_wp2
      go_loopw [6] (fun i wr => ∃ j' : Nat, j' ≤ m ∧ i = .int .i64 j' ∧ Hid (SC w wr w.heap.size f l e k a j c b m q xs ys) ∧ Hid (SC (w.alloc (.cells #[.int .i64 f, .int .i64 l, .int .i64 e, .int .i64 k, .slice a j c, .slice b m q] 24)) wr (w.heap.size + 1) f l e k a' j c' b' m q' xs ys)) (fun i _ => m - (intOf i).toNat)
      case atStart => exact ⟨0, by omega, rfl, HS1, HS2⟩
      case round =>
        clear HS1 HS2 c0 c1 c2 c3 c4 c5 sz d0 d1 d2 d3 d4 d5 sz2
        obtain ⟨n', hn'⟩ : ∃ n' : Nat, n' = j := ⟨_, rfl⟩
        subst hn'
        obtain ⟨j, hj, rfl, HS1, HS2⟩ := hrel
        obtain ⟨c0, c1, c2, c3, c4, c5, _, _, sz, _⟩ := HS1.out
        obtain ⟨d0, d1, d2, d3, d4, d5, _, _, sz2, _⟩ := HS2.out
        by_cases hlt : j < m
        · obtain ⟨ba, oa, rfl, _, hcc⟩ := HS1.out.ya.cell hlt
          obtain ⟨bb, ob, rfl, _, hcc2⟩ := HS2.out.ya.cell hlt
          have gx := hcc j hlt
          have gy := hcc2 j hlt
          clear hcc hcc2
          have y5 : (0 : Int) ≤ j := by omega
          have y6 : (j : Int) < m := by omega
          generalize ys.getD j 0 = x at *
          have t' : (x != x) = false := by simp
          go_wp2
          go_quiet (fail)
          clear y5 y6
          go_wp2
          go_roundw
          case rel => exact ⟨j + 1, by omega, by go_num, Lib.hid (HS1.out.drewN _), Lib.hid (HS2.out.drewN _)⟩
          case measure => simp [intOf]; omega
        · obtain rfl : j = m := by omega
          go_wp2
          go_ret
          exact ⟨rfl, HS1.out.bl⟩

end Go.Proofs.YtibigbfkokendaaGreatDoor
