import Derived.Test.YtgdgpniceaknbaaDoorT8
namespace Go.Proofs.YtgdgpniceaknbaaDoor
open Go.RowKit TT

set_option maxHeartbeats 400000 in
theorem free_any (f k d : Int) (hs : List Int) (a : Option Addr) (n c : Nat) (w : World) (hI : IntsAt w a n hs) :
    Calls Tryd.prog 40 #[.agg #[.int .i64 f, .int .i64 k, .slice a n c], .int .i64 d] w fun e w' => e = .returned (.bool (!(hasI hs d))) ∧ Below w.heap.size w w' := by
  obtain ⟨hlen, hn, h0 | ⟨b, off, rfl, hh⟩⟩ := hI
  · subst h0
    obtain rfl : hs = [] := List.eq_nil_of_length_eq_zero hlen
    go_enter Tryd.func40, Tryd.ntmps40
    go_wp2
    go_loop [6, 10] (fun _ i => i = .int .i64 0) (fun _ _ => 0)
    case atStart => rfl
    case round =>
      obtain rfl := hrel
      go_wp2
      go_ret
      exact ⟨ret_bool (by rw [hasI_nil]; try rfl), (Below.refl _ _).alloc (Nat.le_refl _) _⟩
  · have HH := Lib.hid hh
    have HL := Lib.hid hlen
    clear hh hlen
    go_enter Tryd.func40, Tryd.ntmps40
    go_wp2
    go_loop [6, 10] (fun _ i => ∃ j : Nat, j ≤ n ∧ i = .int .i64 j ∧ Hid (hasI (hs.take j) d = false)) (fun _ i => n - (intOf i).toNat)
    case atStart => exact ⟨0, by omega, rfl, Lib.hid (by rw [List.take_zero, hasI_nil])⟩
    case round =>
      obtain ⟨j, hj, rfl, hR⟩ := hrel
      by_cases hlt : j < n
      · have gj := HH.out j hlt
        have gb : b < w.heap.size := World.block_lt_of_cell? _ ⟨b, off + j, none⟩ gj
        have hcn := Lib.hid (contains_take_succ hs j (by rw [HL.out]; exact hlt) d)
        have hcg := Lib.hid (contains_of_get hs j (by rw [HL.out]; exact hlt) d)
        generalize hs.getD j 0 = h at *
        by_cases t : h = d
        · have hf := Lib.hid (hcg.out t)
          have t' : (h == d) = true := by simpa using t
          clear t
          go_wp2
          go_ret
          exact ⟨ret_bool (by rw [hf.out]; rfl), (Below.refl _ _).alloc (Nat.le_refl _) _⟩
        · have t' : (h == d) = false := by simpa using t
          have hnx : Hid (hasI (hs.take (j + 1)) d = false) := Lib.hid (by rw [hcn.out, hR.out, t']; rfl)
          go_wp2
          go_round
          case rel => exact ⟨j + 1, by omega, by go_num, hnx⟩
          case measure => simp [intOf]; omega
      · obtain rfl : j = n := by omega
        have hf : Hid (hasI hs d = false) := Lib.hid (by have h1 := hR.out; rw [List.take_of_length_le (by rw [HL.out]; exact Nat.le_refl _)] at h1; exact h1)
        go_wp2
        go_ret
        exact ⟨ret_bool (by rw [hf.out]; rfl), (Below.refl _ _).alloc (Nat.le_refl _) _⟩

set_option maxHeartbeats 400000 in
theorem rfree_any (f k d : Int) (hs : List Int) (a : Option Addr) (n c : Nat) (w : World) (hI : IntsAt w a n hs) :
    Calls Tryd.prog 41 #[.agg #[.int .i64 f, .int .i64 k, .slice a n c], .int .i64 d] w fun e w' => e = .returned (.bool (hasI hs d)) ∧ Below w.heap.size w w' := by
  obtain ⟨hlen, hn, h0 | ⟨b, off, rfl, hh⟩⟩ := hI
  · subst h0
    obtain rfl : hs = [] := List.eq_nil_of_length_eq_zero hlen
    go_enter Tryd.func41, Tryd.ntmps41
    go_wp2
    go_loop [5] (fun i => i = .int .i64 0) (fun _ => 0)
    case atStart => rfl
    case round =>
      obtain rfl := hrel
      go_wp2
      go_ret
      exact ⟨ret_bool (by rw [hasI_nil]; try rfl), (Below.refl _ _).alloc (Nat.le_refl _) _⟩
  · have HH := Lib.hid hh
    have HL := Lib.hid hlen
    clear hh hlen
    go_enter Tryd.func41, Tryd.ntmps41
    go_wp2
    go_loop [5] (fun i => ∃ j : Nat, j ≤ n ∧ i = .int .i64 j ∧ Hid (hasI (hs.take j) d = false)) (fun i => n - (intOf i).toNat)
    case atStart => exact ⟨0, by omega, rfl, Lib.hid (by rw [List.take_zero, hasI_nil])⟩
    case round =>
      obtain ⟨j, hj, rfl, hR⟩ := hrel
      by_cases hlt : j < n
      · have gj := HH.out j hlt
        have gb : b < w.heap.size := World.block_lt_of_cell? _ ⟨b, off + j, none⟩ gj
        have hcn := Lib.hid (contains_take_succ hs j (by rw [HL.out]; exact hlt) d)
        have hcg := Lib.hid (contains_of_get hs j (by rw [HL.out]; exact hlt) d)
        generalize hs.getD j 0 = h at *
        by_cases t : h = d
        · have hf := Lib.hid (hcg.out t)
          have t' : (h == d) = true := by simpa using t
          clear t
          go_wp2
          go_ret
          exact ⟨ret_bool (by rw [hf.out]), (Below.refl _ _).alloc (Nat.le_refl _) _⟩
        · have t' : (h == d) = false := by simpa using t
          have hnx : Hid (hasI (hs.take (j + 1)) d = false) := Lib.hid (by rw [hcn.out, hR.out, t']; rfl)
          go_wp2
          go_round
          case rel => exact ⟨j + 1, by omega, by go_num, hnx⟩
          case measure => simp [intOf]; omega
      · obtain rfl : j = n := by omega
        have hf : Hid (hasI hs d = false) := Lib.hid (by have h1 := hR.out; rw [List.take_of_length_le (by rw [HL.out]; exact Nat.le_refl _)] at h1; exact h1)
        go_wp2
        go_ret
        exact ⟨ret_bool (by rw [hf.out]), (Below.refl _ _).alloc (Nat.le_refl _) _⟩
end Go.Proofs.YtgdgpniceaknbaaDoor
