/- Series: a number on a list, equal lists, equal series, how many exceptions. -/
import Derived.Test.YtibigbfkokendaaDoorR4
namespace Go.Proofs.YtibigbfkokendaaDoor
open Go.RowKit TT

theorem hasI_at {hs : List Int} {j : Nat} {d : Int} (hj : j < hs.length) (h : hs.getD j 0 = d) : hasI hs d = true := by
  rw [List.getD_eq_getElem?_getD, List.getElem?_eq_getElem hj] at h
  simp only [hasI, decide_eq_true_eq]; exact h ▸ List.getElem_mem hj
theorem hasI_none {hs : List Int} {d : Int} (h : ∀ j, j < hs.length → hs.getD j 0 ≠ d) : hasI hs d = false := by
  simp only [hasI, decide_eq_false_iff_not]; intro hm
  obtain ⟨i, hi, e⟩ := List.mem_iff_getElem.1 hm
  exact h i hi (by rw [List.getD_eq_getElem?_getD, List.getElem?_eq_getElem hi]; exact e)

set_option maxHeartbeats 400000 in
theorem rin_any (hs : List Int) (a : Option Addr) (n c : Nat) (d : Int) (w : World) (hI : IntsAt w a n hs) :
    Calls Tryd.prog 40 #[.slice a n c, .int .i64 d] w fun e w' => e = .returned (.bool (hasI hs d)) ∧ w = w' := by
  have HI := Lib.hid hI
  have hn := hI.le
  have HL := Lib.hid hI.len
  clear hI
  go_enter Tryd.func40, Tryd.ntmps40
  go_wp2
  go_loop [5] (fun i => ∃ j : Nat, j ≤ n ∧ i = .int .i64 j ∧ Hid (∀ q, q < j → hs.getD q 0 ≠ d)) (fun i => n - (intOf i).toNat)
  case atStart => exact ⟨0, by omega, rfl, Lib.hid (fun q hq => by omega)⟩
  case round =>
    obtain ⟨j, hj, rfl, hR⟩ := hrel
    by_cases hlt : j < n
    · obtain ⟨ba, oa, rfl, hbz, hcc⟩ := HI.out.cell hlt
      have gj := hcc j hlt
      have hhit := Lib.hid (fun h : hs.getD j 0 = d => hasI_at (d := d) (by rw [HL.out]; exact hlt) h)
      have hnx : hs.getD j 0 ≠ d → Hid (∀ q, q < j + 1 → hs.getD q 0 ≠ d) := fun h => Lib.hid (fun q hq => by
        by_cases e : q = j
        · rw [e]; exact h
        · exact hR.out q (by omega))
      clear hcc HI
      generalize hs.getD j 0 = x at *
      by_cases t : x = d
      · have hf := Lib.hid (hhit.out t)
        have t' : (x == d) = true := by simpa using t
        clear hnx t
        go_wp2
        go_ret
        exact ⟨ret_bool hf.out.symm, rfl⟩
      · have HN := hnx t
        have t' : (x == d) = false := by simpa using t
        clear hnx t
        go_wp2
        go_round
        case rel => exact ⟨j + 1, by omega, by go_num, HN⟩
        case measure => simp [intOf]; omega
    · obtain rfl : j = n := by omega
      have hf := Lib.hid (hasI_none (d := d) (fun q hq => hR.out q (by have := HL.out; omega)))
      go_wp2
      go_ret
      exact ⟨ret_bool hf.out.symm, rfl⟩

set_option maxHeartbeats 400000 in
theorem sameInts_any (xs : List Int) (a b : Option Addr) (n c q : Nat) (w : World) (hX : IntsAt w a n xs) (hY : IntsAt w b n xs) :
    Calls Tryd.prog 15 #[.slice a n c, .slice b n q] w (RetB (.bool true) w) := by
  have HX := Lib.hid hX
  have HY := Lib.hid hY
  have hn := hX.le
  clear hX hY
  have k1 : ((n : Int) != (n : Int)) = false := by simp
  go_enter Tryd.func15, Tryd.ntmps15
  go_wp2
  go_loopw [5] (fun i wr => ∃ j : Nat, j ≤ n ∧ i = .int .i64 j ∧ ∃ nd, wr = w.drewN nd) (fun i _ => n - (intOf i).toNat)
  case atStart => exact ⟨0, by omega, rfl, 0, rfl⟩
  case round =>
    obtain ⟨j, hj, rfl, nd, rfl⟩ := hrel
    by_cases hlt : j < n
    · obtain ⟨ba, oa, rfl, hbz, hcc⟩ := HX.out.cell hlt
      obtain ⟨bb, ob, rfl, hbz2, hcc2⟩ := HY.out.cell hlt
      have gx := hcc j hlt
      have gy := hcc2 j hlt
      clear hcc hcc2 HX HY
      generalize xs.getD j 0 = x at *
      have t' : (x != x) = false := by simp
      go_wp2
      go_quiet (fail)
      go_wp2
      go_roundw
      case rel => exact ⟨j + 1, by omega, by go_num, _, rfl⟩
      case measure => simp [intOf]; omega
    · obtain rfl : j = n := by omega
      go_wp2
      go_ret
      exact ⟨rfl, ⟨rfl, rfl, rfl, Nat.le_refl _, fun _ _ => rfl⟩⟩

theorem exceptions_any (f l e k : Int) (a : Option Addr) (n c : Nat) (b : Option Addr) (m q : Nat) (w : World) (hs : (n : Int) + m ≤ 9223372036854775807) :
    Calls Tryd.prog 31 #[serV f l e k a n c b m q] w (RetB (.int .i64 ((n : Int) + m)) w) := by
  go_enter Tryd.func31, Tryd.ntmps31
  go_wp2
  go_ret
  exact ⟨rfl, (Below.refl _ _).alloc (Nat.le_refl _) _⟩

theorem valid_any (f l e k : Int) (a : Option Addr) (n c : Nat) (b : Option Addr) (m q : Nat) (xs ys : List Int) (w : World) (hx : IntsAt w a n xs) (hy : IntsAt w b m ys) (hs : n + m ≤ 9223372036854775807) :
    Calls Tryd.prog 14 #[serV f l e k a n c b m q] w (RetB (.int .i64 (vlE f l e k xs ys)) w) := by
  by_cases h : vl0 f l e k (xs.length + ys.length) = 0
  · exact validB f l e k a n c b m q xs ys w hx hy h
  · exact validA f l e k a n c b m q xs ys w hx hy hs h
theorem rvalid_any (f l e k : Int) (a : Option Addr) (n c : Nat) (b : Option Addr) (m q : Nat) (xs ys : List Int) (w : World) (hx : IntsAt w a n xs) (hy : IntsAt w b m ys) (hs : n + m ≤ 9223372036854775807) :
    Calls Tryd.prog 19 #[serV f l e k a n c b m q] w (RetB (.int .i64 (vlE f l e k xs ys)) w) := by
  by_cases h : vl0 f l e k (xs.length + ys.length) = 0
  · exact rvalidB f l e k a n c b m q xs ys w hx hy h
  · exact rvalidA f l e k a n c b m q xs ys w hx hy hs h

end Go.Proofs.YtibigbfkokendaaDoor
