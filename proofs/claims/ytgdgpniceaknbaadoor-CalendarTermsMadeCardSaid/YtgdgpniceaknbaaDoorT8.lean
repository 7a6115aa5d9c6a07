import Derived.Test.YtgdgpniceaknbaaDoorT7
namespace Go.Proofs.YtgdgpniceaknbaaDoor
open Go.RowKit TT

theorem HolW.mk0 {w : World} {f k : Int} {b off n c : Nat} {hs : List Int} (T : TypeId) (hbb : b < w.heap.size) (hh : ∀ i, i < n → w.cell? ⟨b, off + i, none⟩ = some (.int .i64 (hs.getD i 0))) :
    HolW w (w.alloc (.cells #[.int .i64 f, .int .i64 k, .slice (some ⟨b, off, none⟩) n c] T)) f k b off n c hs :=
  ⟨by simp, by simp, by simp, fun i hi => by rw [World.cell?_alloc_past _ _ _ hbb]; exact hh i hi, by simp, hbb, (Below.refl _ _).alloc (Nat.le_refl _) _⟩
theorem HolW.drewN {w wr : World} {f k : Int} {b off n c : Nat} {hs : List Int} (h : HolW w wr f k b off n c hs) (m : Nat) : HolW w (wr.drewN m) f k b off n c hs :=
  ⟨h.c0, h.c1, h.c2, h.hh, h.sz, h.bb, h.bl.trans ⟨rfl, rfl, rfl, Nat.le_refl _, fun _ _ => rfl⟩⟩

set_option maxHeartbeats 400000 in
theorem rvalidA (f k : Int) (hs : List Int) (a : Option Addr) (n c : Nat) (w : World) (hI : IntsAt w a n hs)
    (h : wday f ≠ 0 ∨ k < 1 ∨ 20 < k ∨ okDay (lastD f k) = false ∨ 64 < n ∨ n = 0) :
    Calls Tryd.prog 23 #[.agg #[.int .i64 f, .int .i64 k, .slice a n c]] w (ValidPost f k hs w) := by
  obtain ⟨hlen, hn, hI⟩ := hI
  by_cases c1 : wday f = 0
  rotate_left
  · have hE := Lib.hid (show 13 = termE f k hs by simp [termE, c1])
    have k1 : (wday f != 0) = true := by rw [bne_iff_ne]; exact c1
    clear c1 hI hlen h
    go_enter Tryd.func23, Tryd.ntmps23
    go_wp2_with (go_at_call 16; refine (rwday_any _ _).mono ?_; rintro e w' ⟨rfl, rfl⟩)
    go_ret
    exact ⟨ret_int hE.out, (Below.refl _ _).alloc (Nat.le_refl _) _⟩
  obtain ⟨f1, f2⟩ := wday_zero c1
  have C1 := Lib.hid c1
  have k1 : (wday f != 0) = false := by rw [bne_eq_false_iff_eq]; exact c1
  have h' : k < 1 ∨ 20 < k ∨ okDay (lastD f k) = false ∨ 64 < n ∨ n = 0 := by rcases h with h | h; exact absurd c1 h; exact h
  clear c1 h
  by_cases c2 : k < 1
  · have hE := Lib.hid (show 3 = termE f k hs by simp [termE, C1.out, c2])
    clear hI hlen h'
    go_enter Tryd.func23, Tryd.ntmps23
    go_wp2_with (go_at_call 16; refine (rwday_any _ _).mono ?_; rintro e w' ⟨rfl, rfl⟩)
    go_ret
    exact ⟨ret_int hE.out, (Below.refl _ _).alloc (Nat.le_refl _) _⟩
  by_cases c3 : 20 < k
  · have hE := Lib.hid (show 3 = termE f k hs by simp [termE, C1.out, c3])
    clear hI hlen h'
    go_enter Tryd.func23, Tryd.ntmps23
    go_wp2_with (go_at_call 16; refine (rwday_any _ _).mono ?_; rintro e w' ⟨rfl, rfl⟩)
    go_ret
    exact ⟨ret_int hE.out, (Below.refl _ _).alloc (Nat.le_refl _) _⟩
  have hL := Lib.hid (show lastD f k = f + 7 * k - 1 from rfl)
  by_cases c4 : okDay (lastD f k) = false
  · have hE := Lib.hid (show 13 = termE f k hs by simp [termE, C1.out, c2, c3, c4])
    rw [hL.out] at c4
    clear hI hlen h'
    go_enter Tryd.func23, Tryd.ntmps23
    go_wp2_with (first | (go_at_call 16; refine (rwday_any _ _).mono ?_; rintro e w' ⟨rfl, rfl⟩) | (go_at_call 38; refine (rvalid_any _ _).mono ?_; rintro e w' ⟨rfl, rfl⟩))
    go_ret
    exact ⟨ret_int hE.out, (Below.refl _ _).alloc (Nat.le_refl _) _⟩
  have c4' : okDay (lastD f k) = true := by simpa using c4
  clear c4
  by_cases c5 : 64 < n
  · have hE := Lib.hid (show 2 = termE f k hs by simp [termE, C1.out, c2, c3, c4', hlen, c5])
    rw [hL.out] at c4'
    clear hI hlen h'
    go_enter Tryd.func23, Tryd.ntmps23
    go_wp2_with (first | (go_at_call 16; refine (rwday_any _ _).mono ?_; rintro e w' ⟨rfl, rfl⟩) | (go_at_call 38; refine (rvalid_any _ _).mono ?_; rintro e w' ⟨rfl, rfl⟩))
    go_ret
    exact ⟨ret_int hE.out, (Below.refl _ _).alloc (Nat.le_refl _) _⟩
  have c6 : n = 0 := by
    rcases h' with h | h | h | h | h
    · omega
    · omega
    · rw [c4'] at h; cases h
    · omega
    · exact h
  subst c6
  obtain rfl : hs = [] := List.eq_nil_of_length_eq_zero hlen
  have hE := Lib.hid (show 0 = termE f k [] by simp [termE, C1.out, c2, c3, c4', holE])
  rw [hL.out] at c4'
  clear hI hlen h' c5
  go_enter Tryd.func23, Tryd.ntmps23
  go_wp2_with (first | (go_at_call 16; refine (rwday_any _ _).mono ?_; rintro e w' ⟨rfl, rfl⟩) | (go_at_call 38; refine (rvalid_any _ _).mono ?_; rintro e w' ⟨rfl, rfl⟩))
  go_loop [4] (fun i => i = .int .i64 0) (fun _ => 0)
  case atStart => rfl
  case round =>
    obtain rfl := hrel
    go_wp2
    go_ret
    exact ⟨ret_int hE.out, (Below.refl _ _).alloc (Nat.le_refl _) _⟩

set_option maxHeartbeats 1000000 in
/-- the holidays -/
theorem rvalidB (f k : Int) (hs : List Int) (b off n c : Nat) (w : World) (hlen : hs.length = n) (hn0 : 0 < n) (hn : n ≤ 64)
    (hh : ∀ i, i < n → w.cell? ⟨b, off + i, none⟩ = some (.int .i64 (hs.getD i 0)))
    (c1 : wday f = 0) (k1 : 1 ≤ k) (k2 : k ≤ 20) (c4 : okDay (lastD f k) = true) :
    Calls Tryd.prog 23 #[.agg #[.int .i64 f, .int .i64 k, .slice (some ⟨b, off, none⟩) n c]] w (ValidPost f k hs w) := by
  obtain ⟨f1, f2⟩ := wday_zero c1
  have hE := Lib.hid (show holE f (f + 7 * k - 1) none hs = termE f k hs by simp [termE, c1, c4]; rw [if_neg (by omega), if_neg (by omega)]; rfl)
  have kk : (wday f != 0) = false := by rw [bne_eq_false_iff_eq]; exact c1
  have hbb : b < w.heap.size := World.block_lt_of_cell? _ ⟨b, off + 0, none⟩ (hh 0 hn0)
  have HH := Lib.hid hh
  have HL := Lib.hid hlen
  have c5 : okDay (f + 7 * k - 1) = true := c4
  clear c1 hh hlen c4
  go_enter Tryd.func23, Tryd.ntmps23
  go_wp2_with (first | (go_at_call 16; refine (rwday_any _ _).mono ?_; rintro e w' ⟨rfl, rfl⟩) | (go_at_call 38; refine (rvalid_any _ _).mono ?_; rintro e w' ⟨rfl, rfl⟩))
  go_loopw [4] (fun i wr => ∃ j : Nat, j ≤ n ∧ i = .int .i64 j ∧ Hid (holE f (f + 7 * k - 1) none hs = holE f (f + 7 * k - 1) (pv hs j) (hs.drop j)) ∧ HolW w wr f k b off n c hs) (fun i _ => n - (intOf i).toNat)
  case atStart => exact ⟨0, by omega, rfl, Lib.hid (by rw [holE_start]), HolW.mk0 37 hbb HH.out⟩
  case round =>
    obtain ⟨j, hj, rfl, hR, hW⟩ := hrel
    obtain ⟨g0, g1, g2, gh, gz, gb, gB⟩ := id hW
    by_cases hlt : j < n
    · have hstep := Lib.hid (holE_step f (f + 7 * k - 1) hs j (by rw [HL.out]; exact hlt))
      have gj := gh j hlt
      have gj1 : 0 < j → wr.cell? ⟨b, off + (j - 1), none⟩ = some (.int .i64 (hs.getD (j - 1) 0)) := fun _ => gh (j - 1) (by omega)
      have gbz : b < wr.heap.size := Nat.lt_trans gb gz
      clear gh gB
      generalize hs.getD j 0 = h at *
      generalize hs.getD (j - 1) 0 = h0 at *
      have HW := Lib.hid hW
      clear hW
      by_cases t1 : h < f
      · have hfin : Hid (13 = termE f k hs) := Lib.hid (by rw [← hE.out, hR.out, hstep.out, if_pos (Or.inl t1)])
        have d1 : decide (h < f) = true := by simpa using t1
        clear gj1
        go_wp2
        go_quiet (fail)
        go_wp2
        go_ret
        exact ⟨ret_int hfin.out, (HW.out.drewN _).bl⟩
      have t1' : f ≤ h := by omega
      have d1 : decide (h < f) = false := by simpa using t1
      clear t1
      by_cases t2 : f + 7 * k - 1 < h
      · have hfin : Hid (13 = termE f k hs) := Lib.hid (by rw [← hE.out, hR.out, hstep.out, if_pos (Or.inr t2)])
        clear gj1
        go_wp2
        go_quiet (fail)
        go_wp2
        go_ret
        exact ⟨ret_int hfin.out, (HW.out.drewN _).bl⟩
      have t2' : h ≤ f + 7 * k - 1 := by omega
      clear t2
      by_cases t3 : 0 < j
      · have gk := gj1 t3
        have gk' : wr.cell? ⟨b, off + ((j : Int) - 1).toNat, none⟩ = some (.int .i64 h0) := by rw [show ((j : Int) - 1).toNat = j - 1 by omega]; exact gk
        have d3 : decide (0 < (j : Int)) = true := by simp; omega
        clear gj1
        by_cases t4 : h ≤ h0
        · have hfin : Hid (11 = termE f k hs) := Lib.hid (by rw [← hE.out, hR.out, hstep.out, if_neg (by omega), if_pos ⟨t3, t4⟩])
          go_wp2
          go_quiet (fail)
          go_wp2
          go_quiet (fail)
          go_wp2
          go_ret
          exact ⟨ret_int hfin.out, ((HW.out.drewN _).drewN _).bl⟩
        · have hnx : Hid (holE f (f + 7 * k - 1) none hs = holE f (f + 7 * k - 1) (pv hs (j + 1)) (hs.drop (j + 1))) := Lib.hid (by rw [hR.out, hstep.out, if_neg (by omega), if_neg (fun h => t4 h.2)])
          go_wp2
          go_quiet (fail)
          go_wp2
          go_quiet (fail)
          go_wp2
          go_roundw
          case rel => exact ⟨j + 1, by omega, by go_num, hnx, HW.out.drewN _⟩
          case measure => simp [intOf]; omega
      · have d3 : decide (0 < (j : Int)) = false := by simp; omega
        clear gj1
        have hnx : Hid (holE f (f + 7 * k - 1) none hs = holE f (f + 7 * k - 1) (pv hs (j + 1)) (hs.drop (j + 1))) := Lib.hid (by rw [hR.out, hstep.out, if_neg (by omega), if_neg (fun h => t3 h.1)])
        go_wp2
        go_quiet (fail)
        go_wp2
        go_quiet (fail)
        go_wp2
        go_roundw
        case rel => exact ⟨j + 1, by omega, by go_num, hnx, HW.out.drewN _⟩
        case measure => simp [intOf]; omega
    · obtain rfl : j = n := by omega
      have hfin : Hid (0 = termE f k hs) := Lib.hid (by have := HL.out; subst this; rw [← hE.out, hR.out, holE_end])
      have hB := hW.bl
      clear hW gh gB
      go_wp2
      go_ret
      exact ⟨ret_int hfin.out, hB⟩

theorem rterm_any (f k : Int) (hs : List Int) (a : Option Addr) (n c : Nat) (w : World) (hI : IntsAt w a n hs) :
    Calls Tryd.prog 23 #[.agg #[.int .i64 f, .int .i64 k, .slice a n c]] w fun e w' => e = .returned (.int .i64 (termE f k hs)) ∧ Below w.heap.size w w' := by
  by_cases h : wday f ≠ 0 ∨ k < 1 ∨ 20 < k ∨ okDay (lastD f k) = false ∨ 64 < n ∨ n = 0
  · exact rvalidA f k hs a n c w hI h
  · have h' : wday f = 0 ∧ 1 ≤ k ∧ k ≤ 20 ∧ okDay (lastD f k) = true ∧ n ≤ 64 ∧ 0 < n := by
      simp only [not_or, Decidable.not_not] at h
      obtain ⟨h1, h2, h3, h4, h5, h6⟩ := h
      exact ⟨h1, by omega, by omega, by simpa using h4, by omega, by omega⟩
    obtain ⟨h1, h2, h3, h4, h5, h6⟩ := h'
    obtain ⟨hl, _, h0 | ⟨b, off, rfl, hc⟩⟩ := hI
    · omega
    · exact rvalidB f k hs b off n c w hl h6 h5 hc h1 h2 h3 h4
end Go.Proofs.YtgdgpniceaknbaaDoor
