import Derived.Test.YtgdgpniceaknbaaDoorT6
namespace Go.Proofs.YtgdgpniceaknbaaDoor
open Go.RowKit TT

/-- what a round of the holidays' loop knows of the world -/
structure HolW (w wr : World) (f k : Int) (b off n c : Nat) (hs : List Int) : Prop where
  c0 : wr.cell? ⟨w.heap.size, 0, none⟩ = some (.int .i64 f)
  c1 : wr.cell? ⟨w.heap.size, 1, none⟩ = some (.int .i64 k)
  c2 : wr.cell? ⟨w.heap.size, 2, none⟩ = some (.slice (some ⟨b, off, none⟩) n c)
  hh : ∀ i, i < n → wr.cell? ⟨b, off + i, none⟩ = some (.int .i64 (hs.getD i 0))
  sz : w.heap.size < wr.heap.size
  bb : b < w.heap.size
  bl : Below w.heap.size w wr

theorem HolW.next {w wr w2 : World} {f k : Int} {b off n c : Nat} {hs : List Int} (h : HolW w wr f k b off n c hs) (hb : Below wr.heap.size wr w2) : HolW w w2 f k b off n c hs :=
  ⟨by rw [hb.cell (p := ⟨w.heap.size, 0, none⟩) h.sz]; exact h.c0, by rw [hb.cell (p := ⟨w.heap.size, 1, none⟩) h.sz]; exact h.c1, by rw [hb.cell (p := ⟨w.heap.size, 2, none⟩) h.sz]; exact h.c2,
   fun i hi => by rw [hb.cell (p := ⟨b, off + i, none⟩) (Nat.lt_trans h.bb h.sz)]; exact h.hh i hi, Nat.lt_of_lt_of_le h.sz hb.size, h.bb, h.bl.trans (hb.mono (Nat.le_of_lt h.sz))⟩

set_option maxHeartbeats 1000000 in
/-- the holidays -/
theorem validB (f k : Int) (hs : List Int) (b off n c : Nat) (w : World) (hlen : hs.length = n) (hn0 : 0 < n) (hn : n ≤ 64)
    (hh : ∀ i, i < n → w.cell? ⟨b, off + i, none⟩ = some (.int .i64 (hs.getD i 0)))
    (c1 : wday f = 0) (k1 : 1 ≤ k) (k2 : k ≤ 20) (c4 : okDay (lastD f k) = true) :
    Calls Tryd.prog 22 #[.agg #[.int .i64 f, .int .i64 k, .slice (some ⟨b, off, none⟩) n c]] w (ValidPost f k hs w) := by
  obtain ⟨f1, f2⟩ := wday_zero c1
  have hE := Lib.hid (show holE f (lastD f k) none hs = termE f k hs by simp [termE, c1, c4]; omega)
  have kk : (wday f != 0) = false := by rw [bne_eq_false_iff_eq]; exact c1
  have hbb : b < w.heap.size := World.block_lt_of_cell? _ ⟨b, off + 0, none⟩ (hh 0 hn0)
  have HH := Lib.hid hh
  have HL := Lib.hid hlen
  clear c1 hh hlen
  go_enter Tryd.func22, Tryd.ntmps22
  go_wp2_with (first | (go_at_call 15; refine (wday_any _ _).mono ?_; rintro e w' ⟨rfl, rfl⟩) | (go_at_call 42; refine (last_any f k f1 f2 k1 k2 _ n c _).mono ?_; rintro e w1 ⟨rfl, hb⟩; obtain ⟨hc, hf⟩ := bcell hb; simp only [World.size_alloc] at hc hf) | (go_at_call 37; refine (valid_any _ _).mono ?_; rintro e w' ⟨rfl, rfl⟩))
  have hW : HolW w w1 f k b off n c hs := by
    have hz := hb.size
    simp only [World.size_alloc] at hz
    refine ⟨?_, ?_, ?_, ?_, by omega, hbb, ((Below.refl _ _).alloc (Nat.le_refl _) _).trans (hb.mono (by simp))⟩
    · rw [hc _ _ (by omega)]; simp
    · rw [hc _ _ (by omega)]; simp
    · rw [hc _ _ (by omega)]; simp
    · intro i hi; rw [hc _ _ (by omega), World.cell?_alloc_past _ _ _ hbb]; exact HH.out i hi
  clear hc hf hb
  go_loopw [3, 4, 32] (fun _ _ i wr => ∃ j : Nat, j ≤ n ∧ i = .int .i64 j ∧ Hid (holE f (lastD f k) none hs = holE f (lastD f k) (pv hs j) (hs.drop j)) ∧ HolW w wr f k b off n c hs) (fun _ _ i _ => n - (intOf i).toNat)
  case atStart => exact ⟨0, by omega, rfl, Lib.hid (by rw [holE_start]), hW⟩
  case round =>
    clear hW
    obtain ⟨j, hj, rfl, hR, hW⟩ := hrel
    by_cases hlt : j < n
    · have hstep := Lib.hid (holE_step f (lastD f k) hs j (by rw [HL.out]; exact hlt))
      obtain ⟨g0, g1, g2, gh, gz, gb, gB⟩ := id hW
      have gj := gh j hlt
      have gj1 : 0 < j → wr.cell? ⟨b, off + (j - 1), none⟩ = some (.int .i64 (hs.getD (j - 1) 0)) := fun _ => gh (j - 1) (by omega)
      have gbz : b < wr.heap.size := Nat.lt_trans gb gz
      clear gh gB
      generalize hs.getD j 0 = h at *
      generalize hs.getD (j - 1) 0 = h0 at *
      have HW := Lib.hid hW
      clear hW
      by_cases t1 : h < f
      · have hfin : Hid (13 = termE f k hs) := Lib.hid (by rw [← hE.out, hR.out, hstep.out, if_pos (Or.inl t1)])
        clear gj1
        go_wp2_with fail
        go_ret
        exact ⟨ret_int hfin.out, HW.out.bl⟩
      have t1' : f ≤ h := by omega
      clear t1
      by_cases t2 : lastD f k < h
      · have hfin : Hid (13 = termE f k hs) := Lib.hid (by rw [← hE.out, hR.out, hstep.out, if_pos (Or.inr t2)])
        clear gj1
        go_wp2_with (go_at_call 42; refine (last_any f k f1 f2 k1 k2 _ n c _).mono ?_; rintro e w2 ⟨rfl, hb⟩; obtain ⟨hc, hf⟩ := bcell hb)
        go_ret
        exact ⟨ret_int hfin.out, (HW.out.next hb).bl⟩
      have t2' : h ≤ lastD f k := by omega
      clear t2
      by_cases t3 : 0 < j
      · have gk := gj1 t3
        have gk' : wr.cell? ⟨b, off + ((j : Int) - 1).toNat, none⟩ = some (.int .i64 h0) := by rw [show ((j : Int) - 1).toNat = j - 1 by omega]; exact gk
        clear gj1
        by_cases t4 : h ≤ h0
        · have hfin : Hid (11 = termE f k hs) := Lib.hid (by rw [← hE.out, hR.out, hstep.out, if_neg (by omega), if_pos ⟨t3, t4⟩])
          go_wp2_with (go_at_call 42; refine (last_any f k f1 f2 k1 k2 _ n c _).mono ?_; rintro e w2 ⟨rfl, hb⟩; obtain ⟨hc, hf⟩ := bcell hb)
          go_ret
          exact ⟨ret_int hfin.out, (HW.out.next hb).bl⟩
        · have hnx : Hid (holE f (lastD f k) none hs = holE f (lastD f k) (pv hs (j + 1)) (hs.drop (j + 1))) := Lib.hid (by rw [hR.out, hstep.out, if_neg (by omega), if_neg (fun h => t4 h.2)])
          go_wp2_with (go_at_call 42; refine (last_any f k f1 f2 k1 k2 _ n c _).mono ?_; rintro e w2 ⟨rfl, hb⟩; obtain ⟨hc, hf⟩ := bcell hb)
          go_roundw
          case rel => exact ⟨j + 1, by omega, by go_num, hnx, HW.out.next hb⟩
          case measure => simp [intOf]; omega
      · clear gj1
        have hnx : Hid (holE f (lastD f k) none hs = holE f (lastD f k) (pv hs (j + 1)) (hs.drop (j + 1))) := Lib.hid (by rw [hR.out, hstep.out, if_neg (by omega), if_neg (fun h => t3 h.1)])
        go_wp2_with (go_at_call 42; refine (last_any f k f1 f2 k1 k2 _ n c _).mono ?_; rintro e w2 ⟨rfl, hb⟩; obtain ⟨hc, hf⟩ := bcell hb)
        go_roundw
        case rel => exact ⟨j + 1, by omega, by go_num, hnx, HW.out.next hb⟩
        case measure => simp [intOf]; omega
    · obtain rfl : j = n := by omega
      have hfin : Hid (0 = termE f k hs) := Lib.hid (by have := HL.out; subst this; rw [← hE.out, hR.out, holE_end])
      have hB := hW.bl
      clear hW
      go_wp2
      go_ret
      exact ⟨ret_int hfin.out, hB⟩

theorem term_any (f k : Int) (hs : List Int) (a : Option Addr) (n c : Nat) (w : World) (hI : IntsAt w a n hs) :
    Calls Tryd.prog 22 #[.agg #[.int .i64 f, .int .i64 k, .slice a n c]] w fun e w' => e = .returned (.int .i64 (termE f k hs)) ∧ Below w.heap.size w w' := by
  by_cases h : wday f ≠ 0 ∨ k < 1 ∨ 20 < k ∨ okDay (lastD f k) = false ∨ 64 < n ∨ n = 0
  · exact validA f k hs a n c w hI h
  · have h' : wday f = 0 ∧ 1 ≤ k ∧ k ≤ 20 ∧ okDay (lastD f k) = true ∧ n ≤ 64 ∧ 0 < n := by
      simp only [not_or, Decidable.not_not] at h
      obtain ⟨h1, h2, h3, h4, h5, h6⟩ := h
      exact ⟨h1, by omega, by omega, by simpa using h4, by omega, by omega⟩
    obtain ⟨h1, h2, h3, h4, h5, h6⟩ := h'
    obtain ⟨hl, _, h0 | ⟨b, off, rfl, hc⟩⟩ := hI
    · omega
    · exact validB f k hs b off n c w hl h6 h5 hc h1 h2 h3 h4
end Go.Proofs.YtgdgpniceaknbaaDoor
