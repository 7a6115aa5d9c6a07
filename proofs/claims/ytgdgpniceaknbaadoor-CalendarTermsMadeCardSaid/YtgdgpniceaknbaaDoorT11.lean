import Derived.Test.YtgdgpniceaknbaaDoorT10
import Derived.IntWalk
namespace Go.Proofs.YtgdgpniceaknbaaDoor
open Go.RowKit TT

theorem same_flip {P : Program} {f : FuncId} {args : Array Value} {w : World} {x : Ending} (h : Calls P f args w fun e w' => e = x ∧ w = w') : Calls P f args w fun e w' => e = x ∧ w' = w :=
  h.mono fun _ _ ⟨a, b⟩ => ⟨a, b.symm⟩
theorem below3 {w w1 w2 : World} (h : Below w.heap.size w w1) (h2 : Below w1.heap.size w1 w2) : Below w.heap.size w w2 := h.trans (h2.mono h.size)

set_option maxHeartbeats 1000000 in
theorem where_no (f k d : Int) (hs : List Int) (a : Option Addr) (n c : Nat) (w : World) (hI : IntsAt w a n hs) (h : whB f k hs d = false) :
    Calls Tryd.prog 20 #[.agg #[.int .i64 f, .int .i64 k, .slice a n c], .int .i64 d] w fun e w' => e = .returned (.tuple #[.int .i64 (whW f k hs d), .int .i64 (whD f k hs d), .bool (whB f k hs d)]) ∧ Below w.heap.size w w' := by
  have HI := Lib.hid hI
  have hB := Lib.hid h.symm
  have hW : Hid (0 = whW f k hs d) := Lib.hid (by unfold whW; rw [h]; rfl)
  have hD : Hid (0 = whD f k hs d) := Lib.hid (by unfold whD; rw [h]; rfl)
  clear hI
  by_cases c0 : termE f k hs = 0
  rotate_left
  · have d0 : (termE f k hs != 0) = true := by rw [bne_iff_ne]; exact c0
    clear c0 h
    go_enter Tryd.func20, Tryd.ntmps20
    go_wp2_with (go_at_call 22; refine (term_any f k hs a n c _ (HI.out.alloc _)).mono ?_; rintro e w1 ⟨rfl, hb⟩; obtain ⟨hc, hf⟩ := bcell hb; simp only [World.size_alloc] at hc hf)
    go_ret3
    exact ⟨ret_iib hW.out hD.out hB.out, below2 hb⟩
  have Z := termE_zero c0
  obtain ⟨_, z1, z2, z3, z4, _, _, _, _, _⟩ := Z
  have C0 := Lib.hid c0
  have d0 : (termE f k hs != 0) = false := by rw [bne_eq_false_iff_eq]; exact c0
  clear c0
  by_cases e1 : d < f
  · clear h
    go_enter Tryd.func20, Tryd.ntmps20
    go_wp2_with (go_at_call 22; refine (term_any f k hs a n c _ (HI.out.alloc _)).mono ?_; rintro e w1 ⟨rfl, hb⟩; obtain ⟨hc, hf⟩ := bcell hb; simp only [World.size_alloc] at hc hf)
    go_ret3
    exact ⟨ret_iib hW.out hD.out hB.out, below2 hb⟩
  by_cases e2 : lastD f k < d
  · clear h
    go_enter Tryd.func20, Tryd.ntmps20
    go_wp2_with (first | (go_at_call 22; refine (term_any f k hs a n c _ (HI.out.alloc _)).mono ?_; rintro e w1 ⟨rfl, hb⟩; obtain ⟨hc, hf⟩ := bcell hb; simp only [World.size_alloc] at hc hf) | (go_at_call 42; refine (last_any f k z1 z2 z3 z4 a n c _).mono ?_; rintro e w2 ⟨rfl, hb2⟩; obtain ⟨hc2, hf2⟩ := bcell hb2; have hz2 : w.heap.size < w1.heap.size := Nat.lt_of_lt_of_le (by simp) hb.size))
    go_ret3
    exact ⟨ret_iib hW.out hD.out hB.out, below3 (below2 hb) hb2⟩
  have hh : hasI hs d = true := by
    have := h; simp only [whB, C0.out] at this; simp at this; exact this (by omega) (by omega)
  clear h
  go_enter Tryd.func20, Tryd.ntmps20
  go_wp2_with (first | (go_at_call 22; refine (term_any f k hs a n c _ (HI.out.alloc _)).mono ?_; rintro e w1 ⟨rfl, hb⟩; obtain ⟨hc, hf⟩ := bcell hb; simp only [World.size_alloc] at hc hf) | (go_at_call 42; refine (last_any f k z1 z2 z3 z4 a n c _).mono ?_; rintro e w2 ⟨rfl, hb2⟩; obtain ⟨hc2, hf2⟩ := bcell hb2; have hz2 : w.heap.size < w1.heap.size := Nat.lt_of_lt_of_le (by simp) hb.size) | (go_at_call 40; refine (free_any f k _ hs a n c _ (((HI.out.alloc _).below hb).below hb2)).mono ?_; rintro e w3 ⟨rfl, hb3⟩))
  go_ret3
  exact ⟨ret_iib hW.out hD.out hB.out, below3 (below3 (below2 hb) hb2) hb3⟩

set_option maxHeartbeats 1000000 in
theorem where_yes (f k d : Int) (hs : List Int) (a : Option Addr) (n c : Nat) (w : World) (hI : IntsAt w a n hs) (h : whB f k hs d = true) :
    Calls Tryd.prog 20 #[.agg #[.int .i64 f, .int .i64 k, .slice a n c], .int .i64 d] w fun e w' => e = .returned (.tuple #[.int .i64 (whW f k hs d), .int .i64 (whD f k hs d), .bool (whB f k hs d)]) ∧ Below w.heap.size w w' := by
  have HI := Lib.hid hI
  have hB := Lib.hid h.symm
  have hW : Hid ((d - f) / 7 + 1 = whW f k hs d) := Lib.hid (by unfold whW; rw [h]; rfl)
  have hD : Hid (wday d = whD f k hs d) := Lib.hid (by unfold whD; rw [h]; rfl)
  clear hI
  have h' : (termE f k hs = 0 ∧ f ≤ d ∧ d ≤ lastD f k) ∧ hasI hs d = false := by simpa [whB] using h
  obtain ⟨⟨c0, e1, e2⟩, hh⟩ := h'
  have Z := termE_zero c0
  obtain ⟨_, z1, z2, z3, z4, _, z5, _, _, _⟩ := Z
  have d0 : (termE f k hs != 0) = false := by rw [bne_eq_false_iff_eq]; exact c0
  clear c0 h
  go_enter Tryd.func20, Tryd.ntmps20
  go_wp2_with (first | (go_at_call 22; refine (term_any f k hs a n c _ (HI.out.alloc _)).mono ?_; rintro e w1 ⟨rfl, hb⟩; obtain ⟨hc, hf⟩ := bcell hb; simp only [World.size_alloc] at hc hf) | (go_at_call 42; refine (last_any f k z1 z2 z3 z4 a n c _).mono ?_; rintro e w2 ⟨rfl, hb2⟩; obtain ⟨hc2, hf2⟩ := bcell hb2; have hz2 : w.heap.size < w1.heap.size := Nat.lt_of_lt_of_le (by simp) hb.size) | (go_at_call 40; refine (free_any f k _ hs a n c _ (((HI.out.alloc _).below hb).below hb2)).mono ?_; rintro e w3 ⟨rfl, hb3⟩))
  have q0 : w3.cell? ⟨w.heap.size, 0, none⟩ = some (.int .i64 f) := by
    rw [hb3.cell (p := ⟨w.heap.size, 0, none⟩) (Nat.lt_of_lt_of_le hz2 hb2.size), hc2 _ _ hz2, hc _ _ (by omega)]; simp
  have BB := Lib.hid (below3 (below3 (below2 hb) hb2) hb3)
  clear hc hf hc2 hf2 hb hb2 hb3
  have x1 : IntKind.i64.wrap (d - f) = d - f := IntWalk.i64_in _ (by omega)
  have x2 : (d - f).tdiv 7 = (d - f) / 7 := Int.tdiv_eq_ediv_of_nonneg (by omega)
  have x3 : IntKind.i64.wrap ((d - f) / 7) = (d - f) / 7 := IntWalk.i64_in _ (by omega)
  have x4 : IntKind.i64.wrap ((d - f) / 7 + 1) = (d - f) / 7 + 1 := IntWalk.i64_in _ (by omega)
  go_quiet ((go_at_call 15; exact Calls.quiet_of_same (same_flip (wday_any _ _))))
  clear x1 x2 x3 x4
  go_wp2
  go_ret3
  exact ⟨ret_iib hW.out hD.out hB.out, BB.out.trans ⟨rfl, rfl, rfl, Nat.le_refl _, fun _ _ => rfl⟩⟩
set_option maxHeartbeats 1000000 in
theorem rwhere_no (f k d : Int) (hs : List Int) (a : Option Addr) (n c : Nat) (w : World) (hI : IntsAt w a n hs) (h : whB f k hs d = false) :
    Calls Tryd.prog 21 #[.agg #[.int .i64 f, .int .i64 k, .slice a n c], .int .i64 d] w fun e w' => e = .returned (.tuple #[.int .i64 (whW f k hs d), .int .i64 (whD f k hs d), .bool (whB f k hs d)]) ∧ Below w.heap.size w w' := by
  have HI := Lib.hid hI
  have hB := Lib.hid h.symm
  have hW : Hid (0 = whW f k hs d) := Lib.hid (by unfold whW; rw [h]; rfl)
  have hD : Hid (0 = whD f k hs d) := Lib.hid (by unfold whD; rw [h]; rfl)
  clear hI
  by_cases c0 : termE f k hs = 0
  rotate_left
  · have d0 : (termE f k hs != 0) = true := by rw [bne_iff_ne]; exact c0
    clear c0 h
    go_enter Tryd.func21, Tryd.ntmps21
    go_wp2_with (go_at_call 23; refine (rterm_any f k hs a n c _ (HI.out.alloc _)).mono ?_; rintro e w1 ⟨rfl, hb⟩; obtain ⟨hc, hf⟩ := bcell hb; simp only [World.size_alloc] at hc hf)
    go_ret3
    exact ⟨ret_iib hW.out hD.out hB.out, below2 hb⟩
  have Z := termE_zero c0
  obtain ⟨_, z1, z2, z3, z4, _, _, _, _, _⟩ := Z
  have C0 := Lib.hid c0
  have d0 : (termE f k hs != 0) = false := by rw [bne_eq_false_iff_eq]; exact c0
  clear c0
  by_cases e1 : d < f
  · clear h
    go_enter Tryd.func21, Tryd.ntmps21
    go_wp2_with (go_at_call 23; refine (rterm_any f k hs a n c _ (HI.out.alloc _)).mono ?_; rintro e w1 ⟨rfl, hb⟩; obtain ⟨hc, hf⟩ := bcell hb; simp only [World.size_alloc] at hc hf)
    go_ret3
    exact ⟨ret_iib hW.out hD.out hB.out, below2 hb⟩
  have hL : lastD f k = f + 7 * k - 1 := rfl
  by_cases e2 : f + 7 * k ≤ d
  · clear h hL
    go_enter Tryd.func21, Tryd.ntmps21
    go_wp2_with (first | (go_at_call 23; refine (rterm_any f k hs a n c _ (HI.out.alloc _)).mono ?_; rintro e w1 ⟨rfl, hb⟩; obtain ⟨hc, hf⟩ := bcell hb; simp only [World.size_alloc] at hc hf))
    go_ret3
    exact ⟨ret_iib hW.out hD.out hB.out, below2 hb⟩
  have hh : hasI hs d = true := by
    have := h; simp only [whB, C0.out] at this; simp at this; exact this (by omega) (by omega)
  clear h hL
  go_enter Tryd.func21, Tryd.ntmps21
  go_wp2_with (first | (go_at_call 23; refine (rterm_any f k hs a n c _ (HI.out.alloc _)).mono ?_; rintro e w1 ⟨rfl, hb⟩; obtain ⟨hc, hf⟩ := bcell hb; simp only [World.size_alloc] at hc hf) | (go_at_call 41; refine (rfree_any f k _ hs a n c _ ((HI.out.alloc _).below hb)).mono ?_; rintro e w3 ⟨rfl, hb3⟩))
  go_ret3
  exact ⟨ret_iib hW.out hD.out hB.out, below3 (below2 hb) hb3⟩

set_option maxHeartbeats 1000000 in
theorem rwhere_yes (f k d : Int) (hs : List Int) (a : Option Addr) (n c : Nat) (w : World) (hI : IntsAt w a n hs) (h : whB f k hs d = true) :
    Calls Tryd.prog 21 #[.agg #[.int .i64 f, .int .i64 k, .slice a n c], .int .i64 d] w fun e w' => e = .returned (.tuple #[.int .i64 (whW f k hs d), .int .i64 (whD f k hs d), .bool (whB f k hs d)]) ∧ Below w.heap.size w w' := by
  have HI := Lib.hid hI
  have hB := Lib.hid h.symm
  have hW : Hid ((d - f) / 7 + 1 = whW f k hs d) := Lib.hid (by unfold whW; rw [h]; rfl)
  have hD : Hid (wday d = whD f k hs d) := Lib.hid (by unfold whD; rw [h]; rfl)
  clear hI
  have h' : (termE f k hs = 0 ∧ f ≤ d ∧ d ≤ lastD f k) ∧ hasI hs d = false := by simpa [whB] using h
  obtain ⟨⟨c0, e1, e2⟩, hh⟩ := h'
  have Z := termE_zero c0
  obtain ⟨_, z1, z2, z3, z4, _, z5, _, _, z6⟩ := Z
  have d0 : (termE f k hs != 0) = false := by rw [bne_eq_false_iff_eq]; exact c0
  have hL : lastD f k = f + 7 * k - 1 := rfl
  have e3 : d < f + 7 * k := by omega
  have hD2 : Hid ((d - f) % 7 = whD f k hs d) := Lib.hid (by rw [← hD.out]; exact (wday_rel z6 e1 z1 (by omega)).symm)
  clear c0 h hL z6
  go_enter Tryd.func21, Tryd.ntmps21
  go_wp2_with (first | (go_at_call 23; refine (rterm_any f k hs a n c _ (HI.out.alloc _)).mono ?_; rintro e w1 ⟨rfl, hb⟩; obtain ⟨hc, hf⟩ := bcell hb; simp only [World.size_alloc] at hc hf) | (go_at_call 41; refine (rfree_any f k _ hs a n c _ ((HI.out.alloc _).below hb)).mono ?_; rintro e w3 ⟨rfl, hb3⟩))
  have q0 : w3.cell? ⟨w.heap.size, 0, none⟩ = some (.int .i64 f) := by
    rw [hb3.cell (p := ⟨w.heap.size, 0, none⟩) (Nat.lt_of_lt_of_le (by simp) hb.size), hc _ _ (by omega)]; simp
  have BB := Lib.hid (below3 (below2 hb) hb3)
  clear hc hf hb hb3
  have x1 : IntKind.i64.wrap (d - f) = d - f := IntWalk.i64_in _ (by omega)
  have x2 : (d - f).tdiv 7 = (d - f) / 7 := Int.tdiv_eq_ediv_of_nonneg (by omega)
  have x3 : IntKind.i64.wrap ((d - f) / 7) = (d - f) / 7 := IntWalk.i64_in _ (by omega)
  have x4 : IntKind.i64.wrap ((d - f) / 7 + 1) = (d - f) / 7 + 1 := IntWalk.i64_in _ (by omega)
  have x5 : (d - f).tmod 7 = (d - f) % 7 := Int.tmod_eq_emod_of_nonneg (by omega)
  have x6 : IntKind.i64.wrap ((d - f) % 7) = (d - f) % 7 := IntWalk.i64_in _ (by omega)
  go_quiet (fail)
  clear x1 x2 x3 x4 x5 x6
  go_wp2
  go_ret3
  exact ⟨ret_iib hW.out hD2.out hB.out, BB.out.trans ⟨rfl, rfl, rfl, Nat.le_refl _, fun _ _ => rfl⟩⟩

theorem where_any (f k d : Int) (hs : List Int) (a : Option Addr) (n c : Nat) (w : World) (hI : IntsAt w a n hs) :
    Calls Tryd.prog 20 #[.agg #[.int .i64 f, .int .i64 k, .slice a n c], .int .i64 d] w fun e w' => e = .returned (.tuple #[.int .i64 (whW f k hs d), .int .i64 (whD f k hs d), .bool (whB f k hs d)]) ∧ Below w.heap.size w w' := by
  cases h : whB f k hs d
  · have := where_no f k d hs a n c w hI h; rw [h] at this; exact this
  · have := where_yes f k d hs a n c w hI h; rw [h] at this; exact this
theorem rwhere_any (f k d : Int) (hs : List Int) (a : Option Addr) (n c : Nat) (w : World) (hI : IntsAt w a n hs) :
    Calls Tryd.prog 21 #[.agg #[.int .i64 f, .int .i64 k, .slice a n c], .int .i64 d] w fun e w' => e = .returned (.tuple #[.int .i64 (whW f k hs d), .int .i64 (whD f k hs d), .bool (whB f k hs d)]) ∧ Below w.heap.size w w' := by
  cases h : whB f k hs d
  · have := rwhere_no f k d hs a n c w hI h; rw [h] at this; exact this
  · have := rwhere_yes f k d hs a n c w hI h; rw [h] at this; exact this
end Go.Proofs.YtgdgpniceaknbaaDoor
