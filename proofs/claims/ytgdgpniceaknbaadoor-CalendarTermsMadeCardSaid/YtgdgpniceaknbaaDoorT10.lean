import Derived.Test.YtgdgpniceaknbaaDoorT9
namespace Go.Proofs.YtgdgpniceaknbaaDoor
open Go.RowKit TT

theorem IntsAt.alloc {w : World} {a : Option Addr} {n : Nat} {hs : List Int} (h : IntsAt w a n hs) (o : Obj) : IntsAt (w.alloc o) a n hs := h.below ((Below.refl _ _).alloc (Nat.le_refl _) o)
theorem ret_ib {a b : Int} {c d : Bool} (h : a = b) (h' : c = d) : Ending.returned (.tuple #[.int .i64 a, .bool c]) = .returned (.tuple #[.int .i64 b, .bool d]) := by rw [h, h']
theorem ret_iib {a b a' b' : Int} {c d : Bool} (h : a = b) (h2 : a' = b') (h' : c = d) : Ending.returned (.tuple #[.int .i64 a, .int .i64 a', .bool c]) = .returned (.tuple #[.int .i64 b, .int .i64 b', .bool d]) := by rw [h, h2, h']
theorem below2 {w w1 : World} {o : Obj} (hb : Below (w.alloc o).heap.size (w.alloc o) w1) : Below w.heap.size w w1 := ((Below.refl _ _).alloc (Nat.le_refl _) o).trans (hb.mono (by simp))

set_option maxHeartbeats 1000000 in
theorem at_any (f k week wd : Int) (hs : List Int) (a : Option Addr) (n c : Nat) (w : World) (hI : IntsAt w a n hs) :
    Calls Tryd.prog 18 #[.agg #[.int .i64 f, .int .i64 k, .slice a n c], .int .i64 week, .int .i64 wd] w fun e w' => e = .returned (.tuple #[.int .i64 (atV f k hs week wd), .bool (atB f k hs week wd)]) ∧ Below w.heap.size w w' := by
  have HI := Lib.hid hI
  clear hI
  by_cases c0 : termE f k hs = 0
  rotate_left
  · have hB : Hid (false = atB f k hs week wd) := Lib.hid (by simp [atB, c0])
    have hV : Hid (0 = atV f k hs week wd) := Lib.hid (by unfold atV; rw [← hB.out]; rfl)
    have d0 : (termE f k hs != 0) = true := by rw [bne_iff_ne]; exact c0
    clear c0
    go_enter Tryd.func18, Tryd.ntmps18
    go_wp2_with (go_at_call 22; refine (term_any f k hs a n c _ (HI.out.alloc _)).mono ?_; rintro e w1 ⟨rfl, hb⟩; obtain ⟨hc, hf⟩ := bcell hb; simp only [World.size_alloc] at hc hf)
    go_ret2
    exact ⟨ret_ib hV.out hB.out, below2 hb⟩
  have Z := termE_zero c0
  obtain ⟨_, z1, z2, z3, z4, _, _, _, _, _⟩ := Z
  have C0 := Lib.hid c0
  have d0 : (termE f k hs != 0) = false := by rw [bne_eq_false_iff_eq]; exact c0
  clear c0
  by_cases c1 : 1 ≤ week ∧ week ≤ k ∧ 0 ≤ wd ∧ wd ≤ 6
  rotate_left
  · have hB : Hid (false = atB f k hs week wd) := Lib.hid (by simp [atB]; intro _ h1 h2 h3 h4; exact absurd ⟨h1, h2, h3, h4⟩ c1)
    have hV : Hid (0 = atV f k hs week wd) := Lib.hid (by unfold atV; rw [← hB.out]; rfl)
    by_cases e1 : week < 1
    · clear c1
      go_enter Tryd.func18, Tryd.ntmps18
      go_wp2_with (go_at_call 22; refine (term_any f k hs a n c _ (HI.out.alloc _)).mono ?_; rintro e w1 ⟨rfl, hb⟩; obtain ⟨hc, hf⟩ := bcell hb; simp only [World.size_alloc] at hc hf)
      go_ret2
      exact ⟨ret_ib hV.out hB.out, below2 hb⟩
    by_cases e2 : k < week
    · clear c1
      go_enter Tryd.func18, Tryd.ntmps18
      go_wp2_with (go_at_call 22; refine (term_any f k hs a n c _ (HI.out.alloc _)).mono ?_; rintro e w1 ⟨rfl, hb⟩; obtain ⟨hc, hf⟩ := bcell hb; simp only [World.size_alloc] at hc hf)
      go_ret2
      exact ⟨ret_ib hV.out hB.out, below2 hb⟩
    by_cases e3 : wd < 0
    · clear c1
      go_enter Tryd.func18, Tryd.ntmps18
      go_wp2_with (go_at_call 22; refine (term_any f k hs a n c _ (HI.out.alloc _)).mono ?_; rintro e w1 ⟨rfl, hb⟩; obtain ⟨hc, hf⟩ := bcell hb; simp only [World.size_alloc] at hc hf)
      go_ret2
      exact ⟨ret_ib hV.out hB.out, below2 hb⟩
    have e4 : 7 ≤ wd := by omega
    clear c1
    go_enter Tryd.func18, Tryd.ntmps18
    go_wp2_with (go_at_call 22; refine (term_any f k hs a n c _ (HI.out.alloc _)).mono ?_; rintro e w1 ⟨rfl, hb⟩; obtain ⟨hc, hf⟩ := bcell hb; simp only [World.size_alloc] at hc hf)
    go_ret2
    exact ⟨ret_ib hV.out hB.out, below2 hb⟩
  obtain ⟨e1, e2, e3, e4⟩ := c1
  have hB : Hid ((!(hasI hs (f + 7 * (week - 1) + wd))) = atB f k hs week wd) := Lib.hid (by simp [atB, C0.out, e1, e2, e3, e4])
  cases hh : hasI hs (f + 7 * (week - 1) + wd)
  · have hV : Hid (f + 7 * (week - 1) + wd = atV f k hs week wd) := Lib.hid (by unfold atV; rw [← hB.out, hh]; rfl)
    rw [hh] at hB
    go_enter Tryd.func18, Tryd.ntmps18
    go_wp2_with (first | (go_at_call 22; refine (term_any f k hs a n c _ (HI.out.alloc _)).mono ?_; rintro e w1 ⟨rfl, hb⟩; obtain ⟨hc, hf⟩ := bcell hb; simp only [World.size_alloc] at hc hf) | (go_at_call 40; refine (free_any f k _ hs a n c _ ((HI.out.alloc _).below hb)).mono ?_; rintro e w2 ⟨rfl, hb2⟩))
    go_ret2
    exact ⟨ret_ib hV.out hB.out, (below2 hb).trans (hb2.mono (Nat.le_trans (Nat.le_succ _) (by simpa using hb.size)))⟩
  · have hV : Hid (0 = atV f k hs week wd) := Lib.hid (by unfold atV; rw [← hB.out, hh]; rfl)
    rw [hh] at hB
    go_enter Tryd.func18, Tryd.ntmps18
    go_wp2_with (first | (go_at_call 22; refine (term_any f k hs a n c _ (HI.out.alloc _)).mono ?_; rintro e w1 ⟨rfl, hb⟩; obtain ⟨hc, hf⟩ := bcell hb; simp only [World.size_alloc] at hc hf) | (go_at_call 40; refine (free_any f k _ hs a n c _ ((HI.out.alloc _).below hb)).mono ?_; rintro e w2 ⟨rfl, hb2⟩))
    go_ret2
    exact ⟨ret_ib hV.out hB.out, (below2 hb).trans (hb2.mono (Nat.le_trans (Nat.le_succ _) (by simpa using hb.size)))⟩
set_option maxHeartbeats 1000000 in
theorem rat_any (f k week wd : Int) (hs : List Int) (a : Option Addr) (n c : Nat) (w : World) (hI : IntsAt w a n hs) :
    Calls Tryd.prog 19 #[.agg #[.int .i64 f, .int .i64 k, .slice a n c], .int .i64 week, .int .i64 wd] w fun e w' => e = .returned (.tuple #[.int .i64 (atV f k hs week wd), .bool (atB f k hs week wd)]) ∧ Below w.heap.size w w' := by
  have HI := Lib.hid hI
  clear hI
  by_cases c0 : termE f k hs = 0
  rotate_left
  · have hB : Hid (false = atB f k hs week wd) := Lib.hid (by simp [atB, c0])
    have hV : Hid (0 = atV f k hs week wd) := Lib.hid (by unfold atV; rw [← hB.out]; rfl)
    have d0 : (termE f k hs != 0) = true := by rw [bne_iff_ne]; exact c0
    clear c0
    go_enter Tryd.func19, Tryd.ntmps19
    go_wp2_with (go_at_call 23; refine (rterm_any f k hs a n c _ (HI.out.alloc _)).mono ?_; rintro e w1 ⟨rfl, hb⟩; obtain ⟨hc, hf⟩ := bcell hb; simp only [World.size_alloc] at hc hf)
    go_ret2
    exact ⟨ret_ib hV.out hB.out, below2 hb⟩
  have Z := termE_zero c0
  obtain ⟨_, z1, z2, z3, z4, _, _, _, _, _⟩ := Z
  have C0 := Lib.hid c0
  have d0 : (termE f k hs != 0) = false := by rw [bne_eq_false_iff_eq]; exact c0
  clear c0
  by_cases c1 : 1 ≤ week ∧ week ≤ k ∧ 0 ≤ wd ∧ wd ≤ 6
  rotate_left
  · have hB : Hid (false = atB f k hs week wd) := Lib.hid (by simp [atB]; intro _ h1 h2 h3 h4; exact absurd ⟨h1, h2, h3, h4⟩ c1)
    have hV : Hid (0 = atV f k hs week wd) := Lib.hid (by unfold atV; rw [← hB.out]; rfl)
    by_cases e1 : week < 1
    · clear c1
      go_enter Tryd.func19, Tryd.ntmps19
      go_wp2_with (go_at_call 23; refine (rterm_any f k hs a n c _ (HI.out.alloc _)).mono ?_; rintro e w1 ⟨rfl, hb⟩; obtain ⟨hc, hf⟩ := bcell hb; simp only [World.size_alloc] at hc hf)
      go_ret2
      exact ⟨ret_ib hV.out hB.out, below2 hb⟩
    by_cases e2 : k < week
    · clear c1
      go_enter Tryd.func19, Tryd.ntmps19
      go_wp2_with (go_at_call 23; refine (rterm_any f k hs a n c _ (HI.out.alloc _)).mono ?_; rintro e w1 ⟨rfl, hb⟩; obtain ⟨hc, hf⟩ := bcell hb; simp only [World.size_alloc] at hc hf)
      go_ret2
      exact ⟨ret_ib hV.out hB.out, below2 hb⟩
    by_cases e3 : wd < 0
    · clear c1
      go_enter Tryd.func19, Tryd.ntmps19
      go_wp2_with (go_at_call 23; refine (rterm_any f k hs a n c _ (HI.out.alloc _)).mono ?_; rintro e w1 ⟨rfl, hb⟩; obtain ⟨hc, hf⟩ := bcell hb; simp only [World.size_alloc] at hc hf)
      go_ret2
      exact ⟨ret_ib hV.out hB.out, below2 hb⟩
    have e4 : 7 ≤ wd := by omega
    clear c1
    go_enter Tryd.func19, Tryd.ntmps19
    go_wp2_with (go_at_call 23; refine (rterm_any f k hs a n c _ (HI.out.alloc _)).mono ?_; rintro e w1 ⟨rfl, hb⟩; obtain ⟨hc, hf⟩ := bcell hb; simp only [World.size_alloc] at hc hf)
    go_ret2
    exact ⟨ret_ib hV.out hB.out, below2 hb⟩
  obtain ⟨e1, e2, e3, e4⟩ := c1
  have hB : Hid ((!(hasI hs (f + 7 * (week - 1) + wd))) = atB f k hs week wd) := Lib.hid (by simp [atB, C0.out, e1, e2, e3, e4])
  cases hh : hasI hs (f + 7 * (week - 1) + wd)
  · have hV : Hid (f + 7 * (week - 1) + wd = atV f k hs week wd) := Lib.hid (by unfold atV; rw [← hB.out, hh]; rfl)
    rw [hh] at hB
    go_enter Tryd.func19, Tryd.ntmps19
    go_wp2_with (first | (go_at_call 23; refine (rterm_any f k hs a n c _ (HI.out.alloc _)).mono ?_; rintro e w1 ⟨rfl, hb⟩; obtain ⟨hc, hf⟩ := bcell hb; simp only [World.size_alloc] at hc hf) | (go_at_call 41; refine (rfree_any f k _ hs a n c _ ((HI.out.alloc _).below hb)).mono ?_; rintro e w2 ⟨rfl, hb2⟩))
    go_ret2
    exact ⟨ret_ib hV.out hB.out, (below2 hb).trans (hb2.mono (Nat.le_trans (Nat.le_succ _) (by simpa using hb.size)))⟩
  · have hV : Hid (0 = atV f k hs week wd) := Lib.hid (by unfold atV; rw [← hB.out, hh]; rfl)
    rw [hh] at hB
    go_enter Tryd.func19, Tryd.ntmps19
    go_wp2_with (first | (go_at_call 23; refine (rterm_any f k hs a n c _ (HI.out.alloc _)).mono ?_; rintro e w1 ⟨rfl, hb⟩; obtain ⟨hc, hf⟩ := bcell hb; simp only [World.size_alloc] at hc hf) | (go_at_call 41; refine (rfree_any f k _ hs a n c _ ((HI.out.alloc _).below hb)).mono ?_; rintro e w2 ⟨rfl, hb2⟩))
    go_ret2
    exact ⟨ret_ib hV.out hB.out, (below2 hb).trans (hb2.mono (Nat.le_trans (Nat.le_succ _) (by simpa using hb.size)))⟩
end Go.Proofs.YtgdgpniceaknbaaDoor
