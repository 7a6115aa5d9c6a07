import Derived.Test.YtgdgpniceaknbaaDoorT5
import Derived.Test.YtgdgpniceaknbaaDoorPlain2
namespace Go.Proofs.YtgdgpniceaknbaaDoor
open Go.RowKit TT

theorem bcell {W w1 : World} (hb : Below W.heap.size W w1) : (∀ b o, b < W.heap.size → w1.cell? ⟨b, o, none⟩ = W.cell? ⟨b, o, none⟩) ∧ (∀ b o, b < W.heap.size → w1.frozen? ⟨b, o, none⟩ = W.frozen? ⟨b, o, none⟩) :=
  ⟨fun b o h => hb.cell (p := ⟨b, o, none⟩) h, fun b o h => hb.frozen (p := ⟨b, o, none⟩) h⟩

/-- A slice of integers that reads as hs. -/
def IntsAt (w : World) (a : Option Addr) (n : Nat) (hs : List Int) : Prop :=
  hs.length = n ∧ n ≤ 9223372036854775807 ∧ (n = 0 ∨ ∃ b off, a = some ⟨b, off, none⟩ ∧ ∀ i, i < n → w.cell? ⟨b, off + i, none⟩ = some (.int .i64 (hs.getD i 0)))
theorem IntsAt.below {w w' : World} {a : Option Addr} {n : Nat} {hs : List Int} (h : IntsAt w a n hs) (hb : Below w.heap.size w w') : IntsAt w' a n hs := by
  obtain ⟨h1, h3, h2⟩ := h
  refine ⟨h1, h3, ?_⟩
  rcases h2 with h2 | ⟨b, off, ha, hc⟩
  · exact Or.inl h2
  · exact Or.inr ⟨b, off, ha, fun i hi => by rw [hb.cell (p := ⟨b, off + i, none⟩) (World.block_lt_of_cell? _ ⟨b, off + i, none⟩ (hc i hi))]; exact hc i hi⟩

theorem last_any (f k : Int) (h1 : 0 ≤ f) (h2 : f ≤ 36524) (h3 : 1 ≤ k) (h4 : k ≤ 20) (a : Option Addr) (n c : Nat) (w : World) :
    Calls Tryd.prog 42 #[.agg #[.int .i64 f, .int .i64 k, .slice a n c]] w fun e w' => e = .returned (.int .i64 (lastD f k)) ∧ Below w.heap.size w w' := by
  go_enter Tryd.func42, Tryd.ntmps42
  go_wp2
  go_ret
  exact ⟨ret_int (by unfold lastD; omega), (Below.refl _ _).alloc (Nat.le_refl _) _⟩

theorem wday_zero {f : Int} (h : wday f = 0) : 0 ≤ f ∧ f ≤ 36524 := by
  by_cases c : okDay f = true
  · exact okDay_of c
  · simp [wday, c] at h

def ValidPost (f k : Int) (hs : List Int) (w : World) (e : Ending) (w' : World) : Prop := e = .returned (.int .i64 (termE f k hs)) ∧ Below w.heap.size w w'

set_option maxHeartbeats 400000 in
/-- the tests ahead of the holidays -/
theorem validA (f k : Int) (hs : List Int) (a : Option Addr) (n c : Nat) (w : World) (hI : IntsAt w a n hs)
    (h : wday f ≠ 0 ∨ k < 1 ∨ 20 < k ∨ okDay (lastD f k) = false ∨ 64 < n ∨ n = 0) :
    Calls Tryd.prog 22 #[.agg #[.int .i64 f, .int .i64 k, .slice a n c]] w (ValidPost f k hs w) := by
  obtain ⟨hlen, hn, hI⟩ := hI
  by_cases c1 : wday f = 0
  rotate_left
  · have hE := Lib.hid (show 13 = termE f k hs by simp [termE, c1])
    have k1 : (wday f != 0) = true := by rw [bne_iff_ne]; exact c1
    clear c1 hI hlen h
    go_enter Tryd.func22, Tryd.ntmps22
    go_wp2_with (go_at_call 15; refine (wday_any _ _).mono ?_; rintro e w' ⟨rfl, rfl⟩)
    go_ret
    exact ⟨ret_int hE.out, (Below.refl _ _).alloc (Nat.le_refl _) _⟩
  obtain ⟨f1, f2⟩ := wday_zero c1
  have C1 := Lib.hid c1
  have k1 : (wday f != 0) = false := by rw [bne_eq_false_iff_eq]; exact c1
  have h' : k < 1 ∨ 20 < k ∨ okDay (lastD f k) = false ∨ 64 < n ∨ n = 0 := by rcases h with h | h; exact absurd c1 h; exact h
  clear c1 h
  by_cases c2 : k < 1
  · have hE := Lib.hid (show 3 = termE f k hs by simp [termE, C1.out, c2])
    clear hI hlen h'
    go_enter Tryd.func22, Tryd.ntmps22
    go_wp2_with (go_at_call 15; refine (wday_any _ _).mono ?_; rintro e w' ⟨rfl, rfl⟩)
    go_ret
    exact ⟨ret_int hE.out, (Below.refl _ _).alloc (Nat.le_refl _) _⟩
  by_cases c3 : 20 < k
  · have hE := Lib.hid (show 3 = termE f k hs by simp [termE, C1.out, c3])
    clear hI hlen h'
    go_enter Tryd.func22, Tryd.ntmps22
    go_wp2_with (go_at_call 15; refine (wday_any _ _).mono ?_; rintro e w' ⟨rfl, rfl⟩)
    go_ret
    exact ⟨ret_int hE.out, (Below.refl _ _).alloc (Nat.le_refl _) _⟩
  by_cases c4 : okDay (lastD f k) = false
  · have hE := Lib.hid (show 13 = termE f k hs by simp [termE, C1.out, c2, c3, c4])
    clear hI hlen h'
    go_enter Tryd.func22, Tryd.ntmps22
    go_wp2_with (first | (go_at_call 15; refine (wday_any _ _).mono ?_; rintro e w' ⟨rfl, rfl⟩) | (go_at_call 42; refine (last_any f k f1 f2 (by omega) (by omega) a n c _).mono ?_; rintro e w1 ⟨rfl, hb⟩) | (go_at_call 37; refine (valid_any _ _).mono ?_; rintro e w' ⟨rfl, rfl⟩))
    go_ret
    exact ⟨ret_int hE.out, ((Below.refl _ _).alloc (Nat.le_refl _) _).trans (hb.mono (by simp))⟩
  have c4' : okDay (lastD f k) = true := by simpa using c4
  clear c4
  by_cases c5 : 64 < n
  · have hE := Lib.hid (show 2 = termE f k hs by simp [termE, C1.out, c2, c3, c4', hlen, c5])
    clear hI hlen h'
    go_enter Tryd.func22, Tryd.ntmps22
    go_wp2_with (first | (go_at_call 15; refine (wday_any _ _).mono ?_; rintro e w' ⟨rfl, rfl⟩) | (go_at_call 42; refine (last_any f k f1 f2 (by omega) (by omega) a n c _).mono ?_; rintro e w1 ⟨rfl, hb⟩; obtain ⟨hc, hf⟩ := bcell hb; simp only [World.size_alloc] at hc hf) | (go_at_call 37; refine (valid_any _ _).mono ?_; rintro e w' ⟨rfl, rfl⟩))
    go_ret
    exact ⟨ret_int hE.out, ((Below.refl _ _).alloc (Nat.le_refl _) _).trans (hb.mono (by simp))⟩
  have c6 : n = 0 := by
    rcases h' with h | h | h | h | h
    · omega
    · omega
    · rw [c4'] at h; cases h
    · omega
    · exact h
  subst c6
  obtain rfl : hs = [] := List.eq_nil_of_length_eq_zero hlen
  have hE := Lib.hid (show 0 = termE f k [] by simp [termE, C1.out, c2, c3, c4', holE])
  clear hI hlen h' c5
  go_enter Tryd.func22, Tryd.ntmps22
  go_wp2_with (first | (go_at_call 15; refine (wday_any _ _).mono ?_; rintro e w' ⟨rfl, rfl⟩) | (go_at_call 42; refine (last_any f k f1 f2 (by omega) (by omega) a 0 c _).mono ?_; rintro e w1 ⟨rfl, hb⟩; obtain ⟨hc, hf⟩ := bcell hb; simp only [World.size_alloc] at hc hf) | (go_at_call 37; refine (valid_any _ _).mono ?_; rintro e w' ⟨rfl, rfl⟩))
  go_loop [3, 4, 32] (fun _ _ i => i = .int .i64 0) (fun _ _ _ => 0)
  case atStart => rfl
  case round =>
    obtain rfl := hrel
    go_wp2
    go_ret
    exact ⟨ret_int hE.out, ((Below.refl _ _).alloc (Nat.le_refl _) _).trans (hb.mono (by simp))⟩
end Go.Proofs.YtgdgpniceaknbaaDoor
