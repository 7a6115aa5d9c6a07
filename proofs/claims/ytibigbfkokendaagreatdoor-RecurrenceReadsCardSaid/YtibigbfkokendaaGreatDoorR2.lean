/- Series: Valid of the program. -/
import Derived.Test.YtibigbfkokendaaGreatDoorR1
namespace Go.Proofs.YtibigbfkokendaaGreatDoor
open Go.RowKit TT

theorem IntsAt.cell {w : World} {a : Option Addr} {n : Nat} {hs : List Int} (h : IntsAt w a n hs) {j : Nat} (hj : j < n) :
    ∃ b off, a = some ⟨b, off, none⟩ ∧ b < w.heap.size ∧ ∀ i, i < n → w.cell? ⟨b, off + i, none⟩ = some (.int .i64 (hs.getD i 0)) := by
  obtain ⟨_, _, h0 | ⟨b, off, ha, hc⟩⟩ := h
  · omega
  · exact ⟨b, off, ha, lt_of_cell (hc j hj), hc⟩
theorem IntsAt.len {w : World} {a : Option Addr} {n : Nat} {hs : List Int} (h : IntsAt w a n hs) : hs.length = n := h.1
theorem IntsAt.le {w : World} {a : Option Addr} {n : Nat} {hs : List Int} (h : IntsAt w a n hs) : n ≤ 9223372036854775807 := h.2.1

theorem below_any {B : Nat} {w0 w w2 : World} (h : Below B w0 w) (hB : B ≤ w.heap.size) (h2 : Below w.heap.size w w2) : Below B w0 w2 := h.trans (h2.mono hB)

/-- a series in a box at block B -/
structure SC (w0 w : World) (B : Nat) (f l e k : Int) (a : Option Addr) (n c : Nat) (b : Option Addr) (m q : Nat) (xs ys : List Int) : Prop where
  c0 : w.cell? ⟨B, 0, none⟩ = some (.int .i64 f)
  c1 : w.cell? ⟨B, 1, none⟩ = some (.int .i64 l)
  c2 : w.cell? ⟨B, 2, none⟩ = some (.int .i64 e)
  c3 : w.cell? ⟨B, 3, none⟩ = some (.int .i64 k)
  c4 : w.cell? ⟨B, 4, none⟩ = some (.slice a n c)
  c5 : w.cell? ⟨B, 5, none⟩ = some (.slice b m q)
  xa : IntsAt w a n xs
  ya : IntsAt w b m ys
  sz : B < w.heap.size
  bl : Below w0.heap.size w0 w
section
variable {w0 w w2 : World} {B : Nat} {f l e k : Int} {a : Option Addr} {n c : Nat} {b : Option Addr} {m q : Nat} {xs ys : List Int}
theorem SC.next (h : SC w0 w B f l e k a n c b m q xs ys) (hb : Below w.heap.size w w2) : SC w0 w2 B f l e k a n c b m q xs ys := by
  have ce : ∀ o, w2.cell? ⟨B, o, none⟩ = w.cell? ⟨B, o, none⟩ := fun o => hb.cell (p := ⟨B, o, none⟩) h.sz
  exact ⟨(ce 0).trans h.c0, (ce 1).trans h.c1, (ce 2).trans h.c2, (ce 3).trans h.c3, (ce 4).trans h.c4, (ce 5).trans h.c5, h.xa.below hb, h.ya.below hb, Nat.lt_of_lt_of_le h.sz hb.size, h.bl.trans (hb.mono (h.bl.size))⟩
theorem SC.drewN (h : SC w0 w B f l e k a n c b m q xs ys) (i : Nat) : SC w0 (w.drewN i) B f l e k a n c b m q xs ys := h.next (below_drewN _ _)
theorem SC.mk0 (T : TypeId) (hx : IntsAt w a n xs) (hy : IntsAt w b m ys) :
    SC w (w.alloc (.cells #[.int .i64 f, .int .i64 l, .int .i64 e, .int .i64 k, .slice a n c, .slice b m q] T)) w.heap.size f l e k a n c b m q xs ys := by
  have hb : Below w.heap.size w (w.alloc (.cells #[.int .i64 f, .int .i64 l, .int .i64 e, .int .i64 k, .slice a n c, .slice b m q] T)) := (Below.refl _ _).alloc (Nat.le_refl _) _
  exact ⟨by simp, by simp, by simp, by simp, by simp, by simp, hx.below hb, hy.below hb, by simp, hb⟩
end

theorem vl0_cases (f l e k : Int) (m : Nat) :
    (vl0 f l e k m = 13 ∧ okDay f = false) ∨ (vl0 f l e k m = 13 ∧ okDay f = true ∧ okDay l = false) ∨ (vl0 f l e k m = 3 ∧ okDay f = true ∧ okDay l = true ∧ l < f) ∨
    (vl0 f l e k m = 3 ∧ okDay f = true ∧ okDay l = true ∧ f ≤ l ∧ f + 140 < l) ∨ (vl0 f l e k m = 3 ∧ okDay f = true ∧ okDay l = true ∧ f ≤ l ∧ l ≤ f + 140 ∧ e < 1) ∨
    (vl0 f l e k m = 3 ∧ okDay f = true ∧ okDay l = true ∧ f ≤ l ∧ l ≤ f + 140 ∧ 1 ≤ e ∧ 4 < e) ∨ (vl0 f l e k m = 3 ∧ okDay f = true ∧ okDay l = true ∧ f ≤ l ∧ l ≤ f + 140 ∧ 1 ≤ e ∧ e ≤ 4 ∧ k < 0) ∨
    (vl0 f l e k m = 3 ∧ okDay f = true ∧ okDay l = true ∧ f ≤ l ∧ l ≤ f + 140 ∧ 1 ≤ e ∧ e ≤ 4 ∧ 0 ≤ k ∧ 127 < k) ∨
    (vl0 f l e k m = 2 ∧ okDay f = true ∧ okDay l = true ∧ f ≤ l ∧ l ≤ f + 140 ∧ 1 ≤ e ∧ e ≤ 4 ∧ 0 ≤ k ∧ k ≤ 127 ∧ 140 < m) ∨
    (vl0 f l e k m = 0 ∧ okDay f = true ∧ okDay l = true ∧ f ≤ l ∧ l ≤ f + 140 ∧ 1 ≤ e ∧ e ≤ 4 ∧ 0 ≤ k ∧ k ≤ 127 ∧ m ≤ 140) := by
  have v13 : okDay f = false ∨ okDay l = false → vl0 f l e k m = 13 := fun h => by unfold vl0; rw [if_pos h]
  have v3 : okDay f = true → okDay l = true → (l < f ∨ f + 140 < l ∨ e < 1 ∨ 4 < e ∨ k < 0 ∨ 127 < k) → vl0 f l e k m = 3 := fun h1 h2 h => by unfold vl0; rw [if_neg (by simp [h1, h2]), if_pos h]
  have v2 : okDay f = true → okDay l = true → ¬ (l < f ∨ f + 140 < l ∨ e < 1 ∨ 4 < e ∨ k < 0 ∨ 127 < k) → 140 < m → vl0 f l e k m = 2 := fun h1 h2 h h3 => by unfold vl0; rw [if_neg (by simp [h1, h2]), if_neg h, if_pos h3]
  have v0 : okDay f = true → okDay l = true → ¬ (l < f ∨ f + 140 < l ∨ e < 1 ∨ 4 < e ∨ k < 0 ∨ 127 < k) → ¬ 140 < m → vl0 f l e k m = 0 := fun h1 h2 h h3 => by unfold vl0; rw [if_neg (by simp [h1, h2]), if_neg h, if_neg h3]
  cases o1 : okDay f
  · exact Or.inl ⟨v13 (Or.inl o1), rfl⟩
  refine Or.inr ?_
  cases o2 : okDay l
  · exact Or.inl ⟨v13 (Or.inr o2), rfl, rfl⟩
  refine Or.inr ?_
  have v3 := v3 o1 o2
  have v2 := v2 o1 o2
  have v0 := v0 o1 o2
  by_cases c1 : l < f
  · exact Or.inl ⟨v3 (by omega), rfl, rfl, c1⟩
  refine Or.inr ?_
  by_cases c2 : f + 140 < l
  · exact Or.inl ⟨v3 (by omega), rfl, rfl, by omega, c2⟩
  refine Or.inr ?_
  by_cases c3 : e < 1
  · exact Or.inl ⟨v3 (by omega), rfl, rfl, by omega, by omega, c3⟩
  refine Or.inr ?_
  by_cases c4 : 4 < e
  · exact Or.inl ⟨v3 (by omega), rfl, rfl, by omega, by omega, by omega, c4⟩
  refine Or.inr ?_
  by_cases c5 : k < 0
  · exact Or.inl ⟨v3 (by omega), rfl, rfl, by omega, by omega, by omega, by omega, c5⟩
  refine Or.inr ?_
  by_cases c6 : 127 < k
  · exact Or.inl ⟨v3 (by omega), rfl, rfl, by omega, by omega, by omega, by omega, by omega, c6⟩
  refine Or.inr ?_
  by_cases c7 : 140 < m
  · exact Or.inl ⟨v2 (by omega) c7, rfl, rfl, by omega, by omega, by omega, by omega, by omega, by omega, c7⟩
  · exact Or.inr ⟨v0 (by omega) c7, rfl, rfl, by omega, by omega, by omega, by omega, by omega, by omega, by omega⟩
theorem vlE_first {f l e k : Int} {xs ys : List Int} {v : Int} (h : vl0 f l e k (xs.length + ys.length) = v) (hv : v ≠ 0) : v = vlE f l e k xs ys := by
  unfold vlE; rw [if_pos (by rw [h]; exact hv), h]
theorem vlE_x {f l e k : Int} {xs ys : List Int} {v : Int} (h : vl0 f l e k (xs.length + ys.length) = 0) (h1 : excE (regB f l e k) 12 none xs = v) (hv : v ≠ 0) : v = vlE f l e k xs ys := by
  unfold vlE; rw [if_neg (by simp [h]), if_pos (by rw [h1]; exact hv), h1]
theorem vlE_y {f l e k : Int} {xs ys : List Int} {v : Int} (h : vl0 f l e k (xs.length + ys.length) = 0) (h1 : excE (regB f l e k) 12 none xs = 0) (h2 : excE (outB f l e k) 11 none ys = v) : v = vlE f l e k xs ys := by
  unfold vlE; rw [if_neg (by simp [h]), if_neg (by simp [h1]), h2]

set_option maxHeartbeats 1000000 in
theorem validA (f l e k : Int) (a : Option Addr) (n c : Nat) (b : Option Addr) (m q : Nat) (xs ys : List Int) (w : World) (hx : IntsAt w a n xs) (hy : IntsAt w b m ys) (hs : n + m ≤ 9223372036854775807)
    (h : vl0 f l e k (xs.length + ys.length) ≠ 0) :
    Calls Tryz.prog 21 #[serV f l e k a n c b m q] w (RetB (.int .i64 (vlE f l e k xs ys)) w) := by
  have hl : xs.length + ys.length = n + m := by rw [hx.len, hy.len]
  have hc := vl0_cases f l e k (xs.length + ys.length)
  clear hx hy
  rcases hc with ⟨hv, h1⟩ | ⟨hv, h1, h2⟩ | ⟨hv, h1, h2, h3⟩ | ⟨hv, h1, h2, h3, h4⟩ | ⟨hv, h1, h2, h3, h4, h5⟩ | ⟨hv, h1, h2, h3, h4, h5, h6⟩ | ⟨hv, h1, h2, h3, h4, h5, h6, h7⟩ | ⟨hv, h1, h2, h3, h4, h5, h6, h7, h8⟩ | ⟨hv, h1, h2, h3, h4, h5, h6, h7, h8, h9⟩ | ⟨hv, _⟩
  rotate_right
  · exact absurd hv h
  all_goals
    have hf := Lib.hid (vlE_first hv (by decide))
    clear hv h
  · have H1 := Lib.hid h1
    clear h1 hl hs
    go_enter Tryz.func21, Tryz.ntmps21
    go_wp2_with (go_at_call 28; refine (isDay_any f _).mono ?_; rintro e w' ⟨rfl, rfl⟩; rw [H1.out])
    go_ret
    exact ⟨ret_int hf.out, (Below.refl _ _).alloc (Nat.le_refl _) _⟩
  · have H1 := Lib.hid h1; have H2 := Lib.hid h2
    clear h1 h2 hl hs
    go_enter Tryz.func21, Tryz.ntmps21
    go_wp2_with (go_at_call 28; refine (isDay_any _ _).mono ?_; rintro e w' ⟨rfl, rfl⟩; first | rw [H1.out] | rw [H2.out])
    go_ret
    exact ⟨ret_int hf.out, (Below.refl _ _).alloc (Nat.le_refl _) _⟩
  all_goals
    obtain ⟨f1, f2⟩ := okDay_of h1
    obtain ⟨l1, l2⟩ := okDay_of h2
    have H1 := Lib.hid h1
    have H2 := Lib.hid h2
    have hL := Lib.hid hl
    clear h1 h2 hl
  rotate_right
  · have h9' : (140 : Int) < (n : Int) + m := by rw [hL.out] at h9; omega
    clear h9
    go_enter Tryz.func21, Tryz.ntmps21
    go_wp2_with (go_at_call 28; refine (isDay_any _ _).mono ?_; rintro e w' ⟨rfl, rfl⟩; first | rw [H1.out] | rw [H2.out])
    go_ret
    exact ⟨ret_int hf.out, (Below.refl _ _).alloc (Nat.le_refl _) _⟩
  all_goals
    clear hs
    go_enter Tryz.func21, Tryz.ntmps21
    go_wp2_with (go_at_call 28; refine (isDay_any _ _).mono ?_; rintro e w' ⟨rfl, rfl⟩; first | rw [H1.out] | rw [H2.out])
    go_ret
    exact ⟨ret_int hf.out, (Below.refl _ _).alloc (Nat.le_refl _) _⟩

end Go.Proofs.YtibigbfkokendaaGreatDoor
