/- Texts R1, R2, R3, R4, R5, R6, R7, ShelfR, joined: walks and laws. -/
import Derived.Deep.RegionHeld3
import Derived.Ground.Names2Prog
import Derived.Ground.SlbtProg
import Derived.Ground.SlgnProg
import Derived.LoopIn
import Derived.LoopNIn
import Derived.Maps.AppendAt
import Derived.OwnWalkIn
import Derived.RangeFuncBound
import Derived.RangeFuncCalls
import Derived.RangeFuncLeaves
import Derived.RangeFuncNested
import Derived.Shelf.Abstract
import Derived.Shelf.LaysC
import Derived.Shelf.LaysM
import Derived.Shelf.RegionOpen
import Derived.Shelf.Slices.Clone
import Derived.Shelf.Slices.In.SortNone
import Derived.Shelf.Slices.Turned
import Derived.Shelf.Sort.Plain
import Derived.TacticsInMore
import Derived.Test.YtcifdllbnbhcdaaGreatDoorMR01
import Derived.Test.YtcifdllbnbhcdaaGreatDoorProg
set_option linter.unusedSimpArgs false
set_option linter.unusedVariables false
namespace Go.Proofs.YtcifdllbnbhcdaaGreatDoor.Rc
open Go.RowKit TT
abbrev serV (f l e k : Int) (a : Option Addr) (n c : Nat) (b : Option Addr) (m q : Nat) : Value :=
  .agg #[.int .i64 f, .int .i64 l, .int .i64 e, .int .i64 k, .slice a n c, .slice b m q]
theorem isDay_any (d : Int) (w : World) : Calls Tryz.prog 46 #[.int .i64 d] w fun e w' => e = .returned (.bool (okDay d)) ∧ w = w' := by
  go_enter Tryz.func46, Tryz.ntmps46
  go_wp2
  all_goals go_ret
  all_goals exact ⟨ret_bool (by unfold okDay; simp; try omega), rfl⟩
theorem weekday_any (d : Int) (h1 : 0 ≤ d) (h2 : d ≤ 36524) (w : World) : Calls Tryz.prog 38 #[.int .i64 d] w fun e w' => e = .returned (.int .i64 (wd7 d)) ∧ w = w' := by
  have ok := Lib.hid (okDay_mk h1 h2)
  go_enter Tryz.func38, Tryz.ntmps38
  go_wp2_with (go_at_call 39; refine (Cal.valid_any _ _).mono ?_; rintro e w' ⟨rfl, rfl⟩; rw [ok.out])
  go_ret
  exact ⟨ret_int (by unfold wd7; omega), rfl⟩
theorem cnt_form (f e d : Int) (h1 : f ≤ d) (_he : 1 ≤ e) : ((((d - wd7 d) - (f - wd7 f)).tdiv 7).tmod e == 0) = cntB f e d := by
  have h : 0 ≤ (d - wd7 d) - (f - wd7 f) := by unfold wd7; omega
  rw [Int.tdiv_eq_ediv_of_nonneg h, Int.tmod_eq_emod_of_nonneg (by omega)]
  unfold cntB
  rw [Bool.eq_iff_iff]; simp
set_option maxHeartbeats 400000 in
theorem counts_any (f l e k d : Int) (a : Option Addr) (n c : Nat) (b : Option Addr) (m q : Nat) (w : World) (h0 : 0 ≤ f) (h1 : f ≤ d) (h2 : d ≤ 36524) (e1 : 1 ≤ e) (e2 : e ≤ 4) :
    Calls Tryz.prog 77 #[serV f l e k a n c b m q, .int .i64 d] w (RetB (.bool (cntB f e d)) w) := by
  have hfin := Lib.hid (cnt_form f e d h1 e1)
  obtain ⟨hw1, hw2⟩ := wd7_bd d
  obtain ⟨hv1, hv2⟩ := wd7_bd f
  go_enter Tryz.func77, Tryz.ntmps77
  go_wp2_with (go_at_call 38; refine (weekday_any d (by omega) h2 _).mono ?_; rintro e w' ⟨rfl, rfl⟩)
  go_quiet ((go_at_call 38; exact Calls.quiet_of_same (same_flip (weekday_any f h0 (by omega) _))))
  go_wp2
  go_ret
  exact ⟨ret_bool hfin.out, below2 (below_drewN _ _)⟩
theorem bits_one (x : Int) (h0 : 0 ≤ x) (h1 : x ≤ 9223372036854775807) : bits .and .i64 x 1 = x % 2 := by
  obtain ⟨n, rfl⟩ := Int.eq_ofNat_of_zero_le h0
  have hn : n < 2 ^ 64 := by omega
  have hb : (BitVec.ofInt 64 (n : Int) &&& BitVec.ofInt 64 1).toNat = n % 2 := by
    rw [BitVec.toNat_and]
    have e1 : (BitVec.ofInt 64 (n : Int)).toNat = n := by simp; omega
    have e2 : (BitVec.ofInt 64 (1 : Int)).toNat = 1 := by decide
    rw [e1, e2, Nat.and_one_is_mod]
  show IntKind.i64.wrap (((BitVec.ofInt 64 (n : Int) &&& BitVec.ofInt 64 1).toNat : Nat) : Int) = _
  rw [hb]
  rw [IntWalk.i64_in _ (by omega)]
  omega
theorem shr_bd (ws : Int) (j : Nat) (h0 : 0 ≤ ws) (h1 : ws ≤ 9223372036854775807) : 0 ≤ ws / 2 ^ j ∧ ws / 2 ^ j ≤ 9223372036854775807 := by
  have hp : (0 : Int) < 2 ^ j := Int.pow_pos (by decide)
  refine ⟨Int.ediv_nonneg h0 (Int.le_of_lt hp), Int.le_trans (Int.ediv_le_self _ h0) h1⟩
theorem bit_eq0 (k j : Int) (h0 : 0 ≤ k) (h1 : k ≤ 9223372036854775807) : (bits .and .i64 (k / 2 ^ j.toNat) 1 == 0) = !bitN k j := by
  obtain ⟨a, b⟩ := shr_bd k j.toNat h0 h1
  rw [bits_one _ a b]
  unfold bitN
  rw [Bool.eq_iff_iff]
  simp only [beq_iff_eq, Bool.not_eq_true', decide_eq_false_iff_not]
  omega
set_option maxHeartbeats 1000000 in
theorem regular_any (f l e k d : Int) (a : Option Addr) (n c : Nat) (b : Option Addr) (m q : Nat) (w : World) (h0 : 0 ≤ f) (hl : l ≤ 36524) (e1 : 1 ≤ e) (e2 : e ≤ 4) (k0 : 0 ≤ k) (k1 : k ≤ 127) :
    Calls Tryz.prog 50 #[serV f l e k a n c b m q, .int .i64 d] w (RetB (.bool (regB f l e k d)) w) := by
  by_cases c1 : d < f
  · have hr : Hid (regB f l e k d = false) := Lib.hid (by simp [regB]; omega)
    clear h0
    go_enter Tryz.func50, Tryz.ntmps50
    go_wp2
    go_quiet (fail)
    go_wp2
    go_ret
    exact ⟨ret_bool hr.out.symm, below2 (below_drewN _ _)⟩
  have g1 : decide (d < f) = false := by simp; omega
  by_cases c2 : l < d
  · have hr : Hid (regB f l e k d = false) := Lib.hid (by simp [regB]; omega)
    clear h0
    go_enter Tryz.func50, Tryz.ntmps50
    go_wp2
    go_quiet (fail)
    go_wp2
    go_ret
    exact ⟨ret_bool hr.out.symm, below2 (below_drewN _ _)⟩
  have g2 : decide (l < d) = false := by simp; omega
  have hb := bit_eq0 k (wd7 d) k0 (by omega)
  obtain ⟨hw1, hw2⟩ := wd7_bd d
  cases hbit : bitN k (wd7 d)
  · have hr : Hid (regB f l e k d = false) := Lib.hid (by simp [regB, hbit])
    rw [hbit] at hb
    simp only [Bool.not_false] at hb
    clear hbit
    go_enter Tryz.func50, Tryz.ntmps50
    go_wp2
    go_quiet ((go_at_call 38; exact Calls.quiet_of_same (same_flip (weekday_any d (by omega) (by omega) _))))
    go_wp2
    go_ret
    exact ⟨ret_bool hr.out.symm, below2 (below_drewN _ _)⟩
  · have hr : Hid (regB f l e k d = cntB f e d) := Lib.hid (by simp [regB, hbit]; intro; omega)
    rw [hbit] at hb
    simp only [Bool.not_true] at hb
    clear hbit
    go_enter Tryz.func50, Tryz.ntmps50
    go_wp2
    go_quiet ((go_at_call 38; exact Calls.quiet_of_same (same_flip (weekday_any d (by omega) (by omega) _))))
    go_wp2_with (go_at_call 77; refine (counts_any f l e k d a n c b m q _ h0 (by omega) (by omega) e1 e2).mono ?_; rintro e w' ⟨rfl, hb'⟩)
    go_ret
    exact ⟨ret_bool hr.out.symm, below3 (below2 (below_drewN _ _)) hb'⟩
end Go.Proofs.YtcifdllbnbhcdaaGreatDoor.Rc
namespace Go.Proofs.YtcifdllbnbhcdaaGreatDoor.Rc
open Go.RowKit TT
structure SC (w0 w : World) (B : Nat) (f l e k : Int) (a : Option Addr) (n c : Nat) (b : Option Addr) (m q : Nat) (xs ys : List Int) : Prop where
  c0 : w.cell? ⟨B, 0, none⟩ = some (.int .i64 f)
  c1 : w.cell? ⟨B, 1, none⟩ = some (.int .i64 l)
  c2 : w.cell? ⟨B, 2, none⟩ = some (.int .i64 e)
  c3 : w.cell? ⟨B, 3, none⟩ = some (.int .i64 k)
  c4 : w.cell? ⟨B, 4, none⟩ = some (.slice a n c)
  c5 : w.cell? ⟨B, 5, none⟩ = some (.slice b m q)
  xa : IntsAt w a n xs
  ya : IntsAt w b m ys
  sz : B < w.heap.size
  bl : Below w0.heap.size w0 w
section
variable {w0 w w2 : World} {B : Nat} {f l e k : Int} {a : Option Addr} {n c : Nat} {b : Option Addr} {m q : Nat} {xs ys : List Int}
theorem SC.next (h : SC w0 w B f l e k a n c b m q xs ys) (hb : Below w.heap.size w w2) : SC w0 w2 B f l e k a n c b m q xs ys := by
  have ce : ∀ o, w2.cell? ⟨B, o, none⟩ = w.cell? ⟨B, o, none⟩ := fun o => hb.cell (p := ⟨B, o, none⟩) h.sz
  exact ⟨(ce 0).trans h.c0, (ce 1).trans h.c1, (ce 2).trans h.c2, (ce 3).trans h.c3, (ce 4).trans h.c4, (ce 5).trans h.c5, h.xa.below hb, h.ya.below hb, Nat.lt_of_lt_of_le h.sz hb.size, h.bl.trans (hb.mono (h.bl.size))⟩
theorem SC.drewN (h : SC w0 w B f l e k a n c b m q xs ys) (i : Nat) : SC w0 (w.drewN i) B f l e k a n c b m q xs ys := h.next (below_drewN _ _)
theorem SC.mk0 (T : TypeId) (hx : IntsAt w a n xs) (hy : IntsAt w b m ys) :
    SC w (w.alloc (.cells #[.int .i64 f, .int .i64 l, .int .i64 e, .int .i64 k, .slice a n c, .slice b m q] T)) w.heap.size f l e k a n c b m q xs ys := by
  have hb : Below w.heap.size w (w.alloc (.cells #[.int .i64 f, .int .i64 l, .int .i64 e, .int .i64 k, .slice a n c, .slice b m q] T)) := (Below.refl _ _).alloc (Nat.le_refl _) _
  exact ⟨by simp, by simp, by simp, by simp, by simp, by simp, hx.below hb, hy.below hb, by simp, hb⟩
end
theorem vl0_cases (f l e k : Int) (m : Nat) :
    (vl0 f l e k m = 13 ∧ okDay f = false) ∨ (vl0 f l e k m = 13 ∧ okDay f = true ∧ okDay l = false) ∨ (vl0 f l e k m = 3 ∧ okDay f = true ∧ okDay l = true ∧ l < f) ∨
    (vl0 f l e k m = 3 ∧ okDay f = true ∧ okDay l = true ∧ f ≤ l ∧ f + 140 < l) ∨ (vl0 f l e k m = 3 ∧ okDay f = true ∧ okDay l = true ∧ f ≤ l ∧ l ≤ f + 140 ∧ e < 1) ∨
    (vl0 f l e k m = 3 ∧ okDay f = true ∧ okDay l = true ∧ f ≤ l ∧ l ≤ f + 140 ∧ 1 ≤ e ∧ 4 < e) ∨ (vl0 f l e k m = 3 ∧ okDay f = true ∧ okDay l = true ∧ f ≤ l ∧ l ≤ f + 140 ∧ 1 ≤ e ∧ e ≤ 4 ∧ k < 0) ∨
    (vl0 f l e k m = 3 ∧ okDay f = true ∧ okDay l = true ∧ f ≤ l ∧ l ≤ f + 140 ∧ 1 ≤ e ∧ e ≤ 4 ∧ 0 ≤ k ∧ 127 < k) ∨
    (vl0 f l e k m = 2 ∧ okDay f = true ∧ okDay l = true ∧ f ≤ l ∧ l ≤ f + 140 ∧ 1 ≤ e ∧ e ≤ 4 ∧ 0 ≤ k ∧ k ≤ 127 ∧ 140 < m) ∨
    (vl0 f l e k m = 0 ∧ okDay f = true ∧ okDay l = true ∧ f ≤ l ∧ l ≤ f + 140 ∧ 1 ≤ e ∧ e ≤ 4 ∧ 0 ≤ k ∧ k ≤ 127 ∧ m ≤ 140) := by
  have v13 : okDay f = false ∨ okDay l = false → vl0 f l e k m = 13 := fun h => by unfold vl0; rw [if_pos h]
  have v3 : okDay f = true → okDay l = true → (l < f ∨ f + 140 < l ∨ e < 1 ∨ 4 < e ∨ k < 0 ∨ 127 < k) → vl0 f l e k m = 3 := fun h1 h2 h => by unfold vl0; rw [if_neg (by simp [h1, h2]), if_pos h]
  have v2 : okDay f = true → okDay l = true → ¬ (l < f ∨ f + 140 < l ∨ e < 1 ∨ 4 < e ∨ k < 0 ∨ 127 < k) → 140 < m → vl0 f l e k m = 2 := fun h1 h2 h h3 => by unfold vl0; rw [if_neg (by simp [h1, h2]), if_neg h, if_pos h3]
  have v0 : okDay f = true → okDay l = true → ¬ (l < f ∨ f + 140 < l ∨ e < 1 ∨ 4 < e ∨ k < 0 ∨ 127 < k) → ¬ 140 < m → vl0 f l e k m = 0 := fun h1 h2 h h3 => by unfold vl0; rw [if_neg (by simp [h1, h2]), if_neg h, if_neg h3]
  cases o1 : okDay f
  · exact Or.inl ⟨v13 (Or.inl o1), rfl⟩
  refine Or.inr ?_
  cases o2 : okDay l
  · exact Or.inl ⟨v13 (Or.inr o2), rfl, rfl⟩
  refine Or.inr ?_
  have v3 := v3 o1 o2
  have v2 := v2 o1 o2
  have v0 := v0 o1 o2
  by_cases c1 : l < f
  · exact Or.inl ⟨v3 (by omega), rfl, rfl, c1⟩
  refine Or.inr ?_
  by_cases c2 : f + 140 < l
  · exact Or.inl ⟨v3 (by omega), rfl, rfl, by omega, c2⟩
  refine Or.inr ?_
  by_cases c3 : e < 1
  · exact Or.inl ⟨v3 (by omega), rfl, rfl, by omega, by omega, c3⟩
  refine Or.inr ?_
  by_cases c4 : 4 < e
  · exact Or.inl ⟨v3 (by omega), rfl, rfl, by omega, by omega, by omega, c4⟩
  refine Or.inr ?_
  by_cases c5 : k < 0
  · exact Or.inl ⟨v3 (by omega), rfl, rfl, by omega, by omega, by omega, by omega, c5⟩
  refine Or.inr ?_
  by_cases c6 : 127 < k
  · exact Or.inl ⟨v3 (by omega), rfl, rfl, by omega, by omega, by omega, by omega, by omega, c6⟩
  refine Or.inr ?_
  by_cases c7 : 140 < m
  · exact Or.inl ⟨v2 (by omega) c7, rfl, rfl, by omega, by omega, by omega, by omega, by omega, by omega, c7⟩
  · exact Or.inr ⟨v0 (by omega) c7, rfl, rfl, by omega, by omega, by omega, by omega, by omega, by omega, by omega⟩
theorem vlE_first {f l e k : Int} {xs ys : List Int} {v : Int} (h : vl0 f l e k (xs.length + ys.length) = v) (hv : v ≠ 0) : v = vlE f l e k xs ys := by
  unfold vlE; rw [if_pos (by rw [h]; exact hv), h]
theorem vlE_x {f l e k : Int} {xs ys : List Int} {v : Int} (h : vl0 f l e k (xs.length + ys.length) = 0) (h1 : excE (regB f l e k) 12 none xs = v) (hv : v ≠ 0) : v = vlE f l e k xs ys := by
  unfold vlE; rw [if_neg (by simp [h]), if_pos (by rw [h1]; exact hv), h1]
theorem vlE_y {f l e k : Int} {xs ys : List Int} {v : Int} (h : vl0 f l e k (xs.length + ys.length) = 0) (h1 : excE (regB f l e k) 12 none xs = 0) (h2 : excE (outB f l e k) 11 none ys = v) : v = vlE f l e k xs ys := by
  unfold vlE; rw [if_neg (by simp [h]), if_neg (by simp [h1]), h2]
set_option maxHeartbeats 1000000 in
theorem validA (f l e k : Int) (a : Option Addr) (n c : Nat) (b : Option Addr) (m q : Nat) (xs ys : List Int) (w : World) (hx : IntsAt w a n xs) (hy : IntsAt w b m ys) (hs : n + m ≤ 9223372036854775807)
    (h : vl0 f l e k (xs.length + ys.length) ≠ 0) :
    Calls Tryz.prog 27 #[serV f l e k a n c b m q] w (RetB (.int .i64 (vlE f l e k xs ys)) w) := by
  have hl : xs.length + ys.length = n + m := by rw [hx.len, hy.len]
  have hc := vl0_cases f l e k (xs.length + ys.length)
  clear hx hy
  rcases hc with ⟨hv, h1⟩ | ⟨hv, h1, h2⟩ | ⟨hv, h1, h2, h3⟩ | ⟨hv, h1, h2, h3, h4⟩ | ⟨hv, h1, h2, h3, h4, h5⟩ | ⟨hv, h1, h2, h3, h4, h5, h6⟩ | ⟨hv, h1, h2, h3, h4, h5, h6, h7⟩ | ⟨hv, h1, h2, h3, h4, h5, h6, h7, h8⟩ | ⟨hv, h1, h2, h3, h4, h5, h6, h7, h8, h9⟩ | ⟨hv, _⟩
  rotate_right
  · exact absurd hv h
  all_goals
    have hf := Lib.hid (vlE_first hv (by decide))
    clear hv h
  · have H1 := Lib.hid h1
    clear h1 hl hs
    go_enter Tryz.func27, Tryz.ntmps27
    go_wp2_with (go_at_call 46; refine (isDay_any f _).mono ?_; rintro e w' ⟨rfl, rfl⟩; rw [H1.out])
    go_ret
    exact ⟨ret_int hf.out, (Below.refl _ _).alloc (Nat.le_refl _) _⟩
  · have H1 := Lib.hid h1; have H2 := Lib.hid h2
    clear h1 h2 hl hs
    go_enter Tryz.func27, Tryz.ntmps27
    go_wp2_with (go_at_call 46; refine (isDay_any _ _).mono ?_; rintro e w' ⟨rfl, rfl⟩; first | rw [H1.out] | rw [H2.out])
    go_ret
    exact ⟨ret_int hf.out, (Below.refl _ _).alloc (Nat.le_refl _) _⟩
  all_goals
    obtain ⟨f1, f2⟩ := okDay_of h1
    obtain ⟨l1, l2⟩ := okDay_of h2
    have H1 := Lib.hid h1
    have H2 := Lib.hid h2
    have hL := Lib.hid hl
    clear h1 h2 hl
  rotate_right
  · have h9' : (140 : Int) < (n : Int) + m := by rw [hL.out] at h9; omega
    clear h9
    go_enter Tryz.func27, Tryz.ntmps27
    go_wp2_with (go_at_call 46; refine (isDay_any _ _).mono ?_; rintro e w' ⟨rfl, rfl⟩; first | rw [H1.out] | rw [H2.out])
    go_ret
    exact ⟨ret_int hf.out, (Below.refl _ _).alloc (Nat.le_refl _) _⟩
  all_goals
    clear hs
    go_enter Tryz.func27, Tryz.ntmps27
    go_wp2_with (go_at_call 46; refine (isDay_any _ _).mono ?_; rintro e w' ⟨rfl, rfl⟩; first | rw [H1.out] | rw [H2.out])
    go_ret
    exact ⟨ret_int hf.out, (Below.refl _ _).alloc (Nat.le_refl _) _⟩
end Go.Proofs.YtcifdllbnbhcdaaGreatDoor.Rc
namespace Go.Proofs.YtcifdllbnbhcdaaGreatDoor.Rc
open Go.RowKit TT
set_option maxHeartbeats 2000000 in
theorem validB (f l e k : Int) (a : Option Addr) (n c : Nat) (b : Option Addr) (m q : Nat) (xs ys : List Int) (w : World) (hx : IntsAt w a n xs) (hy : IntsAt w b m ys)
    (h : vl0 f l e k (xs.length + ys.length) = 0) :
    Calls Tryz.prog 27 #[serV f l e k a n c b m q] w (RetB (.int .i64 (vlE f l e k xs ys)) w) := by
  obtain ⟨o1, o2, h3, h4, e1, e2, k1, k2, hs⟩ := vl0_inv h
  obtain ⟨f1, f2⟩ := okDay_of o1
  obtain ⟨l1, l2⟩ := okDay_of o2
  have H := Lib.hid h
  have hnm : (n : Int) + m ≤ 140 := by have := hx.len; have := hy.len; omega
  have LX := Lib.hid hx.len
  have LY := Lib.hid hy.len
  have O1 := Lib.hid o1
  have O2 := Lib.hid o2
  have HS := Lib.hid (SC.mk0 (w := w) (f := f) (l := l) (e := e) (k := k) (c := c) (q := q) 37 hx hy)
  clear h o1 o2 hs hx hy
  go_enter Tryz.func27, Tryz.ntmps27
  go_wp2_with (go_at_call 46; refine (isDay_any _ _).mono ?_; rintro e w' ⟨rfl, rfl⟩; first | rw [O1.out] | rw [O2.out])
  go_loopw [3, 4, 63] (fun _ _ i wr => ∃ j : Nat, j ≤ n ∧ i = .int .i64 j ∧ Hid (excE (regB f l e k) 12 none xs = excE (regB f l e k) 12 (pvI xs j) (xs.drop j)) ∧ SC w wr w.heap.size f l e k a n c b m q xs ys) (fun _ _ i _ => n - (intOf i).toNat)
  case atStart => exact ⟨0, by omega, rfl, Lib.hid (by rw [excE_start]), HS.out⟩
  case round =>
    clear HS
    obtain ⟨j, hj, rfl, hR, hW⟩ := hrel
    by_cases hlt : j < n
    · have hstep := Lib.hid (excE_step (regB f l e k) 12 xs j (by rw [LX.out]; exact hlt))
      obtain ⟨ba, oa, rfl, hbz, hcc⟩ := hW.xa.cell hlt
      obtain ⟨c0, c1, c2, c3, c4, c5, _, _, sz, _⟩ := id hW
      have gj := hcc j hlt
      have HC := Lib.hid hcc
      clear hcc
      have HW := Lib.hid hW
      clear hW
      by_cases t3 : 0 < j
      · have gk : wr.cell? ⟨ba, oa + (j - 1), none⟩ = some (.int .i64 (xs.getD (j - 1) 0)) := HC.out (j - 1) (by omega)
        have gk' : wr.cell? ⟨ba, oa + ((j : Int) - 1).toNat, none⟩ = some (.int .i64 (xs.getD (j - 1) 0)) := by rw [show ((j : Int) - 1).toNat = j - 1 by omega]; exact HC.out (j - 1) (by omega)
        generalize hx0 : xs.getD j 0 = x at *
        generalize hx1 : xs.getD (j - 1) 0 = x1 at *
        clear hx0 hx1
        by_cases t4 : x ≤ x1
        · have hfin := Lib.hid (vlE_x (v := 63) H.out (by rw [hR.out, hstep.out, if_pos ⟨t3, t4⟩]) (by decide))
          go_wp2_with fail
          go_ret
          exact ⟨ret_int hfin.out, HW.out.bl⟩
        · cases hp : regB f l e k x
          · have hfin := Lib.hid (vlE_x (v := 12) H.out (by rw [hR.out, hstep.out, if_neg (fun h => t4 h.2), hp, cond_false]) (by decide))
            go_wp2_with (go_at_call 50; refine (regular_any f l e k x _ n c b m q _ f1 l2 e1 e2 k1 k2).mono ?_; rintro e w2 ⟨rfl, hb⟩; rw [hp])
            go_ret
            exact ⟨ret_int hfin.out, (HW.out.next hb).bl⟩
          · have hnx : Hid (excE (regB f l e k) 12 none xs = excE (regB f l e k) 12 (pvI xs (j + 1)) (xs.drop (j + 1))) := Lib.hid (by rw [hR.out, hstep.out, if_neg (fun h => t4 h.2), hp, cond_true])
            go_wp2_with (go_at_call 50; refine (regular_any f l e k x _ n c b m q _ f1 l2 e1 e2 k1 k2).mono ?_; rintro e w2 ⟨rfl, hb⟩; rw [hp])
            go_roundw
            case rel => exact ⟨j + 1, by omega, by go_num, hnx, HW.out.next hb⟩
            case measure => simp [intOf]; omega
      · generalize hx0 : xs.getD j 0 = x at *
        generalize hx1 : xs.getD (j - 1) 0 = x1 at *
        clear hx0 hx1
        cases hp : regB f l e k x
        · have hfin := Lib.hid (vlE_x (v := 12) H.out (by rw [hR.out, hstep.out, if_neg (fun h => t3 h.1), hp, cond_false]) (by decide))
          go_wp2_with (go_at_call 50; refine (regular_any f l e k x _ n c b m q _ f1 l2 e1 e2 k1 k2).mono ?_; rintro e w2 ⟨rfl, hb⟩; rw [hp])
          go_ret
          exact ⟨ret_int hfin.out, (HW.out.next hb).bl⟩
        · have hnx : Hid (excE (regB f l e k) 12 none xs = excE (regB f l e k) 12 (pvI xs (j + 1)) (xs.drop (j + 1))) := Lib.hid (by rw [hR.out, hstep.out, if_neg (fun h => t3 h.1), hp, cond_true])
          go_wp2_with (go_at_call 50; refine (regular_any f l e k x _ n c b m q _ f1 l2 e1 e2 k1 k2).mono ?_; rintro e w2 ⟨rfl, hb⟩; rw [hp])
          go_roundw
          case rel => exact ⟨j + 1, by omega, by go_num, hnx, HW.out.next hb⟩
          case measure => simp [intOf]; omega
    · obtain rfl : j = n := by omega
      have hX0 : Hid (excE (regB f l e k) 12 none xs = 0) := Lib.hid (by rw [hR.out]; have := LX.out; subst this; exact excE_end _ _ _)
      obtain ⟨c0, c1, c2, c3, c4, c5, _, _, sz, _⟩ := id hW
      have HW := Lib.hid hW
      clear hW hR hlt
      obtain ⟨wo, rfl⟩ : ∃ wo : World, wo = wr := ⟨_, rfl⟩
      go_wp2
      go_loopw [5, 6, 88] (fun _ _ i wr => ∃ j' : Nat, j' ≤ m ∧ i = .int .i64 j' ∧ Hid (excE (outB f l e k) 11 none ys = excE (outB f l e k) 11 (pvI ys j') (ys.drop j')) ∧ SC w wr w.heap.size f l e k a j c b m q xs ys) (fun _ _ i _ => m - (intOf i).toNat)
      case atStart => exact ⟨0, by omega, rfl, Lib.hid (by rw [excE_start]), HW.out⟩
      case round =>
        clear HW c0 c1 c2 c3 c4 c5 sz
        obtain ⟨n', hn'⟩ : ∃ n' : Nat, n' = j := ⟨_, rfl⟩
        subst hn'
        obtain ⟨j, hj, rfl, hR, hW⟩ := hrel
        by_cases hlt : j < m
        · have hstep := Lib.hid (excE_step (outB f l e k) 11 ys j (by rw [LY.out]; exact hlt))
          obtain ⟨ba, oa, rfl, hbz, hcc⟩ := hW.ya.cell hlt
          obtain ⟨c0, c1, c2, c3, c4, c5, _, _, sz, _⟩ := id hW
          have gj := hcc j hlt
          have HC := Lib.hid hcc
          clear hcc
          have HW := Lib.hid hW
          clear hW
          by_cases t3 : 0 < j
          · have gk : wr.cell? ⟨ba, oa + (j - 1), none⟩ = some (.int .i64 (ys.getD (j - 1) 0)) := HC.out (j - 1) (by omega)
            have gk' : wr.cell? ⟨ba, oa + ((j : Int) - 1).toNat, none⟩ = some (.int .i64 (ys.getD (j - 1) 0)) := by rw [show ((j : Int) - 1).toNat = j - 1 by omega]; exact HC.out (j - 1) (by omega)
            generalize hx0 : ys.getD j 0 = x at *
            generalize hx1 : ys.getD (j - 1) 0 = x1 at *
            clear hx0 hx1
            by_cases t4 : x ≤ x1
            · have hfin := Lib.hid (vlE_y (v := 63) H.out hX0.out (by rw [hR.out, hstep.out, if_pos ⟨t3, t4⟩]))
              go_wp2_with fail
              go_ret
              exact ⟨ret_int hfin.out, HW.out.bl⟩
            · have hstep2 : Hid (excE (outB f l e k) 11 none ys = bif outB f l e k x then excE (outB f l e k) 11 (pvI ys (j + 1)) (ys.drop (j + 1)) else 11) := Lib.hid (by rw [hR.out, hstep.out, if_neg (fun h => t4 h.2)])
              clear hstep
              by_cases t1 : x < f
              · have hfin := Lib.hid (vlE_y (v := 11) H.out hX0.out (by rw [hstep2.out, show outB f l e k x = false from by simp [outB]; omega, cond_false]))
                go_wp2_with fail
                go_ret
                exact ⟨ret_int hfin.out, HW.out.bl⟩
              by_cases t2 : l < x
              · have hfin := Lib.hid (vlE_y (v := 11) H.out hX0.out (by rw [hstep2.out, show outB f l e k x = false from by simp [outB]; omega, cond_false]))
                go_wp2_with fail
                go_ret
                exact ⟨ret_int hfin.out, HW.out.bl⟩
              have ho : Hid (outB f l e k x = !(regB f l e k x)) := Lib.hid (by unfold outB; rw [decide_eq_true (by omega), Bool.true_and])
              cases hp : regB f l e k x
              · have hnx : Hid (excE (outB f l e k) 11 none ys = excE (outB f l e k) 11 (pvI ys (j + 1)) (ys.drop (j + 1))) := Lib.hid (by rw [hstep2.out, ho.out, hp]; rfl)
                go_wp2_with (go_at_call 50; refine (regular_any f l e k x _ _ c _ m q _ f1 l2 e1 e2 k1 k2).mono ?_; rintro e w2 ⟨rfl, hb⟩; rw [hp])
                go_roundw
                case rel => exact ⟨j + 1, by omega, by go_num, hnx, HW.out.next hb⟩
                case measure => simp [intOf]; omega
              · have hfin := Lib.hid (vlE_y (v := 11) H.out hX0.out (by rw [hstep2.out, ho.out, hp]; rfl))
                go_wp2_with (go_at_call 50; refine (regular_any f l e k x _ _ c _ m q _ f1 l2 e1 e2 k1 k2).mono ?_; rintro e w2 ⟨rfl, hb⟩; rw [hp])
                go_ret
                exact ⟨ret_int hfin.out, (HW.out.next hb).bl⟩
          · generalize hx0 : ys.getD j 0 = x at *
            generalize hx1 : ys.getD (j - 1) 0 = x1 at *
            clear hx0 hx1
            have hstep2 : Hid (excE (outB f l e k) 11 none ys = bif outB f l e k x then excE (outB f l e k) 11 (pvI ys (j + 1)) (ys.drop (j + 1)) else 11) := Lib.hid (by rw [hR.out, hstep.out, if_neg (fun h => t3 h.1)])
            clear hstep
            by_cases t1 : x < f
            · have hfin := Lib.hid (vlE_y (v := 11) H.out hX0.out (by rw [hstep2.out, show outB f l e k x = false from by simp [outB]; omega, cond_false]))
              go_wp2_with fail
              go_ret
              exact ⟨ret_int hfin.out, HW.out.bl⟩
            by_cases t2 : l < x
            · have hfin := Lib.hid (vlE_y (v := 11) H.out hX0.out (by rw [hstep2.out, show outB f l e k x = false from by simp [outB]; omega, cond_false]))
              go_wp2_with fail
              go_ret
              exact ⟨ret_int hfin.out, HW.out.bl⟩
            have ho : Hid (outB f l e k x = !(regB f l e k x)) := Lib.hid (by unfold outB; rw [decide_eq_true (by omega), Bool.true_and])
            cases hp : regB f l e k x
            · have hnx : Hid (excE (outB f l e k) 11 none ys = excE (outB f l e k) 11 (pvI ys (j + 1)) (ys.drop (j + 1))) := Lib.hid (by rw [hstep2.out, ho.out, hp]; rfl)
              go_wp2_with (go_at_call 50; refine (regular_any f l e k x _ _ c _ m q _ f1 l2 e1 e2 k1 k2).mono ?_; rintro e w2 ⟨rfl, hb⟩; rw [hp])
              go_roundw
              case rel => exact ⟨j + 1, by omega, by go_num, hnx, HW.out.next hb⟩
              case measure => simp [intOf]; omega
            · have hfin := Lib.hid (vlE_y (v := 11) H.out hX0.out (by rw [hstep2.out, ho.out, hp]; rfl))
              go_wp2_with (go_at_call 50; refine (regular_any f l e k x _ _ c _ m q _ f1 l2 e1 e2 k1 k2).mono ?_; rintro e w2 ⟨rfl, hb⟩; rw [hp])
              go_ret
              exact ⟨ret_int hfin.out, (HW.out.next hb).bl⟩
        · obtain rfl : j = m := by omega
          have hfin := Lib.hid (vlE_y (v := 0) H.out hX0.out (by rw [hR.out]; have := LY.out; subst this; exact excE_end _ _ _))
          have hB := hW.bl
          clear hW
          go_wp2
          go_ret
          exact ⟨ret_int hfin.out, hB⟩
end Go.Proofs.YtcifdllbnbhcdaaGreatDoor.Rc
namespace Go.Proofs.YtcifdllbnbhcdaaGreatDoor.Rc
open Go.RowKit TT
theorem bel_drew0 (w : World) : Below w.heap.size w w.drew := ⟨rfl, rfl, rfl, Nat.le_refl _, fun _ _ => rfl⟩
end Go.Proofs.YtcifdllbnbhcdaaGreatDoor.Rc
namespace Go.Proofs.YtcifdllbnbhcdaaGreatDoor.Rc
open Go.RowKit TT
theorem valid_any (f l e k : Int) (a : Option Addr) (n c : Nat) (b : Option Addr) (m q : Nat) (xs ys : List Int) (w : World) (hx : IntsAt w a n xs) (hy : IntsAt w b m ys) (hs : n + m ≤ 9223372036854775807) :
    Calls Tryz.prog 27 #[serV f l e k a n c b m q] w (RetB (.int .i64 (vlE f l e k xs ys)) w) := by
  by_cases h : vl0 f l e k (xs.length + ys.length) = 0
  · exact validB f l e k a n c b m q xs ys w hx hy h
  · exact validA f l e k a n c b m q xs ys w hx hy hs h
end Go.Proofs.YtcifdllbnbhcdaaGreatDoor.Rc
namespace Go.Proofs.YtcifdllbnbhcdaaGreatDoor.Rc
open Go.RowKit TT
theorem Tryz.infoInt : (Tryz.prog.info? 3).map (fun i => (i.zero, i.size, i.bytes)) = some (some (.int .i64 0), 1, 8) := by kernel_rfl
theorem rowSnoc {w2 : World} {B : Nat} {v' : Value} {L : List Int} {x : Int}
    (hown' : w2.ownsRow B 3 1 v' (L.length + 1) (L.map (Value.int .i64) ++ [.int .i64 x])) : w2.ownsRow B 3 1 v' (L ++ [x]).length ((L ++ [x]).map (Value.int .i64)) := by
  simpa using hown'
abbrev Row (w : World) (B : Nat) (v : Value) (L : List Int) : Prop := w.ownsRow B 3 1 v L.length (L.map (Value.int .i64))
theorem Row.ints {w : World} {B : Nat} {v : Value} {L : List Int} (h : Row w B v L) : Ints w v L := by
  obtain ⟨a, cap, h1, h2⟩ := IntsAt.of_owns h
  exact ⟨a, cap, h1, h2⟩
theorem SC.grow {w0 w w2 : World} {B : Nat} {f l e k : Int} {a : Option Addr} {n c : Nat} {b : Option Addr} {m q : Nat} {xs ys : List Int} (h : SC w0 w B f l e k a n c b m q xs ys) (hB : B = w0.heap.size) (hx : IntsAt w0 a n xs) (hy : IntsAt w0 b m ys) (hb : Below (B + 1) w w2) : SC w0 w2 B f l e k a n c b m q xs ys := by
  have ce : ∀ o, w2.cell? ⟨B, o, none⟩ = w.cell? ⟨B, o, none⟩ := fun o => hb.cell (p := ⟨B, o, none⟩) (by simp)
  have bl : Below w0.heap.size w0 w2 := h.bl.trans (hb.mono (by omega))
  exact ⟨(ce 0).trans h.c0, (ce 1).trans h.c1, (ce 2).trans h.c2, (ce 3).trans h.c3, (ce 4).trans h.c4, (ce 5).trans h.c5, hx.below bl, hy.below bl, Nat.lt_of_lt_of_le h.sz hb.size, bl⟩
theorem row_base {w : World} {B B2 : Nat} {e : TypeId} {size : Nat} {v : Value} {n : Nat} {xs : List Value} (h : w.ownsRow B e size v n xs) (hB : B2 ≤ B) : w.ownsRow B2 e size v n xs := by
  obtain ⟨h1, h2⟩ := h
  refine ⟨h1, ?_⟩
  rcases h2 with h2 | ⟨g, cap, cur, hv, hg, r⟩
  · exact Or.inl h2
  · exact Or.inr ⟨g, cap, cur, hv, Nat.le_trans hB hg, r⟩
theorem int_eq {a b : Int} (h : a = b) : Value.int .i64 a = Value.int .i64 b := by rw [h]
def DaysP (L : List Int) (w : World) (e : Ending) (w' : World) : Prop := ∃ v, e = .returned v ∧ Row w' w.heap.size v L ∧ Below w.heap.size w w'
end Go.Proofs.YtcifdllbnbhcdaaGreatDoor.Rc
namespace Go.Proofs.YtcifdllbnbhcdaaGreatDoor.Rc
open Go.RowKit Go.Shelf TT
attribute [local go_sem] Oper.semAt_some
structure S6 (w : World) (B : Nat) (f l e k : Int) (a : Option Addr) (n c : Nat) (b : Option Addr) (m q : Nat) : Prop where
  c0 : w.cell? ⟨B, 0, none⟩ = some (.int .i64 f)
  c1 : w.cell? ⟨B, 1, none⟩ = some (.int .i64 l)
  c2 : w.cell? ⟨B, 2, none⟩ = some (.int .i64 e)
  c3 : w.cell? ⟨B, 3, none⟩ = some (.int .i64 k)
  c4 : w.cell? ⟨B, 4, none⟩ = some (.slice a n c)
  c5 : w.cell? ⟨B, 5, none⟩ = some (.slice b m q)
  sz : B < w.heap.size
theorem S6.kept {w w2 : World} {B : Nat} {f l e k : Int} {a : Option Addr} {n c : Nat} {b : Option Addr} {m q : Nat} (h : S6 w B f l e k a n c b m q) (hb : w2.heap[B]? = w.heap[B]?) (hs : w.heap.size ≤ w2.heap.size) : S6 w2 B f l e k a n c b m q := by
  have ce : ∀ o, w2.cell? ⟨B, o, none⟩ = w.cell? ⟨B, o, none⟩ := fun o => World.cell?_of_block (w := w) (a := ⟨B, o, none⟩) hb
  exact ⟨(ce 0).trans h.c0, (ce 1).trans h.c1, (ce 2).trans h.c2, (ce 3).trans h.c3, (ce 4).trans h.c4, (ce 5).trans h.c5, Nat.lt_of_lt_of_le h.sz hs⟩
theorem S6.mk0 (w : World) (T : TypeId) (f l e k : Int) (a : Option Addr) (n c : Nat) (b : Option Addr) (m q : Nat) :
    S6 (w.alloc (.cells #[.int .i64 f, .int .i64 l, .int .i64 e, .int .i64 k, .slice a n c, .slice b m q] T)) w.heap.size f l e k a n c b m q :=
  ⟨by simp, by simp, by simp, by simp, by simp, by simp, by simp⟩
def KpB (B : Nat) (W W' : World) : Prop := W'.heap[B]? = W.heap[B]? ∧ W.heap.size ≤ W'.heap.size
theorem KpB.t {B : Nat} {X Y Z : World} (h : KpB B X Y) (k : KpB B Y Z) : KpB B X Z := ⟨k.1.trans h.1, Nat.le_trans h.2 k.2⟩
theorem KpB.b {B : Nat} {w : World} (hB : B < w.heap.size) (W : World) (l : Nat) (o o' : Obj) (hl : w.heap.size ≤ l) (_ : W.heap[l]? = some o) (_ : o.isCells = false) (_ : o.isWalk = false) : KpB B W (W.putObj l o') :=
  ⟨World.putObj_heap_other (by omega), by simp⟩
theorem KpB.below {B : Nat} {W W' : World} (hB : B < W.heap.size) (h : Below W.heap.size W W') : KpB B W W' := ⟨h.block B hB, h.size⟩
set_option maxRecDepth 100000 in
set_option maxHeartbeats 2000000 in
theorem regs1_in (lp B : Nat) (f l e k : Int) (a : Option Addr) (n c : Nat) (b : Option Addr) (m q : Nat) (h0 : 0 ≤ f) (hfl : f ≤ l) (hl : l ≤ 36524) (hl2 : l ≤ f + 140) (e1 : 1 ≤ e) (e2 : e ≤ 4) (k0 : 0 ≤ k) (k1 : k ≤ 127)
    (J Jx : List Int → World → Prop) (W : World) (hJ : AbidesFrom W.heap.size J)
    (hY : ∀ pre x W1, J pre W1 → pre.length < 141 → YieldAt Fence.wide 1 Tryz.prog lp #[.int .i64 x] W1 fun en W' =>
      (en = .returned (.bool true) ∧ J (pre ++ [x]) W' ∧ KpB B W1 W') ∨ (en = .returned (.bool false) ∧ Jx (pre ++ [x]) W'))
    (hS : S6 W B f l e k a n c b m q) (hJ0 : J [] W) :
    CallsIn Fence.wide 2 Tryz.prog 51 #[.func (.yield lp) #[] #[], .pointer (some ⟨B, 0, none⟩)] W fun en W' => (∃ v, en = .returned v) ∧
      ((∃ ys, ys = (dayR f l).filter (regB f l e k) ∧ J ys W') ∨ (∃ pre, True ∧ Jx pre W')) := by
  have HJ := Lib.hid hJ
  have HY := Lib.hid hY
  have HS := Lib.hid hS
  clear hJ hY hS
  refine callsIn_of_wp Tryz.func51 rfl trivial ?_ rfl
  simp only [Tryz.ntmps51, List.size_toArray, List.length_cons, List.length_nil, Nat.reduceAdd, Nat.reduceSub, Array.replicate_succ, Array.replicate_zero, List.push_toArray, List.append_toArray, List.nil_append, List.cons_append]
  obtain ⟨c0, c1, c2, c3, c4, c5, sz⟩ := HS.out
  gi_wp2
  gi_loopw [3] (fun d wr => ∃ j : Nat, f + j ≤ l + 1 ∧ d = .int .i64 (f + j) ∧ Hid (J ((rng f j).filter (regB f l e k)) wr) ∧ Hid (KpB B W wr)) (fun d _ => (l + 1 - intOf d).toNat)
  case atStart => exact ⟨0, by omega, by simp, Lib.hid hJ0, Lib.hid ⟨rfl, Nat.le_refl _⟩⟩
  case round =>
    clear c0 c1 c2 c3 c4 c5 sz
    obtain ⟨j, hj, rfl, hJs, hK⟩ := hrel
    have HW := Lib.hid (HS.out.kept hK.out.1 hK.out.2)
    obtain ⟨c0, c1, c2, c3, c4, c5, sz⟩ := HW.out
    by_cases hlt : f + j ≤ l
    · have hlen := filter_len (regB f l e k) f j
      have hlen2 : ((rng f j).filter (regB f l e k)).length < 141 := by omega
      have hhit := Lib.hid (fun h => filter_hit (p := regB f l e k) (f := f) (n := j) h)
      have hmiss := Lib.hid (fun h => filter_miss (p := regB f l e k) (f := f) (n := j) h)
      generalize hL : (rng f j).filter (regB f l e k) = L at *
      clear hL hlen
      obtain ⟨x, hxj⟩ : ∃ x : Int, x = f + j := ⟨_, rfl⟩
      have HXJ := Lib.hid hxj
      have HJJ := Lib.hid hj
      rw [← hxj] at hhit hmiss hlt ⊢
      have hx0 : 0 ≤ x := by omega
      clear hxj hj
      cases hr : regB f l e k x
      · have hm := Lib.hid (hmiss.out hr)
        clear hhit hmiss
        gi_wp2_with (refine ⟨trivial, ?_⟩; gi_at_call 50; refine (callsIn_wide.2 (regular_any f l e k x a n c b m q _ h0 hl e1 e2 k0 k1)).mono ?_; rintro e w1 ⟨rfl, hb1⟩; rw [hr])
        have HB1 := Lib.hid (KpB.below sz hb1)
        refine ⟨fun _ h => (by cases h), ?_⟩
        gi_wp2
        go_roundw
        case rel => exact ⟨j + 1, by have := HXJ.out; omega, int_eq (by have := HXJ.out; omega), Lib.hid (by rw [hm.out]; exact HJ.out _ _ _ none hJs.out (grown_below hb1 none) (fun r e => by cases e)), Lib.hid (hK.out.t HB1.out)⟩
        case measure => have := HXJ.out; simp [intOf]; omega
      · have hm := Lib.hid (hhit.out hr)
        clear hhit hmiss
        gi_wp2_with fail
        refine ⟨trivial, ?_⟩
        refine (callsIn_wide.2 (regular_any f l e k x a n c b m q _ h0 hl e1 e2 k0 k1)).mono ?_
        rintro en w1 ⟨rfl, hb1⟩
        rw [hr]
        have HB1 := Lib.hid (KpB.below sz hb1)
        have hJ1 := HJ.out _ _ _ none hJs.out (grown_below hb1 none) (fun r e => by cases e)
        obtain ⟨fn, tmps, assign, body, hy, hR⟩ := HY.out _ x w1 hJ1 hlen2
        clear hJ1 c0 c1 c2 c3 c4 c5 sz
        gi_wp2_with fail
        refine hR.mono ?_
        rintro en W3 (⟨rfl, hJ3, hk3⟩ | ⟨rfl, hJx3⟩)
        · have HJ3 := Lib.hid hJ3
          have HK3 := Lib.hid hk3
          clear hJ3 hk3
          gi_wp2
          go_roundw
          case rel => exact ⟨j + 1, by have := HXJ.out; omega, int_eq (by have := HXJ.out; omega), Lib.hid (by rw [hm.out]; exact HJ3.out), Lib.hid ((hK.out.t HB1.out).t HK3.out)⟩
          case measure => have := HXJ.out; simp [intOf]; omega
        · gi_wp2
          refine bodyPost_ret (results_none rfl _ _ _) rfl ?_
          exact ⟨⟨_, rfl⟩, .inr ⟨_, trivial, hJx3⟩⟩
    · have hjj : Hid (j = (l - f + 1).toNat) := Lib.hid (by omega)
      gi_wp2
      go_end0
      exact ⟨⟨_, rfl⟩, .inl (by unfold dayR; rw [← hjj.out]; exact hJs.out)⟩
theorem regs_any (f l e k : Int) (a : Option Addr) (n c : Nat) (b : Option Addr) (m q : Nat) (w : World) :
    Calls Tryz.prog 29 #[serV f l e k a n c b m q] w fun en w' => en = .returned (.func (.func 51) #[] #[.pointer (some ⟨w.heap.size, 0, none⟩)]) ∧
      w' = w.alloc (.cells #[.int .i64 f, .int .i64 l, .int .i64 e, .int .i64 k, .slice a n c, .slice b m q] 37) := by
  go_enter Tryz.func29, Tryz.ntmps29
  go_wp2
  go_ret
  exact ⟨rfl, rfl⟩
theorem regs_stops (B : Nat) (f l e k : Int) (a : Option Addr) (n c : Nat) (b : Option Addr) (m q : Nat) (h0 : 0 ≤ f) (hfl : f ≤ l) (hl : l ≤ 36524) (hl2 : l ≤ f + 140) (e1 : 1 ≤ e) (e2 : e ≤ 4) (k0 : 0 ≤ k) (k1 : k ≤ 127) (w : World) (hS : S6 w B f l e k a n c b m q) :
    SeqStopsK Fence.wide 2 Tryz.prog 51 #[.pointer (some ⟨B, 0, none⟩)] (fun x : Int => #[Value.int .i64 x]) (KpB B) (fun ys => ys = (dayR f l).filter (regB f l e k)) (fun _ => True) 141 w := fun lp J Jx W hW hJ _ hY hJ0 =>
  regs1_in lp B f l e k a n c b m q h0 hfl hl hl2 e1 e2 k0 k1 J Jx W hJ hY (hS.kept (hW.block B hS.sz) hW.size) hJ0
end Go.Proofs.YtcifdllbnbhcdaaGreatDoor.Rc
namespace Go.Proofs
open Go.Shelf
def Tryz.lays189_ren : Go.Shelf.Ren := ⟨fun | 189 => 31 | 125 => 54 | 257 => 53 | 128 => 88 | 129 => 89 | 294 => 79 | 295 => 80 | 296 => 81 | 297 => 82 | 298 => 83 | 299 => 84 | 216 => 85 | 300 => 86 | 301 => 87 | 328 => 117 | 329 => 118 | 330 => 119 | 331 => 120 | 332 => 121 | 215 => 122 | 343 => 208 | n => n, fun | 28 => 22 | 3 => 3 | 46 => 122 | 0 => 0 | 51 => 175 | 53 => 177 | 4 => 4 | 183 => 169 | 182 => 168 | 131 => 91 | 5 => 5 | 9 => 9 | 218 => 227 | 222 => 231 | 228 => 337 | 229 => 338 | n => n, fun | n => n⟩
theorem Tryz.lays189 : Go.Proofs.Lays.n189 Tryz.prog Tryz.lays189_ren := {
  mixed := by kernel_rfl
  f125 := Tryz.func54.trans (congrArg some (by kernel_rfl))
  f128 := Tryz.func88.trans (congrArg some (by kernel_rfl))
  f129 := Tryz.func89.trans (congrArg some (by kernel_rfl))
  f189 := Tryz.func31.trans (congrArg some (by kernel_rfl))
  f215 := Tryz.func122.trans (congrArg some (by kernel_rfl))
  f216 := Tryz.func85.trans (congrArg some (by kernel_rfl))
  f257 := Tryz.func53.trans (congrArg some (by kernel_rfl))
  f294 := Tryz.func79.trans (congrArg some (by kernel_rfl))
  f295 := Tryz.func80.trans (congrArg some (by kernel_rfl))
  f296 := Tryz.func81.trans (congrArg some (by kernel_rfl))
  f297 := Tryz.func82.trans (congrArg some (by kernel_rfl))
  f298 := Tryz.func83.trans (congrArg some (by kernel_rfl))
  f299 := Tryz.func84.trans (congrArg some (by kernel_rfl))
  f300 := Tryz.func86.trans (congrArg some (by kernel_rfl))
  f301 := Tryz.func87.trans (congrArg some (by kernel_rfl))
  f328 := Tryz.func117.trans (congrArg some (by kernel_rfl))
  f329 := Tryz.func118.trans (congrArg some (by kernel_rfl))
  f330 := Tryz.func119.trans (congrArg some (by kernel_rfl))
  f331 := Tryz.func120.trans (congrArg some (by kernel_rfl))
  f332 := Tryz.func121.trans (congrArg some (by kernel_rfl))
  f343 := Tryz.func208.trans (congrArg some (by kernel_rfl))
  t0 := Tryz.underlying0
  a0 := Tryz.isAgg0
  z0 := Tryz.sizeOf0
  v0 := Tryz.zeroValue0
  t3 := Tryz.underlying3
  a3 := Tryz.isAgg3
  z3 := Tryz.sizeOf3
  v3 := Tryz.zeroValue3
  t4 := Tryz.underlying4
  a4 := Tryz.isAgg4
  z4 := Tryz.sizeOf4
  v4 := Tryz.zeroValue4
  t5 := Tryz.underlying5
  a5 := Tryz.isAgg5
  z5 := Tryz.sizeOf5
  v5 := Tryz.zeroValue5
  t9 := Tryz.underlying9
  a9 := Tryz.isAgg9
  z9 := Tryz.sizeOf9
  v9 := Tryz.zeroValue9
  t28 := Tryz.underlying22
  a28 := Tryz.isAgg22
  z28 := Tryz.sizeOf22
  v28 := Tryz.zeroValue22
  t46 := Tryz.underlying122
  a46 := Tryz.isAgg122
  z46 := Tryz.sizeOf122
  v46 := Tryz.zeroValue122
  t51 := Tryz.underlying175
  a51 := Tryz.isAgg175
  z51 := Tryz.sizeOf175
  v51 := Tryz.zeroValue175
  t53 := Tryz.underlying177
  a53 := Tryz.isAgg177
  z53 := Tryz.sizeOf177
  v53 := Tryz.zeroValue177
  t131 := Tryz.underlying91
  a131 := Tryz.isAgg91
  z131 := Tryz.sizeOf91
  v131 := Tryz.zeroValue91
  t182 := Tryz.underlying168
  a182 := Tryz.isAgg168
  z182 := Tryz.sizeOf168
  v182 := Tryz.zeroValue168
  t183 := Tryz.underlying169
  a183 := Tryz.isAgg169
  z183 := Tryz.sizeOf169
  v183 := Tryz.zeroValue169
  t218 := Tryz.underlying227
  a218 := Tryz.isAgg227
  z218 := Tryz.sizeOf227
  v218 := Tryz.zeroValue227
  t222 := Tryz.underlying231
  a222 := Tryz.isAgg231
  z222 := Tryz.sizeOf231
  v222 := Tryz.zeroValue231
  t228 := Tryz.underlying337
  a228 := Tryz.isAgg337
  z228 := Tryz.sizeOf337
  v228 := Tryz.zeroValue337
  t229 := Tryz.underlying338
  a229 := Tryz.isAgg338
  z229 := Tryz.sizeOf338
  v229 := Tryz.zeroValue338 }
open Go.Sort Go.RowKit in
theorem Tryz.slices_Sort_int (blk off cap : Nat) (zs : List Int) (w : World) (hH : Holds (Value.int .i64) w blk off zs.toArray) (hblk : blk < w.heap.size) (hsz : zs.length < 4611686018427387904) :
    Calls Tryz.prog 31 #[.slice (some ⟨blk, off, none⟩) zs.length cap] w fun e w' =>
      e = .returned (.tuple #[]) ∧ ∃ n os, w' = grow (putRow (Value.int .i64) (Sort.ahead w n) blk off (zs.mergeSort fun x y => decide (x ≤ y)).toArray) os := Any.slices_Sort_int Tryz.lays189 blk off cap zs w hH hblk hsz
def Tryz.lays107_ren : Go.Shelf.Ren := ⟨fun | 107 => 30 | 108 => 52 | n => n, fun | 28 => 22 | 3 => 3 | 4 => 4 | 0 => 0 | n => n, fun | n => n⟩
theorem Tryz.lays107 : Go.Proofs.Lays.n107 Tryz.prog Tryz.lays107_ren := {
  mixed := by kernel_rfl
  f107 := Tryz.func30.trans (congrArg some (by kernel_rfl))
  f108 := Tryz.func52.trans (congrArg some (by kernel_rfl))
  t0 := Tryz.underlying0
  a0 := Tryz.isAgg0
  z0 := Tryz.sizeOf0
  v0 := Tryz.zeroValue0
  t3 := Tryz.underlying3
  a3 := Tryz.isAgg3
  z3 := Tryz.sizeOf3
  v3 := Tryz.zeroValue3
  t4 := Tryz.underlying4
  a4 := Tryz.isAgg4
  z4 := Tryz.sizeOf4
  v4 := Tryz.zeroValue4
  t28 := Tryz.underlying22
  a28 := Tryz.isAgg22
  z28 := Tryz.sizeOf22
  v28 := Tryz.zeroValue22 }
open Go.Lib in
theorem Tryz.slices_Contains_int (b off n c : Nat) (zs : List Int) (x : Int) (w : World) (hz : n ≤ zs.length) (hbig : n ≤ 9223372036854775807) (hc : ∀ j, j < zs.length → w.cell? ⟨b, off + j, none⟩ = some (.int .i64 (zs.getD j 0))) :
    Calls Tryz.prog 30 #[.slice (some ⟨b, off, none⟩) n c, .int .i64 x] w fun e w' => e = .returned (.bool ((zs.take n).contains x)) ∧ w' = w := Any.slices_Contains_int Tryz.lays107 b off n c zs x w hz hbig hc
open Go.Lib in
theorem Tryz.slices_Contains_int_empty (a : Option Addr) (c : Nat) (x : Int) (w : World) :
    Calls Tryz.prog 30 #[.slice a 0 c, .int .i64 x] w fun e w' => e = .returned (.bool false) ∧ w' = w := Any.slices_Contains_int_empty Tryz.lays107 a c x w
def Tryz.laysNm215_ren : Go.Shelf.Ren := ⟨fun | 15 => 28 | n => n, fun | 22 => 22 | 3 => 3 | 4 => 4 | n => n, fun | n => n⟩
theorem Tryz.laysNm215 : Go.Proofs.Lays2.n15 Tryz.prog Tryz.laysNm215_ren := {
  mixed := by kernel_rfl
  f15 := Tryz.func28.trans (congrArg some (by kernel_rfl))
  t3 := Tryz.underlying3
  a3 := Tryz.isAgg3
  z3 := Tryz.sizeOf3
  v3 := Tryz.zeroValue3
  t4 := Tryz.underlying4
  a4 := Tryz.isAgg4
  z4 := Tryz.sizeOf4
  v4 := Tryz.zeroValue4
  t22 := Tryz.underlying22
  a22 := Tryz.isAgg22
  z22 := Tryz.sizeOf22
  v22 := Tryz.zeroValue22
  i3 := by kernel_rfl }
open Go.RowKit Go.Lib in
theorem Tryz.slices_Clone_int (b off n c : Nat) (zs : List Int) (w : World) (hz : n ≤ zs.length) (hbig : n * 8 ≤ 140737488355328) (hc : ∀ j, j < zs.length → w.cell? ⟨b, off + j, none⟩ = some (.int .i64 (zs.getD j 0))) :
    Calls Tryz.prog 28 #[.slice (some ⟨b, off, none⟩) n c] w fun e w' => ∃ v', e = .returned v' ∧ w'.ownsRow w.heap.size 3 1 v' n ((zs.take n).map (Value.int .i64)) ∧ v' ≠ .slice none 0 0 ∧ Below w.heap.size w w' := Any.slices_Clone_int Tryz.laysNm215 b off n c zs w hz hbig hc
open Go.RowKit Go.Lib in
theorem Tryz.slices_Clone_int_nil (n c : Nat) (w : World) :
    Calls Tryz.prog 28 #[.slice none n c] w fun e w' => e = .returned (.slice none 0 0) ∧ w' = w := Any.slices_Clone_int_nil Tryz.laysNm215 n c w
open Go.RowKit Go.Lib in
theorem Tryz.slices_Clone_int_zero (a : Addr) (c : Nat) (w : World) :
    Calls Tryz.prog 28 #[.slice (some a) 0 c] w fun e w' => ∃ v', e = .returned v' ∧ w'.ownsRow w.heap.size 3 1 v' 0 [] ∧ v' ≠ .slice none 0 0 ∧ Below w.heap.size w w' := Any.slices_Clone_int_zero Tryz.laysNm215 a c w
open Go.RowKit Go.Sort in
theorem Tryz.slices_Sort_int_none (p : Option Addr) (cap : Nat) (w : World) :
    Calls Tryz.prog 31 #[.slice p 0 cap] w fun e w' => e = .returned (.tuple #[]) ∧ w' = w := Any.slices_Sort_int_none Tryz.lays189 p cap w
end Go.Proofs
