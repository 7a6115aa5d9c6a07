import Derived.Test.YtgdgpniceaknbaaDoorT18
import Derived.Test.YtgdgpniceaknbaaDoorT21
namespace Go.Proofs.YtgdgpniceaknbaaDoor
open Go.RowKit TT

/-- what the region of the made law keeps -/
def AllW (w w6 wr : World) (p B : Nat) (f k : Int) (a : Option Addr) (n c : Nat) (hs : List Int) (ws d s l : Int) : Prop :=
  MadeW w wr p B f k a n c hs ∧ wr.cell? ⟨B, 0, none⟩ = some (.int .i64 f) ∧ wr.cell? ⟨B, 1, none⟩ = some (.int .i64 k) ∧ wr.cell? ⟨B, 2, none⟩ = some (.slice a n c)
      ∧ w6.heap.size < wr.heap.size ∧ wr.cell? ⟨w6.heap.size, 0, none⟩ = some (.int .i64 ws) ∧ wr.cell? ⟨w6.heap.size, 1, none⟩ = some (.int .i64 d) ∧ wr.cell? ⟨w6.heap.size, 2, none⟩ = some (.int .i64 s) ∧ wr.cell? ⟨w6.heap.size, 3, none⟩ = some (.int .i64 l)
section
variable {w w6 wr w2 : World} {p B : Nat} {f k : Int} {a : Option Addr} {n c : Nat} {hs : List Int} {ws d s l : Int}
theorem AllW.mk0 (T : TypeId) (h : MadeW w w6 p B f k a n c hs) : AllW w w6 (w6.alloc (.cells #[.int .i64 ws, .int .i64 d, .int .i64 s, .int .i64 l] T)) p B f k a n c hs ws d s l := by
  have h' := h.below ((Below.refl _ _).alloc (Nat.le_refl _) (.cells #[.int .i64 ws, .int .i64 d, .int .i64 s, .int .i64 l] T))
  obtain ⟨⟨c0, c1, c2⟩, _⟩ := h'.cells
  exact ⟨h', c0, c1, c2, by simp, World.cell?_alloc_at _ _ _ _ rfl, World.cell?_alloc_at _ _ _ _ rfl, World.cell?_alloc_at _ _ _ _ rfl, World.cell?_alloc_at _ _ _ _ rfl⟩
theorem AllW.next (h : AllW w w6 wr p B f k a n c hs ws d s l) (hp : p < w6.heap.size) (hd : DiceAt w2 p) (hb : But p wr w2) : AllW w w6 w2 p B f k a n c hs ws d s l := by
  obtain ⟨h1, _, _, _, z, m0, m1, m2, m3⟩ := h
  have h' := h1.next hd hb
  obtain ⟨⟨c0, c1, c2⟩, _⟩ := h'.cells
  have e : ∀ o, w2.cell? ⟨w6.heap.size, o, none⟩ = wr.cell? ⟨w6.heap.size, o, none⟩ := fun o => hb.cell z (by omega)
  exact ⟨h', c0, c1, c2, Nat.lt_of_lt_of_le z hb.size, (e 0).trans m0, (e 1).trans m1, (e 2).trans m2, (e 3).trans m3⟩
theorem AllW.below (h : AllW w w6 wr p B f k a n c hs ws d s l) (hb : Below wr.heap.size wr w2) : AllW w w6 w2 p B f k a n c hs ws d s l := by
  obtain ⟨h1, _, _, _, z, m0, m1, m2, m3⟩ := h
  have h' := h1.below hb
  obtain ⟨⟨c0, c1, c2⟩, _⟩ := h'.cells
  have e : ∀ o, w2.cell? ⟨w6.heap.size, o, none⟩ = wr.cell? ⟨w6.heap.size, o, none⟩ := fun o => hb.cell (p := ⟨w6.heap.size, o, none⟩) z
  exact ⟨h', c0, c1, c2, Nat.lt_of_lt_of_le z hb.size, (e 0).trans m0, (e 1).trans m1, (e 2).trans m2, (e 3).trans m3⟩
theorem AllW.drew (h : AllW w w6 wr p B f k a n c hs ws d s l) : AllW w w6 wr.drew p B f k a n c hs ws d s l := AllW.below (w2 := wr.drew) h ⟨rfl, rfl, rfl, Nat.le_refl _, fun _ _ => rfl⟩
end

set_option maxRecDepth 100000 in
set_option maxHeartbeats 8000000 in
theorem law_made (a : Option Addr) (n c : Nat) (L : List Int) (w : World) (hI : IntsAt w a n L) (hL : ∀ x ∈ L, -9223372036854775808 ≤ x ∧ x ≤ 9223372036854775807) (hl : Lens w) :
    Calls Tryd.prog 6 #[.slice a n c] w fun e w' => e = .returned (.bool true) ∧ Below w.heap.size w w' := by
  by_cases hn : n ≤ 400
  rotate_left
  · have hd : decide (n ≤ 400) = false := by simpa using hn
    clear hI hL hn
    go_enter Tryd.func6, Tryd.ntmps6
    go_wp2_with (first | (go_at_call 27; refine (light_any _ _ _ _).mono ?_; rw [hd]; rintro e w' ⟨rfl, rfl⟩) | (go_at_call 14; refine (awake_any _ hl).mono ?_; rintro e w' ⟨rfl, rfl⟩))
    go_ret
    exact ⟨rfl, Below.refl _ _⟩
  have hd : decide (n ≤ 400) = true := by simpa using hn
  have HD0 := Lib.hid (DiceAt.mk0 c 57 hI hn hL)
  have HL0 := Lib.hid hl
  clear hI hL hn hl
  go_enter Tryd.func6, Tryd.ntmps6
  go_wp2_with (first | (go_at_call 27; refine (light_any _ _ _ _).mono ?_; rw [hd]; rintro e w' ⟨rfl, rfl⟩) | (go_at_call 28; refine (roll_any _ _ _ _).mono ?_; rintro e w' ⟨rfl, rfl⟩))
  refine (mterm_any w.heap.size _ HD0.out).mono ?_
  rintro e w1 ⟨f, k, hs, a1, c1, rfl, ht, _, _, hk, hf, hlen, hnl, hne, hi1, hd1, hb1⟩
  have hz1 : w.heap.size + 1 ≤ w1.heap.size := by have := hb1.size; simpa using this
  have hM := MadeW.start (f := f) (k := k) (c1 := c1) HL0.out hb1 hi1 hd1 hne
  have Z := termE_zero ht
  obtain ⟨_, f1, f2, k1, k2, _, _, _, _, _⟩ := Z
  have HM0 := Lib.hid hM
  have HN := Lib.hid hnl
  have HLEN := Lib.hid hlen
  clear hM hi1 hd1 hb1 hne ht hnl
  go_wp2_with fail
  refine (one_any w.heap.size 3 _ (by omega) (by omega) HM0.out.dice).mono ?_
  rintro e w2 ⟨bb, rfl, hd2, hb2⟩
  have hM2 := HM0.out.next hd2 hb2
  have z2 : w1.heap.size < w2.heap.size := lt_of_heap hM2.h4
  have HP0 : Hid (w.heap.size < w1.heap.size) := Lib.hid (by omega)
  obtain ⟨⟨c0, c1', c2⟩, g0, g1, g2⟩ := hM2.cells
  have HM := Lib.hid hM2
  clear hM2 hd2 hb2 HM0
  cases bb
  · clear c0 c1' c2 g0 g1 g2
    go_wp2_with fail
    refine (next_any w.heap.size 1048576 _ (by omega) (by omega) HM.out.dice).mono ?_
    rintro e w5 ⟨x1, x10, x11, rfl, hd5, hb5⟩
    have HM5 := Lib.hid (HM.out.next hd5 hb5)
    clear hd5 hb5
    go_wp2_with fail
    refine (next_any w.heap.size 8 _ (by omega) (by omega) HM5.out.dice).mono ?_
    rintro e w6 ⟨x2, x20, x21, rfl, hd6, hb6⟩
    have HM6 := Lib.hid (HM5.out.next hd6 hb6)
    clear hd6 hb6
    have HP6 : Hid (w.heap.size < w6.heap.size) := Lib.hid (Nat.lt_trans HP0.out (lt_of_heap HM6.out.h4))
    go_wp2_with fail
    have hA := AllW.mk0 (ws := x1) (d := x2) (s := 0) (l := 1) 39 HM6.out
    have HA := Lib.hid hA
    clear hA
    go_region_held3 (fun w' => MadeW w w' w.heap.size w1.heap.size f k a1 hs.length c1 hs ∧ w'.cell? ⟨w1.heap.size, 0, none⟩ = some (.int .i64 f) ∧ w'.cell? ⟨w1.heap.size, 1, none⟩ = some (.int .i64 k) ∧ w'.cell? ⟨w1.heap.size, 2, none⟩ = some (.slice a1 hs.length c1)
      ∧ w6.heap.size < w'.heap.size ∧ w'.cell? ⟨w6.heap.size, 0, none⟩ = some (.int .i64 x1) ∧ w'.cell? ⟨w6.heap.size, 1, none⟩ = some (.int .i64 x2) ∧ w'.cell? ⟨w6.heap.size, 2, none⟩ = some (.int .i64 0) ∧ w'.cell? ⟨w6.heap.size, 3, none⟩ = some (.int .i64 1))
      (first
        | assumption
        | exact AllW.drew (HA.out)
        | exact AllW.next (by assumption) HP6.out hd7 hb7
        | exact AllW.below (by assumption) hb10)
      (first
        | (go_at_call 32; refine (next_any w.heap.size _ _ (by omega) (by omega) (MadeW.dice (And.left (by assumption)))).mono ?_; rintro e w7 ⟨y1, y10, y11, rfl, hd7, hb7⟩; have q1 : IntKind.i64.wrap (f + y1) = f + y1 := IntWalk.i64_in _ (by omega); have q2 : IntKind.i64.wrap (f + y1 - 3) = f + y1 - 3 := IntWalk.i64_in _ (by omega))
        | (go_at_call 5; refine (law_terms f k x1 x2 0 1 _ _ _ hs a1 hs.length c1 _ (MadeW.ints (And.left (by assumption))) (MadeW.lens (And.left (by assumption))) (by omega)).mono ?_; rintro e w10 ⟨rfl, hb10⟩))
    all_goals
      go_wp2
      go_ret
      exact ⟨rfl, MadeW.bl (And.left (by assumption))⟩
  · go_wp2_with fail
    refine (odd_any w.heap.size f k hs a1 hs.length c1 _ HM.out.dice HM.out.ints (fun b off ha h0 => (HM.out.ne b off ha h0).1) (by omega) (by omega) (by omega) (by omega) ?_ (by omega)).mono ?_
    · by_cases h0 : 0 < hs.length
      · exact Or.inr h0
      · have h00 : hs.length = 0 := by omega
        obtain ⟨x, y⟩ := HN.out (List.eq_nil_of_length_eq_zero h00)
        exact Or.inl ⟨h00, x, y⟩
    rintro e w3 ⟨f', k', hs', a', n', c', rfl, f1', f2', hne', hi', hd3, hb3⟩
    have h43 : w3.heap[w1.heap.size]? = some (.cells #[.int .i64 f, .int .i64 k, .slice a1 hs.length c1] 37 (0, 0)) := (hb3.block _ z2 (by have := HP0.out; omega)).trans HM.out.h4
    obtain ⟨⟨c0', c1'', c2'⟩, g0', g1', g2'⟩ := cells3_of h43
    have hneB := hne' w1.heap.size z2 (fun b off ha h0 => (HM.out.ne b off ha h0).2)
    have hneP := hne' w.heap.size (by have := HP0.out; omega) (fun b off ha h0 => (HM.out.ne b off ha h0).1)
    have hM4 : MadeW w (((w3.setCell ⟨w1.heap.size, 0, none⟩ (.int .i64 f')).setCell ⟨w1.heap.size, 1, none⟩ (.int .i64 k')).setCell ⟨w1.heap.size, 2, none⟩ (.slice a' n' c')) w.heap.size w1.heap.size f' k' a' n' c' hs' := by
      have hblk : ∀ q, q ≠ w1.heap.size → (((w3.setCell ⟨w1.heap.size, 0, none⟩ (.int .i64 f')).setCell ⟨w1.heap.size, 1, none⟩ (.int .i64 k')).setCell ⟨w1.heap.size, 2, none⟩ (.slice a' n' c')).heap[q]? = w3.heap[q]? := fun q hq => by
        rw [heap_setCell_other _ _ _ _ hq, heap_setCell_other _ _ _ _ hq, heap_setCell_other _ _ _ _ hq]
      have hpp := HP0.out
      refine ⟨?_, hd3.same (fun q hq => hblk q (by omega)), ((hi'.setOther _ _ _ hneB).setOther _ _ _ hneB).setOther _ _ _ hneB, fun b off ha h0 => ⟨hneP b off ha h0, hneB b off ha h0⟩, ?_, ?_, Nat.le_refl _, hpp, HM.out.b0⟩
      · rw [heap_setCell_same _ _ 2 _ 37 _ (heap_setCell_same _ _ 1 _ 37 _ (heap_setCell_same _ _ 0 _ 37 _ h43))]
        simp
      · intro i hi
        have h0 := HM.out.b0
        rw [World.cell?_of_block (w := w3) (a := ⟨0, i, none⟩) (hblk 0 (by omega))]
        exact (HM.out.lens.but hb3 (by omega)) i hi
      · exact (((But.below HM.out.bl hb3 (Nat.le_refl _) HM.out.bl.size).setCell (by show w.heap.size ≤ w1.heap.size; omega) _).setCell (by show w.heap.size ≤ w1.heap.size; omega) _).setCell (by show w.heap.size ≤ w1.heap.size; omega) _
    have HM := Lib.hid hM4
    clear hM4 hi' hd3 hb3 h43 hneB hneP hne' c0 c1' c2 g0 g1 g2
    go_wp2_with fail
    refine (next_any w.heap.size 1048576 _ (by omega) (by omega) HM.out.dice).mono ?_
    rintro e w5 ⟨x1, x10, x11, rfl, hd5, hb5⟩
    have HM5 := Lib.hid (HM.out.next hd5 hb5)
    clear hd5 hb5
    go_wp2_with fail
    refine (next_any w.heap.size 8 _ (by omega) (by omega) HM5.out.dice).mono ?_
    rintro e w6 ⟨x2, x20, x21, rfl, hd6, hb6⟩
    have HM6 := Lib.hid (HM5.out.next hd6 hb6)
    clear hd6 hb6
    have HP6 : Hid (w.heap.size < w6.heap.size) := Lib.hid (Nat.lt_trans HP0.out (lt_of_heap HM6.out.h4))
    go_wp2_with fail
    have hA := AllW.mk0 (ws := x1) (d := x2) (s := 0) (l := 1) 39 HM6.out
    have HA := Lib.hid hA
    clear hA
    go_region_held3 (fun w' => MadeW w w' w.heap.size w1.heap.size f' k' a' n' c' hs' ∧ w'.cell? ⟨w1.heap.size, 0, none⟩ = some (.int .i64 f') ∧ w'.cell? ⟨w1.heap.size, 1, none⟩ = some (.int .i64 k') ∧ w'.cell? ⟨w1.heap.size, 2, none⟩ = some (.slice a' n' c')
      ∧ w6.heap.size < w'.heap.size ∧ w'.cell? ⟨w6.heap.size, 0, none⟩ = some (.int .i64 x1) ∧ w'.cell? ⟨w6.heap.size, 1, none⟩ = some (.int .i64 x2) ∧ w'.cell? ⟨w6.heap.size, 2, none⟩ = some (.int .i64 0) ∧ w'.cell? ⟨w6.heap.size, 3, none⟩ = some (.int .i64 1))
      (first
        | assumption
        | exact AllW.drew (HA.out)
        | exact AllW.next (by assumption) HP6.out hd7 hb7
        | exact AllW.below (by assumption) hb10)
      (first
        | (go_at_call 32; refine (next_any w.heap.size _ _ (by omega) (by omega) (MadeW.dice (And.left (by assumption)))).mono ?_; rintro e w7 ⟨y1, y10, y11, rfl, hd7, hb7⟩; have q1 : IntKind.i64.wrap (f' + y1) = f' + y1 := IntWalk.i64_in _ (by omega); have q2 : IntKind.i64.wrap (f' + y1 - 3) = f' + y1 - 3 := IntWalk.i64_in _ (by omega))
        | (go_at_call 5; refine (law_terms f' k' x1 x2 0 1 _ _ _ hs' a' n' c' _ (MadeW.ints (And.left (by assumption))) (MadeW.lens (And.left (by assumption))) (by omega)).mono ?_; rintro e w10 ⟨rfl, hb10⟩))
    all_goals
      go_wp2
      go_ret
      exact ⟨rfl, MadeW.bl (And.left (by assumption))⟩
end Go.Proofs.YtgdgpniceaknbaaDoor
