import Derived.Test.YtgdgpniceaknbaaDoorT13
import Derived.Deep.RegionHeld3
namespace Go.Proofs.YtgdgpniceaknbaaDoor
open Go.RowKit TT

theorem days_ints (ws d s l f k : Int) (hs : List Int) (a : Option Addr) (n c : Nat) (w : World) (hI : IntsAt w a n hs) (hws2 : ws ≤ 9223372036854775807) :
    Calls Tryd.prog 25 #[.agg #[.int .i64 f, .int .i64 k, .slice a n c], .agg #[.int .i64 ws, .int .i64 d, .int .i64 s, .int .i64 l]] w fun e w' =>
      ∃ a' cap, e = .returned (.slice a' (daysL f k hs ws d 20).length cap) ∧ IntsAt w' a' (daysL f k hs ws d 20).length (daysL f k hs ws d 20) ∧ Below w.heap.size w w' :=
  (days_any' ws d s l f k hs a n c w hI hws2).mono fun e w' ⟨v, he, ho, hb⟩ => by
    obtain ⟨a', cap, rfl, hi⟩ := IntsAt.of_owns ho
    exact ⟨a', cap, he, hi, hb⟩
theorem rdays_ints (ws d s l f k : Int) (hs : List Int) (a : Option Addr) (n c : Nat) (w : World) (hI : IntsAt w a n hs) (hws2 : ws ≤ 9223372036854775807) :
    Calls Tryd.prog 26 #[.agg #[.int .i64 f, .int .i64 k, .slice a n c], .agg #[.int .i64 ws, .int .i64 d, .int .i64 s, .int .i64 l]] w fun e w' =>
      ∃ a' cap, e = .returned (.slice a' (daysL f k hs ws d 20).length cap) ∧ IntsAt w' a' (daysL f k hs ws d 20).length (daysL f k hs ws d 20) ∧ Below w.heap.size w w' :=
  (rdays_any ws d s l f k hs a n c w hI hws2).mono fun e w' ⟨v, he, ho, hb⟩ => by
    obtain ⟨a', cap, rfl, hi⟩ := IntsAt.of_owns ho
    exact ⟨a', cap, he, hi, hb⟩

/-- what the law CalendarTerms knows of the world between its calls -/
structure LawW (w wr : World) (f k ws d s l x0 x1 x2 : Int) (a : Option Addr) (n c : Nat) (hs : List Int) : Prop where
  t0 : wr.cell? ⟨w.heap.size, 0, none⟩ = some (.int .i64 f)
  t1 : wr.cell? ⟨w.heap.size, 1, none⟩ = some (.int .i64 k)
  t2 : wr.cell? ⟨w.heap.size, 2, none⟩ = some (.slice a n c)
  n0 : wr.cell? ⟨w.heap.size + 1, 0, none⟩ = some (.int .i64 x0)
  n1 : wr.cell? ⟨w.heap.size + 1, 1, none⟩ = some (.int .i64 x1)
  n2 : wr.cell? ⟨w.heap.size + 1, 2, none⟩ = some (.int .i64 x2)
  m0 : wr.cell? ⟨w.heap.size + 2, 0, none⟩ = some (.int .i64 ws)
  m1 : wr.cell? ⟨w.heap.size + 2, 1, none⟩ = some (.int .i64 d)
  m2 : wr.cell? ⟨w.heap.size + 2, 2, none⟩ = some (.int .i64 s)
  m3 : wr.cell? ⟨w.heap.size + 2, 3, none⟩ = some (.int .i64 l)
  sz : w.heap.size + 2 < wr.heap.size
  ints : IntsAt wr a n hs
  lens : Lens wr
  bl : Below w.heap.size w wr

section
variable {w wr w2 : World} {f k ws d s l x0 x1 x2 : Int} {a : Option Addr} {n c : Nat} {hs : List Int}
theorem LawW.next (hb : Below wr.heap.size wr w2) (h : LawW w wr f k ws d s l x0 x1 x2 a n c hs) : LawW w w2 f k ws d s l x0 x1 x2 a n c hs := by
  have e : ∀ b o, b < wr.heap.size → w2.cell? ⟨b, o, none⟩ = wr.cell? ⟨b, o, none⟩ := fun b o hh => hb.cell (p := ⟨b, o, none⟩) hh
  have z := h.sz
  exact ⟨(e _ _ (by omega)).trans h.t0, (e _ _ (by omega)).trans h.t1, (e _ _ (by omega)).trans h.t2, (e _ _ (by omega)).trans h.n0, (e _ _ (by omega)).trans h.n1, (e _ _ (by omega)).trans h.n2,
    (e _ _ (by omega)).trans h.m0, (e _ _ (by omega)).trans h.m1, (e _ _ (by omega)).trans h.m2, (e _ _ (by omega)).trans h.m3, Nat.lt_of_lt_of_le h.sz hb.size, h.ints.below hb, h.lens.below hb, h.bl.trans (hb.mono (by omega))⟩
theorem LawW.drew (h : LawW w wr f k ws d s l x0 x1 x2 a n c hs) : LawW w wr.drew f k ws d s l x0 x1 x2 a n c hs :=
  LawW.next (wr := wr) (w2 := wr.drew) ⟨rfl, rfl, rfl, Nat.le_refl _, fun _ _ => rfl⟩ h
theorem LawW.all (h : LawW w wr f k ws d s l x0 x1 x2 a n c hs) : LawW w wr f k ws d s l x0 x1 x2 a n c hs ∧ wr.cell? ⟨w.heap.size, 0, none⟩ = some (.int .i64 f) ∧ wr.cell? ⟨w.heap.size, 1, none⟩ = some (.int .i64 k) ∧ wr.cell? ⟨w.heap.size, 2, none⟩ = some (.slice a n c)
    ∧ wr.cell? ⟨w.heap.size + 2, 0, none⟩ = some (.int .i64 ws) ∧ wr.cell? ⟨w.heap.size + 2, 1, none⟩ = some (.int .i64 d) ∧ wr.cell? ⟨w.heap.size + 2, 2, none⟩ = some (.int .i64 s) ∧ wr.cell? ⟨w.heap.size + 2, 3, none⟩ = some (.int .i64 l) :=
  ⟨h, h.t0, h.t1, h.t2, h.m0, h.m1, h.m2, h.m3⟩
theorem LawW.mk0 (T U V : TypeId) (hI : IntsAt w a n hs) (hl : Lens w) :
    LawW w (((w.alloc (.cells #[.int .i64 f, .int .i64 k, .slice a n c] T)).alloc (.cells #[.int .i64 x0, .int .i64 x1, .int .i64 x2] U)).alloc (.cells #[.int .i64 ws, .int .i64 d, .int .i64 s, .int .i64 l] V)) f k ws d s l x0 x1 x2 a n c hs := by
  have hb : Below w.heap.size w (((w.alloc (.cells #[.int .i64 f, .int .i64 k, .slice a n c] T)).alloc (.cells #[.int .i64 x0, .int .i64 x1, .int .i64 x2] U)).alloc (.cells #[.int .i64 ws, .int .i64 d, .int .i64 s, .int .i64 l] V)) :=
    (((Below.refl _ _).alloc (Nat.le_refl _) _).alloc (by simp) _).alloc (by simp; omega) _
  refine ⟨?_, ?_, ?_, ?_, ?_, ?_, ?_, ?_, ?_, ?_, by simp, hI.below hb, hl.below hb, hb⟩
  all_goals first
    | (rw [World.cell?_alloc_past _ _ _ (by simp; omega), World.cell?_alloc_past _ _ _ (by simp), World.cell?_alloc_at _ _ _ _ rfl]; rfl)
    | (rw [World.cell?_alloc_past _ _ _ (by simp), World.cell?_alloc_at _ _ _ _ (by simp)]; rfl)
    | (rw [World.cell?_alloc_at _ _ _ _ (by simp)]; rfl)
end

set_option maxRecDepth 100000 in
set_option maxHeartbeats 4000000 in
theorem law_terms (f k ws d s l x0 x1 x2 : Int) (hs : List Int) (a : Option Addr) (n c : Nat) (w : World) (hI : IntsAt w a n hs) (hl : Lens w) (hws2 : ws ≤ 9223372036854775807) :
    Calls Tryd.prog 5 #[.agg #[.int .i64 f, .int .i64 k, .slice a n c], .agg #[.int .i64 x0, .int .i64 x1, .int .i64 x2], .agg #[.int .i64 ws, .int .i64 d, .int .i64 s, .int .i64 l]] w fun e w' => e = .returned (.bool true) ∧ Below w.heap.size w w' := by
  have hW0 := LawW.mk0 (f := f) (k := k) (ws := ws) (d := d) (s := s) (l := l) (x0 := x0) (x1 := x1) (x2 := x2) (c := c) 37 22 39 hI hl
  have HW0 := Lib.hid hW0
  clear hW0 hI hl
  go_enter Tryd.func5, Tryd.ntmps5
  go_wp2_with fail
  refine (at_any f k _ _ hs a n c _ HW0.out.ints).mono ?_
  rintro e w1 ⟨rfl, hb⟩
  have HW := Lib.hid (HW0.out.next hb)
  clear hb HW0
  obtain ⟨t0, t1, t2, n0, n1, n2, m0, m1, m2, m3, sz, _, _, _⟩ := HW.out
  go_wp2_with fail
  refine (rat_any f k _ _ hs a n c _ HW.out.ints).mono ?_
  rintro e w2 ⟨rfl, hb⟩
  have HW2 := Lib.hid (HW.out.next hb)
  clear hb HW t0 t1 t2 n0 n1 n2 m0 m1 m2 m3 sz
  obtain ⟨t0, t1, t2, n0, n1, n2, m0, m1, m2, m3, sz, _, _, _⟩ := HW2.out
  go_wp2_with fail
  refine (where_any f k _ hs a n c _ HW2.out.ints).mono ?_
  rintro e w3 ⟨rfl, hb⟩
  have HW3 := Lib.hid (HW2.out.next hb)
  clear hb HW2 t0 t1 t2 n0 n1 n2 m0 m1 m2 m3 sz
  obtain ⟨t0, t1, t2, n0, n1, n2, m0, m1, m2, m3, sz, _, _, _⟩ := HW3.out
  go_wp2_with fail
  refine (rwhere_any f k _ hs a n c _ HW3.out.ints).mono ?_
  rintro e w4 ⟨rfl, hb⟩
  have HW4 := Lib.hid (HW3.out.next hb)
  clear hb HW3 t0 t1 t2 n0 n1 n2 m0 m1 m2 m3 sz
  go_wp2_with fail
  have HW4' := HW4.out
  go_region_held3 (fun w' => LawW w w' f k ws d s l x0 x1 x2 a n c hs ∧ w'.cell? ⟨w.heap.size, 0, none⟩ = some (.int .i64 f) ∧ w'.cell? ⟨w.heap.size, 1, none⟩ = some (.int .i64 k) ∧ w'.cell? ⟨w.heap.size, 2, none⟩ = some (.slice a n c)
    ∧ w'.cell? ⟨w.heap.size + 2, 0, none⟩ = some (.int .i64 ws) ∧ w'.cell? ⟨w.heap.size + 2, 1, none⟩ = some (.int .i64 d) ∧ w'.cell? ⟨w.heap.size + 2, 2, none⟩ = some (.int .i64 s) ∧ w'.cell? ⟨w.heap.size + 2, 3, none⟩ = some (.int .i64 l))
    (first | assumption | exact (LawW.next (by assumption) (And.left (by assumption))).all | exact (LawW.drew (by assumption)).all)
    (first
      | (go_at_call 14; refine (awake_any _ (LawW.lens (And.left (by assumption)))).mono ?_; rintro e w' ⟨rfl, rfl⟩)
      | (go_at_call 22; refine (term_any f k hs a n c _ (LawW.ints (And.left (by assumption)))).mono ?_; rintro e w5 ⟨rfl, hb5⟩)
      | (go_at_call 23; refine (rterm_any f k hs a n c _ (LawW.ints (And.left (by assumption)))).mono ?_; rintro e w6 ⟨rfl, hb6⟩)
      | (go_at_call 25; refine (days_ints ws d s l f k hs a n c _ (LawW.ints (And.left (by assumption))) hws2).mono ?_; rintro e w7 ⟨a7, c7, rfl, hi7, hb7⟩)
      | (go_at_call 26; refine (rdays_ints ws d s l f k hs a n c _ (LawW.ints (And.left (by assumption))) hws2).mono ?_; rintro e w8 ⟨a8, c8, rfl, hi8, hb8⟩)
      | (go_at_call 24; refine (same_any _ _ _ _ _ _ _ _ _ (hi7.below hb8) hi8).mono ?_; rw [sameI_refl]; rintro e w9 ⟨rfl, hb9⟩))
  all_goals
    go_wp2
    go_ret
    exact ⟨rfl, LawW.bl (And.left (by assumption))⟩
end Go.Proofs.YtgdgpniceaknbaaDoor
