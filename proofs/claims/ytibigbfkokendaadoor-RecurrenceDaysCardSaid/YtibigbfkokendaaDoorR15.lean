/- Series: the weekdays that a series of days should have, of the reference. -/
import Derived.Test.YtibigbfkokendaaDoorR14
namespace Go.Proofs.YtibigbfkokendaaDoor
open Go.RowKit Go.Maps TT

theorem bitN_pow : ∀ p q : Fin 7, bitN (2 ^ p.val) (q.val : Int) = decide ((q.val : Int) = (p.val : Int)) := by decide +kernel
theorem reg_pow {f l e x : Int} (p : Nat) (hp : p < 7) (h1 : f ≤ x) (h2 : x ≤ l) : regB f l e (2 ^ p) x = (decide (wd7 x = (p : Int)) && cntB f e x) := by
  have hw := wd7_bd x
  have h := bitN_pow ⟨p, hp⟩ ⟨(wd7 x).toNat, by omega⟩
  simp only at h
  rw [show (((wd7 x).toNat : Nat) : Int) = wd7 x from by omega] at h
  unfold regB
  rw [h, decide_eq_true (show f ≤ x ∧ x ≤ l from ⟨h1, h2⟩), Bool.true_and]
theorem hit_no {L : List Int} {f e : Int} {p n : Nat} (h : (decide (wd7 (f + n) = (p : Int)) && cntB f e (f + n)) = false) : hitN L f e p (n + 1) = hitN L f e p n ∧ misN L f e p (n + 1) = misN L f e p n := by
  rw [hit_succ, mis_succ, ← Bool.and_assoc, ← Bool.and_assoc, h]; simp
theorem hit_yes {L : List Int} {f e : Int} {p n : Nat} (h : (decide (wd7 (f + n) = (p : Int)) && cntB f e (f + n)) = true) (hh : hasI L (f + n) = true) : hitN L f e p (n + 1) = hitN L f e p n + 1 ∧ misN L f e p (n + 1) = misN L f e p n := by
  rw [hit_succ, mis_succ, ← Bool.and_assoc, ← Bool.and_assoc, h, hh]; simp
theorem mis_yes {L : List Int} {f e : Int} {p n : Nat} (h : (decide (wd7 (f + n) = (p : Int)) && cntB f e (f + n)) = true) (hh : hasI L (f + n) = false) : hitN L f e p (n + 1) = hitN L f e p n ∧ misN L f e p (n + 1) = misN L f e p n + 1 := by
  rw [hit_succ, mis_succ, ← Bool.and_assoc, ← Bool.and_assoc, h, hh]; simp

/-- what a weekday's round knows of the world -/
structure WW (w wr : World) (B : Nat) (f l e k : Int) : Prop where
  hs : wr.heap[B]? = some (cells6 f l e k (.slice none 0 0) (.slice none 0 0))
  bl : Below w.heap.size w wr
theorem WW.next {w wr w2 : World} {B : Nat} {f l e k : Int} (h : WW w wr B f l e k) (hb : Below wr.heap.size wr w2) : WW w w2 B f l e k :=
  ⟨(hb.block _ (lt_of_heap h.hs)).trans h.hs, h.bl.trans (hb.mono h.bl.size)⟩

set_option maxRecDepth 100000 in
set_option maxHeartbeats 16000000 in
theorem rweekdays_any (e : Int) (L : List Int) (ba oa n c : Nat) (w : World) (hn : L.length = n) (hn0 : 0 < n) (hb : ba < w.heap.size) (hc : ∀ i, i < n → w.cell? ⟨ba, oa + i, none⟩ = some (.int .i64 (L.getD i 0)))
    (hn2 : n ≤ 1000000) (e1 : 1 ≤ e) (e2 : e ≤ 4) (hok : ∀ x ∈ L, okDay x = true) (hfl : fstD L ≤ lstD L) (hl2 : lstD L ≤ fstD L + 140) :
    Calls Tryd.prog 30 #[.slice (some ⟨ba, oa, none⟩) n c, .int .i64 e] w (RetB (.int .i64 (setS L (fstD L) (lstD L) e)) w) := by
  have hmem := mem_fst (L := L) (by omega)
  obtain ⟨f1, f2⟩ := okDay_of (hok _ hmem.1)
  obtain ⟨l1, l2⟩ := okDay_of (hok _ hmem.2)
  have HIL : Hid (IntsAt w (some ⟨ba, oa, none⟩) n L) := Lib.hid ⟨hn, by omega, Or.inr ⟨ba, oa, rfl, hc⟩⟩
  have g0 : w.cell? ⟨ba, oa, none⟩ = some (.int .i64 (fstD L)) := hc 0 hn0
  have gl : w.cell? ⟨ba, oa + (n - 1), none⟩ = some (.int .i64 (lstD L)) := by have := hc (n - 1) (by omega); rw [this]; unfold lstD; rw [hn]
  generalize hf : fstD L = f at *
  generalize hl : lstD L = l at *
  have G0 := Lib.hid g0
  have GL := Lib.hid gl
  clear hc hf hl hok hmem hn g0 gl
  go_enter Tryd.func30, Tryd.ntmps30
  go_wp2
  go_loopw [5, 6] (fun s v wr => ∃ p : Nat, p ≤ 7 ∧ v = .int .i64 p ∧ s = .int .i64 (setN L f l e p) ∧ Hid (Below w.heap.size w wr)) (fun _ v _ => 7 - (intOf v).toNat)
  case atStart => exact ⟨0, by omega, rfl, rfl, Lib.hid (Below.refl _ _)⟩
  case round =>
    obtain ⟨p, hp, rfl, rfl, HB⟩ := hrel
    have g0 : wr.cell? ⟨ba, oa, none⟩ = some (.int .i64 f) := (HB.out.cell (p := ⟨ba, oa, none⟩) hb).trans G0.out
    have gl : wr.cell? ⟨ba, oa + (n - 1), none⟩ = some (.int .i64 l) := (HB.out.cell (p := ⟨ba, oa + (n - 1), none⟩) hb).trans GL.out
    have gl' : wr.cell? ⟨ba, oa + ((n : Int) - 1).toNat, none⟩ = some (.int .i64 l) := by rw [show ((n : Int) - 1).toNat = n - 1 by omega]; exact gl
    have y1 : IntKind.i64.wrap ((n : Int) - 1) = (n : Int) - 1 := IntWalk.i64_in _ (by omega)
    have y3 : (0 : Int) ≤ (n : Int) - 1 := by omega
    have y4 : (n : Int) - 1 < n := by omega
    have y5 : (0 : Int) < n := by omega
    have hbz : ba < wr.heap.size := Nat.lt_of_lt_of_le hb HB.out.size
    obtain ⟨s0, s1⟩ := setN_bd L f l e p
    have hsn : Hid (setN L f l e (p + 1) = setN L f l e p + bif bestB L f l e p then 2 ^ p else 0) := Lib.hid rfl
    rcases (show p = 0 ∨ p = 1 ∨ p = 2 ∨ p = 3 ∨ p = 4 ∨ p = 5 ∨ p = 6 ∨ p = 7 by omega) with rfl | rfl | rfl | rfl | rfl | rfl | rfl | rfl
    · obtain ⟨wo, rfl⟩ : ∃ wo : World, wo = wr := ⟨_, rfl⟩
      have hreg : Hid (∀ x, f ≤ x → x ≤ l → regB f l e 1 x = (decide (wd7 x = ((0 : Nat) : Int)) && cntB f e x)) := Lib.hid (fun x h1 h2 => reg_pow 0 (by omega) h1 h2)
      have hor : bits .or .i64 (setN L f l e 0) 1 = setN L f l e 0 + 1 := or_pow (setN L f l e 0) 0 s0 s1 (by omega)
      have hsn1 : Hid (bestB L f l e 0 = true → setN L f l e 1 = setN L f l e 0 + 1) := Lib.hid (fun h => by have := hsn.out; rw [show (((0 : Nat) : Int)) = 0 from rfl, h, cond_true] at this; exact this)
      have hsn0 : Hid (bestB L f l e 0 = false → setN L f l e 1 = setN L f l e 0) := Lib.hid (fun h => by have := hsn.out; rw [show (((0 : Nat) : Int)) = 0 from rfl, h, cond_false, Int.add_zero] at this; exact this)
      clear hsn
      go_wp2
      go_region
      obtain ⟨w1, hw1⟩ : ∃ w1 : World, w1 = (wo.alloc (.cells #[.int .i64 f, .int .i64 l, .int .i64 e, .int .i64 1, .slice none 0 0, .slice none 0 0] 30)).drew := ⟨_, rfl⟩
      rw [← hw1]
      have HA : Hid (WW w w1 wo.heap.size f l e 1) := Lib.hid ⟨by rw [hw1]; exact World.alloc_heap_new wo _, by rw [hw1]; exact (HB.out.alloc HB.out.size _).trans ⟨rfl, rfl, rfl, Nat.le_refl _, fun _ _ => rfl⟩⟩
      clear hw1 y1 y3 y4 y5 g0 gl gl'
      obtain ⟨c0, c1, c2, c3, c4, c5, z0, z1, z2, z3, z4, z5, sz⟩ := c6_cells HA.out.hs
      clear z0 z1 z2 z3 z4 z5
      go_wp2
      go_loopw [8, 9, 10] (fun h m d wr => ∃ i : Nat, f + i ≤ l + 1 ∧ d = .int .i64 (f + i) ∧ h = .int .i64 (hitN L f e ((0 : Nat) : Int) i : Nat) ∧ m = .int .i64 (misN L f e ((0 : Nat) : Int) i : Nat) ∧ Hid (WW w wr wo.heap.size f l e 1)) (fun _ _ d _ => (l + 1 - intOf d).toNat)
      case atStart => exact ⟨0, by omega, by simp, by simp [hitN, rng], by simp [misN, rng], HA⟩
      case round =>
        clear HA c0 c1 c2 c3 c4 c5 sz
        obtain ⟨i, hi, rfl, rfl, rfl, HW⟩ := hrel
        obtain ⟨c0, c1, c2, c3, c4, c5, z0, z1, z2, z3, z4, z5, sz⟩ := c6_cells HW.out.hs
        clear z0 z1 z2 z3 z4 z5
        have hh1 : hitN L f e ((0 : Nat) : Int) i ≤ i := cnt_le _ f i
        have hh2 : misN L f e ((0 : Nat) : Int) i ≤ i := cnt_le _ f i
        by_cases hlt : f + i ≤ l
        · have hno := Lib.hid (fun h => hit_no (L := L) (f := f) (e := e) (p := 0) (n := i) h)
          have hyes := Lib.hid (fun h => hit_yes (L := L) (f := f) (e := e) (p := 0) (n := i) h)
          have hmis := Lib.hid (fun h => mis_yes (L := L) (f := f) (e := e) (p := 0) (n := i) h)
          obtain ⟨x, hxj⟩ : ∃ x : Int, x = f + i := ⟨_, rfl⟩
          have HXJ := Lib.hid hxj
          have hreg2 := Lib.hid (hreg.out x (by omega) (by omega))
          rw [← hxj] at hlt hno hyes hmis ⊢
          have hx0 : 0 ≤ x := by omega
          have hi2 : i ≤ 141 := by omega
          clear hxj hi
          generalize hH : hitN L f e ((0 : Nat) : Int) i = ht at *
          generalize hM : misN L f e ((0 : Nat) : Int) i = ms at *
          clear hH hM
          cases hr : regB f l e 1 x
          · have hq := Lib.hid (hno.out (by rw [← hreg2.out]; exact hr))
            go_wp2_with (go_at_call 39; refine (rregular_any f l e 1 x _ _ _ _ _ _ _ f1 l2 e1 e2 (by omega) (by omega)).mono ?_; rintro en w2 ⟨rfl, hb2⟩; rw [hr]; have HW2 := Lib.hid (HW.out.next hb2))
            refine ⟨?_, ?measure⟩
            iterate 8 (apply Exists.intro)
            (repeat apply Exists.intro)
            refine ⟨?rel, rfl⟩
            case rel => exact ⟨i + 1, by have := HXJ.out; omega, int_eq (by have := HXJ.out; omega), by rw [hq.out.1], by rw [hq.out.2], HW2⟩
            case measure => have := HXJ.out; simp [intOf]; omega
          · cases hin : hasI L x
            · have hq := Lib.hid (hmis.out (by rw [← hreg2.out]; exact hr) hin)
              go_wp2_with (first
                | (go_at_call 39; refine (rregular_any f l e 1 x _ _ _ _ _ _ _ f1 l2 e1 e2 (by omega) (by omega)).mono ?_; rintro en w2 ⟨rfl, hb2⟩; rw [hr]; have HW2 := Lib.hid (HW.out.next hb2))
                | (go_at_call 40; refine (rin_any L _ _ _ x _ (HIL.out.below HW2.out.bl)).mono ?_; rintro en w9 ⟨rfl, rfl⟩; rw [hin]))
              refine ⟨?_, ?measure⟩
              iterate 8 (apply Exists.intro)
              (repeat apply Exists.intro)
              refine ⟨?rel, rfl⟩
              case rel => exact ⟨i + 1, by have := HXJ.out; omega, int_eq (by have := HXJ.out; omega), by rw [hq.out.1], int_eq (by rw [hq.out.2]; omega), HW2⟩
              case measure => have := HXJ.out; simp [intOf]; omega
            · have hq := Lib.hid (hyes.out (by rw [← hreg2.out]; exact hr) hin)
              go_wp2_with (first
                | (go_at_call 39; refine (rregular_any f l e 1 x _ _ _ _ _ _ _ f1 l2 e1 e2 (by omega) (by omega)).mono ?_; rintro en w2 ⟨rfl, hb2⟩; rw [hr]; have HW2 := Lib.hid (HW.out.next hb2))
                | (go_at_call 40; refine (rin_any L _ _ _ x _ (HIL.out.below HW2.out.bl)).mono ?_; rintro en w9 ⟨rfl, rfl⟩; rw [hin]))
              refine ⟨?_, ?measure⟩
              iterate 8 (apply Exists.intro)
              (repeat apply Exists.intro)
              refine ⟨?rel, rfl⟩
              case rel => exact ⟨i + 1, by have := HXJ.out; omega, int_eq (by have := HXJ.out; omega), int_eq (by rw [hq.out.1]; omega), by rw [hq.out.2], HW2⟩
              case measure => have := HXJ.out; simp [intOf]; omega
        · have hbest : Hid (bestB L f l e ((0 : Nat) : Int) = decide (misN L f e ((0 : Nat) : Int) i < hitN L f e ((0 : Nat) : Int) i)) := Lib.hid (by rw [show i = (l - f + 1).toNat by omega]; rfl)
          have hi2 : i ≤ 141 := by omega
          generalize hitN L f e ((0 : Nat) : Int) i = ht at *
          generalize misN L f e ((0 : Nat) : Int) i = ms at *
          by_cases hgt : ms < ht
          · have hk := Lib.hid (hsn1.out (hbest.out.trans (decide_eq_true hgt)))
            have hgt' : (ms : Int) < ht := by omega
            go_wp2
            go_roundw
            case rel => exact ⟨1, by omega, by go_num, by rw [hk.out], Lib.hid HW.out.bl⟩
            case measure => simp [intOf]
          · have hk := Lib.hid (hsn0.out (hbest.out.trans (decide_eq_false hgt)))
            have hgt' : ¬ (ms : Int) < ht := by omega
            go_wp2
            go_roundw
            case rel => exact ⟨1, by omega, by go_num, by rw [hk.out], Lib.hid HW.out.bl⟩
            case measure => simp [intOf]
    · obtain ⟨wo, rfl⟩ : ∃ wo : World, wo = wr := ⟨_, rfl⟩
      have hreg : Hid (∀ x, f ≤ x → x ≤ l → regB f l e 2 x = (decide (wd7 x = ((1 : Nat) : Int)) && cntB f e x)) := Lib.hid (fun x h1 h2 => reg_pow 1 (by omega) h1 h2)
      have hor : bits .or .i64 (setN L f l e 1) 2 = setN L f l e 1 + 2 := or_pow (setN L f l e 1) 1 s0 s1 (by omega)
      have hsn1 : Hid (bestB L f l e 1 = true → setN L f l e 2 = setN L f l e 1 + 2) := Lib.hid (fun h => by have := hsn.out; rw [show (((1 : Nat) : Int)) = 1 from rfl, h, cond_true] at this; exact this)
      have hsn0 : Hid (bestB L f l e 1 = false → setN L f l e 2 = setN L f l e 1) := Lib.hid (fun h => by have := hsn.out; rw [show (((1 : Nat) : Int)) = 1 from rfl, h, cond_false, Int.add_zero] at this; exact this)
      clear hsn
      go_wp2
      go_region
      obtain ⟨w1, hw1⟩ : ∃ w1 : World, w1 = (wo.alloc (.cells #[.int .i64 f, .int .i64 l, .int .i64 e, .int .i64 2, .slice none 0 0, .slice none 0 0] 30)).drew := ⟨_, rfl⟩
      rw [← hw1]
      have HA : Hid (WW w w1 wo.heap.size f l e 2) := Lib.hid ⟨by rw [hw1]; exact World.alloc_heap_new wo _, by rw [hw1]; exact (HB.out.alloc HB.out.size _).trans ⟨rfl, rfl, rfl, Nat.le_refl _, fun _ _ => rfl⟩⟩
      clear hw1 y1 y3 y4 y5 g0 gl gl'
      obtain ⟨c0, c1, c2, c3, c4, c5, z0, z1, z2, z3, z4, z5, sz⟩ := c6_cells HA.out.hs
      clear z0 z1 z2 z3 z4 z5
      go_wp2
      go_loopw [8, 9, 10] (fun h m d wr => ∃ i : Nat, f + i ≤ l + 1 ∧ d = .int .i64 (f + i) ∧ h = .int .i64 (hitN L f e ((1 : Nat) : Int) i : Nat) ∧ m = .int .i64 (misN L f e ((1 : Nat) : Int) i : Nat) ∧ Hid (WW w wr wo.heap.size f l e 2)) (fun _ _ d _ => (l + 1 - intOf d).toNat)
      case atStart => exact ⟨0, by omega, by simp, by simp [hitN, rng], by simp [misN, rng], HA⟩
      case round =>
        clear HA c0 c1 c2 c3 c4 c5 sz
        obtain ⟨i, hi, rfl, rfl, rfl, HW⟩ := hrel
        obtain ⟨c0, c1, c2, c3, c4, c5, z0, z1, z2, z3, z4, z5, sz⟩ := c6_cells HW.out.hs
        clear z0 z1 z2 z3 z4 z5
        have hh1 : hitN L f e ((1 : Nat) : Int) i ≤ i := cnt_le _ f i
        have hh2 : misN L f e ((1 : Nat) : Int) i ≤ i := cnt_le _ f i
        by_cases hlt : f + i ≤ l
        · have hno := Lib.hid (fun h => hit_no (L := L) (f := f) (e := e) (p := 1) (n := i) h)
          have hyes := Lib.hid (fun h => hit_yes (L := L) (f := f) (e := e) (p := 1) (n := i) h)
          have hmis := Lib.hid (fun h => mis_yes (L := L) (f := f) (e := e) (p := 1) (n := i) h)
          obtain ⟨x, hxj⟩ : ∃ x : Int, x = f + i := ⟨_, rfl⟩
          have HXJ := Lib.hid hxj
          have hreg2 := Lib.hid (hreg.out x (by omega) (by omega))
          rw [← hxj] at hlt hno hyes hmis ⊢
          have hx0 : 0 ≤ x := by omega
          have hi2 : i ≤ 141 := by omega
          clear hxj hi
          generalize hH : hitN L f e ((1 : Nat) : Int) i = ht at *
          generalize hM : misN L f e ((1 : Nat) : Int) i = ms at *
          clear hH hM
          cases hr : regB f l e 2 x
          · have hq := Lib.hid (hno.out (by rw [← hreg2.out]; exact hr))
            go_wp2_with (go_at_call 39; refine (rregular_any f l e 2 x _ _ _ _ _ _ _ f1 l2 e1 e2 (by omega) (by omega)).mono ?_; rintro en w2 ⟨rfl, hb2⟩; rw [hr]; have HW2 := Lib.hid (HW.out.next hb2))
            refine ⟨?_, ?measure⟩
            iterate 8 (apply Exists.intro)
            (repeat apply Exists.intro)
            refine ⟨?rel, rfl⟩
            case rel => exact ⟨i + 1, by have := HXJ.out; omega, int_eq (by have := HXJ.out; omega), by rw [hq.out.1], by rw [hq.out.2], HW2⟩
            case measure => have := HXJ.out; simp [intOf]; omega
          · cases hin : hasI L x
            · have hq := Lib.hid (hmis.out (by rw [← hreg2.out]; exact hr) hin)
              go_wp2_with (first
                | (go_at_call 39; refine (rregular_any f l e 2 x _ _ _ _ _ _ _ f1 l2 e1 e2 (by omega) (by omega)).mono ?_; rintro en w2 ⟨rfl, hb2⟩; rw [hr]; have HW2 := Lib.hid (HW.out.next hb2))
                | (go_at_call 40; refine (rin_any L _ _ _ x _ (HIL.out.below HW2.out.bl)).mono ?_; rintro en w9 ⟨rfl, rfl⟩; rw [hin]))
              refine ⟨?_, ?measure⟩
              iterate 8 (apply Exists.intro)
              (repeat apply Exists.intro)
              refine ⟨?rel, rfl⟩
              case rel => exact ⟨i + 1, by have := HXJ.out; omega, int_eq (by have := HXJ.out; omega), by rw [hq.out.1], int_eq (by rw [hq.out.2]; omega), HW2⟩
              case measure => have := HXJ.out; simp [intOf]; omega
            · have hq := Lib.hid (hyes.out (by rw [← hreg2.out]; exact hr) hin)
              go_wp2_with (first
                | (go_at_call 39; refine (rregular_any f l e 2 x _ _ _ _ _ _ _ f1 l2 e1 e2 (by omega) (by omega)).mono ?_; rintro en w2 ⟨rfl, hb2⟩; rw [hr]; have HW2 := Lib.hid (HW.out.next hb2))
                | (go_at_call 40; refine (rin_any L _ _ _ x _ (HIL.out.below HW2.out.bl)).mono ?_; rintro en w9 ⟨rfl, rfl⟩; rw [hin]))
              refine ⟨?_, ?measure⟩
              iterate 8 (apply Exists.intro)
              (repeat apply Exists.intro)
              refine ⟨?rel, rfl⟩
              case rel => exact ⟨i + 1, by have := HXJ.out; omega, int_eq (by have := HXJ.out; omega), int_eq (by rw [hq.out.1]; omega), by rw [hq.out.2], HW2⟩
              case measure => have := HXJ.out; simp [intOf]; omega
        · have hbest : Hid (bestB L f l e ((1 : Nat) : Int) = decide (misN L f e ((1 : Nat) : Int) i < hitN L f e ((1 : Nat) : Int) i)) := Lib.hid (by rw [show i = (l - f + 1).toNat by omega]; rfl)
          have hi2 : i ≤ 141 := by omega
          generalize hitN L f e ((1 : Nat) : Int) i = ht at *
          generalize misN L f e ((1 : Nat) : Int) i = ms at *
          by_cases hgt : ms < ht
          · have hk := Lib.hid (hsn1.out (hbest.out.trans (decide_eq_true hgt)))
            have hgt' : (ms : Int) < ht := by omega
            go_wp2
            go_roundw
            case rel => exact ⟨2, by omega, by go_num, by rw [hk.out], Lib.hid HW.out.bl⟩
            case measure => simp [intOf]
          · have hk := Lib.hid (hsn0.out (hbest.out.trans (decide_eq_false hgt)))
            have hgt' : ¬ (ms : Int) < ht := by omega
            go_wp2
            go_roundw
            case rel => exact ⟨2, by omega, by go_num, by rw [hk.out], Lib.hid HW.out.bl⟩
            case measure => simp [intOf]
    · obtain ⟨wo, rfl⟩ : ∃ wo : World, wo = wr := ⟨_, rfl⟩
      have hreg : Hid (∀ x, f ≤ x → x ≤ l → regB f l e 4 x = (decide (wd7 x = ((2 : Nat) : Int)) && cntB f e x)) := Lib.hid (fun x h1 h2 => reg_pow 2 (by omega) h1 h2)
      have hor : bits .or .i64 (setN L f l e 2) 4 = setN L f l e 2 + 4 := or_pow (setN L f l e 2) 2 s0 s1 (by omega)
      have hsn1 : Hid (bestB L f l e 2 = true → setN L f l e 3 = setN L f l e 2 + 4) := Lib.hid (fun h => by have := hsn.out; rw [show (((2 : Nat) : Int)) = 2 from rfl, h, cond_true] at this; exact this)
      have hsn0 : Hid (bestB L f l e 2 = false → setN L f l e 3 = setN L f l e 2) := Lib.hid (fun h => by have := hsn.out; rw [show (((2 : Nat) : Int)) = 2 from rfl, h, cond_false, Int.add_zero] at this; exact this)
      clear hsn
      go_wp2
      go_region
      obtain ⟨w1, hw1⟩ : ∃ w1 : World, w1 = (wo.alloc (.cells #[.int .i64 f, .int .i64 l, .int .i64 e, .int .i64 4, .slice none 0 0, .slice none 0 0] 30)).drew := ⟨_, rfl⟩
      rw [← hw1]
      have HA : Hid (WW w w1 wo.heap.size f l e 4) := Lib.hid ⟨by rw [hw1]; exact World.alloc_heap_new wo _, by rw [hw1]; exact (HB.out.alloc HB.out.size _).trans ⟨rfl, rfl, rfl, Nat.le_refl _, fun _ _ => rfl⟩⟩
      clear hw1 y1 y3 y4 y5 g0 gl gl'
      obtain ⟨c0, c1, c2, c3, c4, c5, z0, z1, z2, z3, z4, z5, sz⟩ := c6_cells HA.out.hs
      clear z0 z1 z2 z3 z4 z5
      go_wp2
      go_loopw [8, 9, 10] (fun h m d wr => ∃ i : Nat, f + i ≤ l + 1 ∧ d = .int .i64 (f + i) ∧ h = .int .i64 (hitN L f e ((2 : Nat) : Int) i : Nat) ∧ m = .int .i64 (misN L f e ((2 : Nat) : Int) i : Nat) ∧ Hid (WW w wr wo.heap.size f l e 4)) (fun _ _ d _ => (l + 1 - intOf d).toNat)
      case atStart => exact ⟨0, by omega, by simp, by simp [hitN, rng], by simp [misN, rng], HA⟩
      case round =>
        clear HA c0 c1 c2 c3 c4 c5 sz
        obtain ⟨i, hi, rfl, rfl, rfl, HW⟩ := hrel
        obtain ⟨c0, c1, c2, c3, c4, c5, z0, z1, z2, z3, z4, z5, sz⟩ := c6_cells HW.out.hs
        clear z0 z1 z2 z3 z4 z5
        have hh1 : hitN L f e ((2 : Nat) : Int) i ≤ i := cnt_le _ f i
        have hh2 : misN L f e ((2 : Nat) : Int) i ≤ i := cnt_le _ f i
        by_cases hlt : f + i ≤ l
        · have hno := Lib.hid (fun h => hit_no (L := L) (f := f) (e := e) (p := 2) (n := i) h)
          have hyes := Lib.hid (fun h => hit_yes (L := L) (f := f) (e := e) (p := 2) (n := i) h)
          have hmis := Lib.hid (fun h => mis_yes (L := L) (f := f) (e := e) (p := 2) (n := i) h)
          obtain ⟨x, hxj⟩ : ∃ x : Int, x = f + i := ⟨_, rfl⟩
          have HXJ := Lib.hid hxj
          have hreg2 := Lib.hid (hreg.out x (by omega) (by omega))
          rw [← hxj] at hlt hno hyes hmis ⊢
          have hx0 : 0 ≤ x := by omega
          have hi2 : i ≤ 141 := by omega
          clear hxj hi
          generalize hH : hitN L f e ((2 : Nat) : Int) i = ht at *
          generalize hM : misN L f e ((2 : Nat) : Int) i = ms at *
          clear hH hM
          cases hr : regB f l e 4 x
          · have hq := Lib.hid (hno.out (by rw [← hreg2.out]; exact hr))
            go_wp2_with (go_at_call 39; refine (rregular_any f l e 4 x _ _ _ _ _ _ _ f1 l2 e1 e2 (by omega) (by omega)).mono ?_; rintro en w2 ⟨rfl, hb2⟩; rw [hr]; have HW2 := Lib.hid (HW.out.next hb2))
            refine ⟨?_, ?measure⟩
            iterate 8 (apply Exists.intro)
            (repeat apply Exists.intro)
            refine ⟨?rel, rfl⟩
            case rel => exact ⟨i + 1, by have := HXJ.out; omega, int_eq (by have := HXJ.out; omega), by rw [hq.out.1], by rw [hq.out.2], HW2⟩
            case measure => have := HXJ.out; simp [intOf]; omega
          · cases hin : hasI L x
            · have hq := Lib.hid (hmis.out (by rw [← hreg2.out]; exact hr) hin)
              go_wp2_with (first
                | (go_at_call 39; refine (rregular_any f l e 4 x _ _ _ _ _ _ _ f1 l2 e1 e2 (by omega) (by omega)).mono ?_; rintro en w2 ⟨rfl, hb2⟩; rw [hr]; have HW2 := Lib.hid (HW.out.next hb2))
                | (go_at_call 40; refine (rin_any L _ _ _ x _ (HIL.out.below HW2.out.bl)).mono ?_; rintro en w9 ⟨rfl, rfl⟩; rw [hin]))
              refine ⟨?_, ?measure⟩
              iterate 8 (apply Exists.intro)
              (repeat apply Exists.intro)
              refine ⟨?rel, rfl⟩
              case rel => exact ⟨i + 1, by have := HXJ.out; omega, int_eq (by have := HXJ.out; omega), by rw [hq.out.1], int_eq (by rw [hq.out.2]; omega), HW2⟩
              case measure => have := HXJ.out; simp [intOf]; omega
            · have hq := Lib.hid (hyes.out (by rw [← hreg2.out]; exact hr) hin)
              go_wp2_with (first
                | (go_at_call 39; refine (rregular_any f l e 4 x _ _ _ _ _ _ _ f1 l2 e1 e2 (by omega) (by omega)).mono ?_; rintro en w2 ⟨rfl, hb2⟩; rw [hr]; have HW2 := Lib.hid (HW.out.next hb2))
                | (go_at_call 40; refine (rin_any L _ _ _ x _ (HIL.out.below HW2.out.bl)).mono ?_; rintro en w9 ⟨rfl, rfl⟩; rw [hin]))
              refine ⟨?_, ?measure⟩
              iterate 8 (apply Exists.intro)
              (repeat apply Exists.intro)
              refine ⟨?rel, rfl⟩
              case rel => exact ⟨i + 1, by have := HXJ.out; omega, int_eq (by have := HXJ.out; omega), int_eq (by rw [hq.out.1]; omega), by rw [hq.out.2], HW2⟩
              case measure => have := HXJ.out; simp [intOf]; omega
        · have hbest : Hid (bestB L f l e ((2 : Nat) : Int) = decide (misN L f e ((2 : Nat) : Int) i < hitN L f e ((2 : Nat) : Int) i)) := Lib.hid (by rw [show i = (l - f + 1).toNat by omega]; rfl)
          have hi2 : i ≤ 141 := by omega
          generalize hitN L f e ((2 : Nat) : Int) i = ht at *
          generalize misN L f e ((2 : Nat) : Int) i = ms at *
          by_cases hgt : ms < ht
          · have hk := Lib.hid (hsn1.out (hbest.out.trans (decide_eq_true hgt)))
            have hgt' : (ms : Int) < ht := by omega
            go_wp2
            go_roundw
            case rel => exact ⟨3, by omega, by go_num, by rw [hk.out], Lib.hid HW.out.bl⟩
            case measure => simp [intOf]
          · have hk := Lib.hid (hsn0.out (hbest.out.trans (decide_eq_false hgt)))
            have hgt' : ¬ (ms : Int) < ht := by omega
            go_wp2
            go_roundw
            case rel => exact ⟨3, by omega, by go_num, by rw [hk.out], Lib.hid HW.out.bl⟩
            case measure => simp [intOf]
    · obtain ⟨wo, rfl⟩ : ∃ wo : World, wo = wr := ⟨_, rfl⟩
      have hreg : Hid (∀ x, f ≤ x → x ≤ l → regB f l e 8 x = (decide (wd7 x = ((3 : Nat) : Int)) && cntB f e x)) := Lib.hid (fun x h1 h2 => reg_pow 3 (by omega) h1 h2)
      have hor : bits .or .i64 (setN L f l e 3) 8 = setN L f l e 3 + 8 := or_pow (setN L f l e 3) 3 s0 s1 (by omega)
      have hsn1 : Hid (bestB L f l e 3 = true → setN L f l e 4 = setN L f l e 3 + 8) := Lib.hid (fun h => by have := hsn.out; rw [show (((3 : Nat) : Int)) = 3 from rfl, h, cond_true] at this; exact this)
      have hsn0 : Hid (bestB L f l e 3 = false → setN L f l e 4 = setN L f l e 3) := Lib.hid (fun h => by have := hsn.out; rw [show (((3 : Nat) : Int)) = 3 from rfl, h, cond_false, Int.add_zero] at this; exact this)
      clear hsn
      go_wp2
      go_region
      obtain ⟨w1, hw1⟩ : ∃ w1 : World, w1 = (wo.alloc (.cells #[.int .i64 f, .int .i64 l, .int .i64 e, .int .i64 8, .slice none 0 0, .slice none 0 0] 30)).drew := ⟨_, rfl⟩
      rw [← hw1]
      have HA : Hid (WW w w1 wo.heap.size f l e 8) := Lib.hid ⟨by rw [hw1]; exact World.alloc_heap_new wo _, by rw [hw1]; exact (HB.out.alloc HB.out.size _).trans ⟨rfl, rfl, rfl, Nat.le_refl _, fun _ _ => rfl⟩⟩
      clear hw1 y1 y3 y4 y5 g0 gl gl'
      obtain ⟨c0, c1, c2, c3, c4, c5, z0, z1, z2, z3, z4, z5, sz⟩ := c6_cells HA.out.hs
      clear z0 z1 z2 z3 z4 z5
      go_wp2
      go_loopw [8, 9, 10] (fun h m d wr => ∃ i : Nat, f + i ≤ l + 1 ∧ d = .int .i64 (f + i) ∧ h = .int .i64 (hitN L f e ((3 : Nat) : Int) i : Nat) ∧ m = .int .i64 (misN L f e ((3 : Nat) : Int) i : Nat) ∧ Hid (WW w wr wo.heap.size f l e 8)) (fun _ _ d _ => (l + 1 - intOf d).toNat)
      case atStart => exact ⟨0, by omega, by simp, by simp [hitN, rng], by simp [misN, rng], HA⟩
      case round =>
        clear HA c0 c1 c2 c3 c4 c5 sz
        obtain ⟨i, hi, rfl, rfl, rfl, HW⟩ := hrel
        obtain ⟨c0, c1, c2, c3, c4, c5, z0, z1, z2, z3, z4, z5, sz⟩ := c6_cells HW.out.hs
        clear z0 z1 z2 z3 z4 z5
        have hh1 : hitN L f e ((3 : Nat) : Int) i ≤ i := cnt_le _ f i
        have hh2 : misN L f e ((3 : Nat) : Int) i ≤ i := cnt_le _ f i
        by_cases hlt : f + i ≤ l
        · have hno := Lib.hid (fun h => hit_no (L := L) (f := f) (e := e) (p := 3) (n := i) h)
          have hyes := Lib.hid (fun h => hit_yes (L := L) (f := f) (e := e) (p := 3) (n := i) h)
          have hmis := Lib.hid (fun h => mis_yes (L := L) (f := f) (e := e) (p := 3) (n := i) h)
          obtain ⟨x, hxj⟩ : ∃ x : Int, x = f + i := ⟨_, rfl⟩
          have HXJ := Lib.hid hxj
          have hreg2 := Lib.hid (hreg.out x (by omega) (by omega))
          rw [← hxj] at hlt hno hyes hmis ⊢
          have hx0 : 0 ≤ x := by omega
          have hi2 : i ≤ 141 := by omega
          clear hxj hi
          generalize hH : hitN L f e ((3 : Nat) : Int) i = ht at *
          generalize hM : misN L f e ((3 : Nat) : Int) i = ms at *
          clear hH hM
          cases hr : regB f l e 8 x
          · have hq := Lib.hid (hno.out (by rw [← hreg2.out]; exact hr))
            go_wp2_with (go_at_call 39; refine (rregular_any f l e 8 x _ _ _ _ _ _ _ f1 l2 e1 e2 (by omega) (by omega)).mono ?_; rintro en w2 ⟨rfl, hb2⟩; rw [hr]; have HW2 := Lib.hid (HW.out.next hb2))
            refine ⟨?_, ?measure⟩
            iterate 8 (apply Exists.intro)
            (repeat apply Exists.intro)
            refine ⟨?rel, rfl⟩
            case rel => exact ⟨i + 1, by have := HXJ.out; omega, int_eq (by have := HXJ.out; omega), by rw [hq.out.1], by rw [hq.out.2], HW2⟩
            case measure => have := HXJ.out; simp [intOf]; omega
          · cases hin : hasI L x
            · have hq := Lib.hid (hmis.out (by rw [← hreg2.out]; exact hr) hin)
              go_wp2_with (first
                | (go_at_call 39; refine (rregular_any f l e 8 x _ _ _ _ _ _ _ f1 l2 e1 e2 (by omega) (by omega)).mono ?_; rintro en w2 ⟨rfl, hb2⟩; rw [hr]; have HW2 := Lib.hid (HW.out.next hb2))
                | (go_at_call 40; refine (rin_any L _ _ _ x _ (HIL.out.below HW2.out.bl)).mono ?_; rintro en w9 ⟨rfl, rfl⟩; rw [hin]))
              refine ⟨?_, ?measure⟩
              iterate 8 (apply Exists.intro)
              (repeat apply Exists.intro)
              refine ⟨?rel, rfl⟩
              case rel => exact ⟨i + 1, by have := HXJ.out; omega, int_eq (by have := HXJ.out; omega), by rw [hq.out.1], int_eq (by rw [hq.out.2]; omega), HW2⟩
              case measure => have := HXJ.out; simp [intOf]; omega
            · have hq := Lib.hid (hyes.out (by rw [← hreg2.out]; exact hr) hin)
              go_wp2_with (first
                | (go_at_call 39; refine (rregular_any f l e 8 x _ _ _ _ _ _ _ f1 l2 e1 e2 (by omega) (by omega)).mono ?_; rintro en w2 ⟨rfl, hb2⟩; rw [hr]; have HW2 := Lib.hid (HW.out.next hb2))
                | (go_at_call 40; refine (rin_any L _ _ _ x _ (HIL.out.below HW2.out.bl)).mono ?_; rintro en w9 ⟨rfl, rfl⟩; rw [hin]))
              refine ⟨?_, ?measure⟩
              iterate 8 (apply Exists.intro)
              (repeat apply Exists.intro)
              refine ⟨?rel, rfl⟩
              case rel => exact ⟨i + 1, by have := HXJ.out; omega, int_eq (by have := HXJ.out; omega), int_eq (by rw [hq.out.1]; omega), by rw [hq.out.2], HW2⟩
              case measure => have := HXJ.out; simp [intOf]; omega
        · have hbest : Hid (bestB L f l e ((3 : Nat) : Int) = decide (misN L f e ((3 : Nat) : Int) i < hitN L f e ((3 : Nat) : Int) i)) := Lib.hid (by rw [show i = (l - f + 1).toNat by omega]; rfl)
          have hi2 : i ≤ 141 := by omega
          generalize hitN L f e ((3 : Nat) : Int) i = ht at *
          generalize misN L f e ((3 : Nat) : Int) i = ms at *
          by_cases hgt : ms < ht
          · have hk := Lib.hid (hsn1.out (hbest.out.trans (decide_eq_true hgt)))
            have hgt' : (ms : Int) < ht := by omega
            go_wp2
            go_roundw
            case rel => exact ⟨4, by omega, by go_num, by rw [hk.out], Lib.hid HW.out.bl⟩
            case measure => simp [intOf]
          · have hk := Lib.hid (hsn0.out (hbest.out.trans (decide_eq_false hgt)))
            have hgt' : ¬ (ms : Int) < ht := by omega
            go_wp2
            go_roundw
            case rel => exact ⟨4, by omega, by go_num, by rw [hk.out], Lib.hid HW.out.bl⟩
            case measure => simp [intOf]
    · obtain ⟨wo, rfl⟩ : ∃ wo : World, wo = wr := ⟨_, rfl⟩
      have hreg : Hid (∀ x, f ≤ x → x ≤ l → regB f l e 16 x = (decide (wd7 x = ((4 : Nat) : Int)) && cntB f e x)) := Lib.hid (fun x h1 h2 => reg_pow 4 (by omega) h1 h2)
      have hor : bits .or .i64 (setN L f l e 4) 16 = setN L f l e 4 + 16 := or_pow (setN L f l e 4) 4 s0 s1 (by omega)
      have hsn1 : Hid (bestB L f l e 4 = true → setN L f l e 5 = setN L f l e 4 + 16) := Lib.hid (fun h => by have := hsn.out; rw [show (((4 : Nat) : Int)) = 4 from rfl, h, cond_true] at this; exact this)
      have hsn0 : Hid (bestB L f l e 4 = false → setN L f l e 5 = setN L f l e 4) := Lib.hid (fun h => by have := hsn.out; rw [show (((4 : Nat) : Int)) = 4 from rfl, h, cond_false, Int.add_zero] at this; exact this)
      clear hsn
      go_wp2
      go_region
      obtain ⟨w1, hw1⟩ : ∃ w1 : World, w1 = (wo.alloc (.cells #[.int .i64 f, .int .i64 l, .int .i64 e, .int .i64 16, .slice none 0 0, .slice none 0 0] 30)).drew := ⟨_, rfl⟩
      rw [← hw1]
      have HA : Hid (WW w w1 wo.heap.size f l e 16) := Lib.hid ⟨by rw [hw1]; exact World.alloc_heap_new wo _, by rw [hw1]; exact (HB.out.alloc HB.out.size _).trans ⟨rfl, rfl, rfl, Nat.le_refl _, fun _ _ => rfl⟩⟩
      clear hw1 y1 y3 y4 y5 g0 gl gl'
      obtain ⟨c0, c1, c2, c3, c4, c5, z0, z1, z2, z3, z4, z5, sz⟩ := c6_cells HA.out.hs
      clear z0 z1 z2 z3 z4 z5
      go_wp2
      go_loopw [8, 9, 10] (fun h m d wr => ∃ i : Nat, f + i ≤ l + 1 ∧ d = .int .i64 (f + i) ∧ h = .int .i64 (hitN L f e ((4 : Nat) : Int) i : Nat) ∧ m = .int .i64 (misN L f e ((4 : Nat) : Int) i : Nat) ∧ Hid (WW w wr wo.heap.size f l e 16)) (fun _ _ d _ => (l + 1 - intOf d).toNat)
      case atStart => exact ⟨0, by omega, by simp, by simp [hitN, rng], by simp [misN, rng], HA⟩
      case round =>
        clear HA c0 c1 c2 c3 c4 c5 sz
        obtain ⟨i, hi, rfl, rfl, rfl, HW⟩ := hrel
        obtain ⟨c0, c1, c2, c3, c4, c5, z0, z1, z2, z3, z4, z5, sz⟩ := c6_cells HW.out.hs
        clear z0 z1 z2 z3 z4 z5
        have hh1 : hitN L f e ((4 : Nat) : Int) i ≤ i := cnt_le _ f i
        have hh2 : misN L f e ((4 : Nat) : Int) i ≤ i := cnt_le _ f i
        by_cases hlt : f + i ≤ l
        · have hno := Lib.hid (fun h => hit_no (L := L) (f := f) (e := e) (p := 4) (n := i) h)
          have hyes := Lib.hid (fun h => hit_yes (L := L) (f := f) (e := e) (p := 4) (n := i) h)
          have hmis := Lib.hid (fun h => mis_yes (L := L) (f := f) (e := e) (p := 4) (n := i) h)
          obtain ⟨x, hxj⟩ : ∃ x : Int, x = f + i := ⟨_, rfl⟩
          have HXJ := Lib.hid hxj
          have hreg2 := Lib.hid (hreg.out x (by omega) (by omega))
          rw [← hxj] at hlt hno hyes hmis ⊢
          have hx0 : 0 ≤ x := by omega
          have hi2 : i ≤ 141 := by omega
          clear hxj hi
          generalize hH : hitN L f e ((4 : Nat) : Int) i = ht at *
          generalize hM : misN L f e ((4 : Nat) : Int) i = ms at *
          clear hH hM
          cases hr : regB f l e 16 x
          · have hq := Lib.hid (hno.out (by rw [← hreg2.out]; exact hr))
            go_wp2_with (go_at_call 39; refine (rregular_any f l e 16 x _ _ _ _ _ _ _ f1 l2 e1 e2 (by omega) (by omega)).mono ?_; rintro en w2 ⟨rfl, hb2⟩; rw [hr]; have HW2 := Lib.hid (HW.out.next hb2))
            refine ⟨?_, ?measure⟩
            iterate 8 (apply Exists.intro)
            (repeat apply Exists.intro)
            refine ⟨?rel, rfl⟩
            case rel => exact ⟨i + 1, by have := HXJ.out; omega, int_eq (by have := HXJ.out; omega), by rw [hq.out.1], by rw [hq.out.2], HW2⟩
            case measure => have := HXJ.out; simp [intOf]; omega
          · cases hin : hasI L x
            · have hq := Lib.hid (hmis.out (by rw [← hreg2.out]; exact hr) hin)
              go_wp2_with (first
                | (go_at_call 39; refine (rregular_any f l e 16 x _ _ _ _ _ _ _ f1 l2 e1 e2 (by omega) (by omega)).mono ?_; rintro en w2 ⟨rfl, hb2⟩; rw [hr]; have HW2 := Lib.hid (HW.out.next hb2))
                | (go_at_call 40; refine (rin_any L _ _ _ x _ (HIL.out.below HW2.out.bl)).mono ?_; rintro en w9 ⟨rfl, rfl⟩; rw [hin]))
              refine ⟨?_, ?measure⟩
              iterate 8 (apply Exists.intro)
              (repeat apply Exists.intro)
              refine ⟨?rel, rfl⟩
              case rel => exact ⟨i + 1, by have := HXJ.out; omega, int_eq (by have := HXJ.out; omega), by rw [hq.out.1], int_eq (by rw [hq.out.2]; omega), HW2⟩
              case measure => have := HXJ.out; simp [intOf]; omega
            · have hq := Lib.hid (hyes.out (by rw [← hreg2.out]; exact hr) hin)
              go_wp2_with (first
                | (go_at_call 39; refine (rregular_any f l e 16 x _ _ _ _ _ _ _ f1 l2 e1 e2 (by omega) (by omega)).mono ?_; rintro en w2 ⟨rfl, hb2⟩; rw [hr]; have HW2 := Lib.hid (HW.out.next hb2))
                | (go_at_call 40; refine (rin_any L _ _ _ x _ (HIL.out.below HW2.out.bl)).mono ?_; rintro en w9 ⟨rfl, rfl⟩; rw [hin]))
              refine ⟨?_, ?measure⟩
              iterate 8 (apply Exists.intro)
              (repeat apply Exists.intro)
              refine ⟨?rel, rfl⟩
              case rel => exact ⟨i + 1, by have := HXJ.out; omega, int_eq (by have := HXJ.out; omega), int_eq (by rw [hq.out.1]; omega), by rw [hq.out.2], HW2⟩
              case measure => have := HXJ.out; simp [intOf]; omega
        · have hbest : Hid (bestB L f l e ((4 : Nat) : Int) = decide (misN L f e ((4 : Nat) : Int) i < hitN L f e ((4 : Nat) : Int) i)) := Lib.hid (by rw [show i = (l - f + 1).toNat by omega]; rfl)
          have hi2 : i ≤ 141 := by omega
          generalize hitN L f e ((4 : Nat) : Int) i = ht at *
          generalize misN L f e ((4 : Nat) : Int) i = ms at *
          by_cases hgt : ms < ht
          · have hk := Lib.hid (hsn1.out (hbest.out.trans (decide_eq_true hgt)))
            have hgt' : (ms : Int) < ht := by omega
            go_wp2
            go_roundw
            case rel => exact ⟨5, by omega, by go_num, by rw [hk.out], Lib.hid HW.out.bl⟩
            case measure => simp [intOf]
          · have hk := Lib.hid (hsn0.out (hbest.out.trans (decide_eq_false hgt)))
            have hgt' : ¬ (ms : Int) < ht := by omega
            go_wp2
            go_roundw
            case rel => exact ⟨5, by omega, by go_num, by rw [hk.out], Lib.hid HW.out.bl⟩
            case measure => simp [intOf]
    · obtain ⟨wo, rfl⟩ : ∃ wo : World, wo = wr := ⟨_, rfl⟩
      have hreg : Hid (∀ x, f ≤ x → x ≤ l → regB f l e 32 x = (decide (wd7 x = ((5 : Nat) : Int)) && cntB f e x)) := Lib.hid (fun x h1 h2 => reg_pow 5 (by omega) h1 h2)
      have hor : bits .or .i64 (setN L f l e 5) 32 = setN L f l e 5 + 32 := or_pow (setN L f l e 5) 5 s0 s1 (by omega)
      have hsn1 : Hid (bestB L f l e 5 = true → setN L f l e 6 = setN L f l e 5 + 32) := Lib.hid (fun h => by have := hsn.out; rw [show (((5 : Nat) : Int)) = 5 from rfl, h, cond_true] at this; exact this)
      have hsn0 : Hid (bestB L f l e 5 = false → setN L f l e 6 = setN L f l e 5) := Lib.hid (fun h => by have := hsn.out; rw [show (((5 : Nat) : Int)) = 5 from rfl, h, cond_false, Int.add_zero] at this; exact this)
      clear hsn
      go_wp2
      go_region
      obtain ⟨w1, hw1⟩ : ∃ w1 : World, w1 = (wo.alloc (.cells #[.int .i64 f, .int .i64 l, .int .i64 e, .int .i64 32, .slice none 0 0, .slice none 0 0] 30)).drew := ⟨_, rfl⟩
      rw [← hw1]
      have HA : Hid (WW w w1 wo.heap.size f l e 32) := Lib.hid ⟨by rw [hw1]; exact World.alloc_heap_new wo _, by rw [hw1]; exact (HB.out.alloc HB.out.size _).trans ⟨rfl, rfl, rfl, Nat.le_refl _, fun _ _ => rfl⟩⟩
      clear hw1 y1 y3 y4 y5 g0 gl gl'
      obtain ⟨c0, c1, c2, c3, c4, c5, z0, z1, z2, z3, z4, z5, sz⟩ := c6_cells HA.out.hs
      clear z0 z1 z2 z3 z4 z5
      go_wp2
      go_loopw [8, 9, 10] (fun h m d wr => ∃ i : Nat, f + i ≤ l + 1 ∧ d = .int .i64 (f + i) ∧ h = .int .i64 (hitN L f e ((5 : Nat) : Int) i : Nat) ∧ m = .int .i64 (misN L f e ((5 : Nat) : Int) i : Nat) ∧ Hid (WW w wr wo.heap.size f l e 32)) (fun _ _ d _ => (l + 1 - intOf d).toNat)
      case atStart => exact ⟨0, by omega, by simp, by simp [hitN, rng], by simp [misN, rng], HA⟩
      case round =>
        clear HA c0 c1 c2 c3 c4 c5 sz
        obtain ⟨i, hi, rfl, rfl, rfl, HW⟩ := hrel
        obtain ⟨c0, c1, c2, c3, c4, c5, z0, z1, z2, z3, z4, z5, sz⟩ := c6_cells HW.out.hs
        clear z0 z1 z2 z3 z4 z5
        have hh1 : hitN L f e ((5 : Nat) : Int) i ≤ i := cnt_le _ f i
        have hh2 : misN L f e ((5 : Nat) : Int) i ≤ i := cnt_le _ f i
        by_cases hlt : f + i ≤ l
        · have hno := Lib.hid (fun h => hit_no (L := L) (f := f) (e := e) (p := 5) (n := i) h)
          have hyes := Lib.hid (fun h => hit_yes (L := L) (f := f) (e := e) (p := 5) (n := i) h)
          have hmis := Lib.hid (fun h => mis_yes (L := L) (f := f) (e := e) (p := 5) (n := i) h)
          obtain ⟨x, hxj⟩ : ∃ x : Int, x = f + i := ⟨_, rfl⟩
          have HXJ := Lib.hid hxj
          have hreg2 := Lib.hid (hreg.out x (by omega) (by omega))
          rw [← hxj] at hlt hno hyes hmis ⊢
          have hx0 : 0 ≤ x := by omega
          have hi2 : i ≤ 141 := by omega
          clear hxj hi
          generalize hH : hitN L f e ((5 : Nat) : Int) i = ht at *
          generalize hM : misN L f e ((5 : Nat) : Int) i = ms at *
          clear hH hM
          cases hr : regB f l e 32 x
          · have hq := Lib.hid (hno.out (by rw [← hreg2.out]; exact hr))
            go_wp2_with (go_at_call 39; refine (rregular_any f l e 32 x _ _ _ _ _ _ _ f1 l2 e1 e2 (by omega) (by omega)).mono ?_; rintro en w2 ⟨rfl, hb2⟩; rw [hr]; have HW2 := Lib.hid (HW.out.next hb2))
            refine ⟨?_, ?measure⟩
            iterate 8 (apply Exists.intro)
            (repeat apply Exists.intro)
            refine ⟨?rel, rfl⟩
            case rel => exact ⟨i + 1, by have := HXJ.out; omega, int_eq (by have := HXJ.out; omega), by rw [hq.out.1], by rw [hq.out.2], HW2⟩
            case measure => have := HXJ.out; simp [intOf]; omega
          · cases hin : hasI L x
            · have hq := Lib.hid (hmis.out (by rw [← hreg2.out]; exact hr) hin)
              go_wp2_with (first
                | (go_at_call 39; refine (rregular_any f l e 32 x _ _ _ _ _ _ _ f1 l2 e1 e2 (by omega) (by omega)).mono ?_; rintro en w2 ⟨rfl, hb2⟩; rw [hr]; have HW2 := Lib.hid (HW.out.next hb2))
                | (go_at_call 40; refine (rin_any L _ _ _ x _ (HIL.out.below HW2.out.bl)).mono ?_; rintro en w9 ⟨rfl, rfl⟩; rw [hin]))
              refine ⟨?_, ?measure⟩
              iterate 8 (apply Exists.intro)
              (repeat apply Exists.intro)
              refine ⟨?rel, rfl⟩
              case rel => exact ⟨i + 1, by have := HXJ.out; omega, int_eq (by have := HXJ.out; omega), by rw [hq.out.1], int_eq (by rw [hq.out.2]; omega), HW2⟩
              case measure => have := HXJ.out; simp [intOf]; omega
            · have hq := Lib.hid (hyes.out (by rw [← hreg2.out]; exact hr) hin)
              go_wp2_with (first
                | (go_at_call 39; refine (rregular_any f l e 32 x _ _ _ _ _ _ _ f1 l2 e1 e2 (by omega) (by omega)).mono ?_; rintro en w2 ⟨rfl, hb2⟩; rw [hr]; have HW2 := Lib.hid (HW.out.next hb2))
                | (go_at_call 40; refine (rin_any L _ _ _ x _ (HIL.out.below HW2.out.bl)).mono ?_; rintro en w9 ⟨rfl, rfl⟩; rw [hin]))
              refine ⟨?_, ?measure⟩
              iterate 8 (apply Exists.intro)
              (repeat apply Exists.intro)
              refine ⟨?rel, rfl⟩
              case rel => exact ⟨i + 1, by have := HXJ.out; omega, int_eq (by have := HXJ.out; omega), int_eq (by rw [hq.out.1]; omega), by rw [hq.out.2], HW2⟩
              case measure => have := HXJ.out; simp [intOf]; omega
        · have hbest : Hid (bestB L f l e ((5 : Nat) : Int) = decide (misN L f e ((5 : Nat) : Int) i < hitN L f e ((5 : Nat) : Int) i)) := Lib.hid (by rw [show i = (l - f + 1).toNat by omega]; rfl)
          have hi2 : i ≤ 141 := by omega
          generalize hitN L f e ((5 : Nat) : Int) i = ht at *
          generalize misN L f e ((5 : Nat) : Int) i = ms at *
          by_cases hgt : ms < ht
          · have hk := Lib.hid (hsn1.out (hbest.out.trans (decide_eq_true hgt)))
            have hgt' : (ms : Int) < ht := by omega
            go_wp2
            go_roundw
            case rel => exact ⟨6, by omega, by go_num, by rw [hk.out], Lib.hid HW.out.bl⟩
            case measure => simp [intOf]
          · have hk := Lib.hid (hsn0.out (hbest.out.trans (decide_eq_false hgt)))
            have hgt' : ¬ (ms : Int) < ht := by omega
            go_wp2
            go_roundw
            case rel => exact ⟨6, by omega, by go_num, by rw [hk.out], Lib.hid HW.out.bl⟩
            case measure => simp [intOf]
    · obtain ⟨wo, rfl⟩ : ∃ wo : World, wo = wr := ⟨_, rfl⟩
      have hreg : Hid (∀ x, f ≤ x → x ≤ l → regB f l e 64 x = (decide (wd7 x = ((6 : Nat) : Int)) && cntB f e x)) := Lib.hid (fun x h1 h2 => reg_pow 6 (by omega) h1 h2)
      have hor : bits .or .i64 (setN L f l e 6) 64 = setN L f l e 6 + 64 := or_pow (setN L f l e 6) 6 s0 s1 (by omega)
      have hsn1 : Hid (bestB L f l e 6 = true → setN L f l e 7 = setN L f l e 6 + 64) := Lib.hid (fun h => by have := hsn.out; rw [show (((6 : Nat) : Int)) = 6 from rfl, h, cond_true] at this; exact this)
      have hsn0 : Hid (bestB L f l e 6 = false → setN L f l e 7 = setN L f l e 6) := Lib.hid (fun h => by have := hsn.out; rw [show (((6 : Nat) : Int)) = 6 from rfl, h, cond_false, Int.add_zero] at this; exact this)
      clear hsn
      go_wp2
      go_region
      obtain ⟨w1, hw1⟩ : ∃ w1 : World, w1 = (wo.alloc (.cells #[.int .i64 f, .int .i64 l, .int .i64 e, .int .i64 64, .slice none 0 0, .slice none 0 0] 30)).drew := ⟨_, rfl⟩
      rw [← hw1]
      have HA : Hid (WW w w1 wo.heap.size f l e 64) := Lib.hid ⟨by rw [hw1]; exact World.alloc_heap_new wo _, by rw [hw1]; exact (HB.out.alloc HB.out.size _).trans ⟨rfl, rfl, rfl, Nat.le_refl _, fun _ _ => rfl⟩⟩
      clear hw1 y1 y3 y4 y5 g0 gl gl'
      obtain ⟨c0, c1, c2, c3, c4, c5, z0, z1, z2, z3, z4, z5, sz⟩ := c6_cells HA.out.hs
      clear z0 z1 z2 z3 z4 z5
      go_wp2
      go_loopw [8, 9, 10] (fun h m d wr => ∃ i : Nat, f + i ≤ l + 1 ∧ d = .int .i64 (f + i) ∧ h = .int .i64 (hitN L f e ((6 : Nat) : Int) i : Nat) ∧ m = .int .i64 (misN L f e ((6 : Nat) : Int) i : Nat) ∧ Hid (WW w wr wo.heap.size f l e 64)) (fun _ _ d _ => (l + 1 - intOf d).toNat)
      case atStart => exact ⟨0, by omega, by simp, by simp [hitN, rng], by simp [misN, rng], HA⟩
      case round =>
        clear HA c0 c1 c2 c3 c4 c5 sz
        obtain ⟨i, hi, rfl, rfl, rfl, HW⟩ := hrel
        obtain ⟨c0, c1, c2, c3, c4, c5, z0, z1, z2, z3, z4, z5, sz⟩ := c6_cells HW.out.hs
        clear z0 z1 z2 z3 z4 z5
        have hh1 : hitN L f e ((6 : Nat) : Int) i ≤ i := cnt_le _ f i
        have hh2 : misN L f e ((6 : Nat) : Int) i ≤ i := cnt_le _ f i
        by_cases hlt : f + i ≤ l
        · have hno := Lib.hid (fun h => hit_no (L := L) (f := f) (e := e) (p := 6) (n := i) h)
          have hyes := Lib.hid (fun h => hit_yes (L := L) (f := f) (e := e) (p := 6) (n := i) h)
          have hmis := Lib.hid (fun h => mis_yes (L := L) (f := f) (e := e) (p := 6) (n := i) h)
          obtain ⟨x, hxj⟩ : ∃ x : Int, x = f + i := ⟨_, rfl⟩
          have HXJ := Lib.hid hxj
          have hreg2 := Lib.hid (hreg.out x (by omega) (by omega))
          rw [← hxj] at hlt hno hyes hmis ⊢
          have hx0 : 0 ≤ x := by omega
          have hi2 : i ≤ 141 := by omega
          clear hxj hi
          generalize hH : hitN L f e ((6 : Nat) : Int) i = ht at *
          generalize hM : misN L f e ((6 : Nat) : Int) i = ms at *
          clear hH hM
          cases hr : regB f l e 64 x
          · have hq := Lib.hid (hno.out (by rw [← hreg2.out]; exact hr))
            go_wp2_with (go_at_call 39; refine (rregular_any f l e 64 x _ _ _ _ _ _ _ f1 l2 e1 e2 (by omega) (by omega)).mono ?_; rintro en w2 ⟨rfl, hb2⟩; rw [hr]; have HW2 := Lib.hid (HW.out.next hb2))
            refine ⟨?_, ?measure⟩
            iterate 8 (apply Exists.intro)
            (repeat apply Exists.intro)
            refine ⟨?rel, rfl⟩
            case rel => exact ⟨i + 1, by have := HXJ.out; omega, int_eq (by have := HXJ.out; omega), by rw [hq.out.1], by rw [hq.out.2], HW2⟩
            case measure => have := HXJ.out; simp [intOf]; omega
          · cases hin : hasI L x
            · have hq := Lib.hid (hmis.out (by rw [← hreg2.out]; exact hr) hin)
              go_wp2_with (first
                | (go_at_call 39; refine (rregular_any f l e 64 x _ _ _ _ _ _ _ f1 l2 e1 e2 (by omega) (by omega)).mono ?_; rintro en w2 ⟨rfl, hb2⟩; rw [hr]; have HW2 := Lib.hid (HW.out.next hb2))
                | (go_at_call 40; refine (rin_any L _ _ _ x _ (HIL.out.below HW2.out.bl)).mono ?_; rintro en w9 ⟨rfl, rfl⟩; rw [hin]))
              refine ⟨?_, ?measure⟩
              iterate 8 (apply Exists.intro)
              (repeat apply Exists.intro)
              refine ⟨?rel, rfl⟩
              case rel => exact ⟨i + 1, by have := HXJ.out; omega, int_eq (by have := HXJ.out; omega), by rw [hq.out.1], int_eq (by rw [hq.out.2]; omega), HW2⟩
              case measure => have := HXJ.out; simp [intOf]; omega
            · have hq := Lib.hid (hyes.out (by rw [← hreg2.out]; exact hr) hin)
              go_wp2_with (first
                | (go_at_call 39; refine (rregular_any f l e 64 x _ _ _ _ _ _ _ f1 l2 e1 e2 (by omega) (by omega)).mono ?_; rintro en w2 ⟨rfl, hb2⟩; rw [hr]; have HW2 := Lib.hid (HW.out.next hb2))
                | (go_at_call 40; refine (rin_any L _ _ _ x _ (HIL.out.below HW2.out.bl)).mono ?_; rintro en w9 ⟨rfl, rfl⟩; rw [hin]))
              refine ⟨?_, ?measure⟩
              iterate 8 (apply Exists.intro)
              (repeat apply Exists.intro)
              refine ⟨?rel, rfl⟩
              case rel => exact ⟨i + 1, by have := HXJ.out; omega, int_eq (by have := HXJ.out; omega), int_eq (by rw [hq.out.1]; omega), by rw [hq.out.2], HW2⟩
              case measure => have := HXJ.out; simp [intOf]; omega
        · have hbest : Hid (bestB L f l e ((6 : Nat) : Int) = decide (misN L f e ((6 : Nat) : Int) i < hitN L f e ((6 : Nat) : Int) i)) := Lib.hid (by rw [show i = (l - f + 1).toNat by omega]; rfl)
          have hi2 : i ≤ 141 := by omega
          generalize hitN L f e ((6 : Nat) : Int) i = ht at *
          generalize misN L f e ((6 : Nat) : Int) i = ms at *
          by_cases hgt : ms < ht
          · have hk := Lib.hid (hsn1.out (hbest.out.trans (decide_eq_true hgt)))
            have hgt' : (ms : Int) < ht := by omega
            go_wp2
            go_roundw
            case rel => exact ⟨7, by omega, by go_num, by rw [hk.out], Lib.hid HW.out.bl⟩
            case measure => simp [intOf]
          · have hk := Lib.hid (hsn0.out (hbest.out.trans (decide_eq_false hgt)))
            have hgt' : ¬ (ms : Int) < ht := by omega
            go_wp2
            go_roundw
            case rel => exact ⟨7, by omega, by go_num, by rw [hk.out], Lib.hid HW.out.bl⟩
            case measure => simp [intOf]
    · clear hsn s0 s1 y1 y3 y4 y5
      go_wp2
      go_ret
      exact ⟨rfl, HB.out⟩

end Go.Proofs.YtibigbfkokendaaDoor
