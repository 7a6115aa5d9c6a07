/- RecurrenceOf, walked: the series of any list of days, or the error. -/
import Derived.Test.YtibigbfkokendaaDoorR24
import Derived.Test.YtibigbfkokendaaDoorR10
namespace Go.Proofs.YtibigbfkokendaaDoor
open Go.RowKit TT

/-- the two lists that the law looks at, in a block -/
structure LW (w wr : World) (B : Nat) (a : Option Addr) (n c : Nat) (L : List Int) (la : Option Addr) (ln lc : Nat) (M : List Int) : Prop where
  c0 : wr.cell? ⟨B, 0, none⟩ = some (.slice a n c)
  c1 : wr.cell? ⟨B, 1, none⟩ = some (.slice la ln lc)
  i0 : IntsAt wr a n L
  i1 : IntsAt wr la ln M
  sz : B < wr.heap.size
  bl : Below w.heap.size w wr
theorem LW.next {w wr w2 : World} {B : Nat} {a : Option Addr} {n c : Nat} {L : List Int} {la : Option Addr} {ln lc : Nat} {M : List Int} (h : LW w wr B a n c L la ln lc M) (hb : Below wr.heap.size wr w2) : LW w w2 B a n c L la ln lc M :=
  ⟨(hb.cell (p := ⟨B, 0, none⟩) h.sz).trans h.c0, (hb.cell (p := ⟨B, 1, none⟩) h.sz).trans h.c1, h.i0.below hb, h.i1.below hb, Nat.lt_of_lt_of_le h.sz hb.size, h.bl.trans (hb.mono h.bl.size)⟩
theorem LW.mk0 {w w1 : World} {a : Option Addr} {n c : Nat} {L : List Int} {la : Option Addr} {ln lc : Nat} {M : List Int} (t : TypeId) (hb : Below w.heap.size w w1) (h0 : IntsAt w1 a n L) (h1 : IntsAt w1 la ln M) :
    LW w (w1.alloc (.cells #[.slice a n c, .slice la ln lc] t)) w1.heap.size a n c L la ln lc M := by
  have hb1 : Below w1.heap.size w1 (w1.alloc (.cells #[.slice a n c, .slice la ln lc] t)) := (Below.refl _ _).alloc (Nat.le_refl _) _
  exact ⟨by simp, by simp, h0.below hb1, h1.below hb1, by simp, hb.trans (hb1.mono hb.size)⟩
theorem LW.at {w wr : World} {B : Nat} {a : Option Addr} {n c : Nat} {L : List Int} {la : Option Addr} {ln lc : Nat} {M : List Int} (h : LW w wr B a n c L la ln lc M) {j : Nat} (hj : j < 2) :
    ∃ xa xn xc X, wr.cell? ⟨B, j, none⟩ = some (.slice xa xn xc) ∧ IntsAt wr xa xn X := by
  match j, hj with
  | 0, _ => exact ⟨_, _, _, _, h.c0, h.i0⟩
  | 1, _ => exact ⟨_, _, _, _, h.c1, h.i1⟩

set_option maxRecDepth 100000 in
set_option maxHeartbeats 4000000 in
theorem law_of (ra : Option Addr) (rn rc : Nat) (R : List Int) (a : Option Addr) (n c : Nat) (T : List Int) (w : World) (hR : IntsAt w ra rn R) (hI : IntsAt w a n T) (hL : ∀ x ∈ T, -9223372036854775808 ≤ x ∧ x ≤ 9223372036854775807) (hT : Tbs w) :
    Calls Tryd.prog 3 #[.slice ra rn rc, .slice a n c] w (RetB (.bool true) w) := by
  have HT := Lib.hid hT
  clear hT
  have rmax := hR.le
  by_cases hg : n ≤ 400 ∧ rn ≤ 300
  rotate_left
  · clear hI hL hR
    by_cases hn : n ≤ 400
    · have hrn : ¬ rn ≤ 300 := fun h => hg ⟨hn, h⟩
      have hd : decide (n ≤ 400) = true := by simpa using hn
      clear hg hn
      go_enter Tryd.func3, Tryd.ntmps3
      go_wp2_with (first
        | (go_at_call 7; refine (light_any _ _ _ _).mono ?_; rw [hd]; rintro e w' ⟨rfl, rfl⟩)
        | (go_at_call 8; refine (awake_any _ HT.out).mono ?_; rintro e w' ⟨rfl, hb⟩))
      go_ret
      exact ⟨rfl, hb⟩
    · have hd : decide (n ≤ 400) = false := by simpa using hn
      clear hg hn
      go_enter Tryd.func3, Tryd.ntmps3
      go_wp2_with (first
        | (go_at_call 7; refine (light_any _ _ _ _).mono ?_; rw [hd]; rintro e w' ⟨rfl, rfl⟩)
        | (go_at_call 8; refine (awake_any _ HT.out).mono ?_; rintro e w' ⟨rfl, hb⟩))
      go_ret
      exact ⟨rfl, hb⟩
  obtain ⟨hn, hrn⟩ := hg
  have hd : decide (n ≤ 400) = true := by simpa using hn
  have HD0 := Lib.hid (DiceAt.mk0 c 50 hI hn hL)
  have HR := Lib.hid hR
  clear hI hL hn hR
  go_enter Tryd.func3, Tryd.ntmps3
  go_wp2_with (first
    | (go_at_call 7; refine (light_any _ _ _ _).mono ?_; rw [hd]; rintro e w' ⟨rfl, rfl⟩)
    | (go_at_call 10; refine (roll_any _ _ _ _).mono ?_; rintro e w' ⟨rfl, rfl⟩)
    | (go_at_call 9; refine (madeL _ _ HD0.out).mono ?_)
    | fail)
  rintro en w1 ⟨la, lc, f, L, m, hm, rfl, hi, hl, f1, f2, hb1⟩
  have HW := Lib.hid (LW.mk0 (c := rc) (lc := lc) 22 hb1 (HR.out.below hb1) hi)
  clear hi hb1 hm HD0 hd hl f1 f2 HR rmax hrn
  go_wp2_with fail
  go_loopw [26] (fun i wr => ∃ j : Nat, j ≤ 2 ∧ i = .int .i64 j ∧ Hid (LW w wr w1.heap.size ra rn rc R la m lc L)) (fun i _ => 2 - (intOf i).toNat)
  case atStart => exact ⟨0, by omega, rfl, HW⟩
  case round =>
    clear HW
    obtain ⟨j, hj, rfl, HW⟩ := hrel
    by_cases hlt : j < 2
    · obtain ⟨xa, xn, xc, X, cj, hX⟩ := HW.out.at hlt
      have HX := Lib.hid hX
      have xmax := hX.le
      clear hX
      have sz := HW.out.sz
      go_wp2_with fail
      refine (of_any X xa xn xc _ HX.out).mono ?_
      rintro en w2 ⟨sa, sc, sb, sq, rfl, hx, hy, hb2⟩
      have HX2 := Lib.hid ((HX.out.below hb2).below ((Below.refl _ w2).alloc (Nat.le_refl _) (.cells #[.int .i64 (ofF X), .int .i64 (ofL X), .int .i64 (ofEv X), .int .i64 (ofK X), .slice sa (ofX X).length sc, .slice sb (ofY X).length sq] 30)))
      have HW2 := Lib.hid (HW.out.next hb2)
      have HS := Lib.hid (SC.mk0 (w := w2) (f := ofF X) (l := ofL X) (e := ofEv X) (k := ofK X) (c := sc) (q := sq) 30 hx hy)
      have HW3 := Lib.hid (HW2.out.next HS.out.bl)
      have hR := Lib.hid (rof_any X xa xn xc _ HX2.out)
      have hEE : (ofE X != ofE X) = false := by simp
      unfold OfP at hR
      clear hx hy hb2 HX HX2 HW HW2
      generalize ofF X = gf at *
      generalize ofL X = gl at *
      generalize ofEv X = ge at *
      generalize ofK X = gk at *
      generalize ofE X = gg at *
      generalize ofX X = gx at *
      generalize ofY X = gy at *
      generalize hgn : gx.length = gn at *
      generalize hgm : gy.length = gm at *
      clear hgn hgm
      go_wp2_with fail
      refine hR.out.mono ?_
      rintro en w3 ⟨sa', sc', sb', sq', rfl, hx, hy, hb3⟩
      have HS2 := HS.out.next hb3
      have HW4 := HW3.out.next hb3
      have HZ := SC.mk0 (w := w3) (f := gf) (l := gl) (e := ge) (k := gk) (c := sc') (q := sq') 30 hx hy
      have HS3 := Lib.hid (HS2.next HZ.bl)
      have HW5 := Lib.hid (HW4.next HZ.bl)
      have hq := Lib.hid (same_any gf gl ge gk sa gn sc sb gm sq sa' sc' sb' sq' gx gy _ HS3.out.xa HS3.out.ya HZ.xa HZ.ya)
      obtain ⟨y0, y1, y2, y3, y4, y5, _, _, ysz, _⟩ := HS3.out
      clear hx hy hb3 hR HS2 HW4 HZ HS HW3
      go_wp2_with (go_at_call 13; refine hq.out.mono ?_; rintro en w4 ⟨rfl, hb4⟩; have HW6 := Lib.hid (HW5.out.next hb4); clear hb4)
      refine ⟨?_, ?measure⟩
      first
        | ((repeat apply Exists.intro); refine ⟨?rel, rfl⟩)
        | ((iterate 10 (apply Exists.intro)); (repeat apply Exists.intro); refine ⟨?rel, rfl⟩)
        | ((iterate 25 (apply Exists.intro)); (repeat apply Exists.intro); refine ⟨?rel, rfl⟩)
        | ((iterate 40 (apply Exists.intro)); (repeat apply Exists.intro); refine ⟨?rel, rfl⟩)
        | refine ?rel
      case rel => exact ⟨j + 1, by omega, int_eq (by omega), HW6⟩
      case measure => simp [intOf]; omega
    · obtain rfl : j = 2 := by omega
      go_wp2_with (go_at_call 8; refine (awake_any _ (HT.out.below HW.out.bl)).mono ?_; rintro e w6 ⟨rfl, hb6⟩; have HB6 := Lib.hid (HW.out.bl.trans (hb6.mono HW.out.bl.size)); clear hb6)
      go_ret
      exact ⟨rfl, HB6.out⟩

end Go.Proofs.YtibigbfkokendaaDoor
