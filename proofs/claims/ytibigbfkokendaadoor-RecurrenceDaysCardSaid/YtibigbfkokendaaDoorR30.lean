/- RecurrenceDays, walked: which series are valid, and their days, for any series and day. -/
import Derived.Test.YtibigbfkokendaaDoorR29
import Derived.Test.YtibigbfkokendaaDoorR22
import Derived.Test.YtibigbfkokendaaDoorR10
import Derived.Deep.RegionHeld3
import Derived.Deep.DeepCutAuto
namespace Go.Proofs.YtibigbfkokendaaDoor
open Go.RowKit TT

/-- a series in six cells of a block -/
structure SX (w : World) (B o : Nat) (f l e k : Int) (a : Option Addr) (n c : Nat) (b : Option Addr) (m q : Nat) (xs ys : List Int) : Prop where
  c0 : w.cell? ⟨B, o, none⟩ = some (.int .i64 f)
  c1 : w.cell? ⟨B, o + 1, none⟩ = some (.int .i64 l)
  c2 : w.cell? ⟨B, o + 2, none⟩ = some (.int .i64 e)
  c3 : w.cell? ⟨B, o + 3, none⟩ = some (.int .i64 k)
  c4 : w.cell? ⟨B, o + 4, none⟩ = some (.slice a n c)
  c5 : w.cell? ⟨B, o + 5, none⟩ = some (.slice b m q)
  xa : IntsAt w a n xs
  ya : IntsAt w b m ys
  sz : B < w.heap.size
  hs : n + m ≤ 2000
theorem SX.below {w w2 : World} {B o : Nat} {f l e k : Int} {a : Option Addr} {n c : Nat} {b : Option Addr} {m q : Nat} {xs ys : List Int} (h : SX w B o f l e k a n c b m q xs ys) (hb : Below w.heap.size w w2) : SX w2 B o f l e k a n c b m q xs ys := by
  have ce : ∀ o, w2.cell? ⟨B, o, none⟩ = w.cell? ⟨B, o, none⟩ := fun o => hb.cell (p := ⟨B, o, none⟩) h.sz
  exact ⟨(ce _).trans h.c0, (ce _).trans h.c1, (ce _).trans h.c2, (ce _).trans h.c3, (ce _).trans h.c4, (ce _).trans h.c5, h.xa.below hb, h.ya.below hb, Nat.lt_of_lt_of_le h.sz hb.size, h.hs⟩
theorem two_box {W1 w3 : World} {f l e k : Int} {a : Option Addr} {n c : Nat} {b : Option Addr} {m q : Nat} {xs ys : List Int} {f' l' e' k' : Int} {a' : Option Addr} {n' c' : Nat} {b' : Option Addr} {m' q' : Nat} {xs' ys' : List Int} (t : TypeId)
    (hb : Below W1.heap.size W1 w3) (hx : IntsAt w3 a n xs) (hy : IntsAt w3 b m ys) (hs : n + m ≤ 2000) (hx' : IntsAt w3 a' n' xs') (hy' : IntsAt w3 b' m' ys') (hs' : n' + m' ≤ 2000) :
    Below W1.heap.size W1 (w3.alloc (.cells #[.int .i64 f, .int .i64 l, .int .i64 e, .int .i64 k, .slice a n c, .slice b m q, .int .i64 f', .int .i64 l', .int .i64 e', .int .i64 k', .slice a' n' c', .slice b' m' q'] t)) ∧ ∀ j, j < 2 → ∃ F L E K A N C B M Q X Y, SX (w3.alloc (.cells #[.int .i64 f, .int .i64 l, .int .i64 e, .int .i64 k, .slice a n c, .slice b m q, .int .i64 f', .int .i64 l', .int .i64 e', .int .i64 k', .slice a' n' c', .slice b' m' q'] t)) w3.heap.size (j * 6) F L E K A N C B M Q X Y := by
  have h1 : Below w3.heap.size w3 (w3.alloc (.cells #[.int .i64 f, .int .i64 l, .int .i64 e, .int .i64 k, .slice a n c, .slice b m q, .int .i64 f', .int .i64 l', .int .i64 e', .int .i64 k', .slice a' n' c', .slice b' m' q'] t)) := (Below.refl _ _).alloc (Nat.le_refl _) _
  refine ⟨below3 hb h1, fun j hj => ?_⟩
  rcases (show j = 0 ∨ j = 1 by omega) with rfl | rfl
  · exact ⟨f, l, e, k, a, n, c, b, m, q, xs, ys, by simp, by simp, by simp, by simp, by simp, by simp, hx.below h1, hy.below h1, by simp, hs⟩
  · exact ⟨f', l', e', k', a', n', c', b', m', q', xs', ys', by simp, by simp, by simp, by simp, by simp, by simp, hx'.below h1, hy'.below h1, by simp, hs'⟩
def RollP (W : World) (e : Ending) (w' : World) : Prop := ∃ p, e = .returned (.pointer (some ⟨p, 0, none⟩)) ∧ DiceAt w' p ∧ Below W.heap.size W w' ∧ W.heap.size ≤ p
theorem roll_dice {a : Option Addr} {n c : Nat} {T : List Int} (W : World) (hI : IntsAt W a n T) (hn : n ≤ 400) (hL : ∀ x ∈ T, -9223372036854775808 ≤ x ∧ x ≤ 9223372036854775807) :
    Calls Tryd.prog 10 #[.slice a n c] W (RollP W) := by
  refine (roll_any a n c W).mono ?_
  rintro e w' ⟨rfl, rfl⟩
  exact ⟨_, rfl, DiceAt.mk0 c _ hI hn hL, (Below.refl _ _).alloc (Nat.le_refl _) _, Nat.le_refl _⟩
def DaysQ (D : List Int) (W : World) (e : Ending) (w' : World) : Prop := ∃ a c, e = .returned (.slice a D.length c) ∧ IntsAt w' a D.length D ∧ Below W.heap.size W w'
theorem daysQ {D : List Int} {W : World} {e : Ending} {w' : World} (h : DaysP D W e w') : DaysQ D W e w' := by
  obtain ⟨v, rfl, hr, hb⟩ := h
  obtain ⟨a, c, rfl, hi⟩ := Row.ints hr
  exact ⟨a, c, rfl, hi, hb⟩
theorem two_ints (w : World) (x y : Int) (t : TypeId) {j : Nat} (hj : j < 2) : ∃ v, (w.alloc (.cells #[.int .i64 x, .int .i64 y] t)).cell? ⟨w.heap.size, j, none⟩ = some (.int .i64 v) := by
  match j, hj with
  | 0, _ => exact ⟨x, by simp⟩
  | 1, _ => exact ⟨y, by simp⟩

set_option maxRecDepth 100000 in
set_option maxHeartbeats 4000000 in
theorem law_days (f l e k : Int) (a : Option Addr) (n c : Nat) (b : Option Addr) (m q : Nat) (xs ys : List Int) (ta : Option Addr) (tn tc : Nat) (T : List Int) (day : Int) (d1 : -9223372036854775808 ≤ day) (d2 : day ≤ 9223372036854775807) (w : World)
    (hx : IntsAt w a n xs) (hy : IntsAt w b m ys) (hI : IntsAt w ta tn T) (hL : ∀ x ∈ T, -9223372036854775808 ≤ x ∧ x ≤ 9223372036854775807) (hT : Tbs w) :
    Calls Tryd.prog 6 #[serV f l e k a n c b m q, .slice ta tn tc, .int .i64 day] w (RetB (.bool true) w) := by
  have HT := Lib.hid hT
  have BX : Hid (Below w.heap.size w (w.alloc (.cells #[.int .i64 f, .int .i64 l, .int .i64 e, .int .i64 k, .slice a n c, .slice b m q] 30))) := Lib.hid ((Below.refl _ _).alloc (Nat.le_refl _) _)
  have xmax := hx.le
  have ymax := hy.le
  clear hT
  by_cases hn4 : tn ≤ 400
  rotate_left
  · have hd : decide (tn ≤ 400) = false := by simpa using hn4
    clear hI hL hx hy
    go_enter Tryd.func6, Tryd.ntmps6
    go_wp2_with (first | (go_at_call 7; refine (light_any _ _ _ _).mono ?_; rw [hd]; rintro e w' ⟨rfl, rfl⟩) | (go_at_call 8; refine (awake_any _ (HT.out.below BX.out)).mono ?_; rintro e w' ⟨rfl, hb⟩))
    go_ret
    exact ⟨rfl, below3 BX.out hb⟩
  have hd : decide (tn ≤ 400) = true := by simpa using hn4
  by_cases hn5 : n ≤ 200
  rotate_left
  · clear hI hL hx hy
    go_enter Tryd.func6, Tryd.ntmps6
    go_wp2_with (first | (go_at_call 7; refine (light_any _ _ _ _).mono ?_; rw [hd]; rintro e w' ⟨rfl, rfl⟩) | (go_at_call 8; refine (awake_any _ (HT.out.below BX.out)).mono ?_; rintro e w' ⟨rfl, hb⟩))
    go_ret
    exact ⟨rfl, below3 BX.out hb⟩
  by_cases hn6 : m ≤ 200
  rotate_left
  · clear hI hL hx hy
    go_enter Tryd.func6, Tryd.ntmps6
    go_wp2_with (first | (go_at_call 7; refine (light_any _ _ _ _).mono ?_; rw [hd]; rintro e w' ⟨rfl, rfl⟩) | (go_at_call 8; refine (awake_any _ (HT.out.below BX.out)).mono ?_; rintro e w' ⟨rfl, hb⟩))
    go_ret
    exact ⟨rfl, below3 BX.out hb⟩
  have m0 := Int.emod_nonneg day (show (36525 : Int) ≠ 0 by decide)
  have m1 := Int.emod_lt_of_pos day (show (0 : Int) < 36525 by decide)
  have HM : Hid (∀ W, Calls Tryd.prog 17 #[.int .i64 day, .int .i64 36525] W (RetS (.int .i64 (day % 36525)) W)) := Lib.hid (fun W => mod_any day 36525 d1 d2 (by decide) (by decide) W)
  have HS0 := Lib.hid (SC.mk0 (w := w) (f := f) (l := l) (e := e) (k := k) (c := c) (q := q) 30 hx hy)
  have HRL : Hid (∀ W, Below (w.alloc (.cells #[.int .i64 f, .int .i64 l, .int .i64 e, .int .i64 k, .slice a n c, .slice b m q] 30)).heap.size (w.alloc (.cells #[.int .i64 f, .int .i64 l, .int .i64 e, .int .i64 k, .slice a n c, .slice b m q] 30)) W → Calls Tryd.prog 10 #[.slice ta tn tc] W (RollP W)) := Lib.hid (fun W hb => roll_dice W ((hI.below BX.out).below hb) hn4 hL)
  have HNM := Lib.hid (show n + m ≤ 2000 by omega)
  clear hI hL hx hy
  generalize day % 36525 = dd at *
  go_enter Tryd.func6, Tryd.ntmps6
  go_upto_region 3 with (first | (go_at_call 7; refine (light_any _ _ _ _).mono ?_; rw [hd]; rintro e w' ⟨rfl, rfl⟩) | fail)
  obtain ⟨y0, y1, y2, y3, y4, y5, _, _, ysz, _⟩ := HS0.out
  generalize (w.alloc (.cells #[.int .i64 f, .int .i64 l, .int .i64 e, .int .i64 k, .slice a n c, .slice b m q] 30)) = W1 at *
  generalize w.heap.size = B1 at *
  have BR1 := Lib.hid (bel_drew0 W1)
  go_cut [31, 32, 33] (fun s31 s32 s33 wx => ∃ g, s31 = .slice (some ⟨g, 0, none⟩) 2 2 ∧ s32 = .int .i64 2 ∧ s33 = .int .i64 0 ∧ Below W1.heap.size W1 wx ∧ ∀ j, j < 2 → ∃ F L E K A N C B M Q X Y, SX wx g (j * 6) F L E K A N C B M Q X Y)
  case first =>
    go_region_held3 (fun w' => w'.cell? ⟨B1, 0, none⟩ = some (.int .i64 f) ∧ w'.cell? ⟨B1, 1, none⟩ = some (.int .i64 l) ∧ w'.cell? ⟨B1, 2, none⟩ = some (.int .i64 e) ∧ w'.cell? ⟨B1, 3, none⟩ = some (.int .i64 k) ∧ w'.cell? ⟨B1, 4, none⟩ = some (.slice a n c) ∧ w'.cell? ⟨B1, 5, none⟩ = some (.slice b m q)) (first | (with_reducible exact ⟨k0, k1, k2, k3, k4, k5⟩) | (with_reducible exact ⟨y0, y1, y2, y3, y4, y5⟩) | go_keep) ((first
      | (go_at_call 10; refine (HRL.out _ (by first | with_reducible exact Below.refl _ _ | with_reducible exact BR1.out)).mono ?_; rintro en w2 ⟨p, rfl, hd2, hb2, hp2⟩; have BQ2 : Below W1.heap.size W1 w2 := (by first | with_reducible exact hb2 | with_reducible exact below3 BR1.out hb2); have hp3 : W1.heap.size ≤ p := hp2; obtain ⟨k0, k1, k2, k3, k4, k5, _, _, _, _⟩ := HS0.out.next BQ2)
      | (go_at_call 18; refine (some_any p _ (by first | with_reducible exact hd2 | with_reducible exact hd2.below (bel_drew0 _))).mono ?_; rintro en w3 ⟨f', l', e', k', a', n', c', b', m', q', xs', ys', rfl, hx3, hy3, hs3, hb3, hd3⟩; have BQ3 : Below W1.heap.size W1 w3 := (by first | with_reducible exact But.below BQ2 hb3 hp3 BQ2.size | with_reducible exact But.below (below3 BQ2 (bel_drew0 _)) hb3 hp3 BQ2.size); obtain ⟨k0, k1, k2, k3, k4, k5, _, _, _, _⟩ := HS0.out.next BQ3)))
    all_goals (
      go_wp2_with fail
      go_meet
      have hz := HS0.out.next BQ3
      have hz2 := two_box (f := f) (l := l) (e := e) (k := k) (c := c) (q := q) (f' := f') (l' := l') (e' := e') (k' := k') (c' := c') (q' := q') 30 BQ3 hz.xa hz.ya HNM.out hx3 hy3 hs3
      exact ⟨_, rfl, rfl, rfl, hz2.1, hz2.2⟩)
  case rest =>
    obtain ⟨g, rfl, rfl, rfl, hbx, hnn⟩ := hcut
    have HNN := Lib.hid hnn
    have HBX := Lib.hid (HS0.out.bl.trans (hbx.mono HS0.out.bl.size))
    have hg : g < wc.heap.size := by obtain ⟨f, l, e, k, a, n, c, b, m, q, xs, ys, h⟩ := hnn 0 (by omega); exact h.sz
    obtain ⟨w4, rfl⟩ : ∃ w4 : World, w4 = wc := ⟨_, rfl⟩
    clear hbx hnn y0 y1 y2 y3 y4 y5 ysz BR1 HRL HNM hn5 hn6 xmax ymax
    go_wp2_with fail
    go_loopw [33] (fun i wr => ∃ j : Nat, j ≤ 2 ∧ i = .int .i64 j ∧ Hid (Below w4.heap.size w4 wr)) (fun i _ => 2 - (intOf i).toNat)
    case atStart => exact ⟨0, by omega, rfl, Lib.hid (Below.refl _ _)⟩
    case round =>
      obtain ⟨j, hj, rfl, HB⟩ := hrel
      by_cases hlt : j < 2
      · obtain ⟨f1, l1, e1, k1, a1, n1, c1, b1, m1, q1, xs1, ys1, hz⟩ := HNN.out j hlt
        have HX := Lib.hid (hz.below HB.out)
        clear hz
        obtain ⟨y0, y1, y2, y3, y4, y5, _, _, ysz, hnm⟩ := HX.out
        go_wp2_with fail
        have HZ := Lib.hid (SC.mk0 (w := wr) (f := f1) (l := l1) (e := e1) (k := k1) (c := c1) (q := q1) 30 HX.out.xa HX.out.ya)
        have HB1 : Hid (Below w4.heap.size w4 (wr.alloc (.cells #[.int .i64 f1, .int .i64 l1, .int .i64 e1, .int .i64 k1, .slice a1 n1 c1, .slice b1 m1 q1] 30))) := Lib.hid (below3 HB.out ((Below.refl _ _).alloc (Nat.le_refl _) _))
        clear y0 y1 y2 y3 y4 y5 ysz HX
        obtain ⟨wo, rfl⟩ : ∃ wo : World, wo = wr := ⟨_, rfl⟩
        generalize (wo.alloc (.cells #[.int .i64 f1, .int .i64 l1, .int .i64 e1, .int .i64 k1, .slice a1 n1 c1, .slice b1 m1 q1] 30)) = wz at *
        generalize wo.heap.size = bz at *
        have zl := HZ.out.sz
        have R : Hid (∃ (V : Int) (D : List Int), ∀ W, Below wz.heap.size wz W → (Calls Tryd.prog 14 #[serV f1 l1 e1 k1 a1 n1 c1 b1 m1 q1] W (RetB (.int .i64 V) W)) ∧ (Calls Tryd.prog 19 #[serV f1 l1 e1 k1 a1 n1 c1 b1 m1 q1] W (RetB (.int .i64 V) W)) ∧
            (Calls Tryd.prog 16 #[serV f1 l1 e1 k1 a1 n1 c1 b1 m1 q1] W (DaysQ D W)) ∧ (Calls Tryd.prog 20 #[serV f1 l1 e1 k1 a1 n1 c1 b1 m1 q1] W (DaysQ D W)) ∧
            (∀ d : Int, (Calls Tryd.prog 21 #[serV f1 l1 e1 k1 a1 n1 c1 b1 m1 q1, .int .i64 d] W (RetB (.bool (hasI D d)) W)) ∧ (Calls Tryd.prog 22 #[serV f1 l1 e1 k1 a1 n1 c1 b1 m1 q1, .int .i64 d] W (RetB (.bool (hasI D d)) W)))) :=
          Lib.hid ⟨_, _, fun W hb => ⟨valid_any f1 l1 e1 k1 a1 n1 c1 b1 m1 q1 xs1 ys1 W (HZ.out.next hb).xa (HZ.out.next hb).ya (by omega), rvalid_any f1 l1 e1 k1 a1 n1 c1 b1 m1 q1 xs1 ys1 W (HZ.out.next hb).xa (HZ.out.next hb).ya (by omega),
            (days_any f1 l1 e1 k1 a1 n1 c1 b1 m1 q1 xs1 ys1 W (HZ.out.next hb).xa (HZ.out.next hb).ya (by omega)).mono (fun _ _ h => daysQ h), (rdays_any f1 l1 e1 k1 a1 n1 c1 b1 m1 q1 xs1 ys1 W (HZ.out.next hb).xa (HZ.out.next hb).ya (by omega)).mono (fun _ _ h => daysQ h),
            fun d => ⟨holds_any f1 l1 e1 k1 d a1 n1 c1 b1 m1 q1 xs1 ys1 W (HZ.out.next hb).xa (HZ.out.next hb).ya (by omega), rholds_any f1 l1 e1 k1 d a1 n1 c1 b1 m1 q1 xs1 ys1 W (HZ.out.next hb).xa (HZ.out.next hb).ya (by omega)⟩⟩⟩
        obtain ⟨V, D, hR⟩ := R.out
        have HR := Lib.hid hR
        have e9 : (V != V) = false := by simp
        have BE0 := Lib.hid (Below.refl wz.heap.size wz)
        have BE1 := Lib.hid (bel_drew0 wz)
        obtain ⟨u0, u1, u2, u3, u4, u5, _, _, _, _⟩ := HZ.out
        clear hR R
        go_upto_region 6 with fail
        go_cut [49] (fun s49 wx => s49 = .bool false ∧ Below wz.heap.size wz wx)
        case first =>
          go_region_held3 (fun w' => w'.cell? ⟨bz, 0, none⟩ = some (.int .i64 f1) ∧ w'.cell? ⟨bz, 1, none⟩ = some (.int .i64 l1) ∧ w'.cell? ⟨bz, 2, none⟩ = some (.int .i64 e1) ∧ w'.cell? ⟨bz, 3, none⟩ = some (.int .i64 k1) ∧ w'.cell? ⟨bz, 4, none⟩ = some (.slice a1 n1 c1) ∧ w'.cell? ⟨bz, 5, none⟩ = some (.slice b1 m1 q1)) (first | (with_reducible exact ⟨k0, k1, k2, k3, k4, k5⟩) | (with_reducible exact ⟨u0, u1, u2, u3, u4, u5⟩) | go_keep) ((first
            | (go_at_call 14; refine ((HR.out _ (by first | with_reducible exact BE0.out | with_reducible exact BE1.out)).1).mono ?_; rintro e w6 ⟨rfl, hb6⟩; have BQ6 : Below wz.heap.size wz w6 := (by first | with_reducible exact hb6 | with_reducible exact below3 BE1.out hb6); obtain ⟨k0, k1, k2, k3, k4, k5, _, _, _, _⟩ := HZ.out.next BQ6)
            | (go_at_call 19; refine ((HR.out _ (by first | with_reducible exact BQ6 | with_reducible exact below3 BQ6 (bel_drew0 _))).2.1).mono ?_; rintro e w7 ⟨rfl, hb7⟩; have BQ7 : Below wz.heap.size wz w7 := (by first | with_reducible exact below3 BQ6 hb7 | with_reducible exact below3 (below3 BQ6 (bel_drew0 _)) hb7); obtain ⟨k0, k1, k2, k3, k4, k5, _, _, _, _⟩ := HZ.out.next BQ7)
            | (go_at_call 16; refine ((HR.out _ (by first | with_reducible exact BQ7 | with_reducible exact below3 BQ7 (bel_drew0 _))).2.2.1).mono ?_; rintro e w8 ⟨v8, x8, rfl, hi8, hb8⟩; have BQ8 : Below wz.heap.size wz w8 := (by first | with_reducible exact below3 BQ7 hb8 | with_reducible exact below3 (below3 BQ7 (bel_drew0 _)) hb8); obtain ⟨k0, k1, k2, k3, k4, k5, _, _, _, _⟩ := HZ.out.next BQ8)
            | (go_at_call 20; refine ((HR.out _ (by first | with_reducible exact BQ8 | with_reducible exact below3 BQ8 (bel_drew0 _))).2.2.2.1).mono ?_; rintro e w9 ⟨v9, x9, rfl, hi9, hb9⟩; have BQ9 : Below wz.heap.size wz w9 := (by first | with_reducible exact below3 BQ8 hb9 | with_reducible exact below3 (below3 BQ8 (bel_drew0 _)) hb9); obtain ⟨k0, k1, k2, k3, k4, k5, _, _, _, _⟩ := HZ.out.next BQ9)
            | (go_at_call 15; refine (sameInts_any D _ _ _ _ _ _ ?_ ?_).mono ?_; (first | with_reducible exact hi8.below hb9 | with_reducible exact hi8.below (below3 hb9 (bel_drew0 _)) | with_reducible exact hi8.below (below3 (bel_drew0 _) hb9)); (first | with_reducible exact hi9 | with_reducible exact hi9.below (bel_drew0 _)); rintro e w10 ⟨rfl, hb10⟩; have BQ10 : Below wz.heap.size wz w10 := (by first | with_reducible exact below3 BQ9 hb10 | with_reducible exact below3 (below3 BQ9 (bel_drew0 _)) hb10); obtain ⟨k0, k1, k2, k3, k4, k5, _, _, _, _⟩ := HZ.out.next BQ10)))
          all_goals (
            go_wp2_with fail
            go_meet
            exact ⟨by simp, by assumption⟩)
        case rest =>
          obtain ⟨rfl, hbz9⟩ := hcut
          have HZ2 := Lib.hid (HZ.out.next hbz9)
          have HB2 := Lib.hid (below3 HB1.out hbz9)
          have HR2 : Hid (∀ W, Below wc.heap.size wc W → ∀ d : Int, (Calls Tryd.prog 21 #[serV f1 l1 e1 k1 a1 n1 c1 b1 m1 q1, .int .i64 d] W (RetB (.bool (hasI D d)) W)) ∧ (Calls Tryd.prog 22 #[serV f1 l1 e1 k1 a1 n1 c1 b1 m1 q1, .int .i64 d] W (RetB (.bool (hasI D d)) W))) := Lib.hid (fun W hb d => ((HR.out W (below3 hbz9 hb)).2.2.2.2 d))
          obtain ⟨w7, rfl⟩ : ∃ w7 : World, w7 = wc := ⟨_, rfl⟩
          clear hbz9 u0 u1 u2 u3 u4 u5 HZ HB1 HB HR BE0 BE1 zl hnm e9
          generalize wz.heap.size = bz9 at *
          go_wp2_with (first | (go_at_call 17; refine (HM.out _).mono ?_; rintro en w8 ⟨rfl, rfl⟩) | fail)
          have hbl : Below w7.heap.size w7 (w7.alloc (.cells #[.int .i64 day, .int .i64 dd] 3)) := (Below.refl _ _).alloc (Nat.le_refl _) _
          have HP := Lib.hid (fun (i : Nat) (hi : i < 2) => two_ints w7 day dd 3 hi)
          have HB3 := Lib.hid (below3 HB2.out hbl)
          have HZ3 := Lib.hid (HZ2.out.next hbl)
          have hg5 : w7.heap.size < (w7.alloc (.cells #[.int .i64 day, .int .i64 dd] 3)).heap.size := by simp
          have HBL := Lib.hid hbl
          clear hbl HB2 HZ2
          generalize w7.alloc (.cells #[.int .i64 day, .int .i64 dd] 3) = w5 at *
          go_loopw [55] (fun i wr => ∃ i2 : Nat, i2 ≤ 2 ∧ i = .int .i64 i2 ∧ Hid (Below w5.heap.size w5 wr)) (fun i _ => 2 - (intOf i).toNat)
          case atStart => exact ⟨0, by omega, rfl, Lib.hid (Below.refl _ _)⟩
          case round =>
            obtain ⟨i2, hi2, rfl, HQ⟩ := hrel
            by_cases hlt2 : i2 < 2
            · obtain ⟨N, hN⟩ := HP.out i2 hlt2
              have hN' : wr.cell? ⟨w7.heap.size, i2, none⟩ = some (.int .i64 N) := (HQ.out.cell (p := ⟨w7.heap.size, i2, none⟩) hg5).trans hN
              have HZ4 := Lib.hid (HZ3.out.next HQ.out)
              obtain ⟨u0, u1, u2, u3, u4, u5, _, _, zl, _⟩ := HZ4.out
              have HR3 : Hid (∃ v : Bool, ∀ W, Below wr.heap.size wr W → (Calls Tryd.prog 21 #[serV f1 l1 e1 k1 a1 n1 c1 b1 m1 q1, .int .i64 N] W (RetB (.bool v) W)) ∧ (Calls Tryd.prog 22 #[serV f1 l1 e1 k1 a1 n1 c1 b1 m1 q1, .int .i64 N] W (RetB (.bool v) W))) := Lib.hid ⟨_, fun W hb => HR2.out W (below3 (below3 HBL.out HQ.out) hb) N⟩
              obtain ⟨v, hR⟩ := HR3.out
              have HR := Lib.hid hR
              have e8 : (v != v) = false := by simp
              have BE0 := Lib.hid (Below.refl wr.heap.size wr)
              have BE1 := Lib.hid (bel_drew0 wr)
              clear hR HR3 hN
              go_upto_region 11 with fail
              go_cut [65] (fun s65 wx => s65 = .bool false ∧ Below wr.heap.size wr wx)
              case first =>
                go_region_held3 (fun w' => w'.cell? ⟨bz, 0, none⟩ = some (.int .i64 f1) ∧ w'.cell? ⟨bz, 1, none⟩ = some (.int .i64 l1) ∧ w'.cell? ⟨bz, 2, none⟩ = some (.int .i64 e1) ∧ w'.cell? ⟨bz, 3, none⟩ = some (.int .i64 k1) ∧ w'.cell? ⟨bz, 4, none⟩ = some (.slice a1 n1 c1) ∧ w'.cell? ⟨bz, 5, none⟩ = some (.slice b1 m1 q1)) (first | (with_reducible exact ⟨k0, k1, k2, k3, k4, k5⟩) | (with_reducible exact ⟨u0, u1, u2, u3, u4, u5⟩) | go_keep) ((first
                  | (go_at_call 21; refine ((HR.out _ (by first | with_reducible exact BE0.out | with_reducible exact BE1.out)).1).mono ?_; rintro e w6 ⟨rfl, hb6⟩; have BQ6 : Below wr.heap.size wr w6 := (by first | with_reducible exact hb6 | with_reducible exact below3 BE1.out hb6); obtain ⟨k0, k1, k2, k3, k4, k5, _, _, _, _⟩ := HZ4.out.next BQ6)
                  | (go_at_call 22; refine ((HR.out _ (by first | with_reducible exact BQ6 | with_reducible exact below3 BQ6 (bel_drew0 _))).2).mono ?_; rintro e w7 ⟨rfl, hb7⟩; have BQ7 : Below wr.heap.size wr w7 := (by first | with_reducible exact below3 BQ6 hb7 | with_reducible exact below3 (below3 BQ6 (bel_drew0 _)) hb7); obtain ⟨k0, k1, k2, k3, k4, k5, _, _, _, _⟩ := HZ4.out.next BQ7)))
                all_goals (
                  go_wp2_with fail
                  go_meet
                  exact ⟨by simp, by assumption⟩)
              case rest =>
                obtain ⟨rfl, hbz9⟩ := hcut
                have BF := Lib.hid (below3 HQ.out hbz9)
                go_wp2_with fail
                go_roundw
                case rel => exact ⟨i2 + 1, by omega, by go_num, BF⟩
                case measure => simp [intOf]; omega
            · obtain rfl : i2 = 2 := by omega
              have BF := Lib.hid (below3 HB3.out HQ.out)
              go_wp2_with fail
              go_roundw
              case rel => exact ⟨j + 1, by omega, by go_num, BF⟩
              case measure => simp [intOf]; omega
      · obtain rfl : j = 2 := by omega
        have BE : Hid (Below w.heap.size w wr) := Lib.hid (below3 HBX.out HB.out)
        go_wp2_with (first | (go_at_call 8; refine (awake_any _ (HT.out.below BE.out)).mono ?_) | fail)
        rintro en w6 ⟨rfl, hb⟩
        go_wp2_with fail
        go_ret
        exact ⟨rfl, below3 BE.out hb⟩

end Go.Proofs.YtibigbfkokendaaDoor
