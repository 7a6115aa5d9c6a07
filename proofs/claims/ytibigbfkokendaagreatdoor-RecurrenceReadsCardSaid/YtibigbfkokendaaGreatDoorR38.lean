/- RecurrenceTexts, walked: the text of the rule of every series, or the error, and that it is read again, without the exceptions. -/
import Derived.Test.YtibigbfkokendaaGreatDoorRX
import Derived.Test.YtibigbfkokendaaGreatDoorR32
import Derived.Test.YtibigbfkokendaaGreatDoorR35
import Derived.Test.YtibigbfkokendaaGreatDoorR37
import Derived.Deep.RegionHeld3
import Derived.Deep.DeepCutAuto
namespace Go.Proofs.YtibigbfkokendaaGreatDoor
open Go.RowKit Go.Maps TT

theorem ruleL_len (e : Nat) (k l : Int) : (ruleL e k l).length ≤ 65 := by
  have := bysL_len k
  unfold ruleL
  simp only [List.length_append, datL_len, List.length_cons, List.length_nil]
  show 21 + 1 + 7 + _ + 7 + 8 ≤ 65
  omega
theorem fmt_back {f l e k : Int} {xs ys : List Int} (h : vlE f l e k xs ys = 0) : parP f (fmtL f l e k xs ys) = (f, l, e, k, 0) := by
  obtain ⟨h0, _⟩ := vlE_inv h
  obtain ⟨o1, o2, h3, h4, e1, e2, k1, k2, _⟩ := vl0_inv h0
  unfold fmtL; rw [if_pos h]
  refine parP_rule f l e k ?_ (by omega) (by omega) k1 (by omega) o1 o2
  unfold vlE vl0
  simp [o1, o2, excE]
  omega
theorem fmt_len (f l e k : Int) (xs ys : List Int) : (fmtL f l e k xs ys).length ≤ 65 := by
  unfold fmtL; split
  · exact ruleL_len _ _ _
  · simp

set_option maxRecDepth 100000 in
set_option maxHeartbeats 4000000 in
theorem law_texts (f l e k : Int) (a : Option Addr) (n c : Nat) (b : Option Addr) (m q : Nat) (xs ys : List Int) (ta : Option Addr) (tn tc : Nat) (T : List Int) (w : World)
    (hx : IntsAt w a n xs) (hy : IntsAt w b m ys) (hI : IntsAt w ta tn T) (hL : ∀ x ∈ T, -9223372036854775808 ≤ x ∧ x ≤ 9223372036854775807) (hT : Tbs w) :
    Calls Tryz.prog 3 #[serV f l e k a n c b m q, .slice ta tn tc] w (RetB (.bool true) w) := by
  have HT := Lib.hid hT
  have BX : Hid (Below w.heap.size w (w.alloc (.cells #[.int .i64 f, .int .i64 l, .int .i64 e, .int .i64 k, .slice a n c, .slice b m q] 24))) := Lib.hid ((Below.refl _ _).alloc (Nat.le_refl _) _)
  have xmax := hx.le
  have ymax := hy.le
  clear hT
  by_cases hn4 : tn ≤ 400
  rotate_left
  · have hd : decide (tn ≤ 400) = false := by simpa using hn4
    clear hI hL hx hy
    go_enter Tryz.func3, Tryz.ntmps3
    go_wp2_with (first | (go_at_call 5; refine (light_any _ _ _ _).mono ?_; rw [hd]; rintro e w' ⟨rfl, rfl⟩) | (go_at_call 6; refine (awake_any _ (HT.out.below BX.out)).mono ?_; rintro e w' ⟨rfl, hb⟩))
    go_ret
    exact ⟨rfl, below3 BX.out hb⟩
  have hd : decide (tn ≤ 400) = true := by simpa using hn4
  by_cases hn5 : n ≤ 200
  rotate_left
  · clear hI hL hx hy
    go_enter Tryz.func3, Tryz.ntmps3
    go_wp2_with (first | (go_at_call 5; refine (light_any _ _ _ _).mono ?_; rw [hd]; rintro e w' ⟨rfl, rfl⟩) | (go_at_call 6; refine (awake_any _ (HT.out.below BX.out)).mono ?_; rintro e w' ⟨rfl, hb⟩))
    go_ret
    exact ⟨rfl, below3 BX.out hb⟩
  by_cases hn6 : m ≤ 200
  rotate_left
  · clear hI hL hx hy
    go_enter Tryz.func3, Tryz.ntmps3
    go_wp2_with (first | (go_at_call 5; refine (light_any _ _ _ _).mono ?_; rw [hd]; rintro e w' ⟨rfl, rfl⟩) | (go_at_call 6; refine (awake_any _ (HT.out.below BX.out)).mono ?_; rintro e w' ⟨rfl, hb⟩))
    go_ret
    exact ⟨rfl, below3 BX.out hb⟩
  have HS0 := Lib.hid (SC.mk0 (w := w) (f := f) (l := l) (e := e) (k := k) (c := c) (q := q) 24 hx hy)
  have HRL : Hid (∀ W, Below (w.alloc (.cells #[.int .i64 f, .int .i64 l, .int .i64 e, .int .i64 k, .slice a n c, .slice b m q] 24)).heap.size (w.alloc (.cells #[.int .i64 f, .int .i64 l, .int .i64 e, .int .i64 k, .slice a n c, .slice b m q] 24)) W → Calls Tryz.prog 8 #[.slice ta tn tc] W (RollP W)) := Lib.hid (fun W hb => roll_dice W ((hI.below BX.out).below hb) hn4 hL)
  have HNM := Lib.hid (show n + m ≤ 2000 by omega)
  clear hI hL hx hy
  go_enter Tryz.func3, Tryz.ntmps3
  go_upto_region 3 with (first | (go_at_call 5; refine (light_any _ _ _ _).mono ?_; rw [hd]; rintro e w' ⟨rfl, rfl⟩) | fail)
  obtain ⟨y0, y1, y2, y3, y4, y5, _, _, ysz, _⟩ := HS0.out
  generalize (w.alloc (.cells #[.int .i64 f, .int .i64 l, .int .i64 e, .int .i64 k, .slice a n c, .slice b m q] 24)) = W1 at *
  generalize w.heap.size = B1 at *
  have BR1 := Lib.hid (bel_drew0 W1)
  go_cut [33, 34, 35] (fun s31 s32 s33 wx => ∃ g, s31 = .slice (some ⟨g, 0, none⟩) 2 2 ∧ s32 = .int .i64 2 ∧ s33 = .int .i64 0 ∧ Below W1.heap.size W1 wx ∧ ∀ j, j < 2 → ∃ F L E K A N C B M Q X Y, SX wx g (j * 6) F L E K A N C B M Q X Y)
  case first =>
    go_region_held3 (fun w' => w'.cell? ⟨B1, 0, none⟩ = some (.int .i64 f) ∧ w'.cell? ⟨B1, 1, none⟩ = some (.int .i64 l) ∧ w'.cell? ⟨B1, 2, none⟩ = some (.int .i64 e) ∧ w'.cell? ⟨B1, 3, none⟩ = some (.int .i64 k) ∧ w'.cell? ⟨B1, 4, none⟩ = some (.slice a n c) ∧ w'.cell? ⟨B1, 5, none⟩ = some (.slice b m q)) (first | (with_reducible exact ⟨kk0, kk1, kk2, kk3, kk4, kk5⟩) | (with_reducible exact ⟨y0, y1, y2, y3, y4, y5⟩) | go_keep) ((first
      | (go_at_call 8; refine (HRL.out _ (by first | with_reducible exact Below.refl _ _ | with_reducible exact BR1.out)).mono ?_; rintro en w2 ⟨p, rfl, hd2, hb2, hp2⟩; have BQ2 : Below W1.heap.size W1 w2 := (by first | with_reducible exact hb2 | with_reducible exact below3 BR1.out hb2); have hp3 : W1.heap.size ≤ p := hp2; obtain ⟨kk0, kk1, kk2, kk3, kk4, kk5, _, _, _, _⟩ := HS0.out.next BQ2)
      | (go_at_call 7; refine (some_any p _ (by first | with_reducible exact hd2 | with_reducible exact hd2.below (bel_drew0 _))).mono ?_; rintro en w3 ⟨f', l', e', k', a', n', c', b', m', q', xs', ys', rfl, hx3, hy3, hs3, hb3, hd3⟩; have BQ3 : Below W1.heap.size W1 w3 := (by first | with_reducible exact But.below BQ2 hb3 hp3 BQ2.size | with_reducible exact But.below (below3 BQ2 (bel_drew0 _)) hb3 hp3 BQ2.size); obtain ⟨kk0, kk1, kk2, kk3, kk4, kk5, _, _, _, _⟩ := HS0.out.next BQ3)))
    all_goals (
      go_wp2_with fail
      go_meet
      have hz := HS0.out.next BQ3
      have hz2 := two_box (f := f) (l := l) (e := e) (k := k) (c := c) (q := q) (f' := f') (l' := l') (e' := e') (k' := k') (c' := c') (q' := q') 24 BQ3 hz.xa hz.ya HNM.out hx3 hy3 hs3
      exact ⟨_, rfl, rfl, rfl, hz2.1, hz2.2⟩)
  case rest =>
    obtain ⟨g, rfl, rfl, rfl, hbx, hnn⟩ := hcut
    have HNN := Lib.hid hnn
    have HBX := Lib.hid (HS0.out.bl.trans (hbx.mono HS0.out.bl.size))
    have hg : g < wc.heap.size := by obtain ⟨f, l, e, k, a, n, c, b, m, q, xs, ys, h⟩ := hnn 0 (by omega); exact h.sz
    obtain ⟨w4, rfl⟩ : ∃ w4 : World, w4 = wc := ⟨_, rfl⟩
    have HT4 := Lib.hid (HT.out.below HBX.out)
    clear hbx hnn y0 y1 y2 y3 y4 y5 ysz BR1 HRL HNM hn5 hn6 xmax ymax
    go_wp2_with fail
    go_loopw [35] (fun i wr => ∃ j : Nat, j ≤ 2 ∧ i = .int .i64 j ∧ Hid (Below w4.heap.size w4 wr)) (fun i _ => 2 - (intOf i).toNat)
    case atStart => exact ⟨0, by omega, rfl, Lib.hid (Below.refl _ _)⟩
    case round =>
      obtain ⟨j, hj, rfl, HB⟩ := hrel
      by_cases hlt : j < 2
      · obtain ⟨f1, l1, e1, k1, a1, n1, c1, b1, m1, q1, xs1, ys1, hz⟩ := HNN.out j hlt
        have HX := Lib.hid (hz.below HB.out)
        clear hz
        obtain ⟨y0, y1, y2, y3, y4, y5, _, _, ysz, hnm⟩ := HX.out
        go_wp2_with fail
        have HZ := Lib.hid (SC.mk0 (w := wr) (f := f1) (l := l1) (e := e1) (k := k1) (c := c1) (q := q1) 24 HX.out.xa HX.out.ya)
        have HB1 : Hid (Below w4.heap.size w4 (wr.alloc (.cells #[.int .i64 f1, .int .i64 l1, .int .i64 e1, .int .i64 k1, .slice a1 n1 c1, .slice b1 m1 q1] 24))) := Lib.hid (below3 HB.out ((Below.refl _ _).alloc (Nat.le_refl _) _))
        clear y0 y1 y2 y3 y4 y5 ysz HX
        obtain ⟨wo, rfl⟩ : ∃ wo : World, wo = wr := ⟨_, rfl⟩
        generalize (wo.alloc (.cells #[.int .i64 f1, .int .i64 l1, .int .i64 e1, .int .i64 k1, .slice a1 n1 c1, .slice b1 m1 q1] 24)) = wz at *
        generalize wo.heap.size = bz at *
        have HF1 := Lib.hid (fun (W : World) (hb : Below wz.heap.size wz W) => format_any f1 l1 e1 k1 a1 n1 c1 b1 m1 q1 xs1 ys1 W (HZ.out.next hb).xa (HZ.out.next hb).ya (by omega) (HT4.out.below (below3 HB1.out hb)))
        have HF2 := Lib.hid (fun (W : World) (hb : Below wz.heap.size wz W) => rformat_any f1 l1 e1 k1 a1 n1 c1 b1 m1 q1 xs1 ys1 W (HZ.out.next hb).xa (HZ.out.next hb).ya (by omega))
        have HPA : Hid (vlE f1 l1 e1 k1 xs1 ys1 = 0 → ∀ (W : World), Below wz.heap.size wz W → Calls Tryz.prog 11 #[.int .i64 f1, .string (arr (fmtL f1 l1 e1 k1 xs1 ys1))] W (RetB (.tuple #[serV f1 l1 e1 k1 none 0 0 none 0 0, .int .i64 0]) W)) := Lib.hid (fun hv W hb => by
          have hlen := fmt_len f1 l1 e1 k1 xs1 ys1
          have h := parse_any f1 (fmtL f1 l1 e1 k1 xs1 ys1) (by omega) W (HT4.out.below (below3 HB1.out hb))
          unfold ParP at h
          rw [fmt_back hv] at h
          exact h)
        unfold FmtP at HF1 HF2
        have hsz : (arr (fmtL f1 l1 e1 k1 xs1 ys1)).size ≤ 65 := by rw [arr_size]; exact fmt_len _ _ _ _ _ _
        clear hnm
        generalize arr (fmtL f1 l1 e1 k1 xs1 ys1) = S at *
        generalize vlE f1 l1 e1 k1 xs1 ys1 = V at *
        obtain ⟨u0, u1, u2, u3, u4, u5, _, _, zl, _⟩ := HZ.out
        go_wp2_with fail
        refine (HF1.out _ (Below.refl _ _)).mono ?_
        rintro en w6 ⟨rfl, hb6⟩
        have BQ6 := Lib.hid hb6
        clear hb6 u0 u1 u2 u3 u4 u5 zl
        obtain ⟨u0, u1, u2, u3, u4, u5, _, _, zl, _⟩ := HZ.out.next BQ6.out
        go_wp2_with fail
        refine (HF2.out _ BQ6.out).mono ?_
        rintro en w7 ⟨rfl, hb7⟩
        have BQ7 := Lib.hid (below3 BQ6.out hb7)
        clear hb7 u0 u1 u2 u3 u4 u5 zl HF1 HF2
        obtain ⟨u0, u1, u2, u3, u4, u5, _, _, zl, _⟩ := HZ.out.next BQ7.out
        have e2' : (S.toList != S.toList) = false := by simp
        have e3' : (V != V) = false := by simp
        by_cases hv : V = 0
        rotate_left
        · have hv' : (V != 0) = true := by simpa using hv
          have BF := Lib.hid (below3 HB1.out BQ7.out)
          go_wp2_with fail
          go_roundw
          case rel => exact ⟨j + 1, by omega, by go_num, BF⟩
          case measure => simp [intOf]; omega
        subst hv
        have HPB := Lib.hid (HPA.out rfl)
        clear HPA
        go_wp2_with fail
        refine (HPB.out _ BQ7.out).mono ?_
        rintro en w8 ⟨rfl, hb8⟩
        have BQ8 := Lib.hid (below3 BQ7.out hb8)
        have HTB := Lib.hid (SC.mk0 (w := w8) (f := f1) (l := l1) (e := e1) (k := k1) (c := 0) (q := 0) 24 (nil_ints w8) (nil_ints w8))
        have HZ9 := Lib.hid ((HZ.out.next BQ8.out).next HTB.out.bl)
        have HB9 := Lib.hid (below3 (below3 HB1.out BQ8.out) HTB.out.bl)
        clear hb8 u0 u1 u2 u3 u4 u5 zl HPB BQ6 BQ7 HZ
        go_upto_region 12 with fail
        generalize (w8.alloc (.cells #[.int .i64 f1, .int .i64 l1, .int .i64 e1, .int .i64 k1, .slice none 0 0, .slice none 0 0] 24)) = w9 at *
        generalize w8.heap.size = bt at *
        obtain ⟨u0, u1, u2, u3, u4, u5, _, _, zl, _⟩ := HZ9.out
        obtain ⟨v0, v1, v2, v3, v4, v5, _, _, vl, _⟩ := HTB.out
        have BE0 := Lib.hid (Below.refl w9.heap.size w9)
        have BE1 := Lib.hid (bel_drew0 w9)
        go_cut [74] (fun s wx => s = .bool false ∧ Below w9.heap.size w9 wx)
        case first =>
          go_region_held3 (fun w' => w'.cell? ⟨bz, 0, none⟩ = some (.int .i64 f1) ∧ w'.cell? ⟨bz, 1, none⟩ = some (.int .i64 l1) ∧ w'.cell? ⟨bz, 2, none⟩ = some (.int .i64 e1) ∧ w'.cell? ⟨bz, 3, none⟩ = some (.int .i64 k1) ∧ w'.cell? ⟨bz, 4, none⟩ = some (.slice a1 n1 c1) ∧ w'.cell? ⟨bz, 5, none⟩ = some (.slice b1 m1 q1) ∧ w'.cell? ⟨bt, 0, none⟩ = some (.int .i64 f1) ∧ w'.cell? ⟨bt, 1, none⟩ = some (.int .i64 l1) ∧ w'.cell? ⟨bt, 2, none⟩ = some (.int .i64 e1) ∧ w'.cell? ⟨bt, 3, none⟩ = some (.int .i64 k1) ∧ w'.cell? ⟨bt, 4, none⟩ = some (.slice none 0 0) ∧ w'.cell? ⟨bt, 5, none⟩ = some (.slice none 0 0)) (first | (with_reducible exact ⟨kk0, kk1, kk2, kk3, kk4, kk5, j0, j1, j2, j3, j4, j5⟩) | (with_reducible exact ⟨u0, u1, u2, u3, u4, u5, v0, v1, v2, v3, v4, v5⟩) | go_keep) ((first
            | (go_at_call 13; refine (rplain_any _ _ _ _ _ _ _ _ _ _ _).mono ?_; rintro e w10 ⟨rfl, hb10⟩; have BQ10 : Below w9.heap.size w9 w10 := (by first | with_reducible exact hb10 | with_reducible exact below3 BE1.out hb10); obtain ⟨kk0, kk1, kk2, kk3, kk4, kk5, _, _, _, _⟩ := HZ9.out.next BQ10; obtain ⟨j0, j1, j2, j3, j4, j5, _, _, _, _⟩ := HTB.out.next BQ10)
            | (go_at_call 12; refine (same_any f1 l1 e1 k1 none 0 0 none 0 0 none 0 none 0 [] [] _ (nil_ints _) (nil_ints _) (nil_ints _) (nil_ints _)).mono ?_; rintro e w11 ⟨rfl, hb11⟩; have BQ11 : Below w9.heap.size w9 w11 := (by first | with_reducible exact below3 BQ10 hb11 | with_reducible exact below3 (below3 BQ10 (bel_drew0 _)) hb11); obtain ⟨kk0, kk1, kk2, kk3, kk4, kk5, _, _, _, _⟩ := HZ9.out.next BQ11; obtain ⟨j0, j1, j2, j3, j4, j5, _, _, _, _⟩ := HTB.out.next BQ11)))
          all_goals (
            go_wp2_with fail
            go_meet
            exact ⟨by simp, by assumption⟩)
        case rest =>
          obtain ⟨rfl, hbz9⟩ := hcut
          have BF := Lib.hid (below3 HB9.out hbz9)
          go_wp2_with fail
          go_roundw
          case rel => exact ⟨j + 1, by omega, by go_num, BF⟩
          case measure => simp [intOf]; omega
      · obtain rfl : j = 2 := by omega
        have BE : Hid (Below w.heap.size w wr) := Lib.hid (below3 HBX.out HB.out)
        go_wp2_with (first | (go_at_call 6; refine (awake_any _ (HT.out.below BE.out)).mono ?_) | fail)
        rintro en w6 ⟨rfl, hb⟩
        go_wp2_with fail
        go_ret
        exact ⟨rfl, below3 BE.out hb⟩

end Go.Proofs.YtibigbfkokendaaGreatDoor
