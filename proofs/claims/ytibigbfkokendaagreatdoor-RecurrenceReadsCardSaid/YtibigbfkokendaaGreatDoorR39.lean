/- RecurrenceReads, walked: what any text is read as, also the text of a rule with a changed byte, for any first day. -/
import Derived.Test.YtibigbfkokendaaGreatDoorRX
import Derived.Test.YtibigbfkokendaaGreatDoorR36
import Derived.Test.YtibigbfkokendaaGreatDoorR38
import Derived.Deep.RegionHeld3
import Derived.Deep.DeepCutAuto
namespace Go.Proofs.YtibigbfkokendaaGreatDoor
open Go.RowKit Go.Maps TT

theorem bel_set {B : Nat} {w W : World} (h : Below B w W) (b i : Nat) (u : Value) (hb : B ≤ b) : Below B w (W.setCell ⟨b, i, none⟩ u) :=
  ⟨h.os, h.tape, h.output, by simpa using h.size, fun q hq => (heap_setCell_other _ _ _ _ (by show q ≠ b; omega)).trans (h.block q hq)⟩
/-- four texts in a row -/
theorem four_texts (w : World) (x0 x1 x2 x3 : ByteArray) (t : TypeId) (h0 : x0.size ≤ 5000) (h1 : x1.size ≤ 5000) (h2 : x2.size ≤ 5000) (h3 : x3.size ≤ 5000) : ∀ j, j < 4 → ∃ x : ByteArray, x.size ≤ 5000 ∧ (w.alloc (.cells #[.string x0, .string x1, .string x2, .string x3] t)).cell? ⟨w.heap.size, j, none⟩ = some (.string x) := by
  intro j hj
  match j, hj with
  | 0, _ => exact ⟨x0, h0, by simp⟩
  | 1, _ => exact ⟨x1, h1, by simp⟩
  | 2, _ => exact ⟨x2, h2, by simp⟩
  | 3, _ => exact ⟨x3, h3, by simp⟩
theorem three_ints (w : World) (x0 x1 x2 : Int) (t : TypeId) : ∀ j, j < 3 → ∃ v, (w.alloc (.cells #[.int .i64 x0, .int .i64 x1, .int .i64 x2] t)).cell? ⟨w.heap.size, j, none⟩ = some (.int .i64 v) := fun _j hj => pick3 w x0 x1 x2 t hj
theorem size_list (x : ByteArray) : x.data.toList.length = x.size := Array.length_toList

set_option maxRecDepth 100000 in
set_option maxHeartbeats 4000000 in
theorem law_reads (t : ByteArray) (a : Option Addr) (n c : Nat) (L : List Int) (q r v : Int) (w : World) (ht : t.size ≤ 9223372036854775807)
    (q0 : -9223372036854775808 ≤ q) (q1' : q ≤ 9223372036854775807) (r0' : -9223372036854775808 ≤ r) (r1' : r ≤ 9223372036854775807) (v0 : 0 ≤ v) (v1 : v ≤ 255)
    (hI : IntsAt w a n L) (hL : ∀ x ∈ L, -9223372036854775808 ≤ x ∧ x ≤ 9223372036854775807) (hT : Tbs w) :
    Calls Tryz.prog 4 #[.string t, .slice a n c, .int .i64 q, .int .i64 r, .int .u8 v] w (RetB (.bool true) w) := by
  have HT := Lib.hid hT
  clear hT
  by_cases hn4 : n ≤ 400
  rotate_left
  · have hd : decide (n ≤ 400) = false := by simpa using hn4
    clear hI hL
    go_enter Tryz.func4, Tryz.ntmps4
    go_wp2_with (first | (go_at_call 5; refine (light_any _ _ _ _).mono ?_; rw [hd]; rintro e w' ⟨rfl, rfl⟩) | (go_at_call 6; refine (awake_any _ HT.out).mono ?_; rintro e w' ⟨rfl, hb⟩))
    go_ret
    exact ⟨rfl, hb⟩
  have hd : decide (n ≤ 400) = true := by simpa using hn4
  by_cases hn5 : t.size ≤ 300
  rotate_left
  · clear hI hL
    go_enter Tryz.func4, Tryz.ntmps4
    go_wp2_with (first | (go_at_call 5; refine (light_any _ _ _ _).mono ?_; rw [hd]; rintro e w' ⟨rfl, rfl⟩) | (go_at_call 6; refine (awake_any _ HT.out).mono ?_; rintro e w' ⟨rfl, hb⟩))
    go_ret
    exact ⟨rfl, hb⟩
  have HRL := Lib.hid (roll_dice (c := c) w hI hn4 hL)
  have x0 := Int.emod_nonneg q (show (300 : Int) ≠ 0 by decide)
  have x1 := Int.emod_lt_of_pos q (show (0 : Int) < 300 by decide)
  have HM : Hid (∀ W, Calls Tryz.prog 15 #[.int .i64 q, .int .i64 300] W (RetS (.int .i64 (q % 300)) W)) := Lib.hid (fun W => mod_any q 300 q0 q1' (by decide) (by decide) W)
  generalize q % 300 = x9 at *
  clear hI hL hn4
  have hcv := fun w s => run_bytes_of_string (P := Tryz.prog) w 9 39 5 s Tryz.underlying9 Tryz.underlying39 Tryz.underlying5
  go_enter Tryz.func4, Tryz.ntmps4
  go_wp2_with (first | (go_at_call 5; refine (light_any _ _ _ _).mono ?_; rw [hd]; rintro e w' ⟨rfl, rfl⟩) | fail)
  refine HRL.out.mono ?_
  rintro en w1 ⟨p, rfl, hd1, hb1, hp1⟩
  go_wp2_with fail
  refine (mseries_any p w1 hd1).mono ?_
  rintro en w2 ⟨f1, l1, e1, k1, a1, n1, c1, b1, m1, q1, xs1, ys1, rfl, hx2, hy2, hs2, f1a, f1b, _, _, hb2, _⟩
  have HB2 := Lib.hid (But.below hb1 hb2 hp1 hb1.size)
  have HZ := Lib.hid (SC.mk0 (w := w2) (f := f1) (l := l1) (e := e1) (k := k1) (c := c1) (q := q1) 24 hx2 hy2)
  have HB3 := Lib.hid (below3 HB2.out HZ.out.bl)
  have HF := Lib.hid (rformat_any f1 l1 e1 k1 a1 n1 c1 b1 m1 q1 xs1 ys1 _ HZ.out.xa HZ.out.ya (by omega))
  have hlen := fmt_len f1 l1 e1 k1 xs1 ys1
  clear hx2 hy2 hs2 hb2 hb1 hd1 hp1 HRL HB2
  go_wp2_with fail
  generalize (w2.alloc (.cells #[.int .i64 f1, .int .i64 l1, .int .i64 e1, .int .i64 k1, .slice a1 n1 c1, .slice b1 m1 q1] 24)) = w3 at *
  generalize w2.heap.size = bz at *
  obtain ⟨u0, u1, u2, u3, u4, u5, _, _, zl, _⟩ := HZ.out
  go_wp2_with fail
  refine HF.out.mono ?_
  rintro en w4 ⟨rfl, hb4⟩
  have HZ4 := Lib.hid (HZ.out.next hb4)
  have HB4 := Lib.hid (below3 HB3.out hb4)
  have hsz : (arr (fmtL f1 l1 e1 k1 xs1 ys1)).size ≤ 65 := by rw [arr_size]; exact hlen
  clear hb4 HF HB3 HZ hlen u0 u1 u2 u3 u4 u5 zl
  generalize arr (fmtL f1 l1 e1 k1 xs1 ys1) = so at *
  generalize vlE f1 l1 e1 k1 xs1 ys1 = V at *
  have HMR := Lib.hid (mrow_bytes so w4 (by omega))
  have hge := grownCap_ge w4 so.size 0 5
  have hcm := grownCap_le_maxLen w4 so.size 0 5 (by unfold maxLen; omega)
  unfold maxLen at hcm
  have HBB : Hid (Below w4.heap.size w4 ((w4.alloc (.cells (bytesRow so (grownCap w4 so.size 0 5)) 5 ((bytesRow so (grownCap w4 so.size 0 5)).size, (bytesRow so (grownCap w4 so.size 0 5)).size + 1))).drew)) := Lib.hid ((fun h => ⟨h.os, h.tape, h.output, h.size, h.block⟩ : ∀ {W : World}, Below w4.heap.size w4 W → Below w4.heap.size w4 W.drew) ((Below.refl _ _).alloc (Nat.le_refl _) _))
  go_upto_if 44 with fail
  go_cut [14] (fun s14 wx => s14 = .slice (some ⟨w4.heap.size, 0, none⟩) so.size (grownCap w4 so.size 0 5) ∧ Below w4.heap.size w4 wx ∧ MRow wx w4.heap.size so.size (grownCap w4 so.size 0 5))
  case first =>
    by_cases hs0 : 0 < so.size
    · have m0 := Int.emod_nonneg r (show (so.size : Int) ≠ 0 by omega)
      have m1 := Int.emod_lt_of_pos r (show (0 : Int) < (so.size : Int) by omega)
      have MD := Lib.hid (fun W => mod_any r (so.size : Int) r0' r1' (by omega) (by omega) W)
      obtain ⟨rn, hr⟩ := Int.eq_ofNat_of_zero_le m0
      rw [hr] at MD m0 m1
      obtain ⟨sp1, sp2⟩ := HMR.out.sp rn (by omega)
      obtain ⟨u0, hu0⟩ := Option.isSome_iff_exists.1 sp1
      have rn2 : rn < so.size := by omega
      clear hr sp1
      go_wp2_with fail
      refine (MD.out _).mono ?_
      rintro e5 w5 ⟨rfl, rfl⟩
      go_wp2_with fail
      have HBW := bel_set HBB.out w4.heap.size rn (.int .u8 v) (Nat.le_refl _)
      have HM1 := HMR.out.sets rn [.int .u8 v] (fun x hx => ⟨UInt8.ofNat v.toNat, by rw [List.mem_singleton.1 hx, UInt8.toNat_ofNat']; congr 1; omega⟩) (by simp; omega) so.size hge (Or.inl (Nat.le_refl _))
      have hset : ∀ (X : World) (g r : Nat) (y : Value), X.setCells g r [y] = X.setCell ⟨g, r, none⟩ y := fun _ _ _ _ => rfl
      rw [hset] at HM1
      go_meet
      exact ⟨rfl, HBW, HM1⟩
    · have hs00 : so.size = 0 := by omega
      go_wp2_with fail
      go_meet
      exact ⟨rfl, HBB.out, HMR.out⟩
  case rest =>
    obtain ⟨rfl, hbx, hmr⟩ := hcut
    obtain ⟨w6, rfl⟩ : ∃ w6 : World, w6 = wc := ⟨_, rfl⟩
    have HZ6 := Lib.hid (HZ4.out.next hbx)
    have HB6 := Lib.hid (below3 HB4.out hbx)
    obtain ⟨l, hl, hcv2⟩ := mrow_string hmr
    have hal : (arr l).size = so.size := by rw [arr_size]; exact hl
    clear hbx hmr HZ4 HB4 HMR HBB hge hcm hcv hl
    generalize arr l = bs at *
    generalize grownCap w4 so.size 0 5 = cp at *
    generalize w4.heap.size = g4 at *
    have hsz2 : ¬ 9223372036854775807 < so.size + t.size := by omega
    have hbl : Below w6.heap.size w6 (w6.alloc (.cells #[.string t, .string so, .string bs, .string (so ++ t)] 9)) := (Below.refl _ _).alloc (Nat.le_refl _) _
    have HX4 := Lib.hid (four_texts w6 t so bs (so ++ t) 9 (by omega) (by omega) (by omega) (by rw [ByteArray.size_append]; omega))
    have HZ7 := Lib.hid (HZ6.out.next hbl)
    have HB7 := Lib.hid (below3 HB6.out hbl)
    have hg7 : w6.heap.size < (w6.alloc (.cells #[.string t, .string so, .string bs, .string (so ++ t)] 9)).heap.size := by simp
    clear hbl HZ6 HB6
    go_wp2_with fail
    generalize (w6.alloc (.cells #[.string t, .string so, .string bs, .string (so ++ t)] 9)) = w7 at *
    generalize w6.heap.size = g7 at *
    have hN9 := Lib.hid (And.intro f1a f1b)
    go_loopw [61] (fun i wr => ∃ k : Nat, k ≤ 4 ∧ i = .int .i64 k ∧ Hid (Below w7.heap.size w7 wr)) (fun i _ => 4 - (intOf i).toNat)
    case atStart => exact ⟨0, by omega, rfl, Lib.hid (Below.refl _ _)⟩
    case round =>
      obtain ⟨k, hk, rfl, HB⟩ := hrel
      by_cases hlt : k < 4
      · obtain ⟨x, hx5, hxc⟩ := HX4.out k hlt
        have hxr : wr.cell? ⟨g7, k, none⟩ = some (.string x) := (HB.out.cell (p := ⟨g7, k, none⟩) hg7).trans hxc
        have HZ8 := Lib.hid (HZ7.out.next HB.out)
        have HB8 := Lib.hid (below3 HB7.out HB.out)
        obtain ⟨u0, _, _, _, _, _, _, _, zl, _⟩ := HZ8.out
        have z1 : IntKind.i64.wrap (f1 + x9) = f1 + x9 := IntWalk.i64_in _ (by omega)
        have z2 : IntKind.i64.wrap (f1 + x9 - 150) = f1 + x9 - 150 := IntWalk.i64_in _ (by omega)
        clear hxc
        go_upto_region 11 with fail
        obtain ⟨wo, rfl⟩ : ∃ wo : World, wo = wr := ⟨_, rfl⟩
        go_cut [74, 75, 76] (fun s74 s75 s76 wx => ∃ g3, s74 = .slice (some ⟨g3, 0, none⟩) 3 3 ∧ s75 = .int .i64 3 ∧ s76 = .int .i64 0 ∧ Below wo.heap.size wo wx ∧ ∀ j, j < 3 → ∃ y, wx.cell? ⟨g3, j, none⟩ = some (.int .i64 y))
        case first =>
          go_region_held3 (fun w' => w'.cell? ⟨bz, 0, none⟩ = some (.int .i64 f1)) (first | (with_reducible exact u0) | go_keep) ((go_at_call 15; refine (HM.out _).mono ?_; rintro e9 w9 ⟨rfl, rfl⟩))
          all_goals (
            go_wp2_with fail
            go_meet
            exact ⟨_, rfl, rfl, rfl, (by first | exact (Below.refl _ _).alloc (Nat.le_refl _) _ | exact (bel_drew0 _).alloc (Nat.le_refl _) _ | exact (below_drewN _ _).alloc (Nat.le_refl _) _), three_ints _ _ _ _ _⟩)
        case rest =>
          obtain ⟨g3, rfl, rfl, rfl, hb3, h3⟩ := hcut
          obtain ⟨w8, rfl⟩ : ∃ w8 : World, w8 = wc := ⟨_, rfl⟩
          have H3 := Lib.hid h3
          have hg3 : g3 < w8.heap.size := by obtain ⟨y, hy⟩ := h3 0 (by omega); exact lt_of_cell hy
          have HB9 := Lib.hid (below3 HB.out hb3)
          have HTX := Lib.hid (HT.out.below (below3 HB8.out hb3))
          clear hb3 h3 u0 zl z1 z2 hxr HZ8 HB8
          go_wp2_with fail
          go_loopw [76] (fun i wr => ∃ j : Nat, j ≤ 3 ∧ i = .int .i64 j ∧ Hid (Below w8.heap.size w8 wr)) (fun i _ => 3 - (intOf i).toNat)
          case atStart => exact ⟨0, by omega, rfl, Lib.hid (Below.refl _ _)⟩
          case round =>
            obtain ⟨j, hj, rfl, HQ⟩ := hrel
            by_cases hlj : j < 3
            · obtain ⟨kv, hkv⟩ := H3.out j hlj
              have hkr : wr.cell? ⟨g3, j, none⟩ = some (.int .i64 kv) := (HQ.out.cell (p := ⟨g3, j, none⟩) hg3).trans hkv
              have PA := parse_any kv x.data.toList (by rw [size_list]; omega) wr (HTX.out.below HQ.out)
              have RP := fun W => rparse_any kv x.data.toList (by rw [size_list]; omega) W
              rw [arr_of] at PA RP
              unfold ParP at PA RP
              clear hkv
              generalize parP kv x.data.toList = pp at *
              obtain ⟨F, La, E, Kk, er⟩ := pp
              have PA := Lib.hid PA
              have RP := Lib.hid RP
              have e3' : (er != er) = false := by simp
              go_wp2_with fail
              refine PA.out.mono ?_
              rintro en w9 ⟨rfl, hb9⟩
              have S1 := Lib.hid (SC.mk0 (w := w9) (f := F) (l := La) (e := E) (k := Kk) (c := 0) (q := 0) 24 (nil_ints w9) (nil_ints w9))
              have BQ := Lib.hid (below3 (below3 HQ.out hb9) S1.out.bl)
              clear hb9 hkr PA
              go_wp2_with fail
              generalize (w9.alloc (.cells #[.int .i64 F, .int .i64 La, .int .i64 E, .int .i64 Kk, .slice none 0 0, .slice none 0 0] 24)) = w9' at *
              generalize w9.heap.size = bt1 at *
              refine (RP.out _).mono ?_
              rintro en w10 ⟨rfl, hb10⟩
              have S2 := Lib.hid (SC.mk0 (w := w10) (f := F) (l := La) (e := E) (k := Kk) (c := 0) (q := 0) 24 (nil_ints w10) (nil_ints w10))
              have S1' := Lib.hid ((S1.out.next hb10).next S2.out.bl)
              have BQ2 := Lib.hid (below3 (below3 BQ.out hb10) S2.out.bl)
              clear hb10 RP S1 BQ
              have HS := Lib.hid (fun W => same_any F La E Kk none 0 0 none 0 0 none 0 none 0 [] [] W (nil_ints _) (nil_ints _) (nil_ints _) (nil_ints _))
              obtain ⟨y0, y1, y2, y3, y4, y5, _, _, yl, _⟩ := S1'.out
              obtain ⟨v0', v1', v2', v3', v4', v5', _, _, vl, _⟩ := S2.out
              go_upto_region 16 with fail
              go_wp2_with fail
              refine (HS.out _).mono ?_
              rintro en w11 ⟨rfl, hb11⟩
              have BF := Lib.hid (below3 BQ2.out hb11)
              clear hb11
              go_wp2_with fail
              go_roundw
              case rel => exact ⟨j + 1, by omega, by go_num, BF⟩
              case measure => simp [intOf]; omega
            · obtain rfl : j = 3 := by omega
              have BF := Lib.hid (below3 HB9.out HQ.out)
              go_wp2_with fail
              go_roundw
              case rel => exact ⟨k + 1, by omega, by go_num, BF⟩
              case measure => simp [intOf]; omega
      · obtain rfl : k = 4 := by omega
        have BE : Hid (Below w.heap.size w wr) := Lib.hid (below3 HB7.out HB.out)
        go_wp2_with (first | (go_at_call 6; refine (awake_any _ (HT.out.below BE.out)).mono ?_) | fail)
        rintro en w12 ⟨rfl, hb⟩
        go_wp2_with fail
        go_ret
        exact ⟨rfl, below3 BE.out hb⟩

end Go.Proofs.YtibigbfkokendaaGreatDoor
