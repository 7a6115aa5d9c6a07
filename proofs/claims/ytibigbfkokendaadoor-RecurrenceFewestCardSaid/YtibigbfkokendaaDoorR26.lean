/- RecurrenceFewest, walked: no other series of the same days has fewer exceptions. -/
import Derived.Test.YtibigbfkokendaaDoorR24
import Derived.Test.YtibigbfkokendaaDoorP4
import Derived.Deep.RegionHeld3
namespace Go.Proofs.YtibigbfkokendaaDoor
open Go.RowKit TT

theorem daysO_ok {f l e k : Int} {xs ys : List Int} (h : vlE f l e k xs ys = 0) : daysO f l e k xs ys = daysS f l e k xs ys := by unfold daysO; rw [if_pos h]
theorem daysS_len {f l e k : Int} {xs ys : List Int} (h : l ≤ f + 140) : (daysS f l e k xs ys).length ≤ 141 := by
  have := filter_len (dayP f l e k xs ys) f (l - f + 1).toNat
  unfold daysS dayR; omega
theorem sum_le {a b n : Nat} (h : a + b ≤ n) : (a : Int) + b ≤ n := by omega
set_option maxRecDepth 100000 in
set_option maxHeartbeats 4000000 in
theorem law_fewest (a : Option Addr) (n c : Nat) (T : List Int) (q1 q2 : Int) (b1 : -9223372036854775808 ≤ q1) (b2 : q1 ≤ 9223372036854775807) (b3 : -9223372036854775808 ≤ q2) (b4 : q2 ≤ 9223372036854775807) (w : World) (hI : IntsAt w a n T) (hL : ∀ x ∈ T, -9223372036854775808 ≤ x ∧ x ≤ 9223372036854775807) (hT : Tbs w) :
    Calls Tryd.prog 5 #[.slice a n c, .int .i64 q1, .int .i64 q2] w (RetB (.bool true) w) := by
  have HT := Lib.hid hT
  clear hT
  by_cases hn : n ≤ 400
  rotate_left
  · have hd : decide (n ≤ 400) = false := by simpa using hn
    clear hI hL hn
    go_enter Tryd.func5, Tryd.ntmps5
    go_wp2_with (first
      | (go_at_call 7; refine (light_any _ _ _ _).mono ?_; rw [hd]; rintro e w' ⟨rfl, rfl⟩)
      | (go_at_call 8; refine (awake_any _ HT.out).mono ?_; rintro e w' ⟨rfl, hb⟩))
    go_ret
    exact ⟨rfl, hb⟩
  have hd : decide (n ≤ 400) = true := by simpa using hn
  have HD0 := Lib.hid (DiceAt.mk0 c 50 hI hn hL)
  clear hI hL hn
  go_enter Tryd.func5, Tryd.ntmps5
  go_wp2_with (first
    | (go_at_call 7; refine (light_any _ _ _ _).mono ?_; rw [hd]; rintro e w' ⟨rfl, rfl⟩)
    | (go_at_call 10; refine (roll_any _ _ _ _).mono ?_; rintro e w' ⟨rfl, rfl⟩)
    | (go_at_call 9; refine (madeL _ _ HD0.out).mono ?_)
    | fail)
  rintro en w1 ⟨la, lc, f, L, m, hm, rfl, hi, hl, f1, f2, hb1⟩
  have HI := Lib.hid hi
  have HB := Lib.hid hb1
  have HM := Lib.hid hm
  have hmax := hi.le
  have hz := Lib.hid (fun h0 => made_ofE hl f1 f2 h0)
  have m141 : m ≤ 141 := by rw [hm]; exact hl.len
  clear hi hb1 hm HD0 hd hl f1 f2
  by_cases h0 : m = 0
  · subst h0
    clear hz HM HI
    go_wp2_with (go_at_call 8; refine (awake_any _ (HT.out.below HB.out)).mono ?_; rintro e w' ⟨rfl, hb⟩)
    go_ret
    exact ⟨rfl, HB.out.trans (hb.mono HB.out.size)⟩
  have hne : ¬ ((m : Int) = 0) := by omega
  go_wp2_with fail
  refine (of_any L la m lc _ HI.out).mono ?_
  rintro en w2 ⟨sa, sc, sb, sq, rfl, hx, hy, hb2⟩
  have hE : ofE L = 0 := hz.out (by rw [← HM.out]; exact h0)
  have hfw := Lib.hid (fun (e k : Int) (h1 : 1 ≤ e) (h2 : e ≤ 4) => fewest (k := k) hE h1 h2)
  obtain ⟨_, hinc, hok, hl140⟩ := ofE_inv hE
  obtain ⟨mf, ml⟩ := mem_fst (L := L) (by rw [← HM.out]; exact h0)
  have okf := hok _ mf
  have okl := hok _ ml
  have hfl := (inc_bounds hinc mf).2
  rw [hE]
  have HINC := Lib.hid hinc
  have HI2 := HI.out.below hb2
  have HB2 := HB.out.trans (hb2.mono HB.out.size)
  have HS := SC.mk0 (w := w2) (f := ofF L) (l := ofL L) (e := ofEv L) (k := ofK L) (c := sc) (q := sq) 30 hx hy
  have HI3 := Lib.hid (HI2.below HS.bl)
  have HB3 := Lib.hid (HB2.trans (HS.bl.mono HB2.size))
  have HS := Lib.hid HS
  obtain ⟨lb, lo, rfl, hlb, hlc⟩ := HI3.out.cell (j := 0) (by omega)
  have r0 : (w2.alloc (.cells #[.int .i64 (ofF L), .int .i64 (ofL L), .int .i64 (ofEv L), .int .i64 (ofK L), .slice sa (ofX L).length sc, .slice sb (ofY L).length sq] 30)).cell? ⟨lb, lo, none⟩ = some (.int .i64 (fstD L)) := by
    simp [fstD]
  have r1 : (w2.alloc (.cells #[.int .i64 (ofF L), .int .i64 (ofL L), .int .i64 (ofEv L), .int .i64 (ofK L), .slice sa (ofX L).length sc, .slice sb (ofY L).length sq] 30)).cell? ⟨lb, lo + (m - 1), none⟩ = some (.int .i64 (lstD L)) := by
    have := hlc (m - 1) (by omega); rw [this]; unfold lstD; rw [← HM.out]
  obtain ⟨lbd1, lbd2⟩ := okDay_of okf
  obtain ⟨lbd3, lbd4⟩ := okDay_of okl
  have p0 := Int.emod_nonneg q1 (show (4 : Int) ≠ 0 by omega)
  have p1 := Int.emod_lt_of_pos q1 (show (0 : Int) < 4 by omega)
  have p2 := Int.emod_nonneg q2 (show (128 : Int) ≠ 0 by omega)
  have p3 := Int.emod_lt_of_pos q2 (show (0 : Int) < 128 by omega)
  have hvt := Lib.hid (bare_valid (e := 1 + q1 % 4) (k := q2 % 128) okf okl hfl hl140 (by omega) (by omega) p2 (by omega))
  have hfw2 := Lib.hid (hfw.out (1 + q1 % 4) (q2 % 128) (by omega) (by omega))
  clear hfw hx hy hb2 HI2 HB2 hz hE hok mf ml okf okl hinc HI HB hfl
  generalize ofF L = gf at *
  generalize ofL L = gl at *
  generalize ofEv L = ge at *
  generalize ofK L = gk at *
  generalize ofX L = gx at *
  generalize ofY L = gy at *
  generalize fstD L = ff at *
  generalize lstD L = ll at *
  generalize hgn : gx.length = gn at *
  generalize hgm : gy.length = gm at *
  have hgn := Lib.hid hgn
  have hgm := Lib.hid hgm
  clear hgn hgm
  go_wp2_with fail
  have r1' : (w2.alloc (.cells #[.int .i64 gf, .int .i64 gl, .int .i64 ge, .int .i64 gk, .slice sa gn sc, .slice sb gm sq] 30)).cell? ⟨lb, lo + ((m : Int) - 1).toNat, none⟩ = some (.int .i64 ll) := by rw [show ((m : Int) - 1).toNat = m - 1 by omega]; exact r1
  have HB4 := Lib.hid HB3.out
  generalize hw3 : w2.alloc (.cells #[.int .i64 gf, .int .i64 gl, .int .i64 ge, .int .i64 gk, .slice sa gn sc, .slice sb gm sq] 30) = w3 at *
  have HW3 := Lib.hid hw3
  clear hw3 hlc
  have M1 := Lib.hid (fun w9 => mod_any q1 4 b1 b2 (by omega) (by omega) w9)
  have M2 := Lib.hid (fun w9 => mod_any q2 128 b3 b4 (by omega) (by omega) w9)
  have z1 : 0 < m := by omega
  have z2 : 1 ≤ m := by omega
  have z3 : (1 : Int) ≤ m := by omega
  have y1 : IntKind.i64.wrap ((m : Int) - 1) = (m : Int) - 1 := IntWalk.i64_in _ (by omega)
  have y3 : (0 : Int) ≤ (m : Int) - 1 := by omega
  have y4 : (m : Int) - 1 < m := by omega
  have y5 : (0 : Int) < m := by omega
  have y7 : ((m : Int) - 1).toNat = m - 1 := by omega
  have y6 : IntKind.i64.wrap (1 + q1 % 4) = 1 + q1 % 4 := IntWalk.i64_in _ (by omega)
  have r0d : w3.drew.cell? ⟨lb, lo, none⟩ = some (.int .i64 ff) := r0
  have r1d : w3.drew.cell? ⟨lb, lo + (m - 1), none⟩ = some (.int .i64 ll) := r1
  have r0a : ∀ o, (w3.drew.alloc o).cell? ⟨lb, lo, none⟩ = some (.int .i64 ff) := fun o => by rw [World.cell?_alloc_past _ _ _ (show lb < w3.drew.heap.size from hlb)]; exact r0d
  have r1a : ∀ o, (w3.drew.alloc o).cell? ⟨lb, lo + (m - 1), none⟩ = some (.int .i64 ll) := fun o => by rw [World.cell?_alloc_past _ _ _ (show lb < w3.drew.heap.size from hlb)]; exact r1d
  clear r1'
  go_region_held3 (fun w' => w'.cell? ⟨lb, lo, none⟩ = some (.int .i64 ff) ∧ w'.cell? ⟨lb, lo + (m - 1), none⟩ = some (.int .i64 ll)) (first | (with_reducible exact ⟨r0d, r1d⟩) | (with_reducible exact ⟨r0a _, r1a _⟩) | go_keep) ((go_at_call 17; refine (mod_any _ _ (by first | exact b1 | exact b3) (by first | exact b2 | exact b4) (by decide) (by decide) _).mono ?_; rintro en w9 ⟨rfl, rfl⟩))
  -- REST
  all_goals (
    clear r0 r1 r0d r1d r0a r1a y1 y3 y4 y5 y6 y7 z1 z2 z3 M1 M2
    have HT5 := (SC.mk0 (w := w3) (f := ff) (l := ll) (e := 1 + q1 % 4) (k := q2 % 128) (a := none) (n := 0) (c := 0) (b := none) (m := 0) (q := 0) (xs := []) (ys := []) 30 ⟨rfl, by omega, Or.inl rfl⟩ ⟨rfl, by omega, Or.inl rfl⟩).next (Below.refl _ _).drew
    have HS5 := HS.out.next HT5.bl
    have HI5 := HI3.out.below HT5.bl
    have HB5 := HB4.out.trans (HT5.bl.mono HB4.out.size)
    generalize (w3.alloc (.cells #[.int .i64 ff, .int .i64 ll, .int .i64 (1 + q1 % 4), .int .i64 (q2 % 128), .slice none 0 0, .slice none 0 0] 30)).drew = w5 at *
    generalize 1 + q1 % 4 = te at *
    generalize q2 % 128 = tk at *
    have HT5 := Lib.hid HT5
    have HS5 := Lib.hid HS5
    have HI5 := Lib.hid HI5
    have HB5 := Lib.hid HB5
    clear HI3 HB3 HB4 HS HW3
    obtain ⟨c0, c1, c2, c3, c4, c5, _, _, sz, _⟩ := HT5.out
    have hD := Lib.hid (days_any ff ll te tk none 0 0 none 0 0 [] [] w5 HT5.out.xa HT5.out.ya (by omega))
    unfold DaysP at hD
    rw [daysO_ok hvt.out] at hD
    have HMI := Lib.hid (inc_daysS ff ll te tk [] [])
    have HM141 := Lib.hid (daysS_len (f := ff) (l := ll) (e := te) (k := tk) (xs := []) (ys := []) hl140)
    generalize daysS ff ll te tk [] [] = M at *
    go_wp2_with fail
    refine hD.out.mono ?_
    rintro en w6 ⟨v7, rfl, hr, hb6⟩
    obtain ⟨a7, c7, rfl, hi7⟩ := Row.ints hr
    have HS6 := Lib.hid (HS5.out.next hb6)
    have HT6 := Lib.hid (HT5.out.next hb6)
    have HI6 := Lib.hid (HI5.out.below hb6)
    have HB6 := Lib.hid (HB5.out.trans (hb6.mono HB5.out.size))
    have HJ6 := Lib.hid hi7
    clear hr hb6 hi7 HS5 HT5 HI5 HB5 hD c0 c1 c2 c3 c4 c5 sz
    generalize hmm : M.length = mm at *
    have HMM := Lib.hid hmm
    have mm141 := HM141.out
    clear hmm
    go_wp2_with fail
    go_loopw [12, 13, 14] (fun u x y wr => ∃ n i k : Nat, u = .int .i64 n ∧ x = .int .i64 i ∧ y = .int .i64 k ∧ i ≤ m ∧ k ≤ mm ∧ Hid (MG L M i k n) ∧ Hid (Below w6.heap.size w6 wr)) (fun _ x y _ => (m - (intOf x).toNat) + (mm - (intOf y).toNat))
    case atStart => exact ⟨0, 0, 0, rfl, rfl, rfl, by omega, by omega, Lib.hid (MG.start L M), Lib.hid (Below.refl _ _)⟩
    case round =>
      obtain ⟨n, i, k, rfl, rfl, rfl, hi, hk, HG, HB⟩ := hrel
      have hn := HG.out.hn
      by_cases him : i < m
      · by_cases hkm : k < mm
        · have HIr := Lib.hid (HI6.out.below HB.out)
          have HJr := Lib.hid (HJ6.out.below HB.out)
          obtain ⟨jb, jo, rfl, hjb, hjc⟩ := HJr.out.cell (j := k) (by omega)
          have hjc2 := hjc k hkm
          obtain ⟨_, _, h3⟩ := HIr.out
          have hic : wr.cell? ⟨lb, lo + i, none⟩ = some (.int .i64 (L.getD i 0)) := by
            rcases h3 with h3 | ⟨b', o', e', h3⟩
            · omega
            · cases e'; exact h3 i him
          clear hjc h3
          rcases Int.lt_trichotomy (L.getD i 0) (M.getD k 0) with hx | hx | hx
          · have HG2 := Lib.hid (HG.out.lt HINC.out HMI.out (by rw [← HM.out]; exact him) (by rw [HMM.out]; exact hkm) hx)
            generalize L.getD i 0 = u at *
            generalize M.getD k 0 = v at *
            have eK : ((k : Int) == (mm : Int)) = false := by simp; omega
            have dK : decide ((k : Int) = (mm : Int)) = false := by simp; omega
            have gK : (k : Int) < (mm : Int) := by omega
            have tK : (0 : Int) ≤ (k : Int) := by omega
            have eI : ((i : Int) == (m : Int)) = false := by simp; omega
            have dI : decide ((i : Int) = (m : Int)) = false := by simp; omega
            have gI : (i : Int) < (m : Int) := by omega
            have tI : (0 : Int) ≤ (i : Int) := by omega
            have bI : decide ((i : Int) < (m : Int)) = true := by simp; omega
            have dU : decide (u < v) = true := by simpa using hx
            have dV : decide (v < u) = false := by simp; omega
            go_wp2_with fail
            go_quiet (fail)
            go_wp2_with fail
            refine ⟨?_, ?measure⟩
            first
              | ((repeat apply Exists.intro); refine ⟨?rel, rfl⟩)
              | ((iterate 10 (apply Exists.intro)); (repeat apply Exists.intro); refine ⟨?rel, rfl⟩)
              | ((iterate 25 (apply Exists.intro)); (repeat apply Exists.intro); refine ⟨?rel, rfl⟩)
              | ((iterate 40 (apply Exists.intro)); (repeat apply Exists.intro); refine ⟨?rel, rfl⟩)
              | refine ?rel
            case rel => exact ⟨n + 1, i + 1, k, int_eq (by omega), int_eq (by omega), int_eq (by omega), by omega, by omega, HG2, Lib.hid (HB.out.trans ((below_drewN wr _).mono HB.out.size))⟩
            case measure => simp [intOf]; omega
          · have HG2 := Lib.hid (HG.out.eq HINC.out HMI.out (by rw [← HM.out]; exact him) (by rw [HMM.out]; exact hkm) hx.symm)
            rw [← hx] at hjc2
            generalize L.getD i 0 = u at *
            have eK : ((k : Int) == (mm : Int)) = false := by simp; omega
            have dK : decide ((k : Int) = (mm : Int)) = false := by simp; omega
            have gK : (k : Int) < (mm : Int) := by omega
            have tK : (0 : Int) ≤ (k : Int) := by omega
            have eI : ((i : Int) == (m : Int)) = false := by simp; omega
            have dI : decide ((i : Int) = (m : Int)) = false := by simp; omega
            have gI : (i : Int) < (m : Int) := by omega
            have tI : (0 : Int) ≤ (i : Int) := by omega
            have bI : decide ((i : Int) < (m : Int)) = true := by simp; omega
            have dU : decide (u < u) = false := by simp
            go_wp2_with fail
            go_quiet (fail)
            go_wp2_with fail
            go_quiet (fail)
            go_wp2_with fail
            refine ⟨?_, ?measure⟩
            first
              | ((repeat apply Exists.intro); refine ⟨?rel, rfl⟩)
              | ((iterate 10 (apply Exists.intro)); (repeat apply Exists.intro); refine ⟨?rel, rfl⟩)
              | ((iterate 25 (apply Exists.intro)); (repeat apply Exists.intro); refine ⟨?rel, rfl⟩)
              | ((iterate 40 (apply Exists.intro)); (repeat apply Exists.intro); refine ⟨?rel, rfl⟩)
              | refine ?rel
            case rel => exact ⟨n, i + 1, k + 1, int_eq (by omega), int_eq (by omega), int_eq (by omega), by omega, by omega, HG2, Lib.hid (HB.out.trans ((below_drewN wr _).mono HB.out.size))⟩
            case measure => simp [intOf]; omega
          · have HG2 := Lib.hid (HG.out.gt HINC.out HMI.out (by rw [← HM.out]; exact him) (by rw [HMM.out]; exact hkm) hx)
            generalize L.getD i 0 = u at *
            generalize M.getD k 0 = v at *
            have eK : ((k : Int) == (mm : Int)) = false := by simp; omega
            have dK : decide ((k : Int) = (mm : Int)) = false := by simp; omega
            have gK : (k : Int) < (mm : Int) := by omega
            have tK : (0 : Int) ≤ (k : Int) := by omega
            have eI : ((i : Int) == (m : Int)) = false := by simp; omega
            have dI : decide ((i : Int) = (m : Int)) = false := by simp; omega
            have gI : (i : Int) < (m : Int) := by omega
            have tI : (0 : Int) ≤ (i : Int) := by omega
            have bI : decide ((i : Int) < (m : Int)) = true := by simp; omega
            have dU : decide (u < v) = false := by simp; omega
            have dV : decide (v < u) = true := by simpa using hx
            have hx' : v < u := hx
            go_wp2_with fail
            go_quiet (fail)
            go_wp2_with fail
            go_quiet (fail)
            go_wp2_with fail
            refine ⟨?_, ?measure⟩
            first
              | ((repeat apply Exists.intro); refine ⟨?rel, rfl⟩)
              | ((iterate 10 (apply Exists.intro)); (repeat apply Exists.intro); refine ⟨?rel, rfl⟩)
              | ((iterate 25 (apply Exists.intro)); (repeat apply Exists.intro); refine ⟨?rel, rfl⟩)
              | ((iterate 40 (apply Exists.intro)); (repeat apply Exists.intro); refine ⟨?rel, rfl⟩)
              | refine ?rel
            case rel => exact ⟨n + 1, i, k + 1, int_eq (by omega), int_eq (by omega), int_eq (by omega), by omega, by omega, HG2, Lib.hid (HB.out.trans ((below_drewN wr _).mono HB.out.size))⟩
            case measure => simp [intOf]; omega
        · have hkk : k = mm := by omega
          have HG2 := Lib.hid (HG.out.left (by rw [← HM.out]; exact him) (by rw [HMM.out]; exact hkk))
          subst hkk
          have eI : ((i : Int) == (m : Int)) = false := by simp; omega
          have dI : decide ((i : Int) = (m : Int)) = false := by simp; omega
          have gI : (i : Int) < (m : Int) := by omega
          have tI : (0 : Int) ≤ (i : Int) := by omega
          have bI : decide ((i : Int) < (m : Int)) = true := by simp; omega
          go_wp2_with fail
          go_quiet (fail)
          go_wp2_with fail
          refine ⟨?_, ?measure⟩
          first
            | ((repeat apply Exists.intro); refine ⟨?rel, rfl⟩)
            | ((iterate 10 (apply Exists.intro)); (repeat apply Exists.intro); refine ⟨?rel, rfl⟩)
            | ((iterate 25 (apply Exists.intro)); (repeat apply Exists.intro); refine ⟨?rel, rfl⟩)
            | ((iterate 40 (apply Exists.intro)); (repeat apply Exists.intro); refine ⟨?rel, rfl⟩)
            | refine ?rel
          case rel => exact ⟨n + 1, i + 1, k, int_eq (by omega), int_eq (by omega), int_eq (by omega), by omega, by omega, HG2, Lib.hid (HB.out.trans ((below_drewN wr _).mono HB.out.size))⟩
          case measure => simp [intOf]; omega
      · have hii : i = m := by omega
        by_cases hkm : k < mm
        · have HG2 := Lib.hid (HG.out.right (by rw [← HM.out]; exact hii) (by rw [HMM.out]; exact hkm))
          subst hii
          have eK : ((k : Int) == (mm : Int)) = false := by simp; omega
          have dK : decide ((k : Int) = (mm : Int)) = false := by simp; omega
          have gK : (k : Int) < (mm : Int) := by omega
          have tK : (0 : Int) ≤ (k : Int) := by omega
          go_wp2_with fail
          go_quiet (fail)
          go_wp2_with fail
          go_quiet (fail)
          go_wp2_with fail
          refine ⟨?_, ?measure⟩
          first
            | ((repeat apply Exists.intro); refine ⟨?rel, rfl⟩)
            | ((iterate 10 (apply Exists.intro)); (repeat apply Exists.intro); refine ⟨?rel, rfl⟩)
            | ((iterate 25 (apply Exists.intro)); (repeat apply Exists.intro); refine ⟨?rel, rfl⟩)
            | ((iterate 40 (apply Exists.intro)); (repeat apply Exists.intro); refine ⟨?rel, rfl⟩)
            | refine ?rel
          case rel => exact ⟨n + 1, i, k + 1, int_eq (by omega), int_eq (by omega), int_eq (by omega), by omega, by omega, HG2, Lib.hid (HB.out.trans ((below_drewN wr _).mono HB.out.size))⟩
          case measure => simp [intOf]; omega
        · have hkk : k = mm := by omega
          have hfin := HG.out.fin (by rw [← HM.out]; exact hii) (by rw [HMM.out]; exact hkk)
          subst hii hkk
          have HT7 := Lib.hid (HT6.out.next HB.out)
          have HS7 := Lib.hid (HS6.out.next HB.out)
          obtain ⟨c0, c1, c2, c3, c4, c5, _, _, sz, _⟩ := HT7.out
          have hv := Lib.hid (valid_any ff ll te tk none 0 0 none 0 0 [] [] _ HT7.out.xa HT7.out.ya (by omega))
          rw [hvt.out] at hv
          have hle : (gn : Int) + gm ≤ n := sum_le (by rw [hfin]; exact hfw2.out)
          have hsm := hle
          clear hfin HG
          go_wp2_with fail
          refine hv.out.mono ?_
          rintro en w8 ⟨rfl, hb8⟩
          have HS8 := Lib.hid (HS7.out.next hb8)
          have HB8 := Lib.hid (HB6.out.trans ((HB.out.trans (hb8.mono HB.out.size)).mono HB6.out.size))
          clear hb8 c0 c1 c2 c3 c4 c5 sz
          obtain ⟨c0, c1, c2, c3, c4, c5, _, _, sz, _⟩ := HS8.out
          have hd8 : decide ((gn : Int) + gm ≤ n) = true := by simpa using hle
          go_wp2_with (go_at_call 8; refine (awake_any _ (HT.out.below HB8.out)).mono ?_; rintro en w9 ⟨rfl, hb9⟩; have HB9 := Lib.hid (HB8.out.trans (hb9.mono HB8.out.size)); clear hb9)
          go_ret
          exact ⟨rfl, HB9.out⟩)

end Go.Proofs.YtibigbfkokendaaDoor
