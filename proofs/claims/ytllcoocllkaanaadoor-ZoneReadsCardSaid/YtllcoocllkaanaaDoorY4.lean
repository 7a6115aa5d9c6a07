/- Zones: dates, written by the program; the tables that are read. -/
import Derived.Test.YtllcoocllkaanaaDoorY3
import Derived.Lib.AppendIntMem
namespace Go.Proofs.YtllcoocllkaanaaDoor
open Go.RowKit TT

/-- The tables that lie in memory. -/
structure Tbs (w : World) : Prop where
  pow : Lib.TabIs Tryd.prog w "internal/strconv.uint64pow10" .u64 Lib.pow10Tab
  lens : Cal.Lens w
  mx : ∃ m : Int, w.cell? ⟨1, 0, none⟩ = some (.int .i64 m)
theorem Tbs.below {w w' : World} (h : Tbs w) (hb : Below w.heap.size w w') : Tbs w' := by
  refine ⟨Lib.tabBelow_of_tabIs h.pow w' hb, fun i hi => ?_, ?_⟩
  · have hc := h.lens i hi
    rw [hb.cell (lt_of_cell hc)]; exact hc
  · obtain ⟨m, hm⟩ := h.mx
    exact ⟨m, by rw [hb.cell (lt_of_cell hm)]; exact hm⟩
theorem dec_step (u : Nat) (h : ¬ u < 10) : Lib.decDigits u = Lib.decDigits (u / 10) ++ [UInt8.ofNat (48 + u % 10)] := by
  rw [Lib.decDigits, dif_neg h]
theorem itoa_year (y : Nat) (h0 : 2000 ≤ y) (h1 : y ≤ 2099) : Lib.itoa (y : Int) = [50, 48] ++ two (y - 2000) := by
  unfold Lib.itoa
  rw [if_neg (by omega), Int.toNat_natCast, dec_step y (by omega), dec_step (y / 10) (by omega), show y / 10 / 10 = 20 by omega, dec_small 20 (by omega), if_neg (by omega)]
  have e1 : y / 10 % 10 = (y - 2000) / 10 := by omega
  have e2 : y % 10 = (y - 2000) % 10 := by omega
  simp only [two, e1, e2]
  rfl
set_option maxRecDepth 100000 in
theorem digits_four (y : Int) (h0 : 2000 ≤ y) (h1 : y ≤ 2099) (w : World) (hT : Tbs w) : Calls Tryd.prog 60 #[.int .i64 y, .int .i64 4] w (RetB (.string (arr ([50, 48] ++ two (y - 2000).toNat))) w) := by
  have D : Calls Tryd.prog 72 #[.int .i64 y] w (RetB (.string (arr ([50, 48] ++ two (y - 2000).toNat))) w) := by
    refine (Tryd.strconv_Itoa y (by omega) (by omega) w hT.pow).mono fun e w' ⟨he, k, os, hw⟩ => ⟨?_, ?_⟩
    · rw [he]
      have e := itoa_year y.toNat (by omega) (by omega)
      rw [show ((y.toNat : Nat) : Int) = y by omega, show y.toNat - 2000 = (y - 2000).toNat by omega] at e
      rw [e]; rfl
    · rw [hw]; exact Lib.below_grow _ w (Nat.le_refl _) k os
  have hsz : (arr ([50, 48] ++ two (y - 2000).toNat)).size = 4 := rfl
  have D := Lib.hid D
  clear hT
  generalize arr ([50, 48] ++ two (y - 2000).toNat) = s at *
  go_enter Tryd.func60, Tryd.ntmps60
  go_wp2_with fail
  refine D.out.mono ?_
  rintro e w1 ⟨rfl, hb⟩
  have HB := Lib.hid hb
  clear hb
  go_wp2
  refine wp_loop_rounds 1 ?_
  rw [rounds_succ]
  go_wp2
  go_ret
  exact ⟨rfl, HB.out⟩

set_option maxRecDepth 100000 in
set_option maxHeartbeats 1000000 in
theorem moment_any (t : Int) (h0 : 0 ≤ t) (h1 : t < 52596000) (w : World) (hT : Tbs w) : Calls Tryd.prog 44 #[.int .i64 t] w (RetB (.string (arr (stp t))) w) := by
  obtain ⟨a, b, y1, y2, m1, m2, d1, d2⟩ := date_bd t h0 h1
  have hok := okDay_mk a b
  have P := Lib.hid (Cal.parts_any (t / 1440) w hT.lens)
  simp only [pY, pM, pD, pE, hok, cond_true] at P
  have J := Lib.hid (stp_join t)
  have N1 := Lib.hid (digits_four (yearOf (t / 1440)) (by omega) (by omega) w hT)
  have T := fun (x : Int) (hx0 : 0 ≤ x) (hx1 : x < 100) (w : World) => (by
    have h := digits_small x.toNat (by omega) w
    rw [show ((x.toNat : Nat) : Int) = x by omega] at h
    exact h : Calls Tryd.prog 60 #[.int .i64 x, .int .i64 2] w (RetS (.string (arr (two x.toNat))) w))
  have N2 := Lib.hid (T (monthOf (t / 1440)) (by omega) (by omega))
  have N3 := Lib.hid (T (domOf (t / 1440)) (by omega) (by omega))
  have N4 := Lib.hid (T (t % 1440 / 60) (by omega) (by omega))
  have N5 := Lib.hid (T (t % 60) (by omega) (by omega))
  have em : t % 1440 % 60 = t % 60 := by omega
  clear T hok hT
  have s1 : (arr ([50, 48] ++ two (yearOf (t / 1440) - 2000).toNat)).size = 4 := rfl
  have s2 : (arr (two (monthOf (t / 1440)).toNat)).size = 2 := rfl
  have s3 : (arr (two (domOf (t / 1440)).toNat)).size = 2 := rfl
  have s4 : (arr (two (t % 1440 / 60).toNat)).size = 2 := rfl
  have s5 : (arr (two (t % 60).toNat)).size = 2 := rfl
  generalize arr ([50, 48] ++ two (yearOf (t / 1440) - 2000).toNat) = a1 at *
  generalize arr (two (monthOf (t / 1440)).toNat) = a2 at *
  generalize arr (two (domOf (t / 1440)).toNat) = a3 at *
  generalize arr (two (t % 1440 / 60).toNat) = a4 at *
  generalize arr (two (t % 60).toNat) = a5 at *
  generalize yearOf (t / 1440) = y at *
  generalize monthOf (t / 1440) = m at *
  generalize domOf (t / 1440) = d at *
  go_enter Tryd.func44, Tryd.ntmps44
  go_wp2_with fail
  refine P.out.mono ?_
  rintro e w' ⟨rfl, rfl⟩
  go_wp2_with fail
  refine N1.out.mono ?_
  rintro e w1 ⟨rfl, hb1⟩
  have HB1 := Lib.hid hb1
  clear hb1
  go_wp2_with fail
  refine (N2.out _).mono ?_
  rintro e w2 ⟨rfl, rfl⟩
  go_wp2_with fail
  refine (N3.out _).mono ?_
  rintro e w3 ⟨rfl, rfl⟩
  go_wp2_with fail
  refine (N4.out _).mono ?_
  rintro e w4 ⟨rfl, rfl⟩
  go_wp2_with fail
  refine (N5.out _).mono ?_
  rintro e w5 ⟨rfl, rfl⟩
  go_wp2_with fail
  go_ret
  exact ⟨by rw [← J.out]; rfl, HB1.out⟩
end Go.Proofs.YtllcoocllkaanaaDoor
