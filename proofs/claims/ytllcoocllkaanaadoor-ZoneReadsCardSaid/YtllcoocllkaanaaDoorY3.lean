/- Zones: offsets and dates, written, of the reference and of the program. -/
import Derived.Test.YtllcoocllkaanaaDoorY2
namespace Go.Proofs.YtllcoocllkaanaaDoor
open Go.RowKit TT

theorem rtwo_any (n : Nat) (h : n < 100) (w : World) : Calls Tryd.prog 62 #[.int .i64 n, .int .i64 2] w (RetB (.string (arr (two n))) w) := by
  have h2 := rdigits_any 2 n (by omega) (by omega) (by omega) w
  rw [dgt_two n h] at h2
  exact h2

set_option maxRecDepth 100000 in
theorem rsigned_any (o : Int) (h1 : -840 ≤ o) (h2 : o ≤ 840) (w : World) : Calls Tryd.prog 46 #[.int .i64 o] w (RetB (.string (arr (shw o))) w) := by
  obtain ⟨n, hn, hno⟩ : ∃ n : Nat, n ≤ 840 ∧ n = o.natAbs := ⟨o.natAbs, by omega, rfl⟩
  have D1 := Lib.hid (fun w => rtwo_any (n / 60) (by omega) w)
  have D2 := Lib.hid (fun w => rtwo_any (n % 60) (by omega) w)
  have e1 : ((n / 60 : Nat) : Int) = (n : Int) / 60 := by omega
  have e2 : ((n % 60 : Nat) : Int) = (n : Int) % 60 := by omega
  rw [e1] at D1
  rw [e2] at D2
  clear e1 e2
  have hsa : (arr (two (n / 60))).size = 2 := rfl
  have hsb : (arr (two (n % 60))).size = 2 := rfl
  have hcat : ∀ c : UInt8, ((⟨#[c]⟩ : ByteArray) ++ arr (two (n / 60))) ++ arr (two (n % 60)) = arr (c :: (two (n / 60) ++ two (n % 60))) := fun c => by
    rw [show (⟨#[c]⟩ : ByteArray) = arr [c] from rfl, arr_app, arr_app]; rfl
  have F : Hid (arr (shw o) = arr ((if o < 0 then 45 else 43) :: (two (n / 60) ++ two (n % 60)))) := Lib.hid (by unfold shw; rw [hno])
  have hc1 := hcat 45
  have hc2 := hcat 43
  clear hcat
  generalize arr (two (n / 60)) = a at *
  generalize arr (two (n % 60)) = b at *
  have HC1 := Lib.hid hc1
  have HC2 := Lib.hid hc2
  clear hc1 hc2
  by_cases hneg : o < 0
  · have ho : o = -(n : Int) := by omega
    rw [if_pos hneg] at F
    subst ho
    clear hno
    go_enter Tryd.func46, Tryd.ntmps46
    go_wp2_with fail
    refine (D1.out _).mono ?_
    rintro e w1 ⟨rfl, hb1⟩
    have HB1 := Lib.hid hb1
    clear hb1
    go_wp2_with fail
    refine (D2.out _).mono ?_
    rintro e w2 ⟨rfl, hb2⟩
    have HB2 := Lib.hid (below3 HB1.out hb2)
    clear hb2
    go_wp2_with fail
    go_ret
    exact ⟨by rw [F.out, ← HC1.out]; rfl, HB2.out⟩
  · have ho : o = (n : Int) := by omega
    rw [if_neg hneg] at F
    subst ho
    clear hno
    go_enter Tryd.func46, Tryd.ntmps46
    go_wp2_with fail
    refine (D1.out _).mono ?_
    rintro e w1 ⟨rfl, hb1⟩
    have HB1 := Lib.hid hb1
    clear hb1
    go_wp2_with fail
    refine (D2.out _).mono ?_
    rintro e w2 ⟨rfl, hb2⟩
    have HB2 := Lib.hid (below3 HB1.out hb2)
    clear hb2
    go_wp2_with fail
    go_ret
    exact ⟨by rw [F.out, ← HC2.out]; rfl, HB2.out⟩

/-- the pieces of a date, joined -/
theorem stp_join (t : Int) : ((((((((arr ([50, 48] ++ two (yearOf (t / 1440) - 2000).toNat) ++ ⟨#[45]⟩) ++ arr (two (monthOf (t / 1440)).toNat)) ++ ⟨#[45]⟩) ++ arr (two (domOf (t / 1440)).toNat)) ++ ⟨#[84]⟩) ++ arr (two (t % 1440 / 60).toNat)) ++ ⟨#[58]⟩) ++ arr (two (t % 60).toNat)) = arr (stp t) := by
  rw [show (⟨#[45]⟩ : ByteArray) = arr [45] from rfl, show (⟨#[84]⟩ : ByteArray) = arr [84] from rfl, show (⟨#[58]⟩ : ByteArray) = arr [58] from rfl]
  simp only [arr_app]
  unfold stp
  simp

set_option maxRecDepth 100000 in
set_option maxHeartbeats 1000000 in
theorem stamp_any (t : Int) (h0 : 0 ≤ t) (h1 : t < 52596000) (w : World) : Calls Tryd.prog 47 #[.int .i64 t] w (RetB (.string (arr (stp t))) w) := by
  obtain ⟨a, b, y1, y2, m1, m2, d1, d2⟩ := date_bd t h0 h1
  have hok := okDay_mk a b
  have P := Lib.hid (fun w => Cal.rparts_any (t / 1440) w)
  simp only [pY, pM, pD, pE, hok, cond_true] at P
  have J := Lib.hid (stp_join t)
  have N1 := Lib.hid (fun w => (by
    have h := rdigits_any 4 (yearOf (t / 1440)).toNat (by omega) (by omega) (by omega) w
    rw [dgt_four _ (by omega) (by omega), show (yearOf (t / 1440)).toNat - 2000 = (yearOf (t / 1440) - 2000).toNat by omega, show (((yearOf (t / 1440)).toNat : Nat) : Int) = yearOf (t / 1440) by omega] at h
    exact h : Calls Tryd.prog 62 #[.int .i64 (yearOf (t / 1440)), .int .i64 4] w (RetB (.string (arr ([50, 48] ++ two (yearOf (t / 1440) - 2000).toNat))) w)))
  have T := fun (x : Int) (hx0 : 0 ≤ x) (hx1 : x < 100) (w : World) => (by
    have h := rtwo_any x.toNat (by omega) w
    rw [show ((x.toNat : Nat) : Int) = x by omega] at h
    exact h : Calls Tryd.prog 62 #[.int .i64 x, .int .i64 2] w (RetB (.string (arr (two x.toNat))) w))
  have N2 := Lib.hid (T (monthOf (t / 1440)) (by omega) (by omega))
  have N3 := Lib.hid (T (domOf (t / 1440)) (by omega) (by omega))
  have N4 := Lib.hid (T (t % 1440 / 60) (by omega) (by omega))
  have N5 := Lib.hid (T (t % 60) (by omega) (by omega))
  clear T hok
  have s1 : (arr ([50, 48] ++ two (yearOf (t / 1440) - 2000).toNat)).size = 4 := rfl
  have s2 : (arr (two (monthOf (t / 1440)).toNat)).size = 2 := rfl
  have s3 : (arr (two (domOf (t / 1440)).toNat)).size = 2 := rfl
  have s4 : (arr (two (t % 1440 / 60).toNat)).size = 2 := rfl
  have s5 : (arr (two (t % 60).toNat)).size = 2 := rfl
  generalize arr ([50, 48] ++ two (yearOf (t / 1440) - 2000).toNat) = a1 at *
  generalize arr (two (monthOf (t / 1440)).toNat) = a2 at *
  generalize arr (two (domOf (t / 1440)).toNat) = a3 at *
  generalize arr (two (t % 1440 / 60).toNat) = a4 at *
  generalize arr (two (t % 60).toNat) = a5 at *
  generalize yearOf (t / 1440) = y at *
  generalize monthOf (t / 1440) = m at *
  generalize domOf (t / 1440) = d at *
  go_enter Tryd.func47, Tryd.ntmps47
  go_wp2_with fail
  refine (P.out _).mono ?_
  rintro e w' ⟨rfl, rfl⟩
  go_wp2_with fail
  refine (N1.out _).mono ?_
  rintro e w1 ⟨rfl, hb1⟩
  have HB1 := Lib.hid hb1
  clear hb1
  go_wp2_with fail
  refine (N2.out _).mono ?_
  rintro e w2 ⟨rfl, hb2⟩
  have HB2 := Lib.hid (below3 HB1.out hb2)
  clear hb2
  go_wp2_with fail
  refine (N3.out _).mono ?_
  rintro e w3 ⟨rfl, hb3⟩
  have HB3 := Lib.hid (below3 HB2.out hb3)
  clear hb3
  go_wp2_with fail
  refine (N4.out _).mono ?_
  rintro e w4 ⟨rfl, hb4⟩
  have HB4 := Lib.hid (below3 HB3.out hb4)
  clear hb4
  go_wp2_with fail
  refine (N5.out _).mono ?_
  rintro e w5 ⟨rfl, hb5⟩
  have HB5 := Lib.hid (below3 HB4.out hb5)
  clear hb5
  go_wp2_with fail
  go_ret
  exact ⟨by rw [← J.out]; rfl, HB5.out⟩
end Go.Proofs.YtllcoocllkaanaaDoor
