/- Records: the law RecordsFormats. -/
import Derived.Test.YtpiejpodaljefaaDoorN13
import Derived.Test.YtpiejpodaljefaaDoorN4
import Derived.Test.YtpiejpodaljefaaDoorN5
import Derived.Test.YtpiejpodaljefaaDoorM5
import Derived.Test.YtpiejpodaljefaaDoorG1
namespace Go.Proofs.YtpiejpodaljefaaDoor
open Go.RowKit

set_option maxRecDepth 100000 in
theorem format_full (B : Nat) (v : Value) (L : List RowS) (d q : UInt8) (w : World) (hL : LstW B w v L) (hM : MaxAt w)
    (hS : ∀ x ∈ L, ∀ s ∈ x.2.2, s.size < 4294967281) (hT : (textF d q (lstB L)).length ≤ 140737488355000) :
    Calls Tryd.prog 21 #[v, .agg #[.int .u8 d.toNat, .int .u8 q.toNat]] w (FmtOut (formatF d q (lstB L)) w) := by
  cases hok : okD d q
  · have V := Lib.hid (fun w => valid_any d q w)
    have HF : Hid (formatF d q (lstB L) = ([], 1)) := Lib.hid (by unfold formatF; rw [if_pos hok])
    rw [hok] at V
    obtain ⟨ad, cp, hv, hcp1, hcp2, _, _⟩ := hL
    subst hv
    clear hok
    go_enter Tryd.func21, Tryd.ntmps21
    go_wp2_with fail
    refine (V.out _).mono ?_
    rintro e w1 ⟨rfl, hb1⟩
    go_wp2
    go_ret2
    exact ⟨by rw [HF.out]; rfl, below2 hb1⟩
  · exact format_any B v L d q w hL hM (fun x hx s hs => ⟨hS x hx s hs, anyOk_all d q hok s (hS x hx s hs)⟩) hT

set_option maxRecDepth 100000 in
set_option maxHeartbeats 8000000 in
theorem law_formats (v : Value) (M : List RowS) (d q : UInt8) (a : Option Addr) (n c : Nat) (L : List Int) (w : World) (hV : LstW 0 w v M) (hS : ∀ x ∈ M, ∀ s ∈ x.2.2, s.size < 4294967281) (hT : (textF d q (lstB M)).length ≤ 140737488355000)
    (hI : IntsAt w a n L) (hL : ∀ x ∈ L, -9223372036854775808 ≤ x ∧ x ≤ 9223372036854775807) (hM : MaxAt w) :
    Calls Tryd.prog 5 #[v, .agg #[.int .u8 d.toNat, .int .u8 q.toNat], .slice a n c] w (RetB (.bool true) w) := by
  have hba : Below w.heap.size w (w.alloc (.cells #[.int .u8 d.toNat, .int .u8 q.toNat] 23)) := (Below.refl _ _).alloc (Nat.le_refl _) _
  have HBA := Lib.hid hba
  have HX0 : Hid (DxAt (w.alloc (.cells #[.int .u8 d.toNat, .int .u8 q.toNat] 23)) w.heap.size d q) := Lib.hid (heap_alloc_new _ _)
  have HMA := Lib.hid (hM.below hba)
  by_cases hn : n ≤ 400
  rotate_left
  · have hd : decide (n ≤ 400) = false := by simpa using hn
    clear hI hL hn hV hS hT hM hba
    go_enter Tryd.func5, Tryd.ntmps5
    go_wp2_with (first | (go_at_call 14; refine (light_any _ _ _ _).mono ?_; rw [hd]; rintro e w' ⟨rfl, rfl⟩) | (go_at_call 9; refine (awake_any _ HMA.out).mono ?_; rintro e w' ⟨rfl, hb⟩))
    go_ret
    exact ⟨rfl, HBA.out.trans (hb.mono HBA.out.size)⟩
  have hd : decide (n ≤ 400) = true := by simpa using hn
  have HD0 := Lib.hid (DiceAt.mk0 c 60 (hI.below hba) hn hL)
  have HV0 := Lib.hid (hV.below hba)
  have HS := Lib.hid hS
  have HT := Lib.hid hT
  clear hI hL hn hV hS hT hM hba
  go_enter Tryd.func5, Tryd.ntmps5
  go_wp2_with (go_at_call 14; refine (light_any _ _ _ _).mono ?_; rw [hd]; rintro e w' ⟨rfl, rfl⟩)
  refine (roll_any _ _ _ _).mono ?_
  rintro e w1 ⟨rfl, rfl⟩
  generalize w.alloc (.cells #[.int .u8 d.toNat, .int .u8 q.toNat] 23) = w0 at *
  have hb1 : Below w0.heap.size w0 (w0.alloc (.cells #[.slice a n c, .int .i64 0] 60)) := (Below.refl _ _).alloc (Nat.le_refl _) _
  have hp1 : w0.heap.size < (w0.alloc (.cells #[.slice a n c, .int .i64 0] 60)).heap.size := by simp
  have HP1 := Lib.hid hp1
  have HB1 := Lib.hid hb1
  clear hb1 hp1
  generalize w0.alloc (.cells #[.slice a n c, .int .i64 0] 60) = w1 at *
  go_wp2_with fail
  refine (fields_any w0.heap.size _ HD0.out).mono ?_
  rintro e w2 ⟨v2, M2, rfl, hM5, hfl⟩
  have HM5 := Lib.hid hM5
  have HF2 := Lib.hid hfl
  clear hfl hM5 HD0
  go_wp2_with fail
  refine (dialect_any w0.heap.size _ HF2.out.dc).mono ?_
  rintro e w3 ⟨x, y, rfl, hx, hy, hd3, hb3⟩
  have HOK := Lib.hid (dial_ok hx hy)
  have hlst := HF2.out.lst.but hb3 HP1.out
  have hbel : Below w0.heap.size w0 w3 := hb3.below (HF2.out.but.below HB1.out (Nat.le_refl _) (Nat.le_of_lt HP1.out)) (Nat.le_refl _) (Nat.le_trans (Nat.le_of_lt HP1.out) HF2.out.but.size)
  have HT2 := Lib.hid (HF2.out.text_le HM5.out x y)
  have HS2 := Lib.hid HF2.out.str_le
  have hba : Below w3.heap.size w3 (w3.alloc (.cells #[.int .u8 x.toNat, .int .u8 y.toNat] 23)) := (Below.refl _ _).alloc (Nat.le_refl _) _
  have HX4 : Hid (DxAt (w3.alloc (.cells #[.int .u8 x.toNat, .int .u8 y.toNat] 23)) w3.heap.size x y) := Lib.hid (heap_alloc_new _ _)
  have HL4 := Lib.hid (hlst.below hba)
  have HB4 := Lib.hid (hbel.trans (hba.mono hbel.size))
  obtain ⟨g0, g1⟩ := cells2_of (HX0.out.below (hbel.trans (hba.mono hbel.size)))
  clear hx hy hd3 hb3 hlst hbel hba HF2 HM5 HB1
  go_wp2_with fail
  generalize w3.alloc (.cells #[.int .u8 x.toNat, .int .u8 y.toNat] 23) = w4 at *
  generalize w3.heap.size = g at *
  have HV4 := Lib.hid (HV0.out.below HB4.out)
  have HMX4 := Lib.hid (HMA.out.below HB4.out)
  have HX04 := Lib.hid (HX0.out.below HB4.out)
  have HW4 := Lib.hid (HBA.out.trans (HB4.out.mono HBA.out.size))
  clear HV0 HMA HX0 HBA HB4 HP1
  refine (format_full 0 v M d q _ HV4.out HMX4.out HS.out HT.out).mono ?_
  rintro e w5 ⟨rfl, hb5⟩
  have HV5 := Lib.hid (HV4.out.below hb5)
  have HMX5 := Lib.hid (HMX4.out.below hb5)
  have HX05 := Lib.hid (HX04.out.below hb5)
  have HX5 := Lib.hid (HX4.out.below hb5)
  have HL5 := Lib.hid (HL4.out.below hb5)
  have HW5 := Lib.hid (HW4.out.trans (hb5.mono HW4.out.size))
  clear hb5 g0 g1 HV4 HMX4 HX04 HX4 HL4 HW4
  obtain ⟨g0, g1⟩ := cells2_of HX05.out
  have RF := Lib.hid (fun w1 h => rformat_any 0 v M d q w1 h HS.out HT.out)
  go_wp2_with fail
  refine (RF.out _ HV5.out).mono ?_
  rintro e w6 ⟨rfl, hb6⟩
  have HMX6 := Lib.hid (HMX5.out.below hb6)
  have HX6 := Lib.hid (HX5.out.below hb6)
  have HL6 := Lib.hid (HL5.out.below hb6)
  have HW6 := Lib.hid (HW5.out.trans (hb6.mono HW5.out.size))
  clear hb6 g0 g1 HV5 HMX5 HX05 HX5 HL5 HW5 RF
  obtain ⟨g0, g1⟩ := cells2_of HX6.out
  go_wp2_with fail
  refine (format_full _ v2 M2 x y _ HL6.out HMX6.out HS2.out (Nat.le_trans HT2.out (by decide))).mono ?_
  rintro e w7 ⟨rfl, hb7⟩
  have HMX7 := Lib.hid (HMX6.out.below hb7)
  have HX7 := Lib.hid (HX6.out.below hb7)
  have HL7 := Lib.hid (HL6.out.below hb7)
  have HW7 := Lib.hid (HW6.out.trans (hb7.mono HW6.out.size))
  clear hb7 g0 g1 HMX6 HX6 HL6 HW6
  obtain ⟨g0, g1⟩ := cells2_of HX7.out
  have RF := Lib.hid (fun B w1 (h : LstW B w1 v2 M2) => rformat_any B v2 M2 x y w1 h HS2.out (Nat.le_trans HT2.out (by decide)))
  go_wp2_with fail
  refine (RF.out _ _ HL7.out).mono ?_
  rintro e w8 ⟨rfl, hb8⟩
  have HMX8 := Lib.hid (HMX7.out.below hb8)
  have HW8 := Lib.hid (HW7.out.trans (hb8.mono HW7.out.size))
  clear hb8 g0 g1 HMX7 HX7 HL7 HW7 RF
  go_wp2_with fail
  refine (awake_any _ HMX8.out).mono ?_
  rintro e w9 ⟨rfl, hb9⟩
  have HW9 := Lib.hid (HW8.out.trans (hb9.mono HW8.out.size))
  clear hb9
  go_wp2_with fail
  go_ret
  exact ⟨rfl, HW9.out⟩
end Go.Proofs.YtpiejpodaljefaaDoor
