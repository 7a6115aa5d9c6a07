/- Records: the law RecordsParsesMade. -/
import Derived.Test.YtpiejpodaljefaaDoorN2
import Derived.Test.YtpiejpodaljefaaDoorN4
import Derived.Test.YtpiejpodaljefaaDoorN5
import Derived.Test.YtpiejpodaljefaaDoorM5
import Derived.Test.YtpiejpodaljefaaDoorG1
import Derived.Test.YtpiejpodaljefaaDoorT7
import Derived.Deep.RegionHeld3
namespace Go.Proofs.YtpiejpodaljefaaDoor
open Go.RowKit

/-- The memory of a law on dice: the dice, the dialect in a box, the machine word. -/
structure GM (w : World) (g : Nat) (x y : UInt8) (m : Int) (w' : World) : Prop where
  dc : DiceAt w' w.heap.size
  bel : Below w.heap.size w w'
  box : DxAt w' g x y
  mx : w'.cell? ⟨0, 0, none⟩ = some (.int .i64 m)
  pg : w.heap.size < g
  p0 : 0 < w.heap.size
theorem GM.but {w : World} {g : Nat} {x y : UInt8} {m : Int} {w1 w2 : World} (h : GM w g x y m w1) (hd : DiceAt w2 w.heap.size) (hb : But w.heap.size w1 w2) : GM w g x y m w2 :=
  ⟨hd, hb.below h.bel (Nat.le_refl _) h.bel.size, h.box.but hb (by have := h.pg; omega), by rw [hb.cell (lt_of_cell h.mx) (by have := h.p0; show (0 : Nat) ≠ _; omega)]; exact h.mx, h.pg, h.p0⟩
theorem GM.below {w : World} {g : Nat} {x y : UInt8} {m : Int} {w1 w2 : World} (h : GM w g x y m w1) (hb : Below w1.heap.size w1 w2) : GM w g x y m w2 :=
  ⟨h.dc.below hb, h.bel.trans (hb.mono h.bel.size), h.box.below hb, below_cell hb h.mx, h.pg, h.p0⟩
theorem GM.drew {w : World} {g : Nat} {x y : UInt8} {m : Int} {w1 : World} (h : GM w g x y m w1) : GM w g x y m w1.drew := h.below ⟨rfl, rfl, rfl, Nat.le_refl _, fun _ _ => rfl⟩
/-- the same with the cells that are read -/
def GA (w : World) (g : Nat) (x y : UInt8) (m : Int) (w' : World) : Prop := GM w g x y m w' ∧ w'.cell? ⟨g, 0, none⟩ = some (.int .u8 x.toNat) ∧ w'.cell? ⟨g, 1, none⟩ = some (.int .u8 y.toNat)
theorem GM.ga {w : World} {g : Nat} {x y : UInt8} {m : Int} {w1 : World} (h : GM w g x y m w1) : GA w g x y m w1 := ⟨h, cells2_of h.box⟩
theorem GM.start {w w2 : World} {x y : UInt8} {m : Int} (hD : DiceAt w2 w.heap.size) (hb : Below w.heap.size w w2) (hm : w.cell? ⟨0, 0, none⟩ = some (.int .i64 m)) : GM w w2.heap.size x y m (w2.alloc (.cells #[.int .u8 x.toNat, .int .u8 y.toNat] 23)) :=
  have hba : Below w2.heap.size w2 (w2.alloc (.cells #[.int .u8 x.toNat, .int .u8 y.toNat] 23)) := (Below.refl _ _).alloc (Nat.le_refl _) _
  ⟨hD.below hba, hb.trans (hba.mono hb.size), heap_alloc_new _ _, below_cell (hb.trans (hba.mono hb.size)) hm, hD.lt, lt_of_cell hm⟩

def tsg : ByteArray := ⟨#[97, 98, 44, 59, 34, 39, 35, 32, 10, 13, 124]⟩
def ssg : ByteArray := ⟨#[44, 59, 34, 39, 10, 13, 35, 97]⟩
theorem formatF_le (d q : UInt8) (l : List (List L8)) : (formatF d q l).1.length ≤ (textF d q l).length := by
  unfold formatF
  repeat (first | split | simp)

set_option maxRecDepth 100000 in
set_option maxHeartbeats 8000000 in
theorem law_made (a : Option Addr) (n c : Nat) (L : List Int) (w : World) (hI : IntsAt w a n L) (hL : ∀ x ∈ L, -9223372036854775808 ≤ x ∧ x ≤ 9223372036854775807) (hM : MaxAt w) :
    Calls Tryd.prog 4 #[.slice a n c] w (RetB (.bool true) w) := by
  obtain ⟨m, hm⟩ := hM
  by_cases hn : n ≤ 400
  rotate_left
  · have hd : decide (n ≤ 400) = false := by simpa using hn
    clear hI hL hn
    go_enter Tryd.func4, Tryd.ntmps4
    go_wp2_with (first | (go_at_call 14; refine (light_any _ _ _ _).mono ?_; rw [hd]; rintro e w' ⟨rfl, rfl⟩) | (go_at_call 9; refine (awake_any _ ⟨m, hm⟩).mono ?_; rintro e w' ⟨rfl, hb⟩))
    go_ret
    exact ⟨rfl, hb⟩
  have hd : decide (n ≤ 400) = true := by simpa using hn
  have HD0 := Lib.hid (DiceAt.mk0 c 60 hI hn hL)
  have HM0 := Lib.hid hm
  clear hI hL hn hm
  go_enter Tryd.func4, Tryd.ntmps4
  go_wp2_with (first | (go_at_call 14; refine (light_any _ _ _ _).mono ?_; rw [hd]; rintro e w' ⟨rfl, rfl⟩) | (go_at_call 15; refine (roll_any _ _ _ _).mono ?_; rintro e w' ⟨rfl, rfl⟩))
  have hb0 : Below w.heap.size w (w.alloc (.cells #[.slice a n c, .int .i64 0] 60)) := (Below.refl _ _).alloc (Nat.le_refl _) _
  have HB0 := Lib.hid hb0
  clear hb0
  refine (dialect_any w.heap.size _ HD0.out).mono ?_
  rintro e w2 ⟨x, y, rfl, hx, hy, hd2, hb2⟩
  have HOK := Lib.hid (dial_ok hx hy)
  have HG := Lib.hid (GM.start (x := x) (y := y) hd2 (hb2.below HB0.out (Nat.le_refl _) HB0.out.size) HM0.out)
  clear hx hy hd2 hb2 HB0 HD0
  go_wp2_with fail
  generalize w2.alloc (.cells #[.int .u8 x.toNat, .int .u8 y.toNat] 23) = W3 at *
  generalize w2.heap.size = g at *
  refine (text_any w.heap.size tsg 60 (by decide) (by decide) (by decide) _ HG.out.dc).mono ?_
  rintro e w4 ⟨s, rfl, hs, _, hd4, hb4⟩
  have HG4 := Lib.hid (HG.out.but hd4 hb4)
  have HS : Hid ((arr s).size ≤ 9223372036854775807) := Lib.hid (by rw [arr_size]; omega)
  clear hs hd4 hb4 HG
  generalize arr s = s1 at *
  have hA := HG4.out.ga
  go_wp2_with fail
  have hAd := HG4.out.drew.ga
  go_region_held3 (fun w' => GM w g x y m w' ∧ w'.cell? ⟨g, 0, none⟩ = some (.int .u8 x.toNat) ∧ w'.cell? ⟨g, 1, none⟩ = some (.int .u8 y.toNat))
    (first | assumption | exact hAd | exact hA | exact kA | exact kB | go_keep)
    (first
      | (go_at_call 19; refine (fields_any w.heap.size _ (GM.dc (And.left (by assumption)))).mono ?_; rintro e w5 ⟨v5, L5, rfl, hl5, hfl⟩; have kA := (GM.but (And.left (by assumption)) hfl.dc hfl.but).ga; have HL5 := Lib.hid hfl.lst; have HT5 := Lib.hid (hfl.text_le hl5 x y); have HS5 := Lib.hid hfl.str_le; clear hfl)
      | (go_at_call 18; refine (rformat_any _ v5 L5 x y _ HL5.out HS5.out (Nat.le_trans HT5.out (by decide))).mono ?_; rintro e w6 ⟨rfl, hb6⟩; have kB := (GM.below (And.left (by assumption)) hb6).ga; have HF : Hid ((arr (formatF x y (lstB L5)).1).size ≤ 400) := Lib.hid (by rw [arr_size]; exact Nat.le_trans (formatF_le _ _ _) HT5.out)))
  clear hA hAd kA HL5 HS5 HT5
  have HS2 : Hid ((arr (formatF x y (lstB L5)).1).size ≤ 9223372036854775807) := Lib.hid (by have := HF.out; omega)
  have HS3 : Hid ((arr (formatF x y (lstB L5)).1).size ≤ 2000000) := Lib.hid (by have := HF.out; omega)
  have HF4 := HF.out
  generalize arr (formatF x y (lstB L5)).1 = f1 at *
  have hB := kB
  have hBd := (GM.drew kB.1).ga
  clear kB
  go_wp2_with fail
  go_region_held3 (fun w' => GM w g x y m w' ∧ w'.cell? ⟨g, 0, none⟩ = some (.int .u8 x.toNat) ∧ w'.cell? ⟨g, 1, none⟩ = some (.int .u8 y.toNat))
    (first | assumption | exact hBd | exact hB | exact kC | exact kD | exact kE | exact kF | exact kG | go_keep)
    (first
      | (go_at_call 9; refine (awake_any _ ⟨m, GM.mx (And.left (by assumption))⟩).mono ?_; rintro e w7 ⟨rfl, hb7⟩; have kC := (GM.below (And.left (by assumption)) hb7).ga)
      | (go_at_call 20; refine (spoil_any w.heap.size _ ssg (by decide) (by decide) HS3.out _ (GM.dc (And.left (by assumption)))).mono ?_; rintro e w8 ⟨t8, rfl, ht8, hd8, hb8⟩; have kD := (GM.but (And.left (by assumption)) hd8 hb8).ga; have HT8 : Hid ((arr t8).size ≤ 9223372036854775807) := Lib.hid (by rw [arr_size]; omega); clear ht8)
      | (go_at_call 12; refine (agree_any _ x y _ (by first | exact HS.out | exact HS2.out | exact HT8.out)).mono ?_; rintro e w9 ⟨rfl, hb9⟩; have kE := (GM.below (And.left (by assumption)) hb9).ga))
  go_wp2_with fail
  go_ret
  exact ⟨rfl, GM.bel (And.left (by assumption))⟩
end Go.Proofs.YtpiejpodaljefaaDoor
