/- Series: three Mondays, every other week. -/
import Derived.Test.YtibigbfkokendaaGreatDoorR21
import Derived.Test.YtibigbfkokendaaGreatDoorR19
namespace Go.Proofs.YtibigbfkokendaaGreatDoor
open Go.RowKit TT

theorem awake_vals : ofF [2, 16, 30] = 2 ∧ ofL [2, 16, 30] = 30 ∧ ofEv [2, 16, 30] = 2 ∧ ofK [2, 16, 30] = 1 ∧ ofX [2, 16, 30] = [] ∧ ofY [2, 16, 30] = [] ∧ ofE [2, 16, 30] = 0 := by decide +kernel
theorem awake_vl : vlE 2 30 2 1 [] [] = 0 := by decide +kernel
theorem awake_days : daysO 2 30 2 1 [] [] = [2, 16, 30] := by decide +kernel
theorem awake_text : fmtL 2 30 2 1 [] [] = [70, 82, 69, 81, 61, 87, 69, 69, 75, 76, 89, 59, 73, 78, 84, 69, 82, 86, 65, 76, 61, 50, 59, 66, 89, 68, 65, 89, 61, 77, 79, 59, 85, 78, 84, 73, 76, 61, 50, 48, 48, 48, 48, 49, 51, 49] := by decide +kernel

theorem ints3 (w : World) (x y z : Int) (t : TypeId) : IntsAt (w.alloc (Obj.cells #[.int .i64 x, .int .i64 y, .int .i64 z] t)) (some ⟨w.heap.size, 0, none⟩) 3 [x, y, z] := by
  refine ⟨rfl, by omega, Or.inr ⟨w.heap.size, 0, rfl, fun i hi => ?_⟩⟩
  match i, hi with
  | 0, _ => simp
  | 1, _ => simp
  | 2, _ => simp
def awakeB : ByteArray := ⟨#[70, 82, 69, 81, 61, 87, 69, 69, 75, 76, 89, 59, 73, 78, 84, 69, 82, 86, 65, 76, 61, 50, 59, 66, 89, 68, 65, 89, 61, 77, 79, 59, 85, 78, 84, 73, 76, 61, 50, 48, 48, 48, 48, 49, 51, 49]⟩
theorem awake_arr : arr (fmtL 2 30 2 1 [] []) = awakeB := by rw [awake_text]; rfl

set_option maxRecDepth 100000 in
set_option maxHeartbeats 4000000 in
theorem awake_any (w : World) (hT : Tbs w) : Calls Tryz.prog 6 #[] w (RetB (.bool true) w) := by
  obtain ⟨v1, v2, v3, v4, v5, v6, v7⟩ := awake_vals
  have hO := Lib.hid (fun (w9 : World) (a : Option Addr) (n c : Nat) (h : IntsAt w9 a n [2, 16, 30]) => of_any [2, 16, 30] a n c w9 h)
  unfold OfP at hO
  rw [v1, v2, v3, v4, v5, v6, v7] at hO
  have HT := Lib.hid hT
  clear hT v1 v2 v3 v4 v5 v6 v7
  go_enter Tryz.func6, Tryz.ntmps6
  go_wp2_with fail
  have hI := ints3 w 2 16 30 3
  refine (hO.out _ _ 3 3 hI).mono ?_
  rintro en w1 ⟨a, c, b, q, rfl, hx, hy, hb⟩
  have hb0 : Below w.heap.size w w1 := ((Below.refl _ w).alloc (Nat.le_refl _) _).trans (hb.mono (by simp))
  have HX := Lib.hid hx
  have HY := Lib.hid hy
  have HB := Lib.hid hb0
  have HS := Lib.hid (SC.mk0 (w := w1) (f := 2) (l := 30) (e := 2) (k := 1) (c := c) (q := q) 24 hx hy)
  clear hI hx hy hb hb0 hO
  have hF := Lib.hid (format_any 2 30 2 1 a 0 c b 0 q [] [] _ HS.out.xa HS.out.ya (by omega) (HT.out.below (HB.out.trans (HS.out.bl.mono HB.out.size))))
  unfold FmtP at hF
  rw [awake_arr, awake_vl] at hF
  have hE : awakeB.toList = [70, 82, 69, 81, 61, 87, 69, 69, 75, 76, 89, 59, 73, 78, 84, 69, 82, 86, 65, 76, 61, 50, 59, 66, 89, 68, 65, 89, 61, 77, 79, 59, 85, 78, 84, 73, 76, 61, 50, 48, 48, 48, 48, 49, 51, 49] := by first | rfl | decide +kernel | (rw [ByteArray.toList_eq]; rfl) | (simp [awakeB])
  generalize awakeB = tx at *
  go_wp2_with fail
  refine hF.out.mono ?_
  rintro en w2 ⟨rfl, hb2⟩
  have HS2 := Lib.hid (HS.out.next hb2)
  clear hb2 hF
  obtain ⟨c0, c1, c2, c3, c4, c5, _, _, sz, _⟩ := HS2.out
  have hD := Lib.hid (days_any 2 30 2 1 a 0 c b 0 q [] [] w2 HS2.out.xa HS2.out.ya (by omega))
  unfold DaysP at hD
  rw [awake_days] at hD
  go_wp2_with (go_at_call 18; refine hD.out.mono ?_; rintro en w3 ⟨v, rfl, hr, hb3⟩; obtain ⟨a3, c3', rfl, _⟩ := Row.ints hr; have HB3 := Lib.hid ((HB.out.trans (HS2.out.bl.mono HB.out.size)).trans (hb3.mono (by have := HB.out.size; have := HS2.out.bl.size; omega))); clear hb3 hr)
  all_goals trace_state
  all_goals go_ret
  all_goals exact ⟨rfl, HB3.out⟩

end Go.Proofs.YtibigbfkokendaaGreatDoor
