import Derived.Test.YtpiejpodaljefaaDoorF5
import Derived.Test.YtpiejpodaljefaaDoorT7
namespace Go.Proofs.YtpiejpodaljefaaDoor
open Go.RowKit

theorem par_awake : parT 44 34 [97, 44, 34, 98, 44, 99, 34, 10] = ([(1, [([97], 1, false), ([98, 44, 99], 3, true)])], []) := by kernel_rfl
theorem fmt_awake : formatF 44 34 [[[], [120, 34, 121]]] = ([44, 34, 120, 34, 34, 121, 34, 10], 0) := by kernel_rfl
theorem comma_any (w : World) : Calls Tryd.prog 13 #[] w (RetB (.agg #[.int .u8 44, .int .u8 34]) w) := by
  go_enter Tryd.func13, Tryd.ntmps13
  go_wp2
  refine bodyPost_ret (v := .agg #[.int .u8 44, .int .u8 34]) ?_ rfl ⟨rfl, (Below.refl _ _).alloc (Nat.le_refl _) _⟩
  simp [results, Tryd.results13, go_sem]
theorem lst_awake (w : World) : LstW 0 ((w.alloc (.cells #[.string ⟨#[]⟩, .string ⟨#[120, 34, 121]⟩] 9)).alloc (.cells #[.slice (some ⟨w.heap.size, 0, none⟩) 2 2] 45)) (.slice (some ⟨w.heap.size + 1, 0, none⟩) 1 1) [(some ⟨w.heap.size, 0, none⟩, 2, [⟨#[]⟩, ⟨#[120, 34, 121]⟩])] := by
  refine ⟨_, 1, rfl, by simp, by simp, Or.inr ⟨_, 0, rfl, Nat.zero_le _, fun j hj => ?_⟩, fun x hx => ?_⟩
  · obtain rfl : j = 0 := by simpa using hj
    have e := heap_alloc_new (w.alloc (.cells #[.string ⟨#[]⟩, .string ⟨#[120, 34, 121]⟩] 9)) (.cells #[.slice (some ⟨w.heap.size, 0, none⟩) 2 2] 45)
    rw [show (w.alloc (.cells #[.string ⟨#[]⟩, .string ⟨#[120, 34, 121]⟩] 9)).heap.size = w.heap.size + 1 by simp] at e
    show World.cell? _ ⟨w.heap.size + 1, 0, none⟩ = _
    rw [Lib.cell_of_heap e]; rfl
  · obtain rfl : x = (some ⟨w.heap.size, 0, none⟩, 2, [⟨#[]⟩, ⟨#[120, 34, 121]⟩]) := by simpa using hx
    refine ⟨Or.inr ⟨_, 0, rfl, Nat.zero_le _, fun j hj => ?_⟩, by simp, by simp⟩
    have e : ((w.alloc (.cells #[.string ⟨#[]⟩, .string ⟨#[120, 34, 121]⟩] 9)).alloc (.cells #[.slice (some ⟨w.heap.size, 0, none⟩) 2 2] 45)).heap[w.heap.size]? = some (.cells #[.string ⟨#[]⟩, .string ⟨#[120, 34, 121]⟩] 9 (0, 0)) := by
      rw [Lib.alloc_old _ _ _ (by simp)]; exact heap_alloc_new _ _
    match j, hj with
    | 0, _ => show World.cell? _ ⟨w.heap.size, 0, none⟩ = _; rw [Lib.cell_of_heap e]; rfl
    | 1, _ => show World.cell? _ ⟨w.heap.size, 1, none⟩ = _; rw [Lib.cell_of_heap e]; rfl
    | j + 2, hj => exact absurd hj (by simp)

set_option maxRecDepth 100000 in
set_option maxHeartbeats 4000000 in
theorem awake_any (w : World) (hM : MaxAt w) : Calls Tryd.prog 9 #[] w (RetB (.bool true) w) := by
  have HM := Lib.hid hM
  have HP := Lib.hid (fun w => parse_any ⟨#[97, 44, 34, 98, 44, 99, 34, 10]⟩ 44 34 w (by decide))
  clear hM
  go_enter Tryd.func9, Tryd.ntmps9
  go_wp2_with fail
  refine (comma_any _).mono ?_
  rintro e w1 ⟨rfl, hb1⟩
  go_wp2_with fail
  refine (HP.out _).mono ?_
  rintro e w2 ⟨va, vb, rfl, hr, hp, hb2⟩
  have HB2 := Lib.hid (below3 hb1 hb2)
  change RecsW w2 w1.heap.size va (parT 44 34 [97, 44, 34, 98, 44, 99, 34, 10]).1 at hr
  change ProbsW w2 w1.heap.size vb (parT 44 34 [97, 44, 34, 98, 44, 99, 34, 10]).2 at hp
  rw [par_awake] at hr hp
  obtain ⟨L, hL, hrow, hfl⟩ := hr
  obtain ⟨x, rfl, hx⟩ := List.map_eq_singleton_iff.1 hL
  obtain ⟨⟨l0, f0⟩, v0⟩ := x
  cases hx
  have hf := hfl _ (List.mem_singleton.2 rfl)
  obtain ⟨g1, c1, rfl, _, _, r1⟩ := row_at hrow (by simp)
  obtain ⟨g2, c2, hv0, _, _, r2⟩ := row_at hf (by simp)
  simp only at hv0
  subst hv0
  obtain ⟨a3, c3, rfl, _, _⟩ := own_slice hp
  have x0 := r1 1 _ rfl
  have y3 := r2 3 _ rfl
  have y4 := r2 4 _ rfl
  clear r1 r2 hf hfl hrow hp hL hb1 hb2
  have HL := Lib.hid (lst_awake w2)
  have hb3 : Below w2.heap.size w2 ((w2.alloc (.cells #[.string ⟨#[]⟩, .string ⟨#[120, 34, 121]⟩] 9)).alloc (.cells #[.slice (some ⟨w2.heap.size, 0, none⟩) 2 2] 45)) := ((Below.refl _ _).alloc (Nat.le_refl _) _).alloc (by simp) _
  have HB3 := Lib.hid hb3
  clear hb3
  go_wp2_with fail
  generalize (w2.alloc (.cells #[.string ⟨#[]⟩, .string ⟨#[120, 34, 121]⟩] 9)).alloc (.cells #[.slice (some ⟨w2.heap.size, 0, none⟩) 2 2] 45) = w3 at *
  refine (comma_any _).mono ?_
  rintro e w4 ⟨rfl, hb4⟩
  have HB4 := Lib.hid (below3 HB3.out hb4)
  have HF := Lib.hid (format_any 0 _ _ 44 34 w4 (HL.out.below hb4) (HM.out.below (below3 HB2.out HB4.out)) (fun x hx s hs => by
    obtain rfl : x = (some ⟨w2.heap.size, 0, none⟩, 2, [⟨#[]⟩, ⟨#[120, 34, 121]⟩]) := by simpa using hx
    simp only [List.mem_cons, List.not_mem_nil, or_false] at hs
    rcases hs with rfl | rfl
    · exact ⟨by decide, anyOk_ascii 44 34 rfl _ (by decide) (by simp)⟩
    · exact ⟨by decide, anyOk_ascii 44 34 rfl _ (by decide) (by simp)⟩) (show (textF 44 34 [[[], [120, 34, 121]]]).length ≤ _ by decide))
  change Hid (Calls Tryd.prog 21 #[.slice (some ⟨w2.heap.size + 1, 0, none⟩) 1 1, .agg #[.int .u8 44, .int .u8 34]] w4 (FmtOut (formatF 44 34 [[[], [120, 34, 121]]]) w4)) at HF
  rw [fmt_awake] at HF
  clear hb4
  go_wp2_with fail
  refine HF.out.mono ?_
  rintro e w5 ⟨rfl, hb5⟩
  have HB5 := Lib.hid (below3 (below3 HB2.out HB4.out) hb5)
  have z0 := below_cell hb5 (below_cell HB4.out x0)
  have z3 := below_cell hb5 (below_cell HB4.out y3)
  have z4 := below_cell hb5 (below_cell HB4.out y4)
  clear hb5 x0 y3 y4
  have t1 : ((arr [98, 44, 99]).toList == [98, 44, 99]) = true := by rw [arr_toList]; rfl
  have t2 : ((arr [44, 34, 120, 34, 34, 121, 34, 10]).toList == [44, 34, 120, 34, 34, 121, 34, 10]) = true := by rw [arr_toList]; rfl
  go_wp2_with fail
  go_ret
  exact ⟨rfl, HB5.out⟩
end Go.Proofs.YtpiejpodaljefaaDoor
