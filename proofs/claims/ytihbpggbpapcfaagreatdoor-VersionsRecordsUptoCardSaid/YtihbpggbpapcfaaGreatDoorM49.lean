/- Texts V113, joined: walks and laws for the versions. -/
import Derived.Test.YtihbpggbpapcfaaGreatDoorM47
namespace Go.Proofs.YtihbpggbpapcfaaGreatDoor
open Go.RowKit

theorem heap4 {w : World} {R : Nat} {v0 v1 v2 v3 : Value} {T : TypeId} (h : w.heap[R]? = some (.cells #[v0, v1, v2, v3] T (0, 0))) (u0 u1 u2 u3 : Value) : ((((w.setCell ⟨R, 0, none⟩ u0).setCell ⟨R, 1, none⟩ u1).setCell ⟨R, 2, none⟩ u2).setCell ⟨R, 3, none⟩ u3).heap[R]? = some (.cells #[u0, u1, u2, u3] T (0, 0)) := by
  have h0 := heap_setCell_same w R 0 _ _ u0 h
  have h1 := heap_setCell_same _ R 1 _ _ u1 h0
  have h2 := heap_setCell_same _ R 2 _ _ u2 h1
  exact heap_setCell_same _ R 3 _ _ u3 h2
def OtR (p : Nat) (w : World) (e : Ending) (w' : World) : Prop := ∃ a b c d : Int, e = .returned (.agg #[.int .i64 a, .int .i64 b, .int .i64 c, .int .i64 d]) ∧ -9223372036854775808 ≤ c ∧ c ≤ 9223372036854775807 ∧ DiceAt w' p ∧ But p w w'

set_option maxRecDepth 100000 in
set_option maxHeartbeats 16000000 in
theorem odd_time_any (p : Nat) (a b c d : Int) (hc1 : -9223372036854775808 ≤ c) (hc2 : c ≤ 9223372036854775807) (w : World) (hD : DiceAt w p) : Calls Tryz.prog 84 #[.pointer (some ⟨p, 0, none⟩), .agg #[.int .i64 a, .int .i64 b, .int .i64 c, .int .i64 d]] w (OtR p w) := by
  have hpw : p < w.heap.size := hD.lt
  have HD := Lib.hid hD
  clear hD
  go_enter Tryz.func84, Tryz.ntmps84
  have HA := Lib.hid (BX.mk0 (vs := #[.int .i64 a, .int .i64 b, .int .i64 c, .int .i64 d]) (T := 93) w)
  go_upto_region 1 with fail
  have hsa : (w.alloc (.cells #[.int .i64 a, .int .i64 b, .int .i64 c, .int .i64 d] 93)).heap.size = w.heap.size + 1 := by simp
  generalize w.alloc (.cells #[.int .i64 a, .int .i64 b, .int .i64 c, .int .i64 d] 93) = wa at *
  obtain ⟨R, hR⟩ : ∃ R, R = w.heap.size := ⟨_, rfl⟩
  rw [← hR] at HA hsa ⊢
  have hRw : w.heap.size ≤ R := by omega
  clear hR
  have HB := Lib.hid (BX.mk0 (vs := #[.int .i64 0, .int .i64 0, .int .i64 0, .int .i64 0]) (T := 93) wa)
  rw [hsa] at HB
  clear hsa
  generalize wa.alloc (.cells #[.int .i64 0, .int .i64 0, .int .i64 0, .int .i64 0] 93) = wb at *
  obtain ⟨R2, hR2⟩ : ∃ R2, R2 = R + 1 := ⟨_, rfl⟩
  rw [← hR2] at HB ⊢
  have hRR : R2 ≠ R := by omega
  have hR2w : w.heap.size ≤ R2 := by omega
  have hpR : p < R := by omega
  have hpR2 : p < R2 := by omega
  clear hR2
  have HA := Lib.hid (HA.out.next HB.out.bl)
  have HDb := Lib.hid (HD.out.below HA.out.bl)
  have N4 := Lib.hid (next_any p 4 wb (by omega) (by omega) HDb.out)
  go_wp2_with (go_at_call 24; refine N4.out.mono ?_)
  rintro en w1 ⟨r, r0, r1, rfl, hd1, hb1⟩
  have HD1 := Lib.hid hd1
  have HA1 := Lib.hid (but_heap hb1 hpR HA.out.hp)
  have HB1 := Lib.hid (but_heap hb1 hpR2 HB.out.hp)
  have HK1 := Lib.hid ((But.of_below (p := p) HA.out.bl).trans hb1)
  have hR1 : R < w1.heap.size := lt_of_heap HA1.out
  clear hd1 hb1 N4 HA HB HDb HD
  have hr : r = 0 ∨ r = 1 ∨ r = 2 ∨ r = 3 := by omega
  rcases hr with rfl | rfl | rfl | rfl
  · have NK := Lib.hid (next_any p 4 (w1.alloc (.cells #[.int .i64 0, .int .i64 (-1), .int .i64 1048576, .int .i64 1048575] 3)) (by omega) (by omega) (HD1.out.below ((Below.refl _ _).alloc (Nat.le_refl _) _)))
    go_wp2_with (go_at_call 24; refine NK.out.mono ?_)
    rintro en w2 ⟨s, s0, s1, rfl, hd2, hb2⟩
    have HD2 := Lib.hid hd2
    have HA2 := Lib.hid (but_heap hb2 hpR (but_heap (p := p) (But.of_below ((Below.refl w1.heap.size w1).alloc (Nat.le_refl _) (.cells #[.int .i64 0, .int .i64 (-1), .int .i64 1048576, .int .i64 1048575] 3))) hpR HA1.out))
    have HB2 := Lib.hid (but_heap hb2 hpR2 (but_heap (p := p) (But.of_below ((Below.refl w1.heap.size w1).alloc (Nat.le_refl _) (.cells #[.int .i64 0, .int .i64 (-1), .int .i64 1048576, .int .i64 1048575] 3))) hpR2 HB1.out))
    have HK2 := Lib.hid ((HK1.out.bel ((Below.refl _ _).alloc HK1.out.size (.cells #[.int .i64 0, .int .i64 (-1), .int .i64 1048576, .int .i64 1048575] 3))).trans hb2)
    have hcl : ∀ i v, (#[.int .i64 0, .int .i64 (-1), .int .i64 1048576, .int .i64 1048575] : Array Value)[i]? = some v → w2.cell? ⟨w1.heap.size, i, none⟩ = some v := fun i v h => but_cell hb2 (Nat.lt_of_lt_of_le hpR (Nat.le_trans (Nat.le_of_lt hR1) (Nat.le_refl _))) (by rw [cell_of_row _ _ i _ _ _ (heap_alloc_new _ _)]; exact h)
    have c0 := hcl 0 _ rfl
    have c1 := hcl 1 _ rfl
    have c2 := hcl 2 _ rfl
    have c3 := hcl 3 _ rfl
    clear hcl hd2 hb2 NK HD1 HA1 HB1 HK1
    have hs : s = 0 ∨ s = 1 ∨ s = 2 ∨ s = 3 := by omega
    have e0 := cell_of_row _ _ 0 _ _ _ HA2.out
    have e1 := cell_of_row _ _ 1 _ _ _ HA2.out
    have e2 := cell_of_row _ _ 2 _ _ _ HA2.out
    have e3 := cell_of_row _ _ 3 _ _ _ HA2.out
    simp only [List.getElem?_toArray, List.getElem?_cons_zero, List.getElem?_cons_succ] at e0 e1 e2 e3
    have zf := frozen_of_row _ _ 0 _ _ HA2.out
    rcases hs with rfl | rfl | rfl | rfl
    · have HA3 := Lib.hid (heap_setCell_same _ R 0 _ _ (.int .i64 0) HA2.out)
      have HB3 := Lib.hid ((heap_setCell_other w2 ⟨R, 0, none⟩ R2 (.int .i64 0) hRR).trans HB2.out)
      have HD3 := Lib.hid (HD2.out.bel ((Below.refl w.heap.size w2).setCell (p := ⟨R, 0, none⟩) hRw (.int .i64 0)) hpw)
      have HK3 := Lib.hid (HK2.out.bel ((Below.refl w.heap.size w2).setCell (p := ⟨R, 0, none⟩) hRw (.int .i64 0)))
      go_upto_region 9 with fail
      generalize w2.setCell ⟨R, 0, none⟩ (.int .i64 0) = w3 at *
      clear e0 e1 e2 e3 zf
      have e0 := cell_of_row _ _ 0 _ _ _ HA3.out
      have e1 := cell_of_row _ _ 1 _ _ _ HA3.out
      have e2 := cell_of_row _ _ 2 _ _ _ HA3.out
      have e3 := cell_of_row _ _ 3 _ _ _ HA3.out
      simp at e0 e1 e2 e3
      have k0 := cell_of_row _ _ 0 _ _ _ HB3.out
      have k1 := cell_of_row _ _ 1 _ _ _ HB3.out
      have k2 := cell_of_row _ _ 2 _ _ _ HB3.out
      have k3 := cell_of_row _ _ 3 _ _ _ HB3.out
      simp only [List.getElem?_toArray, List.getElem?_cons_zero, List.getElem?_cons_succ] at k0 k1 k2 k3
      have z0 := frozen_of_row _ _ 0 _ _ HB3.out
      have z1 := frozen_of_row _ _ 1 _ _ HB3.out
      have z2 := frozen_of_row _ _ 2 _ _ HB3.out
      have z3 := frozen_of_row _ _ 3 _ _ HB3.out
      have HB4 := Lib.hid (heap4 HB3.out (.int .i64 0) (.int .i64 b) (.int .i64 c) (.int .i64 d))
      have HBW := Lib.hid (((((Below.refl w.heap.size w3).setCell (p := ⟨R2, 0, none⟩) hR2w (.int .i64 0)).setCell (p := ⟨R2, 1, none⟩) hR2w (.int .i64 b)).setCell (p := ⟨R2, 2, none⟩) hR2w (.int .i64 c)).setCell (p := ⟨R2, 3, none⟩) hR2w (.int .i64 d))
      have HD4 := Lib.hid (HD3.out.bel HBW.out hpw)
      have HK4 := Lib.hid (HK3.out.bel HBW.out)
      go_wp2_with fail
      generalize (((w3.setCell ⟨R2, 0, none⟩ (.int .i64 0)).setCell ⟨R2, 1, none⟩ (.int .i64 b)).setCell ⟨R2, 2, none⟩ (.int .i64 c)).setCell ⟨R2, 3, none⟩ (.int .i64 d) = W9 at *
      clear k0 k1 k2 k3 z0 z1 z2 z3
      have k0 := cell_of_row _ _ 0 _ _ _ HB4.out
      have k1 := cell_of_row _ _ 1 _ _ _ HB4.out
      have k2 := cell_of_row _ _ 2 _ _ _ HB4.out
      have k3 := cell_of_row _ _ 3 _ _ _ HB4.out
      simp only [List.getElem?_toArray, List.getElem?_cons_zero, List.getElem?_cons_succ] at k0 k1 k2 k3
      refine bodyPost_ret (v := .agg #[.int .i64 0, .int .i64 b, .int .i64 c, .int .i64 d]) (by simp [results, Tryz.results84, go_sem, k0, k1, k2, k3]) rfl ?_
      exact ⟨_, _, _, _, rfl, by omega, by omega, HD4.out, HK4.out⟩
    · have HA3 := Lib.hid (heap_setCell_same _ R 0 _ _ (.int .i64 (-1)) HA2.out)
      have HB3 := Lib.hid ((heap_setCell_other w2 ⟨R, 0, none⟩ R2 (.int .i64 (-1)) hRR).trans HB2.out)
      have HD3 := Lib.hid (HD2.out.bel ((Below.refl w.heap.size w2).setCell (p := ⟨R, 0, none⟩) hRw (.int .i64 (-1))) hpw)
      have HK3 := Lib.hid (HK2.out.bel ((Below.refl w.heap.size w2).setCell (p := ⟨R, 0, none⟩) hRw (.int .i64 (-1))))
      go_upto_region 9 with fail
      generalize w2.setCell ⟨R, 0, none⟩ (.int .i64 (-1)) = w3 at *
      clear e0 e1 e2 e3 zf
      have e0 := cell_of_row _ _ 0 _ _ _ HA3.out
      have e1 := cell_of_row _ _ 1 _ _ _ HA3.out
      have e2 := cell_of_row _ _ 2 _ _ _ HA3.out
      have e3 := cell_of_row _ _ 3 _ _ _ HA3.out
      simp at e0 e1 e2 e3
      have k0 := cell_of_row _ _ 0 _ _ _ HB3.out
      have k1 := cell_of_row _ _ 1 _ _ _ HB3.out
      have k2 := cell_of_row _ _ 2 _ _ _ HB3.out
      have k3 := cell_of_row _ _ 3 _ _ _ HB3.out
      simp only [List.getElem?_toArray, List.getElem?_cons_zero, List.getElem?_cons_succ] at k0 k1 k2 k3
      have z0 := frozen_of_row _ _ 0 _ _ HB3.out
      have z1 := frozen_of_row _ _ 1 _ _ HB3.out
      have z2 := frozen_of_row _ _ 2 _ _ HB3.out
      have z3 := frozen_of_row _ _ 3 _ _ HB3.out
      have HB4 := Lib.hid (heap4 HB3.out (.int .i64 (-1)) (.int .i64 b) (.int .i64 c) (.int .i64 d))
      have HBW := Lib.hid (((((Below.refl w.heap.size w3).setCell (p := ⟨R2, 0, none⟩) hR2w (.int .i64 (-1))).setCell (p := ⟨R2, 1, none⟩) hR2w (.int .i64 b)).setCell (p := ⟨R2, 2, none⟩) hR2w (.int .i64 c)).setCell (p := ⟨R2, 3, none⟩) hR2w (.int .i64 d))
      have HD4 := Lib.hid (HD3.out.bel HBW.out hpw)
      have HK4 := Lib.hid (HK3.out.bel HBW.out)
      go_wp2_with fail
      generalize (((w3.setCell ⟨R2, 0, none⟩ (.int .i64 (-1))).setCell ⟨R2, 1, none⟩ (.int .i64 b)).setCell ⟨R2, 2, none⟩ (.int .i64 c)).setCell ⟨R2, 3, none⟩ (.int .i64 d) = W9 at *
      clear k0 k1 k2 k3 z0 z1 z2 z3
      have k0 := cell_of_row _ _ 0 _ _ _ HB4.out
      have k1 := cell_of_row _ _ 1 _ _ _ HB4.out
      have k2 := cell_of_row _ _ 2 _ _ _ HB4.out
      have k3 := cell_of_row _ _ 3 _ _ _ HB4.out
      simp only [List.getElem?_toArray, List.getElem?_cons_zero, List.getElem?_cons_succ] at k0 k1 k2 k3
      refine bodyPost_ret (v := .agg #[.int .i64 (-1), .int .i64 b, .int .i64 c, .int .i64 d]) (by simp [results, Tryz.results84, go_sem, k0, k1, k2, k3]) rfl ?_
      exact ⟨_, _, _, _, rfl, by omega, by omega, HD4.out, HK4.out⟩
    · have HA3 := Lib.hid (heap_setCell_same _ R 0 _ _ (.int .i64 1048576) HA2.out)
      have HB3 := Lib.hid ((heap_setCell_other w2 ⟨R, 0, none⟩ R2 (.int .i64 1048576) hRR).trans HB2.out)
      have HD3 := Lib.hid (HD2.out.bel ((Below.refl w.heap.size w2).setCell (p := ⟨R, 0, none⟩) hRw (.int .i64 1048576)) hpw)
      have HK3 := Lib.hid (HK2.out.bel ((Below.refl w.heap.size w2).setCell (p := ⟨R, 0, none⟩) hRw (.int .i64 1048576)))
      go_upto_region 9 with fail
      generalize w2.setCell ⟨R, 0, none⟩ (.int .i64 1048576) = w3 at *
      clear e0 e1 e2 e3 zf
      have e0 := cell_of_row _ _ 0 _ _ _ HA3.out
      have e1 := cell_of_row _ _ 1 _ _ _ HA3.out
      have e2 := cell_of_row _ _ 2 _ _ _ HA3.out
      have e3 := cell_of_row _ _ 3 _ _ _ HA3.out
      simp at e0 e1 e2 e3
      have k0 := cell_of_row _ _ 0 _ _ _ HB3.out
      have k1 := cell_of_row _ _ 1 _ _ _ HB3.out
      have k2 := cell_of_row _ _ 2 _ _ _ HB3.out
      have k3 := cell_of_row _ _ 3 _ _ _ HB3.out
      simp only [List.getElem?_toArray, List.getElem?_cons_zero, List.getElem?_cons_succ] at k0 k1 k2 k3
      have z0 := frozen_of_row _ _ 0 _ _ HB3.out
      have z1 := frozen_of_row _ _ 1 _ _ HB3.out
      have z2 := frozen_of_row _ _ 2 _ _ HB3.out
      have z3 := frozen_of_row _ _ 3 _ _ HB3.out
      have HB4 := Lib.hid (heap4 HB3.out (.int .i64 1048576) (.int .i64 b) (.int .i64 c) (.int .i64 d))
      have HBW := Lib.hid (((((Below.refl w.heap.size w3).setCell (p := ⟨R2, 0, none⟩) hR2w (.int .i64 1048576)).setCell (p := ⟨R2, 1, none⟩) hR2w (.int .i64 b)).setCell (p := ⟨R2, 2, none⟩) hR2w (.int .i64 c)).setCell (p := ⟨R2, 3, none⟩) hR2w (.int .i64 d))
      have HD4 := Lib.hid (HD3.out.bel HBW.out hpw)
      have HK4 := Lib.hid (HK3.out.bel HBW.out)
      go_wp2_with fail
      generalize (((w3.setCell ⟨R2, 0, none⟩ (.int .i64 1048576)).setCell ⟨R2, 1, none⟩ (.int .i64 b)).setCell ⟨R2, 2, none⟩ (.int .i64 c)).setCell ⟨R2, 3, none⟩ (.int .i64 d) = W9 at *
      clear k0 k1 k2 k3 z0 z1 z2 z3
      have k0 := cell_of_row _ _ 0 _ _ _ HB4.out
      have k1 := cell_of_row _ _ 1 _ _ _ HB4.out
      have k2 := cell_of_row _ _ 2 _ _ _ HB4.out
      have k3 := cell_of_row _ _ 3 _ _ _ HB4.out
      simp only [List.getElem?_toArray, List.getElem?_cons_zero, List.getElem?_cons_succ] at k0 k1 k2 k3
      refine bodyPost_ret (v := .agg #[.int .i64 1048576, .int .i64 b, .int .i64 c, .int .i64 d]) (by simp [results, Tryz.results84, go_sem, k0, k1, k2, k3]) rfl ?_
      exact ⟨_, _, _, _, rfl, by omega, by omega, HD4.out, HK4.out⟩
    · have HA3 := Lib.hid (heap_setCell_same _ R 0 _ _ (.int .i64 1048575) HA2.out)
      have HB3 := Lib.hid ((heap_setCell_other w2 ⟨R, 0, none⟩ R2 (.int .i64 1048575) hRR).trans HB2.out)
      have HD3 := Lib.hid (HD2.out.bel ((Below.refl w.heap.size w2).setCell (p := ⟨R, 0, none⟩) hRw (.int .i64 1048575)) hpw)
      have HK3 := Lib.hid (HK2.out.bel ((Below.refl w.heap.size w2).setCell (p := ⟨R, 0, none⟩) hRw (.int .i64 1048575)))
      go_upto_region 9 with fail
      generalize w2.setCell ⟨R, 0, none⟩ (.int .i64 1048575) = w3 at *
      clear e0 e1 e2 e3 zf
      have e0 := cell_of_row _ _ 0 _ _ _ HA3.out
      have e1 := cell_of_row _ _ 1 _ _ _ HA3.out
      have e2 := cell_of_row _ _ 2 _ _ _ HA3.out
      have e3 := cell_of_row _ _ 3 _ _ _ HA3.out
      simp at e0 e1 e2 e3
      have k0 := cell_of_row _ _ 0 _ _ _ HB3.out
      have k1 := cell_of_row _ _ 1 _ _ _ HB3.out
      have k2 := cell_of_row _ _ 2 _ _ _ HB3.out
      have k3 := cell_of_row _ _ 3 _ _ _ HB3.out
      simp only [List.getElem?_toArray, List.getElem?_cons_zero, List.getElem?_cons_succ] at k0 k1 k2 k3
      have z0 := frozen_of_row _ _ 0 _ _ HB3.out
      have z1 := frozen_of_row _ _ 1 _ _ HB3.out
      have z2 := frozen_of_row _ _ 2 _ _ HB3.out
      have z3 := frozen_of_row _ _ 3 _ _ HB3.out
      have HB4 := Lib.hid (heap4 HB3.out (.int .i64 1048575) (.int .i64 b) (.int .i64 c) (.int .i64 d))
      have HBW := Lib.hid (((((Below.refl w.heap.size w3).setCell (p := ⟨R2, 0, none⟩) hR2w (.int .i64 1048575)).setCell (p := ⟨R2, 1, none⟩) hR2w (.int .i64 b)).setCell (p := ⟨R2, 2, none⟩) hR2w (.int .i64 c)).setCell (p := ⟨R2, 3, none⟩) hR2w (.int .i64 d))
      have HD4 := Lib.hid (HD3.out.bel HBW.out hpw)
      have HK4 := Lib.hid (HK3.out.bel HBW.out)
      go_wp2_with fail
      generalize (((w3.setCell ⟨R2, 0, none⟩ (.int .i64 1048575)).setCell ⟨R2, 1, none⟩ (.int .i64 b)).setCell ⟨R2, 2, none⟩ (.int .i64 c)).setCell ⟨R2, 3, none⟩ (.int .i64 d) = W9 at *
      clear k0 k1 k2 k3 z0 z1 z2 z3
      have k0 := cell_of_row _ _ 0 _ _ _ HB4.out
      have k1 := cell_of_row _ _ 1 _ _ _ HB4.out
      have k2 := cell_of_row _ _ 2 _ _ _ HB4.out
      have k3 := cell_of_row _ _ 3 _ _ _ HB4.out
      simp only [List.getElem?_toArray, List.getElem?_cons_zero, List.getElem?_cons_succ] at k0 k1 k2 k3
      refine bodyPost_ret (v := .agg #[.int .i64 1048575, .int .i64 b, .int .i64 c, .int .i64 d]) (by simp [results, Tryz.results84, go_sem, k0, k1, k2, k3]) rfl ?_
      exact ⟨_, _, _, _, rfl, by omega, by omega, HD4.out, HK4.out⟩
  · have NK := Lib.hid (next_any p 3 (w1.alloc (.cells #[.int .i64 (-1), .int .i64 6, .int .i64 7] 3)) (by omega) (by omega) (HD1.out.below ((Below.refl _ _).alloc (Nat.le_refl _) _)))
    go_wp2_with (go_at_call 24; refine NK.out.mono ?_)
    rintro en w2 ⟨s, s0, s1, rfl, hd2, hb2⟩
    have HD2 := Lib.hid hd2
    have HA2 := Lib.hid (but_heap hb2 hpR (but_heap (p := p) (But.of_below ((Below.refl w1.heap.size w1).alloc (Nat.le_refl _) (.cells #[.int .i64 (-1), .int .i64 6, .int .i64 7] 3))) hpR HA1.out))
    have HB2 := Lib.hid (but_heap hb2 hpR2 (but_heap (p := p) (But.of_below ((Below.refl w1.heap.size w1).alloc (Nat.le_refl _) (.cells #[.int .i64 (-1), .int .i64 6, .int .i64 7] 3))) hpR2 HB1.out))
    have HK2 := Lib.hid ((HK1.out.bel ((Below.refl _ _).alloc HK1.out.size (.cells #[.int .i64 (-1), .int .i64 6, .int .i64 7] 3))).trans hb2)
    have hcl : ∀ i v, (#[.int .i64 (-1), .int .i64 6, .int .i64 7] : Array Value)[i]? = some v → w2.cell? ⟨w1.heap.size, i, none⟩ = some v := fun i v h => but_cell hb2 (Nat.lt_of_lt_of_le hpR (Nat.le_trans (Nat.le_of_lt hR1) (Nat.le_refl _))) (by rw [cell_of_row _ _ i _ _ _ (heap_alloc_new _ _)]; exact h)
    have c0 := hcl 0 _ rfl
    have c1 := hcl 1 _ rfl
    have c2 := hcl 2 _ rfl
    clear hcl hd2 hb2 NK HD1 HA1 HB1 HK1
    have hs : s = 0 ∨ s = 1 ∨ s = 2 := by omega
    have e0 := cell_of_row _ _ 0 _ _ _ HA2.out
    have e1 := cell_of_row _ _ 1 _ _ _ HA2.out
    have e2 := cell_of_row _ _ 2 _ _ _ HA2.out
    have e3 := cell_of_row _ _ 3 _ _ _ HA2.out
    simp only [List.getElem?_toArray, List.getElem?_cons_zero, List.getElem?_cons_succ] at e0 e1 e2 e3
    have zf := frozen_of_row _ _ 1 _ _ HA2.out
    rcases hs with rfl | rfl | rfl
    · have HA3 := Lib.hid (heap_setCell_same _ R 1 _ _ (.int .i64 (-1)) HA2.out)
      have HB3 := Lib.hid ((heap_setCell_other w2 ⟨R, 1, none⟩ R2 (.int .i64 (-1)) hRR).trans HB2.out)
      have HD3 := Lib.hid (HD2.out.bel ((Below.refl w.heap.size w2).setCell (p := ⟨R, 1, none⟩) hRw (.int .i64 (-1))) hpw)
      have HK3 := Lib.hid (HK2.out.bel ((Below.refl w.heap.size w2).setCell (p := ⟨R, 1, none⟩) hRw (.int .i64 (-1))))
      go_upto_region 9 with fail
      generalize w2.setCell ⟨R, 1, none⟩ (.int .i64 (-1)) = w3 at *
      clear e0 e1 e2 e3 zf
      have e0 := cell_of_row _ _ 0 _ _ _ HA3.out
      have e1 := cell_of_row _ _ 1 _ _ _ HA3.out
      have e2 := cell_of_row _ _ 2 _ _ _ HA3.out
      have e3 := cell_of_row _ _ 3 _ _ _ HA3.out
      simp at e0 e1 e2 e3
      have k0 := cell_of_row _ _ 0 _ _ _ HB3.out
      have k1 := cell_of_row _ _ 1 _ _ _ HB3.out
      have k2 := cell_of_row _ _ 2 _ _ _ HB3.out
      have k3 := cell_of_row _ _ 3 _ _ _ HB3.out
      simp only [List.getElem?_toArray, List.getElem?_cons_zero, List.getElem?_cons_succ] at k0 k1 k2 k3
      have z0 := frozen_of_row _ _ 0 _ _ HB3.out
      have z1 := frozen_of_row _ _ 1 _ _ HB3.out
      have z2 := frozen_of_row _ _ 2 _ _ HB3.out
      have z3 := frozen_of_row _ _ 3 _ _ HB3.out
      have HB4 := Lib.hid (heap4 HB3.out (.int .i64 a) (.int .i64 (-1)) (.int .i64 c) (.int .i64 d))
      have HBW := Lib.hid (((((Below.refl w.heap.size w3).setCell (p := ⟨R2, 0, none⟩) hR2w (.int .i64 a)).setCell (p := ⟨R2, 1, none⟩) hR2w (.int .i64 (-1))).setCell (p := ⟨R2, 2, none⟩) hR2w (.int .i64 c)).setCell (p := ⟨R2, 3, none⟩) hR2w (.int .i64 d))
      have HD4 := Lib.hid (HD3.out.bel HBW.out hpw)
      have HK4 := Lib.hid (HK3.out.bel HBW.out)
      go_wp2_with fail
      generalize (((w3.setCell ⟨R2, 0, none⟩ (.int .i64 a)).setCell ⟨R2, 1, none⟩ (.int .i64 (-1))).setCell ⟨R2, 2, none⟩ (.int .i64 c)).setCell ⟨R2, 3, none⟩ (.int .i64 d) = W9 at *
      clear k0 k1 k2 k3 z0 z1 z2 z3
      have k0 := cell_of_row _ _ 0 _ _ _ HB4.out
      have k1 := cell_of_row _ _ 1 _ _ _ HB4.out
      have k2 := cell_of_row _ _ 2 _ _ _ HB4.out
      have k3 := cell_of_row _ _ 3 _ _ _ HB4.out
      simp only [List.getElem?_toArray, List.getElem?_cons_zero, List.getElem?_cons_succ] at k0 k1 k2 k3
      refine bodyPost_ret (v := .agg #[.int .i64 a, .int .i64 (-1), .int .i64 c, .int .i64 d]) (by simp [results, Tryz.results84, go_sem, k0, k1, k2, k3]) rfl ?_
      exact ⟨_, _, _, _, rfl, by omega, by omega, HD4.out, HK4.out⟩
    · have HA3 := Lib.hid (heap_setCell_same _ R 1 _ _ (.int .i64 6) HA2.out)
      have HB3 := Lib.hid ((heap_setCell_other w2 ⟨R, 1, none⟩ R2 (.int .i64 6) hRR).trans HB2.out)
      have HD3 := Lib.hid (HD2.out.bel ((Below.refl w.heap.size w2).setCell (p := ⟨R, 1, none⟩) hRw (.int .i64 6)) hpw)
      have HK3 := Lib.hid (HK2.out.bel ((Below.refl w.heap.size w2).setCell (p := ⟨R, 1, none⟩) hRw (.int .i64 6)))
      go_upto_region 9 with fail
      generalize w2.setCell ⟨R, 1, none⟩ (.int .i64 6) = w3 at *
      clear e0 e1 e2 e3 zf
      have e0 := cell_of_row _ _ 0 _ _ _ HA3.out
      have e1 := cell_of_row _ _ 1 _ _ _ HA3.out
      have e2 := cell_of_row _ _ 2 _ _ _ HA3.out
      have e3 := cell_of_row _ _ 3 _ _ _ HA3.out
      simp at e0 e1 e2 e3
      have k0 := cell_of_row _ _ 0 _ _ _ HB3.out
      have k1 := cell_of_row _ _ 1 _ _ _ HB3.out
      have k2 := cell_of_row _ _ 2 _ _ _ HB3.out
      have k3 := cell_of_row _ _ 3 _ _ _ HB3.out
      simp only [List.getElem?_toArray, List.getElem?_cons_zero, List.getElem?_cons_succ] at k0 k1 k2 k3
      have z0 := frozen_of_row _ _ 0 _ _ HB3.out
      have z1 := frozen_of_row _ _ 1 _ _ HB3.out
      have z2 := frozen_of_row _ _ 2 _ _ HB3.out
      have z3 := frozen_of_row _ _ 3 _ _ HB3.out
      have HB4 := Lib.hid (heap4 HB3.out (.int .i64 a) (.int .i64 6) (.int .i64 c) (.int .i64 d))
      have HBW := Lib.hid (((((Below.refl w.heap.size w3).setCell (p := ⟨R2, 0, none⟩) hR2w (.int .i64 a)).setCell (p := ⟨R2, 1, none⟩) hR2w (.int .i64 6)).setCell (p := ⟨R2, 2, none⟩) hR2w (.int .i64 c)).setCell (p := ⟨R2, 3, none⟩) hR2w (.int .i64 d))
      have HD4 := Lib.hid (HD3.out.bel HBW.out hpw)
      have HK4 := Lib.hid (HK3.out.bel HBW.out)
      go_wp2_with fail
      generalize (((w3.setCell ⟨R2, 0, none⟩ (.int .i64 a)).setCell ⟨R2, 1, none⟩ (.int .i64 6)).setCell ⟨R2, 2, none⟩ (.int .i64 c)).setCell ⟨R2, 3, none⟩ (.int .i64 d) = W9 at *
      clear k0 k1 k2 k3 z0 z1 z2 z3
      have k0 := cell_of_row _ _ 0 _ _ _ HB4.out
      have k1 := cell_of_row _ _ 1 _ _ _ HB4.out
      have k2 := cell_of_row _ _ 2 _ _ _ HB4.out
      have k3 := cell_of_row _ _ 3 _ _ _ HB4.out
      simp only [List.getElem?_toArray, List.getElem?_cons_zero, List.getElem?_cons_succ] at k0 k1 k2 k3
      refine bodyPost_ret (v := .agg #[.int .i64 a, .int .i64 6, .int .i64 c, .int .i64 d]) (by simp [results, Tryz.results84, go_sem, k0, k1, k2, k3]) rfl ?_
      exact ⟨_, _, _, _, rfl, by omega, by omega, HD4.out, HK4.out⟩
    · have HA3 := Lib.hid (heap_setCell_same _ R 1 _ _ (.int .i64 7) HA2.out)
      have HB3 := Lib.hid ((heap_setCell_other w2 ⟨R, 1, none⟩ R2 (.int .i64 7) hRR).trans HB2.out)
      have HD3 := Lib.hid (HD2.out.bel ((Below.refl w.heap.size w2).setCell (p := ⟨R, 1, none⟩) hRw (.int .i64 7)) hpw)
      have HK3 := Lib.hid (HK2.out.bel ((Below.refl w.heap.size w2).setCell (p := ⟨R, 1, none⟩) hRw (.int .i64 7)))
      go_upto_region 9 with fail
      generalize w2.setCell ⟨R, 1, none⟩ (.int .i64 7) = w3 at *
      clear e0 e1 e2 e3 zf
      have e0 := cell_of_row _ _ 0 _ _ _ HA3.out
      have e1 := cell_of_row _ _ 1 _ _ _ HA3.out
      have e2 := cell_of_row _ _ 2 _ _ _ HA3.out
      have e3 := cell_of_row _ _ 3 _ _ _ HA3.out
      simp at e0 e1 e2 e3
      have k0 := cell_of_row _ _ 0 _ _ _ HB3.out
      have k1 := cell_of_row _ _ 1 _ _ _ HB3.out
      have k2 := cell_of_row _ _ 2 _ _ _ HB3.out
      have k3 := cell_of_row _ _ 3 _ _ _ HB3.out
      simp only [List.getElem?_toArray, List.getElem?_cons_zero, List.getElem?_cons_succ] at k0 k1 k2 k3
      have z0 := frozen_of_row _ _ 0 _ _ HB3.out
      have z1 := frozen_of_row _ _ 1 _ _ HB3.out
      have z2 := frozen_of_row _ _ 2 _ _ HB3.out
      have z3 := frozen_of_row _ _ 3 _ _ HB3.out
      have HB4 := Lib.hid (heap4 HB3.out (.int .i64 a) (.int .i64 7) (.int .i64 c) (.int .i64 d))
      have HBW := Lib.hid (((((Below.refl w.heap.size w3).setCell (p := ⟨R2, 0, none⟩) hR2w (.int .i64 a)).setCell (p := ⟨R2, 1, none⟩) hR2w (.int .i64 7)).setCell (p := ⟨R2, 2, none⟩) hR2w (.int .i64 c)).setCell (p := ⟨R2, 3, none⟩) hR2w (.int .i64 d))
      have HD4 := Lib.hid (HD3.out.bel HBW.out hpw)
      have HK4 := Lib.hid (HK3.out.bel HBW.out)
      go_wp2_with fail
      generalize (((w3.setCell ⟨R2, 0, none⟩ (.int .i64 a)).setCell ⟨R2, 1, none⟩ (.int .i64 7)).setCell ⟨R2, 2, none⟩ (.int .i64 c)).setCell ⟨R2, 3, none⟩ (.int .i64 d) = W9 at *
      clear k0 k1 k2 k3 z0 z1 z2 z3
      have k0 := cell_of_row _ _ 0 _ _ _ HB4.out
      have k1 := cell_of_row _ _ 1 _ _ _ HB4.out
      have k2 := cell_of_row _ _ 2 _ _ _ HB4.out
      have k3 := cell_of_row _ _ 3 _ _ _ HB4.out
      simp only [List.getElem?_toArray, List.getElem?_cons_zero, List.getElem?_cons_succ] at k0 k1 k2 k3
      refine bodyPost_ret (v := .agg #[.int .i64 a, .int .i64 7, .int .i64 c, .int .i64 d]) (by simp [results, Tryz.results84, go_sem, k0, k1, k2, k3]) rfl ?_
      exact ⟨_, _, _, _, rfl, by omega, by omega, HD4.out, HK4.out⟩
  · have NK := Lib.hid (next_any p 4 (w1.alloc (.cells #[.int .i64 (-1), .int .i64 23, .int .i64 24, .int .i64 4611686018427387904] 3)) (by omega) (by omega) (HD1.out.below ((Below.refl _ _).alloc (Nat.le_refl _) _)))
    go_wp2_with (go_at_call 24; refine NK.out.mono ?_)
    rintro en w2 ⟨s, s0, s1, rfl, hd2, hb2⟩
    have HD2 := Lib.hid hd2
    have HA2 := Lib.hid (but_heap hb2 hpR (but_heap (p := p) (But.of_below ((Below.refl w1.heap.size w1).alloc (Nat.le_refl _) (.cells #[.int .i64 (-1), .int .i64 23, .int .i64 24, .int .i64 4611686018427387904] 3))) hpR HA1.out))
    have HB2 := Lib.hid (but_heap hb2 hpR2 (but_heap (p := p) (But.of_below ((Below.refl w1.heap.size w1).alloc (Nat.le_refl _) (.cells #[.int .i64 (-1), .int .i64 23, .int .i64 24, .int .i64 4611686018427387904] 3))) hpR2 HB1.out))
    have HK2 := Lib.hid ((HK1.out.bel ((Below.refl _ _).alloc HK1.out.size (.cells #[.int .i64 (-1), .int .i64 23, .int .i64 24, .int .i64 4611686018427387904] 3))).trans hb2)
    have hcl : ∀ i v, (#[.int .i64 (-1), .int .i64 23, .int .i64 24, .int .i64 4611686018427387904] : Array Value)[i]? = some v → w2.cell? ⟨w1.heap.size, i, none⟩ = some v := fun i v h => but_cell hb2 (Nat.lt_of_lt_of_le hpR (Nat.le_trans (Nat.le_of_lt hR1) (Nat.le_refl _))) (by rw [cell_of_row _ _ i _ _ _ (heap_alloc_new _ _)]; exact h)
    have c0 := hcl 0 _ rfl
    have c1 := hcl 1 _ rfl
    have c2 := hcl 2 _ rfl
    have c3 := hcl 3 _ rfl
    clear hcl hd2 hb2 NK HD1 HA1 HB1 HK1
    have hs : s = 0 ∨ s = 1 ∨ s = 2 ∨ s = 3 := by omega
    have e0 := cell_of_row _ _ 0 _ _ _ HA2.out
    have e1 := cell_of_row _ _ 1 _ _ _ HA2.out
    have e2 := cell_of_row _ _ 2 _ _ _ HA2.out
    have e3 := cell_of_row _ _ 3 _ _ _ HA2.out
    simp only [List.getElem?_toArray, List.getElem?_cons_zero, List.getElem?_cons_succ] at e0 e1 e2 e3
    have zf := frozen_of_row _ _ 2 _ _ HA2.out
    rcases hs with rfl | rfl | rfl | rfl
    · have HA3 := Lib.hid (heap_setCell_same _ R 2 _ _ (.int .i64 (-1)) HA2.out)
      have HB3 := Lib.hid ((heap_setCell_other w2 ⟨R, 2, none⟩ R2 (.int .i64 (-1)) hRR).trans HB2.out)
      have HD3 := Lib.hid (HD2.out.bel ((Below.refl w.heap.size w2).setCell (p := ⟨R, 2, none⟩) hRw (.int .i64 (-1))) hpw)
      have HK3 := Lib.hid (HK2.out.bel ((Below.refl w.heap.size w2).setCell (p := ⟨R, 2, none⟩) hRw (.int .i64 (-1))))
      go_upto_region 9 with fail
      generalize w2.setCell ⟨R, 2, none⟩ (.int .i64 (-1)) = w3 at *
      clear e0 e1 e2 e3 zf
      have e0 := cell_of_row _ _ 0 _ _ _ HA3.out
      have e1 := cell_of_row _ _ 1 _ _ _ HA3.out
      have e2 := cell_of_row _ _ 2 _ _ _ HA3.out
      have e3 := cell_of_row _ _ 3 _ _ _ HA3.out
      simp at e0 e1 e2 e3
      have k0 := cell_of_row _ _ 0 _ _ _ HB3.out
      have k1 := cell_of_row _ _ 1 _ _ _ HB3.out
      have k2 := cell_of_row _ _ 2 _ _ _ HB3.out
      have k3 := cell_of_row _ _ 3 _ _ _ HB3.out
      simp only [List.getElem?_toArray, List.getElem?_cons_zero, List.getElem?_cons_succ] at k0 k1 k2 k3
      have z0 := frozen_of_row _ _ 0 _ _ HB3.out
      have z1 := frozen_of_row _ _ 1 _ _ HB3.out
      have z2 := frozen_of_row _ _ 2 _ _ HB3.out
      have z3 := frozen_of_row _ _ 3 _ _ HB3.out
      have HB4 := Lib.hid (heap4 HB3.out (.int .i64 a) (.int .i64 b) (.int .i64 (-1)) (.int .i64 d))
      have HBW := Lib.hid (((((Below.refl w.heap.size w3).setCell (p := ⟨R2, 0, none⟩) hR2w (.int .i64 a)).setCell (p := ⟨R2, 1, none⟩) hR2w (.int .i64 b)).setCell (p := ⟨R2, 2, none⟩) hR2w (.int .i64 (-1))).setCell (p := ⟨R2, 3, none⟩) hR2w (.int .i64 d))
      have HD4 := Lib.hid (HD3.out.bel HBW.out hpw)
      have HK4 := Lib.hid (HK3.out.bel HBW.out)
      go_wp2_with fail
      generalize (((w3.setCell ⟨R2, 0, none⟩ (.int .i64 a)).setCell ⟨R2, 1, none⟩ (.int .i64 b)).setCell ⟨R2, 2, none⟩ (.int .i64 (-1))).setCell ⟨R2, 3, none⟩ (.int .i64 d) = W9 at *
      clear k0 k1 k2 k3 z0 z1 z2 z3
      have k0 := cell_of_row _ _ 0 _ _ _ HB4.out
      have k1 := cell_of_row _ _ 1 _ _ _ HB4.out
      have k2 := cell_of_row _ _ 2 _ _ _ HB4.out
      have k3 := cell_of_row _ _ 3 _ _ _ HB4.out
      simp only [List.getElem?_toArray, List.getElem?_cons_zero, List.getElem?_cons_succ] at k0 k1 k2 k3
      refine bodyPost_ret (v := .agg #[.int .i64 a, .int .i64 b, .int .i64 (-1), .int .i64 d]) (by simp [results, Tryz.results84, go_sem, k0, k1, k2, k3]) rfl ?_
      exact ⟨_, _, _, _, rfl, by omega, by omega, HD4.out, HK4.out⟩
    · have HA3 := Lib.hid (heap_setCell_same _ R 2 _ _ (.int .i64 23) HA2.out)
      have HB3 := Lib.hid ((heap_setCell_other w2 ⟨R, 2, none⟩ R2 (.int .i64 23) hRR).trans HB2.out)
      have HD3 := Lib.hid (HD2.out.bel ((Below.refl w.heap.size w2).setCell (p := ⟨R, 2, none⟩) hRw (.int .i64 23)) hpw)
      have HK3 := Lib.hid (HK2.out.bel ((Below.refl w.heap.size w2).setCell (p := ⟨R, 2, none⟩) hRw (.int .i64 23)))
      go_upto_region 9 with fail
      generalize w2.setCell ⟨R, 2, none⟩ (.int .i64 23) = w3 at *
      clear e0 e1 e2 e3 zf
      have e0 := cell_of_row _ _ 0 _ _ _ HA3.out
      have e1 := cell_of_row _ _ 1 _ _ _ HA3.out
      have e2 := cell_of_row _ _ 2 _ _ _ HA3.out
      have e3 := cell_of_row _ _ 3 _ _ _ HA3.out
      simp at e0 e1 e2 e3
      have k0 := cell_of_row _ _ 0 _ _ _ HB3.out
      have k1 := cell_of_row _ _ 1 _ _ _ HB3.out
      have k2 := cell_of_row _ _ 2 _ _ _ HB3.out
      have k3 := cell_of_row _ _ 3 _ _ _ HB3.out
      simp only [List.getElem?_toArray, List.getElem?_cons_zero, List.getElem?_cons_succ] at k0 k1 k2 k3
      have z0 := frozen_of_row _ _ 0 _ _ HB3.out
      have z1 := frozen_of_row _ _ 1 _ _ HB3.out
      have z2 := frozen_of_row _ _ 2 _ _ HB3.out
      have z3 := frozen_of_row _ _ 3 _ _ HB3.out
      have HB4 := Lib.hid (heap4 HB3.out (.int .i64 a) (.int .i64 b) (.int .i64 23) (.int .i64 d))
      have HBW := Lib.hid (((((Below.refl w.heap.size w3).setCell (p := ⟨R2, 0, none⟩) hR2w (.int .i64 a)).setCell (p := ⟨R2, 1, none⟩) hR2w (.int .i64 b)).setCell (p := ⟨R2, 2, none⟩) hR2w (.int .i64 23)).setCell (p := ⟨R2, 3, none⟩) hR2w (.int .i64 d))
      have HD4 := Lib.hid (HD3.out.bel HBW.out hpw)
      have HK4 := Lib.hid (HK3.out.bel HBW.out)
      go_wp2_with fail
      generalize (((w3.setCell ⟨R2, 0, none⟩ (.int .i64 a)).setCell ⟨R2, 1, none⟩ (.int .i64 b)).setCell ⟨R2, 2, none⟩ (.int .i64 23)).setCell ⟨R2, 3, none⟩ (.int .i64 d) = W9 at *
      clear k0 k1 k2 k3 z0 z1 z2 z3
      have k0 := cell_of_row _ _ 0 _ _ _ HB4.out
      have k1 := cell_of_row _ _ 1 _ _ _ HB4.out
      have k2 := cell_of_row _ _ 2 _ _ _ HB4.out
      have k3 := cell_of_row _ _ 3 _ _ _ HB4.out
      simp only [List.getElem?_toArray, List.getElem?_cons_zero, List.getElem?_cons_succ] at k0 k1 k2 k3
      refine bodyPost_ret (v := .agg #[.int .i64 a, .int .i64 b, .int .i64 23, .int .i64 d]) (by simp [results, Tryz.results84, go_sem, k0, k1, k2, k3]) rfl ?_
      exact ⟨_, _, _, _, rfl, by omega, by omega, HD4.out, HK4.out⟩
    · have HA3 := Lib.hid (heap_setCell_same _ R 2 _ _ (.int .i64 24) HA2.out)
      have HB3 := Lib.hid ((heap_setCell_other w2 ⟨R, 2, none⟩ R2 (.int .i64 24) hRR).trans HB2.out)
      have HD3 := Lib.hid (HD2.out.bel ((Below.refl w.heap.size w2).setCell (p := ⟨R, 2, none⟩) hRw (.int .i64 24)) hpw)
      have HK3 := Lib.hid (HK2.out.bel ((Below.refl w.heap.size w2).setCell (p := ⟨R, 2, none⟩) hRw (.int .i64 24)))
      go_upto_region 9 with fail
      generalize w2.setCell ⟨R, 2, none⟩ (.int .i64 24) = w3 at *
      clear e0 e1 e2 e3 zf
      have e0 := cell_of_row _ _ 0 _ _ _ HA3.out
      have e1 := cell_of_row _ _ 1 _ _ _ HA3.out
      have e2 := cell_of_row _ _ 2 _ _ _ HA3.out
      have e3 := cell_of_row _ _ 3 _ _ _ HA3.out
      simp at e0 e1 e2 e3
      have k0 := cell_of_row _ _ 0 _ _ _ HB3.out
      have k1 := cell_of_row _ _ 1 _ _ _ HB3.out
      have k2 := cell_of_row _ _ 2 _ _ _ HB3.out
      have k3 := cell_of_row _ _ 3 _ _ _ HB3.out
      simp only [List.getElem?_toArray, List.getElem?_cons_zero, List.getElem?_cons_succ] at k0 k1 k2 k3
      have z0 := frozen_of_row _ _ 0 _ _ HB3.out
      have z1 := frozen_of_row _ _ 1 _ _ HB3.out
      have z2 := frozen_of_row _ _ 2 _ _ HB3.out
      have z3 := frozen_of_row _ _ 3 _ _ HB3.out
      have HB4 := Lib.hid (heap4 HB3.out (.int .i64 a) (.int .i64 b) (.int .i64 24) (.int .i64 d))
      have HBW := Lib.hid (((((Below.refl w.heap.size w3).setCell (p := ⟨R2, 0, none⟩) hR2w (.int .i64 a)).setCell (p := ⟨R2, 1, none⟩) hR2w (.int .i64 b)).setCell (p := ⟨R2, 2, none⟩) hR2w (.int .i64 24)).setCell (p := ⟨R2, 3, none⟩) hR2w (.int .i64 d))
      have HD4 := Lib.hid (HD3.out.bel HBW.out hpw)
      have HK4 := Lib.hid (HK3.out.bel HBW.out)
      go_wp2_with fail
      generalize (((w3.setCell ⟨R2, 0, none⟩ (.int .i64 a)).setCell ⟨R2, 1, none⟩ (.int .i64 b)).setCell ⟨R2, 2, none⟩ (.int .i64 24)).setCell ⟨R2, 3, none⟩ (.int .i64 d) = W9 at *
      clear k0 k1 k2 k3 z0 z1 z2 z3
      have k0 := cell_of_row _ _ 0 _ _ _ HB4.out
      have k1 := cell_of_row _ _ 1 _ _ _ HB4.out
      have k2 := cell_of_row _ _ 2 _ _ _ HB4.out
      have k3 := cell_of_row _ _ 3 _ _ _ HB4.out
      simp only [List.getElem?_toArray, List.getElem?_cons_zero, List.getElem?_cons_succ] at k0 k1 k2 k3
      refine bodyPost_ret (v := .agg #[.int .i64 a, .int .i64 b, .int .i64 24, .int .i64 d]) (by simp [results, Tryz.results84, go_sem, k0, k1, k2, k3]) rfl ?_
      exact ⟨_, _, _, _, rfl, by omega, by omega, HD4.out, HK4.out⟩
    · have HA3 := Lib.hid (heap_setCell_same _ R 2 _ _ (.int .i64 4611686018427387904) HA2.out)
      have HB3 := Lib.hid ((heap_setCell_other w2 ⟨R, 2, none⟩ R2 (.int .i64 4611686018427387904) hRR).trans HB2.out)
      have HD3 := Lib.hid (HD2.out.bel ((Below.refl w.heap.size w2).setCell (p := ⟨R, 2, none⟩) hRw (.int .i64 4611686018427387904)) hpw)
      have HK3 := Lib.hid (HK2.out.bel ((Below.refl w.heap.size w2).setCell (p := ⟨R, 2, none⟩) hRw (.int .i64 4611686018427387904)))
      go_upto_region 9 with fail
      generalize w2.setCell ⟨R, 2, none⟩ (.int .i64 4611686018427387904) = w3 at *
      clear e0 e1 e2 e3 zf
      have e0 := cell_of_row _ _ 0 _ _ _ HA3.out
      have e1 := cell_of_row _ _ 1 _ _ _ HA3.out
      have e2 := cell_of_row _ _ 2 _ _ _ HA3.out
      have e3 := cell_of_row _ _ 3 _ _ _ HA3.out
      simp at e0 e1 e2 e3
      have k0 := cell_of_row _ _ 0 _ _ _ HB3.out
      have k1 := cell_of_row _ _ 1 _ _ _ HB3.out
      have k2 := cell_of_row _ _ 2 _ _ _ HB3.out
      have k3 := cell_of_row _ _ 3 _ _ _ HB3.out
      simp only [List.getElem?_toArray, List.getElem?_cons_zero, List.getElem?_cons_succ] at k0 k1 k2 k3
      have z0 := frozen_of_row _ _ 0 _ _ HB3.out
      have z1 := frozen_of_row _ _ 1 _ _ HB3.out
      have z2 := frozen_of_row _ _ 2 _ _ HB3.out
      have z3 := frozen_of_row _ _ 3 _ _ HB3.out
      have HB4 := Lib.hid (heap4 HB3.out (.int .i64 a) (.int .i64 b) (.int .i64 4611686018427387904) (.int .i64 d))
      have HBW := Lib.hid (((((Below.refl w.heap.size w3).setCell (p := ⟨R2, 0, none⟩) hR2w (.int .i64 a)).setCell (p := ⟨R2, 1, none⟩) hR2w (.int .i64 b)).setCell (p := ⟨R2, 2, none⟩) hR2w (.int .i64 4611686018427387904)).setCell (p := ⟨R2, 3, none⟩) hR2w (.int .i64 d))
      have HD4 := Lib.hid (HD3.out.bel HBW.out hpw)
      have HK4 := Lib.hid (HK3.out.bel HBW.out)
      go_wp2_with fail
      generalize (((w3.setCell ⟨R2, 0, none⟩ (.int .i64 a)).setCell ⟨R2, 1, none⟩ (.int .i64 b)).setCell ⟨R2, 2, none⟩ (.int .i64 4611686018427387904)).setCell ⟨R2, 3, none⟩ (.int .i64 d) = W9 at *
      clear k0 k1 k2 k3 z0 z1 z2 z3
      have k0 := cell_of_row _ _ 0 _ _ _ HB4.out
      have k1 := cell_of_row _ _ 1 _ _ _ HB4.out
      have k2 := cell_of_row _ _ 2 _ _ _ HB4.out
      have k3 := cell_of_row _ _ 3 _ _ _ HB4.out
      simp only [List.getElem?_toArray, List.getElem?_cons_zero, List.getElem?_cons_succ] at k0 k1 k2 k3
      refine bodyPost_ret (v := .agg #[.int .i64 a, .int .i64 b, .int .i64 4611686018427387904, .int .i64 d]) (by simp [results, Tryz.results84, go_sem, k0, k1, k2, k3]) rfl ?_
      exact ⟨_, _, _, _, rfl, by omega, by omega, HD4.out, HK4.out⟩
  · have NK := Lib.hid (next_any p 5 (w1.alloc (.cells #[.int .i64 0, .int .i64 24, .int .i64 25, .int .i64 (-1), .int .i64 4611686018427387904] 3)) (by omega) (by omega) (HD1.out.below ((Below.refl _ _).alloc (Nat.le_refl _) _)))
    go_wp2_with (go_at_call 24; refine NK.out.mono ?_)
    rintro en w2 ⟨s, s0, s1, rfl, hd2, hb2⟩
    have HD2 := Lib.hid hd2
    have HA2 := Lib.hid (but_heap hb2 hpR (but_heap (p := p) (But.of_below ((Below.refl w1.heap.size w1).alloc (Nat.le_refl _) (.cells #[.int .i64 0, .int .i64 24, .int .i64 25, .int .i64 (-1), .int .i64 4611686018427387904] 3))) hpR HA1.out))
    have HB2 := Lib.hid (but_heap hb2 hpR2 (but_heap (p := p) (But.of_below ((Below.refl w1.heap.size w1).alloc (Nat.le_refl _) (.cells #[.int .i64 0, .int .i64 24, .int .i64 25, .int .i64 (-1), .int .i64 4611686018427387904] 3))) hpR2 HB1.out))
    have HK2 := Lib.hid ((HK1.out.bel ((Below.refl _ _).alloc HK1.out.size (.cells #[.int .i64 0, .int .i64 24, .int .i64 25, .int .i64 (-1), .int .i64 4611686018427387904] 3))).trans hb2)
    have hcl : ∀ i v, (#[.int .i64 0, .int .i64 24, .int .i64 25, .int .i64 (-1), .int .i64 4611686018427387904] : Array Value)[i]? = some v → w2.cell? ⟨w1.heap.size, i, none⟩ = some v := fun i v h => but_cell hb2 (Nat.lt_of_lt_of_le hpR (Nat.le_trans (Nat.le_of_lt hR1) (Nat.le_refl _))) (by rw [cell_of_row _ _ i _ _ _ (heap_alloc_new _ _)]; exact h)
    have c0 := hcl 0 _ rfl
    have c1 := hcl 1 _ rfl
    have c2 := hcl 2 _ rfl
    have c3 := hcl 3 _ rfl
    have c4 := hcl 4 _ rfl
    clear hcl hd2 hb2 NK HD1 HA1 HB1 HK1
    have hs : s = 0 ∨ s = 1 ∨ s = 2 ∨ s = 3 ∨ s = 4 := by omega
    have e0 := cell_of_row _ _ 0 _ _ _ HA2.out
    have e1 := cell_of_row _ _ 1 _ _ _ HA2.out
    have e2 := cell_of_row _ _ 2 _ _ _ HA2.out
    have e3 := cell_of_row _ _ 3 _ _ _ HA2.out
    simp only [List.getElem?_toArray, List.getElem?_cons_zero, List.getElem?_cons_succ] at e0 e1 e2 e3
    have zf := frozen_of_row _ _ 3 _ _ HA2.out
    rcases hs with rfl | rfl | rfl | rfl | rfl
    · have HA3 := Lib.hid (heap_setCell_same _ R 3 _ _ (.int .i64 0) HA2.out)
      have HB3 := Lib.hid ((heap_setCell_other w2 ⟨R, 3, none⟩ R2 (.int .i64 0) hRR).trans HB2.out)
      have HD3 := Lib.hid (HD2.out.bel ((Below.refl w.heap.size w2).setCell (p := ⟨R, 3, none⟩) hRw (.int .i64 0)) hpw)
      have HK3 := Lib.hid (HK2.out.bel ((Below.refl w.heap.size w2).setCell (p := ⟨R, 3, none⟩) hRw (.int .i64 0)))
      go_upto_region 9 with fail
      generalize w2.setCell ⟨R, 3, none⟩ (.int .i64 0) = w3 at *
      clear e0 e1 e2 e3 zf
      have e0 := cell_of_row _ _ 0 _ _ _ HA3.out
      have e1 := cell_of_row _ _ 1 _ _ _ HA3.out
      have e2 := cell_of_row _ _ 2 _ _ _ HA3.out
      have e3 := cell_of_row _ _ 3 _ _ _ HA3.out
      simp at e0 e1 e2 e3
      have k0 := cell_of_row _ _ 0 _ _ _ HB3.out
      have k1 := cell_of_row _ _ 1 _ _ _ HB3.out
      have k2 := cell_of_row _ _ 2 _ _ _ HB3.out
      have k3 := cell_of_row _ _ 3 _ _ _ HB3.out
      simp only [List.getElem?_toArray, List.getElem?_cons_zero, List.getElem?_cons_succ] at k0 k1 k2 k3
      have z0 := frozen_of_row _ _ 0 _ _ HB3.out
      have z1 := frozen_of_row _ _ 1 _ _ HB3.out
      have z2 := frozen_of_row _ _ 2 _ _ HB3.out
      have z3 := frozen_of_row _ _ 3 _ _ HB3.out
      have HB4 := Lib.hid (heap4 HB3.out (.int .i64 a) (.int .i64 b) (.int .i64 c) (.int .i64 0))
      have HBW := Lib.hid (((((Below.refl w.heap.size w3).setCell (p := ⟨R2, 0, none⟩) hR2w (.int .i64 a)).setCell (p := ⟨R2, 1, none⟩) hR2w (.int .i64 b)).setCell (p := ⟨R2, 2, none⟩) hR2w (.int .i64 c)).setCell (p := ⟨R2, 3, none⟩) hR2w (.int .i64 0))
      have HD4 := Lib.hid (HD3.out.bel HBW.out hpw)
      have HK4 := Lib.hid (HK3.out.bel HBW.out)
      go_wp2_with fail
      generalize (((w3.setCell ⟨R2, 0, none⟩ (.int .i64 a)).setCell ⟨R2, 1, none⟩ (.int .i64 b)).setCell ⟨R2, 2, none⟩ (.int .i64 c)).setCell ⟨R2, 3, none⟩ (.int .i64 0) = W9 at *
      clear k0 k1 k2 k3 z0 z1 z2 z3
      have k0 := cell_of_row _ _ 0 _ _ _ HB4.out
      have k1 := cell_of_row _ _ 1 _ _ _ HB4.out
      have k2 := cell_of_row _ _ 2 _ _ _ HB4.out
      have k3 := cell_of_row _ _ 3 _ _ _ HB4.out
      simp only [List.getElem?_toArray, List.getElem?_cons_zero, List.getElem?_cons_succ] at k0 k1 k2 k3
      refine bodyPost_ret (v := .agg #[.int .i64 a, .int .i64 b, .int .i64 c, .int .i64 0]) (by simp [results, Tryz.results84, go_sem, k0, k1, k2, k3]) rfl ?_
      exact ⟨_, _, _, _, rfl, by omega, by omega, HD4.out, HK4.out⟩
    · have HA3 := Lib.hid (heap_setCell_same _ R 3 _ _ (.int .i64 24) HA2.out)
      have HB3 := Lib.hid ((heap_setCell_other w2 ⟨R, 3, none⟩ R2 (.int .i64 24) hRR).trans HB2.out)
      have HD3 := Lib.hid (HD2.out.bel ((Below.refl w.heap.size w2).setCell (p := ⟨R, 3, none⟩) hRw (.int .i64 24)) hpw)
      have HK3 := Lib.hid (HK2.out.bel ((Below.refl w.heap.size w2).setCell (p := ⟨R, 3, none⟩) hRw (.int .i64 24)))
      go_upto_region 9 with fail
      generalize w2.setCell ⟨R, 3, none⟩ (.int .i64 24) = w3 at *
      clear e0 e1 e2 e3 zf
      have e0 := cell_of_row _ _ 0 _ _ _ HA3.out
      have e1 := cell_of_row _ _ 1 _ _ _ HA3.out
      have e2 := cell_of_row _ _ 2 _ _ _ HA3.out
      have e3 := cell_of_row _ _ 3 _ _ _ HA3.out
      simp at e0 e1 e2 e3
      have k0 := cell_of_row _ _ 0 _ _ _ HB3.out
      have k1 := cell_of_row _ _ 1 _ _ _ HB3.out
      have k2 := cell_of_row _ _ 2 _ _ _ HB3.out
      have k3 := cell_of_row _ _ 3 _ _ _ HB3.out
      simp only [List.getElem?_toArray, List.getElem?_cons_zero, List.getElem?_cons_succ] at k0 k1 k2 k3
      have z0 := frozen_of_row _ _ 0 _ _ HB3.out
      have z1 := frozen_of_row _ _ 1 _ _ HB3.out
      have z2 := frozen_of_row _ _ 2 _ _ HB3.out
      have z3 := frozen_of_row _ _ 3 _ _ HB3.out
      have HB4 := Lib.hid (heap4 HB3.out (.int .i64 a) (.int .i64 b) (.int .i64 c) (.int .i64 24))
      have HBW := Lib.hid (((((Below.refl w.heap.size w3).setCell (p := ⟨R2, 0, none⟩) hR2w (.int .i64 a)).setCell (p := ⟨R2, 1, none⟩) hR2w (.int .i64 b)).setCell (p := ⟨R2, 2, none⟩) hR2w (.int .i64 c)).setCell (p := ⟨R2, 3, none⟩) hR2w (.int .i64 24))
      have HD4 := Lib.hid (HD3.out.bel HBW.out hpw)
      have HK4 := Lib.hid (HK3.out.bel HBW.out)
      go_wp2_with fail
      generalize (((w3.setCell ⟨R2, 0, none⟩ (.int .i64 a)).setCell ⟨R2, 1, none⟩ (.int .i64 b)).setCell ⟨R2, 2, none⟩ (.int .i64 c)).setCell ⟨R2, 3, none⟩ (.int .i64 24) = W9 at *
      clear k0 k1 k2 k3 z0 z1 z2 z3
      have k0 := cell_of_row _ _ 0 _ _ _ HB4.out
      have k1 := cell_of_row _ _ 1 _ _ _ HB4.out
      have k2 := cell_of_row _ _ 2 _ _ _ HB4.out
      have k3 := cell_of_row _ _ 3 _ _ _ HB4.out
      simp only [List.getElem?_toArray, List.getElem?_cons_zero, List.getElem?_cons_succ] at k0 k1 k2 k3
      refine bodyPost_ret (v := .agg #[.int .i64 a, .int .i64 b, .int .i64 c, .int .i64 24]) (by simp [results, Tryz.results84, go_sem, k0, k1, k2, k3]) rfl ?_
      exact ⟨_, _, _, _, rfl, by omega, by omega, HD4.out, HK4.out⟩
    · have HA3 := Lib.hid (heap_setCell_same _ R 3 _ _ (.int .i64 25) HA2.out)
      have HB3 := Lib.hid ((heap_setCell_other w2 ⟨R, 3, none⟩ R2 (.int .i64 25) hRR).trans HB2.out)
      have HD3 := Lib.hid (HD2.out.bel ((Below.refl w.heap.size w2).setCell (p := ⟨R, 3, none⟩) hRw (.int .i64 25)) hpw)
      have HK3 := Lib.hid (HK2.out.bel ((Below.refl w.heap.size w2).setCell (p := ⟨R, 3, none⟩) hRw (.int .i64 25)))
      go_upto_region 9 with fail
      generalize w2.setCell ⟨R, 3, none⟩ (.int .i64 25) = w3 at *
      clear e0 e1 e2 e3 zf
      have e0 := cell_of_row _ _ 0 _ _ _ HA3.out
      have e1 := cell_of_row _ _ 1 _ _ _ HA3.out
      have e2 := cell_of_row _ _ 2 _ _ _ HA3.out
      have e3 := cell_of_row _ _ 3 _ _ _ HA3.out
      simp at e0 e1 e2 e3
      have k0 := cell_of_row _ _ 0 _ _ _ HB3.out
      have k1 := cell_of_row _ _ 1 _ _ _ HB3.out
      have k2 := cell_of_row _ _ 2 _ _ _ HB3.out
      have k3 := cell_of_row _ _ 3 _ _ _ HB3.out
      simp only [List.getElem?_toArray, List.getElem?_cons_zero, List.getElem?_cons_succ] at k0 k1 k2 k3
      have z0 := frozen_of_row _ _ 0 _ _ HB3.out
      have z1 := frozen_of_row _ _ 1 _ _ HB3.out
      have z2 := frozen_of_row _ _ 2 _ _ HB3.out
      have z3 := frozen_of_row _ _ 3 _ _ HB3.out
      have HB4 := Lib.hid (heap4 HB3.out (.int .i64 a) (.int .i64 b) (.int .i64 c) (.int .i64 25))
      have HBW := Lib.hid (((((Below.refl w.heap.size w3).setCell (p := ⟨R2, 0, none⟩) hR2w (.int .i64 a)).setCell (p := ⟨R2, 1, none⟩) hR2w (.int .i64 b)).setCell (p := ⟨R2, 2, none⟩) hR2w (.int .i64 c)).setCell (p := ⟨R2, 3, none⟩) hR2w (.int .i64 25))
      have HD4 := Lib.hid (HD3.out.bel HBW.out hpw)
      have HK4 := Lib.hid (HK3.out.bel HBW.out)
      go_wp2_with fail
      generalize (((w3.setCell ⟨R2, 0, none⟩ (.int .i64 a)).setCell ⟨R2, 1, none⟩ (.int .i64 b)).setCell ⟨R2, 2, none⟩ (.int .i64 c)).setCell ⟨R2, 3, none⟩ (.int .i64 25) = W9 at *
      clear k0 k1 k2 k3 z0 z1 z2 z3
      have k0 := cell_of_row _ _ 0 _ _ _ HB4.out
      have k1 := cell_of_row _ _ 1 _ _ _ HB4.out
      have k2 := cell_of_row _ _ 2 _ _ _ HB4.out
      have k3 := cell_of_row _ _ 3 _ _ _ HB4.out
      simp only [List.getElem?_toArray, List.getElem?_cons_zero, List.getElem?_cons_succ] at k0 k1 k2 k3
      refine bodyPost_ret (v := .agg #[.int .i64 a, .int .i64 b, .int .i64 c, .int .i64 25]) (by simp [results, Tryz.results84, go_sem, k0, k1, k2, k3]) rfl ?_
      exact ⟨_, _, _, _, rfl, by omega, by omega, HD4.out, HK4.out⟩
    · have HA3 := Lib.hid (heap_setCell_same _ R 3 _ _ (.int .i64 (-1)) HA2.out)
      have HB3 := Lib.hid ((heap_setCell_other w2 ⟨R, 3, none⟩ R2 (.int .i64 (-1)) hRR).trans HB2.out)
      have HD3 := Lib.hid (HD2.out.bel ((Below.refl w.heap.size w2).setCell (p := ⟨R, 3, none⟩) hRw (.int .i64 (-1))) hpw)
      have HK3 := Lib.hid (HK2.out.bel ((Below.refl w.heap.size w2).setCell (p := ⟨R, 3, none⟩) hRw (.int .i64 (-1))))
      go_upto_region 9 with fail
      generalize w2.setCell ⟨R, 3, none⟩ (.int .i64 (-1)) = w3 at *
      clear e0 e1 e2 e3 zf
      have e0 := cell_of_row _ _ 0 _ _ _ HA3.out
      have e1 := cell_of_row _ _ 1 _ _ _ HA3.out
      have e2 := cell_of_row _ _ 2 _ _ _ HA3.out
      have e3 := cell_of_row _ _ 3 _ _ _ HA3.out
      simp at e0 e1 e2 e3
      have k0 := cell_of_row _ _ 0 _ _ _ HB3.out
      have k1 := cell_of_row _ _ 1 _ _ _ HB3.out
      have k2 := cell_of_row _ _ 2 _ _ _ HB3.out
      have k3 := cell_of_row _ _ 3 _ _ _ HB3.out
      simp only [List.getElem?_toArray, List.getElem?_cons_zero, List.getElem?_cons_succ] at k0 k1 k2 k3
      have z0 := frozen_of_row _ _ 0 _ _ HB3.out
      have z1 := frozen_of_row _ _ 1 _ _ HB3.out
      have z2 := frozen_of_row _ _ 2 _ _ HB3.out
      have z3 := frozen_of_row _ _ 3 _ _ HB3.out
      have HB4 := Lib.hid (heap4 HB3.out (.int .i64 a) (.int .i64 b) (.int .i64 c) (.int .i64 (-1)))
      have HBW := Lib.hid (((((Below.refl w.heap.size w3).setCell (p := ⟨R2, 0, none⟩) hR2w (.int .i64 a)).setCell (p := ⟨R2, 1, none⟩) hR2w (.int .i64 b)).setCell (p := ⟨R2, 2, none⟩) hR2w (.int .i64 c)).setCell (p := ⟨R2, 3, none⟩) hR2w (.int .i64 (-1)))
      have HD4 := Lib.hid (HD3.out.bel HBW.out hpw)
      have HK4 := Lib.hid (HK3.out.bel HBW.out)
      go_wp2_with fail
      generalize (((w3.setCell ⟨R2, 0, none⟩ (.int .i64 a)).setCell ⟨R2, 1, none⟩ (.int .i64 b)).setCell ⟨R2, 2, none⟩ (.int .i64 c)).setCell ⟨R2, 3, none⟩ (.int .i64 (-1)) = W9 at *
      clear k0 k1 k2 k3 z0 z1 z2 z3
      have k0 := cell_of_row _ _ 0 _ _ _ HB4.out
      have k1 := cell_of_row _ _ 1 _ _ _ HB4.out
      have k2 := cell_of_row _ _ 2 _ _ _ HB4.out
      have k3 := cell_of_row _ _ 3 _ _ _ HB4.out
      simp only [List.getElem?_toArray, List.getElem?_cons_zero, List.getElem?_cons_succ] at k0 k1 k2 k3
      refine bodyPost_ret (v := .agg #[.int .i64 a, .int .i64 b, .int .i64 c, .int .i64 (-1)]) (by simp [results, Tryz.results84, go_sem, k0, k1, k2, k3]) rfl ?_
      exact ⟨_, _, _, _, rfl, by omega, by omega, HD4.out, HK4.out⟩
    · have HA3 := Lib.hid (heap_setCell_same _ R 3 _ _ (.int .i64 4611686018427387904) HA2.out)
      have HB3 := Lib.hid ((heap_setCell_other w2 ⟨R, 3, none⟩ R2 (.int .i64 4611686018427387904) hRR).trans HB2.out)
      have HD3 := Lib.hid (HD2.out.bel ((Below.refl w.heap.size w2).setCell (p := ⟨R, 3, none⟩) hRw (.int .i64 4611686018427387904)) hpw)
      have HK3 := Lib.hid (HK2.out.bel ((Below.refl w.heap.size w2).setCell (p := ⟨R, 3, none⟩) hRw (.int .i64 4611686018427387904)))
      go_upto_region 9 with fail
      generalize w2.setCell ⟨R, 3, none⟩ (.int .i64 4611686018427387904) = w3 at *
      clear e0 e1 e2 e3 zf
      have e0 := cell_of_row _ _ 0 _ _ _ HA3.out
      have e1 := cell_of_row _ _ 1 _ _ _ HA3.out
      have e2 := cell_of_row _ _ 2 _ _ _ HA3.out
      have e3 := cell_of_row _ _ 3 _ _ _ HA3.out
      simp at e0 e1 e2 e3
      have k0 := cell_of_row _ _ 0 _ _ _ HB3.out
      have k1 := cell_of_row _ _ 1 _ _ _ HB3.out
      have k2 := cell_of_row _ _ 2 _ _ _ HB3.out
      have k3 := cell_of_row _ _ 3 _ _ _ HB3.out
      simp only [List.getElem?_toArray, List.getElem?_cons_zero, List.getElem?_cons_succ] at k0 k1 k2 k3
      have z0 := frozen_of_row _ _ 0 _ _ HB3.out
      have z1 := frozen_of_row _ _ 1 _ _ HB3.out
      have z2 := frozen_of_row _ _ 2 _ _ HB3.out
      have z3 := frozen_of_row _ _ 3 _ _ HB3.out
      have HB4 := Lib.hid (heap4 HB3.out (.int .i64 a) (.int .i64 b) (.int .i64 c) (.int .i64 4611686018427387904))
      have HBW := Lib.hid (((((Below.refl w.heap.size w3).setCell (p := ⟨R2, 0, none⟩) hR2w (.int .i64 a)).setCell (p := ⟨R2, 1, none⟩) hR2w (.int .i64 b)).setCell (p := ⟨R2, 2, none⟩) hR2w (.int .i64 c)).setCell (p := ⟨R2, 3, none⟩) hR2w (.int .i64 4611686018427387904))
      have HD4 := Lib.hid (HD3.out.bel HBW.out hpw)
      have HK4 := Lib.hid (HK3.out.bel HBW.out)
      go_wp2_with fail
      generalize (((w3.setCell ⟨R2, 0, none⟩ (.int .i64 a)).setCell ⟨R2, 1, none⟩ (.int .i64 b)).setCell ⟨R2, 2, none⟩ (.int .i64 c)).setCell ⟨R2, 3, none⟩ (.int .i64 4611686018427387904) = W9 at *
      clear k0 k1 k2 k3 z0 z1 z2 z3
      have k0 := cell_of_row _ _ 0 _ _ _ HB4.out
      have k1 := cell_of_row _ _ 1 _ _ _ HB4.out
      have k2 := cell_of_row _ _ 2 _ _ _ HB4.out
      have k3 := cell_of_row _ _ 3 _ _ _ HB4.out
      simp only [List.getElem?_toArray, List.getElem?_cons_zero, List.getElem?_cons_succ] at k0 k1 k2 k3
      refine bodyPost_ret (v := .agg #[.int .i64 a, .int .i64 b, .int .i64 c, .int .i64 4611686018427387904]) (by simp [results, Tryz.results84, go_sem, k0, k1, k2, k3]) rfl ?_
      exact ⟨_, _, _, _, rfl, by omega, by omega, HD4.out, HK4.out⟩
end Go.Proofs.YtihbpggbpapcfaaGreatDoor
