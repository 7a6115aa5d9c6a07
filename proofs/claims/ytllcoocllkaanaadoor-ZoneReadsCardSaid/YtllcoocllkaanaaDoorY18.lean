/- Zones: dates, read by the reference. -/
import Derived.Test.YtllcoocllkaanaaDoorY17
namespace Go.Proofs.YtllcoocllkaanaaDoor
open Go.RowKit TT

set_option maxRecDepth 100000 in
set_option maxHeartbeats 4000000 in
theorem rstamped_any (s : ByteArray) (w : World) :
    Calls Tryd.prog 54 #[.string s] w fun e w' => ∃ v, e = .returned v ∧ whnV (whenR s.data.toList) v ∧ Below w.heap.size w w' := by
  by_cases h16 : s.size = 16
  · have hlen : s.data.toList.length = 16 := h16
    have R1 := Lib.hid (fun w => same_flip (rnum_cut s 0 4 (by omega) w))
    have R2 := Lib.hid (fun w => same_flip (rnum_cut s 5 7 (by omega) w))
    have R3 := Lib.hid (fun w => same_flip (rnum_cut s 8 10 (by omega) w))
    have R4 := Lib.hid (fun w => same_flip (rnum_cut s 11 13 (by omega) w))
    have R5 := Lib.hid (fun w => same_flip (rnum_cut s 14 16 (by omega) w))
    have hb := fun a b (h : b ≤ a + 4) => numL_bd (l := cut s.data.toList a b) (k := 4) (by have := cut_len s.data.toList a b; omega)
    obtain ⟨h0, h1⟩ := hb 11 13 (by omega)
    obtain ⟨m0, m1⟩ := hb 14 16 (by omega)
    have HO : Hid (whenR s.data.toList = if dayE (numL (cut s.data.toList 0 4)) (numL (cut s.data.toList 5 7)) (numL (cut s.data.toList 8 10)) = 0 then
      some (1440 * dayN (numL (cut s.data.toList 0 4)) (numL (cut s.data.toList 5 7)) (numL (cut s.data.toList 8 10)) + 60 * numL (cut s.data.toList 11 13) + numL (cut s.data.toList 14 16)) else none) := Lib.hid (by
        unfold whenR
        by_cases h : dayE (numL (cut s.data.toList 0 4)) (numL (cut s.data.toList 5 7)) (numL (cut s.data.toList 8 10)) = 0
        · rw [if_pos h, if_pos ⟨hlen, h⟩]; rfl
        · rw [if_neg h, if_neg fun h' => h h'.2])
    clear hlen hb
    generalize numL (cut s.data.toList 0 4) = yy at *
    generalize numL (cut s.data.toList 5 7) = mm at *
    generalize numL (cut s.data.toList 8 10) = dd at *
    generalize numL (cut s.data.toList 11 13) = hh at *
    generalize numL (cut s.data.toList 14 16) = mi at *
    obtain ⟨q0, q1⟩ := dayN_bd yy mm dd
    have D := Lib.hid (fun w => same_flip (Cal.rday_any yy mm dd w))
    generalize dayN yy mm dd = dn at *
    generalize dayE yy mm dd = de at *
    have HBD : Hid (∀ n, Below w.heap.size w (w.drewN n)) := Lib.hid fun n => ⟨rfl, rfl, rfl, Nat.le_refl _, fun _ _ => rfl⟩
    by_cases hde : de = 0
    · have b1 : (de != 0) = false := by rw [hde]; rfl
      have HE : Hid (whenR s.data.toList = some (1440 * dn + 60 * hh + mi)) := Lib.hid (by rw [HO.out, if_pos hde])
      clear HO hde
      go_enter Tryd.func54, Tryd.ntmps54
      go_wp2_with fail
      go_quiet ((first | (go_at_call 69; first | (with_reducible exact Calls.quiet_of_same (R1.out _)) | (with_reducible exact Calls.quiet_of_same (R2.out _)) | (with_reducible exact Calls.quiet_of_same (R3.out _))) | (go_at_call 70; with_reducible exact Calls.quiet_of_same (D.out _))))
      go_wp2_with fail
      generalize hw1 : w.drewN nq = w1 at *
      have HB1 : Hid (∀ n, Below w.heap.size w (w1.drewN n)) := Lib.hid fun n => by rw [← hw1]; exact ⟨rfl, rfl, rfl, Nat.le_refl _, fun _ _ => rfl⟩
      clear hw1
      go_quiet ((go_at_call 69; first | (with_reducible exact Calls.quiet_of_same (R4.out _)) | (with_reducible exact Calls.quiet_of_same (R5.out _))))
      go_wp2_with fail
      go_ret2
      exact ⟨_, rfl, ⟨_, by rw [HE.out]; rfl, fun t h => by rw [HE.out] at h; cases h; omega⟩, HB1.out _⟩
    · have b1 : (de != 0) = true := by rw [bne_iff_ne]; exact hde
      have HE : Hid (whenR s.data.toList = none) := Lib.hid (by rw [HO.out, if_neg hde])
      clear HO hde
      go_enter Tryd.func54, Tryd.ntmps54
      go_wp2_with fail
      go_quiet ((first | (go_at_call 69; first | (with_reducible exact Calls.quiet_of_same (R1.out _)) | (with_reducible exact Calls.quiet_of_same (R2.out _)) | (with_reducible exact Calls.quiet_of_same (R3.out _))) | (go_at_call 70; with_reducible exact Calls.quiet_of_same (D.out _))))
      go_wp2_with fail
      go_ret2
      exact ⟨_, rfl, ⟨_, by rw [HE.out]; rfl, fun t h => by rw [HE.out] at h; cases h⟩, HBD.out _⟩
  · have HO : Hid (whenR s.data.toList = none) := Lib.hid (by unfold whenR; rw [if_neg fun h => h16 h.1])
    have h5' : ((s.size : Int) != 16) = true := by simp; omega
    clear h16
    go_enter Tryd.func54, Tryd.ntmps54
    go_wp2_with fail
    go_ret2
    exact ⟨_, rfl, ⟨0, by rw [HO.out]; rfl, fun t h => by rw [HO.out] at h; cases h⟩, Below.refl _ _⟩
end Go.Proofs.YtllcoocllkaanaaDoor
