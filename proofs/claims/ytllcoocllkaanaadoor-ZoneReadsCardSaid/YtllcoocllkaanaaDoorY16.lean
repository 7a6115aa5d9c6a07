/- Zones: numbers and offsets, read by the reference. -/
import Derived.Test.YtllcoocllkaanaaDoorY8
import Derived.BigQuiet
namespace Go.Proofs.YtllcoocllkaanaaDoor
open Go.RowKit TT

set_option maxRecDepth 100000 in
set_option maxHeartbeats 1000000 in
theorem rnumber_any (s : ByteArray) (hs : s.size ≤ 4) (w : World) : Calls Tryd.prog 69 #[.string s] w (RetS (.int .i64 (numL s.data.toList)) w) := by
  have HN0 : Hid (numF ((0 : Nat) : Int) (s.data.toList.drop 0) = numL s.data.toList) := Lib.hid rfl
  go_enter Tryd.func69, Tryd.ntmps69
  go_wp2
  go_loop [3, 4] (fun n i => ∃ m j : Nat, n = .int .i64 m ∧ i = .int .i64 j ∧ j ≤ s.size ∧ m ≤ 10000 ∧ Hid (m < 10 ^ j) ∧ Hid (numF m (s.data.toList.drop j) = numL s.data.toList)) (fun _ i => s.size - (intOf i).toNat)
  case atStart => exact ⟨0, 0, rfl, rfl, by omega, by omega, Lib.hid (by simp), HN0⟩
  case round =>
    obtain ⟨m, j, rfl, rfl, hj, hm, HM, HR⟩ := hrel
    clear HN0
    by_cases hjl : j < s.size
    · have hdr := drop_at s j hjl
      have HN := HR.out
      rw [hdr, numF] at HN
      have HNN := Lib.hid HN
      clear HN hdr
      have hc255 : (s[j]).toNat < 256 := (s[j]).toNat_lt
      have hm3 : m < 1000 := Nat.lt_of_lt_of_le HM.out (Nat.le_trans (Nat.pow_le_pow_right (by omega) (show j ≤ 3 by omega)) (by decide))
      have HM2 : Hid (10 * m + 9 < 10 ^ (j + 1)) := Lib.hid (by have := HM.out; rw [Nat.pow_succ]; omega)
      generalize b1 : decide (((s[j]).toNat : Int) < 48) = d1
      generalize b2 : decide ((57 : Int) < ((s[j]).toNat : Int)) = d2
      have hD := isD_of (s[j]) b1 b2
      cases d1
      · cases d2
        · have g1 : 48 ≤ (s[j]).toNat := by have := of_decide_eq_false b1; omega
          have g2 : (s[j]).toNat ≤ 57 := by have := of_decide_eq_false b2; omega
          have HG := HNN.out
          rw [if_pos (by rw [hD]; rfl)] at HG
          have HN2 : Hid (numF ((10 * m + ((s[j]).toNat - 48) : Nat) : Int) (s.data.toList.drop (j + 1)) = numL s.data.toList) := Lib.hid (by
            rw [← HG]; congr 1; omega)
          have y1 : IntKind.u8.wrap (((s[j]).toNat : Int) - 48) = ((s[j]).toNat : Int) - 48 := by
            unfold IntKind.wrap
            simp [IntKind.bits, IntKind.signed]
            omega
          clear HG HNN hD
          have HZ : Hid (((s[j]).toNat : Int) - 48 = ((s[j].toNat - 48 : Nat) : Int)) := Lib.hid (by omega)
          go_wp2
          refine ⟨⟨10 * m + ((s[j]).toNat - 48), j + 1, ?_, by go_num, by omega, by omega, Lib.hid (by have := HM2.out; omega), HN2⟩, by simp [intOf]; omega⟩
          have := HZ.out
          congr 1; omega
        · have HE : Hid (numL s.data.toList = -1) := Lib.hid (by have := HNN.out; rw [if_neg (by rw [hD]; decide)] at this; exact this.symm)
          clear hD HNN
          go_wp2
          go_ret
          exact ⟨ret_int HE.out.symm, rfl⟩
      · have HE : Hid (numL s.data.toList = -1) := Lib.hid (by have := HNN.out; rw [if_neg (by rw [hD]; simp)] at this; exact this.symm)
        clear hD HNN
        go_wp2
        go_ret
        exact ⟨ret_int HE.out.symm, rfl⟩
    · obtain rfl : j = s.size := by omega
      have HE : Hid ((m : Int) = numL s.data.toList) := Lib.hid (by have := HR.out; rw [drop_end s _ (Nat.le_refl _)] at this; exact this)
      go_wp2
      go_ret
      exact ⟨ret_int HE.out, rfl⟩
end Go.Proofs.YtllcoocllkaanaaDoor
