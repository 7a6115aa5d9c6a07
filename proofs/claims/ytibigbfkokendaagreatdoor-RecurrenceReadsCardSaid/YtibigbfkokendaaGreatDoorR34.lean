/- Series: a date of eight digits, read by the program. -/
import Derived.Test.YtibigbfkokendaaGreatDoorR33
namespace Go.Proofs.YtibigbfkokendaaGreatDoor
open Go.RowKit TT

theorem bytes_cell8 (x : ByteArray) (n : Nat) (hn : x.size = n) (w : World) (j : Nat) (h : j < n) : (w.alloc (.cells (bytesRow x (grownCap w n 0 5)) 5 ((bytesRow x (grownCap w n 0 5)).size, (bytesRow x (grownCap w n 0 5)).size + 1))).drew.cell? ⟨w.heap.size, j, none⟩ = some (.int .u8 ((x.data.toList.getD j 0).toNat : Int)) := by
  subst hn
  show (w.alloc _).cell? _ = _
  rw [cell_of_row _ _ j _ 5 _ (heap_alloc_new w (.cells (bytesRow x (grownCap w x.size 0 5)) 5 ((bytesRow x (grownCap w x.size 0 5)).size, (bytesRow x (grownCap w x.size 0 5)).size + 1)))]
  rw [bytesRow_at x _ j h]
  have h' : j < x.data.toList.length := h
  rw [List.getD_eq_getElem?_getD, List.getElem?_eq_getElem h']
  rfl
/-- the world with the bytes of a string -/
def bytesW8 (s : ByteArray) (w : World) : World := (w.alloc (.cells (bytesRow s (grownCap w s.size 0 5)) 5 ((bytesRow s (grownCap w s.size 0 5)).size, (bytesRow s (grownCap w s.size 0 5)).size + 1))).drew
theorem bytesW8_below (s : ByteArray) (w : World) : Below w.heap.size w (bytesW8 s w) :=
  (fun h => ⟨h.os, h.tape, h.output, h.size, h.block⟩ : ∀ {W : World}, Below w.heap.size w W → Below w.heap.size w W.drew) ((Below.refl _ _).alloc (Nat.le_refl _) _)
/-- what date hands back -/
def DatP (L : L8) (w : World) (e : Ending) (w' : World) : Prop := e = .returned (.tuple #[.int .i64 (datP L).1, .bool (datP L).2]) ∧ Below w.heap.size w w'
theorem datP_of {L : L8} {x : Int} {b : Bool} {w w' : World} (h : (x, b) = datP L) (hb : Below w.heap.size w w') : DatP L w (.returned (.tuple #[.int .i64 x, .bool b])) w' := by
  unfold DatP; rw [← h]; exact ⟨rfl, hb⟩
theorem datP_fin (n : Nat) : (dayE (n / 10000 : Nat) (n / 100 % 100 : Nat) (n % 100 : Nat) == 0) = okDate (n / 10000 : Nat) (n / 100 % 100 : Nat) (n % 100 : Nat) := by
  unfold dayE
  cases okDate (n / 10000 : Nat) (n / 100 % 100 : Nat) (n % 100 : Nat) <;> rfl

set_option maxRecDepth 100000 in
set_option maxHeartbeats 4000000 in
theorem date_any (L : L8) (_hL : L.length ≤ 1000000) (w : World) (hT : Tbs w) : Calls Tryz.prog 31 #[.string (arr L)] w (DatP L w) := by
  have HT := Lib.hid hT
  clear hT
  have hS : (arr L).size = L.length := arr_size L
  have HSL : Hid ((arr L).data.toList = L) := Lib.hid rfl
  by_cases h8 : L.length = 8
  rotate_left
  · have HF : Hid ((0, false) = datP L) := Lib.hid (by unfold datP; rw [if_neg h8])
    have hd : decide (L.length = 8) = false := by simpa using h8
    generalize arr L = S at *
    clear HSL
    go_enter Tryz.func31, Tryz.ntmps31
    go_wp2
    go_ret2
    exact datP_of HF.out (Below.refl _ _)
  have HF : Hid (∀ o : Option Nat, o = numO 0 L → datP L = (match o with | none => (0, false) | some n => (dayN (n / 10000 : Nat) (n / 100 % 100 : Nat) (n % 100 : Nat), okDate (n / 10000 : Nat) (n / 100 % 100 : Nat) (n % 100 : Nat)))) := Lib.hid (by
    rintro o rfl; unfold datP; rw [if_pos h8]; rfl)
  have HL8 := Lib.hid h8
  rw [h8] at hS
  clear h8
  generalize arr L = S at *
  have hcv := fun w s => run_bytes_of_string (P := Tryz.prog) w 9 39 5 s Tryz.underlying9 Tryz.underlying39 Tryz.underlying5
  have hge := grownCap_ge w S.size 0 5
  have hcm := grownCap_le_maxLen w S.size 0 5 (by unfold maxLen; omega)
  unfold maxLen at hcm
  have HB := Lib.hid (bytesW8_below S w)
  have HC := Lib.hid (bytes_cell8 S 8 hS w)
  go_enter Tryz.func31, Tryz.ntmps31
  go_wp2_with fail
  have hB := HB.out
  unfold bytesW8 at hB
  rw [hS] at hB
  have hC := HC.out
  rw [HSL.out] at hC
  clear HB HC
  generalize (w.alloc (.cells (bytesRow S (grownCap w 8 0 5)) 5 ((bytesRow S (grownCap w 8 0 5)).size, (bytesRow S (grownCap w 8 0 5)).size + 1))).drew = w2 at *
  generalize grownCap w 8 0 5 = cp at *
  have HW0 := Lib.hid hB
  have HC0 := Lib.hid hC
  have HT2 := Lib.hid (HT.out.below hB)
  clear hcv hge hcm hB hC HSL HT
  go_loopw [4, 15] (fun n i wr => ∃ m j : Nat, n = .int .i64 m ∧ i = .int .i64 j ∧ j ≤ 8 ∧ m ≤ 100000000 ∧ Hid (m < 10 ^ j) ∧ Hid (numO m (L.drop j) = numO 0 L) ∧ Hid (wr = w2)) (fun _ i _ => 8 - (intOf i).toNat)
  case atStart => exact ⟨0, 0, rfl, rfl, by omega, by omega, Lib.hid (by simp), Lib.hid rfl, Lib.hid rfl⟩
  case round =>
    obtain ⟨m, j, rfl, rfl, hj, hm, HM, HR, HE2⟩ := hrel
    have hE := HE2.out
    subst hE
    clear HE2
    by_cases hjl : j < 8
    · have hdr : L.drop j = L.getD j 0 :: L.drop (j + 1) := by
        have h' : j < L.length := by rw [HL8.out]; exact hjl
        rw [List.drop_eq_getElem_cons h', List.getD_eq_getElem?_getD, List.getElem?_eq_getElem h']; rfl
      have hcl := HC0.out j hjl
      have HN := HR.out
      rw [hdr, numO] at HN
      have HNN := Lib.hid HN
      clear HN hdr
      generalize hc : L.getD j 0 = c at *
      clear hc
      have hc255 : c.toNat < 256 := c.toNat_lt
      have hm3 : m < 10000000 := Nat.lt_of_lt_of_le HM.out (Nat.le_trans (Nat.pow_le_pow_right (by omega) (show j ≤ 7 by omega)) (by decide))
      have HM2 : Hid (10 * m + 9 < 10 ^ (j + 1)) := Lib.hid (by have := HM.out; rw [Nat.pow_succ]; omega)
      generalize b1 : decide ((c.toNat : Int) < 48) = d1 at *
      generalize b2 : decide ((57 : Int) < (c.toNat : Int)) = d2 at *
      have hD := dig_two c b1 b2
      cases d1
      · cases d2
        · have g1 : 48 ≤ c.toNat := by have := of_decide_eq_false b1; omega
          have g2 : c.toNat ≤ 57 := by have := of_decide_eq_false b2; omega
          have HG := HNN.out
          rw [if_pos ⟨g1, g2⟩] at HG
          have HN2 : Hid (numO (10 * m + (c.toNat - 48)) (L.drop (j + 1)) = numO 0 L) := Lib.hid HG
          have y1 : IntKind.u8.wrap ((c.toNat : Int) - 48) = (c.toNat : Int) - 48 := by
            unfold IntKind.wrap
            simp [IntKind.bits, IntKind.signed]
            omega
          clear HG HNN hD
          generalize hz : (c.toNat : Int) - 48 = z at *
          have HZ := Lib.hid hz
          clear hz
          go_wp2_with fail
          go_roundw
          case rel => exact ⟨10 * m + (c.toNat - 48), j + 1, by have := HZ.out; congr 1; omega, by simp, by omega, by omega, Lib.hid (by have := HM2.out; omega), HN2, Lib.hid (by first | rfl | trivial)⟩
          case measure => simp [intOf]; omega
        · have HE : Hid ((0, false) = datP L) := Lib.hid (by
            have := HNN.out; rw [if_neg (of_decide_eq_false (by rw [hD]; decide))] at this
            rw [HF.out none this])
          clear hD HNN
          go_wp2_with fail
          go_ret2
          exact datP_of HE.out HW0.out
      · have HE : Hid ((0, false) = datP L) := Lib.hid (by
          have := HNN.out; rw [if_neg (of_decide_eq_false (by rw [hD]; simp))] at this
          rw [HF.out none this])
        clear hD HNN
        go_wp2_with fail
        go_ret2
        exact datP_of HE.out HW0.out
    · obtain rfl : j = 8 := by omega
      have HE : Hid (datP L = (dayN (m / 10000 : Nat) (m / 100 % 100 : Nat) (m % 100 : Nat), okDate (m / 10000 : Nat) (m / 100 % 100 : Nat) (m % 100 : Nat))) := Lib.hid (by
        have := HR.out
        rw [List.drop_eq_nil_of_le (by rw [HL8.out]; omega), numO] at this
        exact HF.out (some m) this)
      have HD := Lib.hid (Cal.day_any (m / 10000 : Nat) (m / 100 % 100 : Nat) (m % 100 : Nat) wr HT2.out.lens)
      have hfin := datP_fin m
      have q1 : ((m / 10000 : Nat) : Int) = (m : Int) / 10000 := by omega
      have q2 : ((m / 100 % 100 : Nat) : Int) = (m : Int) / 100 % 100 := by omega
      have q3 : ((m % 100 : Nat) : Int) = (m : Int) % 100 := by omega
      rw [q1, q2, q3] at HD hfin HE
      clear q1 q2 q3
      generalize okDate ((m : Int) / 10000) ((m : Int) / 100 % 100) ((m : Int) % 100) = ok at *
      generalize dayN ((m : Int) / 10000) ((m : Int) / 100 % 100) ((m : Int) % 100) = dn at *
      generalize dayE ((m : Int) / 10000) ((m : Int) / 100 % 100) ((m : Int) % 100) = de at *
      go_wp2_with fail
      refine HD.out.mono ?_
      rintro en w4 ⟨rfl, hw4⟩
      subst hw4
      go_wp2_with fail
      go_ret2
      exact datP_of HE.out.symm HW0.out

end Go.Proofs.YtibigbfkokendaaGreatDoor
