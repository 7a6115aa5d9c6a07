/- Zones: numbers, offsets and dates, read by the program. -/
import Derived.Test.YtllcoocllkaanaaDoorY4
import Derived.Outline
namespace Go.Proofs.YtllcoocllkaanaaDoor
open Go.RowKit TT

/-- the number between two places -/
def numAB (s : ByteArray) (a b : Nat) : Int := if s.size < b then -1 else numL (cut s.data.toList a b)
theorem ext_cut (s : ByteArray) (a b : Nat) : (s.extract a b).data.toList = cut s.data.toList a b := by
  rw [ByteArray.data_extract, Array.toList_extract, List.extract_eq_take_drop]
  unfold cut
  rw [List.drop_take]
theorem drop_at (s : ByteArray) (i : Nat) (h : i < s.size) : s.data.toList.drop i = s[i] :: s.data.toList.drop (i + 1) := by
  have h' : i < s.data.toList.length := h
  rw [List.drop_eq_getElem_cons h']
  rfl
theorem drop_end (s : ByteArray) (i : Nat) (h : s.size ≤ i) : s.data.toList.drop i = [] := List.drop_eq_nil_of_le h
theorem bytes_cell (x : ByteArray) (n : Nat) (hn : x.size = n) (w : World) (j : Nat) (h : j < n) : (w.alloc (.cells (bytesRow x (grownCap w n 0 5)) 5 ((bytesRow x (grownCap w n 0 5)).size, (bytesRow x (grownCap w n 0 5)).size + 1))).drew.cell? ⟨w.heap.size, j, none⟩ = some (.int .u8 ((x.data.toList.getD j 0).toNat : Int)) := by
  subst hn
  show (w.alloc _).cell? _ = _
  rw [cell_of_row _ _ j _ 5 _ (heap_alloc_new w (.cells (bytesRow x (grownCap w x.size 0 5)) 5 ((bytesRow x (grownCap w x.size 0 5)).size, (bytesRow x (grownCap w x.size 0 5)).size + 1)))]
  rw [bytesRow_at x _ j h]
  have h' : j < x.data.toList.length := h
  rw [List.getD_eq_getElem?_getD, List.getElem?_eq_getElem h']
  rfl
/-- the world with the bytes of a string -/
def bytesW (s : ByteArray) (w : World) : World := (w.alloc (.cells (bytesRow s (grownCap w s.size 0 5)) 5 ((bytesRow s (grownCap w s.size 0 5)).size, (bytesRow s (grownCap w s.size 0 5)).size + 1))).drew
theorem bytesW_cell (s : ByteArray) (w : World) (j : Nat) (h : j < s.size) : (bytesW s w).cell? ⟨w.heap.size, j, none⟩ = some (.int .u8 (s[j].toNat : Int)) := by
  show (w.alloc _).cell? _ = _
  rw [cell_of_row _ _ j _ 5 _ (heap_alloc_new w (.cells (bytesRow s (grownCap w s.size 0 5)) 5 ((bytesRow s (grownCap w s.size 0 5)).size, (bytesRow s (grownCap w s.size 0 5)).size + 1)))]
  exact bytesRow_at s _ j h
theorem bytesW_below (s : ByteArray) (w : World) : Below w.heap.size w (bytesW s w) :=
  (fun h => ⟨h.os, h.tape, h.output, h.size, h.block⟩ : ∀ {W : World}, Below w.heap.size w W → Below w.heap.size w W.drew) ((Below.refl _ _).alloc (Nat.le_refl _) _)
theorem isD_of (c : UInt8) {b1 b2 : Bool} (h1 : decide ((c.toNat : Int) < 48) = b1) (h2 : decide ((57 : Int) < (c.toNat : Int)) = b2) : isD c = (!b1 && !b2) := by
  unfold isD
  rw [← h1, ← h2, Bool.eq_iff_iff]
  simp
  omega

set_option maxRecDepth 100000 in
set_option maxHeartbeats 2000000 in
theorem number_any (s : ByteArray) (a b : Nat) (hab : a ≤ b) (hb4 : b ≤ a + 4) (_hb : b ≤ 100) (w : World) (_hs : s.size ≤ 1000000) :
    Calls Tryd.prog 67 #[.string s, .int .i64 a, .int .i64 b] w (RetB (.int .i64 (numAB s a b)) w) := by
  by_cases hlt : s.size < b
  · have HF : Hid (numAB s a b = -1) := Lib.hid (if_pos hlt)
    have hd : decide (s.size < b) = true := by simpa using hlt
    clear hlt
    go_enter Tryd.func67, Tryd.ntmps67
    go_wp2
    go_ret
    exact ⟨ret_int (by rw [HF.out]), Below.refl _ _⟩
  · have hd : decide (s.size < b) = false := by simpa using hlt
    have HF : Hid (numAB s a b = numL (s.extract a b).data.toList) := Lib.hid (by rw [ext_cut]; exact if_neg hlt)
    have hxs : (s.extract a b).size = b - a := by simp; omega
    have hcv := fun w s => run_bytes_of_string (P := Tryd.prog) w 9 51 5 s Tryd.underlying9 Tryd.underlying51 Tryd.underlying5
    have hge := grownCap_ge w (s.extract a b).size 0 5
    have hcm := grownCap_le_maxLen w (s.extract a b).size 0 5 (by unfold maxLen; omega)
    unfold maxLen at hcm
    have hle : (a : Int) ≤ (b : Int) := by omega
    have hls : (b : Int) ≤ (s.size : Int) := by omega
    have HB := Lib.hid (bytesW_below (s.extract a b) w)
    have HX := Lib.hid hxs
    have HC := Lib.hid (bytes_cell (s.extract a b) (b - a) hxs w)
    clear hlt
    go_enter Tryd.func67, Tryd.ntmps67
    go_wp2_with fail
    have hB := HB.out
    unfold bytesW at hB
    rw [hxs] at hB
    have hC := HC.out
    clear HB HC
    generalize (w.alloc (.cells (bytesRow (s.extract a b) (grownCap w (b - a) 0 5)) 5 ((bytesRow (s.extract a b) (grownCap w (b - a) 0 5)).size, (bytesRow (s.extract a b) (grownCap w (b - a) 0 5)).size + 1))).drew = w2 at *
    generalize grownCap w (b - a) 0 5 = cp at *
    have hL4 : b - a ≤ 4 := by omega
    generalize hL : b - a = L at *
    have HL : Hid ((s.extract a b).data.toList.length = L) := Lib.hid hxs
    generalize (s.extract a b).data.toList = l at *
    generalize s.extract a b = xs at *
    clear hcv hge hcm hle hls hxs HX hL
    have HN0 : Hid (numF ((0 : Nat) : Int) (l.drop 0) = numL l) := Lib.hid rfl
    have HW0 := Lib.hid hB
    have HC0 := Lib.hid hC
    clear hB hC
    go_loopw [7, 20] (fun n i wr => ∃ m j : Nat, n = .int .i64 m ∧ i = .int .i64 j ∧ j ≤ L ∧ m ≤ 10000 ∧ Hid (m < 10 ^ j) ∧ Hid (numF m (l.drop j) = numL l) ∧ Hid (Below w.heap.size w wr) ∧ Hid (∀ q, q < L → wr.cell? ⟨w.heap.size, q, none⟩ = some (.int .u8 ((l.getD q 0).toNat : Int)))) (fun _ i _ => L - (intOf i).toNat)
    case atStart => exact ⟨0, 0, rfl, rfl, by omega, by omega, Lib.hid (by simp), HN0, HW0, HC0⟩
    case round =>
      obtain ⟨m, j, rfl, rfl, hj, hm, HM, HR, HW, HC⟩ := hrel
      clear HN0 HW0 HC0
      by_cases hjl : j < L
      · have hdr : l.drop j = l.getD j 0 :: l.drop (j + 1) := by
          have h' : j < l.length := by rw [HL.out]; exact hjl
          rw [List.drop_eq_getElem_cons h', List.getD_eq_getElem?_getD, List.getElem?_eq_getElem h']; rfl
        have hcl := HC.out j hjl
        have HN := HR.out
        rw [hdr, numF] at HN
        have HNN := Lib.hid HN
        clear HN hdr
        generalize hc : l.getD j 0 = c at *
        have hc255 : c.toNat < 256 := c.toNat_lt
        have hm3 : m < 1000 := Nat.lt_of_lt_of_le HM.out (Nat.le_trans (Nat.pow_le_pow_right (by omega) (show j ≤ 3 by omega)) (by decide))
        have HM2 : Hid (10 * m + 9 < 10 ^ (j + 1)) := Lib.hid (by have := HM.out; rw [Nat.pow_succ]; omega)
        generalize b1 : decide ((c.toNat : Int) < 48) = d1 at *
        generalize b2 : decide ((57 : Int) < (c.toNat : Int)) = d2 at *
        have hD := isD_of c b1 b2
        cases d1
        · cases d2
          · have g1 : 48 ≤ c.toNat := by have := of_decide_eq_false b1; omega
            have g2 : c.toNat ≤ 57 := by have := of_decide_eq_false b2; omega
            have HG := HNN.out
            rw [if_pos (by rw [hD]; rfl)] at HG
            have HN2 : Hid (numF ((10 * m + (c.toNat - 48) : Nat) : Int) (l.drop (j + 1)) = numL l) := Lib.hid (by
              rw [← HG]; congr 1; omega)
            have y1 : IntKind.u8.wrap ((c.toNat : Int) - 48) = (c.toNat : Int) - 48 := by
              unfold IntKind.wrap
              simp [IntKind.bits, IntKind.signed]
              omega
            have y2 : (10 : Int) * m + ((c.toNat : Int) - 48) = ((10 * m + (c.toNat - 48) : Nat) : Int) := by omega
            clear HG HNN hD
            generalize hz : (c.toNat : Int) - 48 = z at *
            have HZ := Lib.hid hz
            clear hz
            go_wp2_with fail
            go_roundw
            case rel => exact ⟨10 * m + (c.toNat - 48), j + 1, by have := HZ.out; congr 1; omega, by simp, by omega, by omega, Lib.hid (by have := HM2.out; omega), HN2, HW, HC⟩
            case measure => simp [intOf]; omega
          · have HE : Hid (numL l = -1) := Lib.hid (by have := HNN.out; rw [if_neg (by rw [hD]; decide)] at this; exact this.symm)
            go_wp2_with fail
            go_ret
            exact ⟨ret_int (by rw [HF.out, HE.out]), HW.out⟩
        · have HE : Hid (numL l = -1) := Lib.hid (by have := HNN.out; rw [if_neg (by rw [hD]; simp)] at this; exact this.symm)
          go_wp2_with fail
          go_ret
          exact ⟨ret_int (by rw [HF.out, HE.out]), HW.out⟩
      · obtain rfl : j = L := by omega
        have HE : Hid ((m : Int) = numL l) := Lib.hid (by have := HR.out; rw [List.drop_eq_nil_of_le (by rw [HL.out]; omega)] at this; exact this)
        go_wp2_with fail
        go_ret
        exact ⟨ret_int (by rw [HF.out, HE.out]), HW.out⟩
end Go.Proofs.YtllcoocllkaanaaDoor
