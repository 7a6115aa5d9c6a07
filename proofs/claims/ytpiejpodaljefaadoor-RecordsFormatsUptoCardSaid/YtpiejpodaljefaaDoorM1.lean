import Derived.Test.YtpiejpodaljefaaDoorR5
import Derived.Test.YtpiejpodaljefaaDoorDice
namespace Go.Proofs.YtpiejpodaljefaaDoor
open Go.RowKit

theorem But.grown1 {p : Nat} {w wr W : World} {v : Option Nat} (h : But p w wr) (hg : wr.grownBy W v) (hlow : ∀ k, v = some k → w.heap.size ≤ k) : But p w W :=
  ⟨hg.os.trans h.os, hg.tape.trans h.tape, hg.output.trans h.output, Nat.le_trans h.size hg.size, fun k hk hp => (hg.block k (Nat.lt_of_lt_of_le hk h.size) (fun e => by have := hlow k e.symm; omega)).trans (h.block k hk hp)⟩
theorem DiceAt.grown {p : Nat} {wr W : World} {v : Option Nat} (h : DiceAt wr p) (hg : wr.grownBy W v) (hlow : ∀ k, v = some k → p < k) : DiceAt W p :=
  h.same fun k hk => hg.block k (by have := h.lt; omega) (fun e => by have := hlow k e.symm; omega)

/-- Bytes that are being collected beside dice. -/
structure TxW (p : Nat) (signs : ByteArray) (w : World) (o : L8) (v : Value) (wr : World) : Prop where
  dc : DiceAt wr p
  row : wr.ownsRow w.heap.size 5 1 v o.length (Lib.byteCells o)
  but : But p w wr
  pb : p < w.heap.size
  inn : ∀ x ∈ o, x ∈ signs.data.toList
theorem TxW.below {p : Nat} {signs : ByteArray} {w : World} {o : L8} {v : Value} {wr W : World} (h : TxW p signs w o v wr) (hb : Below wr.heap.size wr W) : TxW p signs w o v W :=
  ⟨h.dc.below hb, row_below h.row hb, h.but.trans (But.of_below hb), h.pb, h.inn⟩
theorem TxW.moved {p : Nat} {signs : ByteArray} {w : World} {o : L8} {v : Value} {wr W : World} (h : TxW p signs w o v wr) (hd : DiceAt W p) (hb : But p wr W) : TxW p signs w o v W :=
  ⟨hd, row_but h.row hb h.pb, h.but.trans hb, h.pb, h.inn⟩
theorem TxW.grown {p : Nat} {signs : ByteArray} {w : World} {o o2 : L8} {v v2 : Value} {wr W : World} (h : TxW p signs w o v wr) (hg : wr.grownBy W v.ownBlock) (hr : W.ownsRow w.heap.size 5 1 v2 o2.length (Lib.byteCells o2)) (hi : ∀ x ∈ o2, x ∈ signs.data.toList) : TxW p signs w o2 v2 W :=
  have hlow : ∀ k, v.ownBlock = some k → w.heap.size ≤ k := fun k hk => (h.row.lt k hk).1
  ⟨h.dc.grown hg fun k hk => by have := hlow k hk; have := h.pb; omega, hr, h.but.grown1 hg hlow, h.pb, hi⟩

/-- What Text hands back. -/
def TextOut (p : Nat) (signs : ByteArray) (most : Nat) (w : World) (e : Ending) (w' : World) : Prop := ∃ l : L8, e = .returned (.string (arr l)) ∧ l.length ≤ most ∧ (∀ x ∈ l, x ∈ signs.data.toList) ∧ DiceAt w' p ∧ But p w w'

set_option maxRecDepth 100000 in
set_option maxHeartbeats 4000000 in
theorem text_any (p : Nat) (signs : ByteArray) (most : Nat) (h0 : 0 < signs.size) (h1 : signs.size ≤ 100) (hm : most ≤ 100) (w : World) (hD : DiceAt w p) :
    Calls Tryd.prog 17 #[.pointer (some ⟨p, 0, none⟩), .string signs, .int .i64 most] w (TextOut p signs most w) := by
  obtain ⟨i0, hii, hz0, hz1, hz2⟩ := info_parts infoB
  have HI0 := Lib.hid hii; have HZ0 := Lib.hid hz0; have HZ1 := Lib.hid hz1; have HZ2 := Lib.hid hz2
  have HD := Lib.hid hD
  have PB := Lib.hid hD.lt
  clear hD hii hz0 hz1 hz2
  go_enter Tryd.func17, Tryd.ntmps17
  go_wp2_with fail
  refine (next_any p (most + 1) w (by omega) (by omega) HD.out).mono ?_
  rintro e w1 ⟨r, hr0, hr1, rfl, hd1, hb1⟩
  obtain ⟨n, rfl⟩ : ∃ n : Nat, r = n := ⟨r.toNat, by omega⟩
  have HT : Hid (TxW p signs w [] (.slice none 0 0) w1) := Lib.hid ⟨hd1, World.ownsRow_nil _ _ _ _, hb1, PB.out, by simp⟩
  have hn : n ≤ most := by omega
  clear hd1 hb1 hr0 hr1
  go_wp2_with fail
  go_loopw [7, 8] (fun v i wr => ∃ (k : Nat) (o : L8), i = .int .i64 k ∧ k + o.length ≤ most ∧ Hid (TxW p signs w o v wr)) (fun _ i _ => (intOf i).toNat)
  case atStart => exact ⟨n, [], rfl, by simpa using hn, HT⟩
  case round =>
    obtain ⟨k, o, rfl, hk, HW⟩ := hrel
    by_cases hlt : 0 < k
    · go_wp2_with fail
      refine (next_any p signs.size _ (by omega) (by omega) HW.out.dc).mono ?_
      rintro e w2 ⟨r, hr0, hr1, rfl, hd2, hb2⟩
      obtain ⟨j, rfl⟩ : ∃ j : Nat, r = j := ⟨r.toNat, by omega⟩
      have hj : j < signs.size := by omega
      have HW2 := Lib.hid (HW.out.moved hd2 hb2)
      have OL := Lib.hid hk
      have hk1 : k ≤ 100 := by omega
      clear hd2 hb2 hr0 hr1 HW hk
      go_wp2_with (at_builtin; refine wpList_append_own _ rfl _ _ 61 rfl w.heap.size 5 i0 (.int .u8 0) 1 1 Tryd.underlying61 HI0.out HZ0.out HZ1.out HZ2.out rfl (by decide) _ _ _ rfl (HW2.out.row.alloc _) ⟨_, 0, none⟩ 1 1 [.int .u8 signs[j].toNat] rfl rfl ?a1 ?a2 ?a3 ?a4 ?a5 ?_)
      case a1 => exact cell_one_new _ _ _
      case a2 => simp [Value.oneCell']
      case a3 => have := OL.out; unfold maxLen; omega
      case a4 => have := OL.out; omega
      case a5 => have := HW2.out.but.size; simp; omega
      intro v' w5 hown hgr _
      have HE := Lib.hid ((HW2.out.below ((Below.refl _ _).alloc (Nat.le_refl _) _)).grown (o2 := o ++ [signs[j]]) hgr (by rw [List.length_append, Lib.byteCells_append]; exact hown) (fun x hx => by
        rcases List.mem_append.1 hx with h | h
        · exact HW2.out.inn x h
        · rw [List.mem_singleton.1 h]; exact (List.getElem_mem (l := signs.data.toList) (by simpa using hj))))
      clear hown hgr
      go_wp2
      go_roundw
      case rel => exact ⟨k - 1, o ++ [signs[j]], by go_num, by have := OL.out; simp; omega, HE⟩
      case measure => simp [intOf]; omega
    · obtain rfl : k = 0 := by omega
      have hcv := own_string HW.out.row
      go_wp2_with fail
      go_ret
      exact ⟨o, rfl, by omega, HW.out.inn, HW.out.dc, HW.out.but⟩
end Go.Proofs.YtpiejpodaljefaaDoor
