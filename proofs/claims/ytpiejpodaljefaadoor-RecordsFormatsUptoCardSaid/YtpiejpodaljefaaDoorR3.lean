import Derived.Test.YtpiejpodaljefaaDoorR2
import Derived.RegionTactic
import Derived.BigRegion
import Derived.Deep.LoopGhost
import Derived.Deep.RegionHeld3
namespace Go.Proofs.YtpiejpodaljefaaDoor
open Go.RowKit

theorem heap_set (w : World) (p o : Nat) (cs : Array Value) (T : TypeId) (v : Value) (h : w.heap[p]? = some (.cells cs T (0, 0))) : (w.setCell ⟨p, o, none⟩ v).heap[p]? = some (.cells (cs.setIfInBounds o v) T (0, 0)) := by
  rw [heap_setCell_same _ p o _ _ _ h]
theorem RdAt.set0 {w : World} {p : Nat} {s : ByteArray} {i l b : Nat} {d q : UInt8} (h : RdAt w p s i l b d q) (j : Nat) (h1 : i ≤ j) (h2 : j ≤ s.size) : RdAt (w.setCell ⟨p, 0, none⟩ (.int .i64 j)) p s j l b d q := by
  refine ⟨by rw [heap_set _ _ _ _ _ _ h.1]; rfl, h.2.1, h2, ?_, ?_⟩
  · have := h.2.2.2.1; omega
  · have := h.2.2.2.2; omega
/-- the line and its beginning -/
theorem RdAt.set12 {w : World} {p : Nat} {s : ByteArray} {i l b : Nat} {d q : UInt8} (h : RdAt w p s i l b d q) (h2 : i + 1 ≤ s.size) : RdAt (((w.setCell ⟨p, 1, none⟩ (.int .i64 (l + 1 : Nat))).setCell ⟨p, 2, none⟩ (.int .i64 (i + 1 : Nat))).setCell ⟨p, 0, none⟩ (.int .i64 (i + 1 : Nat))) p s (i + 1) (l + 1) (i + 1) d q := by
  refine ⟨by rw [heap_set _ _ _ _ _ _ (heap_set _ _ _ _ _ _ (heap_set _ _ _ _ _ _ h.1))]; rfl, h.2.1, h2, Nat.le_refl _, ?_⟩
  · have := h.2.2.2.2; omega
/-- a reader has moved -/
def Moved (p : Nat) (s : ByteArray) (i l b : Nat) (d q : UInt8) (w : World) (e : Ending) (w' : World) : Prop := e = .returned (.tuple #[]) ∧ RdAt w' p s i l b d q ∧ But p w w'

theorem next_else (p : Nat) (s : ByteArray) (i l b : Nat) (d q : UInt8) (w : World) (hR : RdAt w p s i l b d q) (h : i < s.size) (hc : ((s[i].toNat : Int) == 10) = false) :
    Calls Tryd.prog 52 #[.pointer (some ⟨p, 0, none⟩)] w (Moved p s (i + 1) l b d q w) := by
  have HR := Lib.hid hR
  obtain ⟨⟨c0, c1, c2, c3, c4, c5⟩, f0, f1, f2⟩ := hR.cells
  obtain ⟨_, hs, hi, hb, hl⟩ := hR
  go_enter Tryd.func52, Tryd.ntmps52
  go_wp2
  go_quiet (fail)
  go_wp2
  go_end0
  exact ⟨rfl, (HR.out.below (below_drewN _ _)).set0 _ (by omega) h, (But.drewN _ _).trans (But.setCell _ _ _ _)⟩
theorem next_feed (p : Nat) (s : ByteArray) (i l b : Nat) (d q : UInt8) (w : World) (hR : RdAt w p s i l b d q) (h : i < s.size) (hc : ((s[i].toNat : Int) == 10) = true) :
    Calls Tryd.prog 52 #[.pointer (some ⟨p, 0, none⟩)] w (Moved p s (i + 1) (l + 1) (i + 1) d q w) := by
  have HR := Lib.hid hR
  obtain ⟨⟨c0, c1, c2, c3, c4, c5⟩, f0, f1, f2⟩ := hR.cells
  obtain ⟨_, hs, hi, hb, hl⟩ := hR
  go_enter Tryd.func52, Tryd.ntmps52
  go_wp2
  go_quiet (fail)
  go_wp2
  go_region
  go_wp2
  go_end0
  exact ⟨rfl, (HR.out.below (below_drewN _ _)).set12 h, (((But.drewN _ _).trans (But.setCell _ _ _ _)).trans (But.setCell _ _ _ _)).trans (But.setCell _ _ _ _)⟩

theorem feed_iff (s : ByteArray) (i : Nat) (h : i < s.size) : ((s[i].toNat : Int) == 10) = (s[i] == 10) := beq_cast s[i] 10 (by decide)
theorem skip_at (s : ByteArray) (i : Nat) (h : i < s.size) : skipL (s.data.toList.drop i) = if ((s[i].toNat : Int) == 10) = true then s.data.toList.drop (i + 1) else skipL (s.data.toList.drop (i + 1)) := by
  rw [drop_at s i h, feed_iff s i h, skipL]

/-- behind the next line feed -/
def Skipped (p : Nat) (s : ByteArray) (i l : Nat) (d q : UInt8) (w : World) (e : Ending) (w' : World) : Prop :=
  e = .returned (.tuple #[]) ∧ (∃ j l' b', RdAt w' p s j l' b' d q ∧ s.data.toList.drop j = skipL (s.data.toList.drop i) ∧ (j < s.size → l' = l + 1 ∧ b' = j) ∧ i ≤ j ∧ (i < s.size → i < j)) ∧ But p w w'

theorem ended_no (p : Nat) (s : ByteArray) (i l b : Nat) (d q : UInt8) (w : World) (hR : RdAt w p s i l b d q) (h : i < s.size) : Calls Tryd.prog 39 #[.pointer (some ⟨p, 0, none⟩)] w (RetB (.bool false) w) := by
  have C := ended_any p s i l b d q w hR
  rw [show decide (s.size ≤ i) = false by simp; omega] at C
  exact C
theorem ended_yes (p : Nat) (s : ByteArray) (i l b : Nat) (d q : UInt8) (w : World) (hR : RdAt w p s i l b d q) (h : ¬ i < s.size) : Calls Tryd.prog 39 #[.pointer (some ⟨p, 0, none⟩)] w (RetB (.bool true) w) := by
  have C := ended_any p s i l b d q w hR
  rw [show decide (s.size ≤ i) = true by simp; omega] at C
  exact C
theorem But.moved {p : Nat} {w w1 w2 w3 : World} (h : But p w w1) (hb : Below w1.heap.size w1 w2) (h3 : But p w2 w3) : But p w w3 := (h.trans (But.of_below hb)).trans h3

set_option maxHeartbeats 1000000 in
theorem skip_any (p : Nat) (s : ByteArray) (i l b : Nat) (d q : UInt8) (w : World) (hR : RdAt w p s i l b d q) :
    Calls Tryd.prog 41 #[.pointer (some ⟨p, 0, none⟩)] w (Skipped p s i l d q w) := by
  have HR := Lib.hid hR
  clear hR
  go_enter Tryd.func41, Tryd.ntmps41
  go_wp2
  go_loopg [2] (s.size - i) (fun k _ wr => ∃ j, k = s.size - j ∧ i ≤ j ∧ Hid (RdAt wr p s j l b d q) ∧ Hid (skipL (s.data.toList.drop j) = skipL (s.data.toList.drop i)) ∧ Hid (But p w wr))
  case atStart => exact ⟨i, rfl, Nat.le_refl _, HR, Lib.hid rfl, Lib.hid (But.refl _ _)⟩
  case round =>
    obtain ⟨j, hk, hij, HR, HS, HB⟩ := hrel
    have HK := Lib.hid hk
    clear hk
    by_cases hlt : j < s.size
    · have hsk := skip_at s j hlt
      cases hc : ((s[j].toNat : Int) == 10)
      · rw [hc, if_neg (by simp)] at hsk
        have HSK := Lib.hid hsk
        clear hsk
        go_wp2_with fail
        refine (ended_no p s j l b d q _ HR.out hlt).mono ?_
        rintro e w1 ⟨rfl, hb1⟩
        have HR1 := Lib.hid (HR.out.below hb1)
        obtain ⟨⟨c0, c1, c2, c3, c4, c5⟩, f0, f1, f2⟩ := HR1.out.cells
        have HB1 := Lib.hid hb1
        have hi := HR1.out.2.1
        clear hb1
        go_wp2_with fail
        go_quiet (fail)
        go_wp2_with fail
        refine (next_else p s j l b d q _ (HR1.out.below (below_drewN _ _)) hlt hc).mono ?_
        rintro e w2 ⟨rfl, hr2, hb2⟩
        have HR2 := Lib.hid hr2
        have HB2 := Lib.hid hb2
        clear hr2 hb2 c0 c1 c2 c3 c4 c5 f0 f1 f2
        go_wp2
        go_roundg (s.size - (j + 1))
        case rel => exact ⟨j + 1, rfl, by omega, HR2, Lib.hid (by rw [← HSK.out]; exact HS.out), Lib.hid (HB.out.moved HB1.out ((But.drewN _ _).trans HB2.out))⟩
        case measure => have := HK.out; omega
      · rw [hc, if_pos rfl] at hsk
        have HSK := Lib.hid hsk
        clear hsk
        go_wp2_with fail
        refine (ended_no p s j l b d q _ HR.out hlt).mono ?_
        rintro e w1 ⟨rfl, hb1⟩
        have HR1 := Lib.hid (HR.out.below hb1)
        obtain ⟨⟨c0, c1, c2, c3, c4, c5⟩, f0, f1, f2⟩ := HR1.out.cells
        have HB1 := Lib.hid hb1
        have hi := HR1.out.2.1
        clear hb1
        go_wp2_with fail
        go_quiet (fail)
        go_wp2_with fail
        refine (next_feed p s j l b d q _ (HR1.out.below (below_drewN _ _)) hlt hc).mono ?_
        rintro e w2 ⟨rfl, hr2, hb2⟩
        have HR2 := Lib.hid hr2
        have HB2 := Lib.hid hb2
        clear hr2 hb2 c0 c1 c2 c3 c4 c5 f0 f1 f2
        go_wp2
        go_end0
        exact ⟨rfl, ⟨j + 1, l + 1, j + 1, HR2.out, by rw [← HSK.out]; exact HS.out, fun _ => ⟨rfl, rfl⟩, by omega, fun _ => by omega⟩, HB.out.moved HB1.out ((But.drewN _ _).trans HB2.out)⟩
    · go_wp2_with fail
      refine (ended_yes p s j l b d q _ HR.out hlt).mono ?_
      rintro e w1 ⟨rfl, hb1⟩
      have HB1 := Lib.hid hb1
      clear hb1
      go_wp2
      go_end0
      exact ⟨rfl, ⟨j, l, b, HR.out.below HB1.out, by rw [← HS.out, drop_end s j (by omega)]; rfl, fun h => absurd h hlt, hij, fun h => by omega⟩, HB.out.trans (But.of_below HB1.out)⟩

theorem column_any (a b : Int) (l : Int) (h1 : 0 ≤ b) (h2 : b ≤ a) (h3 : a ≤ 100000) (w : World) :
    Calls Tryd.prog 54 #[.agg #[.int .i64 a, .int .i64 l, .int .i64 b]] w (RetB (.int .i64 (a - b + 1)) w) := by
  go_enter Tryd.func54, Tryd.ntmps54
  go_wp2
  go_ret
  exact ⟨rfl, (Below.refl _ _).alloc (Nat.le_refl _) _⟩

theorem below_cell {w w1 : World} (hb : Below w.heap.size w w1) {a : Addr} {v : Value} (h : w.cell? a = some v) : w1.cell? a = some v := by rw [hb.cell (lt_of_cell h)]; exact h
/-- a problem in a block of its own -/
def PrAt (w : World) (g : Nat) (l k c : Nat) : Prop := w.heap[g]? = some (.cells #[.int .i64 0, .int .i64 l, .int .i64 k, .int .i64 c] 77 (0, 0))
def NewPr (l k c : Nat) (w : World) (e : Ending) (w' : World) : Prop := ∃ g, e = .returned (.pointer (some ⟨g, 0, none⟩)) ∧ PrAt w' g l k c ∧ w.heap.size ≤ g ∧ Below w.heap.size w w'
theorem problem_any (c : Nat) (p : Nat) (s : ByteArray) (i l b : Nat) (d q : UInt8) (w : World) (hR : RdAt w p s i l b d q) :
    Calls Tryd.prog 53 #[.pointer (some ⟨p, 0, none⟩), .int .i64 c] w (NewPr l (i - b + 1) c w) := by
  have HR := Lib.hid hR
  have hp := lt_of_heap hR.1
  obtain ⟨⟨c0, c1, c2, c3, c4, c5⟩, f0, f1, f2⟩ := hR.cells
  obtain ⟨_, hs, hi, hb, hl⟩ := hR
  go_enter Tryd.func53, Tryd.ntmps53
  go_wp2
  go_region_held3 (fun w' => w'.cell? ⟨p, 0, none⟩ = some (.int .i64 i) ∧ w'.cell? ⟨p, 1, none⟩ = some (.int .i64 l) ∧ w'.cell? ⟨p, 2, none⟩ = some (.int .i64 b)) (first | (with_reducible exact ⟨k0, k1, k2⟩) | go_keep) ((go_at_call 54; refine (column_any i b l (by omega) (by omega) (by omega) _).mono ?_; rintro e w1 ⟨rfl, hb1⟩; have k0 := below_cell hb1 (a := ⟨p, 0, none⟩) (v := .int .i64 i) (by assumption); have k1 := below_cell hb1 (a := ⟨p, 1, none⟩) (v := .int .i64 l) (by assumption); have k2 := below_cell hb1 (a := ⟨p, 2, none⟩) (v := .int .i64 b) (by assumption)))
  go_wp2
  go_ret
  refine ⟨w1.heap.size, rfl, ?_, by have := hb1.size; simpa using this, (((Below.refl _ w).drew).trans hb1).alloc (by have := hb1.size; simpa using this) _⟩
  have e : ((i - b + 1 : Nat) : Int) = (i : Int) - b + 1 := by omega
  unfold PrAt
  rw [e]
  exact heap_alloc_new w1 _
end Go.Proofs.YtpiejpodaljefaaDoor
