/- Zones: the program reads a text. -/
import Derived.Test.YtllcoocllkaanaaDoorY6
import Derived.Test.YtllcoocllkaanaaDoorY8
import Derived.Test.YtllcoocllkaanaaDoorY11
import Derived.Test.YtllcoocllkaanaaDoorZ19
namespace Go.Proofs.YtllcoocllkaanaaDoor
open Go.RowKit TT

theorem split_any (s : ByteArray) (w : World) (hT : Tbs w) (hs : s.size ≤ 1000000) : Calls Tryd.prog 48 #[.string s, .string nl] w fun e w' =>
    e = .returned (.slice (some ⟨w.heap.size, 0, none⟩) (pcs s).length (pcs s).length) ∧ w' = w.alloc (.cells (Lib.cellsOf (pcs s) (pcs s).length) 9) := by
  obtain ⟨m, hm⟩ := hT.mx
  have hc := pcs_le s
  have h := Tryd.strings_genSplit s nl 1 (-1) (Lib.countB s nl + 1) m w (by omega) hm (by decide) (by decide) (by decide) (by decide) (by rw [if_pos (by decide)]; omega)
  have hl := pcs_len s
  rw [Nat.add_sub_cancel] at h
  have hp : Lib.splitB nl 1 (Lib.countB s nl) s = pcs s := rfl
  rw [hp, ← hl] at h
  have H := Lib.hid h
  have hnl : nl.size = 1 := rfl
  clear h hm hT hp hl hc
  generalize nl = sep at *
  go_enter Tryd.func48, Tryd.ntmps48
  go_wp2_with fail
  refine H.out.mono ?_
  rintro e w1 ⟨rfl, rfl⟩
  go_wp2_with fail
  go_ret
  exact ⟨rfl, rfl⟩
/-- a text while it is read: the result's box, the zone's box, and the pieces -/
structure PW (w wr : World) (parts : List ByteArray) (nm : ByteArray) (o : Int) (v : Value) : Prop where
  be : Below w.heap.size w wr
  h0 : wr.heap[w.heap.size]? = some (.cells #[.string ⟨#[]⟩, .int .i64 0, .slice none 0 0] 24 (0, 0))
  h1 : wr.heap[w.heap.size + 1]? = some (.cells #[.string nm, .int .i64 o, v] 24 (0, 0))
  hp : ∀ q p, parts[q]? = some p → wr.cell? ⟨w.heap.size + 2, q, none⟩ = some (.string p)
  sz : w.heap.size + 2 < wr.heap.size
theorem PW.below {w wr W : World} {parts : List ByteArray} {nm : ByteArray} {o : Int} {v : Value} (h : PW w wr parts nm o v) (hb : Below wr.heap.size wr W) : PW w W parts nm o v :=
  ⟨h.be.trans (hb.mono h.be.size), (hb.block _ (lt_of_heap h.h0)).trans h.h0, (hb.block _ (lt_of_heap h.h1)).trans h.h1, fun q p hq => below_cell hb (h.hp q p hq), Nat.lt_of_lt_of_le h.sz hb.size⟩
theorem PW.set {w wr : World} {parts : List ByteArray} {nm nm' : ByteArray} {o o' : Int} {v v' : Value} (h : PW w wr parts nm o v) (i : Nat) (x : Value) (he : (#[.string nm, .int .i64 o, v] : Array Value).setIfInBounds i x = #[.string nm', .int .i64 o', v']) :
    PW w (wr.setCell ⟨w.heap.size + 1, i, none⟩ x) parts nm' o' v' := by
  refine ⟨?_, ?_, ?_, fun q p hq => ?_, by have := h.sz; simpa using this⟩
  · exact ⟨h.be.os, h.be.tape, h.be.output, by simpa using h.be.size, fun q hq => (heap_setCell_other _ _ _ _ (by show q ≠ w.heap.size + 1; omega)).trans (h.be.block q hq)⟩
  · rw [heap_setCell_other _ _ _ _ (by show w.heap.size ≠ w.heap.size + 1; omega)]; exact h.h0
  · rw [heap_setCell_same _ _ _ _ _ _ h.h1, he]
  · rw [World.cell?_setCell_far _ _ _ _ (by show w.heap.size + 1 ≠ w.heap.size + 2; omega)]; exact h.hp q p hq
end Go.Proofs.YtllcoocllkaanaaDoor
