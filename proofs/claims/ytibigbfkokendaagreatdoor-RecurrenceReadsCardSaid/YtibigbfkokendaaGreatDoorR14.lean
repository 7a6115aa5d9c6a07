/- Series: the series of a list of days with a number of weeks and weekdays, of the reference. -/
import Derived.Test.YtibigbfkokendaaGreatDoorR13
namespace Go.Proofs.YtibigbfkokendaaGreatDoor
open Go.RowKit Go.Maps TT

/-- what the reference's 'with' knows of the world -/
structure WR (w wr : World) (f l e k : Int) (va vb : Value) (X Y : List Int) : Prop where
  hr : wr.heap[w.heap.size]? = some (cells6 0 0 0 0 (.slice none 0 0) (.slice none 0 0))
  bx : Bx wr (w.heap.size + 1) (w.heap.size + 2) f l e k va vb X Y
  bl : Below w.heap.size w wr
  sz : w.heap.size + 2 ≤ wr.heap.size
section
variable {w wr w2 : World} {f l e k : Int} {va vb : Value} {X Y : List Int}
theorem WR.next (h : WR w wr f l e k va vb X Y) (hb : Below wr.heap.size wr w2) : WR w w2 f l e k va vb X Y :=
  ⟨(hb.block _ (lt_of_heap h.hr)).trans h.hr, h.bx.below hb, h.bl.trans (hb.mono h.bl.size), Nat.le_trans h.sz hb.size⟩
theorem WR.appX {v' : Value} {x : Int} {tmp : Obj} {w4 : World} (h : WR w wr f l e k va vb X Y) (hown : w4.ownsRow (w.heap.size + 2) 3 1 v' (X.length + 1) (X.map (Value.int .i64) ++ [.int .i64 x])) (hg : (wr.alloc tmp).grownBy w4 va.ownBlock) (hl : v'.ownBlock = va.ownBlock ∨ v'.ownBlock = some (wr.alloc tmp).heap.size) :
    w4.heap[w.heap.size + 1]? = some (cells6 f l e k va vb) ∧ WR w (w4.setCell ⟨w.heap.size + 1, 4, none⟩ v') f l e k v' vb (X ++ [x]) Y := by
  obtain ⟨q1, q2, q3⟩ := h.bx.appX h.sz hown hg hl
  have hsz := h.sz
  have hlo : ∀ q, q < w.heap.size + 2 → q ≠ w.heap.size + 1 → (w4.setCell ⟨w.heap.size + 1, 4, none⟩ v').heap[q]? = wr.heap[q]? := fun q h1 h2 => by
    rw [heap_setCell_other _ _ _ _ h2, hg.block q (by simp; omega) (fun e => by have := (h.bx.ra.lt q e.symm).1; omega), Below.heap_alloc _ _ _ (by omega)]
  exact ⟨q1, ⟨(hlo _ (by omega) (by omega)).trans h.hr, q2, h.bl.trans (q3.mono (by omega)), Nat.le_trans hsz q3.size⟩⟩
theorem WR.appY {v' : Value} {x : Int} {tmp : Obj} {w4 : World} (h : WR w wr f l e k va vb X Y) (hown : w4.ownsRow (w.heap.size + 2) 3 1 v' (Y.length + 1) (Y.map (Value.int .i64) ++ [.int .i64 x])) (hg : (wr.alloc tmp).grownBy w4 vb.ownBlock) (hl : v'.ownBlock = vb.ownBlock ∨ v'.ownBlock = some (wr.alloc tmp).heap.size) :
    w4.heap[w.heap.size + 1]? = some (cells6 f l e k va vb) ∧ WR w (w4.setCell ⟨w.heap.size + 1, 5, none⟩ v') f l e k va v' X (Y ++ [x]) := by
  obtain ⟨q1, q2, q3⟩ := h.bx.appY h.sz hown hg hl
  have hsz := h.sz
  have hlo : ∀ q, q < w.heap.size + 2 → q ≠ w.heap.size + 1 → (w4.setCell ⟨w.heap.size + 1, 5, none⟩ v').heap[q]? = wr.heap[q]? := fun q h1 h2 => by
    rw [heap_setCell_other _ _ _ _ h2, hg.block q (by simp; omega) (fun e => by have := (h.bx.rb.lt q e.symm).1; omega), Below.heap_alloc _ _ _ (by omega)]
  exact ⟨q1, ⟨(hlo _ (by omega) (by omega)).trans h.hr, q2, h.bl.trans (q3.mono (by omega)), Nat.le_trans hsz q3.size⟩⟩
end

end Go.Proofs.YtibigbfkokendaaGreatDoor
