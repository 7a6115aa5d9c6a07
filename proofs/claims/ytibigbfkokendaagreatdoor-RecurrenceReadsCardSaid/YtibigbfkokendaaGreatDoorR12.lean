/- Series: the series of a list of days with a given Every, of the program. -/
import Derived.Test.YtibigbfkokendaaGreatDoorRB
namespace Go.Proofs.YtibigbfkokendaaGreatDoor
open Go.RowKit Go.Maps TT

/-- what 'with' knows of the world: the cells of its result, its series, its set of days -/
structure WA (w wr : World) (f l e k : Int) (va vb : Value) (X Y : List Int) (N : Nat) (L : List Int) : Prop where
  hr : wr.heap[w.heap.size]? = some (cells6 0 0 0 0 (.slice none 0 0) (.slice none 0 0))
  bx : Bx wr (w.heap.size + 1) (w.heap.size + 3) f l e k va vb X Y
  st : SetAt wr (w.heap.size + 2) N L
  bl : Below w.heap.size w wr
  sz : w.heap.size + 3 ≤ wr.heap.size
section
variable {w wr w2 : World} {f l e k : Int} {va vb : Value} {X Y : List Int} {N : Nat} {L : List Int}
theorem WA.next (h : WA w wr f l e k va vb X Y N L) (hb : Below wr.heap.size wr w2) : WA w w2 f l e k va vb X Y N L :=
  ⟨(hb.block _ (lt_of_heap h.hr)).trans h.hr, h.bx.below hb, h.st.below hb, h.bl.trans (hb.mono h.bl.size), Nat.le_trans h.sz hb.size⟩
/-- a step that turns one block that is none of these -/
theorem WA.grown {row : Option Nat} (h : WA w wr f l e k va vb X Y N L) (hg : wr.grownBy w2 row) (h1 : ∀ g, row = some g → w.heap.size + 3 ≤ g ∧ va.ownBlock ≠ some g ∧ vb.ownBlock ≠ some g) : WA w w2 f l e k va vb X Y N L := by
  refine ⟨(hg.block _ (lt_of_heap h.hr) (fun e => by have := (h1 _ e.symm).1; omega)).trans h.hr, h.bx.grown2 hg (fun g e => ⟨by have := (h1 _ e).1; omega, (h1 _ e).2⟩), h.st.kept hg (fun e => by have := (h1 _ e.symm).1; omega), h.bl.grown hg h.bl.size (fun j e => by have := (h1 _ e).1; omega), Nat.le_trans h.sz hg.size⟩
theorem WA.setk (h : WA w wr f l e k va vb X Y N L) (k' : Int) : WA w (wr.setCell ⟨w.heap.size + 1, 3, none⟩ (.int .i64 k')) f l e k' va vb X Y N L := by
  have hne : ∀ {v : Value} {L : List Int} {u : World}, Row u (w.heap.size + 3) v L → some (w.heap.size + 1) ≠ v.ownBlock := fun hr e => by have := (hr.lt _ e.symm).1; omega
  have hg := grownBy_set wr (w.heap.size + 1) 3 (.int .i64 k')
  refine ⟨(hg.block _ (lt_of_heap h.hr) (by simp)).trans h.hr, ⟨c6_set3 h.bx.hs k', h.bx.ra.kept hg (Or.inr (hne h.bx.ra).symm), h.bx.rb.kept hg (Or.inr (hne h.bx.rb).symm), h.bx.dj, h.bx.hB⟩, h.st.kept hg (by simp), h.bl.grown hg h.bl.size (fun j e => by cases e; omega), Nat.le_trans h.sz hg.size⟩
theorem WA.put {D : DataW Unit} {x : Int} {M : List Int} (h : WA w wr f l e k va vb X Y N L) (hm : IsMap D) (ha : ∀ y : Int, (Lit.int .i64 y).wf = true → D.atKey (.int .i64 y) (.lit (.bool false)) = .lit (.bool (hasI M y)))
    (hown : w2.ownsMap Tryz.prog 3 (plainElem Tryz.prog 4) (w.heap.size + 2) (N + 1) (D.put (.int .i64 x) (.lit (.bool true)))) (hg : wr.grownBy w2 (some (w.heap.size + 2))) : WA w w2 f l e k va vb X Y (N + 1) (M ++ [x]) := by
  have hne : ∀ {v : Value} {L : List Int} {u : World}, Row u (w.heap.size + 3) v L → v.ownBlock ≠ some (w.heap.size + 2) := fun hr e => by have := (hr.lt _ e).1; omega
  exact ⟨(hg.block _ (lt_of_heap h.hr) (by simp)).trans h.hr, h.bx.grown2 hg (fun g e => by cases e; exact ⟨by omega, hne h.bx.ra, hne h.bx.rb⟩), SetAt.put hm ha hown, h.bl.grown hg h.bl.size (fun j e => by cases e; omega), Nat.le_trans h.sz hg.size⟩
theorem WA.appX {v' : Value} {x : Int} {tmp : Obj} {w4 : World} (h : WA w wr f l e k va vb X Y N L) (hown : w4.ownsRow (w.heap.size + 3) 3 1 v' (X.length + 1) (X.map (Value.int .i64) ++ [.int .i64 x])) (hg : (wr.alloc tmp).grownBy w4 va.ownBlock) (hl : v'.ownBlock = va.ownBlock ∨ v'.ownBlock = some (wr.alloc tmp).heap.size) :
    w4.heap[w.heap.size + 1]? = some (cells6 f l e k va vb) ∧ WA w (w4.setCell ⟨w.heap.size + 1, 4, none⟩ v') f l e k v' vb (X ++ [x]) Y N L := by
  obtain ⟨q1, q2, q3⟩ := h.bx.appX h.sz hown hg hl
  have hsz := h.sz
  have hlo : ∀ q, q < w.heap.size + 3 → q ≠ w.heap.size + 1 → (w4.setCell ⟨w.heap.size + 1, 4, none⟩ v').heap[q]? = wr.heap[q]? := fun q h1 h2 => by
    rw [heap_setCell_other _ _ _ _ h2, hg.block q (by simp; omega) (fun e => by have := (h.bx.ra.lt q e.symm).1; omega), Below.heap_alloc _ _ _ (by omega)]
  refine ⟨q1, ⟨(hlo _ (by omega) (by omega)).trans h.hr, q2, ?_, h.bl.trans (q3.mono (by omega)), Nat.le_trans hsz q3.size⟩⟩
  obtain ⟨D, ⟨es, ck, hh, r⟩, h2⟩ := h.st
  exact ⟨D, ⟨es, ck, (hlo _ (by omega) (by omega)).trans hh, r⟩, h2⟩
theorem WA.appY {v' : Value} {x : Int} {tmp : Obj} {w4 : World} (h : WA w wr f l e k va vb X Y N L) (hown : w4.ownsRow (w.heap.size + 3) 3 1 v' (Y.length + 1) (Y.map (Value.int .i64) ++ [.int .i64 x])) (hg : (wr.alloc tmp).grownBy w4 vb.ownBlock) (hl : v'.ownBlock = vb.ownBlock ∨ v'.ownBlock = some (wr.alloc tmp).heap.size) :
    w4.heap[w.heap.size + 1]? = some (cells6 f l e k va vb) ∧ WA w (w4.setCell ⟨w.heap.size + 1, 5, none⟩ v') f l e k va v' X (Y ++ [x]) N L := by
  obtain ⟨q1, q2, q3⟩ := h.bx.appY h.sz hown hg hl
  have hsz := h.sz
  have hlo : ∀ q, q < w.heap.size + 3 → q ≠ w.heap.size + 1 → (w4.setCell ⟨w.heap.size + 1, 5, none⟩ v').heap[q]? = wr.heap[q]? := fun q h1 h2 => by
    rw [heap_setCell_other _ _ _ _ h2, hg.block q (by simp; omega) (fun e => by have := (h.bx.rb.lt q e.symm).1; omega), Below.heap_alloc _ _ _ (by omega)]
  refine ⟨q1, ⟨(hlo _ (by omega) (by omega)).trans h.hr, q2, ?_, h.bl.trans (q3.mono (by omega)), Nat.le_trans hsz q3.size⟩⟩
  obtain ⟨D, ⟨es, ck, hh, r⟩, h2⟩ := h.st
  exact ⟨D, ⟨es, ck, (hlo _ (by omega) (by omega)).trans hh, r⟩, h2⟩
end

/-- seven counters in block B -/
def More (w : World) (B : Nat) (M : Int → Int) : Prop :=
  w.heap[B]? = some (.cells #[.int .i64 (M 0), .int .i64 (M 1), .int .i64 (M 2), .int .i64 (M 3), .int .i64 (M 4), .int .i64 (M 5), .int .i64 (M 6)] 87 (0, 0))
theorem More.below {w w' : World} {B : Nat} {M : Int → Int} (h : More w B M) (hb : Below w.heap.size w w') : More w' B M := (hb.block B (lt_of_heap h)).trans h
theorem More.cells {w : World} {B : Nat} {M : Int → Int} (h : More w B M) :
    w.cell? ⟨B, 0, none⟩ = some (.int .i64 (M 0)) ∧ w.cell? ⟨B, 1, none⟩ = some (.int .i64 (M 1)) ∧ w.cell? ⟨B, 2, none⟩ = some (.int .i64 (M 2)) ∧ w.cell? ⟨B, 3, none⟩ = some (.int .i64 (M 3)) ∧
    w.cell? ⟨B, 4, none⟩ = some (.int .i64 (M 4)) ∧ w.cell? ⟨B, 5, none⟩ = some (.int .i64 (M 5)) ∧ w.cell? ⟨B, 6, none⟩ = some (.int .i64 (M 6)) := by
  unfold More at h
  refine ⟨?_, ?_, ?_, ?_, ?_, ?_, ?_⟩ <;> simp [World.cell?, h]
theorem More.frozen {w : World} {B : Nat} {M : Int → Int} (h : More w B M) (i : Nat) : w.frozen? ⟨B, i, none⟩ = false := by
  unfold More at h; simp [World.frozen?, h]
theorem More.set {w : World} {B : Nat} {M M' : Int → Int} (h : More w B M) (i : Nat) (hi : i < 7) (v : Int) (hv : M' i = v) (ho : ∀ q : Int, q ≠ i → M' q = M q) : More (w.setCell ⟨B, i, none⟩ (.int .i64 v)) B M' := by
  have e : ∀ q : Int, M' q = if q = (i : Int) then v else M q := fun q => by
    by_cases c : q = (i : Int)
    · rw [if_pos c, c]; exact hv
    · rw [if_neg c]; exact ho q c
  unfold More at h ⊢
  rw [heap_setCell_same w B i _ _ _ h, e 0, e 1, e 2, e 3, e 4, e 5, e 6]
  rcases (show i = 0 ∨ i = 1 ∨ i = 2 ∨ i = 3 ∨ i = 4 ∨ i = 5 ∨ i = 6 by omega) with rfl | rfl | rfl | rfl | rfl | rfl | rfl <;> simp

end Go.Proofs.YtibigbfkokendaaGreatDoor
