/- Series: Of of the program and of the reference: lists that are no lists of days. -/
import Derived.Test.YtibigbfkokendaaGreatDoorR15
namespace Go.Proofs.YtibigbfkokendaaGreatDoor
open Go.RowKit Go.Maps TT

/-- what Of hands back -/
def OfP (L : List Int) (w : World) (en : Ending) (w' : World) : Prop :=
  ∃ a c b q, en = .returned (.tuple #[serV (ofF L) (ofL L) (ofEv L) (ofK L) a (ofX L).length c b (ofY L).length q, .int .i64 (ofE L)]) ∧ IntsAt w' a (ofX L).length (ofX L) ∧ IntsAt w' b (ofY L).length (ofY L) ∧ Below w.heap.size w w'
theorem of_no {L : List Int} (h : ofE L ≠ 0) : ofF L = 0 ∧ ofL L = 0 ∧ ofEv L = 0 ∧ ofK L = 0 ∧ ofX L = [] ∧ ofY L = [] := by
  unfold ofF ofL ofEv ofK ofX ofY; simp only [if_neg h, and_self]
theorem ofP_no {L : List Int} {v : Int} {w w' : World} (h : v = ofE L) (hv : v ≠ 0) (hb : Below w.heap.size w w') :
    OfP L w (.returned (.tuple #[serV 0 0 0 0 none 0 0 none 0 0, .int .i64 v])) w' := by
  obtain ⟨h1, h2, h3, h4, h5, h6⟩ := of_no (L := L) (by rw [← h]; exact hv)
  refine ⟨none, 0, none, 0, ?_, ?_, ?_, hb⟩
  · rw [h1, h2, h3, h4, h5, h6, h]; rfl
  · rw [h5]; exact ⟨rfl, by simp, Or.inl rfl⟩
  · rw [h6]; exact ⟨rfl, by simp, Or.inl rfl⟩
theorem ofE_empty {L : List Int} (h : L.length = 0) : 16 = ofE L := by unfold ofE; rw [if_pos h]
theorem ofE_lst {L : List Int} {v : Int} (h0 : L.length ≠ 0) (h : lstE none L = v) (hv : v ≠ 0) : v = ofE L := by unfold ofE; rw [if_neg h0, if_pos (by rw [h]; exact hv), h]
theorem ofE_rng {L : List Int} (h0 : L.length ≠ 0) (h : lstE none L = 0) (h2 : fstD L + 140 < lstD L) : 3 = ofE L := by unfold ofE; rw [if_neg h0, if_neg (by simp [h]), if_pos h2]
theorem ofE_ok {L : List Int} (h0 : L.length ≠ 0) (h : lstE none L = 0) (h2 : ¬ fstD L + 140 < lstD L) : ofE L = 0 := by unfold ofE; rw [if_neg h0, if_neg (by simp [h]), if_neg h2]

/-- the cell of the result, still empty, and the list -/
structure OW (w wr : World) (a : Option Addr) (n : Nat) (L : List Int) : Prop where
  hr : wr.heap[w.heap.size]? = some (cells6 0 0 0 0 (.slice none 0 0) (.slice none 0 0))
  il : IntsAt wr a n L
  bl : Below w.heap.size w wr
theorem OW.next {w wr w2 : World} {a : Option Addr} {n : Nat} {L : List Int} (h : OW w wr a n L) (hb : Below wr.heap.size wr w2) : OW w w2 a n L :=
  ⟨(hb.block _ (lt_of_heap h.hr)).trans h.hr, h.il.below hb, h.bl.trans (hb.mono h.bl.size)⟩
theorem OW.mk0 {w : World} {a : Option Addr} {n : Nat} {L : List Int} (h : IntsAt w a n L) : OW w (w.alloc (.cells #[.int .i64 0, .int .i64 0, .int .i64 0, .int .i64 0, .slice none 0 0, .slice none 0 0] 24)) a n L := by
  have hb : Below w.heap.size w (w.alloc (.cells #[.int .i64 0, .int .i64 0, .int .i64 0, .int .i64 0, .slice none 0 0, .slice none 0 0] 24)) := (Below.refl _ _).alloc (Nat.le_refl _) _
  exact ⟨World.alloc_heap_new w _, h.below hb, hb⟩
/-- the cell of the result is stored -/
theorem OW.put {w wr : World} {a : Option Addr} {n : Nat} {L : List Int} (h : OW w wr a n L) (f l e k : Int) (va vb : Value) :
    (put6 wr w.heap.size f l e k va vb).heap[w.heap.size]? = some (cells6 f l e k va vb) ∧ wr.grownBy (put6 wr w.heap.size f l e k va vb) (some w.heap.size) ∧ Below w.heap.size w (put6 wr w.heap.size f l e k va vb) :=
  ⟨c6_all h.hr _ _ _ _ _ _, grownBy_put6 .., h.bl.grown (grownBy_put6 ..) h.bl.size (fun q hq => by cases hq; exact Nat.le_refl _)⟩

end Go.Proofs.YtibigbfkokendaaGreatDoor
