/- Series: Of of the reference. -/
import Derived.Test.YtibigbfkokendaaGreatDoorR18
namespace Go.Proofs.YtibigbfkokendaaGreatDoor
open Go.RowKit Go.Maps TT

/-- a series in block B, its lists elsewhere -/
def SBx (w : World) (B base : Nat) (f l e k : Int) (X Y : List Int) : Prop :=
  ∃ a c b q, w.heap[B]? = some (cells6 f l e k (.slice a X.length c) (.slice b Y.length q)) ∧ (Row w base (.slice a X.length c) X ∧ (Value.slice a X.length c).ownBlock ≠ some B) ∧ (Row w base (.slice b Y.length q) Y ∧ (Value.slice b Y.length q).ownBlock ≠ some B)
theorem SBx.below {w w2 : World} {B base : Nat} {f l e k : Int} {X Y : List Int} (h : SBx w B base f l e k X Y) (hb : Below w.heap.size w w2) : SBx w2 B base f l e k X Y := by
  obtain ⟨a, c, b, q, h2, h3, h4⟩ := h
  exact ⟨a, c, b, q, (hb.block _ (lt_of_heap h2)).trans h2, ⟨row_below h3.1 hb, h3.2⟩, ⟨row_below h4.1 hb, h4.2⟩⟩
theorem SBx.lt {w : World} {B base : Nat} {f l e k : Int} {X Y : List Int} (h : SBx w B base f l e k X Y) : B < w.heap.size := by obtain ⟨a, c, b, q, h1, _⟩ := h; exact lt_of_heap h1
/-- a series stored into block B -/
theorem SBx.put {w : World} {B base : Nat} {f0 l0 e0 k0 : Int} {va vb : Value} (h : w.heap[B]? = some (cells6 f0 l0 e0 k0 va vb)) {f l e k : Int} {X Y : List Int} {a b : Option Addr} {c q : Nat}
    (h1 : Row w base (.slice a X.length c) X ∧ (Value.slice a X.length c).ownBlock ≠ some B) (h2 : Row w base (.slice b Y.length q) Y ∧ (Value.slice b Y.length q).ownBlock ≠ some B) :
    SBx (put6 w B f l e k (.slice a X.length c) (.slice b Y.length q)) B base f l e k X Y := by
  have hg := grownBy_put6 w B f l e k (.slice a X.length c) (.slice b Y.length q)
  exact ⟨a, c, b, q, c6_all h _ _ _ _ _ _, ⟨h1.1.kept hg (Or.inr h1.2), h1.2⟩, ⟨h2.1.kept hg (Or.inr h2.2), h2.2⟩⟩
/-- a series laid into a new block -/
theorem SBx.new {w : World} {base : Nat} {f l e k : Int} {X Y : List Int} {a b : Option Addr} {c q : Nat} (h1 : Row w base (.slice a X.length c) X) (h2 : Row w base (.slice b Y.length q) Y) :
    SBx (w.alloc (.cells #[.int .i64 f, .int .i64 l, .int .i64 e, .int .i64 k, .slice a X.length c, .slice b Y.length q] 24)) w.heap.size base f l e k X Y := by
  have hbl : Below w.heap.size w (w.alloc (.cells #[.int .i64 f, .int .i64 l, .int .i64 e, .int .i64 k, .slice a X.length c, .slice b Y.length q] 24)) := (Below.refl _ _).alloc (Nat.le_refl _) _
  have key : ∀ {v : Value} {L : List Int}, Row w base v L → v.ownBlock ≠ some w.heap.size := fun hr e => by have := (hr.lt _ e).2; omega
  exact ⟨a, c, b, q, World.alloc_heap_new w _, ⟨row_below h1 hbl, key h1⟩, ⟨row_below h2 hbl, key h2⟩⟩
theorem row_ne {w : World} {base B : Nat} {v : Value} {L : List Int} (h : Row w base v L) (hB : B < base) : v.ownBlock ≠ some B := fun e => by have := (h.lt _ e).1; omega

/-- two series in their boxes -/
structure EX (W4 w : World) (B1 B2 : Nat) (f l e k : Int) (va vb : Value) (f' l' e' k' : Int) (va' vb' : Value) : Prop where
  bl : Below W4.heap.size W4 w
  h1 : w.heap[B1]? = some (cells6 f l e k va vb)
  h2 : w.heap[B2]? = some (cells6 f' l' e' k' va' vb')
section
variable {W4 w w2 : World} {B1 B2 : Nat} {f l e k : Int} {va vb : Value} {f' l' e' k' : Int} {va' vb' : Value}
theorem EX.next (hb : Below w.heap.size w w2) (h : EX W4 w B1 B2 f l e k va vb f' l' e' k' va' vb') : EX W4 w2 B1 B2 f l e k va vb f' l' e' k' va' vb' :=
  ⟨h.bl.trans (hb.mono h.bl.size), (hb.block _ (lt_of_heap h.h1)).trans h.h1, (hb.block _ (lt_of_heap h.h2)).trans h.h2⟩
theorem EX.drew (h : EX W4 w B1 B2 f l e k va vb f' l' e' k' va' vb') : EX W4 w.drew B1 B2 f l e k va vb f' l' e' k' va' vb' := h.next (bel_drew0 _)
theorem EX.all (h : EX W4 w B1 B2 f l e k va vb f' l' e' k' va' vb') : EX W4 w B1 B2 f l e k va vb f' l' e' k' va' vb' ∧
    w.cell? ⟨B1, 0, none⟩ = some (.int .i64 f) ∧ w.cell? ⟨B1, 1, none⟩ = some (.int .i64 l) ∧ w.cell? ⟨B1, 2, none⟩ = some (.int .i64 e) ∧ w.cell? ⟨B1, 3, none⟩ = some (.int .i64 k) ∧ w.cell? ⟨B1, 4, none⟩ = some va ∧ w.cell? ⟨B1, 5, none⟩ = some vb ∧
    w.cell? ⟨B2, 0, none⟩ = some (.int .i64 f') ∧ w.cell? ⟨B2, 1, none⟩ = some (.int .i64 l') ∧ w.cell? ⟨B2, 2, none⟩ = some (.int .i64 e') ∧ w.cell? ⟨B2, 3, none⟩ = some (.int .i64 k') ∧ w.cell? ⟨B2, 4, none⟩ = some va' ∧ w.cell? ⟨B2, 5, none⟩ = some vb' := by
  obtain ⟨a0, a1, a2, a3, a4, a5, _⟩ := c6_cells h.h1
  obtain ⟨b0, b1, b2, b3, b4, b5, _⟩ := c6_cells h.h2
  exact ⟨h, a0, a1, a2, a3, a4, a5, b0, b1, b2, b3, b4, b5⟩
end

end Go.Proofs.YtibigbfkokendaaGreatDoor
