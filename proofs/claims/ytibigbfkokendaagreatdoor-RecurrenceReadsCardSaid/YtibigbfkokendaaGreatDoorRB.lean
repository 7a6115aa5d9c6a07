/- A series in a box whose two lists the call itself grows. -/
import Derived.Test.YtibigbfkokendaaGreatDoorR11
import Derived.Maps.AppendAt
namespace Go.Proofs.YtibigbfkokendaaGreatDoor
open Go.RowKit Go.Maps TT

/-- the six cells of a series in a box -/
abbrev cells6 (f l e k : Int) (va vb : Value) : Obj := .cells #[.int .i64 f, .int .i64 l, .int .i64 e, .int .i64 k, va, vb] 24 (0, 0)

structure Bx (w : World) (B base : Nat) (f l e k : Int) (va vb : Value) (X Y : List Int) : Prop where
  hs : w.heap[B]? = some (cells6 f l e k va vb)
  ra : Row w base va X
  rb : Row w base vb Y
  dj : ∀ g, va.ownBlock = some g → vb.ownBlock ≠ some g
  hB : B < base

theorem c6_cells {w : World} {B : Nat} {f l e k : Int} {va vb : Value} (h : w.heap[B]? = some (cells6 f l e k va vb)) :
    w.cell? ⟨B, 0, none⟩ = some (.int .i64 f) ∧ w.cell? ⟨B, 1, none⟩ = some (.int .i64 l) ∧ w.cell? ⟨B, 2, none⟩ = some (.int .i64 e) ∧ w.cell? ⟨B, 3, none⟩ = some (.int .i64 k) ∧
    w.cell? ⟨B, 4, none⟩ = some va ∧ w.cell? ⟨B, 5, none⟩ = some vb ∧ w.frozen? ⟨B, 0, none⟩ = false ∧ w.frozen? ⟨B, 1, none⟩ = false ∧ w.frozen? ⟨B, 2, none⟩ = false ∧ w.frozen? ⟨B, 3, none⟩ = false ∧ w.frozen? ⟨B, 4, none⟩ = false ∧ w.frozen? ⟨B, 5, none⟩ = false ∧ B < w.heap.size := by
  refine ⟨?_, ?_, ?_, ?_, ?_, ?_, ?_, ?_, ?_, ?_, ?_, ?_, lt_of_heap h⟩
  all_goals first | simp [World.cell?, h] | simp [World.frozen?, h]
theorem c6_set3 {w : World} {B : Nat} {f l e k : Int} {va vb : Value} (h : w.heap[B]? = some (cells6 f l e k va vb)) (k' : Int) : (w.setCell ⟨B, 3, none⟩ (.int .i64 k')).heap[B]? = some (cells6 f l e k' va vb) := by
  rw [heap_setCell_same w B 3 _ _ _ h]; rfl
theorem c6_set4 {w : World} {B : Nat} {f l e k : Int} {va vb : Value} (h : w.heap[B]? = some (cells6 f l e k va vb)) (v : Value) : (w.setCell ⟨B, 4, none⟩ v).heap[B]? = some (cells6 f l e k v vb) := by
  rw [heap_setCell_same w B 4 _ _ _ h]; rfl
theorem c6_set5 {w : World} {B : Nat} {f l e k : Int} {va vb : Value} (h : w.heap[B]? = some (cells6 f l e k va vb)) (v : Value) : (w.setCell ⟨B, 5, none⟩ v).heap[B]? = some (cells6 f l e k va v) := by
  rw [heap_setCell_same w B 5 _ _ _ h]; rfl
theorem c6_set1 {w : World} {B : Nat} {f l e k : Int} {va vb : Value} (h : w.heap[B]? = some (cells6 f l e k va vb)) (v : Int) : (w.setCell ⟨B, 1, none⟩ (.int .i64 v)).heap[B]? = some (cells6 f v e k va vb) := by
  rw [heap_setCell_same w B 1 _ _ _ h]; rfl

theorem Bx.grown {w w' : World} {B base : Nat} {f l e k : Int} {va vb : Value} {X Y : List Int} {row : Option Nat} (h : Bx w B base f l e k va vb X Y) (hg : w.grownBy w' row) (h1 : ∀ g, row = some g → g < base ∧ g ≠ B) : Bx w' B base f l e k va vb X Y := by
  refine ⟨(hg.block B (lt_of_heap h.hs) (fun e => (h1 B e.symm).2 rfl)).trans h.hs, h.ra.kept hg ?_, h.rb.kept hg ?_, h.dj, h.hB⟩
  · cases hv : va.ownBlock with
    | none => exact Or.inl rfl
    | some g => exact Or.inr (fun e => by have := h1 g e.symm; have := (h.ra.lt g hv).1; omega)
  · cases hv : vb.ownBlock with
    | none => exact Or.inl rfl
    | some g => exact Or.inr (fun e => by have := h1 g e.symm; have := (h.rb.lt g hv).1; omega)
theorem Bx.grown2 {w w' : World} {B base : Nat} {f l e k : Int} {va vb : Value} {X Y : List Int} {row : Option Nat} (h : Bx w B base f l e k va vb X Y) (hg : w.grownBy w' row) (h1 : ∀ g, row = some g → g ≠ B ∧ va.ownBlock ≠ some g ∧ vb.ownBlock ≠ some g) : Bx w' B base f l e k va vb X Y := by
  refine ⟨(hg.block B (lt_of_heap h.hs) (fun e => (h1 B e.symm).1 rfl)).trans h.hs, h.ra.kept hg ?_, h.rb.kept hg ?_, h.dj, h.hB⟩
  · cases hv : va.ownBlock with
    | none => exact Or.inl rfl
    | some g => exact Or.inr (fun e => (h1 g e.symm).2.1 hv)
  · cases hv : vb.ownBlock with
    | none => exact Or.inl rfl
    | some g => exact Or.inr (fun e => (h1 g e.symm).2.2 hv)
theorem Bx.below {w w' : World} {B base : Nat} {f l e k : Int} {va vb : Value} {X Y : List Int} (h : Bx w B base f l e k va vb X Y) (hb : Below w.heap.size w w') : Bx w' B base f l e k va vb X Y :=
  h.grown (grown_below hb none) (fun g e => by cases e)
theorem Bx.mk0 {w : World} {B base : Nat} {f l e k : Int} (h : w.heap[B]? = some (cells6 f l e k (.slice none 0 0) (.slice none 0 0))) (hB : B < base) : Bx w B base f l e k (.slice none 0 0) (.slice none 0 0) [] [] :=
  ⟨h, World.ownsRow_nil _ _ _ _, World.ownsRow_nil _ _ _ _, (fun g e => by simp [Value.ownBlock] at e), hB⟩

theorem c6_set0 {w : World} {B : Nat} {f l e k : Int} {va vb : Value} (h : w.heap[B]? = some (cells6 f l e k va vb)) (v : Int) : (w.setCell ⟨B, 0, none⟩ (.int .i64 v)).heap[B]? = some (cells6 v l e k va vb) := by
  rw [heap_setCell_same w B 0 _ _ _ h]; rfl
theorem c6_set2 {w : World} {B : Nat} {f l e k : Int} {va vb : Value} (h : w.heap[B]? = some (cells6 f l e k va vb)) (v : Int) : (w.setCell ⟨B, 2, none⟩ (.int .i64 v)).heap[B]? = some (cells6 f l v k va vb) := by
  rw [heap_setCell_same w B 2 _ _ _ h]; rfl
/-- all six cells of a box stored -/
abbrev put6 (w : World) (B : Nat) (f l e k : Int) (va vb : Value) : World :=
  (((((w.setCell ⟨B, 0, none⟩ (.int .i64 f)).setCell ⟨B, 1, none⟩ (.int .i64 l)).setCell ⟨B, 2, none⟩ (.int .i64 e)).setCell ⟨B, 3, none⟩ (.int .i64 k)).setCell ⟨B, 4, none⟩ va).setCell ⟨B, 5, none⟩ vb
theorem c6_all {w : World} {B : Nat} {f0 l0 e0 k0 : Int} {va0 vb0 : Value} (h : w.heap[B]? = some (cells6 f0 l0 e0 k0 va0 vb0)) (f l e k : Int) (va vb : Value) :
    (put6 w B f l e k va vb).heap[B]? = some (cells6 f l e k va vb) := c6_set5 (c6_set4 (c6_set3 (c6_set2 (c6_set1 (c6_set0 h f) l) e) k) va) vb
theorem grownBy_set (w : World) (b i : Nat) (v : Value) : w.grownBy (w.setCell ⟨b, i, none⟩ v) (some b) :=
  ⟨rfl, rfl, rfl, by simp, fun k _ hk => heap_setCell_other _ _ _ _ (fun e => hk (by rw [e]))⟩
theorem grow_two {w w1 w2 : World} {B : Nat} (h : w.grownBy w1 (some B)) (g : w1.grownBy w2 (some B)) : w.grownBy w2 (some B) :=
  ⟨g.os.trans h.os, g.tape.trans h.tape, g.output.trans h.output, Nat.le_trans h.size g.size, fun q hq hne => (g.block q (Nat.lt_of_lt_of_le hq h.size) hne).trans (h.block q hq hne)⟩
theorem grownBy_put6 (w : World) (B : Nat) (f l e k : Int) (va vb : Value) : w.grownBy (put6 w B f l e k va vb) (some B) :=
  grow_two (grow_two (grow_two (grow_two (grow_two (grownBy_set _ B 0 _) (grownBy_set _ B 1 _)) (grownBy_set _ B 2 _)) (grownBy_set _ B 3 _)) (grownBy_set _ B 4 _)) (grownBy_set _ B 5 _)

/-- behind 's.Except = append(s.Except, x)', up to the store -/
theorem Bx.appX {w w2 : World} {B base : Nat} {f l e k : Int} {va vb v' : Value} {X Y : List Int} {x : Int} {tmp : Obj} (h : Bx w B base f l e k va vb X Y) (_hb : base ≤ w.heap.size)
    (hown : w2.ownsRow base 3 1 v' (X.length + 1) (X.map (Value.int .i64) ++ [.int .i64 x])) (hg : (w.alloc tmp).grownBy w2 va.ownBlock) (hl : v'.ownBlock = va.ownBlock ∨ v'.ownBlock = some (w.alloc tmp).heap.size) :
    w2.heap[B]? = some (cells6 f l e k va vb) ∧ Bx (w2.setCell ⟨B, 4, none⟩ v') B base f l e k v' vb (X ++ [x]) Y ∧ Below B w (w2.setCell ⟨B, 4, none⟩ v') := by
  have hlt : B < w.heap.size := lt_of_heap h.hs
  have hne : ∀ {v : Value} {L : List Int} {u : World}, Row u base v L → some B ≠ v.ownBlock := fun hr e => by have := (hr.lt B e.symm).1; have := h.hB; omega
  have h2 : w2.heap[B]? = some (cells6 f l e k va vb) := by
    rw [hg.block B (by simp; omega) (hne h.ra), Below.heap_alloc _ _ _ hlt]; exact h.hs
  have hset := c6_set4 h2 v'
  have hX : Row w2 base v' (X ++ [x]) := rowSnoc hown
  have hdj0 : ∀ g, vb.ownBlock = some g → va.ownBlock ≠ some g := fun g e1 e2 => h.dj g e2 e1
  have hY : Row w2 base vb Y := by
    refine (World.ownsRow.alloc h.rb tmp).kept hg ?_
    cases hv : vb.ownBlock with
    | none => exact Or.inl rfl
    | some g => exact Or.inr (fun e => hdj0 g hv e.symm)
  refine ⟨h2, ⟨hset, hX.kept (grownBy_set w2 B 4 v') (Or.inr (hne hX).symm), hY.kept (grownBy_set w2 B 4 v') (Or.inr (hne hY).symm), ?_, h.hB⟩, ?_⟩
  rotate_left
  · refine (((Below.refl B w).alloc (by omega) tmp).grown hg (by simp; omega) (fun j hj => ?_)).setCell (p := ⟨B, 4, none⟩) (Nat.le_refl _) v'
    have := (h.ra.lt j hj).1; have := h.hB; omega
  intro g e1 e2
  rcases hl with e | e
  · rw [e] at e1; exact h.dj g e1 e2
  · rw [e] at e1
    have := (h.rb.lt g e2).2
    simp at e1; omega

/-- behind 's.Extra = append(s.Extra, x)', up to the store -/
theorem Bx.appY {w w2 : World} {B base : Nat} {f l e k : Int} {va vb v' : Value} {X Y : List Int} {x : Int} {tmp : Obj} (h : Bx w B base f l e k va vb X Y) (_hb : base ≤ w.heap.size)
    (hown : w2.ownsRow base 3 1 v' (Y.length + 1) (Y.map (Value.int .i64) ++ [.int .i64 x])) (hg : (w.alloc tmp).grownBy w2 vb.ownBlock) (hl : v'.ownBlock = vb.ownBlock ∨ v'.ownBlock = some (w.alloc tmp).heap.size) :
    w2.heap[B]? = some (cells6 f l e k va vb) ∧ Bx (w2.setCell ⟨B, 5, none⟩ v') B base f l e k va v' X (Y ++ [x]) ∧ Below B w (w2.setCell ⟨B, 5, none⟩ v') := by
  have hlt : B < w.heap.size := lt_of_heap h.hs
  have hne : ∀ {v : Value} {L : List Int} {u : World}, Row u base v L → some B ≠ v.ownBlock := fun hr e => by have := (hr.lt B e.symm).1; have := h.hB; omega
  have h2 : w2.heap[B]? = some (cells6 f l e k va vb) := by
    rw [hg.block B (by simp; omega) (hne h.rb), Below.heap_alloc _ _ _ hlt]; exact h.hs
  have hset := c6_set5 h2 v'
  have hY : Row w2 base v' (Y ++ [x]) := rowSnoc hown
  have hX : Row w2 base va X := by
    refine (World.ownsRow.alloc h.ra tmp).kept hg ?_
    cases hv : va.ownBlock with
    | none => exact Or.inl rfl
    | some g => exact Or.inr (fun e => h.dj g hv e.symm)
  refine ⟨h2, ⟨hset, hX.kept (grownBy_set w2 B 5 v') (Or.inr (hne hX).symm), hY.kept (grownBy_set w2 B 5 v') (Or.inr (hne hY).symm), ?_, h.hB⟩, ?_⟩
  rotate_left
  · refine (((Below.refl B w).alloc (by omega) tmp).grown hg (by simp; omega) (fun j hj => ?_)).setCell (p := ⟨B, 5, none⟩) (Nat.le_refl _) v'
    have := (h.rb.lt j hj).1; have := h.hB; omega
  intro g e1 e2
  rcases hl with e | e
  · rw [e] at e2; exact h.dj g e1 e2
  · rw [e] at e2
    have := (h.ra.lt g e1).2
    simp at e2; omega

end Go.Proofs.YtibigbfkokendaaGreatDoor
