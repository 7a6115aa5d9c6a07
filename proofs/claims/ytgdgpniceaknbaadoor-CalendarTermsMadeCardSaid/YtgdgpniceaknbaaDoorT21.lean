import Derived.Test.YtgdgpniceaknbaaDoorT17
namespace Go.Proofs.YtgdgpniceaknbaaDoor
open Go.RowKit TT

theorem IntsAt.but {w w' : World} {p : Nat} {a : Option Addr} {n : Nat} {hs : List Int} (h : IntsAt w a n hs) (hb : But p w w') (hq : ∀ b off, a = some ⟨b, off, none⟩ → 0 < n → b ≠ p) : IntsAt w' a n hs := by
  obtain ⟨h1, h3, h2⟩ := h
  refine ⟨h1, h3, ?_⟩
  rcases h2 with h2 | ⟨b, off, ha, hc⟩
  · exact Or.inl h2
  · by_cases h0 : n = 0
    · exact Or.inl h0
    · exact Or.inr ⟨b, off, ha, fun i hi => by rw [hb.cell (World.block_lt_of_cell? _ ⟨b, off + i, none⟩ (hc i hi)) (hq b off ha (by omega))]; exact hc i hi⟩


/-- what the made laws know: the dice at p, the term's box at B -/
structure MadeW (w wr : World) (p B : Nat) (f k : Int) (a : Option Addr) (n c : Nat) (hs : List Int) : Prop where
  h4 : wr.heap[B]? = some (.cells #[.int .i64 f, .int .i64 k, .slice a n c] 37 (0, 0))
  dice : DiceAt wr p
  ints : IntsAt wr a n hs
  ne : ∀ b off, a = some ⟨b, off, none⟩ → 0 < n → b ≠ p ∧ b ≠ B
  lens : Lens wr
  bl : Below w.heap.size w wr
  lo : w.heap.size ≤ p
  pB : p < B
  b0 : 0 < w.heap.size

theorem Lens.but {w w' : World} {p : Nat} (h : Lens w) (hb : But p w w') (hp : 0 < p) : Lens w' := fun i hi => by
  rw [hb.cell (b := 0) (o := i) (World.block_lt_of_cell? _ ⟨0, i, none⟩ (h i hi)) (by omega)]; exact h i hi
theorem Lens.pos {w : World} (h : Lens w) : 0 < w.heap.size := World.block_lt_of_cell? _ ⟨0, 0, none⟩ (h 0 (by decide))

section
variable {w wr w2 : World} {p B : Nat} {f k : Int} {a : Option Addr} {n c : Nat} {hs : List Int}
theorem MadeW.next (h : MadeW w wr p B f k a n c hs) (hd : DiceAt w2 p) (hb : But p wr w2) : MadeW w w2 p B f k a n c hs :=
  ⟨(hb.block B (lt_of_heap h.h4) (by have := h.pB; omega)).trans h.h4, hd, h.ints.but hb (fun b off ha h0 => (h.ne b off ha h0).1), h.ne, h.lens.but hb (by have := h.b0; have := h.lo; omega), But.below h.bl hb h.lo (h.bl.size), h.lo, h.pB, h.b0⟩
theorem MadeW.below (h : MadeW w wr p B f k a n c hs) (hb : Below wr.heap.size wr w2) : MadeW w w2 p B f k a n c hs := h.next (h.dice.below hb) (But.of_below hb)
theorem MadeW.cells (h : MadeW w wr p B f k a n c hs) : (wr.cell? ⟨B, 0, none⟩ = some (.int .i64 f) ∧ wr.cell? ⟨B, 1, none⟩ = some (.int .i64 k) ∧ wr.cell? ⟨B, 2, none⟩ = some (.slice a n c)) ∧ wr.frozen? ⟨B, 0, none⟩ = false ∧ wr.frozen? ⟨B, 1, none⟩ = false ∧ wr.frozen? ⟨B, 2, none⟩ = false := cells3_of h.h4
end

/-- the beginning of the made laws: dice at w.heap.size, a made term in its box -/
theorem MadeW.start {w w1 : World} {f k : Int} {hs : List Int} {a1 : Option Addr} {c1 : Nat} {O : Obj} (hl : Lens w) (hb1 : But w.heap.size (w.alloc O) w1) (hi1 : IntsAt w1 a1 hs.length hs) (hd1 : DiceAt w1 w.heap.size)
    (hne : ∀ b off, a1 = some ⟨b, off, none⟩ → 0 < hs.length → b ≠ w.heap.size) :
    MadeW w (w1.alloc (.cells #[.int .i64 f, .int .i64 k, .slice a1 hs.length c1] 37)) w.heap.size w1.heap.size f k a1 hs.length c1 hs := by
  have hz1 : w.heap.size + 1 ≤ w1.heap.size := by have := hb1.size; simpa using this
  have hBl : Below w.heap.size w w1 := But.below ((Below.refl _ _).alloc (Nat.le_refl _) _) hb1 (Nat.le_refl _) (by simp)
  have hBa : Below w1.heap.size w1 (w1.alloc (.cells #[.int .i64 f, .int .i64 k, .slice a1 hs.length c1] 37)) := (Below.refl _ _).alloc (Nat.le_refl _) _
  refine ⟨heap_alloc_new _ _, hd1.below hBa, hi1.below hBa, fun b off ha h0 => ⟨hne b off ha h0, ?_⟩, (hl.below hBl).below hBa, below3 hBl hBa, Nat.le_refl _, by omega, hl.pos⟩
  rcases hi1.2.2 with h | ⟨b', off', ha', hc⟩
  · omega
  · rw [ha] at ha'; cases ha'
    have := World.block_lt_of_cell? _ ⟨b, off + 0, none⟩ (hc 0 h0)
    show b ≠ w1.heap.size
    simp at this; omega
end Go.Proofs.YtgdgpniceaknbaaDoor
