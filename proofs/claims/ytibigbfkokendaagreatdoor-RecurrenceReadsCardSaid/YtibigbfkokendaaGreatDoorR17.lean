/- Series: Of of the program. -/
import Derived.Test.YtibigbfkokendaaGreatDoorR16
namespace Go.Proofs.YtibigbfkokendaaGreatDoor
open Go.RowKit Go.Maps TT

theorem len_days {L : List Int} (h1 : Inc L) (h0 : L.length ≠ 0) : (L.length : Int) ≤ lstD L - fstD L + 1 := by
  have hs := inc_self h1 (fun x hx => inc_bounds h1 hx)
  have hl := List.length_filter_le (hasI L) (dayR (fstD L) (lstD L))
  rw [hs, dayR, rng_len] at hl
  have := (inc_bounds h1 (mem_fst h0).2).1
  omega
def bK (L : List Int) (m : Nat) : Int := setS L (fstD L) (lstD L) (bstE L m)
def bX (L : List Int) (m : Nat) : List Int := wX L (fstD L) (lstD L) (bstE L m) (bK L m)
def bY (L : List Int) (m : Nat) : List Int := wY2 L (fstD L) (lstD L) (bstE L m) (bK L m)
theorem bst_cost (L : List Int) (m : Nat) : costS L (bstE L m) = (bX L m).length + (bY L m).length := rfl
theorem cost_is (L : List Int) (ev : Int) : costS L ev = (wX L (fstD L) (lstD L) ev (setS L (fstD L) (lstD L) ev)).length + (wY2 L (fstD L) (lstD L) ev (setS L (fstD L) (lstD L) ev)).length := rfl
theorem bst_hit {L : List Int} {m : Nat} {ev : Int} (h : ev = (m : Int) + 2) (hc : costS L ev < costS L (bstE L m)) : bstE L (m + 1) = ev := by
  simp only [bstE]; rw [← h, if_pos hc]
theorem bst_miss {L : List Int} {m : Nat} {ev : Int} (h : ev = (m : Int) + 2) (hc : ¬ costS L ev < costS L (bstE L m)) : bstE L (m + 1) = bstE L m := by
  simp only [bstE]; rw [← h, if_neg hc]
theorem wlen (L : List Int) (f l e k : Int) (h : l ≤ f + 140) : (wX L f l e k).length ≤ 141 ∧ (wY2 L f l e k).length ≤ 141 := by
  have h1 := filter_len (excX L f l e k) f (l - f + 1).toNat
  have h2 := filter_len (excY L f l e k) f (l - f + 1).toNat
  unfold wX wY2 dayR; omega

/-- a series in block B, its lists behind it -/
def SBox (w : World) (B : Nat) (f l e k : Int) (X Y : List Int) : Prop :=
  ∃ a c b q, w.heap[B]? = some (cells6 f l e k (.slice a X.length c) (.slice b Y.length q)) ∧ Row w (B + 1) (.slice a X.length c) X ∧ Row w (B + 1) (.slice b Y.length q) Y
theorem SBox.grown {w w2 : World} {B : Nat} {f l e k : Int} {X Y : List Int} {row : Option Nat} (h : SBox w B f l e k X Y) (hg : w.grownBy w2 row) (h1 : ∀ g, row = some g → g < B) : SBox w2 B f l e k X Y := by
  obtain ⟨a, c, b, q, h2, h3, h4⟩ := h
  have key : ∀ {v : Value} {L : List Int}, Row w (B + 1) v L → Row w2 (B + 1) v L := fun hr => hr.kept hg (by
    rcases hv : Value.ownBlock _ with _ | g
    · exact Or.inl rfl
    · exact Or.inr (fun e => by have := (hr.lt _ hv).1; have := h1 g e.symm; omega))
  exact ⟨a, c, b, q, (hg.block _ (lt_of_heap h2) (fun e => by have := h1 _ e.symm; omega)).trans h2, key h3, key h4⟩
theorem SBox.below {w w2 : World} {B : Nat} {f l e k : Int} {X Y : List Int} (h : SBox w B f l e k X Y) (hb : Below w.heap.size w w2) : SBox w2 B f l e k X Y := h.grown (grown_below hb none) (fun g e => by cases e)
theorem SBox.lt {w : World} {B : Nat} {f l e k : Int} {X Y : List Int} (h : SBox w B f l e k X Y) : B < w.heap.size := by obtain ⟨a, c, b, q, h1, _⟩ := h; exact lt_of_heap h1
/-- a series stored into block B -/
theorem SBox.put {w : World} {B : Nat} {f0 l0 e0 k0 : Int} {va vb : Value} (h : w.heap[B]? = some (cells6 f0 l0 e0 k0 va vb)) {f l e k : Int} {X Y : List Int} {a b : Option Addr} {c q : Nat} (h1 : Row w (B + 1) (.slice a X.length c) X) (h2 : Row w (B + 1) (.slice b Y.length q) Y) :
    SBox (put6 w B f l e k (.slice a X.length c) (.slice b Y.length q)) B f l e k X Y := by
  have hg := grownBy_put6 w B f l e k (.slice a X.length c) (.slice b Y.length q)
  have key : ∀ {v : Value} {L : List Int}, Row w (B + 1) v L → Row (put6 w B f l e k (.slice a X.length c) (.slice b Y.length q)) (B + 1) v L := fun hr => hr.kept hg (by
    rcases hv : Value.ownBlock _ with _ | g
    · exact Or.inl rfl
    · exact Or.inr (fun e => by have := (hr.lt _ hv).1; cases e; omega))
  exact ⟨a, c, b, q, c6_all h _ _ _ _ _ _, key h1, key h2⟩
theorem OW.grown {w wr w2 : World} {a : Option Addr} {n : Nat} {L : List Int} {g : Nat} (h : OW w wr a n L) (hi : ∀ b off, a = some ⟨b, off, none⟩ → b < w.heap.size) (hg : wr.grownBy w2 (some g)) (hb : w.heap.size < g) : OW w w2 a n L := by
  refine ⟨(hg.block _ (lt_of_heap h.hr) (fun e => by cases e; omega)).trans h.hr, ?_, h.bl.grown hg h.bl.size (fun q e => by cases e; omega)⟩
  obtain ⟨h1, h3, h2⟩ := h.il
  refine ⟨h1, h3, ?_⟩
  rcases h2 with h2 | ⟨b, off, ha, hc⟩
  · exact Or.inl h2
  · have hlt := hi b off ha
    exact Or.inr ⟨b, off, ha, fun i hi => by rw [World.cell?_of_block (w := wr) (a := ⟨b, off + i, none⟩) (hg.block b (lt_of_cell (hc i hi)) (fun e => by cases e; omega))]; exact hc i hi⟩
theorem ofP_yes {L : List Int} {w w' : World} {a b : Option Addr} {c q : Nat} (h : ofE L = 0) (h1 : Row w' (w.heap.size + 1) (.slice a (bX L 3).length c) (bX L 3)) (h2 : Row w' (w.heap.size + 1) (.slice b (bY L 3).length q) (bY L 3)) (hb : Below w.heap.size w w') :
    OfP L w (.returned (.tuple #[serV (fstD L) (lstD L) (bstE L 3) (bK L 3) a (bX L 3).length c b (bY L 3).length q, .int .i64 0])) w' := by
  obtain ⟨a1, c1, e1, i1⟩ := h1.ints
  obtain ⟨b1, q1, e2, i2⟩ := h2.ints
  cases e1; cases e2
  have x1 : ofX L = bX L 3 := by unfold ofX; rw [if_pos h]; rfl
  have x2 : ofY L = bY L 3 := by unfold ofY; rw [if_pos h]; rfl
  have x3 : ofF L = fstD L := by unfold ofF; rw [if_pos h]
  have x4 : ofL L = lstD L := by unfold ofL; rw [if_pos h]
  have x5 : ofEv L = bstE L 3 := by unfold ofEv; rw [if_pos h]
  have x6 : ofK L = bK L 3 := by unfold ofK; rw [if_pos h]; rfl
  refine ⟨a, c, b, q, ?_, ?_, ?_, hb⟩
  · rw [x1, x2, x3, x4, x5, x6, h]
  · rw [x1]; exact i1
  · rw [x2]; exact i2

end Go.Proofs.YtibigbfkokendaaGreatDoor
