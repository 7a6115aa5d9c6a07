import Derived.Test.YtllcoocllkaanaaDoorZ13
import Derived.Deep.AppendLies
import Derived.Deep.RegionLaw
namespace Go.Proofs.YtllcoocllkaanaaDoor
open Go.RowKit

/-- a zone of some kind, and the dice go on -/
def SomeZ (p : Nat) (w : World) (e : Ending) (w' : World) : Prop :=
  ∃ (s : ByteArray) (off : Int) (a : Option Addr) (cap : Nat) (xs : Prs), e = .returned (.agg #[.string s, .int .i64 off, .slice a xs.length cap]) ∧ s.size ≤ 6 ∧ xs.length ≤ 100 ∧
    (xs = [] ∨ ∃ b of, a = some ⟨b, of, none⟩ ∧ p < b ∧ PCells w' b of xs) ∧ DiceAt w' p ∧ But p w w'

/-- an odd zone while it is made: its box, and the result's -/
structure ZO (w wr : World) (p : Nat) (s : ByteArray) (off : Int) (v : Value) : Prop where
  h3 : wr.heap[w.heap.size]? = some (.cells #[.string s, .int .i64 off, v] 24 (0, 0))
  h2 : wr.heap[w.heap.size + 1]? = some (.cells #[.string ⟨#[]⟩, .int .i64 0, .slice none 0 0] 24 (0, 0))
  dice : DiceAt wr p
  but : But p w wr
theorem ZO.set {w wr : World} {p : Nat} {s s' : ByteArray} {off off' : Int} {v v' : Value} (h : ZO w wr p s off v) (hp : p < w.heap.size) (o : Nat) (x : Value) (he : (#[.string s, .int .i64 off, v] : Array Value).setIfInBounds o x = #[.string s', .int .i64 off', v']) :
    ZO w (wr.setCell ⟨w.heap.size, o, none⟩ x) p s' off' v' := by
  refine ⟨?_, ?_, h.dice.same (fun q hq => heap_setCell_other _ _ _ _ (by show q ≠ w.heap.size; omega)), ?_⟩
  · rw [heap_setCell_same _ _ _ _ _ _ h.h3, he]
  · rw [heap_setCell_other _ _ _ _ (by show w.heap.size + 1 ≠ w.heap.size; omega)]; exact h.h2
  · refine ⟨h.but.os, h.but.tape, h.but.output, by simpa using h.but.size, fun q hq hqp => ?_⟩
    rw [heap_setCell_other _ _ _ _ (by show q ≠ w.heap.size; omega)]; exact h.but.block q hq hqp
theorem ZO.next {w wr w2 : World} {p : Nat} {s : ByteArray} {off : Int} {v : Value} (h : ZO w wr p s off v) (hp : p < w.heap.size) (hd : DiceAt w2 p) (hb : But p wr w2) : ZO w w2 p s off v :=
  ⟨(hb.block _ (lt_of_heap h.h3) (by omega)).trans h.h3, (hb.block _ (lt_of_heap h.h2) (by omega)).trans h.h2, hd, h.but.trans hb⟩
theorem ZO.alloc {w wr : World} {p : Nat} {s : ByteArray} {off : Int} {v : Value} (h : ZO w wr p s off v) (hp : p < w.heap.size) (o : Obj) : ZO w (wr.alloc o) p s off v :=
  h.next hp (h.dice.alloc o) ((But.refl p wr).alloc o)
theorem ZO.drew {w wr : World} {p : Nat} {s : ByteArray} {off : Int} {v : Value} (h : ZO w wr p s off v) (hp : p < w.heap.size) : ZO w wr.drew p s off v :=
  h.next hp h.dice.drew (But.refl p wr).drew
theorem ZO.grown {w wr w2 : World} {p : Nat} {s : ByteArray} {off : Int} {v : Value} {row : Option Nat} (h : ZO w wr p s off v) (hp : p < w.heap.size) (hg : wr.grownBy w2 row) (hrow : ∀ q, row = some q → w.heap.size + 2 ≤ q) : ZO w w2 p s off v := by
  have hblk : ∀ q, q < wr.heap.size → q < w.heap.size + 2 → w2.heap[q]? = wr.heap[q]? := fun q h1 h2 => hg.block q h1 (fun e => by have := hrow q e.symm; omega)
  have z := lt_of_heap h.h2
  refine ⟨(hblk _ (by omega) (by omega)).trans h.h3, (hblk _ (by omega) (by omega)).trans h.h2, h.dice.same (fun q hq => hblk q (by omega) (by omega)), ?_⟩
  exact ⟨hg.os.trans h.but.os, hg.tape.trans h.but.tape, hg.output.trans h.but.output, Nat.le_trans h.but.size hg.size, fun q hq hqp => (hblk q (by omega) (by omega)).trans (h.but.block q hq hqp)⟩
/-- a cell of the row is set -/
theorem ZO.setRow {w wr : World} {p g o : Nat} {s : ByteArray} {off : Int} {v : Value} (h : ZO w wr p s off v) (hp : p < w.heap.size) (hg : w.heap.size + 2 ≤ g) (x : Value) : ZO w (wr.setCell ⟨g, o, none⟩ x) p s off v := by
  have hblk : ∀ q, q < w.heap.size + 2 → (wr.setCell ⟨g, o, none⟩ x).heap[q]? = wr.heap[q]? := fun q hq => heap_setCell_other _ _ _ _ (by show q ≠ g; omega)
  refine ⟨(hblk _ (by omega)).trans h.h3, (hblk _ (by omega)).trans h.h2, h.dice.same (fun q hq => hblk q (by omega)), ?_⟩
  exact ⟨h.but.os, h.but.tape, h.but.output, by simpa using h.but.size, fun q hq hqp => (hblk q (by omega)).trans (h.but.block q hq hqp)⟩
theorem row_set {w : World} {B g n cap size j : Nat} {e : TypeId} {xs : List Value} (h : w.ownsRow B e size (.slice (some ⟨g, 0, none⟩) n cap) n xs) (u : Value) : (w.setCell ⟨g, j, none⟩ u).ownsRow B e size (.slice (some ⟨g, 0, none⟩) n cap) n (xs.set j u) := by
  obtain ⟨h1, h2⟩ := h
  refine ⟨by rw [List.length_set]; exact h1, ?_⟩
  rcases h2 with ⟨h2, _⟩ | ⟨g', cap', cur, hv, hg, hh, r1, r2, r3, r4⟩
  · cases h2
  · cases hv
    refine Or.inr ⟨g, cap, cur.setIfInBounds j u, rfl, hg, heap_setCell_same _ _ _ _ _ _ hh, r1, r2, by simpa using r3, ?_⟩
    rw [Array.toList_setIfInBounds, List.take_set, r4]
theorem pcells_set : ∀ (xs : Prs) (r : Nat) (x : Int), r < xs.length → (pcells xs).set (r * 2) (.int .i64 x) = pcells (xs.set r (x, (xs.getD r (0, 0)).2)) ∧ (pcells xs).set (r * 2 + 1) (.int .i64 x) = pcells (xs.set r ((xs.getD r (0, 0)).1, x))
  | [], r, x, h => by simp at h
  | d :: xs, 0, x, _ => by simp [pcells, List.getD]
  | d :: xs, r + 1, x, h => by
    have ih := pcells_set xs r x (by simpa using h)
    have e : pcells (d :: xs) = .int .i64 d.1 :: .int .i64 d.2 :: pcells xs := rfl
    have e2 : (r + 1) * 2 = r * 2 + 1 + 1 := by omega
    rw [e, e2]
    have e3 : (d :: xs).getD (r + 1) (0, 0) = xs.getD r (0, 0) := by simp [List.getD]
    rw [e3]
    simp only [List.set_cons_succ]
    exact ⟨by rw [ih.1]; rfl, by rw [ih.2]; rfl⟩
theorem zo_fin {w wX : World} {p n cap : Nat} {s : ByteArray} {off : Int} {a : Option Addr} {xs : Prs} (hp : p < w.heap.size) (hs : s.size ≤ 6) (hlen : xs.length ≤ 100) (hn : xs.length = n)
    (hW : ZO w wX p s off (.slice a n cap)) (hown : wX.ownsRow (w.heap.size + 2) 43 2 (.slice a n cap) n (pcells xs)) :
    SomeZ p w (.returned (.agg #[.string s, .int .i64 off, .slice a n cap]))
      (((wX.setCell ⟨w.heap.size + 1, 0, none⟩ (.string s)).setCell ⟨w.heap.size + 1, 1, none⟩ (.int .i64 off)).setCell ⟨w.heap.size + 1, 2, none⟩ (.slice a n cap)) := by
  subst hn
  have hblk : ∀ q, q ≠ w.heap.size + 1 → (((wX.setCell ⟨w.heap.size + 1, 0, none⟩ (.string s)).setCell ⟨w.heap.size + 1, 1, none⟩ (.int .i64 off)).setCell ⟨w.heap.size + 1, 2, none⟩ (.slice a xs.length cap)).heap[q]? = wX.heap[q]? := fun q hq => by
    rw [heap_setCell_other _ _ _ _ hq, heap_setCell_other _ _ _ _ hq, heap_setCell_other _ _ _ _ hq]
  refine ⟨s, off, a, cap, xs, rfl, hs, hlen, ?_, hW.dice.same (fun q hq => hblk q (by omega)), ?_⟩
  · obtain ⟨a', cap', e, _, hc⟩ := Pairs.of_owns hown
    cases e
    rcases hc with h0 | ⟨b, of, rfl, hP⟩
    · exact Or.inl h0
    · by_cases h0 : xs = []
      · exact Or.inl h0
      · have hpos : 0 < xs.length := List.length_pos_iff.2 h0
        have hb : w.heap.size + 2 ≤ b := by
          rcases hown.2 with ⟨e, _⟩ | ⟨g, c, cur, e, hg, _⟩
          · cases e
          · cases e; exact hg
        refine Or.inr ⟨b, of, rfl, by omega, fun j hj => ?_⟩
        obtain ⟨c1, c2⟩ := hP j hj
        exact ⟨by rw [World.cell?_of_block (w := wX) (a := ⟨b, of + j * 2, none⟩) (hblk b (by omega))]; exact c1, by rw [World.cell?_of_block (w := wX) (a := ⟨b, of + j * 2 + 1, none⟩) (hblk b (by omega))]; exact c2⟩
  · refine ⟨hW.but.os, hW.but.tape, hW.but.output, by simpa using hW.but.size, fun q hq hqp => ?_⟩
    rw [hblk q (by omega)]; exact hW.but.block q hq hqp
theorem zo_start {w : World} {p : Nat} (s : ByteArray) (off : Int) (v : Value) (hD : DiceAt w p) : ZO w ((w.alloc (.cells #[.string s, .int .i64 off, v] 24)).alloc (.cells #[.string ⟨#[]⟩, .int .i64 0, .slice none 0 0] 24)) p s off v := by
  have hB : Below w.heap.size w ((w.alloc (.cells #[.string s, .int .i64 off, v] 24)).alloc (.cells #[.string ⟨#[]⟩, .int .i64 0, .slice none 0 0] 24)) := ((Below.refl _ _).alloc (Nat.le_refl _) _).alloc (by simp) _
  refine ⟨?_, ?_, hD.below hB, But.of_below hB⟩
  · rw [Below.heap_alloc _ _ _ (by simp)]; show (w.heap.push _)[w.heap.size]? = _; simp
  · have := heap_alloc_new (w.alloc (.cells #[.string s, .int .i64 off, v] 24)) (.cells #[.string ⟨#[]⟩, .int .i64 0, .slice none 0 0] 24)
    simpa using this
theorem row_of_block {w : World} {B g : Nat} {x y : Int} (h : w.heap[g]? = some (.cells #[.int .i64 x, .int .i64 y] 43 (0, 0))) (hg : B ≤ g) : w.ownsRow B 43 2 (.slice (some ⟨g, 0, none⟩) 1 1) 1 (pcells [(x, y)]) :=
  ⟨rfl, Or.inr ⟨g, 1, _, rfl, hg, h, Nat.le_refl _, by unfold maxLen; omega, rfl, rfl⟩⟩
end Go.Proofs.YtllcoocllkaanaaDoor
