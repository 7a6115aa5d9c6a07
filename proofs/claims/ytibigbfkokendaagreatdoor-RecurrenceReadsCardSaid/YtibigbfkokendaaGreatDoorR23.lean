/- Series: a list of days, made by dice. -/
import Derived.Test.YtibigbfkokendaaGreatDoorR6
import Derived.Test.YtibigbfkokendaaGreatDoorDice
namespace Go.Proofs.YtibigbfkokendaaGreatDoor
open Go.RowKit TT

theorem app1_c1 (w : World) (x : Int) (t : TypeId) : ∀ (j : Nat) (u : Value), [Value.int .i64 x][j]? = some u → (w.alloc (.cells #[.int .i64 x] t)).cell? (Addr.add ⟨w.heap.size, 0, none⟩ j) = some u := by
  intro j u hj
  match j, hj with
  | 0, hj => simp at hj; subst hj; simp [Addr.add]
theorem app1_c2 (x : Int) : ∀ u ∈ [Value.int .i64 x], u.oneCell' = true := by
  intro u hu; simp at hu; subst hu; rfl
theorem But.grown {p : Nat} {w w1 w2 : World} (h : But p w w1) {row : Option Nat} (hg : w1.grownBy w2 row) (hr : ∀ g, row = some g → w.heap.size ≤ g) : But p w w2 :=
  ⟨hg.os.trans h.os, hg.tape.trans h.tape, hg.output.trans h.output, Nat.le_trans h.size hg.size, fun k hk hp => (hg.block k (Nat.lt_of_lt_of_le hk h.size) (fun e => by have := hr k e.symm; omega)).trans (h.block k hk hp)⟩

/-- the list in the making -/
structure MD (w wr : World) (p : Nat) (v : Value) (L : List Int) : Prop where
  dc : DiceAt wr p
  bt : But p w wr
  rw : Row wr w.heap.size v L
  hp : p < w.heap.size
theorem MD.next {w wr w2 : World} {p : Nat} {v : Value} {L : List Int} (h : MD w wr p v L) (hd : DiceAt w2 p) (hb : But p wr w2) : MD w w2 p v L :=
  ⟨hd, h.bt.trans hb, row_but h.rw hb h.hp, h.hp⟩
theorem MD.below {w wr w2 : World} {p : Nat} {v : Value} {L : List Int} (h : MD w wr p v L) (hb : Below wr.heap.size wr w2) : MD w w2 p v L :=
  h.next (h.dc.below hb) (But.of_below hb)
theorem MD.app {w wr w2 : World} {p : Nat} {v v' : Value} {L : List Int} {x : Int} (h : MD w wr p v L) {row : Option Nat} (hg : wr.grownBy w2 row) (hr : ∀ g, row = some g → w.heap.size ≤ g) (hn : w2.ownsRow w.heap.size 3 1 v' (L.length + 1) (L.map (Value.int .i64) ++ [.int .i64 x])) : MD w w2 p v' (L ++ [x]) :=
  ⟨h.dc.same (fun k hk => hg.block k (Nat.lt_of_lt_of_le (by have := h.hp; omega) h.bt.size) (fun e => by have := hr k e.symm; have := h.hp; omega)), h.bt.grown hg hr, rowSnoc hn, h.hp⟩

/-- a list of days within so many days, one after the other -/
structure DL (f : Int) (n : Nat) (L : List Int) : Prop where
  inc : Inc L
  bd : ∀ x ∈ L, f ≤ x ∧ x < f + n
  len : L.length ≤ n
theorem DL.nil (f : Int) : DL f 0 [] := ⟨Inc.nil, by simp, by simp⟩
theorem DL.more {f : Int} {n : Nat} {L : List Int} (h : DL f n L) : DL f (n + 1) L := ⟨h.inc, fun x hx => by have := h.bd x hx; omega, by have := h.len; omega⟩
theorem DL.snoc {f : Int} {n : Nat} {L : List Int} (h : DL f n L) {x : Int} (hx : x = f + n) : DL f (n + 1) (L ++ [x]) := by
  subst hx
  refine ⟨inc_snoc h.inc (fun x hx => (h.bd x hx).2), fun y hy => ?_, by have := h.len; simp; omega⟩
  rw [List.mem_append] at hy
  rcases hy with hy | hy
  · have := h.bd y hy; omega
  · simp at hy; omega

/-- what the dice give: a list of days -/
def MadeD (p : Nat) (w : World) (en : Ending) (w' : World) : Prop := ∃ v f L, en = .returned v ∧ Row w' w.heap.size v L ∧ DL f 141 L ∧ 2 ≤ f ∧ f ≤ 30001 ∧ But p w w' ∧ DiceAt w' p

end Go.Proofs.YtibigbfkokendaaGreatDoor
