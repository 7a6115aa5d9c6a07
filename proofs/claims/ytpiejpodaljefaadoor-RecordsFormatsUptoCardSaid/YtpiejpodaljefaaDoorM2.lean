import Derived.Test.YtpiejpodaljefaaDoorM1
namespace Go.Proofs.YtpiejpodaljefaaDoor
open Go.RowKit

theorem next_go {Q : Ending → World → Prop} (p : Nat) (m : Int) (w : World) (hm : 1 ≤ m) (hm2 : m ≤ 1000000000000) (hD : DiceAt w p)
    (hk : ∀ r w', 0 ≤ r → r < m → DiceAt w' p → But p w w' → w'.heap.size ≠ p → w'.heap.size + 1 ≠ p → w'.heap.size + 1 + 1 ≠ p →
      (∀ b o, b < w.heap.size → b ≠ p → w'.cell? ⟨b, o, none⟩ = w.cell? ⟨b, o, none⟩) → (∀ b o, b < w.heap.size → b ≠ p → w'.frozen? ⟨b, o, none⟩ = w.frozen? ⟨b, o, none⟩) → (∀ k, k < w.heap.size → k < w'.heap.size) → Q (.returned (.int .i64 r)) w') :
    Calls Tryd.prog 31 #[.pointer (some ⟨p, 0, none⟩), .int .i64 m] w Q :=
  (next_any p m w hm hm2 hD).mono (fun e w' h => by
    obtain ⟨r, r0, r1, rfl, hd, hb⟩ := h
    have := hd.lt
    exact hk r w' r0 r1 hd hb (by omega) (by omega) (by omega) (fun b o => hb.cell) (fun b o => hb.frozen) (fun k h => Nat.lt_of_lt_of_le h hb.size))

def tab4 (r : Int) : Int := if r = 0 then 44 else if r = 1 then 59 else if r = 2 then 124 else 9
def tab2 (r : Int) : Int := if r = 0 then 34 else 39
theorem tab4_el (r : Int) (r0 : 0 ≤ r) (r1 : r < 4) (h : r.toNat < ([.int .u8 44, .int .u8 59, .int .u8 124, .int .u8 9] : List Value).length) : ([.int .u8 44, .int .u8 59, .int .u8 124, .int .u8 9] : List Value)[r.toNat]'h = .int .u8 (tab4 r) := by
  rcases (show r = 0 ∨ r = 1 ∨ r = 2 ∨ r = 3 from by omega) with rfl | rfl | rfl | rfl <;> rfl
theorem tab2_el (r : Int) (r0 : 0 ≤ r) (r1 : r < 2) (h : r.toNat < ([.int .u8 34, .int .u8 39] : List Value).length) : ([.int .u8 34, .int .u8 39] : List Value)[r.toNat]'h = .int .u8 (tab2 r) := by
  rcases (show r = 0 ∨ r = 1 from by omega) with rfl | rfl <;> rfl
theorem But.undrew {p : Nat} {w w' : World} (h : But p w.drew w') : But p w w' := (show But p w w.drew from ⟨rfl, rfl, rfl, Nat.le_refl _, fun _ _ _ => rfl⟩).trans h
theorem DiceAt.alloc {p : Nat} {w : World} (h : DiceAt w p) (o : Obj) : DiceAt (w.alloc o) p := h.below ((Below.refl _ _).alloc (Nat.le_refl _) _)
theorem DiceAt.drew {p : Nat} {w : World} (h : DiceAt w p) : DiceAt w.drew p := h.below ⟨rfl, rfl, rfl, Nat.le_refl _, fun _ _ => rfl⟩

/-- The box of a dialect that is being made. -/
def Box (g : Nat) (w : World) : Prop := w.heap[g]? = some (.cells #[.int .u8 0, .int .u8 0] 23 (0, 0))
theorem Box.below {g : Nat} {w W : World} (h : Box g w) (hb : Below w.heap.size w W) : Box g W := (hb.block g (lt_of_heap h)).trans h
theorem Box.alloc {g : Nat} {w : World} (h : Box g w) (o : Obj) : Box g (w.alloc o) := h.below ((Below.refl _ _).alloc (Nat.le_refl _) _)
theorem Box.drew {g : Nat} {w : World} (h : Box g w) : Box g w.drew := h
theorem Box.but {p g : Nat} {w W : World} (h : Box g w) (hb : But p w W) (hg : g ≠ p) : Box g W := (hb.block g (lt_of_heap h) hg).trans h

theorem Box.facts {g : Nat} {w : World} (h : Box g w) : w.cell? ⟨g, 0, none⟩ = some (.int .u8 0) ∧ w.cell? ⟨g, 1, none⟩ = some (.int .u8 0) ∧ w.frozen? ⟨g, 0, none⟩ = false ∧ w.frozen? ⟨g, 1, none⟩ = false := by
  unfold Box at h
  refine ⟨?_, ?_, ?_, ?_⟩ <;> simp [World.cell?, World.frozen?, h]

/-- What dialect hands back. -/
def DialOut (p : Nat) (w : World) (e : Ending) (w' : World) : Prop := ∃ x y : UInt8, e = .returned (.agg #[.int .u8 x.toNat, .int .u8 y.toNat]) ∧ (x = 44 ∨ x = 59 ∨ x = 124 ∨ x = 9) ∧ (y = 34 ∨ y = 39) ∧ DiceAt w' p ∧ But p w w'

theorem But.alloc1 {p : Nat} {w W : World} (h : But p w W) (o : Obj) : But p w (W.alloc o) := h.trans (But.of_below ((Below.refl _ _).alloc (Nat.le_refl _) _))
theorem But.drew1 {p : Nat} {w W : World} (h : But p w W) : But p w W.drew := ⟨h.os, h.tape, h.output, h.size, h.block⟩
theorem But.setNew {p g o : Nat} {v : Value} {w W : World} (h : But p w W) (hg : w.heap.size ≤ g) : But p w (W.setCell ⟨g, o, none⟩ v) :=
  ⟨h.os, h.tape, h.output, by simpa using h.size, fun k hk hp => (heap_setCell_other _ _ _ _ (show k ≠ g by omega)).trans (h.block k hk hp)⟩
theorem DiceAt.setNew {p g o : Nat} {v : Value} {W : World} (h : DiceAt W p) (hg : p < g) : DiceAt (W.setCell ⟨g, o, none⟩ v) p := h.same fun k hk => heap_setCell_other _ _ _ _ (show k ≠ g by omega)
def T4 (r : Int) : Prop := 0 ≤ r ∧ r < 4
def T2 (r : Int) : Prop := 0 ≤ r ∧ r < 2
theorem dial_mk {p : Nat} {w W : World} {r r' : Int} (h : T4 r) (h' : T2 r') (hd : DiceAt W p) (hb : But p w W) : DialOut p w (.returned (.agg #[.int .u8 (tab4 r), .int .u8 (tab2 r')])) W := by
  obtain ⟨a, b⟩ := h
  obtain ⟨c, d⟩ := h'
  rcases (show r = 0 ∨ r = 1 ∨ r = 2 ∨ r = 3 from by omega) with rfl | rfl | rfl | rfl <;> rcases (show r' = 0 ∨ r' = 1 from by omega) with rfl | rfl
  · exact ⟨44, 34, rfl, by simp, by simp, hd, hb⟩
  · exact ⟨44, 39, rfl, by simp, by simp, hd, hb⟩
  · exact ⟨59, 34, rfl, by simp, by simp, hd, hb⟩
  · exact ⟨59, 39, rfl, by simp, by simp, hd, hb⟩
  · exact ⟨124, 34, rfl, by simp, by simp, hd, hb⟩
  · exact ⟨124, 39, rfl, by simp, by simp, hd, hb⟩
  · exact ⟨9, 34, rfl, by simp, by simp, hd, hb⟩
  · exact ⟨9, 39, rfl, by simp, by simp, hd, hb⟩

end Go.Proofs.YtpiejpodaljefaaDoor
