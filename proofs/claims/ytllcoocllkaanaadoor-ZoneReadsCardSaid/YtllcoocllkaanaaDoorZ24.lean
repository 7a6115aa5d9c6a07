import Derived.Test.YtllcoocllkaanaaDoorZ19
import Derived.Test.YtllcoocllkaanaaDoorZ17
import Derived.Test.YtllcoocllkaanaaDoorZ11
import Derived.Test.YtllcoocllkaanaaDoorZ8
namespace Go.Proofs.YtllcoocllkaanaaDoor
open Go.RowKit

/-- a zone in three cells -/
structure ZC (w : World) (p g o : Nat) (s : ByteArray) (off : Int) (a : Option Addr) (n c : Nat) (xs : Prs) : Prop where
  c0 : w.cell? ⟨g, o, none⟩ = some (.string s)
  c1 : w.cell? ⟨g, o + 1, none⟩ = some (.int .i64 off)
  c2 : w.cell? ⟨g, o + 2, none⟩ = some (.slice a n c)
  len : xs.length = n
  le : n ≤ 100
  sz : s.size ≤ 9223372036854775807
  ne : g ≠ p
  cel : xs = [] ∨ ∃ b of, a = some ⟨b, of, none⟩ ∧ b ≠ p ∧ PCells w b of xs
theorem PCells.but {p b of : Nat} {w w' : World} {xs : Prs} (h : PCells w b of xs) (hb : But p w w') (hne : b ≠ p) : PCells w' b of xs := fun j hj => by
  obtain ⟨c1, c2⟩ := h j hj
  exact ⟨by rw [hb.cell (lt_of_cell c1) hne]; exact c1, by rw [hb.cell (lt_of_cell c2) hne]; exact c2⟩
theorem ZC.but {w w' : World} {p g o : Nat} {s : ByteArray} {off : Int} {a : Option Addr} {n c : Nat} {xs : Prs} (h : ZC w p g o s off a n c xs) (hb : But p w w') : ZC w' p g o s off a n c xs := by
  have hl := lt_of_cell h.c0
  refine ⟨(hb.cell hl h.ne).trans h.c0, (hb.cell hl h.ne).trans h.c1, (hb.cell hl h.ne).trans h.c2, h.len, h.le, h.sz, h.ne, ?_⟩
  rcases h.cel with h0 | ⟨b, of, e, hne, hP⟩
  · exact Or.inl h0
  · exact Or.inr ⟨b, of, e, hne, hP.but hb hne⟩
theorem ZC.val {w : World} {p g o : Nat} {s : ByteArray} {off : Int} {a : Option Addr} {n c : Nat} {xs : Prs} (h : ZC w p g o s off a n c xs) : ZVal w (.agg #[.string s, .int .i64 off, .slice a n c]) s off xs := by
  obtain rfl := h.len
  refine ⟨_, rfl, h.sz, a, c, rfl, by have := h.le; omega, ?_⟩
  rcases h.cel with h0 | ⟨b, of, e, _, hP⟩
  · exact Or.inl h0
  · exact Or.inr ⟨b, of, e, hP⟩
/-- the same zone in a new box -/
theorem ZC.box {w w' : World} {p g o g' o' : Nat} {s : ByteArray} {off : Int} {a : Option Addr} {n c : Nat} {xs : Prs} (h : ZC w p g o s off a n c xs) (hb : But p w w') (hne : g' ≠ p) (c0 : w'.cell? ⟨g', o', none⟩ = some (.string s)) (c1 : w'.cell? ⟨g', o' + 1, none⟩ = some (.int .i64 off)) (c2 : w'.cell? ⟨g', o' + 2, none⟩ = some (.slice a n c)) : ZC w' p g' o' s off a n c xs :=
  ⟨c0, c1, c2, h.len, h.le, h.sz, hne, (h.but hb).cel⟩
theorem ZC.of_some {w : World} {p g o : Nat} {s : ByteArray} {off : Int} {a : Option Addr} {c : Nat} {xs : Prs} (h2 : s.size ≤ 6) (h3 : xs.length ≤ 100) (h4 : xs = [] ∨ ∃ b of, a = some ⟨b, of, none⟩ ∧ p < b ∧ PCells w b of xs) (hne : g ≠ p)
    (c0 : w.cell? ⟨g, o, none⟩ = some (.string s)) (c1 : w.cell? ⟨g, o + 1, none⟩ = some (.int .i64 off)) (c2 : w.cell? ⟨g, o + 2, none⟩ = some (.slice a xs.length c)) : ZC w p g o s off a xs.length c xs := by
  refine ⟨c0, c1, c2, rfl, h3, by omega, hne, ?_⟩
  rcases h4 with h0 | ⟨b, of, e, hb, hP⟩
  · exact Or.inl h0
  · exact Or.inr ⟨b, of, e, by omega, hP⟩
theorem But.undrw {p : Nat} {w w' : World} (h : But p w.drew w') : But p w w' := (But.refl p w).drew.trans h
/-- three numbers in a row -/
def NMid3 (p : Nat) (W : World) (q x : Int) (s52 s53 s54 : Value) (wx : World) : Prop :=
  ∃ (g : Nat) (y : Int), s52 = .slice (some ⟨g, 0, none⟩) 3 3 ∧ s53 = .int .i64 3 ∧ s54 = .int .i64 0 ∧ DiceAt wx p ∧ But p W wx ∧ g ≠ p ∧ wx.cell? ⟨g, 0, none⟩ = some (.int .i64 q) ∧ wx.cell? ⟨g, 1, none⟩ = some (.int .i64 x) ∧ wx.cell? ⟨g, 2, none⟩ = some (.int .i64 y)
theorem ZC.below {w w' : World} {p g o : Nat} {s : ByteArray} {off : Int} {a : Option Addr} {n c : Nat} {xs : Prs} (h : ZC w p g o s off a n c xs) (hb : Below w.heap.size w w') : ZC w' p g o s off a n c xs := h.but (But.of_below hb)
/-- two zones in a row -/
def OMid (p : Nat) (W : World) (s35 s36 s37 : Value) (wx : World) : Prop :=
  ∃ g : Nat, s35 = .slice (some ⟨g, 0, none⟩) 2 2 ∧ s36 = .int .i64 2 ∧ s37 = .int .i64 0 ∧ DiceAt wx p ∧ But p W wx ∧ ∀ k, k < 2 → ∃ s off a n c xs, ZC wx p g (k * 3) s off a n c xs

end Go.Proofs.YtllcoocllkaanaaDoor
