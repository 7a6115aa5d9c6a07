/- Series: the days of a series, of the reference. -/
import Derived.Test.YtibigbfkokendaaGreatDoorR5
namespace Go.Proofs.YtibigbfkokendaaGreatDoor
open Go.RowKit TT

theorem Tryz.infoInt : (Tryz.prog.info? 3).map (fun i => (i.zero, i.size, i.bytes)) = some (some (.int .i64 0), 1, 8) := by kernel_rfl
theorem rowSnoc {w2 : World} {B : Nat} {v' : Value} {L : List Int} {x : Int}
    (hown' : w2.ownsRow B 3 1 v' (L.length + 1) (L.map (Value.int .i64) ++ [.int .i64 x])) : w2.ownsRow B 3 1 v' (L ++ [x]).length ((L ++ [x]).map (Value.int .i64)) := by
  simpa using hown'
/-- a slice of integers that the call made from block B on -/
abbrev Row (w : World) (B : Nat) (v : Value) (L : List Int) : Prop := w.ownsRow B 3 1 v L.length (L.map (Value.int .i64))
theorem Row.ints {w : World} {B : Nat} {v : Value} {L : List Int} (h : Row w B v L) : Ints w v L := by
  obtain ⟨a, cap, h1, h2⟩ := IntsAt.of_owns h
  exact ⟨a, cap, h1, h2⟩
theorem SC.grow {w0 w w2 : World} {B : Nat} {f l e k : Int} {a : Option Addr} {n c : Nat} {b : Option Addr} {m q : Nat} {xs ys : List Int} (h : SC w0 w B f l e k a n c b m q xs ys) (hB : B = w0.heap.size) (hx : IntsAt w0 a n xs) (hy : IntsAt w0 b m ys) (hb : Below (B + 1) w w2) : SC w0 w2 B f l e k a n c b m q xs ys := by
  have ce : ∀ o, w2.cell? ⟨B, o, none⟩ = w.cell? ⟨B, o, none⟩ := fun o => hb.cell (p := ⟨B, o, none⟩) (by simp)
  have bl : Below w0.heap.size w0 w2 := h.bl.trans (hb.mono (by omega))
  exact ⟨(ce 0).trans h.c0, (ce 1).trans h.c1, (ce 2).trans h.c2, (ce 3).trans h.c3, (ce 4).trans h.c4, (ce 5).trans h.c5, hx.below bl, hy.below bl, Nat.lt_of_lt_of_le h.sz hb.size, bl⟩

theorem row_base {w : World} {B B2 : Nat} {e : TypeId} {size : Nat} {v : Value} {n : Nat} {xs : List Value} (h : w.ownsRow B e size v n xs) (hB : B2 ≤ B) : w.ownsRow B2 e size v n xs := by
  obtain ⟨h1, h2⟩ := h
  refine ⟨h1, ?_⟩
  rcases h2 with h2 | ⟨g, cap, cur, hv, hg, r⟩
  · exact Or.inl h2
  · exact Or.inr ⟨g, cap, cur, hv, Nat.le_trans hB hg, r⟩

theorem int_eq {a b : Int} (h : a = b) : Value.int .i64 a = Value.int .i64 b := by rw [h]

/-- what Days hands back: a slice of its own with the days -/
def DaysP (L : List Int) (w : World) (e : Ending) (w' : World) : Prop := ∃ v, e = .returned v ∧ Row w' w.heap.size v L ∧ Below w.heap.size w w'


end Go.Proofs.YtibigbfkokendaaGreatDoor
