/- Series: what the laws over a series and dice share. -/
import Derived.Test.YtibigbfkokendaaGreatDoorR29
import Derived.Test.YtibigbfkokendaaGreatDoorR22
import Derived.Test.YtibigbfkokendaaGreatDoorR10
namespace Go.Proofs.YtibigbfkokendaaGreatDoor
open Go.RowKit TT

/-- a series in six cells of a block -/
structure SX (w : World) (B o : Nat) (f l e k : Int) (a : Option Addr) (n c : Nat) (b : Option Addr) (m q : Nat) (xs ys : List Int) : Prop where
  c0 : w.cell? ⟨B, o, none⟩ = some (.int .i64 f)
  c1 : w.cell? ⟨B, o + 1, none⟩ = some (.int .i64 l)
  c2 : w.cell? ⟨B, o + 2, none⟩ = some (.int .i64 e)
  c3 : w.cell? ⟨B, o + 3, none⟩ = some (.int .i64 k)
  c4 : w.cell? ⟨B, o + 4, none⟩ = some (.slice a n c)
  c5 : w.cell? ⟨B, o + 5, none⟩ = some (.slice b m q)
  xa : IntsAt w a n xs
  ya : IntsAt w b m ys
  sz : B < w.heap.size
  hs : n + m ≤ 2000
theorem SX.below {w w2 : World} {B o : Nat} {f l e k : Int} {a : Option Addr} {n c : Nat} {b : Option Addr} {m q : Nat} {xs ys : List Int} (h : SX w B o f l e k a n c b m q xs ys) (hb : Below w.heap.size w w2) : SX w2 B o f l e k a n c b m q xs ys := by
  have ce : ∀ o, w2.cell? ⟨B, o, none⟩ = w.cell? ⟨B, o, none⟩ := fun o => hb.cell (p := ⟨B, o, none⟩) h.sz
  exact ⟨(ce _).trans h.c0, (ce _).trans h.c1, (ce _).trans h.c2, (ce _).trans h.c3, (ce _).trans h.c4, (ce _).trans h.c5, h.xa.below hb, h.ya.below hb, Nat.lt_of_lt_of_le h.sz hb.size, h.hs⟩
theorem two_box {W1 w3 : World} {f l e k : Int} {a : Option Addr} {n c : Nat} {b : Option Addr} {m q : Nat} {xs ys : List Int} {f' l' e' k' : Int} {a' : Option Addr} {n' c' : Nat} {b' : Option Addr} {m' q' : Nat} {xs' ys' : List Int} (t : TypeId)
    (hb : Below W1.heap.size W1 w3) (hx : IntsAt w3 a n xs) (hy : IntsAt w3 b m ys) (hs : n + m ≤ 2000) (hx' : IntsAt w3 a' n' xs') (hy' : IntsAt w3 b' m' ys') (hs' : n' + m' ≤ 2000) :
    Below W1.heap.size W1 (w3.alloc (.cells #[.int .i64 f, .int .i64 l, .int .i64 e, .int .i64 k, .slice a n c, .slice b m q, .int .i64 f', .int .i64 l', .int .i64 e', .int .i64 k', .slice a' n' c', .slice b' m' q'] t)) ∧ ∀ j, j < 2 → ∃ F L E K A N C B M Q X Y, SX (w3.alloc (.cells #[.int .i64 f, .int .i64 l, .int .i64 e, .int .i64 k, .slice a n c, .slice b m q, .int .i64 f', .int .i64 l', .int .i64 e', .int .i64 k', .slice a' n' c', .slice b' m' q'] t)) w3.heap.size (j * 6) F L E K A N C B M Q X Y := by
  have h1 : Below w3.heap.size w3 (w3.alloc (.cells #[.int .i64 f, .int .i64 l, .int .i64 e, .int .i64 k, .slice a n c, .slice b m q, .int .i64 f', .int .i64 l', .int .i64 e', .int .i64 k', .slice a' n' c', .slice b' m' q'] t)) := (Below.refl _ _).alloc (Nat.le_refl _) _
  refine ⟨below3 hb h1, fun j hj => ?_⟩
  rcases (show j = 0 ∨ j = 1 by omega) with rfl | rfl
  · exact ⟨f, l, e, k, a, n, c, b, m, q, xs, ys, by simp, by simp, by simp, by simp, by simp, by simp, hx.below h1, hy.below h1, by simp, hs⟩
  · exact ⟨f', l', e', k', a', n', c', b', m', q', xs', ys', by simp, by simp, by simp, by simp, by simp, by simp, hx'.below h1, hy'.below h1, by simp, hs'⟩
def RollP (W : World) (e : Ending) (w' : World) : Prop := ∃ p, e = .returned (.pointer (some ⟨p, 0, none⟩)) ∧ DiceAt w' p ∧ Below W.heap.size W w' ∧ W.heap.size ≤ p
theorem roll_dice {a : Option Addr} {n c : Nat} {T : List Int} (W : World) (hI : IntsAt W a n T) (hn : n ≤ 400) (hL : ∀ x ∈ T, -9223372036854775808 ≤ x ∧ x ≤ 9223372036854775807) :
    Calls Tryz.prog 8 #[.slice a n c] W (RollP W) := by
  refine (roll_any a n c W).mono ?_
  rintro e w' ⟨rfl, rfl⟩
  exact ⟨_, rfl, DiceAt.mk0 c _ hI hn hL, (Below.refl _ _).alloc (Nat.le_refl _) _, Nat.le_refl _⟩
theorem two_ints (w : World) (x y : Int) (t : TypeId) {j : Nat} (hj : j < 2) : ∃ v, (w.alloc (.cells #[.int .i64 x, .int .i64 y] t)).cell? ⟨w.heap.size, j, none⟩ = some (.int .i64 v) := by
  match j, hj with
  | 0, _ => exact ⟨x, by simp⟩
  | 1, _ => exact ⟨y, by simp⟩

end Go.Proofs.YtibigbfkokendaaGreatDoor
