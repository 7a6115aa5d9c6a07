import Derived.Test.YtllcoocllkaanaaDoorOpen
import Derived.Deep.SlicePairs
import Derived.Test.YtllcoocllkaanaaDoorProg
import Derived.Test.YtllcoocllkaanaaDoorRows
namespace Go.Proofs.YtllcoocllkaanaaDoor
open Go Go.ChangeShapes Go.WideShapes Go.ChangeAt Go.RowKit Go.WideMaps Go.WideElems Go.Joins

def getI : Value → Int
  | .int _ z => z
  | _ => 0
theorem addr_plain {W : World} {a : Addr} {v : Value} (h : W.cell? (a.add 0) = some v) : ∃ b o, a = ⟨b, o, none⟩ := by
  obtain ⟨b, o, x⟩ := a
  have hx : x = none := by simpa [Addr.add] using World.cell?_spot h
  exact ⟨b, o, by rw [hx]⟩
theorem open_shifts {H : Type} {enc : TypeId × Value → H} {W : World} {base : Nat} {held : Bool} {fuel : Nat} {v : Value} {y : DataW H × List MemPlace} (h : DataW.trod enc Tryd.prog W base (fun _ => true) held fuel 22 [v] = some y) :
    ∃ a n c xs, v = .slice a n c ∧ List.length xs = n ∧ n ≤ 9223372036854775807 ∧ (xs = [] ∨ ∃ b of, a = some ⟨b, of, none⟩ ∧ PCells W b of xs) := by
  rcases Go.Deep.open_slice_pairs Tryd.underlying22 Tryd.underlying43 (by kernel_rfl) rfl rfl (by kernel_rfl) (by kernel_rfl) h with ⟨hcs, _⟩ | ⟨a, len, cap, m, n, V0, V1, D0, D1, P0, P1, hcs, _, hl, hm, hmm, _, hi⟩
  · simp only [List.cons.injEq, and_true] at hcs
    exact ⟨none, 0, 0, [], hcs, rfl, by omega, Or.inl rfl⟩
  · simp only [List.cons.injEq, and_true] at hcs
    unfold maxLen at hm
    refine ⟨some a, len, cap, (List.range len).map fun i => (getI (V0 i), getI (V1 i)), hcs, by simp, by omega, ?_⟩
    by_cases h0 : len = 0
    · subst h0; exact Or.inl rfl
    · have hlm : len ≤ m := by simp only [if_true] at hmm; omega
      obtain ⟨b, o, rfl⟩ := addr_plain (hi 0 (by omega)).1
      refine Or.inr ⟨b, o, rfl, fun j hj => ?_⟩
      have hj' : j < len := by simpa using hj
      obtain ⟨c0, c1, t0, t1⟩ := hi j (by omega)
      obtain ⟨z0, e0, _, _⟩ := DataW.trod_int Tryd.underlying3 t0
      obtain ⟨z1, e1, _, _⟩ := DataW.trod_int Tryd.underlying3 t1
      simp only [List.cons.injEq, and_true] at e0 e1
      rw [Go.WideShapes.add_plain, e0] at c0
      rw [Go.WideShapes.add_plain, e1] at c1
      have eg : ((List.range len).map fun i => (getI (V0 i), getI (V1 i))).getD j (0, 0) = (z0, z1) := by
        simp [List.getD, hj', e0, e1, getI]
      rw [eg]
      exact ⟨c0, by rw [Nat.add_assoc]; exact c1⟩
set_option maxRecDepth 100000 in
theorem open_zone {H : Type} {enc : TypeId × Value → H} {W : World} {r : Reach} {b0 base : Nat} {held : Bool} {v : Value} {d : DataW H} {p : List MemPlace}
    (hv : Value.okWide Tryd.prog W r b0 24 v) (h : DataW.Trod enc Tryd.prog W base (fun _ => true) held 24 v d p) :
    ∃ s off a n c xs, v = .agg #[.string s, .int .i64 off, .slice a n c] ∧ s.size ≤ 9223372036854775807 ∧ List.length xs = n ∧ n ≤ 9223372036854775807 ∧ (xs = [] ∨ ∃ b of, a = some ⟨b, of, none⟩ ∧ PCells W b of xs) := by
  obtain ⟨v0, v1, v2, y0, y1, y2, m, rfl, _, _, h0, h1, h2⟩ := open_agg3 Tryd.underlying24 (by kernel_rfl) (by kernel_rfl) hv h
  obtain ⟨s, e0, _, hs⟩ := DataW.trod_string Tryd.underlying9 h0
  obtain ⟨off, e1, _, _⟩ := DataW.trod_int Tryd.underlying3 h1
  obtain ⟨a, n, c, xs, rfl, hl, hn, hc⟩ := open_shifts h2
  simp only [List.cons.injEq, and_true] at e0 e1
  subst e0 e1
  unfold maxLen at hs
  exact ⟨s, off, a, n, c, xs, rfl, by omega, hl, hn, hc⟩
end Go.Proofs.YtllcoocllkaanaaDoor
