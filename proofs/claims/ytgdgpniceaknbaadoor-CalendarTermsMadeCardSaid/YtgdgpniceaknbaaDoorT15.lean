import Derived.Test.YtgdgpniceaknbaaDoorT14
import Derived.Test.YtgdgpniceaknbaaDoorFrame
namespace Go.Proofs.YtgdgpniceaknbaaDoor
open Go Go.ChangeShapes Go.WideShapes Go.ChangeAt Go.RowKit Go.WideMaps Go.WideElems Go.Joins TT

theorem open_ints_at {H : Type} {enc : TypeId × Value → H} {P : Program} {W : World} {base : Nat} {held : Bool} {fuel : Nat} {t e : TypeId} {v : Value} {y : DataW H × List MemPlace}
    (ht : P.underlying t = some (.slice e)) (he : P.underlying e = some (.int .i64)) (hc : P.cellsOf e = 1) (h : DataW.trod enc P W base (fun _ => true) held fuel t [v] = some y) :
    ∃ a n c hs, v = .slice a n c ∧ IntsAt W a n hs ∧ (∀ x ∈ hs, -9223372036854775808 ≤ x ∧ x ≤ 9223372036854775807) := by
  rcases open_ints ht he hc h with ⟨hcs, _⟩ | ⟨a, len, cap, zs, hcs, _, hl, hm, hz, _, hcell, hwz⟩
  · simp only [List.cons.injEq, and_true] at hcs
    exact ⟨none, 0, 0, [], hcs, ⟨rfl, by omega, Or.inl rfl⟩, fun x hx => by cases hx⟩
  · simp only [List.cons.injEq, and_true] at hcs
    simp only [if_true] at hz
    refine ⟨some a, len, cap, zs.take len, hcs, ⟨by simp; omega, by unfold maxLen at hm; omega, ?_⟩, fun x hx => bounds_i64 (hwz x (List.mem_of_mem_take hx))⟩
    by_cases h0 : len = 0
    · exact Or.inl h0
    · obtain ⟨b, off, rfl, hcl⟩ := ints_at hcell (by omega)
      refine Or.inr ⟨b, off, rfl, fun i hi => ?_⟩
      rw [hcl i (by omega)]
      simp [hi]

theorem open_term {H : Type} {enc : TypeId × Value → H} {W : World} {r : Reach} {b0 base : Nat} {held : Bool} {v : Value} {d : DataW H} {p : List MemPlace}
    (hv : Value.okWide Tryd.prog W r b0 37 v) (h : DataW.Trod enc Tryd.prog W base (fun _ => true) held 37 v d p) :
    ∃ f k a n c hs, v = .agg #[.int .i64 f, .int .i64 k, .slice a n c] ∧ IntsAt W a n hs := by
  obtain ⟨v0, v1, v2, y0, y1, y2, m, rfl, _, _, h0, h1, h2⟩ := open_agg3 Tryd.underlying37 (by kernel_rfl) (by kernel_rfl) hv h
  obtain ⟨f, e0, _, _⟩ := DataW.trod_int Tryd.underlying3 h0
  obtain ⟨k, e1, _, _⟩ := DataW.trod_int Tryd.underlying3 h1
  obtain ⟨a, n, c, hs, rfl, hI, _⟩ := open_ints_at Tryd.underlying35 Tryd.underlying3 (by kernel_rfl) h2
  simp only [List.cons.injEq, and_true] at e0 e1
  subst e0 e1
  exact ⟨f, k, a, n, c, hs, rfl, hI⟩
theorem open_time {H : Type} {enc : TypeId × Value → H} {W : World} {r : Reach} {b0 base : Nat} {held : Bool} {v : Value} {d : DataW H} {p : List MemPlace}
    (hv : Value.okWide Tryd.prog W r b0 39 v) (h : DataW.Trod enc Tryd.prog W base (fun _ => true) held 39 v d p) :
    ∃ a b c e : Int, v = .agg #[.int .i64 a, .int .i64 b, .int .i64 c, .int .i64 e] ∧ a ≤ 9223372036854775807 := by
  obtain ⟨v0, v1, v2, v3, y0, y1, y2, y3, m, rfl, _, _, h0, h1, h2, h3⟩ := open_agg4 Tryd.underlying39 (by kernel_rfl) (by kernel_rfl) hv h
  obtain ⟨a, e0, _, wa⟩ := DataW.trod_int Tryd.underlying3 h0
  obtain ⟨b, e1, _, _⟩ := DataW.trod_int Tryd.underlying3 h1
  obtain ⟨c, e2, _, _⟩ := DataW.trod_int Tryd.underlying3 h2
  obtain ⟨e, e3, _, _⟩ := DataW.trod_int Tryd.underlying3 h3
  simp only [List.cons.injEq, and_true] at e0 e1 e2 e3
  subst e0 e1 e2 e3
  exact ⟨a, b, c, e, rfl, (bounds_i64 wa).2⟩
end Go.Proofs.YtgdgpniceaknbaaDoor
