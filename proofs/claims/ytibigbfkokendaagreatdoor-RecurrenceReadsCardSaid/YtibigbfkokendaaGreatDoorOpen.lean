import Derived.Test.YtibigbfkokendaaGreatDoorBase
import Derived.Test.YtibigbfkokendaaGreatDoorFrame
namespace Go.Proofs.YtibigbfkokendaaGreatDoor
open Go Go.ChangeShapes Go.WideShapes Go.ChangeAt Go.RowKit Go.WideMaps Go.WideElems Go.Joins

theorem open_ints_at {H : Type} {enc : TypeId × Value → H} {P : Program} {W : World} {base : Nat} {held : Bool} {fuel : Nat} {t e : TypeId} {v : Value} {y : DataW H × List MemPlace}
    (ht : P.underlying t = some (.slice e)) (he : P.underlying e = some (.int .i64)) (hc : P.cellsOf e = 1) (h : DataW.trod enc P W base (fun _ => true) held fuel t [v] = some y) :
    ∃ a n c hs, v = .slice a n c ∧ IntsAt W a n hs ∧ (∀ x ∈ hs, -9223372036854775808 ≤ x ∧ x ≤ 9223372036854775807) := by
  rcases open_ints ht he hc h with ⟨hcs, _⟩ | ⟨a, len, cap, zs, hcs, _, hl, hm, hz, _, hcell, hwz⟩
  · simp only [List.cons.injEq, and_true] at hcs
    exact ⟨none, 0, 0, [], hcs, ⟨rfl, by omega, Or.inl rfl⟩, fun x hx => by cases hx⟩
  · simp only [List.cons.injEq, and_true] at hcs
    simp only [if_true] at hz
    refine ⟨some a, len, cap, zs.take len, hcs, ⟨by simp; omega, by unfold maxLen at hm; omega, ?_⟩, fun x hx => bounds_i64 (hwz x (List.mem_of_mem_take hx))⟩
    by_cases h0 : len = 0
    · exact Or.inl h0
    · obtain ⟨b, off, rfl, hcl⟩ := ints_at hcell (by omega)
      refine Or.inr ⟨b, off, rfl, fun i hi => ?_⟩
      rw [hcl i (by omega)]
      simp [hi]

end Go.Proofs.YtibigbfkokendaaGreatDoor
