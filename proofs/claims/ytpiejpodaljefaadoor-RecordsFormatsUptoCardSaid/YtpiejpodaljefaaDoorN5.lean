/- Records: made fields as a list that Format takes; how long their text is. -/
import Derived.Test.YtpiejpodaljefaaDoorM4
import Derived.Test.YtpiejpodaljefaaDoorN3
namespace Go.Proofs.YtpiejpodaljefaaDoor
open Go.RowKit

theorem row_strs {w : World} {B : Nat} {v : Value} {xs : List ByteArray} (h : w.ownsRow B 9 1 v xs.length (xs.map Value.string)) : ∃ a c, v = .slice a xs.length c ∧ StrAt B w a xs ∧ xs.length ≤ c ∧ c ≤ 9223372036854775807 := by
  obtain ⟨h1, ⟨rfl, h2⟩ | ⟨g, cap, cur, rfl, hg, hh, hc, hm, hs, ht⟩⟩ := id h
  · exact ⟨none, 0, by rw [h2], Or.inl (List.eq_nil_of_length_eq_zero h2), by omega, by omega⟩
  · refine ⟨_, _, rfl, Or.inr ⟨g, 0, rfl, hg, fun j hj => ?_⟩, hc, by unfold maxLen at hm; omega⟩
    rw [Nat.zero_add, h.cellAt j (by omega)]
    simp [hj]
theorem FlW.lst {p : Nat} {w : World} {L : List RowM} {v : Value} {wr : World} (h : FlW p w L v wr) : LstW w.heap.size wr v L := by
  have hel : ∀ x ∈ L, StrAt w.heap.size wr x.1 x.2.2 ∧ x.2.2.length ≤ x.2.1 ∧ x.2.1 ≤ 9223372036854775807 := fun x hx => by
    obtain ⟨a, c, e, hs, h1, h2⟩ := row_strs (h.els x hx)
    unfold slc at e
    cases e
    exact ⟨hs, h1, h2⟩
  obtain ⟨h1, ⟨hv, h2⟩ | ⟨g, cap, cur, hv, hg, hh, hc, hm, hs, ht⟩⟩ := id h.row
  · exact ⟨none, 0, by rw [hv, h2], by omega, by omega, Or.inl (List.eq_nil_of_length_eq_zero h2), hel⟩
  · refine ⟨_, cap, hv, hc, by unfold maxLen at hm; omega, Or.inr ⟨g, 0, rfl, hg, fun j hj => ?_⟩, hel⟩
    subst hv
    rw [Nat.zero_add, h.row.cellAt j (by omega)]
    simp [hj, slc]
theorem sgn_small : ∀ x ∈ sgn.data.toList, x.toNat < 128 := by decide
theorem restF_len (d q : UInt8) : ∀ (x : List L8), (∀ s ∈ x, s.length ≤ 6) → (restF d q false x).length ≤ 15 * x.length
  | [], _ => by simp [restF]
  | s :: r, h => by
    have ih := restF_len d q r fun s hs => h s (by simp [hs])
    have hf := fieldF_len d q false false s
    have := h s (by simp)
    simp only [restF, List.length_cons, List.length_append]
    omega
theorem lineF_len (d q : UInt8) (x : List L8) (h : ∀ s ∈ x, s.length ≤ 6) : (lineF d q x).length ≤ 15 * x.length := by
  cases x with
  | nil => simp [lineF]
  | cons s r =>
    have ih := restF_len d q r fun s hs => h s (by simp [hs])
    have hf := fieldF_len d q true r.isEmpty s
    have := h s (by simp)
    simp only [lineF, List.length_cons, List.length_append]
    omega
theorem textF_len (d q : UInt8) : ∀ (l : List (List L8)), (∀ x ∈ l, x.length ≤ 5 ∧ ∀ s ∈ x, s.length ≤ 6) → (textF d q l).length ≤ 76 * l.length
  | [], _ => by simp [textF]
  | x :: l, h => by
    have ih := textF_len d q l fun x hx => h x (by simp [hx])
    obtain ⟨h1, h2⟩ := h x (by simp)
    have := lineF_len d q x h2
    simp only [textF, List.length_cons, List.length_append]
    omega
theorem lstB_small {L : List RowM} (h : ∀ x ∈ L, 1 ≤ x.2.2.length ∧ x.2.2.length ≤ 5 ∧ ∀ s ∈ x.2.2, SmallS s) : ∀ x ∈ lstB L, 1 ≤ x.length ∧ x.length ≤ 5 ∧ ∀ s ∈ x, s.length ≤ 6 ∧ ∀ c ∈ s, c ∈ sgn.data.toList := by
  intro x hx
  unfold lstB at hx
  obtain ⟨y, hy, rfl⟩ := List.mem_map.1 hx
  obtain ⟨h1, h2, h3⟩ := h y hy
  refine ⟨by simpa [rowB] using h1, by simpa [rowB] using h2, fun s hs => ?_⟩
  unfold rowB at hs
  obtain ⟨t, ht, rfl⟩ := List.mem_map.1 hs
  exact h3 t ht
theorem FlW.text_le {p : Nat} {w : World} {L : List RowM} {v : Value} {wr : World} (h : FlW p w L v wr) (h5 : L.length ≤ 5) (d q : UInt8) : (textF d q (lstB L)).length ≤ 400 := by
  have hh := textF_len d q (lstB L) fun x hx => ⟨(lstB_small h.sm x hx).2.1, fun s hs => ((lstB_small h.sm x hx).2.2 s hs).1⟩
  have : (lstB L).length = L.length := List.length_map ..
  omega
theorem FlW.str_le {p : Nat} {w : World} {L : List RowM} {v : Value} {wr : World} (h : FlW p w L v wr) : ∀ x ∈ L, ∀ s ∈ x.2.2, s.size < 4294967281 := fun x hx s hs => by
  have := ((h.sm x hx).2.2 s hs).1
  omega
theorem errF_small : ∀ {l : List (List L8)}, (∀ x ∈ l, 1 ≤ x.length ∧ x.length ≤ 5) → errF l = 0
  | [], _ => rfl
  | x :: l, h => by
    have := h x (by simp)
    rw [errF, if_neg (by omega), if_neg (by omega)]
    exact errF_small fun y hy => h y (by simp [hy])
theorem FlW.format {p : Nat} {w : World} {L : List RowM} {v : Value} {wr : World} (h : FlW p w L v wr) (h5 : L.length ≤ 5) {d q : UInt8} (hok : okD d q = true) : formatF d q (lstB L) = (textF d q (lstB L), 0) := by
  have hl : (lstB L).length = L.length := List.length_map ..
  have ht := h.text_le h5 d q
  unfold formatF
  rw [if_neg (by simp [hok]), if_neg (by omega), if_neg (by rw [errF_small fun x hx => ⟨(lstB_small h.sm x hx).1, (lstB_small h.sm x hx).2.1⟩]; simp), if_neg (by omega)]
theorem dial_ok {x y : UInt8} (hx : x = 44 ∨ x = 59 ∨ x = 124 ∨ x = 9) (hy : y = 34 ∨ y = 39) : okD x y = true := by
  rcases hx with rfl | rfl | rfl | rfl <;> rcases hy with rfl | rfl <;> rfl
end Go.Proofs.YtpiejpodaljefaaDoor
