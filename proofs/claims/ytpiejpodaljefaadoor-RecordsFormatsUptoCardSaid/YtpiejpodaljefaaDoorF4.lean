import Derived.Test.YtpiejpodaljefaaDoorF3
namespace Go.Proofs.YtpiejpodaljefaaDoor
open Go.RowKit

/-- the fields as they are written, from place i on -/
def rowG (d q : UInt8) (only : Bool) : Nat → List L8 → List L8
  | _, [] => []
  | i, s :: r => fieldF d q (i == 0) only s :: rowG d q only (i + 1) r
theorem rowG_len (d q : UInt8) (only : Bool) : ∀ (i : Nat) (x : List L8), (rowG d q only i x).length = x.length
  | _, [] => rfl
  | i, s :: r => by simp [rowG, rowG_len d q only (i + 1) r]
theorem rowG_get (d q : UInt8) (only : Bool) : ∀ (i : Nat) (x : List L8) (k : Nat) (h : k < x.length), (rowG d q only i x)[k]? = some (fieldF d q (i + k == 0) only x[k])
  | _, [], k, h => by simp at h
  | i, s :: r, 0, _ => by simp [rowG]
  | i, s :: r, k + 1, h => by
    have ih := rowG_get d q only (i + 1) r k (by simpa using h)
    simp only [rowG, List.getElem?_cons_succ, List.getElem_cons_succ]
    rw [ih, show i + 1 + k = i + (k + 1) by omega]
theorem rowG_tail (d q : UInt8) (only : Bool) : ∀ (i : Nat) (r : List L8), Lib.joinTail [d] (rowG d q only (i + 1) r) = restF d q only r
  | _, [] => rfl
  | i, s :: r => by
    have ih := rowG_tail d q only (i + 1) r
    simp only [rowG, restF, Lib.joinTail, List.map_cons, List.flatten_cons] at ih ⊢
    rw [ih]
    rfl
theorem lineF_join (d q : UInt8) (x : List L8) : Lib.join (rowG d q (x.length == 1) 0 x) [d] = lineF d q x := by
  cases x with
  | nil => rfl
  | cons s r =>
    simp only [rowG, lineF]
    rw [Lib.join_cons, rowG_tail]
    cases r with
    | nil => rfl
    | cons s2 r2 => rfl
theorem textF_app (d q : UInt8) : ∀ (a b : List (List L8)), textF d q (a ++ b) = textF d q a ++ textF d q b
  | [], _ => rfl
  | x :: a, b => by simp [textF, textF_app d q a b]
theorem textF_take {d q : UInt8} {l : List (List L8)} {k : Nat} (h : k < l.length) : textF d q (l.take (k + 1)) = textF d q (l.take k) ++ (lineF d q l[k] ++ [10]) := by
  rw [List.take_succ_eq_append_getElem h, textF_app]
  rfl
theorem textF_take_le {d q : UInt8} {l : List (List L8)} {k : Nat} : (textF d q (l.take k)).length ≤ (textF d q l).length := by
  have e : l = l.take k ++ l.drop k := (List.take_append_drop k l).symm
  conv => rhs; rw [e, textF_app]
  simp
theorem errF_drop {l : List (List L8)} {k : Nat} (h : k < l.length) : errF (l.drop k) = if l[k].length = 0 then 16 else if 12 < l[k].length then 2 else errF (l.drop (k + 1)) := by
  rw [List.drop_eq_getElem_cons h, errF]
theorem set_step {α : Type} {A zs : List α} {k : Nat} {a : α} (hA : A[k]? = some a) (hz : k < zs.length) : (A.take k ++ zs.drop k).set k a = A.take (k + 1) ++ zs.drop (k + 1) := by
  obtain ⟨hk, ha⟩ := List.getElem?_eq_some_iff.1 hA
  have hl : (A.take k).length = k := by rw [List.length_take]; omega
  rw [List.set_append_right _ _ (by omega), hl, Nat.sub_self, List.drop_eq_getElem_cons hz, List.set_cons_zero, List.take_succ_eq_append_getElem hk, ha]
  simp

/-- what Format hands back -/
def FmtOut (z : L8 × Nat) (w : World) (e : Ending) (w' : World) : Prop := e = .returned (.tuple #[.string (arr z.1), .int .i64 z.2]) ∧ Below w.heap.size w w'
theorem lst_at {B : Nat} {w : World} {v : Value} {L : List RowS} (h : LstW B w v L) (hn : 0 < L.length) : ∃ b off c, v = .slice (some ⟨b, off, none⟩) L.length c ∧ L.length ≤ c ∧ c ≤ 9223372036854775807 ∧ ∀ j (h : j < L.length), w.cell? ⟨b, off + j, none⟩ = some (.slice (L[j]).1 (L[j]).2.2.length (L[j]).2.1) := by
  obtain ⟨a, c, h1, h2, h3, h4, _⟩ := h
  rcases h4 with h | ⟨b, off, rfl, _, hc⟩
  · rw [h] at hn; simp at hn
  · exact ⟨b, off, c, h1, h2, h3, hc⟩
theorem LstW.el {B : Nat} {w : World} {v : Value} {L : List RowS} (h : LstW B w v L) {x : RowS} (hx : x ∈ L) : StrAt B w x.1 x.2.2 ∧ x.2.2.length ≤ x.2.1 ∧ x.2.1 ≤ 9223372036854775807 := by
  obtain ⟨_, _, _, _, _, _, h5⟩ := h
  exact h5 x hx
theorem lstB_at {L : List RowS} {j : Nat} (h : j < L.length) (h' : j < (lstB L).length) : (lstB L)[j] = rowB L[j] := by simp [lstB]
theorem errF_all : ∀ {l : List (List L8)}, errF l = 0 → ∀ x ∈ l, 0 < x.length ∧ x.length ≤ 12
  | [], _, x, hx => by cases hx
  | y :: l, h, x, hx => by
    unfold errF at h
    by_cases h0 : y.length = 0
    · rw [if_pos h0] at h; cases h
    · rw [if_neg h0] at h
      by_cases h1 : 12 < y.length
      · rw [if_pos h1] at h; cases h
      · rw [if_neg h1] at h
        rcases List.mem_cons.1 hx with rfl | hx
        · omega
        · exact errF_all h x hx
theorem str_cell {w : World} {B g n cap j : Nat} {A : List ByteArray} (h : w.ownsRow B 9 1 (.slice (some ⟨g, 0, none⟩) n cap) n (A.map Value.string)) (hj : j < n) : (∃ u, w.cell? ⟨g, j, none⟩ = some (.string u)) ∧ w.frozen? ⟨g, j, none⟩ = false ∧ n ≤ cap ∧ cap ≤ 9223372036854775807 ∧ B ≤ g ∧ g < w.heap.size ∧ ∃ c, w.heap[g]? = some (.cells c 9 (0, 0)) := by
  have hl := h.1
  rw [List.length_map, Nat.mul_one] at hl
  rcases h.2 with ⟨e, _⟩ | ⟨g', cap', cur, e, hB, hh, h1, h2, _⟩
  · cases e
  · cases e
    refine ⟨⟨A[j], ?_⟩, ?_, h1, by unfold maxLen at h2; omega, hB, lt_of_heap hh, _, hh⟩
    · rw [h.cellAt j (by omega)]
      simp [List.getElem?_eq_getElem (show j < A.length by omega)]
    · simp [World.frozen?, hh]
theorem join_any {w : World} {B g cap : Nat} {A : List ByteArray} (c : UInt8) (h : w.ownsRow B 9 1 (.slice (some ⟨g, 0, none⟩) A.length cap) A.length (A.map Value.string)) (hn : 0 < A.length) (hn2 : A.length ≤ 12) (hlen : (Lib.join (A.map (·.data.toList)) [c]).length ≤ 140737488355328) :
    Calls Tryd.prog 36 #[.slice (some ⟨g, 0, none⟩) A.length cap, .string (arr [c])] w (RetB (.string (arr (Lib.join (A.map (·.data.toList)) [c]))) w) := by
  obtain ⟨_, _, h1, _, _, hg, _⟩ := str_cell h hn
  refine (Tryd.strings_Join g 0 cap A (arr [c]) w (fun j x hx => ?_) hg (by omega) h1 hlen).mono fun e w' ⟨he, hb⟩ => ⟨he, hb⟩
  have hj : j < A.length := (List.getElem?_eq_some_iff.1 hx).1
  rw [Nat.zero_add, h.cellAt j (by omega)]
  simp [hx]
theorem write_any {bb : Nat} {t : L8} {s : ByteArray} {w : World} (h : BldW bb bb t w) (hlen : t.length + s.size ≤ 140737488355328) : Calls Tryd.prog 35 #[.pointer (some ⟨bb, 0, none⟩), .string s] w fun e w' => e = .returned (.tuple #[.int .i64 s.size, .nilIface]) ∧ BldW bb bb (t ++ s.data.toList) w' ∧ Below bb w w' :=
  (writeString_k bb bb (Lib.byteCells t) s w h (by rw [Lib.byteCells_length]; exact hlen) (by have := h.lt; omega)).mono fun e w' ⟨he, hb, hbel, _⟩ => ⟨he, Or.inr (by rw [Lib.byteCells_append]; exact hb), hbel⟩
end Go.Proofs.YtpiejpodaljefaaDoor
