/- Records: a list of lists of strings that came in, and how long its text is. -/
import Derived.Test.YtpiejpodaljefaaDoorOpen2
import Derived.Test.YtpiejpodaljefaaDoorN14
import Derived.Test.YtpiejpodaljefaaDoorRows
import Derived.SliceStrings
import Derived.Deep.Slices
namespace Go.Proofs.YtpiejpodaljefaaDoor
open Go Go.ChangeShapes Go.WideShapes Go.ChangeAt Go.RowKit Go.WideMaps Go.WideElems Go.Joins

/-- how much the fields hold -/
def szX : List L8 → Nat
  | [] => 0
  | s :: x => s.length + 1 + szX x
def szL : List (List L8) → Nat
  | [] => 0
  | x :: l => szX x + 1 + szL l
theorem restF_sz (d q : UInt8) (only : Bool) : ∀ x : List L8, (restF d q only x).length ≤ 3 * szX x
  | [] => by simp [restF]
  | s :: r => by
    have ih := restF_sz d q only r
    have hf := fieldF_len d q false only s
    simp only [restF, szX, List.length_cons, List.length_append]
    omega
theorem lineF_sz (d q : UInt8) (x : List L8) : (lineF d q x).length ≤ 3 * szX x := by
  cases x with
  | nil => simp [lineF]
  | cons s r =>
    have ih := restF_sz d q false r
    have hf := fieldF_len d q true r.isEmpty s
    simp only [lineF, szX, List.length_append]
    omega
theorem textF_sz (d q : UInt8) : ∀ l : List (List L8), (textF d q l).length ≤ 3 * szL l
  | [] => by simp [textF]
  | x :: l => by
    have ih := textF_sz d q l
    have := lineF_sz d q x
    simp only [textF, szL, List.length_cons, List.length_append]
    omega
theorem szX_le : ∀ {x : List L8} {s : L8}, s ∈ x → s.length ≤ szX x
  | t :: x, s, h => by
    rcases List.mem_cons.1 h with rfl | h
    · simp only [szX]; omega
    · have := szX_le h; simp only [szX]; omega
theorem szL_le : ∀ {l : List (List L8)} {x : List L8}, x ∈ l → szX x ≤ szL l
  | t :: l, x, h => by
    rcases List.mem_cons.1 h with rfl | h
    · simp only [szL]; omega
    · have := szL_le h; simp only [szL]; omega
theorem bulk_strs {H : Type} : ∀ ss : List ByteArray, Rows.uptoBulkAll (strs (H := H) ss) = szX (ss.map (·.data.toList))
  | [] => rfl
  | s :: ss => by
    have ih := bulk_strs (H := H) ss
    simp only [strs, List.map_cons, szX, Rows.uptoBulkAll, Rows.uptoBulk] at ih ⊢
    rw [ih]
theorem bulk_map {H : Type} (D : Nat → DataW H) (X : Nat → List L8) : ∀ n, (∀ i, i < n → szX (X i) + 1 ≤ Rows.uptoBulk (D i)) → szL ((List.range n).map X) ≤ Rows.uptoBulkAll ((List.range n).map D) := by
  have app1 : ∀ (a b : List (List L8)), szL (a ++ b) = szL a + szL b := by
    intro a b
    induction a with
    | nil => simp [szL]
    | cons x a ih => simp only [List.cons_append, szL, ih]; omega
  have app2 : ∀ (a b : List (DataW H)), Rows.uptoBulkAll (a ++ b) = Rows.uptoBulkAll a + Rows.uptoBulkAll b := by
    intro a b
    induction a with
    | nil => simp [Rows.uptoBulkAll]
    | cons x a ih => simp only [List.cons_append, Rows.uptoBulkAll, ih]; omega
  intro n
  induction n with
  | zero => intro _; simp [szL, Rows.uptoBulkAll]
  | succ n ih =>
    intro h
    rw [List.range_succ, List.map_append, List.map_append, app1, app2]
    have h1 := ih fun i hi => h i (by omega)
    have h2 := h n (by omega)
    simp only [List.map_cons, List.map_nil, szL, Rows.uptoBulkAll]
    omega
theorem strs_at {w : World} {a : Addr} {ss : List ByteArray} (h : ∀ i, i < ss.length → w.cell? (a.add i) = some (.string (ss.getD i ByteArray.empty))) : StrAt 0 w (some a) ss := by
  by_cases hp : ss = []
  · exact Or.inl hp
  · have hp' : 0 < ss.length := List.length_pos_iff.2 hp
    obtain ⟨b, off, spot⟩ := a
    have hspot : spot = none := by simpa [Addr.add] using World.cell?_spot (h 0 hp')
    subst hspot
    refine Or.inr ⟨b, off, rfl, Nat.zero_le _, fun j hj => ?_⟩
    rw [← Go.WideShapes.add_plain, h j hj]
    simp [List.getD, hj]

set_option maxRecDepth 100000 in
/-- A list of lists of strings that came in. -/
theorem open_rows {H : Type} {enc : TypeId × Value → H} {W : World} {r : Reach} {b0 base : Nat} {held : Bool} {v : Value} {d : DataW H} {p : List MemPlace}
    (hv : Value.okWide Tryd.prog W r b0 37 v) (h : DataW.Trod enc Tryd.prog W base (fun _ => true) held 37 v d p) :
    ∃ M : List RowS, LstW 0 W v M ∧ szL (lstB M) ≤ Rows.uptoBulk d := by
  obtain ⟨a1, len1, cap1, rfl⟩ := okWide_slice Tryd.underlying37 hv
  obtain ⟨fuel, hf⟩ := h
  rcases Go.Deep.open_slice1 Tryd.underlying37 (by kernel_rfl) hf with ⟨hcs, hx⟩ | ⟨a, len, cap, m, n, V, D, Pl, hcs, _, hl, hm, hmm, hx, hel⟩
  · simp [Value.cells] at hcs
    obtain ⟨rfl, rfl, rfl⟩ := hcs
    exact ⟨[], ⟨none, 0, rfl, by simp, by omega, Or.inl rfl, by simp⟩, by simp [lstB, szL]⟩
  · simp [Value.cells] at hcs
    obtain ⟨rfl, rfl, rfl⟩ := hcs
    simp only [if_true] at hmm
    subst hmm
    simp only [Prod.mk.injEq] at hx
    have each : ∀ i, i < m → ∃ y : RowS, V i = .slice y.1 y.2.2.length y.2.1 ∧ StrAt 0 W y.1 y.2.2 ∧ y.2.2.length ≤ y.2.1 ∧ y.2.1 ≤ 9223372036854775807 ∧ szX (rowB y) + 1 ≤ Rows.uptoBulk (D i) := by
      intro i hi
      obtain ⟨_, ht⟩ := hel i hi
      rcases open_strings Tryd.underlying45 Tryd.underlying9 (by kernel_rfl) ht with ⟨hcs, hx2⟩ | ⟨a', len', cap', ss, hcs, _, hl', hm', hlen, hx2, hcell, _⟩
      · simp only [List.cons.injEq, and_true] at hcs
        simp only [Prod.mk.injEq] at hx2
        exact ⟨(none, 0, []), hcs, Or.inl rfl, by simp, by simp, by rw [hx2.1]; simp [rowB, szX, Rows.uptoBulk]⟩
      · simp only [List.cons.injEq, and_true] at hcs
        simp only [Prod.mk.injEq] at hx2
        simp only [if_true] at hlen
        have htl : (ss.take len').length = len' := by simp; omega
        refine ⟨(some a', cap', ss.take len'), by rw [hcs, htl], ?_, by rw [htl]; exact hl', by unfold maxLen at hm'; show cap' ≤ _; omega, ?_⟩
        · refine strs_at fun j hj => ?_
          rw [hcell j (by simp at hj; omega)]
          have hj2 : j < len' ∧ j < ss.length := by simp at hj; omega
          simp [List.getD, hj2.1]
        · rw [hx2.1]
          simp only [Rows.uptoBulk, bulk_strs, rowB]
          omega
    obtain ⟨y, hy⟩ := Go.Deep.choose_lt each
    have hlen : ((List.range len1).map y).length = len1 := by simp
    refine ⟨(List.range len1).map y, ⟨some a, m, by rw [hlen], by rw [hlen]; exact hl, by unfold maxLen at hm; omega, ?_, fun x hx => ?_⟩, ?_⟩
    · by_cases h0 : len1 = 0
      · exact Or.inl (by rw [h0]; rfl)
      · have hc0 : ∀ i, i < len1 → W.cell? (a.add i) = some (V i) := fun i hi => (hel i (by omega)).1
        obtain ⟨b, off, spot⟩ := a
        have hspot : spot = none := by simpa [Addr.add] using World.cell?_spot (hc0 0 (by omega))
        subst hspot
        refine Or.inr ⟨b, off, rfl, Nat.zero_le _, fun j hj => ?_⟩
        rw [hlen] at hj
        rw [← Go.WideShapes.add_plain, hc0 j hj, (hy j (by omega)).1]
        simp
    · obtain ⟨i, hi, rfl⟩ := List.mem_map.1 hx
      have := List.mem_range.1 hi
      obtain ⟨_, h2, h3, h4, _⟩ := hy i (by omega)
      exact ⟨h2, h3, h4⟩
    · rw [hx.1]
      have hb := bulk_map D (fun i => rowB (y i)) len1 fun i hi => (hy i (by omega)).2.2.2.2
      have e : lstB ((List.range len1).map y) = (List.range len1).map (fun i => rowB (y i)) := by simp [lstB]
      rw [e]
      simp only [Rows.uptoBulk]
      omega
/-- where what is read is small -/
theorem rows_small {H : Type} {M : List RowS} {d : DataW H} {ds : List (DataW H)} (h : szL (lstB M) ≤ Rows.uptoBulk d) (hk : Rows.uptoSmall H (d :: ds) = true) (x y : UInt8) :
    (∀ z ∈ M, ∀ s ∈ z.2.2, s.size < 4294967281) ∧ (textF x y (lstB M)).length ≤ 140737488355000 := by
  have hk' : Rows.uptoBulk d + Rows.uptoBulkAll ds ≤ 1048576 := of_decide_eq_true hk
  refine ⟨fun z hz s hs => ?_, ?_⟩
  · have h1 := szL_le (l := lstB M) (x := rowB z) (List.mem_map_of_mem hz)
    have h2 := szX_le (x := rowB z) (s := s.data.toList) (List.mem_map_of_mem hs)
    have e : s.data.toList.length = s.size := rfl
    omega
  · have := textF_sz x y (lstB M)
    omega
end Go.Proofs.YtpiejpodaljefaaDoor
