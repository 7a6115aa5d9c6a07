import Derived.Test.YtllcoocllkaanaaDoorZ21
import Derived.Test.YtllcoocllkaanaaDoorZ17
import Derived.Test.YtllcoocllkaanaaDoorZ14
namespace Go.Proofs.YtllcoocllkaanaaDoor
open Go.RowKit

theorem odd_any {p : Nat} {s : ByteArray} {off : Int} {sv : Value} {B : Nat} {xs : Prs} (w : World) (hs : s.size ≤ 6) (hv : vldE s.data.toList off xs = 0) (hlen : xs.length ≤ 3) (hat : ∀ x ∈ xs, 0 ≤ x.1 ∧ x.1 ≤ 900000) (hown : w.ownsRow B 43 2 sv xs.length (pcells xs)) (hD : DiceAt w p) :
    Calls Tryd.prog 33 #[.pointer (some ⟨p, 0, none⟩), .agg #[.string s, .int .i64 off, sv]] w (SomeZ p w) := by
  obtain ⟨_, ⟨o1, o2⟩, _, hsh⟩ := vldE_ok hv
  have hx : ∀ x ∈ xs, (0 ≤ x.1 ∧ x.1 ≤ 900000) ∧ (-840 ≤ x.2 ∧ x.2 ≤ 840) := fun x hx => ⟨hat x hx, (shE_later hsh x hx).2.2⟩
  by_cases h0 : xs.length = 0
  · obtain ⟨a, cap, rfl, _, _⟩ := Pairs.of_owns hown
    rw [h0]
    exact odd_nil p s off a cap w hs o1 o2 hD
  · rcases hown.2 with ⟨_, e⟩ | ⟨g, cap, cur, rfl, _⟩
    · exact absurd e h0
    · exact odd_some p s off g xs.length cap B xs w hs hD hlen (by omega) rfl hown hx

theorem SomeZ.into {p : Nat} {w w0 w' : World} {e : Ending} (h : SomeZ p w0 e w') (hb : But p w w0) : SomeZ p w e w' := by
  obtain ⟨s, off, a, cap, xs, h1, h2, h3, h4, h5, h6⟩ := h
  exact ⟨s, off, a, cap, xs, h1, h2, h3, h4, h5, hb.trans h6⟩
theorem some_cells {w : World} {p B : Nat} {a : Option Addr} {cap : Nat} {xs : Prs} (hpB : p < B) (h : w.ownsRow B 43 2 (.slice a xs.length cap) xs.length (pcells xs)) : xs = [] ∨ ∃ b of, a = some ⟨b, of, none⟩ ∧ p < b ∧ PCells w b of xs := by
  obtain ⟨a', cap', e, _, hc⟩ := Pairs.of_owns h
  cases e
  rcases hc with h0 | ⟨b, of, rfl, hP⟩
  · exact Or.inl h0
  · by_cases h0 : xs = []
    · exact Or.inl h0
    · refine Or.inr ⟨b, of, rfl, ?_, hP⟩
      rcases h.2 with ⟨e, _⟩ | ⟨g, c, cur, e, hg, _⟩
      · cases e
      · cases e; omega
theorem ne_box {w : World} {q b of : Nat} {s : ByteArray} {o x y : Int} {v : Value} {T : TypeId} (hq : w.heap[q]? = some (.cells #[.string s, .int .i64 o, v] T (0, 0))) (hv : ∃ a n c, v = .slice a n c) (c1 : w.cell? ⟨b, of, none⟩ = some (.int .i64 x)) (c2 : w.cell? ⟨b, of + 1, none⟩ = some (.int .i64 y)) : b ≠ q := by
  intro e
  subst e
  obtain ⟨a, n, c, rfl⟩ := hv
  match of with
  | 0 => simp [World.cell?, hq] at c1
  | 1 => simp [World.cell?, hq] at c2
  | k + 2 => simp [World.cell?, hq] at c2
theorem SomeZ.res {p : Nat} {w w' : World} {s : ByteArray} {off : Int} {a : Option Addr} {cap : Nat} {xs : Prs} (hp : p < w.heap.size) (hq : w'.heap[w.heap.size]? = some (.cells #[.string ⟨#[]⟩, .int .i64 0, .slice none 0 0] 24 (0, 0))) (h2 : s.size ≤ 6) (h3 : xs.length ≤ 100)
    (h4 : xs = [] ∨ ∃ b of, a = some ⟨b, of, none⟩ ∧ p < b ∧ PCells w' b of xs) (h5 : DiceAt w' p) (h6 : But p w w') :
    SomeZ p w (.returned (.agg #[.string s, .int .i64 off, .slice a xs.length cap])) (((w'.setCell ⟨w.heap.size, 0, none⟩ (.string s)).setCell ⟨w.heap.size, 1, none⟩ (.int .i64 off)).setCell ⟨w.heap.size, 2, none⟩ (.slice a xs.length cap)) := by
  have hblk : ∀ q, q ≠ w.heap.size → (((w'.setCell ⟨w.heap.size, 0, none⟩ (.string s)).setCell ⟨w.heap.size, 1, none⟩ (.int .i64 off)).setCell ⟨w.heap.size, 2, none⟩ (.slice a xs.length cap)).heap[q]? = w'.heap[q]? := fun q hq => by
    rw [heap_setCell_other _ _ _ _ hq, heap_setCell_other _ _ _ _ hq, heap_setCell_other _ _ _ _ hq]
  refine ⟨s, off, a, cap, xs, rfl, h2, h3, ?_, h5.same (fun q hq => hblk q (by omega)), ?_⟩
  · rcases h4 with h4 | ⟨b, of, ha, hb, hP⟩
    · exact Or.inl h4
    · refine Or.inr ⟨b, of, ha, hb, fun j hj => ?_⟩
      obtain ⟨c1, c2⟩ := hP j hj
      have hne := ne_box hq ⟨_, _, _, rfl⟩ c1 c2
      exact ⟨by rw [World.cell?_of_block (w := w') (a := ⟨b, of + j * 2, none⟩) (hblk b hne)]; exact c1, by rw [World.cell?_of_block (w := w') (a := ⟨b, of + j * 2 + 1, none⟩) (hblk b hne)]; exact c2⟩
  · exact ⟨h6.os, h6.tape, h6.output, by simpa using h6.size, fun q hq hqp => (hblk q (by omega)).trans (h6.block q hq hqp)⟩

set_option maxRecDepth 100000 in
set_option maxHeartbeats 4000000 in
theorem some_any (p : Nat) (w : World) (hD : DiceAt w p) : Calls Tryd.prog 12 #[.pointer (some ⟨p, 0, none⟩)] w (SomeZ p w) := by
  have hp := hD.lt
  have HD := Lib.hid (hD.alloc zObj)
  have hB0 : But p w (w.alloc zObj) := (But.refl _ _).alloc _
  have hq0 : (w.alloc zObj).heap[w.heap.size]? = some zObj := by show (w.heap.push zObj)[w.heap.size]? = _; simp
  have hq1 : w.heap.size < (w.alloc zObj).heap.size := by simp
  have HB0 := Lib.hid hB0
  have HQ0 := Lib.hid hq0
  have HQ1 := Lib.hid hq1
  clear hD hB0 hq0 hq1
  unfold zObj at HD HB0 HQ0 HQ1
  go_enter Tryd.func12, Tryd.ntmps12
  go_wp2_with (first | (go_at_call 26; refine (mzone_any p _ HD.out).mono ?_) | fail)
  rintro e w1 ⟨s, off, xs, sv, B, rfl, hss, hv, hlen, hat, hpB, hown, hd1, hb1⟩
  obtain ⟨sa, cap, rfl, _, _⟩ := Pairs.of_owns hown
  have hz1 := Nat.lt_of_lt_of_le HQ1.out hb1.size
  have hbA : But p w1 (w1.alloc (.cells #[.string s, .int .i64 off, .slice sa xs.length cap] 24)) := (But.refl _ _).alloc _
  have HO := Lib.hid (row_but hown hbA hpB)
  have hB2 := HB0.out.trans (hb1.trans hbA)
  have hq2 : (w1.alloc (.cells #[.string s, .int .i64 off, .slice sa xs.length cap] 24)).heap[w.heap.size]? = some (.cells #[.string ⟨#[]⟩, .int .i64 0, .slice none 0 0] 24 (0, 0)) := by
    rw [(hb1.trans hbA).block _ HQ1.out (by omega)]; exact HQ0.out
  have HD2 := Lib.hid (hd1.alloc (.cells #[.string s, .int .i64 off, .slice sa xs.length cap] 24))
  have z0 : (w1.alloc (.cells #[.string s, .int .i64 off, .slice sa xs.length cap] 24)).cell? ⟨w1.heap.size, 0, none⟩ = some (.string s) := by rw [World.cell?_alloc_at _ _ _ _ rfl]; rfl
  have z1 : (w1.alloc (.cells #[.string s, .int .i64 off, .slice sa xs.length cap] 24)).cell? ⟨w1.heap.size, 1, none⟩ = some (.int .i64 off) := by rw [World.cell?_alloc_at _ _ _ _ rfl]; rfl
  have z2 : (w1.alloc (.cells #[.string s, .int .i64 off, .slice sa xs.length cap] 24)).cell? ⟨w1.heap.size, 2, none⟩ = some (.slice sa xs.length cap) := by rw [World.cell?_alloc_at _ _ _ _ rfl]; rfl
  have zl : w1.heap.size < (w1.alloc (.cells #[.string s, .int .i64 off, .slice sa xs.length cap] 24)).heap.size := by simp
  have hne : w1.heap.size ≠ p := by omega
  have HV := Lib.hid hv
  have HAT := Lib.hid hat
  clear hown hd1 hb1 hbA hv hat HD HB0 HQ0 HQ1
  generalize hL : xs.length = len at *
  have HL := Lib.hid hL
  clear hL
  go_wp2_with fail
  generalize w1.alloc (.cells #[.string s, .int .i64 off, .slice sa len cap] 24) = w2 at *
  generalize w1.heap.size = b5 at *
  have HB2 := Lib.hid hB2
  have HQ2 := Lib.hid hq2
  clear hB2 hq2
  go_wp2_with (first | (go_at_call 32; refine one_go p 6 _ (by decide) (by decide) HD2.out ?_) | fail)
  refine ⟨?_, ?_⟩
  · intro w3 hd3 hb3
    have hq3 := (hb3.block _ (lt_of_heap HQ2.out) (by omega)).trans HQ2.out
    obtain ⟨⟨d0, d1, d2⟩, e0, e1, e2⟩ := cells3_of hq3
    have hr := row_but HO.out hb3 hpB
    have hr2 : w3.ownsRow B 43 2 (.slice sa xs.length cap) xs.length (pcells xs) := by rw [HL.out]; exact hr
    have hfin := SomeZ.res (off := off) (cap := cap) hp hq3 hss (by have := HL.out; omega) (some_cells hpB hr2) hd3 (HB2.out.trans hb3)
    rw [HL.out] at hfin
    have HF := Lib.hid hfin
    have y0 := (hb3.cell (o := 0) zl hne).trans z0
    have y1 := (hb3.cell (o := 1) zl hne).trans z1
    have y2 := (hb3.cell (o := 2) zl hne).trans z2
    have zw := lt_of_heap hq3
    clear hfin hr hr2 hd3 hb3 hq3 z0 z1 z2
    go_wp2_with fail
    refine bodyPost_ret (v := .agg #[.string s, .int .i64 off, .slice sa len cap]) ?_ rfl HF.out
    simp [results, Tryd.results12, go_sem, d0, d1, d2]
  · intro w3 hd3 hb3
    have HQ3 := Lib.hid ((hb3.block _ (lt_of_heap HQ2.out) (by omega)).trans HQ2.out)
    have hr := row_but HO.out hb3 hpB
    have hr2 : w3.ownsRow B 43 2 (.slice sa xs.length cap) xs.length (pcells xs) := by rw [HL.out]; exact hr
    have hC := odd_any w3 hss HV.out (by have := HL.out; omega) HAT.out hr2 hd3
    rw [HL.out] at hC
    have HC := Lib.hid hC
    have y0 := (hb3.cell (o := 0) zl hne).trans z0
    have y1 := (hb3.cell (o := 1) zl hne).trans z1
    have y2 := (hb3.cell (o := 2) zl hne).trans z2
    have HB3 := Lib.hid (HB2.out.trans hb3)
    clear hC hr hr2 hd3 hb3 z0 z1 z2
    go_wp2_with (first | (go_at_call 33; refine HC.out.mono ?_) | fail)
    rintro e w4 ⟨s', off', a', cap', xs', rfl, h2, h3, h4, h5, h6⟩
    have hq4 := (h6.block _ (lt_of_heap HQ3.out) (by omega)).trans HQ3.out
    obtain ⟨⟨d0, d1, d2⟩, e0, e1, e2⟩ := cells3_of hq4
    have zw := lt_of_heap hq4
    have HF := Lib.hid (SomeZ.res (off := off') (cap := cap') hp hq4 h2 h3 h4 h5 (HB3.out.trans h6))
    clear h2 h3 h4 h5 h6 hq4 y0 y1 y2
    generalize xs'.length = len' at *
    go_wp2_with fail
    refine bodyPost_ret (v := .agg #[.string s', .int .i64 off', .slice a' len' cap']) ?_ rfl HF.out
    simp [results, Tryd.results12, go_sem, d0, d1, d2]
end Go.Proofs.YtllcoocllkaanaaDoor
