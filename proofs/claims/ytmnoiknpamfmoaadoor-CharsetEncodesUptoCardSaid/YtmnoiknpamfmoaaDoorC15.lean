import Derived.Test.YtmnoiknpamfmoaaDoorC14
import Derived.Test.YtmnoiknpamfmoaaDoorFrame
import Derived.Test.YtmnoiknpamfmoaaDoorRows
import Derived.Lib.LaidU8T
namespace Go.Proofs.YtmnoiknpamfmoaaDoor
open Go Go.ChangeShapes Go.WideShapes Go.ChangeAt Go.RowKit Go.WideMaps Go.WideElems Go.Joins CS

theorem extra : U8Extra Tryd.prog valL_ren := { n3 := by kernel_rfl, n4 := by kernel_rfl, y3 := by kernel_rfl, y4 := by kernel_rfl, c5 := by kernel_rfl, c119 := by kernel_rfl, c138 := by kernel_rfl }
theorem first_eq : Rows.laid_unicode_utf8_first = Lib.firstData := by kernel_rfl
theorem accept_eq : (Rows.laid_unicode_utf8_acceptRanges : DataW Unit) = Lib.acceptData := by kernel_rfl

theorem tabs_of {W : World} (h : laidMet Tryd.prog [("unicode/utf8.acceptRanges", Rows.laid_unicode_utf8_acceptRanges), ("unicode/utf8.first", Rows.laid_unicode_utf8_first)] W) : Lib.Utf8Tabs 0 1 W := by
  refine utf8Tabs_of_readsT (U8Types.of196 valL) extra (w := W) ?_ ?_
  · have := Lib.laidMet.reads h (n := "unicode/utf8.first") (d := Rows.laid_unicode_utf8_first) (by simp)
    rw [first_eq] at this
    exact this
  · have := Lib.laidMet.reads h (n := "unicode/utf8.acceptRanges") (d := Rows.laid_unicode_utf8_acceptRanges) (by simp)
    rw [accept_eq] at this
    exact this

theorem arr_of (s : ByteArray) : arr s.data.toList = s := by cases s; simp [arr]

theorem wf_u8 {n : Int} (h : (Lit.int .u8 n).wf = true) : 0 ≤ n ∧ n < 256 := by
  simp [Lit.wf, IntKind.min, IntKind.max, IntKind.signed, IntKind.bits] at h
  omega

/-- A slice of bytes that came in. -/
theorem open_bytes {H : Type} {enc : TypeId × Value → H} {W : World} {r : Reach} {b0 base : Nat} {held : Bool} {v : Value} {d : DataW H} {p : List MemPlace}
    (hv : Value.okWide Tryd.prog W r b0 22 v) (h : DataW.Trod enc Tryd.prog W base (fun _ => true) held 22 v d p) :
    ∃ l : L8, BSlice W v l ∧ l.length ≤ 9223372036854775807 ∧ (d = .nil ∧ l = [] ∨ ∃ elems spare, d = .slice elems spare ∧ elems.length = l.length) := by
  obtain ⟨a1, len, cap, rfl⟩ := okWide_slice Tryd.underlying22 hv
  obtain ⟨fuel, hf⟩ := h
  rcases open_ints Tryd.underlying22 Tryd.underlying5 (by kernel_rfl) hf with ⟨hcs, hx⟩ | ⟨a, len', cap', zs, hcs, _, hl, hm, hz, hx, hcell, hwz⟩
  · simp [Value.cells] at hcs
    obtain ⟨rfl, rfl, rfl⟩ := hcs
    simp only [Prod.mk.injEq] at hx
    exact ⟨[], Or.inl ⟨_, _, rfl, rfl⟩, Nat.zero_le _, Or.inl ⟨hx.1, rfl⟩⟩
  · simp [Value.cells] at hcs
    obtain ⟨rfl, rfl, rfl⟩ := hcs
    simp only [Prod.mk.injEq] at hx
    simp only [if_true] at hz
    have hlen : ((zs.take len).map fun n => UInt8.ofNat n.toNat).length = len := by simp; omega
    refine ⟨(zs.take len).map fun n => UInt8.ofNat n.toNat, ?_, by rw [hlen]; unfold maxLen at hm; omega, Or.inr ⟨_, _, hx.1, by rw [hlen]; simp [lits]; omega⟩⟩
    by_cases h0 : len = 0
    · subst h0
      exact Or.inl ⟨_, _, rfl, by simp⟩
    · obtain ⟨b, off, rfl, hcl⟩ := ints_at hcell (by omega)
      refine Or.inr ⟨b, off, cap, by rw [hlen], by rw [hlen]; exact hl, fun i hi => ?_⟩
      rw [hlen] at hi
      rw [hcl i (by omega)]
      have hw := wf_u8 (hwz (zs.getD i 0) (by rw [List.getD_eq_getElem?_getD, List.getElem?_eq_getElem (by omega)]; simp))
      have e : ((zs.take len).map fun n => UInt8.ofNat n.toNat).getD i 0 = UInt8.ofNat (zs.getD i 0).toNat := by
        simp [List.getD, hi, show i < zs.length by omega]
      rw [e]
      have : ((UInt8.ofNat (zs.getD i 0).toNat).toNat : Int) = zs.getD i 0 := by
        rw [UInt8.toNat_ofNat']; omega
      rw [this]

end Go.Proofs.YtmnoiknpamfmoaaDoor
