import Derived.Test.YtpiejpodaljefaaDoorFrame
import Derived.Test.YtpiejpodaljefaaDoorG2
namespace Go.Proofs.YtpiejpodaljefaaDoor
open Go Go.ChangeShapes Go.WideShapes Go.ChangeAt Go.RowKit Go.WideMaps Go.WideElems Go.Joins

set_option maxRecDepth 100000 in
theorem open_dialect {H : Type} {enc : TypeId × Value → H} {W : World} {r : Reach} {b0 base : Nat} {held : Bool} {v : Value} {d : DataW H} {p : List MemPlace}
    (hv : Value.okWide Tryd.prog W r b0 23 v) (h : DataW.Trod enc Tryd.prog W base (fun _ => true) held 23 v d p) :
    ∃ x y : UInt8, v = .agg #[.int .u8 x.toNat, .int .u8 y.toNat] := by
  obtain ⟨v0, v1, y0, y1, m, rfl, _, _, h0, h1⟩ := open_agg2 Tryd.underlying23 (by kernel_rfl) (by kernel_rfl) hv h
  obtain ⟨a, e0, _, wa⟩ := DataW.trod_int Tryd.underlying5 h0
  obtain ⟨b, e1, _, wb⟩ := DataW.trod_int Tryd.underlying5 h1
  simp only [List.cons.injEq, and_true] at e0 e1
  subst e0 e1
  have ba := bounds_u8 wa
  have bb := bounds_u8 wb
  refine ⟨UInt8.ofNat a.toNat, UInt8.ofNat b.toNat, ?_⟩
  rw [show ((UInt8.ofNat a.toNat).toNat : Int) = a by rw [UInt8.toNat_ofNat']; omega, show ((UInt8.ofNat b.toNat).toNat : Int) = b by rw [UInt8.toNat_ofNat']; omega]

theorem max_of {W : World} (h : W.ShapedOpen Tryd.prog) : MaxAt W := Tryd.laysM155.s1_3 W h
end Go.Proofs.YtpiejpodaljefaaDoor
