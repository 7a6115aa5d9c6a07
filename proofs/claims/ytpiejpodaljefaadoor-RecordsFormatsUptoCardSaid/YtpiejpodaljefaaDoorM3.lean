import Derived.Test.YtpiejpodaljefaaDoorM1
import Derived.Test.YtpiejpodaljefaaDoorR7
namespace Go.Proofs.YtpiejpodaljefaaDoor
open Go.RowKit

/-- The signs of made fields. -/
def sgn : ByteArray := ⟨#[97, 98, 44, 59, 34, 39, 35, 32, 10, 13]⟩
/-- A made field. -/
def SmallS (s : ByteArray) : Prop := s.size ≤ 6 ∧ ∀ x ∈ s.data.toList, x ∈ sgn.data.toList
/-- A row's slice, its capacity, its strings. -/
abbrev RowM := Option Addr × Nat × List ByteArray
def slc (x : RowM) : Value := .slice x.1 x.2.2.length x.2.1
/-- Rows that are being collected beside dice. -/
structure FlW (p : Nat) (w : World) (L : List RowM) (v : Value) (wr : World) : Prop where
  dc : DiceAt wr p
  but : But p w wr
  pb : p < w.heap.size
  row : wr.ownsRow w.heap.size 45 1 v L.length (L.map slc)
  els : ∀ x ∈ L, wr.ownsRow w.heap.size 9 1 (slc x) x.2.2.length (x.2.2.map Value.string)
  sm : ∀ x ∈ L, 1 ≤ x.2.2.length ∧ x.2.2.length ≤ 5 ∧ ∀ s ∈ x.2.2, SmallS s
theorem FlW.below {p : Nat} {w : World} {L : List RowM} {v : Value} {wr W : World} (h : FlW p w L v wr) (hb : Below wr.heap.size wr W) : FlW p w L v W :=
  ⟨h.dc.below hb, h.but.trans (But.of_below hb), h.pb, row_below h.row hb, fun x hx => row_below (h.els x hx) hb, h.sm⟩
theorem FlW.moved {p : Nat} {w : World} {L : List RowM} {v : Value} {wr W : World} (h : FlW p w L v wr) (hd : DiceAt W p) (hb : But p wr W) : FlW p w L v W :=
  ⟨hd, h.but.trans hb, h.pb, row_but h.row hb h.pb, fun x hx => row_but (h.els x hx) hb h.pb, h.sm⟩
theorem FlW.grown {p : Nat} {w : World} {L L2 : List RowM} {v v2 : Value} {wr W : World} (h : FlW p w L v wr) (hg : wr.grownBy W v.ownBlock) (hr : W.ownsRow w.heap.size 45 1 v2 L2.length (L2.map slc))
    (h2 : ∀ x ∈ L2, wr.ownsRow w.heap.size 9 1 (slc x) x.2.2.length (x.2.2.map Value.string)) (h3 : ∀ x ∈ L2, 1 ≤ x.2.2.length ∧ x.2.2.length ≤ 5 ∧ ∀ s ∈ x.2.2, SmallS s) : FlW p w L2 v2 W :=
  have hlow : ∀ k, v.ownBlock = some k → w.heap.size ≤ k := fun k hk => (h.row.lt k hk).1
  ⟨h.dc.grown hg fun k hk => by have := hlow k hk; have := h.pb; omega, h.but.grown1 hg hlow, h.pb, hr, fun x hx => row_kept (h2 x hx) h.row (by decide) hg, h3⟩

/-- A row that is being collected beside rows. -/
structure FlI (p : Nat) (w : World) (L : List RowM) (v : Value) (B1 : Nat) (o : List ByteArray) (vi : Value) (wr : World) : Prop where
  fl : FlW p w L v wr
  row : wr.ownsRow B1 9 1 vi o.length (o.map Value.string)
  low : ∀ x ∈ L, ∀ k, (slc x).ownBlock = some k → k < B1
  hB : w.heap.size ≤ B1
  sm : ∀ s ∈ o, SmallS s
  hs : B1 ≤ wr.heap.size
theorem FlI.below {p : Nat} {w : World} {L : List RowM} {v : Value} {B1 : Nat} {o : List ByteArray} {vi : Value} {wr W : World} (h : FlI p w L v B1 o vi wr) (hb : Below wr.heap.size wr W) : FlI p w L v B1 o vi W :=
  ⟨h.fl.below hb, row_below h.row hb, h.low, h.hB, h.sm, Nat.le_trans h.hs hb.size⟩
theorem FlI.moved {p : Nat} {w : World} {L : List RowM} {v : Value} {B1 : Nat} {o : List ByteArray} {vi : Value} {wr W : World} (h : FlI p w L v B1 o vi wr) (hd : DiceAt W p) (hb : But p wr W) : FlI p w L v B1 o vi W :=
  ⟨h.fl.moved hd hb, row_but h.row hb (by have := h.fl.pb; have := h.hB; omega), h.low, h.hB, h.sm, Nat.le_trans h.hs hb.size⟩
theorem FlI.grown {p : Nat} {w : World} {L : List RowM} {v : Value} {B1 : Nat} {o o2 : List ByteArray} {vi v2 : Value} {wr W : World} (h : FlI p w L v B1 o vi wr) (hg : wr.grownBy W vi.ownBlock)
    (hr : W.ownsRow B1 9 1 v2 o2.length (o2.map Value.string)) (hs : ∀ s ∈ o2, SmallS s) : FlI p w L v B1 o2 v2 W :=
  have hlow : ∀ k, vi.ownBlock = some k → B1 ≤ k := fun k hk => (h.row.lt k hk).1
  ⟨⟨h.fl.dc.grown hg fun k hk => by have := hlow k hk; have := h.fl.pb; have := h.hB; omega, h.fl.but.grown1 hg fun k hk => Nat.le_trans h.hB (hlow k hk), h.fl.pb, row_kept h.fl.row h.row (by decide) hg,
    fun x hx => (h.fl.els x hx).kept hg (by
      cases hv : (slc x).ownBlock with
      | none => exact Or.inl rfl
      | some k => exact Or.inr (fun e => by have := h.low x hx k hv; have := hlow k e.symm; omega)), h.fl.sm⟩, hr, h.low, h.hB, hs, Nat.le_trans h.hs hg.size⟩
theorem FlI.start {p : Nat} {w : World} {L : List RowM} {v : Value} {wr : World} (h : FlW p w L v wr) : FlI p w L v wr.heap.size [] (.slice none 0 0) wr :=
  ⟨h, World.ownsRow_nil _ _ _ _, fun x hx k hk => ((h.els x hx).lt k hk).2, h.but.size, by simp, Nat.le_refl _⟩
theorem infoS : (Tryd.prog.info? 9).map (fun i => (i.zero, i.size, i.bytes)) = some (some (.string ⟨#[]⟩), 1, 16) := by kernel_rfl
theorem infoL : (Tryd.prog.info? 45).map (fun i => (i.zero, i.size, i.bytes)) = some (some (.slice none 0 0), 1, 24) := by kernel_rfl
end Go.Proofs.YtpiejpodaljefaaDoor
