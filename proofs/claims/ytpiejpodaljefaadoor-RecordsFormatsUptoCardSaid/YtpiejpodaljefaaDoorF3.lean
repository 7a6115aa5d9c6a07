import Derived.Test.YtpiejpodaljefaaDoorF2
import Derived.Test.YtpiejpodaljefaaDoorBuild
import Derived.Test.YtpiejpodaljefaaDoorT6
namespace Go.Proofs.YtpiejpodaljefaaDoor
open Go.RowKit

theorem rowF_keep {w w' : World} {base : Nat} {e : TypeId} {size : Nat} {v : Value} {n : Nat} {xs : List Value} (h : w.ownsRowF base e size v n xs) (hk : ∀ g, v.ownBlock = some g → w'.heap[g]? = w.heap[g]?) : w'.ownsRowF base e size v n xs := by
  obtain ⟨h1, h2⟩ := id h
  refine ⟨h1, ?_⟩
  rcases h2 with h2 | ⟨g, cap, cur, fz, hv, hg, hh, r⟩
  · exact Or.inl h2
  · exact Or.inr ⟨g, cap, cur, fz, hv, hg, by rw [hk g (by rw [hv]; rfl)]; exact hh, r⟩
/-- a builder of texts -/
def BldW (B b : Nat) (t : L8) (w : World) : Prop := Lib.IsBuilderF 66 5 B b (Lib.byteCells t) w
theorem bldAt_keep {w w' : World} {B b : Nat} {p : Value} {bs : List Value} (h : Lib.BuilderAtF 66 5 B b p bs w) (hk : ∀ g c T fz, B ≤ g → (T = 66 ∨ T = 5) → w.heap[g]? = some (.cells c T fz) → w'.heap[g]? = w.heap[g]?) : Lib.BuilderAtF 66 5 B b p bs w' := by
  obtain ⟨hB, v, hb, hown, hne⟩ := h
  refine ⟨hB, v, ?_, ?_, hne⟩
  · rw [hk b _ 66 _ hB (Or.inl rfl) hb]; exact hb
  · refine rowF_keep hown fun g hg => ?_
    obtain ⟨c, fz, hc⟩ := Lib.ownsRowF_kind hown g hg
    exact hk g c 5 fz (hown.lt g hg).1 (Or.inr rfl) hc
theorem BldW.keep {w w' : World} {B b : Nat} {t : L8} (h : BldW B b t w) (hk : ∀ g c T fz, B ≤ g → (T = 66 ∨ T = 5) → w.heap[g]? = some (.cells c T fz) → w'.heap[g]? = w.heap[g]?) : BldW B b t w' :=
  h.elim (fun x => .inl (bldAt_keep x hk)) (fun x => .inr (bldAt_keep x hk))
theorem BldW.below {w w' : World} {B b : Nat} {t : L8} (h : BldW B b t w) (hb : Below w.heap.size w w') : BldW B b t w' := h.keep fun g _ _ _ _ _ hc => hb.block g (lt_of_heap hc)
/-- a store into a row of another kind -/
theorem BldW.set {w : World} {B b g o : Nat} {t : L8} {cs : Array Value} {T : TypeId} {fz : Nat × Nat} (h : BldW B b t w) (hg : w.heap[g]? = some (.cells cs T fz)) (h1 : T ≠ 66) (h2 : T ≠ 5) (v : Value) : BldW B b t (w.setCell ⟨g, o, none⟩ v) :=
  h.keep fun k c T' fz' _ hT hc => heap_oth _ _ _ _ _ (fun e => by
    subst e
    rw [hg] at hc
    simp only [Option.some.injEq, Obj.cells.injEq] at hc
    rcases hT with rfl | rfl
    · exact h1 hc.2.1
    · exact h2 hc.2.1)
theorem BldW.lt {w : World} {B b : Nat} {t : L8} (h : BldW B b t w) : B ≤ b ∧ b < w.heap.size := by
  rcases h with ⟨hB, v, hb, _⟩ | ⟨hB, v, hb, _⟩
  · exact ⟨hB, lt_of_heap hb⟩
  · exact ⟨hB, lt_of_heap hb⟩
theorem BldW.start (w : World) : BldW w.heap.size w.heap.size [] (w.alloc (.cells #[.pointer none, .slice none 0 0] 66)) := Lib.IsBuilderF.of (Lib.fresh_isBuilder 66 5 w)

/-- strings that lie in a row -/
def StrAt (B : Nat) (w : World) (a : Option Addr) (xs : List ByteArray) : Prop :=
  xs = [] ∨ ∃ b off, a = some ⟨b, off, none⟩ ∧ B ≤ b ∧ ∀ j (h : j < xs.length), w.cell? ⟨b, off + j, none⟩ = some (.string xs[j])
theorem StrAt.keep {B : Nat} {w w' : World} {a : Option Addr} {xs : List ByteArray} (h : StrAt B w a xs) (hk : ∀ g, B ≤ g → g < w.heap.size → w'.heap[g]? = w.heap[g]?) : StrAt B w' a xs := by
  rcases h with h | ⟨b, off, ha, hB, hc⟩
  · exact Or.inl h
  · exact Or.inr ⟨b, off, ha, hB, fun j hj => by rw [World.cell?_of_block (w := w) (a := ⟨b, off + j, none⟩) (hk b hB (lt_of_cell (hc j hj)))]; exact hc j hj⟩
/-- a row's slice, its capacity, its strings -/
abbrev RowS := Option Addr × Nat × List ByteArray
/-- a value that reads as a list of lists of strings -/
def LstW (B : Nat) (w : World) (v : Value) (L : List RowS) : Prop :=
  ∃ a c, v = .slice a L.length c ∧ L.length ≤ c ∧ c ≤ 9223372036854775807 ∧ (L = [] ∨ ∃ b off, a = some ⟨b, off, none⟩ ∧ B ≤ b ∧ ∀ j (h : j < L.length), w.cell? ⟨b, off + j, none⟩ = some (.slice (L[j]).1 (L[j]).2.2.length (L[j]).2.1)) ∧
    ∀ x ∈ L, StrAt B w x.1 x.2.2 ∧ x.2.2.length ≤ x.2.1 ∧ x.2.1 ≤ 9223372036854775807
theorem LstW.keep {B : Nat} {w w' : World} {v : Value} {L : List RowS} (h : LstW B w v L) (hk : ∀ g, B ≤ g → g < w.heap.size → w'.heap[g]? = w.heap[g]?) : LstW B w' v L := by
  obtain ⟨a, c, h1, h2, h3, h4, h5⟩ := h
  refine ⟨a, c, h1, h2, h3, ?_, fun x hx => ⟨(h5 x hx).1.keep hk, (h5 x hx).2⟩⟩
  rcases h4 with h | ⟨b, off, ha, hB, hc⟩
  · exact Or.inl h
  · exact Or.inr ⟨b, off, ha, hB, fun j hj => by rw [World.cell?_of_block (w := w) (a := ⟨b, off + j, none⟩) (hk b hB (lt_of_cell (hc j hj)))]; exact hc j hj⟩
theorem LstW.below {B : Nat} {w w' : World} {v : Value} {L : List RowS} (h : LstW B w v L) (hb : Below w.heap.size w w') : LstW B w' v L := h.keep fun g _ hg => hb.block g hg
theorem LstW.but {B p : Nat} {w w' : World} {v : Value} {L : List RowS} (h : LstW B w v L) (hb : But p w w') (hp : p < B) : LstW B w' v L := h.keep fun g hB hg => hb.block g hg (by omega)
theorem row_set {w : World} {B g n cap size j : Nat} {e : TypeId} {xs : List Value} (h : w.ownsRow B e size (.slice (some ⟨g, 0, none⟩) n cap) n xs) (u : Value) : (w.setCell ⟨g, j, none⟩ u).ownsRow B e size (.slice (some ⟨g, 0, none⟩) n cap) n (xs.set j u) := by
  obtain ⟨h1, h2⟩ := h
  refine ⟨by rw [List.length_set]; exact h1, ?_⟩
  rcases h2 with ⟨h2, _⟩ | ⟨g', cap', cur, hv, hg, hh, r1, r2, r3, r4⟩
  · cases h2
  · cases hv
    refine Or.inr ⟨g, cap, cur.setIfInBounds j u, rfl, hg, heap_setCell_same _ _ _ _ _ _ hh, r1, r2, by simpa using r3, ?_⟩
    rw [Array.toList_setIfInBounds, List.take_set, r4]
/-- the lists of bytes -/
def rowB (x : RowS) : List L8 := x.2.2.map (·.data.toList)
def lstB (L : List RowS) : List (List L8) := L.map rowB
end Go.Proofs.YtpiejpodaljefaaDoor
