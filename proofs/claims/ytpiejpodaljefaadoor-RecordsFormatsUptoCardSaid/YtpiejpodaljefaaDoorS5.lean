import Derived.Test.YtpiejpodaljefaaDoorS3
import Derived.Test.YtpiejpodaljefaaDoorR6
import Derived.Deep.DeepCutAuto
import Derived.Deep.RegionWith
namespace Go.Proofs.YtpiejpodaljefaaDoor
open Go.RowKit

theorem cell_one_at (w : World) (x : Value) (T : TypeId) (H : Nat) (hH : w.heap.size = H) : ∀ j u, ([x] : List Value)[j]? = some u → (w.alloc (.cells #[x] T)).cell? ((⟨H, 0, none⟩ : Addr).add j) = some u := by
  subst hH; exact cell_one_new w x T
theorem FW.grown {p : Nat} {s : ByteArray} {i : Nat} {d q : UInt8} {w : World} {j l' b' : Nat} {t : L8} {k : Nat} {qd : Bool} {wr W : World} {row : Option Nat} (h : FW p s i d q w j l' b' t k qd wr) (hg : wr.grownBy W row) (hrow : ∀ g, row = some g → w.heap.size + 1 + 1 + 1 + 1 ≤ g) : FW p s i d q w j l' b' t k qd W := by
  have hpb := h.pb
  have keep : ∀ g, g < w.heap.size + 1 + 1 + 1 + 1 → g < wr.heap.size → W.heap[g]? = wr.heap[g]? := fun g hg1 hg2 => hg.block g hg2 (fun e => by have := hrow g e.symm; omega)
  refine ⟨⟨(keep p (by omega) (lt_of_heap h.rd.1)).trans h.rd.1, h.rd.2⟩, (keep _ (by omega) (lt_of_heap h.dx)).trans h.dx, (keep _ (by omega) (lt_of_heap h.rf)).trans h.rf, (keep _ (by omega) (lt_of_heap h.rp)).trans h.rp, (keep _ (by omega) (lt_of_heap h.ff)).trans h.ff, ?_, h.pb, h.ij⟩
  exact ⟨hg.os.trans h.but.os, hg.tape.trans h.but.tape, hg.output.trans h.but.output, Nat.le_trans h.but.size hg.size, fun k hk hp => (keep k (by omega) (by have := h.but.size; omega)).trans (h.but.block k hk hp)⟩
theorem FW.exit {p : Nat} {s : ByteArray} {i : Nat} {d q : UInt8} {w : World} {j l' b' : Nat} {t : L8} {k : Nat} {qd : Bool} {wr : World} (h : FW p s i d q w j l' b' t k qd wr) (o : L8) : FW p s i d q w j l' b' o k qd (wr.setCell ⟨w.heap.size + 1 + 1 + 1, 0, none⟩ (.string (arr o))) :=
  h.field (But.setCell _ _ _ _) (h.ff.set0 (arr o))
/-- the memory in the loop of the reference's quoted field -/
structure GW (p : Nat) (s : ByteArray) (i l k : Nat) (d q : UInt8) (w : World) (j l' b' : Nat) (o : L8) (v : Value) (wr : World) : Prop where
  fw : FW p s i d q w j l' b' [] k true wr
  pr : PrAt wr (w.heap.size + 1 + 1 + 1 + 1) l k 8
  row : wr.ownsRow (w.heap.size + 1 + 1 + 1 + 1 + 1) 5 1 v o.length (Lib.byteCells o)
theorem GW.below {p : Nat} {s : ByteArray} {i l k : Nat} {d q : UInt8} {w : World} {j l' b' : Nat} {o : L8} {v : Value} {wr W : World} (h : GW p s i l k d q w j l' b' o v wr) (hb : Below wr.heap.size wr W) : GW p s i l k d q w j l' b' o v W :=
  ⟨h.fw.below hb, h.pr.below hb, row_below h.row hb⟩
theorem GW.moved {p : Nat} {s : ByteArray} {i l k : Nat} {d q : UInt8} {w : World} {j l' b' j2 l2 b2 : Nat} {o : L8} {v : Value} {wr W : World} (h : GW p s i l k d q w j l' b' o v wr) (hb : But p wr W) (hr : RrAt W p s j2 l2 b2) (hj : j ≤ j2) : GW p s i l k d q w j2 l2 b2 o v W := by
  have := h.fw.pb
  exact ⟨h.fw.moved hb hr hj, h.pr.but hb (by omega), row_but h.row hb (by omega)⟩
theorem GW.grown {p : Nat} {s : ByteArray} {i l k : Nat} {d q : UInt8} {w : World} {j l' b' : Nat} {o o2 : L8} {v v2 : Value} {wr W : World} (h : GW p s i l k d q w j l' b' o v wr) (hg : wr.grownBy W v.ownBlock) (hr : W.ownsRow (w.heap.size + 1 + 1 + 1 + 1 + 1) 5 1 v2 o2.length (Lib.byteCells o2)) : GW p s i l k d q w j l' b' o2 v2 W := by
  have hlow : ∀ g, v.ownBlock = some g → w.heap.size + 1 + 1 + 1 + 1 + 1 ≤ g := fun g hk => (h.row.lt g hk).1
  exact ⟨h.fw.grown hg (fun g e => by have := hlow g e; omega), (hg.block _ (lt_of_heap h.pr) (fun e => by have := hlow _ e.symm; omega)).trans h.pr, hr⟩
theorem GW.start {p : Nat} {s : ByteArray} {i l b k : Nat} {d q : UInt8} {w W : World} (h : FW p s i d q w i l b [] k true W) (hz : W.heap.size = w.heap.size + 1 + 1 + 1 + 1) : GW p s i l k d q w i l b [] (.slice none 0 0) (W.alloc (.cells #[.int .i64 0, .int .i64 l, .int .i64 k, .int .i64 8] 77)) := by
  have e := heap_alloc_new W (.cells #[.int .i64 0, .int .i64 l, .int .i64 k, .int .i64 8] 77)
  rw [hz] at e
  exact ⟨h.below ((Below.refl _ _).alloc (Nat.le_refl _) _), e, World.ownsRow_nil _ _ _ _⟩

theorem rquot_unclosed {p : Nat} {s : ByteArray} {i l b j l' b' : Nat} {d q : UInt8} {w wr W : World} {o : L8} {v : Value} (hi : i < s.size) (hq : ((s[i].toNat : Int) == (q.toNat : Int)) = true) (h : GW p s i l (i - b + 1) d q w j l' b' o v wr) (ht : QTot q s i l b j l' b' o) (hj : ¬ j < s.size) (hb : Below w.heap.size wr W) (a1 : ByteArray) (a2 : Int) (a3 : Bool) :
    RFieldOut p s i (fieldL d q ⟨s.data.toList.drop i, l, i - b + 1⟩) w (.returned (.tuple #[.agg #[.string a1, .int .i64 a2, .bool a3], .agg #[.int .i64 0, .int .i64 l, .int .i64 (i - b + 1 : Nat), .int .i64 8], .bool false])) W := by
  obtain ⟨e1, e2⟩ := quot_head hi hq
  unfold QTot at ht
  rw [drop_end s j (by omega)] at ht
  obtain ⟨g1, g2⟩ := h.fw.fin hb
  rw [fieldL_quot e1, e2, ← ht]
  simp only [quotL, if_true]
  exact ⟨⟨a1, a2, a3, rfl⟩, ⟨j, l', b', g1, by rw [drop_end s j (by omega)], h.fw.ij⟩, g2⟩
theorem rquot_well {p : Nat} {s : ByteArray} {i l b j l' b' : Nat} {d q : UInt8} {w wr W : World} {o : L8} (hi : i < s.size) (hq : ((s[i].toNat : Int) == (q.toNat : Int)) = true) (h : FW p s i d q w j l' b' o (i - b + 1) true wr)
    (hz : quotL q (s.data.toList.drop (i + 1)) l (i - b + 1 + 1) [] = ⟨true, o, s.data.toList.drop j, l', j - b' + 1⟩) (hs : endL (s.data.toList.drop j) = true ∨ (s.data.toList.drop j).head? = some d) (hb : Below w.heap.size wr W) :
    RFieldOut p s i (fieldL d q ⟨s.data.toList.drop i, l, i - b + 1⟩) w (.returned (.tuple #[.agg #[.string (arr o), .int .i64 (i - b + 1 : Nat), .bool true], .agg #[.int .i64 0, .int .i64 0, .int .i64 0, .int .i64 0], .bool true])) W := by
  obtain ⟨e1, e2⟩ := quot_head hi hq
  obtain ⟨g1, g2⟩ := h.fin hb
  rw [fieldL_quot e1, e2, hz]
  simp only [Bool.true_eq_false, if_false, if_pos hs]
  exact ⟨rfl, ⟨j, l', b', g1, rfl, h.ij⟩, g2⟩
theorem rquot_ill {p : Nat} {s : ByteArray} {i l b j l' b' : Nat} {d q : UInt8} {w wr W : World} {o : L8} (hi : i < s.size) (hq : ((s[i].toNat : Int) == (q.toNat : Int)) = true) (h : FW p s i d q w j l' b' o (i - b + 1) true wr)
    (hz : quotL q (s.data.toList.drop (i + 1)) l (i - b + 1 + 1) [] = ⟨true, o, s.data.toList.drop j, l', j - b' + 1⟩) (hs : ¬ (endL (s.data.toList.drop j) = true ∨ (s.data.toList.drop j).head? = some d)) (hb : Below w.heap.size wr W) (a1 : ByteArray) (a2 : Int) (a3 : Bool) :
    RFieldOut p s i (fieldL d q ⟨s.data.toList.drop i, l, i - b + 1⟩) w (.returned (.tuple #[.agg #[.string a1, .int .i64 a2, .bool a3], .agg #[.int .i64 0, .int .i64 l', .int .i64 ((j : Int) - (b' : Int) + 1), .int .i64 8], .bool false])) W := by
  obtain ⟨e1, e2⟩ := quot_head hi hq
  obtain ⟨g1, g2⟩ := h.fin hb
  have hbj := h.rd.2.2.2.1
  rw [fieldL_quot e1, e2, hz]
  simp only [Bool.true_eq_false, if_false, if_neg hs]
  refine ⟨⟨a1, a2, a3, ?_⟩, ⟨j, l', b', g1, rfl, h.ij⟩, g2⟩
  show Ending.returned _ = _
  rw [show ((j - b' + 1 : Nat) : Int) = (j : Int) - (b' : Int) + 1 by omega]
  rfl
theorem RrAt.set23 {w : World} {p : Nat} {s : ByteArray} {j l b : Nat} (h : RrAt w p s j l b) (hj : j < s.size) : RrAt (((w.setCell ⟨p, 2, none⟩ (.int .i64 (l + 1 : Nat))).setCell ⟨p, 3, none⟩ (.int .i64 (j + 1 : Nat))).setCell ⟨p, 1, none⟩ (.int .i64 (j + 1 : Nat))) p s (j + 1) (l + 1) (j + 1) := by
  refine ⟨by rw [heap_set _ _ _ _ _ _ (heap_set _ _ _ _ _ _ (heap_set _ _ _ _ _ _ h.1))]; rfl, h.2.1, by omega, Nat.le_refl _, ?_⟩
  have := h.2.2.2.2; omega
end Go.Proofs.YtpiejpodaljefaaDoor
