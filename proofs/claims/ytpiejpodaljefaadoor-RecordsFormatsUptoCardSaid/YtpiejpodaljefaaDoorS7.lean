import Derived.Test.YtpiejpodaljefaaDoorS6
import Derived.Test.YtpiejpodaljefaaDoorS4
namespace Go.Proofs.YtpiejpodaljefaaDoor
open Go.RowKit

theorem rfield_any (p : Nat) (s : ByteArray) (i l b : Nat) (d q : UInt8) (w : World) (hR : RrAt w p s i l b) (hq10 : (q == 10) = false) :
    Calls Tryd.prog 59 #[.pointer (some ⟨p, 0, none⟩), .agg #[.int .u8 d.toNat, .int .u8 q.toNat]] w (RFieldOut p s i (fieldL d q ⟨s.data.toList.drop i, l, i - b + 1⟩) w) := by
  by_cases hlt : i < s.size
  · cases hq : ((s[i].toNat : Int) == (q.toNat : Int))
    · exact rfield_plain p s i l b d q w hR (by rw [drop_at s i hlt]; rw [beq_cast2] at hq; simpa using hq)
    · exact rfield_quot p s i l b d q w hR hlt hq hq10
  · exact rfield_plain p s i l b d q w hR (by rw [drop_end s i (by omega)]; simp)

/-- What became of a record of the reference. -/
def RRecRes (w' : World) (g0 l : Nat) (e : Ending) : List Fld ⊕ Prb → Prop
  | .inl fs => ∃ v, e = .returned (.tuple #[.agg #[.int .i64 l, v], .agg #[.int .i64 0, .int .i64 0, .int .i64 0, .int .i64 0], .bool true]) ∧ w'.ownsRow g0 50 3 v fs.length (fcells fs)
  | .inr x => ∃ (ad : Option Addr) (n c : Nat), e = .returned (.tuple #[.agg #[.int .i64 l, .slice ad n c], .agg #[.int .i64 0, .int .i64 x.1, .int .i64 x.2.1, .int .i64 x.2.2], .bool false])
def RRecOut (p : Nat) (s : ByteArray) (i l : Nat) (z : (List Fld ⊕ Prb) × St) (w : World) (e : Ending) (w' : World) : Prop :=
  RRecRes w' w.heap.size l e z.1 ∧ (∃ j l' b, RrAt w' p s j l' b ∧ z.2 = ⟨s.data.toList.drop j, l', j - b + 1⟩ ∧ i ≤ j) ∧ But p w w'

/-- the memory in the loop of the reference's record -/
structure RRW (p : Nat) (s : ByteArray) (i l : Nat) (d q : UInt8) (w : World) (j l' b' : Nat) (fs : List Fld) (v : Value) (wr : World) : Prop where
  rd : RrAt wr p s j l' b'
  dx : wr.heap[w.heap.size]? = some (.cells #[.int .u8 d.toNat, .int .u8 q.toNat] 23 (0, 0))
  res : wr.heap[w.heap.size + 1]? = some (.cells #[.int .i64 0, .slice none 0 0] 48 (0, 0))
  rp : wr.heap[w.heap.size + 1 + 1]? = some (.cells #[.int .i64 0, .int .i64 0, .int .i64 0, .int .i64 0] 77 (0, 0))
  out : wr.heap[w.heap.size + 1 + 1 + 1]? = some (.cells #[.int .i64 l, v] 48 (0, 0))
  row : wr.ownsRow (w.heap.size + 1 + 1 + 1 + 1) 50 3 v fs.length (fcells fs)
  but : But p w wr
  pb : p < w.heap.size
  ij : i ≤ j
theorem RRW.below {p : Nat} {s : ByteArray} {i l : Nat} {d q : UInt8} {w : World} {j l' b' : Nat} {fs : List Fld} {v : Value} {wr W : World} (h : RRW p s i l d q w j l' b' fs v wr) (hb : Below wr.heap.size wr W) : RRW p s i l d q w j l' b' fs v W :=
  ⟨h.rd.below hb, (hb.block _ (lt_of_heap h.dx)).trans h.dx, (hb.block _ (lt_of_heap h.res)).trans h.res, (hb.block _ (lt_of_heap h.rp)).trans h.rp, (hb.block _ (lt_of_heap h.out)).trans h.out, row_below h.row hb, h.but.trans (But.of_below hb), h.pb, h.ij⟩
theorem RRW.moved {p : Nat} {s : ByteArray} {i l : Nat} {d q : UInt8} {w : World} {j l' b' j2 l2 b2 : Nat} {fs : List Fld} {v : Value} {wr W : World} (h : RRW p s i l d q w j l' b' fs v wr) (hb : But p wr W) (hr : RrAt W p s j2 l2 b2) (hj : j ≤ j2) : RRW p s i l d q w j2 l2 b2 fs v W := by
  have := h.pb
  exact ⟨hr, (hb.block _ (lt_of_heap h.dx) (by omega)).trans h.dx, (hb.block _ (lt_of_heap h.res) (by omega)).trans h.res, (hb.block _ (lt_of_heap h.rp) (by omega)).trans h.rp, (hb.block _ (lt_of_heap h.out) (by omega)).trans h.out, row_but h.row hb (by omega), h.but.trans hb, h.pb, by have := h.ij; omega⟩
/-- a field more -/
theorem RRW.add {p : Nat} {s : ByteArray} {i l : Nat} {d q : UInt8} {w : World} {j l' b' : Nat} {fs : List Fld} {v v2 : Value} {W W' : World} {x : Fld} (h2 : RRW p s i l d q w j l' b' fs v W) (hg : W.grownBy W' v.ownBlock) (hr : W'.ownsRow (w.heap.size + 1 + 1 + 1 + 1) 50 3 v2 (fs ++ [x]).length (fcells (fs ++ [x]))) :
    RRW p s i l d q w j l' b' (fs ++ [x]) v2 (W'.setCell ⟨w.heap.size + 1 + 1 + 1, 1, none⟩ v2) := by
  have hlow : ∀ k, v.ownBlock = some k → w.heap.size + 4 ≤ k := fun k hk => (h2.row.lt k hk).1
  have hpb := h2.pb
  have keep : ∀ k, k < w.heap.size + 4 → k < W.heap.size → W'.heap[k]? = W.heap[k]? := fun k hk hk2 => hg.block k hk2 (fun e => by have := hlow k e.symm; omega)
  refine ⟨⟨?_, h2.rd.2⟩, ?_, ?_, ?_, ?_, ?_, ?_, h2.pb, h2.ij⟩
  · rw [heap_oth _ _ _ _ _ (by omega), keep _ (by omega) (lt_of_heap h2.rd.1)]; exact h2.rd.1
  · rw [heap_oth _ _ _ _ _ (by omega), keep _ (by omega) (lt_of_heap h2.dx)]; exact h2.dx
  · rw [heap_oth _ _ _ _ _ (by omega), keep _ (by omega) (lt_of_heap h2.res)]; exact h2.res
  · rw [heap_oth _ _ _ _ _ (by omega), keep _ (by omega) (lt_of_heap h2.rp)]; exact h2.rp
  · rw [heap_set _ _ _ _ _ _ (by rw [keep _ (by omega) (lt_of_heap h2.out)]; exact h2.out)]; rfl
  · exact row_keep hr (fun g hg2 => heap_oth _ _ _ _ _ (by have := (hr.lt g hg2).1; omega))
  · refine ⟨hg.os.trans h2.but.os, hg.tape.trans h2.but.tape, hg.output.trans h2.but.output, by have := h2.but.size; have := hg.size; simp; omega, fun k hk hp => ?_⟩
    rw [heap_oth _ _ _ _ _ (by omega), keep k (by omega) (by have := h2.but.size; omega)]
    exact h2.but.block k hk hp
theorem RRW.start {p : Nat} {s : ByteArray} {i l b : Nat} {d q : UInt8} {w : World} (hR : RrAt w p s i l b) :
    RRW p s i l d q w i l b [] (.slice none 0 0) ((((w.alloc (.cells #[.int .u8 d.toNat, .int .u8 q.toNat] 23)).alloc (.cells #[.int .i64 0, .slice none 0 0] 48)).alloc (.cells #[.int .i64 0, .int .i64 0, .int .i64 0, .int .i64 0] 77)).alloc (.cells #[.int .i64 l, .slice none 0 0] 48)) := by
  have hp := lt_of_heap hR.1
  have e0 := heap_alloc_new w (.cells #[.int .u8 d.toNat, .int .u8 q.toNat] 23)
  generalize hw0 : w.alloc (.cells #[.int .u8 d.toNat, .int .u8 q.toNat] 23) = w0 at *
  have z0 : w0.heap.size = w.heap.size + 1 := by rw [← hw0]; simp
  have b0 : Below w.heap.size w w0 := by rw [← hw0]; exact (Below.refl _ _).alloc (Nat.le_refl _) _
  have e1 := heap_alloc_new w0 (.cells #[.int .i64 0, .slice none 0 0] 48)
  generalize hw1 : w0.alloc (.cells #[.int .i64 0, .slice none 0 0] 48) = w1 at *
  have z1 : w1.heap.size = w0.heap.size + 1 := by rw [← hw1]; simp
  have b1 : Below w0.heap.size w0 w1 := by rw [← hw1]; exact (Below.refl _ _).alloc (Nat.le_refl _) _
  have e2 := heap_alloc_new w1 (.cells #[.int .i64 0, .int .i64 0, .int .i64 0, .int .i64 0] 77)
  generalize hw2 : w1.alloc (.cells #[.int .i64 0, .int .i64 0, .int .i64 0, .int .i64 0] 77) = w2 at *
  have z2 : w2.heap.size = w1.heap.size + 1 := by rw [← hw2]; simp
  have b2 : Below w1.heap.size w1 w2 := by rw [← hw2]; exact (Below.refl _ _).alloc (Nat.le_refl _) _
  have e3 := heap_alloc_new w2 (.cells #[.int .i64 l, .slice none 0 0] 48)
  have b3 : Below w2.heap.size w2 (w2.alloc (.cells #[.int .i64 l, .slice none 0 0] 48)) := (Below.refl _ _).alloc (Nat.le_refl _) _
  generalize w2.alloc (.cells #[.int .i64 l, .slice none 0 0] 48) = w3 at *
  have f0 := below3 (below3 (below3 b0 b1) b2) b3
  refine ⟨hR.below f0, ?_, ?_, ?_, ?_, World.ownsRow_nil _ _ _ _, But.of_below f0, hp, Nat.le_refl _⟩
  · rw [b3.block _ (by omega), b2.block _ (by omega), b1.block _ (by omega)]; exact e0
  · rw [b3.block _ (by omega), b2.block _ (by omega), ← z0]; exact e1
  · rw [b3.block _ (by omega), show w.heap.size + 1 + 1 = w1.heap.size by omega]; exact e2
  · rw [show w.heap.size + 1 + 1 + 1 = w2.heap.size by omega]; exact e3
theorem RRW.fin {p : Nat} {s : ByteArray} {i l : Nat} {d q : UInt8} {w : World} {j l' b' : Nat} {fs : List Fld} {v : Value} {wr W : World} (h : RRW p s i l d q w j l' b' fs v wr) (hb : Below w.heap.size wr W) : RrAt W p s j l' b' ∧ But p w W :=
  ⟨⟨(hb.block p h.pb).trans h.rd.1, h.rd.2⟩, ⟨hb.os.trans h.but.os, hb.tape.trans h.but.tape, hb.output.trans h.but.output, Nat.le_trans h.but.size hb.size, fun k hk hp => (hb.block k hk).trans (h.but.block k hk hp)⟩⟩
theorem rrec_bad {p : Nat} {s : ByteArray} {i l j l' b' : Nat} {d q : UInt8} {w wr W : World} {fs : List Fld} {v : Value} {z : (List Fld ⊕ Prb) × St} {pr : Prb} (h : RRW p s i l d q w j l' b' fs v wr) (hz : z = (.inr pr, ⟨s.data.toList.drop j, l', j - b' + 1⟩)) (hb : Below w.heap.size wr W) (ad : Option Addr) (n c : Nat) :
    RRecOut p s i l z w (.returned (.tuple #[.agg #[.int .i64 l, .slice ad n c], .agg #[.int .i64 0, .int .i64 pr.1, .int .i64 pr.2.1, .int .i64 pr.2.2], .bool false])) W := by
  subst hz
  obtain ⟨g1, g2⟩ := h.fin hb
  exact ⟨⟨ad, n, c, rfl⟩, ⟨j, l', b', g1, rfl, h.ij⟩, g2⟩
theorem rrec_good {p : Nat} {s : ByteArray} {i l j l' b' : Nat} {d q : UInt8} {w wr W : World} {fs : List Fld} {v : Value} {z : (List Fld ⊕ Prb) × St} (h : RRW p s i l d q w j l' b' fs v wr) (hz : z = (.inl fs, ⟨s.data.toList.drop j, l', j - b' + 1⟩)) (hb : Below w.heap.size wr W) (hk : ∀ g, v.ownBlock = some g → W.heap[g]? = wr.heap[g]?) :
    RRecOut p s i l z w (.returned (.tuple #[.agg #[.int .i64 l, v], .agg #[.int .i64 0, .int .i64 0, .int .i64 0, .int .i64 0], .bool true])) W := by
  subst hz
  obtain ⟨g1, g2⟩ := h.fin hb
  exact ⟨⟨v, rfl, row_base (row_keep h.row hk) (by omega)⟩, ⟨j, l', b', g1, rfl, h.ij⟩, g2⟩
end Go.Proofs.YtpiejpodaljefaaDoor
