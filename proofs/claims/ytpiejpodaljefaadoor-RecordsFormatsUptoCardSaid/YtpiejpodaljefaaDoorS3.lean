import Derived.Test.YtpiejpodaljefaaDoorS2
namespace Go.Proofs.YtpiejpodaljefaaDoor
open Go.RowKit

theorem rcolumn_c (p : Nat) (i b : Nat) (w : World) (c1 : w.cell? ⟨p, 1, none⟩ = some (.int .i64 i)) (c3 : w.cell? ⟨p, 3, none⟩ = some (.int .i64 b)) (hb : b ≤ i) (hi : i ≤ 65536) :
    Calls Tryd.prog 58 #[.pointer (some ⟨p, 0, none⟩)] w (RetQ (.int .i64 ((i : Int) - (b : Int) + 1)) w) := by
  go_enter Tryd.func58, Tryd.ntmps58
  go_wp2
  go_quiet (fail)
  go_wp2
  go_ret
  exact ⟨rfl, _, rfl⟩

theorem rcolumn_i (p : Nat) (x y : Int) (w : World) (c1 : w.cell? ⟨p, 1, none⟩ = some (.int .i64 x)) (c3 : w.cell? ⟨p, 3, none⟩ = some (.int .i64 y)) (h0 : 0 ≤ y) (hb : y ≤ x) (hi : x ≤ 65536) :
    Calls Tryd.prog 58 #[.pointer (some ⟨p, 0, none⟩)] w (RetQ (.int .i64 (x - y + 1)) w) := by
  go_enter Tryd.func58, Tryd.ntmps58
  go_wp2
  go_quiet (fail)
  go_wp2
  go_ret
  exact ⟨rfl, _, rfl⟩
/-- the memory in the reference's field -/
structure FW (p : Nat) (s : ByteArray) (i : Nat) (d q : UInt8) (w : World) (j l' b' : Nat) (t : L8) (k : Nat) (qd : Bool) (wr : World) : Prop where
  rd : RrAt wr p s j l' b'
  dx : wr.heap[w.heap.size]? = some (.cells #[.int .u8 d.toNat, .int .u8 q.toNat] 23 (0, 0))
  rf : wr.heap[w.heap.size + 1]? = some (.cells #[.string ⟨#[]⟩, .int .i64 0, .bool false] 50 (0, 0))
  rp : wr.heap[w.heap.size + 1 + 1]? = some (.cells #[.int .i64 0, .int .i64 0, .int .i64 0, .int .i64 0] 77 (0, 0))
  ff : FAt wr (w.heap.size + 1 + 1 + 1) t k qd
  but : But p w wr
  pb : p < w.heap.size
  ij : i ≤ j
theorem FW.below {p : Nat} {s : ByteArray} {i : Nat} {d q : UInt8} {w : World} {j l' b' : Nat} {t : L8} {k : Nat} {qd : Bool} {wr W : World} (h : FW p s i d q w j l' b' t k qd wr) (hb : Below wr.heap.size wr W) : FW p s i d q w j l' b' t k qd W :=
  ⟨h.rd.below hb, (hb.block _ (lt_of_heap h.dx)).trans h.dx, (hb.block _ (lt_of_heap h.rf)).trans h.rf, (hb.block _ (lt_of_heap h.rp)).trans h.rp, h.ff.below hb, h.but.trans (But.of_below hb), h.pb, h.ij⟩
theorem FW.moved {p : Nat} {s : ByteArray} {i : Nat} {d q : UInt8} {w : World} {j l' b' j2 l2 b2 : Nat} {t : L8} {k : Nat} {qd : Bool} {wr W : World} (h : FW p s i d q w j l' b' t k qd wr) (hb : But p wr W) (hr : RrAt W p s j2 l2 b2) (hj : j ≤ j2) : FW p s i d q w j2 l2 b2 t k qd W := by
  have := h.pb
  exact ⟨hr, (hb.block _ (lt_of_heap h.dx) (by omega)).trans h.dx, (hb.block _ (lt_of_heap h.rf) (by omega)).trans h.rf, (hb.block _ (lt_of_heap h.rp) (by omega)).trans h.rp, h.ff.but hb (by omega), h.but.trans hb, h.pb, by have := h.ij; omega⟩
/-- the field itself has turned -/
theorem FW.field {p : Nat} {s : ByteArray} {i : Nat} {d q : UInt8} {w : World} {j l' b' : Nat} {t t2 : L8} {k k2 : Nat} {qd qd2 : Bool} {wr W : World} (h : FW p s i d q w j l' b' t k qd wr) (hb : But (w.heap.size + 1 + 1 + 1) wr W) (hf : FAt W (w.heap.size + 1 + 1 + 1) t2 k2 qd2) : FW p s i d q w j l' b' t2 k2 qd2 W := by
  have := h.pb
  refine ⟨h.rd.but hb (by omega), (hb.block _ (lt_of_heap h.dx) (by omega)).trans h.dx, (hb.block _ (lt_of_heap h.rf) (by omega)).trans h.rf, (hb.block _ (lt_of_heap h.rp) (by omega)).trans h.rp, hf, ?_, h.pb, h.ij⟩
  exact ⟨hb.os.trans h.but.os, hb.tape.trans h.but.tape, hb.output.trans h.but.output, Nat.le_trans h.but.size hb.size, fun k hk hp => (hb.block k (Nat.lt_of_lt_of_le hk h.but.size) (by omega)).trans (h.but.block k hk hp)⟩
theorem FW.start {p : Nat} {s : ByteArray} {i l b m : Nat} {d q : UInt8} {w : World} (hR : RrAt w p s i l b) :
    FW p s i d q w i l b [] (i - b + 1) false (((((w.alloc (.cells #[.int .u8 d.toNat, .int .u8 q.toNat] 23)).alloc (.cells #[.string ⟨#[]⟩, .int .i64 0, .bool false] 50)).alloc (.cells #[.int .i64 0, .int .i64 0, .int .i64 0, .int .i64 0] 77)).drewN m).alloc (.cells #[.string ⟨#[]⟩, .int .i64 ((i : Int) - (b : Int) + 1), .bool false] 50)) := by
  have hp := lt_of_heap hR.1
  have e0 := heap_alloc_new w (.cells #[.int .u8 d.toNat, .int .u8 q.toNat] 23)
  generalize hw0 : w.alloc (.cells #[.int .u8 d.toNat, .int .u8 q.toNat] 23) = w0 at *
  have z0 : w0.heap.size = w.heap.size + 1 := by rw [← hw0]; simp
  have b0 : Below w.heap.size w w0 := by rw [← hw0]; exact (Below.refl _ _).alloc (Nat.le_refl _) _
  have e1 := heap_alloc_new w0 (.cells #[.string ⟨#[]⟩, .int .i64 0, .bool false] 50)
  generalize hw1 : w0.alloc (.cells #[.string ⟨#[]⟩, .int .i64 0, .bool false] 50) = w1 at *
  have z1 : w1.heap.size = w0.heap.size + 1 := by rw [← hw1]; simp
  have b1 : Below w0.heap.size w0 w1 := by rw [← hw1]; exact (Below.refl _ _).alloc (Nat.le_refl _) _
  have e2 := heap_alloc_new w1 (.cells #[.int .i64 0, .int .i64 0, .int .i64 0, .int .i64 0] 77)
  generalize hw2 : w1.alloc (.cells #[.int .i64 0, .int .i64 0, .int .i64 0, .int .i64 0] 77) = w2 at *
  have z2 : w2.heap.size = w1.heap.size + 1 := by rw [← hw2]; simp
  have b2 : Below w1.heap.size w1 w2 := by rw [← hw2]; exact (Below.refl _ _).alloc (Nat.le_refl _) _
  have e3 := heap_alloc_new (w2.drewN m) (.cells #[.string ⟨#[]⟩, .int .i64 ((i : Int) - (b : Int) + 1), .bool false] 50)
  have b3 : Below w2.heap.size w2 ((w2.drewN m).alloc (.cells #[.string ⟨#[]⟩, .int .i64 ((i : Int) - (b : Int) + 1), .bool false] 50)) := (below_drewN w2 m).alloc (Nat.le_refl _) _
  have e3 : ((w2.drewN m).alloc (.cells #[.string ⟨#[]⟩, .int .i64 ((i : Int) - (b : Int) + 1), .bool false] 50)).heap[w2.heap.size]? = some (.cells #[.string ⟨#[]⟩, .int .i64 ((i : Int) - (b : Int) + 1), .bool false] 50 (0, 0)) := e3
  generalize (w2.drewN m).alloc (.cells #[.string ⟨#[]⟩, .int .i64 ((i : Int) - (b : Int) + 1), .bool false] 50) = w3 at *
  have hb := hR.2.2.2.1
  have f0 := below3 (below3 (below3 b0 b1) b2) b3
  refine ⟨hR.below f0, ?_, ?_, ?_, ?_, But.of_below f0, hp, Nat.le_refl _⟩
  · rw [b3.block _ (by omega), b2.block _ (by omega), b1.block _ (by omega)]; exact e0
  · rw [b3.block _ (by omega), b2.block _ (by omega), ← z0]; exact e1
  · rw [b3.block _ (by omega), show w.heap.size + 1 + 1 = w1.heap.size by omega]; exact e2
  · unfold FAt
    rw [show w.heap.size + 1 + 1 + 1 = w2.heap.size by omega, show ((i - b + 1 : Nat) : Int) = (i : Int) - (b : Int) + 1 by omega]
    exact e3

/-- What the reference's field hands back. -/
def RFldOut (e : Ending) : Fld ⊕ Prb → Prop
  | .inl x => e = .returned (.tuple #[.agg #[.string (arr x.1), .int .i64 x.2.1, .bool x.2.2], .agg #[.int .i64 0, .int .i64 0, .int .i64 0, .int .i64 0], .bool true])
  | .inr x => ∃ a1 a2 a3, e = .returned (.tuple #[.agg #[.string a1, .int .i64 a2, .bool a3], .agg #[.int .i64 0, .int .i64 x.1, .int .i64 x.2.1, .int .i64 x.2.2], .bool false])
def RFieldOut (p : Nat) (s : ByteArray) (i : Nat) (z : (Fld ⊕ Prb) × St) (w : World) (e : Ending) (w' : World) : Prop :=
  RFldOut e z.1 ∧ (∃ j l b, RrAt w' p s j l b ∧ z.2 = ⟨s.data.toList.drop j, l, j - b + 1⟩ ∧ i ≤ j) ∧ But p w w'

theorem FW.fin {p : Nat} {s : ByteArray} {i : Nat} {d q : UInt8} {w : World} {j l' b' : Nat} {t : L8} {k : Nat} {qd : Bool} {wr W : World} (h : FW p s i d q w j l' b' t k qd wr) (hb : Below w.heap.size wr W) : RrAt W p s j l' b' ∧ But p w W :=
  ⟨⟨(hb.block p h.pb).trans h.rd.1, h.rd.2⟩, ⟨hb.os.trans h.but.os, hb.tape.trans h.but.tape, hb.output.trans h.but.output, Nat.le_trans h.but.size hb.size, fun k hk hp => (hb.block k hk).trans (h.but.block k hk hp)⟩⟩
theorem cells4_of {w : World} {g : Nat} {a b c e : Value} {T : TypeId} (h : w.heap[g]? = some (.cells #[a, b, c, e] T (0, 0))) : (w.cell? ⟨g, 0, none⟩ = some a ∧ w.cell? ⟨g, 1, none⟩ = some b ∧ w.cell? ⟨g, 2, none⟩ = some c ∧ w.cell? ⟨g, 3, none⟩ = some e) ∧ w.frozen? ⟨g, 0, none⟩ = false ∧ w.frozen? ⟨g, 1, none⟩ = false ∧ w.frozen? ⟨g, 2, none⟩ = false ∧ w.frozen? ⟨g, 3, none⟩ = false := by
  refine ⟨⟨?_, ?_, ?_, ?_⟩, ?_, ?_, ?_, ?_⟩ <;> simp [World.cell?, World.frozen?, h]
theorem cells3_of {w : World} {g : Nat} {a b c : Value} {T : TypeId} (h : w.heap[g]? = some (.cells #[a, b, c] T (0, 0))) : (w.cell? ⟨g, 0, none⟩ = some a ∧ w.cell? ⟨g, 1, none⟩ = some b ∧ w.cell? ⟨g, 2, none⟩ = some c) ∧ w.frozen? ⟨g, 0, none⟩ = false ∧ w.frozen? ⟨g, 1, none⟩ = false ∧ w.frozen? ⟨g, 2, none⟩ = false := by
  refine ⟨⟨?_, ?_, ?_⟩, ?_, ?_, ?_⟩ <;> simp [World.cell?, World.frozen?, h]
theorem cells2_of {w : World} {g : Nat} {a b : Value} {T : TypeId} (h : w.heap[g]? = some (.cells #[a, b] T (0, 0))) : w.cell? ⟨g, 0, none⟩ = some a ∧ w.cell? ⟨g, 1, none⟩ = some b := by
  refine ⟨?_, ?_⟩ <;> simp [World.cell?, h]
theorem cell_oth (w : World) (g o : Nat) (v : Value) (b o2 : Nat) (h : b ≠ g) : (w.setCell ⟨g, o, none⟩ v).cell? ⟨b, o2, none⟩ = w.cell? ⟨b, o2, none⟩ := World.cell?_setCell_other _ _ _ _ (by simp)
theorem bel_set {B : Nat} {w W : World} (h : Below B w W) (g o : Nat) (v : Value) (hg : B ≤ g) : Below B w (W.setCell ⟨g, o, none⟩ v) := h.setCell (p := ⟨g, o, none⟩) hg v
theorem bel_drewN {B : Nat} {w W : World} (h : Below B w W) (n : Nat) : Below B w (W.drewN n) := ⟨h.os, h.tape, h.output, h.size, h.block⟩
theorem bel_drew {B : Nat} {w W : World} (h : Below B w W) : Below B w W.drew := ⟨h.os, h.tape, h.output, h.size, h.block⟩
theorem rplain_fin {p : Nat} {s : ByteArray} {i j l b : Nat} {d q : UInt8} {w wr W : World} (h : FW p s i d q w j l b [] (i - b + 1) false wr) (hbi : b ≤ i) (HP : PlainRest d q s i j) (hq : (s.data.toList.drop i).head? ≠ some q)
    (hs : endL (s.data.toList.drop j) = true ∨ (s.data.toList.drop j).head? = some d) (hb : Below w.heap.size wr W) :
    RFieldOut p s i (fieldL d q ⟨s.data.toList.drop i, l, i - b + 1⟩) w (.returned (.tuple #[.agg #[.string (s.extract i j), .int .i64 (i - b + 1 : Nat), .bool false], .agg #[.int .i64 0, .int .i64 0, .int .i64 0, .int .i64 0], .bool true])) W := by
  have e := plain_stop (q := q) hs
  unfold PlainRest at HP
  rw [e] at HP
  have hij := h.ij
  have hl := take_len s i j h.rd.2.2.1
  rw [fieldL_plain hq, HP]
  simp only [if_true, List.append_nil]
  obtain ⟨h1, h2⟩ := h.fin hb
  refine ⟨?_, ⟨j, l, b, h1, ?_, h.ij⟩, h2⟩
  · show Ending.returned _ = _
    rw [← ext_mid, arr_of]
  · rw [hl, show i - b + 1 + (j - i) = j - b + 1 by omega]
theorem rplain_err {p : Nat} {s : ByteArray} {i j l b : Nat} {d q : UInt8} {w wr W : World} (h : FW p s i d q w j l b [] (i - b + 1) false wr) (hbi : b ≤ i) (HP : PlainRest d q s i j) (hq : (s.data.toList.drop i).head? ≠ some q)
    (hj : j < s.size) (h1 : endL (s.data.toList.drop j) = false) (h2 : ((s[j].toNat : Int) == (d.toNat : Int)) = false) (h3 : ((s[j].toNat : Int) == (q.toNat : Int)) = true) (hb : Below w.heap.size wr W) (a1 : ByteArray) (a2 : Int) (a3 : Bool) :
    RFieldOut p s i (fieldL d q ⟨s.data.toList.drop i, l, i - b + 1⟩) w (.returned (.tuple #[.agg #[.string a1, .int .i64 a2, .bool a3], .agg #[.int .i64 0, .int .i64 l, .int .i64 ((j : Int) - (b : Int) + 1), .int .i64 8], .bool false])) W := by
  have hd := drop_at s j hj
  rw [beq_cast2] at h2 h3
  rw [hd] at h1
  have e := plain_bad h1 h2 h3
  unfold PlainRest at HP
  rw [hd, e] at HP
  have hij := h.ij
  have hl := take_len s i j h.rd.2.2.1
  rw [fieldL_plain hq, HP]
  simp only [List.append_nil]
  have ek : i - b + 1 + (j - i) = j - b + 1 := by omega
  rw [hl, ek]
  obtain ⟨g1, g2⟩ := h.fin hb
  refine ⟨⟨a1, a2, a3, ?_⟩, ⟨j, l, b, g1, ?_, h.ij⟩, g2⟩
  · show Ending.returned _ = _
    rw [show ((j - b + 1 : Nat) : Int) = (j : Int) - (b : Int) + 1 by omega]
    rfl
  · rw [hd]; rfl
end Go.Proofs.YtpiejpodaljefaaDoor
