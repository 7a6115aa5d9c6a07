import Derived.Test.YtpiejpodaljefaaDoorR4
import Derived.Lib.BufferRead
namespace Go.Proofs.YtpiejpodaljefaaDoor
open Go.RowKit

theorem quot_feed {q c : UInt8} {r : L8} {l k : Nat} {o : L8} (h1 : (c == q) = false) (h2 : (c == 10) = true) : quotL q (c :: r) l k o = quotL q r (l + 1) 1 (o ++ [c]) := by
  cases r <;> simp [quotL, h1, h2]
theorem quot_else {q c : UInt8} {r : L8} {l k : Nat} {o : L8} (h1 : (c == q) = false) (h2 : (c == 10) = false) : quotL q (c :: r) l k o = quotL q r l (k + 1) (o ++ [c]) := by
  cases r <;> simp [quotL, h1, h2]
theorem quot_dbl {q c e : UInt8} {r : L8} {l k : Nat} {o : L8} (h1 : (c == q) = true) (h2 : (e == q) = true) : quotL q (c :: e :: r) l k o = quotL q r l (k + 2) (o ++ [c]) := by
  have e1 : c = q := by simpa using h1
  subst e1
  simp [quotL, h2]
theorem quot_done {q c : UInt8} {r : L8} {l k : Nat} {o : L8} (h1 : (c == q) = true) (h2 : r.head? ≠ some q) : quotL q (c :: r) l k o = ⟨true, o, r, l, k + 1⟩ := by
  cases r with
  | nil => simp [quotL, h1]
  | cons e r =>
    have h3 : (e == q) = false := by simpa using h2
    simp [quotL, h1, h3]

theorem own_string {w : World} {B : Nat} {v : Value} {o : L8} (h : w.ownsRow B 5 1 v o.length (Lib.byteCells o)) : (convert 61 9 v).run Tryd.prog w = .ok (.string (arr o)) w := by
  rcases h.2 with ⟨rfl, hn⟩ | ⟨g, cap, cur, rfl, _, hg, hle, hm, hs, htake⟩
  · have : o = [] := List.eq_nil_of_length_eq_zero hn
    subst this
    exact Lib.run_convert_nil_bytes w 61 9 5 0 Tryd.underlying61 Tryd.underlying5 Tryd.underlying9
  · exact run_convert_bytes_back w 61 9 5 ⟨g, 0, none⟩ cap o Tryd.underlying61 Tryd.underlying5 Tryd.underlying9 (Lib.bytes_of_row hg (by simpa using htake))
theorem But2.grown {p f : Nat} {w wr w2 : World} {row : Option Nat} (h : But2 p f w wr) (hg : wr.grownBy w2 row) (hrow : ∀ k, row = some k → w.heap.size ≤ k) : But2 p f w w2 :=
  ⟨hg.os.trans h.os, hg.tape.trans h.tape, hg.output.trans h.output, Nat.le_trans h.size hg.size, fun k hk hp hf => (hg.block k (Nat.lt_of_lt_of_le hk h.size) (fun e => by have := hrow k e.symm; omega)).trans (h.block k hk hp hf)⟩
theorem row_but2 {p f : Nat} {w w' : World} {base : Nat} {e : TypeId} {size : Nat} {v : Value} {n : Nat} {xs : List Value} (h : w.ownsRow base e size v n xs) (hb : But2 p f w w') (hp : p < base) (hf : f < base) : w'.ownsRow base e size v n xs := by
  obtain ⟨h1, h2⟩ := id h
  refine ⟨h1, ?_⟩
  rcases h2 with h2 | ⟨g, cap, cur, hv, hg, hh, r⟩
  · exact Or.inl h2
  · have hlt := h.lt g (by rw [hv]; rfl)
    exact Or.inr ⟨g, cap, cur, hv, hg, by rw [hb.block g hlt.2 (by omega) (by omega)]; exact hh, r⟩
theorem own_kind_ne {w : World} {B s n : Nat} {e T : TypeId} {v : Value} {xs : List Value} {g : Nat} {cs : Array Value} {fz : Nat × Nat} (h : w.ownsRow B e s v n xs) (hg : w.heap[g]? = some (.cells cs T fz)) (hne : T ≠ e) : v.ownBlock ≠ some g := by
  intro hv
  obtain ⟨c, fz', hc⟩ := Lib.ownsRow_kind h g hv
  rw [hg] at hc
  simp only [Option.some.injEq, Obj.cells.injEq] at hc
  exact hne hc.2.1

/-- the memory in the loop of a quoted field -/
structure QW (p f : Nat) (s : ByteArray) (i l b g : Nat) (d q : UInt8) (w : World) (j l' b' : Nat) (o : L8) (v : Value) (wr : World) : Prop where
  rd : RdAt wr p s j l' b' d q
  fa : FAt wr f [] (i - b + 1) true
  pr : PrAt wr g l (i - b + 1) 8
  row : wr.ownsRow w.heap.size 5 1 v o.length (Lib.byteCells o)
  but : But2 p f w wr
  pb : p < w.heap.size
  fb : f < w.heap.size
  pf : p ≠ f
  gb : w.heap.size ≤ g
  ij : i < j
  ol : o.length ≤ j
theorem QW.below {p f : Nat} {s : ByteArray} {i l b g : Nat} {d q : UInt8} {w : World} {j l' b' : Nat} {o : L8} {v : Value} {wr W : World} (h : QW p f s i l b g d q w j l' b' o v wr) (hb : Below wr.heap.size wr W) : QW p f s i l b g d q w j l' b' o v W :=
  ⟨h.rd.below hb, h.fa.below hb, (hb.block g (lt_of_heap h.pr)).trans h.pr, row_below h.row hb, h.but.trans (But2.below hb), h.pb, h.fb, h.pf, h.gb, h.ij, h.ol⟩
theorem QW.moved {p f : Nat} {s : ByteArray} {i l b g : Nat} {d q : UInt8} {w : World} {j l' b' j2 l2 b2 : Nat} {o : L8} {v : Value} {wr W : World} (h : QW p f s i l b g d q w j l' b' o v wr) (hb : But p wr W) (hr : RdAt W p s j2 l2 b2 d q) (hj : j ≤ j2) : QW p f s i l b g d q w j2 l2 b2 o v W :=
  ⟨hr, h.fa.but hb (Ne.symm h.pf), (hb.block g (lt_of_heap h.pr) (by have := h.pb; have := h.gb; omega)).trans h.pr, row_but h.row hb h.pb, h.but.trans (.of hb), h.pb, h.fb, h.pf, h.gb, by have := h.ij; omega, by have := h.ol; omega⟩
theorem QW.grown {p f : Nat} {s : ByteArray} {i l b g : Nat} {d q : UInt8} {w : World} {j l' b' : Nat} {o o2 : L8} {v v2 : Value} {wr W : World} (h : QW p f s i l b g d q w j l' b' o v wr) (hg : wr.grownBy W v.ownBlock) (hr : W.ownsRow w.heap.size 5 1 v2 o2.length (Lib.byteCells o2)) (ho : o2.length ≤ j) : QW p f s i l b g d q w j l' b' o2 v2 W := by
  have hlow : ∀ k, v.ownBlock = some k → w.heap.size ≤ k := fun k hk => (h.row.lt k hk).1
  refine ⟨⟨(hg.block p (lt_of_heap h.rd.1) (fun e => ?_)).trans h.rd.1, h.rd.2⟩, (hg.block f (lt_of_heap h.fa) (fun e => ?_)).trans h.fa, (hg.block g (lt_of_heap h.pr) (fun e => own_kind_ne h.row h.pr (by decide) e.symm)).trans h.pr, hr, h.but.grown hg hlow, h.pb, h.fb, h.pf, h.gb, h.ij, ho⟩
  · have := hlow p e.symm; have := h.pb; omega
  · have := hlow f e.symm; have := h.fb; omega

theorem infoB : (Tryd.prog.info? 5).map (fun i => (i.zero, i.size, i.bytes)) = some (some (.int .u8 0), 1, 1) := by kernel_rfl

theorem fieldL_quot {d q : UInt8} {r : L8} {l k : Nat} (hq : r.head? = some q) : fieldL d q ⟨r, l, k⟩ =
    let z := quotL q r.tail l (k + 1) []
    if z.ok = false then (.inr (l, k, 8), ⟨z.rest, z.line, z.col⟩)
    else if endL z.rest = true ∨ z.rest.head? = some d then (.inl (z.txt, k, true), ⟨z.rest, z.line, z.col⟩)
    else (.inr (z.line, z.col, 8), ⟨z.rest, z.line, z.col⟩) := by
  conv => lhs; unfold fieldL
  rw [if_pos hq]

theorem FAt.set2 {w : World} {f : Nat} {t : L8} {k : Nat} {qd : Bool} (h : FAt w f t k qd) (v : Bool) : FAt (w.setCell ⟨f, 2, none⟩ (.bool v)) f t k v := by
  show (w.setCell ⟨f, 2, none⟩ (.bool v)).heap[f]? = _
  rw [heap_set _ _ _ _ _ _ h]
  rfl
theorem PrAt.below {w w' : World} {g l k c : Nat} (h : PrAt w g l k c) (hb : Below w.heap.size w w') : PrAt w' g l k c := (hb.block g (lt_of_heap h)).trans h
theorem PrAt.but {w w' : World} {p g l k c : Nat} (h : PrAt w g l k c) (hb : But p w w') (hne : g ≠ p) : PrAt w' g l k c := (hb.block g (lt_of_heap h) hne).trans h

/-- what the quoted field is, said at the loop's head -/
def QTot (q : UInt8) (s : ByteArray) (i l b j l' b' : Nat) (o : L8) : Prop := quotL q (s.data.toList.drop j) l' (j - b' + 1) o = quotL q (s.data.toList.drop (i + 1)) l (i - b + 1 + 1) []
theorem QTot.feed {q : UInt8} {s : ByteArray} {i l b j l' b' : Nat} {o : L8} (h : QTot q s i l b j l' b' o) (hj : j < s.size) (h1 : ((s[j].toNat : Int) == (q.toNat : Int)) = false) (h2 : ((s[j].toNat : Int) == 10) = true) : QTot q s i l b (j + 1) (l' + 1) (j + 1) (o ++ [s[j]]) := by
  unfold QTot at h ⊢
  rw [← h, drop_at s j hj]
  rw [beq_cast2] at h1
  rw [feed_iff s j hj] at h2
  rw [quot_feed h1 h2, Nat.sub_self]
theorem QTot.els {q : UInt8} {s : ByteArray} {i l b j l' b' : Nat} {o : L8} (h : QTot q s i l b j l' b' o) (hj : j < s.size) (hb : b' ≤ j) (h1 : ((s[j].toNat : Int) == (q.toNat : Int)) = false) (h2 : ((s[j].toNat : Int) == 10) = false) : QTot q s i l b (j + 1) l' b' (o ++ [s[j]]) := by
  unfold QTot at h ⊢
  rw [← h, drop_at s j hj]
  rw [beq_cast2] at h1
  rw [feed_iff s j hj] at h2
  rw [quot_else h1 h2, show j + 1 - b' + 1 = j - b' + 1 + 1 by omega]
theorem QTot.dbl {q : UInt8} {s : ByteArray} {i l b j l' b' : Nat} {o : L8} (h : QTot q s i l b j l' b' o) (hj : j + 1 < s.size) (hb : b' ≤ j) (h1 : ((s[j].toNat : Int) == (q.toNat : Int)) = true) (h2 : ((s[j + 1].toNat : Int) == (q.toNat : Int)) = true) : QTot q s i l b (j + 2) l' b' (o ++ [s[j]]) := by
  unfold QTot at h ⊢
  rw [← h, drop_at s j (by omega), drop_at s (j + 1) hj]
  rw [beq_cast2] at h1 h2
  rw [quot_dbl h1 h2, show j + 2 - b' + 1 = j - b' + 1 + 2 by omega]
/-- the field is at its end -/
theorem QTot.done {q : UInt8} {s : ByteArray} {i l b j l' b' : Nat} {o : L8} (h : QTot q s i l b j l' b' o) (hj : j < s.size) (hb : b' ≤ j) (h1 : ((s[j].toNat : Int) == (q.toNat : Int)) = true) (h2 : (s.data.toList.drop (j + 1)).head? ≠ some q) :
    quotL q (s.data.toList.drop (i + 1)) l (i - b + 1 + 1) [] = ⟨true, o, s.data.toList.drop (j + 1), l', j + 1 - b' + 1⟩ := by
  unfold QTot at h
  rw [← h, drop_at s j hj]
  rw [beq_cast2] at h1
  rw [quot_done h1 h2, show j + 1 - b' + 1 = j - b' + 1 + 1 by omega]

theorem quot_head {s : ByteArray} {i : Nat} {q : UInt8} (hi : i < s.size) (hq : ((s[i].toNat : Int) == (q.toNat : Int)) = true) : (s.data.toList.drop i).head? = some q ∧ (s.data.toList.drop i).tail = s.data.toList.drop (i + 1) := by
  rw [drop_at s i hi]
  rw [beq_cast2] at hq
  exact ⟨by simpa using hq, rfl⟩
theorem quot_unclosed {p f : Nat} {s : ByteArray} {i l b g j l' b' : Nat} {d q : UInt8} {w wr W : World} {o : L8} {v : Value} (hi : i < s.size) (hq : ((s[i].toNat : Int) == (q.toNat : Int)) = true) (h : QW p f s i l b g d q w j l' b' o v wr) (ht : QTot q s i l b j l' b' o) (hj : ¬ j < s.size) (hb : Below wr.heap.size wr W) :
    FieldOut p f s i d q (fieldL d q ⟨s.data.toList.drop i, l, i - b + 1⟩) w (.returned (.pointer (some ⟨g, 0, none⟩))) W := by
  obtain ⟨e1, e2⟩ := quot_head hi hq
  unfold QTot at ht
  rw [drop_end s j (by omega)] at ht
  have h2 := h.below hb
  rw [fieldL_quot e1, e2, ← ht]
  simp only [quotL, if_true]
  exact ⟨⟨g, rfl, h2.pr, h2.gb⟩, ⟨j, l', b', h2.rd, by rw [drop_end s j (by omega)], by have := h2.ij; omega⟩, h2.but⟩
theorem quot_well {p f : Nat} {s : ByteArray} {i l b g j l' b' : Nat} {d q : UInt8} {w W W' : World} {o : L8} {v : Value} (hi : i < s.size) (hq : ((s[i].toNat : Int) == (q.toNat : Int)) = true) (h : QW p f s i l b g d q w j l' b' o v W)
    (hz : quotL q (s.data.toList.drop (i + 1)) l (i - b + 1 + 1) [] = ⟨true, o, s.data.toList.drop j, l', j - b' + 1⟩) (hs : endL (s.data.toList.drop j) = true ∨ (s.data.toList.drop j).head? = some d) (hb : Below (W.setCell ⟨f, 0, none⟩ (.string (arr o))).heap.size (W.setCell ⟨f, 0, none⟩ (.string (arr o))) W') :
    FieldOut p f s i d q (fieldL d q ⟨s.data.toList.drop i, l, i - b + 1⟩) w (.returned (.pointer none)) W' := by
  obtain ⟨e1, e2⟩ := quot_head hi hq
  rw [fieldL_quot e1, e2, hz]
  simp only [Bool.true_eq_false, if_false, if_pos hs]
  exact ⟨⟨rfl, (h.fa.set0 (arr o)).below hb⟩, ⟨j, l', b', (h.rd.but (But.setCell _ _ _ _) h.pf).below hb, rfl, by have := h.ij; omega⟩, (h.but.trans (.of2 (But.setCell _ _ _ _))).trans (But2.below hb)⟩
theorem quot_ill {p f : Nat} {s : ByteArray} {i l b g j l' b' : Nat} {d q : UInt8} {w W W2 W' : World} {o : L8} {v : Value} {e : Ending} (hi : i < s.size) (hq : ((s[i].toNat : Int) == (q.toNat : Int)) = true) (h : QW p f s i l b g d q w j l' b' o v W)
    (hz : quotL q (s.data.toList.drop (i + 1)) l (i - b + 1 + 1) [] = ⟨true, o, s.data.toList.drop j, l', j - b' + 1⟩) (hs : ¬ (endL (s.data.toList.drop j) = true ∨ (s.data.toList.drop j).head? = some d)) (hb : Below (W.setCell ⟨f, 0, none⟩ (.string (arr o))).heap.size (W.setCell ⟨f, 0, none⟩ (.string (arr o))) W2) (hn : NewPr l' (j - b' + 1) 8 W2 e W') :
    FieldOut p f s i d q (fieldL d q ⟨s.data.toList.drop i, l, i - b + 1⟩) w e W' := by
  obtain ⟨e1, e2⟩ := quot_head hi hq
  rw [fieldL_quot e1, e2, hz]
  simp only [Bool.true_eq_false, if_false, if_neg hs]
  obtain ⟨g', he, hP, hg, hb2⟩ := hn
  have s1 := h.but.size
  have s2 := hb.size
  simp at s2
  exact ⟨⟨g', he, hP, by omega⟩, ⟨j, l', b', ((h.rd.but (But.setCell _ _ _ _) h.pf).below hb).below hb2, rfl, by have := h.ij; omega⟩, ((h.but.trans (.of2 (But.setCell _ _ _ _))).trans (But2.below hb)).trans (But2.below hb2)⟩
theorem cell_one_new (w : World) (x : Value) (T : TypeId) : ∀ j u, ([x] : List Value)[j]? = some u → (w.alloc (.cells #[x] T)).cell? ((⟨w.heap.size, 0, none⟩ : Addr).add j) = some u := fun j u hj => by
  rw [Go.WideShapes.add_plain, World.cell?_alloc_at _ _ _ _ rfl]
  match j, hj with
  | 0, hj => simpa using hj
  | j + 1, hj => simp at hj
end Go.Proofs.YtpiejpodaljefaaDoor
