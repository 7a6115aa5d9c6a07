/- Series: a series with one thing changed, by dice. -/
import Derived.Test.YtibigbfkokendaaGreatDoorR27
import Derived.Deep.AppendLies
import Derived.Deep.RegionLaw
namespace Go.Proofs.YtibigbfkokendaaGreatDoor
open Go.RowKit Go.Maps TT

/-- what the dice give: a series, perhaps an odd one -/
def MadeO (p z : Nat) (w : World) (en : Ending) (w' : World) : Prop :=
  ∃ f l e k a n c b m q xs ys, en = .returned (serV f l e k a n c b m q) ∧ IntsAt w' a n xs ∧ IntsAt w' b m ys ∧ n + m ≤ 2000 ∧ Off z n a ∧ Off z m b ∧ But p w w' ∧ DiceAt w' p

/-- the box, the cell of the result and the dice -/
structure OD (w wr : World) (p z : Nat) (f l e k : Int) (a : Option Addr) (n c : Nat) (b : Option Addr) (m q : Nat) (xs ys : List Int) : Prop where
  hs : wr.heap[w.heap.size]? = some (cells6 f l e k (.slice a n c) (.slice b m q))
  hr : wr.heap[w.heap.size + 1]? = some (cells6 0 0 0 0 (.slice none 0 0) (.slice none 0 0))
  ia : IntsAt wr a n xs
  ib : IntsAt wr b m ys
  oa : Off p n a ∧ Off w.heap.size n a ∧ Off (w.heap.size + 1) n a ∧ Off z n a
  ob : Off p m b ∧ Off w.heap.size m b ∧ Off (w.heap.size + 1) m b ∧ Off z m b
  dc : DiceAt wr p
  bt : But p w wr
  hp : p < w.heap.size
  hz : z < w.heap.size
section
variable {w wr w2 : World} {p z : Nat} {f l e k : Int} {a : Option Addr} {n c : Nat} {b : Option Addr} {m q : Nat} {xs ys : List Int}
theorem OD.next (h : OD w wr p z f l e k a n c b m q xs ys) (hd : DiceAt w2 p) (hb : But p wr w2) : OD w w2 p z f l e k a n c b m q xs ys :=
  ⟨(hb.block _ (lt_of_heap h.hs) (by have := h.hp; omega)).trans h.hs, (hb.block _ (lt_of_heap h.hr) (by have := h.hp; omega)).trans h.hr, h.ia.but h.oa.1 hb, h.ib.but h.ob.1 hb, h.oa, h.ob, hd, h.bt.trans hb, h.hp, h.hz⟩
theorem OD.below (h : OD w wr p z f l e k a n c b m q xs ys) (hb : Below wr.heap.size wr w2) : OD w w2 p z f l e k a n c b m q xs ys := h.next (h.dc.below hb) (But.of_below hb)
theorem OD.set (h : OD w wr p z f l e k a n c b m q xs ys) {i : Nat} {v : Value} {f' l' e' k' : Int} (hn : (wr.setCell ⟨w.heap.size, i, none⟩ v).heap[w.heap.size]? = some (cells6 f' l' e' k' (.slice a n c) (.slice b m q))) : OD w (wr.setCell ⟨w.heap.size, i, none⟩ v) p z f' l' e' k' a n c b m q xs ys := by
  have hp := h.hp
  have hb : But w.heap.size wr (wr.setCell ⟨w.heap.size, i, none⟩ v) := But.setCell _ _ _ _
  exact ⟨hn, (hb.block _ (lt_of_heap h.hr) (by omega)).trans h.hr, h.ia.but h.oa.2.1 hb, h.ib.but h.ob.2.1 hb, h.oa, h.ob, h.dc.same (fun q hq => hb.block q (by have := h.dc.lt; omega) (by omega)), ⟨h.bt.os, h.bt.tape, h.bt.output, by have := h.bt.size; simp; omega, fun q hq hne => (hb.block q (by have := h.bt.size; omega) (by omega)).trans (h.bt.block q hq hne)⟩, hp, h.hz⟩
theorem OD.mk0 (hd : DiceAt w p) (hx : IntsAt w a n xs) (hy : IntsAt w b m ys) (ox : Off p n a) (oy : Off p m b) (zx : Off z n a) (zy : Off z m b) (hz : z < w.heap.size) :
    OD w ((w.alloc (.cells #[.int .i64 f, .int .i64 l, .int .i64 e, .int .i64 k, .slice a n c, .slice b m q] 24)).alloc (.cells #[.int .i64 0, .int .i64 0, .int .i64 0, .int .i64 0, .slice none 0 0, .slice none 0 0] 24)) p z f l e k a n c b m q xs ys := by
  have h1 : Below w.heap.size w (w.alloc (.cells #[.int .i64 f, .int .i64 l, .int .i64 e, .int .i64 k, .slice a n c, .slice b m q] 24)) := (Below.refl _ _).alloc (Nat.le_refl _) _
  have h2 := h1.alloc (o := .cells #[.int .i64 0, .int .i64 0, .int .i64 0, .int .i64 0, .slice none 0 0, .slice none 0 0] 24) (by simp)
  refine ⟨(Below.heap_alloc _ _ _ (by simp)).trans (World.alloc_heap_new w _), ?_, hx.below h2, hy.below h2, ⟨ox, off_past hx (Nat.le_refl _), off_past hx (by omega), zx⟩, ⟨oy, off_past hy (Nat.le_refl _), off_past hy (by omega), zy⟩, hd.below h2, But.of_below h2, hd.lt, hz⟩
  have := World.alloc_heap_new (w.alloc (.cells #[.int .i64 f, .int .i64 l, .int .i64 e, .int .i64 k, .slice a n c, .slice b m q] 24)) (.cells #[.int .i64 0, .int .i64 0, .int .i64 0, .int .i64 0, .slice none 0 0, .slice none 0 0] 24)
  rw [World.size_alloc] at this; exact this
theorem OD.fin (h : OD w wr p z f l e k a n c b m q xs ys) : ∃ W9, W9 = put6 wr (w.heap.size + 1) f l e k (.slice a n c) (.slice b m q) ∧ W9.heap[w.heap.size + 1]? = some (cells6 f l e k (.slice a n c) (.slice b m q)) ∧ IntsAt W9 a n xs ∧ IntsAt W9 b m ys ∧ But p w W9 ∧ DiceAt W9 p := by
  have hp := h.hp
  have hsz := lt_of_heap h.hr
  have hg := grownBy_put6 wr (w.heap.size + 1) f l e k (.slice a n c) (.slice b m q)
  have hb : But (w.heap.size + 1) wr (put6 wr (w.heap.size + 1) f l e k (.slice a n c) (.slice b m q)) := ⟨hg.os, hg.tape, hg.output, hg.size, fun q h1 h2 => hg.block q h1 (fun e => h2 (by cases e; rfl))⟩
  exact ⟨_, rfl, c6_all h.hr _ _ _ _ _ _, h.ia.but h.oa.2.2.1 hb, h.ib.but h.ob.2.2.1 hb, h.bt.grown hg (fun g e => by cases e; omega), h.dc.same (fun q hq => hb.block q (by omega) (by omega))⟩
theorem OD.swap (h : OD w wr p z f l e k a n c b m q xs ys) : OD w ((wr.setCell ⟨w.heap.size, 4, none⟩ (.slice b m q)).setCell ⟨w.heap.size, 5, none⟩ (.slice a n c)) p z f l e k b m q a n c ys xs := by
  have hp := h.hp
  have hb : But w.heap.size wr ((wr.setCell ⟨w.heap.size, 4, none⟩ (.slice b m q)).setCell ⟨w.heap.size, 5, none⟩ (.slice a n c)) := (But.setCell _ _ _ _).trans (But.setCell _ _ _ _)
  exact ⟨c6_set5 (c6_set4 h.hs _) _, (hb.block _ (lt_of_heap h.hr) (by omega)).trans h.hr, h.ib.but h.ob.2.1 hb, h.ia.but h.oa.2.1 hb, h.ob, h.oa, h.dc.same (fun q hq => hb.block q (by have := h.dc.lt; omega) (by omega)), ⟨h.bt.os, h.bt.tape, h.bt.output, by have := h.bt.size; simp; omega, fun q hq hne => (hb.block q (by have := h.bt.size; omega) (by omega)).trans (h.bt.block q hq hne)⟩, hp, h.hz⟩
theorem OD.hs6 {w6 : World} {tmp : Obj} {row : Option Nat} (h : OD w wr p z f l e k a n c b m q xs ys) (hg : (wr.alloc tmp).grownBy w6 row) (hr : ∀ g, row = some g → w.heap.size < g) :
    w6.heap[w.heap.size]? = some (cells6 f l e k (.slice a n c) (.slice b m q)) := by
  have hs2 := lt_of_heap h.hs
  rw [hg.block _ (by simp; omega) (fun e => by have := hr _ e.symm; omega), Below.heap_alloc _ _ _ hs2]; exact h.hs
theorem OD.app4 {w6 : World} {x : Int} {tmp : Obj} {g2 cap2 base : Nat} {row : Option Nat} (h : OD w wr p z f l e k a n c b m q xs ys) (hbase : w.heap.size + 2 ≤ base) (hr : ∀ g, row = some g → base ≤ g ∧ Off g m b)
    (hn : Row w6 base (.slice (some ⟨g2, 0, none⟩) (n + 1) cap2) (xs ++ [x])) (hg : (wr.alloc tmp).grownBy w6 row) (hl : xs.length = n) :
    OD w (w6.setCell ⟨w.heap.size, 4, none⟩ (.slice (some ⟨g2, 0, none⟩) (n + 1) cap2)) p z f l e k (some ⟨g2, 0, none⟩) (n + 1) cap2 b m q (xs ++ [x]) ys := by
  have hp := h.hp
  have hs2 := lt_of_heap h.hr
  have hg2 := (hn.lt g2 rfl).1
  have hz := h.hz
  have hbk : ∀ i, i < wr.heap.size → row ≠ some i → w6.heap[i]? = wr.heap[i]? := fun i hi h1 => by
    rw [hg.block i (by simp; omega) (fun e => h1 e.symm), Below.heap_alloc _ _ _ hi]
  have hsz6 : wr.heap.size ≤ w6.heap.size := by have := hg.size; simp at this; omega
  obtain ⟨g1, hb6, hbo, hg1⟩ : ∃ g1, But g1 wr w6 ∧ Off g1 m b ∧ base ≤ g1 := by
    cases row with
    | none => exact ⟨wr.heap.size + base, ⟨hg.os, hg.tape, hg.output, hsz6, fun i hi _ => hbk i hi (by simp)⟩, off_past h.ib (by omega), by omega⟩
    | some g => exact ⟨g, ⟨hg.os, hg.tape, hg.output, hsz6, fun i hi h1 => hbk i hi (fun e => h1 (by cases e; rfl))⟩, (hr g rfl).2, (hr g rfl).1⟩
  have hlow := hb6.block
  have hset : ∀ i, i ≠ w.heap.size → (w6.setCell ⟨w.heap.size, 4, none⟩ (.slice (some ⟨g2, 0, none⟩) (n + 1) cap2)).heap[i]? = w6.heap[i]? := fun i hi => heap_setCell_other _ _ _ _ hi
  have hb7 : But w.heap.size w6 (w6.setCell ⟨w.heap.size, 4, none⟩ (.slice (some ⟨g2, 0, none⟩) (n + 1) cap2)) := But.setCell _ _ _ _
  have hI6 : IntsAt w6 (some ⟨g2, 0, none⟩) (n + 1) (xs ++ [x]) := by
    obtain ⟨a', c', he, hi⟩ := Row.ints hn
    rw [List.length_append, hl] at he hi
    cases he; exact hi
  have off2 : ∀ i, i < base → Off i (n + 1) (some (⟨g2, 0, none⟩ : Addr)) := fun i hi => Or.inr (fun g o e => by cases e; omega)
  refine ⟨?_, ?_, hI6.but (off2 _ (by omega)) hb7, (h.ib.but hbo hb6).but h.ob.2.1 hb7, ⟨off2 _ (by omega), off2 _ (by omega), off2 _ (by omega), off2 _ (by omega)⟩, h.ob, h.dc.same (fun i hi => (hset i (by omega)).trans (hlow i (by omega) (by omega))), ?_, hp, hz⟩
  · exact c6_set4 ((hlow _ (by omega) (by omega)).trans h.hs) _
  · exact (hset _ (by omega)).trans ((hlow _ hs2 (by omega)).trans h.hr)
  · exact ⟨hb6.os.trans h.bt.os, hb6.tape.trans h.bt.tape, hb6.output.trans h.bt.output, by have := hb6.size; have := h.bt.size; simp; omega, fun i hi hne => (hset i (by omega)).trans ((hlow i (by omega) (by omega)).trans (h.bt.block i hi hne))⟩
theorem OD.app5 {w6 : World} {x : Int} {tmp : Obj} {g2 cap2 base : Nat} {row : Option Nat} (h : OD w wr p z f l e k a n c b m q xs ys) (hbase : w.heap.size + 2 ≤ base) (hr : ∀ g, row = some g → base ≤ g ∧ Off g n a)
    (hn : Row w6 base (.slice (some ⟨g2, 0, none⟩) (m + 1) cap2) (ys ++ [x])) (hg : (wr.alloc tmp).grownBy w6 row) (hl : ys.length = m) :
    OD w (w6.setCell ⟨w.heap.size, 5, none⟩ (.slice (some ⟨g2, 0, none⟩) (m + 1) cap2)) p z f l e k a n c (some ⟨g2, 0, none⟩) (m + 1) cap2 xs (ys ++ [x]) := by
  have hp := h.hp
  have hs2 := lt_of_heap h.hr
  have hg2 := (hn.lt g2 rfl).1
  have hz := h.hz
  have hbk : ∀ i, i < wr.heap.size → row ≠ some i → w6.heap[i]? = wr.heap[i]? := fun i hi h1 => by
    rw [hg.block i (by simp; omega) (fun e => h1 e.symm), Below.heap_alloc _ _ _ hi]
  have hsz6 : wr.heap.size ≤ w6.heap.size := by have := hg.size; simp at this; omega
  obtain ⟨g1, hb6, hbo, hg1⟩ : ∃ g1, But g1 wr w6 ∧ Off g1 n a ∧ base ≤ g1 := by
    cases row with
    | none => exact ⟨wr.heap.size + base, ⟨hg.os, hg.tape, hg.output, hsz6, fun i hi _ => hbk i hi (by simp)⟩, off_past h.ia (by omega), by omega⟩
    | some g => exact ⟨g, ⟨hg.os, hg.tape, hg.output, hsz6, fun i hi h1 => hbk i hi (fun e => h1 (by cases e; rfl))⟩, (hr g rfl).2, (hr g rfl).1⟩
  have hlow := hb6.block
  have hset : ∀ i, i ≠ w.heap.size → (w6.setCell ⟨w.heap.size, 5, none⟩ (.slice (some ⟨g2, 0, none⟩) (m + 1) cap2)).heap[i]? = w6.heap[i]? := fun i hi => heap_setCell_other _ _ _ _ hi
  have hb7 : But w.heap.size w6 (w6.setCell ⟨w.heap.size, 5, none⟩ (.slice (some ⟨g2, 0, none⟩) (m + 1) cap2)) := But.setCell _ _ _ _
  have hI6 : IntsAt w6 (some ⟨g2, 0, none⟩) (m + 1) (ys ++ [x]) := by
    obtain ⟨a', c', he, hi⟩ := Row.ints hn
    rw [List.length_append, hl] at he hi
    cases he; exact hi
  have off2 : ∀ i, i < base → Off i (m + 1) (some (⟨g2, 0, none⟩ : Addr)) := fun i hi => Or.inr (fun g o e => by cases e; omega)
  refine ⟨?_, ?_, (h.ia.but hbo hb6).but h.oa.2.1 hb7, hI6.but (off2 _ (by omega)) hb7, h.oa, ⟨off2 _ (by omega), off2 _ (by omega), off2 _ (by omega), off2 _ (by omega)⟩, h.dc.same (fun i hi => (hset i (by omega)).trans (hlow i (by omega) (by omega))), ?_, hp, hz⟩
  · exact c6_set5 ((hlow _ (by omega) (by omega)).trans h.hs) _
  · exact (hset _ (by omega)).trans ((hlow _ hs2 (by omega)).trans h.hr)
  · exact ⟨hb6.os.trans h.bt.os, hb6.tape.trans h.bt.tape, hb6.output.trans h.bt.output, by have := hb6.size; have := h.bt.size; simp; omega, fun i hi hne => (hset i (by omega)).trans ((hlow i (by omega) (by omega)).trans (h.bt.block i hi hne))⟩
end
theorem own_norm {w : World} {B n : Nat} {v : Nat → Value} {L : List Value} (h : w.ownsRow B 3 1 (v (0 + n)) (0 + n) ([] ++ L)) : w.ownsRow B 3 1 (v n) n L := by
  rw [Nat.zero_add] at h; exact h
theorem row_n {w : World} {B n : Nat} {v : Value} {xs : List Int} {x : Int} (hl : xs.length = n) (h : w.ownsRow B 3 1 v (n + 1) (xs.map (Value.int .i64) ++ [.int .i64 x])) : Row w B v (xs ++ [x]) := by
  subst hl; exact rowSnoc h
theorem own_at {g1 n cap1 g : Nat} (h : (Value.slice (some ⟨g1, 0, none⟩) n cap1).ownBlock = some g) : g = g1 := by cases h; rfl
theorem news_ints {w : World} {ab ao n : Nat} {xs : List Int} (hl : xs.length = n) (hc : ∀ i, i < n → w.cell? ⟨ab, ao + i, none⟩ = some (.int .i64 (xs.getD i 0))) :
    ∀ (j : Nat) (u : Value), (xs.map (Value.int .i64))[j]? = some u → w.cell? (Addr.add ⟨ab, ao, none⟩ j) = some u := by
  intro j u hj
  rw [List.getElem?_map] at hj
  cases hx : xs[j]? with
  | none => rw [hx] at hj; cases hj
  | some y =>
    rw [hx] at hj; simp at hj; subst hj
    have hj2 : j < xs.length := (List.getElem?_eq_some_iff.1 hx).1
    have h2 : Addr.add ⟨ab, ao, none⟩ j = ⟨ab, ao + j, none⟩ := by unfold Addr.add; by_cases hj : j = 0 <;> simp [hj]
    rw [h2, hc j (by omega), List.getD_eq_getElem?_getD, hx]; rfl
theorem ones_ints (xs : List Int) : ∀ u ∈ xs.map (Value.int .i64), u.oneCell' = true := by
  intro u hu; simp at hu; obtain ⟨y, _, rfl⟩ := hu; rfl
theorem pick4 (w : World) (x0 x1 x2 x3 : Int) (t : TypeId) {j : Nat} (hj : j < 4) : ∃ v, (w.alloc (.cells #[.int .i64 x0, .int .i64 x1, .int .i64 x2, .int .i64 x3] t)).cell? ⟨w.heap.size, j, none⟩ = some (.int .i64 v) ∧ (v = x0 ∨ v = x1 ∨ v = x2 ∨ v = x3) := by
  match j, hj with
  | 0, _ => exact ⟨x0, by simp, Or.inl rfl⟩
  | 1, _ => exact ⟨x1, by simp, Or.inr (Or.inl rfl)⟩
  | 2, _ => exact ⟨x2, by simp, Or.inr (Or.inr (Or.inl rfl))⟩
  | 3, _ => exact ⟨x3, by simp, Or.inr (Or.inr (Or.inr rfl))⟩
theorem pick3 (w : World) (x0 x1 x2 : Int) (t : TypeId) {j : Nat} (hj : j < 3) : ∃ v, (w.alloc (.cells #[.int .i64 x0, .int .i64 x1, .int .i64 x2] t)).cell? ⟨w.heap.size, j, none⟩ = some (.int .i64 v) := by
  match j, hj with
  | 0, _ => exact ⟨x0, by simp⟩
  | 1, _ => exact ⟨x1, by simp⟩
  | 2, _ => exact ⟨x2, by simp⟩

set_option maxRecDepth 100000 in
set_option maxHeartbeats 4000000 in
theorem modd_any (p z : Nat) (f l e k : Int) (a : Option Addr) (n c : Nat) (b : Option Addr) (m q : Nat) (xs ys : List Int) (w : World) (hD : DiceAt w p) (hx : IntsAt w a n xs) (hy : IntsAt w b m ys) (ox : Off p n a) (oy : Off p m b) (zx : Off z n a) (zy : Off z m b) (hz : z < w.heap.size) (hs : n + m ≤ 1000) (f1 : 0 ≤ f) (f2 : f ≤ 40000) :
    Calls Tryz.prog 20 #[.pointer (some ⟨p, 0, none⟩), serV f l e k a n c b m q] w (MadeO p z w) := by
  have H0 := Lib.hid (OD.mk0 (f := f) (l := l) (e := e) (k := k) (c := c) (q := q) hD hx hy ox oy zx zy hz)
  clear hD hx hy ox oy zx zy
  go_enter Tryz.func20, Tryz.ntmps20
  go_wp2_with fail
  refine (next_any p 7 _ (by omega) (by omega) H0.out.dc).mono ?_
  rintro en w1 ⟨r, ra, rb, rfl, hd, hb⟩
  have H1 := Lib.hid (H0.out.next hd hb)
  clear hd hb H0
  obtain ⟨c0, c1, c2, c3, c4, c5, z0, z1, z2, z3, z4, z5, sz⟩ := c6_cells H1.out.hs
  obtain ⟨r0, r1, r2, r3, r4, r5, rz0, rz1, rz2, rz3, rz4, rz5, rsz⟩ := c6_cells H1.out.hr
  have hr7 : r = 0 ∨ r = 1 ∨ r = 2 ∨ r = 3 ∨ r = 4 ∨ r = 5 ∨ r = 6 := by omega
  clear ra rb
  rcases hr7 with rfl | rfl | rfl | rfl | rfl | rfl | rfl
  · have hA : Below w1.heap.size w1 (w1.alloc (.cells #[.int .i64 (-1), .int .i64 (0), .int .i64 (36524), .int .i64 (36525)] 3)) := (Below.refl _ _).alloc (Nat.le_refl _) _
    have H2 := Lib.hid (H1.out.below hA)
    have hblt : w1.heap.size < (w1.alloc (.cells #[.int .i64 (-1), .int .i64 (0), .int .i64 (36524), .int .i64 (36525)] 3)).heap.size := by simp
    have hpw : w1.heap.size ≠ p := by have := H1.out.dc.lt; omega
    have hbw : w1.heap.size ≠ w.heap.size := by have := lt_of_heap H1.out.hs; omega
    have hpk := Lib.hid (fun (j : Nat) (hj : j < 4) => pick4 w1 (-1) (0) (36524) (36525) 3 hj)
    clear hA
    go_wp2_with fail
    refine (next_any p 4 _ (by omega) (by omega) H2.out.dc).mono ?_
    rintro en w3 ⟨r8, ra, rb, rfl, hd, hb⟩
    have H3 := Lib.hid (H2.out.next hd hb)
    obtain ⟨j8, rfl⟩ : ∃ j8 : Nat, r8 = j8 := ⟨r8.toNat, by omega⟩
    obtain ⟨v8, hv8, _⟩ := hpk.out j8 (by omega)
    have hc8 : w3.cell? ⟨w1.heap.size, j8, none⟩ = some (.int .i64 v8) := by rw [hb.cell hblt hpw]; exact hv8
    clear hd hb hv8 hpk H1 H2 ra
    clear c0 c1 c2 c3 c4 c5 z0 z1 z2 z3 z4 z5 sz r0 r1 r2 r3 r4 r5 rz0 rz1 rz2 rz3 rz4 rz5 rsz
    obtain ⟨c0, c1, c2, c3, c4, c5, z0, z1, z2, z3, z4, z5, sz⟩ := c6_cells H3.out.hs
    obtain ⟨r0, r1, r2, r3, r4, r5, rz0, rz1, rz2, rz3, rz4, rz5, rsz⟩ := c6_cells H3.out.hr
    go_wp2_with fail
    have HZ := Lib.hid (H3.out.set (i := 0) (v := .int .i64 v8) (c6_set0 H3.out.hs v8))
    obtain ⟨W9, hW9, hr9, i9, j9, bt9, dc9⟩ := HZ.out.fin
    rw [show (((((((w3.setCell ⟨w.heap.size, 0, none⟩ (.int .i64 v8)).setCell ⟨w.heap.size + 1, 0, none⟩ (.int .i64 v8)).setCell ⟨w.heap.size + 1, 1, none⟩ (.int .i64 l)).setCell ⟨w.heap.size + 1, 2, none⟩ (.int .i64 e)).setCell ⟨w.heap.size + 1, 3, none⟩ (.int .i64 k)).setCell ⟨w.heap.size + 1, 4, none⟩ (.slice a n c)).setCell ⟨w.heap.size + 1, 5, none⟩ (.slice b m q)) = W9 from hW9.symm]
    obtain ⟨p0, p1, p2, p3, p4, p5, _⟩ := c6_cells hr9
    refine bodyPost_ret (v := serV (v8) (l) (e) (k) a n c b m q) (by simp [results, Tryz.results20, go_sem, p0, p1, p2, p3, p4, p5]) rfl ?_
    exact ⟨_, _, _, _, _, _, _, _, _, _, xs, ys, rfl, i9, j9, by omega, HZ.out.oa.2.2.2, HZ.out.ob.2.2.2, bt9, dc9⟩
  · go_wp2_with fail
    have hdr : Below w1.heap.size w1 w1.drew := (Below.refl _ w1).drew
    have HD1 := Lib.hid (H1.out.below hdr)
    have hal : Below w1.heap.size w1 (w1.alloc (.cells #[.int .i64 (-1), .int .i64 (0), .int .i64 (140), .int .i64 (141)] 3)) := (Below.refl _ _).alloc (Nat.le_refl _) _
    have HD2 := Lib.hid ((H1.out.below hal).below (Below.refl _ (w1.alloc (.cells #[.int .i64 (-1), .int .i64 (0), .int .i64 (140), .int .i64 (141)] 3))).drew)
    clear hal
    have hblt : w1.heap.size < (w1.alloc (.cells #[.int .i64 (-1), .int .i64 (0), .int .i64 (140), .int .i64 (141)] 3)).drew.heap.size := by show w1.heap.size < (w1.alloc (.cells #[.int .i64 (-1), .int .i64 (0), .int .i64 (140), .int .i64 (141)] 3)).heap.size; simp
    have hpw : w1.heap.size ≠ p := by have := H1.out.dc.lt; omega
    have hpkA := Lib.hid (fun (j : Nat) (hj : j < 4) => pick4 w1 (-1) 0 140 141 3 hj)
    have hpkB := Lib.hid (fun (w9 : World) (j : Nat) (hj : j < 4) => pick4 w9 (-1) 0 140 141 3 hj)
    clear hdr
    clear c0 c1 c2 c3 c4 c5 z0 z1 z2 z3 z4 z5 sz r0 r1 r2 r3 r4 r5 rz0 rz1 rz2 rz3 rz4 rz5 rsz
    obtain ⟨c0, c1, c2, c3, c4, c5, z0, z1, z2, z3, z4, z5, sz⟩ := c6_cells HD1.out.hs
    obtain ⟨d0, d1, d2, d3, d4, d5, y0, y1, y2, y3, y4, y5, ysz⟩ := c6_cells HD2.out.hs
    have QA : ∀ (w9 : World) (o : Obj), w9.cell? ⟨w.heap.size, 0, none⟩ = some (.int .i64 f) → (w9.alloc o).cell? ⟨w.heap.size, 0, none⟩ = some (.int .i64 f) := fun w9 o h => by
      rw [World.cell?_alloc_past _ _ _ (World.block_lt_of_cell? _ ⟨w.heap.size, 0, none⟩ h)]; exact h
    have QS : ∀ (w9 : World) (v : Value), w9.cell? ⟨w.heap.size, 0, none⟩ = some (.int .i64 f) → (w9.setCell ⟨w.heap.size, 1, none⟩ v).cell? ⟨w.heap.size, 0, none⟩ = some (.int .i64 f) := fun w9 v h =>
      (World.cell?_setCell_other _ _ _ _ (by simp)).trans h
    have QA := Lib.hid QA
    have QS := Lib.hid QS
    go_region_with ((first | (go_at_call 32; refine (next_any p 4 _ (by decide) (by decide) HD2.out.dc).mono ?_; rintro en w5 ⟨r8, ra, rb, rfl, hd, hb⟩; have H3 := Lib.hid (HD2.out.next hd hb); obtain ⟨k0, k1, k2, k3, k4, k5, kz0, kz1, kz2, kz3, kz4, kz5, ksz⟩ := c6_cells H3.out.hs; obtain ⟨j8, rfl⟩ : ∃ j8 : Nat, r8 = j8 := ⟨r8.toNat, by omega⟩; obtain ⟨v8, hv8, hvv⟩ := hpkA.out j8 (by omega); have hc8 : w5.cell? ⟨w1.heap.size, j8, none⟩ = some (.int .i64 v8) := (hb.cell hblt hpw).trans hv8; have x1 : -1 ≤ v8 := (by omega); have x2 : v8 ≤ 141 := (by omega); have t1 : (0 : Int) ≤ (j8 : Int) := (by omega); have t2 : (j8 : Int) < 4 := (by omega); have t3 : j8 < 4 := (by omega); have y6 : IntKind.i64.wrap (f + v8) = f + v8 := IntWalk.i64_in _ (by omega); clear hd hb) | (go_at_call 32; refine (next_any p 4 _ (by decide) (by decide) HD1.out.dc).mono ?_; rintro en w5 ⟨r8, ra, rb, rfl, hd, hb⟩; have H3 := Lib.hid (HD1.out.next hd hb); obtain ⟨k0, k1, k2, k3, k4, k5, kz0, kz1, kz2, kz3, kz4, kz5, ksz⟩ := c6_cells H3.out.hs; obtain ⟨j8, rfl⟩ : ∃ j8 : Nat, r8 = j8 := ⟨r8.toNat, by omega⟩; obtain ⟨v8, hc8, hvv⟩ := hpkB.out w5 j8 (by omega); have x1 : -1 ≤ v8 := (by omega); have x2 : v8 ≤ 141 := (by omega); have t1 : (0 : Int) ≤ (j8 : Int) := (by omega); have t2 : (j8 : Int) < 4 := (by omega); have t3 : j8 < 4 := (by omega); have y6 : IntKind.i64.wrap (f + v8) = f + v8 := IntWalk.i64_in _ (by omega); clear hd hb)))
    all_goals (
      have HY1 := Lib.hid (H3.out.set (i := 1) (v := .int .i64 (f + v8)) (c6_set1 H3.out.hs (f + v8)))
      clear c0 d0 k0 k1 k2 k3 k4 k5 kz0 kz1 kz2 kz3 kz4 kz5 ksz c1 c2 c3 c4 c5 z0 z1 z2 z3 z4 z5 sz d1 d2 d3 d4 d5 y0 y1 y2 y3 y4 y5 ysz y6
      first
        | (have HZ := Lib.hid HY1.out
           obtain ⟨c0, c1, c2, c3, c4, c5, z0, z1, z2, z3, z4, z5, sz⟩ := c6_cells HZ.out.hs
           obtain ⟨r0, r1, r2, r3, r4, r5, rz0, rz1, rz2, rz3, rz4, rz5, rsz⟩ := c6_cells HZ.out.hr
           go_wp2_with fail
           obtain ⟨W9, hW9, hr9, i9, j9, bt9, dc9⟩ := HZ.out.fin
           rw [show (((((((w5.setCell ⟨w.heap.size, 1, none⟩ (.int .i64 (f + v8))).setCell ⟨w.heap.size + 1, 0, none⟩ (.int .i64 f)).setCell ⟨w.heap.size + 1, 1, none⟩ (.int .i64 (f + v8))).setCell ⟨w.heap.size + 1, 2, none⟩ (.int .i64 e)).setCell ⟨w.heap.size + 1, 3, none⟩ (.int .i64 k)).setCell ⟨w.heap.size + 1, 4, none⟩ (.slice a n c)).setCell ⟨w.heap.size + 1, 5, none⟩ (.slice b m q)) = W9 from hW9.symm]
           obtain ⟨p0, p1, p2, p3, p4, p5, _⟩ := c6_cells hr9
           refine bodyPost_ret (v := serV (f) ((f + v8)) (e) (k) a n c b m q) (by simp [results, Tryz.results20, go_sem, p0, p1, p2, p3, p4, p5]) rfl ?_
           exact ⟨_, _, _, _, _, _, _, _, _, _, xs, ys, rfl, i9, j9, by omega, HZ.out.oa.2.2.2, HZ.out.ob.2.2.2, bt9, dc9⟩)
        | (have HZ := Lib.hid (HY1.out.below ((Below.refl _ _).alloc (o := (.cells #[.int .i64 (-1), .int .i64 (0), .int .i64 (140), .int .i64 (141)] 3)) (Nat.le_refl _)))
           obtain ⟨c0, c1, c2, c3, c4, c5, z0, z1, z2, z3, z4, z5, sz⟩ := c6_cells HZ.out.hs
           obtain ⟨r0, r1, r2, r3, r4, r5, rz0, rz1, rz2, rz3, rz4, rz5, rsz⟩ := c6_cells HZ.out.hr
           go_wp2_with fail
           obtain ⟨W9, hW9, hr9, i9, j9, bt9, dc9⟩ := HZ.out.fin
           rw [show ((((((((w5.setCell ⟨w.heap.size, 1, none⟩ (.int .i64 (f + v8))).alloc (.cells #[.int .i64 (-1), .int .i64 (0), .int .i64 (140), .int .i64 (141)] 3)).setCell ⟨w.heap.size + 1, 0, none⟩ (.int .i64 f)).setCell ⟨w.heap.size + 1, 1, none⟩ (.int .i64 (f + v8))).setCell ⟨w.heap.size + 1, 2, none⟩ (.int .i64 e)).setCell ⟨w.heap.size + 1, 3, none⟩ (.int .i64 k)).setCell ⟨w.heap.size + 1, 4, none⟩ (.slice a n c)).setCell ⟨w.heap.size + 1, 5, none⟩ (.slice b m q)) = W9 from hW9.symm]
           obtain ⟨p0, p1, p2, p3, p4, p5, _⟩ := c6_cells hr9
           refine bodyPost_ret (v := serV (f) ((f + v8)) (e) (k) a n c b m q) (by simp [results, Tryz.results20, go_sem, p0, p1, p2, p3, p4, p5]) rfl ?_
           exact ⟨_, _, _, _, _, _, _, _, _, _, xs, ys, rfl, i9, j9, by omega, HZ.out.oa.2.2.2, HZ.out.ob.2.2.2, bt9, dc9⟩))
  · have hA : Below w1.heap.size w1 (w1.alloc (.cells #[.int .i64 (0), .int .i64 (5), .int .i64 (-1)] 3)) := (Below.refl _ _).alloc (Nat.le_refl _) _
    have H2 := Lib.hid (H1.out.below hA)
    have hblt : w1.heap.size < (w1.alloc (.cells #[.int .i64 (0), .int .i64 (5), .int .i64 (-1)] 3)).heap.size := by simp
    have hpw : w1.heap.size ≠ p := by have := H1.out.dc.lt; omega
    have hbw : w1.heap.size ≠ w.heap.size := by have := lt_of_heap H1.out.hs; omega
    have hpk := Lib.hid (fun (j : Nat) (hj : j < 3) => pick3 w1 (0) (5) (-1) 3 hj)
    clear hA
    go_wp2_with fail
    refine (next_any p 3 _ (by omega) (by omega) H2.out.dc).mono ?_
    rintro en w3 ⟨r8, ra, rb, rfl, hd, hb⟩
    have H3 := Lib.hid (H2.out.next hd hb)
    obtain ⟨j8, rfl⟩ : ∃ j8 : Nat, r8 = j8 := ⟨r8.toNat, by omega⟩
    obtain ⟨v8, hv8⟩ := hpk.out j8 (by omega)
    have hc8 : w3.cell? ⟨w1.heap.size, j8, none⟩ = some (.int .i64 v8) := by rw [hb.cell hblt hpw]; exact hv8
    clear hd hb hv8 hpk H1 H2 ra
    clear c0 c1 c2 c3 c4 c5 z0 z1 z2 z3 z4 z5 sz r0 r1 r2 r3 r4 r5 rz0 rz1 rz2 rz3 rz4 rz5 rsz
    obtain ⟨c0, c1, c2, c3, c4, c5, z0, z1, z2, z3, z4, z5, sz⟩ := c6_cells H3.out.hs
    obtain ⟨r0, r1, r2, r3, r4, r5, rz0, rz1, rz2, rz3, rz4, rz5, rsz⟩ := c6_cells H3.out.hr
    go_wp2_with fail
    have HZ := Lib.hid (H3.out.set (i := 2) (v := .int .i64 v8) (c6_set2 H3.out.hs v8))
    obtain ⟨W9, hW9, hr9, i9, j9, bt9, dc9⟩ := HZ.out.fin
    rw [show (((((((w3.setCell ⟨w.heap.size, 2, none⟩ (.int .i64 v8)).setCell ⟨w.heap.size + 1, 0, none⟩ (.int .i64 f)).setCell ⟨w.heap.size + 1, 1, none⟩ (.int .i64 l)).setCell ⟨w.heap.size + 1, 2, none⟩ (.int .i64 v8)).setCell ⟨w.heap.size + 1, 3, none⟩ (.int .i64 k)).setCell ⟨w.heap.size + 1, 4, none⟩ (.slice a n c)).setCell ⟨w.heap.size + 1, 5, none⟩ (.slice b m q)) = W9 from hW9.symm]
    obtain ⟨p0, p1, p2, p3, p4, p5, _⟩ := c6_cells hr9
    refine bodyPost_ret (v := serV (f) (l) (v8) (k) a n c b m q) (by simp [results, Tryz.results20, go_sem, p0, p1, p2, p3, p4, p5]) rfl ?_
    exact ⟨_, _, _, _, _, _, _, _, _, _, xs, ys, rfl, i9, j9, by omega, HZ.out.oa.2.2.2, HZ.out.ob.2.2.2, bt9, dc9⟩
  · have hA : Below w1.heap.size w1 (w1.alloc (.cells #[.int .i64 (-1), .int .i64 (0), .int .i64 (127), .int .i64 (128)] 3)) := (Below.refl _ _).alloc (Nat.le_refl _) _
    have H2 := Lib.hid (H1.out.below hA)
    have hblt : w1.heap.size < (w1.alloc (.cells #[.int .i64 (-1), .int .i64 (0), .int .i64 (127), .int .i64 (128)] 3)).heap.size := by simp
    have hpw : w1.heap.size ≠ p := by have := H1.out.dc.lt; omega
    have hbw : w1.heap.size ≠ w.heap.size := by have := lt_of_heap H1.out.hs; omega
    have hpk := Lib.hid (fun (j : Nat) (hj : j < 4) => pick4 w1 (-1) (0) (127) (128) 3 hj)
    clear hA
    go_wp2_with fail
    refine (next_any p 4 _ (by omega) (by omega) H2.out.dc).mono ?_
    rintro en w3 ⟨r8, ra, rb, rfl, hd, hb⟩
    have H3 := Lib.hid (H2.out.next hd hb)
    obtain ⟨j8, rfl⟩ : ∃ j8 : Nat, r8 = j8 := ⟨r8.toNat, by omega⟩
    obtain ⟨v8, hv8, _⟩ := hpk.out j8 (by omega)
    have hc8 : w3.cell? ⟨w1.heap.size, j8, none⟩ = some (.int .i64 v8) := by rw [hb.cell hblt hpw]; exact hv8
    clear hd hb hv8 hpk H1 H2 ra
    clear c0 c1 c2 c3 c4 c5 z0 z1 z2 z3 z4 z5 sz r0 r1 r2 r3 r4 r5 rz0 rz1 rz2 rz3 rz4 rz5 rsz
    obtain ⟨c0, c1, c2, c3, c4, c5, z0, z1, z2, z3, z4, z5, sz⟩ := c6_cells H3.out.hs
    obtain ⟨r0, r1, r2, r3, r4, r5, rz0, rz1, rz2, rz3, rz4, rz5, rsz⟩ := c6_cells H3.out.hr
    go_wp2_with fail
    have HZ := Lib.hid (H3.out.set (i := 3) (v := .int .i64 v8) (c6_set3 H3.out.hs v8))
    obtain ⟨W9, hW9, hr9, i9, j9, bt9, dc9⟩ := HZ.out.fin
    rw [show (((((((w3.setCell ⟨w.heap.size, 3, none⟩ (.int .i64 v8)).setCell ⟨w.heap.size + 1, 0, none⟩ (.int .i64 f)).setCell ⟨w.heap.size + 1, 1, none⟩ (.int .i64 l)).setCell ⟨w.heap.size + 1, 2, none⟩ (.int .i64 e)).setCell ⟨w.heap.size + 1, 3, none⟩ (.int .i64 v8)).setCell ⟨w.heap.size + 1, 4, none⟩ (.slice a n c)).setCell ⟨w.heap.size + 1, 5, none⟩ (.slice b m q)) = W9 from hW9.symm]
    obtain ⟨p0, p1, p2, p3, p4, p5, _⟩ := c6_cells hr9
    refine bodyPost_ret (v := serV (f) (l) (e) (v8) a n c b m q) (by simp [results, Tryz.results20, go_sem, p0, p1, p2, p3, p4, p5]) rfl ?_
    exact ⟨_, _, _, _, _, _, _, _, _, _, xs, ys, rfl, i9, j9, by omega, HZ.out.oa.2.2.2, HZ.out.ob.2.2.2, bt9, dc9⟩
  · go_wp2_with fail
    by_cases h0 : n = 0
    · subst h0
      have hdr : Below w1.heap.size w1 w1.drew := (Below.refl _ w1).drew
      have HD1 := Lib.hid (H1.out.below hdr)
      clear hdr
      clear c0 c1 c2 c3 c4 c5 z0 z1 z2 z3 z4 z5 sz r0 r1 r2 r3 r4 r5 rz0 rz1 rz2 rz3 rz4 rz5 rsz
      obtain ⟨c0, c1, c2, c3, c4, c5, z0, z1, z2, z3, z4, z5, sz⟩ := c6_cells HD1.out.hs
      have hbs := Lib.hid (lt_of_heap H1.out.hr)
      have hxs : xs = [] := List.eq_nil_of_length_eq_zero HD1.out.ia.len
      subst hxs
      obtain ⟨i0, hi, hz0, hz1, hz2⟩ := info_parts Tryz.infoInt
      have HI0 := Lib.hid hi; have HZ0 := Lib.hid hz0; have HZ1 := Lib.hid hz1; have HZ2 := Lib.hid hz2
      clear hi hz0 hz1 hz2
      cases a
      all_goals go_region_law (first
        | (go_simp; go_at_call 32; refine (next_any p 60 _ (by decide) (by decide) HD1.out.dc).mono ?_; rintro en w5 ⟨r8, ra, rb, rfl, hd, hb⟩; have H3 := Lib.hid (HD1.out.next hd hb); obtain ⟨j0, j1, j2, j3, j4, j5, jz0, jz1, jz2, jz3, jz4, jz5, jsz⟩ := c6_cells H3.out.hs; have hb5 := Lib.hid (show w1.heap.size ≤ w5.heap.size from hb.size); have y6 : IntKind.i64.wrap (f + r8) = f + r8 := IntWalk.i64_in _ (by omega); clear hd hb)
        | (refine step_append_lies _ rfl (.tmp 52) (.tmp 58) 22 rfl w1.heap.size 3 i0 (.int .i64 0) 1 8 Tryz.underlying22 HI0.out HZ0.out HZ1.out HZ2.out rfl (by decide) (.slice none 0 0) 0 [] (by simp [Act.eval]) (World.ownsRow_nil _ _ _ _) ⟨w5.heap.size, 0, none⟩ 1 1 [.int .i64 (f + r8)] (by simp [Act.eval]) rfl (cell_one_new _ _ _) (by simp [Value.oneCell']) (by decide) (by decide) (by decide) (by have := hb5.out; simp; omega) _ rfl ?_; intro g2 cap2 w6 hown2 hg2 hat2 hlt2; have HG2 := Lib.hid hg2; have HOW2 := Lib.hid (row_n (n := 0) (xs := []) rfl hown2); obtain ⟨l0, l1', l2', l3', l4', l5', lz0, lz1, lz2, lz3, lz4, lz5, lsz⟩ := c6_cells (H3.out.hs6 hg2 (fun g hgg => by cases hgg)); clear hown2 hg2 hat2 hlt2)
        | fail)
      all_goals (
        have HZ := Lib.hid (H3.out.app4 (base := w1.heap.size) (by have := hbs.out; omega) (fun g hgg => by cases hgg) HOW2.out HG2.out rfl)
        clear c0 c1 c2 c3 c4 c5 z0 z1 z2 z3 z4 z5 sz j0 j1 j2 j3 j4 j5 jz0 jz1 jz2 jz3 jz4 jz5 jsz l0 l1' l2' l3' l4' l5' lz0 lz1 lz2 lz3 lz4 lz5 lsz y6
        obtain ⟨c0, c1, c2, c3, c4, c5, z0, z1, z2, z3, z4, z5, sz⟩ := c6_cells HZ.out.hs
        obtain ⟨r0, r1, r2, r3, r4, r5, rz0, rz1, rz2, rz3, rz4, rz5, rsz⟩ := c6_cells HZ.out.hr
        go_wp2_with fail
        obtain ⟨W9, hW9, hr9, i9, j9, bt9, dc9⟩ := HZ.out.fin
        rw [show (((((((w6.setCell ⟨w.heap.size, 4, none⟩ (.slice (some ⟨g2, 0, none⟩) (0 + 1) cap2)).setCell ⟨w.heap.size + 1, 0, none⟩ (.int .i64 f)).setCell ⟨w.heap.size + 1, 1, none⟩ (.int .i64 l)).setCell ⟨w.heap.size + 1, 2, none⟩ (.int .i64 e)).setCell ⟨w.heap.size + 1, 3, none⟩ (.int .i64 k)).setCell ⟨w.heap.size + 1, 4, none⟩ (.slice (some ⟨g2, 0, none⟩) (0 + 1) cap2)).setCell ⟨w.heap.size + 1, 5, none⟩ (.slice b m q)) = W9 from hW9.symm]
        obtain ⟨p0, p1, p2, p3, p4, p5, _⟩ := c6_cells hr9
        refine bodyPost_ret (v := serV (f) (l) (e) (k) (some ⟨g2, 0, none⟩) (0 + 1) cap2 b m q) (by simp [results, Tryz.results20, go_sem, p0, p1, p2, p3, p4, p5]) rfl ?_
        exact ⟨_, _, _, _, _, _, _, _, _, _, ([] ++ [f + r8]), ys, rfl, i9, j9, by omega, HZ.out.oa.2.2.2, HZ.out.ob.2.2.2, bt9, dc9⟩)
    · have hdr : Below w1.heap.size w1 w1.drew := (Below.refl _ w1).drew
      have HD1 := Lib.hid (H1.out.below hdr)
      clear hdr
      clear c0 c1 c2 c3 c4 c5 z0 z1 z2 z3 z4 z5 sz r0 r1 r2 r3 r4 r5 rz0 rz1 rz2 rz3 rz4 rz5 rsz
      obtain ⟨c0, c1, c2, c3, c4, c5, z0, z1, z2, z3, z4, z5, sz⟩ := c6_cells HD1.out.hs
      obtain ⟨ab, ao, rfl, hab, hac⟩ := HD1.out.ia.cell (j := 0) (by omega)
      have hlx := HD1.out.ia.len
      have HNW := Lib.hid (news_ints hlx hac)
      have HOC := Lib.hid (ones_ints xs)
      have hn0 : 0 < n := by omega
      have hbs := Lib.hid (lt_of_heap H1.out.hr)
      have hoffb := Lib.hid (fun (g : Nat) (h : w1.heap.size ≤ g) => off_past (p := g) H1.out.ib h)
      have HLX := Lib.hid hlx
      clear hac hlx
      obtain ⟨i0, hi, hz0, hz1, hz2⟩ := info_parts Tryz.infoInt
      have HI0 := Lib.hid hi; have HZ0 := Lib.hid hz0; have HZ1 := Lib.hid hz1; have HZ2 := Lib.hid hz2
      clear hi hz0 hz1 hz2
      go_region_law (first
        | (refine step_append_lies _ rfl (.const (.slice none 0 0)) (.tmp 51) 22 rfl w1.heap.size 3 i0 (.int .i64 0) 1 8 Tryz.underlying22 HI0.out HZ0.out HZ1.out HZ2.out rfl (by decide) (.slice none 0 0) 0 [] (by simp [Act.eval]) (World.ownsRow_nil _ _ _ _) ⟨ab, ao, none⟩ n c (xs.map (Value.int .i64)) (by simp [Act.eval]) (by rw [List.length_map, HLX.out, Nat.mul_one]) HNW.out HOC.out hn0 (by unfold maxLen; omega) (by omega) (Nat.le_refl _) _ rfl ?_; intro g1 cap1 w2 hown1 hg1 hat1 hlt1; have HD2 := Lib.hid (HD1.out.below ⟨hg1.os, hg1.tape, hg1.output, hg1.size, fun i hi => hg1.block i hi (by simp [Value.ownBlock])⟩); have HO1 := Lib.hid (own_norm (v := fun n => .slice (some ⟨g1, 0, none⟩) n cap1) hown1); have hge1 := Lib.hid (HO1.out.lt g1 rfl).1; obtain ⟨k0, k1, k2, k3, k4, k5, kz0, kz1, kz2, kz3, kz4, kz5, ksz⟩ := c6_cells HD2.out.hs; have hw12 := Lib.hid (show w1.heap.size ≤ w2.heap.size from hg1.size); clear hown1 hg1 hat1 hlt1)
        | (go_simp; go_at_call 32; refine (next_any p 60 _ (by decide) (by decide) HD2.out.dc).mono ?_; rintro en w5 ⟨r8, ra, rb, rfl, hd, hb⟩; have H3 := Lib.hid (HD2.out.next hd hb); have HO2 := Lib.hid (row_but HO1.out hb (by have := H1.out.dc.lt; omega)); obtain ⟨j0, j1, j2, j3, j4, j5, jz0, jz1, jz2, jz3, jz4, jz5, jsz⟩ := c6_cells H3.out.hs; have hb5 := Lib.hid hb.size; have y6 : IntKind.i64.wrap (f + r8) = f + r8 := IntWalk.i64_in _ (by omega); clear hd hb)
        | (refine step_append_lies _ rfl (.tmp 52) (.tmp 58) 22 rfl w1.heap.size 3 i0 (.int .i64 0) 1 8 Tryz.underlying22 HI0.out HZ0.out HZ1.out HZ2.out rfl (by decide) (.slice (some ⟨g1, 0, none⟩) n cap1) n (xs.map (Value.int .i64)) (by simp [Act.eval]) (HO2.out.alloc _) ⟨w5.heap.size, 0, none⟩ 1 1 [.int .i64 (f + r8)] (by simp [Act.eval]) rfl (cell_one_new _ _ _) (by simp [Value.oneCell']) (by decide) (by unfold maxLen; omega) (by omega) (by have := hw12.out; have := hb5.out; simp; omega) _ rfl ?_; intro g2 cap2 w6 hown2 hg2 hat2 hlt2; have HG2 := Lib.hid hg2; have HOW2 := Lib.hid (row_n HLX.out hown2); obtain ⟨l0, l1', l2', l3', l4', l5', lz0, lz1, lz2, lz3, lz4, lz5, lsz⟩ := c6_cells (H3.out.hs6 hg2 (fun g hgg => by have := own_at hgg; have := hge1.out; have := hbs.out; omega)); clear hown2 hg2 hat2 hlt2)
        | fail)
      all_goals (
        have HZ := Lib.hid (H3.out.app4 (base := w1.heap.size) (by have := hbs.out; omega) (fun g hgg => by cases own_at hgg; exact ⟨hge1.out, hoffb.out _ hge1.out⟩) HOW2.out HG2.out HLX.out)
        clear c0 c1 c2 c3 c4 c5 z0 z1 z2 z3 z4 z5 sz k0 k1 k2 k3 k4 k5 kz0 kz1 kz2 kz3 kz4 kz5 ksz j0 j1 j2 j3 j4 j5 jz0 jz1 jz2 jz3 jz4 jz5 jsz l0 l1' l2' l3' l4' l5' lz0 lz1 lz2 lz3 lz4 lz5 lsz y6
        obtain ⟨c0, c1, c2, c3, c4, c5, z0, z1, z2, z3, z4, z5, sz⟩ := c6_cells HZ.out.hs
        obtain ⟨r0, r1, r2, r3, r4, r5, rz0, rz1, rz2, rz3, rz4, rz5, rsz⟩ := c6_cells HZ.out.hr
        go_wp2_with fail
        obtain ⟨W9, hW9, hr9, i9, j9, bt9, dc9⟩ := HZ.out.fin
        rw [show (((((((w6.setCell ⟨w.heap.size, 4, none⟩ (.slice (some ⟨g2, 0, none⟩) (n + 1) cap2)).setCell ⟨w.heap.size + 1, 0, none⟩ (.int .i64 f)).setCell ⟨w.heap.size + 1, 1, none⟩ (.int .i64 l)).setCell ⟨w.heap.size + 1, 2, none⟩ (.int .i64 e)).setCell ⟨w.heap.size + 1, 3, none⟩ (.int .i64 k)).setCell ⟨w.heap.size + 1, 4, none⟩ (.slice (some ⟨g2, 0, none⟩) (n + 1) cap2)).setCell ⟨w.heap.size + 1, 5, none⟩ (.slice b m q)) = W9 from hW9.symm]
        obtain ⟨p0, p1, p2, p3, p4, p5, _⟩ := c6_cells hr9
        refine bodyPost_ret (v := serV (f) (l) (e) (k) (some ⟨g2, 0, none⟩) (n + 1) cap2 b m q) (by simp [results, Tryz.results20, go_sem, p0, p1, p2, p3, p4, p5]) rfl ?_
        exact ⟨_, _, _, _, _, _, _, _, _, _, (xs ++ [f + r8]), ys, rfl, i9, j9, by omega, HZ.out.oa.2.2.2, HZ.out.ob.2.2.2, bt9, dc9⟩)
  · go_wp2_with fail
    by_cases h0 : m = 0
    · subst h0
      have hdr : Below w1.heap.size w1 w1.drew := (Below.refl _ w1).drew
      have HD1 := Lib.hid (H1.out.below hdr)
      clear hdr
      clear c0 c1 c2 c3 c4 c5 z0 z1 z2 z3 z4 z5 sz r0 r1 r2 r3 r4 r5 rz0 rz1 rz2 rz3 rz4 rz5 rsz
      obtain ⟨c0, c1, c2, c3, c4, c5, z0, z1, z2, z3, z4, z5, sz⟩ := c6_cells HD1.out.hs
      have hbs := Lib.hid (lt_of_heap H1.out.hr)
      have hxs : ys = [] := List.eq_nil_of_length_eq_zero HD1.out.ib.len
      subst hxs
      obtain ⟨i0, hi, hz0, hz1, hz2⟩ := info_parts Tryz.infoInt
      have HI0 := Lib.hid hi; have HZ0 := Lib.hid hz0; have HZ1 := Lib.hid hz1; have HZ2 := Lib.hid hz2
      clear hi hz0 hz1 hz2
      cases b
      all_goals go_region_law (first
        | (go_simp; go_at_call 32; refine (next_any p 60 _ (by decide) (by decide) HD1.out.dc).mono ?_; rintro en w5 ⟨r8, ra, rb, rfl, hd, hb⟩; have H3 := Lib.hid (HD1.out.next hd hb); obtain ⟨j0, j1, j2, j3, j4, j5, jz0, jz1, jz2, jz3, jz4, jz5, jsz⟩ := c6_cells H3.out.hs; have hb5 := Lib.hid (show w1.heap.size ≤ w5.heap.size from hb.size); have y6 : IntKind.i64.wrap (f + r8) = f + r8 := IntWalk.i64_in _ (by omega); clear hd hb)
        | (refine step_append_lies _ rfl (.tmp 65) (.tmp 71) 22 rfl w1.heap.size 3 i0 (.int .i64 0) 1 8 Tryz.underlying22 HI0.out HZ0.out HZ1.out HZ2.out rfl (by decide) (.slice none 0 0) 0 [] (by simp [Act.eval]) (World.ownsRow_nil _ _ _ _) ⟨w5.heap.size, 0, none⟩ 1 1 [.int .i64 (f + r8)] (by simp [Act.eval]) rfl (cell_one_new _ _ _) (by simp [Value.oneCell']) (by decide) (by decide) (by decide) (by have := hb5.out; simp; omega) _ rfl ?_; intro g2 cap2 w6 hown2 hg2 hat2 hlt2; have HG2 := Lib.hid hg2; have HOW2 := Lib.hid (row_n (n := 0) (xs := []) rfl hown2); obtain ⟨l0, l1', l2', l3', l4', l5', lz0, lz1, lz2, lz3, lz4, lz5, lsz⟩ := c6_cells (H3.out.hs6 hg2 (fun g hgg => by cases hgg)); clear hown2 hg2 hat2 hlt2)
        | fail)
      all_goals (
        have HZ := Lib.hid (H3.out.app5 (base := w1.heap.size) (by have := hbs.out; omega) (fun g hgg => by cases hgg) HOW2.out HG2.out rfl)
        clear c0 c1 c2 c3 c4 c5 z0 z1 z2 z3 z4 z5 sz j0 j1 j2 j3 j4 j5 jz0 jz1 jz2 jz3 jz4 jz5 jsz l0 l1' l2' l3' l4' l5' lz0 lz1 lz2 lz3 lz4 lz5 lsz y6
        obtain ⟨c0, c1, c2, c3, c4, c5, z0, z1, z2, z3, z4, z5, sz⟩ := c6_cells HZ.out.hs
        obtain ⟨r0, r1, r2, r3, r4, r5, rz0, rz1, rz2, rz3, rz4, rz5, rsz⟩ := c6_cells HZ.out.hr
        go_wp2_with fail
        obtain ⟨W9, hW9, hr9, i9, j9, bt9, dc9⟩ := HZ.out.fin
        rw [show (((((((w6.setCell ⟨w.heap.size, 5, none⟩ (.slice (some ⟨g2, 0, none⟩) (0 + 1) cap2)).setCell ⟨w.heap.size + 1, 0, none⟩ (.int .i64 f)).setCell ⟨w.heap.size + 1, 1, none⟩ (.int .i64 l)).setCell ⟨w.heap.size + 1, 2, none⟩ (.int .i64 e)).setCell ⟨w.heap.size + 1, 3, none⟩ (.int .i64 k)).setCell ⟨w.heap.size + 1, 4, none⟩ (.slice a n c)).setCell ⟨w.heap.size + 1, 5, none⟩ (.slice (some ⟨g2, 0, none⟩) (0 + 1) cap2)) = W9 from hW9.symm]
        obtain ⟨p0, p1, p2, p3, p4, p5, _⟩ := c6_cells hr9
        refine bodyPost_ret (v := serV (f) (l) (e) (k) a n c (some ⟨g2, 0, none⟩) (0 + 1) cap2) (by simp [results, Tryz.results20, go_sem, p0, p1, p2, p3, p4, p5]) rfl ?_
        exact ⟨_, _, _, _, _, _, _, _, _, _, xs, ([] ++ [f + r8]), rfl, i9, j9, by omega, HZ.out.oa.2.2.2, HZ.out.ob.2.2.2, bt9, dc9⟩)
    · have hdr : Below w1.heap.size w1 w1.drew := (Below.refl _ w1).drew
      have HD1 := Lib.hid (H1.out.below hdr)
      clear hdr
      clear c0 c1 c2 c3 c4 c5 z0 z1 z2 z3 z4 z5 sz r0 r1 r2 r3 r4 r5 rz0 rz1 rz2 rz3 rz4 rz5 rsz
      obtain ⟨c0, c1, c2, c3, c4, c5, z0, z1, z2, z3, z4, z5, sz⟩ := c6_cells HD1.out.hs
      obtain ⟨ab, ao, rfl, hab, hac⟩ := HD1.out.ib.cell (j := 0) (by omega)
      have hlx := HD1.out.ib.len
      have HNW := Lib.hid (news_ints hlx hac)
      have HOC := Lib.hid (ones_ints ys)
      have hn0 : 0 < m := by omega
      have hbs := Lib.hid (lt_of_heap H1.out.hr)
      have hoffb := Lib.hid (fun (g : Nat) (h : w1.heap.size ≤ g) => off_past (p := g) H1.out.ia h)
      have HLX := Lib.hid hlx
      clear hac hlx
      obtain ⟨i0, hi, hz0, hz1, hz2⟩ := info_parts Tryz.infoInt
      have HI0 := Lib.hid hi; have HZ0 := Lib.hid hz0; have HZ1 := Lib.hid hz1; have HZ2 := Lib.hid hz2
      clear hi hz0 hz1 hz2
      go_region_law (first
        | (refine step_append_lies _ rfl (.const (.slice none 0 0)) (.tmp 64) 22 rfl w1.heap.size 3 i0 (.int .i64 0) 1 8 Tryz.underlying22 HI0.out HZ0.out HZ1.out HZ2.out rfl (by decide) (.slice none 0 0) 0 [] (by simp [Act.eval]) (World.ownsRow_nil _ _ _ _) ⟨ab, ao, none⟩ m q (ys.map (Value.int .i64)) (by simp [Act.eval]) (by rw [List.length_map, HLX.out, Nat.mul_one]) HNW.out HOC.out hn0 (by unfold maxLen; omega) (by omega) (Nat.le_refl _) _ rfl ?_; intro g1 cap1 w2 hown1 hg1 hat1 hlt1; have HD2 := Lib.hid (HD1.out.below ⟨hg1.os, hg1.tape, hg1.output, hg1.size, fun i hi => hg1.block i hi (by simp [Value.ownBlock])⟩); have HO1 := Lib.hid (own_norm (v := fun m => .slice (some ⟨g1, 0, none⟩) m cap1) hown1); have hge1 := Lib.hid (HO1.out.lt g1 rfl).1; obtain ⟨k0, k1, k2, k3, k4, k5, kz0, kz1, kz2, kz3, kz4, kz5, ksz⟩ := c6_cells HD2.out.hs; have hw12 := Lib.hid (show w1.heap.size ≤ w2.heap.size from hg1.size); clear hown1 hg1 hat1 hlt1)
        | (go_simp; go_at_call 32; refine (next_any p 60 _ (by decide) (by decide) HD2.out.dc).mono ?_; rintro en w5 ⟨r8, ra, rb, rfl, hd, hb⟩; have H3 := Lib.hid (HD2.out.next hd hb); have HO2 := Lib.hid (row_but HO1.out hb (by have := H1.out.dc.lt; omega)); obtain ⟨j0, j1, j2, j3, j4, j5, jz0, jz1, jz2, jz3, jz4, jz5, jsz⟩ := c6_cells H3.out.hs; have hb5 := Lib.hid hb.size; have y6 : IntKind.i64.wrap (f + r8) = f + r8 := IntWalk.i64_in _ (by omega); clear hd hb)
        | (refine step_append_lies _ rfl (.tmp 65) (.tmp 71) 22 rfl w1.heap.size 3 i0 (.int .i64 0) 1 8 Tryz.underlying22 HI0.out HZ0.out HZ1.out HZ2.out rfl (by decide) (.slice (some ⟨g1, 0, none⟩) m cap1) m (ys.map (Value.int .i64)) (by simp [Act.eval]) (HO2.out.alloc _) ⟨w5.heap.size, 0, none⟩ 1 1 [.int .i64 (f + r8)] (by simp [Act.eval]) rfl (cell_one_new _ _ _) (by simp [Value.oneCell']) (by decide) (by unfold maxLen; omega) (by omega) (by have := hw12.out; have := hb5.out; simp; omega) _ rfl ?_; intro g2 cap2 w6 hown2 hg2 hat2 hlt2; have HG2 := Lib.hid hg2; have HOW2 := Lib.hid (row_n HLX.out hown2); obtain ⟨l0, l1', l2', l3', l4', l5', lz0, lz1, lz2, lz3, lz4, lz5, lsz⟩ := c6_cells (H3.out.hs6 hg2 (fun g hgg => by have := own_at hgg; have := hge1.out; have := hbs.out; omega)); clear hown2 hg2 hat2 hlt2)
        | fail)
      all_goals (
        have HZ := Lib.hid (H3.out.app5 (base := w1.heap.size) (by have := hbs.out; omega) (fun g hgg => by cases own_at hgg; exact ⟨hge1.out, hoffb.out _ hge1.out⟩) HOW2.out HG2.out HLX.out)
        clear c0 c1 c2 c3 c4 c5 z0 z1 z2 z3 z4 z5 sz k0 k1 k2 k3 k4 k5 kz0 kz1 kz2 kz3 kz4 kz5 ksz j0 j1 j2 j3 j4 j5 jz0 jz1 jz2 jz3 jz4 jz5 jsz l0 l1' l2' l3' l4' l5' lz0 lz1 lz2 lz3 lz4 lz5 lsz y6
        obtain ⟨c0, c1, c2, c3, c4, c5, z0, z1, z2, z3, z4, z5, sz⟩ := c6_cells HZ.out.hs
        obtain ⟨r0, r1, r2, r3, r4, r5, rz0, rz1, rz2, rz3, rz4, rz5, rsz⟩ := c6_cells HZ.out.hr
        go_wp2_with fail
        obtain ⟨W9, hW9, hr9, i9, j9, bt9, dc9⟩ := HZ.out.fin
        rw [show (((((((w6.setCell ⟨w.heap.size, 5, none⟩ (.slice (some ⟨g2, 0, none⟩) (m + 1) cap2)).setCell ⟨w.heap.size + 1, 0, none⟩ (.int .i64 f)).setCell ⟨w.heap.size + 1, 1, none⟩ (.int .i64 l)).setCell ⟨w.heap.size + 1, 2, none⟩ (.int .i64 e)).setCell ⟨w.heap.size + 1, 3, none⟩ (.int .i64 k)).setCell ⟨w.heap.size + 1, 4, none⟩ (.slice a n c)).setCell ⟨w.heap.size + 1, 5, none⟩ (.slice (some ⟨g2, 0, none⟩) (m + 1) cap2)) = W9 from hW9.symm]
        obtain ⟨p0, p1, p2, p3, p4, p5, _⟩ := c6_cells hr9
        refine bodyPost_ret (v := serV (f) (l) (e) (k) a n c (some ⟨g2, 0, none⟩) (m + 1) cap2) (by simp [results, Tryz.results20, go_sem, p0, p1, p2, p3, p4, p5]) rfl ?_
        exact ⟨_, _, _, _, _, _, _, _, _, _, xs, (ys ++ [f + r8]), rfl, i9, j9, by omega, HZ.out.oa.2.2.2, HZ.out.ob.2.2.2, bt9, dc9⟩)
  · go_wp2_with fail
    have HZ := Lib.hid H1.out.swap
    obtain ⟨W9, hW9, hr9, i9, j9, bt9, dc9⟩ := HZ.out.fin
    rw [show ((((((((w1.setCell ⟨w.heap.size, 4, none⟩ (.slice b m q)).setCell ⟨w.heap.size, 5, none⟩ (.slice a n c)).setCell ⟨w.heap.size + 1, 0, none⟩ (.int .i64 f)).setCell ⟨w.heap.size + 1, 1, none⟩ (.int .i64 l)).setCell ⟨w.heap.size + 1, 2, none⟩ (.int .i64 e)).setCell ⟨w.heap.size + 1, 3, none⟩ (.int .i64 k)).setCell ⟨w.heap.size + 1, 4, none⟩ (.slice b m q)).setCell ⟨w.heap.size + 1, 5, none⟩ (.slice a n c)) = W9 from hW9.symm]
    obtain ⟨p0, p1, p2, p3, p4, p5, _⟩ := c6_cells hr9
    refine bodyPost_ret (v := serV (f) (l) (e) (k) b m q a n c) (by simp [results, Tryz.results20, go_sem, p0, p1, p2, p3, p4, p5]) rfl ?_
    exact ⟨_, _, _, _, _, _, _, _, _, _, ys, xs, rfl, i9, j9, by omega, HZ.out.oa.2.2.2, HZ.out.ob.2.2.2, bt9, dc9⟩

end Go.Proofs.YtibigbfkokendaaGreatDoor
