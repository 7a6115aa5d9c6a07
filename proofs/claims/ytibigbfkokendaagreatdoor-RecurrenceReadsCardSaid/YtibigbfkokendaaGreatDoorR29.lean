/- Series: a series, sometimes an odd one. -/
import Derived.Test.YtibigbfkokendaaGreatDoorR28
namespace Go.Proofs.YtibigbfkokendaaGreatDoor
open Go.RowKit Go.Maps TT

/-- what the dice give: a series, perhaps an odd one -/
def MadeE (p : Nat) (w : World) (en : Ending) (w' : World) : Prop :=
  ∃ f l e k a n c b m q xs ys, en = .returned (serV f l e k a n c b m q) ∧ IntsAt w' a n xs ∧ IntsAt w' b m ys ∧ n + m ≤ 2000 ∧ But p w w' ∧ DiceAt w' p
theorem some_fin {w wr : World} {p : Nat} {f l e k : Int} {a : Option Addr} {n c : Nat} {b : Option Addr} {m q : Nat} {xs ys : List Int} (hr : wr.heap[w.heap.size]? = some (cells6 0 0 0 0 (.slice none 0 0) (.slice none 0 0))) (ia : IntsAt wr a n xs) (ib : IntsAt wr b m ys) (oa : Off w.heap.size n a) (ob : Off w.heap.size m b) (dc : DiceAt wr p) (bt : But p w wr) (hp : p < w.heap.size) :
    ∃ W9, W9 = put6 wr w.heap.size f l e k (.slice a n c) (.slice b m q) ∧ W9.heap[w.heap.size]? = some (cells6 f l e k (.slice a n c) (.slice b m q)) ∧ IntsAt W9 a n xs ∧ IntsAt W9 b m ys ∧ But p w W9 ∧ DiceAt W9 p := by
  have hsz := lt_of_heap hr
  have hg := grownBy_put6 wr w.heap.size f l e k (.slice a n c) (.slice b m q)
  have hb : But w.heap.size wr (put6 wr w.heap.size f l e k (.slice a n c) (.slice b m q)) := ⟨hg.os, hg.tape, hg.output, hg.size, fun q h1 h2 => hg.block q h1 (fun e => h2 (by cases e; rfl))⟩
  exact ⟨_, rfl, c6_all hr _ _ _ _ _ _, ia.but oa hb, ib.but ob hb, bt.grown hg (fun g e => by cases e; omega), dc.same (fun q hq => hb.block q (by omega) (by omega))⟩

set_option maxRecDepth 100000 in
set_option maxHeartbeats 4000000 in
theorem some_any (p : Nat) (w : World) (hD : DiceAt w p) : Calls Tryz.prog 7 #[.pointer (some ⟨p, 0, none⟩)] w (MadeE p w) := by
  have hp := hD.lt
  have hb0 : Below w.heap.size w (w.alloc (.cells #[.int .i64 0, .int .i64 0, .int .i64 0, .int .i64 0, .slice none 0 0, .slice none 0 0] 24)) := (Below.refl _ _).alloc (Nat.le_refl _) _
  have HR0 := Lib.hid (show (w.alloc (.cells #[.int .i64 0, .int .i64 0, .int .i64 0, .int .i64 0, .slice none 0 0, .slice none 0 0] 24)).heap[w.heap.size]? = some (cells6 0 0 0 0 (.slice none 0 0) (.slice none 0 0)) from World.alloc_heap_new w _)
  have HD0 := Lib.hid (hD.below hb0)
  have HB0 := Lib.hid (But.of_below (p := p) hb0)
  clear hD hb0
  go_enter Tryz.func7, Tryz.ntmps7
  go_wp2_with fail
  refine (mseries_any p _ HD0.out).mono ?_
  rintro en w1 ⟨f, l, e, k, a, n, c, b, m, q, xs, ys, rfl, hx, hy, hs, f1, f2, ox, oy, hb, hd⟩
  have hsz0 : (w.alloc (.cells #[.int .i64 0, .int .i64 0, .int .i64 0, .int .i64 0, .slice none 0 0, .slice none 0 0] 24)).heap.size = w.heap.size + 1 := by simp
  have hr1 := (hb.block _ (by omega) (by omega)).trans HR0.out
  have hlr := lt_of_heap hr1
  have hB : Below w1.heap.size w1 (w1.alloc (.cells #[.int .i64 f, .int .i64 l, .int .i64 e, .int .i64 k, .slice a n c, .slice b m q] 24)) := (Below.refl _ _).alloc (Nat.le_refl _) _
  have hs1 : (w1.alloc (.cells #[.int .i64 f, .int .i64 l, .int .i64 e, .int .i64 k, .slice a n c, .slice b m q] 24)).heap[w1.heap.size]? = some (cells6 f l e k (.slice a n c) (.slice b m q)) := World.alloc_heap_new w1 _
  have HR1 := Lib.hid ((hB.block _ hlr).trans hr1)
  have HS1 := Lib.hid hs1
  have HD1 := Lib.hid (hd.below hB)
  have HB1 := Lib.hid ((HB0.out.trans hb).trans (But.of_below (p := p) hB))
  have HX := Lib.hid (hx.below hB)
  have HY := Lib.hid (hy.below hB)
  have OXP := Lib.hid (ox p (by omega)); have OXZ := Lib.hid (ox w.heap.size (by omega))
  have OYP := Lib.hid (oy p (by omega)); have OYZ := Lib.hid (oy w.heap.size (by omega))
  clear hx hy ox oy hb hd hr1 hB hs1 HR0 HD0 HB0 hsz0
  go_wp2_with fail
  refine (one_any p 5 _ (by omega) (by omega) HD1.out).mono ?_
  rintro en w3 ⟨b3, rfl, hd, hb⟩
  have HS3 := Lib.hid ((hb.block _ (lt_of_heap HS1.out) (by omega)).trans HS1.out)
  have HR3 := Lib.hid ((hb.block _ (lt_of_heap HR1.out) (by omega)).trans HR1.out)
  have HD3 := Lib.hid hd
  have HB3 := Lib.hid (HB1.out.trans hb)
  have HX3 := Lib.hid (HX.out.but OXP.out hb)
  have HY3 := Lib.hid (HY.out.but OYP.out hb)
  clear hd hb HS1 HR1 HD1 HB1 HX HY
  generalize w1.heap.size = B at *
  obtain ⟨c0, c1, c2, c3, c4, c5, z0, z1, z2, z3, z4, z5, sz⟩ := c6_cells HS3.out
  obtain ⟨r0, r1, r2, r3, r4, r5, rz0, rz1, rz2, rz3, rz4, rz5, rsz⟩ := c6_cells HR3.out
  cases b3
  · go_wp2_with fail
    obtain ⟨W9, hW9, hr9, i9, j9, bt9, dc9⟩ := some_fin (f := f) (l := l) (e := e) (k := k) (c := c) (q := q) HR3.out HX3.out HY3.out OXZ.out OYZ.out HD3.out HB3.out hp
    rw [show ((((((w3.setCell ⟨w.heap.size, 0, none⟩ (.int .i64 f)).setCell ⟨w.heap.size, 1, none⟩ (.int .i64 l)).setCell ⟨w.heap.size, 2, none⟩ (.int .i64 e)).setCell ⟨w.heap.size, 3, none⟩ (.int .i64 k)).setCell ⟨w.heap.size, 4, none⟩ (.slice a n c)).setCell ⟨w.heap.size, 5, none⟩ (.slice b m q)) = W9 from hW9.symm]
    obtain ⟨p0, p1, p2, p3, p4, p5, _⟩ := c6_cells hr9
    refine bodyPost_ret (v := serV (f) (l) (e) (k) a n c b m q) (by simp [results, Tryz.results7, go_sem, p0, p1, p2, p3, p4, p5]) rfl ?_
    exact ⟨_, _, _, _, _, _, _, _, _, _, xs, ys, rfl, i9, j9, by omega, bt9, dc9⟩

  · go_wp2_with fail
    refine (modd_any p w.heap.size f l e k a n c b m q xs ys w3 HD3.out HX3.out HY3.out OXP.out OYP.out OXZ.out OYZ.out (lt_of_heap HR3.out) hs f1 (by omega)).mono ?_
    rintro en w5 ⟨f', l', e', k', a', n', c', b', m', q', xs', ys', rfl, hx, hy, hs', oa', ob', hb, hd⟩
    have HR5 := Lib.hid ((hb.block _ (lt_of_heap HR3.out) (by omega)).trans HR3.out)
    have HD5 := Lib.hid hd
    have HB5 := Lib.hid (HB3.out.trans hb)
    have HX5 := Lib.hid hx
    have HY5 := Lib.hid hy
    clear hx hy hd hb c0 c1 c2 c3 c4 c5 z0 z1 z2 z3 z4 z5 sz r0 r1 r2 r3 r4 r5 rz0 rz1 rz2 rz3 rz4 rz5 rsz
    obtain ⟨r0, r1, r2, r3, r4, r5, rz0, rz1, rz2, rz3, rz4, rz5, rsz⟩ := c6_cells HR5.out
    go_wp2_with fail
    obtain ⟨W9, hW9, hr9, i9, j9, bt9, dc9⟩ := some_fin (f := f') (l := l') (e := e') (k := k') (c := c') (q := q') HR5.out HX5.out HY5.out oa' ob' HD5.out HB5.out hp
    rw [show ((((((w5.setCell ⟨w.heap.size, 0, none⟩ (.int .i64 f')).setCell ⟨w.heap.size, 1, none⟩ (.int .i64 l')).setCell ⟨w.heap.size, 2, none⟩ (.int .i64 e')).setCell ⟨w.heap.size, 3, none⟩ (.int .i64 k')).setCell ⟨w.heap.size, 4, none⟩ (.slice a' n' c')).setCell ⟨w.heap.size, 5, none⟩ (.slice b' m' q')) = W9 from hW9.symm]
    obtain ⟨p0, p1, p2, p3, p4, p5, _⟩ := c6_cells hr9
    refine bodyPost_ret (v := serV (f') (l') (e') (k') a' n' c' b' m' q') (by simp [results, Tryz.results7, go_sem, p0, p1, p2, p3, p4, p5]) rfl ?_
    exact ⟨_, _, _, _, _, _, _, _, _, _, xs', ys', rfl, i9, j9, by omega, bt9, dc9⟩


end Go.Proofs.YtibigbfkokendaaGreatDoor
