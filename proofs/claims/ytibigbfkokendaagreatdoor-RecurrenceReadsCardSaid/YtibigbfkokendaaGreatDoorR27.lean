/- Series: a series, made by dice. -/
import Derived.Test.YtibigbfkokendaaGreatDoorR14
import Derived.Test.YtibigbfkokendaaGreatDoorR23
import Derived.Deep.RegionHeld3
namespace Go.Proofs.YtibigbfkokendaaGreatDoor
open Go.RowKit Go.Maps TT

theorem Bx.but {w w' : World} {p B base : Nat} {f l e k : Int} {va vb : Value} {X Y : List Int} (h : Bx w B base f l e k va vb X Y) (hb : But p w w') (hp : p < B) : Bx w' B base f l e k va vb X Y :=
  ⟨(hb.block B (lt_of_heap h.hs) (by omega)).trans h.hs, row_but h.ra hb (by have := h.hB; omega), row_but h.rb hb (by have := h.hB; omega), h.dj, h.hB⟩

/-- the series in the making, beside dice -/
structure SR (w wr : World) (p B : Nat) (f l e k : Int) (va vb : Value) (X Y : List Int) : Prop where
  hr : wr.heap[w.heap.size]? = some (cells6 0 0 0 0 (.slice none 0 0) (.slice none 0 0))
  bx : Bx wr B (B + 1) f l e k va vb X Y
  dc : DiceAt wr p
  bt : But p w wr
  hp : p < w.heap.size
  hB : w.heap.size < B
section
variable {w wr w2 : World} {p B : Nat} {f l e k : Int} {va vb : Value} {X Y : List Int}
theorem SR.sz (h : SR w wr p B f l e k va vb X Y) : B + 1 ≤ wr.heap.size := lt_of_heap h.bx.hs
theorem SR.next (h : SR w wr p B f l e k va vb X Y) (hd : DiceAt w2 p) (hb : But p wr w2) : SR w w2 p B f l e k va vb X Y :=
  ⟨(hb.block _ (lt_of_heap h.hr) (by have := h.hp; omega)).trans h.hr, h.bx.but hb (by have := h.hp; have := h.hB; omega), hd, h.bt.trans hb, h.hp, h.hB⟩
theorem SR.low {w4 : World} {i : Nat} {v' : Value} {tmp : Obj} {row : Option Nat} (h : SR w wr p B f l e k va vb X Y) (hg : (wr.alloc tmp).grownBy w4 row) (hr : ∀ q, row = some q → B + 1 ≤ q) :
    ∀ q, q < B → (w4.setCell ⟨B, i, none⟩ v').heap[q]? = wr.heap[q]? := fun q h1 => by
  have hsz := h.sz
  rw [heap_setCell_other _ _ _ _ (show q ≠ B by omega), hg.block q (by simp; omega) (fun e => by have := hr q e.symm; omega), Below.heap_alloc _ _ _ (by omega)]
theorem SR.mk2 {w4 : World} {i : Nat} {v' va' vb' : Value} {tmp : Obj} {row : Option Nat} {X' Y' : List Int} (h : SR w wr p B f l e k va vb X Y) (hg : (wr.alloc tmp).grownBy w4 row) (hr : ∀ q, row = some q → B + 1 ≤ q)
    (hb : Bx (w4.setCell ⟨B, i, none⟩ v') B (B + 1) f l e k va' vb' X' Y') : SR w (w4.setCell ⟨B, i, none⟩ v') p B f l e k va' vb' X' Y' := by
  have hsz := h.sz
  have hp := h.hp
  have hB := h.hB
  have lo := h.low (i := i) (v' := v') hg hr
  refine ⟨(lo _ (by omega)).trans h.hr, hb, h.dc.same (fun q hq => lo q (by omega)), ⟨?_, ?_, ?_, ?_, fun q hq hne => (lo q (by omega)).trans (h.bt.block q hq hne)⟩, hp, hB⟩
  · exact hg.os.trans h.bt.os
  · exact hg.tape.trans h.bt.tape
  · exact hg.output.trans h.bt.output
  · have := hg.size; simp at this ⊢; omega
theorem SR.appX {v' : Value} {x : Int} {tmp : Obj} {w4 : World} (h : SR w wr p B f l e k va vb X Y) (hown : w4.ownsRow (B + 1) 3 1 v' (X.length + 1) (X.map (Value.int .i64) ++ [.int .i64 x])) (hg : (wr.alloc tmp).grownBy w4 va.ownBlock) (hl : v'.ownBlock = va.ownBlock ∨ v'.ownBlock = some (wr.alloc tmp).heap.size) :
    w4.heap[B]? = some (cells6 f l e k va vb) ∧ SR w (w4.setCell ⟨B, 4, none⟩ v') p B f l e k v' vb (X ++ [x]) Y := by
  obtain ⟨q1, q2, q3⟩ := h.bx.appX h.sz hown hg hl
  exact ⟨q1, h.mk2 hg (fun q e => (h.bx.ra.lt q e).1) q2⟩
theorem SR.appY {v' : Value} {x : Int} {tmp : Obj} {w4 : World} (h : SR w wr p B f l e k va vb X Y) (hown : w4.ownsRow (B + 1) 3 1 v' (Y.length + 1) (Y.map (Value.int .i64) ++ [.int .i64 x])) (hg : (wr.alloc tmp).grownBy w4 vb.ownBlock) (hl : v'.ownBlock = vb.ownBlock ∨ v'.ownBlock = some (wr.alloc tmp).heap.size) :
    w4.heap[B]? = some (cells6 f l e k va vb) ∧ SR w (w4.setCell ⟨B, 5, none⟩ v') p B f l e k va v' X (Y ++ [x]) := by
  obtain ⟨q1, q2, q3⟩ := h.bx.appY h.sz hown hg hl
  exact ⟨q1, h.mk2 hg (fun q e => (h.bx.rb.lt q e).1) q2⟩
theorem SR.set1 (h : SR w wr p B f l e k (.slice none 0 0) (.slice none 0 0) [] []) (l' : Int) : SR w (wr.setCell ⟨B, 1, none⟩ (.int .i64 l')) p B f l' e k (.slice none 0 0) (.slice none 0 0) [] [] := by
  have hp := h.hp
  have hB := h.hB
  have lo : ∀ q, q ≠ B → (wr.setCell ⟨B, 1, none⟩ (.int .i64 l')).heap[q]? = wr.heap[q]? := fun q hq => heap_setCell_other _ _ _ _ hq
  exact ⟨(lo _ (by omega)).trans h.hr, Bx.mk0 (c6_set1 h.bx.hs l') (by omega), h.dc.same (fun q hq => lo q (by omega)), ⟨h.bt.os, h.bt.tape, h.bt.output, by have := h.bt.size; simp; omega, fun q hq hne => (lo q (by omega)).trans (h.bt.block q hq hne)⟩, hp, hB⟩
theorem SR.mk0 (hr : wr.heap[w.heap.size]? = some (cells6 0 0 0 0 (.slice none 0 0) (.slice none 0 0))) (hd : DiceAt wr p) (hb : But p w wr) (hp : p < w.heap.size) :
    SR w (wr.alloc (.cells #[.int .i64 f, .int .i64 l, .int .i64 e, .int .i64 k, .slice none 0 0, .slice none 0 0] 24)) p wr.heap.size f l e k (.slice none 0 0) (.slice none 0 0) [] [] := by
  have hb1 : Below wr.heap.size wr (wr.alloc (.cells #[.int .i64 f, .int .i64 l, .int .i64 e, .int .i64 k, .slice none 0 0, .slice none 0 0] 24)) := (Below.refl _ _).alloc (Nat.le_refl _) _
  exact ⟨(hb1.block _ (lt_of_heap hr)).trans hr, Bx.mk0 (World.alloc_heap_new wr _) (by omega), hd.below hb1, hb.trans (But.of_below hb1), hp, lt_of_heap hr⟩
end

/-- a list that does not lie in the dice -/
def Off (p n : Nat) (a : Option Addr) : Prop := n = 0 ∨ ∀ g o, a = some ⟨g, o, none⟩ → g ≠ p
theorem IntsAt.but {p : Nat} {w w' : World} {a : Option Addr} {n : Nat} {xs : List Int} (h : IntsAt w a n xs) (ho : Off p n a) (hb : But p w w') : IntsAt w' a n xs := by
  obtain ⟨h1, h2, h3⟩ := h
  refine ⟨h1, h2, ?_⟩
  rcases ho with ho | ho
  · exact Or.inl ho
  rcases h3 with h3 | ⟨g, o, ha, hc⟩
  · exact Or.inl h3
  · exact Or.inr ⟨g, o, ha, fun i hi => by rw [hb.cell (World.block_lt_of_cell? _ ⟨g, o + i, none⟩ (hc i hi)) (ho g o ha)]; exact hc i hi⟩
theorem off_row {p base : Nat} {w : World} {a : Option Addr} {n c : Nat} {L : List Int} (h : Row w base (.slice a n c) L) (hp : p < base) : Off p n a := by
  refine Or.inr fun g o e => ?_
  have : (Value.slice a n c).ownBlock = some g := by rw [e]; rfl
  have := (h.lt g this).1
  omega
theorem off_past {p n : Nat} {w : World} {a : Option Addr} {L : List Int} (h : IntsAt w a n L) (hp : w.heap.size ≤ p) : Off p n a := by
  by_cases h0 : n = 0
  · exact Or.inl h0
  · refine Or.inr fun g o e => ?_
    obtain ⟨b, off, e', hb, _⟩ := h.cell (j := 0) (by omega)
    rw [e'] at e; cases e; omega
/-- what the dice give: a series -/
def MadeS (p : Nat) (w : World) (en : Ending) (w' : World) : Prop :=
  ∃ f l e k a n c b m q xs ys, en = .returned (serV f l e k a n c b m q) ∧ IntsAt w' a n xs ∧ IntsAt w' b m ys ∧ n + m ≤ 1000 ∧ 0 ≤ f ∧ f ≤ 40000 ∧ (∀ i, i < w.heap.size → Off i n a) ∧ (∀ i, i < w.heap.size → Off i m b) ∧ But p w w' ∧ DiceAt w' p

set_option maxRecDepth 100000 in
set_option maxHeartbeats 4000000 in
theorem mseries_any (p : Nat) (w : World) (hD : DiceAt w p) : Calls Tryz.prog 14 #[.pointer (some ⟨p, 0, none⟩)] w (MadeS p w) := by
  have hp := hD.lt
  have HD := Lib.hid hD
  clear hD
  obtain ⟨i0, hi, hz0, hz1, hz2⟩ := info_parts Tryz.infoInt
  have HI0 := Lib.hid hi; have HZ0 := Lib.hid hz0; have HZ1 := Lib.hid hz1; have HZ2 := Lib.hid hz2
  clear hi hz0 hz1 hz2
  have hb0 : Below w.heap.size w (w.alloc (.cells #[.int .i64 0, .int .i64 0, .int .i64 0, .int .i64 0, .slice none 0 0, .slice none 0 0] 24)) := (Below.refl _ _).alloc (Nat.le_refl _) _
  have hr0 : (w.alloc (.cells #[.int .i64 0, .int .i64 0, .int .i64 0, .int .i64 0, .slice none 0 0, .slice none 0 0] 24)).heap[w.heap.size]? = some (cells6 0 0 0 0 (.slice none 0 0) (.slice none 0 0)) := World.alloc_heap_new w _
  have HR0 := Lib.hid hr0
  have HD0 := Lib.hid (HD.out.below hb0)
  have HB0 := Lib.hid (But.of_below (p := p) hb0)
  clear hb0 hr0 HD
  go_enter Tryz.func14, Tryz.ntmps14
  go_wp2_with fail
  refine (next_any p 30000 _ (by omega) (by omega) HD0.out).mono ?_
  rintro en w1 ⟨r1, a1, b1, rfl, hd, hb⟩
  have HR1 := Lib.hid ((hb.block _ (by simp) (by omega)).trans HR0.out)
  have HB1 := Lib.hid (HB0.out.trans hb)
  have HD1 := Lib.hid hd
  clear hd hb HR0 HB0 HD0
  go_wp2_with fail
  refine (next_any p 4 _ (by omega) (by omega) HD1.out).mono ?_
  rintro en w2 ⟨r2, a2, b2, rfl, hd, hb⟩
  have HR2 := Lib.hid ((hb.block _ (lt_of_heap HR1.out) (by omega)).trans HR1.out)
  have HB2 := Lib.hid (HB1.out.trans hb)
  have HD2 := Lib.hid hd
  clear hd hb HR1 HB1 HD1
  go_wp2_with fail
  refine (next_any p 128 _ (by omega) (by omega) HD2.out).mono ?_
  rintro en w3 ⟨r3, a3, b3, rfl, hd, hb⟩
  have HR3 := Lib.hid ((hb.block _ (lt_of_heap HR2.out) (by omega)).trans HR2.out)
  have HB3 := Lib.hid (HB2.out.trans hb)
  have HD3 := Lib.hid hd
  clear hd hb HR2 HB2 HD2
  go_wp2_with fail
  have HS := Lib.hid (SR.mk0 (f := 7 + r1) (l := 0) (e := 1 + r2) (k := r3) HR3.out HD3.out HB3.out hp)
  clear HR3 HB3 HD3
  generalize hB : w3.heap.size = B at *
  generalize hw4 : w3.alloc (.cells #[.int .i64 (7 + r1), .int .i64 0, .int .i64 (1 + r2), .int .i64 r3, .slice none 0 0, .slice none 0 0] 24) = w4 at *
  clear hw4 hB
  obtain ⟨f, hf⟩ : ∃ f : Int, f = 7 + r1 := ⟨_, rfl⟩
  obtain ⟨e, he⟩ : ∃ e : Int, e = 1 + r2 := ⟨_, rfl⟩
  rw [← hf, ← he] at HS ⊢
  have f1 : 7 ≤ f := by omega
  have f2 : f ≤ 30006 := by omega
  have e1 : 1 ≤ e := by omega
  have e2 : e ≤ 4 := by omega
  clear hf he a1 b1 a2 b2
  go_wp2_with fail
  have hdr : Below w4.heap.size w4 w4.drew := (Below.refl _ w4).drew
  have HSd := Lib.hid (HS.out.next (HS.out.dc.below hdr) (But.of_below hdr))
  clear hdr HS
  obtain ⟨c0, c1, c2, c3, c4, c5, z0, z1, z2, z3, z4, z5, sz⟩ := c6_cells HSd.out.bx.hs
  go_region_held3 (fun w' => w'.cell? ⟨B, 0, none⟩ = some (.int .i64 f)) (first | (with_reducible exact c0) | (with_reducible exact k0) | (with_reducible exact q0 _) | go_keep) ((go_at_call 32; refine (next_any p 80 _ (by decide) (by decide) HSd.out.dc).mono ?_; rintro en w5 ⟨r4, a4, b4, rfl, hd, hb⟩; have HS5 := Lib.hid (HSd.out.next hd hb); obtain ⟨k0, k1, k2, k3, k4, k5, kz0, kz1, kz2, kz3, kz4, kz5, ksz⟩ := c6_cells HS5.out.bx.hs; have y6 : IntKind.i64.wrap (f + r4) = f + r4 := IntWalk.i64_in _ (by omega); have q0 : ∀ v, (w5.setCell ⟨B, 1, none⟩ v).cell? ⟨B, 0, none⟩ = some (.int .i64 f) := fun v => World.cell?_setCell_other _ _ _ _ (by simp) |>.trans k0; clear hd hb))
  have HS6 := Lib.hid (HS5.out.set1 (f + r4))
  obtain ⟨l, hl⟩ : ∃ l : Int, l = f + r4 := ⟨_, rfl⟩
  rw [← hl] at HS6 ⊢
  generalize w5.setCell ⟨B, 1, none⟩ (.int .i64 l) = w6 at *
  clear c0 c1 c2 c3 c4 c5 z0 z1 z2 z3 z4 z5 sz y6 k0 k1 k2 k3 k4 k5 kz0 kz1 kz2 kz3 kz4 kz5 ksz q0 HS5 HSd
  have l1 : f ≤ l := by omega
  have l2 : l ≤ f + 79 := by omega
  clear hl a4 b4
  obtain ⟨c0, c1, c2, c3, c4, c5, z0, z1, z2, z3, z4, z5, sz⟩ := c6_cells HS6.out.bx.hs
  go_wp2_with fail
  have mo1 : f - (f + 5) % 7 ≤ f := by omega
  have mo2 : 1 ≤ f - (f + 5) % 7 := by omega
  generalize f - (f + 5) % 7 = mo at *
  clear c0 c1 c2 c3 c4 c5 z0 z1 z2 z3 z4 z5 sz
  go_loopw [5] (fun d wr => ∃ (j : Nat) (a1 : Option Addr) (c1 : Nat) (b1 : Option Addr) (q1 : Nat) (X Y : List Int), d = .int .i64 (f + j) ∧ f + j ≤ l + 1 ∧ X.length ≤ j ∧ Y.length ≤ j ∧ Hid (SR w wr p B f l e r3 (.slice a1 X.length c1) (.slice b1 Y.length q1) X Y)) (fun d _ => (l + 1 - intOf d).toNat)
  case atStart => exact ⟨0, none, 0, none, 0, [], [], by simp, by omega, by simp, by simp, HS6⟩
  case round =>
    clear HS6
    obtain ⟨j, a1, c1', b1, q1, X, Y, rfl, hj, hXl, hYl, HW⟩ := hrel
    obtain ⟨c0, c1, c2, c3, c4, c5, z0, z1, z2, z3, z4, z5, sz⟩ := c6_cells HW.out.bx.hs
    by_cases hlt : f + j ≤ l
    · obtain ⟨x, hxj⟩ : ∃ x : Int, x = f + j := ⟨_, rfl⟩
      have HXJ := Lib.hid hxj
      have j79 : j ≤ 79 := by omega
      rw [← hxj] at hlt ⊢
      have x1 : f ≤ x := by omega
      have x2 : 7 ≤ x := by omega
      have x3 : mo ≤ x := by omega
      clear hxj hj
      go_wp2_with fail
      all_goals (
        refine (one_any p 9 _ (by omega) (by omega) HW.out.dc).mono ?_
        rintro en w2 ⟨bb, rfl, hd, hb⟩
        have HW2 := Lib.hid (HW.out.next hd hb)
        clear hd hb HW c0 c1 c2 c3 c4 c5 z0 z1 z2 z3 z4 z5 sz
        obtain ⟨c0, c1, c2, c3, c4, c5, z0, z1, z2, z3, z4, z5, sz⟩ := c6_cells HW2.out.bx.hs
        first
          | (generalize ((x - mo) / 7 % e == 0) = z; cases z <;> cases bb)
          | cases bb)
      all_goals go_wp2_with (first
        | (at_builtin; refine wpList_append_own_at _ rfl _ _ 22 rfl (B + 1) 3 i0 (.int .i64 0) 1 8 Tryz.underlying22 HI0.out HZ0.out HZ1.out HZ2.out rfl (by decide) _ _ _ rfl (HW2.out.bx.ra.alloc _) ⟨w2.heap.size, 0, none⟩ 1 1 [.int .i64 x] rfl rfl (cell_one_new _ _ _) (by simp [Value.oneCell']) (by unfold maxLen; omega) (by omega) (by have := HW2.out.sz; simp; omega) ?_; intro v' w4 hown' hgrow _ hat; have HOW := Lib.hid hown'; have HG := Lib.hid hgrow; have HAT := Lib.hid hat; clear hgrow hat; obtain ⟨g', cap', rfl⟩ := ownsRow_succ hown'; obtain ⟨hcs, hWA⟩ := HW2.out.appX HOW.out HG.out HAT.out; have HWA := Lib.hid hWA; clear hWA hown'; obtain ⟨k0', k1', k2', k3', k4', k5', kz0, kz1, kz2, kz3, kz4, kz5, ksz⟩ := c6_cells hcs)
        | (at_builtin; refine wpList_append_own_at _ rfl _ _ 22 rfl (B + 1) 3 i0 (.int .i64 0) 1 8 Tryz.underlying22 HI0.out HZ0.out HZ1.out HZ2.out rfl (by decide) _ _ _ rfl (HW2.out.bx.rb.alloc _) ⟨w2.heap.size, 0, none⟩ 1 1 [.int .i64 x] rfl rfl (cell_one_new _ _ _) (by simp [Value.oneCell']) (by unfold maxLen; omega) (by omega) (by have := HW2.out.sz; simp; omega) ?_; intro v' w4 hown' hgrow _ hat; have HOW := Lib.hid hown'; have HG := Lib.hid hgrow; have HAT := Lib.hid hat; clear hgrow hat; obtain ⟨g', cap', rfl⟩ := ownsRow_succ hown'; obtain ⟨hcs, hWA⟩ := HW2.out.appY HOW.out HG.out HAT.out; have HWA := Lib.hid hWA; clear hWA hown'; obtain ⟨k0', k1', k2', k3', k4', k5', kz0, kz1, kz2, kz3, kz4, kz5, ksz⟩ := c6_cells hcs))
      all_goals refine ⟨?_, ?_⟩
      all_goals first
        | (exact ⟨j + 1, some ⟨g', 0, none⟩, cap', b1, q1, X ++ [x], Y, int_eq (by have := HXJ.out; omega), by have := HXJ.out; omega, by simp; omega, by omega, Lib.hid (by rw [List.length_append]; exact HWA.out)⟩)
        | (exact ⟨j + 1, a1, c1', some ⟨g', 0, none⟩, cap', X, Y ++ [x], int_eq (by have := HXJ.out; omega), by have := HXJ.out; omega, by omega, by simp; omega, Lib.hid (by rw [List.length_append]; exact HWA.out)⟩)
        | (exact ⟨j + 1, a1, c1', b1, q1, X, Y, int_eq (by have := HXJ.out; omega), by have := HXJ.out; omega, by omega, by omega, HW2⟩)
        | (have := HXJ.out; simp [intOf]; omega)
    · clear z0 z1 z2 z3 z4 z5
      obtain ⟨r0, r1', r2', r3', r4', r5, rz0, rz1, rz2, rz3, rz4, rz5, rsz⟩ := c6_cells HW.out.hr
      have j80 : j ≤ 80 := by omega
      go_wp2
      obtain ⟨W9, hW9⟩ : ∃ W9, W9 = put6 wr w.heap.size f l e r3 (.slice a1 X.length c1') (.slice b1 Y.length q1) := ⟨_, rfl⟩
      rw [show ((((((wr.setCell ⟨w.heap.size, 0, none⟩ (.int .i64 f)).setCell ⟨w.heap.size, 1, none⟩ (.int .i64 l)).setCell ⟨w.heap.size, 2, none⟩ (.int .i64 e)).setCell ⟨w.heap.size, 3, none⟩ (.int .i64 r3)).setCell ⟨w.heap.size, 4, none⟩ (.slice a1 X.length c1')).setCell ⟨w.heap.size, 5, none⟩ (.slice b1 Y.length q1)) = W9 from hW9.symm]
      have hr9 : W9.heap[w.heap.size]? = some (cells6 f l e r3 (.slice a1 X.length c1') (.slice b1 Y.length q1)) := by rw [hW9]; exact c6_all HW.out.hr _ _ _ _ _ _
      have hg9 : wr.grownBy W9 (some w.heap.size) := by rw [hW9]; exact grownBy_put6 ..
      have hB9 := HW.out.hB
      have hne : ∀ {v : Value} {L : List Int}, Row wr (B + 1) v L → Row W9 (B + 1) v L := fun hr => hr.kept hg9 (by
        rcases hv : Value.ownBlock _ with _ | g
        · exact Or.inl rfl
        · exact Or.inr (fun e => by cases e; have := (hr.lt _ hv).1; omega))
      obtain ⟨p0, p1, p2, p3, p4, p5, _⟩ := c6_cells hr9
      refine bodyPost_ret (v := serV f l e r3 a1 X.length c1' b1 Y.length q1) (by simp [results, Tryz.results14, go_sem, p0, p1, p2, p3, p4, p5]) rfl ?_
      obtain ⟨_, _, hva, hIX⟩ := Row.ints (hne HW.out.bx.ra)
      cases hva
      obtain ⟨_, _, hvb, hIY⟩ := Row.ints (hne HW.out.bx.rb)
      cases hvb
      have hlo : ∀ q, q < wr.heap.size → q ≠ w.heap.size → W9.heap[q]? = wr.heap[q]? := fun q h1 h2 => hg9.block q h1 (fun e => h2 (by cases e; rfl))
      have hszp := HW.out.dc.lt
      have hpp := HW.out.hp
      exact ⟨f, l, e, r3, a1, _, _, b1, _, _, X, Y, rfl, hIX, hIY, by omega, by omega, by omega, fun i hi => off_row HW.out.bx.ra (by omega), fun i hi => off_row HW.out.bx.rb (by omega), HW.out.bt.grown hg9 (fun g e => by cases e; exact Nat.le_refl _), HW.out.dc.same (fun q hq => hlo q (by omega) (by omega))⟩

end Go.Proofs.YtibigbfkokendaaGreatDoor
