/- Series: the series of a list of days with a number of weeks and weekdays, of the reference. -/
import Derived.Test.YtibigbfkokendaaDoorR13
namespace Go.Proofs.YtibigbfkokendaaDoor
open Go.RowKit Go.Maps TT

/-- what the reference's 'with' knows of the world -/
structure WR (w wr : World) (f l e k : Int) (va vb : Value) (X Y : List Int) : Prop where
  hr : wr.heap[w.heap.size]? = some (cells6 0 0 0 0 (.slice none 0 0) (.slice none 0 0))
  bx : Bx wr (w.heap.size + 1) (w.heap.size + 2) f l e k va vb X Y
  bl : Below w.heap.size w wr
  sz : w.heap.size + 2 ≤ wr.heap.size
section
variable {w wr w2 : World} {f l e k : Int} {va vb : Value} {X Y : List Int}
theorem WR.next (h : WR w wr f l e k va vb X Y) (hb : Below wr.heap.size wr w2) : WR w w2 f l e k va vb X Y :=
  ⟨(hb.block _ (lt_of_heap h.hr)).trans h.hr, h.bx.below hb, h.bl.trans (hb.mono h.bl.size), Nat.le_trans h.sz hb.size⟩
theorem WR.appX {v' : Value} {x : Int} {tmp : Obj} {w4 : World} (h : WR w wr f l e k va vb X Y) (hown : w4.ownsRow (w.heap.size + 2) 3 1 v' (X.length + 1) (X.map (Value.int .i64) ++ [.int .i64 x])) (hg : (wr.alloc tmp).grownBy w4 va.ownBlock) (hl : v'.ownBlock = va.ownBlock ∨ v'.ownBlock = some (wr.alloc tmp).heap.size) :
    w4.heap[w.heap.size + 1]? = some (cells6 f l e k va vb) ∧ WR w (w4.setCell ⟨w.heap.size + 1, 4, none⟩ v') f l e k v' vb (X ++ [x]) Y := by
  obtain ⟨q1, q2, q3⟩ := h.bx.appX h.sz hown hg hl
  have hsz := h.sz
  have hlo : ∀ q, q < w.heap.size + 2 → q ≠ w.heap.size + 1 → (w4.setCell ⟨w.heap.size + 1, 4, none⟩ v').heap[q]? = wr.heap[q]? := fun q h1 h2 => by
    rw [heap_setCell_other _ _ _ _ h2, hg.block q (by simp; omega) (fun e => by have := (h.bx.ra.lt q e.symm).1; omega), Below.heap_alloc _ _ _ (by omega)]
  exact ⟨q1, ⟨(hlo _ (by omega) (by omega)).trans h.hr, q2, h.bl.trans (q3.mono (by omega)), Nat.le_trans hsz q3.size⟩⟩
theorem WR.appY {v' : Value} {x : Int} {tmp : Obj} {w4 : World} (h : WR w wr f l e k va vb X Y) (hown : w4.ownsRow (w.heap.size + 2) 3 1 v' (Y.length + 1) (Y.map (Value.int .i64) ++ [.int .i64 x])) (hg : (wr.alloc tmp).grownBy w4 vb.ownBlock) (hl : v'.ownBlock = vb.ownBlock ∨ v'.ownBlock = some (wr.alloc tmp).heap.size) :
    w4.heap[w.heap.size + 1]? = some (cells6 f l e k va vb) ∧ WR w (w4.setCell ⟨w.heap.size + 1, 5, none⟩ v') f l e k va v' X (Y ++ [x]) := by
  obtain ⟨q1, q2, q3⟩ := h.bx.appY h.sz hown hg hl
  have hsz := h.sz
  have hlo : ∀ q, q < w.heap.size + 2 → q ≠ w.heap.size + 1 → (w4.setCell ⟨w.heap.size + 1, 5, none⟩ v').heap[q]? = wr.heap[q]? := fun q h1 h2 => by
    rw [heap_setCell_other _ _ _ _ h2, hg.block q (by simp; omega) (fun e => by have := (h.bx.rb.lt q e.symm).1; omega), Below.heap_alloc _ _ _ (by omega)]
  exact ⟨q1, ⟨(hlo _ (by omega) (by omega)).trans h.hr, q2, h.bl.trans (q3.mono (by omega)), Nat.le_trans hsz q3.size⟩⟩
end

set_option maxRecDepth 100000 in
set_option maxHeartbeats 16000000 in
theorem rwith_any (e k : Int) (L : List Int) (ba oa n c : Nat) (w : World) (hn : L.length = n) (hn0 : 0 < n) (hb : ba < w.heap.size) (hc : ∀ i, i < n → w.cell? ⟨ba, oa + i, none⟩ = some (.int .i64 (L.getD i 0)))
    (hn2 : n ≤ 1000000) (e1 : 1 ≤ e) (e2 : e ≤ 4) (k0 : 0 ≤ k) (k1 : k ≤ 127) (hok : ∀ x ∈ L, okDay x = true) (hfl : fstD L ≤ lstD L) (hl2 : lstD L ≤ fstD L + 140) :
    Calls Tryd.prog 29 #[.slice (some ⟨ba, oa, none⟩) n c, .int .i64 e, .int .i64 k] w (SerP (fstD L) (lstD L) e k (wX L (fstD L) (lstD L) e k) (wY2 L (fstD L) (lstD L) e k) w) := by
  have hmem := mem_fst (L := L) (by omega)
  obtain ⟨f1, f2⟩ := okDay_of (hok _ hmem.1)
  obtain ⟨l1, l2⟩ := okDay_of (hok _ hmem.2)
  have hIL : IntsAt w (some ⟨ba, oa, none⟩) n L := ⟨hn, by omega, Or.inr ⟨ba, oa, rfl, hc⟩⟩
  have HIL := Lib.hid hIL
  have g0 : w.cell? ⟨ba, oa, none⟩ = some (.int .i64 (fstD L)) := hc 0 hn0
  have gl : w.cell? ⟨ba, oa + (n - 1), none⟩ = some (.int .i64 (lstD L)) := by have := hc (n - 1) (by omega); rw [this]; unfold lstD; rw [hn]
  have gl' : w.cell? ⟨ba, oa + ((n : Int) - 1).toNat, none⟩ = some (.int .i64 (lstD L)) := by rw [show ((n : Int) - 1).toNat = n - 1 by omega]; exact gl
  have y1 : IntKind.i64.wrap ((n : Int) - 1) = (n : Int) - 1 := IntWalk.i64_in _ (by omega)
  have y3 : (0 : Int) ≤ (n : Int) - 1 := by omega
  have y4 : (n : Int) - 1 < n := by omega
  have y5 : (0 : Int) < n := by omega
  generalize hf : fstD L = f at *
  generalize hl : lstD L = l at *
  clear hc hf hl hok hmem hn hIL
  go_enter Tryd.func29, Tryd.ntmps29
  go_wp2
  go_region
  obtain ⟨w1, hw1⟩ : ∃ w1 : World, w1 = ((w.alloc (.cells #[.int .i64 0, .int .i64 0, .int .i64 0, .int .i64 0, .slice none 0 0, .slice none 0 0] 30)).alloc (.cells #[.int .i64 f, .int .i64 l, .int .i64 e, .int .i64 k, .slice none 0 0, .slice none 0 0] 30)).drew := ⟨_, rfl⟩
  rw [← hw1]
  have hA : WR w w1 f l e k (.slice none 0 0) (.slice none 0 0) [] [] := by
    have hz : w1.heap.size = w.heap.size + 2 := by rw [hw1]; simp
    have h0 : w1.heap[w.heap.size]? = some (cells6 0 0 0 0 (.slice none 0 0) (.slice none 0 0)) := by
      rw [hw1]; exact (Below.heap_alloc _ _ _ (by simp)).trans (World.alloc_heap_new w _)
    have h1 : w1.heap[w.heap.size + 1]? = some (cells6 f l e k (.slice none 0 0) (.slice none 0 0)) := by
      rw [hw1]; have := World.alloc_heap_new (w.alloc (.cells #[.int .i64 0, .int .i64 0, .int .i64 0, .int .i64 0, .slice none 0 0, .slice none 0 0] 30)) (.cells #[.int .i64 f, .int .i64 l, .int .i64 e, .int .i64 k, .slice none 0 0, .slice none 0 0] 30); rw [World.size_alloc] at this; exact this
    refine ⟨h0, Bx.mk0 h1 (by omega), ?_, by omega⟩
    rw [hw1]
    exact (((Below.refl _ w).alloc (Nat.le_refl _) _).alloc (by simp) _).trans ⟨rfl, rfl, rfl, Nat.le_refl _, fun _ _ => rfl⟩
  have HA := Lib.hid hA
  clear hA hw1 y1 y3 y4 y5 g0 gl gl'
  obtain ⟨c0, c1, c2, c3, c4, c5, z0, z1, z2, z3, z4, z5, sz⟩ := c6_cells HA.out.bx.hs
  clear z0 z1 z2 z3 z4 z5
  obtain ⟨i0, hi, hz0, hz1, hz2⟩ := info_parts Tryd.infoInt
  have HI0 := Lib.hid hi; have HZ0 := Lib.hid hz0; have HZ1 := Lib.hid hz1; have HZ2 := Lib.hid hz2
  clear hi hz0 hz1 hz2
  go_wp2
  go_loopw [8] (fun d wr => ∃ (i : Nat) (a1 : Option Addr) (c1 : Nat) (b1 : Option Addr) (q1 : Nat), f + i ≤ l + 1 ∧ d = .int .i64 (f + i) ∧
    Hid (WR w wr f l e k (.slice a1 ((rng f i).filter (excX L f l e k)).length c1) (.slice b1 ((rng f i).filter (excY L f l e k)).length q1) ((rng f i).filter (excX L f l e k)) ((rng f i).filter (excY L f l e k)))) (fun d _ => (l + 1 - intOf d).toNat)
  case atStart => exact ⟨0, none, 0, none, 0, by omega, by simp, HA⟩
  case round =>
    clear HA c0 c1 c2 c3 c4 c5 sz
    obtain ⟨i, a1, c1', b1, q1, hi, rfl, HW⟩ := hrel
    obtain ⟨c0, c1, c2, c3, c4, c5, z0, z1, z2, z3, z4, z5, sz⟩ := c6_cells HW.out.bx.hs
    have hlX := filter_len (excX L f l e k) f i
    have hlY := filter_len (excY L f l e k) f i
    by_cases hlt : f + i ≤ l
    · clear z0 z1 z2 z3 z4 z5
      obtain ⟨x, hxj⟩ : ∃ x : Int, x = f + i := ⟨_, rfl⟩
      have HXJ := Lib.hid hxj
      rw [← hxj] at hlt ⊢
      have hx0 : 0 ≤ x := by omega
      have hi2 : i ≤ 141 := by omega
      clear hxj hi
      cases hr : regB f l e k x <;> cases hin : hasI L x
      · -- not regular, not a day
        have hX : Hid ((rng f (i + 1)).filter (excX L f l e k) = (rng f i).filter (excX L f l e k)) := Lib.hid (filter_miss (by rw [← HXJ.out]; simp [excX, hr, hin]))
        have hY : Hid ((rng f (i + 1)).filter (excY L f l e k) = (rng f i).filter (excY L f l e k)) := Lib.hid (filter_miss (by rw [← HXJ.out]; simp [excY, hr, hin]))
        generalize (rng f i).filter (excX L f l e k) = X at *
        generalize (rng f i).filter (excY L f l e k) = Y at *
        go_wp2_with (first
        | (go_at_call 39; refine (rregular_any f l e k x _ _ _ _ _ _ _ f1 l2 e1 e2 k0 k1).mono ?_; rintro en w2 ⟨rfl, hb2⟩; rw [hr]; have HW2 := Lib.hid (HW.out.next hb2); obtain ⟨c0, c1, c2, c3, c4, c5, z0, z1, z2, z3, z4, z5, sz⟩ := c6_cells HW2.out.bx.hs)
        | (go_at_call 40; refine (rin_any L _ _ _ x _ (HIL.out.below HW2.out.bl)).mono ?_; rintro en w9 ⟨rfl, rfl⟩; rw [hin]))
        go_roundw
        case rel => exact ⟨i + 1, a1, c1', b1, q1, by have := HXJ.out; omega, int_eq (by have := HXJ.out; omega), Lib.hid (by rw [hX.out, hY.out]; exact HW2.out)⟩
        case measure => have := HXJ.out; simp [intOf]; omega
      · -- not regular, a day
        have hX : Hid ((rng f (i + 1)).filter (excX L f l e k) = (rng f i).filter (excX L f l e k)) := Lib.hid (by exact filter_miss (by rw [← HXJ.out]; simp [excX, hr, hin]))
        have hY : Hid ((rng f (i + 1)).filter (excY L f l e k) = (rng f i).filter (excY L f l e k) ++ [x]) := Lib.hid (by rw [filter_hit (by rw [← HXJ.out]; simp [excY, hr, hin]), ← HXJ.out])
        generalize (rng f i).filter (excX L f l e k) = X at *
        generalize (rng f i).filter (excY L f l e k) = Y at *
        go_wp2_with (first
        | (go_at_call 39; refine (rregular_any f l e k x _ _ _ _ _ _ _ f1 l2 e1 e2 k0 k1).mono ?_; rintro en w2 ⟨rfl, hb2⟩; rw [hr]; have HW2 := Lib.hid (HW.out.next hb2); obtain ⟨c0, c1, c2, c3, c4, c5, z0, z1, z2, z3, z4, z5, sz⟩ := c6_cells HW2.out.bx.hs)
        | (go_at_call 40; refine (rin_any L _ _ _ x _ (HIL.out.below HW2.out.bl)).mono ?_; rintro en w9 ⟨rfl, rfl⟩; rw [hin])
        | (at_builtin; refine wpList_append_own_at _ rfl _ _ 22 rfl (w.heap.size + 2) 3 i0 (.int .i64 0) 1 8 Tryd.underlying22 HI0.out HZ0.out HZ1.out HZ2.out rfl (by decide) _ _ _ rfl (HW2.out.bx.rb.alloc _) ⟨w2.heap.size, 0, none⟩ 1 1 [.int .i64 x] rfl rfl (cell_one_new _ _ _) (by simp [Value.oneCell']) (by unfold maxLen; omega) (by omega) (by have := HW2.out.sz; simp; omega) ?_; intro v' w4 hown' hgrow _ hat; have HOW := Lib.hid hown'; have HG := Lib.hid hgrow; have HAT := Lib.hid hat; clear hgrow hat; obtain ⟨g', cap', rfl⟩ := ownsRow_succ hown'; obtain ⟨hcs, hWA⟩ := HW2.out.appY HOW.out HG.out HAT.out; have HWA := Lib.hid hWA; clear hWA hown'; obtain ⟨k0', k1', k2', k3', k4', k5', kz0, kz1, kz2, kz3, kz4, kz5, ksz⟩ := c6_cells hcs))
        go_roundw
        case rel => exact ⟨i + 1, a1, c1', some ⟨g', 0, none⟩, cap', by have := HXJ.out; omega, int_eq (by have := HXJ.out; omega), Lib.hid (by rw [hX.out, hY.out, List.length_append]; exact HWA.out)⟩
        case measure => have := HXJ.out; simp [intOf]; omega
      · -- regular, not a day
        have hX : Hid ((rng f (i + 1)).filter (excX L f l e k) = (rng f i).filter (excX L f l e k) ++ [x]) := Lib.hid (by rw [filter_hit (by rw [← HXJ.out]; simp [excX, hr, hin]), ← HXJ.out])
        have hY : Hid ((rng f (i + 1)).filter (excY L f l e k) = (rng f i).filter (excY L f l e k)) := Lib.hid (by exact filter_miss (by rw [← HXJ.out]; simp [excY, hr, hin]))
        generalize (rng f i).filter (excX L f l e k) = X at *
        generalize (rng f i).filter (excY L f l e k) = Y at *
        go_wp2_with (first
        | (go_at_call 39; refine (rregular_any f l e k x _ _ _ _ _ _ _ f1 l2 e1 e2 k0 k1).mono ?_; rintro en w2 ⟨rfl, hb2⟩; rw [hr]; have HW2 := Lib.hid (HW.out.next hb2); obtain ⟨c0, c1, c2, c3, c4, c5, z0, z1, z2, z3, z4, z5, sz⟩ := c6_cells HW2.out.bx.hs)
        | (go_at_call 40; refine (rin_any L _ _ _ x _ (HIL.out.below HW2.out.bl)).mono ?_; rintro en w9 ⟨rfl, rfl⟩; rw [hin])
        | (at_builtin; refine wpList_append_own_at _ rfl _ _ 22 rfl (w.heap.size + 2) 3 i0 (.int .i64 0) 1 8 Tryd.underlying22 HI0.out HZ0.out HZ1.out HZ2.out rfl (by decide) _ _ _ rfl (HW2.out.bx.ra.alloc _) ⟨w2.heap.size, 0, none⟩ 1 1 [.int .i64 x] rfl rfl (cell_one_new _ _ _) (by simp [Value.oneCell']) (by unfold maxLen; omega) (by omega) (by have := HW2.out.sz; simp; omega) ?_; intro v' w4 hown' hgrow _ hat; have HOW := Lib.hid hown'; have HG := Lib.hid hgrow; have HAT := Lib.hid hat; clear hgrow hat; obtain ⟨g', cap', rfl⟩ := ownsRow_succ hown'; obtain ⟨hcs, hWA⟩ := HW2.out.appX HOW.out HG.out HAT.out; have HWA := Lib.hid hWA; clear hWA hown'; obtain ⟨k0', k1', k2', k3', k4', k5', kz0, kz1, kz2, kz3, kz4, kz5, ksz⟩ := c6_cells hcs))
        go_roundw
        case rel => exact ⟨i + 1, some ⟨g', 0, none⟩, cap', b1, q1, by have := HXJ.out; omega, int_eq (by have := HXJ.out; omega), Lib.hid (by rw [hX.out, hY.out, List.length_append]; exact HWA.out)⟩
        case measure => have := HXJ.out; simp [intOf]; omega
      · -- regular, a day
        have hX : Hid ((rng f (i + 1)).filter (excX L f l e k) = (rng f i).filter (excX L f l e k)) := Lib.hid (filter_miss (by rw [← HXJ.out]; simp [excX, hr, hin]))
        have hY : Hid ((rng f (i + 1)).filter (excY L f l e k) = (rng f i).filter (excY L f l e k)) := Lib.hid (filter_miss (by rw [← HXJ.out]; simp [excY, hr, hin]))
        generalize (rng f i).filter (excX L f l e k) = X at *
        generalize (rng f i).filter (excY L f l e k) = Y at *
        go_wp2_with (first
        | (go_at_call 39; refine (rregular_any f l e k x _ _ _ _ _ _ _ f1 l2 e1 e2 k0 k1).mono ?_; rintro en w2 ⟨rfl, hb2⟩; rw [hr]; have HW2 := Lib.hid (HW.out.next hb2); obtain ⟨c0, c1, c2, c3, c4, c5, z0, z1, z2, z3, z4, z5, sz⟩ := c6_cells HW2.out.bx.hs)
        | (go_at_call 40; refine (rin_any L _ _ _ x _ (HIL.out.below HW2.out.bl)).mono ?_; rintro en w9 ⟨rfl, rfl⟩; rw [hin]))
        go_roundw
        case rel => exact ⟨i + 1, a1, c1', b1, q1, by have := HXJ.out; omega, int_eq (by have := HXJ.out; omega), Lib.hid (by rw [hX.out, hY.out]; exact HW2.out)⟩
        case measure => have := HXJ.out; simp [intOf]; omega
    · have hjj : Hid (i = (l - f + 1).toNat) := Lib.hid (by omega)
      generalize hXX : (rng f i).filter (excX L f l e k) = X at *
      generalize hYY : (rng f i).filter (excY L f l e k) = Y at *
      obtain ⟨r0, r1, r2, r3, r4, r5, rz0, rz1, rz2, rz3, rz4, rz5, rsz⟩ := c6_cells HW.out.hr
      clear z0 z1 z2 z3 z4 z5
      have hm141 : X.length ≤ 1000 ∧ Y.length ≤ 1000 := by omega
      have HXX := Lib.hid hXX
      have HYY := Lib.hid hYY
      clear hXX hYY
      go_wp2
      obtain ⟨W9, hW9⟩ : ∃ W9, W9 = put6 wr w.heap.size f l e k (.slice a1 X.length c1') (.slice b1 Y.length q1) := ⟨_, rfl⟩
      rw [show ((((((wr.setCell ⟨w.heap.size, 0, none⟩ (.int .i64 f)).setCell ⟨w.heap.size, 1, none⟩ (.int .i64 l)).setCell ⟨w.heap.size, 2, none⟩ (.int .i64 e)).setCell ⟨w.heap.size, 3, none⟩ (.int .i64 k)).setCell ⟨w.heap.size, 4, none⟩ (.slice a1 X.length c1')).setCell ⟨w.heap.size, 5, none⟩ (.slice b1 Y.length q1)) = W9 from hW9.symm]
      have hr9 : W9.heap[w.heap.size]? = some (cells6 f l e k (.slice a1 X.length c1') (.slice b1 Y.length q1)) := by rw [hW9]; exact c6_all HW.out.hr _ _ _ _ _ _
      have hg9 : wr.grownBy W9 (some w.heap.size) := by rw [hW9]; exact grownBy_put6 ..
      have hne : ∀ {v : Value} {L : List Int}, Row wr (w.heap.size + 2) v L → Row W9 (w.heap.size + 2) v L := fun hr => hr.kept hg9 (by
        rcases hv : Value.ownBlock _ with _ | g
        · exact Or.inl rfl
        · exact Or.inr (fun e => by cases e; have := (hr.lt _ hv).1; omega))
      obtain ⟨p0, p1, p2, p3, p4, p5, _⟩ := c6_cells hr9
      refine bodyPost_ret (v := serV f l e k a1 X.length c1' b1 Y.length q1) (by simp [results, Tryd.results29, go_sem, p0, p1, p2, p3, p4, p5]) rfl ?_
      have fin : SerP f l e k X Y w (.returned (serV f l e k a1 X.length c1' b1 Y.length q1)) W9 :=
        ⟨_, _, _, _, rfl, row_base (hne HW.out.bx.ra) (by omega), row_base (hne HW.out.bx.rb) (by omega), HW.out.bl.grown hg9 HW.out.bl.size (fun q hq => by cases hq; exact Nat.le_refl _)⟩
      have e1 : wX L f l e k = X := by rw [← HXX.out, hjj.out]; rfl
      have e2 : wY2 L f l e k = Y := by rw [← HYY.out, hjj.out]; rfl
      rw [e1, e2]
      exact fin

end Go.Proofs.YtibigbfkokendaaDoor
