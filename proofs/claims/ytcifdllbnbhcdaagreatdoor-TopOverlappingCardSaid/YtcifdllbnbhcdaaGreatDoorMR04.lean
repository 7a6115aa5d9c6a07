/- Texts R13, joined: walks and laws. -/
import Derived.Test.YtcifdllbnbhcdaaGreatDoorMR01
import Derived.Test.YtcifdllbnbhcdaaGreatDoorMR03
set_option linter.unusedSimpArgs false
set_option linter.unusedVariables false
namespace Go.Proofs.YtcifdllbnbhcdaaGreatDoor.Rc
open Go.RowKit Go.Maps TT
theorem ix7 (x0 x1 x2 x3 x4 x5 x6 : Int) (w : World) :
    (Instr.index 165 (.agg #[.int .i64 x0, .int .i64 x1, .int .i64 x2, .int .i64 x3, .int .i64 x4, .int .i64 x5, .int .i64 x6]) (.int .i64 0)).run Tryz.prog w = .ok (.int .i64 x0) w ∧
    (Instr.index 165 (.agg #[.int .i64 x0, .int .i64 x1, .int .i64 x2, .int .i64 x3, .int .i64 x4, .int .i64 x5, .int .i64 x6]) (.int .i64 1)).run Tryz.prog w = .ok (.int .i64 x1) w ∧
    (Instr.index 165 (.agg #[.int .i64 x0, .int .i64 x1, .int .i64 x2, .int .i64 x3, .int .i64 x4, .int .i64 x5, .int .i64 x6]) (.int .i64 2)).run Tryz.prog w = .ok (.int .i64 x2) w ∧
    (Instr.index 165 (.agg #[.int .i64 x0, .int .i64 x1, .int .i64 x2, .int .i64 x3, .int .i64 x4, .int .i64 x5, .int .i64 x6]) (.int .i64 3)).run Tryz.prog w = .ok (.int .i64 x3) w ∧
    (Instr.index 165 (.agg #[.int .i64 x0, .int .i64 x1, .int .i64 x2, .int .i64 x3, .int .i64 x4, .int .i64 x5, .int .i64 x6]) (.int .i64 4)).run Tryz.prog w = .ok (.int .i64 x4) w ∧
    (Instr.index 165 (.agg #[.int .i64 x0, .int .i64 x1, .int .i64 x2, .int .i64 x3, .int .i64 x4, .int .i64 x5, .int .i64 x6]) (.int .i64 5)).run Tryz.prog w = .ok (.int .i64 x5) w ∧
    (Instr.index 165 (.agg #[.int .i64 x0, .int .i64 x1, .int .i64 x2, .int .i64 x3, .int .i64 x4, .int .i64 x5, .int .i64 x6]) (.int .i64 6)).run Tryz.prog w = .ok (.int .i64 x6) w :=
  ⟨by kernel_rfl, by kernel_rfl, by kernel_rfl, by kernel_rfl, by kernel_rfl, by kernel_rfl, by kernel_rfl⟩
def SerP (f l e k : Int) (X Y : List Int) (w : World) (en : Ending) (w' : World) : Prop :=
  ∃ a c b q, en = .returned (serV f l e k a X.length c b Y.length q) ∧ Row w' w.heap.size (.slice a X.length c) X ∧ Row w' w.heap.size (.slice b Y.length q) Y ∧ Below w.heap.size w w'
set_option maxRecDepth 100000 in
set_option maxHeartbeats 16000000 in
theorem with_any (e : Int) (L : List Int) (ba oa n c : Nat) (w : World) (hn : L.length = n) (hn0 : 0 < n) (hb : ba < w.heap.size) (hc : ∀ i, i < n → w.cell? ⟨ba, oa + i, none⟩ = some (.int .i64 (L.getD i 0)))
    (hn2 : n ≤ 1000000) (e1 : 1 ≤ e) (e2 : e ≤ 4) (hok : ∀ x ∈ L, okDay x = true) (hfl : fstD L ≤ lstD L) (hl2 : lstD L ≤ fstD L + 140) :
    Calls Tryz.prog 47 #[.slice (some ⟨ba, oa, none⟩) n c, .int .i64 e] w (SerP (fstD L) (lstD L) e (setS L (fstD L) (lstD L) e) (wX L (fstD L) (lstD L) e (setS L (fstD L) (lstD L) e)) (wY2 L (fstD L) (lstD L) e (setS L (fstD L) (lstD L) e)) w) := by
  have hmm := @run_makeMap Tryz.prog
  have hmem := mem_fst (L := L) (by omega)
  obtain ⟨f1, f2⟩ := okDay_of (hok _ hmem.1)
  obtain ⟨l1, l2⟩ := okDay_of (hok _ hmem.2)
  have g0 : w.cell? ⟨ba, oa, none⟩ = some (.int .i64 (fstD L)) := hc 0 hn0
  have gl : w.cell? ⟨ba, oa + (n - 1), none⟩ = some (.int .i64 (lstD L)) := by have := hc (n - 1) (by omega); rw [this]; unfold lstD; rw [hn]
  have gl' : w.cell? ⟨ba, oa + ((n : Int) - 1).toNat, none⟩ = some (.int .i64 (lstD L)) := by rw [show ((n : Int) - 1).toNat = n - 1 by omega]; exact gl
  have y1 : IntKind.i64.wrap ((n : Int) - 1) = (n : Int) - 1 := IntWalk.i64_in _ (by omega)
  have y3 : (0 : Int) ≤ (n : Int) - 1 := by omega
  have y4 : (n : Int) - 1 < n := by omega
  have y5 : (0 : Int) < n := by omega
  generalize hf : fstD L = f at *
  generalize hl : lstD L = l at *
  have HC := Lib.hid hc
  have HOK := Lib.hid hok
  have HN := Lib.hid hn
  clear hc hf hl hok hmem hn
  go_enter Tryz.func47, Tryz.ntmps47
  go_wp2
  go_region
  obtain ⟨w1, hw1⟩ : ∃ w1 : World, w1 = ((w.alloc (.cells #[.int .i64 0, .int .i64 0, .int .i64 0, .int .i64 0, .slice none 0 0, .slice none 0 0] 37)).alloc (.cells #[.int .i64 f, .int .i64 l, .int .i64 e, .int .i64 0, .slice none 0 0, .slice none 0 0] 37)).drew := ⟨_, rfl⟩
  rw [← hw1]
  have hA : WA w (w1.alloc (.map #[] 0)) f l e 0 (.slice none 0 0) (.slice none 0 0) [] [] 0 [] ∧ w1.heap.size = w.heap.size + 2 := by
    have hz : w1.heap.size = w.heap.size + 2 := by rw [hw1]; simp
    have h0 : w1.heap[w.heap.size]? = some (cells6 0 0 0 0 (.slice none 0 0) (.slice none 0 0)) := by
      rw [hw1]; exact (Below.heap_alloc _ _ _ (by simp)).trans (World.alloc_heap_new w _)
    have h1 : w1.heap[w.heap.size + 1]? = some (cells6 f l e 0 (.slice none 0 0) (.slice none 0 0)) := by
      rw [hw1]; have := World.alloc_heap_new (w.alloc (.cells #[.int .i64 0, .int .i64 0, .int .i64 0, .int .i64 0, .slice none 0 0, .slice none 0 0] 37)) (.cells #[.int .i64 f, .int .i64 l, .int .i64 e, .int .i64 0, .slice none 0 0, .slice none 0 0] 37); rw [World.size_alloc] at this; exact this
    refine ⟨⟨(Below.heap_alloc _ _ _ (by omega)).trans h0, Bx.mk0 ((Below.heap_alloc _ _ _ (by omega)).trans h1) (by omega), by have := SetAt.mk0 w1; rw [hz] at this; exact this, ?_, by simp; omega⟩, hz⟩
    refine Below.alloc ?_ (by omega) _
    rw [hw1]
    exact (((Below.refl _ w).alloc (Nat.le_refl _) _).alloc (by simp) _).trans ⟨rfl, rfl, rfl, Nat.le_refl _, fun _ _ => rfl⟩
  obtain ⟨hA, hz1⟩ := hA
  have HA := Lib.hid hA
  clear hA hw1 y1 y3 y4 y5 g0 gl gl'
  go_wp2
  go_loopw [8, 29] (fun _ i wr => ∃ j : Nat, j ≤ n ∧ i = .int .i64 j ∧ Hid (WA w wr f l e 0 (.slice none 0 0) (.slice none 0 0) [] [] j (L.take j))) (fun _ i _ => n - (intOf i).toNat)
  case atStart => exact ⟨0, by omega, rfl, HA⟩
  case round =>
    clear HA
    obtain ⟨j, hj, rfl, HW⟩ := hrel
    by_cases hlt : j < n
    · have gj : wr.cell? ⟨ba, oa + j, none⟩ = some (.int .i64 (L.getD j 0)) := (HW.out.bl.cell (p := ⟨ba, oa + j, none⟩) hb).trans (HC.out j hlt)
      have hmj : L.getD j 0 ∈ L := by rw [List.getD_eq_getElem?_getD, List.getElem?_eq_getElem (by rw [HN.out]; exact hlt)]; exact List.getElem_mem _
      obtain ⟨x1, x2⟩ := okDay_of (HOK.out _ hmj)
      have htk : Hid (L.take (j + 1) = L.take j ++ [L.getD j 0]) := Lib.hid (by
        rw [List.take_add_one, List.getD_eq_getElem?_getD, List.getElem?_eq_getElem (by rw [HN.out]; exact hlt)]; rfl)
      clear hmj
      generalize L.getD j 0 = x at *
      have hkey := keyOf_int_mk Tryz.underlying3 (q := .i64) (a := x) (wf_i64 (by omega) (by omega))
      obtain ⟨D, hown, hm, ha⟩ := HW.out.st
      have HM := Lib.hid hm
      have HAt := Lib.hid ha
      clear hm ha
      go_wp2_with (at_mapUpdate; refine wpList_mapUpdate_own _ rfl _ _ _ 164 rfl 3 4 Tryz.keyInt Tryz.underlying164 _ (w.heap.size + 2) j _ rfl hown (by unfold maxLen; omega) _ _ _ rfl rfl hkey _ [] (plainElem_bool Tryz.underlying4 true) ?_; intro w2 hown2 hgrow2)
      go_roundw
      case rel => exact ⟨j + 1, by omega, by go_num, Lib.hid (by rw [htk.out]; exact HW.out.put HM.out HAt.out hown2 hgrow2)⟩
      case measure => simp [intOf]; omega
    · obtain rfl : j = n := by omega
      have hLt : L.take j = L := by rw [← HN.out, List.take_length]
      rw [hLt] at HW
      obtain ⟨wo, rfl⟩ : ∃ wo : World, wo = wr := ⟨_, rfl⟩
      clear hLt hlt
      have hs3 := HW.out.sz
      obtain ⟨c0, c1, c2, c3, c4, c5, z0, z1, z2, z3, z4, z5, sz⟩ := c6_cells HW.out.bx.hs
      clear z0 z1 z2 z3 z4 z5
      have HS3 := Lib.hid hs3
      clear hs3
      go_wp2
      go_loopw [10] (fun d wr => ∃ i : Nat, f + i ≤ l + 1 ∧ d = .int .i64 (f + i) ∧ Hid (WA w wr f l e 0 (.slice none 0 0) (.slice none 0 0) [] [] j L) ∧ Hid (More wr wo.heap.size (fun q => dN L f e q i))) (fun d _ => (l + 1 - intOf d).toNat)
      case atStart =>
        refine ⟨0, by omega, by simp, Lib.hid (HW.out.next ((Below.refl _ _).alloc (Nat.le_refl _) _)), Lib.hid ?_⟩
        unfold More
        simp only [dN_zero]
        exact World.alloc_heap_new _ _
      case round =>
        clear HW c0 c1 c2 c3 c4 c5 sz
        obtain ⟨i, hi, rfl, HW, HM⟩ := hrel
        obtain ⟨c0, c1, c2, c3, c4, c5, z0, z1, z2, z3, z4, z5, sz⟩ := c6_cells HW.out.bx.hs
        clear z0 z1 z2 z3 z4 z5
        by_cases hlt : f + i ≤ l
        · obtain ⟨x, hxj⟩ : ∃ x : Int, x = f + i := ⟨_, rfl⟩
          have HXJ := Lib.hid hxj
          rw [← hxj] at hlt ⊢
          have hx0 : 0 ≤ x := by omega
          have hxf : f ≤ x := by omega
          have hi2 : i ≤ 141 := by omega
          clear hxj hi
          go_wp2_with fail
          refine (counts_any f l e 0 x none 0 0 none 0 0 _ f1 hxf (by omega) e1 e2).mono ?_
          rintro en w2 ⟨rfl, hb2⟩
          have HW2 := Lib.hid (HW.out.next hb2)
          have HM2 := Lib.hid (HM.out.below hb2)
          have hrun := HW2.out.st.look (x := x) (wf_i64 (by omega) (by omega))
          clear c0 c1 c2 c3 c4 c5 sz hb2
          cases hcnt : cntB f e x
          · have hno : Hid ((fun q => dN L f e q (i + 1)) = (fun q => dN L f e q i)) := Lib.hid (funext fun q => dN_no (by rw [← HXJ.out]; exact hcnt))
            clear hrun
            go_wp2
            go_roundw
            case rel => exact ⟨i + 1, by have := HXJ.out; omega, int_eq (by have := HXJ.out; omega), HW2, Lib.hid (by rw [hno.out]; exact HM2.out)⟩
            case measure => have := HXJ.out; simp [intOf]; omega
          · cases hin : hasI L x
            · rw [hin] at hrun
              rcases wd_cases x with hwd | hwd | hwd | hwd | hwd | hwd | hwd
              · have hwd' : Hid (wd7 (f + i) = 0) := Lib.hid (by rw [← HXJ.out]; exact hwd)
                have hset : Hid (∀ W : World, More W wo.heap.size (fun q => dN L f e q i) → More (W.setCell ⟨wo.heap.size, 0, none⟩ (.int .i64 (dN L f e 0 i - 1))) wo.heap.size (fun q => dN L f e q (i + 1))) := Lib.hid (fun W h => h.set 0 (by omega) _ (dN_mis hwd'.out (by rw [← HXJ.out]; exact hcnt) (by rw [← HXJ.out]; exact hin)) (fun q hq => dN_other (by rw [hwd'.out]; exact fun h => hq h.symm)))
                obtain ⟨b1, b2⟩ := dN_bd L f e 0 i
                obtain ⟨m0, m1, m2, m3, m4, m5, m6⟩ := HM2.out.cells
                have fz := HM2.out.frozen 0
                generalize hd0 : dN L f e 0 i = d at *
                clear hd0
                go_wp2_with (go_at_call 38; refine (weekday_any x hx0 (by omega) _).mono ?_; rintro en w9 ⟨rfl, rfl⟩; rw [hwd])
                go_roundw
                case rel => exact ⟨i + 1, by have := HXJ.out; omega, int_eq (by have := HXJ.out; omega), Lib.hid (HW2.out.grown (grownBy_set _ _ _ _) (fun g e => by cases e; exact ⟨HS3.out, by simp [Value.ownBlock], by simp [Value.ownBlock]⟩)), Lib.hid (hset.out _ HM2.out)⟩
                case measure => have := HXJ.out; simp [intOf]; omega
              · have hwd' : Hid (wd7 (f + i) = 1) := Lib.hid (by rw [← HXJ.out]; exact hwd)
                have hset : Hid (∀ W : World, More W wo.heap.size (fun q => dN L f e q i) → More (W.setCell ⟨wo.heap.size, 1, none⟩ (.int .i64 (dN L f e 1 i - 1))) wo.heap.size (fun q => dN L f e q (i + 1))) := Lib.hid (fun W h => h.set 1 (by omega) _ (dN_mis hwd'.out (by rw [← HXJ.out]; exact hcnt) (by rw [← HXJ.out]; exact hin)) (fun q hq => dN_other (by rw [hwd'.out]; exact fun h => hq h.symm)))
                obtain ⟨b1, b2⟩ := dN_bd L f e 1 i
                obtain ⟨m0, m1, m2, m3, m4, m5, m6⟩ := HM2.out.cells
                have fz := HM2.out.frozen 1
                generalize hd1 : dN L f e 1 i = d at *
                clear hd1
                go_wp2_with (go_at_call 38; refine (weekday_any x hx0 (by omega) _).mono ?_; rintro en w9 ⟨rfl, rfl⟩; rw [hwd])
                go_roundw
                case rel => exact ⟨i + 1, by have := HXJ.out; omega, int_eq (by have := HXJ.out; omega), Lib.hid (HW2.out.grown (grownBy_set _ _ _ _) (fun g e => by cases e; exact ⟨HS3.out, by simp [Value.ownBlock], by simp [Value.ownBlock]⟩)), Lib.hid (hset.out _ HM2.out)⟩
                case measure => have := HXJ.out; simp [intOf]; omega
              · have hwd' : Hid (wd7 (f + i) = 2) := Lib.hid (by rw [← HXJ.out]; exact hwd)
                have hset : Hid (∀ W : World, More W wo.heap.size (fun q => dN L f e q i) → More (W.setCell ⟨wo.heap.size, 2, none⟩ (.int .i64 (dN L f e 2 i - 1))) wo.heap.size (fun q => dN L f e q (i + 1))) := Lib.hid (fun W h => h.set 2 (by omega) _ (dN_mis hwd'.out (by rw [← HXJ.out]; exact hcnt) (by rw [← HXJ.out]; exact hin)) (fun q hq => dN_other (by rw [hwd'.out]; exact fun h => hq h.symm)))
                obtain ⟨b1, b2⟩ := dN_bd L f e 2 i
                obtain ⟨m0, m1, m2, m3, m4, m5, m6⟩ := HM2.out.cells
                have fz := HM2.out.frozen 2
                generalize hd2 : dN L f e 2 i = d at *
                clear hd2
                go_wp2_with (go_at_call 38; refine (weekday_any x hx0 (by omega) _).mono ?_; rintro en w9 ⟨rfl, rfl⟩; rw [hwd])
                go_roundw
                case rel => exact ⟨i + 1, by have := HXJ.out; omega, int_eq (by have := HXJ.out; omega), Lib.hid (HW2.out.grown (grownBy_set _ _ _ _) (fun g e => by cases e; exact ⟨HS3.out, by simp [Value.ownBlock], by simp [Value.ownBlock]⟩)), Lib.hid (hset.out _ HM2.out)⟩
                case measure => have := HXJ.out; simp [intOf]; omega
              · have hwd' : Hid (wd7 (f + i) = 3) := Lib.hid (by rw [← HXJ.out]; exact hwd)
                have hset : Hid (∀ W : World, More W wo.heap.size (fun q => dN L f e q i) → More (W.setCell ⟨wo.heap.size, 3, none⟩ (.int .i64 (dN L f e 3 i - 1))) wo.heap.size (fun q => dN L f e q (i + 1))) := Lib.hid (fun W h => h.set 3 (by omega) _ (dN_mis hwd'.out (by rw [← HXJ.out]; exact hcnt) (by rw [← HXJ.out]; exact hin)) (fun q hq => dN_other (by rw [hwd'.out]; exact fun h => hq h.symm)))
                obtain ⟨b1, b2⟩ := dN_bd L f e 3 i
                obtain ⟨m0, m1, m2, m3, m4, m5, m6⟩ := HM2.out.cells
                have fz := HM2.out.frozen 3
                generalize hd3 : dN L f e 3 i = d at *
                clear hd3
                go_wp2_with (go_at_call 38; refine (weekday_any x hx0 (by omega) _).mono ?_; rintro en w9 ⟨rfl, rfl⟩; rw [hwd])
                go_roundw
                case rel => exact ⟨i + 1, by have := HXJ.out; omega, int_eq (by have := HXJ.out; omega), Lib.hid (HW2.out.grown (grownBy_set _ _ _ _) (fun g e => by cases e; exact ⟨HS3.out, by simp [Value.ownBlock], by simp [Value.ownBlock]⟩)), Lib.hid (hset.out _ HM2.out)⟩
                case measure => have := HXJ.out; simp [intOf]; omega
              · have hwd' : Hid (wd7 (f + i) = 4) := Lib.hid (by rw [← HXJ.out]; exact hwd)
                have hset : Hid (∀ W : World, More W wo.heap.size (fun q => dN L f e q i) → More (W.setCell ⟨wo.heap.size, 4, none⟩ (.int .i64 (dN L f e 4 i - 1))) wo.heap.size (fun q => dN L f e q (i + 1))) := Lib.hid (fun W h => h.set 4 (by omega) _ (dN_mis hwd'.out (by rw [← HXJ.out]; exact hcnt) (by rw [← HXJ.out]; exact hin)) (fun q hq => dN_other (by rw [hwd'.out]; exact fun h => hq h.symm)))
                obtain ⟨b1, b2⟩ := dN_bd L f e 4 i
                obtain ⟨m0, m1, m2, m3, m4, m5, m6⟩ := HM2.out.cells
                have fz := HM2.out.frozen 4
                generalize hd4 : dN L f e 4 i = d at *
                clear hd4
                go_wp2_with (go_at_call 38; refine (weekday_any x hx0 (by omega) _).mono ?_; rintro en w9 ⟨rfl, rfl⟩; rw [hwd])
                go_roundw
                case rel => exact ⟨i + 1, by have := HXJ.out; omega, int_eq (by have := HXJ.out; omega), Lib.hid (HW2.out.grown (grownBy_set _ _ _ _) (fun g e => by cases e; exact ⟨HS3.out, by simp [Value.ownBlock], by simp [Value.ownBlock]⟩)), Lib.hid (hset.out _ HM2.out)⟩
                case measure => have := HXJ.out; simp [intOf]; omega
              · have hwd' : Hid (wd7 (f + i) = 5) := Lib.hid (by rw [← HXJ.out]; exact hwd)
                have hset : Hid (∀ W : World, More W wo.heap.size (fun q => dN L f e q i) → More (W.setCell ⟨wo.heap.size, 5, none⟩ (.int .i64 (dN L f e 5 i - 1))) wo.heap.size (fun q => dN L f e q (i + 1))) := Lib.hid (fun W h => h.set 5 (by omega) _ (dN_mis hwd'.out (by rw [← HXJ.out]; exact hcnt) (by rw [← HXJ.out]; exact hin)) (fun q hq => dN_other (by rw [hwd'.out]; exact fun h => hq h.symm)))
                obtain ⟨b1, b2⟩ := dN_bd L f e 5 i
                obtain ⟨m0, m1, m2, m3, m4, m5, m6⟩ := HM2.out.cells
                have fz := HM2.out.frozen 5
                generalize hd5 : dN L f e 5 i = d at *
                clear hd5
                go_wp2_with (go_at_call 38; refine (weekday_any x hx0 (by omega) _).mono ?_; rintro en w9 ⟨rfl, rfl⟩; rw [hwd])
                go_roundw
                case rel => exact ⟨i + 1, by have := HXJ.out; omega, int_eq (by have := HXJ.out; omega), Lib.hid (HW2.out.grown (grownBy_set _ _ _ _) (fun g e => by cases e; exact ⟨HS3.out, by simp [Value.ownBlock], by simp [Value.ownBlock]⟩)), Lib.hid (hset.out _ HM2.out)⟩
                case measure => have := HXJ.out; simp [intOf]; omega
              · have hwd' : Hid (wd7 (f + i) = 6) := Lib.hid (by rw [← HXJ.out]; exact hwd)
                have hset : Hid (∀ W : World, More W wo.heap.size (fun q => dN L f e q i) → More (W.setCell ⟨wo.heap.size, 6, none⟩ (.int .i64 (dN L f e 6 i - 1))) wo.heap.size (fun q => dN L f e q (i + 1))) := Lib.hid (fun W h => h.set 6 (by omega) _ (dN_mis hwd'.out (by rw [← HXJ.out]; exact hcnt) (by rw [← HXJ.out]; exact hin)) (fun q hq => dN_other (by rw [hwd'.out]; exact fun h => hq h.symm)))
                obtain ⟨b1, b2⟩ := dN_bd L f e 6 i
                obtain ⟨m0, m1, m2, m3, m4, m5, m6⟩ := HM2.out.cells
                have fz := HM2.out.frozen 6
                generalize hd6 : dN L f e 6 i = d at *
                clear hd6
                go_wp2_with (go_at_call 38; refine (weekday_any x hx0 (by omega) _).mono ?_; rintro en w9 ⟨rfl, rfl⟩; rw [hwd])
                go_roundw
                case rel => exact ⟨i + 1, by have := HXJ.out; omega, int_eq (by have := HXJ.out; omega), Lib.hid (HW2.out.grown (grownBy_set _ _ _ _) (fun g e => by cases e; exact ⟨HS3.out, by simp [Value.ownBlock], by simp [Value.ownBlock]⟩)), Lib.hid (hset.out _ HM2.out)⟩
                case measure => have := HXJ.out; simp [intOf]; omega
            · rw [hin] at hrun
              rcases wd_cases x with hwd | hwd | hwd | hwd | hwd | hwd | hwd
              · have hwd' : Hid (wd7 (f + i) = 0) := Lib.hid (by rw [← HXJ.out]; exact hwd)
                have hset : Hid (∀ W : World, More W wo.heap.size (fun q => dN L f e q i) → More (W.setCell ⟨wo.heap.size, 0, none⟩ (.int .i64 (dN L f e 0 i + 1))) wo.heap.size (fun q => dN L f e q (i + 1))) := Lib.hid (fun W h => h.set 0 (by omega) _ (dN_hit hwd'.out (by rw [← HXJ.out]; exact hcnt) (by rw [← HXJ.out]; exact hin)) (fun q hq => dN_other (by rw [hwd'.out]; exact fun h => hq h.symm)))
                obtain ⟨b1, b2⟩ := dN_bd L f e 0 i
                obtain ⟨m0, m1, m2, m3, m4, m5, m6⟩ := HM2.out.cells
                have fz := HM2.out.frozen 0
                generalize hd0 : dN L f e 0 i = d at *
                clear hd0
                go_wp2_with (go_at_call 38; refine (weekday_any x hx0 (by omega) _).mono ?_; rintro en w9 ⟨rfl, rfl⟩; rw [hwd])
                go_roundw
                case rel => exact ⟨i + 1, by have := HXJ.out; omega, int_eq (by have := HXJ.out; omega), Lib.hid (HW2.out.grown (grownBy_set _ _ _ _) (fun g e => by cases e; exact ⟨HS3.out, by simp [Value.ownBlock], by simp [Value.ownBlock]⟩)), Lib.hid (hset.out _ HM2.out)⟩
                case measure => have := HXJ.out; simp [intOf]; omega
              · have hwd' : Hid (wd7 (f + i) = 1) := Lib.hid (by rw [← HXJ.out]; exact hwd)
                have hset : Hid (∀ W : World, More W wo.heap.size (fun q => dN L f e q i) → More (W.setCell ⟨wo.heap.size, 1, none⟩ (.int .i64 (dN L f e 1 i + 1))) wo.heap.size (fun q => dN L f e q (i + 1))) := Lib.hid (fun W h => h.set 1 (by omega) _ (dN_hit hwd'.out (by rw [← HXJ.out]; exact hcnt) (by rw [← HXJ.out]; exact hin)) (fun q hq => dN_other (by rw [hwd'.out]; exact fun h => hq h.symm)))
                obtain ⟨b1, b2⟩ := dN_bd L f e 1 i
                obtain ⟨m0, m1, m2, m3, m4, m5, m6⟩ := HM2.out.cells
                have fz := HM2.out.frozen 1
                generalize hd1 : dN L f e 1 i = d at *
                clear hd1
                go_wp2_with (go_at_call 38; refine (weekday_any x hx0 (by omega) _).mono ?_; rintro en w9 ⟨rfl, rfl⟩; rw [hwd])
                go_roundw
                case rel => exact ⟨i + 1, by have := HXJ.out; omega, int_eq (by have := HXJ.out; omega), Lib.hid (HW2.out.grown (grownBy_set _ _ _ _) (fun g e => by cases e; exact ⟨HS3.out, by simp [Value.ownBlock], by simp [Value.ownBlock]⟩)), Lib.hid (hset.out _ HM2.out)⟩
                case measure => have := HXJ.out; simp [intOf]; omega
              · have hwd' : Hid (wd7 (f + i) = 2) := Lib.hid (by rw [← HXJ.out]; exact hwd)
                have hset : Hid (∀ W : World, More W wo.heap.size (fun q => dN L f e q i) → More (W.setCell ⟨wo.heap.size, 2, none⟩ (.int .i64 (dN L f e 2 i + 1))) wo.heap.size (fun q => dN L f e q (i + 1))) := Lib.hid (fun W h => h.set 2 (by omega) _ (dN_hit hwd'.out (by rw [← HXJ.out]; exact hcnt) (by rw [← HXJ.out]; exact hin)) (fun q hq => dN_other (by rw [hwd'.out]; exact fun h => hq h.symm)))
                obtain ⟨b1, b2⟩ := dN_bd L f e 2 i
                obtain ⟨m0, m1, m2, m3, m4, m5, m6⟩ := HM2.out.cells
                have fz := HM2.out.frozen 2
                generalize hd2 : dN L f e 2 i = d at *
                clear hd2
                go_wp2_with (go_at_call 38; refine (weekday_any x hx0 (by omega) _).mono ?_; rintro en w9 ⟨rfl, rfl⟩; rw [hwd])
                go_roundw
                case rel => exact ⟨i + 1, by have := HXJ.out; omega, int_eq (by have := HXJ.out; omega), Lib.hid (HW2.out.grown (grownBy_set _ _ _ _) (fun g e => by cases e; exact ⟨HS3.out, by simp [Value.ownBlock], by simp [Value.ownBlock]⟩)), Lib.hid (hset.out _ HM2.out)⟩
                case measure => have := HXJ.out; simp [intOf]; omega
              · have hwd' : Hid (wd7 (f + i) = 3) := Lib.hid (by rw [← HXJ.out]; exact hwd)
                have hset : Hid (∀ W : World, More W wo.heap.size (fun q => dN L f e q i) → More (W.setCell ⟨wo.heap.size, 3, none⟩ (.int .i64 (dN L f e 3 i + 1))) wo.heap.size (fun q => dN L f e q (i + 1))) := Lib.hid (fun W h => h.set 3 (by omega) _ (dN_hit hwd'.out (by rw [← HXJ.out]; exact hcnt) (by rw [← HXJ.out]; exact hin)) (fun q hq => dN_other (by rw [hwd'.out]; exact fun h => hq h.symm)))
                obtain ⟨b1, b2⟩ := dN_bd L f e 3 i
                obtain ⟨m0, m1, m2, m3, m4, m5, m6⟩ := HM2.out.cells
                have fz := HM2.out.frozen 3
                generalize hd3 : dN L f e 3 i = d at *
                clear hd3
                go_wp2_with (go_at_call 38; refine (weekday_any x hx0 (by omega) _).mono ?_; rintro en w9 ⟨rfl, rfl⟩; rw [hwd])
                go_roundw
                case rel => exact ⟨i + 1, by have := HXJ.out; omega, int_eq (by have := HXJ.out; omega), Lib.hid (HW2.out.grown (grownBy_set _ _ _ _) (fun g e => by cases e; exact ⟨HS3.out, by simp [Value.ownBlock], by simp [Value.ownBlock]⟩)), Lib.hid (hset.out _ HM2.out)⟩
                case measure => have := HXJ.out; simp [intOf]; omega
              · have hwd' : Hid (wd7 (f + i) = 4) := Lib.hid (by rw [← HXJ.out]; exact hwd)
                have hset : Hid (∀ W : World, More W wo.heap.size (fun q => dN L f e q i) → More (W.setCell ⟨wo.heap.size, 4, none⟩ (.int .i64 (dN L f e 4 i + 1))) wo.heap.size (fun q => dN L f e q (i + 1))) := Lib.hid (fun W h => h.set 4 (by omega) _ (dN_hit hwd'.out (by rw [← HXJ.out]; exact hcnt) (by rw [← HXJ.out]; exact hin)) (fun q hq => dN_other (by rw [hwd'.out]; exact fun h => hq h.symm)))
                obtain ⟨b1, b2⟩ := dN_bd L f e 4 i
                obtain ⟨m0, m1, m2, m3, m4, m5, m6⟩ := HM2.out.cells
                have fz := HM2.out.frozen 4
                generalize hd4 : dN L f e 4 i = d at *
                clear hd4
                go_wp2_with (go_at_call 38; refine (weekday_any x hx0 (by omega) _).mono ?_; rintro en w9 ⟨rfl, rfl⟩; rw [hwd])
                go_roundw
                case rel => exact ⟨i + 1, by have := HXJ.out; omega, int_eq (by have := HXJ.out; omega), Lib.hid (HW2.out.grown (grownBy_set _ _ _ _) (fun g e => by cases e; exact ⟨HS3.out, by simp [Value.ownBlock], by simp [Value.ownBlock]⟩)), Lib.hid (hset.out _ HM2.out)⟩
                case measure => have := HXJ.out; simp [intOf]; omega
              · have hwd' : Hid (wd7 (f + i) = 5) := Lib.hid (by rw [← HXJ.out]; exact hwd)
                have hset : Hid (∀ W : World, More W wo.heap.size (fun q => dN L f e q i) → More (W.setCell ⟨wo.heap.size, 5, none⟩ (.int .i64 (dN L f e 5 i + 1))) wo.heap.size (fun q => dN L f e q (i + 1))) := Lib.hid (fun W h => h.set 5 (by omega) _ (dN_hit hwd'.out (by rw [← HXJ.out]; exact hcnt) (by rw [← HXJ.out]; exact hin)) (fun q hq => dN_other (by rw [hwd'.out]; exact fun h => hq h.symm)))
                obtain ⟨b1, b2⟩ := dN_bd L f e 5 i
                obtain ⟨m0, m1, m2, m3, m4, m5, m6⟩ := HM2.out.cells
                have fz := HM2.out.frozen 5
                generalize hd5 : dN L f e 5 i = d at *
                clear hd5
                go_wp2_with (go_at_call 38; refine (weekday_any x hx0 (by omega) _).mono ?_; rintro en w9 ⟨rfl, rfl⟩; rw [hwd])
                go_roundw
                case rel => exact ⟨i + 1, by have := HXJ.out; omega, int_eq (by have := HXJ.out; omega), Lib.hid (HW2.out.grown (grownBy_set _ _ _ _) (fun g e => by cases e; exact ⟨HS3.out, by simp [Value.ownBlock], by simp [Value.ownBlock]⟩)), Lib.hid (hset.out _ HM2.out)⟩
                case measure => have := HXJ.out; simp [intOf]; omega
              · have hwd' : Hid (wd7 (f + i) = 6) := Lib.hid (by rw [← HXJ.out]; exact hwd)
                have hset : Hid (∀ W : World, More W wo.heap.size (fun q => dN L f e q i) → More (W.setCell ⟨wo.heap.size, 6, none⟩ (.int .i64 (dN L f e 6 i + 1))) wo.heap.size (fun q => dN L f e q (i + 1))) := Lib.hid (fun W h => h.set 6 (by omega) _ (dN_hit hwd'.out (by rw [← HXJ.out]; exact hcnt) (by rw [← HXJ.out]; exact hin)) (fun q hq => dN_other (by rw [hwd'.out]; exact fun h => hq h.symm)))
                obtain ⟨b1, b2⟩ := dN_bd L f e 6 i
                obtain ⟨m0, m1, m2, m3, m4, m5, m6⟩ := HM2.out.cells
                have fz := HM2.out.frozen 6
                generalize hd6 : dN L f e 6 i = d at *
                clear hd6
                go_wp2_with (go_at_call 38; refine (weekday_any x hx0 (by omega) _).mono ?_; rintro en w9 ⟨rfl, rfl⟩; rw [hwd])
                go_roundw
                case rel => exact ⟨i + 1, by have := HXJ.out; omega, int_eq (by have := HXJ.out; omega), Lib.hid (HW2.out.grown (grownBy_set _ _ _ _) (fun g e => by cases e; exact ⟨HS3.out, by simp [Value.ownBlock], by simp [Value.ownBlock]⟩)), Lib.hid (hset.out _ HM2.out)⟩
                case measure => have := HXJ.out; simp [intOf]; omega
        · have hjj : Hid (i = (l - f + 1).toNat) := Lib.hid (by omega)
          have hbest : Hid (∀ q : Int, bestB L f l e q = decide (0 < dN L f e q i)) := Lib.hid (fun q => by rw [bestB_dN, ← hjj.out])
          obtain ⟨m0, m1, m2, m3, m4, m5, m6⟩ := HM.out.cells
          obtain ⟨w3, rfl⟩ : ∃ w3 : World, w3 = wr := ⟨_, rfl⟩
          clear hi
          go_wp2
          go_loopw [11, 12, 66] (fun _ _ s wr => ∃ p : Nat, p ≤ 7 ∧ s = .int .i64 p ∧ Hid (WA w wr f l e (setN L f l e p) (.slice none 0 0) (.slice none 0 0) [] [] j L)) (fun _ _ s _ => 7 - (intOf s).toNat)
          case atStart => exact ⟨0, by omega, rfl, HW⟩
          case round =>
            clear HW HM m0 m1 m2 m3 m4 m5 m6 c0 c1 c2 c3 c4 c5 sz
            obtain ⟨p, hp, rfl, HW⟩ := hrel
            obtain ⟨c0, c1, c2, c3, c4, c5, z0, z1, z2, z3, z4, z5, sz⟩ := c6_cells HW.out.bx.hs
            clear z0 z1 z2 z4 z5
            obtain ⟨s0, s1⟩ := setN_bd L f l e p
            obtain ⟨ix0, ix1, ix2, ix3, ix4, ix5, ix6⟩ := ix7 (dN L f e 0 i) (dN L f e 1 i) (dN L f e 2 i) (dN L f e 3 i) (dN L f e 4 i) (dN L f e 5 i) (dN L f e 6 i) wr
            have hsn : Hid (setN L f l e (p + 1) = setN L f l e p + bif decide (0 < dN L f e p i) then 2 ^ p else 0) := Lib.hid (by rw [← hbest.out]; rfl)
            rcases (show p = 0 ∨ p = 1 ∨ p = 2 ∨ p = 3 ∨ p = 4 ∨ p = 5 ∨ p = 6 ∨ p = 7 by omega) with rfl | rfl | rfl | rfl | rfl | rfl | rfl | rfl
            · by_cases hpos : 0 < dN L f e 0 i
              · have hk : Hid (setN L f l e 1 = setN L f l e 0 + 1) := Lib.hid (by have := hsn.out; rw [show (((0 : Nat) : Int)) = 0 from rfl, decide_eq_true hpos, cond_true] at this; exact this)
                have hor := or_pow (setN L f l e 0) 0 s0 s1 (by omega)
                have hor' : bits .or .i64 (setN L f l e 0) 1 = setN L f l e 0 + 1 := hor
                clear hsn hor
                go_wp2
                go_region
                go_wp2
                go_roundw
                case rel => exact ⟨1, by omega, by go_num, Lib.hid (by rw [hk.out]; exact (HW.out.setk _).next (bel_drew0 _))⟩
                case measure => simp [intOf]
              · have hk : Hid (setN L f l e 1 = setN L f l e 0) := Lib.hid (by have := hsn.out; rw [show (((0 : Nat) : Int)) = 0 from rfl, decide_eq_false hpos, cond_false, Int.add_zero] at this; exact this)
                clear hsn
                go_wp2
                go_roundw
                case rel => exact ⟨1, by omega, by go_num, Lib.hid (by rw [hk.out]; exact HW.out)⟩
                case measure => simp [intOf]
            · by_cases hpos : 0 < dN L f e 1 i
              · have hk : Hid (setN L f l e 2 = setN L f l e 1 + 2) := Lib.hid (by have := hsn.out; rw [show (((1 : Nat) : Int)) = 1 from rfl, decide_eq_true hpos, cond_true] at this; exact this)
                have hor := or_pow (setN L f l e 1) 1 s0 s1 (by omega)
                have hor' : bits .or .i64 (setN L f l e 1) 2 = setN L f l e 1 + 2 := hor
                clear hsn hor
                go_wp2
                go_region
                go_wp2
                go_roundw
                case rel => exact ⟨2, by omega, by go_num, Lib.hid (by rw [hk.out]; exact (HW.out.setk _).next (bel_drew0 _))⟩
                case measure => simp [intOf]
              · have hk : Hid (setN L f l e 2 = setN L f l e 1) := Lib.hid (by have := hsn.out; rw [show (((1 : Nat) : Int)) = 1 from rfl, decide_eq_false hpos, cond_false, Int.add_zero] at this; exact this)
                clear hsn
                go_wp2
                go_roundw
                case rel => exact ⟨2, by omega, by go_num, Lib.hid (by rw [hk.out]; exact HW.out)⟩
                case measure => simp [intOf]
            · by_cases hpos : 0 < dN L f e 2 i
              · have hk : Hid (setN L f l e 3 = setN L f l e 2 + 4) := Lib.hid (by have := hsn.out; rw [show (((2 : Nat) : Int)) = 2 from rfl, decide_eq_true hpos, cond_true] at this; exact this)
                have hor := or_pow (setN L f l e 2) 2 s0 s1 (by omega)
                have hor' : bits .or .i64 (setN L f l e 2) 4 = setN L f l e 2 + 4 := hor
                clear hsn hor
                go_wp2
                go_region
                go_wp2
                go_roundw
                case rel => exact ⟨3, by omega, by go_num, Lib.hid (by rw [hk.out]; exact (HW.out.setk _).next (bel_drew0 _))⟩
                case measure => simp [intOf]
              · have hk : Hid (setN L f l e 3 = setN L f l e 2) := Lib.hid (by have := hsn.out; rw [show (((2 : Nat) : Int)) = 2 from rfl, decide_eq_false hpos, cond_false, Int.add_zero] at this; exact this)
                clear hsn
                go_wp2
                go_roundw
                case rel => exact ⟨3, by omega, by go_num, Lib.hid (by rw [hk.out]; exact HW.out)⟩
                case measure => simp [intOf]
            · by_cases hpos : 0 < dN L f e 3 i
              · have hk : Hid (setN L f l e 4 = setN L f l e 3 + 8) := Lib.hid (by have := hsn.out; rw [show (((3 : Nat) : Int)) = 3 from rfl, decide_eq_true hpos, cond_true] at this; exact this)
                have hor := or_pow (setN L f l e 3) 3 s0 s1 (by omega)
                have hor' : bits .or .i64 (setN L f l e 3) 8 = setN L f l e 3 + 8 := hor
                clear hsn hor
                go_wp2
                go_region
                go_wp2
                go_roundw
                case rel => exact ⟨4, by omega, by go_num, Lib.hid (by rw [hk.out]; exact (HW.out.setk _).next (bel_drew0 _))⟩
                case measure => simp [intOf]
              · have hk : Hid (setN L f l e 4 = setN L f l e 3) := Lib.hid (by have := hsn.out; rw [show (((3 : Nat) : Int)) = 3 from rfl, decide_eq_false hpos, cond_false, Int.add_zero] at this; exact this)
                clear hsn
                go_wp2
                go_roundw
                case rel => exact ⟨4, by omega, by go_num, Lib.hid (by rw [hk.out]; exact HW.out)⟩
                case measure => simp [intOf]
            · by_cases hpos : 0 < dN L f e 4 i
              · have hk : Hid (setN L f l e 5 = setN L f l e 4 + 16) := Lib.hid (by have := hsn.out; rw [show (((4 : Nat) : Int)) = 4 from rfl, decide_eq_true hpos, cond_true] at this; exact this)
                have hor := or_pow (setN L f l e 4) 4 s0 s1 (by omega)
                have hor' : bits .or .i64 (setN L f l e 4) 16 = setN L f l e 4 + 16 := hor
                clear hsn hor
                go_wp2
                go_region
                go_wp2
                go_roundw
                case rel => exact ⟨5, by omega, by go_num, Lib.hid (by rw [hk.out]; exact (HW.out.setk _).next (bel_drew0 _))⟩
                case measure => simp [intOf]
              · have hk : Hid (setN L f l e 5 = setN L f l e 4) := Lib.hid (by have := hsn.out; rw [show (((4 : Nat) : Int)) = 4 from rfl, decide_eq_false hpos, cond_false, Int.add_zero] at this; exact this)
                clear hsn
                go_wp2
                go_roundw
                case rel => exact ⟨5, by omega, by go_num, Lib.hid (by rw [hk.out]; exact HW.out)⟩
                case measure => simp [intOf]
            · by_cases hpos : 0 < dN L f e 5 i
              · have hk : Hid (setN L f l e 6 = setN L f l e 5 + 32) := Lib.hid (by have := hsn.out; rw [show (((5 : Nat) : Int)) = 5 from rfl, decide_eq_true hpos, cond_true] at this; exact this)
                have hor := or_pow (setN L f l e 5) 5 s0 s1 (by omega)
                have hor' : bits .or .i64 (setN L f l e 5) 32 = setN L f l e 5 + 32 := hor
                clear hsn hor
                go_wp2
                go_region
                go_wp2
                go_roundw
                case rel => exact ⟨6, by omega, by go_num, Lib.hid (by rw [hk.out]; exact (HW.out.setk _).next (bel_drew0 _))⟩
                case measure => simp [intOf]
              · have hk : Hid (setN L f l e 6 = setN L f l e 5) := Lib.hid (by have := hsn.out; rw [show (((5 : Nat) : Int)) = 5 from rfl, decide_eq_false hpos, cond_false, Int.add_zero] at this; exact this)
                clear hsn
                go_wp2
                go_roundw
                case rel => exact ⟨6, by omega, by go_num, Lib.hid (by rw [hk.out]; exact HW.out)⟩
                case measure => simp [intOf]
            · by_cases hpos : 0 < dN L f e 6 i
              · have hk : Hid (setN L f l e 7 = setN L f l e 6 + 64) := Lib.hid (by have := hsn.out; rw [show (((6 : Nat) : Int)) = 6 from rfl, decide_eq_true hpos, cond_true] at this; exact this)
                have hor := or_pow (setN L f l e 6) 6 s0 s1 (by omega)
                have hor' : bits .or .i64 (setN L f l e 6) 64 = setN L f l e 6 + 64 := hor
                clear hsn hor
                go_wp2
                go_region
                go_wp2
                go_roundw
                case rel => exact ⟨7, by omega, by go_num, Lib.hid (by rw [hk.out]; exact (HW.out.setk _).next (bel_drew0 _))⟩
                case measure => simp [intOf]
              · have hk : Hid (setN L f l e 7 = setN L f l e 6) := Lib.hid (by have := hsn.out; rw [show (((6 : Nat) : Int)) = 6 from rfl, decide_eq_false hpos, cond_false, Int.add_zero] at this; exact this)
                clear hsn
                go_wp2
                go_roundw
                case rel => exact ⟨7, by omega, by go_num, Lib.hid (by rw [hk.out]; exact HW.out)⟩
                case measure => simp [intOf]
            · obtain ⟨w4, rfl⟩ : ∃ w4 : World, w4 = wr := ⟨_, rfl⟩
              obtain ⟨k, hk⟩ : ∃ k, k = setS L f l e := ⟨_, rfl⟩
              obtain ⟨k0, k1⟩ := setS_bd L f l e
              rw [← hk] at k0 k1
              have HW : Hid (WA w w4 f l e k (.slice none 0 0) (.slice none 0 0) [] [] j L) := Lib.hid (by rw [hk]; exact HW.out)
              have HK := Lib.hid hk
              have c3 : w4.cell? ⟨w.heap.size + 1, 3, none⟩ = some (.int .i64 k) := by rw [hk]; exact c3
              obtain ⟨i0, hi, hz0, hz1, hz2⟩ := info_parts Tryz.infoInt
              have HI0 := Lib.hid hi; have HZ0 := Lib.hid hz0; have HZ1 := Lib.hid hz1; have HZ2 := Lib.hid hz2
              clear hi hz0 hz1 hz2 hk hsn s0 s1 hp
              go_wp2
              go_loopw [13] (fun d wr => ∃ (i : Nat) (a1 : Option Addr) (c1 : Nat) (b1 : Option Addr) (q1 : Nat), f + i ≤ l + 1 ∧ d = .int .i64 (f + i) ∧
                Hid (WA w wr f l e k (.slice a1 ((rng f i).filter (excX L f l e k)).length c1) (.slice b1 ((rng f i).filter (excY L f l e k)).length q1) ((rng f i).filter (excX L f l e k)) ((rng f i).filter (excY L f l e k)) j L)) (fun d _ => (l + 1 - intOf d).toNat)
              case atStart => exact ⟨0, none, 0, none, 0, by omega, by simp, HW⟩
              case round =>
                clear HW c0 c1 c2 c3 c4 c5 sz z3 ix0 ix1 ix2 ix3 ix4 ix5 ix6
                obtain ⟨i, a1, c1', b1, q1, hi, rfl, HW⟩ := hrel
                obtain ⟨c0, c1, c2, c3, c4, c5, z0, z1, z2, z3, z4, z5, sz⟩ := c6_cells HW.out.bx.hs
                have hlX := filter_len (excX L f l e k) f i
                have hlY := filter_len (excY L f l e k) f i
                by_cases hlt : f + i ≤ l
                · clear z0 z1 z2 z3 z4 z5
                  obtain ⟨x, hxj⟩ : ∃ x : Int, x = f + i := ⟨_, rfl⟩
                  have HXJ := Lib.hid hxj
                  rw [← hxj] at hlt ⊢
                  have hx0 : 0 ≤ x := by omega
                  have hi2 : i ≤ 141 := by omega
                  have hwx : (Lit.int .i64 x).wf = true := wf_i64 (by omega) (by omega)
                  clear hxj hi
                  cases hr : regB f l e k x <;> cases hin : hasI L x
                  · -- not regular, not a day
                    have hX : Hid ((rng f (i + 1)).filter (excX L f l e k) = (rng f i).filter (excX L f l e k)) := Lib.hid (filter_miss (by rw [← HXJ.out]; simp [excX, hr, hin]))
                    have hY : Hid ((rng f (i + 1)).filter (excY L f l e k) = (rng f i).filter (excY L f l e k)) := Lib.hid (filter_miss (by rw [← HXJ.out]; simp [excY, hr, hin]))
                    generalize (rng f i).filter (excX L f l e k) = X at *
                    generalize (rng f i).filter (excY L f l e k) = Y at *
                    go_wp2_with (first
                    | (go_at_call 50; refine (regular_any f l e k x _ _ _ _ _ _ _ f1 l2 e1 e2 k0 k1).mono ?_; rintro en w2 ⟨rfl, hb2⟩; rw [hr]; have HW2 := Lib.hid (HW.out.next hb2); have hrun := HW2.out.st.look (x := x) hwx; obtain ⟨c0, c1, c2, c3, c4, c5, z0, z1, z2, z3, z4, z5, sz⟩ := c6_cells HW2.out.bx.hs; rw [hin] at hrun))
                    refine ⟨?_, ?measure⟩
                    iterate 8 (apply Exists.intro)
                    (repeat apply Exists.intro)
                    refine ⟨?rel, rfl⟩
                    case rel => exact ⟨i + 1, a1, c1', b1, q1, by have := HXJ.out; omega, int_eq (by have := HXJ.out; omega), Lib.hid (by rw [hX.out, hY.out]; exact HW2.out)⟩
                    case measure => have := HXJ.out; simp [intOf]; omega
                  · -- not regular, a day
                    have hX : Hid ((rng f (i + 1)).filter (excX L f l e k) = (rng f i).filter (excX L f l e k)) := Lib.hid (by exact filter_miss (by rw [← HXJ.out]; simp [excX, hr, hin]))
                    have hY : Hid ((rng f (i + 1)).filter (excY L f l e k) = (rng f i).filter (excY L f l e k) ++ [x]) := Lib.hid (by rw [filter_hit (by rw [← HXJ.out]; simp [excY, hr, hin]), ← HXJ.out])
                    generalize (rng f i).filter (excX L f l e k) = X at *
                    generalize (rng f i).filter (excY L f l e k) = Y at *
                    go_wp2_with (first
                    | (go_at_call 50; refine (regular_any f l e k x _ _ _ _ _ _ _ f1 l2 e1 e2 k0 k1).mono ?_; rintro en w2 ⟨rfl, hb2⟩; rw [hr]; have HW2 := Lib.hid (HW.out.next hb2); have hrun := HW2.out.st.look (x := x) hwx; obtain ⟨c0, c1, c2, c3, c4, c5, z0, z1, z2, z3, z4, z5, sz⟩ := c6_cells HW2.out.bx.hs; rw [hin] at hrun)
                    | (at_builtin; refine wpList_append_own_at _ rfl _ _ 22 rfl (w.heap.size + 3) 3 i0 (.int .i64 0) 1 8 Tryz.underlying22 HI0.out HZ0.out HZ1.out HZ2.out rfl (by decide) _ _ _ rfl (HW2.out.bx.rb.alloc _) ⟨w2.heap.size, 0, none⟩ 1 1 [.int .i64 x] rfl rfl (cell_one_new _ _ _) (by simp [Value.oneCell']) (by unfold maxLen; omega) (by omega) (by have := HW2.out.sz; simp; omega) ?_; intro v' w4 hown' hgrow _ hat; have HOW := Lib.hid hown'; have HG := Lib.hid hgrow; have HAT := Lib.hid hat; clear hgrow hat; obtain ⟨g', cap', rfl⟩ := ownsRow_succ hown'; obtain ⟨hcs, hWA⟩ := HW2.out.appY HOW.out HG.out HAT.out; have HWA := Lib.hid hWA; clear hWA hown'; obtain ⟨k0', k1', k2', k3', k4', k5', kz0, kz1, kz2, kz3, kz4, kz5, ksz⟩ := c6_cells hcs))
                    refine ⟨?_, ?measure⟩
                    iterate 8 (apply Exists.intro)
                    (repeat apply Exists.intro)
                    refine ⟨?rel, rfl⟩
                    case rel => exact ⟨i + 1, a1, c1', some ⟨g', 0, none⟩, cap', by have := HXJ.out; omega, int_eq (by have := HXJ.out; omega), Lib.hid (by rw [hX.out, hY.out, List.length_append]; exact HWA.out)⟩
                    case measure => have := HXJ.out; simp [intOf]; omega
                  · -- regular, not a day
                    have hX : Hid ((rng f (i + 1)).filter (excX L f l e k) = (rng f i).filter (excX L f l e k) ++ [x]) := Lib.hid (by rw [filter_hit (by rw [← HXJ.out]; simp [excX, hr, hin]), ← HXJ.out])
                    have hY : Hid ((rng f (i + 1)).filter (excY L f l e k) = (rng f i).filter (excY L f l e k)) := Lib.hid (by exact filter_miss (by rw [← HXJ.out]; simp [excY, hr, hin]))
                    generalize (rng f i).filter (excX L f l e k) = X at *
                    generalize (rng f i).filter (excY L f l e k) = Y at *
                    go_wp2_with (first
                    | (go_at_call 50; refine (regular_any f l e k x _ _ _ _ _ _ _ f1 l2 e1 e2 k0 k1).mono ?_; rintro en w2 ⟨rfl, hb2⟩; rw [hr]; have HW2 := Lib.hid (HW.out.next hb2); have hrun := HW2.out.st.look (x := x) hwx; obtain ⟨c0, c1, c2, c3, c4, c5, z0, z1, z2, z3, z4, z5, sz⟩ := c6_cells HW2.out.bx.hs; rw [hin] at hrun)
                    | (at_builtin; refine wpList_append_own_at _ rfl _ _ 22 rfl (w.heap.size + 3) 3 i0 (.int .i64 0) 1 8 Tryz.underlying22 HI0.out HZ0.out HZ1.out HZ2.out rfl (by decide) _ _ _ rfl (HW2.out.bx.ra.alloc _) ⟨w2.heap.size, 0, none⟩ 1 1 [.int .i64 x] rfl rfl (cell_one_new _ _ _) (by simp [Value.oneCell']) (by unfold maxLen; omega) (by omega) (by have := HW2.out.sz; simp; omega) ?_; intro v' w4 hown' hgrow _ hat; have HOW := Lib.hid hown'; have HG := Lib.hid hgrow; have HAT := Lib.hid hat; clear hgrow hat; obtain ⟨g', cap', rfl⟩ := ownsRow_succ hown'; obtain ⟨hcs, hWA⟩ := HW2.out.appX HOW.out HG.out HAT.out; have HWA := Lib.hid hWA; clear hWA hown'; obtain ⟨k0', k1', k2', k3', k4', k5', kz0, kz1, kz2, kz3, kz4, kz5, ksz⟩ := c6_cells hcs))
                    refine ⟨?_, ?measure⟩
                    iterate 8 (apply Exists.intro)
                    (repeat apply Exists.intro)
                    refine ⟨?rel, rfl⟩
                    case rel => exact ⟨i + 1, some ⟨g', 0, none⟩, cap', b1, q1, by have := HXJ.out; omega, int_eq (by have := HXJ.out; omega), Lib.hid (by rw [hX.out, hY.out, List.length_append]; exact HWA.out)⟩
                    case measure => have := HXJ.out; simp [intOf]; omega
                  · -- regular, a day
                    have hX : Hid ((rng f (i + 1)).filter (excX L f l e k) = (rng f i).filter (excX L f l e k)) := Lib.hid (filter_miss (by rw [← HXJ.out]; simp [excX, hr, hin]))
                    have hY : Hid ((rng f (i + 1)).filter (excY L f l e k) = (rng f i).filter (excY L f l e k)) := Lib.hid (filter_miss (by rw [← HXJ.out]; simp [excY, hr, hin]))
                    generalize (rng f i).filter (excX L f l e k) = X at *
                    generalize (rng f i).filter (excY L f l e k) = Y at *
                    go_wp2_with (first
                    | (go_at_call 50; refine (regular_any f l e k x _ _ _ _ _ _ _ f1 l2 e1 e2 k0 k1).mono ?_; rintro en w2 ⟨rfl, hb2⟩; rw [hr]; have HW2 := Lib.hid (HW.out.next hb2); have hrun := HW2.out.st.look (x := x) hwx; obtain ⟨c0, c1, c2, c3, c4, c5, z0, z1, z2, z3, z4, z5, sz⟩ := c6_cells HW2.out.bx.hs; rw [hin] at hrun))
                    refine ⟨?_, ?measure⟩
                    iterate 8 (apply Exists.intro)
                    (repeat apply Exists.intro)
                    refine ⟨?rel, rfl⟩
                    case rel => exact ⟨i + 1, a1, c1', b1, q1, by have := HXJ.out; omega, int_eq (by have := HXJ.out; omega), Lib.hid (by rw [hX.out, hY.out]; exact HW2.out)⟩
                    case measure => have := HXJ.out; simp [intOf]; omega
                · have hjj : Hid (i = (l - f + 1).toNat) := Lib.hid (by omega)
                  generalize hXX : (rng f i).filter (excX L f l e k) = X at *
                  generalize hYY : (rng f i).filter (excY L f l e k) = Y at *
                  obtain ⟨r0, r1, r2, r3, r4, r5, rz0, rz1, rz2, rz3, rz4, rz5, rsz⟩ := c6_cells HW.out.hr
                  clear z0 z1 z2 z3 z4 z5
                  have hm141 : X.length ≤ 1000 ∧ Y.length ≤ 1000 := by omega
                  have HXX := Lib.hid hXX
                  have HYY := Lib.hid hYY
                  clear hXX hYY
                  go_wp2
                  obtain ⟨W9, hW9⟩ : ∃ W9, W9 = put6 wr w.heap.size f l e k (.slice a1 X.length c1') (.slice b1 Y.length q1) := ⟨_, rfl⟩
                  rw [show ((((((wr.setCell ⟨w.heap.size, 0, none⟩ (.int .i64 f)).setCell ⟨w.heap.size, 1, none⟩ (.int .i64 l)).setCell ⟨w.heap.size, 2, none⟩ (.int .i64 e)).setCell ⟨w.heap.size, 3, none⟩ (.int .i64 k)).setCell ⟨w.heap.size, 4, none⟩ (.slice a1 X.length c1')).setCell ⟨w.heap.size, 5, none⟩ (.slice b1 Y.length q1)) = W9 from hW9.symm]
                  have hr9 : W9.heap[w.heap.size]? = some (cells6 f l e k (.slice a1 X.length c1') (.slice b1 Y.length q1)) := by rw [hW9]; exact c6_all HW.out.hr _ _ _ _ _ _
                  have hg9 : wr.grownBy W9 (some w.heap.size) := by rw [hW9]; exact grownBy_put6 ..
                  have hne : ∀ {v : Value} {L : List Int}, Row wr (w.heap.size + 3) v L → Row W9 (w.heap.size + 3) v L := fun hr => hr.kept hg9 (by
                    rcases hv : Value.ownBlock _ with _ | g
                    · exact Or.inl rfl
                    · exact Or.inr (fun e => by cases e; have := (hr.lt _ hv).1; omega))
                  obtain ⟨p0, p1, p2, p3, p4, p5, _⟩ := c6_cells hr9
                  refine bodyPost_ret (v := serV f l e k a1 X.length c1' b1 Y.length q1) (by simp [results, Tryz.results47, go_sem, p0, p1, p2, p3, p4, p5]) rfl ?_
                  have fin : SerP f l e k X Y w (.returned (serV f l e k a1 X.length c1' b1 Y.length q1)) W9 :=
                    ⟨_, _, _, _, rfl, row_base (hne HW.out.bx.ra) (by omega), row_base (hne HW.out.bx.rb) (by omega), HW.out.bl.grown hg9 HW.out.bl.size (fun q hq => by cases hq; exact Nat.le_refl _)⟩
                  have e1 : wX L f l e (setS L f l e) = X := by rw [← HXX.out, ← HK.out, hjj.out]; rfl
                  have e2 : wY2 L f l e (setS L f l e) = Y := by rw [← HYY.out, ← HK.out, hjj.out]; rfl
                  rw [e1, e2, ← HK.out]
                  exact fin
end Go.Proofs.YtcifdllbnbhcdaaGreatDoor.Rc
