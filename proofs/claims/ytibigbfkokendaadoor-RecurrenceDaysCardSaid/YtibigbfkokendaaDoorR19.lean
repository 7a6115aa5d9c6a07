/- Series: Of of the reference. -/
import Derived.Test.YtibigbfkokendaaDoorR18
namespace Go.Proofs.YtibigbfkokendaaDoor
open Go.RowKit Go.Maps TT

/-- a series in block B, its lists elsewhere -/
def SBx (w : World) (B base : Nat) (f l e k : Int) (X Y : List Int) : Prop :=
  ∃ a c b q, w.heap[B]? = some (cells6 f l e k (.slice a X.length c) (.slice b Y.length q)) ∧ (Row w base (.slice a X.length c) X ∧ (Value.slice a X.length c).ownBlock ≠ some B) ∧ (Row w base (.slice b Y.length q) Y ∧ (Value.slice b Y.length q).ownBlock ≠ some B)
theorem SBx.below {w w2 : World} {B base : Nat} {f l e k : Int} {X Y : List Int} (h : SBx w B base f l e k X Y) (hb : Below w.heap.size w w2) : SBx w2 B base f l e k X Y := by
  obtain ⟨a, c, b, q, h2, h3, h4⟩ := h
  exact ⟨a, c, b, q, (hb.block _ (lt_of_heap h2)).trans h2, ⟨row_below h3.1 hb, h3.2⟩, ⟨row_below h4.1 hb, h4.2⟩⟩
theorem SBx.lt {w : World} {B base : Nat} {f l e k : Int} {X Y : List Int} (h : SBx w B base f l e k X Y) : B < w.heap.size := by obtain ⟨a, c, b, q, h1, _⟩ := h; exact lt_of_heap h1
/-- a series stored into block B -/
theorem SBx.put {w : World} {B base : Nat} {f0 l0 e0 k0 : Int} {va vb : Value} (h : w.heap[B]? = some (cells6 f0 l0 e0 k0 va vb)) {f l e k : Int} {X Y : List Int} {a b : Option Addr} {c q : Nat}
    (h1 : Row w base (.slice a X.length c) X ∧ (Value.slice a X.length c).ownBlock ≠ some B) (h2 : Row w base (.slice b Y.length q) Y ∧ (Value.slice b Y.length q).ownBlock ≠ some B) :
    SBx (put6 w B f l e k (.slice a X.length c) (.slice b Y.length q)) B base f l e k X Y := by
  have hg := grownBy_put6 w B f l e k (.slice a X.length c) (.slice b Y.length q)
  exact ⟨a, c, b, q, c6_all h _ _ _ _ _ _, ⟨h1.1.kept hg (Or.inr h1.2), h1.2⟩, ⟨h2.1.kept hg (Or.inr h2.2), h2.2⟩⟩
/-- a series laid into a new block -/
theorem SBx.new {w : World} {base : Nat} {f l e k : Int} {X Y : List Int} {a b : Option Addr} {c q : Nat} (h1 : Row w base (.slice a X.length c) X) (h2 : Row w base (.slice b Y.length q) Y) :
    SBx (w.alloc (.cells #[.int .i64 f, .int .i64 l, .int .i64 e, .int .i64 k, .slice a X.length c, .slice b Y.length q] 30)) w.heap.size base f l e k X Y := by
  have hbl : Below w.heap.size w (w.alloc (.cells #[.int .i64 f, .int .i64 l, .int .i64 e, .int .i64 k, .slice a X.length c, .slice b Y.length q] 30)) := (Below.refl _ _).alloc (Nat.le_refl _) _
  have key : ∀ {v : Value} {L : List Int}, Row w base v L → v.ownBlock ≠ some w.heap.size := fun hr e => by have := (hr.lt _ e).2; omega
  exact ⟨a, c, b, q, World.alloc_heap_new w _, ⟨row_below h1 hbl, key h1⟩, ⟨row_below h2 hbl, key h2⟩⟩
theorem row_ne {w : World} {base B : Nat} {v : Value} {L : List Int} (h : Row w base v L) (hB : B < base) : v.ownBlock ≠ some B := fun e => by have := (h.lt _ e).1; omega

/-- two series in their boxes -/
structure EX (W4 w : World) (B1 B2 : Nat) (f l e k : Int) (va vb : Value) (f' l' e' k' : Int) (va' vb' : Value) : Prop where
  bl : Below W4.heap.size W4 w
  h1 : w.heap[B1]? = some (cells6 f l e k va vb)
  h2 : w.heap[B2]? = some (cells6 f' l' e' k' va' vb')
section
variable {W4 w w2 : World} {B1 B2 : Nat} {f l e k : Int} {va vb : Value} {f' l' e' k' : Int} {va' vb' : Value}
theorem EX.next (hb : Below w.heap.size w w2) (h : EX W4 w B1 B2 f l e k va vb f' l' e' k' va' vb') : EX W4 w2 B1 B2 f l e k va vb f' l' e' k' va' vb' :=
  ⟨h.bl.trans (hb.mono h.bl.size), (hb.block _ (lt_of_heap h.h1)).trans h.h1, (hb.block _ (lt_of_heap h.h2)).trans h.h2⟩
theorem EX.drew (h : EX W4 w B1 B2 f l e k va vb f' l' e' k' va' vb') : EX W4 w.drew B1 B2 f l e k va vb f' l' e' k' va' vb' := h.next (bel_drew0 _)
theorem EX.all (h : EX W4 w B1 B2 f l e k va vb f' l' e' k' va' vb') : EX W4 w B1 B2 f l e k va vb f' l' e' k' va' vb' ∧
    w.cell? ⟨B1, 0, none⟩ = some (.int .i64 f) ∧ w.cell? ⟨B1, 1, none⟩ = some (.int .i64 l) ∧ w.cell? ⟨B1, 2, none⟩ = some (.int .i64 e) ∧ w.cell? ⟨B1, 3, none⟩ = some (.int .i64 k) ∧ w.cell? ⟨B1, 4, none⟩ = some va ∧ w.cell? ⟨B1, 5, none⟩ = some vb ∧
    w.cell? ⟨B2, 0, none⟩ = some (.int .i64 f') ∧ w.cell? ⟨B2, 1, none⟩ = some (.int .i64 l') ∧ w.cell? ⟨B2, 2, none⟩ = some (.int .i64 e') ∧ w.cell? ⟨B2, 3, none⟩ = some (.int .i64 k') ∧ w.cell? ⟨B2, 4, none⟩ = some va' ∧ w.cell? ⟨B2, 5, none⟩ = some vb' := by
  obtain ⟨a0, a1, a2, a3, a4, a5, _⟩ := c6_cells h.h1
  obtain ⟨b0, b1, b2, b3, b4, b5, _⟩ := c6_cells h.h2
  exact ⟨h, a0, a1, a2, a3, a4, a5, b0, b1, b2, b3, b4, b5⟩
end

set_option maxRecDepth 100000 in
set_option maxHeartbeats 1000000 in
theorem rof_empty (L : List Int) (hL : L.length = 0) (a : Option Addr) (c : Nat) (w : World) : Calls Tryd.prog 12 #[.slice a 0 c] w (OfP L w) := by
  have HO := Lib.hid (OW.mk0 (w := w) (a := a) (n := 0) (L := L) ⟨hL, by simp, Or.inl rfl⟩)
  have hf := Lib.hid (ofE_empty hL)
  clear hL
  obtain ⟨r0, r1, r2, r3, r4, r5, rz0, rz1, rz2, rz3, rz4, rz5, rsz⟩ := c6_cells HO.out.hr
  go_enter Tryd.func12, Tryd.ntmps12
  go_wp2
  obtain ⟨W9, hW9⟩ : ∃ W9, W9 = (w.alloc (.cells #[.int .i64 0, .int .i64 0, .int .i64 0, .int .i64 0, .slice none 0 0, .slice none 0 0] 30)) := ⟨_, rfl⟩
  rw [← hW9]
  have q1 := HO.out.hr
  have q3 := HO.out.bl
  rw [← hW9] at q1 q3
  obtain ⟨p0, p1, p2, p3, p4, p5, _⟩ := c6_cells q1
  refine bodyPost_ret (v := .tuple #[serV 0 0 0 0 none 0 0 none 0 0, .int .i64 16]) (by simp [results, Tryd.results12, go_sem, p0, p1, p2, p3, p4, p5]) rfl ?_
  exact ofP_no hf.out (by decide) q3

set_option maxRecDepth 100000 in
set_option maxHeartbeats 4000000 in
theorem rof_some (L : List Int) (ba oa n c : Nat) (w : World) (hn : L.length = n) (hn0 : 0 < n) (hb : ba < w.heap.size) (hc : ∀ i, i < n → w.cell? ⟨ba, oa + i, none⟩ = some (.int .i64 (L.getD i 0))) (hn2 : n ≤ 9223372036854775807) :
    Calls Tryd.prog 12 #[.slice (some ⟨ba, oa, none⟩) n c] w (OfP L w) := by
  have hIL : IntsAt w (some ⟨ba, oa, none⟩) n L := ⟨hn, hn2, Or.inr ⟨ba, oa, rfl, hc⟩⟩
  have HO := Lib.hid (OW.mk0 (w := w) hIL)
  have HC := Lib.hid hc
  have HN := Lib.hid hn
  have hne : L.length ≠ 0 := by omega
  have HNE := Lib.hid hne
  have hn00 : ((n : Int) == 0) = false := by simp; omega
  clear hIL hc hn hne
  go_enter Tryd.func12, Tryd.ntmps12
  go_wp2
  go_loopw [4] (fun i wr => ∃ j : Nat, j ≤ n ∧ i = .int .i64 j ∧ Hid (lstE none L = lstE (pvI L j) (L.drop j)) ∧ Hid (OW w wr (some ⟨ba, oa, none⟩) n L)) (fun i _ => n - (intOf i).toNat)
  case atStart => exact ⟨0, by omega, rfl, Lib.hid (by rw [lstE_start]), HO⟩
  case round =>
    clear HO
    obtain ⟨j, hj, rfl, hR, HOW⟩ := hrel
    obtain ⟨r0, r1, r2, r3, r4, r5, rz0, rz1, rz2, rz3, rz4, rz5, rsz⟩ := c6_cells HOW.out.hr
    have hcw : ∀ i, i < n → wr.cell? ⟨ba, oa + i, none⟩ = some (.int .i64 (L.getD i 0)) := fun i hi => (HOW.out.bl.cell (p := ⟨ba, oa + i, none⟩) hb).trans (HC.out i hi)
    by_cases hlt : j < n
    · have hstep := Lib.hid (lstE_step L j (by rw [HN.out]; exact hlt))
      have gj := hcw j hlt
      have HCW := Lib.hid hcw
      have y6 : (j : Int) < n := by omega
      have y7 : (0 : Int) ≤ j := by omega
      clear hcw
      cases hok : okDay (L.getD j 0)
      · have hfin := Lib.hid (ofE_lst (v := 13) HNE.out (by rw [hR.out, hstep.out, hok, cond_false]) (by decide))
        generalize L.getD j 0 = x at *
        clear y6 y7
        go_wp2_with (go_at_call 28; refine (ris_any _ _).mono ?_; rintro e w' ⟨rfl, rfl⟩; rw [hok])
        obtain ⟨W9, hW9⟩ : ∃ W9, W9 = put6 wr w.heap.size 0 0 0 0 (.slice none 0 0) (.slice none 0 0) := ⟨_, rfl⟩
        rw [show (((((((wr).setCell ⟨w.heap.size, 0, none⟩ (.int .i64 0)).setCell ⟨w.heap.size, 1, none⟩ (.int .i64 0)).setCell ⟨w.heap.size, 2, none⟩ (.int .i64 0)).setCell ⟨w.heap.size, 3, none⟩ (.int .i64 0)).setCell ⟨w.heap.size, 4, none⟩ (.slice none 0 0)).setCell ⟨w.heap.size, 5, none⟩ (.slice none 0 0)) = W9 from hW9.symm]
        obtain ⟨q1, q2, q3⟩ := HOW.out.put 0 0 0 0 (.slice none 0 0) (.slice none 0 0)
        rw [← hW9] at q1 q2 q3
        obtain ⟨p0, p1, p2, p3, p4, p5, _⟩ := c6_cells q1
        refine bodyPost_ret (v := .tuple #[serV 0 0 0 0 none 0 0 none 0 0, .int .i64 13]) (by simp [results, Tryd.results12, go_sem, p0, p1, p2, p3, p4, p5]) rfl ?_
        exact ofP_no hfin.out (by decide) q3
      · have hstep2 : Hid (lstE none L = if 0 < j ∧ L.getD j 0 ≤ L.getD (j - 1) 0 then 63 else lstE (pvI L (j + 1)) (L.drop (j + 1))) := Lib.hid (by rw [hR.out, hstep.out, hok, cond_true])
        by_cases t3 : 0 < j
        · have gk : wr.cell? ⟨ba, oa + (j - 1), none⟩ = some (.int .i64 (L.getD (j - 1) 0)) := HCW.out (j - 1) (by omega)
          have gk' : wr.cell? ⟨ba, oa + ((j : Int) - 1).toNat, none⟩ = some (.int .i64 (L.getD (j - 1) 0)) := by rw [show ((j : Int) - 1).toNat = j - 1 by omega]; exact HCW.out (j - 1) (by omega)
          have y1 : IntKind.i64.wrap ((j : Int) - 1) = (j : Int) - 1 := IntWalk.i64_in _ (by omega)
          have y3 : (0 : Int) ≤ (j : Int) - 1 := by omega
          have y4 : (j : Int) - 1 < n := by omega
          clear hstep
          generalize L.getD j 0 = x at *
          generalize L.getD (j - 1) 0 = x1 at *
          by_cases t4 : x ≤ x1
          · have hfin := Lib.hid (ofE_lst (v := 63) HNE.out (by rw [hstep2.out, if_pos ⟨t3, t4⟩]) (by decide))
            have d1 : decide (x ≤ x1) = true := by simpa using t4
            go_wp2_with (go_at_call 28; refine (ris_any _ _).mono ?_; rintro e w' ⟨rfl, rfl⟩; rw [hok])
            go_quiet (fail)
            have HOW2 := Lib.hid (HOW.out.next (below_drewN _ nq))
            clear y1 y3 y4 y6 y7 d1
            go_wp2
            obtain ⟨W9, hW9⟩ : ∃ W9, W9 = put6 (wr.drewN nq) w.heap.size 0 0 0 0 (.slice none 0 0) (.slice none 0 0) := ⟨_, rfl⟩
            rw [show ((((((((wr.drewN nq)).setCell ⟨w.heap.size, 0, none⟩ (.int .i64 0)).setCell ⟨w.heap.size, 1, none⟩ (.int .i64 0)).setCell ⟨w.heap.size, 2, none⟩ (.int .i64 0)).setCell ⟨w.heap.size, 3, none⟩ (.int .i64 0)).setCell ⟨w.heap.size, 4, none⟩ (.slice none 0 0)).setCell ⟨w.heap.size, 5, none⟩ (.slice none 0 0)) = W9 from hW9.symm]
            obtain ⟨q1, q2, q3⟩ := HOW2.out.put 0 0 0 0 (.slice none 0 0) (.slice none 0 0)
            rw [← hW9] at q1 q2 q3
            obtain ⟨p0, p1, p2, p3, p4, p5, _⟩ := c6_cells q1
            refine bodyPost_ret (v := .tuple #[serV 0 0 0 0 none 0 0 none 0 0, .int .i64 63]) (by simp [results, Tryd.results12, go_sem, p0, p1, p2, p3, p4, p5]) rfl ?_
            exact ofP_no hfin.out (by decide) q3
          · have hnx : Hid (lstE none L = lstE (pvI L (j + 1)) (L.drop (j + 1))) := Lib.hid (by rw [hstep2.out, if_neg (fun h => t4 h.2)])
            have d1 : decide (x ≤ x1) = false := by simpa using t4
            go_wp2_with (go_at_call 28; refine (ris_any _ _).mono ?_; rintro e w' ⟨rfl, rfl⟩; rw [hok])
            go_quiet (fail)
            have HOW2 := Lib.hid (HOW.out.next (below_drewN _ nq))
            clear y1 y3 y4 y6 y7 d1
            go_wp2
            refine ⟨?_, ?measure⟩
            first
              | ((repeat apply Exists.intro); refine ⟨?rel, rfl⟩)
              | ((iterate 10 (apply Exists.intro)); (repeat apply Exists.intro); refine ⟨?rel, rfl⟩)
              | ((iterate 25 (apply Exists.intro)); (repeat apply Exists.intro); refine ⟨?rel, rfl⟩)
              | ((iterate 40 (apply Exists.intro)); (repeat apply Exists.intro); refine ⟨?rel, rfl⟩)
              | refine ?rel
            case rel => exact ⟨j + 1, by omega, by go_num, hnx, HOW2⟩
            case measure => simp [intOf]; omega
        · clear hstep
          have hnx : Hid (lstE none L = lstE (pvI L (j + 1)) (L.drop (j + 1))) := Lib.hid (by rw [hstep2.out, if_neg (fun h => t3 h.1)])
          have d0 : decide (0 < j) = false := by simp; omega
          generalize L.getD j 0 = x at *
          go_wp2_with (go_at_call 28; refine (ris_any _ _).mono ?_; rintro e w' ⟨rfl, rfl⟩; rw [hok])
          go_quiet (fail)
          have HOW2 := Lib.hid (HOW.out.next (below_drewN _ nq))
          clear d0 y6 y7
          go_wp2
          refine ⟨?_, ?measure⟩
          first
            | ((repeat apply Exists.intro); refine ⟨?rel, rfl⟩)
            | ((iterate 10 (apply Exists.intro)); (repeat apply Exists.intro); refine ⟨?rel, rfl⟩)
            | ((iterate 25 (apply Exists.intro)); (repeat apply Exists.intro); refine ⟨?rel, rfl⟩)
            | ((iterate 40 (apply Exists.intro)); (repeat apply Exists.intro); refine ⟨?rel, rfl⟩)
            | refine ?rel
          case rel => exact ⟨j + 1, by omega, by go_num, hnx, HOW2⟩
          case measure => simp [intOf]; omega
    · obtain rfl : j = n := by omega
      have hl0 : lstE none L = 0 := by rw [hR.out]; have := HN.out; subst this; exact lstE_end _
      obtain ⟨hinc, hokA, _⟩ := lstE_inv L none hl0
      have hmem := mem_fst HNE.out
      obtain ⟨f1, f2⟩ := okDay_of (hokA _ hmem.1)
      obtain ⟨l1, l2⟩ := okDay_of (hokA _ hmem.2)
      have hfl := (inc_bounds hinc hmem.2).1
      have hld := len_days hinc HNE.out
      have HL0 := Lib.hid hl0
      have HOKA := Lib.hid hokA
      have g0 : wr.cell? ⟨ba, oa, none⟩ = some (.int .i64 (fstD L)) := hcw 0 hn0
      have gl : wr.cell? ⟨ba, oa + (j - 1), none⟩ = some (.int .i64 (lstD L)) := by have := hcw (j - 1) (by omega); rw [this]; unfold lstD; rw [HN.out]
      have gl' : wr.cell? ⟨ba, oa + ((j : Int) - 1).toNat, none⟩ = some (.int .i64 (lstD L)) := by rw [show ((j : Int) - 1).toNat = j - 1 by omega]; exact gl
      have y1 : IntKind.i64.wrap ((j : Int) - 1) = (j : Int) - 1 := IntWalk.i64_in _ (by omega)
      have y3 : (0 : Int) ≤ (j : Int) - 1 := by omega
      have y4 : (j : Int) - 1 < j := by omega
      have y5 : (0 : Int) < j := by omega
      rw [HN.out] at hld
      clear hcw hl0 hokA hmem hinc hR
      obtain ⟨f, hf⟩ : ∃ f, f = fstD L := ⟨_, rfl⟩
      obtain ⟨l, hl⟩ : ∃ l, l = lstD L := ⟨_, rfl⟩
      have HF := Lib.hid hf
      have HL := Lib.hid hl
      rw [← hf] at f1 f2 hfl hld g0
      rw [← hl] at l1 l2 hfl hld gl gl'
      clear hf hl
      obtain ⟨wo, rfl⟩ : ∃ wo : World, wo = wr := ⟨_, rfl⟩
      have y6 : IntKind.i64.wrap (f + 140) = f + 140 := IntWalk.i64_in _ (by omega)
      by_cases hrg : f + 140 < l
      · have hfin := Lib.hid (ofE_rng HNE.out HL0.out (by rw [← HF.out, ← HL.out]; exact hrg))
        go_wp2_with fail
        go_quiet (fail)
        have HOW2 := Lib.hid (HOW.out.next (below_drewN _ nq))
        clear y1 y3 y4 y5 y6 HOW
        go_wp2
        obtain ⟨W9, hW9⟩ : ∃ W9, W9 = put6 (wo.drewN nq) w.heap.size 0 0 0 0 (.slice none 0 0) (.slice none 0 0) := ⟨_, rfl⟩
        rw [show ((((((((wo.drewN nq)).setCell ⟨w.heap.size, 0, none⟩ (.int .i64 0)).setCell ⟨w.heap.size, 1, none⟩ (.int .i64 0)).setCell ⟨w.heap.size, 2, none⟩ (.int .i64 0)).setCell ⟨w.heap.size, 3, none⟩ (.int .i64 0)).setCell ⟨w.heap.size, 4, none⟩ (.slice none 0 0)).setCell ⟨w.heap.size, 5, none⟩ (.slice none 0 0)) = W9 from hW9.symm]
        obtain ⟨q1, q2, q3⟩ := HOW2.out.put 0 0 0 0 (.slice none 0 0) (.slice none 0 0)
        rw [← hW9] at q1 q2 q3
        obtain ⟨p0, p1, p2, p3, p4, p5, _⟩ := c6_cells q1
        refine bodyPost_ret (v := .tuple #[serV 0 0 0 0 none 0 0 none 0 0, .int .i64 3]) (by simp [results, Tryd.results12, go_sem, p0, p1, p2, p3, p4, p5]) rfl ?_
        exact ofP_no hfin.out (by decide) q3
      · have hE0 := Lib.hid (ofE_ok HNE.out HL0.out (by rw [← HF.out, ← HL.out]; exact hrg))
        go_wp2_with fail
        go_quiet (fail)
        have HOW2 := Lib.hid (HOW.out.next (below_drewN _ nq))
        clear y1 y3 y4 y5 y6 HOW g0 gl gl' r0 r1 r2 r3 r4 r5 rz0 rz1 rz2 rz3 rz4 rz5 rsz
        generalize wo.drewN nq = wq at *
        have HLF : Hid (lstD L ≤ fstD L + 140) := Lib.hid (by rw [← HF.out, ← HL.out]; omega)
        have HFL : Hid (fstD L ≤ lstD L) := Lib.hid (by rw [← HF.out, ← HL.out]; omega)
        have hwq := HOW2.out.bl.size
        have hwq2 : w.heap.size < wq.heap.size := lt_of_heap HOW2.out.hr
        have hcw : ∀ i, i < j → wq.cell? ⟨ba, oa + i, none⟩ = some (.int .i64 (L.getD i 0)) := fun i hi => (HOW2.out.bl.cell (p := ⟨ba, oa + i, none⟩) hb).trans (HC.out i hi)
        obtain ⟨sk0, sk1⟩ := setS_bd L (fstD L) (lstD L) 1
        go_wp2_with fail
        refine (rweekdays_any 1 L ba oa j c _ HN.out hn0 (by omega) hcw (by omega) (by omega) (by omega) HOKA.out HFL.out HLF.out).mono ?_
        rintro en w2 ⟨rfl, hb2⟩
        have HOW3 := Lib.hid (HOW2.out.next hb2)
        have hsz2 := hb2.size
        have hcw2 : ∀ i, i < j → w2.cell? ⟨ba, oa + i, none⟩ = some (.int .i64 (L.getD i 0)) := fun i hi => (HOW3.out.bl.cell (p := ⟨ba, oa + i, none⟩) hb).trans (HC.out i hi)
        clear hcw hb2
        go_wp2_with fail
        refine (rwith_any 1 _ L ba oa j c _ HN.out hn0 (by omega) hcw2 (by omega) (by omega) (by omega) sk0 sk1 HOKA.out HFL.out HLF.out).mono ?_
        rintro en w3 ⟨a1, c1, b1, q1, rfl, hr1, hr2, hb3⟩
        have HOW4 := Lib.hid (HOW3.out.next hb3)
        have HR1 := Lib.hid hr1
        have HR2 := Lib.hid hr2
        have hsz3 := hb3.size
        clear hcw2 hr1 hr2 hb3
        obtain ⟨hXl, hYl⟩ := wlen L (fstD L) (lstD L) 1 (setS L (fstD L) (lstD L) 1) HLF.out
        have HB0 : Hid (SBx (w3.alloc (.cells #[.int .i64 (fstD L), .int .i64 (lstD L), .int .i64 1, .int .i64 (setS L (fstD L) (lstD L) 1), .slice a1 (wX L (fstD L) (lstD L) 1 (setS L (fstD L) (lstD L) 1)).length c1, .slice b1 (wY2 L (fstD L) (lstD L) 1 (setS L (fstD L) (lstD L) 1)).length q1] 30)) w3.heap.size (w.heap.size + 1) (fstD L) (lstD L) (bstE L 0) (bK L 0) (bX L 0) (bY L 0)) := Lib.hid (SBx.new (row_base HR1.out (by omega)) (row_base HR2.out (by omega)))
        have HOW5 : Hid (OW w (w3.alloc (.cells #[.int .i64 (fstD L), .int .i64 (lstD L), .int .i64 1, .int .i64 (setS L (fstD L) (lstD L) 1), .slice a1 (wX L (fstD L) (lstD L) 1 (setS L (fstD L) (lstD L) 1)).length c1, .slice b1 (wY2 L (fstD L) (lstD L) 1 (setS L (fstD L) (lstD L) 1)).length q1] 30)) (some ⟨ba, oa, none⟩) j L) := Lib.hid (HOW4.out.next ((Below.refl _ _).alloc (Nat.le_refl _) _))
        go_wp2
        go_loopw [6] (fun v wr => ∃ ev : Int, 2 ≤ ev ∧ ev ≤ 5 ∧ v = .int .i64 ev ∧ Hid (OW w wr (some ⟨ba, oa, none⟩) j L) ∧
          Hid (SBx wr w3.heap.size (w.heap.size + 1) (fstD L) (lstD L) (bstE L (ev - 2).toNat) (bK L (ev - 2).toNat) (bX L (ev - 2).toNat) (bY L (ev - 2).toNat))) (fun v _ => (5 - intOf v).toNat)
        case atStart => exact ⟨2, by omega, by omega, rfl, HOW5, HB0⟩
        case round =>
          clear HOW5 HB0 HR1 HR2 hXl hYl sk0 sk1
          obtain ⟨ev, ev1, ev2, rfl, HOW, HB⟩ := hrel
          have hw3 : w.heap.size < w3.heap.size := by omega
          by_cases hlt : ev ≤ 4
          · have hcw : ∀ i, i < j → wr.cell? ⟨ba, oa + i, none⟩ = some (.int .i64 (L.getD i 0)) := fun i hi => (HOW.out.bl.cell (p := ⟨ba, oa + i, none⟩) hb).trans (HC.out i hi)
            have hbw : ba < wr.heap.size := Nat.lt_of_lt_of_le hb HOW.out.bl.size
            obtain ⟨kS, hkS⟩ : ∃ k, k = setS L (fstD L) (lstD L) ev := ⟨_, rfl⟩
            have HKS := Lib.hid hkS
            obtain ⟨sk0, sk1⟩ := setS_bd L (fstD L) (lstD L) ev
            rw [← hkS] at sk0 sk1
            have hXl := wlen L (fstD L) (lstD L) ev kS HLF.out
            have hcostE : costS L ev = (wX L (fstD L) (lstD L) ev kS).length + (wY2 L (fstD L) (lstD L) ev kS).length := by rw [hkS]; rfl
            have HCE := Lib.hid hcostE
            clear hcostE hkS
            go_wp2_with fail
            refine (rweekdays_any ev L ba oa j c _ HN.out hn0 hbw hcw (by omega) (by omega) hlt HOKA.out HFL.out HLF.out).mono ?_
            rintro en w4 ⟨rfl, hb4⟩
            rw [← HKS.out]
            have HOW6 := Lib.hid (HOW.out.next hb4)
            have HB4 := Lib.hid (HB.out.below hb4)
            have hsz4 := hb4.size
            have hcw4 : ∀ i, i < j → w4.cell? ⟨ba, oa + i, none⟩ = some (.int .i64 (L.getD i 0)) := fun i hi => (HOW6.out.bl.cell (p := ⟨ba, oa + i, none⟩) hb).trans (HC.out i hi)
            clear hcw hb4
            go_wp2_with fail
            refine (rwith_any ev kS L ba oa j c _ HN.out hn0 (by omega) hcw4 (by omega) (by omega) hlt sk0 sk1 HOKA.out HFL.out HLF.out).mono ?_
            rintro en w5 ⟨a1, c1, b1, q1, rfl, hr1, hr2, hb5⟩
            have HOW7 := Lib.hid (HOW6.out.next hb5)
            have HB5 := Lib.hid (HB4.out.below hb5)
            have HR1 := Lib.hid hr1
            have HR2 := Lib.hid hr2
            have hsz5 := hb5.size
            have hq3 := HB4.out.lt
            clear hcw4 hr1 hr2 hb5 sk0 sk1 hbw
            generalize hXX : wX L (fstD L) (lstD L) ev kS = X at *
            generalize hYY : wY2 L (fstD L) (lstD L) ev kS = Y at *
            have HXX := Lib.hid hXX
            have HYY := Lib.hid hYY
            clear hXX hYY
            obtain ⟨m, hm⟩ : ∃ m : Nat, ev = (m : Int) + 2 := ⟨(ev - 2).toNat, by omega⟩
            have hm2 : (ev - 2).toNat = m := by omega
            have hm3 : (ev + 1 - 2).toNat = m + 1 := by omega
            have HM := Lib.hid hm
            have HM3 := Lib.hid hm3
            have hXb := wlen L (fstD L) (lstD L) (bstE L m) (bK L m) HLF.out
            have hXb' : (bX L m).length ≤ 141 ∧ (bY L m).length ≤ 141 := hXb
            obtain ⟨hXb1, hXb2⟩ := hXb'
            have hbc := Lib.hid (bst_cost L m)
            obtain ⟨a4, c4, b4, q4, hz, ha4, hb4⟩ := HB5.out
            rw [hm2] at hz ha4 hb4
            obtain ⟨hX1, hX2⟩ := hXl
            clear hm hm2 hm3 hXb
            have HZ := Lib.hid hz
            have HA4 := Lib.hid ha4
            have HB44 := Lib.hid hb4
            clear hz ha4 hb4
            go_wp2_with fail
            obtain ⟨W4, hW4⟩ : ∃ W4, W4 = w5.alloc (.cells #[.int .i64 (fstD L), .int .i64 (lstD L), .int .i64 ev, .int .i64 kS, .slice a1 X.length c1, .slice b1 Y.length q1] 30) := ⟨_, rfl⟩
            rw [← hW4]
            have hbl4 : Below w5.heap.size w5 W4 := by rw [hW4]; exact (Below.refl _ _).alloc (Nat.le_refl _) _
            have HEX := (EX.all (W4 := W4) (w := W4) (B1 := w5.heap.size) (B2 := w3.heap.size) (f := fstD L) (l := lstD L) (e := ev) (k := kS) (va := .slice a1 X.length c1) (vb := .slice b1 Y.length q1) (f' := fstD L) (l' := lstD L) (e' := bstE L m) (k' := bK L m) (va' := .slice a4 (bX L m).length c4) (vb' := .slice b4 (bY L m).length q4)
              ⟨Below.refl _ _, by rw [hW4]; exact World.alloc_heap_new w5 _, (hbl4.block _ (lt_of_heap HZ.out)).trans HZ.out⟩)
            have HOW8 := Lib.hid (HOW7.out.next hbl4)
            have HBL4 := Lib.hid hbl4
            clear hW4 hbl4
            go_region_held3 (fun w' => EX W4 w' w5.heap.size w3.heap.size (fstD L) (lstD L) ev kS (.slice a1 X.length c1) (.slice b1 Y.length q1) (fstD L) (lstD L) (bstE L m) (bK L m) (.slice a4 (bX L m).length c4) (.slice b4 (bY L m).length q4) ∧
                w'.cell? ⟨w5.heap.size, 0, none⟩ = some (.int .i64 (fstD L)) ∧ w'.cell? ⟨w5.heap.size, 1, none⟩ = some (.int .i64 (lstD L)) ∧ w'.cell? ⟨w5.heap.size, 2, none⟩ = some (.int .i64 ev) ∧ w'.cell? ⟨w5.heap.size, 3, none⟩ = some (.int .i64 kS) ∧ w'.cell? ⟨w5.heap.size, 4, none⟩ = some (.slice a1 X.length c1) ∧ w'.cell? ⟨w5.heap.size, 5, none⟩ = some (.slice b1 Y.length q1) ∧
                w'.cell? ⟨w3.heap.size, 0, none⟩ = some (.int .i64 (fstD L)) ∧ w'.cell? ⟨w3.heap.size, 1, none⟩ = some (.int .i64 (lstD L)) ∧ w'.cell? ⟨w3.heap.size, 2, none⟩ = some (.int .i64 (bstE L m)) ∧ w'.cell? ⟨w3.heap.size, 3, none⟩ = some (.int .i64 (bK L m)) ∧ w'.cell? ⟨w3.heap.size, 4, none⟩ = some (.slice a4 (bX L m).length c4) ∧ w'.cell? ⟨w3.heap.size, 5, none⟩ = some (.slice b4 (bY L m).length q4))
              (first | (with_reducible assumption) | (with_reducible exact (EX.next (by with_reducible assumption) (And.left (by with_reducible assumption))).all) | (with_reducible exact (EX.drew (And.left (by with_reducible assumption))).all))
              ((go_at_call 31; refine (exceptions_any _ _ _ _ _ _ _ _ _ _ _ (by omega)).mono ?_; rintro en w6 ⟨rfl, hb6⟩))
            have hEX : EX W4 w6 w5.heap.size w3.heap.size (fstD L) (lstD L) ev kS (.slice a1 X.length c1) (.slice b1 Y.length q1) (fstD L) (lstD L) (bstE L m) (bK L m) (.slice a4 (bX L m).length c4) (.slice b4 (bY L m).length q4) := And.left (by with_reducible assumption)
            have hW6 : Below w5.heap.size w5 w6 := HBL4.out.trans (hEX.bl.mono HBL4.out.size)
            have HW6 := Lib.hid hW6
            have HOW9 := Lib.hid (HOW8.out.next hEX.bl)
            obtain ⟨s0, s1, s2, s3, s4, s5, _⟩ := c6_cells hEX.h1
            obtain ⟨z0, z1, z2, z3, z4, z5, v0, v1, v2, v3, v4, v5, vsz⟩ := c6_cells hEX.h2
            have HZ6 := Lib.hid hEX.h2
            clear hEX hW6 HEX
            have hlt3 : w3.heap.size < w5.heap.size := by omega
            by_cases hcost : X.length + Y.length < (bX L m).length + (bY L m).length
            · have hbst := Lib.hid (bst_hit HM.out (by rw [HCE.out, hbc.out]; exact hcost))
              have hci : (X.length : Int) + Y.length < ((bX L m).length : Int) + (bY L m).length := by omega
              have hput : Hid (SBx (put6 w6 w3.heap.size (fstD L) (lstD L) ev kS (.slice a1 X.length c1) (.slice b1 Y.length q1)) w3.heap.size (w.heap.size + 1) (fstD L) (lstD L) ev kS X Y) := Lib.hid (SBx.put HZ6.out
                ⟨row_base (row_below HR1.out HW6.out) (by omega), row_ne HR1.out (by omega)⟩ ⟨row_base (row_below HR2.out HW6.out) (by omega), row_ne HR2.out (by omega)⟩)
              have hg := grownBy_put6 w6 w3.heap.size (fstD L) (lstD L) ev kS (.slice a1 X.length c1) (.slice b1 Y.length q1)
              have HOW10 : Hid (OW w (put6 w6 w3.heap.size (fstD L) (lstD L) ev kS (.slice a1 X.length c1) (.slice b1 Y.length q1)) (some ⟨ba, oa, none⟩) j L) := Lib.hid (HOW9.out.grown (fun b off h => by cases h; exact hb) hg hw3)
              clear hg
              go_wp2
              refine ⟨?_, ?measure⟩
              first
                | ((repeat apply Exists.intro); refine ⟨?rel, rfl⟩)
                | ((iterate 10 (apply Exists.intro)); (repeat apply Exists.intro); refine ⟨?rel, rfl⟩)
                | ((iterate 25 (apply Exists.intro)); (repeat apply Exists.intro); refine ⟨?rel, rfl⟩)
                | ((iterate 40 (apply Exists.intro)); (repeat apply Exists.intro); refine ⟨?rel, rfl⟩)
                | refine ?rel
              case rel =>
                refine ⟨ev + 1, by omega, by omega, rfl, HOW10, Lib.hid ?_⟩
                have h := hput.out
                have hk : kS = bK L (m + 1) := by rw [HKS.out]; unfold bK; rw [show bstE L (m + 1) = ev from hbst.out]
                have hX : X = bX L (m + 1) := by rw [← HXX.out, hk]; unfold bX; rw [show bstE L (m + 1) = ev from hbst.out]
                have hY : Y = bY L (m + 1) := by rw [← HYY.out, hk]; unfold bY; rw [show bstE L (m + 1) = ev from hbst.out]
                rw [HM3.out, ← hk, ← hX, ← hY, show bstE L (m + 1) = ev from hbst.out]
                exact h
              case measure => simp [intOf]; omega
            · have hbst := Lib.hid (bst_miss HM.out (by rw [HCE.out, hbc.out]; exact hcost))
              have hci : ¬ (X.length : Int) + Y.length < ((bX L m).length : Int) + (bY L m).length := by omega
              have hold : Hid (SBx w6 w3.heap.size (w.heap.size + 1) (fstD L) (lstD L) (bstE L m) (bK L m) (bX L m) (bY L m)) := Lib.hid ⟨a4, c4, b4, q4, HZ6.out, ⟨row_below HA4.out.1 HW6.out, HA4.out.2⟩, ⟨row_below HB44.out.1 HW6.out, HB44.out.2⟩⟩
              go_wp2
              refine ⟨?_, ?measure⟩
              first
                | ((repeat apply Exists.intro); refine ⟨?rel, rfl⟩)
                | ((iterate 10 (apply Exists.intro)); (repeat apply Exists.intro); refine ⟨?rel, rfl⟩)
                | ((iterate 25 (apply Exists.intro)); (repeat apply Exists.intro); refine ⟨?rel, rfl⟩)
                | ((iterate 40 (apply Exists.intro)); (repeat apply Exists.intro); refine ⟨?rel, rfl⟩)
                | refine ?rel
              case rel =>
                refine ⟨ev + 1, by omega, by omega, rfl, HOW9, Lib.hid ?_⟩
                rw [HM3.out, hbst.out, show bK L (m + 1) = bK L m from by unfold bK; rw [hbst.out], show bX L (m + 1) = bX L m from by unfold bX bK; rw [hbst.out], show bY L (m + 1) = bY L m from by unfold bY bK; rw [hbst.out]]
                exact hold.out
              case measure => simp [intOf]; omega
          · obtain rfl : ev = 5 := by omega
            have HSB : Hid (SBx wr w3.heap.size (w.heap.size + 1) (fstD L) (lstD L) (bstE L 3) (bK L 3) (bX L 3) (bY L 3)) := HB
            obtain ⟨a4, c4, b4, q4, hz, ha4, hb4⟩ := HSB.out
            obtain ⟨z0, z1, z2, z3, z4, z5, v0, v1, v2, v3, v4, v5, vsz⟩ := c6_cells hz
            obtain ⟨r0, r1, r2, r3, r4, r5, rz0, rz1, rz2, rz3, rz4, rz5, rsz⟩ := c6_cells HOW.out.hr
            have HA4 := Lib.hid ha4
            have HB4 := Lib.hid hb4
            obtain ⟨hX3, hY3⟩ := wlen L (fstD L) (lstD L) (bstE L 3) (bK L 3) HLF.out
            change (bX L 3).length ≤ 141 at hX3
            change (bY L 3).length ≤ 141 at hY3
            clear hz ha4 hb4 ev1 ev2 hlt
            go_wp2
            obtain ⟨q1, q2, q3⟩ := HOW.out.put (fstD L) (lstD L) (bstE L 3) (bK L 3) (.slice a4 (bX L 3).length c4) (.slice b4 (bY L 3).length q4)
            obtain ⟨p0, p1, p2, p3, p4, p5, _⟩ := c6_cells q1
            have key : ∀ {v : Value} {M : List Int}, Row wr (w.heap.size + 1) v M → Row (put6 wr w.heap.size (fstD L) (lstD L) (bstE L 3) (bK L 3) (.slice a4 (bX L 3).length c4) (.slice b4 (bY L 3).length q4)) (w.heap.size + 1) v M := fun hr => hr.kept q2 (Or.inr (row_ne hr (by omega)))
            refine bodyPost_ret (v := .tuple #[serV (fstD L) (lstD L) (bstE L 3) (bK L 3) a4 (bX L 3).length c4 b4 (bY L 3).length q4, .int .i64 0]) (by simp [results, Tryd.results12, go_sem, p0, p1, p2, p3, p4, p5]) rfl ?_
            exact ofP_yes hE0.out (key HA4.out.1) (key HB4.out.1) q3

theorem rof_any (L : List Int) (a : Option Addr) (n c : Nat) (w : World) (hI : IntsAt w a n L) : Calls Tryd.prog 12 #[.slice a n c] w (OfP L w) := by
  by_cases h0 : n = 0
  · subst h0
    exact rof_empty L hI.len a c w
  · obtain ⟨b, off, rfl, hb, hc⟩ := hI.cell (j := 0) (by omega)
    exact rof_some L b off n c w hI.len (by omega) hb hc hI.le

end Go.Proofs.YtibigbfkokendaaDoor
