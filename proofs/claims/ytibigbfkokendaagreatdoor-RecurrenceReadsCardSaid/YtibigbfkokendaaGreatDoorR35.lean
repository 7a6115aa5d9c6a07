/- Series: a rule, read by the program. -/
import Derived.Test.YtibigbfkokendaaGreatDoorR34
import Derived.Test.YtibigbfkokendaaGreatDoorR5
import Derived.Test.YtibigbfkokendaaGreatDoorRB
import Derived.Deep.DeepCutAuto
namespace Go.Proofs.YtibigbfkokendaaGreatDoor
open Go.RowKit Go.Maps TT

/-- the cell of the result and the box of the series that Parse makes -/
structure PZ (w wr : World) (f l e k : Int) : Prop where
  hr : wr.heap[w.heap.size]? = some (cells6 0 0 0 0 (.slice none 0 0) (.slice none 0 0))
  hs : wr.heap[w.heap.size + 1]? = some (cells6 f l e k (.slice none 0 0) (.slice none 0 0))
  bl : Below w.heap.size w wr
section
variable {w wr w2 : World} {f l e k : Int}
theorem PZ.next (h : PZ w wr f l e k) (hb : Below wr.heap.size wr w2) : PZ w w2 f l e k :=
  ⟨(hb.block _ (lt_of_heap h.hr)).trans h.hr, (hb.block _ (lt_of_heap h.hs)).trans h.hs, h.bl.trans (hb.mono h.bl.size)⟩
theorem PZ.set (h : PZ w wr f l e k) {i : Nat} {v : Value} {f' l' e' k' : Int} (hn : (wr.setCell ⟨w.heap.size + 1, i, none⟩ v).heap[w.heap.size + 1]? = some (cells6 f' l' e' k' (.slice none 0 0) (.slice none 0 0))) : PZ w (wr.setCell ⟨w.heap.size + 1, i, none⟩ v) f' l' e' k' := by
  have lo : ∀ q, q ≠ w.heap.size + 1 → (wr.setCell ⟨w.heap.size + 1, i, none⟩ v).heap[q]? = wr.heap[q]? := fun q hq => heap_setCell_other _ _ _ _ hq
  exact ⟨(lo _ (by omega)).trans h.hr, hn, ⟨h.bl.os, h.bl.tape, h.bl.output, by have := h.bl.size; simp; omega, fun q hq => (lo q (by omega)).trans (h.bl.block q hq)⟩⟩
theorem PZ.mk0 : PZ w ((w.alloc (.cells #[.int .i64 0, .int .i64 0, .int .i64 0, .int .i64 0, .slice none 0 0, .slice none 0 0] 24)).alloc (.cells #[.int .i64 f, .int .i64 0, .int .i64 0, .int .i64 0, .slice none 0 0, .slice none 0 0] 24)) f 0 0 0 := by
  refine ⟨(Below.heap_alloc _ _ _ (by simp)).trans (World.alloc_heap_new w _), ?_, ((Below.refl _ _).alloc (Nat.le_refl _) _).alloc (by simp) _⟩
  have := World.alloc_heap_new (w.alloc (.cells #[.int .i64 0, .int .i64 0, .int .i64 0, .int .i64 0, .slice none 0 0, .slice none 0 0] 24)) (.cells #[.int .i64 f, .int .i64 0, .int .i64 0, .int .i64 0, .slice none 0 0, .slice none 0 0] 24)
  rw [World.size_alloc] at this; exact this
theorem res_fin (hr : wr.heap[w.heap.size]? = some (cells6 0 0 0 0 (.slice none 0 0) (.slice none 0 0))) (bl : Below w.heap.size w wr) (f l e k : Int) :
    ∃ W9, W9 = put6 wr w.heap.size f l e k (.slice none 0 0) (.slice none 0 0) ∧ W9.heap[w.heap.size]? = some (cells6 f l e k (.slice none 0 0) (.slice none 0 0)) ∧ Below w.heap.size w W9 :=
  ⟨_, rfl, c6_all hr _ _ _ _ _ _, bl.grown (grownBy_put6 wr w.heap.size f l e k (.slice none 0 0) (.slice none 0 0)) bl.size (fun g e => by cases e; exact Nat.le_refl _)⟩
end
/-- what Parse hands back -/
def ParP (f : Int) (L : L8) (w : World) (en : Ending) (w' : World) : Prop :=
  en = .returned (.tuple #[serV (parP f L).1 (parP f L).2.1 (parP f L).2.2.1 (parP f L).2.2.2.1 none 0 0 none 0 0, .int .i64 (parP f L).2.2.2.2]) ∧ Below w.heap.size w w'
theorem parP_of {f : Int} {L : L8} {a b c d x : Int} {w w' : World} (h : parP f L = (a, b, c, d, x)) (hb : Below w.heap.size w w') : ParP f L w (.returned (.tuple #[serV a b c d none 0 0 none 0 0, .int .i64 x])) w' := by
  unfold ParP; rw [h]; exact ⟨rfl, hb⟩
theorem par_no {f : Int} {L : L8} (h : okDay f = true) (hp : pf L = none) : parP f L = (0, 0, 0, 0, 4) := by
  unfold parP; rw [h, if_pos rfl, hp]
theorem pf_pre {L : L8} (h : Lib.hasPrefix L preL = false) : pf L = none := by
  unfold pf; rw [if_neg (by rw [h]; simp)]
theorem pf_nil {L : L8} (h : Lib.trimPrefix L preL = []) : pf L = none := by
  unfold pf; rw [h]; simp
theorem pf_dig {L r : L8} {c : UInt8} (h : Lib.trimPrefix L preL = c :: r) (hd : ¬ (48 ≤ c.toNat ∧ c.toNat ≤ 57)) : pf L = none := by
  unfold pf; rw [h]; simp only; rw [if_neg hd]; simp
theorem pf_by {L r : L8} {c : UInt8} (h : Lib.trimPrefix L preL = c :: r) (hb : Lib.hasPrefix r bydL = false) : pf L = none := by
  unfold pf; rw [h]; simp only; rw [if_neg (show ¬ Lib.hasPrefix r bydL = true by rw [hb]; simp)]; simp
theorem pf_unt {L r x : L8} {c : UInt8} {k : Int} (h : Lib.trimPrefix L preL = c :: r) (hw : wk 7 0 (Lib.trimPrefix r bydL) = (k, x)) (hu : Lib.hasPrefix x untL = false) : pf L = none := by
  unfold pf; rw [h]; simp only [hw]; rw [if_neg (show ¬ Lib.hasPrefix x untL = true by rw [hu]; simp)]; simp
theorem pf_dat {L r x : L8} {c : UInt8} {k l : Int} (h : Lib.trimPrefix L preL = c :: r) (hw : wk 7 0 (Lib.trimPrefix r bydL) = (k, x)) (hd : datP (Lib.trimPrefix x untL) = (l, false)) : pf L = none := by
  unfold pf; rw [h]; simp only [hw, hd]; simp
theorem pf_all {L r x : L8} {c : UInt8} {k l : Int} (h0 : Lib.hasPrefix L preL = true) (h : Lib.trimPrefix L preL = c :: r) (hc : 48 ≤ c.toNat ∧ c.toNat ≤ 57) (hb : Lib.hasPrefix r bydL = true) (hw : wk 7 0 (Lib.trimPrefix r bydL) = (k, x)) (hu : Lib.hasPrefix x untL = true) (hd : datP (Lib.trimPrefix x untL) = (l, true)) : pf L = some (c.toNat - 48, k, l) := by
  unfold pf; rw [if_pos h0, h]; simp only [hw, hd]; rw [if_pos hc, if_pos hb, if_pos hu]; simp
theorem par_yes {f : Int} {L : L8} {e : Nat} {k l : Int} (h : okDay f = true) (hp : pf L = some (e, k, l)) : parP f L = if vlE f l e k [] [] = 0 then (f, l, (e : Int), k, 0) else (0, 0, 0, 0, 3) := by
  unfold parP; rw [h, if_pos rfl, hp]
theorem trim_len (s p : L8) : (Lib.trimPrefix s p).length ≤ s.length := by
  unfold Lib.trimPrefix; split
  · rw [List.length_drop]; omega
  · exact Nat.le_refl _
theorem cons_ne (c : UInt8) (r : L8) : (arr (c :: r)).toList.isEmpty = false := by rw [arr_toList]; rfl
theorem wk_len : ∀ (r : Nat) (set : Int) (s : L8), (wk r set s).2.length ≤ s.length
  | 0, set, s => by unfold wk; split <;> simp
  | r + 1, set, s => by
    unfold wk
    have a1 := trim_len s (nmL (6 - r))
    have a2 := trim_len (Lib.trimPrefix s (nmL (6 - r))) [44]
    split
    · split
      · exact Nat.le_trans (wk_len r _ _) (by omega)
      · exact a1
    · exact wk_len r _ _
theorem nil_ints (w : World) : IntsAt w none 0 [] := ⟨rfl, by omega, Or.inl rfl⟩
theorem cons_idx (c : UInt8) (r : L8) (h : 0 < (arr (c :: r)).size) : (arr (c :: r))[0] = c := rfl
theorem cons_cut (c : UInt8) (r : L8) : (arr (c :: r)).extract 1 (arr (c :: r)).size = arr r := by
  apply ByteArray.ext
  simp [arr, ByteArray.size]
theorem cons_str (c : UInt8) (r : L8) : ∃ S1 : ByteArray, arr (c :: r) = S1 ∧ S1.size = r.length + 1 ∧ S1.toList.isEmpty = false ∧ (∀ h : 0 < S1.size, S1[0] = c) ∧ S1.extract 1 (r.length + 1) = arr r := by
  have hS : (arr (c :: r)).size = r.length + 1 := by rw [arr_size]; rfl
  have hcut := cons_cut c r
  rw [hS] at hcut
  exact ⟨_, rfl, hS, cons_ne c r, fun _ => rfl, hcut⟩

set_option maxRecDepth 100000 in
set_option maxHeartbeats 4000000 in
theorem parse_any (f : Int) (L : L8) (hL : L.length ≤ 1000000) (w : World) (hT : Tbs w) : Calls Tryz.prog 11 #[.int .i64 f, .string (arr L)] w (ParP f L w) := by
  have HT := Lib.hid hT
  clear hT
  cases hok : okDay f
  · have HF : Hid (parP f L = (0, 0, 0, 0, 13)) := Lib.hid (by unfold parP; rw [hok, if_neg (by simp)])
    have HI : Hid (∀ W, Calls Tryz.prog 28 #[.int .i64 f] W (fun e w' => e = .returned (.bool false) ∧ W = w')) := Lib.hid (fun W => by rw [← hok]; exact isDay_any f W)
    have HR := Lib.hid (show (w.alloc (.cells #[.int .i64 0, .int .i64 0, .int .i64 0, .int .i64 0, .slice none 0 0, .slice none 0 0] 24)).heap[w.heap.size]? = some (cells6 0 0 0 0 (.slice none 0 0) (.slice none 0 0)) from World.alloc_heap_new w _)
    have HB := Lib.hid (show Below w.heap.size w (w.alloc (.cells #[.int .i64 0, .int .i64 0, .int .i64 0, .int .i64 0, .slice none 0 0, .slice none 0 0] 24)) from (Below.refl _ _).alloc (Nat.le_refl _) _)
    generalize arr L = S at *
    clear hok
    go_enter Tryz.func11, Tryz.ntmps11
    go_wp2_with (go_at_call 28; refine (HI.out _).mono ?_; rintro en w1 ⟨rfl, rfl⟩)
    obtain ⟨p0, p1, p2, p3, p4, p5, _⟩ := c6_cells HR.out
    refine bodyPost_ret (v := .tuple #[serV 0 0 0 0 none 0 0 none 0 0, .int .i64 13]) (by simp [results, Tryz.results11, go_sem, p0, p1, p2, p3, p4, p5]) rfl ?_
    exact parP_of HF.out HB.out
  · have HK := Lib.hid hok
    have HI : Hid (∀ W, Calls Tryz.prog 28 #[.int .i64 f] W (fun e w' => e = .returned (.bool true) ∧ W = w')) := Lib.hid (fun W => by rw [← hok]; exact isDay_any f W)
    have HP1 := Lib.hid (PZ.mk0 (w := w) (f := f))
    have C1 := Lib.hid (fun W => cut_any L preL W)
    clear hok
    go_enter Tryz.func11, Tryz.ntmps11
    go_wp2_with (first | (go_at_call 28; refine (HI.out _).mono ?_; rintro en w1 ⟨rfl, rfl⟩) | fail)
    generalize ((w.alloc (.cells #[.int .i64 0, .int .i64 0, .int .i64 0, .int .i64 0, .slice none 0 0, .slice none 0 0] 24)).alloc (.cells #[.int .i64 f, .int .i64 0, .int .i64 0, .int .i64 0, .slice none 0 0, .slice none 0 0] 24)) = w1 at *
    refine (C1.out _).mono ?_
    rintro en w9 ⟨rfl, hw9⟩
    replace hw9 := hw9.symm
    subst hw9
    clear C1 HI
    obtain ⟨r0, r1, r2, r3, r4, r5, rz0, rz1, rz2, rz3, rz4, rz5, rsz⟩ := c6_cells HP1.out.hr
    obtain ⟨s0, s1, s2, s3, s4, s5, sz0, sz1, sz2, sz3, sz4, sz5, ssz⟩ := c6_cells HP1.out.hs
    have hL1 := trim_len L preL
    cases h1 : Lib.hasPrefix L preL
    · have HF := Lib.hid (par_no HK.out (pf_pre h1))
      generalize arr (Lib.trimPrefix L preL) = S1 at *
      go_wp2_with fail
      obtain ⟨W9, hW9, hr9, bl9⟩ := res_fin HP1.out.hr HP1.out.bl (0) (0) (0) (0)
      rw [show ((((((w1.setCell ⟨w.heap.size, 0, none⟩ (.int .i64 0)).setCell ⟨w.heap.size, 1, none⟩ (.int .i64 0)).setCell ⟨w.heap.size, 2, none⟩ (.int .i64 0)).setCell ⟨w.heap.size, 3, none⟩ (.int .i64 0)).setCell ⟨w.heap.size, 4, none⟩ (.slice none 0 0)).setCell ⟨w.heap.size, 5, none⟩ (.slice none 0 0)) = W9 from hW9.symm]
      obtain ⟨p0, p1, p2, p3, p4, p5, _⟩ := c6_cells hr9
      refine bodyPost_ret (v := .tuple #[serV (0) (0) (0) (0) none 0 0 none 0 0, .int .i64 4]) (by simp [results, Tryz.results11, go_sem, p0, p1, p2, p3, p4, p5]) rfl ?_
      exact parP_of HF.out bl9
    have H1 := Lib.hid h1
    clear h1
    rcases hr1 : Lib.trimPrefix L preL with _ | ⟨c, R⟩
    · have HF := Lib.hid (par_no HK.out (pf_nil hr1))
      rw [show arr ([] : L8) = ⟨#[]⟩ from rfl]
      go_wp2_with fail
      obtain ⟨W9, hW9, hr9, bl9⟩ := res_fin HP1.out.hr HP1.out.bl (0) (0) (0) (0)
      rw [show ((((((w1.setCell ⟨w.heap.size, 0, none⟩ (.int .i64 0)).setCell ⟨w.heap.size, 1, none⟩ (.int .i64 0)).setCell ⟨w.heap.size, 2, none⟩ (.int .i64 0)).setCell ⟨w.heap.size, 3, none⟩ (.int .i64 0)).setCell ⟨w.heap.size, 4, none⟩ (.slice none 0 0)).setCell ⟨w.heap.size, 5, none⟩ (.slice none 0 0)) = W9 from hW9.symm]
      obtain ⟨p0, p1, p2, p3, p4, p5, _⟩ := c6_cells hr9
      refine bodyPost_ret (v := .tuple #[serV (0) (0) (0) (0) none 0 0 none 0 0, .int .i64 4]) (by simp [results, Tryz.results11, go_sem, p0, p1, p2, p3, p4, p5]) rfl ?_
      exact parP_of HF.out bl9
    rw [hr1] at hL1
    have HR1 := Lib.hid hr1
    clear hr1
    obtain ⟨S1, hSS, hS, hne, hix, hcut⟩ := cons_str c R
    rw [hSS]
    have hix := hix (by omega)
    have hc255 : c.toNat < 256 := c.toNat_lt
    rw [List.length_cons] at hL1
    clear hSS
    generalize b1 : decide ((c.toNat : Int) < 48) = d1
    generalize b2 : decide ((57 : Int) < (c.toNat : Int)) = d2
    have hD := dig_two c b1 b2
    cases d1
    rotate_left
    · have HF := Lib.hid (par_no HK.out (pf_dig HR1.out (of_decide_eq_false (by rw [hD]; simp))))
      clear hD
      go_wp2_with fail
      obtain ⟨W9, hW9, hr9, bl9⟩ := res_fin HP1.out.hr HP1.out.bl (0) (0) (0) (0)
      rw [show ((((((w1.setCell ⟨w.heap.size, 0, none⟩ (.int .i64 0)).setCell ⟨w.heap.size, 1, none⟩ (.int .i64 0)).setCell ⟨w.heap.size, 2, none⟩ (.int .i64 0)).setCell ⟨w.heap.size, 3, none⟩ (.int .i64 0)).setCell ⟨w.heap.size, 4, none⟩ (.slice none 0 0)).setCell ⟨w.heap.size, 5, none⟩ (.slice none 0 0)) = W9 from hW9.symm]
      obtain ⟨p0, p1, p2, p3, p4, p5, _⟩ := c6_cells hr9
      refine bodyPost_ret (v := .tuple #[serV (0) (0) (0) (0) none 0 0 none 0 0, .int .i64 4]) (by simp [results, Tryz.results11, go_sem, p0, p1, p2, p3, p4, p5]) rfl ?_
      exact parP_of HF.out bl9
    cases d2
    rotate_left
    · have HF := Lib.hid (par_no HK.out (pf_dig HR1.out (of_decide_eq_false (by rw [hD]; decide))))
      clear hD
      go_wp2_with fail
      obtain ⟨W9, hW9, hr9, bl9⟩ := res_fin HP1.out.hr HP1.out.bl (0) (0) (0) (0)
      rw [show ((((((w1.setCell ⟨w.heap.size, 0, none⟩ (.int .i64 0)).setCell ⟨w.heap.size, 1, none⟩ (.int .i64 0)).setCell ⟨w.heap.size, 2, none⟩ (.int .i64 0)).setCell ⟨w.heap.size, 3, none⟩ (.int .i64 0)).setCell ⟨w.heap.size, 4, none⟩ (.slice none 0 0)).setCell ⟨w.heap.size, 5, none⟩ (.slice none 0 0)) = W9 from hW9.symm]
      obtain ⟨p0, p1, p2, p3, p4, p5, _⟩ := c6_cells hr9
      refine bodyPost_ret (v := .tuple #[serV (0) (0) (0) (0) none 0 0 none 0 0, .int .i64 4]) (by simp [results, Tryz.results11, go_sem, p0, p1, p2, p3, p4, p5]) rfl ?_
      exact parP_of HF.out bl9
    clear hD
    have g1 : 48 ≤ c.toNat := by have := of_decide_eq_false b1; omega
    have g2 : c.toNat ≤ 57 := by have := of_decide_eq_false b2; omega
    have HG := Lib.hid (And.intro g1 g2)
    have y1 : IntKind.u8.wrap ((c.toNat : Int) - 48) = (c.toNat : Int) - 48 := by
      unfold IntKind.wrap
      simp [IntKind.bits, IntKind.signed]
      omega
    have HEV : Hid ((c.toNat : Int) - 48 = ((c.toNat - 48 : Nat) : Int)) := Lib.hid (by omega)
    have v1 : 0 ≤ (c.toNat : Int) - 48 := by omega
    have v2 : (c.toNat : Int) - 48 ≤ 9 := by omega
    have C2 := Lib.hid (fun W => cut_any R bydL W)
    have hL2 := trim_len R bydL
    have HP2 := Lib.hid (HP1.out.set (i := 2) (v := .int .i64 ((c.toNat : Int) - 48)) (c6_set2 HP1.out.hs ((c.toNat : Int) - 48)))
    go_wp2_with fail
    clear r0 r1 r2 r3 r4 r5 rz0 rz1 rz2 rz3 rz4 rz5 rsz s0 s1 s2 s3 s4 s5 sz0 sz1 sz2 sz3 sz4 sz5 ssz HP1 y1 g1 g2 b1 b2 hne hix hcut hS
    generalize w1.setCell ⟨w.heap.size + 1, 2, none⟩ (.int .i64 ((c.toNat : Int) - 48)) = w2 at *
    generalize hev : (c.toNat : Int) - 48 = ev at *
    clear hev
    refine (C2.out _).mono ?_
    rintro en w9 ⟨rfl, hw9⟩
    replace hw9 := hw9.symm
    subst hw9
    clear C2
    obtain ⟨r0, r1, r2, r3, r4, r5, rz0, rz1, rz2, rz3, rz4, rz5, rsz⟩ := c6_cells HP2.out.hr
    obtain ⟨s0, s1, s2, s3, s4, s5, sz0, sz1, sz2, sz3, sz4, sz5, ssz⟩ := c6_cells HP2.out.hs
    cases h3 : Lib.hasPrefix R bydL
    · have HF := Lib.hid (par_no HK.out (pf_by HR1.out h3))
      generalize arr (Lib.trimPrefix R bydL) = S2 at *
      go_wp2_with fail
      obtain ⟨W9, hW9, hr9, bl9⟩ := res_fin HP2.out.hr HP2.out.bl (0) (0) (0) (0)
      rw [show ((((((w2.setCell ⟨w.heap.size, 0, none⟩ (.int .i64 0)).setCell ⟨w.heap.size, 1, none⟩ (.int .i64 0)).setCell ⟨w.heap.size, 2, none⟩ (.int .i64 0)).setCell ⟨w.heap.size, 3, none⟩ (.int .i64 0)).setCell ⟨w.heap.size, 4, none⟩ (.slice none 0 0)).setCell ⟨w.heap.size, 5, none⟩ (.slice none 0 0)) = W9 from hW9.symm]
      obtain ⟨p0, p1, p2, p3, p4, p5, _⟩ := c6_cells hr9
      refine bodyPost_ret (v := .tuple #[serV (0) (0) (0) (0) none 0 0 none 0 0, .int .i64 4]) (by simp [results, Tryz.results11, go_sem, p0, p1, p2, p3, p4, p5]) rfl ?_
      exact parP_of HF.out bl9
    have H3 := Lib.hid h3
    clear h3
    have HW := Lib.hid (fun W => wkdays_any (Lib.trimPrefix R bydL) W)
    have hL3 := wk_len 7 0 (Lib.trimPrefix R bydL)
    go_wp2_with fail
    refine (HW.out _).mono ?_
    rintro en w9 ⟨rfl, hw9⟩
    replace hw9 := hw9.symm
    subst hw9
    clear HW
    rcases hwk : wk 7 0 (Lib.trimPrefix R bydL) with ⟨k, x⟩
    rw [hwk] at hL3
    have HWK := Lib.hid hwk
    clear hwk
    have HP3 := Lib.hid (HP2.out.set (i := 3) (v := .int .i64 k) (c6_set3 HP2.out.hs k))
    have C3 := Lib.hid (fun W => cut_any x untL W)
    have hL4 := trim_len x untL
    go_wp2_with fail
    clear r0 r1 r2 r3 r4 r5 rz0 rz1 rz2 rz3 rz4 rz5 rsz s0 s1 s2 s3 s4 s5 sz0 sz1 sz2 sz3 sz4 sz5 ssz HP2
    generalize w2.setCell ⟨w.heap.size + 1, 3, none⟩ (.int .i64 k) = w3 at *
    refine (C3.out _).mono ?_
    rintro en w9 ⟨rfl, hw9⟩
    replace hw9 := hw9.symm
    subst hw9
    clear C3
    obtain ⟨r0, r1, r2, r3, r4, r5, rz0, rz1, rz2, rz3, rz4, rz5, rsz⟩ := c6_cells HP3.out.hr
    obtain ⟨s0, s1, s2, s3, s4, s5, sz0, sz1, sz2, sz3, sz4, sz5, ssz⟩ := c6_cells HP3.out.hs
    cases h4 : Lib.hasPrefix x untL
    · have HF := Lib.hid (par_no HK.out (pf_unt HR1.out HWK.out h4))
      generalize arr (Lib.trimPrefix x untL) = S3 at *
      go_wp2_with fail
      obtain ⟨W9, hW9, hr9, bl9⟩ := res_fin HP3.out.hr HP3.out.bl (0) (0) (0) (0)
      rw [show ((((((w3.setCell ⟨w.heap.size, 0, none⟩ (.int .i64 0)).setCell ⟨w.heap.size, 1, none⟩ (.int .i64 0)).setCell ⟨w.heap.size, 2, none⟩ (.int .i64 0)).setCell ⟨w.heap.size, 3, none⟩ (.int .i64 0)).setCell ⟨w.heap.size, 4, none⟩ (.slice none 0 0)).setCell ⟨w.heap.size, 5, none⟩ (.slice none 0 0)) = W9 from hW9.symm]
      obtain ⟨p0, p1, p2, p3, p4, p5, _⟩ := c6_cells hr9
      refine bodyPost_ret (v := .tuple #[serV (0) (0) (0) (0) none 0 0 none 0 0, .int .i64 4]) (by simp [results, Tryz.results11, go_sem, p0, p1, p2, p3, p4, p5]) rfl ?_
      exact parP_of HF.out bl9
    have H4 := Lib.hid h4
    clear h4
    have HD := Lib.hid (date_any (Lib.trimPrefix x untL) (by omega) w3 (HT.out.below HP3.out.bl))
    go_wp2_with fail
    refine HD.out.mono ?_
    rintro en w4 ⟨rfl, hb4⟩
    rcases hdp : datP (Lib.trimPrefix x untL) with ⟨l, ok⟩
    have HDP := Lib.hid hdp
    have HP4 := Lib.hid (HP3.out.next hb4)
    clear hdp hb4 HD HP3 r0 r1 r2 r3 r4 r5 rz0 rz1 rz2 rz3 rz4 rz5 rsz s0 s1 s2 s3 s4 s5 sz0 sz1 sz2 sz3 sz4 sz5 ssz
    obtain ⟨r0, r1, r2, r3, r4, r5, rz0, rz1, rz2, rz3, rz4, rz5, rsz⟩ := c6_cells HP4.out.hr
    obtain ⟨s0, s1, s2, s3, s4, s5, sz0, sz1, sz2, sz3, sz4, sz5, ssz⟩ := c6_cells HP4.out.hs
    have HP5 := Lib.hid (HP4.out.set (i := 1) (v := .int .i64 l) (c6_set1 HP4.out.hs l))
    cases ok
    · have HF := Lib.hid (par_no HK.out (pf_dat HR1.out HWK.out HDP.out))
      generalize arr (Lib.trimPrefix x untL) = S3 at *
      have HP5' := Lib.hid (And.intro HP5.out.hr HP5.out.bl)
      go_wp2_with fail
      obtain ⟨W9, hW9, hr9, bl9⟩ := res_fin HP5'.out.1 HP5'.out.2 (0) (0) (0) (0)
      rw [show (((((((w4.setCell ⟨w.heap.size + 1, 1, none⟩ (.int .i64 l)).setCell ⟨w.heap.size, 0, none⟩ (.int .i64 0)).setCell ⟨w.heap.size, 1, none⟩ (.int .i64 0)).setCell ⟨w.heap.size, 2, none⟩ (.int .i64 0)).setCell ⟨w.heap.size, 3, none⟩ (.int .i64 0)).setCell ⟨w.heap.size, 4, none⟩ (.slice none 0 0)).setCell ⟨w.heap.size, 5, none⟩ (.slice none 0 0)) = W9 from hW9.symm]
      obtain ⟨p0, p1, p2, p3, p4, p5, _⟩ := c6_cells hr9
      refine bodyPost_ret (v := .tuple #[serV (0) (0) (0) (0) none 0 0 none 0 0, .int .i64 4]) (by simp [results, Tryz.results11, go_sem, p0, p1, p2, p3, p4, p5]) rfl ?_
      exact parP_of HF.out bl9
    have HPY := Lib.hid (par_yes HK.out (pf_all H1.out HR1.out HG.out H3.out HWK.out H4.out HDP.out))
    rw [← HEV.out] at HPY
    go_upto_region 18 with fail
    clear r0 r1 r2 r3 r4 r5 rz0 rz1 rz2 rz3 rz4 rz5 rsz s0 s1 s2 s3 s4 s5 sz0 sz1 sz2 sz3 sz4 sz5 ssz HP4
    generalize w4.setCell ⟨w.heap.size + 1, 1, none⟩ (.int .i64 l) = w5 at *
    obtain ⟨r0, r1, r2, r3, r4, r5, rz0, rz1, rz2, rz3, rz4, rz5, rsz⟩ := c6_cells HP5.out.hr
    obtain ⟨s0, s1, s2, s3, s4, s5, sz0, sz1, sz2, sz3, sz4, sz5, ssz⟩ := c6_cells HP5.out.hs
    have HV := Lib.hid (valid_any f l ev k none 0 0 none 0 0 [] [] w5 (nil_ints _) (nil_ints _) (by omega))
    go_wp2_with fail
    refine HV.out.mono ?_
    rintro en w6 ⟨rfl, hb6⟩
    have HP6 := Lib.hid (HP5.out.next hb6)
    clear hb6 HV HP5 r0 r1 r2 r3 r4 r5 rz0 rz1 rz2 rz3 rz4 rz5 rsz s0 s1 s2 s3 s4 s5 sz0 sz1 sz2 sz3 sz4 sz5 ssz
    obtain ⟨r0, r1, r2, r3, r4, r5, rz0, rz1, rz2, rz3, rz4, rz5, rsz⟩ := c6_cells HP6.out.hr
    obtain ⟨s0, s1, s2, s3, s4, s5, sz0, sz1, sz2, sz3, sz4, sz5, ssz⟩ := c6_cells HP6.out.hs
    by_cases hv : vlE f l ev k [] [] = 0
    · have HF : Hid (parP f L = (f, l, ev, k, 0)) := Lib.hid (by rw [HPY.out, if_pos hv])
      have hv' : (vlE f l ev k [] [] != 0) = false := by simpa using hv
      clear hv HPY
      generalize vlE f l ev k [] [] = ve at *
      go_wp2_with fail
      obtain ⟨W9, hW9, hr9, bl9⟩ := res_fin HP6.out.hr HP6.out.bl (f) (l) (ev) (k)
      rw [show ((((((w6.setCell ⟨w.heap.size, 0, none⟩ (.int .i64 f)).setCell ⟨w.heap.size, 1, none⟩ (.int .i64 l)).setCell ⟨w.heap.size, 2, none⟩ (.int .i64 ev)).setCell ⟨w.heap.size, 3, none⟩ (.int .i64 k)).setCell ⟨w.heap.size, 4, none⟩ (.slice none 0 0)).setCell ⟨w.heap.size, 5, none⟩ (.slice none 0 0)) = W9 from hW9.symm]
      obtain ⟨p0, p1, p2, p3, p4, p5, _⟩ := c6_cells hr9
      refine bodyPost_ret (v := .tuple #[serV (f) (l) (ev) (k) none 0 0 none 0 0, .int .i64 0]) (by simp [results, Tryz.results11, go_sem, p0, p1, p2, p3, p4, p5]) rfl ?_
      exact parP_of HF.out bl9
    · have HF : Hid (parP f L = (0, 0, 0, 0, 3)) := Lib.hid (by rw [HPY.out, if_neg hv])
      have hv' : (vlE f l ev k [] [] != 0) = true := by simpa using hv
      clear hv HPY
      generalize vlE f l ev k [] [] = ve at *
      go_wp2_with fail
      obtain ⟨W9, hW9, hr9, bl9⟩ := res_fin HP6.out.hr HP6.out.bl (0) (0) (0) (0)
      rw [show ((((((w6.setCell ⟨w.heap.size, 0, none⟩ (.int .i64 0)).setCell ⟨w.heap.size, 1, none⟩ (.int .i64 0)).setCell ⟨w.heap.size, 2, none⟩ (.int .i64 0)).setCell ⟨w.heap.size, 3, none⟩ (.int .i64 0)).setCell ⟨w.heap.size, 4, none⟩ (.slice none 0 0)).setCell ⟨w.heap.size, 5, none⟩ (.slice none 0 0)) = W9 from hW9.symm]
      obtain ⟨p0, p1, p2, p3, p4, p5, _⟩ := c6_cells hr9
      refine bodyPost_ret (v := .tuple #[serV (0) (0) (0) (0) none 0 0 none 0 0, .int .i64 3]) (by simp [results, Tryz.results11, go_sem, p0, p1, p2, p3, p4, p5]) rfl ?_
      exact parP_of HF.out bl9

end Go.Proofs.YtibigbfkokendaaGreatDoor
