/- Texts V89, V73, V85, V86, joined: walks and laws for the versions. -/
import Derived.Test.YtihbpggbpapcfaaGreatDoorM30
import Derived.Test.YtihbpggbpapcfaaGreatDoorM33
import Derived.Test.YtihbpggbpapcfaaGreatDoorM37
import Derived.Test.YtihbpggbpapcfaaGreatDoorH38
namespace Go.Proofs.YtihbpggbpapcfaaGreatDoor
open Go.RowKit

theorem take_same {α : Type} {xs ys : List α} {j : Nat} {x : α} (h : xs.take j = ys.take j) (hx : xs[j]? = some x) (hy : ys[j]? = some x) : xs.take (j + 1) = ys.take (j + 1) := by
 rw [List.take_add_one, List.take_add_one, hx, hy, h]
theorem neq_at {α : Type} {xs ys : List α} {j : Nat} {x y : α} (hx : xs[j]? = some x) (hy : ys[j]? = some y) (h : x ≠ y) : xs ≠ ys := fun e => h (by rw [e] at hx; exact Option.some.inj (hx.symm.trans hy))

set_option maxRecDepth 100000 in
set_option maxHeartbeats 4000000 in
theorem eqfc_any (a : Option Addr) (n c : Nat) (b : Option Addr) (m q : Nat) (xs ys : List Chg) (w : World) (hx : HAt w a n xs) (hy : HAt w b m ys) :
  Calls Tryz.prog 101 #[.slice a n c, .slice b m q, .func (.func 102) #[] #[]] w (RetB (.bool (decide (xs = ys))) w) := by
 have n1 := hx.len.2
 have n2 := hy.len.2
 have hlx := hx.len.1
 have hly := hy.len.1
 obtain ⟨r, hr⟩ : ∃ r, decide (xs = ys) = r := ⟨_, rfl⟩
 rw [hr]
 have HR := Lib.hid hr
 clear hr
 by_cases hnm : n = m
 rotate_left
 ·
  have HF : Hid (r = false) := Lib.hid (by rw [← HR.out]; exact decide_eq_false (by rintro rfl; omega))
  have hd : ((n : Int) != (m : Int)) = true := by simpa using fun h => hnm (by omega)
  clear hx hy hnm HR
  go_enter Tryz.func101, Tryz.ntmps101
  go_wp2_with fail
  go_ret
  exact ⟨ret_bool (by rw [HF.out]), Below.refl _ _⟩
 subst hnm
 have HX := Lib.hid hx
 have HY := Lib.hid hy
 have hd : ((n : Int) != (n : Int)) = false := by simp
 clear hx hy
 go_enter Tryz.func101, Tryz.ntmps101
 go_wp2_with fail
 go_loopw [17] (fun i wr => ∃ j : Nat, j ≤ n ∧ i = .int .i64 j ∧ Hid (xs.take j = ys.take j) ∧ Hid (Below w.heap.size w wr)) (fun i _ => n - (intOf i).toNat)
 case atStart => exact ⟨0, by omega, rfl, Lib.hid rfl, Lib.hid (Below.refl _ _)⟩
 case round =>
  obtain ⟨j, hj, rfl, HT, HB⟩ := hrel
  by_cases hlt : j < n
  ·
   obtain ⟨b1, o1, x, p, p2, rfl, gx, z1, x0, x1, x2, sp, sp2⟩ := HAt.cells (HX.out.below HB.out) hlt
   obtain ⟨b2, o2, y, s, s2, rfl, gy, z2, y0, y1, y2, ss, ss2⟩ := HAt.cells (HY.out.below HB.out) hlt
   have q1 : (j : Int) < n := by omega
   have q2 : (0 : Int) ≤ j := by omega
   have G1 := Lib.hid gx
   have G2 := Lib.hid gy
   obtain ⟨pa, pn, pc⟩ := p
   obtain ⟨qa, qn, qc⟩ := p2
   obtain ⟨ra, rn, rc⟩ := s
   obtain ⟨ua, un, uc⟩ := s2
   have EC := Lib.hid (fun W (h : Below wr.heap.size wr W) => eqc_any x y pa pn pc qa qn qc ra rn rc ua un uc W (sp.2.below h) (sp2.2.below h) (ss.2.below h) (ss2.2.below h))
   clear sp sp2 ss ss2
   have HA := Lib.hid (BX.mk0 (vs := #[.string (arr x.1), .slice pa pn pc, .slice qa qn qc]) (T := 101) wr)
   clear gx gy hlt
   go_upto_region 6 with fail
   generalize wr.alloc (.cells #[.string (arr x.1), .slice pa pn pc, .slice qa qn qc] 101) = wa at *
   obtain ⟨R, hR⟩ : ∃ R, R = wr.heap.size := ⟨_, rfl⟩
   rw [← hR] at HA ⊢
   clear hR
   have y0 := below_cell9 HA.out.bl y0
   have y1 := below_cell9 HA.out.bl y1
   have y2 := below_cell9 HA.out.bl y2
   have HB2 := Lib.hid (BX.mk0 (vs := #[.string (arr y.1), .slice ra rn rc, .slice ua un uc]) (T := 101) wa)
   go_upto_region 7 with fail
   generalize wa.alloc (.cells #[.string (arr y.1), .slice ra rn rc, .slice ua un uc] 101) = wb at *
   obtain ⟨R2, hR2⟩ : ∃ R2, R2 = wa.heap.size := ⟨_, rfl⟩
   rw [← hR2] at HB2 ⊢
   clear hR2
   have HA := Lib.hid (HA.out.next HB2.out.bl)
   have HW := Lib.hid (below3 HB.out HA.out.bl)
   clear y0 y1 y2 x0 x1 x2
   have a0 := HA.out.cell 0
   have a1 := HA.out.cell 1
   have a2 := HA.out.cell 2
   have b0 := HB2.out.cell 0
   have b1 := HB2.out.cell 1
   have b2 := HB2.out.cell 2
   simp only [List.getElem?_toArray, List.getElem?_cons_zero, List.getElem?_cons_succ] at a0 a1 a2 b0 b1 b2
   have EC1 := Lib.hid (EC.out _ HA.out.bl)
   obtain ⟨dd, hdd⟩ : ∃ dd, decide (x = y) = dd := ⟨_, rfl⟩
   rw [hdd] at EC1
   go_wp2_with fail
   refine EC1.out.mono ?_
   rintro en w2 ⟨rfl, hb2⟩
   have HW2 := Lib.hid (below3 HW.out hb2)
   clear hb2 EC EC1
   cases dd
   ·
    have HF : Hid (r = false) := Lib.hid (by rw [← HR.out]; exact decide_eq_false (neq_at G1.out G2.out (of_decide_eq_false hdd)))
    clear hdd
    go_wp2_with fail
    go_ret
    exact ⟨ret_bool (by rw [HF.out]), HW2.out⟩
   ·
    have HT2 : Hid (xs.take (j + 1) = ys.take (j + 1)) := Lib.hid (take_same HT.out G1.out (by rw [of_decide_eq_true hdd]; exact G2.out))
    clear hdd
    go_wp2_with fail
    go_roundw
    case rel => exact ⟨j + 1, by omega, by go_num, HT2, HW2⟩
    case measure => simp [intOf]; omega
  ·
   obtain rfl : n = j := by omega
   have HF : Hid (r = true) := Lib.hid (by
    rw [← HR.out]
    refine decide_eq_true ?_
    have := HT.out
    rw [List.take_of_length_le (by omega), List.take_of_length_le (by omega)] at this
    exact this)
   go_wp2_with fail
   go_ret
   exact ⟨ret_bool (by rw [HF.out]), HB.out⟩

set_option maxRecDepth 100000 in
set_option maxHeartbeats 4000000 in
theorem eqv_any (x y : Ver) (pa : Option Addr) (pn pc : Nat) (qa : Option Addr) (qn qc : Nat) (w : World) (hp : HAt w pa pn x.2.2) (hq : HAt w qa qn y.2.2) :
  Calls Tryz.prog 70 #[.agg #[.int .i64 x.1, .int .i64 x.2.1, .slice pa pn pc], .agg #[.int .i64 y.1, .int .i64 y.2.1, .slice qa qn qc]] w (RetB (.bool (decide (x = y))) w) := by
 obtain ⟨x1, x2, x3⟩ := x
 obtain ⟨y1, y2, y3⟩ := y
 simp only at hp hq ⊢
 have HF : Hid (decide ((x1, x2, x3) = (y1, y2, y3)) = (decide (x1 = y1) && (decide (x2 = y2) && decide (x3 = y3)))) := Lib.hid (by
  by_cases h1 : x1 = y1 <;> by_cases h2 : x2 = y2 <;> by_cases h3 : x3 = y3 <;> simp [h1, h2, h3])
 have S1 := Lib.hid (fun W (h : Below w.heap.size w W) => eqfc_any pa pn pc qa qn qc x3 y3 W (hp.below h) (hq.below h))
 clear hp hq
 generalize decide ((x1, x2, x3) = (y1, y2, y3)) = r at *
 have HA := Lib.hid (BX.mk0 (vs := #[.int .i64 x1, .int .i64 x2, .slice pa pn pc]) (T := 24) w)
 go_enter Tryz.func70, Tryz.ntmps70
 go_upto_region 1 with fail
 have hsa : (w.alloc (.cells #[.int .i64 x1, .int .i64 x2, .slice pa pn pc] 24)).heap.size = w.heap.size + 1 := by simp
 generalize w.alloc (.cells #[.int .i64 x1, .int .i64 x2, .slice pa pn pc] 24) = wa at *
 obtain ⟨R, hR⟩ : ∃ R, R = w.heap.size := ⟨_, rfl⟩
 rw [← hR] at HA hsa ⊢
 clear hR
 have HB := Lib.hid (BX.mk0 (vs := #[.int .i64 y1, .int .i64 y2, .slice qa qn qc]) (T := 24) wa)
 rw [hsa] at HB
 clear hsa
 generalize wa.alloc (.cells #[.int .i64 y1, .int .i64 y2, .slice qa qn qc] 24) = wb at *
 have HA := Lib.hid (HA.out.next HB.out.bl)
 have HW := Lib.hid HA.out.bl
 have a0 := HA.out.cell 0
 have a1 := HA.out.cell 1
 have a2 := HA.out.cell 2
 have b0 := HB.out.cell 0
 have b1 := HB.out.cell 1
 have b2 := HB.out.cell 2
 simp only [List.getElem?_toArray, List.getElem?_cons_zero, List.getElem?_cons_succ] at a0 a1 a2 b0 b1 b2
 by_cases h1 : x1 = y1
 rotate_left
 ·
  have HF2 : Hid (r = false) := Lib.hid (by rw [HF.out, decide_eq_false h1]; rfl)
  have p1 : (x1 == y1) = false := by simpa using h1
  clear h1
  go_wp2_with fail
  go_ret
  exact ⟨ret_bool (by rw [HF2.out]), HW.out⟩
 subst h1
 by_cases h2 : x2 = y2
 rotate_left
 ·
  have HF2 : Hid (r = false) := Lib.hid (by rw [HF.out, decide_eq_true rfl, decide_eq_false h2]; rfl)
  have p1 : (x2 == y2) = false := by simpa using h2
  clear h2
  go_wp2_with fail
  go_ret
  exact ⟨ret_bool (by rw [HF2.out]), HW.out⟩
 subst h2
 have HF2 : Hid (r = decide (x3 = y3)) := Lib.hid (by rw [HF.out, decide_eq_true rfl, decide_eq_true rfl]; rfl)
 clear HF
 go_wp2_with fail
 refine (S1.out _ HW.out).mono ?_
 rintro en w2 ⟨rfl, hb2⟩
 have HW2 := Lib.hid (below3 HW.out hb2)
 clear hb2
 go_wp2_with fail
 go_ret
 exact ⟨ret_bool (by rw [HF2.out]), HW2.out⟩

set_option maxRecDepth 100000 in
set_option maxHeartbeats 4000000 in
theorem eqfv_any (a : Option Addr) (n c : Nat) (b : Option Addr) (m q : Nat) (xs ys : List Ver) (w : World) (hx : VAt w a n xs) (hy : VAt w b m ys) :
  Calls Tryz.prog 69 #[.slice a n c, .slice b m q, .func (.func 70) #[] #[]] w (RetB (.bool (decide (xs = ys))) w) := by
 have n1 := hx.len.2
 have n2 := hy.len.2
 have hlx := hx.len.1
 have hly := hy.len.1
 obtain ⟨r, hr⟩ : ∃ r, decide (xs = ys) = r := ⟨_, rfl⟩
 rw [hr]
 have HR := Lib.hid hr
 clear hr
 by_cases hnm : n = m
 rotate_left
 ·
  have HF : Hid (r = false) := Lib.hid (by rw [← HR.out]; exact decide_eq_false (by rintro rfl; omega))
  have hd : ((n : Int) != (m : Int)) = true := by simpa using fun h => hnm (by omega)
  clear hx hy hnm HR
  go_enter Tryz.func69, Tryz.ntmps69
  go_wp2_with fail
  go_ret
  exact ⟨ret_bool (by rw [HF.out]), Below.refl _ _⟩
 subst hnm
 have HX := Lib.hid hx
 have HY := Lib.hid hy
 have hd : ((n : Int) != (n : Int)) = false := by simp
 clear hx hy
 go_enter Tryz.func69, Tryz.ntmps69
 go_wp2_with fail
 go_loopw [17] (fun i wr => ∃ j : Nat, j ≤ n ∧ i = .int .i64 j ∧ Hid (xs.take j = ys.take j) ∧ Hid (Below w.heap.size w wr)) (fun i _ => n - (intOf i).toNat)
 case atStart => exact ⟨0, by omega, rfl, Lib.hid rfl, Lib.hid (Below.refl _ _)⟩
 case round =>
  obtain ⟨j, hj, rfl, HT, HB⟩ := hrel
  by_cases hlt : j < n
  ·
   obtain ⟨b1, o1, x, p, rfl, gx, z1, x0, x1, x2, sp⟩ := VAt.cells (HX.out.below HB.out) hlt
   obtain ⟨b2, o2, y, s, rfl, gy, z2, y0, y1, y2, ss⟩ := VAt.cells (HY.out.below HB.out) hlt
   have q1 : (j : Int) < n := by omega
   have q2 : (0 : Int) ≤ j := by omega
   have G1 := Lib.hid gx
   have G2 := Lib.hid gy
   obtain ⟨pa, pn, pc⟩ := p
   obtain ⟨qa, qn, qc⟩ := s
   have EC := Lib.hid (fun W (h : Below wr.heap.size wr W) => eqv_any x y pa pn pc qa qn qc W (sp.2.below h) (ss.2.below h))
   clear sp ss
   have HA := Lib.hid (BX.mk0 (vs := #[.int .i64 x.1, .int .i64 x.2.1, .slice pa pn pc]) (T := 24) wr)
   clear gx gy hlt
   go_upto_region 6 with fail
   generalize wr.alloc (.cells #[.int .i64 x.1, .int .i64 x.2.1, .slice pa pn pc] 24) = wa at *
   obtain ⟨R, hR⟩ : ∃ R, R = wr.heap.size := ⟨_, rfl⟩
   rw [← hR] at HA ⊢
   clear hR
   have y0 := below_cell9 HA.out.bl y0
   have y1 := below_cell9 HA.out.bl y1
   have y2 := below_cell9 HA.out.bl y2
   have HB2 := Lib.hid (BX.mk0 (vs := #[.int .i64 y.1, .int .i64 y.2.1, .slice qa qn qc]) (T := 24) wa)
   go_upto_region 7 with fail
   generalize wa.alloc (.cells #[.int .i64 y.1, .int .i64 y.2.1, .slice qa qn qc] 24) = wb at *
   obtain ⟨R2, hR2⟩ : ∃ R2, R2 = wa.heap.size := ⟨_, rfl⟩
   rw [← hR2] at HB2 ⊢
   clear hR2
   have HA := Lib.hid (HA.out.next HB2.out.bl)
   have HW := Lib.hid (below3 HB.out HA.out.bl)
   clear y0 y1 y2 x0 x1 x2
   have a0 := HA.out.cell 0
   have a1 := HA.out.cell 1
   have a2 := HA.out.cell 2
   have b0 := HB2.out.cell 0
   have b1 := HB2.out.cell 1
   have b2 := HB2.out.cell 2
   simp only [List.getElem?_toArray, List.getElem?_cons_zero, List.getElem?_cons_succ] at a0 a1 a2 b0 b1 b2
   have EC1 := Lib.hid (EC.out _ HA.out.bl)
   obtain ⟨dd, hdd⟩ : ∃ dd, decide (x = y) = dd := ⟨_, rfl⟩
   rw [hdd] at EC1
   go_wp2_with fail
   refine EC1.out.mono ?_
   rintro en w2 ⟨rfl, hb2⟩
   have HW2 := Lib.hid (below3 HW.out hb2)
   clear hb2 EC EC1
   cases dd
   ·
    have HF : Hid (r = false) := Lib.hid (by rw [← HR.out]; exact decide_eq_false (neq_at G1.out G2.out (of_decide_eq_false hdd)))
    clear hdd
    go_wp2_with fail
    go_ret
    exact ⟨ret_bool (by rw [HF.out]), HW2.out⟩
   ·
    have HT2 : Hid (xs.take (j + 1) = ys.take (j + 1)) := Lib.hid (take_same HT.out G1.out (by rw [of_decide_eq_true hdd]; exact G2.out))
    clear hdd
    go_wp2_with fail
    go_roundw
    case rel => exact ⟨j + 1, by omega, by go_num, HT2, HW2⟩
    case measure => simp [intOf]; omega
  ·
   obtain rfl : n = j := by omega
   have HF : Hid (r = true) := Lib.hid (by
    rw [← HR.out]
    refine decide_eq_true ?_
    have := HT.out
    rw [List.take_of_length_le (by omega), List.take_of_length_le (by omega)] at this
    exact this)
   go_wp2_with fail
   go_ret
   exact ⟨ret_bool (by rw [HF.out]), HB.out⟩
end Go.Proofs.YtihbpggbpapcfaaGreatDoor

namespace Go.Proofs.YtihbpggbpapcfaaGreatDoor
open Go.RowKit

set_option maxRecDepth 100000 in
set_option maxHeartbeats 8000000 in
theorem after_any (va : Value) (l : Lg) (m : Int) (k : Nat) (w : World) (ha : LogR w va l) (hT : Tz w) (hk : k ≤ l.2.2.1.length) (hn : l.2.2.1.length ≤ 1048576) (hfv : ∀ v ∈ l.2.2.1, frmV v = true ∧ (encV v).length ≤ 1048576) : Calls Tryz.prog 81 #[va, .int .i64 k, .int .i64 m] w (fun e w' => ∃ v, e = .returned v ∧ SRow w' w.heap.size v (aftS m (l.2.2.1.take k)) ∧ Below w.heap.size w w') := by
 obtain ⟨⟨da, dn, dc⟩, ⟨va, vn, vc⟩, ⟨sa, sn, sc⟩, rfl, hd, hv, hs⟩ := ha
 obtain ⟨l1, l2, l3, l4⟩ := l
 simp only at hd hv hs hk hn hfv ⊢
 have hlv : l3.length = vn := hv.2.len.1
 have hvc : vn ≤ vc := hv.1
 rw [hlv] at hk hn
 have HA := Lib.hid (BX.mk0 (vs := #[.slice da dn dc, .int .i64 l2, .slice va vn vc, .slice sa sn sc]) (T := 55) w)
 have HVV := Lib.hid hv
 have HLF := Lib.hid hfv
 have HT0 := Lib.hid hT
 clear hd hv hs hfv hT
 show Calls _ _ #[.agg #[.slice da dn dc, .int .i64 l2, .slice va vn vc, .slice sa sn sc], .int .i64 k, .int .i64 m] w _
 go_enter Tryz.func81, Tryz.ntmps81
 go_upto_region 2 with fail
 generalize w.alloc (.cells #[.slice da dn dc, .int .i64 l2, .slice va vn vc, .slice sa sn sc] 55) = wa at *
 obtain ⟨R, hR⟩ : ∃ R, R = w.heap.size := ⟨_, rfl⟩
 rw [← hR] at HA ⊢
 clear hR
 obtain ⟨⟨g0, g1, g2, g3⟩, _⟩ := HA.out.four
 have hk1 : (k : Int) ≤ vc := by omega
 have hk0 : (0 : Int) ≤ k := by omega
 go_cut [13, 14, 15] (fun p q r wx => ∃ (A : Option Addr) (c : Nat), p = .slice A k c ∧ q = .int .i64 k ∧ r = .int .i64 0 ∧ wx = wa ∧ (A = va ∨ k = 0))
 case first =>
  cases va with
  | none =>
   have hk00 : k = 0 := by
    obtain ⟨rs, ⟨_, _, h | ⟨_, _, h, _⟩⟩, _⟩ := HVV.out.2
    ·
     have h : vn = 0 := h
     omega
    ·
     cases h
   subst hk00
   go_wp2_with fail
   go_meet
   exact ⟨_, _, rfl, rfl, rfl, rfl, Or.inl rfl⟩
  | some ad =>
   go_wp2_with fail
   go_meet
   exact ⟨_, _, rfl, rfl, rfl, rfl, Or.inl rfl⟩
 case rest =>
  obtain ⟨A, cA, rfl, rfl, rfl, hwc, hA⟩ := hcut
  subst hwc
  clear g0 g1 g2 g3
  go_wp2_with fail
  go_loopw [7, 15] (fun v i wr => ∃ j : Nat, j ≤ k ∧ i = .int .i64 j ∧ Hid (SRow wr w.heap.size v (aftS m (l3.take j))) ∧ Hid (BX w wr R #[.slice da dn dc, .int .i64 l2, .slice va vn vc, .slice sa sn sc] 55)) (fun _ i _ => k - (intOf i).toNat)
  case atStart => exact ⟨0, by omega, rfl, Lib.hid (KRow.nil _ _ _ _ _), HA⟩
  case round =>
   clear HA
   obtain ⟨j, hj, rfl, HR, HA⟩ := hrel
   by_cases hlt : j < k
   ·
    obtain rfl : A = va := hA.resolve_right (by omega)
    clear hA
    obtain ⟨b1, o1, x, r, rfl, gx, z1, x0, x1, x2, hh⟩ := VAt.cells (HVV.out.2.below HA.out.bl) (j := j) (show j < vn by omega)
    have HT := Lib.hid (aft_take (n := m) gx)
    obtain ⟨hfr, hel⟩ := HLF.out x (List.mem_of_getElem? gx)
    have hec := enc_cnt hel
    obtain ⟨xa, xc, rfl, hxc, hxs⟩ := SRow.sat HR.out
    have hsok := aft_sok m (l3.take j)
    have q1 : (j : Int) < k := by omega
    have q2 : (0 : Int) ≤ (j : Int) := by omega
    obtain ⟨ra, rn, rc⟩ := r
    have hh2 : HAt wr ra rn x.2.2 := hh.2
    have hrn : rn ≤ 1000000 := by have := hh2.len.1; have := hec.1; omega
    have AP := Lib.hid (fun W (h : Below wr.heap.size wr W) => apply_any xa (aftS m (l3.take j)).length xc (aftS m (l3.take j)) ra rn rc x.2.2 m W (hxs.below h) hsok (hh2.below h) (fun c hc => (frm_vok hfr c hc).2.2) hrn hec.2 (HT0.out.below (below3 HA.out.bl h)) hxc)
    have HC := Lib.hid (BX.mk0 (vs := #[.int .i64 x.1, .int .i64 x.2.1, .slice ra rn rc]) (T := 24) wr)
    clear hh hh2 hfr hel hec hxs hsok gx hrn
    generalize aftS m (l3.take j) = L at *
    go_upto_region 5 with fail
    generalize wr.alloc (.cells #[.int .i64 x.1, .int .i64 x.2.1, .slice ra rn rc] 24) = w4 at *
    obtain ⟨C, hC⟩ : ∃ C, C = wr.heap.size := ⟨_, rfl⟩
    rw [← hC] at HC ⊢
    clear hC
    have q9 := HC.out.cell 2
    simp only [List.getElem?_toArray, List.getElem?_cons_zero, List.getElem?_cons_succ] at q9
    go_wp2_with fail
    refine (AP.out _ HC.out.bl).mono ?_
    rintro en w2 ⟨v2, rfl, hr2, hb2⟩
    have HR2 : Hid (SRow w2 w.heap.size v2 (aftS m (l3.take (j + 1)))) := Lib.hid (by rw [HT.out]; exact row_base hr2 (Nat.le_trans HA.out.bl.size HC.out.bl.size))
    have HA2 := Lib.hid (HA.out.next (below3 HC.out.bl hb2))
    clear hr2 hb2 AP
    go_wp2_with fail
    go_roundw
    case rel => exact ⟨j + 1, by omega, by go_num, HR2, HA2⟩
    case measure => simp [intOf]; omega
   ·
    obtain rfl : k = j := by omega
    go_wp2_with fail
    go_ret
    exact ⟨_, rfl, HR.out, HA.out.bl⟩
end Go.Proofs.YtihbpggbpapcfaaGreatDoor

namespace Go.Proofs.YtihbpggbpapcfaaGreatDoor
open Go.RowKit

def LogP (w : World) (v : Value) (l : Lg) : Prop := ∃ d vs ss : Sl, v = logV d l.2.1 vs ss ∧ BV w d l.1 ∧ NilOk d ∧ VV w vs l.2.2.1 ∧ SV w ss l.2.2.2
theorem LogP.below {w w' : World} {v : Value} {l : Lg} (h : LogP w v l) (hb : Below w.heap.size w w') : LogP w' v l := by
 obtain ⟨d, vs, ss, h1, h2, h0, h3, h4⟩ := h
 exact ⟨d, vs, ss, h1, h2.below hb, h0, h3.below hb, h4.below hb⟩
theorem LogP.logR {w : World} {v : Value} {l : Lg} (h : LogP w v l) : LogR w v l := by
 obtain ⟨d, vs, ss, h1, h2, _, h3, h4⟩ := h
 exact ⟨d, vs, ss, h1, h2, h3, h4⟩
def VldP : Prop := ∀ (va : Value) (l : Lg) (m : Int) (w : World), LogP w va l → Env w → Calls Tryz.prog 30 #[va, .int .i64 m] w (RetB (.bool (vldL m l)) w)
end Go.Proofs.YtihbpggbpapcfaaGreatDoor

namespace Go.Proofs.YtihbpggbpapcfaaGreatDoor
open Go.RowKit

theorem frm_small {v : Ver} (h : frmV v = true) : ∀ c ∈ v.2.2, c.2.1.length * 64 ≤ 140737488355328 ∧ c.2.2.length * 64 ≤ 140737488355328 := fun c hc => by
 obtain ⟨_, ⟨_, h1⟩, _, h2⟩ := chgOk_parts ((frm_parts h).2.2 c hc)
 have p := (vld_parts h1).2.1
 have q := (vld_parts h2).2.1
 constructor <;> omega

set_option maxRecDepth 100000 in
set_option maxHeartbeats 4000000 in
theorem shown_of (HVL : VldP) (va : Value) (l : Lg) (m : Int) (w : World) (ha : LogP w va l) (hE : Env w) : Calls Tryz.prog 42 #[va, .int .i64 m] w (ShwR (shwS m l) w) := by
 have HV := Lib.hid (fun W (h : Below w.heap.size w W) => HVL va l m W (ha.below h) (hE.below h))
 have AF := Lib.hid (fun W (h : Below w.heap.size w W) (kn : Nat) h1 h2 h3 => after_any va l m kn W (ha.below h).logR (hE.below h).tz h1 h2 h3)
 have HEE := Lib.hid hE
 obtain ⟨⟨da, dn, dc⟩, ⟨va, vn, vc⟩, ⟨sa, sn, sc⟩, rfl, hd, _, hv, hs⟩ := ha
 obtain ⟨l1, l2, l3, l4⟩ := l
 simp only at hd hv hs
 have hlv : l3.length = vn := hv.2.len.1
 have hn1 : vn ≤ 9223372036854775807 := hv.2.len.2
 have HF : Hid (shwS m (l1, l2, l3, l4) = if vldL m (l1, l2, l3, l4) = false then (1, 0, []) else (0, shwN l2 0 l3, aftS m (l3.take (shwN l2 0 l3)))) := Lib.hid rfl
 have HLK : Hid (vldL m (l1, l2, l3, l4) = true → _) := Lib.hid (fun h => vld_log h)
 have HA := Lib.hid (BX.mk0 (vs := #[.slice da dn dc, .int .i64 l2, .slice va vn vc, .slice sa sn sc]) (T := 55) w)
 have HVV := Lib.hid hv
 clear hd hv hs hE
 change Hid (∀ W, Below w.heap.size w W → Calls _ _ #[.agg #[.slice da dn dc, .int .i64 l2, .slice va vn vc, .slice sa sn sc], .int .i64 m] W _) at HV
 change Hid (∀ W, Below w.heap.size w W → ∀ kn : Nat, kn ≤ l3.length → l3.length ≤ 1048576 → (∀ v ∈ l3, frmV v = true ∧ (encV v).length ≤ 1048576) → Calls _ _ #[.agg #[.slice da dn dc, .int .i64 l2, .slice va vn vc, .slice sa sn sc], .int .i64 kn, .int .i64 m] W _) at AF
 show Calls _ _ #[.agg #[.slice da dn dc, .int .i64 l2, .slice va vn vc, .slice sa sn sc], .int .i64 m] w _
 obtain ⟨q, hq⟩ : ∃ q, vldL m (l1, l2, l3, l4) = q := ⟨_, rfl⟩
 rw [hq] at HV HF
 have HVT := Lib.hid hq
 clear hq
 generalize shwS m (l1, l2, l3, l4) = pr at *
 go_enter Tryz.func42, Tryz.ntmps42
 go_upto_region 1 with fail
 generalize w.alloc (.cells #[.slice da dn dc, .int .i64 l2, .slice va vn vc, .slice sa sn sc] 55) = wa at *
 obtain ⟨R, hR⟩ : ∃ R, R = w.heap.size := ⟨_, rfl⟩
 rw [← hR] at HA ⊢
 clear hR
 obtain ⟨⟨g0, g1, g2, g3⟩, _⟩ := HA.out.four
 go_wp2_with fail
 refine (HV.out _ HA.out.bl).mono ?_
 rintro en w1 ⟨rfl, hb1⟩
 have HA := Lib.hid (HA.out.next hb1)
 clear hb1 HV g0 g1 g2 g3
 obtain ⟨⟨g0, g1, g2, g3⟩, _⟩ := HA.out.four
 cases q
 ·
  have HF2 : Hid (pr = (1, 0, [])) := Lib.hid (by rw [HF.out, if_pos rfl])
  go_wp2_with fail
  refine bodyPost_ret (v := .tuple #[.int .i64 0, .slice none 0 0, .int .i64 1]) (by simp [results, Tryz.results42, go_sem]) rfl ?_
  exact ShwR.mk HF2.out (World.ownsRow_nil _ _ _ _) HA.out.bl
 have HF1 : Hid (pr = (0, shwN l2 0 l3, aftS m (l3.take (shwN l2 0 l3)))) := Lib.hid (by rw [HF.out, if_neg (by simp)])
 obtain ⟨_, hl1, ⟨hl20, hl21⟩, HLF, _, hvl⟩ := HLK.out HVT.out
 have HLF := Lib.hid HLF
 have hvl8 : vn ≤ 1048576 := by omega
 have hl28 : l2 ≤ 1048576 := by omega
 clear hvl HLK hl21 hl1
 go_wp2_with fail
 go_loopw [7, 8, 20] (fun p q i wr => ∃ (j at_ : Nat), j ≤ vn ∧ p = .int .i64 j ∧ q = .int .i64 at_ ∧ i = .int .i64 j ∧ at_ ≤ j * 1048576 ∧ Hid (shwN l2 0 l3 = shwN l2 at_ (l3.drop j) + j) ∧ Hid (BX w wr R #[.slice da dn dc, .int .i64 l2, .slice va vn vc, .slice sa sn sc] 55)) (fun p _ _ _ => vn - (intOf p).toNat)
 case atStart => exact ⟨0, 0, by omega, rfl, rfl, rfl, by omega, Lib.hid rfl, HA⟩
 case round =>
  clear HA g0 g1 g2 g3
  obtain ⟨j, at_, hj, rfl, rfl, rfl, hat, HSJ0, HA⟩ := hrel
  by_cases hlt : j < vn
  ·
   obtain ⟨⟨g0, g1, g2, g3⟩, _⟩ := HA.out.four
   obtain ⟨b1, o1, x, r, rfl, gx, z1, x0, x1, x2, hh⟩ := VAt.cells (HVV.out.2.below HA.out.bl) (j := j) (show j < vn by omega)
   obtain ⟨hfr, hel⟩ := HLF.out x (List.mem_of_getElem? gx)
   have HM := Lib.hid (fun h => shw_more (syn := l2) (at_ := at_) gx hfr h)
   have HZ := Lib.hid (fun h => shw_stop (syn := l2) (at_ := at_) gx hfr h)
   obtain ⟨ra, rn, rc⟩ := r
   have EN := Lib.hid (fun W (h : Below wr.heap.size wr W) => encode_any x (ra, rn, rc) W (hh.below h) (frm_vok hfr) (HEE.out.below (below3 HA.out.bl h)) (by have := (enc_cnt hel).1; omega) (frm_small hfr) (fun _ => by omega))
   rw [if_pos hfr] at EN
   have q2 : (0 : Int) ≤ (j : Int) := by omega
   have q3 : (j : Int) < vn := by omega
   change Hid (∀ W, Below wr.heap.size wr W → Calls _ _ #[.agg #[.int .i64 x.1, .int .i64 x.2.1, .slice ra rn rc]] W _) at EN
   have HC := Lib.hid (BX.mk0 (vs := #[.int .i64 x.1, .int .i64 x.2.1, .slice ra rn rc]) (T := 24) wr)
   clear hh hfr gx hlt
   generalize encV x = E at *
   go_upto_region 7 with fail
   generalize wr.alloc (.cells #[.int .i64 x.1, .int .i64 x.2.1, .slice ra rn rc] 24) = w4 at *
   obtain ⟨C, hC⟩ : ∃ C, C = wr.heap.size := ⟨_, rfl⟩
   rw [← hC] at HC ⊢
   clear hC x0 x1 x2
   have q7 := HC.out.cell 0
   have q8 := HC.out.cell 1
   have q9 := HC.out.cell 2
   simp only [List.getElem?_toArray, List.getElem?_cons_zero, List.getElem?_cons_succ] at q7 q8 q9
   go_wp2_with fail
   refine (EN.out _ HC.out.bl).mono ?_
   rintro en w2 ⟨⟨ea, en, ec⟩, rfl, hbe, hb2⟩
   have hen : E.length = en := hbe.2.1
   have HA2 := Lib.hid (HA.out.next (below3 HC.out.bl hb2))
   clear g0 g1 g2 g3 q7 q8 q9 hbe hb2 HA EN HC
   obtain ⟨⟨g0, g1, g2, g3⟩, _⟩ := HA2.out.four
   have hw8 : IntKind.i64.wrap ((at_ : Int) + (en : Int)) = (at_ : Int) + (en : Int) := IntWalk.i64_in _ (by omega)
   by_cases hst : l2 < (at_ : Int) + (en : Int)
   ·
    have HSJ : Hid (shwN l2 0 l3 = j) := Lib.hid (by rw [HSJ0.out, HZ.out (by rw [hen]; omega)]; omega)
    clear HZ HM HSJ0 g0 g1 g2 g3
    have HF5 : Hid (pr = (0, j, aftS m (l3.take j))) := Lib.hid (by rw [HF1.out, HSJ.out])
    have ST9 := Lib.hid (AF.out w2 HA2.out.bl j (by omega) (by omega) HLF.out)
    obtain ⟨⟨g0, g1, g2, g3⟩, _⟩ := HA2.out.four
    clear AF HF HF1
    go_wp2_with fail
    refine ST9.out.mono ?_
    rintro en w9 ⟨v9, rfl, hr9, hb9⟩
    have HA9 := Lib.hid (HA2.out.next hb9)
    have HR9 := Lib.hid (row_base hr9 HA2.out.bl.size)
    clear hr9 hb9
    go_wp2_with fail
    refine bodyPost_ret (v := .tuple #[.int .i64 j, v9, .int .i64 0]) (by simp [results, Tryz.results42, go_sem]) rfl ?_
    exact ShwR.mk HF5.out HR9.out HA9.out.bl
   ·
    have HSN : Hid (shwN l2 0 l3 = shwN l2 (at_ + en) (l3.drop (j + 1)) + (j + 1)) := Lib.hid (by
     have h := HM.out (by rw [hen]; omega)
     rw [hen] at h
     rw [HSJ0.out, h]; omega)
    have hst2 : (at_ : Int) + (en : Int) ≤ l2 := by omega
    clear HZ HM HSJ0 hst
    go_wp2_with fail
    go_roundw
    case rel => exact ⟨j + 1, at_ + en, by omega, by go_num, by go_num, by go_num, by omega, HSN, HA2⟩
    case measure => simp [intOf]; omega
  ·
   have HSJ : Hid (shwN l2 0 l3 = j) := Lib.hid (by rw [HSJ0.out, List.drop_eq_nil_of_le (by omega)]; simp [shwN])
   have q3 : (vn : Int) ≤ j := by omega
   clear HSJ0 hlt
   have HF5 : Hid (pr = (0, j, aftS m (l3.take j))) := Lib.hid (by rw [HF1.out, HSJ.out])
   have ST9 := Lib.hid (AF.out wr HA.out.bl j (by omega) (by omega) HLF.out)
   obtain ⟨⟨g0, g1, g2, g3⟩, _⟩ := HA.out.four
   clear AF HF HF1
   go_wp2_with fail
   refine ST9.out.mono ?_
   rintro en w9 ⟨v9, rfl, hr9, hb9⟩
   have HA9 := Lib.hid (HA.out.next hb9)
   have HR9 := Lib.hid (row_base hr9 HA.out.bl.size)
   clear hr9 hb9
   go_wp2_with fail
   refine bodyPost_ret (v := .tuple #[.int .i64 j, v9, .int .i64 0]) (by simp [results, Tryz.results42, go_sem]) rfl ?_
   exact ShwR.mk HF5.out HR9.out HA9.out.bl
end Go.Proofs.YtihbpggbpapcfaaGreatDoor
