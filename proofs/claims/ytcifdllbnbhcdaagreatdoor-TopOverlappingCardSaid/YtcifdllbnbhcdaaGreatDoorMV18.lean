/- Texts V89, V85, V87, V90, joined: walks and laws. -/
import Derived.Test.YtcifdllbnbhcdaaGreatDoorMV12
import Derived.Test.YtcifdllbnbhcdaaGreatDoorMV14
import Derived.Test.YtcifdllbnbhcdaaGreatDoorMV17
set_option linter.unusedSimpArgs false
set_option linter.unusedVariables false
namespace Go.Proofs.YtcifdllbnbhcdaaGreatDoor
open Go.RowKit
theorem take_same {α : Type} {xs ys : List α} {j : Nat} {x : α} (h : xs.take j = ys.take j) (hx : xs[j]? = some x) (hy : ys[j]? = some x) : xs.take (j + 1) = ys.take (j + 1) := by
  rw [List.take_add_one, List.take_add_one, hx, hy, h]
theorem neq_at {α : Type} {xs ys : List α} {j : Nat} {x y : α} (hx : xs[j]? = some x) (hy : ys[j]? = some y) (h : x ≠ y) : xs ≠ ys := fun e => h (by rw [e] at hx; exact Option.some.inj (hx.symm.trans hy))
set_option maxRecDepth 100000 in
set_option maxHeartbeats 4000000 in
theorem eqfc_any (a : Option Addr) (n c : Nat) (b : Option Addr) (m q : Nat) (xs ys : List Chg) (w : World) (hx : HAt w a n xs) (hy : HAt w b m ys) :
    Calls Tryz.prog 265 #[.slice a n c, .slice b m q, .func (.func 266) #[] #[]] w (RetB (.bool (decide (xs = ys))) w) := by
  have n1 := hx.len.2
  have n2 := hy.len.2
  have hlx := hx.len.1
  have hly := hy.len.1
  obtain ⟨r, hr⟩ : ∃ r, decide (xs = ys) = r := ⟨_, rfl⟩
  rw [hr]
  have HR := Lib.hid hr
  clear hr
  by_cases hnm : n = m
  rotate_left
  · have HF : Hid (r = false) := Lib.hid (by rw [← HR.out]; exact decide_eq_false (by rintro rfl; omega))
    have hd : ((n : Int) != (m : Int)) = true := by simpa using fun h => hnm (by omega)
    clear hx hy hnm HR
    go_enter Tryz.func265, Tryz.ntmps265
    go_wp2_with fail
    go_ret
    exact ⟨ret_bool (by rw [HF.out]), Below.refl _ _⟩
  subst hnm
  have HX := Lib.hid hx
  have HY := Lib.hid hy
  have hd : ((n : Int) != (n : Int)) = false := by simp
  clear hx hy
  go_enter Tryz.func265, Tryz.ntmps265
  go_wp2_with fail
  go_loopw [17] (fun i wr => ∃ j : Nat, j ≤ n ∧ i = .int .i64 j ∧ Hid (xs.take j = ys.take j) ∧ Hid (Below w.heap.size w wr)) (fun i _ => n - (intOf i).toNat)
  case atStart => exact ⟨0, by omega, rfl, Lib.hid rfl, Lib.hid (Below.refl _ _)⟩
  case round =>
    obtain ⟨j, hj, rfl, HT, HB⟩ := hrel
    by_cases hlt : j < n
    · obtain ⟨b1, o1, x, p, p2, rfl, gx, z1, x0, x1, x2, sp, sp2⟩ := HAt.cells (HX.out.below HB.out) hlt
      obtain ⟨b2, o2, y, s, s2, rfl, gy, z2, y0, y1, y2, ss, ss2⟩ := HAt.cells (HY.out.below HB.out) hlt
      have q1 : (j : Int) < n := by omega
      have q2 : (0 : Int) ≤ j := by omega
      have G1 := Lib.hid gx
      have G2 := Lib.hid gy
      obtain ⟨pa, pn, pc⟩ := p
      obtain ⟨qa, qn, qc⟩ := p2
      obtain ⟨ra, rn, rc⟩ := s
      obtain ⟨ua, un, uc⟩ := s2
      have EC := Lib.hid (fun W (h : Below wr.heap.size wr W) => eqc_any x y pa pn pc qa qn qc ra rn rc ua un uc W (sp.2.below h) (sp2.2.below h) (ss.2.below h) (ss2.2.below h))
      clear sp sp2 ss ss2
      have HA := Lib.hid (BX.mk0 (vs := #[.string (arr x.1), .slice pa pn pc, .slice qa qn qc]) (T := 161) wr)
      clear gx gy hlt
      go_upto_region 6 with fail
      generalize wr.alloc (.cells #[.string (arr x.1), .slice pa pn pc, .slice qa qn qc] 161) = wa at *
      obtain ⟨R, hR⟩ : ∃ R, R = wr.heap.size := ⟨_, rfl⟩
      rw [← hR] at HA ⊢
      clear hR
      have y0 := below_cell9 HA.out.bl y0
      have y1 := below_cell9 HA.out.bl y1
      have y2 := below_cell9 HA.out.bl y2
      have HB2 := Lib.hid (BX.mk0 (vs := #[.string (arr y.1), .slice ra rn rc, .slice ua un uc]) (T := 161) wa)
      go_upto_region 7 with fail
      generalize wa.alloc (.cells #[.string (arr y.1), .slice ra rn rc, .slice ua un uc] 161) = wb at *
      obtain ⟨R2, hR2⟩ : ∃ R2, R2 = wa.heap.size := ⟨_, rfl⟩
      rw [← hR2] at HB2 ⊢
      clear hR2
      have HA := Lib.hid (HA.out.next HB2.out.bl)
      have HW := Lib.hid (below3 HB.out HA.out.bl)
      clear y0 y1 y2 x0 x1 x2
      have a0 := HA.out.cell 0
      have a1 := HA.out.cell 1
      have a2 := HA.out.cell 2
      have b0 := HB2.out.cell 0
      have b1 := HB2.out.cell 1
      have b2 := HB2.out.cell 2
      simp only [List.getElem?_toArray, List.getElem?_cons_zero, List.getElem?_cons_succ] at a0 a1 a2 b0 b1 b2
      have EC1 := Lib.hid (EC.out _ HA.out.bl)
      obtain ⟨dd, hdd⟩ : ∃ dd, decide (x = y) = dd := ⟨_, rfl⟩
      rw [hdd] at EC1
      go_wp2_with fail
      refine EC1.out.mono ?_
      rintro en w2 ⟨rfl, hb2⟩
      have HW2 := Lib.hid (below3 HW.out hb2)
      clear hb2 EC EC1
      cases dd
      · have HF : Hid (r = false) := Lib.hid (by rw [← HR.out]; exact decide_eq_false (neq_at G1.out G2.out (of_decide_eq_false hdd)))
        clear hdd
        go_wp2_with fail
        go_ret
        exact ⟨ret_bool (by rw [HF.out]), HW2.out⟩
      · have HT2 : Hid (xs.take (j + 1) = ys.take (j + 1)) := Lib.hid (take_same HT.out G1.out (by rw [of_decide_eq_true hdd]; exact G2.out))
        clear hdd
        go_wp2_with fail
        go_roundw
        case rel => exact ⟨j + 1, by omega, by go_num, HT2, HW2⟩
        case measure => simp [intOf]; omega
    · obtain rfl : n = j := by omega
      have HF : Hid (r = true) := Lib.hid (by
        rw [← HR.out]
        refine decide_eq_true ?_
        have := HT.out
        rw [List.take_of_length_le (by omega), List.take_of_length_le (by omega)] at this
        exact this)
      go_wp2_with fail
      go_ret
      exact ⟨ret_bool (by rw [HF.out]), HB.out⟩
set_option maxRecDepth 100000 in
set_option maxHeartbeats 4000000 in
theorem eqv_any (x y : Ver) (pa : Option Addr) (pn pc : Nat) (qa : Option Addr) (qn qc : Nat) (w : World) (hp : HAt w pa pn x.2.2) (hq : HAt w qa qn y.2.2) :
    Calls Tryz.prog 185 #[.agg #[.int .i64 x.1, .int .i64 x.2.1, .slice pa pn pc], .agg #[.int .i64 y.1, .int .i64 y.2.1, .slice qa qn qc]] w (RetB (.bool (decide (x = y))) w) := by
  obtain ⟨x1, x2, x3⟩ := x
  obtain ⟨y1, y2, y3⟩ := y
  simp only at hp hq ⊢
  have HF : Hid (decide ((x1, x2, x3) = (y1, y2, y3)) = (decide (x1 = y1) && (decide (x2 = y2) && decide (x3 = y3)))) := Lib.hid (by
    by_cases h1 : x1 = y1 <;> by_cases h2 : x2 = y2 <;> by_cases h3 : x3 = y3 <;> simp [h1, h2, h3])
  have S1 := Lib.hid (fun W (h : Below w.heap.size w W) => eqfc_any pa pn pc qa qn qc x3 y3 W (hp.below h) (hq.below h))
  clear hp hq
  generalize decide ((x1, x2, x3) = (y1, y2, y3)) = r at *
  have HA := Lib.hid (BX.mk0 (vs := #[.int .i64 x1, .int .i64 x2, .slice pa pn pc]) (T := 157) w)
  go_enter Tryz.func185, Tryz.ntmps185
  go_upto_region 1 with fail
  have hsa : (w.alloc (.cells #[.int .i64 x1, .int .i64 x2, .slice pa pn pc] 157)).heap.size = w.heap.size + 1 := by simp
  generalize w.alloc (.cells #[.int .i64 x1, .int .i64 x2, .slice pa pn pc] 157) = wa at *
  obtain ⟨R, hR⟩ : ∃ R, R = w.heap.size := ⟨_, rfl⟩
  rw [← hR] at HA hsa ⊢
  clear hR
  have HB := Lib.hid (BX.mk0 (vs := #[.int .i64 y1, .int .i64 y2, .slice qa qn qc]) (T := 157) wa)
  rw [hsa] at HB
  clear hsa
  generalize wa.alloc (.cells #[.int .i64 y1, .int .i64 y2, .slice qa qn qc] 157) = wb at *
  have HA := Lib.hid (HA.out.next HB.out.bl)
  have HW := Lib.hid HA.out.bl
  have a0 := HA.out.cell 0
  have a1 := HA.out.cell 1
  have a2 := HA.out.cell 2
  have b0 := HB.out.cell 0
  have b1 := HB.out.cell 1
  have b2 := HB.out.cell 2
  simp only [List.getElem?_toArray, List.getElem?_cons_zero, List.getElem?_cons_succ] at a0 a1 a2 b0 b1 b2
  by_cases h1 : x1 = y1
  rotate_left
  · have HF2 : Hid (r = false) := Lib.hid (by rw [HF.out, decide_eq_false h1]; rfl)
    have p1 : (x1 == y1) = false := by simpa using h1
    clear h1
    go_wp2_with fail
    go_ret
    exact ⟨ret_bool (by rw [HF2.out]), HW.out⟩
  subst h1
  by_cases h2 : x2 = y2
  rotate_left
  · have HF2 : Hid (r = false) := Lib.hid (by rw [HF.out, decide_eq_true rfl, decide_eq_false h2]; rfl)
    have p1 : (x2 == y2) = false := by simpa using h2
    clear h2
    go_wp2_with fail
    go_ret
    exact ⟨ret_bool (by rw [HF2.out]), HW.out⟩
  subst h2
  have HF2 : Hid (r = decide (x3 = y3)) := Lib.hid (by rw [HF.out, decide_eq_true rfl, decide_eq_true rfl]; rfl)
  clear HF
  go_wp2_with fail
  refine (S1.out _ HW.out).mono ?_
  rintro en w2 ⟨rfl, hb2⟩
  have HW2 := Lib.hid (below3 HW.out hb2)
  clear hb2
  go_wp2_with fail
  go_ret
  exact ⟨ret_bool (by rw [HF2.out]), HW2.out⟩
set_option maxRecDepth 100000 in
set_option maxHeartbeats 4000000 in
theorem eqfv_any (a : Option Addr) (n c : Nat) (b : Option Addr) (m q : Nat) (xs ys : List Ver) (w : World) (hx : VAt w a n xs) (hy : VAt w b m ys) :
    Calls Tryz.prog 184 #[.slice a n c, .slice b m q, .func (.func 185) #[] #[]] w (RetB (.bool (decide (xs = ys))) w) := by
  have n1 := hx.len.2
  have n2 := hy.len.2
  have hlx := hx.len.1
  have hly := hy.len.1
  obtain ⟨r, hr⟩ : ∃ r, decide (xs = ys) = r := ⟨_, rfl⟩
  rw [hr]
  have HR := Lib.hid hr
  clear hr
  by_cases hnm : n = m
  rotate_left
  · have HF : Hid (r = false) := Lib.hid (by rw [← HR.out]; exact decide_eq_false (by rintro rfl; omega))
    have hd : ((n : Int) != (m : Int)) = true := by simpa using fun h => hnm (by omega)
    clear hx hy hnm HR
    go_enter Tryz.func184, Tryz.ntmps184
    go_wp2_with fail
    go_ret
    exact ⟨ret_bool (by rw [HF.out]), Below.refl _ _⟩
  subst hnm
  have HX := Lib.hid hx
  have HY := Lib.hid hy
  have hd : ((n : Int) != (n : Int)) = false := by simp
  clear hx hy
  go_enter Tryz.func184, Tryz.ntmps184
  go_wp2_with fail
  go_loopw [17] (fun i wr => ∃ j : Nat, j ≤ n ∧ i = .int .i64 j ∧ Hid (xs.take j = ys.take j) ∧ Hid (Below w.heap.size w wr)) (fun i _ => n - (intOf i).toNat)
  case atStart => exact ⟨0, by omega, rfl, Lib.hid rfl, Lib.hid (Below.refl _ _)⟩
  case round =>
    obtain ⟨j, hj, rfl, HT, HB⟩ := hrel
    by_cases hlt : j < n
    · obtain ⟨b1, o1, x, p, rfl, gx, z1, x0, x1, x2, sp⟩ := VAt.cells (HX.out.below HB.out) hlt
      obtain ⟨b2, o2, y, s, rfl, gy, z2, y0, y1, y2, ss⟩ := VAt.cells (HY.out.below HB.out) hlt
      have q1 : (j : Int) < n := by omega
      have q2 : (0 : Int) ≤ j := by omega
      have G1 := Lib.hid gx
      have G2 := Lib.hid gy
      obtain ⟨pa, pn, pc⟩ := p
      obtain ⟨qa, qn, qc⟩ := s
      have EC := Lib.hid (fun W (h : Below wr.heap.size wr W) => eqv_any x y pa pn pc qa qn qc W (sp.2.below h) (ss.2.below h))
      clear sp ss
      have HA := Lib.hid (BX.mk0 (vs := #[.int .i64 x.1, .int .i64 x.2.1, .slice pa pn pc]) (T := 157) wr)
      clear gx gy hlt
      go_upto_region 6 with fail
      generalize wr.alloc (.cells #[.int .i64 x.1, .int .i64 x.2.1, .slice pa pn pc] 157) = wa at *
      obtain ⟨R, hR⟩ : ∃ R, R = wr.heap.size := ⟨_, rfl⟩
      rw [← hR] at HA ⊢
      clear hR
      have y0 := below_cell9 HA.out.bl y0
      have y1 := below_cell9 HA.out.bl y1
      have y2 := below_cell9 HA.out.bl y2
      have HB2 := Lib.hid (BX.mk0 (vs := #[.int .i64 y.1, .int .i64 y.2.1, .slice qa qn qc]) (T := 157) wa)
      go_upto_region 7 with fail
      generalize wa.alloc (.cells #[.int .i64 y.1, .int .i64 y.2.1, .slice qa qn qc] 157) = wb at *
      obtain ⟨R2, hR2⟩ : ∃ R2, R2 = wa.heap.size := ⟨_, rfl⟩
      rw [← hR2] at HB2 ⊢
      clear hR2
      have HA := Lib.hid (HA.out.next HB2.out.bl)
      have HW := Lib.hid (below3 HB.out HA.out.bl)
      clear y0 y1 y2 x0 x1 x2
      have a0 := HA.out.cell 0
      have a1 := HA.out.cell 1
      have a2 := HA.out.cell 2
      have b0 := HB2.out.cell 0
      have b1 := HB2.out.cell 1
      have b2 := HB2.out.cell 2
      simp only [List.getElem?_toArray, List.getElem?_cons_zero, List.getElem?_cons_succ] at a0 a1 a2 b0 b1 b2
      have EC1 := Lib.hid (EC.out _ HA.out.bl)
      obtain ⟨dd, hdd⟩ : ∃ dd, decide (x = y) = dd := ⟨_, rfl⟩
      rw [hdd] at EC1
      go_wp2_with fail
      refine EC1.out.mono ?_
      rintro en w2 ⟨rfl, hb2⟩
      have HW2 := Lib.hid (below3 HW.out hb2)
      clear hb2 EC EC1
      cases dd
      · have HF : Hid (r = false) := Lib.hid (by rw [← HR.out]; exact decide_eq_false (neq_at G1.out G2.out (of_decide_eq_false hdd)))
        clear hdd
        go_wp2_with fail
        go_ret
        exact ⟨ret_bool (by rw [HF.out]), HW2.out⟩
      · have HT2 : Hid (xs.take (j + 1) = ys.take (j + 1)) := Lib.hid (take_same HT.out G1.out (by rw [of_decide_eq_true hdd]; exact G2.out))
        clear hdd
        go_wp2_with fail
        go_roundw
        case rel => exact ⟨j + 1, by omega, by go_num, HT2, HW2⟩
        case measure => simp [intOf]; omega
    · obtain rfl : n = j := by omega
      have HF : Hid (r = true) := Lib.hid (by
        rw [← HR.out]
        refine decide_eq_true ?_
        have := HT.out
        rw [List.take_of_length_le (by omega), List.take_of_length_le (by omega)] at this
        exact this)
      go_wp2_with fail
      go_ret
      exact ⟨ret_bool (by rw [HF.out]), HB.out⟩
end Go.Proofs.YtcifdllbnbhcdaaGreatDoor
namespace Go.Proofs.YtcifdllbnbhcdaaGreatDoor
open Go.RowKit
def LogP (w : World) (v : Value) (l : Lg) : Prop := ∃ d vs ss : Sl, v = logV d l.2.1 vs ss ∧ BV w d l.1 ∧ NilOk d ∧ VV w vs l.2.2.1 ∧ SV w ss l.2.2.2
theorem LogP.below {w w' : World} {v : Value} {l : Lg} (h : LogP w v l) (hb : Below w.heap.size w w') : LogP w' v l := by
  obtain ⟨d, vs, ss, h1, h2, h0, h3, h4⟩ := h
  exact ⟨d, vs, ss, h1, h2.below hb, h0, h3.below hb, h4.below hb⟩
theorem LogP.logR {w : World} {v : Value} {l : Lg} (h : LogP w v l) : LogR w v l := by
  obtain ⟨d, vs, ss, h1, h2, _, h3, h4⟩ := h
  exact ⟨d, vs, ss, h1, h2, h3, h4⟩
def VldP : Prop := ∀ (va : Value) (l : Lg) (m : Int) (w : World), LogP w va l → Env w → Calls Tryz.prog 104 #[va, .int .i64 m] w (RetB (.bool (vldL m l)) w)
end Go.Proofs.YtcifdllbnbhcdaaGreatDoor
namespace Go.Proofs.YtcifdllbnbhcdaaGreatDoor
open Go.RowKit
def OpnP : Prop := ∀ (a : Option Addr) (n c : Nat) (b : L8) (m : Int) (w : World), BV w (a, n, c) b → NilOk (a, n, c) → Env w → Calls Tryz.prog 183 #[.slice a n c, .int .i64 m] w (OpnR (opnS m b) w)
end Go.Proofs.YtcifdllbnbhcdaaGreatDoor
namespace Go.Proofs.YtcifdllbnbhcdaaGreatDoor
open Go.RowKit
set_option maxRecDepth 100000 in
set_option maxHeartbeats 4000000 in
theorem valid_of (HOP : OpnP) (va : Value) (l : Lg) (m : Int) (w : World) (ha : LogP w va l) (hE : Env w) : Calls Tryz.prog 104 #[va, .int .i64 m] w (RetB (.bool (vldL m l)) w) := by
  obtain ⟨⟨da, dn, dc⟩, ⟨va, vn, vc⟩, ⟨sa, sn, sc⟩, rfl, hd, hno, hv, hs⟩ := ha
  obtain ⟨l1, l2, l3, l4⟩ := l
  simp only at hd hv hs
  have hln : l1.length = dn := hd.2.1
  have hn1 : dn ≤ 9223372036854775807 := hd.2.2.1
  have HF : Hid (vldL m (l1, l2, l3, l4) = (decide (0 ≤ l2 ∧ l2 ≤ (l1.length : Int)) && decide ((opnS m l1).1 = 0 ∧ (opnS m l1).2.2 = 0) && decide ((opnS m l1).2.1.2.2.1 = l3) && decide ((opnS m l1).2.1.2.2.2 = l4))) := Lib.hid rfl
  have HA := Lib.hid (BX.mk0 (vs := #[.slice da dn dc, .int .i64 l2, .slice va vn vc, .slice sa sn sc]) (T := 68) w)
  have OP := Lib.hid (fun W (h : Below w.heap.size w W) => HOP da dn dc l1 m W (hd.below h) hno (hE.below h))
  have HV := Lib.hid hv
  have HS := Lib.hid hs
  clear hd hv hs hno hE HOP
  generalize vldL m (l1, l2, l3, l4) = q at *
  generalize opnS m l1 = r at *
  obtain ⟨er, ⟨o1, o2, o3, o4⟩, rest⟩ := r
  show Calls _ _ #[.agg #[.slice da dn dc, .int .i64 l2, .slice va vn vc, .slice sa sn sc], .int .i64 m] w _
  go_enter Tryz.func104, Tryz.ntmps104
  go_upto_region 1 with fail
  have hsa : (w.alloc (.cells #[.slice da dn dc, .int .i64 l2, .slice va vn vc, .slice sa sn sc] 68)).heap.size = w.heap.size + 1 := by simp
  generalize w.alloc (.cells #[.slice da dn dc, .int .i64 l2, .slice va vn vc, .slice sa sn sc] 68) = wa at *
  obtain ⟨R, hR⟩ : ∃ R, R = w.heap.size := ⟨_, rfl⟩
  clear hsa
  rw [← hR] at HA ⊢
  clear hR
  have HW := Lib.hid HA.out.bl
  obtain ⟨⟨g0, g1, g2, g3⟩, _⟩ := HA.out.four
  by_cases hc : 0 ≤ l2 ∧ l2 ≤ (dn : Int)
  rotate_left
  · have HF2 : Hid (q = false) := Lib.hid (by rw [HF.out, hln, decide_eq_false hc]; rfl)
    rcases (show l2 < 0 ∨ (0 ≤ l2 ∧ (dn : Int) < l2) by omega) with h | ⟨h, h'⟩
    all_goals
      clear hc
      go_wp2_with fail
      go_ret
      exact ⟨ret_bool (by rw [HF2.out]), HW.out⟩
  have HF2 : Hid (q = (decide (er = 0 ∧ rest = 0) && decide (o3 = l3) && decide (o4 = l4))) := Lib.hid (by rw [HF.out, hln, decide_eq_true hc]; rfl)
  obtain ⟨hc1, hc2⟩ := hc
  clear HF
  go_wp2_with fail
  refine (OP.out _ HW.out).mono ?_
  rintro en w1 ⟨v1, rfl, hl1, hb1⟩
  obtain ⟨⟨xa, xn, xc⟩, ⟨ya, yn, yc⟩, ⟨za, zn, zc⟩, hv1, hx1, hx2, hx3⟩ := hl1.logR
  replace hv1 : v1 = .agg #[.slice xa xn xc, .int .i64 o2, .slice ya yn yc, .slice za zn zc] := hv1
  subst hv1
  simp only at hx1 hx2 hx3
  have HA1 := Lib.hid (HA.out.next hb1)
  have HX := Lib.hid (BX.mk0 (vs := #[.slice xa xn xc, .int .i64 o2, .slice ya yn yc, .slice za zn zc]) (T := 68) w1)
  have S3 := Lib.hid (fun W (h0 : Below w.heap.size w W) (h : Below w1.heap.size w1 W) => eqfv_any ya yn yc va vn vc o3 l3 W (hx2.2.below h) (HV.out.2.below h0))
  have S4 := Lib.hid (fun W (h0 : Below w.heap.size w W) (h : Below w1.heap.size w1 W) => equalq_any za zn zc sa sn sc o4 l4 W (hx3.2.below h) (HS.out.2.below h0))
  clear g0 g1 g2 g3 hx1 hx2 hx3 hb1 OP
  go_upto_region 4 with fail
  generalize w1.alloc (.cells #[.slice xa xn xc, .int .i64 o2, .slice ya yn yc, .slice za zn zc] 68) = wb at *
  obtain ⟨R2, hR2⟩ : ∃ R2, R2 = w1.heap.size := ⟨_, rfl⟩
  rw [← hR2] at HX ⊢
  clear hR2
  have HA2 := Lib.hid (HA1.out.next HX.out.bl)
  have HW2 := Lib.hid HA2.out.bl
  obtain ⟨⟨g0, g1, g2, g3⟩, _⟩ := HA2.out.four
  obtain ⟨⟨k0, k1, k2, k3⟩, _⟩ := HX.out.four
  cases h1 : (er == 0)
  · have HF3 : Hid (q = false) := Lib.hid (by
      rw [beq_eq_false_iff_ne] at h1
      rw [HF2.out, decide_eq_false (fun h => h1 h.1)]; rfl)
    go_wp2_with fail
    go_ret
    exact ⟨ret_bool (by rw [HF3.out]), HW2.out⟩
  cases h2 : (rest == 0)
  · have HF3 : Hid (q = false) := Lib.hid (by
      rw [beq_eq_false_iff_ne] at h2
      rw [HF2.out, decide_eq_false (fun h => h2 h.2)]; rfl)
    go_wp2_with fail
    go_ret
    exact ⟨ret_bool (by rw [HF3.out]), HW2.out⟩
  have HF3 : Hid (q = (decide (o3 = l3) && decide (o4 = l4))) := Lib.hid (by
    rw [beq_iff_eq] at h1 h2
    rw [HF2.out, decide_eq_true ⟨h1, h2⟩]; rfl)
  clear HF2
  generalize decide (o3 = l3) = d3 at *
  generalize decide (o4 = l4) = d4 at *
  go_wp2_with fail
  refine (S3.out _ HW2.out HX.out.bl).mono ?_
  rintro en w2 ⟨rfl, hb2⟩
  have HA3 := Lib.hid (HA2.out.next hb2)
  have HX3 := Lib.hid (HX.out.next hb2)
  have HW3 := Lib.hid HA3.out.bl
  clear g0 g1 g2 g3 k0 k1 k2 k3 hb2
  obtain ⟨⟨g0, g1, g2, g3⟩, _⟩ := HA3.out.four
  obtain ⟨⟨k0, k1, k2, k3⟩, _⟩ := HX3.out.four
  cases d3
  · go_wp2_with fail
    go_ret
    exact ⟨ret_bool (by rw [HF3.out]; rfl), HW3.out⟩
  go_wp2_with fail
  refine (S4.out _ HW3.out HX3.out.bl).mono ?_
  rintro en w3 ⟨rfl, hq3⟩
  have HW4 := Lib.hid (below3 HW3.out (drew_bel hq3))
  clear hq3
  go_wp2_with fail
  go_ret
  exact ⟨ret_bool (by rw [HF3.out]; rfl), HW4.out⟩
theorem vldP_of (h : OpnP) : VldP := fun va l m w ha hE => valid_of h va l m w ha hE
end Go.Proofs.YtcifdllbnbhcdaaGreatDoor
