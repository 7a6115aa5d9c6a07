/- Texts V54, V92, V93, V98, V88, joined: walks and laws. -/
import Derived.Defers
import Derived.Recover
import Derived.Test.YtcifdllbnbhcdaaGreatDoorMV12
import Derived.Test.YtcifdllbnbhcdaaGreatDoorMV14
import Derived.Test.YtcifdllbnbhcdaaGreatDoorMV16
set_option linter.unusedSimpArgs false
set_option linter.unusedVariables false
namespace Go.Proofs.YtcifdllbnbhcdaaGreatDoor
open Go.RowKit
def ShwR (r : Int × Nat × List Ses) (w : World) (e : Ending) (w' : World) : Prop := ∃ v, e = .returned (.tuple #[.int .i64 r.2.1, v, .int .i64 r.1]) ∧ SRow w' w.heap.size v r.2.2 ∧ Below w.heap.size w w'
theorem ShwR.mk {r : Int × Nat × List Ses} {w w' : World} {v : Value} {x : Int} {k : Nat} {ss : List Ses} (h : r = (x, k, ss)) (hr : SRow w' w.heap.size v ss) (hb : Below w.heap.size w w') : ShwR r w (.returned (.tuple #[.int .i64 k, v, .int .i64 x])) w' := by
  subst h; exact ⟨_, rfl, hr, hb⟩
end Go.Proofs.YtcifdllbnbhcdaaGreatDoor
namespace Go.Proofs.YtcifdllbnbhcdaaGreatDoor
open Go.RowKit
def FolR (r : Option (List Ses)) (w : World) (e : Ending) (w' : World) : Prop := ∃ (v : Value) (ok : Bool), e = .returned (.tuple #[v, .bool ok]) ∧ (match r with | some s => ok = true ∧ SRow w' w.heap.size v s | none => ok = false) ∧ Below w.heap.size w w'
theorem FolR.no {r : Option (List Ses)} {w w' : World} {v : Value} (h : r = none) (hb : Below w.heap.size w w') : FolR r w (.returned (.tuple #[v, .bool false])) w' := by
  subst h; exact ⟨v, false, rfl, rfl, hb⟩
theorem FolR.yes {r : Option (List Ses)} {s : List Ses} {w w' : World} {v : Value} (h : r = some s) (hr : SRow w' w.heap.size v s) (hb : Below w.heap.size w w') : FolR r w (.returned (.tuple #[v, .bool true])) w' := by
  subst h; exact ⟨v, true, rfl, ⟨rfl, hr⟩, hb⟩
set_option maxRecDepth 100000 in
set_option maxHeartbeats 8000000 in
theorem follow_any (va : Value) (l : Lg) (v : Ver) (ca : Option Addr) (cn cc : Nat) (m : Int) (w : World) (ha : LogR w va l) (hv : HV w (ca, cn, cc) v.2.2) (hfr : frmV v = true) (hel : (encV v).length ≤ 1048576) (hS : SOk l.2.2.2) (hvl : l.2.2.1.length ≤ 1048576) (hT : Tz w) :
    Calls Tryz.prog 264 #[va, .agg #[.int .i64 v.1, .int .i64 v.2.1, .slice ca cn cc], .int .i64 m] w (FolR (folV m l.2.2.1 l.2.2.2 v) w) := by
  obtain ⟨⟨da, dn, dc⟩, ⟨va, vn, vc⟩, ⟨sa, sn, sc⟩, rfl, hd, hvv, hss⟩ := ha
  obtain ⟨l1, l2, l3, l4⟩ := l
  obtain ⟨num, wk, cs⟩ := v
  simp only at hd hvv hss hS hvl hv ⊢
  have hlv : l3.length = vn := hvv.2.len.1
  rw [hlv] at hvl
  obtain ⟨⟨hn1, hn2, hw1, hw2, _⟩, _⟩ := frm_parts hfr
  have hn1 : 1 ≤ num := hn1
  have hn2 : num ≤ 64 := hn2
  have hw1 : 1 ≤ wk := hw1
  have hw2 : wk ≤ 20 := hw2
  have hec := enc_cnt hel
  have hcn : cs.length = cn := hv.2.len.1
  have hec1 : cs.length ≤ 1000000 := hec.1
  have hec2 : (cs.flatMap (·.2.2)).length ≤ 1000000 := hec.2
  have HCO := Lib.hid (fun c hc => (frm_vok hfr c hc).2.2)
  have HFO : Hid (folV m l3 l4 (num, wk, cs) = if num ≠ l3.length + 1 ∨ m < wk ∨ wk < lastW l3 then none else if (appS m l4 cs).1 ≠ 0 then none else if spcS m wk l4 (appS m l4 cs).2 ≠ (0, (appS m l4 cs).2) then none else some (appS m l4 cs).2) := Lib.hid rfl
  obtain ⟨pr, hpr⟩ : ∃ pr, folV m l3 l4 (num, wk, cs) = pr := ⟨_, rfl⟩
  rw [hpr] at HFO ⊢
  clear hpr hfr hel hec
  have HA := Lib.hid (BX.mk0 (vs := #[.slice da dn dc, .int .i64 l2, .slice va vn vc, .slice sa sn sc]) (T := 68) w)
  have HVV := Lib.hid hvv
  have HSS := Lib.hid hss
  have HSK := Lib.hid hS
  have HHV := Lib.hid hv
  have HTT := Lib.hid hT
  clear hd hvv hss hS hv hT
  show Calls _ _ #[.agg #[.slice da dn dc, .int .i64 l2, .slice va vn vc, .slice sa sn sc], .agg #[.int .i64 num, .int .i64 wk, .slice ca cn cc], .int .i64 m] w _
  go_enter Tryz.func264, Tryz.ntmps264
  go_upto_region 1 with fail
  have hsa : (w.alloc (.cells #[.slice da dn dc, .int .i64 l2, .slice va vn vc, .slice sa sn sc] 68)).heap.size = w.heap.size + 1 := by simp
  generalize w.alloc (.cells #[.slice da dn dc, .int .i64 l2, .slice va vn vc, .slice sa sn sc] 68) = wa at *
  obtain ⟨R, hR⟩ : ∃ R, R = w.heap.size := ⟨_, rfl⟩
  rw [← hR] at HA hsa ⊢
  clear hR
  have HB := Lib.hid (BX.mk0 (vs := #[.int .i64 num, .int .i64 wk, .slice ca cn cc]) (T := 157) wa)
  rw [hsa] at HB
  clear hsa
  generalize wa.alloc (.cells #[.int .i64 num, .int .i64 wk, .slice ca cn cc] 157) = wb at *
  obtain ⟨R2, hR2⟩ : ∃ R2, R2 = R + 1 := ⟨_, rfl⟩
  rw [← hR2] at HB ⊢
  have hle : R ≤ R2 := by omega
  clear hR2
  have HA := Lib.hid (HA.out.next HB.out.bl)
  have HB : Hid (BX w wb R2 _ _) := Lib.hid ⟨HB.out.hp, Nat.le_trans HA.out.lo hle, HA.out.bl⟩
  obtain ⟨⟨g0, g1, g2, g3⟩, _⟩ := HA.out.four
  have k0 := HB.out.cell 0
  have k1 := HB.out.cell 1
  have k2 := HB.out.cell 2
  simp only [List.getElem?_toArray, List.getElem?_cons_zero, List.getElem?_cons_succ] at k0 k1 k2
  have hwv : IntKind.i64.wrap ((vn : Int) + 1) = (vn : Int) + 1 := IntWalk.i64_in _ (by omega)
  by_cases hnum : num = (vn : Int) + 1
  rotate_left
  · have HF2 : Hid (pr = none) := Lib.hid (by rw [HFO.out, if_pos (Or.inl (by rw [hlv]; exact hnum))])
    have hd : (num != (vn : Int) + 1) = true := by simpa using hnum
    clear hnum
    go_wp2_with fail
    go_ret2
    exact FolR.no HF2.out HA.out.bl
  have hnn : (num != (vn : Int) + 1) = false := by simpa using hnum
  by_cases hwm : m < wk
  · have HF2 : Hid (pr = none) := Lib.hid (by rw [HFO.out, if_pos (Or.inr (Or.inl hwm))])
    clear hnum
    go_wp2_with fail
    go_ret2
    exact FolR.no HF2.out HA.out.bl
  have hwm2 : wk ≤ m := by omega
  have HNUM := Lib.hid hnum
  clear hwm hnum
  go_upto_region 4 with fail
  by_cases hlast : wk < lastW l3
  · have HF2 : Hid (pr = none) := Lib.hid (by rw [HFO.out, if_pos (Or.inr (Or.inr hlast))])
    have hv0 : 0 < vn := by
      rcases Nat.eq_zero_or_pos vn with h | h
      · have h3 : l3 = [] := List.eq_nil_of_length_eq_zero (hlv.trans h)
        subst h3
        have : wk < 1 := hlast
        omega
      · exact h
    obtain ⟨j, rfl⟩ : ∃ j, vn = j + 1 := ⟨vn - 1, by omega⟩
    obtain ⟨b1, o1, x, r, rfl, gx, z1, x0, x1, x2, _⟩ := VAt.cells (HVV.out.2.below HA.out.bl) (j := j) (by simp)
    have hlw : lastW l3 = x.2.1 := lastW_get (by rw [hlv]; exact gx)
    rw [hlw] at hlast
    have hj0 : (0 : Int) ≤ j := by omega
    have hj1 : (0 : Int) < (j : Int) + 1 := by omega
    have hj2 : ((j : Int) + 1 - 1) = j := by omega
    have hj3 : (j : Int) < (j : Int) + 1 := by omega
    have hj5 : IntKind.i64.wrap (j : Int) = j := IntWalk.i64_in _ (by omega)
    clear gx x0 x2 hlw hv0
    go_quiet (fail)
    go_wp2_with fail
    go_ret2
    exact FolR.no HF2.out (below3 HA.out.bl (below_drewN _ _))
  have HF1 : Hid (pr = if (appS m l4 cs).1 ≠ 0 then none else if spcS m wk l4 (appS m l4 cs).2 ≠ (0, (appS m l4 cs).2) then none else some (appS m l4 cs).2) := Lib.hid (by rw [HFO.out, if_neg (by rw [hlv]; have := HNUM.out; omega)])
  have hlast2 : lastW l3 ≤ wk := by omega
  go_cut [41] (fun s wx => s = .bool false ∧ Below wb.heap.size wb wx)
  case first =>
    by_cases hv0 : vn = 0
    · subst hv0
      rw [show ((0 : Nat) : Int) = 0 from rfl]
      go_quiet (fail)
      go_wp2_with fail
      go_meet
      exact ⟨rfl, below_drewN _ _⟩
    obtain ⟨j, rfl⟩ : ∃ j, vn = j + 1 := ⟨vn - 1, by omega⟩
    obtain ⟨b1, o1, x, r, rfl, gx, z1, x0, x1, x2, _⟩ := VAt.cells (HVV.out.2.below HA.out.bl) (j := j) (by simp)
    have hlw : lastW l3 = x.2.1 := lastW_get (by rw [hlv]; exact gx)
    rw [hlw] at hlast2
    have hj0 : (0 : Int) ≤ j := by omega
    have hj1 : (0 : Int) < (j : Int) + 1 := by omega
    have hj2 : ((j : Int) + 1 - 1) = j := by omega
    have hj3 : (j : Int) < (j : Int) + 1 := by omega
    have hj5 : IntKind.i64.wrap (j : Int) = j := IntWalk.i64_in _ (by omega)
    clear gx x0 x2 hlw hv0 hlast
    go_quiet (fail)
    go_wp2_with fail
    go_meet
    exact ⟨by rw [decide_eq_false (by omega)], below_drewN _ _⟩
  case rest =>
    obtain ⟨rfl, hbc⟩ := hcut
    have HA := Lib.hid (HA.out.next hbc)
    have HB := Lib.hid (HB.out.next hbc)
    clear g0 g1 g2 g3 k0 k1 k2 hbc hlast2 hlast
    obtain ⟨⟨g0, g1, g2, g3⟩, _⟩ := HA.out.four
    have k1 := HB.out.cell 1
    have k2 := HB.out.cell 2
    simp only [List.getElem?_toArray, List.getElem?_cons_zero, List.getElem?_cons_succ] at k1 k2
    have AP := Lib.hid (apply_any sa sn sc l4 ca cn cc cs m wc (HSS.out.2.below HA.out.bl) HSK.out (HHV.out.2.below HA.out.bl) HCO.out (by omega) hec2 (HTT.out.below HA.out.bl) HSS.out.1)
    have hrs := app_sok m l4 cs
    obtain ⟨⟨r1, r2⟩, hr⟩ : ∃ r, appS m l4 cs = r := ⟨_, rfl⟩
    rw [hr] at AP HF1 hrs
    have HRS := Lib.hid hrs
    clear hr hrs HFO
    go_wp2_with fail
    refine AP.out.mono ?_
    rintro en w3 ⟨vy, rfl, hr3, hb3⟩
    obtain ⟨ya, yc, rfl, hyc, hys⟩ := SRow.sat hr3
    have HR3 := Lib.hid (row_base hr3 HA.out.bl.size)
    have HYS := Lib.hid hys
    have HA := Lib.hid (HA.out.next hb3)
    have HB := Lib.hid (HB.out.next hb3)
    clear g0 g1 g2 g3 k1 k2 hr3 hys hb3 AP
    obtain ⟨⟨g0, g1, g2, g3⟩, _⟩ := HA.out.four
    have k1 := HB.out.cell 1
    simp only [List.getElem?_toArray, List.getElem?_cons_zero, List.getElem?_cons_succ] at k1
    by_cases hr1 : r1 = 0
    rotate_left
    · have HF2 : Hid (pr = none) := Lib.hid (by rw [HF1.out, if_pos hr1])
      have hd3 : (r1 != 0) = true := by simpa using hr1
      clear hr1
      go_wp2_with fail
      go_ret2
      exact FolR.no HF2.out HA.out.bl
    subst hr1
    have HF2 : Hid (pr = if spcS m wk l4 r2 ≠ (0, r2) then none else some r2) := Lib.hid (by rw [HF1.out, if_neg (by simp)])
    have SP := Lib.hid (splice_any sa sn sc l4 ya r2.length yc r2 m wk w3 (HSS.out.2.below HA.out.bl) HSK.out HYS.out HRS.out ⟨by omega, by omega⟩ (HTT.out.below HA.out.bl) HSS.out.1 hyc)
    obtain ⟨⟨q1, q2⟩, hq⟩ : ∃ r, spcS m wk l4 r2 = r := ⟨_, rfl⟩
    rw [hq] at SP HF2
    clear hq HF1
    go_wp2_with fail
    refine SP.out.mono ?_
    rintro en w4 ⟨vz, rfl, hr4, hb4⟩
    obtain ⟨za, zc, rfl, hzc, hzs⟩ := SRow.sat hr4
    have EQ := Lib.hid (equalq_any ya r2.length yc za q2.length zc r2 q2 w4 (HYS.out.below hb4) hzs)
    have HR4 := Lib.hid (row_below HR3.out hb4)
    have HA4 := Lib.hid (below3 HA.out.bl hb4)
    clear g0 g1 g2 g3 k1 hr4 hzs hb4 SP
    cases hq0 : (q1 == 0)
    · have HF3 : Hid (pr = none) := Lib.hid (by
        rw [HF2.out, if_pos]
        intro h
        rw [beq_eq_false_iff_ne] at hq0
        exact hq0 (congrArg Prod.fst h))
      go_wp2_with fail
      go_ret2
      exact FolR.no HF3.out HA4.out
    have HF3 : Hid (pr = if q2 = r2 then some r2 else none) := Lib.hid (by
      rw [HF2.out, beq_iff_eq.1 hq0]
      by_cases h : q2 = r2
      · rw [if_pos h, h, if_neg (by simp)]
      · rw [if_neg h, if_pos (fun h2 => h (congrArg Prod.snd h2))])
    clear HF2
    obtain ⟨dd, hdd⟩ : ∃ dd, decide (r2 = q2) = dd := ⟨_, rfl⟩
    rw [hdd] at EQ
    have HDD := Lib.hid hdd
    clear hdd
    go_wp2_with fail
    refine EQ.out.mono ?_
    rintro en w5 ⟨rfl, hq5⟩
    have HA5 := Lib.hid (below3 HA4.out (drew_bel hq5))
    have HR5 := Lib.hid (row_below HR4.out (drew_bel hq5))
    clear hq5 EQ
    go_wp2_with fail
    go_ret2
    cases dd
    · exact FolR.no (by rw [HF3.out, if_neg (fun h => of_decide_eq_false HDD.out h.symm)]) HA5.out
    · exact FolR.yes (by rw [HF3.out, if_pos (of_decide_eq_true HDD.out).symm]) HR5.out HA5.out
end Go.Proofs.YtcifdllbnbhcdaaGreatDoor
namespace Go.Proofs.YtcifdllbnbhcdaaGreatDoor
open Go.RowKit
theorem catch_idle (p q r : Addr) (w : World) :
    CallsD Tryz.prog 315 #[.pointer (some p), .pointer (some q), .pointer (some r)] .returning w fun e u' w' => e = .returned (.tuple #[]) ∧ u' = .returning ∧ w' = w := by
  refine callsD_of_wpS Tryz.func315 rfl fun c₀ cs hu => ?_
  apply wpS_seq
  apply wpS_region
  simp [wpOpsS, go_sem, recoverD, hu, Tryz.ntmps315, Exit.thenS]
  apply wpS_seq
  apply wpS_region
  simp [wpOpsS, go_sem, Exit.thenS]
  refine wpS_cond (t := false) ?_ ?_
  · simp [Act.eval, Array.replicate]
  simp only [Bool.false_eq_true, if_false]
  refine wpS_of_wp (wp_skip ?_)
  cases c₀
  simp_all [bodyPostS, results, Tryz.results315]
theorem catch_bad (R0 R1 R2 : Nat) (n01 : R0 ≠ R1) (n02 : R0 ≠ R2) (n12 : R1 ≠ R2) (x0 x1 x2 x3 x4 : Value) (u : TypeId) (pv : Value) (older : List PanicEntry) (w : World)
    (h0 : w.cell? ⟨R0, 0, none⟩ = some x0) (h1 : w.cell? ⟨R0, 1, none⟩ = some x1) (h2 : w.cell? ⟨R0, 2, none⟩ = some x2) (h3 : w.cell? ⟨R1, 0, none⟩ = some x3) (h4 : w.cell? ⟨R2, 0, none⟩ = some x4)
    (z0 : w.frozen? ⟨R0, 0, none⟩ = false) (z1 : w.frozen? ⟨R0, 1, none⟩ = false) (z2 : w.frozen? ⟨R0, 2, none⟩ = false) (z3 : w.frozen? ⟨R1, 0, none⟩ = false) (z4 : w.frozen? ⟨R2, 0, none⟩ = false) :
    CallsD Tryz.prog 315 #[.pointer (some ⟨R0, 0, none⟩), .pointer (some ⟨R1, 0, none⟩), .pointer (some ⟨R2, 0, none⟩)] (.panicking ({ v := .iface u pv, recovered := false } :: older)) w fun e u' w' =>
      e = .returned (.tuple #[]) ∧ u' = .panicking ({ v := .iface u pv, recovered := true } :: older) ∧ w' = ((((w.setCell ⟨R0, 0, none⟩ (.int .i64 0)).setCell ⟨R0, 1, none⟩ (.int .i64 0)).setCell ⟨R0, 2, none⟩ (.slice none 0 0)).setCell ⟨R1, 0, none⟩ (.int .i64 0)).setCell ⟨R2, 0, none⟩ (.bool false) := by
  have e3 : ∀ u, (w.setCell ⟨R0, 0, none⟩ u).cell? ⟨R1, 0, none⟩ = some x3 := fun u => set_far h3 n01
  have e4 : ∀ u v, ((w.setCell ⟨R0, 0, none⟩ u).setCell ⟨R1, 0, none⟩ v).cell? ⟨R2, 0, none⟩ = some x4 := fun u v => set_far (set_far h4 n02) n12
  refine callsD_of_wpS Tryz.func315 rfl fun c₀ cs hu => ?_
  apply wpS_seq
  apply wpS_region
  simp [wpOpsS, go_sem, recoverD, hu, Tryz.ntmps315, Exit.thenS]
  apply wpS_seq
  apply wpS_region
  simp [wpOpsS, go_sem, Exit.thenS]
  refine wpS_cond (t := true) ?_ ?_
  · simp [Act.eval, Array.replicate]
  simp only [if_true]
  apply wpS_region
  simp [wpOpsS, go_sem, h0, h1, h2, h3, h4, e3, e4, z0, z1, z2, z3, z4, bodyPostS, results, Tryz.results315]
end Go.Proofs.YtcifdllbnbhcdaaGreatDoor
namespace Go.Proofs.YtcifdllbnbhcdaaGreatDoor
open Go.RowKit
theorem BX.oth {w0 w : World} {R R2 : Nat} {vs : Array Value} {T : TypeId} (h : BX w0 w R vs T) (hne : R2 ≠ R) (hlo : w0.heap.size ≤ R2) (i : Nat) (u : Value) : BX w0 (w.setCell ⟨R2, i, none⟩ u) R vs T :=
  ⟨by rw [heap_setCell_other _ _ _ _ (Ne.symm hne)]; exact h.hp, h.lo, h.bl.setCell (p := ⟨R2, i, none⟩) hlo u⟩
theorem BX.five {w0 w : World} {R0 R1 R2 : Nat} {v0 v1 v2 v3 v4 : Value} {T0 T1 T2 : TypeId} (hA : BX w0 w R0 #[v0, v1, v2] T0) (hB : BX w0 w R1 #[v3] T1) (hC : BX w0 w R2 #[v4] T2) (n01 : R0 ≠ R1) (n02 : R0 ≠ R2) (n12 : R1 ≠ R2) (u0 u1 u2 u3 u4 : Value) :
    BX w0 (((((w.setCell ⟨R0, 0, none⟩ u0).setCell ⟨R0, 1, none⟩ u1).setCell ⟨R0, 2, none⟩ u2).setCell ⟨R1, 0, none⟩ u3).setCell ⟨R2, 0, none⟩ u4) R0 #[u0, u1, u2] T0 ∧ BX w0 (((((w.setCell ⟨R0, 0, none⟩ u0).setCell ⟨R0, 1, none⟩ u1).setCell ⟨R0, 2, none⟩ u2).setCell ⟨R1, 0, none⟩ u3).setCell ⟨R2, 0, none⟩ u4) R1 #[u3] T1 ∧ BX w0 (((((w.setCell ⟨R0, 0, none⟩ u0).setCell ⟨R0, 1, none⟩ u1).setCell ⟨R0, 2, none⟩ u2).setCell ⟨R1, 0, none⟩ u3).setCell ⟨R2, 0, none⟩ u4) R2 #[u4] T2 := by
  have a := hA.set3 u0 u1 u2
  have b := ((hB.oth n01 hA.lo 0 u0).oth n01 hA.lo 1 u1).oth n01 hA.lo 2 u2
  have c := ((hC.oth n02 hA.lo 0 u0).oth n02 hA.lo 1 u1).oth n02 hA.lo 2 u2
  exact ⟨(a.oth (Ne.symm n01) hB.lo 0 u3).oth (Ne.symm n02) hC.lo 0 u4, (b.set 0 u3).oth (Ne.symm n12) hC.lo 0 u4, (c.oth n12 hB.lo 0 u3).set 0 u4⟩
theorem hasp_any (s1 s2 : Sl) (d e : L8) (w : World) (h1 : BV w s1 d) (h2 : BV w s2 e) : Calls Tryz.prog 317 #[.slice s1.1 s1.2.1 s1.2.2, .slice s2.1 s2.2.1 s2.2.2] w (fun x w' => x = .returned (.bool (decide (e <+: d))) ∧ w' = w) := by
  have h := Tryz.bytes_HasPrefix_all s1.1 s2.1 s1.2.1 s1.2.2 s2.2.1 s2.2.2 (intsOf d) (intsOf e) w (by unfold intsOf; rw [List.length_map]; exact h1.2.1) (by unfold intsOf; rw [List.length_map]; exact h2.2.1) h1.1 (ints_in h1.2) (ints_in h2.2)
  rw [ints_of d, ints_of e] at h
  have hp : Lib.hasPrefix d e = decide (e <+: d) := by
    unfold Lib.hasPrefix
    rw [Bool.eq_iff_iff, List.isPrefixOf_iff_prefix, decide_eq_true_iff]
  rw [hp] at h
  exact h
theorem dec_cases {d : L8} : (verP nuP (fun _ => true) d = none → decV d = none) ∧ ∀ v t, verP nuP (fun _ => true) d = some (v, t) → decV d = if frmV v = true ∧ encV v <+: d then some v else none := by
  refine ⟨fun h => by unfold decV; rw [h], fun v t h => by unfold decV; rw [h]⟩
theorem ver_facts {d t : L8} {v : Ver} (h : verP nuP (fun _ => true) d = some (v, t)) (hd : d.length ≤ 9223372036854775807) : 4 * cntC v.2.2 ≤ d.length ∧ VOk v := by
  unfold verP at h
  split at h
  · cases h
  · next a b c u hh =>
    have hu : u.length ≤ d.length := by
      unfold headP at hh
      split at hh
      · cases hh
      · next ws u' hl =>
        split at hh
        · simp only [Option.some.injEq, Prod.mk.injEq] at hh
          obtain ⟨_, rfl⟩ := hh
          have := (lnP_len4 hl).1; omega
        · cases hh
    simp only [Bool.true_eq_false, if_false] at h
    split at h
    · cases h
    · next l q hr =>
      simp only [Option.some.injEq, Prod.mk.injEq] at h
      obtain ⟨rfl, _⟩ := h
      have h1 := repC_len4 _ hr
      have h2 := repC_okP _ (by omega) hr
      exact ⟨by simp only; omega, h2⟩
theorem cnt_le (cs : List Chg) : cs.length ≤ cntC cs ∧ ∀ c ∈ cs, c.2.1.length ≤ cntC cs ∧ c.2.2.length ≤ cntC cs := by
  induction cs with
  | nil => exact ⟨Nat.zero_le _, fun c hc => by cases hc⟩
  | cons x cs ih =>
    rw [cntC_cons]
    refine ⟨by rw [List.length_cons]; omega, fun c hc => ?_⟩
    rcases List.mem_cons.1 hc with rfl | hc
    · omega
    · have := ih.2 c hc; omega
set_option maxRecDepth 100000 in
set_option maxHeartbeats 16000000 in
theorem decode_any (a : Option Addr) (n c : Nat) (d : L8) (w : World) (hx : BV w (a, n, c) d) (ho : NilOk (a, n, c)) (hE : Env w) (hn : n ≤ 4000000) :
    Calls Tryz.prog 263 #[.slice a n c] w (RdR (decV d) w) := by
  have hmf : ∀ (fn : Fn) (first cap : Array Value) (w : World), (Instr.makeFunc fn first cap).run Tryz.prog w = .ok (.func fn first cap) w := fun _ _ _ _ => rfl
  have hdl : d.length = n := hx.2.1
  obtain ⟨hD1, hD2⟩ := dec_cases (d := d)
  have HD1 := Lib.hid hD1
  have HD2 := Lib.hid hD2
  have HVF := Lib.hid (fun v t (h : verP nuP (fun _ => true) d = some (v, t)) => ver_facts h (by omega))
  have HX := Lib.hid hx
  have HO := Lib.hid ho
  have HE := Lib.hid hE
  clear hx ho hE hD1 hD2
  obtain ⟨r, hr⟩ : ∃ r, decV d = r := ⟨_, rfl⟩
  rw [hr] at HD1 HD2 ⊢
  clear hr
  go_enter_defers Tryz.func263, Tryz.ntmps263
  have HA := Lib.hid (BX.mk0 (vs := #[.int .i64 0, .int .i64 0, .slice none 0 0]) (T := 157) w)
  go_upto_region 2 with fail
  have hsa : (w.alloc (.cells #[.int .i64 0, .int .i64 0, .slice none 0 0] 157)).heap.size = w.heap.size + 1 := by simp
  generalize w.alloc (.cells #[.int .i64 0, .int .i64 0, .slice none 0 0] 157) = wa at *
  obtain ⟨R0, hR0⟩ : ∃ R, R = w.heap.size := ⟨_, rfl⟩
  rw [← hR0] at HA hsa ⊢
  have hw0 : w.heap.size ≤ R0 := by omega
  clear hR0
  have HB := Lib.hid (BX.mk0 (vs := #[.int .i64 0]) (T := 3) wa)
  have hsb : (wa.alloc (.cells #[.int .i64 0] 3)).heap.size = R0 + 1 + 1 := by simp [hsa]
  generalize wa.alloc (.cells #[.int .i64 0] 3) = wb at *
  rw [hsa] at HB
  obtain ⟨R1, hR1⟩ : ∃ R, R = R0 + 1 := ⟨_, rfl⟩
  rw [← hR1] at HB hsb ⊢
  have HC := Lib.hid (BX.mk0 (vs := #[.bool false]) (T := 4) wb)
  generalize wb.alloc (.cells #[.bool false] 4) = wc at *
  rw [hsb] at HC
  obtain ⟨R2, hR2⟩ : ∃ R, R = R1 + 1 := ⟨_, rfl⟩
  rw [← hR2] at HC ⊢
  have n01 : R0 ≠ R1 := by omega
  have n02 : R0 ≠ R2 := by omega
  have n12 : R1 ≠ R2 := by omega
  have hw1 : w.heap.size ≤ R1 := by omega
  have hw2 : w.heap.size ≤ R2 := by omega
  clear hsa hsb hR1 hR2
  have HA := Lib.hid ((HA.out.next HB.out.bl).next HC.out.bl)
  have HB : Hid (BX w wc R1 _ _) := Lib.hid ⟨(HB.out.next HC.out.bl).hp, hw1, HA.out.bl⟩
  have HC : Hid (BX w wc R2 _ _) := Lib.hid ⟨HC.out.hp, hw2, HA.out.bl⟩
  have HRD := Lib.hid (BX.mk0 (vs := #[.slice a n c]) (T := 427) wc)
  go_upto_region 3 with fail
  generalize wc.alloc (.cells #[.slice a n c] 427) = wd at *
  obtain ⟨b, hb⟩ : ∃ b, b = wc.heap.size := ⟨_, rfl⟩
  rw [← hb] at HRD ⊢
  have n0b : R0 ≠ b := by have := HA.out.lt; omega
  have n1b : R1 ≠ b := by have := HB.out.lt; omega
  have n2b : R2 ≠ b := by have := HC.out.lt; omega
  have hwb : w.heap.size ≤ b := by have := HA.out.lt; omega
  clear hb
  have HA := Lib.hid (HA.out.next HRD.out.bl)
  have HB := Lib.hid (HB.out.next HRD.out.bl)
  have HC := Lib.hid (HC.out.next HRD.out.bl)
  have HRD : Hid (RdB w wd b d) := Lib.hid ⟨(a, n, c), ⟨HRD.out.hp, hwb, HA.out.bl⟩, HX.out, HO.out⟩
  have VR := Lib.hid (rver_any b d w wd HRD.out HE.out (by omega))
  have h0d : R0 < wd.heap.size := HA.out.lt
  have h1d : R1 < wd.heap.size := HB.out.lt
  have h2d : R2 < wd.heap.size := HC.out.lt
  have hwd : w.heap.size ≤ wd.heap.size := HA.out.bl.size
  go_wp2_with fail
  refine VR.out.mono ?_
  rintro en w5 ⟨h1, hb5, hk5⟩
  have HA := Lib.hid (HA.out.keepB hk5 n0b hb5)
  have HB := Lib.hid (HB.out.keepB hk5 n1b hb5)
  have HC := Lib.hid (HC.out.keepB hk5 n2b hb5)
  have hd5 : wd.heap.size ≤ w5.heap.size := hk5.1
  clear hb5 hk5 VR HRD
  obtain ⟨⟨x0, x1, x2⟩, z0, z1, z2⟩ := HA.out.three
  have x3 := HB.out.cell 0
  have x4 := HC.out.cell 0
  have z3 := HB.out.fz 0
  have z4 := HC.out.fz 0
  simp only [List.getElem?_toArray, List.getElem?_cons_zero] at x3 x4
  cases hv : verP nuP (fun _ => true) d with
  | none =>
    rw [hv] at h1
    simp only at h1
    subst h1
    have HN := Lib.hid (HD1.out hv)
    have H5 := Lib.hid (HA.out.five HB.out HC.out n01 n02 n12 (.int .i64 0) (.int .i64 0) (.slice none 0 0) (.int .i64 0) (.bool false))
    go_wp2_with fail
    refine leaves_cons (f := 315) (args := #[.pointer (some ⟨R0, 0, none⟩), .pointer (some ⟨R1, 0, none⟩), .pointer (some ⟨R2, 0, none⟩)]) (by simp) (by simp [go_sem]) ?_
    refine (catch_bad R0 R1 R2 n01 n02 n12 _ _ _ _ _ _ _ [] w5 x0 x1 x2 x3 x4 z0 z1 z2 z3 z4).mono ?_
    rintro e u' w'' ⟨rfl, rfl, rfl⟩
    generalize (World.setCell _ ⟨R2, 0, none⟩ (.bool false)) = W9 at *
    obtain ⟨f1, f2, f3⟩ := H5.out
    obtain ⟨⟨k0, k1, k2⟩, _⟩ := f1.three
    have k3 := f2.cell 0
    have k4 := f3.cell 0
    simp only [List.getElem?_toArray, List.getElem?_cons_zero] at k3 k4
    show Leaves _ _ _ _ [] .returning _
    exact ⟨.tuple #[verV 0 0 (none, 0, 0), .int .i64 0, .bool false], by simp [results, Tryz.results263, go_sem, k0, k1, k2, k3, k4], Or.inl ⟨HN.out, rfl, f1.bl⟩⟩
  | some p =>
    obtain ⟨⟨num, wk, cs⟩, t⟩ := p
    rw [hv] at h1
    obtain ⟨⟨sa, sn, sc⟩, rfl, hh5, _⟩ := h1
    obtain ⟨hcn, hok⟩ := HVF.out _ t hv
    simp only at hcn
    obtain ⟨hc1, hc2⟩ := cnt_le cs
    have HRR := Lib.hid (HD2.out _ t hv)
    have HA6 := Lib.hid (HA.out.set3 (.int .i64 num) (.int .i64 wk) (.slice sa sn sc))
    have HB6 := Lib.hid (((HB.out.oth n01 HA.out.lo 0 (.int .i64 num)).oth n01 HA.out.lo 1 (.int .i64 wk)).oth n01 HA.out.lo 2 (.slice sa sn sc))
    have HC6 := Lib.hid (((HC.out.oth n02 HA.out.lo 0 (.int .i64 num)).oth n02 HA.out.lo 1 (.int .i64 wk)).oth n02 HA.out.lo 2 (.slice sa sn sc))
    have HH6 := Lib.hid (((hh5.set (p := ⟨R0, 0, none⟩) h0d (.int .i64 num)).set (p := ⟨R0, 1, none⟩) h0d (.int .i64 wk)).set (p := ⟨R0, 2, none⟩) h0d (.slice sa sn sc))
    have HOK := Lib.hid hok
    have HHZ : Hid (∀ c ∈ cs, c.2.1.length * 64 ≤ 140737488355328 ∧ c.2.2.length * 64 ≤ 140737488355328) := Lib.hid (fun c hc => by have := hc2 c hc; omega)
    clear hh5 hv hok HD1 HD2 HVF hc2
    go_upto_region 4 with fail
    generalize ((World.setCell w5 ⟨R0, 0, none⟩ (.int .i64 num)).setCell ⟨R0, 1, none⟩ (.int .i64 wk)).setCell ⟨R0, 2, none⟩ (.slice sa sn sc) = w6 at *
    have EC := Lib.hid (encode_any (num, wk, cs) (sa, sn, sc) w6 (hv_of HH6.out) HOK.out (HE.out.below HA6.out.bl) (by simp only; omega) HHZ.out (fun h => enc_small h (by simp only; omega)))
    clear x0 x1 x2 x3 x4 z0 z1 z2 z3 z4
    obtain ⟨⟨x0, x1, x2⟩, z0, z1, z2⟩ := HA6.out.three
    obtain ⟨q, hq⟩ : ∃ q, frmV (num, wk, cs) = q := ⟨_, rfl⟩
    rw [hq] at EC HRR
    have hq := Lib.hid hq
    cases q
    · have HN : Hid (r = none) := Lib.hid (by rw [HRR.out, if_neg (fun h => by cases h.1)])
      simp only [Bool.false_eq_true, if_false] at EC
      go_wp2_with fail
      refine EC.out.mono ?_
      rintro en w7 ⟨⟨ea, en7, ec⟩, rfl, _, hb7⟩
      have HA7 := Lib.hid (HA6.out.next hb7)
      have HB7 := Lib.hid (HB6.out.next hb7)
      have HC7 := Lib.hid (HC6.out.next hb7)
      clear hb7 x0 x1 x2 z0 z1 z2
      obtain ⟨⟨x0, x1, x2⟩, z0, z1, z2⟩ := HA7.out.three
      have x3 := HB7.out.cell 0
      have x4 := HC7.out.cell 0
      have z3 := HB7.out.fz 0
      have z4 := HC7.out.fz 0
      simp only [List.getElem?_toArray, List.getElem?_cons_zero] at x3 x4
      have H5 := Lib.hid (HA7.out.five HB7.out HC7.out n01 n02 n12 (.int .i64 0) (.int .i64 0) (.slice none 0 0) (.int .i64 0) (.bool false))
      go_wp2_with fail
      refine leaves_cons (f := 315) (args := #[.pointer (some ⟨R0, 0, none⟩), .pointer (some ⟨R1, 0, none⟩), .pointer (some ⟨R2, 0, none⟩)]) (by simp) (by simp [go_sem]) ?_
      refine (catch_idle ⟨R0, 0, none⟩ ⟨R1, 0, none⟩ ⟨R2, 0, none⟩ _).mono ?_
      rintro e u' w'' ⟨rfl, rfl, rfl⟩
      generalize (World.setCell _ ⟨R2, 0, none⟩ (.bool false)) = W9 at *
      obtain ⟨f1, f2, f3⟩ := H5.out
      clear x0 x1 x2 x3 x4
      obtain ⟨⟨k0, k1, k2⟩, _⟩ := f1.three
      have k3 := f2.cell 0
      have k4 := f3.cell 0
      simp only [List.getElem?_toArray, List.getElem?_cons_zero] at k3 k4
      show Leaves _ _ _ _ [] .returning _
      exact ⟨.tuple #[verV 0 0 (none, 0, 0), .int .i64 0, .bool false], by simp [results, Tryz.results263, go_sem, k0, k1, k2, k3, k4], Or.inl ⟨HN.out, rfl, f1.bl⟩⟩
    · simp only [if_true] at EC
      go_wp2_with fail
      refine EC.out.mono ?_
      rintro en w7 ⟨⟨ea, en7, ec⟩, rfl, hbe, hb7⟩
      have HA7 := Lib.hid (HA6.out.next hb7)
      have HB7 := Lib.hid (HB6.out.next hb7)
      have HC7 := Lib.hid (HC6.out.next hb7)
      have HH7 := Lib.hid (HH6.out.below hb7)
      have hel : (encV (num, wk, cs)).length = en7 := hbe.2.1
      have HP := Lib.hid (hasp_any (a, n, c) (ea, en7, ec) d (encV (num, wk, cs)) w7 (HX.out.below HA7.out.bl) hbe)
      clear hb7 hbe x0 x1 x2 z0 z1 z2 EC HH6
      obtain ⟨p, hp⟩ : ∃ p, decide (encV (num, wk, cs) <+: d) = p := ⟨_, rfl⟩
      rw [hp] at HP
      have hp := Lib.hid hp
      go_wp2_with fail
      refine HP.out.mono ?_
      rintro en w8 ⟨rfl, hw8⟩
      replace hw8 := hw8.symm
      subst hw8
      cases p
      · have HN : Hid (r = none) := Lib.hid (by rw [HRR.out, if_neg (fun h => of_decide_eq_false hp.out h.2)])
        obtain ⟨⟨x0, x1, x2⟩, z0, z1, z2⟩ := HA7.out.three
        have x3 := HB7.out.cell 0
        have x4 := HC7.out.cell 0
        have z3 := HB7.out.fz 0
        have z4 := HC7.out.fz 0
        simp only [List.getElem?_toArray, List.getElem?_cons_zero] at x3 x4
        have H5 := Lib.hid (HA7.out.five HB7.out HC7.out n01 n02 n12 (.int .i64 0) (.int .i64 0) (.slice none 0 0) (.int .i64 0) (.bool false))
        go_wp2_with fail
        refine leaves_cons (f := 315) (args := #[.pointer (some ⟨R0, 0, none⟩), .pointer (some ⟨R1, 0, none⟩), .pointer (some ⟨R2, 0, none⟩)]) (by simp) (by simp [go_sem]) ?_
        refine (catch_idle ⟨R0, 0, none⟩ ⟨R1, 0, none⟩ ⟨R2, 0, none⟩ _).mono ?_
        rintro e u' w'' ⟨rfl, rfl, rfl⟩
        generalize (World.setCell _ ⟨R2, 0, none⟩ (.bool false)) = W9 at *
        obtain ⟨f1, f2, f3⟩ := H5.out
        clear x0 x1 x2 x3 x4
        obtain ⟨⟨k0, k1, k2⟩, _⟩ := f1.three
        have k3 := f2.cell 0
        have k4 := f3.cell 0
        simp only [List.getElem?_toArray, List.getElem?_cons_zero] at k3 k4
        show Leaves _ _ _ _ [] .returning _
        exact ⟨.tuple #[verV 0 0 (none, 0, 0), .int .i64 0, .bool false], by simp [results, Tryz.results263, go_sem, k0, k1, k2, k3, k4], Or.inl ⟨HN.out, rfl, f1.bl⟩⟩
      · have HN : Hid (r = some (num, wk, cs)) := Lib.hid (by rw [HRR.out, if_pos ⟨by trivial, of_decide_eq_true hp.out⟩])
        have H5 := Lib.hid (HA7.out.five HB7.out HC7.out n01 n02 n12 (.int .i64 num) (.int .i64 wk) (.slice sa sn sc) (.int .i64 en7) (.bool true))
        have HH9 := Lib.hid (((((HH7.out.set (p := ⟨R0, 0, none⟩) h0d (.int .i64 num)).set (p := ⟨R0, 1, none⟩) h0d (.int .i64 wk)).set (p := ⟨R0, 2, none⟩) h0d (.slice sa sn sc)).set (p := ⟨R1, 0, none⟩) h1d (.int .i64 en7)).set (p := ⟨R2, 0, none⟩) h2d (.bool true))
        obtain ⟨⟨x0, x1, x2⟩, z0, z1, z2⟩ := HA7.out.three
        have x3 := HB7.out.cell 0
        have x4 := HC7.out.cell 0
        have z3 := HB7.out.fz 0
        have z4 := HC7.out.fz 0
        simp only [List.getElem?_toArray, List.getElem?_cons_zero] at x3 x4
        go_wp2_with fail
        refine leaves_cons (f := 315) (args := #[.pointer (some ⟨R0, 0, none⟩), .pointer (some ⟨R1, 0, none⟩), .pointer (some ⟨R2, 0, none⟩)]) (by simp) (by simp [go_sem]) ?_
        refine (catch_idle ⟨R0, 0, none⟩ ⟨R1, 0, none⟩ ⟨R2, 0, none⟩ _).mono ?_
        rintro e u' w'' ⟨rfl, rfl, rfl⟩
        generalize (World.setCell _ ⟨R2, 0, none⟩ (.bool true)) = W9 at *
        obtain ⟨f1, f2, f3⟩ := H5.out
        clear x0 x1 x2 x3 x4
        obtain ⟨⟨k0, k1, k2⟩, _⟩ := f1.three
        have k3 := f2.cell 0
        have k4 := f3.cell 0
        simp only [List.getElem?_toArray, List.getElem?_cons_zero] at k3 k4
        show Leaves _ _ _ _ [] .returning _
        exact ⟨.tuple #[verV num wk (sa, sn, sc), .int .i64 en7, .bool true], by simp [results, Tryz.results263, go_sem, k0, k1, k2, k3, k4], Or.inr ⟨(num, wk, cs), (sa, sn, sc), HN.out, by rw [hel], HH9.out.base hwd, f1.bl⟩⟩
end Go.Proofs.YtcifdllbnbhcdaaGreatDoor
namespace Go.Proofs.YtcifdllbnbhcdaaGreatDoor
open Go.RowKit
set_option maxRecDepth 100000 in
set_option maxHeartbeats 4000000 in
theorem eqc_any (x y : Chg) (pa : Option Addr) (pn pc : Nat) (qa : Option Addr) (qn qc : Nat) (ra : Option Addr) (rn rc : Nat) (ua : Option Addr) (un uc : Nat) (w : World) (hp : SAt w pa pn x.2.1) (hq : SAt w qa qn x.2.2) (hr : SAt w ra rn y.2.1) (hu : SAt w ua un y.2.2) :
    Calls Tryz.prog 266 #[.agg #[.string (arr x.1), .slice pa pn pc, .slice qa qn qc], .agg #[.string (arr y.1), .slice ra rn rc, .slice ua un uc]] w (RetB (.bool (decide (x = y))) w) := by
  obtain ⟨x1, x2, x3⟩ := x
  obtain ⟨y1, y2, y3⟩ := y
  simp only at hp hq hr hu ⊢
  have HF : Hid (decide ((x1, x2, x3) = (y1, y2, y3)) = (decide (x1 = y1) && (decide (x2 = y2) && decide (x3 = y3)))) := Lib.hid (by
    by_cases h1 : x1 = y1 <;> by_cases h2 : x2 = y2 <;> by_cases h3 : x3 = y3 <;> simp [h1, h2, h3])
  have S1 := Lib.hid (fun W (h : Below w.heap.size w W) => equalq_any pa pn pc ra rn rc x2 y2 W (hp.below h) (hr.below h))
  have S2 := Lib.hid (fun W (h : Below w.heap.size w W) => equalq_any qa qn qc ua un uc x3 y3 W (hq.below h) (hu.below h))
  clear hp hq hr hu
  generalize decide ((x1, x2, x3) = (y1, y2, y3)) = r at *
  have HA := Lib.hid (BX.mk0 (vs := #[.string (arr x1), .slice pa pn pc, .slice qa qn qc]) (T := 161) w)
  go_enter Tryz.func266, Tryz.ntmps266
  go_upto_region 1 with fail
  have hsa : (w.alloc (.cells #[.string (arr x1), .slice pa pn pc, .slice qa qn qc] 161)).heap.size = w.heap.size + 1 := by simp
  generalize w.alloc (.cells #[.string (arr x1), .slice pa pn pc, .slice qa qn qc] 161) = wa at *
  obtain ⟨R, hR⟩ : ∃ R, R = w.heap.size := ⟨_, rfl⟩
  rw [← hR] at HA hsa ⊢
  clear hR
  have HB := Lib.hid (BX.mk0 (vs := #[.string (arr y1), .slice ra rn rc, .slice ua un uc]) (T := 161) wa)
  rw [hsa] at HB
  clear hsa
  generalize wa.alloc (.cells #[.string (arr y1), .slice ra rn rc, .slice ua un uc] 161) = wb at *
  have HA := Lib.hid (HA.out.next HB.out.bl)
  have HW := Lib.hid HA.out.bl
  have a0 := HA.out.cell 0
  have a1 := HA.out.cell 1
  have a2 := HA.out.cell 2
  have b0 := HB.out.cell 0
  have b1 := HB.out.cell 1
  have b2 := HB.out.cell 2
  simp only [List.getElem?_toArray, List.getElem?_cons_zero, List.getElem?_cons_succ] at a0 a1 a2 b0 b1 b2
  by_cases h1 : x1 = y1
  rotate_left
  · have HF2 : Hid (r = false) := Lib.hid (by rw [HF.out, decide_eq_false h1]; rfl)
    have p1 : ((arr x1).toList == (arr y1).toList) = false := by rw [arr_toList, arr_toList]; simpa using h1
    have p2 : ¬ (arr x1).toList = (arr y1).toList := by rw [arr_toList, arr_toList]; exact h1
    clear h1
    go_wp2_with fail
    go_ret
    exact ⟨ret_bool (by rw [HF2.out]), HW.out⟩
  subst h1
  have HF2 : Hid (r = (decide (x2 = y2) && decide (x3 = y3))) := Lib.hid (by rw [HF.out, decide_eq_true rfl]; rfl)
  clear HF
  generalize decide (x2 = y2) = d2 at *
  generalize decide (x3 = y3) = d3 at *
  go_wp2_with fail
  refine (S1.out _ HW.out).mono ?_
  rintro en w2 ⟨rfl, hq2⟩
  have hb2 := drew_bel hq2
  have HA2 := Lib.hid (HA.out.next hb2)
  have HB2 := Lib.hid (HB.out.next hb2)
  have HW2 := Lib.hid HA2.out.bl
  clear a0 a1 a2 b0 b1 b2 hb2 hq2
  have a2 := HA2.out.cell 2
  have b2 := HB2.out.cell 2
  simp only [List.getElem?_toArray, List.getElem?_cons_zero, List.getElem?_cons_succ] at a2 b2
  cases d2
  · go_wp2_with fail
    go_ret
    exact ⟨ret_bool (by rw [HF2.out]; rfl), HW2.out⟩
  go_wp2_with fail
  refine (S2.out _ HW2.out).mono ?_
  rintro en w3 ⟨rfl, hq3⟩
  have HW3 := Lib.hid (below3 HW2.out (drew_bel hq3))
  clear hq3
  go_wp2_with fail
  go_ret
  exact ⟨ret_bool (by rw [HF2.out]; rfl), HW3.out⟩
end Go.Proofs.YtcifdllbnbhcdaaGreatDoor
