/- Texts V54, V92, V93, joined: walks and laws for the versions. -/
import Derived.Defers
import Derived.Recover
import Derived.Test.YtihbpggbpapcfaaGreatDoorM30
import Derived.Test.YtihbpggbpapcfaaGreatDoorM33
namespace Go.Proofs.YtihbpggbpapcfaaGreatDoor
open Go.RowKit

def ShwR (r : Int × Nat × List Ses) (w : World) (e : Ending) (w' : World) : Prop := ∃ v, e = .returned (.tuple #[.int .i64 r.2.1, v, .int .i64 r.1]) ∧ SRow w' w.heap.size v r.2.2 ∧ Below w.heap.size w w'
theorem ShwR.mk {r : Int × Nat × List Ses} {w w' : World} {v : Value} {x : Int} {k : Nat} {ss : List Ses} (h : r = (x, k, ss)) (hr : SRow w' w.heap.size v ss) (hb : Below w.heap.size w w') : ShwR r w (.returned (.tuple #[.int .i64 k, v, .int .i64 x])) w' := by
  subst h; exact ⟨_, rfl, hr, hb⟩
theorem shw_more {syn : Int} {at_ : Nat} {vs : List Ver} {j : Nat} {v : Ver} (h : vs[j]? = some v) (hf : frmV v = true) (hs : ¬ syn < ((at_ + (encV v).length : Nat) : Int)) : shwN syn at_ (vs.drop j) = shwN syn (at_ + (encV v).length) (vs.drop (j + 1)) + 1 := by
  obtain ⟨hj, rfl⟩ := List.getElem?_eq_some_iff.1 h
  rw [List.drop_eq_getElem_cons hj]
  have he : encE vs[j] = encV vs[j] := by unfold encE; rw [if_pos hf]
  show (if syn < ((at_ + (encE vs[j]).length : Nat) : Int) then 0 else shwN syn (at_ + (encE vs[j]).length) (vs.drop (j + 1)) + 1) = _
  rw [he, if_neg hs]
theorem shw_stop {syn : Int} {at_ : Nat} {vs : List Ver} {j : Nat} {v : Ver} (h : vs[j]? = some v) (hf : frmV v = true) (hs : syn < ((at_ + (encV v).length : Nat) : Int)) : shwN syn at_ (vs.drop j) = 0 := by
  obtain ⟨hj, rfl⟩ := List.getElem?_eq_some_iff.1 h
  rw [List.drop_eq_getElem_cons hj]
  unfold shwN
  have he : encE vs[j] = encV vs[j] := by unfold encE; rw [if_pos hf]
  rw [he, if_pos hs]
end Go.Proofs.YtihbpggbpapcfaaGreatDoor

namespace Go.Proofs.YtihbpggbpapcfaaGreatDoor
open Go.RowKit

def FolR (r : Option (List Ses)) (w : World) (e : Ending) (w' : World) : Prop := ∃ (v : Value) (ok : Bool), e = .returned (.tuple #[v, .bool ok]) ∧ (match r with | some s => ok = true ∧ SRow w' w.heap.size v s | none => ok = false) ∧ Below w.heap.size w w'
theorem FolR.no {r : Option (List Ses)} {w w' : World} {v : Value} (h : r = none) (hb : Below w.heap.size w w') : FolR r w (.returned (.tuple #[v, .bool false])) w' := by
  subst h; exact ⟨v, false, rfl, rfl, hb⟩
theorem FolR.yes {r : Option (List Ses)} {s : List Ses} {w w' : World} {v : Value} (h : r = some s) (hr : SRow w' w.heap.size v s) (hb : Below w.heap.size w w') : FolR r w (.returned (.tuple #[v, .bool true])) w' := by
  subst h; exact ⟨v, true, rfl, ⟨rfl, hr⟩, hb⟩

set_option maxRecDepth 100000 in
set_option maxHeartbeats 8000000 in
theorem follow_any (va : Value) (l : Lg) (v : Ver) (ca : Option Addr) (cn cc : Nat) (m : Int) (w : World) (ha : LogR w va l) (hv : HV w (ca, cn, cc) v.2.2) (hfr : frmV v = true) (hel : (encV v).length ≤ 1048576) (hS : SOk l.2.2.2) (hvl : l.2.2.1.length ≤ 1048576) (hT : Tz w) :
    Calls Tryz.prog 67 #[va, .agg #[.int .i64 v.1, .int .i64 v.2.1, .slice ca cn cc], .int .i64 m] w (FolR (folV m l.2.2.1 l.2.2.2 v) w) := by
  obtain ⟨⟨da, dn, dc⟩, ⟨va, vn, vc⟩, ⟨sa, sn, sc⟩, rfl, hd, hvv, hss⟩ := ha
  obtain ⟨l1, l2, l3, l4⟩ := l
  obtain ⟨num, wk, cs⟩ := v
  simp only at hd hvv hss hS hvl hv ⊢
  have hlv : l3.length = vn := hvv.2.len.1
  rw [hlv] at hvl
  obtain ⟨⟨hn1, hn2, hw1, hw2, _⟩, _⟩ := frm_parts hfr
  have hn1 : 1 ≤ num := hn1
  have hn2 : num ≤ 64 := hn2
  have hw1 : 1 ≤ wk := hw1
  have hw2 : wk ≤ 20 := hw2
  have hec := enc_cnt hel
  have hcn : cs.length = cn := hv.2.len.1
  have hec1 : cs.length ≤ 1000000 := hec.1
  have hec2 : (cs.flatMap (·.2.2)).length ≤ 1000000 := hec.2
  have HCO := Lib.hid (fun c hc => (frm_vok hfr c hc).2.2)
  have HFO : Hid (folV m l3 l4 (num, wk, cs) = if num ≠ l3.length + 1 ∨ m < wk ∨ wk < lastW l3 then none else if (appS m l4 cs).1 ≠ 0 then none else if spcS m wk l4 (appS m l4 cs).2 ≠ (0, (appS m l4 cs).2) then none else some (appS m l4 cs).2) := Lib.hid rfl
  obtain ⟨pr, hpr⟩ : ∃ pr, folV m l3 l4 (num, wk, cs) = pr := ⟨_, rfl⟩
  rw [hpr] at HFO ⊢
  clear hpr hfr hel hec
  have HA := Lib.hid (BX.mk0 (vs := #[.slice da dn dc, .int .i64 l2, .slice va vn vc, .slice sa sn sc]) (T := 55) w)
  have HVV := Lib.hid hvv
  have HSS := Lib.hid hss
  have HSK := Lib.hid hS
  have HHV := Lib.hid hv
  have HTT := Lib.hid hT
  clear hd hvv hss hS hv hT
  show Calls _ _ #[.agg #[.slice da dn dc, .int .i64 l2, .slice va vn vc, .slice sa sn sc], .agg #[.int .i64 num, .int .i64 wk, .slice ca cn cc], .int .i64 m] w _
  go_enter Tryz.func67, Tryz.ntmps67
  go_upto_region 1 with fail
  have hsa : (w.alloc (.cells #[.slice da dn dc, .int .i64 l2, .slice va vn vc, .slice sa sn sc] 55)).heap.size = w.heap.size + 1 := by simp
  generalize w.alloc (.cells #[.slice da dn dc, .int .i64 l2, .slice va vn vc, .slice sa sn sc] 55) = wa at *
  obtain ⟨R, hR⟩ : ∃ R, R = w.heap.size := ⟨_, rfl⟩
  rw [← hR] at HA hsa ⊢
  clear hR
  have HB := Lib.hid (BX.mk0 (vs := #[.int .i64 num, .int .i64 wk, .slice ca cn cc]) (T := 24) wa)
  rw [hsa] at HB
  clear hsa
  generalize wa.alloc (.cells #[.int .i64 num, .int .i64 wk, .slice ca cn cc] 24) = wb at *
  obtain ⟨R2, hR2⟩ : ∃ R2, R2 = R + 1 := ⟨_, rfl⟩
  rw [← hR2] at HB ⊢
  have hle : R ≤ R2 := by omega
  clear hR2
  have HA := Lib.hid (HA.out.next HB.out.bl)
  have HB : Hid (BX w wb R2 _ _) := Lib.hid ⟨HB.out.hp, Nat.le_trans HA.out.lo hle, HA.out.bl⟩
  obtain ⟨⟨g0, g1, g2, g3⟩, _⟩ := HA.out.four
  have k0 := HB.out.cell 0
  have k1 := HB.out.cell 1
  have k2 := HB.out.cell 2
  simp only [List.getElem?_toArray, List.getElem?_cons_zero, List.getElem?_cons_succ] at k0 k1 k2
  have hwv : IntKind.i64.wrap ((vn : Int) + 1) = (vn : Int) + 1 := IntWalk.i64_in _ (by omega)
  by_cases hnum : num = (vn : Int) + 1
  rotate_left
  · have HF2 : Hid (pr = none) := Lib.hid (by rw [HFO.out, if_pos (Or.inl (by rw [hlv]; exact hnum))])
    have hd : (num != (vn : Int) + 1) = true := by simpa using hnum
    clear hnum
    go_wp2_with fail
    go_ret2
    exact FolR.no HF2.out HA.out.bl
  have hnn : (num != (vn : Int) + 1) = false := by simpa using hnum
  by_cases hwm : m < wk
  · have HF2 : Hid (pr = none) := Lib.hid (by rw [HFO.out, if_pos (Or.inr (Or.inl hwm))])
    clear hnum
    go_wp2_with fail
    go_ret2
    exact FolR.no HF2.out HA.out.bl
  have hwm2 : wk ≤ m := by omega
  have HNUM := Lib.hid hnum
  clear hwm hnum
  go_upto_region 4 with fail
  by_cases hlast : wk < lastW l3
  · have HF2 : Hid (pr = none) := Lib.hid (by rw [HFO.out, if_pos (Or.inr (Or.inr hlast))])
    have hv0 : 0 < vn := by
      rcases Nat.eq_zero_or_pos vn with h | h
      · have h3 : l3 = [] := List.eq_nil_of_length_eq_zero (hlv.trans h)
        subst h3
        have : wk < 1 := hlast
        omega
      · exact h
    obtain ⟨j, rfl⟩ : ∃ j, vn = j + 1 := ⟨vn - 1, by omega⟩
    obtain ⟨b1, o1, x, r, rfl, gx, z1, x0, x1, x2, _⟩ := VAt.cells (HVV.out.2.below HA.out.bl) (j := j) (by simp)
    have hlw : lastW l3 = x.2.1 := lastW_get (by rw [hlv]; exact gx)
    rw [hlw] at hlast
    have hj0 : (0 : Int) ≤ j := by omega
    have hj1 : (0 : Int) < (j : Int) + 1 := by omega
    have hj2 : ((j : Int) + 1 - 1) = j := by omega
    have hj3 : (j : Int) < (j : Int) + 1 := by omega
    have hj5 : IntKind.i64.wrap (j : Int) = j := IntWalk.i64_in _ (by omega)
    clear gx x0 x2 hlw hv0
    go_quiet (fail)
    go_wp2_with fail
    go_ret2
    exact FolR.no HF2.out (below3 HA.out.bl (below_drewN _ _))
  have HF1 : Hid (pr = if (appS m l4 cs).1 ≠ 0 then none else if spcS m wk l4 (appS m l4 cs).2 ≠ (0, (appS m l4 cs).2) then none else some (appS m l4 cs).2) := Lib.hid (by rw [HFO.out, if_neg (by rw [hlv]; have := HNUM.out; omega)])
  have hlast2 : lastW l3 ≤ wk := by omega
  go_cut [41] (fun s wx => s = .bool false ∧ Below wb.heap.size wb wx)
  case first =>
    by_cases hv0 : vn = 0
    · subst hv0
      rw [show ((0 : Nat) : Int) = 0 from rfl]
      go_quiet (fail)
      go_wp2_with fail
      go_meet
      exact ⟨rfl, below_drewN _ _⟩
    obtain ⟨j, rfl⟩ : ∃ j, vn = j + 1 := ⟨vn - 1, by omega⟩
    obtain ⟨b1, o1, x, r, rfl, gx, z1, x0, x1, x2, _⟩ := VAt.cells (HVV.out.2.below HA.out.bl) (j := j) (by simp)
    have hlw : lastW l3 = x.2.1 := lastW_get (by rw [hlv]; exact gx)
    rw [hlw] at hlast2
    have hj0 : (0 : Int) ≤ j := by omega
    have hj1 : (0 : Int) < (j : Int) + 1 := by omega
    have hj2 : ((j : Int) + 1 - 1) = j := by omega
    have hj3 : (j : Int) < (j : Int) + 1 := by omega
    have hj5 : IntKind.i64.wrap (j : Int) = j := IntWalk.i64_in _ (by omega)
    clear gx x0 x2 hlw hv0 hlast
    go_quiet (fail)
    go_wp2_with fail
    go_meet
    exact ⟨by rw [decide_eq_false (by omega)], below_drewN _ _⟩
  case rest =>
    obtain ⟨rfl, hbc⟩ := hcut
    have HA := Lib.hid (HA.out.next hbc)
    have HB := Lib.hid (HB.out.next hbc)
    clear g0 g1 g2 g3 k0 k1 k2 hbc hlast2 hlast
    obtain ⟨⟨g0, g1, g2, g3⟩, _⟩ := HA.out.four
    have k1 := HB.out.cell 1
    have k2 := HB.out.cell 2
    simp only [List.getElem?_toArray, List.getElem?_cons_zero, List.getElem?_cons_succ] at k1 k2
    have AP := Lib.hid (apply_any sa sn sc l4 ca cn cc cs m wc (HSS.out.2.below HA.out.bl) HSK.out (HHV.out.2.below HA.out.bl) HCO.out (by omega) hec2 (HTT.out.below HA.out.bl) HSS.out.1)
    have hrs := app_sok m l4 cs
    obtain ⟨⟨r1, r2⟩, hr⟩ : ∃ r, appS m l4 cs = r := ⟨_, rfl⟩
    rw [hr] at AP HF1 hrs
    have HRS := Lib.hid hrs
    clear hr hrs HFO
    go_wp2_with fail
    refine AP.out.mono ?_
    rintro en w3 ⟨vy, rfl, hr3, hb3⟩
    obtain ⟨ya, yc, rfl, hyc, hys⟩ := SRow.sat hr3
    have HR3 := Lib.hid (row_base hr3 HA.out.bl.size)
    have HYS := Lib.hid hys
    have HA := Lib.hid (HA.out.next hb3)
    have HB := Lib.hid (HB.out.next hb3)
    clear g0 g1 g2 g3 k1 k2 hr3 hys hb3 AP
    obtain ⟨⟨g0, g1, g2, g3⟩, _⟩ := HA.out.four
    have k1 := HB.out.cell 1
    simp only [List.getElem?_toArray, List.getElem?_cons_zero, List.getElem?_cons_succ] at k1
    by_cases hr1 : r1 = 0
    rotate_left
    · have HF2 : Hid (pr = none) := Lib.hid (by rw [HF1.out, if_pos hr1])
      have hd3 : (r1 != 0) = true := by simpa using hr1
      clear hr1
      go_wp2_with fail
      go_ret2
      exact FolR.no HF2.out HA.out.bl
    subst hr1
    have HF2 : Hid (pr = if spcS m wk l4 r2 ≠ (0, r2) then none else some r2) := Lib.hid (by rw [HF1.out, if_neg (by simp)])
    have SP := Lib.hid (splice_any sa sn sc l4 ya r2.length yc r2 m wk w3 (HSS.out.2.below HA.out.bl) HSK.out HYS.out HRS.out ⟨by omega, by omega⟩ (HTT.out.below HA.out.bl) HSS.out.1 hyc)
    obtain ⟨⟨q1, q2⟩, hq⟩ : ∃ r, spcS m wk l4 r2 = r := ⟨_, rfl⟩
    rw [hq] at SP HF2
    clear hq HF1
    go_wp2_with fail
    refine SP.out.mono ?_
    rintro en w4 ⟨vz, rfl, hr4, hb4⟩
    obtain ⟨za, zc, rfl, hzc, hzs⟩ := SRow.sat hr4
    have EQ := Lib.hid (equalq_any ya r2.length yc za q2.length zc r2 q2 w4 (HYS.out.below hb4) hzs)
    have HR4 := Lib.hid (row_below HR3.out hb4)
    have HA4 := Lib.hid (below3 HA.out.bl hb4)
    clear g0 g1 g2 g3 k1 hr4 hzs hb4 SP
    cases hq0 : (q1 == 0)
    · have HF3 : Hid (pr = none) := Lib.hid (by
        rw [HF2.out, if_pos]
        intro h
        rw [beq_eq_false_iff_ne] at hq0
        exact hq0 (congrArg Prod.fst h))
      go_wp2_with fail
      go_ret2
      exact FolR.no HF3.out HA4.out
    have HF3 : Hid (pr = if q2 = r2 then some r2 else none) := Lib.hid (by
      rw [HF2.out, beq_iff_eq.1 hq0]
      by_cases h : q2 = r2
      · rw [if_pos h, h, if_neg (by simp)]
      · rw [if_neg h, if_pos (fun h2 => h (congrArg Prod.snd h2))])
    clear HF2
    obtain ⟨dd, hdd⟩ : ∃ dd, decide (r2 = q2) = dd := ⟨_, rfl⟩
    rw [hdd] at EQ
    have HDD := Lib.hid hdd
    clear hdd
    go_wp2_with fail
    refine EQ.out.mono ?_
    rintro en w5 ⟨rfl, hq5⟩
    have HA5 := Lib.hid (below3 HA4.out (drew_bel hq5))
    have HR5 := Lib.hid (row_below HR4.out (drew_bel hq5))
    clear hq5 EQ
    go_wp2_with fail
    go_ret2
    cases dd
    · exact FolR.no (by rw [HF3.out, if_neg (fun h => of_decide_eq_false HDD.out h.symm)]) HA5.out
    · exact FolR.yes (by rw [HF3.out, if_pos (of_decide_eq_true HDD.out).symm]) HR5.out HA5.out
end Go.Proofs.YtihbpggbpapcfaaGreatDoor

namespace Go.Proofs.YtihbpggbpapcfaaGreatDoor
open Go.RowKit

theorem catch_idle (p q r : Addr) (w : World) :
    CallsD Tryz.prog 60 #[.pointer (some p), .pointer (some q), .pointer (some r)] .returning w fun e u' w' => e = .returned (.tuple #[]) ∧ u' = .returning ∧ w' = w := by
  refine callsD_of_wpS Tryz.func60 rfl fun c₀ cs hu => ?_
  apply wpS_seq
  apply wpS_region
  simp [wpOpsS, go_sem, recoverD, hu, Tryz.ntmps60, Exit.thenS]
  apply wpS_seq
  apply wpS_region
  simp [wpOpsS, go_sem, Exit.thenS]
  refine wpS_cond (t := false) ?_ ?_
  · simp [Act.eval, Array.replicate]
  simp only [Bool.false_eq_true, if_false]
  refine wpS_of_wp (wp_skip ?_)
  cases c₀
  simp_all [bodyPostS, results, Tryz.results60]

theorem catch_bad (R0 R1 R2 : Nat) (n01 : R0 ≠ R1) (n02 : R0 ≠ R2) (n12 : R1 ≠ R2) (x0 x1 x2 x3 x4 : Value) (u : TypeId) (pv : Value) (older : List PanicEntry) (w : World)
    (h0 : w.cell? ⟨R0, 0, none⟩ = some x0) (h1 : w.cell? ⟨R0, 1, none⟩ = some x1) (h2 : w.cell? ⟨R0, 2, none⟩ = some x2) (h3 : w.cell? ⟨R1, 0, none⟩ = some x3) (h4 : w.cell? ⟨R2, 0, none⟩ = some x4)
    (z0 : w.frozen? ⟨R0, 0, none⟩ = false) (z1 : w.frozen? ⟨R0, 1, none⟩ = false) (z2 : w.frozen? ⟨R0, 2, none⟩ = false) (z3 : w.frozen? ⟨R1, 0, none⟩ = false) (z4 : w.frozen? ⟨R2, 0, none⟩ = false) :
    CallsD Tryz.prog 60 #[.pointer (some ⟨R0, 0, none⟩), .pointer (some ⟨R1, 0, none⟩), .pointer (some ⟨R2, 0, none⟩)] (.panicking ({ v := .iface u pv, recovered := false } :: older)) w fun e u' w' =>
      e = .returned (.tuple #[]) ∧ u' = .panicking ({ v := .iface u pv, recovered := true } :: older) ∧ w' = ((((w.setCell ⟨R0, 0, none⟩ (.int .i64 0)).setCell ⟨R0, 1, none⟩ (.int .i64 0)).setCell ⟨R0, 2, none⟩ (.slice none 0 0)).setCell ⟨R1, 0, none⟩ (.int .i64 0)).setCell ⟨R2, 0, none⟩ (.bool false) := by
  have e3 : ∀ u, (w.setCell ⟨R0, 0, none⟩ u).cell? ⟨R1, 0, none⟩ = some x3 := fun u => set_far h3 n01
  have e4 : ∀ u v, ((w.setCell ⟨R0, 0, none⟩ u).setCell ⟨R1, 0, none⟩ v).cell? ⟨R2, 0, none⟩ = some x4 := fun u v => set_far (set_far h4 n02) n12
  refine callsD_of_wpS Tryz.func60 rfl fun c₀ cs hu => ?_
  apply wpS_seq
  apply wpS_region
  simp [wpOpsS, go_sem, recoverD, hu, Tryz.ntmps60, Exit.thenS]
  apply wpS_seq
  apply wpS_region
  simp [wpOpsS, go_sem, Exit.thenS]
  refine wpS_cond (t := true) ?_ ?_
  · simp [Act.eval, Array.replicate]
  simp only [if_true]
  apply wpS_region
  simp [wpOpsS, go_sem, h0, h1, h2, h4, e3, z0, z1, z2, z3, z4, bodyPostS, results, Tryz.results60]
end Go.Proofs.YtihbpggbpapcfaaGreatDoor
