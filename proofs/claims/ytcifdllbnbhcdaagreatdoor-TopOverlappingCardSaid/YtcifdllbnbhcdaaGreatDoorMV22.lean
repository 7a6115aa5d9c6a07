/- Texts V103, joined: walks and laws. -/
import Derived.Test.YtcifdllbnbhcdaaGreatDoorMV21
set_option linter.unusedSimpArgs false
set_option linter.unusedVariables false
namespace Go.Proofs.YtcifdllbnbhcdaaGreatDoor
open Go.RowKit
theorem BX.kept {w0 w w' : World} {R B2 : Nat} {vs : Array Value} {T e2 : TypeId} {s2 n2 : Nat} {v2 : Value} {xs2 : List Value} (h : BX w0 w R vs T) (h2 : w.ownsRow B2 e2 s2 v2 n2 xs2) (hT : T ≠ e2) (hg : w.grownBy w' v2.ownBlock) (hb : Below w0.heap.size w0 w') : BX w0 w' R vs T := by
  refine ⟨(hg.block R (lt_of_heap h.hp) (fun e => ?_)).trans h.hp, h.lo, hb⟩
  obtain ⟨c, fz, hc⟩ := Lib.ownsRow_kind h2 R e.symm
  rw [h.hp] at hc
  simp only [Option.some.injEq, Obj.cells.injEq] at hc
  exact hT hc.2.1
theorem HRow.keptB {w w' : World} {B B2 : Nat} {v v2 : Value} {cs : List Chg} {l : L8} (h : HRow w B v cs) (h2 : KRow bytC 1 5 w B2 v2 l) (hg : w.grownBy w' v2.ownBlock) : HRow w' B v cs := by
  obtain ⟨rs, h3, h4⟩ := h
  exact ⟨rs, row_kept h3 h2 (by decide) hg, h4.imp fun _ _ hr => ⟨hr.1, row_kept hr.2.1 h2 (by decide) hg, row_kept hr.2.2 h2 (by decide) hg⟩⟩
theorem VRow.keptB {w w' : World} {B B2 : Nat} {v v2 : Value} {vs : List Ver} {l : L8} (h : VRow w B v vs) (h2 : KRow bytC 1 5 w B2 v2 l) (hg : w.grownBy w' v2.ownBlock) : VRow w' B v vs := by
  obtain ⟨rs, h3, h4⟩ := h
  exact ⟨rs, row_kept h3 h2 (by decide) hg, h4.imp fun _ _ hr => ⟨hr.1, hr.2.1, hr.2.2.keptB h2 hg⟩⟩
set_option maxRecDepth 100000 in
set_option maxHeartbeats 16000000 in
theorem publish_any (va : Value) (l : Lg) (m k : Int) (a : Option Addr) (n c : Nat) (next : List Ses) (w : World) (ha : LogP w va l) (hx : SAt w a n next) (hs : SOk next) (hc : n ≤ c) (hk : -9223372036854775808 ≤ k ∧ k ≤ 9223372036854775807) (hE : Env w) (hnl : n ≤ 1000000) :
    Calls Tryz.prog 198 #[va, .int .i64 m, .int .i64 k, .slice a n c] w (ResO (pubS m k l next) w) := by
  obtain ⟨hk1, hk2⟩ := hk
  have HV := Lib.hid (fun W (h : Below w.heap.size w W) => vldP va l m W (ha.below h) (hE.below h))
  have VS := Lib.hid (fun W (h : Below w.heap.size w W) => valid_any a n c next m W (hx.below h) hs (hE.below h).tz hc)
  have TW := Lib.hid (fun W (h : Below w.heap.size w W) (hv : vldL m l = true) => twin_any va l W (ha.below h).logR (vld_small hv).1 (vld_small hv).2.1 (by have := (vld_small hv).2.2.1; omega) (vld_small hv).2.2.2)
  have HE := Lib.hid hE
  obtain ⟨⟨da, dn, dc⟩, ⟨va, vn, vc⟩, ⟨sa, sn, sc⟩, rfl, hd, _, hv, hss⟩ := ha
  obtain ⟨l1, l2, l3, l4⟩ := l
  simp only at hd hv hss
  have hln : l1.length = dn := hd.2.1
  have hlv : l3.length = vn := hv.2.len.1
  have hls : l4.length = sn := hss.2.1
  have HPF : Hid (pubS m k (l1, l2, l3, l4) next = if vldL m (l1, l2, l3, l4) = false then (1, lgZ) else if vldS next m ≠ 0 then (vldS next m, lgZ) else if k < 1 ∨ m < k ∨ k < lastW l3 then (63, lgZ) else if spcS m k l4 next ≠ (0, next) then (66, lgZ) else if (difS m l4 next).2 = [] then (16, lgZ) else if frmV ((l3.length : Int) + 1, k, (difS m l4 next).2) = false ∨ 1048576 < l1.length + (encV ((l3.length : Int) + 1, k, (difS m l4 next).2)).length then (67, lgZ) else (0, (l1 ++ encV ((l3.length : Int) + 1, k, (difS m l4 next).2), l2, l3 ++ [((l3.length : Int) + 1, k, (difS m l4 next).2)], next))) := Lib.hid rfl
  have HA := Lib.hid (BX.mk0 (vs := #[.slice da dn dc, .int .i64 l2, .slice va vn vc, .slice sa sn sc]) (T := 68) w)
  have HD := Lib.hid hd
  have HVV := Lib.hid hv
  have HSS := Lib.hid hss
  have HX := Lib.hid hx
  have HS := Lib.hid hs
  clear hd hv hss hx hs hE
  change Hid (∀ W, Below w.heap.size w W → Calls _ _ #[.agg #[.slice da dn dc, .int .i64 l2, .slice va vn vc, .slice sa sn sc], .int .i64 m] W _) at HV
  change Hid (∀ W, Below w.heap.size w W → _ → Calls _ _ #[.agg #[.slice da dn dc, .int .i64 l2, .slice va vn vc, .slice sa sn sc]] W _) at TW
  show Calls _ _ #[.agg #[.slice da dn dc, .int .i64 l2, .slice va vn vc, .slice sa sn sc], .int .i64 m, .int .i64 k, .slice a n c] w _
  have HLK : Hid (vldL m (l1, l2, l3, l4) = true → _) := Lib.hid (fun h => vld_log h)
  have HSV : Hid (spcS m k l4 next = (0, next) → vldS l4 m = 0) := Lib.hid (fun h => spc_va h)
  generalize vldL m (l1, l2, l3, l4) = q at *
  generalize pubS m k (l1, l2, l3, l4) next = pr at *
  obtain ⟨e1, he1⟩ : ∃ e, vldS next m = e := ⟨_, rfl⟩
  have HE1 := Lib.hid he1
  rw [he1] at VS HPF
  clear he1
  go_enter Tryz.func198, Tryz.ntmps198
  go_upto_region 1 with fail
  have hsa : (w.alloc (.cells #[.slice da dn dc, .int .i64 l2, .slice va vn vc, .slice sa sn sc] 68)).heap.size = w.heap.size + 1 := by simp
  generalize w.alloc (.cells #[.slice da dn dc, .int .i64 l2, .slice va vn vc, .slice sa sn sc] 68) = wa at *
  obtain ⟨R, hR⟩ : ∃ R, R = w.heap.size := ⟨_, rfl⟩
  rw [← hR] at HA hsa ⊢
  clear hR
  have HB := Lib.hid (BX.mk0 (vs := #[.slice none 0 0, .int .i64 0, .slice none 0 0, .slice none 0 0]) (T := 68) wa)
  rw [hsa] at HB
  clear hsa
  generalize wa.alloc (.cells #[.slice none 0 0, .int .i64 0, .slice none 0 0, .slice none 0 0] 68) = wb at *
  obtain ⟨R2, hR2⟩ : ∃ R2, R2 = R + 1 := ⟨_, rfl⟩
  rw [← hR2] at HB ⊢
  have hne : R2 ≠ R := by omega
  have hle : R ≤ R2 := by omega
  clear hR2
  have HA := Lib.hid (HA.out.next HB.out.bl)
  have HB : Hid (BX w wb R2 _ _) := Lib.hid ⟨HB.out.hp, Nat.le_trans HA.out.lo hle, HA.out.bl⟩
  obtain ⟨⟨g0, g1, g2, g3⟩, gf0, gf1, gf2, gf3⟩ := HA.out.four
  go_wp2_with fail
  refine (HV.out _ HA.out.bl).mono ?_
  rintro en w1 ⟨rfl, hb1⟩
  have HA := Lib.hid (HA.out.next hb1)
  have HB := Lib.hid (HB.out.next hb1)
  clear g0 g1 g2 g3 gf0 gf1 gf2 gf3
  obtain ⟨⟨g0, g1, g2, g3⟩, gf0, gf1, gf2, gf3⟩ := HA.out.four
  clear hb1 HV
  cases q
  · have HF2 : Hid (pr = (1, lgZ)) := Lib.hid (by rw [HPF.out, if_pos rfl])
    obtain ⟨⟨rc0, rc1, rc2, rc3⟩, rf0, rf1, rf2, rf3⟩ := HB.out.four
    have HR9 := Lib.hid (HB.out.set4 (.slice none 0 0) (.int .i64 0) (.slice none 0 0) (.slice none 0 0))
    go_wp2_with fail
    generalize (((World.setCell w1 ⟨R2, 0, none⟩ (.slice none 0 0)).setCell ⟨R2, 1, none⟩ (.int .i64 0)).setCell ⟨R2, 2, none⟩ (.slice none 0 0)).setCell ⟨R2, 3, none⟩ (.slice none 0 0) = W9 at *
    clear rc0 rc1 rc2 rc3 rf0 rf1 rf2 rf3
    obtain ⟨⟨rc0, rc1, rc2, rc3⟩, _⟩ := HR9.out.four
    refine bodyPost_ret (v := .tuple #[.agg #[.slice none 0 0, .int .i64 0, .slice none 0 0, .slice none 0 0], .int .i64 1]) (by simp [results, Tryz.results198, go_sem, rc0, rc1, rc2, rc3]) rfl ?_
    rw [HF2.out]
    exact ⟨_, rfl, LogO.zero _ _, HR9.out.bl⟩
  have HPG : Hid (pr = if e1 ≠ 0 then (e1, lgZ) else if k < 1 ∨ m < k ∨ k < lastW l3 then (63, lgZ) else if spcS m k l4 next ≠ (0, next) then (66, lgZ) else if (difS m l4 next).2 = [] then (16, lgZ) else if frmV ((l3.length : Int) + 1, k, (difS m l4 next).2) = false ∨ 1048576 < l1.length + (encV ((l3.length : Int) + 1, k, (difS m l4 next).2)).length then (67, lgZ) else (0, (l1 ++ encV ((l3.length : Int) + 1, k, (difS m l4 next).2), l2, l3 ++ [((l3.length : Int) + 1, k, (difS m l4 next).2)], next))) := Lib.hid (by rw [HPF.out, if_neg (by simp)])
  obtain ⟨⟨m1, m2⟩, hdl, ⟨hl20, hl21⟩, HLF, HLS, hvl⟩ := HLK.out rfl
  have HLF := Lib.hid HLF
  have HLS := Lib.hid HLS
  clear HLK
  have HLW0 : Hid (vn = 0 → lastW l3 = 1) := Lib.hid (fun h => by rw [List.eq_nil_of_length_eq_zero (hlv.trans h)]; rfl)
  go_wp2_with fail
  refine (VS.out _ HA.out.bl).mono ?_
  rintro en w2 ⟨rfl, hb2⟩
  have HA := Lib.hid (HA.out.next hb2)
  have HB := Lib.hid (HB.out.next hb2)
  clear g0 g1 g2 g3 gf0 gf1 gf2 gf3
  obtain ⟨⟨g0, g1, g2, g3⟩, gf0, gf1, gf2, gf3⟩ := HA.out.four
  clear hb2 VS
  by_cases hz : e1 = 0
  rotate_left
  · have HF2 : Hid (pr = (e1, lgZ)) := Lib.hid (by rw [HPG.out, if_pos hz])
    have hd : (e1 != 0) = true := by simpa using hz
    clear hz
    obtain ⟨⟨rc0, rc1, rc2, rc3⟩, rf0, rf1, rf2, rf3⟩ := HB.out.four
    have HR9 := Lib.hid (HB.out.set4 (.slice none 0 0) (.int .i64 0) (.slice none 0 0) (.slice none 0 0))
    go_wp2_with fail
    generalize (((World.setCell w2 ⟨R2, 0, none⟩ (.slice none 0 0)).setCell ⟨R2, 1, none⟩ (.int .i64 0)).setCell ⟨R2, 2, none⟩ (.slice none 0 0)).setCell ⟨R2, 3, none⟩ (.slice none 0 0) = W9 at *
    clear rc0 rc1 rc2 rc3 rf0 rf1 rf2 rf3
    obtain ⟨⟨rc0, rc1, rc2, rc3⟩, _⟩ := HR9.out.four
    refine bodyPost_ret (v := .tuple #[.agg #[.slice none 0 0, .int .i64 0, .slice none 0 0, .slice none 0 0], .int .i64 e1]) (by simp [results, Tryz.results198, go_sem, rc0, rc1, rc2, rc3]) rfl ?_
    rw [HF2.out]
    exact ⟨_, rfl, LogO.zero _ _, HR9.out.bl⟩
  have HPH : Hid (pr = if k < 1 ∨ m < k ∨ k < lastW l3 then (63, lgZ) else if spcS m k l4 next ≠ (0, next) then (66, lgZ) else if (difS m l4 next).2 = [] then (16, lgZ) else if frmV ((l3.length : Int) + 1, k, (difS m l4 next).2) = false ∨ 1048576 < l1.length + (encV ((l3.length : Int) + 1, k, (difS m l4 next).2)).length then (67, lgZ) else (0, (l1 ++ encV ((l3.length : Int) + 1, k, (difS m l4 next).2), l2, l3 ++ [((l3.length : Int) + 1, k, (difS m l4 next).2)], next))) := Lib.hid (by rw [HPG.out, if_neg (by simpa using hz)])
  have HE1 : Hid (vldS next m = 0) := Lib.hid (by rw [HE1.out, hz])
  subst hz
  have hvn8 : vn ≤ 1048576 := by omega
  go_upto_region 7 with fail
  go_cut [56] (fun s55 wx => s55 = .bool (decide (k < 1 ∨ m < k ∨ k < lastW l3)) ∧ wx = w2)
  case first =>
    by_cases hb1 : k < 1
    · have hdd : decide (k < 1 ∨ m < k ∨ k < lastW l3) = true := decide_eq_true (Or.inl hb1)
      have HDD := Lib.hid hdd
      clear hdd
      go_wp2_with fail
      go_meet
      exact ⟨by (first | (rw [HDD.out]; done) | (rw [HDD.out]; congr 1; simp <;> omega)), rfl⟩
    have hk3 : 1 ≤ k := by omega
    clear hb1
    by_cases hb2 : m < k
    · have hdd : decide (k < 1 ∨ m < k ∨ k < lastW l3) = true := decide_eq_true (Or.inr (Or.inl hb2))
      have HDD := Lib.hid hdd
      clear hdd
      go_wp2_with fail
      go_meet
      exact ⟨by (first | (rw [HDD.out]; done) | (rw [HDD.out]; congr 1; simp <;> omega)), rfl⟩
    have hk4 : k ≤ m := by omega
    clear hb2
    by_cases hv0 : vn = 0
    · have hdd : decide (k < 1 ∨ m < k ∨ k < lastW l3) = false := decide_eq_false (by have := HLW0.out hv0; omega)
      have HDD := Lib.hid hdd
      clear hdd
      subst hv0
      go_wp2_with fail
      go_meet
      exact ⟨by (first | (rw [HDD.out]; done) | (rw [HDD.out]; congr 1; simp <;> omega)), rfl⟩
    obtain ⟨j, rfl⟩ : ∃ j, vn = j + 1 := ⟨vn - 1, by omega⟩
    obtain ⟨b1, o1, x, r, rfl, gx, z1, x0, x1, x2, _⟩ := VAt.cells (HVV.out.2.below HA.out.bl) (j := j) (by simp)
    have hlw : lastW l3 = x.2.1 := lastW_get (by rw [hlv]; exact gx)
    have hj0 : (0 : Int) ≤ j := by omega
    have hj1 : (0 : Int) < (j : Int) + 1 := by omega
    have hj2 : ((j : Int) + 1 - 1) = j := by omega
    have hj3 : (j : Int) < (j : Int) + 1 := by omega
    have hj5 : IntKind.i64.wrap (j : Int) = j := IntWalk.i64_in _ (by omega)
    have HLW := Lib.hid hlw
    clear hlw gx x0 x2 hv0
    by_cases hlast : k < x.2.1
    · have hdd : decide (k < 1 ∨ m < k ∨ k < lastW l3) = true := decide_eq_true (by rw [HLW.out]; omega)
      have HDD := Lib.hid hdd
      clear hdd
      go_wp2_with fail
      go_meet
      exact ⟨by (first | (rw [HDD.out]; done) | (rw [HDD.out]; congr 1; simp <;> omega)), rfl⟩
    · have hdd : decide (k < 1 ∨ m < k ∨ k < lastW l3) = false := decide_eq_false (by rw [HLW.out]; omega)
      have HDD := Lib.hid hdd
      clear hdd
      have hlast' : x.2.1 ≤ k := by omega
      clear hlast
      go_wp2_with fail
      go_meet
      exact ⟨by (first | (rw [HDD.out]; done) | (rw [HDD.out]; congr 1; simp <;> omega)), rfl⟩
  case rest =>
    obtain ⟨rfl, hwc⟩ := hcut
    subst hwc
    by_cases hord : k < 1 ∨ m < k ∨ k < lastW l3
    · have HF2 : Hid (pr = (63, lgZ)) := Lib.hid (by rw [HPH.out, if_pos hord])
      rw [decide_eq_true hord]
      clear hord
      obtain ⟨⟨rc0, rc1, rc2, rc3⟩, rf0, rf1, rf2, rf3⟩ := HB.out.four
      have HR9 := Lib.hid (HB.out.set4 (.slice none 0 0) (.int .i64 0) (.slice none 0 0) (.slice none 0 0))
      go_wp2_with fail
      generalize (((World.setCell wc ⟨R2, 0, none⟩ (.slice none 0 0)).setCell ⟨R2, 1, none⟩ (.int .i64 0)).setCell ⟨R2, 2, none⟩ (.slice none 0 0)).setCell ⟨R2, 3, none⟩ (.slice none 0 0) = W9 at *
      clear rc0 rc1 rc2 rc3 rf0 rf1 rf2 rf3
      obtain ⟨⟨rc0, rc1, rc2, rc3⟩, _⟩ := HR9.out.four
      refine bodyPost_ret (v := .tuple #[.agg #[.slice none 0 0, .int .i64 0, .slice none 0 0, .slice none 0 0], .int .i64 63]) (by simp [results, Tryz.results198, go_sem, rc0, rc1, rc2, rc3]) rfl ?_
      rw [HF2.out]
      exact ⟨_, rfl, LogO.zero _ _, HR9.out.bl⟩
    have HPI : Hid (pr = if spcS m k l4 next ≠ (0, next) then (66, lgZ) else if (difS m l4 next).2 = [] then (16, lgZ) else if frmV ((l3.length : Int) + 1, k, (difS m l4 next).2) = false ∨ 1048576 < l1.length + (encV ((l3.length : Int) + 1, k, (difS m l4 next).2)).length then (67, lgZ) else (0, (l1 ++ encV ((l3.length : Int) + 1, k, (difS m l4 next).2), l2, l3 ++ [((l3.length : Int) + 1, k, (difS m l4 next).2)], next))) := Lib.hid (by rw [HPH.out, if_neg hord])
    have hk3 : 1 ≤ k := by omega
    have hk4 : k ≤ m := by omega
    rw [decide_eq_false hord]
    clear hord
    have SP := Lib.hid (fun W (h : Below w.heap.size w W) => splice_any sa sn sc l4 a n c next m k W (HSS.out.2.below h) HLS.out (HX.out.below h) HS.out ⟨hk1, hk2⟩ (HE.out.below h).tz HSS.out.1 hc)
    have DF := Lib.hid (fun W (h : Below w.heap.size w W) => diff_any sa sn sc l4 a n c next m W (HSS.out.2.below h) HLS.out (HX.out.below h) HS.out (HE.out.below h).tz HSS.out.1 hc)
    obtain ⟨⟨r1, r2⟩, hr⟩ : ∃ r, spcS m k l4 next = r := ⟨_, rfl⟩
    rw [hr] at SP HPI HSV
    clear hr
    go_wp2_with fail
    refine (SP.out _ HA.out.bl).mono ?_
    rintro en w3 ⟨vy, rfl, hr3, hb3⟩
    obtain ⟨ya, yc, rfl, hyc, hys⟩ := SRow.sat hr3
    have HA := Lib.hid (HA.out.next hb3)
    have HB := Lib.hid (HB.out.next hb3)
    clear g0 g1 g2 g3 gf0 gf1 gf2 gf3
    obtain ⟨⟨g0, g1, g2, g3⟩, gf0, gf1, gf2, gf3⟩ := HA.out.four
    have SM := Lib.hid (equalq_any ya r2.length yc a n c r2 next w3 hys (HX.out.below HA.out.bl))
    clear hb3 hr3 hys SP
    by_cases hr1 : r1 = 0
    rotate_left
    · have HF2 : Hid (pr = (66, lgZ)) := Lib.hid (by rw [HPI.out, if_pos (fun h => hr1 (congrArg Prod.fst h))])
      have hd3 : (r1 != 0) = true := by simpa using hr1
      clear hr1
      obtain ⟨⟨rc0, rc1, rc2, rc3⟩, rf0, rf1, rf2, rf3⟩ := HB.out.four
      have HR9 := Lib.hid (HB.out.set4 (.slice none 0 0) (.int .i64 0) (.slice none 0 0) (.slice none 0 0))
      go_wp2_with fail
      generalize (((World.setCell w3 ⟨R2, 0, none⟩ (.slice none 0 0)).setCell ⟨R2, 1, none⟩ (.int .i64 0)).setCell ⟨R2, 2, none⟩ (.slice none 0 0)).setCell ⟨R2, 3, none⟩ (.slice none 0 0) = W9 at *
      clear rc0 rc1 rc2 rc3 rf0 rf1 rf2 rf3
      obtain ⟨⟨rc0, rc1, rc2, rc3⟩, _⟩ := HR9.out.four
      refine bodyPost_ret (v := .tuple #[.agg #[.slice none 0 0, .int .i64 0, .slice none 0 0, .slice none 0 0], .int .i64 66]) (by simp [results, Tryz.results198, go_sem, rc0, rc1, rc2, rc3]) rfl ?_
      rw [HF2.out]
      exact ⟨_, rfl, LogO.zero _ _, HR9.out.bl⟩
    have hd3 : (r1 != 0) = false := by simpa using hr1
    subst hr1
    go_wp2_with fail
    refine SM.out.mono ?_
    rintro en w4 ⟨rfl, hq4⟩
    have hb4 := drew_bel hq4
    have HA := Lib.hid (HA.out.next hb4)
    have HB := Lib.hid (HB.out.next hb4)
    clear g0 g1 g2 g3 gf0 gf1 gf2 gf3
    obtain ⟨⟨g0, g1, g2, g3⟩, gf0, gf1, gf2, gf3⟩ := HA.out.four
    clear hb4 hq4 SM
    by_cases hr2 : r2 = next
    rotate_left
    · have HF2 : Hid (pr = (66, lgZ)) := Lib.hid (by rw [HPI.out, if_pos (fun h => hr2 (congrArg Prod.snd h))])
      rw [decide_eq_false hr2]
      clear hr2
      obtain ⟨⟨rc0, rc1, rc2, rc3⟩, rf0, rf1, rf2, rf3⟩ := HB.out.four
      have HR9 := Lib.hid (HB.out.set4 (.slice none 0 0) (.int .i64 0) (.slice none 0 0) (.slice none 0 0))
      go_wp2_with fail
      generalize (((World.setCell w4 ⟨R2, 0, none⟩ (.slice none 0 0)).setCell ⟨R2, 1, none⟩ (.int .i64 0)).setCell ⟨R2, 2, none⟩ (.slice none 0 0)).setCell ⟨R2, 3, none⟩ (.slice none 0 0) = W9 at *
      clear rc0 rc1 rc2 rc3 rf0 rf1 rf2 rf3
      obtain ⟨⟨rc0, rc1, rc2, rc3⟩, _⟩ := HR9.out.four
      refine bodyPost_ret (v := .tuple #[.agg #[.slice none 0 0, .int .i64 0, .slice none 0 0, .slice none 0 0], .int .i64 66]) (by simp [results, Tryz.results198, go_sem, rc0, rc1, rc2, rc3]) rfl ?_
      rw [HF2.out]
      exact ⟨_, rfl, LogO.zero _ _, HR9.out.bl⟩
    have HPJ : Hid (pr = if (difS m l4 next).2 = [] then (16, lgZ) else if frmV ((l3.length : Int) + 1, k, (difS m l4 next).2) = false ∨ 1048576 < l1.length + (encV ((l3.length : Int) + 1, k, (difS m l4 next).2)).length then (67, lgZ) else (0, (l1 ++ encV ((l3.length : Int) + 1, k, (difS m l4 next).2), l2, l3 ++ [((l3.length : Int) + 1, k, (difS m l4 next).2)], next))) := Lib.hid (by rw [HPI.out, if_neg (by rw [hr2]; simp)])
    have hv4 := HSV.out (by rw [hr2])
    obtain ⟨hcc, hco⟩ := dif_facts hv4 HE1.out
    have HCO := Lib.hid hco
    rw [decide_eq_true hr2]
    clear hr2 hv4 hco HSV
    obtain ⟨⟨x1, cs⟩, hr⟩ : ∃ r, difS m l4 next = r := ⟨_, rfl⟩
    rw [hr] at DF HPJ hcc HCO
    simp only at HPJ hcc HCO
    clear hr
    go_wp2_with fail
    refine (DF.out _ HA.out.bl).mono ?_
    rintro en w5 ⟨vd, rfl, hh5, hb5⟩
    have HBo := HB
    have HA := Lib.hid (HA.out.next hb5)
    have HB := Lib.hid (HB.out.next hb5)
    clear g0 g1 g2 g3 gf0 gf1 gf2 gf3
    obtain ⟨⟨g0, g1, g2, g3⟩, gf0, gf1, gf2, gf3⟩ := HA.out.four
    have HH := Lib.hid hh5
    have hB5 : R2 < w4.heap.size := by have := HBo.out.lt; omega
    obtain ⟨⟨ta, tn, tc⟩, hvd, hhv⟩ := hh5.hv
    replace hvd : vd = .slice ta tn tc := hvd
    subst hvd
    have hct : cs.length = tn := hhv.2.len.1
    clear hhv hh5 hb5 DF
    have hcl : cs.length ≤ 40000 := Nat.le_trans (cnt_ge cs).1 hcc
    have HHZ : Hid (∀ c ∈ cs, c.2.1.length * 64 ≤ 140737488355328 ∧ c.2.2.length * 64 ≤ 140737488355328) := Lib.hid (fun c hc => by have := (cnt_le cs).2 c hc; omega)
    by_cases ht0 : tn = 0
    · have HF2 : Hid (pr = (16, lgZ)) := Lib.hid (by rw [HPJ.out, if_pos (List.eq_nil_of_length_eq_zero (hct.trans ht0))])
      subst ht0
      obtain ⟨⟨rc0, rc1, rc2, rc3⟩, rf0, rf1, rf2, rf3⟩ := HB.out.four
      have HR9 := Lib.hid (HB.out.set4 (.slice none 0 0) (.int .i64 0) (.slice none 0 0) (.slice none 0 0))
      go_wp2_with fail
      generalize (((World.setCell w5 ⟨R2, 0, none⟩ (.slice none 0 0)).setCell ⟨R2, 1, none⟩ (.int .i64 0)).setCell ⟨R2, 2, none⟩ (.slice none 0 0)).setCell ⟨R2, 3, none⟩ (.slice none 0 0) = W9 at *
      clear rc0 rc1 rc2 rc3 rf0 rf1 rf2 rf3
      obtain ⟨⟨rc0, rc1, rc2, rc3⟩, _⟩ := HR9.out.four
      refine bodyPost_ret (v := .tuple #[.agg #[.slice none 0 0, .int .i64 0, .slice none 0 0, .slice none 0 0], .int .i64 16]) (by simp [results, Tryz.results198, go_sem, rc0, rc1, rc2, rc3]) rfl ?_
      rw [HF2.out]
      exact ⟨_, rfl, LogO.zero _ _, HR9.out.bl⟩
    have hd5 : ((tn : Int) == 0) = false := by rw [beq_eq_false_iff_ne]; omega
    have HPK : Hid (pr = if frmV ((l3.length : Int) + 1, k, cs) = false ∨ 1048576 < l1.length + (encV ((l3.length : Int) + 1, k, cs)).length then (67, lgZ) else (0, (l1 ++ encV ((l3.length : Int) + 1, k, cs), l2, l3 ++ [((l3.length : Int) + 1, k, cs)], next))) := Lib.hid (by rw [HPJ.out, if_neg (fun h => ht0 (by rw [← hct, h]; rfl))])
    rw [hlv] at HPK
    have hwv : IntKind.i64.wrap ((vn : Int) + 1) = (vn : Int) + 1 := IntWalk.i64_in _ (by omega)
    have HC := Lib.hid (BX.mk0 (vs := #[.int .i64 ((vn : Int) + 1), .int .i64 k, .slice ta tn tc]) (T := 157) w5)
    go_upto_region 16 with fail
    generalize w5.alloc (.cells #[.int .i64 ((vn : Int) + 1), .int .i64 k, .slice ta tn tc] 157) = w6 at *
    obtain ⟨C, hC⟩ : ∃ C, C = w5.heap.size := ⟨_, rfl⟩
    rw [← hC] at HC ⊢
    have hR2C : R2 < C := by rw [hC]; exact HB.out.lt
    clear hC
    have hb6 := HC.out.bl
    have HA := Lib.hid (HA.out.next hb6)
    have HB := Lib.hid (HB.out.next hb6)
    clear g0 g1 g2 g3 gf0 gf1 gf2 gf3
    obtain ⟨⟨g0, g1, g2, g3⟩, gf0, gf1, gf2, gf3⟩ := HA.out.four
    have HH := Lib.hid (HH.out.below hb6)
    have EN := Lib.hid (encode_any ((vn : Int) + 1, k, cs) (ta, tn, tc) w6 (hv_of HH.out) (fun c hc => HCO.out c hc) (HE.out.below HA.out.bl) (by simp only; omega) HHZ.out (fun h => enc_small h (by simp only; omega)))
    clear hb6
    have q0 := HC.out.cell 0
    have q1 := HC.out.cell 1
    have q2 := HC.out.cell 2
    simp only [List.getElem?_toArray, List.getElem?_cons_zero, List.getElem?_cons_succ] at q0 q1 q2
    obtain ⟨fr, hfr⟩ : ∃ b, frmV ((vn : Int) + 1, k, cs) = b := ⟨_, rfl⟩
    have HZ := Lib.hid (fun h => enc_small (v := ((vn : Int) + 1, k, cs)) h (by simp only; omega))
    have HFR := Lib.hid hfr
    rw [hfr] at EN HPK HZ
    clear hfr
    generalize encV ((vn : Int) + 1, k, cs) = E at *
    cases fr
    · have HF2 : Hid (pr = (67, lgZ)) := Lib.hid (by rw [HPK.out, if_pos (Or.inl rfl)])
      go_wp2_with fail
      refine EN.out.mono ?_
      rintro en w7 ⟨⟨ea, en7, ec⟩, rfl, hbe, hb7⟩
      have HA := Lib.hid (HA.out.next hb7)
      have HB := Lib.hid (HB.out.next hb7)
      clear g0 g1 g2 g3 gf0 gf1 gf2 gf3
      obtain ⟨⟨g0, g1, g2, g3⟩, gf0, gf1, gf2, gf3⟩ := HA.out.four
      clear hb7 hbe q0 q1 q2
      obtain ⟨⟨rc0, rc1, rc2, rc3⟩, rf0, rf1, rf2, rf3⟩ := HB.out.four
      have HR9 := Lib.hid (HB.out.set4 (.slice none 0 0) (.int .i64 0) (.slice none 0 0) (.slice none 0 0))
      go_wp2_with fail
      generalize (((World.setCell w7 ⟨R2, 0, none⟩ (.slice none 0 0)).setCell ⟨R2, 1, none⟩ (.int .i64 0)).setCell ⟨R2, 2, none⟩ (.slice none 0 0)).setCell ⟨R2, 3, none⟩ (.slice none 0 0) = W9 at *
      clear rc0 rc1 rc2 rc3 rf0 rf1 rf2 rf3
      obtain ⟨⟨rc0, rc1, rc2, rc3⟩, _⟩ := HR9.out.four
      refine bodyPost_ret (v := .tuple #[.agg #[.slice none 0 0, .int .i64 0, .slice none 0 0, .slice none 0 0], .int .i64 67]) (by simp [results, Tryz.results198, go_sem, rc0, rc1, rc2, rc3]) rfl ?_
      rw [HF2.out]
      exact ⟨_, rfl, LogO.zero _ _, HR9.out.bl⟩
    have hz := HZ.out rfl
    go_wp2_with fail
    refine EN.out.mono ?_
    rintro en w7 ⟨⟨ea, en7, ec⟩, rfl, hbe, hb7⟩
    simp only [if_true] at hbe
    have hel : E.length = en7 := hbe.2.1
    have HBE := Lib.hid hbe
    have HA := Lib.hid (HA.out.next hb7)
    have HB := Lib.hid (HB.out.next hb7)
    clear g0 g1 g2 g3 gf0 gf1 gf2 gf3
    obtain ⟨⟨g0, g1, g2, g3⟩, gf0, gf1, gf2, gf3⟩ := HA.out.four
    have HC := Lib.hid (HC.out.next hb7)
    have HH := Lib.hid (HH.out.below hb7)
    clear hb7 hbe EN HZ q0 q1 q2
    have hsum : IntKind.i64.wrap ((dn : Int) + (en7 : Int)) = (dn : Int) + (en7 : Int) := IntWalk.i64_in _ (by omega)
    by_cases hfull : 1048576 < dn + en7
    · have HF2 : Hid (pr = (67, lgZ)) := Lib.hid (by rw [HPK.out, if_pos (Or.inr (by rw [hln, hel]; exact hfull))])
      have hf2 : (1048576 : Int) < (dn : Int) + (en7 : Int) := by omega
      clear hfull
      obtain ⟨⟨rc0, rc1, rc2, rc3⟩, rf0, rf1, rf2, rf3⟩ := HB.out.four
      have HR9 := Lib.hid (HB.out.set4 (.slice none 0 0) (.int .i64 0) (.slice none 0 0) (.slice none 0 0))
      go_wp2_with fail
      generalize (((World.setCell w7 ⟨R2, 0, none⟩ (.slice none 0 0)).setCell ⟨R2, 1, none⟩ (.int .i64 0)).setCell ⟨R2, 2, none⟩ (.slice none 0 0)).setCell ⟨R2, 3, none⟩ (.slice none 0 0) = W9 at *
      clear rc0 rc1 rc2 rc3 rf0 rf1 rf2 rf3
      obtain ⟨⟨rc0, rc1, rc2, rc3⟩, _⟩ := HR9.out.four
      refine bodyPost_ret (v := .tuple #[.agg #[.slice none 0 0, .int .i64 0, .slice none 0 0, .slice none 0 0], .int .i64 67]) (by simp [results, Tryz.results198, go_sem, rc0, rc1, rc2, rc3]) rfl ?_
      rw [HF2.out]
      exact ⟨_, rfl, LogO.zero _ _, HR9.out.bl⟩
    have HF2 : Hid (pr = (0, (l1 ++ E, l2, l3 ++ [((vn : Int) + 1, k, cs)], next))) := Lib.hid (by rw [HPK.out, if_neg (by rw [hln, hel]; simp only [Bool.true_eq_false, false_or]; exact hfull)])
    have hf2 : (dn : Int) + (en7 : Int) ≤ 1048576 := by omega
    clear hfull HPK
    have TW1 := Lib.hid (TW.out w7 HA.out.bl (by trivial))
    have CL := Lib.hid (fun W (h : Below w.heap.size w W) => clone_any a n c next W (HX.out.below h) (by omega))
    have hB7 : R2 < w7.heap.size := HB.out.lt
    have hC7 : C < w7.heap.size := HC.out.lt
    have HW7 := Lib.hid HA.out.bl.size
    have HC : Hid (BX w w7 C _ _) := Lib.hid ⟨HC.out.hp, by have := HB.out.lo; omega, HA.out.bl⟩
    clear TW
    go_wp2_with (go_at_call 203; refine TW1.out.mono ?_)
    rintro en w8 ⟨v8, rfl, hlo, hb8⟩
    obtain ⟨⟨xa, xn, xc⟩, ⟨pa, pn, pc⟩, ⟨za, zn, zc⟩, hv8, hx1, hx2, hx3⟩ := hlo
    replace hv8 : v8 = .agg #[.slice xa xn xc, .int .i64 l2, .slice pa pn pc, .slice za zn zc] := hv8
    subst hv8
    have HX1 := Lib.hid hx1
    have HX2 := Lib.hid hx2
    have HB := Lib.hid (HB.out.next hb8)
    have HC := Lib.hid (HC.out.next hb8)
    have HH := Lib.hid (HH.out.below hb8)
    have HBE := Lib.hid (HBE.out.below hb8)
    have hz8 : w7.heap.size ≤ w8.heap.size := hb8.size
    clear hx1 hx2 hx3 hb8 g0 g1 g2 g3 gf0 gf1 gf2 gf3 TW1 HA
    have HG := Lib.hid (BX.mk0 (vs := #[.slice xa xn xc, .int .i64 l2, .slice pa pn pc, .slice za zn zc]) (T := 68) w8)
    go_upto_region 20 with fail
    generalize w8.alloc (.cells #[.slice xa xn xc, .int .i64 l2, .slice pa pn pc, .slice za zn zc] 68) = w9 at *
    obtain ⟨G, hG⟩ : ∃ G, G = w8.heap.size := ⟨_, rfl⟩
    rw [← hG] at HG ⊢
    have hGR2 : G ≠ R2 := by omega
    have hGC : G ≠ C := by omega
    have HX1 := Lib.hid (row_below HX1.out HG.out.bl)
    have HX2 := Lib.hid (HX2.out.below HG.out.bl)
    have HB := Lib.hid (HB.out.next HG.out.bl)
    have HC := Lib.hid (HC.out.next HG.out.bl)
    have HH := Lib.hid (HH.out.below HG.out.bl)
    have HBE := Lib.hid (HBE.out.below HG.out.bl)
    have hz9 : w7.heap.size ≤ w9.heap.size := Nat.le_trans hz8 HG.out.bl.size
    have HG : Hid (BX w w9 G _ _) := Lib.hid ⟨HG.out.hp, by have := HW7.out; omega, HB.out.bl⟩
    clear hG
    obtain ⟨⟨g0, g1, g2, g3⟩, gf0, gf1, gf2, gf3⟩ := HG.out.four
    have hl1n : l1.length = dn := hln
    have hxn : l1.length = xn := by
      obtain ⟨_, _, e, _, _⟩ := KRow.at_ encByt HX1.out
      injection e with _ e2 _
      exact e2.symm
    go_wp2_with (at_builtin; refine wpList_app elemByt encByt rfl _ _ rfl w7.heap.size _ l1 rfl HX1.out _ _ _ E rfl HBE.out.2 (by simp; omega) hz9 ?_)
    intro v10 w10 hr10 hb10 hg10 _
    have HB := Lib.hid (HB.out.bel hb10 hB7 HW7.out)
    have HC := Lib.hid (HC.out.bel hb10 hC7 HW7.out)
    have HG := Lib.hid (HG.out.kept HX1.out (by decide) hg10 HB.out.bl)
    have HX2 := Lib.hid (HX2.out.keptB HX1.out hg10)
    have HH := Lib.hid (HH.out.keptB HX1.out hg10)
    obtain ⟨a10, c10, rfl, _, _⟩ := KRow.at_ encByt hr10
    have HX1 := Lib.hid hr10
    have hz10 : w7.heap.size ≤ w10.heap.size := Nat.le_trans hz9 hb10.size
    clear hr10 hb10 hg10 g0 g1 g2 g3 gf0 gf1 gf2 gf3
    obtain ⟨nb, hnb⟩ : ∃ nb, (l1 ++ E).length = nb := ⟨_, rfl⟩
    rw [hnb] at HX1 ⊢
    have HNB := Lib.hid hnb
    clear hnb
    obtain ⟨⟨g0, g1, g2, g3⟩, gf0, gf1, gf2, gf3⟩ := HG.out.four
    have HG11 : Hid (BX w (w10.setCell ⟨G, 0, none⟩ (.slice a10 nb c10)) G #[.slice a10 nb c10, .int .i64 l2, .slice pa pn pc, .slice za zn zc] 68) := Lib.hid (HG.out.set 0 (.slice a10 nb c10))
    have HB := Lib.hid (HB.out.oth hGR2 HG.out.lo 0 (.slice a10 nb c10))
    have HC := Lib.hid (HC.out.oth hGC HG.out.lo 0 (.slice a10 nb c10))
    have HX1 := Lib.hid (row_oth HX1.out HG.out (by decide) 0 (.slice a10 nb c10))
    have HX2 := Lib.hid (HX2.out.oth HG.out (by decide) (by decide) (by decide) 0 (.slice a10 nb c10))
    have HH := Lib.hid (HH.out.oth HG.out (by decide) (by decide) 0 (.slice a10 nb c10))
    have hz11 : w7.heap.size ≤ (w10.setCell ⟨G, 0, none⟩ (.slice a10 nb c10)).heap.size := by rw [World.size_setCell]; exact hz10
    go_upto_region 21 with fail
    generalize w10.setCell ⟨G, 0, none⟩ (.slice a10 nb c10) = w11 at *
    clear g0 g1 g2 g3 gf0 gf1 gf2 gf3
    obtain ⟨⟨g0, g1, g2, g3⟩, gf0, gf1, gf2, gf3⟩ := HG11.out.four
    have q0 := HC.out.cell 0
    have q1 := HC.out.cell 1
    have q2 := HC.out.cell 2
    simp only [List.getElem?_toArray, List.getElem?_cons_zero, List.getElem?_cons_succ] at q0 q1 q2
    obtain ⟨rs, hk4, ho4⟩ := HX2.out
    have hrl : rs.length = l3.length := ho4.1
    have HK4 := Lib.hid hk4
    have HO4 := Lib.hid ho4
    clear hk4 ho4
    go_wp2_with (at_builtin; refine wpList_app elemVer encVer rfl _ _ rfl w7.heap.size _ rs rfl (row_below HK4.out ((Below.refl _ _).alloc (Nat.le_refl _) _)) _ _ _ [((vn : Int) + 1, k, (ta, tn, tc))] rfl (KAt.one w11 (((vn : Int) + 1, k, (ta, tn, tc)) : RVer) _) (by simp <;> omega) (by simp <;> omega) ?_)
    intro v12 w12 hr12 hb12 hg12 _
    have HBA := Lib.hid ((Below.refl w11.heap.size w11).alloc (Nat.le_refl _) (.cells (rveC ((vn : Int) + 1, k, (ta, tn, tc))).toArray 157))
    have HK5 := Lib.hid (row_below HK4.out HBA.out)
    have HB := Lib.hid ((HB.out.next HBA.out).bel hb12 hB7 HW7.out)
    have HG12 := Lib.hid ((HG11.out.next HBA.out).kept HK5.out (by decide) hg12 HB.out.bl)
    have HX1 := Lib.hid (row_kept (row_below HX1.out HBA.out) HK5.out (by decide) hg12)
    have HO5 := Lib.hid ((HO4.out.below HBA.out).kept HK5.out hg12)
    have HH5 := Lib.hid ((HH.out.below HBA.out).keptV HK5.out hg12)
    have HBF : Hid (w.heap.size ≤ w4.heap.size) := Lib.hid (by have := HB.out.lo; omega)
    have HVO : Hid (VOwn w12 w.heap.size (rs ++ [((vn : Int) + 1, k, (ta, tn, tc))]) (l3 ++ [((vn : Int) + 1, k, cs)])) := Lib.hid (All2.snoc (HO5.out.base HW7.out) ⟨rfl, rfl, HH5.out.base HBF.out⟩)
    have HRW : Hid (KRow rveC 3 157 w12 w.heap.size v12 (rs ++ [((vn : Int) + 1, k, (ta, tn, tc))])) := Lib.hid (row_base hr12 HW7.out)
    have HX2 : Hid (VRow w12 w.heap.size v12 (l3 ++ [((vn : Int) + 1, k, cs)])) := Lib.hid ⟨_, HRW.out, HVO.out⟩
    obtain ⟨⟨a12, n12, c12⟩, e12, _⟩ := HX2.out.vv
    replace e12 : v12 = .slice a12 n12 c12 := e12
    subst e12
    have hz12 : w7.heap.size ≤ w12.heap.size := Nat.le_trans (Nat.le_trans hz11 HBA.out.size) hb12.size
    clear hr12 hb12 hg12 g0 g1 g2 g3 gf0 gf1 gf2 gf3 q0 q1 q2
    obtain ⟨⟨g0, g1, g2, g3⟩, gf0, gf1, gf2, gf3⟩ := HG12.out.four
    have HG13 : Hid (BX w (w12.setCell ⟨G, 2, none⟩ (.slice a12 n12 c12)) G #[.slice a10 nb c10, .int .i64 l2, .slice a12 n12 c12, .slice za zn zc] 68) := Lib.hid (HG12.out.set 2 (.slice a12 n12 c12))
    have HB := Lib.hid (HB.out.oth hGR2 HG12.out.lo 2 (.slice a12 n12 c12))
    have HX1 := Lib.hid (row_oth HX1.out HG12.out (by decide) 2 (.slice a12 n12 c12))
    have HX2 := Lib.hid (HX2.out.oth HG12.out (by decide) (by decide) (by decide) 2 (.slice a12 n12 c12))
    go_upto_region 22 with fail
    generalize w12.setCell ⟨G, 2, none⟩ (.slice a12 n12 c12) = w13 at *
    clear g0 g1 g2 g3 gf0 gf1 gf2 gf3
    obtain ⟨⟨g0, g1, g2, g3⟩, gf0, gf1, gf2, gf3⟩ := HG13.out.four
    have CL1 := Lib.hid (CL.out w13 HB.out.bl)
    go_wp2_with (go_at_call 67; refine CL1.out.mono ?_)
    rintro en w14 ⟨v14, rfl, hr14, hb14⟩
    obtain ⟨⟨a14, n14, c14⟩, hv14, _⟩ := SRow.sv hr14
    replace hv14 : v14 = .slice a14 n14 c14 := hv14
    subst hv14
    have HX3 := Lib.hid (row_base hr14 HB.out.bl.size)
    have HB := Lib.hid (HB.out.next hb14)
    have HG14 := Lib.hid (HG13.out.next hb14)
    have HX1 := Lib.hid (row_below HX1.out hb14)
    have HX2 := Lib.hid (HX2.out.below hb14)
    clear hr14 hb14 g0 g1 g2 g3 gf0 gf1 gf2 gf3 CL CL1
    obtain ⟨⟨g0, g1, g2, g3⟩, gf0, gf1, gf2, gf3⟩ := HG14.out.four
    have HG15 : Hid (BX w (w14.setCell ⟨G, 3, none⟩ (.slice a14 n14 c14)) G #[.slice a10 nb c10, .int .i64 l2, .slice a12 n12 c12, .slice a14 n14 c14] 68) := Lib.hid (HG14.out.set 3 (.slice a14 n14 c14))
    have HB := Lib.hid (HB.out.oth hGR2 HG14.out.lo 3 (.slice a14 n14 c14))
    have HX1 := Lib.hid (row_oth HX1.out HG14.out (by decide) 3 (.slice a14 n14 c14))
    have HX2 := Lib.hid (HX2.out.oth HG14.out (by decide) (by decide) (by decide) 3 (.slice a14 n14 c14))
    have HX3 := Lib.hid (row_oth HX3.out HG14.out (by decide) 3 (.slice a14 n14 c14))
    go_upto_region 23 with fail
    generalize w14.setCell ⟨G, 3, none⟩ (.slice a14 n14 c14) = w15 at *
    clear g0 g1 g2 g3 gf0 gf1 gf2 gf3
    obtain ⟨⟨g0, g1, g2, g3⟩, _⟩ := HG15.out.four
    obtain ⟨⟨rc0, rc1, rc2, rc3⟩, rf0, rf1, rf2, rf3⟩ := HB.out.four
    have HR9 := Lib.hid (HB.out.set4 (.slice a10 nb c10) (.int .i64 l2) (.slice a12 n12 c12) (.slice a14 n14 c14))
    have HX1 := Lib.hid (row_oth4 HX1.out HB.out (by decide) (.slice a10 nb c10) (.int .i64 l2) (.slice a12 n12 c12) (.slice a14 n14 c14))
    have HX2 := Lib.hid (HX2.out.oth4 HB.out (by decide) (by decide) (by decide) (.slice a10 nb c10) (.int .i64 l2) (.slice a12 n12 c12) (.slice a14 n14 c14))
    have HX3 := Lib.hid (row_oth4 HX3.out HB.out (by decide) (.slice a10 nb c10) (.int .i64 l2) (.slice a12 n12 c12) (.slice a14 n14 c14))
    go_wp2_with fail
    generalize (((World.setCell w15 ⟨R2, 0, none⟩ (.slice a10 nb c10)).setCell ⟨R2, 1, none⟩ (.int .i64 l2)).setCell ⟨R2, 2, none⟩ (.slice a12 n12 c12)).setCell ⟨R2, 3, none⟩ (.slice a14 n14 c14) = W9 at *
    clear rc0 rc1 rc2 rc3 rf0 rf1 rf2 rf3
    obtain ⟨⟨rc0, rc1, rc2, rc3⟩, _⟩ := HR9.out.four
    refine bodyPost_ret (v := .tuple #[.agg #[.slice a10 nb c10, .int .i64 l2, .slice a12 n12 c12, .slice a14 n14 c14], .int .i64 0]) (by simp [results, Tryz.results198, go_sem, rc0, rc1, rc2, rc3]) rfl ?_
    rw [HF2.out]
    exact ⟨_, rfl, ⟨(a10, nb, c10), (a12, n12, c12), (a14, n14, c14), rfl, row_base HX1.out HW7.out, HX2.out, HX3.out⟩, HR9.out.bl⟩
end Go.Proofs.YtcifdllbnbhcdaaGreatDoor
