/- The sessions after each version, and the last version that is safe. -/
import Derived.Test.YtihbpggbpapcfaaGreatDoorX02
import Derived.Test.YtihbpggbpapcfaaGreatDoorY03
namespace Go.Proofs.YtihbpggbpapcfaaGreatDoor
open Go.RowKit

set_option maxRecDepth 100000 in
set_option maxHeartbeats 4000000 in
theorem rstate_any (va : Value) (l : Lg) (m k : Int) (w : World) (ha : LogR w va l) : Calls Tryz.prog 41 #[va, .int .i64 m, .int .i64 k] w (ResS (staS m l k) w) := by
  have HV := Lib.hid (fun W (h : Below w.heap.size w W) => rvalidL_any va l m W (ha.below h))
  obtain ⟨⟨da, dn, dc⟩, ⟨va, vn, vc⟩, ⟨sa, sn, sc⟩, rfl, hd, hv, hs⟩ := ha
  obtain ⟨l1, l2, l3, l4⟩ := l
  simp only at hd hv hs
  have hlv : l3.length = vn := hv.2.len.1
  have hn1 : vn ≤ 9223372036854775807 := hv.2.len.2
  have HF : Hid (staS m (l1, l2, l3, l4) k = if vldL m (l1, l2, l3, l4) = false then (1, []) else if k < 0 ∨ (l3.length : Int) < k then (60, []) else (0, aftS m (l3.take k.toNat))) := Lib.hid rfl
  have HLK : Hid (vldL m (l1, l2, l3, l4) = true → _) := Lib.hid (fun h => vld_log h)
  have HA := Lib.hid (BX.mk0 (vs := #[.slice da dn dc, .int .i64 l2, .slice va vn vc, .slice sa sn sc]) (T := 51) w)
  have HVV := Lib.hid hv
  clear hd hv hs
  change Hid (∀ W, Below w.heap.size w W → Calls _ _ #[.agg #[.slice da dn dc, .int .i64 l2, .slice va vn vc, .slice sa sn sc], .int .i64 m] W _) at HV
  show Calls _ _ #[.agg #[.slice da dn dc, .int .i64 l2, .slice va vn vc, .slice sa sn sc], .int .i64 m, .int .i64 k] w _
  generalize vldL m (l1, l2, l3, l4) = q at *
  generalize staS m (l1, l2, l3, l4) k = pr at *
  go_enter Tryz.func41, Tryz.ntmps41
  go_upto_region 1 with fail
  generalize w.alloc (.cells #[.slice da dn dc, .int .i64 l2, .slice va vn vc, .slice sa sn sc] 51) = wa at *
  obtain ⟨R, hR⟩ : ∃ R, R = w.heap.size := ⟨_, rfl⟩
  rw [← hR] at HA ⊢
  clear hR
  obtain ⟨⟨g0, g1, g2, g3⟩, _⟩ := HA.out.four
  go_wp2_with fail
  refine (HV.out _ HA.out.bl).mono ?_
  rintro en w1 ⟨rfl, hb1⟩
  have HA := Lib.hid (HA.out.next hb1)
  clear hb1 HV g0 g1 g2 g3
  obtain ⟨⟨g0, g1, g2, g3⟩, _⟩ := HA.out.four
  cases q
  · have HF2 : Hid (pr = (1, [])) := Lib.hid (by rw [HF.out, if_pos rfl])
    go_wp2_with fail
    go_ret2
    exact ResS.err HF2.out HA.out.bl
  have HF1 : Hid (pr = if k < 0 ∨ (l3.length : Int) < k then (60, []) else (0, aftS m (l3.take k.toNat))) := Lib.hid (by rw [HF.out, if_neg (by simp)])
  obtain ⟨_, _, _, HLF, _, hvl⟩ := HLK.out rfl
  have HLF := Lib.hid HLF
  clear hvl HLK HF
  by_cases hk0 : k < 0
  · have HF2 : Hid (pr = (60, [])) := Lib.hid (by rw [HF1.out, if_pos (Or.inl hk0)])
    go_wp2_with fail
    go_ret2
    exact ResS.err HF2.out HA.out.bl
  obtain ⟨kn, rfl⟩ : ∃ kn : Nat, k = kn := ⟨k.toNat, by omega⟩
  clear hk0
  have hk0 : (0 : Int) ≤ kn := by omega
  by_cases hk1 : (vn : Int) < kn
  · have HF2 : Hid (pr = (60, [])) := Lib.hid (by rw [HF1.out, if_pos (Or.inr (by rw [hlv]; exact hk1))])
    go_wp2_with fail
    go_ret2
    exact ResS.err HF2.out HA.out.bl
  have HF2 : Hid (pr = (0, aftS m (l3.take kn))) := Lib.hid (by rw [HF1.out, if_neg (by rw [hlv]; omega)]; rfl)
  clear HF1
  have hk2 : (kn : Int) ≤ vn := by omega
  clear hk1
  go_upto_region 5 with fail
  rw [show decide (vn < kn) = false from decide_eq_false (by omega)]
  simp only [Bool.or_false]
  go_wp2_with fail
  go_loopw [8, 9] (fun v i wr => ∃ j : Nat, j ≤ kn ∧ i = .int .i64 j ∧ Hid (SRow wr w.heap.size v (aftS m (l3.take j))) ∧ Hid (BX w wr R #[.slice da dn dc, .int .i64 l2, .slice va vn vc, .slice sa sn sc] 51)) (fun _ i _ => kn - (intOf i).toNat)
  case atStart => exact ⟨0, by omega, rfl, Lib.hid (KRow.nil _ _ _ _ _), HA⟩
  case round =>
    clear HA g0 g1 g2 g3
    obtain ⟨j, hj, rfl, HR, HA⟩ := hrel
    by_cases hlt : j < kn
    · obtain ⟨⟨g0, g1, g2, g3⟩, _⟩ := HA.out.four
      obtain ⟨b1, o1, x, r, rfl, gx, z1, x0, x1, x2, hh⟩ := VAt.cells (HVV.out.2.below HA.out.bl) (j := j) (show j < vn by omega)
      have HT := Lib.hid (aft_take (n := m) gx)
      obtain ⟨hfr, hel⟩ := HLF.out x (List.mem_of_getElem? gx)
      have hec := enc_cnt hel
      obtain ⟨xa, xc, rfl, hxc, hxs⟩ := SRow.sat HR.out
      have hsok := aft_sok m (l3.take j)
      have q1 : (j : Int) < kn := by omega
      have q2 : (0 : Int) ≤ (j : Int) := by omega
      have q3 : (j : Int) < vn := by omega
      obtain ⟨ra, rn, rc⟩ := r
      have hh2 : HAt wr ra rn x.2.2 := hh.2
      have AP := Lib.hid (rapply_any xa (aftS m (l3.take j)).length xc (aftS m (l3.take j)) ra rn rc x.2.2 m wr hxs hsok.str hh2 (frm_vok hfr).cok (by have := hh2.len.1; have := hec.1; omega) hec.2)
      clear hh hh2 hfr hel hec hxs hsok gx
      generalize aftS m (l3.take j) = L at *
      go_wp2_with fail
      refine AP.out.mono ?_
      rintro en w2 ⟨v2, rfl, hr2, hb2⟩
      have HR2 : Hid (SRow w2 w.heap.size v2 (aftS m (l3.take (j + 1)))) := Lib.hid (by rw [HT.out]; exact row_base hr2 HA.out.bl.size)
      have HA2 := Lib.hid (HA.out.next hb2)
      clear hr2 hb2
      go_wp2_with fail
      go_roundw
      case rel =>
        exact ⟨j + 1, by omega, by go_num, HR2, HA2⟩
      case measure => simp [intOf]; omega
    · obtain rfl : kn = j := by omega
      go_wp2_with fail
      go_ret2
      exact ResS.mk HF2.out HR.out HA.out.bl
end Go.Proofs.YtihbpggbpapcfaaGreatDoor

namespace Go.Proofs.YtihbpggbpapcfaaGreatDoor
open Go.RowKit

set_option maxRecDepth 100000 in
set_option maxHeartbeats 4000000 in
theorem rshown_any (va : Value) (l : Lg) (m : Int) (w : World) (ha : LogR w va l) : Calls Tryz.prog 43 #[va, .int .i64 m] w (ShwR (shwS m l) w) := by
  have HV := Lib.hid (fun W (h : Below w.heap.size w W) => rvalidL_any va l m W (ha.below h))
  have ST := Lib.hid (fun W (h : Below w.heap.size w W) (k : Int) => rstate_any va l m k W (ha.below h))
  obtain ⟨⟨da, dn, dc⟩, ⟨va, vn, vc⟩, ⟨sa, sn, sc⟩, rfl, hd, hv, hs⟩ := ha
  obtain ⟨l1, l2, l3, l4⟩ := l
  simp only at hd hv hs
  have hlv : l3.length = vn := hv.2.len.1
  have hn1 : vn ≤ 9223372036854775807 := hv.2.len.2
  have HF : Hid (shwS m (l1, l2, l3, l4) = if vldL m (l1, l2, l3, l4) = false then (1, 0, []) else (0, shwN l2 0 l3, aftS m (l3.take (shwN l2 0 l3)))) := Lib.hid rfl
  have HLK : Hid (vldL m (l1, l2, l3, l4) = true → _) := Lib.hid (fun h => vld_log h)
  have HA := Lib.hid (BX.mk0 (vs := #[.slice da dn dc, .int .i64 l2, .slice va vn vc, .slice sa sn sc]) (T := 51) w)
  have HVV := Lib.hid hv
  clear hd hv hs
  change Hid (∀ W, Below w.heap.size w W → Calls _ _ #[.agg #[.slice da dn dc, .int .i64 l2, .slice va vn vc, .slice sa sn sc], .int .i64 m] W _) at HV
  change Hid (∀ W, Below w.heap.size w W → ∀ k : Int, Calls _ _ #[.agg #[.slice da dn dc, .int .i64 l2, .slice va vn vc, .slice sa sn sc], .int .i64 m, .int .i64 k] W _) at ST
  show Calls _ _ #[.agg #[.slice da dn dc, .int .i64 l2, .slice va vn vc, .slice sa sn sc], .int .i64 m] w _
  obtain ⟨q, hq⟩ : ∃ q, vldL m (l1, l2, l3, l4) = q := ⟨_, rfl⟩
  rw [hq] at HV HF
  have HVT := Lib.hid hq
  clear hq
  generalize shwS m (l1, l2, l3, l4) = pr at *
  go_enter Tryz.func43, Tryz.ntmps43
  go_upto_region 1 with fail
  generalize w.alloc (.cells #[.slice da dn dc, .int .i64 l2, .slice va vn vc, .slice sa sn sc] 51) = wa at *
  obtain ⟨R, hR⟩ : ∃ R, R = w.heap.size := ⟨_, rfl⟩
  rw [← hR] at HA ⊢
  clear hR
  obtain ⟨⟨g0, g1, g2, g3⟩, _⟩ := HA.out.four
  go_wp2_with fail
  refine (HV.out _ HA.out.bl).mono ?_
  rintro en w1 ⟨rfl, hb1⟩
  have HA := Lib.hid (HA.out.next hb1)
  clear hb1 HV g0 g1 g2 g3
  obtain ⟨⟨g0, g1, g2, g3⟩, _⟩ := HA.out.four
  cases q
  · have HF2 : Hid (pr = (1, 0, [])) := Lib.hid (by rw [HF.out, if_pos rfl])
    go_wp2_with fail
    refine bodyPost_ret (v := .tuple #[.int .i64 0, .slice none 0 0, .int .i64 1]) (by simp [results, Tryz.results43, go_sem]) rfl ?_
    exact ShwR.mk HF2.out (World.ownsRow_nil _ _ _ _) HA.out.bl
  have HF1 : Hid (pr = (0, shwN l2 0 l3, aftS m (l3.take (shwN l2 0 l3)))) := Lib.hid (by rw [HF.out, if_neg (by simp)])
  obtain ⟨_, hl1, ⟨hl20, hl21⟩, HLF, _, hvl⟩ := HLK.out HVT.out
  have HLF := Lib.hid HLF
  have hvl8 : vn ≤ 1048576 := by omega
  have hl28 : l2 ≤ 1048576 := by omega
  clear hvl HLK hl21 hl1
  go_wp2_with fail
  go_loopw [7, 8] (fun p q wr => ∃ (j at_ : Nat), j ≤ vn ∧ p = .int .i64 j ∧ q = .int .i64 at_ ∧ at_ ≤ j * 1048576 ∧ Hid (shwN l2 0 l3 = shwN l2 at_ (l3.drop j) + j) ∧ Hid (BX w wr R #[.slice da dn dc, .int .i64 l2, .slice va vn vc, .slice sa sn sc] 51)) (fun p _ _ => vn - (intOf p).toNat)
  case atStart => exact ⟨0, 0, by omega, rfl, rfl, by omega, Lib.hid rfl, HA⟩
  case round =>
    clear HA g0 g1 g2 g3
    obtain ⟨j, at_, hj, rfl, rfl, hat, HSJ0, HA⟩ := hrel
    by_cases hlt : j < vn
    · obtain ⟨⟨g0, g1, g2, g3⟩, _⟩ := HA.out.four
      obtain ⟨b1, o1, x, r, rfl, gx, z1, x0, x1, x2, hh⟩ := VAt.cells (HVV.out.2.below HA.out.bl) (j := j) (show j < vn by omega)
      obtain ⟨hfr, hel⟩ := HLF.out x (List.mem_of_getElem? gx)
      have HM := Lib.hid (fun h => shw_more (syn := l2) (at_ := at_) gx hfr h)
      have HZ := Lib.hid (fun h => shw_stop (syn := l2) (at_ := at_) gx hfr h)
      obtain ⟨ra, rn, rc⟩ := r
      have EN := Lib.hid (rencode_any x (ra, rn, rc) wr hh (frm_vok hfr) (fun _ => by omega))
      rw [if_pos hfr] at EN
      have q2 : (0 : Int) ≤ (j : Int) := by omega
      have q3 : (j : Int) < vn := by omega
      change Hid (Calls _ _ #[.agg #[.int .i64 x.1, .int .i64 x.2.1, .slice ra rn rc]] _ _) at EN
      clear hh hfr gx hlt
      generalize encV x = E at *
      go_wp2_with fail
      refine EN.out.mono ?_
      rintro en w2 ⟨⟨ea, en, ec⟩, rfl, hbe, hb2⟩
      have hen : E.length = en := hbe.2.1
      have HA2 := Lib.hid (HA.out.next hb2)
      clear g0 g1 g2 g3 x0 x1 x2 hbe hb2 HA EN
      obtain ⟨⟨g0, g1, g2, g3⟩, _⟩ := HA2.out.four
      have hw8 : IntKind.i64.wrap ((at_ : Int) + (en : Int)) = (at_ : Int) + (en : Int) := IntWalk.i64_in _ (by omega)
      by_cases hst : l2 < (at_ : Int) + (en : Int)
      · have HSJ : Hid (shwN l2 0 l3 = j) := Lib.hid (by rw [HSJ0.out, HZ.out (by rw [hen]; omega)]; omega)
        clear HZ HM HSJ0 g0 g1 g2
        have HF5 : Hid (pr = (0, j, aftS m (l3.take j))) := Lib.hid (by rw [HF1.out, HSJ.out])
        have SJ : Hid (staS m (l1, l2, l3, l4) (j : Int) = (0, aftS m (l3.take j))) := Lib.hid (by
          show (if vldL m (l1, l2, l3, l4) = false then (1, []) else if (j : Int) < 0 ∨ (l3.length : Int) < (j : Int) then (60, []) else (0, aftS m (l3.take (j : Int).toNat))) = _
          rw [HVT.out, if_neg (by simp), if_neg (by rw [hlv]; omega)]; rfl)
        have ST9 := Lib.hid (ST.out w2 HA2.out.bl j)
        rw [SJ.out] at ST9
        obtain ⟨⟨g0, g1, g2, g3⟩, _⟩ := HA2.out.four
        clear SJ ST HF HF1
        go_wp2_with fail
        refine ST9.out.mono ?_
        rintro en w9 ⟨v9, rfl, hr9, hb9⟩
        have HA9 := Lib.hid (HA2.out.next hb9)
        have HR9 := Lib.hid (row_base hr9 HA2.out.bl.size)
        clear hr9 hb9
        go_wp2_with fail
        refine bodyPost_ret (v := .tuple #[.int .i64 j, v9, .int .i64 0]) (by simp [results, Tryz.results43, go_sem]) rfl ?_
        exact ShwR.mk HF5.out HR9.out HA9.out.bl
      · have HSN : Hid (shwN l2 0 l3 = shwN l2 (at_ + en) (l3.drop (j + 1)) + (j + 1)) := Lib.hid (by
          have h := HM.out (by rw [hen]; omega)
          rw [hen] at h
          rw [HSJ0.out, h]; omega)
        have hst2 : (at_ : Int) + (en : Int) ≤ l2 := by omega
        clear HZ HM HSJ0 hst
        go_wp2_with fail
        go_roundw
        case rel => exact ⟨j + 1, at_ + en, by omega, by go_num, by go_num, by omega, HSN, HA2⟩
        case measure => simp [intOf]; omega
    · have HSJ : Hid (shwN l2 0 l3 = j) := Lib.hid (by rw [HSJ0.out, List.drop_eq_nil_of_le (by omega)]; simp [shwN])
      have q3 : (vn : Int) ≤ j := by omega
      clear HSJ0 hlt
      have HF5 : Hid (pr = (0, j, aftS m (l3.take j))) := Lib.hid (by rw [HF1.out, HSJ.out])
      have SJ : Hid (staS m (l1, l2, l3, l4) (j : Int) = (0, aftS m (l3.take j))) := Lib.hid (by
        show (if vldL m (l1, l2, l3, l4) = false then (1, []) else if (j : Int) < 0 ∨ (l3.length : Int) < (j : Int) then (60, []) else (0, aftS m (l3.take (j : Int).toNat))) = _
        rw [HVT.out, if_neg (by simp), if_neg (by rw [hlv]; omega)]; rfl)
      have ST9 := Lib.hid (ST.out wr HA.out.bl j)
      rw [SJ.out] at ST9
      obtain ⟨⟨g0, g1, g2, g3⟩, _⟩ := HA.out.four
      clear SJ ST HF HF1
      go_wp2_with fail
      refine ST9.out.mono ?_
      rintro en w9 ⟨v9, rfl, hr9, hb9⟩
      have HA9 := Lib.hid (HA.out.next hb9)
      have HR9 := Lib.hid (row_base hr9 HA.out.bl.size)
      clear hr9 hb9
      go_wp2_with fail
      refine bodyPost_ret (v := .tuple #[.int .i64 j, v9, .int .i64 0]) (by simp [results, Tryz.results43, go_sem]) rfl ?_
      exact ShwR.mk HF5.out HR9.out HA9.out.bl
end Go.Proofs.YtihbpggbpapcfaaGreatDoor

namespace Go.Proofs.YtihbpggbpapcfaaGreatDoor
open Go.RowKit

set_option maxRecDepth 100000 in
set_option maxHeartbeats 4000000 in
theorem state_of (HVL : VldP) (va : Value) (l : Lg) (m k : Int) (w : World) (ha : LogP w va l) (hE : Env w) : Calls Tryz.prog 39 #[va, .int .i64 m, .int .i64 k] w (ResS (staS m l k) w) := by
  have HV := Lib.hid (fun W (h : Below w.heap.size w W) => HVL va l m W (ha.below h) (hE.below h))
  have AF := Lib.hid (fun W (h : Below w.heap.size w W) (kn : Nat) h1 h2 h3 => after_any va l m kn W (ha.below h).logR (hE.below h).tz h1 h2 h3)
  obtain ⟨⟨da, dn, dc⟩, ⟨va, vn, vc⟩, ⟨sa, sn, sc⟩, rfl, hd, _, hv, hs⟩ := ha
  obtain ⟨l1, l2, l3, l4⟩ := l
  simp only at hd hv hs
  have hlv : l3.length = vn := hv.2.len.1
  have hn1 : vn ≤ 9223372036854775807 := hv.2.len.2
  have HF : Hid (staS m (l1, l2, l3, l4) k = if vldL m (l1, l2, l3, l4) = false then (1, []) else if k < 0 ∨ (l3.length : Int) < k then (60, []) else (0, aftS m (l3.take k.toNat))) := Lib.hid rfl
  have HLK : Hid (vldL m (l1, l2, l3, l4) = true → _) := Lib.hid (fun h => vld_log h)
  have HA := Lib.hid (BX.mk0 (vs := #[.slice da dn dc, .int .i64 l2, .slice va vn vc, .slice sa sn sc]) (T := 55) w)
  clear hd hv hs hE
  change Hid (∀ W, Below w.heap.size w W → Calls _ _ #[.agg #[.slice da dn dc, .int .i64 l2, .slice va vn vc, .slice sa sn sc], .int .i64 m] W _) at HV
  change Hid (∀ W, Below w.heap.size w W → ∀ kn : Nat, kn ≤ l3.length → l3.length ≤ 1048576 → (∀ v ∈ l3, frmV v = true ∧ (encV v).length ≤ 1048576) → Calls _ _ #[.agg #[.slice da dn dc, .int .i64 l2, .slice va vn vc, .slice sa sn sc], .int .i64 kn, .int .i64 m] W _) at AF
  show Calls _ _ #[.agg #[.slice da dn dc, .int .i64 l2, .slice va vn vc, .slice sa sn sc], .int .i64 m, .int .i64 k] w _
  generalize vldL m (l1, l2, l3, l4) = q at *
  generalize staS m (l1, l2, l3, l4) k = pr at *
  go_enter Tryz.func39, Tryz.ntmps39
  go_upto_region 1 with fail
  generalize w.alloc (.cells #[.slice da dn dc, .int .i64 l2, .slice va vn vc, .slice sa sn sc] 55) = wa at *
  obtain ⟨R, hR⟩ : ∃ R, R = w.heap.size := ⟨_, rfl⟩
  rw [← hR] at HA ⊢
  clear hR
  obtain ⟨⟨g0, g1, g2, g3⟩, _⟩ := HA.out.four
  go_wp2_with fail
  refine (HV.out _ HA.out.bl).mono ?_
  rintro en w1 ⟨rfl, hb1⟩
  have HA := Lib.hid (HA.out.next hb1)
  clear hb1 HV g0 g1 g2 g3
  obtain ⟨⟨g0, g1, g2, g3⟩, _⟩ := HA.out.four
  cases q
  · have HF2 : Hid (pr = (1, [])) := Lib.hid (by rw [HF.out, if_pos rfl])
    go_wp2_with fail
    go_ret2
    exact ResS.err HF2.out HA.out.bl
  have HF1 : Hid (pr = if k < 0 ∨ (l3.length : Int) < k then (60, []) else (0, aftS m (l3.take k.toNat))) := Lib.hid (by rw [HF.out, if_neg (by simp)])
  obtain ⟨_, hl1, _, HLF, _, hvl⟩ := HLK.out rfl
  have HLF := Lib.hid HLF
  have hvn8 : l3.length ≤ 1048576 := by omega
  clear hvl HLK HF hl1
  by_cases hk0 : k < 0
  · have HF2 : Hid (pr = (60, [])) := Lib.hid (by rw [HF1.out, if_pos (Or.inl hk0)])
    go_wp2_with fail
    go_ret2
    exact ResS.err HF2.out HA.out.bl
  obtain ⟨kn, rfl⟩ : ∃ kn : Nat, k = kn := ⟨k.toNat, by omega⟩
  clear hk0
  have hk0 : (0 : Int) ≤ kn := by omega
  by_cases hk1 : (vn : Int) < kn
  · have HF2 : Hid (pr = (60, [])) := Lib.hid (by rw [HF1.out, if_pos (Or.inr (by rw [hlv]; exact hk1))])
    go_wp2_with fail
    go_ret2
    exact ResS.err HF2.out HA.out.bl
  have HF2 : Hid (pr = (0, aftS m (l3.take kn))) := Lib.hid (by rw [HF1.out, if_neg (by rw [hlv]; omega)]; rfl)
  clear HF1
  have hk2 : (kn : Int) ≤ vn := by omega
  clear hk1
  have AF1 := Lib.hid (AF.out w1 HA.out.bl kn (by omega) hvn8 HLF.out)
  go_wp2_with fail
  refine AF1.out.mono ?_
  rintro en w2 ⟨v2, rfl, hr2, hb2⟩
  have HR2 := Lib.hid (row_base hr2 HA.out.bl.size)
  have HB2 := Lib.hid (below3 HA.out.bl hb2)
  clear hr2 hb2
  go_wp2_with fail
  go_ret2
  exact ResS.mk HF2.out HR2.out HB2.out
end Go.Proofs.YtihbpggbpapcfaaGreatDoor

namespace Go.Proofs.YtihbpggbpapcfaaGreatDoor
open Go.RowKit

theorem LLX.ll {φ : Nat → Prop} {w : World} {s : Sl} {ls : List (List Ses)} (h : LLX φ w s ls) : LLAt w s.1 s.2.1 ls := by
  obtain ⟨_, _, rs, h1, h2⟩ := h
  exact ⟨rs, h1, h2.imp fun _ _ hr => hr.1⟩
theorem LLX.below {φ : Nat → Prop} {w w' : World} {s : Sl} {ls : List (List Ses)} (h : LLX φ w s ls) (hb : Below w.heap.size w w') : LLX φ w' s ls := by
  obtain ⟨h1, h2, rs, h3, h4⟩ := h
  exact ⟨h1, h2, rs, KAt.same h3 h2 (SameB.of_below (φ := φ) hb), h4.imp fun _ _ hr => hr.below hb⟩
theorem LLX.len {φ : Nat → Prop} {w : World} {s : Sl} {ls : List (List Ses)} (h : LLX φ w s ls) : s.2.1 = ls.length := by
  obtain ⟨_, _, rs, h3, h4⟩ := h
  rw [← h4.1]
  exact h3.1.symm

set_option maxRecDepth 100000 in
set_option maxHeartbeats 16000000 in
theorem law_states (a : Option Addr) (n c : Nat) (L : List Int) (k : Int) (w : World) (hI : IntsAt w a n L) (hL : ∀ x ∈ L, -9223372036854775808 ≤ x ∧ x ≤ 9223372036854775807) (hE : Env w) :
    Calls Tryz.prog 8 #[.slice a n c, .int .i64 k] w (RetB (.bool true) w) := by
  have AW := Lib.hid (fun W (h : Below w.heap.size w W) => awake_any W (hE.below h))
  by_cases hg : n ≤ 400
  rotate_left
  · have hnd : decide (n ≤ 400) = false := by simpa using hg
    clear hI hL hE
    go_enter Tryz.func8, Tryz.ntmps8
    go_wp2_with (first | (go_at_call 12; refine (light_any _ _ _ _).mono ?_; rintro e w' ⟨rfl, rfl⟩) | (go_at_call 13; refine (AW.out _ (Below.refl _ _)).mono ?_; rintro e w' ⟨rfl, hb⟩))
    go_ret
    exact ⟨rfl, hb⟩
  have hnd : decide (n ≤ 400) = true := by simpa using hg
  have HD0 := Lib.hid (DiceAt.mk0 c 104 hI hg hL)
  have HE := Lib.hid hE
  clear hI hL hE
  go_enter Tryz.func8, Tryz.ntmps8
  go_upto_region 3 with (go_at_call 12; refine (light_any _ _ _ _).mono ?_; rintro e w' ⟨rfl, rfl⟩)
  have HB1 := Lib.hid ((Below.refl w.heap.size w).alloc (Nat.le_refl _) (.cells #[.slice a n c, .int .i64 0] 104))
  go_upto_region 4 with (go_at_call 15; refine (roll_any _ _ _ _).mono ?_; rintro e w' ⟨rfl, rfl⟩)
  generalize w.alloc (.cells #[.slice a n c, .int .i64 0] 104) = w1 at *
  obtain ⟨p, hp⟩ : ∃ p, p = w.heap.size := ⟨_, rfl⟩
  rw [← hp] at HD0 ⊢
  have hpw : w.heap.size ≤ p := Nat.le_of_eq hp.symm
  clear hp
  have N8 := Lib.hid (next_any p 8 w1 (by omega) (by omega) HD0.out)
  go_upto_region 5 with (go_at_call 24; refine N8.out.mono ?_; rintro en w2 ⟨r, r0, r8, rfl, hd2, hb2⟩)
  have HB2 := Lib.hid (But.below HB1.out hb2 hpw HB1.out.size)
  obtain ⟨m, hm⟩ : ∃ m : Nat, 1 + r = (m : Int) := ⟨(1 + r).toNat, by omega⟩
  have hm1 : 1 ≤ m := by omega
  have hm8 : m ≤ 8 := by omega
  rw [hm]
  have FL := Lib.hid (filled_any p m hm1 hm8 w2 hd2)
  have hp2 : p < w2.heap.size := hd2.lt
  clear N8 HD0 hd2 hb2 hm r0 r8
  go_upto_region 6 with (go_at_call 25; refine FL.out.mono ?_; rintro en w3 ⟨_, ⟨s0, s1, s2⟩, l, ss, rfl, ⟨⟨d0, d1, d2⟩, ⟨v0, v1, v2⟩, ⟨x0, x1, x2⟩, rfl, hlq⟩, hll, hpu, hs4, hd3, hb3⟩; rw [show (logV (d0, d1, d2) l.2.1 (v0, v1, v2) (x0, x1, x2)) = .agg #[.slice d0 d1 d2, .int .i64 l.2.1, .slice v0 v1 v2, .slice x0 x1 x2] from rfl])
  have hlx : LogX (fun b => w2.heap.size ≤ b ∧ b < w3.heap.size) w3 (logV (d0, d1, d2) l.2.1 (v0, v1, v2) (x0, x1, x2)) l := LogX.lt (φ := fun b => w2.heap.size ≤ b) ⟨_, _, _, rfl, hlq⟩
  have hal : Below w3.heap.size w3 (w3.alloc (.cells #[.slice d0 d1 d2, .int .i64 l.2.1, .slice v0 v1 v2, .slice x0 x1 x2] 51)) := (Below.refl _ _).alloc (Nat.le_refl _) _
  have HX : Hid ((w3.alloc (.cells #[.slice d0 d1 d2, .int .i64 l.2.1, .slice v0 v1 v2, .slice x0 x1 x2] 51)).heap[w3.heap.size]? = some (.cells #[.slice d0 d1 d2, .int .i64 l.2.1, .slice v0 v1 v2, .slice x0 x1 x2] 51 (0, 0))) := Lib.hid (heap_alloc_new _ _)
  have HLX := Lib.hid (hlx.below hal)
  have HLL := Lib.hid (hll.below hal)
  have HPU := Lib.hid hpu
  have HD4 := Lib.hid (hd3.below hal)
  have HB3 := Lib.hid (But.below HB2.out hb3 hpw HB2.out.size)
  have HB4 := Lib.hid (HB3.out.trans (hal.mono HB3.out.size))
  have HPR : Hid (p < w3.heap.size) := Lib.hid (Nat.lt_of_lt_of_le hp2 hb3.size)
  have hs1 : s1 = ss.length + 1 := hll.len
  have hs5 : s1 ≤ 5 := by omega
  have HS1 := Lib.hid hs1
  clear hs1
  have HVL := Lib.hid (chn_len hpu.ch)
  have hdl : l.1.length = d1 := by
    obtain ⟨a, b, c, e, g1, _⟩ := hlx
    obtain ⟨a1, a2, a3⟩ := a
    simp only [logV, Value.agg.injEq, Array.mk.injEq, List.cons.injEq, slV, Value.slice.injEq] at e
    obtain ⟨⟨rfl, rfl, rfl⟩, _⟩ := e
    exact g1.2.1
  have HDL := Lib.hid hdl
  have HD1 : Hid (d1 ≤ 9223372036854775806) := Lib.hid (by have := hpu.sz; omega)
  have HRB : Hid (∀ b, (w2.heap.size ≤ b ∧ b < w3.heap.size) → b ≠ w3.heap.size) := Lib.hid (fun b hb => Nat.ne_of_lt hb.2)
  clear hdl hs4
  clear FL hlq hlx hll hpu hd3 hb3 hal HB3 HB2 HB1
  generalize w3.alloc (.cells #[.slice d0 d1 d2, .int .i64 l.2.1, .slice v0 v1 v2, .slice x0 x1 x2] 51) = w4 at *
  generalize w3.heap.size = R at *
  clear HD4 HDL hp2 HPR HD1 HRB
  have HP := Lib.hid (fun W (h : Below w4.heap.size w4 W) => (HLX.out.logP.below h))
  go_wp2_with fail
  go_loopw [9] (fun s9 wr => ∃ i : Nat, i ≤ s1 ∧ s9 = .int .i64 i ∧ Hid (Below w4.heap.size w4 wr)) (fun s9 _ => s1 - (intOf s9).toNat)
  case atStart => exact ⟨0, by omega, rfl, Lib.hid (Below.refl _ _)⟩
  case round =>
    obtain ⟨i, hi, rfl, HB⟩ := hrel
    have HBW := Lib.hid (HB4.out.trans (HB.out.mono HB4.out.size))
    have HXR := Lib.hid ((HB.out.block R (lt_of_heap HX.out)).trans HX.out)
    by_cases hlt : i < s1
    · have hii : (i : Int) < s1 := by omega
      have ST := Lib.hid (state_of vldP (logV (d0, d1, d2) l.2.1 (v0, v1, v2) (x0, x1, x2)) l m i wr (HP.out wr HB.out) (HE.out.below HBW.out))
      rw [sta_pub HPU.out (by rw [HVL.out]; have := HS1.out; omega)] at ST
      obtain ⟨gb, go, t, ⟨t0, t1, t2⟩, e0, ht, hgl, hcell, hsv⟩ := LLAt.cells (HLL.out.ll.below HB.out) (j := i) hlt
      simp only at e0 hcell
      have htt : ([] :: ss).getD i [] = t := by rw [List.getD_eq_getElem?_getD, ht]; rfl
      rw [htt] at ST
      obtain ⟨⟨c0, c1, c2, c3⟩, _⟩ := box4_cells HXR.out
      subst e0
      go_upto_region 10 with (go_at_call 39; refine ST.out.mono ?_; rintro en w5 ⟨v5, rfl, hr5, hb5⟩; obtain ⟨a5, c5, rfl, hc5, hk5⟩ := SRow.sat hr5)
      have SM := Lib.hid (rsameq_any a5 t.length c5 t0 t1 t2 t t w5 hk5 (hsv.2.below hb5))
      have hcell5 := (hb5.cell (lt_of_cell hcell)).trans hcell
      have HB5 := Lib.hid (below3 HB.out hb5)
      have hdd : decide (t = t) = true := decide_eq_true rfl
      rw [hdd] at SM
      clear c0 c1 c2 c3 hcell hr5 hb5 hk5 hsv ht htt hdd ST
      go_wp2_with (go_at_call 40; refine SM.out.mono ?_; rintro e w6 ⟨rfl, hq6⟩; have hb6 := drew_bel hq6)
      have HB6 := Lib.hid (below3 HB5.out hb6)
      clear hb6 hq6 hcell5
      go_roundw
      case rel => exact ⟨i + 1, by omega, by go_num, HB6⟩
      case measure => simp [intOf]; omega
    · have hii : ¬ (i : Int) < s1 := by omega
      have S1 := Lib.hid (fun W (h : Below wr.heap.size wr W) => state_of vldP (logV (d0, d1, d2) l.2.1 (v0, v1, v2) (x0, x1, x2)) l m k W (HP.out W (below3 HB.out h)) (HE.out.below (HBW.out.trans (h.mono HBW.out.size))))
      have S2 := Lib.hid (fun W (h : Below wr.heap.size wr W) => rstate_any (logV (d0, d1, d2) l.2.1 (v0, v1, v2) (x0, x1, x2)) l m k W (HP.out W (below3 HB.out h)).logR)
      have S3 := Lib.hid (fun W (h : Below wr.heap.size wr W) => shown_of vldP (logV (d0, d1, d2) l.2.1 (v0, v1, v2) (x0, x1, x2)) l m W (HP.out W (below3 HB.out h)) (HE.out.below (HBW.out.trans (h.mono HBW.out.size))))
      have S4 := Lib.hid (fun W (h : Below wr.heap.size wr W) => rshown_any (logV (d0, d1, d2) l.2.1 (v0, v1, v2) (x0, x1, x2)) l m W (HP.out W (below3 HB.out h)).logR)
      generalize staS m l k = r1 at *
      generalize shwS m l = r2 at *
      obtain ⟨e1, z1⟩ := r1
      obtain ⟨e2, n2, z2⟩ := r2
      obtain ⟨⟨c0, c1, c2, c3⟩, _⟩ := box4_cells HXR.out
      go_upto_region 13 with (go_at_call 39; refine (S1.out wr (Below.refl _ _)).mono ?_; rintro en w5 ⟨v5, rfl, hr5, hb5⟩; obtain ⟨a5, c5, rfl, hc5, hk5⟩ := SRow.sat hr5)
      have HX5 := Lib.hid ((hb5.block R (lt_of_heap HXR.out)).trans HXR.out)
      clear c0 c1 c2 c3
      obtain ⟨⟨c0, c1, c2, c3⟩, _⟩ := box4_cells HX5.out
      go_upto_region 14 with (go_at_call 41; refine (S2.out w5 hb5).mono ?_; rintro en w6 ⟨v6, rfl, hr6, hb6⟩; obtain ⟨a6, c6, rfl, hc6, hk6⟩ := SRow.sat hr6)
      have HX6 := Lib.hid ((hb6.block R (lt_of_heap HX5.out)).trans HX5.out)
      clear c0 c1 c2 c3
      obtain ⟨⟨c0, c1, c2, c3⟩, _⟩ := box4_cells HX6.out
      have hb56 := below3 hb5 hb6
      go_upto_region 15 with (go_at_call 42; refine (S3.out w6 hb56).mono ?_; rintro en w7 ⟨v7, rfl, hr7, hb7⟩; obtain ⟨a7, c7, rfl, hc7, hk7⟩ := SRow.sat hr7)
      have HX7 := Lib.hid ((hb7.block R (lt_of_heap HX6.out)).trans HX6.out)
      clear c0 c1 c2 c3
      obtain ⟨⟨c0, c1, c2, c3⟩, _⟩ := box4_cells HX7.out
      have hb57 := below3 hb56 hb7
      go_upto_region 16 with (go_at_call 43; refine (S4.out w7 hb57).mono ?_; rintro en w8 ⟨v8, rfl, hr8, hb8⟩; obtain ⟨a8, c8, rfl, hc8, hk8⟩ := SRow.sat hr8)
      clear c0 c1 c2 c3 S1 S2 S3 S4
      have hb58 := below3 hb57 hb8
      have hb68 := below3 hb6 (below3 hb7 hb8)
      have Q1 := Lib.hid (rsameq_any a5 z1.length c5 a6 z1.length c6 z1 z1 w8 (hk5.below hb68) (hk6.below (below3 hb7 hb8)))
      have Q2 := Lib.hid (fun W (h : Below w8.heap.size w8 W) => rsameq_any a7 z2.length c7 a8 z2.length c8 z2 z2 W (hk7.below (below3 hb8 h)) (hk8.below h))
      have hd1 : decide (z1 = z1) = true := decide_eq_true rfl
      have hd2 : decide (z2 = z2) = true := decide_eq_true rfl
      rw [hd1] at Q1
      rw [hd2] at Q2
      have q1 : (e1 == e1) = true := beq_self_eq_true _
      have q2 : (e2 == e2) = true := beq_self_eq_true _
      have q3 : ((n2 : Int) == (n2 : Int)) = true := beq_self_eq_true _
      have HB8 := Lib.hid (HBW.out.trans (hb58.mono HBW.out.size))
      clear hr5 hr6 hr7 hr8 hk5 hk6 hk7 hk8 hb5 hb6 hb7 hb8 hb56 hb57 hb58 hb68 hd1 hd2
      go_wp2_with (first | (go_at_call 40; refine Q1.out.mono ?_; rintro e w9 ⟨rfl, hq9⟩; have hb9 := drew_bel hq9; clear hq9 Q1; simp only []) | (go_at_call 40; refine (Q2.out _ hb9).mono ?_; rintro e wa ⟨rfl, hqa⟩; have hba := drew_bel hqa; clear hqa; simp only []) | (go_at_call 13; refine (AW.out _ (HB8.out.trans ((below3 hb9 hba).mono HB8.out.size))).mono ?_; rintro e w' ⟨rfl, hb⟩; simp only []))
      have HBA := Lib.hid (HB8.out.trans ((below3 hb9 hba).mono HB8.out.size))
      go_ret
      exact ⟨rfl, HBA.out.trans (hb.mono HBA.out.size)⟩
end Go.Proofs.YtihbpggbpapcfaaGreatDoor
