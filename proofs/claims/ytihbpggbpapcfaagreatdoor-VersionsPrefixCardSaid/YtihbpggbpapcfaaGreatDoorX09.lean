/- After a crash the versions are the first ones, and the log goes on with those that were lost. -/
import Derived.Test.YtihbpggbpapcfaaGreatDoorX12
import Derived.Test.YtihbpggbpapcfaaGreatDoorY13
namespace Go.Proofs.YtihbpggbpapcfaaGreatDoor
open Go.RowKit

set_option maxRecDepth 100000 in
set_option maxHeartbeats 16000000 in
theorem crash_of (HVL : VldP) (HOP : OpnP) (va : Value) (l : Lg) (m keep at_ flip : Int) (w : World) (ha : LogP w va l) (hE : Env w) (hk : -9223372036854775808 ≤ keep ∧ keep ≤ 9223372036854775807) (hat : -9223372036854775808 ≤ at_ ∧ at_ ≤ 9223372036854775807) (hf : -9223372036854775808 ≤ flip ∧ flip ≤ 9223372036854775807) : Calls Tryz.prog 44 #[va, .int .i64 m, .int .i64 keep, .int .i64 at_, .int .i64 flip] w (OpnR (crsS m keep at_ flip l) w) := by
 obtain ⟨hk1, hk2⟩ := hk
 obtain ⟨hat1, hat2⟩ := hat
 have HFL := Lib.hid hf
 clear hf
 have HV := Lib.hid (fun W (h : Below w.heap.size w W) => HVL va l m W (ha.below h) (hE.below h))
 have HEE := Lib.hid hE
 have HOPP := Lib.hid HOP
 clear HOP
 obtain ⟨⟨da, dn, dc⟩, ⟨va, vn, vc⟩, ⟨sa, sn, sc⟩, rfl, hd, _, hv, hs⟩ := ha
 obtain ⟨l1, l2, l3, l4⟩ := l
 simp only at hd hv hs
 have hld : l1.length = dn := hd.2.1
 have hcd : dn ≤ dc := hd.1
 have HF : Hid (crsS m keep at_ flip (l1, l2, l3, l4) = if vldL m (l1, l2, l3, l4) = false then (1, lgZ, 0) else opnS m (leftB (l1, l2, l3, l4) keep at_ flip)) := Lib.hid rfl
 have HLK : Hid (vldL m (l1, l2, l3, l4) = true → _) := Lib.hid (fun h => vld_log h)
 have HA := Lib.hid (BX.mk0 (vs := #[.slice da dn dc, .int .i64 l2, .slice va vn vc, .slice sa sn sc]) (T := 55) w)
 have HD := Lib.hid hd
 clear hd hv hs
 change Hid (∀ W, Below w.heap.size w W → Calls _ _ #[.agg #[.slice da dn dc, .int .i64 l2, .slice va vn vc, .slice sa sn sc], .int .i64 m] W _) at HV
 show Calls _ _ #[.agg #[.slice da dn dc, .int .i64 l2, .slice va vn vc, .slice sa sn sc], .int .i64 m, .int .i64 keep, .int .i64 at_, .int .i64 flip] w _
 generalize vldL m (l1, l2, l3, l4) = q at *
 generalize crsS m keep at_ flip (l1, l2, l3, l4) = pr at *
 go_enter Tryz.func44, Tryz.ntmps44
 go_upto_region 1 with fail
 have hsa : (w.alloc (.cells #[.slice da dn dc, .int .i64 l2, .slice va vn vc, .slice sa sn sc] 55)).heap.size = w.heap.size + 1 := by simp
 generalize w.alloc (.cells #[.slice da dn dc, .int .i64 l2, .slice va vn vc, .slice sa sn sc] 55) = wa at *
 obtain ⟨R, hR⟩ : ∃ R, R = w.heap.size := ⟨_, rfl⟩
 rw [← hR] at HA hsa ⊢
 clear hR
 have HB := Lib.hid (BX.mk0 (vs := #[.slice none 0 0, .int .i64 0, .slice none 0 0, .slice none 0 0]) (T := 55) wa)
 rw [hsa] at HB
 clear hsa
 generalize wa.alloc (.cells #[.slice none 0 0, .int .i64 0, .slice none 0 0, .slice none 0 0] 55) = wb at *
 obtain ⟨R2, hR2⟩ : ∃ R2, R2 = R + 1 := ⟨_, rfl⟩
 rw [← hR2] at HB ⊢
 have hne : R2 ≠ R := by omega
 have hle : R ≤ R2 := by omega
 clear hR2
 have HA := Lib.hid (HA.out.next HB.out.bl)
 have HB : Hid (BX w wb R2 _ _) := Lib.hid ⟨HB.out.hp, Nat.le_trans HA.out.lo hle, HA.out.bl⟩
 obtain ⟨⟨g0, g1, g2, g3⟩, gf0, gf1, gf2, gf3⟩ := HA.out.four
 go_wp2_with fail
 refine (HV.out _ HA.out.bl).mono ?_
 rintro en w1 ⟨rfl, hb1⟩
 have HA := Lib.hid (HA.out.next hb1)
 have HB := Lib.hid (HB.out.next hb1)
 clear g0 g1 g2 g3 gf0 gf1 gf2 gf3 hb1 HV
 obtain ⟨⟨g0, g1, g2, g3⟩, gf0, gf1, gf2, gf3⟩ := HA.out.four
 cases q
 ·
  have HF2 : Hid (pr = (1, lgZ, 0)) := Lib.hid (by rw [HF.out, if_pos rfl])
  obtain ⟨⟨rc0, rc1, rc2, rc3⟩, rf0, rf1, rf2, rf3⟩ := HB.out.four
  have HR9 := Lib.hid (HB.out.set4 (.slice none 0 0) (.int .i64 0) (.slice none 0 0) (.slice none 0 0))
  go_wp2_with fail
  generalize (((World.setCell w1 ⟨R2, 0, none⟩ (.slice none 0 0)).setCell ⟨R2, 1, none⟩ (.int .i64 0)).setCell ⟨R2, 2, none⟩ (.slice none 0 0)).setCell ⟨R2, 3, none⟩ (.slice none 0 0) = W9 at *
  clear rc0 rc1 rc2 rc3 rf0 rf1 rf2 rf3
  obtain ⟨⟨rc0, rc1, rc2, rc3⟩, _⟩ := HR9.out.four
  refine bodyPost_ret (v := .tuple #[.agg #[.slice none 0 0, .int .i64 0, .slice none 0 0, .slice none 0 0], .int .i64 0, .int .i64 1]) (by simp [results, Tryz.results44, go_sem, rc0, rc1, rc2, rc3]) rfl ?_
  rw [HF2.out]
  exact ⟨_, rfl, LogO.zero _ _, HR9.out.bl⟩
 have HF1 : Hid (pr = opnS m (leftB (l1, l2, l3, l4) keep at_ flip)) := Lib.hid (by rw [HF.out, if_neg (by simp)])
 obtain ⟨_, hl1, ⟨hl20, hl21⟩, _, _, _⟩ := HLK.out rfl
 rw [hld] at hl1 hl21
 clear HLK HF
 have hw1 : IntKind.i64.wrap ((dn : Int) - l2) = (dn : Int) - l2 := IntWalk.i64_in _ (by omega)
 obtain ⟨K, hK⟩ : ∃ K : Nat, (K : Int) = max 0 (min keep ((dn : Int) - l2)) := ⟨(max 0 (min keep ((dn : Int) - l2))).toNat, by omega⟩
 obtain ⟨s2, rfl⟩ : ∃ s : Nat, l2 = s := ⟨l2.toNat, by omega⟩
 go_upto_region 4 with fail
 go_cut [2] (fun s wx => s = .int .i64 K ∧ wx = w1)
 case first =>
  have hgo : ∀ x : Int, x = K → Value.int .i64 x = .int .i64 K := fun _ h => by rw [h]
  go_wp2_with fail
  all_goals go_meet
  all_goals exact ⟨hgo _ (by omega), rfl⟩
 case rest =>
  obtain ⟨rfl, hwc⟩ := hcut
  replace hwc := hwc.symm
  subst hwc
  have hKn : s2 + K ≤ dn := by omega
  have HLB : Hid (leftB (l1, (s2 : Int), l3, l4) keep at_ flip = if 0 ≤ at_ ∧ at_ < (K : Int) then (l1.take (s2 + K)).set ((s2 : Int) + at_).toNat ((l1.take (s2 + K)).getD ((s2 : Int) + at_).toNat 0 ^^^ UInt8.ofNat (flip % 256).toNat) else l1.take (s2 + K)) := Lib.hid (by
   unfold leftB
   simp only
   rw [hld, ← hK, show ((s2 : Int) + (K : Int)).toNat = s2 + K by omega])
  clear hK hk1 hk2
  have hln : (l1.take (s2 + K)).length = s2 + K := by rw [List.length_take]; omega
  have hsk : IntKind.i64.wrap ((s2 : Int) + (K : Int)) = (s2 : Int) + (K : Int) := IntWalk.i64_in _ (by omega)
  have hcc : (s2 : Int) + (K : Int) ≤ dc := by omega
  have hc0 : (0 : Int) ≤ (s2 : Int) + (K : Int) := by omega
  have hsn : ((s2 : Int) + (K : Int)).toNat = s2 + K := by omega
  go_upto_region 5 with fail
  go_cut [14] (fun s wx => Hid (KRow bytC 1 5 wx w1.heap.size s (l1.take (s2 + K))) ∧ Hid (Below w1.heap.size w1 wx))
  case first =>
   have CL := Lib.hid (bclone_any da (s2 + K) dc (l1.take (s2 + K)) w1 ⟨show s2 + K ≤ dc by omega, (HD.out.below HA.out.bl).2.take (show s2 + K ≤ dn by omega)⟩ (by omega))
   cases da with
   | none =>
    go_wp2_with fail
    refine CL.out.mono ?_
    rintro en w9 ⟨sz, rfl, hr9, hb9⟩
    have HR9 := Lib.hid hr9
    have HB9 := Lib.hid hb9
    clear hr9 hb9
    go_wp2_with fail
    go_meet
    exact ⟨HR9, HB9⟩
   | some ad =>
    go_wp2_with fail
    refine CL.out.mono ?_
    rintro en w9 ⟨sz, rfl, hr9, hb9⟩
    have HR9 := Lib.hid hr9
    have HB9 := Lib.hid hb9
    clear hr9 hb9
    go_wp2_with fail
    go_meet
    exact ⟨HR9, HB9⟩
  case rest =>
   obtain ⟨HR9, HBW⟩ := hcut
   obtain ⟨ra, rc, rfl, hrc, hbr⟩ := KRow.at_ encByt HR9.out
   rw [hln] at hrc hbr ⊢
   have HBR := Lib.hid (show BV wc (ra, s2 + K, rc) (l1.take (s2 + K)) from ⟨hrc, hbr⟩)
   clear hrc hbr
   have HNO : Hid (NilOk (ra, s2 + K, rc)) := Lib.hid (by have h := HR9.out; rw [hln] at h; exact nil_row (s := (ra, s2 + K, rc)) h)
   have HB1 := HB
   have HA := Lib.hid (HA.out.next HBW.out)
   have HB := Lib.hid (HB.out.next HBW.out)
   clear g0 g1 g2 g3 gf0 gf1 gf2 gf3
   obtain ⟨⟨g0, g1, g2, g3⟩, gf0, gf1, gf2, gf3⟩ := HA.out.four
   by_cases hat : 0 ≤ at_ ∧ at_ < (K : Int)
   ·
    obtain ⟨ha0, ha1⟩ := hat
    obtain ⟨t, rfl⟩ : ∃ t : Nat, at_ = t := ⟨at_.toNat, by omega⟩
    obtain ⟨F, hF⟩ : ∃ F : Nat, (flip % 256).toNat = F := ⟨_, rfl⟩
    have hF2 : F < 256 := by omega
    have hmod : flip % 256 = (F : Int) := by omega
    have hwf : IntKind.u8.wrap flip = (F : Int) := by rw [IntKind.wrap_u8]; omega
    have hst : IntKind.i64.wrap ((s2 : Int) + (t : Int)) = (s2 : Int) + (t : Int) := IntWalk.i64_in _ (by omega)
    have hst1 : (s2 : Int) + (t : Int) < (s2 : Int) + (K : Int) := by omega
    have hst0 : (0 : Int) ≤ (s2 : Int) + (t : Int) := by omega
    have hstn : ((s2 : Int) + (t : Int)).toNat = s2 + t := by omega
    obtain ⟨c, hc⟩ : ∃ c, (l1.take (s2 + K))[s2 + t]? = some c := ⟨_, List.getElem?_eq_getElem (by omega)⟩
    obtain ⟨g, cap, hv9, _, hB9, hcg, hfg, HP⟩ := row_put HR9.out hc
    rw [hln] at hv9
    injection hv9 with e1 _ e3
    subst e1 e3
    have hcx := xor8 c.toNat F c.toNat_lt hF2
    have hwF := wrap8 F hF2
    have hxx : c.toNat ^^^ F < 256 := Nat.xor_lt_two_pow (n := 8) (by have := c.toNat_lt; omega) (by omega)
    have hUx : (c ^^^ UInt8.ofNat F).toNat = c.toNat ^^^ F := by
     rw [UInt8.toNat_xor, UInt8.toNat_ofNat', Nat.mod_eq_of_lt hF2]
    have HPr : Hid (pr = opnS m ((l1.take (s2 + K)).set (s2 + t) (c ^^^ UInt8.ofNat F))) := Lib.hid (by
     rw [HF1.out, HLB.out, if_pos ⟨ha0, ha1⟩, hstn, hF, List.getD_eq_getElem?_getD, hc]; rfl)
    have HRX := Lib.hid (HP (c ^^^ UInt8.ofNat F))
    rw [hUx] at HRX
    have HBX := Lib.hid (HBW.out.setCell (p := ⟨g, s2 + t, none⟩) hB9 (.int .u8 ((c.toNat ^^^ F : Nat) : Int)))
    clear HF1 HLB HP HR9 hF hUx
    have HBY := Lib.hid (HB1.out.next HBX.out)
    obtain ⟨⟨er, ⟨o1, o2, o3, o4⟩, rest⟩, ho⟩ : ∃ r, opnS m ((l1.take (s2 + K)).set (s2 + t) (c ^^^ UInt8.ofNat F)) = r := ⟨_, rfl⟩
    obtain ⟨ra', rc', hv9, hrc', hbr'⟩ := KRow.at_ encByt HRX.out
    rw [List.length_set, hln] at hv9 hrc' hbr'
    injection hv9 with e1 _ e3
    subst e1 e3
    have OP := Lib.hid (HOPP.out (some ⟨g, 0, none⟩) (s2 + K) rc ((l1.take (s2 + K)).set (s2 + t) (c ^^^ UInt8.ofNat F)) m _ ⟨hrc', hbr'⟩ (fun h => by cases h) (HEE.out.below (below3 HB1.out.bl HBX.out)))
    rw [ho] at OP HPr
    clear ho hbr' HRX HBR
    go_wp2_with fail
    generalize wc.setCell ⟨g, s2 + t, none⟩ (.int .u8 ((c.toNat ^^^ F : Nat) : Int)) = W at *
    refine OP.out.mono ?_
    rintro en w8 ⟨v8, rfl, hl8, hb8⟩
    obtain ⟨⟨xa, xn, xc⟩, ⟨ya, yn, yc⟩, ⟨za, zn, zc⟩, hv8, hx1, hx2, hx3⟩ := hl8
    replace hv8 : v8 = .agg #[.slice xa xn xc, .int .i64 o2, .slice ya yn yc, .slice za zn zc] := hv8
    subst hv8
    have HL8 : Hid (LogO w8 W.heap.size (.agg #[.slice xa xn xc, .int .i64 o2, .slice ya yn yc, .slice za zn zc]) (o1, o2, o3, o4)) := Lib.hid ⟨(xa, xn, xc), (ya, yn, yc), (za, zn, zc), rfl, hx1, hx2, hx3⟩
    have HB8 := Lib.hid (HBY.out.next hb8)
    have HR9 := Lib.hid (HB8.out.set4 (.slice xa xn xc) (.int .i64 o2) (.slice ya yn yc) (.slice za zn zc))
    have HL9 := Lib.hid ((HL8.out.set4 HBY.out.lt (.slice xa xn xc) (.int .i64 o2) (.slice ya yn yc) (.slice za zn zc)).base HBY.out.bl.size)
    clear hx1 hx2 hx3 hb8 HL8
    obtain ⟨⟨rc0, rc1, rc2, rc3⟩, rf0, rf1, rf2, rf3⟩ := HB8.out.four
    clear HB8
    go_wp2_with fail
    generalize (((World.setCell w8 ⟨R2, 0, none⟩ (.slice xa xn xc)).setCell ⟨R2, 1, none⟩ (.int .i64 o2)).setCell ⟨R2, 2, none⟩ (.slice ya yn yc)).setCell ⟨R2, 3, none⟩ (.slice za zn zc) = W9 at *
    clear rc0 rc1 rc2 rc3 rf0 rf1 rf2 rf3
    obtain ⟨⟨rc0, rc1, rc2, rc3⟩, _⟩ := HR9.out.four
    refine bodyPost_ret (v := .tuple #[.agg #[.slice xa xn xc, .int .i64 o2, .slice ya yn yc, .slice za zn zc], .int .i64 rest, .int .i64 er]) (by simp [results, Tryz.results44, go_sem, rc0, rc1, rc2, rc3]) rfl ?_
    rw [HPr.out]
    exact ⟨_, rfl, HL9.out, HR9.out.bl⟩
   ·
    have HPr : Hid (pr = opnS m (l1.take (s2 + K))) := Lib.hid (by rw [HF1.out, HLB.out, if_neg hat])
    have OP := Lib.hid (HOPP.out ra (s2 + K) rc (l1.take (s2 + K)) m wc HBR.out HNO.out (HEE.out.below HB.out.bl))
    obtain ⟨⟨er, ⟨o1, o2, o3, o4⟩, rest⟩, ho⟩ : ∃ r, opnS m (l1.take (s2 + K)) = r := ⟨_, rfl⟩
    rw [ho] at OP HPr
    clear HF1 HLB ho HB1 HBR HR9
    rcases (show at_ < 0 ∨ (0 ≤ at_ ∧ (K : Int) ≤ at_) by omega) with h | ⟨h, h'⟩
    ·
     clear hat
     go_wp2_with fail
     refine OP.out.mono ?_
     rintro en w8 ⟨v8, rfl, hl8, hb8⟩
     obtain ⟨⟨xa, xn, xc⟩, ⟨ya, yn, yc⟩, ⟨za, zn, zc⟩, hv8, hx1, hx2, hx3⟩ := hl8
     replace hv8 : v8 = .agg #[.slice xa xn xc, .int .i64 o2, .slice ya yn yc, .slice za zn zc] := hv8
     subst hv8
     have HL8 : Hid (LogO w8 wc.heap.size (.agg #[.slice xa xn xc, .int .i64 o2, .slice ya yn yc, .slice za zn zc]) (o1, o2, o3, o4)) := Lib.hid ⟨(xa, xn, xc), (ya, yn, yc), (za, zn, zc), rfl, hx1, hx2, hx3⟩
     have HB8 := Lib.hid (HB.out.next hb8)
     have HR9 := Lib.hid (HB8.out.set4 (.slice xa xn xc) (.int .i64 o2) (.slice ya yn yc) (.slice za zn zc))
     have HL9 := Lib.hid ((HL8.out.set4 HB.out.lt (.slice xa xn xc) (.int .i64 o2) (.slice ya yn yc) (.slice za zn zc)).base HB.out.bl.size)
     clear hx1 hx2 hx3 hb8 HL8
     obtain ⟨⟨rc0, rc1, rc2, rc3⟩, rf0, rf1, rf2, rf3⟩ := HB8.out.four
     clear HB8
     go_wp2_with fail
     generalize (((World.setCell w8 ⟨R2, 0, none⟩ (.slice xa xn xc)).setCell ⟨R2, 1, none⟩ (.int .i64 o2)).setCell ⟨R2, 2, none⟩ (.slice ya yn yc)).setCell ⟨R2, 3, none⟩ (.slice za zn zc) = W9 at *
     clear rc0 rc1 rc2 rc3 rf0 rf1 rf2 rf3
     obtain ⟨⟨rc0, rc1, rc2, rc3⟩, _⟩ := HR9.out.four
     refine bodyPost_ret (v := .tuple #[.agg #[.slice xa xn xc, .int .i64 o2, .slice ya yn yc, .slice za zn zc], .int .i64 rest, .int .i64 er]) (by simp [results, Tryz.results44, go_sem, rc0, rc1, rc2, rc3]) rfl ?_
     rw [HPr.out]
     exact ⟨_, rfl, HL9.out, HR9.out.bl⟩
    ·
     clear hat
     go_wp2_with fail
     refine OP.out.mono ?_
     rintro en w8 ⟨v8, rfl, hl8, hb8⟩
     obtain ⟨⟨xa, xn, xc⟩, ⟨ya, yn, yc⟩, ⟨za, zn, zc⟩, hv8, hx1, hx2, hx3⟩ := hl8
     replace hv8 : v8 = .agg #[.slice xa xn xc, .int .i64 o2, .slice ya yn yc, .slice za zn zc] := hv8
     subst hv8
     have HL8 : Hid (LogO w8 wc.heap.size (.agg #[.slice xa xn xc, .int .i64 o2, .slice ya yn yc, .slice za zn zc]) (o1, o2, o3, o4)) := Lib.hid ⟨(xa, xn, xc), (ya, yn, yc), (za, zn, zc), rfl, hx1, hx2, hx3⟩
     have HB8 := Lib.hid (HB.out.next hb8)
     have HR9 := Lib.hid (HB8.out.set4 (.slice xa xn xc) (.int .i64 o2) (.slice ya yn yc) (.slice za zn zc))
     have HL9 := Lib.hid ((HL8.out.set4 HB.out.lt (.slice xa xn xc) (.int .i64 o2) (.slice ya yn yc) (.slice za zn zc)).base HB.out.bl.size)
     clear hx1 hx2 hx3 hb8 HL8
     obtain ⟨⟨rc0, rc1, rc2, rc3⟩, rf0, rf1, rf2, rf3⟩ := HB8.out.four
     clear HB8
     go_wp2_with fail
     generalize (((World.setCell w8 ⟨R2, 0, none⟩ (.slice xa xn xc)).setCell ⟨R2, 1, none⟩ (.int .i64 o2)).setCell ⟨R2, 2, none⟩ (.slice ya yn yc)).setCell ⟨R2, 3, none⟩ (.slice za zn zc) = W9 at *
     clear rc0 rc1 rc2 rc3 rf0 rf1 rf2 rf3
     obtain ⟨⟨rc0, rc1, rc2, rc3⟩, _⟩ := HR9.out.four
     refine bodyPost_ret (v := .tuple #[.agg #[.slice xa xn xc, .int .i64 o2, .slice ya yn yc, .slice za zn zc], .int .i64 rest, .int .i64 er]) (by simp [results, Tryz.results44, go_sem, rc0, rc1, rc2, rc3]) rfl ?_
     rw [HPr.out]
     exact ⟨_, rfl, HL9.out, HR9.out.bl⟩
end Go.Proofs.YtihbpggbpapcfaaGreatDoor

namespace Go.Proofs.YtihbpggbpapcfaaGreatDoor
open Go.RowKit

theorem LLX.ll {φ : Nat → Prop} {w : World} {s : Sl} {ls : List (List Ses)} (h : LLX φ w s ls) : LLAt w s.1 s.2.1 ls := by
 obtain ⟨_, _, rs, h1, h2⟩ := h
 exact ⟨rs, h1, h2.imp fun _ _ hr => hr.1⟩
theorem LLX.below {φ : Nat → Prop} {w w' : World} {s : Sl} {ls : List (List Ses)} (h : LLX φ w s ls) (hb : Below w.heap.size w w') : LLX φ w' s ls := by
 obtain ⟨h1, h2, rs, h3, h4⟩ := h
 exact ⟨h1, h2, rs, KAt.same h3 h2 (SameB.of_below (φ := φ) hb), h4.imp fun _ _ hr => hr.below hb⟩
theorem LLX.len {φ : Nat → Prop} {w : World} {s : Sl} {ls : List (List Ses)} (h : LLX φ w s ls) : s.2.1 = ls.length := by
 obtain ⟨_, _, rs, h3, h4⟩ := h
 rw [← h4.1]
 exact h3.1.symm
theorem ciSmv (args : Array Value) (w : World) : (callFunc 19 args).run Tryz.prog w = .ok (.enter 19 args) w := by
 kernel_rfl
theorem ciSms (args : Array Value) (w : World) : (callFunc 40 args).run Tryz.prog w = .ok (.enter 40 args) w := by
 kernel_rfl
theorem ciPub (args : Array Value) (w : World) : (callFunc 35 args).run Tryz.prog w = .ok (.enter 35 args) w := by
 kernel_rfl
theorem and_w (x y : Int) : (Lit.int .i64 (bits .and .i64 x y)).wf = true := by
 unfold bits
 simp [Lit.wf, IntKind.wrap, IntKind.min, IntKind.max, IntKind.signed, IntKind.bits] <;> (try split) <;> omega
theorem and_b (x y : Int) : -9223372036854775808 ≤ bits .and .i64 x y ∧ bits .and .i64 x y ≤ 9223372036854775807 := by
 exact bounds_i64 (and_w _ _)
def pfV (Q R2 gb go k e1 : Nat) (f v v' g s t e : Value) (_L : Array Bool) (j : Nat) (u : Value) (_W : World) : Prop := match j with
 | 0 => u = .pointer (some ⟨Q, 2, none⟩)
 | 1 => u = f
 | 2 => u = .pointer (some ⟨R2, 2, none⟩)
 | 3 => u = v
 | 4 | 12 => u = .int .i64 k
 | 5 => u = v'
 | 6 | 15 => u = .bool true
 | 7 | 8 | 16 | 17 | 18 | 26 | 27 => u = .bool false
 | 9 => u = .pointer (some ⟨Q, 3, none⟩)
 | 10 => u = g
 | 11 => u = s
 | 13 => u = .pointer (some ⟨gb, go, none⟩)
 | 14 => u = t
 | 19 | 22 | 23 => u = .pointer (some ⟨Q, 0, none⟩)
 | 20 => u = .pointer (some ⟨Q, 1, none⟩)
 | 21 | 25 => u = .int .i64 e1
 | 24 => u = e
 | _ => k = k
theorem shw_pub {n : Int} {l : Lg} {ss : List (List Ses)} (h : Pub n l ss) : ∃ z, shwS n l = (0, shwN l.2.1 0 l.2.2.1, z) := by
 unfold shwS
 rw [h.vld]
 exact ⟨_, rfl⟩
theorem takeN {α : Type} {xs : List α} {i : Nat} {x : α} (h : xs[i]? = some x) : xs.take (i + 1) = xs.take i ++ [x] := by
 rw [List.take_add_one, h]; rfl
theorem lg_step {n : Int} {l : Lg} {ss : List (List Ses)} (h : Pub n l ss) {syn : Int} {i : Nat} {v : Ver} (hi : l.2.2.1[i]? = some v) (hm : Pub n (lgC (l.2.2.1.take i) (ss.take i) syn) (ss.take i)) :
  pubS n v.2.1 (lgC (l.2.2.1.take i) (ss.take i) syn) (([] :: ss).getD (i + 1) []) = (0, lgC (l.2.2.1.take (i + 1)) (ss.take (i + 1)) syn) ∧ Pub n (lgC (l.2.2.1.take (i + 1)) (ss.take (i + 1)) syn) (ss.take (i + 1)) := by
 have hs := ver_pub h hi
 have hlt := (List.getElem?_eq_some_iff.1 hi).1
 have hln := chn_len h.ch
 have e1 : ([] :: ss).getD i [] = (lgC (l.2.2.1.take i) (ss.take i) syn).2.2.2 := (getLast_take (by omega) []).symm
 rw [e1] at hs
 have hp := pub_again hm hs (ver_data h hi)
 obtain ⟨s, h1, _⟩ := chn_at h.ch hi
 have e2 : ([] :: ss).getD (i + 1) [] = s := by rw [List.getD_cons_succ, List.getD_eq_getElem?_getD, h1]; rfl
 have e3 : ((lgC (l.2.2.1.take i) (ss.take i) syn).1 ++ encV v, (lgC (l.2.2.1.take i) (ss.take i) syn).2.1, (lgC (l.2.2.1.take i) (ss.take i) syn).2.2.1 ++ [v], s) = lgC (l.2.2.1.take (i + 1)) (ss.take (i + 1)) syn := by
  unfold lgC
  simp only
  rw [takeN hi, takeN h1, List.flatMap_append]
  simp
 rw [e2] at hp ⊢
 rw [e3] at hp
 refine ⟨hp, ?_⟩
 have := (pub_step hm hp).1
 rw [takeN h1]
 rw [takeN h1] at this
 exact this
theorem LogO.othL {w : World} {B0 : Nat} {v : Value} {l : Lg} (h : LogO w B0 v l) {w0 : World} {B : Nat} {v0 v1 v2 v3 : Value} (hx : BX w0 w B #[v0, v1, v2, v3] 55) (u0 u1 u2 u3 : Value) : LogO ((((w.setCell ⟨B, 0, none⟩ u0).setCell ⟨B, 1, none⟩ u1).setCell ⟨B, 2, none⟩ u2).setCell ⟨B, 3, none⟩ u3) B0 v l := by
 obtain ⟨d, vs, ss, hv, h1, h2, h4⟩ := h
 exact ⟨d, vs, ss, hv, row_oth4 h1 hx (by decide) u0 u1 u2 u3, h2.oth4 hx (by decide) (by decide) (by decide) u0 u1 u2 u3, row_oth4 h4 hx (by decide) u0 u1 u2 u3⟩
theorem LogO.belowL {w w' : World} {B : Nat} {v : Value} {l : Lg} (h : LogO w B v l) (hb : Below w.heap.size w w') : LogO w' B v l := by
 obtain ⟨d, vs, ss, hv, h1, h2, h3⟩ := h
 exact ⟨d, vs, ss, hv, row_below h1 hb, h2.below hb, row_below h3 hb⟩
theorem LogO.parts {w : World} {B : Nat} {d vs xs : Sl} {y : Int} {l : Lg} (h : LogO w B (logV d y vs xs) l) : y = l.2.1 ∧ BV w d l.1 ∧ VV w vs l.2.2.1 ∧ SV w xs l.2.2.2 := by
 obtain ⟨a, b, c, e, g1, g2, g3⟩ := h.logR
 obtain ⟨a1, a2, a3⟩ := a
 obtain ⟨b1, b2, b3⟩ := b
 obtain ⟨c1, c2, c3⟩ := c
 obtain ⟨d1, d2, d3⟩ := d
 obtain ⟨v1, v2, v3⟩ := vs
 obtain ⟨x1, x2, x3⟩ := xs
 simp only [logV, Value.agg.injEq, Array.mk.injEq, List.cons.injEq, slV, Value.slice.injEq, Value.int.injEq] at e
 obtain ⟨⟨rfl, rfl, rfl⟩, ⟨_, rfl⟩, ⟨rfl, rfl, rfl⟩, ⟨rfl, rfl, rfl⟩, _⟩ := e
 exact ⟨rfl, g1, g2, g3⟩
def plV (R2 vb vo gb go i m e1 s1 s2 : Nat) (wk : Int) (l' : Lg) (mv vv t : Value) (wI : World) (L : Array Bool) (j : Nat) (u : Value) (W : World) : Prop := match j with
 | 0 => u = mv
 | 1 => u = .int .i64 m
 | 2 => u = .pointer (some ⟨R2, 2, none⟩)
 | 3 => u = vv
 | 4 | 9 => u = .int .i64 i
 | 5 => u = .pointer (some ⟨vb, vo + i * 3, none⟩)
 | 6 => u = .pointer (some ⟨vb, vo + i * 3 + 1, none⟩)
 | 7 => u = .int .i64 wk
 | 8 => u = .slice (some ⟨gb, go, none⟩) s1 s2
 | 10 => u = .int .i64 ((i : Int) + 1)
 | 11 => u = .pointer (some ⟨gb, go + (i + 1), none⟩)
 | 12 => u = t
 | 13 | 14 => ∃ d v x : Sl, u = .tuple #[.agg #[.slice d.1 d.2.1 d.2.2, .int .i64 e1, .slice v.1 v.2.1 v.2.2, .slice x.1 x.2.1 x.2.2], .int .i64 0] ∧ LogO W 0 (logV d e1 v x) l'
 | 15 => ∃ d v x : Sl, u = .agg #[.slice d.1 d.2.1 d.2.2, .int .i64 e1, .slice v.1 v.2.1 v.2.2, .slice x.1 x.2.1 x.2.2] ∧ LogO W 0 (logV d e1 v x) l'
 | 16 | 19 => u = .int .i64 0
 | 17 => ∃ B v0 v1 v2 v3, u = .pointer (some ⟨B, 0, none⟩) ∧ BX wI W B #[v0, v1, v2, v3] 55 ∧ (L[18]? = some true → ∃ d v x : Sl, v0 = .slice d.1 d.2.1 d.2.2 ∧ v1 = .int .i64 e1 ∧ v2 = .slice v.1 v.2.1 v.2.2 ∧ v3 = .slice x.1 x.2.1 x.2.2 ∧ LogO W 0 (logV d e1 v x) l')
 | 18 => L[17]? = some true
 | _ => m = m
section
variable {R2 vb vo gb go i m e1 s1 s2 : Nat} {wk : Int} {l' : Lg} {mv vv t : Value} {wI : World} {L : Array Bool} {j k : Nat} {u : Value} {W W' : World}
theorem plV_keep (hb : Below W.heap.size W W') (hi : k ≠ 18) (h : plV R2 vb vo gb go i m e1 s1 s2 wk l' mv vv t wI L j u W) : plV R2 vb vo gb go i m e1 s1 s2 wk l' mv vv t wI (L.setIfInBounds k true) j u W' := by
 unfold plV at h ⊢
 split <;> simp only at h ⊢ <;> try exact h
 ·
  obtain ⟨d, v, x, h1, h2⟩ := h
  exact ⟨d, v, x, h1, h2.belowL hb⟩
 ·
  obtain ⟨d, v, x, h1, h2⟩ := h
  exact ⟨d, v, x, h1, h2.belowL hb⟩
 ·
  obtain ⟨d, v, x, h1, h2⟩ := h
  exact ⟨d, v, x, h1, h2.belowL hb⟩
 ·
  obtain ⟨B, v0, v1, v2, v3, h1, h2, h3⟩ := h
  refine ⟨B, v0, v1, v2, v3, h1, h2.next hb, fun hl => ?_⟩
  rw [Array.getElem?_setIfInBounds_ne hi] at hl
  obtain ⟨d, v, x, a0, a1, a2, a3, h4⟩ := h3 hl
  exact ⟨d, v, x, a0, a1, a2, a3, h4.belowL hb⟩
 ·
  exact listed_more h
theorem plV_store (hk : ∀ v, LogO W 0 v l' → LogO W' 0 v l') (hj : j ≠ 17) (h : plV R2 vb vo gb go i m e1 s1 s2 wk l' mv vv t wI L j u W) : plV R2 vb vo gb go i m e1 s1 s2 wk l' mv vv t wI (L.setIfInBounds k true) j u W' := by
 unfold plV at h ⊢
 split <;> simp only at h ⊢ <;> try exact h
 ·
  obtain ⟨d, v, x, h1, h2⟩ := h
  exact ⟨d, v, x, h1, hk _ h2⟩
 ·
  obtain ⟨d, v, x, h1, h2⟩ := h
  exact ⟨d, v, x, h1, hk _ h2⟩
 ·
  obtain ⟨d, v, x, h1, h2⟩ := h
  exact ⟨d, v, x, h1, hk _ h2⟩
 ·
  exact absurd rfl hj
 ·
  exact listed_more h
end
theorem ret_val {b : Bool} (h : b = true) : Value.bool b = .bool true := by rw [h]

set_option maxRecDepth 100000 in
set_option maxHeartbeats 16000000 in
theorem law_prefix (a : Option Addr) (n c : Nat) (L : List Int) (kp at_ fl : Int) (w : World) (hI : IntsAt w a n L) (hL : ∀ x ∈ L, -9223372036854775808 ≤ x ∧ x ≤ 9223372036854775807) (_hk : -9223372036854775808 ≤ kp ∧ kp ≤ 9223372036854775807) (_hat : -9223372036854775808 ≤ at_ ∧ at_ ≤ 9223372036854775807) (hf : 0 ≤ fl ∧ fl ≤ 255) (hE : Env w) :
  Calls Tryz.prog 10 #[.slice a n c, .int .i64 kp, .int .i64 at_, .int .u8 fl] w (RetB (.bool true) w) := by
 have AW := Lib.hid (fun W (h : Below w.heap.size w W) => awake_any W (hE.below h))
 by_cases hg : n ≤ 400
 rotate_left
 ·
  have hnd : decide (n ≤ 400) = false := by simpa using hg
  clear hI hL hE
  go_enter Tryz.func10, Tryz.ntmps10
  go_wp2_with (first | (go_at_call 12; refine (light_any _ _ _ _).mono ?_; rintro e w' ⟨rfl, rfl⟩) | (go_at_call 13; refine (AW.out _ (Below.refl _ _)).mono ?_; rintro e w' ⟨rfl, hb⟩))
  go_ret
  exact ⟨rfl, hb⟩
 have hnd : decide (n ≤ 400) = true := by simpa using hg
 have HD0 := Lib.hid (DiceAt.mk0 c 104 hI hg hL)
 have HE := Lib.hid hE
 clear hI hL hE
 go_enter Tryz.func10, Tryz.ntmps10
 go_upto_region 3 with (go_at_call 12; refine (light_any _ _ _ _).mono ?_; rintro e w' ⟨rfl, rfl⟩)
 have HB1 := Lib.hid ((Below.refl w.heap.size w).alloc (Nat.le_refl _) (.cells #[.slice a n c, .int .i64 0] 104))
 go_upto_region 4 with (go_at_call 15; refine (roll_any _ _ _ _).mono ?_; rintro e w' ⟨rfl, rfl⟩)
 generalize w.alloc (.cells #[.slice a n c, .int .i64 0] 104) = w1 at *
 obtain ⟨p, hp⟩ : ∃ p, p = w.heap.size := ⟨_, rfl⟩
 rw [← hp] at HD0 ⊢
 have hpw : w.heap.size ≤ p := Nat.le_of_eq hp.symm
 clear hp
 have N8 := Lib.hid (next_any p 8 w1 (by omega) (by omega) HD0.out)
 go_upto_region 5 with (go_at_call 24; refine N8.out.mono ?_; rintro en w2 ⟨r, r0, r8, rfl, hd2, hb2⟩)
 have HB2 := Lib.hid (But.below HB1.out hb2 hpw HB1.out.size)
 obtain ⟨m, hm⟩ : ∃ m : Nat, 1 + r = (m : Int) := ⟨(1 + r).toNat, by omega⟩
 have hm1 : 1 ≤ m := by omega
 have hm8 : m ≤ 8 := by omega
 rw [hm]
 have FL := Lib.hid (filled_any p m hm1 hm8 w2 hd2)
 have hp2 : p < w2.heap.size := hd2.lt
 clear N8 HD0 hd2 hb2 hm r0 r8
 go_upto_region 6 with (go_at_call 25; refine FL.out.mono ?_; rintro en w3 ⟨_, ⟨s0, s1, s2⟩, l, ss, rfl, ⟨⟨d0, d1, d2⟩, ⟨v0, v1, v2⟩, ⟨x0, x1, x2⟩, rfl, hlq⟩, hll, hpu, hs4, hd3, hb3⟩; rw [show (logV (d0, d1, d2) l.2.1 (v0, v1, v2) (x0, x1, x2)) = .agg #[.slice d0 d1 d2, .int .i64 l.2.1, .slice v0 v1 v2, .slice x0 x1 x2] from rfl])
 have hlx : LogX (fun b => w2.heap.size ≤ b ∧ b < w3.heap.size) w3 (logV (d0, d1, d2) l.2.1 (v0, v1, v2) (x0, x1, x2)) l := LogX.lt (φ := fun b => w2.heap.size ≤ b) ⟨_, _, _, rfl, hlq⟩
 have hal : Below w3.heap.size w3 (w3.alloc (.cells #[.slice d0 d1 d2, .int .i64 l.2.1, .slice v0 v1 v2, .slice x0 x1 x2] 51)) := (Below.refl _ _).alloc (Nat.le_refl _) _
 have HX : Hid ((w3.alloc (.cells #[.slice d0 d1 d2, .int .i64 l.2.1, .slice v0 v1 v2, .slice x0 x1 x2] 51)).heap[w3.heap.size]? = some (.cells #[.slice d0 d1 d2, .int .i64 l.2.1, .slice v0 v1 v2, .slice x0 x1 x2] 51 (0, 0))) := Lib.hid (heap_alloc_new _ _)
 have HLX := Lib.hid (hlx.below hal)
 have HLL := Lib.hid (hll.below hal)
 have HPU := Lib.hid hpu
 have HD4 := Lib.hid (hd3.below hal)
 have HB3 := Lib.hid (But.below HB2.out hb3 hpw HB2.out.size)
 have HB4 := Lib.hid (HB3.out.trans (hal.mono HB3.out.size))
 have HPR : Hid (p < w3.heap.size) := Lib.hid (Nat.lt_of_lt_of_le hp2 hb3.size)
 have hs1 : s1 = ss.length + 1 := hll.len
 have hs5 : s1 ≤ 5 := by omega
 have HS1 := Lib.hid hs1
 clear hs1
 have HVL := Lib.hid (chn_len hpu.ch)
 have hdl : l.1.length = d1 := by
  obtain ⟨a, b, c, e, g1, _⟩ := hlx
  obtain ⟨a1, a2, a3⟩ := a
  simp only [logV, Value.agg.injEq, Array.mk.injEq, List.cons.injEq, slV, Value.slice.injEq] at e
  obtain ⟨⟨rfl, rfl, rfl⟩, _⟩ := e
  exact g1.2.1
 have HDL := Lib.hid hdl
 have HD1 : Hid (d1 ≤ 9223372036854775806) := Lib.hid (by have := hpu.sz; omega)
 have HRB : Hid (∀ b, (w2.heap.size ≤ b ∧ b < w3.heap.size) → b ≠ w3.heap.size) := Lib.hid (fun b hb => Nat.ne_of_lt hb.2)
 clear hdl hs4
 clear FL hlq hlx hll hpu hd3 hb3 hal HB3 HB2 HB1
 generalize w3.alloc (.cells #[.slice d0 d1 d2, .int .i64 l.2.1, .slice v0 v1 v2, .slice x0 x1 x2] 51) = w4 at *
 generalize w3.heap.size = R at *
 have hss : ss.length ≤ 4 := by have := HS1.out; omega
 clear HD4 HDL hp2 HPR HD1 HRB
 have HVX : Hid (VV w4 (v0, v1, v2) l.2.2.1) := Lib.hid (by
  obtain ⟨a, b, c, e, _, _, _, g, _⟩ := HLX.out
  obtain ⟨a1, a2, a3⟩ := a
  obtain ⟨b1, b2, b3⟩ := b
  simp only [logV, Value.agg.injEq, Array.mk.injEq, List.cons.injEq, slV, Value.slice.injEq] at e
  obtain ⟨_, _, ⟨rfl, rfl, rfl⟩, _⟩ := e
  exact g.vv)
 have hvn : l.2.2.1.length = v1 := HVX.out.2.len.1
 have hv5 : v1 ≤ 4 := by have := HVL.out; omega
 obtain ⟨⟨c0, c1, c2, c3⟩, _⟩ := box4_cells HX.out
 go_upto_region 7 with fail
 clear c0 c1 c2 c3
 have HX2 := Lib.hid (BX.mk0 (vs := #[.slice d0 d1 d2, .int .i64 l.2.1, .slice v0 v1 v2, .slice x0 x1 x2]) (T := 55) w4)
 have HB5 := Lib.hid (HB4.out.trans (HX2.out.bl.mono HB4.out.size))
 have HLX5 := Lib.hid (HLX.out.logP.below HX2.out.bl)
 have HLL5 := Lib.hid (HLL.out.ll.below HX2.out.bl)
 have HVX5 := Lib.hid (HVX.out.below HX2.out.bl)
 clear HX HLX HVX HLL HB4
 generalize w4.alloc (.cells #[.slice d0 d1 d2, .int .i64 l.2.1, .slice v0 v1 v2, .slice x0 x1 x2] 55) = w5 at *
 generalize w4.heap.size = R2 at *
 obtain ⟨z1, hz1⟩ := shw_pub HPU.out
 have SH := Lib.hid (shown_of vldP (logV (d0, d1, d2) l.2.1 (v0, v1, v2) (x0, x1, x2)) l m w5 HLX5.out (HE.out.below HB5.out))
 rw [hz1] at SH
 clear hz1
 obtain ⟨⟨c0, c1, c2, c3⟩, _⟩ := HX2.out.four
 go_upto_region 8 with (go_at_call 42; refine SH.out.mono ?_; rintro en w6 ⟨v6, rfl, -, hb6⟩; clear SH)
 clear c0 c1 c2 c3
 have HX6 := Lib.hid (HX2.out.next hb6)
 have HB6 := Lib.hid (HB5.out.trans (hb6.mono HB5.out.size))
 have HLX6 := Lib.hid (HLX5.out.below hb6)
 have HLL6 := Lib.hid (HLL5.out.below hb6)
 have HVX6 := Lib.hid (HVX5.out.below hb6)
 clear hb6 HX2 HB5 HLX5 HLL5 HVX5
 have hkb := and_b kp 2047
 have hab := and_b at_ 1023
 obtain ⟨k1, hk1⟩ : ∃ k1, bits .and .i64 kp 2047 = k1 := ⟨_, rfl⟩
 obtain ⟨a1, ha1⟩ : ∃ a1, bits .and .i64 at_ 1023 = a1 := ⟨_, rfl⟩
 rw [hk1] at hkb
 rw [ha1] at hab
 have CR := Lib.hid (crash_of vldP opnP (logV (d0, d1, d2) l.2.1 (v0, v1, v2) (x0, x1, x2)) l m k1 a1 fl w6 HLX6.out (HE.out.below HB6.out) hkb hab ⟨by omega, by omega⟩)
 obtain ⟨k, rest, hk2, hk3, hcr, hpk⟩ := crash_pub HPU.out k1 a1 fl
 rw [hcr] at CR
 have HPK := Lib.hid hpk
 have HKS := Lib.hid hk2
 rw [← hk1, ← ha1] at CR
 clear hcr hpk hk2 hkb hab hk1 ha1
 obtain ⟨syn, hsyn⟩ : ∃ syn : Int, (((l.2.2.1.take k).flatMap encV).length : Int) = syn := ⟨_, rfl⟩
 rw [hsyn] at HPK CR
 obtain ⟨⟨c0, c1, c2, c3⟩, _⟩ := HX6.out.four
 go_upto_region 9 with (go_at_call 44; refine CR.out.mono ?_; rintro en w8 ⟨_, rfl, ⟨⟨e0, e1, e2⟩, ⟨f0, f1, f2⟩, ⟨g0, g1, g2⟩, rfl, hlo⟩, hb8⟩; clear CR; rw [show logV (e0, e1, e2) (lgC (l.2.2.1.take k) (ss.take k) syn).2.1 (f0, f1, f2) (g0, g1, g2) = .agg #[.slice e0 e1 e2, .int .i64 syn, .slice f0 f1 f2, .slice g0 g1 g2] from rfl])
 clear c0 c1 c2 c3
 have hlo : LogO w8 w6.heap.size (logV (e0, e1, e2) syn (f0, f1, f2) (g0, g1, g2)) (lgC (l.2.2.1.take k) (ss.take k) syn) := ⟨_, _, _, rfl, hlo⟩
 have HLO8 := Lib.hid (hlo.base (Nat.zero_le _))
 obtain ⟨-, hbe, hvf, hsg⟩ := hlo.parts
 obtain rfl : syn = (e1 : Int) := by
  have h1 : ((l.2.2.1.take k).flatMap encV).length = e1 := hbe.2.1
  rw [← hsyn, h1]
 have hf1 : f1 = k := by
  have h1 := hvf.2.len.1
  have h2 : (l.2.2.1.take k).length = f1 := h1
  rw [List.length_take] at h2
  omega
 subst hf1
 have HSG := Lib.hid hsg
 have HVF := Lib.hid hvf
 have HK3 := Lib.hid hk3
 clear hsyn hk3 hbe hsg
 have hf4 : f1 ≤ v1 := by have := HK3.out; omega
 have HQ := Lib.hid (BX.mk0 (vs := #[.slice e0 e1 e2, .int .i64 e1, .slice f0 f1 f2, .slice g0 g1 g2]) (T := 55) w8)
 have HLO := Lib.hid (HLO8.out.belowL HQ.out.bl)
 have HX8 := Lib.hid (HX6.out.next hb8)
 have HB8 := Lib.hid (HB6.out.trans (hb8.mono HB6.out.size))
 have HLX8 := Lib.hid (HLX6.out.below hb8)
 have HLL8 := Lib.hid (HLL6.out.below hb8)
 have HVX8 := Lib.hid (HVX6.out.below hb8)
 have HX9 := Lib.hid (HX8.out.next HQ.out.bl)
 clear hb8 HX6 HB6 HLX6 HLL6 HVX6 hlo hvf HLO8
 generalize w8.alloc (.cells #[.slice e0 e1 e2, .int .i64 e1, .slice f0 f1 f2, .slice g0 g1 g2] 55) = w9 at *
 obtain ⟨Q, hQ⟩ : ∃ Q, w8.heap.size = Q := ⟨_, rfl⟩
 rw [hQ] at HQ ⊢
 clear hQ
 have hn0 := HKS.out
 generalize shwN l.2.1 0 l.2.2.1 = n0 at *
 have hc1 : ¬ (f1 : Int) < (n0 : Int) := by omega
 have hc2 : ¬ (v1 : Int) < (f1 : Int) := by omega
 obtain ⟨⟨c0, c1, c2, c3⟩, _⟩ := HX9.out.four
 obtain ⟨⟨q0, q1, q2, q3⟩, _⟩ := HQ.out.four
 go_upto_region 12 with fail
 clear c0 c1 c2 c3 q0 q1 q2 q3 HKS hn0 hc1 hc2
 have HTK := Lib.hid (LLAt.cells HLL8.out (j := f1) (by have := HS1.out; have := HVL.out; omega))
 obtain ⟨gb, go, t, ⟨t0, t1, t2⟩, e0', ht, hgl, hcell, hsv⟩ := HTK.out
 subst e0'
 have htt : ((ss.take f1).getLast?.getD []) = t := by
  rw [getLast_take (by have := HVL.out; omega), List.getD_eq_getElem?_getD, ht]; rfl
 have HTC := Lib.hid hcell
 have HST := Lib.hid hsv
 have HSG : Hid (SV w8 (g0, g1, g2) t) := Lib.hid (by rw [← htt]; exact HSG.out)
 clear HTK ht hcell hsv htt hgl
 have hks : (f1 : Int) < s1 := by have := HS1.out; have := HVL.out; omega
 have hks2 : f1 < s1 := by omega
 have hkc : f1 ≤ v2 := by have := HVX8.out.1; simp only at this; omega
 refine wp_region_relG (N := 160) (pfV Q R2 gb (go + f1) f1 e1 (.slice f0 f1 f2) (.slice v0 v1 v2) (.slice v0 f1 v2) (.slice g0 g1 g2) (.slice (some ⟨gb, go, none⟩) s1 s2) (.slice t0 t1 t2) (.slice e0 e1 e2)) (fun _ W => Below w9.heap.size w9 W) (by kernel_rfl) (by kernel_rfl) (by rfl) (bel_drew0 _) (fun i o g b ho hg LL v W hV => by
  match i, ho with
  | 0, ho => obtain rfl := so ho; cases hg
  | 1, ho => obtain rfl := so ho; cases hg
  | 2, ho => obtain rfl := so ho; cases hg
  | 3, ho => obtain rfl := so ho; cases hg
  | 4, ho => obtain rfl := so ho; cases hg
  | 5, ho => obtain rfl := so ho; cases hg
  | 6, ho => obtain rfl := so ho; cases hg
  | 7, ho => obtain rfl := so ho; cases hg
  | 8, ho => obtain rfl := so ho; cases hg
  | 9, ho => obtain rfl := so ho; cases hg; exact hV
  | 10, ho => obtain rfl := so ho; cases hg; exact hV
  | 11, ho => obtain rfl := so ho; cases hg; exact hV
  | 12, ho => obtain rfl := so ho; cases hg; exact hV
  | 13, ho => obtain rfl := so ho; cases hg; exact hV
  | 14, ho => obtain rfl := so ho; cases hg; exact hV
  | 15, ho => obtain rfl := so ho; cases hg; exact hV
  | 16, ho => obtain rfl := so ho; cases hg; exact hV
  | 17, ho => obtain rfl := so ho; cases hg
  | 18, ho => obtain rfl := so ho; cases hg
  | 19, ho => obtain rfl := so ho; cases hg; exact hV
  | 20, ho => obtain rfl := so ho; cases hg; exact hV
  | 21, ho => obtain rfl := so ho; cases hg; exact hV
  | 22, ho => obtain rfl := so ho; cases hg; exact hV
  | 23, ho => obtain rfl := so ho; cases hg; exact hV
  | 24, ho => obtain rfl := so ho; cases hg; exact hV
  | 25, ho => obtain rfl := so ho; cases hg; exact hV
  | 26, ho => obtain rfl := so ho; cases hg; exact hV
  | 27, ho => obtain rfl := so ho; cases hg
  | k + 28, ho => simp at ho
  ) ?_ ?_
 ·
  intro i o L a' W ho hl hL hS hdf dep all fr dwn
  match i, ho with
  | 0, ho =>
   obtain rfl := so ho
   have f8 := fr 17 (by kernel_rfl)
   unfold Oper.wp
   simp [go_sem, f8]
   exact ⟨_, rfl, rfl, hS, fun _ _ _ _ _ _ _ => id⟩
  | 1, ho =>
   obtain rfl := so ho
   have d0 := dw (dep 0 _ rfl (by kernel_rfl)) rfl
   obtain ⟨⟨q0, q1, q2, q3⟩, _⟩ := (HQ.out.next hS).four
   unfold Oper.wp
   simp [go_sem, d0, q2]
   exact ⟨_, rfl, rfl, hS, fun _ _ _ _ _ _ _ => id⟩
  | 2, ho =>
   obtain rfl := so ho
   have f8 := fr 13 (by kernel_rfl)
   unfold Oper.wp
   simp [go_sem, f8]
   exact ⟨_, rfl, rfl, hS, fun _ _ _ _ _ _ _ => id⟩
  | 3, ho =>
   obtain rfl := so ho
   have d2 := dw (dep 2 _ rfl (by kernel_rfl)) rfl
   obtain ⟨⟨c0, c1, c2, c3⟩, _⟩ := (HX9.out.next hS).four
   unfold Oper.wp
   simp [go_sem, d2, c2]
   exact ⟨_, rfl, rfl, hS, fun _ _ _ _ _ _ _ => id⟩
  | 4, ho =>
   obtain rfl := so ho
   have f8 := fr 20 (by kernel_rfl)
   unfold Oper.wp
   simp [go_sem, f8]
   exact ⟨_, rfl, rfl, hS, fun _ _ _ _ _ _ _ => id⟩
  | 5, ho =>
   obtain rfl := so ho
   have d3 := dw (dep 3 _ rfl (by kernel_rfl)) rfl
   have d4 := dw (dep 4 _ rfl (by kernel_rfl)) rfl
   unfold Oper.wp
   simp [go_sem, d3, d4, hkc]
   exact ⟨_, rfl, rfl, hS, fun _ _ _ _ _ _ _ => id⟩
  | 6, ho =>
   obtain rfl := so ho
   have d1 := dw (dep 1 _ rfl (by kernel_rfl)) rfl
   have d5 := dw (dep 5 _ rfl (by kernel_rfl)) rfl
   refine wp_call1 (args := #[.slice f0 f1 f2, .slice v0 f1 v2]) rfl (by simp [Act.eval, d1, d5]) (ciSmv _ _) (rsameV_any f0 f1 f2 v0 f1 v2 (l.2.2.1.take f1) (l.2.2.1.take f1) W (HVF.out.2.below (below3 HQ.out.bl hS)) ((HVX8.out.2.take hf4).below (below3 HQ.out.bl hS))) ?_
   rintro e w' ⟨rfl, hq⟩
   exact ⟨_, rfl, ret_val (decide_eq_true rfl), below3 hS (drew_bel hq), fun _ _ _ _ _ _ _ => id⟩
  | 7, ho =>
   obtain rfl := so ho
   have d6 := dw (dep 6 _ rfl (by kernel_rfl)) rfl
   unfold Oper.wp
   simp [go_sem, d6]
   exact ⟨_, rfl, rfl, hS, fun _ _ _ _ _ _ _ => id⟩
  | 8, ho =>
   obtain rfl := so ho
   have d7 := dw (dep 7 _ rfl (by kernel_rfl)) rfl
   unfold Oper.wp
   simp [go_sem, d7]
   exact ⟨_, rfl, rfl, hS, fun _ _ _ _ _ _ _ => id⟩
  | 9, ho =>
   obtain rfl := so ho
   have f8 := fr 17 (by kernel_rfl)
   unfold Oper.wp
   simp [go_sem, f8]
   exact ⟨_, rfl, rfl, hS, fun _ _ _ _ _ _ _ => id⟩
  | 10, ho =>
   obtain rfl := so ho
   have d9 := dw (dep 9 _ rfl (by kernel_rfl)) rfl
   obtain ⟨⟨q0, q1, q2, q3⟩, _⟩ := (HQ.out.next hS).four
   unfold Oper.wp
   simp [go_sem, d9, q3]
   exact ⟨_, rfl, rfl, hS, fun _ _ _ _ _ _ _ => id⟩
  | 11, ho =>
   obtain rfl := so ho
   have f8 := fr 12 (by kernel_rfl)
   unfold Oper.wp
   simp [go_sem, f8]
   exact ⟨_, rfl, rfl, hS, fun _ _ _ _ _ _ _ => id⟩
  | 12, ho =>
   obtain rfl := so ho
   have f8 := fr 20 (by kernel_rfl)
   unfold Oper.wp
   simp [go_sem, f8]
   exact ⟨_, rfl, rfl, hS, fun _ _ _ _ _ _ _ => id⟩
  | 13, ho =>
   obtain rfl := so ho
   have d11 := dw (dep 11 _ rfl (by kernel_rfl)) rfl
   have d12 := dw (dep 12 _ rfl (by kernel_rfl)) rfl
   unfold Oper.wp
   simp [go_sem, d11, d12, hks]
   exact ⟨_, rfl, rfl, hS, fun _ _ _ _ _ _ _ => id⟩
  | 14, ho =>
   obtain rfl := so ho
   have d13 := dw (dep 13 _ rfl (by kernel_rfl)) rfl
   have hc := (below3 HQ.out.bl hS).cell (lt_of_cell HTC.out) |>.trans HTC.out
   unfold Oper.wp
   simp [go_sem, d13, hc]
   exact ⟨_, rfl, rfl, hS, fun _ _ _ _ _ _ _ => id⟩
  | 15, ho =>
   obtain rfl := so ho
   have d10 := dw (dep 10 _ rfl (by kernel_rfl)) rfl
   have d14 := dw (dep 14 _ rfl (by kernel_rfl)) rfl
   refine wp_call1 (args := #[.slice g0 g1 g2, .slice t0 t1 t2]) rfl (by simp [Act.eval, d10, d14]) (ciSms _ _) (rsameq_any g0 g1 g2 t0 t1 t2 t t W (HSG.out.2.below (below3 HQ.out.bl hS)) (HST.out.2.below (below3 HQ.out.bl hS))) ?_
   rintro e w' ⟨rfl, hq⟩
   exact ⟨_, rfl, ret_val (decide_eq_true rfl), below3 hS (drew_bel hq), fun _ _ _ _ _ _ _ => id⟩
  | 16, ho =>
   obtain rfl := so ho
   have d15 := dw (dep 15 _ rfl (by kernel_rfl)) rfl
   unfold Oper.wp
   simp [go_sem, d15]
   exact ⟨_, rfl, rfl, hS, fun _ _ _ _ _ _ _ => id⟩
  | 17, ho =>
   obtain rfl := so ho
   have d8 := dw (dep 8 _ rfl (by kernel_rfl)) rfl
   have d16 := dw (dep 16 _ rfl (by kernel_rfl)) rfl
   unfold Oper.wp
   simp [go_sem, d8, d16]
   exact ⟨_, rfl, rfl, hS, fun _ _ _ _ _ _ _ => id⟩
  | 18, ho =>
   obtain rfl := so ho
   have d17 := dw (dep 17 _ rfl (by kernel_rfl)) rfl
   unfold Oper.wp
   simp [go_sem, d17]
   exact ⟨_, rfl, rfl, hS, fun _ _ _ _ _ _ _ => id⟩
  | 19, ho =>
   obtain rfl := so ho
   have f8 := fr 17 (by kernel_rfl)
   unfold Oper.wp
   simp [go_sem, f8]
   exact ⟨_, rfl, rfl, hS, fun _ _ _ _ _ _ _ => id⟩
  | 20, ho =>
   obtain rfl := so ho
   have d19 := dw (dep 19 _ rfl (by kernel_rfl)) rfl
   unfold Oper.wp
   simp [go_sem, d19]
   exact ⟨_, rfl, rfl, hS, fun _ _ _ _ _ _ _ => id⟩
  | 21, ho =>
   obtain rfl := so ho
   have d20 := dw (dep 20 _ rfl (by kernel_rfl)) rfl
   obtain ⟨⟨q0, q1, q2, q3⟩, _⟩ := (HQ.out.next hS).four
   unfold Oper.wp
   simp [go_sem, d20, q1]
   exact ⟨_, rfl, rfl, hS, fun _ _ _ _ _ _ _ => id⟩
  | 22, ho =>
   obtain rfl := so ho
   have f8 := fr 17 (by kernel_rfl)
   unfold Oper.wp
   simp [go_sem, f8]
   exact ⟨_, rfl, rfl, hS, fun _ _ _ _ _ _ _ => id⟩
  | 23, ho =>
   obtain rfl := so ho
   have d22 := dw (dep 22 _ rfl (by kernel_rfl)) rfl
   unfold Oper.wp
   simp [go_sem, d22]
   exact ⟨_, rfl, rfl, hS, fun _ _ _ _ _ _ _ => id⟩
  | 24, ho =>
   obtain rfl := so ho
   have d23 := dw (dep 23 _ rfl (by kernel_rfl)) rfl
   obtain ⟨⟨q0, q1, q2, q3⟩, _⟩ := (HQ.out.next hS).four
   unfold Oper.wp
   simp [go_sem, d23, q0]
   exact ⟨_, rfl, rfl, hS, fun _ _ _ _ _ _ _ => id⟩
  | 25, ho =>
   obtain rfl := so ho
   have d24 := dw (dep 24 _ rfl (by kernel_rfl)) rfl
   unfold Oper.wp
   simp [go_sem, d24]
   exact ⟨_, rfl, rfl, hS, fun _ _ _ _ _ _ _ => id⟩
  | 26, ho =>
   obtain rfl := so ho
   have d21 := dw (dep 21 _ rfl (by kernel_rfl)) rfl
   have d25 := dw (dep 25 _ rfl (by kernel_rfl)) rfl
   unfold Oper.wp
   simp [go_sem, d21, d25]
   exact ⟨_, rfl, rfl, hS, fun _ _ _ _ _ _ _ => id⟩
  | 27, ho =>
   obtain rfl := so ho
   have d18 := dw (dep 18 _ rfl (by kernel_rfl)) rfl
   have d26 := dw (dep 26 _ rfl (by kernel_rfl)) rfl
   unfold Oper.wp
   simp [go_sem, d18, d26]
   exact ⟨_, rfl, rfl, hS, fun _ _ _ _ _ _ _ => id⟩
  | k + 28, ho => simp at ho
 ·
  intro us W hS hV
  have h27 : us 27 = .bool false := hV 27 _ rfl
  have HS2 := Lib.hid hS
  clear hV hS
  simp only [putAll, Act.put, List.setIfInBounds_toArray, List.set_cons_zero, List.set_cons_succ, Nat.zero_add, Nat.reduceAdd]
  rw [h27]
  clear h27
  generalize us 0 = z_0 at *
  generalize us 1 = z_1 at *
  generalize us 2 = z_2 at *
  generalize us 3 = z_3 at *
  generalize us 4 = z_4 at *
  generalize us 5 = z_5 at *
  generalize us 6 = z_6 at *
  generalize us 7 = z_7 at *
  generalize us 8 = z_8 at *
  generalize us 9 = z_9 at *
  generalize us 10 = z_10 at *
  generalize us 11 = z_11 at *
  generalize us 12 = z_12 at *
  generalize us 13 = z_13 at *
  generalize us 14 = z_14 at *
  generalize us 15 = z_15 at *
  generalize us 16 = z_16 at *
  generalize us 17 = z_17 at *
  generalize us 18 = z_18 at *
  generalize us 19 = z_19 at *
  generalize us 20 = z_20 at *
  generalize us 21 = z_21 at *
  generalize us 22 = z_22 at *
  generalize us 23 = z_23 at *
  generalize us 24 = z_24 at *
  generalize us 25 = z_25 at *
  generalize us 26 = z_26 at *
  have HQ2 := Lib.hid (HQ.out.next HS2.out)
  have HLO2 := Lib.hid (HLO.out.belowL HS2.out)
  clear HQ HLO HX9 HS2 HTC HST HSG HVF hks hks2 hkc
  go_wp2_with fail
  go_loopw [21] (fun s21 wr => ∃ (i : Nat) (e f g : Sl), f1 ≤ i ∧ i ≤ v1 ∧ s21 = .int .i64 i ∧ Hid (BX w8 wr Q #[.slice e.1 e.2.1 e.2.2, .int .i64 e1, .slice f.1 f.2.1 f.2.2, .slice g.1 g.2.1 g.2.2] 55) ∧ Hid (LogO wr 0 (logV e e1 f g) (lgC (l.2.2.1.take i) (ss.take i) (e1 : Int))) ∧ Hid (Pub m (lgC (l.2.2.1.take i) (ss.take i) (e1 : Int)) (ss.take i))) (fun s21 _ => v1 - (intOf s21).toNat)
  case atStart => exact ⟨f1, (e0, e1, e2), (f0, f1, f2), (g0, g1, g2), by omega, by omega, rfl, HQ2, HLO2, HPK⟩
  case round =>
   obtain ⟨i, ⟨ea, eb, ec⟩, ⟨fa, fb, fc⟩, ⟨ga, gb', gc⟩, hi1, hi2, rfl, HBQ, HLI, HPI⟩ := hrel
   clear HQ2 HLO2 HPK
   have HXR := Lib.hid (HX8.out.next HBQ.out.bl)
   have HBW := Lib.hid (HB8.out.trans (HBQ.out.bl.mono HB8.out.size))
   obtain ⟨⟨c0, c1, c2, c3⟩, _⟩ := HXR.out.four
   obtain ⟨⟨q0, q1, q2, q3⟩, qz0, qz1, qz2, qz3⟩ := HBQ.out.four
   by_cases hlt : i < v1
   ·
    have hii : (i : Int) < v1 := by omega
    have hi3 : (i : Int) + 1 ≤ 5 := by omega
    obtain ⟨vb, vo, vx, vr, hv0, gx, _, _, y1, _, _⟩ := VAt.cells (HVX8.out.below HBQ.out.bl).2 hlt
    simp only at hv0
    subst hv0
    have HY1 := Lib.hid y1
    obtain ⟨hp, hpi⟩ := lg_step HPU.out gx HPI.out
    have HPN := Lib.hid hpi
    have hwk : -9223372036854775808 ≤ vx.2.1 ∧ vx.2.1 ≤ 9223372036854775807 := by
     have h1 := (ver_pub HPU.out gx).wk1
     have h2 := (ver_pub HPU.out gx).wk2
     omega
    obtain ⟨_, _, t, ⟨t0, t1, t2⟩, e0', ht, _, hcell, hsv⟩ := LLAt.cells (HLL8.out.below HBQ.out.bl) (j := i + 1) (by have := HS1.out; have := HVL.out; omega)
    simp only [Option.some.injEq, Addr.mk.injEq] at e0'
    obtain ⟨rfl, rfl, _⟩ := e0'
    have htt : ([] :: ss).getD (i + 1) [] = t := by rw [List.getD_eq_getElem?_getD, ht]; rfl
    rw [htt] at hp
    have HTC := Lib.hid hcell
    have hso : SOk t := by
     have h1 := (vld_log hpi.vld).2.2.2.2.1
     have h2 : (lgC (l.2.2.1.take (i + 1)) (ss.take (i + 1)) (e1 : Int)).2.2.2 = t := by
      rw [← htt]; exact getLast_take (by have := HVL.out; omega) []
     rw [h2] at h1; exact h1
    have htl : t1 ≤ 1000000 := by
     have h1 := (vld_small hpi.vld).2.2.1
     have h2 : (lgC (l.2.2.1.take (i + 1)) (ss.take (i + 1)) (e1 : Int)).2.2.2 = t := by
      rw [← htt]; exact getLast_take (by have := HVL.out; omega) []
     rw [h2] at h1
     have h3 : t.length = t1 := hsv.2.1
     omega
    have PB := Lib.hid (fun W (h : Below wr.heap.size wr W) => publish_any (logV (ea, eb, ec) e1 (fa, fb, fc) (ga, gb', gc)) (lgC (l.2.2.1.take i) (ss.take i) (e1 : Int)) m vx.2.1 t0 t1 t2 t W (HLI.out.belowL h).logP (hsv.2.below h) hso hsv.1 hwk (HE.out.below (HBW.out.trans (h.mono HBW.out.size))) htl)
    rw [hp] at PB
    have hks : (i : Int) + 1 < s1 := by have := HS1.out; have := HVL.out; omega
    have hks2 : i + 1 < s1 := by omega
    have hks3 : (0 : Int) ≤ (i : Int) + 1 := by omega
    clear y1 gx hp hpi hwk ht hcell hsv htt hso htl
    go_upto_region 17 with fail
    clear c0 c1 c2 c3 q0 q1 q2 q3 qz0 qz1 qz2 qz3
    refine wp_region_relG (N := 160) (plV R2 vb vo gb go i m e1 s1 s2 vx.2.1 (lgC (l.2.2.1.take (i + 1)) (ss.take (i + 1)) (e1 : Int)) (.agg #[.slice ea eb ec, .int .i64 e1, .slice fa fb fc, .slice ga gb' gc]) (.slice (some ⟨vb, vo, none⟩) v1 v2) (.slice t0 t1 t2) wr) (fun _ W => Below wr.heap.size wr W) (by kernel_rfl) (by kernel_rfl) (by rfl) (bel_drew0 _) (no_gd (by kernel_rfl)) ?_ ?_
    ·
     intro i' o L a' W ho hl hL hS hdf dep all fr dwn
     match i', ho with
     | 0, ho =>
      obtain rfl := so ho
      have f8 := fr 17 (by kernel_rfl)
      obtain ⟨⟨q0, q1, q2, q3⟩, _⟩ := (HBQ.out.next hS).four
      unfold Oper.wp
      simp [go_sem, f8, q0, q1, q2, q3]
      exact ⟨_, rfl, rfl, hS, fun j oj u _ _ _ _ hu => plV_keep (Below.refl _ _) (by decide) hu⟩
     | 1, ho =>
      obtain rfl := so ho
      have f8 := fr 10 (by kernel_rfl)
      unfold Oper.wp
      simp [go_sem, f8]
      exact ⟨_, rfl, rfl, hS, fun j oj u _ _ _ _ hu => plV_keep (Below.refl _ _) (by decide) hu⟩
     | 2, ho =>
      obtain rfl := so ho
      have f8 := fr 13 (by kernel_rfl)
      unfold Oper.wp
      simp [go_sem, f8]
      exact ⟨_, rfl, rfl, hS, fun j oj u _ _ _ _ hu => plV_keep (Below.refl _ _) (by decide) hu⟩
     | 3, ho =>
      obtain rfl := so ho
      have d2 := dw (dep 2 _ rfl (by kernel_rfl)) rfl
      obtain ⟨⟨c0, c1, c2, c3⟩, _⟩ := (HXR.out.next hS).four
      unfold Oper.wp
      simp [go_sem, d2, c2]
      exact ⟨_, rfl, rfl, hS, fun j oj u _ _ _ _ hu => plV_keep (Below.refl _ _) (by decide) hu⟩
     | 4, ho =>
      obtain rfl := so ho
      have f8 := fr 21 (by kernel_rfl)
      unfold Oper.wp
      simp [go_sem, f8]
      exact ⟨_, rfl, rfl, hS, fun j oj u _ _ _ _ hu => plV_keep (Below.refl _ _) (by decide) hu⟩
     | 5, ho =>
      obtain rfl := so ho
      have d3 := dw (dep 3 _ rfl (by kernel_rfl)) rfl
      have d4 := dw (dep 4 _ rfl (by kernel_rfl)) rfl
      unfold Oper.wp
      simp [go_sem, d3, d4, hii]
      exact ⟨_, rfl, rfl, hS, fun j oj u _ _ _ _ hu => plV_keep (Below.refl _ _) (by decide) hu⟩
     | 6, ho =>
      obtain rfl := so ho
      have d5 := dw (dep 5 _ rfl (by kernel_rfl)) rfl
      unfold Oper.wp
      simp [go_sem, d5]
      exact ⟨_, rfl, rfl, hS, fun j oj u _ _ _ _ hu => plV_keep (Below.refl _ _) (by decide) hu⟩
     | 7, ho =>
      obtain rfl := so ho
      have d6 := dw (dep 6 _ rfl (by kernel_rfl)) rfl
      have hc := (hS.cell (lt_of_cell HY1.out)).trans HY1.out
      unfold Oper.wp
      simp [go_sem, d6, hc]
      exact ⟨_, rfl, rfl, hS, fun j oj u _ _ _ _ hu => plV_keep (Below.refl _ _) (by decide) hu⟩
     | 8, ho =>
      obtain rfl := so ho
      have f8 := fr 12 (by kernel_rfl)
      unfold Oper.wp
      simp [go_sem, f8]
      exact ⟨_, rfl, rfl, hS, fun j oj u _ _ _ _ hu => plV_keep (Below.refl _ _) (by decide) hu⟩
     | 9, ho =>
      obtain rfl := so ho
      have f8 := fr 21 (by kernel_rfl)
      unfold Oper.wp
      simp [go_sem, f8]
      exact ⟨_, rfl, rfl, hS, fun j oj u _ _ _ _ hu => plV_keep (Below.refl _ _) (by decide) hu⟩
     | 10, ho =>
      obtain rfl := so ho
      have d9 := dw (dep 9 _ rfl (by kernel_rfl)) rfl
      have hw : IntKind.i64.wrap ((i : Int) + 1) = (i : Int) + 1 := IntWalk.i64_in _ (by omega)
      unfold Oper.wp
      simp [go_sem, d9, hw]
      exact ⟨_, rfl, rfl, hS, fun j oj u _ _ _ _ hu => plV_keep (Below.refl _ _) (by decide) hu⟩
     | 11, ho =>
      obtain rfl := so ho
      have d8 := dw (dep 8 _ rfl (by kernel_rfl)) rfl
      have d10 := dw (dep 10 _ rfl (by kernel_rfl)) rfl
      unfold Oper.wp
      simp [go_sem, d8, d10, hks, hks3]
      exact ⟨_, rfl, rfl, hS, fun j oj u _ _ _ _ hu => plV_keep (Below.refl _ _) (by decide) hu⟩
     | 12, ho =>
      obtain rfl := so ho
      have d11 := dw (dep 11 _ rfl (by kernel_rfl)) rfl
      have hc := (hS.cell (lt_of_cell HTC.out)).trans HTC.out
      unfold Oper.wp
      simp [go_sem, d11, hc]
      exact ⟨_, rfl, rfl, hS, fun j oj u _ _ _ _ hu => plV_keep (Below.refl _ _) (by decide) hu⟩
     | 13, ho =>
      obtain rfl := so ho
      have d0 := dw (dep 0 _ rfl (by kernel_rfl)) rfl
      have d1 := dw (dep 1 _ rfl (by kernel_rfl)) rfl
      have d7 := dw (dep 7 _ rfl (by kernel_rfl)) rfl
      have d12 := dw (dep 12 _ rfl (by kernel_rfl)) rfl
      refine wp_call1 (args := #[.agg #[.slice ea eb ec, .int .i64 e1, .slice fa fb fc, .slice ga gb' gc], .int .i64 m, .int .i64 vx.2.1, .slice t0 t1 t2]) rfl (by simp [Act.eval, d0, d1, d7, d12]) (ciPub _ _) (PB.out W hS) ?_
      rintro e w' ⟨_, rfl, ⟨⟨dA, dB, dC⟩, ⟨vA, vB, vC⟩, ⟨xA, xB, xC⟩, rfl, hlo⟩, hb⟩
      exact ⟨_, rfl, ⟨(dA, dB, dC), (vA, vB, vC), (xA, xB, xC), rfl, LogO.base (B := W.heap.size) ⟨_, _, _, rfl, hlo⟩ (Nat.zero_le _)⟩, below3 hS hb, fun j oj u _ _ _ _ hu => plV_keep hb (by decide) hu⟩
     | 14, ho =>
      obtain rfl := so ho
      obtain ⟨_, u13, ⟨dA, vA, xA, rfl, hlo⟩, d13⟩ := dep 13 _ rfl (by kernel_rfl)
      have d13 := d13 135 rfl
      unfold Oper.wp
      simp [go_sem, d13]
      exact ⟨_, rfl, ⟨dA, vA, xA, rfl, hlo⟩, hS, fun j oj u _ _ _ _ hu => plV_keep (Below.refl _ _) (by decide) hu⟩
     | 15, ho =>
      obtain rfl := so ho
      obtain ⟨_, u14, ⟨dA, vA, xA, rfl, hlo⟩, d14⟩ := dep 14 _ rfl (by kernel_rfl)
      have d14 := d14 121 rfl
      unfold Oper.wp
      simp [go_sem, d14]
      exact ⟨_, rfl, ⟨dA, vA, xA, rfl, hlo⟩, hS, fun j oj u _ _ _ _ hu => plV_keep (Below.refl _ _) (by decide) hu⟩
     | 16, ho =>
      obtain rfl := so ho
      obtain ⟨_, u14, ⟨dA, vA, xA, rfl, hlo⟩, d14⟩ := dep 14 _ rfl (by kernel_rfl)
      have d14 := d14 121 rfl
      unfold Oper.wp
      simp [go_sem, d14]
      exact ⟨_, rfl, rfl, hS, fun j oj u _ _ _ _ hu => plV_keep (Below.refl _ _) (by decide) hu⟩
     | 17, ho =>
      obtain rfl := so ho
      have h18 : ¬ L[18]? = some true := fun h => by
       obtain ⟨v, hv⟩ := all 18 _ rfl h
       have hv : L[17]? = some true := hv
       rw [hl] at hv; cases hv
      unfold Oper.wp
      simp [go_sem]
      exact ⟨_, rfl, ⟨W.heap.size, _, _, _, _, rfl, ⟨heap_alloc_new _ _, hS.size, hS.alloc hS.size _⟩, fun h => absurd h (listed_not h18 (by decide))⟩, hS.alloc hS.size _, fun j oj u _ _ _ _ hu => plV_keep ((Below.refl _ _).alloc (Nat.le_refl _) _) (by decide) hu⟩
     | 18, ho =>
      obtain rfl := so ho
      obtain ⟨_, v0, ⟨⟨dA, dB, dC⟩, ⟨vA, vB, vC⟩, ⟨xA, xB, xC⟩, rfl, hlo⟩, d0⟩ := dep 15 _ rfl (by kernel_rfl)
      obtain ⟨h17, v1, ⟨B, u0, u1, u2, u3, rfl, hbx, _⟩, d1⟩ := dep 17 _ rfl (by kernel_rfl)
      have d0 := d0 136 rfl
      have d1 := d1 22 rfl
      obtain ⟨⟨k0, k1, k2, k3⟩, z0, z1, z2, z3⟩ := hbx.four
      have hb4 := hbx.set4 (.slice dA dB dC) (.int .i64 e1) (.slice vA vB vC) (.slice xA xB xC)
      unfold Oper.wp
      simp [go_sem, d0, d1, k0, k1, k2, k3, z0, z1, z2, z3]
      refine ⟨.tuple #[], rfl, listed_more h17, hb4.bl, fun j oj u hj hne hlj hsl hu => ?_⟩
      by_cases hj17 : j = 17
      ·
       subst hj17
       obtain rfl := (Option.some.inj hj).symm
       have hu9 := hsl 22 rfl
       rw [d1] at hu9
       obtain rfl := (Option.some.inj hu9).symm
       exact ⟨B, _, _, _, _, rfl, hb4, fun _ => ⟨(dA, dB, dC), (vA, vB, vC), (xA, xB, xC), rfl, rfl, rfl, rfl, hlo.othL hbx _ _ _ _⟩⟩
      ·
       exact plV_store (fun _ h => h.othL hbx _ _ _ _) hj17 hu
     | 19, ho =>
      obtain rfl := so ho
      have d16 := dw (dep 16 _ rfl (by kernel_rfl)) rfl
      unfold Oper.wp
      simp [go_sem, d16]
      exact ⟨_, rfl, rfl, hS, fun j oj u _ _ _ _ hu => plV_keep (Below.refl _ _) (by decide) hu⟩
     | q + 20, ho => simp at ho
    ·
     intro us W hS hV
     have h16 : us 19 = .int .i64 0 := hV 19 _ rfl
     obtain ⟨B, u0, u1, u2, u3, h17, hbx, hst⟩ := hV 17 _ rfl
     obtain ⟨⟨dA, dB, dC⟩, ⟨vA, vB, vC⟩, ⟨xA, xB, xC⟩, rfl, rfl, rfl, rfl, hlo⟩ := hst rfl
     have HLN := Lib.hid hlo
     have HBN := Lib.hid hbx
     have HQN := Lib.hid (HBQ.out.next hS)
     clear hV hS hbx hst hlo
     simp only [putAll, Act.put, List.setIfInBounds_toArray, List.set_cons_zero, List.set_cons_succ, Nat.zero_add, Nat.reduceAdd]
     rw [h16, h17]
     clear h16 h17
     generalize us 0 = y_0 at *
     generalize us 1 = y_1 at *
     generalize us 2 = y_2 at *
     generalize us 3 = y_3 at *
     generalize us 4 = y_4 at *
     generalize us 5 = y_5 at *
     generalize us 6 = y_6 at *
     generalize us 7 = y_7 at *
     generalize us 8 = y_8 at *
     generalize us 9 = y_9 at *
     generalize us 10 = y_10 at *
     generalize us 11 = y_11 at *
     generalize us 12 = y_12 at *
     generalize us 13 = y_13 at *
     generalize us 14 = y_14 at *
     generalize us 15 = y_15 at *
     generalize us 16 = y_16 at *
     generalize us 18 = y_18 at *
     obtain ⟨⟨k0, k1, k2, k3⟩, _⟩ := HBN.out.four
     obtain ⟨⟨q0, q1, q2, q3⟩, qz0, qz1, qz2, qz3⟩ := HQN.out.four
     have HQX := Lib.hid (HQN.out.set4 (.slice dA dB dC) (.int .i64 e1) (.slice vA vB vC) (.slice xA xB xC))
     have HLX := Lib.hid (HLN.out.othL HQN.out (.slice dA dB dC) (.int .i64 e1) (.slice vA vB vC) (.slice xA xB xC))
     clear HLN HBN HQN PB HBQ HLI HPI
     go_wp2_with fail
     go_roundw
     case rel => exact ⟨i + 1, (dA, dB, dC), (vA, vB, vC), (xA, xB, xC), by omega, by omega, by go_num, HQX, HLX, HPN⟩
     case measure => simp [intOf]; omega
   ·
    obtain rfl : v1 = i := by omega
    have hii : ¬ (v1 : Int) < (v1 : Int) := by omega
    obtain ⟨-, hbe, hvf, -⟩ := HLI.out.parts
    have ed : (lgC (l.2.2.1.take v1) (ss.take v1) (e1 : Int)).1 = l.1 := by
     show (l.2.2.1.take v1).flatMap encV = l.1
     rw [List.take_of_length_le (by omega)]
     exact (congrArg Prod.fst HPU.out.eq).symm
    have ev : (lgC (l.2.2.1.take v1) (ss.take v1) (e1 : Int)).2.2.1 = l.2.2.1 := by
     show l.2.2.1.take v1 = l.2.2.1
     exact List.take_of_length_le (by omega)
    rw [ed] at hbe
    rw [ev] at hvf
    have CV := conv_str (c := ec) hbe.2
    have hld := HLX8.out.below HBQ.out.bl
    have hbl : BAt wr d0 d1 l.1 := by
     obtain ⟨a, b, c, e, g, _⟩ := hld
     obtain ⟨a1, a2, a3⟩ := a
     simp only [logV, Value.agg.injEq, Array.mk.injEq, List.cons.injEq, slV, Value.slice.injEq] at e
     obtain ⟨⟨rfl, rfl, rfl⟩, _⟩ := e
     exact g.2
    have CV2 := conv_str (c := d2) hbl
    have SV := Lib.hid (rsameV_any fa fb fc v0 v1 v2 l.2.2.1 l.2.2.1 wr hvf.2 (HVX8.out.below HBQ.out.bl).2)
    have hdd : decide (l.2.2.1 = l.2.2.1) = true := decide_eq_true rfl
    rw [hdd] at SV
    have p1 : ((arr l.1).toList == (arr l.1).toList) = true := beq_self_eq_true _
    clear hbe hvf ed ev hld hbl hdd HLI HPI
    go_wp2_with (first | (go_at_call 19; refine SV.out.mono ?_; rintro e wa ⟨rfl, hqa⟩; have hba := drew_bel hqa; clear hqa SV; simp only []) | (go_at_call 13; refine (AW.out _ (HBW.out.trans (hba.mono HBW.out.size))).mono ?_; rintro e w' ⟨rfl, hb⟩; simp only []))
    have HBA := Lib.hid (HBW.out.trans (hba.mono HBW.out.size))
    go_ret
    exact ⟨rfl, HBA.out.trans (hb.mono HBA.out.size)⟩
end Go.Proofs.YtihbpggbpapcfaaGreatDoor
