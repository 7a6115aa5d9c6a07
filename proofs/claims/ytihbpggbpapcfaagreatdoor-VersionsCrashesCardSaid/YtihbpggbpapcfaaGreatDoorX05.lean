/- The log behind any crash. -/
import Derived.Laws.BytesArg
import Derived.Lib.SlBytesConst
import Derived.Test.YtihbpggbpapcfaaGreatDoorX12
import Derived.Test.YtihbpggbpapcfaaGreatDoorY13
namespace Go.Proofs.YtihbpggbpapcfaaGreatDoor
open Go.RowKit

set_option maxRecDepth 100000 in
set_option maxHeartbeats 4000000 in
theorem rsame_log (va vb : Value) (la lb : Lg) (w : World) (ha : LogR w va la) (hb : LogR w vb lb) : Calls Tryz.prog 28 #[va, vb] w (RetB (.bool (sameL la lb)) w) := by
 obtain ⟨⟨da, dn, dc⟩, ⟨va, vn, vc⟩, ⟨sa, sn, sc⟩, rfl, hd, hv, hs⟩ := ha
 obtain ⟨⟨da', dn', dc'⟩, ⟨va', vn', vc'⟩, ⟨sa', sn', sc'⟩, rfl, hd', hv', hs'⟩ := hb
 obtain ⟨l1, l2, l3, l4⟩ := la
 obtain ⟨m1, m2, m3, m4⟩ := lb
 simp only at hd hv hs hd' hv' hs'
 have HF : Hid (sameL (l1, l2, l3, l4) (m1, m2, m3, m4) = ((l1 == m1) && (l2 == m2) && decide (l3 = m3) && decide (l4 = m4))) := Lib.hid rfl
 have HA := Lib.hid (BX.mk0 (vs := #[.slice da dn dc, .int .i64 l2, .slice va vn vc, .slice sa sn sc]) (T := 51) w)
 have CD := Lib.hid (fun W (h : Below w.heap.size w W) => conv_str (c := dc) (hd.2.below h))
 have CD' := Lib.hid (fun W (h : Below w.heap.size w W) => conv_str (c := dc') (hd'.2.below h))
 have S3 := Lib.hid (fun W (h : Below w.heap.size w W) => rsameV_any va vn vc va' vn' vc' l3 m3 W (hv.2.below h) (hv'.2.below h))
 have S4 := Lib.hid (fun W (h : Below w.heap.size w W) => rsameq_any sa sn sc sa' sn' sc' l4 m4 W (hs.2.below h) (hs'.2.below h))
 clear hd hv hs hd' hv' hs'
 show Calls _ _ #[.agg #[.slice da dn dc, .int .i64 l2, .slice va vn vc, .slice sa sn sc], .agg #[.slice da' dn' dc', .int .i64 m2, .slice va' vn' vc', .slice sa' sn' sc']] w _
 go_enter Tryz.func28, Tryz.ntmps28
 go_upto_region 1 with fail
 have hsa : (w.alloc (.cells #[.slice da dn dc, .int .i64 l2, .slice va vn vc, .slice sa sn sc] 51)).heap.size = w.heap.size + 1 := by simp
 generalize w.alloc (.cells #[.slice da dn dc, .int .i64 l2, .slice va vn vc, .slice sa sn sc] 51) = wa at *
 obtain ⟨R, hR⟩ : ∃ R, R = w.heap.size := ⟨_, rfl⟩
 rw [← hR] at HA hsa ⊢
 clear hR
 have HB := Lib.hid (BX.mk0 (vs := #[.slice da' dn' dc', .int .i64 m2, .slice va' vn' vc', .slice sa' sn' sc']) (T := 51) wa)
 rw [hsa] at HB
 clear hsa
 generalize wa.alloc (.cells #[.slice da' dn' dc', .int .i64 m2, .slice va' vn' vc', .slice sa' sn' sc'] 51) = wb at *
 obtain ⟨R2, hR2⟩ : ∃ R2, R2 = R + 1 := ⟨_, rfl⟩
 rw [← hR2] at HB ⊢
 clear hR2
 have HA2 := Lib.hid (HA.out.next HB.out.bl)
 have HW := Lib.hid HA2.out.bl
 have CV := CD.out wb HW.out
 have CV' := CD'.out wb HW.out
 obtain ⟨⟨g0, g1, g2, g3⟩, _⟩ := HA2.out.four
 obtain ⟨⟨k0, k1, k2, k3⟩, _⟩ := HB.out.four
 cases h1 : (l1 == m1)
 ·
  have HF2 : Hid (sameL (l1, l2, l3, l4) (m1, m2, m3, m4) = false) := Lib.hid (by rw [HF.out, h1]; rfl)
  have p1 : ((arr l1).toList == (arr m1).toList) = false := by rw [arr_toList, arr_toList]; exact h1
  have p2 : ¬ (arr l1).toList = (arr m1).toList := by rw [beq_eq_false_iff_ne] at p1; exact p1
  clear h1
  go_wp2_with fail
  go_ret
  exact ⟨ret_bool (by rw [HF2.out]), HW.out⟩
 have p1 : ((arr l1).toList == (arr m1).toList) = true := by rw [arr_toList, arr_toList]; exact h1
 have p2 : (arr l1).toList = (arr m1).toList := by rw [beq_iff_eq] at p1; exact p1
 have HF1 : Hid (sameL (l1, l2, l3, l4) (m1, m2, m3, m4) = ((l2 == m2) && decide (l3 = m3) && decide (l4 = m4))) := Lib.hid (by rw [HF.out, h1]; rfl)
 clear h1 HF
 cases h2 : (l2 == m2)
 ·
  have HF2 : Hid (sameL (l1, l2, l3, l4) (m1, m2, m3, m4) = false) := Lib.hid (by rw [HF1.out, h2]; rfl)
  go_wp2_with fail
  go_ret
  exact ⟨ret_bool (by rw [HF2.out]), HW.out⟩
 have HF2 : Hid (sameL (l1, l2, l3, l4) (m1, m2, m3, m4) = (decide (l3 = m3) && decide (l4 = m4))) := Lib.hid (by rw [HF1.out, h2]; rfl)
 clear HF1
 generalize sameL (l1, l2, l3, l4) (m1, m2, m3, m4) = r at *
 generalize decide (l3 = m3) = d3 at *
 generalize decide (l4 = m4) = d4 at *
 go_wp2_with fail
 refine (S3.out _ HW.out).mono ?_
 rintro en w2 ⟨rfl, hq2⟩
 have hb2 := drew_bel hq2
 have HA3 := Lib.hid (HA2.out.next hb2)
 have HB3 := Lib.hid (HB.out.next hb2)
 have HW2 := Lib.hid HA3.out.bl
 clear g0 g1 g2 g3 k0 k1 k2 k3 CV CV' hb2 hq2
 obtain ⟨⟨g0, g1, g2, g3⟩, _⟩ := HA3.out.four
 obtain ⟨⟨k0, k1, k2, k3⟩, _⟩ := HB3.out.four
 cases d3
 ·
  go_wp2_with fail
  go_ret
  exact ⟨ret_bool (by rw [HF2.out]; rfl), HW2.out⟩
 go_wp2_with fail
 refine (S4.out _ HW2.out).mono ?_
 rintro en w3 ⟨rfl, hq3⟩
 have HW3 := Lib.hid (below3 HW2.out (drew_bel hq3))
 clear hq3
 go_wp2_with fail
 go_ret
 exact ⟨ret_bool (by rw [HF2.out]; rfl), HW3.out⟩
end Go.Proofs.YtihbpggbpapcfaaGreatDoor

namespace Go.Proofs.YtihbpggbpapcfaaGreatDoor
open Go.RowKit

set_option maxRecDepth 100000 in
set_option maxHeartbeats 16000000 in
theorem rcrash_any (va : Value) (l : Lg) (m keep at_ flip : Int) (w : World) (ha : LogR w va l) (hk : -9223372036854775808 ≤ keep ∧ keep ≤ 9223372036854775807) (hat : -9223372036854775808 ≤ at_ ∧ at_ ≤ 9223372036854775807) (hf : -9223372036854775808 ≤ flip ∧ flip ≤ 9223372036854775807) : Calls Tryz.prog 45 #[va, .int .i64 m, .int .i64 keep, .int .i64 at_, .int .i64 flip] w (OpnR (crsS m keep at_ flip l) w) := by
 obtain ⟨hk1, hk2⟩ := hk
 obtain ⟨hat1, hat2⟩ := hat
 have HFL := Lib.hid hf
 clear hf
 have HV := Lib.hid (fun W (h : Below w.heap.size w W) => rvalidL_any va l m W (ha.below h))
 obtain ⟨⟨da, dn, dc⟩, ⟨va, vn, vc⟩, ⟨sa, sn, sc⟩, rfl, hd, hv, hs⟩ := ha
 obtain ⟨l1, l2, l3, l4⟩ := l
 simp only at hd hv hs
 have hld : l1.length = dn := hd.2.1
 have hcd : dn ≤ dc := hd.1
 have HF : Hid (crsS m keep at_ flip (l1, l2, l3, l4) = if vldL m (l1, l2, l3, l4) = false then (1, lgZ, 0) else opnS m (leftB (l1, l2, l3, l4) keep at_ flip)) := Lib.hid rfl
 have HLK : Hid (vldL m (l1, l2, l3, l4) = true → _) := Lib.hid (fun h => vld_log h)
 have HA := Lib.hid (BX.mk0 (vs := #[.slice da dn dc, .int .i64 l2, .slice va vn vc, .slice sa sn sc]) (T := 51) w)
 have HD := Lib.hid hd
 clear hd hv hs
 change Hid (∀ W, Below w.heap.size w W → Calls _ _ #[.agg #[.slice da dn dc, .int .i64 l2, .slice va vn vc, .slice sa sn sc], .int .i64 m] W _) at HV
 show Calls _ _ #[.agg #[.slice da dn dc, .int .i64 l2, .slice va vn vc, .slice sa sn sc], .int .i64 m, .int .i64 keep, .int .i64 at_, .int .i64 flip] w _
 generalize vldL m (l1, l2, l3, l4) = q at *
 generalize crsS m keep at_ flip (l1, l2, l3, l4) = pr at *
 go_enter Tryz.func45, Tryz.ntmps45
 go_upto_region 1 with fail
 have hsa : (w.alloc (.cells #[.slice da dn dc, .int .i64 l2, .slice va vn vc, .slice sa sn sc] 51)).heap.size = w.heap.size + 1 := by simp
 generalize w.alloc (.cells #[.slice da dn dc, .int .i64 l2, .slice va vn vc, .slice sa sn sc] 51) = wa at *
 obtain ⟨R, hR⟩ : ∃ R, R = w.heap.size := ⟨_, rfl⟩
 rw [← hR] at HA hsa ⊢
 clear hR
 have HB := Lib.hid (BX.mk0 (vs := #[.slice none 0 0, .int .i64 0, .slice none 0 0, .slice none 0 0]) (T := 51) wa)
 rw [hsa] at HB
 clear hsa
 generalize wa.alloc (.cells #[.slice none 0 0, .int .i64 0, .slice none 0 0, .slice none 0 0] 51) = wb at *
 obtain ⟨R2, hR2⟩ : ∃ R2, R2 = R + 1 := ⟨_, rfl⟩
 rw [← hR2] at HB ⊢
 have hne : R2 ≠ R := by omega
 have hle : R ≤ R2 := by omega
 clear hR2
 have HA := Lib.hid (HA.out.next HB.out.bl)
 have HB : Hid (BX w wb R2 _ _) := Lib.hid ⟨HB.out.hp, Nat.le_trans HA.out.lo hle, HA.out.bl⟩
 obtain ⟨⟨g0, g1, g2, g3⟩, gf0, gf1, gf2, gf3⟩ := HA.out.four
 go_wp2_with fail
 refine (HV.out _ HA.out.bl).mono ?_
 rintro en w1 ⟨rfl, hb1⟩
 have HA := Lib.hid (HA.out.next hb1)
 have HB := Lib.hid (HB.out.next hb1)
 clear g0 g1 g2 g3 gf0 gf1 gf2 gf3 hb1 HV
 obtain ⟨⟨g0, g1, g2, g3⟩, gf0, gf1, gf2, gf3⟩ := HA.out.four
 cases q
 ·
  have HF2 : Hid (pr = (1, lgZ, 0)) := Lib.hid (by rw [HF.out, if_pos rfl])
  obtain ⟨⟨rc0, rc1, rc2, rc3⟩, rf0, rf1, rf2, rf3⟩ := HB.out.four
  have HR9 := Lib.hid (HB.out.set4 (.slice none 0 0) (.int .i64 0) (.slice none 0 0) (.slice none 0 0))
  go_wp2_with fail
  generalize (((World.setCell w1 ⟨R2, 0, none⟩ (.slice none 0 0)).setCell ⟨R2, 1, none⟩ (.int .i64 0)).setCell ⟨R2, 2, none⟩ (.slice none 0 0)).setCell ⟨R2, 3, none⟩ (.slice none 0 0) = W9 at *
  clear rc0 rc1 rc2 rc3 rf0 rf1 rf2 rf3
  obtain ⟨⟨rc0, rc1, rc2, rc3⟩, _⟩ := HR9.out.four
  refine bodyPost_ret (v := .tuple #[.agg #[.slice none 0 0, .int .i64 0, .slice none 0 0, .slice none 0 0], .int .i64 0, .int .i64 1]) (by simp [results, Tryz.results45, go_sem, rc0, rc1, rc2, rc3]) rfl ?_
  rw [HF2.out]
  exact ⟨_, rfl, LogO.zero _ _, HR9.out.bl⟩
 have HF1 : Hid (pr = opnS m (leftB (l1, l2, l3, l4) keep at_ flip)) := Lib.hid (by rw [HF.out, if_neg (by simp)])
 obtain ⟨_, hl1, ⟨hl20, hl21⟩, _, _, _⟩ := HLK.out rfl
 rw [hld] at hl1 hl21
 clear HLK HF
 have hw1 : IntKind.i64.wrap ((dn : Int) - l2) = (dn : Int) - l2 := IntWalk.i64_in _ (by omega)
 obtain ⟨K, hK⟩ : ∃ K : Nat, (K : Int) = max 0 (min keep ((dn : Int) - l2)) := ⟨(max 0 (min keep ((dn : Int) - l2))).toNat, by omega⟩
 obtain ⟨s2, rfl⟩ : ∃ s : Nat, l2 = s := ⟨l2.toNat, by omega⟩
 go_upto_region 3 with fail
 go_cut [2] (fun s wx => s = .int .i64 K ∧ wx = w1)
 case first =>
  have hgo : ∀ x : Int, x = K → Value.int .i64 x = .int .i64 K := fun _ h => by rw [h]
  go_wp2_with fail
  all_goals go_meet
  all_goals exact ⟨hgo _ (by omega), rfl⟩
 case rest =>
  obtain ⟨rfl, hwc⟩ := hcut
  replace hwc := hwc.symm
  subst hwc
  have hKn : s2 + K ≤ dn := by omega
  have HLB : Hid (leftB (l1, (s2 : Int), l3, l4) keep at_ flip = if 0 ≤ at_ ∧ at_ < (K : Int) then (l1.take (s2 + K)).set ((s2 : Int) + at_).toNat ((l1.take (s2 + K)).getD ((s2 : Int) + at_).toNat 0 ^^^ UInt8.ofNat (flip % 256).toNat) else l1.take (s2 + K)) := Lib.hid (by
   unfold leftB
   simp only
   rw [hld, ← hK, show ((s2 : Int) + (K : Int)).toNat = s2 + K by omega])
  clear hK hk1 hk2
  have hln : (l1.take (s2 + K)).length = s2 + K := by rw [List.length_take]; omega
  have hsk : IntKind.i64.wrap ((s2 : Int) + (K : Int)) = (s2 : Int) + (K : Int) := IntWalk.i64_in _ (by omega)
  have hcc : (s2 : Int) + (K : Int) ≤ dc := by omega
  have hc0 : (0 : Int) ≤ (s2 : Int) + (K : Int) := by omega
  have hsn : ((s2 : Int) + (K : Int)).toNat = s2 + K := by omega
  go_upto_region 4 with fail
  go_cut [13] (fun s wx => Hid (KRow bytC 1 5 wx w1.heap.size s (l1.take (s2 + K))) ∧ Hid (Below w1.heap.size w1 wx))
  case first =>
   have hbt : ∀ A, (dn = 0 ∨ A = da) → BAt w1 A (s2 + K) (l1.take (s2 + K)) := fun A h => by
    have h2 : BAt w1 da dn l1 := (HD.out.below HA.out.bl).2
    rcases h with h | rfl
    ·
     exact ⟨hln, by omega, Or.inl (by omega)⟩
    ·
     exact h2.take (by omega)
   rcases HD.out.2.2.2 with h0 | ⟨ba, oa, ha, _⟩
   ·
    replace h0 := Lib.hid h0
    cases da with
    | none =>
     go_wp2_with (at_builtin; refine wpList_app elemByt encByt rfl _ _ rfl w1.heap.size _ [] rfl (KRow.nil _ _ _ _ _) _ _ _ (l1.take (s2 + K)) rfl (hbt _ (Or.inl h0.out)) (by simp <;> omega) (Nat.le_refl _) ?_)
     intro v9 w9 hr9 hb9 _ _
     go_wp2_with fail
     go_meet
     exact ⟨Lib.hid hr9, Lib.hid hb9⟩
    | some ad =>
     go_wp2_with (at_builtin; refine wpList_app elemByt encByt rfl _ _ rfl w1.heap.size _ [] rfl (KRow.nil _ _ _ _ _) _ _ _ (l1.take (s2 + K)) rfl (hbt _ (Or.inl h0.out)) (by simp <;> omega) (Nat.le_refl _) ?_)
     intro v9 w9 hr9 hb9 _ _
     go_wp2_with fail
     go_meet
     exact ⟨Lib.hid hr9, Lib.hid hb9⟩
   ·
    subst ha
    go_wp2_with (at_builtin; refine wpList_app elemByt encByt rfl _ _ rfl w1.heap.size _ [] rfl (KRow.nil _ _ _ _ _) _ _ _ (l1.take (s2 + K)) rfl (hbt _ (Or.inr rfl)) (by simp <;> omega) (Nat.le_refl _) ?_)
    intro v9 w9 hr9 hb9 _ _
    go_wp2_with fail
    go_meet
    exact ⟨Lib.hid hr9, Lib.hid hb9⟩
  case rest =>
   obtain ⟨HR9, HBW⟩ := hcut
   obtain ⟨ra, rc, rfl, hrc, hbr⟩ := KRow.at_ encByt HR9.out
   rw [hln] at hrc hbr ⊢
   have HBR := Lib.hid (show BV wc (ra, s2 + K, rc) (l1.take (s2 + K)) from ⟨hrc, hbr⟩)
   clear hrc hbr
   have HB1 := HB
   have HA := Lib.hid (HA.out.next HBW.out)
   have HB := Lib.hid (HB.out.next HBW.out)
   clear g0 g1 g2 g3 gf0 gf1 gf2 gf3
   obtain ⟨⟨g0, g1, g2, g3⟩, gf0, gf1, gf2, gf3⟩ := HA.out.four
   by_cases hat : 0 ≤ at_ ∧ at_ < (K : Int)
   ·
    obtain ⟨ha0, ha1⟩ := hat
    obtain ⟨t, rfl⟩ : ∃ t : Nat, at_ = t := ⟨at_.toNat, by omega⟩
    obtain ⟨F, hF⟩ : ∃ F : Nat, (flip % 256).toNat = F := ⟨_, rfl⟩
    have hF2 : F < 256 := by omega
    have hand : bits .and .i64 flip 255 = (F : Int) := by rw [and255, hF]
    have hst : IntKind.i64.wrap ((s2 : Int) + (t : Int)) = (s2 : Int) + (t : Int) := IntWalk.i64_in _ (by omega)
    have hst1 : (s2 : Int) + (t : Int) < (s2 : Int) + (K : Int) := by omega
    have hst0 : (0 : Int) ≤ (s2 : Int) + (t : Int) := by omega
    have hstn : ((s2 : Int) + (t : Int)).toNat = s2 + t := by omega
    obtain ⟨c, hc⟩ : ∃ c, (l1.take (s2 + K))[s2 + t]? = some c := ⟨_, List.getElem?_eq_getElem (by omega)⟩
    obtain ⟨g, cap, hv9, _, hB9, hcg, hfg, HP⟩ := row_put HR9.out hc
    rw [hln] at hv9
    injection hv9 with e1 _ e3
    subst e1 e3
    have hcx := xor8 c.toNat F c.toNat_lt hF2
    have hwF := wrap8 F hF2
    have hxx : c.toNat ^^^ F < 256 := Nat.xor_lt_two_pow (n := 8) (by have := c.toNat_lt; omega) (by omega)
    have hUx : (c ^^^ UInt8.ofNat F).toNat = c.toNat ^^^ F := by
     rw [UInt8.toNat_xor, UInt8.toNat_ofNat', Nat.mod_eq_of_lt hF2]
    have HPr : Hid (pr = opnS m ((l1.take (s2 + K)).set (s2 + t) (c ^^^ UInt8.ofNat F))) := Lib.hid (by
     rw [HF1.out, HLB.out, if_pos ⟨ha0, ha1⟩, hstn, hF, List.getD_eq_getElem?_getD, hc]; rfl)
    have HRX := Lib.hid (HP (c ^^^ UInt8.ofNat F))
    rw [hUx] at HRX
    have HBX := Lib.hid (HBW.out.setCell (p := ⟨g, s2 + t, none⟩) hB9 (.int .u8 ((c.toNat ^^^ F : Nat) : Int)))
    clear HF1 HLB HP HR9 hF hUx
    have HBY := Lib.hid (HB1.out.next HBX.out)
    obtain ⟨⟨er, ⟨o1, o2, o3, o4⟩, rest⟩, ho⟩ : ∃ r, opnS m ((l1.take (s2 + K)).set (s2 + t) (c ^^^ UInt8.ofNat F)) = r := ⟨_, rfl⟩
    obtain ⟨ra', rc', hv9, hrc', hbr'⟩ := KRow.at_ encByt HRX.out
    rw [List.length_set, hln] at hv9 hrc' hbr'
    injection hv9 with e1 _ e3
    subst e1 e3
    have OP := Lib.hid (ropen_any (some ⟨g, 0, none⟩) (s2 + K) rc ((l1.take (s2 + K)).set (s2 + t) (c ^^^ UInt8.ofNat F)) m _ hbr' hrc')
    rw [ho] at OP HPr
    clear ho hbr' HRX HB1 HBR
    go_wp2_with fail
    generalize wc.setCell ⟨g, s2 + t, none⟩ (.int .u8 ((c.toNat ^^^ F : Nat) : Int)) = W at *
    refine OP.out.mono ?_
    rintro en w8 ⟨v8, rfl, hl8, hb8⟩
    obtain ⟨⟨xa, xn, xc⟩, ⟨ya, yn, yc⟩, ⟨za, zn, zc⟩, hv8, hx1, hx2, hx3⟩ := hl8
    replace hv8 : v8 = .agg #[.slice xa xn xc, .int .i64 o2, .slice ya yn yc, .slice za zn zc] := hv8
    subst hv8
    have HL8 : Hid (LogO w8 W.heap.size (.agg #[.slice xa xn xc, .int .i64 o2, .slice ya yn yc, .slice za zn zc]) (o1, o2, o3, o4)) := Lib.hid ⟨(xa, xn, xc), (ya, yn, yc), (za, zn, zc), rfl, hx1, hx2, hx3⟩
    have HB8 := Lib.hid (HBY.out.next hb8)
    have HR9 := Lib.hid (HB8.out.set4 (.slice xa xn xc) (.int .i64 o2) (.slice ya yn yc) (.slice za zn zc))
    have HL9 := Lib.hid ((HL8.out.set4 HBY.out.lt (.slice xa xn xc) (.int .i64 o2) (.slice ya yn yc) (.slice za zn zc)).base HBY.out.bl.size)
    clear hx1 hx2 hx3 hb8 HL8
    obtain ⟨⟨rc0, rc1, rc2, rc3⟩, rf0, rf1, rf2, rf3⟩ := HB8.out.four
    clear HB8
    go_wp2_with fail
    generalize (((World.setCell w8 ⟨R2, 0, none⟩ (.slice xa xn xc)).setCell ⟨R2, 1, none⟩ (.int .i64 o2)).setCell ⟨R2, 2, none⟩ (.slice ya yn yc)).setCell ⟨R2, 3, none⟩ (.slice za zn zc) = W9 at *
    clear rc0 rc1 rc2 rc3 rf0 rf1 rf2 rf3
    obtain ⟨⟨rc0, rc1, rc2, rc3⟩, _⟩ := HR9.out.four
    refine bodyPost_ret (v := .tuple #[.agg #[.slice xa xn xc, .int .i64 o2, .slice ya yn yc, .slice za zn zc], .int .i64 rest, .int .i64 er]) (by simp [results, Tryz.results45, go_sem, rc0, rc1, rc2, rc3]) rfl ?_
    rw [HPr.out]
    exact ⟨_, rfl, HL9.out, HR9.out.bl⟩
   ·
    have HPr : Hid (pr = opnS m (l1.take (s2 + K))) := Lib.hid (by rw [HF1.out, HLB.out, if_neg hat])
    have OP := Lib.hid (ropen_any ra (s2 + K) rc (l1.take (s2 + K)) m wc HBR.out.2 HBR.out.1)
    obtain ⟨⟨er, ⟨o1, o2, o3, o4⟩, rest⟩, ho⟩ : ∃ r, opnS m (l1.take (s2 + K)) = r := ⟨_, rfl⟩
    rw [ho] at OP HPr
    clear HF1 HLB ho HB1 HBR HR9
    rcases (show at_ < 0 ∨ (0 ≤ at_ ∧ (K : Int) ≤ at_) by omega) with h | ⟨h, h'⟩
    ·
     clear hat
     go_wp2_with fail
     refine OP.out.mono ?_
     rintro en w8 ⟨v8, rfl, hl8, hb8⟩
     obtain ⟨⟨xa, xn, xc⟩, ⟨ya, yn, yc⟩, ⟨za, zn, zc⟩, hv8, hx1, hx2, hx3⟩ := hl8
     replace hv8 : v8 = .agg #[.slice xa xn xc, .int .i64 o2, .slice ya yn yc, .slice za zn zc] := hv8
     subst hv8
     have HL8 : Hid (LogO w8 wc.heap.size (.agg #[.slice xa xn xc, .int .i64 o2, .slice ya yn yc, .slice za zn zc]) (o1, o2, o3, o4)) := Lib.hid ⟨(xa, xn, xc), (ya, yn, yc), (za, zn, zc), rfl, hx1, hx2, hx3⟩
     have HB8 := Lib.hid (HB.out.next hb8)
     have HR9 := Lib.hid (HB8.out.set4 (.slice xa xn xc) (.int .i64 o2) (.slice ya yn yc) (.slice za zn zc))
     have HL9 := Lib.hid ((HL8.out.set4 HB.out.lt (.slice xa xn xc) (.int .i64 o2) (.slice ya yn yc) (.slice za zn zc)).base HB.out.bl.size)
     clear hx1 hx2 hx3 hb8 HL8
     obtain ⟨⟨rc0, rc1, rc2, rc3⟩, rf0, rf1, rf2, rf3⟩ := HB8.out.four
     clear HB8
     go_wp2_with fail
     generalize (((World.setCell w8 ⟨R2, 0, none⟩ (.slice xa xn xc)).setCell ⟨R2, 1, none⟩ (.int .i64 o2)).setCell ⟨R2, 2, none⟩ (.slice ya yn yc)).setCell ⟨R2, 3, none⟩ (.slice za zn zc) = W9 at *
     clear rc0 rc1 rc2 rc3 rf0 rf1 rf2 rf3
     obtain ⟨⟨rc0, rc1, rc2, rc3⟩, _⟩ := HR9.out.four
     refine bodyPost_ret (v := .tuple #[.agg #[.slice xa xn xc, .int .i64 o2, .slice ya yn yc, .slice za zn zc], .int .i64 rest, .int .i64 er]) (by simp [results, Tryz.results45, go_sem, rc0, rc1, rc2, rc3]) rfl ?_
     rw [HPr.out]
     exact ⟨_, rfl, HL9.out, HR9.out.bl⟩
    ·
     clear hat
     go_wp2_with fail
     refine OP.out.mono ?_
     rintro en w8 ⟨v8, rfl, hl8, hb8⟩
     obtain ⟨⟨xa, xn, xc⟩, ⟨ya, yn, yc⟩, ⟨za, zn, zc⟩, hv8, hx1, hx2, hx3⟩ := hl8
     replace hv8 : v8 = .agg #[.slice xa xn xc, .int .i64 o2, .slice ya yn yc, .slice za zn zc] := hv8
     subst hv8
     have HL8 : Hid (LogO w8 wc.heap.size (.agg #[.slice xa xn xc, .int .i64 o2, .slice ya yn yc, .slice za zn zc]) (o1, o2, o3, o4)) := Lib.hid ⟨(xa, xn, xc), (ya, yn, yc), (za, zn, zc), rfl, hx1, hx2, hx3⟩
     have HB8 := Lib.hid (HB.out.next hb8)
     have HR9 := Lib.hid (HB8.out.set4 (.slice xa xn xc) (.int .i64 o2) (.slice ya yn yc) (.slice za zn zc))
     have HL9 := Lib.hid ((HL8.out.set4 HB.out.lt (.slice xa xn xc) (.int .i64 o2) (.slice ya yn yc) (.slice za zn zc)).base HB.out.bl.size)
     clear hx1 hx2 hx3 hb8 HL8
     obtain ⟨⟨rc0, rc1, rc2, rc3⟩, rf0, rf1, rf2, rf3⟩ := HB8.out.four
     clear HB8
     go_wp2_with fail
     generalize (((World.setCell w8 ⟨R2, 0, none⟩ (.slice xa xn xc)).setCell ⟨R2, 1, none⟩ (.int .i64 o2)).setCell ⟨R2, 2, none⟩ (.slice ya yn yc)).setCell ⟨R2, 3, none⟩ (.slice za zn zc) = W9 at *
     clear rc0 rc1 rc2 rc3 rf0 rf1 rf2 rf3
     obtain ⟨⟨rc0, rc1, rc2, rc3⟩, _⟩ := HR9.out.four
     refine bodyPost_ret (v := .tuple #[.agg #[.slice xa xn xc, .int .i64 o2, .slice ya yn yc, .slice za zn zc], .int .i64 rest, .int .i64 er]) (by simp [results, Tryz.results45, go_sem, rc0, rc1, rc2, rc3]) rfl ?_
     rw [HPr.out]
     exact ⟨_, rfl, HL9.out, HR9.out.bl⟩
end Go.Proofs.YtihbpggbpapcfaaGreatDoor

namespace Go.Proofs.YtihbpggbpapcfaaGreatDoor
open Go.RowKit

set_option maxRecDepth 100000 in
set_option maxHeartbeats 16000000 in
theorem crash_of (HVL : VldP) (HOP : OpnP) (va : Value) (l : Lg) (m keep at_ flip : Int) (w : World) (ha : LogP w va l) (hE : Env w) (hk : -9223372036854775808 ≤ keep ∧ keep ≤ 9223372036854775807) (hat : -9223372036854775808 ≤ at_ ∧ at_ ≤ 9223372036854775807) (hf : -9223372036854775808 ≤ flip ∧ flip ≤ 9223372036854775807) : Calls Tryz.prog 44 #[va, .int .i64 m, .int .i64 keep, .int .i64 at_, .int .i64 flip] w (OpnR (crsS m keep at_ flip l) w) := by
 obtain ⟨hk1, hk2⟩ := hk
 obtain ⟨hat1, hat2⟩ := hat
 have HFL := Lib.hid hf
 clear hf
 have HV := Lib.hid (fun W (h : Below w.heap.size w W) => HVL va l m W (ha.below h) (hE.below h))
 have HEE := Lib.hid hE
 have HOPP := Lib.hid HOP
 clear HOP
 obtain ⟨⟨da, dn, dc⟩, ⟨va, vn, vc⟩, ⟨sa, sn, sc⟩, rfl, hd, _, hv, hs⟩ := ha
 obtain ⟨l1, l2, l3, l4⟩ := l
 simp only at hd hv hs
 have hld : l1.length = dn := hd.2.1
 have hcd : dn ≤ dc := hd.1
 have HF : Hid (crsS m keep at_ flip (l1, l2, l3, l4) = if vldL m (l1, l2, l3, l4) = false then (1, lgZ, 0) else opnS m (leftB (l1, l2, l3, l4) keep at_ flip)) := Lib.hid rfl
 have HLK : Hid (vldL m (l1, l2, l3, l4) = true → _) := Lib.hid (fun h => vld_log h)
 have HA := Lib.hid (BX.mk0 (vs := #[.slice da dn dc, .int .i64 l2, .slice va vn vc, .slice sa sn sc]) (T := 55) w)
 have HD := Lib.hid hd
 clear hd hv hs
 change Hid (∀ W, Below w.heap.size w W → Calls _ _ #[.agg #[.slice da dn dc, .int .i64 l2, .slice va vn vc, .slice sa sn sc], .int .i64 m] W _) at HV
 show Calls _ _ #[.agg #[.slice da dn dc, .int .i64 l2, .slice va vn vc, .slice sa sn sc], .int .i64 m, .int .i64 keep, .int .i64 at_, .int .i64 flip] w _
 generalize vldL m (l1, l2, l3, l4) = q at *
 generalize crsS m keep at_ flip (l1, l2, l3, l4) = pr at *
 go_enter Tryz.func44, Tryz.ntmps44
 go_upto_region 1 with fail
 have hsa : (w.alloc (.cells #[.slice da dn dc, .int .i64 l2, .slice va vn vc, .slice sa sn sc] 55)).heap.size = w.heap.size + 1 := by simp
 generalize w.alloc (.cells #[.slice da dn dc, .int .i64 l2, .slice va vn vc, .slice sa sn sc] 55) = wa at *
 obtain ⟨R, hR⟩ : ∃ R, R = w.heap.size := ⟨_, rfl⟩
 rw [← hR] at HA hsa ⊢
 clear hR
 have HB := Lib.hid (BX.mk0 (vs := #[.slice none 0 0, .int .i64 0, .slice none 0 0, .slice none 0 0]) (T := 55) wa)
 rw [hsa] at HB
 clear hsa
 generalize wa.alloc (.cells #[.slice none 0 0, .int .i64 0, .slice none 0 0, .slice none 0 0] 55) = wb at *
 obtain ⟨R2, hR2⟩ : ∃ R2, R2 = R + 1 := ⟨_, rfl⟩
 rw [← hR2] at HB ⊢
 have hne : R2 ≠ R := by omega
 have hle : R ≤ R2 := by omega
 clear hR2
 have HA := Lib.hid (HA.out.next HB.out.bl)
 have HB : Hid (BX w wb R2 _ _) := Lib.hid ⟨HB.out.hp, Nat.le_trans HA.out.lo hle, HA.out.bl⟩
 obtain ⟨⟨g0, g1, g2, g3⟩, gf0, gf1, gf2, gf3⟩ := HA.out.four
 go_wp2_with fail
 refine (HV.out _ HA.out.bl).mono ?_
 rintro en w1 ⟨rfl, hb1⟩
 have HA := Lib.hid (HA.out.next hb1)
 have HB := Lib.hid (HB.out.next hb1)
 clear g0 g1 g2 g3 gf0 gf1 gf2 gf3 hb1 HV
 obtain ⟨⟨g0, g1, g2, g3⟩, gf0, gf1, gf2, gf3⟩ := HA.out.four
 cases q
 ·
  have HF2 : Hid (pr = (1, lgZ, 0)) := Lib.hid (by rw [HF.out, if_pos rfl])
  obtain ⟨⟨rc0, rc1, rc2, rc3⟩, rf0, rf1, rf2, rf3⟩ := HB.out.four
  have HR9 := Lib.hid (HB.out.set4 (.slice none 0 0) (.int .i64 0) (.slice none 0 0) (.slice none 0 0))
  go_wp2_with fail
  generalize (((World.setCell w1 ⟨R2, 0, none⟩ (.slice none 0 0)).setCell ⟨R2, 1, none⟩ (.int .i64 0)).setCell ⟨R2, 2, none⟩ (.slice none 0 0)).setCell ⟨R2, 3, none⟩ (.slice none 0 0) = W9 at *
  clear rc0 rc1 rc2 rc3 rf0 rf1 rf2 rf3
  obtain ⟨⟨rc0, rc1, rc2, rc3⟩, _⟩ := HR9.out.four
  refine bodyPost_ret (v := .tuple #[.agg #[.slice none 0 0, .int .i64 0, .slice none 0 0, .slice none 0 0], .int .i64 0, .int .i64 1]) (by simp [results, Tryz.results44, go_sem, rc0, rc1, rc2, rc3]) rfl ?_
  rw [HF2.out]
  exact ⟨_, rfl, LogO.zero _ _, HR9.out.bl⟩
 have HF1 : Hid (pr = opnS m (leftB (l1, l2, l3, l4) keep at_ flip)) := Lib.hid (by rw [HF.out, if_neg (by simp)])
 obtain ⟨_, hl1, ⟨hl20, hl21⟩, _, _, _⟩ := HLK.out rfl
 rw [hld] at hl1 hl21
 clear HLK HF
 have hw1 : IntKind.i64.wrap ((dn : Int) - l2) = (dn : Int) - l2 := IntWalk.i64_in _ (by omega)
 obtain ⟨K, hK⟩ : ∃ K : Nat, (K : Int) = max 0 (min keep ((dn : Int) - l2)) := ⟨(max 0 (min keep ((dn : Int) - l2))).toNat, by omega⟩
 obtain ⟨s2, rfl⟩ : ∃ s : Nat, l2 = s := ⟨l2.toNat, by omega⟩
 go_upto_region 4 with fail
 go_cut [2] (fun s wx => s = .int .i64 K ∧ wx = w1)
 case first =>
  have hgo : ∀ x : Int, x = K → Value.int .i64 x = .int .i64 K := fun _ h => by rw [h]
  go_wp2_with fail
  all_goals go_meet
  all_goals exact ⟨hgo _ (by omega), rfl⟩
 case rest =>
  obtain ⟨rfl, hwc⟩ := hcut
  replace hwc := hwc.symm
  subst hwc
  have hKn : s2 + K ≤ dn := by omega
  have HLB : Hid (leftB (l1, (s2 : Int), l3, l4) keep at_ flip = if 0 ≤ at_ ∧ at_ < (K : Int) then (l1.take (s2 + K)).set ((s2 : Int) + at_).toNat ((l1.take (s2 + K)).getD ((s2 : Int) + at_).toNat 0 ^^^ UInt8.ofNat (flip % 256).toNat) else l1.take (s2 + K)) := Lib.hid (by
   unfold leftB
   simp only
   rw [hld, ← hK, show ((s2 : Int) + (K : Int)).toNat = s2 + K by omega])
  clear hK hk1 hk2
  have hln : (l1.take (s2 + K)).length = s2 + K := by rw [List.length_take]; omega
  have hsk : IntKind.i64.wrap ((s2 : Int) + (K : Int)) = (s2 : Int) + (K : Int) := IntWalk.i64_in _ (by omega)
  have hcc : (s2 : Int) + (K : Int) ≤ dc := by omega
  have hc0 : (0 : Int) ≤ (s2 : Int) + (K : Int) := by omega
  have hsn : ((s2 : Int) + (K : Int)).toNat = s2 + K := by omega
  go_upto_region 5 with fail
  go_cut [14] (fun s wx => Hid (KRow bytC 1 5 wx w1.heap.size s (l1.take (s2 + K))) ∧ Hid (Below w1.heap.size w1 wx))
  case first =>
   have CL := Lib.hid (bclone_any da (s2 + K) dc (l1.take (s2 + K)) w1 ⟨show s2 + K ≤ dc by omega, (HD.out.below HA.out.bl).2.take (show s2 + K ≤ dn by omega)⟩ (by omega))
   cases da with
   | none =>
    go_wp2_with fail
    refine CL.out.mono ?_
    rintro en w9 ⟨sz, rfl, hr9, hb9⟩
    have HR9 := Lib.hid hr9
    have HB9 := Lib.hid hb9
    clear hr9 hb9
    go_wp2_with fail
    go_meet
    exact ⟨HR9, HB9⟩
   | some ad =>
    go_wp2_with fail
    refine CL.out.mono ?_
    rintro en w9 ⟨sz, rfl, hr9, hb9⟩
    have HR9 := Lib.hid hr9
    have HB9 := Lib.hid hb9
    clear hr9 hb9
    go_wp2_with fail
    go_meet
    exact ⟨HR9, HB9⟩
  case rest =>
   obtain ⟨HR9, HBW⟩ := hcut
   obtain ⟨ra, rc, rfl, hrc, hbr⟩ := KRow.at_ encByt HR9.out
   rw [hln] at hrc hbr ⊢
   have HBR := Lib.hid (show BV wc (ra, s2 + K, rc) (l1.take (s2 + K)) from ⟨hrc, hbr⟩)
   clear hrc hbr
   have HNO : Hid (NilOk (ra, s2 + K, rc)) := Lib.hid (by have h := HR9.out; rw [hln] at h; exact nil_row (s := (ra, s2 + K, rc)) h)
   have HB1 := HB
   have HA := Lib.hid (HA.out.next HBW.out)
   have HB := Lib.hid (HB.out.next HBW.out)
   clear g0 g1 g2 g3 gf0 gf1 gf2 gf3
   obtain ⟨⟨g0, g1, g2, g3⟩, gf0, gf1, gf2, gf3⟩ := HA.out.four
   by_cases hat : 0 ≤ at_ ∧ at_ < (K : Int)
   ·
    obtain ⟨ha0, ha1⟩ := hat
    obtain ⟨t, rfl⟩ : ∃ t : Nat, at_ = t := ⟨at_.toNat, by omega⟩
    obtain ⟨F, hF⟩ : ∃ F : Nat, (flip % 256).toNat = F := ⟨_, rfl⟩
    have hF2 : F < 256 := by omega
    have hmod : flip % 256 = (F : Int) := by omega
    have hwf : IntKind.u8.wrap flip = (F : Int) := by rw [IntKind.wrap_u8]; omega
    have hst : IntKind.i64.wrap ((s2 : Int) + (t : Int)) = (s2 : Int) + (t : Int) := IntWalk.i64_in _ (by omega)
    have hst1 : (s2 : Int) + (t : Int) < (s2 : Int) + (K : Int) := by omega
    have hst0 : (0 : Int) ≤ (s2 : Int) + (t : Int) := by omega
    have hstn : ((s2 : Int) + (t : Int)).toNat = s2 + t := by omega
    obtain ⟨c, hc⟩ : ∃ c, (l1.take (s2 + K))[s2 + t]? = some c := ⟨_, List.getElem?_eq_getElem (by omega)⟩
    obtain ⟨g, cap, hv9, _, hB9, hcg, hfg, HP⟩ := row_put HR9.out hc
    rw [hln] at hv9
    injection hv9 with e1 _ e3
    subst e1 e3
    have hcx := xor8 c.toNat F c.toNat_lt hF2
    have hwF := wrap8 F hF2
    have hxx : c.toNat ^^^ F < 256 := Nat.xor_lt_two_pow (n := 8) (by have := c.toNat_lt; omega) (by omega)
    have hUx : (c ^^^ UInt8.ofNat F).toNat = c.toNat ^^^ F := by
     rw [UInt8.toNat_xor, UInt8.toNat_ofNat', Nat.mod_eq_of_lt hF2]
    have HPr : Hid (pr = opnS m ((l1.take (s2 + K)).set (s2 + t) (c ^^^ UInt8.ofNat F))) := Lib.hid (by
     rw [HF1.out, HLB.out, if_pos ⟨ha0, ha1⟩, hstn, hF, List.getD_eq_getElem?_getD, hc]; rfl)
    have HRX := Lib.hid (HP (c ^^^ UInt8.ofNat F))
    rw [hUx] at HRX
    have HBX := Lib.hid (HBW.out.setCell (p := ⟨g, s2 + t, none⟩) hB9 (.int .u8 ((c.toNat ^^^ F : Nat) : Int)))
    clear HF1 HLB HP HR9 hF hUx
    have HBY := Lib.hid (HB1.out.next HBX.out)
    obtain ⟨⟨er, ⟨o1, o2, o3, o4⟩, rest⟩, ho⟩ : ∃ r, opnS m ((l1.take (s2 + K)).set (s2 + t) (c ^^^ UInt8.ofNat F)) = r := ⟨_, rfl⟩
    obtain ⟨ra', rc', hv9, hrc', hbr'⟩ := KRow.at_ encByt HRX.out
    rw [List.length_set, hln] at hv9 hrc' hbr'
    injection hv9 with e1 _ e3
    subst e1 e3
    have OP := Lib.hid (HOPP.out (some ⟨g, 0, none⟩) (s2 + K) rc ((l1.take (s2 + K)).set (s2 + t) (c ^^^ UInt8.ofNat F)) m _ ⟨hrc', hbr'⟩ (fun h => by cases h) (HEE.out.below (below3 HB1.out.bl HBX.out)))
    rw [ho] at OP HPr
    clear ho hbr' HRX HBR
    go_wp2_with fail
    generalize wc.setCell ⟨g, s2 + t, none⟩ (.int .u8 ((c.toNat ^^^ F : Nat) : Int)) = W at *
    refine OP.out.mono ?_
    rintro en w8 ⟨v8, rfl, hl8, hb8⟩
    obtain ⟨⟨xa, xn, xc⟩, ⟨ya, yn, yc⟩, ⟨za, zn, zc⟩, hv8, hx1, hx2, hx3⟩ := hl8
    replace hv8 : v8 = .agg #[.slice xa xn xc, .int .i64 o2, .slice ya yn yc, .slice za zn zc] := hv8
    subst hv8
    have HL8 : Hid (LogO w8 W.heap.size (.agg #[.slice xa xn xc, .int .i64 o2, .slice ya yn yc, .slice za zn zc]) (o1, o2, o3, o4)) := Lib.hid ⟨(xa, xn, xc), (ya, yn, yc), (za, zn, zc), rfl, hx1, hx2, hx3⟩
    have HB8 := Lib.hid (HBY.out.next hb8)
    have HR9 := Lib.hid (HB8.out.set4 (.slice xa xn xc) (.int .i64 o2) (.slice ya yn yc) (.slice za zn zc))
    have HL9 := Lib.hid ((HL8.out.set4 HBY.out.lt (.slice xa xn xc) (.int .i64 o2) (.slice ya yn yc) (.slice za zn zc)).base HBY.out.bl.size)
    clear hx1 hx2 hx3 hb8 HL8
    obtain ⟨⟨rc0, rc1, rc2, rc3⟩, rf0, rf1, rf2, rf3⟩ := HB8.out.four
    clear HB8
    go_wp2_with fail
    generalize (((World.setCell w8 ⟨R2, 0, none⟩ (.slice xa xn xc)).setCell ⟨R2, 1, none⟩ (.int .i64 o2)).setCell ⟨R2, 2, none⟩ (.slice ya yn yc)).setCell ⟨R2, 3, none⟩ (.slice za zn zc) = W9 at *
    clear rc0 rc1 rc2 rc3 rf0 rf1 rf2 rf3
    obtain ⟨⟨rc0, rc1, rc2, rc3⟩, _⟩ := HR9.out.four
    refine bodyPost_ret (v := .tuple #[.agg #[.slice xa xn xc, .int .i64 o2, .slice ya yn yc, .slice za zn zc], .int .i64 rest, .int .i64 er]) (by simp [results, Tryz.results44, go_sem, rc0, rc1, rc2, rc3]) rfl ?_
    rw [HPr.out]
    exact ⟨_, rfl, HL9.out, HR9.out.bl⟩
   ·
    have HPr : Hid (pr = opnS m (l1.take (s2 + K))) := Lib.hid (by rw [HF1.out, HLB.out, if_neg hat])
    have OP := Lib.hid (HOPP.out ra (s2 + K) rc (l1.take (s2 + K)) m wc HBR.out HNO.out (HEE.out.below HB.out.bl))
    obtain ⟨⟨er, ⟨o1, o2, o3, o4⟩, rest⟩, ho⟩ : ∃ r, opnS m (l1.take (s2 + K)) = r := ⟨_, rfl⟩
    rw [ho] at OP HPr
    clear HF1 HLB ho HB1 HBR HR9
    rcases (show at_ < 0 ∨ (0 ≤ at_ ∧ (K : Int) ≤ at_) by omega) with h | ⟨h, h'⟩
    ·
     clear hat
     go_wp2_with fail
     refine OP.out.mono ?_
     rintro en w8 ⟨v8, rfl, hl8, hb8⟩
     obtain ⟨⟨xa, xn, xc⟩, ⟨ya, yn, yc⟩, ⟨za, zn, zc⟩, hv8, hx1, hx2, hx3⟩ := hl8
     replace hv8 : v8 = .agg #[.slice xa xn xc, .int .i64 o2, .slice ya yn yc, .slice za zn zc] := hv8
     subst hv8
     have HL8 : Hid (LogO w8 wc.heap.size (.agg #[.slice xa xn xc, .int .i64 o2, .slice ya yn yc, .slice za zn zc]) (o1, o2, o3, o4)) := Lib.hid ⟨(xa, xn, xc), (ya, yn, yc), (za, zn, zc), rfl, hx1, hx2, hx3⟩
     have HB8 := Lib.hid (HB.out.next hb8)
     have HR9 := Lib.hid (HB8.out.set4 (.slice xa xn xc) (.int .i64 o2) (.slice ya yn yc) (.slice za zn zc))
     have HL9 := Lib.hid ((HL8.out.set4 HB.out.lt (.slice xa xn xc) (.int .i64 o2) (.slice ya yn yc) (.slice za zn zc)).base HB.out.bl.size)
     clear hx1 hx2 hx3 hb8 HL8
     obtain ⟨⟨rc0, rc1, rc2, rc3⟩, rf0, rf1, rf2, rf3⟩ := HB8.out.four
     clear HB8
     go_wp2_with fail
     generalize (((World.setCell w8 ⟨R2, 0, none⟩ (.slice xa xn xc)).setCell ⟨R2, 1, none⟩ (.int .i64 o2)).setCell ⟨R2, 2, none⟩ (.slice ya yn yc)).setCell ⟨R2, 3, none⟩ (.slice za zn zc) = W9 at *
     clear rc0 rc1 rc2 rc3 rf0 rf1 rf2 rf3
     obtain ⟨⟨rc0, rc1, rc2, rc3⟩, _⟩ := HR9.out.four
     refine bodyPost_ret (v := .tuple #[.agg #[.slice xa xn xc, .int .i64 o2, .slice ya yn yc, .slice za zn zc], .int .i64 rest, .int .i64 er]) (by simp [results, Tryz.results44, go_sem, rc0, rc1, rc2, rc3]) rfl ?_
     rw [HPr.out]
     exact ⟨_, rfl, HL9.out, HR9.out.bl⟩
    ·
     clear hat
     go_wp2_with fail
     refine OP.out.mono ?_
     rintro en w8 ⟨v8, rfl, hl8, hb8⟩
     obtain ⟨⟨xa, xn, xc⟩, ⟨ya, yn, yc⟩, ⟨za, zn, zc⟩, hv8, hx1, hx2, hx3⟩ := hl8
     replace hv8 : v8 = .agg #[.slice xa xn xc, .int .i64 o2, .slice ya yn yc, .slice za zn zc] := hv8
     subst hv8
     have HL8 : Hid (LogO w8 wc.heap.size (.agg #[.slice xa xn xc, .int .i64 o2, .slice ya yn yc, .slice za zn zc]) (o1, o2, o3, o4)) := Lib.hid ⟨(xa, xn, xc), (ya, yn, yc), (za, zn, zc), rfl, hx1, hx2, hx3⟩
     have HB8 := Lib.hid (HB.out.next hb8)
     have HR9 := Lib.hid (HB8.out.set4 (.slice xa xn xc) (.int .i64 o2) (.slice ya yn yc) (.slice za zn zc))
     have HL9 := Lib.hid ((HL8.out.set4 HB.out.lt (.slice xa xn xc) (.int .i64 o2) (.slice ya yn yc) (.slice za zn zc)).base HB.out.bl.size)
     clear hx1 hx2 hx3 hb8 HL8
     obtain ⟨⟨rc0, rc1, rc2, rc3⟩, rf0, rf1, rf2, rf3⟩ := HB8.out.four
     clear HB8
     go_wp2_with fail
     generalize (((World.setCell w8 ⟨R2, 0, none⟩ (.slice xa xn xc)).setCell ⟨R2, 1, none⟩ (.int .i64 o2)).setCell ⟨R2, 2, none⟩ (.slice ya yn yc)).setCell ⟨R2, 3, none⟩ (.slice za zn zc) = W9 at *
     clear rc0 rc1 rc2 rc3 rf0 rf1 rf2 rf3
     obtain ⟨⟨rc0, rc1, rc2, rc3⟩, _⟩ := HR9.out.four
     refine bodyPost_ret (v := .tuple #[.agg #[.slice xa xn xc, .int .i64 o2, .slice ya yn yc, .slice za zn zc], .int .i64 rest, .int .i64 er]) (by simp [results, Tryz.results44, go_sem, rc0, rc1, rc2, rc3]) rfl ?_
     rw [HPr.out]
     exact ⟨_, rfl, HL9.out, HR9.out.bl⟩
end Go.Proofs.YtihbpggbpapcfaaGreatDoor

namespace Go.Proofs.YtihbpggbpapcfaaGreatDoor
open Go.RowKit

theorem told_any (a : Option Addr) (n c : Nat) (x : Int) (b : Option Addr) (n2 c2 : Nat) (d : Option Addr) (n3 c3 : Nat) (w : World) : Calls Tryz.prog 29 #[.agg #[.slice a n c, .int .i64 x, .slice b n2 c2, .slice d n3 c3]] w (RetB (.agg #[.slice a n c, .int .i64 x, .slice b n2 c2, .slice d n3 c3]) w) := by
 go_enter Tryz.func29, Tryz.ntmps29
 have HA := Lib.hid (BX.mk0 (vs := #[.slice a n c, .int .i64 x, .slice b n2 c2, .slice d n3 c3]) (T := 55) w)
 go_upto_region 1 with fail
 have hsa : (w.alloc (.cells #[.slice a n c, .int .i64 x, .slice b n2 c2, .slice d n3 c3] 55)).heap.size = w.heap.size + 1 := by simp
 generalize w.alloc (.cells #[.slice a n c, .int .i64 x, .slice b n2 c2, .slice d n3 c3] 55) = wa at *
 obtain ⟨R, hR⟩ : ∃ R, R = w.heap.size := ⟨_, rfl⟩
 rw [← hR] at HA hsa ⊢
 clear hR
 have HB := Lib.hid (BX.mk0 (vs := #[.slice none 0 0, .int .i64 0, .slice none 0 0, .slice none 0 0]) (T := 51) wa)
 rw [hsa] at HB
 clear hsa
 generalize wa.alloc (.cells #[.slice none 0 0, .int .i64 0, .slice none 0 0, .slice none 0 0] 51) = wb at *
 obtain ⟨R2, hR2⟩ : ∃ R2, R2 = R + 1 := ⟨_, rfl⟩
 rw [← hR2] at HB ⊢
 have hle : R ≤ R2 := by omega
 clear hR2
 have HA := Lib.hid (HA.out.next HB.out.bl)
 have HB : Hid (BX w wb R2 _ _) := Lib.hid ⟨HB.out.hp, Nat.le_trans HA.out.lo hle, HA.out.bl⟩
 obtain ⟨⟨g0, g1, g2, g3⟩, _⟩ := HA.out.four
 obtain ⟨⟨rc0, rc1, rc2, rc3⟩, rf0, rf1, rf2, rf3⟩ := HB.out.four
 have HR9 := Lib.hid (HB.out.set4 (.slice a n c) (.int .i64 x) (.slice b n2 c2) (.slice d n3 c3))
 go_wp2_with fail
 generalize (((World.setCell wb ⟨R2, 0, none⟩ (.slice a n c)).setCell ⟨R2, 1, none⟩ (.int .i64 x)).setCell ⟨R2, 2, none⟩ (.slice b n2 c2)).setCell ⟨R2, 3, none⟩ (.slice d n3 c3) = W9 at *
 clear rc0 rc1 rc2 rc3 rf0 rf1 rf2 rf3
 obtain ⟨⟨rc0, rc1, rc2, rc3⟩, _⟩ := HR9.out.four
 refine bodyPost_ret (v := .agg #[.slice a n c, .int .i64 x, .slice b n2 c2, .slice d n3 c3]) (by simp [results, Tryz.results29, go_sem, rc0, rc1, rc2, rc3]) rfl ?_
 exact ⟨rfl, HR9.out.bl⟩
end Go.Proofs.YtihbpggbpapcfaaGreatDoor

namespace Go.Proofs.YtihbpggbpapcfaaGreatDoor
open Go.RowKit

theorem LLX.ll {φ : Nat → Prop} {w : World} {s : Sl} {ls : List (List Ses)} (h : LLX φ w s ls) : LLAt w s.1 s.2.1 ls := by
 obtain ⟨_, _, rs, h1, h2⟩ := h
 exact ⟨rs, h1, h2.imp fun _ _ hr => hr.1⟩
theorem LLX.below {φ : Nat → Prop} {w w' : World} {s : Sl} {ls : List (List Ses)} (h : LLX φ w s ls) (hb : Below w.heap.size w w') : LLX φ w' s ls := by
 obtain ⟨h1, h2, rs, h3, h4⟩ := h
 exact ⟨h1, h2, rs, KAt.same h3 h2 (SameB.of_below (φ := φ) hb), h4.imp fun _ _ hr => hr.below hb⟩
theorem LLX.len {φ : Nat → Prop} {w : World} {s : Sl} {ls : List (List Ses)} (h : LLX φ w s ls) : s.2.1 = ls.length := by
 obtain ⟨_, _, rs, h3, h4⟩ := h
 rw [← h4.1]
 exact h3.1.symm
theorem LogX.sync {φ : Nat → Prop} {w : World} {d vs xs : Sl} {y syn : Int} {l : Lg} (h : LogX φ w (logV d y vs xs) l) : LogX φ w (logV d syn vs xs) (l.1, syn, l.2.2.1, l.2.2.2) := by
 obtain ⟨a, b, c, e, g1, g2, g3, g4, g5⟩ := h
 obtain ⟨a1, a2, a3⟩ := a
 obtain ⟨b1, b2, b3⟩ := b
 obtain ⟨c1, c2, c3⟩ := c
 obtain ⟨d1, d2, d3⟩ := d
 obtain ⟨v1, v2, v3⟩ := vs
 obtain ⟨x1, x2, x3⟩ := xs
 simp only [logV, Value.agg.injEq, Array.mk.injEq, List.cons.injEq, slV, Value.slice.injEq] at e
 obtain ⟨⟨rfl, rfl, rfl⟩, _, ⟨rfl, rfl, rfl⟩, ⟨rfl, rfl, rfl⟩, _⟩ := e
 exact ⟨_, _, _, rfl, g1, g2, g3, g4, g5⟩
theorem wrap_in (y : Int) : (Lit.int .i64 (IntKind.wrap .i64 y)).wf = true := by
 simp [Lit.wf, IntKind.wrap, IntKind.min, IntKind.max, IntKind.signed, IntKind.bits] <;> (try split) <;> omega
theorem and_w (x y : Int) : (Lit.int .i64 (bits .and .i64 x y)).wf = true := by
 unfold bits; exact wrap_in _
theorem and_b (x y : Int) : -9223372036854775808 ≤ bits .and .i64 x y ∧ bits .and .i64 x y ≤ 9223372036854775807 := by
 exact bounds_i64 (and_w _ _)
theorem sameL_refl (l : Lg) : sameL l l = true := (sameL_iff l l).2 rfl
theorem ciTold (args : Array Value) (w : World) : (callFunc 29 args).run Tryz.prog w = .ok (.enter 29 args) w := by
 kernel_rfl
theorem ciSame (args : Array Value) (w : World) : (callFunc 28 args).run Tryz.prog w = .ok (.enter 28 args) w := by
 kernel_rfl
def cmpV (n e : Int) (va vb : Value) (_L : Array Bool) (j : Nat) (v : Value) (_W : World) : Prop := match j with
 | 0 | 1 => v = .int .i64 n
 | 2 | 3 | 6 | 7 | 8 => v = .bool false
 | 4 | 5 => v = .int .i64 e
 | 9 | 10 => v = va
 | 11 => v = vb
 | 12 => v = .bool true
 | 13 | 14 => v = .bool false
 | _ => va = va

set_option maxRecDepth 100000 in
set_option maxHeartbeats 16000000 in
theorem law_crashes (a : Option Addr) (n c : Nat) (L : List Int) (kp at_ fl : Int) (w : World) (hI : IntsAt w a n L) (hL : ∀ x ∈ L, -9223372036854775808 ≤ x ∧ x ≤ 9223372036854775807) (hk : -9223372036854775808 ≤ kp ∧ kp ≤ 9223372036854775807) (hat : -9223372036854775808 ≤ at_ ∧ at_ ≤ 9223372036854775807) (hf : -9223372036854775808 ≤ fl ∧ fl ≤ 9223372036854775807) (hE : Env w) :
  Calls Tryz.prog 9 #[.slice a n c, .int .i64 kp, .int .i64 at_, .int .i64 fl] w (RetB (.bool true) w) := by
 have AW := Lib.hid (fun W (h : Below w.heap.size w W) => awake_any W (hE.below h))
 by_cases hg : n ≤ 400
 rotate_left
 ·
  have hnd : decide (n ≤ 400) = false := by simpa using hg
  clear hI hL hE
  go_enter Tryz.func9, Tryz.ntmps9
  go_wp2_with (first | (go_at_call 12; refine (light_any _ _ _ _).mono ?_; rintro e w' ⟨rfl, rfl⟩) | (go_at_call 13; refine (AW.out _ (Below.refl _ _)).mono ?_; rintro e w' ⟨rfl, hb⟩))
  go_ret
  exact ⟨rfl, hb⟩
 have hnd : decide (n ≤ 400) = true := by simpa using hg
 have HD0 := Lib.hid (DiceAt.mk0 c 104 hI hg hL)
 have HE := Lib.hid hE
 clear hI hL hE
 go_enter Tryz.func9, Tryz.ntmps9
 go_upto_region 3 with (go_at_call 12; refine (light_any _ _ _ _).mono ?_; rintro e w' ⟨rfl, rfl⟩)
 have HB1 := Lib.hid ((Below.refl w.heap.size w).alloc (Nat.le_refl _) (.cells #[.slice a n c, .int .i64 0] 104))
 go_upto_region 4 with (go_at_call 15; refine (roll_any _ _ _ _).mono ?_; rintro e w' ⟨rfl, rfl⟩)
 generalize w.alloc (.cells #[.slice a n c, .int .i64 0] 104) = w1 at *
 obtain ⟨p, hp⟩ : ∃ p, p = w.heap.size := ⟨_, rfl⟩
 rw [← hp] at HD0 ⊢
 have hpw : w.heap.size ≤ p := Nat.le_of_eq hp.symm
 clear hp
 have N8 := Lib.hid (next_any p 8 w1 (by omega) (by omega) HD0.out)
 go_upto_region 5 with (go_at_call 24; refine N8.out.mono ?_; rintro en w2 ⟨r, r0, r8, rfl, hd2, hb2⟩)
 have HB2 := Lib.hid (But.below HB1.out hb2 hpw HB1.out.size)
 obtain ⟨m, hm⟩ : ∃ m : Nat, 1 + r = (m : Int) := ⟨(1 + r).toNat, by omega⟩
 have hm1 : 1 ≤ m := by omega
 have hm8 : m ≤ 8 := by omega
 rw [hm]
 have FL := Lib.hid (filled_any p m hm1 hm8 w2 hd2)
 have hp2 : p < w2.heap.size := hd2.lt
 clear N8 HD0 hd2 hb2 hm r0 r8
 go_upto_region 6 with (go_at_call 25; refine FL.out.mono ?_; rintro en w3 ⟨_, ⟨s0, s1, s2⟩, l, ss, rfl, ⟨⟨d0, d1, d2⟩, ⟨v0, v1, v2⟩, ⟨x0, x1, x2⟩, rfl, hlq⟩, hll, hpu, hs4, hd3, hb3⟩; rw [show (logV (d0, d1, d2) l.2.1 (v0, v1, v2) (x0, x1, x2)) = .agg #[.slice d0 d1 d2, .int .i64 l.2.1, .slice v0 v1 v2, .slice x0 x1 x2] from rfl])
 have hlx : LogX (fun b => w2.heap.size ≤ b ∧ b < w3.heap.size) w3 (logV (d0, d1, d2) l.2.1 (v0, v1, v2) (x0, x1, x2)) l := LogX.lt (φ := fun b => w2.heap.size ≤ b) ⟨_, _, _, rfl, hlq⟩
 have hal : Below w3.heap.size w3 (w3.alloc (.cells #[.slice d0 d1 d2, .int .i64 l.2.1, .slice v0 v1 v2, .slice x0 x1 x2] 51)) := (Below.refl _ _).alloc (Nat.le_refl _) _
 have HX : Hid ((w3.alloc (.cells #[.slice d0 d1 d2, .int .i64 l.2.1, .slice v0 v1 v2, .slice x0 x1 x2] 51)).heap[w3.heap.size]? = some (.cells #[.slice d0 d1 d2, .int .i64 l.2.1, .slice v0 v1 v2, .slice x0 x1 x2] 51 (0, 0))) := Lib.hid (heap_alloc_new _ _)
 have HLX := Lib.hid (hlx.below hal)
 have HLL := Lib.hid (hll.below hal)
 have HPU := Lib.hid hpu
 have HD4 := Lib.hid (hd3.below hal)
 have HB3 := Lib.hid (But.below HB2.out hb3 hpw HB2.out.size)
 have HB4 := Lib.hid (HB3.out.trans (hal.mono HB3.out.size))
 have HPR : Hid (p < w3.heap.size) := Lib.hid (Nat.lt_of_lt_of_le hp2 hb3.size)
 have hs1 : s1 = ss.length + 1 := hll.len
 have hs5 : s1 ≤ 5 := by omega
 have HS1 := Lib.hid hs1
 clear hs1
 have HVL := Lib.hid (chn_len hpu.ch)
 have hdl : l.1.length = d1 := by
  obtain ⟨a, b, c, e, g1, _⟩ := hlx
  obtain ⟨a1, a2, a3⟩ := a
  simp only [logV, Value.agg.injEq, Array.mk.injEq, List.cons.injEq, slV, Value.slice.injEq] at e
  obtain ⟨⟨rfl, rfl, rfl⟩, _⟩ := e
  exact g1.2.1
 have HDL := Lib.hid hdl
 have HD1 : Hid (d1 ≤ 9223372036854775806) := Lib.hid (by have := hpu.sz; omega)
 have HRB : Hid (∀ b, (w2.heap.size ≤ b ∧ b < w3.heap.size) → b ≠ w3.heap.size) := Lib.hid (fun b hb => Nat.ne_of_lt hb.2)
 clear hdl hs4
 clear FL hlq hlx hll hpu hd3 hb3 hal HB3 HB2 HB1
 generalize w3.alloc (.cells #[.slice d0 d1 d2, .int .i64 l.2.1, .slice v0 v1 v2, .slice x0 x1 x2] 51) = w4 at *
 generalize w3.heap.size = R at *
 have hpR : p < R := HPR.out
 have N9 := Lib.hid (one_any p 9 w4 (by omega) (by omega) HD4.out)
 go_upto_if 37 with (go_at_call 34; refine N9.out.mono ?_; rintro en w5 ⟨b, rfl, hd5, hb5⟩)
 have HX5 := Lib.hid (but_heap hb5 hpR HX.out)
 have HLX5 := Lib.hid (HLX.out.same (SameB.of_but hb5 (fun b hb => by omega)))
 have HB5 := Lib.hid (But.below HB4.out hb5 hpw HB4.out.size)
 clear N9 hd5 hb5 HD4 HX HLX HLL HPU HB4
 go_cut [10] (fun s10 wx => ∃ l2 : Lg, s10 = .int .i64 m ∧ Hid (wx.heap[R]? = some (.cells #[.slice d0 d1 d2, .int .i64 l2.2.1, .slice v0 v1 v2, .slice x0 x1 x2] 51 (0, 0))) ∧ Hid (LogP wx (logV (d0, d1, d2) l2.2.1 (v0, v1, v2) (x0, x1, x2)) l2) ∧ Hid (Below w.heap.size w wx))
 case first =>
  cases b with
  | false =>
   go_wp2_with fail
   go_meet
   exact ⟨l, rfl, HX5, Lib.hid HLX5.out.logP, HB5⟩
  | true =>
   obtain ⟨⟨c0, c1, c2, c3⟩, q0, q1, q2, q3⟩ := box4_cells HX5.out
   have hd1 : d1 ≤ 9223372036854775806 := HD1.out
   have HX6 := Lib.hid (heap_setCell_same _ R 1 _ _ (.int .i64 ((d1 : Int) + 1)) HX5.out)
   have HLX6 := Lib.hid ((HLX5.out.same (w' := w5.setCell ⟨R, 1, none⟩ (.int .i64 ((d1 : Int) + 1))) (fun b hb _ => heap_setCell_other _ _ _ _ (HRB.out b hb))).sync (syn := (d1 : Int) + 1))
   have HB6 := Lib.hid (HB5.out.setCell (p := ⟨R, 1, none⟩) (Nat.le_trans hpw (Nat.le_of_lt hpR)) (.int .i64 ((d1 : Int) + 1)))
   go_wp2_with fail
   go_meet
   exact ⟨(l.1, (d1 : Int) + 1, l.2.2.1, l.2.2.2), rfl, HX6, Lib.hid HLX6.out.logP, HB6⟩
 case rest =>
  obtain ⟨l2, rfl, HXc, HPc, HBc⟩ := hcut
  go_upto_region 9 with fail
  obtain ⟨k1, hk1⟩ : ∃ k1, bits .and .i64 kp 1023 = k1 := ⟨_, rfl⟩
  obtain ⟨a1, ha1⟩ : ∃ a1, bits .and .i64 at_ 511 = a1 := ⟨_, rfl⟩
  have hkb := and_b kp 1023
  have hab := and_b at_ 511
  rw [hk1] at hkb ⊢
  rw [ha1] at hab ⊢
  clear hk1 ha1
  have HG := Lib.hid (BX.mk0 (vs := #[.int .i64 kp, .int .i64 at_, .int .i64 fl, .int .i64 k1, .int .i64 a1, .int .i64 fl, .int .i64 1099511627776, .int .i64 a1, .int .i64 0]) (T := 85) wc)
  have HX6 := Lib.hid ((HG.out.bl.block R (lt_of_heap HXc.out)).trans HXc.out)
  have HP6 := Lib.hid (HPc.out.below HG.out.bl)
  have HB6 := Lib.hid (HBc.out.trans (HG.out.bl.mono HBc.out.size))
  generalize wc.alloc (.cells #[.int .i64 kp, .int .i64 at_, .int .i64 fl, .int .i64 k1, .int .i64 a1, .int .i64 fl, .int .i64 1099511627776, .int .i64 a1, .int .i64 0] 85) = w6 at *
  generalize wc.heap.size = G at *
  have HS : Hid (∀ i, i < 3 → ∃ ke ae fe : Int, (-9223372036854775808 ≤ ke ∧ ke ≤ 9223372036854775807) ∧ (-9223372036854775808 ≤ ae ∧ ae ≤ 9223372036854775807) ∧ (-9223372036854775808 ≤ fe ∧ fe ≤ 9223372036854775807) ∧ w6.cell? ⟨G, i * 3, none⟩ = some (.int .i64 ke) ∧ w6.cell? ⟨G, i * 3 + 1, none⟩ = some (.int .i64 ae) ∧ w6.cell? ⟨G, i * 3 + 2, none⟩ = some (.int .i64 fe)) := Lib.hid (fun i hi => by
   match i, hi with
   | 0, _ => exact ⟨kp, at_, fl, hk, hat, hf, HG.out.cell 0, HG.out.cell 1, HG.out.cell 2⟩
   | 1, _ => exact ⟨k1, a1, fl, hkb, hab, hf, HG.out.cell 3, HG.out.cell 4, HG.out.cell 5⟩
   | 2, _ => exact ⟨1099511627776, a1, 0, by omega, hab, by omega, HG.out.cell 6, HG.out.cell 7, HG.out.cell 8⟩)
  clear HG HXc HPc HBc hkb hab
  go_loopw [60] (fun s60 wr => ∃ i : Nat, i ≤ 3 ∧ s60 = .int .i64 i ∧ Hid (Below w6.heap.size w6 wr)) (fun s60 _ => 3 - (intOf s60).toNat)
  case atStart => exact ⟨0, by omega, rfl, Lib.hid (Below.refl _ _)⟩
  case round =>
   obtain ⟨i, hi, rfl, HB⟩ := hrel
   have HBW := Lib.hid (HB6.out.trans (HB.out.mono HB6.out.size))
   by_cases hlt : i < 3
   ·
    obtain ⟨ke, ae, fe, hke, hae, hfe, e0, e1, e2⟩ := HS.out i hlt
    have f0 := (HB.out.cell (lt_of_cell e0)).trans e0
    have f1 := (HB.out.cell (lt_of_cell e1)).trans e1
    have f2 := (HB.out.cell (lt_of_cell e2)).trans e2
    have hii : (i : Int) < 3 := by omega
    have HT := Lib.hid (BX.mk0 (vs := #[.int .i64 ke, .int .i64 ae, .int .i64 fe]) (T := 85) wr)
    clear e0 e1 e2
    go_upto_region 11 with fail
    clear f0 f1 f2
    have HB7 := Lib.hid (below3 HB.out HT.out.bl)
    generalize wr.alloc (.cells #[.int .i64 ke, .int .i64 ae, .int .i64 fe] 85) = w7 at *
    generalize wr.heap.size = Q at *
    have HBW7 := Lib.hid (HB6.out.trans (HB7.out.mono HB6.out.size))
    have HX7 := Lib.hid ((HB7.out.block R (lt_of_heap HX6.out)).trans HX6.out)
    have HP7 := Lib.hid (HP6.out.below HB7.out)
    have C1 := Lib.hid (crash_of vldP opnP (logV (d0, d1, d2) l2.2.1 (v0, v1, v2) (x0, x1, x2)) l2 m ke ae fe w7 HP7.out (HE.out.below HBW7.out) hke hae hfe)
    have C2 := Lib.hid (fun W (h : Below w7.heap.size w7 W) => rcrash_any (logV (d0, d1, d2) l2.2.1 (v0, v1, v2) (x0, x1, x2)) l2 m ke ae fe W (HP7.out.below h).logR hke hae hfe)
    obtain ⟨⟨e0, r0, n0⟩, hr0⟩ : ∃ r, crsS m ke ae fe l2 = r := ⟨_, rfl⟩
    rw [hr0] at C1 C2
    clear hr0
    obtain ⟨⟨c0, c1, c2, c3⟩, _⟩ := box4_cells HX7.out
    obtain ⟨⟨t0, t1, t2⟩, _⟩ := HT.out.three
    go_upto_region 12 with (go_at_call 44; refine C1.out.mono ?_; rintro en w8 ⟨_, rfl, ⟨⟨d0', d1', d2'⟩, ⟨v0', v1', v2'⟩, ⟨x0', x1', x2'⟩, rfl, hlo⟩, hb8⟩; rw [show logV (d0', d1', d2') (e0, r0, n0).2.1.2.1 (v0', v1', v2') (x0', x1', x2') = .agg #[.slice d0' d1' d2', .int .i64 r0.2.1, .slice v0' v1' v2', .slice x0' x1' x2'] from rfl])
    have hla : LogR w8 (.agg #[.slice d0' d1' d2', .int .i64 r0.2.1, .slice v0' v1' v2', .slice x0' x1' x2']) r0 := LogO.logR (B := w7.heap.size) ⟨(d0', d1', d2'), (v0', v1', v2'), (x0', x1', x2'), rfl, hlo⟩
    have hal : Below w8.heap.size w8 (w8.alloc (.cells #[.slice d0' d1' d2', .int .i64 r0.2.1, .slice v0' v1' v2', .slice x0' x1' x2'] 55)) := (Below.refl _ _).alloc (Nat.le_refl _) _
    have HQ1 : Hid ((w8.alloc (.cells #[.slice d0' d1' d2', .int .i64 r0.2.1, .slice v0' v1' v2', .slice x0' x1' x2'] 55)).heap[w8.heap.size]? = some (.cells #[.slice d0' d1' d2', .int .i64 r0.2.1, .slice v0' v1' v2', .slice x0' x1' x2'] 55 (0, 0))) := Lib.hid (heap_alloc_new _ _)
    have HLA := Lib.hid (hla.below hal)
    have HB78 := Lib.hid (below3 hb8 hal)
    clear hla hlo hb8 hal c0 c1 c2 c3 t0 t1 t2 C1
    generalize w8.alloc (.cells #[.slice d0' d1' d2', .int .i64 r0.2.1, .slice v0' v1' v2', .slice x0' x1' x2'] 55) = w9 at *
    generalize w8.heap.size = Q1 at *
    have HX9 := Lib.hid ((HB78.out.block R (lt_of_heap HX7.out)).trans HX7.out)
    have HT9 := Lib.hid (HT.out.next HB78.out)
    obtain ⟨⟨c0, c1, c2, c3⟩, _⟩ := box4_cells HX9.out
    obtain ⟨⟨t0, t1, t2⟩, _⟩ := HT9.out.three
    go_upto_region 13 with (go_at_call 45; refine (C2.out _ HB78.out).mono ?_; rintro en w10 ⟨_, rfl, ⟨⟨e0', e1', e2'⟩, ⟨f0', f1', f2'⟩, ⟨y0', y1', y2'⟩, rfl, hlo⟩, hb10⟩; rw [show logV (e0', e1', e2') (e0, r0, n0).2.1.2.1 (f0', f1', f2') (y0', y1', y2') = .agg #[.slice e0' e1' e2', .int .i64 r0.2.1, .slice f0' f1' f2', .slice y0' y1' y2'] from rfl])
    have hlb : LogR w10 (.agg #[.slice e0' e1' e2', .int .i64 r0.2.1, .slice f0' f1' f2', .slice y0' y1' y2']) r0 := LogO.logR (B := w9.heap.size) ⟨(e0', e1', e2'), (f0', f1', f2'), (y0', y1', y2'), rfl, hlo⟩
    have hal : Below w10.heap.size w10 (w10.alloc (.cells #[.slice e0' e1' e2', .int .i64 r0.2.1, .slice f0' f1' f2', .slice y0' y1' y2'] 51)) := (Below.refl _ _).alloc (Nat.le_refl _) _
    have HQ2 : Hid ((w10.alloc (.cells #[.slice e0' e1' e2', .int .i64 r0.2.1, .slice f0' f1' f2', .slice y0' y1' y2'] 51)).heap[w10.heap.size]? = some (.cells #[.slice e0' e1' e2', .int .i64 r0.2.1, .slice f0' f1' f2', .slice y0' y1' y2'] 51 (0, 0))) := Lib.hid (heap_alloc_new _ _)
    have HLB := Lib.hid (hlb.below hal)
    have hb911 := below3 hb10 hal
    have HQ1 := Lib.hid ((hb911.block Q1 (lt_of_heap HQ1.out)).trans HQ1.out)
    have HLA := Lib.hid (HLA.out.below hb911)
    have HB11 := Lib.hid (below3 HB7.out (below3 HB78.out hb911))
    clear hlb hlo hb10 hal c0 c1 c2 c3 t0 t1 t2 C2 hb911 HX9 HT9 HB78
    generalize w10.alloc (.cells #[.slice e0' e1' e2', .int .i64 r0.2.1, .slice f0' f1' f2', .slice y0' y1' y2'] 51) = w11 at *
    generalize w10.heap.size = Q2 at *
    refine wp_region_relG (N := 107) (cmpV n0 e0 (.agg #[.slice d0' d1' d2', .int .i64 r0.2.1, .slice v0' v1' v2', .slice x0' x1' x2']) (.agg #[.slice e0' e1' e2', .int .i64 r0.2.1, .slice f0' f1' f2', .slice y0' y1' y2'])) (fun _ W => Below w11.heap.size w11 W) (by kernel_rfl) (by kernel_rfl) (by rfl) (bel_drew0 _) (fun i o g b ho hg LL v W hV => by
     match i, ho with
     | 0, ho => obtain rfl := so ho; cases hg
     | 1, ho => obtain rfl := so ho; cases hg
     | 2, ho => obtain rfl := so ho; cases hg
     | 3, ho => obtain rfl := so ho; cases hg
     | 4, ho => obtain rfl := so ho; cases hg; exact hV
     | 5, ho => obtain rfl := so ho; cases hg; exact hV
     | 6, ho => obtain rfl := so ho; cases hg; exact hV
     | 7, ho => obtain rfl := so ho; cases hg
     | 8, ho => obtain rfl := so ho; cases hg
     | 9, ho => obtain rfl := so ho; cases hg; exact hV
     | 10, ho => obtain rfl := so ho; cases hg; exact hV
     | 11, ho => obtain rfl := so ho; cases hg; exact hV
     | 12, ho => obtain rfl := so ho; cases hg; exact hV
     | 13, ho => obtain rfl := so ho; cases hg; exact hV
     | 14, ho => obtain rfl := so ho; cases hg
     | k + 15, ho => simp at ho
     ) ?_ ?_
    ·
     intro i o L a' W ho hl hL hS hdf dep all fr dwn
     match i, ho with
     | 0, ho =>
      obtain rfl := so ho
      have f8 := fr 16 (by kernel_rfl)
      unfold Oper.wp
      simp [go_sem, f8]
      exact ⟨_, rfl, rfl, hS, fun _ _ _ _ _ _ _ => id⟩
     | 1, ho =>
      obtain rfl := so ho
      have f8 := fr 19 (by kernel_rfl)
      unfold Oper.wp
      simp [go_sem, f8]
      exact ⟨_, rfl, rfl, hS, fun _ _ _ _ _ _ _ => id⟩
     | 2, ho =>
      obtain rfl := so ho
      have d0 := dw (dep 0 _ rfl (by kernel_rfl)) rfl
      have d1 := dw (dep 1 _ rfl (by kernel_rfl)) rfl
      unfold Oper.wp
      simp [go_sem, d0, d1]
      exact ⟨_, rfl, rfl, hS, fun _ _ _ _ _ _ _ => id⟩
     | 3, ho =>
      obtain rfl := so ho
      have d2 := dw (dep 2 _ rfl (by kernel_rfl)) rfl
      unfold Oper.wp
      simp [go_sem, d2]
      exact ⟨_, rfl, rfl, hS, fun _ _ _ _ _ _ _ => id⟩
     | 4, ho =>
      obtain rfl := so ho
      have f8 := fr 17 (by kernel_rfl)
      unfold Oper.wp
      simp [go_sem, f8]
      exact ⟨_, rfl, rfl, hS, fun _ _ _ _ _ _ _ => id⟩
     | 5, ho =>
      obtain rfl := so ho
      have f8 := fr 20 (by kernel_rfl)
      unfold Oper.wp
      simp [go_sem, f8]
      exact ⟨_, rfl, rfl, hS, fun _ _ _ _ _ _ _ => id⟩
     | 6, ho =>
      obtain rfl := so ho
      have d4 := dw (dep 4 _ rfl (by kernel_rfl)) rfl
      have d5 := dw (dep 5 _ rfl (by kernel_rfl)) rfl
      unfold Oper.wp
      simp [go_sem, d4, d5]
      exact ⟨_, rfl, rfl, hS, fun _ _ _ _ _ _ _ => id⟩
     | 7, ho =>
      obtain rfl := so ho
      have d3 := dw (dep 3 _ rfl (by kernel_rfl)) rfl
      have d6 := dw (dep 6 _ rfl (by kernel_rfl)) rfl
      unfold Oper.wp
      simp [go_sem, d3, d6]
      exact ⟨_, rfl, rfl, hS, fun _ _ _ _ _ _ _ => id⟩
     | 8, ho =>
      obtain rfl := so ho
      have d7 := dw (dep 7 _ rfl (by kernel_rfl)) rfl
      unfold Oper.wp
      simp [go_sem, d7]
      exact ⟨_, rfl, rfl, hS, fun _ _ _ _ _ _ _ => id⟩
     | 9, ho =>
      obtain rfl := so ho
      have f8 := fr 15 (by kernel_rfl)
      obtain ⟨⟨c0, c1, c2, c3⟩, _⟩ := box4_cells ((hS.block Q1 (lt_of_heap HQ1.out)).trans HQ1.out)
      unfold Oper.wp
      simp [go_sem, f8, c0, c1, c2, c3]
      exact ⟨_, rfl, rfl, hS, fun _ _ _ _ _ _ _ => id⟩
     | 10, ho =>
      obtain rfl := so ho
      have d9 := dw (dep 9 _ rfl (by kernel_rfl)) rfl
      refine wp_call1 (args := #[.agg #[.slice d0' d1' d2', .int .i64 r0.2.1, .slice v0' v1' v2', .slice x0' x1' x2']]) rfl (by simp [Act.eval, d9]) (ciTold _ _) (told_any d0' d1' d2' r0.2.1 v0' v1' v2' x0' x1' x2' W) ?_
      rintro e w' ⟨rfl, hb⟩
      exact ⟨_, rfl, rfl, below3 hS hb, fun _ _ _ _ _ _ _ => id⟩
     | 11, ho =>
      obtain rfl := so ho
      have f8 := fr 18 (by kernel_rfl)
      obtain ⟨⟨c0, c1, c2, c3⟩, _⟩ := box4_cells ((hS.block Q2 (lt_of_heap HQ2.out)).trans HQ2.out)
      unfold Oper.wp
      simp [go_sem, f8, c0, c1, c2, c3]
      exact ⟨_, rfl, rfl, hS, fun _ _ _ _ _ _ _ => id⟩
     | 12, ho =>
      obtain rfl := so ho
      have d10 := dw (dep 10 _ rfl (by kernel_rfl)) rfl
      have d11 := dw (dep 11 _ rfl (by kernel_rfl)) rfl
      refine wp_call1 (args := #[.agg #[.slice d0' d1' d2', .int .i64 r0.2.1, .slice v0' v1' v2', .slice x0' x1' x2'], .agg #[.slice e0' e1' e2', .int .i64 r0.2.1, .slice f0' f1' f2', .slice y0' y1' y2']]) rfl (by simp [Act.eval, d10, d11]) (ciSame _ _) (rsame_log _ _ r0 r0 W (HLA.out.below hS) (HLB.out.below hS)) ?_
      rintro e w' ⟨rfl, hb⟩
      rw [sameL_refl]
      exact ⟨_, rfl, rfl, below3 hS hb, fun _ _ _ _ _ _ _ => id⟩
     | 13, ho =>
      obtain rfl := so ho
      have d12 := dw (dep 12 _ rfl (by kernel_rfl)) rfl
      unfold Oper.wp
      simp [go_sem, d12]
      exact ⟨_, rfl, rfl, hS, fun _ _ _ _ _ _ _ => id⟩
     | 14, ho =>
      obtain rfl := so ho
      have d8 := dw (dep 8 _ rfl (by kernel_rfl)) rfl
      have d13 := dw (dep 13 _ rfl (by kernel_rfl)) rfl
      unfold Oper.wp
      simp [go_sem, d8, d13]
      exact ⟨_, rfl, rfl, hS, fun _ _ _ _ _ _ _ => id⟩
    ·
     intro us W hS hV
     have h14 : us 14 = .bool false := hV 14 _ rfl
     have HS2 := Lib.hid hS
     clear hV hS
     simp only [putAll, Act.put, List.setIfInBounds_toArray, List.set_cons_zero, List.set_cons_succ, Nat.zero_add, Nat.reduceAdd]
     rw [h14]
     clear h14
     generalize us 0 = z0 at *
     generalize us 1 = z1 at *
     generalize us 2 = z2 at *
     generalize us 3 = z3 at *
     generalize us 4 = z4 at *
     generalize us 5 = z5 at *
     generalize us 6 = z6 at *
     generalize us 7 = z7 at *
     generalize us 8 = z8 at *
     generalize us 9 = z9 at *
     generalize us 10 = z10 at *
     generalize us 11 = z11 at *
     generalize us 12 = z12 at *
     generalize us 13 = z13 at *
     have HB12 := Lib.hid (below3 HB11.out HS2.out)
     clear HS2
     go_wp2_with fail
     go_roundw
     case rel => exact ⟨i + 1, by omega, by go_num, HB12⟩
     case measure => simp [intOf]; omega
   ·
    have hni : ¬ (i : Int) < 3 := by omega
    go_wp2_with (go_at_call 13; refine (AW.out _ HBW.out).mono ?_; rintro e w' ⟨rfl, hb⟩)
    go_ret
    exact ⟨rfl, HBW.out.trans (hb.mono HBW.out.size)⟩
end Go.Proofs.YtihbpggbpapcfaaGreatDoor
