/- The log that any bytes begin with. -/
import Derived.Laws.BytesArg
import Derived.Lib.SlBytesConst
import Derived.Test.YtihbpggbpapcfaaGreatDoorX02
import Derived.Test.YtihbpggbpapcfaaGreatDoorY03
namespace Go.Proofs.YtihbpggbpapcfaaGreatDoor
open Go.RowKit

set_option maxRecDepth 100000 in
set_option maxHeartbeats 4000000 in
theorem rsame_log (va vb : Value) (la lb : Lg) (w : World) (ha : LogR w va la) (hb : LogR w vb lb) : Calls Tryz.prog 28 #[va, vb] w (RetB (.bool (sameL la lb)) w) := by
 obtain ⟨⟨da, dn, dc⟩, ⟨va, vn, vc⟩, ⟨sa, sn, sc⟩, rfl, hd, hv, hs⟩ := ha
 obtain ⟨⟨da', dn', dc'⟩, ⟨va', vn', vc'⟩, ⟨sa', sn', sc'⟩, rfl, hd', hv', hs'⟩ := hb
 obtain ⟨l1, l2, l3, l4⟩ := la
 obtain ⟨m1, m2, m3, m4⟩ := lb
 simp only at hd hv hs hd' hv' hs'
 have HF : Hid (sameL (l1, l2, l3, l4) (m1, m2, m3, m4) = ((l1 == m1) && (l2 == m2) && decide (l3 = m3) && decide (l4 = m4))) := Lib.hid rfl
 have HA := Lib.hid (BX.mk0 (vs := #[.slice da dn dc, .int .i64 l2, .slice va vn vc, .slice sa sn sc]) (T := 51) w)
 have CD := Lib.hid (fun W (h : Below w.heap.size w W) => conv_str (c := dc) (hd.2.below h))
 have CD' := Lib.hid (fun W (h : Below w.heap.size w W) => conv_str (c := dc') (hd'.2.below h))
 have S3 := Lib.hid (fun W (h : Below w.heap.size w W) => rsameV_any va vn vc va' vn' vc' l3 m3 W (hv.2.below h) (hv'.2.below h))
 have S4 := Lib.hid (fun W (h : Below w.heap.size w W) => rsameq_any sa sn sc sa' sn' sc' l4 m4 W (hs.2.below h) (hs'.2.below h))
 clear hd hv hs hd' hv' hs'
 show Calls _ _ #[.agg #[.slice da dn dc, .int .i64 l2, .slice va vn vc, .slice sa sn sc], .agg #[.slice da' dn' dc', .int .i64 m2, .slice va' vn' vc', .slice sa' sn' sc']] w _
 go_enter Tryz.func28, Tryz.ntmps28
 go_upto_region 1 with fail
 have hsa : (w.alloc (.cells #[.slice da dn dc, .int .i64 l2, .slice va vn vc, .slice sa sn sc] 51)).heap.size = w.heap.size + 1 := by simp
 generalize w.alloc (.cells #[.slice da dn dc, .int .i64 l2, .slice va vn vc, .slice sa sn sc] 51) = wa at *
 obtain ⟨R, hR⟩ : ∃ R, R = w.heap.size := ⟨_, rfl⟩
 rw [← hR] at HA hsa ⊢
 clear hR
 have HB := Lib.hid (BX.mk0 (vs := #[.slice da' dn' dc', .int .i64 m2, .slice va' vn' vc', .slice sa' sn' sc']) (T := 51) wa)
 rw [hsa] at HB
 clear hsa
 generalize wa.alloc (.cells #[.slice da' dn' dc', .int .i64 m2, .slice va' vn' vc', .slice sa' sn' sc'] 51) = wb at *
 obtain ⟨R2, hR2⟩ : ∃ R2, R2 = R + 1 := ⟨_, rfl⟩
 rw [← hR2] at HB ⊢
 clear hR2
 have HA2 := Lib.hid (HA.out.next HB.out.bl)
 have HW := Lib.hid HA2.out.bl
 have CV := CD.out wb HW.out
 have CV' := CD'.out wb HW.out
 obtain ⟨⟨g0, g1, g2, g3⟩, _⟩ := HA2.out.four
 obtain ⟨⟨k0, k1, k2, k3⟩, _⟩ := HB.out.four
 cases h1 : (l1 == m1)
 ·
  have HF2 : Hid (sameL (l1, l2, l3, l4) (m1, m2, m3, m4) = false) := Lib.hid (by rw [HF.out, h1]; rfl)
  have p1 : ((arr l1).toList == (arr m1).toList) = false := by rw [arr_toList, arr_toList]; exact h1
  have p2 : ¬ (arr l1).toList = (arr m1).toList := by rw [beq_eq_false_iff_ne] at p1; exact p1
  clear h1
  go_wp2_with fail
  go_ret
  exact ⟨ret_bool (by rw [HF2.out]), HW.out⟩
 have p1 : ((arr l1).toList == (arr m1).toList) = true := by rw [arr_toList, arr_toList]; exact h1
 have p2 : (arr l1).toList = (arr m1).toList := by rw [beq_iff_eq] at p1; exact p1
 have HF1 : Hid (sameL (l1, l2, l3, l4) (m1, m2, m3, m4) = ((l2 == m2) && decide (l3 = m3) && decide (l4 = m4))) := Lib.hid (by rw [HF.out, h1]; rfl)
 clear h1 HF
 cases h2 : (l2 == m2)
 ·
  have HF2 : Hid (sameL (l1, l2, l3, l4) (m1, m2, m3, m4) = false) := Lib.hid (by rw [HF1.out, h2]; rfl)
  go_wp2_with fail
  go_ret
  exact ⟨ret_bool (by rw [HF2.out]), HW.out⟩
 have HF2 : Hid (sameL (l1, l2, l3, l4) (m1, m2, m3, m4) = (decide (l3 = m3) && decide (l4 = m4))) := Lib.hid (by rw [HF1.out, h2]; rfl)
 clear HF1
 generalize sameL (l1, l2, l3, l4) (m1, m2, m3, m4) = r at *
 generalize decide (l3 = m3) = d3 at *
 generalize decide (l4 = m4) = d4 at *
 go_wp2_with fail
 refine (S3.out _ HW.out).mono ?_
 rintro en w2 ⟨rfl, hq2⟩
 have hb2 := drew_bel hq2
 have HA3 := Lib.hid (HA2.out.next hb2)
 have HB3 := Lib.hid (HB.out.next hb2)
 have HW2 := Lib.hid HA3.out.bl
 clear g0 g1 g2 g3 k0 k1 k2 k3 CV CV' hb2 hq2
 obtain ⟨⟨g0, g1, g2, g3⟩, _⟩ := HA3.out.four
 obtain ⟨⟨k0, k1, k2, k3⟩, _⟩ := HB3.out.four
 cases d3
 ·
  go_wp2_with fail
  go_ret
  exact ⟨ret_bool (by rw [HF2.out]; rfl), HW2.out⟩
 go_wp2_with fail
 refine (S4.out _ HW2.out).mono ?_
 rintro en w3 ⟨rfl, hq3⟩
 have HW3 := Lib.hid (below3 HW2.out (drew_bel hq3))
 clear hq3
 go_wp2_with fail
 go_ret
 exact ⟨ret_bool (by rw [HF2.out]; rfl), HW3.out⟩
end Go.Proofs.YtihbpggbpapcfaaGreatDoor

namespace Go.Proofs.YtihbpggbpapcfaaGreatDoor
open Go.RowKit

theorem told_any (a : Option Addr) (n c : Nat) (x : Int) (b : Option Addr) (n2 c2 : Nat) (d : Option Addr) (n3 c3 : Nat) (w : World) : Calls Tryz.prog 29 #[.agg #[.slice a n c, .int .i64 x, .slice b n2 c2, .slice d n3 c3]] w (RetB (.agg #[.slice a n c, .int .i64 x, .slice b n2 c2, .slice d n3 c3]) w) := by
 go_enter Tryz.func29, Tryz.ntmps29
 have HA := Lib.hid (BX.mk0 (vs := #[.slice a n c, .int .i64 x, .slice b n2 c2, .slice d n3 c3]) (T := 55) w)
 go_upto_region 1 with fail
 have hsa : (w.alloc (.cells #[.slice a n c, .int .i64 x, .slice b n2 c2, .slice d n3 c3] 55)).heap.size = w.heap.size + 1 := by simp
 generalize w.alloc (.cells #[.slice a n c, .int .i64 x, .slice b n2 c2, .slice d n3 c3] 55) = wa at *
 obtain ⟨R, hR⟩ : ∃ R, R = w.heap.size := ⟨_, rfl⟩
 rw [← hR] at HA hsa ⊢
 clear hR
 have HB := Lib.hid (BX.mk0 (vs := #[.slice none 0 0, .int .i64 0, .slice none 0 0, .slice none 0 0]) (T := 51) wa)
 rw [hsa] at HB
 clear hsa
 generalize wa.alloc (.cells #[.slice none 0 0, .int .i64 0, .slice none 0 0, .slice none 0 0] 51) = wb at *
 obtain ⟨R2, hR2⟩ : ∃ R2, R2 = R + 1 := ⟨_, rfl⟩
 rw [← hR2] at HB ⊢
 have hle : R ≤ R2 := by omega
 clear hR2
 have HA := Lib.hid (HA.out.next HB.out.bl)
 have HB : Hid (BX w wb R2 _ _) := Lib.hid ⟨HB.out.hp, Nat.le_trans HA.out.lo hle, HA.out.bl⟩
 obtain ⟨⟨g0, g1, g2, g3⟩, _⟩ := HA.out.four
 obtain ⟨⟨rc0, rc1, rc2, rc3⟩, rf0, rf1, rf2, rf3⟩ := HB.out.four
 have HR9 := Lib.hid (HB.out.set4 (.slice a n c) (.int .i64 x) (.slice b n2 c2) (.slice d n3 c3))
 go_wp2_with fail
 generalize (((World.setCell wb ⟨R2, 0, none⟩ (.slice a n c)).setCell ⟨R2, 1, none⟩ (.int .i64 x)).setCell ⟨R2, 2, none⟩ (.slice b n2 c2)).setCell ⟨R2, 3, none⟩ (.slice d n3 c3) = W9 at *
 clear rc0 rc1 rc2 rc3 rf0 rf1 rf2 rf3
 obtain ⟨⟨rc0, rc1, rc2, rc3⟩, _⟩ := HR9.out.four
 refine bodyPost_ret (v := .agg #[.slice a n c, .int .i64 x, .slice b n2 c2, .slice d n3 c3]) (by simp [results, Tryz.results29, go_sem, rc0, rc1, rc2, rc3]) rfl ?_
 exact ⟨rfl, HR9.out.bl⟩
end Go.Proofs.YtihbpggbpapcfaaGreatDoor

namespace Go.Proofs.YtihbpggbpapcfaaGreatDoor
open Go.RowKit

theorem LLX.ll {φ : Nat → Prop} {w : World} {s : Sl} {ls : List (List Ses)} (h : LLX φ w s ls) : LLAt w s.1 s.2.1 ls := by
 obtain ⟨_, _, rs, h1, h2⟩ := h
 exact ⟨rs, h1, h2.imp fun _ _ hr => hr.1⟩
theorem LLX.below {φ : Nat → Prop} {w w' : World} {s : Sl} {ls : List (List Ses)} (h : LLX φ w s ls) (hb : Below w.heap.size w w') : LLX φ w' s ls := by
 obtain ⟨h1, h2, rs, h3, h4⟩ := h
 exact ⟨h1, h2, rs, KAt.same h3 h2 (SameB.of_below (φ := φ) hb), h4.imp fun _ _ hr => hr.below hb⟩
theorem LLX.len {φ : Nat → Prop} {w : World} {s : Sl} {ls : List (List Ses)} (h : LLX φ w s ls) : s.2.1 = ls.length := by
 obtain ⟨_, _, rs, h3, h4⟩ := h
 rw [← h4.1]
 exact h3.1.symm
theorem sameL_refl (l : Lg) : sameL l l = true := (sameL_iff l l).2 rfl
theorem ciTold (args : Array Value) (w : World) : (callFunc 29 args).run Tryz.prog w = .ok (.enter 29 args) w := by
 kernel_rfl
theorem ciSame (args : Array Value) (w : World) : (callFunc 28 args).run Tryz.prog w = .ok (.enter 28 args) w := by
 kernel_rfl
theorem ciMod (args : Array Value) (w : World) : (callFunc 22 args).run Tryz.prog w = .ok (.enter 22 args) w := by
 kernel_rfl
theorem ciVld (args : Array Value) (w : World) : (callFunc 30 args).run Tryz.prog w = .ok (.enter 30 args) w := by
 kernel_rfl
theorem ciRVld (args : Array Value) (w : World) : (callFunc 31 args).run Tryz.prog w = .ok (.enter 31 args) w := by
 kernel_rfl
def cutV (R : Nat) (d : Sl) (cut kk : Int) (_L : Array Bool) (j : Nat) (u : Value) (_W : World) : Prop := match j with
 | 0 | 1 | 4 | 5 => u = .pointer (some ⟨R, 0, none⟩)
 | 2 | 6 => u = .slice d.1 d.2.1 d.2.2
 | 3 => u = .int .i64 cut
 | 7 => u = .int .i64 d.2.1
 | 8 => u = .int .i64 ((d.2.1 : Int) + 1)
 | 9 => u = .int .i64 kk
 | 10 | 11 => u = .slice d.1 kk.toNat d.2.2
 | _ => R = R
def fouV (R M : Nat) (w4 : World) (r d : Sl) (kk : Nat) (bs rl : L8) (L : Array Bool) (j : Nat) (u : Value) (W : World) : Prop := match j with
 | 0 | 10 => u = .slice r.1 r.2.1 r.2.2
 | 1 | 2 | 6 | 7 => u = .pointer (some ⟨R, 0, none⟩)
 | 3 | 8 => u = .slice d.1 d.2.1 d.2.2
 | 4 => u = .slice d.1 kk d.2.2
 | 5 => ∃ s : Sl, u = .slice s.1 s.2.1 s.2.2 ∧ (¬ L[9]? = some true → KRow bytC 1 5 W M (slV s) [])
 | 9 => ∃ s : Sl, u = .slice s.1 s.2.1 s.2.2 ∧ (¬ L[11]? = some true → KRow bytC 1 5 W M (slV s) bs)
 | 11 => ∃ s : Sl, u = .slice s.1 s.2.1 s.2.2 ∧ KRow bytC 1 5 W M (slV s) (bs ++ rl)
 | 12 => ∃ (g : Nat) (s : Sl), u = .slice (some ⟨g, 0, none⟩) 4 4 ∧ BX w4 W g #[.slice r.1 r.2.1 r.2.2, .slice d.1 d.2.1 d.2.2, .slice d.1 kk d.2.2, .slice s.1 s.2.1 s.2.2] 26 ∧ KRow bytC 1 5 W M (slV s) (bs ++ rl)
 | 13 => u = .int .i64 4
 | 14 => u = .int .i64 0
 | _ => R = R
section
variable {R M : Nat} {w4 : World} {r d : Sl} {kk : Nat} {bs rl : L8} {L : Array Bool} {i j : Nat} {u : Value} {W W' : World}
theorem fouV_keep (hb : Below W.heap.size W W') (h : fouV R M w4 r d kk bs rl L j u W) : fouV R M w4 r d kk bs rl (L.setIfInBounds i true) j u W' := by
 unfold fouV at h ⊢
 split <;> simp only at h ⊢ <;> try exact h
 ·
  obtain ⟨s, h1, h2⟩ := h
  exact ⟨s, h1, fun hn => row_below (h2 (not_more hn)) hb⟩
 ·
  obtain ⟨s, h1, h2⟩ := h
  exact ⟨s, h1, fun hn => row_below (h2 (not_more hn)) hb⟩
 ·
  obtain ⟨s, h1, h2⟩ := h
  exact ⟨s, h1, row_below h2 hb⟩
 ·
  obtain ⟨g, s, h1, h2, h3⟩ := h
  exact ⟨g, s, h1, h2.next hb, row_below h3 hb⟩
theorem fouV_app (hi : L[i]? = some false) (hij : j ≠ i) (h59 : i = 9 ∨ i = 11) (h5 : i = 9 → j ≠ 9 ∧ j ≠ 11 ∧ j ≠ 12) (h9 : i = 11 → L[9]? = some true ∧ j ≠ 12) (h : fouV R M w4 r d kk bs rl L j u W) : fouV R M w4 r d kk bs rl (L.setIfInBounds i true) j u W' := by
 unfold fouV at h ⊢
 split <;> simp only at h ⊢ <;> try exact h
 ·
  obtain ⟨s, h1, h2⟩ := h
  rcases h59 with rfl | rfl
  ·
   exact ⟨s, h1, fun hn => absurd (listed_now hi) hn⟩
  ·
   exact ⟨s, h1, fun hn => absurd (listed_more (h9 rfl).1) hn⟩
 ·
  obtain ⟨s, h1, h2⟩ := h
  rcases h59 with rfl | rfl
  ·
   exact absurd rfl hij
  ·
   exact ⟨s, h1, fun hn => absurd (listed_now hi) hn⟩
 ·
  rcases h59 with rfl | rfl
  ·
   exact absurd rfl (h5 rfl).2.1
  ·
   exact absurd rfl hij
 ·
  rcases h59 with rfl | rfl
  ·
   exact absurd rfl (h5 rfl).2.2
  ·
   exact absurd rfl (h9 rfl).2
end
def opnV (n e k : Int) (q : Bool) (va vb : Value) (_L : Array Bool) (j : Nat) (v : Value) (_W : World) : Prop := match j with
 | 0 | 1 => v = .int .i64 n
 | 2 | 3 | 6 | 7 | 8 => v = .bool false
 | 4 | 5 => v = .int .i64 e
 | 9 | 10 | 16 => v = va
 | 11 | 19 => v = vb
 | 12 => v = .bool true
 | 13 | 14 | 15 | 22 | 23 => v = .bool false
 | 17 | 20 => v = .int .i64 k
 | 18 | 21 => v = .bool q
 | _ => va = va

set_option maxRecDepth 100000 in
set_option maxHeartbeats 16000000 in
theorem law_opens (ra : Option Addr) (rn rc : Nat) (rl : L8) (a : Option Addr) (n c : Nat) (L : List Int) (wks cut : Int) (w : World) (hR : BV w (ra, rn, rc) rl) (hRN : NilOk (ra, rn, rc)) (hI : IntsAt w a n L) (hL : ∀ x ∈ L, -9223372036854775808 ≤ x ∧ x ≤ 9223372036854775807) (hcut : -9223372036854775808 ≤ cut ∧ cut ≤ 9223372036854775807) (hE : Env w) :
  Calls Tryz.prog 6 #[.slice ra rn rc, .slice a n c, .int .i64 wks, .int .i64 cut] w (RetB (.bool true) w) := by
 have AW := Lib.hid (fun W (h : Below w.heap.size w W) => awake_any W (hE.below h))
 by_cases hg : n ≤ 400 ∧ rn ≤ 3000
 rotate_left
 ·
  have hcond : (!decide (n ≤ 400) || decide (3000 < rn)) = true := by
   simp only [Bool.or_eq_true, Bool.not_eq_true', decide_eq_true_eq, decide_eq_false_iff_not]
   omega
  clear hI hL hE hR hRN
  go_enter Tryz.func6, Tryz.ntmps6
  clear hcond
  go_wp2_with (first | (go_at_call 12; refine (light_any _ _ _ _).mono ?_; rintro e w' ⟨rfl, rfl⟩) | (go_at_call 13; refine (AW.out _ (Below.refl _ _)).mono ?_; rintro e w' ⟨rfl, hb⟩))
  all_goals first | (go_ret; exact ⟨rfl, hb⟩) | (exfalso; simp only [decide_eq_true_eq, decide_eq_false_iff_not, beq_iff_eq, Bool.not_eq_true, beq_eq_false_iff_ne] at *; omega)
 obtain ⟨hg, hrn⟩ := hg
 have hnd : decide (n ≤ 400) = true := by simpa using hg
 have HD0 := Lib.hid (DiceAt.mk0 c 104 hI hg hL)
 have HE := Lib.hid hE
 have HRN := Lib.hid hRN
 have HRW0 := Lib.hid hR
 have hrl : rl.length = rn := hR.2.1
 clear hR hRN
 clear hI hL hE
 go_enter Tryz.func6, Tryz.ntmps6
 go_upto_region 3 with (go_at_call 12; refine (light_any _ _ _ _).mono ?_; rintro e w' ⟨rfl, rfl⟩)
 have HB1 := Lib.hid ((Below.refl w.heap.size w).alloc (Nat.le_refl _) (.cells #[.slice a n c, .int .i64 0] 104))
 go_upto_region 4 with (go_at_call 15; refine (roll_any _ _ _ _).mono ?_; rintro e w' ⟨rfl, rfl⟩)
 generalize w.alloc (.cells #[.slice a n c, .int .i64 0] 104) = w1 at *
 obtain ⟨p, hp⟩ : ∃ p, p = w.heap.size := ⟨_, rfl⟩
 rw [← hp] at HD0 ⊢
 have hpw : w.heap.size ≤ p := Nat.le_of_eq hp.symm
 clear hp
 have N8 := Lib.hid (next_any p 8 w1 (by omega) (by omega) HD0.out)
 go_upto_region 5 with (go_at_call 24; refine N8.out.mono ?_; rintro en w2 ⟨r, r0, r8, rfl, hd2, hb2⟩)
 have HB2 := Lib.hid (But.below HB1.out hb2 hpw HB1.out.size)
 obtain ⟨m, hm⟩ : ∃ m : Nat, 1 + r = (m : Int) := ⟨(1 + r).toNat, by omega⟩
 have hm1 : 1 ≤ m := by omega
 have hm8 : m ≤ 8 := by omega
 rw [hm]
 have FL := Lib.hid (filled_any p m hm1 hm8 w2 hd2)
 have hp2 : p < w2.heap.size := hd2.lt
 clear N8 HD0 hd2 hb2 hm r0 r8
 go_upto_region 6 with (go_at_call 25; refine FL.out.mono ?_; rintro en w3 ⟨_, ⟨s0, s1, s2⟩, l, ss, rfl, ⟨⟨dA, dN, dC⟩, ⟨v0, v1, v2⟩, ⟨x0, x1, x2⟩, rfl, hlq⟩, hll, hpu, hs4, hd3, hb3⟩; rw [show (logV (dA, dN, dC) l.2.1 (v0, v1, v2) (x0, x1, x2)) = .agg #[.slice dA dN dC, .int .i64 l.2.1, .slice v0 v1 v2, .slice x0 x1 x2] from rfl])
 have hlx : LogX (fun b => w2.heap.size ≤ b ∧ b < w3.heap.size) w3 (logV (dA, dN, dC) l.2.1 (v0, v1, v2) (x0, x1, x2)) l := LogX.lt (φ := fun b => w2.heap.size ≤ b) ⟨_, _, _, rfl, hlq⟩
 have hal : Below w3.heap.size w3 (w3.alloc (.cells #[.slice dA dN dC, .int .i64 l.2.1, .slice v0 v1 v2, .slice x0 x1 x2] 51)) := (Below.refl _ _).alloc (Nat.le_refl _) _
 have HX : Hid ((w3.alloc (.cells #[.slice dA dN dC, .int .i64 l.2.1, .slice v0 v1 v2, .slice x0 x1 x2] 51)).heap[w3.heap.size]? = some (.cells #[.slice dA dN dC, .int .i64 l.2.1, .slice v0 v1 v2, .slice x0 x1 x2] 51 (0, 0))) := Lib.hid (heap_alloc_new _ _)
 have HLX := Lib.hid (hlx.below hal)
 have HLL := Lib.hid (hll.below hal)
 have HPU := Lib.hid hpu
 have HD4 := Lib.hid (hd3.below hal)
 have HB3 := Lib.hid (But.below HB2.out hb3 hpw HB2.out.size)
 have HB4 := Lib.hid (HB3.out.trans (hal.mono HB3.out.size))
 have HPR : Hid (p < w3.heap.size) := Lib.hid (Nat.lt_of_lt_of_le hp2 hb3.size)
 have hs1 : s1 = ss.length + 1 := hll.len
 have hs5 : s1 ≤ 5 := by omega
 have HS1 := Lib.hid hs1
 clear hs1
 have HVL := Lib.hid (chn_len hpu.ch)
 have hdl : l.1.length = dN := by
  obtain ⟨a, b, c, e, g1, _⟩ := hlx
  obtain ⟨a1, a2, a3⟩ := a
  simp only [logV, Value.agg.injEq, Array.mk.injEq, List.cons.injEq, slV, Value.slice.injEq] at e
  obtain ⟨⟨rfl, rfl, rfl⟩, _⟩ := e
  exact g1.2.1
 have HDL := Lib.hid hdl
 have HD1 : Hid (dN ≤ 9223372036854775806) := Lib.hid (by have := hpu.sz; omega)
 have HRB : Hid (∀ b, (w2.heap.size ≤ b ∧ b < w3.heap.size) → b ≠ w3.heap.size) := Lib.hid (fun b hb => Nat.ne_of_lt hb.2)
 clear hdl hs4
 clear FL hlq hlx hll hpu hd3 hb3 hal HB3 HB2 HB1
 generalize w3.alloc (.cells #[.slice dA dN dC, .int .i64 l.2.1, .slice v0 v1 v2, .slice x0 x1 x2] 51) = w4 at *
 generalize w3.heap.size = R at *
 have hd1 : dN ≤ 1048576 := by have := HPU.out.sz; have := HDL.out; omega
 have HBD : Hid (BV w4 (dA, dN, dC) l.1 ∧ NilOk (dA, dN, dC)) := Lib.hid (by
  obtain ⟨a, b, c, e, g1, g2, _⟩ := HLX.out
  obtain ⟨a1, a2, a3⟩ := a
  simp only [logV, Value.agg.injEq, Array.mk.injEq, List.cons.injEq, slV, Value.slice.injEq] at e
  obtain ⟨⟨rfl, rfl, rfl⟩, _⟩ := e
  exact ⟨g1, g2⟩)
 have HDN := Lib.hid HBD.out.2
 have HBD := Lib.hid HBD.out.1
 have HRW := Lib.hid (HRW0.out.below HB4.out)
 obtain ⟨kk, hkk⟩ : ∃ kk : Nat, cut % ((dN : Int) + 1) = (kk : Int) := ⟨(cut % ((dN : Int) + 1)).toNat, by have := Int.emod_nonneg cut (show ((dN : Int) + 1) ≠ 0 by omega); omega⟩
 have hkd : kk ≤ dN := by have := Int.emod_lt_of_pos cut (show (0 : Int) < (dN : Int) + 1 by omega); omega
 have hk0 : (0 : Int) ≤ kk := by omega
 have hk2 : kk ≤ dC := Nat.le_trans hkd HBD.out.1
 have hdl : l.1.length = dN := HBD.out.2.1
 have hl1 : l.1.length ≤ 1048576 := by omega
 clear HLX HLL HD4 HRW0 HPR HRB HD1 HS1 HVL HDL hdl
 have hkk : Value.int .i64 (cut % ((dN : Int) + 1)) = .int .i64 kk := by rw [hkk]
 refine wp_region_relG (N := 122) (cutV R (dA, dN, dC) cut kk) (fun _ W => Below w4.heap.size w4 W) (by kernel_rfl) (by kernel_rfl) (by rfl) (bel_drew0 _) (no_gd (by kernel_rfl)) ?_ ?_
 ·
  intro i o L a' W ho hl hL hS hdf dep all fr dwn
  match i, ho with
  | 0, ho =>
   obtain rfl := so ho
   have f8 := fr 11 (by kernel_rfl)
   unfold Oper.wp
   simp [go_sem, f8]
   exact ⟨_, rfl, rfl, hS, fun j oj u _ _ _ _ hu => hu⟩
  | 1, ho =>
   obtain rfl := so ho
   have d0 := dv (dep 0 _ rfl (by kernel_rfl)) (fun _ h => h) rfl
   unfold Oper.wp
   simp [go_sem, d0]
   exact ⟨_, rfl, rfl, hS, fun j oj u _ _ _ _ hu => hu⟩
  | 2, ho =>
   obtain rfl := so ho
   have d1 := dv (dep 1 _ rfl (by kernel_rfl)) (fun _ h => h) rfl
   obtain ⟨⟨c0, _⟩, _⟩ := box4_cells ((hS.block R (lt_of_heap HX.out)).trans HX.out)
   unfold Oper.wp
   simp [go_sem, d1, c0]
   exact ⟨_, rfl, rfl, hS, fun j oj u _ _ _ _ hu => hu⟩
  | 3, ho =>
   obtain rfl := so ho
   have f8 := fr 3 (by kernel_rfl)
   unfold Oper.wp
   simp [go_sem, f8]
   exact ⟨_, rfl, rfl, hS, fun j oj u _ _ _ _ hu => hu⟩
  | 4, ho =>
   obtain rfl := so ho
   have f8 := fr 11 (by kernel_rfl)
   unfold Oper.wp
   simp [go_sem, f8]
   exact ⟨_, rfl, rfl, hS, fun j oj u _ _ _ _ hu => hu⟩
  | 5, ho =>
   obtain rfl := so ho
   have d4 := dv (dep 4 _ rfl (by kernel_rfl)) (fun _ h => h) rfl
   unfold Oper.wp
   simp [go_sem, d4]
   exact ⟨_, rfl, rfl, hS, fun j oj u _ _ _ _ hu => hu⟩
  | 6, ho =>
   obtain rfl := so ho
   have d5 := dv (dep 5 _ rfl (by kernel_rfl)) (fun _ h => h) rfl
   obtain ⟨⟨c0, _⟩, _⟩ := box4_cells ((hS.block R (lt_of_heap HX.out)).trans HX.out)
   unfold Oper.wp
   simp [go_sem, d5, c0]
   exact ⟨_, rfl, rfl, hS, fun j oj u _ _ _ _ hu => hu⟩
  | 7, ho =>
   obtain rfl := so ho
   have d6 := dv (dep 6 _ rfl (by kernel_rfl)) (fun _ h => h) rfl
   unfold Oper.wp
   simp [go_sem, d6]
   exact ⟨_, rfl, rfl, hS, fun j oj u _ _ _ _ hu => hu⟩
  | 8, ho =>
   obtain rfl := so ho
   have d7 := dv (dep 7 _ rfl (by kernel_rfl)) (fun _ h => h) rfl
   have hw : IntKind.i64.wrap ((dN : Int) + 1) = (dN : Int) + 1 := IntWalk.i64_in _ (by omega)
   unfold Oper.wp
   simp [go_sem, d7, hw]
   exact ⟨_, rfl, rfl, hS, fun j oj u _ _ _ _ hu => hu⟩
  | 9, ho =>
   obtain rfl := so ho
   have d3 := dv (dep 3 _ rfl (by kernel_rfl)) (fun _ h => h) rfl
   have d8 := dv (dep 8 _ rfl (by kernel_rfl)) (fun _ h => h) rfl
   refine wp_call1 (args := #[.int .i64 cut, .int .i64 ((dN : Int) + 1)]) rfl (by simp [Act.eval, d3, d8]) (ciMod _ _) (mod_any cut ((dN : Int) + 1) hcut.1 hcut.2 (by omega) (by omega) W) ?_
   rintro e w' ⟨rfl, rfl⟩
   exact ⟨_, rfl, hkk, hS, fun j oj u _ _ _ _ hu => hu⟩
  | 10, ho =>
   obtain rfl := so ho
   have d2 := dv (dep 2 _ rfl (by kernel_rfl)) (fun _ h => h) rfl
   have d9 := dv (dep 9 _ rfl (by kernel_rfl)) (fun _ h => h) rfl
   unfold Oper.wp
   simp [go_sem, d2, d9, hk0, hk2]
   exact ⟨_, rfl, rfl, hS, fun j oj u _ _ _ _ hu => hu⟩
  | 11, ho =>
   obtain rfl := so ho
   have d10 := dv (dep 10 _ rfl (by kernel_rfl)) (fun _ h => h) rfl
   unfold Oper.wp
   simp [go_sem, d10]
   exact ⟨_, rfl, rfl, hS, fun j oj u _ _ _ _ hu => hu⟩
 ·
  intro us W6 hS hV
  have h11 : us 11 = .slice dA kk dC := hV 11 _ rfl
  have HS6 := Lib.hid hS
  clear hV hS
  simp only [putAll, Act.put, List.setIfInBounds_toArray, List.set_cons_zero, List.set_cons_succ, Nat.zero_add, Nat.reduceAdd]
  rw [h11]
  clear h11
  generalize us 0 = z0 at *
  generalize us 1 = z1 at *
  generalize us 2 = z2 at *
  generalize us 3 = z3 at *
  generalize us 4 = z4 at *
  generalize us 5 = z5 at *
  generalize us 6 = z6 at *
  generalize us 7 = z7 at *
  generalize us 8 = z8 at *
  generalize us 9 = z9 at *
  generalize us 10 = z10 at *
  have HX := Lib.hid ((HS6.out.block R (lt_of_heap HX.out)).trans HX.out)
  have HBD := Lib.hid (HBD.out.below HS6.out)
  have HRW := Lib.hid (HRW.out.below HS6.out)
  have HB4 := Lib.hid (HB4.out.trans (HS6.out.mono HB4.out.size))
  clear HS6 hkk
  go_upto_region 7 with fail
  refine wp_region_relG (N := 122) (fouV R W6.heap.size W6 (ra, rn, rc) (dA, dN, dC) kk l.1 rl) (fun _ W => Below W6.heap.size W6 W) (by kernel_rfl) (by kernel_rfl) (by rfl) (bel_drew0 _) (no_gd (by kernel_rfl)) ?_ ?_
  ·
   intro i o L a' W ho hl hL hS hdf dep all fr dwn
   match i, ho with
   | 0, ho =>
    obtain rfl := so ho
    have f8 := fr 0 (by kernel_rfl)
    unfold Oper.wp
    simp [go_sem, f8]
    exact ⟨_, rfl, rfl, hS, fun j oj u _ _ _ _ hu => fouV_keep (Below.refl _ _) hu⟩
   | 1, ho =>
    obtain rfl := so ho
    have f8 := fr 11 (by kernel_rfl)
    unfold Oper.wp
    simp [go_sem, f8]
    exact ⟨_, rfl, rfl, hS, fun j oj u _ _ _ _ hu => fouV_keep (Below.refl _ _) hu⟩
   | 2, ho =>
    obtain rfl := so ho
    have d1 := dv (dep 1 _ rfl (by kernel_rfl)) (fun _ h => h) rfl
    unfold Oper.wp
    simp [go_sem, d1]
    exact ⟨_, rfl, rfl, hS, fun j oj u _ _ _ _ hu => fouV_keep (Below.refl _ _) hu⟩
   | 3, ho =>
    obtain rfl := so ho
    have d2 := dv (dep 2 _ rfl (by kernel_rfl)) (fun _ h => h) rfl
    obtain ⟨⟨c0, _⟩, _⟩ := box4_cells ((hS.block R (lt_of_heap HX.out)).trans HX.out)
    unfold Oper.wp
    simp [go_sem, d2, c0]
    exact ⟨_, rfl, rfl, hS, fun j oj u _ _ _ _ hu => fouV_keep (Below.refl _ _) hu⟩
   | 4, ho =>
    obtain rfl := so ho
    have f8 := fr 13 (by kernel_rfl)
    unfold Oper.wp
    simp [go_sem, f8]
    exact ⟨_, rfl, rfl, hS, fun j oj u _ _ _ _ hu => fouV_keep (Below.refl _ _) hu⟩
   | 5, ho =>
    obtain rfl := so ho
    unfold Oper.wp
    simp [go_sem]
    exact ⟨_, rfl, ⟨(some ⟨W.heap.size, 0, none⟩, 0, 0), rfl, fun _ => row_base (KRow.empty bytC 1 5 W) hS.size⟩, below3 hS ((Below.refl _ _).alloc (Nat.le_refl _) _), fun j oj u _ _ _ _ hu => fouV_keep ((Below.refl _ _).alloc (Nat.le_refl _) _) hu⟩
   | 6, ho =>
    obtain rfl := so ho
    have f8 := fr 11 (by kernel_rfl)
    unfold Oper.wp
    simp [go_sem, f8]
    exact ⟨_, rfl, rfl, hS, fun j oj u _ _ _ _ hu => fouV_keep (Below.refl _ _) hu⟩
   | 7, ho =>
    obtain rfl := so ho
    have d6 := dv (dep 6 _ rfl (by kernel_rfl)) (fun _ h => h) rfl
    unfold Oper.wp
    simp [go_sem, d6]
    exact ⟨_, rfl, rfl, hS, fun j oj u _ _ _ _ hu => fouV_keep (Below.refl _ _) hu⟩
   | 8, ho =>
    obtain rfl := so ho
    have d7 := dv (dep 7 _ rfl (by kernel_rfl)) (fun _ h => h) rfl
    obtain ⟨⟨c0, _⟩, _⟩ := box4_cells ((hS.block R (lt_of_heap HX.out)).trans HX.out)
    unfold Oper.wp
    simp [go_sem, d7, c0]
    exact ⟨_, rfl, rfl, hS, fun j oj u _ _ _ _ hu => fouV_keep (Below.refl _ _) hu⟩
   | 9, ho =>
    obtain rfl := so ho
    obtain ⟨_, v5, ⟨⟨q0, q1, q2⟩, rfl, hr1⟩, d5⟩ := dep 5 _ rfl (by kernel_rfl)
    have d5 := d5 60 rfl
    have d8 := dv (dep 8 _ rfl (by kernel_rfl)) (fun _ h => h) rfl
    have hr1 := hr1 (by rw [hl]; simp)
    refine wp_app elemByt encByt (.tmp 60) (.tmp 63) rfl W6.heap.size (.slice q0 q1 q2) _ (by simp [Act.eval, d5]) hr1 dA dN dC l.1 (by simp [Act.eval, d8]) (HBD.out.below hS).2 (by simp; omega) hS.size ?_
    intro v' w' hr' hb' _ _
    obtain ⟨a9, c9, rfl, _, _⟩ := KRow.at_ encByt hr'
    exact ⟨_, rfl, ⟨(a9, _, c9), rfl, fun _ => hr'⟩, hS.trans hb', fun j oj u hj hne hlj _ hu => fouV_app hl hne (Or.inl rfl) (fun _ => ⟨hne, (fun h => by subst h; have := dwn 11 _ rfl hlj 9 _ rfl (by kernel_rfl); rw [hl] at this; cases this), (fun h => by subst h; have := dwn 11 _ rfl (dwn 12 _ rfl hlj 11 _ rfl (by kernel_rfl)) 9 _ rfl (by kernel_rfl); rw [hl] at this; cases this)⟩) (fun h => by cases h) hu⟩
   | 10, ho =>
    obtain rfl := so ho
    have f8 := fr 0 (by kernel_rfl)
    unfold Oper.wp
    simp [go_sem, f8]
    exact ⟨_, rfl, rfl, hS, fun j oj u _ _ _ _ hu => fouV_keep (Below.refl _ _) hu⟩
   | 11, ho =>
    obtain rfl := so ho
    obtain ⟨_, v9, ⟨⟨q0, q1, q2⟩, rfl, hr1⟩, d9⟩ := dep 9 _ rfl (by kernel_rfl)
    have d9 := d9 64 rfl
    have d10 := dv (dep 10 _ rfl (by kernel_rfl)) (fun _ h => h) rfl
    have h9l := (dep 9 _ rfl (by kernel_rfl)).1
    have hr1 := hr1 (by rw [hl]; simp)
    refine wp_app elemByt encByt (.tmp 64) (.tmp 65) rfl W6.heap.size (.slice q0 q1 q2) _ (by simp [Act.eval, d9]) hr1 ra rn rc rl (by simp [Act.eval, d10]) (HRW.out.below hS).2 (by simp; omega) hS.size ?_
    intro v' w' hr' hb' _ _
    obtain ⟨a9, c9, rfl, _, _⟩ := KRow.at_ encByt hr'
    exact ⟨_, rfl, ⟨(a9, _, c9), rfl, hr'⟩, hS.trans hb', fun j oj u hj hne hlj _ hu => fouV_app hl hne (Or.inr rfl) (fun h => by cases h) (fun _ => ⟨h9l, (fun h => by subst h; have := dwn 12 _ rfl hlj 11 _ rfl (by kernel_rfl); rw [hl] at this; cases this)⟩) hu⟩
   | 12, ho =>
    obtain rfl := so ho
    have d0 := dv (dep 0 _ rfl (by kernel_rfl)) (fun _ h => h) rfl
    have d3 := dv (dep 3 _ rfl (by kernel_rfl)) (fun _ h => h) rfl
    have d4 := dv (dep 4 _ rfl (by kernel_rfl)) (fun _ h => h) rfl
    obtain ⟨_, v11, ⟨⟨q0, q1, q2⟩, rfl, hr1⟩, d11⟩ := dep 11 _ rfl (by kernel_rfl)
    have d11 := d11 66 rfl
    have hbx := BX.mk0 (vs := #[.slice ra rn rc, .slice dA dN dC, .slice dA kk dC, .slice q0 q1 q2]) (T := 26) W
    unfold Oper.wp
    simp [go_sem, d0, d3, d4, d11]
    exact ⟨_, rfl, ⟨W.heap.size, (q0, q1, q2), rfl, ⟨hbx.hp, hS.size, below3 hS hbx.bl⟩, row_below hr1 hbx.bl⟩, below3 hS hbx.bl, fun j oj u _ _ _ _ hu => fouV_keep hbx.bl hu⟩
   | 13, ho =>
    obtain rfl := so ho
    obtain ⟨_, v12, ⟨g, s, rfl, _⟩, d12⟩ := dep 12 _ rfl (by kernel_rfl)
    have d12 := d12 67 rfl
    unfold Oper.wp
    simp [go_sem, d12]
    exact ⟨_, rfl, rfl, hS, fun j oj u _ _ _ _ hu => fouV_keep (Below.refl _ _) hu⟩
   | 14, ho =>
    obtain rfl := so ho
    unfold Oper.wp
    simp [go_sem]
    exact ⟨_, rfl, rfl, hS, fun j oj u _ _ _ _ hu => fouV_keep (Below.refl _ _) hu⟩
  ·
   intro us W7 hS hV
   obtain ⟨G, ⟨q0, q1, q2⟩, h12, hbx, hkr⟩ := hV 12 _ rfl
   have h13 : us 13 = .int .i64 4 := hV 13 _ rfl
   have h14 : us 14 = .int .i64 0 := hV 14 _ rfl
   obtain ⟨a9, c9, e9, hc9, hk9⟩ := KRow.at_ encByt hkr
   have hno9 := nil_row (s := (q0, q1, q2)) hkr
   injection e9 with i1 i2 i3
   simp only at i1 i2 i3
   subst i1 i2 i3
   have HS : Hid (∀ i, i < 4 → ∃ xa xn xc d, W7.cell? ⟨G, i, none⟩ = some (.slice xa xn xc) ∧ BV W7 (xa, xn, xc) d ∧ NilOk (xa, xn, xc)) := Lib.hid (fun i hi => by
    match i, hi with
    | 0, _ => exact ⟨ra, rn, rc, rl, hbx.cell 0, HRW.out.below hS, HRN.out⟩
    | 1, _ => exact ⟨dA, dN, dC, l.1, hbx.cell 1, HBD.out.below hS, HDN.out⟩
    | 2, _ => exact ⟨dA, kk, dC, l.1.take kk, hbx.cell 2, ⟨hk2, KAt.take (HBD.out.below hS).2 hkd⟩, fun h => HDN.out h⟩
    | 3, _ => exact ⟨_, _, _, l.1 ++ rl, hbx.cell 3, ⟨hc9, hk9⟩, hno9⟩)
   have HB7 := Lib.hid (HB4.out.trans (hS.mono HB4.out.size))
   clear hV hS hbx hkr hc9 hk9 hno9 HRW HBD HRN HDN HX HB4
   simp only [putAll, Act.put, List.setIfInBounds_toArray, List.set_cons_zero, List.set_cons_succ, Nat.zero_add, Nat.reduceAdd]
   rw [h12, h13, h14]
   clear h12 h13 h14
   generalize us 0 = z0 at *
   generalize us 1 = z1 at *
   generalize us 2 = z2 at *
   generalize us 3 = z3 at *
   generalize us 4 = z4 at *
   generalize us 5 = z5 at *
   generalize us 6 = z6 at *
   generalize us 7 = z7 at *
   generalize us 8 = z8 at *
   generalize us 9 = z9 at *
   generalize us 10 = z10 at *
   generalize us 11 = z11 at *
   go_wp2_with fail
   go_loopw [69] (fun s69 wr => ∃ i : Nat, i ≤ 4 ∧ s69 = .int .i64 i ∧ Hid (Below W7.heap.size W7 wr)) (fun s69 _ => 4 - (intOf s69).toNat)
   case atStart => exact ⟨0, by omega, rfl, Lib.hid (Below.refl _ _)⟩
   case round =>
    obtain ⟨i, hi, rfl, HB⟩ := hrel
    have HBW := Lib.hid (HB7.out.trans (HB.out.mono HB7.out.size))
    by_cases hlt : i < 4
    ·
     obtain ⟨xa, xn, xc, d, hcell, hbv, hno⟩ := HS.out i hlt
     have f0 := (HB.out.cell (lt_of_cell hcell)).trans hcell
     have hii : (i : Int) < 4 := by omega
     have HG := Lib.hid (BX.mk0 (vs := #[.int .i64 wks, .int .i64 m]) (T := 3) wr)
     have HBV := Lib.hid (hbv.below (below3 HB.out HG.out.bl))
     have HNO := Lib.hid hno
     have HB8 := Lib.hid (below3 HB.out HG.out.bl)
     have HBW8 := Lib.hid (HBW.out.trans (HG.out.bl.mono HBW.out.size))
     clear hcell hbv hno
     obtain ⟨wo, rfl⟩ : ∃ wo : World, wo = wr := ⟨_, rfl⟩
     go_upto_region 11 with fail
     clear f0
     generalize wo.alloc (.cells #[.int .i64 wks, .int .i64 m] 3) = w8 at *
     generalize wo.heap.size = G2 at *
     have KS : Hid (∀ j, j < 2 → ∃ kw : Int, w8.cell? ⟨G2, j, none⟩ = some (.int .i64 kw)) := Lib.hid (fun j hj => by
      match j, hj with
      | 0, _ => exact ⟨wks, HG.out.cell 0⟩
      | 1, _ => exact ⟨m, HG.out.cell 1⟩)
     clear HG HB HBW
     go_loopw [77] (fun s77 wr => ∃ j : Nat, j ≤ 2 ∧ s77 = .int .i64 j ∧ Hid (Below w8.heap.size w8 wr)) (fun s77 _ => 2 - (intOf s77).toNat)
     case atStart => exact ⟨0, by omega, rfl, Lib.hid (Below.refl _ _)⟩
     case round =>
      obtain ⟨j, hj, rfl, HC⟩ := hrel
      by_cases hjt : j < 2
      ·
       obtain ⟨kw, hkc⟩ := KS.out j hjt
       have f1 := (HC.out.cell (lt_of_cell hkc)).trans hkc
       have hjj : (j : Int) < 2 := by omega
       have HCW := Lib.hid (HBW8.out.trans (HC.out.mono HBW8.out.size))
       have O1 := Lib.hid (opnP xa xn xc d kw wr (HBV.out.below HC.out) HNO.out (HE.out.below HCW.out))
       have O2 := Lib.hid (fun W (h : Below wr.heap.size wr W) => ropen_any xa xn xc d kw W (HBV.out.below (below3 HC.out h)).2 HBV.out.1)
       obtain ⟨⟨e0, r0, n0⟩, hr0⟩ : ∃ r, opnS kw d = r := ⟨_, rfl⟩
       rw [hr0] at O1 O2
       clear hr0 hkc
       go_upto_region 14 with (go_at_call 26; refine O1.out.mono ?_; rintro en w9 ⟨_, rfl, ⟨⟨dA', dN', dC'⟩, ⟨v0', v1', v2'⟩, ⟨x0', x1', x2'⟩, rfl, hlo⟩, hb9⟩; rw [show logV (dA', dN', dC') (e0, r0, n0).2.1.2.1 (v0', v1', v2') (x0', x1', x2') = .agg #[.slice dA' dN' dC', .int .i64 r0.2.1, .slice v0' v1' v2', .slice x0' x1' x2'] from rfl])
       have hla : LogP w9 (.agg #[.slice dA' dN' dC', .int .i64 r0.2.1, .slice v0' v1' v2', .slice x0' x1' x2']) r0 := LogO.logP (B := wr.heap.size) ⟨(dA', dN', dC'), (v0', v1', v2'), (x0', x1', x2'), rfl, hlo⟩
       have hal : Below w9.heap.size w9 (w9.alloc (.cells #[.slice dA' dN' dC', .int .i64 r0.2.1, .slice v0' v1' v2', .slice x0' x1' x2'] 55)) := (Below.refl _ _).alloc (Nat.le_refl _) _
       have HQ1 : Hid ((w9.alloc (.cells #[.slice dA' dN' dC', .int .i64 r0.2.1, .slice v0' v1' v2', .slice x0' x1' x2'] 55)).heap[w9.heap.size]? = some (.cells #[.slice dA' dN' dC', .int .i64 r0.2.1, .slice v0' v1' v2', .slice x0' x1' x2'] 55 (0, 0))) := Lib.hid (heap_alloc_new _ _)
       have HLA := Lib.hid (hla.below hal)
       have HB10 := Lib.hid (below3 hb9 hal)
       clear hla hlo hb9 hal f1 O1
       generalize w9.alloc (.cells #[.slice dA' dN' dC', .int .i64 r0.2.1, .slice v0' v1' v2', .slice x0' x1' x2'] 55) = w10 at *
       generalize w9.heap.size = Q1 at *
       go_upto_region 15 with (go_at_call 27; refine (O2.out _ HB10.out).mono ?_; rintro en w11 ⟨_, rfl, ⟨⟨e0', e1', e2'⟩, ⟨f0', f1', f2'⟩, ⟨y0', y1', y2'⟩, rfl, hlo⟩, hb11⟩; rw [show logV (e0', e1', e2') (e0, r0, n0).2.1.2.1 (f0', f1', f2') (y0', y1', y2') = .agg #[.slice e0' e1' e2', .int .i64 r0.2.1, .slice f0' f1' f2', .slice y0' y1' y2'] from rfl])
       have hlb : LogR w11 (.agg #[.slice e0' e1' e2', .int .i64 r0.2.1, .slice f0' f1' f2', .slice y0' y1' y2']) r0 := LogO.logR (B := w10.heap.size) ⟨(e0', e1', e2'), (f0', f1', f2'), (y0', y1', y2'), rfl, hlo⟩
       have hal : Below w11.heap.size w11 (w11.alloc (.cells #[.slice e0' e1' e2', .int .i64 r0.2.1, .slice f0' f1' f2', .slice y0' y1' y2'] 51)) := (Below.refl _ _).alloc (Nat.le_refl _) _
       have HQ2 : Hid ((w11.alloc (.cells #[.slice e0' e1' e2', .int .i64 r0.2.1, .slice f0' f1' f2', .slice y0' y1' y2'] 51)).heap[w11.heap.size]? = some (.cells #[.slice e0' e1' e2', .int .i64 r0.2.1, .slice f0' f1' f2', .slice y0' y1' y2'] 51 (0, 0))) := Lib.hid (heap_alloc_new _ _)
       have HLB := Lib.hid (hlb.below hal)
       have hb12 := below3 hb11 hal
       have HQ1 := Lib.hid ((hb12.block Q1 (lt_of_heap HQ1.out)).trans HQ1.out)
       have HLA := Lib.hid (HLA.out.below hb12)
       have HC12 := Lib.hid (below3 HC.out (below3 HB10.out hb12))
       have HBN := Lib.hid (HBW8.out.trans (HC12.out.mono HBW8.out.size))
       clear hlb hlo hb11 hal O2 hb12 HB10
       generalize w11.alloc (.cells #[.slice e0' e1' e2', .int .i64 r0.2.1, .slice f0' f1' f2', .slice y0' y1' y2'] 51) = w12 at *
       generalize w11.heap.size = Q2 at *
       refine wp_region_relG (N := 122) (opnV n0 e0 kw (vldL kw r0) (.agg #[.slice dA' dN' dC', .int .i64 r0.2.1, .slice v0' v1' v2', .slice x0' x1' x2']) (.agg #[.slice e0' e1' e2', .int .i64 r0.2.1, .slice f0' f1' f2', .slice y0' y1' y2'])) (fun _ W => Below w12.heap.size w12 W) (by kernel_rfl) (by kernel_rfl) (by rfl) (bel_drew0 _) (fun i o g b ho hg LL v W hV => by
        match i, ho with
        | 0, ho =>
         obtain rfl := so ho
         cases hg
        | 1, ho =>
         obtain rfl := so ho
         cases hg
        | 2, ho =>
         obtain rfl := so ho
         cases hg
        | 3, ho =>
         obtain rfl := so ho
         cases hg
        | 4, ho =>
         obtain rfl := so ho
         cases hg; exact hV
        | 5, ho =>
         obtain rfl := so ho
         cases hg; exact hV
        | 6, ho =>
         obtain rfl := so ho
         cases hg; exact hV
        | 7, ho =>
         obtain rfl := so ho
         cases hg
        | 8, ho =>
         obtain rfl := so ho
         cases hg
        | 9, ho =>
         obtain rfl := so ho
         cases hg; exact hV
        | 10, ho =>
         obtain rfl := so ho
         cases hg; exact hV
        | 11, ho =>
         obtain rfl := so ho
         cases hg; exact hV
        | 12, ho =>
         obtain rfl := so ho
         cases hg; exact hV
        | 13, ho =>
         obtain rfl := so ho
         cases hg; exact hV
        | 14, ho =>
         obtain rfl := so ho
         cases hg
        | 15, ho =>
         obtain rfl := so ho
         cases hg
        | 16, ho =>
         obtain rfl := so ho
         cases hg; exact hV
        | 17, ho =>
         obtain rfl := so ho
         cases hg; exact hV
        | 18, ho =>
         obtain rfl := so ho
         cases hg; exact hV
        | 19, ho =>
         obtain rfl := so ho
         cases hg; exact hV
        | 20, ho =>
         obtain rfl := so ho
         cases hg; exact hV
        | 21, ho =>
         obtain rfl := so ho
         cases hg; exact hV
        | 22, ho =>
         obtain rfl := so ho
         cases hg; exact hV
        | 23, ho =>
         obtain rfl := so ho
         cases hg
        | k + 24, ho => simp at ho
        ) ?_ ?_
       ·
        intro i o L a' W ho hl hL hS hdf dep all fr dwn
        match i, ho with
        | 0, ho =>
         obtain rfl := so ho
         have f8 := fr 19 (by kernel_rfl)
         unfold Oper.wp
         simp [go_sem, f8]
         exact ⟨_, rfl, rfl, hS, fun j oj u _ _ _ _ hu => hu⟩
        | 1, ho =>
         obtain rfl := so ho
         have f8 := fr 22 (by kernel_rfl)
         unfold Oper.wp
         simp [go_sem, f8]
         exact ⟨_, rfl, rfl, hS, fun j oj u _ _ _ _ hu => hu⟩
        | 2, ho =>
         obtain rfl := so ho
         have d0 := dv (dep 0 _ rfl (by kernel_rfl)) (fun _ h => h) rfl
         have d1 := dv (dep 1 _ rfl (by kernel_rfl)) (fun _ h => h) rfl
         unfold Oper.wp
         simp [go_sem, d0, d1]
         exact ⟨_, rfl, rfl, hS, fun j oj u _ _ _ _ hu => hu⟩
        | 3, ho =>
         obtain rfl := so ho
         have d2 := dv (dep 2 _ rfl (by kernel_rfl)) (fun _ h => h) rfl
         unfold Oper.wp
         simp [go_sem, d2]
         exact ⟨_, rfl, rfl, hS, fun j oj u _ _ _ _ hu => hu⟩
        | 4, ho =>
         obtain rfl := so ho
         have f8 := fr 20 (by kernel_rfl)
         unfold Oper.wp
         simp [go_sem, f8]
         exact ⟨_, rfl, rfl, hS, fun j oj u _ _ _ _ hu => hu⟩
        | 5, ho =>
         obtain rfl := so ho
         have f8 := fr 23 (by kernel_rfl)
         unfold Oper.wp
         simp [go_sem, f8]
         exact ⟨_, rfl, rfl, hS, fun j oj u _ _ _ _ hu => hu⟩
        | 6, ho =>
         obtain rfl := so ho
         have d4 := dv (dep 4 _ rfl (by kernel_rfl)) (fun _ h => h) rfl
         have d5 := dv (dep 5 _ rfl (by kernel_rfl)) (fun _ h => h) rfl
         unfold Oper.wp
         simp [go_sem, d4, d5]
         exact ⟨_, rfl, rfl, hS, fun j oj u _ _ _ _ hu => hu⟩
        | 7, ho =>
         obtain rfl := so ho
         have d3 := dv (dep 3 _ rfl (by kernel_rfl)) (fun _ h => h) rfl
         have d6 := dv (dep 6 _ rfl (by kernel_rfl)) (fun _ h => h) rfl
         unfold Oper.wp
         simp [go_sem, d3, d6]
         exact ⟨_, rfl, rfl, hS, fun j oj u _ _ _ _ hu => hu⟩
        | 8, ho =>
         obtain rfl := so ho
         have d7 := dv (dep 7 _ rfl (by kernel_rfl)) (fun _ h => h) rfl
         unfold Oper.wp
         simp [go_sem, d7]
         exact ⟨_, rfl, rfl, hS, fun j oj u _ _ _ _ hu => hu⟩
        | 9, ho =>
         obtain rfl := so ho
         have f8 := fr 18 (by kernel_rfl)
         obtain ⟨⟨c0, c1, c2, c3⟩, _⟩ := box4_cells ((hS.block Q1 (lt_of_heap HQ1.out)).trans HQ1.out)
         unfold Oper.wp
         simp [go_sem, f8, c0, c1, c2, c3]
         exact ⟨_, rfl, rfl, hS, fun j oj u _ _ _ _ hu => hu⟩
        | 10, ho =>
         obtain rfl := so ho
         have d9 := dv (dep 9 _ rfl (by kernel_rfl)) (fun _ h => h) rfl
         refine wp_call1 (args := #[.agg #[.slice dA' dN' dC', .int .i64 r0.2.1, .slice v0' v1' v2', .slice x0' x1' x2']]) rfl (by simp [Act.eval, d9]) (ciTold _ _) (told_any dA' dN' dC' r0.2.1 v0' v1' v2' x0' x1' x2' W) ?_
         rintro e w' ⟨rfl, hb⟩
         exact ⟨_, rfl, rfl, below3 hS hb, fun j oj u _ _ _ _ hu => hu⟩
        | 11, ho =>
         obtain rfl := so ho
         have f8 := fr 21 (by kernel_rfl)
         obtain ⟨⟨c0, c1, c2, c3⟩, _⟩ := box4_cells ((hS.block Q2 (lt_of_heap HQ2.out)).trans HQ2.out)
         unfold Oper.wp
         simp [go_sem, f8, c0, c1, c2, c3]
         exact ⟨_, rfl, rfl, hS, fun j oj u _ _ _ _ hu => hu⟩
        | 12, ho =>
         obtain rfl := so ho
         have d10 := dv (dep 10 _ rfl (by kernel_rfl)) (fun _ h => h) rfl
         have d11 := dv (dep 11 _ rfl (by kernel_rfl)) (fun _ h => h) rfl
         refine wp_call1 (args := #[.agg #[.slice dA' dN' dC', .int .i64 r0.2.1, .slice v0' v1' v2', .slice x0' x1' x2'], .agg #[.slice e0' e1' e2', .int .i64 r0.2.1, .slice f0' f1' f2', .slice y0' y1' y2']]) rfl (by simp [Act.eval, d10, d11]) (ciSame _ _) (rsame_log _ _ r0 r0 W (HLA.out.logR.below hS) (HLB.out.below hS)) ?_
         rintro e w' ⟨rfl, hb⟩
         rw [sameL_refl]
         exact ⟨_, rfl, rfl, below3 hS hb, fun j oj u _ _ _ _ hu => hu⟩
        | 13, ho =>
         obtain rfl := so ho
         have d12 := dv (dep 12 _ rfl (by kernel_rfl)) (fun _ h => h) rfl
         unfold Oper.wp
         simp [go_sem, d12]
         exact ⟨_, rfl, rfl, hS, fun j oj u _ _ _ _ hu => hu⟩
        | 14, ho =>
         obtain rfl := so ho
         have d8 := dv (dep 8 _ rfl (by kernel_rfl)) (fun _ h => h) rfl
         have d13 := dv (dep 13 _ rfl (by kernel_rfl)) (fun _ h => h) rfl
         unfold Oper.wp
         simp [go_sem, d8, d13]
         exact ⟨_, rfl, rfl, hS, fun j oj u _ _ _ _ hu => hu⟩
        | 15, ho =>
         obtain rfl := so ho
         have d14 := dv (dep 14 _ rfl (by kernel_rfl)) (fun _ h => h) rfl
         unfold Oper.wp
         simp [go_sem, d14]
         exact ⟨_, rfl, rfl, hS, fun j oj u _ _ _ _ hu => hu⟩
        | 16, ho =>
         obtain rfl := so ho
         have f8 := fr 18 (by kernel_rfl)
         obtain ⟨⟨c0, c1, c2, c3⟩, _⟩ := box4_cells ((hS.block Q1 (lt_of_heap HQ1.out)).trans HQ1.out)
         unfold Oper.wp
         simp [go_sem, f8, c0, c1, c2, c3]
         exact ⟨_, rfl, rfl, hS, fun j oj u _ _ _ _ hu => hu⟩
        | 17, ho =>
         obtain rfl := so ho
         have f8 := fr 17 (by kernel_rfl)
         unfold Oper.wp
         simp [go_sem, f8]
         exact ⟨_, rfl, rfl, hS, fun j oj u _ _ _ _ hu => hu⟩
        | 18, ho =>
         obtain rfl := so ho
         have d16 := dv (dep 16 _ rfl (by kernel_rfl)) (fun _ h => h) rfl
         have d17 := dv (dep 17 _ rfl (by kernel_rfl)) (fun _ h => h) rfl
         refine wp_call1 (args := #[.agg #[.slice dA' dN' dC', .int .i64 r0.2.1, .slice v0' v1' v2', .slice x0' x1' x2'], .int .i64 kw]) rfl (by simp [Act.eval, d16, d17]) (ciVld _ _) (vldP _ r0 kw W (HLA.out.below hS) (HE.out.below (HBN.out.trans (hS.mono HBN.out.size)))) ?_
         rintro e w' ⟨rfl, hb⟩
         exact ⟨_, rfl, rfl, below3 hS hb, fun j oj u _ _ _ _ hu => hu⟩
        | 19, ho =>
         obtain rfl := so ho
         have f8 := fr 21 (by kernel_rfl)
         obtain ⟨⟨c0, c1, c2, c3⟩, _⟩ := box4_cells ((hS.block Q2 (lt_of_heap HQ2.out)).trans HQ2.out)
         unfold Oper.wp
         simp [go_sem, f8, c0, c1, c2, c3]
         exact ⟨_, rfl, rfl, hS, fun j oj u _ _ _ _ hu => hu⟩
        | 20, ho =>
         obtain rfl := so ho
         have f8 := fr 17 (by kernel_rfl)
         unfold Oper.wp
         simp [go_sem, f8]
         exact ⟨_, rfl, rfl, hS, fun j oj u _ _ _ _ hu => hu⟩
        | 21, ho =>
         obtain rfl := so ho
         have d19 := dv (dep 19 _ rfl (by kernel_rfl)) (fun _ h => h) rfl
         have d20 := dv (dep 20 _ rfl (by kernel_rfl)) (fun _ h => h) rfl
         refine wp_call1 (args := #[.agg #[.slice e0' e1' e2', .int .i64 r0.2.1, .slice f0' f1' f2', .slice y0' y1' y2'], .int .i64 kw]) rfl (by simp [Act.eval, d19, d20]) (ciRVld _ _) (rvalidL_any _ r0 kw W (HLB.out.below hS)) ?_
         rintro e w' ⟨rfl, hb⟩
         exact ⟨_, rfl, rfl, below3 hS hb, fun j oj u _ _ _ _ hu => hu⟩
        | 22, ho =>
         obtain rfl := so ho
         have d18 := dv (dep 18 _ rfl (by kernel_rfl)) (fun _ h => h) rfl
         have d21 := dv (dep 21 _ rfl (by kernel_rfl)) (fun _ h => h) rfl
         unfold Oper.wp
         simp [go_sem, d18, d21]
         exact ⟨_, rfl, rfl, hS, fun j oj u _ _ _ _ hu => hu⟩
        | 23, ho =>
         obtain rfl := so ho
         have d15 := dv (dep 15 _ rfl (by kernel_rfl)) (fun _ h => h) rfl
         have d22 := dv (dep 22 _ rfl (by kernel_rfl)) (fun _ h => h) rfl
         unfold Oper.wp
         simp [go_sem, d15, d22]
         exact ⟨_, rfl, rfl, hS, fun j oj u _ _ _ _ hu => hu⟩
       ·
        intro us W hS hV
        have h23 : us 23 = .bool false := hV 23 _ rfl
        have HC13 := Lib.hid (below3 HC12.out hS)
        clear hV hS
        simp only [putAll, Act.put, List.setIfInBounds_toArray, List.set_cons_zero, List.set_cons_succ, Nat.zero_add, Nat.reduceAdd]
        rw [h23]
        clear h23
        generalize us 0 = z0 at *
        generalize us 1 = z1 at *
        generalize us 2 = z2 at *
        generalize us 3 = z3 at *
        generalize us 4 = z4 at *
        generalize us 5 = z5 at *
        generalize us 6 = z6 at *
        generalize us 7 = z7 at *
        generalize us 8 = z8 at *
        generalize us 9 = z9 at *
        generalize us 10 = z10 at *
        generalize us 11 = z11 at *
        generalize us 12 = z12 at *
        generalize us 13 = z13 at *
        generalize us 14 = z14 at *
        generalize us 15 = z15 at *
        generalize us 16 = z16 at *
        generalize us 17 = z17 at *
        generalize us 18 = z18 at *
        generalize us 19 = z19 at *
        generalize us 20 = z20 at *
        generalize us 21 = z21 at *
        generalize us 22 = z22 at *
        go_wp2_with fail
        go_roundw
        case rel => exact ⟨j + 1, by omega, by go_num, HC13⟩
        case measure => simp [intOf]; omega
      ·
       have hnj : ¬ (j : Int) < 2 := by omega
       have HC8 := Lib.hid (below3 HB8.out HC.out)
       go_wp2_with fail
       go_roundw
       case rel => exact ⟨i + 1, by omega, by go_num, HC8⟩
       case measure => simp [intOf]; omega
    ·
     have hni : ¬ (i : Int) < 4 := by omega
     go_wp2_with (go_at_call 13; refine (AW.out _ HBW.out).mono ?_; rintro e w' ⟨rfl, hb⟩)
     go_ret
     exact ⟨rfl, HBW.out.trans (hb.mono HBW.out.size)⟩
end Go.Proofs.YtihbpggbpapcfaaGreatDoor
