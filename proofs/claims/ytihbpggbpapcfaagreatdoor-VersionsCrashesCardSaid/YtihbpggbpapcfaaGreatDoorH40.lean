/- Texts V55, V87, V90, joined: walks and laws for the versions. -/
import Derived.Test.YtihbpggbpapcfaaGreatDoorM30
import Derived.Test.YtihbpggbpapcfaaGreatDoorH39
namespace Go.Proofs.YtihbpggbpapcfaaGreatDoor
open Go.RowKit

theorem ofInt8 (a : Nat) (h : a < 256) : (BitVec.ofInt 8 (a : Int)).toNat = a := by
 rw [BitVec.ofInt_natCast, BitVec.toNat_ofNat]; exact Nat.mod_eq_of_lt (by omega)
theorem wrap8 (a : Nat) (h : a < 256) : IntKind.u8.wrap (a : Int) = (a : Int) := by
 rw [IntKind.wrap_u8]; omega
theorem xor8 (a b : Nat) (ha : a < 256) (hb : b < 256) : bits .xor .u8 (a : Int) (b : Int) = ((a ^^^ b : Nat) : Int) := by
 have hx : a ^^^ b < 256 := Nat.xor_lt_two_pow (n := 8) (by omega) (by omega)
 show IntKind.u8.wrap ((BitVec.ofInt 8 (a : Int) ^^^ BitVec.ofInt 8 (b : Int)).toNat : Int) = _
 rw [BitVec.toNat_xor, ofInt8 a ha, ofInt8 b hb]
 exact wrap8 _ hx
theorem and255 (f : Int) : bits .and .i64 f 255 = ((f % 256).toNat : Int) := by
 show IntKind.i64.wrap ((BitVec.ofInt 64 f &&& BitVec.ofInt 64 255).toNat : Int) = _
 rw [BitVec.toNat_and, BitVec.toNat_ofInt, show (BitVec.ofInt 64 255).toNat = 2 ^ 8 - 1 from rfl, Nat.and_two_pow_sub_one_eq_mod]
 rw [IntWalk.i64_in _ (by omega)]
 omega
theorem row_put {w : World} {B : Nat} {v : Value} {xs : L8} (h : KRow bytC 1 5 w B v xs) {i : Nat} {c : UInt8} (hi : xs[i]? = some c) : ∃ g cap, v = .slice (some ⟨g, 0, none⟩) xs.length cap ∧ xs.length ≤ cap ∧ B ≤ g ∧ w.cell? ⟨g, i, none⟩ = some (.int .u8 c.toNat) ∧ w.frozen? ⟨g, i, none⟩ = false ∧ ∀ x : UInt8, KRow bytC 1 5 (w.setCell ⟨g, i, none⟩ (.int .u8 x.toNat)) B v (xs.set i x) := by
 obtain ⟨hlt, rfl⟩ := List.getElem?_eq_some_iff.1 hi
 obtain ⟨h1, h2⟩ := h
 rcases h2 with ⟨_, h0⟩ | ⟨g, cap, cur, rfl, hB, hh, hn, hc, hs, ht⟩
 ·
  omega
 have hcur : i < cur.size := by omega
 have hf : ∀ (u : Value) (x : UInt8), u = .int .u8 x.toNat → (xs.flatMap bytC).set i u = (xs.set i x).flatMap bytC := fun u x hu => by
  have := flat_set bytC 1 encByt.len 0 u (by omega) xs i xs[i] x hi (by subst hu; rfl)
  rw [Nat.mul_one] at this
  exact this
 refine ⟨g, cap, rfl, hn, hB, ?_, ?_, fun x => ?_⟩
 ·
  rw [cell_of_row _ _ i _ _ _ hh]
  have := flat_at bytC 1 encByt.len xs i 0 _ hi (by omega)
  rw [← ht] at this
  simp only [Nat.mul_one, Nat.add_zero] at this
  rw [List.getElem?_take_of_lt hlt, Array.getElem?_toList] at this
  exact this
 ·
  exact frozen_of_row _ _ _ _ _ hh
 ·
  refine ⟨by rw [← hf _ x rfl, List.length_set, h1, List.length_set], Or.inr ⟨g, cap, cur.setIfInBounds i (.int .u8 x.toNat), by rw [List.length_set], hB, heap_setCell_same w g i _ _ _ hh, by rw [List.length_set]; exact hn, hc, by rw [Array.size_setIfInBounds]; exact hs, ?_⟩⟩
  rw [← hf _ x rfl, ← ht, List.length_set, Array.toList_setIfInBounds, List.take_set]
end Go.Proofs.YtihbpggbpapcfaaGreatDoor

namespace Go.Proofs.YtihbpggbpapcfaaGreatDoor
open Go.RowKit

def OpnP : Prop := ∀ (a : Option Addr) (n c : Nat) (b : L8) (m : Int) (w : World), BV w (a, n, c) b → NilOk (a, n, c) → Env w → Calls Tryz.prog 26 #[.slice a n c, .int .i64 m] w (OpnR (opnS m b) w)
theorem nil_row {w : World} {B : Nat} {s : Sl} {l : L8} (h : KRow bytC 1 5 w B (slV s) l) : NilOk s := by
 obtain ⟨a, n, c⟩ := s
 intro ha
 have ha : a = none := ha
 subst ha
 rcases h.2 with ⟨e, _⟩ | ⟨g, cap, cur, e, _⟩
 ·
  injection e with _ _ e3
 ·
  injection e with e1
  cases e1
end Go.Proofs.YtihbpggbpapcfaaGreatDoor

namespace Go.Proofs.YtihbpggbpapcfaaGreatDoor
open Go.RowKit

set_option maxRecDepth 100000 in
set_option maxHeartbeats 4000000 in
theorem valid_of (HOP : OpnP) (va : Value) (l : Lg) (m : Int) (w : World) (ha : LogP w va l) (hE : Env w) : Calls Tryz.prog 30 #[va, .int .i64 m] w (RetB (.bool (vldL m l)) w) := by
 obtain ⟨⟨da, dn, dc⟩, ⟨va, vn, vc⟩, ⟨sa, sn, sc⟩, rfl, hd, hno, hv, hs⟩ := ha
 obtain ⟨l1, l2, l3, l4⟩ := l
 simp only at hd hv hs
 have hln : l1.length = dn := hd.2.1
 have hn1 : dn ≤ 9223372036854775807 := hd.2.2.1
 have HF : Hid (vldL m (l1, l2, l3, l4) = (decide (0 ≤ l2 ∧ l2 ≤ (l1.length : Int)) && decide ((opnS m l1).1 = 0 ∧ (opnS m l1).2.2 = 0) && decide ((opnS m l1).2.1.2.2.1 = l3) && decide ((opnS m l1).2.1.2.2.2 = l4))) := Lib.hid rfl
 have HA := Lib.hid (BX.mk0 (vs := #[.slice da dn dc, .int .i64 l2, .slice va vn vc, .slice sa sn sc]) (T := 55) w)
 have OP := Lib.hid (fun W (h : Below w.heap.size w W) => HOP da dn dc l1 m W (hd.below h) hno (hE.below h))
 have HV := Lib.hid hv
 have HS := Lib.hid hs
 clear hd hv hs hno hE HOP
 generalize vldL m (l1, l2, l3, l4) = q at *
 generalize opnS m l1 = r at *
 obtain ⟨er, ⟨o1, o2, o3, o4⟩, rest⟩ := r
 show Calls _ _ #[.agg #[.slice da dn dc, .int .i64 l2, .slice va vn vc, .slice sa sn sc], .int .i64 m] w _
 go_enter Tryz.func30, Tryz.ntmps30
 go_upto_region 1 with fail
 have hsa : (w.alloc (.cells #[.slice da dn dc, .int .i64 l2, .slice va vn vc, .slice sa sn sc] 55)).heap.size = w.heap.size + 1 := by simp
 generalize w.alloc (.cells #[.slice da dn dc, .int .i64 l2, .slice va vn vc, .slice sa sn sc] 55) = wa at *
 obtain ⟨R, hR⟩ : ∃ R, R = w.heap.size := ⟨_, rfl⟩
 clear hsa
 rw [← hR] at HA ⊢
 clear hR
 have HW := Lib.hid HA.out.bl
 obtain ⟨⟨g0, g1, g2, g3⟩, _⟩ := HA.out.four
 by_cases hc : 0 ≤ l2 ∧ l2 ≤ (dn : Int)
 rotate_left
 ·
  have HF2 : Hid (q = false) := Lib.hid (by rw [HF.out, hln, decide_eq_false hc]; rfl)
  rcases (show l2 < 0 ∨ (0 ≤ l2 ∧ (dn : Int) < l2) by omega) with h | ⟨h, h'⟩
  all_goals
   clear hc
   go_wp2_with fail
   go_ret
   exact ⟨ret_bool (by rw [HF2.out]), HW.out⟩
 have HF2 : Hid (q = (decide (er = 0 ∧ rest = 0) && decide (o3 = l3) && decide (o4 = l4))) := Lib.hid (by rw [HF.out, hln, decide_eq_true hc]; rfl)
 obtain ⟨hc1, hc2⟩ := hc
 clear HF
 go_wp2_with fail
 refine (OP.out _ HW.out).mono ?_
 rintro en w1 ⟨v1, rfl, hl1, hb1⟩
 obtain ⟨⟨xa, xn, xc⟩, ⟨ya, yn, yc⟩, ⟨za, zn, zc⟩, hv1, hx1, hx2, hx3⟩ := hl1.logR
 replace hv1 : v1 = .agg #[.slice xa xn xc, .int .i64 o2, .slice ya yn yc, .slice za zn zc] := hv1
 subst hv1
 simp only at hx1 hx2 hx3
 have HA1 := Lib.hid (HA.out.next hb1)
 have HX := Lib.hid (BX.mk0 (vs := #[.slice xa xn xc, .int .i64 o2, .slice ya yn yc, .slice za zn zc]) (T := 55) w1)
 have S3 := Lib.hid (fun W (h0 : Below w.heap.size w W) (h : Below w1.heap.size w1 W) => eqfv_any ya yn yc va vn vc o3 l3 W (hx2.2.below h) (HV.out.2.below h0))
 have S4 := Lib.hid (fun W (h0 : Below w.heap.size w W) (h : Below w1.heap.size w1 W) => equalq_any za zn zc sa sn sc o4 l4 W (hx3.2.below h) (HS.out.2.below h0))
 clear g0 g1 g2 g3 hx1 hx2 hx3 hb1 OP
 go_upto_region 4 with fail
 generalize w1.alloc (.cells #[.slice xa xn xc, .int .i64 o2, .slice ya yn yc, .slice za zn zc] 55) = wb at *
 obtain ⟨R2, hR2⟩ : ∃ R2, R2 = w1.heap.size := ⟨_, rfl⟩
 rw [← hR2] at HX ⊢
 clear hR2
 have HA2 := Lib.hid (HA1.out.next HX.out.bl)
 have HW2 := Lib.hid HA2.out.bl
 obtain ⟨⟨g0, g1, g2, g3⟩, _⟩ := HA2.out.four
 obtain ⟨⟨k0, k1, k2, k3⟩, _⟩ := HX.out.four
 cases h1 : (er == 0)
 ·
  have HF3 : Hid (q = false) := Lib.hid (by
   rw [beq_eq_false_iff_ne] at h1
   rw [HF2.out, decide_eq_false (fun h => h1 h.1)]; rfl)
  go_wp2_with fail
  go_ret
  exact ⟨ret_bool (by rw [HF3.out]), HW2.out⟩
 cases h2 : (rest == 0)
 ·
  have HF3 : Hid (q = false) := Lib.hid (by
   rw [beq_eq_false_iff_ne] at h2
   rw [HF2.out, decide_eq_false (fun h => h2 h.2)]; rfl)
  go_wp2_with fail
  go_ret
  exact ⟨ret_bool (by rw [HF3.out]), HW2.out⟩
 have HF3 : Hid (q = (decide (o3 = l3) && decide (o4 = l4))) := Lib.hid (by
  rw [beq_iff_eq] at h1 h2
  rw [HF2.out, decide_eq_true ⟨h1, h2⟩]; rfl)
 clear HF2
 generalize decide (o3 = l3) = d3 at *
 generalize decide (o4 = l4) = d4 at *
 go_wp2_with fail
 refine (S3.out _ HW2.out HX.out.bl).mono ?_
 rintro en w2 ⟨rfl, hb2⟩
 have HA3 := Lib.hid (HA2.out.next hb2)
 have HX3 := Lib.hid (HX.out.next hb2)
 have HW3 := Lib.hid HA3.out.bl
 clear g0 g1 g2 g3 k0 k1 k2 k3 hb2
 obtain ⟨⟨g0, g1, g2, g3⟩, _⟩ := HA3.out.four
 obtain ⟨⟨k0, k1, k2, k3⟩, _⟩ := HX3.out.four
 cases d3
 ·
  go_wp2_with fail
  go_ret
  exact ⟨ret_bool (by rw [HF3.out]; rfl), HW3.out⟩
 go_wp2_with fail
 refine (S4.out _ HW3.out HX3.out.bl).mono ?_
 rintro en w3 ⟨rfl, hq3⟩
 have HW4 := Lib.hid (below3 HW3.out (drew_bel hq3))
 clear hq3
 go_wp2_with fail
 go_ret
 exact ⟨ret_bool (by rw [HF3.out]; rfl), HW4.out⟩

theorem vldP_of (h : OpnP) : VldP := fun va l m w ha hE => valid_of h va l m w ha hE
end Go.Proofs.YtihbpggbpapcfaaGreatDoor
