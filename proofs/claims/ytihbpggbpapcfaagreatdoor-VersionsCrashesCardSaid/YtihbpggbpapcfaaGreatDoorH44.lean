/- Texts V102, joined: walks and laws for the versions. -/
import Derived.Test.YtihbpggbpapcfaaGreatDoorH43
namespace Go.Proofs.YtihbpggbpapcfaaGreatDoor
open Go.RowKit

theorem opnF_len {n : Int} : ∀ (k : Nat) (b : L8) (vs : List Ver) (ss : List Ses), ss.length ≤ 96 → (opnF n k b vs ss).2.1.length ≤ 96
 | 0, _, _, _, h => h
 | k + 1, b, vs, ss, h => by
  unfold opnF
  split
  ·
   exact h
  ·
   split
   ·
    exact h
   ·
    next hf => exact opnF_len k _ _ _ (vld_parts (fol_app hf)).2.1
theorem vld_small {n : Int} {l : Lg} (h : vldL n l = true) : l.1.length ≤ 1048576 ∧ l.2.2.1.length ≤ 1048576 ∧ l.2.2.2.length ≤ 96 ∧ ∀ v ∈ l.2.2.1, v.2.2.length ≤ 1000000 ∧ ∀ c ∈ v.2.2, c.2.1.length * 64 ≤ 140737488355328 ∧ c.2.2.length * 64 ≤ 140737488355328 := by
 obtain ⟨_, h1, _, h2, _, h3⟩ := vld_log h
 refine ⟨h1, by omega, ?_, fun v hv => ?_⟩
 ·
  unfold vldL at h
  simp only [Bool.and_eq_true, decide_eq_true_eq] at h
  rw [← h.2]
  unfold opnS
  split
  ·
   simp [lgZ]
  ·
   split
   ·
    simp [lgZ]
   ·
    exact opnF_len _ _ _ _ (by simp)
 ·
  obtain ⟨hf, he⟩ := h2 v hv
  obtain ⟨_, _, hc⟩ := frm_parts hf
  refine ⟨(enc_cnt he).1, fun c hm => ?_⟩
  obtain ⟨_, ⟨_, a⟩, _, b⟩ := chgOk_parts (hc c hm)
  have := (vld_parts a).2.1
  have := (vld_parts b).2.1
  omega
theorem HRow.oth {w w0 : World} {B0 B : Nat} {v : Value} {cs : List Chg} {vs : Array Value} {T : TypeId} (h : HRow w B0 v cs) (hx : BX w0 w B vs T) (h1 : T ≠ 101) (h2 : T ≠ 95) (i : Nat) (u : Value) : HRow (w.setCell ⟨B, i, none⟩ u) B0 v cs := by
 obtain ⟨rs, h3, h4⟩ := h
 exact ⟨rs, row_oth h3 hx h1 i u, h4.imp fun _ _ hr => ⟨hr.1, row_oth hr.2.1 hx h2 i u, row_oth hr.2.2 hx h2 i u⟩⟩
theorem VRow.oth {w w0 : World} {B0 B : Nat} {v : Value} {cs : List Ver} {vs : Array Value} {T : TypeId} (h : VRow w B0 v cs) (hx : BX w0 w B vs T) (h0 : T ≠ 24) (h1 : T ≠ 101) (h2 : T ≠ 95) (i : Nat) (u : Value) : VRow (w.setCell ⟨B, i, none⟩ u) B0 v cs := by
 obtain ⟨rs, h3, h4⟩ := h
 exact ⟨rs, row_oth h3 hx h0 i u, h4.imp fun _ _ hr => ⟨hr.1, hr.2.1, hr.2.2.oth hx h1 h2 i u⟩⟩
theorem VRow.oth4 {w w0 : World} {B0 B : Nat} {v : Value} {cs : List Ver} {v0 v1 v2 v3 : Value} {T : TypeId} (h : VRow w B0 v cs) (hx : BX w0 w B #[v0, v1, v2, v3] T) (h0 : T ≠ 24) (h1 : T ≠ 101) (h2 : T ≠ 95) (u0 u1 u2 u3 : Value) : VRow ((((w.setCell ⟨B, 0, none⟩ u0).setCell ⟨B, 1, none⟩ u1).setCell ⟨B, 2, none⟩ u2).setCell ⟨B, 3, none⟩ u3) B0 v cs :=
 (((h.oth hx h0 h1 h2 0 u0).oth (hx.set 0 u0) h0 h1 h2 1 u1).oth ((hx.set 0 u0).set 1 u1) h0 h1 h2 2 u2).oth (((hx.set 0 u0).set 1 u1).set 2 u2) h0 h1 h2 3 u3
theorem LogO.logP {w : World} {B : Nat} {v : Value} {l : Lg} (h : LogO w B v l) : LogP w v l := by
 obtain ⟨d, vs, ss, hv, h1, h2, h3⟩ := id h
 obtain ⟨d', vs', ss', hv', h1', h2', h3'⟩ := h.logR
 rw [hv] at hv'
 unfold logV slV at hv'
 obtain ⟨a1, a2, a3⟩ := d
 obtain ⟨b1, b2, b3⟩ := vs
 obtain ⟨c1, c2, c3⟩ := ss
 obtain ⟨a1', a2', a3'⟩ := d'
 obtain ⟨b1', b2', b3'⟩ := vs'
 obtain ⟨c1', c2', c3'⟩ := ss'
 simp only [Value.agg.injEq] at hv'
 simp at hv'
 obtain ⟨⟨rfl, rfl, rfl⟩, ⟨rfl, rfl, rfl⟩, rfl, rfl, rfl⟩ := hv'
 exact ⟨_, _, _, hv, h1', nil_row h1, h2', h3'⟩
def ResO (r : Int × Lg) (w : World) (e : Ending) (w' : World) : Prop := ∃ v, e = .returned (.tuple #[v, .int .i64 r.1]) ∧ LogO w' w.heap.size v r.2 ∧ Below w.heap.size w w'

set_option maxRecDepth 100000 in
set_option maxHeartbeats 8000000 in
theorem sync_any (va : Value) (l : Lg) (m : Int) (w : World) (ha : LogP w va l) (hE : Env w) : Calls Tryz.prog 37 #[va, .int .i64 m] w (ResO (synS m l) w) := by
 have HV := Lib.hid (fun W (h : Below w.heap.size w W) => vldP va l m W (ha.below h) (hE.below h))
 have TW := Lib.hid (fun W (h : Below w.heap.size w W) (hv : vldL m l = true) => twin_any va l W (ha.below h).logR (vld_small hv).1 (vld_small hv).2.1 (by have := (vld_small hv).2.2.1; omega) (vld_small hv).2.2.2)
 have HSM := Lib.hid (fun hv : vldL m l = true => (vld_small hv).1)
 obtain ⟨⟨da, dn, dc⟩, ⟨va, vn, vc⟩, ⟨sa, sn, sc⟩, rfl, hd, _, hvv, hss⟩ := ha
 obtain ⟨l1, l2, l3, l4⟩ := l
 simp only at hd hvv hss HSM
 have HF : Hid (synS m (l1, l2, l3, l4) = if vldL m (l1, l2, l3, l4) = false then (1, lgZ) else (0, (l1, (l1.length : Int), l3, l4))) := Lib.hid rfl
 have HA := Lib.hid (BX.mk0 (vs := #[.slice da dn dc, .int .i64 l2, .slice va vn vc, .slice sa sn sc]) (T := 55) w)
 clear hd hvv hss hE
 change Hid (∀ W, Below w.heap.size w W → Calls _ _ #[.agg #[.slice da dn dc, .int .i64 l2, .slice va vn vc, .slice sa sn sc], .int .i64 m] W _) at HV
 change Hid (∀ W, Below w.heap.size w W → _ → Calls _ _ #[.agg #[.slice da dn dc, .int .i64 l2, .slice va vn vc, .slice sa sn sc]] W _) at TW
 show Calls _ _ #[.agg #[.slice da dn dc, .int .i64 l2, .slice va vn vc, .slice sa sn sc], .int .i64 m] w _
 generalize vldL m (l1, l2, l3, l4) = q at *
 generalize synS m (l1, l2, l3, l4) = pr at *
 go_enter Tryz.func37, Tryz.ntmps37
 go_upto_region 1 with fail
 have hsa : (w.alloc (.cells #[.slice da dn dc, .int .i64 l2, .slice va vn vc, .slice sa sn sc] 55)).heap.size = w.heap.size + 1 := by simp
 generalize w.alloc (.cells #[.slice da dn dc, .int .i64 l2, .slice va vn vc, .slice sa sn sc] 55) = wa at *
 obtain ⟨R, hR⟩ : ∃ R, R = w.heap.size := ⟨_, rfl⟩
 rw [← hR] at HA hsa ⊢
 clear hR
 have HB := Lib.hid (BX.mk0 (vs := #[.slice none 0 0, .int .i64 0, .slice none 0 0, .slice none 0 0]) (T := 55) wa)
 rw [hsa] at HB
 clear hsa
 generalize wa.alloc (.cells #[.slice none 0 0, .int .i64 0, .slice none 0 0, .slice none 0 0] 55) = wb at *
 obtain ⟨R2, hR2⟩ : ∃ R2, R2 = R + 1 := ⟨_, rfl⟩
 rw [← hR2] at HB ⊢
 have hne : R2 ≠ R := by omega
 have hle : R ≤ R2 := by omega
 clear hR2
 have HA := Lib.hid (HA.out.next HB.out.bl)
 have HB : Hid (BX w wb R2 _ _) := Lib.hid ⟨HB.out.hp, Nat.le_trans HA.out.lo hle, HA.out.bl⟩
 obtain ⟨⟨g0, g1, g2, g3⟩, gf0, gf1, gf2, gf3⟩ := HA.out.four
 go_wp2_with fail
 refine (HV.out _ HA.out.bl).mono ?_
 rintro en w1 ⟨rfl, hb1⟩
 have HA := Lib.hid (HA.out.next hb1)
 have HB := Lib.hid (HB.out.next hb1)
 clear g0 g1 g2 g3 gf0 gf1 gf2 gf3 hb1 HV
 cases q
 ·
  have HF2 : Hid (pr = (1, lgZ)) := Lib.hid (by rw [HF.out, if_pos rfl])
  obtain ⟨⟨rc0, rc1, rc2, rc3⟩, rf0, rf1, rf2, rf3⟩ := HB.out.four
  have HR9 := Lib.hid (HB.out.set4 (.slice none 0 0) (.int .i64 0) (.slice none 0 0) (.slice none 0 0))
  go_wp2_with fail
  generalize (((World.setCell w1 ⟨R2, 0, none⟩ (.slice none 0 0)).setCell ⟨R2, 1, none⟩ (.int .i64 0)).setCell ⟨R2, 2, none⟩ (.slice none 0 0)).setCell ⟨R2, 3, none⟩ (.slice none 0 0) = W9 at *
  clear rc0 rc1 rc2 rc3 rf0 rf1 rf2 rf3
  obtain ⟨⟨rc0, rc1, rc2, rc3⟩, _⟩ := HR9.out.four
  refine bodyPost_ret (v := .tuple #[.agg #[.slice none 0 0, .int .i64 0, .slice none 0 0, .slice none 0 0], .int .i64 1]) (by simp [results, Tryz.results37, go_sem, rc0, rc1, rc2, rc3]) rfl ?_
  rw [HF2.out]
  exact ⟨_, rfl, LogO.zero _ _, HR9.out.bl⟩
 have HF2 : Hid (pr = (0, (l1, (l1.length : Int), l3, l4))) := Lib.hid (by rw [HF.out, if_neg (by simp)])
 have hl1 := HSM.out rfl
 have TW1 := Lib.hid (TW.out w1 HA.out.bl rfl)
 clear TW HF HSM
 obtain ⟨⟨g0, g1, g2, g3⟩, gf0, gf1, gf2, gf3⟩ := HA.out.four
 go_wp2_with (go_at_call 79; refine TW1.out.mono ?_)
 rintro en w2 ⟨v2, rfl, hlo, hb2⟩
 obtain ⟨⟨xa, xn, xc⟩, ⟨ya, yn, yc⟩, ⟨za, zn, zc⟩, hv2, hx1, hx2, hx3⟩ := hlo
 replace hv2 : v2 = .agg #[.slice xa xn xc, .int .i64 l2, .slice ya yn yc, .slice za zn zc] := hv2
 subst hv2
 have hxl : l1.length = xn := by
  obtain ⟨_, _, e, _, _⟩ := KRow.at_ encByt hx1
  injection e with _ e2 _
  exact e2.symm
 have HX1 := Lib.hid hx1
 have HX2 := Lib.hid hx2
 have HX3 := Lib.hid hx3
 have HB := Lib.hid (HB.out.next hb2)
 have HBw := Lib.hid (HA.out.bl.size)
 have hB2 : R2 < w2.heap.size := HB.out.lt
 clear hx1 hx2 hx3 hb2 g0 g1 g2 g3 gf0 gf1 gf2 gf3 TW1
 have HC := Lib.hid (BX.mk0 (vs := #[.slice xa xn xc, .int .i64 l2, .slice ya yn yc, .slice za zn zc]) (T := 55) w2)
 go_upto_region 4 with fail
 generalize w2.alloc (.cells #[.slice xa xn xc, .int .i64 l2, .slice ya yn yc, .slice za zn zc] 55) = w3 at *
 obtain ⟨C, hC⟩ : ∃ C, C = w2.heap.size := ⟨_, rfl⟩
 rw [← hC] at HC ⊢
 clear hC
 have hR2C : R2 < C := Nat.lt_of_lt_of_le hB2 HC.out.lo
 have HB := Lib.hid (HB.out.next HC.out.bl)
 have HX1 := Lib.hid (row_below HX1.out HC.out.bl)
 have HX2 := Lib.hid (HX2.out.below HC.out.bl)
 have HX3 := Lib.hid (row_below HX3.out HC.out.bl)
 have HC : Hid (BX w w3 C _ _) := Lib.hid ⟨HC.out.hp, by have := HB.out.lo; omega, HB.out.bl⟩
 obtain ⟨⟨g0, g1, g2, g3⟩, gf0, gf1, gf2, gf3⟩ := HC.out.four
 have HC4 : Hid (BX w (w3.setCell ⟨C, 1, none⟩ (.int .i64 xn)) C #[.slice xa xn xc, .int .i64 xn, .slice ya yn yc, .slice za zn zc] 55) := Lib.hid (HC.out.set 1 (.int .i64 xn))
 have HB4 := Lib.hid (HB.out.oth (Ne.symm (Nat.ne_of_lt hR2C)) HC.out.lo 1 (.int .i64 xn))
 have HX1 := Lib.hid (row_oth HX1.out HC.out (by decide) 1 (.int .i64 xn))
 have HX2 := Lib.hid (HX2.out.oth HC.out (by decide) (by decide) (by decide) 1 (.int .i64 xn))
 have HX3 := Lib.hid (row_oth HX3.out HC.out (by decide) 1 (.int .i64 xn))
 go_upto_region 5 with fail
 generalize w3.setCell ⟨C, 1, none⟩ (.int .i64 xn) = w4 at *
 clear g0 g1 g2 g3 gf0 gf1 gf2 gf3
 obtain ⟨⟨g0, g1, g2, g3⟩, _⟩ := HC4.out.four
 obtain ⟨⟨rc0, rc1, rc2, rc3⟩, rf0, rf1, rf2, rf3⟩ := HB4.out.four
 have HR9 := Lib.hid (HB4.out.set4 (.slice xa xn xc) (.int .i64 xn) (.slice ya yn yc) (.slice za zn zc))
 have HX1 := Lib.hid (row_oth4 HX1.out HB4.out (by decide) (.slice xa xn xc) (.int .i64 xn) (.slice ya yn yc) (.slice za zn zc))
 have HX2 := Lib.hid (HX2.out.oth4 HB4.out (by decide) (by decide) (by decide) (.slice xa xn xc) (.int .i64 xn) (.slice ya yn yc) (.slice za zn zc))
 have HX3 := Lib.hid (row_oth4 HX3.out HB4.out (by decide) (.slice xa xn xc) (.int .i64 xn) (.slice ya yn yc) (.slice za zn zc))
 go_wp2_with fail
 generalize (((World.setCell w4 ⟨R2, 0, none⟩ (.slice xa xn xc)).setCell ⟨R2, 1, none⟩ (.int .i64 xn)).setCell ⟨R2, 2, none⟩ (.slice ya yn yc)).setCell ⟨R2, 3, none⟩ (.slice za zn zc) = W9 at *
 clear rc0 rc1 rc2 rc3 rf0 rf1 rf2 rf3
 obtain ⟨⟨rc0, rc1, rc2, rc3⟩, _⟩ := HR9.out.four
 refine bodyPost_ret (v := .tuple #[.agg #[.slice xa xn xc, .int .i64 xn, .slice ya yn yc, .slice za zn zc], .int .i64 0]) (by simp [results, Tryz.results37, go_sem, rc0, rc1, rc2, rc3]) rfl ?_
 rw [HF2.out]
 exact ⟨_, rfl, ⟨(xa, xn, xc), (ya, yn, yc), (za, zn, zc), by rw [hxl]; rfl, row_base HX1.out HBw.out, HX2.out.base HBw.out, row_base HX3.out HBw.out⟩, HR9.out.bl⟩
end Go.Proofs.YtihbpggbpapcfaaGreatDoor
