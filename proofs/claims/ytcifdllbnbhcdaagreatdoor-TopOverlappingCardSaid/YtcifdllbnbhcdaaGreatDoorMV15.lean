/- Texts V96, joined: walks and laws. -/
import Derived.Test.YtcifdllbnbhcdaaGreatDoorMV14
set_option linter.unusedSimpArgs false
set_option linter.unusedVariables false
namespace Go.Proofs.YtcifdllbnbhcdaaGreatDoor
open Go.RowKit
theorem ci97 (args : Array Value) (w : World) : (callFunc 357 args).run Tryz.prog w = .ok (.enter 357 args) w := by
  kernel_rfl
theorem kat_cell {w : World} {g o n : Nat} {ws : List L8} (h : KAt strC 1 w (some ⟨g, o, none⟩) n ws) (i : Nat) (x : L8) (hi : ws[i]? = some x) : w.cell? ⟨g, o + i, none⟩ = some (.string (arr x)) := by
  rcases h.2.2 with h0 | ⟨g', o', e, hc⟩
  · have := (List.getElem?_eq_some_iff.1 hi).1
    rw [h.1] at this; omega
  · cases e
    have := hc i x hi 0 _ rfl
    rw [Nat.mul_one, Nat.add_zero] at this
    exact this
theorem RdB.bel {w0 w w' : World} {b B : Nat} {d : L8} (h : RdB w0 w b d) (hb : Below B w w') (hB : b < B) (hw : w0.heap.size ≤ B) : RdB w0 w' b d := by
  obtain ⟨s, h1, h2, h3⟩ := h
  exact ⟨s, h1.bel hb hB hw, h2, h3⟩
theorem Keep.bel {b : Nat} {w w1 w2 : World} (h : Keep b w w1) (hb : Below w.heap.size w1 w2) : Keep b w w2 := ⟨Nat.le_trans h.1 hb.size, fun k hk hne => (hb.block k hk).trans (h.2 k hk hne)⟩
def tV (g o c : Nat) (a0 a1 a2 a3 : L8) (y0 y1 y2 y3 : Int) (w1 : World) (L : Array Bool) (j : Nat) (v : Value) (W : World) : Prop := match j with
  | 0 | 4 | 8 | 12 => v = .slice (some ⟨g, o, none⟩) 5 c
  | 1 => v = .pointer (some ⟨g, o, none⟩)
  | 5 => v = .pointer (some ⟨g, o + 1, none⟩)
  | 9 => v = .pointer (some ⟨g, o + 2, none⟩)
  | 13 => v = .pointer (some ⟨g, o + 3, none⟩)
  | 2 => v = .string (arr a0)
  | 6 => v = .string (arr a1)
  | 10 => v = .string (arr a2)
  | 14 => v = .string (arr a3)
  | 3 => nuP a0 = some y0 ∧ v = .int .i64 y0
  | 7 => nuP a1 = some y1 ∧ v = .int .i64 y1
  | 11 => nuP a2 = some y2 ∧ v = .int .i64 y2
  | 15 => nuP a3 = some y3 ∧ v = .int .i64 y3
  | 16 => v = .agg #[.int .i64 y0, .int .i64 y1, .int .i64 y2, .int .i64 y3]
  | 17 => ∃ B v0 v1 v2 v3, v = .pointer (some ⟨B, 0, none⟩) ∧ BX w1 W B #[v0, v1, v2, v3] 34 ∧ (L[18]? = some true → v0 = .int .i64 y0 ∧ v1 = .int .i64 y1 ∧ v2 = .int .i64 y2 ∧ v3 = .int .i64 y3)
  | 18 => L[17]? = some true
  | _ => True
theorem tV_keep {g o c : Nat} {a0 a1 a2 a3 : L8} {y0 y1 y2 y3 : Int} {w1 : World} {L : Array Bool} {i j : Nat} {v : Value} {W W' : World} (hb : Below W.heap.size W W') (hi : i ≠ 18) (h : tV g o c a0 a1 a2 a3 y0 y1 y2 y3 w1 L j v W) : tV g o c a0 a1 a2 a3 y0 y1 y2 y3 w1 (L.setIfInBounds i true) j v W' := by
  unfold tV at h ⊢
  split <;> simp only at h ⊢ <;> try exact h
  · obtain ⟨B, v0, v1, v2, v3, h1, h2, h3⟩ := h
    refine ⟨B, v0, v1, v2, v3, h1, h2.next hb, fun hl => h3 ?_⟩
    rw [Array.getElem?_setIfInBounds_ne hi] at hl
    exact hl
  · exact listed_more h
theorem tV_store {g o c : Nat} {a0 a1 a2 a3 : L8} {y0 y1 y2 y3 : Int} {w1 : World} {L : Array Bool} {i j : Nat} {v : Value} {W W' : World} (hj : j ≠ 17) (h : tV g o c a0 a1 a2 a3 y0 y1 y2 y3 w1 L j v W) : tV g o c a0 a1 a2 a3 y0 y1 y2 y3 w1 (L.setIfInBounds i true) j v W' := by
  unfold tV at h ⊢
  split <;> simp only at h ⊢ <;> try exact h
  · exact absurd rfl hj
  · exact listed_more h
set_option maxRecDepth 100000 in
set_option maxHeartbeats 8000000 in
theorem rses_any (b : Nat) (d cl : L8) (n : Int) (w0 w : World) (h : RdB w0 w b d) (hE : Env w0) (hd : d.length < 4294967281) (hn : n ≤ 9223372036854775807) :
    Calls Tryz.prog 358 #[.pointer (some ⟨b, 0, none⟩), .string (arr cl), .int .i64 n] w (SsR (sesP nuP cl n d) w0 b w) := by
  have HA0 : Hid (AccR (stepS nuP cl) (sesP nuP cl n d) [] n.toNat d) := Lib.hid (AccR.start (stepS nuP cl) n.toNat d)
  obtain ⟨r, hr⟩ : ∃ r, sesP nuP cl n d = r := ⟨_, rfl⟩
  rw [hr] at HA0 ⊢
  clear hr
  have HE := Lib.hid hE
  have HR0 := Lib.hid h
  have hbw : b < w.heap.size := by
    obtain ⟨_, hx, _⟩ := h
    exact hx.lt
  have hw00 : w0.heap.size ≤ w.heap.size := h.bl.size
  clear h hE
  go_enter Tryz.func358, Tryz.ntmps358
  go_wp2_with fail
  go_loopw [7, 12] (fun p q wr => ∃ (i : Nat) (xs : List Ses) (t : L8), q = .int .i64 i ∧ i ≤ n.toNat ∧ Hid (SRow wr w.heap.size p xs) ∧ Hid (RdB w0 wr b t) ∧ Hid (Keep b w wr) ∧ Hid (AccR (stepS nuP cl) r xs (n.toNat - i) t) ∧ Hid (xs.length + t.length ≤ d.length)) (fun _ q _ => n.toNat - (intOf q).toNat)
  case atStart => exact ⟨0, [], d, rfl, Nat.zero_le _, Lib.hid (World.ownsRow_nil _ _ _ _), HR0, Lib.hid (Keep.refl _ _), HA0, Lib.hid (by simp)⟩
  case round =>
    clear HR0 HA0
    obtain ⟨i, xs, t, rfl, hi, HS, HR, HK, HA, HL⟩ := hrel
    have hw0 : w.heap.size ≤ wr.heap.size := HK.out.1
    by_cases hlt : (i : Int) < n
    · obtain ⟨k, hk⟩ : ∃ k, n.toNat - i = k + 1 := ⟨n.toNat - i - 1, by omega⟩
      rw [hk] at HA
      have htl : t.length < 4294967281 := by have := HL.out; omega
      have LN := Lib.hid (rline_any96 b t [83] 5 w0 wr HR.out HE.out htl (by omega) (by omega))
      have HST : Hid (stepS nuP cl t = match lnP t [83] 5 with
        | none => none
        | some (w, t) => match nuP (w.getD 0 []), nuP (w.getD 1 []), nuP (w.getD 2 []), nuP (w.getD 3 []) with
          | some a, some b, some c, some d => some (mkS cl a b c d (w.getD 4 []), t)
          | _, _, _, _ => none) := Lib.hid rfl
      have HBB := Lib.hid (fun h : stepS nuP cl t = none => HA.out.bad h)
      have HLN4 := Lib.hid (fun ws u (h : lnP t [83] 5 = some (ws, u)) => lnP_len4 h)
      have HW4 := Lib.hid (fun ws u (h : lnP t [83] 5 = some (ws, u)) i => lnP_word h i)
      go_wp2_with fail
      refine LN.out.mono ?_
      rintro en w1 ⟨h1, hb1, hk1⟩
      have HB1 := Lib.hid hb1
      have HK1x := Lib.hid (HK.out.trans hk1)
      clear hb1 hk1 LN
      cases hln : lnP t [83] 5 with
      | none =>
        rw [hln] at h1 HST
        simp only at h1
        subst h1
        have HN := Lib.hid (HBB.out HST.out)
        clear HST HBB HA
        go_wp2_with fail
        refine ⟨rfl, ?_⟩
        exact SsR.bad HN.out HB1.out HK1x.out
      | some p =>
        obtain ⟨ws, t'⟩ := p
        obtain ⟨hl4, hwl⟩ := HLN4.out ws t' hln
        have HWD := Lib.hid (HW4.out ws t' hln)
        rw [hln] at h1 HST
        simp only at h1 HST
        obtain ⟨g, o, c, rfl, hka, hgw, hrd, hkp⟩ := h1
        match ws, hwl with
        | [a0, a1, a2, a3, a4], _ =>
          simp only [List.getD_cons_zero, List.getD_cons_succ, List.length_cons, List.length_nil] at HST hka ⊢
          have HKA := Lib.hid hka
          have HRD := Lib.hid hrd
          have HKP := Lib.hid (HK.out.trans hkp)
          have HS1 := Lib.hid (hkp.row HS.out hbw)
          have hgb : b ≠ g := by omega
          have hlt5 : t'.length + 5 + 1 ≤ t.length := by omega
          have HSW0 : Hid (wr.heap.size ≤ w1.heap.size) := Lib.hid hkp.1
          have HE1 := Lib.hid (HE.out.below HB1.out)
          have c0 : w1.cell? ⟨g, o, none⟩ = some (.string (arr a0)) := kat_cell HKA.out 0 _ rfl
          have c1 : w1.cell? ⟨g, o + 1, none⟩ = some (.string (arr a1)) := kat_cell HKA.out 1 _ rfl
          have c2 : w1.cell? ⟨g, o + 2, none⟩ = some (.string (arr a2)) := kat_cell HKA.out 2 _ rfl
          have c3 : w1.cell? ⟨g, o + 3, none⟩ = some (.string (arr a3)) := kat_cell HKA.out 3 _ rfl
          have c4 : w1.cell? ⟨g, o + 4, none⟩ = some (.string (arr a4)) := kat_cell HKA.out 4 _ rfl
          clear hka hrd hkp HLN4 HW4 hln HS hl4
          have HSQ := HS1
          go_upto_region 5 with fail
          refine wp_region_rel (N := 50) (tV g o c a0 a1 a2 a3 ((nuP a0).getD 0) ((nuP a1).getD 0) ((nuP a2).getD 0) ((nuP a3).getD 0) w1) (fun _ W => Below w1.heap.size w1 W) (by kernel_rfl) (by kernel_rfl) (by rfl) (bel_drew0 _) ?_ ?_
          · intro i o L a W ho hl hL hS hdf dep all fr
            match i, ho with
            | 0, ho =>
              obtain rfl := (Option.some.inj ho).symm
              have f8 := fr 8 (by kernel_rfl)
              unfold Oper.wp
              simp [go_sem, f8]
              exact ⟨_, rfl, rfl, hS, fun j oj u _ _ _ _ hu => tV_keep (Below.refl _ _) (by decide) hu⟩
            | 1, ho =>
              obtain rfl := (Option.some.inj ho).symm
              obtain ⟨_, v0, h0, d0⟩ := dep 0 _ rfl (by kernel_rfl)
              have d0 := d0 16 rfl
              obtain rfl : v0 = .slice (some ⟨g, o, none⟩) 5 c := h0
              unfold Oper.wp
              simp [go_sem, d0]
              exact ⟨_, rfl, rfl, hS, fun j oj u _ _ _ _ hu => tV_keep (Below.refl _ _) (by decide) hu⟩
            | 2, ho =>
              obtain rfl := (Option.some.inj ho).symm
              obtain ⟨_, v0, h0, d0⟩ := dep 1 _ rfl (by kernel_rfl)
              have d0 := d0 17 rfl
              obtain rfl : v0 = .pointer (some ⟨g, o, none⟩) := h0
              have hc := below_cell9 hS c0
              unfold Oper.wp
              simp [go_sem, d0, hc]
              exact ⟨_, rfl, rfl, hS, fun j oj u _ _ _ _ hu => tV_keep (Below.refl _ _) (by decide) hu⟩
            | 3, ho =>
              obtain rfl := (Option.some.inj ho).symm
              obtain ⟨_, v0, h0, d0⟩ := dep 2 _ rfl (by kernel_rfl)
              have d0 := d0 18 rfl
              obtain rfl : v0 = .string (arr a0) := h0
              refine wp_call1 (args := #[.string (arr a0)]) rfl (by simp [Act.eval, d0]) (ci97 _ _) (number_any a0 W (HE1.out.below hS) (by have := HWD.out 0; simp at this; omega)) ?_
              rintro e w' h1
              unfold NumR at h1
              cases hn : nuP a0 with
              | none =>
                rw [hn] at h1
                obtain ⟨rfl, hb⟩ := h1
                refine ⟨hdf, SsR.bad (HBB.out ?_) (HB1.out.trans ((below3 hS hb).mono HB1.out.size)) (HK1x.out.trans (Keep.of_below (below3 hS hb)))⟩
                rw [HST.out, hn]
              | some y =>
                rw [hn] at h1
                obtain ⟨rfl, hb⟩ := h1
                exact ⟨_, rfl, ⟨by first | rfl | (rw [hn]; rfl), by first | rfl | (rw [hn]; rfl)⟩, below3 hS hb, fun j oj u _ _ _ _ hu => tV_keep hb (by decide) hu⟩
            | 4, ho =>
              obtain rfl := (Option.some.inj ho).symm
              have f8 := fr 8 (by kernel_rfl)
              unfold Oper.wp
              simp [go_sem, f8]
              exact ⟨_, rfl, rfl, hS, fun j oj u _ _ _ _ hu => tV_keep (Below.refl _ _) (by decide) hu⟩
            | 5, ho =>
              obtain rfl := (Option.some.inj ho).symm
              obtain ⟨_, v0, h0, d0⟩ := dep 4 _ rfl (by kernel_rfl)
              have d0 := d0 20 rfl
              obtain rfl : v0 = .slice (some ⟨g, o, none⟩) 5 c := h0
              unfold Oper.wp
              simp [go_sem, d0]
              exact ⟨_, rfl, rfl, hS, fun j oj u _ _ _ _ hu => tV_keep (Below.refl _ _) (by decide) hu⟩
            | 6, ho =>
              obtain rfl := (Option.some.inj ho).symm
              obtain ⟨_, v0, h0, d0⟩ := dep 5 _ rfl (by kernel_rfl)
              have d0 := d0 21 rfl
              obtain rfl : v0 = .pointer (some ⟨g, o + 1, none⟩) := h0
              have hc := below_cell9 hS c1
              unfold Oper.wp
              simp [go_sem, d0, hc]
              exact ⟨_, rfl, rfl, hS, fun j oj u _ _ _ _ hu => tV_keep (Below.refl _ _) (by decide) hu⟩
            | 7, ho =>
              obtain rfl := (Option.some.inj ho).symm
              obtain ⟨_, v0, h0, d0⟩ := dep 6 _ rfl (by kernel_rfl)
              have d0 := d0 22 rfl
              obtain rfl : v0 = .string (arr a1) := h0
              refine wp_call1 (args := #[.string (arr a1)]) rfl (by simp [Act.eval, d0]) (ci97 _ _) (number_any a1 W (HE1.out.below hS) (by have := HWD.out 1; simp at this; omega)) ?_
              rintro e w' h1
              unfold NumR at h1
              cases hn : nuP a1 with
              | none =>
                rw [hn] at h1
                obtain ⟨rfl, hb⟩ := h1
                refine ⟨hdf, SsR.bad (HBB.out ?_) (HB1.out.trans ((below3 hS hb).mono HB1.out.size)) (HK1x.out.trans (Keep.of_below (below3 hS hb)))⟩
                rw [HST.out, hn]
                cases nuP a0 <;> rfl
              | some y =>
                rw [hn] at h1
                obtain ⟨rfl, hb⟩ := h1
                exact ⟨_, rfl, ⟨by first | rfl | (rw [hn]; rfl), by first | rfl | (rw [hn]; rfl)⟩, below3 hS hb, fun j oj u _ _ _ _ hu => tV_keep hb (by decide) hu⟩
            | 8, ho =>
              obtain rfl := (Option.some.inj ho).symm
              have f8 := fr 8 (by kernel_rfl)
              unfold Oper.wp
              simp [go_sem, f8]
              exact ⟨_, rfl, rfl, hS, fun j oj u _ _ _ _ hu => tV_keep (Below.refl _ _) (by decide) hu⟩
            | 9, ho =>
              obtain rfl := (Option.some.inj ho).symm
              obtain ⟨_, v0, h0, d0⟩ := dep 8 _ rfl (by kernel_rfl)
              have d0 := d0 24 rfl
              obtain rfl : v0 = .slice (some ⟨g, o, none⟩) 5 c := h0
              unfold Oper.wp
              simp [go_sem, d0]
              exact ⟨_, rfl, rfl, hS, fun j oj u _ _ _ _ hu => tV_keep (Below.refl _ _) (by decide) hu⟩
            | 10, ho =>
              obtain rfl := (Option.some.inj ho).symm
              obtain ⟨_, v0, h0, d0⟩ := dep 9 _ rfl (by kernel_rfl)
              have d0 := d0 25 rfl
              obtain rfl : v0 = .pointer (some ⟨g, o + 2, none⟩) := h0
              have hc := below_cell9 hS c2
              unfold Oper.wp
              simp [go_sem, d0, hc]
              exact ⟨_, rfl, rfl, hS, fun j oj u _ _ _ _ hu => tV_keep (Below.refl _ _) (by decide) hu⟩
            | 11, ho =>
              obtain rfl := (Option.some.inj ho).symm
              obtain ⟨_, v0, h0, d0⟩ := dep 10 _ rfl (by kernel_rfl)
              have d0 := d0 26 rfl
              obtain rfl : v0 = .string (arr a2) := h0
              refine wp_call1 (args := #[.string (arr a2)]) rfl (by simp [Act.eval, d0]) (ci97 _ _) (number_any a2 W (HE1.out.below hS) (by have := HWD.out 2; simp at this; omega)) ?_
              rintro e w' h1
              unfold NumR at h1
              cases hn : nuP a2 with
              | none =>
                rw [hn] at h1
                obtain ⟨rfl, hb⟩ := h1
                refine ⟨hdf, SsR.bad (HBB.out ?_) (HB1.out.trans ((below3 hS hb).mono HB1.out.size)) (HK1x.out.trans (Keep.of_below (below3 hS hb)))⟩
                rw [HST.out, hn]
                cases nuP a0 <;> cases nuP a1 <;> rfl
              | some y =>
                rw [hn] at h1
                obtain ⟨rfl, hb⟩ := h1
                exact ⟨_, rfl, ⟨by first | rfl | (rw [hn]; rfl), by first | rfl | (rw [hn]; rfl)⟩, below3 hS hb, fun j oj u _ _ _ _ hu => tV_keep hb (by decide) hu⟩
            | 12, ho =>
              obtain rfl := (Option.some.inj ho).symm
              have f8 := fr 8 (by kernel_rfl)
              unfold Oper.wp
              simp [go_sem, f8]
              exact ⟨_, rfl, rfl, hS, fun j oj u _ _ _ _ hu => tV_keep (Below.refl _ _) (by decide) hu⟩
            | 13, ho =>
              obtain rfl := (Option.some.inj ho).symm
              obtain ⟨_, v0, h0, d0⟩ := dep 12 _ rfl (by kernel_rfl)
              have d0 := d0 28 rfl
              obtain rfl : v0 = .slice (some ⟨g, o, none⟩) 5 c := h0
              unfold Oper.wp
              simp [go_sem, d0]
              exact ⟨_, rfl, rfl, hS, fun j oj u _ _ _ _ hu => tV_keep (Below.refl _ _) (by decide) hu⟩
            | 14, ho =>
              obtain rfl := (Option.some.inj ho).symm
              obtain ⟨_, v0, h0, d0⟩ := dep 13 _ rfl (by kernel_rfl)
              have d0 := d0 29 rfl
              obtain rfl : v0 = .pointer (some ⟨g, o + 3, none⟩) := h0
              have hc := below_cell9 hS c3
              unfold Oper.wp
              simp [go_sem, d0, hc]
              exact ⟨_, rfl, rfl, hS, fun j oj u _ _ _ _ hu => tV_keep (Below.refl _ _) (by decide) hu⟩
            | 15, ho =>
              obtain rfl := (Option.some.inj ho).symm
              obtain ⟨_, v0, h0, d0⟩ := dep 14 _ rfl (by kernel_rfl)
              have d0 := d0 30 rfl
              obtain rfl : v0 = .string (arr a3) := h0
              refine wp_call1 (args := #[.string (arr a3)]) rfl (by simp [Act.eval, d0]) (ci97 _ _) (number_any a3 W (HE1.out.below hS) (by have := HWD.out 3; simp at this; omega)) ?_
              rintro e w' h1
              unfold NumR at h1
              cases hn : nuP a3 with
              | none =>
                rw [hn] at h1
                obtain ⟨rfl, hb⟩ := h1
                refine ⟨hdf, SsR.bad (HBB.out ?_) (HB1.out.trans ((below3 hS hb).mono HB1.out.size)) (HK1x.out.trans (Keep.of_below (below3 hS hb)))⟩
                rw [HST.out, hn]
                cases nuP a0 <;> cases nuP a1 <;> cases nuP a2 <;> rfl
              | some y =>
                rw [hn] at h1
                obtain ⟨rfl, hb⟩ := h1
                exact ⟨_, rfl, ⟨by first | rfl | (rw [hn]; rfl), by first | rfl | (rw [hn]; rfl)⟩, below3 hS hb, fun j oj u _ _ _ _ hu => tV_keep hb (by decide) hu⟩
            | 16, ho =>
              obtain rfl := (Option.some.inj ho).symm
              obtain ⟨_, v0, ⟨_, rfl⟩, d0⟩ := dep 3 _ rfl (by kernel_rfl)
              obtain ⟨_, v1, ⟨_, rfl⟩, d1⟩ := dep 7 _ rfl (by kernel_rfl)
              obtain ⟨_, v2, ⟨_, rfl⟩, d2⟩ := dep 11 _ rfl (by kernel_rfl)
              obtain ⟨_, v3, ⟨_, rfl⟩, d3⟩ := dep 15 _ rfl (by kernel_rfl)
              have d0 := d0 19 rfl
              have d1 := d1 23 rfl
              have d2 := d2 27 rfl
              have d3 := d3 31 rfl
              unfold Oper.wp
              simp [go_sem, d0, d1, d2, d3]
              exact ⟨_, rfl, rfl, hS, fun j oj u _ _ _ _ hu => tV_keep (Below.refl _ _) (by decide) hu⟩
            | 17, ho =>
              obtain rfl := (Option.some.inj ho).symm
              have h18 : ¬ L[18]? = some true := fun h => by
                obtain ⟨v, hv⟩ := all 18 _ rfl h
                have hv : L[17]? = some true := hv
                rw [hl] at hv; cases hv
              unfold Oper.wp
              simp [go_sem]
              exact ⟨_, rfl, ⟨W.heap.size, _, _, _, _, rfl, ⟨heap_alloc_new _ _, hS.size, hS.alloc hS.size _⟩, fun h => absurd h (listed_not h18 (by decide))⟩, hS.alloc hS.size _, fun j oj u _ _ _ _ hu => tV_keep ((Below.refl _ _).alloc (Nat.le_refl _) _) (by decide) hu⟩
            | 18, ho =>
              obtain rfl := (Option.some.inj ho).symm
              obtain ⟨_, v0, h0, d0⟩ := dep 16 _ rfl (by kernel_rfl)
              obtain ⟨h17, v1, ⟨B, x0, x1, x2, x3, rfl, hbx, _⟩, d1⟩ := dep 17 _ rfl (by kernel_rfl)
              obtain rfl : v0 = .agg #[.int .i64 _, .int .i64 _, .int .i64 _, .int .i64 _] := h0
              have d0 := d0 32 rfl
              have d1 := d1 9 rfl
              obtain ⟨⟨e0, e1, e2, e3⟩, z0, z1, z2, z3⟩ := hbx.four
              have hb4 := hbx.set4 (.int .i64 ((nuP a0).getD 0)) (.int .i64 ((nuP a1).getD 0)) (.int .i64 ((nuP a2).getD 0)) (.int .i64 ((nuP a3).getD 0))
              unfold Oper.wp
              simp [go_sem, d0, d1, e0, e1, e2, e3, z0, z1, z2, z3]
              refine ⟨.tuple #[], rfl, listed_more h17, hb4.bl, fun j oj u hj hne hlj hsl hu => ?_⟩
              by_cases hj17 : j = 17
              · subst hj17
                obtain rfl := (Option.some.inj hj).symm
                have hu9 := hsl 9 rfl
                rw [d1] at hu9
                obtain rfl := (Option.some.inj hu9).symm
                exact ⟨B, _, _, _, _, rfl, hb4, fun _ => ⟨rfl, rfl, rfl, rfl⟩⟩
              · exact tV_store hj17 hu
          · intro vs W hS hV
            have h0 := hV 3 _ rfl
            have h1 := hV 7 _ rfl
            have h2 := hV 11 _ rfl
            have h3 := hV 15 _ rfl
            obtain ⟨B, x0, x1, x2, x3, hv17, hbx, hx⟩ := hV 17 _ rfl
            obtain ⟨rfl, rfl, rfl, rfl⟩ := hx rfl
            obtain ⟨y0, hy0⟩ : ∃ y, nuP a0 = some y := ⟨_, h0.1⟩
            obtain ⟨y1, hy1⟩ : ∃ y, nuP a1 = some y := ⟨_, h1.1⟩
            obtain ⟨y2, hy2⟩ : ∃ y, nuP a2 = some y := ⟨_, h2.1⟩
            obtain ⟨y3, hy3⟩ : ∃ y, nuP a3 = some y := ⟨_, h3.1⟩
            rw [hy0, hy1, hy2, hy3] at hbx HST
            simp only [Option.getD_some] at hbx HST
            have HA1 := Lib.hid (HA.out.step HST.out)
            have HBX := Lib.hid hbx
            have HSW := Lib.hid hS
            have cc4 := below_cell9 hS c4
            have HR1 := Lib.hid (HRD.out.next hS)
            have HK1 := Lib.hid (HKP.out.trans (Keep.of_below hS))
            have HSX := Lib.hid (row_below HSQ.out hS)
            have hl5 : t'.length + 5 + 1 ≤ t.length := hlt5
            clear h0 h1 h2 h3 hx hV c0 c1 c2 c3 c4 hS HST HA hy0 hy1 hy2 hy3 hbx HSQ HRD HKP HBB
            simp only [putAll, Act.put]
            rw [hv17]
            obtain ⟨⟨e0, e1, e2, e3⟩, _⟩ := HBX.out.four
            clear hv17
            have HB2 := Lib.hid (BX.mk0 (vs := #[.string (arr cl), .int .i64 y0, .int .i64 y1, .int .i64 y2, .int .i64 y3, .string (arr [])]) (T := 43) W)
            go_upto_region 7 with fail
            change Hid (BX W (W.alloc (.cells #[.string (arr cl), .int .i64 y0, .int .i64 y1, .int .i64 y2, .int .i64 y3, .string ⟨#[]⟩] 43)) W.heap.size _ _) at HB2
            generalize W.alloc (.cells #[.string (arr cl), .int .i64 y0, .int .i64 y1, .int .i64 y2, .int .i64 y3, .string ⟨#[]⟩] 43) = wb at *
            obtain ⟨S, hSz⟩ : ∃ S, S = W.heap.size := ⟨_, rfl⟩
            rw [← hSz] at HB2 ⊢
            clear hSz e0 e1 e2 e3
            have cc4 := below_cell9 HB2.out.bl cc4
            have HR1w := HR1
            have HK1w := HK1
            have HSXw := HSX
            have HR1 := Lib.hid (HR1w.out.next HB2.out.bl)
            have HK1 := Lib.hid (HK1w.out.trans (Keep.of_below HB2.out.bl))
            have HSX := Lib.hid (row_below HSXw.out HB2.out.bl)
            have hwS : w.heap.size ≤ S := Nat.le_trans (Nat.le_trans hw0 HSW0.out) (Nat.le_trans HSW.out.size HB2.out.lo)
            have hxl : xs.length < 4294967281 := by have := HL.out; omega
            by_cases h45 : a4 = [45]
            · have q1 : ((arr a4).toList == [45]) = true := by rw [arr_toList, h45]; rfl
              have q2 : (arr a4).toList = [45] := by rw [arr_toList, h45]
              have HX5 : Hid (mkS cl y0 y1 y2 y3 a4 = (cl, y0, y1, y2, y3, [])) := Lib.hid (by unfold mkS; rw [if_pos h45])
              clear h45
              obtain ⟨x0, x1, x2, x3, x4, x5⟩ := BX.six (s := (cl, y0, y1, y2, y3, [])) HB2.out
              simp only at x0 x1 x2 x3 x4 x5
              go_wp2_with (at_builtin; refine wpList_app elemSes encSes rfl _ _ rfl w.heap.size _ xs rfl (row_below HSX.out ((Below.refl _ _).alloc (Nat.le_refl _) _)) _ _ _ [(cl, y0, y1, y2, y3, [])] rfl (KAt.one (f := sesC) (k := 6) wb (cl, y0, y1, y2, y3, []) 43) (by simp <;> omega) (by have := HK1.out.1; simp <;> omega) ?_)
              intro v6 w6 hr6 hb6 hg6 ho6
              have HR6 := Lib.hid hr6
              have HB6 : Hid (Below w.heap.size wb w6) := Lib.hid (((Below.refl _ _).alloc HK1.out.1 _).trans hb6)
              have HRF := Lib.hid (HR1.out.bel HB6.out hbw hw00)
              have HKF := Lib.hid (HK1.out.bel HB6.out)
              have HAF : Hid (AccR (stepS nuP cl) r (xs ++ [(cl, y0, y1, y2, y3, [])]) (n.toNat - (i + 1)) t') := Lib.hid (by rw [← HX5.out, show n.toNat - (i + 1) = k by omega]; exact HA1.out)
              clear hr6 hb6 hg6 ho6 x0 x1 x2 x3 x4 x5
              go_wp2_with fail
              go_roundw
              case rel => exact ⟨i + 1, xs ++ [(cl, y0, y1, y2, y3, [])], t', by go_num, by omega, HR6, HRF, HKF, HAF, Lib.hid (by have := HL.out; rw [List.length_append]; simp; omega)⟩
              case measure => simp [intOf]; omega
            · have q1 : ((arr a4).toList == [45]) = false := by rw [arr_toList]; simpa using h45
              have q2 : ¬ (arr a4).toList = [45] := by rw [arr_toList]; exact h45
              have HX5 : Hid (mkS cl y0 y1 y2 y3 a4 = (cl, y0, y1, y2, y3, a4)) := Lib.hid (by unfold mkS; rw [if_neg h45])
              have z5 := HB2.out.fz 5
              have x5 := HB2.out.cell 5
              simp only [List.getElem?_toArray, List.getElem?_cons_zero, List.getElem?_cons_succ] at x5
              have HB3 := Lib.hid (HB2.out.set 5 (.string (arr a4)))
              change Hid (BX W (wb.setCell ⟨S, 5, none⟩ (.string (arr a4))) S #[.string (arr cl), .int .i64 y0, .int .i64 y1, .int .i64 y2, .int .i64 y3, .string (arr a4)] _) at HB3
              clear h45
              go_upto_region 9 with fail
              generalize wb.setCell ⟨S, 5, none⟩ (.string (arr a4)) = wd at *
              have HR1 := Lib.hid (HR1w.out.next HB3.out.bl)
              have HK1 := Lib.hid (HK1w.out.trans (Keep.of_below HB3.out.bl))
              have HSX := Lib.hid (row_below HSXw.out HB3.out.bl)
              have HB2 := HB3
              clear x5 z5
              obtain ⟨x0, x1, x2, x3, x4, x5⟩ := BX.six (s := (cl, y0, y1, y2, y3, a4)) HB2.out
              simp only at x0 x1 x2 x3 x4 x5
              go_wp2_with (at_builtin; refine wpList_app elemSes encSes rfl _ _ rfl w.heap.size _ xs rfl (row_below HSX.out ((Below.refl _ _).alloc (Nat.le_refl _) _)) _ _ _ [(cl, y0, y1, y2, y3, a4)] rfl (KAt.one (f := sesC) (k := 6) wd (cl, y0, y1, y2, y3, a4) 43) (by simp <;> omega) (by have := HK1.out.1; simp <;> omega) ?_)
              intro v6 w6 hr6 hb6 hg6 ho6
              have HR6 := Lib.hid hr6
              have HB6 : Hid (Below w.heap.size wd w6) := Lib.hid (((Below.refl _ _).alloc HK1.out.1 _).trans hb6)
              have HRF := Lib.hid (HR1.out.bel HB6.out hbw hw00)
              have HKF := Lib.hid (HK1.out.bel HB6.out)
              have HAF : Hid (AccR (stepS nuP cl) r (xs ++ [(cl, y0, y1, y2, y3, a4)]) (n.toNat - (i + 1)) t') := Lib.hid (by rw [← HX5.out, show n.toNat - (i + 1) = k by omega]; exact HA1.out)
              clear hr6 hb6 hg6 ho6 x0 x1 x2 x3 x4 x5
              go_wp2_with fail
              go_roundw
              case rel => exact ⟨i + 1, xs ++ [(cl, y0, y1, y2, y3, a4)], t', by go_num, by omega, HR6, HRF, HKF, HAF, Lib.hid (by have := HL.out; rw [List.length_append]; simp; omega)⟩
              case measure => simp [intOf]; omega
    · have hk : n.toNat - i = 0 := by omega
      rw [hk] at HA
      have HN := Lib.hid (HA.out.stop)
      clear HA
      go_wp2_with fail
      go_ret
      exact SsR.ok HN.out HS.out HR.out HK.out
end Go.Proofs.YtcifdllbnbhcdaaGreatDoor
