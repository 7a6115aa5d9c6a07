/- Texts V100, joined: walks and laws. -/
import Derived.Test.YtcifdllbnbhcdaaGreatDoorMV19
set_option linter.unusedSimpArgs false
set_option linter.unusedVariables false
namespace Go.Proofs.YtcifdllbnbhcdaaGreatDoor
open Go.RowKit
theorem opnP : OpnP := fun a n c b m w hx ho hE => open_any a n c b m w hx ho hE
theorem vldP : VldP := vldP_of opnP
theorem ci80 (args : Array Value) (w : World) : (callFunc 67 args).run Tryz.prog w = .ok (.enter 67 args) w := by
  kernel_rfl
def CopR (num wk : Int) (cs : List Chg) (w : World) (e : Ending) (w' : World) : Prop := ∃ s' : Sl, e = .returned (verV num wk s') ∧ HRow w' w.heap.size (slV s') cs ∧ Below w.heap.size w w'
def kV (B : Nat) (x y : Sl) (xs ys : List Ses) (L : Array Bool) (j : Nat) (v : Value) (W : World) : Prop := match j with
  | 0 | 6 => v = .pointer (some ⟨B, 1, none⟩)
  | 3 | 8 => v = .pointer (some ⟨B, 2, none⟩)
  | 1 => v = .slice x.1 x.2.1 x.2.2
  | 4 => v = .slice y.1 y.2.1 y.2.2
  | 2 => ∃ A n c, v = .slice A n c ∧ SRow W (B + 1) (.slice A n c) xs
  | 5 => ∃ A n c, v = .slice A n c ∧ SRow W (B + 1) (.slice A n c) ys
  | 7 => (L[1]? = some true ∧ L[4]? = some true) ∧ ∃ A n c, SRow W (B + 1) (.slice A n c) xs ∧ W.cell? ⟨B, 1, none⟩ = some (.slice A n c)
  | 9 => (L[1]? = some true ∧ L[4]? = some true) ∧ ∃ A n c, SRow W (B + 1) (.slice A n c) ys ∧ W.cell? ⟨B, 2, none⟩ = some (.slice A n c)
  | _ => True
def kS (B : Nat) (cl : L8) (x y : Sl) (w4 : World) (L : Array Bool) (W : World) : Prop := ∃ v1 v2, BX w4 W B #[.string (arr cl), v1, v2] 161 ∧ (¬ L[7]? = some true → v1 = .slice x.1 x.2.1 x.2.2) ∧ (¬ L[9]? = some true → v2 = .slice y.1 y.2.1 y.2.2)
section
variable {B : Nat} {cl : L8} {x y : Sl} {xs ys : List Ses} {w4 : World} {L : Array Bool} {i j : Nat} {v : Value} {W W' : World}
theorem kS_keep (hb : Below W.heap.size W W') (h : kS B cl x y w4 L W) : kS B cl x y w4 (L.setIfInBounds i true) W' := by
  obtain ⟨v1, v2, h1, h2, h3⟩ := h
  exact ⟨v1, v2, h1.next hb, fun h => h2 (not_more h), fun h => h3 (not_more h)⟩
theorem kV_keep (hb : Below W.heap.size W W') (h7 : i ≠ 7) (h9 : i ≠ 9) (h : kV B x y xs ys L j v W) : kV B x y xs ys (L.setIfInBounds i true) j v W' := by
  unfold kV at h ⊢
  split <;> simp only at h ⊢ <;> try exact h
  · obtain ⟨A, n, c, h1, h2⟩ := h
    exact ⟨A, n, c, h1, row_below h2 hb⟩
  · obtain ⟨A, n, c, h1, h2⟩ := h
    exact ⟨A, n, c, h1, row_below h2 hb⟩
  · obtain ⟨h0, A, n, c, h1, h2⟩ := h
    exact ⟨⟨listed_more h0.1, listed_more h0.2⟩, A, n, c, row_below h1 hb, below_cell9 hb h2⟩
  · obtain ⟨h0, A, n, c, h1, h2⟩ := h
    exact ⟨⟨listed_more h0.1, listed_more h0.2⟩, A, n, c, row_below h1 hb, below_cell9 hb h2⟩
theorem kV_set (o : Nat) (u : Value) (h7 : o = 1 → j ≠ 7) (h9 : o = 2 → j ≠ 9) (ho : o = 1 ∨ o = 2) (h : kV B x y xs ys L j v W) : kV B x y xs ys (L.setIfInBounds i true) j v (W.setCell ⟨B, o, none⟩ u) := by
  unfold kV at h ⊢
  split <;> simp only at h ⊢ <;> try exact h
  · obtain ⟨A, n, c, h1, h2⟩ := h
    exact ⟨A, n, c, h1, row_set h2 (p := ⟨B, o, none⟩) (Nat.lt_succ_self B) u⟩
  · obtain ⟨A, n, c, h1, h2⟩ := h
    exact ⟨A, n, c, h1, row_set h2 (p := ⟨B, o, none⟩) (Nat.lt_succ_self B) u⟩
  · obtain ⟨h0, A, n, c, h1, h2⟩ := h
    refine ⟨⟨listed_more h0.1, listed_more h0.2⟩, A, n, c, row_set h1 (p := ⟨B, o, none⟩) (Nat.lt_succ_self B) u, ?_⟩
    rcases ho with rfl | rfl
    · exact absurd rfl (h7 rfl)
    · rw [World.cell?_setCell_other _ _ _ _ (by simp)]; exact h2
  · obtain ⟨h0, A, n, c, h1, h2⟩ := h
    refine ⟨⟨listed_more h0.1, listed_more h0.2⟩, A, n, c, row_set h1 (p := ⟨B, o, none⟩) (Nat.lt_succ_self B) u, ?_⟩
    rcases ho with rfl | rfl
    · rw [World.cell?_setCell_other _ _ _ _ (by simp)]; exact h2
    · exact absurd rfl (h9 rfl)
end
set_option maxRecDepth 100000 in
set_option maxHeartbeats 16000000 in
theorem copied_any (num wk : Int) (s : Sl) (cs : List Chg) (w : World) (hv : HV w s cs) (hn : cs.length ≤ 1000000) (hz : ∀ c ∈ cs, c.2.1.length * 64 ≤ 140737488355328 ∧ c.2.2.length * 64 ≤ 140737488355328) :
    Calls Tryz.prog 286 #[verV num wk s] w (CopR num wk cs w) := by
  obtain ⟨pa, pn, pc⟩ := s
  have hpl : cs.length = pn := hv.2.len.1
  have HVV := Lib.hid hv.2
  have HZ := Lib.hid hz
  clear hv hz
  go_enter Tryz.func286, Tryz.ntmps286
  have HA := Lib.hid (BX.mk0 (vs := #[.int .i64 num, .int .i64 wk, .slice pa pn pc]) (T := 157) w)
  go_upto_region 1 with fail
  have hsa : (w.alloc (.cells #[.int .i64 num, .int .i64 wk, .slice pa pn pc] 157)).heap.size = w.heap.size + 1 := by simp
  generalize w.alloc (.cells #[.int .i64 num, .int .i64 wk, .slice pa pn pc] 157) = wa at *
  obtain ⟨R, hR⟩ : ∃ R, R = w.heap.size := ⟨_, rfl⟩
  rw [← hR] at HA hsa ⊢
  have hRw : w.heap.size ≤ R := by omega
  clear hR
  have HB := Lib.hid (BX.mk0 (vs := #[.int .i64 0, .int .i64 0, .slice none 0 0]) (T := 157) wa)
  rw [hsa] at HB
  clear hsa
  generalize wa.alloc (.cells #[.int .i64 0, .int .i64 0, .slice none 0 0] 157) = wb at *
  obtain ⟨R2, hR2⟩ : ∃ R2, R2 = R + 1 := ⟨_, rfl⟩
  rw [← hR2] at HB ⊢
  have hne : R2 ≠ R := by omega
  have hle : w.heap.size ≤ R2 := by omega
  clear hR2
  have HA := Lib.hid (HA.out.next HB.out.bl)
  have HB : Hid (BX w wb R2 _ _) := Lib.hid ⟨HB.out.hp, hle, HA.out.bl⟩
  have HA2 : Hid (BX w _ R #[.int .i64 num, .int .i64 wk, .slice none 0 0] 157) := Lib.hid (HA.out.set 2 (.slice none 0 0))
  have HB2 := Lib.hid (HB.out.oth (Ne.symm hne) HA.out.lo 2 (.slice none 0 0))
  obtain ⟨⟨a0, a1, a2⟩, _, _, z2⟩ := HA.out.three
  go_upto_region 3 with fail
  generalize wb.setCell ⟨R, 2, none⟩ (.slice none 0 0) = wd at *
  clear a0 a1 a2 z2
  obtain ⟨M, hM⟩ : ∃ M, M = wd.heap.size := ⟨_, rfl⟩
  have hRM : R < M := by rw [hM]; exact HA2.out.lt
  have hR2M : R2 < M := by rw [hM]; exact HB2.out.lt
  have HM0 := Lib.hid (Nat.le_of_eq hM)
  have hMw : w.heap.size ≤ M := by omega
  clear hM
  go_wp2_with fail
  go_loopw [11] (fun q wr => ∃ (j : Nat) (p : Sl), q = .int .i64 j ∧ j ≤ pn ∧ Hid (BX w wr R #[.int .i64 num, .int .i64 wk, .slice p.1 p.2.1 p.2.2] 157) ∧ Hid (BX w wr R2 #[.int .i64 0, .int .i64 0, .slice none 0 0] 157) ∧ Hid (HRow wr M (slV p) (cs.take j)) ∧ Hid (M ≤ wr.heap.size)) (fun q _ => pn - (intOf q).toNat)
  case atStart => exact ⟨0, (none, 0, 0), rfl, Nat.zero_le _, HA2, HB2, Lib.hid (HRow.nil _ _), HM0⟩
  case round =>
    clear HM0 HA2 HB2 HA HB
    obtain ⟨j, ⟨ta, tn, tc⟩, rfl, hj, HA, HB, HH, HM⟩ := hrel
    by_cases hlt : j < pn
    · have q1 : (j : Int) < pn := by omega
      have q2 : (0 : Int) ≤ j := by omega
      obtain ⟨b1, o1, x, ⟨xa, xn, xc⟩, ⟨ya, yn, yc⟩, rfl, gx, z1, x0, x1, x2, hxs, hys⟩ := HAt.cells (HVV.out.below HA.out.bl) hlt
      have HXX := Lib.hid hxs
      have HYY := Lib.hid hys
      have HTK := Lib.hid (show cs.take (j + 1) = cs.take j ++ [x] by rw [List.take_add_one, gx]; rfl)
      have hzx := HZ.out x (List.mem_of_getElem? gx)
      obtain ⟨cl, xs, ys⟩ := x
      have hxl : xs.length = xn := hxs.2.1
      have hyl : ys.length = yn := hys.2.1
      simp only at hzx x0 hxs hys
      clear hxs hys gx
      have HBX := Lib.hid (BX.mk0 (vs := #[.string (arr cl), .slice xa xn xc, .slice ya yn yc]) (T := 161) wr)
      go_upto_region 6 with fail
      generalize wr.alloc (.cells #[.string (arr cl), .slice xa xn xc, .slice ya yn yc] 161) = w5 at *
      obtain ⟨w4, hw4⟩ : ∃ w4 : World, w4 = wr := ⟨_, rfl⟩
      subst hw4
      obtain ⟨B, hB⟩ : ∃ B, B = w4.heap.size := ⟨_, rfl⟩
      rw [← hB] at HBX ⊢
      have hMB : M ≤ B := by have := HM.out; omega
      clear hB x0 x1 x2 z1
      refine wp_region_rel (N := 31) (kV B (xa, xn, xc) (ya, yn, yc) xs ys) (kS B cl (xa, xn, xc) (ya, yn, yc) w4) (by kernel_rfl) (by kernel_rfl) (by rfl) ⟨_, _, HBX.out.next (bel_drew0 _), fun _ => rfl, fun _ => rfl⟩ ?_ ?_
      · intro i o L a W ho hl hL hS hdf dep all fr
        match i, ho with
        | 0, ho =>
          obtain rfl := (Option.some.inj ho).symm
          have f8 := fr 5 (by kernel_rfl)
          unfold Oper.wp
          simp [go_sem, f8]
          exact ⟨_, rfl, rfl, kS_keep (Below.refl _ _) hS, fun j oj u _ _ _ _ hu => kV_keep (Below.refl _ _) (by decide) (by decide) hu⟩
        | 1, ho =>
          obtain rfl := (Option.some.inj ho).symm
          obtain ⟨_, v0, h0, d0⟩ := dep 0 _ rfl (by kernel_rfl)
          have d0 := d0 15 rfl
          obtain rfl : v0 = .pointer (some ⟨B, 1, none⟩) := h0
          have hn7 : ¬ L[7]? = some true := fun h => by
            obtain ⟨v, hv⟩ := all 7 _ rfl h
            have := hv.1.1
            rw [hl] at this; cases this
          have hn9 : ¬ L[9]? = some true := fun h => by
            obtain ⟨v, hv⟩ := all 9 _ rfl h
            have := hv.1.1
            rw [hl] at this; cases this
          obtain ⟨u1, u2, hbx, e1, e2⟩ := id hS
          obtain rfl := e1 hn7
          obtain rfl := e2 hn9
          obtain ⟨⟨_, c1, c2⟩, _⟩ := hbx.three
          unfold Oper.wp
          simp [go_sem, d0, c1]
          exact ⟨_, rfl, rfl, kS_keep (Below.refl _ _) hS, fun j oj u _ _ _ _ hu => kV_keep (Below.refl _ _) (by decide) (by decide) hu⟩
        | 2, ho =>
          obtain rfl := (Option.some.inj ho).symm
          obtain ⟨_, v1, h1, d1⟩ := dep 1 _ rfl (by kernel_rfl)
          have d1 := d1 16 rfl
          obtain rfl : v1 = .slice xa xn xc := h1
          have hbl : Below w4.heap.size w4 W := by
            obtain ⟨_, _, hbx, _⟩ := id hS
            exact hbx.bl
          have hBW : B < W.heap.size := by
            obtain ⟨_, _, hbx, _⟩ := id hS
            exact hbx.lt
          refine wp_call1 (args := #[.slice xa xn xc]) rfl (by simp [Act.eval, d1]) (ci80 _ _) (clone_any xa xn xc xs W (HXX.out.2.below hbl) (by have := HXX.out.2.1; omega)) ?_
          rintro e w' ⟨v, rfl, hr, hb⟩
          obtain ⟨⟨A, n9, c9⟩, hv, _⟩ := SRow.sv hr
          replace hv : v = .slice A n9 c9 := hv
          subst hv
          exact ⟨_, rfl, ⟨A, n9, c9, rfl, row_base hr (by omega)⟩, kS_keep hb hS, fun j oj u _ _ _ _ hu => kV_keep hb (by decide) (by decide) hu⟩
        | 3, ho =>
          obtain rfl := (Option.some.inj ho).symm
          have f8 := fr 5 (by kernel_rfl)
          unfold Oper.wp
          simp [go_sem, f8]
          exact ⟨_, rfl, rfl, kS_keep (Below.refl _ _) hS, fun j oj u _ _ _ _ hu => kV_keep (Below.refl _ _) (by decide) (by decide) hu⟩
        | 4, ho =>
          obtain rfl := (Option.some.inj ho).symm
          obtain ⟨_, v3, h3, d3⟩ := dep 3 _ rfl (by kernel_rfl)
          have d3 := d3 18 rfl
          obtain rfl : v3 = .pointer (some ⟨B, 2, none⟩) := h3
          have hn7 : ¬ L[7]? = some true := fun h => by
            obtain ⟨v, hv⟩ := all 7 _ rfl h
            have := hv.1.2
            rw [hl] at this; cases this
          have hn9 : ¬ L[9]? = some true := fun h => by
            obtain ⟨v, hv⟩ := all 9 _ rfl h
            have := hv.1.2
            rw [hl] at this; cases this
          obtain ⟨u1, u2, hbx, e1, e2⟩ := id hS
          obtain rfl := e1 hn7
          obtain rfl := e2 hn9
          obtain ⟨⟨_, c1, c2⟩, _⟩ := hbx.three
          unfold Oper.wp
          simp [go_sem, d3, c2]
          exact ⟨_, rfl, rfl, kS_keep (Below.refl _ _) hS, fun j oj u _ _ _ _ hu => kV_keep (Below.refl _ _) (by decide) (by decide) hu⟩
        | 5, ho =>
          obtain rfl := (Option.some.inj ho).symm
          obtain ⟨_, v4, h4, d4⟩ := dep 4 _ rfl (by kernel_rfl)
          have d4 := d4 19 rfl
          obtain rfl : v4 = .slice ya yn yc := h4
          have hbl : Below w4.heap.size w4 W := by
            obtain ⟨_, _, hbx, _⟩ := id hS
            exact hbx.bl
          have hBW : B < W.heap.size := by
            obtain ⟨_, _, hbx, _⟩ := id hS
            exact hbx.lt
          refine wp_call1 (args := #[.slice ya yn yc]) rfl (by simp [Act.eval, d4]) (ci80 _ _) (clone_any ya yn yc ys W (HYY.out.2.below hbl) (by have := HYY.out.2.1; omega)) ?_
          rintro e w' ⟨v, rfl, hr, hb⟩
          obtain ⟨⟨A, n9, c9⟩, hv, _⟩ := SRow.sv hr
          replace hv : v = .slice A n9 c9 := hv
          subst hv
          exact ⟨_, rfl, ⟨A, n9, c9, rfl, row_base hr (by omega)⟩, kS_keep hb hS, fun j oj u _ _ _ _ hu => kV_keep hb (by decide) (by decide) hu⟩
        | 6, ho =>
          obtain rfl := (Option.some.inj ho).symm
          have f8 := fr 5 (by kernel_rfl)
          unfold Oper.wp
          simp [go_sem, f8]
          exact ⟨_, rfl, rfl, kS_keep (Below.refl _ _) hS, fun j oj u _ _ _ _ hu => kV_keep (Below.refl _ _) (by decide) (by decide) hu⟩
        | 7, ho =>
          obtain rfl := (Option.some.inj ho).symm
          obtain ⟨_, v6, h6, d6⟩ := dep 6 _ rfl (by kernel_rfl)
          have d6 := d6 21 rfl
          obtain rfl : v6 = .pointer (some ⟨B, 1, none⟩) := h6
          obtain ⟨_, v2, ⟨A, n9, c9, rfl, hr⟩, d2⟩ := dep 2 _ rfl (by kernel_rfl)
          have d2 := d2 17 rfl
          have h1l := (dep 1 _ rfl (by kernel_rfl)).1
          have h4l := (dep 4 _ rfl (by kernel_rfl)).1
          obtain ⟨u1, u2, hbx, e1, e2⟩ := id hS
          obtain ⟨⟨_, c1, c2⟩, _, z1, z2⟩ := hbx.three
          have hset := hbx.set 1 (.slice A n9 c9)
          have hcl : (W.setCell ⟨B, 1, none⟩ (.slice A n9 c9)).cell? ⟨B, 1, none⟩ = some (.slice A n9 c9) := by rw [World.cell?_setCell_same _ _ _ c1]
          unfold Oper.wp
          simp [go_sem, d6, d2, c1, z1]
          exact ⟨.tuple #[], rfl, ⟨⟨listed_more h1l, listed_more h4l⟩, A, n9, c9, row_set hr (p := ⟨B, 1, none⟩) (Nat.lt_succ_self B) _, hcl⟩, ⟨_, u2, hset, fun h => absurd (listed_now hl) h, fun h => e2 (not_more h)⟩, fun j oj u _ hne _ _ hu => kV_set 1 _ (fun _ => hne) (fun h => by cases h) (Or.inl rfl) hu⟩
        | 8, ho =>
          obtain rfl := (Option.some.inj ho).symm
          have f8 := fr 5 (by kernel_rfl)
          unfold Oper.wp
          simp [go_sem, f8]
          exact ⟨_, rfl, rfl, kS_keep (Below.refl _ _) hS, fun j oj u _ _ _ _ hu => kV_keep (Below.refl _ _) (by decide) (by decide) hu⟩
        | 9, ho =>
          obtain rfl := (Option.some.inj ho).symm
          obtain ⟨_, v8, h8, d8⟩ := dep 8 _ rfl (by kernel_rfl)
          have d8 := d8 22 rfl
          obtain rfl : v8 = .pointer (some ⟨B, 2, none⟩) := h8
          obtain ⟨_, v5, ⟨A, n9, c9, rfl, hr⟩, d5⟩ := dep 5 _ rfl (by kernel_rfl)
          have d5 := d5 20 rfl
          have h1l := (dep 1 _ rfl (by kernel_rfl)).1
          have h4l := (dep 4 _ rfl (by kernel_rfl)).1
          obtain ⟨u1, u2, hbx, e1, e2⟩ := id hS
          obtain ⟨⟨_, c1, c2⟩, _, z1, z2⟩ := hbx.three
          have hset := hbx.set 2 (.slice A n9 c9)
          have hcl : (W.setCell ⟨B, 2, none⟩ (.slice A n9 c9)).cell? ⟨B, 2, none⟩ = some (.slice A n9 c9) := by rw [World.cell?_setCell_same _ _ _ c2]
          unfold Oper.wp
          simp [go_sem, d8, d5, c2, z2]
          exact ⟨.tuple #[], rfl, ⟨⟨listed_more h1l, listed_more h4l⟩, A, n9, c9, row_set hr (p := ⟨B, 2, none⟩) (Nat.lt_succ_self B) _, hcl⟩, ⟨u1, _, hset, fun h => e1 (not_more h), fun h => absurd (listed_now hl) h⟩, fun j oj u _ hne _ _ hu => kV_set 2 _ (fun h => by cases h) (fun _ => hne) (Or.inr rfl) hu⟩
      · intro vs W hS hV
        obtain ⟨_, A1, n1, c1, hr1, hc1⟩ := hV 7 _ rfl
        obtain ⟨_, A2, n2, c2, hr2, hc2⟩ := hV 9 _ rfl
        obtain ⟨u1, u2, hbx, _, _⟩ := hS
        have e1 := hbx.three.1.2.1
        have e2 := hbx.three.1.2.2
        rw [hc1] at e1
        rw [hc2] at e2
        obtain rfl := (Option.some.inj e1).symm
        obtain rfl := (Option.some.inj e2).symm
        have HBX := Lib.hid hbx
        have HR1 := Lib.hid (row_base hr1 (Nat.le_trans hMB (Nat.le_succ B)))
        have HR2 := Lib.hid (row_base hr2 (Nat.le_trans hMB (Nat.le_succ B)))
        have HA := Lib.hid (HA.out.next hbx.bl)
        have HB := Lib.hid (HB.out.next hbx.bl)
        have HH := Lib.hid (HH.out.below hbx.bl)
        have HMW : M ≤ W.heap.size := Nat.le_trans HM.out hbx.bl.size
        clear hbx hV hr1 hr2 hc1 hc2 e1 e2 HXX HYY
        simp only [putAll, Act.put, List.setIfInBounds_toArray, List.set_cons_zero, List.set_cons_succ]
        obtain ⟨rs, hkr, hown⟩ := HH.out
        have HKR := Lib.hid hkr
        have HKO := Lib.hid hown
        have hrl : rs.length = (cs.take j).length := hown.1
        rw [List.length_take] at hrl
        clear hkr hown
        obtain ⟨⟨e0, e1, e2⟩, _⟩ := HBX.out.three
        obtain ⟨⟨_, _, a2⟩, _, _, z2⟩ := HA.out.three
        go_wp2_with (at_builtin; refine wpList_app elemChg encChg rfl _ _ rfl M _ rs rfl (row_below HKR.out ((Below.refl _ _).alloc (Nat.le_refl _) _)) _ _ _ [(cl, (A1, n1, c1), (A2, n2, c2))] rfl (KAt.one W ((cl, (A1, n1, c1), (A2, n2, c2)) : RChg) _) (by simp <;> omega) (by simp <;> omega) ?_)
        intro v7 w7 hr7 hb7 hg7 ho7
        have HBA := Lib.hid ((Below.refl W.heap.size W).alloc (Nat.le_refl _) (.cells (rchC (cl, (A1, n1, c1), (A2, n2, c2))).toArray 161))
        have HK5 := Lib.hid (row_below HKR.out HBA.out)
        have HB7 : Hid (Below M W w7) := Lib.hid ((HBA.out.mono HMW).trans hb7)
        have HO7 := Lib.hid ((HKO.out.below HBA.out).kept HK5.out hg7)
        have HN1 := Lib.hid (row_kept (row_below HR1.out HBA.out) HK5.out (by decide) hg7)
        have HN2 := Lib.hid (row_kept (row_below HR2.out HBA.out) HK5.out (by decide) hg7)
        have HRF : Hid (HRow w7 M v7 (cs.take (j + 1))) := Lib.hid (by rw [HTK.out]; exact ⟨_, hr7, HO7.out.snoc ⟨rfl, HN1.out, HN2.out⟩⟩)
        obtain ⟨⟨a7, k7, c7⟩, hv7, _⟩ := HRF.out.hv
        replace hv7 : v7 = .slice a7 k7 c7 := hv7
        subst hv7
        have HA7 := Lib.hid (HA.out.bel HB7.out hRM hMw)
        have HB8 := Lib.hid (HB.out.bel HB7.out hR2M hMw)
        have HM7 : Hid (M ≤ w7.heap.size) := Lib.hid (Nat.le_trans HMW HB7.out.size)
        clear hr7 hb7 hg7 ho7 e0 e1 e2 a2 z2
        obtain ⟨⟨_, _, a2⟩, _, _, z2⟩ := HA7.out.three
        have HA9 : Hid (BX w (w7.setCell ⟨R, 2, none⟩ (.slice a7 k7 c7)) R #[.int .i64 num, .int .i64 wk, .slice a7 k7 c7] 157) := Lib.hid (HA7.out.set 2 (.slice a7 k7 c7))
        have HB9 := Lib.hid (HB8.out.oth (Ne.symm hne) HA7.out.lo 2 (.slice a7 k7 c7))
        have HH9 := Lib.hid (HRF.out.set (p := ⟨R, 2, none⟩) hRM (.slice a7 k7 c7))
        have HM9 : Hid (M ≤ (w7.setCell ⟨R, 2, none⟩ (.slice a7 k7 c7)).heap.size) := Lib.hid (by rw [World.size_setCell]; exact HM7.out)
        go_wp2_with fail
        go_roundw
        case rel => exact ⟨j + 1, (a7, k7, c7), by go_num, by omega, HA9, HB9, HH9, HM9⟩
        case measure => simp [intOf]; omega
    · obtain rfl : pn = j := by omega
      have HH9 := Lib.hid (by have h := HH.out; rw [List.take_of_length_le (by omega)] at h; exact h)
      obtain ⟨⟨a0, a1, a2⟩, _⟩ := HA.out.three
      obtain ⟨⟨k0, k1, k2⟩, z0, z1, z2⟩ := HB.out.three
      have HB9 := Lib.hid (HB.out.set3 (.int .i64 num) (.int .i64 wk) (.slice ta tn tc))
      have HH9 := Lib.hid (((HH9.out.set (p := ⟨R2, 0, none⟩) hR2M (.int .i64 num)).set (p := ⟨R2, 1, none⟩) hR2M (.int .i64 wk)).set (p := ⟨R2, 2, none⟩) hR2M (.slice ta tn tc))
      go_wp2_with fail
      generalize ((World.setCell wr ⟨R2, 0, none⟩ (.int .i64 num)).setCell ⟨R2, 1, none⟩ (.int .i64 wk)).setCell ⟨R2, 2, none⟩ (.slice ta tn tc) = W9 at *
      clear k0 k1 k2 z0 z1 z2
      obtain ⟨⟨k0, k1, k2⟩, _⟩ := HB9.out.three
      refine bodyPost_ret (v := .agg #[.int .i64 num, .int .i64 wk, .slice ta tn tc]) (by simp [results, Tryz.results286, go_sem, k0, k1, k2]) rfl ?_
      exact ⟨(ta, tn, tc), rfl, HH9.out.base hMw, HB9.out.bl⟩
end Go.Proofs.YtcifdllbnbhcdaaGreatDoor
