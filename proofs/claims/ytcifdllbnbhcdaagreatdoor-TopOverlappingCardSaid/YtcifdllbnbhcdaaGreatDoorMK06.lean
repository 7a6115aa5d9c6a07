/- Texts K36, K35, K27, joined: walks and laws. -/
import Derived.Test.YtcifdllbnbhcdaaGreatDoorMK05
import Derived.Test.YtcifdllbnbhcdaaGreatDoorMV05
set_option linter.unusedSimpArgs false
set_option linter.unusedVariables false
namespace Go.Proofs.YtcifdllbnbhcdaaGreatDoor
open Go.RowKit
def macC (br cr bc cc sb sc sd se : Nat) : List Value := [.int .i64 1, .int .i64 1, .int .i64 480, .int .i64 45, .int .i64 2, .int .i64 1, .slice none 0 0, .slice (some ⟨br, 0, none⟩) 1 cr, .slice none 0 0, .slice none 0 0, .slice none 0 0, .slice (some ⟨bc, 0, none⟩) 1 cc, .slice none 0 0, .slice none 0 0, .slice none 0 0, .slice none 0 0, .int .i64 0, .int .i64 1, .slice none 0 0, .slice none 0 0, .int .i64 0, .slice none 0 0, .slice none 0 0, .int .i64 1, .int .i64 1, .int .i64 480, .int .i64 45, .int .i64 2, .int .i64 1, .slice none 0 0, .slice (some ⟨sb, 0, none⟩) 1 sc, .slice none 0 0, .slice none 0 0, .slice none 0 0, .slice (some ⟨sd, 0, none⟩) 1 se, .slice none 0 0, .slice none 0 0]
def macL (br cr bc cc sb sc sd se : Nat) (d v s : Sl) (y : Int) : List Value := [.int .i64 1, .int .i64 1, .int .i64 480, .int .i64 45, .int .i64 2, .int .i64 1, .slice none 0 0, .slice (some ⟨br, 0, none⟩) 1 cr, .slice none 0 0, .slice none 0 0, .slice none 0 0, .slice (some ⟨bc, 0, none⟩) 1 cc, .slice none 0 0, .slice none 0 0, .slice none 0 0, .slice none 0 0, .int .i64 0, .int .i64 1, .slice none 0 0, slV d, .int .i64 y, slV v, slV s, .int .i64 1, .int .i64 1, .int .i64 480, .int .i64 45, .int .i64 2, .int .i64 1, .slice none 0 0, .slice (some ⟨sb, 0, none⟩) 1 sc, .slice none 0 0, .slice none 0 0, .slice none 0 0, .slice (some ⟨sd, 0, none⟩) 1 se, .slice none 0 0, .slice none 0 0]
def tpC : Chg := ([99, 49], [], [sX])
def tpV : Ver := (1, 1, [tpC])
abbrev lgT : Lg := (encV tpV, 0, [tpV], [sX])
theorem tp_vld : vldS [sX] 1 = 0 := by kernel_rfl
theorem tp_spc : spcS 1 1 [] [sX] = (0, [sX]) := by kernel_rfl
theorem tp_dif : difS 1 [] [sX] = (0, [tpC]) := by kernel_rfl
theorem tp_frm : frmV tpV = true := by kernel_rfl
theorem tp_len : decide ((encV tpV).length ≤ 1048576) = true := by kernel_rfl
theorem tp_pub : pubS 1 1 lg0 [sX] = (0, lgT) := by
  have h0 : vldL 1 lg0 = true := by kernel_rfl
  have hn : nextV 1 1 lg0 [sX] = tpV := by
    show ((0 : Int) + 1, (1 : Int), (difS 1 [] [sX]).2) = tpV
    rw [tp_dif]; rfl
  have hl := of_decide_eq_true tp_len
  unfold pubS
  rw [if_neg (by rw [h0]; simp), if_neg (by rw [tp_vld]; simp), if_neg (by decide), if_neg (by show ¬ spcS 1 1 [] [sX] ≠ _; rw [tp_spc]; simp), if_neg (by show ¬ (difS 1 [] [sX]).2 = []; rw [tp_dif]; simp), hn, if_neg (by rw [tp_frm]; show ¬ (true = false ∨ 1048576 < 0 + _); simp; omega)]
  rfl
theorem row_fr {w : World} {B0 : Nat} {e : TypeId} {k n : Nat} {v : Value} {xs : List Value} (h : w.ownsRow B0 e k v n xs) {R : Nat} (hne : ∀ (g : Nat) (cur : Array Value), B0 ≤ g → w.heap[g]? = some (.cells cur e (0, 0)) → g ≠ R) (i : Nat) (u : Value) : (w.setCell ⟨R, i, none⟩ u).ownsRow B0 e k v n xs := by
  obtain ⟨h1, h2⟩ := id h
  refine ⟨h1, ?_⟩
  rcases h2 with h2 | ⟨g, cap, cur, h3, h4, h5, h6⟩
  · exact Or.inl h2
  · exact Or.inr ⟨g, cap, cur, h3, h4, (heap_setCell_other _ _ _ _ (hne g cur h4 h5)).trans h5, h6⟩
theorem row_rw {w : World} {B0 : Nat} {e : TypeId} {k n : Nat} {v : Value} {xs : List Value} (h : w.ownsRow B0 e k v n xs) {R : Nat} {vs : List Value} {T : TypeId} (hx : Rw w R vs T) (hT : T ≠ e) (i : Nat) (u : Value) : (w.setCell ⟨R, i, none⟩ u).ownsRow B0 e k v n xs :=
  row_fr h (fun g cur _ hg e => by
    subst e
    obtain ⟨zs, hz⟩ := hx
    rw [hz] at hg
    simp only [Option.some.injEq, Obj.cells.injEq] at hg
    exact hT hg.2.1) i u
theorem row_at {w : World} {B k : Nat} {e : TypeId} {v : Value} {xs : List Value} (h : w.ownsRow B e k v 1 xs) : ∃ g c, v = .slice (some ⟨g, 0, none⟩) 1 c ∧ 1 ≤ c ∧ B ≤ g ∧ At w g xs := by
  obtain ⟨h1, ⟨_, h2⟩ | ⟨g, cap, cur, h3, h4, h5, h6, _, _, h9⟩⟩ := h
  · exact absurd h2 (by decide)
  · refine ⟨g, cap, h3, h6, h4, fun i u hi => ?_⟩
    rw [cell_of_row _ _ i _ _ _ h5]
    have hl : i < 1 * k := by rw [← h1]; exact (List.getElem?_eq_some_iff.1 hi).1
    rw [← h9, List.getElem?_take_of_lt hl] at hi
    rw [← hi, Array.getElem?_toList]
def zl4 : List Value := [nilV, .int .i64 0, nilV, nilV]
def LgN (w1 W : World) (v : Value) : Prop := ∃ B, w1.heap.size ≤ B ∧ LogO W B v lgT
theorem LgN.below {w1 W W' : World} {v : Value} (h : LgN w1 W v) (hb : Below W.heap.size W W') : LgN w1 W' v := by
  obtain ⟨B, h1, d, vs, ss, h2, h3, h4, h5⟩ := h
  exact ⟨B, h1, d, vs, ss, h2, row_below h3 hb, h4.below hb, h5.below hb⟩
def pbV (Mc s9 c9 : Nat) (w1 : World) (L : Array Bool) (j : Nat) (v : Value) (W : World) : Prop := match j with
  | 3 => v = .pointer (some ⟨Mc, 19, none⟩)
  | 4 => v = .agg #[nilV, .int .i64 0, nilV, nilV]
  | 9 => v = .pointer (some ⟨Mc, 4, none⟩)
  | 10 => v = .pointer (some ⟨Mc, 5, none⟩)
  | 11 | 12 => v = .int .i64 1
  | 13 => v = .slice (some ⟨s9, 0, none⟩) 1 c9
  | 14 | 15 => ∃ u, v = .tuple #[u, .int .i64 0] ∧ (¬ L[19]? = some true → LgN w1 W u)
  | 16 => ¬ L[19]? = some true → LgN w1 W v
  | 17 | 20 => v = .int .i64 0
  | 18 => ∃ R, v = .pointer (some ⟨R, 0, none⟩) ∧ w1.heap.size ≤ R ∧ (¬ L[19]? = some true → Rw W R zl4 68) ∧ (L[19]? = some true → ∃ (d vs ss : Sl) (B : Nat), w1.heap.size ≤ B ∧ Rw W R [slV d, .int .i64 0, slV vs, slV ss] 68 ∧ SRow W B (slV ss) [sX])
  | 19 => True
  | _ => v = .pointer (some ⟨Mc, 0, none⟩)
section
variable {Mc s9 c9 : Nat} {w1 : World} {L : Array Bool} {i j : Nat} {v : Value} {W W' : World}
theorem pbV_keep (hi : i ≠ 19) (hb : Below W.heap.size W W') (h : pbV Mc s9 c9 w1 L j v W) : pbV Mc s9 c9 w1 (L.setIfInBounds i true) j v W' := by
  unfold pbV at h ⊢
  split <;> simp only [Array.getElem?_setIfInBounds_ne hi] at h ⊢ <;> try exact h
  · obtain ⟨u, h1, h2⟩ := h
    exact ⟨u, h1, fun hn => (h2 hn).below hb⟩
  · obtain ⟨u, h1, h2⟩ := h
    exact ⟨u, h1, fun hn => (h2 hn).below hb⟩
  · exact fun hn => (h hn).below hb
  · obtain ⟨R, h1, h2, h3, h4⟩ := h
    refine ⟨R, h1, h2, fun hn => (h3 hn).below hb, fun hn => ?_⟩
    obtain ⟨d, vs, ss, B, q1, q2, q3⟩ := h4 hn
    exact ⟨d, vs, ss, B, q1, q2.below hb, q3.below hb⟩
theorem pbV_other (hj : j ≠ 18) (hl : L[19]? = some false) (h : pbV Mc s9 c9 w1 L j v W) : pbV Mc s9 c9 w1 (L.setIfInBounds 19 true) j v W' := by
  unfold pbV at h ⊢
  split <;> simp only at h ⊢ <;> try exact h
  · obtain ⟨u, h1, h2⟩ := h
    exact ⟨u, h1, fun hn => absurd (listed_now hl) hn⟩
  · obtain ⟨u, h1, h2⟩ := h
    exact ⟨u, h1, fun hn => absurd (listed_now hl) hn⟩
  · exact fun hn => absurd (listed_now hl) hn
  · exact absurd rfl hj
end
theorem ci198 (args : Array Value) (w : World) : (callFunc 198 args).run Tryz.prog w = .ok (.enter 198 args) w := by kernel_rfl
def PubP (a : World) (Mc br cr bc cc sb sc sd se sf sg : Nat) (e : Ending) (w2 : World) : Prop := ∃ (d v s : Sl) (y : Int), e = .returned (.int .i64 0) ∧ (∃ g c, s = (some ⟨g, 0, none⟩, 1, c) ∧ 1 ≤ c ∧ a.heap.size ≤ g ∧ At w2 g (sesC sX)) ∧ Mem a w2 [⟨Mc, macL br cr bc cc sb sc sd se d v s y, some 118⟩, ⟨sb, roomC, none⟩, ⟨sd, claC sf sg, none⟩, ⟨sf, [.int .i64 1], none⟩]
set_option maxRecDepth 100000 in
set_option maxHeartbeats 16000000 in
theorem pub_one (Mc br cr bc cc sb sc sd se sf sg s9 c9 : Nat) (hc9 : 1 ≤ c9) (a w : World) (hE : Env w) (hS9 : SAt w (some ⟨s9, 0, none⟩) 1 [sX]) (HM : Mem a w [⟨Mc, macC br cr bc cc sb sc sd se, some 118⟩, ⟨sb, roomC, none⟩, ⟨sd, claC sf sg, none⟩, ⟨sf, [.int .i64 1], none⟩]) : Calls Tryz.prog 109 #[.pointer (some ⟨Mc, 0, none⟩), .slice (some ⟨s9, 0, none⟩) 1 c9, .int .i64 1] w (PubP a Mc br cr bc cc sb sc sd se sf sg) := by
  have HA := Lib.hid (HM.at_ 0 rfl)
  have hMl := HM.lt 0 rfl
  have hAl := HM.bl.size
  have HP := Lib.hid (fun (W : World) (h : Below w.heap.size w W) => by
    have := publish_any logZ lg0 1 1 (some ⟨s9, 0, none⟩) 1 c9 [sX] W (logP0 W) (hS9.below h) (by intro s hs; rw [List.mem_singleton] at hs; subst hs; decide) hc9 (by omega) (hE.below h) (by omega)
    rw [tp_pub] at this
    exact this)
  go_enter Tryz.func109, Tryz.ntmps109
  go_upto_region 1 with fail
  refine wp_region_relG (N := 35) (pbV Mc s9 c9 w) (fun _ W => Below w.heap.size w W) (by kernel_rfl) (by kernel_rfl) (by rfl) (bdrw (b0 w)) (no_gd (by kernel_rfl)) ?_ ?_
  · intro i o L a' W ho hl hL hS hdf dep all fr dwn
    have HC := HA.out.below hS
    match i, ho with
    | 0, ho =>
      obtain rfl := so ho
      have f0 := fr 0 (by kernel_rfl)
      unfold Oper.wp
      simp [go_sem, f0]
      exact ⟨_, rfl, rfl, hS, fun j oj u _ _ _ _ hu => pbV_keep (by decide) (b0 _) hu⟩
    | 1, ho =>
      obtain rfl := so ho
      have d0 := dv (dep 0 _ rfl (by kernel_rfl)) (fun _ h => h) rfl
      unfold Oper.wp
      simp [go_sem, d0]
      exact ⟨_, rfl, rfl, hS, fun j oj u _ _ _ _ hu => pbV_keep (by decide) (b0 _) hu⟩
    | 2, ho =>
      obtain rfl := so ho
      have d1 := dv (dep 1 _ rfl (by kernel_rfl)) (fun _ h => h) rfl
      unfold Oper.wp
      simp [go_sem, d1]
      exact ⟨_, rfl, rfl, hS, fun j oj u _ _ _ _ hu => pbV_keep (by decide) (b0 _) hu⟩
    | 3, ho =>
      obtain rfl := so ho
      have d2 := dv (dep 2 _ rfl (by kernel_rfl)) (fun _ h => h) rfl
      unfold Oper.wp
      simp [go_sem, d2]
      exact ⟨_, rfl, rfl, hS, fun j oj u _ _ _ _ hu => pbV_keep (by decide) (b0 _) hu⟩
    | 4, ho =>
      obtain rfl := so ho
      have d3 := dv (dep 3 _ rfl (by kernel_rfl)) (fun _ h => h) rfl
      have h19 := HC 19 _ rfl
      have h20 := HC 20 _ rfl
      have h21 := HC 21 _ rfl
      have h22 := HC 22 _ rfl
      unfold Oper.wp
      simp [go_sem, d3, h19, h20, h21, h22]
      exact ⟨_, rfl, rfl, hS, fun j oj u _ _ _ _ hu => pbV_keep (by decide) (b0 _) hu⟩
    | 5, ho =>
      obtain rfl := so ho
      have f0 := fr 0 (by kernel_rfl)
      unfold Oper.wp
      simp [go_sem, f0]
      exact ⟨_, rfl, rfl, hS, fun j oj u _ _ _ _ hu => pbV_keep (by decide) (b0 _) hu⟩
    | 6, ho =>
      obtain rfl := so ho
      have d5 := dv (dep 5 _ rfl (by kernel_rfl)) (fun _ h => h) rfl
      unfold Oper.wp
      simp [go_sem, d5]
      exact ⟨_, rfl, rfl, hS, fun j oj u _ _ _ _ hu => pbV_keep (by decide) (b0 _) hu⟩
    | 7, ho =>
      obtain rfl := so ho
      have d6 := dv (dep 6 _ rfl (by kernel_rfl)) (fun _ h => h) rfl
      unfold Oper.wp
      simp [go_sem, d6]
      exact ⟨_, rfl, rfl, hS, fun j oj u _ _ _ _ hu => pbV_keep (by decide) (b0 _) hu⟩
    | 8, ho =>
      obtain rfl := so ho
      have d7 := dv (dep 7 _ rfl (by kernel_rfl)) (fun _ h => h) rfl
      unfold Oper.wp
      simp [go_sem, d7]
      exact ⟨_, rfl, rfl, hS, fun j oj u _ _ _ _ hu => pbV_keep (by decide) (b0 _) hu⟩
    | 9, ho =>
      obtain rfl := so ho
      have d8 := dv (dep 8 _ rfl (by kernel_rfl)) (fun _ h => h) rfl
      unfold Oper.wp
      simp [go_sem, d8]
      exact ⟨_, rfl, rfl, hS, fun j oj u _ _ _ _ hu => pbV_keep (by decide) (b0 _) hu⟩
    | 10, ho =>
      obtain rfl := so ho
      have d9 := dv (dep 9 _ rfl (by kernel_rfl)) (fun _ h => h) rfl
      unfold Oper.wp
      simp [go_sem, d9]
      exact ⟨_, rfl, rfl, hS, fun j oj u _ _ _ _ hu => pbV_keep (by decide) (b0 _) hu⟩
    | 11, ho =>
      obtain rfl := so ho
      have d10 := dv (dep 10 _ rfl (by kernel_rfl)) (fun _ h => h) rfl
      have hc := HC 5 _ rfl
      unfold Oper.wp
      simp [go_sem, d10, hc]
      exact ⟨_, rfl, rfl, hS, fun j oj u _ _ _ _ hu => pbV_keep (by decide) (b0 _) hu⟩
    | 12, ho =>
      obtain rfl := so ho
      have f2 := fr 2 (by kernel_rfl)
      unfold Oper.wp
      simp [go_sem, f2]
      exact ⟨_, rfl, rfl, hS, fun j oj u _ _ _ _ hu => pbV_keep (by decide) (b0 _) hu⟩
    | 13, ho =>
      obtain rfl := so ho
      have f1 := fr 1 (by kernel_rfl)
      unfold Oper.wp
      simp [go_sem, f1]
      exact ⟨_, rfl, rfl, hS, fun j oj u _ _ _ _ hu => pbV_keep (by decide) (b0 _) hu⟩
    | 14, ho =>
      obtain rfl := so ho
      have d4 := dv (dep 4 _ rfl (by kernel_rfl)) (fun _ h => h) rfl
      have d11 := dv (dep 11 _ rfl (by kernel_rfl)) (fun _ h => h) rfl
      have d12 := dv (dep 12 _ rfl (by kernel_rfl)) (fun _ h => h) rfl
      have d13 := dv (dep 13 _ rfl (by kernel_rfl)) (fun _ h => h) rfl
      refine wp_call1 (args := #[.agg #[nilV, .int .i64 0, nilV, nilV], .int .i64 1, .int .i64 1, .slice (some ⟨s9, 0, none⟩) 1 c9]) rfl (by simp [Act.eval, d4, d11, d12, d13]) (ci198 _ _) (HP.out W hS) ?_
      rintro e w9 ⟨u, rfl, hu1, hb⟩
      exact ⟨_, rfl, ⟨u, rfl, fun _ => ⟨_, hS.size, hu1⟩⟩, below3 hS hb, fun j oj u _ _ _ _ hu => pbV_keep (by decide) hb hu⟩
    | 15, ho =>
      obtain rfl := so ho
      obtain ⟨_, v14, ⟨u, rfl, hu1⟩, d14⟩ := dep 14 _ rfl (by kernel_rfl)
      have d14 := d14 24 rfl
      unfold Oper.wp
      simp [go_sem, d14]
      exact ⟨_, rfl, ⟨u, rfl, fun hn => hu1 (by rwa [Array.getElem?_setIfInBounds_ne (by decide)] at hn)⟩, hS, fun j oj u _ _ _ _ hu => pbV_keep (by decide) (b0 _) hu⟩
    | 16, ho =>
      obtain rfl := so ho
      obtain ⟨_, v15, ⟨u, rfl, hu1⟩, d15⟩ := dep 15 _ rfl (by kernel_rfl)
      have d15 := d15 9 rfl
      unfold Oper.wp
      simp [go_sem, d15]
      exact ⟨_, rfl, fun hn => hu1 (by rwa [Array.getElem?_setIfInBounds_ne (by decide)] at hn), hS, fun j oj u _ _ _ _ hu => pbV_keep (by decide) (b0 _) hu⟩
    | 17, ho =>
      obtain rfl := so ho
      obtain ⟨_, v15, ⟨u, rfl, hu1⟩, d15⟩ := dep 15 _ rfl (by kernel_rfl)
      have d15 := d15 9 rfl
      unfold Oper.wp
      simp [go_sem, d15]
      exact ⟨_, rfl, rfl, hS, fun j oj u _ _ _ _ hu => pbV_keep (by decide) (b0 _) hu⟩
    | 18, ho =>
      obtain rfl := so ho
      unfold Oper.wp
      simp [go_sem, ]
      exact ⟨_, rfl, ⟨W.heap.size, rfl, hS.size, fun _ => Rw.mk W zl4 #[] 68 rfl, fun h => by rw [Array.getElem?_setIfInBounds_ne (by decide)] at h; have := dwn 19 _ rfl h 18 _ rfl (by kernel_rfl); rw [hl] at this; cases this⟩, below3 hS (bpush (b0 _) _), fun j oj u _ _ _ _ hu => pbV_keep (by decide) (bpush (b0 _) _) hu⟩
    | 19, ho =>
      obtain rfl := so ho
      obtain ⟨_, v18, ⟨R, rfl, hRl, hR0, _⟩, d18⟩ := dep 18 _ rfl (by kernel_rfl)
      have d18 := d18 7 rfl
      obtain ⟨_, v16, hu1, d16⟩ := dep 16 _ rfl (by kernel_rfl)
      have d16 := d16 25 rfl
      have hu1 : ¬ L[19]? = some true → LgN w W v16 := hu1
      obtain ⟨B, hB, ⟨da, dn, dc⟩, ⟨va, vn, vc⟩, ⟨sa, sn, sp⟩, hv, _, _, hsr⟩ := hu1 (by rw [hl]; simp)
      have hv : v16 = .agg #[.slice da dn dc, .int .i64 0, .slice va vn vc, .slice sa sn sp] := hv
      subst hv
      have hr := hR0 (by rw [hl]; simp)
      have z0 := hr.at_ 0 _ rfl
      have z1 := hr.at_ 1 _ rfl
      have z2 := hr.at_ 2 _ rfl
      have z3 := hr.at_ 3 _ rfl
      have q0 := hr.fz 0
      have q1 := hr.fz 1
      have q2 := hr.fz 2
      have q3 := hr.fz 3
      have r1 := hr.set 0 (by decide) (.slice da dn dc)
      have r2 := r1.set 1 (by simp [zl4]) (.int .i64 0)
      have r3 := r2.set 2 (by simp [zl4]) (.slice va vn vc)
      have r4 := r3.set 3 (by simp [zl4]) (.slice sa sn sp)
      have s4 := row_rw (row_rw (row_rw (row_rw hsr hr (by decide) 0 (.slice da dn dc)) r1 (by decide) 1 (.int .i64 0)) r2 (by decide) 2 (.slice va vn vc)) r3 (by decide) 3 (.slice sa sn sp)
      unfold Oper.wp
      simp [go_sem, d18, d16, z0, z1, z2, z3, q0, q1, q2, q3]
      exact ⟨undef, rfl, trivial, bset (bset (bset (bset hS hRl _ _) hRl _ _) hRl _ _) hRl _ _, fun j oj u hoj hne hlj hdst hu => by
        by_cases hj : j = 18
        · subst hj
          obtain rfl := so hoj
          have hu2 := hdst 7 rfl
          rw [d18] at hu2
          obtain rfl := (Option.some.inj hu2).symm
          exact ⟨R, rfl, hRl, fun h => absurd (listed_now hl) h, fun _ => ⟨(da, dn, dc), (va, vn, vc), (sa, sn, sp), B, hB, r4, s4⟩⟩
        · exact pbV_other hj hl hu⟩
    | 20, ho =>
      obtain rfl := so ho
      have d17 := dv (dep 17 _ rfl (by kernel_rfl)) (fun _ h => h) rfl
      unfold Oper.wp
      simp [go_sem, d17]
      exact ⟨_, rfl, rfl, hS, fun j oj u _ _ _ _ hu => pbV_keep (by decide) (b0 _) hu⟩
  · intro us W6 hS hV
    obtain ⟨R, hu, hRl, _, hR4⟩ := hV 18 _ rfl
    have hu20 : us 20 = .int .i64 0 := hV 20 _ rfl
    obtain ⟨⟨da, dn, dc⟩, ⟨va, vn, vc⟩, ⟨sa, sn, sp⟩, B, hB, hR, hsr⟩ := hR4 (by rw [Array.getElem?_replicate]; rfl)
    clear hV hR4 HA HP
    simp only [putAll, Act.put, List.setIfInBounds_toArray, List.set_cons_zero, List.set_cons_succ, Nat.zero_add, Nat.reduceAdd]
    rw [hu, hu20]
    clear hu hu20
    generalize us 0 = z0 at *
    generalize us 1 = z1 at *
    generalize us 2 = z2 at *
    generalize us 3 = z3 at *
    generalize us 4 = z4 at *
    generalize us 5 = z5 at *
    generalize us 6 = z6 at *
    generalize us 7 = z7 at *
    generalize us 8 = z8 at *
    generalize us 9 = z9 at *
    generalize us 10 = z10 at *
    generalize us 11 = z11 at *
    generalize us 12 = z12 at *
    generalize us 13 = z13 at *
    generalize us 14 = z14 at *
    generalize us 15 = z15 at *
    generalize us 16 = z16 at *
    generalize us 17 = z17 at *
    replace HM := HM.add hS hR hRl
    have HMs := (HM.erase 4).erase 3 |>.erase 2
    have C := HMs.facts
    simp only [facts, cellsAre, lts, apart, macC, slV, List.eraseIdx_cons_succ, List.eraseIdx_cons_zero, Nat.zero_add, Nat.reduceAdd, and_true] at C
    have F := HMs.thaws
    simp only [thaws, List.eraseIdx_cons_succ, List.eraseIdx_cons_zero, Option.isSome_some, forall_const, and_true] at F
    clear hS hR HMs
    go_wp2_with fail
    clear C F
    have hne : ∀ (g : Nat) (cur : Array Value) (W : World), B ≤ g → W.heap[g]? = some (.cells cur 43 (0, 0)) → g ≠ Mc := fun g _ _ h _ => by omega
    have hsr2 := row_fr (row_fr (row_fr (row_fr hsr (fun g cur h q => hne g cur _ h q) 19 (.slice da dn dc)) (fun g cur h q => hne g cur _ h q) 20 (.int .i64 0)) (fun g cur h q => hne g cur _ h q) 21 (.slice va vn vc)) (fun g cur h q => hne g cur _ h q) 22 (.slice sa sn sp)
    replace HM : Mem a _ [⟨Mc, macL br cr bc cc sb sc sd se (da, dn, dc) (va, vn, vc) (sa, sn, sp) 0, some 118⟩, ⟨sb, roomC, none⟩, ⟨sd, claC sf sg, none⟩, ⟨sf, [.int .i64 1], none⟩] := ((((HM.set 1 19 (.slice da dn dc) rfl rfl).set 1 20 (.int .i64 0) rfl rfl).set 1 21 (.slice va vn vc) rfl rfl).set 1 22 (.slice sa sn sp) rfl rfl).erase 0
    obtain ⟨g, c, hv, hc, hBg, hAt⟩ := row_at hsr2
    have hv : Value.slice sa sn sp = .slice (some ⟨g, 0, none⟩) 1 c := hv
    simp only [Value.slice.injEq] at hv
    obtain ⟨rfl, rfl, rfl⟩ := hv
    have hla : a.heap.size ≤ g := Nat.le_trans hAl (Nat.le_trans hB hBg)
    go_ret
    exact ⟨_, _, _, 0, rfl, ⟨g, _, rfl, hc, hla, fun i u hi => hAt i u (by simpa using hi)⟩, HM⟩
end Go.Proofs.YtcifdllbnbhcdaaGreatDoor
namespace Go.Proofs.YtcifdllbnbhcdaaGreatDoor
open Go.RowKit
def zm4 : List Value := [nilV, nilV, nilV, .int .i64 0]
def plV (Mc sb sc sd se : Nat) (w1 : World) (L : Array Bool) (j : Nat) (v : Value) (W : World) : Prop := match j with
  | 2 => v = .pointer (some ⟨Mc, 23, none⟩)
  | 3 => v = regV sb sc sd se
  | 7 => v = .pointer (some ⟨Mc, 14, none⟩)
  | 12 => v = .pointer (some ⟨Mc, 15, none⟩)
  | 17 => v = .pointer (some ⟨Mc, 16, none⟩)
  | 8 | 13 => v = nilV
  | 18 | 22 | 25 => v = .int .i64 0
  | 19 | 20 => ∃ u, v = .tuple #[u, .int .i64 0] ∧ (¬ L[24]? = some true → ModAt 2 W u)
  | 21 => ¬ L[24]? = some true → ModAt 2 W v
  | 23 => ∃ R, v = .pointer (some ⟨R, 0, none⟩) ∧ w1.heap.size ≤ R ∧ (¬ L[24]? = some true → Rw W R zm4 105) ∧ (L[24]? = some true → ∃ bm cm bo co, (1 ≤ cm ∧ 1 ≤ co) ∧ Rw W R (modC bm cm 2) 105 ∧ At W bm (lefC bo co) ∧ At W bo optC)
  | 24 => True
  | _ => v = .pointer (some ⟨Mc, 0, none⟩)
section
variable {Mc sb sc sd se : Nat} {w1 : World} {L : Array Bool} {i j : Nat} {v : Value} {W W' : World}
theorem plV_keep (hi : i ≠ 24) (hb : Below W.heap.size W W') (h : plV Mc sb sc sd se w1 L j v W) : plV Mc sb sc sd se w1 (L.setIfInBounds i true) j v W' := by
  unfold plV at h ⊢
  split <;> simp only [Array.getElem?_setIfInBounds_ne hi] at h ⊢ <;> try exact h
  · obtain ⟨u, h1, h2⟩ := h
    exact ⟨u, h1, fun hn => (h2 hn).below hb⟩
  · obtain ⟨u, h1, h2⟩ := h
    exact ⟨u, h1, fun hn => (h2 hn).below hb⟩
  · exact fun hn => (h hn).below hb
  · obtain ⟨R, h1, h2, h3, h4⟩ := h
    refine ⟨R, h1, h2, fun hn => (h3 hn).below hb, fun hn => ?_⟩
    obtain ⟨bm, cm, bo, co, q1, q2, q3, q4⟩ := h4 hn
    exact ⟨bm, cm, bo, co, q1, q2.below hb, q3.below hb, q4.below hb⟩
theorem plV_other (hj : j ≠ 23) (hl : L[24]? = some false) (h : plV Mc sb sc sd se w1 L j v W) : plV Mc sb sc sd se w1 (L.setIfInBounds 24 true) j v W' := by
  unfold plV at h ⊢
  split <;> simp only at h ⊢ <;> try exact h
  · obtain ⟨u, h1, h2⟩ := h
    exact ⟨u, h1, fun hn => absurd (listed_now hl) hn⟩
  · obtain ⟨u, h1, h2⟩ := h
    exact ⟨u, h1, fun hn => absurd (listed_now hl) hn⟩
  · exact fun hn => absurd (listed_now hl) hn
  · exact absurd rfl hj
end
def evC : List Value := [.int .i64 1, .int .i64 0, .int .i64 0, .string ⟨#[]⟩, nilV, .int .i64 0, .string ⟨#[]⟩, .int .i64 0, .int .i64 0, .int .i64 0]
theorem ci33 (args : Array Value) (w : World) : (callFunc 33 args).run Tryz.prog w = .ok (.enter 33 args) w := by kernel_rfl
set_option maxRecDepth 100000 in
set_option maxHeartbeats 16000000 in
theorem plan_one (Mc br cr bc cc sb sc sd se sf sg : Nat) (hcap : 1 ≤ sc ∧ 1 ≤ se ∧ 1 ≤ sg) (ev : List Value) (hev : ev = evC) (a w : World) (hE : Env w) (HM : Mem a w [⟨Mc, macC br cr bc cc sb sc sd se, some 118⟩, ⟨sb, roomC, none⟩, ⟨sd, claC sf sg, none⟩, ⟨sf, [.int .i64 1], none⟩]) : Calls Tryz.prog 71 #[.pointer (some ⟨Mc, 0, none⟩), .agg ev.toArray] w (PubP a Mc br cr bc cc sb sc sd se sf sg) := by
  subst hev
  have HK0 := (HM.erase 3).erase 2 |>.erase 1
  go_enter Tryz.func71, Tryz.ntmps71
  have C := HM.facts
  simp only [facts, cellsAre, lts, apart, macC, List.eraseIdx_cons_succ, List.eraseIdx_cons_zero, List.set_cons_zero, List.set_cons_succ, Nat.zero_add, Nat.reduceAdd, and_true] at C
  have F := HM.thaws
  simp only [thaws, List.eraseIdx_cons_succ, List.eraseIdx_cons_zero, List.set_cons_zero, List.set_cons_succ, Option.isSome_some, Option.isSome_none, Bool.false_eq_true, false_implies, forall_const, and_true, true_and] at F
  go_upto_region 3 with fail
  clear C F HK0
  replace HM := (HM.alloc evC 80).erase 0
  have hEw := Lib.hid (hE.below (bpush (b0 w) (.cells evC.toArray 80)))
  obtain ⟨w1, hW, HM, hEw⟩ : ∃ W, W = _ ∧ Mem a W _ ∧ Hid (Env W) := ⟨_, rfl, HM, hEw⟩
  rw [← hW]
  clear hW hE
  have HA := Lib.hid (HM.at_ 0 rfl)
  have hMl := HM.lt 0 rfl
  have HP := Lib.hid (fun (W : World) (h : Below w1.heap.size w1 W) => prob_one (regV sb sc sd se) W ⟨sb, sc, sd, se, sf, sg, rfl, hcap, (HM.at_ 1 rfl).below h, (HM.at_ 2 rfl).below h, (HM.at_ 3 rfl).below h⟩)
  refine wp_region_relG (N := 86) (plV Mc sb sc sd se w1) (fun _ W => Below w1.heap.size w1 W) (by kernel_rfl) (by kernel_rfl) (by rfl) (bdrw (b0 w1)) (no_gd (by kernel_rfl)) ?_ ?_
  · intro i o L a' W ho hl hL hS hdf dep all fr dwn
    have HC := HA.out.below hS
    match i, ho with
    | 0, ho =>
      obtain rfl := so ho
      have f0 := fr 0 (by kernel_rfl)
      unfold Oper.wp
      simp [go_sem, f0]
      exact ⟨_, rfl, rfl, hS, fun j oj u _ _ _ _ hu => plV_keep (by decide) (b0 _) hu⟩
    | 1, ho =>
      obtain rfl := so ho
      have d0 := dv (dep 0 _ rfl (by kernel_rfl)) (fun _ h => h) rfl
      unfold Oper.wp
      simp [go_sem, d0]
      exact ⟨_, rfl, rfl, hS, fun j oj u _ _ _ _ hu => plV_keep (by decide) (b0 _) hu⟩
    | 2, ho =>
      obtain rfl := so ho
      have d1 := dv (dep 1 _ rfl (by kernel_rfl)) (fun _ h => h) rfl
      unfold Oper.wp
      simp [go_sem, d1]
      exact ⟨_, rfl, rfl, hS, fun j oj u _ _ _ _ hu => plV_keep (by decide) (b0 _) hu⟩
    | 3, ho =>
      obtain rfl := so ho
      have d2 := dv (dep 2 _ rfl (by kernel_rfl)) (fun _ h => h) rfl
      have h23 := HC 23 _ rfl
      have h24 := HC 24 _ rfl
      have h25 := HC 25 _ rfl
      have h26 := HC 26 _ rfl
      have h27 := HC 27 _ rfl
      have h28 := HC 28 _ rfl
      have h29 := HC 29 _ rfl
      have h30 := HC 30 _ rfl
      have h31 := HC 31 _ rfl
      have h32 := HC 32 _ rfl
      have h33 := HC 33 _ rfl
      have h34 := HC 34 _ rfl
      have h35 := HC 35 _ rfl
      have h36 := HC 36 _ rfl
      unfold Oper.wp
      simp [go_sem, d2, h23, h24, h25, h26, h27, h28, h29, h30, h31, h32, h33, h34, h35, h36]
      exact ⟨_, rfl, rfl, hS, fun j oj u _ _ _ _ hu => plV_keep (by decide) (b0 _) hu⟩
    | 4, ho =>
      obtain rfl := so ho
      have f0 := fr 0 (by kernel_rfl)
      unfold Oper.wp
      simp [go_sem, f0]
      exact ⟨_, rfl, rfl, hS, fun j oj u _ _ _ _ hu => plV_keep (by decide) (b0 _) hu⟩
    | 5, ho =>
      obtain rfl := so ho
      have d4 := dv (dep 4 _ rfl (by kernel_rfl)) (fun _ h => h) rfl
      unfold Oper.wp
      simp [go_sem, d4]
      exact ⟨_, rfl, rfl, hS, fun j oj u _ _ _ _ hu => plV_keep (by decide) (b0 _) hu⟩
    | 6, ho =>
      obtain rfl := so ho
      have d5 := dv (dep 5 _ rfl (by kernel_rfl)) (fun _ h => h) rfl
      unfold Oper.wp
      simp [go_sem, d5]
      exact ⟨_, rfl, rfl, hS, fun j oj u _ _ _ _ hu => plV_keep (by decide) (b0 _) hu⟩
    | 7, ho =>
      obtain rfl := so ho
      have d6 := dv (dep 6 _ rfl (by kernel_rfl)) (fun _ h => h) rfl
      unfold Oper.wp
      simp [go_sem, d6]
      exact ⟨_, rfl, rfl, hS, fun j oj u _ _ _ _ hu => plV_keep (by decide) (b0 _) hu⟩
    | 8, ho =>
      obtain rfl := so ho
      have d7 := dv (dep 7 _ rfl (by kernel_rfl)) (fun _ h => h) rfl
      have hc := HC 14 _ rfl
      unfold Oper.wp
      simp [go_sem, d7, hc]
      exact ⟨_, rfl, rfl, hS, fun j oj u _ _ _ _ hu => plV_keep (by decide) (b0 _) hu⟩
    | 9, ho =>
      obtain rfl := so ho
      have f0 := fr 0 (by kernel_rfl)
      unfold Oper.wp
      simp [go_sem, f0]
      exact ⟨_, rfl, rfl, hS, fun j oj u _ _ _ _ hu => plV_keep (by decide) (b0 _) hu⟩
    | 10, ho =>
      obtain rfl := so ho
      have d9 := dv (dep 9 _ rfl (by kernel_rfl)) (fun _ h => h) rfl
      unfold Oper.wp
      simp [go_sem, d9]
      exact ⟨_, rfl, rfl, hS, fun j oj u _ _ _ _ hu => plV_keep (by decide) (b0 _) hu⟩
    | 11, ho =>
      obtain rfl := so ho
      have d10 := dv (dep 10 _ rfl (by kernel_rfl)) (fun _ h => h) rfl
      unfold Oper.wp
      simp [go_sem, d10]
      exact ⟨_, rfl, rfl, hS, fun j oj u _ _ _ _ hu => plV_keep (by decide) (b0 _) hu⟩
    | 12, ho =>
      obtain rfl := so ho
      have d11 := dv (dep 11 _ rfl (by kernel_rfl)) (fun _ h => h) rfl
      unfold Oper.wp
      simp [go_sem, d11]
      exact ⟨_, rfl, rfl, hS, fun j oj u _ _ _ _ hu => plV_keep (by decide) (b0 _) hu⟩
    | 13, ho =>
      obtain rfl := so ho
      have d12 := dv (dep 12 _ rfl (by kernel_rfl)) (fun _ h => h) rfl
      have hc := HC 15 _ rfl
      unfold Oper.wp
      simp [go_sem, d12, hc]
      exact ⟨_, rfl, rfl, hS, fun j oj u _ _ _ _ hu => plV_keep (by decide) (b0 _) hu⟩
    | 14, ho =>
      obtain rfl := so ho
      have f0 := fr 0 (by kernel_rfl)
      unfold Oper.wp
      simp [go_sem, f0]
      exact ⟨_, rfl, rfl, hS, fun j oj u _ _ _ _ hu => plV_keep (by decide) (b0 _) hu⟩
    | 15, ho =>
      obtain rfl := so ho
      have d14 := dv (dep 14 _ rfl (by kernel_rfl)) (fun _ h => h) rfl
      unfold Oper.wp
      simp [go_sem, d14]
      exact ⟨_, rfl, rfl, hS, fun j oj u _ _ _ _ hu => plV_keep (by decide) (b0 _) hu⟩
    | 16, ho =>
      obtain rfl := so ho
      have d15 := dv (dep 15 _ rfl (by kernel_rfl)) (fun _ h => h) rfl
      unfold Oper.wp
      simp [go_sem, d15]
      exact ⟨_, rfl, rfl, hS, fun j oj u _ _ _ _ hu => plV_keep (by decide) (b0 _) hu⟩
    | 17, ho =>
      obtain rfl := so ho
      have d16 := dv (dep 16 _ rfl (by kernel_rfl)) (fun _ h => h) rfl
      unfold Oper.wp
      simp [go_sem, d16]
      exact ⟨_, rfl, rfl, hS, fun j oj u _ _ _ _ hu => plV_keep (by decide) (b0 _) hu⟩
    | 18, ho =>
      obtain rfl := so ho
      have d17 := dv (dep 17 _ rfl (by kernel_rfl)) (fun _ h => h) rfl
      have hc := HC 16 _ rfl
      unfold Oper.wp
      simp [go_sem, d17, hc]
      exact ⟨_, rfl, rfl, hS, fun j oj u _ _ _ _ hu => plV_keep (by decide) (b0 _) hu⟩
    | 19, ho =>
      obtain rfl := so ho
      have d3 := dv (dep 3 _ rfl (by kernel_rfl)) (fun _ h => h) rfl
      have d8 := dv (dep 8 _ rfl (by kernel_rfl)) (fun _ h => h) rfl
      have d13 := dv (dep 13 _ rfl (by kernel_rfl)) (fun _ h => h) rfl
      have d18 := dv (dep 18 _ rfl (by kernel_rfl)) (fun _ h => h) rfl
      refine wp_call1 (args := #[regV sb sc sd se, nilV, nilV, .int .i64 0]) rfl (by simp [Act.eval, d3, d8, d13, d18]) (ci33 _ _) (HP.out W hS) ?_
      rintro e w9 ⟨u, rfl, hu1, hb⟩
      exact ⟨_, rfl, ⟨u, rfl, fun _ => hu1⟩, below3 hS hb, fun j oj u _ _ _ _ hu => plV_keep (by decide) hb hu⟩
    | 20, ho =>
      obtain rfl := so ho
      obtain ⟨_, v19, ⟨u, rfl, hu1⟩, d19⟩ := dep 19 _ rfl (by kernel_rfl)
      have d19 := d19 47 rfl
      unfold Oper.wp
      simp [go_sem, d19]
      exact ⟨_, rfl, ⟨u, rfl, fun hn => hu1 (by rwa [Array.getElem?_setIfInBounds_ne (by decide)] at hn)⟩, hS, fun j oj u _ _ _ _ hu => plV_keep (by decide) (b0 _) hu⟩
    | 21, ho =>
      obtain rfl := so ho
      obtain ⟨_, v20, ⟨u, rfl, hu1⟩, d20⟩ := dep 20 _ rfl (by kernel_rfl)
      have d20 := d20 27 rfl
      unfold Oper.wp
      simp [go_sem, d20]
      exact ⟨_, rfl, fun hn => hu1 (by rwa [Array.getElem?_setIfInBounds_ne (by decide)] at hn), hS, fun j oj u _ _ _ _ hu => plV_keep (by decide) (b0 _) hu⟩
    | 22, ho =>
      obtain rfl := so ho
      obtain ⟨_, v20, ⟨u, rfl, hu1⟩, d20⟩ := dep 20 _ rfl (by kernel_rfl)
      have d20 := d20 27 rfl
      unfold Oper.wp
      simp [go_sem, d20]
      exact ⟨_, rfl, rfl, hS, fun j oj u _ _ _ _ hu => plV_keep (by decide) (b0 _) hu⟩
    | 23, ho =>
      obtain rfl := so ho
      unfold Oper.wp
      simp [go_sem, ]
      exact ⟨_, rfl, ⟨W.heap.size, rfl, hS.size, fun _ => Rw.mk W zm4 #[] 105 rfl, fun h => by rw [Array.getElem?_setIfInBounds_ne (by decide)] at h; have := dwn 24 _ rfl h 23 _ rfl (by kernel_rfl); rw [hl] at this; cases this⟩, below3 hS (bpush (b0 _) _), fun j oj u _ _ _ _ hu => plV_keep (by decide) (bpush (b0 _) _) hu⟩
    | 24, ho =>
      obtain rfl := so ho
      obtain ⟨_, v23, ⟨R, rfl, hRl, hR0, _⟩, d23⟩ := dep 23 _ rfl (by kernel_rfl)
      have d23 := d23 5 rfl
      obtain ⟨_, v21, hu1, d21⟩ := dep 21 _ rfl (by kernel_rfl)
      have d21 := d21 48 rfl
      have hu1 : ¬ L[24]? = some true → ModAt 2 W v21 := hu1
      obtain ⟨bm, cm, bo, co, rfl, hcs, hA1, hA2⟩ := hu1 (by rw [hl]; simp)
      have hr := hR0 (by rw [hl]; simp)
      have z0 := hr.at_ 0 _ rfl
      have z1 := hr.at_ 1 _ rfl
      have z2 := hr.at_ 2 _ rfl
      have z3 := hr.at_ 3 _ rfl
      have q0 := hr.fz 0
      have q1 := hr.fz 1
      have q2 := hr.fz 2
      have q3 := hr.fz 3
      have nm : R ≠ bm := At.ne (x := nilV) hr.at_ hA1 (by simp)
      have nb : R ≠ bo := At.ne (x := nilV) hr.at_ hA2 (by simp)
      have hr4 := (((hr.set 0 (by decide) (.slice (some ⟨bm, 0, none⟩) 1 cm)).set 1 (by simp [zm4]) nilV).set 2 (by simp [zm4]) nilV).set 3 (by simp [zm4]) (.int .i64 2)
      have hA14 := (((hA1.far nm 0 (.slice (some ⟨bm, 0, none⟩) 1 cm)).far nm 1 nilV).far nm 2 nilV).far nm 3 (.int .i64 2)
      have hA24 := (((hA2.far nb 0 (.slice (some ⟨bm, 0, none⟩) 1 cm)).far nb 1 nilV).far nb 2 nilV).far nb 3 (.int .i64 2)
      unfold Oper.wp
      simp [go_sem, d23, d21, z0, z1, z2, z3, q0, q1, q2, q3]
      exact ⟨undef, rfl, trivial, bset (bset (bset (bset hS hRl _ _) hRl _ _) hRl _ _) hRl _ _, fun j oj u hoj hne hlj hdst hu => by
        by_cases hj : j = 23
        · subst hj
          obtain rfl := so hoj
          have hu2 := hdst 5 rfl
          rw [d23] at hu2
          obtain rfl := (Option.some.inj hu2).symm
          exact ⟨R, rfl, hRl, fun h => absurd (listed_now hl) h, fun _ => ⟨bm, cm, bo, co, hcs, hr4, hA14, hA24⟩⟩
        · exact plV_other hj hl hu⟩
    | 25, ho =>
      obtain rfl := so ho
      have d22 := dv (dep 22 _ rfl (by kernel_rfl)) (fun _ h => h) rfl
      unfold Oper.wp
      simp [go_sem, d22]
      exact ⟨_, rfl, rfl, hS, fun j oj u _ _ _ _ hu => plV_keep (by decide) (b0 _) hu⟩
  · intro us W6 hS hV
    obtain ⟨R, hu, hRl, _, hR4⟩ := hV 23 _ rfl
    have hu25 : us 25 = .int .i64 0 := hV 25 _ rfl
    obtain ⟨bm, cm, bo, co, ⟨hcm, hco⟩, hR, hA1, hA2⟩ := hR4 (by rw [Array.getElem?_replicate]; rfl)
    clear hV hR4 HA HP
    simp only [putAll, Act.put, List.setIfInBounds_toArray, List.set_cons_zero, List.set_cons_succ, Nat.zero_add, Nat.reduceAdd]
    rw [hu, hu25]
    clear hu hu25
    generalize us 0 = z0 at *
    generalize us 1 = z1 at *
    generalize us 2 = z2 at *
    generalize us 3 = z3 at *
    generalize us 4 = z4 at *
    generalize us 5 = z5 at *
    generalize us 6 = z6 at *
    generalize us 7 = z7 at *
    generalize us 8 = z8 at *
    generalize us 9 = z9 at *
    generalize us 10 = z10 at *
    generalize us 11 = z11 at *
    generalize us 12 = z12 at *
    generalize us 13 = z13 at *
    generalize us 14 = z14 at *
    generalize us 15 = z15 at *
    generalize us 16 = z16 at *
    generalize us 17 = z17 at *
    generalize us 18 = z18 at *
    generalize us 19 = z19 at *
    generalize us 20 = z20 at *
    generalize us 21 = z21 at *
    generalize us 22 = z22 at *
    replace HM := HM.add hS hR hRl
    replace hEw := Lib.hid (hEw.out.below hS)
    clear hS hR hRl
    have C := HM.facts
    simp only [facts, cellsAre, lts, apart, modC, macC, List.eraseIdx_cons_succ, List.eraseIdx_cons_zero, List.set_cons_zero, List.set_cons_succ, Nat.zero_add, Nat.reduceAdd, and_true] at C
    have F := HM.thaws
    simp only [thaws, List.eraseIdx_cons_succ, List.eraseIdx_cons_zero, List.set_cons_zero, List.set_cons_succ, Option.isSome_some, Option.isSome_none, Bool.false_eq_true, false_implies, forall_const, and_true, true_and] at F
    go_wp2_with fail
    clear C F
    refine (least_one _ _ ⟨bm, cm, bo, co, rfl, ⟨hcm, hco⟩, hA1, hA2⟩).mono ?_
    rintro e W7 ⟨p, q, n, k, rfl, hq, hlo, hP, hb⟩
    replace HM := HM.below hb
    replace hEw := Lib.hid (hEw.out.below hb)
    replace hA1 := hA1.below hb
    replace hA2 := hA2.below hb
    clear hb hlo
    have C := HM.facts
    simp only [facts, cellsAre, lts, apart, modC, List.eraseIdx_cons_succ, List.eraseIdx_cons_zero, List.set_cons_zero, List.set_cons_succ, Nat.zero_add, Nat.reduceAdd, and_true] at C
    have F := HM.thaws
    simp only [thaws, List.eraseIdx_cons_succ, List.eraseIdx_cons_zero, List.set_cons_zero, List.set_cons_succ, Option.isSome_some, Option.isSome_none, Bool.false_eq_true, false_implies, forall_const, and_true, true_and] at F
    go_wp2_with fail
    clear C F
    replace HM := HM.alloc (outC p q n k) 206
    replace hEw := Lib.hid (hEw.out.below (bpush (b0 W7) (.cells (outC p q n k).toArray 206)))
    refine (place_one bm cm bo co p q ⟨hcm, hco⟩ hq _ (hA1.push _) (hA2.push _) (hP.push _)).mono ?_
    rintro e W8 ⟨pl, pc, rfl, hpc, hplo, hPl, hb⟩
    replace HM := HM.below hb
    replace hEw := Lib.hid (hEw.out.below hb)
    clear hb hplo hA1 hA2 hP
    replace HM : Mem a W8 [⟨Mc, macC br cr bc cc sb sc sd se, some 118⟩, ⟨sb, roomC, none⟩, ⟨sd, claC sf sg, none⟩, ⟨sf, [.int .i64 1], none⟩] := HM.pick [2, 3, 4, 5] (by decide)
    have C := HM.facts
    simp only [facts, cellsAre, lts, apart, macC, List.eraseIdx_cons_succ, List.eraseIdx_cons_zero, List.set_cons_zero, List.set_cons_succ, Nat.zero_add, Nat.reduceAdd, and_true] at C
    have F := HM.thaws
    simp only [thaws, List.eraseIdx_cons_succ, List.eraseIdx_cons_zero, List.set_cons_zero, List.set_cons_succ, Option.isSome_some, Option.isSome_none, Bool.false_eq_true, false_implies, forall_const, and_true, true_and] at F
    go_wp2_with fail
    clear C F
    refine (of_one _ pl pc hpc _ ⟨sb, sc, sd, se, sf, sg, rfl, hcap, HM.at_ 1 rfl, HM.at_ 2 rfl, HM.at_ 3 rfl⟩ hPl.at_ hEw.out.tz).mono ?_
    rintro e W9 ⟨s9, c9, rfl, hc9, hS9, hb⟩
    replace HM := HM.below hb
    replace hEw := Lib.hid (hEw.out.below hb)
    clear hb hPl
    go_wp2_with fail
    refine (pub_one Mc br cr bc cc sb sc sd se sf sg s9 c9 hc9 a _ hEw.out hS9 HM).mono ?_
    rintro e W10 ⟨d, v, s, y, rfl, hsv, HM⟩
    go_wp2_with fail
    go_ret
    exact ⟨d, v, s, y, rfl, hsv, HM⟩
end Go.Proofs.YtcifdllbnbhcdaaGreatDoor
namespace Go.Proofs.YtcifdllbnbhcdaaGreatDoor
open Go.RowKit
set_option maxRecDepth 100000 in
set_option maxHeartbeats 8000000 in
theorem present_one (v : Value) (w : World) (h : OffAt w v) (hE : Env w) : Calls Tryz.prog 35 #[v] w (RetRE w) := by
  obtain ⟨br, cr, bc, cc, bp, cp, rfl, hcap, h1, h2, h3⟩ := h
  have HM := ((Mem.reg h1 h2 h3).alloc (offC br cr bc cc) 70).alloc zrC 58
  simp only [World.size_alloc, World.size_drew, World.size_setCell] at HM
  clear h1 h2 h3
  replace hE := Lib.hid hE
  go_enter Tryz.func35, Tryz.ntmps35
  go_upto_region 1 with fail
  go_step
  refine HM.wpLoad 1 rfl 0 23 70 (by kernel_rfl) rfl rfl rfl rfl ?_
  simp only [offC, List.drop_zero, List.take_succ_cons, List.take_zero]
  go_wp2_with fail
  refine (ovalid_one _ _ ⟨br, cr, bc, cc, bp, cp, rfl, hcap, HM.at_ 2 rfl, HM.at_ 3 rfl, HM.at_ 4 rfl⟩ (hE.out.below HM.bl)).mono ?_
  rintro e w1 ⟨rfl, hb⟩
  replace HM := HM.below hb
  clear hb
  obtain ⟨Z, hZ⟩ : ∃ n : Nat, n = w.heap.size + 1 := ⟨_, rfl⟩
  rw [← hZ] at HM ⊢
  clear hZ
  obtain ⟨R, hR⟩ : ∃ n : Nat, n = w.heap.size := ⟨_, rfl⟩
  rw [← hR] at HM ⊢
  clear hR
  have C := HM.facts
  simp only [facts, cellsAre, lts, apart, offC, List.eraseIdx_cons_succ, List.eraseIdx_cons_zero, List.set_cons_zero, List.set_cons_succ, Nat.zero_add, Nat.reduceAdd, and_true] at C
  have F := HM.thaws
  simp only [thaws, List.eraseIdx_cons_succ, List.eraseIdx_cons_zero, List.set_cons_zero, List.set_cons_succ, Option.isSome_some, Option.isSome_none, Bool.false_eq_true, false_implies, forall_const, and_true, true_and] at F
  go_wp2_with fail
  clear C F
  refine (appl_one _ _ ⟨br, cr, bc, cc, bp, cp, rfl, hcap, HM.at_ 2 rfl, HM.at_ 3 rfl, HM.at_ 4 rfl⟩).mono ?_
  rintro e w2 ⟨v2, rfl, ⟨b2, c2, d2, e2, f2, g2, rfl, hcap2, hlo, q1, q2, q3⟩, hb⟩
  have hs1 := HM.bl.size
  have HM : Mem w w2 [⟨b2, roomC, none⟩, ⟨d2, claC f2 g2, none⟩, ⟨f2, [.int .i64 1], none⟩, ⟨Z, zrC, some 58⟩] := (((HM.addReg hb hlo q1 q2 q3).erase 7).erase 6 |>.erase 5).erase 4
  have hl2 : w.heap.size ≤ b2 ∧ w.heap.size ≤ d2 ∧ w.heap.size ≤ f2 := by omega
  clear hb q1 q2 q3 hs1 hlo
  dsimp only
  repeat (fail_if_success (refine wpList_store_mid rfl 58 _ _ rfl Z 0 _ rfl rfl ?_ ?_ ?_ ?_)); go_step
  refine HM.wpStore 3 rfl 0 58 [.int .i64 1, .int .i64 1, .int .i64 480, .int .i64 45, .int .i64 2, .int .i64 1, .slice none 0 0, .slice (some ⟨b2, 0, none⟩) 1 c2, .slice none 0 0, .slice none 0 0, .slice none 0 0, .slice (some ⟨d2, 0, none⟩) 1 e2, .slice none 0 0, .slice none 0 0] (by kernel_rfl) (by kernel_rfl) rfl rfl rfl rfl rfl ?_
  replace HM : Mem w _ [⟨b2, roomC, none⟩, ⟨d2, claC f2 g2, none⟩, ⟨f2, [.int .i64 1], none⟩, ⟨Z, regC b2 c2 d2 e2, some 58⟩] := (HM.sets 3 rfl 0 [.int .i64 1, .int .i64 1, .int .i64 480, .int .i64 45, .int .i64 2, .int .i64 1, .slice none 0 0, .slice (some ⟨b2, 0, none⟩) 1 c2, .slice none 0 0, .slice none 0 0, .slice none 0 0, .slice (some ⟨d2, 0, none⟩) 1 e2, .slice none 0 0, .slice none 0 0] rfl)
  obtain ⟨w5, hW, HM⟩ : ∃ W, W = _ ∧ Mem _ W _ := ⟨_, rfl, HM⟩
  rw [← hW]
  clear hW
  go_wp2_with fail
  refine bodyPost_ret (v := .tuple #[regV b2 c2 d2 e2, .int .i64 0]) (results_two Tryz.results35 rfl rfl (HM.loadV 3 rfl 0 14 58 (by kernel_rfl) rfl)) rfl ?_
  exact ⟨_, rfl, ⟨b2, c2, d2, e2, f2, g2, rfl, hcap2, hl2, HM.at_ 0 rfl, HM.at_ 1 rfl, HM.at_ 2 rfl⟩, HM.bl⟩
end Go.Proofs.YtcifdllbnbhcdaaGreatDoor
