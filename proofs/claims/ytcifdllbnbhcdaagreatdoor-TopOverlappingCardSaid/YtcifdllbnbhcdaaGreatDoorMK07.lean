/- Texts K37, K38, Goes, joined: walks and laws. -/
import Derived.KernelRfl
import Derived.Test.YtcifdllbnbhcdaaGreatDoorMK06
set_option linter.unusedSimpArgs false
set_option linter.unusedVariables false
namespace Go.Proofs.YtcifdllbnbhcdaaGreatDoor
open Go.RowKit
set_option maxRecDepth 100000 in
set_option maxHeartbeats 2000000 in
theorem step_one (Mc : Nat) (w : World) : Calls Tryz.prog 36 #[.pointer (some ⟨Mc, 0, none⟩), .int .i64 1] w (RetS (.func (.func 71) #[.pointer (some ⟨Mc, 0, none⟩)] #[]) w) := by
  have hmf : ∀ (fn : Fn) (first cap : Array Value) (w : World), (Instr.makeFunc fn first cap).run Tryz.prog w = .ok (.func fn first cap) w := fun _ _ _ _ => rfl
  go_enter Tryz.func36, Tryz.ntmps36
  go_wp2_with fail
  go_ret
  exact ⟨rfl, rfl⟩
def offL (xa xb xc xd : Nat) (d v s : Sl) (y : Int) : List Value := [.int .i64 1, .int .i64 1, .int .i64 480, .int .i64 45, .int .i64 2, .int .i64 1, .slice none 0 0, .slice (some ⟨xa, 0, none⟩) 1 xb, .slice none 0 0, .slice none 0 0, .slice none 0 0, .slice (some ⟨xc, 0, none⟩) 1 xd, .slice none 0 0, .slice none 0 0, .slice none 0 0, .slice none 0 0, .int .i64 0, .int .i64 1, .slice none 0 0, slV d, .int .i64 y, slV v, slV s]
def doV (sb sc sd se br cr bc cc : Nat) (w1 : World) (_ : Array Bool) (j : Nat) (v : Value) (W : World) : Prop := match j with
  | 0 => v = offV br cr bc cc
  | 1 => ∃ xa xb xc xd, v = offV xa xb xc xd
  | 2 => v = regV sb sc sd se
  | 3 => ∃ xa xb xc xd, v = .agg (macC xa xb xc xd sb sc sd se).toArray
  | _ => ∃ Mc xa xb xc xd, v = .pointer (some ⟨Mc, 0, none⟩) ∧ w1.heap.size ≤ Mc ∧ Rw W Mc (macC xa xb xc xd sb sc sd se) 118
theorem doV_keep {sb sc sd se br cr bc cc : Nat} {w1 : World} {L L' : Array Bool} {j : Nat} {v : Value} {W W' : World} (hb : Below W.heap.size W W') (h : doV sb sc sd se br cr bc cc w1 L j v W) : doV sb sc sd se br cr bc cc w1 L' j v W' := by
  unfold doV at h ⊢
  split <;> simp only at h ⊢ <;> try exact h
  obtain ⟨Mc, xa, xb, xc, xd, h1, h2, h3⟩ := h
  exact ⟨Mc, xa, xb, xc, xd, h1, h2, h3.below hb⟩
theorem ci34 (args : Array Value) (w : World) : (callFunc 34 args).run Tryz.prog w = .ok (.enter 34 args) w := by kernel_rfl
def RetDo (w : World) (e : Ending) (w2 : World) : Prop := ∃ xa xb xc xd d v y g c, e = .returned (.tuple #[.agg (offL xa xb xc xd d v (some ⟨g, 0, none⟩, 1, c) y).toArray, .int .i64 0]) ∧ 1 ≤ c ∧ w.heap.size ≤ g ∧ At w2 g (sesC sX) ∧ Below w.heap.size w w2
set_option maxRecDepth 100000 in
set_option maxHeartbeats 16000000 in
theorem do_one (o : Value) (w : World) (h : OffAt w o) (hE : Env w) : Calls Tryz.prog 17 #[o, .agg #[.int .i64 1, .int .i64 0, .int .i64 0, .string ⟨#[]⟩, nilV, .int .i64 0, .string ⟨#[]⟩, .int .i64 0, .int .i64 0, .int .i64 0]] w (RetDo w) := by
  obtain ⟨br, cr, bc, cc, bp, cp, rfl, hcap, h1, h2, h3⟩ := h
  have hmf : ∀ (fn : Fn) (first cap : Array Value) (w : World), (Instr.makeFunc fn first cap).run Tryz.prog w = .ok (.func fn first cap) w := fun _ _ _ _ => rfl
  have HM := (((Mem.reg h1 h2 h3).alloc (offC br cr bc cc) 70).alloc evC 80).alloc zoC 70
  simp only [World.size_alloc, World.size_drew, World.size_setCell] at HM
  clear h1 h2 h3
  replace hE := Lib.hid hE
  go_enter Tryz.func17, Tryz.ntmps17
  go_upto_region 1 with fail
  go_step
  refine HM.wpLoad 2 rfl 0 23 70 (by kernel_rfl) rfl rfl rfl rfl ?_
  simp only [offC, List.drop_zero, List.take_succ_cons, List.take_zero]
  go_wp2_with fail
  refine (present_one _ _ ⟨br, cr, bc, cc, bp, cp, rfl, hcap, HM.at_ 3 rfl, HM.at_ 4 rfl, HM.at_ 5 rfl⟩ (hE.out.below HM.bl)).mono ?_
  rintro e w2 ⟨v2, rfl, ⟨sb, sc, sd, se, sf, sg, rfl, hcap2, hlo, q1, q2, q3⟩, hb⟩
  have HM := HM.addReg hb hlo q1 q2 q3
  clear hb hlo q1 q2 q3
  obtain ⟨Z, hZ⟩ : ∃ n : Nat, n = w.heap.size + 1 + 1 := ⟨_, rfl⟩
  rw [← hZ] at HM ⊢
  clear hZ
  obtain ⟨E, hE⟩ : ∃ n : Nat, n = w.heap.size + 1 := ⟨_, rfl⟩
  rw [← hE] at HM ⊢
  clear hE
  obtain ⟨R, hR⟩ : ∃ n : Nat, n = w.heap.size := ⟨_, rfl⟩
  rw [← hR] at HM ⊢
  clear hR
  replace HM : Mem w w2 [⟨sb, roomC, none⟩, ⟨sd, claC sf sg, none⟩, ⟨sf, [.int .i64 1], none⟩, ⟨Z, zoC, some 70⟩, ⟨E, evC, some 80⟩, ⟨R, offC br cr bc cc, some 70⟩, ⟨br, roomC, none⟩, ⟨bc, claC bp cp, none⟩, ⟨bp, [.int .i64 1], none⟩] := HM
  go_upto_region 4 with fail
  replace HM := HM.alloc (regC sb sc sd se) 58
  obtain ⟨w3, hW, HM⟩ : ∃ W, W = _ ∧ Mem _ W _ := ⟨_, rfl, HM⟩
  simp only [regC] at hW
  rw [← hW]
  clear hW
  obtain ⟨G, hG⟩ : ∃ n : Nat, n = w2.heap.size := ⟨_, rfl⟩
  rw [← hG] at HM ⊢
  clear hG
  have hZ3 := HM.lt 4 rfl
  have hw0 := HM.bl.size
  have HAR := Lib.hid (HM.at_ 6 rfl)
  have HAG := Lib.hid (HM.at_ 0 rfl)
  have HP := Lib.hid (fun (W : World) (h : Below w3.heap.size w3 W) => otwin_one (offV br cr bc cc) W ⟨br, cr, bc, cc, bp, cp, rfl, hcap, (HM.at_ 7 rfl).below h, (HM.at_ 8 rfl).below h, (HM.at_ 9 rfl).below h⟩)
  refine wp_region_relG (N := 43) (doV sb sc sd se br cr bc cc w3) (fun _ W => Below w3.heap.size w3 W) (by kernel_rfl) (by kernel_rfl) (by rfl) (bdrw (b0 w3)) (no_gd (by kernel_rfl)) ?_ ?_
  · intro i o L a' W ho hl hL hS hdf dep all fr dwn
    have HCR := HAR.out.below hS
    have HCG := HAG.out.below hS
    match i, ho with
    | 0, ho =>
      obtain rfl := so ho
      have f2 := fr 2 (by kernel_rfl)
      refine wp_load_mid 70 _ rfl R 0 (by simp [Act.eval, f2]) (offC br cr bc cc) _ (HCR.range 0 23 (Nat.le_refl _)) Tryz.underlying70 rfl (by kernel_rfl) ?_
      exact ⟨_, rfl, rfl, hS, fun j oj u _ _ _ _ hu => doV_keep (b0 _) hu⟩
    | 1, ho =>
      obtain rfl := so ho
      have d0 := dv (dep 0 _ rfl (by kernel_rfl)) (fun _ h => h) rfl
      refine wp_call1 (args := #[offV br cr bc cc]) rfl (by simp [Act.eval, d0]) (ci34 _ _) (HP.out W hS) ?_
      rintro e w9 ⟨u, rfl, ⟨xa, xb, xc, xd, xe, xf, rfl, _⟩, hb⟩
      exact ⟨_, rfl, ⟨xa, xb, xc, xd, rfl⟩, below3 hS hb, fun j oj u _ _ _ _ hu => doV_keep hb hu⟩
    | 2, ho =>
      obtain rfl := so ho
      have f6 := fr 6 (by kernel_rfl)
      refine wp_load_mid 58 _ rfl G 0 (by simp [Act.eval, f6]) (regC sb sc sd se) _ (HCG.range 0 14 (Nat.le_refl _)) Tryz.underlying58 rfl (by kernel_rfl) ?_
      exact ⟨_, rfl, rfl, hS, fun j oj u _ _ _ _ hu => doV_keep (b0 _) hu⟩
    | 3, ho =>
      obtain rfl := so ho
      obtain ⟨_, v1, ⟨xa, xb, xc, xd, rfl⟩, d1⟩ := dep 1 _ rfl (by kernel_rfl)
      have d1 := d1 21 rfl
      have d2 := dv (dep 2 _ rfl (by kernel_rfl)) (fun _ h => h) rfl
      unfold Oper.wp
      simp [go_sem, d1, d2]
      exact ⟨_, rfl, ⟨xa, xb, xc, xd, rfl⟩, hS, fun j oj u _ _ _ _ hu => doV_keep (b0 _) hu⟩
    | 4, ho =>
      obtain rfl := so ho
      obtain ⟨_, v3, ⟨xa, xb, xc, xd, rfl⟩, d3⟩ := dep 3 _ rfl (by kernel_rfl)
      have d3 := d3 23 rfl
      unfold Oper.wp
      simp [go_sem, d3]
      exact ⟨_, rfl, ⟨W.heap.size, xa, xb, xc, xd, rfl, hS.size, Rw.mk W (macC xa xb xc xd sb sc sd se) #[] 118 rfl⟩, below3 hS (bpush (b0 _) _), fun j oj u _ _ _ _ hu => doV_keep (bpush (b0 _) _) hu⟩
    | 5, ho =>
      obtain rfl := so ho
      obtain ⟨_, v4, ⟨Mc, xa, xb, xc, xd, rfl, hMl, hMr⟩, d4⟩ := dep 4 _ rfl (by kernel_rfl)
      have d4 := d4 24 rfl
      unfold Oper.wp
      simp [go_sem, d4]
      exact ⟨_, rfl, ⟨Mc, xa, xb, xc, xd, rfl, hMl, hMr⟩, hS, fun j oj u _ _ _ _ hu => doV_keep (b0 _) hu⟩
  · intro us W6 hS hV
    obtain ⟨Mc, xa, xb, xc, xd, hu, hMl, hMr⟩ := hV 5 _ rfl
    clear hV HAR HAG HP
    simp only [putAll, Act.put, List.setIfInBounds_toArray, List.set_cons_zero, List.set_cons_succ, Nat.zero_add, Nat.reduceAdd]
    rw [hu]
    clear hu
    generalize us 0 = z0 at *
    generalize us 1 = z1 at *
    generalize us 2 = z2 at *
    generalize us 3 = z3 at *
    generalize us 4 = z4 at *
    have HQ : Mem w3 w3 [⟨sb, roomC, none⟩, ⟨sd, claC sf sg, none⟩, ⟨sf, [.int .i64 1], none⟩] := Mem.reg (HM.at_ 1 rfl) (HM.at_ 2 rfl) (HM.at_ 3 rfl)
    replace HQ := HQ.add hS hMr hMl
    have HM3 : Mem w w3 [⟨Z, zoC, some 70⟩, ⟨E, evC, some 80⟩] := HM.pick [4, 5] (by decide)
    replace HM := HM3.below hS
    have hw3 : Z < w3.heap.size := hZ3
    have hEw := Lib.hid (hE.out.below HM.bl)
    clear hMr hS
    have C := HM.facts
    simp only [facts, cellsAre, lts, apart, evC, List.eraseIdx_cons_succ, List.eraseIdx_cons_zero, List.set_cons_zero, List.set_cons_succ, Nat.zero_add, Nat.reduceAdd, and_true] at C
    have F := HM.thaws
    simp only [thaws, List.eraseIdx_cons_succ, List.eraseIdx_cons_zero, List.set_cons_zero, List.set_cons_succ, Option.isSome_some, Option.isSome_none, Bool.false_eq_true, false_implies, forall_const, and_true, true_and] at F
    have hnf : ∀ (f : Fn) (x y : Array Value) (W : World), (binOp BinOp.eql 119 (.func f x y) .nilFunc).run Tryz.prog W = .ok (.bool false) W := fun _ _ _ _ => by kernel_rfl
    go_wp2_with (go_at_call 36; refine (step_one _ _).mono ?_; rintro e w' ⟨rfl, rfl⟩)
    clear C F
    refine (plan_one Mc xa xb xc xd sb sc sd se sf sg hcap2 evC rfl w3 W6 hEw.out HQ).mono ?_
    rintro e W7 ⟨d, v, s, y, rfl, ⟨g, c, rfl, hc, hg, hAt⟩, HQ⟩
    replace HM := HM3.below HQ.bl
    have hlg : w.heap.size ≤ g := Nat.le_trans hw0 hg
    go_upto_region 11 with fail
    go_step
    repeat (fail_if_success (refine wpList_load_mid rfl 70 _ rfl Mc 0 rfl ?_ ?_ ?_ ?_ ?_ ?_ ?_)); go_step
    refine HQ.wpLoad 0 rfl 0 23 70 (by kernel_rfl) rfl rfl rfl rfl ?_
    refine HM.wpStore 0 rfl 0 70 (offL xa xb xc xd d v (some ⟨g, 0, none⟩, 1, c) y) (by kernel_rfl) (by kernel_rfl) rfl rfl rfl rfl rfl ?_
    have hgZ : Z ≠ g := by omega
    have hAt2 : At (W7.setCells Z 0 (offL xa xb xc xd d v (some ⟨g, 0, none⟩, 1, c) y)) g (sesC sX) := hAt.but (But.setCells Z _ 0) hgZ
    replace HM : Mem w _ [⟨Z, offL xa xb xc xd d v (some ⟨g, 0, none⟩, 1, c) y, some 70⟩] := (HM.sets 0 rfl 0 (offL xa xb xc xd d v (some ⟨g, 0, none⟩, 1, c) y) rfl).erase 1
    clear hAt HQ
    obtain ⟨W8, hW, HM, hAt2⟩ : ∃ W, W = _ ∧ Mem w W _ ∧ At W g (sesC sX) := ⟨_, rfl, HM, hAt2⟩
    rw [← hW]
    clear hW
    go_wp2_with fail
    refine bodyPost_ret (v := .tuple #[.agg (offL xa xb xc xd d v (some ⟨g, 0, none⟩, 1, c) y).toArray, .int .i64 0]) (results_two Tryz.results17 rfl rfl (HM.loadV 0 rfl 0 23 70 (by kernel_rfl) rfl)) rfl ?_
    exact ⟨xa, xb, xc, xd, d, v, y, g, c, rfl, hc, hlg, hAt2, HM.bl⟩
end Go.Proofs.YtcifdllbnbhcdaaGreatDoor
namespace Go.Proofs.YtcifdllbnbhcdaaGreatDoor
open Go.RowKit
theorem Mem.rebase {a w : World} {l : List Blk} (h : Mem w w l) (hb : Below a.heap.size a w) (hr : ∀ b ∈ l, b.ty = none) : Mem a w l :=
  ⟨hb, fun b hm => ⟨(h.ok b hm).at_, (h.ok b hm).lt, fun T hT => by rw [hr b hm] at hT; cases hT⟩, h.nd⟩
set_option maxRecDepth 100000 in
set_option maxHeartbeats 8000000 in
theorem second_any (w : World) (hE : Env w) : Calls Tryz.prog 5 #[] w (RetB (.bool true) w) := by
  replace hE := Lib.hid hE
  go_enter Tryz.func5, Tryz.ntmps5
  go_wp2_with fail
  refine (crowd_one _).mono ?_
  rintro e w1 ⟨v1, rfl, hr, hb1⟩
  go_wp2_with fail
  refine (new_one _ _ hr).mono ?_
  rintro e w2 ⟨v2, rfl, ⟨br, cr, bc, cc, bp, cp, rfl, hcap, _, h1, h2, h3⟩, hb2⟩
  have HB := below3 hb1 hb2
  have HM : Mem w w2 [⟨br, roomC, none⟩, ⟨bc, claC bp cp, none⟩, ⟨bp, [.int .i64 1], none⟩] := (Mem.reg h1 h2 h3).rebase HB (by simp)
  clear hb1 hb2 hr HB h1 h2 h3
  dsimp only
  repeat (fail_if_success (refine wpList_store_mid rfl 70 _ _ rfl w2.heap.size 0 _ rfl rfl ?_ ?_ ?_ ?_)); go_step
  replace HM := HM.alloc zoC 70
  refine HM.wpStore 0 rfl 0 70 (offC br cr bc cc) (by kernel_rfl) (by kernel_rfl) rfl rfl rfl rfl rfl ?_
  replace HM : Mem w _ [⟨w2.heap.size, offC br cr bc cc, some 70⟩, ⟨br, roomC, none⟩, ⟨bc, claC bp cp, none⟩, ⟨bp, [.int .i64 1], none⟩] := HM.sets 0 rfl 0 (offC br cr bc cc) rfl
  obtain ⟨w3, hW, HM⟩ : ∃ W, W = _ ∧ Mem _ W _ := ⟨_, rfl, HM⟩
  rw [← hW]
  clear hW
  obtain ⟨A, hA⟩ : ∃ n : Nat, n = w2.heap.size := ⟨_, rfl⟩
  rw [← hA] at HM ⊢
  clear hA
  go_upto_region 2 with fail
  go_step
  refine HM.wpLoad 0 rfl 0 23 70 (by kernel_rfl) rfl rfl rfl rfl ?_
  simp only [offC, List.drop_zero, List.take_succ_cons, List.take_zero]
  go_wp2_with fail
  refine (do_one _ _ ⟨br, cr, bc, cc, bp, cp, rfl, hcap, HM.at_ 1 rfl, HM.at_ 2 rfl, HM.at_ 3 rfl⟩ (hE.out.below HM.bl)).mono ?_
  rintro e w4 ⟨xa, xb, xc, xd, d, v, y, g, c, rfl, hc, hg, hAt, hb⟩
  have hlg : w.heap.size ≤ g := Nat.le_trans HM.bl.size hg
  have HM := ((HM.add0 hb hAt (At.lt hAt) hg).pick [0] (by decide)).alloc zoC 70
  clear hb
  dsimp only
  repeat (fail_if_success (refine wpList_store_mid rfl 70 _ _ rfl w4.heap.size 0 _ rfl rfl ?_ ?_ ?_ ?_)); go_step
  refine HM.wpStore 0 rfl 0 70 (offL xa xb xc xd d v (some ⟨g, 0, none⟩, 1, c) y) (by kernel_rfl) (by kernel_rfl) rfl rfl rfl rfl rfl ?_
  replace HM : Mem w _ [⟨w4.heap.size, offL xa xb xc xd d v (some ⟨g, 0, none⟩, 1, c) y, some 70⟩, ⟨g, sesC sX, none⟩] := HM.sets 0 rfl 0 (offL xa xb xc xd d v (some ⟨g, 0, none⟩, 1, c) y) rfl
  obtain ⟨w5, hW, HM⟩ : ∃ W, W = _ ∧ Mem _ W _ := ⟨_, rfl, HM⟩
  rw [← hW]
  clear hW
  obtain ⟨B, hB⟩ : ∃ n : Nat, n = w4.heap.size := ⟨_, rfl⟩
  rw [← hB] at HM ⊢
  clear hB
  have k0 := HM.at_ 0 rfl 22 _ rfl
  have k1 := HM.at_ 1 rfl 5 _ rfl
  simp only [slV, arr] at k0 k1
  go_wp2_with fail
  go_ret
  exact ⟨rfl, HM.bl⟩
end Go.Proofs.YtcifdllbnbhcdaaGreatDoor
