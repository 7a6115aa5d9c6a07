/- Texts K31d, K31, K32, K33, K26, K34, joined: walks and laws. -/
import Derived.Test.YtcifdllbnbhcdaaGreatDoorMK04
import Derived.Test.YtcifdllbnbhcdaaGreatDoorMV04
import Derived.Test.YtcifdllbnbhcdaaGreatDoorMV22
set_option linter.unusedSimpArgs false
set_option linter.unusedVariables false
namespace Go.Proofs.YtcifdllbnbhcdaaGreatDoor
open Go.RowKit
abbrev forb : Value := .int .i64 1099511627776
abbrev lefC (b c : Nat) : List Value := [.slice (some ⟨b, 0, none⟩) 1 c]
def dnV (b c O : Nat) (w5 : World) (_ : Array Bool) (j : Nat) (v : Value) (W : World) : Prop := match j with
  | 0 => v = .slice (some ⟨b, 0, none⟩) 1 c
  | 1 => ∃ x y, v = .slice (some ⟨x, 0, none⟩) 1 y ∧ 1 ≤ y ∧ w5.heap.size ≤ x ∧ Rw W x [.int .i64 0] 3
  | 2 | 5 | 6 => v = .int .i64 0
  | 3 | 11 => v = .pointer (some ⟨O, 2, none⟩)
  | 4 => v = forb
  | 7 => v = .pointer (some ⟨O, 0, none⟩)
  | 9 => v = .pointer (some ⟨O, 1, none⟩)
  | _ => True
def dnS (O : Nat) (w5 : World) (L : Array Bool) (W : World) : Prop := But O w5 W ∧ ∃ x y z, Rw W O [x, y, z, nilV] 206 ∧ (L[8]? = some true → ∃ p q, x = .slice (some ⟨p, 0, none⟩) 1 q ∧ 1 ≤ q ∧ w5.heap.size ≤ p ∧ Rw W p [.int .i64 0] 3) ∧ (L[10]? = some true → y = .int .i64 0) ∧ (¬ L[12]? = some true → z = forb) ∧ (L[12]? = some true → z = .int .i64 0)
section
variable {b c O : Nat} {w5 : World} {L : Array Bool} {i j : Nat} {v : Value} {W W' : World}
theorem dnV_keep (hb : Below W.heap.size W W') (h : dnV b c O w5 L j v W) : dnV b c O w5 (L.setIfInBounds i true) j v W' := by
  unfold dnV at h ⊢
  split <;> simp only at h ⊢ <;> try exact h
  obtain ⟨x, y, h1, h2, h3, h4⟩ := h
  exact ⟨x, y, h1, h2, h3, h4.below hb⟩
theorem dnV_store (hr : O < w5.heap.size) (o : Nat) (u : Value) (h : dnV b c O w5 L j v W) : dnV b c O w5 (L.setIfInBounds i true) j v (W.setCell ⟨O, o, none⟩ u) := by
  unfold dnV at h ⊢
  split <;> simp only at h ⊢ <;> try exact h
  obtain ⟨x, y, h1, h2, h3, h4⟩ := h
  exact ⟨x, y, h1, h2, h3, h4.other (by omega) _ _⟩
theorem dnS_keep (h8 : i ≠ 8) (h10 : i ≠ 10) (h12 : i ≠ 12) (hb : Below W.heap.size W W') (h : dnS O w5 L W) : dnS O w5 (L.setIfInBounds i true) W' := by
  obtain ⟨h1, x, y, z, h2, h3, h4, h5, h6⟩ := h
  unfold dnS
  rw [Array.getElem?_setIfInBounds_ne h8, Array.getElem?_setIfInBounds_ne h10, Array.getElem?_setIfInBounds_ne h12]
  exact ⟨h1.trans (But.of_below hb), x, y, z, h2.below hb, fun h => by obtain ⟨p, q, e1, e2, e3, e4⟩ := h3 h; exact ⟨p, q, e1, e2, e3, e4.below hb⟩, h4, h5, h6⟩
theorem dnS_8 (hl : L[8]? = some false) (hr : O < w5.heap.size) {p q : Nat} (hq : 1 ≤ q) (hp : w5.heap.size ≤ p) (hR : Rw W p [.int .i64 0] 3) (h : dnS O w5 L W) : dnS O w5 (L.setIfInBounds 8 true) (W.setCell ⟨O, 0, none⟩ (.slice (some ⟨p, 0, none⟩) 1 q)) := by
  obtain ⟨h1, x, y, z, h2, _, h4, h5, h6⟩ := h
  unfold dnS
  rw [Array.getElem?_setIfInBounds_ne (by decide : (8 : Nat) ≠ 10), Array.getElem?_setIfInBounds_ne (by decide : (8 : Nat) ≠ 12)]
  exact ⟨h1.trans (But.setCell _ _ _ _), _, y, z, h2.set 0 (by simp) _, fun _ => ⟨p, q, rfl, hq, hp, hR.other (by omega) _ _⟩, h4, h5, h6⟩
theorem dnS_10 (hl : L[10]? = some false) (hr : O < w5.heap.size) (h : dnS O w5 L W) : dnS O w5 (L.setIfInBounds 10 true) (W.setCell ⟨O, 1, none⟩ (.int .i64 0)) := by
  obtain ⟨h1, x, y, z, h2, h3, _, h5, h6⟩ := h
  unfold dnS
  rw [Array.getElem?_setIfInBounds_ne (by decide : (10 : Nat) ≠ 8), Array.getElem?_setIfInBounds_ne (by decide : (10 : Nat) ≠ 12)]
  exact ⟨h1.trans (But.setCell _ _ _ _), x, _, z, h2.set 1 (by simp) _, fun h => by obtain ⟨p, q, e1, e2, e3, e4⟩ := h3 h; exact ⟨p, q, e1, e2, e3, e4.other (by omega) _ _⟩, fun _ => rfl, h5, h6⟩
theorem dnS_12 (hl : L[12]? = some false) (hr : O < w5.heap.size) (h : dnS O w5 L W) : dnS O w5 (L.setIfInBounds 12 true) (W.setCell ⟨O, 2, none⟩ (.int .i64 0)) := by
  obtain ⟨h1, x, y, z, h2, h3, h4, _, _⟩ := h
  unfold dnS
  rw [Array.getElem?_setIfInBounds_ne (by decide : (12 : Nat) ≠ 8), Array.getElem?_setIfInBounds_ne (by decide : (12 : Nat) ≠ 10)]
  exact ⟨h1.trans (But.setCell _ _ _ _), x, y, _, h2.set 2 (by simp) _, fun h => by obtain ⟨p, q, e1, e2, e3, e4⟩ := h3 h; exact ⟨p, q, e1, e2, e3, e4.other (by omega) _ _⟩, h4, fun hn => absurd (listed_now hl) hn, fun _ => rfl⟩
end
theorem ci270 (args : Array Value) (w : World) : (callFunc 270 args).run Tryz.prog w = .ok (.enter 270 args) w := by kernel_rfl
def DownP (a : World) (N Lf M O Z Wh b c b2 c2 bm cm bo co : Nat) (z : List Value) (e : Ending) (w2 : World) : Prop := ∃ n k p q, e = .returned (.int .i64 0) ∧ (1 ≤ k ∧ 1 ≤ q) ∧ Mem a w2 [⟨p, [.int .i64 0], some 3⟩, ⟨Lf, lefC b c, some 381⟩, ⟨b, lefC b2 c2, some 255⟩, ⟨b2, [.bool true], some 4⟩, ⟨N, lefC n k, some 202⟩, ⟨O, [.slice (some ⟨p, 0, none⟩) 1 q, .int .i64 0, .int .i64 0, nilV], some 206⟩, ⟨M, modC bm cm 2, some 105⟩, ⟨Z, z, some 206⟩, ⟨Wh, [.bool true], some 4⟩, ⟨bm, lefC bo co, none⟩, ⟨bo, optC, none⟩]
set_option maxRecDepth 100000 in
set_option maxHeartbeats 16000000 in
theorem down_one (a w : World) (N Lf M O S Rm Wh D Z b c b2 c2 bm cm bo co : Nat) (z : List Value) (hcs : 1 ≤ cm ∧ 1 ≤ co ∧ 1 ≤ c ∧ 1 ≤ c2)
    (HM : Mem a w [⟨Lf, lefC b c, some 381⟩, ⟨b, lefC b2 c2, some 255⟩, ⟨b2, [.bool true], some 4⟩, ⟨N, [nilV], some 202⟩, ⟨O, [nilV, forb, forb, nilV], some 206⟩, ⟨M, modC bm cm 2, some 105⟩, ⟨Z, z, some 206⟩, ⟨Wh, [.bool true], some 4⟩, ⟨bm, lefC bo co, none⟩, ⟨bo, optC, none⟩]) :
    Calls Tryz.prog 268 #[.int .i64 0, .pointer (some ⟨N, 0, none⟩), .pointer (some ⟨Lf, 0, none⟩), .pointer (some ⟨M, 0, none⟩), .pointer (some ⟨O, 0, none⟩), .pointer (some ⟨S, 0, none⟩), .pointer (some ⟨Rm, 0, none⟩), .pointer (some ⟨Wh, 0, none⟩), .pointer (some ⟨D, 0, none⟩)] w (DownP a N Lf M O Z Wh b c b2 c2 bm cm bo co z) := by
  obtain ⟨hcm, hco, hc, hc2⟩ := hcs
  have HS := (((HM.erase 9).erase 8).erase 7).erase 6
  have C := HS.facts
  simp only [facts, cellsAre, lts, apart, modC, List.eraseIdx_cons_succ, List.eraseIdx_cons_zero, Nat.zero_add, Nat.reduceAdd, and_true] at C
  have F := (HS.rw_ 3 rfl).fz 0
  clear HS
  go_enter Tryz.func268, Tryz.ntmps268
  go_wp2_with fail
  clear C F
  have hcn := cap_ge 1 0 386 (w.tape w.drawn (Question.appendCap 1 0 386))
  generalize (Question.appendCap 1 0 386).cut (w.tape w.drawn (Question.appendCap 1 0 386)) = cn at *
  replace HM := (((HM.set 3 0 (.slice (some ⟨w.heap.size + 1, 0, none⟩) 1 cn) rfl rfl).alloc [.int .i64 (-1), nilV, nilV, nilV, nilV] 386).allocx [.int .i64 (-1), nilV, nilV, nilV, nilV] (Builtin.zeroCells #[.int .i64 0, nilV, nilV, nilV, nilV] (cn - 1)) 386).drew
  replace HM := (HM.erase 1).erase 0
  obtain ⟨w2, hW, HM⟩ : ∃ W, W = _ ∧ Mem _ W _ := ⟨_, rfl, HM⟩
  rw [← hW]
  clear hW
  obtain ⟨N1, hN1⟩ : ∃ n : Nat, n = w.heap.size + 1 := ⟨_, rfl⟩
  rw [← hN1] at HM ⊢
  clear hN1
  replace HM : Mem a w2 [⟨Lf, lefC b c, some 381⟩, ⟨b, lefC b2 c2, some 255⟩, ⟨b2, [.bool true], some 4⟩, ⟨N, lefC N1 cn, some 202⟩, ⟨O, [nilV, forb, forb, nilV], some 206⟩, ⟨M, modC bm cm 2, some 105⟩, ⟨Z, z, some 206⟩, ⟨Wh, [.bool true], some 4⟩, ⟨bm, lefC bo co, none⟩, ⟨bo, optC, none⟩] := HM
  have HS := (((HM.erase 9).erase 8).erase 7).erase 6
  have C := HS.facts
  simp only [facts, cellsAre, lts, apart, modC, List.eraseIdx_cons_succ, List.eraseIdx_cons_zero, Nat.zero_add, Nat.reduceAdd, and_true] at C
  clear HS
  refine wp_loop_rounds 2 ?_
  rw [rounds_succ]
  go_wp2_with fail
  rw [rounds_succ]
  go_wp2_with fail
  refine (value_one bm cm bo co b c b2 c2 ⟨hcm, hco, hc, hc2⟩ _ (HM.at_ 8 rfl) (HM.at_ 9 rfl) (HM.at_ 1 rfl) (HM.at_ 2 rfl)).mono ?_
  rintro e w3 ⟨rfl, hb⟩
  replace HM := HM.below hb
  clear hb C
  have HS := (((HM.erase 9).erase 8).erase 7).erase 6
  have C := HS.facts
  simp only [facts, cellsAre, lts, apart, modC, List.eraseIdx_cons_succ, List.eraseIdx_cons_zero, Nat.zero_add, Nat.reduceAdd, and_true] at C
  clear HS
  go_upto_region 10 with fail
  clear C
  have hO := HM.lt 4 rfl
  have hLf := Lib.hid (HM.rw_ 0 rfl)
  have hbb := Lib.hid (HM.rw_ 1 rfl)
  have hb2 := Lib.hid (HM.rw_ 2 rfl)
  have n1 : Lf ≠ O := HM.ne (i := 0) (k := 4) rfl rfl (by decide)
  have n2 : b ≠ O := HM.ne (i := 1) (k := 4) rfl rfl (by decide)
  have n3 : b2 ≠ O := HM.ne (i := 2) (k := 4) rfl rfl (by decide)
  refine wp_region_relG (N := 132) (dnV b c O w3) (dnS O w3) (by kernel_rfl) (by kernel_rfl) (by rfl) ⟨But.of_below (bdrw (b0 w3)), nilV, forb, forb, (HM.rw_ 4 rfl).below (bdrw (b0 w3)), (fun h => by rw [Array.getElem?_replicate] at h; split at h <;> cases h), (fun h => by rw [Array.getElem?_replicate] at h; split at h <;> cases h), (fun _ => rfl), (fun h => by rw [Array.getElem?_replicate] at h; split at h <;> cases h)⟩ (no_gd (by kernel_rfl)) ?_ ?_
  · intro i o L a' W ho hl hL hS hdf dep all fr dwn
    match i, ho with
    | 0, ho =>
      obtain rfl := so ho
      have f2 := fr 2 (by kernel_rfl)
      have hc0 := (hLf.out.but hS.1 n1).at_ 0 _ rfl
      unfold Oper.wp
      simp [go_sem, f2, hc0]
      exact ⟨_, rfl, rfl, dnS_keep (by decide) (by decide) (by decide) (b0 _) hS, fun j oj u _ _ _ _ hu => dnV_keep (b0 _) hu⟩
    | 1, ho =>
      obtain rfl := so ho
      have d0 := dv (dep 0 _ rfl (by kernel_rfl)) (fun _ h => h) rfl
      refine wp_call1 (args := #[.slice (some ⟨b, 0, none⟩) 1 c]) rfl (by simp [Act.eval, d0]) (ci270 _ _) (chosen_one b c b2 c2 ⟨hc, hc2⟩ W (hbb.out.but hS.1 n2).at_ (hb2.out.but hS.1 n3).at_) ?_
      rintro e w9 ⟨x, y, rfl, hy, hlo, hR, hb⟩
      exact ⟨_, rfl, ⟨x, y, rfl, hy, Nat.le_trans hS.1.size hlo, hR⟩, dnS_keep (by decide) (by decide) (by decide) hb hS, fun j oj u _ _ _ _ hu => dnV_keep hb hu⟩
    | 2, ho =>
      obtain rfl := so ho
      have f12 := fr 12 (by kernel_rfl)
      unfold Oper.wp
      simp [go_sem, f12]
      exact ⟨_, rfl, rfl, dnS_keep (by decide) (by decide) (by decide) (b0 _) hS, fun j oj u _ _ _ _ hu => dnV_keep (b0 _) hu⟩
    | 3, ho =>
      obtain rfl := so ho
      have f4 := fr 4 (by kernel_rfl)
      unfold Oper.wp
      simp [go_sem, f4]
      exact ⟨_, rfl, rfl, dnS_keep (by decide) (by decide) (by decide) (b0 _) hS, fun j oj u _ _ _ _ hu => dnV_keep (b0 _) hu⟩
    | 4, ho =>
      obtain rfl := so ho
      have d3 := dv (dep 3 _ rfl (by kernel_rfl)) (fun _ h => h) rfl
      obtain ⟨_, x_, y_, z_, hrw, _, _, hz0, _⟩ := id hS
      have hn : ¬ L[12]? = some true := fun h => by have := dwn 12 _ rfl h 4 _ rfl (by kernel_rfl); rw [hl] at this; cases this
      obtain rfl := hz0 hn
      have hq := hrw.at_ 2 _ rfl
      unfold Oper.wp
      simp [go_sem, d3, hq]
      exact ⟨_, rfl, rfl, dnS_keep (by decide) (by decide) (by decide) (b0 _) hS, fun j oj u _ _ _ _ hu => dnV_keep (b0 _) hu⟩
    | 5, ho =>
      obtain rfl := so ho
      have f12 := fr 12 (by kernel_rfl)
      unfold Oper.wp
      simp [go_sem, f12]
      exact ⟨_, rfl, rfl, dnS_keep (by decide) (by decide) (by decide) (b0 _) hS, fun j oj u _ _ _ _ hu => dnV_keep (b0 _) hu⟩
    | 6, ho =>
      obtain rfl := so ho
      have d4 := dv (dep 4 _ rfl (by kernel_rfl)) (fun _ h => h) rfl
      have d5 := dv (dep 5 _ rfl (by kernel_rfl)) (fun _ h => h) rfl
      unfold Oper.wp
      simp [go_sem, d4, d5]
      exact ⟨_, rfl, rfl, dnS_keep (by decide) (by decide) (by decide) (b0 _) hS, fun j oj u _ _ _ _ hu => dnV_keep (b0 _) hu⟩
    | 7, ho =>
      obtain rfl := so ho
      have f4 := fr 4 (by kernel_rfl)
      unfold Oper.wp
      simp [go_sem, f4]
      exact ⟨_, rfl, rfl, dnS_keep (by decide) (by decide) (by decide) (b0 _) hS, fun j oj u _ _ _ _ hu => dnV_keep (b0 _) hu⟩
    | 8, ho =>
      obtain rfl := so ho
      have d7 := dv (dep 7 _ rfl (by kernel_rfl)) (fun _ h => h) rfl
      obtain ⟨_, v1, ⟨x, y, rfl, hy, hlo, hR⟩, d1⟩ := dep 1 _ rfl (by kernel_rfl)
      have d1 := d1 56 rfl
      obtain ⟨_, x_, y_, z_, hrw, _, _, hz0, _⟩ := id hS
      have hq := hrw.at_ 0 _ rfl
      have hf := hrw.fz 0
      unfold Oper.wp
      simp [go_sem, d7, d1, hq, hf]
      exact ⟨undef, rfl, trivial, dnS_8 hl hO hy hlo hR hS, fun j oj u _ _ _ _ hu => dnV_store hO _ _ hu⟩
    | 9, ho =>
      obtain rfl := so ho
      have f4 := fr 4 (by kernel_rfl)
      unfold Oper.wp
      simp [go_sem, f4]
      exact ⟨_, rfl, rfl, dnS_keep (by decide) (by decide) (by decide) (b0 _) hS, fun j oj u _ _ _ _ hu => dnV_keep (b0 _) hu⟩
    | 10, ho =>
      obtain rfl := so ho
      have d9 := dv (dep 9 _ rfl (by kernel_rfl)) (fun _ h => h) rfl
      have d2 := dv (dep 2 _ rfl (by kernel_rfl)) (fun _ h => h) rfl
      obtain ⟨_, x_, y_, z_, hrw, _, _, hz0, _⟩ := id hS
      have hq := hrw.at_ 1 _ rfl
      have hf := hrw.fz 1
      unfold Oper.wp
      simp [go_sem, d9, d2, hq, hf]
      exact ⟨undef, rfl, trivial, dnS_10 hl hO hS, fun j oj u _ _ _ _ hu => dnV_store hO _ _ hu⟩
    | 11, ho =>
      obtain rfl := so ho
      have f4 := fr 4 (by kernel_rfl)
      unfold Oper.wp
      simp [go_sem, f4]
      exact ⟨_, rfl, rfl, dnS_keep (by decide) (by decide) (by decide) (b0 _) hS, fun j oj u _ _ _ _ hu => dnV_keep (b0 _) hu⟩
    | 12, ho =>
      obtain rfl := so ho
      have d11 := dv (dep 11 _ rfl (by kernel_rfl)) (fun _ h => h) rfl
      have d6 := dv (dep 6 _ rfl (by kernel_rfl)) (fun _ h => h) rfl
      obtain ⟨_, x_, y_, z_, hrw, _, _, hz0, _⟩ := id hS
      have hq := hrw.at_ 2 _ rfl
      have hf := hrw.fz 2
      unfold Oper.wp
      simp [go_sem, d11, d6, hq, hf]
      exact ⟨undef, rfl, trivial, dnS_12 hl hO hS, fun j oj u _ _ _ _ hu => dnV_store hO _ _ hu⟩
  · intro us W6 hS hV
    clear hV
    obtain ⟨hbt, x, y, zz, hrw, h8, h10, _, h12⟩ := hS
    obtain ⟨p, q, rfl, hq, hlo, hR⟩ := h8 (by rw [Array.getElem?_replicate]; rfl)
    obtain rfl := h10 (by rw [Array.getElem?_replicate]; rfl)
    obtain rfl := h12 (by rw [Array.getElem?_replicate]; rfl)
    have HN := HM.butAdd 4 rfl hbt hrw hR hlo
    clear hbt hrw h8 h10 h12 hR HM
    simp only [putAll, Act.put, List.setIfInBounds_toArray, List.set_cons_zero, List.set_cons_succ, Nat.zero_add, Nat.reduceAdd]
    generalize us 0 = z0 at *
    generalize us 1 = z1 at *
    generalize us 2 = z2 at *
    generalize us 3 = z3 at *
    generalize us 4 = z4 at *
    generalize us 5 = z5 at *
    generalize us 6 = z6 at *
    generalize us 7 = z7 at *
    generalize us 9 = z9 at *
    generalize us 11 = z11 at *
    go_wp2_with fail
    go_ret
    exact ⟨N1, cn, p, q, rfl, ⟨hcn, hq⟩, HN⟩
end Go.Proofs.YtcifdllbnbhcdaaGreatDoor
namespace Go.Proofs.YtcifdllbnbhcdaaGreatDoor
open Go.RowKit
theorem Mem.add2 {a w w2 : World} {l : List Blk} {b b2 : Nat} {vs us : List Value} {T U : TypeId} (h : Mem a w l) (hb : Below w.heap.size w w2) (hr : Rw w2 b vs T) (hlo : w.heap.size ≤ b) (hr2 : Rw w2 b2 us U) (hlo2 : w.heap.size ≤ b2) (hne : b ≠ b2) : Mem a w2 (⟨b, vs, some T⟩ :: ⟨b2, us, some U⟩ :: l) :=
  (h.add hb hr2 hlo2).push (.of hr (Nat.le_trans h.bl.size hlo)) fun c hc e => by
    rcases List.mem_cons.1 hc with rfl | hc
    · exact hne e
    · have := (h.ok c hc).lt; simp only at e; omega
theorem Mem.pick {a w : World} {l : List Blk} (h : Mem a w l) (ks : List Nat) (hn : ks.Pairwise (· ≠ ·)) : Mem a w (ks.filterMap (fun k => l[k]?)) := by
  refine ⟨h.bl, fun b hb => ?_, ?_⟩
  · obtain ⟨k, _, hk⟩ := List.mem_filterMap.1 hb
    exact h.ok b (List.mem_of_getElem? hk)
  · exact List.Pairwise.filterMap _ (fun i j hij x hx y hy => h.ne hx hy hij) hn
def RetGrow (w : World) (e : Ending) (w2 : World) : Prop := ∃ p q n k, e = .returned (.tuple #[.agg #[.slice (some ⟨p, 0, none⟩) 1 q, .int .i64 0, .int .i64 0, .slice (some ⟨n, 0, none⟩) 1 k], .bool true]) ∧ 1 ≤ q ∧ w.heap.size ≤ p ∧ At w2 p [.int .i64 0] ∧ Below w.heap.size w w2
set_option maxRecDepth 100000 in
set_option maxHeartbeats 8000000 in
theorem grow_one (v : Value) (w : World) (h : ModAt 2 w v) : Calls Tryz.prog 195 #[v, .agg #[.slice none 0 0, .int .i64 1099511627776, .int .i64 0, .slice none 0 0], .int .i64 20000] w (RetGrow w) := by
  obtain ⟨bm, cm, bo, co, rfl, ⟨hcm, hco⟩, h1, h2⟩ := h
  have hmf : ∀ (fn : Fn) (first cap : Array Value) (w : World), (Instr.makeFunc fn first cap).run Tryz.prog w = .ok (.func fn first cap) w := fun _ _ _ _ => rfl
  have HM := ((((Mem.mod h1 h2).alloc (modC bm cm 2) 105).alloc [.slice none 0 0, .int .i64 1099511627776, .int .i64 0, .slice none 0 0] 206).alloc [.int .i64 20000] 3).alloc [.slice none 0 0, .int .i64 0, .int .i64 0, .slice none 0 0] 206
  simp only [World.size_alloc, World.size_drew, World.size_setCell] at HM
  clear h1 h2
  go_enter Tryz.func195, Tryz.ntmps195
  go_wp2_with fail
  refine (left_one _ _ ⟨bm, cm, bo, co, rfl, ⟨hcm, hco⟩, HM.at_ 4 rfl, HM.at_ 5 rfl⟩).mono ?_
  rintro e w1 ⟨b, c, b2, c2, rfl, ⟨hc, hc2⟩, hlo1, hlo2, hne, hr1, hr2, hb⟩
  replace HM := HM.add2 hb hr1 hlo1 hr2 hlo2 hne
  clear hb hlo1 hlo2 hr1 hr2 hne
  obtain ⟨Z, hZ⟩ : ∃ n : Nat, n = w.heap.size + 1 + 1 + 1 := ⟨_, rfl⟩
  rw [← hZ] at HM ⊢
  clear hZ
  obtain ⟨S, hS⟩ : ∃ n : Nat, n = w.heap.size + 1 + 1 := ⟨_, rfl⟩
  rw [← hS] at HM ⊢
  clear hS
  obtain ⟨O, hO⟩ : ∃ n : Nat, n = w.heap.size + 1 := ⟨_, rfl⟩
  rw [← hO] at HM ⊢
  clear hO
  obtain ⟨M, hM⟩ : ∃ n : Nat, n = w.heap.size := ⟨_, rfl⟩
  rw [← hM] at HM ⊢
  clear hM
  have HM : Mem w w1 [⟨b, [.slice (some ⟨b2, 0, none⟩) 1 c2], some 255⟩, ⟨b2, [.bool true], some 4⟩, ⟨Z, [.slice none 0 0, .int .i64 0, .int .i64 0, .slice none 0 0], some 206⟩, ⟨S, [.int .i64 20000], some 3⟩, ⟨O, [.slice none 0 0, .int .i64 1099511627776, .int .i64 0, .slice none 0 0], some 206⟩, ⟨M, modC bm cm 2, some 105⟩, ⟨bm, [.slice (some ⟨bo, 0, none⟩) 1 co], none⟩, ⟨bo, optC, none⟩] := HM
  have C := HM.facts
  simp only [facts, cellsAre, lts, apart, List.eraseIdx_cons_succ, List.eraseIdx_cons_zero, List.set_cons_zero, List.set_cons_succ, Nat.zero_add, Nat.reduceAdd, and_true] at C
  have F := HM.thaws
  simp only [thaws, List.eraseIdx_cons_succ, List.eraseIdx_cons_zero, List.set_cons_zero, List.set_cons_succ, Option.isSome_some, Option.isSome_none, Bool.false_eq_true, false_implies, forall_const, and_true, true_and] at F
  go_wp2_with fail
  clear C F
  replace HM := (((((HM.set 4 2 forb rfl rfl).alloc (lefC b c) 381).alloc [.bool true] 4).alloc [.int .i64 19999] 3).alloc [nilV] 202).alloc [.func (.func 268) #[] #[.pointer (some ⟨w1.heap.size + 1 + 1 + 1, 0, none⟩), .pointer (some ⟨w1.heap.size, 0, none⟩), .pointer (some ⟨M, 0, none⟩), .pointer (some ⟨O, 0, none⟩), .pointer (some ⟨S, 0, none⟩), .pointer (some ⟨w1.heap.size + 1 + 1, 0, none⟩), .pointer (some ⟨w1.heap.size + 1, 0, none⟩), .pointer (some ⟨w1.heap.size + 1 + 1 + 1 + 1, 0, none⟩)]] 83
  simp only [World.size_alloc, World.size_drew, World.size_setCell] at HM
  obtain ⟨D, hD⟩ : ∃ n : Nat, n = w1.heap.size + 1 + 1 + 1 + 1 := ⟨_, rfl⟩
  rw [← hD] at HM ⊢
  clear hD
  obtain ⟨N, hN⟩ : ∃ n : Nat, n = w1.heap.size + 1 + 1 + 1 := ⟨_, rfl⟩
  rw [← hN] at HM ⊢
  clear hN
  obtain ⟨Rm, hRm⟩ : ∃ n : Nat, n = w1.heap.size + 1 + 1 := ⟨_, rfl⟩
  rw [← hRm] at HM ⊢
  clear hRm
  obtain ⟨Wh, hWh⟩ : ∃ n : Nat, n = w1.heap.size + 1 := ⟨_, rfl⟩
  rw [← hWh] at HM ⊢
  clear hWh
  obtain ⟨Lf, hLf⟩ : ∃ n : Nat, n = w1.heap.size := ⟨_, rfl⟩
  rw [← hLf] at HM ⊢
  clear hLf
  refine (down_one w _ N Lf M O S Rm Wh D Z b c b2 c2 bm cm bo co [nilV, .int .i64 0, .int .i64 0, nilV] ⟨hcm, hco, hc, hc2⟩ (HM.pick [4, 5, 6, 1, 9, 10, 7, 3, 11, 12] (by decide))).mono ?_
  clear HM
  rintro e w5 ⟨n, k, p, q, rfl, ⟨hk, hq⟩, HM⟩
  replace HM : Mem w w5 [⟨p, [.int .i64 0], some 3⟩, ⟨N, lefC n k, some 202⟩, ⟨O, [.slice (some ⟨p, 0, none⟩) 1 q, .int .i64 0, .int .i64 0, nilV], some 206⟩, ⟨Z, [nilV, .int .i64 0, .int .i64 0, nilV], some 206⟩, ⟨Wh, [.bool true], some 4⟩] := HM.pick [0, 4, 5, 7, 8] (by decide)
  have C := HM.facts
  simp only [facts, cellsAre, lts, apart, List.eraseIdx_cons_succ, List.eraseIdx_cons_zero, List.set_cons_zero, List.set_cons_succ, Nat.zero_add, Nat.reduceAdd, and_true] at C
  have F := HM.thaws
  simp only [thaws, List.eraseIdx_cons_succ, List.eraseIdx_cons_zero, List.set_cons_zero, List.set_cons_succ, Option.isSome_some, Option.isSome_none, Bool.false_eq_true, false_implies, forall_const, and_true, true_and] at F
  go_upto_region 9 with fail
  clear C F
  replace HM : Mem w _ [⟨p, [.int .i64 0], some 3⟩, ⟨N, lefC n k, some 202⟩, ⟨O, [.slice (some ⟨p, 0, none⟩) 1 q, .int .i64 0, .int .i64 0, .slice (some ⟨n, 0, none⟩) 1 k], some 206⟩, ⟨Z, [nilV, .int .i64 0, .int .i64 0, nilV], some 206⟩, ⟨Wh, [.bool true], some 4⟩] := HM.set 2 3 (.slice (some ⟨n, 0, none⟩) 1 k) rfl rfl
  obtain ⟨w6, hW, HM⟩ : ∃ W, W = _ ∧ Mem _ W _ := ⟨_, rfl, HM⟩
  rw [← hW]
  clear hW
  have C := HM.facts
  simp only [facts, cellsAre, lts, apart, List.eraseIdx_cons_succ, List.eraseIdx_cons_zero, List.set_cons_zero, List.set_cons_succ, Nat.zero_add, Nat.reduceAdd, and_true] at C
  have F := HM.thaws
  simp only [thaws, List.eraseIdx_cons_succ, List.eraseIdx_cons_zero, List.set_cons_zero, List.set_cons_succ, Option.isSome_some, Option.isSome_none, Bool.false_eq_true, false_implies, forall_const, and_true, true_and] at F
  go_region
  clear C F
  replace HM : Mem w _ [⟨p, [.int .i64 0], some 3⟩, ⟨N, lefC n k, some 202⟩, ⟨O, [.slice (some ⟨p, 0, none⟩) 1 q, .int .i64 0, .int .i64 0, .slice (some ⟨n, 0, none⟩) 1 k], some 206⟩, ⟨Z, [.slice (some ⟨p, 0, none⟩) 1 q, .int .i64 0, .int .i64 0, .slice (some ⟨n, 0, none⟩) 1 k], some 206⟩, ⟨Wh, [.bool true], some 4⟩] := ((((HM.set 3 0 (.slice (some ⟨p, 0, none⟩) 1 q) rfl rfl).set 3 1 (.int .i64 0) rfl rfl).set 3 2 (.int .i64 0) rfl rfl).set 3 3 (.slice (some ⟨n, 0, none⟩) 1 k) rfl rfl).drew
  obtain ⟨w7, hW, HM⟩ : ∃ W, W = _ ∧ Mem _ W _ := ⟨_, rfl, HM⟩
  rw [← hW]
  clear hW
  go_wp2_with fail
  refine bodyPost_ret (v := .tuple #[.agg #[.slice (some ⟨p, 0, none⟩) 1 q, .int .i64 0, .int .i64 0, .slice (some ⟨n, 0, none⟩) 1 k], .bool true]) (results_two Tryz.results195 rfl rfl (HM.loadV 3 rfl 0 4 206 (by kernel_rfl) rfl)) rfl ?_
  exact ⟨p, q, n, k, rfl, hq, HM.lo 0 rfl, HM.at_ 0 rfl, HM.bl⟩
end Go.Proofs.YtcifdllbnbhcdaaGreatDoor
namespace Go.Proofs.YtcifdllbnbhcdaaGreatDoor
open Go.RowKit
abbrev outV (p q n k : Nat) : Value := .agg #[.slice (some ⟨p, 0, none⟩) 1 q, .int .i64 0, .int .i64 0, .slice (some ⟨n, 0, none⟩) 1 k]
def outC (p q n k : Nat) : List Value := [.slice (some ⟨p, 0, none⟩) 1 q, .int .i64 0, .int .i64 0, .slice (some ⟨n, 0, none⟩) 1 k]
def RetLeast (w : World) (e : Ending) (w2 : World) : Prop := ∃ p q n k, e = .returned (.tuple #[outV p q n k, .int .i64 0]) ∧ 1 ≤ q ∧ w.heap.size ≤ p ∧ At w2 p [.int .i64 0] ∧ Below w.heap.size w w2
set_option maxRecDepth 100000 in
set_option maxHeartbeats 4000000 in
theorem least_one (v : Value) (w : World) (h : ModAt 2 w v) : Calls Tryz.prog 106 #[v] w (RetLeast w) := by
  obtain ⟨bm, cm, bo, co, rfl, ⟨hcm, hco⟩, h1, h2⟩ := h
  have HM := ((Mem.mod h1 h2).alloc (modC bm cm 2) 105).alloc [nilV, .int .i64 0, .int .i64 0, nilV] 206
  simp only [World.size_alloc, World.size_drew, World.size_setCell] at HM
  clear h1 h2
  go_enter Tryz.func106, Tryz.ntmps106
  go_wp2_with fail
  refine (mvalid_one _ _ ⟨bm, cm, bo, co, rfl, ⟨hcm, hco⟩, HM.at_ 2 rfl, HM.at_ 3 rfl⟩).mono ?_
  rintro e w1 ⟨rfl, hb⟩
  replace HM := HM.below hb
  clear hb
  obtain ⟨Z, hZ⟩ : ∃ n : Nat, n = w.heap.size + 1 := ⟨_, rfl⟩
  rw [← hZ] at HM ⊢
  clear hZ
  obtain ⟨M, hM⟩ : ∃ n : Nat, n = w.heap.size := ⟨_, rfl⟩
  rw [← hM] at HM ⊢
  clear hM
  have C := HM.facts
  simp only [facts, cellsAre, lts, apart, modC, List.eraseIdx_cons_succ, List.eraseIdx_cons_zero, List.set_cons_zero, List.set_cons_succ, Nat.zero_add, Nat.reduceAdd, and_true] at C
  have F := HM.thaws
  simp only [thaws, List.eraseIdx_cons_succ, List.eraseIdx_cons_zero, List.set_cons_zero, List.set_cons_succ, Option.isSome_some, Option.isSome_none, Bool.false_eq_true, false_implies, forall_const, and_true, true_and] at F
  go_wp2_with fail
  clear C F
  refine (grow_one _ _ ⟨bm, cm, bo, co, rfl, ⟨hcm, hco⟩, HM.at_ 2 rfl, HM.at_ 3 rfl⟩).mono ?_
  rintro e w2 ⟨p, q, n, k, rfl, hq, hlo, hP, hb⟩
  have hlp : w.heap.size ≤ p := Nat.le_trans HM.bl.size hlo
  replace HM := HM.add0 hb hP (At.lt hP) hlo
  clear hb hP hlo
  have C := HM.facts
  simp only [facts, cellsAre, lts, apart, List.eraseIdx_cons_succ, List.eraseIdx_cons_zero, List.set_cons_zero, List.set_cons_succ, Nat.zero_add, Nat.reduceAdd, and_true] at C
  have F := HM.thaws
  simp only [thaws, List.eraseIdx_cons_succ, List.eraseIdx_cons_zero, List.set_cons_zero, List.set_cons_succ, Option.isSome_some, Option.isSome_none, Bool.false_eq_true, false_implies, forall_const, and_true, true_and] at F
  go_wp2_with fail
  clear C F
  replace HM := Mem.alloc ((((HM.set 1 0 (.slice (some ⟨p, 0, none⟩) 1 q) rfl rfl).set 1 1 (.int .i64 0) rfl rfl).set 1 2 (.int .i64 0) rfl rfl).set 1 3 (.slice (some ⟨n, 0, none⟩) 1 k) rfl rfl) (outC p q n k) 206
  replace HM := (HM.pick [1, 2] (by decide) : Mem w _ [⟨p, [.int .i64 0], none⟩, ⟨Z, outC p q n k, some 206⟩])
  obtain ⟨w3, hW, HM⟩ : ∃ W, W = _ ∧ Mem _ W _ := ⟨_, rfl, HM⟩
  simp only [outC] at hW
  rw [← hW]
  clear hW
  refine bodyPost_ret (v := .tuple #[outV p q n k, .int .i64 0]) (results_two Tryz.results106 rfl rfl (HM.loadV 1 rfl 0 4 206 (by kernel_rfl) rfl)) rfl ?_
  exact ⟨p, q, n, k, rfl, hq, hlp, HM.at_ 0 rfl, HM.bl⟩
end Go.Proofs.YtcifdllbnbhcdaaGreatDoor
namespace Go.Proofs.YtcifdllbnbhcdaaGreatDoor
open Go.RowKit
set_option maxRecDepth 100000 in
set_option maxHeartbeats 2000000 in
theorem option_one (bm cm bo co : Nat) (hcm : 1 ≤ cm) (w : World) (h1 : At w bm (lefC bo co)) : Calls Tryz.prog 260 #[modV bm cm 2, .int .i64 0, .int .i64 0] w (RetB (.bool true) w) := by
  have C := h1.all
  simp only [cellsAre, Nat.zero_add, Nat.reduceAdd, and_true] at C
  have U := ups (At.lt h1)
  go_enter Tryz.func260, Tryz.ntmps260
  go_wp2_with fail
  go_ret
  exact ⟨rfl, bpush (b0 _) _⟩
set_option maxRecDepth 100000 in
set_option maxHeartbeats 2000000 in
theorem planned_one (bm cm bo co p q : Nat) (hcm : 1 ≤ cm) (hq : 1 ≤ q) (w : World) (h1 : At w bm (lefC bo co)) (hP : At w p [.int .i64 0]) : Calls Tryz.prog 271 #[modV bm cm 2, .slice (some ⟨p, 0, none⟩) 1 q] w (RetB (.bool true) w) := by
  have HM := (((Mem.start w).push (.of0 h1 (At.lt h1)) (by simp)).push (.of0 hP (At.lt hP)) (by simpa using At.ne hP h1 (by simp))).alloc (modC bm cm 2) 105
  have C := hP.all
  simp only [cellsAre, Nat.zero_add, Nat.reduceAdd, and_true] at C
  have U := ups (At.lt hP)
  go_enter Tryz.func271, Tryz.ntmps271
  go_wp2_with fail
  refine wp_loop_rounds 2 ?_
  rw [rounds_succ]
  go_wp2_with fail
  refine (option_one bm cm bo co hcm _ (HM.at_ 2 rfl)).mono ?_
  rintro e w1 ⟨rfl, hb⟩
  replace HM := HM.below hb
  clear hb C U
  have C := HM.facts
  simp only [facts, cellsAre, lts, apart, modC, List.eraseIdx_cons_succ, List.eraseIdx_cons_zero, List.set_cons_zero, List.set_cons_succ, Nat.zero_add, Nat.reduceAdd, and_true] at C
  have F := HM.thaws
  simp only [thaws, List.eraseIdx_cons_succ, List.eraseIdx_cons_zero, List.set_cons_zero, List.set_cons_succ, Option.isSome_some, Option.isSome_none, Bool.false_eq_true, false_implies, forall_const, and_true, true_and] at F
  go_wp2_with fail
  rw [rounds_succ]
  go_wp2_with fail
  go_ret
  exact ⟨rfl, HM.bl⟩
set_option maxRecDepth 100000 in
set_option maxHeartbeats 2000000 in
theorem idxNeg_one (p q : Nat) (hq : 1 ≤ q) (w : World) (hP : At w p [.int .i64 0]) : Calls Tryz.prog 52 #[.slice (some ⟨p, 0, none⟩) 1 q, .int .i64 (-1)] w (RetS (.int .i64 (-1)) w) := by
  have C := hP.all
  simp only [cellsAre, Nat.zero_add, Nat.reduceAdd, and_true] at C
  go_enter Tryz.func52, Tryz.ntmps52
  go_wp2_with fail
  refine wp_loop_rounds 2 ?_
  rw [rounds_succ]
  go_wp2_with fail
  rw [rounds_succ]
  go_wp2_with fail
  go_ret
  exact ⟨rfl, rfl⟩
theorem hasNeg_one (p q : Nat) (hq : 1 ≤ q) (w : World) (hP : At w p [.int .i64 0]) : Calls Tryz.prog 30 #[.slice (some ⟨p, 0, none⟩) 1 q, .int .i64 (-1)] w (RetS (.bool false) w) := by
  go_enter Tryz.func30, Tryz.ntmps30
  go_wp2_with (go_at_call 52; refine (idxNeg_one p q hq _ hP).mono ?_; rintro e w' ⟨rfl, rfl⟩)
  go_ret
  exact ⟨rfl, rfl⟩
set_option maxRecDepth 100000 in
set_option maxHeartbeats 4000000 in
theorem complete_one (bm cm bo co p q : Nat) (hcs : 1 ≤ cm ∧ 1 ≤ co) (hq : 1 ≤ q) (w : World) (h1 : At w bm (lefC bo co)) (h2 : At w bo optC) (hP : At w p [.int .i64 0]) : Calls Tryz.prog 196 #[modV bm cm 2, .slice (some ⟨p, 0, none⟩) 1 q] w (RetB (.int .i64 0) w) := by
  have HM := ((Mem.mod h1 h2).push (.of0 hP (At.lt hP)) (fun c hc => by
    simp only [List.mem_cons, List.not_mem_nil, or_false] at hc
    rcases hc with rfl | rfl
    · exact At.ne hP h1 (by simp)
    · exact At.ne hP h2 (by simp))).alloc (modC bm cm 2) 105
  go_enter Tryz.func196, Tryz.ntmps196
  go_wp2_with fail
  refine (mvalid_one _ _ ⟨bm, cm, bo, co, rfl, hcs, HM.at_ 2 rfl, HM.at_ 3 rfl⟩).mono ?_
  rintro e w1 ⟨rfl, hb⟩
  replace HM := HM.below hb
  clear hb
  have C := HM.facts
  simp only [facts, cellsAre, lts, apart, modC, List.eraseIdx_cons_succ, List.eraseIdx_cons_zero, List.set_cons_zero, List.set_cons_succ, Nat.zero_add, Nat.reduceAdd, and_true] at C
  have F := HM.thaws
  simp only [thaws, List.eraseIdx_cons_succ, List.eraseIdx_cons_zero, List.set_cons_zero, List.set_cons_succ, Option.isSome_some, Option.isSome_none, Bool.false_eq_true, false_implies, forall_const, and_true, true_and] at F
  go_wp2_with fail
  clear C F
  refine (planned_one bm cm bo co p q hcs.1 hq _ (HM.at_ 2 rfl) (HM.at_ 1 rfl)).mono ?_
  rintro e w2 ⟨rfl, hb⟩
  replace HM := HM.below hb
  clear hb
  go_wp2_with (go_at_call 30; refine (hasNeg_one p q hq _ (HM.at_ 1 rfl)).mono ?_; rintro e w' ⟨rfl, rfl⟩)
  go_ret
  exact ⟨rfl, HM.bl⟩
def RetRE1 (vs : List Value) (T : TypeId) (w : World) (e : Ending) (w2 : World) : Prop := ∃ b c, e = .returned (.tuple #[.slice (some ⟨b, 0, none⟩) 1 c, .int .i64 0]) ∧ 1 ≤ c ∧ w.heap.size ≤ b ∧ Rw w2 b vs T ∧ Below w.heap.size w w2
set_option maxRecDepth 100000 in
set_option maxHeartbeats 4000000 in
theorem place_one (bm cm bo co p q : Nat) (hcs : 1 ≤ cm ∧ 1 ≤ co) (hq : 1 ≤ q) (w : World) (h1 : At w bm (lefC bo co)) (h2 : At w bo optC) (hP : At w p [.int .i64 0]) : Calls Tryz.prog 107 #[modV bm cm 2, .slice (some ⟨p, 0, none⟩) 1 q] w (RetRE1 placeC 266 w) := by
  obtain ⟨hcm, hco⟩ := id hcs
  have HM := ((Mem.mod h1 h2).push (.of0 hP (At.lt hP)) (fun c hc => by
    simp only [List.mem_cons, List.not_mem_nil, or_false] at hc
    rcases hc with rfl | rfl
    · exact At.ne hP h1 (by simp)
    · exact At.ne hP h2 (by simp))).alloc (modC bm cm 2) 105
  go_enter Tryz.func107, Tryz.ntmps107
  go_wp2_with fail
  refine (complete_one bm cm bo co p q hcs hq _ (HM.at_ 2 rfl) (HM.at_ 3 rfl) (HM.at_ 1 rfl)).mono ?_
  rintro e w1 ⟨rfl, hb⟩
  replace HM := HM.below hb
  clear hb
  obtain ⟨M, hM⟩ : ∃ n : Nat, n = w.heap.size := ⟨_, rfl⟩
  rw [← hM] at HM ⊢
  clear hM
  have C := HM.facts
  simp only [facts, cellsAre, lts, apart, modC, optC, List.eraseIdx_cons_succ, List.eraseIdx_cons_zero, List.set_cons_zero, List.set_cons_succ, Nat.zero_add, Nat.reduceAdd, and_true] at C
  have F := HM.thaws
  simp only [thaws, List.eraseIdx_cons_succ, List.eraseIdx_cons_zero, List.set_cons_zero, List.set_cons_succ, Option.isSome_some, Option.isSome_none, Bool.false_eq_true, false_implies, forall_const, and_true, true_and] at F
  go_wp2_with fail
  refine wp_loop_rounds 2 ?_
  rw [rounds_succ]
  go_wp2_with fail
  rw [rounds_succ]
  go_wp2_with fail
  clear C F
  have hc := cap_ge 1 0 266 (w1.tape w1.drawn (Question.appendCap 1 0 266))
  generalize (Question.appendCap 1 0 266).cut (w1.tape w1.drawn (Question.appendCap 1 0 266)) = c at *
  go_ret2
  have HN := ((HM.alloc placeC 266).allocx placeC (Builtin.zeroCells #[.int .i64 0, .int .i64 0, .int .i64 0, .int .i64 0, .int .i64 0] (c - 1)) 266).drew
  simp only [World.size_alloc] at HN
  exact ⟨_, c, rfl, hc, HN.lo 0 rfl, HN.rw_ 0 rfl, HN.bl⟩
end Go.Proofs.YtcifdllbnbhcdaaGreatDoor
namespace Go.Proofs.YtcifdllbnbhcdaaGreatDoor
open Go.RowKit
abbrev lg0 : Lg := ([], 0, [], [])
abbrev logZ : Value := logV (none, 0, 0) 0 (none, 0, 0) (none, 0, 0)
theorem logP0 (w : World) : LogP w logZ lg0 := ⟨(none, 0, 0), (none, 0, 0), (none, 0, 0), rfl, BV.nil _, fun _ => rfl, VV.nil _, SV.nil _⟩
theorem vld0 (w : World) (hE : Env w) : Calls Tryz.prog 104 #[.agg #[.slice none 0 0, .int .i64 0, .slice none 0 0, .slice none 0 0], .int .i64 1] w (RetB (.bool true) w) := by
  have h := vldP logZ lg0 1 w (logP0 w) hE
  rw [show vldL 1 lg0 = true by kernel_rfl] at h
  exact h
set_option maxRecDepth 100000 in
set_option maxHeartbeats 8000000 in
theorem ovalid_one (v : Value) (w : World) (h : OffAt w v) (hE : Env w) : Calls Tryz.prog 70 #[v] w (RetB (.bool true) w) := by
  obtain ⟨br, cr, bc, cc, bp, cp, rfl, hcap, h1, h2, h3⟩ := h
  have HM := (Mem.reg h1 h2 h3).alloc (offC br cr bc cc) 70
  clear h1 h2 h3
  replace hE := Lib.hid hE
  go_enter Tryz.func70, Tryz.ntmps70
  go_wp2_with fail
  refine (prob_one _ _ ⟨br, cr, bc, cc, bp, cp, rfl, hcap, HM.at_ 1 rfl, HM.at_ 2 rfl, HM.at_ 3 rfl⟩).mono ?_
  rintro e w1 ⟨v1, rfl, ⟨bm, cm, bo, co, rfl, _⟩, hb⟩
  replace HM := HM.below hb
  clear hb
  obtain ⟨R, hR⟩ : ∃ n : Nat, n = w.heap.size := ⟨_, rfl⟩
  rw [← hR] at HM ⊢
  clear hR
  have C := HM.facts
  simp only [facts, cellsAre, lts, apart, offC, List.eraseIdx_cons_succ, List.eraseIdx_cons_zero, List.set_cons_zero, List.set_cons_succ, Nat.zero_add, Nat.reduceAdd, and_true] at C
  have F := HM.thaws
  simp only [thaws, List.eraseIdx_cons_succ, List.eraseIdx_cons_zero, List.set_cons_zero, List.set_cons_succ, Option.isSome_some, Option.isSome_none, Bool.false_eq_true, false_implies, forall_const, and_true, true_and] at F
  go_wp2_with fail
  clear C F
  replace HM := HM.alloc [.slice (some ⟨bm, 0, none⟩) 1 cm, .slice none 0 0, .slice none 0 0, .int .i64 2] 105
  refine (vld0 _ (hE.out.below HM.bl)).mono ?_
  rintro e w2 ⟨rfl, hb⟩
  replace HM := (HM.below hb).erase 0
  clear hb
  have C := HM.facts
  simp only [facts, cellsAre, lts, apart, offC, List.eraseIdx_cons_succ, List.eraseIdx_cons_zero, List.set_cons_zero, List.set_cons_succ, Nat.zero_add, Nat.reduceAdd, and_true] at C
  have F := HM.thaws
  simp only [thaws, List.eraseIdx_cons_succ, List.eraseIdx_cons_zero, List.set_cons_zero, List.set_cons_succ, Option.isSome_some, Option.isSome_none, Bool.false_eq_true, false_implies, forall_const, and_true, true_and] at F
  go_wp2_with fail
  clear C F
  refine (appl_one _ _ ⟨br, cr, bc, cc, bp, cp, rfl, hcap, HM.at_ 1 rfl, HM.at_ 2 rfl, HM.at_ 3 rfl⟩).mono ?_
  rintro e w3 ⟨v3, rfl, ⟨b2, c2, d2, e2, f2, g2, rfl, _⟩, hb⟩
  replace HM := HM.below hb
  clear hb
  have C := HM.facts
  simp only [facts, cellsAre, lts, apart, offC, List.eraseIdx_cons_succ, List.eraseIdx_cons_zero, List.set_cons_zero, List.set_cons_succ, Nat.zero_add, Nat.reduceAdd, and_true] at C
  have F := HM.thaws
  simp only [thaws, List.eraseIdx_cons_succ, List.eraseIdx_cons_zero, List.set_cons_zero, List.set_cons_succ, Option.isSome_some, Option.isSome_none, Bool.false_eq_true, false_implies, forall_const, and_true, true_and] at F
  go_wp2_with fail
  clear C F
  go_ret
  exact ⟨rfl, bpush HM.bl _⟩
end Go.Proofs.YtcifdllbnbhcdaaGreatDoor
namespace Go.Proofs.YtcifdllbnbhcdaaGreatDoor
open Go.RowKit
theorem cap_le (n s t k : Nat) (hn : n ≤ 9223372036854775807) : (Question.appendCap n s t).cut k ≤ maxLen := by
  simp only [Question.cut, maxLen]
  have := Nat.mod_lt k (show 0 < 2 ^ 63 - n by omega)
  omega
theorem one_row (w : World) (vs : List Value) (z : Array Value) (T : TypeId) (c B : Nat) {n : Nat} (hn : w.heap.size = n) (hz : z.size = vs.length) (h1 : 1 ≤ c) (h2 : c ≤ maxLen) (hB : B ≤ w.heap.size) :
    (w.alloc (.cells (vs.toArray ++ Builtin.zeroCells z (c - 1)) T)).ownsRow B T vs.length (.slice (some ⟨n, 0, none⟩) 1 c) 1 vs := by
  subst hn
  refine ⟨by rw [Nat.one_mul], Or.inr ⟨_, c, _, rfl, hB, heap_alloc_new _ _, h1, h2, ?_, ?_⟩⟩
  · rw [Array.size_append, size_zeroCells, List.size_toArray, hz, Nat.sub_mul, Nat.one_mul]
    have := Nat.le_mul_of_pos_left vs.length h1
    omega
  · rw [Nat.one_mul, Array.toList_append, List.take_append_of_le_length (by simp)]
    simp
def sX : Ses := ([99, 49], 1, 0, 0, 1, [82])
abbrev tX : Value := .agg #[.int .i64 1, .int .i64 0, .int .i64 0, .int .i64 1]
set_option maxRecDepth 100000 in
set_option maxHeartbeats 2000000 in
theorem fits_ok (w : World) : Calls Tryz.prog 23 #[gridV, .int .i64 1, tX] w (RetB (.int .i64 0) w) := by
  have hws := fun W => ws_any 1 1 W
  rw [show wsB 1 1 = true from by decide] at hws
  go_enter Tryz.func23, Tryz.ntmps23
  go_wp2_with fail
  refine (week_one _).mono ?_
  rintro e w1 ⟨rfl, hb⟩
  have HM := (((Mem.start w).alloc [.int .i64 1, .int .i64 1, .int .i64 480, .int .i64 45] 28).alloc [.int .i64 1, .int .i64 0, .int .i64 0, .int .i64 1] 34).below hb
  simp only [World.size_alloc, World.size_drew, World.size_setCell] at HM
  clear hb
  have C := HM.facts
  simp only [facts, cellsAre, lts, apart, List.eraseIdx_cons_succ, List.eraseIdx_cons_zero, List.set_cons_zero, List.set_cons_succ, Nat.zero_add, Nat.reduceAdd, and_true] at C
  have F := HM.thaws
  simp only [thaws, List.eraseIdx_cons_succ, List.eraseIdx_cons_zero, List.set_cons_zero, List.set_cons_succ, Option.isSome_some, Option.isSome_none, Bool.false_eq_true, false_implies, forall_const, and_true, true_and] at F
  go_wp2_with fail
  clear C F
  have hso := sound_any 1 0 0 1 (by decide) (by decide) w1
  rw [show sndB 1 0 0 1 = true from by decide] at hso
  refine hso.mono ?_
  rintro e w2 ⟨rfl, hb⟩
  replace HM := HM.below hb
  clear hb hso
  have C := HM.facts
  simp only [facts, cellsAre, lts, apart, List.eraseIdx_cons_succ, List.eraseIdx_cons_zero, List.set_cons_zero, List.set_cons_succ, Nat.zero_add, Nat.reduceAdd, and_true] at C
  have F := HM.thaws
  simp only [thaws, List.eraseIdx_cons_succ, List.eraseIdx_cons_zero, List.set_cons_zero, List.set_cons_succ, Option.isSome_some, Option.isSome_none, Bool.false_eq_true, false_implies, forall_const, and_true, true_and] at F
  go_wp2_with (go_at_call 45; refine (hws _).mono ?_; rintro e w' ⟨rfl, rfl⟩)
  go_ret
  exact ⟨rfl, HM.bl⟩
def RetSes (w : World) (e : Ending) (w2 : World) : Prop := ∃ b c, e = .returned (.tuple #[.slice (some ⟨b, 0, none⟩) 1 c, .int .i64 0]) ∧ 1 ≤ c ∧ SAt w2 (some ⟨b, 0, none⟩) 1 [sX] ∧ Below w.heap.size w w2
set_option maxRecDepth 100000 in
set_option maxHeartbeats 8000000 in
theorem of_one (v : Value) (pl pc : Nat) (hpc : 1 ≤ pc) (w : World) (h : RegAt w v) (hP : At w pl placeC) (hT : Tz w) : Calls Tryz.prog 108 #[v, .slice (some ⟨pl, 0, none⟩) 1 pc] w (RetSes w) := by
  obtain ⟨br, cr, bc, cc, bp, cp, rfl, hcap, h1, h2, h3⟩ := h
  have HM := Mem.alloc ((((Mem.start w).push (.of0 h2 (At.lt h2)) (by simp)).push (.of0 h1 (At.lt h1)) (by simpa using At.ne h1 h2 (by simp))).push (.of0 hP (At.lt (v := .int .i64 1) hP)) (fun c hc => by
    simp only [List.mem_cons, List.not_mem_nil, or_false] at hc
    rcases hc with rfl | rfl
    · exact At.ne hP h1 (by simp)
    · exact At.ne hP h2 (by simp))) (regC br cr bc cc) 58
  have h3 := h3.push (.cells (regC br cr bc cc).toArray 58)
  clear h1 h2 hP
  have HT := Lib.hid hT
  clear hT
  go_enter Tryz.func108, Tryz.ntmps108
  go_wp2_with fail
  refine (reg_ok _ _ ⟨br, cr, bc, cc, bp, cp, rfl, hcap, HM.at_ 2 rfl, HM.at_ 3 rfl, h3⟩).mono ?_
  rintro e w1 ⟨rfl, hb⟩
  replace HM := HM.below hb
  clear hb h3
  obtain ⟨R, hR⟩ : ∃ n : Nat, n = w.heap.size := ⟨_, rfl⟩
  rw [← hR] at HM ⊢
  clear hR
  have C := HM.facts
  simp only [facts, cellsAre, lts, apart, regC, placeC, roomC, claC, List.eraseIdx_cons_succ, List.eraseIdx_cons_zero, List.set_cons_zero, List.set_cons_succ, Nat.zero_add, Nat.reduceAdd, and_true] at C
  have F := HM.thaws
  simp only [thaws, List.eraseIdx_cons_succ, List.eraseIdx_cons_zero, List.set_cons_zero, List.set_cons_succ, Option.isSome_some, Option.isSome_none, Bool.false_eq_true, false_implies, forall_const, and_true, true_and] at F
  go_wp2_with fail
  refine wp_loop_rounds 2 ?_
  rw [rounds_succ]
  go_wp2_with fail
  clear C F
  replace HM := HM.alloc placeC 266
  refine (fits_ok _).mono ?_
  rintro e w2 ⟨rfl, hb⟩
  replace HM := HM.below hb
  clear hb
  obtain ⟨P, hP⟩ : ∃ n : Nat, n = w1.heap.size := ⟨_, rfl⟩
  rw [← hP] at HM ⊢
  clear hP
  have C := HM.facts
  simp only [facts, cellsAre, lts, apart, regC, placeC, roomC, claC, List.eraseIdx_cons_succ, List.eraseIdx_cons_zero, List.set_cons_zero, List.set_cons_succ, Nat.zero_add, Nat.reduceAdd, and_true] at C
  have F := HM.thaws
  simp only [thaws, List.eraseIdx_cons_succ, List.eraseIdx_cons_zero, List.set_cons_zero, List.set_cons_succ, Option.isSome_some, Option.isSome_none, Bool.false_eq_true, false_implies, forall_const, and_true, true_and] at F
  go_upto_region 11 with fail
  go_region
  clear C F
  replace HM := (HM.alloc [.string ⟨#[99, 49]⟩, .int .i64 1, .int .i64 0, .int .i64 0, .int .i64 1, .string ⟨#[]⟩] 43).drew
  obtain ⟨w3, hW, HM⟩ : ∃ W, W = _ ∧ Mem _ W _ := ⟨_, rfl, HM⟩
  rw [← hW]
  clear hW
  obtain ⟨Q, hQ⟩ : ∃ n : Nat, n = w2.heap.size := ⟨_, rfl⟩
  rw [← hQ] at HM ⊢
  clear hQ
  have C := HM.facts
  simp only [facts, cellsAre, lts, apart, regC, placeC, roomC, claC, List.eraseIdx_cons_succ, List.eraseIdx_cons_zero, List.set_cons_zero, List.set_cons_succ, Nat.zero_add, Nat.reduceAdd, and_true] at C
  have F := HM.thaws
  simp only [thaws, List.eraseIdx_cons_succ, List.eraseIdx_cons_zero, List.set_cons_zero, List.set_cons_succ, Option.isSome_some, Option.isSome_none, Bool.false_eq_true, false_implies, forall_const, and_true, true_and] at F
  go_wp2_with fail
  rw [rounds_succ]
  go_wp2_with fail
  clear C F
  have hcl := cap_le 1 0 43 (w3.tape w3.drawn (Question.appendCap 1 0 43)) (by omega)
  have hc := cap_ge 1 0 43 (w3.tape w3.drawn (Question.appendCap 1 0 43))
  generalize (Question.appendCap 1 0 43).cut (w3.tape w3.drawn (Question.appendCap 1 0 43)) = c at *
  have H1 := (HM.set 0 5 (.string ⟨#[82]⟩) rfl rfl).alloc (sesC sX) 43
  have hs : ((w3.setCell ⟨Q, 5, none⟩ (.string ⟨#[82]⟩)).alloc (.cells (sesC sX).toArray 43)).heap.size = w3.heap.size + 1 := by simp
  have HR := one_row _ (sesC sX) #[.string ⟨#[]⟩, .int .i64 0, .int .i64 0, .int .i64 0, .int .i64 0, .string ⟨#[]⟩] 43 c w.heap.size hs rfl hc hcl H1.bl.size
  have HN := (H1.allocx (sesC sX) (Builtin.zeroCells #[.string ⟨#[]⟩, .int .i64 0, .int .i64 0, .int .i64 0, .int .i64 0, .string ⟨#[]⟩] (c - 1)) 43).drew
  refine (sorted_any w _ HN.bl HT.out _ [sX] HR (by simp)).mono ?_
  clear HM H1 HR HN
  rintro e w5 ⟨rfl, ys, hp, _, hr, hb⟩
  obtain rfl := List.perm_singleton.1 hp
  obtain ⟨ya, yc, hv, hyc, hys⟩ := SRow.sat hr
  have hv : Value.slice (some ⟨w3.heap.size + 1, 0, none⟩) 1 c = .slice ya 1 yc := hv
  simp only [Value.slice.injEq] at hv
  obtain ⟨rfl, _, rfl⟩ := hv
  go_wp2_with fail
  go_ret2
  exact ⟨_, c, rfl, hc, hys, hb⟩
end Go.Proofs.YtcifdllbnbhcdaaGreatDoor
