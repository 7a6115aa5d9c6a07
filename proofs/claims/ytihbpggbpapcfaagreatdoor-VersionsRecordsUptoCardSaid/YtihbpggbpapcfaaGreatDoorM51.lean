/- Texts V115, joined: walks and laws for the versions. -/
import Derived.Test.YtihbpggbpapcfaaGreatDoorM50
namespace Go.Proofs.YtihbpggbpapcfaaGreatDoor
open Go.RowKit

theorem ci48 (args : Array Value) (w : World) : (callFunc 48 args).run Tryz.prog w = .ok (.enter 48 args) w := by
  kernel_rfl
theorem heap3 {w : World} {R : Nat} {v0 v1 v2 : Value} {T : TypeId} (h : w.heap[R]? = some (.cells #[v0, v1, v2] T (0, 0))) (u0 u1 u2 : Value) : (((w.setCell ⟨R, 0, none⟩ u0).setCell ⟨R, 1, none⟩ u1).setCell ⟨R, 2, none⟩ u2).heap[R]? = some (.cells #[u0, u1, u2] T (0, 0)) := by
  have h0 := heap_setCell_same w R 0 _ _ u0 h
  have h1 := heap_setCell_same _ R 1 _ _ u1 h0
  exact heap_setCell_same _ R 2 _ _ u2 h1
theorem row_othH {w : World} {B0 : Nat} {e : TypeId} {k n : Nat} {v : Value} {xs : List Value} (h : w.ownsRow B0 e k v n xs) {B : Nat} {vs : Array Value} {T : TypeId} {fz : Nat × Nat} (hx : w.heap[B]? = some (.cells vs T fz)) (hT : T ≠ e) (i : Nat) (u : Value) : (w.setCell ⟨B, i, none⟩ u).ownsRow B0 e k v n xs := by
  obtain ⟨h1, h2⟩ := id h
  refine ⟨h1, ?_⟩
  rcases h2 with h2 | ⟨g, cap, cur, h3, h4, h5, h6⟩
  · exact Or.inl h2
  · have hne : g ≠ B := by
      rintro rfl
      rw [h5] at hx
      simp only [Option.some.injEq, Obj.cells.injEq] at hx
      exact hT hx.2.1.symm
    exact Or.inr ⟨g, cap, cur, h3, h4, (heap_setCell_other _ _ _ _ hne).trans h5, h6⟩
theorem HOwn.but {p B : Nat} {w w' : World} {rs : List RChg} {cs : List Chg} (h : HOwn w B rs cs) (hb : But p w w') (hp : p < B) : HOwn w' B rs cs := h.imp fun _ _ hr => ⟨hr.1, row_but hr.2.1 hb hp, row_but hr.2.2 hb hp⟩
theorem HRow.but {p B : Nat} {w w' : World} {v : Value} {cs : List Chg} (h : HRow w B v cs) (hb : But p w w') (hp : p < B) : HRow w' B v cs := by
  obtain ⟨rs, h1, h2⟩ := h
  exact ⟨rs, row_but h1 hb hp, h2.but hb hp⟩
theorem HRow.open0 {w : World} {B : Nat} {v : Value} {c0 : Chg} {cs : List Chg} (h : HRow w B v (c0 :: cs)) : ∃ (g cap : Nat) (x y : Sl) (rs : List RChg) (cur : Array Value), v = .slice (some ⟨g, 0, none⟩) (cs.length + 1) cap ∧ B ≤ g ∧ w.heap[g]? = some (.cells cur 101 (0, 0)) ∧ KRow rchC 3 101 w B v ((c0.1, x, y) :: rs) ∧ HOwn w B ((c0.1, x, y) :: rs) (c0 :: cs) ∧ rs.length = cs.length ∧
    w.cell? ⟨g, 0, none⟩ = some (.string (arr c0.1)) ∧ w.cell? ⟨g, 1, none⟩ = some (.slice x.1 x.2.1 x.2.2) ∧ w.cell? ⟨g, 2, none⟩ = some (.slice y.1 y.2.1 y.2.2) ∧ w.frozen? ⟨g, 2, none⟩ = false ∧ SRow w B (slV x) c0.2.1 ∧ SRow w B (slV y) c0.2.2 := by
  obtain ⟨rs0, h1, h2⟩ := h
  have hl := h2.1
  cases rs0 with
  | nil => simp at hl
  | cons r rs =>
    obtain ⟨e1, e2, e3⟩ := h2.2 0 r c0 rfl rfl
    obtain ⟨rc, x, y⟩ := r
    simp only at e1 e2 e3
    subst e1
    have hrl : rs.length = cs.length := by simpa using hl
    have hc : ∀ i, i < 3 → ∀ g, v = .slice (some ⟨g, 0, none⟩) (rs.length + 1) (match v with | .slice _ _ c => c | _ => 0) → True := fun _ _ _ _ => trivial
    obtain ⟨hlen, ⟨_, h0⟩ | ⟨g, cap, cur, rfl, hg, hh, hc', hm, hs, ht⟩⟩ := id h1
    · simp at h0
    · have key : ∀ i, i < 3 → w.cell? ⟨g, i, none⟩ = (rchC (c0.1, x, y))[i]? := fun i hi => by
        rw [World.ownsRow.cellAt h1 i (by rw [List.length_cons]; omega)]
        have := flat_at rchC 3 encChg.len ((c0.1, x, y) :: rs) 0 i _ rfl hi
        rw [Nat.zero_mul, Nat.zero_add] at this
        exact this
      exact ⟨g, cap, x, y, rs, cur, by rw [← hrl]; rfl, hg, hh, h1, h2, hrl, key 0 (by omega), key 1 (by omega), key 2 (by omega), World.ownsRow.frozenAt h1 _, e2, e3⟩
theorem HRow.put0 {w : World} {B g n cap : Nat} {c0 : Chg} {cs : List Chg} {x y z : Sl} {rs : List RChg} {cur : Array Value} {zs : List Ses} (hn : n = cs.length + 1) (hh : w.heap[g]? = some (.cells cur 101 (0, 0))) (h1 : KRow rchC 3 101 w B (.slice (some ⟨g, 0, none⟩) n cap) ((c0.1, x, y) :: rs)) (h2 : HOwn w B ((c0.1, x, y) :: rs) (c0 :: cs)) (hz : SRow w B (slV z) zs) :
    HRow (w.setCell ⟨g, 2, none⟩ (slV z)) B (.slice (some ⟨g, 0, none⟩) n cap) ((c0.1, c0.2.1, zs) :: cs) := by
  have hrl : rs.length = cs.length := by have := h2.1; simpa using this
  have hn2 : n = ((c0.1, x, y) :: rs).length := by rw [List.length_cons]; omega
  subst hn2
  have hs := (World.ownsRow.stored h1 2 (slV z)).1
  have hf := flat_set rchC 3 encChg.len 2 (slV z) (by omega) ((c0.1, x, y) :: rs) 0 (c0.1, x, y) (c0.1, x, z) rfl rfl
  rw [Nat.zero_mul, Nat.zero_add] at hf
  rw [hf] at hs
  refine ⟨(c0.1, x, z) :: rs, hs, by have := h2.1; simpa using this, fun j r c hr hc => ?_⟩
  cases j with
  | zero =>
    simp only [List.getElem?_cons_zero, Option.some.injEq] at hr hc
    subst hr hc
    exact ⟨rfl, row_othH (h2.2 0 _ _ rfl rfl).2.1 hh (by decide) 2 _, row_othH hz hh (by decide) 2 _⟩
  | succ j =>
    have := h2.2 (j + 1) r c hr hc
    exact ⟨this.1, row_othH this.2.1 hh (by decide) 2 _, row_othH this.2.2 hh (by decide) 2 _⟩
theorem dif_nine (n : Int) (a b : List Ses) (la : a.length ≤ 9) (lb : b.length ≤ 9) : cntC (difS n a b).2 ≤ 342 := by
  by_cases ha : vldS a n = 0
  · by_cases hb : vldS b n = 0
    · have e : (difS n a b).2 = (clsL (clsS a ++ clsS b)).flatMap (difK a b) := by
        unfold difS; rw [if_neg (by simp [ha]), if_neg (by simp [hb])]
      have l1 : (clsS a ++ clsS b).length ≤ 18 := by unfold clsS; rw [List.length_append, List.length_map, List.length_map]; omega
      have l2 := clsL_len (clsS a ++ clsS b) []
      have l3 : ((clsL (clsS a ++ clsS b)).flatMap (difK a b)).length ≤ 18 := by
        refine Nat.le_trans (flat_len_le _ (difK_le a b) _) ?_
        unfold clsL; simp only [List.length_nil, Nat.zero_add] at l2; omega
      rw [e]
      refine Nat.le_trans (cntC_le 9 _ (fun c hc => ?_)) ?_
      · obtain ⟨_, h2, _⟩ := dif_mem hc
        rw [h2]
        exact ⟨Nat.le_trans (ofS_len _ _) la, Nat.le_trans (ofS_len _ _) lb⟩
      · refine Nat.le_trans (Nat.mul_le_mul_right _ l3) (by decide)
    · have e : (difS n a b).2 = [] := by unfold difS; rw [if_neg (by simp [ha]), if_pos hb]
      rw [e]; simp [cntC]
  · have e : (difS n a b).2 = [] := by unfold difS; rw [if_pos ha]
    rw [e]; simp [cntC]
theorem dif_small (n : Int) (a b : List Ses) : cntC (difS n a b).2 ≤ 40000 ∧ ∀ c ∈ (difS n a b).2, c.1.length ≤ 9223372036854775807 ∧ SOk c.2.1 ∧ SOk c.2.2 := by
  by_cases ha : vldS a n = 0
  · by_cases hb : vldS b n = 0
    · exact dif_facts ha hb
    · have e : (difS n a b).2 = [] := by unfold difS; rw [if_neg (by simp [ha]), if_pos hb]
      rw [e]; exact ⟨by simp [cntC], fun c hc => by cases hc⟩
  · have e : (difS n a b).2 = [] := by unfold difS; rw [if_pos ha]
    rw [e]; exact ⟨by simp [cntC], fun c hc => by cases hc⟩
def MvR (p : Nat) (w : World) (e : Ending) (w' : World) : Prop := ∃ (num wk : Int) (s : Sl) (cs : List Chg), e = .returned (verV num wk s) ∧ HRow w' w.heap.size (slV s) cs ∧ VOk (num, wk, cs) ∧ cntC cs ≤ 1000 ∧ DiceAt w' p ∧ But p w w'

def eV (B M g n cap : Nat) (c0 : Chg) (x y : Sl) (cs : List Chg) (num wk : Int) (L : Array Bool) (j : Nat) (v : Value) (W : World) : Prop := match j with
  | 0 | 2 | 8 => v = .pointer (some ⟨B, 2, none⟩)
  | 1 | 3 => v = .slice (some ⟨g, 0, none⟩) n cap
  | 4 => v = .pointer (some ⟨g, 0, none⟩) ∧ L[3]? = some true
  | 5 => v = .agg #[.string (arr c0.1), .slice x.1 x.2.1 x.2.2, .slice y.1 y.2.1 y.2.2] ∧ L[3]? = some true
  | 6 => (L[5]? = some true ∧ L[3]? = some true) ∧ ∃ G, v = .slice (some ⟨G, 0, none⟩) 1 1 ∧ (¬ L[7]? = some true → KAt rchC 3 W (some ⟨G, 0, none⟩) 1 [(c0.1, x, y)])
  | 7 => (L[1]? = some true ∧ L[3]? = some true ∧ L[5]? = some true) ∧ HRow W M v (c0 :: cs ++ [c0])
  | 9 => (L[7]? = some true ∧ L[1]? = some true ∧ L[3]? = some true) ∧ ∃ a9 n9 c9, HRow W M (.slice a9 n9 c9) (c0 :: cs ++ [c0]) ∧ W.heap[B]? = some (.cells #[.int .i64 num, .int .i64 wk, .slice a9 n9 c9] 24 (0, 0))
  | _ => True
section
variable {B M g n cap : Nat} {c0 : Chg} {x y : Sl} {cs : List Chg} {num wk : Int} {L : Array Bool} {i j : Nat} {v : Value} {W W' : World}
theorem eV_keep (hb : Below W.heap.size W W') (h : eV B M g n cap c0 x y cs num wk L j v W) : eV B M g n cap c0 x y cs num wk (L.setIfInBounds i true) j v W' := by
  unfold eV at h ⊢
  split <;> simp only at h ⊢ <;> try exact h
  · exact ⟨h.1, listed_more h.2⟩
  · exact ⟨h.1, listed_more h.2⟩
  · obtain ⟨h0, G, h1, h2⟩ := h
    exact ⟨⟨listed_more h0.1, listed_more h0.2⟩, G, h1, fun hn => (h2 (not_more hn)).below hb⟩
  · exact ⟨⟨listed_more h.1.1, listed_more h.1.2.1, listed_more h.1.2.2⟩, h.2.below hb⟩
  · obtain ⟨h0, a9, n9, c9, h1, h2⟩ := h
    exact ⟨⟨listed_more h0.1, listed_more h0.2.1, listed_more h0.2.2⟩, a9, n9, c9, h1.below hb, (hb.block B (lt_of_heap h2)).trans h2⟩
theorem eV_app (hl : L[7]? = some false) (hj : j ≠ 7) (h : eV B M g n cap c0 x y cs num wk L j v W) : eV B M g n cap c0 x y cs num wk (L.setIfInBounds 7 true) j v W' := by
  unfold eV at h ⊢
  split <;> simp only at h ⊢ <;> try exact h
  · exact ⟨h.1, listed_more h.2⟩
  · exact ⟨h.1, listed_more h.2⟩
  · obtain ⟨h0, G, h1, h2⟩ := h
    exact ⟨⟨listed_more h0.1, listed_more h0.2⟩, G, h1, fun hn => absurd (listed_now hl) hn⟩
  · exact absurd rfl hj
  · rw [hl] at h; cases h.1.1
theorem eV_store (h7 : L[7]? = some true) (hj : j ≠ 9) (hB : B < M) (u : Value) (h : eV B M g n cap c0 x y cs num wk L j v W) : eV B M g n cap c0 x y cs num wk (L.setIfInBounds 9 true) j v (W.setCell ⟨B, 2, none⟩ u) := by
  unfold eV at h ⊢
  split <;> simp only at h ⊢ <;> try exact h
  · exact ⟨h.1, listed_more h.2⟩
  · exact ⟨h.1, listed_more h.2⟩
  · obtain ⟨h0, G, h1, h2⟩ := h
    exact ⟨⟨listed_more h0.1, listed_more h0.2⟩, G, h1, fun hn => absurd (listed_more h7) hn⟩
  · exact ⟨⟨listed_more h.1.1, listed_more h.1.2.1, listed_more h.1.2.2⟩, h.2.set (p := ⟨B, 2, none⟩) hB u⟩
  · exact absurd rfl hj
end
def fV (p B M g n cap : Nat) (c0 : Chg) (y : Sl) (cs : List Chg) (L : Array Bool) (j : Nat) (v : Value) (W : World) : Prop := match j with
  | 0 | 3 => v = .pointer (some ⟨B, 2, none⟩)
  | 1 | 4 => v = .slice (some ⟨g, 0, none⟩) n cap
  | 2 => v = .pointer (some ⟨p, 0, none⟩)
  | 5 | 9 => v = .pointer (some ⟨g, 0, none⟩)
  | 6 | 10 => v = .pointer (some ⟨g, 2, none⟩)
  | 7 => v = .slice y.1 y.2.1 y.2.2
  | 8 => L[7]? = some true ∧ ∃ (s : Sl) (zs : List Ses), v = .slice s.1 s.2.1 s.2.2 ∧ (SOk zs ∧ zs.length ≤ c0.2.2.length + 97) ∧ (¬ L[11]? = some true → SRow W M (slV s) zs)
  | 11 => (L[7]? = some true ∧ L[8]? = some true) ∧ ∃ (zs : List Ses), (SOk zs ∧ zs.length ≤ c0.2.2.length + 97) ∧ HRow W M (.slice (some ⟨g, 0, none⟩) n cap) ((c0.1, c0.2.1, zs) :: cs)
  | _ => True
theorem fV_keep {p B M g n cap : Nat} {c0 : Chg} {y : Sl} {cs : List Chg} {L : Array Bool} {i j : Nat} {v : Value} {W W' : World} (hb : But p W W') (hp : p < M) (h : fV p B M g n cap c0 y cs L j v W) : fV p B M g n cap c0 y cs (L.setIfInBounds i true) j v W' := by
  unfold fV at h ⊢
  split <;> simp only at h ⊢ <;> try exact h
  · obtain ⟨h0, s, zs, h1, h2, h3⟩ := h
    exact ⟨listed_more h0, s, zs, h1, h2, fun hn => row_but (h3 (not_more hn)) hb hp⟩
  · obtain ⟨h0, zs, h1, h2⟩ := h
    exact ⟨⟨listed_more h0.1, listed_more h0.2⟩, zs, h1, h2.but hb hp⟩
theorem fV_store {p B M g n cap : Nat} {c0 : Chg} {y : Sl} {cs : List Chg} {L : Array Bool} {j : Nat} {v : Value} {W W' : World} (hl : L[11]? = some false) (hj : j ≠ 11) (h : fV p B M g n cap c0 y cs L j v W) : fV p B M g n cap c0 y cs (L.setIfInBounds 11 true) j v W' := by
  unfold fV at h ⊢
  split <;> simp only at h ⊢ <;> try exact h
  · obtain ⟨h0, s, zs, h1, h2, h3⟩ := h
    exact ⟨listed_more h0, s, zs, h1, h2, fun hn => absurd (listed_now hl) hn⟩
  · exact absurd rfl hj

set_option maxRecDepth 100000 in
set_option maxHeartbeats 16000000 in
theorem version_any (p : Nat) (w : World) (hD : DiceAt w p) : Calls Tryz.prog 14 #[.pointer (some ⟨p, 0, none⟩)] w (MvR p w) := by
  have hpw : p < w.heap.size := hD.lt
  have HD0 := Lib.hid hD
  clear hD
  go_enter Tryz.func14, Tryz.ntmps14
  have HA := Lib.hid (BX.mk0 (vs := #[.int .i64 0, .int .i64 0, .slice none 0 0]) (T := 24) w)
  go_upto_region 1 with fail
  generalize w.alloc (.cells #[.int .i64 0, .int .i64 0, .slice none 0 0] 24) = wa at *
  obtain ⟨R, hR⟩ : ∃ R, R = w.heap.size := ⟨_, rfl⟩
  rw [← hR] at HA ⊢
  have hRw : w.heap.size ≤ R := by omega
  have hpR : p < R := by omega
  clear hR
  have HDa := Lib.hid (HD0.out.below HA.out.bl)
  have N8 := Lib.hid (next_any p 8 wa (by omega) (by omega) HDa.out)
  go_wp2_with (go_at_call 24; refine N8.out.mono ?_)
  rintro en w1 ⟨r, r0, r1, rfl, hd1, hb1⟩
  obtain ⟨m, hm, hm1, hm8⟩ : ∃ m : Nat, 1 + r = m ∧ 1 ≤ m ∧ m ≤ 8 := ⟨(1 + r).toNat, by omega, by omega, by omega⟩
  have hmw : IntKind.i64.wrap (1 + r) = (m : Int) := by rw [hm]; exact IntWalk.i64_in _ (by omega)
  have HD1 := Lib.hid hd1
  have HR1 := Lib.hid (but_heap hb1 hpR HA.out.hp)
  have HK1 : Hid (But p w w1) := Lib.hid ((But.of_below HA.out.bl).trans hb1)
  clear hd1 hb1 N8 HA HDa
  have N3 := Lib.hid (next_any p 3 w1 (by omega) (by omega) HD1.out)
  go_wp2_with (go_at_call 24; refine N3.out.mono ?_)
  rintro en w2 ⟨r3, r30, r31, rfl, hd2, hb2⟩
  have HD2 := Lib.hid hd2
  have HR2 := Lib.hid (but_heap hb2 hpR HR1.out)
  have HK2 := Lib.hid (HK1.out.trans hb2)
  clear hd2 hb2 N3
  have NM := Lib.hid (next_any p m w2 (by omega) (by omega) HD2.out)
  go_wp2_with (go_at_call 24; refine NM.out.mono ?_)
  rintro en w3 ⟨r4, r40, r41, rfl, hd3, hb3⟩
  have HD3 := Lib.hid hd3
  have HR3 := Lib.hid (but_heap hb3 hpR HR2.out)
  have HK3 := Lib.hid (HK2.out.trans hb3)
  clear hd3 hb3 NM
  obtain ⟨num, hnum⟩ : ∃ x : Int, 1 + r3 = x := ⟨_, rfl⟩
  obtain ⟨wk, hwk⟩ : ∃ x : Int, 1 + r4 = x := ⟨_, rfl⟩
  have hnw : IntKind.i64.wrap (1 + r3) = num := by rw [hnum]; exact IntWalk.i64_in _ (by omega)
  have hww : IntKind.i64.wrap (1 + r4) = wk := by rw [hwk]; exact IntWalk.i64_in _ (by omega)
  have HB := Lib.hid (BX.mk0 (vs := #[.int .i64 num, .int .i64 wk, .slice none 0 0]) (T := 24) w3)
  go_upto_region 3 with fail
  generalize w3.alloc (.cells #[.int .i64 num, .int .i64 wk, .slice none 0 0] 24) = w4 at *
  obtain ⟨B, hB⟩ : ∃ B, B = w3.heap.size := ⟨_, rfl⟩
  rw [← hB] at HB ⊢
  have hRB : R ≠ B := by have := lt_of_heap HR3.out; omega
  have hBw : w.heap.size ≤ B := by have := HK3.out.size; omega
  have hpB : p < B := by omega
  clear hB
  have HD4 := Lib.hid (HD3.out.below HB.out.bl)
  have HR4 := Lib.hid (but_heap (But.of_below (p := p) HB.out.bl) hpR HR3.out)
  have HK4 := Lib.hid (HK3.out.trans (But.of_below HB.out.bl))
  have HB4 := Lib.hid HB.out.hp
  have hp4 : p < w4.heap.size := HD4.out.lt
  clear hnw hww hmw HB
  have LA := Lib.hid (list_any p m hm1 hm8 w4 HD4.out)
  go_wp2_with (go_at_call 32; refine LA.out.mono ?_)
  rintro en w41 ⟨v1, xs, rfl, hr1, hl1, ho1, hd1, hb1⟩
  obtain ⟨xa, xc, rfl, hxc, _⟩ := SRow.sat hr1
  have HD5 := Lib.hid hd1
  have HR5 := Lib.hid (but_heap hb1 hpR HR4.out)
  have HB5 := Lib.hid (but_heap hb1 hpB HB4.out)
  have HK5 := Lib.hid (HK4.out.trans hb1)
  have HX1 := Lib.hid hr1
  have HO1 := Lib.hid ho1
  have hp41 : p < w41.heap.size := hd1.lt
  clear hr1 ho1 hd1 hb1 LA
  have LB := Lib.hid (list_any p m hm1 hm8 w41 HD5.out)
  go_wp2_with (go_at_call 32; refine LB.out.mono ?_)
  rintro en w42 ⟨v2, ys, rfl, hr2, hl2, ho2, hd2, hb2⟩
  obtain ⟨ya, yc, rfl, hyc, hys⟩ := SRow.sat hr2
  have HD6 := Lib.hid hd2
  have HR6 := Lib.hid (but_heap hb2 hpR HR5.out)
  have HB6 := Lib.hid (but_heap hb2 hpB HB5.out)
  have HK6 := Lib.hid (HK5.out.trans hb2)
  have HX2 : Hid (SRow w42 w4.heap.size (.slice xa xs.length xc) xs) := Lib.hid (row_but HX1.out hb2 hp4)
  obtain ⟨xa', xc', e1, _, hxs⟩ := SRow.sat HX2.out
  obtain ⟨rfl, _, rfl⟩ : xa = xa' ∧ xs.length = xs.length ∧ xc = xc' := by
    injection e1 with a b c
    exact ⟨a, b, c⟩
  have DFF := Lib.hid (rdiff_any xa xs.length xc xs ya ys.length yc ys m w42 hxs HO1.out.str hys ho2.str)
  obtain ⟨_, hco⟩ := dif_small (m : Int) xs ys
  have hcn := dif_nine (m : Int) xs ys hl1 hl2
  have HVO0 := Lib.hid hco
  obtain ⟨M, hM⟩ : ∃ M, M = w42.heap.size := ⟨_, rfl⟩
  have hBM : B < M := by rw [hM]; exact lt_of_heap HB6.out
  have hRM : R < M := by rw [hM]; exact lt_of_heap HR6.out
  have hpM : p < M := by rw [hM]; exact HD6.out.lt
  have hMw : w.heap.size ≤ M := by rw [hM]; exact HK6.out.size
  obtain ⟨⟨er, cs⟩, hr⟩ : ∃ r, difS (m : Int) xs ys = r := ⟨_, rfl⟩
  rw [hr] at DFF hcn HVO0
  simp only at hcn HVO0
  clear hr2 ho2 hd2 hb2 LB hxs hys hr hco e1 HX1 HX2
  go_wp2_with (go_at_call 47; refine DFF.out.mono ?_)
  rintro en w43 ⟨v3, rfl, hh, hb3⟩
  obtain ⟨⟨sa, sn, sc⟩, hv, _⟩ := hh.hv
  replace hv : v3 = .slice sa sn sc := hv
  subst hv
  rw [← hM] at hh
  have hMs : M ≤ w43.heap.size := by rw [hM]; exact hb3.size
  have HH7 := Lib.hid hh
  have HD7 := Lib.hid (HD6.out.below hb3)
  have HR7 := Lib.hid (but_heap (But.of_below (p := p) hb3) hpR HR6.out)
  have HB7 := Lib.hid (but_heap (But.of_below (p := p) hb3) hpB HB6.out)
  have HK7 := Lib.hid (HK6.out.trans (But.of_below hb3))
  clear hh hb3 hM DFF
  have e2 := cell_of_row _ _ 2 _ _ _ HB7.out
  simp only [List.getElem?_toArray, List.getElem?_cons_zero, List.getElem?_cons_succ] at e2
  have z2 := frozen_of_row _ _ 2 _ _ HB7.out
  have HB8 := Lib.hid (heap_setCell_same _ B 2 _ _ (.slice sa sn sc) HB7.out)
  have HR8 := Lib.hid ((heap_setCell_other w43 ⟨B, 2, none⟩ R (.slice sa sn sc) hRB).trans HR7.out)
  have HBS := Lib.hid ((Below.refl w.heap.size w43).setCell (p := ⟨B, 2, none⟩) hBw (.slice sa sn sc))
  have HH8 : Hid (HRow (w43.setCell ⟨B, 2, none⟩ (.slice sa sn sc)) M (.slice sa sn sc) cs) := Lib.hid (HH7.out.set (p := ⟨B, 2, none⟩) hBM (.slice sa sn sc))
  have HD8 := Lib.hid (HD7.out.bel HBS.out hpw)
  have HK8 := Lib.hid (HK7.out.bel HBS.out)
  have hMs8 : M ≤ (w43.setCell ⟨B, 2, none⟩ (.slice sa sn sc)).heap.size := by rw [World.size_setCell]; exact hMs
  go_upto_region 4 with fail
  generalize w43.setCell ⟨B, 2, none⟩ (.slice sa sn sc) = w44 at *
  clear e2 z2
  have N12 := Lib.hid (next_any p 12 w44 (by omega) (by omega) HD8.out)
  go_wp2_with (go_at_call 24; refine N12.out.mono ?_)
  rintro en w5 ⟨rr, rr0, rr1, rfl, hd5, hb5⟩
  have HD := Lib.hid hd5
  have HBX : Hid (w5.heap[B]? = some (.cells #[.int .i64 num, .int .i64 wk, .slice sa sn sc] 24 (0, 0))) := Lib.hid (but_heap hb5 hpB HB8.out)
  have HRX : Hid (w5.heap[R]? = some (.cells #[.int .i64 0, .int .i64 0, .slice none 0 0] 24 (0, 0))) := Lib.hid (but_heap hb5 hpR HR8.out)
  have HH := Lib.hid (HH8.out.but hb5 hpM)
  have HK := Lib.hid (HK8.out.trans hb5)
  have hM5 : M ≤ w5.heap.size := Nat.le_trans hMs8 hb5.size
  have HVO : Hid (VOk (num, wk, cs)) := HVO0
  have HCN : Hid (cntC cs ≤ 1000) := Lib.hid (by omega)
  have hsn : cs.length = sn := (hv_of (s := (sa, sn, sc)) HH.out).2.len.1
  clear hd5 hb5 N12 HH7 HH8 HD7 HD8 HK7 HK8 HB7 HB8 HR7 HR8 HBS HVO0 HD6 HR6 HB6 HK6 HD5 HR5 HB5 HK5 HD4 HR4 HB4 HK4 HD3 HR3 HK3 HD2 HR2 HK2 HD1 HR1 HK1 HD0
  have hrr : rr = 0 ∨ rr = 1 ∨ rr = 2 ∨ rr = 3 ∨ 4 ≤ rr := by omega
  rcases hrr with rfl | rfl | rfl | rfl | hrr
  · have NK := Lib.hid (next_any p 4 (w5.alloc (.cells #[.int .i64 0, .int .i64 (-1), .int .i64 64, .int .i64 65] 3)) (by omega) (by omega) (HD.out.below ((Below.refl _ _).alloc (Nat.le_refl _) _)))
    go_wp2_with (go_at_call 24; refine NK.out.mono ?_)
    rintro en w6 ⟨s, s0, s1, rfl, hd6, hb6⟩
    have HBA := Lib.hid ((Below.refl w5.heap.size w5).alloc (Nat.le_refl _) (.cells #[.int .i64 0, .int .i64 (-1), .int .i64 64, .int .i64 65] 3))
    have HD6 := Lib.hid hd6
    have HK6 := Lib.hid ((HK.out.trans (But.of_below HBA.out)).trans hb6)
    have HBX6 := Lib.hid (but_heap hb6 hpB (but_heap (p := p) (But.of_below HBA.out) hpB HBX.out))
    have HRX6 := Lib.hid (but_heap hb6 hpR (but_heap (p := p) (But.of_below HBA.out) hpR HRX.out))
    have HH6 := Lib.hid ((HH.out.below HBA.out).but hb6 hpM)
    have hcl : ∀ i v, (#[.int .i64 0, .int .i64 (-1), .int .i64 64, .int .i64 65] : Array Value)[i]? = some v → w6.cell? ⟨w5.heap.size, i, none⟩ = some v := fun i v h => but_cell hb6 (Nat.lt_of_lt_of_le hpM hM5) (by rw [cell_of_row _ _ i _ _ _ (heap_alloc_new _ _)]; exact h)
    have c0 := hcl 0 _ rfl
    have c1 := hcl 1 _ rfl
    have c2 := hcl 2 _ rfl
    have c3 := hcl 3 _ rfl
    clear hcl hd6 hb6 NK
    have hs : s = 0 ∨ s = 1 ∨ s = 2 ∨ s = 3 := by omega
    have e0 := cell_of_row _ _ 0 _ _ _ HBX6.out
    simp only [List.getElem?_toArray, List.getElem?_cons_zero] at e0
    have zf := frozen_of_row _ _ 0 _ _ HBX6.out
    rcases hs with rfl | rfl | rfl | rfl
    · have HBX9 := Lib.hid (heap_setCell_same _ B 0 _ _ (.int .i64 0) HBX6.out)
      have HRX9 := Lib.hid ((heap_setCell_other w6 ⟨B, 0, none⟩ R (.int .i64 0) hRB).trans HRX6.out)
      have HBW := Lib.hid ((Below.refl w.heap.size w6).setCell (p := ⟨B, 0, none⟩) hBw (.int .i64 0))
      have HH9 := Lib.hid (HH6.out.set (p := ⟨B, 0, none⟩) hBM (.int .i64 0))
      have HD9 := Lib.hid (HD6.out.bel HBW.out hpw)
      have HK9 := Lib.hid (HK6.out.bel HBW.out)
      have HVO9 : Hid (VOk ((0 : Int), (wk : Int), cs)) := HVO
      have HCN9 := HCN
      go_upto_region 15 with fail
      generalize w6.setCell ⟨B, 0, none⟩ (.int .i64 0) = w7 at *
      clear zf e0
      have HW9 := Lib.hid (((((Below.refl w.heap.size w7).setCell (p := ⟨R, 0, none⟩) hRw (.int .i64 0)).setCell (p := ⟨R, 1, none⟩) hRw (.int .i64 wk)).setCell (p := ⟨R, 2, none⟩) hRw (.slice sa sn sc)))
      have HR9 := Lib.hid (heap3 HRX9.out (.int .i64 0) (.int .i64 wk) (.slice sa sn sc))
      have HH9 := Lib.hid (((HH9.out.set (p := ⟨R, 0, none⟩) hRM (.int .i64 0)).set (p := ⟨R, 1, none⟩) hRM (.int .i64 wk)).set (p := ⟨R, 2, none⟩) hRM (.slice sa sn sc))
      have HD9 := Lib.hid (HD9.out.bel HW9.out hpw)
      have HK9 := Lib.hid (HK9.out.bel HW9.out)
      have e0 := cell_of_row _ _ 0 _ _ _ HBX9.out
      have e1 := cell_of_row _ _ 1 _ _ _ HBX9.out
      have e2 := cell_of_row _ _ 2 _ _ _ HBX9.out
      have k0 := cell_of_row _ _ 0 _ _ _ HRX9.out
      have k1 := cell_of_row _ _ 1 _ _ _ HRX9.out
      have k2 := cell_of_row _ _ 2 _ _ _ HRX9.out
      simp at e0 e1 e2 k0 k1 k2
      have z0 := frozen_of_row _ _ 0 _ _ HRX9.out
      have z1 := frozen_of_row _ _ 1 _ _ HRX9.out
      have z2 := frozen_of_row _ _ 2 _ _ HRX9.out
      go_wp2_with fail
      generalize ((w7.setCell ⟨R, 0, none⟩ (.int .i64 0)).setCell ⟨R, 1, none⟩ (.int .i64 wk)).setCell ⟨R, 2, none⟩ (.slice sa sn sc) = W10 at *
      clear k0 k1 k2 z0 z1 z2 e0 e1 e2
      have k0 := cell_of_row _ _ 0 _ _ _ HR9.out
      have k1 := cell_of_row _ _ 1 _ _ _ HR9.out
      have k2 := cell_of_row _ _ 2 _ _ _ HR9.out
      simp at k0 k1 k2
      refine bodyPost_ret (v := .agg #[.int .i64 0, .int .i64 wk, .slice sa sn sc]) (by simp [results, Tryz.results14, go_sem, k0, k1, k2]) rfl ?_
      exact ⟨_, _, (sa, sn, sc), cs, rfl, HH9.out.base hMw, HVO9.out, HCN9.out, HD9.out, HK9.out⟩
    · have HBX9 := Lib.hid (heap_setCell_same _ B 0 _ _ (.int .i64 (-1)) HBX6.out)
      have HRX9 := Lib.hid ((heap_setCell_other w6 ⟨B, 0, none⟩ R (.int .i64 (-1)) hRB).trans HRX6.out)
      have HBW := Lib.hid ((Below.refl w.heap.size w6).setCell (p := ⟨B, 0, none⟩) hBw (.int .i64 (-1)))
      have HH9 := Lib.hid (HH6.out.set (p := ⟨B, 0, none⟩) hBM (.int .i64 (-1)))
      have HD9 := Lib.hid (HD6.out.bel HBW.out hpw)
      have HK9 := Lib.hid (HK6.out.bel HBW.out)
      have HVO9 : Hid (VOk (((-1) : Int), (wk : Int), cs)) := HVO
      have HCN9 := HCN
      go_upto_region 15 with fail
      generalize w6.setCell ⟨B, 0, none⟩ (.int .i64 (-1)) = w7 at *
      clear zf e0
      have HW9 := Lib.hid (((((Below.refl w.heap.size w7).setCell (p := ⟨R, 0, none⟩) hRw (.int .i64 (-1))).setCell (p := ⟨R, 1, none⟩) hRw (.int .i64 wk)).setCell (p := ⟨R, 2, none⟩) hRw (.slice sa sn sc)))
      have HR9 := Lib.hid (heap3 HRX9.out (.int .i64 (-1)) (.int .i64 wk) (.slice sa sn sc))
      have HH9 := Lib.hid (((HH9.out.set (p := ⟨R, 0, none⟩) hRM (.int .i64 (-1))).set (p := ⟨R, 1, none⟩) hRM (.int .i64 wk)).set (p := ⟨R, 2, none⟩) hRM (.slice sa sn sc))
      have HD9 := Lib.hid (HD9.out.bel HW9.out hpw)
      have HK9 := Lib.hid (HK9.out.bel HW9.out)
      have e0 := cell_of_row _ _ 0 _ _ _ HBX9.out
      have e1 := cell_of_row _ _ 1 _ _ _ HBX9.out
      have e2 := cell_of_row _ _ 2 _ _ _ HBX9.out
      have k0 := cell_of_row _ _ 0 _ _ _ HRX9.out
      have k1 := cell_of_row _ _ 1 _ _ _ HRX9.out
      have k2 := cell_of_row _ _ 2 _ _ _ HRX9.out
      simp at e0 e1 e2 k0 k1 k2
      have z0 := frozen_of_row _ _ 0 _ _ HRX9.out
      have z1 := frozen_of_row _ _ 1 _ _ HRX9.out
      have z2 := frozen_of_row _ _ 2 _ _ HRX9.out
      go_wp2_with fail
      generalize ((w7.setCell ⟨R, 0, none⟩ (.int .i64 (-1))).setCell ⟨R, 1, none⟩ (.int .i64 wk)).setCell ⟨R, 2, none⟩ (.slice sa sn sc) = W10 at *
      clear k0 k1 k2 z0 z1 z2 e0 e1 e2
      have k0 := cell_of_row _ _ 0 _ _ _ HR9.out
      have k1 := cell_of_row _ _ 1 _ _ _ HR9.out
      have k2 := cell_of_row _ _ 2 _ _ _ HR9.out
      simp at k0 k1 k2
      refine bodyPost_ret (v := .agg #[.int .i64 (-1), .int .i64 wk, .slice sa sn sc]) (by simp [results, Tryz.results14, go_sem, k0, k1, k2]) rfl ?_
      exact ⟨_, _, (sa, sn, sc), cs, rfl, HH9.out.base hMw, HVO9.out, HCN9.out, HD9.out, HK9.out⟩
    · have HBX9 := Lib.hid (heap_setCell_same _ B 0 _ _ (.int .i64 64) HBX6.out)
      have HRX9 := Lib.hid ((heap_setCell_other w6 ⟨B, 0, none⟩ R (.int .i64 64) hRB).trans HRX6.out)
      have HBW := Lib.hid ((Below.refl w.heap.size w6).setCell (p := ⟨B, 0, none⟩) hBw (.int .i64 64))
      have HH9 := Lib.hid (HH6.out.set (p := ⟨B, 0, none⟩) hBM (.int .i64 64))
      have HD9 := Lib.hid (HD6.out.bel HBW.out hpw)
      have HK9 := Lib.hid (HK6.out.bel HBW.out)
      have HVO9 : Hid (VOk ((64 : Int), (wk : Int), cs)) := HVO
      have HCN9 := HCN
      go_upto_region 15 with fail
      generalize w6.setCell ⟨B, 0, none⟩ (.int .i64 64) = w7 at *
      clear zf e0
      have HW9 := Lib.hid (((((Below.refl w.heap.size w7).setCell (p := ⟨R, 0, none⟩) hRw (.int .i64 64)).setCell (p := ⟨R, 1, none⟩) hRw (.int .i64 wk)).setCell (p := ⟨R, 2, none⟩) hRw (.slice sa sn sc)))
      have HR9 := Lib.hid (heap3 HRX9.out (.int .i64 64) (.int .i64 wk) (.slice sa sn sc))
      have HH9 := Lib.hid (((HH9.out.set (p := ⟨R, 0, none⟩) hRM (.int .i64 64)).set (p := ⟨R, 1, none⟩) hRM (.int .i64 wk)).set (p := ⟨R, 2, none⟩) hRM (.slice sa sn sc))
      have HD9 := Lib.hid (HD9.out.bel HW9.out hpw)
      have HK9 := Lib.hid (HK9.out.bel HW9.out)
      have e0 := cell_of_row _ _ 0 _ _ _ HBX9.out
      have e1 := cell_of_row _ _ 1 _ _ _ HBX9.out
      have e2 := cell_of_row _ _ 2 _ _ _ HBX9.out
      have k0 := cell_of_row _ _ 0 _ _ _ HRX9.out
      have k1 := cell_of_row _ _ 1 _ _ _ HRX9.out
      have k2 := cell_of_row _ _ 2 _ _ _ HRX9.out
      simp at e0 e1 e2 k0 k1 k2
      have z0 := frozen_of_row _ _ 0 _ _ HRX9.out
      have z1 := frozen_of_row _ _ 1 _ _ HRX9.out
      have z2 := frozen_of_row _ _ 2 _ _ HRX9.out
      go_wp2_with fail
      generalize ((w7.setCell ⟨R, 0, none⟩ (.int .i64 64)).setCell ⟨R, 1, none⟩ (.int .i64 wk)).setCell ⟨R, 2, none⟩ (.slice sa sn sc) = W10 at *
      clear k0 k1 k2 z0 z1 z2 e0 e1 e2
      have k0 := cell_of_row _ _ 0 _ _ _ HR9.out
      have k1 := cell_of_row _ _ 1 _ _ _ HR9.out
      have k2 := cell_of_row _ _ 2 _ _ _ HR9.out
      simp at k0 k1 k2
      refine bodyPost_ret (v := .agg #[.int .i64 64, .int .i64 wk, .slice sa sn sc]) (by simp [results, Tryz.results14, go_sem, k0, k1, k2]) rfl ?_
      exact ⟨_, _, (sa, sn, sc), cs, rfl, HH9.out.base hMw, HVO9.out, HCN9.out, HD9.out, HK9.out⟩
    · have HBX9 := Lib.hid (heap_setCell_same _ B 0 _ _ (.int .i64 65) HBX6.out)
      have HRX9 := Lib.hid ((heap_setCell_other w6 ⟨B, 0, none⟩ R (.int .i64 65) hRB).trans HRX6.out)
      have HBW := Lib.hid ((Below.refl w.heap.size w6).setCell (p := ⟨B, 0, none⟩) hBw (.int .i64 65))
      have HH9 := Lib.hid (HH6.out.set (p := ⟨B, 0, none⟩) hBM (.int .i64 65))
      have HD9 := Lib.hid (HD6.out.bel HBW.out hpw)
      have HK9 := Lib.hid (HK6.out.bel HBW.out)
      have HVO9 : Hid (VOk ((65 : Int), (wk : Int), cs)) := HVO
      have HCN9 := HCN
      go_upto_region 15 with fail
      generalize w6.setCell ⟨B, 0, none⟩ (.int .i64 65) = w7 at *
      clear zf e0
      have HW9 := Lib.hid (((((Below.refl w.heap.size w7).setCell (p := ⟨R, 0, none⟩) hRw (.int .i64 65)).setCell (p := ⟨R, 1, none⟩) hRw (.int .i64 wk)).setCell (p := ⟨R, 2, none⟩) hRw (.slice sa sn sc)))
      have HR9 := Lib.hid (heap3 HRX9.out (.int .i64 65) (.int .i64 wk) (.slice sa sn sc))
      have HH9 := Lib.hid (((HH9.out.set (p := ⟨R, 0, none⟩) hRM (.int .i64 65)).set (p := ⟨R, 1, none⟩) hRM (.int .i64 wk)).set (p := ⟨R, 2, none⟩) hRM (.slice sa sn sc))
      have HD9 := Lib.hid (HD9.out.bel HW9.out hpw)
      have HK9 := Lib.hid (HK9.out.bel HW9.out)
      have e0 := cell_of_row _ _ 0 _ _ _ HBX9.out
      have e1 := cell_of_row _ _ 1 _ _ _ HBX9.out
      have e2 := cell_of_row _ _ 2 _ _ _ HBX9.out
      have k0 := cell_of_row _ _ 0 _ _ _ HRX9.out
      have k1 := cell_of_row _ _ 1 _ _ _ HRX9.out
      have k2 := cell_of_row _ _ 2 _ _ _ HRX9.out
      simp at e0 e1 e2 k0 k1 k2
      have z0 := frozen_of_row _ _ 0 _ _ HRX9.out
      have z1 := frozen_of_row _ _ 1 _ _ HRX9.out
      have z2 := frozen_of_row _ _ 2 _ _ HRX9.out
      go_wp2_with fail
      generalize ((w7.setCell ⟨R, 0, none⟩ (.int .i64 65)).setCell ⟨R, 1, none⟩ (.int .i64 wk)).setCell ⟨R, 2, none⟩ (.slice sa sn sc) = W10 at *
      clear k0 k1 k2 z0 z1 z2 e0 e1 e2
      have k0 := cell_of_row _ _ 0 _ _ _ HR9.out
      have k1 := cell_of_row _ _ 1 _ _ _ HR9.out
      have k2 := cell_of_row _ _ 2 _ _ _ HR9.out
      simp at k0 k1 k2
      refine bodyPost_ret (v := .agg #[.int .i64 65, .int .i64 wk, .slice sa sn sc]) (by simp [results, Tryz.results14, go_sem, k0, k1, k2]) rfl ?_
      exact ⟨_, _, (sa, sn, sc), cs, rfl, HH9.out.base hMw, HVO9.out, HCN9.out, HD9.out, HK9.out⟩
  · have NK := Lib.hid (next_any p 3 (w5.alloc (.cells #[.int .i64 0, .int .i64 20, .int .i64 21] 3)) (by omega) (by omega) (HD.out.below ((Below.refl _ _).alloc (Nat.le_refl _) _)))
    go_wp2_with (go_at_call 24; refine NK.out.mono ?_)
    rintro en w6 ⟨s, s0, s1, rfl, hd6, hb6⟩
    have HBA := Lib.hid ((Below.refl w5.heap.size w5).alloc (Nat.le_refl _) (.cells #[.int .i64 0, .int .i64 20, .int .i64 21] 3))
    have HD6 := Lib.hid hd6
    have HK6 := Lib.hid ((HK.out.trans (But.of_below HBA.out)).trans hb6)
    have HBX6 := Lib.hid (but_heap hb6 hpB (but_heap (p := p) (But.of_below HBA.out) hpB HBX.out))
    have HRX6 := Lib.hid (but_heap hb6 hpR (but_heap (p := p) (But.of_below HBA.out) hpR HRX.out))
    have HH6 := Lib.hid ((HH.out.below HBA.out).but hb6 hpM)
    have hcl : ∀ i v, (#[.int .i64 0, .int .i64 20, .int .i64 21] : Array Value)[i]? = some v → w6.cell? ⟨w5.heap.size, i, none⟩ = some v := fun i v h => but_cell hb6 (Nat.lt_of_lt_of_le hpM hM5) (by rw [cell_of_row _ _ i _ _ _ (heap_alloc_new _ _)]; exact h)
    have c0 := hcl 0 _ rfl
    have c1 := hcl 1 _ rfl
    have c2 := hcl 2 _ rfl
    clear hcl hd6 hb6 NK
    have hs : s = 0 ∨ s = 1 ∨ s = 2 := by omega
    have e1 := cell_of_row _ _ 1 _ _ _ HBX6.out
    simp only [List.getElem?_toArray, List.getElem?_cons_zero, List.getElem?_cons_succ] at e1
    have zf := frozen_of_row _ _ 1 _ _ HBX6.out
    rcases hs with rfl | rfl | rfl
    · have HBX9 := Lib.hid (heap_setCell_same _ B 1 _ _ (.int .i64 0) HBX6.out)
      have HRX9 := Lib.hid ((heap_setCell_other w6 ⟨B, 1, none⟩ R (.int .i64 0) hRB).trans HRX6.out)
      have HBW := Lib.hid ((Below.refl w.heap.size w6).setCell (p := ⟨B, 1, none⟩) hBw (.int .i64 0))
      have HH9 := Lib.hid (HH6.out.set (p := ⟨B, 1, none⟩) hBM (.int .i64 0))
      have HD9 := Lib.hid (HD6.out.bel HBW.out hpw)
      have HK9 := Lib.hid (HK6.out.bel HBW.out)
      have HVO9 : Hid (VOk ((num : Int), (0 : Int), cs)) := HVO
      have HCN9 := HCN
      go_upto_region 15 with fail
      generalize w6.setCell ⟨B, 1, none⟩ (.int .i64 0) = w7 at *
      clear zf e1
      have HW9 := Lib.hid (((((Below.refl w.heap.size w7).setCell (p := ⟨R, 0, none⟩) hRw (.int .i64 num)).setCell (p := ⟨R, 1, none⟩) hRw (.int .i64 0)).setCell (p := ⟨R, 2, none⟩) hRw (.slice sa sn sc)))
      have HR9 := Lib.hid (heap3 HRX9.out (.int .i64 num) (.int .i64 0) (.slice sa sn sc))
      have HH9 := Lib.hid (((HH9.out.set (p := ⟨R, 0, none⟩) hRM (.int .i64 num)).set (p := ⟨R, 1, none⟩) hRM (.int .i64 0)).set (p := ⟨R, 2, none⟩) hRM (.slice sa sn sc))
      have HD9 := Lib.hid (HD9.out.bel HW9.out hpw)
      have HK9 := Lib.hid (HK9.out.bel HW9.out)
      have e0 := cell_of_row _ _ 0 _ _ _ HBX9.out
      have e1 := cell_of_row _ _ 1 _ _ _ HBX9.out
      have e2 := cell_of_row _ _ 2 _ _ _ HBX9.out
      have k0 := cell_of_row _ _ 0 _ _ _ HRX9.out
      have k1 := cell_of_row _ _ 1 _ _ _ HRX9.out
      have k2 := cell_of_row _ _ 2 _ _ _ HRX9.out
      simp at e0 e1 e2 k0 k1 k2
      have z0 := frozen_of_row _ _ 0 _ _ HRX9.out
      have z1 := frozen_of_row _ _ 1 _ _ HRX9.out
      have z2 := frozen_of_row _ _ 2 _ _ HRX9.out
      go_wp2_with fail
      generalize ((w7.setCell ⟨R, 0, none⟩ (.int .i64 num)).setCell ⟨R, 1, none⟩ (.int .i64 0)).setCell ⟨R, 2, none⟩ (.slice sa sn sc) = W10 at *
      clear k0 k1 k2 z0 z1 z2 e0 e1 e2
      have k0 := cell_of_row _ _ 0 _ _ _ HR9.out
      have k1 := cell_of_row _ _ 1 _ _ _ HR9.out
      have k2 := cell_of_row _ _ 2 _ _ _ HR9.out
      simp at k0 k1 k2
      refine bodyPost_ret (v := .agg #[.int .i64 num, .int .i64 0, .slice sa sn sc]) (by simp [results, Tryz.results14, go_sem, k0, k1, k2]) rfl ?_
      exact ⟨_, _, (sa, sn, sc), cs, rfl, HH9.out.base hMw, HVO9.out, HCN9.out, HD9.out, HK9.out⟩
    · have HBX9 := Lib.hid (heap_setCell_same _ B 1 _ _ (.int .i64 20) HBX6.out)
      have HRX9 := Lib.hid ((heap_setCell_other w6 ⟨B, 1, none⟩ R (.int .i64 20) hRB).trans HRX6.out)
      have HBW := Lib.hid ((Below.refl w.heap.size w6).setCell (p := ⟨B, 1, none⟩) hBw (.int .i64 20))
      have HH9 := Lib.hid (HH6.out.set (p := ⟨B, 1, none⟩) hBM (.int .i64 20))
      have HD9 := Lib.hid (HD6.out.bel HBW.out hpw)
      have HK9 := Lib.hid (HK6.out.bel HBW.out)
      have HVO9 : Hid (VOk ((num : Int), (20 : Int), cs)) := HVO
      have HCN9 := HCN
      go_upto_region 15 with fail
      generalize w6.setCell ⟨B, 1, none⟩ (.int .i64 20) = w7 at *
      clear zf e1
      have HW9 := Lib.hid (((((Below.refl w.heap.size w7).setCell (p := ⟨R, 0, none⟩) hRw (.int .i64 num)).setCell (p := ⟨R, 1, none⟩) hRw (.int .i64 20)).setCell (p := ⟨R, 2, none⟩) hRw (.slice sa sn sc)))
      have HR9 := Lib.hid (heap3 HRX9.out (.int .i64 num) (.int .i64 20) (.slice sa sn sc))
      have HH9 := Lib.hid (((HH9.out.set (p := ⟨R, 0, none⟩) hRM (.int .i64 num)).set (p := ⟨R, 1, none⟩) hRM (.int .i64 20)).set (p := ⟨R, 2, none⟩) hRM (.slice sa sn sc))
      have HD9 := Lib.hid (HD9.out.bel HW9.out hpw)
      have HK9 := Lib.hid (HK9.out.bel HW9.out)
      have e0 := cell_of_row _ _ 0 _ _ _ HBX9.out
      have e1 := cell_of_row _ _ 1 _ _ _ HBX9.out
      have e2 := cell_of_row _ _ 2 _ _ _ HBX9.out
      have k0 := cell_of_row _ _ 0 _ _ _ HRX9.out
      have k1 := cell_of_row _ _ 1 _ _ _ HRX9.out
      have k2 := cell_of_row _ _ 2 _ _ _ HRX9.out
      simp at e0 e1 e2 k0 k1 k2
      have z0 := frozen_of_row _ _ 0 _ _ HRX9.out
      have z1 := frozen_of_row _ _ 1 _ _ HRX9.out
      have z2 := frozen_of_row _ _ 2 _ _ HRX9.out
      go_wp2_with fail
      generalize ((w7.setCell ⟨R, 0, none⟩ (.int .i64 num)).setCell ⟨R, 1, none⟩ (.int .i64 20)).setCell ⟨R, 2, none⟩ (.slice sa sn sc) = W10 at *
      clear k0 k1 k2 z0 z1 z2 e0 e1 e2
      have k0 := cell_of_row _ _ 0 _ _ _ HR9.out
      have k1 := cell_of_row _ _ 1 _ _ _ HR9.out
      have k2 := cell_of_row _ _ 2 _ _ _ HR9.out
      simp at k0 k1 k2
      refine bodyPost_ret (v := .agg #[.int .i64 num, .int .i64 20, .slice sa sn sc]) (by simp [results, Tryz.results14, go_sem, k0, k1, k2]) rfl ?_
      exact ⟨_, _, (sa, sn, sc), cs, rfl, HH9.out.base hMw, HVO9.out, HCN9.out, HD9.out, HK9.out⟩
    · have HBX9 := Lib.hid (heap_setCell_same _ B 1 _ _ (.int .i64 21) HBX6.out)
      have HRX9 := Lib.hid ((heap_setCell_other w6 ⟨B, 1, none⟩ R (.int .i64 21) hRB).trans HRX6.out)
      have HBW := Lib.hid ((Below.refl w.heap.size w6).setCell (p := ⟨B, 1, none⟩) hBw (.int .i64 21))
      have HH9 := Lib.hid (HH6.out.set (p := ⟨B, 1, none⟩) hBM (.int .i64 21))
      have HD9 := Lib.hid (HD6.out.bel HBW.out hpw)
      have HK9 := Lib.hid (HK6.out.bel HBW.out)
      have HVO9 : Hid (VOk ((num : Int), (21 : Int), cs)) := HVO
      have HCN9 := HCN
      go_upto_region 15 with fail
      generalize w6.setCell ⟨B, 1, none⟩ (.int .i64 21) = w7 at *
      clear zf e1
      have HW9 := Lib.hid (((((Below.refl w.heap.size w7).setCell (p := ⟨R, 0, none⟩) hRw (.int .i64 num)).setCell (p := ⟨R, 1, none⟩) hRw (.int .i64 21)).setCell (p := ⟨R, 2, none⟩) hRw (.slice sa sn sc)))
      have HR9 := Lib.hid (heap3 HRX9.out (.int .i64 num) (.int .i64 21) (.slice sa sn sc))
      have HH9 := Lib.hid (((HH9.out.set (p := ⟨R, 0, none⟩) hRM (.int .i64 num)).set (p := ⟨R, 1, none⟩) hRM (.int .i64 21)).set (p := ⟨R, 2, none⟩) hRM (.slice sa sn sc))
      have HD9 := Lib.hid (HD9.out.bel HW9.out hpw)
      have HK9 := Lib.hid (HK9.out.bel HW9.out)
      have e0 := cell_of_row _ _ 0 _ _ _ HBX9.out
      have e1 := cell_of_row _ _ 1 _ _ _ HBX9.out
      have e2 := cell_of_row _ _ 2 _ _ _ HBX9.out
      have k0 := cell_of_row _ _ 0 _ _ _ HRX9.out
      have k1 := cell_of_row _ _ 1 _ _ _ HRX9.out
      have k2 := cell_of_row _ _ 2 _ _ _ HRX9.out
      simp at e0 e1 e2 k0 k1 k2
      have z0 := frozen_of_row _ _ 0 _ _ HRX9.out
      have z1 := frozen_of_row _ _ 1 _ _ HRX9.out
      have z2 := frozen_of_row _ _ 2 _ _ HRX9.out
      go_wp2_with fail
      generalize ((w7.setCell ⟨R, 0, none⟩ (.int .i64 num)).setCell ⟨R, 1, none⟩ (.int .i64 21)).setCell ⟨R, 2, none⟩ (.slice sa sn sc) = W10 at *
      clear k0 k1 k2 z0 z1 z2 e0 e1 e2
      have k0 := cell_of_row _ _ 0 _ _ _ HR9.out
      have k1 := cell_of_row _ _ 1 _ _ _ HR9.out
      have k2 := cell_of_row _ _ 2 _ _ _ HR9.out
      simp at k0 k1 k2
      refine bodyPost_ret (v := .agg #[.int .i64 num, .int .i64 21, .slice sa sn sc]) (by simp [results, Tryz.results14, go_sem, k0, k1, k2]) rfl ?_
      exact ⟨_, _, (sa, sn, sc), cs, rfl, HH9.out.base hMw, HVO9.out, HCN9.out, HD9.out, HK9.out⟩
  · cases cs with
    | nil =>
      have hs0 : sn = 0 := by rw [← hsn]; rfl
      subst hs0
      have e2 := cell_of_row _ _ 2 _ _ _ HBX.out
      simp only [List.getElem?_toArray, List.getElem?_cons_zero, List.getElem?_cons_succ] at e2
      go_upto_region 15 with fail
      clear e2
      have HBX9 := HBX
      have HRX9 := HRX
      have HH9 := HH
      have HD9 := HD
      have HK9 := HK
      have HVO9 := HVO
      have HCN9 := HCN
      have HW9 := Lib.hid (((((Below.refl w.heap.size w5).setCell (p := ⟨R, 0, none⟩) hRw (.int .i64 num)).setCell (p := ⟨R, 1, none⟩) hRw (.int .i64 wk)).setCell (p := ⟨R, 2, none⟩) hRw (.slice sa 0 sc)))
      have HR9 := Lib.hid (heap3 HRX9.out (.int .i64 num) (.int .i64 wk) (.slice sa 0 sc))
      have HH9 := Lib.hid (((HH9.out.set (p := ⟨R, 0, none⟩) hRM (.int .i64 num)).set (p := ⟨R, 1, none⟩) hRM (.int .i64 wk)).set (p := ⟨R, 2, none⟩) hRM (.slice sa 0 sc))
      have HD9 := Lib.hid (HD9.out.bel HW9.out hpw)
      have HK9 := Lib.hid (HK9.out.bel HW9.out)
      have e0 := cell_of_row _ _ 0 _ _ _ HBX9.out
      have e1 := cell_of_row _ _ 1 _ _ _ HBX9.out
      have e2 := cell_of_row _ _ 2 _ _ _ HBX9.out
      have k0 := cell_of_row _ _ 0 _ _ _ HRX9.out
      have k1 := cell_of_row _ _ 1 _ _ _ HRX9.out
      have k2 := cell_of_row _ _ 2 _ _ _ HRX9.out
      simp at e0 e1 e2 k0 k1 k2
      have z0 := frozen_of_row _ _ 0 _ _ HRX9.out
      have z1 := frozen_of_row _ _ 1 _ _ HRX9.out
      have z2 := frozen_of_row _ _ 2 _ _ HRX9.out
      go_wp2_with fail
      generalize ((w5.setCell ⟨R, 0, none⟩ (.int .i64 num)).setCell ⟨R, 1, none⟩ (.int .i64 wk)).setCell ⟨R, 2, none⟩ (.slice sa 0 sc) = W10 at *
      clear k0 k1 k2 z0 z1 z2 e0 e1 e2
      have k0 := cell_of_row _ _ 0 _ _ _ HR9.out
      have k1 := cell_of_row _ _ 1 _ _ _ HR9.out
      have k2 := cell_of_row _ _ 2 _ _ _ HR9.out
      simp at k0 k1 k2
      refine bodyPost_ret (v := .agg #[.int .i64 num, .int .i64 wk, .slice sa 0 sc]) (by simp [results, Tryz.results14, go_sem, k0, k1, k2]) rfl ?_
      exact ⟨_, _, (sa, 0, sc), [], rfl, HH9.out.base hMw, HVO9.out, HCN9.out, HD9.out, HK9.out⟩
    | cons c0 cs =>
      obtain ⟨g, cap, x, y, rs, cur, hsv, hgM, hhg, hkr, how, hrl, y0, y1, y2, z2, hsx, hsy⟩ := HH.out.open0
      obtain ⟨rfl, rfl, rfl⟩ : sa = some ⟨g, 0, none⟩ ∧ sn = cs.length + 1 ∧ sc = cap := by
        injection hsv with a b c
        exact ⟨a, b, c⟩
      have HKR := Lib.hid hkr
      have HOW := Lib.hid how
      have HSX := Lib.hid hsx
      have HSY := Lib.hid hsy
      have HRXX := HRX
      have hcsl : cs.length ≤ 1000 := by have := HCN.out; rw [cntC_cons] at this; have := (cnt_le cs).1; omega
      have hps : (0 : Int) < (cs.length : Int) + 1 := by omega
      clear hkr how hsx hsy hsv
      have e2 := cell_of_row _ _ 2 _ _ _ HBX.out
      simp only [List.getElem?_toArray, List.getElem?_cons_zero, List.getElem?_cons_succ] at e2
      go_upto_region 11 with fail
      clear e2
      refine wp_region_rel (N := 79) (eV B M g (cs.length + 1) sc c0 x y cs num wk) (fun L W => M ≤ W.heap.size ∧ Below w.heap.size w5 W ∧ W.heap[R]? = some (.cells #[.int .i64 0, .int .i64 0, .slice none 0 0] 24 (0, 0)) ∧ (¬ L[9]? = some true → W.heap[B]? = some (.cells #[.int .i64 num, .int .i64 wk, .slice (some ⟨g, 0, none⟩) (cs.length + 1) sc] 24 (0, 0))) ∧ (¬ L[7]? = some true → Below w5.heap.size w5 W)) (by kernel_rfl) (by kernel_rfl) (by rfl) ⟨hM5, (bel_drew0 _).mono (Nat.le_trans hMw hM5), HRX.out, fun _ => HBX.out, fun _ => bel_drew0 _⟩ ?_ ?_
      · intro i o L a W ho hl hL hS hdf dep all fr
        match i, ho with
        | 0, ho =>
          obtain rfl := (Option.some.inj ho).symm
          have f8 := fr 4 (by kernel_rfl)
          unfold Oper.wp
          simp [go_sem, f8]
          exact ⟨_, rfl, rfl, ⟨hS.1, hS.2.1, hS.2.2.1, fun hn => hS.2.2.2.1 (not_more hn), fun hn => hS.2.2.2.2 (not_more hn)⟩, fun j oj u _ _ _ _ hu => eV_keep (Below.refl _ _) hu⟩
        | 1, ho =>
          obtain rfl := (Option.some.inj ho).symm
          obtain ⟨_, v0, h0, d0⟩ := dep 0 _ rfl (by kernel_rfl)
          have d0 := d0 52 rfl
          obtain rfl : v0 = .pointer (some ⟨B, 2, none⟩) := h0
          have hn9 : ¬ L[9]? = some true := fun h => by
            obtain ⟨v, hv⟩ := all 9 _ rfl h
            have hv := hv.1.2.1
            rw [hl] at hv; cases hv
          have hc : W.cell? ⟨B, 2, none⟩ = some (.slice (some ⟨g, 0, none⟩) (cs.length + 1) sc) := by rw [cell_of_row _ _ 2 _ _ _ (hS.2.2.2.1 hn9)]; rfl
          unfold Oper.wp
          simp [go_sem, d0, hc]
          exact ⟨_, rfl, rfl, ⟨hS.1, hS.2.1, hS.2.2.1, fun hn => hS.2.2.2.1 (not_more hn), fun hn => hS.2.2.2.2 (not_more hn)⟩, fun j oj u _ _ _ _ hu => eV_keep (Below.refl _ _) hu⟩
        | 2, ho =>
          obtain rfl := (Option.some.inj ho).symm
          have f8 := fr 4 (by kernel_rfl)
          unfold Oper.wp
          simp [go_sem, f8]
          exact ⟨_, rfl, rfl, ⟨hS.1, hS.2.1, hS.2.2.1, fun hn => hS.2.2.2.1 (not_more hn), fun hn => hS.2.2.2.2 (not_more hn)⟩, fun j oj u _ _ _ _ hu => eV_keep (Below.refl _ _) hu⟩
        | 3, ho =>
          obtain rfl := (Option.some.inj ho).symm
          obtain ⟨_, v2, h2, d2⟩ := dep 2 _ rfl (by kernel_rfl)
          have d2 := d2 54 rfl
          obtain rfl : v2 = .pointer (some ⟨B, 2, none⟩) := h2
          have hn9 : ¬ L[9]? = some true := fun h => by
            obtain ⟨v, hv⟩ := all 9 _ rfl h
            have hv := hv.1.2.2
            rw [hl] at hv; cases hv
          have hc : W.cell? ⟨B, 2, none⟩ = some (.slice (some ⟨g, 0, none⟩) (cs.length + 1) sc) := by rw [cell_of_row _ _ 2 _ _ _ (hS.2.2.2.1 hn9)]; rfl
          unfold Oper.wp
          simp [go_sem, d2, hc]
          exact ⟨_, rfl, rfl, ⟨hS.1, hS.2.1, hS.2.2.1, fun hn => hS.2.2.2.1 (not_more hn), fun hn => hS.2.2.2.2 (not_more hn)⟩, fun j oj u _ _ _ _ hu => eV_keep (Below.refl _ _) hu⟩
        | 4, ho =>
          obtain rfl := (Option.some.inj ho).symm
          have h3l := (dep 3 _ rfl (by kernel_rfl)).1
          obtain ⟨_, v3, h3, d3⟩ := dep 3 _ rfl (by kernel_rfl)
          have d3 := d3 55 rfl
          obtain rfl : v3 = .slice (some ⟨g, 0, none⟩) (cs.length + 1) sc := h3
          have hpos : (0 : Int) < (cs.length : Int) + 1 := by omega
          unfold Oper.wp
          simp [go_sem, d3, hpos]
          exact ⟨_, rfl, ⟨rfl, listed_more h3l⟩, ⟨hS.1, hS.2.1, hS.2.2.1, fun hn => hS.2.2.2.1 (not_more hn), fun hn => hS.2.2.2.2 (not_more hn)⟩, fun j oj u _ _ _ _ hu => eV_keep (Below.refl _ _) hu⟩
        | 5, ho =>
          obtain rfl := (Option.some.inj ho).symm
          obtain ⟨_, v4, ⟨rfl, h3l⟩, d4⟩ := dep 4 _ rfl (by kernel_rfl)
          have d4 := d4 56 rfl
          have hn7 : ¬ L[7]? = some true := fun h => by
            obtain ⟨v, hv⟩ := all 7 _ rfl h
            have hv := hv.1.2.2
            rw [hl] at hv; cases hv
          have hbw := hS.2.2.2.2 hn7
          have q0 := below_cell9 hbw y0
          have q1 := below_cell9 hbw y1
          have q2 := below_cell9 hbw y2
          unfold Oper.wp
          simp [go_sem, d4, q0, q1, q2]
          exact ⟨_, rfl, ⟨rfl, listed_more h3l⟩, ⟨hS.1, hS.2.1, hS.2.2.1, fun hn => hS.2.2.2.1 (not_more hn), fun hn => hS.2.2.2.2 (not_more hn)⟩, fun j oj u _ _ _ _ hu => eV_keep (Below.refl _ _) hu⟩
        | 6, ho =>
          obtain rfl := (Option.some.inj ho).symm
          obtain ⟨h5l, v5, ⟨rfl, h3l⟩, d5⟩ := dep 5 _ rfl (by kernel_rfl)
          have d5 := d5 57 rfl
          have hba := (Below.refl W.heap.size W).alloc (Nat.le_refl _) (.cells (rchC (c0.1, x, y)).toArray 101)
          unfold Oper.wp
          simp [go_sem, d5]
          exact ⟨_, rfl, ⟨⟨listed_more h5l, listed_more h3l⟩, W.heap.size, rfl, fun _ => KAt.one W ((c0.1, x, y) : RChg) _⟩, ⟨Nat.le_trans hS.1 hba.size, hS.2.1.alloc (Nat.le_trans hMw hS.1) _, (hba.block R (lt_of_heap hS.2.2.1)).trans hS.2.2.1, fun hn => (hba.block B (lt_of_heap (hS.2.2.2.1 (not_more hn)))).trans (hS.2.2.2.1 (not_more hn)), fun hn => below3 (hS.2.2.2.2 (not_more hn)) hba⟩, fun j oj u _ _ _ _ hu => eV_keep hba hu⟩
        | 7, ho =>
          obtain rfl := (Option.some.inj ho).symm
          have h1l := (dep 1 _ rfl (by kernel_rfl)).1
          obtain ⟨_, v1, h1, d1⟩ := dep 1 _ rfl (by kernel_rfl)
          have d1 := d1 53 rfl
          obtain rfl : v1 = .slice (some ⟨g, 0, none⟩) (cs.length + 1) sc := h1
          obtain ⟨_, v6, ⟨⟨h5l, h3l⟩, G, rfl, hk6⟩, d6⟩ := dep 6 _ rfl (by kernel_rfl)
          have d6 := d6 58 rfl
          have hn7 : ¬ L[7]? = some true := by rw [hl]; simp
          have hn9 : ¬ L[9]? = some true := fun h => by
            obtain ⟨v, hv⟩ := all 9 _ rfl h
            exact hn7 hv.1.1
          have hbw := hS.2.2.2.2 hn7
          have hkr := row_below HKR.out hbw
          have hown := HOW.out.below hbw
          refine wp_app elemChg encChg (.tmp 53) (.tmp 58) rfl M (.slice (some ⟨g, 0, none⟩) (cs.length + 1) sc) ((c0.1, x, y) :: rs) (by simp [Act.eval, d1]) hkr (some ⟨G, 0, none⟩) 1 1 [(c0.1, x, y)] (by simp [Act.eval, d6]) (hk6 hn7) (by simp; omega) hS.1 ?_
          intro v' w' hr' hb' hg' _
          exact ⟨v', rfl, ⟨⟨listed_more h1l, listed_more h3l, listed_more h5l⟩, _, hr', (hown.kept hkr hg').snoc ⟨rfl, row_kept (row_below HSX.out hbw) hkr (by decide) hg', row_kept (row_below HSY.out hbw) hkr (by decide) hg'⟩⟩, ⟨Nat.le_trans hS.1 hb'.size, hS.2.1.trans (hb'.mono hMw), (hb'.block R hRM).trans hS.2.2.1, fun hn => (hb'.block B hBM).trans (hS.2.2.2.1 (not_more hn)), fun h => absurd (listed_now hl) h⟩, fun j oj u _ hne _ _ hu => eV_app hl hne hu⟩
        | 8, ho =>
          obtain rfl := (Option.some.inj ho).symm
          have f8 := fr 4 (by kernel_rfl)
          unfold Oper.wp
          simp [go_sem, f8]
          exact ⟨_, rfl, rfl, ⟨hS.1, hS.2.1, hS.2.2.1, fun hn => hS.2.2.2.1 (not_more hn), fun hn => hS.2.2.2.2 (not_more hn)⟩, fun j oj u _ _ _ _ hu => eV_keep (Below.refl _ _) hu⟩
        | 9, ho =>
          obtain rfl := (Option.some.inj ho).symm
          obtain ⟨_, v8, h8, d8⟩ := dep 8 _ rfl (by kernel_rfl)
          have d8 := d8 60 rfl
          obtain rfl : v8 = .pointer (some ⟨B, 2, none⟩) := h8
          obtain ⟨h7l, v7, ⟨⟨h1l, h3l, _⟩, hv7⟩, d7⟩ := dep 7 _ rfl (by kernel_rfl)
          have d7 := d7 59 rfl
          obtain ⟨⟨s1, s2, s3⟩, e7, _⟩ := hv7.hv
          replace e7 : v7 = .slice s1 s2 s3 := e7
          subst e7
          have hn9 : ¬ L[9]? = some true := by rw [hl]; simp
          have hbx := hS.2.2.2.1 hn9
          have c2 := cell_of_row _ _ 2 _ _ _ hbx
          simp only [List.getElem?_toArray, List.getElem?_cons_zero, List.getElem?_cons_succ] at c2
          have z2 := frozen_of_row _ _ 2 _ _ hbx
          have hset := heap_setCell_same _ B 2 _ _ (.slice s1 s2 s3) hbx
          unfold Oper.wp
          simp [go_sem, d8, d7, c2, z2]
          exact ⟨.tuple #[], rfl, ⟨⟨listed_more h7l, listed_more h1l, listed_more h3l⟩, s1, s2, s3, hv7.set (p := ⟨B, 2, none⟩) hBM _, hset⟩, ⟨by rw [World.size_setCell]; exact hS.1, hS.2.1.setCell (p := ⟨B, 2, none⟩) hBw _, (heap_setCell_other _ _ _ _ hRB).trans hS.2.2.1, fun h => absurd (listed_now hl) h, fun h => absurd (listed_more h7l) h⟩, fun j oj u _ hne _ _ hu => eV_store h7l hne hBM _ hu⟩
      · intro vs W hS hV
        obtain ⟨_, a9, n9, c9, hh9, hb9⟩ := hV 9 _ rfl
        have HBX9 := Lib.hid hb9
        have HRX9 := Lib.hid hS.2.2.1
        have HH9 := Lib.hid hh9
        have HD9 := Lib.hid (HD.out.bel hS.2.1 hpw)
        have HK9 := Lib.hid (HK.out.bel hS.2.1)
        have HVO9 : Hid (VOk (num, wk, c0 :: cs ++ [c0])) := Lib.hid (fun c hc => by
          rcases List.mem_append.1 hc with hc | hc
          · exact HVO.out c hc
          · rw [List.mem_singleton] at hc; rw [hc]; exact HVO.out c0 List.mem_cons_self)
        have HCN9 : Hid (cntC (c0 :: cs ++ [c0]) ≤ 1000) := Lib.hid (by
          have : cntC (c0 :: cs ++ [c0]) = cntC (c0 :: cs) + cntC [c0] := by simp [cntC]; omega
          rw [this]
          rw [cntC_cons] at hcn
          have e : cntC [c0] = 1 + c0.2.1.length + c0.2.2.length := by simp [cntC]
          rw [e, cntC_cons]; omega)
        clear hV hS hh9 hb9 HBX HRX HH HKR HOW HSX HSY y0 y1 y2
        simp only [putAll, Act.put, List.setIfInBounds_toArray, List.set_cons_zero, List.set_cons_succ]
        go_upto_region 15 with fail
        have HW9 := Lib.hid (((((Below.refl w.heap.size W).setCell (p := ⟨R, 0, none⟩) hRw (.int .i64 num)).setCell (p := ⟨R, 1, none⟩) hRw (.int .i64 wk)).setCell (p := ⟨R, 2, none⟩) hRw (.slice a9 n9 c9)))
        have HR9 := Lib.hid (heap3 HRX9.out (.int .i64 num) (.int .i64 wk) (.slice a9 n9 c9))
        have HH9 := Lib.hid (((HH9.out.set (p := ⟨R, 0, none⟩) hRM (.int .i64 num)).set (p := ⟨R, 1, none⟩) hRM (.int .i64 wk)).set (p := ⟨R, 2, none⟩) hRM (.slice a9 n9 c9))
        have HD9 := Lib.hid (HD9.out.bel HW9.out hpw)
        have HK9 := Lib.hid (HK9.out.bel HW9.out)
        have e0 := cell_of_row _ _ 0 _ _ _ HBX9.out
        have e1 := cell_of_row _ _ 1 _ _ _ HBX9.out
        have e2 := cell_of_row _ _ 2 _ _ _ HBX9.out
        have k0 := cell_of_row _ _ 0 _ _ _ HRX9.out
        have k1 := cell_of_row _ _ 1 _ _ _ HRX9.out
        have k2 := cell_of_row _ _ 2 _ _ _ HRX9.out
        simp at e0 e1 e2 k0 k1 k2
        have z0 := frozen_of_row _ _ 0 _ _ HRX9.out
        have z1 := frozen_of_row _ _ 1 _ _ HRX9.out
        have z2 := frozen_of_row _ _ 2 _ _ HRX9.out
        go_wp2_with fail
        generalize ((W.setCell ⟨R, 0, none⟩ (.int .i64 num)).setCell ⟨R, 1, none⟩ (.int .i64 wk)).setCell ⟨R, 2, none⟩ (.slice a9 n9 c9) = W10 at *
        clear k0 k1 k2 z0 z1 z2 e0 e1 e2
        have k0 := cell_of_row _ _ 0 _ _ _ HR9.out
        have k1 := cell_of_row _ _ 1 _ _ _ HR9.out
        have k2 := cell_of_row _ _ 2 _ _ _ HR9.out
        simp at k0 k1 k2
        refine bodyPost_ret (v := .agg #[.int .i64 num, .int .i64 wk, .slice a9 n9 c9]) (by simp [results, Tryz.results14, go_sem, k0, k1, k2]) rfl ?_
        exact ⟨_, _, (a9, n9, c9), (c0 :: cs ++ [c0]), rfl, HH9.out.base hMw, HVO9.out, HCN9.out, HD9.out, HK9.out⟩
  · cases cs with
    | nil =>
      have hs0 : sn = 0 := by rw [← hsn]; rfl
      subst hs0
      have e2 := cell_of_row _ _ 2 _ _ _ HBX.out
      simp only [List.getElem?_toArray, List.getElem?_cons_zero, List.getElem?_cons_succ] at e2
      go_upto_region 15 with fail
      clear e2
      have HBX9 := HBX
      have HRX9 := HRX
      have HH9 := HH
      have HD9 := HD
      have HK9 := HK
      have HVO9 := HVO
      have HCN9 := HCN
      have HW9 := Lib.hid (((((Below.refl w.heap.size w5).setCell (p := ⟨R, 0, none⟩) hRw (.int .i64 num)).setCell (p := ⟨R, 1, none⟩) hRw (.int .i64 wk)).setCell (p := ⟨R, 2, none⟩) hRw (.slice sa 0 sc)))
      have HR9 := Lib.hid (heap3 HRX9.out (.int .i64 num) (.int .i64 wk) (.slice sa 0 sc))
      have HH9 := Lib.hid (((HH9.out.set (p := ⟨R, 0, none⟩) hRM (.int .i64 num)).set (p := ⟨R, 1, none⟩) hRM (.int .i64 wk)).set (p := ⟨R, 2, none⟩) hRM (.slice sa 0 sc))
      have HD9 := Lib.hid (HD9.out.bel HW9.out hpw)
      have HK9 := Lib.hid (HK9.out.bel HW9.out)
      have e0 := cell_of_row _ _ 0 _ _ _ HBX9.out
      have e1 := cell_of_row _ _ 1 _ _ _ HBX9.out
      have e2 := cell_of_row _ _ 2 _ _ _ HBX9.out
      have k0 := cell_of_row _ _ 0 _ _ _ HRX9.out
      have k1 := cell_of_row _ _ 1 _ _ _ HRX9.out
      have k2 := cell_of_row _ _ 2 _ _ _ HRX9.out
      simp at e0 e1 e2 k0 k1 k2
      have z0 := frozen_of_row _ _ 0 _ _ HRX9.out
      have z1 := frozen_of_row _ _ 1 _ _ HRX9.out
      have z2 := frozen_of_row _ _ 2 _ _ HRX9.out
      go_wp2_with fail
      generalize ((w5.setCell ⟨R, 0, none⟩ (.int .i64 num)).setCell ⟨R, 1, none⟩ (.int .i64 wk)).setCell ⟨R, 2, none⟩ (.slice sa 0 sc) = W10 at *
      clear k0 k1 k2 z0 z1 z2 e0 e1 e2
      have k0 := cell_of_row _ _ 0 _ _ _ HR9.out
      have k1 := cell_of_row _ _ 1 _ _ _ HR9.out
      have k2 := cell_of_row _ _ 2 _ _ _ HR9.out
      simp at k0 k1 k2
      refine bodyPost_ret (v := .agg #[.int .i64 num, .int .i64 wk, .slice sa 0 sc]) (by simp [results, Tryz.results14, go_sem, k0, k1, k2]) rfl ?_
      exact ⟨_, _, (sa, 0, sc), [], rfl, HH9.out.base hMw, HVO9.out, HCN9.out, HD9.out, HK9.out⟩
    | cons c0 cs =>
      obtain ⟨g, cap, x, y, rs, cur, hsv, hgM, hhg, hkr, how, hrl, y0, y1, y2, z2, hsx, hsy⟩ := HH.out.open0
      obtain ⟨rfl, rfl, rfl⟩ : sa = some ⟨g, 0, none⟩ ∧ sn = cs.length + 1 ∧ sc = cap := by
        injection hsv with a b c
        exact ⟨a, b, c⟩
      have HKR := Lib.hid hkr
      have HOW := Lib.hid how
      have HSX := Lib.hid hsx
      have HSY := Lib.hid hsy
      have HHG := Lib.hid hhg
      have hps : (0 : Int) < (cs.length : Int) + 1 := by omega
      have hcok := (HVO.out c0 List.mem_cons_self).2.2
      have hc0l : c0.2.2.length ≤ 342 := by rw [cntC_cons] at hcn; omega
      clear hkr how hsx hsy hsv hhg z2
      have e2 := cell_of_row _ _ 2 _ _ _ HBX.out
      simp only [List.getElem?_toArray, List.getElem?_cons_zero, List.getElem?_cons_succ] at e2
      go_upto_region 14 with fail
      clear e2
      refine wp_region_rel (N := 79) (fV p B M g (cs.length + 1) sc c0 y cs) (fun L W => M ≤ W.heap.size ∧ DiceAt W p ∧ But p w W ∧ W.heap[R]? = some (.cells #[.int .i64 0, .int .i64 0, .slice none 0 0] 24 (0, 0)) ∧ W.heap[B]? = some (.cells #[.int .i64 num, .int .i64 wk, .slice (some ⟨g, 0, none⟩) (cs.length + 1) sc] 24 (0, 0)) ∧ (¬ L[11]? = some true → But p w5 W)) (by kernel_rfl) (by kernel_rfl) (by rfl) ⟨hM5, HD.out.below (bel_drew0 _), HK.out.trans (But.of_below (bel_drew0 _)), HRX.out, HBX.out, fun _ => But.of_below (bel_drew0 _)⟩ ?_ ?_
      · intro i o L a W ho hl hL hS hdf dep all fr
        match i, ho with
        | 0, ho =>
          obtain rfl := (Option.some.inj ho).symm
          have f8 := fr 4 (by kernel_rfl)
          unfold Oper.wp
          simp [go_sem, f8]
          exact ⟨_, rfl, rfl, ⟨hS.1, hS.2.1, hS.2.2.1, hS.2.2.2.1, hS.2.2.2.2.1, fun hn => hS.2.2.2.2.2 (not_more hn)⟩, fun j oj u _ _ _ _ hu => fV_keep (But.refl _ _) hpM hu⟩
        | 1, ho =>
          obtain rfl := (Option.some.inj ho).symm
          obtain ⟨_, v0, h0, d0⟩ := dep 0 _ rfl (by kernel_rfl)
          have d0 := d0 67 rfl
          obtain rfl : v0 = .pointer (some ⟨B, 2, none⟩) := h0
          have hc : W.cell? ⟨B, 2, none⟩ = some (.slice (some ⟨g, 0, none⟩) (cs.length + 1) sc) := by rw [cell_of_row _ _ 2 _ _ _ hS.2.2.2.2.1]; rfl
          unfold Oper.wp
          simp [go_sem, d0, hc]
          exact ⟨_, rfl, rfl, ⟨hS.1, hS.2.1, hS.2.2.1, hS.2.2.2.1, hS.2.2.2.2.1, fun hn => hS.2.2.2.2.2 (not_more hn)⟩, fun j oj u _ _ _ _ hu => fV_keep (But.refl _ _) hpM hu⟩
        | 2, ho =>
          obtain rfl := (Option.some.inj ho).symm
          have f8 := fr 0 (by kernel_rfl)
          unfold Oper.wp
          simp [go_sem, f8]
          exact ⟨_, rfl, rfl, ⟨hS.1, hS.2.1, hS.2.2.1, hS.2.2.2.1, hS.2.2.2.2.1, fun hn => hS.2.2.2.2.2 (not_more hn)⟩, fun j oj u _ _ _ _ hu => fV_keep (But.refl _ _) hpM hu⟩
        | 3, ho =>
          obtain rfl := (Option.some.inj ho).symm
          have f8 := fr 4 (by kernel_rfl)
          unfold Oper.wp
          simp [go_sem, f8]
          exact ⟨_, rfl, rfl, ⟨hS.1, hS.2.1, hS.2.2.1, hS.2.2.2.1, hS.2.2.2.2.1, fun hn => hS.2.2.2.2.2 (not_more hn)⟩, fun j oj u _ _ _ _ hu => fV_keep (But.refl _ _) hpM hu⟩
        | 4, ho =>
          obtain rfl := (Option.some.inj ho).symm
          obtain ⟨_, v3, h3, d3⟩ := dep 3 _ rfl (by kernel_rfl)
          have d3 := d3 70 rfl
          obtain rfl : v3 = .pointer (some ⟨B, 2, none⟩) := h3
          have hc : W.cell? ⟨B, 2, none⟩ = some (.slice (some ⟨g, 0, none⟩) (cs.length + 1) sc) := by rw [cell_of_row _ _ 2 _ _ _ hS.2.2.2.2.1]; rfl
          unfold Oper.wp
          simp [go_sem, d3, hc]
          exact ⟨_, rfl, rfl, ⟨hS.1, hS.2.1, hS.2.2.1, hS.2.2.2.1, hS.2.2.2.2.1, fun hn => hS.2.2.2.2.2 (not_more hn)⟩, fun j oj u _ _ _ _ hu => fV_keep (But.refl _ _) hpM hu⟩
        | 5, ho =>
          obtain rfl := (Option.some.inj ho).symm
          obtain ⟨_, v4, h4, d4⟩ := dep 4 _ rfl (by kernel_rfl)
          have d4 := d4 71 rfl
          obtain rfl : v4 = .slice (some ⟨g, 0, none⟩) (cs.length + 1) sc := h4
          have hpos : (0 : Int) < (cs.length : Int) + 1 := by omega
          unfold Oper.wp
          simp [go_sem, d4, hpos]
          exact ⟨_, rfl, rfl, ⟨hS.1, hS.2.1, hS.2.2.1, hS.2.2.2.1, hS.2.2.2.2.1, fun hn => hS.2.2.2.2.2 (not_more hn)⟩, fun j oj u _ _ _ _ hu => fV_keep (But.refl _ _) hpM hu⟩
        | 6, ho =>
          obtain rfl := (Option.some.inj ho).symm
          obtain ⟨_, v5, h5, d5⟩ := dep 5 _ rfl (by kernel_rfl)
          have d5 := d5 72 rfl
          obtain rfl : v5 = .pointer (some ⟨g, 0, none⟩) := h5
          unfold Oper.wp
          simp [go_sem, d5]
          exact ⟨_, rfl, rfl, ⟨hS.1, hS.2.1, hS.2.2.1, hS.2.2.2.1, hS.2.2.2.2.1, fun hn => hS.2.2.2.2.2 (not_more hn)⟩, fun j oj u _ _ _ _ hu => fV_keep (But.refl _ _) hpM hu⟩
        | 7, ho =>
          obtain rfl := (Option.some.inj ho).symm
          obtain ⟨_, v6, h6, d6⟩ := dep 6 _ rfl (by kernel_rfl)
          have d6 := d6 73 rfl
          obtain rfl : v6 = .pointer (some ⟨g, 2, none⟩) := h6
          have hn11 : ¬ L[11]? = some true := fun h => by
            obtain ⟨v, hv⟩ := all 11 _ rfl h
            have hv := hv.1.1
            rw [hl] at hv; cases hv
          have hc := but_cell (hS.2.2.2.2.2 hn11) (Nat.lt_of_lt_of_le hpM hgM) y2
          unfold Oper.wp
          simp [go_sem, d6, hc]
          exact ⟨_, rfl, rfl, ⟨hS.1, hS.2.1, hS.2.2.1, hS.2.2.2.1, hS.2.2.2.2.1, fun hn => hS.2.2.2.2.2 (not_more hn)⟩, fun j oj u _ _ _ _ hu => fV_keep (But.refl _ _) hpM hu⟩
        | 8, ho =>
          obtain rfl := (Option.some.inj ho).symm
          have h7l := (dep 7 _ rfl (by kernel_rfl)).1
          obtain ⟨_, v2, h2, d2⟩ := dep 2 _ rfl (by kernel_rfl)
          have d2 := d2 69 rfl
          obtain rfl : v2 = .pointer (some ⟨p, 0, none⟩) := h2
          obtain ⟨_, v7, h7, d7⟩ := dep 7 _ rfl (by kernel_rfl)
          have d7 := d7 74 rfl
          obtain rfl : v7 = .slice y.1 y.2.1 y.2.2 := h7
          have hn11 : ¬ L[11]? = some true := fun h => by
            obtain ⟨v, hv⟩ := all 11 _ rfl h
            have hv := hv.1.2
            rw [hl] at hv; cases hv
          have hrow : SRow W M (slV y) c0.2.2 := row_but HSY.out (hS.2.2.2.2.2 hn11) hpM
          have hyl : c0.2.2.length = y.2.1 := (sv_of hrow).2.1
          refine wp_call1 (args := #[.pointer (some ⟨p, 0, none⟩), .slice y.1 y.2.1 y.2.2]) rfl (by simp [Act.eval, d2, d7]) (ci48 _ _) (odd_ses_any p y.1 y.2.1 y.2.2 c0.2.2 W (sv_of hrow).2 hcok (by omega) hS.2.1) ?_
          rintro e w' ⟨v, zs, rfl, hr, hlz, hoz, hd, hb⟩
          obtain ⟨⟨s1, s2, s3⟩, hv, _⟩ := SRow.sv hr
          replace hv : v = .slice s1 s2 s3 := hv
          subst hv
          exact ⟨_, rfl, ⟨listed_more h7l, (s1, s2, s3), zs, rfl, ⟨hoz, by omega⟩, fun _ => row_base hr hS.1⟩, ⟨Nat.le_trans hS.1 hb.size, hd, hS.2.2.1.trans hb, but_heap hb hpR hS.2.2.2.1, but_heap hb hpB hS.2.2.2.2.1, fun hn => (hS.2.2.2.2.2 (not_more hn)).trans hb⟩, fun j oj u _ _ _ _ hu => fV_keep hb hpM hu⟩
        | 9, ho =>
          obtain rfl := (Option.some.inj ho).symm
          obtain ⟨_, v1, h1, d1⟩ := dep 1 _ rfl (by kernel_rfl)
          have d1 := d1 68 rfl
          obtain rfl : v1 = .slice (some ⟨g, 0, none⟩) (cs.length + 1) sc := h1
          have hpos : (0 : Int) < (cs.length : Int) + 1 := by omega
          unfold Oper.wp
          simp [go_sem, d1, hpos]
          exact ⟨_, rfl, rfl, ⟨hS.1, hS.2.1, hS.2.2.1, hS.2.2.2.1, hS.2.2.2.2.1, fun hn => hS.2.2.2.2.2 (not_more hn)⟩, fun j oj u _ _ _ _ hu => fV_keep (But.refl _ _) hpM hu⟩
        | 10, ho =>
          obtain rfl := (Option.some.inj ho).symm
          obtain ⟨_, v9, h9, d9⟩ := dep 9 _ rfl (by kernel_rfl)
          have d9 := d9 76 rfl
          obtain rfl : v9 = .pointer (some ⟨g, 0, none⟩) := h9
          unfold Oper.wp
          simp [go_sem, d9]
          exact ⟨_, rfl, rfl, ⟨hS.1, hS.2.1, hS.2.2.1, hS.2.2.2.1, hS.2.2.2.2.1, fun hn => hS.2.2.2.2.2 (not_more hn)⟩, fun j oj u _ _ _ _ hu => fV_keep (But.refl _ _) hpM hu⟩
        | 11, ho =>
          obtain rfl := (Option.some.inj ho).symm
          obtain ⟨_, v10, h10, d10⟩ := dep 10 _ rfl (by kernel_rfl)
          have d10 := d10 77 rfl
          obtain rfl : v10 = .pointer (some ⟨g, 2, none⟩) := h10
          obtain ⟨h8l, v8, ⟨h7l, ⟨s1, s2, s3⟩, zs, rfl, hz, hrz⟩, d8⟩ := dep 8 _ rfl (by kernel_rfl)
          have d8 := d8 75 rfl
          have hn11 : ¬ L[11]? = some true := by rw [hl]; simp
          have hbw := hS.2.2.2.2.2 hn11
          have hpg : p < g := Nat.lt_of_lt_of_le hpM hgM
          have c2 := but_cell hbw hpg y2
          have hhg := but_heap hbw hpg HHG.out
          have z2 : W.frozen? ⟨g, 2, none⟩ = false := frozen_of_row _ _ 2 _ _ hhg
          have hput := HRow.put0 (z := (s1, s2, s3)) rfl hhg (row_but HKR.out hbw hpM) (HOW.out.but hbw hpM) (hrz hn11)
          have hbs := (Below.refl M W).setCell (p := ⟨g, 2, none⟩) hgM (.slice s1 s2 s3)
          unfold Oper.wp
          simp [go_sem, d10, d8, c2, z2]
          exact ⟨.tuple #[], rfl, ⟨⟨listed_more h7l, listed_more h8l⟩, zs, hz, hput⟩, ⟨by rw [World.size_setCell]; exact hS.1, hS.2.1.bel hbs hpM, hS.2.2.1.bel (hbs.mono hMw), (hbs.block R hRM).trans hS.2.2.2.1, (hbs.block B hBM).trans hS.2.2.2.2.1, fun h => absurd (listed_now hl) h⟩, fun j oj u _ hne _ _ hu => fV_store hl hne hu⟩
      · intro vs W hS hV
        obtain ⟨_, zs, ⟨hzo, hzl⟩, hh9⟩ := hV 11 _ rfl
        have HBX9 := Lib.hid hS.2.2.2.2.1
        have HRX9 := Lib.hid hS.2.2.2.1
        have HH9 := Lib.hid hh9
        have HD9 := Lib.hid hS.2.1
        have HK9 := Lib.hid hS.2.2.1
        have HVO9 : Hid (VOk (num, wk, (c0.1, c0.2.1, zs) :: cs)) := Lib.hid (fun c hc => by
          rcases List.mem_cons.1 hc with hc | hc
          · rw [hc]
            have := HVO.out c0 List.mem_cons_self
            exact ⟨this.1, this.2.1, hzo⟩
          · exact HVO.out c (List.mem_cons_of_mem _ hc))
        have HCN9 : Hid (cntC ((c0.1, c0.2.1, zs) :: cs) ≤ 1000) := Lib.hid (by
          rw [cntC_cons] at hcn ⊢
          simp only
          omega)
        clear hV hS hh9 HBX HRX HH HKR HOW HSX HSY y0 y1 y2
        simp only [putAll, Act.put, List.setIfInBounds_toArray, List.set_cons_zero, List.set_cons_succ]
        go_upto_region 15 with fail
        have HW9 := Lib.hid (((((Below.refl w.heap.size W).setCell (p := ⟨R, 0, none⟩) hRw (.int .i64 num)).setCell (p := ⟨R, 1, none⟩) hRw (.int .i64 wk)).setCell (p := ⟨R, 2, none⟩) hRw (.slice (some ⟨g, 0, none⟩) (cs.length + 1) sc)))
        have HR9 := Lib.hid (heap3 HRX9.out (.int .i64 num) (.int .i64 wk) (.slice (some ⟨g, 0, none⟩) (cs.length + 1) sc))
        have HH9 := Lib.hid (((HH9.out.set (p := ⟨R, 0, none⟩) hRM (.int .i64 num)).set (p := ⟨R, 1, none⟩) hRM (.int .i64 wk)).set (p := ⟨R, 2, none⟩) hRM (.slice (some ⟨g, 0, none⟩) (cs.length + 1) sc))
        have HD9 := Lib.hid (HD9.out.bel HW9.out hpw)
        have HK9 := Lib.hid (HK9.out.bel HW9.out)
        have e0 := cell_of_row _ _ 0 _ _ _ HBX9.out
        have e1 := cell_of_row _ _ 1 _ _ _ HBX9.out
        have e2 := cell_of_row _ _ 2 _ _ _ HBX9.out
        have k0 := cell_of_row _ _ 0 _ _ _ HRX9.out
        have k1 := cell_of_row _ _ 1 _ _ _ HRX9.out
        have k2 := cell_of_row _ _ 2 _ _ _ HRX9.out
        simp at e0 e1 e2 k0 k1 k2
        have z0 := frozen_of_row _ _ 0 _ _ HRX9.out
        have z1 := frozen_of_row _ _ 1 _ _ HRX9.out
        have z2 := frozen_of_row _ _ 2 _ _ HRX9.out
        go_wp2_with fail
        generalize ((W.setCell ⟨R, 0, none⟩ (.int .i64 num)).setCell ⟨R, 1, none⟩ (.int .i64 wk)).setCell ⟨R, 2, none⟩ (.slice (some ⟨g, 0, none⟩) (cs.length + 1) sc) = W10 at *
        clear k0 k1 k2 z0 z1 z2 e0 e1 e2
        have k0 := cell_of_row _ _ 0 _ _ _ HR9.out
        have k1 := cell_of_row _ _ 1 _ _ _ HR9.out
        have k2 := cell_of_row _ _ 2 _ _ _ HR9.out
        simp at k0 k1 k2
        refine bodyPost_ret (v := .agg #[.int .i64 num, .int .i64 wk, .slice (some ⟨g, 0, none⟩) (cs.length + 1) sc]) (by simp [results, Tryz.results14, go_sem, k0, k1, k2]) rfl ?_
        exact ⟨_, _, (some ⟨g, 0, none⟩, cs.length + 1, sc), ((c0.1, c0.2.1, zs) :: cs), rfl, HH9.out.base hMw, HVO9.out, HCN9.out, HD9.out, HK9.out⟩
  · have q0 : ¬ rr = 0 := by omega
    have q1 : ¬ rr = 1 := by omega
    have q2 : ¬ rr = 2 := by omega
    have q3 : ¬ rr = 3 := by omega
    go_upto_region 15 with fail
    have HBX9 := HBX
    have HRX9 := HRX
    have HH9 := HH
    have HD9 := HD
    have HK9 := HK
    have HVO9 := HVO
    have HCN9 := HCN
    have HW9 := Lib.hid (((((Below.refl w.heap.size w5).setCell (p := ⟨R, 0, none⟩) hRw (.int .i64 num)).setCell (p := ⟨R, 1, none⟩) hRw (.int .i64 wk)).setCell (p := ⟨R, 2, none⟩) hRw (.slice sa sn sc)))
    have HR9 := Lib.hid (heap3 HRX9.out (.int .i64 num) (.int .i64 wk) (.slice sa sn sc))
    have HH9 := Lib.hid (((HH9.out.set (p := ⟨R, 0, none⟩) hRM (.int .i64 num)).set (p := ⟨R, 1, none⟩) hRM (.int .i64 wk)).set (p := ⟨R, 2, none⟩) hRM (.slice sa sn sc))
    have HD9 := Lib.hid (HD9.out.bel HW9.out hpw)
    have HK9 := Lib.hid (HK9.out.bel HW9.out)
    have e0 := cell_of_row _ _ 0 _ _ _ HBX9.out
    have e1 := cell_of_row _ _ 1 _ _ _ HBX9.out
    have e2 := cell_of_row _ _ 2 _ _ _ HBX9.out
    have k0 := cell_of_row _ _ 0 _ _ _ HRX9.out
    have k1 := cell_of_row _ _ 1 _ _ _ HRX9.out
    have k2 := cell_of_row _ _ 2 _ _ _ HRX9.out
    simp at e0 e1 e2 k0 k1 k2
    have z0 := frozen_of_row _ _ 0 _ _ HRX9.out
    have z1 := frozen_of_row _ _ 1 _ _ HRX9.out
    have z2 := frozen_of_row _ _ 2 _ _ HRX9.out
    go_wp2_with fail
    generalize ((w5.setCell ⟨R, 0, none⟩ (.int .i64 num)).setCell ⟨R, 1, none⟩ (.int .i64 wk)).setCell ⟨R, 2, none⟩ (.slice sa sn sc) = W10 at *
    clear k0 k1 k2 z0 z1 z2 e0 e1 e2
    have k0 := cell_of_row _ _ 0 _ _ _ HR9.out
    have k1 := cell_of_row _ _ 1 _ _ _ HR9.out
    have k2 := cell_of_row _ _ 2 _ _ _ HR9.out
    simp at k0 k1 k2
    refine bodyPost_ret (v := .agg #[.int .i64 num, .int .i64 wk, .slice sa sn sc]) (by simp [results, Tryz.results14, go_sem, k0, k1, k2]) rfl ?_
    exact ⟨_, _, (sa, sn, sc), cs, rfl, HH9.out.base hMw, HVO9.out, HCN9.out, HD9.out, HK9.out⟩
end Go.Proofs.YtihbpggbpapcfaaGreatDoor
