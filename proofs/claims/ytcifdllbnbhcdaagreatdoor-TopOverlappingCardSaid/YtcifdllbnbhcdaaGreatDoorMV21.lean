/- Texts V101, V102, joined: walks and laws. -/
import Derived.Test.YtcifdllbnbhcdaaGreatDoorMV20
set_option linter.unusedSimpArgs false
set_option linter.unusedVariables false
namespace Go.Proofs.YtcifdllbnbhcdaaGreatDoor
open Go.RowKit
theorem ci117 (args : Array Value) (w : World) : (callFunc 286 args).run Tryz.prog w = .ok (.enter 286 args) w := by
  kernel_rfl
theorem ci55 (args : Array Value) (w : World) : (callFunc 66 args).run Tryz.prog w = .ok (.enter 66 args) w := by
  kernel_rfl
theorem row_oth {w : World} {B0 : Nat} {e : TypeId} {k n : Nat} {v : Value} {xs : List Value} (h : w.ownsRow B0 e k v n xs) {w0 : World} {B : Nat} {vs : Array Value} {T : TypeId} (hx : BX w0 w B vs T) (hT : T ≠ e) (i : Nat) (u : Value) : (w.setCell ⟨B, i, none⟩ u).ownsRow B0 e k v n xs := by
  obtain ⟨h1, h2⟩ := id h
  refine ⟨h1, ?_⟩
  rcases h2 with h2 | ⟨g, cap, cur, h3, h4, h5, h6⟩
  · exact Or.inl h2
  · have hne : g ≠ B := by
      rintro rfl
      have := hx.hp
      rw [h5] at this
      simp only [Option.some.injEq, Obj.cells.injEq] at this
      exact hT this.2.1.symm
    exact Or.inr ⟨g, cap, cur, h3, h4, (heap_setCell_other _ _ _ _ hne).trans h5, h6⟩
theorem row_oth4 {w : World} {B0 : Nat} {e : TypeId} {k n : Nat} {v : Value} {xs : List Value} (h : w.ownsRow B0 e k v n xs) {w0 : World} {B : Nat} {v0 v1 v2 v3 : Value} {T : TypeId} (hx : BX w0 w B #[v0, v1, v2, v3] T) (hT : T ≠ e) (u0 u1 u2 u3 : Value) : ((((w.setCell ⟨B, 0, none⟩ u0).setCell ⟨B, 1, none⟩ u1).setCell ⟨B, 2, none⟩ u2).setCell ⟨B, 3, none⟩ u3).ownsRow B0 e k v n xs :=
  row_oth (row_oth (row_oth (row_oth h hx hT 0 u0) (hx.set 0 u0) hT 1 u1) ((hx.set 0 u0).set 1 u1) hT 2 u2) (((hx.set 0 u0).set 1 u1).set 2 u2) hT 3 u3
theorem BX.oth4 {w0 w : World} {R R2 : Nat} {vs : Array Value} {T : TypeId} (h : BX w0 w R vs T) (hne : R2 ≠ R) (hlo : w0.heap.size ≤ R2) (u0 u1 u2 u3 : Value) : BX w0 ((((w.setCell ⟨R2, 0, none⟩ u0).setCell ⟨R2, 1, none⟩ u1).setCell ⟨R2, 2, none⟩ u2).setCell ⟨R2, 3, none⟩ u3) R vs T :=
  (((h.oth hne hlo 0 u0).oth hne hlo 1 u1).oth hne hlo 2 u2).oth hne hlo 3 u3
theorem VRow.set4 {w : World} {B : Nat} {v : Value} {vs : List Ver} (h : VRow w B v vs) {R : Nat} (hp : R < B) (u0 u1 u2 u3 : Value) : VRow ((((w.setCell ⟨R, 0, none⟩ u0).setCell ⟨R, 1, none⟩ u1).setCell ⟨R, 2, none⟩ u2).setCell ⟨R, 3, none⟩ u3) B v vs :=
  (((h.set (p := ⟨R, 0, none⟩) hp u0).set (p := ⟨R, 1, none⟩) hp u1).set (p := ⟨R, 2, none⟩) hp u2).set (p := ⟨R, 3, none⟩) hp u3
def TwR (l : Lg) (w : World) (e : Ending) (w' : World) : Prop := ∃ v, e = .returned v ∧ LogO w' w.heap.size v l ∧ Below w.heap.size w w'
def DRw (M : Nat) (d : L8) (ss : List Ses) (A : Sl) (C : Sl) (W : World) : Prop := KRow bytC 1 5 W M (.slice A.1 A.2.1 A.2.2) d ∧ SRow W M (.slice C.1 C.2.1 C.2.2) ss
theorem DRw.below {M : Nat} {d : L8} {ss : List Ses} {A C : Sl} {W W' : World} (h : DRw M d ss A C W) (hb : Below W.heap.size W W') : DRw M d ss A C W' := ⟨row_below h.1 hb, row_below h.2 hb⟩
def tW (R : Nat) (d : Sl) (l2 : Int) (s : Sl) (bs : L8) (ss : List Ses) (wI : World) (L : Array Bool) (j : Nat) (v : Value) (W : World) : Prop := match j with
  | 0 | 1 | 4 => v = .pointer (some ⟨R, 0, none⟩)
  | 5 => v = .pointer (some ⟨R, 1, none⟩)
  | 8 => v = .pointer (some ⟨R, 3, none⟩)
  | 2 => v = .slice d.1 d.2.1 d.2.2
  | 6 => v = .int .i64 l2
  | 9 => v = .slice s.1 s.2.1 s.2.2
  | 3 => ∃ A n c, v = .slice A n c ∧ KRow bytC 1 5 W wI.heap.size (.slice A n c) bs
  | 10 => ∃ A n c, v = .slice A n c ∧ SRow W wI.heap.size (.slice A n c) ss
  | 7 => ∃ A n c, v = .agg #[.slice A n c, .int .i64 l2] ∧ KRow bytC 1 5 W wI.heap.size (.slice A n c) bs
  | 11 => ∃ A n c A' n' c', v = .agg #[.slice A n c, .int .i64 l2, .slice none 0 0, .slice A' n' c'] ∧ DRw wI.heap.size bs ss (A, n, c) (A', n', c') W
  | 12 => ∃ B v0 v1 v2 v3, v = .pointer (some ⟨B, 0, none⟩) ∧ BX wI W B #[v0, v1, v2, v3] 68 ∧ (L[13]? = some true → ∃ A n c A' n' c', v0 = .slice A n c ∧ v1 = .int .i64 l2 ∧ v2 = .slice none 0 0 ∧ v3 = .slice A' n' c' ∧ DRw wI.heap.size bs ss (A, n, c) (A', n', c') W)
  | 13 => L[12]? = some true
  | _ => True
section
variable {R : Nat} {d s : Sl} {l2 : Int} {bs : L8} {ss : List Ses} {wI : World} {L : Array Bool} {i j : Nat} {v : Value} {W W' : World}
theorem tW_keep (hb : Below W.heap.size W W') (hi : i ≠ 13) (h : tW R d l2 s bs ss wI L j v W) : tW R d l2 s bs ss wI (L.setIfInBounds i true) j v W' := by
  unfold tW at h ⊢
  split <;> simp only at h ⊢ <;> try exact h
  · obtain ⟨A, n, c, h1, h2⟩ := h
    exact ⟨A, n, c, h1, row_below h2 hb⟩
  · obtain ⟨A, n, c, h1, h2⟩ := h
    exact ⟨A, n, c, h1, row_below h2 hb⟩
  · obtain ⟨A, n, c, h1, h2⟩ := h
    exact ⟨A, n, c, h1, row_below h2 hb⟩
  · obtain ⟨A, n, c, A', n', c', h1, h2⟩ := h
    exact ⟨A, n, c, A', n', c', h1, h2.below hb⟩
  · obtain ⟨B, v0, v1, v2, v3, h1, h2, h3⟩ := h
    refine ⟨B, v0, v1, v2, v3, h1, h2.next hb, fun hl => ?_⟩
    rw [Array.getElem?_setIfInBounds_ne hi] at hl
    obtain ⟨A, n, c, A', n', c', e0, e1, e2, e3, h4⟩ := h3 hl
    exact ⟨A, n, c, A', n', c', e0, e1, e2, e3, h4.below hb⟩
  · exact listed_more h
theorem tW_store (hk1 : ∀ A n c, KRow bytC 1 5 W wI.heap.size (.slice A n c) bs → KRow bytC 1 5 W' wI.heap.size (.slice A n c) bs) (hk2 : ∀ A n c, SRow W wI.heap.size (.slice A n c) ss → SRow W' wI.heap.size (.slice A n c) ss) (hj : j ≠ 12) (h : tW R d l2 s bs ss wI L j v W) : tW R d l2 s bs ss wI (L.setIfInBounds i true) j v W' := by
  unfold tW at h ⊢
  split <;> simp only at h ⊢ <;> try exact h
  · obtain ⟨A, n, c, h1, h2⟩ := h
    exact ⟨A, n, c, h1, hk1 _ _ _ h2⟩
  · obtain ⟨A, n, c, h1, h2⟩ := h
    exact ⟨A, n, c, h1, hk2 _ _ _ h2⟩
  · obtain ⟨A, n, c, h1, h2⟩ := h
    exact ⟨A, n, c, h1, hk1 _ _ _ h2⟩
  · obtain ⟨A, n, c, A', n', c', h1, h2, h3⟩ := h
    exact ⟨A, n, c, A', n', c', h1, hk1 _ _ _ h2, hk2 _ _ _ h3⟩
  · exact absurd rfl hj
  · exact listed_more h
end
def wV (B M : Nat) (p q : Sl) (num wk : Int) (cs : List Chg) (vs : List Ver) (w0 : World) (b0 b1 b3 : Value) (L : Array Bool) (j : Nat) (v : Value) (W : World) : Prop := match j with
  | 0 | 6 => v = .pointer (some ⟨B, 2, none⟩)
  | 1 => v = .slice p.1 p.2.1 p.2.2
  | 2 => v = .agg #[.int .i64 num, .int .i64 wk, .slice q.1 q.2.1 q.2.2]
  | 3 => L[2]? = some true ∧ ∃ s' : Sl, v = .agg #[.int .i64 num, .int .i64 wk, .slice s'.1 s'.2.1 s'.2.2] ∧ (¬ L[5]? = some true → HRow W M (slV s') cs)
  | 4 => L[2]? = some true ∧ ∃ (G : Nat) (s' : Sl), v = .slice (some ⟨G, 0, none⟩) 1 1 ∧ (¬ L[5]? = some true → HRow W M (slV s') cs ∧ KAt rveC 3 W (some ⟨G, 0, none⟩) 1 [(num, wk, s')])
  | 5 => (L[1]? = some true ∧ L[2]? = some true) ∧ VRow W M v (vs ++ [(num, wk, cs)])
  | 7 => (L[1]? = some true ∧ L[2]? = some true ∧ L[5]? = some true) ∧ ∃ s' : Sl, VRow W M (.slice s'.1 s'.2.1 s'.2.2) (vs ++ [(num, wk, cs)]) ∧ BX w0 W B #[b0, b1, .slice s'.1 s'.2.1 s'.2.2, b3] 68
  | _ => True
section
variable {B M : Nat} {p q : Sl} {num wk : Int} {cs : List Chg} {vs : List Ver} {w0 : World} {b0 b1 b3 : Value} {L : Array Bool} {i j : Nat} {v : Value} {W W' : World}
theorem wV_keep (hb : Below W.heap.size W W') (hi : i ≠ 5) (h : wV B M p q num wk cs vs w0 b0 b1 b3 L j v W) : wV B M p q num wk cs vs w0 b0 b1 b3 (L.setIfInBounds i true) j v W' := by
  unfold wV at h ⊢
  split <;> simp only at h ⊢ <;> try exact h
  · obtain ⟨h0, s', h1, h2⟩ := h
    exact ⟨listed_more h0, s', h1, fun hn => (h2 (not_more hn)).below hb⟩
  · obtain ⟨h0, G, s', h1, h2⟩ := h
    exact ⟨listed_more h0, G, s', h1, fun hn => ⟨(h2 (not_more hn)).1.below hb, (h2 (not_more hn)).2.below hb⟩⟩
  · exact ⟨⟨listed_more h.1.1, listed_more h.1.2⟩, h.2.below hb⟩
  · obtain ⟨⟨h0, h1, h2⟩, s', h3, h4⟩ := h
    exact ⟨⟨listed_more h0, listed_more h1, listed_more h2⟩, s', h3.below hb, h4.next hb⟩
theorem wV_app (hl : L[5]? = some false) (hj : j ≠ 5) (h : wV B M p q num wk cs vs w0 b0 b1 b3 L j v W) : wV B M p q num wk cs vs w0 b0 b1 b3 (L.setIfInBounds 5 true) j v W' := by
  unfold wV at h ⊢
  split <;> simp only at h ⊢ <;> try exact h
  · obtain ⟨h0, s', h1, h2⟩ := h
    exact ⟨listed_more h0, s', h1, fun hn => absurd (listed_now hl) hn⟩
  · obtain ⟨h0, G, s', h1, h2⟩ := h
    exact ⟨listed_more h0, G, s', h1, fun hn => absurd (listed_now hl) hn⟩
  · exact absurd rfl hj
  · rw [hl] at h; cases h.1.2.2
theorem wV_store (h5 : L[5]? = some true) (hj : j ≠ 7) (hB : B < M) (u : Value) (h : wV B M p q num wk cs vs w0 b0 b1 b3 L j v W) : wV B M p q num wk cs vs w0 b0 b1 b3 (L.setIfInBounds 7 true) j v (W.setCell ⟨B, 2, none⟩ u) := by
  unfold wV at h ⊢
  split <;> simp only at h ⊢ <;> try exact h
  · obtain ⟨h0, s', h1, h2⟩ := h
    exact ⟨listed_more h0, s', h1, fun hn => absurd (listed_more h5) hn⟩
  · obtain ⟨h0, G, s', h1, h2⟩ := h
    exact ⟨listed_more h0, G, s', h1, fun hn => absurd (listed_more h5) hn⟩
  · exact ⟨⟨listed_more h.1.1, listed_more h.1.2⟩, h.2.set (p := ⟨B, 2, none⟩) hB u⟩
  · exact absurd rfl hj
end
def wS (B M R R2 : Nat) (p : Sl) (b0 b1 b3 : Value) (dA dC : Sl) (d : L8) (ss : List Ses) (M0 : Nat) (rv : Array Value) (w0 w5 : World) (L : Array Bool) (W : World) : Prop :=
  M ≤ W.heap.size ∧ DRw M0 d ss dA dC W ∧ BX w0 W R rv 68 ∧ BX w0 W R2 #[.slice none 0 0, .int .i64 0, .slice none 0 0, .slice none 0 0] 68 ∧ (¬ L[7]? = some true → BX w0 W B #[b0, b1, .slice p.1 p.2.1 p.2.2, b3] 68) ∧ (¬ L[5]? = some true → Below w5.heap.size w5 W)
theorem wS_keep {B M R R2 : Nat} {p : Sl} {b0 b1 b3 : Value} {dA dC : Sl} {d : L8} {ss : List Ses} {M0 : Nat} {rv : Array Value} {w0 w5 : World} {L : Array Bool} {i : Nat} {W W' : World} (hb : Below W.heap.size W W') (h : wS B M R R2 p b0 b1 b3 dA dC d ss M0 rv w0 w5 L W) : wS B M R R2 p b0 b1 b3 dA dC d ss M0 rv w0 w5 (L.setIfInBounds i true) W' :=
  ⟨Nat.le_trans h.1 hb.size, h.2.1.below hb, h.2.2.1.next hb, h.2.2.2.1.next hb, fun hn => (h.2.2.2.2.1 (not_more hn)).next hb, fun hn => below3 (h.2.2.2.2.2 (not_more hn)) hb⟩
set_option maxRecDepth 100000 in
set_option maxHeartbeats 16000000 in
theorem twin_any (va : Value) (l : Lg) (w : World) (ha : LogR w va l) (h1 : l.1.length ≤ 1048576) (h3 : l.2.2.1.length ≤ 1048576) (h4 : l.2.2.2.length ≤ 1000000) (hz : ∀ v ∈ l.2.2.1, v.2.2.length ≤ 1000000 ∧ ∀ c ∈ v.2.2, c.2.1.length * 64 ≤ 140737488355328 ∧ c.2.2.length * 64 ≤ 140737488355328) :
    Calls Tryz.prog 203 #[va] w (TwR l w) := by
  obtain ⟨⟨da, dn, dc⟩, ⟨va, vn, vc⟩, ⟨sa, sn, sc⟩, rfl, hd, hvv, hss⟩ := ha
  obtain ⟨l1, l2, l3, l4⟩ := l
  simp only at hd hvv hss h1 h3 h4 hz
  have hld : l1.length = dn := hd.2.1
  have hlv : l3.length = vn := hvv.2.len.1
  have hls : l4.length = sn := hss.2.1
  have HD := Lib.hid hd
  have HVV := Lib.hid hvv
  have HSS := Lib.hid hss
  have HZ := Lib.hid hz
  clear hd hvv hss hz
  show Calls _ _ #[.agg #[.slice da dn dc, .int .i64 l2, .slice va vn vc, .slice sa sn sc]] w _
  have HA := Lib.hid (BX.mk0 (vs := #[.slice da dn dc, .int .i64 l2, .slice va vn vc, .slice sa sn sc]) (T := 68) w)
  go_enter Tryz.func203, Tryz.ntmps203
  go_upto_region 1 with fail
  have hsa : (w.alloc (.cells #[.slice da dn dc, .int .i64 l2, .slice va vn vc, .slice sa sn sc] 68)).heap.size = w.heap.size + 1 := by simp
  generalize w.alloc (.cells #[.slice da dn dc, .int .i64 l2, .slice va vn vc, .slice sa sn sc] 68) = wa at *
  obtain ⟨R, hR⟩ : ∃ R, R = w.heap.size := ⟨_, rfl⟩
  rw [← hR] at HA hsa ⊢
  have hRw : w.heap.size ≤ R := by omega
  clear hR
  have HB := Lib.hid (BX.mk0 (vs := #[.slice none 0 0, .int .i64 0, .slice none 0 0, .slice none 0 0]) (T := 68) wa)
  rw [hsa] at HB
  clear hsa
  generalize wa.alloc (.cells #[.slice none 0 0, .int .i64 0, .slice none 0 0, .slice none 0 0] 68) = wI at *
  obtain ⟨R2, hR2⟩ : ∃ R2, R2 = R + 1 := ⟨_, rfl⟩
  rw [← hR2] at HB ⊢
  have hne : R2 ≠ R := by omega
  have hle : w.heap.size ≤ R2 := by omega
  clear hR2
  have HA := Lib.hid (HA.out.next HB.out.bl)
  have HB : Hid (BX w wI R2 _ _) := Lib.hid ⟨HB.out.hp, hle, HA.out.bl⟩
  obtain ⟨⟨g0, g1, g2, g3⟩, _⟩ := HA.out.four
  have hMw0 : w.heap.size ≤ wI.heap.size := HA.out.bl.size
  have hRI : R < wI.heap.size := HA.out.lt
  have hR2I : R2 < wI.heap.size := HB.out.lt
  refine wp_region_rel (N := 34) (tW R (da, dn, dc) l2 (sa, sn, sc) l1 l4 wI) (fun _ W => Below wI.heap.size wI W) (by kernel_rfl) (by kernel_rfl) (by rfl) (bel_drew0 _) ?_ ?_
  · intro i o L a W ho hl hL hS hdf dep all fr
    match i, ho with
    | 0, ho =>
      obtain rfl := (Option.some.inj ho).symm
      have f8 := fr 1 (by kernel_rfl)
      unfold Oper.wp
      simp [go_sem, f8]
      exact ⟨_, rfl, rfl, hS, fun j oj u _ _ _ _ hu => tW_keep (Below.refl _ _) (by decide) hu⟩
    | 1, ho =>
      obtain rfl := (Option.some.inj ho).symm
      obtain ⟨_, v0, h0, d0⟩ := dep 0 _ rfl (by kernel_rfl)
      have d0 := d0 6 rfl
      obtain rfl : v0 = .pointer (some ⟨R, 0, none⟩) := h0
      unfold Oper.wp
      simp [go_sem, d0]
      exact ⟨_, rfl, rfl, hS, fun j oj u _ _ _ _ hu => tW_keep (Below.refl _ _) (by decide) hu⟩
    | 2, ho =>
      obtain rfl := (Option.some.inj ho).symm
      obtain ⟨_, v1, h1, d1⟩ := dep 1 _ rfl (by kernel_rfl)
      have d1 := d1 7 rfl
      obtain rfl : v1 = .pointer (some ⟨R, 0, none⟩) := h1
      have hc := below_cell9 hS g0
      unfold Oper.wp
      simp [go_sem, d1, hc]
      exact ⟨_, rfl, rfl, hS, fun j oj u _ _ _ _ hu => tW_keep (Below.refl _ _) (by decide) hu⟩
    | 3, ho =>
      obtain rfl := (Option.some.inj ho).symm
      obtain ⟨_, v2, h2, d2⟩ := dep 2 _ rfl (by kernel_rfl)
      have d2 := d2 8 rfl
      obtain rfl : v2 = .slice da dn dc := h2
      refine wp_call1 (args := #[.slice da dn dc]) rfl (by simp [Act.eval, d2]) (ci55 _ _) (bclone_any da dn dc l1 W (HD.out.below (below3 HA.out.bl hS)) (by omega)) ?_
      rintro e w' ⟨⟨A, n9, c9⟩, rfl, hr, hb⟩
      exact ⟨_, rfl, ⟨A, n9, c9, rfl, row_base hr hS.size⟩, below3 hS hb, fun j oj u _ _ _ _ hu => tW_keep hb (by decide) hu⟩
    | 4, ho =>
      obtain rfl := (Option.some.inj ho).symm
      have f8 := fr 1 (by kernel_rfl)
      unfold Oper.wp
      simp [go_sem, f8]
      exact ⟨_, rfl, rfl, hS, fun j oj u _ _ _ _ hu => tW_keep (Below.refl _ _) (by decide) hu⟩
    | 5, ho =>
      obtain rfl := (Option.some.inj ho).symm
      obtain ⟨_, v4, h4, d4⟩ := dep 4 _ rfl (by kernel_rfl)
      have d4 := d4 10 rfl
      obtain rfl : v4 = .pointer (some ⟨R, 0, none⟩) := h4
      unfold Oper.wp
      simp [go_sem, d4]
      exact ⟨_, rfl, rfl, hS, fun j oj u _ _ _ _ hu => tW_keep (Below.refl _ _) (by decide) hu⟩
    | 6, ho =>
      obtain rfl := (Option.some.inj ho).symm
      obtain ⟨_, v5, h5, d5⟩ := dep 5 _ rfl (by kernel_rfl)
      have d5 := d5 11 rfl
      obtain rfl : v5 = .pointer (some ⟨R, 1, none⟩) := h5
      have hc := below_cell9 hS g1
      unfold Oper.wp
      simp [go_sem, d5, hc]
      exact ⟨_, rfl, rfl, hS, fun j oj u _ _ _ _ hu => tW_keep (Below.refl _ _) (by decide) hu⟩
    | 7, ho =>
      obtain rfl := (Option.some.inj ho).symm
      obtain ⟨_, v3, ⟨A, n9, c9, rfl, hr⟩, d3⟩ := dep 3 _ rfl (by kernel_rfl)
      have d3 := d3 9 rfl
      obtain ⟨_, v6, h6, d6⟩ := dep 6 _ rfl (by kernel_rfl)
      have d6 := d6 12 rfl
      obtain rfl : v6 = .int .i64 l2 := h6
      unfold Oper.wp
      simp [go_sem, d3, d6]
      exact ⟨_, rfl, ⟨A, n9, c9, rfl, hr⟩, hS, fun j oj u _ _ _ _ hu => tW_keep (Below.refl _ _) (by decide) hu⟩
    | 8, ho =>
      obtain rfl := (Option.some.inj ho).symm
      have f8 := fr 1 (by kernel_rfl)
      unfold Oper.wp
      simp [go_sem, f8]
      exact ⟨_, rfl, rfl, hS, fun j oj u _ _ _ _ hu => tW_keep (Below.refl _ _) (by decide) hu⟩
    | 9, ho =>
      obtain rfl := (Option.some.inj ho).symm
      obtain ⟨_, v8, h8, d8⟩ := dep 8 _ rfl (by kernel_rfl)
      have d8 := d8 14 rfl
      obtain rfl : v8 = .pointer (some ⟨R, 3, none⟩) := h8
      have hc := below_cell9 hS g3
      unfold Oper.wp
      simp [go_sem, d8, hc]
      exact ⟨_, rfl, rfl, hS, fun j oj u _ _ _ _ hu => tW_keep (Below.refl _ _) (by decide) hu⟩
    | 10, ho =>
      obtain rfl := (Option.some.inj ho).symm
      obtain ⟨_, v9, h9, d9⟩ := dep 9 _ rfl (by kernel_rfl)
      have d9 := d9 15 rfl
      obtain rfl : v9 = .slice sa sn sc := h9
      refine wp_call1 (args := #[.slice sa sn sc]) rfl (by simp [Act.eval, d9]) (ci80 _ _) (clone_any sa sn sc l4 W (HSS.out.2.below (below3 HA.out.bl hS)) (by omega)) ?_
      rintro e w' ⟨v, rfl, hr, hb⟩
      obtain ⟨⟨A, n9, c9⟩, hv, _⟩ := SRow.sv hr
      replace hv : v = .slice A n9 c9 := hv
      subst hv
      exact ⟨_, rfl, ⟨A, n9, c9, rfl, row_base hr hS.size⟩, below3 hS hb, fun j oj u _ _ _ _ hu => tW_keep hb (by decide) hu⟩
    | 11, ho =>
      obtain rfl := (Option.some.inj ho).symm
      obtain ⟨_, v7, ⟨A, n9, c9, rfl, hr⟩, d7⟩ := dep 7 _ rfl (by kernel_rfl)
      have d7 := d7 13 rfl
      obtain ⟨_, v10, ⟨A', n', c', rfl, hr'⟩, d10⟩ := dep 10 _ rfl (by kernel_rfl)
      have d10 := d10 16 rfl
      unfold Oper.wp
      simp [go_sem, d7, d10]
      exact ⟨_, rfl, ⟨A, n9, c9, A', n', c', rfl, hr, hr'⟩, hS, fun j oj u _ _ _ _ hu => tW_keep (Below.refl _ _) (by decide) hu⟩
    | 12, ho =>
      obtain rfl := (Option.some.inj ho).symm
      have h18 : ¬ L[13]? = some true := fun h => by
        obtain ⟨v, hv⟩ := all 13 _ rfl h
        have hv : L[12]? = some true := hv
        rw [hl] at hv; cases hv
      unfold Oper.wp
      simp [go_sem]
      exact ⟨_, rfl, ⟨W.heap.size, _, _, _, _, rfl, ⟨heap_alloc_new _ _, hS.size, hS.alloc hS.size _⟩, fun h => absurd h (listed_not h18 (by decide))⟩, hS.alloc hS.size _, fun j oj u _ _ _ _ hu => tW_keep ((Below.refl _ _).alloc (Nat.le_refl _) _) (by decide) hu⟩
    | 13, ho =>
      obtain rfl := (Option.some.inj ho).symm
      obtain ⟨_, v0, ⟨A, n9, c9, A', n', c', rfl, hdr⟩, d0⟩ := dep 11 _ rfl (by kernel_rfl)
      obtain ⟨h17, v1, ⟨B, x0, x1, x2, x3, rfl, hbx, _⟩, d1⟩ := dep 12 _ rfl (by kernel_rfl)
      have d0 := d0 17 rfl
      have d1 := d1 3 rfl
      obtain ⟨⟨e0, e1, e2, e3⟩, z0, z1, z2, z3⟩ := hbx.four
      have hb4 := hbx.set4 (.slice A n9 c9) (.int .i64 l2) (.slice none 0 0) (.slice A' n' c')
      unfold Oper.wp
      simp [go_sem, d0, d1, e0, e1, e2, e3, z0, z1, z2, z3]
      refine ⟨.tuple #[], rfl, listed_more h17, hb4.bl, fun j oj u hj hne hlj hsl hu => ?_⟩
      by_cases hj17 : j = 12
      · subst hj17
        obtain rfl := (Option.some.inj hj).symm
        have hu9 := hsl 3 rfl
        rw [d1] at hu9
        obtain rfl := (Option.some.inj hu9).symm
        exact ⟨B, _, _, _, _, rfl, hb4, fun _ => ⟨A, n9, c9, A', n', c', rfl, rfl, rfl, rfl, row_oth4 hdr.1 hbx (by decide) _ _ _ _, row_oth4 hdr.2 hbx (by decide) _ _ _ _⟩⟩
      · exact tW_store (fun _ _ _ h => row_oth4 h hbx (by decide) _ _ _ _) (fun _ _ _ h => row_oth4 h hbx (by decide) _ _ _ _) hj17 hu
  · intro vs W hS hV
    obtain ⟨B, v0, v1, v2, v3, hv12, hbx, hx⟩ := hV 12 _ rfl
    obtain ⟨dA, dN, dC, sA, sN, sC, rfl, rfl, rfl, rfl, hdr⟩ := hx rfl
    have HDR := Lib.hid hdr
    have HA := Lib.hid (HA.out.next hS)
    have HB := Lib.hid (HB.out.next hS)
    have HBX : Hid (BX w W B #[.slice dA dN dC, .int .i64 l2, .slice none 0 0, .slice sA sN sC] 68) := Lib.hid ⟨hbx.hp, Nat.le_trans hMw0 hbx.lo, HA.out.bl⟩
    have hBR : B ≠ R := by have := hbx.lo; omega
    have hBR2 : B ≠ R2 := by have := hbx.lo; omega
    obtain ⟨M, hM⟩ : ∃ M, M = W.heap.size := ⟨_, rfl⟩
    have hBM : B < M := by rw [hM]; exact hbx.lt
    have hRM : R < M := by rw [hM]; exact HA.out.lt
    have hR2M : R2 < M := by rw [hM]; exact HB.out.lt
    have hMw : w.heap.size ≤ M := by rw [hM]; exact HA.out.bl.size
    have HM0 := Lib.hid (Nat.le_of_eq hM)
    clear hM hx hV hbx hdr hS g0 g1 g2 g3
    simp only [putAll, Act.put, List.setIfInBounds_toArray, List.set_cons_zero, List.set_cons_succ]
    rw [hv12]
    clear hv12
    obtain ⟨⟨_, _, g2, _⟩, _⟩ := HA.out.four
    go_wp2_with fail
    go_loopw [21] (fun q wr => ∃ (j : Nat) (p : Sl), q = .int .i64 j ∧ j ≤ vn ∧ Hid (BX w wr R #[.slice da dn dc, .int .i64 l2, .slice va vn vc, .slice sa sn sc] 68) ∧ Hid (BX w wr R2 #[.slice none 0 0, .int .i64 0, .slice none 0 0, .slice none 0 0] 68) ∧ Hid (BX w wr B #[.slice dA dN dC, .int .i64 l2, .slice p.1 p.2.1 p.2.2, .slice sA sN sC] 68) ∧ Hid (DRw wI.heap.size l1 l4 (dA, dN, dC) (sA, sN, sC) wr) ∧ Hid (VRow wr M (slV p) (l3.take j)) ∧ Hid (M ≤ wr.heap.size)) (fun q _ => vn - (intOf q).toNat)
    case atStart => exact ⟨0, (none, 0, 0), rfl, Nat.zero_le _, HA, HB, HBX, HDR, Lib.hid (VRow.nil _ _), HM0⟩
    case round =>
      clear HA HB HBX HDR HM0 g2
      obtain ⟨j, ⟨pa, pn, pc⟩, rfl, hj, HA, HB, HBX, HDR, HVR, HM⟩ := hrel
      by_cases hlt : j < vn
      · have q1 : (j : Int) < vn := by omega
        have q2 : (0 : Int) ≤ j := by omega
        obtain ⟨b1, o1, x, ⟨qa, qn, qc⟩, rfl, gx, z1, x0, x1, x2, hq⟩ := VAt.cells (HVV.out.2.below HA.out.bl) hlt
        obtain ⟨_, _, x', ⟨qa', qn', qc'⟩, e1, gx', _, _, _, x2', hq'⟩ := VAt.cells HVV.out.2 hlt
        have hxx : x' = x := Option.some.inj (gx'.symm.trans gx)
        subst hxx
        have hqe : (qa', qn', qc') = (qa, qn, qc) := by
          cases e1
          have := below_cell9 HA.out.bl x2'
          rw [this] at x2
          simp only [Option.some.injEq, Value.slice.injEq] at x2
          exact Prod.ext x2.1 (Prod.ext x2.2.1 x2.2.2)
        rw [hqe] at hq'
        have HQ := Lib.hid hq'
        have HTK := Lib.hid (show l3.take (j + 1) = l3.take j ++ [x'] by rw [List.take_add_one, gx]; rfl)
        obtain ⟨hzx, hzz⟩ := HZ.out x' (List.mem_of_getElem? gx)
        have HZ9 := Lib.hid hzz
        obtain ⟨num, wk, cs⟩ := x'
        simp only at x0 x1 hzx hzz
        obtain ⟨vsl, hvsl⟩ : ∃ vsl, vsl = l3.take j := ⟨_, rfl⟩
        have hvl : vsl.length ≤ vn := by rw [hvsl, List.length_take]; omega
        rw [← hvsl] at HTK HVR
        clear hq hq' hqe gx gx' x2' hzz e1 hvsl
        have HC := Lib.hid (BX.mk0 (vs := #[.int .i64 num, .int .i64 wk, .slice qa qn qc]) (T := 157) wr)
        go_upto_region 5 with fail
        generalize wr.alloc (.cells #[.int .i64 num, .int .i64 wk, .slice qa qn qc] 157) = w5 at *
        obtain ⟨C, hC⟩ : ∃ C, C = wr.heap.size := ⟨_, rfl⟩
        rw [← hC] at HC ⊢
        clear hC x0 x1 x2 z1
        have hb5 := HC.out.bl
        have HA := Lib.hid (HA.out.next hb5)
        have HB := Lib.hid (HB.out.next hb5)
        have HBX := Lib.hid (HBX.out.next hb5)
        have HDR := Lib.hid (HDR.out.below hb5)
        have HVR : Hid (VRow w5 M (.slice pa pn pc) vsl) := Lib.hid (HVR.out.below hb5)
        have hM5 : M ≤ w5.heap.size := Nat.le_trans HM.out hb5.size
        obtain ⟨⟨k0, k1, k2⟩, _⟩ := HC.out.three
        clear hb5
        refine wp_region_rel (N := 34) (wV B M (pa, pn, pc) (qa, qn, qc) num wk cs vsl w (.slice dA dN dC) (.int .i64 l2) (.slice sA sN sC)) (wS B M R R2 (pa, pn, pc) (.slice dA dN dC) (.int .i64 l2) (.slice sA sN sC) (dA, dN, dC) (sA, sN, sC) l1 l4 wI.heap.size #[.slice da dn dc, .int .i64 l2, .slice (some ⟨b1, o1, none⟩) vn vc, .slice sa sn sc] w w5) (by kernel_rfl) (by kernel_rfl) (by rfl) ⟨hM5, HDR.out.below (bel_drew0 _), HA.out.next (bel_drew0 _), HB.out.next (bel_drew0 _), fun _ => HBX.out.next (bel_drew0 _), fun _ => bel_drew0 _⟩ ?_ ?_
        · intro i o L a W ho hl hL hS hdf dep all fr
          match i, ho with
          | 0, ho =>
            obtain rfl := (Option.some.inj ho).symm
            have f8 := fr 3 (by kernel_rfl)
            unfold Oper.wp
            simp [go_sem, f8]
            exact ⟨_, rfl, rfl, wS_keep (Below.refl _ _) hS, fun j oj u _ _ _ _ hu => wV_keep (Below.refl _ _) (by decide) hu⟩
          | 1, ho =>
            obtain rfl := (Option.some.inj ho).symm
            obtain ⟨_, v0, h0, d0⟩ := dep 0 _ rfl (by kernel_rfl)
            have d0 := d0 25 rfl
            obtain rfl : v0 = .pointer (some ⟨B, 2, none⟩) := h0
            have hn7 : ¬ L[7]? = some true := fun h => by
              obtain ⟨v, hv⟩ := all 7 _ rfl h
              have hv := hv.1.1
              rw [hl] at hv; cases hv
            have hc := (hS.2.2.2.2.1 hn7).four.1.2.2.1
            unfold Oper.wp
            simp [go_sem, d0, hc]
            exact ⟨_, rfl, rfl, wS_keep (Below.refl _ _) hS, fun j oj u _ _ _ _ hu => wV_keep (Below.refl _ _) (by decide) hu⟩
          | 2, ho =>
            obtain rfl := (Option.some.inj ho).symm
            have hn5 : ¬ L[5]? = some true := fun h => by
              obtain ⟨v, hv⟩ := all 5 _ rfl h
              have hv := hv.1.2
              rw [hl] at hv; cases hv
            have f8 := fr 5 (by kernel_rfl)
            have hc0 := below_cell9 (hS.2.2.2.2.2 hn5) k0
            have hc1 := below_cell9 (hS.2.2.2.2.2 hn5) k1
            have hc2 := below_cell9 (hS.2.2.2.2.2 hn5) k2
            unfold Oper.wp
            simp [go_sem, f8, hc0, hc1, hc2]
            exact ⟨_, rfl, rfl, wS_keep (Below.refl _ _) hS, fun j oj u _ _ _ _ hu => wV_keep (Below.refl _ _) (by decide) hu⟩
          | 3, ho =>
            obtain rfl := (Option.some.inj ho).symm
            have h2l := (dep 2 _ rfl (by kernel_rfl)).1
            obtain ⟨_, v2, h2, d2⟩ := dep 2 _ rfl (by kernel_rfl)
            have d2 := d2 27 rfl
            obtain rfl : v2 = .agg #[.int .i64 num, .int .i64 wk, .slice qa qn qc] := h2
            refine wp_call1 (args := #[verV num wk (qa, qn, qc)]) rfl (by simp [Act.eval, d2]) (ci117 _ _) (copied_any num wk (qa, qn, qc) cs W (HQ.out.below hS.2.2.1.bl) (by omega) HZ9.out) ?_
            rintro e w' ⟨s', rfl, hr, hb⟩
            exact ⟨_, rfl, ⟨listed_more h2l, s', rfl, fun _ => hr.base hS.1⟩, wS_keep hb hS, fun j oj u _ _ _ _ hu => wV_keep hb (by decide) hu⟩
          | 4, ho =>
            obtain rfl := (Option.some.inj ho).symm
            obtain ⟨_, v3, ⟨h2l, s', rfl, hh⟩, d3⟩ := dep 3 _ rfl (by kernel_rfl)
            have d3 := d3 28 rfl
            unfold Oper.wp
            simp [go_sem, d3]
            exact ⟨_, rfl, ⟨listed_more h2l, W.heap.size, s', rfl, fun hn => ⟨(hh (not_more hn)).below ((Below.refl _ _).alloc (Nat.le_refl _) _), KAt.one W ((num, wk, s') : RVer) _⟩⟩, wS_keep ((Below.refl _ _).alloc (Nat.le_refl _) _) hS, fun j oj u _ _ _ _ hu => wV_keep ((Below.refl _ _).alloc (Nat.le_refl _) _) (by decide) hu⟩
          | 5, ho =>
            obtain rfl := (Option.some.inj ho).symm
            have h1l := (dep 1 _ rfl (by kernel_rfl)).1
            obtain ⟨_, v1, h1, d1⟩ := dep 1 _ rfl (by kernel_rfl)
            have d1 := d1 26 rfl
            obtain rfl : v1 = .slice pa pn pc := h1
            obtain ⟨_, v4, ⟨h2l, G, s', rfl, hh⟩, d4⟩ := dep 4 _ rfl (by kernel_rfl)
            have d4 := d4 29 rfl
            have hn5 : ¬ L[5]? = some true := by rw [hl]; simp
            have hn7 : ¬ L[7]? = some true := fun h => by
              obtain ⟨v, hv⟩ := all 7 _ rfl h
              exact hn5 hv.1.2.2
            obtain ⟨hhr, hka⟩ := hh hn5
            obtain ⟨rs, hkr, hvo⟩ := HVR.out.below (hS.2.2.2.2.2 hn5)
            have hrl : rs.length = vsl.length := hvo.1
            refine wp_app elemVer encVer (.tmp 26) (.tmp 29) rfl M (.slice pa pn pc) rs (by simp [Act.eval, d1]) hkr (some ⟨G, 0, none⟩) 1 1 [(num, wk, s')] (by simp [Act.eval, d4]) hka (by simp; omega) hS.1 ?_
            intro v' w' hr' hb' hg' _
            exact ⟨v', rfl, ⟨⟨listed_more h1l, listed_more h2l⟩, _, hr', (hvo.kept hkr hg').snoc ⟨rfl, rfl, hhr.keptV hkr hg'⟩⟩, ⟨Nat.le_trans hS.1 hb'.size, ⟨row_kept hS.2.1.1 hkr (by decide) hg', row_kept hS.2.1.2 hkr (by decide) hg'⟩, hS.2.2.1.bel hb' hRM hMw, hS.2.2.2.1.bel hb' hR2M hMw, fun hn => (hS.2.2.2.2.1 (not_more hn)).bel hb' hBM hMw, fun h => absurd (listed_now hl) h⟩, fun j oj u _ hne _ _ hu => wV_app hl hne hu⟩
          | 6, ho =>
            obtain rfl := (Option.some.inj ho).symm
            have f8 := fr 3 (by kernel_rfl)
            unfold Oper.wp
            simp [go_sem, f8]
            exact ⟨_, rfl, rfl, wS_keep (Below.refl _ _) hS, fun j oj u _ _ _ _ hu => wV_keep (Below.refl _ _) (by decide) hu⟩
          | 7, ho =>
            obtain rfl := (Option.some.inj ho).symm
            obtain ⟨_, v6, h6, d6⟩ := dep 6 _ rfl (by kernel_rfl)
            have d6 := d6 31 rfl
            obtain rfl : v6 = .pointer (some ⟨B, 2, none⟩) := h6
            obtain ⟨h5l, v5, ⟨⟨h1l, h2l⟩, hv5⟩, d5⟩ := dep 5 _ rfl (by kernel_rfl)
            have d5 := d5 30 rfl
            obtain ⟨⟨s1, s2, s3⟩, e5, _⟩ := hv5.vv
            replace e5 : v5 = .slice s1 s2 s3 := e5
            subst e5
            have hn7 : ¬ L[7]? = some true := by rw [hl]; simp
            have hbx := hS.2.2.2.2.1 hn7
            obtain ⟨⟨_, _, c2, _⟩, _, _, z2, _⟩ := hbx.four
            have hset := hbx.set 2 (.slice s1 s2 s3)
            unfold Oper.wp
            simp [go_sem, d6, d5, c2, z2]
            exact ⟨.tuple #[], rfl, ⟨⟨listed_more h1l, listed_more h2l, listed_more h5l⟩, (s1, s2, s3), hv5.set (p := ⟨B, 2, none⟩) hBM _, hset⟩, ⟨by rw [World.size_setCell]; exact hS.1, ⟨row_oth hS.2.1.1 hbx (by decide) 2 _, row_oth hS.2.1.2 hbx (by decide) 2 _⟩, hS.2.2.1.oth hBR hbx.lo 2 _, hS.2.2.2.1.oth hBR2 hbx.lo 2 _, fun h => absurd (listed_now hl) h, fun h => absurd (listed_more h5l) h⟩, fun j oj u _ hne _ _ hu => wV_store h5l hne hBM _ hu⟩
        · intro us W hS hV
          obtain ⟨_, ⟨s1, s2, s3⟩, hvr, hbx⟩ := hV 7 _ rfl
          have HA9 := Lib.hid hS.2.2.1
          have HB9 := Lib.hid hS.2.2.2.1
          have HD9 := Lib.hid hS.2.1
          have HM9 := Lib.hid hS.1
          have HX9 := Lib.hid hbx
          have HV9 : Hid (VRow W M (slV (s1, s2, s3)) (l3.take (j + 1))) := Lib.hid (by rw [HTK.out]; exact hvr)
          clear hV hS hvr hbx k0 k1 k2
          simp only [putAll, Act.put, List.setIfInBounds_toArray, List.set_cons_zero, List.set_cons_succ]
          go_wp2_with fail
          go_roundw
          case rel => exact ⟨j + 1, (s1, s2, s3), by go_num, by omega, HA9, HB9, HX9, HD9, HV9, HM9⟩
          case measure => simp [intOf]; omega
      · obtain rfl : vn = j := by omega
        have HVR := Lib.hid (by have h := HVR.out; rw [List.take_of_length_le (by omega)] at h; exact h)
        obtain ⟨⟨a0, a1, a2, a3⟩, _⟩ := HBX.out.four
        obtain ⟨⟨k0, k1, k2, k3⟩, z0, z1, z2, z3⟩ := HB.out.four
        have HB9 := Lib.hid (HB.out.set4 (.slice dA dN dC) (.int .i64 l2) (.slice pa pn pc) (.slice sA sN sC))
        have HD9 : Hid (DRw _ l1 l4 (dA, dN, dC) (sA, sN, sC) _) := Lib.hid ⟨row_oth4 HDR.out.1 HB.out (by decide) (.slice dA dN dC) (.int .i64 l2) (.slice pa pn pc) (.slice sA sN sC), row_oth4 HDR.out.2 HB.out (by decide) (.slice dA dN dC) (.int .i64 l2) (.slice pa pn pc) (.slice sA sN sC)⟩
        have HV9 := Lib.hid (HVR.out.set4 hR2M (.slice dA dN dC) (.int .i64 l2) (.slice pa pn pc) (.slice sA sN sC))
        go_wp2_with fail
        generalize (((World.setCell wr ⟨R2, 0, none⟩ (.slice dA dN dC)).setCell ⟨R2, 1, none⟩ (.int .i64 l2)).setCell ⟨R2, 2, none⟩ (.slice pa pn pc)).setCell ⟨R2, 3, none⟩ (.slice sA sN sC) = W9 at *
        clear k0 k1 k2 k3 z0 z1 z2 z3
        obtain ⟨⟨k0, k1, k2, k3⟩, _⟩ := HB9.out.four
        refine bodyPost_ret (v := .agg #[.slice dA dN dC, .int .i64 l2, .slice pa pn pc, .slice sA sN sC]) (by simp [results, Tryz.results203, go_sem, k0, k1, k2, k3]) rfl ?_
        exact ⟨_, rfl, ⟨(dA, dN, dC), (pa, pn, pc), (sA, sN, sC), rfl, row_base HD9.out.1 hMw0, HV9.out.base hMw, row_base HD9.out.2 hMw0⟩, HB9.out.bl⟩
end Go.Proofs.YtcifdllbnbhcdaaGreatDoor
namespace Go.Proofs.YtcifdllbnbhcdaaGreatDoor
open Go.RowKit
theorem opnF_len {n : Int} : ∀ (k : Nat) (b : L8) (vs : List Ver) (ss : List Ses), ss.length ≤ 96 → (opnF n k b vs ss).2.1.length ≤ 96
  | 0, _, _, _, h => h
  | k + 1, b, vs, ss, h => by
    unfold opnF
    split
    · exact h
    · split
      · exact h
      · next hf => exact opnF_len k _ _ _ (vld_parts (fol_app hf)).2.1
theorem vld_small {n : Int} {l : Lg} (h : vldL n l = true) : l.1.length ≤ 1048576 ∧ l.2.2.1.length ≤ 1048576 ∧ l.2.2.2.length ≤ 96 ∧ ∀ v ∈ l.2.2.1, v.2.2.length ≤ 1000000 ∧ ∀ c ∈ v.2.2, c.2.1.length * 64 ≤ 140737488355328 ∧ c.2.2.length * 64 ≤ 140737488355328 := by
  obtain ⟨_, h1, _, h2, _, h3⟩ := vld_log h
  refine ⟨h1, by omega, ?_, fun v hv => ?_⟩
  · unfold vldL at h
    simp only [Bool.and_eq_true, decide_eq_true_eq] at h
    rw [← h.2]
    unfold opnS
    split
    · simp [lgZ]
    · split
      · simp [lgZ]
      · exact opnF_len _ _ _ _ (by simp)
  · obtain ⟨hf, he⟩ := h2 v hv
    obtain ⟨_, _, hc⟩ := frm_parts hf
    refine ⟨(enc_cnt he).1, fun c hm => ?_⟩
    obtain ⟨_, ⟨_, a⟩, _, b⟩ := chgOk_parts (hc c hm)
    have := (vld_parts a).2.1
    have := (vld_parts b).2.1
    omega
theorem HRow.oth {w w0 : World} {B0 B : Nat} {v : Value} {cs : List Chg} {vs : Array Value} {T : TypeId} (h : HRow w B0 v cs) (hx : BX w0 w B vs T) (h1 : T ≠ 161) (h2 : T ≠ 43) (i : Nat) (u : Value) : HRow (w.setCell ⟨B, i, none⟩ u) B0 v cs := by
  obtain ⟨rs, h3, h4⟩ := h
  exact ⟨rs, row_oth h3 hx h1 i u, h4.imp fun _ _ hr => ⟨hr.1, row_oth hr.2.1 hx h2 i u, row_oth hr.2.2 hx h2 i u⟩⟩
theorem VRow.oth {w w0 : World} {B0 B : Nat} {v : Value} {cs : List Ver} {vs : Array Value} {T : TypeId} (h : VRow w B0 v cs) (hx : BX w0 w B vs T) (h0 : T ≠ 157) (h1 : T ≠ 161) (h2 : T ≠ 43) (i : Nat) (u : Value) : VRow (w.setCell ⟨B, i, none⟩ u) B0 v cs := by
  obtain ⟨rs, h3, h4⟩ := h
  exact ⟨rs, row_oth h3 hx h0 i u, h4.imp fun _ _ hr => ⟨hr.1, hr.2.1, hr.2.2.oth hx h1 h2 i u⟩⟩
theorem VRow.oth4 {w w0 : World} {B0 B : Nat} {v : Value} {cs : List Ver} {v0 v1 v2 v3 : Value} {T : TypeId} (h : VRow w B0 v cs) (hx : BX w0 w B #[v0, v1, v2, v3] T) (h0 : T ≠ 157) (h1 : T ≠ 161) (h2 : T ≠ 43) (u0 u1 u2 u3 : Value) : VRow ((((w.setCell ⟨B, 0, none⟩ u0).setCell ⟨B, 1, none⟩ u1).setCell ⟨B, 2, none⟩ u2).setCell ⟨B, 3, none⟩ u3) B0 v cs :=
  (((h.oth hx h0 h1 h2 0 u0).oth (hx.set 0 u0) h0 h1 h2 1 u1).oth ((hx.set 0 u0).set 1 u1) h0 h1 h2 2 u2).oth (((hx.set 0 u0).set 1 u1).set 2 u2) h0 h1 h2 3 u3
def ResO (r : Int × Lg) (w : World) (e : Ending) (w' : World) : Prop := ∃ v, e = .returned (.tuple #[v, .int .i64 r.1]) ∧ LogO w' w.heap.size v r.2 ∧ Below w.heap.size w w'
end Go.Proofs.YtcifdllbnbhcdaaGreatDoor
