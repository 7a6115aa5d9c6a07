/- Texts V97, joined: walks and laws. -/
import Derived.Test.YtcifdllbnbhcdaaGreatDoorMV15
set_option linter.unusedSimpArgs false
set_option linter.unusedVariables false
namespace Go.Proofs.YtcifdllbnbhcdaaGreatDoor
open Go.RowKit
theorem ci98 (args : Array Value) (w : World) : (callFunc 358 args).run Tryz.prog w = .ok (.enter 358 args) w := by
  kernel_rfl
theorem BX.keepB {w0 w w' : World} {R b : Nat} {vs : Array Value} {T : TypeId} (h : BX w0 w R vs T) (hk : Keep b w w') (hne : R ≠ b) (hb : Below w0.heap.size w0 w') : BX w0 w' R vs T := ⟨by rw [hk.2 R (lt_of_heap h.hp) hne]; exact h.hp, h.lo, hb⟩
theorem keep_cell {b : Nat} {w w' : World} (h : Keep b w w') {g o : Nat} {v : Value} (hc : w.cell? ⟨g, o, none⟩ = some v) (hne : g ≠ b) : w'.cell? ⟨g, o, none⟩ = some v := by
  rw [World.cell?_of_block (w := w) (a := ⟨g, o, none⟩) (h.2 g (lt_of_cell hc) hne)]; exact hc
theorem HOwn.keepB {w w' : World} {b B : Nat} {rs : List RChg} {cs : List Chg} (h : HOwn w B rs cs) (hk : Keep b w w') (hb : b < B) : HOwn w' B rs cs := h.imp fun _ _ hr => ⟨hr.1, hk.row hr.2.1 hb, hk.row hr.2.2 hb⟩
theorem HRow.keepB {w w' : World} {b B : Nat} {v : Value} {cs : List Chg} (h : HRow w B v cs) (hk : Keep b w w') (hb : b < B) : HRow w' B v cs := by
  obtain ⟨rs, h1, h2⟩ := h
  exact ⟨rs, hk.row h1 hb, h2.keepB hk hb⟩
theorem BX.three {w0 w : World} {R : Nat} {v0 v1 v2 : Value} {T : TypeId} (h : BX w0 w R #[v0, v1, v2] T) : (w.cell? ⟨R, 0, none⟩ = some v0 ∧ w.cell? ⟨R, 1, none⟩ = some v1 ∧ w.cell? ⟨R, 2, none⟩ = some v2) ∧ w.frozen? ⟨R, 0, none⟩ = false ∧ w.frozen? ⟨R, 1, none⟩ = false ∧ w.frozen? ⟨R, 2, none⟩ = false :=
  ⟨⟨h.cell 0, h.cell 1, h.cell 2⟩, h.fz 0, h.fz 1, h.fz 2⟩
theorem BX.set3 {w0 w : World} {R : Nat} {v0 v1 v2 : Value} {T : TypeId} (h : BX w0 w R #[v0, v1, v2] T) (u0 u1 u2 : Value) : BX w0 (((w.setCell ⟨R, 0, none⟩ u0).setCell ⟨R, 1, none⟩ u1).setCell ⟨R, 2, none⟩ u2) R #[u0, u1, u2] T := ((h.set 0 u0).set 1 u1).set 2 u2
def VrR (r : Option (Ver × L8)) (w0 : World) (b : Nat) (w : World) (e : Ending) (w' : World) : Prop :=
  (match r with
   | none => e = .panicked badP
   | some (v, t) => ∃ s : Sl, e = .returned (verV v.1 v.2.1 s) ∧ HRow w' w.heap.size (slV s) v.2.2 ∧ RdB w0 w' b t) ∧ Below w0.heap.size w0 w' ∧ Keep b w w'
theorem VrR.bad {r : Option (Ver × L8)} {w0 w w' : World} {b : Nat} (h : r = none) (hb : Below w0.heap.size w0 w') (hk : Keep b w w') : VrR r w0 b w (.panicked badP) w' := by subst h; exact ⟨rfl, hb, hk⟩
theorem VrR.ok {r : Option (Ver × L8)} {w0 w w' : World} {b : Nat} {x y : Int} {cs : List Chg} {t : L8} {s : Sl} (h : r = some ((x, y, cs), t)) (hr : HRow w' w.heap.size (slV s) cs) (hd : RdB w0 w' b t) (hk : Keep b w w') : VrR r w0 b w (.returned (verV x y s)) w' := by
  subst h; exact ⟨⟨s, rfl, hr, hd⟩, hd.bl, hk⟩
def nV (g o c : Nat) (a0 a1 : L8) (y0 y1 : Int) (w1 : World) (L : Array Bool) (j : Nat) (v : Value) (W : World) : Prop := match j with
  | 0 | 4 => v = .slice (some ⟨g, o, none⟩) 3 c
  | 1 => v = .pointer (some ⟨g, o, none⟩)
  | 5 => v = .pointer (some ⟨g, o + 1, none⟩)
  | 2 => v = .string (arr a0)
  | 6 => v = .string (arr a1)
  | 3 => nuP a0 = some y0 ∧ v = .int .i64 y0
  | 7 => nuP a1 = some y1 ∧ v = .int .i64 y1
  | 8 => v = .agg #[.int .i64 y0, .int .i64 y1, .slice none 0 0]
  | 9 => ∃ B v0 v1 v2, v = .pointer (some ⟨B, 0, none⟩) ∧ BX w1 W B #[v0, v1, v2] 157 ∧ (L[10]? = some true → v0 = .int .i64 y0 ∧ v1 = .int .i64 y1 ∧ v2 = .slice none 0 0)
  | 10 => L[9]? = some true
  | _ => True
theorem nV_keep {g o c : Nat} {a0 a1 : L8} {y0 y1 : Int} {w1 : World} {L : Array Bool} {i j : Nat} {v : Value} {W W' : World} (hb : Below W.heap.size W W') (hi : i ≠ 10) (h : nV g o c a0 a1 y0 y1 w1 L j v W) : nV g o c a0 a1 y0 y1 w1 (L.setIfInBounds i true) j v W' := by
  unfold nV at h ⊢
  split <;> simp only at h ⊢ <;> try exact h
  · obtain ⟨B, v0, v1, v2, h1, h2, h3⟩ := h
    refine ⟨B, v0, v1, v2, h1, h2.next hb, fun hl => h3 ?_⟩
    rw [Array.getElem?_setIfInBounds_ne hi] at hl
    exact hl
  · exact listed_more h
theorem nV_store {g o c : Nat} {a0 a1 : L8} {y0 y1 : Int} {w1 : World} {L : Array Bool} {i j : Nat} {v : Value} {W W' : World} (hj : j ≠ 9) (h : nV g o c a0 a1 y0 y1 w1 L j v W) : nV g o c a0 a1 y0 y1 w1 (L.setIfInBounds i true) j v W' := by
  unfold nV at h ⊢
  split <;> simp only at h ⊢ <;> try exact h
  · exact absurd rfl hj
  · exact listed_more h
def sV (b g o c k : Nat) (a0 ak : L8) (y : Int) (t : L8) (w0 w1 : World) (L : Array Bool) (j : Nat) (v : Value) (W : World) : Prop := match j with
  | 0 => v = .pointer (some ⟨b, 0, none⟩)
  | 1 | 4 => v = .slice (some ⟨g, o, none⟩) 3 c
  | 2 => v = .pointer (some ⟨g, o, none⟩)
  | 3 => v = .string (arr a0)
  | 5 => v = .pointer (some ⟨g, o + k, none⟩)
  | 6 => v = .string (arr ak)
  | 7 => nuP ak = some y ∧ v = .int .i64 y
  | 8 => ∃ xs t', sesP nuP a0 y t = some (xs, t') ∧ SRow W w1.heap.size v xs ∧ RdB w0 W b t'
  | 9 => (∃ xs t', sesP nuP a0 y t = some (xs, t') ∧ SRow W w1.heap.size v xs ∧ RdB w0 W b t') ∧ L[8]? = some true
  | _ => True
theorem sV_keep {b g o c k : Nat} {a0 ak : L8} {y : Int} {t : L8} {w0 w1 : World} {L : Array Bool} {i j : Nat} {v : Value} {W W' : World} (hb : Below W.heap.size W W') (hi : i ≠ 8) (h : sV b g o c k a0 ak y t w0 w1 L j v W) : sV b g o c k a0 ak y t w0 w1 (L.setIfInBounds i true) j v W' := by
  unfold sV at h ⊢
  split <;> simp only at h ⊢ <;> try exact h
  · obtain ⟨xs, t', h1, h2, h3⟩ := h
    exact ⟨xs, t', h1, row_below h2 hb, h3.next hb⟩
  · obtain ⟨⟨xs, t', h1, h2, h3⟩, h4⟩ := h
    exact ⟨⟨xs, t', h1, row_below h2 hb, h3.next hb⟩, listed_more h4⟩
theorem sV_call {b g o c k : Nat} {a0 ak : L8} {y : Int} {t : L8} {w0 w1 : World} {L : Array Bool} {j : Nat} {v : Value} {W W' : World} (hl : L[8]? = some false) (hj : j ≠ 8) (h : sV b g o c k a0 ak y t w0 w1 L j v W) : sV b g o c k a0 ak y t w0 w1 (L.setIfInBounds 8 true) j v W' := by
  unfold sV at h ⊢
  split <;> simp only at h ⊢ <;> try exact h
  · exact absurd rfl hj
  · rw [hl] at h; cases h.2
def cV (B g o c M : Nat) (f0 : L8) (x y s : Sl) (y0 y1 : Int) (cs : List Chg) (xs ys : List Ses) (w0 : World) (L : Array Bool) (j : Nat) (v : Value) (W : World) : Prop := match j with
  | 0 | 10 => v = .pointer (some ⟨B, 2, none⟩)
  | 1 => v = .slice s.1 s.2.1 s.2.2
  | 2 => v = .slice (some ⟨g, o, none⟩) 3 c
  | 3 => v = .pointer (some ⟨g, o, none⟩)
  | 4 => v = .string (arr f0)
  | 5 => v = .slice x.1 x.2.1 x.2.2
  | 6 => v = .slice y.1 y.2.1 y.2.2
  | 7 => v = .agg #[.string (arr f0), .slice x.1 x.2.1 x.2.2, .slice y.1 y.2.1 y.2.2] ∧ L[4]? = some true
  | 8 => L[4]? = some true ∧ ∃ G, v = .slice (some ⟨G, 0, none⟩) 1 1 ∧ (¬ L[9]? = some true → KAt rchC 3 W (some ⟨G, 0, none⟩) 1 [(f0, x, y)])
  | 9 => (L[1]? = some true ∧ L[4]? = some true) ∧ HRow W M v (cs ++ [(f0, xs, ys)])
  | 11 => (L[9]? = some true ∧ L[1]? = some true) ∧ ∃ a9 n9 c9, HRow W M (.slice a9 n9 c9) (cs ++ [(f0, xs, ys)]) ∧ BX w0 W B #[.int .i64 y0, .int .i64 y1, .slice a9 n9 c9] 157
  | _ => True
section
variable {B g o c M : Nat} {f0 : L8} {x y s : Sl} {y0 y1 : Int} {cs : List Chg} {xs ys : List Ses} {w0 : World} {L : Array Bool} {i j : Nat} {v : Value} {W W' : World}
theorem cV_keep (hb : Below W.heap.size W W') (hi : i ≠ 9) (h : cV B g o c M f0 x y s y0 y1 cs xs ys w0 L j v W) : cV B g o c M f0 x y s y0 y1 cs xs ys w0 (L.setIfInBounds i true) j v W' := by
  unfold cV at h ⊢
  split <;> simp only at h ⊢ <;> try exact h
  · exact ⟨h.1, listed_more h.2⟩
  · obtain ⟨h0, G, h1, h2⟩ := h
    exact ⟨listed_more h0, G, h1, fun hn => (h2 (not_more hn)).below hb⟩
  · exact ⟨⟨listed_more h.1.1, listed_more h.1.2⟩, h.2.below hb⟩
  · obtain ⟨h0, a9, n9, c9, h1, h2⟩ := h
    exact ⟨⟨listed_more h0.1, listed_more h0.2⟩, a9, n9, c9, h1.below hb, h2.next hb⟩
theorem cV_app (hl : L[9]? = some false) (hj : j ≠ 9) (h : cV B g o c M f0 x y s y0 y1 cs xs ys w0 L j v W) : cV B g o c M f0 x y s y0 y1 cs xs ys w0 (L.setIfInBounds 9 true) j v W' := by
  unfold cV at h ⊢
  split <;> simp only at h ⊢ <;> try exact h
  · exact ⟨h.1, listed_more h.2⟩
  · obtain ⟨h0, G, h1, h2⟩ := h
    exact ⟨listed_more h0, G, h1, fun hn => absurd (listed_now hl) hn⟩
  · exact absurd rfl hj
  · rw [hl] at h; cases h.1.1
theorem cV_store (h9 : L[9]? = some true) (hj : j ≠ 11) (hB : B < M) (u : Value) (h : cV B g o c M f0 x y s y0 y1 cs xs ys w0 L j v W) : cV B g o c M f0 x y s y0 y1 cs xs ys w0 (L.setIfInBounds 11 true) j v (W.setCell ⟨B, 2, none⟩ u) := by
  unfold cV at h ⊢
  split <;> simp only at h ⊢ <;> try exact h
  · exact ⟨h.1, listed_more h.2⟩
  · obtain ⟨h0, G, h1, h2⟩ := h
    exact ⟨listed_more h0, G, h1, fun hn => absurd (listed_more h9) hn⟩
  · exact ⟨⟨listed_more h.1.1, listed_more h.1.2⟩, h.2.set (p := ⟨B, 2, none⟩) hB u⟩
  · exact absurd rfl hj
end
theorem head_cases {d : L8} (r : Option (Ver × L8)) (hr : verP nuP (fun _ => true) d = r) : (lnP d [86] 3 = none → r = none) ∧ ∀ a0 a1 a2 t, lnP d [86] 3 = some ([a0, a1, a2], t) → ((nuP a0 = none ∨ nuP a1 = none ∨ nuP a2 = none) → r = none) ∧ ∀ y0 y1 y2, nuP a0 = some y0 → nuP a1 = some y1 → nuP a2 = some y2 → r = (repP (stepC nuP) y2.toNat t).map (fun p => ((y0, y1, p.1), p.2)) := by
  subst hr
  refine ⟨fun h => by unfold verP headP; rw [h], fun a0 a1 a2 t h => ⟨fun hn => ?_, fun y0 y1 y2 h0 h1 h2 => ?_⟩⟩
  · unfold verP headP
    rw [h]
    simp only [List.getD_cons_zero, List.getD_cons_succ]
    rcases hn with hn | hn | hn <;> rw [hn]
    · cases nuP a0 <;> rfl
    · cases nuP a0 <;> cases nuP a1 <;> rfl
  · unfold verP headP
    rw [h]
    simp only [List.getD_cons_zero, List.getD_cons_succ, h0, h1, h2]
    simp only [Bool.true_eq_false, if_false]
    cases repP (stepC nuP) y2.toNat t with
    | none => rfl
    | some p => rfl
theorem stepC_cases {t : L8} : (lnP t [67] 3 = none → stepC nuP t = none) ∧ ∀ a0 a1 a2 t', lnP t [67] 3 = some ([a0, a1, a2], t') → (nuP a1 = none → stepC nuP t = none) ∧ ∀ n1, nuP a1 = some n1 → (sesP nuP a0 n1 t' = none → stepC nuP t = none) ∧ ∀ xs t2, sesP nuP a0 n1 t' = some (xs, t2) → (nuP a2 = none → stepC nuP t = none) ∧ ∀ n2, nuP a2 = some n2 → (sesP nuP a0 n2 t2 = none → stepC nuP t = none) ∧ ∀ ys t3, sesP nuP a0 n2 t2 = some (ys, t3) → stepC nuP t = some ((a0, xs, ys), t3) := by
  refine ⟨fun h => by unfold stepC; rw [h], fun a0 a1 a2 t' h => ?_⟩
  have e : stepC nuP t = match nuP a1 with
    | none => none
    | some a => match sesP nuP a0 a t' with
      | none => none
      | some (x, t2) => match nuP a2 with
        | none => none
        | some b => match sesP nuP a0 b t2 with
          | none => none
          | some (y, t3) => some ((a0, x, y), t3) := by
    unfold stepC; rw [h]; rfl
  rw [e]
  refine ⟨fun h => by rw [h], fun n1 h1 => ?_⟩
  rw [h1]
  refine ⟨fun h => by simp only [h], fun xs t2 h2 => ?_⟩
  simp only [h2]
  refine ⟨fun h => by rw [h], fun n2 h3 => ?_⟩
  rw [h3]
  exact ⟨fun h => by simp only [h], fun ys t3 h4 => by simp only [h4]⟩
set_option maxRecDepth 100000 in
set_option maxHeartbeats 16000000 in
theorem rver_any (b : Nat) (d : L8) (w0 w : World) (h : RdB w0 w b d) (hE : Env w0) (hd : d.length < 4294967281) :
    Calls Tryz.prog 316 #[.pointer (some ⟨b, 0, none⟩)] w (VrR (verP nuP (fun _ => true) d) w0 b w) := by
  obtain ⟨r, hr⟩ : ∃ r, verP nuP (fun _ => true) d = r := ⟨_, rfl⟩
  obtain ⟨hN1, hN2⟩ := head_cases r hr
  rw [hr]
  have HN1 := Lib.hid hN1
  have HN2 := Lib.hid hN2
  clear hr hN1 hN2
  have HE := Lib.hid hE
  have HR0 := Lib.hid h
  have hbw : b < w.heap.size := by
    obtain ⟨_, hx, _⟩ := h
    exact hx.lt
  have hb0 : w0.heap.size ≤ b := by
    obtain ⟨_, hx, _⟩ := h
    exact hx.lo
  have hw00 : w0.heap.size ≤ w.heap.size := h.bl.size
  clear h hE
  go_enter Tryz.func316, Tryz.ntmps316
  have HRS := Lib.hid (BX.mk0 (vs := #[.int .i64 0, .int .i64 0, .slice none 0 0]) (T := 157) w)
  go_upto_region 1 with fail
  generalize w.alloc (.cells #[.int .i64 0, .int .i64 0, .slice none 0 0] 157) = wa at *
  obtain ⟨R, hR⟩ : ∃ R, R = w.heap.size := ⟨_, rfl⟩
  rw [← hR] at HRS ⊢
  have hRb : R ≠ b := by omega
  have hR0 : w0.heap.size ≤ R := by omega
  have hRw : w.heap.size ≤ R := by omega
  clear hR
  have HRa := Lib.hid (HR0.out.next HRS.out.bl)
  have HKa : Hid (Keep b w wa) := Lib.hid (Keep.of_below HRS.out.bl)
  have HRS : Hid (BX w0 wa R _ _) := Lib.hid ⟨HRS.out.hp, hR0, HRa.out.bl⟩
  have LN := Lib.hid (rline_any96 b d [86] 3 w0 wa HRa.out HE.out hd (by omega) (by omega))
  have HLN4 := Lib.hid (fun ws u (h : lnP d [86] 3 = some (ws, u)) => lnP_len4 h)
  have HW4 := Lib.hid (fun ws u (h : lnP d [86] 3 = some (ws, u)) i => lnP_word h i)
  go_wp2_with fail
  refine LN.out.mono ?_
  rintro en w1 ⟨h1, hb1, hk1⟩
  have HB1 := Lib.hid hb1
  have HK1x := Lib.hid (HKa.out.trans hk1)
  clear hb1 hk1 LN
  cases hln : lnP d [86] 3 with
  | none =>
    rw [hln] at h1
    simp only at h1
    subst h1
    have HN := Lib.hid (HN1.out hln)
    go_wp2_with fail
    refine ⟨rfl, ?_⟩
    exact VrR.bad HN.out HB1.out HK1x.out
  | some p =>
    obtain ⟨ws, t1⟩ := p
    obtain ⟨hl4, hwl⟩ := HLN4.out ws t1 hln
    have HWD := Lib.hid (HW4.out ws t1 hln)
    rw [hln] at h1
    simp only at h1
    obtain ⟨g, o, c, rfl, hka, hgw, hrd, hkp⟩ := h1
    match ws, hwl with
    | [a0, a1, a2], _ =>
      obtain ⟨hNN, hNS⟩ := HN2.out a0 a1 a2 t1 hln
      have HNN := Lib.hid hNN
      have HNS := Lib.hid hNS
      simp only [List.length_cons, List.length_nil, Nat.zero_add, Nat.reduceAdd] at hka ⊢
      have HKA := Lib.hid hka
      have HRD := Lib.hid hrd
      have HKP := Lib.hid (HKa.out.trans hkp)
      have HRS := Lib.hid (HRS.out.keepB hkp hRb HB1.out)
      have hz1 : w.heap.size ≤ w1.heap.size := HKP.out.1
      have hRlt : R < w1.heap.size := HRS.out.lt
      have hgb : b ≠ g := by have := HKa.out.1; omega
      have HE1 := Lib.hid (HE.out.below HB1.out)
      have hlt1 : t1.length ≤ d.length := by omega
      have c0 : w1.cell? ⟨g, o, none⟩ = some (.string (arr a0)) := kat_cell HKA.out 0 _ rfl
      have c1 : w1.cell? ⟨g, o + 1, none⟩ = some (.string (arr a1)) := kat_cell HKA.out 1 _ rfl
      have c2 : w1.cell? ⟨g, o + 2, none⟩ = some (.string (arr a2)) := kat_cell HKA.out 2 _ rfl
      clear hka hrd hkp HLN4 HW4 hln hl4 hNN hNS HN1 HN2 HRa HR0
      go_upto_region 2 with fail
      refine wp_region_rel (N := 58) (nV g o c a0 a1 ((nuP a0).getD 0) ((nuP a1).getD 0) w1) (fun _ W => Below w1.heap.size w1 W) (by kernel_rfl) (by kernel_rfl) (by rfl) (bel_drew0 _) ?_ ?_
      · intro i o L a W ho hl hL hS hdf dep all fr
        match i, ho with
        | 0, ho =>
          obtain rfl := (Option.some.inj ho).symm
          have f8 := fr 3 (by kernel_rfl)
          unfold Oper.wp
          simp [go_sem, f8]
          exact ⟨_, rfl, rfl, hS, fun j oj u _ _ _ _ hu => nV_keep (Below.refl _ _) (by decide) hu⟩
        | 1, ho =>
          obtain rfl := (Option.some.inj ho).symm
          obtain ⟨_, v0, h0, d0⟩ := dep 0 _ rfl (by kernel_rfl)
          have d0 := d0 10 rfl
          obtain rfl : v0 = .slice (some ⟨g, o, none⟩) 3 c := h0
          unfold Oper.wp
          simp [go_sem, d0]
          exact ⟨_, rfl, rfl, hS, fun j oj u _ _ _ _ hu => nV_keep (Below.refl _ _) (by decide) hu⟩
        | 2, ho =>
          obtain rfl := (Option.some.inj ho).symm
          obtain ⟨_, v0, h0, d0⟩ := dep 1 _ rfl (by kernel_rfl)
          have d0 := d0 11 rfl
          obtain rfl : v0 = .pointer (some ⟨g, o, none⟩) := h0
          have hc := below_cell9 hS c0
          unfold Oper.wp
          simp [go_sem, d0, hc]
          exact ⟨_, rfl, rfl, hS, fun j oj u _ _ _ _ hu => nV_keep (Below.refl _ _) (by decide) hu⟩
        | 3, ho =>
          obtain rfl := (Option.some.inj ho).symm
          obtain ⟨_, v0, h0, d0⟩ := dep 2 _ rfl (by kernel_rfl)
          have d0 := d0 12 rfl
          obtain rfl : v0 = .string (arr a0) := h0
          refine wp_call1 (args := #[.string (arr a0)]) rfl (by simp [Act.eval, d0]) (ci97 _ _) (number_any a0 W (HE1.out.below hS) (by have := HWD.out 0; simp at this; omega)) ?_
          rintro e w' h1
          unfold NumR at h1
          cases hn : nuP a0 with
          | none =>
            rw [hn] at h1
            obtain ⟨rfl, hb⟩ := h1
            exact ⟨hdf, VrR.bad (HNN.out (Or.inl hn)) (HB1.out.trans ((below3 hS hb).mono HB1.out.size)) (HK1x.out.trans (Keep.of_below (below3 hS hb)))⟩
          | some y =>
            rw [hn] at h1
            obtain ⟨rfl, hb⟩ := h1
            exact ⟨_, rfl, ⟨by first | rfl | (rw [hn]; rfl), by first | rfl | (rw [hn]; rfl)⟩, below3 hS hb, fun j oj u _ _ _ _ hu => nV_keep hb (by decide) hu⟩
        | 4, ho =>
          obtain rfl := (Option.some.inj ho).symm
          have f8 := fr 3 (by kernel_rfl)
          unfold Oper.wp
          simp [go_sem, f8]
          exact ⟨_, rfl, rfl, hS, fun j oj u _ _ _ _ hu => nV_keep (Below.refl _ _) (by decide) hu⟩
        | 5, ho =>
          obtain rfl := (Option.some.inj ho).symm
          obtain ⟨_, v0, h0, d0⟩ := dep 4 _ rfl (by kernel_rfl)
          have d0 := d0 14 rfl
          obtain rfl : v0 = .slice (some ⟨g, o, none⟩) 3 c := h0
          unfold Oper.wp
          simp [go_sem, d0]
          exact ⟨_, rfl, rfl, hS, fun j oj u _ _ _ _ hu => nV_keep (Below.refl _ _) (by decide) hu⟩
        | 6, ho =>
          obtain rfl := (Option.some.inj ho).symm
          obtain ⟨_, v0, h0, d0⟩ := dep 5 _ rfl (by kernel_rfl)
          have d0 := d0 15 rfl
          obtain rfl : v0 = .pointer (some ⟨g, o + 1, none⟩) := h0
          have hc := below_cell9 hS c1
          unfold Oper.wp
          simp [go_sem, d0, hc]
          exact ⟨_, rfl, rfl, hS, fun j oj u _ _ _ _ hu => nV_keep (Below.refl _ _) (by decide) hu⟩
        | 7, ho =>
          obtain rfl := (Option.some.inj ho).symm
          obtain ⟨_, v0, h0, d0⟩ := dep 6 _ rfl (by kernel_rfl)
          have d0 := d0 16 rfl
          obtain rfl : v0 = .string (arr a1) := h0
          refine wp_call1 (args := #[.string (arr a1)]) rfl (by simp [Act.eval, d0]) (ci97 _ _) (number_any a1 W (HE1.out.below hS) (by have := HWD.out 1; simp at this; omega)) ?_
          rintro e w' h1
          unfold NumR at h1
          cases hn : nuP a1 with
          | none =>
            rw [hn] at h1
            obtain ⟨rfl, hb⟩ := h1
            exact ⟨hdf, VrR.bad (HNN.out (Or.inr (Or.inl hn))) (HB1.out.trans ((below3 hS hb).mono HB1.out.size)) (HK1x.out.trans (Keep.of_below (below3 hS hb)))⟩
          | some y =>
            rw [hn] at h1
            obtain ⟨rfl, hb⟩ := h1
            exact ⟨_, rfl, ⟨by first | rfl | (rw [hn]; rfl), by first | rfl | (rw [hn]; rfl)⟩, below3 hS hb, fun j oj u _ _ _ _ hu => nV_keep hb (by decide) hu⟩
        | 8, ho =>
          obtain rfl := (Option.some.inj ho).symm
          obtain ⟨_, v0, ⟨_, rfl⟩, d0⟩ := dep 3 _ rfl (by kernel_rfl)
          obtain ⟨_, v1, ⟨_, rfl⟩, d1⟩ := dep 7 _ rfl (by kernel_rfl)
          have d0 := d0 13 rfl
          have d1 := d1 17 rfl
          unfold Oper.wp
          simp [go_sem, d0, d1]
          exact ⟨_, rfl, rfl, hS, fun j oj u _ _ _ _ hu => nV_keep (Below.refl _ _) (by decide) hu⟩
        | 9, ho =>
          obtain rfl := (Option.some.inj ho).symm
          have h18 : ¬ L[10]? = some true := fun h => by
            obtain ⟨v, hv⟩ := all 10 _ rfl h
            have hv : L[9]? = some true := hv
            rw [hl] at hv; cases hv
          unfold Oper.wp
          simp [go_sem]
          exact ⟨_, rfl, ⟨W.heap.size, _, _, _, rfl, ⟨heap_alloc_new _ _, hS.size, hS.alloc hS.size _⟩, fun h => absurd h (listed_not h18 (by decide))⟩, hS.alloc hS.size _, fun j oj u _ _ _ _ hu => nV_keep ((Below.refl _ _).alloc (Nat.le_refl _) _) (by decide) hu⟩
        | 10, ho =>
          obtain rfl := (Option.some.inj ho).symm
          obtain ⟨_, v0, h0, d0⟩ := dep 8 _ rfl (by kernel_rfl)
          obtain ⟨h17, v1, ⟨B, x0, x1, x2, rfl, hbx, _⟩, d1⟩ := dep 9 _ rfl (by kernel_rfl)
          obtain rfl : v0 = .agg #[.int .i64 _, .int .i64 _, .slice none 0 0] := h0
          have d0 := d0 18 rfl
          have d1 := d1 4 rfl
          obtain ⟨⟨e0, e1, e2⟩, z0, z1, z2⟩ := hbx.three
          have hb4 := hbx.set3 (.int .i64 ((nuP a0).getD 0)) (.int .i64 ((nuP a1).getD 0)) (.slice none 0 0)
          unfold Oper.wp
          simp [go_sem, d0, d1, e0, e1, e2, z0, z1, z2]
          refine ⟨.tuple #[], rfl, listed_more h17, hb4.bl, fun j oj u hj hne hlj hsl hu => ?_⟩
          by_cases hj17 : j = 9
          · subst hj17
            obtain rfl := (Option.some.inj hj).symm
            have hu9 := hsl 4 rfl
            rw [d1] at hu9
            obtain rfl := (Option.some.inj hu9).symm
            exact ⟨B, _, _, _, rfl, hb4, fun _ => ⟨rfl, rfl, rfl⟩⟩
          · exact nV_store hj17 hu
      · intro vs W hS hV
        have h0 := hV 3 _ rfl
        have h1 := hV 7 _ rfl
        obtain ⟨B, x0, x1, x2, hv9, hbx, hx⟩ := hV 9 _ rfl
        obtain ⟨rfl, rfl, rfl⟩ := hx rfl
        obtain ⟨y0, hy0⟩ : ∃ y, nuP a0 = some y := ⟨_, h0.1⟩
        obtain ⟨y1, hy1⟩ : ∃ y, nuP a1 = some y := ⟨_, h1.1⟩
        rw [hy0, hy1] at hbx
        simp only [Option.getD_some] at hbx
        have HY := Lib.hid (fun y2 (h : nuP a2 = some y2) => HNS.out y0 y1 y2 hy0 hy1 h)
        have HBw : Hid (Below w0.heap.size w0 W) := Lib.hid (HB1.out.trans (hS.mono HB1.out.size))
        have HBX : Hid (BX w0 W B #[.int .i64 y0, .int .i64 y1, .slice none 0 0] 157) := Lib.hid ⟨hbx.hp, Nat.le_trans HB1.out.size hbx.lo, HBw.out⟩
        have HRS := Lib.hid (HRS.out.next hS)
        have HRD := Lib.hid (HRD.out.next hS)
        have HKP := Lib.hid (HKP.out.trans (Keep.of_below hS))
        have hBR : B ≠ R := by have := hbx.lo; omega
        have hBb : B ≠ b := by have := hbx.lo; omega
        have hBw : w.heap.size ≤ B := by have := hbx.lo; omega
        have c2 := below_cell9 hS c2
        have NM := Lib.hid (number_any a2 W (HE.out.below HBw.out) (by have := HWD.out 2; simp at this; omega))
        clear h0 h1 hx hV c0 c1 hS hy0 hy1 hbx HNS HKA HE1 HKa
        simp only [putAll, Act.put, List.setIfInBounds_toArray, List.set_cons_zero, List.set_cons_succ]
        rw [hv9]
        clear hv9
        go_wp2_with fail
        refine NM.out.mono ?_
        rintro en w2 ⟨h1, hb2⟩
        have HBw := Lib.hid (below3 HBw.out hb2)
        cases hy2 : nuP a2 with
        | none =>
          rw [hy2] at h1
          subst h1
          have HN := Lib.hid (HNN.out (Or.inr (Or.inr hy2)))
          go_wp2_with fail
          refine ⟨rfl, ?_⟩
          exact VrR.bad HN.out HBw.out (HKP.out.trans (Keep.of_below hb2))
        | some y2 =>
          rw [hy2] at h1
          subst h1
          have HRR := Lib.hid (HY.out y2 hy2)
          have hyr := nuP_range hy2
          have HBX := Lib.hid (HBX.out.next hb2)
          have HRS := Lib.hid (HRS.out.next hb2)
          have HRD := Lib.hid (HRD.out.next hb2)
          have HKP := Lib.hid (HKP.out.trans (Keep.of_below hb2))
          have HA0 := Lib.hid (AccR.start (stepC nuP) y2.toNat t1)
          clear hb2 NM hy2 HNN HY c2
          generalize repP (stepC nuP) y2.toNat t1 = r' at *
          obtain ⟨M, hM⟩ : ∃ M, M = w2.heap.size := ⟨_, rfl⟩
          have hBM : B < M := by rw [hM]; exact HBX.out.lt
          have hRM : R < M := by rw [hM]; exact HRS.out.lt
          have hMw : w.heap.size ≤ M := by rw [hM]; exact HKP.out.1
          have hbM : b < M := by omega
          have HM0 := Lib.hid (Nat.le_of_eq hM)
          clear hM
          go_wp2_with fail
          go_loopw [23] (fun q wr => ∃ (i : Nat) (cs : List Chg) (t : L8) (s : Sl), q = .int .i64 i ∧ i ≤ y2.toNat ∧ Hid (BX w0 wr B #[.int .i64 y0, .int .i64 y1, .slice s.1 s.2.1 s.2.2] 157) ∧ Hid (BX w0 wr R #[.int .i64 0, .int .i64 0, .slice none 0 0] 157) ∧ Hid (HRow wr M (slV s) cs) ∧ Hid (M ≤ wr.heap.size) ∧ Hid (RdB w0 wr b t) ∧ Hid (Keep b w wr) ∧ Hid (AccR (stepC nuP) r' cs (y2.toNat - i) t) ∧ Hid (cs.length + t.length ≤ d.length)) (fun q _ => y2.toNat - (intOf q).toNat)
          case atStart => exact ⟨0, [], t1, (none, 0, 0), rfl, Nat.zero_le _, HBX, HRS, Lib.hid (HRow.nil _ _), HM0, HRD, HKP, HA0, Lib.hid (by simpa using hlt1)⟩
          case round =>
            clear HA0 HBX HRS HRD HKP HBw HB1 HWD
            obtain ⟨i, cs, t, ⟨sa, sn, sc⟩, rfl, hi, HBX, HRS, HHR, HMr, HRD, HKP, HA, HL⟩ := hrel
            have hw0 : w.heap.size ≤ wr.heap.size := HKP.out.1
            by_cases hlt : (i : Int) < y2
            · obtain ⟨k, hk⟩ : ∃ k, y2.toNat - i = k + 1 := ⟨y2.toNat - i - 1, by omega⟩
              rw [hk] at HA
              have htl : t.length < 4294967281 := by have := HL.out; omega
              have LN := Lib.hid (rline_any96 b t [67] 3 w0 wr HRD.out HE.out htl (by omega) (by omega))
              have HBB : Hid (stepC nuP t = none → r = none) := Lib.hid (fun h => by rw [HRR.out, HA.out.bad h]; rfl)
              obtain ⟨hC1, hC2⟩ := stepC_cases (t := t)
              have HC1 := Lib.hid hC1
              have HC2 := Lib.hid hC2
              have HLN4 := Lib.hid (fun ws u (h : lnP t [67] 3 = some (ws, u)) => lnP_len4 h)
              have HW4 := Lib.hid (fun ws u (h : lnP t [67] 3 = some (ws, u)) i => lnP_word h i)
              clear hC1 hC2
              go_wp2_with fail
              refine LN.out.mono ?_
              rintro en w3 ⟨h1, hb3, hk3⟩
              have HB3 := Lib.hid hb3
              have HK3x := Lib.hid (HKP.out.trans hk3)
              clear hb3 hk3 LN
              cases hln : lnP t [67] 3 with
              | none =>
                rw [hln] at h1
                simp only at h1
                subst h1
                have HN := Lib.hid (HBB.out (HC1.out hln))
                go_wp2_with fail
                refine ⟨rfl, ?_⟩
                exact VrR.bad HN.out HB3.out HK3x.out
              | some p =>
                obtain ⟨ws, t'⟩ := p
                obtain ⟨hl4, hwl⟩ := HLN4.out ws t' hln
                have HWD := Lib.hid (HW4.out ws t' hln)
                rw [hln] at h1
                simp only at h1
                obtain ⟨g2, o2, c2, rfl, hka, hgw, hrd, hkp⟩ := h1
                match ws, hwl with
                | [f0, f1, f2], _ =>
                  obtain ⟨hS1, hS2⟩ := HC2.out f0 f1 f2 t' hln
                  simp only [List.length_cons, List.length_nil, Nat.zero_add, Nat.reduceAdd] at hka ⊢
                  have HKA := Lib.hid hka
                  have HRD1 := Lib.hid hrd
                  have HKP := Lib.hid (HKP.out.trans hkp)
                  have HBX := Lib.hid (HBX.out.keepB hkp hBb HB3.out)
                  have HRS := Lib.hid (HRS.out.keepB hkp hRb HB3.out)
                  have HHR := Lib.hid (HHR.out.keepB hkp hbM)
                  have hM3 : M ≤ w3.heap.size := Nat.le_trans HMr.out hkp.1
                  have hgb2 : b ≠ g2 := by omega
                  have hlt2 : t'.length + 4 ≤ t.length := by omega
                  have q0 : w3.cell? ⟨g2, o2, none⟩ = some (.string (arr f0)) := kat_cell HKA.out 0 _ rfl
                  have q1 : w3.cell? ⟨g2, o2 + 1, none⟩ = some (.string (arr f1)) := kat_cell HKA.out 1 _ rfl
                  have q2 : w3.cell? ⟨g2, o2 + 2, none⟩ = some (.string (arr f2)) := kat_cell HKA.out 2 _ rfl
                  have HS1 := Lib.hid hS1
                  have HS2 := Lib.hid hS2
                  have hz3 : w.heap.size ≤ w3.heap.size := HKP.out.1
                  have HDR : Hid (RdB w0 w3.drew b t') := Lib.hid (HRD1.out.next (bel_drew0 _))
                  clear hka hrd hkp HLN4 HW4 hln hl4 hS1 hS2 HC1 HC2 HKA HRD
                  go_upto_region 6 with fail
                  refine wp_region_rel (N := 58) (sV b g2 o2 c2 1 f0 f1 ((nuP f1).getD 0) t' w0 w3) (fun L W => Keep b w3 W ∧ Below w0.heap.size w0 W ∧ (¬ L[8]? = some true → RdB w0 W b t')) (by kernel_rfl) (by kernel_rfl) (by rfl) ⟨Keep.of_below (bel_drew0 _), below3 HB3.out (bel_drew0 _), fun _ => HDR.out⟩ ?_ ?_
                  · intro i o L a W ho hl hL hS hdf dep all fr
                    match i, ho with
                    | 0, ho =>
                      obtain rfl := (Option.some.inj ho).symm
                      have f8 := fr 0 (by kernel_rfl)
                      unfold Oper.wp
                      simp [go_sem, f8]
                      exact ⟨_, rfl, rfl, ⟨hS.1, hS.2.1, fun hn => hS.2.2 (not_more hn)⟩, fun j oj u _ _ _ _ hu => sV_keep (Below.refl _ _) (by decide) hu⟩
                    | 1, ho =>
                      obtain rfl := (Option.some.inj ho).symm
                      have f8 := fr 5 (by kernel_rfl)
                      unfold Oper.wp
                      simp [go_sem, f8]
                      exact ⟨_, rfl, rfl, ⟨hS.1, hS.2.1, fun hn => hS.2.2 (not_more hn)⟩, fun j oj u _ _ _ _ hu => sV_keep (Below.refl _ _) (by decide) hu⟩
                    | 2, ho =>
                      obtain rfl := (Option.some.inj ho).symm
                      obtain ⟨_, v0, h0, d0⟩ := dep 1 _ rfl (by kernel_rfl)
                      have d0 := d0 28 rfl
                      obtain rfl : v0 = .slice (some ⟨g2, o2, none⟩) 3 c2 := h0
                      unfold Oper.wp
                      simp [go_sem, d0]
                      exact ⟨_, rfl, rfl, ⟨hS.1, hS.2.1, fun hn => hS.2.2 (not_more hn)⟩, fun j oj u _ _ _ _ hu => sV_keep (Below.refl _ _) (by decide) hu⟩
                    | 3, ho =>
                      obtain rfl := (Option.some.inj ho).symm
                      obtain ⟨_, v0, h0, d0⟩ := dep 2 _ rfl (by kernel_rfl)
                      have d0 := d0 29 rfl
                      obtain rfl : v0 = .pointer (some ⟨g2, o2, none⟩) := h0
                      have hc := keep_cell hS.1 q0 (Ne.symm hgb2)
                      unfold Oper.wp
                      simp [go_sem, d0, hc]
                      exact ⟨_, rfl, rfl, ⟨hS.1, hS.2.1, fun hn => hS.2.2 (not_more hn)⟩, fun j oj u _ _ _ _ hu => sV_keep (Below.refl _ _) (by decide) hu⟩
                    | 4, ho =>
                      obtain rfl := (Option.some.inj ho).symm
                      have f8 := fr 5 (by kernel_rfl)
                      unfold Oper.wp
                      simp [go_sem, f8]
                      exact ⟨_, rfl, rfl, ⟨hS.1, hS.2.1, fun hn => hS.2.2 (not_more hn)⟩, fun j oj u _ _ _ _ hu => sV_keep (Below.refl _ _) (by decide) hu⟩
                    | 5, ho =>
                      obtain rfl := (Option.some.inj ho).symm
                      obtain ⟨_, v0, h0, d0⟩ := dep 4 _ rfl (by kernel_rfl)
                      have d0 := d0 31 rfl
                      obtain rfl : v0 = .slice (some ⟨g2, o2, none⟩) 3 c2 := h0
                      unfold Oper.wp
                      simp [go_sem, d0]
                      exact ⟨_, rfl, rfl, ⟨hS.1, hS.2.1, fun hn => hS.2.2 (not_more hn)⟩, fun j oj u _ _ _ _ hu => sV_keep (Below.refl _ _) (by decide) hu⟩
                    | 6, ho =>
                      obtain rfl := (Option.some.inj ho).symm
                      obtain ⟨_, v0, h0, d0⟩ := dep 5 _ rfl (by kernel_rfl)
                      have d0 := d0 32 rfl
                      obtain rfl : v0 = .pointer (some ⟨g2, o2 + 1, none⟩) := h0
                      have hc := keep_cell hS.1 q1 (Ne.symm hgb2)
                      unfold Oper.wp
                      simp [go_sem, d0, hc]
                      exact ⟨_, rfl, rfl, ⟨hS.1, hS.2.1, fun hn => hS.2.2 (not_more hn)⟩, fun j oj u _ _ _ _ hu => sV_keep (Below.refl _ _) (by decide) hu⟩
                    | 7, ho =>
                      obtain rfl := (Option.some.inj ho).symm
                      obtain ⟨_, v0, h0, d0⟩ := dep 6 _ rfl (by kernel_rfl)
                      have d0 := d0 33 rfl
                      obtain rfl : v0 = .string (arr f1) := h0
                      refine wp_call1 (args := #[.string (arr f1)]) rfl (by simp [Act.eval, d0]) (ci97 _ _) (number_any f1 W (HE.out.below hS.2.1) (by have := HWD.out 1; simp at this; omega)) ?_
                      rintro e w' h1
                      unfold NumR at h1
                      cases hn : nuP f1 with
                      | none =>
                        rw [hn] at h1
                        obtain ⟨rfl, hb⟩ := h1
                        exact ⟨hdf, VrR.bad (HBB.out (HS1.out hn)) (below3 hS.2.1 hb) (HKP.out.trans (hS.1.trans (Keep.of_below hb)))⟩
                      | some y =>
                        rw [hn] at h1
                        obtain ⟨rfl, hb⟩ := h1
                        exact ⟨_, rfl, ⟨by first | rfl | (rw [hn]; rfl), by first | rfl | (rw [hn]; rfl)⟩, ⟨hS.1.trans (Keep.of_below hb), below3 hS.2.1 hb, fun hn => (hS.2.2 (not_more hn)).next hb⟩, fun j oj u _ _ _ _ hu => sV_keep hb (by decide) hu⟩
                    | 8, ho =>
                      obtain rfl := (Option.some.inj ho).symm
                      obtain ⟨_, v0, h0, d0⟩ := dep 0 _ rfl (by kernel_rfl)
                      obtain ⟨_, v1, h1, d1⟩ := dep 3 _ rfl (by kernel_rfl)
                      obtain ⟨_, v2, ⟨hny, rfl⟩, d2⟩ := dep 7 _ rfl (by kernel_rfl)
                      obtain rfl : v0 = .pointer (some ⟨b, 0, none⟩) := h0
                      obtain rfl : v1 = .string (arr f0) := h1
                      have d0 := d0 27 rfl
                      have d1 := d1 30 rfl
                      have d2 := d2 34 rfl
                      have hrr := nuP_range hny
                      refine wp_call1 (args := #[.pointer (some ⟨b, 0, none⟩), .string (arr f0), .int .i64 ((nuP f1).getD 0)]) rfl (by simp [Act.eval, d0, d1, d2]) (ci98 _ _) (rses_any b t' f0 ((nuP f1).getD 0) w0 W (hS.2.2 (by rw [hl]; simp)) HE.out (by omega) hrr.2) ?_
                      rintro e w' ⟨h3, hb, hk9⟩
                      cases hn : sesP nuP f0 ((nuP f1).getD 0) t' with
                      | none =>
                        rw [hn] at h3
                        simp only at h3
                        subst h3
                        exact ⟨hdf, VrR.bad (HBB.out ((HS2.out _ hny).1 hn)) hb (HKP.out.trans (hS.1.trans hk9))⟩
                      | some p =>
                        obtain ⟨xs, t9⟩ := p
                        rw [hn] at h3
                        obtain ⟨v, rfl, hr9, hd9⟩ := h3
                        exact ⟨v, rfl, ⟨xs, t9, hn, row_base hr9 hS.1.1, hd9⟩, ⟨hS.1.trans hk9, hb, fun h => absurd (listed_now hl) h⟩, fun j oj u _ hne _ _ hu => sV_call hl hne hu⟩
                    | 9, ho =>
                      obtain rfl := (Option.some.inj ho).symm
                      obtain ⟨h8, v0, h0, d0⟩ := dep 8 _ rfl (by kernel_rfl)
                      have d0 := d0 35 rfl
                      unfold Oper.wp
                      simp [go_sem, d0]
                      exact ⟨_, rfl, ⟨h0, listed_more h8⟩, ⟨hS.1, hS.2.1, fun hn => hS.2.2 (not_more hn)⟩, fun j oj u _ _ _ _ hu => sV_keep (Below.refl _ _) (by decide) hu⟩
                  · intro vs W hS hV
                    have h7 := hV 7 _ rfl
                    obtain ⟨⟨xs, t2, hs6, hr6, hd6⟩, _⟩ := hV 9 _ rfl
                    obtain ⟨n1, hn1⟩ : ∃ y, nuP f1 = some y := ⟨_, h7.1⟩
                    rw [hn1] at hs6
                    simp only [Option.getD_some] at hs6
                    obtain ⟨hS3, hS4⟩ := HS2.out n1 hn1
                    obtain ⟨hS5, hS6⟩ := hS4 xs t2 hs6
                    have HS5 := Lib.hid hS5
                    have HS6 := Lib.hid hS6
                    have hlt3 := repS_len4 _ hs6
                    obtain ⟨⟨xa, xn, xc⟩, hv9, _⟩ := SRow.sv hr6
                    replace hv9 : vs 9 = .slice xa xn xc := hv9
                    rw [hv9] at hr6
                    have HXS := Lib.hid (row_base hr6 hM3)
                    have hM3 : M ≤ W.heap.size := Nat.le_trans hM3 hS.1.1
                    have HRD := Lib.hid hd6
                    have HBw := Lib.hid hS.2.1
                    have HBX := Lib.hid (HBX.out.keepB hS.1 hBb HBw.out)
                    have HRS := Lib.hid (HRS.out.keepB hS.1 hRb HBw.out)
                    have HHR := Lib.hid (HHR.out.keepB hS.1 hbM)
                    have HKP := Lib.hid (HKP.out.trans hS.1)
                    have q0 := keep_cell hS.1 q0 (Ne.symm hgb2)
                    have q2 := keep_cell hS.1 q2 (Ne.symm hgb2)
                    have hz3 : w.heap.size ≤ W.heap.size := HKP.out.1
                    have HDR : Hid (RdB w0 W.drew b t2) := Lib.hid (HRD.out.next (bel_drew0 _))
                    clear h7 hV hS hs6 hr6 hd6 hn1 hS3 hS4 hS5 hS6 HS1 HS2 q1 HRD1 HB3
                    simp only [putAll, Act.put, List.setIfInBounds_toArray, List.set_cons_zero, List.set_cons_succ]
                    rw [hv9]
                    clear hv9
                    obtain ⟨w4, hw4⟩ : ∃ w4 : World, w4 = W := ⟨_, rfl⟩
                    subst hw4
                    obtain ⟨us, hus⟩ : ∃ us : Nat → Value, us = vs := ⟨_, rfl⟩
                    subst hus
                    go_upto_region 7 with fail
                    refine wp_region_rel (N := 58) (sV b g2 o2 c2 2 f0 f2 ((nuP f2).getD 0) t2 w0 w4) (fun L W => Keep b w4 W ∧ Below w0.heap.size w0 W ∧ (¬ L[8]? = some true → RdB w0 W b t2)) (by kernel_rfl) (by kernel_rfl) (by rfl) ⟨Keep.of_below (bel_drew0 _), below3 HBw.out (bel_drew0 _), fun _ => HDR.out⟩ ?_ ?_
                    · intro i o L a W ho hl hL hS hdf dep all fr
                      match i, ho with
                      | 0, ho =>
                        obtain rfl := (Option.some.inj ho).symm
                        have f8 := fr 0 (by kernel_rfl)
                        unfold Oper.wp
                        simp [go_sem, f8]
                        exact ⟨_, rfl, rfl, ⟨hS.1, hS.2.1, fun hn => hS.2.2 (not_more hn)⟩, fun j oj u _ _ _ _ hu => sV_keep (Below.refl _ _) (by decide) hu⟩
                      | 1, ho =>
                        obtain rfl := (Option.some.inj ho).symm
                        have f8 := fr 5 (by kernel_rfl)
                        unfold Oper.wp
                        simp [go_sem, f8]
                        exact ⟨_, rfl, rfl, ⟨hS.1, hS.2.1, fun hn => hS.2.2 (not_more hn)⟩, fun j oj u _ _ _ _ hu => sV_keep (Below.refl _ _) (by decide) hu⟩
                      | 2, ho =>
                        obtain rfl := (Option.some.inj ho).symm
                        obtain ⟨_, v0, h0, d0⟩ := dep 1 _ rfl (by kernel_rfl)
                        have d0 := d0 37 rfl
                        obtain rfl : v0 = .slice (some ⟨g2, o2, none⟩) 3 c2 := h0
                        unfold Oper.wp
                        simp [go_sem, d0]
                        exact ⟨_, rfl, rfl, ⟨hS.1, hS.2.1, fun hn => hS.2.2 (not_more hn)⟩, fun j oj u _ _ _ _ hu => sV_keep (Below.refl _ _) (by decide) hu⟩
                      | 3, ho =>
                        obtain rfl := (Option.some.inj ho).symm
                        obtain ⟨_, v0, h0, d0⟩ := dep 2 _ rfl (by kernel_rfl)
                        have d0 := d0 38 rfl
                        obtain rfl : v0 = .pointer (some ⟨g2, o2, none⟩) := h0
                        have hc := keep_cell hS.1 q0 (Ne.symm hgb2)
                        unfold Oper.wp
                        simp [go_sem, d0, hc]
                        exact ⟨_, rfl, rfl, ⟨hS.1, hS.2.1, fun hn => hS.2.2 (not_more hn)⟩, fun j oj u _ _ _ _ hu => sV_keep (Below.refl _ _) (by decide) hu⟩
                      | 4, ho =>
                        obtain rfl := (Option.some.inj ho).symm
                        have f8 := fr 5 (by kernel_rfl)
                        unfold Oper.wp
                        simp [go_sem, f8]
                        exact ⟨_, rfl, rfl, ⟨hS.1, hS.2.1, fun hn => hS.2.2 (not_more hn)⟩, fun j oj u _ _ _ _ hu => sV_keep (Below.refl _ _) (by decide) hu⟩
                      | 5, ho =>
                        obtain rfl := (Option.some.inj ho).symm
                        obtain ⟨_, v0, h0, d0⟩ := dep 4 _ rfl (by kernel_rfl)
                        have d0 := d0 40 rfl
                        obtain rfl : v0 = .slice (some ⟨g2, o2, none⟩) 3 c2 := h0
                        unfold Oper.wp
                        simp [go_sem, d0]
                        exact ⟨_, rfl, rfl, ⟨hS.1, hS.2.1, fun hn => hS.2.2 (not_more hn)⟩, fun j oj u _ _ _ _ hu => sV_keep (Below.refl _ _) (by decide) hu⟩
                      | 6, ho =>
                        obtain rfl := (Option.some.inj ho).symm
                        obtain ⟨_, v0, h0, d0⟩ := dep 5 _ rfl (by kernel_rfl)
                        have d0 := d0 41 rfl
                        obtain rfl : v0 = .pointer (some ⟨g2, o2 + 2, none⟩) := h0
                        have hc := keep_cell hS.1 q2 (Ne.symm hgb2)
                        unfold Oper.wp
                        simp [go_sem, d0, hc]
                        exact ⟨_, rfl, rfl, ⟨hS.1, hS.2.1, fun hn => hS.2.2 (not_more hn)⟩, fun j oj u _ _ _ _ hu => sV_keep (Below.refl _ _) (by decide) hu⟩
                      | 7, ho =>
                        obtain rfl := (Option.some.inj ho).symm
                        obtain ⟨_, v0, h0, d0⟩ := dep 6 _ rfl (by kernel_rfl)
                        have d0 := d0 42 rfl
                        obtain rfl : v0 = .string (arr f2) := h0
                        refine wp_call1 (args := #[.string (arr f2)]) rfl (by simp [Act.eval, d0]) (ci97 _ _) (number_any f2 W (HE.out.below hS.2.1) (by have := HWD.out 2; simp at this; omega)) ?_
                        rintro e w' h1
                        unfold NumR at h1
                        cases hn : nuP f2 with
                        | none =>
                          rw [hn] at h1
                          obtain ⟨rfl, hb⟩ := h1
                          exact ⟨hdf, VrR.bad (HBB.out (HS5.out hn)) (below3 hS.2.1 hb) (HKP.out.trans (hS.1.trans (Keep.of_below hb)))⟩
                        | some y =>
                          rw [hn] at h1
                          obtain ⟨rfl, hb⟩ := h1
                          exact ⟨_, rfl, ⟨by first | rfl | (rw [hn]; rfl), by first | rfl | (rw [hn]; rfl)⟩, ⟨hS.1.trans (Keep.of_below hb), below3 hS.2.1 hb, fun hn => (hS.2.2 (not_more hn)).next hb⟩, fun j oj u _ _ _ _ hu => sV_keep hb (by decide) hu⟩
                      | 8, ho =>
                        obtain rfl := (Option.some.inj ho).symm
                        obtain ⟨_, v0, h0, d0⟩ := dep 0 _ rfl (by kernel_rfl)
                        obtain ⟨_, v1, h1, d1⟩ := dep 3 _ rfl (by kernel_rfl)
                        obtain ⟨_, v2, ⟨hny, rfl⟩, d2⟩ := dep 7 _ rfl (by kernel_rfl)
                        obtain rfl : v0 = .pointer (some ⟨b, 0, none⟩) := h0
                        obtain rfl : v1 = .string (arr f0) := h1
                        have d0 := d0 36 rfl
                        have d1 := d1 39 rfl
                        have d2 := d2 43 rfl
                        have hrr := nuP_range hny
                        refine wp_call1 (args := #[.pointer (some ⟨b, 0, none⟩), .string (arr f0), .int .i64 ((nuP f2).getD 0)]) rfl (by simp [Act.eval, d0, d1, d2]) (ci98 _ _) (rses_any b t2 f0 ((nuP f2).getD 0) w0 W (hS.2.2 (by rw [hl]; simp)) HE.out (by omega) hrr.2) ?_
                        rintro e w' ⟨h3, hb, hk9⟩
                        cases hn : sesP nuP f0 ((nuP f2).getD 0) t2 with
                        | none =>
                          rw [hn] at h3
                          simp only at h3
                          subst h3
                          exact ⟨hdf, VrR.bad (HBB.out ((HS6.out _ hny).1 hn)) hb (HKP.out.trans (hS.1.trans hk9))⟩
                        | some p =>
                          obtain ⟨xs, t9⟩ := p
                          rw [hn] at h3
                          obtain ⟨v, rfl, hr9, hd9⟩ := h3
                          exact ⟨v, rfl, ⟨xs, t9, hn, row_base hr9 hS.1.1, hd9⟩, ⟨hS.1.trans hk9, hb, fun h => absurd (listed_now hl) h⟩, fun j oj u _ hne _ _ hu => sV_call hl hne hu⟩
                      | 9, ho =>
                        obtain rfl := (Option.some.inj ho).symm
                        obtain ⟨h8, v0, h0, d0⟩ := dep 8 _ rfl (by kernel_rfl)
                        have d0 := d0 44 rfl
                        unfold Oper.wp
                        simp [go_sem, d0]
                        exact ⟨_, rfl, ⟨h0, listed_more h8⟩, ⟨hS.1, hS.2.1, fun hn => hS.2.2 (not_more hn)⟩, fun j oj u _ _ _ _ hu => sV_keep (Below.refl _ _) (by decide) hu⟩
                    · intro vs W hS hV
                      have h7 := hV 7 _ rfl
                      obtain ⟨⟨ys, t3, hs7, hr7, hd7⟩, _⟩ := hV 9 _ rfl
                      obtain ⟨n2, hn2⟩ : ∃ y, nuP f2 = some y := ⟨_, h7.1⟩
                      rw [hn2] at hs7
                      simp only [Option.getD_some] at hs7
                      have HSTP := Lib.hid (HA.out.step (((HS6.out n2 hn2).2 ys t3 hs7)))
                      have hlt4 := repS_len4 _ hs7
                      obtain ⟨⟨ya, yn, yc⟩, hv9, _⟩ := SRow.sv hr7
                      replace hv9 : vs 9 = .slice ya yn yc := hv9
                      rw [hv9] at hr7
                      have HYS := Lib.hid (row_base hr7 hM3)
                      have HXS := Lib.hid (hS.1.row HXS.out hbM)
                      have HRD := Lib.hid hd7
                      have HBw := Lib.hid hS.2.1
                      have HBX := Lib.hid (HBX.out.keepB hS.1 hBb HBw.out)
                      have HRS := Lib.hid (HRS.out.keepB hS.1 hRb HBw.out)
                      have HHR := Lib.hid (HHR.out.keepB hS.1 hbM)
                      have HKP := Lib.hid (HKP.out.trans hS.1)
                      have q0 := keep_cell hS.1 q0 (Ne.symm hgb2)
                      have hM3 : M ≤ W.heap.size := Nat.le_trans hM3 hS.1.1
                      have hz4 : w.heap.size ≤ W.heap.size := HKP.out.1
                      have hcsl : cs.length < 4294967281 := by have := HL.out; omega
                      have hM0 : w0.heap.size ≤ M := by omega
                      clear h7 hV hS hs7 hr7 hd7 hn2 HS5 HS6 HBB HA q2 HDR
                      simp only [putAll, Act.put, List.setIfInBounds_toArray, List.set_cons_zero, List.set_cons_succ]
                      rw [hv9]
                      clear hv9
                      obtain ⟨w5, hw5⟩ : ∃ w5 : World, w5 = W := ⟨_, rfl⟩
                      subst hw5
                      obtain ⟨us2, hus2⟩ : ∃ us : Nat → Value, us = vs := ⟨_, rfl⟩
                      subst hus2
                      have hcB : ∀ (L : Array Bool) (W : World), (Below w.heap.size w5 W ∧ M ≤ W.heap.size ∧ (¬ L[11]? = some true → Below M w5 W) ∧ (¬ L[9]? = some true → Below w5.heap.size w5 W) ∧ W.heap[R]? = w5.heap[R]?) → ¬ L[11]? = some true → W.cell? ⟨B, 2, none⟩ = some (.slice sa sn sc) := fun L W h h11 => (HBX.out.bel (h.2.2.1 h11) hBM hM0).three.1.2.2
                      go_upto_region 8 with fail
                      refine wp_region_rel (N := 58) (cV B g2 o2 c2 M f0 (xa, xn, xc) (ya, yn, yc) (sa, sn, sc) y0 y1 cs xs ys w0) (fun L W => Below w.heap.size w5 W ∧ M ≤ W.heap.size ∧ (¬ L[11]? = some true → Below M w5 W) ∧ (¬ L[9]? = some true → Below w5.heap.size w5 W) ∧ W.heap[R]? = w5.heap[R]?) (by kernel_rfl) (by kernel_rfl) (by rfl) ⟨(bel_drew0 _).mono hz4, hM3, fun _ => (bel_drew0 _).mono hM3, fun _ => bel_drew0 _, rfl⟩ ?_ ?_
                      · intro i o L a W ho hl hL hS hdf dep all fr
                        match i, ho with
                        | 0, ho =>
                          obtain rfl := (Option.some.inj ho).symm
                          have f8 := fr 4 (by kernel_rfl)
                          unfold Oper.wp
                          simp [go_sem, f8]
                          exact ⟨_, rfl, rfl, ⟨hS.1, hS.2.1, fun hn => hS.2.2.1 (not_more hn), fun hn => hS.2.2.2.1 (not_more hn), hS.2.2.2.2⟩, fun j oj u _ _ _ _ hu => cV_keep (Below.refl _ _) (by decide) hu⟩
                        | 1, ho =>
                          obtain rfl := (Option.some.inj ho).symm
                          obtain ⟨_, v0, h0, d0⟩ := dep 0 _ rfl (by kernel_rfl)
                          have d0 := d0 45 rfl
                          obtain rfl : v0 = .pointer (some ⟨B, 2, none⟩) := h0
                          have hn11 : ¬ L[11]? = some true := fun h => by
                            obtain ⟨v, hv⟩ := all 11 _ rfl h
                            have := hv.1.2
                            rw [hl] at this; cases this
                          have hc := hcB L W hS hn11
                          unfold Oper.wp
                          simp [go_sem, d0, hc]
                          exact ⟨_, rfl, rfl, ⟨hS.1, hS.2.1, fun hn => hS.2.2.1 (not_more hn), fun hn => hS.2.2.2.1 (not_more hn), hS.2.2.2.2⟩, fun j oj u _ _ _ _ hu => cV_keep (Below.refl _ _) (by decide) hu⟩
                        | 2, ho =>
                          obtain rfl := (Option.some.inj ho).symm
                          have f8 := fr 5 (by kernel_rfl)
                          unfold Oper.wp
                          simp [go_sem, f8]
                          exact ⟨_, rfl, rfl, ⟨hS.1, hS.2.1, fun hn => hS.2.2.1 (not_more hn), fun hn => hS.2.2.2.1 (not_more hn), hS.2.2.2.2⟩, fun j oj u _ _ _ _ hu => cV_keep (Below.refl _ _) (by decide) hu⟩
                        | 3, ho =>
                          obtain rfl := (Option.some.inj ho).symm
                          obtain ⟨_, v2, h2, d2⟩ := dep 2 _ rfl (by kernel_rfl)
                          have d2 := d2 47 rfl
                          obtain rfl : v2 = .slice (some ⟨g2, o2, none⟩) 3 c2 := h2
                          unfold Oper.wp
                          simp [go_sem, d2]
                          exact ⟨_, rfl, rfl, ⟨hS.1, hS.2.1, fun hn => hS.2.2.1 (not_more hn), fun hn => hS.2.2.2.1 (not_more hn), hS.2.2.2.2⟩, fun j oj u _ _ _ _ hu => cV_keep (Below.refl _ _) (by decide) hu⟩
                        | 4, ho =>
                          obtain rfl := (Option.some.inj ho).symm
                          obtain ⟨_, v3, h3, d3⟩ := dep 3 _ rfl (by kernel_rfl)
                          have d3 := d3 48 rfl
                          obtain rfl : v3 = .pointer (some ⟨g2, o2, none⟩) := h3
                          have hn9 : ¬ L[9]? = some true := fun h => by
                            obtain ⟨v, hv⟩ := all 9 _ rfl h
                            have := hv.1.2
                            rw [hl] at this; cases this
                          have hc := below_cell9 (hS.2.2.2.1 hn9) q0
                          unfold Oper.wp
                          simp [go_sem, d3, hc]
                          exact ⟨_, rfl, rfl, ⟨hS.1, hS.2.1, fun hn => hS.2.2.1 (not_more hn), fun hn => hS.2.2.2.1 (not_more hn), hS.2.2.2.2⟩, fun j oj u _ _ _ _ hu => cV_keep (Below.refl _ _) (by decide) hu⟩
                        | 5, ho =>
                          obtain rfl := (Option.some.inj ho).symm
                          have f8 := fr 6 (by kernel_rfl)
                          unfold Oper.wp
                          simp [go_sem, f8]
                          exact ⟨_, rfl, rfl, ⟨hS.1, hS.2.1, fun hn => hS.2.2.1 (not_more hn), fun hn => hS.2.2.2.1 (not_more hn), hS.2.2.2.2⟩, fun j oj u _ _ _ _ hu => cV_keep (Below.refl _ _) (by decide) hu⟩
                        | 6, ho =>
                          obtain rfl := (Option.some.inj ho).symm
                          have f8 := fr 7 (by kernel_rfl)
                          unfold Oper.wp
                          simp [go_sem, f8]
                          exact ⟨_, rfl, rfl, ⟨hS.1, hS.2.1, fun hn => hS.2.2.1 (not_more hn), fun hn => hS.2.2.2.1 (not_more hn), hS.2.2.2.2⟩, fun j oj u _ _ _ _ hu => cV_keep (Below.refl _ _) (by decide) hu⟩
                        | 7, ho =>
                          obtain rfl := (Option.some.inj ho).symm
                          obtain ⟨_, v4, h4, d4⟩ := dep 4 _ rfl (by kernel_rfl)
                          have d4 := d4 49 rfl
                          obtain rfl : v4 = .string (arr f0) := h4
                          obtain ⟨_, v5, h5, d5⟩ := dep 5 _ rfl (by kernel_rfl)
                          have d5 := d5 50 rfl
                          obtain rfl : v5 = .slice xa xn xc := h5
                          obtain ⟨_, v6, h6, d6⟩ := dep 6 _ rfl (by kernel_rfl)
                          have d6 := d6 51 rfl
                          obtain rfl : v6 = .slice ya yn yc := h6
                          have h4l := (dep 4 _ rfl (by kernel_rfl)).1
                          unfold Oper.wp
                          simp [go_sem, d4, d5, d6]
                          exact ⟨_, rfl, ⟨rfl, listed_more h4l⟩, ⟨hS.1, hS.2.1, fun hn => hS.2.2.1 (not_more hn), fun hn => hS.2.2.2.1 (not_more hn), hS.2.2.2.2⟩, fun j oj u _ _ _ _ hu => cV_keep (Below.refl _ _) (by decide) hu⟩
                        | 8, ho =>
                          obtain rfl := (Option.some.inj ho).symm
                          obtain ⟨_, v7, ⟨rfl, h4l⟩, d7⟩ := dep 7 _ rfl (by kernel_rfl)
                          have d7 := d7 52 rfl
                          unfold Oper.wp
                          simp [go_sem, d7]
                          exact ⟨_, rfl, ⟨listed_more h4l, W.heap.size, rfl, fun _ => KAt.one W ((f0, (xa, xn, xc), (ya, yn, yc)) : RChg) _⟩, ⟨hS.1.alloc (Nat.le_trans hz4 hS.1.size) _, by simp; exact Nat.le_succ_of_le hS.2.1, fun hn => (hS.2.2.1 (not_more hn)).alloc hS.2.1 _, fun hn => (hS.2.2.2.1 (not_more hn)).alloc (hS.2.2.2.1 (not_more hn)).size _, (((Below.refl W.heap.size W).alloc (Nat.le_refl _) _).block R (Nat.lt_of_lt_of_le hRM hS.2.1)).trans hS.2.2.2.2⟩, fun j oj u _ _ _ _ hu => cV_keep ((Below.refl _ _).alloc (Nat.le_refl _) _) (by decide) hu⟩
                        | 9, ho =>
                          obtain rfl := (Option.some.inj ho).symm
                          have h1l := (dep 1 _ rfl (by kernel_rfl)).1
                          obtain ⟨_, v1, h1, d1⟩ := dep 1 _ rfl (by kernel_rfl)
                          have d1 := d1 46 rfl
                          obtain rfl : v1 = .slice sa sn sc := h1
                          obtain ⟨_, v8, ⟨h4l, G, rfl, hk8⟩, d8⟩ := dep 8 _ rfl (by kernel_rfl)
                          have d8 := d8 53 rfl
                          have hn9 : ¬ L[9]? = some true := by rw [hl]; simp
                          have hn11 : ¬ L[11]? = some true := fun h => by
                            obtain ⟨v, hv⟩ := all 11 _ rfl h
                            exact hn9 hv.1.1
                          have hbm := hS.2.2.1 hn11
                          have hbw5 := hS.2.2.2.1 hn9
                          obtain ⟨rs, hkr, hown⟩ := HHR.out.below hbw5
                          have hx := row_below HXS.out hbw5
                          have hy := row_below HYS.out hbw5
                          have hrl : rs.length = cs.length := hown.1
                          refine wp_app elemChg encChg (.tmp 46) (.tmp 53) rfl M (.slice sa sn sc) rs (by simp [Act.eval, d1]) hkr (some ⟨G, 0, none⟩) 1 1 [(f0, (xa, xn, xc), (ya, yn, yc))] (by simp [Act.eval, d8]) (hk8 hn9) (by simp; omega) hS.2.1 ?_
                          intro v' w' hr' hb' hg' _
                          exact ⟨v', rfl, ⟨⟨listed_more h1l, listed_more h4l⟩, _, hr', (hown.kept hkr hg').snoc ⟨rfl, row_kept hx hkr (by decide) hg', row_kept hy hkr (by decide) hg'⟩⟩, ⟨hS.1.trans (hb'.mono hMw), Nat.le_trans hS.2.1 hb'.size, fun _ => hbm.trans hb', fun h => absurd (listed_now hl) h, (hb'.block R hRM).trans hS.2.2.2.2⟩, fun j oj u _ hne _ _ hu => cV_app hl hne hu⟩
                        | 10, ho =>
                          obtain rfl := (Option.some.inj ho).symm
                          have f8 := fr 4 (by kernel_rfl)
                          unfold Oper.wp
                          simp [go_sem, f8]
                          exact ⟨_, rfl, rfl, ⟨hS.1, hS.2.1, fun hn => hS.2.2.1 (not_more hn), fun hn => hS.2.2.2.1 (not_more hn), hS.2.2.2.2⟩, fun j oj u _ _ _ _ hu => cV_keep (Below.refl _ _) (by decide) hu⟩
                        | 11, ho =>
                          obtain rfl := (Option.some.inj ho).symm
                          obtain ⟨_, v10, h10, d10⟩ := dep 10 _ rfl (by kernel_rfl)
                          have d10 := d10 55 rfl
                          obtain rfl : v10 = .pointer (some ⟨B, 2, none⟩) := h10
                          obtain ⟨h9l, v9, ⟨⟨h1l, _⟩, hv9⟩, d9⟩ := dep 9 _ rfl (by kernel_rfl)
                          have d9 := d9 54 rfl
                          obtain ⟨⟨a9, n9, c9⟩, e9, _⟩ := hv9.hv
                          replace e9 : v9 = .slice a9 n9 c9 := e9
                          subst e9
                          have hn11 : ¬ L[11]? = some true := by rw [hl]; simp
                          have hbm := hS.2.2.1 hn11
                          have hbx := HBX.out.bel hbm hBM hM0
                          obtain ⟨⟨_, _, e2⟩, _, _, z2⟩ := hbx.three
                          have hset := hbx.set 2 (.slice a9 n9 c9)
                          unfold Oper.wp
                          simp [go_sem, d10, d9, e2, z2]
                          exact ⟨.tuple #[], rfl, ⟨⟨listed_more h9l, listed_more h1l⟩, a9, n9, c9, hv9.set (p := ⟨B, 2, none⟩) hBM _, hset⟩, ⟨hS.1.setCell (p := ⟨B, 2, none⟩) hBw _, by rw [World.size_setCell]; exact hS.2.1, fun h => absurd (listed_now hl) h, fun h => absurd (listed_more h9l) h, (heap_setCell_other _ _ _ _ (Ne.symm hBR)).trans hS.2.2.2.2⟩, fun j oj u _ hne _ _ hu => cV_store h9l hne hBM _ hu⟩
                      · intro vs W hS hV
                        obtain ⟨_, a9, n9, c9, hh9, hbx⟩ := hV 11 _ rfl
                        have HB9 := Lib.hid hS.1
                        have HH9 := Lib.hid hh9
                        have HBX := Lib.hid hbx
                        have HRS : Hid (BX w0 W R _ _) := Lib.hid ⟨hS.2.2.2.2.trans HRS.out.hp, HRS.out.lo, HRS.out.bl.trans (HB9.out.mono hw00)⟩
                        have HRD := Lib.hid (HRD.out.bel HB9.out hbw hw00)
                        have HKP := Lib.hid (HKP.out.bel HB9.out)
                        have HM9 := Lib.hid hS.2.1
                        clear hh9 hbx hV hS
                        simp only [putAll, Act.put, List.setIfInBounds_toArray, List.set_cons_zero, List.set_cons_succ]
                        go_wp2_with fail
                        go_roundw
                        case rel => exact ⟨i + 1, cs ++ [(f0, xs, ys)], t3, (a9, n9, c9), by go_num, by omega, HBX, HRS, HH9, HM9, HRD, HKP, Lib.hid (by rw [show y2.toNat - (i + 1) = k by omega]; exact HSTP.out), Lib.hid (by have := HL.out; rw [List.length_append]; simp; omega)⟩
                        case measure => simp [intOf]; omega
            · have hk : y2.toNat - i = 0 := by omega
              rw [hk] at HA
              have HN := Lib.hid (HRR.out.trans (congrArg _ HA.out.stop))
              clear HA
              obtain ⟨⟨e0, e1, e2⟩, _⟩ := HBX.out.three
              obtain ⟨⟨k0, k1, k2⟩, z0, z1, z2⟩ := HRS.out.three
              have HRS9 := Lib.hid (HRS.out.set3 (.int .i64 y0) (.int .i64 y1) (.slice sa sn sc))
              have HHR9 := Lib.hid (((HHR.out.set (p := ⟨R, 0, none⟩) hRM (.int .i64 y0)).set (p := ⟨R, 1, none⟩) hRM (.int .i64 y1)).set (p := ⟨R, 2, none⟩) hRM (.slice sa sn sc))
              have HB9 : Hid (Below w.heap.size wr (((wr.setCell ⟨R, 0, none⟩ (.int .i64 y0)).setCell ⟨R, 1, none⟩ (.int .i64 y1)).setCell ⟨R, 2, none⟩ (.slice sa sn sc))) := Lib.hid ((((Below.refl _ _).setCell (p := ⟨R, 0, none⟩) hRw _).setCell (p := ⟨R, 1, none⟩) hRw _).setCell (p := ⟨R, 2, none⟩) hRw _)
              go_wp2_with fail
              generalize ((World.setCell wr ⟨R, 0, none⟩ (.int .i64 y0)).setCell ⟨R, 1, none⟩ (.int .i64 y1)).setCell ⟨R, 2, none⟩ (.slice sa sn sc) = W9 at *
              clear k0 k1 k2 z0 z1 z2
              obtain ⟨⟨k0, k1, k2⟩, _⟩ := HRS9.out.three
              refine bodyPost_ret (v := .agg #[.int .i64 y0, .int .i64 y1, .slice sa sn sc]) (by simp [results, Tryz.results316, go_sem, k0, k1, k2]) rfl ?_
              exact VrR.ok (s := (sa, sn, sc)) HN.out (HHR9.out.base hMw) (HRD.out.bel HB9.out hbw hw00) (HKP.out.bel HB9.out)
end Go.Proofs.YtcifdllbnbhcdaaGreatDoor
