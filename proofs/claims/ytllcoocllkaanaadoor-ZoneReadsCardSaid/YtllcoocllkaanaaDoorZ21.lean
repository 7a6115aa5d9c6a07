import Derived.Test.YtllcoocllkaanaaDoorZ20
namespace Go.Proofs.YtllcoocllkaanaaDoor
open Go.RowKit

def tab3 (a b c r : Int) : Int := if r = 0 then a else if r = 1 then b else c
theorem tab3_el (a b c r : Int) (r0 : 0 ≤ r) (r1 : r < 3) (h : r.toNat < ([.int .i64 a, .int .i64 b, .int .i64 c] : List Value).length) : ([.int .i64 a, .int .i64 b, .int .i64 c] : List Value)[r.toNat]'h = .int .i64 (tab3 a b c r) := by
  rcases (show r = 0 ∨ r = 1 ∨ r = 2 from by omega) with rfl | rfl | rfl <;> rfl
theorem tab3_cell (a b c r : Int) (T : TypeId) (r0 : 0 ≤ r) (r1 : r < 3) (W : World) : (W.alloc (.cells #[.int .i64 a, .int .i64 b, .int .i64 c] T)).cell? ⟨W.heap.size, r.toNat, none⟩ = some (.int .i64 (tab3 a b c r)) := by
  rw [World.cell?_alloc_at _ _ _ _ rfl]
  rcases (show r = 0 ∨ r = 1 ∨ r = 2 from by omega) with rfl | rfl | rfl <;> rfl
theorem tab3_but {p : Nat} {a b c r : Int} {T : TypeId} {W w1 : World} (h : But p (W.alloc (.cells #[.int .i64 a, .int .i64 b, .int .i64 c] T)) w1) (hp : p < W.heap.size) (r0 : 0 ≤ r) (r1 : r < 3) : w1.cell? ⟨W.heap.size, r.toNat, none⟩ = some (.int .i64 (tab3 a b c r)) := by
  rw [h.cell (by simp) (by omega)]
  exact tab3_cell a b c r T r0 r1 W
theorem tab3_in (r : Int) : -240 ≤ tab3 120 121 (-240) r ∧ tab3 120 121 (-240) r ≤ 121 := by unfold tab3; repeat (first | split | omega)
theorem SomeZ.alloc {p : Nat} {w w' : World} {e : Ending} (h : SomeZ p w e w') (o : Obj) : SomeZ p w e (w'.alloc o) := by
  obtain ⟨s, off, a, cap, xs, h1, h2, h3, h4, h5, h6⟩ := h
  refine ⟨s, off, a, cap, xs, h1, h2, h3, ?_, h5.alloc o, h6.alloc o⟩
  rcases h4 with h4 | ⟨b, of, ha, hb, hP⟩
  · exact Or.inl h4
  · exact Or.inr ⟨b, of, ha, hb, hP.below ((Below.refl _ _).alloc (Nat.le_refl _) o)⟩
theorem cell_two_new (w : World) (x y : Value) (T : TypeId) : ∀ j u, ([x, y] : List Value)[j]? = some u → (w.alloc (.cells #[x, y] T)).cell? ((⟨w.heap.size, 0, none⟩ : Addr).add j) = some u := fun j u hj => by
  rw [Go.WideShapes.add_plain, World.cell?_alloc_at _ _ _ _ rfl]
  match j, hj with
  | 0, hj => simpa using hj
  | 1, hj => simpa using hj
  | j + 2, hj => simp at hj
theorem row_cell {w : World} {B g n cap j : Nat} {xs : Prs} (h : w.ownsRow B 43 2 (.slice (some ⟨g, 0, none⟩) n cap) n (pcells xs)) (hL : xs.length = n) (hj : j < n) :
    w.cell? ⟨g, j * 2, none⟩ = some (.int .i64 (xs.getD j (0, 0)).1) ∧ w.cell? ⟨g, j * 2 + 1, none⟩ = some (.int .i64 (xs.getD j (0, 0)).2) ∧ w.frozen? ⟨g, j * 2, none⟩ = false ∧ w.frozen? ⟨g, j * 2 + 1, none⟩ = false := by
  obtain ⟨p1, p2⟩ := pcells_at xs j (by omega)
  refine ⟨by rw [h.cellAt _ (by omega)]; exact p1, by rw [h.cellAt _ (by omega)]; exact p2, ?_⟩
  rcases h.2 with ⟨e, _⟩ | ⟨g', c, cur, e, _, hh, _⟩
  · cases e
  · cases e; simp [World.frozen?, hh]

def ZMid2 (w : World) (p g n cap : Nat) (s : ByteArray) (off : Int) (xs : Prs) (s6 : Value) (wx : World) : Prop :=
  ∃ r : Nat, r < n ∧ s6 = .pointer (some ⟨g, r * 2, none⟩) ∧ ZO w wx p s off (.slice (some ⟨g, 0, none⟩) n cap) ∧ wx.ownsRow (w.heap.size + 2) 43 2 (.slice (some ⟨g, 0, none⟩) n cap) n (pcells xs)

set_option maxRecDepth 100000 in
set_option maxHeartbeats 64000000 in
theorem odd_some (p : Nat) (s : ByteArray) (off : Int) (b n cap B : Nat) (xs : Prs) (w : World) (hs : s.size ≤ 6) (hD : DiceAt w p) (hlen : n ≤ 3) (h0 : 0 < n) (hL : xs.length = n) (hown : w.ownsRow B 43 2 (.slice (some ⟨b, 0, none⟩) n cap) n (pcells xs)) (hX : ∀ x ∈ xs, (0 ≤ x.1 ∧ x.1 ≤ 900000) ∧ (-840 ≤ x.2 ∧ x.2 ≤ 840)) :
    Calls Tryd.prog 33 #[.pointer (some ⟨p, 0, none⟩), .agg #[.string s, .int .i64 off, .slice (some ⟨b, 0, none⟩) n cap]] w (SomeZ p w) := by
  have hp := hD.lt
  have hW0 := zo_start s off (.slice (some ⟨b, 0, none⟩) n cap) hD
  have HW0 := Lib.hid hW0
  have z0 := lt_of_heap hW0.h2
  have z00 := lt_of_heap hW0.h3
  have hrow : ((w.alloc (.cells #[.string s, .int .i64 off, .slice (some ⟨b, 0, none⟩) n cap] 24)).alloc (.cells #[.string ⟨#[]⟩, .int .i64 0, .slice none 0 0] 24)).ownsRow B 43 2 (.slice (some ⟨b, 0, none⟩) n cap) n (pcells xs) := row_below hown (((Below.refl _ _).alloc (Nat.le_refl _) _).alloc (by simp) _)
  have hcap : n ≤ cap ∧ cap ≤ 9223372036854775807 := by
    rcases hown.2 with ⟨e, _⟩ | ⟨g, c, cur, e, _, _, h1, h2, _⟩
    · cases e
    · cases e; unfold maxLen at h2; exact ⟨h1, by omega⟩
  have HNEWS : Hid (∀ (W : World), (∀ x, W.cell? x = ((w.alloc (.cells #[.string s, .int .i64 off, .slice (some ⟨b, 0, none⟩) n cap] 24)).alloc (.cells #[.string ⟨#[]⟩, .int .i64 0, .slice none 0 0] 24)).cell? x) → ∀ j u, (pcells xs)[j]? = some u → W.cell? ((⟨b, 0, none⟩ : Addr).add j) = some u) := Lib.hid (fun W hW j u hj => by
    have hjn : j < n * 2 := by
      by_cases c : j < n * 2
      · exact c
      · rw [List.getElem?_eq_none (by rw [pcells_len]; omega)] at hj; cases hj
    rw [hW, Go.WideShapes.add_plain, Nat.zero_add, hrow.cellAt j hjn]; exact hj)
  have HOC : Hid (∀ u ∈ pcells xs, u.oneCell' = true) := Lib.hid (fun u hu => by
    unfold pcells at hu
    rw [List.mem_flatMap] at hu
    obtain ⟨d, _, hd⟩ := hu
    simp at hd
    rcases hd with rfl | rfl <;> rfl)
  have HPL : Hid ((pcells xs).length = n * 2) := Lib.hid (by rw [pcells_len, hL])
  have HL := Lib.hid hL
  have HX := Lib.hid hX
  obtain ⟨hcap1, hcap2⟩ := hcap
  obtain ⟨i0, hi, hz0, hz1, hz2⟩ := info_parts info43
  have HI0 := Lib.hid hi; have HZ0 := Lib.hid hz0; have HZ1 := Lib.hid hz1; have HZ2 := Lib.hid hz2
  clear hi hz0 hz1 hz2 hD hW0 hrow hL hX hown
  go_enter Tryd.func33, Tryd.ntmps33
  go_wp2_with (at_builtin; refine wpList_append_lies _ rfl _ _ _ rfl (w.heap.size + 2) 43 i0 (.agg #[.int .i64 0, .int .i64 0]) 2 16 Tryd.underlying22 HI0.out HZ0.out HZ1.out HZ2.out rfl (by omega) (.slice none 0 0) 0 [] (by rfl) (World.ownsRow_nil _ _ _ _) ⟨b, 0, none⟩ n cap (pcells xs) (by rfl) HPL.out (HNEWS.out _ (fun _ => rfl)) HOC.out h0 ?m1 ?m2 ?m3 (w.heap.size + 2) ?m4 ?_)
  case m1 => unfold maxLen; omega
  case m2 => omega
  case m3 => simp
  case m4 => simp
  intro g cap1 w1 hown hgrow _ _
  have hW1 := HW0.out.grown hp hgrow (fun q hq => by cases hq)
  have HW1 := Lib.hid hW1
  have HO1 := Lib.hid hown
  have hg2 := (hown.lt g rfl).1
  have zl := lt_of_heap hW1.h2
  have zl0 := lt_of_heap hW1.h3
  have hcap3 : n ≤ cap1 ∧ cap1 ≤ 9223372036854775807 := by
    rcases hown.2 with ⟨e, _⟩ | ⟨g, c, cur, e, _, _, h1, h2, _⟩
    · cases e
    · cases e; unfold maxLen at h2; exact ⟨h1, by omega⟩
  obtain ⟨hcap3, hcap4⟩ := hcap3
  obtain ⟨⟨c0, c1, c2⟩, f0, f1, f2⟩ := cells3_of hW1.h3
  clear hgrow hown HW0 HNEWS HOC HPL z0 z00 hcap1 hcap2
  go_wp2_with fail
  have hS : ZO w _ p s off (.slice (some ⟨g, 0, none⟩) n cap1) := hW1.set hp 2 (.slice (some ⟨g, 0, none⟩) n cap1) rfl
  have HOS := Lib.hid (ownsRow_setCell_below HO1.out (a := ⟨w.heap.size, 2, none⟩) (by show w.heap.size < w.heap.size + 2; omega) (.slice (some ⟨g, 0, none⟩) n cap1))
  clear HO1 HW1 hW1 zl zl0 c0 c1 c2 f0 f1 f2
  generalize w1.setCell ⟨w.heap.size, 2, none⟩ (.slice (some ⟨g, 0, none⟩) n cap1) = wS at *
  obtain ⟨⟨c0, c1, c2⟩, f0, f1, f2⟩ := cells3_of hS.h3
  have HWS := Lib.hid hS
  clear hS
  have hn1 : (1 : Int) ≤ (n : Int) := by omega
  have hn2 : (n : Int) ≤ 1000000000000 := by omega
  go_upto_region 6 with fail
  go_cut [6] (fun s6 wx => ZMid2 w p g n cap1 s off xs s6 wx)
  case first =>
    go_region_with (go_at_call 34; refine next_go p n _ hn1 hn2 ?_ ?_; (first | exact HWS.out.dice.drew | exact HWS.out.dice); intro r w2 r0 r1 hd2 hb2 hl2 hs2 hq1 hq2 hq3 hqc hqf hqz; clear hqc hqf hqz; have BN : But p wS w2 := (by first | exact hb2.undrew | exact hb2); have HW2 := Lib.hid (HWS.out.next hp hd2 BN); have HO2 := Lib.hid (row_but HOS.out BN (by omega)); obtain ⟨⟨k0, k1, k2⟩, _, _, _⟩ := cells3_of HW2.out.h3)
    all_goals (
      go_wp2_with fail
      go_meet
      exact ⟨r.toNat, by omega, rfl, HW2.out, HO2.out⟩)
  case rest =>
    obtain ⟨r, hr, rfl, hW2, hown2⟩ := hcut
    have HW2 := Lib.hid hW2
    have HO2 := Lib.hid hown2
    clear hW2 hown2 c0 c1 c2 f0 f1 f2 HOS HWS
    go_wp2_with (first | (go_at_call 34; refine next_go p 5 _ (by decide) (by decide) HW2.out.dice ?_) | fail)
    intro q w3 q0 q1 hd3 hb3 hl3 hs3 hn1 hn2 hn3 hc3 hf3 hz3; clear hc3 hf3 hz3 hn1 hn2 hn3
    have hW3 := HW2.out.next hp hd3 hb3
    have HW3 := Lib.hid hW3
    have HO3 := Lib.hid (row_but HO2.out hb3 (by omega))
    have zl := lt_of_heap hW3.h2
    have zl0 := lt_of_heap hW3.h3
    obtain ⟨⟨c0, c1, c2⟩, f0, f1, f2⟩ := cells3_of hW3.h3
    obtain ⟨⟨d0, d1, d2⟩, e0, e1, e2⟩ := cells3_of hW3.h2
    clear hW3 hd3 hb3 HW2 HO2
    rcases (show q = 0 ∨ q = 1 ∨ q = 2 ∨ q = 3 ∨ q = 4 by omega) with rfl | rfl | rfl | rfl | rfl
    · go_wp2_with fail
      refine bodyPost_ret (v := .agg #[.string ⟨#[]⟩, .int .i64 off, .slice (some ⟨g, 0, none⟩) n cap1]) ?_ rfl (zo_fin (xs := xs) hp (by decide) (by have := HL.out; omega) HL.out (HW3.out.set hp 0 (.string ⟨#[]⟩) rfl) (ownsRow_setCell_below HO3.out (by show w.heap.size < w.heap.size + 2; omega) _))
      simp [results, Tryd.results33, go_sem, d0, d1, d2]
    · go_wp2_with (first | (go_at_call 34; refine next_go p 3 _ (by decide) (by decide) (HW3.out.alloc hp _).dice ?_) | fail)
      intro q2 w4 q20 q21 hd4 hb4 hl4 hs4 hn1 hn2 hn3 hc4 hf4 hz4; clear hc4 hf4 hz4 hn1 hn2 hn3
      have hW4 := (HW3.out.alloc hp (.cells #[.int .i64 840, .int .i64 841, .int .i64 (-841)] 3)).next hp hd4 hb4
      have HO4 := Lib.hid (row_but HO3.out (((But.refl p w3).alloc _).trans hb4) (by omega))
      have ht : ∀ o, w4.cell? ⟨w3.heap.size, o, none⟩ = (#[.int .i64 840, .int .i64 841, .int .i64 (-841)] : Array Value)[o]? := fun o => by
        rw [hb4.cell (by simp) (by omega), World.cell?_alloc_at _ _ _ _ rfl]
      clear c0 c1 c2 f0 f1 f2 d0 d1 d2 e0 e1 e2
      obtain ⟨⟨c0, c1, c2⟩, f0, f1, f2⟩ := cells3_of hW4.h3
      obtain ⟨⟨d0, d1, d2⟩, e0, e1, e2⟩ := cells3_of hW4.h2
      have ht0 := ht 0; have ht1 := ht 1; have ht2 := ht 2
      simp at ht0 ht1 ht2
      have HW4 := Lib.hid hW4
      clear ht hW4 hd4 hb4
      rcases (show q2 = 0 ∨ q2 = 1 ∨ q2 = 2 by omega) with rfl | rfl | rfl
      · go_wp2_with fail
        refine bodyPost_ret (v := .agg #[.string s, .int .i64 840, .slice (some ⟨g, 0, none⟩) n cap1]) ?_ rfl (zo_fin (xs := xs) hp hs (by have := HL.out; omega) HL.out (HW4.out.set hp 1 (.int .i64 840) rfl) (ownsRow_setCell_below HO4.out (by show w.heap.size < w.heap.size + 2; omega) _))
        simp [results, Tryd.results33, go_sem, d0, d1, d2]
      · go_wp2_with fail
        refine bodyPost_ret (v := .agg #[.string s, .int .i64 841, .slice (some ⟨g, 0, none⟩) n cap1]) ?_ rfl (zo_fin (xs := xs) hp hs (by have := HL.out; omega) HL.out (HW4.out.set hp 1 (.int .i64 841) rfl) (ownsRow_setCell_below HO4.out (by show w.heap.size < w.heap.size + 2; omega) _))
        simp [results, Tryd.results33, go_sem, d0, d1, d2]
      · go_wp2_with fail
        refine bodyPost_ret (v := .agg #[.string s, .int .i64 (-841), .slice (some ⟨g, 0, none⟩) n cap1]) ?_ rfl (zo_fin (xs := xs) hp hs (by have := HL.out; omega) HL.out (HW4.out.set hp 1 (.int .i64 (-841)) rfl) (ownsRow_setCell_below HO4.out (by show w.heap.size < w.heap.size + 2; omega) _))
        simp [results, Tryd.results33, go_sem, d0, d1, d2]
    · obtain ⟨rc0, _, _⟩ := row_cell HO3.out (j := 0) HL.out (by omega)
      obtain ⟨⟨xb0, xb1⟩, _⟩ := HX.out (xs.getD 0 (0, 0)) (by rw [List.getD_eq_getElem?_getD, List.getElem?_eq_getElem (by have := HL.out; omega)]; exact List.getElem_mem _)
      obtain ⟨rcr, _, rfr, _⟩ := row_cell HO3.out (j := r) HL.out hr
      have PS := Lib.hid (fun x => (pcells_set xs r x (by have := HL.out; omega)).1)
      generalize (xs.getD 0 (0, 0)).1 = X0 at *
      have t1 : IntKind.i64.wrap (X0 + 2878) = X0 + 2878 := IntWalk.i64_in _ (by omega)
      have gl := lt_of_cell rc0
      have gne : g ≠ p := by omega
      go_wp2_with fail
      go_region_with (go_at_call 34; refine next_go p 4 _ (by decide) (by decide) ?_ ?_; (first | exact HW3.out.dice.drew | exact HW3.out.dice); intro q2 w4 q20 q21 hd4 hb4 hl4 hs4 hn1 hn2 hn3 hc4 hf4 hz4; clear hc4 hf4 hz4 hn1 hn2 hn3; have BN : But p w3 w4 := (by first | exact hb4.undrew | exact hb4); have HW4 := Lib.hid (HW3.out.next hp hd4 BN); have HO4 := Lib.hid (row_but HO3.out BN (by omega)); obtain ⟨⟨k0, k1, k2⟩, _, _, _⟩ := cells3_of HW4.out.h3; obtain ⟨⟨l0, l1, l2⟩, m0, m1, m2⟩ := cells3_of HW4.out.h2; have zl4 := lt_of_heap HW4.out.h2; have zl5 := lt_of_heap HW4.out.h3; have u0 := (BN.cell gl gne).trans rc0; have u1 := (BN.cell gl gne).trans rcr; have u2 := (BN.frozen gl gne).trans rfr; have t2 : IntKind.i64.wrap (X0 + 2878 + q2) = X0 + 2878 + q2 := IntWalk.i64_in _ (by omega))
      all_goals (
        go_wp2_with fail
        refine bodyPost_ret (v := .agg #[.string s, .int .i64 off, .slice (some ⟨g, 0, none⟩) n cap1]) ?_ rfl (zo_fin (xs := xs.set r (X0 + 2878 + q2, (xs.getD r (0, 0)).2)) hp hs (by rw [List.length_set]; have := HL.out; omega) (by rw [List.length_set]; exact HL.out) (HW4.out.setRow hp hg2 _) (by have h := row_set (j := r * 2) HO4.out (.int .i64 (X0 + 2878 + q2)); rw [PS.out] at h; exact h))
        simp [results, Tryd.results33, go_sem, l0, l1, l2])
    · obtain ⟨_, rcr, _, rfr⟩ := row_cell HO3.out (j := r) HL.out hr
      obtain ⟨_, ⟨xb0, xb1⟩⟩ := HX.out (xs.getD r (0, 0)) (by rw [List.getD_eq_getElem?_getD, List.getElem?_eq_getElem (by have := HL.out; omega)]; exact List.getElem_mem _)
      have PS := Lib.hid (fun x => (pcells_set xs r x (by have := HL.out; omega)).2)
      generalize (xs.getD r (0, 0)).2 = X0 at *
      have gl := lt_of_cell rcr
      have gne : g ≠ p := by omega
      have zp : w3.heap.size ≠ p := by omega
      go_wp2_with fail
      go_region_with (go_at_call 34; refine next_go p 3 _ (by decide) (by decide) ?_ ?_; (repeat (first | exact HW3.out.dice | with_reducible apply DiceAt.alloc | with_reducible apply DiceAt.drew)); intro q2 w4 q20 q21 hd4 hb4 hl4 hs4 hn1 hn2 hn3 hc4 hf4 hz4; clear hc4 hf4 hz4 hn1 hn2 hn3; have hg1 := tab3_el 120 121 (-240) q2 q20 q21; (try have hgg := tab3_but hb4.undrew (by omega) q20 q21); have BN : But p w3 w4 := (by first | exact hb4 | exact hb4.undrew | exact ((But.refl p w3).alloc _).trans hb4 | exact ((But.refl p w3).alloc _).trans hb4.undrew); have HW4 := Lib.hid (HW3.out.next hp hd4 BN); have HO4 := Lib.hid (row_but HO3.out BN (by omega)); obtain ⟨⟨k0, k1, k2⟩, _, _, _⟩ := cells3_of HW4.out.h3; obtain ⟨⟨l0, l1, l2⟩, m0, m1, m2⟩ := cells3_of HW4.out.h2; have zl4 := lt_of_heap HW4.out.h2; have zl5 := lt_of_heap HW4.out.h3; have u1 := (BN.cell gl gne).trans rcr; have u2 := (BN.frozen gl gne).trans rfr; have gl4 := lt_of_cell u1; have tb := tab3_in q2; have t2 : IntKind.i64.wrap (X0 + tab3 120 121 (-240) q2) = X0 + tab3 120 121 (-240) q2 := IntWalk.i64_in _ (by omega); clear hb4)
      all_goals (
        have hfin := zo_fin (xs := xs.set r ((xs.getD r (0, 0)).1, X0 + tab3 120 121 (-240) q2)) hp hs (by rw [List.length_set]; have := HL.out; omega) (by rw [List.length_set]; exact HL.out) (HW4.out.setRow (g := g) (o := r * 2 + 1) hp hg2 (.int .i64 (X0 + tab3 120 121 (-240) q2))) (by have h := row_set (j := r * 2 + 1) HO4.out (.int .i64 (X0 + tab3 120 121 (-240) q2)); rw [PS.out] at h; exact h)
        have HF := Lib.hid hfin
        clear hfin
        go_wp2_with fail
        refine bodyPost_ret (v := .agg #[.string s, .int .i64 off, .slice (some ⟨g, 0, none⟩) n cap1]) ?_ rfl (by first | with_reducible exact HF.out | with_reducible exact HF.out.alloc _)
        simp [results, Tryd.results33, go_sem, l0, l1, l2, zl4])
    · have hX0 : 0 ≤ (xs.getD (n - 1) (0, 0)).1 ∧ (xs.getD (n - 1) (0, 0)).1 ≤ 900000 ∧ -840 ≤ (xs.getD (n - 1) (0, 0)).2 ∧ (xs.getD (n - 1) (0, 0)).2 ≤ 840 := by
        obtain ⟨h1, h2⟩ := HX.out (xs.getD (n - 1) (0, 0)) (by rw [List.getD_eq_getElem?_getD, List.getElem?_eq_getElem (by have := HL.out; omega)]; exact List.getElem_mem _)
        omega
      obtain ⟨xb0, xb1, xb2, xb3⟩ := hX0
      have hq0 : xs.getD (n - 1) (0, 0) = ((xs.getD (n - 1) (0, 0)).1, (xs.getD (n - 1) (0, 0)).2) := rfl
      generalize (xs.getD (n - 1) (0, 0)).1 = X at *
      generalize (xs.getD (n - 1) (0, 0)).2 = O at *
      have HQ0 := Lib.hid hq0
      clear hq0 c0 c1 c2 f0 f1 f2 d0 d1 d2 e0 e1 e2 zl zl0
      go_wp2_with fail
      go_loopw [7] (fun i wr => ∃ (k : Nat) (a : Nat) (cp : Nat) (ys : Prs), k ≤ 65 ∧ i = .int .i64 k ∧ Hid (ys.length = n + k) ∧ Hid (ys.getD (n - 1) (0, 0) = (X, O)) ∧ Hid (ZO w wr p s off (.slice (some ⟨a, 0, none⟩) (n + k) cp)) ∧ Hid (wr.ownsRow (w.heap.size + 2) 43 2 (.slice (some ⟨a, 0, none⟩) (n + k) cp) (n + k) (pcells ys))) (fun i _ => 65 - (intOf i).toNat)
      case atStart => exact ⟨0, g, cap1, xs, by omega, rfl, HL, HQ0, HW3, HO3⟩
      case round =>
        obtain ⟨k, a, cp, ys, hk, rfl, HLy, HQ, HW, HO⟩ := hrel
        obtain ⟨⟨c0, c1, c2⟩, f0, f1, f2⟩ := cells3_of HW.out.h3
        obtain ⟨⟨d0, d1, d2⟩, e0, e1, e2⟩ := cells3_of HW.out.h2
        have zl := lt_of_heap HW.out.h2
        have zl0 := lt_of_heap HW.out.h3
        obtain ⟨r0, r1, _, _⟩ := row_cell HO.out (j := n - 1) HLy.out (by omega)
        rw [HQ.out] at r0 r1
        simp only at r0 r1
        have ra := lt_of_cell r0
        have hcp : n + k ≤ cp ∧ cp ≤ 9223372036854775807 := by
          rcases HO.out.2 with ⟨e, _⟩ | ⟨g, c, cur, e, _, _, h1, h2, _⟩
          · cases e
          · cases e; unfold maxLen at h2; exact ⟨h1, by omega⟩
        obtain ⟨hcp1, hcp2⟩ := hcp
        by_cases hlt : k < 65
        · have t1 : IntKind.i64.wrap ((k : Int) + 1) = (k : Int) + 1 := IntWalk.i64_in _ (by omega)
          have t2 : IntKind.i64.wrap (2880 * ((k : Int) + 1)) = 2880 * ((k : Int) + 1) := IntWalk.i64_in _ (by omega)
          have t3 : IntKind.i64.wrap (X + 2880 * ((k : Int) + 1)) = X + 2880 * ((k : Int) + 1) := IntWalk.i64_in _ (by omega)
          have t4 : ((k : Int) + 1).tmod 2 = ((k : Int) + 1) % 2 := Int.tmod_eq_emod_of_nonneg (by omega)
          have t5 : IntKind.i64.wrap (((k : Int) + 1) % 2) = ((k : Int) + 1) % 2 := IntWalk.i64_in _ (by omega)
          have t6 : IntKind.i64.wrap (60 * (((k : Int) + 1) % 2)) = 60 * (((k : Int) + 1) % 2) := IntWalk.i64_in _ (by omega)
          have t7 : IntKind.i64.wrap (O + 60 * (((k : Int) + 1) % 2)) = O + 60 * (((k : Int) + 1) % 2) := IntWalk.i64_in _ (by omega)
          have t8 : IntKind.i64.wrap ((n : Int) - 1) = (n : Int) - 1 := IntWalk.i64_in _ (by omega)
          have n1 : (1 : Int) ≤ (n : Int) := by omega
          have n2 : (n : Int) - 1 < (n : Int) + (k : Int) := by omega
          have n3 : ((n : Int) - 1).toNat = n - 1 := by omega
          have n4 : n - 1 < n + k := by omega
          go_wp2_with fail
          go_region_law (first
            | (refine step_append_lies _ (by rfl) _ _ _ (by rfl) (w.heap.size + 2) 43 i0 (.agg #[.int .i64 0, .int .i64 0]) 2 16 Tryd.underlying22 HI0.out HZ0.out HZ1.out HZ2.out rfl (by omega) _ _ _ (by rfl) (HO.out.drew.alloc _)
                ⟨wr.heap.size, 0, none⟩ 1 1 [.int .i64 (X + 2880 * ((k : Int) + 1)), .int .i64 (O + 60 * (((k : Int) + 1) % 2))] (by rfl) (by rfl) (cell_two_new _ _ _ _) (by simp [Value.oneCell']) (by omega) (by unfold maxLen; omega) (by omega) (by simp; omega) (wr.heap.size + 1) (by simp) ?_; intro g4 cap4 w4 hown4 hgrow4 hat4 hlt4; have A4 := Lib.hid (((HW.out.drew hp).alloc hp _).grown hp hgrow4 (fun q hq => (HO.out.lt q hq).1)); obtain ⟨⟨c0d, c1d, c2d⟩, f0d, f1d, f2d⟩ := cells3_of A4.out.h3; have z4 := lt_of_heap A4.out.h2; have z5 := lt_of_heap A4.out.h3; have H4 := Lib.hid hown4; clear hown4 hgrow4 hat4 hlt4))
          all_goals (
            go_wp2_with fail
            go_roundw
            case rel => exact ⟨k + 1, g4, cap4, ys ++ [(X + 2880 * ((k : Int) + 1), O + 60 * (((k : Int) + 1) % 2))], by omega, by go_num, Lib.hid (by have := HLy.out; simp; omega), Lib.hid (by have h1 := HQ.out; have h2 := HLy.out; rw [List.getD_eq_getElem?_getD] at h1 ⊢; rw [List.getElem?_append_left (by omega)]; exact h1), Lib.hid (A4.out.set hp 2 (.slice (some ⟨g4, 0, none⟩) (n + k + 1) cap4) rfl), Lib.hid (by rw [pcells_app]; exact ownsRow_setCell_below H4.out (by show w.heap.size < w.heap.size + 2; omega) _)⟩
            case measure => simp [intOf]; omega)
        · obtain rfl : k = 65 := by omega
          have hfin := zo_fin (xs := ys) hp hs (by have := HLy.out; omega) HLy.out HW.out HO.out
          have HF := Lib.hid hfin
          clear hfin
          go_wp2_with fail
          refine bodyPost_ret (v := .agg #[.string s, .int .i64 off, .slice (some ⟨a, 0, none⟩) (n + 65) cp]) ?_ rfl HF.out
          simp [results, Tryd.results33, go_sem, d0, d1, d2]
end Go.Proofs.YtllcoocllkaanaaDoor
