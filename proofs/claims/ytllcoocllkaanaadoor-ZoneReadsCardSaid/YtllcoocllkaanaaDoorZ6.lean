import Derived.Test.YtllcoocllkaanaaDoorZ5
namespace Go.Proofs.YtllcoocllkaanaaDoor
open Go.RowKit

theorem info3 : (Tryd.prog.info? 3).map (fun i => (i.zero, i.size, i.bytes)) = some (some (.int .i64 0), 1, 8) := by kernel_rfl

def InsP (s : ByteArray) (off : Int) (xs : Prs) (loc : Int) (w : World) (e : Ending) (w' : World) : Prop := ∃ v, e = .returned v ∧ Ints w' v (insts s.data.toList off xs loc) ∧ Below w.heap.size w w'
theorem ints_nil (w : World) : Ints w (.slice none 0 0) [] := ⟨none, 0, rfl, rfl, by simp, Or.inl rfl⟩
theorem InsP.none {s : ByteArray} {off : Int} {xs : Prs} {loc : Int} {w w' : World} (h : insts s.data.toList off xs loc = []) (hb : Below w.heap.size w w') : InsP s off xs loc w (.returned (.slice none 0 0)) w' := ⟨_, rfl, by rw [h]; exact ints_nil w', hb⟩
theorem InsP.own {s : ByteArray} {off : Int} {xs : Prs} {loc : Int} {w w' : World} {B : Nat} {v : Value} {L : List Int} (h : insts s.data.toList off xs loc = L) (ho : w'.ownsRow B 3 1 v L.length (L.map (Value.int .i64))) (hb : Below w.heap.size w w') : InsP s off xs loc w (.returned v) w' := by
  obtain ⟨a, cap, hv, hi⟩ := IntsAt.of_owns ho
  exact ⟨v, rfl, by rw [h]; exact ⟨a, cap, hv, hi⟩, hb⟩

theorem segF_mid {xs : Prs} {j : Nat} {loc bg po : Int} (h : j < xs.length) : segF loc bg po (xs.drop j) = (if bg ≤ loc - po ∧ loc - po < (xs.getD j (0, 0)).1 then [loc - po] else []) ++ segF loc (xs.getD j (0, 0)).1 (xs.getD j (0, 0)).2 (xs.drop (j + 1)) := by
  rw [drop_cons h]; rfl

/-- The loop of Instants. -/
structure InsW (wl : World) (loc : Int) (off : Int) (xs : Prs) (j : Nat) (bg po : Int) (L : List Int) (ov : Value) (wr : World) : Prop where
  mid : j ≤ xs.length → segF loc 0 off xs = L ++ segF loc bg po (xs.drop j)
  fin : j = xs.length + 1 → segF loc 0 off xs = L
  row : wr.ownsRow wl.heap.size 3 1 ov L.length (L.map (Value.int .i64))
  bel : Below wl.heap.size wl wr
  near : -840 ≤ po ∧ po ≤ 840
  bgb : 0 ≤ bg ∧ bg ≤ 52596000
  two : L.length ≤ 2

theorem InsW.skip {wl : World} {loc off : Int} {xs : Prs} {j : Nat} {bg po : Int} {L : List Int} {ov : Value} {wr w2 : World} (h : InsW wl loc off xs j bg po L ov wr) (hj : j < xs.length) (hs : shE off (-2880) xs = 0) (hb : Below wr.heap.size wr w2)
    (hc : ¬ (bg ≤ loc - po ∧ loc - po < (xs.getD j (0, 0)).1)) : InsW wl loc off xs (j + 1) (xs.getD j (0, 0)).1 (xs.getD j (0, 0)).2 L ov w2 := by
  have e := h.mid (by omega)
  rw [segF_mid hj, if_neg hc, List.nil_append] at e
  have hx := shE_later hs (xs.getD j (0, 0)) (by simp only [List.getD, List.getElem?_eq_getElem hj, Option.getD_some]; exact List.getElem_mem hj)
  exact ⟨fun _ => e, fun h => by omega, row_below h.row hb, h.bel.trans (hb.mono h.bel.size), hx.2.2, ⟨hx.2.1.1, by omega⟩, h.two⟩
theorem InsW.take {wl : World} {loc off : Int} {xs : Prs} {j : Nat} {bg po : Int} {L : List Int} {ov ov' : Value} {wr w2 w3 : World} {o : Obj} (h : InsW wl loc off xs j bg po L ov wr) (hj : j < xs.length) (hs : shE off (-2880) xs = 0) (hn : -840 ≤ off ∧ off ≤ 840)
    (hown : w2.ownsRow wl.heap.size 3 1 ov' (L.length + 1) (L.map (Value.int .i64) ++ [.int .i64 (loc - po)])) (hg : (wr.alloc o).grownBy w2 ov.ownBlock) (hb : Below w2.heap.size w2 w3)
    (hc : bg ≤ loc - po ∧ loc - po < (xs.getD j (0, 0)).1) : InsW wl loc off xs (j + 1) (xs.getD j (0, 0)).1 (xs.getD j (0, 0)).2 (L ++ [loc - po]) ov' w3 := by
  have e := h.mid (by omega)
  rw [segF_mid hj, if_pos hc, ← List.append_assoc] at e
  have hx := shE_later hs (xs.getD j (0, 0)) (by simp only [List.getD, List.getElem?_eq_getElem hj, Option.getD_some]; exact List.getElem_mem hj)
  have hl : (L ++ [loc - po]).length ≤ 2 := by
    have := segF_two (loc := loc) xs 0 off _ hs hn
    rw [e, List.length_append] at this
    omega
  have hbb : Below wl.heap.size wl w2 := (h.bel.alloc h.bel.size o).grown hg (by have := h.bel.size; simp; omega) (fun q hq => ((h.row.alloc o).lt q hq).1)
  refine ⟨fun _ => e, fun h => by omega, row_below ?_ hb, hbb.trans (hb.mono hbb.size), hx.2.2, ⟨hx.2.1.1, by omega⟩, hl⟩
  simpa using hown
theorem InsW.last {wl : World} {loc off : Int} {xs : Prs} {j : Nat} {bg po : Int} {L : List Int} {ov : Value} {wr : World} (h : InsW wl loc off xs j bg po L ov wr) (hj : j = xs.length) (hc : ¬ (bg ≤ loc - po ∧ loc - po < 52596000)) (bg' po' : Int) (hbg : 0 ≤ bg' ∧ bg' ≤ 52596000) (hpo : -840 ≤ po' ∧ po' ≤ 840) : InsW wl loc off xs (j + 1) bg' po' L ov wr := by
  have e := h.mid (by omega)
  rw [hj, List.drop_length] at e
  unfold segF at e
  rw [if_neg hc, List.append_nil] at e
  exact ⟨fun h => by omega, fun _ => by cases xs <;> exact e, h.row, h.bel, hpo, hbg, h.two⟩
theorem InsW.lastT {wl : World} {loc off : Int} {xs : Prs} {j : Nat} {bg po : Int} {L : List Int} {ov ov' : Value} {wr w2 : World} {o : Obj} (h : InsW wl loc off xs j bg po L ov wr) (hj : j = xs.length) (hs : shE off (-2880) xs = 0) (hn : -840 ≤ off ∧ off ≤ 840)
    (hown : w2.ownsRow wl.heap.size 3 1 ov' (L.length + 1) (L.map (Value.int .i64) ++ [.int .i64 (loc - po)])) (hg : (wr.alloc o).grownBy w2 ov.ownBlock)
    (hc : bg ≤ loc - po ∧ loc - po < 52596000) (bg' po' : Int) (hbg : 0 ≤ bg' ∧ bg' ≤ 52596000) (hpo : -840 ≤ po' ∧ po' ≤ 840) : InsW wl loc off xs (j + 1) bg' po' (L ++ [loc - po]) ov' w2 := by
  have e := h.mid (by omega)
  have e2 : segF loc bg po (xs.drop j) = [loc - po] := by rw [hj, List.drop_length]; unfold segF; rw [if_pos hc]
  rw [e2] at e
  have hl : (L ++ [loc - po]).length ≤ 2 := by
    have := segF_two (loc := loc) xs 0 off _ hs hn
    rw [e] at this
    exact this
  refine ⟨fun h => by omega, fun _ => e, by simpa using hown, (h.bel.alloc h.bel.size o).grown hg (by have := h.bel.size; simp; omega) (fun q hq => ((h.row.alloc o).lt q hq).1), hpo, hbg, hl⟩

set_option maxRecDepth 100000 in
theorem instants_none {v : Value} {s : ByteArray} {off : Int} {xs : Prs} (loc : Int) (w : World) (h : ZVal w v s off xs) (hc : vldE s.data.toList off xs ≠ 0 ∨ loc < -840 ∨ 52596840 ≤ loc) : Calls Tryd.prog 18 #[v, .int .i64 loc] w (InsP s off xs loc w) := by
  have V := Lib.hid (fun w1 hb => valid_any (v := v) (s := s) (off := off) (xs := xs) w1 (h.below hb))
  have F := Lib.hid (fun w' => InsP.none (s := s) (off := off) (xs := xs) (loc := loc) (w := w) (w' := w') (by unfold insts; rw [if_neg (by omega)]))
  obtain ⟨sv, rfl, hs, a, cap, rfl, hn, hP⟩ := h
  clear hP
  generalize xs.length = len at *
  have B0 := Lib.hid ((Below.refl w.heap.size w).alloc (Nat.le_refl _) (.cells #[.string s, .int .i64 off, .slice a len cap] 24))
  by_cases hv : vldE s.data.toList off xs = 0
  · have q : (vldE s.data.toList off xs != 0) = false := by simpa using hv
    have hc' : loc < -840 ∨ 52596840 ≤ loc := by omega
    clear hv hc
    rcases (show loc < -840 ∨ (-840 ≤ loc ∧ 52596840 ≤ loc) from by omega) with h1 | ⟨h1, h2⟩
    all_goals
      clear hc'
      go_enter Tryd.func18, Tryd.ntmps18
      go_wp2_with (first | (go_at_call 20; refine (V.out _ B0.out).mono ?_) | fail)
      rintro e w1 ⟨rfl, hb⟩
      have FF := Lib.hid (F.out w1 (B0.out.trans (hb.mono B0.out.size)))
      clear hb
      go_wp2
      go_ret
      exact FF.out
  · have q : (vldE s.data.toList off xs != 0) = true := by simpa using hv
    clear hv hc
    go_enter Tryd.func18, Tryd.ntmps18
    go_wp2_with (first | (go_at_call 20; refine (V.out _ B0.out).mono ?_) | fail)
    rintro e w1 ⟨rfl, hb⟩
    have FF := Lib.hid (F.out w1 (B0.out.trans (hb.mono B0.out.size)))
    clear hb
    go_wp2
    go_ret
    exact FF.out

set_option maxHeartbeats 2000000 in
set_option maxRecDepth 100000 in
theorem instants_some {v : Value} {s : ByteArray} {off : Int} {xs : Prs} (loc : Int) (w : World) (h : ZVal w v s off xs) (hv : vldE s.data.toList off xs = 0) (l1 : -840 ≤ loc) (l2 : loc < 52596840) : Calls Tryd.prog 18 #[v, .int .i64 loc] w (InsP s off xs loc w) := by
  have V := Lib.hid (fun w1 hb => valid_any (v := v) (s := s) (off := off) (xs := xs) w1 (h.below hb))
  have F := Lib.hid (fun w' B v L (hL : segF loc 0 off xs = L) => InsP.own (s := s) (off := off) (xs := xs) (loc := loc) (w := w) (w' := w') (B := B) (v := v) (L := L) (by unfold insts; rw [if_pos ⟨hv, l1, l2⟩]; exact hL))
  obtain ⟨sv, rfl, hs, a, cap, rfl, hn, hP⟩ := h
  obtain ⟨_, hno, h64, hss⟩ := vldE_ok hv
  have HNO := Lib.hid hno
  have HSS := Lib.hid hss
  have HV := Lib.hid hv
  have HP := Lib.hid hP
  have HX : Hid (∀ j (h : j < xs.length), ∃ b of, a = some ⟨b, of, none⟩ ∧ PCells w b of xs) := Lib.hid (fun j h => by
    rcases HP.out with hq | ⟨b, of, hq, hq2⟩
    · rw [hq] at h; simp at h
    · exact ⟨b, of, hq, hq2⟩)
  obtain ⟨no1, no2⟩ := hno
  generalize hL : xs.length = len at *
  have HL := Lib.hid hL
  obtain ⟨i0, hi, hz0, hz1, hz2⟩ := info_parts info3
  have HI0 := Lib.hid hi; have HZ0 := Lib.hid hz0; have HZ1 := Lib.hid hz1; have HZ2 := Lib.hid hz2
  clear hP hL HP hv hss hi hz0 hz1 hz2
  have B0 := Lib.hid ((Below.refl w.heap.size w).alloc (Nat.le_refl _) (.cells #[.string s, .int .i64 off, .slice a len cap] 24))
  go_enter Tryd.func18, Tryd.ntmps18
  go_wp2_with (first | (go_at_call 20; refine (V.out _ B0.out).mono ?_) | fail)
  rintro e w1 ⟨rfl, hb⟩
  rw [HV.out]
  obtain ⟨g0, g1, g2⟩ := zbox_below hb
  have zz : w.heap.size < w1.heap.size := by have := hb.size; simp at this; omega
  have B1 := Lib.hid (B0.out.trans (hb.mono B0.out.size))
  clear hb
  go_wp2
  go_quiet (fail)
  go_wp2
  generalize hwl : w1.drewN nq = wl
  have g2l : wl.cell? ⟨w.heap.size, 2, none⟩ = some (.slice a len cap) := by rw [← hwl]; exact g2
  have zl : w.heap.size < wl.heap.size := by rw [← hwl]; exact zz
  have BL : Hid (Below w.heap.size w wl) := Lib.hid (by rw [← hwl]; exact B1.out.trans ⟨rfl, rfl, rfl, Nat.le_refl _, fun _ _ => rfl⟩)
  have G2 := Lib.hid g2l
  clear hwl g0 g1 g2 g2l zz B1
  go_loopw [5, 6, 7, 8, 9, 10] (fun ov bv pv i _ _ wr => ∃ (j : Nat) (bg po : Int) (L : List Int), j ≤ len + 1 ∧ i = .int .i64 j ∧ bv = .int .i64 bg ∧ pv = .int .i64 po ∧ Hid (InsW wl loc off xs j bg po L ov wr)) (fun _ _ _ i _ _ _ => len + 1 - (intOf i).toNat)
  case atStart => exact ⟨0, 0, off, [], by omega, rfl, rfl, rfl, Lib.hid ⟨fun _ => by simp, fun h => by omega, World.ownsRow_nil _ _ _ _, Below.refl _ _, HNO.out, by omega, by simp⟩⟩
  case round =>
    obtain ⟨j, bg, po, L, hj, rfl, rfl, rfl, HW⟩ := hrel
    have z2 : wr.cell? ⟨w.heap.size, 2, none⟩ = some (.slice a len cap) := by rw [HW.out.bel.cell zl]; exact G2.out
    have hnear := HW.out.near
    have hbgb := HW.out.bgb
    have htwo := HW.out.two
    obtain ⟨p1, p2⟩ := hnear
    obtain ⟨b1, b2⟩ := hbgb
    have hsz := HW.out.bel.size
    have HR := Lib.hid HW.out.row
    by_cases hlt : j < len
    · obtain ⟨b, of, rfl, hP⟩ := HX.out j hlt
      have hlt' : j < xs.length := by have := HL.out; omega
      obtain ⟨c1, c2⟩ := ((hP.below BL.out).below HW.out.bel) j hlt'
      have SK := Lib.hid (fun w2 hb hc => HW.out.skip (w2 := w2) hlt' HSS.out hb hc)
      have TK := Lib.hid (fun ov' w2 w3 o hown hg hb hc => HW.out.take (ov' := ov') (w2 := w2) (w3 := w3) (o := o) hlt' HSS.out HNO.out hown hg hb hc)
      have hx := shE_later HSS.out (xs.getD j (0, 0)) (by simp only [List.getD, List.getElem?_eq_getElem hlt', Option.getD_some]; exact List.getElem_mem hlt')
      obtain ⟨_, ⟨x0, x1⟩, _⟩ := hx
      have hbw : b < wl.heap.size := by have := lt_of_cell ((hP.below BL.out) j hlt').1; exact this
      have CC : Hid (∀ W, Below wl.heap.size wl W → W.cell? ⟨b, of + j * 2 + 1, none⟩ = some (.int .i64 (xs.getD j (0, 0)).2)) := Lib.hid (fun W hb => (((hP.below BL.out).below hb) j hlt').2)
      clear hP hlt'
      generalize (xs.getD j (0, 0)).1 = x at *
      generalize (xs.getD j (0, 0)).2 = o at *
      by_cases hc : bg ≤ loc - po ∧ loc - po < x
      · obtain ⟨q1, q2⟩ := hc
        go_wp2_with (at_builtin; refine wpList_append_own _ rfl _ _ 25 rfl wl.heap.size 3 i0 (.int .i64 0) 1 8 Tryd.underlying25 HI0.out HZ0.out HZ1.out HZ2.out rfl (by decide) _ _ _ rfl (HR.out.alloc _) ⟨wr.heap.size, 0, none⟩ 1 1 [.int .i64 (loc - po)] rfl rfl ?c1 ?c2 ?c3 ?c4 ?c5 ?_)
        case c1 =>
          intro j u hj
          rw [Go.WideShapes.add_plain, World.cell?_alloc_at _ _ _ _ rfl]
          match j, hj with
          | 0, hj => simpa using hj
          | j + 1, hj => simp at hj
        case c2 => simp [Value.oneCell']
        case c3 => unfold maxLen; omega
        case c4 => omega
        case c5 => simp; omega
        intro ov' w2 hown hg _
        have hbb : Below wl.heap.size wl w2 := (HW.out.bel.alloc HW.out.bel.size (.cells #[.int .i64 (loc - po)] 3)).grown hg (by simp; omega) (fun q hq => ((HR.out.alloc (.cells #[.int .i64 (loc - po)] 3)).lt q hq).1)
        have z2' : w2.cell? ⟨w.heap.size, 2, none⟩ = some (.slice (some ⟨b, of, none⟩) len cap) := by rw [hbb.cell zl]; exact G2.out
        have c2' := CC.out w2 hbb
        have HOWN := Lib.hid hown
        have HG := Lib.hid hg
        clear hown hg hbb
        go_wp2
        go_quiet (fail)
        have NX := Lib.hid (TK.out ov' w2 (w2.drewN nq) _ (by simpa using HOWN.out) HG.out ⟨rfl, rfl, rfl, Nat.le_refl _, fun _ _ => rfl⟩ ⟨q1, q2⟩)
        go_wp2
        go_round
        case rel => exact ⟨j + 1, x, o, L ++ [loc - po], by omega, by go_num, rfl, rfl, NX⟩
        case measure => simp [intOf]; omega
      · have hc' : loc - po < bg ∨ (bg ≤ loc - po ∧ x ≤ loc - po) := by omega
        clear hc
        rcases hc' with q1 | ⟨q1, q2⟩
        · go_wp2
          go_quiet (fail)
          have NX := Lib.hid (SK.out (wr.drewN nq) ⟨rfl, rfl, rfl, Nat.le_refl _, fun _ _ => rfl⟩ (by omega))
          go_wp2
          go_round
          case rel => exact ⟨j + 1, x, o, L, by omega, by go_num, rfl, rfl, NX⟩
          case measure => simp [intOf]; omega
        · go_wp2
          go_quiet (fail)
          have NX := Lib.hid (SK.out (wr.drewN nq) ⟨rfl, rfl, rfl, Nat.le_refl _, fun _ _ => rfl⟩ (by omega))
          go_wp2
          go_round
          case rel => exact ⟨j + 1, x, o, L, by omega, by go_num, rfl, rfl, NX⟩
          case measure => simp [intOf]; omega
    · by_cases hj2 : j = len
      · have hj3 : j = xs.length := by rw [HL.out]; exact hj2
        have LS := Lib.hid (fun hc bg' po' hbg hpo => HW.out.last hj3 hc bg' po' hbg hpo)
        have LT := Lib.hid (fun ov' w2 o hown hg hc bg' po' hbg hpo => HW.out.lastT (ov' := ov') (w2 := w2) (o := o) hj3 HSS.out HNO.out hown hg hc bg' po' hbg hpo)
        have hj4 : len ≤ j := by omega
        have hj5 : j ≤ len := by omega
        clear hj2 hj3
        by_cases hc : bg ≤ loc - po ∧ loc - po < 52596000
        · obtain ⟨q1, q2⟩ := hc
          go_wp2_with (at_builtin; refine wpList_append_own _ rfl _ _ 25 rfl wl.heap.size 3 i0 (.int .i64 0) 1 8 Tryd.underlying25 HI0.out HZ0.out HZ1.out HZ2.out rfl (by decide) _ _ _ rfl (HR.out.alloc _) ⟨wr.heap.size, 0, none⟩ 1 1 [.int .i64 (loc - po)] rfl rfl ?d1 ?d2 ?d3 ?d4 ?d5 ?_)
          case d1 =>
            intro j u hj
            rw [Go.WideShapes.add_plain, World.cell?_alloc_at _ _ _ _ rfl]
            match j, hj with
            | 0, hj => simpa using hj
            | j + 1, hj => simp at hj
          case d2 => simp [Value.oneCell']
          case d3 => unfold maxLen; omega
          case d4 => omega
          case d5 => simp; omega
          intro ov' w2 hown hg _
          have hbb : Below wl.heap.size wl w2 := (HW.out.bel.alloc HW.out.bel.size (.cells #[.int .i64 (loc - po)] 3)).grown hg (by simp; omega) (fun q hq => ((HR.out.alloc (.cells #[.int .i64 (loc - po)] 3)).lt q hq).1)
          have z2' : w2.cell? ⟨w.heap.size, 2, none⟩ = some (.slice a len cap) := by rw [hbb.cell zl]; exact G2.out
          have NX := Lib.hid (LT.out ov' w2 _ (by simpa using hown) hg ⟨q1, q2⟩ bg po ⟨b1, b2⟩ ⟨p1, p2⟩)
          clear hown hg hbb
          go_wp2
          go_round
          case rel => exact ⟨j + 1, bg, po, L ++ [loc - po], by omega, by go_num, rfl, rfl, NX⟩
          case measure => simp [intOf]; omega
        · have NX := Lib.hid (LS.out hc bg po ⟨b1, b2⟩ ⟨p1, p2⟩)
          have hc' : loc - po < bg ∨ (bg ≤ loc - po ∧ 52596000 ≤ loc - po) := by omega
          clear hc
          rcases hc' with q1 | ⟨q1, q2⟩
          all_goals
            go_wp2
            go_round
            case rel => exact ⟨j + 1, bg, po, L, by omega, by go_num, rfl, rfl, NX⟩
            case measure => simp [intOf]; omega
      · have hj3 : j = xs.length + 1 := by have := HL.out; omega
        have FF := Lib.hid (F.out wr wl.heap.size _ L (HW.out.fin hj3) HR.out (BL.out.trans (HW.out.bel.mono BL.out.size)))
        have hj4 : len < j := by omega
        clear hj2 hj3
        go_wp2
        go_ret
        exact FF.out

theorem instants_any {v : Value} {s : ByteArray} {off : Int} {xs : Prs} (loc : Int) (w : World) (h : ZVal w v s off xs) : Calls Tryd.prog 18 #[v, .int .i64 loc] w (InsP s off xs loc w) := by
  by_cases hc : vldE s.data.toList off xs ≠ 0 ∨ loc < -840 ∨ 52596840 ≤ loc
  · exact instants_none loc w h hc
  · exact instants_some loc w h (by omega) (by omega) (by omega)

end Go.Proofs.YtllcoocllkaanaaDoor
