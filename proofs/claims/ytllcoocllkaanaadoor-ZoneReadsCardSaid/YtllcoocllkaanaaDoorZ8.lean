import Derived.Test.YtllcoocllkaanaaDoorZ7
namespace Go.Proofs.YtllcoocllkaanaaDoor
open Go.RowKit

def ResP (s : ByteArray) (off : Int) (xs : Prs) (loc : Int) (w : World) (e : Ending) (w' : World) : Prop := RetB (.tuple #[.int .i64 (resV s.data.toList off xs loc), .int .i64 (resE s.data.toList off xs loc)]) w e w'

theorem res_bad {nm : L8} {off : Int} {xs : Prs} {loc : Int} (h : vldE nm off xs ≠ 0) : resV nm off xs loc = 0 ∧ resE nm off xs loc = vldE nm off xs := by
  unfold resV resE; rw [if_pos h, if_pos h]; exact ⟨rfl, rfl⟩
theorem res_first {nm : L8} {off : Int} {xs : Prs} {loc t : Int} {r : List Int} (h : vldE nm off xs = 0) (hi : insts nm off xs loc = t :: r) : resV nm off xs loc = t ∧ resE nm off xs loc = 0 := by
  have e : resT nm off xs loc = some t := by unfold resT; rw [hi]
  unfold resV resE; rw [if_neg (by simp [h]), if_neg (by simp [h]), e]; exact ⟨rfl, rfl⟩
theorem res_gap {nm : L8} {off : Int} {xs : Prs} {loc : Int} (h : vldE nm off xs = 0) (hi : insts nm off xs loc = []) (t : Int) (hg : okI (gapF loc off xs) = some t) : resV nm off xs loc = t ∧ resE nm off xs loc = 0 := by
  have e : resT nm off xs loc = some t := by unfold resT; rw [hi]; exact hg
  unfold resV resE; rw [if_neg (by simp [h]), if_neg (by simp [h]), e]; exact ⟨rfl, rfl⟩
theorem res_none {nm : L8} {off : Int} {xs : Prs} {loc : Int} (h : vldE nm off xs = 0) (hi : insts nm off xs loc = []) (hg : okI (gapF loc off xs) = none) : resV nm off xs loc = 0 ∧ resE nm off xs loc = 3 := by
  have e : resT nm off xs loc = none := by unfold resT; rw [hi]; exact hg
  unfold resV resE; rw [if_neg (by simp [h]), if_neg (by simp [h]), e]; exact ⟨rfl, rfl⟩

theorem gapF_hit {xs : Prs} {j : Nat} {loc po : Int} (h : j < xs.length) (hc : (xs.getD j (0, 0)).1 + po ≤ loc ∧ loc < (xs.getD j (0, 0)).1 + (xs.getD j (0, 0)).2) : gapF loc po (xs.drop j) = some (loc - po) := by
  rw [drop_cons h]; unfold gapF; rw [if_pos hc]
theorem gapF_on {xs : Prs} {j : Nat} {loc po : Int} (h : j < xs.length) (hc : ¬ ((xs.getD j (0, 0)).1 + po ≤ loc ∧ loc < (xs.getD j (0, 0)).1 + (xs.getD j (0, 0)).2)) : gapF loc po (xs.drop j) = gapF loc (xs.getD j (0, 0)).2 (xs.drop (j + 1)) := by
  rw [drop_cons h]; conv => lhs; unfold gapF
  rw [if_neg hc]
theorem rgapF_hit {xs : Prs} {j : Nat} {loc po : Int} (h : j < xs.length) (hc : (xs.getD j (0, 0)).1 + po ≤ loc ∧ loc < (xs.getD j (0, 0)).1 + (xs.getD j (0, 0)).2) (hi : isI (loc - po) = true) : rgapF loc po (xs.drop j) = some (loc - po) := by
  rw [drop_cons h]; unfold rgapF; rw [if_pos ⟨hc, hi⟩]
theorem rgapF_on {xs : Prs} {j : Nat} {loc po : Int} (h : j < xs.length) (hc : ¬ (((xs.getD j (0, 0)).1 + po ≤ loc ∧ loc < (xs.getD j (0, 0)).1 + (xs.getD j (0, 0)).2) ∧ isI (loc - po) = true)) : rgapF loc po (xs.drop j) = rgapF loc (xs.getD j (0, 0)).2 (xs.drop (j + 1)) := by
  rw [drop_cons h]; conv => lhs; unfold rgapF
  rw [if_neg hc]

theorem ints_cons {w : World} {v : Value} {t : Int} {r : List Int} (h : Ints w v (t :: r)) : ∃ b o n cap, v = .slice (some ⟨b, o, none⟩) n cap ∧ 1 ≤ n ∧ n ≤ 9223372036854775807 ∧ w.cell? ⟨b, o, none⟩ = some (.int .i64 t) := by
  obtain ⟨a, cap, hv, _, h2, h3⟩ := h
  rcases h3 with h3 | ⟨b, o, rfl, hc⟩
  · simp at h3
  · exact ⟨b, o, _, cap, hv, by simp, h2, by have := hc 0 (by simp); simpa using this⟩
theorem ints_none {w : World} {v : Value} (h : Ints w v []) : ∃ a cap, v = .slice a 0 cap := by
  obtain ⟨a, cap, hv, _⟩ := h
  exact ⟨a, cap, hv⟩

set_option maxHeartbeats 2000000 in
set_option maxRecDepth 100000 in
theorem resolve_any {v : Value} {s : ByteArray} {off : Int} {xs : Prs} (loc : Int) (w : World) (h : ZVal w v s off xs) : Calls Tryd.prog 15 #[v, .int .i64 loc] w (ResP s off xs loc w) := by
  have V := Lib.hid (fun w1 hb => valid_any (v := v) (s := s) (off := off) (xs := xs) w1 (h.below hb))
  have N := Lib.hid (fun w1 hb => instants_any (v := v) (s := s) (off := off) (xs := xs) loc w1 (h.below hb))
  have I := Lib.hid (fun t w => instant_any t w)
  obtain ⟨sv, rfl, hs, a, cap, rfl, hn, hP⟩ := h
  have HX : Hid (∀ j (h : j < xs.length), ∃ b of, a = some ⟨b, of, none⟩ ∧ PCells w b of xs) := Lib.hid (fun j h => by
    rcases hP with hq | ⟨b, of, hq, hq2⟩
    · rw [hq] at h; simp at h
    · exact ⟨b, of, hq, hq2⟩)
  clear hP
  generalize hL : xs.length = len at *
  have HL := Lib.hid hL
  clear hL
  have B0 := Lib.hid ((Below.refl w.heap.size w).alloc (Nat.le_refl _) (.cells #[.string s, .int .i64 off, .slice a len cap] 24))
  by_cases hv : vldE s.data.toList off xs = 0
  · have HV := Lib.hid hv
    obtain ⟨_, hno, h64, hss⟩ := vldE_ok hv
    obtain ⟨no1, no2⟩ := hno
    have HSS := Lib.hid hss
    clear hv hss
    go_enter Tryd.func15, Tryd.ntmps15
    go_wp2_with (first | (go_at_call 20; refine (V.out _ B0.out).mono ?_) | fail)
    rintro e w1 ⟨rfl, hb⟩
    rw [HV.out]
    have G := Lib.hid (fun W (h : Below w1.heap.size w1 W) => zbox_below (hb.trans (h.mono hb.size)))
    have zz : w.heap.size < w1.heap.size := by have := hb.size; simp at this; omega
    have B1 := Lib.hid (B0.out.trans (hb.mono B0.out.size))
    obtain ⟨g0, g1, g2⟩ := G.out w1 (Below.refl _ _)
    clear hb
    go_wp2_with (first | (go_at_call 18; refine (N.out _ B1.out).mono ?_) | fail)
    rintro e w2 ⟨iv, rfl, hiv, hb2⟩
    obtain ⟨k0, k1, k2⟩ := G.out w2 hb2
    have B2 := Lib.hid (B1.out.trans (hb2.mono B1.out.size))
    have z2 : w.heap.size < w2.heap.size := by have := hb2.size; omega
    clear hb2 g0 g1 g2
    rcases hl : insts s.data.toList off xs loc with _ | ⟨t, r⟩
    · rw [hl] at hiv
      obtain ⟨ia, icap, rfl⟩ := ints_none hiv
      have RG := Lib.hid (fun t => res_gap HV.out hl t)
      have RN := Lib.hid (res_none HV.out hl)
      clear hiv hl
      go_wp2
      go_loopw [8, 10, 30] (fun pv _ i wr => ∃ (j : Nat) (po : Int), j ≤ len ∧ i = .int .i64 j ∧ pv = .int .i64 po ∧ (-840 ≤ po ∧ po ≤ 840) ∧ Hid (gapF loc off xs = gapF loc po (xs.drop j)) ∧ Below w2.heap.size w2 wr) (fun _ _ i _ => len - (intOf i).toNat)
      case atStart => exact ⟨0, off, Nat.zero_le _, rfl, rfl, ⟨no1, no2⟩, Lib.hid rfl, Below.refl _ _⟩
      case round =>
        obtain ⟨j, po, hj, rfl, rfl, ⟨p1, p2⟩, HE, hb⟩ := hrel
        have hbs := hb.size
        by_cases hlt : j < len
        · obtain ⟨b, of, rfl, hP⟩ := HX.out j hlt
          have hlt' : j < xs.length := by have := HL.out; omega
          obtain ⟨c1, c2⟩ := ((hP.below B2.out).below hb) j hlt'
          have HH := Lib.hid (fun h => gapF_hit (loc := loc) (po := po) hlt' h)
          have HO := Lib.hid (fun h => gapF_on (loc := loc) (po := po) hlt' h)
          have hx := shE_later HSS.out (xs.getD j (0, 0)) (by simp only [List.getD, List.getElem?_eq_getElem hlt', Option.getD_some]; exact List.getElem_mem hlt')
          obtain ⟨_, ⟨x0, x1⟩, ⟨o0, o1⟩⟩ := hx
          have BN := Lib.hid (fun o => hb.alloc hb.size o)
          have BX := Lib.hid (fun o => B2.out.trans ((hb.alloc hb.size o).mono B2.out.size))
          clear hP hlt' hb
          generalize (xs.getD j (0, 0)).1 = x at *
          generalize (xs.getD j (0, 0)).2 = o at *
          by_cases hc : x + po ≤ loc ∧ loc < x + o
          · have hh := HE.out.trans (HH.out hc)
            have HHH := Lib.hid hh
            obtain ⟨q1, q2⟩ := hc
            clear hh
            cases hi : isI (loc - po)
            · have FF := Lib.hid (RN.out (by rw [HHH.out]; simp [okI, hi]))
              have BB := Lib.hid (BX.out (.cells #[.int .i64 x, .int .i64 o] 43))
              go_wp2_with (first | (go_at_call 35; refine (I.out _ _).mono ?_; rintro e w' ⟨rfl, rfl⟩; rw [hi]) | fail)
              go_ret2
              exact ⟨by rw [FF.out.1, FF.out.2]; rfl, BB.out⟩
            · have FF := Lib.hid (RG.out (loc - po) (by rw [HHH.out]; simp [okI, hi]))
              have BB := Lib.hid (BX.out (.cells #[.int .i64 x, .int .i64 o] 43))
              go_wp2_with (first | (go_at_call 35; refine (I.out _ _).mono ?_; rintro e w' ⟨rfl, rfl⟩; rw [hi]) | fail)
              go_ret2
              exact ⟨by rw [FF.out.1, FF.out.2]; rfl, BB.out⟩
          · have hh := HE.out.trans (HO.out hc)
            have HHH := Lib.hid hh
            have hc' : loc < x + po ∨ (x + po ≤ loc ∧ x + o ≤ loc) := by omega
            clear hh hc
            rcases hc' with q1 | ⟨q1, q2⟩
            all_goals
              go_wp2
              go_round
              case rel => exact ⟨j + 1, o, by omega, by go_num, rfl, ⟨o0, o1⟩, HHH, BN.out _⟩
              case measure => simp [intOf]; omega
        · have FF := Lib.hid (RN.out (by rw [HE.out, List.drop_of_length_le (by have := HL.out; omega)]; rfl))
          have BB := Lib.hid (B2.out.trans (hb.mono B2.out.size))
          clear hb
          go_wp2
          go_ret2
          exact ⟨by rw [FF.out.1, FF.out.2]; rfl, BB.out⟩
    · rw [hl] at hiv
      obtain ⟨ib, io, n, icap, rfl, hn1, hn2, hcell⟩ := ints_cons hiv
      have RF := Lib.hid (res_first HV.out hl)
      have hcell' : w2.cell? ⟨ib, io + (0 : Int).toNat, none⟩ = some (.int .i64 t) := hcell
      clear hiv hl
      go_wp2
      go_ret2
      exact ⟨by rw [RF.out.1, RF.out.2]; rfl, B2.out⟩
  · have F := Lib.hid (res_bad (loc := loc) hv)
    have q : (vldE s.data.toList off xs != 0) = true := by simpa using hv
    clear hv
    go_enter Tryd.func15, Tryd.ntmps15
    go_wp2_with (first | (go_at_call 20; refine (V.out _ B0.out).mono ?_) | fail)
    rintro e w1 ⟨rfl, hb⟩
    have BB := Lib.hid (B0.out.trans (hb.mono B0.out.size))
    clear hb
    go_wp2
    go_ret2
    exact ⟨by rw [F.out.1, F.out.2]; rfl, BB.out⟩

set_option maxHeartbeats 2000000 in
set_option maxRecDepth 100000 in
theorem rresolve_any {v : Value} {s : ByteArray} {off : Int} {xs : Prs} (loc : Int) (w : World) (h : ZVal w v s off xs) : Calls Tryd.prog 16 #[v, .int .i64 loc] w (ResP s off xs loc w) := by
  have V := Lib.hid (fun w1 hb => rvalid_any (v := v) (s := s) (off := off) (xs := xs) w1 (h.below hb))
  have N := Lib.hid (fun w1 hb => rinstants_any (v := v) (s := s) (off := off) (xs := xs) loc w1 (h.below hb))
  have I := Lib.hid (fun t w => is_any t w)
  obtain ⟨sv, rfl, hs, a, cap, rfl, hn, hP⟩ := h
  have HX : Hid (∀ j (h : j < xs.length), ∃ b of, a = some ⟨b, of, none⟩ ∧ PCells w b of xs) := Lib.hid (fun j h => by
    rcases hP with hq | ⟨b, of, hq, hq2⟩
    · rw [hq] at h; simp at h
    · exact ⟨b, of, hq, hq2⟩)
  clear hP
  generalize hL : xs.length = len at *
  have HL := Lib.hid hL
  clear hL
  have B0 := Lib.hid ((Below.refl w.heap.size w).alloc (Nat.le_refl _) (.cells #[.string s, .int .i64 off, .slice a len cap] 24))
  by_cases hv : vldE s.data.toList off xs = 0
  · have HV := Lib.hid hv
    obtain ⟨_, hno, h64, hss⟩ := vldE_ok hv
    obtain ⟨no1, no2⟩ := hno
    have HSS := Lib.hid hss
    have HGR := Lib.hid (gap_ref (loc := loc) xs off _ hss)
    clear hv hss
    go_enter Tryd.func16, Tryd.ntmps16
    go_wp2_with (first | (go_at_call 21; refine (V.out _ B0.out).mono ?_) | fail)
    rintro e w1 ⟨rfl, hb⟩
    rw [HV.out]
    have G := Lib.hid (fun W (h : Below w1.heap.size w1 W) => zbox_below (hb.trans (h.mono hb.size)))
    have zz : w.heap.size < w1.heap.size := by have := hb.size; simp at this; omega
    have B1 := Lib.hid (B0.out.trans (hb.mono B0.out.size))
    obtain ⟨g0, g1, g2⟩ := G.out w1 (Below.refl _ _)
    clear hb
    go_wp2_with (first | (go_at_call 19; refine (N.out _ B1.out).mono ?_) | fail)
    rintro e w2 ⟨iv, rfl, hiv, hb2⟩
    have G2 := Lib.hid (fun W (h : Below w2.heap.size w2 W) => G.out W (hb2.trans (h.mono hb2.size)))
    obtain ⟨k0, k1, k2⟩ := G.out w2 hb2
    have B2 := Lib.hid (B1.out.trans (hb2.mono B1.out.size))
    have z2 : w.heap.size < w2.heap.size := by have := hb2.size; omega
    clear hb2 g0 g1 g2
    rcases hl : insts s.data.toList off xs loc with _ | ⟨t, r⟩
    · rw [hl] at hiv
      obtain ⟨ia, icap, rfl⟩ := ints_none hiv
      have RG := Lib.hid (fun t => res_gap HV.out hl t)
      have RN := Lib.hid (res_none HV.out hl)
      rw [← HGR.out] at RG RN
      clear hiv hl
      go_wp2
      go_loopw [8, 9, 10] (fun pv i _ wr => ∃ (j : Nat) (po : Int), j ≤ len ∧ i = .int .i64 j ∧ pv = .int .i64 po ∧ (-840 ≤ po ∧ po ≤ 840) ∧ Hid (rgapF loc off xs = rgapF loc po (xs.drop j)) ∧ Below w2.heap.size w2 wr) (fun _ i _ _ => len - (intOf i).toNat)
      case atStart => exact ⟨0, off, Nat.zero_le _, rfl, rfl, ⟨no1, no2⟩, Lib.hid rfl, Below.refl _ _⟩
      case round =>
        obtain ⟨j, po, hj, rfl, rfl, ⟨p1, p2⟩, HE, hb⟩ := hrel
        have hbs := hb.size
        obtain ⟨_, _, m2⟩ := G2.out wr hb
        by_cases hlt : j < len
        · obtain ⟨b, of, rfl, hP⟩ := HX.out j hlt
          have hlt' : j < xs.length := by have := HL.out; omega
          obtain ⟨c1, c2⟩ := ((hP.below B2.out).below hb) j hlt'
          have HH := Lib.hid (fun h hi => rgapF_hit (loc := loc) (po := po) hlt' h hi)
          have HO := Lib.hid (fun h => rgapF_on (loc := loc) (po := po) hlt' h)
          have hx := shE_later HSS.out (xs.getD j (0, 0)) (by simp only [List.getD, List.getElem?_eq_getElem hlt', Option.getD_some]; exact List.getElem_mem hlt')
          obtain ⟨_, ⟨x0, x1⟩, ⟨o0, o1⟩⟩ := hx
          have BN := Lib.hid (fun o => hb.alloc hb.size o)
          have BX := Lib.hid (fun o => B2.out.trans ((hb.alloc hb.size o).mono B2.out.size))
          clear hP hlt' hb
          generalize (xs.getD j (0, 0)).1 = x at *
          generalize (xs.getD j (0, 0)).2 = o at *
          by_cases hc : x + po ≤ loc ∧ loc < x + o
          · cases hi : isI (loc - po)
            · have hh := HE.out.trans (HO.out (by rw [hi]; simp))
              have HHH := Lib.hid hh
              obtain ⟨q1, q2⟩ := hc
              clear hh
              go_wp2_with (first | (go_at_call 36; refine (I.out _ _).mono ?_; rintro e w' ⟨rfl, rfl⟩; rw [hi]) | fail)
              go_round
              case rel => exact ⟨j + 1, o, by omega, by go_num, rfl, ⟨o0, o1⟩, HHH, BN.out _⟩
              case measure => simp [intOf]; omega
            · have hh := HE.out.trans (HH.out hc hi)
              have HHH := Lib.hid hh
              obtain ⟨q1, q2⟩ := hc
              have FF := Lib.hid (RG.out (loc - po) HHH.out)
              have BB := Lib.hid (BX.out (.cells #[.int .i64 x, .int .i64 o] 43))
              clear hh
              go_wp2_with (first | (go_at_call 36; refine (I.out _ _).mono ?_; rintro e w' ⟨rfl, rfl⟩; rw [hi]) | fail)
              go_ret2
              exact ⟨by rw [FF.out.1, FF.out.2]; rfl, BB.out⟩
          · have hh := HE.out.trans (HO.out (fun h => hc h.1))
            have HHH := Lib.hid hh
            have hc' : loc < x + po ∨ (x + po ≤ loc ∧ x + o ≤ loc) := by omega
            clear hh hc
            rcases hc' with q1 | ⟨q1, q2⟩
            all_goals
              go_wp2
              go_round
              case rel => exact ⟨j + 1, o, by omega, by go_num, rfl, ⟨o0, o1⟩, HHH, BN.out _⟩
              case measure => simp [intOf]; omega
        · have FF := Lib.hid (RN.out (by rw [HE.out, List.drop_of_length_le (by have := HL.out; omega)]; rfl))
          have BB := Lib.hid (B2.out.trans (hb.mono B2.out.size))
          clear hb
          go_wp2
          go_ret2
          exact ⟨by rw [FF.out.1, FF.out.2]; rfl, BB.out⟩
    · rw [hl] at hiv
      obtain ⟨ib, io, n, icap, rfl, hn1, hn2, hcell⟩ := ints_cons hiv
      have RF := Lib.hid (res_first HV.out hl)
      have hcell' : w2.cell? ⟨ib, io + (0 : Int).toNat, none⟩ = some (.int .i64 t) := hcell
      clear hiv hl
      go_wp2
      go_ret2
      exact ⟨by rw [RF.out.1, RF.out.2]; rfl, B2.out⟩
  · have F := Lib.hid (res_bad (loc := loc) hv)
    have q : (vldE s.data.toList off xs != 0) = true := by simpa using hv
    clear hv
    go_enter Tryd.func16, Tryd.ntmps16
    go_wp2_with (first | (go_at_call 21; refine (V.out _ B0.out).mono ?_) | fail)
    rintro e w1 ⟨rfl, hb⟩
    have BB := Lib.hid (B0.out.trans (hb.mono B0.out.size))
    clear hb
    go_wp2
    go_ret2
    exact ⟨by rw [F.out.1, F.out.2]; rfl, BB.out⟩

/-! ### Lists that are compared -/
theorem eqI_of {x y : Int} (h : x = y) : (x != y) = false := by subst h; simp

set_option maxRecDepth 100000 in
theorem same_some (L : List Int) (b1 o1 c1 b2 o2 c2 : Nat) (w : World) (hl : L.length ≤ 1000000) (h1 : ∀ i, i < L.length → w.cell? ⟨b1, o1 + i, none⟩ = some (.int .i64 (L.getD i 0))) (h2 : ∀ i, i < L.length → w.cell? ⟨b2, o2 + i, none⟩ = some (.int .i64 (L.getD i 0))) :
    Calls Tryd.prog 17 #[.slice (some ⟨b1, o1, none⟩) L.length c1, .slice (some ⟨b2, o2, none⟩) L.length c2] w (RetB (.bool true) w) := by
  have H1 := Lib.hid h1
  have H2 := Lib.hid h2
  clear h1 h2
  generalize L.length = len at *
  go_enter Tryd.func17, Tryd.ntmps17
  go_wp2
  go_loopw [5] (fun i wr => ∃ j : Nat, j ≤ len ∧ i = .int .i64 j ∧ ∃ nd, wr = w.drewN nd) (fun i _ => len - (intOf i).toNat)
  case atStart => exact ⟨0, by omega, rfl, 0, rfl⟩
  case round =>
    obtain ⟨j, hj, rfl, nd, rfl⟩ := hrel
    by_cases hlt : j < len
    · have p1 := H1.out j hlt
      have p2 := H2.out j hlt
      generalize L.getD j 0 = x at *
      go_wp2
      go_quiet (fail)
      go_wp2
      exact ⟨⟨j + 1, by omega, by go_num, nd + nq, rfl⟩, by simp [intOf]; omega⟩
    · go_wp2
      go_ret
      exact ⟨rfl, ⟨rfl, rfl, rfl, Nat.le_refl _, fun _ _ => rfl⟩⟩
set_option maxRecDepth 100000 in
theorem same_none (a1 a2 : Option Addr) (c1 c2 : Nat) (w : World) : Calls Tryd.prog 17 #[.slice a1 0 c1, .slice a2 0 c2] w (RetB (.bool true) w) := by
  go_enter Tryd.func17, Tryd.ntmps17
  go_wp2
  refine wp_loop_rounds 1 ?_
  rw [rounds_succ]
  go_wp2
  go_ret
  exact ⟨rfl, Below.refl _ _⟩
theorem same_any {v1 v2 : Value} {L : List Int} (w : World) (hl : L.length ≤ 1000000) (h1 : Ints w v1 L) (h2 : Ints w v2 L) : Calls Tryd.prog 17 #[v1, v2] w (RetB (.bool true) w) := by
  obtain ⟨a1, c1, rfl, _, _, h1⟩ := h1
  obtain ⟨a2, c2, rfl, _, _, h2⟩ := h2
  rcases h1 with h0 | ⟨b1, o1, rfl, h1⟩
  · rw [h0]; exact same_none a1 a2 c1 c2 w
  · rcases h2 with h0 | ⟨b2, o2, rfl, h2⟩
    · rw [h0]; exact same_none _ a2 c1 c2 w
    · exact same_some L b1 o1 c1 b2 o2 c2 w hl h1 h2

end Go.Proofs.YtllcoocllkaanaaDoor
