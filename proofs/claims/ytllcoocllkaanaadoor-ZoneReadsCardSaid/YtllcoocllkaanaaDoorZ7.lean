import Derived.Test.YtllcoocllkaanaaDoorZ6
namespace Go.Proofs.YtllcoocllkaanaaDoor
open Go.RowKit

theorem refL_next {off loc : Int} {xs : Prs} {k : Nat} : refL off xs loc (k + 1) = refL off xs loc k ++ (if isI (loc - (840 - k)) = true ∧ (offF (loc - (840 - k)) off xs == 840 - k) = true then [loc - (840 - k)] else []) := by
  have e : loc - (840 - (k : Int)) = loc - 840 + k := by omega
  rw [e]
  conv => lhs; unfold refL
  simp only [beq_iff_eq]
theorem refL_len {off loc : Int} {xs : Prs} : ∀ k : Nat, (refL off xs loc k).length ≤ k
  | 0 => by simp [refL]
  | k + 1 => by
    have := refL_len (off := off) (loc := loc) (xs := xs) k
    unfold refL
    rw [List.length_append]
    split <;> simp <;> omega

set_option maxRecDepth 100000 in
theorem rinstants_none {v : Value} {s : ByteArray} {off : Int} {xs : Prs} (loc : Int) (w : World) (h : ZVal w v s off xs) (hc : vldE s.data.toList off xs ≠ 0 ∨ loc < -1680 ∨ 52597680 < loc) : Calls Tryd.prog 19 #[v, .int .i64 loc] w (InsP s off xs loc w) := by
  have V := Lib.hid (fun w1 hb => rvalid_any (v := v) (s := s) (off := off) (xs := xs) w1 (h.below hb))
  have F := Lib.hid (fun w' => InsP.none (s := s) (off := off) (xs := xs) (loc := loc) (w := w) (w' := w') (by unfold insts; rw [if_neg (by omega)]))
  obtain ⟨sv, rfl, hs, a, cap, rfl, hn, hP⟩ := h
  clear hP
  generalize xs.length = len at *
  have B0 := Lib.hid ((Below.refl w.heap.size w).alloc (Nat.le_refl _) (.cells #[.string s, .int .i64 off, .slice a len cap] 24))
  by_cases hv : vldE s.data.toList off xs = 0
  · have q : (vldE s.data.toList off xs != 0) = false := by simpa using hv
    have hc' : loc < -1680 ∨ 52597680 < loc := by omega
    clear hv hc
    rcases (show loc < -1680 ∨ (-1680 ≤ loc ∧ 52597680 < loc) from by omega) with h1 | ⟨h1, h2⟩
    all_goals
      clear hc'
      go_enter Tryd.func19, Tryd.ntmps19
      go_wp2_with (first | (go_at_call 21; refine (V.out _ B0.out).mono ?_) | fail)
      rintro e w1 ⟨rfl, hb⟩
      have FF := Lib.hid (F.out w1 (B0.out.trans (hb.mono B0.out.size)))
      clear hb
      go_wp2
      go_ret
      exact FF.out
  · have q : (vldE s.data.toList off xs != 0) = true := by simpa using hv
    clear hv hc
    go_enter Tryd.func19, Tryd.ntmps19
    go_wp2_with (first | (go_at_call 21; refine (V.out _ B0.out).mono ?_) | fail)
    rintro e w1 ⟨rfl, hb⟩
    have FF := Lib.hid (F.out w1 (B0.out.trans (hb.mono B0.out.size)))
    clear hb
    go_wp2
    go_ret
    exact FF.out

/-- The reference's loop. -/
structure RinW (wl : World) (L : List Int) (ov : Value) (wr : World) : Prop where
  row : wr.ownsRow wl.heap.size 3 1 ov L.length (L.map (Value.int .i64))
  bel : Below wl.heap.size wl wr

theorem RinW.skip {wl : World} {L : List Int} {ov : Value} {wr w2 : World} (h : RinW wl L ov wr) (hb : Below wr.heap.size wr w2) : RinW wl L ov w2 := ⟨row_below h.row hb, h.bel.trans (hb.mono h.bel.size)⟩
theorem RinW.take {wl : World} {L : List Int} {ov ov' : Value} {wr w2 : World} {o : Obj} {x : Int} (h : RinW wl L ov wr) (hown : w2.ownsRow wl.heap.size 3 1 ov' (L.length + 1) (L.map (Value.int .i64) ++ [.int .i64 x])) (hg : (wr.alloc o).grownBy w2 ov.ownBlock) : RinW wl (L ++ [x]) ov' w2 :=
  ⟨by simpa using hown, (h.bel.alloc h.bel.size o).grown hg (by have := h.bel.size; simp; omega) (fun q hq => ((h.row.alloc o).lt q hq).1)⟩

set_option maxHeartbeats 2000000 in
set_option maxRecDepth 100000 in
theorem rinstants_some {v : Value} {s : ByteArray} {off : Int} {xs : Prs} (loc : Int) (w : World) (h : ZVal w v s off xs) (hv : vldE s.data.toList off xs = 0) (l1 : -1680 ≤ loc) (l2 : loc ≤ 52597680) : Calls Tryd.prog 19 #[v, .int .i64 loc] w (InsP s off xs loc w) := by
  have V := Lib.hid (fun w1 hb => rvalid_any (v := v) (s := s) (off := off) (xs := xs) w1 (h.below hb))
  have R := Lib.hid (fun t w1 hb => roff_any (v := v) (s := s) (off := off) (xs := xs) t w1 (h.below hb))
  have I := Lib.hid (fun t w => is_any t w)
  have F := Lib.hid (fun w' B v (ho : World.ownsRow w' B 3 1 v (refL off xs loc 1681).length ((refL off xs loc 1681).map (Value.int .i64))) => InsP.own (s := s) (off := off) (xs := xs) (loc := loc) (w := w) (w' := w') (B := B) (v := v) (L := refL off xs loc 1681) (insts_ref hv).symm ho)
  obtain ⟨sv, rfl, hs, a, cap, rfl, hn, hP⟩ := h
  have HV := Lib.hid hv
  generalize hL : xs.length = len at *
  have HL := Lib.hid hL
  obtain ⟨i0, hi, hz0, hz1, hz2⟩ := info_parts info3
  have HI0 := Lib.hid hi; have HZ0 := Lib.hid hz0; have HZ1 := Lib.hid hz1; have HZ2 := Lib.hid hz2
  have RN := Lib.hid (fun k => refL_next (off := off) (loc := loc) (xs := xs) (k := k))
  have RL := Lib.hid (fun k => refL_len (off := off) (loc := loc) (xs := xs) k)
  clear hP hL hv hi hz0 hz1 hz2
  have B0 := Lib.hid ((Below.refl w.heap.size w).alloc (Nat.le_refl _) (.cells #[.string s, .int .i64 off, .slice a len cap] 24))
  go_enter Tryd.func19, Tryd.ntmps19
  go_wp2_with (first | (go_at_call 21; refine (V.out _ B0.out).mono ?_) | fail)
  rintro e wl ⟨rfl, hb⟩
  rw [HV.out]
  obtain ⟨g0, g1, g2⟩ := zbox_below hb
  have G := Lib.hid (And.intro g0 (And.intro g1 g2))
  have zl : w.heap.size < wl.heap.size := by have := hb.size; simp at this; omega
  have BL := Lib.hid (B0.out.trans (hb.mono B0.out.size))
  clear hb g0 g1 g2
  go_wp2
  go_loopw [5, 6] (fun ov i wr => ∃ (k : Nat), k ≤ 1681 ∧ i = .int .i64 (840 - k) ∧ Hid (RinW wl (refL off xs loc k) ov wr)) (fun _ i _ => (841 + intOf i).toNat)
  case atStart => exact ⟨0, by omega, rfl, Lib.hid ⟨World.ownsRow_nil _ _ _ _, Below.refl _ _⟩⟩
  case round =>
    obtain ⟨k, hk, rfl, HW⟩ := hrel
    have z0 : wr.cell? ⟨w.heap.size, 0, none⟩ = some (.string s) := by rw [HW.out.bel.cell zl]; exact G.out.1
    have z1 : wr.cell? ⟨w.heap.size, 1, none⟩ = some (.int .i64 off) := by rw [HW.out.bel.cell zl]; exact G.out.2.1
    have z2 : wr.cell? ⟨w.heap.size, 2, none⟩ = some (.slice a len cap) := by rw [HW.out.bel.cell zl]; exact G.out.2.2
    have hsz := HW.out.bel.size
    by_cases hlt : k < 1681
    · have HR := Lib.hid HW.out.row
      have hll := RL.out k
      have rn := Lib.hid (RN.out k)
      have BW := Lib.hid (BL.out.trans (HW.out.bel.mono BL.out.size))
      cases h1 : isI (loc - (840 - (k : Int)))
      · have NX : Hid (RinW wl (refL off xs loc (k + 1)) u5 wr) := Lib.hid (by rw [rn.out, if_neg (by rw [h1]; simp), List.append_nil]; exact HW.out)
        go_wp2_with (first | (go_at_call 36; refine (I.out _ _).mono ?_; rintro e w' ⟨rfl, rfl⟩; rw [h1]) | fail)
        go_round
        case rel => exact ⟨k + 1, by omega, by go_num, NX⟩
        case measure => simp [intOf]; omega
      · cases h2 : (offF (loc - (840 - (k : Int))) off xs == 840 - (k : Int))
        · have NX : Hid (∀ w2, Below wr.heap.size wr w2 → RinW wl (refL off xs loc (k + 1)) u5 w2) := Lib.hid (fun w2 hb => by rw [rn.out, if_neg (by rw [h2]; simp), List.append_nil]; exact HW.out.skip hb)
          go_wp2_with (first | (go_at_call 36; refine (I.out _ _).mono ?_; rintro e w' ⟨rfl, rfl⟩; rw [h1]) | (go_at_call 37; refine (R.out _ _ BW.out).mono ?_))
          rintro e w2 ⟨rfl, hb2⟩
          have NX := Lib.hid (NX.out w2 hb2)
          clear hb2
          go_wp2
          go_round
          case rel => exact ⟨k + 1, by omega, by go_num, NX⟩
          case measure => simp [intOf]; omega
        · have hne : refL off xs loc (k + 1) = refL off xs loc k ++ [loc - (840 - (k : Int))] := by rw [rn.out, if_pos ⟨h1, h2⟩]
          have HNE := Lib.hid hne
          clear hne
          go_wp2_with (first | (go_at_call 36; refine (I.out _ _).mono ?_; rintro e w' ⟨rfl, rfl⟩; rw [h1]) | (go_at_call 37; refine (R.out _ _ BW.out).mono ?_))
          rintro e w2 ⟨rfl, hb2⟩
          have HW2 := Lib.hid (HW.out.skip hb2)
          have HR2 := Lib.hid HW2.out.row
          have hsz2 := HW2.out.bel.size
          clear hb2
          go_wp2_with (at_builtin; refine wpList_append_own _ rfl _ _ 25 rfl wl.heap.size 3 i0 (.int .i64 0) 1 8 Tryd.underlying25 HI0.out HZ0.out HZ1.out HZ2.out rfl (by decide) _ _ _ rfl (HR2.out.alloc _) ⟨w2.heap.size, 0, none⟩ 1 1 [.int .i64 (loc - (840 - (k : Int)))] rfl rfl ?c1 ?c2 ?c3 ?c4 ?c5 ?_)
          case c1 =>
            intro j u hj
            rw [Go.WideShapes.add_plain, World.cell?_alloc_at _ _ _ _ rfl]
            match j, hj with
            | 0, hj => simpa using hj
            | j + 1, hj => simp at hj
          case c2 => simp [Value.oneCell']
          case c3 => unfold maxLen; omega
          case c4 => omega
          case c5 => simp; omega
          intro ov' w3 hown hg _
          have NX : Hid (RinW wl (refL off xs loc (k + 1)) ov' w3) := Lib.hid (by rw [HNE.out]; exact HW2.out.take (by simpa using hown) hg)
          clear hown hg
          go_wp2
          go_round
          case rel => exact ⟨k + 1, by omega, by go_num, NX⟩
          case measure => simp [intOf]; omega
    · have hk2 : k = 1681 := by omega
      have HW' : Hid (RinW wl (refL off xs loc 1681) u5 wr) := by rw [← hk2]; exact HW
      have FF := Lib.hid (F.out wr _ _ HW'.out.row (BL.out.trans (HW'.out.bel.mono BL.out.size)))
      have hk3 : 1681 ≤ k := by omega
      clear hk2 HW HW'
      go_wp2
      go_ret
      exact FF.out

theorem rinstants_any {v : Value} {s : ByteArray} {off : Int} {xs : Prs} (loc : Int) (w : World) (h : ZVal w v s off xs) : Calls Tryd.prog 19 #[v, .int .i64 loc] w (InsP s off xs loc w) := by
  by_cases hc : vldE s.data.toList off xs ≠ 0 ∨ loc < -1680 ∨ 52597680 < loc
  · exact rinstants_none loc w h hc
  · exact rinstants_some loc w h (by omega) (by omega) (by omega)

end Go.Proofs.YtllcoocllkaanaaDoor
