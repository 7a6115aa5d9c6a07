import Derived.Test.YtgdgpniceaknbaaDoorT12
namespace Go.Proofs.YtgdgpniceaknbaaDoor
open Go.RowKit TT

set_option maxHeartbeats 1600000 in
theorem rdays_pos (ws d s l f k : Int) (hs : List Int) (a : Option Addr) (n c : Nat) (w : World) (hI : IntsAt w a n hs) (h0 : 0 ≤ ws) (hws2 : ws ≤ 9223372036854775807) :
    Calls Tryd.prog 26 #[.agg #[.int .i64 f, .int .i64 k, .slice a n c], .agg #[.int .i64 ws, .int .i64 d, .int .i64 s, .int .i64 l]] w fun e w' =>
      ∃ v, e = .returned v ∧ w'.ownsRow (w.heap.size + 2) 3 1 v (daysL f k hs ws d 20).length ((daysL f k hs ws d 20).map (Value.int .i64)) ∧ Below w.heap.size w w' := by
  have HI := Lib.hid hI
  clear hI
  obtain ⟨i0, hi, hz0, hz1, hz2⟩ := info_parts Tryd.info3
  have HI0 := Lib.hid hi; have HZ0 := Lib.hid hz0; have HZ1 := Lib.hid hz1; have HZ2 := Lib.hid hz2
  clear hi hz0 hz1 hz2
  go_enter Tryd.func26, Tryd.ntmps26
  go_wp2
  go_loopw [5, 6, 7, 8] (fun v i _ _ wr => ∃ j : Nat, j ≤ 20 ∧ i = .int .i64 ((j : Int) + 1) ∧ wr.ownsRow (w.heap.size + 2) 3 1 v (daysL f k hs ws d j).length ((daysL f k hs ws d j).map (Value.int .i64)) ∧ DayW w wr f k ws d s l a n c) (fun _ i _ _ _ => 21 - (intOf i).toNat)
  case atStart => exact ⟨0, by omega, rfl, World.ownsRow_nil _ _ _ _, DayW.mk0 ..⟩
  case round =>
    obtain ⟨j, hj, rfl, hown, hW⟩ := hrel
    obtain ⟨c0, c1, c2, t0, t1, sz, bl⟩ := id hW
    have sz' : w.heap.size < wr.heap.size := by omega
    have HW := Lib.hid hW
    have HO := Lib.hid hown
    have BL := Lib.hid bl
    clear hW hown bl
    by_cases hlt : j < 20
    · by_cases hb : bitT ws j = true
      · have hbit := bit_eq1 ws j h0 hws2
        rw [hb] at hbit
        have HB := Lib.hid hb
        clear hb
        cases hA : atB f k hs (j + 1) d
        · have hm : Hid (daysL f k hs ws d (j + 1) = daysL f k hs ws d j) := Lib.hid (daysL_miss (Or.inr hA))
          go_wp2_with (go_at_call 19; refine (rat_any f k _ _ hs a n c _ (HI.out.below BL.out)).mono ?_; rintro e w1 ⟨rfl, hb1⟩; rw [hA])
          go_roundw
          case rel => exact ⟨j + 1, by omega, by go_num, by rw [hm.out]; exact ownsRow_below HO.out hb1, HW.out.next (hb1.mono sz)⟩
          case measure => simp [intOf]; omega
        · have hm : Hid (daysL f k hs ws d (j + 1) = daysL f k hs ws d j ++ [atV f k hs (j + 1) d]) := Lib.hid (daysL_hit HB.out hA)
          have hlen := daysL_len f k hs ws d j
          go_wp2_with (first | (go_at_call 19; refine (rat_any f k _ _ hs a n c _ (HI.out.below BL.out)).mono ?_; rintro e w1 ⟨rfl, hb1⟩; rw [hA]) | (at_builtin; refine wpList_append_own _ rfl _ _ 35 rfl (w.heap.size + 2) 3 i0 (.int .i64 0) 1 8 Tryd.underlying35 HI0.out HZ0.out HZ1.out HZ2.out rfl (by decide) _ _ _ rfl ((ownsRow_below HO.out hb1).alloc _) ⟨w1.heap.size, 0, none⟩ 1 1 [.int .i64 (atV f k hs (j + 1) d)] rfl rfl ?c1 ?c2 ?c3 ?c4 ?c5 ?_))
          case c1 =>
            intro j u hj
            match j, hj with
            | 0, hj => simp at hj; subst hj; simp [Addr.add]
          case c2 => intro u hu; simp at hu; subst hu; rfl
          case c3 => unfold maxLen; omega
          case c4 => omega
          case c5 => have := hb1.size; simp; omega
          intro v' w2 hown' hgrow _
          have hown2 := Lib.hid (daysRow hown')
          have hB2 : Hid (Below (w.heap.size + 2) wr w2) := Lib.hid (((hb1.mono sz).alloc (by have := hb1.size; omega) _).grown hgrow (by have := hb1.size; simp; omega) (fun q hq => ((ownsRow_below HO.out hb1).lt q hq).1))
          clear hown' hgrow hb1
          go_wp2
          go_roundw
          case rel => exact ⟨j + 1, by omega, by go_num, by rw [hm.out]; exact hown2.out, HW.out.next hB2.out⟩
          case measure => simp [intOf]; omega
      · have hb' : bitT ws j = false := by simpa using hb
        have hm : Hid (daysL f k hs ws d (j + 1) = daysL f k hs ws d j) := Lib.hid (daysL_miss (Or.inl hb'))
        have hbit := bit_eq1 ws j h0 hws2
        rw [hb'] at hbit
        clear hb hb'
        go_wp2
        go_roundw
        case rel => exact ⟨j + 1, by omega, by go_num, by rw [hm.out]; exact HO.out, HW.out⟩
        case measure => simp [intOf]; omega
    · obtain rfl : j = 20 := by omega
      go_wp2
      go_ret
      exact ⟨_, rfl, HO.out, BL.out⟩

set_option maxHeartbeats 400000 in
theorem rdays_any (ws d s l f k : Int) (hs : List Int) (a : Option Addr) (n c : Nat) (w : World) (hI : IntsAt w a n hs) (hws2 : ws ≤ 9223372036854775807) :
    Calls Tryd.prog 26 #[.agg #[.int .i64 f, .int .i64 k, .slice a n c], .agg #[.int .i64 ws, .int .i64 d, .int .i64 s, .int .i64 l]] w fun e w' =>
      ∃ v, e = .returned v ∧ w'.ownsRow (w.heap.size + 2) 3 1 v (daysL f k hs ws d 20).length ((daysL f k hs ws d 20).map (Value.int .i64)) ∧ Below w.heap.size w w' := by
  by_cases h0 : 0 ≤ ws
  · exact rdays_pos ws d s l f k hs a n c w hI h0 hws2
  · rw [daysL_neg f k hs ws d (by omega)]
    clear hI
    go_enter Tryd.func26, Tryd.ntmps26
    go_wp2
    go_ret
    exact ⟨_, rfl, World.ownsRow_nil _ _ _ _, ((Below.refl _ _).alloc (Nat.le_refl _) _).alloc (by simp) _⟩

theorem IntsAt.of_owns {w : World} {base : Nat} {e : TypeId} {v : Value} {L : List Int} (h : w.ownsRow base e 1 v L.length (L.map (Value.int .i64))) :
    ∃ a cap, v = .slice a L.length cap ∧ IntsAt w a L.length L := by
  obtain ⟨h1, ⟨rfl, h2⟩ | ⟨g, cap, cur, rfl, hg, hh, hc, hm, hs, ht⟩⟩ := id h
  · exact ⟨none, 0, by rw [h2], by rw [h2]; exact ⟨h2, by omega, Or.inl rfl⟩⟩
  · refine ⟨_, _, rfl, rfl, by unfold maxLen at hm; omega, ?_⟩
    by_cases h0 : L.length = 0
    · exact Or.inl h0
    · refine Or.inr ⟨g, 0, rfl, fun i hi => ?_⟩
      rw [Nat.zero_add, h.cellAt i (by omega)]
      simp [hi]

set_option maxHeartbeats 400000 in
theorem same_any (xs ys : List Int) (a b : Option Addr) (n m c d : Nat) (w : World) (hX : IntsAt w a n xs) (hY : IntsAt w b m ys) :
    Calls Tryd.prog 24 #[.slice a n c, .slice b m d] w fun e w' => e = .returned (.bool (sameI xs ys)) ∧ Below w.heap.size w w' := by
  obtain ⟨hx, hxn, hX⟩ := hX
  obtain ⟨hy, hyn, hY⟩ := hY
  by_cases hl : n = m
  rotate_left
  · have hr := Lib.hid (sameI_len (a := xs) (b := ys) (by omega))
    have k1 : ((n : Int) != (m : Int)) = true := by rw [bne_iff_ne]; omega
    clear hX hY hx hy hl
    go_enter Tryd.func24, Tryd.ntmps24
    go_wp2
    go_ret
    exact ⟨ret_bool hr.out.symm, Below.refl _ _⟩
  subst hl
  have k1 : ((n : Int) != (n : Int)) = false := by simp
  rcases hX with h0 | ⟨ba, oa, rfl, hcx⟩
  · subst h0
    have e1 := List.eq_nil_of_length_eq_zero hx
    have e2 := List.eq_nil_of_length_eq_zero hy
    subst e1 e2
    clear hx hy hY k1
    go_enter Tryd.func24, Tryd.ntmps24
    go_wp2
    go_loop [5] (fun i => i = .int .i64 0) (fun _ => 0)
    case atStart => rfl
    case round =>
      obtain rfl := hrel
      go_wp2
      go_ret
      exact ⟨rfl, Below.refl _ _⟩
  rcases hY with h0 | ⟨bb, ob, rfl, hcy⟩
  · subst h0
    have e1 := List.eq_nil_of_length_eq_zero hx
    have e2 := List.eq_nil_of_length_eq_zero hy
    subst e1 e2
    clear hx hy hcx k1
    go_enter Tryd.func24, Tryd.ntmps24
    go_wp2
    go_loop [5] (fun i => i = .int .i64 0) (fun _ => 0)
    case atStart => rfl
    case round =>
      obtain rfl := hrel
      go_wp2
      go_ret
      exact ⟨rfl, Below.refl _ _⟩
  have HX := Lib.hid hcx; have HY := Lib.hid hcy; have LX := Lib.hid hx; have LY := Lib.hid hy
  clear hcx hcy hx hy
  go_enter Tryd.func24, Tryd.ntmps24
  go_wp2
  go_loopw [5] (fun i wr => ∃ j : Nat, j ≤ n ∧ i = .int .i64 j ∧ Hid (∀ q, q < j → xs.getD q 0 = ys.getD q 0) ∧ ∃ nd, wr = w.drewN nd) (fun i _ => n - (intOf i).toNat)
  case atStart => exact ⟨0, by omega, rfl, Lib.hid (fun q hq => by omega), 0, rfl⟩
  case round =>
    obtain ⟨j, hj, rfl, hR, nd, rfl⟩ := hrel
    by_cases hlt : j < n
    · have gx := HX.out j hlt
      have gy := HY.out j hlt
      have hne := Lib.hid (fun h : xs.getD j 0 ≠ ys.getD j 0 => sameI_ne (i := j) h)
      have hnx : xs.getD j 0 = ys.getD j 0 → Hid (∀ q, q < j + 1 → xs.getD q 0 = ys.getD q 0) := fun h => Lib.hid (fun q hq => by
        by_cases e : q = j
        · rw [e]; exact h
        · exact hR.out q (by omega))
      generalize xs.getD j 0 = x at *
      generalize ys.getD j 0 = y at *
      by_cases t : x = y
      · have HN := hnx t
        have t' : (x != y) = false := by simpa using t
        clear hnx t
        go_wp2
        go_quiet (fail)
        go_wp2
        go_roundw
        case rel => exact ⟨j + 1, by omega, by go_num, HN, _, rfl⟩
        case measure => simp [intOf]; omega
      · have hf := Lib.hid (hne.out t)
        have t' : (x != y) = true := by simpa using t
        clear hnx t
        go_wp2
        go_quiet (fail)
        go_wp2
        go_ret
        exact ⟨ret_bool hf.out.symm, ⟨rfl, rfl, rfl, Nat.le_refl _, fun _ _ => rfl⟩⟩
    · obtain rfl : j = n := by omega
      have hf := Lib.hid (sameI_all (a := xs) (b := ys) (by rw [LX.out, LY.out]) (fun i hi => hR.out i (by have := LX.out; omega)))
      go_wp2
      go_ret
      exact ⟨ret_bool hf.out.symm, ⟨rfl, rfl, rfl, Nat.le_refl _, fun _ _ => rfl⟩⟩
end Go.Proofs.YtgdgpniceaknbaaDoor
