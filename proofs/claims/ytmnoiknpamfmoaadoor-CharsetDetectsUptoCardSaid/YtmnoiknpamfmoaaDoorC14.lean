import Derived.Test.YtmnoiknpamfmoaaDoorC13
namespace Go.Proofs.YtmnoiknpamfmoaaDoor
open Go.RowKit CS

set_option maxHeartbeats 1000000 in
set_option maxRecDepth 100000 in
theorem law_decodes (k : Int) (v : Value) (l : L8) (w : World) (hB : BSlice w v l) (hl : l.length ≤ 9223372036854775807) (hT : Lib.Utf8Tabs 0 1 w) :
    Calls Tryd.prog 3 #[v, .int .i64 k] w fun e w' => e = .returned (.bool true) ∧ Below w.heap.size w w' := by
  have D1 := Lib.hid (Decode_any k v l w hB hl hT)
  have D2 := Lib.hid (fun w1 (hb : Below w.heap.size w w1) => rDecode_any k v l w1 (hB.below hb) hl)
  have HT := Lib.hid hT
  have HL := Lib.hid (decR_len k l).2
  have hEE : (decE k l == decE k l) = true := by simp
  clear hB hT
  go_enter Tryd.func3, Tryd.ntmps3
  go_wp2_with (first | (go_at_call 8; refine D1.out.mono ?_) | fail)
  rintro e w1 ⟨dv1, rfl, hd1, hb1⟩
  have HD1 := Lib.hid hd1
  have HB1 := Lib.hid hb1
  clear hd1 hb1
  go_wp2_with (first | (go_at_call 9; refine (D2.out w1 HB1.out).mono ?_) | fail)
  rintro e w2 ⟨dv2, rfl, hd2, hb2⟩
  have HD2 := Lib.hid (HD1.out.below hb2)
  have HD3 := Lib.hid hd2
  have HB2 := Lib.hid (HB1.out.trans (hb2.mono HB1.out.size))
  clear hd2 hb2
  go_wp2_with (first | (go_at_call 10; refine (awake_any w2 (Utf8Tabs_below HT.out HB2.out)).mono ?_) | fail)
  rintro e w3 ⟨rfl, hb3⟩
  have HD4 := Lib.hid (HD2.out.below hb3)
  have HD5 := Lib.hid (HD3.out.below hb3)
  have HB3 := Lib.hid (HB2.out.trans (hb3.mono HB2.out.size))
  clear hb3
  go_wp2_with (first | (go_at_call 11; refine (same_any _ dv1 dv2 w3 (Nat.le_trans HL.out (by decide)) HD4.out HD5.out).mono ?_) | fail)
  rintro e w4 ⟨rfl, hb4⟩
  have HB4 := Lib.hid (HB3.out.trans (hb4.mono HB3.out.size))
  clear hb4
  go_wp2
  go_ret
  exact ⟨rfl, HB4.out⟩

/-! ### Mends -/

def lastAt (ds : Dmg) (j : Nat) : Int := if j = 0 then -1 else (ds.getD (j - 1) (0, 0)).1

theorem good_at (b : L8) : ∀ (ds : Dmg) (last : Int), good b last ds → ∀ j, j < ds.length →
    (if j = 0 then last else (ds.getD (j - 1) (0, 0)).1) < (ds.getD j (0, 0)).1 ∧ (ds.getD j (0, 0)).1 < b.length ∧ (ds.getD j (0, 0)).2 = ((b.getD (ds.getD j (0, 0)).1.toNat 0).toNat : Int) ∧ 128 ≤ (ds.getD j (0, 0)).2 ∧ last < (ds.getD j (0, 0)).1
  | [], _, _, j, h => by simp at h
  | (a, v) :: t, last, hg, 0, _ => by
    obtain ⟨h1, h2, h3, h4, _⟩ := hg
    exact ⟨h1, h2, h3, h4, h1⟩
  | (a, v) :: t, last, hg, j + 1, h => by
    obtain ⟨h1, h2, h3, h4, h5⟩ := hg
    have ih := good_at b t a h5 j (by simpa using h)
    obtain ⟨i1, i2, i3, i4, i5⟩ := ih
    have e1 : ((a, v) :: t).getD (j + 1) (0, 0) = t.getD j (0, 0) := by simp [List.getD]
    rw [e1]
    refine ⟨?_, i2, i3, i4, by omega⟩
    rw [if_neg (by omega)]
    cases j with
    | zero => simpa [List.getD] using i1
    | succ j => simpa [List.getD] using i1

theorem decR_good (k : Int) (l : L8) : good l (-1) (decR k l).2 := by
  unfold decR
  split
  · trivial
  · exact dec_good k l _ _ (-1) (Nat.le_refl _) (by omega)

/-- What Mends' loop reads. -/
theorem mend_facts (k : Int) (l : L8) (j : Nat) (h : j < (decR k l).2.length) :
    lastAt (decR k l).2 j < ((decR k l).2.getD j (0, 0)).1 ∧ 0 ≤ ((decR k l).2.getD j (0, 0)).1 ∧ ((decR k l).2.getD j (0, 0)).1 < l.length ∧ ((decR k l).2.getD j (0, 0)).2 = ((l.getD ((decR k l).2.getD j (0, 0)).1.toNat 0).toNat : Int) ∧ 128 ≤ ((decR k l).2.getD j (0, 0)).2 := by
  obtain ⟨h1, h2, h3, h4, h5⟩ := good_at l _ _ (decR_good k l) j h
  exact ⟨h1, by omega, h2, h3, h4⟩

set_option maxHeartbeats 2000000 in
set_option maxRecDepth 100000 in
theorem law_mends (q : Int) (hq1 : -9223372036854775808 ≤ q) (hq2 : q ≤ 9223372036854775807) (v : Value) (l : L8) (w : World) (hB : BSlice w v l) (hl : l.length ≤ 9223372036854775807) (hT : Lib.Utf8Tabs 0 1 w) :
    Calls Tryd.prog 4 #[v, .int .i64 q] w fun e w' => e = .returned (.bool true) ∧ Below w.heap.size w w' := by
  have hk0 := Int.emod_nonneg q (show (3 : Int) ≠ 0 by omega)
  have hk1 := Int.emod_lt_of_pos q (show (0 : Int) < 3 by omega)
  have HM := Lib.hid (fun w => mod_any q 3 hq1 hq2 (by omega) (by omega) w)
  generalize q % 3 = m at *
  have D1 := Lib.hid (Decode_any (1 + m) v l w hB hl hT)
  have HT := Lib.hid hT
  have HBS := Lib.hid hB
  have HL := Lib.hid (decR_len (1 + m) l)
  have HV := Lib.hid (decR_valid (1 + m) l)
  have HF := Lib.hid (mend_facts (1 + m) l)
  have HE : Hid (decE (1 + m) l = if 65536 < l.length then 2 else 0) := Lib.hid (by unfold decE; rw [if_neg (by omega)])
  have HP := Lib.hid (fun w => proper_any (decR (1 + m) l).1 (by have := HL.out.1; omega) w)
  rw [HV.out] at HP
  obtain ⟨a, n, cap, rfl, hn⟩ : ∃ a n cap, v = .slice a n cap ∧ n = l.length := by
    rcases hB with ⟨a, cap, rfl, rfl⟩ | ⟨b, off, cap, rfl, _, _⟩
    · exact ⟨_, _, _, rfl, rfl⟩
    · exact ⟨_, _, _, rfl, rfl⟩
  have hn2 : n ≤ 9223372036854775807 := by omega
  have HN := Lib.hid hn
  clear hB hT hl hn hq1 hq2
  by_cases hbig : 65536 < n
  · have hE : decE (1 + m) l = 2 := by rw [HE.out, if_pos (by rw [← HN.out]; exact hbig)]
    go_enter Tryd.func4, Tryd.ntmps4
    go_wp2_with (first | (go_at_call 12; refine (HM.out _).mono ?_; rintro e w' ⟨rfl, rfl⟩) | (go_at_call 8; refine D1.out.mono ?_))
    rintro e w1 ⟨dv1, rfl, hd1, hb1⟩
    rw [hE]
    have HB1 := Lib.hid hb1
    clear hd1 hb1
    go_wp2_with (first | (go_at_call 10; refine (awake_any w1 (Utf8Tabs_below HT.out HB1.out)).mono ?_) | fail)
    rintro e w3 ⟨rfl, hb3⟩
    have HB3 := Lib.hid (HB1.out.trans (hb3.mono HB1.out.size))
    clear hb3
    go_wp2
    go_ret
    exact ⟨rfl, HB3.out⟩
  · have hE : decE (1 + m) l = 0 := by rw [HE.out, if_neg (by rw [← HN.out]; exact hbig)]
    go_enter Tryd.func4, Tryd.ntmps4
    go_wp2_with (first | (go_at_call 12; refine (HM.out _).mono ?_; rintro e w' ⟨rfl, rfl⟩) | (go_at_call 8; refine D1.out.mono ?_))
    rintro e w1 ⟨dv1, rfl, hd1, hb1⟩
    rw [hE]
    obtain ⟨a1, cap1, rfl, hc1, hd1⟩ := hd1
    have HD := Lib.hid hd1
    have HB1 := Lib.hid hb1
    have hds : (decR (1 + m) l).2.length ≤ 65536 := HL.out.2
    clear hd1 hb1
    generalize hD : (decR (1 + m) l).2 = ds at *
    go_wp2
    go_loopw [8, 9] (fun last i wr => ∃ (j nd : Nat), j ≤ ds.length ∧ i = .int .i64 j ∧ last = .int .i64 (lastAt ds j) ∧ wr = w1.drewN nd) (fun _ i _ => ds.length - (intOf i).toNat)
    case atStart => exact ⟨0, 0, Nat.zero_le _, rfl, rfl, rfl⟩
    case round =>
      obtain ⟨j, nd, hj, rfl, rfl, rfl⟩ := hrel
      by_cases hlt : j < ds.length
      · obtain ⟨f1, f2, f3, f4, f5⟩ := HF.out j hlt
        obtain ⟨g, rfl, hc⟩ := HD.out (by intro e; rw [e] at hlt; simp at hlt)
        obtain ⟨c1, c2⟩ := hc j hlt
        have hne : l ≠ [] := by
          intro e
          have : l.length = 0 := by rw [e]; rfl
          omega
        obtain ⟨b, off, hav, hp⟩ : ∃ b off, a = some ⟨b, off, none⟩ ∧ Bytes w b off l := by
          rcases HBS.out with ⟨_, _, _, h⟩ | ⟨b, off, cap', h, _, hp⟩
          · exact absurd h hne
          · injection h with h1 h2 h3
            exact ⟨b, off, h1, hp⟩
        subst hav
        have c3 := (hp.below HB1.out) (ds.getD j (0, 0)).1.toNat (by omega)
        have hb0 : ((l.getD (ds.getD j (0, 0)).1.toNat 0).toNat : Int) < 256 := by have := (l.getD (ds.getD j (0, 0)).1.toNat 0).toNat_lt; omega
        have hnx : Hid (lastAt ds (j + 1) = (ds.getD j (0, 0)).1) := Lib.hid (by simp [lastAt])
        have hnn : (n : Int) = l.length := by have := HN.out; omega
        generalize hx : (ds.getD j (0, 0)).1 = x at *
        generalize hy : (ds.getD j (0, 0)).2 = y at *
        generalize ((l.getD x.toNat 0).toNat : Int) = y' at *
        subst f4
        generalize lastAt ds j = la at *
        have t1 : decide (x ≤ la) = false := by simp; omega
        have t2 : decide ((n : Int) ≤ x) = false := by simp; omega
        have t3 : (y != y) = false := by simp
        have t4 : decide (y < 128) = false := by simp; omega
        have f3' : x < (n : Int) := by omega
        clear hx hy hp hc hne hnn f3
        go_wp2
        go_quiet (fail)
        go_wp2
        exact ⟨⟨j + 1, nd + nq, by omega, by go_num, by rw [hnx.out], rfl⟩, by simp [intOf]; omega⟩
      · have hb2 : Below w.heap.size w (w1.drewN nd) := HB1.out.trans ⟨rfl, rfl, rfl, Nat.le_refl _, fun _ _ => rfl⟩
        have HB2 := Lib.hid hb2
        clear hb2
        go_wp2_with (first | (go_at_call 10; refine (awake_any _ (Utf8Tabs_below HT.out HB2.out)).mono ?_) | fail)
        rintro e w3 ⟨rfl, hb3⟩
        have HB3 := Lib.hid (HB2.out.trans (hb3.mono HB2.out.size))
        clear hb3
        go_wp2_with (first | (go_at_call 13; refine (HP.out _).mono ?_) | fail)
        rintro e w4 ⟨rfl, hb4⟩
        have HB4 := Lib.hid (HB3.out.trans (hb4.mono HB3.out.size))
        clear hb4
        go_wp2
        go_ret
        exact ⟨rfl, HB4.out⟩

end Go.Proofs.YtmnoiknpamfmoaaDoor
