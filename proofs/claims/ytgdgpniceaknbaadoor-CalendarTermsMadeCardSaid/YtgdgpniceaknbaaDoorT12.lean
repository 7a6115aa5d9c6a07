import Derived.Test.YtgdgpniceaknbaaDoorT11
namespace Go.Proofs.YtgdgpniceaknbaaDoor
open Go.RowKit TT

theorem bits_one (x : Int) (h0 : 0 ≤ x) (h1 : x ≤ 9223372036854775807) : bits .and .i64 x 1 = x % 2 := by
  obtain ⟨n, rfl⟩ := Int.eq_ofNat_of_zero_le h0
  have hn : n < 2 ^ 64 := by omega
  have hb : (BitVec.ofInt 64 (n : Int) &&& BitVec.ofInt 64 1).toNat = n % 2 := by
    rw [BitVec.toNat_and]
    have e1 : (BitVec.ofInt 64 (n : Int)).toNat = n := by simp; omega
    have e2 : (BitVec.ofInt 64 (1 : Int)).toNat = 1 := by decide
    rw [e1, e2, Nat.and_one_is_mod]
  show IntKind.i64.wrap (((BitVec.ofInt 64 (n : Int) &&& BitVec.ofInt 64 1).toNat : Nat) : Int) = _
  rw [hb]
  rw [IntWalk.i64_in _ (by omega)]
  omega
theorem shr_bd (ws : Int) (j : Nat) (h0 : 0 ≤ ws) (h1 : ws ≤ 9223372036854775807) : 0 ≤ ws / 2 ^ j ∧ ws / 2 ^ j ≤ 9223372036854775807 := by
  have hp : (0 : Int) < 2 ^ j := Int.pow_pos (by decide)
  refine ⟨Int.ediv_nonneg h0 (Int.le_of_lt hp), Int.le_trans (Int.ediv_le_self _ h0) h1⟩
theorem bit_eq0 (ws : Int) (j : Nat) (h0 : 0 ≤ ws) (h1 : ws ≤ 9223372036854775807) : (bits .and .i64 (ws / 2 ^ j) 1 == 0) = !bitT ws j := by
  obtain ⟨a, b⟩ := shr_bd ws j h0 h1
  rw [bits_one _ a b]
  unfold bitT
  rw [Bool.eq_iff_iff]
  simp only [beq_iff_eq, Bool.not_eq_true', decide_eq_false_iff_not]
  omega
theorem bit_eq1 (ws : Int) (j : Nat) (h0 : 0 ≤ ws) (h1 : ws ≤ 9223372036854775807) : (bits .and .i64 (ws / 2 ^ j) 1 == 1) = bitT ws j := by
  obtain ⟨a, b⟩ := shr_bd ws j h0 h1
  rw [bits_one _ a b]
  unfold bitT
  rw [Bool.eq_iff_iff]
  simp only [beq_iff_eq, decide_eq_true_eq]
  omega

/-- what a round of Days knows of the world -/
structure DayW (w wr : World) (f k ws d s l : Int) (a : Option Addr) (n c : Nat) : Prop where
  c0 : wr.cell? ⟨w.heap.size, 0, none⟩ = some (.int .i64 f)
  c1 : wr.cell? ⟨w.heap.size, 1, none⟩ = some (.int .i64 k)
  c2 : wr.cell? ⟨w.heap.size, 2, none⟩ = some (.slice a n c)
  t0 : wr.cell? ⟨w.heap.size + 1, 0, none⟩ = some (.int .i64 ws)
  t1 : wr.cell? ⟨w.heap.size + 1, 1, none⟩ = some (.int .i64 d)
  sz : w.heap.size + 1 < wr.heap.size
  bl : Below w.heap.size w wr
theorem DayW.next {w wr w2 : World} {f k ws d s l : Int} {a : Option Addr} {n c : Nat} (h : DayW w wr f k ws d s l a n c) (hb : Below (w.heap.size + 2) wr w2) : DayW w w2 f k ws d s l a n c :=
  ⟨by rw [hb.cell (p := ⟨w.heap.size, 0, none⟩) (by simp)]; exact h.c0, by rw [hb.cell (p := ⟨w.heap.size, 1, none⟩) (by simp)]; exact h.c1, by rw [hb.cell (p := ⟨w.heap.size, 2, none⟩) (by simp)]; exact h.c2,
   by rw [hb.cell (p := ⟨w.heap.size + 1, 0, none⟩) (by simp)]; exact h.t0, by rw [hb.cell (p := ⟨w.heap.size + 1, 1, none⟩) (by simp)]; exact h.t1, Nat.lt_of_lt_of_le h.sz hb.size, h.bl.trans (hb.mono (by omega))⟩
theorem DayW.mk0 (w : World) (f k ws d s l : Int) (a : Option Addr) (n c : Nat) (T U : TypeId) :
    DayW w ((w.alloc (.cells #[.int .i64 f, .int .i64 k, .slice a n c] T)).alloc (.cells #[.int .i64 ws, .int .i64 d, .int .i64 s, .int .i64 l] U)) f k ws d s l a n c :=
  ⟨by simp, by simp, by simp, by simp, by simp, by simp, ((Below.refl _ _).alloc (Nat.le_refl _) _).alloc (by simp) _⟩

theorem Tryd.info3 : (Tryd.prog.info? 3).map (fun i => (i.zero, i.size, i.bytes)) = some (some (.int .i64 0), 1, 8) := by kernel_rfl

theorem daysRow {w w2 : World} {v' : Value} {L : List Int} {x : Int}
    (hown' : w2.ownsRow (w.heap.size + 2) 3 1 v' (L.length + 1) (L.map (Value.int .i64) ++ [.int .i64 x])) : w2.ownsRow (w.heap.size + 2) 3 1 v' (L ++ [x]).length ((L ++ [x]).map (Value.int .i64)) := by
  simpa using hown'
theorem ownsRow_below {w w' : World} {base : Nat} {e : TypeId} {size : Nat} {v : Value} {n : Nat} {xs : List Value} (h : w.ownsRow base e size v n xs) (hb : Below w.heap.size w w') : w'.ownsRow base e size v n xs := by
  obtain ⟨h1, h2⟩ := id h
  refine ⟨h1, ?_⟩
  rcases h2 with h2 | ⟨g, cap, cur, hv, hg, hh, r⟩
  · exact Or.inl h2
  · have hlt := h.lt g (by rw [hv]; rfl)
    exact Or.inr ⟨g, cap, cur, hv, hg, by rw [hb.block g hlt.2]; exact hh, r⟩

set_option maxHeartbeats 1600000 in
theorem days_any' (ws d s l f k : Int) (hs : List Int) (a : Option Addr) (n c : Nat) (w : World) (hI : IntsAt w a n hs) (hws2 : ws ≤ 9223372036854775807) :
    Calls Tryd.prog 25 #[.agg #[.int .i64 f, .int .i64 k, .slice a n c], .agg #[.int .i64 ws, .int .i64 d, .int .i64 s, .int .i64 l]] w fun e w' =>
      ∃ v, e = .returned v ∧ w'.ownsRow (w.heap.size + 2) 3 1 v (daysL f k hs ws d 20).length ((daysL f k hs ws d 20).map (Value.int .i64)) ∧ Below w.heap.size w w' := by
  have HI := Lib.hid hI
  clear hI
  obtain ⟨i0, hi, hz0, hz1, hz2⟩ := info_parts Tryd.info3
  have HI0 := Lib.hid hi; have HZ0 := Lib.hid hz0; have HZ1 := Lib.hid hz1; have HZ2 := Lib.hid hz2
  clear hi hz0 hz1 hz2
  go_enter Tryd.func25, Tryd.ntmps25
  go_wp2
  go_loopw [5, 6, 7, 8, 9] (fun v _ _ _ i wr => ∃ j : Nat, j ≤ 20 ∧ i = .int .i64 j ∧ wr.ownsRow (w.heap.size + 2) 3 1 v (daysL f k hs ws d j).length ((daysL f k hs ws d j).map (Value.int .i64)) ∧ DayW w wr f k ws d s l a n c) (fun _ _ _ _ i _ => 20 - (intOf i).toNat)
  case atStart => exact ⟨0, by omega, rfl, World.ownsRow_nil _ _ _ _, DayW.mk0 ..⟩
  case round =>
    obtain ⟨j, hj, rfl, hown, hW⟩ := hrel
    obtain ⟨c0, c1, c2, t0, t1, sz, bl⟩ := id hW
    have sz' : w.heap.size < wr.heap.size := by omega
    have HW := Lib.hid hW
    have HO := Lib.hid hown
    have BL := Lib.hid bl
    clear hW hown bl
    by_cases hlt : j < 20
    · by_cases hb : bitT ws j = true
      · have h0 : 0 ≤ ws := by have := hb; simp [bitT] at this; exact this.1
        have hbit := bit_eq0 ws j h0 hws2
        rw [hb] at hbit
        simp only [Bool.not_true] at hbit
        have HB := Lib.hid hb
        clear hb
        cases hA : atB f k hs (j + 1) d
        · have hm : Hid (daysL f k hs ws d (j + 1) = daysL f k hs ws d j) := Lib.hid (daysL_miss (Or.inr hA))
          go_wp2_with (go_at_call 18; refine (at_any f k _ _ hs a n c _ (HI.out.below BL.out)).mono ?_; rintro e w1 ⟨rfl, hb1⟩; rw [hA])
          go_roundw
          case rel => exact ⟨j + 1, by omega, by go_num, by rw [hm.out]; exact ownsRow_below HO.out hb1, HW.out.next (hb1.mono sz)⟩
          case measure => simp [intOf]; omega
        · have hm : Hid (daysL f k hs ws d (j + 1) = daysL f k hs ws d j ++ [atV f k hs (j + 1) d]) := Lib.hid (daysL_hit HB.out hA)
          have hlen := daysL_len f k hs ws d j
          go_wp2_with (first | (go_at_call 18; refine (at_any f k _ _ hs a n c _ (HI.out.below BL.out)).mono ?_; rintro e w1 ⟨rfl, hb1⟩; rw [hA]) | (at_builtin; refine wpList_append_own _ rfl _ _ 35 rfl (w.heap.size + 2) 3 i0 (.int .i64 0) 1 8 Tryd.underlying35 HI0.out HZ0.out HZ1.out HZ2.out rfl (by decide) _ _ _ rfl ((ownsRow_below HO.out hb1).alloc _) ⟨w1.heap.size, 0, none⟩ 1 1 [.int .i64 (atV f k hs (j + 1) d)] rfl rfl ?c1 ?c2 ?c3 ?c4 ?c5 ?_))
          case c1 =>
            intro j u hj
            match j, hj with
            | 0, hj => simp at hj; subst hj; simp [Addr.add]
          case c2 => intro u hu; simp at hu; subst hu; rfl
          case c3 => unfold maxLen; omega
          case c4 => omega
          case c5 => have := hb1.size; simp; omega
          intro v' w2 hown' hgrow _
          have hown2 := Lib.hid (daysRow hown')
          have hB2 : Hid (Below (w.heap.size + 2) wr w2) := Lib.hid (((hb1.mono sz).alloc (by have := hb1.size; omega) _).grown hgrow (by have := hb1.size; simp; omega) (fun q hq => ((ownsRow_below HO.out hb1).lt q hq).1))
          clear hown' hgrow hb1
          go_wp2
          go_roundw
          case rel => exact ⟨j + 1, by omega, by go_num, by rw [hm.out]; exact hown2.out, HW.out.next hB2.out⟩
          case measure => simp [intOf]; omega
      · have hb' : bitT ws j = false := by simpa using hb
        have hm : Hid (daysL f k hs ws d (j + 1) = daysL f k hs ws d j) := Lib.hid (daysL_miss (Or.inl hb'))
        by_cases h0 : 0 ≤ ws
        · have hbit := bit_eq0 ws j h0 hws2
          rw [hb'] at hbit
          simp only [Bool.not_false] at hbit
          clear hb hb'
          go_wp2
          go_roundw
          case rel => exact ⟨j + 1, by omega, by go_num, by rw [hm.out]; exact HO.out, HW.out⟩
          case measure => simp [intOf]; omega
        · clear hb hb'
          go_wp2
          go_roundw
          case rel => exact ⟨j + 1, by omega, by go_num, by rw [hm.out]; exact HO.out, HW.out⟩
          case measure => simp [intOf]; omega
    · obtain rfl : j = 20 := by omega
      go_wp2
      go_ret
      exact ⟨_, rfl, HO.out, BL.out⟩
end Go.Proofs.YtgdgpniceaknbaaDoor
