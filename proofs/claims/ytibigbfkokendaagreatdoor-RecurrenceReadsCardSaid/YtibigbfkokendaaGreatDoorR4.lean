/- Series: Valid of the reference. -/
import Derived.Test.YtibigbfkokendaaGreatDoorR3
namespace Go.Proofs.YtibigbfkokendaaGreatDoor
open Go.RowKit TT

theorem bel_drew0 (w : World) : Below w.heap.size w w.drew := ⟨rfl, rfl, rfl, Nat.le_refl _, fun _ _ => rfl⟩
theorem below_cell {w w1 : World} (hb : Below w.heap.size w w1) {a : Addr} {v : Value} (h : w.cell? a = some v) : w1.cell? a = some v := by rw [hb.cell (p := a) (lt_of_cell h)]; exact h

set_option maxHeartbeats 1000000 in
theorem rvalidA (f l e k : Int) (a : Option Addr) (n c : Nat) (b : Option Addr) (m q : Nat) (xs ys : List Int) (w : World) (hx : IntsAt w a n xs) (hy : IntsAt w b m ys) (hs : n + m ≤ 9223372036854775807)
    (h : vl0 f l e k (xs.length + ys.length) ≠ 0) :
    Calls Tryz.prog 26 #[serV f l e k a n c b m q] w (RetB (.int .i64 (vlE f l e k xs ys)) w) := by
  have hl : xs.length + ys.length = n + m := by rw [hx.len, hy.len]
  have hc := vl0_cases f l e k (xs.length + ys.length)
  clear hx hy
  rcases hc with ⟨hv, h1⟩ | ⟨hv, h1, h2⟩ | ⟨hv, h1, h2, h3⟩ | ⟨hv, h1, h2, h3, h4⟩ | ⟨hv, h1, h2, h3, h4, h5⟩ | ⟨hv, h1, h2, h3, h4, h5, h6⟩ | ⟨hv, h1, h2, h3, h4, h5, h6, h7⟩ | ⟨hv, h1, h2, h3, h4, h5, h6, h7, h8⟩ | ⟨hv, h1, h2, h3, h4, h5, h6, h7, h8, h9⟩ | ⟨hv, _⟩
  rotate_right
  · exact absurd hv h
  all_goals
    have hf := Lib.hid (vlE_first hv (by decide))
    clear hv h
  · have H1 := Lib.hid h1
    clear h1 hl hs
    go_enter Tryz.func26, Tryz.ntmps26
    go_wp2_with (go_at_call 33; refine (ris_any f _).mono ?_; rintro e w' ⟨rfl, rfl⟩; rw [H1.out])
    go_ret
    exact ⟨ret_int hf.out, (Below.refl _ _).alloc (Nat.le_refl _) _⟩
  · have H1 := Lib.hid h1; have H2 := Lib.hid h2
    clear h1 h2 hl hs
    go_enter Tryz.func26, Tryz.ntmps26
    go_wp2_with (go_at_call 33; refine (ris_any _ _).mono ?_; rintro e w' ⟨rfl, rfl⟩; first | rw [H1.out] | rw [H2.out])
    go_ret
    exact ⟨ret_int hf.out, (Below.refl _ _).alloc (Nat.le_refl _) _⟩
  all_goals
    obtain ⟨f1, f2⟩ := okDay_of h1
    obtain ⟨l1, l2⟩ := okDay_of h2
    have H1 := Lib.hid h1
    have H2 := Lib.hid h2
    have hL := Lib.hid hl
    clear h1 h2 hl
  rotate_right
  · have h9' : (140 : Int) < (n : Int) + m := by rw [hL.out] at h9; omega
    clear h9
    go_enter Tryz.func26, Tryz.ntmps26
    go_wp2_with (go_at_call 33; refine (ris_any _ _).mono ?_; rintro e w' ⟨rfl, rfl⟩; first | rw [H1.out] | rw [H2.out])
    go_ret
    exact ⟨ret_int hf.out, (Below.refl _ _).alloc (Nat.le_refl _) _⟩
  all_goals
    clear hs
    go_enter Tryz.func26, Tryz.ntmps26
    go_wp2_with (go_at_call 33; refine (ris_any _ _).mono ?_; rintro e w' ⟨rfl, rfl⟩; first | rw [H1.out] | rw [H2.out])
    go_ret
    exact ⟨ret_int hf.out, (Below.refl _ _).alloc (Nat.le_refl _) _⟩

set_option maxRecDepth 100000 in
set_option maxHeartbeats 4000000 in
theorem rvalidB (f l e k : Int) (a : Option Addr) (n c : Nat) (b : Option Addr) (m q : Nat) (xs ys : List Int) (w : World) (hx : IntsAt w a n xs) (hy : IntsAt w b m ys)
    (h : vl0 f l e k (xs.length + ys.length) = 0) :
    Calls Tryz.prog 26 #[serV f l e k a n c b m q] w (RetB (.int .i64 (vlE f l e k xs ys)) w) := by
  obtain ⟨o1, o2, h3, h4, e1, e2, k1, k2, hs⟩ := vl0_inv h
  obtain ⟨f1, f2⟩ := okDay_of o1
  obtain ⟨l1, l2⟩ := okDay_of o2
  have H := Lib.hid h
  have hnm : (n : Int) + m ≤ 140 := by have := hx.len; have := hy.len; omega
  have LX := Lib.hid hx.len
  have LY := Lib.hid hy.len
  have O1 := Lib.hid o1
  have O2 := Lib.hid o2
  have HS := Lib.hid (SC.mk0 (w := w) (f := f) (l := l) (e := e) (k := k) (c := c) (q := q) 24 hx hy)
  clear h o1 o2 hs hx hy
  go_enter Tryz.func26, Tryz.ntmps26
  go_wp2_with (go_at_call 33; refine (ris_any _ _).mono ?_; rintro e w' ⟨rfl, rfl⟩; first | rw [O1.out] | rw [O2.out])
  go_loopw [3] (fun i wr => ∃ j : Nat, j ≤ n ∧ i = .int .i64 j ∧ Hid (excE (regB f l e k) 12 none xs = excE (regB f l e k) 12 (pvI xs j) (xs.drop j)) ∧ SC w wr w.heap.size f l e k a n c b m q xs ys) (fun i _ => n - (intOf i).toNat)
  case atStart => exact ⟨0, by omega, rfl, Lib.hid (by rw [excE_start]), HS.out⟩
  case round =>
    clear HS
    obtain ⟨j, hj, rfl, hR, hW⟩ := hrel
    by_cases hlt : j < n
    · have hstep := Lib.hid (excE_step (regB f l e k) 12 xs j (by rw [LX.out]; exact hlt))
      obtain ⟨ba, oa, rfl, hbz, hcc⟩ := hW.xa.cell hlt
      obtain ⟨c0, c1, c2, c3, c4, c5, _, _, sz, _⟩ := id hW
      have gj := hcc j hlt
      have HC := Lib.hid hcc
      clear hcc
      have HW := Lib.hid hW
      clear hW
      have y5 : (0 : Int) ≤ j := by omega
      have y6 : (j : Int) < n := by omega
      by_cases t3 : 0 < j
      · have gk : wr.cell? ⟨ba, oa + (j - 1), none⟩ = some (.int .i64 (xs.getD (j - 1) 0)) := HC.out (j - 1) (by omega)
        have gk' : wr.cell? ⟨ba, oa + ((j : Int) - 1).toNat, none⟩ = some (.int .i64 (xs.getD (j - 1) 0)) := by rw [show ((j : Int) - 1).toNat = j - 1 by omega]; exact HC.out (j - 1) (by omega)
        have y1 : IntKind.i64.wrap ((j : Int) - 1) = (j : Int) - 1 := IntWalk.i64_in _ (by omega)
        have y3 : (0 : Int) ≤ (j : Int) - 1 := by omega
        have y4 : (j : Int) - 1 < n := by omega
        generalize hx0 : xs.getD j 0 = x at *
        generalize hx1 : xs.getD (j - 1) 0 = x1 at *
        clear hx1
        by_cases t4 : x ≤ x1
        · have hfin := Lib.hid (vlE_x (v := 63) H.out (by rw [hR.out, hstep.out, if_pos ⟨t3, t4⟩]) (by decide))
          have d1 : decide (x ≤ x1) = true := by simpa using t4
          clear hx0
          go_wp2_with fail
          go_quiet (fail)
          clear y1 y3 y4 y5 y6 d1
          go_wp2
          go_ret
          exact ⟨ret_int hfin.out, (HW.out.drewN _).bl⟩
        · have hstep2 : Hid (excE (regB f l e k) 12 none xs = bif regB f l e k x then excE (regB f l e k) 12 (pvI xs (j + 1)) (xs.drop (j + 1)) else 12) := Lib.hid (by rw [hR.out, hstep.out, if_neg (fun h => t4 h.2)])
          have d1 : decide (x ≤ x1) = false := by simpa using t4
          clear hstep
          have HX0 := Lib.hid hx0
          clear hx0
          go_wp2_with fail
          go_quiet (fail)
          clear y1 y3 y4 d1 gk gk' t4
          have HW1 := HW.out.drewN nq
          clear c0 c1 c2 c3 c4 c5 gj sz HC HW hbz
          generalize wr.drewN nq = w1 at *
          obtain ⟨c0, c1, c2, c3, c4, c5, XA, YA, sz, _⟩ := id HW1
          obtain ⟨ba', oa', hba, _, hcc⟩ := IntsAt.cell XA hlt
          cases hba
          have gj := hcc j hlt
          rw [HX0.out] at gj
          have HW := Lib.hid HW1
          clear hcc HW1 XA YA
          cases hp : regB f l e k x
          · have hfin := Lib.hid (vlE_x (v := 12) H.out (by rw [hstep2.out, hp, cond_false]) (by decide))
            go_wp2_with fail
            go_region_held3 (fun w' => w'.cell? ⟨w.heap.size, 0, none⟩ = some (.int .i64 f) ∧ w'.cell? ⟨w.heap.size, 1, none⟩ = some (.int .i64 l) ∧ w'.cell? ⟨w.heap.size, 2, none⟩ = some (.int .i64 e) ∧ w'.cell? ⟨w.heap.size, 3, none⟩ = some (.int .i64 k) ∧ w'.cell? ⟨w.heap.size, 4, none⟩ = some (.slice (some ⟨ba, oa, none⟩) n c) ∧ w'.cell? ⟨w.heap.size, 5, none⟩ = some (.slice b m q) ∧ w'.cell? ⟨ba, oa + j, none⟩ = some (.int .i64 x)) (first | (with_reducible exact ⟨c0, c1, c2, c3, c4, c5, gj⟩) | go_keep) ((go_at_call 51; refine (rregular_any f l e k x _ _ c _ m q _ f1 l2 e1 e2 k1 k2).mono ?_; rintro e w2 ⟨rfl, hb⟩; rw [hp]; have c0 := below_cell hb (a := ⟨w.heap.size, 0, none⟩) (v := .int .i64 f) (by assumption); have c1 := below_cell hb (a := ⟨w.heap.size, 1, none⟩) (v := .int .i64 l) (by assumption); have c2 := below_cell hb (a := ⟨w.heap.size, 2, none⟩) (v := .int .i64 e) (by assumption); have c3 := below_cell hb (a := ⟨w.heap.size, 3, none⟩) (v := .int .i64 k) (by assumption); have c4 := below_cell hb (a := ⟨w.heap.size, 4, none⟩) (v := .slice (some ⟨ba, oa, none⟩) n c) (by assumption); have c5 := below_cell hb (a := ⟨w.heap.size, 5, none⟩) (v := .slice b m q) (by assumption); have gj := below_cell hb (a := ⟨ba, oa + j, none⟩) (v := .int .i64 x) (by assumption)))
            clear y5 y6
            go_wp2
            go_ret
            exact ⟨ret_int hfin.out, ((HW.out.next (bel_drew0 _)).next hb).bl⟩
          · have hnx : Hid (excE (regB f l e k) 12 none xs = excE (regB f l e k) 12 (pvI xs (j + 1)) (xs.drop (j + 1))) := Lib.hid (by rw [hstep2.out, hp, cond_true])
            go_wp2_with fail
            go_region_held3 (fun w' => w'.cell? ⟨w.heap.size, 0, none⟩ = some (.int .i64 f) ∧ w'.cell? ⟨w.heap.size, 1, none⟩ = some (.int .i64 l) ∧ w'.cell? ⟨w.heap.size, 2, none⟩ = some (.int .i64 e) ∧ w'.cell? ⟨w.heap.size, 3, none⟩ = some (.int .i64 k) ∧ w'.cell? ⟨w.heap.size, 4, none⟩ = some (.slice (some ⟨ba, oa, none⟩) n c) ∧ w'.cell? ⟨w.heap.size, 5, none⟩ = some (.slice b m q) ∧ w'.cell? ⟨ba, oa + j, none⟩ = some (.int .i64 x)) (first | (with_reducible exact ⟨c0, c1, c2, c3, c4, c5, gj⟩) | go_keep) ((go_at_call 51; refine (rregular_any f l e k x _ _ c _ m q _ f1 l2 e1 e2 k1 k2).mono ?_; rintro e w2 ⟨rfl, hb⟩; rw [hp]; have c0 := below_cell hb (a := ⟨w.heap.size, 0, none⟩) (v := .int .i64 f) (by assumption); have c1 := below_cell hb (a := ⟨w.heap.size, 1, none⟩) (v := .int .i64 l) (by assumption); have c2 := below_cell hb (a := ⟨w.heap.size, 2, none⟩) (v := .int .i64 e) (by assumption); have c3 := below_cell hb (a := ⟨w.heap.size, 3, none⟩) (v := .int .i64 k) (by assumption); have c4 := below_cell hb (a := ⟨w.heap.size, 4, none⟩) (v := .slice (some ⟨ba, oa, none⟩) n c) (by assumption); have c5 := below_cell hb (a := ⟨w.heap.size, 5, none⟩) (v := .slice b m q) (by assumption); have gj := below_cell hb (a := ⟨ba, oa + j, none⟩) (v := .int .i64 x) (by assumption)))
            clear y5 y6
            go_wp2
            go_roundw
            case rel => exact ⟨j + 1, by omega, by go_num, hnx, (HW.out.next (bel_drew0 _)).next hb⟩
            case measure => simp [intOf]; omega
      · generalize hx0 : xs.getD j 0 = x at *
        have hstep2 : Hid (excE (regB f l e k) 12 none xs = bif regB f l e k x then excE (regB f l e k) 12 (pvI xs (j + 1)) (xs.drop (j + 1)) else 12) := Lib.hid (by rw [hR.out, hstep.out, if_neg (fun h => t3 h.1)])
        have d0 : decide (0 < j) = false := by simp; omega
        clear hstep
        have HX0 := Lib.hid hx0
        clear hx0
        go_wp2_with fail
        go_quiet (fail)
        clear d0
        have HW1 := HW.out.drewN nq
        clear c0 c1 c2 c3 c4 c5 gj sz HC HW hbz
        generalize wr.drewN nq = w1 at *
        obtain ⟨c0, c1, c2, c3, c4, c5, XA, YA, sz, _⟩ := id HW1
        obtain ⟨ba', oa', hba, _, hcc⟩ := IntsAt.cell XA hlt
        cases hba
        have gj := hcc j hlt
        rw [HX0.out] at gj
        have HW := Lib.hid HW1
        clear hcc HW1 XA YA
        cases hp : regB f l e k x
        · have hfin := Lib.hid (vlE_x (v := 12) H.out (by rw [hstep2.out, hp, cond_false]) (by decide))
          go_wp2_with fail
          go_region_held3 (fun w' => w'.cell? ⟨w.heap.size, 0, none⟩ = some (.int .i64 f) ∧ w'.cell? ⟨w.heap.size, 1, none⟩ = some (.int .i64 l) ∧ w'.cell? ⟨w.heap.size, 2, none⟩ = some (.int .i64 e) ∧ w'.cell? ⟨w.heap.size, 3, none⟩ = some (.int .i64 k) ∧ w'.cell? ⟨w.heap.size, 4, none⟩ = some (.slice (some ⟨ba, oa, none⟩) n c) ∧ w'.cell? ⟨w.heap.size, 5, none⟩ = some (.slice b m q) ∧ w'.cell? ⟨ba, oa + j, none⟩ = some (.int .i64 x)) (first | (with_reducible exact ⟨c0, c1, c2, c3, c4, c5, gj⟩) | go_keep) ((go_at_call 51; refine (rregular_any f l e k x _ _ c _ m q _ f1 l2 e1 e2 k1 k2).mono ?_; rintro e w2 ⟨rfl, hb⟩; rw [hp]; have c0 := below_cell hb (a := ⟨w.heap.size, 0, none⟩) (v := .int .i64 f) (by assumption); have c1 := below_cell hb (a := ⟨w.heap.size, 1, none⟩) (v := .int .i64 l) (by assumption); have c2 := below_cell hb (a := ⟨w.heap.size, 2, none⟩) (v := .int .i64 e) (by assumption); have c3 := below_cell hb (a := ⟨w.heap.size, 3, none⟩) (v := .int .i64 k) (by assumption); have c4 := below_cell hb (a := ⟨w.heap.size, 4, none⟩) (v := .slice (some ⟨ba, oa, none⟩) n c) (by assumption); have c5 := below_cell hb (a := ⟨w.heap.size, 5, none⟩) (v := .slice b m q) (by assumption); have gj := below_cell hb (a := ⟨ba, oa + j, none⟩) (v := .int .i64 x) (by assumption)))
          clear y5 y6
          go_wp2
          go_ret
          exact ⟨ret_int hfin.out, ((HW.out.next (bel_drew0 _)).next hb).bl⟩
        · have hnx : Hid (excE (regB f l e k) 12 none xs = excE (regB f l e k) 12 (pvI xs (j + 1)) (xs.drop (j + 1))) := Lib.hid (by rw [hstep2.out, hp, cond_true])
          go_wp2_with fail
          go_region_held3 (fun w' => w'.cell? ⟨w.heap.size, 0, none⟩ = some (.int .i64 f) ∧ w'.cell? ⟨w.heap.size, 1, none⟩ = some (.int .i64 l) ∧ w'.cell? ⟨w.heap.size, 2, none⟩ = some (.int .i64 e) ∧ w'.cell? ⟨w.heap.size, 3, none⟩ = some (.int .i64 k) ∧ w'.cell? ⟨w.heap.size, 4, none⟩ = some (.slice (some ⟨ba, oa, none⟩) n c) ∧ w'.cell? ⟨w.heap.size, 5, none⟩ = some (.slice b m q) ∧ w'.cell? ⟨ba, oa + j, none⟩ = some (.int .i64 x)) (first | (with_reducible exact ⟨c0, c1, c2, c3, c4, c5, gj⟩) | go_keep) ((go_at_call 51; refine (rregular_any f l e k x _ _ c _ m q _ f1 l2 e1 e2 k1 k2).mono ?_; rintro e w2 ⟨rfl, hb⟩; rw [hp]; have c0 := below_cell hb (a := ⟨w.heap.size, 0, none⟩) (v := .int .i64 f) (by assumption); have c1 := below_cell hb (a := ⟨w.heap.size, 1, none⟩) (v := .int .i64 l) (by assumption); have c2 := below_cell hb (a := ⟨w.heap.size, 2, none⟩) (v := .int .i64 e) (by assumption); have c3 := below_cell hb (a := ⟨w.heap.size, 3, none⟩) (v := .int .i64 k) (by assumption); have c4 := below_cell hb (a := ⟨w.heap.size, 4, none⟩) (v := .slice (some ⟨ba, oa, none⟩) n c) (by assumption); have c5 := below_cell hb (a := ⟨w.heap.size, 5, none⟩) (v := .slice b m q) (by assumption); have gj := below_cell hb (a := ⟨ba, oa + j, none⟩) (v := .int .i64 x) (by assumption)))
          clear y5 y6
          go_wp2
          go_roundw
          case rel => exact ⟨j + 1, by omega, by go_num, hnx, (HW.out.next (bel_drew0 _)).next hb⟩
          case measure => simp [intOf]; omega
    · obtain rfl : j = n := by omega
      have hX0 : Hid (excE (regB f l e k) 12 none xs = 0) := Lib.hid (by rw [hR.out]; have := LX.out; subst this; exact excE_end _ _ _)
      obtain ⟨c0, c1, c2, c3, c4, c5, _, _, sz, _⟩ := id hW
      have HW := Lib.hid hW
      clear hW hR hlt
      obtain ⟨wo, rfl⟩ : ∃ wo : World, wo = wr := ⟨_, rfl⟩
      go_wp2
      go_loopw [4] (fun i wr => ∃ j' : Nat, j' ≤ m ∧ i = .int .i64 j' ∧ Hid (excE (outB f l e k) 11 none ys = excE (outB f l e k) 11 (pvI ys j') (ys.drop j')) ∧ SC w wr w.heap.size f l e k a j c b m q xs ys) (fun i _ => m - (intOf i).toNat)
      case atStart => exact ⟨0, by omega, rfl, Lib.hid (by rw [excE_start]), HW.out⟩
      case round =>
        clear HW c0 c1 c2 c3 c4 c5 sz
        obtain ⟨n', hn'⟩ : ∃ n' : Nat, n' = j := ⟨_, rfl⟩
        subst hn'
        obtain ⟨j, hj, rfl, hR, hW⟩ := hrel
        by_cases hlt : j < m
        · have hstep := Lib.hid (excE_step (outB f l e k) 11 ys j (by rw [LY.out]; exact hlt))
          obtain ⟨ba, oa, rfl, hbz, hcc⟩ := hW.ya.cell hlt
          obtain ⟨c0, c1, c2, c3, c4, c5, _, _, sz, _⟩ := id hW
          have gj := hcc j hlt
          have HC := Lib.hid hcc
          clear hcc
          have HW := Lib.hid hW
          clear hW
          have y5 : (0 : Int) ≤ j := by omega
          have y6 : (j : Int) < m := by omega
          by_cases t3 : 0 < j
          · have gk : wr.cell? ⟨ba, oa + (j - 1), none⟩ = some (.int .i64 (ys.getD (j - 1) 0)) := HC.out (j - 1) (by omega)
            have gk' : wr.cell? ⟨ba, oa + ((j : Int) - 1).toNat, none⟩ = some (.int .i64 (ys.getD (j - 1) 0)) := by rw [show ((j : Int) - 1).toNat = j - 1 by omega]; exact HC.out (j - 1) (by omega)
            have y1 : IntKind.i64.wrap ((j : Int) - 1) = (j : Int) - 1 := IntWalk.i64_in _ (by omega)
            have y3 : (0 : Int) ≤ (j : Int) - 1 := by omega
            have y4 : (j : Int) - 1 < m := by omega
            generalize hx0 : ys.getD j 0 = x at *
            generalize hx1 : ys.getD (j - 1) 0 = x1 at *
            clear hx1
            by_cases t4 : x ≤ x1
            · have hfin := Lib.hid (vlE_y (v := 63) H.out hX0.out (by rw [hR.out, hstep.out, if_pos ⟨t3, t4⟩]))
              have d1 : decide (x ≤ x1) = true := by simpa using t4
              clear hx0
              go_wp2_with fail
              go_quiet (fail)
              clear y1 y3 y4 y5 y6 d1
              go_wp2
              go_ret
              exact ⟨ret_int hfin.out, (HW.out.drewN _).bl⟩
            · have hstep2 : Hid (excE (outB f l e k) 11 none ys = bif outB f l e k x then excE (outB f l e k) 11 (pvI ys (j + 1)) (ys.drop (j + 1)) else 11) := Lib.hid (by rw [hR.out, hstep.out, if_neg (fun h => t4 h.2)])
              have d1 : decide (x ≤ x1) = false := by simpa using t4
              clear hstep
              have HX0 := Lib.hid hx0
              clear hx0
              go_wp2_with fail
              go_quiet (fail)
              clear y1 y3 y4 d1 gk gk' t4
              have HW1 := HW.out.drewN nq
              clear c0 c1 c2 c3 c4 c5 gj sz HC HW hbz
              generalize wr.drewN nq = w1 at *
              obtain ⟨c0, c1, c2, c3, c4, c5, XA, YA, sz, _⟩ := id HW1
              obtain ⟨ba', oa', hba, _, hcc⟩ := IntsAt.cell YA hlt
              cases hba
              have gj := hcc j hlt
              rw [HX0.out] at gj
              have HW := Lib.hid HW1
              clear hcc HW1 XA YA
              by_cases t1 : x < f
              · have hfin := Lib.hid (vlE_y (v := 11) H.out hX0.out (by rw [hstep2.out, show outB f l e k x = false from by simp [outB]; omega, cond_false]))
                have d1 : decide (x < f) = true := by simpa using t1
                go_wp2_with fail
                go_quiet (fail)
                clear y5 y6 d1
                go_wp2
                go_ret
                exact ⟨ret_int hfin.out, (HW.out.drewN _).bl⟩
              have d1 : decide (x < f) = false := by simpa using t1
              by_cases t2 : l < x
              · have hfin := Lib.hid (vlE_y (v := 11) H.out hX0.out (by rw [hstep2.out, show outB f l e k x = false from by simp [outB]; omega, cond_false]))
                have d2 : decide (l < x) = true := by simpa using t2
                go_wp2_with fail
                go_quiet (fail)
                clear y5 y6 d1 d2
                go_wp2
                go_ret
                exact ⟨ret_int hfin.out, (HW.out.drewN _).bl⟩
              have d2 : decide (l < x) = false := by simpa using t2
              have ho : Hid (outB f l e k x = !(regB f l e k x)) := Lib.hid (by unfold outB; rw [decide_eq_true (by omega), Bool.true_and])
              cases hp : regB f l e k x
              · have hnx : Hid (excE (outB f l e k) 11 none ys = excE (outB f l e k) 11 (pvI ys (j + 1)) (ys.drop (j + 1))) := Lib.hid (by rw [hstep2.out, ho.out, hp]; rfl)
                go_wp2_with fail
                go_region_held3 (fun w' => w'.cell? ⟨w.heap.size, 0, none⟩ = some (.int .i64 f) ∧ w'.cell? ⟨w.heap.size, 1, none⟩ = some (.int .i64 l) ∧ w'.cell? ⟨w.heap.size, 2, none⟩ = some (.int .i64 e) ∧ w'.cell? ⟨w.heap.size, 3, none⟩ = some (.int .i64 k) ∧ w'.cell? ⟨w.heap.size, 4, none⟩ = some (.slice a n' c) ∧ w'.cell? ⟨w.heap.size, 5, none⟩ = some (.slice (some ⟨ba, oa, none⟩) m q) ∧ w'.cell? ⟨ba, oa + j, none⟩ = some (.int .i64 x)) (first | (with_reducible exact ⟨c0, c1, c2, c3, c4, c5, gj⟩) | go_keep) ((go_at_call 51; refine (rregular_any f l e k x _ _ c _ m q _ f1 l2 e1 e2 k1 k2).mono ?_; rintro e w2 ⟨rfl, hb⟩; rw [hp]; have c0 := below_cell hb (a := ⟨w.heap.size, 0, none⟩) (v := .int .i64 f) (by assumption); have c1 := below_cell hb (a := ⟨w.heap.size, 1, none⟩) (v := .int .i64 l) (by assumption); have c2 := below_cell hb (a := ⟨w.heap.size, 2, none⟩) (v := .int .i64 e) (by assumption); have c3 := below_cell hb (a := ⟨w.heap.size, 3, none⟩) (v := .int .i64 k) (by assumption); have c4 := below_cell hb (a := ⟨w.heap.size, 4, none⟩) (v := .slice a n' c) (by assumption); have c5 := below_cell hb (a := ⟨w.heap.size, 5, none⟩) (v := .slice (some ⟨ba, oa, none⟩) m q) (by assumption); have gj := below_cell hb (a := ⟨ba, oa + j, none⟩) (v := .int .i64 x) (by assumption)))
                clear y5 y6 d1 d2 t1 t2 sz c0 c1 c2 c3 c4 c5 gj
                go_wp2
                go_roundw
                case rel => exact ⟨j + 1, by omega, by go_num, hnx, (HW.out.next (bel_drew0 _)).next hb⟩
                case measure => simp [intOf]; omega
              · have hfin := Lib.hid (vlE_y (v := 11) H.out hX0.out (by rw [hstep2.out, ho.out, hp]; rfl))
                go_wp2_with fail
                go_region_held3 (fun w' => w'.cell? ⟨w.heap.size, 0, none⟩ = some (.int .i64 f) ∧ w'.cell? ⟨w.heap.size, 1, none⟩ = some (.int .i64 l) ∧ w'.cell? ⟨w.heap.size, 2, none⟩ = some (.int .i64 e) ∧ w'.cell? ⟨w.heap.size, 3, none⟩ = some (.int .i64 k) ∧ w'.cell? ⟨w.heap.size, 4, none⟩ = some (.slice a n' c) ∧ w'.cell? ⟨w.heap.size, 5, none⟩ = some (.slice (some ⟨ba, oa, none⟩) m q) ∧ w'.cell? ⟨ba, oa + j, none⟩ = some (.int .i64 x)) (first | (with_reducible exact ⟨c0, c1, c2, c3, c4, c5, gj⟩) | go_keep) ((go_at_call 51; refine (rregular_any f l e k x _ _ c _ m q _ f1 l2 e1 e2 k1 k2).mono ?_; rintro e w2 ⟨rfl, hb⟩; rw [hp]; have c0 := below_cell hb (a := ⟨w.heap.size, 0, none⟩) (v := .int .i64 f) (by assumption); have c1 := below_cell hb (a := ⟨w.heap.size, 1, none⟩) (v := .int .i64 l) (by assumption); have c2 := below_cell hb (a := ⟨w.heap.size, 2, none⟩) (v := .int .i64 e) (by assumption); have c3 := below_cell hb (a := ⟨w.heap.size, 3, none⟩) (v := .int .i64 k) (by assumption); have c4 := below_cell hb (a := ⟨w.heap.size, 4, none⟩) (v := .slice a n' c) (by assumption); have c5 := below_cell hb (a := ⟨w.heap.size, 5, none⟩) (v := .slice (some ⟨ba, oa, none⟩) m q) (by assumption); have gj := below_cell hb (a := ⟨ba, oa + j, none⟩) (v := .int .i64 x) (by assumption)))
                clear y5 y6 d1 d2
                go_wp2
                go_ret
                exact ⟨ret_int hfin.out, ((HW.out.next (bel_drew0 _)).next hb).bl⟩
          · generalize hx0 : ys.getD j 0 = x at *
            have hstep2 : Hid (excE (outB f l e k) 11 none ys = bif outB f l e k x then excE (outB f l e k) 11 (pvI ys (j + 1)) (ys.drop (j + 1)) else 11) := Lib.hid (by rw [hR.out, hstep.out, if_neg (fun h => t3 h.1)])
            have d0 : decide (0 < j) = false := by simp; omega
            clear hstep
            have HX0 := Lib.hid hx0
            clear hx0
            go_wp2_with fail
            go_quiet (fail)
            clear d0
            have HW1 := HW.out.drewN nq
            clear c0 c1 c2 c3 c4 c5 gj sz HC HW hbz
            generalize wr.drewN nq = w1 at *
            obtain ⟨c0, c1, c2, c3, c4, c5, XA, YA, sz, _⟩ := id HW1
            obtain ⟨ba', oa', hba, _, hcc⟩ := IntsAt.cell YA hlt
            cases hba
            have gj := hcc j hlt
            rw [HX0.out] at gj
            have HW := Lib.hid HW1
            clear hcc HW1 XA YA
            by_cases t1 : x < f
            · have hfin := Lib.hid (vlE_y (v := 11) H.out hX0.out (by rw [hstep2.out, show outB f l e k x = false from by simp [outB]; omega, cond_false]))
              have d1 : decide (x < f) = true := by simpa using t1
              go_wp2_with fail
              go_quiet (fail)
              clear y5 y6 d1
              go_wp2
              go_ret
              exact ⟨ret_int hfin.out, (HW.out.drewN _).bl⟩
            have d1 : decide (x < f) = false := by simpa using t1
            by_cases t2 : l < x
            · have hfin := Lib.hid (vlE_y (v := 11) H.out hX0.out (by rw [hstep2.out, show outB f l e k x = false from by simp [outB]; omega, cond_false]))
              have d2 : decide (l < x) = true := by simpa using t2
              go_wp2_with fail
              go_quiet (fail)
              clear y5 y6 d1 d2
              go_wp2
              go_ret
              exact ⟨ret_int hfin.out, (HW.out.drewN _).bl⟩
            have d2 : decide (l < x) = false := by simpa using t2
            have ho : Hid (outB f l e k x = !(regB f l e k x)) := Lib.hid (by unfold outB; rw [decide_eq_true (by omega), Bool.true_and])
            cases hp : regB f l e k x
            · have hnx : Hid (excE (outB f l e k) 11 none ys = excE (outB f l e k) 11 (pvI ys (j + 1)) (ys.drop (j + 1))) := Lib.hid (by rw [hstep2.out, ho.out, hp]; rfl)
              go_wp2_with fail
              go_region_held3 (fun w' => w'.cell? ⟨w.heap.size, 0, none⟩ = some (.int .i64 f) ∧ w'.cell? ⟨w.heap.size, 1, none⟩ = some (.int .i64 l) ∧ w'.cell? ⟨w.heap.size, 2, none⟩ = some (.int .i64 e) ∧ w'.cell? ⟨w.heap.size, 3, none⟩ = some (.int .i64 k) ∧ w'.cell? ⟨w.heap.size, 4, none⟩ = some (.slice a n' c) ∧ w'.cell? ⟨w.heap.size, 5, none⟩ = some (.slice (some ⟨ba, oa, none⟩) m q) ∧ w'.cell? ⟨ba, oa + j, none⟩ = some (.int .i64 x)) (first | (with_reducible exact ⟨c0, c1, c2, c3, c4, c5, gj⟩) | go_keep) ((go_at_call 51; refine (rregular_any f l e k x _ _ c _ m q _ f1 l2 e1 e2 k1 k2).mono ?_; rintro e w2 ⟨rfl, hb⟩; rw [hp]; have c0 := below_cell hb (a := ⟨w.heap.size, 0, none⟩) (v := .int .i64 f) (by assumption); have c1 := below_cell hb (a := ⟨w.heap.size, 1, none⟩) (v := .int .i64 l) (by assumption); have c2 := below_cell hb (a := ⟨w.heap.size, 2, none⟩) (v := .int .i64 e) (by assumption); have c3 := below_cell hb (a := ⟨w.heap.size, 3, none⟩) (v := .int .i64 k) (by assumption); have c4 := below_cell hb (a := ⟨w.heap.size, 4, none⟩) (v := .slice a n' c) (by assumption); have c5 := below_cell hb (a := ⟨w.heap.size, 5, none⟩) (v := .slice (some ⟨ba, oa, none⟩) m q) (by assumption); have gj := below_cell hb (a := ⟨ba, oa + j, none⟩) (v := .int .i64 x) (by assumption)))
              clear y5 y6 d1 d2 t1 t2 sz c0 c1 c2 c3 c4 c5 gj
              go_wp2
              go_roundw
              case rel => exact ⟨j + 1, by omega, by go_num, hnx, (HW.out.next (bel_drew0 _)).next hb⟩
              case measure => simp [intOf]; omega
            · have hfin := Lib.hid (vlE_y (v := 11) H.out hX0.out (by rw [hstep2.out, ho.out, hp]; rfl))
              go_wp2_with fail
              go_region_held3 (fun w' => w'.cell? ⟨w.heap.size, 0, none⟩ = some (.int .i64 f) ∧ w'.cell? ⟨w.heap.size, 1, none⟩ = some (.int .i64 l) ∧ w'.cell? ⟨w.heap.size, 2, none⟩ = some (.int .i64 e) ∧ w'.cell? ⟨w.heap.size, 3, none⟩ = some (.int .i64 k) ∧ w'.cell? ⟨w.heap.size, 4, none⟩ = some (.slice a n' c) ∧ w'.cell? ⟨w.heap.size, 5, none⟩ = some (.slice (some ⟨ba, oa, none⟩) m q) ∧ w'.cell? ⟨ba, oa + j, none⟩ = some (.int .i64 x)) (first | (with_reducible exact ⟨c0, c1, c2, c3, c4, c5, gj⟩) | go_keep) ((go_at_call 51; refine (rregular_any f l e k x _ _ c _ m q _ f1 l2 e1 e2 k1 k2).mono ?_; rintro e w2 ⟨rfl, hb⟩; rw [hp]; have c0 := below_cell hb (a := ⟨w.heap.size, 0, none⟩) (v := .int .i64 f) (by assumption); have c1 := below_cell hb (a := ⟨w.heap.size, 1, none⟩) (v := .int .i64 l) (by assumption); have c2 := below_cell hb (a := ⟨w.heap.size, 2, none⟩) (v := .int .i64 e) (by assumption); have c3 := below_cell hb (a := ⟨w.heap.size, 3, none⟩) (v := .int .i64 k) (by assumption); have c4 := below_cell hb (a := ⟨w.heap.size, 4, none⟩) (v := .slice a n' c) (by assumption); have c5 := below_cell hb (a := ⟨w.heap.size, 5, none⟩) (v := .slice (some ⟨ba, oa, none⟩) m q) (by assumption); have gj := below_cell hb (a := ⟨ba, oa + j, none⟩) (v := .int .i64 x) (by assumption)))
              clear y5 y6 d1 d2
              go_wp2
              go_ret
              exact ⟨ret_int hfin.out, ((HW.out.next (bel_drew0 _)).next hb).bl⟩
        · obtain rfl : j = m := by omega
          have hfin := Lib.hid (vlE_y (v := 0) H.out hX0.out (by rw [hR.out]; have := LY.out; subst this; exact excE_end _ _ _))
          have hB := hW.bl
          obtain ⟨c0, c1, c2, c3, c4, c5, _, _, sz, _⟩ := id hW
          clear hW
          go_wp2
          go_ret
          exact ⟨ret_int hfin.out, hB⟩

end Go.Proofs.YtibigbfkokendaaGreatDoor
