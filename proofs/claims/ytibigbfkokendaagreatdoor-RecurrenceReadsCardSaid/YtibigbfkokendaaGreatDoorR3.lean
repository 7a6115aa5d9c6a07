/- Series: Valid of the program, the exceptions. -/
import Derived.Test.YtibigbfkokendaaGreatDoorR2
namespace Go.Proofs.YtibigbfkokendaaGreatDoor
open Go.RowKit TT

set_option maxHeartbeats 2000000 in
theorem validB (f l e k : Int) (a : Option Addr) (n c : Nat) (b : Option Addr) (m q : Nat) (xs ys : List Int) (w : World) (hx : IntsAt w a n xs) (hy : IntsAt w b m ys)
    (h : vl0 f l e k (xs.length + ys.length) = 0) :
    Calls Tryz.prog 21 #[serV f l e k a n c b m q] w (RetB (.int .i64 (vlE f l e k xs ys)) w) := by
  obtain ⟨o1, o2, h3, h4, e1, e2, k1, k2, hs⟩ := vl0_inv h
  obtain ⟨f1, f2⟩ := okDay_of o1
  obtain ⟨l1, l2⟩ := okDay_of o2
  have H := Lib.hid h
  have hnm : (n : Int) + m ≤ 140 := by have := hx.len; have := hy.len; omega
  have LX := Lib.hid hx.len
  have LY := Lib.hid hy.len
  have O1 := Lib.hid o1
  have O2 := Lib.hid o2
  have HS := Lib.hid (SC.mk0 (w := w) (f := f) (l := l) (e := e) (k := k) (c := c) (q := q) 24 hx hy)
  clear h o1 o2 hs hx hy
  go_enter Tryz.func21, Tryz.ntmps21
  go_wp2_with (go_at_call 28; refine (isDay_any _ _).mono ?_; rintro e w' ⟨rfl, rfl⟩; first | rw [O1.out] | rw [O2.out])
  go_loopw [3, 4, 63] (fun _ _ i wr => ∃ j : Nat, j ≤ n ∧ i = .int .i64 j ∧ Hid (excE (regB f l e k) 12 none xs = excE (regB f l e k) 12 (pvI xs j) (xs.drop j)) ∧ SC w wr w.heap.size f l e k a n c b m q xs ys) (fun _ _ i _ => n - (intOf i).toNat)
  case atStart => exact ⟨0, by omega, rfl, Lib.hid (by rw [excE_start]), HS.out⟩
  case round =>
    clear HS
    obtain ⟨j, hj, rfl, hR, hW⟩ := hrel
    by_cases hlt : j < n
    · have hstep := Lib.hid (excE_step (regB f l e k) 12 xs j (by rw [LX.out]; exact hlt))
      obtain ⟨ba, oa, rfl, hbz, hcc⟩ := hW.xa.cell hlt
      obtain ⟨c0, c1, c2, c3, c4, c5, _, _, sz, _⟩ := id hW
      have gj := hcc j hlt
      have HC := Lib.hid hcc
      clear hcc
      have HW := Lib.hid hW
      clear hW
      by_cases t3 : 0 < j
      · have gk : wr.cell? ⟨ba, oa + (j - 1), none⟩ = some (.int .i64 (xs.getD (j - 1) 0)) := HC.out (j - 1) (by omega)
        have gk' : wr.cell? ⟨ba, oa + ((j : Int) - 1).toNat, none⟩ = some (.int .i64 (xs.getD (j - 1) 0)) := by rw [show ((j : Int) - 1).toNat = j - 1 by omega]; exact HC.out (j - 1) (by omega)
        generalize hx0 : xs.getD j 0 = x at *
        generalize hx1 : xs.getD (j - 1) 0 = x1 at *
        clear hx0 hx1
        by_cases t4 : x ≤ x1
        · have hfin := Lib.hid (vlE_x (v := 63) H.out (by rw [hR.out, hstep.out, if_pos ⟨t3, t4⟩]) (by decide))
          go_wp2_with fail
          go_ret
          exact ⟨ret_int hfin.out, HW.out.bl⟩
        · cases hp : regB f l e k x
          · have hfin := Lib.hid (vlE_x (v := 12) H.out (by rw [hR.out, hstep.out, if_neg (fun h => t4 h.2), hp, cond_false]) (by decide))
            go_wp2_with (go_at_call 42; refine (regular_any f l e k x _ n c b m q _ f1 l2 e1 e2 k1 k2).mono ?_; rintro e w2 ⟨rfl, hb⟩; rw [hp])
            go_ret
            exact ⟨ret_int hfin.out, (HW.out.next hb).bl⟩
          · have hnx : Hid (excE (regB f l e k) 12 none xs = excE (regB f l e k) 12 (pvI xs (j + 1)) (xs.drop (j + 1))) := Lib.hid (by rw [hR.out, hstep.out, if_neg (fun h => t4 h.2), hp, cond_true])
            go_wp2_with (go_at_call 42; refine (regular_any f l e k x _ n c b m q _ f1 l2 e1 e2 k1 k2).mono ?_; rintro e w2 ⟨rfl, hb⟩; rw [hp])
            go_roundw
            case rel => exact ⟨j + 1, by omega, by go_num, hnx, HW.out.next hb⟩
            case measure => simp [intOf]; omega
      · generalize hx0 : xs.getD j 0 = x at *
        generalize hx1 : xs.getD (j - 1) 0 = x1 at *
        clear hx0 hx1
        cases hp : regB f l e k x
        · have hfin := Lib.hid (vlE_x (v := 12) H.out (by rw [hR.out, hstep.out, if_neg (fun h => t3 h.1), hp, cond_false]) (by decide))
          go_wp2_with (go_at_call 42; refine (regular_any f l e k x _ n c b m q _ f1 l2 e1 e2 k1 k2).mono ?_; rintro e w2 ⟨rfl, hb⟩; rw [hp])
          go_ret
          exact ⟨ret_int hfin.out, (HW.out.next hb).bl⟩
        · have hnx : Hid (excE (regB f l e k) 12 none xs = excE (regB f l e k) 12 (pvI xs (j + 1)) (xs.drop (j + 1))) := Lib.hid (by rw [hR.out, hstep.out, if_neg (fun h => t3 h.1), hp, cond_true])
          go_wp2_with (go_at_call 42; refine (regular_any f l e k x _ n c b m q _ f1 l2 e1 e2 k1 k2).mono ?_; rintro e w2 ⟨rfl, hb⟩; rw [hp])
          go_roundw
          case rel => exact ⟨j + 1, by omega, by go_num, hnx, HW.out.next hb⟩
          case measure => simp [intOf]; omega
    · obtain rfl : j = n := by omega
      have hX0 : Hid (excE (regB f l e k) 12 none xs = 0) := Lib.hid (by rw [hR.out]; have := LX.out; subst this; exact excE_end _ _ _)
      obtain ⟨c0, c1, c2, c3, c4, c5, _, _, sz, _⟩ := id hW
      have HW := Lib.hid hW
      clear hW hR hlt
      obtain ⟨wo, rfl⟩ : ∃ wo : World, wo = wr := ⟨_, rfl⟩
      go_wp2
      go_loopw [5, 6, 88] (fun _ _ i wr => ∃ j' : Nat, j' ≤ m ∧ i = .int .i64 j' ∧ Hid (excE (outB f l e k) 11 none ys = excE (outB f l e k) 11 (pvI ys j') (ys.drop j')) ∧ SC w wr w.heap.size f l e k a j c b m q xs ys) (fun _ _ i _ => m - (intOf i).toNat)
      case atStart => exact ⟨0, by omega, rfl, Lib.hid (by rw [excE_start]), HW.out⟩
      case round =>
        clear HW c0 c1 c2 c3 c4 c5 sz
        obtain ⟨n', hn'⟩ : ∃ n' : Nat, n' = j := ⟨_, rfl⟩
        subst hn'
        obtain ⟨j, hj, rfl, hR, hW⟩ := hrel
        by_cases hlt : j < m
        · have hstep := Lib.hid (excE_step (outB f l e k) 11 ys j (by rw [LY.out]; exact hlt))
          obtain ⟨ba, oa, rfl, hbz, hcc⟩ := hW.ya.cell hlt
          obtain ⟨c0, c1, c2, c3, c4, c5, _, _, sz, _⟩ := id hW
          have gj := hcc j hlt
          have HC := Lib.hid hcc
          clear hcc
          have HW := Lib.hid hW
          clear hW
          by_cases t3 : 0 < j
          · have gk : wr.cell? ⟨ba, oa + (j - 1), none⟩ = some (.int .i64 (ys.getD (j - 1) 0)) := HC.out (j - 1) (by omega)
            have gk' : wr.cell? ⟨ba, oa + ((j : Int) - 1).toNat, none⟩ = some (.int .i64 (ys.getD (j - 1) 0)) := by rw [show ((j : Int) - 1).toNat = j - 1 by omega]; exact HC.out (j - 1) (by omega)
            generalize hx0 : ys.getD j 0 = x at *
            generalize hx1 : ys.getD (j - 1) 0 = x1 at *
            clear hx0 hx1
            by_cases t4 : x ≤ x1
            · have hfin := Lib.hid (vlE_y (v := 63) H.out hX0.out (by rw [hR.out, hstep.out, if_pos ⟨t3, t4⟩]))
              go_wp2_with fail
              go_ret
              exact ⟨ret_int hfin.out, HW.out.bl⟩
            · have hstep2 : Hid (excE (outB f l e k) 11 none ys = bif outB f l e k x then excE (outB f l e k) 11 (pvI ys (j + 1)) (ys.drop (j + 1)) else 11) := Lib.hid (by rw [hR.out, hstep.out, if_neg (fun h => t4 h.2)])
              clear hstep
              by_cases t1 : x < f
              · have hfin := Lib.hid (vlE_y (v := 11) H.out hX0.out (by rw [hstep2.out, show outB f l e k x = false from by simp [outB]; omega, cond_false]))
                go_wp2_with fail
                go_ret
                exact ⟨ret_int hfin.out, HW.out.bl⟩
              by_cases t2 : l < x
              · have hfin := Lib.hid (vlE_y (v := 11) H.out hX0.out (by rw [hstep2.out, show outB f l e k x = false from by simp [outB]; omega, cond_false]))
                go_wp2_with fail
                go_ret
                exact ⟨ret_int hfin.out, HW.out.bl⟩
              have ho : Hid (outB f l e k x = !(regB f l e k x)) := Lib.hid (by unfold outB; rw [decide_eq_true (by omega), Bool.true_and])
              cases hp : regB f l e k x
              · have hnx : Hid (excE (outB f l e k) 11 none ys = excE (outB f l e k) 11 (pvI ys (j + 1)) (ys.drop (j + 1))) := Lib.hid (by rw [hstep2.out, ho.out, hp]; rfl)
                go_wp2_with (go_at_call 42; refine (regular_any f l e k x _ _ c _ m q _ f1 l2 e1 e2 k1 k2).mono ?_; rintro e w2 ⟨rfl, hb⟩; rw [hp])
                go_roundw
                case rel => exact ⟨j + 1, by omega, by go_num, hnx, HW.out.next hb⟩
                case measure => simp [intOf]; omega
              · have hfin := Lib.hid (vlE_y (v := 11) H.out hX0.out (by rw [hstep2.out, ho.out, hp]; rfl))
                go_wp2_with (go_at_call 42; refine (regular_any f l e k x _ _ c _ m q _ f1 l2 e1 e2 k1 k2).mono ?_; rintro e w2 ⟨rfl, hb⟩; rw [hp])
                go_ret
                exact ⟨ret_int hfin.out, (HW.out.next hb).bl⟩
          · generalize hx0 : ys.getD j 0 = x at *
            generalize hx1 : ys.getD (j - 1) 0 = x1 at *
            clear hx0 hx1
            have hstep2 : Hid (excE (outB f l e k) 11 none ys = bif outB f l e k x then excE (outB f l e k) 11 (pvI ys (j + 1)) (ys.drop (j + 1)) else 11) := Lib.hid (by rw [hR.out, hstep.out, if_neg (fun h => t3 h.1)])
            clear hstep
            by_cases t1 : x < f
            · have hfin := Lib.hid (vlE_y (v := 11) H.out hX0.out (by rw [hstep2.out, show outB f l e k x = false from by simp [outB]; omega, cond_false]))
              go_wp2_with fail
              go_ret
              exact ⟨ret_int hfin.out, HW.out.bl⟩
            by_cases t2 : l < x
            · have hfin := Lib.hid (vlE_y (v := 11) H.out hX0.out (by rw [hstep2.out, show outB f l e k x = false from by simp [outB]; omega, cond_false]))
              go_wp2_with fail
              go_ret
              exact ⟨ret_int hfin.out, HW.out.bl⟩
            have ho : Hid (outB f l e k x = !(regB f l e k x)) := Lib.hid (by unfold outB; rw [decide_eq_true (by omega), Bool.true_and])
            cases hp : regB f l e k x
            · have hnx : Hid (excE (outB f l e k) 11 none ys = excE (outB f l e k) 11 (pvI ys (j + 1)) (ys.drop (j + 1))) := Lib.hid (by rw [hstep2.out, ho.out, hp]; rfl)
              go_wp2_with (go_at_call 42; refine (regular_any f l e k x _ _ c _ m q _ f1 l2 e1 e2 k1 k2).mono ?_; rintro e w2 ⟨rfl, hb⟩; rw [hp])
              go_roundw
              case rel => exact ⟨j + 1, by omega, by go_num, hnx, HW.out.next hb⟩
              case measure => simp [intOf]; omega
            · have hfin := Lib.hid (vlE_y (v := 11) H.out hX0.out (by rw [hstep2.out, ho.out, hp]; rfl))
              go_wp2_with (go_at_call 42; refine (regular_any f l e k x _ _ c _ m q _ f1 l2 e1 e2 k1 k2).mono ?_; rintro e w2 ⟨rfl, hb⟩; rw [hp])
              go_ret
              exact ⟨ret_int hfin.out, (HW.out.next hb).bl⟩
        · obtain rfl : j = m := by omega
          have hfin := Lib.hid (vlE_y (v := 0) H.out hX0.out (by rw [hR.out]; have := LY.out; subst this; exact excE_end _ _ _))
          have hB := hW.bl
          clear hW
          go_wp2
          go_ret
          exact ⟨ret_int hfin.out, hB⟩

end Go.Proofs.YtibigbfkokendaaGreatDoor
