/- Texts V20, V21, joined: walks and laws for the versions. -/
import Derived.Test.YtihbpggbpapcfaaGreatDoorM07
namespace Go.Proofs.YtihbpggbpapcfaaGreatDoor
open Go.RowKit

def SOk (xs : List Ses) : Prop := ∀ s ∈ xs, (s.1.length ≤ 9223372036854775807 ∧ s.2.2.2.2.2.length ≤ 9223372036854775807) ∧ -9223372036854775808 ≤ s.2.2.2.1 ∧ s.2.2.2.1 ≤ 9223372036854775807
theorem SOk.str {xs : List Ses} (h : SOk xs) : StrOk xs := fun s hs => (h s hs).1
theorem dupS_or (s t : Ses) : dupS s t = (metS s t || alkS s t) := by
  unfold dupS metS metB alkS alkB
  by_cases h : s.1 = t.1
  · simp [h]
  · simp [h]

set_option maxRecDepth 100000 in
set_option maxHeartbeats 4000000 in
theorem valid_any (a : Option Addr) (n c : Nat) (xs : List Ses) (m : Int) (w : World) (hx : SAt w a n xs) (hs : SOk xs) (hT : Tz w) (hc : n ≤ c) :
    Calls Tryz.prog 76 #[.slice a n c, .int .i64 m] w (RetB (.int .i64 (vldS xs m)) w) := by
  have n1 := hx.2.1
  have hl := hx.1
  have HX := Lib.hid hx
  have HS := Lib.hid hs
  have HT := Lib.hid hT
  clear hx hs hT
  by_cases hm : m < 1 ∨ 20 < m
  · have HF : Hid (vldS xs m = 3) := Lib.hid (by unfold vldS; rw [if_pos hm])
    rcases (show m < 1 ∨ (1 ≤ m ∧ 20 < m) by omega) with h | ⟨h, h'⟩
    all_goals
      clear hm
      go_enter Tryz.func76, Tryz.ntmps76
      go_wp2
      go_ret
      exact ⟨ret_int (by rw [HF.out]), Below.refl _ _⟩
  have m1 : 1 ≤ m := by omega
  have m2 : m ≤ 20 := by omega
  by_cases hn : 96 < n
  · have HF : Hid (vldS xs m = 2) := Lib.hid (by unfold vldS; rw [if_neg hm, if_pos (by omega)])
    clear hm
    go_enter Tryz.func76, Tryz.ntmps76
    go_wp2
    go_ret
    exact ⟨ret_int (by rw [HF.out]), Below.refl _ _⟩
  have HV : Hid (vldS xs m = if chkL m xs ≠ 0 then chkL m xs else if ordL xs = false then 63 else if dupL xs = true then 11 else 0) := Lib.hid (by unfold vldS; rw [if_neg hm, if_neg (by omega)])
  have hn96 : n ≤ 96 := by omega
  clear hm hn
  go_enter Tryz.func76, Tryz.ntmps76
  go_wp2_with fail
  go_loopw [24] (fun i wr => ∃ j : Nat, j ≤ n ∧ i = .int .i64 j ∧ Hid (chkL m (xs.drop j) = chkL m xs) ∧ Hid (∀ (i : Nat) (s : Ses), i < j → xs[i]? = some s → chkS s m = 0) ∧ Hid (Below w.heap.size w wr)) (fun i _ => n - (intOf i).toNat)
  case atStart => exact ⟨0, by omega, rfl, Lib.hid rfl, Lib.hid (fun i s h => by omega), Lib.hid (Below.refl _ _)⟩
  case round =>
    obtain ⟨j, hj, rfl, HC, HA, HB⟩ := hrel
    by_cases hlt : j < n
    · obtain ⟨b1, o1, s1, rfl, g1, z1, x0, x1, x2, x3, x4, x5⟩ := SAt.cells (HX.out.below HB.out) hlt
      have HG := Lib.hid g1
      have HSS := Lib.hid (HS.out s1 (List.mem_of_getElem? g1))
      have HD := Lib.hid (chkL_drop (n := m) g1)
      have k1 : (j : Int) < n := by omega
      have k2 : (0 : Int) ≤ j := by omega
      clear g1
      have HK : Hid (chkS s1 m = chkE s1.1 s1.2.1 s1.2.2.1 s1.2.2.2.1 s1.2.2.2.2.1 s1.2.2.2.2.2 m) := Lib.hid rfl
      have SN := Lib.hid (fun W => check_any s1.1 s1.2.1 s1.2.2.1 s1.2.2.2.1 s1.2.2.2.2.1 s1.2.2.2.2.2 m HSS.out.1.1 HSS.out.1.2 HSS.out.2.1 HSS.out.2.2 W)
      rw [← HK.out] at SN
      have HBa := Lib.hid (fun O : Obj => HB.out.alloc HB.out.size O)
      go_wp2_with fail
      refine (SN.out _).mono ?_
      rintro en w2 ⟨rfl, hb2⟩
      have HB2 := Lib.hid (below3 (HBa.out _) hb2)
      clear hb2
      by_cases hz : chkS s1 m = 0
      · have HC2 : Hid (chkL m (xs.drop (j + 1)) = chkL m xs) := Lib.hid (by rw [← HC.out, HD.out, if_pos hz])
        have HA2 : Hid (∀ (i : Nat) (s : Ses), i < j + 1 → xs[i]? = some s → chkS s m = 0) := Lib.hid (fun i s h h2 => by
          rcases Nat.lt_or_ge i j with h3 | h3
          · exact HA.out i s h3 h2
          · have : i = j := by omega
            subst this
            rw [HG.out] at h2; cases h2; exact hz)
        have hd : (chkS s1 m != 0) = false := by simpa using hz
        clear hz
        generalize chkS s1 m = e1 at *
        go_wp2_with fail
        go_roundw
        case rel => exact ⟨j + 1, by omega, by go_num, HC2, HA2, HB2⟩
        case measure => simp [intOf]; omega
      · have HF : Hid (vldS xs m = chkS s1 m) := Lib.hid (by
          have : chkL m xs = chkS s1 m := by rw [← HC.out, HD.out, if_neg hz]
          rw [HV.out, this, if_pos hz])
        have hd : (chkS s1 m != 0) = true := by simpa using hz
        clear hz
        generalize chkS s1 m = e1 at *
        go_wp2_with fail
        go_ret
        exact ⟨ret_int (by rw [HF.out]), HB2.out⟩
    · obtain rfl : n = j := by omega
      have HOK : Hid (∀ (i : Nat) (s : Ses), xs[i]? = some s → chkS s m = 0) := Lib.hid (fun i s h => HA.out i s (by have := (List.getElem?_eq_some_iff.1 h).1; omega) h)
      have HV2 : Hid (vldS xs m = if ordL xs = false then 63 else if dupL xs = true then 11 else 0) := Lib.hid (by
        have h0 : chkL m xs = 0 := by rw [← HC.out, List.drop_eq_nil_of_le (by omega), chkL]
        rw [HV.out, h0]; simp)
      clear HV HC HA
      go_wp2_with fail
      obtain ⟨wo, rfl⟩ : ∃ wo : World, wo = wr := ⟨_, rfl⟩
      go_loopw [8] (fun i wr => ∃ j : Nat, j ≤ n ∧ i = .int .i64 ((j : Int) + 1) ∧ Hid (ordL (xs.drop j) = ordL xs) ∧ Hid (Below w.heap.size w wr)) (fun i _ => n + 1 - (intOf i).toNat)
      case atStart => exact ⟨0, by omega, rfl, Lib.hid rfl, HB⟩
      case round =>
        clear HB
        obtain ⟨j, hj, rfl, HO, HB⟩ := hrel
        by_cases hlt : j + 1 < n
        · obtain ⟨b1, o1, s1, rfl, g1, z1, x0, x1, x2, x3, x4, x5⟩ := SAt.cells (HX.out.below HB.out) (show j < n by omega)
          obtain ⟨b2, o2, s2, he2, g2, z2, y0, y1, y2, y3, y4, y5⟩ := SAt.cells (HX.out.below HB.out) hlt
          cases he2
          have HD := Lib.hid (ordL_drop g1 g2)
          have hw1 := (chk_week (HOK.out _ _ g1)).2.2.2
          have hw2 := (chk_week (HOK.out _ _ g2)).2.2.2
          have HTW : Hid (∀ W, Below wr.heap.size wr W → Tz W) := Lib.hid (fun W h => HT.out.below (below3 HB.out h))
          have DN : Hid (∀ (s : Ses) (W : World), Tz W → Calls Tryz.prog 111 #[sesV s.1 s.2.1 s.2.2.1 s.2.2.2.1 s.2.2.2.2.1 s.2.2.2.2.2] W (fun e w' => e = .returned (datV s) ∧ Gr W w')) := Lib.hid (fun s W h => date_any s.1 s.2.1 s.2.2.1 s.2.2.2.1 s.2.2.2.2.1 s.2.2.2.2.2 W h)
          have ON := Lib.hid (fun W => order_any s1 s2 W)
          have HBF : Hid (decide (0 ≤ ordP s1 s2) = !befS s1 s2) := Lib.hid (by
            rw [← ordP_bef hw1 hw2]
            by_cases h : ordP s1 s2 < 0
            · rw [decide_eq_true h, decide_eq_false (by omega)]; rfl
            · rw [decide_eq_false h, decide_eq_true (by omega)]; rfl)
          clear hw1 hw2 g1 g2
          have q1 : (j : Int) + 1 - 1 = (j : Int) := by omega
          have q2 : IntKind.i64.wrap ((j : Int) + 1 - 1) = (j : Int) := by rw [q1]; exact IntWalk.i64_in _ (by omega)
          have q3 : ((j : Int) + 1).toNat = j + 1 := by omega
          have q8 : IntKind.i64.wrap (j : Int) = (j : Int) := IntWalk.i64_in _ (by omega)
          have q9 : (j : Int).toNat = j := by omega
          have q4 : (j : Int) + 1 < n := by omega
          have q5 : (0 : Int) ≤ (j : Int) + 1 := by omega
          have q6 : (j : Int) < n := by omega
          have q7 : (0 : Int) ≤ (j : Int) := by omega
          have BE := Lib.hid (bel_drew0 wr)
          have xp0 := x0; have xp1 := x1; have xp2 := x2; have xp3 := x3; have xp4 := x4; have xp5 := x5
          have yp0 := y0; have yp1 := y1; have yp2 := y2; have yp3 := y3; have yp4 := y4; have yp5 := y5
          go_upto_region 15 with fail
          generalize ordP s1 s2 = r at *
          go_cut [53] (fun s53 wx => s53 = .bool (!befS s1 s2) ∧ Below wr.heap.size wr wx)
          case first =>
            go_region_held3 (fun w' => w'.cell? ⟨b1, o1 + j * 6, none⟩ = some (.string (arr s1.1)) ∧ w'.cell? ⟨b1, o1 + j * 6 + 1, none⟩ = some (.int .i64 s1.2.1) ∧ w'.cell? ⟨b1, o1 + j * 6 + 2, none⟩ = some (.int .i64 s1.2.2.1) ∧ w'.cell? ⟨b1, o1 + j * 6 + 3, none⟩ = some (.int .i64 s1.2.2.2.1) ∧ w'.cell? ⟨b1, o1 + j * 6 + 4, none⟩ = some (.int .i64 s1.2.2.2.2.1) ∧ w'.cell? ⟨b1, o1 + j * 6 + 5, none⟩ = some (.string (arr s1.2.2.2.2.2)) ∧ w'.cell? ⟨b1, o1 + (j + 1) * 6, none⟩ = some (.string (arr s2.1)) ∧ w'.cell? ⟨b1, o1 + (j + 1) * 6 + 1, none⟩ = some (.int .i64 s2.2.1) ∧ w'.cell? ⟨b1, o1 + (j + 1) * 6 + 2, none⟩ = some (.int .i64 s2.2.2.1) ∧ w'.cell? ⟨b1, o1 + (j + 1) * 6 + 3, none⟩ = some (.int .i64 s2.2.2.2.1) ∧ w'.cell? ⟨b1, o1 + (j + 1) * 6 + 4, none⟩ = some (.int .i64 s2.2.2.2.2.1) ∧ w'.cell? ⟨b1, o1 + (j + 1) * 6 + 5, none⟩ = some (.string (arr s2.2.2.2.2.2))) (first | (with_reducible exact ⟨x0, x1, x2, x3, x4, x5, y0, y1, y2, y3, y4, y5⟩) | go_keep) (first | (go_at_call 111; refine (DN.out _ _ (HTW.out _ (by first | with_reducible exact BE.out | with_reducible exact BQ | with_reducible exact below3 BQ (bel_drew0 _)))).mono ?_; rintro e9 w9 ⟨rfl, hg9⟩; have hb9 := hg9.bl; clear hg9; have BQ : Below wr.heap.size wr w9 := (by first | with_reducible exact hb9 | with_reducible exact below3 BE.out hb9 | with_reducible exact below3 BQ hb9 | with_reducible exact below3 (below3 BQ (bel_drew0 _)) hb9); have x0 := below_cell9 BQ xp0; have x1 := below_cell9 BQ xp1; have x2 := below_cell9 BQ xp2; have x3 := below_cell9 BQ xp3; have x4 := below_cell9 BQ xp4; have x5 := below_cell9 BQ xp5; have y0 := below_cell9 BQ yp0; have y1 := below_cell9 BQ yp1; have y2 := below_cell9 BQ yp2; have y3 := below_cell9 BQ yp3; have y4 := below_cell9 BQ yp4; have y5 := below_cell9 BQ yp5) | (go_at_call 110; refine (ON.out _).mono ?_; rintro e9 w9 ⟨rfl, hg9⟩; have hb9 := hg9.bl; clear hg9; have BQ : Below wr.heap.size wr w9 := (by first | with_reducible exact hb9 | with_reducible exact below3 BE.out hb9 | with_reducible exact below3 BQ hb9 | with_reducible exact below3 (below3 BQ (bel_drew0 _)) hb9); have x0 := below_cell9 BQ xp0; have x1 := below_cell9 BQ xp1; have x2 := below_cell9 BQ xp2; have x3 := below_cell9 BQ xp3; have x4 := below_cell9 BQ xp4; have x5 := below_cell9 BQ xp5; have y0 := below_cell9 BQ yp0; have y1 := below_cell9 BQ yp1; have y2 := below_cell9 BQ yp2; have y3 := below_cell9 BQ yp3; have y4 := below_cell9 BQ yp4; have y5 := below_cell9 BQ yp5))
            all_goals (
              go_wp2_with fail
              go_meet
              exact ⟨by rw [← HBF.out], by assumption⟩)
          case rest =>
            obtain ⟨rfl, hbz⟩ := hcut
            have HB3 := Lib.hid (below3 HB.out hbz)
            clear hbz q1 q2 q3 q4 q5 q6 q7 q8 q9
            cases hbf : befS s1 s2
            · have HF : Hid (vldS xs m = 63) := Lib.hid (by
                have : ordL xs = false := by rw [← HO.out, HD.out, hbf]; rfl
                rw [HV2.out, if_pos this])
              go_wp2_with fail
              go_ret
              exact ⟨ret_int (by rw [HF.out]), HB3.out⟩
            · have HO2 : Hid (ordL (xs.drop (j + 1)) = ordL xs) := Lib.hid (by rw [← HO.out, HD.out, hbf]; rfl)
              go_wp2_with fail
              go_roundw
              case rel => exact ⟨j + 1, by omega, by go_num, HO2, HB3⟩
              case measure => simp [intOf]; omega
        · have HV3 : Hid (vldS xs m = if dupL xs = true then 11 else 0) := Lib.hid (by
            have : ordL xs = true := by rw [← HO.out]; exact ordL_end (by omega)
            rw [HV2.out, this]; simp)
          clear HV2 HO
          go_wp2_with fail
          obtain ⟨wp, rfl⟩ : ∃ wp : World, wp = wr := ⟨_, rfl⟩
          go_loopw [56] (fun i wr => ∃ i2 : Nat, i2 ≤ n ∧ i = .int .i64 i2 ∧ Hid (∀ (i k : Nat) (s t : Ses), xs[i]? = some s → xs[k]? = some t → k < i → i < i2 → dupS s t = false) ∧ Hid (Below w.heap.size w wr)) (fun i _ => n - (intOf i).toNat)
          case atStart => exact ⟨0, by omega, rfl, Lib.hid (fun i k s t _ _ _ h => by omega), HB⟩
          case round =>
            clear HB
            obtain ⟨i2, hi2, rfl, HN, HB⟩ := hrel
            by_cases hl3 : i2 < n
            · obtain ⟨wq, rfl⟩ : ∃ wq : World, wq = wr := ⟨_, rfl⟩
              obtain ⟨b1, o1, s1, rfl, g1, z1, x0, x1, x2, x3, x4, x5⟩ := SAt.cells (HX.out.below HB.out) hl3
              have G1 := Lib.hid g1
              clear g1
              have q1 : (i2 : Int) < n := by omega
              have q2 : (0 : Int) ≤ (i2 : Int) := by omega
              have hic : i2 ≤ c := by omega
              have HSB := Lib.hid (SB.mk0 (w := wq) (cl := s1.1) (wk := s1.2.1) (dy := s1.2.2.1) (st := s1.2.2.2.1) (ln := s1.2.2.2.2.1) (rm := s1.2.2.2.2.2) 95)
              go_wp2_with fail
              go_loopw [65] (fun i wr => ∃ k2 : Nat, k2 ≤ i2 ∧ i = .int .i64 k2 ∧ Hid (∀ (k : Nat) (s t : Ses), xs[i2]? = some s → xs[k]? = some t → k < k2 → dupS s t = false) ∧ Hid (SB wq wr wq.heap.size s1.1 s1.2.1 s1.2.2.1 s1.2.2.2.1 s1.2.2.2.2.1 s1.2.2.2.2.2)) (fun i _ => i2 - (intOf i).toNat)
              case atStart => exact ⟨0, by omega, rfl, Lib.hid (fun k s t _ _ h => by omega), HSB⟩
              case round =>
                clear HSB x0 x1 x2 x3 x4 x5 z1
                obtain ⟨k2, hk2, rfl, HM, HSB⟩ := hrel
                by_cases hl4 : k2 < i2
                · obtain ⟨b2, o2, s2, he2, g2, z2, y0, y1, y2, y3, y4, y5⟩ := SAt.cells (HX.out.below (below3 HB.out HSB.out.bl)) (show k2 < n by omega)
                  cases he2
                  have q3 : (k2 : Int) < i2 := by omega
                  have q4 : (0 : Int) ≤ (k2 : Int) := by omega
                  have G2 := Lib.hid g2
                  have HM2 : Hid (dupS s1 s2 = false → ∀ (k : Nat) (s t : Ses), xs[i2]? = some s → xs[k]? = some t → k < k2 + 1 → dupS s t = false) := Lib.hid (fun hd k s t h1 h2 h3 => by
                    rcases Nat.lt_or_ge k k2 with h | h
                    · exact HM.out k s t h1 h2 h
                    · have : k = k2 := by omega
                      subst this
                      rw [G1.out] at h1; rw [G2.out] at h2; cases h1; cases h2; exact hd)
                  have HY : Hid (dupS s1 s2 = true → vldS xs m = 11) := Lib.hid (fun hd => by rw [HV3.out, if_pos (dupL_yes G1.out G2.out hl4 hd)])
                  have HDS : Hid (dupS s1 s2 = (metB s1.1 s1.2.1 s2.1 s2.2.1 || alkB s1.1 s1.2.2.1 s1.2.2.2.1 s1.2.2.2.2.1 s1.2.2.2.2.2 s2.1 s2.2.2.1 s2.2.2.2.1 s2.2.2.2.2.1 s2.2.2.2.2.2)) := Lib.hid (dupS_or s1 s2)
                  have HS2 := Lib.hid (SB.mk0 (w := wr) (cl := s2.1) (wk := s2.2.1) (dy := s2.2.2.1) (st := s2.2.2.2.1) (ln := s2.2.2.2.2.1) (rm := s2.2.2.2.2.2) 95)
                  have HS1 := Lib.hid (HSB.out.next ((Below.refl _ wr).alloc (Nat.le_refl _) (.cells #[.string (arr s2.1), .int .i64 s2.2.1, .int .i64 s2.2.2.1, .int .i64 s2.2.2.2.1, .int .i64 s2.2.2.2.2.1, .string (arr s2.2.2.2.2.2)] 95)))
                  have MN := Lib.hid (fun W => meet_any s1.1 s1.2.1 s1.2.2.1 s1.2.2.2.1 s1.2.2.2.2.1 s1.2.2.2.2.2 s2.1 s2.2.1 s2.2.2.1 s2.2.2.2.1 s2.2.2.2.2.1 s2.2.2.2.2.2 W)
                  have AL := Lib.hid (fun W => alike_any s1.1 s1.2.1 s1.2.2.1 s1.2.2.2.1 s1.2.2.2.2.1 s1.2.2.2.2.2 s2.1 s2.2.1 s2.2.2.1 s2.2.2.2.1 s2.2.2.2.2.1 s2.2.2.2.2.2 W)
                  clear g2
                  obtain ⟨u0, u1, u2, u3, u4, u5, uz, _⟩ := HS1.out
                  obtain ⟨v0, v1, v2, v3, v4, v5, vz, _⟩ := HS2.out
                  generalize metB s1.1 s1.2.1 s2.1 s2.2.1 = mb at *
                  generalize alkB s1.1 s1.2.2.1 s1.2.2.2.1 s1.2.2.2.2.1 s1.2.2.2.2.2 s2.1 s2.2.2.1 s2.2.2.2.1 s2.2.2.2.2.1 s2.2.2.2.2.2 = ab at *
                  go_wp2_with fail
                  refine (MN.out _).mono ?_
                  rintro en w2 ⟨rfl, hb2⟩
                  have HS3 := Lib.hid (HS1.out.next hb2)
                  have HS4 := Lib.hid (HS2.out.next hb2)
                  clear hb2 u0 u1 u2 u3 u4 u5 uz v0 v1 v2 v3 v4 v5 vz y0 y1 y2 y3 y4 y5 HS1 HS2 HSB
                  obtain ⟨u0, u1, u2, u3, u4, u5, uz, _⟩ := HS3.out
                  obtain ⟨v0, v1, v2, v3, v4, v5, vz, _⟩ := HS4.out
                  cases mb
                  rotate_left
                  · have HF := Lib.hid (HY.out (by rw [HDS.out]; rfl))
                    clear HM2 HY HDS
                    go_wp2_with fail
                    go_ret
                    exact ⟨ret_int (by rw [HF.out]), below3 HB.out HS3.out.bl⟩
                  · go_wp2_with fail
                    refine (AL.out _).mono ?_
                    rintro en w3 ⟨rfl, hb3⟩
                    have HS5 := Lib.hid (HS3.out.next hb3)
                    clear hb3 u0 u1 u2 u3 u4 u5 uz v0 v1 v2 v3 v4 v5 vz HS3 HS4
                    cases ab
                    · have HM3 := Lib.hid (HM2.out (by rw [HDS.out]; rfl))
                      clear HM2 HY HDS
                      go_wp2_with fail
                      go_roundw
                      case rel => exact ⟨k2 + 1, by omega, by go_num, HM3, HS5⟩
                      case measure => simp [intOf]; omega
                    · have HF := Lib.hid (HY.out (by rw [HDS.out]; rfl))
                      clear HM2 HY HDS
                      go_wp2_with fail
                      go_ret
                      exact ⟨ret_int (by rw [HF.out]), below3 HB.out HS5.out.bl⟩
                · obtain rfl : i2 = k2 := by omega
                  have HN2 : Hid (∀ (i k : Nat) (s t : Ses), xs[i]? = some s → xs[k]? = some t → k < i → i < i2 + 1 → dupS s t = false) := Lib.hid (fun i k s t h1 h2 h3 h4 => by
                    rcases Nat.lt_or_ge i i2 with h | h
                    · exact HN.out i k s t h1 h2 h3 h
                    · have : i = i2 := by omega
                      subst this
                      exact HM.out k s t h1 h2 h3)
                  have HB4 := Lib.hid (below3 HB.out HSB.out.bl)
                  go_wp2_with fail
                  go_roundw
                  case rel => exact ⟨i2 + 1, by omega, by go_num, HN2, HB4⟩
                  case measure => simp [intOf]; omega
            · obtain rfl : n = i2 := by omega
              have HF : Hid (vldS xs m = 0) := Lib.hid (by
                have : dupL xs = false := dupL_no (fun i k s t h1 h2 h3 => HN.out i k s t h1 h2 h3 (by have := (List.getElem?_eq_some_iff.1 h1).1; omega))
                rw [HV3.out, this]; simp)
              go_wp2_with fail
              go_ret
              exact ⟨ret_int (by rw [HF.out]), HB.out⟩
end Go.Proofs.YtihbpggbpapcfaaGreatDoor

namespace Go.Proofs.YtihbpggbpapcfaaGreatDoor
open Go.RowKit

theorem snoc_of {w2 : World} {B : Nat} {v' : Value} {L : List Ses} {s : Ses} {M : List Ses} (hM : M = L ++ [s]) (h : w2.ownsRow B 95 6 v' (L.length + 1) (L.flatMap sesC ++ sesC s)) : SRow w2 B v' M := by
  rw [hM]; exact srow_snoc h

theorem new1 (W : World) (cs : List Value) (T : TypeId) : ∀ (j : Nat) (u : Value), cs[j]? = some u → (W.alloc (.cells cs.toArray T)).cell? ((⟨W.heap.size, 0, none⟩ : Addr).add j) = some u := by
  intro j u h
  have e := heap_alloc_new W (.cells cs.toArray T)
  rw [Go.WideShapes.add_plain, Nat.zero_add, cell_of_row _ _ j _ _ _ e]
  simpa using h
theorem new2 (W : World) (O : Obj) (cs : List Value) (T : TypeId) : ∀ (j : Nat) (u : Value), cs[j]? = some u → ((W.alloc O).alloc (.cells cs.toArray T)).cell? ((⟨W.heap.size + 1, 0, none⟩ : Addr).add j) = some u := by
  have h := new1 (W.alloc O) cs T
  rw [show (W.alloc O).heap.size = W.heap.size + 1 by simp] at h
  exact h
end Go.Proofs.YtihbpggbpapcfaaGreatDoor
