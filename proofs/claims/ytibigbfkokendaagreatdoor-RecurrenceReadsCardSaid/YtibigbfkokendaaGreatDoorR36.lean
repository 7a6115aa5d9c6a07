/- Series: a rule, read by the reference. -/
import Derived.Test.YtibigbfkokendaaGreatDoorR35
import Derived.Test.YtibigbfkokendaaGreatDoorR32
import Derived.Deep.DeepCutAuto
import Derived.BigQuiet
namespace Go.Proofs.YtibigbfkokendaaGreatDoor
open Go.RowKit Go.Maps TT

theorem or_nat : ∀ (k : Fin 128) (p : Fin 7), bits .or .i64 (k.val : Int) (2 ^ p.val) = ((k.val ||| 2 ^ p.val : Nat) : Int) := by decide +kernel
theorem or_of {k : Nat} (hk : k < 128) (p : Nat) (hp : p < 7) : bits .or .i64 (k : Int) (2 ^ p) = ((k ||| 2 ^ p : Nat) : Int) := or_nat ⟨k, hk⟩ ⟨p, hp⟩
theorem arr_ext (L : L8) (i j : Nat) : (arr L).extract i j = arr ((L.take j).drop i) := by
  apply ByteArray.ext
  rw [ByteArray.data_extract]
  apply Array.ext'
  rw [Array.toList_extract, List.extract_eq_take_drop, ← List.drop_take]
  simp [arr]
theorem arr_eq (a b : L8) : decide (arr a = arr b) = decide (a = b) := by
  have h : arr a = arr b ↔ a = b := ⟨fun h => by have := congrArg (fun x : ByteArray => x.data.toList) h; simpa [arr] using this, fun h => by rw [h]⟩
  exact decide_eq_decide.2 h
theorem arr_eq2 (a b : L8) : ((arr a).toList == (arr b).toList) = decide (a = b) := by
  rw [arr_toList, arr_toList, Bool.eq_iff_iff]; simp
theorem arr_inj {a b : L8} (h : arr a = arr b) : a = b := by
  have := congrArg (fun x : ByteArray => x.data.toList) h
  simpa [arr] using this
/-- what Parse of the reference finds in a text -/
theorem text_facts (L : L8) : ∃ S : ByteArray, arr L = S ∧ S.size = L.length ∧ (22 ≤ L.length → S.extract 21 22 = arr ((L.drop 21).take 1)) ∧ (∀ i, i + 2 ≤ L.length → S.extract i (i + 2) = arr ((L.drop i).take 2)) ∧ (8 ≤ L.length → S.extract (L.length - 8) L.length = arr (L.drop (L.length - 8))) ∧ (∀ X : L8, arr X = S → X = L) := by
  refine ⟨_, rfl, arr_size L, fun _ => ?_, fun i _ => ?_, fun _ => ?_, fun X h => arr_inj h⟩
  · rw [arr_ext, List.drop_take]
  · rw [arr_ext, List.drop_take]; congr 2; omega
  · rw [arr_ext, List.take_of_length_le (Nat.le_refl _)]
theorem date_facts (D : L8) (h : D.length = 8) : ∃ T : ByteArray, arr D = T ∧ T.size = 8 ∧ T.extract 0 4 = arr (D.take 4) ∧ T.extract 4 6 = arr ((D.drop 4).take 2) ∧ T.extract 6 8 = arr (D.drop 6) := by
  refine ⟨_, rfl, by rw [arr_size, h], ?_, ?_, ?_⟩
  · rw [arr_ext]; rfl
  · rw [arr_ext, List.drop_take]
  · rw [arr_ext, List.take_of_length_le (by omega)]
theorem rnum (X : L8) (h : X.length ≤ 4) (w : World) : Calls Tryz.prog 34 #[.string (arr X)] w (fun e w' => e = .returned (.int .i64 (numI X)) ∧ w = w') := rnumber_any (arr X) (by rw [arr_size]; exact h) w
theorem numI_lo (X : L8) : -1 ≤ numI X := by
  unfold numI; split <;> omega
theorem rp_short {L : L8} (h : L.length < 44) : pf L = none := by
  rw [← rp_pf]; unfold rp; rw [if_pos h]
theorem rp_num {L : L8} (h : numI ((L.drop 21).take 1) < 0) : pf L = none := by
  rw [← rp_pf]; unfold rp
  by_cases h4 : L.length < 44
  · rw [if_pos h4]
  · rw [if_neg h4, if_pos h]
theorem rp_err {L : L8} (h : dayE (numI ((L.drop (L.length - 8)).take 4)) (numI (((L.drop (L.length - 8)).drop 4).take 2)) (numI ((L.drop (L.length - 8)).drop 6)) ≠ 0) : pf L = none := by
  rw [← rp_pf]; unfold rp
  split
  · rfl
  · split
    · rfl
    · rw [if_neg (fun hc => h hc.1)]
theorem rp_ne {L : L8} (h : ruleL (numI ((L.drop 21).take 1)).toNat (rK L : Int) (dayN (numI ((L.drop (L.length - 8)).take 4)) (numI (((L.drop (L.length - 8)).drop 4).take 2)) (numI ((L.drop (L.length - 8)).drop 6))) ≠ L) : pf L = none := by
  rw [← rp_pf]; unfold rp
  split
  · rfl
  · split
    · rfl
    · rw [if_neg (fun hc => h hc.2)]
theorem rp_yes {L : L8} (h4 : ¬ L.length < 44) (hn : ¬ numI ((L.drop 21).take 1) < 0) (hd : dayE (numI ((L.drop (L.length - 8)).take 4)) (numI (((L.drop (L.length - 8)).drop 4).take 2)) (numI ((L.drop (L.length - 8)).drop 6)) = 0) (h : ruleL (numI ((L.drop 21).take 1)).toNat (rK L : Int) (dayN (numI ((L.drop (L.length - 8)).take 4)) (numI (((L.drop (L.length - 8)).drop 4).take 2)) (numI ((L.drop (L.length - 8)).drop 6))) = L) :
    pf L = some ((numI ((L.drop 21).take 1)).toNat, (rK L : Int), dayN (numI ((L.drop (L.length - 8)).take 4)) (numI (((L.drop (L.length - 8)).drop 4).take 2)) (numI ((L.drop (L.length - 8)).drop 6))) := by
  rw [← rp_pf]; unfold rp
  rw [if_neg h4, if_neg hn, if_pos ⟨hd, h⟩]

set_option maxRecDepth 100000 in
set_option maxHeartbeats 4000000 in
theorem rparse_any (f : Int) (L : L8) (hL : L.length ≤ 1000000) (w : World) : Calls Tryz.prog 16 #[.int .i64 f, .string (arr L)] w (ParP f L w) := by
  have HR := Lib.hid (show (w.alloc (.cells #[.int .i64 0, .int .i64 0, .int .i64 0, .int .i64 0, .slice none 0 0, .slice none 0 0] 24)).heap[w.heap.size]? = some (cells6 0 0 0 0 (.slice none 0 0) (.slice none 0 0)) from World.alloc_heap_new w _)
  have HB := Lib.hid (show Below w.heap.size w (w.alloc (.cells #[.int .i64 0, .int .i64 0, .int .i64 0, .int .i64 0, .slice none 0 0, .slice none 0 0] 24)) from (Below.refl _ _).alloc (Nat.le_refl _) _)
  obtain ⟨S, hSS, hSz, hx1, hx2, hx3, hx4⟩ := text_facts L
  rw [hSS]
  have HX2 := Lib.hid hx2
  have HS9 := Lib.hid hSS
  clear hx2 hx4 hSS
  cases hok : okDay f
  · have HF : Hid (parP f L = (0, 0, 0, 0, 13)) := Lib.hid (by unfold parP; rw [hok, if_neg (by simp)])
    have HI : Hid (∀ W, Calls Tryz.prog 33 #[.int .i64 f] W (fun e w' => e = .returned (.bool false) ∧ W = w')) := Lib.hid (fun W => by rw [← hok]; exact ris_any f W)
    clear hok hx1 hx3
    go_enter Tryz.func16, Tryz.ntmps16
    go_wp2_with (go_at_call 33; refine (HI.out _).mono ?_; rintro en w1 ⟨rfl, rfl⟩)
    obtain ⟨p0, p1, p2, p3, p4, p5, _⟩ := c6_cells HR.out
    refine bodyPost_ret (v := .tuple #[serV 0 0 0 0 none 0 0 none 0 0, .int .i64 13]) (by simp [results, Tryz.results16, go_sem, p0, p1, p2, p3, p4, p5]) rfl ?_
    exact parP_of HF.out HB.out
  have HK := Lib.hid hok
  have HI : Hid (∀ W, Calls Tryz.prog 33 #[.int .i64 f] W (fun e w' => e = .returned (.bool true) ∧ W = w')) := Lib.hid (fun W => by rw [← hok]; exact ris_any f W)
  clear hok
  by_cases h44 : L.length < 44
  · have HF := Lib.hid (par_no HK.out (rp_short h44))
    generalize L.length = n at *
    clear hx1 hx3
    go_enter Tryz.func16, Tryz.ntmps16
    go_wp2_with (go_at_call 33; refine (HI.out _).mono ?_; rintro en w1 ⟨rfl, rfl⟩)
    obtain ⟨p0, p1, p2, p3, p4, p5, _⟩ := c6_cells HR.out
    refine bodyPost_ret (v := .tuple #[serV 0 0 0 0 none 0 0 none 0 0, .int .i64 4]) (by simp [results, Tryz.results16, go_sem, p0, p1, p2, p3, p4, p5]) rfl ?_
    exact parP_of HF.out HB.out
  have HN : Hid (∀ W, Calls Tryz.prog 34 #[.string (arr ((L.drop 21).take 1))] W (fun e w' => e = .returned (.int .i64 (numI ((L.drop 21).take 1))) ∧ W = w')) := Lib.hid (fun W => rnum _ (by rw [List.length_take]; omega) W)
  have hx1 := hx1 (by omega)
  have hx3 := hx3 (by omega)
  have n1 := numI_lo ((L.drop 21).take 1)
  have n2 := numI_digit ((L.drop 21).take 1) (by rw [List.length_take]; omega)
  by_cases hn0 : numI ((L.drop 21).take 1) < 0
  · have HF := Lib.hid (par_no HK.out (rp_num hn0))
    generalize numI ((L.drop 21).take 1) = e9 at *
    generalize arr ((L.drop 21).take 1) = S1 at *
    generalize L.length = n at *
    clear hx3
    go_enter Tryz.func16, Tryz.ntmps16
    go_wp2_with (first | (go_at_call 33; refine (HI.out _).mono ?_; rintro en w1 ⟨rfl, rfl⟩) | (go_at_call 34; refine (HN.out _).mono ?_; rintro en w1 ⟨rfl, hw1⟩; subst hw1))
    obtain ⟨p0, p1, p2, p3, p4, p5, _⟩ := c6_cells HR.out
    refine bodyPost_ret (v := .tuple #[serV 0 0 0 0 none 0 0 none 0 0, .int .i64 4]) (by simp [results, Tryz.results16, go_sem, p0, p1, p2, p3, p4, p5]) rfl ?_
    exact parP_of HF.out HB.out
  have HE4 : Hid (dayE (numI ((L.drop (L.length - 8)).take 4)) (numI (((L.drop (L.length - 8)).drop 4).take 2)) (numI ((L.drop (L.length - 8)).drop 6)) ≠ 0 → parP f L = (0, 0, 0, 0, 4)) := Lib.hid (fun h => par_no HK.out (rp_err h))
  have HE5 : Hid (ruleL (numI ((L.drop 21).take 1)).toNat (rK L : Int) (dayN (numI ((L.drop (L.length - 8)).take 4)) (numI (((L.drop (L.length - 8)).drop 4).take 2)) (numI ((L.drop (L.length - 8)).drop 6))) ≠ L → parP f L = (0, 0, 0, 0, 4)) := Lib.hid (fun h => par_no HK.out (rp_ne h))
  have HE6 := Lib.hid (fun hd h => par_yes HK.out (rp_yes h44 hn0 hd h))
  obtain ⟨T, hTT, hTs, ht1, ht2, ht3⟩ := date_facts (L.drop (L.length - 8)) (by rw [List.length_drop]; omega)
  rw [hTT] at hx3
  have HN1 := Lib.hid (fun W => rnum ((L.drop (L.length - 8)).take 4) (by rw [List.length_take]; omega) W)
  have HN2 := Lib.hid (fun W => rnum (((L.drop (L.length - 8)).drop 4).take 2) (by rw [List.length_take]; omega) W)
  have HN3 := Lib.hid (fun W => rnum ((L.drop (L.length - 8)).drop 6) (by rw [List.length_drop, List.length_drop]; omega) W)
  have HRK : Hid (rK L = rkN L ((L.length - 43) / 3)) := Lib.hid rfl
  rw [Int.toNat_of_nonneg (show 0 ≤ numI ((L.drop 21).take 1) by omega)] at HE6
  generalize numI ((L.drop (L.length - 8)).take 4) = yy at *
  generalize numI (((L.drop (L.length - 8)).drop 4).take 2) = mm at *
  generalize numI ((L.drop (L.length - 8)).drop 6) = dd at *
  generalize arr ((L.drop (L.length - 8)).take 4) = T1 at *
  generalize arr (((L.drop (L.length - 8)).drop 4).take 2) = T2 at *
  generalize arr ((L.drop (L.length - 8)).drop 6) = T3 at *
  generalize numI ((L.drop 21).take 1) = e9 at *
  generalize arr ((L.drop 21).take 1) = S1 at *
  clear hTT HR HB
  have HP1 : Hid (PZ w ((w.alloc (.cells #[.int .i64 0, .int .i64 0, .int .i64 0, .int .i64 0, .slice none 0 0, .slice none 0 0] 24)).alloc (.cells #[.int .i64 f, .int .i64 0, .int .i64 e9, .int .i64 0, .slice none 0 0, .slice none 0 0] 24)) f 0 e9 0) := Lib.hid (by
    refine ⟨(Below.heap_alloc _ _ _ (by simp)).trans (World.alloc_heap_new w _), ?_, ((Below.refl _ _).alloc (Nat.le_refl _) _).alloc (by simp) _⟩
    have := World.alloc_heap_new (w.alloc (.cells #[.int .i64 0, .int .i64 0, .int .i64 0, .int .i64 0, .slice none 0 0, .slice none 0 0] 24)) (.cells #[.int .i64 f, .int .i64 0, .int .i64 e9, .int .i64 0, .slice none 0 0, .slice none 0 0] 24)
    rw [World.size_alloc] at this; exact this)
  obtain ⟨n, hn⟩ : ∃ n : Nat, n = L.length := ⟨_, rfl⟩
  rw [← hn] at hSz hx3 hL h44 HRK HX2
  have HNL := Lib.hid hn
  clear hn
  go_enter Tryz.func16, Tryz.ntmps16
  go_wp2_with (first | (go_at_call 33; refine (HI.out _).mono ?_; rintro en w1 ⟨rfl, rfl⟩) | (go_at_call 34; refine (HN.out _).mono ?_; rintro en w1 ⟨rfl, hw1⟩; subst hw1) | fail)
  generalize ((w.alloc (.cells #[.int .i64 0, .int .i64 0, .int .i64 0, .int .i64 0, .slice none 0 0, .slice none 0 0] 24)).alloc (.cells #[.int .i64 f, .int .i64 0, .int .i64 e9, .int .i64 0, .slice none 0 0, .slice none 0 0] 24)) = w1 at *
  go_loopw [8] (fun i wr => ∃ j : Nat, j ≤ (n - 43) / 3 ∧ i = .int .i64 ((29 + 3 * j : Nat) : Int) ∧ Hid (PZ w wr f 0 e9 (rkN L j : Int))) (fun i _ => n - (intOf i).toNat)
  case atStart => exact ⟨0, by omega, rfl, HP1⟩
  case round =>
    clear HP1
    obtain ⟨j, hj, rfl, HP⟩ := hrel
    have hk0 := rkN_lt L j
    obtain ⟨wo, rfl⟩ : ∃ wo : World, wo = wr := ⟨_, rfl⟩
    by_cases hlt : j < (n - 43) / 3
    · have hx2 := HX2.out (29 + 3 * j) (by omega)
      have HRN : Hid (rkN L (j + 1) = orN ((L.drop (29 + 3 * j)).take 2) (rkN L j) 7) := Lib.hid rfl
      generalize (L.drop (29 + 3 * j)).take 2 = cc at *
      generalize rkN L j = kk at *
      generalize hi : 29 + 3 * j = ii at *
      have HP' : Hid (PZ w wo f 0 e9 ((orN cc kk 0 : Nat) : Int)) := HP
      go_wp2_with fail
      go_loopw [9] (fun i wr => ∃ p : Nat, p ≤ 7 ∧ i = .int .i64 p ∧ Hid (PZ w wr f 0 e9 ((orN cc kk p : Nat) : Int))) (fun i _ => 7 - (intOf i).toNat)
      case atStart => exact ⟨0, by omega, rfl, HP'⟩
      case round =>
        clear HP HP'
        obtain ⟨p, hp, rfl, HQ⟩ := hrel
        have hkp := orN_lt cc kk hk0 p hp
        obtain ⟨r0, r1, r2, r3, r4, r5, rz0, rz1, rz2, rz3, rz4, rz5, rsz⟩ := c6_cells HQ.out.hr
        obtain ⟨s0, s1, s2, s3, s4, s5, sz0, sz1, sz2, sz3, sz4, sz5, ssz⟩ := c6_cells HQ.out.hs
        by_cases hlt2 : p < 7
        · have q1 : ii + 2 ≤ n := by omega
          have q2 : (ii : Int) + 2 ≤ (n : Int) := by omega
          have q3 : (ii : Int) ≤ (ii : Int) + 2 := by omega
          have q4 : (p : Int) < 7 := by omega
          have q5 : (0 : Int) ≤ (p : Int) := by omega
          have q6 : (0 : Int) ≤ (ii : Int) := by omega
          have q7 : (0 : Int) ≤ (ii : Int) + 2 := by omega
          have q8 : ((ii : Int) + 2).toNat = ii + 2 := by omega
          have q9 : IntKind.i64.wrap ((ii : Int) + 2) = (ii : Int) + 2 := IntWalk.i64_in _ (by omega)
          go_upto_region 13 with fail
          go_cut [38, 54] (fun s38 s54 wx => s38 = .bool (decide ((ii : Int) + 2 ≤ (n : Int) - 15)) ∧ s54 = .bool (decide (cc = nmL p)) ∧ Below wr.heap.size wr wx)
          case first =>
            go_region_with (go_at_call 35; refine (names_any _).mono ?_; rintro en w2 ⟨g, rfl, hg, hgl, hb2⟩; have hgp := hg p hlt2; have HB2 : Below wr.heap.size wr w2 := (by first | with_reducible exact hb2 | exact below3 (bel_drew0 _) hb2); clear hg hb2)
            all_goals (
              go_wp2_with fail
              go_meet
              exact ⟨by rw [decide_eq_true (show (ii : Int) + 2 ≤ (n : Int) - 15 by omega)], by rw [← arr_eq2], by assumption⟩)
          case rest =>
            obtain ⟨rfl, rfl, hbz⟩ := hcut
            have HQ3 := Lib.hid (HQ.out.next hbz)
            clear q1 q2 q3 q4 q5 q6 q7 q8 q9
            obtain ⟨w5, rfl⟩ : ∃ w5 : World, w5 = wc := ⟨_, rfl⟩
            clear hbz r0 r1 r2 r3 r4 r5 rz0 rz1 rz2 rz3 rz4 rz5 rsz s0 s1 s2 s3 s4 s5 sz0 sz1 sz2 sz3 sz4 sz5 ssz
            clear HQ
            have HOR : Hid (orN cc kk (p + 1) = if cc = nmL p then orN cc kk p ||| 2 ^ p else orN cc kk p) := Lib.hid rfl
            generalize orN cc kk p = kq at *
            obtain ⟨r0, r1, r2, r3, r4, r5, rz0, rz1, rz2, rz3, rz4, rz5, rsz⟩ := c6_cells HQ3.out.hr
            obtain ⟨s0, s1, s2, s3, s4, s5, sz0, sz1, sz2, sz3, sz4, sz5, ssz⟩ := c6_cells HQ3.out.hs
            by_cases hc : cc = nmL p
            · rw [decide_eq_true hc]
              have HK1 : Hid (orN cc kk (p + 1) = kq ||| 2 ^ p) := Lib.hid (by rw [HOR.out, if_pos hc])
              clear HOR hc
              rcases (show p = 0 ∨ p = 1 ∨ p = 2 ∨ p = 3 ∨ p = 4 ∨ p = 5 ∨ p = 6 by omega) with rfl | rfl | rfl | rfl | rfl | rfl | rfl
              · rw [show ((0 : Nat) : Int) = 0 from rfl]
                have hor : bits .or .i64 (kq : Int) 1 = ((kq ||| 1 : Nat) : Int) := or_of hkp 0 (by omega)
                have HQ4 := Lib.hid (HQ3.out.set (i := 3) (v := .int .i64 ((kq ||| 1 : Nat) : Int)) (c6_set3 HQ3.out.hs ((kq ||| 1 : Nat) : Int)))
                have HQ5 : Hid (PZ w (w5.setCell ⟨w.heap.size + 1, 3, none⟩ (.int .i64 ((kq ||| 1 : Nat) : Int))) f 0 e9 ((orN cc kk (0 + 1) : Nat) : Int)) := Lib.hid (by rw [HK1.out]; exact HQ4.out)
                clear HQ4 HK1 HQ3
                go_wp2_with fail
                go_roundw
                case rel => exact ⟨0 + 1, by omega, by go_num, HQ5⟩
                case measure => simp [intOf]
              · rw [show ((1 : Nat) : Int) = 1 from rfl]
                have hor : bits .or .i64 (kq : Int) 2 = ((kq ||| 2 : Nat) : Int) := or_of hkp 1 (by omega)
                have HQ4 := Lib.hid (HQ3.out.set (i := 3) (v := .int .i64 ((kq ||| 2 : Nat) : Int)) (c6_set3 HQ3.out.hs ((kq ||| 2 : Nat) : Int)))
                have HQ5 : Hid (PZ w (w5.setCell ⟨w.heap.size + 1, 3, none⟩ (.int .i64 ((kq ||| 2 : Nat) : Int))) f 0 e9 ((orN cc kk (1 + 1) : Nat) : Int)) := Lib.hid (by rw [HK1.out]; exact HQ4.out)
                clear HQ4 HK1 HQ3
                go_wp2_with fail
                go_roundw
                case rel => exact ⟨1 + 1, by omega, by go_num, HQ5⟩
                case measure => simp [intOf]
              · rw [show ((2 : Nat) : Int) = 2 from rfl]
                have hor : bits .or .i64 (kq : Int) 4 = ((kq ||| 4 : Nat) : Int) := or_of hkp 2 (by omega)
                have HQ4 := Lib.hid (HQ3.out.set (i := 3) (v := .int .i64 ((kq ||| 4 : Nat) : Int)) (c6_set3 HQ3.out.hs ((kq ||| 4 : Nat) : Int)))
                have HQ5 : Hid (PZ w (w5.setCell ⟨w.heap.size + 1, 3, none⟩ (.int .i64 ((kq ||| 4 : Nat) : Int))) f 0 e9 ((orN cc kk (2 + 1) : Nat) : Int)) := Lib.hid (by rw [HK1.out]; exact HQ4.out)
                clear HQ4 HK1 HQ3
                go_wp2_with fail
                go_roundw
                case rel => exact ⟨2 + 1, by omega, by go_num, HQ5⟩
                case measure => simp [intOf]
              · rw [show ((3 : Nat) : Int) = 3 from rfl]
                have hor : bits .or .i64 (kq : Int) 8 = ((kq ||| 8 : Nat) : Int) := or_of hkp 3 (by omega)
                have HQ4 := Lib.hid (HQ3.out.set (i := 3) (v := .int .i64 ((kq ||| 8 : Nat) : Int)) (c6_set3 HQ3.out.hs ((kq ||| 8 : Nat) : Int)))
                have HQ5 : Hid (PZ w (w5.setCell ⟨w.heap.size + 1, 3, none⟩ (.int .i64 ((kq ||| 8 : Nat) : Int))) f 0 e9 ((orN cc kk (3 + 1) : Nat) : Int)) := Lib.hid (by rw [HK1.out]; exact HQ4.out)
                clear HQ4 HK1 HQ3
                go_wp2_with fail
                go_roundw
                case rel => exact ⟨3 + 1, by omega, by go_num, HQ5⟩
                case measure => simp [intOf]
              · rw [show ((4 : Nat) : Int) = 4 from rfl]
                have hor : bits .or .i64 (kq : Int) 16 = ((kq ||| 16 : Nat) : Int) := or_of hkp 4 (by omega)
                have HQ4 := Lib.hid (HQ3.out.set (i := 3) (v := .int .i64 ((kq ||| 16 : Nat) : Int)) (c6_set3 HQ3.out.hs ((kq ||| 16 : Nat) : Int)))
                have HQ5 : Hid (PZ w (w5.setCell ⟨w.heap.size + 1, 3, none⟩ (.int .i64 ((kq ||| 16 : Nat) : Int))) f 0 e9 ((orN cc kk (4 + 1) : Nat) : Int)) := Lib.hid (by rw [HK1.out]; exact HQ4.out)
                clear HQ4 HK1 HQ3
                go_wp2_with fail
                go_roundw
                case rel => exact ⟨4 + 1, by omega, by go_num, HQ5⟩
                case measure => simp [intOf]
              · rw [show ((5 : Nat) : Int) = 5 from rfl]
                have hor : bits .or .i64 (kq : Int) 32 = ((kq ||| 32 : Nat) : Int) := or_of hkp 5 (by omega)
                have HQ4 := Lib.hid (HQ3.out.set (i := 3) (v := .int .i64 ((kq ||| 32 : Nat) : Int)) (c6_set3 HQ3.out.hs ((kq ||| 32 : Nat) : Int)))
                have HQ5 : Hid (PZ w (w5.setCell ⟨w.heap.size + 1, 3, none⟩ (.int .i64 ((kq ||| 32 : Nat) : Int))) f 0 e9 ((orN cc kk (5 + 1) : Nat) : Int)) := Lib.hid (by rw [HK1.out]; exact HQ4.out)
                clear HQ4 HK1 HQ3
                go_wp2_with fail
                go_roundw
                case rel => exact ⟨5 + 1, by omega, by go_num, HQ5⟩
                case measure => simp [intOf]
              · rw [show ((6 : Nat) : Int) = 6 from rfl]
                have hor : bits .or .i64 (kq : Int) 64 = ((kq ||| 64 : Nat) : Int) := or_of hkp 6 (by omega)
                have HQ4 := Lib.hid (HQ3.out.set (i := 3) (v := .int .i64 ((kq ||| 64 : Nat) : Int)) (c6_set3 HQ3.out.hs ((kq ||| 64 : Nat) : Int)))
                have HQ5 : Hid (PZ w (w5.setCell ⟨w.heap.size + 1, 3, none⟩ (.int .i64 ((kq ||| 64 : Nat) : Int))) f 0 e9 ((orN cc kk (6 + 1) : Nat) : Int)) := Lib.hid (by rw [HK1.out]; exact HQ4.out)
                clear HQ4 HK1 HQ3
                go_wp2_with fail
                go_roundw
                case rel => exact ⟨6 + 1, by omega, by go_num, HQ5⟩
                case measure => simp [intOf]
            · rw [decide_eq_false hc]
              have HK1 : Hid (PZ w w5 f 0 e9 ((orN cc kk (p + 1) : Nat) : Int)) := Lib.hid (by rw [HOR.out, if_neg hc]; exact HQ3.out)
              clear HOR hc
              go_wp2_with fail
              go_roundw
              case rel => exact ⟨p + 1, by omega, by go_num, HK1⟩
              case measure => simp [intOf]; omega
        · obtain rfl : p = 7 := by omega
          have HQ2 : Hid (PZ w wr f 0 e9 (rkN L (j + 1) : Int)) := Lib.hid (by rw [HRN.out]; exact HQ.out)
          go_wp2_with fail
          go_roundw
          case rel => exact ⟨j + 1, by omega, by congr 1; omega, HQ2⟩
          case measure => simp [intOf]; omega
    · obtain rfl : j = (n - 43) / 3 := by omega
      have HKK : Hid (rkN L ((n - 43) / 3) = rK L) := Lib.hid HRK.out.symm
      rw [HKK.out] at HP hk0
      obtain ⟨r0, r1, r2, r3, r4, r5, rz0, rz1, rz2, rz3, rz4, rz5, rsz⟩ := c6_cells HP.out.hr
      obtain ⟨s0, s1, s2, s3, s4, s5, sz0, sz1, sz2, sz3, sz4, sz5, ssz⟩ := c6_cells HP.out.hs
      have HD9 := Lib.hid (fun W => Cal.rday_any yy mm dd W)
      have m1 := HP.out.bl.size
      go_upto_region 16 with fail
      go_quiet (first
        | (go_at_call 34; first | (with_reducible exact Calls.quiet_of_same (same_flip (HN1.out _))) | (with_reducible exact Calls.quiet_of_same (same_flip (HN2.out _))) | (with_reducible exact Calls.quiet_of_same (same_flip (HN3.out _))))
        | (go_at_call 36; exact Calls.quiet_of_same (same_flip (HD9.out _))))
      have HPd := Lib.hid (HP.out.next (below_drewN wo nq))
      have HOK : Hid (dayE yy mm dd = 0 → okDay (dayN yy mm dd) = true) := Lib.hid (fun h => (date_back yy mm dd (okDate_E h)).1)
      clear r0 r1 r2 r3 r4 r5 rz0 rz1 rz2 rz3 rz4 rz5 rsz s0 s1 s2 s3 s4 s5 sz0 sz1 sz2 sz3 sz4 sz5 ssz
      clear HP
      obtain ⟨r0, r1, r2, r3, r4, r5, rz0, rz1, rz2, rz3, rz4, rz5, rsz⟩ := c6_cells HPd.out.hr
      obtain ⟨s0, s1, s2, s3, s4, s5, sz0, sz1, sz2, sz3, sz4, sz5, ssz⟩ := c6_cells HPd.out.hs
      have HP5 := Lib.hid (HPd.out.set (i := 1) (v := .int .i64 (dayN yy mm dd)) (c6_set1 HPd.out.hs (dayN yy mm dd)))
      clear HD9 HN1 HN2 HN3 HN
      generalize dayN yy mm dd = l at *
      generalize dayE yy mm dd = ee at *
      go_upto_region 18 with fail
      clear r0 r1 r2 r3 r4 r5 rz0 rz1 rz2 rz3 rz4 rz5 rsz s0 s1 s2 s3 s4 s5 sz0 sz1 sz2 sz3 sz4 sz5 ssz
      clear HPd
      generalize (wo.drewN nq).setCell ⟨w.heap.size + 1, 1, none⟩ (.int .i64 l) = w5 at *
      obtain ⟨r0, r1, r2, r3, r4, r5, rz0, rz1, rz2, rz3, rz4, rz5, rsz⟩ := c6_cells HP5.out.hr
      obtain ⟨s0, s1, s2, s3, s4, s5, sz0, sz1, sz2, sz3, sz4, sz5, ssz⟩ := c6_cells HP5.out.hs
      by_cases he : ee = 0
      rotate_left
      · have HF := Lib.hid (HE4.out he)
        have he' : (ee != 0) = true := by simpa using he
        clear HE5 HE6
        go_wp2_with fail
        obtain ⟨W9, hW9, hr9, bl9⟩ := res_fin HP5.out.hr HP5.out.bl (0) (0) (0) (0)
        rw [show ((((((w5.setCell ⟨w.heap.size, 0, none⟩ (.int .i64 0)).setCell ⟨w.heap.size, 1, none⟩ (.int .i64 0)).setCell ⟨w.heap.size, 2, none⟩ (.int .i64 0)).setCell ⟨w.heap.size, 3, none⟩ (.int .i64 0)).setCell ⟨w.heap.size, 4, none⟩ (.slice none 0 0)).setCell ⟨w.heap.size, 5, none⟩ (.slice none 0 0)) = W9 from hW9.symm]
        obtain ⟨p0, p1, p2, p3, p4, p5, _⟩ := c6_cells hr9
        refine bodyPost_ret (v := .tuple #[serV (0) (0) (0) (0) none 0 0 none 0 0, .int .i64 4]) (by simp [results, Tryz.results16, go_sem, p0, p1, p2, p3, p4, p5]) rfl ?_
        exact parP_of HF.out bl9
      have he' : (ee != 0) = false := by simpa using he
      have HRU := Lib.hid (rrule_any f l e9 (rK L : Int) none 0 0 none 0 0 [] [] w5 (nil_ints _) (nil_ints _) (by omega) (by omega) (by omega) (by omega) (HOK.out he))
      go_wp2_with fail
      refine HRU.out.mono ?_
      rintro en w6 ⟨rfl, hb6⟩
      have HP6 := Lib.hid (HP5.out.next hb6)
      clear hb6 HRU HP5 r0 r1 r2 r3 r4 r5 rz0 rz1 rz2 rz3 rz4 rz5 rsz s0 s1 s2 s3 s4 s5 sz0 sz1 sz2 sz3 sz4 sz5 ssz
      obtain ⟨r0, r1, r2, r3, r4, r5, rz0, rz1, rz2, rz3, rz4, rz5, rsz⟩ := c6_cells HP6.out.hr
      obtain ⟨s0, s1, s2, s3, s4, s5, sz0, sz1, sz2, sz3, sz4, sz5, ssz⟩ := c6_cells HP6.out.hs
      have hq := arr_eq2 (ruleL e9.toNat (rK L : Int) l) L
      rw [HS9.out] at hq
      by_cases hr : ruleL e9.toNat (rK L : Int) l = L
      rotate_left
      · have HF := Lib.hid (HE5.out hr)
        rw [decide_eq_false hr] at hq
        clear HE5 HE6 hr
        generalize arr (ruleL e9.toNat (rK L : Int) l) = RS at *
        go_wp2_with fail
        obtain ⟨W9, hW9, hr9, bl9⟩ := res_fin HP6.out.hr HP6.out.bl (0) (0) (0) (0)
        rw [show ((((((w6.setCell ⟨w.heap.size, 0, none⟩ (.int .i64 0)).setCell ⟨w.heap.size, 1, none⟩ (.int .i64 0)).setCell ⟨w.heap.size, 2, none⟩ (.int .i64 0)).setCell ⟨w.heap.size, 3, none⟩ (.int .i64 0)).setCell ⟨w.heap.size, 4, none⟩ (.slice none 0 0)).setCell ⟨w.heap.size, 5, none⟩ (.slice none 0 0)) = W9 from hW9.symm]
        obtain ⟨p0, p1, p2, p3, p4, p5, _⟩ := c6_cells hr9
        refine bodyPost_ret (v := .tuple #[serV (0) (0) (0) (0) none 0 0 none 0 0, .int .i64 4]) (by simp [results, Tryz.results16, go_sem, p0, p1, p2, p3, p4, p5]) rfl ?_
        exact parP_of HF.out bl9
      rw [decide_eq_true hr] at hq
      have HPY := Lib.hid (HE6.out he hr)
      clear HE5 HE6 hr
      generalize arr (ruleL e9.toNat (rK L : Int) l) = RS at *
      have HV := Lib.hid (rvalid_any f l e9 (rK L : Int) none 0 0 none 0 0 [] [] w6 (nil_ints _) (nil_ints _) (by omega))
      generalize (rK L : Int) = kz at *
      go_wp2_with fail
      refine HV.out.mono ?_
      rintro en w7 ⟨rfl, hb7⟩
      have HP7 := Lib.hid (HP6.out.next hb7)
      clear hb7 HV HP6 r0 r1 r2 r3 r4 r5 rz0 rz1 rz2 rz3 rz4 rz5 rsz s0 s1 s2 s3 s4 s5 sz0 sz1 sz2 sz3 sz4 sz5 ssz
      obtain ⟨r0, r1, r2, r3, r4, r5, rz0, rz1, rz2, rz3, rz4, rz5, rsz⟩ := c6_cells HP7.out.hr
      obtain ⟨s0, s1, s2, s3, s4, s5, sz0, sz1, sz2, sz3, sz4, sz5, ssz⟩ := c6_cells HP7.out.hs
      by_cases hv : vlE f l e9 kz [] [] = 0
      · have HF : Hid (parP f L = (f, l, e9, kz, 0)) := Lib.hid (by rw [HPY.out, if_pos hv])
        have hv' : (vlE f l e9 kz [] [] != 0) = false := by simpa using hv
        clear hv HPY
        generalize vlE f l e9 kz [] [] = ve at *
        go_wp2_with fail
        obtain ⟨W9, hW9, hr9, bl9⟩ := res_fin HP7.out.hr HP7.out.bl (f) (l) (e9) (kz)
        rw [show ((((((w7.setCell ⟨w.heap.size, 0, none⟩ (.int .i64 f)).setCell ⟨w.heap.size, 1, none⟩ (.int .i64 l)).setCell ⟨w.heap.size, 2, none⟩ (.int .i64 e9)).setCell ⟨w.heap.size, 3, none⟩ (.int .i64 kz)).setCell ⟨w.heap.size, 4, none⟩ (.slice none 0 0)).setCell ⟨w.heap.size, 5, none⟩ (.slice none 0 0)) = W9 from hW9.symm]
        obtain ⟨p0, p1, p2, p3, p4, p5, _⟩ := c6_cells hr9
        refine bodyPost_ret (v := .tuple #[serV (f) (l) (e9) (kz) none 0 0 none 0 0, .int .i64 0]) (by simp [results, Tryz.results16, go_sem, p0, p1, p2, p3, p4, p5]) rfl ?_
        exact parP_of HF.out bl9
      · have HF : Hid (parP f L = (0, 0, 0, 0, 3)) := Lib.hid (by rw [HPY.out, if_neg hv])
        have hv' : (vlE f l e9 kz [] [] != 0) = true := by simpa using hv
        clear hv HPY
        generalize vlE f l e9 kz [] [] = ve at *
        go_wp2_with fail
        obtain ⟨W9, hW9, hr9, bl9⟩ := res_fin HP7.out.hr HP7.out.bl (0) (0) (0) (0)
        rw [show ((((((w7.setCell ⟨w.heap.size, 0, none⟩ (.int .i64 0)).setCell ⟨w.heap.size, 1, none⟩ (.int .i64 0)).setCell ⟨w.heap.size, 2, none⟩ (.int .i64 0)).setCell ⟨w.heap.size, 3, none⟩ (.int .i64 0)).setCell ⟨w.heap.size, 4, none⟩ (.slice none 0 0)).setCell ⟨w.heap.size, 5, none⟩ (.slice none 0 0)) = W9 from hW9.symm]
        obtain ⟨p0, p1, p2, p3, p4, p5, _⟩ := c6_cells hr9
        refine bodyPost_ret (v := .tuple #[serV (0) (0) (0) (0) none 0 0 none 0 0, .int .i64 3]) (by simp [results, Tryz.results16, go_sem, p0, p1, p2, p3, p4, p5]) rfl ?_
        exact parP_of HF.out bl9

end Go.Proofs.YtibigbfkokendaaGreatDoor
