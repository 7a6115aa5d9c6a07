import Derived.Test.YtmnoiknpamfmoaaDoorC19
namespace Go.Proofs.YtmnoiknpamfmoaaDoor
open Go.RowKit CS

theorem extract_head (l : L8) : (arr l).extract 0 3 = arr (l.take 3) := by
  unfold arr
  apply ByteArray.ext
  simp
theorem extract_tail (l : L8) : (arr l).extract 3 l.length = arr (l.drop 3) := by
  unfold arr
  apply ByteArray.ext
  simp
  exact List.take_of_length_le (by simp)

theorem marked_take (l : L8) (h : 2 < l.length) : (l.take 3 == [239, 187, 191]) = marked l := by
  unfold marked
  match l, h with
  | a :: b :: c :: t, _ =>
    rw [Bool.eq_iff_iff]
    simp [List.getD, and_assoc]

theorem encOut_len (k : Int) (l : L8) : (encOut k l).length ≤ l.length := by
  unfold encOut
  split
  · exact Nat.le_refl _
  · rw [List.length_map]; exact runesL_length l

set_option maxHeartbeats 2000000 in
set_option maxRecDepth 100000 in
theorem law_returns (q : Int) (hq1 : -9223372036854775808 ≤ q) (hq2 : q ≤ 9223372036854775807) (l : L8) (hl : l.length ≤ 1048576) (w : World) (hT : Lib.Utf8Tabs 0 1 w) :
    Calls Tryd.prog 7 #[.string (arr l), .int .i64 q] w (RetB (.bool true) w) := by
  have hk0 := Int.emod_nonneg q (show (3 : Int) ≠ 0 by omega)
  have hk1 := Int.emod_lt_of_pos q (show (0 : Int) < 3 by omega)
  have HM := Lib.hid (fun w => mod_any q 3 hq1 hq2 (by omega) (by omega) w)
  generalize q % 3 = m at *
  have E1 := Lib.hid (Encode_any (1 + m) l hl w hT)
  have E2 := Lib.hid (fun w1 => rEncode_any (1 + m) l hl w1)
  have HT := Lib.hid hT
  have hEE : (encE (1 + m) l == encE (1 + m) l) = true := by simp
  have ED := Lib.hid (fun h => enc_dec (1 + m) ⟨by omega, by omega⟩ l h)
  have hsz : (arr l).size = l.length := arr_size l
  clear hT hq1 hq2
  by_cases hE : encE (1 + m) l = 0
  · obtain ⟨hd, hr⟩ := ED.out hE
    have hR : CS.encR (1 + m) l = encOut (1 + m) l := by unfold CS.encR; rw [if_pos hE]
    have D1 := Lib.hid (fun w1 v (hv : BSlice w1 v (CS.encR (1 + m) l)) hT => Decode_any (1 + m) v (CS.encR (1 + m) l) w1 hv (by rw [hR]; have h1 := encOut_len (1 + m) l; omega) hT)
    have HD := Lib.hid hd
    have HR := Lib.hid hr
    have HE := Lib.hid hE
    have HRR := Lib.hid hR
    clear hd hr hE hR hEE
    go_enter Tryd.func7, Tryd.ntmps7
    go_wp2_with (first | (go_at_call 12; refine (HM.out _).mono ?_; rintro e w' ⟨rfl, rfl⟩) | (go_at_call 14; refine E1.out.mono ?_))
    rintro e w1 ⟨v1, rfl, hv1, hb1⟩
    rw [HE.out]
    have HV1 := Lib.hid hv1
    have HB1 := Lib.hid hb1
    clear hv1 hb1
    go_wp2_with (first | (go_at_call 8; refine (D1.out w1 _ HV1.out (Utf8Tabs_below HT.out HB1.out)).mono ?_) | fail)
    rintro e w2 ⟨dv, rfl, ⟨a1, cap1, rfl, _, _⟩, hb2⟩
    rw [HRR.out, HD.out, HR.out]
    have HB2 := Lib.hid (HB1.out.trans (hb2.mono HB1.out.size))
    clear hb2
    by_cases h3 : m = 2
    · have hk3 : (1 + m == 3) = true := by simp; omega
      by_cases h2 : 2 < l.length
      · have ht := marked_take l h2
        have hx : ((arr l).extract 0 3).toList = l.take 3 := by rw [extract_head, arr_toList]
        cases hm : marked l
        · have T : (((arr l).extract 0 3).toList == [239, 187, 191]) = false := by rw [hx, ht, hm]
          have hb : backL (1 + m) l = l := by unfold backL; rw [if_neg (by rw [hm]; simp)]
          rw [hb]
          clear ht hx hm hb h3
          go_wp2_with (first | (go_at_call 10; refine (awake_b w2 (Utf8Tabs_below HT.out HB2.out)).mono ?_) | fail)
          rintro e w3 ⟨rfl, hb3⟩
          have HB3 := Lib.hid (HB2.out.trans (hb3.mono HB2.out.size))
          clear hb3
          go_wp2
          go_ret
          exact ⟨rfl, HB3.out⟩
        · have T : (((arr l).extract 0 3).toList == [239, 187, 191]) = true := by rw [hx, ht, hm]
          have hb : backL (1 + m) l = l.drop 3 := by unfold backL; rw [if_pos ⟨by omega, hm⟩]
          have hy := extract_tail l
          rw [hb]
          clear ht hx hm hb h3
          go_wp2_with (first | (go_at_call 10; refine (awake_b w2 (Utf8Tabs_below HT.out HB2.out)).mono ?_) | fail)
          rintro e w3 ⟨rfl, hb3⟩
          have HB3 := Lib.hid (HB2.out.trans (hb3.mono HB2.out.size))
          clear hb3
          go_wp2
          go_ret
          exact ⟨rfl, HB3.out⟩
      · have hb : backL (1 + m) l = l := by unfold backL; rw [if_neg]; rintro ⟨_, h⟩; unfold marked at h; simp at h; omega
        rw [hb]
        clear hb h3
        go_wp2_with (first | (go_at_call 10; refine (awake_b w2 (Utf8Tabs_below HT.out HB2.out)).mono ?_) | fail)
        rintro e w3 ⟨rfl, hb3⟩
        have HB3 := Lib.hid (HB2.out.trans (hb3.mono HB2.out.size))
        clear hb3
        go_wp2
        go_ret
        exact ⟨rfl, HB3.out⟩
    · have hk3 : (1 + m == 3) = false := by simp; omega
      have hb : backL (1 + m) l = l := by unfold backL; rw [if_neg (fun h => h3 (by omega))]
      rw [hb]
      clear hb h3
      go_wp2_with (first | (go_at_call 10; refine (awake_b w2 (Utf8Tabs_below HT.out HB2.out)).mono ?_) | fail)
      rintro e w3 ⟨rfl, hb3⟩
      have HB3 := Lib.hid (HB2.out.trans (hb3.mono HB2.out.size))
      clear hb3
      go_wp2
      go_ret
      exact ⟨rfl, HB3.out⟩
  · have hne : (encE (1 + m) l != 0) = true := by simpa using hE
    clear hE
    go_enter Tryd.func7, Tryd.ntmps7
    go_wp2_with (first | (go_at_call 12; refine (HM.out _).mono ?_; rintro e w' ⟨rfl, rfl⟩) | (go_at_call 14; refine E1.out.mono ?_))
    rintro e w1 ⟨v1, rfl, hv1, hb1⟩
    have HB1 := Lib.hid hb1
    clear hv1 hb1
    go_wp2_with (first | (go_at_call 15; refine (E2.out w1).mono ?_) | fail)
    rintro e w2 ⟨v2, rfl, hv2, hb2⟩
    have HB2 := Lib.hid (HB1.out.trans (hb2.mono HB1.out.size))
    clear hv2 hb2
    go_wp2_with (first | (go_at_call 10; refine (awake_b w2 (Utf8Tabs_below HT.out HB2.out)).mono ?_) | fail)
    rintro e w3 ⟨rfl, hb3⟩
    have HB3 := Lib.hid (HB2.out.trans (hb3.mono HB2.out.size))
    clear hb3
    go_wp2
    go_ret
    exact ⟨rfl, HB3.out⟩

end Go.Proofs.YtmnoiknpamfmoaaDoor
