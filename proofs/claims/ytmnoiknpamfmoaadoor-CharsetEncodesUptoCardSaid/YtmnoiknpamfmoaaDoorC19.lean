import Derived.Test.YtmnoiknpamfmoaaDoorC18
namespace Go.Proofs.YtmnoiknpamfmoaaDoor
open Go.RowKit CS

theorem awake_b (w : World) (hT : Lib.Utf8Tabs 0 1 w) : Calls Tryd.prog 10 #[] w (RetB (.bool true) w) := awake_any w hT

set_option maxHeartbeats 1000000 in
set_option maxRecDepth 100000 in
theorem law_encodes (k : Int) (l : L8) (hl : l.length ≤ 1048576) (w : World) (hT : Lib.Utf8Tabs 0 1 w) :
    Calls Tryd.prog 5 #[.string (arr l), .int .i64 k] w (RetB (.bool true) w) := by
  have E1 := Lib.hid (Encode_any k l hl w hT)
  have E2 := Lib.hid (fun w1 => rEncode_any k l hl w1)
  have HT := Lib.hid hT
  have hEE : (encE k l == encE k l) = true := by simp
  clear hT
  go_enter Tryd.func5, Tryd.ntmps5
  go_wp2_with (first | (go_at_call 14; refine E1.out.mono ?_) | fail)
  rintro e w1 ⟨v1, rfl, hv1, hb1⟩
  have HV1 := Lib.hid hv1
  have HB1 := Lib.hid hb1
  clear hv1 hb1
  go_wp2_with (first | (go_at_call 15; refine (E2.out w1).mono ?_) | fail)
  rintro e w2 ⟨v2, rfl, hv2, hb2⟩
  have HV2 := Lib.hid (HV1.out.below hb2)
  have HV3 := Lib.hid hv2
  have HB2 := Lib.hid (HB1.out.trans (hb2.mono HB1.out.size))
  clear hv2 hb2
  go_wp2_with (first | (go_at_call 10; refine (awake_b w2 (Utf8Tabs_below HT.out HB2.out)).mono ?_) | fail)
  rintro e w3 ⟨rfl, hb3⟩
  have k1 := conv_bslice (HV2.out.below hb3)
  have k2 := conv_bslice (HV3.out.below hb3)
  have HB3 := Lib.hid (HB2.out.trans (hb3.mono HB2.out.size))
  clear hb3
  go_wp2
  go_ret
  exact ⟨rfl, HB3.out⟩

set_option maxHeartbeats 4000000 in
set_option maxRecDepth 100000 in
theorem law_detects (v : Value) (l : L8) (hl : l.length ≤ 1048576) (w : World) (hB : BSlice w v l) (hT : Lib.Utf8Tabs 0 1 w) :
    Calls Tryd.prog 6 #[v] w (RetB (.bool true) w) := by
  have D1 : Hid (Calls Tryd.prog 16 #[v] w (RetB (.int .i64 (detR l)) w)) := Lib.hid (Detect_any v l w hB (by omega) hT)
  have D2 := Lib.hid (fun w1 hb => Decode_any (detR l) v l w1 (hB.below hb) (by omega) (Utf8Tabs_below hT hb))
  have D3 : Hid (∀ w1, Below w.heap.size w w1 → Calls Tryd.prog 17 #[v] w1 (RetB (.int .i64 (detR l)) w1)) := Lib.hid (fun w1 hb => rDetect_any v l w1 (hB.below hb) hl)
  have HT := Lib.hid hT
  have HBS := Lib.hid hB
  have hdd : (detR l == detR l) = true := by simp
  have hbd := detR_bd l
  have HE : Hid (l.length ≤ 65536 → decE (detR l) l = 0) := Lib.hid (fun h => by unfold decE; rw [if_neg (by omega), if_neg (by omega)])
  have HC : Hid (marked l = false → (decR (detR l) l).2 = []) := Lib.hid (det_clean l)
  obtain ⟨a, n, cap, rfl, hn⟩ : ∃ a n cap, v = .slice a n cap ∧ n = l.length := by
    rcases hB with ⟨a, cap, rfl, rfl⟩ | ⟨b, off, cap, rfl, _, _⟩
    · exact ⟨_, _, _, rfl, rfl⟩
    · exact ⟨_, _, _, rfl, rfl⟩
  have HN := Lib.hid hn
  have hn2 : n ≤ 1048576 := by omega
  -- the mark
  have hmk : (n ≤ 2 ∧ marked l = false) ∨ (2 < n ∧ ∃ b off, a = some ⟨b, off, none⟩ ∧ Bytes w b off l ∧ marked l = (((l.getD 0 0).toNat : Int) == 239 && ((l.getD 1 0).toNat : Int) == 187 && ((l.getD 2 0).toNat : Int) == 191)) := by
    by_cases h : 3 ≤ l.length
    · right
      refine ⟨by omega, ?_⟩
      obtain ⟨b, off, hav, hp⟩ : ∃ b off, a = some ⟨b, off, none⟩ ∧ Bytes w b off l := by
        rcases HBS.out with ⟨_, _, h1, h2⟩ | ⟨b, off, cap', h1, _, hp⟩
        · rw [h2] at h; simp at h
        · injection h1 with h1 h2 h3
          exact ⟨b, off, h1, hp⟩
      refine ⟨b, off, hav, hp, ?_⟩
      unfold marked
      rw [decide_eq_true h, Bool.true_and]
      have e : ∀ (x y : UInt8), (x == y) = ((x.toNat : Int) == (y.toNat : Int)) := by
        intro x y; rw [Bool.eq_iff_iff, beq_iff_eq, beq_iff_eq, ← UInt8.toNat_inj]; omega
      rw [e, e, e]
      rfl
    · left; exact ⟨by omega, by unfold marked; simp [h]⟩
  clear hB hT hl hn hbd
  rcases hmk with ⟨hn3, hm⟩ | ⟨hn3, b, off, rfl, hp, hm⟩
  · have hc := HC.out hm
    have HCC := Lib.hid hc
    clear hc hm
    by_cases hbig : 65536 < n
    · omega
    have hE : decE (detR l) l = 0 := HE.out (by have := HN.out; omega)
    go_enter Tryd.func6, Tryd.ntmps6
    go_wp2_with (first | (go_at_call 16; refine D1.out.mono ?_) | fail)
    rintro e w1 ⟨rfl, hb1⟩
    have HB1 := Lib.hid hb1
    clear hb1
    go_wp2_with (first | (go_at_call 8; refine (D2.out w1 HB1.out).mono ?_) | fail)
    rintro e w2 ⟨dv, rfl, ⟨a1, cap1, rfl, _, _⟩, hb2⟩
    rw [hE, HCC.out]
    have HB2 := Lib.hid (HB1.out.trans (hb2.mono HB1.out.size))
    clear hb2
    go_wp2_with (first | (go_at_call 10; refine (awake_b w2 (Utf8Tabs_below HT.out HB2.out)).mono ?_) | fail)
    rintro e w3 ⟨rfl, hb3⟩
    have HB3 := Lib.hid (HB2.out.trans (hb3.mono HB2.out.size))
    clear hb3
    go_wp2_with (first | (go_at_call 17; refine (D3.out w3 HB3.out).mono ?_) | fail)
    rintro e w4 ⟨rfl, hb4⟩
    have HB4 := Lib.hid (HB3.out.trans (hb4.mono HB3.out.size))
    clear hb4
    go_wp2
    go_ret
    exact ⟨rfl, HB4.out⟩
  · have hlen : 2 < l.length := by have := HN.out; omega
    have C0 : Hid (∀ w1, Below w.heap.size w w1 → w1.cell? ⟨b, off, none⟩ = some (.int .u8 (l.getD 0 0).toNat) ∧ w1.cell? ⟨b, off + (0 : Int).toNat, none⟩ = some (.int .u8 (l.getD 0 0).toNat) ∧ w1.cell? ⟨b, off + 1, none⟩ = some (.int .u8 (l.getD 1 0).toNat) ∧ w1.cell? ⟨b, off + (1 : Int).toNat, none⟩ = some (.int .u8 (l.getD 1 0).toNat) ∧ w1.cell? ⟨b, off + 2, none⟩ = some (.int .u8 (l.getD 2 0).toNat) ∧ w1.cell? ⟨b, off + (2 : Int).toNat, none⟩ = some (.int .u8 (l.getD 2 0).toNat)) := Lib.hid (fun w1 hb => by
      have h := hp.below hb
      exact ⟨h 0 (by omega), h 0 (by omega), h 1 (by omega), h 1 (by omega), h 2 (by omega), h 2 (by omega)⟩)
    clear hp hlen
    generalize ((l.getD 0 0).toNat : Int) = x at *
    generalize ((l.getD 1 0).toNat : Int) = y at *
    generalize ((l.getD 2 0).toNat : Int) = z at *
    have HM := Lib.hid hm
    clear hm
    by_cases hbig : 65536 < n
    all_goals
      cases q0 : (x == 239) <;> cases q1 : (y == 187) <;> cases q2 : (z == 191)
    all_goals
      rw [q0, q1, q2] at HM
      go_enter Tryd.func6, Tryd.ntmps6
      go_wp2_with (first | (go_at_call 16; refine D1.out.mono ?_) | fail)
      rintro e w1 ⟨rfl, hb1⟩
      have HB1 := Lib.hid hb1
      clear hb1
      go_wp2_with (first | (go_at_call 8; refine (D2.out w1 HB1.out).mono ?_) | fail)
      rintro e w2 ⟨dv, rfl, ⟨a1, cap1, rfl, _, _⟩, hb2⟩
      first | (rw [HC.out HM.out]) | skip
      first | (rw [HE.out (by have := HN.out; omega)]) | skip
      have HB2 := Lib.hid (HB1.out.trans (hb2.mono HB1.out.size))
      clear hb2
      obtain ⟨c0, c0', c1, c1', c2, c2'⟩ := C0.out w2 HB2.out
      go_wp2_with (first | (go_at_call 10; refine (awake_b w2 (Utf8Tabs_below HT.out HB2.out)).mono ?_) | fail)
      rintro e w3 ⟨rfl, hb3⟩
      have HB3 := Lib.hid (HB2.out.trans (hb3.mono HB2.out.size))
      clear hb3
      go_wp2_with (first | (go_at_call 17; refine (D3.out w3 HB3.out).mono ?_) | fail)
      rintro e w4 ⟨rfl, hb4⟩
      have HB4 := Lib.hid (HB3.out.trans (hb4.mono HB3.out.size))
      clear hb4
      go_wp2
      go_ret
      exact ⟨rfl, HB4.out⟩

end Go.Proofs.YtmnoiknpamfmoaaDoor
