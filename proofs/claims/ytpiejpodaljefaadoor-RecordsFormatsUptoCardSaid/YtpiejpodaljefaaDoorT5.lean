import Derived.Test.YtpiejpodaljefaaDoorT4
namespace Go.Proofs.YtpiejpodaljefaaDoor
open Go.RowKit

set_option maxRecDepth 100000 in
set_option maxHeartbeats 8000000 in
theorem parse_any (s : ByteArray) (d q : UInt8) (w : World) (hs47 : s.size ≤ 9223372036854775807) :
    Calls Tryd.prog 22 #[.string s, .agg #[.int .u8 d.toNat, .int .u8 q.toNat]] w (ParseOut (parT d q s.data.toList) w) := by
  obtain ⟨i0, a1, a2, a3, a4⟩ := info_parts infoR
  have HI0 := Lib.hid a1; have HZ0 := Lib.hid a2; have HZ1 := Lib.hid a3; have HZ2 := Lib.hid a4
  obtain ⟨j0, b1, b2, b3, b4⟩ := info_parts infoP
  have HJ0 := Lib.hid b1; have HY0 := Lib.hid b2; have HY1 := Lib.hid b3; have HY2 := Lib.hid b4
  clear a1 a2 a3 a4 b1 b2 b3 b4
  have hlen : s.data.toList.length = s.size := rfl
  cases hok : okD d q
  · have HT : Hid (parT d q s.data.toList = ([], [(0, 0, 1)])) := Lib.hid (by unfold parT; rw [if_pos hok])
    have V := Lib.hid (fun w => valid_any d q w)
    rw [hok] at V
    clear hok hlen
    go_enter Tryd.func22, Tryd.ntmps22
    go_wp2_with fail
    refine (V.out _).mono ?_
    rintro e w1 ⟨rfl, hb1⟩
    go_wp2
    go_ret2
    rw [HT.out]
    exact parse_one (below2 hb1) 1
  · obtain ⟨hd10, hq10⟩ := okD_10 hok
    by_cases hbig : 65536 < s.size
    · have HT : Hid (parT d q s.data.toList = ([], [(0, 0, 2)])) := Lib.hid (by unfold parT; rw [if_neg (by simp [hok]), if_pos (by omega)])
      have V := Lib.hid (fun w => valid_any d q w)
      rw [hok] at V
      clear hok hlen hd10 hq10
      go_enter Tryd.func22, Tryd.ntmps22
      go_wp2_with fail
      refine (V.out _).mono ?_
      rintro e w1 ⟨rfl, hb1⟩
      go_wp2
      go_ret2
      rw [HT.out]
      exact parse_one (below2 hb1) 2
    · have HT : Hid (parT d q s.data.toList = parL d q s.size s.data.toList 1 [] []) := Lib.hid (by unfold parT; rw [if_neg (by simp [hok]), if_neg (by omega)]; rfl)
      have V := Lib.hid (fun w => valid_any d q w)
      rw [hok] at V
      clear hok hlen
      have HD := Lib.hid hd10
      have HQ := Lib.hid hq10
      clear hd10 hq10
      go_enter Tryd.func22, Tryd.ntmps22
      go_wp2_with fail
      refine (V.out _).mono ?_
      rintro e w1 ⟨rfl, hb1⟩
      obtain ⟨hbx, hbw, hbl⟩ := boxD hb1
      obtain ⟨d0, d1⟩ := cells2_of hbx
      have HBW := Lib.hid hbw
      clear hb1 hbx hbw
      go_wp2
      have HM0 := Lib.hid (PM.start HBW.out (.cells #[.int .i64 0, .int .i64 1, .int .i64 0, .string s, .int .u8 d.toNat, .int .u8 q.toNat] 82))
      have HR0 : Hid (RdAt (w1.alloc (.cells #[.int .i64 0, .int .i64 1, .int .i64 0, .string s, .int .u8 d.toNat, .int .u8 q.toNat] 82)) w1.heap.size s 0 1 0 d q) := Lib.hid ⟨heap_alloc_new _ _, by omega, by omega, by omega, by omega⟩
      generalize w1.alloc (.cells #[.int .i64 0, .int .i64 1, .int .i64 0, .string s, .int .u8 d.toNat, .int .u8 q.toNat] 82) = w2 at *
      generalize w1.heap.size = p at *
      clear d0 d1 HBW
      go_loopg [7, 8] s.size (fun k vr vp wr => ∃ j l b R P n, k = s.size - j ∧ s.size - j ≤ n ∧ R.length ≤ 400 ∧ P.length ≤ j ∧ Hid (j < s.size → b = j) ∧ Hid (RdAt wr p s j l b d q) ∧ Hid (PM p w R P vr vp wr) ∧ Hid (PTot d q s n j l R P (parT d q s.data.toList)))
      case atStart => exact ⟨0, 1, 0, [], [], s.size, by omega, by omega, by simp, by simp, Lib.hid (fun _ => rfl), HR0, HM0, Lib.hid (by unfold PTot; rw [HT.out]; rfl)⟩
      case round =>
        obtain ⟨j, l, b, R, P, n, hk, hn, hR, hP, HBJ, HR, HM, HTT⟩ := hrel
        have HK := Lib.hid hk
        clear hk HM0 HR0 HT
        obtain ⟨⟨c0, c1, c2, c3, c4, c5⟩, f0, f1, f2⟩ := HR.out.cells
        have hl := HR.out.2.2.2.2
        have hjs := HR.out.2.2.1
        by_cases hlt : j < s.size
        · obtain ⟨m, hm⟩ : ∃ m, n = m + 1 := ⟨n - 1, by omega⟩
          have hbj := HBJ.out hlt
          have HM1 := Lib.hid hm
          have HNE := Lib.hid (drop_ne s j hlt)
          clear hm
          obtain rfl := hbj
          cases he : endL (s.data.toList.drop b)
          · have HE := Lib.hid he
            clear he
            cases h35 : ((s[b].toNat : Int) == 35)
            · have HNO : Hid (¬ (endL (s.data.toList.drop b) = true ∨ (s.data.toList.drop b).head? = some 35)) := Lib.hid (by
                rw [HE.out, drop_at s b hlt, List.head?_cons]
                have h := h35
                rw [show (35 : Int) = ((35 : Nat) : Int) from rfl, beq_cast _ 35 (by decide)] at h
                simpa using h)
              go_wp2_with fail
              refine (ended_no p s b l b d q _ HR.out hlt).mono ?_
              rintro e w3 ⟨rfl, hb3⟩
              have HR3 := Lib.hid (HR.out.below hb3)
              have HM3 := Lib.hid (HM.out.below hb3)
              clear hb3 c0 c1 c2 c3 c4 c5 f0 f1 f2 HR HM
              obtain ⟨⟨c0, c1, c2, c3, c4, c5⟩, f0, f1, f2⟩ := HR3.out.cells
              obtain ⟨L, hL, hrow, hfld⟩ := HM3.out.rs
              have hLL : L.length = R.length := by rw [← hL, List.length_map]
              obtain ⟨ad, cp, hvr, hcp1, hcp2⟩ := own_slice hrow
              have HL := Lib.hid hL
              have HROW := Lib.hid hrow
              have HFLD := Lib.hid hfld
              have HLL := Lib.hid hLL
              subst hvr
              clear hL hrow hfld hLL
              go_wp2_with fail
              refine (lineEnd_any p s b l b d q _ HR3.out).mono ?_
              rw [HE.out]
              rintro e w4 ⟨nn, rfl, rfl⟩
              by_cases hfull : R.length = 400
              · have hfe : ((L.length : Int) == 400) = true := by have := HLL.out; simp; omega
                have HFU := Lib.hid hfull
                clear hfull
                go_wp2_with (at_builtin; refine wpList_append_own _ rfl _ _ 42 rfl (p + 1) 77 j0 (.agg #[.int .i64 0, .int .i64 0, .int .i64 0, .int .i64 0]) 4 32 Tryd.underlying42 HJ0.out HY0.out HY1.out HY2.out rfl (by decide) _ _ _ rfl (HM3.out.pr.alloc _) ⟨_, 0, none⟩ 1 1 [.int .i64 0, .int .i64 l, .int .i64 1, .int .i64 2] rfl rfl ?a1 ?a2 ?a3 ?a4 ?a5 ?_)
                case a1 => exact cell_four_at _ _ _ _ _ _ _ rfl
                case a2 => simp [Value.oneCell']
                case a3 => unfold maxLen; omega
                case a4 => omega
                case a5 => have := HM3.out.pl; simp; omega
                intro vp2 w5 hown hgr _
                have HX := Lib.hid ((HM3.out.below ((Below.refl _ _).alloc (Nat.le_refl _) _)).addP (x := (l, 1, 2)) hgr hown)
                clear hown hgr
                go_wp2_with fail
                go_ret2
                exact HX.out.out (by have h := HTT.out; rw [HM1.out] at h; unfold PTot at h; rw [parL_full HNE.out HNO.out HFU.out] at h; exact h.symm)
              · have hfe : ((L.length : Int) == 400) = false := by have := HLL.out; simp; omega
                have hR9 : R.length < 400 := by omega
                have HNF := Lib.hid hfull
                clear hfull
                go_wp2_with fail
                refine (record_any p s b l b d q _ HR3.out HD.out HQ.out).mono ?_
                intro e w5 ho
                rw [show b - b + 1 = 1 by omega] at ho
                obtain ⟨hres, ⟨j3, l3, b3, hr6, hst, hjj⟩, hbb⟩ := ho
                have HR6 := Lib.hid hr6
                have HM6 := Lib.hid (HM3.out.but hbb)
                have HROW6 := Lib.hid (row_but HROW.out hbb (by omega))
                have HFLD6 := Lib.hid (fun x hx => row_but (HFLD.out x hx) hbb (show p < p + 1 by omega))
                have HST := Lib.hid hst
                have hp3 := HM3.out.pl
                have HLAST : Hid (∀ j2, s.data.toList.drop j2 = skipL (s.data.toList.drop j3) → j3 ≤ j2 → (j3 < s.size → j3 < j2) → b < j2) := Lib.hid (fun j2 h1 h2 h3 => by
                    rcases Nat.lt_or_ge j3 s.size with h | h
                    · have := h3 h; omega
                    · omega)
                clear hbb hr6 hst c0 c1 c2 c3 c4 c5 f0 f1 f2
                cases hz : (recL d q 12 ⟨s.data.toList.drop b, l, 1⟩ []).1 with
                | inr pr =>
                  rw [hz] at hres
                  obtain ⟨g, rfl, hP6, hg6⟩ := hres
                  have HZ := Lib.hid (Prod.ext hz HST.out : recL d q 12 ⟨s.data.toList.drop b, l, 1⟩ [] = (.inr pr, ⟨s.data.toList.drop j3, l3, j3 - b3 + 1⟩))
                  obtain ⟨⟨t0, t1, t2, t3⟩, _⟩ := cells4_of hP6
                  have hgl := lt_of_heap hP6
                  clear hP6 hz
                  go_upto_region 18 with (at_builtin; refine wpList_append_own _ rfl _ _ 42 rfl (p + 1) 77 j0 (.agg #[.int .i64 0, .int .i64 0, .int .i64 0, .int .i64 0]) 4 32 Tryd.underlying42 HJ0.out HY0.out HY1.out HY2.out rfl (by decide) _ _ _ rfl ((HM6.out.pr.alloc _).alloc _) ⟨_, 0, none⟩ 1 1 [.int .i64 0, .int .i64 pr.1, .int .i64 pr.2.1, .int .i64 pr.2.2] rfl rfl ?b1 ?b2 ?b3 ?b4 ?b5 ?_)
                  case b1 => exact cell_four_at _ _ _ _ _ _ _ (by simp)
                  case b2 => simp [Value.oneCell']
                  case b3 => unfold maxLen; omega
                  case b4 => omega
                  case b5 => have := HM6.out.pl; simp; omega
                  intro vp2 w7 hown hgr _
                  have hbel := (((Below.refl _ w5).alloc (Nat.le_refl _) (.cells #[.int .i64 0, .slice none 0 0] 48)).alloc (by simp) (.cells #[.int .i64 0, .int .i64 pr.1, .int .i64 pr.2.1, .int .i64 pr.2.2] 77))
                  have HM7 := Lib.hid ((HM6.out.below hbel).addP (x := pr) hgr hown)
                  have HR7 : Hid (RdAt w7 p s j3 l3 b3 d q) := Lib.hid ((HR6.out.below hbel).grown hgr (fun g e => by have := (HM6.out.pr.lt g e).1; omega))
                  clear hown hgr hbel
                  go_upto_region 18 with fail
                  obtain ⟨⟨c0, c1, c2, c3, c4, c5⟩, f0, f1, f2⟩ := HR7.out.cells
                  clear c0 c1 c2 c3 c4 c5 f0 f1 f2
                  go_wp2_with fail
                  refine (skip_any p s j3 l3 b3 d q _ HR7.out).mono ?_
                  rintro e w8 ⟨rfl, ⟨j2, l2, b2, hr5, hd5, hl5, hj5, hj6⟩, hb5⟩
                  have HR8 := Lib.hid hr5
                  have HM8 := Lib.hid (HM7.out.but hb5)
                  have HD8 := Lib.hid hd5
                  have HL8 := Lib.hid hl5
                  clear hr5 hb5 hd5 hl5
                  have hlast : b < j2 := HLAST.out j2 HD8.out hj5 hj6
                  go_wp2_with fail
                  go_roundg (s.size - j2)
                  case rel => exact ⟨j2, l2, b2, R, P ++ [pr], m, rfl, by have := HM1.out; omega, by first | omega | (simp; omega), by first | omega | (simp; omega), Lib.hid (fun h => (HL8.out h).2), HR8, HM8, Lib.hid (PTot.skip (by have h := HTT.out; rw [HM1.out] at h; unfold PTot at h; rw [parL_bad HNE.out HNO.out HNF.out HZ.out] at h; exact h) HD8.out (fun h => (HL8.out h).1))⟩
                  case measure => have := HK.out; omega
                | inl fs =>
                  rw [hz] at hres
                  obtain ⟨v, rfl, hrow6⟩ := hres
                  have HZ := Lib.hid (Prod.ext hz HST.out : recL d q 12 ⟨s.data.toList.drop b, l, 1⟩ [] = (.inl fs, ⟨s.data.toList.drop j3, l3, j3 - b3 + 1⟩))
                  have HV6 := Lib.hid (row_base hrow6 (show p + 1 ≤ w3.heap.size by omega))
                  obtain ⟨ad3, cp3, rfl, _, _⟩ := own_slice hrow6
                  clear hrow6 hz
                  go_upto_region 18 with (at_builtin; refine wpList_append_own _ rfl _ _ 41 rfl (p + 1) 48 i0 (.agg #[.int .i64 0, .slice none 0 0]) 2 32 Tryd.underlying41 HI0.out HZ0.out HZ1.out HZ2.out rfl (by decide) _ _ _ rfl ((HROW6.out.alloc _).alloc _) ⟨_, 0, none⟩ 1 1 [.int .i64 l, .slice ad3 fs.length cp3] rfl rfl ?d1 ?d2 ?d3 ?d4 ?d5 ?_)
                  case d1 => exact cell_two_at _ _ _ _ _ (by simp)
                  case d2 => simp [Value.oneCell']
                  case d3 => have := HLL.out; unfold maxLen; omega
                  case d4 => have := HLL.out; omega
                  case d5 => have := HM6.out.pl; simp; omega
                  intro vr2 w7 hown hgr _
                  have hbel := (((Below.refl _ w5).alloc (Nat.le_refl _) (.cells #[.int .i64 l, .slice ad3 fs.length cp3] 48)).alloc (by simp) (.cells #[.int .i64 l, .slice ad3 fs.length cp3] 48))
                  have HM7 := Lib.hid ((HM6.out.below hbel).addR (l := l) (fs := fs) HL.out (row_below HROW6.out hbel) (fun x hx => row_below (HFLD6.out x hx) hbel) (row_below HV6.out hbel) hgr hown)
                  have HR7 : Hid (RdAt w7 p s j3 l3 b3 d q) := Lib.hid ((HR6.out.below hbel).grown hgr (fun g e => by have := (HROW6.out.lt g e).1; omega))
                  obtain ⟨ad4, cp4, rfl, _, _⟩ := own_slice hown
                  clear hown hgr hbel
                  go_upto_region 18 with fail
                  obtain ⟨⟨c0, c1, c2, c3, c4, c5⟩, f0, f1, f2⟩ := HR7.out.cells
                  clear c0 c1 c2 c3 c4 c5 f0 f1 f2
                  go_wp2_with fail
                  refine (skip_any p s j3 l3 b3 d q _ HR7.out).mono ?_
                  rintro e w8 ⟨rfl, ⟨j2, l2, b2, hr5, hd5, hl5, hj5, hj6⟩, hb5⟩
                  have HR8 := Lib.hid hr5
                  have HM8 := Lib.hid (HM7.out.but hb5)
                  have HD8 := Lib.hid hd5
                  have HL8 := Lib.hid hl5
                  clear hr5 hb5 hd5 hl5
                  have hlast : b < j2 := HLAST.out j2 HD8.out hj5 hj6
                  go_wp2_with fail
                  go_roundg (s.size - j2)
                  case rel => exact ⟨j2, l2, b2, R ++ [(l, fs)], P, m, rfl, by have := HM1.out; omega, by first | omega | (simp; omega), by first | omega | (simp; omega), Lib.hid (fun h => (HL8.out h).2), HR8, HM8, Lib.hid (PTot.skip (by have h := HTT.out; rw [HM1.out] at h; unfold PTot at h; rw [parL_good HNE.out HNO.out HNF.out HZ.out] at h; exact h) HD8.out (fun h => (HL8.out h).1))⟩
                  case measure => have := HK.out; omega
            · have HNO : Hid (endL (s.data.toList.drop b) = true ∨ (s.data.toList.drop b).head? = some 35) := Lib.hid (by
                rw [drop_at s b hlt, List.head?_cons]
                have h := h35
                rw [show (35 : Int) = ((35 : Nat) : Int) from rfl, beq_cast _ 35 (by decide)] at h
                right; simpa using h)
              go_wp2_with fail
              refine (ended_no p s b l b d q _ HR.out hlt).mono ?_
              rintro e w3 ⟨rfl, hb3⟩
              have HR3 := Lib.hid (HR.out.below hb3)
              have HM3 := Lib.hid (HM.out.below hb3)
              clear hb3 c0 c1 c2 c3 c4 c5 f0 f1 f2 HR HM
              obtain ⟨⟨c0, c1, c2, c3, c4, c5⟩, f0, f1, f2⟩ := HR3.out.cells
              go_wp2_with fail
              refine (lineEnd_any p s b l b d q _ HR3.out).mono ?_
              rw [HE.out]
              rintro e w4 ⟨nn, rfl, rfl⟩
              go_wp2_with fail
              refine (skip_any p s b l b d q _ HR3.out).mono ?_
              rintro e w5 ⟨rfl, ⟨j2, l2, b2, hr5, hd5, hl5, hj5, hj6⟩, hb5⟩
              have HR5 := Lib.hid hr5
              have HM5 := Lib.hid (HM3.out.but hb5)
              have HD5 := Lib.hid hd5
              have HL5 := Lib.hid hl5
              have hj7 := hj6 hlt
              clear hr5 hb5 hd5 hl5 hj6 c0 c1 c2 c3 c4 c5 f0 f1 f2
              go_wp2_with fail
              go_roundg (s.size - j2)
              case rel => exact ⟨j2, l2, b2, R, P, m, rfl, by have := HM1.out; omega, hR, by omega, Lib.hid (fun h => (HL5.out h).2), HR5, HM5, Lib.hid (PTot.skip (by have h := HTT.out; rw [HM1.out] at h; unfold PTot at h; rw [parL_skip HNE.out HNO.out] at h; exact h) HD5.out (fun h => (HL5.out h).1))⟩
              case measure => have := HK.out; omega
          · have HE := Lib.hid he
            clear he
            have HNO : Hid (endL (s.data.toList.drop b) = true ∨ (s.data.toList.drop b).head? = some 35) := Lib.hid (Or.inl HE.out)
            go_wp2_with fail
            refine (ended_no p s b l b d q _ HR.out hlt).mono ?_
            rintro e w3 ⟨rfl, hb3⟩
            have HR3 := Lib.hid (HR.out.below hb3)
            have HM3 := Lib.hid (HM.out.below hb3)
            clear hb3 c0 c1 c2 c3 c4 c5 f0 f1 f2 HR HM
            obtain ⟨⟨c0, c1, c2, c3, c4, c5⟩, f0, f1, f2⟩ := HR3.out.cells
            go_wp2_with fail
            refine (lineEnd_any p s b l b d q _ HR3.out).mono ?_
            rw [HE.out]
            rintro e w4 ⟨nn, rfl, rfl⟩
            go_wp2_with fail
            refine (skip_any p s b l b d q _ HR3.out).mono ?_
            rintro e w5 ⟨rfl, ⟨j2, l2, b2, hr5, hd5, hl5, hj5, hj6⟩, hb5⟩
            have HR5 := Lib.hid hr5
            have HM5 := Lib.hid (HM3.out.but hb5)
            have HD5 := Lib.hid hd5
            have HL5 := Lib.hid hl5
            have hj7 := hj6 hlt
            clear hr5 hb5 hd5 hl5 hj6 c0 c1 c2 c3 c4 c5 f0 f1 f2
            go_wp2_with fail
            go_roundg (s.size - j2)
            case rel => exact ⟨j2, l2, b2, R, P, m, rfl, by have := HM1.out; omega, hR, by omega, Lib.hid (fun h => (HL5.out h).2), HR5, HM5, Lib.hid (PTot.skip (by have h := HTT.out; rw [HM1.out] at h; unfold PTot at h; rw [parL_skip HNE.out HNO.out] at h; exact h) HD5.out (fun h => (HL5.out h).1))⟩
            case measure => have := HK.out; omega
        · go_wp2_with fail
          refine (ended_yes p s j l b d q _ HR.out hlt).mono ?_
          rintro e w3 ⟨rfl, hb3⟩
          have HM3 := Lib.hid (HM.out.below hb3)
          clear hb3 c0 c1 c2 c3 c4 c5 f0 f1 f2
          go_wp2
          go_ret2
          exact HM3.out.out (HTT.out.fin hlt)
end Go.Proofs.YtpiejpodaljefaaDoor
