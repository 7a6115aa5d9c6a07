import Derived.Test.YtpiejpodaljefaaDoorR5
namespace Go.Proofs.YtpiejpodaljefaaDoor
open Go.RowKit

set_option maxRecDepth 100000 in
set_option maxHeartbeats 4000000 in
theorem quoted_any (p f : Nat) (s : ByteArray) (i l b : Nat) (d q : UInt8) (w : World) (hR : RdAt w p s i l b d q) (hF : FAt w f [] (i - b + 1) false) (hne : p ≠ f) (hi : i < s.size) (hq : ((s[i].toNat : Int) == (q.toNat : Int)) = true) (hq10 : (q == 10) = false) :
    Calls Tryd.prog 56 #[.pointer (some ⟨p, 0, none⟩), .pointer (some ⟨f, 0, none⟩)] w (FieldOut p f s i d q (fieldL d q ⟨s.data.toList.drop i, l, i - b + 1⟩) w) := by
  have HR := Lib.hid hR
  have HF := Lib.hid hF
  have h10 : ((s[i].toNat : Int) == 10) = false := by
    rw [feed_iff s i hi]
    rw [beq_cast2] at hq
    rw [show s[i] = q by simpa using hq]; exact hq10
  obtain ⟨i0, hii, hz0, hz1, hz2⟩ := info_parts infoB
  have HI0 := Lib.hid hii; have HZ0 := Lib.hid hz0; have HZ1 := Lib.hid hz1; have HZ2 := Lib.hid hz2
  have pb := lt_of_heap hR.1
  have fb := lt_of_heap hF
  clear hR hF hii hz0 hz1 hz2
  go_enter Tryd.func56, Tryd.ntmps56
  go_wp2_with fail
  refine (problem_any 8 p s i l b d q _ HR.out).mono ?_
  rintro e w1 ⟨g, rfl, hP, hg, hb1⟩
  have HP := Lib.hid hP
  have HF1 := Lib.hid (HF.out.below hb1)
  have HB1 := Lib.hid hb1
  obtain ⟨⟨k0, k1, k2⟩, m0, m1, m2⟩ := HF1.out.cells
  have pb1 := hb1.size
  clear hP hb1
  go_wp2_with fail
  refine (next_else p s i l b d q _ ((HR.out.below HB1.out).but (But.setCell _ _ _ _) hne) hi h10).mono ?_
  rintro e w2 ⟨rfl, hr2, hb2⟩
  have HQ0 : Hid (QW p f s i l b g d q w (i + 1) l b [] (.slice none 0 0) w2) := Lib.hid ⟨hr2, (HF1.out.set2 true).but hb2 (Ne.symm hne), (HP.out.but (But.setCell w1 f 2 (.bool true)) (by omega)).but hb2 (by omega), World.ownsRow_nil _ _ _ _, ((But2.below HB1.out).trans (.of2 (But.setCell _ _ _ _))).trans (.of hb2), pb, fb, hne, hg, by omega, by simp⟩
  have HBI := Lib.hid HR.out.2.2.2.1
  clear hr2 hb2 k0 k1 k2 m0 m1 m2
  go_wp2
  go_loopg [6] (s.size - (i + 1)) (fun k v wr => ∃ j l' b' o, k = s.size - j ∧ Hid (QW p f s i l b g d q w j l' b' o v wr) ∧ Hid (QTot q s i l b j l' b' o))
  case atStart => exact ⟨i + 1, l, b, [], rfl, HQ0, Lib.hid (by unfold QTot; rw [show i + 1 - b + 1 = i - b + 1 + 1 by have := HBI.out; omega])⟩
  case round =>
    obtain ⟨j, l', b', o, hk, HW, HT⟩ := hrel
    have OL : Hid ((o ++ [0]).length ≤ j + 1) := Lib.hid (by have := HW.out.ol; simp; omega)
    have HK := Lib.hid hk
    clear hk HQ0 HF1 HP HB1
    by_cases hlt : j < s.size
    · go_wp2_with fail
      refine (ended_no p s j l' b' d q _ HW.out.rd hlt).mono ?_
      rintro e w3 ⟨rfl, hb3⟩
      have HW3 := Lib.hid (HW.out.below hb3)
      obtain ⟨⟨c0, c1, c2, c3, c4, c5⟩, f0, f1, f2⟩ := HW3.out.rd.cells
      have hs := HW3.out.rd.2.1
      have hbj := HW3.out.rd.2.2.2.1
      clear hb3 HW
      go_wp2_with fail
      go_quiet (fail)
      go_wp2_with fail
      cases hc : ((s[j].toNat : Int) == (q.toNat : Int))
      · cases hf : ((s[j].toNat : Int) == 10)
        · refine (next_else p s j l' b' d q _ (HW3.out.rd.below (below_drewN _ _)) hlt hf).mono ?_
          rintro e w4 ⟨rfl, hr4, hb4⟩
          have HW4 := Lib.hid ((HW3.out.below (below_drewN _ _)).moved hb4 hr4 (by omega))
          clear hr4 hb4 c0 c1 c2 c3 c4 c5 f0 f1 f2 HW3
          obtain ⟨⟨c0, c1, c2, c3, c4, c5⟩, f0, f1, f2⟩ := HW4.out.rd.cells
          have HT4 := Lib.hid (HT.out.els hlt hbj hc hf)
          go_wp2_with (at_builtin; refine wpList_append_own _ rfl _ _ 61 rfl w.heap.size 5 i0 (.int .u8 0) 1 1 Tryd.underlying61 HI0.out HZ0.out HZ1.out HZ2.out rfl (by decide) _ _ _ rfl (HW4.out.row.alloc _) ⟨_, 0, none⟩ 1 1 [.int .u8 s[j].toNat] rfl rfl ?a1 ?a2 ?a3 ?a4 ?a5 ?_)
          case a1 => exact cell_one_new _ _ _
          case a2 => simp [Value.oneCell']
          case a3 => have := HW4.out.ol; unfold maxLen; omega
          case a4 => have := HW4.out.ol; omega
          case a5 => have := HW4.out.but.size; simp; omega
          intro v' w5 hown hgr _
          have HE := Lib.hid ((HW4.out.below ((Below.refl _ _).alloc (Nat.le_refl _) _)).grown (o2 := o ++ [s[j]]) hgr (by rw [List.length_append, Lib.byteCells_append]; exact hown) (by have := OL.out; simp at this ⊢; omega))
          clear hown hgr
          go_wp2
          go_roundg (s.size - (j + 1))
          case rel => exact ⟨j + 1, l', b', o ++ [s[j]], rfl, HE, HT4⟩
          case measure => have := HK.out; omega
        · refine (next_feed p s j l' b' d q _ (HW3.out.rd.below (below_drewN _ _)) hlt hf).mono ?_
          rintro e w4 ⟨rfl, hr4, hb4⟩
          have HW4 := Lib.hid ((HW3.out.below (below_drewN _ _)).moved hb4 hr4 (by omega))
          clear hr4 hb4 c0 c1 c2 c3 c4 c5 f0 f1 f2 HW3
          obtain ⟨⟨c0, c1, c2, c3, c4, c5⟩, f0, f1, f2⟩ := HW4.out.rd.cells
          have HT4 := Lib.hid (HT.out.feed hlt hc hf)
          go_wp2_with (at_builtin; refine wpList_append_own _ rfl _ _ 61 rfl w.heap.size 5 i0 (.int .u8 0) 1 1 Tryd.underlying61 HI0.out HZ0.out HZ1.out HZ2.out rfl (by decide) _ _ _ rfl (HW4.out.row.alloc _) ⟨_, 0, none⟩ 1 1 [.int .u8 s[j].toNat] rfl rfl ?b1 ?b2 ?b3 ?b4 ?b5 ?_)
          case b1 => exact cell_one_new _ _ _
          case b2 => simp [Value.oneCell']
          case b3 => have := HW4.out.ol; unfold maxLen; omega
          case b4 => have := HW4.out.ol; omega
          case b5 => have := HW4.out.but.size; simp; omega
          intro v' w5 hown hgr _
          have HE := Lib.hid ((HW4.out.below ((Below.refl _ _).alloc (Nat.le_refl _) _)).grown (o2 := o ++ [s[j]]) hgr (by rw [List.length_append, Lib.byteCells_append]; exact hown) (by have := OL.out; simp at this ⊢; omega))
          clear hown hgr
          go_wp2
          go_roundg (s.size - (j + 1))
          case rel => exact ⟨j + 1, l' + 1, j + 1, o ++ [s[j]], rfl, HE, HT4⟩
          case measure => have := HK.out; omega
      · have hf : ((s[j].toNat : Int) == 10) = false := by
          rw [feed_iff s j hlt]
          have hc' := hc
          rw [beq_cast2] at hc'
          rw [show s[j] = q by simpa using hc']; exact hq10
        refine (next_else p s j l' b' d q _ (HW3.out.rd.below (below_drewN _ _)) hlt hf).mono ?_
        rintro e w4 ⟨rfl, hr4, hb4⟩
        obtain ⟨j1, ej1⟩ : ∃ j1, j1 = j + 1 := ⟨_, rfl⟩
        have HW4 : Hid (QW p f s i l b g d q w j1 l' b' o _ w4) := Lib.hid (by rw [ej1]; exact (HW3.out.below (below_drewN _ _)).moved hb4 hr4 (by omega))
        have EJ := Lib.hid ej1
        clear hr4 hb4 c0 c1 c2 c3 c4 c5 f0 f1 f2 HW3 hf ej1
        obtain ⟨⟨c0, c1, c2, c3, c4, c5⟩, f0, f1, f2⟩ := HW4.out.rd.cells
        have hcv : ∀ n, (convert 61 9 u6).run Tryd.prog (w4.drewN n) = .ok (.string (arr o)) (w4.drewN n) := fun n => own_string (row_below HW4.out.row (below_drewN _ _))
        obtain ⟨⟨k0, k1, k2⟩, m0, m1, m2⟩ := HW4.out.fa.cells
        have hbj1 := HW4.out.rd.2.2.2.1
        by_cases hlt2 : j1 < s.size
        · cases hc2 : ((s[j1].toNat : Int) == (q.toNat : Int))
          · have HZ := HT.out.done hlt hbj hc (by rw [← EJ.out, drop_at s j1 hlt2]; have hc3 := hc2; rw [beq_cast2] at hc3; simpa using hc3)
            rw [← EJ.out] at HZ
            have HZ := Lib.hid HZ
            cases he : endL (s.data.toList.drop j1)
            · have HE := Lib.hid he
              clear he
              cases hd : ((s[j1].toNat : Int) == (d.toNat : Int))
              · go_wp2_with fail
                go_quiet ((go_at_call 39; exact quiet_q (ended_qno p s j1 l' b' d q _ (HW4.out.rd.below (below_drewN _ _)) hlt2)))
                go_wp2_with fail
                refine (lineEnd_any p s j1 l' b' d q _ ((HW4.out.rd.below (below_drewN _ _)).but (But.setCell _ _ _ _) hne)).mono ?_
                rw [HE.out]
                rintro e w5 ⟨n, rfl, rfl⟩
                go_wp2_with fail
                go_quiet (fail)
                go_wp2_with fail
                refine (problem_any 8 p s j1 l' b' d q _ (((HW4.out.rd.below (below_drewN _ _)).but (But.setCell _ _ _ _) hne).below (below_drewN _ _))).mono ?_
                intro e w6 hn
                have HN := Lib.hid hn
                obtain ⟨g', rfl, _, _⟩ := hn
                go_wp2
                go_ret
                exact quot_ill hi hq (HW4.out.below (below_drewN _ _)) HZ.out (by rw [HE.out, drop_at s j1 hlt2]; rw [beq_cast2] at hd; simpa using hd) (below_drewN _ _) HN.out
              · go_wp2_with fail
                go_quiet ((go_at_call 39; exact quiet_q (ended_qno p s j1 l' b' d q _ (HW4.out.rd.below (below_drewN _ _)) hlt2)))
                go_wp2_with fail
                refine (lineEnd_any p s j1 l' b' d q _ ((HW4.out.rd.below (below_drewN _ _)).but (But.setCell _ _ _ _) hne)).mono ?_
                rw [HE.out]
                rintro e w5 ⟨n, rfl, rfl⟩
                go_wp2_with fail
                go_quiet (fail)
                go_wp2_with fail
                go_ret
                exact quot_well hi hq (HW4.out.below (below_drewN _ _)) HZ.out (Or.inr (by rw [drop_at s j1 hlt2]; rw [beq_cast2] at hd; simpa using hd)) (below_drewN _ _)
            · have HE := Lib.hid he
              clear he
              go_wp2_with fail
              go_quiet ((go_at_call 39; exact quiet_q (ended_qno p s j1 l' b' d q _ (HW4.out.rd.below (below_drewN _ _)) hlt2)))
              go_wp2_with fail
              refine (lineEnd_any p s j1 l' b' d q _ ((HW4.out.rd.below (below_drewN _ _)).but (But.setCell _ _ _ _) hne)).mono ?_
              rw [HE.out]
              rintro e w5 ⟨n, rfl, rfl⟩
              go_wp2_with fail
              go_quiet (fail)
              go_wp2_with fail
              go_ret
              exact quot_well hi hq (HW4.out.below (below_drewN _ _)) HZ.out (Or.inl HE.out) (below_drewN _ _)
          · have hf1 : ((s[j1].toNat : Int) == 10) = false := by
              rw [feed_iff s j1 hlt2]
              have hc' := hc2
              rw [beq_cast2] at hc'
              rw [show s[j1] = q by simpa using hc']; exact hq10
            have HT4 := Lib.hid (HT.out.dbl (by rw [← EJ.out]; exact hlt2) hbj hc (by simp only [← EJ.out]; exact hc2))
            go_wp2_with fail
            go_quiet ((go_at_call 39; exact quiet_q (ended_qno p s j1 l' b' d q _ (HW4.out.rd.below (below_drewN _ _)) hlt2)))
            go_wp2_with fail
            refine (next_else p s j1 l' b' d q _ (HW4.out.rd.below (below_drewN _ _)) hlt2 hf1).mono ?_
            rintro e w6 ⟨rfl, hr6, hb6⟩
            have HW6 : Hid (QW p f s i l b g d q w (j + 2) l' b' o _ w6) := Lib.hid (by rw [show j + 2 = j1 + 1 by have := EJ.out; omega]; exact (HW4.out.below (below_drewN _ _)).moved hb6 hr6 (by omega))
            clear hr6 hb6 c0 c1 c2 c3 c4 c5 f0 f1 f2 hcv k0 k1 k2 m0 m1 m2
            go_wp2_with (at_builtin; refine wpList_append_own _ rfl _ _ 61 rfl w.heap.size 5 i0 (.int .u8 0) 1 1 Tryd.underlying61 HI0.out HZ0.out HZ1.out HZ2.out rfl (by decide) _ _ _ rfl (HW6.out.row.alloc _) ⟨_, 0, none⟩ 1 1 [.int .u8 s[j].toNat] rfl rfl ?c1 ?c2 ?c3 ?c4 ?c5 ?_)
            case c1 => exact cell_one_new _ _ _
            case c2 => simp [Value.oneCell']
            case c3 => have := HW6.out.ol; unfold maxLen; omega
            case c4 => have := HW6.out.ol; omega
            case c5 => have := HW6.out.but.size; simp; omega
            intro v' w5 hown hgr _
            have HE := Lib.hid ((HW6.out.below ((Below.refl _ _).alloc (Nat.le_refl _) _)).grown (o2 := o ++ [s[j]]) hgr (by rw [List.length_append, Lib.byteCells_append]; exact hown) (by have h1 := OL.out; simp at h1 ⊢; omega))
            clear hown hgr
            go_wp2
            go_roundg (s.size - (j + 2))
            case rel => exact ⟨j + 2, l', b', o ++ [s[j]], rfl, HE, HT4⟩
            case measure => have := HK.out; have := EJ.out; omega
        · have HZ := HT.out.done hlt hbj hc (by rw [← EJ.out, drop_end s j1 (by omega)]; simp)
          rw [← EJ.out] at HZ
          have HZ := Lib.hid HZ
          have HE : Hid (endL (s.data.toList.drop j1) = true) := Lib.hid (by rw [drop_end s j1 (by omega)]; rfl)
          go_wp2_with fail
          go_quiet ((go_at_call 39; exact quiet_q (ended_qyes p s j1 l' b' d q _ (HW4.out.rd.below (below_drewN _ _)) hlt2)))
          go_wp2_with fail
          refine (lineEnd_any p s j1 l' b' d q _ ((HW4.out.rd.below (below_drewN _ _)).but (But.setCell _ _ _ _) hne)).mono ?_
          rw [HE.out]
          rintro e w5 ⟨n, rfl, rfl⟩
          go_wp2_with fail
          go_quiet (fail)
          go_wp2_with fail
          go_ret
          exact quot_well hi hq (HW4.out.below (below_drewN _ _)) HZ.out (Or.inl HE.out) (below_drewN _ _)
    · go_wp2_with fail
      refine (ended_yes p s j l' b' d q _ HW.out.rd hlt).mono ?_
      rintro e w3 ⟨rfl, hb3⟩
      have HB3 := Lib.hid hb3
      clear hb3
      go_wp2
      go_ret
      exact quot_unclosed hi hq HW.out HT.out hlt HB3.out
end Go.Proofs.YtpiejpodaljefaaDoor
