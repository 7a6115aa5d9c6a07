import Derived.Test.YtllcoocllkaanaaDoorZ13
import Derived.Deep.RegionHeld3
import Derived.Deep.DeepCutAuto
namespace Go.Proofs.YtllcoocllkaanaaDoor
open Go.RowKit

theorem lt2 (n : Nat) : n < n + 1 + 1 := by omega
set_option maxHeartbeats 32000000 in
set_option maxRecDepth 100000 in
theorem mzone_any (p : Nat) (w : World) (hD : DiceAt w p) : Calls Tryd.prog 26 #[.pointer (some ⟨p, 0, none⟩)] w (MadeZ p w) := by
  have hp := hD.lt
  have HD := Lib.hid (hD.alloc (.cells #[.string ⟨#[]⟩, .int .i64 0, .slice none 0 0] 24))
  clear hD
  go_enter Tryd.func26, Tryd.ntmps26
  go_upto_region 1 with fail
  go_cut [3] (fun s3 wx => ZHead p w s3 wx)
  case rest =>
    obtain ⟨g, r, q, r0, r1, q0, q1, rfl, hz, hd, hb⟩ := hcut
    have hW0 : ZW w wc p g (nameAt r) (60 * (q - 2)) (.slice none 0 0) [] := ⟨hz, World.ownsRow_nil _ _ _ _, hd, hb⟩
    have hbox := hz
    have HW0 := Lib.hid hW0
    have q2 : -120 ≤ 60 * (q - 2) := by omega
    have q3 : 60 * (q - 2) ≤ 120 := by omega
    have HQ0 := Lib.hid q0
    have HQ1 := Lib.hid q1
    clear HD hz hd hb hW0 q0 q1
    generalize hS : nameAt r = S at *
    generalize hO : 60 * (q - 2) = O at *
    have HS := Lib.hid hS
    have HO := Lib.hid hO
    clear hS hO
    obtain ⟨b0, b1, b2, bf0, bf1, bf2, bne, blo, blt⟩ := hbox
    go_upto_region 2 with fail
    go_cut [4, 5] (fun s4 s5 wx => ZMid w p g S O s4 s5 wx)
    case first =>
      go_region_with (go_at_call 34; refine next_go p _ _ (by decide) (by decide) ?_ ?_; (first | exact HW0.out.dice | exact HW0.out.dice.drew); intro r2 w1 r20 r21 hd1 hb1 hl1 hs1 hn1 hn2 hn3 hc1 hf1 hz1; have hW1 := Lib.hid (HW0.out.next hp hd1 ((But.refl p wc).drew.trans hb1)); have hx1 := hW1.out.box.c1; clear hc1 hf1 hz1 hn1 hn2 hn3)
      all_goals (go_wp2_with fail; go_meet; exact zmid (by assumption) (by assumption) (by assumption))
    case rest =>
      obtain ⟨A, rfl, A0, A1, rfl, hW⟩ := hcut
      have HW := Lib.hid hW
      clear hW
      go_wp2_with (first | (go_at_call 34; refine next_go p 4 _ (by decide) (by decide) HW.out.dice ?_) | fail)
      intro j0 w2 j00 j01 hd2 hb2 hl2 hs2 hn1 hn2 hn3 hc1 hf1 hz1; clear hc1 hf1 hz1 hn1 hn2 hn3
      have HW2 := Lib.hid (HW.out.next hp hd2 hb2)
      obtain ⟨j0, rfl⟩ := Int.eq_ofNat_of_zero_le j00
      obtain ⟨i0, hi, hz0, hz1, hz2⟩ := info_parts info43
      have HI0 := Lib.hid hi; have HZ0 := Lib.hid hz0; have HZ1 := Lib.hid hz1; have HZ2 := Lib.hid hz2
      have hA1 : A + 7203 * (j0 : Int) ≤ 885609 := by omega
      clear hi hz0 hz1 hz2 HW hd2 hb2
      go_wp2_with fail
      go_loopw [4, 5, 6] (fun at_ now cnt wr => ∃ (xs : Prs) (v : Value) (B N P : Int) (j : Nat), at_ = .int .i64 B ∧ now = .int .i64 N ∧ cnt = .int .i64 j ∧ xs.length + j ≤ 3 ∧ 0 ≤ B ∧ B + 7203 * j ≤ 885609 ∧ P ≤ B ∧ -120 - 180 * (xs.length : Int) ≤ N ∧ N ≤ 120 + 180 * (xs.length : Int) ∧ Hid (ShOk O xs N P) ∧ Hid (ZW w wr p g S O v xs)) (fun _ _ cnt _ => (intOf cnt).toNat)
      case atStart => exact ⟨[], _, A, O, -2880, j0, rfl, rfl, rfl, by simp; omega, A0, hA1, by omega, by simp; omega, by simp; omega, Lib.hid (ShOk.nil O), HW2⟩
      case round =>
        obtain ⟨xs, v, B, N, P, j, rfl, rfl, rfl, hlen, B0, hB, hP, hN0, hN1, hok, HW⟩ := hrel
        have hN2 : -660 ≤ N := by omega
        have hN3 : N ≤ 660 := by omega
        have HP := Lib.hid hP; have HN0 := Lib.hid hN0; have HN1 := Lib.hid hN1
        clear hP hN0 hN1
        by_cases hj : 0 < j
        · have hN4 : -480 ≤ N := by have := HN0.out; omega
          have hN5 : N ≤ 480 := by have := HN1.out; omega
          go_wp2_with (first | (go_at_call 34; refine next_go p 4 _ (by decide) (by decide) HW.out.dice ?_) | fail)
          intro r3 w3 r30 r31 hd3 hb3 hl3 hs3 hn1 hn2 hn3 hc1 hf1 hz1; clear hc1 hf1 hz1 hn1 hn2 hn3
          have HW3 := Lib.hid (HW.out.next hp hd3 hb3)
          clear hd3 hb3
          go_wp2_with (first | (go_at_call 34; refine next_go p 6 _ (by decide) (by decide) (HW3.out.dice.alloc _) ?_) | fail)
          intro r4 w4 r40 r41 hd4 hb4 hl4 hs4 hn1 hn2 hn3 hc1 hf1 hz1; clear hc1 hf1 hz1 hn1 hn2 hn3
          have hcb := by_but hb4 rfl hl3 r40 r41
          have HW4 := Lib.hid ((HW3.out.alloc hp _).next hp hd4 hb4)
          clear hd4 hb4
          obtain ⟨d0, d1, d2⟩ := byAt_le r4
          generalize byAt r4 = D at *
          obtain ⟨c0, c1, c2, f0, f1, f2, cne, clo, clt⟩ := HW4.out.box
          have k1 : decide (840 < N + D) = false := by simp; omega
          have k2 : decide (N + D < -840) = false := by simp; omega
          go_wp2_with (at_builtin; refine wpList_append_own _ rfl _ _ 22 rfl (g + 1) 43 i0 (.agg #[.int .i64 0, .int .i64 0]) 2 16 Tryd.underlying22 HI0.out HZ0.out HZ1.out HZ2.out rfl (by decide) _ _ _ rfl (HW4.out.own.alloc _) ⟨w4.heap.size, 0, none⟩ 1 1 [.int .i64 (B + (2880 + r3 * 1441)), .int .i64 (N + D)] rfl rfl ?c1 ?c2 ?c3 ?c4 ?c5 ?_)
          case c1 =>
            intro j u hj
            rw [Go.WideShapes.add_plain, World.cell?_alloc_at _ _ _ _ rfl]
            match j, hj with
            | 0, hj => simpa using hj
            | 1, hj => simpa using hj
            | j + 2, hj => simp at hj
          case c2 => simp [Value.oneCell']
          case c3 => unfold maxLen; omega
          case c4 => omega
          case c5 => simp; omega
          intro v' w5 hown' hgrow _
          obtain ⟨gg, cap, hv⟩ := row_succ hown'
          subst hv
          obtain ⟨h5, hT5⟩ := HW4.out.grow hp hown' hgrow
          have HT5 := Lib.hid hT5
          clear hown' hgrow hT5 c0 c1 c2 f0 f1 f2 cne clt
          obtain ⟨c0, c1, c2, f0, f1, f2, cne, _, clt⟩ := h5
          have hok2 : Hid (ShOk O (xs ++ [(B + (2880 + r3 * 1441), N + D)]) (N + D) (B + (2880 + r3 * 1441))) := Lib.hid (hok.out.snoc (by have := HP.out; omega) (by omega) (by omega) (by omega) (by omega) (by omega) (by omega) (by omega))
          go_wp2_with fail
          go_roundw
          case rel =>
            refine ⟨xs ++ [(B + (2880 + r3 * 1441), N + D)], _, B + (2880 + r3 * 1441), N + D, B + (2880 + r3 * 1441), j - 1, by go_num, by go_num, by rw [show ((j - 1 : Nat) : Int) = (j : Int) - 1 by omega], ?_, by omega, by omega, by omega, ?_, ?_, hok2, HT5⟩
            · simp; omega
            · have := HN0.out; simp; omega
            · have := HN1.out; simp; omega
          case measure => simp [intOf]; omega
        · obtain rfl : j = 0 := by omega
          obtain ⟨va, vc, rfl, _⟩ := Pairs.of_owns HW.out.own
          obtain ⟨⟨d0, d1, d2⟩, g0, g1, g2⟩ := cells3_of (HW.out.base hp)
          obtain ⟨c0, c1, c2, f0, f1, f2, cne, clo, clt⟩ := HW.out.box
          go_wp2_with fail
          refine bodyPost_ret (v := .agg #[.string S, .int .i64 O, .slice va xs.length vc]) ?_ rfl (by
            have h1 := HS.out
            have h2 := HO.out
            subst h1
            subst h2
            exact zmade_fin HQ0.out HQ1.out (by omega) hp hok.out HW.out)
          have hne : w.heap.size < wr.heap.size := lt_of_heap (HW.out.base hp)
          simp [results, Tryd.results26, go_sem, d0, d1, d2]
  case first =>
    have hp2 : w.heap.size ≠ p := by omega
    have hp3 : w.heap.size + 1 ≠ p := by omega
    have hp33 : w.heap.size + 1 + 1 ≠ p := by omega
    go_region_with (go_at_call 34; refine next_go p _ _ (by decide) (by decide) ?_ ?_; (repeat (first | exact HD.out | assumption | apply DiceAt.alloc | apply DiceAt.drew)); intro r w1 r0 r1 hd1 hb1 hl1 hs1 hn1 hn2 hn3 hc1 hf1 hz1; (try simp only [World.size_alloc, World.size_drew] at hs1); (try (have hg1 := nameAt_el r r0 r1)); (try have hq1 : w.heap.size + 1 < w1.heap.size := hz1 _ (by first | assumption | (simp only [World.size_alloc, World.size_drew]; first | assumption | exact Nat.lt_succ_of_lt (by assumption) | exact Nat.lt_succ_of_lt (Nat.lt_succ_of_lt (by assumption)) | exact Nat.lt_succ_self _ | exact Nat.lt_succ_of_lt (Nat.lt_succ_self _)))); (try have hq2 : w.heap.size + 1 + 1 < w1.heap.size := hz1 _ (by first | assumption | (simp only [World.size_alloc, World.size_drew]; first | assumption | exact Nat.lt_succ_of_lt (by assumption) | exact Nat.lt_succ_of_lt (Nat.lt_succ_of_lt (by assumption)) | exact Nat.lt_succ_self _ | exact Nat.lt_succ_of_lt (Nat.lt_succ_self _)))); (try have hx1 : ∀ o, w1.cell? ⟨w.heap.size + 1, o, none⟩ = _ := fun o => hc1 _ o (by first | assumption | (simp only [World.size_alloc, World.size_drew]; first | assumption | exact Nat.lt_succ_of_lt (by assumption) | exact Nat.lt_succ_of_lt (Nat.lt_succ_of_lt (by assumption)) | exact Nat.lt_succ_self _ | exact Nat.lt_succ_of_lt (Nat.lt_succ_self _))) (by assumption)); (try have hx2 : ∀ o, w1.cell? ⟨w.heap.size + 1 + 1, o, none⟩ = _ := fun o => hc1 _ o (by first | assumption | (simp only [World.size_alloc, World.size_drew]; first | assumption | exact Nat.lt_succ_of_lt (by assumption) | exact Nat.lt_succ_of_lt (Nat.lt_succ_of_lt (by assumption)) | exact Nat.lt_succ_self _ | exact Nat.lt_succ_of_lt (Nat.lt_succ_self _))) (by assumption)); (try have hy1 : ∀ o, w1.frozen? ⟨w.heap.size + 1, o, none⟩ = _ := fun o => hf1 _ o (by first | assumption | (simp only [World.size_alloc, World.size_drew]; first | assumption | exact Nat.lt_succ_of_lt (by assumption) | exact Nat.lt_succ_of_lt (Nat.lt_succ_of_lt (by assumption)) | exact Nat.lt_succ_self _ | exact Nat.lt_succ_of_lt (Nat.lt_succ_self _))) (by assumption)); (try have hy2 : ∀ o, w1.frozen? ⟨w.heap.size + 1 + 1, o, none⟩ = _ := fun o => hf1 _ o (by first | assumption | (simp only [World.size_alloc, World.size_drew]; first | assumption | exact Nat.lt_succ_of_lt (by assumption) | exact Nat.lt_succ_of_lt (Nat.lt_succ_of_lt (by assumption)) | exact Nat.lt_succ_self _ | exact Nat.lt_succ_of_lt (Nat.lt_succ_self _))) (by assumption)))
    all_goals (
      go_wp2_with fail
      go_meet
      refine zfin (by assumption) (by assumption) (by assumption) (by assumption) ?hz ?hd ?hb
      case hd => repeat (first | assumption | apply DiceAt.alloc | apply DiceAt.drew | apply DiceAt.setNe | omega)
      case hb => repeat (first | assumption | exact But.refl _ _ | apply But.alloc | apply But.drew | refine But.setNew ?_ (by simp only [World.size_alloc]; omega) _ | refine But.trans ?_ (by assumption))
      case hz =>
        constructor
        · first | (go_simp; done) | (simp [*]; done) | (have hq := fun b o (h : b < _) => hc1 b o h; simp only [World.size_alloc] at hq; simp [hq, lt2, *]; done) | (simp [lt2, World.cell?_setCell_same', World.cell?_setCell_other, *]; done)
        · first | (go_simp; done) | (simp [*]; done) | (have hq := fun b o (h : b < _) => hc1 b o h; simp only [World.size_alloc] at hq; simp [hq, lt2, *]; done) | (simp [lt2, World.cell?_setCell_same', World.cell?_setCell_other, *]; done)
        · first | (go_simp; done) | (simp [*]; done) | (have hq := fun b o (h : b < _) => hc1 b o h; simp only [World.size_alloc] at hq; simp [hq, lt2, *]; done) | (simp [lt2, World.cell?_setCell_same', World.cell?_setCell_other, *]; done)
        · first | (go_simp; done) | (simp [*]; done) | (have hq := fun b o (h : b < _) => hc1 b o h; simp only [World.size_alloc] at hq; simp [hq, lt2, *]; done) | (have hq := fun b o (h : b < _) => hc1 b o h; simp only [World.size_alloc] at hq; simp [hq, lt2, World.cell?_setCell_same', World.cell?_setCell_other, hn1, *]; done)
        · first | (go_simp; done) | (simp [*]; done) | (have hq := fun b o (h : b < _) => hc1 b o h; simp only [World.size_alloc] at hq; simp [hq, lt2, *]; done) | (have hq := fun b o (h : b < _) => hc1 b o h; simp only [World.size_alloc] at hq; simp [hq, lt2, World.cell?_setCell_same', World.cell?_setCell_other, hn1, *]; done)
        · first | (go_simp; done) | (simp [*]; done) | (have hq := fun b o (h : b < _) => hc1 b o h; simp only [World.size_alloc] at hq; simp [hq, lt2, *]; done) | (have hq := fun b o (h : b < _) => hc1 b o h; simp only [World.size_alloc] at hq; simp [hq, lt2, World.cell?_setCell_same', World.cell?_setCell_other, hn1, *]; done)
        · first | assumption | omega
        · omega
        · simp only [World.size_alloc, World.size_setCell]; omega)

end Go.Proofs.YtllcoocllkaanaaDoor
