import Derived.Test.YtpiejpodaljefaaDoorS5
namespace Go.Proofs.YtpiejpodaljefaaDoor
open Go.RowKit

set_option maxRecDepth 100000 in
set_option maxHeartbeats 8000000 in
theorem rfield_quot (p : Nat) (s : ByteArray) (i l b : Nat) (d q : UInt8) (w : World) (hR : RrAt w p s i l b) (hlt : i < s.size) (hq : ((s[i].toNat : Int) == (q.toNat : Int)) = true) (hq10 : (q == 10) = false) :
    Calls Tryd.prog 59 #[.pointer (some ⟨p, 0, none⟩), .agg #[.int .u8 d.toNat, .int .u8 q.toNat]] w (RFieldOut p s i (fieldL d q ⟨s.data.toList.drop i, l, i - b + 1⟩) w) := by
  have HR := Lib.hid hR
  have FS := Lib.hid (fun m => FW.start (m := m) (d := d) (q := q) hR)
  obtain ⟨i0, hii, hz0, hz1, hz2⟩ := info_parts infoB
  have HI0 := Lib.hid hii; have HZ0 := Lib.hid hz0; have HZ1 := Lib.hid hz1; have HZ2 := Lib.hid hz2
  clear hR hii hz0 hz1 hz2
  go_enter Tryd.func59, Tryd.ntmps59
  go_wp2_with fail
  refine (rcolumn_q p s i l b _ (HR.out.below ?_)).mono ?_
  · exact (((Below.refl _ _).alloc (Nat.le_refl _) _).alloc (by simp) _).alloc (by simp; omega) _
  rintro e w1 ⟨rfl, m, rfl⟩
  go_wp2_with fail
  have HW0 := Lib.hid (FS.out m)
  have hz : (((((w.alloc (.cells #[.int .u8 d.toNat, .int .u8 q.toNat] 23)).alloc (.cells #[.string ⟨#[]⟩, .int .i64 0, .bool false] 50)).alloc (.cells #[.int .i64 0, .int .i64 0, .int .i64 0, .int .i64 0] 77)).drewN m).alloc (.cells #[.string ⟨#[]⟩, .int .i64 ((i : Int) - (b : Int) + 1), .bool false] 50)).heap.size = w.heap.size + 1 + 1 + 1 + 1 := by simp
  clear FS
  generalize (((((w.alloc (.cells #[.int .u8 d.toNat, .int .u8 q.toNat] 23)).alloc (.cells #[.string ⟨#[]⟩, .int .i64 0, .bool false] 50)).alloc (.cells #[.int .i64 0, .int .i64 0, .int .i64 0, .int .i64 0] 77)).drewN m).alloc (.cells #[.string ⟨#[]⟩, .int .i64 ((i : Int) - (b : Int) + 1), .bool false] 50)) = w0 at *
  obtain ⟨⟨c0, c1, c2, c3⟩, f1, f2, f3⟩ := HW0.out.rd.cells
  obtain ⟨d0, d1⟩ := cells2_of HW0.out.dx
  obtain ⟨⟨k0, k1, k2⟩, m0, m1, m2⟩ := HW0.out.ff.cells
  have hs := HR.out.2.1
  have hi := HR.out.2.2.1
  have hb := HR.out.2.2.2.1
  have HBI := Lib.hid hb
  have pb := HW0.out.pb
  have p0 : p ≠ w.heap.size := by omega
  have p1 : p ≠ w.heap.size + 1 := by omega
  have p2 : p ≠ w.heap.size + 1 + 1 := by omega
  have p3 : p ≠ w.heap.size + 1 + 1 + 1 := by omega
  have hlt' : decide (i < s.size) = true := by simpa using hlt
  have HZ := Lib.hid hz
  clear hz
  go_quiet (fail)
  rename_i nq
  go_wp2_with fail
  have HF1 := Lib.hid ((HW0.out.below (below_drewN w0 nq)).field (But.setCell _ (w.heap.size + 1 + 1 + 1) 2 (.bool true)) ((HW0.out.ff.below (below_drewN w0 nq)).set2 true))
  have HZ1' : Hid (((w0.drewN nq).setCell ⟨w.heap.size + 1 + 1 + 1, 2, none⟩ (.bool true)).heap.size = w.heap.size + 1 + 1 + 1 + 1) := Lib.hid (by rw [← HZ.out]; simp)
  clear c0 c1 c2 c3 f1 f2 f3 d0 d1 k0 k1 k2 m0 m1 m2 HW0 HZ
  generalize (w0.drewN nq).setCell ⟨w.heap.size + 1 + 1 + 1, 2, none⟩ (.bool true) = w1 at *
  obtain ⟨⟨c0, c1, c2, c3⟩, f1, f2, f3⟩ := HF1.out.rd.cells
  obtain ⟨⟨k0, k1, k2⟩, m0, m1, m2⟩ := HF1.out.ff.cells
  have hz := HZ1'.out
  have pl := lt_of_heap HF1.out.rd.1
  go_region_held3 (fun w' => w'.cell? ⟨p, 2, none⟩ = some (.int .i64 l) ∧ w'.cell? ⟨w.heap.size + 1 + 1 + 1, 1, none⟩ = some (.int .i64 (i - b + 1 : Nat))) (go_keep) (fail)
  have HG : Hid (GW p s i l (i - b + 1) d q w i l b [] (.slice none 0 0) (w1.alloc (.cells #[.int .i64 0, .int .i64 l, .int .i64 (((i - b : Nat) : Int) + 1), .int .i64 8] 77)).drew) := Lib.hid ((GW.start HF1.out HZ1'.out).below (bel_drew (Below.refl _ _)))
  clear c0 c1 c2 c3 f1 f2 f3 k0 k1 k2 m0 m1 m2 HF1 HZ1' hz pl
  generalize (w1.alloc (.cells #[.int .i64 0, .int .i64 l, .int .i64 (((i - b : Nat) : Int) + 1), .int .i64 8] 77)).drew = w2 at *
  obtain ⟨⟨c0, c1, c2, c3⟩, f1, f2, f3⟩ := HG.out.fw.rd.cells
  go_wp2_with fail
  have HG2 : Hid (GW p s i l (i - b + 1) d q w (i + 1) l b [] (.slice none 0 0) (w2.setCell ⟨p, 1, none⟩ (.int .i64 (i + 1 : Nat)))) := Lib.hid (HG.out.moved (But.setCell _ _ _ _) (HG.out.fw.rd.set1 (i + 1) (by omega) (by omega)) (by omega))
  clear c0 c1 c2 c3 f1 f2 f3 HG
  go_loopg [9] (s.size - (i + 1)) (fun k v wr => ∃ j l' b' o, k = s.size - j ∧ o.length ≤ j ∧ Hid (GW p s i l (i - b + 1) d q w j l' b' o v wr) ∧ Hid (QTot q s i l b j l' b' o))
  case atStart => exact ⟨i + 1, l, b, [], rfl, by simp, HG2, Lib.hid (by unfold QTot; rw [show i + 1 - b + 1 = i - b + 1 + 1 by have := HBI.out; omega])⟩
  case round =>
    obtain ⟨j, l', b', o, hk, hol, HW, HT⟩ := hrel
    have HK := Lib.hid hk
    clear hk HG2
    have OL := Lib.hid hol
    clear hol
    have hbj := HW.out.fw.rd.2.2.2.1
    have hij := HW.out.fw.ij
    have hjs := HW.out.fw.rd.2.2.1
    have hlj := HW.out.fw.rd.2.2.2.2
    obtain ⟨⟨c0, c1, c2, c3⟩, f1, f2, f3⟩ := HW.out.fw.rd.cells
    obtain ⟨d0, d1⟩ := cells2_of HW.out.fw.dx
    obtain ⟨⟨r0, r1, r2⟩, x0, x1, x2⟩ := cells3_of HW.out.fw.rf
    obtain ⟨⟨q0, q1, q2, q3⟩, y0, y1, y2, y3⟩ := cells4_of HW.out.fw.rp
    obtain ⟨⟨k0, k1, k2⟩, m0, m1, m2⟩ := HW.out.fw.ff.cells
    obtain ⟨⟨z0, z1, z2, z3⟩, _, _, _, _⟩ := cells4_of HW.out.pr
    by_cases hlt2 : j < s.size
    · have hne : ((j : Int) == (s.size : Int)) = false := by simp; omega
      cases hc : ((s[j].toNat : Int) == (q.toNat : Int))
      · cases hf : ((s[j].toNat : Int) == 10)
        · go_wp2_with fail
          go_quiet (fail)
          go_wp2_with fail
          go_quiet (fail)
          have HW4 : ∀ n, Hid (GW p s i l (i - b + 1) d q w j l' b' o u9 (wr.drewN n)) := fun n => Lib.hid (HW.out.below (below_drewN wr n))
          have HT4 := Lib.hid (HT.out.els hlt2 hbj hc hf)
          go_wp2_with (at_builtin; refine wpList_append_own _ rfl _ _ 61 rfl (w.heap.size + 1 + 1 + 1 + 1 + 1) 5 i0 (.int .u8 0) 1 1 Tryd.underlying61 HI0.out HZ0.out HZ1.out HZ2.out rfl (by decide) _ _ _ rfl ((HW4 _).out.row.alloc _) ⟨_, 0, none⟩ 1 1 [.int .u8 s[j].toNat] rfl rfl ?a1 ?a2 ?a3 ?a4 ?a5 ?_)
          case a1 => exact cell_one_new _ _ _
          case a2 => simp [Value.oneCell']
          case a3 => have := OL.out; unfold maxLen; omega
          case a4 => have := OL.out; omega
          case a5 => have := lt_of_heap HW.out.pr; simp; omega
          intro v' w5 hown hgr _
          have HE := Lib.hid (((HW4 _).out.below ((Below.refl _ _).alloc (Nat.le_refl _) _)).grown (o2 := o ++ [s[j]]) hgr (by rw [List.length_append, Lib.byteCells_append]; exact hown))
          clear hown hgr c0 c1 c2 c3 f1 f2 f3 d0 d1 k0 k1 k2 m0 m1 m2 r0 r1 r2 x0 x1 x2 q0 q1 q2 q3 y0 y1 y2 y3 z0 z1 z2 z3
          obtain ⟨⟨c0, c1, c2, c3⟩, f1, f2, f3⟩ := HE.out.fw.rd.cells
          go_wp2_with fail
          go_roundg (s.size - (j + 1))
          case rel => exact ⟨j + 1, l', b', o ++ [s[j]], rfl, by have := OL.out; simp; omega, Lib.hid (HE.out.moved (But.setCell _ _ _ _) (HE.out.fw.rd.set1 (j + 1) (by omega) (by omega)) (by omega)), HT4⟩
          case measure => have := HK.out; omega
        · go_wp2_with fail
          go_quiet (fail)
          go_wp2_with fail
          go_quiet (fail)
          have HW4 : ∀ n, Hid (GW p s i l (i - b + 1) d q w j l' b' o u9 (wr.drewN n)) := fun n => Lib.hid (HW.out.below (below_drewN wr n))
          have HT4 := Lib.hid (HT.out.feed hlt2 hc hf)
          go_wp2_with (at_builtin; refine wpList_append_own _ rfl _ _ 61 rfl (w.heap.size + 1 + 1 + 1 + 1 + 1) 5 i0 (.int .u8 0) 1 1 Tryd.underlying61 HI0.out HZ0.out HZ1.out HZ2.out rfl (by decide) _ _ _ rfl ((HW4 _).out.row.alloc _) ⟨_, 0, none⟩ 1 1 [.int .u8 s[j].toNat] rfl rfl ?b1 ?b2 ?b3 ?b4 ?b5 ?_)
          case b1 => exact cell_one_new _ _ _
          case b2 => simp [Value.oneCell']
          case b3 => have := OL.out; unfold maxLen; omega
          case b4 => have := OL.out; omega
          case b5 => have := lt_of_heap HW.out.pr; simp; omega
          intro v' w5 hown hgr _
          have HE := Lib.hid (((HW4 _).out.below ((Below.refl _ _).alloc (Nat.le_refl _) _)).grown (o2 := o ++ [s[j]]) hgr (by rw [List.length_append, Lib.byteCells_append]; exact hown))
          clear hown hgr c0 c1 c2 c3 f1 f2 f3 d0 d1 k0 k1 k2 m0 m1 m2 r0 r1 r2 x0 x1 x2 q0 q1 q2 q3 y0 y1 y2 y3 z0 z1 z2 z3
          obtain ⟨⟨c0, c1, c2, c3⟩, f1, f2, f3⟩ := HE.out.fw.rd.cells
          go_wp2_with fail
          go_region
          go_wp2_with fail
          go_roundg (s.size - (j + 1))
          case rel => exact ⟨j + 1, l' + 1, j + 1, o ++ [s[j]], rfl, by have := OL.out; simp; omega, Lib.hid ((HE.out.moved (((But.setCell w5 p 2 (.int .i64 (l' + 1 : Nat))).trans (But.setCell _ p 3 (.int .i64 (j + 1 : Nat)))).trans (But.setCell _ p 1 (.int .i64 (j + 1 : Nat)))) (HE.out.fw.rd.set23 hlt2) (by omega)).below (bel_drew (Below.refl _ _))), HT4⟩
          case measure => have := HK.out; omega
      · have hf : ((s[j].toNat : Int) == 10) = false := by
          rw [feed_iff s j hlt2]
          have hc' := hc
          rw [beq_cast2] at hc'
          rw [show s[j] = q by simpa using hc']; exact hq10
        have t1 : IntKind.i64.wrap ((j : Int) + 1) = (j : Int) + 1 := IntWalk.i64_in _ (by omega)
        have t2 : (0 : Int) ≤ (j : Int) + 1 := by omega
        have t3 : ((j : Int) + 1).toNat = j + 1 := by omega
        by_cases hlt3 : j + 1 < s.size
        · have t4 : (j : Int) + 1 < (s.size : Int) := by omega
          have t5 : decide ((j : Int) + 1 < (s.size : Int)) = true := by simpa using t4
          cases hc2 : ((s[j + 1].toNat : Int) == (q.toNat : Int))
          · have HZ := Lib.hid (HT.out.done hlt2 hbj hc (by rw [drop_at s (j + 1) hlt3]; have hc3 := hc2; rw [beq_cast2] at hc3; simpa using hc3))
            cases he : endL (s.data.toList.drop (j + 1))
            · have HEN := Lib.hid he
              clear he
              cases hd : ((s[j + 1].toNat : Int) == (d.toNat : Int))
              · have hdn : ((s[j + 1].toNat : Int) != (d.toNat : Int)) = true := by simp [bne, hd]
                go_wp2_with fail
                go_quiet (fail)
                go_wp2_with fail
                go_quiet (fail)
                go_wp2_with fail
                go_quiet (fail)
                have hcv : ∀ n v, (convert 61 9 u9).run Tryd.prog ((wr.drewN n).setCell ⟨p, 1, none⟩ v) = .ok (.string (arr o)) ((wr.drewN n).setCell ⟨p, 1, none⟩ v) := fun n v => own_string (row_but (row_below HW.out.row (below_drewN _ _)) (But.setCell _ _ _ _) (by omega))
                go_upto_region 19 with fail
                have HX : ∀ n, Hid (FW p s i d q w (j + 1) l' b' o (i - b + 1) true (((wr.drewN n).setCell ⟨p, 1, none⟩ (.int .i64 ((j : Int) + 1))).setCell ⟨w.heap.size + 1 + 1 + 1, 0, none⟩ (.string (arr o)))) := fun n => Lib.hid (((HW.out.below (below_drewN wr n)).moved (But.setCell _ p 1 (.int .i64 (j + 1 : Nat))) ((HW.out.fw.rd.below (below_drewN wr n)).set1 (j + 1) (by omega) (by omega)) (by omega)).fw.exit o)
                have RQ := Lib.hid (fun n m => rended_q p s (j + 1) l' b' ((((wr.drewN n).setCell ⟨p, 1, none⟩ (.int .i64 ((j : Int) + 1))).setCell ⟨w.heap.size + 1 + 1 + 1, 0, none⟩ (.string (arr o))).drewN m) ((HX n).out.rd.below (below_drewN _ _)))
                clear hcv
                rw [HEN.out] at RQ
                go_cut [167] (fun v wx => v = .bool true ∧ Hid (FW p s i d q w (j + 1) l' b' o (i - b + 1) true wx))
                case first =>
                  go_quiet ((go_at_call 44; exact quiet_q (RQ.out _ _)))
                  go_wp2_with fail
                  go_meet
                  exact ⟨rfl, Lib.hid ((HX _).out.below (below_drewN _ _))⟩
                case rest =>
                  obtain ⟨rfl, HF⟩ := hcut
                  clear c0 c1 c2 c3 f1 f2 f3 d0 d1 k0 k1 k2 m0 m1 m2 r0 r1 r2 x0 x1 x2 q0 q1 q2 q3 y0 y1 y2 y3 z0 z1 z2 z3
                  obtain ⟨⟨c0, c1, c2, c3⟩, f1, f2, f3⟩ := HF.out.rd.cells
                  obtain ⟨⟨r0, r1, r2⟩, x0, x1, x2⟩ := cells3_of HF.out.rf
                  obtain ⟨⟨q0, q1, q2, q3⟩, y0, y1, y2, y3⟩ := cells4_of HF.out.rp
                  obtain ⟨⟨k0, k1, k2⟩, m0, m1, m2⟩ := HF.out.ff.cells
                  go_wp2_with fail
                  go_region_held3 (fun w' => w'.cell? ⟨p, 1, none⟩ = some (.int .i64 (j + 1 : Nat)) ∧ w'.cell? ⟨p, 2, none⟩ = some (.int .i64 l') ∧ w'.cell? ⟨p, 3, none⟩ = some (.int .i64 b') ∧ w'.cell? ⟨w.heap.size + 1 + 1 + 1, 0, none⟩ = some (.string (arr o)) ∧ w'.cell? ⟨w.heap.size + 1 + 1 + 1, 1, none⟩ = some (.int .i64 (i - b + 1 : Nat)) ∧ w'.cell? ⟨w.heap.size + 1 + 1 + 1, 2, none⟩ = some (.bool true)) (refine ⟨?_, ?_, ?_, ?_, ?_, ?_⟩ <;> (repeat rw [cell_oth _ _ _ _ _ _ (by omega)]) <;> (first | exact c1 | exact c2 | exact c3 | exact k0 | exact k1 | exact k2)) ((go_at_call 58; refine (rcolumn_i p ((j + 1 : Nat) : Int) b' _ (by assumption) (by assumption) (by omega) (by omega) (by omega)).mono ?_; rintro e w1 ⟨rfl, m1, rfl⟩))
                  go_wp2_with fail
                  refine bodyPost_ret (v := .tuple #[.agg #[.string (arr o), .int .i64 (i - b + 1 : Nat), .bool true], .agg #[.int .i64 0, .int .i64 l', .int .i64 (((j + 1 : Nat) : Int) - (b' : Int) + 1), .int .i64 8], .bool false]) ?_ rfl (rquot_ill hlt hq HF.out HZ.out (by rw [HEN.out, drop_at s (j + 1) hlt3]; rw [beq_cast2] at hd; simpa using hd) (by repeat (first | (with_reducible exact Below.refl _ _) | (with_reducible apply bel_drew) | (with_reducible refine bel_set ?_ _ _ _ (by omega)) | (with_reducible apply bel_drewN))) _ _ _)
                  simp [results, Tryd.results59, go_sem, r0, r1, r2, q0, q1, q2, q3]
              · have hdn : ((s[j + 1].toNat : Int) != (d.toNat : Int)) = false := by simp [bne, hd]
                go_wp2_with fail
                go_quiet (fail)
                go_wp2_with fail
                go_quiet (fail)
                go_wp2_with fail
                go_quiet (fail)
                have hcv : ∀ n v, (convert 61 9 u9).run Tryd.prog ((wr.drewN n).setCell ⟨p, 1, none⟩ v) = .ok (.string (arr o)) ((wr.drewN n).setCell ⟨p, 1, none⟩ v) := fun n v => own_string (row_but (row_below HW.out.row (below_drewN _ _)) (But.setCell _ _ _ _) (by omega))
                go_upto_region 19 with fail
                have HX : ∀ n, Hid (FW p s i d q w (j + 1) l' b' o (i - b + 1) true (((wr.drewN n).setCell ⟨p, 1, none⟩ (.int .i64 ((j : Int) + 1))).setCell ⟨w.heap.size + 1 + 1 + 1, 0, none⟩ (.string (arr o)))) := fun n => Lib.hid (((HW.out.below (below_drewN wr n)).moved (But.setCell _ p 1 (.int .i64 (j + 1 : Nat))) ((HW.out.fw.rd.below (below_drewN wr n)).set1 (j + 1) (by omega) (by omega)) (by omega)).fw.exit o)
                have RQ := Lib.hid (fun n m => rended_q p s (j + 1) l' b' ((((wr.drewN n).setCell ⟨p, 1, none⟩ (.int .i64 ((j : Int) + 1))).setCell ⟨w.heap.size + 1 + 1 + 1, 0, none⟩ (.string (arr o))).drewN m) ((HX n).out.rd.below (below_drewN _ _)))
                clear hcv
                rw [HEN.out] at RQ
                go_cut [167] (fun v wx => v = .bool false ∧ Hid (FW p s i d q w (j + 1) l' b' o (i - b + 1) true wx))
                case first =>
                  go_quiet ((go_at_call 44; exact quiet_q (RQ.out _ _)))
                  go_wp2_with fail
                  go_meet
                  exact ⟨rfl, Lib.hid ((HX _).out.below (below_drewN _ _))⟩
                case rest =>
                  obtain ⟨rfl, HF⟩ := hcut
                  clear c0 c1 c2 c3 f1 f2 f3 d0 d1 k0 k1 k2 m0 m1 m2 r0 r1 r2 x0 x1 x2 q0 q1 q2 q3 y0 y1 y2 y3 z0 z1 z2 z3
                  obtain ⟨⟨c0, c1, c2, c3⟩, f1, f2, f3⟩ := HF.out.rd.cells
                  obtain ⟨⟨r0, r1, r2⟩, x0, x1, x2⟩ := cells3_of HF.out.rf
                  obtain ⟨⟨q0, q1, q2, q3⟩, y0, y1, y2, y3⟩ := cells4_of HF.out.rp
                  obtain ⟨⟨k0, k1, k2⟩, m0, m1, m2⟩ := HF.out.ff.cells
                  go_wp2_with fail
                  refine bodyPost_ret (v := .tuple #[.agg #[.string (arr o), .int .i64 (i - b + 1 : Nat), .bool true], .agg #[.int .i64 0, .int .i64 0, .int .i64 0, .int .i64 0], .bool true]) ?_ rfl (rquot_well hlt hq HF.out HZ.out (Or.inr (by rw [drop_at s (j + 1) hlt3, List.head?_cons]; rw [beq_cast2] at hd; simpa using hd)) (by repeat (first | (with_reducible exact Below.refl _ _) | (with_reducible apply bel_drew) | (with_reducible refine bel_set ?_ _ _ _ (by omega)) | (with_reducible apply bel_drewN))))
                  simp [results, Tryd.results59, go_sem, r0, r1, r2, q0, q1, q2, q3]
            · have HEN := Lib.hid he
              clear he
              go_wp2_with fail
              go_quiet (fail)
              go_wp2_with fail
              go_quiet (fail)
              go_wp2_with fail
              go_quiet (fail)
              have hcv : ∀ n v, (convert 61 9 u9).run Tryd.prog ((wr.drewN n).setCell ⟨p, 1, none⟩ v) = .ok (.string (arr o)) ((wr.drewN n).setCell ⟨p, 1, none⟩ v) := fun n v => own_string (row_but (row_below HW.out.row (below_drewN _ _)) (But.setCell _ _ _ _) (by omega))
              go_upto_region 19 with fail
              have HX : ∀ n, Hid (FW p s i d q w (j + 1) l' b' o (i - b + 1) true (((wr.drewN n).setCell ⟨p, 1, none⟩ (.int .i64 ((j : Int) + 1))).setCell ⟨w.heap.size + 1 + 1 + 1, 0, none⟩ (.string (arr o)))) := fun n => Lib.hid (((HW.out.below (below_drewN wr n)).moved (But.setCell _ p 1 (.int .i64 (j + 1 : Nat))) ((HW.out.fw.rd.below (below_drewN wr n)).set1 (j + 1) (by omega) (by omega)) (by omega)).fw.exit o)
              have RQ := Lib.hid (fun n m => rended_q p s (j + 1) l' b' ((((wr.drewN n).setCell ⟨p, 1, none⟩ (.int .i64 ((j : Int) + 1))).setCell ⟨w.heap.size + 1 + 1 + 1, 0, none⟩ (.string (arr o))).drewN m) ((HX n).out.rd.below (below_drewN _ _)))
              clear hcv
              rw [HEN.out] at RQ
              go_cut [167] (fun v wx => v = .bool false ∧ Hid (FW p s i d q w (j + 1) l' b' o (i - b + 1) true wx))
              case first =>
                go_quiet ((go_at_call 44; exact quiet_q (RQ.out _ _)))
                go_wp2_with fail
                go_meet
                exact ⟨rfl, Lib.hid ((HX _).out.below (below_drewN _ _))⟩
              case rest =>
                obtain ⟨rfl, HF⟩ := hcut
                clear c0 c1 c2 c3 f1 f2 f3 d0 d1 k0 k1 k2 m0 m1 m2 r0 r1 r2 x0 x1 x2 q0 q1 q2 q3 y0 y1 y2 y3 z0 z1 z2 z3
                obtain ⟨⟨c0, c1, c2, c3⟩, f1, f2, f3⟩ := HF.out.rd.cells
                obtain ⟨⟨r0, r1, r2⟩, x0, x1, x2⟩ := cells3_of HF.out.rf
                obtain ⟨⟨q0, q1, q2, q3⟩, y0, y1, y2, y3⟩ := cells4_of HF.out.rp
                obtain ⟨⟨k0, k1, k2⟩, m0, m1, m2⟩ := HF.out.ff.cells
                go_wp2_with fail
                refine bodyPost_ret (v := .tuple #[.agg #[.string (arr o), .int .i64 (i - b + 1 : Nat), .bool true], .agg #[.int .i64 0, .int .i64 0, .int .i64 0, .int .i64 0], .bool true]) ?_ rfl (rquot_well hlt hq HF.out HZ.out (Or.inl HEN.out) (by repeat (first | (with_reducible exact Below.refl _ _) | (with_reducible apply bel_drew) | (with_reducible refine bel_set ?_ _ _ _ (by omega)) | (with_reducible apply bel_drewN))))
                simp [results, Tryd.results59, go_sem, r0, r1, r2, q0, q1, q2, q3]
          · have HT4 := Lib.hid (HT.out.dbl hlt3 hbj hc hc2)
            go_wp2_with fail
            go_quiet (fail)
            go_wp2_with fail
            go_quiet (fail)
            go_wp2_with fail
            go_quiet (fail)
            have HW6 : ∀ n, Hid (GW p s i l (i - b + 1) d q w (j + 1) l' b' o u9 ((wr.drewN n).setCell ⟨p, 1, none⟩ (.int .i64 ((j : Int) + 1)))) := fun n => Lib.hid ((HW.out.below (below_drewN wr n)).moved (But.setCell _ _ _ _) ((HW.out.fw.rd.below (below_drewN wr n)).set1 (j + 1) (by omega) (by omega)) (by omega))
            go_wp2_with (at_builtin; refine wpList_append_own _ rfl _ _ 61 rfl (w.heap.size + 1 + 1 + 1 + 1 + 1) 5 i0 (.int .u8 0) 1 1 Tryd.underlying61 HI0.out HZ0.out HZ1.out HZ2.out rfl (by decide) _ _ _ rfl ((HW6 _).out.row.alloc _) ⟨_, 0, none⟩ 1 1 [.int .u8 s[j].toNat] rfl rfl ?c1 ?c2 ?c3 ?c4 ?c5 ?_)
            case c1 => exact cell_one_at _ _ _ _ (by simp)
            case c2 => simp [Value.oneCell']
            case c3 => have := OL.out; unfold maxLen; omega
            case c4 => have := OL.out; omega
            case c5 => have := lt_of_heap HW.out.pr; simp; omega
            intro v' w5 hown hgr _
            have HE := Lib.hid (((HW6 _).out.below ((Below.refl _ _).alloc (Nat.le_refl _) _)).grown (o2 := o ++ [s[j]]) hgr (by rw [List.length_append, Lib.byteCells_append]; exact hown))
            clear hown hgr c0 c1 c2 c3 f1 f2 f3 d0 d1 k0 k1 k2 m0 m1 m2 r0 r1 r2 x0 x1 x2 q0 q1 q2 q3 y0 y1 y2 y3 z0 z1 z2 z3
            obtain ⟨⟨c0, c1, c2, c3⟩, f1, f2, f3⟩ := HE.out.fw.rd.cells
            go_wp2_with fail
            go_roundg (s.size - (j + 2))
            case rel => exact ⟨j + 2, l', b', o ++ [s[j]], rfl, by have := OL.out; simp; omega, Lib.hid (HE.out.moved (But.setCell _ _ _ _) (HE.out.fw.rd.set1 (j + 2) (by omega) (by omega)) (by omega)), HT4⟩
            case measure => have := HK.out; omega
        · have HZ := Lib.hid (HT.out.done hlt2 hbj hc (by rw [drop_end s (j + 1) (by omega)]; simp))
          have t5 : decide ((j : Int) + 1 < (s.size : Int)) = false := by simp; omega
          have HEN : Hid (endL (s.data.toList.drop (j + 1)) = true) := Lib.hid (by rw [drop_end s (j + 1) (by omega)]; rfl)
          go_wp2_with fail
          go_quiet (fail)
          go_wp2_with fail
          go_quiet (fail)
          go_wp2_with fail
          go_quiet (fail)
          have hcv : ∀ n v, (convert 61 9 u9).run Tryd.prog ((wr.drewN n).setCell ⟨p, 1, none⟩ v) = .ok (.string (arr o)) ((wr.drewN n).setCell ⟨p, 1, none⟩ v) := fun n v => own_string (row_but (row_below HW.out.row (below_drewN _ _)) (But.setCell _ _ _ _) (by omega))
          go_upto_region 19 with fail
          have HX : ∀ n, Hid (FW p s i d q w (j + 1) l' b' o (i - b + 1) true (((wr.drewN n).setCell ⟨p, 1, none⟩ (.int .i64 ((j : Int) + 1))).setCell ⟨w.heap.size + 1 + 1 + 1, 0, none⟩ (.string (arr o)))) := fun n => Lib.hid (((HW.out.below (below_drewN wr n)).moved (But.setCell _ p 1 (.int .i64 (j + 1 : Nat))) ((HW.out.fw.rd.below (below_drewN wr n)).set1 (j + 1) (by omega) (by omega)) (by omega)).fw.exit o)
          have RQ := Lib.hid (fun n m => rended_q p s (j + 1) l' b' ((((wr.drewN n).setCell ⟨p, 1, none⟩ (.int .i64 ((j : Int) + 1))).setCell ⟨w.heap.size + 1 + 1 + 1, 0, none⟩ (.string (arr o))).drewN m) ((HX n).out.rd.below (below_drewN _ _)))
          clear hcv
          rw [HEN.out] at RQ
          go_cut [167] (fun v wx => v = .bool false ∧ Hid (FW p s i d q w (j + 1) l' b' o (i - b + 1) true wx))
          case first =>
            go_quiet ((go_at_call 44; exact quiet_q (RQ.out _ _)))
            go_wp2_with fail
            go_meet
            exact ⟨rfl, Lib.hid ((HX _).out.below (below_drewN _ _))⟩
          case rest =>
            obtain ⟨rfl, HF⟩ := hcut
            clear c0 c1 c2 c3 f1 f2 f3 d0 d1 k0 k1 k2 m0 m1 m2 r0 r1 r2 x0 x1 x2 q0 q1 q2 q3 y0 y1 y2 y3 z0 z1 z2 z3
            obtain ⟨⟨c0, c1, c2, c3⟩, f1, f2, f3⟩ := HF.out.rd.cells
            obtain ⟨⟨r0, r1, r2⟩, x0, x1, x2⟩ := cells3_of HF.out.rf
            obtain ⟨⟨q0, q1, q2, q3⟩, y0, y1, y2, y3⟩ := cells4_of HF.out.rp
            obtain ⟨⟨k0, k1, k2⟩, m0, m1, m2⟩ := HF.out.ff.cells
            go_wp2_with fail
            refine bodyPost_ret (v := .tuple #[.agg #[.string (arr o), .int .i64 (i - b + 1 : Nat), .bool true], .agg #[.int .i64 0, .int .i64 0, .int .i64 0, .int .i64 0], .bool true]) ?_ rfl (rquot_well hlt hq HF.out HZ.out (Or.inl HEN.out) (by repeat (first | (with_reducible exact Below.refl _ _) | (with_reducible apply bel_drew) | (with_reducible refine bel_set ?_ _ _ _ (by omega)) | (with_reducible apply bel_drewN))))
            simp [results, Tryd.results59, go_sem, r0, r1, r2, q0, q1, q2, q3]
    · have hne : ((j : Int) == (s.size : Int)) = true := by simp; omega
      go_wp2_with fail
      go_quiet (fail)
      go_wp2_with fail
      go_region
      go_wp2_with fail
      refine bodyPost_ret (v := .tuple #[.agg #[.string (arr []), .int .i64 (i - b + 1 : Nat), .bool true], .agg #[.int .i64 0, .int .i64 l, .int .i64 (i - b + 1 : Nat), .int .i64 8], .bool false]) ?_ rfl (rquot_unclosed hlt hq HW.out HT.out hlt2 (by repeat (first | (with_reducible exact Below.refl _ _) | (with_reducible apply bel_drew) | (with_reducible refine bel_set ?_ _ _ _ (by omega)) | (with_reducible apply bel_drewN))) _ _ _)
      simp [results, Tryd.results59, go_sem, r0, r1, r2, q0, q1, q2, q3]
end Go.Proofs.YtpiejpodaljefaaDoor
