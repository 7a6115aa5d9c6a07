import Derived.Test.YtpiejpodaljefaaDoorS7
import Derived.Test.YtpiejpodaljefaaDoorR8
namespace Go.Proofs.YtpiejpodaljefaaDoor
open Go.RowKit

set_option maxRecDepth 100000 in
set_option maxHeartbeats 8000000 in
theorem rrecord_any (p : Nat) (s : ByteArray) (i l b : Nat) (d q : UInt8) (w : World) (hR : RrAt w p s i l b) (hq10 : (q == 10) = false) :
    Calls Tryd.prog 46 #[.pointer (some ⟨p, 0, none⟩), .agg #[.int .u8 d.toNat, .int .u8 q.toNat]] w (RRecOut p s i l (recL d q 12 ⟨s.data.toList.drop i, l, i - b + 1⟩ []) w) := by
  have HW0 := Lib.hid (RRW.start (d := d) (q := q) hR)
  obtain ⟨⟨c0, c1, c2, c3⟩, f1, f2, f3⟩ := hR.cells
  have pb := lt_of_heap hR.1
  obtain ⟨i0, hii, hz0, hz1, hz2⟩ := info_parts infoF
  have HI0 := Lib.hid hii; have HZ0 := Lib.hid hz0; have HZ1 := Lib.hid hz1; have HZ2 := Lib.hid hz2
  have cc : (((w.alloc (.cells #[.int .u8 d.toNat, .int .u8 q.toNat] 23)).alloc (.cells #[.int .i64 0, .slice none 0 0] 48)).alloc (.cells #[.int .i64 0, .int .i64 0, .int .i64 0, .int .i64 0] 77)).cell? ⟨p, 2, none⟩ = some (.int .i64 l) := by
    rw [World.cell?_alloc_past _ _ _ (by simp; omega), World.cell?_alloc_past _ _ _ (by simp; omega), World.cell?_alloc_past _ _ _ pb]; exact c2
  clear hR hii hz0 hz1 hz2
  go_enter Tryd.func46, Tryd.ntmps46
  go_wp2
  clear c0 c1 c2 c3 f1 f2 f3 cc
  go_loopg [] 13 (fun k wr => ∃ j l' b' fs v, k = 13 - fs.length ∧ fs.length ≤ 12 ∧ Hid (RRW p s i l d q w j l' b' fs v wr) ∧ Hid (recL d q (12 - fs.length) ⟨s.data.toList.drop j, l', j - b' + 1⟩ fs = recL d q 12 ⟨s.data.toList.drop i, l, i - b + 1⟩ []))
  case atStart => exact ⟨i, l, b, [], .slice none 0 0, rfl, by simp, HW0, Lib.hid rfl⟩
  case round =>
    obtain ⟨j, l', b', fs, v, hk, hfl, HW, HT⟩ := hrel
    have HK := Lib.hid hk
    clear hk HW0
    obtain ⟨⟨c0, c1, c2, c3⟩, f1, f2, f3⟩ := HW.out.rd.cells
    obtain ⟨d0, d1⟩ := cells2_of HW.out.dx
    obtain ⟨o0, o1, o2, o3⟩ := out_cells HW.out.out
    obtain ⟨r0, r1, r2, r3⟩ := out_cells HW.out.res
    obtain ⟨⟨q0, q1, q2, q3⟩, y0, y1, y2, y3⟩ := cells4_of HW.out.rp
    obtain ⟨ad, cp, hv, hcp, hcp2⟩ := own_slice HW.out.row
    subst hv
    have hs := HW.out.rd.2.1
    have hi := HW.out.rd.2.2.1
    have hb := HW.out.rd.2.2.2.1
    have hl := HW.out.rd.2.2.2.2
    have hz := lt_of_heap HW.out.out
    have p0 : p ≠ w.heap.size := by omega
    have p1 : p ≠ w.heap.size + 1 := by omega
    have p2 : p ≠ w.heap.size + 1 + 1 := by omega
    have p3 : p ≠ w.heap.size + 1 + 1 + 1 := by omega
    by_cases hfull : fs.length = 12
    · have hfe : ((fs.length : Int) == 12) = true := by simp; omega
      have HFU := Lib.hid hfull
      clear hfull
      go_wp2_with fail
      go_region_held3 (fun w' => w'.cell? ⟨p, 1, none⟩ = some (.int .i64 j) ∧ w'.cell? ⟨p, 2, none⟩ = some (.int .i64 l') ∧ w'.cell? ⟨p, 3, none⟩ = some (.int .i64 b') ∧ w'.cell? ⟨w.heap.size + 1 + 1 + 1, 0, none⟩ = some (.int .i64 l) ∧ w'.cell? ⟨w.heap.size + 1 + 1 + 1, 1, none⟩ = some (.slice ad fs.length cp)) (refine ⟨?_, ?_, ?_, ?_, ?_⟩ <;> (repeat rw [cell_oth _ _ _ _ _ _ (by omega)]) <;> (first | exact c1 | exact c2 | exact c3 | exact o0 | exact o1)) ((go_at_call 58; refine (rcolumn_i p j b' _ (by assumption) (by assumption) (by omega) (by omega) (by omega)).mono ?_; rintro e w1 ⟨rfl, m1, rfl⟩))
      go_wp2_with fail
      refine bodyPost_ret (v := .tuple #[.agg #[.int .i64 l, .slice ad fs.length cp], .agg #[.int .i64 0, .int .i64 l', .int .i64 ((j : Int) - (b' : Int) + 1), .int .i64 9], .bool false]) ?_ rfl ?_
      · simp [results, Tryd.results46, go_sem, r0, r1, q0, q1, q2, q3]
      · have ej : (j : Int) - (b' : Int) + 1 = ((j - b' + 1 : Nat) : Int) := by omega
        rw [ej]
        exact rrec_bad HW.out (pr := (l', j - b' + 1, 9)) (by rw [← HT.out, HFU.out]; rfl) (by repeat (first | (with_reducible exact Below.refl _ _) | (with_reducible apply bel_drew) | (with_reducible refine bel_set ?_ _ _ _ (by omega)) | (with_reducible apply bel_drewN) | (with_reducible refine Below.alloc ?_ (by omega) _))) ad fs.length cp
    · have hfe : ((fs.length : Int) == 12) = false := by simp; omega
      have hlt12 : fs.length < 12 := by omega
      clear hfull
      go_wp2_with fail
      refine (rfield_any p s j l' b' d q _ HW.out.rd hq10).mono ?_
      intro e W3 ho
      obtain ⟨hres, ⟨j2, l2, b2, hr2, hst, hjj⟩, hbb⟩ := ho
      have HW3 := Lib.hid (HW.out.moved hbb hr2 hjj)
      have HST := Lib.hid hst
      clear hbb hr2 hst c0 c1 c2 c3 f1 f2 f3 d0 d1 o0 o1 o2 o3 r0 r1 r2 r3 q0 q1 q2 q3 y0 y1 y2 y3
      obtain ⟨⟨c0, c1, c2, c3⟩, f1, f2, f3⟩ := HW3.out.rd.cells
      obtain ⟨o0, o1, o2, o3⟩ := out_cells HW3.out.out
      obtain ⟨r0, r1, r2, r3⟩ := out_cells HW3.out.res
      obtain ⟨⟨q0, q1, q2, q3⟩, y0, y1, y2, y3⟩ := cells4_of HW3.out.rp
      have hz3 := lt_of_heap HW3.out.out
      have p4 : p ≠ W3.heap.size := by omega
      have p5 : p ≠ W3.heap.size + 1 := by omega
      cases hzz : (fieldL d q ⟨s.data.toList.drop j, l', j - b' + 1⟩).1 with
      | inr pr =>
        rw [hzz] at hres
        obtain ⟨a1, a2, a3, rfl⟩ := hres
        have HZ := Lib.hid (Prod.ext hzz HST.out : fieldL d q ⟨s.data.toList.drop j, l', j - b' + 1⟩ = (.inr pr, ⟨s.data.toList.drop j2, l2, j2 - b2 + 1⟩))
        clear hzz
        go_wp2_with fail
        have HW4 := Lib.hid (HW3.out.below (((Below.refl _ W3).alloc (Nat.le_refl _) (.cells #[.string a1, .int .i64 a2, .bool a3] 50)).alloc (by simp) (.cells #[.int .i64 0, .int .i64 pr.1, .int .i64 pr.2.1, .int .i64 pr.2.2] 77)))
        have hP : ((W3.alloc (.cells #[.string a1, .int .i64 a2, .bool a3] 50)).alloc (.cells #[.int .i64 0, .int .i64 pr.1, .int .i64 pr.2.1, .int .i64 pr.2.2] 77)).heap[W3.heap.size + 1]? = some (.cells #[.int .i64 0, .int .i64 pr.1, .int .i64 pr.2.1, .int .i64 pr.2.2] 77 (0, 0)) := by
          have e := heap_alloc_new (W3.alloc (.cells #[.string a1, .int .i64 a2, .bool a3] 50)) (.cells #[.int .i64 0, .int .i64 pr.1, .int .i64 pr.2.1, .int .i64 pr.2.2] 77)
          rw [show (W3.alloc (.cells #[.string a1, .int .i64 a2, .bool a3] 50)).heap.size = W3.heap.size + 1 by simp] at e
          exact e
        clear c0 c1 c2 c3 f1 f2 f3 o0 o1 o2 o3 r0 r1 r2 r3 q0 q1 q2 q3 y0 y1 y2 y3
        generalize (W3.alloc (.cells #[.string a1, .int .i64 a2, .bool a3] 50)).alloc (.cells #[.int .i64 0, .int .i64 pr.1, .int .i64 pr.2.1, .int .i64 pr.2.2] 77) = W4 at *
        generalize W3.heap.size = g at *
        obtain ⟨⟨t0, t1, t2, t3⟩, _⟩ := cells4_of hP
        obtain ⟨o0, o1, o2, o3⟩ := out_cells HW4.out.out
        obtain ⟨r0, r1, r2, r3⟩ := out_cells HW4.out.res
        obtain ⟨⟨q0, q1, q2, q3⟩, y0, y1, y2, y3⟩ := cells4_of HW4.out.rp
        go_region
        go_wp2_with fail
        refine bodyPost_ret (v := .tuple #[.agg #[.int .i64 l, .slice ad fs.length cp], .agg #[.int .i64 0, .int .i64 pr.1, .int .i64 pr.2.1, .int .i64 pr.2.2], .bool false]) ?_ rfl (rrec_bad HW4.out (by rw [← HT.out, show 12 - fs.length = (11 - fs.length) + 1 by omega, recL_err HZ.out]) (by repeat (first | (with_reducible exact Below.refl _ _) | (with_reducible apply bel_drew) | (with_reducible refine bel_set ?_ _ _ _ (by omega)) | (with_reducible apply bel_drewN) | (with_reducible refine Below.alloc ?_ (by omega) _))) ad fs.length cp)
        simp [results, Tryd.results46, go_sem, r0, r1, q0, q1, q2, q3]
      | inl x =>
        rw [hzz] at hres
        obtain rfl := hres
        have HZ := Lib.hid (Prod.ext hzz HST.out : fieldL d q ⟨s.data.toList.drop j, l', j - b' + 1⟩ = (.inl x, ⟨s.data.toList.drop j2, l2, j2 - b2 + 1⟩))
        clear hzz
        go_upto_region 7 with fail
        have HW4 := Lib.hid (HW3.out.below (((Below.refl _ W3).alloc (Nat.le_refl _) (.cells #[.string (arr x.1), .int .i64 x.2.1, .bool x.2.2] 50)).alloc (by simp) (.cells #[.int .i64 0, .int .i64 0, .int .i64 0, .int .i64 0] 77)))
        have hP : ((W3.alloc (.cells #[.string (arr x.1), .int .i64 x.2.1, .bool x.2.2] 50)).alloc (.cells #[.int .i64 0, .int .i64 0, .int .i64 0, .int .i64 0] 77)).heap[W3.heap.size]? = some (.cells #[.string (arr x.1), .int .i64 x.2.1, .bool x.2.2] 50 (0, 0)) := by
          rw [Lib.alloc_old _ _ _ (by simp)]; exact heap_alloc_new _ _
        clear c0 c1 c2 c3 f1 f2 f3 o0 o1 o2 o3 r0 r1 r2 r3 q0 q1 q2 q3 y0 y1 y2 y3
        generalize (W3.alloc (.cells #[.string (arr x.1), .int .i64 x.2.1, .bool x.2.2] 50)).alloc (.cells #[.int .i64 0, .int .i64 0, .int .i64 0, .int .i64 0] 77) = W4 at *
        generalize W3.heap.size = g at *
        obtain ⟨⟨k0, k1, k2⟩, _⟩ := cells3_of hP
        obtain ⟨o0, o1, o2, o3⟩ := out_cells HW4.out.out
        have xl3 := lt_of_heap HW4.out.out
        clear hP
        go_upto_region 8 with (at_builtin; refine wpList_append_own _ rfl _ _ 46 rfl (w.heap.size + 1 + 1 + 1 + 1) 50 i0 (.agg #[.string ⟨#[]⟩, .int .i64 0, .bool false]) 3 32 Tryd.underlying46 HI0.out HZ0.out HZ1.out HZ2.out rfl (by decide) _ _ _ rfl (HW4.out.row.alloc _) ⟨_, 0, none⟩ 1 1 [.string (arr x.1), .int .i64 x.2.1, .bool x.2.2] rfl rfl ?a1 ?a2 ?a3 ?a4 ?a5 ?_)
        case a1 => exact cell_three_new _ _ _ _ _
        case a2 => simp [Value.oneCell']
        case a3 => unfold maxLen; omega
        case a4 => omega
        case a5 => simp; omega
        intro v2 w5 hown hgr _
        have hO5 : w5.heap[w.heap.size + 1 + 1 + 1]? = some (.cells #[.int .i64 l, .slice ad fs.length cp] 48 (0, 0)) := (hgr.block _ (by simp; omega) (fun e => by have := (HW4.out.row.lt _ e.symm).1; omega)).trans (by rw [Lib.alloc_old _ _ _ xl3]; exact HW4.out.out)
        have HW6 := Lib.hid ((HW4.out.below ((Below.refl _ _).alloc (Nat.le_refl _) _)).add (x := x) hgr (by rw [List.length_append, fcells_app]; exact hown))
        obtain ⟨y0, y1, y2, y3⟩ := out_cells hO5
        obtain ⟨ad2, cp2, rfl, hcp3, hcp4⟩ := own_slice hown
        clear hown hgr hO5 k0 k1 k2 o0 o1 o2 o3
        go_upto_region 8 with fail
        clear y0 y1 y2 y3
        generalize w5.setCell ⟨w.heap.size + 1 + 1 + 1, 1, none⟩ (.slice ad2 (fs.length + 1) cp2) = w6 at *
        obtain ⟨⟨c0, c1, c2, c3⟩, f1, f2, f3⟩ := HW6.out.rd.cells
        have hj2 := HW6.out.rd.2.2.1
        go_wp2_with fail
        refine (rended_q p s j2 l2 b2 _ HW6.out.rd).mono ?_
        cases he : endL (s.data.toList.drop j2)
        · rintro e w7 ⟨rfl, n, rfl⟩
          have hlt2 : j2 < s.size := by
            rcases Nat.lt_or_ge j2 s.size with h | h
            · exact h
            · rw [drop_end s j2 h] at he; simp [endL] at he
          have HE := Lib.hid he
          clear he
          go_wp2_with fail
          go_roundg (13 - (fs ++ [x]).length)
          case rel =>
            refine ⟨j2 + 1, l2, b2, fs ++ [x], .slice ad2 (fs.length + 1) cp2, rfl, by simp; omega, Lib.hid ((HW6.out.below (below_drewN _ _)).moved (But.setCell _ _ _ _) ((HW6.out.rd.below (below_drewN _ _)).set1 (j2 + 1) (by omega) (by omega)) (by omega)), Lib.hid ?_⟩
            rw [← HT.out, show 12 - fs.length = (12 - (fs ++ [x]).length) + 1 by simp; omega, recL_step HZ.out, if_neg (by rw [HE.out]; simp), drop_at s j2 hlt2, List.tail_cons, show j2 + 1 - b2 + 1 = j2 - b2 + 1 + 1 by have := HW6.out.rd.2.2.2.1; omega]
          case measure => have := HK.out; simp; omega
        · rintro e w7 ⟨rfl, n, rfl⟩
          have HE := Lib.hid he
          obtain ⟨y0, y1, y2, y3⟩ := out_cells HW6.out.out
          obtain ⟨r0, r1, r2, r3⟩ := out_cells HW6.out.res
          obtain ⟨⟨q0, q1, q2, q3⟩, z0, z1, z2, z3⟩ := cells4_of HW6.out.rp
          clear he
          go_wp2_with fail
          refine bodyPost_ret (v := .tuple #[.agg #[.int .i64 l, .slice ad2 (fs.length + 1) cp2], .agg #[.int .i64 0, .int .i64 0, .int .i64 0, .int .i64 0], .bool true]) ?_ rfl (rrec_good HW6.out (by rw [← HT.out, show 12 - fs.length = (11 - fs.length) + 1 by omega, recL_step HZ.out, if_pos HE.out]) (by repeat (first | (with_reducible exact Below.refl _ _) | (with_reducible apply bel_drew) | (with_reducible refine bel_set ?_ _ _ _ (by omega)) | (with_reducible apply bel_drewN) | (with_reducible refine Below.alloc ?_ (by omega) _))) (fun g hg => by have := (HW6.out.row.lt g hg).1; (repeat rw [heap_oth _ _ _ _ _ (by omega)]); rfl))
          simp [results, Tryd.results46, go_sem, r0, r1, q0, q1, q2, q3]
end Go.Proofs.YtpiejpodaljefaaDoor
