import Derived.Test.YtpiejpodaljefaaDoorS3
import Derived.Deep.DeepCutAuto
import Derived.Deep.RegionWith
namespace Go.Proofs.YtpiejpodaljefaaDoor
open Go.RowKit

set_option maxRecDepth 100000 in
set_option maxHeartbeats 4000000 in
theorem rfield_plain (p : Nat) (s : ByteArray) (i l b : Nat) (d q : UInt8) (w : World) (hR : RrAt w p s i l b) (hq : (s.data.toList.drop i).head? ≠ some q) :
    Calls Tryd.prog 59 #[.pointer (some ⟨p, 0, none⟩), .agg #[.int .u8 d.toNat, .int .u8 q.toNat]] w (RFieldOut p s i (fieldL d q ⟨s.data.toList.drop i, l, i - b + 1⟩) w) := by
  have HR := Lib.hid hR
  have HQ := Lib.hid hq
  have FS := Lib.hid (fun m => FW.start (m := m) (d := d) (q := q) hR)
  clear hR hq
  go_enter Tryd.func59, Tryd.ntmps59
  go_wp2_with fail
  refine (rcolumn_q p s i l b _ (HR.out.below ?_)).mono ?_
  · exact (((Below.refl _ _).alloc (Nat.le_refl _) _).alloc (by simp) _).alloc (by simp; omega) _
  rintro e w1 ⟨rfl, m, rfl⟩
  go_wp2_with fail
  have HW0 := Lib.hid (FS.out m)
  clear FS
  generalize (((((w.alloc (.cells #[.int .u8 d.toNat, .int .u8 q.toNat] 23)).alloc (.cells #[.string ⟨#[]⟩, .int .i64 0, .bool false] 50)).alloc (.cells #[.int .i64 0, .int .i64 0, .int .i64 0, .int .i64 0] 77)).drewN m).alloc (.cells #[.string ⟨#[]⟩, .int .i64 ((i : Int) - (b : Int) + 1), .bool false] 50)) = w0 at *
  obtain ⟨⟨c0, c1, c2, c3⟩, f1, f2, f3⟩ := HW0.out.rd.cells
  obtain ⟨d0, d1⟩ := cells2_of HW0.out.dx
  have hs := HR.out.2.1
  have hi := HR.out.2.2.1
  have hb := HR.out.2.2.2.1
  have HBI := Lib.hid hb
  have pb := HW0.out.pb
  have p0 : p ≠ w.heap.size := by omega
  have p1 : p ≠ w.heap.size + 1 := by omega
  have p2 : p ≠ w.heap.size + 1 + 1 := by omega
  have p3 : p ≠ w.heap.size + 1 + 1 + 1 := by omega
  go_cut [38] (fun v wx => v = .bool false ∧ ∃ n, wx = w0.drewN n)
  case first =>
    by_cases hlt : i < s.size
    · have hlt' : decide (i < s.size) = true := by simpa using hlt
      have hq : ((s[i].toNat : Int) == (q.toNat : Int)) = false := by
        have h := HQ.out
        rw [drop_at s i hlt] at h
        rw [beq_cast2]
        simpa using h
      go_quiet (fail)
      go_wp2_with fail
      go_meet
      exact ⟨rfl, _, rfl⟩
    · have hlt' : decide (i < s.size) = false := by simp; omega
      go_quiet (fail)
      go_wp2_with fail
      go_meet
      exact ⟨rfl, _, rfl⟩
  case rest =>
    obtain ⟨rfl, n0, rfl⟩ := hcut
    go_wp2
    have HW1 : Hid (FW p s i d q w i l b [] (i - b + 1) false (w0.drewN n0)) := Lib.hid (HW0.out.below (below_drewN _ _))
    clear c0 c1 c2 c3 f1 f2 f3 d0 d1 HW0
    go_loopg [] (s.size - i) (fun k wr => ∃ j, k = s.size - j ∧ Hid (FW p s i d q w j l b [] (i - b + 1) false wr) ∧ Hid (PlainRest d q s i j))
    case atStart => exact ⟨i, rfl, HW1, Lib.hid (by unfold PlainRest; simp)⟩
    case round =>
      obtain ⟨j, hj, HW, HP⟩ := hrel
      have HJ := Lib.hid hj
      clear hj HW1 hi hb
      obtain ⟨⟨c0, c1, c2, c3⟩, f1, f2, f3⟩ := HW.out.rd.cells
      obtain ⟨d0, d1⟩ := cells2_of HW.out.dx
      obtain ⟨⟨r0, r1, r2⟩, x0, x1, x2⟩ := cells3_of HW.out.rf
      obtain ⟨⟨q0, q1, q2, q3⟩, y0, y1, y2, y3⟩ := cells4_of HW.out.rp
      obtain ⟨⟨k0, k1, k2⟩, m0, m1, m2⟩ := HW.out.ff.cells
      have hi := HW.out.rd.2.2.1
      have hb := HW.out.rd.2.2.2.1
      have hl := HW.out.rd.2.2.2.2
      have hij := HW.out.ij
      cases he : endL (s.data.toList.drop j)
      · have hlt : j < s.size := by
          rcases Nat.lt_or_ge j s.size with h | h
          · exact h
          · rw [drop_end s j h] at he; simp [endL] at he
        have HE := Lib.hid he
        have RQ := Lib.hid (fun n => rended_q p s j l b (wr.drewN n) (HW.out.rd.below (below_drewN _ _)))
        rw [he] at RQ
        clear he
        cases hd : ((s[j].toNat : Int) == (d.toNat : Int))
        · have hdn : ((s[j].toNat : Int) != (d.toNat : Int)) = true := by simp [bne, hd]
          cases hqq : ((s[j].toNat : Int) == (q.toNat : Int))
          · have HPN := Lib.hid (HP.out.next hlt hij HE.out hd hqq)
            go_wp2_with fail
            go_quiet ((go_at_call 44; exact quiet_q (RQ.out _)))
            go_wp2_with fail
            go_quiet (fail)
            go_wp2_with fail
            go_roundg (s.size - (j + 1))
            case rel => exact ⟨j + 1, rfl, Lib.hid ((HW.out.below (below_drewN _ _)).moved (But.setCell _ _ _ _) ((HW.out.rd.below (below_drewN _ _)).set1 (j + 1) (by omega) (by omega)) (by omega)), HPN⟩
            case measure => have := HJ.out; omega
          · go_wp2_with fail
            go_quiet ((go_at_call 44; exact quiet_q (RQ.out _)))
            go_wp2_with fail
            go_quiet (fail)
            go_wp2_with fail
            go_region_held3 (fun w' => w'.cell? ⟨p, 1, none⟩ = some (.int .i64 j) ∧ w'.cell? ⟨p, 2, none⟩ = some (.int .i64 l) ∧ w'.cell? ⟨p, 3, none⟩ = some (.int .i64 b) ∧ w'.cell? ⟨w.heap.size + 1 + 1 + 1, 0, none⟩ = some (.string (arr [])) ∧ w'.cell? ⟨w.heap.size + 1 + 1 + 1, 1, none⟩ = some (.int .i64 (i - b + 1 : Nat)) ∧ w'.cell? ⟨w.heap.size + 1 + 1 + 1, 2, none⟩ = some (.bool false)) (refine ⟨?_, ?_, ?_, ?_, ?_, ?_⟩ <;> (repeat rw [cell_oth _ _ _ _ _ _ (by omega)]) <;> (first | exact c1 | exact c2 | exact c3 | exact k0 | exact k1 | exact k2)) ((go_at_call 58; refine (rcolumn_c p j b _ (by assumption) (by assumption) hb (by omega)).mono ?_; rintro e w1 ⟨rfl, m1, rfl⟩))
            go_wp2_with fail
            refine bodyPost_ret (v := .tuple #[.agg #[.string (arr []), .int .i64 (i - b + 1 : Nat), .bool false], .agg #[.int .i64 0, .int .i64 l, .int .i64 ((j : Int) - (b : Int) + 1), .int .i64 8], .bool false]) ?_ rfl (rplain_err HW.out HBI.out HP.out HQ.out hlt HE.out hd hqq (by repeat (first | (with_reducible exact Below.refl _ _) | (with_reducible apply bel_drew) | (with_reducible refine bel_set ?_ _ _ _ (by omega)) | (with_reducible apply bel_drewN))) _ _ _)
            simp [results, Tryd.results59, go_sem, r0, r1, r2, q0, q1, q2, q3]
        · have hdn : ((s[j].toNat : Int) != (d.toNat : Int)) = false := by simp [bne, hd]
          go_wp2_with fail
          go_quiet ((go_at_call 44; exact quiet_q (RQ.out _)))
          go_wp2_with fail
          go_region
          go_wp2_with fail
          refine bodyPost_ret (v := .tuple #[.agg #[.string (s.extract i j), .int .i64 (i - b + 1 : Nat), .bool false], .agg #[.int .i64 0, .int .i64 0, .int .i64 0, .int .i64 0], .bool true]) ?_ rfl ?_
          · simp [results, Tryd.results59, go_sem, r0, r1, r2, q0, q1, q2, q3]
          · exact rplain_fin HW.out HBI.out HP.out HQ.out (Or.inr (by rw [drop_at s j hlt, List.head?_cons]; rw [beq_cast2] at hd; simpa using hd)) (by repeat (first | (with_reducible exact Below.refl _ _) | (with_reducible apply bel_drew) | (with_reducible refine bel_set ?_ _ _ _ (by omega)) | (with_reducible apply bel_drewN)))
      · have HE := Lib.hid he
        have RQ := Lib.hid (fun n => rended_q p s j l b (wr.drewN n) (HW.out.rd.below (below_drewN _ _)))
        rw [he] at RQ
        clear he
        go_wp2_with fail
        go_quiet ((go_at_call 44; exact quiet_q (RQ.out _)))
        go_wp2_with fail
        go_region
        go_wp2_with fail
        refine bodyPost_ret (v := .tuple #[.agg #[.string (s.extract i j), .int .i64 (i - b + 1 : Nat), .bool false], .agg #[.int .i64 0, .int .i64 0, .int .i64 0, .int .i64 0], .bool true]) ?_ rfl ?_
        · simp [results, Tryd.results59, go_sem, r0, r1, r2, q0, q1, q2, q3]
        · exact rplain_fin HW.out HBI.out HP.out HQ.out (Or.inl HE.out) (by repeat (first | (with_reducible exact Below.refl _ _) | (with_reducible apply bel_drew) | (with_reducible refine bel_set ?_ _ _ _ (by omega)) | (with_reducible apply bel_drewN)))
end Go.Proofs.YtpiejpodaljefaaDoor
