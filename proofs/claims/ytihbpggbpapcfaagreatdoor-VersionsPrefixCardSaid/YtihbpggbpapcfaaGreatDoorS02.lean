/- What the laws need besides: the reference reads and writes versions. -/
import Derived.Laws.IdiomStrings
import Derived.Outline
import Derived.Test.YtihbpggbpapcfaaGreatDoorM29
namespace Go.Proofs.YtihbpggbpapcfaaGreatDoor
open Go.RowKit

theorem wkB_test (n i : Nat) : wkB (n : Int) i = n.testBit i := by
 rw [wkB_nat, Nat.testBit_eq_decide_div_mod_eq]
theorem ofInt_small (x : Nat) (h : x < 9223372036854775808) : (BitVec.ofInt 64 (x : Int)).toNat = x := by
 rw [BitVec.ofInt_natCast, BitVec.toNat_ofNat]; exact Nat.mod_eq_of_lt (by omega)
theorem wkB_and {a m : Int} (ha : 0 ≤ a ∧ a < 9223372036854775808) (hm : 0 ≤ m ∧ m < 9223372036854775808) (k : Nat) : wkB (bits .and .i64 a m) k = (wkB a k && wkB m k) := by
 obtain ⟨x, rfl⟩ := Int.eq_ofNat_of_zero_le ha.1
 obtain ⟨y, rfl⟩ := Int.eq_ofNat_of_zero_le hm.1
 have hle : x &&& y ≤ x := Nat.and_le_left
 have e : bits .and .i64 (x : Int) (y : Int) = ((x &&& y : Nat) : Int) := by
  show IntKind.i64.wrap (((BitVec.ofInt 64 (x : Int) &&& BitVec.ofInt 64 (y : Int)).toNat : Nat) : Int) = _
  rw [BitVec.toNat_and, ofInt_small x (by omega), ofInt_small y (by omega)]
  exact IntWalk.i64_in _ (by omega)
 rw [e, wkB_test, wkB_test, wkB_test, Nat.testBit_and]
theorem wkB_or {a m : Int} (ha : 0 ≤ a ∧ a < 1048576) (hm : 0 ≤ m ∧ m < 1048576) (k : Nat) : wkB (bits .or .i64 a m) k = (wkB a k || wkB m k) := by
 obtain ⟨x, rfl⟩ := Int.eq_ofNat_of_zero_le ha.1
 obtain ⟨y, rfl⟩ := Int.eq_ofNat_of_zero_le hm.1
 have ho : x ||| y < 2 ^ 20 := Nat.or_lt_two_pow (by omega) (by omega)
 have e : bits .or .i64 (x : Int) (y : Int) = ((x ||| y : Nat) : Int) := by
  show IntKind.i64.wrap (((BitVec.ofInt 64 (x : Int) ||| BitVec.ofInt 64 (y : Int)).toNat : Nat) : Int) = _
  rw [BitVec.toNat_or, ofInt_small x (by omega), ofInt_small y (by omega)]
  exact IntWalk.i64_in _ (by omega)
 rw [e, wkB_test, wkB_test, wkB_test, Nat.testBit_or]
theorem wkB_not {a m : Int} (ha : 0 ≤ a ∧ a < 9223372036854775808) (hm : 0 ≤ m ∧ m < 9223372036854775808) (k : Nat) (hk : k < 64) : wkB (bits .and .i64 a (-m - 1)) k = (wkB a k && !wkB m k) := by
 obtain ⟨x, rfl⟩ := Int.eq_ofNat_of_zero_le ha.1
 obtain ⟨y, rfl⟩ := Int.eq_ofNat_of_zero_le hm.1
 have hle : (BitVec.ofInt 64 (x : Int) &&& ~~~ BitVec.ofInt 64 (y : Int)).toNat ≤ x := by
  rw [BitVec.toNat_and, ofInt_small x (by omega)]; exact Nat.and_le_left
 have e : bits .and .i64 (x : Int) (-(y : Int) - 1) = (((BitVec.ofInt 64 (x : Int) &&& ~~~ BitVec.ofInt 64 (y : Int)).toNat : Nat) : Int) := by
  rw [← andNot_compl]
  show IntKind.i64.wrap (((BitVec.ofInt 64 (x : Int) &&& ~~~ BitVec.ofInt 64 (y : Int)).toNat : Nat) : Int) = _
  exact IntWalk.i64_in _ (by omega)
 have h1 : (BitVec.ofInt 64 (x : Int)).getLsbD k = x.testBit k := by rw [← BitVec.testBit_toNat, ofInt_small x (by omega)]
 have h2 : (BitVec.ofInt 64 (y : Int)).getLsbD k = y.testBit k := by rw [← BitVec.testBit_toNat, ofInt_small y (by omega)]
 rw [e, wkB_test, wkB_test, wkB_test, BitVec.testBit_toNat, BitVec.getLsbD_and, BitVec.getLsbD_not, h1, h2]
 simp [hk]
theorem wkB_first (w : Int) (k : Nat) : wkB (firstW w) k = decide (k < (w - 1).toNat) := by
 unfold firstW
 have hp : 1 ≤ 2 ^ (w - 1).toNat := Nat.one_le_two_pow
 generalize (w - 1).toNat = q at *
 rw [show ((2 : Int) ^ q - 1) = ((2 ^ q - 1 : Nat) : Int) by rw [Int.natCast_sub hp]; simp]
 rw [wkB_test, Nat.testBit_two_pow_sub_one]
end Go.Proofs.YtihbpggbpapcfaaGreatDoor

namespace Go.Proofs.YtihbpggbpapcfaaGreatDoor
open Go.RowKit

set_option maxRecDepth 100000 in
set_option maxHeartbeats 4000000 in
theorem rordC_any (a : Option Addr) (n c : Nat) (cs : List Chg) (w : World) (hx : HAt w a n cs) :
  Calls Tryz.prog 93 #[.slice a n c] w (RetQ (.bool (ordC none cs)) w) := by
 have n1 := hx.len.2
 have hl := hx.len.1
 have HX := Lib.hid hx
 clear hx
 go_enter Tryz.func93, Tryz.ntmps93
 go_wp2_with fail
 go_loopw [3] (fun i wr => ∃ j : Nat, j ≤ n ∧ i = .int .i64 j ∧ Hid (ordC (prevK cs j) (cs.drop j) = ordC none cs) ∧ Hid (∃ q, wr = w.drewN q)) (fun i _ => n - (intOf i).toNat)
 case atStart => exact ⟨0, by omega, rfl, Lib.hid rfl, Lib.hid ⟨0, rfl⟩⟩
 case round =>
  obtain ⟨j, hj, rfl, HO, HB⟩ := hrel
  by_cases hlt : j < n
  ·
   obtain ⟨b1, o1, x, p, q, rfl, g1, z1, x0, x1, x2, sp, sq⟩ := HAt.cells (HX.out.below (drew_bel HB.out)) hlt
   have HD := Lib.hid (ordC_drop g1)
   have SQ := Lib.hid (fun k => rsameq_any p.1 p.2.1 p.2.2 q.1 q.2.1 q.2.2 x.2.1 x.2.2 (wr.drewN k) (sp.2.below (below_drewN _ _)) (sq.2.below (below_drewN _ _)))
   have k1 : (j : Int) < n := by omega
   have k2 : (0 : Int) ≤ j := by omega
   clear g1 sp sq
   generalize decide (x.2.1 = x.2.2) = de at *
   go_upto_region 4 with fail
   go_cut [38] (fun s38 wx => s38 = .bool (!(aftK (prevK cs j) x.1 && !de)) ∧ ∃ k, wx = wr.drewN k)
   case first =>
    cases j with
    | zero =>
     have HA : Hid (aftK (prevK cs 0) x.1 = true) := Lib.hid rfl
     rw [show ((0 : Nat) : Int) = 0 from rfl]
     simp only [Nat.zero_mul, Nat.add_zero] at x0 x1 x2
     have k1 : (0 : Int) < n := by omega
     cases de
     all_goals
      go_quiet ((go_at_call 40; exact Calls.quiet_of (SQ.out _)))
      go_wp2_with fail
      go_meet
      exact ⟨by rw [HA.out]; rfl, _, rfl⟩
    | succ r =>
     obtain ⟨b2, o2, y, p2, q2, he, g2, z2, y0, _, _, _, _⟩ := HAt.cells (HX.out.below (drew_bel HB.out)) (show r < n by omega)
     cases he
     have HA : Hid (aftK (prevK cs (r + 1)) x.1 = Op.bytesLess (arr y.1).toList (arr x.1).toList) := Lib.hid (by show aftK ((cs[r]?).map (·.1)) x.1 = _; rw [g2, arr_toList, arr_toList]; rfl)
     have ec : ((r + 1 : Nat) : Int) = (r : Int) + 1 := by omega
     rw [ec]
     clear ec g2
     have q1 : (r : Int) + 1 - 1 = (r : Int) := by omega
     have q2' : IntKind.i64.wrap ((r : Int) + 1 - 1) = (r : Int) := by rw [q1]; exact IntWalk.i64_in _ (by omega)
     have q8 : IntKind.i64.wrap (r : Int) = (r : Int) := IntWalk.i64_in _ (by omega)
     have q9 : (r : Int).toNat = r := by omega
     have q3 : ((r : Int) + 1).toNat = r + 1 := by omega
     have q4 : (r : Int) + 1 < n := by omega
     have q5 : (0 : Int) < (r : Int) + 1 := by omega
     have q51 : (0 : Int) ≤ (r : Int) + 1 := by omega
     have q6 : (r : Int) < n := by omega
     have q7 : (0 : Int) ≤ (r : Int) := by omega
     clear k1 k2
     rcases tri_str (arr y.1).toList (arr x.1).toList with ⟨hb, p1, p2⟩ | ⟨hb, p1, p2⟩ | ⟨hb, p1, p2⟩
     all_goals rw [hb] at HA
     ·
      go_quiet (fail)
      go_wp2_with fail
      go_meet
      exact ⟨by rw [HA.out]; rfl, _, rfl⟩
     ·
      go_quiet (fail)
      go_wp2_with fail
      go_meet
      exact ⟨by rw [HA.out]; rfl, _, rfl⟩
     ·
      cases de
      all_goals
       go_quiet ((go_at_call 40; exact Calls.quiet_of (SQ.out _)))
       go_wp2_with fail
       go_meet
       exact ⟨by rw [HA.out]; rfl, _, rfl⟩
   case rest =>
    obtain ⟨rfl, hbz⟩ := hcut
    have HB2 : Hid (∃ k, wc = w.drewN k) := Lib.hid (by obtain ⟨k, rfl⟩ := hbz; exact drew_more HB.out k)
    clear hbz
    cases hbb : (aftK (prevK cs j) x.1 && !de)
    ·
     have HF : Hid (ordC none cs = false) := Lib.hid (by rw [← HO.out, HD.out, hbb]; rfl)
     go_wp2_with fail
     go_ret
     exact ⟨ret_bool (by rw [HF.out]), HB2.out⟩
    ·
     have HO2 : Hid (ordC (prevK cs (j + 1)) (cs.drop (j + 1)) = ordC none cs) := Lib.hid (by rw [← HO.out, HD.out, hbb]; rfl)
     go_wp2_with fail
     go_roundw
     case rel => exact ⟨j + 1, by omega, by go_num, HO2, HB2⟩
     case measure => simp [intOf]; omega
  ·
   obtain rfl : n = j := by omega
   have HF : Hid (ordC none cs = true) := Lib.hid (by rw [← HO.out]; exact ordC_end (by omega))
   go_wp2_with fail
   go_ret
   exact ⟨ret_bool (by rw [HF.out]), HB.out⟩
end Go.Proofs.YtihbpggbpapcfaaGreatDoor

namespace Go.Proofs.YtihbpggbpapcfaaGreatDoor
open Go.RowKit

set_option maxRecDepth 100000 in
set_option maxHeartbeats 4000000 in
theorem rsameC_any (a : Option Addr) (n c : Nat) (b : Option Addr) (m q : Nat) (xs ys : List Chg) (w : World) (hx : HAt w a n xs) (hy : HAt w b m ys) :
  Calls Tryz.prog 63 #[.slice a n c, .slice b m q] w (RetQ (.bool (decide (xs = ys))) w) := by
 have n1 := hx.len.2
 have n2 := hy.len.2
 have hl1 := hx.len.1
 have hl2 := hy.len.1
 by_cases hnm : n = m
 rotate_left
 ·
  have HF : Hid (decide (xs = ys) = false) := Lib.hid (decide_eq_false (by rintro rfl; exact hnm (hl1.symm.trans hl2)))
  have hd : ((n : Int) != (m : Int)) = true := by simpa using fun h => hnm (by omega)
  clear hx hy hnm hl1 hl2
  go_enter Tryz.func63, Tryz.ntmps63
  go_wp2
  all_goals go_ret
  all_goals exact ⟨ret_bool (by rw [HF.out]), 0, rfl⟩
 subst hnm
 have HX := Lib.hid hx
 have HY := Lib.hid hy
 clear hx hy
 go_enter Tryz.func63, Tryz.ntmps63
 go_wp2_with fail
 go_loopw [5] (fun i wr => ∃ j : Nat, j ≤ n ∧ i = .int .i64 j ∧ Hid (xs.take j = ys.take j) ∧ Hid (∃ q, wr = w.drewN q)) (fun i _ => n - (intOf i).toNat)
 case atStart => exact ⟨0, by omega, rfl, Lib.hid (by simp), Lib.hid ⟨0, rfl⟩⟩
 case round =>
  obtain ⟨j, hj, rfl, HT, HB⟩ := hrel
  by_cases hlt : j < n
  ·
   obtain ⟨b1, o1, x, p, r, rfl, g1, z1, x0, x1, x2, sp, sr⟩ := HAt.cells (HX.out.below (drew_bel HB.out)) hlt
   obtain ⟨b2, o2, y, p', r', rfl, g2, z2, y0, y1, y2, sp', sr'⟩ := HAt.cells (HY.out.below (drew_bel HB.out)) hlt
   have S1 := Lib.hid (fun k => rsameq_any p.1 p.2.1 p.2.2 p'.1 p'.2.1 p'.2.2 x.2.1 y.2.1 (wr.drewN k) (sp.2.below (below_drewN _ _)) (sp'.2.below (below_drewN _ _)))
   have S2 := Lib.hid (fun k => rsameq_any r.1 r.2.1 r.2.2 r'.1 r'.2.1 r'.2.2 x.2.2 y.2.2 (wr.drewN k) (sr.2.below (below_drewN _ _)) (sr'.2.below (below_drewN _ _)))
   have HE := Lib.hid (chg_eq x y)
   have HN : Hid (x = y → xs.take (j + 1) = ys.take (j + 1)) := Lib.hid (fun h => take_next HT.out g1 (by rw [h]; exact g2))
   have HM : Hid (x ≠ y → decide (xs = ys) = false) := Lib.hid (fun h => decide_eq_false (ne_at g1 g2 h))
   have k1 : (j : Int) < n := by omega
   have k2 : (0 : Int) ≤ j := by omega
   clear g1 g2 sp sr sp' sr'
   generalize decide (x.2.1 = y.2.1) = d1 at *
   generalize decide (x.2.2 = y.2.2) = d2 at *
   go_upto_region 6 with fail
   go_cut [55] (fun s55 wx => s55 = .bool (!decide (x = y)) ∧ ∃ k, wx = wr.drewN k)
   case first =>
    by_cases hc : x.1 = y.1
    ·
     have p1 : ((arr x.1).toList == (arr y.1).toList) = true := by rw [hc]; simp
     have HE2 : Hid (decide (x = y) = (d1 && d2)) := Lib.hid (by rw [HE.out, decide_eq_true hc]; rfl)
     clear hc HE
     cases d1
     ·
      go_quiet ((go_at_call 40; with_reducible exact Calls.quiet_of (S1.out _)))
      go_wp2_with fail
      go_meet
      exact ⟨by rw [HE2.out]; rfl, _, rfl⟩
     ·
      cases d2
      all_goals
       go_quiet (first | (go_at_call 40; with_reducible exact Calls.quiet_of (S1.out _)) | (go_at_call 40; with_reducible exact Calls.quiet_of (S2.out _)))
       go_wp2_with fail
       go_meet
       exact ⟨by rw [HE2.out]; rfl, _, rfl⟩
    ·
     have p1 : ((arr x.1).toList == (arr y.1).toList) = false := by rw [arr_toList, arr_toList]; simpa using hc
     have HE2 : Hid (decide (x = y) = false) := Lib.hid (by rw [HE.out, decide_eq_false hc]; rfl)
     clear hc HE
     go_quiet (fail)
     go_wp2_with fail
     go_meet
     exact ⟨by rw [HE2.out]; rfl, _, rfl⟩
   case rest =>
    obtain ⟨rfl, hbz⟩ := hcut
    have HB2 : Hid (∃ k, wc = w.drewN k) := Lib.hid (by obtain ⟨k, rfl⟩ := hbz; exact drew_more HB.out k)
    clear hbz
    by_cases he : x = y
    ·
     have hd : decide (x = y) = true := decide_eq_true he
     have HN2 := Lib.hid (HN.out he)
     rw [hd]
     clear hd he
     go_wp2_with fail
     go_roundw
     case rel => exact ⟨j + 1, by omega, by go_num, HN2, HB2⟩
     case measure => simp [intOf]; omega
    ·
     have hd : decide (x = y) = false := decide_eq_false he
     have HF := Lib.hid (HM.out he)
     rw [hd]
     clear hd he
     go_wp2_with fail
     go_ret
     exact ⟨ret_bool (by rw [HF.out]), HB2.out⟩
  ·
   obtain rfl : n = j := by omega
   have HF : Hid (decide (xs = ys) = true) := Lib.hid (decide_eq_true (by
    have := HT.out
    rw [List.take_of_length_le (by omega), List.take_of_length_le (by omega)] at this
    exact this))
   go_wp2_with fail
   go_ret
   exact ⟨ret_bool (by rw [HF.out]), HB.out⟩

set_option maxRecDepth 100000 in
set_option maxHeartbeats 4000000 in
theorem rsameV_any (a : Option Addr) (n c : Nat) (b : Option Addr) (m q : Nat) (xs ys : List Ver) (w : World) (hx : VAt w a n xs) (hy : VAt w b m ys) :
  Calls Tryz.prog 19 #[.slice a n c, .slice b m q] w (RetQ (.bool (decide (xs = ys))) w) := by
 have n1 := hx.len.2
 have n2 := hy.len.2
 have hl1 := hx.len.1
 have hl2 := hy.len.1
 by_cases hnm : n = m
 rotate_left
 ·
  have HF : Hid (decide (xs = ys) = false) := Lib.hid (decide_eq_false (by rintro rfl; exact hnm (hl1.symm.trans hl2)))
  have hd : ((n : Int) != (m : Int)) = true := by simpa using fun h => hnm (by omega)
  clear hx hy hnm hl1 hl2
  go_enter Tryz.func19, Tryz.ntmps19
  go_wp2
  all_goals go_ret
  all_goals exact ⟨ret_bool (by rw [HF.out]), 0, rfl⟩
 subst hnm
 have HX := Lib.hid hx
 have HY := Lib.hid hy
 clear hx hy
 go_enter Tryz.func19, Tryz.ntmps19
 go_wp2_with fail
 go_loopw [5] (fun i wr => ∃ j : Nat, j ≤ n ∧ i = .int .i64 j ∧ Hid (xs.take j = ys.take j) ∧ Hid (∃ q, wr = w.drewN q)) (fun i _ => n - (intOf i).toNat)
 case atStart => exact ⟨0, by omega, rfl, Lib.hid (by simp), Lib.hid ⟨0, rfl⟩⟩
 case round =>
  obtain ⟨j, hj, rfl, HT, HB⟩ := hrel
  by_cases hlt : j < n
  ·
   obtain ⟨b1, o1, x, r, rfl, g1, z1, x0, x1, x2, sr⟩ := VAt.cells (HX.out.below (drew_bel HB.out)) hlt
   obtain ⟨b2, o2, y, r', rfl, g2, z2, y0, y1, y2, sr'⟩ := VAt.cells (HY.out.below (drew_bel HB.out)) hlt
   have S2 := Lib.hid (fun k => rsameC_any r.1 r.2.1 r.2.2 r'.1 r'.2.1 r'.2.2 x.2.2 y.2.2 (wr.drewN k) (sr.2.below (below_drewN _ _)) (sr'.2.below (below_drewN _ _)))
   have HE := Lib.hid (ver_eq x y)
   have HN : Hid (x = y → xs.take (j + 1) = ys.take (j + 1)) := Lib.hid (fun h => take_next HT.out g1 (by rw [h]; exact g2))
   have HM : Hid (x ≠ y → decide (xs = ys) = false) := Lib.hid (fun h => decide_eq_false (ne_at g1 g2 h))
   have k1 : (j : Int) < n := by omega
   have k2 : (0 : Int) ≤ j := by omega
   clear g1 g2 sr sr'
   generalize decide (x.2.2 = y.2.2) = d2 at *
   go_upto_region 6 with fail
   go_cut [54] (fun s54 wx => s54 = .bool (!decide (x = y)) ∧ ∃ k, wx = wr.drewN k)
   case first =>
    cases h1 : (x.1 == y.1)
    all_goals have h1' := congrArg (fun b => !b) h1
    all_goals simp only [Bool.not_true, Bool.not_false] at h1'
    all_goals replace h1' : (x.1 != y.1) = _ := h1'
    ·
     have HE2 : Hid (decide (x = y) = false) := Lib.hid (by rw [HE.out, h1]; rfl)
     clear HE
     go_quiet (fail)
     go_wp2_with fail
     go_meet
     exact ⟨by rw [HE2.out]; rfl, _, rfl⟩
    ·
     cases h2 : (x.2.1 == y.2.1)
     all_goals have h2' := congrArg (fun b => !b) h2
     all_goals simp only [Bool.not_true, Bool.not_false] at h2'
     all_goals replace h2' : (x.2.1 != y.2.1) = _ := h2'
     ·
      have HE2 : Hid (decide (x = y) = false) := Lib.hid (by rw [HE.out, h1, h2]; rfl)
      clear HE
      go_quiet (fail)
      go_wp2_with fail
      go_meet
      exact ⟨by rw [HE2.out]; rfl, _, rfl⟩
     ·
      have HE2 : Hid (decide (x = y) = d2) := Lib.hid (by rw [HE.out, h1, h2]; rfl)
      clear HE
      cases d2
      all_goals
       go_quiet ((go_at_call 63; with_reducible exact Calls.quiet_of (S2.out _)))
       go_wp2_with fail
       go_meet
       exact ⟨by rw [HE2.out]; rfl, _, rfl⟩
   case rest =>
    obtain ⟨rfl, hbz⟩ := hcut
    have HB2 : Hid (∃ k, wc = w.drewN k) := Lib.hid (by obtain ⟨k, rfl⟩ := hbz; exact drew_more HB.out k)
    clear hbz
    by_cases he : x = y
    ·
     have hd : decide (x = y) = true := decide_eq_true he
     have HN2 := Lib.hid (HN.out he)
     rw [hd]
     clear hd he
     go_wp2_with fail
     go_roundw
     case rel => exact ⟨j + 1, by omega, by go_num, HN2, HB2⟩
     case measure => simp [intOf]; omega
    ·
     have hd : decide (x = y) = false := decide_eq_false he
     have HF := Lib.hid (HM.out he)
     rw [hd]
     clear hd he
     go_wp2_with fail
     go_ret
     exact ⟨ret_bool (by rw [HF.out]), HB2.out⟩
  ·
   obtain rfl : n = j := by omega
   have HF : Hid (decide (xs = ys) = true) := Lib.hid (decide_eq_true (by
    have := HT.out
    rw [List.take_of_length_le (by omega), List.take_of_length_le (by omega)] at this
    exact this))
   go_wp2_with fail
   go_ret
   exact ⟨ret_bool (by rw [HF.out]), HB.out⟩
end Go.Proofs.YtihbpggbpapcfaaGreatDoor

namespace Go.Proofs.YtihbpggbpapcfaaGreatDoor
open Go.RowKit

set_option maxRecDepth 100000 in
set_option maxHeartbeats 2000000 in
theorem rsum_any (a : Option Addr) (n c : Nat) (bs : L8) (w : World) (hx : BAt w a n bs) :
  Calls Tryz.prog 21 #[.slice a n c] w (RetS (.int .i64 (crcN bs)) w) := by
 have hl := hx.1
 have n1 := hx.2.1
 have HX := Lib.hid hx
 clear hx
 go_enter Tryz.func21, Tryz.ntmps21
 go_wp2_with fail
 go_loop [3, 4] (fun v i => ∃ (j q : Nat), j ≤ n ∧ i = .int .i64 j ∧ v = .int .u32 q ∧ q < 4294967296 ∧ Hid (crcL 4294967295 (bs.take j) = q)) (fun _ i => n - (intOf i).toNat)
 case atStart => exact ⟨0, 4294967295, by omega, rfl, rfl, by omega, Lib.hid rfl⟩
 case round =>
  obtain ⟨j, q, hj, rfl, rfl, hq, HQ⟩ := hrel
  by_cases hlt : j < n
  ·
   obtain ⟨b1, o1, x, rfl, g1, z1, x0⟩ := BAt.cells HX.out hlt
   have HT := Lib.hid (crcL_take (c := 4294967295) g1)
   have hxl := x.toNat_lt
   have q1 : (j : Int) < n := by omega
   have q2 : (0 : Int) ≤ (j : Int) := by omega
   have hxx := xor32 q x.toNat hq (by omega)
   have hxq := xor_lt hq x
   clear g1
   rw [HQ.out] at HT
   generalize q ^^^ x.toNat = q0 at *
   go_wp2_with fail
   go_loop [3, 5] (fun v i => ∃ (k r : Nat), k ≤ 8 ∧ i = .int .i64 k ∧ v = .int .u32 r ∧ r < 4294967296 ∧ Hid (crcK k q0 = r)) (fun _ i => 8 - (intOf i).toNat)
   case atStart => exact ⟨0, q0, by omega, rfl, by go_num, hxq, Lib.hid rfl⟩
   case round =>
    obtain ⟨k, r, hk, rfl, rfl, hr, HK⟩ := hrel
    by_cases hlk : k < 8
    ·
     have ha := and32 r hr
     have hs : Hid (crcK (k + 1) q0 = crcS r) := Lib.hid (by rw [crcK, HK.out])
     have hlt2 := crcS_lt hr
     by_cases hodd : r % 2 = 1
     ·
      rw [hodd] at ha
      have hx2 := xor32 (r / 2) 3988292384 (by omega) (by omega)
      have he : Hid (crcS r = (r / 2) ^^^ 3988292384) := Lib.hid (by unfold crcS; rw [if_pos hodd])
      rw [he.out] at hs hlt2
      clear he hodd
      go_wp2_with fail
      go_round
      case rel => exact ⟨k + 1, _, by omega, by go_num, by first | rfl | (rw [← hx2]; rfl) | skip, hlt2, hs⟩
      case measure => simp [intOf]; omega
     ·
      have hev : r % 2 = 0 := by omega
      rw [hev] at ha
      have he : Hid (crcS r = r / 2) := Lib.hid (by unfold crcS; rw [if_neg hodd])
      rw [he.out] at hs hlt2
      clear he hodd hev
      go_wp2_with fail
      go_round
      case rel => exact ⟨k + 1, _, by omega, by go_num, by first | rfl | skip, hlt2, hs⟩
      case measure => simp [intOf]; omega
    ·
     obtain rfl : k = 8 := by omega
     have HT2 : Hid (crcL 4294967295 (bs.take (j + 1)) = r) := Lib.hid (by rw [HT.out, HK.out])
     go_wp2_with fail
     go_round
     case rel => exact ⟨j + 1, r, by omega, by go_num, rfl, hr, HT2⟩
     case measure => simp [intOf]; omega
  ·
   obtain rfl : j = n := by omega
   have HF : Hid (crcN bs = 4294967295 - q) := Lib.hid (by
    have := HQ.out
    rw [List.take_of_length_le (by omega)] at this
    unfold crcN; rw [this])
   have HE : Hid (wrap64 (bits .xor .u32 IntKind.u32.max (q : Int)) = ((4294967295 - q : Nat) : Int)) := Lib.hid (by
    have e : bits .xor .u32 IntKind.u32.max (q : Int) = ((4294967295 - q : Nat) : Int) := not32 q hq
    rw [e]; unfold wrap64; omega)
   go_wp2_with fail
   go_ret
   exact ⟨ret_int (by rw [HF.out, HE.out]), rfl⟩
end Go.Proofs.YtihbpggbpapcfaaGreatDoor

namespace Go.Proofs.YtihbpggbpapcfaaGreatDoor
open Go.RowKit

set_option maxRecDepth 100000 in
set_option maxHeartbeats 2000000 in
theorem rdecimal_any (n : Nat) (w : World) (hn : n < 9223372036854775808) :
  Calls Tryz.prog 57 #[.int .i64 n] w (RetB (.string (arr (Lib.itoa n))) w) := by
 have HD : Hid (Lib.itoa n = Lib.decDigits n) := Lib.hid (itoa_pos (n := (n : Int)) (by omega))
 have HL : Hid ((Lib.decDigits n).length ≤ 20) := Lib.hid (by rw [Lib.decDigits_length]; exact Lib.nDigits_le20 n (by omega))
 go_enter Tryz.func57, Tryz.ntmps57
 go_wp2_with fail
 go_loopw [0, 3] (fun i v wr => ∃ (n' : Nat) (s : L8), i = .int .i64 n' ∧ v = .string (arr s) ∧ n' ≤ n ∧ Hid (DecR n n' s) ∧ Hid (Below w.heap.size w wr)) (fun i v _ => (intOf i).toNat + strLen v)
 case atStart => exact ⟨n, [], rfl, rfl, by omega, Lib.hid (Or.inl ⟨rfl, rfl⟩), Lib.hid (Below.refl _ _)⟩
 case round =>
  obtain ⟨n', s, rfl, rfl, hn', HR, HB⟩ := hrel
  have hsl : s.length ≤ 20 := Nat.le_trans HR.out.len HL.out
  have hsz := arr_size s
  have he := arr_empty s
  by_cases hg : 0 < n' ∨ s = []
  ·
   have HS := Lib.hid (HR.out.step hg)
   have hcv := one_str wr (UInt8.ofNat (48 + n' % 10)) (48 + (n' : Int) % 10) (by rw [UInt8.toNat_ofNat']; omega)
   have hap := arr_app [UInt8.ofNat (48 + n' % 10)] s
   have ho1 : (arr [UInt8.ofNat (48 + n' % 10)]).size = 1 := arr_size _
   have HB2 : Hid (∀ o : Obj, Below w.heap.size w (wr.alloc o)) := Lib.hid (fun o => HB.out.alloc HB.out.size o)
   rcases (show 0 < n' ∨ (n' = 0 ∧ s = []) from by
    rcases hg with h | h
    ·
     exact Or.inl h
    ·
     by_cases h0 : n' = 0
     ·
      exact Or.inr ⟨h0, h⟩
     ·
      exact Or.inl (by omega)) with hp | ⟨rfl, rfl⟩
   ·
    clear hg he
    generalize UInt8.ofNat (48 + n' % 10) = d at *
    go_wp2_with fail
    go_roundw
    case rel => exact ⟨n' / 10, d :: s, by go_num, rfl, by omega, HS, Lib.hid (HB2.out _)⟩
    case measure => simp [intOf, strLen, arr_size]; split <;> omega
   ·
    clear hg hcv hap ho1
    have hcv := one_str wr 48 48 rfl
    have hap := arr_app [48] []
    have ho1 : (arr [48]).size = 1 := arr_size _
    go_wp2_with fail
    go_roundw
    case rel => exact ⟨0, [48], rfl, rfl, by omega, HS, Lib.hid (HB2.out _)⟩
    case measure => simp [intOf, strLen, arr_size]
  ·
   have h0 : n' = 0 := by omega
   subst h0
   have hne : s ≠ [] := fun h => hg (Or.inr h)
   have HF := Lib.hid (HR.out.done hne)
   rw [decide_eq_false hne] at he
   have he2 : ¬ (arr s).toList = [] := by rw [arr_toList]; exact hne
   clear hg hne
   go_wp2_with fail
   go_ret
   exact ⟨by rw [HD.out, HF.out]; rfl, HB.out⟩
end Go.Proofs.YtihbpggbpapcfaaGreatDoor

namespace Go.Proofs.YtihbpggbpapcfaaGreatDoor
open Go.RowKit

theorem and15 (m : Nat) (h : m < 4294967296) : bits .and .i64 (m : Int) 15 = ((m % 16 : Nat) : Int) := by
 show IntKind.i64.wrap (((BitVec.ofInt 64 (m : Int) &&& BitVec.ofInt 64 ((15 : Nat) : Int)).toNat : Nat) : Int) = _
 rw [BitVec.toNat_and, ofInt_small m (by omega), ofInt_small 15 (by omega), show (15 : Nat) = 2 ^ 4 - 1 by decide, Nat.and_two_pow_sub_one_eq_mod]
 exact IntWalk.i64_in _ (by omega)
theorem hexTab (d : Nat) (h : d < 16) : (⟨#[48, 49, 50, 51, 52, 53, 54, 55, 56, 57, 97, 98, 99, 100, 101, 102]⟩ : ByteArray)[d]'h = hexD d := by
 have : ∀ d : Fin 16, (⟨#[48, 49, 50, 51, 52, 53, 54, 55, 56, 57, 97, 98, 99, 100, 101, 102]⟩ : ByteArray)[d.val]'d.isLt = hexD d.val := by decide
 exact this ⟨d, h⟩

set_option maxRecDepth 100000 in
set_option maxHeartbeats 2000000 in
theorem rhex_any (n : Nat) (w : World) (hn : n < 4294967296) :
  Calls Tryz.prog 59 #[.int .i64 n] w (RetB (.string (arr (hexK 8 n))) w) := by
 have hmk : ∀ W : World, (Instr.makeSlice 26 (.int .i64 8) (.int .i64 8)).run Tryz.prog W = .ok (.slice (some ⟨W.heap.size, 0, none⟩) 8 8) (W.alloc (.cells (hexC n 0).toArray 5)) := fun _ => by kernel_rfl
 have HBW := Lib.hid ((Below.refl w.heap.size w).alloc (Nat.le_refl _) (.cells (hexC n 0).toArray 5))
 have HHP := Lib.hid (heap_alloc_new w (.cells (hexC n 0).toArray 5))
 go_enter Tryz.func59, Tryz.ntmps59
 go_wp2_with fail
 clear hmk
 generalize w.alloc (.cells (hexC n 0).toArray 5) = w1 at *
 generalize hg : w.heap.size = g at *
 have HG := Lib.hid hg
 clear hg
 go_loopw [0, 4] (fun m i wr => ∃ k : Nat, k ≤ 8 ∧ i = .int .i64 (7 - (k : Int)) ∧ m = .int .i64 ((n / 16 ^ k : Nat) : Int) ∧ Hid (wr.heap[g]? = some (.cells (hexC n k).toArray 5 (0, 0))) ∧ Hid (Below g w wr)) (fun _ i _ => (intOf i + 1).toNat)
 case atStart => exact ⟨0, by omega, rfl, by rw [Nat.pow_zero, Nat.div_one], HHP, HBW⟩
 case round =>
  obtain ⟨k, hk, rfl, rfl, HH, HB⟩ := hrel
  by_cases hlt : k < 8
  ·
   have hcs := hexC_len n k hk
   have hcell : wr.cell? ⟨g, 7 - k, none⟩ = some ((hexC n k)[7 - k]'(by omega)) := by
    rw [cell_of_row _ _ (7 - k) _ _ _ HH.out, List.getElem?_toArray, List.getElem?_eq_getElem (by omega)]
   have hfz : wr.frozen? ⟨g, 7 - k, none⟩ = false := frozen_of_row _ _ _ _ _ HH.out
   have hb15 : bits .and .i64 ((n / 16 ^ k : Nat) : Int) 15 = ((n / 16 ^ k % 16 : Nat) : Int) := and15 _ (Nat.lt_of_le_of_lt (Nat.div_le_self _ _) (by omega))
   have hle : n / 16 ^ k ≤ n := Nat.div_le_self _ _
   have hm16 : n / 16 ^ k % 16 < 16 := Nat.mod_lt _ (by omega)
   have hdv : Hid (n / 16 ^ (k + 1) = n / 16 ^ k / 16) := Lib.hid (by rw [Nat.pow_succ, Nat.div_div_eq_div_mul])
   have HST := Lib.hid (hexC_set n k hlt)
   generalize n / 16 ^ k = m at *
   generalize m % 16 = d at *
   have hdd : d < 16 := hm16
   have HSA : Hid (∀ u : Value, (wr.setCell ⟨g, 7 - k, none⟩ u).heap[g]? = some (.cells ((hexC n k).set (7 - k) u).toArray 5 (0, 0))) := Lib.hid (fun u => by
    rw [heap_setCell_same wr g (7 - k) _ _ u HH.out, List.setIfInBounds_toArray])
   have HBS : Hid (∀ u : Value, Below g w (wr.setCell ⟨g, 7 - k, none⟩ u)) := Lib.hid (fun u => HB.out.setCell (p := ⟨g, 7 - k, none⟩) (Nat.le_refl g) u)
   go_wp2_with fail
   go_roundw
   case rel =>
    refine ⟨k + 1, by omega, by go_num, by rw [hdv.out]; go_num, Lib.hid ?_, Lib.hid (HBS.out _)⟩
    rw [HSA.out, hexTab d hdd, HST.out]
   case measure => simp [intOf]; omega
  ·
   obtain rfl : k = 8 := by omega
   have hcv : (convert 26 9 (.slice (some ⟨g, 0, none⟩) 8 8)).run Tryz.prog wr = .ok (.string (arr (hexK 8 n))) wr := by
    have h8 := hexK_len 8 n
    have := run_convert_bytes_back (P := Tryz.prog) wr 26 9 5 ⟨g, 0, none⟩ 8 (hexK 8 n) Tryz.underlying26 Tryz.underlying5 Tryz.underlying9 (fun j hj => by
     rw [Go.WideShapes.add_plain, Nat.zero_add, cell_of_row _ _ j _ _ _ HH.out, List.getElem?_toArray]
     have e : hexC n 8 = (hexK 8 n).flatMap bytC := rfl
     have h2 := flat_at bytC 1 encByt.len (hexK 8 n) j 0 _ (List.getElem?_eq_getElem hj) (by omega)
     rw [Nat.mul_one, Nat.add_zero] at h2
     rw [e, h2]; rfl)
    rw [h8] at this
    exact this
   go_wp2_with fail
   go_ret
   refine ⟨rfl, ?_⟩
   rw [HG.out]; exact HB.out
end Go.Proofs.YtihbpggbpapcfaaGreatDoor

namespace Go.Proofs.YtihbpggbpapcfaaGreatDoor
open Go.RowKit

set_option maxRecDepth 100000 in
set_option maxHeartbeats 2000000 in
theorem rown_any (a : Option Addr) (n c : Nat) (xs : List Ses) (k : L8) (w : World) (hx : SAt w a n xs) (hs : StrOk xs) :
  Calls Tryz.prog 95 #[.slice a n c, .string (arr k)] w (RetB (.bool (ownB xs k)) w) := by
 have hl := hx.1
 have n1 := hx.2.1
 have HX := Lib.hid hx
 have VN := Lib.hid (fun W (h : Below w.heap.size w W) => rvalidS_any a n c xs 20 W (hx.below h) hs)
 have HO : Hid (ownB xs k = (xs.all (fun s => decide (s.1 = k)) && decide (vldS xs 20 = 0))) := Lib.hid rfl
 clear hx
 generalize vldS xs 20 = e1 at *
 go_enter Tryz.func95, Tryz.ntmps95
 go_wp2_with fail
 go_loop [5] (fun i => ∃ j : Nat, j ≤ n ∧ i = .int .i64 j ∧ Hid (∀ (i : Nat) (s : Ses), i < j → xs[i]? = some s → s.1 = k)) (fun i => n - (intOf i).toNat)
 case atStart => exact ⟨0, by omega, rfl, Lib.hid (fun i s h => by omega)⟩
 case round =>
  obtain ⟨j, hj, rfl, HA⟩ := hrel
  by_cases hlt : j < n
  ·
   obtain ⟨b1, o1, s1, rfl, g1, z1, x0, x1, x2, x3, x4, x5⟩ := SAt.cells HX.out hlt
   have k1 : (j : Int) < n := by omega
   have k2 : (0 : Int) ≤ j := by omega
   have HG := Lib.hid g1
   clear g1 x1 x2 x3 x4 x5
   by_cases he : s1.1 = k
   ·
    have p1 : ((arr s1.1).toList == (arr k).toList) = true := by rw [he]; simp
    have p2 : (arr s1.1).toList = (arr k).toList := by rw [he]
    have HA2 : Hid (∀ (i : Nat) (s : Ses), i < j + 1 → xs[i]? = some s → s.1 = k) := Lib.hid (fun i s h h2 => by
     rcases Nat.lt_or_ge i j with h3 | h3
     ·
      exact HA.out i s h3 h2
     ·
      have : i = j := by omega
      subst this
      rw [HG.out] at h2; cases h2; exact he)
    clear he
    go_wp2_with fail
    go_round
    case rel => exact ⟨j + 1, by omega, by go_num, HA2⟩
    case measure => simp [intOf]; omega
   ·
    have p1 : ((arr s1.1).toList == (arr k).toList) = false := by rw [arr_toList, arr_toList]; simpa using he
    have p2 : ¬ (arr s1.1).toList = (arr k).toList := by rw [arr_toList, arr_toList]; exact he
    have HF : Hid (ownB xs k = false) := Lib.hid (by
     rw [HO.out]
     have : xs.all (fun s => decide (s.1 = k)) = false := by
      rw [List.all_eq_false]
      exact ⟨s1, List.mem_of_getElem? HG.out, by simpa using he⟩
     rw [this]; rfl)
    clear he
    go_wp2_with fail
    go_ret
    exact ⟨ret_bool (by rw [HF.out]), Below.refl _ _⟩
  ·
   obtain rfl : j = n := by omega
   have HF : Hid (ownB xs k = decide (e1 = 0)) := Lib.hid (by
    rw [HO.out]
    have : xs.all (fun s => decide (s.1 = k)) = true := by
     rw [List.all_eq_true]
     intro s hs
     obtain ⟨i, hi, rfl⟩ := List.getElem_of_mem hs
     exact decide_eq_true (HA.out i _ (by omega) (List.getElem?_eq_getElem hi))
    rw [this]; rfl)
   go_wp2_with fail
   refine (VN.out _ (Below.refl _ _)).mono ?_
   rintro en w1 ⟨rfl, hb1⟩
   have HB := Lib.hid hb1
   clear hb1
   by_cases hz : e1 = 0
   ·
    have hd : (e1 == 0) = true := by simpa using hz
    have HF2 : Hid (ownB xs k = true) := Lib.hid (by rw [HF.out, decide_eq_true hz])
    clear hz
    go_wp2_with fail
    go_ret
    exact ⟨ret_bool (by rw [HF2.out]), HB.out⟩
   ·
    have hd : (e1 == 0) = false := by simpa using hz
    have HF2 : Hid (ownB xs k = false) := Lib.hid (by rw [HF.out, decide_eq_false hz])
    clear hz
    go_wp2_with fail
    go_ret
    exact ⟨ret_bool (by rw [HF2.out]), HB.out⟩

set_option maxRecDepth 100000 in
set_option maxHeartbeats 4000000 in
theorem rformed_any (v : Ver) (s : Sl) (w : World) (hv : HV w s v.2.2) (hk : VOk v) :
  Calls Tryz.prog 56 #[verV v.1 v.2.1 s] w (RetB (.bool (frmV v)) w) := by
 have hl := hv.2.len.1
 have n1 := hv.2.len.2
 have HX := Lib.hid hv
 have HK := Lib.hid hk
 have HB0 := Lib.hid (Box3.mk0 (w := w) (.int .i64 v.1) (.int .i64 v.2.1) (.slice s.1 s.2.1 s.2.2) 24)
 have OC := Lib.hid (fun W (h : Below w.heap.size w W) => rordC_any s.1 s.2.1 s.2.2 v.2.2 W (hv.2.below h))
 have HF : Hid (frmV v = (decide (1 ≤ v.1 ∧ v.1 ≤ 64 ∧ 1 ≤ v.2.1 ∧ v.2.1 ≤ 20 ∧ v.2.2 ≠ []) && ordC none v.2.2 && v.2.2.all chgOk)) := Lib.hid rfl
 obtain ⟨num, wk, cs⟩ := v
 obtain ⟨a, n, c⟩ := s
 simp only at *
 have he : Hid (cs = [] ↔ n = 0) := Lib.hid (by rw [← hl]; exact List.length_eq_zero_iff.symm)
 clear hv hk
 by_cases hok : 1 ≤ num ∧ num ≤ 64 ∧ 1 ≤ wk ∧ wk ≤ 20 ∧ n ≠ 0
 rotate_left
 ·
  have HF2 : Hid (frmV (num, wk, cs) = false) := Lib.hid (by
   rw [HF.out, decide_eq_false]; · rfl
   rintro ⟨h1, h2, h3, h4, h5⟩
   exact hok ⟨h1, h2, h3, h4, fun h => h5 (he.out.2 h)⟩)
  rcases (show num < 1 ∨ (1 ≤ num ∧ 64 < num) ∨ (1 ≤ num ∧ num ≤ 64 ∧ wk < 1) ∨ (1 ≤ num ∧ num ≤ 64 ∧ 1 ≤ wk ∧ 20 < wk) ∨ (1 ≤ num ∧ num ≤ 64 ∧ 1 ≤ wk ∧ wk ≤ 20 ∧ n = 0) by omega) with h | ⟨h, h1⟩ | ⟨h, h1, h2⟩ | ⟨h, h1, h2, h3⟩ | ⟨h, h1, h2, h3, h4⟩
  all_goals
   clear hok
   try subst h4
   go_enter Tryz.func56, Tryz.ntmps56
   go_wp2_with fail
   go_ret
   exact ⟨ret_bool (by rw [HF2.out]), HB0.out.bl⟩
 obtain ⟨h1, h2, h3, h4, h5⟩ := hok
 have hn0 : ((n : Int) == 0) = false := by rw [beq_eq_false_iff_ne]; omega
 have HF1 : Hid (frmV (num, wk, cs) = (ordC none cs && cs.all chgOk)) := Lib.hid (by
  rw [HF.out, decide_eq_true ⟨h1, h2, h3, h4, fun h => h5 (he.out.1 h)⟩]; rfl)
 clear HF he
 go_enter Tryz.func56, Tryz.ntmps56
 go_wp2_with fail
 refine (OC.out _ HB0.out.bl).mono ?_
 rintro en w1 ⟨rfl, hq1⟩
 have HB1 := Lib.hid (HB0.out.next (drew_bel hq1))
 clear hq1 OC HB0
 obtain ⟨c0, c1, c2, sz, _⟩ := HB1.out
 cases hoc : ordC none cs
 ·
  have HF2 : Hid (frmV (num, wk, cs) = false) := Lib.hid (by rw [HF1.out, hoc]; rfl)
  clear hoc
  go_wp2_with fail
  go_ret
  exact ⟨ret_bool (by rw [HF2.out]), HB1.out.bl⟩
 have HF2 : Hid (frmV (num, wk, cs) = cs.all chgOk) := Lib.hid (by rw [HF1.out, hoc]; rfl)
 clear hoc HF1
 go_wp2_with fail
 go_loopw [3] (fun i wr => ∃ j : Nat, j ≤ n ∧ i = .int .i64 j ∧ Hid (∀ (i : Nat) (x : Chg), i < j → cs[i]? = some x → chgOk x = true) ∧ Hid (Box3 w wr w.heap.size (.int .i64 num) (.int .i64 wk) (.slice a n c))) (fun i _ => n - (intOf i).toNat)
 case atStart => exact ⟨0, by omega, rfl, Lib.hid (fun i s h => by omega), HB1⟩
 case round =>
  clear c0 c1 c2 sz HB1
  obtain ⟨j, hj, rfl, HA, HB1⟩ := hrel
  obtain ⟨c0, c1, c2, sz, _⟩ := HB1.out
  by_cases hlt : j < n
  ·
   obtain ⟨b1, o1, x, p, q, rfl, g1, z1, x0, x1, x2, sp, sq⟩ := HAt.cells (HX.out.2.below HB1.out.bl) hlt
   have HG := Lib.hid g1
   have hxk := HK.out x (List.mem_of_getElem? g1)
   have k1 : (j : Int) < n := by omega
   have k2 : (0 : Int) ≤ j := by omega
   have RC := Lib.hid (fun W => rcode_l x.1 hxk.1 W)
   have O1 := Lib.hid (fun W (h : Below wr.heap.size wr W) => rown_any p.1 p.2.1 p.2.2 x.2.1 x.1 W (sp.2.below h) hxk.2.1.str)
   have O2 := Lib.hid (fun W (h : Below wr.heap.size wr W) => rown_any q.1 q.2.1 q.2.2 x.2.2 x.1 W (sq.2.below h) hxk.2.2.str)
   have HCK : Hid (chgOk x = (codeOk x.1 && ownB x.2.1 x.1 && ownB x.2.2 x.1)) := Lib.hid rfl
   have HYES : Hid (chgOk x = true → ∀ (i : Nat) (x : Chg), i < j + 1 → cs[i]? = some x → chgOk x = true) := Lib.hid (fun hd i y h h2 => by
    rcases Nat.lt_or_ge i j with h3 | h3
    ·
     exact HA.out i y h3 h2
    ·
     have : i = j := by omega
     subst this
     rw [HG.out] at h2; cases h2; exact hd)
   have HNO : Hid (chgOk x = false → frmV (num, wk, cs) = false) := Lib.hid (fun hd => by
    rw [HF2.out, List.all_eq_false]
    exact ⟨x, List.mem_of_getElem? HG.out, by rw [hd]; simp⟩)
   have HD0 := Lib.hid (Box3.mk0 (w := wr) (.string (arr x.1)) (.slice p.1 p.2.1 p.2.2) (.slice q.1 q.2.1 q.2.2) 101)
   have HB2 := Lib.hid (HB1.out.next HD0.out.bl)
   clear g1 sp sq hxk
   generalize codeOk x.1 = d1 at *
   generalize ownB x.2.1 x.1 = d2 at *
   generalize ownB x.2.2 x.1 = d3 at *
   go_wp2_with fail
   refine (RC.out _).mono ?_
   rintro en w2 ⟨rfl, hw2⟩
   subst hw2
   cases d1
   ·
    have HF3 := Lib.hid (HNO.out (by rw [HCK.out]; rfl))
    go_wp2_with fail
    go_ret
    exact ⟨ret_bool (by rw [HF3.out]), HB2.out.bl⟩
   obtain ⟨e0, e1, e2, ez, _⟩ := HD0.out
   go_wp2_with fail
   refine (O1.out _ HD0.out.bl).mono ?_
   rintro en w3 ⟨rfl, hb3⟩
   have HB3 := Lib.hid (HB2.out.next hb3)
   have HD3 := Lib.hid (HD0.out.next hb3)
   clear hb3 e0 e1 e2 ez x0 x1 x2 c0 c1 c2 sz HB1 HB2 HD0 O1
   obtain ⟨e0, e1, e2, ez, _⟩ := HD3.out
   cases d2
   ·
    have HF3 := Lib.hid (HNO.out (by rw [HCK.out]; rfl))
    go_wp2_with fail
    go_ret
    exact ⟨ret_bool (by rw [HF3.out]), HB3.out.bl⟩
   go_wp2_with fail
   refine (O2.out _ HD3.out.bl).mono ?_
   rintro en w4 ⟨rfl, hb4⟩
   have HB4 := Lib.hid (HB3.out.next hb4)
   clear hb4 e0 e1 e2 ez HB3 HD3 O2
   cases d3
   ·
    have HF3 := Lib.hid (HNO.out (by rw [HCK.out]; rfl))
    go_wp2_with fail
    go_ret
    exact ⟨ret_bool (by rw [HF3.out]), HB4.out.bl⟩
   have HA2 := Lib.hid (HYES.out (by rw [HCK.out]; rfl))
   go_wp2_with fail
   go_roundw
   case rel => exact ⟨j + 1, by omega, by go_num, HA2, HB4⟩
   case measure => simp [intOf]; omega
  ·
   obtain rfl : n = j := by omega
   have HF3 : Hid (frmV (num, wk, cs) = true) := Lib.hid (by
    rw [HF2.out, List.all_eq_true]
    intro y hy
    obtain ⟨i, hi, rfl⟩ := List.getElem_of_mem hy
    exact HA.out i _ (by omega) (List.getElem?_eq_getElem hi))
   go_wp2_with fail
   go_ret
   exact ⟨ret_bool (by rw [HF3.out]), HB1.out.bl⟩
end Go.Proofs.YtihbpggbpapcfaaGreatDoor

namespace Go.Proofs.YtihbpggbpapcfaaGreatDoor
open Go.RowKit

theorem cat (X Y : ByteArray) : ∃ T : ByteArray, X ++ Y = T ∧ T.size = X.size + Y.size := ⟨_, rfl, by simp⟩
theorem rdec (n : Int) (h0 : 0 ≤ n) (h1 : n < 9223372036854775808) (w : World) : Calls Tryz.prog 57 #[.int .i64 n] w (RetB (.string (arr (Lib.itoa n))) w) := by
 obtain ⟨k, rfl⟩ := Int.eq_ofNat_of_zero_le h0
 exact rdecimal_any k w (by omega)
theorem itoa_le {n : Int} (h0 : 0 ≤ n) (h1 : n < 9223372036854775808) : (arr (Lib.itoa n)).size ≤ 21 := by rw [arr_size]; exact Lib.itoa_length_le n (by omega) (by omega)

set_option maxRecDepth 100000 in
set_option maxHeartbeats 4000000 in
theorem rline_any (s : Ses) (w : World) (h : chkS s 20 = 0) : Calls Tryz.prog 58 #[sesV s.1 s.2.1 s.2.2.1 s.2.2.2.1 s.2.2.2.2.1 s.2.2.2.2.2] w (RetB (.string (arr (lineT s))) w) := by
 obtain ⟨g1, g2, g3, g4, g5, g6⟩ := chk_parts h
 have hr16 : s.2.2.2.2.2.length ≤ 16 := by
  rcases g6 with g6 | g6
  ·
   rw [g6]; simp
  ·
   exact (codeOk_of g6).2.1
 have HL : Hid (lineT s = [83, 32] ++ Lib.itoa s.2.1 ++ [32] ++ Lib.itoa s.2.2.1 ++ [32] ++ Lib.itoa s.2.2.2.1 ++ [32] ++ Lib.itoa s.2.2.2.2.1 ++ [32] ++ (if s.2.2.2.2.2 = [] then [45] else s.2.2.2.2.2) ++ [10]) := Lib.hid (by
  unfold lineT lnT lineW
  rw [join_two, join_two, join_two, join_two, join_two, Lib.join_one]
  simp)
 clear h g1 g6
 obtain ⟨cl, wk, dy, st, ln, rm⟩ := s
 simp only at *
 have HS := Lib.hid (SB.mk0 (w := w) (cl := cl) (wk := wk) (dy := dy) (st := st) (ln := ln) (rm := rm) 95)
 have he := arr_empty rm
 have D := Lib.hid (fun (n : Int) (h0 : 0 ≤ n) (h1 : n < 9223372036854775808) (W : World) => rdec n h0 h1 W)
 have y1 := itoa_le (n := wk) (by omega) (by omega)
 have y2 := itoa_le (n := dy) (by omega) (by omega)
 have y3 := itoa_le (n := st) (by omega) (by omega)
 have y4 := itoa_le (n := ln) (by omega) (by omega)
 by_cases hrm : rm = []
 ·
  have hRz : (⟨#[45]⟩ : ByteArray).size = 1 := rfl
  obtain ⟨T1, h1, z1⟩ := cat ⟨#[83, 32]⟩ (arr (Lib.itoa wk))
  obtain ⟨T2, h2, z2⟩ := cat T1 ⟨#[32]⟩
  obtain ⟨T3, h3, z3⟩ := cat T2 (arr (Lib.itoa dy))
  obtain ⟨T4, h4, z4⟩ := cat T3 ⟨#[32]⟩
  obtain ⟨T5, h5, z5⟩ := cat T4 (arr (Lib.itoa st))
  obtain ⟨T6, h6, z6⟩ := cat T5 ⟨#[32]⟩
  obtain ⟨T7, h7, z7⟩ := cat T6 (arr (Lib.itoa ln))
  obtain ⟨T8, h8, z8⟩ := cat T7 ⟨#[32]⟩
  obtain ⟨T9, h9, z9⟩ := cat T8 (⟨#[45]⟩ : ByteArray)
  obtain ⟨T10, h10, z10⟩ := cat T9 ⟨#[10]⟩
  have HF : Hid (T10 = arr (lineT (cl, wk, dy, st, ln, rm))) := Lib.hid (by
   rw [HL.out, ← h10, ← h9, ← h8, ← h7, ← h6, ← h5, ← h4, ← h3, ← h2, ← h1, if_pos hrm]
   rw [show (⟨#[83, 32]⟩ : ByteArray) = arr [83, 32] from rfl, show (⟨#[32]⟩ : ByteArray) = arr [32] from rfl, show (⟨#[10]⟩ : ByteArray) = arr [10] from rfl, show (⟨#[45]⟩ : ByteArray) = arr [45] from rfl]
   simp only [arr_app])
  have s1 : (⟨#[83, 32]⟩ : ByteArray).size = 2 := rfl
  have s2 : (⟨#[32]⟩ : ByteArray).size = 1 := rfl
  have s3 : (⟨#[10]⟩ : ByteArray).size = 1 := rfl
  have w1 : T1.size ≤ 200 := by omega
  have w2 : T2.size ≤ 200 := by omega
  have w3 : T3.size ≤ 200 := by omega
  have w4 : T4.size ≤ 200 := by omega
  have w5 : T5.size ≤ 200 := by omega
  have w6 : T6.size ≤ 200 := by omega
  have w7 : T7.size ≤ 200 := by omega
  have w8 : T8.size ≤ 200 := by omega
  have w9 : T9.size ≤ 200 := by omega
  have q1 : ¬ 9223372036854775807 < (⟨#[83, 32]⟩ : ByteArray).size + (arr (Lib.itoa wk)).size := by omega
  have q2 : ¬ 9223372036854775807 < T1.size + (⟨#[32]⟩ : ByteArray).size := by omega
  have q3 : ¬ 9223372036854775807 < T2.size + (arr (Lib.itoa dy)).size := by omega
  have q4 : ¬ 9223372036854775807 < T3.size + (⟨#[32]⟩ : ByteArray).size := by omega
  have q5 : ¬ 9223372036854775807 < T4.size + (arr (Lib.itoa st)).size := by omega
  have q6 : ¬ 9223372036854775807 < T5.size + (⟨#[32]⟩ : ByteArray).size := by omega
  have q7 : ¬ 9223372036854775807 < T6.size + (arr (Lib.itoa ln)).size := by omega
  have q8 : ¬ 9223372036854775807 < T7.size + (⟨#[32]⟩ : ByteArray).size := by omega
  have q9 : ¬ 9223372036854775807 < T8.size + (⟨#[45]⟩ : ByteArray).size := by omega
  have q10 : ¬ 9223372036854775807 < T9.size + (⟨#[10]⟩ : ByteArray).size := by omega
  have qa1 : ¬ 9223372036854775807 < T1.size + 1 := by omega
  have qb1 : ¬ 9223372036854775806 < T1.size := by omega
  have qc1 : ¬ 9223372036854775807 ≤ T1.size := by omega
  have qa3 : ¬ 9223372036854775807 < T3.size + 1 := by omega
  have qb3 : ¬ 9223372036854775806 < T3.size := by omega
  have qc3 : ¬ 9223372036854775807 ≤ T3.size := by omega
  have qa5 : ¬ 9223372036854775807 < T5.size + 1 := by omega
  have qb5 : ¬ 9223372036854775806 < T5.size := by omega
  have qc5 : ¬ 9223372036854775807 ≤ T5.size := by omega
  have qa7 : ¬ 9223372036854775807 < T7.size + 1 := by omega
  have qb7 : ¬ 9223372036854775806 < T7.size := by omega
  have qc7 : ¬ 9223372036854775807 ≤ T7.size := by omega
  have qa8 : ¬ 9223372036854775807 < T8.size + 1 := by omega
  have qb8 : ¬ 9223372036854775806 < T8.size := by omega
  have qc8 : ¬ 9223372036854775807 ≤ T8.size := by omega
  have qa9 : ¬ 9223372036854775807 < T9.size + 1 := by omega
  have qb9 : ¬ 9223372036854775806 < T9.size := by omega
  have qc9 : ¬ 9223372036854775807 ≤ T9.size := by omega
  have qa0 : ¬ 9223372036854775807 < 2 + (arr (Lib.itoa wk)).size := by omega
  have qb0 : ¬ 9223372036854775805 < (arr (Lib.itoa wk)).size := by omega
  have qc0 : ¬ 9223372036854775807 < (arr (Lib.itoa wk)).size + 2 := by omega
  rw [decide_eq_true hrm] at he
  have he2 : (arr rm).toList = [] := by rw [arr_toList]; exact hrm
  clear hrm hRz z1 z2 z3 z4 z5 z6 z7 z8 z9 z10 s1 s2 s3 HL hr16
  have BR := Lib.hid HS.out.bl
  generalize hA1 : arr (Lib.itoa wk) = A1 at *
  generalize hA2 : arr (Lib.itoa dy) = A2 at *
  generalize hA3 : arr (Lib.itoa st) = A3 at *
  generalize hA4 : arr (Lib.itoa ln) = A4 at *
  have D1 := Lib.hid (fun W => D.out wk (by omega) (by omega) W)
  have D2 := Lib.hid (fun W => D.out dy (by omega) (by omega) W)
  have D3 := Lib.hid (fun W => D.out st (by omega) (by omega) W)
  have D4 := Lib.hid (fun W => D.out ln (by omega) (by omega) W)
  rw [hA1] at D1; rw [hA2] at D2; rw [hA3] at D3; rw [hA4] at D4
  clear hA1 hA2 hA3 hA4 D
  go_enter Tryz.func58, Tryz.ntmps58
  go_upto_region 4 with fail
  generalize hW : w.alloc (.cells #[.string (arr cl), .int .i64 wk, .int .i64 dy, .int .i64 st, .int .i64 ln, .string (arr rm)] 95) = W at *
  clear hW
  generalize hB1 : w.heap.size = B1 at *
  have HB1 := Lib.hid hB1
  clear hB1
  have BE := Lib.hid (bel_drew0 W)
  have HS0 := HS
  obtain ⟨_, x1, x2, x3, x4, _, sz, _⟩ := HS.out
  have xp1 := x1; have xp2 := x2; have xp3 := x3; have xp4 := x4
  have t1 : True := trivial
  have t2 : True := trivial
  have t3 : True := trivial
  go_region_held3 (fun w' => w'.cell? ⟨B1, 1, none⟩ = some (.int .i64 wk) ∧ w'.cell? ⟨B1, 2, none⟩ = some (.int .i64 dy) ∧ w'.cell? ⟨B1, 3, none⟩ = some (.int .i64 st) ∧ w'.cell? ⟨B1, 4, none⟩ = some (.int .i64 ln)) (first | (with_reducible exact ⟨x1, x2, x3, x4⟩) | go_keep) (first | (go_at_call 57; have _k := t1; clear t1 _k; refine (D1.out _).mono ?_; rintro e9 w9 ⟨rfl, hb9⟩; have BQ : Below W.heap.size W w9 := (by first | with_reducible exact hb9 | with_reducible exact below3 BE.out hb9); have x1 := below_cell9 BQ xp1; have x2 := below_cell9 BQ xp2; have x3 := below_cell9 BQ xp3; have x4 := below_cell9 BQ xp4) | (go_at_call 57; have _k := t2; clear t2 _k; refine (D2.out _).mono ?_; rintro e9 w9 ⟨rfl, hb9⟩; have BQ : Below W.heap.size W w9 := (by first | with_reducible exact below3 BQ hb9 | with_reducible exact below3 (below3 BQ (bel_drew0 _)) hb9); have x1 := below_cell9 BQ xp1; have x2 := below_cell9 BQ xp2; have x3 := below_cell9 BQ xp3; have x4 := below_cell9 BQ xp4) | (go_at_call 57; have _k := t3; clear t3 _k; refine (D3.out _).mono ?_; rintro e9 w9 ⟨rfl, hb9⟩; have BQ : Below W.heap.size W w9 := (by first | with_reducible exact below3 BQ hb9 | with_reducible exact below3 (below3 BQ (bel_drew0 _)) hb9); have x1 := below_cell9 BQ xp1; have x2 := below_cell9 BQ xp2; have x3 := below_cell9 BQ xp3; have x4 := below_cell9 BQ xp4) | (go_at_call 57; refine (D4.out _).mono ?_; rintro e9 w9 ⟨rfl, hb9⟩; have BQ : Below W.heap.size W w9 := (by first | with_reducible exact below3 BQ hb9 | with_reducible exact below3 (below3 BQ (bel_drew0 _)) hb9); have x1 := below_cell9 BQ xp1; have x2 := below_cell9 BQ xp2; have x3 := below_cell9 BQ xp3; have x4 := below_cell9 BQ xp4))
  all_goals (
   go_wp2_with fail
   go_ret
   exact ⟨by rw [← HF.out]; rfl, by have h0 := BR.out; rw [← HB1.out] at h0; exact below3 h0 BQ⟩)
 ·
  have hRz : (arr rm).size ≤ 16 := by rw [arr_size]; exact hr16
  obtain ⟨T1, h1, z1⟩ := cat ⟨#[83, 32]⟩ (arr (Lib.itoa wk))
  obtain ⟨T2, h2, z2⟩ := cat T1 ⟨#[32]⟩
  obtain ⟨T3, h3, z3⟩ := cat T2 (arr (Lib.itoa dy))
  obtain ⟨T4, h4, z4⟩ := cat T3 ⟨#[32]⟩
  obtain ⟨T5, h5, z5⟩ := cat T4 (arr (Lib.itoa st))
  obtain ⟨T6, h6, z6⟩ := cat T5 ⟨#[32]⟩
  obtain ⟨T7, h7, z7⟩ := cat T6 (arr (Lib.itoa ln))
  obtain ⟨T8, h8, z8⟩ := cat T7 ⟨#[32]⟩
  obtain ⟨T9, h9, z9⟩ := cat T8 (arr rm)
  obtain ⟨T10, h10, z10⟩ := cat T9 ⟨#[10]⟩
  have HF : Hid (T10 = arr (lineT (cl, wk, dy, st, ln, rm))) := Lib.hid (by
   rw [HL.out, ← h10, ← h9, ← h8, ← h7, ← h6, ← h5, ← h4, ← h3, ← h2, ← h1, if_neg hrm]
   rw [show (⟨#[83, 32]⟩ : ByteArray) = arr [83, 32] from rfl, show (⟨#[32]⟩ : ByteArray) = arr [32] from rfl, show (⟨#[10]⟩ : ByteArray) = arr [10] from rfl]
   simp only [arr_app])
  have s1 : (⟨#[83, 32]⟩ : ByteArray).size = 2 := rfl
  have s2 : (⟨#[32]⟩ : ByteArray).size = 1 := rfl
  have s3 : (⟨#[10]⟩ : ByteArray).size = 1 := rfl
  have w1 : T1.size ≤ 200 := by omega
  have w2 : T2.size ≤ 200 := by omega
  have w3 : T3.size ≤ 200 := by omega
  have w4 : T4.size ≤ 200 := by omega
  have w5 : T5.size ≤ 200 := by omega
  have w6 : T6.size ≤ 200 := by omega
  have w7 : T7.size ≤ 200 := by omega
  have w8 : T8.size ≤ 200 := by omega
  have w9 : T9.size ≤ 200 := by omega
  have q1 : ¬ 9223372036854775807 < (⟨#[83, 32]⟩ : ByteArray).size + (arr (Lib.itoa wk)).size := by omega
  have q2 : ¬ 9223372036854775807 < T1.size + (⟨#[32]⟩ : ByteArray).size := by omega
  have q3 : ¬ 9223372036854775807 < T2.size + (arr (Lib.itoa dy)).size := by omega
  have q4 : ¬ 9223372036854775807 < T3.size + (⟨#[32]⟩ : ByteArray).size := by omega
  have q5 : ¬ 9223372036854775807 < T4.size + (arr (Lib.itoa st)).size := by omega
  have q6 : ¬ 9223372036854775807 < T5.size + (⟨#[32]⟩ : ByteArray).size := by omega
  have q7 : ¬ 9223372036854775807 < T6.size + (arr (Lib.itoa ln)).size := by omega
  have q8 : ¬ 9223372036854775807 < T7.size + (⟨#[32]⟩ : ByteArray).size := by omega
  have q9 : ¬ 9223372036854775807 < T8.size + (arr rm).size := by omega
  have q10 : ¬ 9223372036854775807 < T9.size + (⟨#[10]⟩ : ByteArray).size := by omega
  have qa1 : ¬ 9223372036854775807 < T1.size + 1 := by omega
  have qb1 : ¬ 9223372036854775806 < T1.size := by omega
  have qc1 : ¬ 9223372036854775807 ≤ T1.size := by omega
  have qa3 : ¬ 9223372036854775807 < T3.size + 1 := by omega
  have qb3 : ¬ 9223372036854775806 < T3.size := by omega
  have qc3 : ¬ 9223372036854775807 ≤ T3.size := by omega
  have qa5 : ¬ 9223372036854775807 < T5.size + 1 := by omega
  have qb5 : ¬ 9223372036854775806 < T5.size := by omega
  have qc5 : ¬ 9223372036854775807 ≤ T5.size := by omega
  have qa7 : ¬ 9223372036854775807 < T7.size + 1 := by omega
  have qb7 : ¬ 9223372036854775806 < T7.size := by omega
  have qc7 : ¬ 9223372036854775807 ≤ T7.size := by omega
  have qa8 : ¬ 9223372036854775807 < T8.size + 1 := by omega
  have qb8 : ¬ 9223372036854775806 < T8.size := by omega
  have qc8 : ¬ 9223372036854775807 ≤ T8.size := by omega
  have qa9 : ¬ 9223372036854775807 < T9.size + 1 := by omega
  have qb9 : ¬ 9223372036854775806 < T9.size := by omega
  have qc9 : ¬ 9223372036854775807 ≤ T9.size := by omega
  have qa0 : ¬ 9223372036854775807 < 2 + (arr (Lib.itoa wk)).size := by omega
  have qb0 : ¬ 9223372036854775805 < (arr (Lib.itoa wk)).size := by omega
  have qc0 : ¬ 9223372036854775807 < (arr (Lib.itoa wk)).size + 2 := by omega
  rw [decide_eq_false hrm] at he
  have he2 : ¬ (arr rm).toList = [] := by rw [arr_toList]; exact hrm
  clear hrm hRz z1 z2 z3 z4 z5 z6 z7 z8 z9 z10 s1 s2 s3 HL hr16
  have BR := Lib.hid HS.out.bl
  generalize hA1 : arr (Lib.itoa wk) = A1 at *
  generalize hA2 : arr (Lib.itoa dy) = A2 at *
  generalize hA3 : arr (Lib.itoa st) = A3 at *
  generalize hA4 : arr (Lib.itoa ln) = A4 at *
  have D1 := Lib.hid (fun W => D.out wk (by omega) (by omega) W)
  have D2 := Lib.hid (fun W => D.out dy (by omega) (by omega) W)
  have D3 := Lib.hid (fun W => D.out st (by omega) (by omega) W)
  have D4 := Lib.hid (fun W => D.out ln (by omega) (by omega) W)
  rw [hA1] at D1; rw [hA2] at D2; rw [hA3] at D3; rw [hA4] at D4
  clear hA1 hA2 hA3 hA4 D
  go_enter Tryz.func58, Tryz.ntmps58
  go_upto_region 4 with fail
  generalize hW : w.alloc (.cells #[.string (arr cl), .int .i64 wk, .int .i64 dy, .int .i64 st, .int .i64 ln, .string (arr rm)] 95) = W at *
  clear hW
  generalize hB1 : w.heap.size = B1 at *
  have HB1 := Lib.hid hB1
  clear hB1
  have BE := Lib.hid (bel_drew0 W)
  have HS0 := HS
  obtain ⟨_, x1, x2, x3, x4, _, sz, _⟩ := HS.out
  have xp1 := x1; have xp2 := x2; have xp3 := x3; have xp4 := x4
  have t1 : True := trivial
  have t2 : True := trivial
  have t3 : True := trivial
  go_region_held3 (fun w' => w'.cell? ⟨B1, 1, none⟩ = some (.int .i64 wk) ∧ w'.cell? ⟨B1, 2, none⟩ = some (.int .i64 dy) ∧ w'.cell? ⟨B1, 3, none⟩ = some (.int .i64 st) ∧ w'.cell? ⟨B1, 4, none⟩ = some (.int .i64 ln)) (first | (with_reducible exact ⟨x1, x2, x3, x4⟩) | go_keep) (first | (go_at_call 57; have _k := t1; clear t1 _k; refine (D1.out _).mono ?_; rintro e9 w9 ⟨rfl, hb9⟩; have BQ : Below W.heap.size W w9 := (by first | with_reducible exact hb9 | with_reducible exact below3 BE.out hb9); have x1 := below_cell9 BQ xp1; have x2 := below_cell9 BQ xp2; have x3 := below_cell9 BQ xp3; have x4 := below_cell9 BQ xp4) | (go_at_call 57; have _k := t2; clear t2 _k; refine (D2.out _).mono ?_; rintro e9 w9 ⟨rfl, hb9⟩; have BQ : Below W.heap.size W w9 := (by first | with_reducible exact below3 BQ hb9 | with_reducible exact below3 (below3 BQ (bel_drew0 _)) hb9); have x1 := below_cell9 BQ xp1; have x2 := below_cell9 BQ xp2; have x3 := below_cell9 BQ xp3; have x4 := below_cell9 BQ xp4) | (go_at_call 57; have _k := t3; clear t3 _k; refine (D3.out _).mono ?_; rintro e9 w9 ⟨rfl, hb9⟩; have BQ : Below W.heap.size W w9 := (by first | with_reducible exact below3 BQ hb9 | with_reducible exact below3 (below3 BQ (bel_drew0 _)) hb9); have x1 := below_cell9 BQ xp1; have x2 := below_cell9 BQ xp2; have x3 := below_cell9 BQ xp3; have x4 := below_cell9 BQ xp4) | (go_at_call 57; refine (D4.out _).mono ?_; rintro e9 w9 ⟨rfl, hb9⟩; have BQ : Below W.heap.size W w9 := (by first | with_reducible exact below3 BQ hb9 | with_reducible exact below3 (below3 BQ (bel_drew0 _)) hb9); have x1 := below_cell9 BQ xp1; have x2 := below_cell9 BQ xp2; have x3 := below_cell9 BQ xp3; have x4 := below_cell9 BQ xp4))
  all_goals (
   go_wp2_with fail
   go_ret
   exact ⟨by rw [← HF.out]; rfl, by have h0 := BR.out; rw [← HB1.out] at h0; exact below3 h0 BQ⟩)
end Go.Proofs.YtihbpggbpapcfaaGreatDoor

namespace Go.Proofs.YtihbpggbpapcfaaGreatDoor
open Go.RowKit

set_option maxRecDepth 100000 in
set_option maxHeartbeats 8000000 in
theorem rencode_any (v : Ver) (s : Sl) (w : World) (hv : HV w s v.2.2) (hk : VOk v) (hz : frmV v = true → (encV v).length ≤ 1000000000000) :
  Calls Tryz.prog 17 #[verV v.1 v.2.1 s] w (ResB (if frmV v = true then (0, encV v) else (1, [])) w) := by
 have hl := hv.2.len.1
 have n1 := hv.2.len.2
 have HX := Lib.hid hv
 have HK := Lib.hid hk
 have HB0 := Lib.hid (Box3.mk0 (w := w) (.int .i64 v.1) (.int .i64 v.2.1) (.slice s.1 s.2.1 s.2.2) 24)
 have FR := Lib.hid (fun W (h : Below w.heap.size w W) => rformed_any v s W (hv.below h) hk)
 have FP := Lib.hid (fun h => frm_parts (v := v) h)
 have VT : Hid (encV v = verT v ++ endT (verT v)) := Lib.hid rfl
 have VU : Hid (verT v = lnT (verW v) ++ v.2.2.flatMap chgT) := Lib.hid rfl
 have VH := Lib.hid (ver_head v)
 clear hv hk
 obtain ⟨num, wk, cs⟩ := v
 obtain ⟨a, n, c⟩ := s
 try simp only at *
 cases hf : frmV (num, wk, cs)
 ·
  rw [if_neg (by simp)]
  have FR2 : Hid (∀ W, Below w.heap.size w W → Calls Tryz.prog 56 #[verV num wk (a, n, c)] W (RetB (.bool false) W)) := Lib.hid (fun W h => by rw [← hf]; exact FR.out W h)
  clear hf FR FP hz VT VU VH
  go_enter Tryz.func17, Tryz.ntmps17
  go_wp2_with fail
  refine (FR2.out _ HB0.out.bl).mono ?_
  rintro en w1 ⟨rfl, hb1⟩
  have HB1 := Lib.hid (below3 HB0.out.bl hb1)
  clear hb1
  go_wp2_with fail
  go_ret2
  exact ⟨(none, 0, 0), rfl, BV.nil _, HB1.out⟩
 rw [if_pos rfl]
 have FR2 : Hid (∀ W, Below w.heap.size w W → Calls Tryz.prog 56 #[verV num wk (a, n, c)] W (RetB (.bool true) W)) := Lib.hid (fun W h => by rw [← hf]; exact FR.out W h)
 obtain ⟨⟨f1, f2, f3, f4, _⟩, _, f6⟩ := FP.out hf
 try simp only at f1 f2 f3 f4 f6
 have hz2 := hz hf
 have HC := Lib.hid f6
 have HZ : Hid (encV (num, wk, cs) = encV (num, wk, cs)) := Lib.hid rfl
 clear hf FR FP f6 hz
 rw [VT.out, List.length_append, end_len] at hz2
 have hzt : (verT (num, wk, cs)).length ≤ 1000000000000 := by omega
 have hzu := hzt
 rw [VU.out, List.length_append] at hzu
 have L1 := itoa_le (n := num) (by omega) (by omega)
 have L2 := itoa_le (n := wk) (by omega) (by omega)
 have hn8 : n ≤ 1000000000000 := by
  have h1 : ∀ cs : List Chg, cs.length ≤ (cs.flatMap chgT).length := by
   intro cs
   induction cs with
   | nil => simp
   | cons c cs ih =>
    have : 1 ≤ (chgT c).length := by unfold chgT lnT; simp; omega
    rw [List.flatMap_cons, List.length_append, List.length_cons]; omega
  have := h1 cs
  omega
 have L3 := itoa_le (n := (n : Int)) (by omega) (by omega)
 have D1 := Lib.hid (fun W => rdec num (by omega) (by omega) W)
 have D2 := Lib.hid (fun W => rdec wk (by omega) (by omega) W)
 have D3 := Lib.hid (fun W => rdec (n : Int) (by omega) (by omega) W)
 go_enter Tryz.func17, Tryz.ntmps17
 go_wp2_with fail
 refine (FR2.out _ HB0.out.bl).mono ?_
 rintro en w1 ⟨rfl, hb1⟩
 have HB1 := Lib.hid (HB0.out.next hb1)
 clear hb1 HB0 FR2
 obtain ⟨c0, c1, c2, sz, _⟩ := HB1.out
 go_upto_region 3 with fail
 go_cut [4] (fun sx wx => sx = .string (arr (lnT (verW (num, wk, cs)))) ∧ Below w1.heap.size w1 wx)
 case first =>
  rw [← hl] at D3
  rw [← hl] at L3
  generalize hA1 : arr (Lib.itoa num) = A1 at *
  generalize hA2 : arr (Lib.itoa wk) = A2 at *
  generalize hA3 : arr (Lib.itoa (cs.length : Int)) = A3 at *
  obtain ⟨T1, hT1, zT1⟩ := cat (⟨#[86, 32]⟩ : ByteArray) A1
  have sT1 : (⟨#[86, 32]⟩ : ByteArray).size = 2 := rfl
  have qT1 : ¬ 9223372036854775807 < (⟨#[86, 32]⟩ : ByteArray).size + A1.size := by omega
  have qaT1 : ¬ 9223372036854775807 < 2 + A1.size := by omega
  have qbT1 : ¬ 9223372036854775805 < A1.size := by omega
  have qcT1 : ¬ 9223372036854775807 < A1.size + 2 := by omega
  obtain ⟨T2, hT2, zT2⟩ := cat T1 (⟨#[32]⟩ : ByteArray)
  have rT2 : (⟨#[32]⟩ : ByteArray).size = 1 := rfl
  have qT2 : ¬ 9223372036854775807 < T1.size + (⟨#[32]⟩ : ByteArray).size := by omega
  have qaT2 : ¬ 9223372036854775807 < T1.size + 1 := by omega
  have qbT2 : ¬ 9223372036854775806 < T1.size := by omega
  have qcT2 : ¬ 9223372036854775807 ≤ T1.size := by omega
  obtain ⟨T3, hT3, zT3⟩ := cat T2 A2
  have qT3 : ¬ 9223372036854775807 < T2.size + A2.size := by omega
  obtain ⟨T4, hT4, zT4⟩ := cat T3 (⟨#[32]⟩ : ByteArray)
  have rT4 : (⟨#[32]⟩ : ByteArray).size = 1 := rfl
  have qT4 : ¬ 9223372036854775807 < T3.size + (⟨#[32]⟩ : ByteArray).size := by omega
  have qaT4 : ¬ 9223372036854775807 < T3.size + 1 := by omega
  have qbT4 : ¬ 9223372036854775806 < T3.size := by omega
  have qcT4 : ¬ 9223372036854775807 ≤ T3.size := by omega
  obtain ⟨T5, hT5, zT5⟩ := cat T4 A3
  have qT5 : ¬ 9223372036854775807 < T4.size + A3.size := by omega
  obtain ⟨T6, hT6, zT6⟩ := cat T5 (⟨#[10]⟩ : ByteArray)
  have rT6 : (⟨#[10]⟩ : ByteArray).size = 1 := rfl
  have qT6 : ¬ 9223372036854775807 < T5.size + (⟨#[10]⟩ : ByteArray).size := by omega
  have qaT6 : ¬ 9223372036854775807 < T5.size + 1 := by omega
  have qbT6 : ¬ 9223372036854775806 < T5.size := by omega
  have qcT6 : ¬ 9223372036854775807 ≤ T5.size := by omega
  have bdT6 : T6.size ≤ 3000000000000 := by omega
  clear zT1 zT2 zT3 zT4 zT5 zT6 sT1 rT2 rT4 rT6
  have HF : Hid (T6 = arr (lnT (verW (num, wk, cs)))) := Lib.hid (by
   rw [VH.out, ← hT6, ← hT5, ← hT4, ← hT3, ← hT2, ← hT1, ← hA1, ← hA2, ← hA3, show (⟨#[86, 32]⟩ : ByteArray) = arr [86, 32] from rfl, show (⟨#[32]⟩ : ByteArray) = arr [32] from rfl, show (⟨#[10]⟩ : ByteArray) = arr [10] from rfl]
   simp only [arr_app])
  rw [hl] at D3
  clear hA1 hA2 hA3 VT VU VH hzu hzt
  have BE := Lib.hid (bel_drew0 w1)
  have c0p := c0; have c1p := c1; have c2p := c2
  have t1 : True := trivial
  have t2 : True := trivial
  go_region_held3 (fun w' => w'.cell? ⟨w.heap.size, 0, none⟩ = some (.int .i64 num) ∧ w'.cell? ⟨w.heap.size, 1, none⟩ = some (.int .i64 wk) ∧ w'.cell? ⟨w.heap.size, 2, none⟩ = some (.slice a n c)) (first | (with_reducible exact ⟨c0, c1, c2⟩) | go_keep) (first | (go_at_call 57; have _k := t1; clear t1 _k; refine (D1.out _).mono ?_; rintro e9 w9 ⟨rfl, hb9⟩; have BQ : Below w1.heap.size w1 w9 := (by first | with_reducible exact hb9 | with_reducible exact below3 BE.out hb9); have c0 := below_cell9 BQ c0p; have c1 := below_cell9 BQ c1p; have c2 := below_cell9 BQ c2p) | (go_at_call 57; have _k := t2; clear t2 _k; refine (D2.out _).mono ?_; rintro e9 w9 ⟨rfl, hb9⟩; have BQ : Below w1.heap.size w1 w9 := (by first | with_reducible exact below3 BQ hb9 | with_reducible exact below3 (below3 BQ (bel_drew0 _)) hb9); have c0 := below_cell9 BQ c0p; have c1 := below_cell9 BQ c1p; have c2 := below_cell9 BQ c2p) | (go_at_call 57; refine (D3.out _).mono ?_; rintro e9 w9 ⟨rfl, hb9⟩; have BQ : Below w1.heap.size w1 w9 := (by first | with_reducible exact below3 BQ hb9 | with_reducible exact below3 (below3 BQ (bel_drew0 _)) hb9); have c0 := below_cell9 BQ c0p; have c1 := below_cell9 BQ c1p; have c2 := below_cell9 BQ c2p))
  all_goals (
   go_wp2_with fail
   go_meet
   exact ⟨by rw [HF.out], BQ⟩)
 case rest =>
  obtain ⟨rfl, hbc⟩ := hcut
  have HBc := Lib.hid (HB1.out.next hbc)
  clear c0 c1 c2 sz hbc HB1 D1 D2 D3 L1 L2 L3
  obtain ⟨wv, rfl⟩ : ∃ wv : World, wv = wc := ⟨_, rfl⟩
  go_wp2_with fail
  go_loopw [4, 5] (fun tx i wr => ∃ j : Nat, j ≤ n ∧ tx = .string (arr (lnT (verW (num, wk, cs)) ++ (cs.take j).flatMap chgT)) ∧ i = .int .i64 j ∧ Hid (Box3 w wr w.heap.size (.int .i64 num) (.int .i64 wk) (.slice a n c))) (fun _ i _ => n - (intOf i).toNat)
  case atStart => exact ⟨0, by omega, by simp, rfl, HBc⟩
  case round =>
   clear HBc
   obtain ⟨j, hj, rfl, rfl, HB1⟩ := hrel
   obtain ⟨wo, rfl⟩ : ∃ wo : World, wo = wr := ⟨_, rfl⟩
   obtain ⟨c0, c1, c2, sz, _⟩ := HB1.out
   by_cases hlt : j < n
   ·
    obtain ⟨b1, o1, x, ⟨pa, pn, pc⟩, ⟨qa, qn, qc⟩, rfl, g1, z1, x0, x1, x2, sp, sq⟩ := HAt.cells (HX.out.2.below HB1.out.bl) hlt
    simp only at x1 x2
    obtain ⟨hc1, ⟨_, hc2⟩, _, hc3⟩ := chgOk_parts (HC.out x (List.mem_of_getElem? g1))
    have hcl := (codeOk_of hc1).2.1
    have hpl : x.2.1.length = pn := sp.2.1
    have hql : x.2.2.length = qn := sq.2.1
    have hpn := (vld_parts hc2).2.1
    have hqn := (vld_parts hc3).2.1
    rw [hpl] at hpn
    rw [hql] at hqn
    have HSPV := Lib.hid hc2
    have HSQV := Lib.hid hc3
    have HTK := Lib.hid (flat_take chgT g1)
    have hfl := ftake_le chgT cs (j + 1)
    rw [HTK.out, List.length_append] at hfl
    have HCT : Hid (chgT x = lnT (chgW x) ++ (x.2.1.flatMap lineT ++ x.2.2.flatMap lineT)) := Lib.hid rfl
    have hct := congrArg List.length HCT.out
    rw [List.length_append, List.length_append] at hct
    have HXN : Hid (lnT (verW (num, wk, cs)) ++ (cs.take (j + 1)).flatMap chgT = (lnT (verW (num, wk, cs)) ++ (cs.take j).flatMap chgT) ++ chgT x) := Lib.hid (by rw [HTK.out, List.append_assoc])
    have hXl : (lnT (verW (num, wk, cs)) ++ (cs.take j).flatMap chgT).length + (chgT x).length ≤ 1000000000000 := by rw [List.length_append]; omega
    generalize lnT (verW (num, wk, cs)) ++ (cs.take j).flatMap chgT = X at *
    have k1 : (j : Int) < n := by omega
    have k2 : (0 : Int) ≤ j := by omega
    have HD0 := Lib.hid (Box3.mk0 (w := wo) (.string (arr x.1)) (.slice pa pn pc) (.slice qa qn qc) 101)
    have HSP := Lib.hid sp
    have HSQ := Lib.hid sq
    have HCH := Lib.hid (chg_head x)
    have hXs : (arr X).size ≤ 1000000000000 := by rw [arr_size]; omega
    have hKs : (arr x.1).size ≤ 16 := by rw [arr_size]; exact hcl
    have L1 := itoa_le (n := (pn : Int)) (by omega) (by omega)
    have L2 := itoa_le (n := (qn : Int)) (by omega) (by omega)
    have D1 := Lib.hid (fun W => rdec (pn : Int) (by omega) (by omega) W)
    have D2 := Lib.hid (fun W => rdec (qn : Int) (by omega) (by omega) W)
    clear g1 sp sq hc1 hc2 hc3 hfl HTK hcl
    go_upto_region 8 with fail
    generalize hW : wo.alloc (.cells #[.string (arr x.1), .slice pa pn pc, .slice qa qn qc] 101) = W at *
    clear hW
    obtain ⟨e0, e1, e2, ez, _⟩ := HD0.out
    go_cut [4] (fun sx wx => sx = .string (arr (X ++ lnT (chgW x))) ∧ Below W.heap.size W wx)
    case first =>
     rw [hpl, hql] at HCH
     generalize hA1 : arr (Lib.itoa (pn : Int)) = A1 at *
     generalize hA2 : arr (Lib.itoa (qn : Int)) = A2 at *
     generalize hK0 : arr x.1 = K0 at *
     generalize hXX : arr X = XX at *
     obtain ⟨S1, hS1, zS1⟩ := cat (⟨#[67, 32]⟩ : ByteArray) K0
     have sS1 : (⟨#[67, 32]⟩ : ByteArray).size = 2 := rfl
     have qS1 : ¬ 9223372036854775807 < (⟨#[67, 32]⟩ : ByteArray).size + K0.size := by omega
     have qaS1 : ¬ 9223372036854775807 < 2 + K0.size := by omega
     have qbS1 : ¬ 9223372036854775805 < K0.size := by omega
     have qcS1 : ¬ 9223372036854775807 < K0.size + 2 := by omega
     obtain ⟨S2, hS2, zS2⟩ := cat S1 (⟨#[32]⟩ : ByteArray)
     have rS2 : (⟨#[32]⟩ : ByteArray).size = 1 := rfl
     have qS2 : ¬ 9223372036854775807 < S1.size + (⟨#[32]⟩ : ByteArray).size := by omega
     have qaS2 : ¬ 9223372036854775807 < S1.size + 1 := by omega
     have qbS2 : ¬ 9223372036854775806 < S1.size := by omega
     have qcS2 : ¬ 9223372036854775807 ≤ S1.size := by omega
     obtain ⟨S3, hS3, zS3⟩ := cat S2 A1
     have qS3 : ¬ 9223372036854775807 < S2.size + A1.size := by omega
     obtain ⟨S4, hS4, zS4⟩ := cat S3 (⟨#[32]⟩ : ByteArray)
     have rS4 : (⟨#[32]⟩ : ByteArray).size = 1 := rfl
     have qS4 : ¬ 9223372036854775807 < S3.size + (⟨#[32]⟩ : ByteArray).size := by omega
     have qaS4 : ¬ 9223372036854775807 < S3.size + 1 := by omega
     have qbS4 : ¬ 9223372036854775806 < S3.size := by omega
     have qcS4 : ¬ 9223372036854775807 ≤ S3.size := by omega
     obtain ⟨S5, hS5, zS5⟩ := cat S4 A2
     have qS5 : ¬ 9223372036854775807 < S4.size + A2.size := by omega
     obtain ⟨S6, hS6, zS6⟩ := cat S5 (⟨#[10]⟩ : ByteArray)
     have rS6 : (⟨#[10]⟩ : ByteArray).size = 1 := rfl
     have qS6 : ¬ 9223372036854775807 < S5.size + (⟨#[10]⟩ : ByteArray).size := by omega
     have qaS6 : ¬ 9223372036854775807 < S5.size + 1 := by omega
     have qbS6 : ¬ 9223372036854775806 < S5.size := by omega
     have qcS6 : ¬ 9223372036854775807 ≤ S5.size := by omega
     have bdS6 : S6.size ≤ 3000000000000 := by omega
     clear zS1 zS2 zS3 zS4 zS5 zS6 sS1 rS2 rS4 rS6
     obtain ⟨R1, hR1, zR1⟩ := cat XX S6
     have qR1 : ¬ 9223372036854775807 < XX.size + S6.size := by omega
     have bdR1 : R1.size ≤ 5000000000000 := by omega
     clear zR1
     have HF : Hid (R1 = arr (X ++ lnT (chgW x))) := Lib.hid (by
      rw [← hR1, HCH.out, ← hS6, ← hS5, ← hS4, ← hS3, ← hS2, ← hS1, ← hA1, ← hA2, ← hK0, ← hXX, show (⟨#[67, 32]⟩ : ByteArray) = arr [67, 32] from rfl, show (⟨#[32]⟩ : ByteArray) = arr [32] from rfl, show (⟨#[10]⟩ : ByteArray) = arr [10] from rfl]
      simp only [arr_app])
     clear hA1 hA2 hK0 hXX HCH
     have BE := Lib.hid (bel_drew0 W)
     have e0p := e0; have e1p := e1; have e2p := e2
     have t1 : True := trivial
     go_region_held3 (fun w' => w'.cell? ⟨wo.heap.size, 0, none⟩ = some (.string K0) ∧ w'.cell? ⟨wo.heap.size, 1, none⟩ = some (.slice pa pn pc) ∧ w'.cell? ⟨wo.heap.size, 2, none⟩ = some (.slice qa qn qc)) (first | (with_reducible exact ⟨e0, e1, e2⟩) | go_keep) (first | (go_at_call 57; have _k := t1; clear t1 _k; refine (D1.out _).mono ?_; rintro e9 w9 ⟨rfl, hb9⟩; have BQ : Below W.heap.size W w9 := (by first | with_reducible exact hb9 | with_reducible exact below3 BE.out hb9); have e0 := below_cell9 BQ e0p; have e1 := below_cell9 BQ e1p; have e2 := below_cell9 BQ e2p) | (go_at_call 57; refine (D2.out _).mono ?_; rintro e9 w9 ⟨rfl, hb9⟩; have BQ : Below W.heap.size W w9 := (by first | with_reducible exact below3 BQ hb9 | with_reducible exact below3 (below3 BQ (bel_drew0 _)) hb9); have e0 := below_cell9 BQ e0p; have e1 := below_cell9 BQ e1p; have e2 := below_cell9 BQ e2p))
     all_goals (
      go_wp2_with fail
      go_meet
      exact ⟨by rw [HF.out], BQ⟩)
    case rest =>
     obtain ⟨rfl, hbc⟩ := hcut
     obtain ⟨wd, rfl⟩ : ∃ wd : World, wd = wc := ⟨_, rfl⟩
     have HE := Lib.hid (HD0.out.next hbc)
     have HQ := Lib.hid (Below.refl wd.heap.size wd)
     have HB2 := Lib.hid ((HB1.out.next HD0.out.bl).next hbc)
     have HSP := Lib.hid (HSP.out.below (below3 HD0.out.bl hbc))
     have HSQ := Lib.hid (HSQ.out.below (below3 HD0.out.bl hbc))
     clear hbc e0 e1 e2 ez HB1 HD0 D1 D2 L1 L2 x0 x1 x2 c0 c1 c2 sz
     have HCT2 : Hid (X ++ chgT x = (X ++ lnT (chgW x)) ++ x.2.1.flatMap lineT ++ x.2.2.flatMap lineT) := Lib.hid (by rw [HCT.out]; simp)
     have hX1 : (X ++ lnT (chgW x)).length + (x.2.1.flatMap lineT).length + (x.2.2.flatMap lineT).length ≤ 1000000000000 := by rw [List.length_append]; omega
     generalize X ++ lnT (chgW x) = X1 at *
     obtain ⟨e0, e1, e2, ez, _⟩ := HE.out
     go_wp2_with fail
     clear e0 e1 e2 ez
     go_loopw [4, 7] (fun tx i wq => ∃ k : Nat, k ≤ pn ∧ tx = .string (arr (X1 ++ (x.2.1.take k).flatMap lineT)) ∧ i = .int .i64 k ∧ Hid (Box3 wo wq wo.heap.size (.string (arr x.1)) (.slice pa pn pc) (.slice qa qn qc)) ∧ Hid (Below wd.heap.size wd wq)) (fun _ i _ => pn - (intOf i).toNat)
     case atStart => exact ⟨0, by omega, by simp, rfl, HE, HQ⟩
     case round =>
      clear HE HQ
      obtain ⟨k, hk, rfl, rfl, HE, HQ⟩ := hrel
      obtain ⟨e0, e1, e2, ez, _⟩ := HE.out
      have hfl := ftake_le lineT x.2.1 k
      by_cases hlt : k < pn
      ·
       have sx := HSP.out.2.below HQ.out
       obtain ⟨b2, o2, s2, rfl, g2, z2, y0, y1, y2, y3, y4, y5⟩ := SAt.cells sx hlt
       have ck := own_chk HSPV.out s2 (List.mem_of_getElem? g2)
       have LN := Lib.hid (fun W => rline_any s2 W ck)
       have HTK := Lib.hid (flat_take lineT g2)
       have hfl2 := ftake_le lineT x.2.1 (k + 1)
       rw [HTK.out, List.length_append] at hfl2
       have k1 : (k : Int) < pn := by omega
       have k2 : (0 : Int) ≤ k := by omega
       have HX2 : Hid (X1 ++ (x.2.1.take (k + 1)).flatMap lineT = (X1 ++ (x.2.1.take k).flatMap lineT) ++ lineT s2) := Lib.hid (by rw [HTK.out, List.append_assoc])
       have hlen : (X1 ++ (x.2.1.take k).flatMap lineT).length ≤ 1000000000000 := by rw [List.length_append]; omega
       have hlen2 : (lineT s2).length ≤ 1000000000000 := by omega
       clear sx ck g2 hfl hfl2
       generalize X1 ++ (x.2.1.take k).flatMap lineT = Y at *
       have ap := arr_app Y (lineT s2)
       have qy1 := arr_size Y
       have qy2 := arr_size (lineT s2)
       have qy3 : ¬ 9223372036854775807 < (arr Y).size + (arr (lineT s2)).size := by omega
       have qy4 : ¬ 9223372036854775807 < Y.length + (lineT s2).length := by omega
       go_wp2_with fail
       refine (LN.out _).mono ?_
       rintro en w4 ⟨rfl, hb4⟩
       have HE2 := Lib.hid (HE.out.next hb4)
       have HQ2 := Lib.hid (below3 HQ.out hb4)
       clear hb4
       go_wp2_with fail
       go_roundw
       case rel => exact ⟨k + 1, by omega, by rw [HX2.out], by go_num, HE2, HQ2⟩
       case measure => simp [intOf]; omega
      ·
       obtain rfl : pn = k := by omega
       have hX2 : (X1 ++ (x.2.1.take x.2.1.length).flatMap lineT).length + (x.2.2.flatMap lineT).length ≤ 1000000000000 := by rw [List.take_length, List.length_append]; omega
       have HX3 : Hid (X1 ++ (x.2.1.take pn).flatMap lineT = X1 ++ x.2.1.flatMap lineT) := Lib.hid (by rw [← hpl, List.take_length])
       rw [HX3.out]
       rw [List.take_length] at hX2
       generalize X1 ++ x.2.1.flatMap lineT = X2 at *
       obtain ⟨wp, rfl⟩ : ∃ wp : World, wp = wr := ⟨_, rfl⟩
       have HSQ := Lib.hid (HSQ.out.below HQ.out)
       have HB3 := Lib.hid (HB2.out.next HQ.out)
       have HQ := Lib.hid (Below.refl wp.heap.size wp)
       clear hfl
       go_wp2_with fail
       clear e0 e1 e2 ez
       go_loopw [4, 8] (fun tx i wq => ∃ k : Nat, k ≤ qn ∧ tx = .string (arr (X2 ++ (x.2.2.take k).flatMap lineT)) ∧ i = .int .i64 k ∧ Hid (Box3 wo wq wo.heap.size (.string (arr x.1)) (.slice pa pn pc) (.slice qa qn qc)) ∧ Hid (Below wp.heap.size wp wq)) (fun _ i _ => qn - (intOf i).toNat)
       case atStart => exact ⟨0, by omega, by simp, rfl, HE, HQ⟩
       case round =>
        clear HE HQ
        obtain ⟨k, hk, rfl, rfl, HE, HQ⟩ := hrel
        obtain ⟨e0, e1, e2, ez, _⟩ := HE.out
        have hfl := ftake_le lineT x.2.2 k
        by_cases hlt : k < qn
        ·
         have sx := HSQ.out.2.below HQ.out
         obtain ⟨b2, o2, s2, rfl, g2, z2, y0, y1, y2, y3, y4, y5⟩ := SAt.cells sx hlt
         have ck := own_chk HSQV.out s2 (List.mem_of_getElem? g2)
         have LN := Lib.hid (fun W => rline_any s2 W ck)
         have HTK := Lib.hid (flat_take lineT g2)
         have hfl2 := ftake_le lineT x.2.2 (k + 1)
         rw [HTK.out, List.length_append] at hfl2
         have k1 : (k : Int) < qn := by omega
         have k2 : (0 : Int) ≤ k := by omega
         have HX2 : Hid (X2 ++ (x.2.2.take (k + 1)).flatMap lineT = (X2 ++ (x.2.2.take k).flatMap lineT) ++ lineT s2) := Lib.hid (by rw [HTK.out, List.append_assoc])
         have hlen : (X2 ++ (x.2.2.take k).flatMap lineT).length ≤ 1000000000000 := by rw [List.length_append]; omega
         have hlen2 : (lineT s2).length ≤ 1000000000000 := by omega
         clear sx ck g2 hfl hfl2
         generalize X2 ++ (x.2.2.take k).flatMap lineT = Y at *
         have ap := arr_app Y (lineT s2)
         have qy1 := arr_size Y
         have qy2 := arr_size (lineT s2)
         have qy3 : ¬ 9223372036854775807 < (arr Y).size + (arr (lineT s2)).size := by omega
         have qy4 : ¬ 9223372036854775807 < Y.length + (lineT s2).length := by omega
         go_wp2_with fail
         refine (LN.out _).mono ?_
         rintro en w4 ⟨rfl, hb4⟩
         have HE2 := Lib.hid (HE.out.next hb4)
         have HQ2 := Lib.hid (below3 HQ.out hb4)
         clear hb4
         go_wp2_with fail
         go_roundw
         case rel => exact ⟨k + 1, by omega, by rw [HX2.out], by go_num, HE2, HQ2⟩
         case measure => simp [intOf]; omega
        ·
         obtain rfl : qn = k := by omega
         have HB4 := Lib.hid (HB3.out.next HQ.out)
         have HX4 : Hid (X2 ++ (x.2.2.take qn).flatMap lineT = X2 ++ x.2.2.flatMap lineT) := Lib.hid (by rw [← hql, List.take_length])
         rw [HX4.out]
         go_wp2_with fail
         go_roundw
         case rel => exact ⟨j + 1, by omega, by rw [HXN.out, HCT2.out], by go_num, HB4⟩
         case measure => simp [intOf]; omega
   ·
    obtain rfl : n = j := by omega
    have HT : Hid (lnT (verW (num, wk, cs)) ++ (cs.take n).flatMap chgT = verT (num, wk, cs)) := Lib.hid (by rw [← hl, List.take_length]; exact VU.out.symm)
    rw [HT.out]
    have HET := Lib.hid (end_text (verT (num, wk, cs)))
    have hcr := crcN_lt (verT (num, wk, cs))
    have hze : (encV (num, wk, cs)).length ≤ 1000000000000 := by rw [VT.out, List.length_append, end_len]; exact hz2
    clear hz2 hzu HT
    generalize verT (num, wk, cs) = Y at *
    obtain ⟨cc, W1, hcv, hbv, hbb⟩ := conv_bytes Y (by omega) wo
    have SM := Lib.hid (rsum_any (some ⟨wo.heap.size, 0, none⟩) Y.length cc Y W1 hbv.2)
    have HXC := Lib.hid (rhex_any (crcN Y) W1 hcr)
    have HB2 := Lib.hid (below3 HB1.out.bl hbb)
    have hys : (arr Y).size ≤ 1000000000000 := by rw [arr_size]; exact hzt
    have hxs : (arr (hexK 8 (crcN Y))).size = 8 := by rw [arr_size]; exact hexK_len _ _
    clear hbv hbb hcr
    generalize crcN Y = cy at *
    generalize hYY : arr Y = YY at *
    generalize hHH : arr (hexK 8 cy) = HH at *
    obtain ⟨U1, hU1, zU1⟩ := cat YY (⟨#[69, 32]⟩ : ByteArray)
    have rU1 : (⟨#[69, 32]⟩ : ByteArray).size = 2 := rfl
    have qU1 : ¬ 9223372036854775807 < YY.size + (⟨#[69, 32]⟩ : ByteArray).size := by omega
    have qaU1 : ¬ 9223372036854775807 < YY.size + 2 := by omega
    have qbU1 : ¬ 9223372036854775805 < YY.size := by omega
    have qcU1 : ¬ 9223372036854775807 ≤ YY.size := by omega
    obtain ⟨U2, hU2, zU2⟩ := cat U1 HH
    have qU2 : ¬ 9223372036854775807 < U1.size + HH.size := by omega
    obtain ⟨U3, hU3, zU3⟩ := cat U2 (⟨#[10]⟩ : ByteArray)
    have rU3 : (⟨#[10]⟩ : ByteArray).size = 1 := rfl
    have qU3 : ¬ 9223372036854775807 < U2.size + (⟨#[10]⟩ : ByteArray).size := by omega
    have qaU3 : ¬ 9223372036854775807 < U2.size + 1 := by omega
    have qbU3 : ¬ 9223372036854775806 < U2.size := by omega
    have qcU3 : ¬ 9223372036854775807 ≤ U2.size := by omega
    have bdU3 : U3.size ≤ 3000000000000 := by omega
    clear zU1 zU2 zU3 rU1 rU3
    have HF : Hid (U3 = arr (encV (num, wk, cs))) := Lib.hid (by
     rw [VT.out, HET.out, ← hU3, ← hU2, ← hU1, ← hYY, ← hHH, show (⟨#[69, 32]⟩ : ByteArray) = arr [69, 32] from rfl, show (⟨#[10]⟩ : ByteArray) = arr [10] from rfl]
     simp only [arr_app, List.append_assoc])
    clear hxs hYY hHH VT VU HET
    go_wp2_with fail
    refine SM.out.mono ?_
    rintro en w5 ⟨rfl, hw5⟩
    subst hw5
    go_wp2_with fail
    refine HXC.out.mono ?_
    rintro en w6 ⟨rfl, hb6⟩
    obtain ⟨cd, W2, hcv2, hbv2, hbb2⟩ := conv_bytes (encV (num, wk, cs)) (by omega) w6
    rw [← HF.out] at hcv2
    have HR := Lib.hid hbv2
    have HB3 := Lib.hid (below3 (below3 HB2.out hb6) hbb2)
    clear hbv2 hb6 hbb2
    go_wp2_with fail
    go_ret2
    exact ⟨(_, _, _), rfl, HR.out, HB3.out⟩
end Go.Proofs.YtihbpggbpapcfaaGreatDoor

namespace Go.Proofs.YtihbpggbpapcfaaGreatDoor
open Go.RowKit

set_option maxRecDepth 100000 in
set_option maxHeartbeats 4000000 in
theorem rwords_any (a : Option Addr) (n c : Nat) (d : L8) (f : Nat) (w : World) (hx : BAt w a n d) (hc : n ≤ c) (hn : n ≤ 10000000) (hf : f ≤ n) :
  Calls Tryz.prog 64 #[.slice a n c, .int .i64 f] w (WdsR d f w) := by
 have hl := hx.1
 have HX := Lib.hid hx
 clear hx
 go_enter Tryz.func64, Tryz.ntmps64
 go_wp2_with fail
 go_loopw [7, 8, 9] (fun v st i wr => ∃ (s j : Nat) (F : List L8) (W : L8), f ≤ s ∧ s ≤ j ∧ j ≤ n ∧ st = .int .i64 s ∧ i = .int .i64 j ∧ Hid (CRow wr w.heap.size v F) ∧ Hid (WdI d f s j F W) ∧ Hid (Below w.heap.size w wr)) (fun _ _ i _ => n - (intOf i).toNat)
 case atStart => exact ⟨f, f, [], [], by omega, by omega, hf, rfl, rfl, Lib.hid (KRow.nil _ _ _ _ _), Lib.hid (WdI.start d f), Lib.hid (Below.refl _ _)⟩
 case round =>
  obtain ⟨s, j, F, W, hfs, hsj, hj, rfl, rfl, HR, HI, HB⟩ := hrel
  by_cases hlt : j < n
  ·
   obtain ⟨b1, o1, ch, rfl, g1, z1, x00⟩ := BAt.cells HX.out hlt
   have x0 := below_cell9 HB.out x00
   have HG := Lib.hid g1
   have k1 : (j : Int) < n := by omega
   have k2 : (0 : Int) ≤ j := by omega
   have k3 : (s : Int) ≤ j := by omega
   have k4 : (0 : Int) ≤ s := by omega
   have k5 : ¬ c = s := by omega
   have k6 : (j : Int) ≤ c := by omega
   have hFl := HI.out.le
   have hwd := HI.out.wd
   have hcv : ∀ cap, (convert 26 9 (.slice (some ⟨b1, o1 + s, none⟩) (j - s) cap)).run Tryz.prog wr = .ok (.string (arr W)) wr := fun cap => by
    have := part_str (HX.out.below HB.out) s j cap hsj (by omega)
    rw [← hwd] at this; exact this
   have hbs := HB.out.size
   have ha : w.heap.size ≤ wr.heap.size := hbs
   clear g1 hwd
   by_cases h32 : ch = 32
   ·
    subst h32
    have HI2 := Lib.hid (HI.out.space (by omega) HG.out)
    go_wp2_with (at_builtin; refine wpList_app elemStr encStr rfl _ _ rfl w.heap.size _ F rfl (row_below HR.out ((Below.refl _ _).alloc (Nat.le_refl _) _)) _ _ _ [W] rfl (KAt.one (f := strC) (k := 1) wr W 9) (by simp <;> omega) (by simp <;> omega) ?_)
    intro v6 w6 hr6 hb6 hg6 ho6
    have HR6 := Lib.hid hr6
    have HB6 := Lib.hid ((HB.out.alloc hbs _).trans hb6)
    have x0 := below_cell9 HB6.out x00
    clear hr6 hb6 hg6 ho6
    go_wp2_with fail
    go_roundw
    case rel => exact ⟨j + 1, j + 1, F ++ [W], [], by omega, by omega, by omega, by go_num, by go_num, HR6, HI2, HB6⟩
    case measure => simp [intOf]; omega
   by_cases h10 : ch = 10
   ·
    subst h10
    obtain ⟨l, hl1, hl2⟩ := HI.out.line (by omega) HG.out
    have HC1 := Lib.hid hl1
    have HC2 := Lib.hid hl2
    clear hl1 hl2 h32
    go_wp2_with (at_builtin; refine wpList_app elemStr encStr rfl _ _ rfl w.heap.size _ F rfl (row_below HR.out ((Below.refl _ _).alloc (Nat.le_refl _) _)) _ _ _ [W] rfl (KAt.one (f := strC) (k := 1) wr W 9) (by simp <;> omega) (by simp <;> omega) ?_)
    intro v6 w6 hr6 hb6 hg6 ho6
    have HR6 := Lib.hid hr6
    have HB6 := Lib.hid ((HB.out.alloc hbs _).trans hb6)
    have x0 := below_cell9 HB6.out x00
    clear hr6 hb6 hg6 ho6
    go_wp2_with fail
    refine bodyPost_ret (v := .tuple #[v6, .int .i64 ((j : Int) + 1), .bool true]) (by simp [results, Tryz.results64, go_sem]) rfl ?_
    exact Or.inr ⟨l, j + 1, v6, HC1.out, by omega, by omega, by go_num, by rw [HC2.out]; exact HR6.out, HB6.out⟩
   have e1 : ((ch.toNat : Int) == 32) = false := by
    rw [beq_eq_false_iff_ne]; intro e; exact h32 (UInt8.toNat_inj.1 (by have e9 : (32 : UInt8).toNat = 32 := rfl; omega))
   have e2 : ((ch.toNat : Int) == 10) = false := by
    rw [beq_eq_false_iff_ne]; intro e; exact h10 (UInt8.toNat_inj.1 (by have e9 : (10 : UInt8).toNat = 10 := rfl; omega))
   have HI2 := Lib.hid (HI.out.other (by omega) hsj HG.out h32 h10)
   clear h32 h10
   go_wp2_with fail
   go_roundw
   case rel => exact ⟨s, j + 1, F, W ++ [ch], by omega, by omega, by omega, rfl, by go_num, HR, HI2, HB⟩
   case measure => simp [intOf]; omega
  ·
   obtain rfl : n = j := by omega
   have HF := Lib.hid (HI.out.none_ (by omega))
   go_wp2_with fail
   refine bodyPost_ret (v := .tuple #[.slice none 0 0, .int .i64 f, .bool false]) (by simp [results, Tryz.results64, go_sem]) rfl ?_
   exact Or.inl ⟨HF.out, rfl, HB.out⟩
end Go.Proofs.YtihbpggbpapcfaaGreatDoor

namespace Go.Proofs.YtihbpggbpapcfaaGreatDoor
open Go.RowKit

set_option maxRecDepth 100000 in
set_option maxHeartbeats 4000000 in
theorem rnumber_any (s : L8) (w : World) (hs : s.length ≤ 9223372036854775807) :
  Calls Tryz.prog 65 #[.string (arr s)] w (RetS (.int .i64 (nuR s)) w) := by
 have hz := arr_size s
 go_enter Tryz.func65, Tryz.ntmps65
 go_wp2_with fail
 go_loop [3, 4] (fun v i => ∃ (j : Nat) (z : Int), j ≤ s.length ∧ i = .int .i64 j ∧ v = .int .i64 z ∧ -9223372036854775808 ≤ z ∧ z ≤ 9223372036854775807 ∧ Hid (NumI s j z)) (fun _ i => s.length - (intOf i).toNat)
 case atStart => exact ⟨0, 0, by omega, rfl, rfl, by omega, by omega, Lib.hid ⟨0, rfl, fun _ => ⟨rfl, by simp⟩⟩⟩
 case round =>
  obtain ⟨j, z, hj, rfl, rfl, hz1, hz2, HI⟩ := hrel
  by_cases hlt : j < s.length
  ·
   have hja : j < (arr s).size := by omega
   have hat := arr_at s j hlt hja
   have k1 : (j : Int) < s.length := by omega
   have k2 : (0 : Int) ≤ j := by omega
   have HNO := Lib.hid (dig_no hlt)
   have HST := Lib.hid (fun z' h1 h2 h3 => HI.out.step (z' := z') hlt h1 h2 h3)
   have hc255 := s[j].toNat_lt
   generalize hch : s[j] = ch at *
   by_cases hd : 48 ≤ ch.toNat ∧ ch.toNat ≤ 57
   ·
    obtain ⟨hd1, hd2⟩ := hd
    by_cases h7 : j < 7
    ·
     obtain ⟨m, _, hv⟩ := HI.out
     obtain ⟨hv1, hv2⟩ := hv (by omega)
     have hv3 : (10 : Nat) ^ j ≤ 10 ^ 6 := Nat.pow_le_pow_right (by omega) (by omega)
     have hz3 : 0 ≤ z := by omega
     have hz4 : z < 1000000 := by omega
     have HI2 := Lib.hid (HST.out (10 * z + ((ch.toNat : Int) - 48)) hd1 hd2 (fun _ => rfl))
     clear hv1 hv2 hv3 HST HNO hch
     go_wp2_with fail
     go_round
     case rel => exact ⟨j + 1, 10 * z + ((ch.toNat : Int) - 48), by omega, by go_num, by go_num, by omega, by omega, HI2⟩
     case measure => simp [intOf]; omega
    ·
     obtain ⟨y, hy⟩ : ∃ y : Int, IntKind.i64.wrap (10 * z) = y := ⟨_, rfl⟩
     obtain ⟨x, hx⟩ : ∃ x : Int, IntKind.i64.wrap (y + ((ch.toNat : Int) - 48)) = x := ⟨_, rfl⟩
     have hxb : -9223372036854775808 ≤ x ∧ x ≤ 9223372036854775807 := by rw [← hx, IntKind.wrap_i64]; omega
     have hyb : -9223372036854775808 ≤ y ∧ y ≤ 9223372036854775807 := by rw [← hy, IntKind.wrap_i64]; omega
     obtain ⟨hx1, hx2⟩ := hxb
     obtain ⟨hy1, hy2⟩ := hyb
     have HI2 := Lib.hid (HST.out x hd1 hd2 (fun h => absurd h h7))
     clear HST HNO hch
     go_wp2_with fail
     go_round
     case rel => exact ⟨j + 1, x, by omega, by go_num, by go_num, by omega, by omega, HI2⟩
     case measure => simp [intOf]; omega
   ·
    have HF : Hid (nuR s = -1) := Lib.hid (by
     unfold nuR
     rw [HNO.out (by unfold Lib.digitVal; rw [if_neg hd])]
     simp)
    rcases (show ch.toNat < 48 ∨ (48 ≤ ch.toNat ∧ 57 < ch.toNat) by omega) with h | ⟨h, h'⟩
    all_goals
     clear hd HST HNO hch
     go_wp2_with fail
     go_ret
     exact ⟨by rw [HF.out]; rfl, rfl⟩
  ·
   obtain rfl : j = s.length := by omega
   by_cases h7 : s.length < 1 ∨ 7 < s.length
   ·
    have HF : Hid (nuR s = -1) := Lib.hid (by
     unfold nuR
     rcases h7 with h | h
     ·
      have : s = [] := List.eq_nil_of_length_eq_zero (by omega)
      subst this; rfl
     ·
      rw [if_neg (by omega)])
    rcases (show s.length < 1 ∨ (1 ≤ s.length ∧ 7 < s.length) by omega) with h | ⟨h, h'⟩
    all_goals
     clear h7
     go_wp2_with fail
     go_ret
     exact ⟨by rw [HF.out]; rfl, rfl⟩
   ·
    have HF : Hid (nuR s = z) := Lib.hid (by
     obtain ⟨m, hm, hv⟩ := HI.out
     rw [List.take_length] at hm
     unfold nuR Lib.decNat
     rw [if_pos (by omega), if_neg (by cases s <;> simp at h7 ⊢), hm]
     exact (hv (by omega)).1.symm)
    have h8 : 1 ≤ s.length := by omega
    have h9 : s.length ≤ 7 := by omega
    clear h7
    go_wp2_with fail
    go_ret
    exact ⟨by rw [HF.out]; rfl, rfl⟩
end Go.Proofs.YtihbpggbpapcfaaGreatDoor

namespace Go.Proofs.YtihbpggbpapcfaaGreatDoor
open Go.RowKit

set_option maxRecDepth 100000 in
set_option maxHeartbeats 8000000 in
theorem rsessions_any (a : Option Addr) (n c : Nat) (d : L8) (f : Nat) (nn : Int) (cl : L8) (w : World) (hx : BAt w a n d) (hc : n ≤ c) (hn : n ≤ 10000000) (hf : f ≤ n) (hnn : nn < 10000000) :
  Calls Tryz.prog 66 #[.slice a n c, .int .i64 f, .int .i64 nn, .string (arr cl)] w (SesR d f nn cl w) := by
 have hl := hx.1
 have HX := Lib.hid hx
 have WD := Lib.hid (fun k W (h : Below w.heap.size w W) (hk : k ≤ n) => rwords_any a n c d k W (hx.below h) hc hn hk)
 have ND := Lib.hid (fun s W (h : s.length ≤ 9223372036854775807) => rnumber_any s W h)
 clear hx
 go_enter Tryz.func66, Tryz.ntmps66
 go_wp2_with fail
 go_loopw [1, 11, 12] (fun p v i wr => ∃ (j k : Nat) (L : List Ses), j ≤ nn.toNat ∧ f + j ≤ k ∧ k ≤ n ∧ p = .int .i64 k ∧ i = .int .i64 j ∧ Hid (RepI (stepS numR cl) nn.toNat (d.drop f) j L (d.drop k)) ∧ Hid (SRow wr w.heap.size v L) ∧ Hid (Below w.heap.size w wr)) (fun _ _ i _ => nn.toNat - (intOf i).toNat)
 case atStart => exact ⟨0, f, [], by omega, by omega, hf, rfl, rfl, Lib.hid (RepI.start _ _ _), Lib.hid (World.ownsRow_nil _ _ _ _), Lib.hid (Below.refl _ _)⟩
 case round =>
  obtain ⟨j, k, L, hj, hk1, hk2, rfl, rfl, HI, HR, HB⟩ := hrel
  by_cases hlt : (j : Int) < nn
  ·
   have WK := Lib.hid (WD.out k wr HB.out hk2)
   have hbs := HB.out.size
   have hjn : j < nn.toNat := by omega
   have HNO := Lib.hid (fun h => HI.out.none_ hjn h)
   have HST := Lib.hid (fun (x : Ses) (t : L8) h => HI.out.step (x := x) (t := t) hjn h)
   have hLl := HI.out.1
   go_wp2_with fail
   refine WK.out.mono ?_
   rintro en w1 (⟨hcn, rfl, hb1⟩ | ⟨l, k', v1, hcs, hk3, hk4, rfl, hr1, hb1⟩)
   ·
    have HF := Lib.hid (HNO.out (stepS_none hcn))
    have HB1 := Lib.hid (below3 HB.out hb1)
    clear hcn hb1 HNO HST
    go_wp2_with fail
    refine bodyPost_ret (v := .tuple #[.slice none 0 0, .int .i64 k, .bool false]) (by simp [results, Tryz.results66, go_sem]) rfl ?_
    exact Or.inl ⟨HF.out, _, rfl, HB1.out⟩
   ·
    have HB1 := Lib.hid (below3 HB.out hb1)
    have hsp : 0 < (spl l).length := List.length_pos_iff.2 (spl_ne l)
    obtain ⟨g, cap, rfl, hcap, hgB, hgz, hcell⟩ := CRow.open_ hr1 hsp
    have HB1' := Lib.hid hb1
    clear hr1 hb1
    by_cases h6 : (spl l).length = 6
    ·
     obtain ⟨f0, f1, f2, f3, f4, f5, hs6⟩ := six_of h6
     rw [hs6] at hcell
     have c0 := hcell 0 f0 rfl
     have c1 := hcell 1 f1 rfl
     have c2 := hcell 2 f2 rfl
     have c3 := hcell 3 f3 rfl
     have c4 := hcell 4 f4 rfl
     have c5 := hcell 5 f5 rfl
     have HSW := Lib.hid (stepS_words (cl := cl) hcs hs6)
     rw [h6] at hcap
     rw [h6]
     by_cases h0 : f0 = [83]
     ·
      have p1 : ((arr f0).toList == [83]) = true := by rw [arr_toList, h0]; rfl
      have p2 : (arr f0).toList = [83] := by rw [arr_toList, h0]
      have HST2 := Lib.hid (HST.out _ _ (by rw [HSW.out, if_pos h0]))
      have hwl := spl_le l
      have hll := ctl_len hcs
      rw [hs6] at hwl
      rw [List.length_drop, List.length_drop] at hll
      have N1 := Lib.hid (fun W => ND.out f1 W (by have := hwl f1 (by simp); omega))
      have N2 := Lib.hid (fun W => ND.out f2 W (by have := hwl f2 (by simp); omega))
      have N3 := Lib.hid (fun W => ND.out f3 W (by have := hwl f3 (by simp); omega))
      have N4 := Lib.hid (fun W => ND.out f4 W (by have := hwl f4 (by simp); omega))
      clear HSW HST HNO hcs hs6 h6 hsp hcell h0 hwl hll
      go_upto_region 8 with fail
      go_cut [16] (fun s16 wx => ∃ B, s16 = .pointer (some ⟨B, 0, none⟩) ∧ wx.heap[B]? = some (.cells #[.string (arr cl), .int .i64 (nuR f1), .int .i64 (nuR f2), .int .i64 (nuR f3), .int .i64 (nuR f4), .string (arr f5)] 95 (0, 0)) ∧ w1.heap.size ≤ B ∧ Below w1.heap.size w1 wx)
      case first =>
       have t1 : True := trivial
       have t2 : True := trivial
       have t3 : True := trivial
       go_region_held3 (fun w' => w'.cell? ⟨g, 1, none⟩ = some (.string (arr f1)) ∧ w'.cell? ⟨g, 2, none⟩ = some (.string (arr f2)) ∧ w'.cell? ⟨g, 3, none⟩ = some (.string (arr f3)) ∧ w'.cell? ⟨g, 4, none⟩ = some (.string (arr f4)) ∧ w'.cell? ⟨g, 5, none⟩ = some (.string (arr f5))) (first | (with_reducible exact ⟨c1, c2, c3, c4, c5⟩) | go_keep) (first | (go_at_call 65; have _k := t1; clear t1 _k; refine (N1.out _).mono ?_; rintro e9 w9 ⟨rfl, rfl⟩) | (go_at_call 65; have _k := t2; clear t2 _k; refine (N2.out _).mono ?_; rintro e9 w9 ⟨rfl, rfl⟩) | (go_at_call 65; have _k := t3; clear t3 _k; refine (N3.out _).mono ?_; rintro e9 w9 ⟨rfl, rfl⟩) | (go_at_call 65; refine (N4.out _).mono ?_; rintro e9 w9 ⟨rfl, rfl⟩))
       all_goals go_wp2_with fail
       all_goals go_meet
       all_goals exact ⟨w1.heap.size, rfl, heap_alloc_new _ _, Nat.le_refl _, new_bel _ _⟩
      case rest =>
       obtain ⟨B, rfl, hh, hB, hbc⟩ := hcut
       have HH := Lib.hid hh
       have HBC := Lib.hid hbc
       have HR1 := Lib.hid (row_below HR.out HB1'.out)
       have hws := HB1'.out.size
       have hb0 := hbc.size
       have e5 : wc.cell? ⟨B, 5, none⟩ = some (.string (arr f5)) := by rw [cell_of_row _ _ 5 _ _ _ hh]; rfl
       have hfz : wc.frozen? ⟨B, 5, none⟩ = false := frozen_of_row _ _ _ _ _ hh
       have hhd : hbc.size = hbc.size := rfl
       clear hh hbc hhd N1 N2 N3 N4 p1 p2 c0 c1 c2 c3 c4 c5
       by_cases h45 : f5 = [45]
       ·
        have q1 : ((arr f5).toList == [45]) = true := by rw [arr_toList, h45]; rfl
        have q2 : (arr f5).toList = [45] := by rw [arr_toList, h45]
        have HX5 : Hid (mkS cl (nuR f1) (nuR f2) (nuR f3) (nuR f4) f5 = (cl, nuR f1, nuR f2, nuR f3, nuR f4, [])) := Lib.hid (by unfold mkS; rw [if_pos h45])
        have HH2 : Hid ((wc.setCell ⟨B, 5, none⟩ (.string ⟨#[]⟩)).heap[B]? = some (.cells #[.string (arr cl), .int .i64 (nuR f1), .int .i64 (nuR f2), .int .i64 (nuR f3), .int .i64 (nuR f4), .string (arr [])] 95 (0, 0))) := Lib.hid (by
         rw [heap_setCell_same wc B 5 _ _ _ HH.out]; rfl)
        have HBC2 : Hid (Below w1.heap.size w1 (wc.setCell ⟨B, 5, none⟩ (.string ⟨#[]⟩))) := Lib.hid (HBC.out.setCell (p := ⟨B, 5, none⟩) hB _)
        clear h45
        go_upto_region 11 with fail
        generalize wc.setCell ⟨B, 5, none⟩ (.string ⟨#[]⟩) = W2 at *
        clear e5 hfz q1 q2
        have e0 : W2.cell? ⟨B, 0, none⟩ = some (.string (arr cl)) := by rw [cell_of_row _ _ 0 _ _ _ HH2.out]; rfl
        have e1 : W2.cell? ⟨B, 1, none⟩ = some (.int .i64 (nuR f1)) := by rw [cell_of_row _ _ 1 _ _ _ HH2.out]; rfl
        have e2 : W2.cell? ⟨B, 2, none⟩ = some (.int .i64 (nuR f2)) := by rw [cell_of_row _ _ 2 _ _ _ HH2.out]; rfl
        have e3 : W2.cell? ⟨B, 3, none⟩ = some (.int .i64 (nuR f3)) := by rw [cell_of_row _ _ 3 _ _ _ HH2.out]; rfl
        have e4 : W2.cell? ⟨B, 4, none⟩ = some (.int .i64 (nuR f4)) := by rw [cell_of_row _ _ 4 _ _ _ HH2.out]; rfl
        have e5 : W2.cell? ⟨B, 5, none⟩ = some (.string (arr [])) := by rw [cell_of_row _ _ 5 _ _ _ HH2.out]; rfl
        have HR2 := Lib.hid (row_below HR1.out HBC2.out)
        have HBD := Lib.hid (below3 HB1.out HBC2.out)
        have hb2 := HBD.out.size
        go_wp2_with (at_builtin; refine wpList_app elemSes encSes rfl _ _ rfl w.heap.size _ L rfl (row_below HR2.out ((Below.refl _ _).alloc (Nat.le_refl _) _)) _ _ _ [(cl, nuR f1, nuR f2, nuR f3, nuR f4, [])] rfl (KAt.one (f := sesC) (k := 6) W2 (cl, nuR f1, nuR f2, nuR f3, nuR f4, []) 95) (by simp <;> omega) (by simp <;> omega) ?_)
        intro v6 w6 hr6 hb6 hg6 ho6
        have HR6 := Lib.hid hr6
        have HB6 := Lib.hid ((HBD.out.alloc hb2 _).trans hb6)
        clear hr6 hb6 hg6 ho6 e0 e1 e2 e3 e4 e5
        go_wp2_with fail
        go_roundw
        case rel => exact ⟨j + 1, k', L ++ [(cl, nuR f1, nuR f2, nuR f3, nuR f4, [])], by omega, by omega, by omega, by go_num, by go_num, Lib.hid (by rw [← HX5.out]; exact HST2.out), HR6, HB6⟩
        case measure => simp [intOf]; omega
       ·
        have q1 : ((arr f5).toList == [45]) = false := by rw [arr_toList]; simpa using h45
        have q2 : ¬ (arr f5).toList = [45] := by rw [arr_toList]; exact h45
        have HX5 : Hid (mkS cl (nuR f1) (nuR f2) (nuR f3) (nuR f4) f5 = (cl, nuR f1, nuR f2, nuR f3, nuR f4, f5)) := Lib.hid (by unfold mkS; rw [if_neg h45])
        clear h45
        go_upto_region 11 with fail
        obtain ⟨W2, hW2⟩ : ∃ W2 : World, W2 = wc := ⟨_, rfl⟩
        subst hW2
        have HH2 := HH
        have HBC2 := HBC
        clear e5 hfz q1 q2
        have e0 : W2.cell? ⟨B, 0, none⟩ = some (.string (arr cl)) := by rw [cell_of_row _ _ 0 _ _ _ HH2.out]; rfl
        have e1 : W2.cell? ⟨B, 1, none⟩ = some (.int .i64 (nuR f1)) := by rw [cell_of_row _ _ 1 _ _ _ HH2.out]; rfl
        have e2 : W2.cell? ⟨B, 2, none⟩ = some (.int .i64 (nuR f2)) := by rw [cell_of_row _ _ 2 _ _ _ HH2.out]; rfl
        have e3 : W2.cell? ⟨B, 3, none⟩ = some (.int .i64 (nuR f3)) := by rw [cell_of_row _ _ 3 _ _ _ HH2.out]; rfl
        have e4 : W2.cell? ⟨B, 4, none⟩ = some (.int .i64 (nuR f4)) := by rw [cell_of_row _ _ 4 _ _ _ HH2.out]; rfl
        have e5 : W2.cell? ⟨B, 5, none⟩ = some (.string (arr f5)) := by rw [cell_of_row _ _ 5 _ _ _ HH2.out]; rfl
        have HR2 := Lib.hid (row_below HR1.out HBC2.out)
        have HBD := Lib.hid (below3 HB1.out HBC2.out)
        have hb2 := HBD.out.size
        go_wp2_with (at_builtin; refine wpList_app elemSes encSes rfl _ _ rfl w.heap.size _ L rfl (row_below HR2.out ((Below.refl _ _).alloc (Nat.le_refl _) _)) _ _ _ [(cl, nuR f1, nuR f2, nuR f3, nuR f4, f5)] rfl (KAt.one (f := sesC) (k := 6) W2 (cl, nuR f1, nuR f2, nuR f3, nuR f4, f5) 95) (by simp <;> omega) (by simp <;> omega) ?_)
        intro v6 w6 hr6 hb6 hg6 ho6
        have HR6 := Lib.hid hr6
        have HB6 := Lib.hid ((HBD.out.alloc hb2 _).trans hb6)
        clear hr6 hb6 hg6 ho6 e0 e1 e2 e3 e4 e5
        go_wp2_with fail
        go_roundw
        case rel => exact ⟨j + 1, k', L ++ [(cl, nuR f1, nuR f2, nuR f3, nuR f4, f5)], by omega, by omega, by omega, by go_num, by go_num, Lib.hid (by rw [← HX5.out]; exact HST2.out), HR6, HB6⟩
        case measure => simp [intOf]; omega
     ·
      have p1 : ((arr f0).toList == [83]) = false := by rw [arr_toList]; simpa using h0
      have p2 : ¬ (arr f0).toList = [83] := by rw [arr_toList]; exact h0
      have HF := Lib.hid (HNO.out (by rw [HSW.out, if_neg h0]))
      clear HSW HST HNO hcs hs6 h6 hsp hcell h0
      go_wp2_with fail
      refine bodyPost_ret (v := .tuple #[.slice none 0 0, .int .i64 k, .bool false]) (by simp [results, Tryz.results66, go_sem]) rfl ?_
      exact Or.inl ⟨HF.out, _, rfl, HB1.out⟩
    ·
     have HF := Lib.hid (HNO.out (stepS_long hcs h6))
     have e6 : (((spl l).length : Int) != 6) = true := by
      rw [bne_iff_ne]; omega
     have e7 : (((spl l).length : Int) == 6) = false := by
      rw [beq_eq_false_iff_ne]; omega
     have e8 : ¬ ((spl l).length : Int) = 6 := by omega
     clear HST HNO hcell hcs
     generalize (spl l).length = q at *
     go_wp2_with fail
     refine bodyPost_ret (v := .tuple #[.slice none 0 0, .int .i64 k, .bool false]) (by simp [results, Tryz.results66, go_sem]) rfl ?_
     exact Or.inl ⟨HF.out, _, rfl, HB1.out⟩
  ·
   have HF := Lib.hid (HI.out.done (by omega))
   go_wp2_with fail
   refine bodyPost_ret (v := .tuple #[_, .int .i64 k, .bool true]) (by simp [results, Tryz.results66, go_sem]; rfl) rfl ?_
   exact Or.inr ⟨L, k, _, HF.out, by omega, by omega, rfl, HR.out, HB.out⟩
end Go.Proofs.YtihbpggbpapcfaaGreatDoor

namespace Go.Proofs.YtihbpggbpapcfaaGreatDoor
open Go.RowKit

theorem getD_le {l : L8} (k : Nat) : ((spl l).tail.getD k []).length ≤ l.length := by
 rw [List.getD_eq_getElem?_getD]
 cases h : (spl l).tail[k]? with
 | none => simp
 | some x => exact spl_le l x (List.mem_of_mem_tail (List.mem_of_getElem? h))
theorem stepS_ok {cl r t : L8} {s : Ses} (h : stepS numR cl r = some (s, t)) (h1 : cl.length ≤ 9223372036854775807) (h2 : r.length ≤ 9223372036854775807) :
  (s.1.length ≤ 9223372036854775807 ∧ s.2.2.2.2.2.length ≤ 9223372036854775807) ∧ -9223372036854775808 ≤ s.2.2.2.1 ∧ s.2.2.2.1 ≤ 9223372036854775807 := by
 unfold stepS lnP at h
 cases hc : ctl r with
 | none => rw [hc] at h; cases h
 | some p =>
  obtain ⟨l, u⟩ := p
  have hl := ctl_len hc
  rw [hc] at h
  simp only at h
  by_cases hw : (spl l).length = 5 + 1 ∧ (spl l).headD [] = [83]
  ·
   rw [if_pos hw] at h
   simp only [numR, Option.some.injEq, Prod.mk.injEq] at h
   obtain ⟨rfl, _⟩ := h
   have hb := nuR_bd ((spl l).tail.getD 2 [])
   have hr := getD_le (l := l) 4
   unfold mkS
   refine ⟨⟨h1, ?_⟩, ?_, ?_⟩
   ·
    simp only
    split
    ·
     simp
    ·
     omega
   ·
    simp only; omega
   ·
    simp only; omega
  ·
   rw [if_neg hw] at h; cases h
theorem repS_ok {cl : L8} (h1 : cl.length ≤ 9223372036854775807) : ∀ (k : Nat) {r t : L8} {l : List Ses}, repP (stepS numR cl) k r = some (l, t) → r.length ≤ 9223372036854775807 → SOk l
 | 0, _, _, _, h, _ => by cases h; exact fun s hs => by cases hs
 | k + 1, r, t, l, h, h2 => by
  unfold repP at h
  split at h
  ·
   cases h
  ·
   next x u hx =>
   split at h
   ·
    cases h
   ·
    next m q hm =>
    simp only [Option.some.injEq, Prod.mk.injEq] at h
    obtain ⟨rfl, rfl⟩ := h
    have h3 := stepS_len hx
    intro s hs
    rcases List.mem_cons.1 hs with rfl | hs
    ·
     exact stepS_ok hx h1 h2
    ·
     exact repS_ok h1 k hm (by omega) s hs
theorem stepC_ok {r t : L8} {c : Chg} (h : stepC numR r = some (c, t)) (h2 : r.length ≤ 9223372036854775807) : c.1.length ≤ 9223372036854775807 ∧ SOk c.2.1 ∧ SOk c.2.2 := by
 unfold stepC at h
 split at h
 ·
  cases h
 ·
  next ws u hl =>
  have hlu := lnP_len hl
  have hcl : (ws.getD 0 []).length ≤ 9223372036854775807 := by
   unfold lnP at hl
   split at hl
   ·
    cases hl
   ·
    next l u2 hc =>
    split at hl
    ·
     simp only [Option.some.injEq, Prod.mk.injEq] at hl
     obtain ⟨rfl, _⟩ := hl
     have := getD_le (l := l) 0
     have := ctl_len hc
     omega
    ·
     cases hl
  split at h
  ·
   cases h
  ·
   next a ha =>
   split at h
   ·
    cases h
   ·
    next x u2 hx =>
    split at h
    ·
     cases h
    ·
     next b hb =>
     split at h
     ·
      cases h
     ·
      next y u3 hy =>
      simp only [Option.some.injEq, Prod.mk.injEq] at h
      obtain ⟨rfl, rfl⟩ := h
      have h3 := repS_len _ hx
      exact ⟨hcl, repS_ok hcl _ hx (by omega), repS_ok hcl _ hy (by omega)⟩
theorem repC_ok : ∀ (k : Nat) {r t : L8} {l : List Chg}, repP (stepC numR) k r = some (l, t) → r.length ≤ 9223372036854775807 → ∀ c ∈ l, c.1.length ≤ 9223372036854775807 ∧ SOk c.2.1 ∧ SOk c.2.2
 | 0, _, _, _, h, _ => by cases h; exact fun s hs => by cases hs
 | k + 1, r, t, l, h, h2 => by
  unfold repP at h
  split at h
  ·
   cases h
  ·
   next x u hx =>
   split at h
   ·
    cases h
   ·
    next m q hm =>
    simp only [Option.some.injEq, Prod.mk.injEq] at h
    obtain ⟨rfl, rfl⟩ := h
    have h3 := stepC_len hx
    intro s hs
    rcases List.mem_cons.1 hs with rfl | hs
    ·
     exact stepC_ok hx h2
    ·
     exact repC_ok k hm (by omega) s hs
end Go.Proofs.YtihbpggbpapcfaaGreatDoor

namespace Go.Proofs.YtihbpggbpapcfaaGreatDoor
open Go.RowKit

section
variable {w0 w w2 : World} {R : Nat} {v0 v1 v2 : Value} {T : TypeId}
end

theorem four_of {α : Type} {l : List α} (h : l.length = 4) : ∃ a b c d, l = [a, b, c, d] := by
 match l, h with
 | [a, b, c, d], _ => exact ⟨a, b, c, d, rfl⟩
theorem rd_none {d : L8} (h : headP numR d = none) : rdV d = none := by unfold rdV verP; rw [h]
theorem head_none {r : L8} (h : ctl r = none) : headP numR r = none := by unfold headP lnP; rw [h]
theorem head_long {r l t : L8} (h : ctl r = some (l, t)) (hs : (spl l).length ≠ 4) : headP numR r = none := by
 unfold headP lnP
 rw [h]
 simp only
 rw [if_neg (fun h => hs h.1)]
theorem head_words {r l t : L8} (h : ctl r = some (l, t)) {f0 f1 f2 f3 : L8} (hs : spl l = [f0, f1, f2, f3]) : headP numR r = if f0 = [86] then some ((nuR f1, nuR f2, nuR f3), t) else none := by
 unfold headP lnP
 rw [h]
 simp only [hs]
 by_cases h0 : f0 = [86]
 ·
  rw [if_pos h0, if_pos ⟨rfl, h0⟩]; rfl
 ·
  rw [if_neg h0, if_neg (fun h => h0 h.2)]
theorem rd_bad {d t : L8} {a b c : Int} (h : headP numR d = some ((a, b, c), t)) (hc : ¬ (0 ≤ c ∧ c ≤ (d.length : Int))) : rdV d = none := by
 unfold rdV verP
 rw [h]
 simp only
 rw [if_pos (by rw [decide_eq_false_iff_not]; exact hc)]
theorem rd_rep {d t : L8} {a b c : Int} (h : headP numR d = some ((a, b, c), t)) (hc : 0 ≤ c ∧ c ≤ (d.length : Int)) : rdV d = match repP (stepC numR) c.toNat t with
 | none => none
 | some (l, _) => if frmV (a, b, l) = true ∧ encV (a, b, l) <+: d then some (a, b, l) else none := by
 unfold rdV verP
 rw [h]
 simp only
 rw [if_neg (by rw [decide_eq_false_iff_not]; exact fun h => h hc)]
 cases repP (stepC numR) c.toNat t with
 | none => rfl
 | some p => rfl
theorem stepC_none {r : L8} (h : ctl r = none) : stepC numR r = none := by unfold stepC lnP; rw [h]
theorem stepC_long {r l t : L8} (h : ctl r = some (l, t)) (hs : (spl l).length ≠ 4) : stepC numR r = none := by
 unfold stepC lnP
 rw [h]
 simp only
 rw [if_neg (fun h => hs h.1)]
theorem stepC_words {r l t : L8} (h : ctl r = some (l, t)) {g0 g1 g2 g3 : L8} (hs : spl l = [g0, g1, g2, g3]) : stepC numR r = if g0 = [67] then
  match sesP numR g1 (nuR g2) t with
  | none => none
  | some (x, t2) => match sesP numR g1 (nuR g3) t2 with
   | none => none
   | some (y, t3) => some ((g1, x, y), t3) else none := by
 unfold stepC lnP
 rw [h]
 simp only [hs]
 by_cases h0 : g0 = [67]
 ·
  rw [if_pos h0, if_pos ⟨rfl, h0⟩]; rfl
 ·
  rw [if_neg h0, if_neg (fun h => h0 h.2)]

set_option maxRecDepth 100000 in
set_option maxHeartbeats 16000000 in
theorem rdecode_any (a : Option Addr) (n c : Nat) (d : L8) (w : World) (hx : BAt w a n d) (hc : n ≤ c) (hn : n < 10000000) :
  Calls Tryz.prog 23 #[.slice a n c] w (RdR (rdV d) w) := by
 have hl := hx.1
 have HX := Lib.hid hx
 have WD := Lib.hid (fun k W (h : Below w.heap.size w W) (hk : k ≤ n) => rwords_any a n c d k W (hx.below h) hc (by omega) hk)
 have ND := Lib.hid (fun s W (h : s.length ≤ 9223372036854775807) => rnumber_any s W h)
 have SD := Lib.hid (fun k (nn : Int) cl W (h : Below w.heap.size w W) (hk : k ≤ n) (hnn : nn < 10000000) => rsessions_any a n c d k nn cl W (hx.below h) hc (by omega) hk hnn)
 clear hx
 go_enter Tryz.func23, Tryz.ntmps23
 go_wp2_with fail
 have HR0 := Lib.hid (RC.mk0 (v0 := .int .i64 0) (v1 := .int .i64 0) (v2 := .slice none 0 0) (T := 24) w)
 generalize w.alloc (.cells #[.int .i64 0, .int .i64 0, .slice none 0 0] 24) = wa at *
 obtain ⟨R, hR⟩ : ∃ R, R = w.heap.size := ⟨_, rfl⟩
 rw [← hR] at HR0 ⊢
 clear hR
 refine (WD.out 0 wa HR0.out.bl (by omega)).mono ?_
 rintro en w1 h1
 obtain ⟨v1, x1, ok1, rfl, hb1, hP⟩ := h1.two
 clear h1
 have HR1 := Lib.hid (HR0.out.next hb1)
 have HB1 := Lib.hid HR1.out.bl
 rw [List.drop_zero] at hP
 rcases hP with ⟨rfl, hcn⟩ | ⟨rfl, l, k0, hcs, rfl, hk1, hk2, hr1⟩
 ·
  have HF := Lib.hid (rd_none (head_none hcn))
  clear hb1 hcn
  have HR9 := Lib.hid (HR1.out.set3 (.int .i64 0) (.int .i64 0) (.slice none 0 0))
  obtain ⟨rc0, rc1, rc2, rf0, rf1, rf2⟩ := HR1.out.cells
  go_wp2_with fail
  generalize ((World.setCell w1 ⟨R, 0, none⟩ (.int .i64 0)).setCell ⟨R, 1, none⟩ (.int .i64 0)).setCell ⟨R, 2, none⟩ (.slice none 0 0) = W9 at *
  clear rc0 rc1 rc2 rf0 rf1 rf2
  obtain ⟨rc0, rc1, rc2, _, _, _⟩ := HR9.out.cells
  refine bodyPost_ret (v := .tuple #[verV 0 0 (none, 0, 0), .int .i64 0, .bool false]) (by simp [results, Tryz.results23, go_sem, rc0, rc1, rc2]) rfl ?_
  exact Or.inl ⟨HF.out, rfl, HR9.out.bl⟩
 have hsp : 0 < (spl l).length := List.length_pos_iff.2 (spl_ne l)
 obtain ⟨g, cap, rfl, hcap, hgB, hgz, hcell⟩ := CRow.open_ hr1 hsp
 clear hb1 hr1
 by_cases h4 : (spl l).length = 4
 rotate_left
 ·
  have HF := Lib.hid (rd_none (head_long hcs h4))
  have e6 : (((spl l).length : Int) != 4) = true := by
   rw [bne_iff_ne]; omega
  have e7 : (((spl l).length : Int) == 4) = false := by
   rw [beq_eq_false_iff_ne]; omega
  have e8 : ¬ ((spl l).length : Int) = 4 := by omega
  clear hcell hcs
  generalize (spl l).length = q at *
  have HR9 := Lib.hid (HR1.out.set3 (.int .i64 0) (.int .i64 0) (.slice none 0 0))
  obtain ⟨rc0, rc1, rc2, rf0, rf1, rf2⟩ := HR1.out.cells
  go_wp2_with fail
  generalize ((World.setCell w1 ⟨R, 0, none⟩ (.int .i64 0)).setCell ⟨R, 1, none⟩ (.int .i64 0)).setCell ⟨R, 2, none⟩ (.slice none 0 0) = W9 at *
  clear rc0 rc1 rc2 rf0 rf1 rf2
  obtain ⟨rc0, rc1, rc2, _, _, _⟩ := HR9.out.cells
  refine bodyPost_ret (v := .tuple #[verV 0 0 (none, 0, 0), .int .i64 0, .bool false]) (by simp [results, Tryz.results23, go_sem, rc0, rc1, rc2]) rfl ?_
  exact Or.inl ⟨HF.out, rfl, HR9.out.bl⟩
 obtain ⟨f0, f1, f2, f3, hs4⟩ := four_of h4
 have hll := ctl_len hcs
 have hwl := spl_le l
 rw [hs4] at hcell hwl
 have c0 := hcell 0 f0 rfl
 have c1 := hcell 1 f1 rfl
 have c2 := hcell 2 f2 rfl
 have c3 := hcell 3 f3 rfl
 have HHW := Lib.hid (head_words hcs hs4)
 rw [h4] at hcap
 rw [h4]
 have N1 := Lib.hid (fun W => ND.out f1 W (by have := hwl f1 (by simp); omega))
 have N2 := Lib.hid (fun W => ND.out f2 W (by have := hwl f2 (by simp); omega))
 have N3 := Lib.hid (fun W => ND.out f3 W (by have := hwl f3 (by simp); omega))
 clear hcell hs4 hsp hwl hcs
 by_cases h0 : f0 = [86]
 rotate_left
 ·
  have p1 : ((arr f0).toList == [86]) = false := by rw [arr_toList]; simpa using h0
  have p2 : ¬ (arr f0).toList = [86] := by rw [arr_toList]; exact h0
  have HF := Lib.hid (rd_none (HHW.out.trans (if_neg h0)))
  clear h0
  have HR9 := Lib.hid (HR1.out.set3 (.int .i64 0) (.int .i64 0) (.slice none 0 0))
  obtain ⟨rc0, rc1, rc2, rf0, rf1, rf2⟩ := HR1.out.cells
  go_wp2_with fail
  generalize ((World.setCell w1 ⟨R, 0, none⟩ (.int .i64 0)).setCell ⟨R, 1, none⟩ (.int .i64 0)).setCell ⟨R, 2, none⟩ (.slice none 0 0) = W9 at *
  clear rc0 rc1 rc2 rf0 rf1 rf2
  obtain ⟨rc0, rc1, rc2, _, _, _⟩ := HR9.out.cells
  refine bodyPost_ret (v := .tuple #[verV 0 0 (none, 0, 0), .int .i64 0, .bool false]) (by simp [results, Tryz.results23, go_sem, rc0, rc1, rc2]) rfl ?_
  exact Or.inl ⟨HF.out, rfl, HR9.out.bl⟩
 have p1 : ((arr f0).toList == [86]) = true := by rw [arr_toList, h0]; rfl
 have p2 : (arr f0).toList = [86] := by rw [arr_toList, h0]
 have HH := Lib.hid (HHW.out.trans (if_pos h0))
 clear h0 HHW
 have hz := nuR_bd f3
 have HRB := Lib.hid (fun h => rd_bad HH.out h)
 have HRP := Lib.hid (fun h => rd_rep HH.out h)
 generalize nuR f3 = z at *
 have z1 := hz.1
 have z2 := hz.2
 clear hz
 by_cases hz0 : z < 0
 ·
  have HF := Lib.hid (HRB.out (by omega))
  go_wp2_with fail
  refine (N3.out _).mono ?_
  rintro e9 w9 ⟨rfl, rfl⟩
  have HR9 := Lib.hid (HR1.out.set3 (.int .i64 0) (.int .i64 0) (.slice none 0 0))
  obtain ⟨rc0, rc1, rc2, rf0, rf1, rf2⟩ := HR1.out.cells
  go_wp2_with fail
  generalize ((World.setCell w1 ⟨R, 0, none⟩ (.int .i64 0)).setCell ⟨R, 1, none⟩ (.int .i64 0)).setCell ⟨R, 2, none⟩ (.slice none 0 0) = W9 at *
  clear rc0 rc1 rc2 rf0 rf1 rf2
  obtain ⟨rc0, rc1, rc2, _, _, _⟩ := HR9.out.cells
  refine bodyPost_ret (v := .tuple #[verV 0 0 (none, 0, 0), .int .i64 0, .bool false]) (by simp [results, Tryz.results23, go_sem, rc0, rc1, rc2]) rfl ?_
  exact Or.inl ⟨HF.out, rfl, HR9.out.bl⟩
 have hz0' : 0 ≤ z := by omega
 by_cases hzn : (n : Int) < z
 ·
  have HF := Lib.hid (HRB.out (by omega))
  go_wp2_with fail
  refine (N3.out _).mono ?_
  rintro e9 w9 ⟨rfl, rfl⟩
  go_wp2_with fail
  refine (N3.out _).mono ?_
  rintro e9 w9 ⟨rfl, rfl⟩
  have HR9 := Lib.hid (HR1.out.set3 (.int .i64 0) (.int .i64 0) (.slice none 0 0))
  obtain ⟨rc0, rc1, rc2, rf0, rf1, rf2⟩ := HR1.out.cells
  go_wp2_with fail
  generalize ((World.setCell w1 ⟨R, 0, none⟩ (.int .i64 0)).setCell ⟨R, 1, none⟩ (.int .i64 0)).setCell ⟨R, 2, none⟩ (.slice none 0 0) = W9 at *
  clear rc0 rc1 rc2 rf0 rf1 rf2
  obtain ⟨rc0, rc1, rc2, _, _, _⟩ := HR9.out.cells
  refine bodyPost_ret (v := .tuple #[verV 0 0 (none, 0, 0), .int .i64 0, .bool false]) (by simp [results, Tryz.results23, go_sem, rc0, rc1, rc2]) rfl ?_
  exact Or.inl ⟨HF.out, rfl, HR9.out.bl⟩
 have hzn' : z ≤ n := by omega
 have HRD := Lib.hid (HRP.out ⟨hz0', by omega⟩)
 clear HRB HRP hz0 hzn HH
 go_wp2_with fail
 refine (N3.out _).mono ?_
 rintro e9 w9 ⟨rfl, rfl⟩
 go_wp2_with fail
 refine (N3.out _).mono ?_
 rintro e9 w9 ⟨rfl, rfl⟩
 go_upto_region 4 with fail
 go_cut [8] (fun s8 wx => ∃ B, s8 = .pointer (some ⟨B, 0, none⟩) ∧ RC w1 wx B (.int .i64 (nuR f1)) (.int .i64 (nuR f2)) (.slice none 0 0) 24)
 case first =>
  have t1 : True := trivial
  go_region_held3 (fun w' => w'.cell? ⟨g, 1, none⟩ = some (.string (arr f1)) ∧ w'.cell? ⟨g, 2, none⟩ = some (.string (arr f2))) (first | (with_reducible exact ⟨c1, c2⟩) | go_keep) (first | (go_at_call 65; have _k := t1; clear t1 _k; refine (N1.out _).mono ?_; rintro e9 w9 ⟨rfl, rfl⟩) | (go_at_call 65; refine (N2.out _).mono ?_; rintro e9 w9 ⟨rfl, rfl⟩))
  all_goals go_wp2_with fail
  all_goals go_meet
  all_goals exact ⟨w1.heap.size, rfl, heap_alloc_new _ _, Nat.le_refl _, new_bel _ _⟩
 case rest =>
  obtain ⟨B, rfl, HV0⟩ := hcut
  have HV := Lib.hid HV0
  have hb0 := HV0.lt
  have HVB := Lib.hid HV0.bl
  have c3p := c3
  have c3 := below_cell9 HVB.out c3
  clear HV0 p1 p2 c0 c1 c2 N1 N2
  go_wp2_with fail
  refine (N3.out _).mono ?_
  rintro e9 w9 ⟨rfl, rfl⟩
  obtain ⟨wb, rfl⟩ : ∃ wb : World, wb = wc := ⟨_, rfl⟩
  obtain ⟨N, rfl⟩ : ∃ N : Nat, z = (N : Int) := ⟨z.toNat, by omega⟩
  go_wp2_with fail
  go_loopw [6, 9] (fun p i wr => ∃ (j k : Nat) (L : List Chg) (vv : Value), j ≤ N ∧ k ≤ n ∧ p = .int .i64 k ∧ i = .int .i64 ((N : Int) - (j : Int)) ∧ Hid (RepI (stepC numR) N (d.drop k0) j L (d.drop k)) ∧ Hid (RC w1 wr B (.int .i64 (nuR f1)) (.int .i64 (nuR f2)) vv 24) ∧ Hid (HRow wr wb.heap.size vv L) ∧ Hid (wb.heap.size ≤ wr.heap.size)) (fun _ i _ => (intOf i).toNat)
  case atStart => exact ⟨0, k0, [], _, by omega, by omega, rfl, by simp, Lib.hid (RepI.start _ _ _), HV, Lib.hid (HRow.nil _ _), Lib.hid (Nat.le_refl _)⟩
  case round =>
   clear HV c3
   obtain ⟨j, k, L, vv, hj, hk, rfl, rfl, HI, HV, HRW, HZ⟩ := hrel
   have hzz := HZ.out
   by_cases hlt : j < N
   ·
    have k1 : (0 : Int) < (N : Int) - (j : Int) := by omega
    have HBr := Lib.hid (below3 HB1.out HV.out.bl)
    have WK := Lib.hid (WD.out k wr HBr.out hk)
    have HNO := Lib.hid (fun h => HI.out.none_ hlt h)
    have HST := Lib.hid (fun (x : Chg) (t : L8) h => HI.out.step (x := x) (t := t) hlt h)
    have hLl := HI.out.1
    have HFN : Hid (repP (stepC numR) N (d.drop k0) = none → rdV d = none) := Lib.hid (fun h => by rw [HRD.out, Int.toNat_natCast, h])
    go_wp2_with fail
    refine WK.out.mono ?_
    rintro en w2 h2
    obtain ⟨v2, x2, ok2, rfl, hb2, hP⟩ := h2.two
    clear h2
    have HV2 := Lib.hid (HV.out.next hb2)
    have HR2 := Lib.hid (HR1.out.next HV2.out.bl)
    rcases hP with ⟨rfl, hcn⟩ | ⟨rfl, l2, k2, hcs, rfl, hk3, hk4, hr2⟩
    ·
     have HF := Lib.hid (HFN.out (HNO.out (stepC_none hcn)))
     clear hb2 hcn
     have HR9 := Lib.hid (HR2.out.set3 (.int .i64 0) (.int .i64 0) (.slice none 0 0))
     obtain ⟨rc0, rc1, rc2, rf0, rf1, rf2⟩ := HR2.out.cells
     go_wp2_with fail
     generalize ((World.setCell w2 ⟨R, 0, none⟩ (.int .i64 0)).setCell ⟨R, 1, none⟩ (.int .i64 0)).setCell ⟨R, 2, none⟩ (.slice none 0 0) = W9 at *
     clear rc0 rc1 rc2 rf0 rf1 rf2
     obtain ⟨rc0, rc1, rc2, _, _, _⟩ := HR9.out.cells
     refine bodyPost_ret (v := .tuple #[verV 0 0 (none, 0, 0), .int .i64 0, .bool false]) (by simp [results, Tryz.results23, go_sem, rc0, rc1, rc2]) rfl ?_
     exact Or.inl ⟨HF.out, rfl, HR9.out.bl⟩
    have hsp : 0 < (spl l2).length := List.length_pos_iff.2 (spl_ne l2)
    obtain ⟨g2, cap2, rfl, hcap2, hgB2, hgz2, hcell⟩ := CRow.open_ hr2 hsp
    have HRW2 := Lib.hid (HRW.out.below hb2)
    have hz2 := hb2.size
    clear hb2 hr2
    by_cases h4 : (spl l2).length = 4
    rotate_left
    ·
     have HF := Lib.hid (HFN.out (HNO.out (stepC_long hcs h4)))
     have e6 : (((spl l2).length : Int) != 4) = true := by
      rw [bne_iff_ne]; omega
     have e7 : (((spl l2).length : Int) == 4) = false := by
      rw [beq_eq_false_iff_ne]; omega
     have e8 : ¬ ((spl l2).length : Int) = 4 := by omega
     clear hcell hcs
     generalize (spl l2).length = q at *
     have HR9 := Lib.hid (HR2.out.set3 (.int .i64 0) (.int .i64 0) (.slice none 0 0))
     obtain ⟨rc0, rc1, rc2, rf0, rf1, rf2⟩ := HR2.out.cells
     go_wp2_with fail
     generalize ((World.setCell w2 ⟨R, 0, none⟩ (.int .i64 0)).setCell ⟨R, 1, none⟩ (.int .i64 0)).setCell ⟨R, 2, none⟩ (.slice none 0 0) = W9 at *
     clear rc0 rc1 rc2 rf0 rf1 rf2
     obtain ⟨rc0, rc1, rc2, _, _, _⟩ := HR9.out.cells
     refine bodyPost_ret (v := .tuple #[verV 0 0 (none, 0, 0), .int .i64 0, .bool false]) (by simp [results, Tryz.results23, go_sem, rc0, rc1, rc2]) rfl ?_
     exact Or.inl ⟨HF.out, rfl, HR9.out.bl⟩
    obtain ⟨y0, y1, y2, y3, hs4⟩ := four_of h4
    have hll2 := ctl_len hcs
    have hwl := spl_le l2
    rw [List.length_drop, List.length_drop] at hll2
    rw [hs4] at hcell hwl
    have c0 := hcell 0 y0 rfl
    have c1 := hcell 1 y1 rfl
    have c2 := hcell 2 y2 rfl
    have c3 := hcell 3 y3 rfl
    have HSW := Lib.hid (stepC_words hcs hs4)
    rw [h4] at hcap2
    rw [h4]
    have N1 := Lib.hid (fun W => ND.out y2 W (by have := hwl y2 (by simp); omega))
    have N2 := Lib.hid (fun W => ND.out y3 W (by have := hwl y3 (by simp); omega))
    clear hcell hs4 hsp hwl hcs
    by_cases h0 : y0 = [67]
    rotate_left
    ·
     have p1 : ((arr y0).toList == [67]) = false := by rw [arr_toList]; simpa using h0
     have p2 : ¬ (arr y0).toList = [67] := by rw [arr_toList]; exact h0
     have HF := Lib.hid (HFN.out (HNO.out (HSW.out.trans (if_neg h0))))
     clear h0
     have HR9 := Lib.hid (HR2.out.set3 (.int .i64 0) (.int .i64 0) (.slice none 0 0))
     obtain ⟨rc0, rc1, rc2, rf0, rf1, rf2⟩ := HR2.out.cells
     go_wp2_with fail
     generalize ((World.setCell w2 ⟨R, 0, none⟩ (.int .i64 0)).setCell ⟨R, 1, none⟩ (.int .i64 0)).setCell ⟨R, 2, none⟩ (.slice none 0 0) = W9 at *
     clear rc0 rc1 rc2 rf0 rf1 rf2
     obtain ⟨rc0, rc1, rc2, _, _, _⟩ := HR9.out.cells
     refine bodyPost_ret (v := .tuple #[verV 0 0 (none, 0, 0), .int .i64 0, .bool false]) (by simp [results, Tryz.results23, go_sem, rc0, rc1, rc2]) rfl ?_
     exact Or.inl ⟨HF.out, rfl, HR9.out.bl⟩
    have p1 : ((arr y0).toList == [67]) = true := by rw [arr_toList, h0]; rfl
    have p2 : (arr y0).toList = [67] := by rw [arr_toList, h0]
    have HS2 := Lib.hid (HSW.out.trans (if_pos h0))
    clear h0 HSW
    have HC0 := Lib.hid (RC.mk0 (v0 := .string (arr y1)) (v1 := .slice none 0 0) (v2 := .slice none 0 0) (T := 101) w2)
    go_upto_region 12 with fail
    have hw3s : (w2.alloc (.cells #[.string (arr y1), .slice none 0 0, .slice none 0 0] 101)).heap.size = w2.heap.size + 1 := by simp
    generalize hwc : w2.alloc (.cells #[.string (arr y1), .slice none 0 0, .slice none 0 0] 101) = w3 at *
    clear hwc
    have hzc := HC0.out.lt
    have HBc := Lib.hid HC0.out.bl
    have HB3 := Lib.hid (below3 (below3 HB1.out HV2.out.bl) HBc.out)
    have S1 := Lib.hid (fun W (h : Below w3.heap.size w3 W) => SD.out k2 (nuR y2) y1 W (below3 HB3.out h) (by omega) (nuR_bd y2).2)
    obtain ⟨q0, q1, q2, qf0, qf1, qf2⟩ := HC0.out.cells
    have c1w2 := c1; have c3w2 := c3
    have c0 := below_cell9 HBc.out c0
    have c1 := below_cell9 HBc.out c1
    have c2 := below_cell9 HBc.out c2
    have c3 := below_cell9 HBc.out c3
    have BE := Lib.hid (bel_drew0 w3)
    have BRF := Lib.hid (Below.refl w3.heap.size w3)
    have c1p := c1; have c2p := c2; have c3p := c3
    clear p1 p2 c0 q0 qf0
    go_cut [11, 12] (fun s11 s12 wx => ∃ (s : Sl) (x : Int) (ok : Bool), s11 = .int .i64 x ∧ s12 = .bool ok ∧ RC w2 wx w2.heap.size (.string (arr y1)) (.slice s.1 s.2.1 s.2.2) (.slice none 0 0) 101 ∧ SesQ d k2 (nuR y2) y1 w3.heap.size (slV s) x ok wx)
    case first =>
     have hne2 : w2.heap.size ≠ g2 := by omega
     have qs1 : (w3.cell? ⟨w2.heap.size, 1, none⟩).isSome = true := by rw [q1]; rfl
     go_region_held3 (fun w' => w'.cell? ⟨g2, 1, none⟩ = some (.string (arr y1)) ∧ w'.cell? ⟨g2, 2, none⟩ = some (.string (arr y2)) ∧ (w'.cell? ⟨w2.heap.size, 1, none⟩).isSome = true ∧ w'.frozen? ⟨w2.heap.size, 1, none⟩ = false) (first | (with_reducible exact ⟨c1, c2, qs1, qf1⟩) | (exact ⟨set_far c1 hne2, set_far c2 hne2, set_is qs1, set_fz qf1⟩) | go_keep) (first | (go_at_call 65; refine (N1.out _).mono ?_; rintro e9 w9 ⟨rfl, rfl⟩) | (go_at_call 66; refine (S1.out _ (by first | with_reducible exact BRF.out | with_reducible exact BE.out)).mono ?_; rintro e8 w8 h8; obtain ⟨⟨sa8, sn8, sc8⟩, x8, ok8, rfl, hb8, hQ8⟩ := h8.two; clear h8; have BQ : Below w3.heap.size w3 w8 := (by first | with_reducible exact hb8 | with_reducible exact below3 BE.out hb8); have HQ8 : Hid (SesQ d k2 (nuR y2) y1 w3.heap.size (slV (sa8, sn8, sc8)) x8 ok8 w8) := Lib.hid (by first | with_reducible exact hQ8 | exact hQ8.base BE.out.size); clear hQ8; have c1 := below_cell9 BQ c1p; have c2 := below_cell9 BQ c2p; obtain ⟨_, q1, _, _, qf1, _⟩ := (HC0.out.next BQ).cells; have qs1 : (w8.cell? ⟨w2.heap.size, 1, none⟩).isSome = true := (by rw [q1]; rfl)))
     all_goals go_wp2_with fail
     all_goals go_meet
     all_goals exact ⟨(sa8, sn8, sc8), x8, ok8, rfl, rfl, (HC0.out.next BQ).set1 _, HQ8.out.set (p := ⟨w2.heap.size, 1, none⟩) hzc _⟩
    case rest =>
     obtain ⟨⟨sa1, sn1, sc1⟩, x4, ok4, rfl, rfl, HC4', hQ⟩ := hcut
     obtain ⟨w4, rfl⟩ : ∃ w4 : World, w4 = wc := ⟨_, rfl⟩
     have HC4 := Lib.hid HC4'
     have HV4 := Lib.hid (HV2.out.next HC4'.bl)
     have HR4 := Lib.hid (HR1.out.next HV4.out.bl)
     have HB4 := Lib.hid HC4'.bl
     have HRW4 := Lib.hid (HRW2.out.below HC4'.bl)
     have hz4 := HC4'.bl.size
     have hC1 := Lib.hid c1w2
     have hC3 := Lib.hid c3w2
     clear HC4' q1 q2 qf1 qf2 c1 c2 c3 c1p c2p c3p BE BRF S1 c1w2 c3w2
     rcases hQ with ⟨rfl, hsn⟩ | ⟨rfl, l4, k4, hss, rfl, hk5, hk6, hrow⟩
     ·
      have HF := Lib.hid (HFN.out (HNO.out (by rw [HS2.out, hsn])))
      clear hsn
      have HR9 := Lib.hid (HR4.out.set3 (.int .i64 0) (.int .i64 0) (.slice none 0 0))
      obtain ⟨rc0, rc1, rc2, rf0, rf1, rf2⟩ := HR4.out.cells
      go_wp2_with fail
      generalize ((World.setCell w4 ⟨R, 0, none⟩ (.int .i64 0)).setCell ⟨R, 1, none⟩ (.int .i64 0)).setCell ⟨R, 2, none⟩ (.slice none 0 0) = W9 at *
      clear rc0 rc1 rc2 rf0 rf1 rf2
      obtain ⟨rc0, rc1, rc2, _, _, _⟩ := HR9.out.cells
      refine bodyPost_ret (v := .tuple #[verV 0 0 (none, 0, 0), .int .i64 0, .bool false]) (by simp [results, Tryz.results23, go_sem, rc0, rc1, rc2]) rfl ?_
      exact Or.inl ⟨HF.out, rfl, HR9.out.bl⟩
     have HS3 := Lib.hid hss
     have HRO := Lib.hid hrow
     have hzl := HC4.out.lt
     have hz34 : w3.heap.size ≤ w4.heap.size := by omega
     clear hss hrow
     have S2 := Lib.hid (fun W (h : Below w4.heap.size w4 W) => SD.out k4 (nuR y3) y1 W (below3 (below3 HB1.out HV4.out.bl) h) (by omega) (nuR_bd y3).2)
     obtain ⟨q0, q1, q2, qf0, qf1, qf2⟩ := HC4.out.cells
     have c1 := below_cell9 HB4.out (hC1.out)
     have c3 := below_cell9 HB4.out (hC3.out)
     have BE := Lib.hid (bel_drew0 w4)
     have BRF := Lib.hid (Below.refl w4.heap.size w4)
     have c1p := c1; have c3p := c3
     clear q0 q1 qf0 qf1
     go_upto_region 15 with fail
     go_cut [11, 12] (fun s11 s12 wx => ∃ (s : Sl) (x : Int) (ok : Bool), s11 = .int .i64 x ∧ s12 = .bool ok ∧ RC w2 wx w2.heap.size (.string (arr y1)) (.slice sa1 sn1 sc1) (.slice s.1 s.2.1 s.2.2) 101 ∧ SesQ d k4 (nuR y3) y1 w3.heap.size (slV s) x ok wx ∧ SRow wx w3.heap.size (slV (sa1, sn1, sc1)) l4)
     case first =>
      have hne2 : w2.heap.size ≠ g2 := by omega
      have qs2 : (w4.cell? ⟨w2.heap.size, 2, none⟩).isSome = true := by rw [q2]; rfl
      go_region_held3 (fun w' => w'.cell? ⟨g2, 1, none⟩ = some (.string (arr y1)) ∧ w'.cell? ⟨g2, 3, none⟩ = some (.string (arr y3)) ∧ (w'.cell? ⟨w2.heap.size, 2, none⟩).isSome = true ∧ w'.frozen? ⟨w2.heap.size, 2, none⟩ = false) (first | (with_reducible exact ⟨c1, c3, qs2, qf2⟩) | (exact ⟨set_far c1 hne2, set_far c3 hne2, set_is qs2, set_fz qf2⟩) | go_keep) (first | (go_at_call 65; refine (N2.out _).mono ?_; rintro e9 w9 ⟨rfl, rfl⟩) | (go_at_call 66; refine (S2.out _ (by first | with_reducible exact BRF.out | with_reducible exact BE.out)).mono ?_; rintro e8 w8 h8; obtain ⟨⟨sa8, sn8, sc8⟩, x8, ok8, rfl, hb8, hQ8⟩ := h8.two; clear h8; have BQ : Below w4.heap.size w4 w8 := (by first | with_reducible exact hb8 | with_reducible exact below3 BE.out hb8); have HQ8 : Hid (SesQ d k4 (nuR y3) y1 w3.heap.size (slV (sa8, sn8, sc8)) x8 ok8 w8) := Lib.hid (by first | exact hQ8.base hz34 | exact hQ8.base (Nat.le_trans hz34 BE.out.size)); clear hQ8; have c1 := below_cell9 BQ c1p; have c3 := below_cell9 BQ c3p; obtain ⟨_, _, q2, _, _, qf2⟩ := (HC4.out.next BQ).cells; have qs2 : (w8.cell? ⟨w2.heap.size, 2, none⟩).isSome = true := (by rw [q2]; rfl)))
      all_goals go_wp2_with fail
      all_goals go_meet
      all_goals exact ⟨(sa8, sn8, sc8), x8, ok8, rfl, rfl, (HC4.out.next BQ).set2 _, HQ8.out.set (p := ⟨w2.heap.size, 2, none⟩) hzc _, row_set (row_below HRO.out BQ) (p := ⟨w2.heap.size, 2, none⟩) hzc _⟩
     case rest =>
      obtain ⟨⟨sa5, sn5, sc5⟩, x5, ok5, rfl, rfl, HC5', hQ, hro5⟩ := hcut
      obtain ⟨w5, rfl⟩ : ∃ w5 : World, w5 = wc := ⟨_, rfl⟩
      have HC5 := Lib.hid HC5'
      have HV5 := Lib.hid (HV2.out.next HC5'.bl)
      have HR5 := Lib.hid (HR1.out.next HV5.out.bl)
      have HRW5 := Lib.hid (HRW2.out.below HC5'.bl)
      have HRO5 := Lib.hid hro5
      have hz5 := HC5'.lt
      clear HC5' q2 qf2 c1 c3 c1p c3p BE BRF S2 N1 N2 hro5
      rcases hQ with ⟨rfl, hsn⟩ | ⟨rfl, l5, k5, hss, rfl, hk7, hk8, hrow⟩
      ·
       have HF := Lib.hid (HFN.out (HNO.out (by rw [HS2.out, HS3.out]; simp only; rw [hsn])))
       clear hsn
       have HR9 := Lib.hid (HR5.out.set3 (.int .i64 0) (.int .i64 0) (.slice none 0 0))
       obtain ⟨rc0, rc1, rc2, rf0, rf1, rf2⟩ := HR5.out.cells
       go_wp2_with fail
       generalize ((World.setCell w5 ⟨R, 0, none⟩ (.int .i64 0)).setCell ⟨R, 1, none⟩ (.int .i64 0)).setCell ⟨R, 2, none⟩ (.slice none 0 0) = W9 at *
       clear rc0 rc1 rc2 rf0 rf1 rf2
       obtain ⟨rc0, rc1, rc2, _, _, _⟩ := HR9.out.cells
       refine bodyPost_ret (v := .tuple #[verV 0 0 (none, 0, 0), .int .i64 0, .bool false]) (by simp [results, Tryz.results23, go_sem, rc0, rc1, rc2]) rfl ?_
       exact Or.inl ⟨HF.out, rfl, HR9.out.bl⟩
      have HST5 := Lib.hid (HST.out (y1, l4, l5) (d.drop k5) (by rw [HS2.out, HS3.out]; simp only; rw [hss]))
      have HRP5 := Lib.hid hrow
      clear hss hrow HS2 HS3 HST HNO HFN
      obtain ⟨rs, hrow, hown⟩ := HRW5.out
      have HKR := Lib.hid hrow
      have HKO := Lib.hid hown
      have hrl : rs.length = L.length := hown.1
      clear hrow hown
      obtain ⟨q0, q1, q2, _, _, _⟩ := HC5.out.cells
      obtain ⟨_, _, b2, _, _, bf2⟩ := HV5.out.cells
      have hbw : wb.heap.size ≤ w3.heap.size := by omega
      have hbw5 : wb.heap.size ≤ w5.heap.size := by omega
      go_wp2_with (at_builtin; refine wpList_app elemChg encChg rfl _ _ rfl wb.heap.size _ rs rfl (row_below HKR.out ((Below.refl _ _).alloc (Nat.le_refl _) _)) _ _ _ [(y1, (sa1, sn1, sc1), (sa5, sn5, sc5))] rfl (KAt.one w5 ((y1, (sa1, sn1, sc1), (sa5, sn5, sc5)) : RChg) _) (by simp <;> omega) (by simp <;> omega) ?_)
      intro v6 w6 hr6 hb6 hg6 ho6
      have HBA := Lib.hid ((Below.refl w5.heap.size w5).alloc (Nat.le_refl _) (.cells (rchC (y1, (sa1, sn1, sc1), (sa5, sn5, sc5))).toArray 101))
      have HA := Lib.hid (row_below HKR.out HBA.out)
      have HO6 := Lib.hid ((HKO.out.below HBA.out).kept HA.out hg6)
      have HX6 := Lib.hid (row_kept (row_below HRO5.out HBA.out) HA.out (by decide) hg6)
      have HY6 := Lib.hid (row_kept (row_below HRP5.out HBA.out) HA.out (by decide) hg6)
      have HRF : Hid (HRow w6 wb.heap.size v6 (L ++ [(y1, l4, l5)])) := Lib.hid ⟨_, hr6, HO6.out.snoc ⟨rfl, row_base HX6.out hbw, row_base HY6.out hbw⟩⟩
      have HV6 : Hid (RC w1 w6 B (.int .i64 (nuR f1)) (.int .i64 (nuR f2)) vv 24) := Lib.hid (by
       have h1 := HV5.out.next HBA.out
       have h2 : Below wb.heap.size (w5.alloc (.cells (rchC (y1, (sa1, sn1, sc1), (sa5, sn5, sc5))).toArray 101)) w6 := hb6
       exact ⟨by rw [h2.block B hb0]; exact h1.hp, h1.lo, h1.bl.trans (h2.mono (by have := HVB.out.size; omega))⟩)
      obtain ⟨a6, e6, rfl, _, _⟩ := KRow.at_ encChg hr6
      have HRF2 : Hid (HRow w6 wb.heap.size (.slice a6 (j + 1) e6) (L ++ [(y1, l4, l5)])) := Lib.hid (by
       have h := HRF.out
       rw [show (rs ++ [((y1, (sa1, sn1, sc1), (sa5, sn5, sc5)) : RChg)]).length = j + 1 by simp; omega] at h
       exact h)
      obtain ⟨_, _, d2, _, _, df2⟩ := HV6.out.cells
      have hz6 : wb.heap.size ≤ w6.heap.size := Nat.le_trans (by simp; omega) hb6.size
      clear hr6 hb6 hg6 ho6 q0 q1 q2 b2 bf2
      go_wp2_with fail
      go_roundw
      case rel => exact ⟨j + 1, k5, L ++ [(y1, l4, l5)], _, by omega, by omega, by go_num, by go_num, HST5, Lib.hid (HV6.out.set2 _), Lib.hid (HRF2.out.set (p := ⟨B, 2, none⟩) hb0 _), Lib.hid (by rw [World.size_setCell]; exact hz6)⟩
      case measure => simp [intOf]; omega
   ·
    obtain rfl : N = j := by omega
    have HDN := HI.out.done (Nat.le_refl _)
    have hcnt := repC_len _ HDN
    have hok := repC_ok _ HDN (by rw [List.length_drop]; omega)
    rw [List.length_drop] at hcnt
    have HF0 : Hid (rdV d = if frmV (nuR f1, nuR f2, L) = true ∧ encV (nuR f1, nuR f2, L) <+: d then some (nuR f1, nuR f2, L) else none) := Lib.hid (by rw [HRD.out, Int.toNat_natCast, HDN])
    obtain ⟨⟨sa, sn, sc⟩, rfl, hhv⟩ := HRW.out.hv
    have EC := Lib.hid (rencode_any (nuR f1, nuR f2, L) (sa, sn, sc) wr hhv hok (fun h => read_len h (b := d) (by simp only; omega) (by omega)))
    have HEL := Lib.hid (enc_len (nuR f1, nuR f2, L))
    obtain ⟨b0, b1, b2, _, _, _⟩ := HV.out.cells
    clear HDN hok hcnt hhv HI HRD
    unfold slV at b2
    simp only at b2
    rw [show (N : Int) - (N : Int) = 0 by omega]
    go_wp2_with fail
    refine EC.out.mono ?_
    rintro en w2 ⟨⟨ta, tn, tc⟩, rfl, hbv, hb2⟩
    have HV2 := Lib.hid (HV.out.next hb2)
    have HRW2 := Lib.hid (HRW.out.below hb2)
    clear hb2 b0 b1 b2
    generalize hvv : (nuR f1, nuR f2, L) = v at *
    by_cases hfr : frmV v = true
    rotate_left
    ·
     have HF : Hid (rdV d = none) := Lib.hid (by rw [HF0.out, if_neg (fun h => hfr h.1)])
     rw [if_neg hfr]
     clear hfr hvv hbv EC
     simp only
     go_upto_region 21 with fail
     go_cut [160] (fun s wx => s = .bool true ∧ Below w2.heap.size w2 wx)
     case first =>
      go_quiet (fail)
      go_wp2_with fail
      go_meet
      exact ⟨rfl, below_drewN _ _⟩
     case rest =>
      obtain ⟨rfl, hbc⟩ := hcut
      have HR5 := Lib.hid (HR1.out.next (HV2.out.next hbc).bl)
      clear hbc
      have HR9 := Lib.hid (HR5.out.set3 (.int .i64 0) (.int .i64 0) (.slice none 0 0))
      obtain ⟨rc0, rc1, rc2, rf0, rf1, rf2⟩ := HR5.out.cells
      go_wp2_with fail
      generalize ((World.setCell wc ⟨R, 0, none⟩ (.int .i64 0)).setCell ⟨R, 1, none⟩ (.int .i64 0)).setCell ⟨R, 2, none⟩ (.slice none 0 0) = W9 at *
      clear rc0 rc1 rc2 rf0 rf1 rf2
      obtain ⟨rc0, rc1, rc2, _, _, _⟩ := HR9.out.cells
      refine bodyPost_ret (v := .tuple #[verV 0 0 (none, 0, 0), .int .i64 0, .bool false]) (by simp [results, Tryz.results23, go_sem, rc0, rc1, rc2]) rfl ?_
      exact Or.inl ⟨HF.out, rfl, HR9.out.bl⟩
    rw [if_pos hfr] at hbv ⊢
    simp only at hbv ⊢
    have htl : (encV v).length = tn := hbv.2.1
    have htc : tn ≤ tc := hbv.1
    have hel := HEL.out
    rw [htl] at hel
    by_cases hle : tn ≤ n
    rotate_left
    ·
     have HF : Hid (rdV d = none) := Lib.hid (by
      rw [HF0.out, if_neg]
      rintro ⟨_, h⟩
      have := h.length_le
      omega)
     have k9 : (n : Int) < tn := by omega
     clear hvv hbv EC
     go_upto_region 21 with fail
     go_cut [160] (fun s wx => s = .bool true ∧ Below w2.heap.size w2 wx)
     case first =>
      go_quiet (fail)
      go_wp2_with fail
      go_meet
      exact ⟨rfl, below_drewN _ _⟩
     case rest =>
      obtain ⟨rfl, hbc⟩ := hcut
      have HR5 := Lib.hid (HR1.out.next (HV2.out.next hbc).bl)
      clear hbc
      have HR9 := Lib.hid (HR5.out.set3 (.int .i64 0) (.int .i64 0) (.slice none 0 0))
      obtain ⟨rc0, rc1, rc2, rf0, rf1, rf2⟩ := HR5.out.cells
      go_wp2_with fail
      generalize ((World.setCell wc ⟨R, 0, none⟩ (.int .i64 0)).setCell ⟨R, 1, none⟩ (.int .i64 0)).setCell ⟨R, 2, none⟩ (.slice none 0 0) = W9 at *
      clear rc0 rc1 rc2 rf0 rf1 rf2
      obtain ⟨rc0, rc1, rc2, _, _, _⟩ := HR9.out.cells
      refine bodyPost_ret (v := .tuple #[verV 0 0 (none, 0, 0), .int .i64 0, .bool false]) (by simp [results, Tryz.results23, go_sem, rc0, rc1, rc2]) rfl ?_
      exact Or.inl ⟨HF.out, rfl, HR9.out.bl⟩
    have hxw := HX.out.below (below3 HB1.out HV2.out.bl)
    obtain ⟨tb, toff, rfl⟩ : ∃ b o, ta = some ⟨b, o, none⟩ := by
     rcases hbv.2.2.2 with h | ⟨b, o, h, _⟩
     ·
      simp only at h; omega
     ·
      exact ⟨_, _, h⟩
    obtain ⟨db, doff, rfl⟩ : ∃ b o, a = some ⟨b, o, none⟩ := by
     rcases hxw.2.2 with h | ⟨b, o, h, _⟩
     ·
      omega
     ·
      exact ⟨_, _, h⟩
    have hx2 : BAt w2 (some ⟨db, doff, none⟩) tn (d.take tn) := hxw.take hle
    have dcell : ∀ q p, (w2.drewN q).cell? p = w2.cell? p := fun q p => by simp
    have u0 : (convert 26 9 (.slice (some ⟨tb, toff, none⟩) tn tc)).run Tryz.prog w2 = .ok (.string (arr (encV v))) w2 := whole_str hbv.2 w2 (fun _ => rfl)
    have u1 : ∀ q, (convert 26 9 (.slice (some ⟨tb, toff, none⟩) tn tc)).run Tryz.prog (w2.drewN q) = .ok (.string (arr (encV v))) (w2.drewN q) := fun q => whole_str hbv.2 _ (dcell q)
    have u2 : (convert 26 9 (.slice (some ⟨db, doff, none⟩) tn c)).run Tryz.prog w2 = .ok (.string (arr (d.take tn))) w2 := whole_str hx2 w2 (fun _ => rfl)
    have u3 : ∀ q, (convert 26 9 (.slice (some ⟨db, doff, none⟩) tn c)).run Tryz.prog (w2.drewN q) = .ok (.string (arr (d.take tn))) (w2.drewN q) := fun q => whole_str hx2 _ (dcell q)
    clear dcell
    have k9 : (tn : Int) ≤ n := by omega
    have k10 : (tn : Int) ≤ c := by omega
    clear hbv hxw hx2 EC
    by_cases hp : d.take tn = encV v
    rotate_left
    ·
     have HF : Hid (rdV d = none) := Lib.hid (by
      rw [HF0.out, if_neg]
      rintro ⟨_, h⟩
      have := List.prefix_iff_eq_take.1 h
      rw [htl] at this
      exact hp this.symm)
     have p2 : ¬ (arr (encV v)).toList = (arr (d.take tn)).toList := by rw [arr_toList, arr_toList]; exact fun h => hp h.symm
     have p1 : ((arr (encV v)).toList == (arr (d.take tn)).toList) = false := by rw [beq_eq_false_iff_ne]; exact p2
     have p3 : ((arr (encV v)).toList != (arr (d.take tn)).toList) = true := by rw [bne, p1]; rfl
     clear hvv hp
     go_upto_region 21 with fail
     go_cut [160] (fun s wx => s = .bool true ∧ Below w2.heap.size w2 wx)
     case first =>
      go_quiet (fail)
      go_wp2_with fail
      go_meet
      exact ⟨rfl, below_drewN _ _⟩
     case rest =>
      obtain ⟨rfl, hbc⟩ := hcut
      have HR5 := Lib.hid (HR1.out.next (HV2.out.next hbc).bl)
      clear hbc u0 u1 u2 u3
      have HR9 := Lib.hid (HR5.out.set3 (.int .i64 0) (.int .i64 0) (.slice none 0 0))
      obtain ⟨rc0, rc1, rc2, rf0, rf1, rf2⟩ := HR5.out.cells
      go_wp2_with fail
      generalize ((World.setCell wc ⟨R, 0, none⟩ (.int .i64 0)).setCell ⟨R, 1, none⟩ (.int .i64 0)).setCell ⟨R, 2, none⟩ (.slice none 0 0) = W9 at *
      clear rc0 rc1 rc2 rf0 rf1 rf2
      obtain ⟨rc0, rc1, rc2, _, _, _⟩ := HR9.out.cells
      refine bodyPost_ret (v := .tuple #[verV 0 0 (none, 0, 0), .int .i64 0, .bool false]) (by simp [results, Tryz.results23, go_sem, rc0, rc1, rc2]) rfl ?_
      exact Or.inl ⟨HF.out, rfl, HR9.out.bl⟩
    have hpre : encV v <+: d := by
     have h := List.take_prefix tn d
     rw [hp] at h
     exact h
    have HF : Hid (rdV d = some v) := Lib.hid (by rw [HF0.out, if_pos ⟨hfr, hpre⟩])
    rw [hp] at u2 u3
    have HVV := Lib.hid hvv
    clear hvv hp
    go_upto_region 21 with fail
    go_cut [160] (fun s wx => s = .bool false ∧ Below w2.heap.size w2 wx)
    case first =>
     go_quiet (fail)
     go_wp2_with fail
     go_meet
     exact ⟨by first | rfl | (rw [decide_eq_false (show ¬ n < tn by omega)]), below_drewN _ _⟩
    case rest =>
     obtain ⟨rfl, hbc⟩ := hcut
     have hvv := HVV.out
     subst hvv
     have HV5 := Lib.hid (HV2.out.next hbc)
     have HR5 := Lib.hid (HR1.out.next HV5.out.bl)
     have HRW5 := Lib.hid (HRW2.out.below hbc)
     obtain ⟨b0, b1, b2, _, _, _⟩ := HV5.out.cells
     unfold slV at b2
     simp only at b2
     have HR9 := Lib.hid (HR5.out.set3 (.int .i64 (nuR f1)) (.int .i64 (nuR f2)) (.slice sa sn sc))
     have hRb : R < wb.heap.size := Nat.lt_of_lt_of_le HR1.out.lt HVB.out.size
     have hwb : w.heap.size ≤ wb.heap.size := Nat.le_trans HB1.out.size HVB.out.size
     have HRW9 := Lib.hid (((HRW5.out.set (p := ⟨R, 0, none⟩) hRb (.int .i64 (nuR f1))).set (p := ⟨R, 1, none⟩) hRb (.int .i64 (nuR f2))).set (p := ⟨R, 2, none⟩) hRb (.slice sa sn sc))
     obtain ⟨rc0, rc1, rc2, rf0, rf1, rf2⟩ := HR5.out.cells
     clear hbc u0 u1 u2 u3
     go_wp2_with fail
     generalize ((World.setCell wc ⟨R, 0, none⟩ (.int .i64 (nuR f1))).setCell ⟨R, 1, none⟩ (.int .i64 (nuR f2))).setCell ⟨R, 2, none⟩ (.slice sa sn sc) = W9 at *
     clear rc0 rc1 rc2 rf0 rf1 rf2
     obtain ⟨rc0, rc1, rc2, _, _, _⟩ := HR9.out.cells
     refine bodyPost_ret (v := .tuple #[verV (nuR f1) (nuR f2) (sa, sn, sc), .int .i64 tn, .bool true]) (by simp [results, Tryz.results23, go_sem, rc0, rc1, rc2]) rfl ?_
     exact Or.inr ⟨(nuR f1, nuR f2, L), (sa, sn, sc), HF.out, by rw [htl], HRW9.out.base hwb, HR9.out.bl⟩
end Go.Proofs.YtihbpggbpapcfaaGreatDoor
