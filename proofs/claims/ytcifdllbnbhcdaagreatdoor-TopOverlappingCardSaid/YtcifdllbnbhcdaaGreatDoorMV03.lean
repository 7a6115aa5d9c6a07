/- Texts V19, V20, V21, V22, V23, V24, joined: walks and laws. -/
import Derived.BigQuiet
import Derived.Deep.AppendLies
import Derived.Deep.DeepCutAuto
import Derived.Deep.RegionHeld3
import Derived.Deep.RegionLaw
import Derived.Maps.AppendAt
import Derived.RegionTactic
import Derived.Shelf.Spec.TrailingZeros
import Derived.Sort.Grow
import Derived.Test.YtcifdllbnbhcdaaGreatDoorMV02
namespace Go.Proofs.YtcifdllbnbhcdaaGreatDoor
open Go.RowKit
structure Gr (w w' : World) : Prop where
  bl : Below w.heap.size w w'
  dr : w.drawn ≤ w'.drawn
theorem Gr.refl (w : World) : Gr w w := ⟨Below.refl _ _, Nat.le_refl _⟩
theorem Gr.trans {a b c : World} (h : Gr a b) (g : Gr b c) : Gr a c := ⟨below3 h.bl g.bl, Nat.le_trans h.dr g.dr⟩
theorem Gr.alloc {a b : World} (h : Gr a b) (o : Obj) : Gr a (b.alloc o) := ⟨h.bl.alloc h.bl.size o, h.dr⟩
theorem Gr.drewN {a b : World} (h : Gr a b) (n : Nat) : Gr a (b.drewN n) := ⟨below3 h.bl (below_drewN _ _), Nat.le_trans h.dr (Nat.le_add_right _ _)⟩
theorem Gr.drew {a b : World} (h : Gr a b) : Gr a b.drew := ⟨below3 h.bl (bel_drew0 _), Nat.le_trans h.dr (Nat.le_add_right _ _)⟩
theorem Gr.eq {w w' : World} (h : Gr w w') : ∃ q os, w' = Go.Sort.grow (w.drewN q) os := by
  obtain ⟨⟨h1, h2, h3, h4, h5⟩, h6⟩ := h
  refine ⟨w'.drawn - w.drawn, w'.heap.extract w.heap.size w'.heap.size, ?_⟩
  have hh : w'.heap = w.heap ++ w'.heap.extract w.heap.size w'.heap.size := by
    apply Array.ext_getElem?
    intro i
    rcases Nat.lt_or_ge i w.heap.size with h | h
    · rw [h5 i h, Array.getElem?_append_left h]
    · rw [Array.getElem?_append_right h, Array.getElem?_extract]
      split
      · congr 1; omega
      · rw [Array.getElem?_eq_none (by omega)]
  cases w'; cases w
  simp only [Go.Sort.grow, World.drewN] at *
  subst h1 h2 h3
  congr 1
  omega
def Tz (w : World) : Prop := ∀ j, j < 64 → w.cell? ⟨2, j, none⟩ = some (.int .u8 (Lib.deBruijn64tab.getD j 0 : Nat))
theorem Tz.below {w w' : World} (h : Tz w) (hb : Below w.heap.size w w') : Tz w' := fun j hj => by
  have hc := h j hj
  rw [hb.cell (lt_of_cell hc)]; exact hc
set_option maxHeartbeats 1000000 in
theorem tz64_core (x k idx : Nat) (w : World) (hx0 : ((x : Int) == 0) = false)
    (key : IntKind.u64.wrap (bits BinOp.and IntKind.u64 (x : Int) (IntKind.u64.wrap (-(x : Int))) * 285870213051353865) / 288230376151711744 = (idx : Int))
    (hi : idx < 64) (hk : k < 64) (hcell : w.cell? ⟨2, idx, none⟩ = some (.int .u8 k)) :
    Calls Tryz.prog 288 #[.int .u64 x] w (RetS (.int .i64 k) w) := by
  go_enter Tryz.func288, Tryz.ntmps288
  go_wp2_with (simp only [key])
  go_ret
  exact ⟨rfl, rfl⟩
theorem tz64_zero (w : World) : Calls Tryz.prog 288 #[.int .u64 0] w (RetS (.int .i64 64) w) := by
  go_enter Tryz.func288, Tryz.ntmps288
  go_wp2
  go_ret
  exact ⟨rfl, rfl⟩
theorem tz_any (x : Nat) (hx : x < 18446744073709551616) (w : World) (hT : Tz w) :
    Calls Tryz.prog 207 #[.int .u64 x] w (RetS (.int .i64 (Lib.ctz 64 x : Nat)) w) := by
  have c64 : Calls Tryz.prog 288 #[.int .u64 x] w (RetS (.int .i64 (Lib.ctz 64 x : Nat)) w) := by
    by_cases hx0 : x = 0
    · subst hx0
      exact tz64_zero w
    · obtain ⟨hlow, hk⟩ := Lib.lowest_bit 64 x hx0 hx
      obtain ⟨hi, htab⟩ := Lib.deBruijn64_at _ hk
      have hcell := hT _ hi
      rw [htab] at hcell
      exact tz64_core x _ _ w (by simp; omega) (tz64_key x _ hx hx0 hlow) hi hk hcell
  have hw : IntKind.u64.wrap (x : Int) = (x : Int) := by rw [IntKind.wrap_u64]; omega
  have C := Lib.hid c64
  clear c64 hT
  generalize Lib.ctz 64 x = k at *
  go_enter Tryz.func207, Tryz.ntmps207
  go_wp2_with fail
  refine C.out.mono ?_
  rintro e w1 ⟨rfl, hw1⟩
  subst hw1
  go_wp2_with fail
  go_ret
  exact ⟨rfl, rfl⟩
theorem ctz_le (x : Nat) (hx : x < 18446744073709551616) : Lib.ctz 64 x ≤ 64 := by
  by_cases h : x = 0
  · subst h; exact Nat.le_refl _
  · exact Nat.le_of_lt (Lib.lowest_bit 64 x h hx).2
def datV (s : Ses) : Value := .agg #[.string (arr s.1), .int .i64 s.2.1, .int .i64 s.2.2.1, .int .i64 s.2.2.2.1, .int .i64 s.2.2.2.2.1, .string (arr s.2.2.2.2.2), .int .i64 (lowP s.2.1)]
theorem datE (cl : L8) (wk dy st ln : Int) (rm : L8) (k : Int) (h : lowP wk = k) : datV (cl, wk, dy, st, ln, rm) = .agg #[.string (arr cl), .int .i64 wk, .int .i64 dy, .int .i64 st, .int .i64 ln, .string (arr rm), .int .i64 k] := by
  subst h; rfl
set_option maxRecDepth 100000 in
set_option maxHeartbeats 2000000 in
theorem date_any (cl : L8) (wk dy st ln : Int) (rm : L8) (w : World) (hT : Tz w) :
    Calls Tryz.prog 275 #[sesV cl wk dy st ln rm] w (fun e w' => e = .returned (datV (cl, wk, dy, st, ln, rm)) ∧ Gr w w') := by
  obtain ⟨x, hx, hxb⟩ : ∃ x : Nat, IntKind.u64.wrap wk = (x : Int) ∧ x < 18446744073709551616 := by
    refine ⟨(IntKind.u64.wrap wk).toNat, ?_, ?_⟩ <;> rw [IntKind.wrap_u64] <;> omega
  have hk := ctz_le x hxb
  have HT := Lib.hid hT
  have C := Lib.hid (fun (W : World) (hb : Below w.heap.size w W) => tz_any x hxb W (HT.out.below hb))
  have HD := Lib.hid (datE cl wk dy st ln rm ((Lib.ctz 64 x : Nat) + 1) (by unfold lowP; rw [hx]; simp))
  clear hT
  generalize Lib.ctz 64 x = k at *
  go_enter Tryz.func275, Tryz.ntmps275
  have GB := Lib.hid (fun (A B : Obj) => (((Gr.refl w).alloc A).alloc B).drew.bl)
  have GG := Lib.hid (fun (A B : Obj) => (((Gr.refl w).alloc A).alloc B).drew)
  have hwk : IntKind.i64.wrap ((k : Int) + 1) = (k : Int) + 1 := IntWalk.i64_in _ (by omega)
  go_wp2_with fail
  go_region_held3 (fun w' => w'.cell? ⟨w.heap.size, 0, none⟩ = some (.string (arr cl)) ∧ w'.cell? ⟨w.heap.size, 1, none⟩ = some (.int .i64 wk) ∧ w'.cell? ⟨w.heap.size, 2, none⟩ = some (.int .i64 dy) ∧ w'.cell? ⟨w.heap.size, 3, none⟩ = some (.int .i64 st) ∧ w'.cell? ⟨w.heap.size, 4, none⟩ = some (.int .i64 ln) ∧ w'.cell? ⟨w.heap.size, 5, none⟩ = some (.string (arr rm))) (go_keep) ((go_at_call 207; refine (C.out _ (GB.out _ _)).mono ?_; rintro e9 w9 ⟨rfl, hw9⟩; replace hw9 := hw9.symm; subst hw9))
  go_wp2_with fail
  refine bodyPost_ret (v := .agg #[.string (arr cl), .int .i64 wk, .int .i64 dy, .int .i64 st, .int .i64 ln, .string (arr rm), .int .i64 ((k : Int) + 1)]) (by simp [results, Tryz.results275, go_sem]) rfl ⟨by rw [HD.out], GG.out _ _⟩
theorem cmpI_any (x y : Int) (w : World) : Calls Tryz.prog 258 #[.int .i64 x, .int .i64 y] w (RetS (.int .i64 (cmpI x y)) w) := by
  rcases Int.lt_trichotomy x y with h | h | h
  · have HF : Hid (cmpI x y = -1) := Lib.hid (by unfold cmpI; rw [if_pos h])
    go_enter Tryz.func258, Tryz.ntmps258
    go_wp2
    go_ret
    exact ⟨ret_int (by rw [HF.out]), rfl⟩
  · subst h
    have HF : Hid (cmpI x x = 0) := Lib.hid (by unfold cmpI; rw [if_neg (by omega), if_pos rfl])
    go_enter Tryz.func258, Tryz.ntmps258
    go_wp2
    go_ret
    exact ⟨ret_int (by rw [HF.out]), rfl⟩
  · have HF : Hid (cmpI x y = 1) := Lib.hid (by unfold cmpI; rw [if_neg (by omega), if_neg (by omega)])
    go_enter Tryz.func258, Tryz.ntmps258
    go_wp2
    go_ret
    exact ⟨ret_int (by rw [HF.out]), rfl⟩
theorem ints2 {W : World} {b : Nat} {x y : Int} (h0 : W.cell? ⟨b, 0, none⟩ = some (.int .i64 x)) (h1 : W.cell? ⟨b, 1, none⟩ = some (.int .i64 y)) : IntsAt W (some ⟨b, 0, none⟩) 2 [x, y] := by
  refine ⟨rfl, by omega, Or.inr ⟨b, 0, rfl, fun i hi => ?_⟩⟩
  match i, hi with
  | 0, _ => exact h0
  | 1, _ => exact h1
theorem cellN (w : World) (A B : Obj) (x y : Value) (T : TypeId) (i : Nat) : (((w.alloc A).alloc B).alloc (.cells #[x, y] T)).drew.cell? ⟨w.heap.size + 1 + 1, i, none⟩ = #[x, y][i]? := by
  have e := heap_alloc_new ((w.alloc A).alloc B) (.cells #[x, y] T)
  rw [show ((w.alloc A).alloc B).heap.size = w.heap.size + 1 + 1 by simp] at e
  show World.cell? (((w.alloc A).alloc B).alloc (.cells #[x, y] T)) ⟨w.heap.size + 1 + 1, i, none⟩ = _
  rw [Lib.cell_of_heap e]
set_option maxRecDepth 100000 in
set_option maxHeartbeats 2000000 in
theorem order_any (s t : Ses) (w : World) : Calls Tryz.prog 274 #[datV s, datV t] w (fun e w' => e = .returned (.int .i64 (ordP s t)) ∧ Gr w w') := by
  obtain ⟨cl, wk, dy, st, ln, rm⟩ := s
  obtain ⟨cl', wk', dy', st', ln', rm'⟩ := t
  have HO : Hid (ordP (cl, wk, dy, st, ln, rm) (cl', wk', dy', st', ln', rm') = orI [cmpS cl cl', cmpI (lowP wk) (lowP wk')]) := Lib.hid rfl
  have GG := Lib.hid (fun (A B C : Obj) => (((Gr.refl w).alloc A).alloc B).drew.alloc C)
  have G2 := Lib.hid (fun (A B C : Obj) => ((((Gr.refl w).alloc A).alloc B).alloc C).drew)
  have CS := Lib.hid (fun W => cmpS_any cl cl' W)
  have CI := Lib.hid (fun W => cmpI_any (lowP wk) (lowP wk') W)
  have CO := Lib.hid (fun (W : World) (b : Nat) (h0 : W.cell? ⟨b, 0, none⟩ = some (.int .i64 (cmpS cl cl'))) (h1 : W.cell? ⟨b, 1, none⟩ = some (.int .i64 (cmpI (lowP wk) (lowP wk')))) => or_any (some ⟨b, 0, none⟩) 2 2 [cmpS cl cl', cmpI (lowP wk) (lowP wk')] W (ints2 h0 h1))
  rw [← HO.out] at CO
  rw [datE cl wk dy st ln rm _ rfl, datE cl' wk' dy' st' ln' rm' _ rfl]
  generalize lowP wk = k at *
  generalize lowP wk' = k' at *
  generalize cmpS cl cl' = c1 at *
  generalize cmpI k k' = c2 at *
  generalize ordP (cl, wk, dy, st, ln, rm) (cl', wk', dy', st', ln', rm') = r at *
  clear HO
  go_enter Tryz.func274, Tryz.ntmps274
  go_wp2_with fail
  go_region_held3 (fun w' => w'.cell? ⟨w.heap.size, 0, none⟩ = some (.string (arr cl)) ∧ w'.cell? ⟨w.heap.size, 6, none⟩ = some (.int .i64 k) ∧ w'.cell? ⟨w.heap.size + 1, 0, none⟩ = some (.string (arr cl')) ∧ w'.cell? ⟨w.heap.size + 1, 6, none⟩ = some (.int .i64 k')) (go_keep) (first | (go_at_call 326; refine (CS.out _).mono ?_; rintro e9 w9 ⟨rfl, hw9⟩; replace hw9 := hw9.symm; subst hw9) | (go_at_call 258; refine (CI.out _).mono ?_; rintro e9 w9 ⟨rfl, hw9⟩; replace hw9 := hw9.symm; subst hw9) | (go_at_call 257; refine (CO.out _ _ (cellN _ _ _ _ _ _ 0) (cellN _ _ _ _ _ _ 1)).mono ?_; rintro e9 w9 ⟨rfl, hw9⟩; replace hw9 := hw9.symm; subst hw9))
  all_goals (
    go_wp2_with fail
    go_ret
    exact ⟨rfl, by first | exact G2.out _ _ _ | exact GG.out _ _ _⟩)
end Go.Proofs.YtcifdllbnbhcdaaGreatDoor
namespace Go.Proofs.YtcifdllbnbhcdaaGreatDoor
open Go.RowKit
def SOk (xs : List Ses) : Prop := ∀ s ∈ xs, (s.1.length ≤ 9223372036854775807 ∧ s.2.2.2.2.2.length ≤ 9223372036854775807) ∧ -9223372036854775808 ≤ s.2.2.2.1 ∧ s.2.2.2.1 ≤ 9223372036854775807
theorem dupS_or (s t : Ses) : dupS s t = (metS s t || alkS s t) := by
  unfold dupS metS metB alkS alkB
  by_cases h : s.1 = t.1
  · simp [h]
  · simp [h]
set_option maxRecDepth 100000 in
set_option maxHeartbeats 4000000 in
theorem valid_any (a : Option Addr) (n c : Nat) (xs : List Ses) (m : Int) (w : World) (hx : SAt w a n xs) (hs : SOk xs) (hT : Tz w) (hc : n ≤ c) :
    Calls Tryz.prog 276 #[.slice a n c, .int .i64 m] w (RetB (.int .i64 (vldS xs m)) w) := by
  have n1 := hx.2.1
  have hl := hx.1
  have HX := Lib.hid hx
  have HS := Lib.hid hs
  have HT := Lib.hid hT
  clear hx hs hT
  by_cases hm : m < 1 ∨ 20 < m
  · have HF : Hid (vldS xs m = 3) := Lib.hid (by unfold vldS; rw [if_pos hm])
    rcases (show m < 1 ∨ (1 ≤ m ∧ 20 < m) by omega) with h | ⟨h, h'⟩
    all_goals
      clear hm
      go_enter Tryz.func276, Tryz.ntmps276
      go_wp2
      go_ret
      exact ⟨ret_int (by rw [HF.out]), Below.refl _ _⟩
  have m1 : 1 ≤ m := by omega
  have m2 : m ≤ 20 := by omega
  by_cases hn : 96 < n
  · have HF : Hid (vldS xs m = 2) := Lib.hid (by unfold vldS; rw [if_neg hm, if_pos (by omega)])
    clear hm
    go_enter Tryz.func276, Tryz.ntmps276
    go_wp2
    go_ret
    exact ⟨ret_int (by rw [HF.out]), Below.refl _ _⟩
  have HV : Hid (vldS xs m = if chkL m xs ≠ 0 then chkL m xs else if ordL xs = false then 63 else if dupL xs = true then 11 else 0) := Lib.hid (by unfold vldS; rw [if_neg hm, if_neg (by omega)])
  have hn96 : n ≤ 96 := by omega
  clear hm hn
  go_enter Tryz.func276, Tryz.ntmps276
  go_wp2_with fail
  go_loopw [24] (fun i wr => ∃ j : Nat, j ≤ n ∧ i = .int .i64 j ∧ Hid (chkL m (xs.drop j) = chkL m xs) ∧ Hid (∀ (i : Nat) (s : Ses), i < j → xs[i]? = some s → chkS s m = 0) ∧ Hid (Below w.heap.size w wr)) (fun i _ => n - (intOf i).toNat)
  case atStart => exact ⟨0, by omega, rfl, Lib.hid rfl, Lib.hid (fun i s h => by omega), Lib.hid (Below.refl _ _)⟩
  case round =>
    obtain ⟨j, hj, rfl, HC, HA, HB⟩ := hrel
    by_cases hlt : j < n
    · obtain ⟨b1, o1, s1, rfl, g1, z1, x0, x1, x2, x3, x4, x5⟩ := SAt.cells (HX.out.below HB.out) hlt
      have HG := Lib.hid g1
      have HSS := Lib.hid (HS.out s1 (List.mem_of_getElem? g1))
      have HD := Lib.hid (chkL_drop (n := m) g1)
      have k1 : (j : Int) < n := by omega
      have k2 : (0 : Int) ≤ j := by omega
      clear g1
      have HK : Hid (chkS s1 m = chkE s1.1 s1.2.1 s1.2.2.1 s1.2.2.2.1 s1.2.2.2.2.1 s1.2.2.2.2.2 m) := Lib.hid rfl
      have SN := Lib.hid (fun W => check_any s1.1 s1.2.1 s1.2.2.1 s1.2.2.2.1 s1.2.2.2.2.1 s1.2.2.2.2.2 m HSS.out.1.1 HSS.out.1.2 HSS.out.2.1 HSS.out.2.2 W)
      rw [← HK.out] at SN
      have HBa := Lib.hid (fun O : Obj => HB.out.alloc HB.out.size O)
      go_wp2_with fail
      refine (SN.out _).mono ?_
      rintro en w2 ⟨rfl, hb2⟩
      have HB2 := Lib.hid (below3 (HBa.out _) hb2)
      clear hb2
      by_cases hz : chkS s1 m = 0
      · have HC2 : Hid (chkL m (xs.drop (j + 1)) = chkL m xs) := Lib.hid (by rw [← HC.out, HD.out, if_pos hz])
        have HA2 : Hid (∀ (i : Nat) (s : Ses), i < j + 1 → xs[i]? = some s → chkS s m = 0) := Lib.hid (fun i s h h2 => by
          rcases Nat.lt_or_ge i j with h3 | h3
          · exact HA.out i s h3 h2
          · have : i = j := by omega
            subst this
            rw [HG.out] at h2; cases h2; exact hz)
        have hd : (chkS s1 m != 0) = false := by simpa using hz
        clear hz
        generalize chkS s1 m = e1 at *
        go_wp2_with fail
        go_roundw
        case rel => exact ⟨j + 1, by omega, by go_num, HC2, HA2, HB2⟩
        case measure => simp [intOf]; omega
      · have HF : Hid (vldS xs m = chkS s1 m) := Lib.hid (by
          have : chkL m xs = chkS s1 m := by rw [← HC.out, HD.out, if_neg hz]
          rw [HV.out, this, if_pos hz])
        have hd : (chkS s1 m != 0) = true := by simpa using hz
        clear hz
        generalize chkS s1 m = e1 at *
        go_wp2_with fail
        go_ret
        exact ⟨ret_int (by rw [HF.out]), HB2.out⟩
    · obtain rfl : n = j := by omega
      have HOK : Hid (∀ (i : Nat) (s : Ses), xs[i]? = some s → chkS s m = 0) := Lib.hid (fun i s h => HA.out i s (by have := (List.getElem?_eq_some_iff.1 h).1; omega) h)
      have HV2 : Hid (vldS xs m = if ordL xs = false then 63 else if dupL xs = true then 11 else 0) := Lib.hid (by
        have h0 : chkL m xs = 0 := by rw [← HC.out, List.drop_eq_nil_of_le (by omega), chkL]
        rw [HV.out, h0]; simp)
      clear HV HC HA
      go_wp2_with fail
      obtain ⟨wo, rfl⟩ : ∃ wo : World, wo = wr := ⟨_, rfl⟩
      go_loopw [8] (fun i wr => ∃ j : Nat, j ≤ n ∧ i = .int .i64 ((j : Int) + 1) ∧ Hid (ordL (xs.drop j) = ordL xs) ∧ Hid (Below w.heap.size w wr)) (fun i _ => n + 1 - (intOf i).toNat)
      case atStart => exact ⟨0, by omega, rfl, Lib.hid rfl, HB⟩
      case round =>
        clear HB
        obtain ⟨j, hj, rfl, HO, HB⟩ := hrel
        by_cases hlt : j + 1 < n
        · obtain ⟨b1, o1, s1, rfl, g1, z1, x0, x1, x2, x3, x4, x5⟩ := SAt.cells (HX.out.below HB.out) (show j < n by omega)
          obtain ⟨b2, o2, s2, he2, g2, z2, y0, y1, y2, y3, y4, y5⟩ := SAt.cells (HX.out.below HB.out) hlt
          cases he2
          have HD := Lib.hid (ordL_drop g1 g2)
          have hw1 := (chk_week (HOK.out _ _ g1)).2.2.2
          have hw2 := (chk_week (HOK.out _ _ g2)).2.2.2
          have HTW : Hid (∀ W, Below wr.heap.size wr W → Tz W) := Lib.hid (fun W h => HT.out.below (below3 HB.out h))
          have DN : Hid (∀ (s : Ses) (W : World), Tz W → Calls Tryz.prog 275 #[sesV s.1 s.2.1 s.2.2.1 s.2.2.2.1 s.2.2.2.2.1 s.2.2.2.2.2] W (fun e w' => e = .returned (datV s) ∧ Gr W w')) := Lib.hid (fun s W h => date_any s.1 s.2.1 s.2.2.1 s.2.2.2.1 s.2.2.2.2.1 s.2.2.2.2.2 W h)
          have ON := Lib.hid (fun W => order_any s1 s2 W)
          have HBF : Hid (decide (0 ≤ ordP s1 s2) = !befS s1 s2) := Lib.hid (by
            rw [← ordP_bef hw1 hw2]
            by_cases h : ordP s1 s2 < 0
            · rw [decide_eq_true h, decide_eq_false (by omega)]; rfl
            · rw [decide_eq_false h, decide_eq_true (by omega)]; rfl)
          clear hw1 hw2 g1 g2
          have q1 : (j : Int) + 1 - 1 = (j : Int) := by omega
          have q2 : IntKind.i64.wrap ((j : Int) + 1 - 1) = (j : Int) := by rw [q1]; exact IntWalk.i64_in _ (by omega)
          have q3 : ((j : Int) + 1).toNat = j + 1 := by omega
          have q8 : IntKind.i64.wrap (j : Int) = (j : Int) := IntWalk.i64_in _ (by omega)
          have q9 : (j : Int).toNat = j := by omega
          have q4 : (j : Int) + 1 < n := by omega
          have q5 : (0 : Int) ≤ (j : Int) + 1 := by omega
          have q6 : (j : Int) < n := by omega
          have q7 : (0 : Int) ≤ (j : Int) := by omega
          have BE := Lib.hid (bel_drew0 wr)
          have xp0 := x0; have xp1 := x1; have xp2 := x2; have xp3 := x3; have xp4 := x4; have xp5 := x5
          have yp0 := y0; have yp1 := y1; have yp2 := y2; have yp3 := y3; have yp4 := y4; have yp5 := y5
          go_upto_region 15 with fail
          generalize ordP s1 s2 = r at *
          go_cut [53] (fun s53 wx => s53 = .bool (!befS s1 s2) ∧ Below wr.heap.size wr wx)
          case first =>
            go_region_held3 (fun w' => w'.cell? ⟨b1, o1 + j * 6, none⟩ = some (.string (arr s1.1)) ∧ w'.cell? ⟨b1, o1 + j * 6 + 1, none⟩ = some (.int .i64 s1.2.1) ∧ w'.cell? ⟨b1, o1 + j * 6 + 2, none⟩ = some (.int .i64 s1.2.2.1) ∧ w'.cell? ⟨b1, o1 + j * 6 + 3, none⟩ = some (.int .i64 s1.2.2.2.1) ∧ w'.cell? ⟨b1, o1 + j * 6 + 4, none⟩ = some (.int .i64 s1.2.2.2.2.1) ∧ w'.cell? ⟨b1, o1 + j * 6 + 5, none⟩ = some (.string (arr s1.2.2.2.2.2)) ∧ w'.cell? ⟨b1, o1 + (j + 1) * 6, none⟩ = some (.string (arr s2.1)) ∧ w'.cell? ⟨b1, o1 + (j + 1) * 6 + 1, none⟩ = some (.int .i64 s2.2.1) ∧ w'.cell? ⟨b1, o1 + (j + 1) * 6 + 2, none⟩ = some (.int .i64 s2.2.2.1) ∧ w'.cell? ⟨b1, o1 + (j + 1) * 6 + 3, none⟩ = some (.int .i64 s2.2.2.2.1) ∧ w'.cell? ⟨b1, o1 + (j + 1) * 6 + 4, none⟩ = some (.int .i64 s2.2.2.2.2.1) ∧ w'.cell? ⟨b1, o1 + (j + 1) * 6 + 5, none⟩ = some (.string (arr s2.2.2.2.2.2))) (first | (with_reducible exact ⟨x0, x1, x2, x3, x4, x5, y0, y1, y2, y3, y4, y5⟩) | go_keep) (first | (go_at_call 275; refine (DN.out _ _ (HTW.out _ (by first | with_reducible exact BE.out | with_reducible exact BQ | with_reducible exact below3 BQ (bel_drew0 _)))).mono ?_; rintro e9 w9 ⟨rfl, hg9⟩; have hb9 := hg9.bl; clear hg9; have BQ : Below wr.heap.size wr w9 := (by first | with_reducible exact hb9 | with_reducible exact below3 BE.out hb9 | with_reducible exact below3 BQ hb9 | with_reducible exact below3 (below3 BQ (bel_drew0 _)) hb9); have x0 := below_cell9 BQ xp0; have x1 := below_cell9 BQ xp1; have x2 := below_cell9 BQ xp2; have x3 := below_cell9 BQ xp3; have x4 := below_cell9 BQ xp4; have x5 := below_cell9 BQ xp5; have y0 := below_cell9 BQ yp0; have y1 := below_cell9 BQ yp1; have y2 := below_cell9 BQ yp2; have y3 := below_cell9 BQ yp3; have y4 := below_cell9 BQ yp4; have y5 := below_cell9 BQ yp5) | (go_at_call 274; refine (ON.out _).mono ?_; rintro e9 w9 ⟨rfl, hg9⟩; have hb9 := hg9.bl; clear hg9; have BQ : Below wr.heap.size wr w9 := (by first | with_reducible exact hb9 | with_reducible exact below3 BE.out hb9 | with_reducible exact below3 BQ hb9 | with_reducible exact below3 (below3 BQ (bel_drew0 _)) hb9); have x0 := below_cell9 BQ xp0; have x1 := below_cell9 BQ xp1; have x2 := below_cell9 BQ xp2; have x3 := below_cell9 BQ xp3; have x4 := below_cell9 BQ xp4; have x5 := below_cell9 BQ xp5; have y0 := below_cell9 BQ yp0; have y1 := below_cell9 BQ yp1; have y2 := below_cell9 BQ yp2; have y3 := below_cell9 BQ yp3; have y4 := below_cell9 BQ yp4; have y5 := below_cell9 BQ yp5))
            all_goals (
              go_wp2_with fail
              go_meet
              exact ⟨by rw [← HBF.out], by assumption⟩)
          case rest =>
            obtain ⟨rfl, hbz⟩ := hcut
            have HB3 := Lib.hid (below3 HB.out hbz)
            clear hbz q1 q2 q3 q4 q5 q6 q7 q8 q9
            cases hbf : befS s1 s2
            · have HF : Hid (vldS xs m = 63) := Lib.hid (by
                have : ordL xs = false := by rw [← HO.out, HD.out, hbf]; rfl
                rw [HV2.out, if_pos this])
              go_wp2_with fail
              go_ret
              exact ⟨ret_int (by rw [HF.out]), HB3.out⟩
            · have HO2 : Hid (ordL (xs.drop (j + 1)) = ordL xs) := Lib.hid (by rw [← HO.out, HD.out, hbf]; rfl)
              go_wp2_with fail
              go_roundw
              case rel => exact ⟨j + 1, by omega, by go_num, HO2, HB3⟩
              case measure => simp [intOf]; omega
        · have HV3 : Hid (vldS xs m = if dupL xs = true then 11 else 0) := Lib.hid (by
            have : ordL xs = true := by rw [← HO.out]; exact ordL_end (by omega)
            rw [HV2.out, this]; simp)
          clear HV2 HO
          go_wp2_with fail
          obtain ⟨wp, rfl⟩ : ∃ wp : World, wp = wr := ⟨_, rfl⟩
          go_loopw [56] (fun i wr => ∃ i2 : Nat, i2 ≤ n ∧ i = .int .i64 i2 ∧ Hid (∀ (i k : Nat) (s t : Ses), xs[i]? = some s → xs[k]? = some t → k < i → i < i2 → dupS s t = false) ∧ Hid (Below w.heap.size w wr)) (fun i _ => n - (intOf i).toNat)
          case atStart => exact ⟨0, by omega, rfl, Lib.hid (fun i k s t _ _ _ h => by omega), HB⟩
          case round =>
            clear HB
            obtain ⟨i2, hi2, rfl, HN, HB⟩ := hrel
            by_cases hl3 : i2 < n
            · obtain ⟨wq, rfl⟩ : ∃ wq : World, wq = wr := ⟨_, rfl⟩
              obtain ⟨b1, o1, s1, rfl, g1, z1, x0, x1, x2, x3, x4, x5⟩ := SAt.cells (HX.out.below HB.out) hl3
              have G1 := Lib.hid g1
              clear g1
              have q1 : (i2 : Int) < n := by omega
              have q2 : (0 : Int) ≤ (i2 : Int) := by omega
              have hic : i2 ≤ c := by omega
              have HSB := Lib.hid (SB.mk0 (w := wq) (cl := s1.1) (wk := s1.2.1) (dy := s1.2.2.1) (st := s1.2.2.2.1) (ln := s1.2.2.2.2.1) (rm := s1.2.2.2.2.2) 43)
              go_wp2_with fail
              go_loopw [65] (fun i wr => ∃ k2 : Nat, k2 ≤ i2 ∧ i = .int .i64 k2 ∧ Hid (∀ (k : Nat) (s t : Ses), xs[i2]? = some s → xs[k]? = some t → k < k2 → dupS s t = false) ∧ Hid (SB wq wr wq.heap.size s1.1 s1.2.1 s1.2.2.1 s1.2.2.2.1 s1.2.2.2.2.1 s1.2.2.2.2.2)) (fun i _ => i2 - (intOf i).toNat)
              case atStart => exact ⟨0, by omega, rfl, Lib.hid (fun k s t _ _ h => by omega), HSB⟩
              case round =>
                clear HSB x0 x1 x2 x3 x4 x5 z1
                obtain ⟨k2, hk2, rfl, HM, HSB⟩ := hrel
                by_cases hl4 : k2 < i2
                · obtain ⟨b2, o2, s2, he2, g2, z2, y0, y1, y2, y3, y4, y5⟩ := SAt.cells (HX.out.below (below3 HB.out HSB.out.bl)) (show k2 < n by omega)
                  cases he2
                  have q3 : (k2 : Int) < i2 := by omega
                  have q4 : (0 : Int) ≤ (k2 : Int) := by omega
                  have G2 := Lib.hid g2
                  have HM2 : Hid (dupS s1 s2 = false → ∀ (k : Nat) (s t : Ses), xs[i2]? = some s → xs[k]? = some t → k < k2 + 1 → dupS s t = false) := Lib.hid (fun hd k s t h1 h2 h3 => by
                    rcases Nat.lt_or_ge k k2 with h | h
                    · exact HM.out k s t h1 h2 h
                    · have : k = k2 := by omega
                      subst this
                      rw [G1.out] at h1; rw [G2.out] at h2; cases h1; cases h2; exact hd)
                  have HY : Hid (dupS s1 s2 = true → vldS xs m = 11) := Lib.hid (fun hd => by rw [HV3.out, if_pos (dupL_yes G1.out G2.out hl4 hd)])
                  have HDS : Hid (dupS s1 s2 = (metB s1.1 s1.2.1 s2.1 s2.2.1 || alkB s1.1 s1.2.2.1 s1.2.2.2.1 s1.2.2.2.2.1 s1.2.2.2.2.2 s2.1 s2.2.2.1 s2.2.2.2.1 s2.2.2.2.2.1 s2.2.2.2.2.2)) := Lib.hid (dupS_or s1 s2)
                  have HS2 := Lib.hid (SB.mk0 (w := wr) (cl := s2.1) (wk := s2.2.1) (dy := s2.2.2.1) (st := s2.2.2.2.1) (ln := s2.2.2.2.2.1) (rm := s2.2.2.2.2.2) 43)
                  have HS1 := Lib.hid (HSB.out.next ((Below.refl _ wr).alloc (Nat.le_refl _) (.cells #[.string (arr s2.1), .int .i64 s2.2.1, .int .i64 s2.2.2.1, .int .i64 s2.2.2.2.1, .int .i64 s2.2.2.2.2.1, .string (arr s2.2.2.2.2.2)] 43)))
                  have MN := Lib.hid (fun W => meet_any s1.1 s1.2.1 s1.2.2.1 s1.2.2.2.1 s1.2.2.2.2.1 s1.2.2.2.2.2 s2.1 s2.2.1 s2.2.2.1 s2.2.2.2.1 s2.2.2.2.2.1 s2.2.2.2.2.2 W)
                  have AL := Lib.hid (fun W => alike_any s1.1 s1.2.1 s1.2.2.1 s1.2.2.2.1 s1.2.2.2.2.1 s1.2.2.2.2.2 s2.1 s2.2.1 s2.2.2.1 s2.2.2.2.1 s2.2.2.2.2.1 s2.2.2.2.2.2 W)
                  clear g2
                  obtain ⟨u0, u1, u2, u3, u4, u5, uz, _⟩ := HS1.out
                  obtain ⟨v0, v1, v2, v3, v4, v5, vz, _⟩ := HS2.out
                  generalize metB s1.1 s1.2.1 s2.1 s2.2.1 = mb at *
                  generalize alkB s1.1 s1.2.2.1 s1.2.2.2.1 s1.2.2.2.2.1 s1.2.2.2.2.2 s2.1 s2.2.2.1 s2.2.2.2.1 s2.2.2.2.2.1 s2.2.2.2.2.2 = ab at *
                  go_wp2_with fail
                  refine (MN.out _).mono ?_
                  rintro en w2 ⟨rfl, hb2⟩
                  have HS3 := Lib.hid (HS1.out.next hb2)
                  have HS4 := Lib.hid (HS2.out.next hb2)
                  clear hb2 u0 u1 u2 u3 u4 u5 uz v0 v1 v2 v3 v4 v5 vz y0 y1 y2 y3 y4 y5 HS1 HS2 HSB
                  obtain ⟨u0, u1, u2, u3, u4, u5, uz, _⟩ := HS3.out
                  obtain ⟨v0, v1, v2, v3, v4, v5, vz, _⟩ := HS4.out
                  cases mb
                  rotate_left
                  · have HF := Lib.hid (HY.out (by rw [HDS.out]; rfl))
                    clear HM2 HY HDS
                    go_wp2_with fail
                    go_ret
                    exact ⟨ret_int (by rw [HF.out]), below3 HB.out HS3.out.bl⟩
                  · go_wp2_with fail
                    refine (AL.out _).mono ?_
                    rintro en w3 ⟨rfl, hb3⟩
                    have HS5 := Lib.hid (HS3.out.next hb3)
                    clear hb3 u0 u1 u2 u3 u4 u5 uz v0 v1 v2 v3 v4 v5 vz HS3 HS4
                    cases ab
                    · have HM3 := Lib.hid (HM2.out (by rw [HDS.out]; rfl))
                      clear HM2 HY HDS
                      go_wp2_with fail
                      go_roundw
                      case rel => exact ⟨k2 + 1, by omega, by go_num, HM3, HS5⟩
                      case measure => simp [intOf]; omega
                    · have HF := Lib.hid (HY.out (by rw [HDS.out]; rfl))
                      clear HM2 HY HDS
                      go_wp2_with fail
                      go_ret
                      exact ⟨ret_int (by rw [HF.out]), below3 HB.out HS5.out.bl⟩
                · obtain rfl : i2 = k2 := by omega
                  have HN2 : Hid (∀ (i k : Nat) (s t : Ses), xs[i]? = some s → xs[k]? = some t → k < i → i < i2 + 1 → dupS s t = false) := Lib.hid (fun i k s t h1 h2 h3 h4 => by
                    rcases Nat.lt_or_ge i i2 with h | h
                    · exact HN.out i k s t h1 h2 h3 h
                    · have : i = i2 := by omega
                      subst this
                      exact HM.out k s t h1 h2 h3)
                  have HB4 := Lib.hid (below3 HB.out HSB.out.bl)
                  go_wp2_with fail
                  go_roundw
                  case rel => exact ⟨i2 + 1, by omega, by go_num, HN2, HB4⟩
                  case measure => simp [intOf]; omega
            · obtain rfl : n = i2 := by omega
              have HF : Hid (vldS xs m = 0) := Lib.hid (by
                have : dupL xs = false := dupL_no (fun i k s t h1 h2 h3 => HN.out i k s t h1 h2 h3 (by have := (List.getElem?_eq_some_iff.1 h1).1; omega))
                rw [HV3.out, this]; simp)
              go_wp2_with fail
              go_ret
              exact ⟨ret_int (by rw [HF.out]), HB.out⟩
end Go.Proofs.YtcifdllbnbhcdaaGreatDoor
namespace Go.Proofs.YtcifdllbnbhcdaaGreatDoor
open Go.RowKit
theorem new1 (W : World) (cs : List Value) (T : TypeId) : ∀ (j : Nat) (u : Value), cs[j]? = some u → (W.alloc (.cells cs.toArray T)).cell? ((⟨W.heap.size, 0, none⟩ : Addr).add j) = some u := by
  intro j u h
  have e := heap_alloc_new W (.cells cs.toArray T)
  rw [Go.WideShapes.add_plain, Nat.zero_add, cell_of_row _ _ j _ _ _ e]
  simpa using h
end Go.Proofs.YtcifdllbnbhcdaaGreatDoor
namespace Go.Proofs.YtcifdllbnbhcdaaGreatDoor
open Go.RowKit
theorem flat_set {α : Type} (f : α → List Value) (k : Nat) (hk : ∀ x, (f x).length = k) (o : Nat) (u : Value) (ho : o < k) : ∀ (xs : List α) (j : Nat) (x x' : α), xs[j]? = some x → f x' = (f x).set o u → (xs.flatMap f).set (j * k + o) u = (xs.set j x').flatMap f
  | [], j, x, _, h, _ => by simp at h
  | y :: xs, 0, x, x', h, he => by
    simp only [List.getElem?_cons_zero, Option.some.injEq] at h; subst h
    rw [List.flatMap_cons, Nat.zero_mul, Nat.zero_add, List.set_append_left _ _ (by rw [hk]; exact ho), List.set_cons_zero, List.flatMap_cons, he]
  | y :: xs, j + 1, x, x', h, he => by
    rw [List.getElem?_cons_succ] at h
    rw [List.flatMap_cons, List.set_append_right _ _ (by rw [hk, Nat.add_mul]; omega), hk, List.set_cons_succ, List.flatMap_cons, ← flat_set f k hk o u ho xs j x x' h he]
    rw [show (j + 1) * k + o - k = j * k + o by rw [Nat.add_mul]; omega]
theorem SRow.open_ {w : World} {B : Nat} {v : Value} {ss : List Ses} (h : SRow w B v ss) (hp : 0 < ss.length) : ∃ g cap, v = .slice (some ⟨g, 0, none⟩) ss.length cap ∧ ss.length ≤ cap ∧ B ≤ g ∧ g < w.heap.size ∧
    ∀ (j : Nat) (s : Ses), ss[j]? = some s → w.cell? ⟨g, j * 6, none⟩ = some (.string (arr s.1)) ∧ w.cell? ⟨g, j * 6 + 1, none⟩ = some (.int .i64 s.2.1) ∧ w.cell? ⟨g, j * 6 + 2, none⟩ = some (.int .i64 s.2.2.1) ∧
      w.cell? ⟨g, j * 6 + 3, none⟩ = some (.int .i64 s.2.2.2.1) ∧ w.cell? ⟨g, j * 6 + 4, none⟩ = some (.int .i64 s.2.2.2.2.1) ∧ w.cell? ⟨g, j * 6 + 5, none⟩ = some (.string (arr s.2.2.2.2.2)) ∧ ∀ o, w.frozen? ⟨g, j * 6 + o, none⟩ = false := by
  obtain ⟨h1, ⟨_, h2⟩ | ⟨g, cap, cur, rfl, hg, hh, hc, hm, hs, ht⟩⟩ := id h
  · omega
  · refine ⟨g, cap, rfl, hc, hg, lt_of_heap hh, fun j s hj => ?_⟩
    have hlt : j < ss.length := (List.getElem?_eq_some_iff.1 hj).1
    have key : ∀ o, o < 6 → w.cell? ⟨g, j * 6 + o, none⟩ = (sesC s)[o]? := fun o ho => by
      rw [h.cellAt _ (by omega), flat_at sesC 6 sesC_len ss j o s hj ho]
    have k0 := key 0 (by omega)
    rw [Nat.add_zero] at k0
    exact ⟨k0, key 1 (by omega), key 2 (by omega), key 3 (by omega), key 4 (by omega), key 5 (by omega), fun o => h.frozenAt _⟩
theorem SRow.sat {w : World} {B : Nat} {v : Value} {ss : List Ses} (h : SRow w B v ss) : ∃ a cap, v = .slice a ss.length cap ∧ ss.length ≤ cap ∧ SAt w a ss.length ss := by
  obtain ⟨a, cap, h1, h2⟩ := KAt.of_owns sesC_len h
  refine ⟨a, cap, h1, ?_, h2⟩
  rcases h.2 with ⟨e, hn⟩ | ⟨g, cap', cur, e, _, _, hc, _⟩
  · rw [hn]; omega
  · rw [h1] at e; cases e; exact hc
theorem SRow.below {w w' : World} {B : Nat} {v : Value} {ss : List Ses} (h : SRow w B v ss) (hb : Below w.heap.size w w') : SRow w' B v ss := row_below h hb
theorem SRow.store {w : World} {B g cap : Nat} {ss : List Ses} (h : SRow w B (.slice (some ⟨g, 0, none⟩) ss.length cap) ss) {k : Nat} {t : Ses} (hk : ss[k]? = some t) (x : Int) :
    SRow (w.setCell ⟨g, k * 6 + 1, none⟩ (.int .i64 x)) B (.slice (some ⟨g, 0, none⟩) ss.length cap) (ss.set k (t.1, x, t.2.2)) := by
  have h1 := (World.ownsRow.stored h (k * 6 + 1) (.int .i64 x)).1
  rw [flat_set sesC 6 sesC_len 1 (.int .i64 x) (by omega) ss k t (t.1, x, t.2.2) hk rfl] at h1
  show World.ownsRow _ _ _ _ _ (ss.set k (t.1, x, t.2.2)).length _
  rw [List.length_set]
  exact h1
theorem addS_hit {out : List Ses} {s t : Ses} {k : Nat} (h0 : ∀ i u, i < k → out[i]? = some u → alkS s u = false) (h1 : out[k]? = some t) (h2 : alkS s t = true) : addS out s = out.set k (t.1, bits .or .i64 t.2.1 s.2.1, t.2.2) := by
  have hlt := (List.getElem?_eq_some_iff.1 h1).1
  have ht := (List.getElem?_eq_some_iff.1 h1).2
  have hi : idxS out s = k := by
    unfold idxS
    rw [List.findIdx_eq hlt]
    refine ⟨by rw [ht]; exact h2, fun i hi => ?_⟩
    exact h0 i _ hi (List.getElem?_eq_getElem (by omega))
  unfold addS
  rw [hi, if_pos hlt]
  apply List.ext_getElem?
  intro i
  rw [List.getElem?_modify, List.getElem?_set]
  by_cases hik : k = i
  · subst hik
    rw [if_pos rfl, if_pos hlt, h1]
    show some (if k = k then orW t s else t) = _
    rw [if_pos rfl]
    rfl
  · rw [if_neg hik]
    cases out[i]? with
    | none => rfl
    | some u =>
      show some (if k = i then orW u s else u) = some u
      rw [if_neg hik]
theorem below_drw {B : Nat} {a w : World} (h : Below B a w) : Below B a w.drew := ⟨h.os, h.tape, h.output, h.size, h.block⟩
end Go.Proofs.YtcifdllbnbhcdaaGreatDoor
namespace Go.Proofs.YtcifdllbnbhcdaaGreatDoor
open Go.RowKit
structure ElemT (t e : TypeId) (k bytes : Nat) : Prop where
  ex : ∃ i z, Tryz.prog.underlying t = some (.slice e) ∧ Tryz.prog.info? e = some i ∧ i.zero = some z ∧ i.size = k ∧ i.bytes = bytes ∧ z.cells.size = k
  pos : 0 < k ∧ 0 < bytes
structure Enc {α : Type} (f : α → List Value) (k : Nat) : Prop where
  len : ∀ x, (f x).length = k
  one : ∀ x, ∀ u ∈ f x, u.oneCell' = true
theorem encSes : Enc sesC 6 := ⟨sesC_len, ones_ses⟩
theorem elemSes : ElemT 66 43 6 64 := by
  obtain ⟨i, h1, h2, h3, h4⟩ := info_parts Tryz.infoSes
  exact ⟨⟨i, sesZ, Tryz.underlying66, h1, h2, h3, h4, rfl⟩, by omega⟩
abbrev KRow {α : Type} (f : α → List Value) (k : Nat) (e : TypeId) (w : World) (B : Nat) (v : Value) (xs : List α) : Prop := w.ownsRow B e k v xs.length (xs.flatMap f)
theorem KRow.nil {α : Type} (f : α → List Value) (k : Nat) (e : TypeId) (w : World) (B : Nat) : KRow f k e w B (.slice none 0 0) [] := World.ownsRow_nil _ _ _ _
theorem KAt.len {α : Type} {f : α → List Value} {k : Nat} {w : World} {a : Option Addr} {n : Nat} {xs : List α} (h : KAt f k w a n xs) : xs.length = n := h.1
theorem KAt.one {α : Type} {f : α → List Value} {k : Nat} (w : World) (x : α) (T : TypeId) : KAt f k (w.alloc (.cells (f x).toArray T)) (some ⟨w.heap.size, 0, none⟩) 1 [x] := by
  refine ⟨rfl, by omega, Or.inr ⟨_, 0, rfl, fun j y hy o v hv => ?_⟩⟩
  have hj : j = 0 := by have := (List.getElem?_eq_some_iff.1 hy).1; simp at this; omega
  subst hj
  simp only [List.getElem?_cons_zero, Option.some.injEq] at hy
  subst hy
  have := new1 w (f x) T o v hv
  rw [Go.WideShapes.add_plain] at this
  simpa using this
theorem KRow.at_ {α : Type} {f : α → List Value} {k : Nat} {e : TypeId} (hf : Enc f k) {w : World} {B : Nat} {v : Value} {xs : List α} (h : KRow f k e w B v xs) : ∃ a cap, v = .slice a xs.length cap ∧ xs.length ≤ cap ∧ KAt f k w a xs.length xs := by
  obtain ⟨a, cap, h1, h2⟩ := KAt.of_owns hf.len h
  refine ⟨a, cap, h1, ?_, h2⟩
  rcases h.2 with ⟨e, hn⟩ | ⟨g, cap', cur, e, _, _, hc, _⟩
  · rw [hn]; omega
  · rw [h1] at e; cases e; exact hc
section
variable {α : Type} {f : α → List Value} {k bytes : Nat} {t e : TypeId}
theorem run_app (hE : ElemT t e k bytes) (hf : Enc f k) {w : World} (ty : TypeId) {B : Nat} {v : Value} {xs : List α} (hown : KRow f k e w B v xs) {A : Option Addr} {m : Nat} (c : Nat) {ys : List α} (hy : KAt f k w A m ys)
    (hlim : (xs.length + ys.length) * bytes ≤ 140737488355328) (hbase : B ≤ w.heap.size) :
    ∃ v' w', (Builtin.append_ #[t, t] ty #[v, .slice A m c]).run Tryz.prog w = .ok v' w' ∧ KRow f k e w' B v' (xs ++ ys) ∧ Below B w w' ∧ w.grownBy w' v.ownBlock ∧ (v'.ownBlock = v.ownBlock ∨ v'.ownBlock = some w.heap.size) := by
  obtain ⟨i, z, ht, hi, hz, hs, hb, hzs⟩ := hE.ex
  have hk := hE.pos.1
  have hbp := hE.pos.2
  have hym : ys.length = m := hy.1
  have hle : xs.length + ys.length ≤ 140737488355328 := Nat.le_trans (Nat.le_mul_of_pos_right _ hbp) hlim
  have fin : ∀ v' w', w'.ownsRow B e k v' (xs.length + m) (xs.flatMap f ++ ys.flatMap f) → KRow f k e w' B v' (xs ++ ys) := fun v' w' h => by
    show w'.ownsRow B e k v' (xs ++ ys).length ((xs ++ ys).flatMap f)
    rw [List.length_append, List.flatMap_append, hym]; exact h
  have bel : ∀ w', w.grownBy w' v.ownBlock → Below B w w' := fun w' h => (Below.refl B w).grown h hbase (fun q hq => (hown.lt q hq).1)
  cases A with
  | none =>
    have hm : m = 0 := by
      rcases hy.2.2 with h | ⟨b, off, h, _⟩
      · exact h
      · cases h
    subst hm
    have hys : ys = [] := List.eq_nil_of_length_eq_zero hym
    subst hys
    have hrun : (Builtin.append_ #[t, t] ty #[v, .slice none 0 c]).run Tryz.prog w = .ok v w := by
      rcases hown.2 with ⟨rfl, h0⟩ | ⟨g, cap, cur, rfl, _, _, hnc, _⟩
      · simp [Builtin.append_, run_underlying ht, sizeOf, typeInfo, hi, Builtin.lenOf, Builtin.firstCells]
      · simp [Builtin.append_, run_underlying ht, sizeOf, typeInfo, hi, Builtin.lenOf, Builtin.firstCells, hnc, storeCells]
    exact ⟨v, w, hrun, by rw [List.append_nil]; exact hown, Below.refl _ _, World.grownBy.refl w _, Or.inl rfl⟩
  | some ad =>
    have hl : (ys.flatMap f).length = m * k := by rw [flat_len f k hf.len, hym]
    have h1 : ∀ u ∈ ys.flatMap f, u.oneCell' = true := fun u hu => by
      obtain ⟨x, _, hx⟩ := List.mem_flatMap.1 hu
      exact hf.one x u hx
    have hnews : ∀ j u, (ys.flatMap f)[j]? = some u → w.cell? (ad.add j) = some u := by
      intro j u hj
      rcases hy.2.2 with h | ⟨b, off, h, hc⟩
      · rw [h] at hym
        have hys : ys = [] := List.eq_nil_of_length_eq_zero hym
        subst hys
        simp at hj
      · cases h
        have hlt : j < m * k := by rw [← hl]; exact (List.getElem?_eq_some_iff.1 hj).1
        have e1 : j = j / k * k + j % k := by rw [Nat.mul_comm]; exact (Nat.div_add_mod j k).symm
        have h2 : j / k < m := Nat.div_lt_of_lt_mul (by rw [Nat.mul_comm]; exact hlt)
        have h3 : j % k < k := Nat.mod_lt _ hk
        have hx : ys[j / k]? = some ys[j / k] := List.getElem?_eq_getElem (by omega)
        have e2 := flat_at f k hf.len ys (j / k) (j % k) _ hx h3
        rw [← e1, hj] at e2
        have := hc (j / k) _ hx (j % k) u e2.symm
        rw [Go.WideShapes.add_plain, e1]
        exact this
    obtain ⟨v', w', hr, h2, h3, _, h5⟩ := run_append_own_at (P := Tryz.prog) w B t ty e i z k bytes ht hi hz hs hb hzs hk v xs.length (xs.flatMap f) hown ad m c (ys.flatMap f) hl hnews h1 (by unfold maxLen; omega) (by rw [← hym]; exact hlim) hbase
    exact ⟨v', w', hr, fin v' w' h2, bel w' h3, h3, h5⟩
theorem wp_app (hE : ElemT t e k bytes) (hf : Enc f k) {w : World} {o : Oper} {a : Act} {K : Act → World → Prop} {Q : Exit → Act → World → Prop} (s x : Operand)
    (ho : o.op = .call { callee := .builtin .append, args := #[s, x], argTypes := #[t, t] })
    (B : Nat) (v : Value) (xs : List α) (hs : a.eval s = v) (hown : KRow f k e w B v xs) (A : Option Addr) (m c : Nat) (ys : List α) (hx : a.eval x = .slice A m c) (hy : KAt f k w A m ys)
    (hlim : (xs.length + ys.length) * bytes ≤ 140737488355328) (hbase : B ≤ w.heap.size)
    (h : ∀ v' w', KRow f k e w' B v' (xs ++ ys) → Below B w w' → w.grownBy w' v.ownBlock → (v'.ownBlock = v.ownBlock ∨ v'.ownBlock = some w.heap.size) → K (a.put o.dst v') w') : o.wp Tryz.prog a w K Q := by
  obtain ⟨v', w', hr, h2, h3, h4, h5⟩ := run_app hE hf o.type hown c hy hlim hbase
  unfold Oper.wp execOp
  simp only [ho, resolve, invoke, builtin, Sem.run_bind, Sem.run_pure, Result.andThen_ok, List.map_toArray, List.map_cons, List.map_nil, hs, hx, hr]
  exact h v' w' h2 h3 h4 h5
theorem wpList_app (hE : ElemT t e k bytes) (hf : Enc f k) {w : World} {ops : Array Oper} {rest : List Oper} {o : Oper} {a : Act} {Q : Exit → Act → World → Prop} (hgd : o.guard = none) (s x : Operand)
    (ho : o.op = .call { callee := .builtin .append, args := #[s, x], argTypes := #[t, t] })
    (B : Nat) (v : Value) (xs : List α) (hs : a.eval s = v) (hown : KRow f k e w B v xs) (A : Option Addr) (m c : Nat) (ys : List α) (hx : a.eval x = .slice A m c) (hy : KAt f k w A m ys)
    (hlim : (xs.length + ys.length) * bytes ≤ 140737488355328) (hbase : B ≤ w.heap.size)
    (h : ∀ v' w', KRow f k e w' B v' (xs ++ ys) → Below B w w' → w.grownBy w' v.ownBlock → (v'.ownBlock = v.ownBlock ∨ v'.ownBlock = some w.heap.size) → wpList Tryz.prog ops Q rest (a.put o.dst v') w') : wpList Tryz.prog ops Q (o :: rest) a w :=
  wpList_plain hgd fun _ hK => wp_app hE hf s x ho B v xs hs hown A m c ys hx hy hlim hbase fun v' w' h2 h3 h4 h5 => hK _ _ (h v' w' h2 h3 h4 h5)
theorem step_app (hE : ElemT t e k bytes) (hf : Enc f k) {w : World} {ops : Array Oper} {o : Oper} {a : Act} {K : Act → World → Prop} {Q : Exit → Act → World → Prop} {E : Prop} (hgd : o.guard = none) (s x : Operand)
    (ho : o.op = .call { callee := .builtin .append, args := #[s, x], argTypes := #[t, t] })
    (B : Nat) (v : Value) (xs : List α) (hs : a.eval s = v) (hown : KRow f k e w B v xs) (A : Option Addr) (m c : Nat) (ys : List α) (hx : a.eval x = .slice A m c) (hy : KAt f k w A m ys)
    (hlim : (xs.length + ys.length) * bytes ≤ 140737488355328) (hbase : B ≤ w.heap.size)
    (h : ∀ v' w', KRow f k e w' B v' (xs ++ ys) → Below B w w' → w.grownBy w' v.ownBlock → (v'.ownBlock = v.ownBlock ∨ v'.ownBlock = some w.heap.size) → K (a.put o.dst v') w') :
    if Region.wanted o (yielded ops a.tmps) = true then Oper.wp Tryz.prog o a w K Q else E := by
  have hw : Region.wanted o (yielded ops a.tmps) = true := by simp [Region.wanted, hgd]
  rw [if_pos hw]
  exact wp_app hE hf s x ho B v xs hs hown A m c ys hx hy hlim hbase h
end
theorem KAt.take {α : Type} {f : α → List Value} {k : Nat} {w : World} {a : Option Addr} {n : Nat} {xs : List α} (h : KAt f k w a n xs) {i : Nat} (hi : i ≤ n) : KAt f k w a i (xs.take i) := by
  refine ⟨by rw [List.length_take, h.1]; omega, by have := h.2.1; omega, ?_⟩
  rcases h.2.2 with h0 | ⟨b, off, ha, hc⟩
  · left; omega
  · refine Or.inr ⟨b, off, ha, fun j x hx => ?_⟩
    rw [List.getElem?_take] at hx
    split at hx
    · exact hc j x hx
    · cases hx
theorem KAt.drop {α : Type} {f : α → List Value} {k : Nat} {w : World} {b off n : Nat} {xs : List α} (h : KAt f k w (some ⟨b, off, none⟩) n xs) {i : Nat} (hi : i ≤ n) : KAt f k w (some ⟨b, off + i * k, none⟩) (n - i) (xs.drop i) := by
  refine ⟨by rw [List.length_drop, h.1], by have := h.2.1; omega, ?_⟩
  rcases h.2.2 with h0 | ⟨b', off', ha, hc⟩
  · left; omega
  · cases ha
    refine Or.inr ⟨b, _, rfl, fun j x hx o v hv => ?_⟩
    rw [List.getElem?_drop] at hx
    have := hc (i + j) x hx o v hv
    rw [show off + i * k + (j * k + o) = off + ((i + j) * k + o) by rw [Nat.add_mul]; omega]
    exact this
end Go.Proofs.YtcifdllbnbhcdaaGreatDoor
namespace Go.Proofs.YtcifdllbnbhcdaaGreatDoor
open Go.RowKit
theorem row_base {w : World} {B B' : Nat} {e : TypeId} {k n : Nat} {v : Value} {xs : List Value} (h : w.ownsRow B e k v n xs) (hb : B' ≤ B) : w.ownsRow B' e k v n xs := by
  obtain ⟨h1, h2⟩ := h
  refine ⟨h1, ?_⟩
  rcases h2 with h2 | ⟨g, cap, cur, h3, h4, h5⟩
  · exact Or.inl h2
  · exact Or.inr ⟨g, cap, cur, h3, by omega, h5⟩
end Go.Proofs.YtcifdllbnbhcdaaGreatDoor
