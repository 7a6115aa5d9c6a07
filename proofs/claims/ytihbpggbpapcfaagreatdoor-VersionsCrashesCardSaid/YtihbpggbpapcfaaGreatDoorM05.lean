/- Texts V13, V14, V15, joined: walks and laws for the versions. -/
import Derived.BigQuiet
import Derived.Deep.DeepCutAuto
import Derived.Deep.RegionHeld3
import Derived.Test.YtihbpggbpapcfaaGreatDoorM04
namespace Go.Proofs.YtihbpggbpapcfaaGreatDoor
open Go.RowKit

def befB (cl : L8) (wk : Int) (cl' : L8) (wk' : Int) : Bool := Op.bytesLess cl cl' || (decide (cl = cl') && decide (lowW wk < lowW wk'))
theorem bel_drew0 (w : World) : Below w.heap.size w w.drew := ⟨rfl, rfl, rfl, Nat.le_refl _, fun _ _ => rfl⟩

set_option maxRecDepth 100000 in
set_option maxHeartbeats 2000000 in
theorem before_any (cl : L8) (wk dy st ln : Int) (rm : L8) (cl' : L8) (wk' dy' st' ln' : Int) (rm' : L8) (hv : wsB wk 20 = true) (hv' : wsB wk' 20 = true) (w : World) :
    Calls Tryz.prog 107 #[sesV cl wk dy st ln rm, sesV cl' wk' dy' st' ln' rm'] w (RetB (.bool (befB cl wk cl' wk')) w) := by
  have HS1 := Lib.hid ((SB.mk0 (w := w) (cl := cl) (wk := wk) (dy := dy) (st := st) (ln := ln) (rm := rm) 95).next ((Below.refl _ (w.alloc (.cells #[.string (arr cl), .int .i64 wk, .int .i64 dy, .int .i64 st, .int .i64 ln, .string (arr rm)] 95))).alloc (Nat.le_refl _) (.cells #[.string (arr cl'), .int .i64 wk', .int .i64 dy', .int .i64 st', .int .i64 ln', .string (arr rm')] 95)))
  have HS2 := Lib.hid (SB.mk0 (w := w.alloc (.cells #[.string (arr cl), .int .i64 wk, .int .i64 dy, .int .i64 st, .int .i64 ln, .string (arr rm)] 95)) (cl := cl') (wk := wk') (dy := dy') (st := st') (ln := ln') (rm := rm') 95)
  have ea := arr_toList cl
  have eb := arr_toList cl'
  have HV := Lib.hid hv
  have HV' := Lib.hid hv'
  clear hv hv'
  cases hl : Op.bytesLess cl cl'
  rotate_left
  · have HF : Hid (befB cl wk cl' wk' = true) := Lib.hid (by simp [befB, hl])
    have q2 : Op.bytesLess (arr cl).toList (arr cl').toList = true := by rw [ea, eb]; exact hl
    clear ea eb hl
    go_enter Tryz.func107, Tryz.ntmps107
    go_wp2
    go_quiet (fail)
    go_wp2
    go_ret
    exact ⟨ret_bool (by rw [HF.out]), HS1.out.bl.trans ((below_drewN _ _).mono HS1.out.bl.size)⟩
  · by_cases he : cl = cl'
    rotate_left
    · have HF : Hid (befB cl wk cl' wk' = false) := Lib.hid (by simp [befB, hl, he])
      have q2 : Op.bytesLess (arr cl).toList (arr cl').toList = false := by rw [ea, eb]; exact hl
      have q3 : ((arr cl).toList == (arr cl').toList) = false := by rw [ea, eb]; simpa using he
      clear ea eb hl he
      go_enter Tryz.func107, Tryz.ntmps107
      go_wp2
      go_quiet (fail)
      go_wp2
      go_ret
      exact ⟨ret_bool (by rw [HF.out]), HS1.out.bl.trans ((below_drewN _ _).mono HS1.out.bl.size)⟩
    · have HF : Hid (befB cl wk cl' wk' = decide (lowW wk < lowW wk')) := Lib.hid (by unfold befB; rw [hl, decide_eq_true he]; simp)
      have q2 : Op.bytesLess (arr cl).toList (arr cl').toList = false := by rw [ea, eb]; exact hl
      have q3 : ((arr cl).toList == (arr cl').toList) = true := by rw [ea, eb]; simpa using he
      clear ea eb hl he
      go_enter Tryz.func107, Tryz.ntmps107
      go_upto_region 1 with fail
      have BX := Lib.hid HS1.out.bl
      generalize hW : ((w.alloc (.cells #[.string (arr cl), .int .i64 wk, .int .i64 dy, .int .i64 st, .int .i64 ln, .string (arr rm)] 95)).alloc (.cells #[.string (arr cl'), .int .i64 wk', .int .i64 dy', .int .i64 st', .int .i64 ln', .string (arr rm')] 95)) = W at *
      have hsz : (w.alloc (.cells #[.string (arr cl), .int .i64 wk, .int .i64 dy, .int .i64 st, .int .i64 ln, .string (arr rm)] 95)).heap.size = w.heap.size + 1 := by simp
      rw [hsz] at HS2
      clear hW hsz
      have BE := Lib.hid (bel_drew0 W)
      obtain ⟨u0, u1, _, _, _, _, ul, _⟩ := HS1.out
      obtain ⟨v0, v1, _, _, _, _, vl, _⟩ := HS2.out
      generalize hB1 : w.heap.size = B1 at *
      have HB1 := Lib.hid hB1
      clear hB1
      go_region_held3 (fun w' => w'.cell? ⟨B1, 0, none⟩ = some (.string (arr cl)) ∧ w'.cell? ⟨B1, 1, none⟩ = some (.int .i64 wk) ∧ w'.cell? ⟨B1 + 1, 0, none⟩ = some (.string (arr cl')) ∧ w'.cell? ⟨B1 + 1, 1, none⟩ = some (.int .i64 wk')) (first | (with_reducible exact ⟨k0, k1, j0, j1⟩) | (with_reducible exact ⟨u0, u1, v0, v1⟩) | go_keep) ((go_at_call 139; refine (low_any _ (by first | with_reducible exact HV.out | with_reducible exact HV'.out) _).mono ?_; rintro e w9 ⟨rfl, hb9⟩; have BQ : Below W.heap.size W w9 := (by first | with_reducible exact hb9 | with_reducible exact below3 BE.out hb9 | with_reducible exact below3 BQ hb9 | with_reducible exact below3 (below3 BQ (bel_drew0 _)) hb9); obtain ⟨k0, k1, _, _, _, _, kl, _⟩ := HS1.out.next BQ; obtain ⟨j0, j1, _, _, _, _, jl, _⟩ := HS2.out.next BQ))
      all_goals (
        go_wp2
        go_ret
        exact ⟨ret_bool (by rw [HF.out]), by have h := BX.out.trans (BQ.mono (Nat.le_of_lt ul)); rw [← HB1.out] at h; exact h⟩)
end Go.Proofs.YtihbpggbpapcfaaGreatDoor

namespace Go.Proofs.YtihbpggbpapcfaaGreatDoor
open Go.RowKit

def sesD : Ses := ([], 0, 0, 0, 0, [])
def chkS (s : Ses) (n : Int) : Int := chkE s.1 s.2.1 s.2.2.1 s.2.2.2.1 s.2.2.2.2.1 s.2.2.2.2.2 n
def chkL (n : Int) : List Ses → Int
  | [] => 0
  | s :: r => if chkS s n = 0 then chkL n r else chkS s n
def befS (s t : Ses) : Bool := befB s.1 s.2.1 t.1 t.2.1
def ordL : List Ses → Bool
  | a :: b :: r => befS a b && ordL (b :: r)
  | _ => true
def dupS (s t : Ses) : Bool := decide (s.1 = t.1) && ((bits .and .i64 s.2.1 t.2.1 != 0) || alkB s.1 s.2.2.1 s.2.2.2.1 s.2.2.2.2.1 s.2.2.2.2.2 t.1 t.2.2.1 t.2.2.2.1 t.2.2.2.2.1 t.2.2.2.2.2)
def dupL (xs : List Ses) : Bool := (List.range xs.length).any fun i => (List.range i).any fun k => dupS (xs.getD i sesD) (xs.getD k sesD)
def vldS (xs : List Ses) (n : Int) : Int :=
  if n < 1 ∨ 20 < n then 3 else if 96 < xs.length then 2 else if chkL n xs ≠ 0 then chkL n xs else if ordL xs = false then 63 else if dupL xs = true then 11 else 0
theorem chk_week {s : Ses} {n : Int} (h : chkS s n = 0) : codeOk s.1 = true ∧ sndB s.2.1 s.2.2.1 s.2.2.2.1 s.2.2.2.2.1 = true ∧ wsB s.2.1 n = true ∧ wsB s.2.1 20 = true := by
  unfold chkS chkE at h
  split at h
  · cases h
  · next h1 =>
    split at h
    · cases h
    · next h2 =>
      have h3 : (sndB s.2.1 s.2.2.1 s.2.2.2.1 s.2.2.2.2.1 && wsB s.2.1 n) = true := by simpa using h2
      rw [Bool.and_eq_true] at h3
      have h4 := h3.1
      unfold sndB at h4
      rw [Bool.and_eq_true] at h4
      exact ⟨by simpa using h1, h3.1, h3.2, h4.1⟩
theorem chkL_drop {n : Int} {xs : List Ses} {j : Nat} {s : Ses} (h : xs[j]? = some s) : chkL n (xs.drop j) = if chkS s n = 0 then chkL n (xs.drop (j + 1)) else chkS s n := by
  obtain ⟨hj, he⟩ := List.getElem?_eq_some_iff.1 h
  rw [List.drop_eq_getElem_cons hj, chkL, he]
theorem ordL_drop {xs : List Ses} {j : Nat} {s t : Ses} (h : xs[j]? = some s) (h' : xs[j + 1]? = some t) : ordL (xs.drop j) = (befS s t && ordL (xs.drop (j + 1))) := by
  obtain ⟨hj, he⟩ := List.getElem?_eq_some_iff.1 h
  obtain ⟨hj', he'⟩ := List.getElem?_eq_some_iff.1 h'
  rw [List.drop_eq_getElem_cons hj, List.drop_eq_getElem_cons hj', ordL, he, he']
theorem ordL_end {xs : List Ses} {j : Nat} (h : xs.length ≤ j + 1) : ordL (xs.drop j) = true := by
  have hl : (xs.drop j).length ≤ 1 := by rw [List.length_drop]; omega
  match hd : xs.drop j, hl with
  | [], _ => rfl
  | [a], _ => rfl
  | a :: b :: r, hl => simp at hl
theorem dupL_yes {xs : List Ses} {i k : Nat} {s t : Ses} (hi : xs[i]? = some s) (hk : xs[k]? = some t) (hki : k < i) (hd : dupS s t = true) : dupL xs = true := by
  obtain ⟨h1, _⟩ := List.getElem?_eq_some_iff.1 hi
  unfold dupL
  rw [List.any_eq_true]
  refine ⟨i, List.mem_range.2 h1, ?_⟩
  rw [List.any_eq_true]
  refine ⟨k, List.mem_range.2 hki, ?_⟩
  rw [List.getD_eq_getElem?_getD, List.getD_eq_getElem?_getD, hi, hk]
  exact hd
theorem dupL_no {xs : List Ses} (h : ∀ (i k : Nat) (s t : Ses), xs[i]? = some s → xs[k]? = some t → k < i → dupS s t = false) : dupL xs = false := by
  cases hd : dupL xs
  · rfl
  · unfold dupL at hd
    rw [List.any_eq_true] at hd
    obtain ⟨i, hi, hd⟩ := hd
    rw [List.any_eq_true] at hd
    obtain ⟨k, hk, hd⟩ := hd
    have hi' := List.mem_range.1 hi
    have hk' := List.mem_range.1 hk
    have e1 : xs[i]? = some xs[i] := List.getElem?_eq_getElem hi'
    have e2 : xs[k]? = some xs[k] := List.getElem?_eq_getElem (by omega)
    rw [List.getD_eq_getElem?_getD, List.getD_eq_getElem?_getD, e1, e2] at hd
    have := h i k _ _ e1 e2 hk'
    simp only [Option.getD_some] at hd
    rw [this] at hd; cases hd
end Go.Proofs.YtihbpggbpapcfaaGreatDoor

namespace Go.Proofs.YtihbpggbpapcfaaGreatDoor
open Go.RowKit

theorem below_cell9 {w w1 : World} (hb : Below w.heap.size w w1) {a : Addr} {v : Value} (h : w.cell? a = some v) : w1.cell? a = some v := by rw [hb.cell (p := a) (lt_of_cell h)]; exact h
def StrOk (xs : List Ses) : Prop := ∀ s ∈ xs, s.1.length ≤ 9223372036854775807 ∧ s.2.2.2.2.2.length ≤ 9223372036854775807

set_option maxRecDepth 100000 in
set_option maxHeartbeats 4000000 in
theorem rvalidS_any (a : Option Addr) (n c : Nat) (xs : List Ses) (m : Int) (w : World) (hx : SAt w a n xs) (hs : StrOk xs) :
    Calls Tryz.prog 74 #[.slice a n c, .int .i64 m] w (RetB (.int .i64 (vldS xs m)) w) := by
  have n1 := hx.2.1
  have hl := hx.1
  have HX := Lib.hid hx
  have HS := Lib.hid hs
  clear hx hs
  by_cases hm : m < 1 ∨ 20 < m
  · have HF : Hid (vldS xs m = 3) := Lib.hid (by unfold vldS; rw [if_pos hm])
    rcases (show m < 1 ∨ (1 ≤ m ∧ 20 < m) by omega) with h | ⟨h, h'⟩
    all_goals
      clear hm
      go_enter Tryz.func74, Tryz.ntmps74
      go_wp2
      go_ret
      exact ⟨ret_int (by rw [HF.out]), Below.refl _ _⟩
  have m1 : 1 ≤ m := by omega
  have m2 : m ≤ 20 := by omega
  by_cases hn : 96 < n
  · have HF : Hid (vldS xs m = 2) := Lib.hid (by unfold vldS; rw [if_neg hm, if_pos (by omega)])
    clear hm
    go_enter Tryz.func74, Tryz.ntmps74
    go_wp2
    go_ret
    exact ⟨ret_int (by rw [HF.out]), Below.refl _ _⟩
  have HV : Hid (vldS xs m = if chkL m xs ≠ 0 then chkL m xs else if ordL xs = false then 63 else if dupL xs = true then 11 else 0) := Lib.hid (by unfold vldS; rw [if_neg hm, if_neg (by omega)])
  have hn96 : n ≤ 96 := by omega
  clear hm hn
  go_enter Tryz.func74, Tryz.ntmps74
  go_wp2_with fail
  go_loopw [5] (fun i wr => ∃ j : Nat, j ≤ n ∧ i = .int .i64 j ∧ Hid (chkL m (xs.drop j) = chkL m xs) ∧ Hid (∀ (i : Nat) (s : Ses), i < j → xs[i]? = some s → chkS s m = 0) ∧ Hid (Below w.heap.size w wr)) (fun i _ => n - (intOf i).toNat)
  case atStart => exact ⟨0, by omega, rfl, Lib.hid rfl, Lib.hid (fun i s h => by omega), Lib.hid (Below.refl _ _)⟩
  case round =>
    obtain ⟨j, hj, rfl, HC, HA, HB⟩ := hrel
    by_cases hlt : j < n
    · obtain ⟨b1, o1, s1, rfl, g1, z1, x0, x1, x2, x3, x4, x5⟩ := SAt.cells (HX.out.below HB.out) hlt
      have HG := Lib.hid g1
      have HSS := Lib.hid (HS.out s1 (List.mem_of_getElem? g1))
      have HD := Lib.hid (chkL_drop (n := m) g1)
      have k1 : (j : Int) < n := by omega
      have k2 : (0 : Int) ≤ j := by omega
      clear g1
      have HK : Hid (chkS s1 m = chkE s1.1 s1.2.1 s1.2.2.1 s1.2.2.2.1 s1.2.2.2.2.1 s1.2.2.2.2.2 m) := Lib.hid rfl
      have SN := Lib.hid (fun W => single_any s1.1 s1.2.1 s1.2.2.1 s1.2.2.2.1 s1.2.2.2.2.1 s1.2.2.2.2.2 m HSS.out.1 HSS.out.2 W)
      rw [← HK.out] at SN
      go_wp2_with fail
      refine (SN.out _).mono ?_
      rintro en w2 ⟨rfl, hb2⟩
      have HB2 := Lib.hid (below3 HB.out hb2)
      clear hb2
      by_cases hz : chkS s1 m = 0
      · have HC2 : Hid (chkL m (xs.drop (j + 1)) = chkL m xs) := Lib.hid (by rw [← HC.out, HD.out, if_pos hz])
        have HA2 : Hid (∀ (i : Nat) (s : Ses), i < j + 1 → xs[i]? = some s → chkS s m = 0) := Lib.hid (fun i s h h2 => by
          rcases Nat.lt_or_ge i j with h3 | h3
          · exact HA.out i s h3 h2
          · have : i = j := by omega
            subst this
            rw [HG.out] at h2; cases h2; exact hz)
        have hd : (chkS s1 m != 0) = false := by simpa using hz
        clear hz
        generalize chkS s1 m = e1 at *
        go_wp2_with fail
        go_roundw
        case rel => exact ⟨j + 1, by omega, by go_num, HC2, HA2, HB2⟩
        case measure => simp [intOf]; omega
      · have HF : Hid (vldS xs m = chkS s1 m) := Lib.hid (by
          have : chkL m xs = chkS s1 m := by rw [← HC.out, HD.out, if_neg hz]
          rw [HV.out, this, if_pos hz])
        have hd : (chkS s1 m != 0) = true := by simpa using hz
        clear hz
        generalize chkS s1 m = e1 at *
        go_wp2_with fail
        go_ret
        exact ⟨ret_int (by rw [HF.out]), HB2.out⟩
    · obtain rfl : n = j := by omega
      have HOK : Hid (∀ (i : Nat) (s : Ses), xs[i]? = some s → chkS s m = 0) := Lib.hid (fun i s h => HA.out i s (by have := (List.getElem?_eq_some_iff.1 h).1; omega) h)
      have HV2 : Hid (vldS xs m = if ordL xs = false then 63 else if dupL xs = true then 11 else 0) := Lib.hid (by
        have h0 : chkL m xs = 0 := by rw [← HC.out, List.drop_eq_nil_of_le (by omega), chkL]
        rw [HV.out, h0]; simp)
      clear HV HC HA
      go_wp2_with fail
      obtain ⟨wo, rfl⟩ : ∃ wo : World, wo = wr := ⟨_, rfl⟩
      go_loopw [7] (fun i wr => ∃ j : Nat, j ≤ n ∧ i = .int .i64 ((j : Int) + 1) ∧ Hid (ordL (xs.drop j) = ordL xs) ∧ Hid (Below w.heap.size w wr)) (fun i _ => n + 1 - (intOf i).toNat)
      case atStart => exact ⟨0, by omega, rfl, Lib.hid rfl, HB⟩
      case round =>
        clear HB
        obtain ⟨j, hj, rfl, HO, HB⟩ := hrel
        by_cases hlt : j + 1 < n
        · obtain ⟨b1, o1, s1, rfl, g1, z1, x0, x1, x2, x3, x4, x5⟩ := SAt.cells (HX.out.below HB.out) (show j < n by omega)
          obtain ⟨b2, o2, s2, he2, g2, z2, y0, y1, y2, y3, y4, y5⟩ := SAt.cells (HX.out.below HB.out) hlt
          cases he2
          have HD := Lib.hid (ordL_drop g1 g2)
          have hw1 := (chk_week (HOK.out _ _ g1)).2.2.2
          have hw2 := (chk_week (HOK.out _ _ g2)).2.2.2
          have SN := Lib.hid (fun W => before_any s1.1 s1.2.1 s1.2.2.1 s1.2.2.2.1 s1.2.2.2.2.1 s1.2.2.2.2.2 s2.1 s2.2.1 s2.2.2.1 s2.2.2.2.1 s2.2.2.2.2.1 s2.2.2.2.2.2 hw1 hw2 W)
          have HBF : Hid (befS s1 s2 = befB s1.1 s1.2.1 s2.1 s2.2.1) := Lib.hid rfl
          rw [← HBF.out] at SN
          clear hw1 hw2 g1 g2
          have q1 : (j : Int) + 1 - 1 = (j : Int) := by omega
          have q2 : IntKind.i64.wrap ((j : Int) + 1 - 1) = (j : Int) := by rw [q1]; exact IntWalk.i64_in _ (by omega)
          have q3 : ((j : Int) + 1).toNat = j + 1 := by omega
          have q8 : IntKind.i64.wrap (j : Int) = (j : Int) := IntWalk.i64_in _ (by omega)
          have q9 : (j : Int).toNat = j := by omega
          have q4 : (j : Int) + 1 < n := by omega
          have q5 : (0 : Int) ≤ (j : Int) + 1 := by omega
          have q6 : (j : Int) < n := by omega
          have q7 : (0 : Int) ≤ (j : Int) := by omega
          have BE := Lib.hid (below_drewN wr 1)
          go_upto_region 14 with fail
          go_cut [50] (fun s50 wx => s50 = .bool (!befS s1 s2) ∧ Below wr.heap.size wr wx)
          case first =>
            go_region_held3 (fun w' => w'.cell? ⟨b1, o1 + j * 6, none⟩ = some (.string (arr s1.1)) ∧ w'.cell? ⟨b1, o1 + j * 6 + 1, none⟩ = some (.int .i64 s1.2.1) ∧ w'.cell? ⟨b1, o1 + j * 6 + 2, none⟩ = some (.int .i64 s1.2.2.1) ∧ w'.cell? ⟨b1, o1 + j * 6 + 3, none⟩ = some (.int .i64 s1.2.2.2.1) ∧ w'.cell? ⟨b1, o1 + j * 6 + 4, none⟩ = some (.int .i64 s1.2.2.2.2.1) ∧ w'.cell? ⟨b1, o1 + j * 6 + 5, none⟩ = some (.string (arr s1.2.2.2.2.2)) ∧ w'.cell? ⟨b1, o1 + (j + 1) * 6, none⟩ = some (.string (arr s2.1)) ∧ w'.cell? ⟨b1, o1 + (j + 1) * 6 + 1, none⟩ = some (.int .i64 s2.2.1) ∧ w'.cell? ⟨b1, o1 + (j + 1) * 6 + 2, none⟩ = some (.int .i64 s2.2.2.1) ∧ w'.cell? ⟨b1, o1 + (j + 1) * 6 + 3, none⟩ = some (.int .i64 s2.2.2.2.1) ∧ w'.cell? ⟨b1, o1 + (j + 1) * 6 + 4, none⟩ = some (.int .i64 s2.2.2.2.2.1) ∧ w'.cell? ⟨b1, o1 + (j + 1) * 6 + 5, none⟩ = some (.string (arr s2.2.2.2.2.2))) (first | (with_reducible exact ⟨x0, x1, x2, x3, x4, x5, y0, y1, y2, y3, y4, y5⟩) | go_keep) ((go_at_call 107; refine (SN.out _).mono ?_; rintro e9 w9 ⟨rfl, hb9⟩; have BQ : Below wr.heap.size wr w9 := (by first | with_reducible exact hb9 | exact below3 (bel_drew0 _) hb9); have x0 := below_cell9 BQ x0; have x1 := below_cell9 BQ x1; have x2 := below_cell9 BQ x2; have x3 := below_cell9 BQ x3; have x4 := below_cell9 BQ x4; have x5 := below_cell9 BQ x5; have y0 := below_cell9 BQ y0; have y1 := below_cell9 BQ y1; have y2 := below_cell9 BQ y2; have y3 := below_cell9 BQ y3; have y4 := below_cell9 BQ y4; have y5 := below_cell9 BQ y5))
            all_goals (
              go_wp2_with fail
              go_meet
              exact ⟨rfl, by assumption⟩)
          case rest =>
            obtain ⟨rfl, hbz⟩ := hcut
            have HB3 := Lib.hid (below3 HB.out hbz)
            clear hbz q1 q2 q3 q4 q5 q6 q7 q8 q9
            cases hbf : befS s1 s2
            · have HF : Hid (vldS xs m = 63) := Lib.hid (by
                have : ordL xs = false := by rw [← HO.out, HD.out, hbf]; rfl
                rw [HV2.out, if_pos this])
              go_wp2_with fail
              go_ret
              exact ⟨ret_int (by rw [HF.out]), HB3.out⟩
            · have HO2 : Hid (ordL (xs.drop (j + 1)) = ordL xs) := Lib.hid (by rw [← HO.out, HD.out, hbf]; rfl)
              go_wp2_with fail
              go_roundw
              case rel => exact ⟨j + 1, by omega, by go_num, HO2, HB3⟩
              case measure => simp [intOf]; omega
        · have HV3 : Hid (vldS xs m = if dupL xs = true then 11 else 0) := Lib.hid (by
            have : ordL xs = true := by rw [← HO.out]; exact ordL_end (by omega)
            rw [HV2.out, this]; simp)
          clear HV2 HO
          go_wp2_with fail
          obtain ⟨wp, rfl⟩ : ∃ wp : World, wp = wr := ⟨_, rfl⟩
          go_loopw [8] (fun i wr => ∃ i2 : Nat, i2 ≤ n ∧ i = .int .i64 i2 ∧ Hid (∀ (i k : Nat) (s t : Ses), xs[i]? = some s → xs[k]? = some t → k < i → i < i2 → dupS s t = false) ∧ Hid (Below w.heap.size w wr)) (fun i _ => n - (intOf i).toNat)
          case atStart => exact ⟨0, by omega, rfl, Lib.hid (fun i k s t _ _ _ h => by omega), HB⟩
          case round =>
            clear HB
            obtain ⟨i2, hi2, rfl, HN, HB⟩ := hrel
            by_cases hl3 : i2 < n
            · obtain ⟨wq, rfl⟩ : ∃ wq : World, wq = wr := ⟨_, rfl⟩
              go_wp2_with fail
              go_loopw [9] (fun i wr => ∃ k2 : Nat, k2 ≤ i2 ∧ i = .int .i64 k2 ∧ Hid (∀ (k : Nat) (s t : Ses), xs[i2]? = some s → xs[k]? = some t → k < k2 → dupS s t = false) ∧ Hid (Below w.heap.size w wr)) (fun i _ => i2 - (intOf i).toNat)
              case atStart => exact ⟨0, by omega, rfl, Lib.hid (fun k s t _ _ h => by omega), HB⟩
              case round =>
                clear HB
                obtain ⟨k2, hk2, rfl, HM, HB⟩ := hrel
                by_cases hl4 : k2 < i2
                · obtain ⟨b1, o1, s1, rfl, g1, z1, x0, x1, x2, x3, x4, x5⟩ := SAt.cells (HX.out.below HB.out) hl3
                  obtain ⟨b2, o2, s2, he2, g2, z2, y0, y1, y2, y3, y4, y5⟩ := SAt.cells (HX.out.below HB.out) (show k2 < n by omega)
                  cases he2
                  have q1 : (i2 : Int) < n := by omega
                  have q2 : (0 : Int) ≤ (i2 : Int) := by omega
                  have q3 : (k2 : Int) < n := by omega
                  have q4 : (0 : Int) ≤ (k2 : Int) := by omega
                  have G1 := Lib.hid g1
                  have G2 := Lib.hid g2
                  have HM2 : Hid (dupS s1 s2 = false → ∀ (k : Nat) (s t : Ses), xs[i2]? = some s → xs[k]? = some t → k < k2 + 1 → dupS s t = false) := Lib.hid (fun hd k s t h1 h2 h3 => by
                    rcases Nat.lt_or_ge k k2 with h | h
                    · exact HM.out k s t h1 h2 h
                    · have : k = k2 := by omega
                      subst this
                      rw [G1.out] at h1; rw [G2.out] at h2; cases h1; cases h2; exact hd)
                  have HY : Hid (dupS s1 s2 = true → vldS xs m = 11) := Lib.hid (fun hd => by rw [HV3.out, if_pos (dupL_yes G1.out G2.out hl4 hd)])
                  have HDS : Hid (dupS s1 s2 = (decide (s1.1 = s2.1) && ((bits .and .i64 s1.2.1 s2.2.1 != 0) || alkB s1.1 s1.2.2.1 s1.2.2.2.1 s1.2.2.2.2.1 s1.2.2.2.2.2 s2.1 s2.2.2.1 s2.2.2.2.1 s2.2.2.2.2.1 s2.2.2.2.2.2))) := Lib.hid rfl
                  clear g1 g2
                  go_upto_region 22 with fail
                  go_cut [99] (fun s99 wx => s99 = .bool (dupS s1 s2) ∧ Below wr.heap.size wr wx)
                  case first =>
                    by_cases hc : s1.1 = s2.1
                    · have p1 : ((arr s1.1).toList == (arr s2.1).toList) = true := by rw [hc]; simp
                      have AL := Lib.hid (fun W => ralike_any s1.1 s1.2.1 s1.2.2.1 s1.2.2.2.1 s1.2.2.2.2.1 s1.2.2.2.2.2 s2.1 s2.2.1 s2.2.2.1 s2.2.2.2.1 s2.2.2.2.2.1 s2.2.2.2.2.2 W)
                      cases hb : (bits .and .i64 s1.2.1 s2.2.1 != 0)
                      · have HE : Hid (dupS s1 s2 = alkB s1.1 s1.2.2.1 s1.2.2.2.1 s1.2.2.2.2.1 s1.2.2.2.2.2 s2.1 s2.2.2.1 s2.2.2.2.1 s2.2.2.2.2.1 s2.2.2.2.2.2) := Lib.hid (by rw [HDS.out, decide_eq_true hc, hb]; simp)
                        rw [← HE.out] at AL
                        clear hc
                        go_region_held3 (fun w' => w'.cell? ⟨b1, o1 + i2 * 6, none⟩ = some (.string (arr s1.1)) ∧ w'.cell? ⟨b1, o1 + i2 * 6 + 1, none⟩ = some (.int .i64 s1.2.1) ∧ w'.cell? ⟨b1, o1 + i2 * 6 + 2, none⟩ = some (.int .i64 s1.2.2.1) ∧ w'.cell? ⟨b1, o1 + i2 * 6 + 3, none⟩ = some (.int .i64 s1.2.2.2.1) ∧ w'.cell? ⟨b1, o1 + i2 * 6 + 4, none⟩ = some (.int .i64 s1.2.2.2.2.1) ∧ w'.cell? ⟨b1, o1 + i2 * 6 + 5, none⟩ = some (.string (arr s1.2.2.2.2.2)) ∧ w'.cell? ⟨b1, o1 + k2 * 6, none⟩ = some (.string (arr s2.1)) ∧ w'.cell? ⟨b1, o1 + k2 * 6 + 1, none⟩ = some (.int .i64 s2.2.1) ∧ w'.cell? ⟨b1, o1 + k2 * 6 + 2, none⟩ = some (.int .i64 s2.2.2.1) ∧ w'.cell? ⟨b1, o1 + k2 * 6 + 3, none⟩ = some (.int .i64 s2.2.2.2.1) ∧ w'.cell? ⟨b1, o1 + k2 * 6 + 4, none⟩ = some (.int .i64 s2.2.2.2.2.1) ∧ w'.cell? ⟨b1, o1 + k2 * 6 + 5, none⟩ = some (.string (arr s2.2.2.2.2.2))) (first | (with_reducible exact ⟨x0, x1, x2, x3, x4, x5, y0, y1, y2, y3, y4, y5⟩) | go_keep) ((go_at_call 108; refine (AL.out _).mono ?_; rintro e9 w9 ⟨rfl, hb9⟩; have BQ : Below wr.heap.size wr w9 := (by first | with_reducible exact hb9 | exact below3 (bel_drew0 _) hb9); have x0 := below_cell9 BQ x0; have x1 := below_cell9 BQ x1; have x2 := below_cell9 BQ x2; have x3 := below_cell9 BQ x3; have x4 := below_cell9 BQ x4; have x5 := below_cell9 BQ x5; have y0 := below_cell9 BQ y0; have y1 := below_cell9 BQ y1; have y2 := below_cell9 BQ y2; have y3 := below_cell9 BQ y3; have y4 := below_cell9 BQ y4; have y5 := below_cell9 BQ y5))
                        all_goals (
                          go_wp2_with fail
                          go_meet
                          exact ⟨rfl, by assumption⟩)
                      · have HE : Hid (dupS s1 s2 = true) := Lib.hid (by rw [HDS.out, decide_eq_true hc, hb]; simp)
                        clear hc AL
                        go_quiet (fail)
                        go_wp2_with fail
                        go_meet
                        exact ⟨by rw [HE.out], below_drewN _ _⟩
                    · have p1 : ((arr s1.1).toList == (arr s2.1).toList) = false := by rw [arr_toList, arr_toList]; simpa using hc
                      have HE : Hid (dupS s1 s2 = false) := Lib.hid (by rw [HDS.out, decide_eq_false hc]; simp)
                      clear hc
                      go_quiet (fail)
                      go_wp2_with fail
                      go_meet
                      exact ⟨by rw [HE.out], below_drewN _ _⟩
                  case rest =>
                    obtain ⟨rfl, hbz⟩ := hcut
                    have HB3 := Lib.hid (below3 HB.out hbz)
                    clear hbz q1 q2 q3 q4
                    cases hdd : dupS s1 s2
                    · have HM3 := Lib.hid (HM2.out hdd)
                      clear HM2 HY HDS
                      go_wp2_with fail
                      go_roundw
                      case rel => exact ⟨k2 + 1, by omega, by go_num, HM3, HB3⟩
                      case measure => simp [intOf]; omega
                    · have HF := Lib.hid (HY.out hdd)
                      clear HM2 HY HDS
                      go_wp2_with fail
                      go_ret
                      exact ⟨ret_int (by rw [HF.out]), HB3.out⟩
                · obtain rfl : i2 = k2 := by omega
                  have HN2 : Hid (∀ (i k : Nat) (s t : Ses), xs[i]? = some s → xs[k]? = some t → k < i → i < i2 + 1 → dupS s t = false) := Lib.hid (fun i k s t h1 h2 h3 h4 => by
                    rcases Nat.lt_or_ge i i2 with h | h
                    · exact HN.out i k s t h1 h2 h3 h
                    · have : i = i2 := by omega
                      subst this
                      exact HM.out k s t h1 h2 h3)
                  go_wp2_with fail
                  go_roundw
                  case rel => exact ⟨i2 + 1, by omega, by go_num, HN2, HB⟩
                  case measure => simp [intOf]; omega
            · obtain rfl : n = i2 := by omega
              have HF : Hid (vldS xs m = 0) := Lib.hid (by
                have : dupL xs = false := dupL_no (fun i k s t h1 h2 h3 => HN.out i k s t h1 h2 h3 (by have := (List.getElem?_eq_some_iff.1 h1).1; omega))
                rw [HV3.out, this]; simp)
              go_wp2_with fail
              go_ret
              exact ⟨ret_int (by rw [HF.out]), HB.out⟩
end Go.Proofs.YtihbpggbpapcfaaGreatDoor
