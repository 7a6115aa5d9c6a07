/- Texts V31, V32, V33, V34, V36, joined: walks and laws for the versions. -/
import Derived.Test.YtihbpggbpapcfaaGreatDoorM17
namespace Go.Proofs.YtihbpggbpapcfaaGreatDoor
open Go.RowKit

def RetQ (v : Value) (w : World) (e : Ending) (w' : World) : Prop := e = .returned v ∧ ∃ q, w' = w.drewN q
theorem drew_bel {w w' : World} (h : ∃ q, w' = w.drewN q) : Below w.heap.size w w' := by
  obtain ⟨q, rfl⟩ := h; exact below_drewN _ _
theorem drew_more {w w' : World} (h : ∃ q, w' = w.drewN q) (n : Nat) : ∃ q, w'.drewN n = w.drewN q := by
  obtain ⟨q, rfl⟩ := h; exact ⟨q + n, World.drewN_drewN _ _ _⟩

set_option maxRecDepth 100000 in
set_option maxHeartbeats 2000000 in
theorem rsameq_any (a : Option Addr) (n c : Nat) (b : Option Addr) (m q : Nat) (xs ys : List Ses) (w : World) (hx : SAt w a n xs) (hy : SAt w b m ys) :
    Calls Tryz.prog 40 #[.slice a n c, .slice b m q] w (RetQ (.bool (decide (xs = ys))) w) := by
  have n1 := hx.2.1
  have n2 := hy.2.1
  by_cases hnm : n = m
  rotate_left
  · have HF : Hid (decide (xs = ys) = false) := Lib.hid (decide_eq_false (by rintro rfl; exact hnm (hx.1.symm.trans hy.1)))
    have hd : ((n : Int) != (m : Int)) = true := by simpa using fun h => hnm (by omega)
    clear hx hy hnm
    go_enter Tryz.func40, Tryz.ntmps40
    go_wp2
    all_goals go_ret
    all_goals exact ⟨ret_bool (by rw [HF.out]), 0, rfl⟩
  subst hnm
  have HX := Lib.hid hx
  have HY := Lib.hid hy
  clear hx hy
  go_enter Tryz.func40, Tryz.ntmps40
  go_wp2
  go_loopw [5] (fun i wr => ∃ j : Nat, j ≤ n ∧ i = .int .i64 j ∧ Hid (xs.take j = ys.take j) ∧ Hid (∃ q, wr = w.drewN q)) (fun i _ => n - (intOf i).toNat)
  case atStart => exact ⟨0, by omega, rfl, Lib.hid (by simp), Lib.hid ⟨0, rfl⟩⟩
  case round =>
    obtain ⟨j, hj, rfl, HT, HB⟩ := hrel
    by_cases hlt : j < n
    · obtain ⟨b1, o1, s1, rfl, g1, z1, x0, x1, x2, x3, x4, x5⟩ := SAt.cells (HX.out.below (drew_bel HB.out)) hlt
      obtain ⟨b2, o2, s2, rfl, g2, z2, y0, y1, y2, y3, y4, y5⟩ := SAt.cells (HY.out.below (drew_bel HB.out)) hlt
      have HG1 := Lib.hid g1
      have HG2 := Lib.hid g2
      clear g1 g2
      obtain ⟨cl, wk, dy, st, ln, rm⟩ := s1
      obtain ⟨cl', wk', dy', st', ln', rm'⟩ := s2
      simp only at x0 x1 x2 x3 x4 x5 y0 y1 y2 y3 y4 y5
      have k1 : (j : Int) < n := by omega
      have k2 : (0 : Int) ≤ j := by omega
      by_cases he : (cl, wk, dy, st, ln, rm) = (cl', wk', dy', st', ln', rm')
      · have HT2 : Hid (xs.take (j + 1) = ys.take (j + 1)) := Lib.hid (take_next HT.out HG1.out (by rw [HG2.out, he]))
        simp only [Prod.mk.injEq] at he
        obtain ⟨rfl, rfl, rfl, rfl, rfl, rfl⟩ := he
        clear HT
        go_wp2
        go_quiet (fail)
        go_wp2
        go_roundw
        case rel => exact ⟨j + 1, by omega, by go_num, HT2, Lib.hid (drew_more HB.out _)⟩
        case measure => simp [intOf]; omega
      · have HF : Hid (decide (xs = ys) = false) := Lib.hid (decide_eq_false (ne_at HG1.out HG2.out he))
        have hs : ∀ l l' : L8, l ≠ l' → ((arr l).toList == (arr l').toList) = false ∧ ¬ (arr l).toList = (arr l').toList := fun l l' h => by
          rw [arr_toList, arr_toList]; exact ⟨by simpa using h, h⟩
        have hq : cl ≠ cl' ∨ (cl = cl' ∧ wk ≠ wk') ∨ (cl = cl' ∧ wk = wk' ∧ dy ≠ dy') ∨ (cl = cl' ∧ wk = wk' ∧ dy = dy' ∧ st ≠ st') ∨ (cl = cl' ∧ wk = wk' ∧ dy = dy' ∧ st = st' ∧ ln ≠ ln') ∨ (cl = cl' ∧ wk = wk' ∧ dy = dy' ∧ st = st' ∧ ln = ln' ∧ rm ≠ rm') := by
          simp only [Prod.mk.injEq] at he
          by_cases e1 : cl = cl' <;> by_cases e2 : wk = wk' <;> by_cases e3 : dy = dy' <;> by_cases e4 : st = st' <;> by_cases e5 : ln = ln' <;> simp_all
        clear he
        rcases hq with h | ⟨rfl, h⟩ | ⟨rfl, rfl, h⟩ | ⟨rfl, rfl, rfl, h⟩ | ⟨rfl, rfl, rfl, rfl, h⟩ | ⟨rfl, rfl, rfl, rfl, rfl, h⟩
        · obtain ⟨h5, h6⟩ := hs _ _ h
          clear hs h
          go_wp2
          go_quiet (fail)
          go_wp2
          go_ret
          exact ⟨ret_bool (by rw [HF.out]), drew_more HB.out _⟩
        · have h5 : (wk == wk') = false := by simpa using h
          clear hs
          go_wp2
          go_quiet (fail)
          go_wp2
          go_ret
          exact ⟨ret_bool (by rw [HF.out]), drew_more HB.out _⟩
        · have h5 : (dy == dy') = false := by simpa using h
          clear hs
          go_wp2
          go_quiet (fail)
          go_wp2
          go_ret
          exact ⟨ret_bool (by rw [HF.out]), drew_more HB.out _⟩
        · have h5 : (st == st') = false := by simpa using h
          clear hs
          go_wp2
          go_quiet (fail)
          go_wp2
          go_ret
          exact ⟨ret_bool (by rw [HF.out]), drew_more HB.out _⟩
        · have h5 : (ln == ln') = false := by simpa using h
          clear hs
          go_wp2
          go_quiet (fail)
          go_wp2
          go_ret
          exact ⟨ret_bool (by rw [HF.out]), drew_more HB.out _⟩
        · obtain ⟨h5, h6⟩ := hs _ _ h
          clear hs h
          go_wp2
          go_quiet (fail)
          go_wp2
          go_ret
          exact ⟨ret_bool (by rw [HF.out]), drew_more HB.out _⟩
    · obtain rfl : j = n := by omega
      have HF : Hid (decide (xs = ys) = true) := Lib.hid (decide_eq_true (by
        have := HT.out
        rw [List.take_of_length_le (by have := HX.out.1; omega), List.take_of_length_le (by have := HY.out.1; omega)] at this
        exact this))
      go_wp2
      go_ret
      exact ⟨ret_bool (by rw [HF.out]), HB.out⟩

set_option maxRecDepth 100000 in
set_option maxHeartbeats 2000000 in
theorem equalq_any (a : Option Addr) (n c : Nat) (b : Option Addr) (m q : Nat) (xs ys : List Ses) (w : World) (hx : SAt w a n xs) (hy : SAt w b m ys) :
    Calls Tryz.prog 71 #[.slice a n c, .slice b m q] w (RetQ (.bool (decide (xs = ys))) w) := by
  have n1 := hx.2.1
  have n2 := hy.2.1
  by_cases hnm : n = m
  rotate_left
  · have HF : Hid (decide (xs = ys) = false) := Lib.hid (decide_eq_false (by rintro rfl; exact hnm (hx.1.symm.trans hy.1)))
    have hd : ((n : Int) != (m : Int)) = true := by simpa using fun h => hnm (by omega)
    clear hx hy hnm
    go_enter Tryz.func71, Tryz.ntmps71
    go_wp2
    all_goals go_ret
    all_goals exact ⟨ret_bool (by rw [HF.out]), 0, rfl⟩
  subst hnm
  have HX := Lib.hid hx
  have HY := Lib.hid hy
  clear hx hy
  go_enter Tryz.func71, Tryz.ntmps71
  go_wp2
  go_loopw [13] (fun i wr => ∃ j : Nat, j ≤ n ∧ i = .int .i64 j ∧ Hid (xs.take j = ys.take j) ∧ Hid (∃ q, wr = w.drewN q)) (fun i _ => n - (intOf i).toNat)
  case atStart => exact ⟨0, by omega, rfl, Lib.hid (by simp), Lib.hid ⟨0, rfl⟩⟩
  case round =>
    obtain ⟨j, hj, rfl, HT, HB⟩ := hrel
    by_cases hlt : j < n
    · obtain ⟨b1, o1, s1, rfl, g1, z1, x0, x1, x2, x3, x4, x5⟩ := SAt.cells (HX.out.below (drew_bel HB.out)) hlt
      obtain ⟨b2, o2, s2, rfl, g2, z2, y0, y1, y2, y3, y4, y5⟩ := SAt.cells (HY.out.below (drew_bel HB.out)) hlt
      have HG1 := Lib.hid g1
      have HG2 := Lib.hid g2
      clear g1 g2
      obtain ⟨cl, wk, dy, st, ln, rm⟩ := s1
      obtain ⟨cl', wk', dy', st', ln', rm'⟩ := s2
      simp only at x0 x1 x2 x3 x4 x5 y0 y1 y2 y3 y4 y5
      have k1 : (j : Int) < n := by omega
      have k2 : (0 : Int) ≤ j := by omega
      by_cases he : (cl, wk, dy, st, ln, rm) = (cl', wk', dy', st', ln', rm')
      · have HT2 : Hid (xs.take (j + 1) = ys.take (j + 1)) := Lib.hid (take_next HT.out HG1.out (by rw [HG2.out, he]))
        simp only [Prod.mk.injEq] at he
        obtain ⟨rfl, rfl, rfl, rfl, rfl, rfl⟩ := he
        clear HT
        go_wp2
        go_quiet (fail)
        go_wp2
        go_roundw
        case rel => exact ⟨j + 1, by omega, by go_num, HT2, Lib.hid (drew_more HB.out _)⟩
        case measure => simp [intOf]; omega
      · have HF : Hid (decide (xs = ys) = false) := Lib.hid (decide_eq_false (ne_at HG1.out HG2.out he))
        have hs : ∀ l l' : L8, l ≠ l' → ((arr l).toList == (arr l').toList) = false ∧ ¬ (arr l).toList = (arr l').toList := fun l l' h => by
          rw [arr_toList, arr_toList]; exact ⟨by simpa using h, h⟩
        have hq : cl ≠ cl' ∨ (cl = cl' ∧ wk ≠ wk') ∨ (cl = cl' ∧ wk = wk' ∧ dy ≠ dy') ∨ (cl = cl' ∧ wk = wk' ∧ dy = dy' ∧ st ≠ st') ∨ (cl = cl' ∧ wk = wk' ∧ dy = dy' ∧ st = st' ∧ ln ≠ ln') ∨ (cl = cl' ∧ wk = wk' ∧ dy = dy' ∧ st = st' ∧ ln = ln' ∧ rm ≠ rm') := by
          simp only [Prod.mk.injEq] at he
          by_cases e1 : cl = cl' <;> by_cases e2 : wk = wk' <;> by_cases e3 : dy = dy' <;> by_cases e4 : st = st' <;> by_cases e5 : ln = ln' <;> simp_all
        clear he
        rcases hq with h | ⟨rfl, h⟩ | ⟨rfl, rfl, h⟩ | ⟨rfl, rfl, rfl, h⟩ | ⟨rfl, rfl, rfl, rfl, h⟩ | ⟨rfl, rfl, rfl, rfl, rfl, h⟩
        · obtain ⟨h5, h6⟩ := hs _ _ h
          clear hs h
          go_wp2
          go_quiet (fail)
          go_wp2
          go_ret
          exact ⟨ret_bool (by rw [HF.out]), drew_more HB.out _⟩
        · have h5 : (wk == wk') = false := by simpa using h
          clear hs
          go_wp2
          go_quiet (fail)
          go_wp2
          go_ret
          exact ⟨ret_bool (by rw [HF.out]), drew_more HB.out _⟩
        · have h5 : (dy == dy') = false := by simpa using h
          clear hs
          go_wp2
          go_quiet (fail)
          go_wp2
          go_ret
          exact ⟨ret_bool (by rw [HF.out]), drew_more HB.out _⟩
        · have h5 : (st == st') = false := by simpa using h
          clear hs
          go_wp2
          go_quiet (fail)
          go_wp2
          go_ret
          exact ⟨ret_bool (by rw [HF.out]), drew_more HB.out _⟩
        · have h5 : (ln == ln') = false := by simpa using h
          clear hs
          go_wp2
          go_quiet (fail)
          go_wp2
          go_ret
          exact ⟨ret_bool (by rw [HF.out]), drew_more HB.out _⟩
        · obtain ⟨h5, h6⟩ := hs _ _ h
          clear hs h
          go_wp2
          go_quiet (fail)
          go_wp2
          go_ret
          exact ⟨ret_bool (by rw [HF.out]), drew_more HB.out _⟩
    · obtain rfl : j = n := by omega
      have HF : Hid (decide (xs = ys) = true) := Lib.hid (decide_eq_true (by
        have := HT.out
        rw [List.take_of_length_le (by have := HX.out.1; omega), List.take_of_length_le (by have := HY.out.1; omega)] at this
        exact this))
      go_wp2
      go_ret
      exact ⟨ret_bool (by rw [HF.out]), HB.out⟩
end Go.Proofs.YtihbpggbpapcfaaGreatDoor

namespace Go.Proofs.YtihbpggbpapcfaaGreatDoor
open Go.RowKit

def prevK (cs : List Chg) : Nat → Option L8
  | 0 => none
  | p + 1 => (cs[p]?).map (·.1)
theorem ordC_drop {cs : List Chg} {j : Nat} {x : Chg} (h : cs[j]? = some x) : ordC (prevK cs j) (cs.drop j) = (aftK (prevK cs j) x.1 && !decide (x.2.1 = x.2.2) && ordC (prevK cs (j + 1)) (cs.drop (j + 1))) := by
  obtain ⟨hj, rfl⟩ := List.getElem?_eq_some_iff.1 h
  have e : prevK cs (j + 1) = some cs[j].1 := by show (cs[j]?).map (·.1) = _; rw [h]; rfl
  rw [List.drop_eq_getElem_cons hj, ordC, e]
theorem ordC_end {cs : List Chg} {j : Nat} (h : cs.length ≤ j) : ordC (prevK cs j) (cs.drop j) = true := by
  rw [List.drop_eq_nil_of_le h, ordC]

theorem tri_str (a b : L8) : (Op.bytesLess a b = false ∧ Op.bytesLess b a = true ∧ (b == a) = false) ∨ (Op.bytesLess a b = false ∧ Op.bytesLess b a = false ∧ (b == a) = true) ∨ (Op.bytesLess a b = true ∧ Op.bytesLess b a = false ∧ (b == a) = false) := by
  rw [bytesLess_lt, bytesLess_lt]
  by_cases h1 : a < b
  · have h2 : ¬ b < a := fun h => List.lt_irrefl _ (List.lt_trans h1 h)
    have h3 : b ≠ a := fun h => by subst h; exact List.lt_irrefl _ h1
    exact Or.inr (Or.inr ⟨decide_eq_true h1, decide_eq_false h2, by simpa using h3⟩)
  · by_cases h2 : b < a
    · have h3 : b ≠ a := fun h => by subst h; exact List.lt_irrefl _ h2
      exact Or.inl ⟨decide_eq_false h1, decide_eq_true h2, by simpa using h3⟩
    · have h3 : b = a := List.le_antisymm (List.not_lt.1 h1) (List.not_lt.1 h2)
      exact Or.inr (Or.inl ⟨decide_eq_false h1, decide_eq_false h2, by simpa using h3⟩)
end Go.Proofs.YtihbpggbpapcfaaGreatDoor

namespace Go.Proofs.YtihbpggbpapcfaaGreatDoor
open Go.RowKit

theorem new_drew (w : World) (o : Obj) (k : Nat) : Below w.heap.size w ((w.alloc o).drewN k) := below3 ((Below.refl _ _).alloc (Nat.le_refl _) o) (below_drewN _ _)

set_option maxRecDepth 100000 in
set_option maxHeartbeats 4000000 in
theorem ordC_any (a : Option Addr) (n c : Nat) (cs : List Chg) (w : World) (hx : HAt w a n cs) :
    Calls Tryz.prog 118 #[.slice a n c] w (RetB (.bool (ordC none cs)) w) := by
  have n1 := hx.len.2
  have hl := hx.len.1
  have HX := Lib.hid hx
  clear hx
  go_enter Tryz.func118, Tryz.ntmps118
  go_wp2_with fail
  go_loopw [7] (fun i wr => ∃ j : Nat, j ≤ n ∧ i = .int .i64 j ∧ Hid (ordC (prevK cs j) (cs.drop j) = ordC none cs) ∧ Hid (Below w.heap.size w wr)) (fun i _ => n - (intOf i).toNat)
  case atStart => exact ⟨0, by omega, rfl, Lib.hid rfl, Lib.hid (Below.refl _ _)⟩
  case round =>
    obtain ⟨j, hj, rfl, HO, HB⟩ := hrel
    by_cases hlt : j < n
    · obtain ⟨b1, o1, x, p, q, rfl, g1, z1, x0, x1, x2, sp, sq⟩ := HAt.cells (HX.out.below HB.out) hlt
      have HD := Lib.hid (ordC_drop g1)
      have SQ := Lib.hid (fun k => equalq_any p.1 p.2.1 p.2.2 q.1 q.2.1 q.2.2 x.2.1 x.2.2 ((wr.alloc (.cells #[.string (arr x.1), .slice p.1 p.2.1 p.2.2, .slice q.1 q.2.1 q.2.2] 101)).drewN k) (sp.2.below (new_drew _ _ _)) (sq.2.below (new_drew _ _ _)))
      have k1 : (j : Int) < n := by omega
      have k2 : (0 : Int) ≤ j := by omega
      clear g1 sp sq
      have z1 := z1
      generalize decide (x.2.1 = x.2.2) = de at *
      go_upto_region 4 with fail
      go_cut [31] (fun s31 wx => s31 = .bool (!(aftK (prevK cs j) x.1 && !de)) ∧ Below wr.heap.size wr wx)
      case first =>
        cases j with
        | zero =>
          have HA : Hid (aftK (prevK cs 0) x.1 = true) := Lib.hid rfl
          rw [show ((0 : Nat) : Int) = 0 from rfl]
          simp only [Nat.zero_mul, Nat.add_zero] at x0 x1 x2
          have k1 : (0 : Int) < n := by omega
          cases de
          all_goals
            go_quiet ((go_at_call 71; exact Calls.quiet_of (SQ.out _)))
            go_wp2_with fail
            go_meet
            exact ⟨by rw [HA.out]; rfl, new_drew _ _ _⟩
        | succ r =>
          obtain ⟨b2, o2, y, p2, q2, he, g2, z2, y0, _, _, _, _⟩ := HAt.cells (HX.out.below HB.out) (show r < n by omega)
          cases he
          have HA : Hid (aftK (prevK cs (r + 1)) x.1 = Op.bytesLess (arr y.1).toList (arr x.1).toList) := Lib.hid (by show aftK ((cs[r]?).map (·.1)) x.1 = _; rw [g2, arr_toList, arr_toList]; rfl)
          have ec : ((r + 1 : Nat) : Int) = (r : Int) + 1 := by omega
          rw [ec]
          clear ec g2
          have q1 : (r : Int) + 1 - 1 = (r : Int) := by omega
          have q2' : IntKind.i64.wrap ((r : Int) + 1 - 1) = (r : Int) := by rw [q1]; exact IntWalk.i64_in _ (by omega)
          have q8 : IntKind.i64.wrap (r : Int) = (r : Int) := IntWalk.i64_in _ (by omega)
          have q9 : (r : Int).toNat = r := by omega
          have q3 : ((r : Int) + 1).toNat = r + 1 := by omega
          have q4 : (r : Int) + 1 < n := by omega
          have q5 : (0 : Int) < (r : Int) + 1 := by omega
          have q51 : (0 : Int) ≤ (r : Int) + 1 := by omega
          have q6 : (r : Int) < n := by omega
          have q7 : (0 : Int) ≤ (r : Int) := by omega
          clear k1 k2
          rcases tri_str (arr y.1).toList (arr x.1).toList with ⟨hb, p1, p2⟩ | ⟨hb, p1, p2⟩ | ⟨hb, p1, p2⟩
          all_goals rw [hb] at HA
          · go_quiet (fail)
            go_wp2_with fail
            go_meet
            exact ⟨by rw [HA.out]; rfl, new_drew _ _ _⟩
          · go_quiet (fail)
            go_wp2_with fail
            go_meet
            exact ⟨by rw [HA.out]; rfl, new_drew _ _ _⟩
          · cases de
            all_goals
              go_quiet ((go_at_call 71; exact Calls.quiet_of (SQ.out _)))
              go_wp2_with fail
              go_meet
              exact ⟨by rw [HA.out]; rfl, new_drew _ _ _⟩
      case rest =>
        obtain ⟨rfl, hbz⟩ := hcut
        have HB2 := Lib.hid (below3 HB.out hbz)
        clear hbz
        cases hbb : (aftK (prevK cs j) x.1 && !de)
        · have HF : Hid (ordC none cs = false) := Lib.hid (by rw [← HO.out, HD.out, hbb]; rfl)
          go_wp2_with fail
          go_ret
          exact ⟨ret_bool (by rw [HF.out]), HB2.out⟩
        · have HO2 : Hid (ordC (prevK cs (j + 1)) (cs.drop (j + 1)) = ordC none cs) := Lib.hid (by rw [← HO.out, HD.out, hbb]; rfl)
          go_wp2_with fail
          go_roundw
          case rel => exact ⟨j + 1, by omega, by go_num, HO2, HB2⟩
          case measure => simp [intOf]; omega
    · obtain rfl : n = j := by omega
      have HF : Hid (ordC none cs = true) := Lib.hid (by rw [← HO.out]; exact ordC_end (by omega))
      go_wp2_with fail
      go_ret
      exact ⟨ret_bool (by rw [HF.out]), HB.out⟩
end Go.Proofs.YtihbpggbpapcfaaGreatDoor

namespace Go.Proofs.YtihbpggbpapcfaaGreatDoor
open Go.RowKit

def rpick (l : List Ses) (cs : List Chg) (k : L8) : List Ses := cs.foldl (fun x c => if c.1 = k then c.2.2 else x) (ofS l k)
theorem rpick_take {l : List Ses} {cs : List Chg} {k : L8} {j : Nat} {x : Chg} (h : cs[j]? = some x) : rpick l (cs.take (j + 1)) k = if x.1 = k then x.2.2 else rpick l (cs.take j) k := by
  unfold rpick; rw [List.take_add_one, h, List.foldl_append]; rfl
theorem rpick_none {init : List Ses} {k : L8} : ∀ {cs : List Chg}, (∀ c ∈ cs, c.1 ≠ k) → cs.foldl (fun x c => if c.1 = k then c.2.2 else x) init = init
  | [], _ => rfl
  | c :: cs, h => by
    rw [List.foldl_cons, if_neg (h c List.mem_cons_self)]
    exact rpick_none (fun d hd => h d (List.mem_cons_of_mem _ hd))
theorem ordC_later : ∀ {cs : List Chg} {q : L8}, ordC (some q) cs = true → ∀ c ∈ cs, q < c.1
  | [], _, _, c, hc => by simp at hc
  | x :: cs, q, h, c, hc => by
    unfold ordC at h
    rw [Bool.and_eq_true, Bool.and_eq_true] at h
    have h1 : q < x.1 := by
      have this : Op.bytesLess q x.1 = true := h.1.1
      rw [bytesLess_lt] at this
      exact of_decide_eq_true this
    rcases List.mem_cons.1 hc with rfl | hc
    · exact h1
    · exact List.lt_trans h1 (ordC_later h.2 c hc)
theorem rpick_find {l : List Ses} {k : L8} : ∀ {cs : List Chg} {p : Option L8}, ordC p cs = true → cs.foldl (fun x c => if c.1 = k then c.2.2 else x) (ofS l k) = pickS l cs k
  | [], _, _ => rfl
  | x :: cs, p, h => by
    have h2 : ordC (some x.1) cs = true := by unfold ordC at h; rw [Bool.and_eq_true] at h; exact h.2
    rw [List.foldl_cons]
    by_cases hk : x.1 = k
    · subst hk
      rw [if_pos rfl, rpick_none (fun c hc he => by have := ordC_later h2 c hc; rw [he] at this; exact List.lt_irrefl _ this)]
      unfold pickS
      rw [List.find?_cons_of_pos (by simp)]
    · rw [if_neg hk, rpick_find h2]
      unfold pickS
      rw [List.find?_cons_of_neg (by simpa using hk)]
theorem rpick_pick {l : List Ses} {cs : List Chg} (h : ordC none cs = true) (k : L8) : rpick l cs k = pickS l cs k := rpick_find h
theorem chgE_parts {l : List Ses} : ∀ {cs : List Chg}, chgE l cs = 0 → ∀ x ∈ cs, x.2.1 = ofS l x.1 ∧ ∀ s ∈ x.2.2, s.1 = x.1
  | [], _, x, hx => by simp at hx
  | y :: cs, h, x, hx => by
    unfold chgE at h
    split at h
    · cases h
    next h1 =>
    split at h
    · cases h
    next h2 =>
    rcases List.mem_cons.1 hx with rfl | hx
    · refine ⟨by simpa using h1, ?_⟩
      have h3 : (ofS x.2.2 x.1).length = x.2.2.length := by simpa using h2
      intro s hs
      have h4 : ofS x.2.2 x.1 = x.2.2 := List.Sublist.eq_of_length List.filter_sublist h3
      rw [← h4] at hs
      exact ofS_cls s hs
    · exact chgE_parts h x hx
theorem app_ref {l : List Ses} {cs : List Chg} (h1 : ordC none cs = true) (h2 : chgE l cs = 0) : (clsL (clsS l ++ clsS (cs.flatMap (·.2.2)))).flatMap (rpick l cs) = (clsL (clsC cs ++ clsS l)).flatMap (pickS l cs) := by
  rw [show rpick l cs = pickS l cs from funext (rpick_pick h1)]
  refine (flat_more ?_ ?_).symm
  · intro k hk
    rcases List.mem_append.1 hk with hk | hk
    · exact List.mem_append.2 (Or.inr hk)
    · obtain ⟨s, hs, rfl⟩ := List.mem_map.1 hk
      obtain ⟨x, hx, hsx⟩ := List.mem_flatMap.1 hs
      rw [(chgE_parts h2 x hx).2 s hsx]
      exact List.mem_append.2 (Or.inl (List.mem_map_of_mem hx))
  · intro k _ hk
    have h3 : k ∉ clsS l := fun h => hk (List.mem_append.2 (Or.inl h))
    have h4 : k ∉ clsS (cs.flatMap (·.2.2)) := fun h => hk (List.mem_append.2 (Or.inr h))
    unfold pickS
    cases hf : cs.find? (fun x => decide (x.1 = k)) with
    | none => exact ofS_none h3
    | some x =>
      simp only
      have hx := List.mem_of_find?_eq_some hf
      have hk2 := List.find?_some hf
      simp only [decide_eq_true_eq] at hk2
      cases hx2 : x.2.2 with
      | nil => rfl
      | cons s r =>
        exfalso
        apply h4
        have hs : s ∈ x.2.2 := by rw [hx2]; exact List.mem_cons_self
        rw [← hk2, ← (chgE_parts h2 x hx).2 s hs]
        exact List.mem_map_of_mem (List.mem_flatMap.2 ⟨x, hx, hs⟩)
theorem chgE_drop {l : List Ses} {cs : List Chg} {j : Nat} {x : Chg} (h : cs[j]? = some x) : chgE l (cs.drop j) = if x.2.1 ≠ ofS l x.1 then 62 else if (ofS x.2.2 x.1).length ≠ x.2.2.length then 1 else chgE l (cs.drop (j + 1)) := by
  obtain ⟨hj, rfl⟩ := List.getElem?_eq_some_iff.1 h
  rw [List.drop_eq_getElem_cons hj, chgE]
theorem rpick_le {l : List Ses} {cs : List Chg} {N : Nat} (h : l.length ≤ N) (hc : ∀ c ∈ cs, c.2.2.length ≤ N) (k : L8) : (rpick l cs k).length ≤ N := by
  have gen : ∀ (cs : List Chg) (init : List Ses), init.length ≤ N → (∀ c ∈ cs, c.2.2.length ≤ N) → (cs.foldl (fun x c => if c.1 = k then c.2.2 else x) init).length ≤ N := by
    intro cs
    induction cs with
    | nil => intro init hi _; exact hi
    | cons c cs ih =>
      intro init hi hc
      rw [List.foldl_cons]
      refine ih _ ?_ (fun d hd => hc d (List.mem_cons_of_mem _ hd))
      split
      · exact hc c List.mem_cons_self
      · exact hi
  exact gen cs _ (Nat.le_trans (ofS_len l k) h) hc
theorem flat_len_mul {α β : Type} (f : α → List β) (N : Nat) (h : ∀ x, (f x).length ≤ N) : ∀ xs : List α, (xs.flatMap f).length ≤ xs.length * N
  | [] => by simp
  | x :: xs => by
    have := flat_len_mul f N h xs
    have := h x
    rw [List.flatMap_cons, List.length_append, List.length_cons, Nat.add_mul]; omega
theorem flat_mem_le {cs : List Chg} : ∀ c ∈ cs, c.2.2.length ≤ (cs.flatMap (·.2.2)).length := by
  induction cs with
  | nil => intro c hc; simp at hc
  | cons d cs ih =>
    intro c hc
    rw [List.flatMap_cons, List.length_append]
    rcases List.mem_cons.1 hc with rfl | hc
    · omega
    · have := ih c hc; omega
theorem flat_take_le {cs : List Chg} (j : Nat) : ((cs.take j).flatMap (·.2.2)).length ≤ (cs.flatMap (·.2.2)).length := by
  conv => rhs; rw [← List.take_append_drop j cs, List.flatMap_append, List.length_append]
  omega
def COk (cs : List Chg) : Prop := ∀ c ∈ cs, StrOk c.2.1 ∧ StrOk c.2.2
theorem of_str {xs : List Ses} {k : L8} (h : StrOk xs) : StrOk (ofS xs k) := fun s hs => h s (List.mem_filter.1 hs).1
theorem pick_str {l : List Ses} {cs : List Chg} (h : StrOk l) (hc : COk cs) (k : L8) : StrOk (rpick l cs k) := by
  have gen : ∀ (cs : List Chg) (init : List Ses), StrOk init → COk cs → StrOk (cs.foldl (fun x c => if c.1 = k then c.2.2 else x) init) := by
    intro cs
    induction cs with
    | nil => intro init hi _; exact hi
    | cons c cs ih =>
      intro init hi hc
      rw [List.foldl_cons]
      refine ih _ ?_ (fun d hd => hc d (List.mem_cons_of_mem _ hd))
      split
      · exact (hc c List.mem_cons_self).2
      · exact hi
  exact gen cs _ (of_str h) hc
end Go.Proofs.YtihbpggbpapcfaaGreatDoor

namespace Go.Proofs.YtihbpggbpapcfaaGreatDoor
open Go.RowKit

instance (a b : List Chg) : Decidable (a = b) := decLs decChg a b
instance (a b : Chg) : Decidable (a = b) := decChg a b
instance (a b : Ver) : Decidable (a = b) := decVer a b
theorem chg_eq (x y : Chg) : decide (x = y) = (decide (x.1 = y.1) && decide (x.2.1 = y.2.1) && decide (x.2.2 = y.2.2)) := by
  obtain ⟨a, b, c⟩ := x
  obtain ⟨a', b', c'⟩ := y
  rw [Bool.eq_iff_iff]
  simp [and_assoc]
theorem ver_eq (x y : Ver) : decide (x = y) = ((x.1 == y.1) && (x.2.1 == y.2.1) && decide (x.2.2 = y.2.2)) := by
  obtain ⟨a, b, c⟩ := x
  obtain ⟨a', b', c'⟩ := y
  rw [Bool.eq_iff_iff]
  simp [and_assoc]
end Go.Proofs.YtihbpggbpapcfaaGreatDoor
