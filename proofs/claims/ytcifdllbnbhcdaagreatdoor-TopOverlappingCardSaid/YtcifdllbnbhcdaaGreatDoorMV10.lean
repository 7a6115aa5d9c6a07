/- Texts V38, V39, V40, V70, joined: walks and laws. -/
import Derived.Outline
import Derived.Test.YtcifdllbnbhcdaaGreatDoorMV09
set_option linter.unusedSimpArgs false
set_option linter.unusedVariables false
namespace Go.Proofs.YtcifdllbnbhcdaaGreatDoor
open Go.RowKit
def DecR (n n' : Nat) (s : L8) : Prop := (s = [] ∧ n' = n) ∨ (s ≠ [] ∧ Lib.decDigits n = if n' = 0 then s else Lib.decDigits n' ++ s)
theorem DecR.step {n n' : Nat} {s : L8} (h : DecR n n' s) (hg : 0 < n' ∨ s = []) : DecR n (n' / 10) (UInt8.ofNat (48 + n' % 10) :: s) := by
  have key : n' ≠ 0 ∨ s = [] → Lib.decDigits n' ++ s = if n' / 10 = 0 then UInt8.ofNat (48 + n' % 10) :: s else Lib.decDigits (n' / 10) ++ UInt8.ofNat (48 + n' % 10) :: s := by
    intro _
    rw [Lib.decDigits]
    by_cases h1 : n' < 10
    · rw [dif_pos h1, if_pos (by omega), show n' % 10 = n' by omega]; rfl
    · rw [dif_neg h1, if_neg (by omega)]; simp
  refine Or.inr ⟨by simp, ?_⟩
  rcases h with ⟨rfl, rfl⟩ | ⟨h1, h2⟩
  · have := key (Or.inr rfl)
    rw [List.append_nil] at this
    exact this
  · have h3 : n' ≠ 0 := by
      rcases hg with h | h
      · omega
      · exact absurd h h1
    rw [if_neg h3] at h2
    rw [h2]; exact key (Or.inl h3)
theorem DecR.len {n n' : Nat} {s : L8} (h : DecR n n' s) : s.length ≤ (Lib.decDigits n).length := by
  rcases h with ⟨rfl, _⟩ | ⟨_, h⟩
  · simp
  · rw [h]; split
    · exact Nat.le_refl _
    · rw [List.length_append]; omega
theorem DecR.done {n : Nat} {s : L8} (h : DecR n 0 s) (hs : s ≠ []) : s = Lib.decDigits n := by
  rcases h with ⟨h, _⟩ | ⟨_, h⟩
  · exact absurd h hs
  · rw [h, if_pos rfl]
theorem arr_app (l m : L8) : arr l ++ arr m = arr (l ++ m) := by
  unfold arr
  apply ByteArray.ext
  simp
end Go.Proofs.YtcifdllbnbhcdaaGreatDoor
namespace Go.Proofs.YtcifdllbnbhcdaaGreatDoor
open Go.RowKit
theorem hexK_front : ∀ (k n : Nat), hexK (k + 1) n = hexD (n / 16 ^ k % 16) :: hexK k n
  | 0, n => by simp [hexK]
  | k + 1, n => by
    rw [hexK, hexK_front k (n / 16), List.cons_append, hexK]
    congr 2
    rw [Nat.div_div_eq_div_mul, Nat.pow_succ, Nat.mul_comm]
end Go.Proofs.YtcifdllbnbhcdaaGreatDoor
namespace Go.Proofs.YtcifdllbnbhcdaaGreatDoor
open Go.RowKit
structure Box3 (w0 w : World) (B : Nat) (x y z : Value) : Prop where
  c0 : w.cell? ⟨B, 0, none⟩ = some x
  c1 : w.cell? ⟨B, 1, none⟩ = some y
  c2 : w.cell? ⟨B, 2, none⟩ = some z
  sz : B < w.heap.size
  bl : Below w0.heap.size w0 w
theorem Box3.next {w0 w w2 : World} {B : Nat} {x y z : Value} (h : Box3 w0 w B x y z) (hb : Below w.heap.size w w2) : Box3 w0 w2 B x y z := by
  have ce : ∀ o, w2.cell? ⟨B, o, none⟩ = w.cell? ⟨B, o, none⟩ := fun o => hb.cell (p := ⟨B, o, none⟩) h.sz
  exact ⟨(ce 0).trans h.c0, (ce 1).trans h.c1, (ce 2).trans h.c2, Nat.lt_of_lt_of_le h.sz hb.size, below3 h.bl hb⟩
theorem Box3.mk0 {w : World} (x y z : Value) (T : TypeId) : Box3 w (w.alloc (.cells #[x, y, z] T)) w.heap.size x y z := ⟨by simp, by simp, by simp, by simp, (Below.refl _ _).alloc (Nat.le_refl _) _⟩
abbrev verV (num week : Int) (s : Sl) : Value := .agg #[.int .i64 num, .int .i64 week, .slice s.1 s.2.1 s.2.2]
def VOk (v : Ver) : Prop := ∀ c ∈ v.2.2, c.1.length ≤ 9223372036854775807 ∧ SOk c.2.1 ∧ SOk c.2.2
end Go.Proofs.YtcifdllbnbhcdaaGreatDoor
namespace Go.Proofs.YtcifdllbnbhcdaaGreatDoor
open Go.RowKit
set_option maxRecDepth 100000 in
set_option maxHeartbeats 2000000 in
theorem whole_any (a : Option Addr) (n c : Nat) (xs : List Ses) (k : L8) (w : World) (hx : SAt w a n xs) (hs : SOk xs) (hT : Tz w) (hc : n ≤ c) :
    Calls Tryz.prog 381 #[.slice a n c, .string (arr k)] w (RetB (.bool (ownB xs k)) w) := by
  have hl := hx.1
  have n1 := hx.2.1
  have HX := Lib.hid hx
  have VN := Lib.hid (fun W (h : Below w.heap.size w W) => valid_any a n c xs 20 W (hx.below h) hs (hT.below h) hc)
  have HO : Hid (ownB xs k = (xs.all (fun s => decide (s.1 = k)) && decide (vldS xs 20 = 0))) := Lib.hid rfl
  clear hx hT
  generalize vldS xs 20 = e1 at *
  go_enter Tryz.func381, Tryz.ntmps381
  go_wp2_with fail
  go_loopw [9] (fun i wr => ∃ j : Nat, j ≤ n ∧ i = .int .i64 j ∧ Hid (∀ (i : Nat) (s : Ses), i < j → xs[i]? = some s → s.1 = k) ∧ Hid (Below w.heap.size w wr)) (fun i _ => n - (intOf i).toNat)
  case atStart => exact ⟨0, by omega, rfl, Lib.hid (fun i s h => by omega), Lib.hid (Below.refl _ _)⟩
  case round =>
    obtain ⟨j, hj, rfl, HA, HB0⟩ := hrel
    by_cases hlt : j < n
    · obtain ⟨b1, o1, s1, rfl, g1, z1, x0, x1, x2, x3, x4, x5⟩ := SAt.cells (HX.out.below HB0.out) hlt
      have k1 : (j : Int) < n := by omega
      have k2 : (0 : Int) ≤ j := by omega
      have HG := Lib.hid g1
      clear g1
      have HB1 := Lib.hid (BX.mk0 (vs := sesA s1) (T := 43) wr)
      go_upto_region 4 with fail
      change Hid (BX wr (wr.alloc (.cells #[.string (arr s1.1), .int .i64 s1.2.1, .int .i64 s1.2.2.1, .int .i64 s1.2.2.2.1, .int .i64 s1.2.2.2.2.1, .string (arr s1.2.2.2.2.2)] 43)) wr.heap.size _ _) at HB1
      generalize wr.alloc (.cells #[.string (arr s1.1), .int .i64 s1.2.1, .int .i64 s1.2.2.1, .int .i64 s1.2.2.2.1, .int .i64 s1.2.2.2.2.1, .string (arr s1.2.2.2.2.2)] 43) = wb at *
      obtain ⟨S, hS⟩ : ∃ S, S = wr.heap.size := ⟨_, rfl⟩
      rw [← hS] at HB1 ⊢
      clear hS x0 x1 x2 x3 x4 x5
      have x0 : wb.cell? ⟨S, 0, none⟩ = some (.string (arr s1.1)) := HB1.out.cell 0
      have HB2 := Lib.hid (below3 HB0.out HB1.out.bl)
      by_cases he : s1.1 = k
      · have p1 : ((arr s1.1).toList == (arr k).toList) = true := by rw [he]; simp
        have p2 : (arr s1.1).toList = (arr k).toList := by rw [he]
        have HA2 : Hid (∀ (i : Nat) (s : Ses), i < j + 1 → xs[i]? = some s → s.1 = k) := Lib.hid (fun i s h h2 => by
          rcases Nat.lt_or_ge i j with h3 | h3
          · exact HA.out i s h3 h2
          · have : i = j := by omega
            subst this
            rw [HG.out] at h2; cases h2; exact he)
        clear he
        go_wp2_with fail
        go_roundw
        case rel => exact ⟨j + 1, by omega, by go_num, HA2, HB2⟩
        case measure => simp [intOf]; omega
      · have p1 : ((arr s1.1).toList == (arr k).toList) = false := by rw [arr_toList, arr_toList]; simpa using he
        have p2 : ¬ (arr s1.1).toList = (arr k).toList := by rw [arr_toList, arr_toList]; exact he
        have HF : Hid (ownB xs k = false) := Lib.hid (by
          rw [HO.out]
          have : xs.all (fun s => decide (s.1 = k)) = false := by
            rw [List.all_eq_false]
            exact ⟨s1, List.mem_of_getElem? HG.out, by simpa using he⟩
          rw [this]; rfl)
        clear he
        go_wp2_with fail
        go_ret
        exact ⟨ret_bool (by rw [HF.out]), HB2.out⟩
    · obtain rfl : j = n := by omega
      have HF : Hid (ownB xs k = decide (e1 = 0)) := Lib.hid (by
        rw [HO.out]
        have : xs.all (fun s => decide (s.1 = k)) = true := by
          rw [List.all_eq_true]
          intro s hs
          obtain ⟨i, hi, rfl⟩ := List.getElem_of_mem hs
          exact decide_eq_true (HA.out i _ (by omega) (List.getElem?_eq_getElem hi))
        rw [this]; rfl)
      go_wp2_with fail
      refine (VN.out _ HB0.out).mono ?_
      rintro en w1 ⟨rfl, hb1⟩
      have HB := Lib.hid (below3 HB0.out hb1)
      clear hb1
      by_cases hz : e1 = 0
      · have hd : (e1 == 0) = true := by simpa using hz
        have HF2 : Hid (ownB xs k = true) := Lib.hid (by rw [HF.out, decide_eq_true hz])
        clear hz
        go_wp2_with fail
        go_ret
        exact ⟨ret_bool (by rw [HF2.out]), HB.out⟩
      · have hd : (e1 == 0) = false := by simpa using hz
        have HF2 : Hid (ownB xs k = false) := Lib.hid (by rw [HF.out, decide_eq_false hz])
        clear hz
        go_wp2_with fail
        go_ret
        exact ⟨ret_bool (by rw [HF2.out]), HB.out⟩
set_option maxRecDepth 100000 in
set_option maxHeartbeats 4000000 in
theorem formed_any (v : Ver) (s : Sl) (w : World) (hv : HV w s v.2.2) (hk : VOk v) (hT : Tz w) (hn : v.2.2.length ≤ 1000000) (hz : ∀ c ∈ v.2.2, c.2.1.length * 64 ≤ 140737488355328 ∧ c.2.2.length * 64 ≤ 140737488355328) :
    Calls Tryz.prog 333 #[verV v.1 v.2.1 s] w (RetB (.bool (frmV v)) w) := by
  have hl := hv.2.len.1
  have n1 := hv.2.len.2
  have HX := Lib.hid hv
  have HTT := Lib.hid hT
  have HE0 : Hid (ordC none v.2.2 = true → ordE v.2.2 = 0) := Lib.hid (fun h => by unfold ordE; rw [if_pos h])
  have HE1 : Hid (ordC none v.2.2 = false → ordE v.2.2 = 63) := Lib.hid (fun h => by unfold ordE; rw [if_neg (by rw [h]; simp)])
  have HK := Lib.hid hk
  have HB0 := Lib.hid (Box3.mk0 (w := w) (.int .i64 v.1) (.int .i64 v.2.1) (.slice s.1 s.2.1 s.2.2) 157)
  have OC := Lib.hid (fun W (h : Below w.heap.size w W) => join_any s.1 s.2.1 s.2.2 v.2.2 W (hv.2.below h) (by rw [← hl]; exact hn) hv.1 hz)
  have HF : Hid (frmV v = (decide (1 ≤ v.1 ∧ v.1 ≤ 64 ∧ 1 ≤ v.2.1 ∧ v.2.1 ≤ 20 ∧ v.2.2 ≠ []) && ordC none v.2.2 && v.2.2.all chgOk)) := Lib.hid rfl
  obtain ⟨num, wk, cs⟩ := v
  obtain ⟨a, n, c⟩ := s
  simp only at *
  have he : Hid (cs = [] ↔ n = 0) := Lib.hid (by rw [← hl]; exact List.length_eq_zero_iff.symm)
  clear hv hk hT hz
  generalize ordE cs = ee at *
  by_cases hok : 1 ≤ num ∧ num ≤ 64 ∧ 1 ≤ wk ∧ wk ≤ 20 ∧ n ≠ 0
  rotate_left
  · have HF2 : Hid (frmV (num, wk, cs) = false) := Lib.hid (by
      rw [HF.out, decide_eq_false]; · rfl
      rintro ⟨h1, h2, h3, h4, h5⟩
      exact hok ⟨h1, h2, h3, h4, fun h => h5 (he.out.2 h)⟩)
    rcases (show num < 1 ∨ (1 ≤ num ∧ 64 < num) ∨ (1 ≤ num ∧ num ≤ 64 ∧ wk < 1) ∨ (1 ≤ num ∧ num ≤ 64 ∧ 1 ≤ wk ∧ 20 < wk) ∨ (1 ≤ num ∧ num ≤ 64 ∧ 1 ≤ wk ∧ wk ≤ 20 ∧ n = 0) by omega) with h | ⟨h, h1⟩ | ⟨h, h1, h2⟩ | ⟨h, h1, h2, h3⟩ | ⟨h, h1, h2, h3, h4⟩
    all_goals
      clear hok
      try subst h4
      go_enter Tryz.func333, Tryz.ntmps333
      go_wp2_with fail
      go_ret
      exact ⟨ret_bool (by rw [HF2.out]), HB0.out.bl⟩
  obtain ⟨h1, h2, h3, h4, h5⟩ := hok
  have hn0 : ((n : Int) == 0) = false := by rw [beq_eq_false_iff_ne]; omega
  have HF1 : Hid (frmV (num, wk, cs) = (ordC none cs && cs.all chgOk)) := Lib.hid (by
    rw [HF.out, decide_eq_true ⟨h1, h2, h3, h4, fun h => h5 (he.out.1 h)⟩]; rfl)
  clear HF he
  go_enter Tryz.func333, Tryz.ntmps333
  go_wp2_with fail
  refine (OC.out _ HB0.out.bl).mono ?_
  rintro en w1 ⟨vj, rfl, hq1⟩
  have HB1 := Lib.hid (HB0.out.next hq1)
  clear hq1 OC HB0
  obtain ⟨c0, c1, c2, sz, _⟩ := HB1.out
  cases hoc : ordC none cs
  · have HF2 : Hid (frmV (num, wk, cs) = false) := Lib.hid (by rw [HF1.out, hoc]; rfl)
    have hee := HE1.out hoc
    clear hoc HE0 HE1
    subst hee
    go_wp2_with fail
    go_ret
    exact ⟨ret_bool (by rw [HF2.out]), HB1.out.bl⟩
  have HF2 : Hid (frmV (num, wk, cs) = cs.all chgOk) := Lib.hid (by rw [HF1.out, hoc]; rfl)
  have hee := HE0.out hoc
  clear hoc HF1 HE0 HE1
  subst hee
  go_wp2_with fail
  go_loopw [42] (fun i wr => ∃ j : Nat, j ≤ n ∧ i = .int .i64 j ∧ Hid (∀ (i : Nat) (x : Chg), i < j → cs[i]? = some x → chgOk x = true) ∧ Hid (Box3 w wr w.heap.size (.int .i64 num) (.int .i64 wk) (.slice a n c))) (fun i _ => n - (intOf i).toNat)
  case atStart => exact ⟨0, by omega, rfl, Lib.hid (fun i s h => by omega), HB1⟩
  case round =>
    clear c0 c1 c2 sz HB1
    obtain ⟨j, hj, rfl, HA, HB1⟩ := hrel
    obtain ⟨c0, c1, c2, sz, _⟩ := HB1.out
    by_cases hlt : j < n
    · obtain ⟨b1, o1, x, p, q, rfl, g1, z1, x0, x1, x2, sp, sq⟩ := HAt.cells (HX.out.2.below HB1.out.bl) hlt
      have HG := Lib.hid g1
      have hxk := HK.out x (List.mem_of_getElem? g1)
      have k1 : (j : Int) < n := by omega
      have k2 : (0 : Int) ≤ j := by omega
      have RC := Lib.hid (fun W => code_l x.1 hxk.1 W)
      have O1 := Lib.hid (fun W (h : Below wr.heap.size wr W) => whole_any p.1 p.2.1 p.2.2 x.2.1 x.1 W (sp.2.below h) hxk.2.1 (HTT.out.below (below3 HB1.out.bl h)) sp.1)
      have O2 := Lib.hid (fun W (h : Below wr.heap.size wr W) => whole_any q.1 q.2.1 q.2.2 x.2.2 x.1 W (sq.2.below h) hxk.2.2 (HTT.out.below (below3 HB1.out.bl h)) sq.1)
      have HCK : Hid (chgOk x = (codeOk x.1 && ownB x.2.1 x.1 && ownB x.2.2 x.1)) := Lib.hid rfl
      have HYES : Hid (chgOk x = true → ∀ (i : Nat) (x : Chg), i < j + 1 → cs[i]? = some x → chgOk x = true) := Lib.hid (fun hd i y h h2 => by
        rcases Nat.lt_or_ge i j with h3 | h3
        · exact HA.out i y h3 h2
        · have : i = j := by omega
          subst this
          rw [HG.out] at h2; cases h2; exact hd)
      have HNO : Hid (chgOk x = false → frmV (num, wk, cs) = false) := Lib.hid (fun hd => by
        rw [HF2.out, List.all_eq_false]
        exact ⟨x, List.mem_of_getElem? HG.out, by rw [hd]; simp⟩)
      have HD0 := Lib.hid (Box3.mk0 (w := wr) (.string (arr x.1)) (.slice p.1 p.2.1 p.2.2) (.slice q.1 q.2.1 q.2.2) 161)
      have HB2 := Lib.hid (HB1.out.next HD0.out.bl)
      clear g1 sp sq hxk
      generalize codeOk x.1 = d1 at *
      generalize ownB x.2.1 x.1 = d2 at *
      generalize ownB x.2.2 x.1 = d3 at *
      go_wp2_with fail
      refine (RC.out _).mono ?_
      rintro en w2 ⟨rfl, hw2⟩
      subst hw2
      cases d1
      · have HF3 := Lib.hid (HNO.out (by rw [HCK.out]; rfl))
        go_wp2_with fail
        go_ret
        exact ⟨ret_bool (by rw [HF3.out]), HB2.out.bl⟩
      obtain ⟨e0, e1, e2, ez, _⟩ := HD0.out
      go_wp2_with fail
      refine (O1.out _ HD0.out.bl).mono ?_
      rintro en w3 ⟨rfl, hb3⟩
      have HB3 := Lib.hid (HB2.out.next hb3)
      have HD3 := Lib.hid (HD0.out.next hb3)
      clear hb3 e0 e1 e2 ez x0 x1 x2 c0 c1 c2 sz HB1 HB2 HD0 O1
      obtain ⟨e0, e1, e2, ez, _⟩ := HD3.out
      cases d2
      · have HF3 := Lib.hid (HNO.out (by rw [HCK.out]; rfl))
        go_wp2_with fail
        go_ret
        exact ⟨ret_bool (by rw [HF3.out]), HB3.out.bl⟩
      go_wp2_with fail
      refine (O2.out _ HD3.out.bl).mono ?_
      rintro en w4 ⟨rfl, hb4⟩
      have HB4 := Lib.hid (HB3.out.next hb4)
      clear hb4 e0 e1 e2 ez HB3 HD3 O2
      cases d3
      · have HF3 := Lib.hid (HNO.out (by rw [HCK.out]; rfl))
        go_wp2_with fail
        go_ret
        exact ⟨ret_bool (by rw [HF3.out]), HB4.out.bl⟩
      have HA2 := Lib.hid (HYES.out (by rw [HCK.out]; rfl))
      go_wp2_with fail
      go_roundw
      case rel => exact ⟨j + 1, by omega, by go_num, HA2, HB4⟩
      case measure => simp [intOf]; omega
    · obtain rfl : n = j := by omega
      have HF3 : Hid (frmV (num, wk, cs) = true) := Lib.hid (by
        rw [HF2.out, List.all_eq_true]
        intro y hy
        obtain ⟨i, hi, rfl⟩ := List.getElem_of_mem hy
        exact HA.out i _ (by omega) (List.getElem?_eq_getElem hi))
      go_wp2_with fail
      go_ret
      exact ⟨ret_bool (by rw [HF3.out]), HB1.out.bl⟩
end Go.Proofs.YtcifdllbnbhcdaaGreatDoor
