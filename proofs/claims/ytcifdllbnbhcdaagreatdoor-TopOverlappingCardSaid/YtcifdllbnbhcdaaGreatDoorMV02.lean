/- Texts V10, Dice, V11, V12, V13, V14, V15, V16, V17, V18, joined: walks and laws. -/
import Derived.BigQuiet
import Derived.Deep.DeepCutAuto
import Derived.Deep.RegionHeld3
import Derived.Lib.TrailingZeros
import Derived.Sort.Statements
import Derived.Test.YtcifdllbnbhcdaaGreatDoorMV01
import Derived.Test.YtcifdllbnbhcdaaGreatDoorProg
namespace Go.Proofs.YtcifdllbnbhcdaaGreatDoor
open Go.RowKit
theorem IntsAt.cell {w : World} {a : Option Addr} {n : Nat} {hs : List Int} (h : IntsAt w a n hs) {j : Nat} (hj : j < n) :
    ∃ b off, a = some ⟨b, off, none⟩ ∧ b < w.heap.size ∧ ∀ i, i < n → w.cell? ⟨b, off + i, none⟩ = some (.int .i64 (hs.getD i 0)) := by
  obtain ⟨_, _, h0 | ⟨b, off, ha, hc⟩⟩ := h
  · omega
  · exact ⟨b, off, ha, lt_of_cell (hc j hj), hc⟩
theorem IntsAt.len {w : World} {a : Option Addr} {n : Nat} {hs : List Int} (h : IntsAt w a n hs) : hs.length = n := h.1
theorem IntsAt.le {w : World} {a : Option Addr} {n : Nat} {hs : List Int} (h : IntsAt w a n hs) : n ≤ 9223372036854775807 := h.2.1
def orI : List Int → Int
  | [] => 0
  | x :: r => if x = 0 then orI r else x
theorem orI_drop {xs : List Int} {j : Nat} (h : j < xs.length) : orI (xs.drop j) = if xs.getD j 0 = 0 then orI (xs.drop (j + 1)) else xs.getD j 0 := by
  rw [List.drop_eq_getElem_cons h, orI, List.getD_eq_getElem?_getD, List.getElem?_eq_getElem h]; rfl
set_option maxRecDepth 100000 in
theorem or_any (a : Option Addr) (n c : Nat) (xs : List Int) (w : World) (hx : IntsAt w a n xs) : Calls Tryz.prog 257 #[.slice a n c] w (RetS (.int .i64 (orI xs)) w) := by
  have HX := Lib.hid hx
  have hl := hx.1
  have hm := hx.2.1
  clear hx
  go_enter Tryz.func257, Tryz.ntmps257
  go_wp2
  go_loop [8] (fun i => ∃ j : Nat, j ≤ n ∧ i = .int .i64 j ∧ Hid (orI (xs.drop j) = orI xs)) (fun i => n - (intOf i).toNat)
  case atStart => exact ⟨0, by omega, rfl, Lib.hid rfl⟩
  case round =>
    obtain ⟨j, hj, rfl, HO⟩ := hrel
    by_cases hlt : j < n
    · obtain ⟨b, off, rfl, hb, hc⟩ := HX.out.cell (j := j) hlt
      have hcj := hc j hlt
      have HD := Lib.hid (orI_drop (xs := xs) (j := j) (by omega))
      clear hc
      generalize xs.getD j 0 = x at *
      have k1 : (j : Int) < n := by omega
      by_cases hz : x = 0
      · subst hz
        have HO2 : Hid (orI (xs.drop (j + 1)) = orI xs) := Lib.hid (by rw [← HO.out, HD.out, if_pos rfl])
        go_wp2
        refine ⟨⟨j + 1, by omega, by go_num, HO2⟩, by simp [intOf]; omega⟩
      · have HF : Hid (orI xs = x) := Lib.hid (by rw [← HO.out, HD.out, if_neg hz])
        have hd : (x != 0) = true := by simpa using hz
        go_wp2
        go_ret
        exact ⟨ret_int (by rw [HF.out]), rfl⟩
    · obtain rfl : j = n := by omega
      have HF : Hid (orI xs = 0) := Lib.hid (by rw [← HO.out, List.drop_eq_nil_of_le (by omega), orI])
      go_wp2
      go_ret
      exact ⟨ret_int (by rw [HF.out]), rfl⟩
end Go.Proofs.YtcifdllbnbhcdaaGreatDoor
namespace Go.Proofs.YtcifdllbnbhcdaaGreatDoor
open Go.RowKit
theorem light_any (a : Option Addr) (n c : Nat) (w : World) :
    Calls Tryz.prog 4 #[.slice a n c] w (RetS (.bool (decide (n ≤ 400))) w) := by
  go_enter Tryz.func4, Tryz.ntmps4
  go_wp2
  go_ret
  exact ⟨ret_bool (by simp; omega), rfl⟩
theorem roll_any (a : Option Addr) (n c : Nat) (w : World) :
    Calls Tryz.prog 6 #[.slice a n c] w fun e w' => e = .returned (.pointer (some ⟨w.heap.size, 0, none⟩)) ∧ w' = w.alloc (.cells #[.slice a n c, .int .i64 0] 82) := by
  go_enter Tryz.func6, Tryz.ntmps6
  go_wp2
  go_ret
  exact ⟨rfl, rfl⟩
theorem mod_any (n m : Int) (h1 : -9223372036854775808 ≤ n) (h2 : n ≤ 9223372036854775807) (hm : 1 ≤ m) (hm2 : m ≤ 1000000000000) (w : World) :
    Calls Tryz.prog 37 #[.int .i64 n, .int .i64 m] w fun e w' => e = .returned (.int .i64 (n % m)) ∧ w = w' := by
  have hb := Int.emod_nonneg n (show m ≠ 0 by omega)
  have hb2 := Int.emod_lt_of_pos n (show 0 < m by omega)
  by_cases hn : 0 ≤ n
  · go_enter Tryz.func37, Tryz.ntmps37
    go_wp2
    go_ret
    exact ⟨rfl, rfl⟩
  · have ht : n.tmod m = if n % m = 0 then 0 else n % m - m := by
      rw [Int.tmod_eq_emod]
      have hd : (0 ≤ n ∨ m ∣ n) ↔ n % m = 0 := by
        constructor
        · rintro (h | h)
          · omega
          · exact Int.emod_eq_zero_of_dvd h
        · intro h; exact Or.inr (Int.dvd_of_emod_eq_zero h)
      by_cases c : n % m = 0
      · rw [if_pos (hd.2 c), if_pos c, c]; simp
      · rw [if_neg (fun h => c (hd.1 h)), if_neg c]; omega
    by_cases c : n % m = 0
    · rw [if_pos c] at ht
      have H := Lib.hid c
      clear c
      go_enter Tryz.func37, Tryz.ntmps37
      go_wp2
      go_ret
      exact ⟨ret_int (by rw [H.out]), rfl⟩
    · rw [if_neg c] at ht
      go_enter Tryz.func37, Tryz.ntmps37
      go_wp2
      go_ret
      exact ⟨ret_int (by omega), rfl⟩
set_option maxHeartbeats 400000 in
theorem next_any (p : Nat) (m : Int) (w : World) (hm : 1 ≤ m) (hm2 : m ≤ 1000000000000) (hD : DiceAt w p) :
    Calls Tryz.prog 18 #[.pointer (some ⟨p, 0, none⟩), .int .i64 m] w (Threw p m w) := by
  have HD := Lib.hid hD
  obtain ⟨a, n, c, i, L, T, hp, hi, hl, hn, hc, hL⟩ := hD
  have c0 : w.cell? ⟨p, 0, none⟩ = some (.slice a n c) := by simp [World.cell?, hp]
  have c1 : w.cell? ⟨p, 1, none⟩ = some (.int .i64 i) := by simp [World.cell?, hp]
  have f1 : w.frozen? ⟨p, 1, none⟩ = false := by simp [World.frozen?, hp]
  have HP := Lib.hid hp; have HL := Lib.hid hL; have Hl := Lib.hid hl
  clear hp hL hl
  by_cases h : n ≤ i
  · clear hc
    go_enter Tryz.func18, Tryz.ntmps18
    go_wp2
    go_quiet (fail)
    go_wp2
    go_ret
    exact ⟨0, by omega, by omega, rfl, HD.out.below ⟨rfl, rfl, rfl, Nat.le_refl _, fun _ _ => rfl⟩, But.drewN _ _⟩
  · rcases hc with h0 | ⟨b, off, rfl, hbp, hcc⟩
    · omega
    have hlt : i < n := by omega
    have g := hcc i hlt
    have hx := HL.out (L.getD i 0) (by have := Hl.out; rw [List.getD_eq_getElem?_getD, List.getElem?_eq_getElem (by omega)]; exact List.getElem_mem _)
    have HCC := Lib.hid hcc
    clear hcc h
    obtain ⟨x1, x2⟩ := hx
    generalize L.getD i 0 = x at *
    have r0 := Int.emod_nonneg x (show m ≠ 0 by omega)
    have r1 := Int.emod_lt_of_pos x (show 0 < m by omega)
    go_enter Tryz.func18, Tryz.ntmps18
    go_wp2
    go_quiet (fail)
    go_wp2
    have q0 : ∀ (nq : Nat) (v : Value), ((w.drewN nq).setCell ⟨p, 1, none⟩ v).cell? ⟨p, 0, none⟩ = some (.slice (some ⟨b, off, none⟩) n c) := fun nq v => by
      rw [World.cell?_setCell_other _ _ _ _ (by simp)]; exact c0
    have q1 : ∀ (nq : Nat) (v : Value), ((w.drewN nq).setCell ⟨p, 1, none⟩ v).cell? ⟨p, 1, none⟩ = some v := fun nq v => World.cell?_setCell_same _ _ _ (show (w.drewN nq).cell? _ = _ from c1)
    have q2 : ∀ (nq : Nat) (v : Value), ((w.drewN nq).setCell ⟨p, 1, none⟩ v).cell? ⟨b, off + i, none⟩ = some (.int .i64 x) := fun nq v => by
      rw [World.cell?_setCell_other _ _ _ _ (by simp)]; exact g
    have y1 : IntKind.i64.wrap (i : Int) = i := IntWalk.i64_in _ (by omega)
    have y2 : (i : Int) < n := by omega
    have y3 : (0 : Int) ≤ i := by omega
    go_quiet ((go_at_call 37; exact Calls.quiet_of_same (same_flip (mod_any _ _ x1 x2 hm hm2 _))))
    clear y1 y2 y3 q0 q1 q2
    go_wp2
    go_ret
    refine ⟨x % m, r0, r1, rfl, ?_, ?_⟩
    · refine ⟨some ⟨b, off, none⟩, n, c, i + 1, L, T, ?_, by omega, Hl.out, hn, Or.inr ⟨b, off, rfl, hbp, fun j hj => ?_⟩, HL.out⟩
      · show ((w.drewN _).setCell ⟨p, 1, none⟩ _).heap[p]? = _
        rw [heap_setCell_same _ p 1 _ _ _ (show (w.drewN _).heap[p]? = _ from HP.out)]
        simp
      · show ((w.drewN _).setCell ⟨p, 1, none⟩ _).cell? _ = _
        rw [World.cell?_setCell_other _ _ _ _ (by simp)]; exact HCC.out j hj
    · exact ((But.drewN w _).trans (But.setCell _ p 1 _)).trans (But.drewN _ _)
end Go.Proofs.YtcifdllbnbhcdaaGreatDoor
namespace Go.Proofs.YtcifdllbnbhcdaaGreatDoor
open Go.RowKit
theorem bits_one (x : Int) (h0 : 0 ≤ x) (h1 : x ≤ 9223372036854775807) : bits .and .i64 x 1 = x % 2 := by
  obtain ⟨n, rfl⟩ := Int.eq_ofNat_of_zero_le h0
  have hn : n < 2 ^ 64 := by omega
  have hb : (BitVec.ofInt 64 (n : Int) &&& BitVec.ofInt 64 1).toNat = n % 2 := by
    rw [BitVec.toNat_and]
    have e1 : (BitVec.ofInt 64 (n : Int)).toNat = n := by simp; omega
    have e2 : (BitVec.ofInt 64 (1 : Int)).toNat = 1 := by decide
    rw [e1, e2, Nat.and_one_is_mod]
  show IntKind.i64.wrap (((BitVec.ofInt 64 (n : Int) &&& BitVec.ofInt 64 1).toNat : Nat) : Int) = _
  rw [hb]
  rw [IntWalk.i64_in _ (by omega)]
  omega
theorem shr_bd (ws : Int) (j : Nat) (h0 : 0 ≤ ws) (h1 : ws ≤ 9223372036854775807) : 0 ≤ ws / 2 ^ j ∧ ws / 2 ^ j ≤ 9223372036854775807 := by
  have hp : (0 : Int) < 2 ^ j := Int.pow_pos (by decide)
  refine ⟨Int.ediv_nonneg h0 (Int.le_of_lt hp), Int.le_trans (Int.ediv_le_self _ h0) h1⟩
theorem rowSnoc {w2 : World} {B : Nat} {v' : Value} {L : List Int} {x : Int}
    (hown' : w2.ownsRow B 3 1 v' (L.length + 1) (L.map (Value.int .i64) ++ [.int .i64 x])) : w2.ownsRow B 3 1 v' (L ++ [x]).length ((L ++ [x]).map (Value.int .i64)) := by
  simpa using hown'
abbrev Row (w : World) (B : Nat) (v : Value) (L : List Int) : Prop := w.ownsRow B 3 1 v L.length (L.map (Value.int .i64))
theorem Row.ints {w : World} {B : Nat} {v : Value} {L : List Int} (h : Row w B v L) : Ints w v L := by
  obtain ⟨a, cap, h1, h2⟩ := IntsAt.of_owns h
  exact ⟨a, cap, h1, h2⟩
theorem Tryz.infoInt : (Tryz.prog.info? 3).map (fun i => (i.zero, i.size, i.bytes)) = some (some (.int .i64 0), 1, 8) := by kernel_rfl
def wkB (set : Int) (t : Nat) : Bool := decide (set / 2 ^ t % 2 = 1)
def wksL (set : Int) : Nat → List Int
  | 0 => []
  | t + 1 => wksL set t ++ (bif wkB set t then [(t : Int) + 1] else [])
theorem wksL_hit {set : Int} {t : Nat} (h : wkB set t = true) : wksL set (t + 1) = wksL set t ++ [(t : Int) + 1] := by simp [wksL, h]
theorem wksL_miss {set : Int} {t : Nat} (h : wkB set t = false) : wksL set (t + 1) = wksL set t := by simp [wksL, h]
end Go.Proofs.YtcifdllbnbhcdaaGreatDoor
namespace Go.Proofs.YtcifdllbnbhcdaaGreatDoor
open Go.RowKit
def lowW (set : Int) : Int := (wksL set 20).getD 0 0
end Go.Proofs.YtcifdllbnbhcdaaGreatDoor
namespace Go.Proofs.YtcifdllbnbhcdaaGreatDoor
open Go.RowKit
def befB (cl : L8) (wk : Int) (cl' : L8) (wk' : Int) : Bool := Op.bytesLess cl cl' || (decide (cl = cl') && decide (lowW wk < lowW wk'))
theorem bel_drew0 (w : World) : Below w.heap.size w w.drew := ⟨rfl, rfl, rfl, Nat.le_refl _, fun _ _ => rfl⟩
end Go.Proofs.YtcifdllbnbhcdaaGreatDoor
namespace Go.Proofs.YtcifdllbnbhcdaaGreatDoor
open Go.RowKit
def sesD : Ses := ([], 0, 0, 0, 0, [])
def chkS (s : Ses) (n : Int) : Int := chkE s.1 s.2.1 s.2.2.1 s.2.2.2.1 s.2.2.2.2.1 s.2.2.2.2.2 n
def chkL (n : Int) : List Ses → Int
  | [] => 0
  | s :: r => if chkS s n = 0 then chkL n r else chkS s n
def befS (s t : Ses) : Bool := befB s.1 s.2.1 t.1 t.2.1
def ordL : List Ses → Bool
  | a :: b :: r => befS a b && ordL (b :: r)
  | _ => true
def dupS (s t : Ses) : Bool := decide (s.1 = t.1) && ((bits .and .i64 s.2.1 t.2.1 != 0) || alkB s.1 s.2.2.1 s.2.2.2.1 s.2.2.2.2.1 s.2.2.2.2.2 t.1 t.2.2.1 t.2.2.2.1 t.2.2.2.2.1 t.2.2.2.2.2)
def dupL (xs : List Ses) : Bool := (List.range xs.length).any fun i => (List.range i).any fun k => dupS (xs.getD i sesD) (xs.getD k sesD)
def vldS (xs : List Ses) (n : Int) : Int :=
  if n < 1 ∨ 20 < n then 3 else if 96 < xs.length then 2 else if chkL n xs ≠ 0 then chkL n xs else if ordL xs = false then 63 else if dupL xs = true then 11 else 0
theorem chk_week {s : Ses} {n : Int} (h : chkS s n = 0) : codeOk s.1 = true ∧ sndB s.2.1 s.2.2.1 s.2.2.2.1 s.2.2.2.2.1 = true ∧ wsB s.2.1 n = true ∧ wsB s.2.1 20 = true := by
  unfold chkS chkE at h
  split at h
  · cases h
  · next h1 =>
    split at h
    · cases h
    · next h2 =>
      have h3 : (sndB s.2.1 s.2.2.1 s.2.2.2.1 s.2.2.2.2.1 && wsB s.2.1 n) = true := by simpa using h2
      rw [Bool.and_eq_true] at h3
      have h4 := h3.1
      unfold sndB at h4
      rw [Bool.and_eq_true] at h4
      exact ⟨by simpa using h1, h3.1, h3.2, h4.1⟩
theorem chkL_drop {n : Int} {xs : List Ses} {j : Nat} {s : Ses} (h : xs[j]? = some s) : chkL n (xs.drop j) = if chkS s n = 0 then chkL n (xs.drop (j + 1)) else chkS s n := by
  obtain ⟨hj, he⟩ := List.getElem?_eq_some_iff.1 h
  rw [List.drop_eq_getElem_cons hj, chkL, he]
theorem ordL_drop {xs : List Ses} {j : Nat} {s t : Ses} (h : xs[j]? = some s) (h' : xs[j + 1]? = some t) : ordL (xs.drop j) = (befS s t && ordL (xs.drop (j + 1))) := by
  obtain ⟨hj, he⟩ := List.getElem?_eq_some_iff.1 h
  obtain ⟨hj', he'⟩ := List.getElem?_eq_some_iff.1 h'
  rw [List.drop_eq_getElem_cons hj, List.drop_eq_getElem_cons hj', ordL, he, he']
theorem ordL_end {xs : List Ses} {j : Nat} (h : xs.length ≤ j + 1) : ordL (xs.drop j) = true := by
  have hl : (xs.drop j).length ≤ 1 := by rw [List.length_drop]; omega
  match hd : xs.drop j, hl with
  | [], _ => rfl
  | [a], _ => rfl
  | a :: b :: r, hl => simp at hl
theorem dupL_yes {xs : List Ses} {i k : Nat} {s t : Ses} (hi : xs[i]? = some s) (hk : xs[k]? = some t) (hki : k < i) (hd : dupS s t = true) : dupL xs = true := by
  obtain ⟨h1, _⟩ := List.getElem?_eq_some_iff.1 hi
  unfold dupL
  rw [List.any_eq_true]
  refine ⟨i, List.mem_range.2 h1, ?_⟩
  rw [List.any_eq_true]
  refine ⟨k, List.mem_range.2 hki, ?_⟩
  rw [List.getD_eq_getElem?_getD, List.getD_eq_getElem?_getD, hi, hk]
  exact hd
theorem dupL_no {xs : List Ses} (h : ∀ (i k : Nat) (s t : Ses), xs[i]? = some s → xs[k]? = some t → k < i → dupS s t = false) : dupL xs = false := by
  cases hd : dupL xs
  · rfl
  · unfold dupL at hd
    rw [List.any_eq_true] at hd
    obtain ⟨i, hi, hd⟩ := hd
    rw [List.any_eq_true] at hd
    obtain ⟨k, hk, hd⟩ := hd
    have hi' := List.mem_range.1 hi
    have hk' := List.mem_range.1 hk
    have e1 : xs[i]? = some xs[i] := List.getElem?_eq_getElem hi'
    have e2 : xs[k]? = some xs[k] := List.getElem?_eq_getElem (by omega)
    rw [List.getD_eq_getElem?_getD, List.getD_eq_getElem?_getD, e1, e2] at hd
    have := h i k _ _ e1 e2 hk'
    simp only [Option.getD_some] at hd
    rw [this] at hd; cases hd
end Go.Proofs.YtcifdllbnbhcdaaGreatDoor
namespace Go.Proofs.YtcifdllbnbhcdaaGreatDoor
open Go.RowKit
theorem below_cell9 {w w1 : World} (hb : Below w.heap.size w w1) {a : Addr} {v : Value} (h : w.cell? a = some v) : w1.cell? a = some v := by rw [hb.cell (p := a) (lt_of_cell h)]; exact h
end Go.Proofs.YtcifdllbnbhcdaaGreatDoor
namespace Go.Proofs.YtcifdllbnbhcdaaGreatDoor
open Go.RowKit
def lowP (wk : Int) : Int := ((Lib.ctz 64 (IntKind.u64.wrap wk).toNat : Nat) : Int) + 1
theorem wksL_none {set : Int} {k : Nat} : ∀ t, t ≤ k → (∀ i, i < k → wkB set i = false) → wksL set t = []
  | 0, _, _ => rfl
  | t + 1, h, hi => by rw [wksL_miss (hi t (by omega))]; exact wksL_none t (by omega) hi
theorem wksL_get {set : Int} {k : Nat} (h0 : ∀ i, i < k → wkB set i = false) (h1 : wkB set k = true) : ∀ t, (wksL set (k + 1 + t)).getD 0 0 = (k : Int) + 1
  | 0 => by rw [Nat.add_zero, wksL_hit h1, wksL_none k (Nat.le_refl _) h0]; rfl
  | t + 1 => by
    have ih := wksL_get h0 h1 t
    rw [← Nat.add_assoc]
    have hne : wksL set (k + 1 + t) ≠ [] := by
      intro h; rw [h] at ih; simp at ih; omega
    rw [wksL, List.getD_eq_getElem?_getD, List.getElem?_append_left (List.length_pos_iff.2 hne), ← List.getD_eq_getElem?_getD]
    exact ih
theorem pow_bits (k m i : Nat) (h : i < k) : 2 ^ k * (2 * m + 1) / 2 ^ i % 2 = 0 := by
  obtain ⟨d, rfl⟩ : ∃ d, k = i + (d + 1) := ⟨k - i - 1, by omega⟩
  rw [Nat.pow_add, Nat.mul_assoc, Nat.mul_div_cancel_left _ (Nat.pow_pos (by decide)), Nat.pow_succ, Nat.mul_assoc, Nat.mul_comm, Nat.mul_assoc, Nat.mul_mod_right]
theorem pow_bit (k m : Nat) : 2 ^ k * (2 * m + 1) / 2 ^ k % 2 = 1 := by
  rw [Nat.mul_div_cancel_left _ (Nat.pow_pos (by decide))]; omega
theorem wkB_nat (n i : Nat) : wkB (n : Int) i = decide (n / 2 ^ i % 2 = 1) := by
  unfold wkB
  rw [Bool.eq_iff_iff, decide_eq_true_eq, decide_eq_true_eq]
  rw [show ((2 : Int) ^ i) = ((2 ^ i : Nat) : Int) by simp]
  constructor <;> intro h <;> omega
theorem lowP_low {wk : Int} (h : wsB wk 20 = true) : lowP wk = lowW wk := by
  have h20 : 1 ≤ wk ∧ wk < 1048576 := by rw [wsB_20] at h; exact of_decide_eq_true h
  obtain ⟨n, rfl⟩ := Int.eq_ofNat_of_zero_le (show 0 ≤ wk by omega)
  have hn0 : n ≠ 0 := by omega
  have hw : (IntKind.u64.wrap (n : Int)).toNat = n := by rw [IntKind.wrap_u64]; omega
  obtain ⟨m, hm, hk⟩ := Lib.ctzFrom_spec 64 n (by omega) (by omega)
  have hk20 : Lib.ctzFrom 64 n < 20 := by
    apply Nat.lt_of_not_le
    intro hle
    have h1 : 2 ^ 20 ≤ 2 ^ Lib.ctzFrom 64 n := Nat.pow_le_pow_right (by decide) hle
    have h2 : 2 ^ Lib.ctzFrom 64 n ≤ 2 ^ Lib.ctzFrom 64 n * (2 * m + 1) := Nat.le_mul_of_pos_right _ (by omega)
    have h3 : 2 ^ Lib.ctzFrom 64 n * (2 * m + 1) < 1048576 := by rw [← hm]; omega
    omega
  unfold lowP lowW
  rw [hw]
  unfold Lib.ctz
  rw [if_neg hn0]
  generalize Lib.ctzFrom 64 n = k at *
  have g := wksL_get (set := (n : Int)) (k := k) (fun i hi => by rw [wkB_nat, hm, pow_bits k m i hi]; rfl) (by rw [wkB_nat, hm, pow_bit]; rfl) (19 - k)
  rw [show k + 1 + (19 - k) = 20 by omega] at g
  exact g.symm
def cmpI (x y : Int) : Int := if x < y then -1 else if x = y then 0 else 1
def ordP (s t : Ses) : Int := orI [cmpS s.1 t.1, cmpI (lowP s.2.1) (lowP t.2.1)]
theorem ordP_neg (s t : Ses) : decide (ordP s t < 0) = (Op.bytesLess s.1 t.1 || (decide (s.1 = t.1) && decide (lowP s.2.1 < lowP t.2.1))) := by
  unfold ordP cmpS cmpI
  cases h : Op.bytesLess s.1 t.1
  · by_cases h2 : s.1 = t.1
    · rcases Int.lt_trichotomy (lowP s.2.1) (lowP t.2.1) with h3 | h3 | h3
      · simp [orI, h2, h3]
      · simp [orI, h2, h3]
      · have h4 : ¬ lowP s.2.1 < lowP t.2.1 := by omega
        have h5 : ¬ lowP s.2.1 = lowP t.2.1 := by omega
        simp [orI, h2, h4, h5]
    · simp [orI, h2]
  · simp [orI]
theorem ordP_bef {s t : Ses} (hs : wsB s.2.1 20 = true) (ht : wsB t.2.1 20 = true) : decide (ordP s t < 0) = befS s t := by
  rw [ordP_neg, lowP_low hs, lowP_low ht]; rfl
end Go.Proofs.YtcifdllbnbhcdaaGreatDoor
namespace Go.Proofs.YtcifdllbnbhcdaaGreatDoor
open Go.RowKit
theorem bytesLess_lt : ∀ (x y : L8), Op.bytesLess x y = decide (x < y)
  | [], [] => by simp [Op.bytesLess]
  | _ :: _, [] => by simp [Op.bytesLess]
  | [], _ :: _ => by simp [Op.bytesLess]
  | a :: x, b :: y => by
    rw [Op.bytesLess, bytesLess_lt x y]
    simp only [List.cons_lt_cons_iff]
    by_cases h1 : a < b <;> by_cases h2 : a = b <;> by_cases h3 : x < y <;> simp [h1, h2, h3]
def ltP (s t : Ses) : Bool := decide (ordP s t < 0)
theorem ltP_iff (s t : Ses) : ltP s t = true ↔ (s.1 < t.1 ∨ (s.1 = t.1 ∧ lowP s.2.1 < lowP t.2.1)) := by
  unfold ltP; rw [ordP_neg, bytesLess_lt]; simp
theorem ltP_no (s t : Ses) : ltP s t = false ↔ ¬ (s.1 < t.1 ∨ (s.1 = t.1 ∧ lowP s.2.1 < lowP t.2.1)) := by
  rw [← ltP_iff]; simp
theorem swo_ord : Go.Sort.SWO ltP where
  irrefl x := by
    rw [ltP_no]
    rintro (h | ⟨_, h⟩)
    · exact absurd h (List.lt_irrefl _)
    · omega
  trans x y z h1 h2 := by
    rw [ltP_iff] at *
    rcases h1 with h1 | ⟨e1, h1⟩ <;> rcases h2 with h2 | ⟨e2, h2⟩
    · exact Or.inl (List.lt_trans h1 h2)
    · exact Or.inl (e2 ▸ h1)
    · exact Or.inl (e1 ▸ h2)
    · exact Or.inr ⟨e1.trans e2, by omega⟩
  ntrans x y z h1 h2 := by
    rw [ltP_no] at *
    have a1 : y.1 ≤ x.1 := List.not_lt.1 (fun h => h1 (Or.inl h))
    have a2 : z.1 ≤ y.1 := List.not_lt.1 (fun h => h2 (Or.inl h))
    have a3 : z.1 ≤ x.1 := List.le_trans a2 a1
    rintro (h | ⟨e, h⟩)
    · exact List.not_lt.2 a3 h
    · have e1 : x.1 = y.1 := List.le_antisymm (e ▸ a2) a1
      have e2 : y.1 = z.1 := e1.symm.trans e
      have b1 : ¬ lowP x.2.1 < lowP y.2.1 := fun h => h1 (Or.inr ⟨e1, h⟩)
      have b2 : ¬ lowP y.2.1 < lowP z.2.1 := fun h => h2 (Or.inr ⟨e2, h⟩)
      omega
def srtS (xs : List Ses) : List Ses := xs.mergeSort (fun a b => !ltP b a)
theorem ltP_asymm {a b : Ses} (h : ltP a b = true) : ltP b a = false := by
  cases h2 : ltP b a
  · rfl
  · have := swo_ord.trans a b a h h2
    rw [swo_ord.irrefl] at this; cases this
theorem srt_unique {L xs : List Ses} (hp : L.Perm xs) (hs : L.Pairwise (fun a b => ltP b a = false)) (hd : ∀ a ∈ xs, ∀ b ∈ xs, ltP a b = false → ltP b a = false → a = b) : L = srtS xs := by
  refine List.Perm.eq_of_pairwise (le := fun x y => (!ltP y x) = true) ?_ ?_ ?_ (hp.trans (List.mergeSort_perm _ _).symm)
  · intro a b ha hb h1 h2
    simp only [Bool.not_eq_true'] at h1 h2
    exact hd a (hp.mem_iff.1 ha) b ((List.mergeSort_perm _ _).mem_iff.1 hb) h2 h1
  · exact hs.imp (fun h => by simpa using h)
  · refine List.pairwise_mergeSort ?_ ?_ _
    · intro a b c h1 h2
      simp only [Bool.not_eq_true'] at h1 h2 ⊢
      exact swo_ord.ntrans c b a h2 h1
    · intro a b
      cases h : ltP b a with
      | false => simp
      | true => simp [ltP_asymm h]
def alkS (s t : Ses) : Bool := alkB s.1 s.2.2.1 s.2.2.2.1 s.2.2.2.2.1 s.2.2.2.2.2 t.1 t.2.2.1 t.2.2.2.1 t.2.2.2.2.1 t.2.2.2.2.2
def orW (s t : Ses) : Ses := (s.1, bits .or .i64 s.2.1 t.2.1, s.2.2)
def idxS (out : List Ses) (s : Ses) : Nat := out.findIdx (fun t => alkS s t)
def addS (out : List Ses) (s : Ses) : List Ses := if idxS out s < out.length then out.modify (idxS out s) (fun t => orW t s) else out ++ [s]
def joinS (xs : List Ses) : List Ses := xs.foldl addS []
theorem joinS_snoc (xs : List Ses) (s : Ses) : joinS (xs ++ [s]) = addS (joinS xs) s := by simp [joinS, List.foldl_append]
theorem addS_len (out : List Ses) (s : Ses) : (addS out s).length ≤ out.length + 1 := by
  unfold addS; split <;> simp
theorem joinS_take {xs : List Ses} {j : Nat} {s : Ses} (h : xs[j]? = some s) : joinS (xs.take (j + 1)) = addS (joinS (xs.take j)) s := by
  rw [List.take_add_one, h]; exact joinS_snoc _ _
theorem joinS_len : ∀ (xs : List Ses) (out : List Ses), (xs.foldl addS out).length ≤ out.length + xs.length
  | [], out => by simp
  | s :: xs, out => by
    have h1 := joinS_len xs (addS out s)
    have h2 := addS_len out s
    rw [List.foldl_cons, List.length_cons]; omega
def metS (s t : Ses) : Bool := metB s.1 s.2.1 t.1 t.2.1
theorem or_ws {a b n : Int} (ha : wsB a n = true) (hb : wsB b n = true) : wsB (bits .or .i64 a b) n = true := by
  obtain ⟨n1, n2, a1, a2⟩ := of_decide_eq_true ha
  obtain ⟨_, _, b1, b2⟩ := of_decide_eq_true hb
  obtain ⟨k, rfl⟩ := Int.eq_ofNat_of_zero_le (show 0 ≤ n by omega)
  obtain ⟨x, rfl⟩ := Int.eq_ofNat_of_zero_le (show 0 ≤ a by omega)
  obtain ⟨y, rfl⟩ := Int.eq_ofNat_of_zero_le (show 0 ≤ b by omega)
  have hk : ((k : Int)).toNat = k := by omega
  rw [hk] at a2 b2
  have hx : x < 2 ^ k := by exact_mod_cast a2
  have hy : y < 2 ^ k := by exact_mod_cast b2
  have ho : x ||| y < 2 ^ k := Nat.or_lt_two_pow hx hy
  have hp : 2 ^ k ≤ 2 ^ 20 := Nat.pow_le_pow_right (by decide) (by omega)
  have h1 : (BitVec.ofInt 64 (x : Int)).toNat = x := by rw [BitVec.ofInt_natCast, BitVec.toNat_ofNat]; exact Nat.mod_eq_of_lt (by omega)
  have h2 : (BitVec.ofInt 64 (y : Int)).toNat = y := by rw [BitVec.ofInt_natCast, BitVec.toNat_ofNat]; exact Nat.mod_eq_of_lt (by omega)
  have e : bits .or .i64 (x : Int) (y : Int) = ((x ||| y : Nat) : Int) := by
    show IntKind.i64.wrap (((BitVec.ofInt 64 (x : Int) ||| BitVec.ofInt 64 (y : Int)).toNat : Nat) : Int) = _
    rw [BitVec.toNat_or, h1, h2]
    exact IntWalk.i64_in _ (by omega)
  have hx1 : x ≤ x ||| y := Nat.left_le_or
  rw [e]
  refine decide_eq_true ⟨n1, n2, by omega, ?_⟩
  rw [hk]; exact_mod_cast ho
theorem and_low {a b : Int} (ha : wsB a 20 = true) (hb : wsB b 20 = true) (h : lowP a = lowP b) : (bits .and .i64 a b != 0) = true := by
  have a20 : 1 ≤ a ∧ a < 1048576 := by rw [wsB_20] at ha; exact of_decide_eq_true ha
  have b20 : 1 ≤ b ∧ b < 1048576 := by rw [wsB_20] at hb; exact of_decide_eq_true hb
  obtain ⟨x, rfl⟩ := Int.eq_ofNat_of_zero_le (show 0 ≤ a by omega)
  obtain ⟨y, rfl⟩ := Int.eq_ofNat_of_zero_le (show 0 ≤ b by omega)
  have hx0 : x ≠ 0 := by omega
  have hy0 : y ≠ 0 := by omega
  have wx : (IntKind.u64.wrap (x : Int)).toNat = x := by rw [IntKind.wrap_u64]; omega
  have wy : (IntKind.u64.wrap (y : Int)).toNat = y := by rw [IntKind.wrap_u64]; omega
  have hk : Lib.ctzFrom 64 x = Lib.ctzFrom 64 y := by
    unfold lowP at h
    rw [wx, wy] at h
    unfold Lib.ctz at h
    rw [if_neg hx0, if_neg hy0] at h
    omega
  obtain ⟨m, hm, _⟩ := Lib.ctzFrom_spec 64 x (by omega) (by omega)
  obtain ⟨m', hm', _⟩ := Lib.ctzFrom_spec 64 y (by omega) (by omega)
  rw [← hk] at hm'
  generalize Lib.ctzFrom 64 x = k at *
  have t1 : x.testBit k = true := by rw [Nat.testBit_eq_decide_div_mod_eq, hm, pow_bit]; rfl
  have t2 : y.testBit k = true := by rw [Nat.testBit_eq_decide_div_mod_eq, hm', pow_bit]; rfl
  have t3 : (x &&& y).testBit k = true := by rw [Nat.testBit_and, t1, t2]; rfl
  have t4 : x &&& y ≠ 0 := by intro h0; rw [h0] at t3; simp at t3
  have h1 : (BitVec.ofInt 64 (x : Int)).toNat = x := by rw [BitVec.ofInt_natCast, BitVec.toNat_ofNat]; exact Nat.mod_eq_of_lt (by omega)
  have h2 : (BitVec.ofInt 64 (y : Int)).toNat = y := by rw [BitVec.ofInt_natCast, BitVec.toNat_ofNat]; exact Nat.mod_eq_of_lt (by omega)
  have hle : x &&& y ≤ x := Nat.and_le_left
  have e : bits .and .i64 (x : Int) (y : Int) = ((x &&& y : Nat) : Int) := by
    show IntKind.i64.wrap (((BitVec.ofInt 64 (x : Int) &&& BitVec.ofInt 64 (y : Int)).toNat : Nat) : Int) = _
    rw [BitVec.toNat_and, h1, h2]
    exact IntWalk.i64_in _ (by omega)
  rw [e, bne_iff_ne]; omega
theorem metS_comm (s t : Ses) : metS s t = metS t s := by
  unfold metS metB
  have e : bits .and .i64 s.2.1 t.2.1 = bits .and .i64 t.2.1 s.2.1 := by
    show IntKind.i64.wrap (((BitVec.ofInt 64 s.2.1 &&& BitVec.ofInt 64 t.2.1).toNat : Nat) : Int) = IntKind.i64.wrap (((BitVec.ofInt 64 t.2.1 &&& BitVec.ofInt 64 s.2.1).toNat : Nat) : Int)
    rw [BitVec.and_comm]
  rw [e, show decide (s.1 = t.1) = decide (t.1 = s.1) from by rw [Bool.eq_iff_iff]; simp [eq_comm]]
def NoMet (xs : List Ses) : Prop := xs.Pairwise (fun a b => metS a b = false)
theorem NoMet.eq {xs : List Ses} (h : NoMet xs) (hw : ∀ s ∈ xs, wsB s.2.1 20 = true) : ∀ a ∈ xs, ∀ b ∈ xs, ltP a b = false → ltP b a = false → a = b := by
  have key : ∀ a b, wsB a.2.1 20 = true → wsB b.2.1 20 = true → metS a b = false → ltP a b = false → ltP b a = false → a = b := by
    intro a b wa wb hm h1 h2
    rw [ltP_no] at h1 h2
    have e1 : a.1 = b.1 := List.le_antisymm (List.not_lt.1 (fun h => h2 (Or.inl h))) (List.not_lt.1 (fun h => h1 (Or.inl h)))
    have b1 : ¬ lowP a.2.1 < lowP b.2.1 := fun h => h1 (Or.inr ⟨e1, h⟩)
    have b2 : ¬ lowP b.2.1 < lowP a.2.1 := fun h => h2 (Or.inr ⟨e1.symm, h⟩)
    have := and_low wa wb (by omega)
    unfold metS metB at hm
    rw [this, e1] at hm
    simp at hm
  intro a ha b hb h1 h2
  obtain ⟨i, hi, rfl⟩ := List.getElem_of_mem ha
  obtain ⟨k, hk, rfl⟩ := List.getElem_of_mem hb
  rcases Nat.lt_trichotomy i k with h3 | h3 | h3
  · exact key _ _ (hw _ ha) (hw _ hb) (List.pairwise_iff_getElem.1 h i k hi hk h3) h1 h2
  · subst h3; rfl
  · exact (key _ _ (hw _ hb) (hw _ ha) (List.pairwise_iff_getElem.1 h k i hk hi h3) h2 h1).symm
instance (xs : List Ses) : Decidable (NoMet xs) := by unfold NoMet; exact inferInstance
def nrmS (n : Int) (xs : List Ses) : Int × List Ses :=
  if n < 1 ∨ 20 < n then (3, []) else if chkL n xs ≠ 0 then (chkL n xs, []) else if ¬ NoMet (joinS xs) then (11, []) else if 96 < (joinS xs).length then (2, []) else (0, srtS (joinS xs))
theorem chkL_all {n : Int} : ∀ {xs : List Ses}, chkL n xs = 0 → ∀ s ∈ xs, chkS s n = 0
  | [], _, s, h => by simp at h
  | x :: xs, h, s, hs => by
    unfold chkL at h
    by_cases hx : chkS x n = 0
    · rw [if_pos hx] at h
      rcases List.mem_cons.1 hs with rfl | hs
      · exact hx
      · exact chkL_all h s hs
    · rw [if_neg hx] at h; exact absurd h hx
theorem mem_modify {xs : List Ses} {k : Nat} {f : Ses → Ses} {s : Ses} (h : s ∈ xs.modify k f) : s ∈ xs ∨ ∃ t ∈ xs, s = f t := by
  obtain ⟨i, hi, rfl⟩ := List.getElem_of_mem h
  rw [List.length_modify] at hi
  rw [List.getElem_modify]
  split
  · exact Or.inr ⟨xs[i], List.getElem_mem hi, rfl⟩
  · exact Or.inl (List.getElem_mem hi)
theorem addS_ws {n : Int} {out : List Ses} {s : Ses} (ho : ∀ t ∈ out, wsB t.2.1 n = true) (hs : wsB s.2.1 n = true) : ∀ t ∈ addS out s, wsB t.2.1 n = true := by
  intro t ht
  unfold addS at ht
  split at ht
  · rcases mem_modify ht with h | ⟨u, hu, rfl⟩
    · exact ho t h
    · exact or_ws (ho u hu) hs
  · rcases List.mem_append.1 ht with h | h
    · exact ho t h
    · rw [List.mem_singleton] at h; subst h; exact hs
theorem joinS_ws {n : Int} : ∀ (xs out : List Ses), (∀ t ∈ out, wsB t.2.1 n = true) → (∀ s ∈ xs, wsB s.2.1 n = true) → ∀ t ∈ xs.foldl addS out, wsB t.2.1 n = true
  | [], _, ho, _ => ho
  | s :: xs, out, ho, hx => joinS_ws xs (addS out s) (addS_ws ho (hx s List.mem_cons_self)) (fun t h => hx t (List.mem_cons_of_mem _ h))
end Go.Proofs.YtcifdllbnbhcdaaGreatDoor
namespace Go.Proofs.YtcifdllbnbhcdaaGreatDoor
open Go.RowKit
theorem not_ofInt (x : Int) : BitVec.ofInt 64 (-x - 1) = ~~~ BitVec.ofInt 64 x := by
  apply BitVec.eq_of_toNat_eq
  rw [BitVec.toNat_not, BitVec.toNat_ofInt, BitVec.toNat_ofInt]
  omega
theorem andNot_compl (a m : Int) : bits .andNot .i64 a m = bits .and .i64 a (-m - 1) := by
  show IntKind.i64.wrap (((BitVec.ofInt 64 a &&& ~~~ BitVec.ofInt 64 m).toNat : Nat) : Int) = IntKind.i64.wrap (((BitVec.ofInt 64 a &&& BitVec.ofInt 64 (-m - 1)).toNat : Nat) : Int)
  rw [not_ofInt]
def inW (m : Int) (s : Ses) : Ses := (s.1, bits .and .i64 s.2.1 m, s.2.2)
def mskS (m : Int) (xs : List Ses) : List Ses := (xs.map (inW m)).filter (fun s => s.2.1 != 0)
theorem mskS_hit {m : Int} {xs : List Ses} {j : Nat} {s : Ses} (h : xs[j]? = some s) (he : (bits .and .i64 s.2.1 m != 0) = true) : mskS m (xs.take (j + 1)) = mskS m (xs.take j) ++ [inW m s] := by
  unfold mskS; rw [List.take_add_one, h]; simp [inW, he]
theorem mskS_miss {m : Int} {xs : List Ses} {j : Nat} {s : Ses} (h : xs[j]? = some s) (he : (bits .and .i64 s.2.1 m != 0) = false) : mskS m (xs.take (j + 1)) = mskS m (xs.take j) := by
  unfold mskS; rw [List.take_add_one, h]; simp [inW, he]
theorem mskS_len (m : Int) (xs : List Ses) : (mskS m xs).length ≤ xs.length := by
  unfold mskS; exact Nat.le_trans (List.length_filter_le _ _) (by simp)
def firstW (w : Int) : Int := 2 ^ (w - 1).toNat - 1
def spcS (n w : Int) (old rest : List Ses) : Int × List Ses :=
  if vldS old n ≠ 0 then (vldS old n, []) else if vldS rest n ≠ 0 then (vldS rest n, []) else if w < 1 ∨ n + 1 < w then (3, []) else nrmS n (mskS (firstW w) old ++ mskS (-(firstW w) - 1) rest)
def idxC (out : List L8) (c : L8) : Nat := out.findIdx (fun x => !Op.bytesLess x c)
def insC (out : List L8) (c : L8) : List L8 := if out[idxC out c]? = some c then out else out.take (idxC out c) ++ [c] ++ out.drop (idxC out c)
def clsL (xs : List L8) : List L8 := xs.foldl insC []
theorem cls_unique {xs ys : List L8} (hx : xs.Pairwise (· < ·)) (hy : ys.Pairwise (· < ·)) (h : ∀ k, k ∈ xs ↔ k ∈ ys) : xs = ys := by
  have nd : ∀ {zs : List L8}, zs.Pairwise (· < ·) → zs.Nodup := fun hz => hz.imp (fun hlt he => by subst he; exact absurd hlt (List.lt_irrefl _))
  refine List.Perm.eq_of_pairwise (le := (· < ·)) ?_ hx hy ((List.perm_ext_iff_of_nodup (nd hx) (nd hy)).2 h)
  intro a b _ _ h1 h2
  exact absurd (List.lt_trans h1 h2) (List.lt_irrefl _)
theorem idxC_spec (out : List L8) (c : L8) (ho : out.Pairwise (· < ·)) :
    (∀ i (h : i < out.length), i < idxC out c → out[i] < c) ∧ (∀ i (h : i < out.length), idxC out c ≤ i → c ≤ out[i]) ∧ idxC out c ≤ out.length := by
  have hle : idxC out c ≤ out.length := List.findIdx_le_length
  refine ⟨fun i h hi => ?_, fun i h hi => ?_, hle⟩
  · have := List.not_of_lt_findIdx (p := fun x => !Op.bytesLess x c) (xs := out) hi
    rw [bytesLess_lt] at this
    simpa using this
  · have hk : idxC out c < out.length := by omega
    have h2 := List.findIdx_getElem (p := fun x => !Op.bytesLess x c) (xs := out) (w := hk)
    rw [bytesLess_lt] at h2
    have h2' : ¬ out[idxC out c] < c := by
      intro h; unfold idxC at h; rw [decide_eq_true h] at h2; cases h2
    have h3 : c ≤ out[idxC out c] := List.not_lt.1 h2'
    rcases Nat.lt_or_ge (idxC out c) i with h4 | h4
    · have h5 := List.pairwise_iff_getElem.1 ho _ i hk h h4
      exact List.le_trans h3 (List.le_of_lt h5)
    · have : i = idxC out c := by omega
      subst this; exact h3
theorem insC_ok {out : List L8} {c : L8} (ho : out.Pairwise (· < ·)) : (insC out c).Pairwise (· < ·) ∧ ∀ k, k ∈ insC out c ↔ (k ∈ out ∨ k = c) := by
  obtain ⟨h1, h2, h3⟩ := idxC_spec out c ho
  unfold insC
  generalize idxC out c = q at *
  by_cases he : out[q]? = some c
  · rw [if_pos he]
    have hm : c ∈ out := List.mem_of_getElem? he
    refine ⟨ho, fun k => ⟨Or.inl, ?_⟩⟩
    rintro (h | rfl)
    · exact h
    · exact hm
  · rw [if_neg he]
    constructor
    · rw [List.append_assoc, List.pairwise_append]
      refine ⟨ho.sublist (List.take_sublist _ _), ?_, ?_⟩
      · rw [List.singleton_append, List.pairwise_cons]
        refine ⟨fun t ht => ?_, ho.sublist (List.drop_sublist _ _)⟩
        obtain ⟨i, hi, rfl⟩ := List.getElem_of_mem ht
        rw [List.length_drop] at hi
        rw [List.getElem_drop]
        have hc : c ≤ out[q + i] := h2 (q + i) (by omega) (by omega)
        rcases Nat.eq_zero_or_pos i with h0 | h0
        · subst h0
          have hne : out[q + 0] ≠ c := fun h => he (by rw [List.getElem?_eq_getElem (by omega)]; exact congrArg some h)
          exact List.not_le.1 (fun h => hne (List.le_antisymm h hc))
        · have hq : c ≤ out[q] := h2 q (by omega) (Nat.le_refl _)
          have hlt := List.pairwise_iff_getElem.1 ho q (q + i) (by omega) (by omega) (by omega)
          exact List.not_le.1 (fun h => by
            have := List.le_antisymm (List.le_trans h hq) (List.le_of_lt hlt)
            rw [this] at hlt; exact List.lt_irrefl _ hlt)
      · intro a ha b hb
        obtain ⟨i, hi, rfl⟩ := List.getElem_of_mem ha
        rw [List.length_take] at hi
        rw [List.getElem_take]
        have hac : out[i] < c := h1 i (by omega) (by omega)
        rw [List.singleton_append, List.mem_cons] at hb
        rcases hb with rfl | hb
        · exact hac
        · obtain ⟨p, hp, rfl⟩ := List.getElem_of_mem hb
          rw [List.length_drop] at hp
          rw [List.getElem_drop]
          exact List.pairwise_iff_getElem.1 ho i (q + p) (by omega) (by omega) (by omega)
    · intro k
      rw [List.mem_append, List.mem_append, List.mem_singleton]
      conv => rhs; rw [← List.take_append_drop q out, List.mem_append]
      constructor
      · rintro ((h | h) | h)
        · exact Or.inl (Or.inl h)
        · exact Or.inr h
        · exact Or.inl (Or.inr h)
      · rintro ((h | h) | h)
        · exact Or.inl (Or.inl h)
        · exact Or.inr h
        · exact Or.inl (Or.inr h)
theorem clsL_ok : ∀ (xs out : List L8), out.Pairwise (· < ·) → (xs.foldl insC out).Pairwise (· < ·) ∧ ∀ k, k ∈ xs.foldl insC out ↔ (k ∈ out ∨ k ∈ xs)
  | [], out, h => ⟨h, fun k => by simp⟩
  | c :: xs, out, h => by
    obtain ⟨a, b⟩ := insC_ok (c := c) h
    obtain ⟨p, q⟩ := clsL_ok xs (insC out c) a
    refine ⟨p, fun k => ?_⟩
    rw [List.foldl_cons, q, b, List.mem_cons]
    constructor
    · rintro ((h | h) | h)
      · exact Or.inl h
      · exact Or.inr (Or.inl h)
      · exact Or.inr (Or.inr h)
    · rintro (h | h | h)
      · exact Or.inl (Or.inl h)
      · exact Or.inl (Or.inr h)
      · exact Or.inr h
theorem clsL_sorted (xs : List L8) : (clsL xs).Pairwise (· < ·) := (clsL_ok xs [] List.Pairwise.nil).1
theorem clsL_mem (xs : List L8) (k : L8) : k ∈ clsL xs ↔ k ∈ xs := by
  have h := (clsL_ok xs [] List.Pairwise.nil).2 k
  unfold clsL
  rw [h]; simp
theorem clsL_eq {xs ys : List L8} (hy : ys.Pairwise (· < ·)) (h : ∀ k, k ∈ ys ↔ k ∈ xs) : ys = clsL xs := cls_unique hy (clsL_sorted xs) (fun k => by rw [h, clsL_mem])
theorem insC_len (out : List L8) (c : L8) : (insC out c).length ≤ out.length + 1 := by
  unfold insC; split
  · omega
  · simp only [List.length_append, List.length_take, List.length_drop, List.length_cons, List.length_nil]; omega
theorem clsL_len : ∀ (xs out : List L8), (xs.foldl insC out).length ≤ out.length + xs.length
  | [], out => by simp
  | c :: xs, out => by
    have h1 := clsL_len xs (insC out c)
    have h2 := insC_len out c
    rw [List.foldl_cons, List.length_cons]; omega
end Go.Proofs.YtcifdllbnbhcdaaGreatDoor
