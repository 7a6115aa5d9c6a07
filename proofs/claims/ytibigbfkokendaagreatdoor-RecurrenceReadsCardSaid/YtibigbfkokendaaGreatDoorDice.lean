import Derived.Test.YtibigbfkokendaaGreatDoorProg
import Derived.Test.YtibigbfkokendaaGreatDoorBase
namespace Go.Proofs.YtibigbfkokendaaGreatDoor
open Go.RowKit

theorem light_any (a : Option Addr) (n c : Nat) (w : World) :
    Calls Tryz.prog 5 #[.slice a n c] w (RetS (.bool (decide (n ≤ 400))) w) := by
  go_enter Tryz.func5, Tryz.ntmps5
  go_wp2
  go_ret
  exact ⟨ret_bool (by simp; omega), rfl⟩
theorem roll_any (a : Option Addr) (n c : Nat) (w : World) :
    Calls Tryz.prog 8 #[.slice a n c] w fun e w' => e = .returned (.pointer (some ⟨w.heap.size, 0, none⟩)) ∧ w' = w.alloc (.cells #[.slice a n c, .int .i64 0] 48) := by
  go_enter Tryz.func8, Tryz.ntmps8
  go_wp2
  go_ret
  exact ⟨rfl, rfl⟩
theorem mod_any (n m : Int) (h1 : -9223372036854775808 ≤ n) (h2 : n ≤ 9223372036854775807) (hm : 1 ≤ m) (hm2 : m ≤ 1000000000000) (w : World) :
    Calls Tryz.prog 15 #[.int .i64 n, .int .i64 m] w fun e w' => e = .returned (.int .i64 (n % m)) ∧ w = w' := by
  have hb := Int.emod_nonneg n (show m ≠ 0 by omega)
  have hb2 := Int.emod_lt_of_pos n (show 0 < m by omega)
  by_cases hn : 0 ≤ n
  · go_enter Tryz.func15, Tryz.ntmps15
    go_wp2
    go_ret
    exact ⟨rfl, rfl⟩
  · have ht : n.tmod m = if n % m = 0 then 0 else n % m - m := by
      rw [Int.tmod_eq_emod]
      have hd : (0 ≤ n ∨ m ∣ n) ↔ n % m = 0 := by
        constructor
        · rintro (h | h)
          · omega
          · exact Int.emod_eq_zero_of_dvd h
        · intro h; exact Or.inr (Int.dvd_of_emod_eq_zero h)
      by_cases c : n % m = 0
      · rw [if_pos (hd.2 c), if_pos c, c]; simp
      · rw [if_neg (fun h => c (hd.1 h)), if_neg c]; omega
    by_cases c : n % m = 0
    · rw [if_pos c] at ht
      have H := Lib.hid c
      clear c
      go_enter Tryz.func15, Tryz.ntmps15
      go_wp2
      go_ret
      exact ⟨ret_int (by rw [H.out]), rfl⟩
    · rw [if_neg c] at ht
      go_enter Tryz.func15, Tryz.ntmps15
      go_wp2
      go_ret
      exact ⟨ret_int (by omega), rfl⟩

set_option maxHeartbeats 400000 in
theorem next_any (p : Nat) (m : Int) (w : World) (hm : 1 ≤ m) (hm2 : m ≤ 1000000000000) (hD : DiceAt w p) :
    Calls Tryz.prog 32 #[.pointer (some ⟨p, 0, none⟩), .int .i64 m] w (Threw p m w) := by
  have HD := Lib.hid hD
  obtain ⟨a, n, c, i, L, T, hp, hi, hl, hn, hc, hL⟩ := hD
  have c0 : w.cell? ⟨p, 0, none⟩ = some (.slice a n c) := by simp [World.cell?, hp]
  have c1 : w.cell? ⟨p, 1, none⟩ = some (.int .i64 i) := by simp [World.cell?, hp]
  have f1 : w.frozen? ⟨p, 1, none⟩ = false := by simp [World.frozen?, hp]
  have HP := Lib.hid hp; have HL := Lib.hid hL; have Hl := Lib.hid hl
  clear hp hL hl
  by_cases h : n ≤ i
  · clear hc
    go_enter Tryz.func32, Tryz.ntmps32
    go_wp2
    go_quiet (fail)
    go_wp2
    go_ret
    exact ⟨0, by omega, by omega, rfl, HD.out.below ⟨rfl, rfl, rfl, Nat.le_refl _, fun _ _ => rfl⟩, But.drewN _ _⟩
  · rcases hc with h0 | ⟨b, off, rfl, hbp, hcc⟩
    · omega
    have hlt : i < n := by omega
    have g := hcc i hlt
    have hx := HL.out (L.getD i 0) (by have := Hl.out; rw [List.getD_eq_getElem?_getD, List.getElem?_eq_getElem (by omega)]; exact List.getElem_mem _)
    have HCC := Lib.hid hcc
    clear hcc h
    obtain ⟨x1, x2⟩ := hx
    generalize L.getD i 0 = x at *
    have r0 := Int.emod_nonneg x (show m ≠ 0 by omega)
    have r1 := Int.emod_lt_of_pos x (show 0 < m by omega)
    go_enter Tryz.func32, Tryz.ntmps32
    go_wp2
    go_quiet (fail)
    go_wp2
    have q0 : ∀ (nq : Nat) (v : Value), ((w.drewN nq).setCell ⟨p, 1, none⟩ v).cell? ⟨p, 0, none⟩ = some (.slice (some ⟨b, off, none⟩) n c) := fun nq v => by
      rw [World.cell?_setCell_other _ _ _ _ (by simp)]; exact c0
    have q1 : ∀ (nq : Nat) (v : Value), ((w.drewN nq).setCell ⟨p, 1, none⟩ v).cell? ⟨p, 1, none⟩ = some v := fun nq v => World.cell?_setCell_same _ _ _ (show (w.drewN nq).cell? _ = _ from c1)
    have q2 : ∀ (nq : Nat) (v : Value), ((w.drewN nq).setCell ⟨p, 1, none⟩ v).cell? ⟨b, off + i, none⟩ = some (.int .i64 x) := fun nq v => by
      rw [World.cell?_setCell_other _ _ _ _ (by simp)]; exact g
    have y1 : IntKind.i64.wrap (i : Int) = i := IntWalk.i64_in _ (by omega)
    have y2 : (i : Int) < n := by omega
    have y3 : (0 : Int) ≤ i := by omega
    go_quiet ((go_at_call 15; exact Calls.quiet_of_same (same_flip (mod_any _ _ x1 x2 hm hm2 _))))
    clear y1 y2 y3 q0 q1 q2
    go_wp2
    go_ret
    refine ⟨x % m, r0, r1, rfl, ?_, ?_⟩
    · refine ⟨some ⟨b, off, none⟩, n, c, i + 1, L, T, ?_, by omega, Hl.out, hn, Or.inr ⟨b, off, rfl, hbp, fun j hj => ?_⟩, HL.out⟩
      · show ((w.drewN _).setCell ⟨p, 1, none⟩ _).heap[p]? = _
        rw [heap_setCell_same _ p 1 _ _ _ (show (w.drewN _).heap[p]? = _ from HP.out)]
        simp
      · show ((w.drewN _).setCell ⟨p, 1, none⟩ _).cell? _ = _
        rw [World.cell?_setCell_other _ _ _ _ (by simp)]; exact HCC.out j hj
    · exact ((But.drewN w _).trans (But.setCell _ p 1 _)).trans (But.drewN _ _)

theorem one_any (p : Nat) (m : Int) (w : World) (hm : 1 ≤ m) (hm2 : m ≤ 1000000000000) (hD : DiceAt w p) :
    Calls Tryz.prog 19 #[.pointer (some ⟨p, 0, none⟩), .int .i64 m] w (One p w) := by
  have HD := Lib.hid hD
  clear hD
  go_enter Tryz.func19, Tryz.ntmps19
  go_wp2_with (go_at_call 32; refine (next_any p m _ hm hm2 HD.out).mono ?_; rintro e w1 ⟨r, r0, r1, rfl, hd, hb⟩)
  go_ret
  exact ⟨_, rfl, hd, hb⟩

end Go.Proofs.YtibigbfkokendaaGreatDoor
