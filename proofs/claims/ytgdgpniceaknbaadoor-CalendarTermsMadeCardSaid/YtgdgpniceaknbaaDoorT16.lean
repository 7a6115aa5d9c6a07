import Derived.Test.YtgdgpniceaknbaaDoorT15
namespace Go.Proofs.YtgdgpniceaknbaaDoor
open Go.RowKit TT

/-- As it was, but for block p and what is new. -/
structure But (p : Nat) (w w' : World) : Prop where
  os : w'.os = w.os
  tape : w'.tape = w.tape
  output : w'.output = w.output
  size : w.heap.size ≤ w'.heap.size
  block : ∀ k, k < w.heap.size → k ≠ p → w'.heap[k]? = w.heap[k]?
theorem But.refl (p : Nat) (w : World) : But p w w := ⟨rfl, rfl, rfl, Nat.le_refl _, fun _ _ _ => rfl⟩
theorem But.trans {p : Nat} {a b c : World} (h : But p a b) (g : But p b c) : But p a c :=
  ⟨g.os.trans h.os, g.tape.trans h.tape, g.output.trans h.output, Nat.le_trans h.size g.size, fun k hk hp => (g.block k (Nat.lt_of_lt_of_le hk h.size) hp).trans (h.block k hk hp)⟩
theorem But.of_below {p : Nat} {w w' : World} (h : Below w.heap.size w w') : But p w w' := ⟨h.os, h.tape, h.output, h.size, fun k hk _ => h.block k hk⟩
theorem But.below {p B : Nat} {a w w' : World} (h : Below B a w) (g : But p w w') (hp : B ≤ p) (hB : B ≤ w.heap.size) : Below B a w' :=
  h.trans ⟨g.os, g.tape, g.output, g.size, fun k hk => g.block k (by omega) (by omega)⟩
theorem But.cell {p : Nat} {w w' : World} (h : But p w w') {b o : Nat} (hb : b < w.heap.size) (hp : b ≠ p) : w'.cell? ⟨b, o, none⟩ = w.cell? ⟨b, o, none⟩ := World.cell?_of_block (w := w) (h.block b hb hp)
theorem But.frozen {p : Nat} {w w' : World} (h : But p w w') {b o : Nat} (hb : b < w.heap.size) (hp : b ≠ p) : w'.frozen? ⟨b, o, none⟩ = w.frozen? ⟨b, o, none⟩ := World.frozen?_of_block (w := w) (h.block b hb hp)
theorem But.drewN {p : Nat} (w : World) (n : Nat) : But p w (w.drewN n) := ⟨rfl, rfl, rfl, Nat.le_refl _, fun _ _ _ => rfl⟩
theorem But.setCell (w : World) (p o : Nat) (v : Value) : But p w (w.setCell ⟨p, o, none⟩ v) := ⟨rfl, rfl, rfl, by simp, fun k _ hp => heap_setCell_other _ _ _ _ hp⟩

/-- Dice: a pointer to their list and place. -/
def DiceAt (w : World) (p : Nat) : Prop :=
  ∃ (a : Option Addr) (n c i : Nat) (L : List Int) (T : TypeId), w.heap[p]? = some (.cells #[.slice a n c, .int .i64 i] T (0, 0)) ∧ i ≤ n ∧ L.length = n ∧ n ≤ 9223372036854775806 ∧
    (n = 0 ∨ ∃ b off, a = some ⟨b, off, none⟩ ∧ b < p ∧ ∀ j, j < n → w.cell? ⟨b, off + j, none⟩ = some (.int .i64 (L.getD j 0))) ∧ (∀ x ∈ L, -9223372036854775808 ≤ x ∧ x ≤ 9223372036854775807)
theorem lt_of_heap {w : World} {p : Nat} {o : Obj} (h : w.heap[p]? = some o) : p < w.heap.size := by
  by_cases c : p < w.heap.size
  · exact c
  · rw [Array.getElem?_eq_none (by omega)] at h; cases h
theorem DiceAt.lt {w : World} {p : Nat} (h : DiceAt w p) : p < w.heap.size := by
  obtain ⟨a, n, c, i, L, T, hp, _⟩ := h; exact lt_of_heap hp
theorem DiceAt.below {w w' : World} {p : Nat} (h : DiceAt w p) (hb : Below w.heap.size w w') : DiceAt w' p := by
  have hlt := h.lt
  obtain ⟨a, n, c, i, L, T, hp, hi, hl, hn, hc, hL⟩ := h
  refine ⟨a, n, c, i, L, T, (hb.block p hlt).trans hp, hi, hl, hn, ?_, hL⟩
  rcases hc with h0 | ⟨b, off, ha, hbp, hcc⟩
  · exact Or.inl h0
  · exact Or.inr ⟨b, off, ha, hbp, fun j hj => by rw [hb.cell (p := ⟨b, off + j, none⟩) (by show b < _; omega)]; exact hcc j hj⟩
theorem DiceAt.mk0 {w : World} {a : Option Addr} {n : Nat} (c : Nat) {L : List Int} (T : TypeId) (h : IntsAt w a n L) (hn : n ≤ 400) (hL : ∀ x ∈ L, -9223372036854775808 ≤ x ∧ x ≤ 9223372036854775807) :
    DiceAt (w.alloc (.cells #[.slice a n c, .int .i64 0] T)) w.heap.size := by
  obtain ⟨h1, h2, h3⟩ := h
  refine ⟨a, n, c, 0, L, T, ?_, by omega, h1, by omega, ?_, hL⟩
  · show (w.heap.push _)[w.heap.size]? = _
    simp
  · rcases h3 with h0 | ⟨b, off, ha, hc⟩
    · exact Or.inl h0
    · by_cases h0 : n = 0
      · exact Or.inl h0
      · have hb : b < w.heap.size := World.block_lt_of_cell? _ ⟨b, off + 0, none⟩ (hc 0 (by omega))
        exact Or.inr ⟨b, off, ha, hb, fun j hj => by rw [World.cell?_alloc_past _ _ _ hb]; exact hc j hj⟩

/-- what a throw gives -/
def Threw (p : Nat) (m : Int) (w : World) (e : Ending) (w' : World) : Prop := ∃ r : Int, 0 ≤ r ∧ r < m ∧ e = .returned (.int .i64 r) ∧ DiceAt w' p ∧ But p w w'

set_option maxHeartbeats 400000 in
theorem next_any (p : Nat) (m : Int) (w : World) (hm : 1 ≤ m) (hm2 : m ≤ 1000000000000) (hD : DiceAt w p) :
    Calls Tryd.prog 32 #[.pointer (some ⟨p, 0, none⟩), .int .i64 m] w (Threw p m w) := by
  have HD := Lib.hid hD
  obtain ⟨a, n, c, i, L, T, hp, hi, hl, hn, hc, hL⟩ := hD
  have c0 : w.cell? ⟨p, 0, none⟩ = some (.slice a n c) := by simp [World.cell?, hp]
  have c1 : w.cell? ⟨p, 1, none⟩ = some (.int .i64 i) := by simp [World.cell?, hp]
  have f1 : w.frozen? ⟨p, 1, none⟩ = false := by simp [World.frozen?, hp]
  have HP := Lib.hid hp; have HL := Lib.hid hL; have Hl := Lib.hid hl
  clear hp hL hl
  by_cases h : n ≤ i
  · clear hc
    go_enter Tryd.func32, Tryd.ntmps32
    go_wp2
    go_quiet (fail)
    go_wp2
    go_ret
    exact ⟨0, by omega, by omega, rfl, HD.out.below ⟨rfl, rfl, rfl, Nat.le_refl _, fun _ _ => rfl⟩, But.drewN _ _⟩
  · rcases hc with h0 | ⟨b, off, rfl, hbp, hcc⟩
    · omega
    have hlt : i < n := by omega
    have g := hcc i hlt
    have hx := HL.out (L.getD i 0) (by have := Hl.out; rw [List.getD_eq_getElem?_getD, List.getElem?_eq_getElem (by omega)]; exact List.getElem_mem _)
    have HCC := Lib.hid hcc
    clear hcc h
    obtain ⟨x1, x2⟩ := hx
    generalize L.getD i 0 = x at *
    have r0 := Int.emod_nonneg x (show m ≠ 0 by omega)
    have r1 := Int.emod_lt_of_pos x (show 0 < m by omega)
    go_enter Tryd.func32, Tryd.ntmps32
    go_wp2
    go_quiet (fail)
    go_wp2
    have q0 : ∀ (nq : Nat) (v : Value), ((w.drewN nq).setCell ⟨p, 1, none⟩ v).cell? ⟨p, 0, none⟩ = some (.slice (some ⟨b, off, none⟩) n c) := fun nq v => by
      rw [World.cell?_setCell_other _ _ _ _ (by simp)]; exact c0
    have q1 : ∀ (nq : Nat) (v : Value), ((w.drewN nq).setCell ⟨p, 1, none⟩ v).cell? ⟨p, 1, none⟩ = some v := fun nq v => World.cell?_setCell_same _ _ _ (show (w.drewN nq).cell? _ = _ from c1)
    have q2 : ∀ (nq : Nat) (v : Value), ((w.drewN nq).setCell ⟨p, 1, none⟩ v).cell? ⟨b, off + i, none⟩ = some (.int .i64 x) := fun nq v => by
      rw [World.cell?_setCell_other _ _ _ _ (by simp)]; exact g
    have y1 : IntKind.i64.wrap (i : Int) = i := IntWalk.i64_in _ (by omega)
    have y2 : (i : Int) < n := by omega
    have y3 : (0 : Int) ≤ i := by omega
    go_quiet ((go_at_call 17; exact Calls.quiet_of_same (same_flip (mod_any _ _ x1 x2 hm hm2 _))))
    clear y1 y2 y3 q0 q1 q2
    go_wp2
    go_ret
    refine ⟨x % m, r0, r1, rfl, ?_, ?_⟩
    · refine ⟨some ⟨b, off, none⟩, n, c, i + 1, L, T, ?_, by omega, Hl.out, hn, Or.inr ⟨b, off, rfl, hbp, fun j hj => ?_⟩, HL.out⟩
      · show ((w.drewN _).setCell ⟨p, 1, none⟩ _).heap[p]? = _
        rw [heap_setCell_same _ p 1 _ _ _ (show (w.drewN _).heap[p]? = _ from HP.out)]
        simp
      · show ((w.drewN _).setCell ⟨p, 1, none⟩ _).cell? _ = _
        rw [World.cell?_setCell_other _ _ _ _ (by simp)]; exact HCC.out j hj
    · exact ((But.drewN w _).trans (But.setCell _ p 1 _)).trans (But.drewN _ _)
end Go.Proofs.YtgdgpniceaknbaaDoor
