import Derived.Test.YtmnoiknpamfmoaaDoorC6
namespace Go.Proofs.YtmnoiknpamfmoaaDoor
open Go.RowKit CS

/-- The cells of damages. -/
def DCells (w : World) (g : Nat) (xs : Dmg) : Prop := ∀ j, j < xs.length → w.cell? ⟨g, j * 2, none⟩ = some (.int .i64 (xs.getD j (0, 0)).1) ∧ w.cell? ⟨g, j * 2 + 1, none⟩ = some (.int .i64 (xs.getD j (0, 0)).2)
/-- A slice of damages. -/
def Dam (w : World) (v : Value) (xs : Dmg) : Prop := ∃ a cap, v = .slice a xs.length cap ∧ xs.length ≤ cap ∧ (xs ≠ [] → ∃ g, a = some ⟨g, 0, none⟩ ∧ DCells w g xs)

theorem Dam.below {w w' : World} {v : Value} {xs : Dmg} (h : Dam w v xs) (hb : Below w.heap.size w w') : Dam w' v xs := by
  obtain ⟨a, cap, h1, h2, h3⟩ := h
  refine ⟨a, cap, h1, h2, fun hne => ?_⟩
  obtain ⟨g, rfl, hc⟩ := h3 hne
  refine ⟨g, rfl, fun j hj => ?_⟩
  obtain ⟨p, q⟩ := hc j hj
  exact ⟨by rw [hb.cell (lt_of_cell p)]; exact p, by rw [hb.cell (lt_of_cell q)]; exact q⟩

set_option maxRecDepth 100000 in
theorem same_some (xs : Dmg) (g1 g2 cap1 cap2 : Nat) (w : World) (hl : xs.length ≤ 1000000) (_hc1 : xs.length ≤ cap1) (_hc2 : xs.length ≤ cap2) (h1 : DCells w g1 xs) (h2 : DCells w g2 xs) :
    Calls Tryd.prog 11 #[.slice (some ⟨g1, 0, none⟩) xs.length cap1, .slice (some ⟨g2, 0, none⟩) xs.length cap2] w fun e w' => e = .returned (.bool true) ∧ Below w.heap.size w w' := by
  have H1 := Lib.hid h1
  have H2 := Lib.hid h2
  clear h1 h2
  generalize hL : xs.length = len at *
  go_enter Tryd.func11, Tryd.ntmps11
  go_wp2
  go_loopw [5] (fun i wr => ∃ j : Nat, j ≤ len ∧ i = .int .i64 j ∧ ∃ nd, wr = w.drewN nd) (fun i _ => len - (intOf i).toNat)
  case atStart => exact ⟨0, by omega, rfl, 0, rfl⟩
  case round =>
    obtain ⟨j, hj, rfl, nd, rfl⟩ := hrel
    by_cases hlt : j < len
    · obtain ⟨p1, q1⟩ := H1.out j (by omega)
      obtain ⟨p2, q2⟩ := H2.out j (by omega)
      generalize (xs.getD j (0, 0)).1 = x at *
      generalize (xs.getD j (0, 0)).2 = y at *
      go_wp2
      go_quiet (fail)
      go_wp2
      exact ⟨⟨j + 1, by omega, by go_num, nd + nq, rfl⟩, by simp [intOf]; omega⟩
    · go_wp2
      go_ret
      exact ⟨rfl, ⟨rfl, rfl, rfl, Nat.le_refl _, fun _ _ => rfl⟩⟩

set_option maxRecDepth 100000 in
theorem same_none (a1 a2 : Option Addr) (cap1 cap2 : Nat) (w : World) :
    Calls Tryd.prog 11 #[.slice a1 0 cap1, .slice a2 0 cap2] w fun e w' => e = .returned (.bool true) ∧ Below w.heap.size w w' := by
  go_enter Tryd.func11, Tryd.ntmps11
  go_wp2
  refine wp_loop_rounds 1 ?_
  rw [rounds_succ]
  go_wp2
  go_ret
  exact ⟨rfl, Below.refl _ _⟩

theorem same_any (xs : Dmg) (v1 v2 : Value) (w : World) (hl : xs.length ≤ 1000000) (h1 : Dam w v1 xs) (h2 : Dam w v2 xs) :
    Calls Tryd.prog 11 #[v1, v2] w fun e w' => e = .returned (.bool true) ∧ Below w.heap.size w w' := by
  obtain ⟨a1, cap1, rfl, hc1, k1⟩ := h1
  obtain ⟨a2, cap2, rfl, hc2, k2⟩ := h2
  by_cases hne : xs = []
  · subst hne; exact same_none a1 a2 cap1 cap2 w
  · obtain ⟨g1, rfl, d1⟩ := k1 hne
    obtain ⟨g2, rfl, d2⟩ := k2 hne
    exact same_some xs g1 g2 cap1 cap2 w hl hc1 hc2 d1 d2

end Go.Proofs.YtmnoiknpamfmoaaDoor
