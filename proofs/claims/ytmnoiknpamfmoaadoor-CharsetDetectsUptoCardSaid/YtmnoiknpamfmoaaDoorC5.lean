import Derived.Test.YtmnoiknpamfmoaaDoorC4
namespace Go.Proofs.YtmnoiknpamfmoaaDoor
open Go.RowKit CS

/-- A slice of bytes, nil among them. -/
def BSlice (w : World) (v : Value) (l : L8) : Prop :=
  (∃ a cap, v = .slice a 0 cap ∧ l = []) ∨ ∃ b off cap, v = .slice (some ⟨b, off, none⟩) l.length cap ∧ l.length ≤ cap ∧ Bytes w b off l

theorem BSlice.below {w w' : World} {v : Value} {l : L8} (h : BSlice w v l) (hb : Below w.heap.size w w') : BSlice w' v l := by
  rcases h with h | ⟨b, off, cap, h1, h2, h3⟩
  · exact Or.inl h
  · exact Or.inr ⟨b, off, cap, h1, h2, h3.below hb⟩

set_option maxRecDepth 100000 in
theorem marked_at (l : L8) (b off cap : Nat) (w : World) (hp : Bytes w b off l) (hl : l.length ≤ 9223372036854775807) :
    Calls Tryd.prog 23 #[.slice (some ⟨b, off, none⟩) l.length cap] w fun e w' => e = .returned (.bool (marked l)) ∧ w = w' := by
  by_cases h : 3 ≤ l.length
  · have c0 : w.cell? ⟨b, off, none⟩ = some (.int .u8 (l.getD 0 0).toNat) := hp 0 (by omega)
    have c0' : w.cell? ⟨b, off + (0 : Int).toNat, none⟩ = some (.int .u8 (l.getD 0 0).toNat) := hp 0 (by omega)
    have c1 : w.cell? ⟨b, off + (1 : Int).toNat, none⟩ = some (.int .u8 (l.getD 1 0).toNat) := hp 1 (by omega)
    have c2 : w.cell? ⟨b, off + (2 : Int).toNat, none⟩ = some (.int .u8 (l.getD 2 0).toNat) := hp 2 (by omega)
    have c1' : w.cell? ⟨b, off + 1, none⟩ = some (.int .u8 (l.getD 1 0).toNat) := hp 1 (by omega)
    have c2' : w.cell? ⟨b, off + 2, none⟩ = some (.int .u8 (l.getD 2 0).toNat) := hp 2 (by omega)
    have hm : Hid (marked l = (((l.getD 0 0).toNat : Int) == 239 && ((l.getD 1 0).toNat : Int) == 187 && ((l.getD 2 0).toNat : Int) == 191)) := Lib.hid (by
      unfold marked
      rw [decide_eq_true h, Bool.true_and]
      have e : ∀ (x y : UInt8), (x == y) = ((x.toNat : Int) == (y.toNat : Int)) := by
        intro x y; rw [Bool.eq_iff_iff, beq_iff_eq, beq_iff_eq, ← UInt8.toNat_inj]; omega
      rw [e, e, e]
      rfl)
    generalize ((l.getD 0 0).toNat : Int) = x at *
    generalize ((l.getD 1 0).toNat : Int) = y at *
    generalize ((l.getD 2 0).toNat : Int) = z at *
    cases q0 : (x == 239) <;> cases q1 : (y == 187) <;> cases q2 : (z == 191)
    all_goals (
      go_enter Tryd.func23, Tryd.ntmps23
      go_wp2
      go_ret
      exact ⟨ret_bool (by rw [hm.out, q0, q1, q2]; rfl), rfl⟩)
  · have hm : Hid (marked l = false) := Lib.hid (by unfold marked; simp [h])
    go_enter Tryd.func23, Tryd.ntmps23
    go_wp2
    go_ret
    exact ⟨ret_bool hm.out.symm, rfl⟩

theorem marked_nil (a : Option Addr) (cap : Nat) (w : World) :
    Calls Tryd.prog 23 #[.slice a 0 cap] w fun e w' => e = .returned (.bool (marked [])) ∧ w = w' := by
  go_enter Tryd.func23, Tryd.ntmps23
  go_wp2
  go_ret
  exact ⟨ret_bool rfl, rfl⟩

theorem marked_any (l : L8) (v : Value) (w : World) (h : BSlice w v l) (hl : l.length ≤ 9223372036854775807) :
    Calls Tryd.prog 23 #[v] w fun e w' => e = .returned (.bool (marked l)) ∧ w = w' := by
  rcases h with ⟨a, cap, rfl, rfl⟩ | ⟨b, off, cap, rfl, _, hp⟩
  · exact marked_nil a cap w
  · exact marked_at l b off cap w hp hl

end Go.Proofs.YtmnoiknpamfmoaaDoor
