import Derived.Test.YtgdgpniceaknbaaDoorProg
import Derived.Test.YtgdgpniceaknbaaDoorPlain
import Derived.WalkKit
import Derived.WalkSpells
import Derived.WalkLawsBesides
import Derived.Lib.Hide
import Derived.Deep.QuietTactic
import Derived.BigQuiet
namespace Go.Proofs.YtgdgpniceaknbaaDoor
open Go.RowKit TT

theorem ret_int {k : IntKind} {a b : Int} (h : a = b) : Ending.returned (.int k a) = .returned (.int k b) := by rw [h]
theorem ret_bool {a b : Bool} (h : a = b) : Ending.returned (.bool a) = .returned (.bool b) := by rw [h]

def lenAt (i : Nat) : Int := [31, 28, 31, 30, 31, 30, 31, 31, 30, 31, 30, 31].getD i 0
def Lens (w : World) : Prop := ∀ i : Nat, i < 12 → w.cell? ⟨0, i, none⟩ = some (.int .i64 (lenAt i))

theorem valid_any (d : Int) (w : World) :
    Calls Tryd.prog 37 #[.int .i64 d] w fun e w' => e = .returned (.bool (okDay d)) ∧ w = w' := by
  go_enter Tryd.func37, Tryd.ntmps37
  go_wp2
  all_goals go_ret
  all_goals exact ⟨ret_bool (by unfold okDay; simp; try omega), rfl⟩

theorem rvalid_any (d : Int) (w : World) :
    Calls Tryd.prog 38 #[.int .i64 d] w fun e w' => e = .returned (.bool (okDay d)) ∧ w = w' := by
  go_enter Tryd.func38, Tryd.ntmps38
  go_wp2
  all_goals go_ret
  all_goals exact ⟨ret_bool (by unfold okDay; simp; try omega), rfl⟩

def lp (y : Int) : Bool := y % 4 == 0 && y != 2100
theorem leap_any (y : Int) (h1 : 1999 ≤ y) (h2 : y ≤ 2101) (w : World) :
    Calls Tryd.prog 43 #[.int .i64 y] w fun e w' => e = .returned (.bool (lp y)) ∧ w = w' := by
  go_enter Tryd.func43, Tryd.ntmps43
  go_wp2
  all_goals go_ret
  all_goals exact ⟨ret_bool (by unfold lp; rw [Bool.eq_iff_iff]; simp [*]; try omega), rfl⟩

theorem days_any (y : Int) (h1 : 1999 ≤ y) (h2 : y ≤ 2101) (w : World) :
    Calls Tryd.prog 35 #[.int .i64 y] w fun e w' => e = .returned (.int .i64 (yd y)) ∧ w = w' := by
  go_enter Tryd.func35, Tryd.ntmps35
  go_wp2_with (go_at_call 43; refine (leap_any _ h1 h2 _).mono ?_; rintro e w' ⟨rfl, rfl⟩)
  all_goals go_ret
  all_goals exact ⟨ret_int (by unfold yd; simp_all [lp]), rfl⟩

theorem length_any (y m : Int) (h1 : 1999 ≤ y) (h2 : y ≤ 2101) (h3 : 1 ≤ m) (h4 : m ≤ 12) (w : World) (hl : Lens w) :
    Calls Tryd.prog 34 #[.int .i64 y, .int .i64 m] w fun e w' => e = .returned (.int .i64 (ml y m)) ∧ w = w' := by
  have c0 := hl 0 (by decide)
  have c1 := hl 1 (by decide)
  have c2 := hl 2 (by decide)
  have c3 := hl 3 (by decide)
  have c4 := hl 4 (by decide)
  have c5 := hl 5 (by decide)
  have c6 := hl 6 (by decide)
  have c7 := hl 7 (by decide)
  have c8 := hl 8 (by decide)
  have c9 := hl 9 (by decide)
  have c10 := hl 10 (by decide)
  have c11 := hl 11 (by decide)
  simp only [lenAt, List.getD_cons_zero, List.getD_cons_succ] at c0 c1 c2 c3 c4 c5 c6 c7 c8 c9 c10 c11
  clear hl
  rcases cases12 m h3 h4 with rfl | rfl | rfl | rfl | rfl | rfl | rfl | rfl | rfl | rfl | rfl | rfl <;> clear h3 h4
  all_goals
    go_enter Tryd.func34, Tryd.ntmps34
    go_wp2_with (go_at_call 43; refine (leap_any _ h1 h2 _).mono ?_; rintro e w' ⟨rfl, rfl⟩)
  all_goals go_ret
  all_goals exact ⟨ret_int (by unfold ml; simp_all [lp]), rfl⟩
theorem long_any (y m : Int) (h1 : 1999 ≤ y) (h2 : y ≤ 2101) (h3 : 1 ≤ m) (h4 : m ≤ 12) (w : World) :
    Calls Tryd.prog 36 #[.int .i64 y, .int .i64 m] w fun e w' => e = .returned (.int .i64 (ml y m)) ∧ w = w' := by
  rcases cases12 m h3 h4 with rfl | rfl | rfl | rfl | rfl | rfl | rfl | rfl | rfl | rfl | rfl | rfl <;> clear h3 h4
  all_goals
    go_enter Tryd.func36, Tryd.ntmps36
    go_wp2
  all_goals go_ret
  all_goals exact ⟨ret_int (by unfold ml; simp_all), rfl⟩
end Go.Proofs.YtgdgpniceaknbaaDoor
