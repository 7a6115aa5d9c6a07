/- Series in plain Lean: the text of a rule. No program in sight. -/
import Derived.Test.YtibigbfkokendaaGreatDoorP2
import Derived.Lib.Join
namespace TT
open Go
abbrev B8 := List UInt8
def two2 (n : Nat) : B8 := [UInt8.ofNat (48 + n / 10), UInt8.ofNat (48 + n % 10)]
/-- the two letters of a weekday -/
def nmL (w : Nat) : B8 := ([77, 79, 84, 85, 87, 69, 84, 72, 70, 82, 83, 65, 83, 85].drop (2 * w)).take 2
/-- the names of the weekdays of a set, below w -/
def byL (k : Int) : Nat → List B8
  | 0 => []
  | w + 1 => byL k w ++ (bif bitN k w then [nmL w] else [])
theorem byL_len (k : Int) (w : Nat) : (byL k w).length ≤ w := by
  induction w with
  | zero => simp [byL]
  | succ w ih => simp only [byL, List.length_append]; cases bitN k w <;> simp <;> omega
/-- the names, parted by commas -/
def bysL (k : Int) : B8 := Lib.join (byL k 7) [44]
/-- a date -/
def datL (l : Int) : B8 := [50, 48] ++ two2 (pY l - 2000).toNat ++ two2 (pM l).toNat ++ two2 (pD l).toNat
def preL : B8 := [70, 82, 69, 81, 61, 87, 69, 69, 75, 76, 89, 59, 73, 78, 84, 69, 82, 86, 65, 76, 61]
def bydL : B8 := [59, 66, 89, 68, 65, 89, 61]
def untL : B8 := [59, 85, 78, 84, 73, 76, 61]
/-- the text of a rule -/
def ruleL (e : Nat) (k l : Int) : B8 := preL ++ [UInt8.ofNat (48 + e)] ++ bydL ++ bysL k ++ untL ++ datL l
theorem nmL_len : ∀ w : Fin 7, (nmL w.val).length = 2 := by decide
theorem byL_mem {k : Int} : ∀ {w : Nat}, w ≤ 7 → ∀ x ∈ byL k w, x.length = 2
  | 0, _, x, hx => by cases hx
  | w + 1, h, x, hx => by
    simp only [byL, List.mem_append] at hx
    rcases hx with hx | hx
    · exact byL_mem (by omega) x hx
    · cases hb : bitN k w <;> rw [hb] at hx <;> simp at hx
      subst hx; exact nmL_len ⟨w, by omega⟩
theorem tail_len : ∀ (xs : List B8), (∀ x ∈ xs, x.length = 2) → (Lib.joinTail [44] xs).length = 3 * xs.length
  | [], _ => rfl
  | x :: r, h => by
    have ih := tail_len r (fun z hz => h z (List.mem_cons_of_mem _ hz))
    have hx := h x (by simp)
    unfold Lib.joinTail at ih ⊢
    simp only [List.map_cons, List.flatten_cons, List.length_append, List.length_cons, List.length_nil] at ih ⊢
    omega
theorem join_len (xs : List B8) (h : ∀ x ∈ xs, x.length = 2) : (Lib.join xs [44]).length ≤ 3 * xs.length := by
  cases xs with
  | nil => simp [Lib.join_nil]
  | cons x r =>
    have ih := tail_len r (fun z hz => h z (List.mem_cons_of_mem _ hz))
    have hx := h x (by simp)
    rw [Lib.join_cons, List.length_append, ih, hx, List.length_cons]; omega
theorem bysL_len (k : Int) : (bysL k).length ≤ 21 := by
  have h1 := join_len (byL k 7) (byL_mem (by omega))
  have h2 := byL_len k 7
  unfold bysL; omega
theorem datL_len (l : Int) : (datL l).length = 8 := rfl
end TT
