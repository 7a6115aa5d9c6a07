/- Series: a number on a list, equal lists, equal series, how many exceptions. -/
import Derived.Test.YtibigbfkokendaaGreatDoorR4
namespace Go.Proofs.YtibigbfkokendaaGreatDoor
open Go.RowKit TT

theorem hasI_at {hs : List Int} {j : Nat} {d : Int} (hj : j < hs.length) (h : hs.getD j 0 = d) : hasI hs d = true := by
  rw [List.getD_eq_getElem?_getD, List.getElem?_eq_getElem hj] at h
  simp only [hasI, decide_eq_true_eq]; exact h ▸ List.getElem_mem hj
theorem hasI_none {hs : List Int} {d : Int} (h : ∀ j, j < hs.length → hs.getD j 0 ≠ d) : hasI hs d = false := by
  simp only [hasI, decide_eq_false_iff_not]; intro hm
  obtain ⟨i, hi, e⟩ := List.mem_iff_getElem.1 hm
  exact h i hi (by rw [List.getD_eq_getElem?_getD, List.getElem?_eq_getElem hi]; exact e)

theorem valid_any (f l e k : Int) (a : Option Addr) (n c : Nat) (b : Option Addr) (m q : Nat) (xs ys : List Int) (w : World) (hx : IntsAt w a n xs) (hy : IntsAt w b m ys) (hs : n + m ≤ 9223372036854775807) :
    Calls Tryz.prog 21 #[serV f l e k a n c b m q] w (RetB (.int .i64 (vlE f l e k xs ys)) w) := by
  by_cases h : vl0 f l e k (xs.length + ys.length) = 0
  · exact validB f l e k a n c b m q xs ys w hx hy h
  · exact validA f l e k a n c b m q xs ys w hx hy hs h
theorem rvalid_any (f l e k : Int) (a : Option Addr) (n c : Nat) (b : Option Addr) (m q : Nat) (xs ys : List Int) (w : World) (hx : IntsAt w a n xs) (hy : IntsAt w b m ys) (hs : n + m ≤ 9223372036854775807) :
    Calls Tryz.prog 26 #[serV f l e k a n c b m q] w (RetB (.int .i64 (vlE f l e k xs ys)) w) := by
  by_cases h : vl0 f l e k (xs.length + ys.length) = 0
  · exact rvalidB f l e k a n c b m q xs ys w hx hy h
  · exact rvalidA f l e k a n c b m q xs ys w hx hy hs h

end Go.Proofs.YtibigbfkokendaaGreatDoor
