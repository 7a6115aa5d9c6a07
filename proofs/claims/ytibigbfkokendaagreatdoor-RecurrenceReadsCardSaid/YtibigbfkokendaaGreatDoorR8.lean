/- Series: the days of a series, of the program. -/
import Derived.Test.YtibigbfkokendaaGreatDoorR7
import Derived.Test.YtibigbfkokendaaGreatDoorShelf
import Derived.Sort.OwnSortedInts
namespace Go.Proofs.YtibigbfkokendaaGreatDoor
open Go.RowKit Go.Shelf Go.Sort TT
attribute [local go_sem] Oper.semAt_some

theorem contains_any (hs : List Int) (a : Option Addr) (n c : Nat) (d : Int) (w : World) (hI : IntsAt w a n hs) :
    Calls Tryz.prog 40 #[.slice a n c, .int .i64 d] w fun e w' => e = .returned (.bool (hasI hs d)) ∧ w = w' := by
  obtain ⟨h1, h2, h3⟩ := hI
  subst h1
  rcases h3 with h0 | ⟨b, off, rfl, hc⟩
  · have : hs = [] := List.eq_nil_of_length_eq_zero h0
    subst this
    refine (Tryz.slices_Contains_int_empty a c d w).mono ?_
    rintro e w' ⟨rfl, rfl⟩
    exact ⟨ret_bool (by simp [hasI]), rfl⟩
  · refine (Tryz.slices_Contains_int b off hs.length c hs d w (Nat.le_refl _) h2 hc).mono ?_
    rintro e w' ⟨rfl, rfl⟩
    exact ⟨ret_bool (by rw [List.take_length, Bool.eq_iff_iff]; simp [hasI]), rfl⟩

theorem clone_any (ys : List Int) (b : Option Addr) (m q : Nat) (w : World) (hI : IntsAt w b m ys) (hbig : m * 8 ≤ 140737488355328) :
    Calls Tryz.prog 38 #[.slice b m q] w fun e w' => ∃ a' c', e = .returned (.slice a' m c') ∧ Row w' w.heap.size (.slice a' m c') ys ∧ Below w.heap.size w w' := by
  have key : ∀ {w' : World} {v : Value} {xs : List Int}, xs.length = m → w'.ownsRow w.heap.size 3 1 v m (xs.map (Value.int .i64)) → ∃ a' c', v = .slice a' m c' ∧ Row w' w.heap.size (.slice a' m c') xs := by
    intro w' v xs hx h
    subst hx
    obtain ⟨a', c', rfl, _⟩ := IntsAt.of_owns (L := xs) h
    exact ⟨a', c', rfl, h⟩
  obtain ⟨h1, h2, h3⟩ := hI
  rcases h3 with h0 | ⟨b, off, rfl, hc⟩
  · subst h0
    have : ys = [] := List.eq_nil_of_length_eq_zero h1
    subst this
    cases b with
    | none =>
      refine (Tryz.slices_Clone_int_nil 0 q w).mono ?_
      rintro e w' ⟨rfl, rfl⟩
      exact ⟨none, 0, rfl, World.ownsRow_nil _ _ _ _, Below.refl _ _⟩
    | some ad =>
      refine (Tryz.slices_Clone_int_zero ad q w).mono ?_
      rintro e w' ⟨v', rfl, hown, _, hb⟩
      obtain ⟨a', c', rfl, hr⟩ := key (xs := []) rfl hown
      exact ⟨a', c', rfl, hr, hb⟩
  · subst h1
    refine (Tryz.slices_Clone_int b off ys.length q ys w (Nat.le_refl _) hbig hc).mono ?_
    rintro e w' ⟨v', rfl, hown, _, hb⟩
    rw [List.take_length] at hown
    obtain ⟨a', c', rfl, hr⟩ := key rfl hown
    exact ⟨a', c', rfl, hr, hb⟩

theorem row_shape {w : World} {B : Nat} {v : Value} {L : List Int} (h : Row w B v L) : ∃ a c, v = .slice a L.length c := by
  obtain ⟨a, c, h1, _⟩ := IntsAt.of_owns h
  exact ⟨a, c, h1⟩

/-- the library's sort on a slice of the call's own -/
theorem sort_any (B : Nat) (a : Option Addr) (c : Nat) (L : List Int) (w : World) (h : Row w B (.slice a L.length c) L) (hsz : L.length < 4611686018427387904) :
    Calls Tryz.prog 41 #[.slice a L.length c] w fun e w' => e = .returned (.tuple #[]) ∧ Row w' B (.slice a L.length c) (L.mergeSort fun x y => decide (x ≤ y)) ∧ w.grownBy w' (Value.slice a L.length c).ownBlock := by
  by_cases h0 : L.length = 0
  · have : L = [] := List.eq_nil_of_length_eq_zero h0
    subst this
    refine (Tryz.slices_Sort_int_none a c w).mono ?_
    rintro e w' ⟨rfl, rfl⟩
    exact ⟨rfl, by rw [List.mergeSort_nil]; exact h, ⟨rfl, rfl, rfl, Nat.le_refl _, fun _ _ _ => rfl⟩⟩
  · rcases h.2 with ⟨_, hn⟩ | ⟨g, cap, cur, hv, hg, hb, h1, h2, h3, h4⟩
    · exact absurd hn h0
    · simp only [Value.slice.injEq] at hv
      obtain ⟨rfl, _, rfl⟩ := hv
      have hH : Holds (Value.int .i64) w g 0 L.toArray := holds_of_blockI hb (by simpa using h4)
      refine (Tryz.slices_Sort_int g 0 c L w hH (Array.getElem?_eq_some_iff.1 hb).1 hsz).mono ?_
      rintro e w' ⟨rfl, nn, os, rfl⟩
      refine ⟨rfl, ?_, grownBy_sortedI _⟩
      have hl : (L.mergeSort fun x y => decide (x ≤ y)).length = L.length := by simp
      have := ownsRow_sortedI (base := B) (n := nn) (os := os) (ss := L) (ts := L.mergeSort fun x y => decide (x ≤ y)) hl hg hb h1 h2 h3
      show World.ownsRow _ _ _ _ _ _ _
      rw [hl]; exact this

theorem sorted_ms (L : List Int) : (L.mergeSort fun x y => decide (x ≤ y)).Pairwise (· ≤ ·) := by
  have := List.pairwise_mergeSort (le := fun x y : Int => decide (x ≤ y)) (fun a b c h1 h2 => by simp at *; omega) (fun a b => by simp; omega) L
  exact List.Pairwise.imp (fun h => by simpa using h) this
/-- what is sorted at the end are the days -/
theorem days_fin {f l e k : Int} {xs ys : List Int} (h : vlE f l e k xs ys = 0) :
    ((ys ++ ((dayR f l).filter (regB f l e k)).filter (fun d => !(hasI xs d))).mergeSort fun x y => decide (x ≤ y)) = daysS f l e k xs ys := by
  refine days_sort h ?_ (sorted_ms _)
  have e : ((dayR f l).filter (regB f l e k)).filter (fun d => !(hasI xs d)) = daysR f l e k xs := by
    rw [List.filter_filter]; unfold daysR
    exact List.filter_congr fun d _ => by rw [Bool.and_comm]
  rw [← e]; exact List.mergeSort_perm _ _

end Go.Proofs.YtibigbfkokendaaGreatDoor
