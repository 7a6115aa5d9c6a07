/- The places of a term's days, in plain Lean. -/
import Derived.Test.YtgdgpniceaknbaaDoorPlain2
namespace TT
def cnt (hs : List Int) (x : Int) : Nat := (hs.filter (fun h => decide (h < x))).length
theorem cnt_le (hs : List Int) (x : Int) : cnt hs x ≤ hs.length := List.length_filter_le _ _
theorem cnt_low {hs : List Int} {x : Int} (h : ∀ y ∈ hs, x ≤ y) : cnt hs x = 0 := by
  unfold cnt
  rw [List.length_eq_zero_iff, List.filter_eq_nil_iff]
  intro y hy; have := h y hy; simp; omega
theorem cnt_high {hs : List Int} {x : Int} (h : ∀ y ∈ hs, y < x) : cnt hs x = hs.length := by
  unfold cnt
  rw [List.filter_eq_self.2 (fun y hy => by have := h y hy; simpa using this)]
theorem cnt_step : ∀ {hs : List Int} (x : Int), List.Pairwise (· < ·) hs → cnt hs (x + 1) = cnt hs x + (bif hasI hs x then 1 else 0)
  | [], x, _ => by simp [cnt, hasI]
  | h :: r, x, hp => by
    obtain ⟨h1, h2⟩ := List.pairwise_cons.1 hp
    have ih := cnt_step (hs := r) x h2
    have hc : ∀ y, cnt (h :: r) y = (if h < y then 1 else 0) + cnt r y := fun y => by
      unfold cnt
      by_cases c : h < y
      · simp [c]; omega
      · simp [c]
    rw [hc, hc, ih]
    by_cases c : h = x
    · subst c
      have e1 : hasI (h :: r) h = true := by simp [hasI]
      have e2 : hasI r h = false := by
        simp only [hasI, decide_eq_false_iff_not]; intro hm; have := h1 h hm; omega
      rw [e1, e2, if_pos (by omega), if_neg (by omega)]; simp only [cond_true, cond_false]; omega
    · have e1 : hasI (h :: r) x = hasI r x := by
        unfold hasI; simp only [List.mem_cons]
        by_cases d : x ∈ r
        · simp [d]
        · simp [d]; omega
      rw [e1]
      have : (if h < x + 1 then 1 else 0) = (if h < x then 1 else 0) := by
        by_cases d : h < x
        · rw [if_pos d, if_pos (by omega)]
        · rw [if_neg d, if_neg (by omega)]
      rw [this]; omega

/-- a day of a valid term, by its week and weekday -/
theorem place_eq {f k : Int} {hs : List Int} {w d : Int} (ht : termE f k hs = 0) (w1 : 1 ≤ w) (w2 : w ≤ k) (d1 : 0 ≤ d) (d2 : d ≤ 6) :
    atB f k hs w d = (!hasI hs (f + 7 * (w - 1) + d)) := by simp [atB, ht, w1, w2, d1, d2]
theorem place_where {f k : Int} {hs : List Int} {w d : Int} (ht : termE f k hs = 0) (w1 : 1 ≤ w) (w2 : w ≤ k) (d1 : 0 ≤ d) (d2 : d ≤ 6) (h : hasI hs (f + 7 * (w - 1) + d) = false) :
    atV f k hs w d = f + 7 * (w - 1) + d ∧ whB f k hs (f + 7 * (w - 1) + d) = true ∧ whW f k hs (f + 7 * (w - 1) + d) = w ∧ whD f k hs (f + 7 * (w - 1) + d) = d ∧ wday (f + 7 * (w - 1) + d) = d := by
  obtain ⟨_, z1, z2, z3, z4, _, z5, _, _, z6⟩ := termE_zero ht
  have hb : atB f k hs w d = true := by rw [place_eq ht w1 w2 d1 d2, h]; rfl
  have hl : lastD f k = f + 7 * k - 1 := rfl
  have hw : whB f k hs (f + 7 * (w - 1) + d) = true := by
    simp only [whB, h, Bool.not_false, Bool.and_true, decide_eq_true_eq]
    exact ⟨ht, by omega, by omega⟩
  have hd : wday (f + 7 * (w - 1) + d) = d := by rw [wday_rel z6 (by omega) z1 (by omega)]; omega
  refine ⟨by simp [atV, hb], hw, ?_, ?_, hd⟩
  · simp only [whW, hw, cond_true]; omega
  · simp only [whD, hw, cond_true]; exact hd

/-- what the days of a set of weeks are -/
def DayOk (f k : Int) (hs : List Int) (ws wd : Int) (m : Nat) (x : Int) : Prop := ∃ j : Nat, j < m ∧ bitT ws j = true ∧ atB f k hs (j + 1) wd = true ∧ x = f + 7 * j + wd
theorem daysL_spec (f k : Int) (hs : List Int) (ws wd : Int) : ∀ m : Nat, (∀ x ∈ daysL f k hs ws wd m, DayOk f k hs ws wd m x) ∧ List.Pairwise (· < ·) (daysL f k hs ws wd m) ∧ ((daysL f k hs ws wd m).length : Int) ≤ max k 0
  | 0 => ⟨(fun x hx => by simp [daysL] at hx), List.Pairwise.nil, by simp [daysL]; omega⟩
  | m + 1 => by
    obtain ⟨h1, h2, h3⟩ := daysL_spec f k hs ws wd m
    have hl := daysL_len f k hs ws wd m
    by_cases c : bitT ws m = true ∧ atB f k hs (m + 1) wd = true
    · have hV : atV f k hs (m + 1) wd = f + 7 * m + wd := by simp only [atV, c.2, cond_true]; omega
      rw [daysL_hit c.1 c.2, hV]
      refine ⟨fun x hx => ?_, ?_, ?_⟩
      · rcases List.mem_append.1 hx with hx | hx
        · obtain ⟨j, a, b⟩ := h1 x hx; exact ⟨j, by omega, b⟩
        · simp at hx; exact ⟨m, by omega, c.1, c.2, hx⟩
      · rw [List.pairwise_append]
        refine ⟨h2, by simp, fun x hx y hy => ?_⟩
        simp at hy; subst hy
        obtain ⟨j, a, _, _, e⟩ := h1 x hx
        omega
      · have hk : (m : Int) + 1 ≤ k := by
          have := c.2; simp only [atB, Bool.and_eq_true, decide_eq_true_eq] at this; omega
        simp; omega
    · have hm : daysL f k hs ws wd (m + 1) = daysL f k hs ws wd m := daysL_miss (by
        by_cases d : bitT ws m = true
        · right
          by_cases e : atB f k hs (m + 1) wd = true
          · exact absurd ⟨d, e⟩ c
          · simpa using e
        · left; simpa using d)
      rw [hm]
      exact ⟨fun x hx => by obtain ⟨j, a, b⟩ := h1 x hx; exact ⟨j, by omega, b⟩, h2, h3⟩
theorem getD_lt_of_pairwise {l : List Int} (h : List.Pairwise (· < ·) l) {i : Nat} (h0 : 0 < i) (hi : i < l.length) : l.getD (i - 1) 0 < l.getD i 0 := by
  have e1 : l.getD (i - 1) 0 = l[i - 1] := by simp [show i - 1 < l.length by omega]
  have e2 : l.getD i 0 = l[i] := by simp [hi]
  rw [e1, e2]
  exact List.pairwise_iff_getElem.1 h (i - 1) i (by omega) hi (by omega)
theorem day_where {f k : Int} {hs : List Int} {ws wd : Int} {m : Nat} {x : Int} (hm : m ≤ 20) (h : DayOk f k hs ws wd m x) :
    ∃ j : Nat, j < 20 ∧ bitT ws j = true ∧ whB f k hs x = true ∧ whW f k hs x = j + 1 := by
  obtain ⟨j, a, b, c, e⟩ := h
  have c' := c
  simp only [atB, Bool.and_eq_true, decide_eq_true_eq, Bool.not_eq_true'] at c'
  obtain ⟨⟨ht, w1, w2, d1, d2⟩, hh⟩ := c'
  have hx : f + 7 * ((j : Int) + 1 - 1) + wd = x := by omega
  obtain ⟨_, p2, p3, _, _⟩ := place_where ht w1 w2 d1 d2 hh
  rw [hx] at p2 p3
  exact ⟨j, by omega, b, p2, p3⟩
end TT
