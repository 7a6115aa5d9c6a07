/- The calendar in plain Lean: dates, days, weeks. No program in sight. -/
namespace TT
/-- a leap year, by the rule -/
def leapB (y : Int) : Bool := y % 4 == 0 && (y % 100 != 0 || y % 400 == 0)
/-- days of a year -/
def yd (y : Int) : Int := if y % 4 = 0 ∧ y ≠ 2100 then 366 else 365
/-- days of a month -/
def ml (y m : Int) : Int :=
  if m = 4 ∨ m = 6 ∨ m = 9 ∨ m = 11 then 30 else if m = 2 then (if y % 4 = 0 ∧ y ≠ 2100 then 29 else 28) else 31
/-- days before a year, from 2000 on -/
def dby (y : Int) : Int := 365 * (y - 2000) + (y - 1997) / 4
/-- days before a month of a year -/
def dbm (y m : Int) : Int :=
  if m ≤ 1 then 0 else
  (if m ≤ 2 then 31 else if m ≤ 3 then 59 else if m ≤ 4 then 90 else if m ≤ 5 then 120 else if m ≤ 6 then 151 else if m ≤ 7 then 181
   else if m ≤ 8 then 212 else if m ≤ 9 then 243 else if m ≤ 10 then 273 else if m ≤ 11 then 304 else if m ≤ 12 then 334 else 365)
  + (if 3 ≤ m ∧ y % 4 = 0 ∧ y ≠ 2100 then 1 else 0)
def okDate (y m d : Int) : Bool := decide (2000 ≤ y ∧ y ≤ 2099 ∧ 1 ≤ m ∧ m ≤ 12 ∧ 1 ≤ d ∧ d ≤ ml y m)
def dayN (y m d : Int) : Int := bif okDate y m d then d - 1 + dby y + dbm y m else 0
def dayE (y m d : Int) : Int := bif okDate y m d then 0 else 13
def okDay (n : Int) : Bool := decide (0 ≤ n ∧ n ≤ 36524)
/-- the year of a day from 1999 to 2100 -/
def yearOf (n : Int) : Int := if n < 0 then 1999 else if n ≥ 36525 then 2100 else 2000 + 4 * (n / 1461) + (if n % 1461 < 366 then 0 else 1 + (n % 1461 - 366) / 365)
def monthOf (n : Int) : Int :=
  let y := yearOf n
  let r := n - dby y
  if r < dbm y 2 then 1 else if r < dbm y 3 then 2 else if r < dbm y 4 then 3 else if r < dbm y 5 then 4 else if r < dbm y 6 then 5
  else if r < dbm y 7 then 6 else if r < dbm y 8 then 7 else if r < dbm y 9 then 8 else if r < dbm y 10 then 9 else if r < dbm y 11 then 10
  else if r < dbm y 12 then 11 else 12
def domOf (n : Int) : Int := n - dby (yearOf n) - dbm (yearOf n) (monthOf n) + 1
def wday (n : Int) : Int := bif okDay n then (n + 5) % 7 else -1
/-- the Thursday of the week of a day -/
def thu (n : Int) : Int := n - (n + 5) % 7 + 3
def wyear (n : Int) : Int := yearOf (thu n)
def weekOf (n : Int) : Int := (thu n - dby (wyear n)) / 7 + 1
/-- the Monday of the first week of a year -/
def fst (y : Int) : Int := dby y + 3 - (dby y + 428) % 7
def pY (n : Int) : Int := bif okDay n then yearOf n else 0
def pM (n : Int) : Int := bif okDay n then monthOf n else 0
def pD (n : Int) : Int := bif okDay n then domOf n else 0
def pE (n : Int) : Int := bif okDay n then 0 else 13
def wY (n : Int) : Int := bif okDay n then wyear n else 0
def wW (n : Int) : Int := bif okDay n then weekOf n else 0

theorem yd_pos (y : Int) : 365 ≤ yd y ∧ yd y ≤ 366 := by unfold yd; split <;> omega
theorem ml_bd (y m : Int) : 28 ≤ ml y m ∧ ml y m ≤ 31 := by unfold ml; repeat' split
                                                            all_goals omega
theorem dby_succ (y : Int) (h0 : 2000 ≤ y) (h : y ≤ 2099) : dby (y + 1) = dby y + yd y := by unfold dby yd; split <;> omega
theorem dby_bd (y : Int) (h0 : 2000 ≤ y) (h : y ≤ 2100) : 0 ≤ dby y ∧ dby y ≤ 36525 := by unfold dby; omega
theorem dby_2000 : dby 2000 = 0 := by decide
theorem dby_mono (a b : Int) (h : a ≤ b) : dby a ≤ dby b := by unfold dby; omega
theorem dbm_one (y : Int) : dbm y 1 = 0 := by simp [dbm]
theorem cases12 (m : Int) (h0 : 1 ≤ m) (h : m ≤ 12) : m = 1 ∨ m = 2 ∨ m = 3 ∨ m = 4 ∨ m = 5 ∨ m = 6 ∨ m = 7 ∨ m = 8 ∨ m = 9 ∨ m = 10 ∨ m = 11 ∨ m = 12 := by omega
theorem dbm_succ (y m : Int) (h0 : 1 ≤ m) (h : m ≤ 12) : dbm y (m + 1) = dbm y m + ml y m := by
  rcases cases12 m h0 h with rfl | rfl | rfl | rfl | rfl | rfl | rfl | rfl | rfl | rfl | rfl | rfl <;> simp [dbm, ml] <;> (try split) <;> omega
theorem dbm_bd (y m : Int) (h0 : 1 ≤ m) (h : m ≤ 13) : 0 ≤ dbm y m ∧ dbm y m ≤ 366 := by
  by_cases h13 : m = 13
  · subst h13; simp [dbm]; split <;> omega
  · rcases cases12 m h0 (by omega) with rfl | rfl | rfl | rfl | rfl | rfl | rfl | rfl | rfl | rfl | rfl | rfl <;> simp [dbm] <;> (try split) <;> omega
theorem dbm_13 (y : Int) : dbm y 13 = yd y := by
  unfold dbm yd; simp; split <;> omega
theorem yd_ml (y : Int) : yd y = 337 + ml y 2 := by unfold yd ml; simp; split <;> omega
theorem yearOf_eq (n y : Int) (h1 : 1999 ≤ y) (h2 : y ≤ 2100) (h3 : dby y ≤ n) (h4 : n < dby (y + 1)) (h5 : -365 ≤ n) (h6 : n ≤ 36530) : yearOf n = y := by
  unfold dby at h3 h4; unfold yearOf; split
  · omega
  · split
    · omega
    · split <;> omega
theorem yearOf_spec (n : Int) (h1 : 0 ≤ n) (h2 : n ≤ 36524) : 2000 ≤ yearOf n ∧ yearOf n ≤ 2099 ∧ dby (yearOf n) ≤ n ∧ n < dby (yearOf n) + yd (yearOf n) := by
  unfold yearOf dby yd
  rw [if_neg (by omega), if_neg (by omega)]
  split
  · split <;> omega
  · split <;> omega
theorem monthOf_eq (n y m : Int) (hy : yearOf n = y) (h0 : 1 ≤ m) (h : m ≤ 12) (h3 : dby y + dbm y m ≤ n) (h4 : n < dby y + dbm y m + ml y m) : monthOf n = m := by
  have hm := dbm_succ y m h0 h
  simp only [monthOf, hy]
  have mono : ∀ j : Int, 1 ≤ j → j ≤ 11 → dbm y j ≤ dbm y (j + 1) := fun j a b => by have := dbm_succ y j a (by omega); have := ml_bd y j; omega
  have t1 := mono 1 (by omega) (by omega)
  have t2 := mono 2 (by omega) (by omega)
  have t3 := mono 3 (by omega) (by omega)
  have t4 := mono 4 (by omega) (by omega)
  have t5 := mono 5 (by omega) (by omega)
  have t6 := mono 6 (by omega) (by omega)
  have t7 := mono 7 (by omega) (by omega)
  have t8 := mono 8 (by omega) (by omega)
  have t9 := mono 9 (by omega) (by omega)
  have t10 := mono 10 (by omega) (by omega)
  have t11 := mono 11 (by omega) (by omega)
  simp only [Int.reduceAdd] at t1 t2 t3 t4 t5 t6 t7 t8 t9 t10 t11
  rcases cases12 m h0 h with rfl | rfl | rfl | rfl | rfl | rfl | rfl | rfl | rfl | rfl | rfl | rfl <;> simp only [Int.reduceAdd] at hm
  all_goals
    generalize dbm y 2 = x2 at *
    generalize dbm y 3 = x3 at *
    generalize dbm y 4 = x4 at *
    generalize dbm y 5 = x5 at *
    generalize dbm y 6 = x6 at *
    generalize dbm y 7 = x7 at *
    generalize dbm y 8 = x8 at *
    generalize dbm y 9 = x9 at *
    generalize dbm y 10 = x10 at *
    generalize dbm y 11 = x11 at *
    generalize dbm y 12 = x12 at *
  all_goals
    repeat (first | rw [if_pos (by omega)] | rw [if_neg (by omega)])
theorem month_ex (y r : Int) (h0 : 0 ≤ r) (h : r < dbm y 13) : ∃ m : Int, 1 ≤ m ∧ m ≤ 12 ∧ dbm y m ≤ r ∧ r < dbm y m + ml y m := by
  have key : ∀ k : Nat, k ≤ 12 → r < dbm y (k + 1 : Int) → ∃ m : Int, 1 ≤ m ∧ m ≤ 12 ∧ dbm y m ≤ r ∧ r < dbm y m + ml y m := by
    intro k
    induction k with
    | zero => intro _ hr; have := dbm_one y; simp at hr; omega
    | succ k ih =>
      intro hk hr
      have e := dbm_succ y (k + 1) (by omega) (by omega)
      by_cases c : r < dbm y (k + 1 : Int)
      · exact ih (by omega) c
      · refine ⟨k + 1, by omega, by omega, by omega, ?_⟩
        have : ((k + 1 : Nat) : Int) + 1 = (k : Int) + 1 + 1 := by omega
        rw [this] at hr; omega
  exact key 12 (by omega) h
theorem monthOf_spec (n : Int) (h1 : 0 ≤ n) (h2 : n ≤ 36524) : 1 ≤ monthOf n ∧ monthOf n ≤ 12 ∧ dby (yearOf n) + dbm (yearOf n) (monthOf n) ≤ n ∧ n < dby (yearOf n) + dbm (yearOf n) (monthOf n) + ml (yearOf n) (monthOf n) := by
  obtain ⟨a, b, c, d⟩ := yearOf_spec n h1 h2
  rw [← dbm_13] at d
  obtain ⟨m, m1, m2, m3, m4⟩ := month_ex (yearOf n) (n - dby (yearOf n)) (by omega) (by omega)
  rw [monthOf_eq n _ m rfl m1 m2 (by omega) (by omega)]
  exact ⟨m1, m2, by omega, by omega⟩
theorem domOf_eq (n y m : Int) (hy : yearOf n = y) (hm : monthOf n = m) : domOf n = n - dby y - dbm y m + 1 := by unfold domOf; rw [hm, hy]
theorem okDay_of {n : Int} (h : okDay n = true) : 0 ≤ n ∧ n ≤ 36524 := by simpa [okDay] using h
theorem week_eq (n y r : Int) (h1 : 0 ≤ n) (h2 : n ≤ 36524) (hy : y = yearOf n) (hr : r = if n < fst y then y - 1 else if fst (y + 1) ≤ n then y + 1 else y) :
    r = wyear n ∧ (n - fst r) / 7 + 1 = weekOf n ∧ fst r ≤ n ∧ 1999 ≤ r ∧ r ≤ 2100 := by
  obtain ⟨a, b, c, d⟩ := yearOf_spec n h1 h2
  rw [← hy] at a b c d
  have hd := dby_succ y a b
  have hd0 : y ≥ 2001 → dby y = dby (y - 1) + yd (y - 1) := fun h => by have := dby_succ (y - 1) (by omega) (by omega); simpa using this
  have hd1 : dby 1999 = -365 := by decide
  have e1 := yd_pos y
  have e2 := yd_pos (y - 1)
  have ht : thu n = n - (n + 5) % 7 + 3 := rfl
  have hw : r = wyear n := by
    unfold wyear
    symm
    split at hr
    · subst hr; unfold fst dby at *; refine yearOf_eq _ _ (by omega) (by omega) ?_ ?_ (by omega) (by omega) <;> unfold dby <;> omega
    · split at hr
      · subst hr; unfold fst dby at *; refine yearOf_eq _ _ (by omega) (by omega) ?_ ?_ (by omega) (by omega) <;> unfold dby <;> omega
      · subst hr; unfold fst dby at *; refine yearOf_eq _ _ (by omega) (by omega) ?_ ?_ (by omega) (by omega) <;> unfold dby <;> omega
  have hb : 1999 ≤ r ∧ r ≤ 2100 := by split at hr <;> (try split at hr) <;> omega
  refine ⟨hw, ?_, ?_, hb.1, hb.2⟩
  · unfold weekOf; rw [← hw, ht]; unfold fst; clear hr hw hd0; generalize dby r = D; omega
  · clear hw hb
    split at hr
    · subst hr; unfold fst dby at *; omega
    · split at hr
      · subst hr; assumption
      · subst hr; omega
theorem dbm_le_yd (y m : Int) (m1 : 1 ≤ m) (m2 : m ≤ 12) : dbm y m + ml y m ≤ yd y := by
  have e := dbm_succ y m m1 m2
  have e13 := dbm_13 y
  have mono : ∀ k : Nat, k ≤ 12 → ∀ j : Int, j = 13 - k → 1 ≤ j → dbm y j ≤ dbm y 13 := by
    intro k
    induction k with
    | zero => intro _ j hj _; subst hj; simp
    | succ k ih =>
      intro hk j hj h1
      have := ih (by omega) (j + 1) (by omega) (by omega)
      have e2 := dbm_succ y j h1 (by omega)
      have := ml_bd y j
      omega
  have := mono (13 - (m + 1)).toNat (by omega) (m + 1) (by omega) (by omega)
  omega
theorem okDay_mk {n : Int} (h1 : 0 ≤ n) (h2 : n ≤ 36524) : okDay n = true := by simp [okDay]; omega
theorem dayN_back (n : Int) (h1 : 0 ≤ n) (h2 : n ≤ 36524) : dayN (pY n) (pM n) (pD n) = n ∧ dayE (pY n) (pM n) (pD n) = 0 := by
  obtain ⟨a, b, c, d⟩ := yearOf_spec n h1 h2
  obtain ⟨e, f, g, h⟩ := monthOf_spec n h1 h2
  have ok := okDay_mk h1 h2
  have hd : domOf n = n - dby (yearOf n) - dbm (yearOf n) (monthOf n) + 1 := rfl
  have o : okDate (yearOf n) (monthOf n) (domOf n) = true := by simp [okDate]; omega
  simp only [pY, pM, pD, ok, cond_true, dayN, dayE, o, and_true]
  omega
theorem next_date (n : Int) (h1 : 0 ≤ n) (h2 : n ≤ 36523) :
    (pY (n + 1) = pY n ∧ pM (n + 1) = pM n ∧ pD (n + 1) = pD n + 1) ∨ (pY (n + 1) = pY n ∧ pM (n + 1) = pM n + 1 ∧ pD (n + 1) = 1) ∨
    (pY (n + 1) = pY n + 1 ∧ pM (n + 1) = 1 ∧ pM n = 12 ∧ pD (n + 1) = 1) := by
  obtain ⟨a, b, c, d⟩ := yearOf_spec n h1 (by omega)
  obtain ⟨e, f, g, h⟩ := monthOf_spec n h1 (by omega)
  have ok := okDay_mk h1 (show n ≤ 36524 by omega)
  have ok1 := okDay_mk (show 0 ≤ n + 1 by omega) (show n + 1 ≤ 36524 by omega)
  have hd : domOf n = n - dby (yearOf n) - dbm (yearOf n) (monthOf n) + 1 := rfl
  have hs := dby_succ _ a b
  have hm := dbm_succ (yearOf n) _ e f
  have hy := dbm_le_yd (yearOf n) _ e f
  have d0 := dbm_bd (yearOf n) (monthOf n) e (by omega)
  simp only [pY, pM, pD, ok, ok1, cond_true]
  generalize yearOf n = y at *
  generalize monthOf n = m at *
  by_cases c1 : n + 1 < dby y + dbm y m + ml y m
  · have y' : yearOf (n + 1) = y := yearOf_eq _ y (by omega) (by omega) (by omega) (by omega) (by omega) (by omega)
    have m' : monthOf (n + 1) = m := monthOf_eq _ y m y' e f (by omega) c1
    left; exact ⟨y', m', by rw [domOf_eq _ y m y' m', hd]; omega⟩
  · by_cases c2 : m ≤ 11
    · have mb := ml_bd y (m + 1)
      have hy2 := dbm_le_yd y (m + 1) (by omega) (by omega)
      have y' : yearOf (n + 1) = y := yearOf_eq _ y (by omega) (by omega) (by omega) (by omega) (by omega) (by omega)
      have m' : monthOf (n + 1) = m + 1 := monthOf_eq _ y (m + 1) y' (by omega) (by omega) (by omega) (by omega)
      right; left; exact ⟨y', m', by rw [domOf_eq _ y (m + 1) y' m']; omega⟩
    · obtain rfl : m = 12 := by omega
      have e13 := dbm_13 y
      have yb : y ≤ 2098 := by
        by_cases q : y = 2099
        · subst q
          have h1' : dby 2099 = 36160 := by decide
          have h2' : yd 2099 = 365 := by decide
          simp only [Int.reduceAdd] at hm; omega
        · omega
      simp only [Int.reduceAdd] at hm
      have hs2 := dby_succ (y + 1) (by omega) (by omega)
      have yp := yd_pos (y + 1)
      have y' : yearOf (n + 1) = y + 1 := yearOf_eq _ (y + 1) (by omega) (by omega) (by omega) (by omega) (by omega) (by omega)
      have o1 := dbm_one (y + 1)
      have mb := ml_bd (y + 1) 1
      have m' : monthOf (n + 1) = 1 := monthOf_eq _ (y + 1) 1 y' (by omega) (by omega) (by omega) (by omega)
      right; right; exact ⟨y', m', rfl, by rw [domOf_eq _ (y + 1) 1 y' m']; omega⟩
theorem p_bd (n : Int) : 0 ≤ pY n ∧ pY n ≤ 2099 ∧ 0 ≤ pM n ∧ pM n ≤ 12 ∧ 0 ≤ pD n ∧ pD n ≤ 31 := by
  by_cases h : okDay n = true
  · obtain ⟨h1, h2⟩ := okDay_of h
    obtain ⟨a, b, c, d⟩ := yearOf_spec n h1 h2
    obtain ⟨e, f, g, i⟩ := monthOf_spec n h1 h2
    have hd : domOf n = n - dby (yearOf n) - dbm (yearOf n) (monthOf n) + 1 := rfl
    have := ml_bd (yearOf n) (monthOf n)
    simp only [pY, pM, pD, h, cond_true]; omega
  · simp [pY, pM, pD, h]
theorem yearOf_spec' (n : Int) (h1 : -3 ≤ n) (h2 : n ≤ 36527) : 1999 ≤ yearOf n ∧ yearOf n ≤ 2100 ∧ dby (yearOf n) ≤ n ∧ n < dby (yearOf n) + yd (yearOf n) := by
  by_cases a : n < 0
  · have : yearOf n = 1999 := by unfold yearOf; rw [if_pos a]
    rw [this]; simp [dby, yd]; omega
  · by_cases b : n ≤ 36524
    · have := yearOf_spec n (by omega) b; omega
    · have : yearOf n = 2100 := by unfold yearOf; rw [if_neg a, if_pos (by omega)]
      rw [this]; simp [dby, yd]; omega
theorem w_bd (n : Int) : 0 ≤ wY n ∧ wY n ≤ 2100 ∧ 0 ≤ wW n ∧ wW n ≤ 53 := by
  by_cases h : okDay n = true
  · obtain ⟨h1, h2⟩ := okDay_of h
    have t0 : thu n = n - (n + 5) % 7 + 3 := rfl
    obtain ⟨a, b, c, d⟩ := yearOf_spec' (thu n) (by omega) (by omega)
    have := yd_pos (yearOf (thu n))
    simp only [wY, wW, h, cond_true, wyear, weekOf]; omega
  · simp [wY, wW, h]
theorem wday_next (n : Int) (h1 : 0 ≤ n) (h2 : n ≤ 36523) : wday (n + 1) = (wday n + 1) % 7 ∧ 0 ≤ wday n ∧ wday n ≤ 6 := by
  have ok := okDay_mk h1 (show n ≤ 36524 by omega)
  have ok1 := okDay_mk (show 0 ≤ n + 1 by omega) (show n + 1 ≤ 36524 by omega)
  simp only [wday, ok, ok1, cond_true]; omega
theorem next_week (n : Int) (h1 : 0 ≤ n) (h2 : n ≤ 36523) :
    (wday (n + 1) ≠ 0 ∧ wY (n + 1) = wY n ∧ wW (n + 1) = wW n) ∨ (wday (n + 1) = 0 ∧ wY (n + 1) = wY n ∧ wW (n + 1) = wW n + 1) ∨
    (wday (n + 1) = 0 ∧ wY (n + 1) = wY n + 1 ∧ wW (n + 1) = 1 ∧ 52 ≤ wW n) := by
  have ok := okDay_mk h1 (show n ≤ 36524 by omega)
  have ok1 := okDay_mk (show 0 ≤ n + 1 by omega) (show n + 1 ≤ 36524 by omega)
  have hw : wday (n + 1) = (n + 1 + 5) % 7 := by simp [wday, ok1]
  have t0 : thu n = n - (n + 5) % 7 + 3 := rfl
  have t1 : thu (n + 1) = n + 1 - (n + 1 + 5) % 7 + 3 := rfl
  obtain ⟨a, b, c, d⟩ := yearOf_spec' (thu n) (by omega) (by omega)
  simp only [wY, wW, ok, ok1, cond_true, wyear, weekOf]
  by_cases e : wday (n + 1) = 0
  · have t2 : thu (n + 1) = thu n + 7 := by omega
    right
    rw [t2]
    by_cases f : thu n + 7 < dby (yearOf (thu n)) + yd (yearOf (thu n))
    · have y' : yearOf (thu n + 7) = yearOf (thu n) := by
        refine yearOf_eq _ _ a b (by omega) ?_ (by omega) (by omega)
        generalize yearOf (thu n) = y at *
        by_cases q : y = 2100
        · subst q; simp [dby]; simp [dby] at *; omega
        · by_cases q2 : y = 1999
          · subst q2; simp [dby]; simp [dby, yd] at *; omega
          · rw [dby_succ y (by omega) (by omega)]; omega
      left; rw [y']; exact ⟨e, rfl, by omega⟩
    · have yp := yd_pos (yearOf (thu n))
      generalize hy : yearOf (thu n) = y at *
      have yb : y ≤ 2099 := by
        by_cases q : y = 2100
        · subst q; simp [dby, yd] at *; omega
        · omega
      have hs : dby (y + 1) = dby y + yd y := by
        by_cases q2 : y = 1999
        · subst q2; decide
        · exact dby_succ y (by omega) yb
      have y' : yearOf (thu n + 7) = y + 1 := by
        refine yearOf_eq _ _ (by omega) (by omega) (by omega) ?_ (by omega) (by omega)
        by_cases q : y = 2099
        · subst q; simp [dby] at *; omega
        · rw [dby_succ (y + 1) (by omega) (by omega)]; have := yd_pos (y + 1); omega
      right; rw [y']; exact ⟨e, rfl, by omega, by omega⟩
  · have t2 : thu (n + 1) = thu n := by omega
    left; rw [t2]; exact ⟨e, rfl, rfl⟩
end TT
