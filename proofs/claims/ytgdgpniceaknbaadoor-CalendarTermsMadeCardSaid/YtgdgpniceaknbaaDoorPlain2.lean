import Derived.Test.YtgdgpniceaknbaaDoorPlain
/- Terms in plain Lean. -/
namespace TT
def lastD (f k : Int) : Int := f + 7 * k - 1
def holE (f l : Int) : Option Int → List Int → Int
  | _, [] => 0
  | p, h :: r => if h < f ∨ l < h then 13 else if p.any (fun q => decide (h ≤ q)) = true then 11 else holE f l (some h) r
def termE (f k : Int) (hs : List Int) : Int :=
  if wday f ≠ 0 then 13 else if k < 1 ∨ 20 < k then 3 else if okDay (lastD f k) = false then 13 else if 64 < hs.length then 2 else holE f (lastD f k) none hs
def pv (hs : List Int) (i : Nat) : Option Int := if i = 0 then none else some (hs.getD (i - 1) 0)
theorem holE_step (f l : Int) (hs : List Int) (i : Nat) (hi : i < hs.length) :
    holE f l (pv hs i) (hs.drop i) = if hs.getD i 0 < f ∨ l < hs.getD i 0 then 13 else if 0 < i ∧ hs.getD i 0 ≤ hs.getD (i - 1) 0 then 11 else holE f l (pv hs (i + 1)) (hs.drop (i + 1)) := by
  rw [List.drop_eq_getElem_cons hi]
  have hg : hs.getD i 0 = hs[i] := by simp [hi]
  rw [hg, holE]
  have hp : ((pv hs i).any (fun q => decide (hs[i] ≤ q)) = true) ↔ (0 < i ∧ hs[i] ≤ hs.getD (i - 1) 0) := by
    unfold pv; split <;> simp <;> omega
  simp only [hp]
  have : pv hs (i + 1) = some hs[i] := by unfold pv; simp [hi]
  rw [this]
theorem holE_end (f l : Int) (hs : List Int) : holE f l (pv hs hs.length) (hs.drop hs.length) = 0 := by simp [holE]
theorem holE_start (f l : Int) (hs : List Int) : holE f l (pv hs 0) (hs.drop 0) = holE f l none hs := by simp [pv]
end TT
namespace TT
def hasI (hs : List Int) (d : Int) : Bool := decide (d ∈ hs)
def atB (f k : Int) (hs : List Int) (week wd : Int) : Bool :=
  decide (termE f k hs = 0 ∧ 1 ≤ week ∧ week ≤ k ∧ 0 ≤ wd ∧ wd ≤ 6) && !(hasI hs (f + 7 * (week - 1) + wd))
def atV (f k : Int) (hs : List Int) (week wd : Int) : Int := bif atB f k hs week wd then f + 7 * (week - 1) + wd else 0
def whB (f k : Int) (hs : List Int) (d : Int) : Bool := decide (termE f k hs = 0 ∧ f ≤ d ∧ d ≤ lastD f k) && !(hasI hs d)
def whW (f k : Int) (hs : List Int) (d : Int) : Int := bif whB f k hs d then (d - f) / 7 + 1 else 0
def whD (f k : Int) (hs : List Int) (d : Int) : Int := bif whB f k hs d then wday d else 0
theorem termE_zero {f k : Int} {hs : List Int} (h : termE f k hs = 0) : wday f = 0 ∧ 0 ≤ f ∧ f ≤ 36524 ∧ 1 ≤ k ∧ k ≤ 20 ∧ 0 ≤ lastD f k ∧ lastD f k ≤ 36524 ∧ hs.length ≤ 64 ∧ holE f (lastD f k) none hs = 0 ∧ f % 7 = 2 := by
  unfold termE at h
  by_cases c1 : wday f = 0
  · simp only [c1, ne_eq, not_true_eq_false, if_false] at h
    split at h
    · omega
    · split at h
      · omega
      · split at h
        · omega
        · rename_i a b c
          have ok := okDay_of (show okDay (lastD f k) = true by simpa using b)
          have ok2 : okDay f = true := by
            by_cases c : okDay f = true
            · exact c
            · simp [wday, c] at c1
          have ok3 := okDay_of ok2
          have : (f + 5) % 7 = 0 := by simpa [wday, ok2] using c1
          exact ⟨c1, by omega, by omega, by omega, by omega, ok.1, ok.2, by omega, h, by omega⟩
  · simp [c1] at h
theorem wday_rel {f d : Int} (h : f % 7 = 2) (h1 : f ≤ d) (h0 : 0 ≤ f) (h2 : d ≤ 36524) : wday d = (d - f) % 7 := by
  have ok := okDay_mk (show 0 ≤ d by omega) h2
  simp only [wday, ok, cond_true]; omega
theorem contains_take_succ (hs : List Int) (j : Nat) (hj : j < hs.length) (d : Int) : hasI (hs.take (j + 1)) d = (hasI (hs.take j) d || hs.getD j 0 == d) := by
  have hg : hs.getD j 0 = hs[j] := by simp [hj]
  rw [List.take_succ_eq_append_getElem hj, hg, Bool.eq_iff_iff]
  unfold hasI
  simp only [List.mem_append, List.mem_singleton, decide_eq_true_eq, Bool.or_eq_true, beq_iff_eq]
  constructor
  · rintro (h | h)
    · exact Or.inl h
    · exact Or.inr h.symm
  · rintro (h | h)
    · exact Or.inl h
    · exact Or.inr h.symm
theorem contains_of_get (hs : List Int) (j : Nat) (hj : j < hs.length) (d : Int) (h : hs.getD j 0 = d) : hasI hs d = true := by
  have hg : hs.getD j 0 = hs[j] := by simp [hj]
  rw [hg] at h
  simp only [hasI, decide_eq_true_eq]
  exact h ▸ List.getElem_mem hj
theorem hasI_nil (d : Int) : hasI [] d = false := by simp [hasI]
end TT
namespace TT
/-- a bit of a set of weeks -/
def bitT (ws : Int) (j : Nat) : Bool := decide (0 ≤ ws ∧ ws / 2 ^ j % 2 = 1)
/-- the days of the first m weeks -/
def daysL (f k : Int) (hs : List Int) (ws wd : Int) : Nat → List Int
  | 0 => []
  | m + 1 => daysL f k hs ws wd m ++ (bif bitT ws m && atB f k hs (m + 1) wd then [atV f k hs (m + 1) wd] else [])
theorem daysL_len (f k : Int) (hs : List Int) (ws wd : Int) (m : Nat) : (daysL f k hs ws wd m).length ≤ m := by
  induction m with
  | zero => simp [daysL]
  | succ m ih => simp only [daysL, List.length_append]; cases bitT ws m && atB f k hs (m + 1) wd <;> simp <;> omega
theorem daysL_hit {f k : Int} {hs : List Int} {ws wd : Int} {m : Nat} (h1 : bitT ws m = true) (h2 : atB f k hs (m + 1) wd = true) : daysL f k hs ws wd (m + 1) = daysL f k hs ws wd m ++ [atV f k hs (m + 1) wd] := by
  simp [daysL, h1, h2]
theorem daysL_miss {f k : Int} {hs : List Int} {ws wd : Int} {m : Nat} (h : bitT ws m = false ∨ atB f k hs (m + 1) wd = false) : daysL f k hs ws wd (m + 1) = daysL f k hs ws wd m := by
  rcases h with h | h <;> simp [daysL, h]
end TT
namespace TT
theorem daysL_neg (f k : Int) (hs : List Int) (ws wd : Int) (h : ws < 0) (m : Nat) : daysL f k hs ws wd m = [] := by
  induction m with
  | zero => rfl
  | succ m ih => rw [daysL_miss (Or.inl (by simp [bitT]; omega)), ih]
/-- equality of lists, as a Bool that does not unfold -/
def sameI (a b : List Int) : Bool := decide (a = b)
theorem sameI_refl (a : List Int) : sameI a a = true := by simp [sameI]
theorem sameI_len {a b : List Int} (h : a.length ≠ b.length) : sameI a b = false := by
  simp only [sameI, decide_eq_false_iff_not]; intro e; exact h (by rw [e])
theorem sameI_ne {a b : List Int} {i : Nat} (h : a.getD i 0 ≠ b.getD i 0) : sameI a b = false := by
  simp only [sameI, decide_eq_false_iff_not]; intro e; exact h (by rw [e])
theorem sameI_all {a b : List Int} (h : a.length = b.length) (hh : ∀ i, i < a.length → a.getD i 0 = b.getD i 0) : sameI a b = true := by
  simp only [sameI, decide_eq_true_eq]
  apply List.ext_getElem h
  intro i h1 h2
  have := hh i h1
  simpa [h1, h2] using this
end TT
namespace TT
/-- holidays that are in order and in their term -/
def okHol (f l : Int) (hs : List Int) : Prop := List.Pairwise (· < ·) hs ∧ ∀ h ∈ hs, f ≤ h ∧ h ≤ l
theorem holE_ok (f l : Int) : ∀ (hs : List Int) (p : Option Int), (∀ q, p = some q → ∀ h ∈ hs, q < h) → okHol f l hs → holE f l p hs = 0
  | [], _, _, _ => rfl
  | h :: r, p, hp, ⟨h1, h2⟩ => by
    have hb := h2 h (by simp)
    have hc := List.pairwise_cons.1 h1
    have hany : ¬ (p.any (fun q => decide (h ≤ q)) = true) := by
      cases p with
      | none => simp
      | some q => have := hp q rfl h (by simp); simp; omega
    rw [holE, if_neg (by omega), if_neg hany]
    refine holE_ok f l r (some h) (fun q hq x hx => ?_) ⟨hc.2, fun x hx => h2 x (by simp [hx])⟩
    cases hq; exact hc.1 x hx
theorem okHol_snoc {f l d : Int} {hs : List Int} (h : okHol f l hs) (h1 : f ≤ d) (h2 : d ≤ l) (h3 : ∀ x ∈ hs, x < d) : okHol f l (hs ++ [d]) := by
  obtain ⟨a, b⟩ := h
  refine ⟨?_, ?_⟩
  · rw [List.pairwise_append]
    exact ⟨a, by simp, fun x hx y hy => by simp at hy; subst hy; exact h3 x hx⟩
  · intro x hx
    rcases List.mem_append.1 hx with hx | hx
    · exact b x hx
    · simp at hx; subst hx; exact ⟨h1, h2⟩
theorem okHol_nil (f l : Int) : okHol f l [] := ⟨List.Pairwise.nil, fun _ h => by cases h⟩
theorem termE_made {r k : Int} {hs : List Int} (h0 : 0 ≤ r) (h1 : r < 5000) (h2 : 1 ≤ k) (h3 : k ≤ 8) (hl : hs.length ≤ 5) (hh : okHol (2 + 7 * r) (lastD (2 + 7 * r) k) hs) : termE (2 + 7 * r) k hs = 0 := by
  have ok1 : okDay (2 + 7 * r) = true := okDay_mk (by omega) (by omega)
  have ok2 : okDay (lastD (2 + 7 * r) k) = true := okDay_mk (by unfold lastD; omega) (by unfold lastD; omega)
  have hw : wday (2 + 7 * r) = 0 := by simp only [wday, ok1, cond_true]; omega
  unfold termE
  rw [if_neg (by simp [hw]), if_neg (by omega), if_neg (by simp [ok2]), if_neg (by omega)]
  exact holE_ok _ _ _ none (fun q hq => by cases hq) hh
end TT
