/- Series of days in plain Lean: which series are valid, their days, the series of a list of days. No program in sight. -/
import Derived.Test.YtibigbfkokendaaGreatDoorCalp
namespace TT
def wd7 (d : Int) : Int := (d + 5) % 7
theorem wd7_bd (d : Int) : 0 ≤ wd7 d ∧ wd7 d ≤ 6 := by unfold wd7; omega
theorem wday_wd7 {d : Int} (h1 : 0 ≤ d) (h2 : d ≤ 36524) : wday d = wd7 d := by simp [wday, okDay_mk h1 h2, wd7]
/-- a bit of a set of weekdays -/
def bitN (k j : Int) : Bool := decide (k / 2 ^ j.toNat % 2 = 1)
/-- the week of a day counts -/
def cntB (f e d : Int) : Bool := decide ((d - wd7 d - (f - wd7 f)) / 7 % e = 0)
/-- a regular day -/
def regB (f l e k d : Int) : Bool := decide (f ≤ d ∧ d ≤ l) && (bitN k (wd7 d) && cntB f e d)
/-- a number is on a list -/
def hasI (hs : List Int) (d : Int) : Bool := decide (d ∈ hs)
theorem hasI_nil (d : Int) : hasI [] d = false := by simp [hasI]
/-- n days from one on -/
def rng (f : Int) (n : Nat) : List Int := (List.range n).map (fun i : Nat => f + i)
theorem rng_succ (f : Int) (n : Nat) : rng f (n + 1) = rng f n ++ [f + n] := by simp [rng, List.range_succ]
theorem rng_zero (f : Int) : rng f 0 = [] := rfl
theorem rng_len (f : Int) (n : Nat) : (rng f n).length = n := by simp [rng]
theorem mem_rng (f d : Int) (n : Nat) : d ∈ rng f n ↔ f ≤ d ∧ d < f + n := by
  simp only [rng, List.mem_map, List.mem_range]
  constructor
  · rintro ⟨i, hi, rfl⟩; omega
  · intro h; exact ⟨(d - f).toNat, by omega, by omega⟩
/-- the days from one to another one -/
def dayR (f l : Int) : List Int := rng f (l - f + 1).toNat
theorem mem_dayR (f l d : Int) : d ∈ dayR f l ↔ f ≤ d ∧ d ≤ l := by rw [dayR, mem_rng]; omega
/-- in ascending order -/
def Inc (L : List Int) : Prop := L.Pairwise (· < ·)
theorem Inc.nil : Inc [] := List.Pairwise.nil
theorem inc_snoc {L : List Int} {d : Int} (h : Inc L) (hd : ∀ x ∈ L, x < d) : Inc (L ++ [d]) := by
  unfold Inc; rw [List.pairwise_append]
  exact ⟨h, by simp, fun x hx y hy => by simp at hy; subst hy; exact hd x hx⟩
theorem inc_rng (f : Int) (n : Nat) : Inc (rng f n) := by
  induction n with
  | zero => exact Inc.nil
  | succ n ih => rw [rng_succ]; exact inc_snoc ih (fun x hx => by have := (mem_rng f x n).1 hx; omega)
theorem Inc.filter {L : List Int} (h : Inc L) (p : Int → Bool) : Inc (L.filter p) := List.Pairwise.filter p h
theorem inc_ext : ∀ {L M : List Int}, Inc L → Inc M → (∀ x, x ∈ L ↔ x ∈ M) → L = M
  | [], [], _, _, _ => rfl
  | [], b :: M, _, _, h => absurd ((h b).2 (by simp)) (by simp)
  | a :: L, [], _, _, h => absurd ((h a).1 (by simp)) (by simp)
  | a :: L, b :: M, hL, hM, h => by
    have hL' := List.pairwise_cons.1 hL
    have hM' := List.pairwise_cons.1 hM
    have hab : a = b := by
      have h1 := (h a).1 (by simp)
      have h2 := (h b).2 (by simp)
      rcases List.mem_cons.1 h1 with e | e
      · exact e
      · rcases List.mem_cons.1 h2 with e' | e'
        · exact e'.symm
        · have := hM'.1 a e; have := hL'.1 b e'; omega
    subst hab
    rw [inc_ext hL'.2 hM'.2 (fun x => ?_)]
    have hx := h x
    constructor
    · intro m
      rcases List.mem_cons.1 (hx.1 (List.mem_cons_of_mem _ m)) with e | e
      · subst e; exact absurd (hL'.1 x m) (by omega)
      · exact e
    · intro m
      rcases List.mem_cons.1 (hx.2 (List.mem_cons_of_mem _ m)) with e | e
      · subst e; exact absurd (hM'.1 x m) (by omega)
      · exact e
theorem inc_self {L : List Int} {f l : Int} (h : Inc L) (hb : ∀ x ∈ L, f ≤ x ∧ x ≤ l) : (dayR f l).filter (hasI L) = L := by
  refine inc_ext ((inc_rng _ _).filter _) h (fun x => ?_)
  rw [List.mem_filter, mem_dayR]; simp only [hasI, decide_eq_true_eq]
  exact ⟨fun q => q.2, fun q => ⟨hb x q, q⟩⟩

/-! ### Valid -/

/-- the error of a list of exceptions -/
def excE (p : Int → Bool) (bad : Int) : Option Int → List Int → Int
  | _, [] => 0
  | pv, d :: r => bif pv.any (fun q => decide (d ≤ q)) then 63 else bif p d then excE p bad (some d) r else bad
def outB (f l e k d : Int) : Bool := decide (f ≤ d ∧ d ≤ l) && !(regB f l e k d)
/-- the error of a series, before its exceptions -/
def vl0 (f l e k : Int) (m : Nat) : Int :=
  if okDay f = false ∨ okDay l = false then 13 else if l < f ∨ f + 140 < l ∨ e < 1 ∨ 4 < e ∨ k < 0 ∨ 127 < k then 3 else if 140 < m then 2 else 0
def vlE (f l e k : Int) (xs ys : List Int) : Int :=
  if vl0 f l e k (xs.length + ys.length) ≠ 0 then vl0 f l e k (xs.length + ys.length)
  else if excE (regB f l e k) 12 none xs ≠ 0 then excE (regB f l e k) 12 none xs
  else excE (outB f l e k) 11 none ys
def pvI (hs : List Int) (i : Nat) : Option Int := if i = 0 then none else some (hs.getD (i - 1) 0)
theorem drop_at (hs : List Int) (i : Nat) (hi : i < hs.length) : hs.drop i = hs.getD i 0 :: hs.drop (i + 1) := by
  rw [List.drop_eq_getElem_cons hi, List.getD_eq_getElem?_getD, List.getElem?_eq_getElem hi, Option.getD_some]
theorem pvI_succ (hs : List Int) (i : Nat) : pvI hs (i + 1) = some (hs.getD i 0) := by simp [pvI]
theorem excE_end (p : Int → Bool) (bad : Int) (hs : List Int) : excE p bad (pvI hs hs.length) (hs.drop hs.length) = 0 := by simp [excE]
theorem excE_start (p : Int → Bool) (bad : Int) (hs : List Int) : excE p bad (pvI hs 0) (hs.drop 0) = excE p bad none hs := by simp [pvI]
theorem excE_step (p : Int → Bool) (bad : Int) (hs : List Int) (i : Nat) (hi : i < hs.length) :
    excE p bad (pvI hs i) (hs.drop i) = if 0 < i ∧ hs.getD i 0 ≤ hs.getD (i - 1) 0 then 63 else bif p (hs.getD i 0) then excE p bad (pvI hs (i + 1)) (hs.drop (i + 1)) else bad := by
  rw [drop_at hs i hi, excE, pvI_succ]
  by_cases h0 : i = 0
  · subst h0; simp [pvI]
  · by_cases h : hs.getD i 0 ≤ hs.getD (i - 1) 0
    · rw [if_pos ⟨by omega, h⟩]; simp only [pvI, if_neg h0, Option.any_some, h, decide_true, cond_true]
    · rw [if_neg (fun q => h q.2)]; simp only [pvI, if_neg h0, Option.any_some, h, decide_false, cond_false]
theorem excE_ok (p : Int → Bool) (bad : Int) : ∀ (hs : List Int) (pv : Option Int), Inc hs → (∀ q, pv = some q → ∀ h ∈ hs, q < h) → (∀ h ∈ hs, p h = true) → excE p bad pv hs = 0
  | [], _, _, _, _ => rfl
  | d :: r, pv, h1, h2, h3 => by
    have hc := List.pairwise_cons.1 h1
    have hany : pv.any (fun q => decide (d ≤ q)) = false := by
      cases pv with
      | none => rfl
      | some q => have := h2 q rfl d (by simp); simp; omega
    rw [excE, hany, cond_false, h3 d (by simp), cond_true]
    exact excE_ok p bad r (some d) hc.2 (fun q hq x hx => by cases hq; exact hc.1 x hx) (fun x hx => h3 x (by simp [hx]))
theorem excE_inv (p : Int → Bool) (bad : Int) (hb : bad ≠ 0) : ∀ (hs : List Int) (pv : Option Int), excE p bad pv hs = 0 → Inc hs ∧ (∀ h ∈ hs, p h = true) ∧ (∀ q, pv = some q → ∀ h ∈ hs, q < h)
  | [], _, _ => ⟨Inc.nil, by simp, by simp⟩
  | d :: r, pv, h => by
    rw [excE] at h
    cases ha : pv.any (fun q => decide (d ≤ q))
    · rw [ha, cond_false] at h
      cases hp : p d
      · rw [hp, cond_false] at h; exact absurd h hb
      · rw [hp, cond_true] at h
        obtain ⟨a, b, c⟩ := excE_inv p bad hb r (some d) h
        refine ⟨List.pairwise_cons.2 ⟨fun x hx => c d rfl x hx, a⟩, fun x hx => ?_, fun q hq x hx => ?_⟩
        · rcases List.mem_cons.1 hx with e | e
          · subst e; exact hp
          · exact b x e
        · subst hq
          have hq : q < d := by simpa using ha
          rcases List.mem_cons.1 hx with e | e
          · subst e; exact hq
          · have := c d rfl x e; omega
    · rw [ha, cond_true] at h; cases h
theorem vl0_inv {f l e k : Int} {m : Nat} (h : vl0 f l e k m = 0) : okDay f = true ∧ okDay l = true ∧ f ≤ l ∧ l ≤ f + 140 ∧ 1 ≤ e ∧ e ≤ 4 ∧ 0 ≤ k ∧ k ≤ 127 ∧ m ≤ 140 := by
  unfold vl0 at h
  split at h
  · cases h
  · rename_i c1
    split at h
    · cases h
    · split at h
      · cases h
      · simp only [not_or, Bool.not_eq_false] at c1
        refine ⟨c1.1, c1.2, ?_⟩; omega
theorem vlE_inv {f l e k : Int} {xs ys : List Int} (h : vlE f l e k xs ys = 0) : vl0 f l e k (xs.length + ys.length) = 0 ∧ Inc xs ∧ (∀ x ∈ xs, regB f l e k x = true) ∧ Inc ys ∧ (∀ x ∈ ys, outB f l e k x = true) := by
  unfold vlE at h
  split at h
  · exact absurd h (by assumption)
  · rename_i c0
    split at h
    · exact absurd h (by assumption)
    · rename_i c1
      have h1 : excE (regB f l e k) 12 none xs = 0 := by simpa using c1
      obtain ⟨a, b, _⟩ := excE_inv _ _ (by decide) _ _ h1
      obtain ⟨c, d, _⟩ := excE_inv _ _ (by decide) _ _ h
      exact ⟨by simpa using c0, a, b, c, d⟩
theorem vlE_mk {f l e k : Int} {xs ys : List Int} (h0 : vl0 f l e k (xs.length + ys.length) = 0) (h1 : Inc xs) (h2 : ∀ x ∈ xs, regB f l e k x = true) (h3 : Inc ys) (h4 : ∀ x ∈ ys, outB f l e k x = true) : vlE f l e k xs ys = 0 := by
  unfold vlE
  rw [if_neg (by simp [h0]), if_neg (by simp [excE_ok _ _ xs none h1 (fun q hq => by cases hq) h2])]
  exact excE_ok _ _ ys none h3 (fun q hq => by cases hq) h4

/-! ### Days -/

def dayP (f l e k : Int) (xs ys : List Int) (d : Int) : Bool := (regB f l e k d && !(hasI xs d)) || hasI ys d
def daysS (f l e k : Int) (xs ys : List Int) : List Int := (dayR f l).filter (dayP f l e k xs ys)
/-- the days of a series; none of one that is not valid -/
def daysO (f l e k : Int) (xs ys : List Int) : List Int := if vlE f l e k xs ys = 0 then daysS f l e k xs ys else []
/-- the regular days without the exceptions, as the program collects them -/
def daysR (f l e k : Int) (xs : List Int) : List Int := (dayR f l).filter (fun d => regB f l e k d && !(hasI xs d))
theorem inc_daysS (f l e k : Int) (xs ys : List Int) : Inc (daysS f l e k xs ys) := (inc_rng _ _).filter _
theorem inc_nodup {L : List Int} (h : Inc L) : L.Nodup := List.Pairwise.imp (fun h => by omega) h
/-- a list in order that has the same members in some order -/
theorem sort_uniq {L M : List Int} (h1 : L.Pairwise (· ≤ ·)) (h2 : L.Nodup) (h3 : Inc M) (h : ∀ x, x ∈ L ↔ x ∈ M) : L = M := by
  refine inc_ext ?_ h3 h
  have := h1.and h2
  exact List.Pairwise.imp (fun ⟨a, b⟩ => by omega) this
theorem days_sort {f l e k : Int} {xs ys L : List Int} (h : vlE f l e k xs ys = 0) (hp : L.Perm (ys ++ daysR f l e k xs)) (hs : L.Pairwise (· ≤ ·)) : L = daysS f l e k xs ys := by
  obtain ⟨_, _, _, hy, ho⟩ := vlE_inv h
  have hnd : (ys ++ daysR f l e k xs).Nodup := by
    rw [List.nodup_append]
    refine ⟨inc_nodup hy, inc_nodup ((inc_rng _ _).filter _), fun a ha b hb e => ?_⟩
    subst e
    have h1 := ho a ha
    have h2 := (List.mem_filter.1 hb).2
    simp only [outB, Bool.and_eq_true, Bool.not_eq_true'] at h1 h2
    rw [h2.1] at h1; exact absurd h1.2 (by simp)
  refine sort_uniq hs (hp.nodup_iff.2 hnd) (inc_daysS ..) (fun x => ?_)
  rw [hp.mem_iff, List.mem_append, daysR, daysS, List.mem_filter, List.mem_filter, mem_dayR]
  simp only [dayP, Bool.or_eq_true, hasI, decide_eq_true_eq]
  constructor
  · rintro (q | q)
    · have := ho x q
      simp only [outB, Bool.and_eq_true, decide_eq_true_eq] at this
      exact ⟨this.1, Or.inr q⟩
    · exact ⟨q.1, Or.inl q.2⟩
  · rintro ⟨q, q2 | q2⟩
    · exact Or.inr ⟨q, q2⟩
    · exact Or.inl q2
theorem filter_succ (p : Int → Bool) (f : Int) (n : Nat) : (rng f (n + 1)).filter p = (rng f n).filter p ++ (if p (f + n) then [f + n] else []) := by
  rw [rng_succ, List.filter_append]; congr 1
  cases h : p (f + n) <;> simp [h]
theorem filter_hit {p : Int → Bool} {f : Int} {n : Nat} (h : p (f + n) = true) : (rng f (n + 1)).filter p = (rng f n).filter p ++ [f + n] := by rw [filter_succ, h, if_pos rfl]
theorem filter_miss {p : Int → Bool} {f : Int} {n : Nat} (h : p (f + n) = false) : (rng f (n + 1)).filter p = (rng f n).filter p := by rw [filter_succ, h]; simp
theorem filter_len (p : Int → Bool) (f : Int) (n : Nat) : ((rng f n).filter p).length ≤ n := by
  have := List.length_filter_le p (rng f n); rw [rng_len] at this; exact this

/-! ### Of -/

def lstE : Option Int → List Int → Int
  | _, [] => 0
  | pv, d :: r => bif okDay d then (bif pv.any (fun q => decide (d ≤ q)) then 63 else lstE (some d) r) else 13
def fstD (L : List Int) : Int := L.getD 0 0
def lstD (L : List Int) : Int := L.getD (L.length - 1) 0
def ofE (L : List Int) : Int :=
  if L.length = 0 then 16 else if lstE none L ≠ 0 then lstE none L else if fstD L + 140 < lstD L then 3 else 0
theorem lstE_end (hs : List Int) : lstE (pvI hs hs.length) (hs.drop hs.length) = 0 := by simp [lstE]
theorem lstE_start (hs : List Int) : lstE (pvI hs 0) (hs.drop 0) = lstE none hs := by simp [pvI]
theorem lstE_step (hs : List Int) (i : Nat) (hi : i < hs.length) :
    lstE (pvI hs i) (hs.drop i) = bif okDay (hs.getD i 0) then (if 0 < i ∧ hs.getD i 0 ≤ hs.getD (i - 1) 0 then 63 else lstE (pvI hs (i + 1)) (hs.drop (i + 1))) else 13 := by
  rw [drop_at hs i hi, lstE, pvI_succ]
  cases okDay (hs.getD i 0)
  · rfl
  · simp only [cond_true]
    by_cases h0 : i = 0
    · subst h0; simp [pvI]
    · by_cases h : hs.getD i 0 ≤ hs.getD (i - 1) 0
      · rw [if_pos ⟨by omega, h⟩]; simp only [pvI, if_neg h0, Option.any_some, h, decide_true, cond_true]
      · rw [if_neg (fun q => h q.2)]; simp only [pvI, if_neg h0, Option.any_some, h, decide_false, cond_false]
theorem lstE_inv : ∀ (hs : List Int) (pv : Option Int), lstE pv hs = 0 → Inc hs ∧ (∀ h ∈ hs, okDay h = true) ∧ (∀ q, pv = some q → ∀ h ∈ hs, q < h)
  | [], _, _ => ⟨Inc.nil, by simp, by simp⟩
  | d :: r, pv, h => by
    rw [lstE] at h
    cases hp : okDay d
    · rw [hp, cond_false] at h; cases h
    · rw [hp, cond_true] at h
      cases ha : pv.any (fun q => decide (d ≤ q))
      · rw [ha, cond_false] at h
        obtain ⟨a, b, c⟩ := lstE_inv r (some d) h
        refine ⟨List.pairwise_cons.2 ⟨fun x hx => c d rfl x hx, a⟩, fun x hx => ?_, fun q hq x hx => ?_⟩
        · rcases List.mem_cons.1 hx with e | e
          · subst e; exact hp
          · exact b x e
        · subst hq
          have hq : q < d := by simpa using ha
          rcases List.mem_cons.1 hx with e | e
          · subst e; exact hq
          · have := c d rfl x e; omega
      · rw [ha, cond_true] at h; cases h
theorem lstE_mk : ∀ (hs : List Int) (pv : Option Int), Inc hs → (∀ h ∈ hs, okDay h = true) → (∀ q, pv = some q → ∀ h ∈ hs, q < h) → lstE pv hs = 0
  | [], _, _, _, _ => rfl
  | d :: r, pv, h1, h2, h3 => by
    have hc := List.pairwise_cons.1 h1
    have hany : pv.any (fun q => decide (d ≤ q)) = false := by
      cases pv with
      | none => rfl
      | some q => have := h3 q rfl d (by simp); simp; omega
    rw [lstE, h2 d (by simp), cond_true, hany, cond_false]
    exact lstE_mk r (some d) hc.2 (fun x hx => h2 x (by simp [hx])) (fun q hq x hx => by cases hq; exact hc.1 x hx)

/-- how many of n days from f on, on a weekday in a week that counts, are on a list -/
def hitN (L : List Int) (f e w : Int) (n : Nat) : Nat := (rng f n).countP (fun d => decide (wd7 d = w) && (cntB f e d && hasI L d))
def misN (L : List Int) (f e w : Int) (n : Nat) : Nat := (rng f n).countP (fun d => decide (wd7 d = w) && (cntB f e d && !(hasI L d)))
theorem cnt_succ (p : Int → Bool) (f : Int) (n : Nat) : (rng f (n + 1)).countP p = (rng f n).countP p + (if p (f + n) then 1 else 0) := by
  rw [rng_succ, List.countP_append]; simp [List.countP_cons]
theorem cnt_le (p : Int → Bool) (f : Int) (n : Nat) : (rng f n).countP p ≤ n := by
  have := List.countP_le_length (p := p) (l := rng f n); rw [rng_len] at this; exact this
/-- a weekday of the best set -/
def bestB (L : List Int) (f l e w : Int) : Bool := decide (misN L f e w (l - f + 1).toNat < hitN L f e w (l - f + 1).toNat)
def wBit (L : List Int) (f l e : Int) (w : Nat) : Int := bif bestB L f l e w then 2 ^ w else 0
/-- the weekdays below w of the best set -/
def setN (L : List Int) (f l e : Int) : Nat → Int
  | 0 => 0
  | w + 1 => setN L f l e w + wBit L f l e w
def setS (L : List Int) (f l e : Int) : Int := setN L f l e 7
def excX (L : List Int) (f l e k : Int) (d : Int) : Bool := regB f l e k d && !(hasI L d)
def excY (L : List Int) (f l e k : Int) (d : Int) : Bool := !(regB f l e k d) && hasI L d
def wX (L : List Int) (f l e k : Int) : List Int := (dayR f l).filter (excX L f l e k)
def wY2 (L : List Int) (f l e k : Int) : List Int := (dayR f l).filter (excY L f l e k)
def cost (L : List Int) (f l e k : Int) : Nat := (wX L f l e k).length + (wY2 L f l e k).length
def costS (L : List Int) (e : Int) : Nat := cost L (fstD L) (lstD L) e (setS L (fstD L) (lstD L) e)
/-- the best number of weeks among the first n + 1 -/
def bstE (L : List Int) : Nat → Int
  | 0 => 1
  | n + 1 => if costS L ((n : Int) + 2) < costS L (bstE L n) then (n : Int) + 2 else bstE L n
def ofEv (L : List Int) : Int := if ofE L = 0 then bstE L 3 else 0
def ofF (L : List Int) : Int := if ofE L = 0 then fstD L else 0
def ofL (L : List Int) : Int := if ofE L = 0 then lstD L else 0
def ofK (L : List Int) : Int := if ofE L = 0 then setS L (fstD L) (lstD L) (bstE L 3) else 0
def ofX (L : List Int) : List Int := if ofE L = 0 then wX L (fstD L) (lstD L) (bstE L 3) (setS L (fstD L) (lstD L) (bstE L 3)) else []
def ofY (L : List Int) : List Int := if ofE L = 0 then wY2 L (fstD L) (lstD L) (bstE L 3) (setS L (fstD L) (lstD L) (bstE L 3)) else []
end TT
