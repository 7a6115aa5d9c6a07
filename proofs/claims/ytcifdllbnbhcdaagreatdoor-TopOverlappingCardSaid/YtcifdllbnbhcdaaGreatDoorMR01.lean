/- Texts Calp, P1, P2, PL1, Cal, joined: walks and laws. -/
import Derived.Test.YtcifdllbnbhcdaaGreatDoorMV02
import Derived.Test.YtcifdllbnbhcdaaGreatDoorProg
namespace TT
def ml (y m : Int) : Int :=
  if m = 4 ∨ m = 6 ∨ m = 9 ∨ m = 11 then 30 else if m = 2 then (if y % 4 = 0 ∧ y ≠ 2100 then 29 else 28) else 31
def dby (y : Int) : Int := 365 * (y - 2000) + (y - 1997) / 4
def okDay (n : Int) : Bool := decide (0 ≤ n ∧ n ≤ 36524)
def yearOf (n : Int) : Int := if n < 0 then 1999 else if n ≥ 36525 then 2100 else 2000 + 4 * (n / 1461) + (if n % 1461 < 366 then 0 else 1 + (n % 1461 - 366) / 365)
def wday (n : Int) : Int := bif okDay n then (n + 5) % 7 else -1
def thu (n : Int) : Int := n - (n + 5) % 7 + 3
def wyear (n : Int) : Int := yearOf (thu n)
def fst (y : Int) : Int := dby y + 3 - (dby y + 428) % 7
def wY (n : Int) : Int := bif okDay n then wyear n else 0
theorem okDay_of {n : Int} (h : okDay n = true) : 0 ≤ n ∧ n ≤ 36524 := by simpa [okDay] using h
theorem okDay_mk {n : Int} (h1 : 0 ≤ n) (h2 : n ≤ 36524) : okDay n = true := by simp [okDay]; omega
end TT
namespace TT
def wd7 (d : Int) : Int := (d + 5) % 7
theorem wd7_bd (d : Int) : 0 ≤ wd7 d ∧ wd7 d ≤ 6 := by unfold wd7; omega
def bitN (k j : Int) : Bool := decide (k / 2 ^ j.toNat % 2 = 1)
def cntB (f e d : Int) : Bool := decide ((d - wd7 d - (f - wd7 f)) / 7 % e = 0)
def regB (f l e k d : Int) : Bool := decide (f ≤ d ∧ d ≤ l) && (bitN k (wd7 d) && cntB f e d)
def hasI (hs : List Int) (d : Int) : Bool := decide (d ∈ hs)
theorem hasI_nil (d : Int) : hasI [] d = false := by simp [hasI]
def rng (f : Int) (n : Nat) : List Int := (List.range n).map (fun i : Nat => f + i)
theorem rng_succ (f : Int) (n : Nat) : rng f (n + 1) = rng f n ++ [f + n] := by simp [rng, List.range_succ]
theorem rng_len (f : Int) (n : Nat) : (rng f n).length = n := by simp [rng]
theorem mem_rng (f d : Int) (n : Nat) : d ∈ rng f n ↔ f ≤ d ∧ d < f + n := by
  simp only [rng, List.mem_map, List.mem_range]
  constructor
  · rintro ⟨i, hi, rfl⟩; omega
  · intro h; exact ⟨(d - f).toNat, by omega, by omega⟩
def dayR (f l : Int) : List Int := rng f (l - f + 1).toNat
theorem mem_dayR (f l d : Int) : d ∈ dayR f l ↔ f ≤ d ∧ d ≤ l := by rw [dayR, mem_rng]; omega
def Inc (L : List Int) : Prop := L.Pairwise (· < ·)
theorem Inc.nil : Inc [] := List.Pairwise.nil
theorem inc_snoc {L : List Int} {d : Int} (h : Inc L) (hd : ∀ x ∈ L, x < d) : Inc (L ++ [d]) := by
  unfold Inc; rw [List.pairwise_append]
  exact ⟨h, by simp, fun x hx y hy => by simp at hy; subst hy; exact hd x hx⟩
theorem inc_rng (f : Int) (n : Nat) : Inc (rng f n) := by
  induction n with
  | zero => exact Inc.nil
  | succ n ih => rw [rng_succ]; exact inc_snoc ih (fun x hx => by have := (mem_rng f x n).1 hx; omega)
theorem Inc.filter {L : List Int} (h : Inc L) (p : Int → Bool) : Inc (L.filter p) := List.Pairwise.filter p h
theorem inc_ext : ∀ {L M : List Int}, Inc L → Inc M → (∀ x, x ∈ L ↔ x ∈ M) → L = M
  | [], [], _, _, _ => rfl
  | [], b :: M, _, _, h => absurd ((h b).2 (by simp)) (by simp)
  | a :: L, [], _, _, h => absurd ((h a).1 (by simp)) (by simp)
  | a :: L, b :: M, hL, hM, h => by
    have hL' := List.pairwise_cons.1 hL
    have hM' := List.pairwise_cons.1 hM
    have hab : a = b := by
      have h1 := (h a).1 (by simp)
      have h2 := (h b).2 (by simp)
      rcases List.mem_cons.1 h1 with e | e
      · exact e
      · rcases List.mem_cons.1 h2 with e' | e'
        · exact e'.symm
        · have := hM'.1 a e; have := hL'.1 b e'; omega
    subst hab
    rw [inc_ext hL'.2 hM'.2 (fun x => ?_)]
    have hx := h x
    constructor
    · intro m
      rcases List.mem_cons.1 (hx.1 (List.mem_cons_of_mem _ m)) with e | e
      · subst e; exact absurd (hL'.1 x m) (by omega)
      · exact e
    · intro m
      rcases List.mem_cons.1 (hx.2 (List.mem_cons_of_mem _ m)) with e | e
      · subst e; exact absurd (hM'.1 x m) (by omega)
      · exact e
theorem inc_self {L : List Int} {f l : Int} (h : Inc L) (hb : ∀ x ∈ L, f ≤ x ∧ x ≤ l) : (dayR f l).filter (hasI L) = L := by
  refine inc_ext ((inc_rng _ _).filter _) h (fun x => ?_)
  rw [List.mem_filter, mem_dayR]; simp only [hasI, decide_eq_true_eq]
  exact ⟨fun q => q.2, fun q => ⟨hb x q, q⟩⟩
def excE (p : Int → Bool) (bad : Int) : Option Int → List Int → Int
  | _, [] => 0
  | pv, d :: r => bif pv.any (fun q => decide (d ≤ q)) then 63 else bif p d then excE p bad (some d) r else bad
def outB (f l e k d : Int) : Bool := decide (f ≤ d ∧ d ≤ l) && !(regB f l e k d)
def vl0 (f l e k : Int) (m : Nat) : Int :=
  if okDay f = false ∨ okDay l = false then 13 else if l < f ∨ f + 140 < l ∨ e < 1 ∨ 4 < e ∨ k < 0 ∨ 127 < k then 3 else if 140 < m then 2 else 0
def vlE (f l e k : Int) (xs ys : List Int) : Int :=
  if vl0 f l e k (xs.length + ys.length) ≠ 0 then vl0 f l e k (xs.length + ys.length)
  else if excE (regB f l e k) 12 none xs ≠ 0 then excE (regB f l e k) 12 none xs
  else excE (outB f l e k) 11 none ys
def pvI (hs : List Int) (i : Nat) : Option Int := if i = 0 then none else some (hs.getD (i - 1) 0)
theorem drop_at (hs : List Int) (i : Nat) (hi : i < hs.length) : hs.drop i = hs.getD i 0 :: hs.drop (i + 1) := by
  rw [List.drop_eq_getElem_cons hi, List.getD_eq_getElem?_getD, List.getElem?_eq_getElem hi, Option.getD_some]
theorem pvI_succ (hs : List Int) (i : Nat) : pvI hs (i + 1) = some (hs.getD i 0) := by simp [pvI]
theorem excE_end (p : Int → Bool) (bad : Int) (hs : List Int) : excE p bad (pvI hs hs.length) (hs.drop hs.length) = 0 := by simp [excE]
theorem excE_start (p : Int → Bool) (bad : Int) (hs : List Int) : excE p bad (pvI hs 0) (hs.drop 0) = excE p bad none hs := by simp [pvI]
theorem excE_step (p : Int → Bool) (bad : Int) (hs : List Int) (i : Nat) (hi : i < hs.length) :
    excE p bad (pvI hs i) (hs.drop i) = if 0 < i ∧ hs.getD i 0 ≤ hs.getD (i - 1) 0 then 63 else bif p (hs.getD i 0) then excE p bad (pvI hs (i + 1)) (hs.drop (i + 1)) else bad := by
  rw [drop_at hs i hi, excE, pvI_succ]
  by_cases h0 : i = 0
  · subst h0; simp [pvI]
  · by_cases h : hs.getD i 0 ≤ hs.getD (i - 1) 0
    · rw [if_pos ⟨by omega, h⟩]; simp only [pvI, if_neg h0, Option.any_some, h, decide_true, cond_true]
    · rw [if_neg (fun q => h q.2)]; simp only [pvI, if_neg h0, Option.any_some, h, decide_false, cond_false]
theorem excE_ok (p : Int → Bool) (bad : Int) : ∀ (hs : List Int) (pv : Option Int), Inc hs → (∀ q, pv = some q → ∀ h ∈ hs, q < h) → (∀ h ∈ hs, p h = true) → excE p bad pv hs = 0
  | [], _, _, _, _ => rfl
  | d :: r, pv, h1, h2, h3 => by
    have hc := List.pairwise_cons.1 h1
    have hany : pv.any (fun q => decide (d ≤ q)) = false := by
      cases pv with
      | none => rfl
      | some q => have := h2 q rfl d (by simp); simp; omega
    rw [excE, hany, cond_false, h3 d (by simp), cond_true]
    exact excE_ok p bad r (some d) hc.2 (fun q hq x hx => by cases hq; exact hc.1 x hx) (fun x hx => h3 x (by simp [hx]))
theorem excE_inv (p : Int → Bool) (bad : Int) (hb : bad ≠ 0) : ∀ (hs : List Int) (pv : Option Int), excE p bad pv hs = 0 → Inc hs ∧ (∀ h ∈ hs, p h = true) ∧ (∀ q, pv = some q → ∀ h ∈ hs, q < h)
  | [], _, _ => ⟨Inc.nil, by simp, by simp⟩
  | d :: r, pv, h => by
    rw [excE] at h
    cases ha : pv.any (fun q => decide (d ≤ q))
    · rw [ha, cond_false] at h
      cases hp : p d
      · rw [hp, cond_false] at h; exact absurd h hb
      · rw [hp, cond_true] at h
        obtain ⟨a, b, c⟩ := excE_inv p bad hb r (some d) h
        refine ⟨List.pairwise_cons.2 ⟨fun x hx => c d rfl x hx, a⟩, fun x hx => ?_, fun q hq x hx => ?_⟩
        · rcases List.mem_cons.1 hx with e | e
          · subst e; exact hp
          · exact b x e
        · subst hq
          have hq : q < d := by simpa using ha
          rcases List.mem_cons.1 hx with e | e
          · subst e; exact hq
          · have := c d rfl x e; omega
    · rw [ha, cond_true] at h; cases h
theorem vl0_inv {f l e k : Int} {m : Nat} (h : vl0 f l e k m = 0) : okDay f = true ∧ okDay l = true ∧ f ≤ l ∧ l ≤ f + 140 ∧ 1 ≤ e ∧ e ≤ 4 ∧ 0 ≤ k ∧ k ≤ 127 ∧ m ≤ 140 := by
  unfold vl0 at h
  split at h
  · cases h
  · rename_i c1
    split at h
    · cases h
    · split at h
      · cases h
      · simp only [not_or, Bool.not_eq_false] at c1
        refine ⟨c1.1, c1.2, ?_⟩; omega
theorem vlE_inv {f l e k : Int} {xs ys : List Int} (h : vlE f l e k xs ys = 0) : vl0 f l e k (xs.length + ys.length) = 0 ∧ Inc xs ∧ (∀ x ∈ xs, regB f l e k x = true) ∧ Inc ys ∧ (∀ x ∈ ys, outB f l e k x = true) := by
  unfold vlE at h
  split at h
  · exact absurd h (by assumption)
  · rename_i c0
    split at h
    · exact absurd h (by assumption)
    · rename_i c1
      have h1 : excE (regB f l e k) 12 none xs = 0 := by simpa using c1
      obtain ⟨a, b, _⟩ := excE_inv _ _ (by decide) _ _ h1
      obtain ⟨c, d, _⟩ := excE_inv _ _ (by decide) _ _ h
      exact ⟨by simpa using c0, a, b, c, d⟩
theorem vlE_mk {f l e k : Int} {xs ys : List Int} (h0 : vl0 f l e k (xs.length + ys.length) = 0) (h1 : Inc xs) (h2 : ∀ x ∈ xs, regB f l e k x = true) (h3 : Inc ys) (h4 : ∀ x ∈ ys, outB f l e k x = true) : vlE f l e k xs ys = 0 := by
  unfold vlE
  rw [if_neg (by simp [h0]), if_neg (by simp [excE_ok _ _ xs none h1 (fun q hq => by cases hq) h2])]
  exact excE_ok _ _ ys none h3 (fun q hq => by cases hq) h4
def dayP (f l e k : Int) (xs ys : List Int) (d : Int) : Bool := (regB f l e k d && !(hasI xs d)) || hasI ys d
def daysS (f l e k : Int) (xs ys : List Int) : List Int := (dayR f l).filter (dayP f l e k xs ys)
def daysO (f l e k : Int) (xs ys : List Int) : List Int := if vlE f l e k xs ys = 0 then daysS f l e k xs ys else []
def daysR (f l e k : Int) (xs : List Int) : List Int := (dayR f l).filter (fun d => regB f l e k d && !(hasI xs d))
theorem inc_daysS (f l e k : Int) (xs ys : List Int) : Inc (daysS f l e k xs ys) := (inc_rng _ _).filter _
theorem inc_nodup {L : List Int} (h : Inc L) : L.Nodup := List.Pairwise.imp (fun h => by omega) h
theorem sort_uniq {L M : List Int} (h1 : L.Pairwise (· ≤ ·)) (h2 : L.Nodup) (h3 : Inc M) (h : ∀ x, x ∈ L ↔ x ∈ M) : L = M := by
  refine inc_ext ?_ h3 h
  have := h1.and h2
  exact List.Pairwise.imp (fun ⟨a, b⟩ => by omega) this
theorem days_sort {f l e k : Int} {xs ys L : List Int} (h : vlE f l e k xs ys = 0) (hp : L.Perm (ys ++ daysR f l e k xs)) (hs : L.Pairwise (· ≤ ·)) : L = daysS f l e k xs ys := by
  obtain ⟨_, _, _, hy, ho⟩ := vlE_inv h
  have hnd : (ys ++ daysR f l e k xs).Nodup := by
    rw [List.nodup_append]
    refine ⟨inc_nodup hy, inc_nodup ((inc_rng _ _).filter _), fun a ha b hb e => ?_⟩
    subst e
    have h1 := ho a ha
    have h2 := (List.mem_filter.1 hb).2
    simp only [outB, Bool.and_eq_true, Bool.not_eq_true'] at h1 h2
    rw [h2.1] at h1; exact absurd h1.2 (by simp)
  refine sort_uniq hs (hp.nodup_iff.2 hnd) (inc_daysS ..) (fun x => ?_)
  rw [hp.mem_iff, List.mem_append, daysR, daysS, List.mem_filter, List.mem_filter, mem_dayR]
  simp only [dayP, Bool.or_eq_true, hasI, decide_eq_true_eq]
  constructor
  · rintro (q | q)
    · have := ho x q
      simp only [outB, Bool.and_eq_true, decide_eq_true_eq] at this
      exact ⟨this.1, Or.inr q⟩
    · exact ⟨q.1, Or.inl q.2⟩
  · rintro ⟨q, q2 | q2⟩
    · exact Or.inr ⟨q, q2⟩
    · exact Or.inl q2
theorem filter_succ (p : Int → Bool) (f : Int) (n : Nat) : (rng f (n + 1)).filter p = (rng f n).filter p ++ (if p (f + n) then [f + n] else []) := by
  rw [rng_succ, List.filter_append]; congr 1
  cases h : p (f + n) <;> simp [h]
theorem filter_hit {p : Int → Bool} {f : Int} {n : Nat} (h : p (f + n) = true) : (rng f (n + 1)).filter p = (rng f n).filter p ++ [f + n] := by rw [filter_succ, h, if_pos rfl]
theorem filter_miss {p : Int → Bool} {f : Int} {n : Nat} (h : p (f + n) = false) : (rng f (n + 1)).filter p = (rng f n).filter p := by rw [filter_succ, h]; simp
theorem filter_len (p : Int → Bool) (f : Int) (n : Nat) : ((rng f n).filter p).length ≤ n := by
  have := List.length_filter_le p (rng f n); rw [rng_len] at this; exact this
def lstE : Option Int → List Int → Int
  | _, [] => 0
  | pv, d :: r => bif okDay d then (bif pv.any (fun q => decide (d ≤ q)) then 63 else lstE (some d) r) else 13
def fstD (L : List Int) : Int := L.getD 0 0
def lstD (L : List Int) : Int := L.getD (L.length - 1) 0
def ofE (L : List Int) : Int :=
  if L.length = 0 then 16 else if lstE none L ≠ 0 then lstE none L else if fstD L + 140 < lstD L then 3 else 0
theorem lstE_end (hs : List Int) : lstE (pvI hs hs.length) (hs.drop hs.length) = 0 := by simp [lstE]
theorem lstE_start (hs : List Int) : lstE (pvI hs 0) (hs.drop 0) = lstE none hs := by simp [pvI]
theorem lstE_step (hs : List Int) (i : Nat) (hi : i < hs.length) :
    lstE (pvI hs i) (hs.drop i) = bif okDay (hs.getD i 0) then (if 0 < i ∧ hs.getD i 0 ≤ hs.getD (i - 1) 0 then 63 else lstE (pvI hs (i + 1)) (hs.drop (i + 1))) else 13 := by
  rw [drop_at hs i hi, lstE, pvI_succ]
  cases okDay (hs.getD i 0)
  · rfl
  · simp only [cond_true]
    by_cases h0 : i = 0
    · subst h0; simp [pvI]
    · by_cases h : hs.getD i 0 ≤ hs.getD (i - 1) 0
      · rw [if_pos ⟨by omega, h⟩]; simp only [pvI, if_neg h0, Option.any_some, h, decide_true, cond_true]
      · rw [if_neg (fun q => h q.2)]; simp only [pvI, if_neg h0, Option.any_some, h, decide_false, cond_false]
theorem lstE_inv : ∀ (hs : List Int) (pv : Option Int), lstE pv hs = 0 → Inc hs ∧ (∀ h ∈ hs, okDay h = true) ∧ (∀ q, pv = some q → ∀ h ∈ hs, q < h)
  | [], _, _ => ⟨Inc.nil, by simp, by simp⟩
  | d :: r, pv, h => by
    rw [lstE] at h
    cases hp : okDay d
    · rw [hp, cond_false] at h; cases h
    · rw [hp, cond_true] at h
      cases ha : pv.any (fun q => decide (d ≤ q))
      · rw [ha, cond_false] at h
        obtain ⟨a, b, c⟩ := lstE_inv r (some d) h
        refine ⟨List.pairwise_cons.2 ⟨fun x hx => c d rfl x hx, a⟩, fun x hx => ?_, fun q hq x hx => ?_⟩
        · rcases List.mem_cons.1 hx with e | e
          · subst e; exact hp
          · exact b x e
        · subst hq
          have hq : q < d := by simpa using ha
          rcases List.mem_cons.1 hx with e | e
          · subst e; exact hq
          · have := c d rfl x e; omega
      · rw [ha, cond_true] at h; cases h
theorem lstE_mk : ∀ (hs : List Int) (pv : Option Int), Inc hs → (∀ h ∈ hs, okDay h = true) → (∀ q, pv = some q → ∀ h ∈ hs, q < h) → lstE pv hs = 0
  | [], _, _, _, _ => rfl
  | d :: r, pv, h1, h2, h3 => by
    have hc := List.pairwise_cons.1 h1
    have hany : pv.any (fun q => decide (d ≤ q)) = false := by
      cases pv with
      | none => rfl
      | some q => have := h3 q rfl d (by simp); simp; omega
    rw [lstE, h2 d (by simp), cond_true, hany, cond_false]
    exact lstE_mk r (some d) hc.2 (fun x hx => h2 x (by simp [hx])) (fun q hq x hx => by cases hq; exact hc.1 x hx)
def hitN (L : List Int) (f e w : Int) (n : Nat) : Nat := (rng f n).countP (fun d => decide (wd7 d = w) && (cntB f e d && hasI L d))
def misN (L : List Int) (f e w : Int) (n : Nat) : Nat := (rng f n).countP (fun d => decide (wd7 d = w) && (cntB f e d && !(hasI L d)))
theorem cnt_succ (p : Int → Bool) (f : Int) (n : Nat) : (rng f (n + 1)).countP p = (rng f n).countP p + (if p (f + n) then 1 else 0) := by
  rw [rng_succ, List.countP_append]; simp [List.countP_cons]
theorem cnt_le (p : Int → Bool) (f : Int) (n : Nat) : (rng f n).countP p ≤ n := by
  have := List.countP_le_length (p := p) (l := rng f n); rw [rng_len] at this; exact this
def bestB (L : List Int) (f l e w : Int) : Bool := decide (misN L f e w (l - f + 1).toNat < hitN L f e w (l - f + 1).toNat)
def wBit (L : List Int) (f l e : Int) (w : Nat) : Int := bif bestB L f l e w then 2 ^ w else 0
def setN (L : List Int) (f l e : Int) : Nat → Int
  | 0 => 0
  | w + 1 => setN L f l e w + wBit L f l e w
def setS (L : List Int) (f l e : Int) : Int := setN L f l e 7
def excX (L : List Int) (f l e k : Int) (d : Int) : Bool := regB f l e k d && !(hasI L d)
def excY (L : List Int) (f l e k : Int) (d : Int) : Bool := !(regB f l e k d) && hasI L d
def wX (L : List Int) (f l e k : Int) : List Int := (dayR f l).filter (excX L f l e k)
def wY2 (L : List Int) (f l e k : Int) : List Int := (dayR f l).filter (excY L f l e k)
def cost (L : List Int) (f l e k : Int) : Nat := (wX L f l e k).length + (wY2 L f l e k).length
def costS (L : List Int) (e : Int) : Nat := cost L (fstD L) (lstD L) e (setS L (fstD L) (lstD L) e)
def bstE (L : List Int) : Nat → Int
  | 0 => 1
  | n + 1 => if costS L ((n : Int) + 2) < costS L (bstE L n) then (n : Int) + 2 else bstE L n
def ofEv (L : List Int) : Int := if ofE L = 0 then bstE L 3 else 0
def ofF (L : List Int) : Int := if ofE L = 0 then fstD L else 0
def ofL (L : List Int) : Int := if ofE L = 0 then lstD L else 0
def ofK (L : List Int) : Int := if ofE L = 0 then setS L (fstD L) (lstD L) (bstE L 3) else 0
def ofX (L : List Int) : List Int := if ofE L = 0 then wX L (fstD L) (lstD L) (bstE L 3) (setS L (fstD L) (lstD L) (bstE L 3)) else []
def ofY (L : List Int) : List Int := if ofE L = 0 then wY2 L (fstD L) (lstD L) (bstE L 3) (setS L (fstD L) (lstD L) (bstE L 3)) else []
end TT
namespace TT
def s7 (F : Int → Nat) : Nat := F 0 + F 1 + F 2 + F 3 + F 4 + F 5 + F 6
theorem s7_le {F G : Int → Nat} (h : ∀ w : Int, 0 ≤ w → w ≤ 6 → F w ≤ G w) : s7 F ≤ s7 G := by
  have h0 := h 0 (by decide) (by decide)
  have h1 := h 1 (by decide) (by decide)
  have h2 := h 2 (by decide) (by decide)
  have h3 := h 3 (by decide) (by decide)
  have h4 := h 4 (by decide) (by decide)
  have h5 := h 5 (by decide) (by decide)
  have h6 := h 6 (by decide) (by decide)
  unfold s7; omega
theorem s7_eq {F G : Int → Nat} (h : ∀ w : Int, 0 ≤ w → w ≤ 6 → F w = G w) : s7 F = s7 G :=
  Nat.le_antisymm (s7_le fun w a b => Nat.le_of_eq (h w a b)) (s7_le fun w a b => Nat.le_of_eq (h w a b).symm)
theorem wd_cases (d : Int) : wd7 d = 0 ∨ wd7 d = 1 ∨ wd7 d = 2 ∨ wd7 d = 3 ∨ wd7 d = 4 ∨ wd7 d = 5 ∨ wd7 d = 6 := by have := wd7_bd d; omega
theorem s7_one (d : Int) (b : Bool) : s7 (fun w => if (decide (wd7 d = w) && b) = true then 1 else 0) = if b = true then 1 else 0 := by
  rcases wd_cases d with h | h | h | h | h | h | h <;> cases b <;> simp [s7, h]
theorem s7_add (F G : Int → Nat) : s7 (fun w => F w + G w) = s7 F + s7 G := by simp only [s7]; omega
theorem cnt_s7 (p : Int → Bool) : ∀ R : List Int, R.countP p = s7 (fun w => R.countP (fun d => decide (wd7 d = w) && p d))
  | [] => by simp [s7]
  | d :: R => by
    simp only [List.countP_cons]
    rw [s7_add, ← cnt_s7 p R, s7_one]
theorem cnt_xor (p q : Int → Bool) : ∀ R : List Int, R.countP (fun d => p d && !(q d)) + R.countP (fun d => !(p d) && q d) = R.countP (fun d => p d != q d)
  | [] => rfl
  | d :: R => by
    have ih := cnt_xor p q R
    simp only [List.countP_cons]
    cases p d <;> cases q d <;> simp <;> omega
theorem cost_cnt (L : List Int) (f l e k : Int) : cost L f l e k = (dayR f l).countP (fun d => regB f l e k d != hasI L d) := by
  unfold cost wX wY2
  rw [← List.countP_eq_length_filter, ← List.countP_eq_length_filter]
  exact cnt_xor _ _ _
def tW (L : List Int) (f l e w : Int) (b : Bool) : Nat := (dayR f l).countP (fun d => decide (wd7 d = w) && ((b && cntB f e d) != hasI L d))
theorem cost_t (L : List Int) (f l e k : Int) : cost L f l e k = s7 (fun w => tW L f l e w (bitN k w)) := by
  rw [cost_cnt, cnt_s7]
  refine s7_eq fun w _ _ => List.countP_congr fun d hd => ?_
  have hr := (mem_dayR f l d).1 hd
  by_cases hw : wd7 d = w
  · subst hw; simp [regB, hr]
  · simp [hw]
theorem tW_parts (L : List Int) (f e w : Int) : ∀ R : List Int,
    R.countP (fun d => decide (wd7 d = w) && ((true && cntB f e d) != hasI L d)) = R.countP (fun d => decide (wd7 d = w) && (cntB f e d && !(hasI L d))) + R.countP (fun d => decide (wd7 d = w) && (!(cntB f e d) && hasI L d)) ∧
    R.countP (fun d => decide (wd7 d = w) && ((false && cntB f e d) != hasI L d)) = R.countP (fun d => decide (wd7 d = w) && (cntB f e d && hasI L d)) + R.countP (fun d => decide (wd7 d = w) && (!(cntB f e d) && hasI L d))
  | [] => ⟨rfl, rfl⟩
  | d :: R => by
    obtain ⟨h1, h2⟩ := tW_parts L f e w R
    simp only [List.countP_cons, h1, h2]
    cases decide (wd7 d = w) <;> cases cntB f e d <;> cases hasI L d <;> simp <;> omega
theorem tW_best (L : List Int) (f l e w : Int) (b : Bool) : tW L f l e w (bestB L f l e w) ≤ tW L f l e w b := by
  obtain ⟨h1, h2⟩ := tW_parts L f e w (dayR f l)
  have hb : bestB L f l e w = decide ((dayR f l).countP (fun d => decide (wd7 d = w) && (cntB f e d && !(hasI L d))) < (dayR f l).countP (fun d => decide (wd7 d = w) && (cntB f e d && hasI L d))) := rfl
  unfold tW
  rw [hb]
  by_cases c : (dayR f l).countP (fun d => decide (wd7 d = w) && (cntB f e d && !(hasI L d))) < (dayR f l).countP (fun d => decide (wd7 d = w) && (cntB f e d && hasI L d))
  · rw [decide_eq_true c, h1]
    cases b
    · rw [h2]; omega
    · rw [h1]; exact Nat.le_refl _
  · rw [decide_eq_false c, h2]
    cases b
    · rw [h2]; exact Nat.le_refl _
    · rw [h1]; omega
def num7 (b0 b1 b2 b3 b4 b5 b6 : Bool) : Int := (bif b0 then 1 else 0) + (bif b1 then 2 else 0) + (bif b2 then 4 else 0) + (bif b3 then 8 else 0) + (bif b4 then 16 else 0) + (bif b5 then 32 else 0) + (bif b6 then 64 else 0)
theorem num7_bits : ∀ b0 b1 b2 b3 b4 b5 b6 : Bool, bitN (num7 b0 b1 b2 b3 b4 b5 b6) 0 = b0 ∧ bitN (num7 b0 b1 b2 b3 b4 b5 b6) 1 = b1 ∧ bitN (num7 b0 b1 b2 b3 b4 b5 b6) 2 = b2 ∧ bitN (num7 b0 b1 b2 b3 b4 b5 b6) 3 = b3 ∧
    bitN (num7 b0 b1 b2 b3 b4 b5 b6) 4 = b4 ∧ bitN (num7 b0 b1 b2 b3 b4 b5 b6) 5 = b5 ∧ bitN (num7 b0 b1 b2 b3 b4 b5 b6) 6 = b6 ∧ 0 ≤ num7 b0 b1 b2 b3 b4 b5 b6 ∧ num7 b0 b1 b2 b3 b4 b5 b6 ≤ 127 := by decide +kernel
theorem setS_num (L : List Int) (f l e : Int) : setS L f l e = num7 (bestB L f l e 0) (bestB L f l e 1) (bestB L f l e 2) (bestB L f l e 3) (bestB L f l e 4) (bestB L f l e 5) (bestB L f l e 6) := by
  simp only [setS, setN, wBit, num7]
  rw [Int.zero_add]; rfl
theorem setS_bits (L : List Int) (f l e : Int) (w : Int) (h0 : 0 ≤ w) (h1 : w ≤ 6) : bitN (setS L f l e) w = bestB L f l e w := by
  rw [setS_num]
  obtain ⟨a0, a1, a2, a3, a4, a5, a6, _, _⟩ := num7_bits (bestB L f l e 0) (bestB L f l e 1) (bestB L f l e 2) (bestB L f l e 3) (bestB L f l e 4) (bestB L f l e 5) (bestB L f l e 6)
  rcases (show w = 0 ∨ w = 1 ∨ w = 2 ∨ w = 3 ∨ w = 4 ∨ w = 5 ∨ w = 6 by omega) with rfl | rfl | rfl | rfl | rfl | rfl | rfl
  · exact a0
  · exact a1
  · exact a2
  · exact a3
  · exact a4
  · exact a5
  · exact a6
theorem setS_bd (L : List Int) (f l e : Int) : 0 ≤ setS L f l e ∧ setS L f l e ≤ 127 := by
  rw [setS_num]
  obtain ⟨_, _, _, _, _, _, _, h⟩ := num7_bits (bestB L f l e 0) (bestB L f l e 1) (bestB L f l e 2) (bestB L f l e 3) (bestB L f l e 4) (bestB L f l e 5) (bestB L f l e 6)
  exact h
theorem bstE_bd (L : List Int) (n : Nat) : 1 ≤ bstE L n ∧ bstE L n ≤ (n : Int) + 1 := by
  induction n with
  | zero => simp [bstE]
  | succ n ih => simp only [bstE]; split <;> omega
theorem bstE_min (L : List Int) : ∀ (n : Nat) (e : Int), 1 ≤ e → e ≤ (n : Int) + 1 → costS L (bstE L n) ≤ costS L e
  | 0, e, h1, h2 => by obtain rfl : e = 1 := by omega
                       exact Nat.le_refl _
  | n + 1, e, h1, h2 => by
    simp only [bstE]
    by_cases he : e = (n : Int) + 2
    · subst he; split <;> omega
    · have := bstE_min L n e h1 (by omega)
      split <;> omega
theorem tW_half (L : List Int) (f l w : Int) : 2 * tW L f l 1 w (bestB L f l 1 w) ≤ (dayR f l).countP (fun d => decide (wd7 d = w) && true) := by
  have hc : ∀ d, cntB f 1 d = true := fun d => by simp [cntB]
  have key : ∀ R : List Int, R.countP (fun d => decide (wd7 d = w) && ((true && cntB f 1 d) != hasI L d)) + R.countP (fun d => decide (wd7 d = w) && ((false && cntB f 1 d) != hasI L d)) = R.countP (fun d => decide (wd7 d = w) && true) := by
    intro R
    induction R with
    | nil => rfl
    | cons d R ih =>
      simp only [List.countP_cons, hc] at ih ⊢
      cases decide (wd7 d = w) <;> cases hasI L d <;> simp at ih ⊢ <;> omega
  have h := key (dayR f l)
  have a := tW_best L f l 1 w true
  have b := tW_best L f l 1 w false
  unfold tW at a b ⊢
  omega
theorem costS_one (L : List Int) (h : lstD L ≤ fstD L + 140) : costS L 1 ≤ 70 := by
  have h1 : costS L 1 = s7 (fun w => tW L (fstD L) (lstD L) 1 w (bestB L (fstD L) (lstD L) 1 w)) := by
    unfold costS; rw [cost_t]
    exact s7_eq fun w a b => by rw [setS_bits _ _ _ _ w a b]
  have h2 : s7 (fun w => 2 * tW L (fstD L) (lstD L) 1 w (bestB L (fstD L) (lstD L) 1 w)) ≤ s7 (fun w => (dayR (fstD L) (lstD L)).countP (fun d => decide (wd7 d = w) && true)) := s7_le fun w _ _ => tW_half ..
  rw [← cnt_s7 (fun _ => true)] at h2
  have h3 : (dayR (fstD L) (lstD L)).countP (fun _ => true) ≤ 141 := by
    have := List.countP_le_length (p := fun _ => true) (l := dayR (fstD L) (lstD L))
    rw [dayR, rng_len] at this; rw [dayR]; omega
  rw [h1]; simp only [s7] at h2 ⊢; omega
theorem best_small (L : List Int) (h : lstD L ≤ fstD L + 140) : costS L (bstE L 3) ≤ 70 := Nat.le_trans (bstE_min L 3 1 (by omega) (by omega)) (costS_one L h)
theorem inc_get {L : List Int} (h : Inc L) {i j : Nat} (hij : i < j) (hj : j < L.length) : L.getD i 0 < L.getD j 0 := by
  have := List.pairwise_iff_getElem.1 h i j (by omega) hj hij
  rw [List.getD_eq_getElem?_getD, List.getD_eq_getElem?_getD, List.getElem?_eq_getElem (by omega), List.getElem?_eq_getElem hj]
  exact this
theorem inc_bounds {L : List Int} (h : Inc L) {x : Int} (hx : x ∈ L) : fstD L ≤ x ∧ x ≤ lstD L := by
  obtain ⟨i, hi, rfl⟩ := List.mem_iff_getElem.1 hx
  have e : L[i] = L.getD i 0 := by rw [List.getD_eq_getElem?_getD, List.getElem?_eq_getElem hi]; rfl
  rw [e]; unfold fstD lstD
  constructor
  · by_cases h0 : i = 0
    · subst h0; exact Int.le_refl _
    · have := inc_get h (show 0 < i by omega) hi; omega
  · by_cases h0 : i = L.length - 1
    · subst h0; exact Int.le_refl _
    · have := inc_get h (show i < L.length - 1 by omega) (by omega); omega
theorem mem_fst {L : List Int} (h : L.length ≠ 0) : fstD L ∈ L ∧ lstD L ∈ L := by
  unfold fstD lstD
  rw [List.getD_eq_getElem?_getD, List.getD_eq_getElem?_getD, List.getElem?_eq_getElem (by omega), List.getElem?_eq_getElem (by omega)]
  exact ⟨List.getElem_mem _, List.getElem_mem _⟩
theorem ofE_inv {L : List Int} (h : ofE L = 0) : L.length ≠ 0 ∧ Inc L ∧ (∀ x ∈ L, okDay x = true) ∧ lstD L ≤ fstD L + 140 := by
  unfold ofE at h
  split at h
  · cases h
  · split at h
    · exact absurd h (by assumption)
    · rename_i h1 h2
      split at h
      · cases h
      · obtain ⟨a, b, _⟩ := lstE_inv L none (by simpa using h2)
        exact ⟨h1, a, b, by omega⟩
theorem ofE_mk {L : List Int} (h1 : L.length ≠ 0) (h2 : Inc L) (h3 : ∀ x ∈ L, okDay x = true) (h4 : lstD L ≤ fstD L + 140) : ofE L = 0 := by
  unfold ofE
  rw [if_neg h1, lstE_mk L none h2 h3 (fun q hq => by cases hq), if_neg (by simp), if_neg (by omega)]
theorem filt_reg {f l : Int} {p : Int → Bool} {x : Int} (h : x ∈ (dayR f l).filter p) : (f ≤ x ∧ x ≤ l) ∧ p x = true := by
  rw [List.mem_filter, mem_dayR] at h; exact h
theorem with_valid {L : List Int} {e k : Int} (h : ofE L = 0) (e1 : 1 ≤ e) (e2 : e ≤ 4) (k1 : 0 ≤ k) (k2 : k ≤ 127) (hc : cost L (fstD L) (lstD L) e k ≤ 140) :
    vlE (fstD L) (lstD L) e k (wX L (fstD L) (lstD L) e k) (wY2 L (fstD L) (lstD L) e k) = 0 := by
  obtain ⟨h1, h2, h3, h4⟩ := ofE_inv h
  obtain ⟨m1, m2⟩ := mem_fst h1
  have hle := (inc_bounds h2 m2).1
  refine vlE_mk ?_ ((inc_rng _ _).filter _) ?_ ((inc_rng _ _).filter _) ?_
  · unfold vl0
    rw [h3 _ m1, h3 _ m2, if_neg (by simp), if_neg (by omega), if_neg (by unfold cost at hc; omega)]
  · intro x hx
    have := (filt_reg hx).2
    simp only [excX, Bool.and_eq_true] at this; exact this.1
  · intro x hx
    have hx' := filt_reg hx
    have := hx'.2
    simp only [excY, Bool.and_eq_true] at this
    simp only [outB, Bool.and_eq_true, decide_eq_true_eq]; exact ⟨hx'.1, this.1⟩
theorem with_days {L : List Int} {e k : Int} (h : ofE L = 0) : daysS (fstD L) (lstD L) e k (wX L (fstD L) (lstD L) e k) (wY2 L (fstD L) (lstD L) e k) = L := by
  obtain ⟨h1, h2, h3, h4⟩ := ofE_inv h
  have hb : ∀ x ∈ L, fstD L ≤ x ∧ x ≤ lstD L := fun x hx => inc_bounds h2 hx
  refine inc_ext (inc_daysS ..) h2 fun x => ?_
  unfold daysS
  rw [List.mem_filter, mem_dayR]
  have q1 : hasI (wX L (fstD L) (lstD L) e k) x = true ↔ ((fstD L ≤ x ∧ x ≤ lstD L) ∧ excX L (fstD L) (lstD L) e k x = true) := by
    simp only [hasI, decide_eq_true_eq, wX, List.mem_filter, mem_dayR]
  have q2 : hasI (wY2 L (fstD L) (lstD L) e k) x = true ↔ ((fstD L ≤ x ∧ x ≤ lstD L) ∧ excY L (fstD L) (lstD L) e k x = true) := by
    simp only [hasI, decide_eq_true_eq, wY2, List.mem_filter, mem_dayR]
  have q3 : hasI L x = true ↔ x ∈ L := by simp [hasI]
  unfold dayP
  constructor
  · rintro ⟨hr, hp⟩
    rw [← q3]
    cases ha : hasI (wX L (fstD L) (lstD L) e k) x <;> cases hb' : hasI (wY2 L (fstD L) (lstD L) e k) x <;> rw [ha] at hp q1 <;> rw [hb'] at hp q2
    · simp at hp
      have : ¬ excX L (fstD L) (lstD L) e k x = true := fun q => by have := q1.2 ⟨hr, q⟩; cases this
      simp only [excX, hp, Bool.true_and, Bool.not_eq_true', Bool.not_eq_false] at this
      exact this
    · have := (q2.1 rfl).2
      simp only [excY, Bool.and_eq_true] at this; exact this.2
    · simp at hp
    · have := (q2.1 rfl).2
      simp only [excY, Bool.and_eq_true] at this; exact this.2
  · intro hx
    have hr := hb x hx
    refine ⟨hr, ?_⟩
    have hL := q3.2 hx
    cases hreg : regB (fstD L) (lstD L) e k x
    · have : hasI (wY2 L (fstD L) (lstD L) e k) x = true := q2.2 ⟨hr, by simp [excY, hreg, hL]⟩
      rw [this]; simp
    · have : hasI (wX L (fstD L) (lstD L) e k) x = false := by
        cases hh : hasI (wX L (fstD L) (lstD L) e k) x
        · rfl
        · have := (q1.1 hh).2; simp [excX, hreg, hL] at this
      rw [this]; simp
theorem of_valid {L : List Int} (h : ofE L = 0) : vlE (ofF L) (ofL L) (ofEv L) (ofK L) (ofX L) (ofY L) = 0 := by
  unfold ofF ofL ofEv ofK ofX ofY
  simp only [if_pos h]
  obtain ⟨_, _, _, h4⟩ := ofE_inv h
  have hb := bstE_bd L 3
  have hs := setS_bd L (fstD L) (lstD L) (bstE L 3)
  have hc := best_small L h4
  exact with_valid h hb.1 (by omega) hs.1 hs.2 (by unfold costS at hc; omega)
theorem of_days {L : List Int} (h : ofE L = 0) : daysO (ofF L) (ofL L) (ofEv L) (ofK L) (ofX L) (ofY L) = L := by
  unfold daysO
  rw [if_pos (of_valid h)]
  unfold ofF ofL ofEv ofK ofX ofY
  simp only [if_pos h]
  exact with_days h
end TT
namespace TT
def lastD (f k : Int) : Int := f + 7 * k - 1
def holE (f l : Int) : Option Int → List Int → Int
  | _, [] => 0
  | p, h :: r => if h < f ∨ l < h then 13 else if p.any (fun q => decide (h ≤ q)) = true then 11 else holE f l (some h) r
def termE (f k : Int) (hs : List Int) : Int :=
  if wday f ≠ 0 then 13 else if k < 1 ∨ 20 < k then 3 else if okDay (lastD f k) = false then 13 else if 64 < hs.length then 2 else holE f (lastD f k) none hs
def pv (hs : List Int) (i : Nat) : Option Int := if i = 0 then none else some (hs.getD (i - 1) 0)
theorem holE_step (f l : Int) (hs : List Int) (i : Nat) (hi : i < hs.length) :
    holE f l (pv hs i) (hs.drop i) = if hs.getD i 0 < f ∨ l < hs.getD i 0 then 13 else if 0 < i ∧ hs.getD i 0 ≤ hs.getD (i - 1) 0 then 11 else holE f l (pv hs (i + 1)) (hs.drop (i + 1)) := by
  rw [List.drop_eq_getElem_cons hi]
  have hg : hs.getD i 0 = hs[i] := by simp [hi]
  rw [hg, holE]
  have hp : ((pv hs i).any (fun q => decide (hs[i] ≤ q)) = true) ↔ (0 < i ∧ hs[i] ≤ hs.getD (i - 1) 0) := by
    unfold pv; split <;> simp <;> omega
  simp only [hp]
  have : pv hs (i + 1) = some hs[i] := by unfold pv; simp [hi]
  rw [this]
theorem holE_end (f l : Int) (hs : List Int) : holE f l (pv hs hs.length) (hs.drop hs.length) = 0 := by simp [holE]
theorem holE_start (f l : Int) (hs : List Int) : holE f l (pv hs 0) (hs.drop 0) = holE f l none hs := by simp [pv]
end TT
namespace TT
def atB (f k : Int) (hs : List Int) (week wd : Int) : Bool :=
  decide (termE f k hs = 0 ∧ 1 ≤ week ∧ week ≤ k ∧ 0 ≤ wd ∧ wd ≤ 6) && !(hasI hs (f + 7 * (week - 1) + wd))
def atV (f k : Int) (hs : List Int) (week wd : Int) : Int := bif atB f k hs week wd then f + 7 * (week - 1) + wd else 0
theorem termE_zero {f k : Int} {hs : List Int} (h : termE f k hs = 0) : wday f = 0 ∧ 0 ≤ f ∧ f ≤ 36524 ∧ 1 ≤ k ∧ k ≤ 20 ∧ 0 ≤ lastD f k ∧ lastD f k ≤ 36524 ∧ hs.length ≤ 64 ∧ holE f (lastD f k) none hs = 0 ∧ f % 7 = 2 := by
  unfold termE at h
  by_cases c1 : wday f = 0
  · simp only [c1, ne_eq, not_true_eq_false, if_false] at h
    split at h
    · omega
    · split at h
      · omega
      · split at h
        · omega
        · rename_i a b c
          have ok := okDay_of (show okDay (lastD f k) = true by simpa using b)
          have ok2 : okDay f = true := by
            by_cases c : okDay f = true
            · exact c
            · simp [wday, c] at c1
          have ok3 := okDay_of ok2
          have : (f + 5) % 7 = 0 := by simpa [wday, ok2] using c1
          exact ⟨c1, by omega, by omega, by omega, by omega, ok.1, ok.2, by omega, h, by omega⟩
  · simp [c1] at h
theorem contains_take_succ (hs : List Int) (j : Nat) (hj : j < hs.length) (d : Int) : hasI (hs.take (j + 1)) d = (hasI (hs.take j) d || hs.getD j 0 == d) := by
  have hg : hs.getD j 0 = hs[j] := by simp [hj]
  rw [List.take_succ_eq_append_getElem hj, hg, Bool.eq_iff_iff]
  unfold hasI
  simp only [List.mem_append, List.mem_singleton, decide_eq_true_eq, Bool.or_eq_true, beq_iff_eq]
  constructor
  · rintro (h | h)
    · exact Or.inl h
    · exact Or.inr h.symm
  · rintro (h | h)
    · exact Or.inl h
    · exact Or.inr h.symm
theorem contains_of_get (hs : List Int) (j : Nat) (hj : j < hs.length) (d : Int) (h : hs.getD j 0 = d) : hasI hs d = true := by
  have hg : hs.getD j 0 = hs[j] := by simp [hj]
  rw [hg] at h
  simp only [hasI, decide_eq_true_eq]
  exact h ▸ List.getElem_mem hj
end TT
namespace TT
def bitT (ws : Int) (j : Nat) : Bool := decide (0 ≤ ws ∧ ws / 2 ^ j % 2 = 1)
def daysL (f k : Int) (hs : List Int) (ws wd : Int) : Nat → List Int
  | 0 => []
  | m + 1 => daysL f k hs ws wd m ++ (bif bitT ws m && atB f k hs (m + 1) wd then [atV f k hs (m + 1) wd] else [])
theorem daysL_len (f k : Int) (hs : List Int) (ws wd : Int) (m : Nat) : (daysL f k hs ws wd m).length ≤ m := by
  induction m with
  | zero => simp [daysL]
  | succ m ih => simp only [daysL, List.length_append]; cases bitT ws m && atB f k hs (m + 1) wd <;> simp <;> omega
theorem daysL_hit {f k : Int} {hs : List Int} {ws wd : Int} {m : Nat} (h1 : bitT ws m = true) (h2 : atB f k hs (m + 1) wd = true) : daysL f k hs ws wd (m + 1) = daysL f k hs ws wd m ++ [atV f k hs (m + 1) wd] := by
  simp [daysL, h1, h2]
theorem daysL_miss {f k : Int} {hs : List Int} {ws wd : Int} {m : Nat} (h : bitT ws m = false ∨ atB f k hs (m + 1) wd = false) : daysL f k hs ws wd (m + 1) = daysL f k hs ws wd m := by
  rcases h with h | h <;> simp [daysL, h]
end TT
namespace TT
end TT
namespace TT
def okHol (f l : Int) (hs : List Int) : Prop := List.Pairwise (· < ·) hs ∧ ∀ h ∈ hs, f ≤ h ∧ h ≤ l
theorem holE_ok (f l : Int) : ∀ (hs : List Int) (p : Option Int), (∀ q, p = some q → ∀ h ∈ hs, q < h) → okHol f l hs → holE f l p hs = 0
  | [], _, _, _ => rfl
  | h :: r, p, hp, ⟨h1, h2⟩ => by
    have hb := h2 h (by simp)
    have hc := List.pairwise_cons.1 h1
    have hany : ¬ (p.any (fun q => decide (h ≤ q)) = true) := by
      cases p with
      | none => simp
      | some q => have := hp q rfl h (by simp); simp; omega
    rw [holE, if_neg (by omega), if_neg hany]
    refine holE_ok f l r (some h) (fun q hq x hx => ?_) ⟨hc.2, fun x hx => h2 x (by simp [hx])⟩
    cases hq; exact hc.1 x hx
theorem okHol_snoc {f l d : Int} {hs : List Int} (h : okHol f l hs) (h1 : f ≤ d) (h2 : d ≤ l) (h3 : ∀ x ∈ hs, x < d) : okHol f l (hs ++ [d]) := by
  obtain ⟨a, b⟩ := h
  refine ⟨?_, ?_⟩
  · rw [List.pairwise_append]
    exact ⟨a, by simp, fun x hx y hy => by simp at hy; subst hy; exact h3 x hx⟩
  · intro x hx
    rcases List.mem_append.1 hx with hx | hx
    · exact b x hx
    · simp at hx; subst hx; exact ⟨h1, h2⟩
theorem okHol_nil (f l : Int) : okHol f l [] := ⟨List.Pairwise.nil, fun _ h => by cases h⟩
theorem termE_made {r k : Int} {hs : List Int} (h0 : 0 ≤ r) (h1 : r < 5000) (h2 : 1 ≤ k) (h3 : k ≤ 8) (hl : hs.length ≤ 5) (hh : okHol (2 + 7 * r) (lastD (2 + 7 * r) k) hs) : termE (2 + 7 * r) k hs = 0 := by
  have ok1 : okDay (2 + 7 * r) = true := okDay_mk (by omega) (by omega)
  have ok2 : okDay (lastD (2 + 7 * r) k) = true := okDay_mk (by unfold lastD; omega) (by unfold lastD; omega)
  have hw : wday (2 + 7 * r) = 0 := by simp only [wday, ok1, cond_true]; omega
  unfold termE
  rw [if_neg (by simp [hw]), if_neg (by omega), if_neg (by simp [ok2]), if_neg (by omega)]
  exact holE_ok _ _ _ none (fun q hq => by cases hq) hh
def DayOk (f k : Int) (hs : List Int) (ws wd : Int) (m : Nat) (x : Int) : Prop := ∃ j : Nat, j < m ∧ bitT ws j = true ∧ atB f k hs (j + 1) wd = true ∧ x = f + 7 * j + wd
theorem daysL_spec (f k : Int) (hs : List Int) (ws wd : Int) : ∀ m : Nat, (∀ x ∈ daysL f k hs ws wd m, DayOk f k hs ws wd m x) ∧ List.Pairwise (· < ·) (daysL f k hs ws wd m) ∧ ((daysL f k hs ws wd m).length : Int) ≤ max k 0
  | 0 => ⟨(fun x hx => by simp [daysL] at hx), List.Pairwise.nil, by simp [daysL]; omega⟩
  | m + 1 => by
    obtain ⟨h1, h2, h3⟩ := daysL_spec f k hs ws wd m
    have hl := daysL_len f k hs ws wd m
    by_cases c : bitT ws m = true ∧ atB f k hs (m + 1) wd = true
    · have hV : atV f k hs (m + 1) wd = f + 7 * m + wd := by simp only [atV, c.2, cond_true]; omega
      rw [daysL_hit c.1 c.2, hV]
      refine ⟨fun x hx => ?_, ?_, ?_⟩
      · rcases List.mem_append.1 hx with hx | hx
        · obtain ⟨j, a, b⟩ := h1 x hx; exact ⟨j, by omega, b⟩
        · simp at hx; exact ⟨m, by omega, c.1, c.2, hx⟩
      · rw [List.pairwise_append]
        refine ⟨h2, by simp, fun x hx y hy => ?_⟩
        simp at hy; subst hy
        obtain ⟨j, a, _, _, e⟩ := h1 x hx
        omega
      · have hk : (m : Int) + 1 ≤ k := by
          have := c.2; simp only [atB, Bool.and_eq_true, decide_eq_true_eq] at this; omega
        simp; omega
    · have hm : daysL f k hs ws wd (m + 1) = daysL f k hs ws wd m := daysL_miss (by
        by_cases d : bitT ws m = true
        · right
          by_cases e : atB f k hs (m + 1) wd = true
          · exact absurd ⟨d, e⟩ c
          · simpa using e
        · left; simpa using d)
      rw [hm]
      exact ⟨fun x hx => by obtain ⟨j, a, b⟩ := h1 x hx; exact ⟨j, by omega, b⟩, h2, h3⟩
theorem days_of {f k : Int} {hs : List Int} (ht : termE f k hs = 0) (ws wd : Int) (hl : (daysL f k hs ws wd 20).length ≠ 0) : ofE (daysL f k hs ws wd 20) = 0 := by
  obtain ⟨h1, h2, _⟩ := daysL_spec f k hs ws wd 20
  obtain ⟨_, t1, t2, t3, t4, t5, t6, _⟩ := termE_zero ht
  have hd : ∀ x ∈ daysL f k hs ws wd 20, f ≤ x ∧ x ≤ lastD f k := fun x hx => by
    obtain ⟨j, a, _, b, rfl⟩ := h1 x hx
    simp only [atB, Bool.and_eq_true, decide_eq_true_eq] at b
    unfold lastD
    omega
  obtain ⟨m1, m2⟩ := mem_fst hl
  have q1 := hd _ m1
  have q2 := hd _ m2
  refine ofE_mk hl h2 (fun x hx => ?_) ?_
  · have := hd x hx
    exact okDay_mk (by omega) (by omega)
  · unfold lastD at q1 q2; omega
theorem days_two {f k : Int} {hs : List Int} {ws wd vs vd x : Int} (d0 : 0 ≤ wd ∧ wd ≤ 6) (e0 : 0 ≤ vd ∧ vd ≤ 6) (h1 : x ∈ daysL f k hs ws wd 20) (h2 : x ∈ daysL f k hs vs vd 20) : wd = vd ∧ ∃ j : Nat, j < 20 ∧ bitT ws j = true ∧ bitT vs j = true := by
  obtain ⟨j, a, b, _, e⟩ := (daysL_spec f k hs ws wd 20).1 x h1
  obtain ⟨i, a2, b2, _, e2⟩ := (daysL_spec f k hs vs vd 20).1 x h2
  have : i = j := by omega
  subst this
  exact ⟨by omega, i, a, b, b2⟩
end TT
namespace Go.Proofs.YtcifdllbnbhcdaaGreatDoor.Rc.Cal
open Go.RowKit TT
theorem valid_any (d : Int) (w : World) :
    Calls Tryz.prog 39 #[.int .i64 d] w fun e w' => e = .returned (.bool (okDay d)) ∧ w = w' := by
  go_enter Tryz.func39, Tryz.ntmps39
  go_wp2
  all_goals go_ret
  all_goals exact ⟨ret_bool (by unfold okDay; simp; try omega), rfl⟩
def lp (y : Int) : Bool := y % 4 == 0 && y != 2100
end Go.Proofs.YtcifdllbnbhcdaaGreatDoor.Rc.Cal
