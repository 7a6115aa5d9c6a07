/- Series in plain Lean: the best weekdays, the fewest exceptions, the days of the series of a list. No program in sight. -/
import Derived.Test.YtibigbfkokendaaGreatDoorP1
namespace TT
def s7 (F : Int → Nat) : Nat := F 0 + F 1 + F 2 + F 3 + F 4 + F 5 + F 6
theorem s7_le {F G : Int → Nat} (h : ∀ w : Int, 0 ≤ w → w ≤ 6 → F w ≤ G w) : s7 F ≤ s7 G := by
  have h0 := h 0 (by decide) (by decide)
  have h1 := h 1 (by decide) (by decide)
  have h2 := h 2 (by decide) (by decide)
  have h3 := h 3 (by decide) (by decide)
  have h4 := h 4 (by decide) (by decide)
  have h5 := h 5 (by decide) (by decide)
  have h6 := h 6 (by decide) (by decide)
  unfold s7; omega
theorem s7_eq {F G : Int → Nat} (h : ∀ w : Int, 0 ≤ w → w ≤ 6 → F w = G w) : s7 F = s7 G :=
  Nat.le_antisymm (s7_le fun w a b => Nat.le_of_eq (h w a b)) (s7_le fun w a b => Nat.le_of_eq (h w a b).symm)
theorem wd_cases (d : Int) : wd7 d = 0 ∨ wd7 d = 1 ∨ wd7 d = 2 ∨ wd7 d = 3 ∨ wd7 d = 4 ∨ wd7 d = 5 ∨ wd7 d = 6 := by have := wd7_bd d; omega
theorem s7_one (d : Int) (b : Bool) : s7 (fun w => if (decide (wd7 d = w) && b) = true then 1 else 0) = if b = true then 1 else 0 := by
  rcases wd_cases d with h | h | h | h | h | h | h <;> cases b <;> simp [s7, h]
theorem s7_add (F G : Int → Nat) : s7 (fun w => F w + G w) = s7 F + s7 G := by simp only [s7]; omega
theorem cnt_s7 (p : Int → Bool) : ∀ R : List Int, R.countP p = s7 (fun w => R.countP (fun d => decide (wd7 d = w) && p d))
  | [] => by simp [s7]
  | d :: R => by
    simp only [List.countP_cons]
    rw [s7_add, ← cnt_s7 p R, s7_one]
theorem cnt_xor (p q : Int → Bool) : ∀ R : List Int, R.countP (fun d => p d && !(q d)) + R.countP (fun d => !(p d) && q d) = R.countP (fun d => p d != q d)
  | [] => rfl
  | d :: R => by
    have ih := cnt_xor p q R
    simp only [List.countP_cons]
    cases p d <;> cases q d <;> simp <;> omega
theorem cost_cnt (L : List Int) (f l e k : Int) : cost L f l e k = (dayR f l).countP (fun d => regB f l e k d != hasI L d) := by
  unfold cost wX wY2
  rw [← List.countP_eq_length_filter, ← List.countP_eq_length_filter]
  exact cnt_xor _ _ _
/-- the exceptions on a weekday, where its bit is b -/
def tW (L : List Int) (f l e w : Int) (b : Bool) : Nat := (dayR f l).countP (fun d => decide (wd7 d = w) && ((b && cntB f e d) != hasI L d))
theorem cost_t (L : List Int) (f l e k : Int) : cost L f l e k = s7 (fun w => tW L f l e w (bitN k w)) := by
  rw [cost_cnt, cnt_s7]
  refine s7_eq fun w _ _ => List.countP_congr fun d hd => ?_
  have hr := (mem_dayR f l d).1 hd
  by_cases hw : wd7 d = w
  · subst hw; simp [regB, hr]
  · simp [hw]
theorem tW_parts (L : List Int) (f e w : Int) : ∀ R : List Int,
    R.countP (fun d => decide (wd7 d = w) && ((true && cntB f e d) != hasI L d)) = R.countP (fun d => decide (wd7 d = w) && (cntB f e d && !(hasI L d))) + R.countP (fun d => decide (wd7 d = w) && (!(cntB f e d) && hasI L d)) ∧
    R.countP (fun d => decide (wd7 d = w) && ((false && cntB f e d) != hasI L d)) = R.countP (fun d => decide (wd7 d = w) && (cntB f e d && hasI L d)) + R.countP (fun d => decide (wd7 d = w) && (!(cntB f e d) && hasI L d))
  | [] => ⟨rfl, rfl⟩
  | d :: R => by
    obtain ⟨h1, h2⟩ := tW_parts L f e w R
    simp only [List.countP_cons, h1, h2]
    cases decide (wd7 d = w) <;> cases cntB f e d <;> cases hasI L d <;> simp <;> omega
theorem tW_best (L : List Int) (f l e w : Int) (b : Bool) : tW L f l e w (bestB L f l e w) ≤ tW L f l e w b := by
  obtain ⟨h1, h2⟩ := tW_parts L f e w (dayR f l)
  have hb : bestB L f l e w = decide ((dayR f l).countP (fun d => decide (wd7 d = w) && (cntB f e d && !(hasI L d))) < (dayR f l).countP (fun d => decide (wd7 d = w) && (cntB f e d && hasI L d))) := rfl
  unfold tW
  rw [hb]
  by_cases c : (dayR f l).countP (fun d => decide (wd7 d = w) && (cntB f e d && !(hasI L d))) < (dayR f l).countP (fun d => decide (wd7 d = w) && (cntB f e d && hasI L d))
  · rw [decide_eq_true c, h1]
    cases b
    · rw [h2]; omega
    · rw [h1]; exact Nat.le_refl _
  · rw [decide_eq_false c, h2]
    cases b
    · rw [h2]; exact Nat.le_refl _
    · rw [h1]; omega
def num7 (b0 b1 b2 b3 b4 b5 b6 : Bool) : Int := (bif b0 then 1 else 0) + (bif b1 then 2 else 0) + (bif b2 then 4 else 0) + (bif b3 then 8 else 0) + (bif b4 then 16 else 0) + (bif b5 then 32 else 0) + (bif b6 then 64 else 0)
theorem num7_bits : ∀ b0 b1 b2 b3 b4 b5 b6 : Bool, bitN (num7 b0 b1 b2 b3 b4 b5 b6) 0 = b0 ∧ bitN (num7 b0 b1 b2 b3 b4 b5 b6) 1 = b1 ∧ bitN (num7 b0 b1 b2 b3 b4 b5 b6) 2 = b2 ∧ bitN (num7 b0 b1 b2 b3 b4 b5 b6) 3 = b3 ∧
    bitN (num7 b0 b1 b2 b3 b4 b5 b6) 4 = b4 ∧ bitN (num7 b0 b1 b2 b3 b4 b5 b6) 5 = b5 ∧ bitN (num7 b0 b1 b2 b3 b4 b5 b6) 6 = b6 ∧ 0 ≤ num7 b0 b1 b2 b3 b4 b5 b6 ∧ num7 b0 b1 b2 b3 b4 b5 b6 ≤ 127 := by decide +kernel
theorem setS_num (L : List Int) (f l e : Int) : setS L f l e = num7 (bestB L f l e 0) (bestB L f l e 1) (bestB L f l e 2) (bestB L f l e 3) (bestB L f l e 4) (bestB L f l e 5) (bestB L f l e 6) := by
  simp only [setS, setN, wBit, num7]
  rw [Int.zero_add]; rfl
theorem setS_bits (L : List Int) (f l e : Int) (w : Int) (h0 : 0 ≤ w) (h1 : w ≤ 6) : bitN (setS L f l e) w = bestB L f l e w := by
  rw [setS_num]
  obtain ⟨a0, a1, a2, a3, a4, a5, a6, _, _⟩ := num7_bits (bestB L f l e 0) (bestB L f l e 1) (bestB L f l e 2) (bestB L f l e 3) (bestB L f l e 4) (bestB L f l e 5) (bestB L f l e 6)
  rcases (show w = 0 ∨ w = 1 ∨ w = 2 ∨ w = 3 ∨ w = 4 ∨ w = 5 ∨ w = 6 by omega) with rfl | rfl | rfl | rfl | rfl | rfl | rfl
  · exact a0
  · exact a1
  · exact a2
  · exact a3
  · exact a4
  · exact a5
  · exact a6
theorem setS_bd (L : List Int) (f l e : Int) : 0 ≤ setS L f l e ∧ setS L f l e ≤ 127 := by
  rw [setS_num]
  obtain ⟨_, _, _, _, _, _, _, h⟩ := num7_bits (bestB L f l e 0) (bestB L f l e 1) (bestB L f l e 2) (bestB L f l e 3) (bestB L f l e 4) (bestB L f l e 5) (bestB L f l e 6)
  exact h
/-- no set of weekdays has fewer exceptions -/
theorem cost_min (L : List Int) (f l e k : Int) : cost L f l e (setS L f l e) ≤ cost L f l e k := by
  rw [cost_t, cost_t]
  refine s7_le fun w h0 h1 => ?_
  rw [setS_bits L f l e w h0 h1]
  exact tW_best ..
theorem bstE_bd (L : List Int) (n : Nat) : 1 ≤ bstE L n ∧ bstE L n ≤ (n : Int) + 1 := by
  induction n with
  | zero => simp [bstE]
  | succ n ih => simp only [bstE]; split <;> omega
theorem bstE_min (L : List Int) : ∀ (n : Nat) (e : Int), 1 ≤ e → e ≤ (n : Int) + 1 → costS L (bstE L n) ≤ costS L e
  | 0, e, h1, h2 => by obtain rfl : e = 1 := by omega
                       exact Nat.le_refl _
  | n + 1, e, h1, h2 => by
    simp only [bstE]
    by_cases he : e = (n : Int) + 2
    · subst he; split <;> omega
    · have := bstE_min L n e h1 (by omega)
      split <;> omega
theorem best_min (L : List Int) (e k : Int) (h1 : 1 ≤ e) (h2 : e ≤ 4) : costS L (bstE L 3) ≤ cost L (fstD L) (lstD L) e k :=
  Nat.le_trans (bstE_min L 3 e h1 (by omega)) (cost_min _ _ _ _ _)
/-- of every week no weekday has more exceptions than half of its days -/
theorem tW_half (L : List Int) (f l w : Int) : 2 * tW L f l 1 w (bestB L f l 1 w) ≤ (dayR f l).countP (fun d => decide (wd7 d = w) && true) := by
  have hc : ∀ d, cntB f 1 d = true := fun d => by simp [cntB]
  have key : ∀ R : List Int, R.countP (fun d => decide (wd7 d = w) && ((true && cntB f 1 d) != hasI L d)) + R.countP (fun d => decide (wd7 d = w) && ((false && cntB f 1 d) != hasI L d)) = R.countP (fun d => decide (wd7 d = w) && true) := by
    intro R
    induction R with
    | nil => rfl
    | cons d R ih =>
      simp only [List.countP_cons, hc] at ih ⊢
      cases decide (wd7 d = w) <;> cases hasI L d <;> simp at ih ⊢ <;> omega
  have h := key (dayR f l)
  have a := tW_best L f l 1 w true
  have b := tW_best L f l 1 w false
  unfold tW at a b ⊢
  omega
theorem costS_one (L : List Int) (h : lstD L ≤ fstD L + 140) : costS L 1 ≤ 70 := by
  have h1 : costS L 1 = s7 (fun w => tW L (fstD L) (lstD L) 1 w (bestB L (fstD L) (lstD L) 1 w)) := by
    unfold costS; rw [cost_t]
    exact s7_eq fun w a b => by rw [setS_bits _ _ _ _ w a b]
  have h2 : s7 (fun w => 2 * tW L (fstD L) (lstD L) 1 w (bestB L (fstD L) (lstD L) 1 w)) ≤ s7 (fun w => (dayR (fstD L) (lstD L)).countP (fun d => decide (wd7 d = w) && true)) := s7_le fun w _ _ => tW_half ..
  rw [← cnt_s7 (fun _ => true)] at h2
  have h3 : (dayR (fstD L) (lstD L)).countP (fun _ => true) ≤ 141 := by
    have := List.countP_le_length (p := fun _ => true) (l := dayR (fstD L) (lstD L))
    rw [dayR, rng_len] at this; rw [dayR]; omega
  rw [h1]; simp only [s7] at h2 ⊢; omega
theorem best_small (L : List Int) (h : lstD L ≤ fstD L + 140) : costS L (bstE L 3) ≤ 70 := Nat.le_trans (bstE_min L 3 1 (by omega) (by omega)) (costS_one L h)

/-! ### The days of the series of a list -/

theorem inc_get {L : List Int} (h : Inc L) {i j : Nat} (hij : i < j) (hj : j < L.length) : L.getD i 0 < L.getD j 0 := by
  have := List.pairwise_iff_getElem.1 h i j (by omega) hj hij
  rw [List.getD_eq_getElem?_getD, List.getD_eq_getElem?_getD, List.getElem?_eq_getElem (by omega), List.getElem?_eq_getElem hj]
  exact this
theorem inc_bounds {L : List Int} (h : Inc L) {x : Int} (hx : x ∈ L) : fstD L ≤ x ∧ x ≤ lstD L := by
  obtain ⟨i, hi, rfl⟩ := List.mem_iff_getElem.1 hx
  have e : L[i] = L.getD i 0 := by rw [List.getD_eq_getElem?_getD, List.getElem?_eq_getElem hi]; rfl
  rw [e]; unfold fstD lstD
  constructor
  · by_cases h0 : i = 0
    · subst h0; exact Int.le_refl _
    · have := inc_get h (show 0 < i by omega) hi; omega
  · by_cases h0 : i = L.length - 1
    · subst h0; exact Int.le_refl _
    · have := inc_get h (show i < L.length - 1 by omega) (by omega); omega
theorem mem_fst {L : List Int} (h : L.length ≠ 0) : fstD L ∈ L ∧ lstD L ∈ L := by
  unfold fstD lstD
  rw [List.getD_eq_getElem?_getD, List.getD_eq_getElem?_getD, List.getElem?_eq_getElem (by omega), List.getElem?_eq_getElem (by omega)]
  exact ⟨List.getElem_mem _, List.getElem_mem _⟩
theorem ofE_inv {L : List Int} (h : ofE L = 0) : L.length ≠ 0 ∧ Inc L ∧ (∀ x ∈ L, okDay x = true) ∧ lstD L ≤ fstD L + 140 := by
  unfold ofE at h
  split at h
  · cases h
  · split at h
    · exact absurd h (by assumption)
    · rename_i h1 h2
      split at h
      · cases h
      · obtain ⟨a, b, _⟩ := lstE_inv L none (by simpa using h2)
        exact ⟨h1, a, b, by omega⟩
theorem ofE_mk {L : List Int} (h1 : L.length ≠ 0) (h2 : Inc L) (h3 : ∀ x ∈ L, okDay x = true) (h4 : lstD L ≤ fstD L + 140) : ofE L = 0 := by
  unfold ofE
  rw [if_neg h1, lstE_mk L none h2 h3 (fun q hq => by cases hq), if_neg (by simp), if_neg (by omega)]
theorem filt_reg {f l : Int} {p : Int → Bool} {x : Int} (h : x ∈ (dayR f l).filter p) : (f ≤ x ∧ x ≤ l) ∧ p x = true := by
  rw [List.mem_filter, mem_dayR] at h; exact h
theorem with_valid {L : List Int} {e k : Int} (h : ofE L = 0) (e1 : 1 ≤ e) (e2 : e ≤ 4) (k1 : 0 ≤ k) (k2 : k ≤ 127) (hc : cost L (fstD L) (lstD L) e k ≤ 140) :
    vlE (fstD L) (lstD L) e k (wX L (fstD L) (lstD L) e k) (wY2 L (fstD L) (lstD L) e k) = 0 := by
  obtain ⟨h1, h2, h3, h4⟩ := ofE_inv h
  obtain ⟨m1, m2⟩ := mem_fst h1
  have hle := (inc_bounds h2 m2).1
  refine vlE_mk ?_ ((inc_rng _ _).filter _) ?_ ((inc_rng _ _).filter _) ?_
  · unfold vl0
    rw [h3 _ m1, h3 _ m2, if_neg (by simp), if_neg (by omega), if_neg (by unfold cost at hc; omega)]
  · intro x hx
    have := (filt_reg hx).2
    simp only [excX, Bool.and_eq_true] at this; exact this.1
  · intro x hx
    have hx' := filt_reg hx
    have := hx'.2
    simp only [excY, Bool.and_eq_true] at this
    simp only [outB, Bool.and_eq_true, decide_eq_true_eq]; exact ⟨hx'.1, this.1⟩
theorem with_days {L : List Int} {e k : Int} (h : ofE L = 0) : daysS (fstD L) (lstD L) e k (wX L (fstD L) (lstD L) e k) (wY2 L (fstD L) (lstD L) e k) = L := by
  obtain ⟨h1, h2, h3, h4⟩ := ofE_inv h
  have hb : ∀ x ∈ L, fstD L ≤ x ∧ x ≤ lstD L := fun x hx => inc_bounds h2 hx
  refine inc_ext (inc_daysS ..) h2 fun x => ?_
  unfold daysS
  rw [List.mem_filter, mem_dayR]
  have q1 : hasI (wX L (fstD L) (lstD L) e k) x = true ↔ ((fstD L ≤ x ∧ x ≤ lstD L) ∧ excX L (fstD L) (lstD L) e k x = true) := by
    simp only [hasI, decide_eq_true_eq, wX, List.mem_filter, mem_dayR]
  have q2 : hasI (wY2 L (fstD L) (lstD L) e k) x = true ↔ ((fstD L ≤ x ∧ x ≤ lstD L) ∧ excY L (fstD L) (lstD L) e k x = true) := by
    simp only [hasI, decide_eq_true_eq, wY2, List.mem_filter, mem_dayR]
  have q3 : hasI L x = true ↔ x ∈ L := by simp [hasI]
  unfold dayP
  constructor
  · rintro ⟨hr, hp⟩
    rw [← q3]
    cases ha : hasI (wX L (fstD L) (lstD L) e k) x <;> cases hb' : hasI (wY2 L (fstD L) (lstD L) e k) x <;> rw [ha] at hp q1 <;> rw [hb'] at hp q2
    · simp at hp
      have : ¬ excX L (fstD L) (lstD L) e k x = true := fun q => by have := q1.2 ⟨hr, q⟩; cases this
      simp only [excX, hp, Bool.true_and, Bool.not_eq_true', Bool.not_eq_false] at this
      exact this
    · have := (q2.1 rfl).2
      simp only [excY, Bool.and_eq_true] at this; exact this.2
    · simp at hp
    · have := (q2.1 rfl).2
      simp only [excY, Bool.and_eq_true] at this; exact this.2
  · intro hx
    have hr := hb x hx
    refine ⟨hr, ?_⟩
    have hL := q3.2 hx
    cases hreg : regB (fstD L) (lstD L) e k x
    · have : hasI (wY2 L (fstD L) (lstD L) e k) x = true := q2.2 ⟨hr, by simp [excY, hreg, hL]⟩
      rw [this]; simp
    · have : hasI (wX L (fstD L) (lstD L) e k) x = false := by
        cases hh : hasI (wX L (fstD L) (lstD L) e k) x
        · rfl
        · have := (q1.1 hh).2; simp [excX, hreg, hL] at this
      rw [this]; simp
theorem of_valid {L : List Int} (h : ofE L = 0) : vlE (ofF L) (ofL L) (ofEv L) (ofK L) (ofX L) (ofY L) = 0 := by
  unfold ofF ofL ofEv ofK ofX ofY
  simp only [if_pos h]
  obtain ⟨_, _, _, h4⟩ := ofE_inv h
  have hb := bstE_bd L 3
  have hs := setS_bd L (fstD L) (lstD L) (bstE L 3)
  have hc := best_small L h4
  exact with_valid h hb.1 (by omega) hs.1 hs.2 (by unfold costS at hc; omega)
theorem of_days {L : List Int} (h : ofE L = 0) : daysO (ofF L) (ofL L) (ofEv L) (ofK L) (ofX L) (ofY L) = L := by
  unfold daysO
  rw [if_pos (of_valid h)]
  unfold ofF ofL ofEv ofK ofX ofY
  simp only [if_pos h]
  exact with_days h

/-! ### How many days two lists do not share -/

def symD (L M : List Int) : Nat := (L.filter (fun x => !(hasI M x))).length + (M.filter (fun x => !(hasI L x))).length
theorem symD_nil (M : List Int) : symD [] M = M.length := by
  have h : M.filter (fun x => !(hasI [] x)) = M := List.filter_eq_self.2 (fun x _ => by simp [hasI])
  unfold symD; rw [h]; simp
theorem symD_nil2 (L : List Int) : symD L [] = L.length := by
  have h : L.filter (fun x => !(hasI [] x)) = L := List.filter_eq_self.2 (fun x _ => by simp [hasI])
  unfold symD; rw [h]; simp
theorem hasI_cons_ne {a x : Int} {L : List Int} (h : x ≠ a) : hasI (a :: L) x = hasI L x := by simp [hasI, h]
theorem filt_congr {L M N : List Int} (h : ∀ x ∈ L, hasI M x = hasI N x) : L.filter (fun x => !(hasI M x)) = L.filter (fun x => !(hasI N x)) :=
  List.filter_congr fun x hx => by rw [h x hx]
theorem symD_lt {a : Int} {L M : List Int} (_hL : Inc (a :: L)) (hM : ∀ x ∈ M, a < x) : symD (a :: L) M = 1 + symD L M := by
  unfold symD
  have h1 : hasI M a = false := by simp only [hasI, decide_eq_false_iff_not]; intro h; have := hM a h; omega
  rw [List.filter_cons, h1, if_pos (by rfl), List.length_cons, filt_congr (L := M) (M := a :: L) (N := L) (fun x hx => hasI_cons_ne (by have := hM x hx; omega))]
  omega
theorem symD_gt {b : Int} {L M : List Int} (_hM : Inc (b :: M)) (hL : ∀ x ∈ L, b < x) : symD L (b :: M) = 1 + symD L M := by
  unfold symD
  have h1 : hasI L b = false := by simp only [hasI, decide_eq_false_iff_not]; intro h; have := hL b h; omega
  rw [List.filter_cons (x := b), h1, if_pos (by rfl), List.length_cons, filt_congr (L := L) (M := b :: M) (N := M) (fun x hx => hasI_cons_ne (by have := hL x hx; omega))]
  omega
theorem symD_eq {a : Int} {L M : List Int} (hL : Inc (a :: L)) (hM : Inc (a :: M)) : symD (a :: L) (a :: M) = symD L M := by
  unfold symD
  have h1 : hasI (a :: M) a = true := by simp [hasI]
  have h2 : hasI (a :: L) a = true := by simp [hasI]
  have hL' := (List.pairwise_cons.1 hL).1
  have hM' := (List.pairwise_cons.1 hM).1
  rw [List.filter_cons, h1, if_neg (by simp), List.filter_cons, h2, if_neg (by simp)]
  rw [filt_congr (L := L) (M := a :: M) (N := M) (fun x hx => hasI_cons_ne (by have := hL' x hx; omega)), filt_congr (L := M) (M := a :: L) (N := L) (fun x hx => hasI_cons_ne (by have := hM' x hx; omega))]
theorem symD_cost {L : List Int} {f l e k : Int} (h : Inc L) (hb : ∀ x ∈ L, f ≤ x ∧ x ≤ l) : symD L (daysS f l e k [] []) = cost L f l e k := by
  have hM : ∀ d ∈ dayR f l, hasI (daysS f l e k [] []) d = regB f l e k d := fun d hd => by
    rw [Bool.eq_iff_iff]; simp only [hasI, decide_eq_true_eq, daysS, List.mem_filter, dayP, hd, true_and, List.not_mem_nil, decide_false, Bool.not_false, Bool.and_true, Bool.or_false]
  rw [cost_cnt, ← cnt_xor]
  unfold symD
  rw [Nat.add_comm]
  congr 1
  · have : daysS f l e k [] [] = (dayR f l).filter (fun d => regB f l e k d) := List.filter_congr fun d _ => by simp [dayP, hasI]
    rw [this, List.filter_filter, ← List.countP_eq_length_filter]
    refine List.countP_congr fun d _ => ?_
    cases regB f l e k d <;> cases hasI L d <;> simp
  · have e0 : L.filter (fun x => !(hasI (daysS f l e k [] []) x)) = ((dayR f l).filter (hasI L)).filter (fun x => !(hasI (daysS f l e k [] []) x)) := by rw [inc_self h hb]
    rw [e0, List.filter_filter, ← List.countP_eq_length_filter]
    refine List.countP_congr fun d hd => ?_
    rw [hM d hd]
end TT
