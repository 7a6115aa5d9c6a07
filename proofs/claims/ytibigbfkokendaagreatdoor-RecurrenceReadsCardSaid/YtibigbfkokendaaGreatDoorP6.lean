/- Series in plain Lean: the reference's reading of a rule is the program's. No program in sight. -/
import Derived.Test.YtibigbfkokendaaGreatDoorP5
namespace TT
open Go
/-- the number of some digits, or -1 -/
def numI (s : B8) : Int := match numO 0 s with | none => -1 | some n => n
/-- a set of weekdays and a name: below w -/
def orN (c : B8) (k : Nat) : Nat → Nat
  | 0 => k
  | w + 1 => if c = nmL w then orN c k w ||| 2 ^ w else orN c k w
theorem orN_lt (c : B8) (k : Nat) (hk : k < 128) : ∀ w, w ≤ 7 → orN c k w < 128
  | 0, _ => hk
  | w + 1, h => by
    have ih := orN_lt c k hk w (by omega)
    unfold orN
    split
    · have h2 : (2 : Nat) ^ w < 2 ^ 7 := Nat.pow_lt_pow_right (by decide) (by omega)
      exact Nat.or_lt_two_pow (n := 7) ih h2
    · exact ih
/-- the set that the reference reads from the names, j of them -/
def rkB (s : B8) : Nat → Nat
  | 0 => 0
  | j + 1 => orN ((s.drop (3 * j)).take 2) (rkB s j) 7
theorem rkB_lt (s : B8) : ∀ j, rkB s j < 128
  | 0 => by simp [rkB]
  | j + 1 => orN_lt _ _ (rkB_lt s j) 7 (by omega)
def rkN (t : B8) : Nat → Nat
  | 0 => 0
  | j + 1 => orN ((t.drop (29 + 3 * j)).take 2) (rkN t j) 7
theorem rkN_lt (t : B8) : ∀ j, rkN t j < 128
  | 0 => by simp [rkN]
  | j + 1 => orN_lt _ _ (rkN_lt t j) 7 (by omega)
theorem rkN_mid (p s q : B8) (hp : p.length = 29) : ∀ j, 3 * j ≤ s.length + 1 → rkN (p ++ (s ++ q)) j = rkB s j
  | 0, _ => rfl
  | j + 1, h => by
    have e : ((p ++ (s ++ q)).drop (29 + 3 * j)).take 2 = (s.drop (3 * j)).take 2 := by
      rw [← hp, ← List.drop_drop, List.drop_left, List.drop_append_of_le_length (by omega), List.take_append_of_le_length (by rw [List.length_drop]; omega)]
    rw [rkN, rkB, e, rkN_mid p s q hp j (by omega)]
def rK (t : B8) : Nat := rkN t ((t.length - 43) / 3)
theorem rk_all : ∀ k : Fin 128, rkB (bysL (k.val : Int)) (((bysL (k.val : Int)).length + 1) / 3) = k.val := by decide +kernel
/-- a rule, read by the reference -/
def rp (t : B8) : Option (Nat × Int × Int) :=
  if t.length < 44 then none else
  if numI ((t.drop 21).take 1) < 0 then none else
  if dayE (numI ((t.drop (t.length - 8)).take 4)) (numI (((t.drop (t.length - 8)).drop 4).take 2)) (numI ((t.drop (t.length - 8)).drop 6)) = 0 ∧
      ruleL (numI ((t.drop 21).take 1)).toNat (rK t : Int) (dayN (numI ((t.drop (t.length - 8)).take 4)) (numI (((t.drop (t.length - 8)).drop 4).take 2)) (numI ((t.drop (t.length - 8)).drop 6))) = t then
    some ((numI ((t.drop 21).take 1)).toNat, (rK t : Int), dayN (numI ((t.drop (t.length - 8)).take 4)) (numI (((t.drop (t.length - 8)).drop 4).take 2)) (numI ((t.drop (t.length - 8)).drop 6))) else none
theorem okDate_E {y m d : Int} (h : dayE y m d = 0) : okDate y m d = true := by
  unfold dayE at h
  cases hc : okDate y m d
  · rw [hc] at h; cases h
  · rfl
theorem numI_two (n : Nat) (h : n < 100) : numI (two2 n) = n := by
  have := numO_two 0 n h []
  rw [List.append_nil] at this
  unfold numI; rw [this]; simp [numO]
theorem numI_four (a b : Nat) (ha : a < 100) (hb : b < 100) : numI (two2 a ++ two2 b) = (100 * a + b : Nat) := by
  have := numO_two 0 a ha (two2 b)
  have h2 := numO_two (100 * 0 + a) b hb []
  rw [List.append_nil] at h2
  unfold numI; rw [this, h2]; simp [numO]
theorem numI_one (e : Nat) (h : e < 10) : numI [UInt8.ofNat (48 + e)] = e := by
  unfold numI; simp only [numO]; rw [dig_nat e h, if_pos (by omega)]; simp
theorem numI_digit (s : B8) (h : s.length ≤ 1) : numI s < 10 := by
  match s, h with
  | [], _ => decide
  | [c], _ =>
    unfold numI; simp only [numO]
    by_cases hc : 48 ≤ c.toNat ∧ c.toNat ≤ 57
    · rw [if_pos hc]; simp; omega
    · rw [if_neg hc]; decide
theorem rp_rule (e k : Nat) (l : Int) (he : e < 10) (hk : k < 128) (hl : okDay l = true) : rp (ruleL e (k : Int) l) = some (e, (k : Int), l) := by
  have e1 : ruleL e (k : Int) l = (preL ++ (UInt8.ofNat (48 + e) :: bydL)) ++ (bysL (k : Int) ++ (untL ++ datL l)) := by
    unfold ruleL; simp only [List.append_assoc, List.cons_append, List.nil_append]
  have e2 : ruleL e (k : Int) l = (preL ++ (UInt8.ofNat (48 + e) :: bydL) ++ bysL (k : Int) ++ untL) ++ datL l := by
    rw [e1]; simp only [List.append_assoc]
  have hp : (preL ++ (UInt8.ofNat (48 + e) :: bydL)).length = 29 := rfl
  have hlen : (ruleL e (k : Int) l).length = 44 + (bysL (k : Int)).length := by
    rw [e1, List.length_append, hp, List.length_append, List.length_append, datL_len]
    show 29 + (_ + (7 + 8)) = _
    omega
  have h21 : ((ruleL e (k : Int) l).drop 21).take 1 = [UInt8.ofNat (48 + e)] := by rw [e1]; rfl
  have hd : (ruleL e (k : Int) l).drop ((ruleL e (k : Int) l).length - 8) = datL l := by
    rw [hlen, e2]
    have hz : (preL ++ (UInt8.ofNat (48 + e) :: bydL) ++ bysL (k : Int) ++ untL).length = 44 + (bysL (k : Int)).length - 8 := by
      rw [List.length_append, List.length_append, hp]
      show 29 + _ + 7 = _
      omega
    rw [← hz, List.drop_left]
  have hK : rK (ruleL e (k : Int) l) = k := by
    unfold rK
    rw [hlen, e1, rkN_mid _ _ _ hp _ (by omega)]
    have := rk_all ⟨k, hk⟩
    rw [show 44 + (bysL (k : Int)).length - 43 = (bysL (k : Int)).length + 1 by omega]
    exact this
  obtain ⟨h1, h2⟩ := okDay_of hl
  obtain ⟨y0, y1, _, _⟩ := yearOf_spec l h1 h2
  have hy : pY l = yearOf l := by unfold pY; rw [hl]; rfl
  obtain ⟨_, _, m0, m1, d0, d1⟩ := p_bd l
  rw [← hy] at y0 y1
  have a1 : numI ((datL l).take 4) = pY l := by
    show numI (two2 20 ++ two2 (pY l - 2000).toNat) = _
    rw [numI_four _ _ (by omega) (by omega)]; omega
  have a2 : numI (((datL l).drop 4).take 2) = pM l := by
    show numI (two2 (pM l).toNat) = _
    rw [numI_two _ (by omega)]; omega
  have a3 : numI ((datL l).drop 6) = pD l := by
    show numI (two2 (pD l).toNat) = _
    rw [numI_two _ (by omega)]; omega
  obtain ⟨b1, b2⟩ := dayN_back l h1 h2
  unfold rp
  rw [hd, h21, hK, a1, a2, a3, b1, b2, numI_one e he, if_neg (by omega), if_neg (by omega), Int.toNat_natCast, if_pos ⟨rfl, rfl⟩]
theorem rp_text {t : B8} {e : Nat} {k l : Int} (h : rp t = some (e, k, l)) : t = ruleL e k l ∧ e < 10 ∧ 0 ≤ k ∧ k < 128 ∧ okDay l = true := by
  unfold rp at h
  by_cases h1 : t.length < 44
  · rw [if_pos h1] at h; cases h
  rw [if_neg h1] at h
  by_cases h2 : numI ((t.drop 21).take 1) < 0
  · rw [if_pos h2] at h; cases h
  rw [if_neg h2] at h
  split at h
  · next hc =>
    obtain ⟨c1, c2⟩ := hc
    obtain ⟨hk, _⟩ := date_back _ _ _ (okDate_E c1)
    have hK : (rK t : Int) < 128 := by have := rkN_lt t ((t.length - 43) / 3); unfold rK; omega
    have hn := numI_digit ((t.drop 21).take 1) (by rw [List.length_take]; omega)
    simp only [Option.some.injEq, Prod.mk.injEq] at h
    obtain ⟨rfl, rfl, rfl⟩ := h
    exact ⟨c2.symm, by omega, by omega, hK, hk⟩
  · cases h
theorem rp_pf (t : B8) : rp t = pf t := by
  cases hp : pf t with
  | some x =>
    obtain ⟨e, k, l⟩ := x
    obtain ⟨rfl, he, k0, k1, hl⟩ := pf_text hp
    have := rp_rule e k.toNat l he (by omega) hl
    rw [Int.toNat_of_nonneg k0] at this
    exact this
  | none =>
    cases hr : rp t with
    | none => rfl
    | some x =>
      obtain ⟨e, k, l⟩ := x
      obtain ⟨ht, he, k0, k1, hl⟩ := rp_text hr
      have := pf_rule e k.toNat l he (by omega) hl
      rw [Int.toNat_of_nonneg k0, ← ht, hp] at this
      cases this
/-- a rule with a first day: first, last, every, weekdays and the error -/
def parP (f : Int) (t : B8) : Int × Int × Int × Int × Int :=
  if okDay f then (match pf t with
    | none => (0, 0, 0, 0, 4)
    | some (e, k, l) => if vlE f l e k [] [] = 0 then (f, l, e, k, 0) else (0, 0, 0, 0, 3))
  else (0, 0, 0, 0, 13)
/-- the text of a valid series is read as the series -/
theorem parP_rule (f l e k : Int) (h0 : vlE f l e k [] [] = 0) (e1 : 0 ≤ e) (e2 : e < 10) (k0 : 0 ≤ k) (k1 : k < 128) (hf : okDay f = true) (hl : okDay l = true) :
    parP f (ruleL e.toNat k l) = (f, l, e, k, 0) := by
  have := pf_rule e.toNat k.toNat l (by omega) (by omega) hl
  rw [Int.toNat_of_nonneg k0] at this
  unfold parP
  rw [hf, if_pos rfl, this]
  show (if vlE f l (e.toNat : Int) k [] [] = 0 then _ else _) = _
  rw [Int.toNat_of_nonneg e1, if_pos h0]
end TT
