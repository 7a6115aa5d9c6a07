/- Series in plain Lean: the text of a rule, read. No program in sight. -/
import Derived.Test.YtibigbfkokendaaGreatDoorP3
import Derived.Lib.Strings
import Derived.WalkKit
namespace TT
open Go
/-- the number of some digits -/
def numO : Nat → B8 → Option Nat
  | acc, [] => some acc
  | acc, c :: r => if 48 ≤ c.toNat ∧ c.toNat ≤ 57 then numO (10 * acc + (c.toNat - 48)) r else none
theorem numO_div : ∀ (s : B8) (acc n : Nat), numO acc s = some n → n / 10 ^ s.length = acc
  | [], acc, n, h => by simp [numO] at h; subst h; simp
  | c :: r, acc, n, h => by
    unfold numO at h
    by_cases hc : 48 ≤ c.toNat ∧ c.toNat ≤ 57
    · rw [if_pos hc] at h
      have ih := numO_div r _ n h
      rw [List.length_cons, Nat.pow_succ, ← Nat.div_div_eq_div_mul, ih]; omega
    · rw [if_neg hc] at h; cases h
theorem numO_inj : ∀ (s t : B8) (a b n : Nat), s.length = t.length → numO a s = some n → numO b t = some n → s = t
  | [], [], _, _, _, _, _, _ => rfl
  | [], _ :: _, _, _, _, hl, _, _ => by simp at hl
  | _ :: _, [], _, _, _, hl, _, _ => by simp at hl
  | c :: r, d :: q, a, b, n, hl, h1, h2 => by
    have hl' : r.length = q.length := by simpa using hl
    unfold numO at h1 h2
    by_cases hc : 48 ≤ c.toNat ∧ c.toNat ≤ 57
    · by_cases hd : 48 ≤ d.toNat ∧ d.toNat ≤ 57
      · rw [if_pos hc] at h1; rw [if_pos hd] at h2
        have e1 := numO_div r _ n h1
        have e2 := numO_div q _ n h2
        rw [hl'] at e1
        have hcd : c = d := UInt8.toNat_inj.1 (by omega)
        rw [numO_inj r q _ _ n hl' h1 h2, hcd]
      · rw [if_neg hd] at h2; cases h2
    · rw [if_neg hc] at h1; cases h1
theorem dig_nat (d : Nat) (h : d < 10) : (UInt8.ofNat (48 + d)).toNat = 48 + d := by simp; omega
theorem numO_two (acc n : Nat) (h : n < 100) (r : B8) : numO acc (two2 n ++ r) = numO (100 * acc + n) r := by
  simp only [two2, List.cons_append, List.nil_append]
  rw [numO, dig_nat _ (by omega), if_pos (by omega), numO, dig_nat _ (by omega), if_pos (by omega)]
  congr 1; omega
theorem numO_dat (l : Int) (h : okDay l = true) : numO 0 (datL l) = some ((pY l).toNat * 10000 + (pM l).toNat * 100 + (pD l).toNat) := by
  obtain ⟨h1, h2⟩ := okDay_of h
  obtain ⟨y0, y1, _, _⟩ := yearOf_spec l h1 h2
  have hy : pY l = yearOf l := by unfold pY; rw [h]; rfl
  obtain ⟨_, _, m0, m1, d0, d1⟩ := p_bd l
  rw [← hy] at y0 y1
  have e : datL l = two2 20 ++ (two2 (pY l - 2000).toNat ++ (two2 (pM l).toNat ++ (two2 (pD l).toNat ++ []))) := by
    unfold datL; rw [List.append_nil, List.append_assoc, List.append_assoc]; rfl
  rw [e, numO_two _ _ (by omega), numO_two _ _ (by omega), numO_two _ _ (by omega), numO_two _ _ (by omega), numO]
  congr 1; omega
theorem date_back (y m d : Int) (h : okDate y m d = true) : okDay (dayN y m d) = true ∧ pY (dayN y m d) = y ∧ pM (dayN y m d) = m ∧ pD (dayN y m d) = d := by
  have h' : 2000 ≤ y ∧ y ≤ 2099 ∧ 1 ≤ m ∧ m ≤ 12 ∧ 1 ≤ d ∧ d ≤ ml y m := by simpa [okDate] using h
  obtain ⟨y1, y2, m1, m2, d1, d2⟩ := h'
  have hn : dayN y m d = d - 1 + dby y + dbm y m := by unfold dayN; rw [h]; rfl
  obtain ⟨b1, b2⟩ := dby_bd y y1 (by omega)
  obtain ⟨b3, b4⟩ := dby_bd (y + 1) (by omega) (by omega)
  have b5 := dby_succ y y1 y2
  have b6 := dbm_le_yd y m m1 m2
  obtain ⟨b7, _⟩ := dbm_bd y m m1 (by omega)
  generalize hx : dayN y m d = n at *
  have hk : okDay n = true := okDay_mk (by omega) (by omega)
  have hy := yearOf_eq n y (by omega) (by omega) (by omega) (by omega) (by omega) (by omega)
  have hm := monthOf_eq n y m hy m1 m2 (by omega) (by omega)
  have hd := domOf_eq n y m hy hm
  refine ⟨hk, ?_, ?_, ?_⟩
  · unfold pY; rw [hk]; exact hy
  · unfold pM; rw [hk]; exact hm
  · unfold pD; rw [hk]; show domOf n = d; rw [hd]; omega
/-- a date of eight digits: its day, and whether it is one -/
def datP (s : B8) : Int × Bool := if s.length = 8 then (match numO 0 s with | none => (0, false) | some n => (dayN (n / 10000 : Nat) (n / 100 % 100 : Nat) (n % 100 : Nat), okDate (n / 10000 : Nat) (n / 100 % 100 : Nat) (n % 100 : Nat))) else (0, false)
theorem datP_dat (l : Int) (h : okDay l = true) : datP (datL l) = (l, true) := by
  obtain ⟨h1, h2⟩ := okDay_of h
  obtain ⟨y0, y1, _, _⟩ := yearOf_spec l h1 h2
  have hy : pY l = yearOf l := by unfold pY; rw [h]; rfl
  obtain ⟨_, _, m0, m1, d0, d1⟩ := p_bd l
  rw [← hy] at y0 y1
  unfold datP
  rw [if_pos (datL_len l), numO_dat l h]
  obtain ⟨e1, e2⟩ := dayN_back l h1 h2
  have a1 : ((((pY l).toNat * 10000 + (pM l).toNat * 100 + (pD l).toNat) / 10000 : Nat) : Int) = pY l := by omega
  have a2 : ((((pY l).toNat * 10000 + (pM l).toNat * 100 + (pD l).toNat) / 100 % 100 : Nat) : Int) = pM l := by omega
  have a3 : ((((pY l).toNat * 10000 + (pM l).toNat * 100 + (pD l).toNat) % 100 : Nat) : Int) = pD l := by omega
  show (dayN _ _ _, okDate _ _ _) = _
  rw [a1, a2, a3, e1]
  have : okDate (pY l) (pM l) (pD l) = true := by
    unfold dayE at e2
    cases hc : okDate (pY l) (pM l) (pD l)
    · rw [hc] at e2; cases e2
    · rfl
  rw [this]
theorem datP_yes {s : B8} {l : Int} (h : datP s = (l, true)) : s = datL l ∧ okDay l = true := by
  unfold datP at h
  by_cases hl : s.length = 8
  · rw [if_pos hl] at h
    cases hn : numO 0 s with
    | none => rw [hn] at h; cases h
    | some n =>
      rw [hn] at h
      simp only [Prod.mk.injEq] at h
      obtain ⟨h1, h2⟩ := h
      obtain ⟨k, py, pm, pd⟩ := date_back _ _ _ h2
      rw [h1] at k py pm pd
      refine ⟨numO_inj s (datL l) 0 0 n (by rw [hl, datL_len]) hn ?_, k⟩
      rw [numO_dat l k, py, pm, pd]
      congr 1; omega
  · rw [if_neg hl] at h; cases h
/-- the weekdays read from a text, in order: the set and what stands behind -/
def wk : Nat → Int → B8 → Int × B8
  | 0, set, s => if 0 < set then (0, []) else (0, s)
  | r + 1, set, s => if Lib.hasPrefix s (nmL (6 - r)) then
      (if Lib.hasPrefix (Lib.trimPrefix s (nmL (6 - r))) [44] then wk r (set + 2 ^ (6 - r)) (Lib.trimPrefix (Lib.trimPrefix s (nmL (6 - r))) [44]) else (set + 2 ^ (6 - r), Lib.trimPrefix s (nmL (6 - r))))
      else wk r set s
theorem pre_app {s p : B8} (h : Lib.hasPrefix s p = true) : s = p ++ Lib.trimPrefix s p := by
  unfold Lib.trimPrefix; rw [if_pos h]
  obtain ⟨t, rfl⟩ := List.isPrefixOf_iff_prefix.1 h
  rw [List.drop_left]
theorem pre_yes (p x : B8) : Lib.hasPrefix (p ++ x) p = true := List.isPrefixOf_iff_prefix.2 (List.prefix_append p x)
theorem trim_yes (p x : B8) : Lib.trimPrefix (p ++ x) p = x := by unfold Lib.trimPrefix; rw [if_pos (pre_yes p x), List.drop_left]
/-- the names of the weekdays of a set, from 7 - r on -/
def byU (k : Int) : Nat → List B8
  | 0 => []
  | r + 1 => (bif bitN k ((6 - r : Nat) : Int) then [nmL (6 - r)] else []) ++ byU k r
theorem by_same : ∀ k : Fin 128, byL (k.val : Int) 7 = byU (k.val : Int) 7 := by decide +kernel
theorem bitN_mod {k : Int} {d : Nat} : bitN k d = decide (k / 2 ^ d % 2 = 1) := by unfold bitN; rw [Int.toNat_natCast]
theorem byU_nil : ∀ (r : Nat) {k : Int}, r ≤ 7 → 0 ≤ k → k < 2 ^ (7 - r) → byU k r = []
  | 0, _, _, _, _ => rfl
  | r + 1, k, hr, h0, h => by
    have e : (7 : Nat) - r = (6 - r) + 1 := by omega
    have e2 : (7 : Nat) - (r + 1) = 6 - r := by omega
    rw [e2] at h
    have hk : k / 2 ^ (6 - r) = 0 := Int.ediv_eq_zero_of_lt h0 h
    have hp : (0 : Int) < 2 ^ (6 - r) := Int.pow_pos (by decide)
    unfold byU
    rw [bitN_mod, hk, byU_nil r (by omega) h0 (by rw [e, Int.pow_succ]; omega)]; rfl
theorem mod_split (k : Int) (d : Nat) (_h0 : 0 ≤ k) : k % 2 ^ (d + 1) = k % 2 ^ d + 2 ^ d * (k / 2 ^ d % 2) := by
  rw [Int.pow_succ]
  have hp : (0 : Int) < 2 ^ d := Int.pow_pos (by decide)
  generalize (2 : Int) ^ d = p at *
  have h1 := Int.mul_ediv_add_emod k p
  have h2 := Int.mul_ediv_add_emod (k / p) 2
  have h3 := Int.emod_nonneg k (show p ≠ 0 by omega)
  have h4 := Int.emod_lt_of_pos k hp
  have h5 : k / p % 2 = 0 ∨ k / p % 2 = 1 := by omega
  generalize k / p % 2 = b at *
  generalize k % p = r at *
  have h6 : k = p * 2 * (k / p / 2) + (r + p * b) := by
    have : p * (2 * (k / p / 2) + b) = p * 2 * (k / p / 2) + p * b := by rw [Int.mul_add, Int.mul_assoc]
    rw [h2] at this; omega
  have h7 : 0 ≤ r + p * b := by rcases h5 with rfl | rfl <;> omega
  have h8 : r + p * b < p * 2 := by rcases h5 with rfl | rfl <;> omega
  rw [h6, Int.add_comm, Int.add_mul_emod_self_left, Int.emod_eq_of_lt h7 h8]
theorem wk_yes : ∀ (r : Nat) (set : Int) (s : B8) (k : Int) (x : B8), r ≤ 7 → 0 ≤ set → set < 2 ^ (7 - r) → wk r set s = (k, x) → x ≠ [] →
    (0 ≤ k ∧ k < 128 ∧ k % 2 ^ (7 - r) = set) ∧ ((set = 0 ∧ k = 0 ∧ x = s) ∨ (byU k r ≠ [] ∧ s = Lib.join (byU k r) [44] ++ x))
  | 0, set, s, k, x, _, h0, h1, h, hx => by
    unfold wk at h
    by_cases hs : 0 < set
    · rw [if_pos hs] at h; cases h; exact absurd rfl hx
    · rw [if_neg hs] at h; cases h
      have : set = 0 := by omega
      subst this
      exact ⟨⟨by omega, by omega, by decide⟩, Or.inl ⟨rfl, rfl, rfl⟩⟩
  | r + 1, set, s, k, x, hr, h0, h1, h, hx => by
    have e : (7 : Nat) - r = (6 - r) + 1 := by omega
    have e2 : (7 : Nat) - (r + 1) = 6 - r := by omega
    rw [e2] at h1 ⊢
    have hp : (0 : Int) < 2 ^ (6 - r) := Int.pow_pos (by decide)
    have hp7 : (2 : Int) ^ (6 - r) ≤ 64 := by
      have : (2 : Nat) ^ (6 - r) ≤ 2 ^ 6 := Nat.pow_le_pow_right (by decide) (by omega)
      exact_mod_cast this
    unfold wk at h
    by_cases hn : Lib.hasPrefix s (nmL (6 - r)) = true
    · rw [if_pos hn] at h
      have es := pre_app hn
      by_cases hc : Lib.hasPrefix (Lib.trimPrefix s (nmL (6 - r))) [44] = true
      · rw [if_pos hc] at h
        have es2 := pre_app hc
        obtain ⟨⟨k0, k1, k2⟩, hh⟩ := wk_yes r (set + 2 ^ (6 - r)) _ k x (by omega) (by omega) (by rw [e, Int.pow_succ]; omega) h hx
        rw [e, mod_split k _ k0] at k2
        have m0 := Int.emod_nonneg k (show (2 : Int) ^ (6 - r) ≠ 0 by omega)
        have m1 := Int.emod_lt_of_pos k hp
        have hb : k / 2 ^ (6 - r) % 2 = 1 := by
          rcases (show k / 2 ^ (6 - r) % 2 = 0 ∨ k / 2 ^ (6 - r) % 2 = 1 by omega) with hb | hb
          · rw [hb] at k2; omega
          · exact hb
        rw [hb] at k2
        refine ⟨⟨k0, k1, by omega⟩, Or.inr ?_⟩
        have hbit : bitN k ((6 - r : Nat) : Int) = true := by rw [bitN_mod, hb]; rfl
        rcases hh with ⟨hs0, _, _⟩ | ⟨hne, hjoin⟩
        · omega
        · have eu : byU k (r + 1) = nmL (6 - r) :: byU k r := by rw [byU, hbit]; rfl
          rw [eu]
          refine ⟨by simp, ?_⟩
          cases hu : byU k r with
          | nil => exact absurd hu hne
          | cons y ys =>
            rw [hu] at hjoin
            rw [Lib.join_cons] at hjoin ⊢
            rw [es, es2, hjoin]
            simp [Lib.joinTail]
      · rw [if_neg hc] at h
        cases h
        have hk : (set + 2 ^ (6 - r)) / 2 ^ (6 - r) = 1 := by
          rw [Int.add_ediv_of_dvd_right (Int.dvd_refl _), Int.ediv_self (by omega), Int.ediv_eq_zero_of_lt h0 h1]; rfl
        refine ⟨⟨by omega, by omega, ?_⟩, Or.inr ?_⟩
        · rw [Int.add_emod_right, Int.emod_eq_of_lt h0 h1]
        · have hbit : bitN (set + 2 ^ (6 - r)) ((6 - r : Nat) : Int) = true := by rw [bitN_mod, hk]; rfl
          have eu : byU (set + 2 ^ (6 - r)) (r + 1) = [nmL (6 - r)] := by
            rw [byU, hbit, byU_nil r (by omega) (by omega) (by rw [e, Int.pow_succ]; omega)]; rfl
          rw [eu]
          refine ⟨by simp, ?_⟩
          rw [Lib.join_cons]
          simpa [Lib.joinTail] using es
    · rw [if_neg hn] at h
      obtain ⟨⟨k0, k1, k2⟩, hh⟩ := wk_yes r set s k x (by omega) h0 (by rw [e, Int.pow_succ]; omega) h hx
      rw [e, mod_split k _ k0] at k2
      have m0 := Int.emod_nonneg k (show (2 : Int) ^ (6 - r) ≠ 0 by omega)
      have hb : k / 2 ^ (6 - r) % 2 = 0 := by
        rcases (show k / 2 ^ (6 - r) % 2 = 0 ∨ k / 2 ^ (6 - r) % 2 = 1 by omega) with hb | hb
        · exact hb
        · rw [hb] at k2; omega
      rw [hb] at k2
      have hbit : bitN k ((6 - r : Nat) : Int) = false := by rw [bitN_mod, hb]; rfl
      have eu : byU k (r + 1) = byU k r := by rw [byU, hbit]; rfl
      rw [eu]
      exact ⟨⟨k0, k1, by omega⟩, hh⟩
theorem wk_text (x : B8) : ∀ k : Nat, k < 128 → wk 7 0 (bysL (k : Int) ++ 59 :: x) = ((k : Int), 59 :: x) := fun k hk => match k, hk with
  | 0, _ => by kernel_rfl
  | 1, _ => by kernel_rfl
  | 2, _ => by kernel_rfl
  | 3, _ => by kernel_rfl
  | 4, _ => by kernel_rfl
  | 5, _ => by kernel_rfl
  | 6, _ => by kernel_rfl
  | 7, _ => by kernel_rfl
  | 8, _ => by kernel_rfl
  | 9, _ => by kernel_rfl
  | 10, _ => by kernel_rfl
  | 11, _ => by kernel_rfl
  | 12, _ => by kernel_rfl
  | 13, _ => by kernel_rfl
  | 14, _ => by kernel_rfl
  | 15, _ => by kernel_rfl
  | 16, _ => by kernel_rfl
  | 17, _ => by kernel_rfl
  | 18, _ => by kernel_rfl
  | 19, _ => by kernel_rfl
  | 20, _ => by kernel_rfl
  | 21, _ => by kernel_rfl
  | 22, _ => by kernel_rfl
  | 23, _ => by kernel_rfl
  | 24, _ => by kernel_rfl
  | 25, _ => by kernel_rfl
  | 26, _ => by kernel_rfl
  | 27, _ => by kernel_rfl
  | 28, _ => by kernel_rfl
  | 29, _ => by kernel_rfl
  | 30, _ => by kernel_rfl
  | 31, _ => by kernel_rfl
  | 32, _ => by kernel_rfl
  | 33, _ => by kernel_rfl
  | 34, _ => by kernel_rfl
  | 35, _ => by kernel_rfl
  | 36, _ => by kernel_rfl
  | 37, _ => by kernel_rfl
  | 38, _ => by kernel_rfl
  | 39, _ => by kernel_rfl
  | 40, _ => by kernel_rfl
  | 41, _ => by kernel_rfl
  | 42, _ => by kernel_rfl
  | 43, _ => by kernel_rfl
  | 44, _ => by kernel_rfl
  | 45, _ => by kernel_rfl
  | 46, _ => by kernel_rfl
  | 47, _ => by kernel_rfl
  | 48, _ => by kernel_rfl
  | 49, _ => by kernel_rfl
  | 50, _ => by kernel_rfl
  | 51, _ => by kernel_rfl
  | 52, _ => by kernel_rfl
  | 53, _ => by kernel_rfl
  | 54, _ => by kernel_rfl
  | 55, _ => by kernel_rfl
  | 56, _ => by kernel_rfl
  | 57, _ => by kernel_rfl
  | 58, _ => by kernel_rfl
  | 59, _ => by kernel_rfl
  | 60, _ => by kernel_rfl
  | 61, _ => by kernel_rfl
  | 62, _ => by kernel_rfl
  | 63, _ => by kernel_rfl
  | 64, _ => by kernel_rfl
  | 65, _ => by kernel_rfl
  | 66, _ => by kernel_rfl
  | 67, _ => by kernel_rfl
  | 68, _ => by kernel_rfl
  | 69, _ => by kernel_rfl
  | 70, _ => by kernel_rfl
  | 71, _ => by kernel_rfl
  | 72, _ => by kernel_rfl
  | 73, _ => by kernel_rfl
  | 74, _ => by kernel_rfl
  | 75, _ => by kernel_rfl
  | 76, _ => by kernel_rfl
  | 77, _ => by kernel_rfl
  | 78, _ => by kernel_rfl
  | 79, _ => by kernel_rfl
  | 80, _ => by kernel_rfl
  | 81, _ => by kernel_rfl
  | 82, _ => by kernel_rfl
  | 83, _ => by kernel_rfl
  | 84, _ => by kernel_rfl
  | 85, _ => by kernel_rfl
  | 86, _ => by kernel_rfl
  | 87, _ => by kernel_rfl
  | 88, _ => by kernel_rfl
  | 89, _ => by kernel_rfl
  | 90, _ => by kernel_rfl
  | 91, _ => by kernel_rfl
  | 92, _ => by kernel_rfl
  | 93, _ => by kernel_rfl
  | 94, _ => by kernel_rfl
  | 95, _ => by kernel_rfl
  | 96, _ => by kernel_rfl
  | 97, _ => by kernel_rfl
  | 98, _ => by kernel_rfl
  | 99, _ => by kernel_rfl
  | 100, _ => by kernel_rfl
  | 101, _ => by kernel_rfl
  | 102, _ => by kernel_rfl
  | 103, _ => by kernel_rfl
  | 104, _ => by kernel_rfl
  | 105, _ => by kernel_rfl
  | 106, _ => by kernel_rfl
  | 107, _ => by kernel_rfl
  | 108, _ => by kernel_rfl
  | 109, _ => by kernel_rfl
  | 110, _ => by kernel_rfl
  | 111, _ => by kernel_rfl
  | 112, _ => by kernel_rfl
  | 113, _ => by kernel_rfl
  | 114, _ => by kernel_rfl
  | 115, _ => by kernel_rfl
  | 116, _ => by kernel_rfl
  | 117, _ => by kernel_rfl
  | 118, _ => by kernel_rfl
  | 119, _ => by kernel_rfl
  | 120, _ => by kernel_rfl
  | 121, _ => by kernel_rfl
  | 122, _ => by kernel_rfl
  | 123, _ => by kernel_rfl
  | 124, _ => by kernel_rfl
  | 125, _ => by kernel_rfl
  | 126, _ => by kernel_rfl
  | 127, _ => by kernel_rfl
  | n + 128, h => absurd h (by omega)
/-- a rule, read: every so many weeks, the weekdays, the last day -/
def pf (t : B8) : Option (Nat × Int × Int) :=
  if Lib.hasPrefix t preL then
    (match Lib.trimPrefix t preL with
    | [] => none
    | c :: r => if 48 ≤ c.toNat ∧ c.toNat ≤ 57 then
        (if Lib.hasPrefix r bydL then
          (if Lib.hasPrefix (wk 7 0 (Lib.trimPrefix r bydL)).2 untL then
            (if (datP (Lib.trimPrefix (wk 7 0 (Lib.trimPrefix r bydL)).2 untL)).2 then some (c.toNat - 48, (wk 7 0 (Lib.trimPrefix r bydL)).1, (datP (Lib.trimPrefix (wk 7 0 (Lib.trimPrefix r bydL)).2 untL)).1) else none)
          else none)
        else none)
      else none)
  else none
theorem pf_rule (e k : Nat) (l : Int) (he : e < 10) (hk : k < 128) (hl : okDay l = true) : pf (ruleL e (k : Int) l) = some (e, (k : Int), l) := by
  have e1 : ruleL e (k : Int) l = preL ++ (UInt8.ofNat (48 + e) :: (bydL ++ (bysL (k : Int) ++ 59 :: ([85, 78, 84, 73, 76, 61] ++ datL l)))) := by
    unfold ruleL untL; simp only [List.append_assoc, List.cons_append, List.nil_append]
  have e2 : (59 :: ([85, 78, 84, 73, 76, 61] ++ datL l) : B8) = untL ++ datL l := rfl
  rw [e1]
  unfold pf
  rw [pre_yes, if_pos rfl, trim_yes]
  show (if 48 ≤ (UInt8.ofNat (48 + e)).toNat ∧ (UInt8.ofNat (48 + e)).toNat ≤ 57 then _ else _) = _
  rw [dig_nat e he, if_pos (by omega), pre_yes, if_pos rfl, trim_yes, wk_text _ k hk]
  simp only [e2]
  rw [pre_yes, if_pos rfl, trim_yes, datP_dat l hl]
  simp
theorem pf_text {t : B8} {e : Nat} {k l : Int} (h : pf t = some (e, k, l)) : t = ruleL e k l ∧ e < 10 ∧ 0 ≤ k ∧ k < 128 ∧ okDay l = true := by
  unfold pf at h
  by_cases h1 : Lib.hasPrefix t preL = true
  · rw [if_pos h1] at h
    have e1 := pre_app h1
    cases hr : Lib.trimPrefix t preL with
    | nil => rw [hr] at h; cases h
    | cons c r =>
      rw [hr] at h e1
      simp only at h
      by_cases h2 : 48 ≤ c.toNat ∧ c.toNat ≤ 57
      · rw [if_pos h2] at h
        by_cases h3 : Lib.hasPrefix r bydL = true
        · rw [if_pos h3] at h
          have e3 := pre_app h3
          generalize Lib.trimPrefix r bydL = s at *
          cases hw : wk 7 0 s with
          | mk k' x =>
          rw [hw] at h
          simp only at h
          by_cases h4 : Lib.hasPrefix x untL = true
          · rw [if_pos h4] at h
            have e4 := pre_app h4
            cases hd : datP (Lib.trimPrefix x untL) with
            | mk l' ok =>
            rw [hd] at h
            cases ok
            · simp at h
            · simp only [if_true, Option.some.injEq, Prod.mk.injEq] at h
              obtain ⟨rfl, rfl, rfl⟩ := h
              obtain ⟨ed, hok⟩ := datP_yes hd
              have hxne : x ≠ [] := by rw [e4]; simp [untL]
              obtain ⟨⟨k0, k1, _⟩, hh⟩ := wk_yes 7 0 s k' x (by omega) (by omega) (by decide) hw hxne
              have hby : s = bysL k' ++ x := by
                have hsame := by_same ⟨k'.toNat, by omega⟩
                simp only [Int.toNat_of_nonneg k0] at hsame
                unfold bysL
                rw [hsame]
                rcases hh with ⟨_, rfl, rfl⟩ | ⟨_, hj⟩
                · rfl
                · exact hj
              refine ⟨?_, by omega, k0, k1, hok⟩
              have hc : UInt8.ofNat (48 + (c.toNat - 48)) = c := UInt8.toNat_inj.1 (by rw [dig_nat _ (by omega)]; omega)
              unfold ruleL
              rw [hc, e1, e3, hby, e4, ed]
              simp only [List.append_assoc, List.cons_append, List.nil_append]
          · rw [if_neg h4] at h; cases h
        · rw [if_neg h3] at h; cases h
      · rw [if_neg h2] at h; cases h
  · rw [if_neg h1] at h; cases h
end TT
