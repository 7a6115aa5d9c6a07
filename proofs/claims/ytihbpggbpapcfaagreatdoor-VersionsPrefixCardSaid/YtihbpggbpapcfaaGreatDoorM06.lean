/- Texts V16, V17, joined: walks and laws for the versions. -/
import Derived.Lib.TrailingZeros
import Derived.Sort.Statements
import Derived.Test.YtihbpggbpapcfaaGreatDoorM05
namespace Go.Proofs.YtihbpggbpapcfaaGreatDoor
open Go.RowKit

def lowP (wk : Int) : Int := ((Lib.ctz 64 (IntKind.u64.wrap wk).toNat : Nat) : Int) + 1
theorem wksL_none {set : Int} {k : Nat} : ∀ t, t ≤ k → (∀ i, i < k → wkB set i = false) → wksL set t = []
  | 0, _, _ => rfl
  | t + 1, h, hi => by rw [wksL_miss (hi t (by omega))]; exact wksL_none t (by omega) hi
theorem wksL_get {set : Int} {k : Nat} (h0 : ∀ i, i < k → wkB set i = false) (h1 : wkB set k = true) : ∀ t, (wksL set (k + 1 + t)).getD 0 0 = (k : Int) + 1
  | 0 => by rw [Nat.add_zero, wksL_hit h1, wksL_none k (Nat.le_refl _) h0]; rfl
  | t + 1 => by
    have ih := wksL_get h0 h1 t
    rw [← Nat.add_assoc]
    have hne : wksL set (k + 1 + t) ≠ [] := by
      intro h; rw [h] at ih; simp at ih; omega
    rw [wksL, List.getD_eq_getElem?_getD, List.getElem?_append_left (List.length_pos_iff.2 hne), ← List.getD_eq_getElem?_getD]
    exact ih
theorem pow_bits (k m i : Nat) (h : i < k) : 2 ^ k * (2 * m + 1) / 2 ^ i % 2 = 0 := by
  obtain ⟨d, rfl⟩ : ∃ d, k = i + (d + 1) := ⟨k - i - 1, by omega⟩
  rw [Nat.pow_add, Nat.mul_assoc, Nat.mul_div_cancel_left _ (Nat.pow_pos (by decide)), Nat.pow_succ, Nat.mul_assoc, Nat.mul_comm, Nat.mul_assoc, Nat.mul_mod_right]
theorem pow_bit (k m : Nat) : 2 ^ k * (2 * m + 1) / 2 ^ k % 2 = 1 := by
  rw [Nat.mul_div_cancel_left _ (Nat.pow_pos (by decide))]; omega
theorem wkB_nat (n i : Nat) : wkB (n : Int) i = decide (n / 2 ^ i % 2 = 1) := by
  unfold wkB
  rw [Bool.eq_iff_iff, decide_eq_true_eq, decide_eq_true_eq]
  rw [show ((2 : Int) ^ i) = ((2 ^ i : Nat) : Int) by simp]
  constructor <;> intro h <;> omega
theorem lowP_low {wk : Int} (h : wsB wk 20 = true) : lowP wk = lowW wk := by
  have h20 : 1 ≤ wk ∧ wk < 1048576 := by rw [wsB_20] at h; exact of_decide_eq_true h
  obtain ⟨n, rfl⟩ := Int.eq_ofNat_of_zero_le (show 0 ≤ wk by omega)
  have hn0 : n ≠ 0 := by omega
  have hw : (IntKind.u64.wrap (n : Int)).toNat = n := by rw [IntKind.wrap_u64]; omega
  obtain ⟨m, hm, hk⟩ := Lib.ctzFrom_spec 64 n (by omega) (by omega)
  have hk20 : Lib.ctzFrom 64 n < 20 := by
    apply Nat.lt_of_not_le
    intro hle
    have h1 : 2 ^ 20 ≤ 2 ^ Lib.ctzFrom 64 n := Nat.pow_le_pow_right (by decide) hle
    have h2 : 2 ^ Lib.ctzFrom 64 n ≤ 2 ^ Lib.ctzFrom 64 n * (2 * m + 1) := Nat.le_mul_of_pos_right _ (by omega)
    have h3 : 2 ^ Lib.ctzFrom 64 n * (2 * m + 1) < 1048576 := by rw [← hm]; omega
    omega
  unfold lowP lowW
  rw [hw]
  unfold Lib.ctz
  rw [if_neg hn0]
  generalize Lib.ctzFrom 64 n = k at *
  have g := wksL_get (set := (n : Int)) (k := k) (fun i hi => by rw [wkB_nat, hm, pow_bits k m i hi]; rfl) (by rw [wkB_nat, hm, pow_bit]; rfl) (19 - k)
  rw [show k + 1 + (19 - k) = 20 by omega] at g
  exact g.symm

def cmpI (x y : Int) : Int := if x < y then -1 else if x = y then 0 else 1
def ordP (s t : Ses) : Int := orI [cmpS s.1 t.1, cmpI (lowP s.2.1) (lowP t.2.1)]
theorem ordP_neg (s t : Ses) : decide (ordP s t < 0) = (Op.bytesLess s.1 t.1 || (decide (s.1 = t.1) && decide (lowP s.2.1 < lowP t.2.1))) := by
  unfold ordP cmpS cmpI
  cases h : Op.bytesLess s.1 t.1
  · by_cases h2 : s.1 = t.1
    · rcases Int.lt_trichotomy (lowP s.2.1) (lowP t.2.1) with h3 | h3 | h3
      · simp [orI, h2, h3]
      · simp [orI, h2, h3]
      · have h4 : ¬ lowP s.2.1 < lowP t.2.1 := by omega
        have h5 : ¬ lowP s.2.1 = lowP t.2.1 := by omega
        simp [orI, h2, h4, h5]
    · simp [orI, h2]
  · simp [orI]
theorem ordP_bef {s t : Ses} (hs : wsB s.2.1 20 = true) (ht : wsB t.2.1 20 = true) : decide (ordP s t < 0) = befS s t := by
  rw [ordP_neg, lowP_low hs, lowP_low ht]; rfl
end Go.Proofs.YtihbpggbpapcfaaGreatDoor

namespace Go.Proofs.YtihbpggbpapcfaaGreatDoor
open Go.RowKit

theorem bytesLess_lt : ∀ (x y : L8), Op.bytesLess x y = decide (x < y)
  | [], [] => by simp [Op.bytesLess]
  | _ :: _, [] => by simp [Op.bytesLess]
  | [], _ :: _ => by simp [Op.bytesLess]
  | a :: x, b :: y => by
    rw [Op.bytesLess, bytesLess_lt x y]
    simp only [List.cons_lt_cons_iff]
    by_cases h1 : a < b <;> by_cases h2 : a = b <;> by_cases h3 : x < y <;> simp [h1, h2, h3]
def ltP (s t : Ses) : Bool := decide (ordP s t < 0)
theorem ltP_iff (s t : Ses) : ltP s t = true ↔ (s.1 < t.1 ∨ (s.1 = t.1 ∧ lowP s.2.1 < lowP t.2.1)) := by
  unfold ltP; rw [ordP_neg, bytesLess_lt]; simp
theorem ltP_no (s t : Ses) : ltP s t = false ↔ ¬ (s.1 < t.1 ∨ (s.1 = t.1 ∧ lowP s.2.1 < lowP t.2.1)) := by
  rw [← ltP_iff]; simp
theorem swo_ord : Go.Sort.SWO ltP where
  irrefl x := by
    rw [ltP_no]
    rintro (h | ⟨_, h⟩)
    · exact absurd h (List.lt_irrefl _)
    · omega
  trans x y z h1 h2 := by
    rw [ltP_iff] at *
    rcases h1 with h1 | ⟨e1, h1⟩ <;> rcases h2 with h2 | ⟨e2, h2⟩
    · exact Or.inl (List.lt_trans h1 h2)
    · exact Or.inl (e2 ▸ h1)
    · exact Or.inl (e1 ▸ h2)
    · exact Or.inr ⟨e1.trans e2, by omega⟩
  ntrans x y z h1 h2 := by
    rw [ltP_no] at *
    have a1 : y.1 ≤ x.1 := List.not_lt.1 (fun h => h1 (Or.inl h))
    have a2 : z.1 ≤ y.1 := List.not_lt.1 (fun h => h2 (Or.inl h))
    have a3 : z.1 ≤ x.1 := List.le_trans a2 a1
    rintro (h | ⟨e, h⟩)
    · exact List.not_lt.2 a3 h
    · have e1 : x.1 = y.1 := List.le_antisymm (e ▸ a2) a1
      have e2 : y.1 = z.1 := e1.symm.trans e
      have b1 : ¬ lowP x.2.1 < lowP y.2.1 := fun h => h1 (Or.inr ⟨e1, h⟩)
      have b2 : ¬ lowP y.2.1 < lowP z.2.1 := fun h => h2 (Or.inr ⟨e2, h⟩)
      omega
def srtS (xs : List Ses) : List Ses := xs.mergeSort (fun a b => !ltP b a)
theorem ltP_asymm {a b : Ses} (h : ltP a b = true) : ltP b a = false := by
  cases h2 : ltP b a
  · rfl
  · have := swo_ord.trans a b a h h2
    rw [swo_ord.irrefl] at this; cases this
theorem srt_unique {L xs : List Ses} (hp : L.Perm xs) (hs : L.Pairwise (fun a b => ltP b a = false)) (hd : ∀ a ∈ xs, ∀ b ∈ xs, ltP a b = false → ltP b a = false → a = b) : L = srtS xs := by
  refine List.Perm.eq_of_pairwise (le := fun x y => (!ltP y x) = true) ?_ ?_ ?_ (hp.trans (List.mergeSort_perm _ _).symm)
  · intro a b ha hb h1 h2
    simp only [Bool.not_eq_true'] at h1 h2
    exact hd a (hp.mem_iff.1 ha) b ((List.mergeSort_perm _ _).mem_iff.1 hb) h2 h1
  · exact hs.imp (fun h => by simpa using h)
  · refine List.pairwise_mergeSort ?_ ?_ _
    · intro a b c h1 h2
      simp only [Bool.not_eq_true'] at h1 h2 ⊢
      exact swo_ord.ntrans c b a h2 h1
    · intro a b
      cases h : ltP b a with
      | false => simp
      | true => simp [ltP_asymm h]

def alkS (s t : Ses) : Bool := alkB s.1 s.2.2.1 s.2.2.2.1 s.2.2.2.2.1 s.2.2.2.2.2 t.1 t.2.2.1 t.2.2.2.1 t.2.2.2.2.1 t.2.2.2.2.2
theorem alkS_comm (s t : Ses) : alkS s t = alkS t s := by
  unfold alkS alkB; rw [Bool.eq_iff_iff]; simp only [decide_eq_true_eq]
  constructor <;> rintro ⟨a, b, c, d, e⟩ <;> exact ⟨a.symm, b.symm, c.symm, d.symm, e.symm⟩
def orW (s t : Ses) : Ses := (s.1, bits .or .i64 s.2.1 t.2.1, s.2.2)
def idxS (out : List Ses) (s : Ses) : Nat := out.findIdx (fun t => alkS s t)
def addS (out : List Ses) (s : Ses) : List Ses := if idxS out s < out.length then out.modify (idxS out s) (fun t => orW t s) else out ++ [s]
def joinS (xs : List Ses) : List Ses := xs.foldl addS []
theorem joinS_snoc (xs : List Ses) (s : Ses) : joinS (xs ++ [s]) = addS (joinS xs) s := by simp [joinS, List.foldl_append]
theorem addS_len (out : List Ses) (s : Ses) : (addS out s).length ≤ out.length + 1 := by
  unfold addS; split <;> simp
theorem joinS_take {xs : List Ses} {j : Nat} {s : Ses} (h : xs[j]? = some s) : joinS (xs.take (j + 1)) = addS (joinS (xs.take j)) s := by
  rw [List.take_add_one, h]; exact joinS_snoc _ _
theorem joinS_len : ∀ (xs : List Ses) (out : List Ses), (xs.foldl addS out).length ≤ out.length + xs.length
  | [], out => by simp
  | s :: xs, out => by
    have h1 := joinS_len xs (addS out s)
    have h2 := addS_len out s
    rw [List.foldl_cons, List.length_cons]; omega
def metS (s t : Ses) : Bool := metB s.1 s.2.1 t.1 t.2.1
theorem or_ws {a b n : Int} (ha : wsB a n = true) (hb : wsB b n = true) : wsB (bits .or .i64 a b) n = true := by
  obtain ⟨n1, n2, a1, a2⟩ := of_decide_eq_true ha
  obtain ⟨_, _, b1, b2⟩ := of_decide_eq_true hb
  obtain ⟨k, rfl⟩ := Int.eq_ofNat_of_zero_le (show 0 ≤ n by omega)
  obtain ⟨x, rfl⟩ := Int.eq_ofNat_of_zero_le (show 0 ≤ a by omega)
  obtain ⟨y, rfl⟩ := Int.eq_ofNat_of_zero_le (show 0 ≤ b by omega)
  have hk : ((k : Int)).toNat = k := by omega
  rw [hk] at a2 b2
  have hx : x < 2 ^ k := by exact_mod_cast a2
  have hy : y < 2 ^ k := by exact_mod_cast b2
  have ho : x ||| y < 2 ^ k := Nat.or_lt_two_pow hx hy
  have hp : 2 ^ k ≤ 2 ^ 20 := Nat.pow_le_pow_right (by decide) (by omega)
  have h1 : (BitVec.ofInt 64 (x : Int)).toNat = x := by rw [BitVec.ofInt_natCast, BitVec.toNat_ofNat]; exact Nat.mod_eq_of_lt (by omega)
  have h2 : (BitVec.ofInt 64 (y : Int)).toNat = y := by rw [BitVec.ofInt_natCast, BitVec.toNat_ofNat]; exact Nat.mod_eq_of_lt (by omega)
  have e : bits .or .i64 (x : Int) (y : Int) = ((x ||| y : Nat) : Int) := by
    show IntKind.i64.wrap (((BitVec.ofInt 64 (x : Int) ||| BitVec.ofInt 64 (y : Int)).toNat : Nat) : Int) = _
    rw [BitVec.toNat_or, h1, h2]
    exact IntWalk.i64_in _ (by omega)
  have hx1 : x ≤ x ||| y := Nat.left_le_or
  rw [e]
  refine decide_eq_true ⟨n1, n2, by omega, ?_⟩
  rw [hk]; exact_mod_cast ho
theorem and_low {a b : Int} (ha : wsB a 20 = true) (hb : wsB b 20 = true) (h : lowP a = lowP b) : (bits .and .i64 a b != 0) = true := by
  have a20 : 1 ≤ a ∧ a < 1048576 := by rw [wsB_20] at ha; exact of_decide_eq_true ha
  have b20 : 1 ≤ b ∧ b < 1048576 := by rw [wsB_20] at hb; exact of_decide_eq_true hb
  obtain ⟨x, rfl⟩ := Int.eq_ofNat_of_zero_le (show 0 ≤ a by omega)
  obtain ⟨y, rfl⟩ := Int.eq_ofNat_of_zero_le (show 0 ≤ b by omega)
  have hx0 : x ≠ 0 := by omega
  have hy0 : y ≠ 0 := by omega
  have wx : (IntKind.u64.wrap (x : Int)).toNat = x := by rw [IntKind.wrap_u64]; omega
  have wy : (IntKind.u64.wrap (y : Int)).toNat = y := by rw [IntKind.wrap_u64]; omega
  have hk : Lib.ctzFrom 64 x = Lib.ctzFrom 64 y := by
    unfold lowP at h
    rw [wx, wy] at h
    unfold Lib.ctz at h
    rw [if_neg hx0, if_neg hy0] at h
    omega
  obtain ⟨m, hm, _⟩ := Lib.ctzFrom_spec 64 x (by omega) (by omega)
  obtain ⟨m', hm', _⟩ := Lib.ctzFrom_spec 64 y (by omega) (by omega)
  rw [← hk] at hm'
  generalize Lib.ctzFrom 64 x = k at *
  have t1 : x.testBit k = true := by rw [Nat.testBit_eq_decide_div_mod_eq, hm, pow_bit]; rfl
  have t2 : y.testBit k = true := by rw [Nat.testBit_eq_decide_div_mod_eq, hm', pow_bit]; rfl
  have t3 : (x &&& y).testBit k = true := by rw [Nat.testBit_and, t1, t2]; rfl
  have t4 : x &&& y ≠ 0 := by intro h0; rw [h0] at t3; simp at t3
  have h1 : (BitVec.ofInt 64 (x : Int)).toNat = x := by rw [BitVec.ofInt_natCast, BitVec.toNat_ofNat]; exact Nat.mod_eq_of_lt (by omega)
  have h2 : (BitVec.ofInt 64 (y : Int)).toNat = y := by rw [BitVec.ofInt_natCast, BitVec.toNat_ofNat]; exact Nat.mod_eq_of_lt (by omega)
  have hle : x &&& y ≤ x := Nat.and_le_left
  have e : bits .and .i64 (x : Int) (y : Int) = ((x &&& y : Nat) : Int) := by
    show IntKind.i64.wrap (((BitVec.ofInt 64 (x : Int) &&& BitVec.ofInt 64 (y : Int)).toNat : Nat) : Int) = _
    rw [BitVec.toNat_and, h1, h2]
    exact IntWalk.i64_in _ (by omega)
  rw [e, bne_iff_ne]; omega
theorem metS_comm (s t : Ses) : metS s t = metS t s := by
  unfold metS metB
  have e : bits .and .i64 s.2.1 t.2.1 = bits .and .i64 t.2.1 s.2.1 := by
    show IntKind.i64.wrap (((BitVec.ofInt 64 s.2.1 &&& BitVec.ofInt 64 t.2.1).toNat : Nat) : Int) = IntKind.i64.wrap (((BitVec.ofInt 64 t.2.1 &&& BitVec.ofInt 64 s.2.1).toNat : Nat) : Int)
    rw [BitVec.and_comm]
  rw [e, show decide (s.1 = t.1) = decide (t.1 = s.1) from by rw [Bool.eq_iff_iff]; simp [eq_comm]]
def NoMet (xs : List Ses) : Prop := xs.Pairwise (fun a b => metS a b = false)
theorem NoMet.perm {xs ys : List Ses} (hp : xs.Perm ys) : NoMet xs ↔ NoMet ys := hp.pairwise_iff (fun h => by rw [metS_comm]; exact h)
theorem NoMet.eq {xs : List Ses} (h : NoMet xs) (hw : ∀ s ∈ xs, wsB s.2.1 20 = true) : ∀ a ∈ xs, ∀ b ∈ xs, ltP a b = false → ltP b a = false → a = b := by
  have key : ∀ a b, wsB a.2.1 20 = true → wsB b.2.1 20 = true → metS a b = false → ltP a b = false → ltP b a = false → a = b := by
    intro a b wa wb hm h1 h2
    rw [ltP_no] at h1 h2
    have e1 : a.1 = b.1 := List.le_antisymm (List.not_lt.1 (fun h => h2 (Or.inl h))) (List.not_lt.1 (fun h => h1 (Or.inl h)))
    have b1 : ¬ lowP a.2.1 < lowP b.2.1 := fun h => h1 (Or.inr ⟨e1, h⟩)
    have b2 : ¬ lowP b.2.1 < lowP a.2.1 := fun h => h2 (Or.inr ⟨e1.symm, h⟩)
    have := and_low wa wb (by omega)
    unfold metS metB at hm
    rw [this, e1] at hm
    simp at hm
  intro a ha b hb h1 h2
  obtain ⟨i, hi, rfl⟩ := List.getElem_of_mem ha
  obtain ⟨k, hk, rfl⟩ := List.getElem_of_mem hb
  rcases Nat.lt_trichotomy i k with h3 | h3 | h3
  · exact key _ _ (hw _ ha) (hw _ hb) (List.pairwise_iff_getElem.1 h i k hi hk h3) h1 h2
  · subst h3; rfl
  · exact (key _ _ (hw _ hb) (hw _ ha) (List.pairwise_iff_getElem.1 h k i hk hi h3) h2 h1).symm
instance (xs : List Ses) : Decidable (NoMet xs) := by unfold NoMet; exact inferInstance
def nrmS (n : Int) (xs : List Ses) : Int × List Ses :=
  if n < 1 ∨ 20 < n then (3, []) else if chkL n xs ≠ 0 then (chkL n xs, []) else if ¬ NoMet (joinS xs) then (11, []) else if 96 < (joinS xs).length then (2, []) else (0, srtS (joinS xs))
theorem chkL_all {n : Int} : ∀ {xs : List Ses}, chkL n xs = 0 → ∀ s ∈ xs, chkS s n = 0
  | [], _, s, h => by simp at h
  | x :: xs, h, s, hs => by
    unfold chkL at h
    by_cases hx : chkS x n = 0
    · rw [if_pos hx] at h
      rcases List.mem_cons.1 hs with rfl | hs
      · exact hx
      · exact chkL_all h s hs
    · rw [if_neg hx] at h; exact absurd h hx
theorem mem_modify {xs : List Ses} {k : Nat} {f : Ses → Ses} {s : Ses} (h : s ∈ xs.modify k f) : s ∈ xs ∨ ∃ t ∈ xs, s = f t := by
  obtain ⟨i, hi, rfl⟩ := List.getElem_of_mem h
  rw [List.length_modify] at hi
  rw [List.getElem_modify]
  split
  · exact Or.inr ⟨xs[i], List.getElem_mem hi, rfl⟩
  · exact Or.inl (List.getElem_mem hi)
theorem addS_ws {n : Int} {out : List Ses} {s : Ses} (ho : ∀ t ∈ out, wsB t.2.1 n = true) (hs : wsB s.2.1 n = true) : ∀ t ∈ addS out s, wsB t.2.1 n = true := by
  intro t ht
  unfold addS at ht
  split at ht
  · rcases mem_modify ht with h | ⟨u, hu, rfl⟩
    · exact ho t h
    · exact or_ws (ho u hu) hs
  · rcases List.mem_append.1 ht with h | h
    · exact ho t h
    · rw [List.mem_singleton] at h; subst h; exact hs
theorem joinS_ws {n : Int} : ∀ (xs out : List Ses), (∀ t ∈ out, wsB t.2.1 n = true) → (∀ s ∈ xs, wsB s.2.1 n = true) → ∀ t ∈ xs.foldl addS out, wsB t.2.1 n = true
  | [], _, ho, _ => ho
  | s :: xs, out, ho, hx => joinS_ws xs (addS out s) (addS_ws ho (hx s List.mem_cons_self)) (fun t h => hx t (List.mem_cons_of_mem _ h))

def insK (s : Ses) (out : List Ses) : Nat → Nat
  | 0 => 0
  | k + 1 => if befS s (out.getD k sesD) = true then insK s out k else k + 1
def insS (out : List Ses) (s : Ses) : List Ses := out.take (insK s out out.length) ++ [s] ++ out.drop (insK s out out.length)
def ordS (xs : List Ses) : List Ses := xs.foldl insS []
theorem ordS_take {xs : List Ses} {j : Nat} {s : Ses} (h : xs[j]? = some s) : ordS (xs.take (j + 1)) = insS (ordS (xs.take j)) s := by
  rw [List.take_add_one, h]; simp [ordS, List.foldl_append]
theorem insS_perm (out : List Ses) (s : Ses) : (insS out s).Perm (s :: out) := by
  unfold insS
  generalize insK s out out.length = k
  have h1 : (out.take k ++ [s] ++ out.drop k).Perm ([s] ++ out.take k ++ out.drop k) := List.Perm.append_right _ List.perm_append_comm
  refine h1.trans ?_
  rw [List.append_assoc, List.take_append_drop]
  exact List.Perm.refl _
theorem ordS_perm : ∀ (xs out : List Ses), (xs.foldl insS out).Perm (xs ++ out)
  | [], _out => List.Perm.refl _
  | s :: xs, out => (ordS_perm xs (insS out s)).trans ((List.Perm.append_left xs (insS_perm out s)).trans (List.perm_middle))
theorem insK_le (s : Ses) (out : List Ses) : ∀ k, insK s out k ≤ k
  | 0 => Nat.le_refl _
  | k + 1 => by unfold insK; split
                · have := insK_le s out k; omega
                · exact Nat.le_refl _
theorem insK_hi (s : Ses) (out : List Ses) : ∀ k i, insK s out k ≤ i → i < k → befS s (out.getD i sesD) = true
  | 0, i, _, h => by omega
  | k + 1, i, h1, h2 => by
    unfold insK at h1
    split at h1
    · next hb =>
      rcases Nat.lt_or_ge i k with h3 | h3
      · exact insK_hi s out k i h1 h3
      · have : i = k := by omega
        subst this; exact hb
    · omega
theorem insK_lo (s : Ses) (out : List Ses) : ∀ k, 0 < insK s out k → befS s (out.getD (insK s out k - 1) sesD) = false
  | 0, h => by simp [insK] at h
  | k + 1, h => by
    unfold insK at h ⊢
    split at h
    · next hb => rw [if_pos hb]; exact insK_lo s out k h
    · next hb => rw [if_neg hb]; simpa using hb
theorem befS_ltP {s t : Ses} (hs : wsB s.2.1 20 = true) (ht : wsB t.2.1 20 = true) : befS s t = ltP s t := (ordP_bef hs ht).symm
theorem insS_sorted {out : List Ses} {s : Ses} (hs : wsB s.2.1 20 = true) (ho : ∀ t ∈ out, wsB t.2.1 20 = true) (hp : out.Pairwise (fun a b => ltP b a = false)) : (insS out s).Pairwise (fun a b => ltP b a = false) := by
  have hle := insK_le s out out.length
  have hi := insK_hi s out out.length
  have hl := insK_lo s out out.length
  unfold insS
  generalize insK s out out.length = k at *
  have hget : ∀ i (h : i < out.length), out.getD i sesD = out[i] := fun i h => by rw [List.getD_eq_getElem?_getD, List.getElem?_eq_getElem h]; rfl
  rw [List.append_assoc, List.pairwise_append]
  refine ⟨hp.sublist (List.take_sublist _ _), ?_, ?_⟩
  · rw [List.singleton_append, List.pairwise_cons]
    refine ⟨fun t ht => ?_, hp.sublist (List.drop_sublist _ _)⟩
    obtain ⟨i, hi2, rfl⟩ := List.getElem_of_mem ht
    rw [List.length_drop] at hi2
    rw [List.getElem_drop]
    have h := hi (k + i) (by omega) (by omega)
    rw [hget _ (by omega), befS_ltP hs (ho _ (List.getElem_mem _))] at h
    exact ltP_asymm h
  · intro a ha b hb
    obtain ⟨i, hi2, rfl⟩ := List.getElem_of_mem ha
    rw [List.length_take] at hi2
    rw [List.getElem_take]
    rw [List.singleton_append, List.mem_cons] at hb
    rcases hb with rfl | hb
    · have h := hl (by omega)
      rw [hget _ (by omega), befS_ltP hs (ho _ (List.getElem_mem _))] at h
      rcases Nat.lt_or_ge i (k - 1) with h3 | h3
      · exact swo_ord.ntrans _ _ _ h (List.pairwise_iff_getElem.1 hp i (k - 1) (by omega) (by omega) h3)
      · have : i = k - 1 := by omega
        subst this; exact h
    · obtain ⟨q, hq, rfl⟩ := List.getElem_of_mem hb
      rw [List.length_drop] at hq
      rw [List.getElem_drop]
      exact List.pairwise_iff_getElem.1 hp i (k + q) (by omega) (by omega) (by omega)
theorem ordS_sorted : ∀ (xs out : List Ses), (∀ t ∈ xs, wsB t.2.1 20 = true) → (∀ t ∈ out, wsB t.2.1 20 = true) → out.Pairwise (fun a b => ltP b a = false) → (xs.foldl insS out).Pairwise (fun a b => ltP b a = false)
  | [], _, _, _, h => h
  | s :: xs, out, hx, ho, h => ordS_sorted xs (insS out s) (fun t ht => hx t (List.mem_cons_of_mem _ ht)) (fun t ht => by
      rcases List.mem_cons.1 ((insS_perm out s).mem_iff.1 ht) with rfl | h
      · exact hx _ List.mem_cons_self
      · exact ho t h) (insS_sorted (hx s List.mem_cons_self) ho h)
theorem ordS_srt {xs : List Ses} (hw : ∀ t ∈ xs, wsB t.2.1 20 = true) (hn : NoMet xs) : ordS xs = srtS xs := by
  have hp := ordS_perm xs []
  rw [List.append_nil] at hp
  exact srt_unique hp (ordS_sorted xs [] hw (fun t h => by simp at h) List.Pairwise.nil) (hn.eq hw)
end Go.Proofs.YtihbpggbpapcfaaGreatDoor
