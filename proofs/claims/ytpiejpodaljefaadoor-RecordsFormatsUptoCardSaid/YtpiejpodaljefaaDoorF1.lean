/- Records: what Format writes, in plain words. -/
import Derived.Test.YtpiejpodaljefaaDoorT3
import Derived.Lib.Replace
import Derived.Lib.IndexAny
import Derived.Lib.Join
namespace Go.Proofs.YtpiejpodaljefaaDoor

def dbl (q : UInt8) : L8 → L8
  | [] => []
  | c :: r => if c == q then q :: q :: dbl q r else c :: dbl q r
/-- Is a field quoted? -/
def qtd (d q : UInt8) (first only : Bool) (s : L8) : Bool := s.any (fun c => c == d || c == q || c == 13 || c == 10) || (first && s.head? == some 35) || (only && s.isEmpty)
def fieldF (d q : UInt8) (first only : Bool) (s : L8) : L8 := if qtd d q first only s then q :: (dbl q s ++ [q]) else s
/-- the fields of a record, from the second one on -/
def restF (d q : UInt8) (only : Bool) : List L8 → L8
  | [] => []
  | s :: r => d :: (fieldF d q false only s ++ restF d q only r)
/-- a record's line -/
def lineF (d q : UInt8) : List L8 → L8
  | [] => []
  | s :: r => fieldF d q true r.isEmpty s ++ restF d q false r
def textF (d q : UInt8) : List (List L8) → L8
  | [] => []
  | x :: l => lineF d q x ++ 10 :: textF d q l
/-- the error of the records -/
def errF : List (List L8) → Nat
  | [] => 0
  | x :: l => if x.length = 0 then 16 else if 12 < x.length then 2 else errF l
def formatF (d q : UInt8) (l : List (List L8)) : L8 × Nat :=
  if okD d q = false then ([], 1) else if 400 < l.length then ([], 2) else if errF l ≠ 0 then ([], errF l) else if 65536 < (textF d q l).length then ([], 2) else (textF d q l, 0)

theorem indexAny_any (chars : L8) : ∀ l : L8, decide (0 ≤ Lib.indexAny l chars) = l.any (fun c => chars.contains c)
  | [] => rfl
  | b :: l => by
    have ih := indexAny_any chars l
    have hg := Lib.indexAny_ge chars l
    rw [List.any_cons, ← ih, Lib.indexAny]
    by_cases hb : chars.contains b = true
    · rw [if_pos hb, hb]; rfl
    · rw [if_neg hb]
      have hb' : chars.contains b = false := by simpa using hb
      rw [hb', Bool.false_or]
      by_cases h1 : Lib.indexAny l chars = -1
      · rw [h1]; rfl
      · rw [if_neg (by simpa using h1)]
        rw [Bool.eq_iff_iff]
        simp only [decide_eq_true_eq]
        omega
theorem containsAny_any (d q : UInt8) (l : L8) : Lib.containsAny l [d, q, 13, 10] = l.any (fun c => c == d || c == q || c == 13 || c == 10) := by
  unfold Lib.containsAny
  rw [indexAny_any]
  congr 1
  funext c
  rw [Bool.eq_iff_iff]
  simp [or_assoc]
theorem repK (q : UInt8) : ∀ s : L8, Lib.replaceK [q] [q, q] (s.count q) s = dbl q s
  | [] => by simp [Lib.replaceK, dbl]
  | b :: l => by
    have ih := repK q l
    by_cases hb : b = q
    · subst hb
      rw [List.count_cons_self, Lib.replaceK]
      have hi : Lib.index (b :: l) [b] = 0 := by simp [Lib.index, List.isPrefixOf]
      rw [hi, if_neg (by decide)]
      simp only [Int.toNat_zero, List.take_zero, List.nil_append, List.length_singleton, Nat.zero_add, List.drop_succ_cons, List.drop_zero]
      rw [ih, dbl, if_pos (by simp)]
      rfl
    · have hc : (b :: l).count q = l.count q := List.count_cons_of_ne (fun h => hb h)
      rw [hc, dbl, if_neg (by simpa using hb), ← ih]
      have hp : ([q].isPrefixOf (b :: l)) = false := by simp [List.isPrefixOf]; exact fun h => hb h.symm
      cases hk : l.count q with
      | zero => simp [Lib.replaceK]
      | succ k =>
        obtain ⟨i, hi⟩ := Lib.index_of_count (s := l) (old := [q]) (by rw [Lib.count_one]; omega)
        have hi2 : Lib.index (b :: l) [q] = ((i + 1 : Nat) : Int) := by
          rw [Lib.index, hp, hi]
          simp
        rw [Lib.replaceK_hit _ _ _ _ _ hi2, Lib.replaceK_hit _ _ _ _ _ hi]
        simp [Nat.add_assoc]
theorem replaceAll_dbl (q : UInt8) (s : L8) : Lib.replaceAll s [q] [q, q] = dbl q s := by
  unfold Lib.replaceAll Lib.replace
  rw [if_neg (by simp)]
  unfold Lib.replaceNum
  rw [if_pos (Or.inl (by decide)), Lib.count_one, repK]
theorem dbl_len (q : UInt8) : ∀ s : L8, (dbl q s).length ≤ 2 * s.length
  | [] => by simp [dbl]
  | c :: r => by
    have ih := dbl_len q r
    unfold dbl
    split <;> simp <;> omega
theorem fieldF_len (d q : UInt8) (first only : Bool) (s : L8) : (fieldF d q first only s).length ≤ 2 * s.length + 2 := by
  have h := dbl_len q s
  unfold fieldF
  split <;> simp <;> omega
end Go.Proofs.YtpiejpodaljefaaDoor
