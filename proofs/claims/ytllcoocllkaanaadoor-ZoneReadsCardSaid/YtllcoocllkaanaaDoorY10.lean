/- Zones: a text in lines, as the program cuts it: the plain law. -/
import Derived.Test.YtllcoocllkaanaaDoorY1
import Derived.Lib.CountLaws
import Derived.Lib.SplitLaws
import Derived.Lib.CutLaws
namespace Go.Proofs.YtllcoocllkaanaaDoor
open TT

theorem ib_tw (c : UInt8) : ∀ l : L8, (c ∉ l ∧ Lib.indexByte l c = -1 ∧ l.takeWhile (· != c) = l) ∨ (c ∈ l ∧ Lib.indexByte l c = ((l.takeWhile (· != c)).length : Nat) ∧ (l.takeWhile (· != c)).length < l.length ∧ l = l.takeWhile (· != c) ++ c :: l.drop ((l.takeWhile (· != c)).length + 1))
  | [] => Or.inl ⟨by simp, rfl, rfl⟩
  | b :: l => by
    by_cases hb : b = c
    · subst hb
      right
      refine ⟨by simp, by simp [Lib.indexByte], by simp, by simp⟩
    · have hb1 : (b == c) = false := by simpa using hb
      have hb2 : (b != c) = true := by simpa using hb
      rcases ib_tw c l with ⟨h1, h2, h3⟩ | ⟨h1, h2, h3, h4⟩
      · left
        refine ⟨by simp [h1]; exact fun h => hb h.symm, ?_, ?_⟩
        · simp only [Lib.indexByte, hb1, h2]; simp
        · rw [List.takeWhile_cons, if_pos hb2, h3]
      · right
        rw [List.takeWhile_cons, if_pos hb2]
        refine ⟨by simp [h1], ?_, by simp; omega, ?_⟩
        · simp only [Lib.indexByte, hb1, h2]
          have hne : ((((l.takeWhile (· != c)).length : Nat) : Int) == -1) = false := by rw [beq_eq_false_iff_ne]; omega
          rw [hne]; simp
        · rw [List.length_cons, List.drop_succ_cons, List.cons_append, ← h4]
theorem cut_key (l : L8) : ∃ b, Lib.cut l [32] = (keyL l, l.drop ((keyL l).length + 1), b) := by
  unfold Lib.cut keyL
  rw [Lib.index_one]
  rcases ib_tw 32 l with ⟨h1, h2, h3⟩ | ⟨h1, h2, h3, h4⟩
  · rw [h2, if_neg (by decide), h3]
    exact ⟨false, by rw [List.drop_eq_nil_of_le (by omega)]⟩
  · rw [h2, if_pos (by omega), Int.toNat_natCast]
    refine ⟨true, ?_⟩
    have : l.take (l.takeWhile (· != 32)).length = l.takeWhile (· != 32) := by
      conv => lhs; rw [h4]
      rw [List.take_append_of_le_length (by rw [← h4]; exact Nat.le_refl _)]
      rw [← h4, List.take_length]
    rw [this]; rfl
theorem trim_at (l : L8) : Lib.trimSuffix (l ++ [10]) [10] = l := by
  unfold Lib.trimSuffix Lib.hasSuffix
  rw [if_pos (List.isSuffixOf_iff_suffix.2 ⟨l, rfl⟩)]
  simp
theorem trim_no (l : L8) (h : (10 : UInt8) ∉ l) : Lib.trimSuffix l [10] = l := by
  unfold Lib.trimSuffix Lib.hasSuffix
  rw [if_neg]
  intro h2
  obtain ⟨a, rfl⟩ := List.isSuffixOf_iff_suffix.1 h2
  simp at h
def nl : ByteArray := ⟨#[10]⟩
/-- the pieces of a text -/
def pcs (r : ByteArray) : List ByteArray := Lib.splitB nl 1 (Lib.countB r nl) r
theorem idx_nl (r : ByteArray) : Lib.indexB r nl = Lib.indexByte r.data.toList 10 := by
  unfold Lib.indexB
  rw [show nl.data.toList = [10] from rfl, Lib.index_one]
theorem piece_step (r : ByteArray) : ∃ p ps, ∃ r' : ByteArray, pcs r = p :: ps ∧ Lib.trimSuffix p.data.toList [10] = lineL r.data.toList ∧ r'.data.toList = r.data.toList.drop ((lineL r.data.toList).length + 1) ∧
    (ps = [] ∧ r'.data.toList = [] ∨ ps = pcs r') ∧ (p.size = 0 → r.data.toList = []) ∧ (r.data.toList = [] → p = ⟨#[]⟩) ∧ p.size ≤ r.size := by
  unfold lineL
  rcases ib_tw 10 r.data.toList with ⟨h1, h2, h3⟩ | ⟨h1, h2, h3, h4⟩
  · have hi : Lib.indexB r nl = -1 := by rw [idx_nl, h2]
    refine ⟨r, [], ⟨#[]⟩, Lib.splitB_miss _ _ _ _ hi, by rw [trim_no _ h1, h3], ?_, Or.inl ⟨rfl, rfl⟩, ?_, ?_, Nat.le_refl _⟩
    · rw [h3, List.drop_eq_nil_of_le (by omega)]
    · intro h; exact List.length_eq_zero_iff.1 h
    · intro h
      obtain ⟨⟨l⟩⟩ := r
      simp at h; subst h; rfl
  · have hi : Lib.indexB r nl = ((r.data.toList.takeWhile (· != 10)).length : Nat) := by rw [idx_nl, h2]
    have hc := Lib.countB_hit r nl _ (by decide) hi
    have hne : r.data.toList ≠ [] := by intro h; rw [h] at h1; cases h1
    generalize hk : (r.data.toList.takeWhile (· != 10)) = k at *
    have hsz : r.size = r.data.toList.length := rfl
    refine ⟨r.extract 0 (k.length + 1), pcs (r.extract (k.length + 1) r.size), r.extract (k.length + 1) r.size, ?_, ?_, ?_, Or.inr rfl, ?_, fun h => absurd h hne, ?_⟩
    · unfold pcs
      rw [hc, Nat.add_comm 1, Lib.splitB_hit _ _ _ _ _ hi]
      rfl
    · rw [Lib.extract_data, List.drop_zero]
      conv => lhs; rw [h4]
      have : (k ++ 10 :: List.drop (k.length + 1) r.data.toList).take (k.length + 1 - 0) = k ++ [10] := by
        rw [show k.length + 1 - 0 = k.length + 1 by omega, List.take_append, List.take_of_length_le (by omega)]
        simp
      rw [this, trim_at]
    · rw [Lib.extract_data, List.take_of_length_le (by simp)]
    · intro h
      rw [ByteArray.size_extract] at h
      omega
    · rw [ByteArray.size_extract]; omega
/-- one line, read -/
theorem goZ_step (W : L8 → Option Int) (n : Nat) (r : L8) (i : Nat) (z : Zn) (h : r ≠ []) : goZ W (n + 1) r i z =
    match offP ((lineL r).drop ((keyL (lineL r)).length + 1)) with
      | none => none
      | some o =>
        if i = 0 then goZ W n (r.drop ((lineL r).length + 1)) 1 (keyL (lineL r), o, [])
        else match W (keyL (lineL r)) with
          | none => none
          | some t => if 64 < i then none else goZ W n (r.drop ((lineL r).length + 1)) (i + 1) (z.1, z.2.1, z.2.2 ++ [(t, o)]) := by
  rw [goZ, if_neg h]
  by_cases he : (keyL (lineL r)).length = (lineL r).length
  · rw [if_pos he, he, List.drop_eq_nil_of_le (by omega)]
    rfl
  · rw [if_neg he]
    rfl
theorem goZ_nil (W : L8 → Option Int) (n i : Nat) (z : Zn) : goZ W (n + 1) [] i z = some z := by rw [goZ, if_pos rfl]
theorem parZ_nil (W : L8 → Option Int) : parZ W [] = none := by
  unfold parZ
  rw [show ([] : L8).length + 1 = 0 + 1 from rfl, goZ_nil]
  exact if_neg fun h => absurd h.1 (by decide)
theorem pcs_len (r : ByteArray) : (pcs r).length = Lib.countB r nl + 1 := Lib.splitB_all nl (by decide) 1 _ r rfl
theorem pcs_le (r : ByteArray) : Lib.countB r nl ≤ r.size := Lib.countB_le nl (by decide) _ r (Nat.le_refl _)
end Go.Proofs.YtllcoocllkaanaaDoor
