import Derived.Lib.MapLaws
import Derived.Lib.ValidLaws
import Derived.Laws.Cover4
import Derived.Laws.IdiomStrings
namespace Go.Proofs.YtmnoiknpamfmoaaDoor.CS
open Go.Lib

abbrev L8 := List UInt8

def bad (l : L8) : Prop := (decodeL l).1 = 65533 ∧ (decodeL l).2 = 1
instance (l : L8) : Decidable (bad l) := by unfold bad; infer_instance

theorem take_getD (l : L8) (m i : Nat) (h : i < m) : (l.take m).getD i 0 = l.getD i 0 := by
  simp [List.getD, h]

/-- What decodeN says of a prefix of m bytes it says of the whole. -/
theorem decodeN_back (n m b0 b1 b2 b3 c1 c2 c3 : Nat) (hm : m ≤ n) (h1 : 1 < m → c1 = b1) (h2 : 2 < m → c2 = b2) (h3 : 3 < m → c3 = b3)
    (hv : ¬ ((decodeN m b0 c1 c2 c3).1 = 65533 ∧ (decodeN m b0 c1 c2 c3).2 = 1)) : decodeN n b0 b1 b2 b3 = decodeN m b0 c1 c2 c3 := by
  rcases decodeN_shape m b0 c1 c2 c3 with ⟨a, e⟩ | ⟨a1, a2, a3, a4, e⟩ | ⟨a1, a2, a3, a4, a5, a6, e⟩ | ⟨a1, a2, a3, a4, a5, a6, a7, e⟩ | e
  · rw [e]; unfold decodeN; rw [if_pos a]
  · rw [e]; obtain rfl := h1 a2
    unfold decodeN
    repeat' split
    all_goals first | omega | rfl
  · rw [e]; obtain rfl := h1 (by omega); obtain rfl := h2 a2
    unfold decodeN
    repeat' split
    all_goals first | omega | rfl
  · rw [e]; obtain rfl := h1 (by omega); obtain rfl := h2 (by omega); obtain rfl := h3 a2
    unfold decodeN
    repeat' split
    all_goals first | omega | rfl
  · rw [e] at hv; exact absurd ⟨rfl, rfl⟩ hv

theorem decode_back (l : L8) (m : Nat) (h0 : 0 < m) (hm : m ≤ l.length) (hv : ¬ bad (l.take m)) : decodeL l = decodeL (l.take m) := by
  unfold bad at hv
  rw [decodeL_N (l.take m)] at hv ⊢
  rw [decodeL_N l]
  rw [take_getD l m 0 h0] at hv ⊢
  refine decodeN_back _ _ _ _ _ _ _ _ _ ?_ ?_ ?_ ?_ hv
  · rw [List.length_take]; exact Nat.min_le_right _ _
  · intro h; simp only [List.length_take] at h; rw [take_getD l m 1 (by omega)]
  · intro h; simp only [List.length_take] at h; rw [take_getD l m 2 (by omega)]
  · intro h; simp only [List.length_take] at h; rw [take_getD l m 3 (by omega)]

theorem decodeN_forth (n b0 b1 b2 b3 c1 c2 c3 : Nat) (h1 : 1 < (decodeN n b0 b1 b2 b3).2 → c1 = b1) (h2 : 2 < (decodeN n b0 b1 b2 b3).2 → c2 = b2) (h3 : 3 < (decodeN n b0 b1 b2 b3).2 → c3 = b3)
    (hv : ¬ ((decodeN n b0 b1 b2 b3).1 = 65533 ∧ (decodeN n b0 b1 b2 b3).2 = 1)) : decodeN (decodeN n b0 b1 b2 b3).2 b0 c1 c2 c3 = decodeN n b0 b1 b2 b3 := by
  rcases decodeN_shape n b0 b1 b2 b3 with ⟨a, e⟩ | ⟨a1, a2, a3, a4, e⟩ | ⟨a1, a2, a3, a4, a5, a6, e⟩ | ⟨a1, a2, a3, a4, a5, a6, a7, e⟩ | e
  · rw [e]; unfold decodeN; rw [if_pos a]
  · rw [e] at h1 ⊢; obtain rfl := h1 (by omega)
    unfold decodeN
    repeat' split
    all_goals first | omega | rfl
  · rw [e] at h1 h2 ⊢; obtain rfl := h1 (by omega); obtain rfl := h2 (by omega)
    unfold decodeN
    repeat' split
    all_goals first | omega | rfl
  · rw [e] at h1 h2 h3 ⊢; obtain rfl := h1 (by omega); obtain rfl := h2 (by omega); obtain rfl := h3 (by omega)
    unfold decodeN
    repeat' split
    all_goals first | omega | rfl
  · rw [e] at hv; exact absurd ⟨rfl, rfl⟩ hv

theorem decode_forth (l : L8) (hne : l ≠ []) (hv : ¬ bad l) : decodeL (l.take (decodeL l).2) = decodeL l := by
  have hle := decodeL_le l hne
  have hw := decodeL_width l
  unfold bad at hv
  rw [decodeL_N (l.take _), List.length_take, Nat.min_eq_left hle, take_getD l _ 0 hw]
  rw [decodeL_N l] at hv ⊢
  refine decodeN_forth _ _ _ _ _ _ _ _ ?_ ?_ ?_ hv
  · intro h; rw [take_getD l _ 1 h]
  · intro h; rw [take_getD l _ 2 h]
  · intro h; rw [take_getD l _ 3 h]

theorem decode_head (l : L8) (hb : bad l) : 128 ≤ (l.getD 0 0).toNat := by
  unfold bad at hb
  rw [decodeL_N] at hb
  rcases Nat.lt_or_ge (l.getD 0 0).toNat 128 with h | h
  · unfold decodeN at hb
    rw [if_pos h] at hb
    dsimp only at hb
    omega
  · exact h

theorem decode_rune (l : L8) : (decodeL l).1 < 55296 ∨ (57343 < (decodeL l).1 ∧ (decodeL l).1 ≤ 1114111) := by
  rw [decodeL_N]
  have k0 := (l.getD 0 0).toNat_lt
  rcases decodeN_shape l.length (l.getD 0 0).toNat (l.getD 1 0).toNat (l.getD 2 0).toNat (l.getD 3 0).toNat with ⟨a, e⟩ | ⟨a1, a2, a3, a4, e⟩ | ⟨a1, a2, a3, a4, a5, a6, e⟩ | ⟨a1, a2, a3, a4, a5, a6, a7, e⟩ | e
  all_goals (rw [e]; dsimp only; omega)

theorem decode_le4 (l : L8) : (decodeL l).2 ≤ 4 := by
  rw [decodeL_N]
  rcases decodeN_shape l.length (l.getD 0 0).toNat (l.getD 1 0).toNat (l.getD 2 0).toNat (l.getD 3 0).toNat with ⟨a, e⟩ | ⟨a1, a2, a3, a4, e⟩ | ⟨a1, a2, a3, a4, a5, a6, e⟩ | ⟨a1, a2, a3, a4, a5, a6, a7, e⟩ | e
  all_goals (rw [e]; dsimp only; omega)

/-! ### Runes -/

def runesF : Nat → L8 → List Int
  | 0, _ => []
  | n + 1, l => if l = [] then [] else ((decodeL l).1 : Int) :: runesF n (l.drop (decodeL l).2)
def runesL (l : L8) : List Int := runesF l.length l

theorem runesF_nil : ∀ n, runesF n [] = []
  | 0 => rfl
  | _ + 1 => by simp [runesF]
theorem runesF_fuel : ∀ (n m : Nat) (l : L8), l.length ≤ n → l.length ≤ m → runesF n l = runesF m l
  | 0, m, l, hn, _ => by
    have : l = [] := List.eq_nil_of_length_eq_zero (by omega)
    subst this
    rw [runesF_nil, runesF_nil]
  | n + 1, 0, l, _, hm => by
    have : l = [] := List.eq_nil_of_length_eq_zero (by omega)
    subst this
    rw [runesF_nil, runesF_nil]
  | n + 1, m + 1, l, hn, hm => by
    by_cases hne : l = []
    · subst hne
      rw [runesF_nil, runesF_nil]
    · have hw := decodeL_width l
      have hl : 0 < l.length := List.length_pos_iff.2 hne
      simp only [runesF, if_neg hne]
      rw [runesF_fuel n m _ (by rw [List.length_drop]; omega) (by rw [List.length_drop]; omega)]
theorem runesL_nil : runesL [] = [] := rfl
theorem runesL_step (l : L8) (hne : l ≠ []) : runesL l = ((decodeL l).1 : Int) :: runesL (l.drop (decodeL l).2) := by
  have hw := decodeL_width l
  have hl : 0 < l.length := List.length_pos_iff.2 hne
  unfold runesL
  obtain ⟨n, hn⟩ : ∃ n, l.length = n + 1 := ⟨l.length - 1, by omega⟩
  rw [hn]
  simp only [runesF, if_neg hne]
  rw [runesF_fuel n _ _ (by rw [List.length_drop]; omega) (Nat.le_refl _)]

theorem runesL_length (l : L8) : (runesL l).length ≤ l.length := by
  induction hn : l.length using Nat.strongRecOn generalizing l with
  | _ n ih =>
    by_cases hne : l = []
    · subst hne; simp [runesL_nil]
    · have hw := decodeL_width l
      have hle := decodeL_le l hne
      rw [runesL_step l hne]
      have := ih (l.drop (decodeL l).2).length (by rw [List.length_drop]; omega) _ rfl
      rw [List.length_drop] at this
      simp only [List.length_cons]
      omega

/-- The text of a list of runes. -/
def textOf (rs : List Int) : L8 := rs.flatMap encodeRune
/-- The text whose damaged bytes are U+FFFD. -/
def mend (l : L8) : L8 := textOf (runesL l)

theorem mend_nil : mend [] = [] := rfl
theorem mend_step (l : L8) (hne : l ≠ []) : mend l = encodeRune (decodeL l).1 ++ mend (l.drop (decodeL l).2) := by
  unfold mend textOf
  rw [runesL_step l hne]
  rfl

def proper (l : L8) : Bool := mend l == l

theorem enc_bad : encodeRune 65533 = [239, 191, 189] := by decide

theorem mend_longer (l : L8) : l.length ≤ (mend l).length ∧ ((mend l).length = l.length → validD l = true) := by
  induction hn : l.length using Nat.strongRecOn generalizing l with
  | _ n ih =>
    by_cases hne : l = []
    · subst hne; simp [mend_nil, validD_nil] at hn ⊢; omega
    · have hw := decodeL_width l
      have hle := decodeL_le l hne
      have := ih (l.drop (decodeL l).2).length (by rw [List.length_drop]; omega) _ rfl
      rw [List.length_drop] at this
      obtain ⟨i1, i2⟩ := this
      rw [mend_step l hne, validD_step l hne, List.length_append]
      by_cases hb : (decodeL l).1 = 65533 ∧ (decodeL l).2 = 1
      · have e1 : encodeRune ((decodeL l).1 : Int) = [239, 191, 189] := by rw [hb.1]; exact enc_bad
        rw [e1, if_pos hb]
        simp only [List.length_cons, List.length_nil]
        omega
      · rw [if_neg hb, encode_decode l hne hb, List.length_take, Nat.min_eq_left hle]
        refine ⟨by omega, fun h => i2 (by omega)⟩

theorem valid_mend (l : L8) (h : validD l = true) : mend l = l := by
  induction hn : l.length using Nat.strongRecOn generalizing l with
  | _ n ih =>
    by_cases hne : l = []
    · subst hne; rfl
    · have hw := decodeL_width l
      have hl : 0 < l.length := List.length_pos_iff.2 hne
      rw [validD_step l hne] at h
      split at h
      · cases h
      · rename_i hb
        rw [mend_step l hne, encode_decode l hne hb, ih (l.drop (decodeL l).2).length (by rw [List.length_drop]; omega) _ h rfl, List.take_append_drop]

theorem proper_valid (l : L8) : proper l = validD l := by
  rw [Bool.eq_iff_iff]
  unfold proper
  rw [beq_iff_eq]
  constructor
  · intro h; exact (mend_longer l).2 (by rw [h])
  · exact valid_mend l

/-! ### One step of the specification -/

def okStep (l : L8) (n : Nat) : Bool := (runesL (l.take n)).length == 1 && mend (l.take n) == l.take n
def stepL (l : L8) : Nat := if bad l then 0 else (decodeL l).2

theorem okStep_iff (l : L8) (n : Nat) (h0 : 0 < n) (hn : n ≤ l.length) : okStep l n = true ↔ stepL l = n := by
  have hne : l ≠ [] := by intro h; subst h; simp at hn; omega
  have hlt : (l.take n).length = n := by rw [List.length_take]; omega
  have hne' : l.take n ≠ [] := by intro h; rw [h] at hlt; simp at hlt; omega
  unfold okStep stepL
  rw [Bool.and_eq_true, beq_iff_eq, beq_iff_eq]
  constructor
  · rintro ⟨h1, h2⟩
    rw [runesL_step _ hne'] at h1
    have h3 : runesL ((l.take n).drop (decodeL (l.take n)).2) = [] := by
      apply List.eq_nil_of_length_eq_zero; simp only [List.length_cons] at h1; omega
    have h4 : (l.take n).drop (decodeL (l.take n)).2 = [] := by
      by_cases h5 : (l.take n).drop (decodeL (l.take n)).2 = []
      · exact h5
      · rw [runesL_step _ h5] at h3; cases h3
    have h6 : (decodeL (l.take n)).2 = n := by
      have a1 := decodeL_le _ hne'
      have a2 := List.drop_eq_nil_iff.1 h4
      omega
    have h7 : ¬ bad (l.take n) := by
      intro hb
      rw [mend_step _ hne', hb.1, h4, mend_nil] at h2
      have := congrArg List.length h2
      rw [show ((65533 : Nat) : Int) = 65533 from rfl, enc_bad, hlt] at this
      have := hb.2
      simp at *
      omega
    have h8 := decode_back l n h0 hn h7
    have h9 : ¬ bad l := by unfold bad at h7 ⊢; rw [h8]; exact h7
    rw [if_neg h9, h8, h6]
  · intro h
    by_cases hb : bad l
    · rw [if_pos hb] at h; omega
    · rw [if_neg hb] at h
      have h1 := decode_forth l hne hb
      rw [h] at h1
      have hb' : ¬ bad (l.take n) := by unfold bad at hb ⊢; rw [h1]; exact hb
      have h2 : (l.take n).drop (decodeL (l.take n)).2 = [] := by rw [List.drop_eq_nil_iff, h1, h, hlt]; exact Nat.le_refl _
      refine ⟨?_, ?_⟩
      · rw [runesL_step _ hne', h2]; rfl
      · rw [mend_step _ hne', h2, mend_nil, encode_decode _ hne' hb', List.append_nil, h1, h, List.take_take]
        simp

theorem stepL_le (l : L8) (hne : l ≠ []) : stepL l ≤ l.length ∧ stepL l ≤ 4 := by
  unfold stepL
  split
  · omega
  · exact ⟨decodeL_le l hne, decode_le4 l⟩

end Go.Proofs.YtmnoiknpamfmoaaDoor.CS
