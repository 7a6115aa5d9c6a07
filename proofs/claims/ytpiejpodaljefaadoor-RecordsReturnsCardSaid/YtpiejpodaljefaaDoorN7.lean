/- Records: formatted records are parsed again: the plain law. -/
import Derived.Test.YtpiejpodaljefaaDoorT4
import Derived.Test.YtpiejpodaljefaaDoorF1
namespace Go.Proofs.YtpiejpodaljefaaDoor

/-- what stands behind a field -/
def Behind (d : UInt8) (t : L8) : Prop := (∃ R, t = 10 :: R) ∨ ∃ R, t = d :: R
theorem quotL_dbl {q : UInt8} {e : UInt8} {R : L8} (he : e ≠ q) : ∀ (s : L8) (l k : Nat) (o : L8), ∃ l' k', quotL q (dbl q s ++ q :: e :: R) l k o = ⟨true, o ++ s, e :: R, l', k'⟩
  | [], l, k, o => ⟨l, k + 1, by
      show quotL q (q :: e :: R) l k o = _
      rw [quotL, if_pos (by simp), if_neg (by simpa using he), List.append_nil]⟩
  | c :: s, l, k, o => by
    by_cases hc : c = q
    · subst hc
      obtain ⟨l', k', h⟩ := quotL_dbl he s l (k + 2) (o ++ [c])
      refine ⟨l', k', ?_⟩
      rw [dbl, if_pos (by simp)]
      show quotL c (c :: c :: (dbl c s ++ c :: e :: R)) l k o = _
      rw [quotL, if_pos (by simp), if_pos (by simp), h, List.append_assoc]
      rfl
    · have hcq : ¬ (c == q) = true := by simpa using hc
      rw [dbl, if_neg hcq]
      obtain ⟨a, b, hab⟩ : ∃ a b, dbl q s ++ q :: e :: R = a :: b := by
        cases hd : dbl q s with
        | nil => exact ⟨_, _, rfl⟩
        | cons a b => exact ⟨a, b ++ q :: e :: R, rfl⟩
      by_cases h10 : c = 10
      · obtain ⟨l', k', h⟩ := quotL_dbl he s (l + 1) 1 (o ++ [c])
        refine ⟨l', k', ?_⟩
        show quotL q (c :: (dbl q s ++ q :: e :: R)) l k o = _
        rw [hab] at h ⊢
        rw [quotL, if_neg hcq, if_pos (by simpa using h10), h, List.append_assoc]
        rfl
      · obtain ⟨l', k', h⟩ := quotL_dbl he s l (k + 1) (o ++ [c])
        refine ⟨l', k', ?_⟩
        show quotL q (c :: (dbl q s ++ q :: e :: R)) l k o = _
        rw [hab] at h ⊢
        rw [quotL, if_neg hcq, if_neg (by simpa using h10), h, List.append_assoc]
        rfl
theorem endL_cons {c : UInt8} {r : L8} (h1 : c ≠ 10) (h2 : c ≠ 13) : endL (c :: r) = false := by
  cases r <;> simp [endL, h1, h2]
theorem endL_ten (r : L8) : endL (10 :: r) = true := by cases r <;> rfl
theorem plainL_go {d q : UInt8} (hdq : d ≠ q) (_h10 : q ≠ 10) {t : L8} (ht : Behind d t) : ∀ s : L8, (∀ c ∈ s, (c == d || c == q || c == 13 || c == 10) = false) → plainL d q (s ++ t) = (s, t, true)
  | [], _ => by
    rcases ht with ⟨R, rfl⟩ | ⟨R, rfl⟩
    · show plainL d q (10 :: R) = _
      rw [plainL, if_pos (by rw [endL_ten]; rfl)]
    · show plainL d q (d :: R) = _
      rw [plainL, if_pos (by simp)]
  | c :: s, h => by
    have hc := h c (by simp)
    simp only [Bool.or_eq_false_iff, beq_eq_false_iff_ne] at hc
    have ih := plainL_go hdq _h10 ht s fun c hc => h c (by simp [hc])
    show plainL d q (c :: (s ++ t)) = _
    rw [plainL, if_neg (by rw [endL_cons hc.2 hc.1.2]; simpa using hc.1.1.1), if_neg (by simpa using hc.1.1.2), ih]

/-- A field that Format has written is read. -/
theorem fieldL_go {d q : UInt8} (hdq : d ≠ q) (h10 : q ≠ 10) {t : L8} (ht : Behind d t) (first only : Bool) (s : L8) (l k : Nat) :
    ∃ b l' k', fieldL d q ⟨fieldF d q first only s ++ t, l, k⟩ = (.inl (s, k, b), ⟨t, l', k'⟩) := by
  unfold fieldF
  cases hq : qtd d q first only s
  · rw [if_neg (by simp)]
    have hs : ∀ c ∈ s, (c == d || c == q || c == 13 || c == 10) = false := by
      intro c hc
      unfold qtd at hq
      simp only [Bool.or_eq_false_iff] at hq
      have := hq.1.1
      rw [List.any_eq_false] at this
      simpa using this c hc
    have hh : (s ++ t).head? ≠ some q := by
      cases s with
      | nil =>
        rcases ht with ⟨R, rfl⟩ | ⟨R, rfl⟩
        · simpa using fun h => h10 h.symm
        · simpa using hdq
      | cons c s =>
        have hc := hs c (by simp)
        simp only [Bool.or_eq_false_iff, beq_eq_false_iff_ne] at hc
        simpa using hc.1.1.2
    refine ⟨false, l, k + s.length, ?_⟩
    unfold fieldL
    rw [if_neg hh]
    simp only [plainL_go hdq h10 ht s hs, if_true]
  · rw [if_pos rfl]
    obtain ⟨e, R, rfl, he⟩ : ∃ e R, t = e :: R ∧ e ≠ q := by
      rcases ht with ⟨R, rfl⟩ | ⟨R, rfl⟩
      · exact ⟨10, R, rfl, fun h => h10 h.symm⟩
      · exact ⟨d, R, rfl, hdq⟩
    obtain ⟨l', k', h⟩ := quotL_dbl he (R := R) s l (k + 1) []
    refine ⟨true, l', k', ?_⟩
    have e1 : (q :: (dbl q s ++ [q])) ++ e :: R = q :: (dbl q s ++ q :: e :: R) := by simp
    have hend : endL (e :: R) = true ∨ (e :: R).head? = some d := by
      rcases ht with ⟨R', h'⟩ | ⟨R', h'⟩
      · cases h'; exact Or.inl (endL_ten R)
      · cases h'; exact Or.inr rfl
    unfold fieldL
    have hh : (St.mk (q :: (dbl q s ++ q :: e :: R)) l k).rest.head? = some q := rfl
    rw [e1, if_pos hh]
    simp only [List.tail_cons, h, List.nil_append]
    rw [if_neg (by simp), if_pos hend]
theorem recL_go {d q : UInt8} (hdq : d ≠ q) (h10 : q ≠ 10) (hd : d ≠ 10 ∧ d ≠ 13) (R : L8) : ∀ (r : List L8) (s : L8) (first only : Bool) (n l k : Nat) (fs : List Fld), r.length < n →
    ∃ fs' l' k', recL d q n ⟨fieldF d q first only s ++ (restF d q false r ++ 10 :: R), l, k⟩ fs = (.inl fs', ⟨10 :: R, l', k'⟩) ∧ fs'.map (·.1) = fs.map (·.1) ++ s :: r
  | [], s, first, only, n + 1, l, k, fs, _ => by
    obtain ⟨b, l', k', h⟩ := fieldL_go hdq h10 (t := 10 :: R) (Or.inl ⟨R, rfl⟩) first only s l k
    refine ⟨fs ++ [(s, k, b)], l', k', ?_, by simp⟩
    rw [restF, List.nil_append, recL, h]
    simp only [endL_ten, if_true]
  | s2 :: r, s, first, only, n + 1, l, k, fs, hn => by
    obtain ⟨b, l', k', h⟩ := fieldL_go hdq h10 (t := d :: (fieldF d q false false s2 ++ (restF d q false r ++ 10 :: R))) (Or.inr ⟨_, rfl⟩) first only s l k
    obtain ⟨fs', l2, k2, h2, h3⟩ := recL_go hdq h10 hd R r s2 false false n l' (k' + 1) (fs ++ [(s, k, b)]) (by simp at hn; omega)
    refine ⟨fs', l2, k2, ?_, by rw [h3]; simp⟩
    have e : restF d q false (s2 :: r) ++ 10 :: R = d :: (fieldF d q false false s2 ++ (restF d q false r ++ 10 :: R)) := by simp [restF]
    rw [e, recL, h]
    simp only [endL_cons hd.1 hd.2, List.tail_cons]
    rw [if_neg (by simp)]
    exact h2
theorem line_start {d q : UInt8} (hd : d ≠ 10 ∧ d ≠ 13 ∧ d ≠ 35) (hq : q ≠ 10 ∧ q ≠ 13 ∧ q ≠ 35) (x : List L8) (hx : 0 < x.length) (R : L8) :
    ∃ c r, lineF d q x ++ 10 :: R = c :: r ∧ c ≠ 10 ∧ c ≠ 13 ∧ c ≠ 35 := by
  cases x with
  | nil => simp at hx
  | cons s r =>
    have hlf : lineF d q (s :: r) = fieldF d q true r.isEmpty s ++ restF d q false r := rfl
    rw [hlf]
    unfold fieldF
    cases hqt : qtd d q true r.isEmpty s
    · rw [if_neg (by simp)]
      unfold qtd at hqt
      simp only [Bool.or_eq_false_iff] at hqt
      obtain ⟨⟨h1, h2⟩, h3⟩ := hqt
      cases s with
      | nil =>
        cases r with
        | nil => simp at h3
        | cons s2 r => exact ⟨d, _, rfl, hd⟩
      | cons c s =>
        rw [List.any_eq_false] at h1
        have hc := h1 c (by simp)
        simp at hc
        simp at h2
        exact ⟨c, _, rfl, hc.2, hc.1.2, h2⟩
    · rw [if_pos rfl]
      exact ⟨q, _, rfl, hq⟩
theorem skipL_ten (R : L8) : skipL (10 :: R) = R := by rw [skipL, if_pos (by simp)]
theorem parL_go {d q : UInt8} (hdq : d ≠ q) (hd : d ≠ 10 ∧ d ≠ 13 ∧ d ≠ 35) (hq : q ≠ 10 ∧ q ≠ 13 ∧ q ≠ 35) : ∀ (l : List (List L8)) (n k : Nat) (R : List Rcd), l.length ≤ n → R.length + l.length ≤ 400 → (∀ x ∈ l, 0 < x.length ∧ x.length ≤ 12) →
    ∃ R', parL d q n (textF d q l) k R [] = (R', []) ∧ R'.map (fun r => r.2.map (·.1)) = R.map (fun r => r.2.map (·.1)) ++ l
  | [], n, k, R, _, _, _ => ⟨R, by rw [textF, parL_nil], by simp⟩
  | x :: l, n + 1, k, R, hn, hR, hx => by
    obtain ⟨h0, h12⟩ := hx x (by simp)
    obtain ⟨c, r, hcr, c1, c2, c3⟩ := line_start hd hq x h0 (textF d q l)
    obtain ⟨s, y, rfl⟩ : ∃ s y, x = s :: y := by
      cases x with
      | nil => simp at h0
      | cons s y => exact ⟨s, y, rfl⟩
    obtain ⟨fs, l', k', hrec, hfs⟩ := recL_go hdq hq.1 ⟨hd.1, hd.2.1⟩ (textF d q l) y s true y.isEmpty 12 k 1 [] (by simp at h12; omega)
    have et : textF d q ((s :: y) :: l) = fieldF d q true y.isEmpty s ++ (restF d q false y ++ 10 :: textF d q l) := by simp [textF, lineF]
    have et2 : textF d q ((s :: y) :: l) = c :: r := hcr
    rw [← et] at hrec
    have hne : textF d q ((s :: y) :: l) ≠ [] := by rw [et2]; simp
    have hno : ¬ (endL (textF d q ((s :: y) :: l)) = true ∨ (textF d q ((s :: y) :: l)).head? = some 35) := by
      rw [et2, endL_cons c1 c2]
      simpa using c3
    simp only [List.length_cons] at hR hn
    obtain ⟨R', h1, h2⟩ := parL_go hdq hd hq l n (l' + 1) (R ++ [(k, fs)]) (by omega) (by simp; omega) fun x hx' => hx x (by simp [hx'])
    refine ⟨R', ?_, by rw [h2]; simp [hfs]⟩
    rw [parL_good hne hno (by omega) hrec]
    show parL d q n (skipL (10 :: textF d q l)) (l' + 1) _ _ = _
    rw [skipL_ten]
    exact h1
theorem textF_ge (d q : UInt8) : ∀ l : List (List L8), l.length ≤ (textF d q l).length
  | [] => by simp
  | x :: l => by
    have ih := textF_ge d q l
    simp only [textF, List.length_cons, List.length_append]
    omega
/-- FORMATTED RECORDS ARE PARSED AGAIN. -/
theorem par_text {d q : UInt8} (hok : okD d q = true) (l : List (List L8)) (hl : l.length ≤ 400) (hx : ∀ x ∈ l, 0 < x.length ∧ x.length ≤ 12) (ht : (textF d q l).length ≤ 65536) :
    ∃ R, parT d q (textF d q l) = (R, []) ∧ R.map (fun r => r.2.map (·.1)) = l := by
  obtain ⟨hd, hq⟩ := okD_of hok
  obtain ⟨R, h1, h2⟩ := parL_go (d := d) (q := q) (by rcases hd with rfl | rfl | rfl | rfl <;> rcases hq with rfl | rfl <;> decide) (by rcases hd with rfl | rfl | rfl | rfl <;> decide) (by rcases hq with rfl | rfl <;> decide) l (textF d q l).length 1 [] (textF_ge d q l) (by simpa using hl) hx
  refine ⟨R, ?_, by simpa using h2⟩
  unfold parT
  rw [if_neg (by simp [hok]), if_neg (by omega)]
  exact h1
end Go.Proofs.YtpiejpodaljefaaDoor
