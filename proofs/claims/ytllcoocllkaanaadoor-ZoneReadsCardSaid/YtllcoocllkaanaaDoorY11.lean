/- Zones: the lines of a text, one after another: the plain law. -/
import Derived.Test.YtllcoocllkaanaaDoorY10
namespace Go.Proofs.YtllcoocllkaanaaDoor
open TT

/-- what all lines say -/
def allZ (t : L8) : Option Zn := goZ whenC (t.length + 1) t 0 ([], 0, [])
theorem par_none {t : L8} (h : allZ t = none) : parZ whenC t = none := by
  unfold parZ; unfold allZ at h; rw [h]
theorem par_some {t : L8} {z : Zn} (h : allZ t = some z) : parZ whenC t = if vldE z.1 z.2.1 z.2.2 = 0 ∧ fmtZ z = t then some z else none := by
  unfold parZ; unfold allZ at h; rw [h]
/-- where the reading stands -/
def LnP (s : ByteArray) (parts : List ByteArray) (k : Nat) (z : Zn) : Prop :=
  (∃ (r : ByteArray) (n : Nat), parts.drop k = pcs r ∧ r.size ≤ s.size ∧ r.size < n ∧ goZ whenC n r.data.toList k z = allZ s.data.toList) ∨ (parts.length = k ∧ 0 < k ∧ allZ s.data.toList = some z)
theorem lnP_start (s : ByteArray) : LnP s (pcs s) 0 ([], 0, []) := Or.inl ⟨s, s.size + 1, rfl, Nat.le_refl _, Nat.lt_succ_self _, rfl⟩
theorem off_nil : offP [] = none := by unfold offP; exact if_neg fun h => absurd h.1 (by decide)
theorem line_le (r : L8) : (lineL r).length ≤ r.length := by unfold lineL; exact (List.takeWhile_prefix _).length_le
theorem key_le (r : L8) : (keyL r).length ≤ r.length := by unfold keyL; exact (List.takeWhile_prefix _).length_le
theorem ln_next {s : ByteArray} {parts ps : List ByteArray} {k n : Nat} {r r' p : ByteArray} {z : Zn} (hd : parts.drop k = p :: ps) (hr : r'.data.toList = r.data.toList.drop ((lineL r.data.toList).length + 1)) (hne : r.data.toList ≠ [])
    (hps : ps = [] ∧ r'.data.toList = [] ∨ ps = pcs r') (hs : r.size ≤ s.size) (hn : r.size < n + 1) (hg : goZ whenC n r'.data.toList (k + 1) z = allZ s.data.toList) : LnP s parts (k + 1) z := by
  have hlen : r'.size = r.size - ((lineL r.data.toList).length + 1) := by
    have h := congrArg List.length hr
    rw [List.length_drop] at h
    exact h
  have h0 : 0 < r.size := by
    have : r.data.toList.length ≠ 0 := fun h => hne (List.length_eq_zero_iff.1 h)
    exact Nat.pos_of_ne_zero this
  have hd2 : parts.drop (k + 1) = ps := by
    have h := congrArg List.tail hd
    rw [List.tail_drop] at h
    exact h
  rcases hps with ⟨h1, h2⟩ | h1
  · right
    have hk : parts.length = k + 1 := by
      have h := congrArg List.length hd
      rw [List.length_drop, h1] at h
      simp at h; omega
    refine ⟨hk, by omega, ?_⟩
    rw [← hg, h2]
    obtain ⟨m, rfl⟩ : ∃ m, n = m + 1 := ⟨n - 1, by omega⟩
    rw [goZ_nil]
  · left
    exact ⟨r', n, by rw [hd2, h1], by omega, by omega, hg⟩
/-- ONE LINE OF A TEXT. -/
theorem ln_step {s : ByteArray} {parts : List ByteArray} {k : Nat} {z : Zn} (h : LnP s parts k z) (hz : k = 0 → z = ([], 0, [])) :
    (parts.length = k ∧ allZ s.data.toList = some z) ∨
    ∃ (p : ByteArray), (k < parts.length ∧ parts[k]? = some p) ∧ p.size ≤ s.size ∧
      ((p = ⟨#[]⟩ ∧ 0 < k ∧ allZ s.data.toList = some z) ∨
       ((0 < k → 0 < p.size) ∧ ∃ a b : L8, (∃ f, Lib.cut (Lib.trimSuffix p.data.toList [10]) [32] = (a, b, f)) ∧ (Lib.trimSuffix p.data.toList [10]).length ≤ s.size ∧ a.length ≤ s.size ∧ b.length ≤ s.size ∧
        (offP b = none → parZ whenC s.data.toList = none) ∧
        (∀ o, offP b = some o → (k = 0 → LnP s parts 1 (a, o, [])) ∧ (0 < k → (whenC a = none → parZ whenC s.data.toList = none) ∧ (64 < k → parZ whenC s.data.toList = none) ∧
          ∀ t, whenC a = some t → k ≤ 64 → LnP s parts (k + 1) (z.1, z.2.1, z.2.2 ++ [(t, o)]))))) := by
  rcases h with ⟨r, n, hd, hs, hn, hg⟩ | ⟨h1, h2, h3⟩
  · right
    obtain ⟨p, ps, r', hp, ht, hr, hps, he, he2, hsz⟩ := piece_step r
    rw [hp] at hd
    have hk : k < parts.length := by
      have h := congrArg List.length hd
      rw [List.length_drop] at h
      simp at h; omega
    have hpk : parts[k]? = some p := by
      have h := congrArg List.head? hd
      rw [List.head?_drop] at h
      exact h
    refine ⟨p, ⟨hk, hpk⟩, by omega, ?_⟩
    by_cases hne : r.data.toList = []
    · have hpe := he2 hne
      obtain ⟨m, rfl⟩ : ∃ m, n = m + 1 := ⟨n - 1, by omega⟩
      rw [hne, goZ_nil] at hg
      by_cases h0 : 0 < k
      · exact Or.inl ⟨hpe, h0, hg.symm⟩
      · right
        have hpn : parZ whenC s.data.toList = none := by
          rw [par_some hg.symm, hz (by omega)]
          exact if_neg fun h => absurd h.1 (by decide)
        refine ⟨fun h => absurd h h0, [], [], ⟨false, ?_⟩, ?_, by simp, by simp, fun _ => hpn, fun o ho => by rw [off_nil] at ho; cases ho⟩
        · rw [hpe]; rfl
        · rw [hpe]; show ([] : L8).length ≤ _; simp
    · right
      have hp0 : 0 < p.size := Nat.pos_of_ne_zero fun h => hne (he h)
      obtain ⟨f, hf⟩ := cut_key (lineL r.data.toList)
      obtain ⟨m, rfl⟩ : ∃ m, n = m + 1 := ⟨n - 1, by omega⟩
      rw [goZ_step _ _ _ _ _ hne] at hg
      have hl1 := line_le r.data.toList
      have hl2 := key_le (lineL r.data.toList)
      have hrl : r.data.toList.length = r.size := rfl
      refine ⟨fun _ => hp0, keyL (lineL r.data.toList), (lineL r.data.toList).drop ((keyL (lineL r.data.toList)).length + 1), ⟨f, by rw [ht, hf]⟩, by rw [ht]; omega, by omega, by rw [List.length_drop]; omega, ?_, ?_⟩
      · intro ho
        rw [ho] at hg
        exact par_none hg.symm
      · intro o ho
        rw [ho] at hg
        simp only at hg
        constructor
        · intro h0
          subst h0
          rw [if_pos rfl, ← hr] at hg
          exact ln_next hd hr hne hps hs hn hg
        · intro h0
          rw [if_neg (by omega)] at hg
          refine ⟨fun hw => ?_, fun h64 => ?_, fun t hw h64 => ?_⟩
          · rw [hw] at hg; exact par_none hg.symm
          · cases hw : whenC (keyL (lineL r.data.toList)) with
            | none => rw [hw] at hg; exact par_none hg.symm
            | some t => rw [hw] at hg; simp only at hg; rw [if_pos h64] at hg; exact par_none hg.symm
          · rw [hw] at hg; simp only at hg; rw [if_neg (by omega), ← hr] at hg
            exact ln_next hd hr hne hps hs hn hg
  · exact Or.inl ⟨h1, h3⟩
end Go.Proofs.YtllcoocllkaanaaDoor
