/- The merge of two lists of days, in plain Lean. No program in sight. -/
import Derived.Test.YtibigbfkokendaaDoorP2
namespace TT
theorem Inc.drop {L : List Int} (h : Inc L) (i : Nat) : Inc (L.drop i) := List.Pairwise.sublist (List.drop_sublist i L) h
structure MG (L M : List Int) (i k n : Nat) : Prop where
  hi : i ≤ L.length
  hk : k ≤ M.length
  hn : n ≤ i + k
  hs : n + symD (L.drop i) (M.drop k) = symD L M
theorem MG.start (L M : List Int) : MG L M 0 0 0 := ⟨by omega, by omega, by omega, by simp⟩
theorem MG.fin {L M : List Int} {i k n : Nat} (h : MG L M i k n) (hi : i = L.length) (hk : k = M.length) : n = symD L M := by
  have := h.hs
  subst hi hk
  rw [List.drop_length, List.drop_length, symD_nil] at this
  simpa using this
theorem MG.left {L M : List Int} {i k n : Nat} (h : MG L M i k n) (hi : i < L.length) (hk : k = M.length) : MG L M (i + 1) k (n + 1) := by
  refine ⟨by omega, h.hk, by have := h.hn; omega, ?_⟩
  have := h.hs
  subst hk
  rw [List.drop_length, symD_nil2, List.length_drop] at this ⊢
  omega
theorem MG.right {L M : List Int} {i k n : Nat} (h : MG L M i k n) (hi : i = L.length) (hk : k < M.length) : MG L M i (k + 1) (n + 1) := by
  refine ⟨h.hi, by omega, by have := h.hn; omega, ?_⟩
  have := h.hs
  subst hi
  rw [List.drop_length, symD_nil, List.length_drop] at this ⊢
  omega
theorem cons_lt {b a : Int} {M : List Int} (hM : Inc (b :: M)) (h : a < b) : ∀ x ∈ b :: M, a < x := by
  intro x hx
  rcases List.mem_cons.1 hx with rfl | hx
  · exact h
  · have := List.rel_of_pairwise_cons hM hx; omega
theorem MG.lt {L M : List Int} {i k n : Nat} (h : MG L M i k n) (hL : Inc L) (hM : Inc M) (hi : i < L.length) (hk : k < M.length) (hx : L.getD i 0 < M.getD k 0) : MG L M (i + 1) k (n + 1) := by
  refine ⟨by omega, h.hk, by have := h.hn; omega, ?_⟩
  have hs := h.hs
  have h1 := hL.drop i
  have h2 := hM.drop k
  rw [drop_at L i hi] at hs h1
  rw [symD_lt h1 (by rw [drop_at M k hk] at h2 ⊢; exact cons_lt h2 hx)] at hs
  omega
theorem MG.gt {L M : List Int} {i k n : Nat} (h : MG L M i k n) (hL : Inc L) (hM : Inc M) (hi : i < L.length) (hk : k < M.length) (hx : M.getD k 0 < L.getD i 0) : MG L M i (k + 1) (n + 1) := by
  refine ⟨h.hi, by omega, by have := h.hn; omega, ?_⟩
  have hs := h.hs
  have h1 := hL.drop i
  have h2 := hM.drop k
  rw [drop_at M k hk] at hs h2
  rw [symD_gt h2 (by rw [drop_at L i hi] at h1 ⊢; exact cons_lt h1 hx)] at hs
  omega
theorem MG.eq {L M : List Int} {i k n : Nat} (h : MG L M i k n) (hL : Inc L) (hM : Inc M) (hi : i < L.length) (hk : k < M.length) (hx : M.getD k 0 = L.getD i 0) : MG L M (i + 1) (k + 1) n := by
  refine ⟨by omega, by omega, by have := h.hn; omega, ?_⟩
  have hs := h.hs
  have h1 := hL.drop i
  have h2 := hM.drop k
  rw [drop_at M k hk, hx] at hs h2
  rw [drop_at L i hi] at hs h1
  rw [symD_eq h1 h2] at hs
  exact hs
/-- the series with no exceptions is valid -/
theorem bare_valid {f l e k : Int} (h1 : okDay f = true) (h2 : okDay l = true) (h3 : f ≤ l) (h4 : l ≤ f + 140) (e1 : 1 ≤ e) (e2 : e ≤ 4) (k1 : 0 ≤ k) (k2 : k ≤ 127) : vlE f l e k [] [] = 0 := by
  refine vlE_mk ?_ Inc.nil (by simp) Inc.nil (by simp)
  unfold vl0
  simp [h1, h2]
  omega
theorem fewest {L : List Int} {e k : Int} (h : ofE L = 0) (e1 : 1 ≤ e) (e2 : e ≤ 4) : (ofX L).length + (ofY L).length ≤ symD L (daysS (fstD L) (lstD L) e k [] []) := by
  obtain ⟨h0, hinc, hok, hl⟩ := ofE_inv h
  rw [symD_cost hinc (fun x hx => inc_bounds hinc hx)]
  refine Nat.le_trans (Nat.le_of_eq ?_) (best_min L e k e1 e2)
  unfold ofX ofY
  rw [if_pos h, if_pos h]; rfl
end TT
