import Derived.Test.YtllcoocllkaanaaDoorZ8
namespace Go.Proofs.YtllcoocllkaanaaDoor
open Go.RowKit

/-! ### A gap: what was skipped -/
def bef : Int → Prs → Nat → Int
  | off, _, 0 => off
  | off, [], _ + 1 => off
  | _, (_, o) :: r, i + 1 => bef o r i
theorem bef_succ : ∀ (xs : Prs) (off : Int) (i : Nat), i < xs.length → bef off xs (i + 1) = (xs.getD i (0, 0)).2
  | [], _, i, h => by simp at h
  | (a, o) :: r, off, 0, _ => by cases r <;> rfl
  | (a, o) :: r, off, i + 1, h => by
    show bef o r (i + 1) = _
    rw [bef_succ r o i (by simpa using h)]
    simp [List.getD]
theorem bef_near : ∀ (xs : Prs) (off pa : Int) (i : Nat), shE off pa xs = 0 → (-840 ≤ off ∧ off ≤ 840) → -840 ≤ bef off xs i ∧ bef off xs i ≤ 840
  | [], off, _, 0, _, h => h
  | [], off, _, i + 1, _, h => h
  | (a, o) :: r, off, pa, 0, _, h => h
  | (a, o) :: r, off, pa, i + 1, hs, h => by
    obtain ⟨_, h2, _, _, _, _, h7⟩ := shE_cons hs
    exact bef_near r o a i h7 h2
theorem atF_before {t : Int} : ∀ (xs : Prs) (off : Int), (∀ x ∈ xs, t < x.1) → atF t off xs = off
  | [], _, _ => rfl
  | (a, o) :: r, off, h => by
    unfold atF
    rw [if_pos (h (a, o) (by simp))]
theorem gap_law : ∀ (xs : Prs) (off pa : Int) (i : Nat) (q : Int), shE off pa xs = 0 → (-840 ≤ off ∧ off ≤ 840) → i < xs.length → 0 ≤ q → q < (xs.getD i (0, 0)).2 - bef off xs i →
    (∀ u, u + atF u off xs ≠ (xs.getD i (0, 0)).1 + bef off xs i + q) ∧ gapF ((xs.getD i (0, 0)).1 + bef off xs i + q) off xs = some ((xs.getD i (0, 0)).1 + q) ∧ atF ((xs.getD i (0, 0)).1 + q) off xs = (xs.getD i (0, 0)).2
  | [], _, _, i, _, _, _, h, _, _ => by simp at h
  | (a, o) :: r, off, pa, 0, q, hs, hn, _, q0, q1 => by
    obtain ⟨_, h2, _, _, h5, h6, h7⟩ := shE_cons hs
    have e1 : ((a, o) :: r).getD 0 (0, 0) = (a, o) := rfl
    have e2 : bef off ((a, o) :: r) 0 = off := rfl
    rw [e1, e2] at q1 ⊢
    simp only at q1 ⊢
    have hl := shE_later h7
    refine ⟨fun u => ?_, ?_, ?_⟩
    · unfold atF
      split
      · omega
      · by_cases c : u < a + 2880
        · rw [atF_before r o (fun x hx => by have := (hl x hx).1; omega)]; omega
        · have := atF_near (t := u) r o a h7 h2
          omega
    · unfold gapF
      rw [if_pos (by omega)]; congr 1; omega
    · unfold atF
      rw [if_neg (by omega)]
      exact atF_before r o (fun x hx => by have := (hl x hx).1; omega)
  | (a, o) :: r, off, pa, i + 1, q, hs, hn, hi, q0, q1 => by
    obtain ⟨_, h2, _, _, h5, h6, h7⟩ := shE_cons hs
    have e1 : ((a, o) :: r).getD (i + 1) (0, 0) = r.getD i (0, 0) := by simp [List.getD]
    have e2 : bef off ((a, o) :: r) (i + 1) = bef o r i := rfl
    rw [e1, e2] at q1 ⊢
    have hi' : i < r.length := by simpa using hi
    obtain ⟨g1, g2, g3⟩ := gap_law r o a i q h7 h2 hi' q0 q1
    have hb := bef_near r o a i h7 h2
    have hx := (shE_later h7 (r.getD i (0, 0)) (by rw [List.getD_eq_getElem?_getD, List.getElem?_eq_getElem hi']; exact List.getElem_mem _)).1
    refine ⟨fun u => ?_, ?_, ?_⟩
    · unfold atF
      split
      · omega
      · exact g1 u
    · unfold gapF
      rw [if_neg (by omega)]; exact g2
    · unfold atF
      rw [if_neg (by omega)]; exact g3

theorem gap_all {nm : L8} {off : Int} {xs : Prs} {i : Nat} {q : Int} (h : vldE nm off xs = 0) (hi : i < xs.length) (ha : ∀ x ∈ xs, 0 ≤ x.1 ∧ x.1 ≤ 900000) (q0 : 0 ≤ q) (q1 : q < (xs.getD i (0, 0)).2 - bef off xs i) :
    insts nm off xs ((xs.getD i (0, 0)).1 + bef off xs i + q) = [] ∧ resV nm off xs ((xs.getD i (0, 0)).1 + bef off xs i + q) = (xs.getD i (0, 0)).1 + q ∧ resE nm off xs ((xs.getD i (0, 0)).1 + bef off xs i + q) = 0 ∧
    locV nm off xs ((xs.getD i (0, 0)).1 + q) = (xs.getD i (0, 0)).1 + q + (xs.getD i (0, 0)).2 ∧ offE nm off xs ((xs.getD i (0, 0)).1 + q) = 0 := by
  obtain ⟨_, hn, _, hs⟩ := vldE_ok h
  obtain ⟨g1, g2, g3⟩ := gap_law xs off _ i q hs hn hi q0 q1
  have hm : xs.getD i (0, 0) ∈ xs := by rw [List.getD_eq_getElem?_getD, List.getElem?_eq_getElem hi]; exact List.getElem_mem _
  have hx := ha _ hm
  have hx2 := (shE_later hs _ hm).2.2
  have hb := bef_near xs off _ i hs hn
  have hI : insts nm off xs ((xs.getD i (0, 0)).1 + bef off xs i + q) = [] := by
    refine List.eq_nil_iff_forall_not_mem.2 (fun t ht => ?_)
    exact g1 t ((insts_mem h).1 ht).2.2
  have hu : isI ((xs.getD i (0, 0)).1 + q) = true := isI_iff.2 (by omega)
  have hE : offE nm off xs ((xs.getD i (0, 0)).1 + q) = 0 := by
    unfold offE
    rw [if_neg (by simp [h]), if_neg (by rw [hu]; simp)]
  obtain ⟨r1, r2⟩ := res_gap h hI ((xs.getD i (0, 0)).1 + q) (by rw [g2]; simp only [okI, hu, if_true])
  exact ⟨hI, r1, r2, by unfold locV; rw [if_pos hE, g3], hE⟩

end Go.Proofs.YtllcoocllkaanaaDoor
