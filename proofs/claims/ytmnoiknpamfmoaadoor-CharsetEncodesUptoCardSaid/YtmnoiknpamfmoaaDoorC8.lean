import Derived.Test.YtmnoiknpamfmoaaDoorC7
namespace Go.Proofs.YtmnoiknpamfmoaaDoor
open Go.RowKit CS

/-- The cells that a list of damages takes. -/
def dcells (xs : Dmg) : List Value := xs.flatMap (fun d => [.int .i64 d.1, .int .i64 d.2])
theorem dcells_len (xs : Dmg) : (dcells xs).length = xs.length * 2 := by
  induction xs with
  | nil => rfl
  | cons d xs ih => simp only [dcells, List.flatMap_cons, List.length_append, List.length_cons, List.length_nil] at ih ⊢; omega
theorem dcells_app (xs ys : Dmg) : dcells (xs ++ ys) = dcells xs ++ dcells ys := by simp [dcells]

theorem dmg_kept {w w' : World} {B b : Nat} {v : Value} {n : Nat} {xs : List Value} (h : w.ownsRow B 32 2 v n xs) (hk : Lib.OthersKept 5 (some b) w w') (hb : ∃ c, w.heap[b]? = some (.cells c 44 (0, 0))) : w'.ownsRow B 32 2 v n xs := by
  refine ⟨h.1, ?_⟩
  rcases h.2 with hn | ⟨g, cap, cur, rfl, hB, hg, rest⟩
  · exact .inl hn
  · refine .inr ⟨g, cap, cur, rfl, hB, hk g _ hg ?_ ?_, rest⟩
    · intro e
      obtain ⟨c, hc⟩ := hb
      rw [← Option.some.inj e, hg] at hc
      simp at hc
    · intro c fz e
      simp at e

theorem bld_at {w w' : World} {B b : Nat} {p : Value} {bs : List Value} {row : Option Nat} (h : Lib.BuilderAtF 44 5 B b p bs w) (hg : w.grownBy w' row) (hrow : ∀ g, row = some g → ∃ c fz, w.heap[g]? = some (.cells c 32 fz)) : Lib.BuilderAtF 44 5 B b p bs w' := by
  have hlt := h.lt
  obtain ⟨hB, v, hb, hown, hne⟩ := h
  refine ⟨hB, v, ?_, ?_, hne⟩
  · rw [hg.block b hlt ?_]
    · exact hb
    · intro e
      obtain ⟨c, fz, hc⟩ := hrow b e.symm
      rw [hb] at hc
      simp at hc
  · refine hown.kept hg ?_
    cases hv : v.ownBlock with
    | none => exact Or.inl rfl
    | some k =>
      refine Or.inr (fun e => ?_)
      obtain ⟨c, fz, hc⟩ := Lib.ownsRowF_kind hown k hv
      obtain ⟨c', fz', hc'⟩ := hrow k e.symm
      rw [hc] at hc'
      simp at hc'

theorem bld_kept {w w' : World} {B b : Nat} {bs : List Value} {row : Option Nat} (h : Lib.IsBuilderF 44 5 B b bs w) (hg : w.grownBy w' row) (hrow : ∀ g, row = some g → ∃ c fz, w.heap[g]? = some (.cells c 32 fz)) : Lib.IsBuilderF 44 5 B b bs w' :=
  h.elim (fun x => .inl (bld_at x hg hrow)) (fun x => .inr (bld_at x hg hrow))

theorem bld_block {w : World} {B b : Nat} {bs : List Value} (h : Lib.IsBuilderF 44 5 B b bs w) : ∃ c, w.heap[b]? = some (.cells c 44 (0, 0)) := by
  rcases h with ⟨_, v, hb, _⟩ | ⟨_, v, hb, _⟩
  · exact ⟨_, hb⟩
  · exact ⟨_, hb⟩

theorem dmg_kind {w : World} {B : Nat} {v : Value} {n : Nat} {xs : List Value} (h : w.ownsRow B 32 2 v n xs) : ∀ g, v.ownBlock = some g → ∃ c fz, w.heap[g]? = some (.cells c 32 fz) := by
  intro g hg
  rcases h.2 with ⟨rfl, _⟩ | ⟨g', cap, cur, rfl, _, hgg, _⟩
  · simp [Value.ownBlock] at hg
  · simp [Value.ownBlock] at hg
    subst hg
    exact ⟨cur, _, hgg⟩

theorem dcells_at : ∀ (xs : Dmg) (j : Nat), j < xs.length → (dcells xs)[j * 2]? = some (.int .i64 (xs.getD j (0, 0)).1) ∧ (dcells xs)[j * 2 + 1]? = some (.int .i64 (xs.getD j (0, 0)).2)
  | [], j, h => by simp at h
  | d :: xs, 0, _ => by simp [dcells, List.getD]
  | d :: xs, j + 1, h => by
    have ih := dcells_at xs j (by simpa using h)
    have e : dcells (d :: xs) = .int .i64 d.1 :: .int .i64 d.2 :: dcells xs := rfl
    have e2 : (j + 1) * 2 = j * 2 + 1 + 1 := by omega
    rw [e, e2]
    simpa [List.getD] using ih

theorem dam_of {w : World} {B : Nat} {v : Value} {xs : Dmg} (h : w.ownsRow B 32 2 v xs.length (dcells xs)) : Dam w v xs := by
  rcases h.2 with ⟨rfl, hn⟩ | ⟨g, cap, cur, rfl, _, hg, hle, _, _, htake⟩
  · have : xs = [] := List.eq_nil_of_length_eq_zero hn
    subst this
    exact ⟨none, 0, rfl, Nat.le_refl _, fun h => absurd rfl h⟩
  · refine ⟨_, cap, rfl, hle, fun _ => ⟨g, rfl, fun j hj => ?_⟩⟩
    obtain ⟨p, q⟩ := dcells_at xs j hj
    have hc : ∀ i : Nat, w.cell? ⟨g, i, none⟩ = cur[i]? := fun i => by simp [World.cell?, hg]
    rw [← htake] at p q
    rw [List.getElem?_take] at p q
    rw [hc, hc, ← Array.getElem?_toList, ← Array.getElem?_toList]
    rw [if_pos (by omega)] at p q
    exact ⟨p, q⟩

end Go.Proofs.YtmnoiknpamfmoaaDoor
