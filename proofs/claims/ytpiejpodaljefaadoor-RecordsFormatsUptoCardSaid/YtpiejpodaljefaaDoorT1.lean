import Derived.Test.YtpiejpodaljefaaDoorR7
import Derived.Test.YtpiejpodaljefaaDoorR5
namespace Go.Proofs.YtpiejpodaljefaaDoor
open Go.RowKit

/-- the cells of records -/
def rcells (L : List (Rcd × Value)) : List Value := L.flatMap (fun x => [.int .i64 x.1.1, x.2])
theorem rcells_len (L : List (Rcd × Value)) : (rcells L).length = L.length * 2 := by
  induction L with
  | nil => rfl
  | cons d xs ih => simp only [rcells, List.flatMap_cons, List.length_append, List.length_cons, List.length_nil] at ih ⊢; omega
theorem rcells_app (xs ys : List (Rcd × Value)) : rcells (xs ++ ys) = rcells xs ++ rcells ys := by simp [rcells]
theorem rcells_at : ∀ (L : List (Rcd × Value)) (j : Nat) (h : j < L.length), (rcells L)[j * 2]? = some (.int .i64 (L[j]).1.1) ∧ (rcells L)[j * 2 + 1]? = some (L[j]).2
  | [], j, h => by simp at h
  | d :: xs, 0, _ => by simp [rcells]
  | d :: xs, j + 1, h => by
    have ih := rcells_at xs j (by simpa using h)
    have e : rcells (d :: xs) = .int .i64 d.1.1 :: d.2 :: rcells xs := rfl
    have e2 : (j + 1) * 2 = j * 2 + 1 + 1 := by omega
    rw [e, e2]
    simpa using ih
theorem fcells_at : ∀ (fs : List Fld) (j : Nat) (h : j < fs.length), (fcells fs)[j * 3]? = some (.string (arr (fs[j]).1)) ∧ (fcells fs)[j * 3 + 1]? = some (.int .i64 (fs[j]).2.1) ∧ (fcells fs)[j * 3 + 2]? = some (.bool (fs[j]).2.2)
  | [], j, h => by simp at h
  | d :: xs, 0, _ => by simp [fcells]
  | d :: xs, j + 1, h => by
    have ih := fcells_at xs j (by simpa using h)
    have e : fcells (d :: xs) = .string (arr d.1) :: .int .i64 d.2.1 :: .bool d.2.2 :: fcells xs := rfl
    have e2 : (j + 1) * 3 = j * 3 + 1 + 1 + 1 := by omega
    rw [e, e2]
    simpa using ih
/-- the cells of problems -/
def pcellsP (P : List Prb) : List Value := P.flatMap (fun x => [.int .i64 0, .int .i64 x.1, .int .i64 x.2.1, .int .i64 x.2.2])
theorem pcellsP_len (P : List Prb) : (pcellsP P).length = P.length * 4 := by
  induction P with
  | nil => rfl
  | cons d xs ih => simp only [pcellsP, List.flatMap_cons, List.length_append, List.length_cons, List.length_nil] at ih ⊢; omega
theorem pcellsP_app (xs ys : List Prb) : pcellsP (xs ++ ys) = pcellsP xs ++ pcellsP ys := by simp [pcellsP]
theorem pcellsP_at : ∀ (P : List Prb) (j : Nat) (h : j < P.length), (pcellsP P)[j * 4]? = some (.int .i64 0) ∧ (pcellsP P)[j * 4 + 1]? = some (.int .i64 (P[j]).1) ∧ (pcellsP P)[j * 4 + 2]? = some (.int .i64 (P[j]).2.1) ∧ (pcellsP P)[j * 4 + 3]? = some (.int .i64 (P[j]).2.2)
  | [], j, h => by simp at h
  | d :: xs, 0, _ => by simp [pcellsP]
  | d :: xs, j + 1, h => by
    have ih := pcellsP_at xs j (by simpa using h)
    have e : pcellsP (d :: xs) = .int .i64 0 :: .int .i64 d.1 :: .int .i64 d.2.1 :: .int .i64 d.2.2 :: pcellsP xs := rfl
    have e2 : (j + 1) * 4 = j * 4 + 1 + 1 + 1 + 1 := by omega
    rw [e, e2]
    simpa using ih

/-- A value that reads as records; its rows lie from B on. -/
def RecsW (w : World) (B : Nat) (v : Value) (R : List Rcd) : Prop :=
  ∃ L : List (Rcd × Value), L.map (·.1) = R ∧ w.ownsRow B 48 2 v L.length (rcells L) ∧ ∀ x ∈ L, w.ownsRow B 50 3 x.2 x.1.2.length (fcells x.1.2)
/-- A value that reads as problems. -/
def ProbsW (w : World) (B : Nat) (v : Value) (P : List Prb) : Prop := w.ownsRow B 77 4 v P.length (pcellsP P)

theorem row_keepk {w w' : World} {base : Nat} {e : TypeId} {size : Nat} {v : Value} {n : Nat} {xs : List Value} (h : w.ownsRow base e size v n xs) (hk : ∀ g c fz, base ≤ g → w.heap[g]? = some (.cells c e fz) → w'.heap[g]? = w.heap[g]?) : w'.ownsRow base e size v n xs :=
  row_keep h fun g hg => by
    obtain ⟨c, fz, hc⟩ := Lib.ownsRow_kind h g hg
    exact hk g c fz (h.lt g hg).1 hc
theorem RecsW.keep {w w' : World} {B : Nat} {v : Value} {R : List Rcd} (h : RecsW w B v R) (hk : ∀ g c T fz, B ≤ g → (T = 48 ∨ T = 50) → w.heap[g]? = some (.cells c T fz) → w'.heap[g]? = w.heap[g]?) : RecsW w' B v R := by
  obtain ⟨L, h1, h2, h3⟩ := h
  exact ⟨L, h1, row_keepk h2 (fun g c fz hg hc => hk g c 48 fz hg (Or.inl rfl) hc), fun x hx => row_keepk (h3 x hx) (fun g c fz hg hc => hk g c 50 fz hg (Or.inr rfl) hc)⟩
theorem RecsW.below {w w' : World} {B : Nat} {v : Value} {R : List Rcd} (h : RecsW w B v R) (hb : Below w.heap.size w w') : RecsW w' B v R := h.keep fun g _ _ _ _ _ hc => hb.block g (lt_of_heap hc)
theorem RecsW.but {w w' : World} {B p : Nat} {v : Value} {R : List Rcd} (h : RecsW w B v R) (hb : But p w w') (hp : p < B) : RecsW w' B v R := h.keep fun g _ _ _ hg _ hc => hb.block g (lt_of_heap hc) (by omega)
theorem RecsW.grown {w w' : World} {B B2 s n : Nat} {e : TypeId} {v v2 : Value} {xs : List Value} {R : List Rcd} (h : RecsW w B v R) (h2 : w.ownsRow B2 e s v2 n xs) (hg : w.grownBy w' v2.ownBlock) (h48 : e ≠ 48) (h50 : e ≠ 50) : RecsW w' B v R :=
  h.keep fun g c T fz _ hT hc => hg.block g (lt_of_heap hc) (fun e1 => by
    refine own_kind_ne h2 hc ?_ e1.symm
    rcases hT with rfl | rfl
    · exact fun e2 => h48 e2.symm
    · exact fun e2 => h50 e2.symm)
theorem RecsW.base {w : World} {B B2 : Nat} {v : Value} {R : List Rcd} (h : RecsW w B v R) (hB : B2 ≤ B) : RecsW w B2 v R := by
  obtain ⟨L, h1, h2, h3⟩ := h
  exact ⟨L, h1, row_base h2 hB, fun x hx => row_base (h3 x hx) hB⟩
theorem ProbsW.below {w w' : World} {B : Nat} {v : Value} {P : List Prb} (h : ProbsW w B v P) (hb : Below w.heap.size w w') : ProbsW w' B v P := row_below h hb
theorem ProbsW.but {w w' : World} {B p : Nat} {v : Value} {P : List Prb} (h : ProbsW w B v P) (hb : But p w w') (hp : p < B) : ProbsW w' B v P := row_but h hb hp
theorem ProbsW.grown {w w' : World} {B B2 s n : Nat} {e : TypeId} {v v2 : Value} {xs : List Value} {P : List Prb} (h : ProbsW w B v P) (h2 : w.ownsRow B2 e s v2 n xs) (hg : w.grownBy w' v2.ownBlock) (hne : e ≠ 77) : ProbsW w' B v P :=
  row_keepk h fun g _c _fz _ hc => hg.block g (lt_of_heap hc) (fun e1 => own_kind_ne h2 hc (fun e2 => hne e2.symm) e1.symm)
theorem RecsW.nil (w : World) (B : Nat) : RecsW w B (.slice none 0 0) [] := ⟨[], rfl, World.ownsRow_nil _ _ _ _, fun _ hx => by cases hx⟩
theorem ProbsW.nil (w : World) (B : Nat) : ProbsW w B (.slice none 0 0) [] := World.ownsRow_nil _ _ _ _
end Go.Proofs.YtpiejpodaljefaaDoor
