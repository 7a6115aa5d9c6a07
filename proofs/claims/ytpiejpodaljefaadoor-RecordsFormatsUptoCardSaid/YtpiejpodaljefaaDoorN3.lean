/- Records: the reference's Format: plain words for the loops, and the collected bytes. -/
import Derived.Test.YtpiejpodaljefaaDoorN1
import Derived.Test.YtpiejpodaljefaaDoorF4
import Derived.Deep.DeepCutAuto
namespace Go.Proofs.YtpiejpodaljefaaDoor
open Go.RowKit

/-- what is left of a record's line at field k -/
def remL (d q : UInt8) (x : List L8) (k : Nat) : L8 := if k = 0 then lineF d q x else restF d q false (x.drop k)
theorem remL_step {d q : UInt8} {x : List L8} {k : Nat} (h : k < x.length) : remL d q x k = (if k = 0 then [] else [d]) ++ (fieldF d q (k == 0) (x.length == 1) x[k] ++ remL d q x (k + 1)) := by
  unfold remL
  rw [if_neg (show ¬ k + 1 = 0 by omega)]
  cases k with
  | zero =>
    cases x with
    | nil => simp at h
    | cons s r =>
      have e : r.isEmpty = ((s :: r).length == 1) := by cases r <;> simp
      simp only [if_true, List.nil_append, lineF, e, List.getElem_cons_zero, List.drop_succ_cons, List.drop_zero]
      rfl
  | succ k =>
    rw [if_neg (show ¬ k + 1 = 0 by omega), if_neg (show ¬ k + 1 = 0 by omega), List.drop_eq_getElem_cons h, restF]
    have e : (x.length == 1) = false := beq_eq_false_iff_ne.2 (by omega)
    rw [e]
    rfl
theorem remL_end {d q : UInt8} {x : List L8} (h : 0 < x.length) : remL d q x x.length = [] := by
  unfold remL
  rw [if_neg (by omega), List.drop_length]; rfl
/-- what is left of a field at byte j -/
def fldR (qb : Bool) (q : UInt8) (s : L8) (j : Nat) : L8 := if qb then dbl q (s.drop j) ++ [q] else s.drop j
theorem fieldF_fldR {d q : UInt8} {first only : Bool} {s : L8} {qb : Bool} (h : qtd d q first only s = qb) : fieldF d q first only s = (if qb then [q] else []) ++ fldR qb q s 0 := by
  unfold fieldF fldR
  rw [h]
  cases qb <;> rfl
theorem fldR_end (qb : Bool) (q : UInt8) (s : ByteArray) : fldR qb q s.data.toList s.size = if qb then [q] else [] := by
  unfold fldR
  rw [drop_end s _ (Nat.le_refl _)]
  cases qb <;> rfl
theorem fldR_step {qb : Bool} {q : UInt8} {s : ByteArray} {j : Nat} (h : j < s.size) : fldR qb q s.data.toList j = s[j] :: ((if qb && s[j] == q then [q] else []) ++ fldR qb q s.data.toList (j + 1)) := by
  unfold fldR
  rw [drop_at s j h]
  cases qb
  · rfl
  · simp only [if_true, dbl]
    by_cases c : s[j] = q
    · subst c; simp
    · simp [c]

/-- The collected bytes of the reference's Format. -/
structure RfW (w : World) (d q : UInt8) (o : L8) (v : Value) (wr : World) : Prop where
  row : wr.ownsRow (w.heap.size + 1) 5 1 v o.length (Lib.byteCells o)
  bel : Below w.heap.size w wr
  box : DxAt wr w.heap.size d q
theorem RfW.hs {w : World} {d q : UInt8} {o : L8} {v : Value} {wr : World} (h : RfW w d q o v wr) : w.heap.size + 1 ≤ wr.heap.size := lt_of_heap h.box
theorem RfW.below {w : World} {d q : UInt8} {o : L8} {v : Value} {wr W : World} (h : RfW w d q o v wr) (hb : Below wr.heap.size wr W) : RfW w d q o v W :=
  ⟨row_below h.row hb, h.bel.trans (hb.mono h.bel.size), h.box.below hb⟩
/-- one byte more -/
theorem wpList_rf {ops : Array Oper} {rest : List Oper} {o : Oper} {a : Act} {Q : Exit → Act → World → Prop} (hgd : o.guard = none) (s x : Operand)
    (ho : o.op = .call { callee := .builtin .append, args := #[s, x], argTypes := #[61, 61] }) {w : World} {d q : UInt8} {l : L8} {v : Value} {wr : World} (c : UInt8) (xv : Int) (hc : xv = c.toNat) (hs : a.eval s = v) (h : RfW w d q l v wr)
    (hx : a.eval x = .slice (some ⟨wr.heap.size, 0, none⟩) 1 1) (hsz : l.length + 1 ≤ 140737488355328)
    (hK : ∀ v' w', RfW w d q (l ++ [c]) v' w' → wpList Tryd.prog ops Q rest (a.put o.dst v') w') : wpList Tryd.prog ops Q (o :: rest) a (wr.alloc (.cells #[.int .u8 xv] 5)) := by
  subst hc
  obtain ⟨i0, hi, hz, hz1, hz2⟩ := info_parts infoB
  have hb : Below wr.heap.size wr (wr.alloc (.cells #[.int .u8 c.toNat] 5)) := (Below.refl _ _).alloc (Nat.le_refl _) _
  have h' := h.below hb
  refine wpList_append_own _ hgd s x 61 ho (w.heap.size + 1) 5 i0 (.int .u8 0) 1 1 Tryd.underlying61 hi hz hz1 hz2 rfl (by decide) v l.length _ hs h'.row ⟨wr.heap.size, 0, none⟩ 1 1 [.int .u8 c.toNat] hx rfl (cell_one_new _ _ _) (by simp [Value.oneCell']) (by unfold maxLen; omega) (by omega) h'.hs ?_
  intro v' w5 hown hgr _
  have hlow : ∀ g, v.ownBlock = some g → w.heap.size + 1 ≤ g := fun g hg => (h'.row.lt g hg).1
  refine hK v' w5 ⟨by rw [List.length_append, Lib.byteCells_append]; exact hown, h'.bel.grown hgr h'.bel.size (fun g hg => by have := hlow g hg; omega), ?_⟩
  exact (hgr.block _ (lt_of_heap h'.box) (fun e => by have := hlow _ e.symm; omega)).trans h'.box
end Go.Proofs.YtpiejpodaljefaaDoor
