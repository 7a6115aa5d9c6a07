/- Series: the weekdays that a series of days should have, of the reference. -/
import Derived.Test.YtibigbfkokendaaGreatDoorR14
namespace Go.Proofs.YtibigbfkokendaaGreatDoor
open Go.RowKit Go.Maps TT

theorem bitN_pow : ∀ p q : Fin 7, bitN (2 ^ p.val) (q.val : Int) = decide ((q.val : Int) = (p.val : Int)) := by decide +kernel
theorem reg_pow {f l e x : Int} (p : Nat) (hp : p < 7) (h1 : f ≤ x) (h2 : x ≤ l) : regB f l e (2 ^ p) x = (decide (wd7 x = (p : Int)) && cntB f e x) := by
  have hw := wd7_bd x
  have h := bitN_pow ⟨p, hp⟩ ⟨(wd7 x).toNat, by omega⟩
  simp only at h
  rw [show (((wd7 x).toNat : Nat) : Int) = wd7 x from by omega] at h
  unfold regB
  rw [h, decide_eq_true (show f ≤ x ∧ x ≤ l from ⟨h1, h2⟩), Bool.true_and]
theorem hit_no {L : List Int} {f e : Int} {p n : Nat} (h : (decide (wd7 (f + n) = (p : Int)) && cntB f e (f + n)) = false) : hitN L f e p (n + 1) = hitN L f e p n ∧ misN L f e p (n + 1) = misN L f e p n := by
  rw [hit_succ, mis_succ, ← Bool.and_assoc, ← Bool.and_assoc, h]; simp
theorem hit_yes {L : List Int} {f e : Int} {p n : Nat} (h : (decide (wd7 (f + n) = (p : Int)) && cntB f e (f + n)) = true) (hh : hasI L (f + n) = true) : hitN L f e p (n + 1) = hitN L f e p n + 1 ∧ misN L f e p (n + 1) = misN L f e p n := by
  rw [hit_succ, mis_succ, ← Bool.and_assoc, ← Bool.and_assoc, h, hh]; simp
theorem mis_yes {L : List Int} {f e : Int} {p n : Nat} (h : (decide (wd7 (f + n) = (p : Int)) && cntB f e (f + n)) = true) (hh : hasI L (f + n) = false) : hitN L f e p (n + 1) = hitN L f e p n ∧ misN L f e p (n + 1) = misN L f e p n + 1 := by
  rw [hit_succ, mis_succ, ← Bool.and_assoc, ← Bool.and_assoc, h, hh]; simp

/-- what a weekday's round knows of the world -/
structure WW (w wr : World) (B : Nat) (f l e k : Int) : Prop where
  hs : wr.heap[B]? = some (cells6 f l e k (.slice none 0 0) (.slice none 0 0))
  bl : Below w.heap.size w wr
theorem WW.next {w wr w2 : World} {B : Nat} {f l e k : Int} (h : WW w wr B f l e k) (hb : Below wr.heap.size wr w2) : WW w w2 B f l e k :=
  ⟨(hb.block _ (lt_of_heap h.hs)).trans h.hs, h.bl.trans (hb.mono h.bl.size)⟩

end Go.Proofs.YtibigbfkokendaaGreatDoor
