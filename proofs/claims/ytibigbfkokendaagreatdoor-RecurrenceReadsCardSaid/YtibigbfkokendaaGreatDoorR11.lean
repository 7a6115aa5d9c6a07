/- Series: a set of days in a map that the call made; counters of weekdays. -/
import Derived.Test.YtibigbfkokendaaGreatDoorR10
import Derived.Maps.OwnOps
import Derived.Maps.OwnSet
namespace Go.Proofs.YtibigbfkokendaaGreatDoor
open Go.RowKit Go.Maps TT

theorem Tryz.keyInt : Keyed Tryz.prog 3 := int_keyed Tryz.underlying3
theorem Tryz.zeroB (w : World) : (zeroValue 4).run Tryz.prog w = .ok (.bool false) w := by kernel_rfl

theorem plainElem_bool_inv {H : Type} {P : Program} {e : TypeId} (he : P.underlying e = some .bool) {v : Value} {z : DataW H × List MemPlace} (h : plainElem P e v = some z) : ∃ x, v = .bool x ∧ z = (.lit (.bool x), []) := by
  unfold plainElem at h
  rw [he] at h
  cases v <;> simp at h
  subst h
  exact ⟨_, rfl, rfl⟩

/-- block B is a map of at most n entries whose keys are the numbers of L, all of them true -/
def SetAt (w : World) (B n : Nat) (L : List Int) : Prop :=
  ∃ D : DataW Unit, w.ownsMap Tryz.prog 3 (plainElem Tryz.prog 4) B n D ∧ IsMap D ∧ ∀ x : Int, (Lit.int .i64 x).wf = true → D.atKey (.int .i64 x) (.lit (.bool false)) = .lit (.bool (hasI L x))
theorem SetAt.kept {w w' : World} {B n : Nat} {L : List Int} {row : Option Nat} (h : SetAt w B n L) (hg : w.grownBy w' row) (hne : some B ≠ row) : SetAt w' B n L := by
  obtain ⟨D, h1, h2⟩ := h
  exact ⟨D, h1.kept hg hne, h2⟩
theorem SetAt.below {w w' : World} {B n : Nat} {L : List Int} (h : SetAt w B n L) (hb : Below w.heap.size w w') : SetAt w' B n L := h.kept (grown_below hb none) (by simp)
theorem SetAt.lt {w : World} {B n : Nat} {L : List Int} (h : SetAt w B n L) : B < w.heap.size := by
  obtain ⟨D, h1, _⟩ := h; exact h1.lt
theorem SetAt.mk0 (w : World) : SetAt (w.alloc (.map #[] 0)) w.heap.size 0 [] :=
  ⟨.map [], World.ownsMap_made _ _ _ _, ⟨_, rfl⟩, fun x _ => by simp [hasI]; rfl⟩
theorem hasI_snoc (L : List Int) (x y : Int) : hasI (L ++ [x]) y = (hasI L y || decide (y = x)) := by
  rw [Bool.eq_iff_iff]; simp [hasI]
theorem SetAt.put {w' : World} {B n : Nat} {L : List Int} {D : DataW Unit} {x : Int} (hm : IsMap D) (ha : ∀ y : Int, (Lit.int .i64 y).wf = true → D.atKey (.int .i64 y) (.lit (.bool false)) = .lit (.bool (hasI L y)))
    (hown : w'.ownsMap Tryz.prog 3 (plainElem Tryz.prog 4) B n (D.put (.int .i64 x) (.lit (.bool true)))) : SetAt w' B n (L ++ [x]) := by
  refine ⟨_, hown, hm.put _ _, fun y hy => ?_⟩
  rw [hasI_snoc]
  by_cases e : y = x
  · subst e; rw [atKey_put_same hm (show WideAt.IsKeyLit (.int .i64 y) from trivial)]; simp
  · rw [atKey_put_other (fun q => e (by cases q; rfl)), ha y hy]; simp [e]
/-- a look-up, as the walk runs it -/
theorem SetAt.look {w : World} {B n : Nat} {L : List Int} (h : SetAt w B n L) {x : Int} (hx : (Lit.int .i64 x).wf = true) :
    (Instr.lookup 86 (.map (some B)) (.int .i64 x) false).run Tryz.prog w = .ok (.bool (hasI L x)) w := by
  obtain ⟨D, hown, hm, ha⟩ := h
  obtain ⟨v, ps, hrun, hv⟩ := hown.lookup Tryz.keyInt Tryz.underlying86 (Tryz.zeroB w) (plainElem_bool Tryz.underlying4 false) (keyOf_int_mk Tryz.underlying3 hx)
  obtain ⟨c, rfl, hc⟩ := plainElem_bool_inv Tryz.underlying4 hv
  rw [ha x hx] at hc
  simp only [Prod.mk.injEq, DataW.lit.injEq, Lit.bool.injEq] at hc
  rw [hc.1]; exact hrun
theorem wf_i64 {x : Int} (h1 : -9223372036854775808 ≤ x) (h2 : x ≤ 9223372036854775807) : (Lit.int .i64 x).wf = true := WalkArith.wf_i64 (by omega)

/-! ### The counters -/

/-- hits less misses of a weekday -/
def dN (L : List Int) (f e w : Int) (n : Nat) : Int := (hitN L f e w n : Int) - misN L f e w n
theorem dN_zero (L : List Int) (f e w : Int) : dN L f e w 0 = 0 := by simp [dN, hitN, misN, rng]
theorem hit_succ (L : List Int) (f e w : Int) (n : Nat) : hitN L f e w (n + 1) = hitN L f e w n + (if (decide (wd7 (f + n) = w) && (cntB f e (f + n) && hasI L (f + n))) = true then 1 else 0) := cnt_succ _ f n
theorem mis_succ (L : List Int) (f e w : Int) (n : Nat) : misN L f e w (n + 1) = misN L f e w n + (if (decide (wd7 (f + n) = w) && (cntB f e (f + n) && !(hasI L (f + n)))) = true then 1 else 0) := cnt_succ _ f n
theorem dN_no {L : List Int} {f e w : Int} {n : Nat} (h : cntB f e (f + n) = false) : dN L f e w (n + 1) = dN L f e w n := by
  unfold dN; rw [hit_succ, mis_succ, h]; simp
theorem dN_other {L : List Int} {f e w : Int} {n : Nat} (h : wd7 (f + n) ≠ w) : dN L f e w (n + 1) = dN L f e w n := by
  unfold dN; rw [hit_succ, mis_succ]; simp [h]
theorem dN_hit {L : List Int} {f e w : Int} {n : Nat} (h : wd7 (f + n) = w) (hc : cntB f e (f + n) = true) (hh : hasI L (f + n) = true) : dN L f e w (n + 1) = dN L f e w n + 1 := by
  unfold dN; rw [hit_succ, mis_succ, hc, hh]; simp [h] <;> omega
theorem dN_mis {L : List Int} {f e w : Int} {n : Nat} (h : wd7 (f + n) = w) (hc : cntB f e (f + n) = true) (hh : hasI L (f + n) = false) : dN L f e w (n + 1) = dN L f e w n - 1 := by
  unfold dN; rw [hit_succ, mis_succ, hc, hh]; simp [h] <;> omega
theorem dN_bd (L : List Int) (f e w : Int) (n : Nat) : -(n : Int) ≤ dN L f e w n ∧ dN L f e w n ≤ n := by
  have h1 : hitN L f e w n ≤ n := cnt_le _ f n
  have h2 : misN L f e w n ≤ n := cnt_le _ f n
  unfold dN; omega
theorem bestB_dN (L : List Int) (f l e w : Int) : bestB L f l e w = decide (0 < dN L f e w (l - f + 1).toNat) := by
  unfold bestB dN; rw [Bool.eq_iff_iff]; simp <;> omega
theorem setN_bd (L : List Int) (f l e : Int) : ∀ w : Nat, 0 ≤ setN L f l e w ∧ setN L f l e w < 2 ^ w
  | 0 => by simp [setN]
  | w + 1 => by
    have ih := setN_bd L f l e w
    have hp : (2 : Int) ^ (w + 1) = 2 ^ w * 2 := by rw [Int.pow_succ]
    simp only [setN, wBit]
    cases bestB L f l e w <;> simp only [cond_true, cond_false] <;> omega
theorem or_pow (k : Int) (i : Nat) (h0 : 0 ≤ k) (h1 : k < 2 ^ i) (hi : i < 7) : bits .or .i64 k (2 ^ i) = k + 2 ^ i := by
  obtain ⟨n, rfl⟩ := Int.eq_ofNat_of_zero_le h0
  have hn : n < 2 ^ i := by exact_mod_cast h1
  have h64 : (2 : Nat) ^ i ≤ 64 := by
    rcases (show i = 0 ∨ i = 1 ∨ i = 2 ∨ i = 3 ∨ i = 4 ∨ i = 5 ∨ i = 6 by omega) with rfl | rfl | rfl | rfl | rfl | rfl | rfl <;> decide
  have e2' : ((2 : Int) ^ i) = ((2 ^ i : Nat) : Int) := by simp
  have hb : (BitVec.ofInt 64 (n : Int) ||| BitVec.ofInt 64 (2 ^ i)).toNat = n + 2 ^ i := by
    rw [BitVec.toNat_or]
    have e1 : (BitVec.ofInt 64 (n : Int)).toNat = n := by simp; omega
    have e2 : (BitVec.ofInt 64 ((2 : Int) ^ i)).toNat = 2 ^ i := by rw [e2']; simp; omega
    have ho := Nat.two_pow_add_eq_or_of_lt hn 1
    rw [Nat.mul_one] at ho
    rw [e1, e2, Nat.or_comm, ← ho, Nat.add_comm]
  show IntKind.i64.wrap (((BitVec.ofInt 64 (n : Int) ||| BitVec.ofInt 64 (2 ^ i)).toNat : Nat) : Int) = _
  rw [hb, IntWalk.i64_in _ (by omega)]
  simp

end Go.Proofs.YtibigbfkokendaaGreatDoor
