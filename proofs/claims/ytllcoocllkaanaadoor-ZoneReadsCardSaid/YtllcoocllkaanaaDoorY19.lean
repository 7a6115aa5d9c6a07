/- Zones: the lines of a text, as the reference cuts it: the plain law. -/
import Derived.Test.YtllcoocllkaanaaDoorY7
import Derived.Test.YtllcoocllkaanaaDoorY11
namespace Go.Proofs.YtllcoocllkaanaaDoor
open TT

/-- how many bytes up to a byte -/
def upto (c : UInt8) (s : ByteArray) (a : Nat) : Nat := ((s.data.toList.drop a).takeWhile (· != c)).length
theorem upto_le (c : UInt8) (s : ByteArray) (a : Nat) : upto c s a ≤ s.size - a := by
  have h := (List.takeWhile_prefix (· != c) (l := s.data.toList.drop a)).length_le
  rw [List.length_drop] at h
  exact h
theorem upto_lt {c : UInt8} {s : ByteArray} {a j : Nat} (h : j < upto c s a) : ∃ h : a + j < s.size, s[a + j] ≠ c := by
  have hl := upto_le c s a
  have hb : a + j < s.size := by omega
  refine ⟨hb, ?_⟩
  have h0 : j < ((s.data.toList.drop a).takeWhile (· != c)).length := h
  have h1 : ((s.data.toList.drop a).takeWhile (· != c))[j]? = some s[a + j] := by
    have hp : ((s.data.toList.drop a).takeWhile (· != c))[j]? = (s.data.toList.drop a)[j]? := by
      obtain ⟨r, hr⟩ := List.takeWhile_prefix (· != c) (l := s.data.toList.drop a)
      conv => rhs; rw [← hr]
      rw [List.getElem?_append_left h0]
    rw [hp, List.getElem?_drop, List.getElem?_eq_getElem (show a + j < s.data.toList.length from hb)]; rfl
  have h2 := List.all_takeWhile (p := (· != c)) (l := s.data.toList.drop a)
  rw [List.all_eq_true] at h2
  have h3 := h2 _ (List.mem_of_getElem? h1)
  simpa using h3
theorem upto_at {c : UInt8} {s : ByteArray} {a : Nat} (h : a + upto c s a < s.size) : s[a + upto c s a] = c := by
  rcases ib_tw c (s.data.toList.drop a) with ⟨h1, h2, h3⟩ | ⟨h1, h2, h3, h4⟩
  · have e : upto c s a = (s.data.toList.drop a).length := by unfold upto; rw [h3]
    rw [List.length_drop] at e
    have e2 : s.data.toList.length = s.size := rfl
    omega
  · have hx : (s.data.toList.drop a)[upto c s a]? = some c := by
      unfold upto
      generalize hk : (s.data.toList.drop a).takeWhile (· != c) = k at *
      rw [h4, List.getElem?_append_right (Nat.le_refl _), Nat.sub_self]
      rfl
    rw [List.getElem?_drop] at hx
    have hy : s.data.toList[a + upto c s a]? = some (s[a + upto c s a]) := by
      rw [List.getElem?_eq_getElem (show a + upto c s a < s.data.toList.length from h)]; rfl
    rw [hy] at hx
    exact Option.some.inj hx
/-- what all lines say, to the reference -/
def allR (t : L8) : Option Zn := goZ whenR (t.length + 1) t 0 ([], 0, [])
theorem rpar_none {t : L8} (h : allR t = none) : parZ whenR t = none := by
  unfold parZ; unfold allR at h; rw [h]
theorem rpar_some {t : L8} {z : Zn} (h : allR t = some z) : parZ whenR t = if vldE z.1 z.2.1 z.2.2 = 0 ∧ fmtZ z = t then some z else none := by
  unfold parZ; unfold allR at h; rw [h]
/-- where the reading stands -/
def RfP (s : ByteArray) (a k : Nat) (z : Zn) : Prop := ∃ n, s.size - a < n ∧ goZ whenR n (s.data.toList.drop a) k z = allR s.data.toList
theorem rfP_start (s : ByteArray) : RfP s 0 0 ([], 0, []) := ⟨s.size + 1, by omega, rfl⟩
theorem rfP_end {s : ByteArray} {a k : Nat} {z : Zn} (h : RfP s a k z) (ha : s.size ≤ a) : allR s.data.toList = some z := by
  obtain ⟨n, hn, hg⟩ := h
  obtain ⟨m, rfl⟩ : ∃ m, n = m + 1 := ⟨n - 1, by omega⟩
  rw [drop_end s a ha, goZ_nil] at hg
  exact hg.symm
/-- ONE LINE OF A TEXT, to the reference. -/
theorem rln_step {s : ByteArray} {a k : Nat} {z : Zn} (h : RfP s a k z) (ha : a < s.size) {ln : ByteArray} (hln : ln.data.toList = lineL (s.data.toList.drop a)) :
    (upto 32 ln 0 = ln.size → parZ whenR s.data.toList = none) ∧
    (offP (ln.extract (upto 32 ln 0 + 1) ln.size).data.toList = none → parZ whenR s.data.toList = none) ∧
    ∀ o, offP (ln.extract (upto 32 ln 0 + 1) ln.size).data.toList = some o → upto 32 ln 0 ≠ ln.size →
      (k = 0 → RfP s (a + upto 10 s a + 1) 1 ((ln.extract 0 (upto 32 ln 0)).data.toList, o, [])) ∧
      (0 < k → (whenR (ln.extract 0 (upto 32 ln 0)).data.toList = none → parZ whenR s.data.toList = none) ∧ (64 < k → parZ whenR s.data.toList = none) ∧
        ∀ t, whenR (ln.extract 0 (upto 32 ln 0)).data.toList = some t → k ≤ 64 → RfP s (a + upto 10 s a + 1) (k + 1) (z.1, z.2.1, z.2.2 ++ [(t, o)])) := by
  obtain ⟨n, hn, hg⟩ := h
  obtain ⟨m, rfl⟩ : ∃ m, n = m + 1 := ⟨n - 1, by omega⟩
  have hne : s.data.toList.drop a ≠ [] := by
    rw [drop_at s a ha]; exact List.cons_ne_nil _ _
  have hu : upto 10 s a = (lineL (s.data.toList.drop a)).length := rfl
  have hk : upto 32 ln 0 = (keyL (lineL (s.data.toList.drop a))).length := by unfold upto; rw [List.drop_zero, hln]; rfl
  have hs : ln.size = (lineL (s.data.toList.drop a)).length := by rw [← hln]; rfl
  have hkl : (ln.extract 0 (upto 32 ln 0)).data.toList = keyL (lineL (s.data.toList.drop a)) := by
    rw [Lib.extract_data, List.drop_zero, hln, hk, Nat.sub_zero]
    exact List.prefix_iff_eq_take.1 (List.takeWhile_prefix _) |>.symm
  have hol : (ln.extract (upto 32 ln 0 + 1) ln.size).data.toList = (lineL (s.data.toList.drop a)).drop ((keyL (lineL (s.data.toList.drop a))).length + 1) := by
    rw [Lib.extract_to_end, hln, hk]
  have hd : (s.data.toList.drop a).drop ((lineL (s.data.toList.drop a)).length + 1) = s.data.toList.drop (a + upto 10 s a + 1) := by
    rw [List.drop_drop, hu]; congr 1
  rw [hkl, hol]
  refine ⟨fun he => ?_, fun ho => ?_, fun o ho hne2 => ⟨fun h0 => ?_, fun h0 => ⟨fun hw => ?_, fun h64 => ?_, fun t hw h64 => ?_⟩⟩⟩
  · rw [goZ, if_neg hne, if_pos (by omega)] at hg
    exact rpar_none hg.symm
  · rw [goZ_step _ _ _ _ _ hne, ho] at hg
    exact rpar_none hg.symm
  · rw [goZ_step _ _ _ _ _ hne, ho] at hg
    subst h0
    simp only [if_true] at hg
    rw [hd] at hg
    exact ⟨m, by omega, hg⟩
  · rw [goZ_step _ _ _ _ _ hne, ho] at hg
    simp only at hg
    rw [if_neg (by omega), hw] at hg
    exact rpar_none hg.symm
  · rw [goZ_step _ _ _ _ _ hne, ho] at hg
    simp only at hg
    rw [if_neg (by omega)] at hg
    cases hw : whenR (keyL (lineL (s.data.toList.drop a))) with
    | none => rw [hw] at hg; exact rpar_none hg.symm
    | some t => rw [hw] at hg; simp only at hg; rw [if_pos h64] at hg; exact rpar_none hg.symm
  · rw [goZ_step _ _ _ _ _ hne, ho] at hg
    simp only at hg
    rw [if_neg (by omega), hw] at hg
    simp only at hg
    rw [if_neg (by omega), hd] at hg
    exact ⟨m, by omega, hg⟩
theorem line_ext (s : ByteArray) (a : Nat) : (s.extract a (a + upto 10 s a)).data.toList = lineL (s.data.toList.drop a) := by
  rw [Lib.extract_data, show a + upto 10 s a - a = upto 10 s a by omega]
  exact List.prefix_iff_eq_take.1 (List.takeWhile_prefix _) |>.symm
end Go.Proofs.YtllcoocllkaanaaDoor
