/- Zones: the text of a zone, and what a text is read as: the plain law. -/
import Derived.Test.YtllcoocllkaanaaDoorZ9
import Derived.Test.YtllcoocllkaanaaDoorCalp
namespace Go.Proofs.YtllcoocllkaanaaDoor
open TT

/-- a zone: name, offset, shifts -/
abbrev Zn := L8 × Int × Prs
/-- a date and time, written -/
def stp (t : Int) : L8 :=
  [50, 48] ++ (two (yearOf (t / 1440) - 2000).toNat ++ (45 :: (two (monthOf (t / 1440)).toNat ++ (45 :: (two (domOf (t / 1440)).toNat ++ (84 :: (two (t % 1440 / 60).toNat ++ (58 :: two (t % 60).toNat))))))))
def headZ (nm : L8) (off : Int) : L8 := nm ++ (32 :: (shw off ++ [10]))
def lineS (x : Int × Int) : L8 := stp x.1 ++ (32 :: (shw x.2 ++ [10]))
def linesZ : Prs → L8
  | [] => []
  | x :: xs => lineS x ++ linesZ xs
def fmtZ (z : Zn) : L8 := headZ z.1 z.2.1 ++ linesZ z.2.2

def isD (c : UInt8) : Bool := decide (48 ≤ c.toNat ∧ c.toNat ≤ 57)
def numF (n : Int) : L8 → Int
  | [] => n
  | c :: r => if isD c = true then numF (10 * n + ((c.toNat : Int) - 48)) r else -1
def numL (l : L8) : Int := numF 0 l
/-- the bytes from a up to b -/
def cut (l : L8) (a b : Nat) : L8 := (l.take b).drop a
def offP (s : L8) : Option Int :=
  if s.length = 5 ∧ 0 ≤ numL (cut s 1 3) ∧ 0 ≤ numL (cut s 3 5) ∧ (s.head? = some 43 ∨ s.head? = some 45) then
    some (if s.head? = some 45 then -60 * numL (cut s 1 3) - numL (cut s 3 5) else 60 * numL (cut s 1 3) + numL (cut s 3 5))
  else none
def whenV (s : L8) : Int := 1440 * dayN (numL (cut s 0 4)) (numL (cut s 5 7)) (numL (cut s 8 10)) + 60 * numL (cut s 11 13) + numL (cut s 14 16)
def whenC (s : L8) : Option Int := if s.length = 16 ∧ dayE (numL (cut s 0 4)) (numL (cut s 5 7)) (numL (cut s 8 10)) = 0 ∧ 0 ≤ numL (cut s 11 13) ∧ 0 ≤ numL (cut s 14 16) then some (whenV s) else none
def whenR (s : L8) : Option Int := if s.length = 16 ∧ dayE (numL (cut s 0 4)) (numL (cut s 5 7)) (numL (cut s 8 10)) = 0 then some (whenV s) else none
def lineL (r : L8) : L8 := r.takeWhile (· != 10)
def keyL (l : L8) : L8 := l.takeWhile (· != 32)
/-- the lines of a text, read -/
def goZ (W : L8 → Option Int) : Nat → L8 → Nat → Zn → Option Zn
  | 0, _, _, _ => none
  | n + 1, r, i, z =>
    if r = [] then some z
    else if (keyL (lineL r)).length = (lineL r).length then none
    else match offP ((lineL r).drop ((keyL (lineL r)).length + 1)) with
      | none => none
      | some o =>
        if i = 0 then goZ W n (r.drop ((lineL r).length + 1)) 1 (keyL (lineL r), o, [])
        else match W (keyL (lineL r)) with
          | none => none
          | some t => if 64 < i then none else goZ W n (r.drop ((lineL r).length + 1)) (i + 1) (z.1, z.2.1, z.2.2 ++ [(t, o)])
/-- what a text is read as -/
def parZ (W : L8 → Option Int) (t : L8) : Option Zn :=
  match goZ W (t.length + 1) t 0 ([], 0, []) with
  | none => none
  | some z => if vldE z.1 z.2.1 z.2.2 = 0 ∧ fmtZ z = t then some z else none

theorem two_num (k : Nat) (hk : k < 100) (n : Int) (r : L8) : numF n (two k ++ r) = numF (100 * n + k) r := by
  have h1 : (UInt8.ofNat (48 + k / 10)).toNat = 48 + k / 10 := by rw [UInt8.toNat_ofNat']; omega
  have h2 : (UInt8.ofNat (48 + k % 10)).toNat = 48 + k % 10 := by rw [UInt8.toNat_ofNat']; omega
  have d1 : isD (UInt8.ofNat (48 + k / 10)) = true := by unfold isD; rw [h1]; simp; omega
  have d2 : isD (UInt8.ofNat (48 + k % 10)) = true := by unfold isD; rw [h2]; simp; omega
  show numF n (UInt8.ofNat (48 + k / 10) :: UInt8.ofNat (48 + k % 10) :: r) = _
  rw [numF, if_pos d1, numF, if_pos d2, h1, h2]
  congr 1
  omega
theorem two_len (k : Nat) : (two k).length = 2 := rfl
theorem two_numL (k : Nat) (hk : k < 100) : numL (two k) = k := by
  have h := two_num k hk 0 []
  rw [List.append_nil] at h
  unfold numL
  rw [h]; simp [numF]
/-- bytes that are written are no blank and no line feed -/
def Ink (l : L8) : Prop := ∀ c ∈ l, c ≠ 10 ∧ c ≠ 32
theorem ink_two (k : Nat) (hk : k < 100) : Ink (two k) := by
  intro c hc
  have h : ∀ m : Nat, m < 10 → UInt8.ofNat (48 + m) ≠ 10 ∧ UInt8.ofNat (48 + m) ≠ 32 := by decide
  rcases List.mem_cons.1 hc with rfl | hc
  · exact h _ (by omega)
  · rcases List.mem_cons.1 hc with rfl | hc
    · exact h _ (by omega)
    · cases hc
theorem Ink.app {a b : L8} (h1 : Ink a) (h2 : Ink b) : Ink (a ++ b) := fun c hc => (List.mem_append.1 hc).elim (h1 c) (h2 c)
theorem Ink.cons {c : UInt8} {b : L8} (h1 : c ≠ 10 ∧ c ≠ 32) (h2 : Ink b) : Ink (c :: b) := fun x hx => by
  rcases List.mem_cons.1 hx with rfl | hx
  · exact h1
  · exact h2 x hx
theorem ink_shw (o : Int) (h1 : -840 ≤ o) (h2 : o ≤ 840) : Ink (shw o) := by
  unfold shw
  refine Ink.cons (by split <;> decide) ((ink_two _ ?_).app (ink_two _ ?_)) <;> omega
theorem offP_shw (o : Int) (h1 : -840 ≤ o) (h2 : o ≤ 840) : offP (shw o) = some o := by
  have e : shw o = (if o < 0 then 45 else 43) :: (two (o.natAbs / 60) ++ two (o.natAbs % 60)) := rfl
  have c1 : cut (shw o) 1 3 = two (o.natAbs / 60) := rfl
  have c2 : cut (shw o) 3 5 = two (o.natAbs % 60) := rfl
  unfold offP
  rw [c1, c2, two_numL _ (by omega), two_numL _ (by omega), e]
  by_cases h : o < 0
  · rw [if_pos h]
    have hh : ((45 : UInt8) :: (two (o.natAbs / 60) ++ two (o.natAbs % 60))).head? = some 45 := rfl
    rw [if_pos ⟨rfl, by omega, by omega, Or.inr hh⟩, if_pos hh]
    congr 1; omega
  · rw [if_neg h]
    have hh : ((43 : UInt8) :: (two (o.natAbs / 60) ++ two (o.natAbs % 60))).head? = some 43 := rfl
    have hn : ¬ ((43 : UInt8) :: (two (o.natAbs / 60) ++ two (o.natAbs % 60))).head? = some 45 := by rw [hh]; decide
    rw [if_pos ⟨rfl, by omega, by omega, Or.inl hh⟩, if_neg hn]
    congr 1; omega
theorem date_bd (t : Int) (h0 : 0 ≤ t) (h1 : t < 52596000) : 0 ≤ t / 1440 ∧ t / 1440 ≤ 36524 ∧ 2000 ≤ yearOf (t / 1440) ∧ yearOf (t / 1440) ≤ 2099 ∧ 1 ≤ monthOf (t / 1440) ∧ monthOf (t / 1440) ≤ 12 ∧ 1 ≤ domOf (t / 1440) ∧ domOf (t / 1440) ≤ 31 := by
  have a : 0 ≤ t / 1440 := by omega
  have b : t / 1440 ≤ 36524 := by omega
  obtain ⟨y1, y2, _, _⟩ := yearOf_spec _ a b
  obtain ⟨m1, m2, d1, d2⟩ := monthOf_spec _ a b
  have hm := ml_bd (yearOf (t / 1440)) (monthOf (t / 1440))
  refine ⟨a, b, y1, y2, m1, m2, ?_, ?_⟩ <;> unfold domOf <;> omega
theorem stp_cuts (t : Int) : (stp t).length = 16 ∧ cut (stp t) 0 4 = [50, 48] ++ two (yearOf (t / 1440) - 2000).toNat ∧ cut (stp t) 5 7 = two (monthOf (t / 1440)).toNat ∧ cut (stp t) 8 10 = two (domOf (t / 1440)).toNat ∧ cut (stp t) 11 13 = two (t % 1440 / 60).toNat ∧ cut (stp t) 14 16 = two (t % 60).toNat :=
  ⟨rfl, rfl, rfl, rfl, rfl, rfl⟩
theorem when_stp (t : Int) (h0 : 0 ≤ t) (h1 : t < 52596000) : whenC (stp t) = some t ∧ whenR (stp t) = some t := by
  obtain ⟨a, b, y1, y2, m1, m2, d1, d2⟩ := date_bd t h0 h1
  obtain ⟨c0, c1, c2, c3, c4, c5⟩ := stp_cuts t
  have hb := dayN_back (t / 1440) a b
  have hk := okDay_mk a b
  have e1 : pY (t / 1440) = yearOf (t / 1440) := by unfold pY; rw [hk]; rfl
  have e2 : pM (t / 1440) = monthOf (t / 1440) := by unfold pM; rw [hk]; rfl
  have e3 : pD (t / 1440) = domOf (t / 1440) := by unfold pD; rw [hk]; rfl
  rw [e1, e2, e3] at hb
  have n1 : numL (cut (stp t) 0 4) = yearOf (t / 1440) := by
    rw [c1]
    have h := two_num (yearOf (t / 1440) - 2000).toNat (by omega) 20 []
    rw [List.append_nil] at h
    show numF 0 (50 :: 48 :: two (yearOf (t / 1440) - 2000).toNat) = _
    rw [numF, if_pos (by decide), numF, if_pos (by decide)]
    show numF 20 _ = _
    rw [h]; simp only [numF]; omega
  have n2 : numL (cut (stp t) 5 7) = monthOf (t / 1440) := by rw [c2, two_numL _ (by omega)]; omega
  have n3 : numL (cut (stp t) 8 10) = domOf (t / 1440) := by rw [c3, two_numL _ (by omega)]; omega
  have n4 : numL (cut (stp t) 11 13) = t % 1440 / 60 := by rw [c4, two_numL _ (by omega)]; omega
  have n5 : numL (cut (stp t) 14 16) = t % 60 := by rw [c5, two_numL _ (by omega)]; omega
  have hv : whenV (stp t) = t := by unfold whenV; rw [n1, n2, n3, n4, n5, hb.1]; omega
  unfold whenC whenR
  rw [n1, n2, n3, n4, n5, hv]
  exact ⟨if_pos ⟨c0, hb.2, by omega, by omega⟩, if_pos ⟨c0, hb.2⟩⟩
theorem ink_stp (t : Int) (h0 : 0 ≤ t) (h1 : t < 52596000) : Ink (stp t) := by
  obtain ⟨a, b, y1, y2, m1, m2, d1, d2⟩ := date_bd t h0 h1
  unfold stp
  refine Ink.cons (by decide) (Ink.cons (by decide) ((ink_two _ ?_).app (Ink.cons (by decide) ((ink_two _ ?_).app (Ink.cons (by decide) ((ink_two _ ?_).app (Ink.cons (by decide) ((ink_two _ ?_).app (Ink.cons (by decide) (ink_two _ ?_)))))))))) <;> omega
theorem tw_ne (x : UInt8) (a r : L8) (h : ∀ c ∈ a, c ≠ x) : (a ++ x :: r).takeWhile (· != x) = a := by
  induction a with
  | nil => simp
  | cons c a ih =>
    have hc := h c (by simp)
    rw [List.cons_append, List.takeWhile_cons, if_pos (by simpa using hc), ih fun c' h' => h c' (by simp [h'])]
/-- a written line, parted -/
theorem line_parts {a b r : L8} (ha : Ink a) (hb : Ink b) : lineL (a ++ (32 :: (b ++ [10])) ++ r) = a ++ 32 :: b ∧ keyL (a ++ 32 :: b) = a := by
  constructor
  · unfold lineL
    have e : a ++ (32 :: (b ++ [10])) ++ r = (a ++ 32 :: b) ++ 10 :: r := by simp
    rw [e, tw_ne]
    intro c hc
    rcases List.mem_append.1 hc with h | h
    · exact (ha c h).1
    · rcases List.mem_cons.1 h with rfl | h
      · decide
      · exact (hb c h).1
  · unfold keyL
    exact tw_ne 32 a b fun c hc => (ha c hc).2
theorem line_rest {a b r : L8} : (a ++ (32 :: (b ++ [10])) ++ r).drop ((a ++ 32 :: b).length + 1) = r := by
  have e : a ++ (32 :: (b ++ [10])) ++ r = ((a ++ 32 :: b) ++ [10]) ++ r := by simp
  rw [e]
  have e2 : (a ++ 32 :: b).length + 1 = ((a ++ 32 :: b) ++ [10]).length := by simp; omega
  rw [e2, List.drop_left]
theorem line_tail {a b : L8} : (a ++ 32 :: b).drop (a.length + 1) = b := by
  rw [← List.drop_drop, List.drop_left]; rfl
theorem shE_in : ∀ (xs : Prs) (po pa : Int), shE po pa xs = 0 → ∀ x ∈ xs, (0 ≤ x.1 ∧ x.1 < 52596000) ∧ (-840 ≤ x.2 ∧ x.2 ≤ 840)
  | [], _, _, _, x, hx => by cases hx
  | y :: xs, po, pa, h, x, hx => by
    unfold shE at h
    by_cases h1 : isI y.1 = false ∨ nearI y.2 = false
    · rw [if_pos h1] at h; cases h
    · rw [if_neg h1] at h
      by_cases h2 : y.1 < pa + 2880
      · rw [if_pos h2] at h; cases h
      · rw [if_neg h2] at h
        split at h
        · cases h
        · rcases List.mem_cons.1 hx with rfl | hx
          · have hh : isI x.1 = true ∧ nearI x.2 = true := by simpa using h1
            exact ⟨isI_iff.1 hh.1, nearI_iff.1 hh.2⟩
          · exact shE_in xs _ _ h x hx
theorem goZ_shifts {W : L8 → Option Int} (hW : ∀ t, 0 ≤ t → t < 52596000 → W (stp t) = some t) : ∀ (ys : Prs) (n i : Nat) (z : Zn), (∀ x ∈ ys, (0 ≤ x.1 ∧ x.1 < 52596000) ∧ (-840 ≤ x.2 ∧ x.2 ≤ 840)) → ys.length < n → 0 < i → i + ys.length ≤ 65 →
    goZ W n (linesZ ys) i z = some (z.1, z.2.1, z.2.2 ++ ys)
  | [], n + 1, i, z, _, _, _, _ => by rw [linesZ, goZ, if_pos rfl, List.append_nil]
  | y :: ys, n + 1, i, z, h, hn, hi, hl => by
    obtain ⟨⟨t0, t1⟩, o0, o1⟩ := h y (by simp)
    obtain ⟨p1, p2⟩ := line_parts (r := linesZ ys) (ink_stp y.1 t0 t1) (ink_shw y.2 o0 o1)
    have hr : linesZ (y :: ys) = stp y.1 ++ (32 :: (shw y.2 ++ [10])) ++ linesZ ys := rfl
    have hne : linesZ (y :: ys) ≠ [] := by rw [hr]; simp
    have ih := goZ_shifts hW ys n (i + 1) (z.1, z.2.1, z.2.2 ++ [y]) (fun x hx => h x (by simp [hx])) (by simp at hn; omega) (by omega) (by simp at hl; omega)
    rw [goZ, if_neg hne, hr, p1, p2, if_neg (by simp), line_tail, offP_shw _ o0 o1]
    simp only
    rw [if_neg (by omega), hW _ t0 t1]
    simp only
    rw [if_neg (by simp at hl; omega), line_rest, ih]
    simp
/-- A ZONE's TEXT IS READ AS THE ZONE. -/
theorem parZ_fmt {W : L8 → Option Int} (hW : ∀ t, 0 ≤ t → t < 52596000 → W (stp t) = some t) (z : Zn) (hn : Ink z.1) (hv : vldE z.1 z.2.1 z.2.2 = 0) : parZ W (fmtZ z) = some z := by
  obtain ⟨_, ⟨o0, o1⟩, hl, hs⟩ := vldE_ok hv
  obtain ⟨p1, p2⟩ := line_parts (r := linesZ z.2.2) hn (ink_shw z.2.1 o0 o1)
  have hr : fmtZ z = z.1 ++ (32 :: (shw z.2.1 ++ [10])) ++ linesZ z.2.2 := rfl
  have hne : fmtZ z ≠ [] := by rw [hr]; simp
  have hlen : z.2.2.length < (fmtZ z).length := by
    have h : ∀ xs : Prs, xs.length ≤ (linesZ xs).length := by
      intro xs
      induction xs with
      | nil => simp
      | cons x xs ih => simp only [linesZ, lineS, List.length_append, List.length_cons]; omega
    have := h z.2.2
    rw [hr]; simp only [List.length_append, List.length_cons]; omega
  have hg : goZ W ((fmtZ z).length + 1) (fmtZ z) 0 ([], 0, []) = some z := by
    rw [goZ, if_neg hne]
    conv => lhs; rw [hr]
    rw [p1, p2, if_neg (by simp), line_tail, offP_shw _ o0 o1]
    simp only [if_true]
    rw [line_rest, goZ_shifts hW _ _ _ _ (shE_in _ _ _ hs) (by rw [← hr]; omega) (by omega) (by omega)]
    simp
  unfold parZ
  rw [hg]
  exact if_pos ⟨hv, rfl⟩
theorem parZ_some {W : L8 → Option Int} {t : L8} {z : Zn} (h : parZ W t = some z) : vldE z.1 z.2.1 z.2.2 = 0 ∧ fmtZ z = t := by
  unfold parZ at h
  split at h
  · cases h
  · split at h
    · rename_i h1; cases h; exact h1
    · cases h
/-- the names of zones are written -/
theorem code_ink {l : L8} (h : codeOk l = true) : Ink l := by
  obtain ⟨_, _, h3⟩ := codeOk_of h
  intro c hc
  obtain ⟨m, hm, e⟩ := List.mem_iff_getElem.1 hc
  have h4 := h3 m hm
  have e2 : l.getD m 0 = c := by rw [List.getD_eq_getElem?_getD, List.getElem?_eq_getElem hm, e]; rfl
  rw [e2] at h4
  constructor
  · rintro rfl; revert h4; unfold okAt digI ltrI; simp
  · rintro rfl; revert h4; unfold okAt digI ltrI; simp
/-- BOTH READERS AGREE. -/
theorem parZ_eq (t : L8) : parZ whenC t = parZ whenR t := by
  cases h : parZ whenC t with
  | some z =>
    obtain ⟨hv, rfl⟩ := parZ_some h
    exact (parZ_fmt (fun t a b => (when_stp t a b).2) z (code_ink (vldE_ok hv).1) hv).symm
  | none =>
    cases h2 : parZ whenR t with
    | none => rfl
    | some z =>
      obtain ⟨hv, rfl⟩ := parZ_some h2
      rw [parZ_fmt (fun t a b => (when_stp t a b).1) z (code_ink (vldE_ok hv).1) hv] at h
      cases h
end Go.Proofs.YtllcoocllkaanaaDoor
