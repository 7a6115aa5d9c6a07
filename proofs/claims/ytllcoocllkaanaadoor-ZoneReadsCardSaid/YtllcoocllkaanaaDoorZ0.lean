/- Zones: the plain law. -/
import Derived.Test.YtllcoocllkaanaaDoorBase
namespace Go.Proofs.YtllcoocllkaanaaDoor

/-! ### Codes -/
def digI (c : Int) : Bool := decide (48 ≤ c) && decide (c ≤ 57)
def ltrI (c : Int) : Bool := (decide (65 ≤ c) && decide (c ≤ 90)) || (decide (97 ≤ c) && decide (c ≤ 122))
def okAt (c : Int) (m : Nat) : Bool := digI c || ltrI c || (decide (0 < m) && (c == 95 || c == 45))
def codeOk (l : L8) : Bool := decide (1 ≤ l.length ∧ l.length ≤ 16 ∧ ∀ m, m < l.length → okAt ((l.getD m 0).toNat : Int) m = true)

theorem codeOk_of {l : L8} (h : codeOk l = true) : 1 ≤ l.length ∧ l.length ≤ 16 ∧ ∀ m, m < l.length → okAt ((l.getD m 0).toNat : Int) m = true := of_decide_eq_true h
theorem codeOk_mk {l : L8} (h1 : 1 ≤ l.length) (h2 : l.length ≤ 16) (h3 : ∀ m, m < l.length → okAt ((l.getD m 0).toNat : Int) m = true) : codeOk l = true := decide_eq_true ⟨h1, h2, h3⟩
theorem codeOk_no {l : L8} (h : l.length < 1 ∨ 16 < l.length ∨ ∃ m, m < l.length ∧ okAt ((l.getD m 0).toNat : Int) m = false) : codeOk l = false := by
  apply decide_eq_false
  rintro ⟨h1, h2, h3⟩
  rcases h with h | h | ⟨m, hm, h⟩
  · omega
  · omega
  · rw [h3 m hm] at h; cases h

/-! ### Validity -/
def isI (n : Int) : Bool := decide (0 ≤ n) && decide (n < 52596000)
def nearI (o : Int) : Bool := decide (-840 ≤ o) && decide (o ≤ 840)
theorem isI_iff {n : Int} : isI n = true ↔ 0 ≤ n ∧ n < 52596000 := by unfold isI; simp
theorem isI_no {n : Int} : isI n = false ↔ n < 0 ∨ 52596000 ≤ n := by unfold isI; simp; omega
theorem nearI_iff {n : Int} : nearI n = true ↔ -840 ≤ n ∧ n ≤ 840 := by unfold nearI; simp
theorem nearI_no {n : Int} : nearI n = false ↔ n < -840 ∨ 840 < n := by unfold nearI; simp; omega

/-- The error of the shifts: after the offset po, the shift at pa. -/
def shE : Int → Int → Prs → Int
  | _, _, [] => 0
  | po, pa, (a, o) :: t => if isI a = false ∨ nearI o = false then 3 else if a < pa + 2880 then 63 else if o = po ∨ po + 180 < o ∨ o < po - 180 then 1 else shE o a t
def vldE (nm : L8) (off : Int) (xs : Prs) : Int :=
  if codeOk nm = false then 10 else if nearI off = false then 3 else if 64 < xs.length then 2 else shE off (-2880) xs

theorem drop_cons {xs : Prs} {j : Nat} (h : j < xs.length) : xs.drop j = xs.getD j (0, 0) :: xs.drop (j + 1) := by
  rw [List.drop_eq_getElem_cons h]
  simp [List.getD, h]
theorem shE_bad {xs : Prs} {j : Nat} {po pa : Int} (h : j < xs.length) (hb : isI (xs.getD j (0, 0)).1 = false ∨ nearI (xs.getD j (0, 0)).2 = false) : shE po pa (xs.drop j) = 3 := by
  rw [drop_cons h]; unfold shE; rw [if_pos hb]
theorem shE_order {xs : Prs} {j : Nat} {po pa : Int} (h : j < xs.length) (h1 : isI (xs.getD j (0, 0)).1 = true) (h2 : nearI (xs.getD j (0, 0)).2 = true) (hb : (xs.getD j (0, 0)).1 < pa + 2880) : shE po pa (xs.drop j) = 63 := by
  rw [drop_cons h]; unfold shE; rw [if_neg (by rw [h1, h2]; simp), if_pos hb]
theorem shE_step {xs : Prs} {j : Nat} {po pa : Int} (h : j < xs.length) (h1 : isI (xs.getD j (0, 0)).1 = true) (h2 : nearI (xs.getD j (0, 0)).2 = true) (h3 : ¬ (xs.getD j (0, 0)).1 < pa + 2880) (hb : (xs.getD j (0, 0)).2 = po ∨ po + 180 < (xs.getD j (0, 0)).2 ∨ (xs.getD j (0, 0)).2 < po - 180) : shE po pa (xs.drop j) = 1 := by
  rw [drop_cons h]; unfold shE; rw [if_neg (by rw [h1, h2]; simp), if_neg h3, if_pos hb]
theorem shE_on {xs : Prs} {j : Nat} {po pa : Int} (h : j < xs.length) (h1 : isI (xs.getD j (0, 0)).1 = true) (h2 : nearI (xs.getD j (0, 0)).2 = true) (h3 : ¬ (xs.getD j (0, 0)).1 < pa + 2880) (h4 : ¬ ((xs.getD j (0, 0)).2 = po ∨ po + 180 < (xs.getD j (0, 0)).2 ∨ (xs.getD j (0, 0)).2 < po - 180)) : shE po pa (xs.drop j) = shE (xs.getD j (0, 0)).2 (xs.getD j (0, 0)).1 (xs.drop (j + 1)) := by
  rw [drop_cons h]
  conv => lhs; unfold shE
  rw [if_neg (by rw [h1, h2]; simp), if_neg h3, if_neg h4]

/-- What a valid list of shifts is. -/
theorem shE_cons {po pa a o : Int} {t : Prs} (h : shE po pa ((a, o) :: t) = 0) : (0 ≤ a ∧ a < 52596000) ∧ (-840 ≤ o ∧ o ≤ 840) ∧ pa + 2880 ≤ a ∧ o ≠ po ∧ o ≤ po + 180 ∧ po - 180 ≤ o ∧ shE o a t = 0 := by
  unfold shE at h
  split at h
  · cases h
  · rename_i h1
    split at h
    · cases h
    · rename_i h2
      split at h
      · cases h
      · rename_i h3
        have h4 : isI a = true := by cases e : isI a <;> simp_all
        have h5 : nearI o = true := by cases e : nearI o <;> simp_all
        rw [isI_iff] at h4
        rw [nearI_iff] at h5
        exact ⟨h4, h5, by omega, by omega, by omega, by omega, h⟩
theorem shE_later {t : Prs} : ∀ {po pa : Int}, shE po pa t = 0 → ∀ x ∈ t, pa + 2880 ≤ x.1 ∧ (0 ≤ x.1 ∧ x.1 < 52596000) ∧ (-840 ≤ x.2 ∧ x.2 ≤ 840) := by
  induction t with
  | nil => intro po pa _ x hx; cases hx
  | cons y t ih =>
    obtain ⟨a, o⟩ := y
    intro po pa h x hx
    obtain ⟨h1, h2, h3, _, _, _, h7⟩ := shE_cons h
    rcases List.mem_cons.1 hx with rfl | hx
    · exact ⟨h3, h1, h2⟩
    · obtain ⟨i1, i2, i3⟩ := ih h7 x hx
      exact ⟨by omega, i2, i3⟩

/-! ### The offset at an instant -/
def atF (t : Int) : Int → Prs → Int
  | off, [] => off
  | off, (a, o) :: r => if t < a then off else atF t o r
def offF (t : Int) : Int → Prs → Int
  | off, [] => off
  | off, (a, o) :: r => offF t (if a ≤ t then o else off) r
theorem offF_before {t : Int} : ∀ (xs : Prs) (off : Int), (∀ x ∈ xs, t < x.1) → offF t off xs = off
  | [], _, _ => rfl
  | (a, o) :: r, off, h => by
    unfold offF
    rw [if_neg (by have := h (a, o) (by simp); simp at this; omega)]
    exact offF_before r off (fun x hx => h x (by simp [hx]))
theorem at_off {t : Int} : ∀ (xs : Prs) (off pa : Int), shE off pa xs = 0 → atF t off xs = offF t off xs
  | [], _, _, _ => rfl
  | (a, o) :: r, off, pa, h => by
    obtain ⟨_, _, _, _, _, _, h7⟩ := shE_cons h
    unfold atF offF
    by_cases c : t < a
    · rw [if_pos c, if_neg (by omega)]
      refine (offF_before r off (fun x hx => ?_)).symm
      have := (shE_later h7 x hx).1
      omega
    · rw [if_neg c, if_pos (by omega)]
      exact at_off r o a h7
theorem atF_near {t : Int} : ∀ (xs : Prs) (off pa : Int), shE off pa xs = 0 → (-840 ≤ off ∧ off ≤ 840) → -840 ≤ atF t off xs ∧ atF t off xs ≤ 840
  | [], _, _, _, h => h
  | (a, o) :: r, off, pa, h, hn => by
    obtain ⟨_, h2, _, _, _, _, h7⟩ := shE_cons h
    unfold atF
    split
    · exact hn
    · exact atF_near r o a h7 h2

theorem vldE_ok {nm : L8} {off : Int} {xs : Prs} (h : vldE nm off xs = 0) : codeOk nm = true ∧ (-840 ≤ off ∧ off ≤ 840) ∧ xs.length ≤ 64 ∧ shE off (-2880) xs = 0 := by
  unfold vldE at h
  split at h
  · cases h
  · rename_i h1
    split at h
    · cases h
    · rename_i h2
      split at h
      · cases h
      · refine ⟨by simpa using h1, nearI_iff.1 (by simpa using h2), by omega, h⟩

def offE (nm : L8) (off : Int) (xs : Prs) (t : Int) : Int := if vldE nm off xs ≠ 0 then vldE nm off xs else if isI t = false then 3 else 0
def offV (nm : L8) (off : Int) (xs : Prs) (t : Int) : Int := if offE nm off xs t = 0 then atF t off xs else 0
def locV (nm : L8) (off : Int) (xs : Prs) (t : Int) : Int := if offE nm off xs t = 0 then t + atF t off xs else 0

/-! ### The instants of a local time -/
def segF (loc : Int) : Int → Int → Prs → List Int
  | bg, off, [] => if bg ≤ loc - off ∧ loc - off < 52596000 then [loc - off] else []
  | bg, off, (a, o) :: r => (if bg ≤ loc - off ∧ loc - off < a then [loc - off] else []) ++ segF loc a o r
def refL (off : Int) (xs : Prs) (loc : Int) : Nat → List Int
  | 0 => []
  | k + 1 => refL off xs loc k ++ (if isI (loc - 840 + k) = true ∧ offF (loc - 840 + k) off xs = 840 - k then [loc - 840 + k] else [])

theorem segF_mem {loc t : Int} : ∀ (xs : Prs) (bg off pa : Int), shE off pa xs = 0 → 0 ≤ bg → bg < 52596000 → (∀ x ∈ xs, bg ≤ x.1) → (t ∈ segF loc bg off xs ↔ bg ≤ t ∧ t < 52596000 ∧ t = loc - atF t off xs)
  | [], bg, off, _, _, _, _, _ => by
    unfold segF atF
    split
    · simp; omega
    · simp; omega
  | (a, o) :: r, bg, off, pa, h, h0, hm, hb => by
    obtain ⟨⟨a1, a2⟩, _, _, _, _, _, h7⟩ := shE_cons h
    have ha := hb (a, o) (by simp)
    simp only at ha
    have ih := segF_mem (loc := loc) (t := t) r a o a h7 a1 a2 (fun x hx => by have := (shE_later h7 x hx).1; omega)
    unfold segF
    rw [List.mem_append, ih]
    conv => rhs; unfold atF
    by_cases c : t < a
    · rw [if_pos c]
      split
      · simp; omega
      · simp; omega
    · rw [if_neg c]
      split
      · simp; omega
      · simp; omega

theorem segF_ge {loc : Int} : ∀ (xs : Prs) (bg off : Int), (∀ x ∈ xs, bg ≤ x.1) → List.Pairwise (fun x y => x.1 ≤ y.1) xs → ∀ t ∈ segF loc bg off xs, bg ≤ t
  | [], bg, off, _, _, t, ht => by
    unfold segF at ht
    split at ht
    · simp at ht; omega
    · cases ht
  | (a, o) :: r, bg, off, hb, hp, t, ht => by
    unfold segF at ht
    have ha := hb (a, o) (by simp)
    simp only at ha
    rcases List.mem_append.1 ht with ht | ht
    · split at ht
      · simp at ht; omega
      · cases ht
    · rw [List.pairwise_cons] at hp
      have := segF_ge (loc := loc) r a o (fun x hx => hp.1 x hx) hp.2 t ht
      omega

theorem shE_sorted : ∀ (xs : Prs) (off pa : Int), shE off pa xs = 0 → List.Pairwise (fun x y => x.1 ≤ y.1) xs
  | [], _, _, _ => List.Pairwise.nil
  | (a, o) :: r, off, pa, h => by
    obtain ⟨_, _, _, _, _, _, h7⟩ := shE_cons h
    rw [List.pairwise_cons]
    exact ⟨fun x hx => by have := (shE_later h7 x hx).1; simp only; omega, shE_sorted r o a h7⟩

theorem segF_asc {loc : Int} : ∀ (xs : Prs) (bg off pa : Int), shE off pa xs = 0 → List.Pairwise (· < ·) (segF loc bg off xs)
  | [], bg, off, _, _ => by
    unfold segF
    split <;> simp
  | (a, o) :: r, bg, off, pa, h => by
    obtain ⟨_, _, _, _, _, _, h7⟩ := shE_cons h
    unfold segF
    rw [List.pairwise_append]
    refine ⟨by split <;> simp, segF_asc r a o a h7, fun x hx y hy => ?_⟩
    have hy' := segF_ge (loc := loc) r a o (fun x hx => by have := (shE_later h7 x hx).1; omega) (shE_sorted r o a h7) y hy
    split at hx
    · simp at hx; omega
    · cases hx

theorem refL_mem {off loc t : Int} {xs : Prs} : ∀ K : Nat, (t ∈ refL off xs loc K ↔ loc - 840 ≤ t ∧ t < loc - 840 + K ∧ isI t = true ∧ offF t off xs = loc - t)
  | 0 => by unfold refL; simp; omega
  | K + 1 => by
    unfold refL
    rw [List.mem_append, refL_mem K]
    by_cases c : t = loc - 840 + K
    · subst c
      split
      · rename_i h; simp; refine ⟨by omega, by omega, h.1, by rw [h.2]; omega⟩
      · rename_i h
        simp only [List.not_mem_nil, or_false]
        constructor
        · rintro ⟨h1, h2, _⟩; omega
        · rintro ⟨_, _, h3, h4⟩; exact absurd ⟨h3, by rw [h4]; omega⟩ h
    · split
      · simp only [List.mem_singleton, c, or_false]
        constructor
        · rintro ⟨h1, h2, h3⟩; exact ⟨h1, by omega, h3⟩
        · rintro ⟨h1, h2, h3⟩; exact ⟨h1, by omega, h3⟩
      · simp only [List.not_mem_nil, or_false]
        constructor
        · rintro ⟨h1, h2, h3⟩; exact ⟨h1, by omega, h3⟩
        · rintro ⟨h1, h2, h3⟩; exact ⟨h1, by omega, h3⟩
theorem refL_asc {off loc : Int} {xs : Prs} : ∀ K : Nat, List.Pairwise (· < ·) (refL off xs loc K)
  | 0 => by unfold refL; exact List.Pairwise.nil
  | K + 1 => by
    unfold refL
    rw [List.pairwise_append]
    refine ⟨refL_asc K, by split <;> simp, fun x hx y hy => ?_⟩
    have := (refL_mem K).1 hx
    split at hy
    · simp at hy; omega
    · cases hy

theorem asc_eq : ∀ {l m : List Int}, List.Pairwise (· < ·) l → List.Pairwise (· < ·) m → (∀ t, t ∈ l ↔ t ∈ m) → l = m
  | [], [], _, _, _ => rfl
  | [], y :: m, _, _, h => by have := (h y).2 (by simp); cases this
  | x :: l, [], _, _, h => by have := (h x).1 (by simp); cases this
  | x :: l, y :: m, hl, hm, h => by
    rw [List.pairwise_cons] at hl hm
    have e : x = y := by
      rcases List.mem_cons.1 ((h x).1 (by simp)) with e | h1
      · exact e
      · rcases List.mem_cons.1 ((h y).2 (by simp)) with e | h2
        · exact e.symm
        · have := hm.1 x h1; have := hl.1 y h2; omega
    subst e
    rw [asc_eq hl.2 hm.2 (fun t => ?_)]
    constructor
    · intro ht
      rcases List.mem_cons.1 ((h t).1 (by simp [ht])) with e | h1
      · have := hl.1 t ht; omega
      · exact h1
    · intro ht
      rcases List.mem_cons.1 ((h t).2 (by simp [ht])) with e | h1
      · have := hm.1 t ht; omega
      · exact h1

def insts (nm : L8) (off : Int) (xs : Prs) (loc : Int) : List Int := if vldE nm off xs = 0 ∧ -840 ≤ loc ∧ loc < 52596840 then segF loc 0 off xs else []

theorem start_ge {off : Int} {xs : Prs} (h : shE off (-2880) xs = 0) : ∀ x ∈ xs, (0 : Int) ≤ x.1 := fun x hx => (shE_later h x hx).2.1.1

/-- The reference's list is the same. -/
theorem insts_ref {nm : L8} {off : Int} {xs : Prs} {loc : Int} (h : vldE nm off xs = 0) : refL off xs loc 1681 = insts nm off xs loc := by
  obtain ⟨_, hn, _, hs⟩ := vldE_ok h
  unfold insts
  have hA : ∀ t, t ∈ refL off xs loc 1681 ↔ 0 ≤ t ∧ t < 52596000 ∧ t = loc - atF t off xs := fun t => by
    rw [refL_mem, isI_iff, ← at_off xs off _ hs]
    have := atF_near (t := t) xs off _ hs hn
    constructor
    · rintro ⟨h1, h2, h3, h4⟩; exact ⟨h3.1, h3.2, by omega⟩
    · rintro ⟨h1, h2, h3⟩; exact ⟨by omega, by omega, ⟨h1, h2⟩, by omega⟩
  split
  · refine asc_eq (refL_asc _) (segF_asc xs 0 off _ hs) (fun t => ?_)
    rw [hA, segF_mem xs 0 off _ hs (by omega) (by omega) (start_ge hs)]
  · rename_i hc
    refine asc_eq (refL_asc _) List.Pairwise.nil (fun t => ?_)
    rw [hA]
    have := atF_near (t := t) xs off _ hs hn
    simp only [List.not_mem_nil, iff_false]
    rintro ⟨h1, h2, h3⟩
    exact hc ⟨h, by omega, by omega⟩

/-- What is among the instants. -/
theorem insts_mem {nm : L8} {off : Int} {xs : Prs} {loc t : Int} (h : vldE nm off xs = 0) : t ∈ insts nm off xs loc ↔ 0 ≤ t ∧ t < 52596000 ∧ t + atF t off xs = loc := by
  obtain ⟨_, hn, _, hs⟩ := vldE_ok h
  rw [← insts_ref h, refL_mem, isI_iff, ← at_off xs off _ hs]
  have := atF_near (t := t) xs off _ hs hn
  constructor
  · rintro ⟨h1, h2, h3, h4⟩; exact ⟨h3.1, h3.2, by omega⟩
  · rintro ⟨h1, h2, h3⟩; exact ⟨by omega, by omega, ⟨h1, h2⟩, by omega⟩
theorem insts_asc {nm : L8} {off : Int} {xs : Prs} {loc : Int} : List.Pairwise (· < ·) (insts nm off xs loc) := by
  unfold insts
  split
  · rename_i h; exact segF_asc xs 0 off _ (vldE_ok h.1).2.2.2
  · exact List.Pairwise.nil
theorem segF_two {loc : Int} : ∀ (xs : Prs) (bg off pa : Int), shE off pa xs = 0 → (-840 ≤ off ∧ off ≤ 840) → (segF loc bg off xs).length ≤ 2
  | [], bg, off, _, _, _ => by unfold segF; split <;> simp
  | (a, o) :: r, bg, off, pa, h, hn => by
    obtain ⟨⟨a1, a2⟩, h2, _, _, _, _, h7⟩ := shE_cons h
    have ih := segF_two (loc := loc) r a o a h7 h2
    unfold segF
    split
    · rename_i hc
      rw [List.length_append]
      have : (segF loc a o r).length ≤ 1 := by
        match r, h7 with
        | [], _ => unfold segF; split <;> simp
        | (b, q) :: r', h7 =>
          obtain ⟨⟨b1, b2⟩, hq, hb, _, _, _, h8⟩ := shE_cons h7
          have e : segF loc b q r' = [] := by
            refine List.eq_nil_iff_forall_not_mem.2 (fun t ht => ?_)
            have hm := (segF_mem (loc := loc) (t := t) r' b q b h8 b1 b2 (fun x hx => by have := (shE_later h8 x hx).1; omega)).1 ht
            have hq2 := atF_near (t := t) r' q b h8 hq
            omega
          unfold segF
          rw [e, List.append_nil]
          split <;> simp
      simp; omega
    · simpa using ih
theorem insts_two {nm : L8} {off : Int} {xs : Prs} {loc : Int} : (insts nm off xs loc).length ≤ 2 := by
  unfold insts
  split
  · rename_i h; obtain ⟨_, hn, _, hs⟩ := vldE_ok h.1; exact segF_two xs 0 off _ hs hn
  · simp

/-! ### What a local time means -/
def gapF (loc : Int) : Int → Prs → Option Int
  | _, [] => none
  | off, (a, o) :: r => if a + off ≤ loc ∧ loc < a + o then some (loc - off) else gapF loc o r
def rgapF (loc : Int) : Int → Prs → Option Int
  | _, [] => none
  | off, (a, o) :: r => if (a + off ≤ loc ∧ loc < a + o) ∧ isI (loc - off) = true then some (loc - off) else rgapF loc o r
def okI : Option Int → Option Int
  | some t => if isI t = true then some t else none
  | none => none
theorem gap_ref {loc : Int} : ∀ (xs : Prs) (off pa : Int), shE off pa xs = 0 → rgapF loc off xs = okI (gapF loc off xs)
  | [], _, _, _ => rfl
  | (a, o) :: r, off, pa, h => by
    obtain ⟨⟨a1, a2⟩, h2, _, _, h5, _, h7⟩ := shE_cons h
    unfold rgapF gapF
    by_cases c : a + off ≤ loc ∧ loc < a + o
    · rw [if_pos c]
      by_cases d : isI (loc - off) = true
      · rw [if_pos ⟨c, d⟩]; simp [okI, d]
      · rw [if_neg (fun h => d h.2)]
        have e : okI (some (loc - off)) = none := by simp [okI, d]
        rw [e]
        have d' : isI (loc - off) = false := by simpa using d
        rw [isI_no] at d'
        match r, h7 with
        | [], _ => rfl
        | (b, q) :: r', h7 =>
          obtain ⟨⟨b1, b2⟩, _, hb, _⟩ := shE_cons h7
          omega
    · rw [if_neg c, if_neg (fun h => c h.1)]
      exact gap_ref r o a h7

def resT (nm : L8) (off : Int) (xs : Prs) (loc : Int) : Option Int := match insts nm off xs loc with | t :: _ => some t | [] => okI (gapF loc off xs)
def resE (nm : L8) (off : Int) (xs : Prs) (loc : Int) : Int := if vldE nm off xs ≠ 0 then vldE nm off xs else if (resT nm off xs loc).isSome then 0 else 3
def resV (nm : L8) (off : Int) (xs : Prs) (loc : Int) : Int := if vldE nm off xs ≠ 0 then 0 else (resT nm off xs loc).getD 0

end Go.Proofs.YtllcoocllkaanaaDoor
