/- Records: lines and columns are places of the text: the plain law. -/
import Derived.Test.YtpiejpodaljefaaDoorN1
import Derived.Test.YtpiejpodaljefaaDoorT4
namespace Go.Proofs.YtpiejpodaljefaaDoor

/-- from r at line l to r2 at line l2: the line feeds between are counted -/
def Rd (r : L8) (l : Nat) (r2 : L8) (l2 : Nat) : Prop := ∃ u : L8, r = u ++ r2 ∧ l2 = l + u.count 10
theorem Rd.refl (r : L8) (l : Nat) : Rd r l r l := ⟨[], rfl, rfl⟩
theorem Rd.trans {r r2 r3 : L8} {l l2 l3 : Nat} (h : Rd r l r2 l2) (h2 : Rd r2 l2 r3 l3) : Rd r l r3 l3 := by
  obtain ⟨u, rfl, rfl⟩ := h
  obtain ⟨v, rfl, rfl⟩ := h2
  exact ⟨u ++ v, by simp, by rw [List.count_append]; omega⟩
theorem Rd.one {c : UInt8} (h : c ≠ 10) (r : L8) (l : Nat) : Rd (c :: r) l r l := ⟨[c], rfl, by rw [List.count_cons_of_ne (by simpa using h)]; rfl⟩
theorem Rd.feed (r : L8) (l : Nat) : Rd (10 :: r) l r (l + 1) := ⟨[10], rfl, rfl⟩
theorem endL_no {c : UInt8} {r : L8} (h : endL (c :: r) = false) : c ≠ 10 := by
  rintro rfl
  cases r <;> simp [endL] at h
theorem plainL_rd (d q : UInt8) : ∀ r : L8, (plainL d q r).1 ++ (plainL d q r).2.1 = r ∧ (plainL d q r).1.count 10 = 0
  | [] => ⟨rfl, rfl⟩
  | c :: r => by
    have ih := plainL_rd d q r
    rw [plainL]
    by_cases h1 : (endL (c :: r) || c == d) = true
    · rw [if_pos h1]; exact ⟨rfl, rfl⟩
    · rw [if_neg h1]
      by_cases h2 : (c == q) = true
      · rw [if_pos h2]; exact ⟨rfl, rfl⟩
      · rw [if_neg h2]
        have he : endL (c :: r) = false := by simp at h1; exact h1.1
        refine ⟨by show c :: ((plainL d q r).1 ++ (plainL d q r).2.1) = _; rw [ih.1], ?_⟩
        show (c :: (plainL d q r).1).count 10 = 0
        rw [List.count_cons_of_ne (by simpa using endL_no he)]
        exact ih.2
theorem quotL_rd {q : UInt8} (hq : q ≠ 10) : ∀ (r : L8) (l k : Nat) (o : L8), 1 ≤ k → Rd r l (quotL q r l k o).rest (quotL q r l k o).line ∧ 1 ≤ (quotL q r l k o).col
  | [], l, k, o, hk => ⟨Rd.refl _ _, hk⟩
  | [c], l, k, o, hk => by
    rw [quotL]
    by_cases h1 : (c == q) = true
    · rw [if_pos h1]
      have : c = q := by simpa using h1
      exact ⟨Rd.one (by rw [this]; exact hq) _ _, by show 1 ≤ k + 1; omega⟩
    · rw [if_neg h1]
      by_cases h2 : (c == 10) = true
      · rw [if_pos h2]
        obtain rfl : c = 10 := by simpa using h2
        exact ⟨Rd.feed _ _, Nat.le_refl _⟩
      · rw [if_neg h2]
        exact ⟨Rd.one (by simpa using h2) _ _, by show 1 ≤ k + 1; omega⟩
  | c :: e :: r, l, k, o, hk => by
    rw [quotL]
    by_cases h1 : (c == q) = true
    · have hc : c = q := by simpa using h1
      rw [if_pos h1]
      by_cases h3 : (e == q) = true
      · have he : e = q := by simpa using h3
        rw [if_pos h3]
        obtain ⟨a, b⟩ := quotL_rd hq r l (k + 2) (o ++ [q]) (by omega)
        exact ⟨(Rd.one (by rw [hc]; exact hq) _ _).trans ((Rd.one (by rw [he]; exact hq) _ _).trans a), b⟩
      · rw [if_neg h3]
        exact ⟨Rd.one (by rw [hc]; exact hq) _ _, by show 1 ≤ k + 1; omega⟩
    · rw [if_neg h1]
      by_cases h2 : (c == 10) = true
      · rw [if_pos h2]
        obtain rfl : c = 10 := by simpa using h2
        obtain ⟨a, b⟩ := quotL_rd hq (e :: r) (l + 1) 1 (o ++ [10]) (by omega)
        exact ⟨(Rd.feed _ _).trans a, b⟩
      · rw [if_neg h2]
        obtain ⟨a, b⟩ := quotL_rd hq (e :: r) l (k + 1) (o ++ [c]) (by omega)
        exact ⟨(Rd.one (by simpa using h2) _ _).trans a, b⟩
/-- where the field's text begins -/
def FPl (q : UInt8) (r : L8) (f : Fld) : Prop := if f.2.2 = true then r.head? = some q else ∃ b, r = f.1 ++ b
theorem fieldL_rd {d q : UInt8} (hq : q ≠ 10) (s : St) (hc : 1 ≤ s.col) : Rd s.rest s.line (fieldL d q s).2.rest (fieldL d q s).2.line ∧ 1 ≤ (fieldL d q s).2.col ∧
    ∀ f, (fieldL d q s).1 = .inl f → f.2.1 = s.col ∧ FPl q s.rest f ∧ (endL (fieldL d q s).2.rest = true ∨ (fieldL d q s).2.rest.head? = some d) := by
  obtain ⟨rest, line, col⟩ := s
  by_cases h : rest.head? = some q
  · obtain ⟨t, rfl⟩ : ∃ t, rest = q :: t := by
      cases rest with
      | nil => simp at h
      | cons c t => simp at h; exact ⟨t, by rw [h]⟩
    obtain ⟨a, b⟩ := quotL_rd hq t line (col + 1) [] (by omega)
    have ha : Rd (q :: t) line (quotL q t line (col + 1) []).rest (quotL q t line (col + 1) []).line := (Rd.one hq _ _).trans a
    have hh : (St.mk (q :: t) line col).rest.head? = some q := rfl
    have hfl : fieldL d q ⟨q :: t, line, col⟩ = (fun z : QS => if z.ok = false then ((Sum.inr (line, col, 8) : Fld ⊕ Prb), St.mk z.rest z.line z.col) else if endL z.rest = true ∨ z.rest.head? = some d then (.inl (z.txt, col, true), ⟨z.rest, z.line, z.col⟩) else (.inr (z.line, z.col, 8), ⟨z.rest, z.line, z.col⟩)) (quotL q t line (col + 1) []) := by
      unfold fieldL
      rw [if_pos hh]
      rfl
    rw [hfl]
    clear hfl
    generalize quotL q t line (col + 1) [] = z at *
    dsimp only
    by_cases h1 : z.ok = false
    · rw [if_pos h1]
      exact ⟨ha, b, fun f hf => by cases hf⟩
    · rw [if_neg h1]
      by_cases h2 : endL z.rest = true ∨ z.rest.head? = some d
      · rw [if_pos h2]
        refine ⟨ha, b, fun f hf => ?_⟩
        cases hf
        exact ⟨rfl, by simp [FPl], h2⟩
      · rw [if_neg h2]
        exact ⟨ha, b, fun f hf => by cases hf⟩
  · unfold fieldL
    rw [if_neg (show ¬ (St.mk rest line col).rest.head? = some q from h)]
    obtain ⟨p1, p2⟩ := plainL_rd d q rest
    have hr : Rd rest line (plainL d q rest).2.1 line := ⟨(plainL d q rest).1, p1.symm, by rw [p2]; rfl⟩
    have hends := plain_ends d q rest
    simp only
    by_cases h1 : (plainL d q rest).2.2 = true
    · rw [if_pos h1]
      refine ⟨hr, by show 1 ≤ col + _; have : 1 ≤ col := hc; omega, fun f hf => ?_⟩
      cases hf
      exact ⟨rfl, by simp only [FPl]; rw [if_neg (by simp)]; exact ⟨_, p1.symm⟩, hends h1⟩
    · rw [if_neg h1]
      exact ⟨hr, by show 1 ≤ col + _; have : 1 ≤ col := hc; omega, fun f hf => by cases hf⟩
theorem recL_rd {d q : UInt8} (hq : q ≠ 10) (hd : d ≠ 10) : ∀ (n : Nat) (s : St) (fs : List Fld), 1 ≤ s.col → Rd s.rest s.line (recL d q n s fs).2.rest (recL d q n s fs).2.line ∧
    ∀ fs', (recL d q n s fs).1 = .inl fs' → ∃ f gs, fs' = fs ++ f :: gs ∧ f.2.1 = s.col ∧ (∀ g ∈ gs, 1 ≤ g.2.1) ∧ FPl q s.rest f
  | 0, s, fs, _ => ⟨Rd.refl _ _, fun fs' h => by cases h⟩
  | n + 1, s, fs, hc => by
    obtain ⟨h1, h2, h3⟩ := fieldL_rd (d := d) hq s hc
    rw [recL]
    cases hz : fieldL d q s with
    | mk z s' =>
      rw [hz] at h1 h2 h3
      cases z with
      | inr p => exact ⟨h1, fun fs' h => by cases h⟩
      | inl f =>
        obtain ⟨e1, e2, e3⟩ := h3 f rfl
        simp only
        by_cases he : endL s'.rest = true
        · rw [if_pos he]
          refine ⟨h1, fun fs' h => ?_⟩
          cases h
          exact ⟨f, [], rfl, e1, by simp, e2⟩
        · rw [if_neg he]
          obtain ⟨t, ht⟩ : ∃ t, s'.rest = d :: t := by
            rcases e3 with e3 | e3
            · exact absurd e3 he
            · cases hr : s'.rest with
              | nil => rw [hr] at e3; simp at e3
              | cons c t => rw [hr] at e3; simp at e3; exact ⟨t, by rw [e3]⟩
          obtain ⟨g1, g2⟩ := recL_rd hq hd n ⟨s'.rest.tail, s'.line, s'.col + 1⟩ (fs ++ [f]) (by show 1 ≤ s'.col + 1; omega)
          refine ⟨h1.trans (Rd.trans (r2 := s'.rest.tail) (l2 := s'.line) (by rw [ht]; exact Rd.one hd _ _) g1), fun fs' h => ?_⟩
          obtain ⟨f2, gs, k1, k2, k3, _⟩ := g2 fs' h
          refine ⟨f, f2 :: gs, by rw [k1]; simp, e1, fun g hg => ?_, e2⟩
          rcases List.mem_cons.1 hg with rfl | hg
          · rw [k2]; show 1 ≤ s'.col + 1; omega
          · exact k3 g hg
theorem skipL_rd : ∀ r : L8, (∃ u, r = u ++ 10 :: skipL r ∧ u.count 10 = 0) ∨ skipL r = []
  | [] => Or.inr rfl
  | c :: r => by
    rw [skipL]
    by_cases h : (c == 10) = true
    · obtain rfl : c = 10 := by simpa using h
      rw [if_pos h]
      exact Or.inl ⟨[], rfl, rfl⟩
    · rw [if_neg h]
      rcases skipL_rd r with ⟨u, h1, h2⟩ | h1
      · refine Or.inl ⟨c :: u, ?_, by rw [List.count_cons_of_ne (by simpa using h)]; exact h2⟩
        show c :: r = c :: (u ++ 10 :: skipL r)
        rw [← h1]
      · exact Or.inr h1
/-- r is the rest of t at the beginning of line l -/
def LAt (t r : L8) (l : Nat) : Prop := 1 ≤ l ∧ ∃ u, t = u ++ r ∧ l = 1 + u.count 10 ∧ (u = [] ∨ u.getLast? = some 10)
theorem LAt.next {t r r2 : L8} {l l2 : Nat} (h : LAt t r l) (hr : Rd r l r2 l2) : skipL r2 = [] ∨ LAt t (skipL r2) (l2 + 1) := by
  obtain ⟨_, u, rfl, hl, _⟩ := h
  obtain ⟨v, rfl, hl2⟩ := hr
  rcases skipL_rd r2 with ⟨w, h1, h2⟩ | h1
  · have e : u ++ (v ++ r2) = (u ++ v ++ w ++ [10]) ++ skipL r2 := (congrArg (fun z => u ++ (v ++ z)) h1).trans (by simp)
    refine Or.inr ⟨by omega, u ++ v ++ w ++ [10], e, ?_, Or.inr (by simp)⟩
    simp only [List.count_append, h2, List.count_singleton_self]
    omega
  · exact Or.inl h1
theorem takeWhile_no (a r : L8) (h : (10 : UInt8) ∉ a) : ((a ++ 10 :: r).takeWhile (· != 10)).length = a.length := by
  induction a with
  | nil => simp
  | cons c a ih =>
    have hc : c ≠ 10 := fun e => h (by rw [e]; simp)
    have := ih fun h' => h (by simp [h'])
    simp [hc, this]
theorem begP_at : ∀ (n : Nat) (u r : L8), u.length ≤ n → (u = [] ∨ u.getLast? = some 10) → begP (u ++ r) (u.count 10) = u.length
  | _, [], r, _, _ => rfl
  | n + 1, c :: u, r, hn, hu => by
    have h10 : (10 : UInt8) ∈ c :: u := by
      rcases hu with hu | hu
      · cases hu
      · exact List.mem_of_getLast? hu
    obtain ⟨a, b, hab, hna⟩ := List.eq_append_cons_of_mem h10
    have hb : b = [] ∨ b.getLast? = some 10 := by
      cases b with
      | nil => exact Or.inl rfl
      | cons x b =>
        right
        rcases hu with hu | hu
        · cases hu
        · rw [hab] at hu
          simpa using hu
    have hlen : (c :: u).length = a.length + 1 + b.length := by rw [hab]; simp; omega
    have ih := begP_at n b r (by simp at hlen hn; omega) hb
    rw [hlen, hab]
    have hc : (a ++ 10 :: b).count 10 = b.count 10 + 1 := by
      rw [List.count_append, List.count_eq_zero.2 hna, List.count_cons_self]; omega
    rw [hc, begP, List.append_assoc, List.cons_append, takeWhile_no a (b ++ r) hna]
    have hd : (a ++ 10 :: (b ++ r)).drop (a.length + 1) = b ++ r := by
      rw [← List.drop_drop, List.drop_left]; rfl
    rw [hd, ih]
/-- the place of a record's first field -/
def PlaceOk (t : L8) (q : UInt8) (x : Rcd) : Prop :=
  ∃ u r f gs, t = u ++ r ∧ u.length = begP t (x.1 - 1) ∧ 1 ≤ x.1 ∧ x.1 ≤ t.length + 1 ∧ x.2 = f :: gs ∧ f.2.1 = 1 ∧ (∀ g ∈ gs, 1 ≤ g.2.1) ∧ FPl q r f
theorem place_mk {t r : L8} {l : Nat} {q : UInt8} {f : Fld} {gs : List Fld} (h : LAt t r l) (h1 : f.2.1 = 1) (h2 : ∀ g ∈ gs, 1 ≤ g.2.1) (h3 : FPl q r f) : PlaceOk t q (l, f :: gs) := by
  obtain ⟨hl, u, rfl, hl2, hu⟩ := h
  have := List.count_le_length (a := (10 : UInt8)) (l := u)
  refine ⟨u, r, f, gs, rfl, ?_, hl, ?_, rfl, h1, h2, h3⟩
  · show u.length = begP (u ++ r) (l - 1)
    rw [show l - 1 = u.count 10 by omega, begP_at u.length u r (Nat.le_refl _) hu]
  · show l ≤ (u ++ r).length + 1
    simp; omega
theorem parL_place {d q : UInt8} (hq : q ≠ 10) (hd : d ≠ 10) (t : L8) : ∀ (n : Nat) (r : L8) (l : Nat) (R : List Rcd) (P : List Prb), (r = [] ∨ LAt t r l) → (∀ x ∈ R, PlaceOk t q x) → ∀ x ∈ (parL d q n r l R P).1, PlaceOk t q x
  | 0, _, _, _, _, _, hR => hR
  | n + 1, r, l, R, P, hr, hR => by
    rw [parL]
    by_cases h0 : r = []
    · rw [if_pos h0]; exact hR
    · rw [if_neg h0]
      have hl : LAt t r l := hr.resolve_left h0
      by_cases h1 : endL r = true ∨ r.head? = some 35
      · rw [if_pos h1]
        exact parL_place hq hd t n _ _ R P (hl.next (Rd.refl _ _)) hR
      · rw [if_neg h1]
        by_cases h2 : R.length = 400
        · rw [if_pos h2]; exact hR
        · rw [if_neg h2]
          obtain ⟨k1, k2⟩ := recL_rd (d := d) hq hd 12 ⟨r, l, 1⟩ [] (Nat.le_refl _)
          cases hz : recL d q 12 ⟨r, l, 1⟩ [] with
          | mk z s' =>
            rw [hz] at k1 k2
            cases z with
            | inr p => exact parL_place hq hd t n _ _ R (P ++ [p]) (hl.next k1) hR
            | inl fs =>
              obtain ⟨f, gs, e1, e2, e3, e4⟩ := k2 fs rfl
              refine parL_place hq hd t n _ _ (R ++ [(l, fs)]) P (hl.next k1) fun x hx => ?_
              rcases List.mem_append.1 hx with hx | hx
              · exact hR x hx
              · obtain rfl : x = (l, fs) := by simpa using hx
                obtain rfl : fs = f :: gs := e1
                exact place_mk hl e2 e3 e4
/-- LINES AND COLUMNS ARE PLACES OF THE TEXT. -/
theorem par_place {d q : UInt8} (hok : okD d q = true) (t : L8) : ∀ x ∈ (parT d q t).1, PlaceOk t q x := by
  obtain ⟨hd, hq⟩ := okD_of hok
  unfold parT
  rw [if_neg (by simp [hok])]
  by_cases h : 65536 < t.length
  · rw [if_pos h]; simp
  · rw [if_neg h]
    refine parL_place (by rcases hq with rfl | rfl <;> decide) (by rcases hd with rfl | rfl | rfl | rfl <;> decide) t _ _ _ _ _ (Or.inr ⟨Nat.le_refl _, [], rfl, rfl, Or.inl rfl⟩) (by simp)
end Go.Proofs.YtpiejpodaljefaaDoor
