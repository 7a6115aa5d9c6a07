import Derived.Test.YtmnoiknpamfmoaaDoorP1
namespace Go.Proofs.YtmnoiknpamfmoaaDoor.CS
open Go.Lib

def nextR (k : Int) (l : L8) : Int := if k = 3 then ((decodeL l).1 : Int) else ((l.getD 0 0).toNat : Int)
def nextN (k : Int) (l : L8) : Nat := if k = 3 then (decodeL l).2 else 1
def nextOk (k : Int) (l : L8) : Bool := if k = 3 then !decide (bad l) else (k == 2 || decide ((l.getD 0 0).toNat ≤ 127))

theorem nextN_pos (k : Int) (l : L8) : 1 ≤ nextN k l := by
  unfold nextN; split
  · exact decodeL_width l
  · omega
theorem nextN_le (k : Int) (l : L8) (h : l ≠ []) : nextN k l ≤ l.length := by
  have := List.length_pos_iff.2 h
  unfold nextN; split
  · exact decodeL_le l h
  · omega
theorem nextN_bad (k : Int) (l : L8) (h : nextOk k l = false) : nextN k l = 1 := by
  unfold nextN; unfold nextOk at h; split
  · rename_i hk; rw [if_pos hk] at h; simp at h; exact h.2
  · rfl

abbrev Dmg := List (Int × Int)

def decF (k : Int) : Nat → L8 → Int → L8 × Dmg
  | 0, _, _ => ([], [])
  | n + 1, l, at' => if l = [] then ([], []) else
      if nextOk k l then (encodeRune (nextR k l) ++ (decF k n (l.drop (nextN k l)) (at' + nextN k l)).1, (decF k n (l.drop (nextN k l)) (at' + nextN k l)).2)
      else (encodeRune 65533 ++ (decF k n (l.drop (nextN k l)) (at' + nextN k l)).1, (at', ((l.getD 0 0).toNat : Int)) :: (decF k n (l.drop (nextN k l)) (at' + nextN k l)).2)
def dec (k : Int) (l : L8) (at' : Int) : L8 × Dmg := decF k l.length l at'

theorem decF_nil (k : Int) (a : Int) : ∀ n, decF k n [] a = ([], [])
  | 0 => rfl
  | _ + 1 => by simp [decF]
theorem decF_fuel (k : Int) : ∀ (n m : Nat) (l : L8) (a : Int), l.length ≤ n → l.length ≤ m → decF k n l a = decF k m l a
  | 0, m, l, a, hn, _ => by
    have : l = [] := List.eq_nil_of_length_eq_zero (by omega)
    subst this
    rw [decF_nil, decF_nil]
  | n + 1, 0, l, a, _, hm => by
    have : l = [] := List.eq_nil_of_length_eq_zero (by omega)
    subst this
    rw [decF_nil, decF_nil]
  | n + 1, m + 1, l, a, hn, hm => by
    by_cases hne : l = []
    · subst hne
      rw [decF_nil, decF_nil]
    · have hw := nextN_pos k l
      have hl : 0 < l.length := List.length_pos_iff.2 hne
      simp only [decF, if_neg hne]
      rw [decF_fuel k n m _ _ (by rw [List.length_drop]; omega) (by rw [List.length_drop]; omega)]
theorem dec_nil (k a : Int) : dec k [] a = ([], []) := rfl
theorem dec_step (k : Int) (l : L8) (a : Int) (hne : l ≠ []) : dec k l a = if nextOk k l then (encodeRune (nextR k l) ++ (dec k (l.drop (nextN k l)) (a + nextN k l)).1, (dec k (l.drop (nextN k l)) (a + nextN k l)).2)
      else (encodeRune 65533 ++ (dec k (l.drop (nextN k l)) (a + nextN k l)).1, (a, ((l.getD 0 0).toNat : Int)) :: (dec k (l.drop (nextN k l)) (a + nextN k l)).2) := by
  have hw := nextN_pos k l
  have hl : 0 < l.length := List.length_pos_iff.2 hne
  unfold dec
  obtain ⟨n, hn⟩ : ∃ n, l.length = n + 1 := ⟨l.length - 1, by omega⟩
  rw [hn]
  simp only [decF, if_neg hne]
  rw [decF_fuel k n _ _ _ (by rw [List.length_drop]; omega) (Nat.le_refl _)]

def marked (l : L8) : Bool := decide (3 ≤ l.length) && l.getD 0 0 == 239 && l.getD 1 0 == 187 && l.getD 2 0 == 191
def start (k : Int) (l : L8) : Nat := if k = 3 ∧ marked l = true then 3 else 0
theorem start_le (k : Int) (l : L8) : start k l ≤ l.length := by
  unfold start
  split
  · rename_i h; have := h.2; unfold marked at this; simp at this; omega
  · omega

def decE (k : Int) (l : L8) : Int := if k < 1 ∨ 3 < k then 6 else if 65536 < l.length then 2 else 0
def decR (k : Int) (l : L8) : L8 × Dmg := if k < 1 ∨ 3 < k ∨ 65536 < l.length then ([], []) else dec k (l.drop (start k l)) (start k l)

/-! ### Encode -/

def most (k : Int) : Int := if k = 1 then 127 else if k = 2 then 255 else if k = 3 then 1114111 else 0
def okKind (k : Int) : Bool := decide (1 ≤ k) && decide (k ≤ 3)
def fits (k : Int) (l : L8) : Bool := (runesL l).all (fun r => decide (r ≤ most k))
def byteOf (r : Int) : UInt8 := UInt8.ofNat r.toNat
def encOut (k : Int) (l : L8) : L8 := if k = 3 then l else (runesL l).map byteOf
def encE (k : Int) (l : L8) : Int := if okKind k = false then 6 else if validD l = false then 4 else if fits k l = false then 5 else if 65536 < (encOut k l).length then 2 else 0
def encR (k : Int) (l : L8) : L8 := if encE k l = 0 then encOut k l else []

/-! ### Detect -/

def plainL (l : L8) : Bool := l.all (fun b => decide (b.toNat < 128))
def detR (l : L8) : Int := if marked l then 3 else if plainL l then 1 else if validD l then 3 else 2

/-! ### The laws -/

/-- Each damage is in its place, in order. -/
def good (b : L8) : Int → Dmg → Prop
  | _, [] => True
  | last, (a, v) :: t => last < a ∧ a < b.length ∧ v = ((b.getD a.toNat 0).toNat : Int) ∧ 128 ≤ v ∧ good b a t

theorem bad_head (k : Int) (l : L8) (h : nextOk k l = false) : 128 ≤ (l.getD 0 0).toNat := by
  unfold nextOk at h
  split at h
  · simp at h; exact decode_head l h
  · simp [-List.getD_eq_getElem?_getD] at h; omega

theorem getD_drop (b : L8) (n i : Nat) : (b.drop n).getD i 0 = b.getD (n + i) 0 := by simp [List.getD]

theorem dec_good (k : Int) (b : L8) : ∀ (f at' : Nat) (last : Int), b.length - at' ≤ f → last < at' → good b last (dec k (b.drop at') at').2
  | f, at', last, hf, hl => by
    by_cases hne : b.drop at' = []
    · rw [hne, dec_nil]; trivial
    · have hlt : at' < b.length := by
        rcases Nat.lt_or_ge at' b.length with h | h
        · exact h
        · exact absurd (List.drop_eq_nil_iff.2 h) hne
      obtain ⟨f, rfl⟩ : ∃ f', f = f' + 1 := ⟨f - 1, by omega⟩
      have hw := nextN_pos k (b.drop at')
      have e1 : (b.drop at').drop (nextN k (b.drop at')) = b.drop (at' + nextN k (b.drop at')) := by rw [List.drop_drop]
      have e2 : (at' : Int) + (nextN k (b.drop at') : Int) = ((at' + nextN k (b.drop at') : Nat) : Int) := by omega
      rw [dec_step k _ _ hne, e1, e2]
      split
      · exact dec_good k b f _ last (by omega) (by omega)
      · rename_i hok
        have hok : nextOk k (b.drop at') = false := by simpa using hok
        have hh := bad_head k _ hok
        have ih := dec_good k b f (at' + nextN k (b.drop at')) at' (by omega) (by omega)
        rw [getD_drop] at hh
        refine ⟨hl, by omega, ?_, ?_, ih⟩
        · rw [getD_drop]; simp
        · rw [getD_drop]; omega

theorem enc_le4 (r : Int) : (encodeRune r).length ≤ 4 := by
  unfold encodeRune encodeRuneZ
  repeat' split
  all_goals simp

theorem dec_len (k : Int) (l : L8) (a : Int) : (dec k l a).1.length ≤ 4 * l.length ∧ (dec k l a).2.length ≤ l.length := by
  induction hn : l.length using Nat.strongRecOn generalizing l a with
  | _ n ih =>
    by_cases hne : l = []
    · subst hne; simp [dec_nil]
    · have hw := nextN_pos k l
      have hle := nextN_le k l hne
      have := ih (l.drop (nextN k l)).length (by rw [List.length_drop]; omega) _ (a + nextN k l) rfl
      rw [List.length_drop] at this
      rw [dec_step k l a hne]
      have e1 := enc_le4 (nextR k l)
      have e2 := enc_le4 65533
      split
      · simp only [List.length_append]; omega
      · simp only [List.length_append, List.length_cons]; omega

/-! ### What is encoded is decoded -/

def okRune (r : Int) : Prop := 0 ≤ r ∧ (r < 55296 ∨ (57343 < r ∧ r ≤ 1114111))

theorem getD_at (x : UInt8) (t : L8) : (x :: t).getD 0 0 = x := rfl
theorem getD_s (x : UInt8) (t : L8) (i : Nat) : (x :: t).getD (i + 1) 0 = t.getD i 0 := by simp [List.getD]
theorem toB (z : Int) (_h0 : 0 ≤ z) (h1 : z < 256) : (z.toNat.toUInt8).toNat = z.toNat := by
  simp [UInt8.toNat_ofNat']; omega

theorem decode_encode (r : Int) (h : okRune r) (t : L8) : decodeL (encodeRune r ++ t) = (r.toNat, (encodeRune r).length) := by
  obtain ⟨h0, h1⟩ := h
  rw [decodeL_N]
  unfold encodeRune
  by_cases c1 : r ≤ 127
  · rw [encodeRuneZ_one h0 c1]
    simp only [List.map_cons, List.map_nil, List.cons_append, List.nil_append, List.length_cons, List.length_nil, getD_at, getD_s]
    rw [toB _ (by omega) (by omega)]
    unfold decodeN; rw [if_pos (by omega)]
  by_cases c2 : r ≤ 2047
  · rw [encodeRuneZ_two (by omega) c2]
    simp only [List.map_cons, List.map_nil, List.cons_append, List.nil_append, List.length_cons, List.length_nil, getD_at, getD_s]
    rw [toB (192 + r / 64) (by omega) (by omega), toB (128 + r % 64) (by omega) (by omega)]
    unfold decodeN; rw [if_neg (by omega), if_pos (by omega), if_pos (by omega)]
    simp; omega
  by_cases c3 : r ≤ 65535
  · rw [encodeRuneZ_three (by omega)]
    simp only [List.map_cons, List.map_nil, List.cons_append, List.nil_append, List.length_cons, List.length_nil, getD_at, getD_s]
    rw [toB (224 + r / 4096) (by omega) (by omega), toB (128 + r / 64 % 64) (by omega) (by omega), toB (128 + r % 64) (by omega) (by omega)]
    unfold decodeN; rw [if_neg (by omega), if_neg (by omega), if_pos (by omega), if_pos (by omega)]
    simp; omega
  · rw [encodeRuneZ_four (by omega) (by omega)]
    simp only [List.map_cons, List.map_nil, List.cons_append, List.nil_append, List.length_cons, List.length_nil, getD_at, getD_s]
    rw [toB (240 + r / 262144) (by omega) (by omega), toB (128 + r / 4096 % 64) (by omega) (by omega), toB (128 + r / 64 % 64) (by omega) (by omega), toB (128 + r % 64) (by omega) (by omega)]
    unfold decodeN; rw [if_neg (by omega), if_neg (by omega), if_neg (by omega), if_pos (by omega), if_pos (by omega)]
    simp; omega

theorem enc_pos (r : Int) : 1 ≤ (encodeRune r).length := by
  unfold encodeRune encodeRuneZ
  repeat' split
  all_goals simp

theorem enc_len_bad (r : Int) (h : r = 65533) : (encodeRune r).length = 3 := by subst h; rw [enc_bad]; rfl

theorem valid_cons (r : Int) (h : okRune r) (t : L8) : validD (encodeRune r ++ t) = validD t := by
  have hp := enc_pos r
  have hne : encodeRune r ++ t ≠ [] := by intro e; have := congrArg List.length e; simp at this; rw [this.1] at hp; simp at hp
  rw [validD_step _ hne, decode_encode r h t]
  dsimp only
  rw [if_neg]
  · simp
  · rintro ⟨h1, h2⟩
    have := enc_len_bad r (by have := h.1; omega)
    omega

theorem okRune_bad : okRune 65533 := ⟨by decide, Or.inr ⟨by decide, by decide⟩⟩
theorem okRune_next (k : Int) (l : L8) : okRune (nextR k l) := by
  unfold nextR
  split
  · have := decode_rune l; exact ⟨by omega, by omega⟩
  · have := (l.getD 0 0).toNat_lt; exact ⟨by omega, by omega⟩

theorem dec_valid (k : Int) (l : L8) (a : Int) : validD (dec k l a).1 = true := by
  induction hn : l.length using Nat.strongRecOn generalizing l a with
  | _ n ih =>
    by_cases hne : l = []
    · subst hne; rfl
    · have hw := nextN_pos k l
      have hl : 0 < l.length := List.length_pos_iff.2 hne
      have := ih (l.drop (nextN k l)).length (by rw [List.length_drop]; omega) _ (a + nextN k l) rfl
      rw [dec_step k l a hne]
      split
      · rw [valid_cons _ (okRune_next k l)]; exact this
      · rw [valid_cons _ okRune_bad]; exact this

theorem decR_valid (k : Int) (l : L8) : validD (decR k l).1 = true := by
  unfold decR
  split
  · rfl
  · exact dec_valid _ _ _

/-! ### No damage -/

theorem dec_latin (l : L8) (a : Int) : (dec 2 l a).2 = [] := by
  induction hn : l.length using Nat.strongRecOn generalizing l a with
  | _ n ih =>
    by_cases hne : l = []
    · subst hne; rfl
    · have hl : 0 < l.length := List.length_pos_iff.2 hne
      rw [dec_step 2 l a hne, if_pos (by simp [nextOk])]
      exact ih (l.drop (nextN 2 l)).length (by rw [List.length_drop]; have := nextN_pos 2 l; omega) _ _ rfl

theorem dec_plain (l : L8) (a : Int) (h : plainL l = true) : (dec 1 l a).2 = [] := by
  induction hn : l.length using Nat.strongRecOn generalizing l a with
  | _ n ih =>
    cases l with
    | nil => rfl
    | cons x t =>
      have h' := h
      unfold plainL at h'
      simp only [List.all_cons, Bool.and_eq_true, decide_eq_true_eq] at h'
      have e1 : nextN 1 (x :: t) = 1 := by simp [nextN]
      rw [dec_step 1 _ a (by simp), if_pos (by simp [nextOk]; omega), e1]
      exact ih t.length (by simp at hn; omega) t _ h'.2 rfl

theorem dec_same (l : L8) (a : Int) (h : validD l = true) : dec 3 l a = (l, []) := by
  induction hn : l.length using Nat.strongRecOn generalizing l a with
  | _ n ih =>
    by_cases hne : l = []
    · subst hne; rfl
    · have hw := decodeL_width l
      have hl : 0 < l.length := List.length_pos_iff.2 hne
      rw [validD_step l hne] at h
      split at h
      · cases h
      · rename_i hb
        have e1 : nextN 3 l = (decodeL l).2 := by simp [nextN]
        have e2 : nextR 3 l = (decodeL l).1 := by simp [nextR]
        have := ih (l.drop (decodeL l).2).length (by rw [List.length_drop]; omega) _ (a + (decodeL l).2) h rfl
        rw [dec_step 3 l a hne, if_pos (by unfold nextOk; rw [if_pos rfl, decide_eq_false (show ¬ bad l from hb)]; rfl), e1, e2, this, encode_decode l hne hb]
        simp

theorem marked_split (l : L8) (h : marked l = true) : l = encodeRune 65279 ++ l.drop 3 := by
  unfold marked at h
  match l, h with
  | [], h => simp at h
  | [_], h => simp at h
  | [_, _], h => simp at h
  | x :: y :: z :: t, h =>
    simp [List.getD] at h
    obtain ⟨⟨rfl, rfl⟩, rfl⟩ := h
    rw [show encodeRune 65279 = [239, 187, 191] by decide]
    rfl

theorem marked_valid (l : L8) (h : marked l = true) : validD (l.drop 3) = validD l := by
  conv => rhs; rw [marked_split l h]
  rw [valid_cons 65279 ⟨by decide, Or.inr ⟨by decide, by decide⟩⟩]

theorem valid_start (k : Int) (l : L8) (h : validD l = true) : validD (l.drop (start k l)) = true := by
  unfold start
  split
  · rename_i hm; rw [marked_valid l hm.2]; exact h
  · simpa using h

/-- Detected, it has no damage, unless it is marked. -/
theorem det_clean (l : L8) (h : marked l = false) : (decR (detR l) l).2 = [] := by
  unfold decR
  split
  · rfl
  · have hs : start (detR l) l = 0 := by unfold start; rw [h]; simp
    rw [hs, List.drop_zero]
    unfold detR
    rw [h]
    simp only [Bool.false_eq_true, if_false]
    split
    · rename_i hp; exact dec_plain l _ hp
    · split
      · rename_i hv; rw [dec_same l _ hv]
      · exact dec_latin l _

theorem detR_bd (l : L8) : 1 ≤ detR l ∧ detR l ≤ 3 := by
  unfold detR
  repeat' split
  all_goals omega

/-! ### Encoded, then decoded -/

theorem dec_bytes (k : Int) (hk : k = 1 ∨ k = 2) : ∀ (rs : List Int) (a : Int), (∀ r ∈ rs, 0 ≤ r ∧ r ≤ most k) → dec k (rs.map byteOf) a = (textOf rs, [])
  | [], a, _ => rfl
  | r :: rs, a, h => by
    have hr := h r (by simp)
    have hb : (byteOf r).toNat = r.toNat := by
      unfold byteOf; unfold most at hr
      rw [UInt8.toNat_ofNat']
      rcases hk with rfl | rfl <;> simp at hr <;> omega
    have hk3 : k ≠ 3 := by rcases hk with rfl | rfl <;> decide
    have e1 : nextN k ((r :: rs).map byteOf) = 1 := by simp [nextN, hk3]
    have e2 : nextR k ((r :: rs).map byteOf) = r := by
      simp [nextR, hk3, List.getD, hb]; omega
    have e3 : nextOk k ((r :: rs).map byteOf) = true := by
      rcases hk with rfl | rfl
      · simp [nextOk, List.getD, hb]; simp [most] at hr; omega
      · simp [nextOk]
    rw [dec_step k _ a (by simp), if_pos e3, e1, e2]
    have ih := dec_bytes k hk rs (a + (1 : Nat)) (fun x hx => h x (by simp [hx]))
    simp only [List.map_cons, List.drop_succ_cons, List.drop_zero]
    rw [ih]
    simp [textOf]

theorem runes_nonneg (l : L8) : ∀ r ∈ runesL l, 0 ≤ r ∧ r ≤ 1114111 := by
  induction hn : l.length using Nat.strongRecOn generalizing l with
  | _ n ih =>
    by_cases hne : l = []
    · subst hne; simp [runesL_nil]
    · have hw := decodeL_width l
      have hl : 0 < l.length := List.length_pos_iff.2 hne
      rw [runesL_step l hne]
      intro r hr
      rcases List.mem_cons.1 hr with rfl | hr
      · have := decode_rune l; omega
      · exact ih (l.drop (decodeL l).2).length (by rw [List.length_drop]; omega) _ rfl r hr

theorem fits_utf8 (l : L8) : fits 3 l = true := by
  unfold fits
  rw [List.all_eq_true]
  intro r hr
  have := runes_nonneg l r hr
  simp [most]; omega

/-- The text that comes back: without the mark. -/
def backL (k : Int) (l : L8) : L8 := if k = 3 ∧ marked l = true then l.drop 3 else l

theorem enc_dec (k : Int) (hk : 1 ≤ k ∧ k ≤ 3) (l : L8) (h : encE k l = 0) : decE k (encOut k l) = 0 ∧ decR k (encOut k l) = (backL k l, []) := by
  unfold encE at h
  have ho : okKind k = true := by unfold okKind; simp; exact hk
  rw [ho] at h
  simp only [Bool.true_eq_false, if_false] at h
  split at h
  · cases h
  rename_i hv
  have hv : validD l = true := by simpa using hv
  split at h
  · cases h
  rename_i hf
  have hf : fits k l = true := by simpa using hf
  split at h
  · cases h
  rename_i hlen
  refine ⟨by unfold decE; rw [if_neg (by omega), if_neg hlen], ?_⟩
  unfold decR
  rw [if_neg (by omega)]
  by_cases h3 : k = 3
  · subst h3
    have e1 : encOut 3 l = l := by simp [encOut]
    rw [e1, dec_same _ _ (valid_start 3 l hv)]
    unfold start backL
    split <;> rfl
  · have hk2 : k = 1 ∨ k = 2 := by omega
    have e0 : start k (encOut k l) = 0 := by unfold start; rw [if_neg (by rintro ⟨h, _⟩; exact h3 h)]
    have e1 : encOut k l = (runesL l).map byteOf := by unfold encOut; rw [if_neg h3]
    rw [e0, List.drop_zero, e1]
    rw [dec_bytes k hk2 (runesL l)]
    · have := valid_mend l hv
      unfold mend at this
      rw [this]
      unfold backL; rw [if_neg (by rintro ⟨h, _⟩; exact h3 h)]
    · intro r hr
      have h1 := runes_nonneg l r hr
      unfold fits at hf
      rw [List.all_eq_true] at hf
      have := hf r hr
      simp at this
      exact ⟨h1.1, this⟩

end Go.Proofs.YtmnoiknpamfmoaaDoor.CS
