/- Texts W4, joined: walks and laws for the versions. -/
import Derived.Lib.AtoiTie
import Derived.Lib.ItoaLen
import Derived.Lib.Join
import Derived.Test.YtihbpggbpapcfaaGreatDoorM11
namespace Go.Proofs.YtihbpggbpapcfaaGreatDoor
open Go.RowKit

abbrev Ver := Int × Int × List Chg
def lnT (ws : List L8) : L8 := Lib.join ws [32] ++ [10]
def lineW (s : Ses) : List L8 := [[83], Lib.itoa s.2.1, Lib.itoa s.2.2.1, Lib.itoa s.2.2.2.1, Lib.itoa s.2.2.2.2.1, if s.2.2.2.2.2 = [] then [45] else s.2.2.2.2.2]
def lineT (s : Ses) : L8 := lnT (lineW s)
def chgW (c : Chg) : List L8 := [[67], c.1, Lib.itoa c.2.1.length, Lib.itoa c.2.2.length]
def chgT (c : Chg) : L8 := lnT (chgW c) ++ (c.2.1.flatMap lineT ++ c.2.2.flatMap lineT)
def verW (v : Ver) : List L8 := [[86], Lib.itoa v.1, Lib.itoa v.2.1, Lib.itoa v.2.2.length]
def verT (v : Ver) : L8 := lnT (verW v) ++ v.2.2.flatMap chgT

def crcS (c : Nat) : Nat := if c % 2 = 1 then (c / 2) ^^^ 3988292384 else c / 2
def crcK : Nat → Nat → Nat
  | 0, c => c
  | k + 1, c => crcS (crcK k c)
def crcL (c : Nat) (b : L8) : Nat := b.foldl (fun c x => crcK 8 (c ^^^ x.toNat)) c
def crcN (b : L8) : Nat := 4294967295 - crcL 4294967295 b
def hexD (d : Nat) : UInt8 := if d < 10 then UInt8.ofNat (48 + d) else UInt8.ofNat (87 + d)
def hexK : Nat → Nat → L8
  | 0, _ => []
  | k + 1, n => hexK k (n / 16) ++ [hexD (n % 16)]
def endT (b : L8) : L8 := lnT [[69], hexK 8 (crcN b)]
def encV (v : Ver) : L8 := verT v ++ endT (verT v)
def ownB (l : List Ses) (c : L8) : Bool := l.all (fun s => decide (s.1 = c)) && decide (vldS l 20 = 0)
def chgOk (c : Chg) : Bool := codeOk c.1 && ownB c.2.1 c.1 && ownB c.2.2 c.1
def frmV (v : Ver) : Bool := decide (1 ≤ v.1 ∧ v.1 ≤ 64 ∧ 1 ≤ v.2.1 ∧ v.2.1 ≤ 20 ∧ v.2.2 ≠ []) && ordC none v.2.2 && v.2.2.all chgOk

theorem crcS_lt {c : Nat} (h : c < 4294967296) : crcS c < 4294967296 := by
  unfold crcS
  split
  · exact Nat.xor_lt_two_pow (n := 32) (by omega) (by decide)
  · omega
theorem crcS_bit {c : Nat} (h : c < 4294967296) : (crcS c).testBit 31 = decide (c % 2 = 1) := by
  have hz : (c / 2).testBit 31 = false := Nat.testBit_lt_two_pow (by omega)
  unfold crcS
  split
  · next h1 => rw [Nat.testBit_xor, hz, decide_eq_true h1]; decide
  · next h1 => rw [hz, decide_eq_false h1]
theorem crcS_inj {c d : Nat} (hc : c < 4294967296) (hd : d < 4294967296) (h : crcS c = crcS d) : c = d := by
  have b1 := crcS_bit hc
  have b2 := crcS_bit hd
  rw [h, b2] at b1
  unfold crcS at h
  by_cases h1 : c % 2 = 1
  · have h2 : d % 2 = 1 := by rw [decide_eq_true h1] at b1; exact of_decide_eq_true b1
    rw [if_pos h1, if_pos h2] at h
    have : c / 2 = d / 2 := by
      have := congrArg (· ^^^ 3988292384) h
      simpa [Nat.xor_assoc] using this
    omega
  · have h2 : ¬ d % 2 = 1 := by rw [decide_eq_false h1] at b1; exact of_decide_eq_false b1
    rw [if_neg h1, if_neg h2] at h
    omega
theorem crcK_lt : ∀ (k : Nat) {c : Nat}, c < 4294967296 → crcK k c < 4294967296
  | 0, _, h => h
  | k + 1, _, h => crcS_lt (crcK_lt k h)
theorem crcK_inj : ∀ (k : Nat) {c d : Nat}, c < 4294967296 → d < 4294967296 → crcK k c = crcK k d → c = d
  | 0, _, _, _, _, h => h
  | k + 1, _, _, hc, hd, h => crcK_inj k hc hd (crcS_inj (crcK_lt k hc) (crcK_lt k hd) h)
theorem xor_lt {c : Nat} (h : c < 4294967296) (x : UInt8) : c ^^^ x.toNat < 4294967296 := Nat.xor_lt_two_pow (n := 32) (by omega) (by have := x.toNat_lt; omega)
theorem xor_cancel {a b c : Nat} (h : a ^^^ c = b ^^^ c) : a = b := by
  have := congrArg (· ^^^ c) h
  simpa [Nat.xor_assoc] using this
theorem crcL_lt : ∀ (b : L8) {c : Nat}, c < 4294967296 → crcL c b < 4294967296
  | [], _, h => h
  | x :: b, _, h => crcL_lt b (crcK_lt 8 (xor_lt h x))
theorem crcL_inj : ∀ (b : L8) {c d : Nat}, c < 4294967296 → d < 4294967296 → crcL c b = crcL d b → c = d
  | [], _, _, _, _, h => h
  | x :: b, c, d, hc, hd, h => by
    have h1 := crcL_inj b (crcK_lt 8 (xor_lt hc x)) (crcK_lt 8 (xor_lt hd x)) h
    exact xor_cancel (crcK_inj 8 (xor_lt hc x) (xor_lt hd x) h1)
theorem crc_flip {p q : L8} {x y : UInt8} (hxy : x ≠ y) : crcN (p ++ x :: q) ≠ crcN (p ++ y :: q) := by
  intro h
  have h1 : crcL 4294967295 (p ++ x :: q) = crcL 4294967295 (p ++ y :: q) := by
    have a := crcL_lt (p ++ x :: q) (c := 4294967295) (by decide)
    have b := crcL_lt (p ++ y :: q) (c := 4294967295) (by decide)
    unfold crcN at h; omega
  unfold crcL at h1
  rw [List.foldl_append, List.foldl_append, List.foldl_cons, List.foldl_cons] at h1
  have hp := crcL_lt p (c := 4294967295) (by decide)
  unfold crcL at hp
  generalize List.foldl (fun c (x : UInt8) => crcK 8 (c ^^^ x.toNat)) 4294967295 p = c at *
  have h2 := crcL_inj q (crcK_lt 8 (xor_lt hp x)) (crcK_lt 8 (xor_lt hp y)) h1
  have h3 := crcK_inj 8 (xor_lt hp x) (xor_lt hp y) h2
  apply hxy
  rw [Nat.xor_comm c, Nat.xor_comm c] at h3
  exact UInt8.toNat_inj.1 (xor_cancel h3)
theorem crcN_lt (b : L8) : crcN b < 4294967296 := by unfold crcN; omega
theorem hexD_inj {a b : Nat} (ha : a < 16) (hb : b < 16) (h : hexD a = hexD b) : a = b := by
  have h' := congrArg UInt8.toNat h
  unfold hexD at h'
  split at h' <;> split at h' <;> simp only [UInt8.toNat_ofNat'] at h' <;> omega
theorem hexK_len : ∀ k n, (hexK k n).length = k
  | 0, _ => rfl
  | k + 1, n => by rw [hexK, List.length_append, hexK_len]; rfl
theorem hexK_inj : ∀ (k : Nat) {a b : Nat}, a < 16 ^ k → b < 16 ^ k → hexK k a = hexK k b → a = b
  | 0, a, b, ha, hb, _ => by simp at ha hb; omega
  | k + 1, a, b, ha, hb, h => by
    rw [hexK, hexK] at h
    obtain ⟨h1, h2⟩ := List.append_inj h (by rw [hexK_len, hexK_len])
    have e1 := hexK_inj k (a := a / 16) (b := b / 16) (by rw [Nat.pow_succ] at ha; omega) (by rw [Nat.pow_succ] at hb; omega) h1
    have e2 := hexD_inj (a := a % 16) (b := b % 16) (by omega) (by omega) (by simpa using h2)
    omega
theorem hexD_sign (d : Nat) (h : d < 16) : hexD d ≠ 32 ∧ hexD d ≠ 10 := by
  have : ∀ d : Fin 16, hexD d.val ≠ 32 ∧ hexD d.val ≠ 10 := by decide
  exact this ⟨d, h⟩
theorem hexK_sign : ∀ (k n : Nat), ∀ c ∈ hexK k n, c ≠ 32 ∧ c ≠ 10
  | 0, _, c, h => by simp [hexK] at h
  | k + 1, n, c, h => by
    rw [hexK, List.mem_append, List.mem_singleton] at h
    rcases h with h | rfl
    · exact hexK_sign k _ c h
    · exact hexD_sign _ (by omega)
theorem dec_sign : ∀ (n : Nat), ∀ c ∈ Lib.decDigits n, 48 ≤ c.toNat ∧ c.toNat ≤ 57 := by
  intro n
  induction n using Nat.strongRecOn with
  | ind n ih =>
    intro c hc
    rw [Lib.decDigits] at hc
    split at hc
    · rw [List.mem_singleton] at hc; subst hc; rw [UInt8.toNat_ofNat']; omega
    · rw [List.mem_append, List.mem_singleton] at hc
      rcases hc with hc | rfl
      · exact ih _ (by omega) c hc
      · rw [UInt8.toNat_ofNat']; omega

def Wrd (l : L8) : Prop := ∀ c ∈ l, c ≠ 32 ∧ c ≠ 10
theorem wrd_dec (n : Int) (h : 0 ≤ n) : Wrd (Lib.itoa n) := by
  intro c hc
  unfold Lib.itoa at hc
  rw [if_neg (by omega)] at hc
  have := dec_sign _ c hc
  constructor <;> rintro rfl <;> simp at this
theorem wrd_code {l : L8} (h : codeOk l = true) : Wrd l := by
  obtain ⟨_, _, h3⟩ := codeOk_of h
  intro c hc
  obtain ⟨m, hm, rfl⟩ := List.getElem_of_mem hc
  have := h3 m hm
  rw [List.getD_eq_getElem?_getD, List.getElem?_eq_getElem hm, Option.getD_some] at this
  constructor
  · intro e; rw [e] at this; simp [okAt, digI, ltrI] at this
  · intro e; rw [e] at this; simp [okAt, digI, ltrI] at this
theorem code_dash : codeOk [45] = false := by
  apply codeOk_no
  refine Or.inr (Or.inr ⟨0, by decide, ?_⟩)
  decide
theorem join_two (x y : L8) (r : List L8) : Lib.join (x :: y :: r) [32] = x ++ 32 :: Lib.join (y :: r) [32] := by
  rw [Lib.join_cons, Lib.join_cons]
  simp [Lib.joinTail]
theorem count_wrd {l : L8} (h : Wrd l) : l.count 32 = 0 := List.count_eq_zero.2 (fun hm => (h _ hm).1 rfl)
theorem join_count : ∀ (x : L8) (r : List L8), Wrd x → (∀ w ∈ r, Wrd w) → (Lib.join (x :: r) [32]).count 32 = r.length
  | x, [], hx, _ => by rw [Lib.join_one, count_wrd hx]; rfl
  | x, y :: r, hx, hr => by
    rw [join_two, List.count_append, count_wrd hx, List.count_cons_self, join_count y r (hr y List.mem_cons_self) (fun w hw => hr w (List.mem_cons_of_mem _ hw))]
    simp
theorem join_nl : ∀ (x : L8) (r : List L8), Wrd x → (∀ w ∈ r, Wrd w) → (10 : UInt8) ∉ Lib.join (x :: r) [32]
  | x, [], hx, _ => by rw [Lib.join_one]; exact fun h => (hx _ h).2 rfl
  | x, y :: r, hx, hr => by
    rw [join_two, List.mem_append, List.mem_cons]
    rintro (h | h | h)
    · exact (hx _ h).2 rfl
    · cases h
    · exact join_nl y r (hr y List.mem_cons_self) (fun w hw => hr w (List.mem_cons_of_mem _ hw)) h
theorem join_head (c : UInt8) (r : List L8) : (Lib.join ([c] :: r) [32]).head? = some c := by
  rw [Lib.join_cons]; rfl
def lns (ls : List L8) : L8 := ls.flatMap (· ++ [10])
theorem lns_cons (l : L8) (r : List L8) : lns (l :: r) = l ++ 10 :: lns r := by simp [lns]
theorem lns_app (a b : List L8) : lns (a ++ b) = lns a ++ lns b := by simp [lns]
def okI (l : L8) : Prop := (10 : UInt8) ∉ l ∧ (((l.head? = some 86 ∨ l.head? = some 67) ∧ l.count 32 = 3) ∨ (l.head? = some 83 ∧ l.count 32 = 5))
def okE (l : L8) : Prop := (10 : UInt8) ∉ l ∧ l.head? = some 69 ∧ l.count 32 = 1 ∧ l.length = 10
def Shp : List L8 → Prop
  | [] => False
  | l :: r => (r = [] ∧ okE l) ∨ (okI l ∧ Shp r)
theorem ok_not {l : L8} (h : okI l) (h2 : okE l) : False := by
  rcases h.2 with ⟨h1 | h1, _⟩ | ⟨h1, _⟩ <;> rw [h2.2.1] at h1 <;> cases h1
theorem shp_first {l : L8} {r : List L8} (h : Shp (l :: r)) : (10 : UInt8) ∉ l := by
  rcases h with ⟨_, h⟩ | ⟨h, _⟩ <;> exact h.1
theorem nl_inj : ∀ {l m s t : L8}, (10 : UInt8) ∉ l → (10 : UInt8) ∉ m → l ++ 10 :: s = m ++ 10 :: t → l = m ∧ s = t
  | [], [], _, _, _, _, h => by simpa using h
  | [], c :: m, _, _, _, hm, h => by
    simp only [List.nil_append, List.cons_append, List.cons.injEq] at h
    exact absurd (by rw [h.1]; exact List.mem_cons_self) hm
  | c :: l, [], _, _, hl, _, h => by
    simp only [List.nil_append, List.cons_append, List.cons.injEq] at h
    exact absurd (by rw [h.1]; exact List.mem_cons_self) hl
  | c :: l, d :: m, s, t, hl, hm, h => by
    simp only [List.cons_append, List.cons.injEq] at h
    obtain ⟨h1, h2⟩ := nl_inj (fun hx => hl (List.mem_cons_of_mem _ hx)) (fun hx => hm (List.mem_cons_of_mem _ hx)) h.2
    exact ⟨by rw [h.1, h1], h2⟩
theorem shp_same : ∀ {ls ls' : List L8} {u t : L8}, Shp ls → Shp ls' → lns ls' ++ u = lns ls ++ t → ls' = ls ∧ u = t
  | [], _, _, _, h, _, _ => h.elim
  | _ :: _, [], _, _, _, h, _ => h.elim
  | l :: r, l' :: r', u, t, h, h', e => by
    rw [lns_cons, lns_cons, List.append_assoc, List.append_assoc, List.cons_append, List.cons_append] at e
    obtain ⟨rfl, e2⟩ := nl_inj (shp_first h') (shp_first h) e
    rcases h with ⟨rfl, h⟩ | ⟨h, hr⟩ <;> rcases h' with ⟨rfl, h'⟩ | ⟨h', hr'⟩
    · exact ⟨rfl, by simpa [lns] using e2⟩
    · exact (ok_not h' h).elim
    · exact (ok_not h h').elim
    · obtain ⟨e3, e4⟩ := shp_same hr hr' e2
      exact ⟨by rw [e3], e4⟩
theorem head_app {a b : L8} {c : UInt8} (h : (a ++ b).head? = some c) (ha : a ≠ []) : a.head? = some c := by
  cases a with
  | nil => exact absurd rfl ha
  | cons x a => simpa using h
theorem one_change (a b : L8) (x y : UInt8) : (a ++ x :: b).count 32 ≤ (a ++ y :: b).count 32 + 1 := by
  rw [List.count_append, List.count_append, List.count_cons, List.count_cons]
  split <;> split <;> omega
theorem okI_pos {l : L8} (h : okI l) : 3 ≤ l.count 32 := by rcases h.2 with ⟨_, h⟩ | ⟨_, h⟩ <;> omega
theorem okI_same {a b : L8} (ha : okI a) (hb : okI b) (h : a.head? = b.head?) : a.count 32 = b.count 32 := by
  rcases ha.2 with ⟨h1, h2⟩ | ⟨h1, h2⟩ <;> rcases hb.2 with ⟨h3, h4⟩ | ⟨h3, h4⟩
  · omega
  · rw [h, h3] at h1; rcases h1 with h1 | h1 <;> cases h1
  · rw [← h, h1] at h3; rcases h3 with h3 | h3 <;> cases h3
  · omega
theorem okI_ne {a : L8} (h : okI a) : a ≠ [] := by rintro rfl; rcases h.2 with ⟨h1 | h1, _⟩ | ⟨h1, _⟩ <;> cases h1
theorem okE_ne {a : L8} (h : okE a) : a ≠ [] := by rintro rfl; cases h.2.1
theorem head_more {a b : L8} (h : a ≠ []) : (a ++ b).head? = a.head? := by
  cases a with
  | nil => exact absurd rfl h
  | cons c a => rfl
theorem head_okI {a : L8} (h : okI a) (h2 : a.head? = some 69) : False := by
  rcases h.2 with ⟨h1 | h1, _⟩ | ⟨h1, _⟩ <;> rw [h2] at h1 <;> cases h1
theorem shp_pos {m : L8} {r : List L8} (h : Shp (m :: r)) : 1 ≤ m.count 32 := by
  rcases h with ⟨_, h⟩ | ⟨h, _⟩
  · have := h.2.2.1; omega
  · have := okI_pos h; omega
theorem shp_end {l l' u t : L8} {r r' : List L8} {x : UInt8} (h : Shp (l :: r)) (h' : Shp (l' :: r')) (hx : x ≠ 10) (e : l' ++ 10 :: (lns r' ++ u) = l ++ x :: (lns r ++ t)) : False := by
  have hl10 := shp_first h
  have hl10' := shp_first h'
  rcases List.append_eq_append_iff.1 e with ⟨a, rfl, ha⟩ | ⟨a, rfl, ha⟩
  · cases a with
    | nil => simp only [List.nil_append, List.cons.injEq] at ha; exact hx ha.1.symm
    | cons c a =>
      simp only [List.cons_append, List.cons.injEq] at ha
      exact hl10 (List.mem_append.2 (Or.inr (by rw [ha.1]; exact List.mem_cons_self)))
  · cases a with
    | nil => simp only [List.nil_append, List.cons.injEq] at ha; exact hx ha.1
    | cons c a =>
      simp only [List.cons_append, List.cons.injEq] at ha
      obtain ⟨rfl, ha⟩ := ha
      rcases h with ⟨rfl, h⟩ | ⟨h, hr⟩
      · have hh : (l ++ x :: a).head? = some 69 := by rw [head_more (okE_ne h)]; exact h.2.1
        rcases h' with ⟨rfl, h'⟩ | ⟨h', _⟩
        · have h1 := h.2.2.2
          have h2 := h'.2.2.2
          rw [List.length_append, List.length_cons] at h2; omega
        · exact head_okI h' hh
      · have hhd : (l ++ x :: a).head? = l.head? := head_more (okI_ne h)
        rcases h' with ⟨_, h'⟩ | ⟨h', _⟩
        · have h1 := h'.2.1
          rw [hhd] at h1
          exact head_okI h h1
        · have hc := okI_same h' h hhd
          cases r with
          | nil => exact hr
          | cons m r2 =>
            rw [lns_cons, List.append_assoc, List.cons_append] at ha
            have ha10 : (10 : UInt8) ∉ a := fun hm => hl10' (List.mem_append.2 (Or.inr (List.mem_cons_of_mem _ hm)))
            obtain ⟨rfl, _⟩ := nl_inj (shp_first hr) ha10 ha
            have := shp_pos hr
            rw [List.count_append, List.count_cons] at hc
            omega
theorem shp_flip : ∀ {ls ls' : List L8} {p q u t : L8} {x y : UInt8}, Shp ls → Shp ls' → lns ls = p ++ y :: q → x ≠ y → lns ls' ++ u = p ++ x :: (q ++ t) → (lns ls').length = (lns ls).length
  | [], _, _, _, _, _, _, _, h, _, _, _, _ => h.elim
  | _ :: _, [], _, _, _, _, _, _, _, h, _, _, _ => h.elim
  | l :: r, l' :: r', p, q, u, t, x, y, h, h', e, hxy, e' => by
    rw [lns_cons] at e
    rw [lns_cons, List.append_assoc, List.cons_append] at e'
    rcases List.append_eq_append_iff.1 e with ⟨a, hp, ha⟩ | ⟨a, hp, ha⟩
    · -- the line ends ahead of the change, or at it
      cases a with
      | nil =>
        simp only [List.nil_append, List.append_nil, List.cons.injEq] at ha hp
        obtain ⟨rfl, rfl⟩ := ha
        subst hp
        exact (shp_end h h' hxy e').elim
      | cons c a =>
        simp only [List.cons_append, List.cons.injEq] at ha
        obtain ⟨rfl, ha⟩ := ha
        subst hp
        rw [List.append_assoc, List.cons_append] at e'
        obtain ⟨rfl, e2⟩ := nl_inj (shp_first h') (shp_first h) e'
        rcases h with ⟨rfl, h⟩ | ⟨h, hr⟩
        · simp [lns] at ha
        · rcases h' with ⟨rfl, h'⟩ | ⟨h', hr'⟩
          · exact (ok_not h h').elim
          · have ih := shp_flip hr hr' ha hxy e2
            rw [lns_cons, lns_cons, List.length_append, List.length_append, List.length_cons, List.length_cons, ih]
    · -- the change lies in the line, or at its end
      cases a with
      | nil =>
        simp only [List.nil_append, List.append_nil, List.cons.injEq] at ha hp
        obtain ⟨rfl, rfl⟩ := ha
        subst hp
        exact (shp_end h h' hxy e').elim
      | cons c a =>
        simp only [List.cons_append, List.cons.injEq] at ha
        obtain ⟨rfl, rfl⟩ := ha
        subst hp
        have hl10 := shp_first h
        have hl10' := shp_first h'
        rw [List.append_assoc, List.cons_append] at e'
        by_cases hx : x = 10
        · -- a new end of a line
          subst hx
          exfalso
          have hp10 : (10 : UInt8) ∉ p := fun hm => hl10 (List.mem_append.2 (Or.inl hm))
          obtain ⟨rfl, e2⟩ := nl_inj hl10' hp10 e'
          rcases h with ⟨rfl, h⟩ | ⟨h, hr⟩
          · rcases h' with ⟨rfl, h'⟩ | ⟨h', _⟩
            · have h1 := h.2.2.2
              have h2 := h'.2.2.2
              rw [List.length_append, List.length_cons] at h1; omega
            · exact head_okI h' (head_app h.2.1 (okI_ne h'))
          · rcases h' with ⟨_, h'⟩ | ⟨h', hr'⟩
            · refine head_okI h ?_
              rw [head_more (okE_ne h')]; exact h'.2.1
            · have hc := okI_same h h' (head_more (okI_ne h'))
              rw [List.count_append, List.count_cons] at hc
              cases r' with
              | nil => exact hr'
              | cons m r2 =>
                rw [lns_cons, List.append_assoc, List.cons_append] at e2
                have ha10 : (10 : UInt8) ∉ a := fun hm => hl10 (List.mem_append.2 (Or.inr (List.mem_cons_of_mem _ hm)))
                obtain ⟨rfl, _⟩ := nl_inj (shp_first hr') ha10 e2
                have := shp_pos hr'
                omega
        · -- the line is as long as it was
          have hn10 : (10 : UInt8) ∉ p ++ x :: a := by
            intro hm
            rcases List.mem_append.1 hm with hm | hm
            · exact hl10 (List.mem_append.2 (Or.inl hm))
            · rcases List.mem_cons.1 hm with hm | hm
              · exact hx hm.symm
              · exact hl10 (List.mem_append.2 (Or.inr (List.mem_cons_of_mem _ hm)))
          obtain ⟨rfl, e2⟩ := nl_inj (s := lns r' ++ u) (t := lns r ++ t) hl10' hn10 (by rw [e']; simp)
          have c1 := one_change p a x y
          have c2 := one_change p a y x
          rcases h with ⟨rfl, h⟩ | ⟨h, hr⟩
          · rcases h' with ⟨rfl, h'⟩ | ⟨h', _⟩
            · simp [lns]
            · have := okI_pos h'
              have := h.2.2.1
              omega
          · rcases h' with ⟨_, h'⟩ | ⟨h', hr'⟩
            · have := okI_pos h
              have := h'.2.2.1
              omega
            · obtain ⟨rfl, _⟩ := shp_same hr hr' e2
              rw [lns_cons, lns_cons]; simp
end Go.Proofs.YtihbpggbpapcfaaGreatDoor
