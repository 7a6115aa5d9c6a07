/- Texts W5, W6, W7, W8, V26, V27, V29, V30, V31, V32, joined: walks and laws. -/
import Derived.Outline
import Derived.Test.YtcifdllbnbhcdaaGreatDoorMV04
namespace Go.Proofs.YtcifdllbnbhcdaaGreatDoor
open Go.RowKit
theorem own_parts {l : List Ses} {c : L8} (h : ownB l c = true) : (∀ s ∈ l, s.1 = c) ∧ vldS l 20 = 0 := by
  unfold ownB at h
  rw [Bool.and_eq_true, List.all_eq_true] at h
  exact ⟨fun s hs => of_decide_eq_true (h.1 s hs), of_decide_eq_true h.2⟩
theorem chgOk_parts {c : Chg} (h : chgOk c = true) : codeOk c.1 = true ∧ ((∀ s ∈ c.2.1, s.1 = c.1) ∧ vldS c.2.1 20 = 0) ∧ ((∀ s ∈ c.2.2, s.1 = c.1) ∧ vldS c.2.2 20 = 0) := by
  unfold chgOk at h
  rw [Bool.and_eq_true, Bool.and_eq_true] at h
  exact ⟨h.1.1, own_parts h.1.2, own_parts h.2⟩
theorem frm_parts {v : Ver} (h : frmV v = true) : (1 ≤ v.1 ∧ v.1 ≤ 64 ∧ 1 ≤ v.2.1 ∧ v.2.1 ≤ 20 ∧ v.2.2 ≠ []) ∧ ordC none v.2.2 = true ∧ ∀ c ∈ v.2.2, chgOk c = true := by
  unfold frmV at h
  rw [Bool.and_eq_true, Bool.and_eq_true, List.all_eq_true] at h
  exact ⟨of_decide_eq_true h.1.1, h.1.2, h.2⟩
theorem chk_parts {s : Ses} {n : Int} (h : chkS s n = 0) : codeOk s.1 = true ∧ (1 ≤ s.2.1 ∧ s.2.1 < 1048576) ∧ (0 ≤ s.2.2.1 ∧ s.2.2.1 ≤ 6) ∧ (0 ≤ s.2.2.2.1 ∧ s.2.2.2.1 ≤ 23) ∧ (1 ≤ s.2.2.2.2.1 ∧ s.2.2.2.1 + s.2.2.2.2.1 ≤ 24) ∧ (s.2.2.2.2.2 = [] ∨ codeOk s.2.2.2.2.2 = true) := by
  obtain ⟨h1, h2, _, h4⟩ := chk_week h
  have h5 := h2
  unfold sndB at h5
  rw [Bool.and_eq_true] at h5
  have h6 := of_decide_eq_true h5.2
  have h7 : 1 ≤ s.2.1 ∧ s.2.1 < 1048576 := by rw [wsB_20] at h4; exact of_decide_eq_true h4
  refine ⟨h1, h7, ⟨h6.1, h6.2.1⟩, ⟨h6.2.2.1, h6.2.2.2.1⟩, ⟨h6.2.2.2.2.1, h6.2.2.2.2.2⟩, ?_⟩
  unfold chkS chkE at h
  split at h
  · cases h
  split at h
  · cases h
  split at h
  · cases h
  next h8 =>
  by_cases hr : s.2.2.2.2.2 = []
  · exact Or.inl hr
  · refine Or.inr ?_
    cases hc : codeOk s.2.2.2.2.2
    · exact absurd (by rw [hc, decide_eq_true hr]; rfl) h8
    · rfl
theorem line_words {s : Ses} (h : chkS s 20 = 0) : ∀ w ∈ lineW s, Wrd w := by
  obtain ⟨_, h2, h3, h4, h5, h6⟩ := chk_parts h
  intro w hw
  unfold lineW at hw
  simp only [List.mem_cons, List.not_mem_nil, or_false] at hw
  rcases hw with rfl | rfl | rfl | rfl | rfl | rfl
  · intro c hc; rw [List.mem_singleton] at hc; subst hc; decide
  · exact wrd_dec _ (by omega)
  · exact wrd_dec _ (by omega)
  · exact wrd_dec _ (by omega)
  · exact wrd_dec _ (by omega)
  · split
    · intro c hc; rw [List.mem_singleton] at hc; subst hc; decide
    · next hne =>
      rcases h6 with h6 | h6
      · exact absurd h6 hne
      · exact wrd_code h6
theorem chg_words {c : Chg} (h : codeOk c.1 = true) : ∀ w ∈ chgW c, Wrd w := by
  intro w hw
  unfold chgW at hw
  simp only [List.mem_cons, List.not_mem_nil, or_false] at hw
  rcases hw with rfl | rfl | rfl | rfl
  · intro c hc; rw [List.mem_singleton] at hc; subst hc; decide
  · exact wrd_code h
  · exact wrd_dec _ (by omega)
  · exact wrd_dec _ (by omega)
theorem ver_words {v : Ver} (h : frmV v = true) : ∀ w ∈ verW v, Wrd w := by
  have hp := (frm_parts h).1
  intro w hw
  unfold verW at hw
  simp only [List.mem_cons, List.not_mem_nil, or_false] at hw
  rcases hw with rfl | rfl | rfl | rfl
  · intro c hc; rw [List.mem_singleton] at hc; subst hc; decide
  · exact wrd_dec _ (by omega)
  · exact wrd_dec _ (by omega)
  · exact wrd_dec _ (by omega)
theorem own_chk {l : List Ses} (h : vldS l 20 = 0) : ∀ s ∈ l, chkS s 20 = 0 := chkL_all (vld_parts h).2.2.1
theorem end_len (b : L8) : (endT b).length = 11 := by
  unfold endT lnT
  rw [join_two, Lib.join_one]
  simp [hexK_len]
end Go.Proofs.YtcifdllbnbhcdaaGreatDoor
namespace Go.Proofs.YtcifdllbnbhcdaaGreatDoor
open Go.RowKit
def ctl : L8 → Option (L8 × L8)
  | [] => none
  | c :: r => if c = 10 then some ([], r) else (ctl r).map fun p => (c :: p.1, p.2)
def spl : L8 → List L8
  | [] => [[]]
  | c :: r => if c = 32 then [] :: spl r else (c :: (spl r).headD []) :: (spl r).tail
def lnP (r word : L8) (n : Nat) : Option (List L8 × L8) :=
  match ctl r with
  | none => none
  | some (l, t) => if (spl l).length = n + 1 ∧ (spl l).headD [] = word then some ((spl l).tail, t) else none
def repP {α : Type} (f : L8 → Option (α × L8)) : Nat → L8 → Option (List α × L8)
  | 0, r => some ([], r)
  | k + 1, r => match f r with
    | none => none
    | some (x, t) => match repP f k t with
      | none => none
      | some (l, q) => some (x :: l, q)
def mkS (cl : L8) (a b c d : Int) (rm : L8) : Ses := (cl, a, b, c, d, if rm = [45] then [] else rm)
def stepS (num : L8 → Option Int) (cl r : L8) : Option (Ses × L8) :=
  match lnP r [83] 5 with
  | none => none
  | some (w, t) => match num (w.getD 0 []), num (w.getD 1 []), num (w.getD 2 []), num (w.getD 3 []) with
    | some a, some b, some c, some d => some (mkS cl a b c d (w.getD 4 []), t)
    | _, _, _, _ => none
def sesP (num : L8 → Option Int) (cl : L8) (n : Int) (r : L8) : Option (List Ses × L8) := repP (stepS num cl) n.toNat r
def stepC (num : L8 → Option Int) (r : L8) : Option (Chg × L8) :=
  match lnP r [67] 3 with
  | none => none
  | some (w, t) => match num (w.getD 1 []) with
    | none => none
    | some a => match sesP num (w.getD 0 []) a t with
      | none => none
      | some (x, t2) => match num (w.getD 2 []) with
        | none => none
        | some b => match sesP num (w.getD 0 []) b t2 with
          | none => none
          | some (y, t3) => some ((w.getD 0 [], x, y), t3)
def headP (num : L8 → Option Int) (r : L8) : Option ((Int × Int × Int) × L8) :=
  match lnP r [86] 3 with
  | none => none
  | some (w, t) => match num (w.getD 0 []), num (w.getD 1 []), num (w.getD 2 []) with
    | some a, some b, some c => some ((a, b, c), t)
    | _, _, _ => none
def verP (num : L8 → Option Int) (ok : Int → Bool) (r : L8) : Option (Ver × L8) :=
  match headP num r with
  | none => none
  | some ((a, b, c), t) => if ok c = false then none else match repP (stepC num) c.toNat t with
    | none => none
    | some (l, q) => some ((a, b, l), q)
def nuP (s : L8) : Option Int := match Lib.atoiAll s with | .ok v => some v | _ => none
def nuR (s : L8) : Int := if s.length ≤ 7 then (match Lib.decNat s with | some n => (n : Int) | none => -1) else -1
theorem ctl_app : ∀ {l : L8} (t : L8), (10 : UInt8) ∉ l → ctl (l ++ 10 :: t) = some (l, t)
  | [], t, _ => by simp [ctl]
  | c :: l, t, h => by
    have h1 : c ≠ 10 := fun e => h (by rw [e]; exact List.mem_cons_self)
    rw [List.cons_append, ctl, if_neg h1, ctl_app t (fun hm => h (List.mem_cons_of_mem _ hm))]
    rfl
theorem ctl_len : ∀ {r l t : L8}, ctl r = some (l, t) → r.length = l.length + 1 + t.length
  | [], _, _, h => by cases h
  | c :: r, l, t, h => by
    unfold ctl at h
    split at h
    · cases h; simp; omega
    · cases hc : ctl r with
      | none => rw [hc] at h; cases h
      | some p =>
        rw [hc] at h
        simp only [Option.map_some, Option.some.injEq, Prod.mk.injEq] at h
        obtain ⟨rfl, rfl⟩ := h
        have := ctl_len (r := r) (l := p.1) (t := p.2) hc
        simp only [List.length_cons]; omega
theorem spl_ne : ∀ l, spl l ≠ []
  | [] => by simp [spl]
  | c :: r => by unfold spl; split <;> simp
theorem spl_wrd : ∀ {w : L8} (t : L8), Wrd w → spl (w ++ 32 :: t) = w :: spl t
  | [], t, _ => by simp [spl]
  | c :: w, t, h => by
    have h1 : c ≠ 32 := (h c List.mem_cons_self).1
    rw [List.cons_append, spl, if_neg h1, spl_wrd t (fun x hx => h x (List.mem_cons_of_mem _ hx))]
    rfl
theorem spl_one : ∀ {w : L8}, Wrd w → spl w = [w]
  | [], _ => rfl
  | c :: w, h => by
    have h1 : c ≠ 32 := (h c List.mem_cons_self).1
    rw [spl, if_neg h1, spl_one (fun x hx => h x (List.mem_cons_of_mem _ hx))]
    rfl
theorem spl_join : ∀ (w : L8) (r : List L8), Wrd w → (∀ x ∈ r, Wrd x) → spl (Lib.join (w :: r) [32]) = w :: r
  | w, [], h, _ => by rw [Lib.join_one]; exact spl_one h
  | w, x :: r, h, hr => by
    rw [join_two, spl_wrd _ h, spl_join x r (hr x List.mem_cons_self) (fun y hy => hr y (List.mem_cons_of_mem _ hy))]
theorem lnP_lnT (w : L8) (r : List L8) (t : L8) (h : ∀ x ∈ w :: r, Wrd x) : lnP (lnT (w :: r) ++ t) w r.length = some (r, t) := by
  have hw := h w List.mem_cons_self
  have hr : ∀ x ∈ r, Wrd x := fun x hx => h x (List.mem_cons_of_mem _ hx)
  unfold lnP lnT
  rw [List.append_assoc, List.singleton_append, ctl_app t (join_nl w r hw hr)]
  simp only [spl_join w r hw hr]
  simp
theorem repP_flat {α : Type} (f : L8 → Option (α × L8)) (g : α → L8) : ∀ (xs : List α) (t : L8), (∀ x ∈ xs, ∀ t, f (g x ++ t) = some (x, t)) → repP f xs.length (xs.flatMap g ++ t) = some (xs, t)
  | [], t, _ => rfl
  | x :: xs, t, h => by
    rw [List.length_cons, List.flatMap_cons, List.append_assoc, repP, h x List.mem_cons_self]
    simp only [repP_flat f g xs t (fun y hy => h y (List.mem_cons_of_mem _ hy))]
def Num (num : L8 → Option Int) : Prop := ∀ n : Int, 0 ≤ n → n < 10000000 → num (Lib.itoa n) = some n
theorem step_line {num : L8 → Option Int} (hn : Num num) {s : Ses} (h : chkS s 20 = 0) (t : L8) : stepS num s.1 (lineT s ++ t) = some (s, t) := by
  obtain ⟨h1, h2, h3, h4, h5, h6⟩ := chk_parts h
  have hl := lnP_lnT [83] [Lib.itoa s.2.1, Lib.itoa s.2.2.1, Lib.itoa s.2.2.2.1, Lib.itoa s.2.2.2.2.1, if s.2.2.2.2.2 = [] then [45] else s.2.2.2.2.2] t (line_words h)
  unfold stepS lineT lineW
  rw [show (5 : Nat) = [Lib.itoa s.2.1, Lib.itoa s.2.2.1, Lib.itoa s.2.2.2.1, Lib.itoa s.2.2.2.2.1, if s.2.2.2.2.2 = [] then [45] else s.2.2.2.2.2].length from rfl, hl]
  simp only [List.getD_cons_zero, List.getD_cons_succ]
  rw [hn _ (by omega) (by omega), hn _ (by omega) (by omega), hn _ (by omega) (by omega), hn _ (by omega) (by omega)]
  simp only [mkS]
  have e : (if (if s.2.2.2.2.2 = [] then ([45] : L8) else s.2.2.2.2.2) = [45] then [] else (if s.2.2.2.2.2 = [] then ([45] : L8) else s.2.2.2.2.2)) = s.2.2.2.2.2 := by
    by_cases hr : s.2.2.2.2.2 = []
    · rw [if_pos hr, if_pos rfl, hr]
    · rw [if_neg hr, if_neg]
      intro he
      rcases h6 with h6 | h6
      · exact hr h6
      · rw [he, code_dash] at h6; cases h6
  rw [e]
theorem ses_lines {num : L8 → Option Int} (hn : Num num) {l : List Ses} {c : L8} (h1 : ∀ s ∈ l, s.1 = c) (h2 : vldS l 20 = 0) (t : L8) : sesP num c (l.length : Int) (l.flatMap lineT ++ t) = some (l, t) := by
  unfold sesP
  rw [show ((l.length : Int)).toNat = l.length by omega]
  refine repP_flat _ _ l t (fun s hs t => ?_)
  rw [← h1 s hs]
  exact step_line hn (own_chk h2 s hs) t
theorem step_chg {num : L8 → Option Int} (hn : Num num) {c : Chg} (h : chgOk c = true) (t : L8) : stepC num (chgT c ++ t) = some (c, t) := by
  obtain ⟨h1, ⟨h2, h3⟩, h4, h5⟩ := chgOk_parts h
  have l1 := (vld_parts h3).2.1
  have l2 := (vld_parts h5).2.1
  have hl := lnP_lnT [67] [c.1, Lib.itoa c.2.1.length, Lib.itoa c.2.2.length] (c.2.1.flatMap lineT ++ (c.2.2.flatMap lineT ++ t)) (chg_words h1)
  unfold stepC chgT chgW
  rw [List.append_assoc, List.append_assoc, show (3 : Nat) = [c.1, Lib.itoa c.2.1.length, Lib.itoa c.2.2.length].length from rfl, hl]
  simp only [List.getD_cons_zero, List.getD_cons_succ]
  rw [hn _ (by omega) (by omega)]
  simp only
  rw [ses_lines hn h2 h3]
  simp only
  rw [hn _ (by omega) (by omega)]
  simp only
  rw [ses_lines hn h4 h5]
theorem ver_read {num : L8 → Option Int} {ok : Int → Bool} (hn : Num num) {v : Ver} (h : frmV v = true) (hlen : v.2.2.length < 10000000) (hok : ok v.2.2.length = true) (t : L8) : verP num ok (encV v ++ t) = some (v, endT (verT v) ++ t) := by
  obtain ⟨hp, _, hc⟩ := frm_parts h
  have hl := lnP_lnT [86] [Lib.itoa v.1, Lib.itoa v.2.1, Lib.itoa v.2.2.length] (v.2.2.flatMap chgT ++ (endT (verT v) ++ t)) (ver_words h)
  have hh : headP num (encV v ++ t) = some ((v.1, v.2.1, (v.2.2.length : Int)), v.2.2.flatMap chgT ++ (endT (verT v) ++ t)) := by
    unfold headP encV verT verW
    rw [List.append_assoc, List.append_assoc, show (3 : Nat) = [Lib.itoa v.1, Lib.itoa v.2.1, Lib.itoa v.2.2.length].length from rfl]
    unfold verT verW at hl
    rw [hl]
    simp only [List.getD_cons_zero, List.getD_cons_succ]
    rw [hn _ (by omega) (by omega), hn _ (by omega) (by omega), hn _ (by omega) (by omega)]
  unfold verP
  rw [hh]
  simp only
  rw [hok, if_neg (by simp), show ((v.2.2.length : Int)).toNat = v.2.2.length by omega, repP_flat _ _ _ _ (fun c hm t => step_chg hn (hc c hm) t)]
theorem decFrom_snoc {b : UInt8} {d : Nat} (hd : Lib.digitVal b = some d) : ∀ (l : L8) (acc m : Nat), Lib.decFrom acc l = some m → Lib.decFrom acc (l ++ [b]) = some (m * 10 + d)
  | [], acc, m, h => by
    simp only [Lib.decFrom, Option.some.injEq] at h; subst h
    simp [Lib.decFrom, hd]
  | x :: l, acc, m, h => by
    rw [List.cons_append]
    unfold Lib.decFrom at h ⊢
    split at h
    · next e => exact decFrom_snoc hd l _ m h
    · cases h
theorem digit_val (d : Nat) (h : d < 10) : Lib.digitVal (UInt8.ofNat (48 + d)) = some d := by
  have : ∀ d : Fin 10, Lib.digitVal (UInt8.ofNat (48 + d.val)) = some d.val := by decide
  exact this ⟨d, h⟩
theorem decFrom_dec (n : Nat) : Lib.decFrom 0 (Lib.decDigits n) = some n := by
  induction n using Nat.strongRecOn with
  | ind n ih =>
    rw [Lib.decDigits]
    split
    · next h =>
      show (match Lib.digitVal (UInt8.ofNat (48 + n)) with | some d => Lib.decFrom (0 * 10 + d) [] | none => none) = some n
      rw [digit_val n h]
      simp [Lib.decFrom]
    · next h =>
      rw [decFrom_snoc (digit_val (n % 10) (by omega)) _ _ _ (ih (n / 10) (by omega))]
      congr 1; omega
theorem dec_ne (n : Nat) : Lib.decDigits n ≠ [] := by
  rw [Lib.decDigits]; split <;> simp
theorem decNat_dec (n : Nat) : Lib.decNat (Lib.decDigits n) = some n := by
  unfold Lib.decNat
  rw [if_neg (by simpa using dec_ne n), decFrom_dec]
theorem nDigits_le : ∀ (k n : Nat), n < 10 ^ (k + 1) → Lib.nDigits n ≤ k + 1
  | 0, n, h => by rw [Lib.nDigits_small (by simpa using h)]; omega
  | k + 1, n, h => by
    by_cases h1 : n < 10
    · rw [Lib.nDigits_small h1]; omega
    · rw [Lib.nDigits_big h1]
      have := nDigits_le k (n / 10) (by rw [Nat.pow_succ] at h; omega)
      omega
theorem itoa_pos {n : Int} (h : 0 ≤ n) : Lib.itoa n = Lib.decDigits n.toNat := by unfold Lib.itoa; rw [if_neg (by omega)]
theorem itoa_len7 {n : Int} (h : 0 ≤ n) (h2 : n < 10000000) : (Lib.itoa n).length ≤ 7 := by
  rw [itoa_pos h, Lib.decDigits_length]; exact nDigits_le 6 _ (by omega)
theorem num_prog : Num nuP := by
  intro n h1 h2
  have hl := itoa_len7 h1 h2
  unfold nuP
  rw [Lib.atoiAll_short _ (by omega)]
  have ha : Lib.atoi (Lib.itoa n) = some n := by
    have hs := dec_sign n.toNat
    have hd := decNat_dec n.toNat
    rw [itoa_pos h1]
    cases hc : Lib.decDigits n.toNat with
    | nil => exact absurd hc (dec_ne _)
    | cons b r =>
      rw [hc] at hs hd
      have hb := hs b List.mem_cons_self
      have h45 : (b == 45) = false := by rw [beq_eq_false_iff_ne]; rintro rfl; simp at hb
      have h43 : (b == 43) = false := by rw [beq_eq_false_iff_ne]; rintro rfl; simp at hb
      unfold Lib.atoi
      simp only [h45, h43, hd, Bool.false_eq_true, if_false, Option.map_some, Option.some.injEq]
      omega
  rw [ha]
  rfl
def decV (b : L8) : Option Ver := match verP nuP (fun _ => true) b with
  | none => none
  | some (v, _) => if frmV v = true ∧ encV v <+: b then some v else none
theorem chg_len (v : Ver) : v.2.2.length ≤ (encV v).length := by
  have h1 : ∀ cs : List Chg, cs.length ≤ (cs.flatMap chgT).length := by
    intro cs
    induction cs with
    | nil => simp
    | cons c cs ih =>
      have : 1 ≤ (chgT c).length := by unfold chgT lnT; simp; omega
      rw [List.flatMap_cons, List.length_append, List.length_cons]; omega
  unfold encV verT
  rw [List.length_append, List.length_append]
  have := h1 v.2.2
  omega
theorem dec_iff (b : L8) (hb : b.length < 10000000) (v : Ver) : decV b = some v ↔ frmV v = true ∧ encV v <+: b := by
  unfold decV
  constructor
  · intro h
    split at h
    · cases h
    · split at h
      · next hc => cases h; exact hc
      · cases h
  · rintro ⟨h1, t, rfl⟩
    have := chg_len v
    rw [List.length_append] at hb
    rw [ver_read num_prog h1 (by omega) rfl]
    simp only
    rw [if_pos ⟨h1, List.prefix_append _ _⟩]
end Go.Proofs.YtcifdllbnbhcdaaGreatDoor
namespace Go.Proofs.YtcifdllbnbhcdaaGreatDoor
open Go.RowKit
section
def decPr {α β : Type} (a : DecidableEq α) (b : DecidableEq β) : DecidableEq (α × β) := inferInstance
def decLs {α : Type} (a : DecidableEq α) : DecidableEq (List α) := inferInstance
def decSes : DecidableEq Ses := inferInstance
def decChg : DecidableEq Chg := decPr inferInstance (decPr (decLs decSes) (decLs decSes))
def decVer : DecidableEq Ver := decPr inferInstance (decPr inferInstance (decLs decChg))
instance (a b : Int × List Ses) : Decidable (a = b) := decPr inferInstance (decLs decSes) a b
instance (a b : List Ver) : Decidable (a = b) := decLs decVer a b
end
abbrev Lg := L8 × Int × List Ver × List Ses
def lgZ : Lg := ([], 0, [], [])
def lastW (vs : List Ver) : Int := match vs.getLast? with | none => 1 | some v => v.2.1
def folV (n : Int) (vs : List Ver) (ss : List Ses) (v : Ver) : Option (List Ses) :=
  if v.1 ≠ vs.length + 1 ∨ n < v.2.1 ∨ v.2.1 < lastW vs then none
  else if (appS n ss v.2.2).1 ≠ 0 then none
  else if spcS n v.2.1 ss (appS n ss v.2.2).2 ≠ (0, (appS n ss v.2.2).2) then none
  else some (appS n ss v.2.2).2
def opnF (n : Int) : Nat → L8 → List Ver → List Ses → List Ver × List Ses × L8
  | 0, b, vs, ss => (vs, ss, b)
  | k + 1, b, vs, ss => match decV b with
    | none => (vs, ss, b)
    | some v => match folV n vs ss v with
      | none => (vs, ss, b)
      | some next => opnF n k (b.drop (encV v).length) (vs ++ [v]) next
def opnL (n : Int) (b : L8) : List Ver × List Ses × L8 := opnF n (b.length + 1) b [] []
def opnS (n : Int) (b : L8) : Int × Lg × Int :=
  if n < 1 ∨ 20 < n then (3, lgZ, 0) else if 1048576 < b.length then (2, lgZ, 0)
  else (0, (b.take (b.length - (opnL n b).2.2.length), ((b.length - (opnL n b).2.2.length : Nat) : Int), (opnL n b).1, (opnL n b).2.1), ((opnL n b).2.2.length : Int))
def vldL (n : Int) (l : Lg) : Bool :=
  decide (0 ≤ l.2.1 ∧ l.2.1 ≤ l.1.length) && decide ((opnS n l.1).1 = 0 ∧ (opnS n l.1).2.2 = 0) && decide ((opnS n l.1).2.1.2.2.1 = l.2.2.1) && decide ((opnS n l.1).2.1.2.2.2 = l.2.2.2)
def nextV (n w : Int) (l : Lg) (next : List Ses) : Ver := ((l.2.2.1.length : Int) + 1, w, (difS n l.2.2.2 next).2)
def pubS (n w : Int) (l : Lg) (next : List Ses) : Int × Lg :=
  if vldL n l = false then (1, lgZ) else if vldS next n ≠ 0 then (vldS next n, lgZ)
  else if w < 1 ∨ n < w ∨ w < lastW l.2.2.1 then (63, lgZ)
  else if spcS n w l.2.2.2 next ≠ (0, next) then (66, lgZ)
  else if (difS n l.2.2.2 next).2 = [] then (16, lgZ)
  else if frmV (nextV n w l next) = false ∨ 1048576 < l.1.length + (encV (nextV n w l next)).length then (67, lgZ)
  else (0, (l.1 ++ encV (nextV n w l next), l.2.1, l.2.2.1 ++ [nextV n w l next], next))
theorem enc_len (v : Ver) : 11 ≤ (encV v).length := by unfold encV; rw [List.length_append, end_len]; omega
end Go.Proofs.YtcifdllbnbhcdaaGreatDoor
namespace Go.Proofs.YtcifdllbnbhcdaaGreatDoor
open Go.RowKit
theorem spc_va {n w : Int} {a b : List Ses} (h : spcS n w a b = (0, b)) : vldS a n = 0 := by
  unfold spcS at h
  split at h
  · next h1 => exact absurd (congrArg Prod.fst h) h1
  · next h1 => simpa using h1
end Go.Proofs.YtcifdllbnbhcdaaGreatDoor
namespace Go.Proofs.YtcifdllbnbhcdaaGreatDoor
open Go.RowKit
theorem n21 {n : Int} (h1 : 1 ≤ n) (h2 : n ≤ 21) : n = 1 ∨ n = 2 ∨ n = 3 ∨ n = 4 ∨ n = 5 ∨ n = 6 ∨ n = 7 ∨ n = 8 ∨ n = 9 ∨ n = 10 ∨ n = 11 ∨ n = 12 ∨ n = 13 ∨ n = 14 ∨ n = 15 ∨ n = 16 ∨ n = 17 ∨ n = 18 ∨ n = 19 ∨ n = 20 ∨ n = 21 := by omega
end Go.Proofs.YtcifdllbnbhcdaaGreatDoor
namespace Go.Proofs.YtcifdllbnbhcdaaGreatDoor
open Go.RowKit
def strC (c : L8) : List Value := [.string (arr c)]
theorem encStr : Enc strC 1 := ⟨fun _ => rfl, fun c u hu => by simp [strC] at hu; subst hu; rfl⟩
theorem Tryz.infoStr : (Tryz.prog.info? 9).map (fun i => (i.zero, i.size, i.bytes)) = some (some (.string .empty), 1, 16) := by kernel_rfl
theorem elemStr : ElemT 49 9 1 16 := by
  obtain ⟨i, h1, h2, h3, h4⟩ := info_parts Tryz.infoStr
  exact ⟨⟨i, .string .empty, Tryz.underlying49, h1, h2, h3, h4, rfl⟩, by omega⟩
abbrev CAt (w : World) (a : Option Addr) (n : Nat) (cs : List L8) : Prop := KAt strC 1 w a n cs
abbrev CRow (w : World) (B : Nat) (v : Value) (cs : List L8) : Prop := KRow strC 1 9 w B v cs
theorem CAt.cells {w : World} {a : Option Addr} {n : Nat} {cs : List L8} (h : CAt w a n cs) {j : Nat} (hj : j < n) : ∃ (b off : Nat) (c : L8), a = some ⟨b, off, none⟩ ∧ cs[j]? = some c ∧ b < w.heap.size ∧ w.cell? ⟨b, off + j, none⟩ = some (.string (arr c)) := by
  obtain ⟨h1, _, h3⟩ := h
  rcases h3 with h3 | ⟨b, off, rfl, hc⟩
  · omega
  · have hx : cs[j]? = some cs[j] := List.getElem?_eq_getElem (by omega)
    have c0 := hc j cs[j] hx 0 _ rfl
    rw [Nat.mul_one, Nat.add_zero] at c0
    exact ⟨b, off, cs[j], rfl, hx, lt_of_cell c0, c0⟩
theorem CRow.open_ {w : World} {B : Nat} {v : Value} {cs : List L8} (h : CRow w B v cs) (hp : 0 < cs.length) : ∃ g cap, v = .slice (some ⟨g, 0, none⟩) cs.length cap ∧ cs.length ≤ cap ∧ B ≤ g ∧ g < w.heap.size ∧
    ∀ (j : Nat) (c : L8), cs[j]? = some c → w.cell? ⟨g, j, none⟩ = some (.string (arr c)) := by
  obtain ⟨h1, ⟨_, h2⟩ | ⟨g, cap, cur, rfl, hg, hh, hc, hm, hs, ht⟩⟩ := id h
  · omega
  · refine ⟨g, cap, rfl, hc, hg, lt_of_heap hh, fun j c hj => ?_⟩
    have hlt : j < cs.length := (List.getElem?_eq_some_iff.1 hj).1
    rw [h.cellAt _ (by omega)]
    have := flat_at strC 1 encStr.len cs j 0 c hj (by omega)
    rw [Nat.mul_one, Nat.add_zero] at this
    exact this
theorem CRow.below {w w' : World} {B : Nat} {v : Value} {cs : List L8} (h : CRow w B v cs) (hb : Below w.heap.size w w') : CRow w' B v cs := row_below h hb
theorem clsS_take {zs : List Ses} {j : Nat} {s : Ses} (h : zs[j]? = some s) : clsS (zs.take (j + 1)) = clsS (zs.take j) ++ [s.1] := by
  unfold clsS; rw [List.take_add_one, h]; simp
theorem clsL_le (xs : List L8) : (clsL xs).length ≤ xs.length := by have := clsL_len xs []; unfold clsL; simpa using this
end Go.Proofs.YtcifdllbnbhcdaaGreatDoor
namespace Go.Proofs.YtcifdllbnbhcdaaGreatDoor
open Go.RowKit
abbrev Sl := Option Addr × Nat × Nat
def slV (s : Sl) : Value := .slice s.1 s.2.1 s.2.2
def SV (w : World) (s : Sl) (ss : List Ses) : Prop := s.2.1 ≤ s.2.2 ∧ SAt w s.1 s.2.1 ss
theorem SV.below {w w' : World} {s : Sl} {ss : List Ses} (h : SV w s ss) (hb : Below w.heap.size w w') : SV w' s ss := ⟨h.1, h.2.below hb⟩
theorem SV.nil (w : World) : SV w (none, 0, 0) [] := ⟨Nat.le_refl _, KAt.nil _ _ _⟩
theorem SRow.sv {w : World} {B : Nat} {v : Value} {ss : List Ses} (h : SRow w B v ss) : ∃ s : Sl, v = slV s ∧ SV w s ss := by
  obtain ⟨a, cap, h1, h2, h3⟩ := h.sat
  exact ⟨(a, ss.length, cap), h1, h2, h3⟩
def All2 {α β : Type} (R : α → β → Prop) (xs : List α) (ys : List β) : Prop := xs.length = ys.length ∧ ∀ (j : Nat) (x : α) (y : β), xs[j]? = some x → ys[j]? = some y → R x y
theorem All2.nil {α β : Type} (R : α → β → Prop) : All2 R [] [] := ⟨rfl, fun j x y h => by simp at h⟩
theorem All2.imp {α β : Type} {R S : α → β → Prop} {xs : List α} {ys : List β} (h : All2 R xs ys) (hi : ∀ x y, R x y → S x y) : All2 S xs ys := ⟨h.1, fun j x y hx hy => hi x y (h.2 j x y hx hy)⟩
theorem All2.snoc {α β : Type} {R : α → β → Prop} {xs : List α} {ys : List β} (h : All2 R xs ys) {x : α} {y : β} (hr : R x y) : All2 R (xs ++ [x]) (ys ++ [y]) := by
  refine ⟨by rw [List.length_append, List.length_append, h.1]; rfl, fun j a b ha hb => ?_⟩
  rcases Nat.lt_or_ge j xs.length with hl | hl
  · rw [List.getElem?_append_left hl] at ha
    rw [List.getElem?_append_left (by rw [← h.1]; exact hl)] at hb
    exact h.2 j a b ha hb
  · rw [List.getElem?_append_right hl] at ha
    rw [List.getElem?_append_right (by rw [← h.1]; exact hl), ← h.1] at hb
    have hj : j - xs.length = 0 := by have := (List.getElem?_eq_some_iff.1 ha).1; simp at this; omega
    rw [hj] at ha hb
    simp at ha hb
    rw [← ha, ← hb]; exact hr
theorem All2.get {α β : Type} {R : α → β → Prop} {xs : List α} {ys : List β} (h : All2 R xs ys) {j : Nat} (hj : j < xs.length) : ∃ x y, xs[j]? = some x ∧ ys[j]? = some y ∧ R x y := by
  have hy : j < ys.length := by rw [← h.1]; exact hj
  exact ⟨xs[j], ys[j], List.getElem?_eq_getElem hj, List.getElem?_eq_getElem hy, h.2 j _ _ (List.getElem?_eq_getElem hj) (List.getElem?_eq_getElem hy)⟩
theorem All2.take {α β : Type} {R : α → β → Prop} {xs : List α} {ys : List β} (h : All2 R xs ys) (i : Nat) : All2 R (xs.take i) (ys.take i) := by
  refine ⟨by rw [List.length_take, List.length_take, h.1], fun j x y hx hy => ?_⟩
  rw [List.getElem?_take] at hx hy
  split at hx
  · rename_i hji
    rw [if_pos hji] at hy
    exact h.2 j x y hx hy
  · cases hx
abbrev RChg := L8 × Sl × Sl
def rchC (r : RChg) : List Value := [.string (arr r.1), slV r.2.1, slV r.2.2]
theorem encChg : Enc rchC 3 := ⟨fun _ => rfl, fun r u hu => by simp [rchC] at hu; rcases hu with rfl | rfl | rfl <;> rfl⟩
def chgZ : Value := .agg #[.string .empty, .slice none 0 0, .slice none 0 0]
theorem Tryz.infoChg : (Tryz.prog.info? 161).map (fun i => (i.zero, i.size, i.bytes)) = some (some chgZ, 3, 64) := by kernel_rfl
theorem elemChg : ElemT 155 161 3 64 := by
  obtain ⟨i, h1, h2, h3, h4⟩ := info_parts Tryz.infoChg
  exact ⟨⟨i, chgZ, Tryz.underlying155, h1, h2, h3, h4, rfl⟩, by omega⟩
def ChgR (w : World) (r : RChg) (x : Chg) : Prop := r.1 = x.1 ∧ SV w r.2.1 x.2.1 ∧ SV w r.2.2 x.2.2
theorem ChgR.below {w w' : World} {r : RChg} {x : Chg} (h : ChgR w r x) (hb : Below w.heap.size w w') : ChgR w' r x := ⟨h.1, h.2.1.below hb, h.2.2.below hb⟩
def HAt (w : World) (a : Option Addr) (n : Nat) (cs : List Chg) : Prop := ∃ rs : List RChg, KAt rchC 3 w a n rs ∧ All2 (ChgR w) rs cs
theorem HAt.below {w w' : World} {a : Option Addr} {n : Nat} {cs : List Chg} (h : HAt w a n cs) (hb : Below w.heap.size w w') : HAt w' a n cs := by
  obtain ⟨rs, h1, h2⟩ := h
  exact ⟨rs, h1.below hb, h2.imp fun r x hr => hr.below hb⟩
theorem HAt.len {w : World} {a : Option Addr} {n : Nat} {cs : List Chg} (h : HAt w a n cs) : cs.length = n ∧ n ≤ 9223372036854775807 := by
  obtain ⟨rs, h1, h2⟩ := h
  exact ⟨by rw [← h2.1]; exact h1.1, h1.2.1⟩
theorem HAt.nil (w : World) : HAt w none 0 [] := ⟨[], KAt.nil _ _ _, All2.nil _⟩
theorem HAt.cells {w : World} {a : Option Addr} {n : Nat} {cs : List Chg} (h : HAt w a n cs) {j : Nat} (hj : j < n) : ∃ (b off : Nat) (x : Chg) (p q : Sl), a = some ⟨b, off, none⟩ ∧ cs[j]? = some x ∧ b < w.heap.size ∧
    w.cell? ⟨b, off + j * 3, none⟩ = some (.string (arr x.1)) ∧ w.cell? ⟨b, off + j * 3 + 1, none⟩ = some (.slice p.1 p.2.1 p.2.2) ∧ w.cell? ⟨b, off + j * 3 + 2, none⟩ = some (.slice q.1 q.2.1 q.2.2) ∧ SV w p x.2.1 ∧ SV w q x.2.2 := by
  obtain ⟨rs, h1, h2⟩ := h
  obtain ⟨r, x, hr, hx, e1, e2, e3⟩ := h2.get (j := j) (by rw [h1.1]; exact hj)
  rcases h1.2.2 with h0 | ⟨b, off, rfl, hc⟩
  · omega
  · have c := hc j r hr
    have c0 := c 0 _ rfl
    rw [Nat.add_zero] at c0
    refine ⟨b, off, x, r.2.1, r.2.2, rfl, hx, lt_of_cell c0, by rw [← e1]; exact c0, c 1 _ rfl, c 2 _ rfl, e2, e3⟩
def HV (w : World) (s : Sl) (cs : List Chg) : Prop := s.2.1 ≤ s.2.2 ∧ HAt w s.1 s.2.1 cs
theorem HV.below {w w' : World} {s : Sl} {cs : List Chg} (h : HV w s cs) (hb : Below w.heap.size w w') : HV w' s cs := ⟨h.1, h.2.below hb⟩
theorem HV.nil (w : World) : HV w (none, 0, 0) [] := ⟨Nat.le_refl _, HAt.nil _⟩
abbrev RVer := Int × Int × Sl
def rveC (r : RVer) : List Value := [.int .i64 r.1, .int .i64 r.2.1, slV r.2.2]
theorem encVer : Enc rveC 3 := ⟨fun _ => rfl, fun r u hu => by simp [rveC] at hu; rcases hu with rfl | rfl | rfl <;> rfl⟩
def verZ : Value := .agg #[.int .i64 0, .int .i64 0, .slice none 0 0]
theorem Tryz.infoVer : (Tryz.prog.info? 157).map (fun i => (i.zero, i.size, i.bytes)) = some (some verZ, 3, 40) := by kernel_rfl
theorem elemVer : ElemT 65 157 3 40 := by
  obtain ⟨i, h1, h2, h3, h4⟩ := info_parts Tryz.infoVer
  exact ⟨⟨i, verZ, Tryz.underlying65, h1, h2, h3, h4, rfl⟩, by omega⟩
def VerR (w : World) (r : RVer) (v : Ver) : Prop := r.1 = v.1 ∧ r.2.1 = v.2.1 ∧ HV w r.2.2 v.2.2
theorem VerR.below {w w' : World} {r : RVer} {v : Ver} (h : VerR w r v) (hb : Below w.heap.size w w') : VerR w' r v := ⟨h.1, h.2.1, h.2.2.below hb⟩
def VAt (w : World) (a : Option Addr) (n : Nat) (vs : List Ver) : Prop := ∃ rs : List RVer, KAt rveC 3 w a n rs ∧ All2 (VerR w) rs vs
theorem VAt.below {w w' : World} {a : Option Addr} {n : Nat} {vs : List Ver} (h : VAt w a n vs) (hb : Below w.heap.size w w') : VAt w' a n vs := by
  obtain ⟨rs, h1, h2⟩ := h
  exact ⟨rs, h1.below hb, h2.imp fun r x hr => hr.below hb⟩
theorem VAt.len {w : World} {a : Option Addr} {n : Nat} {vs : List Ver} (h : VAt w a n vs) : vs.length = n ∧ n ≤ 9223372036854775807 := by
  obtain ⟨rs, h1, h2⟩ := h
  exact ⟨by rw [← h2.1]; exact h1.1, h1.2.1⟩
theorem VAt.nil (w : World) : VAt w none 0 [] := ⟨[], KAt.nil _ _ _, All2.nil _⟩
theorem VAt.take {w : World} {a : Option Addr} {n : Nat} {vs : List Ver} (h : VAt w a n vs) {i : Nat} (hi : i ≤ n) : VAt w a i (vs.take i) := by
  obtain ⟨rs, h1, h2⟩ := h
  exact ⟨rs.take i, h1.take hi, h2.take i⟩
theorem VAt.cells {w : World} {a : Option Addr} {n : Nat} {vs : List Ver} (h : VAt w a n vs) {j : Nat} (hj : j < n) : ∃ (b off : Nat) (x : Ver) (q : Sl), a = some ⟨b, off, none⟩ ∧ vs[j]? = some x ∧ b < w.heap.size ∧
    w.cell? ⟨b, off + j * 3, none⟩ = some (.int .i64 x.1) ∧ w.cell? ⟨b, off + j * 3 + 1, none⟩ = some (.int .i64 x.2.1) ∧ w.cell? ⟨b, off + j * 3 + 2, none⟩ = some (.slice q.1 q.2.1 q.2.2) ∧ HV w q x.2.2 := by
  obtain ⟨rs, h1, h2⟩ := h
  obtain ⟨r, x, hr, hx, e1, e2, e3⟩ := h2.get (j := j) (by rw [h1.1]; exact hj)
  rcases h1.2.2 with h0 | ⟨b, off, rfl, hc⟩
  · omega
  · have c := hc j r hr
    have c0 := c 0 _ rfl
    rw [Nat.add_zero] at c0
    have c1 := c 1 _ rfl
    refine ⟨b, off, x, r.2.2, rfl, hx, lt_of_cell c0, by rw [← e1]; exact c0, by rw [← e2]; exact c1, c 2 _ rfl, e3⟩
def VV (w : World) (s : Sl) (vs : List Ver) : Prop := s.2.1 ≤ s.2.2 ∧ VAt w s.1 s.2.1 vs
theorem VV.below {w w' : World} {s : Sl} {vs : List Ver} (h : VV w s vs) (hb : Below w.heap.size w w') : VV w' s vs := ⟨h.1, h.2.below hb⟩
theorem VV.nil (w : World) : VV w (none, 0, 0) [] := ⟨Nat.le_refl _, VAt.nil _⟩
def bytC (c : UInt8) : List Value := [.int .u8 c.toNat]
theorem encByt : Enc bytC 1 := ⟨fun _ => rfl, fun c u hu => by simp [bytC] at hu; subst hu; rfl⟩
theorem Tryz.infoByt : (Tryz.prog.info? 5).map (fun i => (i.zero, i.size, i.bytes)) = some (some (.int .u8 0), 1, 1) := by kernel_rfl
theorem elemByt : ElemT 62 5 1 1 := by
  obtain ⟨i, h1, h2, h3, h4⟩ := info_parts Tryz.infoByt
  exact ⟨⟨i, .int .u8 0, Tryz.underlying62, h1, h2, h3, h4, rfl⟩, by omega⟩
abbrev BAt (w : World) (a : Option Addr) (n : Nat) (bs : L8) : Prop := KAt bytC 1 w a n bs
def BV (w : World) (s : Sl) (bs : L8) : Prop := s.2.1 ≤ s.2.2 ∧ BAt w s.1 s.2.1 bs
theorem BV.below {w w' : World} {s : Sl} {bs : L8} (h : BV w s bs) (hb : Below w.heap.size w w') : BV w' s bs := ⟨h.1, h.2.below hb⟩
theorem BV.nil (w : World) : BV w (none, 0, 0) [] := ⟨Nat.le_refl _, KAt.nil _ _ _⟩
theorem BAt.cells {w : World} {a : Option Addr} {n : Nat} {bs : L8} (h : BAt w a n bs) {j : Nat} (hj : j < n) : ∃ (b off : Nat) (c : UInt8), a = some ⟨b, off, none⟩ ∧ bs[j]? = some c ∧ b < w.heap.size ∧ w.cell? ⟨b, off + j, none⟩ = some (.int .u8 c.toNat) := by
  obtain ⟨h1, _, h3⟩ := h
  rcases h3 with h3 | ⟨b, off, rfl, hc⟩
  · omega
  · have hx : bs[j]? = some bs[j] := List.getElem?_eq_getElem (by omega)
    have c0 := hc j bs[j] hx 0 _ rfl
    rw [Nat.mul_one, Nat.add_zero] at c0
    exact ⟨b, off, bs[j], rfl, hx, lt_of_cell c0, c0⟩
def logV (d : Sl) (syn : Int) (v s : Sl) : Value := .agg #[slV d, .int .i64 syn, slV v, slV s]
def LogR (w : World) (v : Value) (l : Lg) : Prop := ∃ d vs ss : Sl, v = logV d l.2.1 vs ss ∧ BV w d l.1 ∧ VV w vs l.2.2.1 ∧ SV w ss l.2.2.2
theorem LogR.below {w w' : World} {v : Value} {l : Lg} (h : LogR w v l) (hb : Below w.heap.size w w') : LogR w' v l := by
  obtain ⟨d, vs, ss, h1, h2, h3, h4⟩ := h
  exact ⟨d, vs, ss, h1, h2.below hb, h3.below hb, h4.below hb⟩
end Go.Proofs.YtcifdllbnbhcdaaGreatDoor
namespace Go.Proofs.YtcifdllbnbhcdaaGreatDoor
open Go.RowKit
def HOwn (w : World) (B : Nat) (rs : List RChg) (cs : List Chg) : Prop := All2 (fun r x => r.1 = x.1 ∧ SRow w B (slV r.2.1) x.2.1 ∧ SRow w B (slV r.2.2) x.2.2) rs cs
theorem HOwn.below {w w' : World} {B : Nat} {rs : List RChg} {cs : List Chg} (h : HOwn w B rs cs) (hb : Below w.heap.size w w') : HOwn w' B rs cs := h.imp fun _ _ hr => ⟨hr.1, row_below hr.2.1 hb, row_below hr.2.2 hb⟩
theorem HOwn.base {w : World} {B B' : Nat} {rs : List RChg} {cs : List Chg} (h : HOwn w B rs cs) (hb : B' ≤ B) : HOwn w B' rs cs := h.imp fun _ _ hr => ⟨hr.1, row_base hr.2.1 hb, row_base hr.2.2 hb⟩
theorem HOwn.kept {w w' : World} {B B2 : Nat} {rs rs2 : List RChg} {cs : List Chg} {v : Value} (h : HOwn w B rs cs) (h2 : KRow rchC 3 161 w B2 v rs2) (hg : w.grownBy w' v.ownBlock) : HOwn w' B rs cs :=
  h.imp fun _ _ hr => ⟨hr.1, row_kept hr.2.1 h2 (by decide) hg, row_kept hr.2.2 h2 (by decide) hg⟩
def HRow (w : World) (B : Nat) (v : Value) (cs : List Chg) : Prop := ∃ rs, KRow rchC 3 161 w B v rs ∧ HOwn w B rs cs
theorem HRow.nil (w : World) (B : Nat) : HRow w B (.slice none 0 0) [] := ⟨[], KRow.nil _ _ _ _ _, All2.nil _⟩
theorem HRow.below {w w' : World} {B : Nat} {v : Value} {cs : List Chg} (h : HRow w B v cs) (hb : Below w.heap.size w w') : HRow w' B v cs := by
  obtain ⟨rs, h1, h2⟩ := h
  exact ⟨rs, row_below h1 hb, h2.below hb⟩
theorem HRow.base {w : World} {B B' : Nat} {v : Value} {cs : List Chg} (h : HRow w B v cs) (hb : B' ≤ B) : HRow w B' v cs := by
  obtain ⟨rs, h1, h2⟩ := h
  exact ⟨rs, row_base h1 hb, h2.base hb⟩
theorem sv_of {w : World} {B : Nat} {s : Sl} {ss : List Ses} (h : SRow w B (slV s) ss) : SV w s ss := by
  obtain ⟨s', h1, h2⟩ := SRow.sv h
  have : s = s' := by
    obtain ⟨a, n, c⟩ := s
    obtain ⟨a', n', c'⟩ := s'
    unfold slV at h1
    cases h1; rfl
  rw [this]; exact h2
theorem HRow.hv {w : World} {B : Nat} {v : Value} {cs : List Chg} (h : HRow w B v cs) : ∃ s : Sl, v = slV s ∧ HV w s cs := by
  obtain ⟨rs, h1, h2⟩ := h
  obtain ⟨a, cap, e, hc, hk⟩ := KRow.at_ encChg h1
  exact ⟨(a, rs.length, cap), e, hc, rs, hk, h2.imp fun r x hr => ⟨hr.1, sv_of hr.2.1, sv_of hr.2.2⟩⟩
def ResH (r : Int × List Chg) (w : World) (e : Ending) (w' : World) : Prop := ∃ v, e = .returned (.tuple #[v, .int .i64 r.1]) ∧ HRow w' w.heap.size v r.2 ∧ Below w.heap.size w w'
theorem ResH.err {r : Int × List Chg} {w w' : World} {x : Int} (h : r = (x, [])) (hb : Below w.heap.size w w') : ResH r w (.returned (.tuple #[.slice none 0 0, .int .i64 x])) w' := by
  subst h; exact ⟨_, rfl, HRow.nil _ _, hb⟩
theorem ResH.mk {r : Int × List Chg} {w w' : World} {v : Value} {x : Int} {cs : List Chg} (h : r = (x, cs)) (hr : HRow w' w.heap.size v cs) (hb : Below w.heap.size w w') : ResH r w (.returned (.tuple #[v, .int .i64 x])) w' := by
  subst h; exact ⟨_, rfl, hr, hb⟩
theorem flat_take {α β : Type} (f : α → List β) {xs : List α} {j : Nat} {x : α} (h : xs[j]? = some x) : (xs.take (j + 1)).flatMap f = (xs.take j).flatMap f ++ f x := by
  rw [List.take_add_one, h]; simp
theorem flat_len_le {α β : Type} (f : α → List β) (h : ∀ x, (f x).length ≤ 1) : ∀ xs : List α, (xs.flatMap f).length ≤ xs.length
  | [] => by simp
  | x :: xs => by
    have := flat_len_le f h xs
    have := h x
    rw [List.flatMap_cons, List.length_append, List.length_cons]; omega
theorem difK_le (a b : List Ses) (k : L8) : (difK a b k).length ≤ 1 := by unfold difK; split <;> simp
end Go.Proofs.YtcifdllbnbhcdaaGreatDoor
namespace Go.Proofs.YtcifdllbnbhcdaaGreatDoor
open Go.RowKit
def RetQ (v : Value) (w : World) (e : Ending) (w' : World) : Prop := e = .returned v ∧ ∃ q, w' = w.drewN q
theorem drew_bel {w w' : World} (h : ∃ q, w' = w.drewN q) : Below w.heap.size w w' := by
  obtain ⟨q, rfl⟩ := h; exact below_drewN _ _
theorem drew_more {w w' : World} (h : ∃ q, w' = w.drewN q) (n : Nat) : ∃ q, w'.drewN n = w.drewN q := by
  obtain ⟨q, rfl⟩ := h; exact ⟨q + n, World.drewN_drewN _ _ _⟩
set_option maxRecDepth 100000 in
set_option maxHeartbeats 2000000 in
theorem equalq_any (a : Option Addr) (n c : Nat) (b : Option Addr) (m q : Nat) (xs ys : List Ses) (w : World) (hx : SAt w a n xs) (hy : SAt w b m ys) :
    Calls Tryz.prog 186 #[.slice a n c, .slice b m q] w (RetQ (.bool (decide (xs = ys))) w) := by
  have n1 := hx.2.1
  have n2 := hy.2.1
  by_cases hnm : n = m
  rotate_left
  · have HF : Hid (decide (xs = ys) = false) := Lib.hid (decide_eq_false (by rintro rfl; exact hnm (hx.1.symm.trans hy.1)))
    have hd : ((n : Int) != (m : Int)) = true := by simpa using fun h => hnm (by omega)
    clear hx hy hnm
    go_enter Tryz.func186, Tryz.ntmps186
    go_wp2
    all_goals go_ret
    all_goals exact ⟨ret_bool (by rw [HF.out]), 0, rfl⟩
  subst hnm
  have HX := Lib.hid hx
  have HY := Lib.hid hy
  clear hx hy
  go_enter Tryz.func186, Tryz.ntmps186
  go_wp2
  go_loopw [13] (fun i wr => ∃ j : Nat, j ≤ n ∧ i = .int .i64 j ∧ Hid (xs.take j = ys.take j) ∧ Hid (∃ q, wr = w.drewN q)) (fun i _ => n - (intOf i).toNat)
  case atStart => exact ⟨0, by omega, rfl, Lib.hid (by simp), Lib.hid ⟨0, rfl⟩⟩
  case round =>
    obtain ⟨j, hj, rfl, HT, HB⟩ := hrel
    by_cases hlt : j < n
    · obtain ⟨b1, o1, s1, rfl, g1, z1, x0, x1, x2, x3, x4, x5⟩ := SAt.cells (HX.out.below (drew_bel HB.out)) hlt
      obtain ⟨b2, o2, s2, rfl, g2, z2, y0, y1, y2, y3, y4, y5⟩ := SAt.cells (HY.out.below (drew_bel HB.out)) hlt
      have HG1 := Lib.hid g1
      have HG2 := Lib.hid g2
      clear g1 g2
      obtain ⟨cl, wk, dy, st, ln, rm⟩ := s1
      obtain ⟨cl', wk', dy', st', ln', rm'⟩ := s2
      simp only at x0 x1 x2 x3 x4 x5 y0 y1 y2 y3 y4 y5
      have k1 : (j : Int) < n := by omega
      have k2 : (0 : Int) ≤ j := by omega
      by_cases he : (cl, wk, dy, st, ln, rm) = (cl', wk', dy', st', ln', rm')
      · have HT2 : Hid (xs.take (j + 1) = ys.take (j + 1)) := Lib.hid (take_next HT.out HG1.out (by rw [HG2.out, he]))
        simp only [Prod.mk.injEq] at he
        obtain ⟨rfl, rfl, rfl, rfl, rfl, rfl⟩ := he
        clear HT
        go_wp2
        go_quiet (fail)
        go_wp2
        go_roundw
        case rel => exact ⟨j + 1, by omega, by go_num, HT2, Lib.hid (drew_more HB.out _)⟩
        case measure => simp [intOf]; omega
      · have HF : Hid (decide (xs = ys) = false) := Lib.hid (decide_eq_false (ne_at HG1.out HG2.out he))
        have hs : ∀ l l' : L8, l ≠ l' → ((arr l).toList == (arr l').toList) = false ∧ ¬ (arr l).toList = (arr l').toList := fun l l' h => by
          rw [arr_toList, arr_toList]; exact ⟨by simpa using h, h⟩
        have hq : cl ≠ cl' ∨ (cl = cl' ∧ wk ≠ wk') ∨ (cl = cl' ∧ wk = wk' ∧ dy ≠ dy') ∨ (cl = cl' ∧ wk = wk' ∧ dy = dy' ∧ st ≠ st') ∨ (cl = cl' ∧ wk = wk' ∧ dy = dy' ∧ st = st' ∧ ln ≠ ln') ∨ (cl = cl' ∧ wk = wk' ∧ dy = dy' ∧ st = st' ∧ ln = ln' ∧ rm ≠ rm') := by
          simp only [Prod.mk.injEq] at he
          by_cases e1 : cl = cl' <;> by_cases e2 : wk = wk' <;> by_cases e3 : dy = dy' <;> by_cases e4 : st = st' <;> by_cases e5 : ln = ln' <;> simp_all
        clear he
        rcases hq with h | ⟨rfl, h⟩ | ⟨rfl, rfl, h⟩ | ⟨rfl, rfl, rfl, h⟩ | ⟨rfl, rfl, rfl, rfl, h⟩ | ⟨rfl, rfl, rfl, rfl, rfl, h⟩
        · obtain ⟨h5, h6⟩ := hs _ _ h
          clear hs h
          go_wp2
          go_quiet (fail)
          go_wp2
          go_ret
          exact ⟨ret_bool (by rw [HF.out]), drew_more HB.out _⟩
        · have h5 : (wk == wk') = false := by simpa using h
          clear hs
          go_wp2
          go_quiet (fail)
          go_wp2
          go_ret
          exact ⟨ret_bool (by rw [HF.out]), drew_more HB.out _⟩
        · have h5 : (dy == dy') = false := by simpa using h
          clear hs
          go_wp2
          go_quiet (fail)
          go_wp2
          go_ret
          exact ⟨ret_bool (by rw [HF.out]), drew_more HB.out _⟩
        · have h5 : (st == st') = false := by simpa using h
          clear hs
          go_wp2
          go_quiet (fail)
          go_wp2
          go_ret
          exact ⟨ret_bool (by rw [HF.out]), drew_more HB.out _⟩
        · have h5 : (ln == ln') = false := by simpa using h
          clear hs
          go_wp2
          go_quiet (fail)
          go_wp2
          go_ret
          exact ⟨ret_bool (by rw [HF.out]), drew_more HB.out _⟩
        · obtain ⟨h5, h6⟩ := hs _ _ h
          clear hs h
          go_wp2
          go_quiet (fail)
          go_wp2
          go_ret
          exact ⟨ret_bool (by rw [HF.out]), drew_more HB.out _⟩
    · obtain rfl : j = n := by omega
      have HF : Hid (decide (xs = ys) = true) := Lib.hid (decide_eq_true (by
        have := HT.out
        rw [List.take_of_length_le (by have := HX.out.1; omega), List.take_of_length_le (by have := HY.out.1; omega)] at this
        exact this))
      go_wp2
      go_ret
      exact ⟨ret_bool (by rw [HF.out]), HB.out⟩
end Go.Proofs.YtcifdllbnbhcdaaGreatDoor
namespace Go.Proofs.YtcifdllbnbhcdaaGreatDoor
open Go.RowKit
def prevK (cs : List Chg) : Nat → Option L8
  | 0 => none
  | p + 1 => (cs[p]?).map (·.1)
theorem ordC_drop {cs : List Chg} {j : Nat} {x : Chg} (h : cs[j]? = some x) : ordC (prevK cs j) (cs.drop j) = (aftK (prevK cs j) x.1 && !decide (x.2.1 = x.2.2) && ordC (prevK cs (j + 1)) (cs.drop (j + 1))) := by
  obtain ⟨hj, rfl⟩ := List.getElem?_eq_some_iff.1 h
  have e : prevK cs (j + 1) = some cs[j].1 := by show (cs[j]?).map (·.1) = _; rw [h]; rfl
  rw [List.drop_eq_getElem_cons hj, ordC, e]
theorem ordC_end {cs : List Chg} {j : Nat} (h : cs.length ≤ j) : ordC (prevK cs j) (cs.drop j) = true := by
  rw [List.drop_eq_nil_of_le h, ordC]
theorem tri_str (a b : L8) : (Op.bytesLess a b = false ∧ Op.bytesLess b a = true ∧ (b == a) = false) ∨ (Op.bytesLess a b = false ∧ Op.bytesLess b a = false ∧ (b == a) = true) ∨ (Op.bytesLess a b = true ∧ Op.bytesLess b a = false ∧ (b == a) = false) := by
  rw [bytesLess_lt, bytesLess_lt]
  by_cases h1 : a < b
  · have h2 : ¬ b < a := fun h => List.lt_irrefl _ (List.lt_trans h1 h)
    have h3 : b ≠ a := fun h => by subst h; exact List.lt_irrefl _ h1
    exact Or.inr (Or.inr ⟨decide_eq_true h1, decide_eq_false h2, by simpa using h3⟩)
  · by_cases h2 : b < a
    · have h3 : b ≠ a := fun h => by subst h; exact List.lt_irrefl _ h2
      exact Or.inl ⟨decide_eq_false h1, decide_eq_true h2, by simpa using h3⟩
    · have h3 : b = a := List.le_antisymm (List.not_lt.1 h1) (List.not_lt.1 h2)
      exact Or.inr (Or.inl ⟨decide_eq_false h1, decide_eq_false h2, by simpa using h3⟩)
end Go.Proofs.YtcifdllbnbhcdaaGreatDoor
