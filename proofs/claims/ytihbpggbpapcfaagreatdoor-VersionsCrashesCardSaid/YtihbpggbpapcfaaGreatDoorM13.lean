/- Texts W5, W6, joined: walks and laws for the versions. -/
import Derived.Test.YtihbpggbpapcfaaGreatDoorM12
namespace Go.Proofs.YtihbpggbpapcfaaGreatDoor
open Go.RowKit

def chgL (c : Chg) : List L8 := Lib.join (chgW c) [32] :: ((c.2.1 ++ c.2.2).map fun s => Lib.join (lineW s) [32])
def verL (v : Ver) : List L8 := Lib.join (verW v) [32] :: (v.2.2.flatMap chgL ++ [Lib.join [[69], hexK 8 (crcN (verT v))] [32]])
theorem lns_map {α : Type} (f : α → L8) (xs : List α) : lns (xs.map f) = xs.flatMap (fun x => f x ++ [10]) := by
  unfold lns; rw [List.flatMap_map]
theorem lns_flat {α : Type} (f : α → List L8) (xs : List α) : lns (xs.flatMap f) = xs.flatMap (fun x => lns (f x)) := by
  unfold lns; rw [List.flatMap_assoc]
theorem lns_chg (c : Chg) : lns (chgL c) = chgT c := by
  unfold chgL chgT
  rw [lns_cons, lns_map, List.flatMap_append]
  unfold lnT lineT lnT
  simp
theorem lns_ver (v : Ver) : lns (verL v) = encV v := by
  unfold verL encV verT endT
  rw [lns_cons, lns_app, lns_flat, lns_cons]
  rw [show (fun x => lns (chgL x)) = chgT from funext lns_chg]
  unfold lnT
  simp [lns]
theorem own_parts {l : List Ses} {c : L8} (h : ownB l c = true) : (∀ s ∈ l, s.1 = c) ∧ vldS l 20 = 0 := by
  unfold ownB at h
  rw [Bool.and_eq_true, List.all_eq_true] at h
  exact ⟨fun s hs => of_decide_eq_true (h.1 s hs), of_decide_eq_true h.2⟩
theorem chgOk_parts {c : Chg} (h : chgOk c = true) : codeOk c.1 = true ∧ ((∀ s ∈ c.2.1, s.1 = c.1) ∧ vldS c.2.1 20 = 0) ∧ ((∀ s ∈ c.2.2, s.1 = c.1) ∧ vldS c.2.2 20 = 0) := by
  unfold chgOk at h
  rw [Bool.and_eq_true, Bool.and_eq_true] at h
  exact ⟨h.1.1, own_parts h.1.2, own_parts h.2⟩
theorem frm_parts {v : Ver} (h : frmV v = true) : (1 ≤ v.1 ∧ v.1 ≤ 64 ∧ 1 ≤ v.2.1 ∧ v.2.1 ≤ 20 ∧ v.2.2 ≠ []) ∧ ordC none v.2.2 = true ∧ ∀ c ∈ v.2.2, chgOk c = true := by
  unfold frmV at h
  rw [Bool.and_eq_true, Bool.and_eq_true, List.all_eq_true] at h
  exact ⟨of_decide_eq_true h.1.1, h.1.2, h.2⟩
theorem chk_parts {s : Ses} {n : Int} (h : chkS s n = 0) : codeOk s.1 = true ∧ (1 ≤ s.2.1 ∧ s.2.1 < 1048576) ∧ (0 ≤ s.2.2.1 ∧ s.2.2.1 ≤ 6) ∧ (0 ≤ s.2.2.2.1 ∧ s.2.2.2.1 ≤ 23) ∧ (1 ≤ s.2.2.2.2.1 ∧ s.2.2.2.1 + s.2.2.2.2.1 ≤ 24) ∧ (s.2.2.2.2.2 = [] ∨ codeOk s.2.2.2.2.2 = true) := by
  obtain ⟨h1, h2, _, h4⟩ := chk_week h
  have h5 := h2
  unfold sndB at h5
  rw [Bool.and_eq_true] at h5
  have h6 := of_decide_eq_true h5.2
  have h7 : 1 ≤ s.2.1 ∧ s.2.1 < 1048576 := by rw [wsB_20] at h4; exact of_decide_eq_true h4
  refine ⟨h1, h7, ⟨h6.1, h6.2.1⟩, ⟨h6.2.2.1, h6.2.2.2.1⟩, ⟨h6.2.2.2.2.1, h6.2.2.2.2.2⟩, ?_⟩
  unfold chkS chkE at h
  split at h
  · cases h
  split at h
  · cases h
  split at h
  · cases h
  next h8 =>
  by_cases hr : s.2.2.2.2.2 = []
  · exact Or.inl hr
  · refine Or.inr ?_
    cases hc : codeOk s.2.2.2.2.2
    · exact absurd (by rw [hc, decide_eq_true hr]; rfl) h8
    · rfl
theorem line_words {s : Ses} (h : chkS s 20 = 0) : ∀ w ∈ lineW s, Wrd w := by
  obtain ⟨_, h2, h3, h4, h5, h6⟩ := chk_parts h
  intro w hw
  unfold lineW at hw
  simp only [List.mem_cons, List.not_mem_nil, or_false] at hw
  rcases hw with rfl | rfl | rfl | rfl | rfl | rfl
  · intro c hc; rw [List.mem_singleton] at hc; subst hc; decide
  · exact wrd_dec _ (by omega)
  · exact wrd_dec _ (by omega)
  · exact wrd_dec _ (by omega)
  · exact wrd_dec _ (by omega)
  · split
    · intro c hc; rw [List.mem_singleton] at hc; subst hc; decide
    · next hne =>
      rcases h6 with h6 | h6
      · exact absurd h6 hne
      · exact wrd_code h6
theorem chg_words {c : Chg} (h : codeOk c.1 = true) : ∀ w ∈ chgW c, Wrd w := by
  intro w hw
  unfold chgW at hw
  simp only [List.mem_cons, List.not_mem_nil, or_false] at hw
  rcases hw with rfl | rfl | rfl | rfl
  · intro c hc; rw [List.mem_singleton] at hc; subst hc; decide
  · exact wrd_code h
  · exact wrd_dec _ (by omega)
  · exact wrd_dec _ (by omega)
theorem ver_words {v : Ver} (h : frmV v = true) : ∀ w ∈ verW v, Wrd w := by
  have hp := (frm_parts h).1
  intro w hw
  unfold verW at hw
  simp only [List.mem_cons, List.not_mem_nil, or_false] at hw
  rcases hw with rfl | rfl | rfl | rfl
  · intro c hc; rw [List.mem_singleton] at hc; subst hc; decide
  · exact wrd_dec _ (by omega)
  · exact wrd_dec _ (by omega)
  · exact wrd_dec _ (by omega)
theorem okI_words {c : UInt8} {r : List L8} (hc : Wrd [c]) (hr : ∀ w ∈ r, Wrd w) (h : ((c = 86 ∨ c = 67) ∧ r.length = 3) ∨ (c = 83 ∧ r.length = 5)) : okI (Lib.join ([c] :: r) [32]) := by
  refine ⟨join_nl _ _ hc hr, ?_⟩
  rw [join_head, join_count _ _ hc hr]
  rcases h with ⟨h1 | h1, h2⟩ | ⟨h1, h2⟩ <;> subst h1
  · exact Or.inl ⟨Or.inl rfl, h2⟩
  · exact Or.inl ⟨Or.inr rfl, h2⟩
  · exact Or.inr ⟨rfl, h2⟩
theorem line_ok {s : Ses} (h : chkS s 20 = 0) : okI (Lib.join (lineW s) [32]) := by
  have hw := line_words h
  unfold lineW at hw ⊢
  exact okI_words (hw _ List.mem_cons_self) (fun w hm => hw w (List.mem_cons_of_mem _ hm)) (Or.inr ⟨rfl, rfl⟩)
theorem shp_app : ∀ {a b : List L8}, (∀ l ∈ a, okI l) → Shp b → Shp (a ++ b)
  | [], _, _, h => h
  | l :: _a, _, ha, h => Or.inr ⟨ha l List.mem_cons_self, shp_app (fun x hx => ha x (List.mem_cons_of_mem _ hx)) h⟩
theorem own_chk {l : List Ses} (h : vldS l 20 = 0) : ∀ s ∈ l, chkS s 20 = 0 := chkL_all (vld_parts h).2.2.1
theorem chg_lines {c : Chg} (h : chgOk c = true) : ∀ l ∈ chgL c, okI l := by
  obtain ⟨h1, h2, h3⟩ := chgOk_parts h
  intro l hl
  unfold chgL at hl
  rcases List.mem_cons.1 hl with rfl | hl
  · have hw := chg_words h1
    unfold chgW at hw ⊢
    exact okI_words (hw _ List.mem_cons_self) (fun w hm => hw w (List.mem_cons_of_mem _ hm)) (Or.inl ⟨Or.inr rfl, rfl⟩)
  · obtain ⟨s, hs, rfl⟩ := List.mem_map.1 hl
    rcases List.mem_append.1 hs with hs | hs
    · exact line_ok (own_chk h2.2 s hs)
    · exact line_ok (own_chk h3.2 s hs)
theorem shp_ver {v : Ver} (h : frmV v = true) : Shp (verL v) := by
  unfold verL
  rw [← List.cons_append]
  refine shp_app ?_ (Or.inl ⟨rfl, ?_⟩)
  · intro l hl
    rcases List.mem_cons.1 hl with rfl | hl
    · have hw := ver_words h
      unfold verW at hw ⊢
      exact okI_words (hw _ List.mem_cons_self) (fun w hm => hw w (List.mem_cons_of_mem _ hm)) (Or.inl ⟨Or.inl rfl, rfl⟩)
    · obtain ⟨c, hc, hl⟩ := List.mem_flatMap.1 hl
      exact chg_lines ((frm_parts h).2.2 c hc) l hl
  · have w1 : Wrd [69] := by intro c hc; rw [List.mem_singleton] at hc; subst hc; decide
    have w2 : ∀ w ∈ [hexK 8 (crcN (verT v))], Wrd w := by
      intro w hw; rw [List.mem_singleton] at hw; subst hw; exact hexK_sign _ _
    refine ⟨join_nl _ _ w1 w2, join_head _ _, join_count _ _ w1 w2, ?_⟩
    rw [join_two, Lib.join_one]
    simp [hexK_len]
theorem end_len (b : L8) : (endT b).length = 11 := by
  unfold endT lnT
  rw [join_two, Lib.join_one]
  simp [hexK_len]
theorem end_inj {a b : L8} (h : endT a = endT b) : crcN a = crcN b := by
  unfold endT lnT at h
  rw [join_two, join_two, Lib.join_one, Lib.join_one] at h
  simp only [List.cons_append, List.nil_append, List.cons.injEq, true_and, List.append_cancel_right_eq] at h
  exact hexK_inj 8 (by have := crcN_lt a; omega) (by have := crcN_lt b; omega) h
theorem enc_pos (v : Ver) : 0 < (encV v).length := by
  unfold encV; rw [List.length_append, end_len]; omega
theorem enc_same {v v' : Ver} {u t : L8} (h : frmV v = true) (h' : frmV v' = true) (e : encV v' ++ u = encV v ++ t) : encV v' = encV v ∧ u = t := by
  rw [← lns_ver, ← lns_ver] at e
  obtain ⟨e1, e2⟩ := shp_same (shp_ver h) (shp_ver h') e
  exact ⟨by rw [← lns_ver, ← lns_ver, e1], e2⟩
theorem enc_flip {v v' : Ver} {p q u t : L8} {x y : UInt8} (h : frmV v = true) (h' : frmV v' = true) (e : encV v = p ++ y :: q) (hxy : x ≠ y) (e' : encV v' ++ u = p ++ x :: q ++ t) : False := by
  have hl : (encV v').length = (encV v).length := by
    rw [← lns_ver, ← lns_ver]
    exact shp_flip (u := u) (t := t) (shp_ver h) (shp_ver h') (by rw [lns_ver]; exact e) hxy (by rw [lns_ver, e', List.append_assoc, List.cons_append])
  have hr : encV v' = p ++ x :: q := (List.append_inj e' (by rw [hl, e]; simp)).1
  have hb : (verT v').length = (verT v).length := by
    unfold encV at hl; rw [List.length_append, List.length_append, end_len, end_len] at hl; omega
  unfold encV at e hr
  rcases List.append_eq_append_iff.1 e with ⟨a, hp, ha⟩ | ⟨a, hp, ha⟩
  · -- the change lies behind the text
    rw [hp, List.append_assoc] at hr
    obtain ⟨e1, e2⟩ := List.append_inj hr hb
    rw [e1, ha] at e2
    have := List.append_cancel_left e2
    simp only [List.cons.injEq, and_true] at this
    exact hxy this.symm
  · cases a with
    | nil =>
      rw [List.append_nil] at hp
      rw [← hp] at hr
      obtain ⟨e1, e2⟩ := List.append_inj hr hb
      rw [List.nil_append] at ha
      rw [e1, ← ha] at e2
      simp only [List.cons.injEq, and_true] at e2
      exact hxy e2.symm
    | cons c a =>
      simp only [List.cons_append, List.cons.injEq] at ha
      obtain ⟨rfl, ha⟩ := ha
      rw [ha, ← List.cons_append, ← List.append_assoc] at hr
      obtain ⟨e1, e2⟩ := List.append_inj hr (by rw [hb, hp]; simp)
      have h3 := end_inj e2
      rw [e1, hp] at h3
      exact crc_flip hxy h3
end Go.Proofs.YtihbpggbpapcfaaGreatDoor

namespace Go.Proofs.YtihbpggbpapcfaaGreatDoor
open Go.RowKit

def ctl : L8 → Option (L8 × L8)
  | [] => none
  | c :: r => if c = 10 then some ([], r) else (ctl r).map fun p => (c :: p.1, p.2)
def spl : L8 → List L8
  | [] => [[]]
  | c :: r => if c = 32 then [] :: spl r else (c :: (spl r).headD []) :: (spl r).tail
def lnP (r word : L8) (n : Nat) : Option (List L8 × L8) :=
  match ctl r with
  | none => none
  | some (l, t) => if (spl l).length = n + 1 ∧ (spl l).headD [] = word then some ((spl l).tail, t) else none
def repP {α : Type} (f : L8 → Option (α × L8)) : Nat → L8 → Option (List α × L8)
  | 0, r => some ([], r)
  | k + 1, r => match f r with
    | none => none
    | some (x, t) => match repP f k t with
      | none => none
      | some (l, q) => some (x :: l, q)
def mkS (cl : L8) (a b c d : Int) (rm : L8) : Ses := (cl, a, b, c, d, if rm = [45] then [] else rm)
def stepS (num : L8 → Option Int) (cl r : L8) : Option (Ses × L8) :=
  match lnP r [83] 5 with
  | none => none
  | some (w, t) => match num (w.getD 0 []), num (w.getD 1 []), num (w.getD 2 []), num (w.getD 3 []) with
    | some a, some b, some c, some d => some (mkS cl a b c d (w.getD 4 []), t)
    | _, _, _, _ => none
def sesP (num : L8 → Option Int) (cl : L8) (n : Int) (r : L8) : Option (List Ses × L8) := repP (stepS num cl) n.toNat r
def stepC (num : L8 → Option Int) (r : L8) : Option (Chg × L8) :=
  match lnP r [67] 3 with
  | none => none
  | some (w, t) => match num (w.getD 1 []) with
    | none => none
    | some a => match sesP num (w.getD 0 []) a t with
      | none => none
      | some (x, t2) => match num (w.getD 2 []) with
        | none => none
        | some b => match sesP num (w.getD 0 []) b t2 with
          | none => none
          | some (y, t3) => some ((w.getD 0 [], x, y), t3)
def headP (num : L8 → Option Int) (r : L8) : Option ((Int × Int × Int) × L8) :=
  match lnP r [86] 3 with
  | none => none
  | some (w, t) => match num (w.getD 0 []), num (w.getD 1 []), num (w.getD 2 []) with
    | some a, some b, some c => some ((a, b, c), t)
    | _, _, _ => none
def verP (num : L8 → Option Int) (ok : Int → Bool) (r : L8) : Option (Ver × L8) :=
  match headP num r with
  | none => none
  | some ((a, b, c), t) => if ok c = false then none else match repP (stepC num) c.toNat t with
    | none => none
    | some (l, q) => some ((a, b, l), q)
def nuP (s : L8) : Option Int := match Lib.atoiAll s with | .ok v => some v | _ => none
def nuR (s : L8) : Int := if s.length ≤ 7 then (match Lib.decNat s with | some n => (n : Int) | none => -1) else -1

theorem ctl_app : ∀ {l : L8} (t : L8), (10 : UInt8) ∉ l → ctl (l ++ 10 :: t) = some (l, t)
  | [], t, _ => by simp [ctl]
  | c :: l, t, h => by
    have h1 : c ≠ 10 := fun e => h (by rw [e]; exact List.mem_cons_self)
    rw [List.cons_append, ctl, if_neg h1, ctl_app t (fun hm => h (List.mem_cons_of_mem _ hm))]
    rfl
theorem ctl_len : ∀ {r l t : L8}, ctl r = some (l, t) → r.length = l.length + 1 + t.length
  | [], _, _, h => by cases h
  | c :: r, l, t, h => by
    unfold ctl at h
    split at h
    · cases h; simp; omega
    · cases hc : ctl r with
      | none => rw [hc] at h; cases h
      | some p =>
        rw [hc] at h
        simp only [Option.map_some, Option.some.injEq, Prod.mk.injEq] at h
        obtain ⟨rfl, rfl⟩ := h
        have := ctl_len (r := r) (l := p.1) (t := p.2) hc
        simp only [List.length_cons]; omega
theorem spl_ne : ∀ l, spl l ≠ []
  | [] => by simp [spl]
  | c :: r => by unfold spl; split <;> simp
theorem spl_wrd : ∀ {w : L8} (t : L8), Wrd w → spl (w ++ 32 :: t) = w :: spl t
  | [], t, _ => by simp [spl]
  | c :: w, t, h => by
    have h1 : c ≠ 32 := (h c List.mem_cons_self).1
    rw [List.cons_append, spl, if_neg h1, spl_wrd t (fun x hx => h x (List.mem_cons_of_mem _ hx))]
    rfl
theorem spl_one : ∀ {w : L8}, Wrd w → spl w = [w]
  | [], _ => rfl
  | c :: w, h => by
    have h1 : c ≠ 32 := (h c List.mem_cons_self).1
    rw [spl, if_neg h1, spl_one (fun x hx => h x (List.mem_cons_of_mem _ hx))]
    rfl
theorem spl_join : ∀ (w : L8) (r : List L8), Wrd w → (∀ x ∈ r, Wrd x) → spl (Lib.join (w :: r) [32]) = w :: r
  | w, [], h, _ => by rw [Lib.join_one]; exact spl_one h
  | w, x :: r, h, hr => by
    rw [join_two, spl_wrd _ h, spl_join x r (hr x List.mem_cons_self) (fun y hy => hr y (List.mem_cons_of_mem _ hy))]
theorem lnP_lnT (w : L8) (r : List L8) (t : L8) (h : ∀ x ∈ w :: r, Wrd x) : lnP (lnT (w :: r) ++ t) w r.length = some (r, t) := by
  have hw := h w List.mem_cons_self
  have hr : ∀ x ∈ r, Wrd x := fun x hx => h x (List.mem_cons_of_mem _ hx)
  unfold lnP lnT
  rw [List.append_assoc, List.singleton_append, ctl_app t (join_nl w r hw hr)]
  simp only [spl_join w r hw hr]
  simp
theorem repP_flat {α : Type} (f : L8 → Option (α × L8)) (g : α → L8) : ∀ (xs : List α) (t : L8), (∀ x ∈ xs, ∀ t, f (g x ++ t) = some (x, t)) → repP f xs.length (xs.flatMap g ++ t) = some (xs, t)
  | [], t, _ => rfl
  | x :: xs, t, h => by
    rw [List.length_cons, List.flatMap_cons, List.append_assoc, repP, h x List.mem_cons_self]
    simp only [repP_flat f g xs t (fun y hy => h y (List.mem_cons_of_mem _ hy))]
def Num (num : L8 → Option Int) : Prop := ∀ n : Int, 0 ≤ n → n < 10000000 → num (Lib.itoa n) = some n
theorem step_line {num : L8 → Option Int} (hn : Num num) {s : Ses} (h : chkS s 20 = 0) (t : L8) : stepS num s.1 (lineT s ++ t) = some (s, t) := by
  obtain ⟨h1, h2, h3, h4, h5, h6⟩ := chk_parts h
  have hl := lnP_lnT [83] [Lib.itoa s.2.1, Lib.itoa s.2.2.1, Lib.itoa s.2.2.2.1, Lib.itoa s.2.2.2.2.1, if s.2.2.2.2.2 = [] then [45] else s.2.2.2.2.2] t (line_words h)
  unfold stepS lineT lineW
  rw [show (5 : Nat) = [Lib.itoa s.2.1, Lib.itoa s.2.2.1, Lib.itoa s.2.2.2.1, Lib.itoa s.2.2.2.2.1, if s.2.2.2.2.2 = [] then [45] else s.2.2.2.2.2].length from rfl, hl]
  simp only [List.getD_cons_zero, List.getD_cons_succ]
  rw [hn _ (by omega) (by omega), hn _ (by omega) (by omega), hn _ (by omega) (by omega), hn _ (by omega) (by omega)]
  simp only [mkS]
  have e : (if (if s.2.2.2.2.2 = [] then ([45] : L8) else s.2.2.2.2.2) = [45] then [] else (if s.2.2.2.2.2 = [] then ([45] : L8) else s.2.2.2.2.2)) = s.2.2.2.2.2 := by
    by_cases hr : s.2.2.2.2.2 = []
    · rw [if_pos hr, if_pos rfl, hr]
    · rw [if_neg hr, if_neg]
      intro he
      rcases h6 with h6 | h6
      · exact hr h6
      · rw [he, code_dash] at h6; cases h6
  rw [e]
theorem ses_lines {num : L8 → Option Int} (hn : Num num) {l : List Ses} {c : L8} (h1 : ∀ s ∈ l, s.1 = c) (h2 : vldS l 20 = 0) (t : L8) : sesP num c (l.length : Int) (l.flatMap lineT ++ t) = some (l, t) := by
  unfold sesP
  rw [show ((l.length : Int)).toNat = l.length by omega]
  refine repP_flat _ _ l t (fun s hs t => ?_)
  rw [← h1 s hs]
  exact step_line hn (own_chk h2 s hs) t
theorem step_chg {num : L8 → Option Int} (hn : Num num) {c : Chg} (h : chgOk c = true) (t : L8) : stepC num (chgT c ++ t) = some (c, t) := by
  obtain ⟨h1, ⟨h2, h3⟩, h4, h5⟩ := chgOk_parts h
  have l1 := (vld_parts h3).2.1
  have l2 := (vld_parts h5).2.1
  have hl := lnP_lnT [67] [c.1, Lib.itoa c.2.1.length, Lib.itoa c.2.2.length] (c.2.1.flatMap lineT ++ (c.2.2.flatMap lineT ++ t)) (chg_words h1)
  unfold stepC chgT chgW
  rw [List.append_assoc, List.append_assoc, show (3 : Nat) = [c.1, Lib.itoa c.2.1.length, Lib.itoa c.2.2.length].length from rfl, hl]
  simp only [List.getD_cons_zero, List.getD_cons_succ]
  rw [hn _ (by omega) (by omega)]
  simp only
  rw [ses_lines hn h2 h3]
  simp only
  rw [hn _ (by omega) (by omega)]
  simp only
  rw [ses_lines hn h4 h5]
theorem ver_read {num : L8 → Option Int} {ok : Int → Bool} (hn : Num num) {v : Ver} (h : frmV v = true) (hlen : v.2.2.length < 10000000) (hok : ok v.2.2.length = true) (t : L8) : verP num ok (encV v ++ t) = some (v, endT (verT v) ++ t) := by
  obtain ⟨hp, _, hc⟩ := frm_parts h
  have hl := lnP_lnT [86] [Lib.itoa v.1, Lib.itoa v.2.1, Lib.itoa v.2.2.length] (v.2.2.flatMap chgT ++ (endT (verT v) ++ t)) (ver_words h)
  have hh : headP num (encV v ++ t) = some ((v.1, v.2.1, (v.2.2.length : Int)), v.2.2.flatMap chgT ++ (endT (verT v) ++ t)) := by
    unfold headP encV verT verW
    rw [List.append_assoc, List.append_assoc, show (3 : Nat) = [Lib.itoa v.1, Lib.itoa v.2.1, Lib.itoa v.2.2.length].length from rfl]
    unfold verT verW at hl
    rw [hl]
    simp only [List.getD_cons_zero, List.getD_cons_succ]
    rw [hn _ (by omega) (by omega), hn _ (by omega) (by omega), hn _ (by omega) (by omega)]
  unfold verP
  rw [hh]
  simp only
  rw [hok, if_neg (by simp), show ((v.2.2.length : Int)).toNat = v.2.2.length by omega, repP_flat _ _ _ _ (fun c hm t => step_chg hn (hc c hm) t)]

theorem decFrom_snoc {b : UInt8} {d : Nat} (hd : Lib.digitVal b = some d) : ∀ (l : L8) (acc m : Nat), Lib.decFrom acc l = some m → Lib.decFrom acc (l ++ [b]) = some (m * 10 + d)
  | [], acc, m, h => by
    simp only [Lib.decFrom, Option.some.injEq] at h; subst h
    simp [Lib.decFrom, hd]
  | x :: l, acc, m, h => by
    rw [List.cons_append]
    unfold Lib.decFrom at h ⊢
    split at h
    · next e => exact decFrom_snoc hd l _ m h
    · cases h
theorem digit_val (d : Nat) (h : d < 10) : Lib.digitVal (UInt8.ofNat (48 + d)) = some d := by
  have : ∀ d : Fin 10, Lib.digitVal (UInt8.ofNat (48 + d.val)) = some d.val := by decide
  exact this ⟨d, h⟩
theorem decFrom_dec (n : Nat) : Lib.decFrom 0 (Lib.decDigits n) = some n := by
  induction n using Nat.strongRecOn with
  | ind n ih =>
    rw [Lib.decDigits]
    split
    · next h =>
      show (match Lib.digitVal (UInt8.ofNat (48 + n)) with | some d => Lib.decFrom (0 * 10 + d) [] | none => none) = some n
      rw [digit_val n h]
      simp [Lib.decFrom]
    · next h =>
      rw [decFrom_snoc (digit_val (n % 10) (by omega)) _ _ _ (ih (n / 10) (by omega))]
      congr 1; omega
theorem dec_ne (n : Nat) : Lib.decDigits n ≠ [] := by
  rw [Lib.decDigits]; split <;> simp
theorem decNat_dec (n : Nat) : Lib.decNat (Lib.decDigits n) = some n := by
  unfold Lib.decNat
  rw [if_neg (by simpa using dec_ne n), decFrom_dec]
theorem nDigits_le : ∀ (k n : Nat), n < 10 ^ (k + 1) → Lib.nDigits n ≤ k + 1
  | 0, n, h => by rw [Lib.nDigits_small (by simpa using h)]; omega
  | k + 1, n, h => by
    by_cases h1 : n < 10
    · rw [Lib.nDigits_small h1]; omega
    · rw [Lib.nDigits_big h1]
      have := nDigits_le k (n / 10) (by rw [Nat.pow_succ] at h; omega)
      omega
theorem itoa_pos {n : Int} (h : 0 ≤ n) : Lib.itoa n = Lib.decDigits n.toNat := by unfold Lib.itoa; rw [if_neg (by omega)]
theorem itoa_len7 {n : Int} (h : 0 ≤ n) (h2 : n < 10000000) : (Lib.itoa n).length ≤ 7 := by
  rw [itoa_pos h, Lib.decDigits_length]; exact nDigits_le 6 _ (by omega)
theorem num_ref : Num (fun s => some (nuR s)) := by
  intro n h1 h2
  have hl := itoa_len7 h1 h2
  unfold nuR
  simp only
  rw [if_pos hl, itoa_pos h1, decNat_dec]
  simp only [Option.some.injEq]; omega
theorem num_prog : Num nuP := by
  intro n h1 h2
  have hl := itoa_len7 h1 h2
  unfold nuP
  rw [Lib.atoiAll_short _ (by omega)]
  have ha : Lib.atoi (Lib.itoa n) = some n := by
    have hs := dec_sign n.toNat
    have hd := decNat_dec n.toNat
    rw [itoa_pos h1]
    cases hc : Lib.decDigits n.toNat with
    | nil => exact absurd hc (dec_ne _)
    | cons b r =>
      rw [hc] at hs hd
      have hb := hs b List.mem_cons_self
      have h45 : (b == 45) = false := by rw [beq_eq_false_iff_ne]; rintro rfl; simp at hb
      have h43 : (b == 43) = false := by rw [beq_eq_false_iff_ne]; rintro rfl; simp at hb
      unfold Lib.atoi
      simp only [h45, h43, hd, Bool.false_eq_true, if_false, Option.map_some, Option.some.injEq]
      omega
  rw [ha]
  rfl
def decV (b : L8) : Option Ver := match verP nuP (fun _ => true) b with
  | none => none
  | some (v, _) => if frmV v = true ∧ encV v <+: b then some v else none
theorem chg_len (v : Ver) : v.2.2.length ≤ (encV v).length := by
  have h1 : ∀ cs : List Chg, cs.length ≤ (cs.flatMap chgT).length := by
    intro cs
    induction cs with
    | nil => simp
    | cons c cs ih =>
      have : 1 ≤ (chgT c).length := by unfold chgT lnT; simp; omega
      rw [List.flatMap_cons, List.length_append, List.length_cons]; omega
  unfold encV verT
  rw [List.length_append, List.length_append]
  have := h1 v.2.2
  omega
theorem dec_iff (b : L8) (hb : b.length < 10000000) (v : Ver) : decV b = some v ↔ frmV v = true ∧ encV v <+: b := by
  unfold decV
  constructor
  · intro h
    split at h
    · cases h
    · split at h
      · next hc => cases h; exact hc
      · cases h
  · rintro ⟨h1, t, rfl⟩
    have := chg_len v
    rw [List.length_append] at hb
    rw [ver_read num_prog h1 (by omega) rfl]
    simp only
    rw [if_pos ⟨h1, List.prefix_append _ _⟩]
theorem dec_unique {b : L8} (hb : b.length < 10000000) {f : L8 → Option Ver} (h1 : ∀ v, f b = some v → frmV v = true ∧ encV v <+: b) (h2 : ∀ v, frmV v = true → encV v <+: b → f b = some v) : f b = decV b := by
  cases h : decV b with
  | some v =>
    obtain ⟨a, c⟩ := (dec_iff b hb v).1 h
    exact h2 v a c
  | none =>
    cases hf : f b with
    | none => rfl
    | some v =>
      have := (dec_iff b hb v).2 (h1 v hf)
      rw [h] at this; cases this
end Go.Proofs.YtihbpggbpapcfaaGreatDoor
