/- Texts W7, joined: walks and laws for the versions. -/
import Derived.Test.YtihbpggbpapcfaaGreatDoorM13
namespace Go.Proofs.YtihbpggbpapcfaaGreatDoor
open Go.RowKit

section
def decPr {α β : Type} (a : DecidableEq α) (b : DecidableEq β) : DecidableEq (α × β) := inferInstance
def decLs {α : Type} (a : DecidableEq α) : DecidableEq (List α) := inferInstance
def decSes : DecidableEq Ses := inferInstance
def decChg : DecidableEq Chg := decPr inferInstance (decPr (decLs decSes) (decLs decSes))
def decVer : DecidableEq Ver := decPr inferInstance (decPr inferInstance (decLs decChg))
instance (a b : Int × List Ses) : Decidable (a = b) := decPr inferInstance (decLs decSes) a b
instance (a b : List Ver) : Decidable (a = b) := decLs decVer a b
end
abbrev Lg := L8 × Int × List Ver × List Ses
def lgZ : Lg := ([], 0, [], [])
def lastW (vs : List Ver) : Int := match vs.getLast? with | none => 1 | some v => v.2.1
def folV (n : Int) (vs : List Ver) (ss : List Ses) (v : Ver) : Option (List Ses) :=
  if v.1 ≠ vs.length + 1 ∨ n < v.2.1 ∨ v.2.1 < lastW vs then none
  else if (appS n ss v.2.2).1 ≠ 0 then none
  else if spcS n v.2.1 ss (appS n ss v.2.2).2 ≠ (0, (appS n ss v.2.2).2) then none
  else some (appS n ss v.2.2).2
def opnF (n : Int) : Nat → L8 → List Ver → List Ses → List Ver × List Ses × L8
  | 0, b, vs, ss => (vs, ss, b)
  | k + 1, b, vs, ss => match decV b with
    | none => (vs, ss, b)
    | some v => match folV n vs ss v with
      | none => (vs, ss, b)
      | some next => opnF n k (b.drop (encV v).length) (vs ++ [v]) next
def opnL (n : Int) (b : L8) : List Ver × List Ses × L8 := opnF n (b.length + 1) b [] []
def opnS (n : Int) (b : L8) : Int × Lg × Int :=
  if n < 1 ∨ 20 < n then (3, lgZ, 0) else if 1048576 < b.length then (2, lgZ, 0)
  else (0, (b.take (b.length - (opnL n b).2.2.length), ((b.length - (opnL n b).2.2.length : Nat) : Int), (opnL n b).1, (opnL n b).2.1), ((opnL n b).2.2.length : Int))
def vldL (n : Int) (l : Lg) : Bool :=
  decide (0 ≤ l.2.1 ∧ l.2.1 ≤ l.1.length) && decide ((opnS n l.1).1 = 0 ∧ (opnS n l.1).2.2 = 0) && decide ((opnS n l.1).2.1.2.2.1 = l.2.2.1) && decide ((opnS n l.1).2.1.2.2.2 = l.2.2.2)
def nextV (n w : Int) (l : Lg) (next : List Ses) : Ver := ((l.2.2.1.length : Int) + 1, w, (difS n l.2.2.2 next).2)
def pubS (n w : Int) (l : Lg) (next : List Ses) : Int × Lg :=
  if vldL n l = false then (1, lgZ) else if vldS next n ≠ 0 then (vldS next n, lgZ)
  else if w < 1 ∨ n < w ∨ w < lastW l.2.2.1 then (63, lgZ)
  else if spcS n w l.2.2.2 next ≠ (0, next) then (66, lgZ)
  else if (difS n l.2.2.2 next).2 = [] then (16, lgZ)
  else if frmV (nextV n w l next) = false ∨ 1048576 < l.1.length + (encV (nextV n w l next)).length then (67, lgZ)
  else (0, (l.1 ++ encV (nextV n w l next), l.2.1, l.2.2.1 ++ [nextV n w l next], next))
def synS (n : Int) (l : Lg) : Int × Lg := if vldL n l = false then (1, lgZ) else (0, (l.1, (l.1.length : Int), l.2.2.1, l.2.2.2))
def leftB (l : Lg) (keep at_ flip : Int) : L8 :=
  let k := max 0 (min keep ((l.1.length : Int) - l.2.1))
  let b := l.1.take (l.2.1 + k).toNat
  if 0 ≤ at_ ∧ at_ < k then b.set (l.2.1 + at_).toNat (b.getD (l.2.1 + at_).toNat 0 ^^^ UInt8.ofNat (flip % 256).toNat) else b
def crsS (n keep at_ flip : Int) (l : Lg) : Int × Lg × Int := if vldL n l = false then (1, lgZ, 0) else opnS n (leftB l keep at_ flip)
def aftS (n : Int) (vs : List Ver) : List Ses := vs.foldl (fun s v => (appS n s v.2.2).2) []
def staS (n : Int) (l : Lg) (k : Int) : Int × List Ses := if vldL n l = false then (1, []) else if k < 0 ∨ (l.2.2.1.length : Int) < k then (60, []) else (0, aftS n (l.2.2.1.take k.toNat))
def encE (v : Ver) : L8 := if frmV v = true then encV v else []
def shwN (syn : Int) : Nat → List Ver → Nat
  | _, [] => 0
  | at_, v :: vs => if syn < ((at_ + (encE v).length : Nat) : Int) then 0 else shwN syn (at_ + (encE v).length) vs + 1
def shwS (n : Int) (l : Lg) : Int × Nat × List Ses := if vldL n l = false then (1, 0, []) else (0, shwN l.2.1 0 l.2.2.1, aftS n (l.2.2.1.take (shwN l.2.1 0 l.2.2.1)))

structure Stp (n : Int) (vs : List Ver) (a : List Ses) (v : Ver) (s : List Ses) : Prop where
  num : v.1 = vs.length + 1
  wk1 : 1 ≤ v.2.1
  wk2 : v.2.1 ≤ n
  wk3 : lastW vs ≤ v.2.1
  va : vldS a n = 0
  vs : vldS s n = 0
  spc : spcS n v.2.1 a s = (0, s)
  dif : v.2.2 = (difS n a s).2
  ne : v.2.2 ≠ []
  frm : frmV v = true
def Chn (n : Int) : List Ver → List Ses → List Ver → List (List Ses) → Prop
  | _, _, [], [] => True
  | vs, a, v :: r, s :: ss => Stp n vs a v s ∧ Chn n (vs ++ [v]) s r ss
  | _, _, _, _ => False
theorem fol_stp {n : Int} {vs : List Ver} {a : List Ses} {v : Ver} {s : List Ses} (h : Stp n vs a v s) : folV n vs a v = some s := by
  have e : appS n a v.2.2 = (0, s) := by rw [h.dif]; exact app_dif h.va h.vs
  unfold folV
  rw [if_neg (by rintro (h1 | h1 | h1); exact h1 h.num; (have := h.wk2; omega); (have := h.wk3; omega)), e]
  simp only
  rw [if_neg (by simp), if_neg (by rw [h.spc]; simp)]
theorem dec_enc {v : Ver} {t : L8} (h : frmV v = true) (hb : (encV v ++ t).length < 10000000) : decV (encV v ++ t) = some v := (dec_iff _ hb v).2 ⟨h, List.prefix_append _ _⟩
theorem enc_len (v : Ver) : 11 ≤ (encV v).length := by unfold encV; rw [List.length_append, end_len]; omega
theorem opn_chain {n : Int} : ∀ (r : List Ver) (ss : List (List Ses)) (vs : List Ver) (a : List Ses) (t : L8) (k : Nat), Chn n vs a r ss → (r.flatMap encV ++ t).length < 10000000 →
    opnF n (r.length + k) (r.flatMap encV ++ t) vs a = opnF n k t (vs ++ r) (ss.getLast?.getD a)
  | [], [], vs, a, t, k, _, _ => by simp
  | [], _ :: _, _, _, _, _, h, _ => h.elim
  | _ :: _, [], _, _, _, _, h, _ => h.elim
  | v :: r, s :: ss, vs, a, t, k, h, hb => by
    obtain ⟨h1, h2⟩ := h
    rw [List.flatMap_cons, List.append_assoc] at hb ⊢
    rw [show (v :: r).length + k = (r.length + k) + 1 by simp; omega, opnF, dec_enc h1.frm hb]
    simp only [fol_stp h1]
    rw [List.drop_left, opn_chain r ss (vs ++ [v]) s t k h2 (by rw [List.length_append] at hb; omega), List.append_assoc, List.singleton_append]
    cases ss with
    | nil => rfl
    | cons x ss => rw [List.getLast?_cons_cons]; cases hl : (x :: ss).getLast? with
      | none => simp at hl
      | some y => rfl
theorem dec_nil : decV [] = none := rfl
theorem opnF_nil (n : Int) (k : Nat) (vs : List Ver) (a : List Ses) : opnF n k [] vs a = (vs, a, []) := by
  cases k with
  | zero => rfl
  | succ k => rw [opnF, dec_nil]
theorem opnF_none {n : Int} {t : L8} (h : decV t = none) (k : Nat) (vs : List Ver) (a : List Ses) : opnF n k t vs a = (vs, a, t) := by
  cases k with
  | zero => rfl
  | succ k => rw [opnF, h]
theorem flat_len_ge : ∀ (r : List Ver), r.length ≤ (r.flatMap encV).length
  | [] => by simp
  | v :: r => by
    have := flat_len_ge r
    have := enc_len v
    rw [List.flatMap_cons, List.length_append, List.length_cons]; omega
theorem opnL_chain {n : Int} {r : List Ver} {ss : List (List Ses)} (h : Chn n [] [] r ss) {t : L8} (ht : decV t = none) (hb : (r.flatMap encV ++ t).length < 10000000) : opnL n (r.flatMap encV ++ t) = (r, ss.getLast?.getD [], t) := by
  unfold opnL
  obtain ⟨k, hk⟩ : ∃ k, (r.flatMap encV ++ t).length + 1 = r.length + k := ⟨(r.flatMap encV ++ t).length + 1 - r.length, by
    have := flat_len_ge r
    rw [List.length_append]; omega⟩
  rw [hk, opn_chain r ss [] [] t k h hb, List.nil_append, opnF_none ht]
theorem opnS_chain {n : Int} (hn : 1 ≤ n ∧ n ≤ 20) {r : List Ver} {ss : List (List Ses)} (h : Chn n [] [] r ss) {t : L8} (ht : decV t = none) (hb : (r.flatMap encV ++ t).length ≤ 1048576) :
    opnS n (r.flatMap encV ++ t) = (0, (r.flatMap encV, ((r.flatMap encV).length : Int), r, ss.getLast?.getD []), (t.length : Int)) := by
  unfold opnS
  rw [if_neg (by omega), if_neg (by omega), opnL_chain h ht (by omega)]
  simp only
  have e : (r.flatMap encV ++ t).length - t.length = (r.flatMap encV).length := by rw [List.length_append]; omega
  rw [e, List.take_left]
theorem vld_chain {n : Int} (hn : 1 ≤ n ∧ n ≤ 20) {r : List Ver} {ss : List (List Ses)} (h : Chn n [] [] r ss) (hb : (r.flatMap encV).length ≤ 1048576) {syn : Int} (h0 : 0 ≤ syn) (h1 : syn ≤ (r.flatMap encV).length) :
    vldL n (r.flatMap encV, syn, r, ss.getLast?.getD []) = true := by
  have e := opnS_chain hn h dec_nil (by simpa using hb)
  rw [List.append_nil] at e
  unfold vldL
  simp only
  rw [e]
  simp only [decide_true, Bool.and_true]
  have hd : (0 ≤ syn ∧ syn ≤ ((r.flatMap encV).length : Int)) := ⟨h0, h1⟩
  rw [decide_eq_true hd]
  rfl
theorem chn_len {n : Int} : ∀ {r : List Ver} {ss : List (List Ses)} {vs : List Ver} {a : List Ses}, Chn n vs a r ss → r.length = ss.length
  | [], [], _, _, _ => rfl
  | [], _ :: _, _, _, h => h.elim
  | _ :: _, [], _, _, h => h.elim
  | v :: r, s :: ss, _, _, h => by rw [List.length_cons, List.length_cons, chn_len h.2]
theorem chn_take {n : Int} : ∀ {r : List Ver} {ss : List (List Ses)} {vs : List Ver} {a : List Ses} (k : Nat), Chn n vs a r ss → Chn n vs a (r.take k) (ss.take k)
  | _, _, _, _, 0, _ => by simp [Chn]
  | [], [], _, _, k + 1, _ => by simp [Chn]
  | [], _ :: _, _, _, _, h => h.elim
  | _ :: _, [], _, _, _, h => h.elim
  | v :: r, s :: ss, _, _, k + 1, h => ⟨h.1, chn_take k h.2⟩
theorem chn_snoc {n : Int} : ∀ {r : List Ver} {ss : List (List Ses)} {vs : List Ver} {a : List Ses} {v : Ver} {s : List Ses}, Chn n vs a r ss → Stp n (vs ++ r) (ss.getLast?.getD a) v s → Chn n vs a (r ++ [v]) (ss ++ [s])
  | [], [], vs, a, v, s, _, h => by
    rw [List.append_nil] at h
    exact ⟨h, trivial⟩
  | [], _ :: _, _, _, _, _, h, _ => h.elim
  | _ :: _, [], _, _, _, _, h, _ => h.elim
  | x :: r, y :: ss, vs, a, v, s, h, h2 => by
    refine ⟨h.1, chn_snoc h.2 ?_⟩
    rw [List.append_assoc, List.singleton_append]
    have e : ((y :: ss).getLast?.getD a) = (ss.getLast?.getD y) := by
      cases ss with
      | nil => rfl
      | cons z ss => rw [List.getLast?_cons_cons]; cases hl : (z :: ss).getLast? with
        | none => simp at hl
        | some w => rfl
    rw [← e]; exact h2
theorem chn_at {n : Int} : ∀ {r : List Ver} {ss : List (List Ses)} {vs : List Ver} {a : List Ses} {i : Nat} {v : Ver}, Chn n vs a r ss → r[i]? = some v → ∃ s, ss[i]? = some s ∧ Stp n (vs ++ r.take i) ((a :: ss).getD i []) v s
  | [], _, _, _, _, _, _, h => by simp at h
  | _ :: _, [], _, _, _, _, h, _ => h.elim
  | x :: r, y :: ss, vs, a, 0, v, h, h2 => by
    simp only [List.getElem?_cons_zero, Option.some.injEq] at h2
    subst h2
    exact ⟨y, rfl, by simpa using h.1⟩
  | x :: r, y :: ss, vs, a, i + 1, v, h, h2 => by
    rw [List.getElem?_cons_succ] at h2
    obtain ⟨s, h3, h4⟩ := chn_at h.2 h2
    refine ⟨s, by rw [List.getElem?_cons_succ]; exact h3, ?_⟩
    rw [List.append_assoc, List.singleton_append] at h4
    rw [List.take_succ_cons, List.getD_cons_succ]
    exact h4
theorem getLast_take {ss : List (List Ses)} {i : Nat} (h : i ≤ ss.length) (a : List Ses) : (ss.take i).getLast?.getD a = (a :: ss).getD i [] := by
  cases i with
  | zero => simp
  | succ i =>
    rw [List.getLast?_eq_getElem?, List.length_take, Nat.min_eq_left h, List.getElem?_take, if_pos (by omega), List.getD_cons_succ, List.getD_eq_getElem?_getD]
    rw [show i + 1 - 1 = i from rfl, List.getElem?_eq_getElem (by omega)]
    rfl
theorem aft_chain {n : Int} : ∀ {r : List Ver} {ss : List (List Ses)} {vs : List Ver} {a : List Ses}, Chn n vs a r ss → r.foldl (fun s v => (appS n s v.2.2).2) a = ss.getLast?.getD a
  | [], [], _, _, _ => rfl
  | [], _ :: _, _, _, h => h.elim
  | _ :: _, [], _, _, h => h.elim
  | v :: r, s :: ss, vs, a, h => by
    have e : appS n a v.2.2 = (0, s) := by rw [h.1.dif]; exact app_dif h.1.va h.1.vs
    rw [List.foldl_cons, e, aft_chain h.2]
    cases ss with
    | nil => rfl
    | cons z ss => rw [List.getLast?_cons_cons]; cases hl : (z :: ss).getLast? with
      | none => simp at hl
      | some w => rfl
end Go.Proofs.YtihbpggbpapcfaaGreatDoor
