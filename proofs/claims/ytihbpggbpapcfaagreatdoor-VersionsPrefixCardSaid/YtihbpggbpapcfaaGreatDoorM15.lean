/- Texts W8, V26, V27, joined: walks and laws for the versions. -/
import Derived.Outline
import Derived.Test.YtihbpggbpapcfaaGreatDoorM11
import Derived.Test.YtihbpggbpapcfaaGreatDoorM14
namespace Go.Proofs.YtihbpggbpapcfaaGreatDoor
open Go.RowKit

def lgC (r : List Ver) (ss : List (List Ses)) (syn : Int) : Lg := (r.flatMap encV, syn, r, ss.getLast?.getD [])
structure Pub (n : Int) (l : Lg) (ss : List (List Ses)) : Prop where
  hn : 1 ≤ n ∧ n ≤ 20
  ch : Chn n [] [] l.2.2.1 ss
  eq : l = lgC l.2.2.1 ss l.2.1
  s0 : 0 ≤ l.2.1
  s1 : l.2.1 ≤ l.1.length
  sz : l.1.length ≤ 1048576
theorem Pub.vld {n : Int} {l : Lg} {ss : List (List Ses)} (h : Pub n l ss) : vldL n l = true := by
  obtain ⟨h1, h2, h3, h4, h5, h6⟩ := h
  rw [h3]
  have e : l.1 = l.2.2.1.flatMap encV := congrArg Prod.fst h3
  rw [e] at h5 h6
  exact vld_chain h1 h2 h6 h4 h5
theorem pub_new {n : Int} (hn : 1 ≤ n ∧ n ≤ 20) : Pub n lgZ [] := ⟨hn, trivial, rfl, by decide, by decide, by decide⟩
theorem pub_sync {n : Int} {l : Lg} {ss : List (List Ses)} (h : Pub n l ss) {syn : Int} (h0 : 0 ≤ syn) (h1 : syn ≤ l.1.length) : Pub n (l.1, syn, l.2.2.1, l.2.2.2) ss := by
  refine ⟨h.hn, h.ch, ?_, h0, h1, h.sz⟩
  have e := h.eq
  unfold lgC at e ⊢
  have e1 := congrArg Prod.fst e
  have e2 := congrArg (fun x => x.2.2.2) e
  simp only at e1 e2 ⊢
  rw [← e1, ← e2]
theorem pub_parts {n w : Int} {l l' : Lg} {next : List Ses} (h : pubS n w l next = (0, l')) : vldL n l = true ∧ vldS next n = 0 ∧ (1 ≤ w ∧ w ≤ n ∧ lastW l.2.2.1 ≤ w) ∧ spcS n w l.2.2.2 next = (0, next) ∧ (difS n l.2.2.2 next).2 ≠ [] ∧ frmV (nextV n w l next) = true ∧
    l.1.length + (encV (nextV n w l next)).length ≤ 1048576 ∧ l' = (l.1 ++ encV (nextV n w l next), l.2.1, l.2.2.1 ++ [nextV n w l next], next) := by
  unfold pubS at h
  split at h
  · cases h
  next h1 =>
  split at h
  · next h2 => exact absurd (congrArg Prod.fst h) h2
  next h2 =>
  split at h
  · cases h
  next h3 =>
  split at h
  · cases h
  next h4 =>
  split at h
  · cases h
  next h5 =>
  split at h
  · cases h
  next h6 =>
  have h6' := not_or.1 h6
  exact ⟨by simpa using h1, by simpa using h2, by omega, by simpa using h4, h5, by simpa using h6'.1, by omega, (congrArg Prod.snd h).symm⟩
theorem spc_va {n w : Int} {a b : List Ses} (h : spcS n w a b = (0, b)) : vldS a n = 0 := by
  unfold spcS at h
  split at h
  · next h1 => exact absurd (congrArg Prod.fst h) h1
  · next h1 => simpa using h1
theorem pub_step {n w : Int} {l l' : Lg} {ss : List (List Ses)} {next : List Ses} (h : Pub n l ss) (hp : pubS n w l next = (0, l')) : Pub n l' (ss ++ [next]) ∧ l'.2.2.1 = l.2.2.1 ++ [nextV n w l next] := by
  obtain ⟨h1, h2, h3, h4, h5, h6, h7, rfl⟩ := pub_parts hp
  have e1 : l.1 = l.2.2.1.flatMap encV := congrArg Prod.fst h.eq
  have e2 : l.2.2.2 = ss.getLast?.getD [] := congrArg (fun x => x.2.2.2) h.eq
  have hst : Stp n ([] ++ l.2.2.1) (ss.getLast?.getD []) (nextV n w l next) next := by
    rw [List.nil_append, ← e2]
    exact ⟨rfl, h3.1, h3.2.1, h3.2.2, spc_va h4, h2, h4, rfl, h5, h6⟩
  refine ⟨⟨h.hn, chn_snoc h.ch hst, ?_, h.s0, ?_, ?_⟩, rfl⟩
  · unfold lgC
    simp only
    rw [List.flatMap_append, ← e1]
    simp
  · have := h.s1
    simp only
    rw [List.length_append]; omega
  · simp only
    rw [List.length_append]; omega
theorem pub_again {n : Int} {l : Lg} {ss : List (List Ses)} {v : Ver} {s : List Ses} (h : Pub n l ss) (hs : Stp n l.2.2.1 l.2.2.2 v s) (hz : l.1.length + (encV v).length ≤ 1048576) :
    pubS n v.2.1 l s = (0, (l.1 ++ encV v, l.2.1, l.2.2.1 ++ [v], s)) := by
  have hv : nextV n v.2.1 l s = v := by
    unfold nextV
    rw [← hs.dif, ← hs.num]
  have h1 := h.vld
  have hw1 := hs.wk1
  have hw2 := hs.wk2
  have hw3 := hs.wk3
  have hd : (difS n l.2.2.2 s).2 ≠ [] := by rw [← hs.dif]; exact hs.ne
  unfold pubS
  rw [if_neg (by rw [h1]; simp), if_neg (by rw [hs.vs]; simp), if_neg (by omega), if_neg (by rw [hs.spc]; simp), if_neg hd, hv, if_neg]
  rintro (h2 | h2)
  · rw [hs.frm] at h2; cases h2
  · omega

def chT (D : L8) (m : Nat) : Option (Nat × UInt8) → L8
  | none => D.take m
  | some (p, x) => (D.take m).set p x
theorem chT_none (D : L8) (m : Nat) : chT D m none = D.take m := rfl
theorem chT_some (D : L8) (m p : Nat) (x : UInt8) : chT D m (some (p, x)) = (D.take m).set p x := rfl
theorem set_split {D : L8} {p : Nat} {x : UInt8} (h : p < D.length) : D = D.take p ++ D[p] :: D.drop (p + 1) ∧ D.set p x = D.take p ++ x :: D.drop (p + 1) := by
  refine ⟨by rw [List.getElem_cons_drop h, List.take_append_drop], ?_⟩
  rw [List.set_eq_take_append_cons_drop, if_pos h]
theorem take_set (D : L8) (p m : Nat) (x : UInt8) : (D.take m).set p x = (D.set p x).take m := by
  rw [List.take_set]
theorem frm_cut {v v' : Ver} {m : Nat} (h : frmV v = true) (h' : frmV v' = true) (hm : m < (encV v).length) (hp : encV v' <+: (encV v).take m) : False := by
  obtain ⟨u, hu⟩ := hp
  have e : encV v' ++ (u ++ (encV v).drop m) = encV v ++ [] := by rw [← List.append_assoc, hu, List.take_append_drop, List.append_nil]
  have := (enc_same h h' e).2
  have h2 := congrArg List.length this
  simp at h2
  omega
theorem frm_chg {v v' : Ver} {p : Nat} {x : UInt8} {t : L8} (h : frmV v = true) (h' : frmV v' = true) (hp : p < (encV v).length) (hx : (encV v)[p] ≠ x) (hb : encV v' <+: (encV v).set p x ++ t) : False := by
  obtain ⟨u, hu⟩ := hb
  obtain ⟨e1, e2⟩ := set_split (x := x) hp
  rw [e2] at hu
  exact enc_flip h h' e1 (Ne.symm hx) hu
theorem dec_no {b : L8} (hb : b.length < 10000000) (h : ∀ v', frmV v' = true → encV v' <+: b → False) : decV b = none := by
  cases hd : decV b with
  | none => rfl
  | some v =>
    obtain ⟨h1, h2⟩ := (dec_iff b hb v).1 hd
    exact (h v h1 h2).elim
theorem left_read : ∀ (r : List Ver) (at_ m : Nat) (c : Option (Nat × UInt8)) (syn : Int), (∀ v ∈ r, frmV v = true) → m ≤ (r.flatMap encV).length → (r.flatMap encV).length < 10000000 →
    (∀ p x, c = some (p, x) → p < m ∧ (r.flatMap encV)[p]? ≠ some x ∧ syn ≤ (at_ + p : Nat)) → syn ≤ (at_ + m : Nat) →
    ∃ k t, k ≤ r.length ∧ chT (r.flatMap encV) m c = (r.take k).flatMap encV ++ t ∧ decV t = none ∧ shwN syn at_ r ≤ k
  | [], at_, m, c, syn, _, hm, _, hc, _ => by
    have hm0 : m = 0 := by simpa using hm
    subst hm0
    refine ⟨0, [], Nat.le_refl _, ?_, rfl, by simp [shwN]⟩
    cases c with
    | none => rfl
    | some c => obtain ⟨p, x⟩ := c; have := (hc p x rfl).1; omega
  | v :: r, at_, m, c, syn, hf, hm, hl, hc, hs => by
    have hv := hf v List.mem_cons_self
    have he : encE v = encV v := if_pos hv
    have hD : (v :: r).flatMap encV = encV v ++ r.flatMap encV := List.flatMap_cons
    rw [hD] at hm hl hc ⊢
    rw [List.length_append] at hm hl
    have stop : decV (chT (encV v ++ r.flatMap encV) m c) = none → syn < ((at_ + (encV v).length : Nat) : Int) → ∃ k t, k ≤ (v :: r).length ∧ chT (encV v ++ r.flatMap encV) m c = ((v :: r).take k).flatMap encV ++ t ∧ decV t = none ∧ shwN syn at_ (v :: r) ≤ k := by
      intro h1 h2
      refine ⟨0, _, Nat.zero_le _, rfl, h1, ?_⟩
      unfold shwN
      rw [he, if_pos h2]
      exact Nat.le_refl _
    have lenT : (chT (encV v ++ r.flatMap encV) m c).length < 10000000 := by
      cases c with
      | none => simp [chT]; omega
      | some c => simp [chT]; omega
    by_cases hme : m < (encV v).length
    · refine stop (dec_no lenT (fun v' h' hp => ?_)) (by omega)
      cases c with
      | none =>
        have e : chT (encV v ++ r.flatMap encV) m none = (encV v).take m := by
          rw [chT_none, List.take_append_of_le_length (by omega)]
        rw [e] at hp
        exact frm_cut hv h' hme hp
      | some c =>
        obtain ⟨p, x⟩ := c
        obtain ⟨h1, h2, h3⟩ := hc p x rfl
        have e : chT (encV v ++ r.flatMap encV) m (some (p, x)) = ((encV v).set p x).take m := by
          rw [chT_some, List.take_append_of_le_length (by omega), take_set]
        rw [e] at hp
        refine frm_chg (t := []) hv h' (p := p) (x := x) (by omega) (fun hx => h2 ?_) ?_
        · rw [List.getElem?_append_left (by omega), List.getElem?_eq_getElem (by omega), hx]
        · rw [List.append_nil]; exact hp.trans (List.take_prefix _ _)
    · by_cases hpe : ∃ p x, c = some (p, x) ∧ p < (encV v).length
      · obtain ⟨p, x, rfl, hp⟩ := hpe
        obtain ⟨h1, h2, h3⟩ := hc p x rfl
        refine stop (dec_no lenT (fun v' h' hb => ?_)) (by omega)
        have e : chT (encV v ++ r.flatMap encV) m (some (p, x)) = ((encV v).set p x ++ r.flatMap encV).take m := by
          rw [chT_some, take_set, List.set_append_left _ _ (by omega)]
        rw [e] at hb
        refine frm_chg (t := r.flatMap encV) hv h' hp (fun hx => h2 ?_) (hb.trans (List.take_prefix _ _))
        rw [List.getElem?_append_left (by omega), List.getElem?_eq_getElem (by omega), hx]
      · have hgo : ∃ c', chT (encV v ++ r.flatMap encV) m c = encV v ++ chT (r.flatMap encV) (m - (encV v).length) c' ∧ ∀ p x, c' = some (p, x) → p < m - (encV v).length ∧ (r.flatMap encV)[p]? ≠ some x ∧ syn ≤ (at_ + (encV v).length + p : Nat) := by
          cases c with
          | none =>
            refine ⟨none, ?_, fun p x h => by cases h⟩
            rw [chT_none, chT_none, List.take_append]
            rw [List.take_of_length_le (show (encV v).length ≤ m by omega)]
          | some c =>
            obtain ⟨p, x⟩ := c
            obtain ⟨h1, h2, h3⟩ := hc p x rfl
            have hpe' : (encV v).length ≤ p := Nat.le_of_not_lt (fun h => hpe ⟨p, x, rfl, h⟩)
            refine ⟨some (p - (encV v).length, x), ?_, fun q y h => ?_⟩
            · rw [chT_some, chT_some, List.take_append, List.take_of_length_le (show (encV v).length ≤ m by omega), List.set_append_right _ _ hpe']
            · simp only [Option.some.injEq, Prod.mk.injEq] at h
              obtain ⟨rfl, rfl⟩ := h
              refine ⟨by omega, ?_, by omega⟩
              rw [List.getElem?_append_right hpe'] at h2
              exact h2
        obtain ⟨c', e, hc'⟩ := hgo
        obtain ⟨k, t, h1, h2, h3, h4⟩ := left_read r (at_ + (encV v).length) (m - (encV v).length) c' syn (fun x hx => hf x (List.mem_cons_of_mem _ hx)) (by omega) (by omega) hc' (by omega)
        refine ⟨k + 1, t, by simpa using h1, ?_, h3, ?_⟩
        · rw [e, h2, List.take_succ_cons, List.flatMap_cons, List.append_assoc]
        · unfold shwN
          rw [he]
          split
          · omega
          · omega
theorem chn_frm {n : Int} : ∀ {r : List Ver} {ss : List (List Ses)} {vs : List Ver} {a : List Ses}, Chn n vs a r ss → ∀ v ∈ r, frmV v = true
  | [], _, _, _, _, _, hv => by simp at hv
  | _ :: _, [], _, _, h, _, _ => h.elim
  | x :: r, y :: ss, _, _, h, v, hv => by
    rcases List.mem_cons.1 hv with rfl | hv
    · exact h.1.frm
    · exact chn_frm h.2 v hv
theorem left_text {l : Lg} (keep at_ flip : Int) (h0 : 0 ≤ l.2.1) (h1 : l.2.1 ≤ l.1.length) :
    ∃ m c, leftB l keep at_ flip = chT l.1 m c ∧ m ≤ l.1.length ∧ l.2.1 ≤ (m : Int) ∧ ∀ p x, c = some (p, x) → p < m ∧ l.1[p]? ≠ some x ∧ l.2.1 ≤ (p : Int) := by
  unfold leftB
  simp only
  generalize hk : max 0 (min keep ((l.1.length : Int) - l.2.1)) = k
  have hk0 : 0 ≤ k := by rw [← hk]; exact Int.le_max_left _ _
  have hk1 : k ≤ (l.1.length : Int) - l.2.1 := by rw [← hk]; omega
  have hm : (l.2.1 + k).toNat ≤ l.1.length := by omega
  split
  · next hc =>
    have hp : (l.2.1 + at_).toNat < (l.2.1 + k).toNat := by omega
    generalize hx : (l.1.take (l.2.1 + k).toNat).getD (l.2.1 + at_).toNat 0 ^^^ UInt8.ofNat (flip % 256).toNat = x
    by_cases he : l.1[(l.2.1 + at_).toNat]? = some x
    · refine ⟨(l.2.1 + k).toNat, none, ?_, hm, by omega, fun p x h => by cases h⟩
      unfold chT
      apply List.ext_getElem?
      intro i
      rw [List.getElem?_set]
      split
      · next hi =>
        subst hi
        split
        · rw [List.getElem?_take, if_pos hp, he]
        · next hn => rw [List.length_take] at hn; omega
      · rfl
    · exact ⟨(l.2.1 + k).toNat, some ((l.2.1 + at_).toNat, x), rfl, hm, by omega, fun p y h => by
        simp only [Option.some.injEq, Prod.mk.injEq] at h
        obtain ⟨rfl, rfl⟩ := h
        exact ⟨hp, he, by omega⟩⟩
  · exact ⟨(l.2.1 + k).toNat, none, rfl, hm, by omega, fun p x h => by cases h⟩
theorem crash_pub {n : Int} {l : Lg} {ss : List (List Ses)} (h : Pub n l ss) (keep at_ flip : Int) :
    ∃ k rest, shwN l.2.1 0 l.2.2.1 ≤ k ∧ k ≤ l.2.2.1.length ∧ crsS n keep at_ flip l = (0, lgC (l.2.2.1.take k) (ss.take k) (((l.2.2.1.take k).flatMap encV).length : Int), rest) ∧
      Pub n (lgC (l.2.2.1.take k) (ss.take k) (((l.2.2.1.take k).flatMap encV).length : Int)) (ss.take k) := by
  obtain ⟨m, c, e, hm, hs, hc⟩ := left_text keep at_ flip h.s0 h.s1
  have e1 : l.1 = l.2.2.1.flatMap encV := congrArg Prod.fst h.eq
  have hz := h.sz
  rw [e1] at hm hc e hz
  obtain ⟨k, t, h1, h2, h3, h4⟩ := left_read l.2.2.1 0 m c l.2.1 (chn_frm h.ch) hm (by omega) (fun p x hx => by
    obtain ⟨a, b, d⟩ := hc p x hx
    exact ⟨a, b, by omega⟩) (by omega)
  have hlen : (l.2.2.1.take k).flatMap encV ++ t = chT (l.2.2.1.flatMap encV) m c := h2.symm
  have hl2 : ((l.2.2.1.take k).flatMap encV ++ t).length ≤ 1048576 := by
    rw [hlen]
    cases c with
    | none => simp [chT]; omega
    | some c => simp [chT]; omega
  have hch := chn_take k h.ch
  refine ⟨k, (t.length : Int), h4, h1, ?_, ?_⟩
  · unfold crsS
    rw [h.vld, if_neg (by simp), e, h2, opnS_chain h.hn hch h3 hl2]
    rfl
  · rw [List.length_append] at hl2
    exact ⟨h.hn, hch, rfl, by simp only [lgC]; omega, by simp only [lgC]; omega, by simp only [lgC]; omega⟩
theorem shw_le (syn : Int) : ∀ (at_ : Nat) (r : List Ver), shwN syn at_ r ≤ r.length
  | _, [] => by simp [shwN]
  | at_, v :: r => by
    unfold shwN
    split
    · omega
    · have := shw_le syn (at_ + (encE v).length) r
      rw [List.length_cons]; omega
theorem sta_pub {n : Int} {l : Lg} {ss : List (List Ses)} (h : Pub n l ss) {i : Nat} (hi : i ≤ l.2.2.1.length) : staS n l i = (0, ([] :: ss).getD i []) := by
  unfold staS
  rw [h.vld, if_neg (by simp), if_neg (by omega)]
  have := aft_chain (chn_take i h.ch)
  unfold aftS
  rw [show ((i : Int)).toNat = i by omega, this, getLast_take (by rw [← chn_len h.ch]; exact hi)]
theorem ver_pub {n : Int} {l : Lg} {ss : List (List Ses)} (h : Pub n l ss) {i : Nat} {v : Ver} (hi : l.2.2.1[i]? = some v) : Stp n (l.2.2.1.take i) (([] :: ss).getD i []) v (([] :: ss).getD (i + 1) []) := by
  obtain ⟨s, h1, h2⟩ := chn_at h.ch hi
  rw [List.nil_append] at h2
  have e : ([] :: ss).getD (i + 1) [] = s := by rw [List.getD_cons_succ, List.getD_eq_getElem?_getD, h1]; rfl
  rw [e]
  exact h2
theorem ver_data {n : Int} {l : Lg} {ss : List (List Ses)} (h : Pub n l ss) {i : Nat} {v : Ver} (hi : l.2.2.1[i]? = some v) : ((l.2.2.1.take i).flatMap encV).length + (encV v).length ≤ 1048576 := by
  have e1 : l.1 = l.2.2.1.flatMap encV := congrArg Prod.fst h.eq
  have hz := h.sz
  have hlt := (List.getElem?_eq_some_iff.1 hi).1
  have hv := (List.getElem?_eq_some_iff.1 hi).2
  have e : l.2.2.1 = l.2.2.1.take i ++ v :: l.2.2.1.drop (i + 1) := by rw [← hv, List.getElem_cons_drop hlt, List.take_append_drop]
  rw [e1, e, List.flatMap_append, List.flatMap_cons, List.length_append, List.length_append] at hz
  omega
end Go.Proofs.YtihbpggbpapcfaaGreatDoor

namespace Go.Proofs.YtihbpggbpapcfaaGreatDoor
open Go.RowKit

theorem n21 {n : Int} (h1 : 1 ≤ n) (h2 : n ≤ 21) : n = 1 ∨ n = 2 ∨ n = 3 ∨ n = 4 ∨ n = 5 ∨ n = 6 ∨ n = 7 ∨ n = 8 ∨ n = 9 ∨ n = 10 ∨ n = 11 ∨ n = 12 ∨ n = 13 ∨ n = 14 ∨ n = 15 ∨ n = 16 ∨ n = 17 ∨ n = 18 ∨ n = 19 ∨ n = 20 ∨ n = 21 := by omega
theorem firstW_bd {k : Int} (h1 : 1 ≤ k) (h2 : k ≤ 21) : 0 ≤ firstW k ∧ firstW k ≤ 1048575 := by
  rcases n21 h1 h2 with rfl | rfl | rfl | rfl | rfl | rfl | rfl | rfl | rfl | rfl | rfl | rfl | rfl | rfl | rfl | rfl | rfl | rfl | rfl | rfl | rfl <;> decide
end Go.Proofs.YtihbpggbpapcfaaGreatDoor

namespace Go.Proofs.YtihbpggbpapcfaaGreatDoor
open Go.RowKit

def strC (c : L8) : List Value := [.string (arr c)]
theorem encStr : Enc strC 1 := ⟨fun _ => rfl, fun c u hu => by simp [strC] at hu; subst hu; rfl⟩
theorem Tryz.infoStr : (Tryz.prog.info? 9).map (fun i => (i.zero, i.size, i.bytes)) = some (some (.string .empty), 1, 16) := by kernel_rfl
theorem elemStr : ElemT 91 9 1 16 := by
  obtain ⟨i, h1, h2, h3, h4⟩ := info_parts Tryz.infoStr
  exact ⟨⟨i, .string .empty, Tryz.underlying91, h1, h2, h3, h4, rfl⟩, by omega⟩
abbrev CAt (w : World) (a : Option Addr) (n : Nat) (cs : List L8) : Prop := KAt strC 1 w a n cs
abbrev CRow (w : World) (B : Nat) (v : Value) (cs : List L8) : Prop := KRow strC 1 9 w B v cs
theorem CAt.cells {w : World} {a : Option Addr} {n : Nat} {cs : List L8} (h : CAt w a n cs) {j : Nat} (hj : j < n) : ∃ (b off : Nat) (c : L8), a = some ⟨b, off, none⟩ ∧ cs[j]? = some c ∧ b < w.heap.size ∧ w.cell? ⟨b, off + j, none⟩ = some (.string (arr c)) := by
  obtain ⟨h1, _, h3⟩ := h
  rcases h3 with h3 | ⟨b, off, rfl, hc⟩
  · omega
  · have hx : cs[j]? = some cs[j] := List.getElem?_eq_getElem (by omega)
    have c0 := hc j cs[j] hx 0 _ rfl
    rw [Nat.mul_one, Nat.add_zero] at c0
    exact ⟨b, off, cs[j], rfl, hx, lt_of_cell c0, c0⟩
theorem CRow.open_ {w : World} {B : Nat} {v : Value} {cs : List L8} (h : CRow w B v cs) (hp : 0 < cs.length) : ∃ g cap, v = .slice (some ⟨g, 0, none⟩) cs.length cap ∧ cs.length ≤ cap ∧ B ≤ g ∧ g < w.heap.size ∧
    ∀ (j : Nat) (c : L8), cs[j]? = some c → w.cell? ⟨g, j, none⟩ = some (.string (arr c)) := by
  obtain ⟨h1, ⟨_, h2⟩ | ⟨g, cap, cur, rfl, hg, hh, hc, hm, hs, ht⟩⟩ := id h
  · omega
  · refine ⟨g, cap, rfl, hc, hg, lt_of_heap hh, fun j c hj => ?_⟩
    have hlt : j < cs.length := (List.getElem?_eq_some_iff.1 hj).1
    rw [h.cellAt _ (by omega)]
    have := flat_at strC 1 encStr.len cs j 0 c hj (by omega)
    rw [Nat.mul_one, Nat.add_zero] at this
    exact this
theorem CRow.below {w w' : World} {B : Nat} {v : Value} {cs : List L8} (h : CRow w B v cs) (hb : Below w.heap.size w w') : CRow w' B v cs := row_below h hb
theorem tail_str {w : World} {g co q : Nat} {L : List L8} (h : CAt w (some ⟨g, 0, none⟩) L.length L) (hq : q ≤ L.length) (hc : L.length ≤ co) : CAt w (if co = q then some ⟨g, 0, none⟩ else some ⟨g, q, none⟩) (L.length - q) (L.drop q) := by
  by_cases hcq : co = q
  · rw [if_pos hcq]
    exact ⟨by rw [List.length_drop], by have := h.2.1; omega, Or.inl (by omega)⟩
  · rw [if_neg hcq]
    have := KAt.drop h hq
    rw [Nat.zero_add, Nat.mul_one] at this
    exact this
theorem idxC_of {L : List L8} {c : L8} {q : Nat} (h1 : ∀ i d, i < q → L[i]? = some d → Op.bytesLess d c = true) (hq : q ≤ L.length) (h2 : ∀ d, L[q]? = some d → Op.bytesLess d c = false) : idxC L c = q := by
  unfold idxC
  rcases Nat.lt_or_ge q L.length with hlt | hge
  · rw [List.findIdx_eq hlt]
    refine ⟨by rw [h2 _ (List.getElem?_eq_getElem hlt)]; rfl, fun i hi => ?_⟩
    rw [h1 i _ hi (List.getElem?_eq_getElem (by omega))]; rfl
  · have : q = L.length := by omega
    subst this
    rw [List.findIdx_eq_length]
    intro d hd
    obtain ⟨i, hi, rfl⟩ := List.getElem_of_mem hd
    rw [h1 i _ hi (List.getElem?_eq_getElem hi)]; rfl
theorem insC_same {L : List L8} {c : L8} {q : Nat} (h : idxC L c = q) (h2 : L[q]? = some c) : insC L c = L := by unfold insC; rw [h, if_pos h2]
theorem insC_new {L : List L8} {c : L8} {q : Nat} (h : idxC L c = q) (h2 : L[q]? ≠ some c) : insC L c = L.take q ++ [c] ++ L.drop q := by unfold insC; rw [h, if_neg h2]
theorem clsL_snoc (xs : List L8) (c : L8) : clsL (xs ++ [c]) = insC (clsL xs) c := by simp [clsL, List.foldl_append]
theorem clsS_take {zs : List Ses} {j : Nat} {s : Ses} (h : zs[j]? = some s) : clsS (zs.take (j + 1)) = clsS (zs.take j) ++ [s.1] := by
  unfold clsS; rw [List.take_add_one, h]; simp
theorem clsL_le (xs : List L8) : (clsL xs).length ≤ xs.length := by have := clsL_len xs []; unfold clsL; simpa using this
end Go.Proofs.YtihbpggbpapcfaaGreatDoor
