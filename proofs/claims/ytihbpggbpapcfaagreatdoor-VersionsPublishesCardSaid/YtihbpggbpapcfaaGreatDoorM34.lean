/- Texts V94, V95, joined: walks and laws for the versions. -/
import Derived.Test.YtihbpggbpapcfaaGreatDoorM33
namespace Go.Proofs.YtihbpggbpapcfaaGreatDoor
open Go.RowKit

section
variable {P : Program} {ops : Array Oper} {Q : Exit → Act → World → Prop} {md : Region.Mode}
def okOps (ops : Array Oper) (N : Nat) : Bool :=
  (List.range ops.size).all fun i => match ops[i]? with
    | none => true
    | some o => o.guard.isNone && o.after.all (fun e => decide (e.on < i)) && (match o.dst with
      | none => true
      | some d => decide (d < N) && (List.range i).all (fun j => match ops[j]? with
        | none => true
        | some oj => oj.dst != some d))
theorem okOps_at {N i : Nat} {o : Oper} (h : okOps ops N = true) (ho : ops[i]? = some o) : o.guard = none ∧ (∀ e ∈ o.after, e.on < i) ∧ ∀ d, o.dst = some d → d < N ∧ ∀ (j : Nat) (oj : Oper), j < i → ops[j]? = some oj → oj.dst ≠ some d := by
  have hi : i < ops.size := (Array.getElem?_eq_some_iff.1 ho).1
  unfold okOps at h
  rw [List.all_eq_true] at h
  have := h i (List.mem_range.2 hi)
  rw [ho] at this
  simp only [Bool.and_eq_true] at this
  obtain ⟨⟨h1, h2⟩, h3⟩ := this
  refine ⟨by simpa using h1, fun e he => ?_, fun d hd => ?_⟩
  · rw [Array.all_eq_true'] at h2
    exact of_decide_eq_true (h2 e he)
  · rw [hd] at h3
    simp only [Bool.and_eq_true, decide_eq_true_eq, List.all_eq_true] at h3
    refine ⟨h3.1, fun j oj hj hoj => ?_⟩
    have := h3.2 j (List.mem_range.2 hj)
    rw [hoj] at this
    simpa using this
theorem okOps_dst {N i j : Nat} {oi oj : Oper} {d : Nat} (h : okOps ops N = true) (hi : ops[i]? = some oi) (hj : ops[j]? = some oj) (di : oi.dst = some d) (dj : oj.dst = some d) : i = j := by
  rcases Nat.lt_trichotomy i j with hlt | heq | hgt
  · exact absurd di (((okOps_at h hj).2.2 d dj).2 i oi hlt hi)
  · exact heq
  · exact absurd dj (((okOps_at h hi).2.2 d di).2 j oj hgt hj)

def putAll : List Oper → Nat → (Nat → Value) → Act → Act
  | [], _, _, a => a
  | o :: r, i, vs, a => putAll r (i + 1) vs (a.put o.dst (vs i))
theorem putAll_defers : ∀ (l : List Oper) (i : Nat) (vs : Nat → Value) (a : Act), (putAll l i vs a).defers = a.defers
  | [], _, _, _ => rfl
  | o :: r, i, vs, a => by rw [putAll, putAll_defers r]; cases o.dst <;> rfl
theorem putAll_size : ∀ (l : List Oper) (i : Nat) (vs : Nat → Value) (a : Act), (putAll l i vs a).tmps.size = a.tmps.size
  | [], _, _, _ => rfl
  | o :: r, i, vs, a => by
    rw [putAll, putAll_size r]
    cases o.dst with
    | none => rfl
    | some d => show (a.tmps.setIfInBounds d _).size = _; rw [Array.size_setIfInBounds]
theorem put_ne {a : Act} {x : Option Nat} {v : Value} {t : Nat} (h : x ≠ some t) : (a.put x v).tmps[t]? = a.tmps[t]? := by
  cases x with
  | none => rfl
  | some d =>
    show (a.tmps.setIfInBounds d _)[t]? = _
    rw [Array.getElem?_setIfInBounds_ne (fun e => h (by rw [e]))]
theorem putAll_ne : ∀ (l : List Oper) (i : Nat) (vs : Nat → Value) (a : Act) (t : Nat), (∀ o ∈ l, o.dst ≠ some t) → (putAll l i vs a).tmps[t]? = a.tmps[t]?
  | [], _, _, _, _, _ => rfl
  | o :: r, i, vs, a, t, h => by
    rw [putAll, putAll_ne r _ _ _ _ (fun x hx => h x (List.mem_cons_of_mem _ hx)), put_ne (h o List.mem_cons_self)]
theorem putAll_at : ∀ (l : List Oper) (i : Nat) (vs : Nat → Value) (a : Act) (k t : Nat) (o : Oper), l[k]? = some o → o.dst = some t → t < a.tmps.size → (∀ (j : Nat) (oj : Oper), l[j]? = some oj → oj.dst = some t → j = k) → (putAll l i vs a).tmps[t]? = some (vs (i + k))
  | [], _, _, _, k, _, _, h, _, _, _ => by simp at h
  | o :: r, i, vs, a, 0, t, x, h, hd, hs, hu => by
    simp only [List.getElem?_cons_zero, Option.some.injEq] at h
    subst h
    rw [putAll, putAll_ne r _ _ _ _ (fun y hy e => by
      obtain ⟨m, hm, rfl⟩ := List.getElem_of_mem hy
      have := hu (m + 1) _ (by rw [List.getElem?_cons_succ]; exact List.getElem?_eq_getElem hm) e
      omega), hd]
    show (a.tmps.setIfInBounds t _)[t]? = _
    rw [Array.getElem?_setIfInBounds_self_of_lt hs]; rfl
  | o :: r, i, vs, a, k + 1, t, x, h, hd, hs, hu => by
    simp only [List.getElem?_cons_succ] at h
    rw [putAll, putAll_at r (i + 1) vs _ k t x h hd (by
      have := putAll_size [o] i vs a
      simp only [putAll] at this
      rw [this]; exact hs) (fun j oj hj e => by
      have := hu (j + 1) oj (by rw [List.getElem?_cons_succ]; exact hj) e
      omega)]
    rw [show i + 1 + k = i + (k + 1) by omega]
theorem act_eq {a b : Act} (h1 : a.defers = b.defers) (h2 : a.tmps = b.tmps) : a = b := by cases a; cases b; simp_all

def SlotsR (ops : Array Oper) (V : Array Bool → Nat → Value → World → Prop) (a0 : Act) (listed : Array Bool) (a : Act) (w : World) : Prop :=
  a.defers = a0.defers ∧ a.tmps.size = a0.tmps.size ∧
  (∀ (i : Nat) (o : Oper), ops[i]? = some o → listed[i]? = some true → ∃ v, V listed i v w ∧ ∀ d, o.dst = some d → a.tmps[d]? = some v) ∧
  (∀ t : Nat, (∀ (i : Nat) (o : Oper), ops[i]? = some o → o.dst ≠ some t) → a.tmps[t]? = a0.tmps[t]?)

theorem slotsR_put {V : Array Bool → Nat → Value → World → Prop} {a0 a : Act} {listed : Array Bool} {i N : Nat} {o : Oper} {w w' : World} {v : Value} (hk0 : okOps ops N = true) (hN : N = a0.tmps.size) (h : SlotsR ops V a0 listed a w) (ho : ops[i]? = some o) (hl : listed[i]? = some false)
    (hv : V (listed.setIfInBounds i true) i v w') (hk : ∀ (j : Nat) (oj : Oper) (u : Value), ops[j]? = some oj → j ≠ i → listed[j]? = some true → (∀ d, oj.dst = some d → a.tmps[d]? = some u) → V listed j u w → V (listed.setIfInBounds i true) j u w') :
    SlotsR ops V a0 (listed.setIfInBounds i true) (a.put o.dst v) w' := by
  obtain ⟨h1, h2, h3, h4⟩ := h
  have hlist : ∀ j : Nat, j ≠ i → (listed.setIfInBounds i true)[j]? = some true → listed[j]? = some true := fun j hj hx => by
    rw [Array.getElem?_setIfInBounds_ne (Ne.symm hj)] at hx; exact hx
  have hsz : (a.put o.dst v).tmps.size = a0.tmps.size := by
    have := putAll_size [o] 0 (fun _ => v) a
    simp only [putAll] at this
    rw [this, h2]
  have hdf : (a.put o.dst v).defers = a0.defers := by
    have := putAll_defers [o] 0 (fun _ => v) a
    simp only [putAll] at this
    rw [this, h1]
  refine ⟨hdf, hsz, fun j oj hoj hlj => ?_, fun t ht => ?_⟩
  · by_cases hji : j = i
    · subst hji
      rw [ho] at hoj; cases hoj
      refine ⟨v, hv, fun d hdj => ?_⟩
      rw [hdj]
      show (a.tmps.setIfInBounds d _)[d]? = _
      rw [Array.getElem?_setIfInBounds_self_of_lt (by rw [h2, ← hN]; exact ((okOps_at hk0 ho).2.2 d hdj).1)]
    · obtain ⟨u, hu, hq⟩ := h3 j oj hoj (hlist j hji hlj)
      refine ⟨u, hk j oj u hoj hji (hlist j hji hlj) hq hu, fun d hdj => ?_⟩
      rw [put_ne (fun e => hji (okOps_dst hk0 hoj ho hdj e))]
      exact hq d hdj
  · rw [put_ne (ht i o ho)]
    exact h4 t ht

def StepOk (ops : Array Oper) (V : Array Bool → Nat → Value → World → Prop) (S : Array Bool → World → Prop) (L : Array Bool) (i : Nat) (o : Oper) (a : Act) (w : World) (a' : Act) (w' : World) : Prop :=
  ∃ v, a' = a.put o.dst v ∧ V (L.setIfInBounds i true) i v w' ∧ S (L.setIfInBounds i true) w' ∧ ∀ (j : Nat) (oj : Oper) (u : Value), ops[j]? = some oj → j ≠ i → L[j]? = some true → (∀ d, oj.dst = some d → a.tmps[d]? = some u) → V L j u w → V (L.setIfInBounds i true) j u w'
theorem wp_region_rel {id N : Nat} (V : Array Bool → Nat → Value → World → Prop) (S : Array Bool → World → Prop) {a0 : Act} {w0 : World} (hm : P.follows .mixedOrders = true)
    (hk0 : okOps ops N = true) (hN : N = a0.tmps.size) (hS : S (Array.replicate ops.size false) w0.drew)
    (hop : ∀ (i : Nat) (o : Oper) (L : Array Bool) (a : Act) (w : World), ops[i]? = some o → L[i]? = some false → L.size = ops.size → S L w → a.defers = a0.defers →
      (∀ (j : Nat) (oj : Oper), ops[j]? = some oj → o.after.any (fun e => e.on == j && Region.binds .any e) = true → L[j]? = some true ∧ ∃ v, V L j v w ∧ ∀ d, oj.dst = some d → a.tmps[d]? = some v) →
      (∀ (j : Nat) (oj : Oper), ops[j]? = some oj → L[j]? = some true → ∃ v, V L j v w) →
      (∀ t : Nat, ops.all (fun o => o.dst != some t) = true → a.tmps[t]? = a0.tmps[t]?) →
      o.wp P a w (StepOk ops V S L i o a w) Q)
    (hfin : ∀ (vs : Nat → Value) (w : World), S (Array.replicate ops.size true) w → (∀ (j : Nat) (oj : Oper), ops[j]? = some oj → V (Array.replicate ops.size true) j (vs j) w) → Q .normal (putAll ops.toList 0 vs a0) w) :
    (Code.region id ops true).wp P Q a0 w0 := by
  refine wp_region_any hm (wpAny_inv (I := fun fuel listed a w => S listed w ∧ listed.size = ops.size ∧ unl listed = fuel ∧ SlotsR ops V a0 listed a w) ?_ ?_ ?_ _ _ _ _ ?_)
  · rintro fuel listed a w ⟨h1, h2, h3, h4⟩ hr
    have hall : ∀ i : Nat, i < ops.size → listed[i]? = some true := by
      intro i
      induction i using Nat.strongRecOn with
      | ind i ih =>
        intro hi
        obtain ⟨o, ho⟩ : ∃ o, ops[i]? = some o := ⟨ops[i], Array.getElem?_eq_getElem hi⟩
        have hil : i < listed.size := by omega
        cases hb : listed[i] with
        | true => rw [Array.getElem?_eq_getElem hil, hb]
        | false =>
          exfalso
          have : i ∈ Region.ready .any ops listed := by
            unfold Region.ready
            rw [List.mem_filter]
            refine ⟨List.mem_range.2 hi, ?_⟩
            rw [ho, Array.getD_eq_getD_getElem?, Array.getElem?_eq_getElem hil, hb]
            simp only [Option.getD_some, Bool.not_false, Bool.true_and, Option.map_some]
            rw [Array.all_eq_true']
            intro e he
            have hei := (okOps_at hk0 ho).2.1 e he
            rw [Array.getD_eq_getD_getElem?, ih e.on hei (by omega)]
            simp
          rw [hr] at this
          cases this
    have hL : listed = Array.replicate ops.size true := by
      apply Array.ext
      · rw [Array.size_replicate]; exact h2
      · intro i hi1 hi2
        have := hall i (by omega)
        rw [Array.getElem?_eq_getElem hi1] at this
        rw [Array.getElem_replicate]
        exact Option.some.inj this
    subst hL
    obtain ⟨d1, d2, d3, d4⟩ := h4
    have hex : ∀ j : Nat, ∃ v, ∀ oj, ops[j]? = some oj → V (Array.replicate ops.size true) j v w ∧ ∀ d, oj.dst = some d → a.tmps[d]? = some v := by
      intro j
      by_cases hj : j < ops.size
      · obtain ⟨v, hv⟩ := d3 j ops[j] (Array.getElem?_eq_getElem hj) (hall j hj)
        refine ⟨v, fun oj hoj => ?_⟩
        rw [Array.getElem?_eq_getElem hj] at hoj
        cases hoj
        exact hv
      · exact ⟨undef, fun oj hoj => absurd (Array.getElem?_eq_some_iff.1 hoj).1 hj⟩
    have ⟨vs, hvs⟩ := Classical.axiomOfChoice hex
    have ha : a = putAll ops.toList 0 vs a0 := by
      apply act_eq
      · rw [putAll_defers]; exact d1
      · apply Array.ext_getElem?
        intro t
        by_cases ht : ∃ (i : Nat) (o : Oper), ops[i]? = some o ∧ o.dst = some t
        · obtain ⟨i, o, ho, hdt⟩ := ht
          rw [(hvs i o ho).2 t hdt, putAll_at ops.toList 0 vs a0 i t o (by rw [Array.getElem?_toList]; exact ho) hdt (by rw [← hN]; exact ((okOps_at hk0 ho).2.2 t hdt).1) (fun j oj hj e => okOps_dst hk0 (by rw [Array.getElem?_toList] at hj; exact hj) ho e hdt), Nat.zero_add]
        · rw [putAll_ne _ _ _ _ _ (fun o ho e => by
            obtain ⟨m, hm, rfl⟩ := List.getElem_of_mem ho
            exact ht ⟨m, _, by rw [← Array.getElem?_toList]; exact List.getElem?_eq_getElem hm, e⟩)]
          exact d4 t (fun i o ho e => ht ⟨i, o, ho, e⟩)
    rw [ha]
    exact hfin vs w h1 (fun j oj hoj => (hvs j oj hoj).1)
  · rintro listed a w ⟨_, h2, h3, _⟩
    cases hr : Region.ready .any ops listed with
    | nil => rfl
    | cons i r =>
      exfalso
      obtain ⟨o, _, hl, _⟩ := ready_facts (md := .any) (i := i) (by rw [hr]; exact List.mem_cons_self) h2
      have := unl_set hl
      omega
  · rintro fuel listed a w i ⟨h1, h2, h3, h4⟩ hi
    obtain ⟨o, ho, hl, haf⟩ := ready_facts hi h2
    have hw : Region.wanted o (yielded ops a.tmps) = true := by simp [Region.wanted, (okOps_at hk0 ho).1]
    unfold wpOp
    rw [ho]
    simp only
    rw [if_pos hw]
    left
    refine Oper.wp_mono ?_ (hop i o listed a w ho hl h2 h1 h4.1 (fun j oj hoj hb => ?_) (fun j oj hoj hlj => (h4.2.2.1 j oj hoj hlj).imp fun _ h => h.1) (fun t ht => h4.2.2.2 t (fun i o ho e => ?_)))
    · rintro a' w' ⟨v, rfl, hv, hs, hk⟩
      exact ⟨hs, by rw [Array.size_setIfInBounds]; exact h2, by have := unl_set hl; omega, slotsR_put hk0 hN h4 ho hl hv hk⟩
    · rw [Array.any_eq_true'] at hb
      obtain ⟨e, he, hb⟩ := hb
      rw [Bool.and_eq_true, beq_iff_eq] at hb
      obtain ⟨rfl, hb⟩ := hb
      exact ⟨haf e he hb, h4.2.2.1 e.on oj hoj (haf e he hb)⟩
    · rw [Array.all_eq_true'] at ht
      have := ht o (Array.mem_of_getElem? ho)
      rw [e] at this
      simp at this
  · refine ⟨hS, by simp, ?_, rfl, rfl, fun i o ho hl => ?_, fun _ _ => rfl⟩
    · unfold unl
      simp
    · rw [Array.getElem?_replicate] at hl
      split at hl <;> cases hl

theorem wp_call1 {o : Oper} {a : Act} {w : World} {K : Act → World → Prop} {f : FuncId} {xs : Array Operand} {ts : Array TypeId} {args : Array Value} {R : Ending → World → Prop}
    (ho : o.op = .call { callee := .value (.func f), args := xs, argTypes := ts }) (hx : xs.map a.eval = args) (hi : (callFunc f args).run P w = .ok (.enter f args) w) (hc : Calls P f args w R)
    (h : ∀ e w', R e w' → match e, w' with
      | .returned v, w'' => K (a.put o.dst v) w''
      | .panicked chain, w'' => Q (.panic chain) a w''
      | .outgrown, _ => LetsOut Q) : o.wp P a w K Q := by
  unfold Oper.wp
  have : (execOp a.eval o).run P w = .ok (.enter f args) w := by
    simp [execOp, ho, resolve, invoke, Act.eval, Deferred.ofValue, go_sem, hx, hi]
  rw [this, Oper.upon_enter]
  exact hc.mono h
end
end Go.Proofs.YtihbpggbpapcfaaGreatDoor

namespace Go.Proofs.YtihbpggbpapcfaaGreatDoor
open Go.RowKit

def AccR {α : Type} (f : L8 → Option (α × L8)) (r : Option (List α × L8)) (xs : List α) (k : Nat) (t : L8) : Prop := r = (repP f k t).map (fun p => (xs ++ p.1, p.2))
section
variable {α : Type} {f : L8 → Option (α × L8)} {r : Option (List α × L8)} {xs : List α} {k : Nat} {t t' : L8} {x : α}
theorem AccR.start (f : L8 → Option (α × L8)) (k : Nat) (t : L8) : AccR f (repP f k t) [] k t := by
  unfold AccR
  cases repP f k t with
  | none => rfl
  | some p => rfl
theorem AccR.stop (h : AccR f r xs 0 t) : r = some (xs, t) := by
  unfold AccR at h
  rw [h]; simp [repP]
theorem AccR.bad (h : AccR f r xs (k + 1) t) (hs : f t = none) : r = none := by
  unfold AccR at h
  rw [h, repP, hs]; rfl
theorem AccR.step (h : AccR f r xs (k + 1) t) (hs : f t = some (x, t')) : AccR f r (xs ++ [x]) k t' := by
  unfold AccR at h ⊢
  rw [h, repP, hs]
  simp only
  cases repP f k t' with
  | none => rfl
  | some p => simp
end
theorem spl_len : ∀ (l : L8), (spl l).length ≤ l.length + 1
  | [] => by simp [spl]
  | c :: r => by
    have h := spl_len r
    have hn := spl_ne r
    unfold spl
    split
    · rw [List.length_cons, List.length_cons]; omega
    · have : 0 < (spl r).length := List.length_pos_iff.2 hn
      rw [List.length_cons, List.length_tail, List.length_cons]; omega
theorem lnP_len4 {r w : L8} {n : Nat} {ws : List L8} {t : L8} (h : lnP r w n = some (ws, t)) : t.length + 1 + n ≤ r.length ∧ ws.length = n := by
  unfold lnP at h
  split at h
  · cases h
  · next l u hc =>
    split at h
    · next hl =>
      simp only [Option.some.injEq, Prod.mk.injEq] at h
      obtain ⟨rfl, rfl⟩ := h
      have h1 := ctl_len hc
      have h2 := spl_len l
      exact ⟨by omega, by rw [List.length_tail]; omega⟩
    · cases h
theorem stepS_len4 {num : L8 → Option Int} {cl r t : L8} {s : Ses} (h : stepS num cl r = some (s, t)) : t.length + 4 ≤ r.length := by
  unfold stepS at h
  split at h
  · cases h
  · next hl =>
    split at h
    · simp only [Option.some.injEq, Prod.mk.injEq] at h
      obtain ⟨_, rfl⟩ := h
      have := (lnP_len4 hl).1; omega
    · cases h
theorem repS_len4 {num : L8 → Option Int} {cl : L8} : ∀ (k : Nat) {r t : L8} {l : List Ses}, repP (stepS num cl) k r = some (l, t) → 4 * l.length + t.length ≤ r.length
  | 0, _, _, _, h => by cases h; simp
  | k + 1, r, t, l, h => by
    unfold repP at h
    split at h
    · cases h
    · next x u hx =>
      split at h
      · cases h
      · next m q hm =>
        simp only [Option.some.injEq, Prod.mk.injEq] at h
        obtain ⟨rfl, rfl⟩ := h
        have h1 := stepS_len4 hx
        have h2 := repS_len4 k hm
        rw [List.length_cons]; omega
theorem stepC_len4 {num : L8 → Option Int} {r t : L8} {c : Chg} (h : stepC num r = some (c, t)) : 4 * (1 + c.2.1.length + c.2.2.length) + t.length ≤ r.length := by
  unfold stepC at h
  split at h
  · cases h
  · next ws u hl =>
    split at h
    · cases h
    · next a ha =>
      split at h
      · cases h
      · next x u2 hx =>
        split at h
        · cases h
        · next b hb =>
          split at h
          · cases h
          · next y u3 hy =>
            simp only [Option.some.injEq, Prod.mk.injEq] at h
            obtain ⟨rfl, rfl⟩ := h
            have h1 := (lnP_len4 hl).1
            have h2 := repS_len4 _ hx
            have h3 := repS_len4 _ hy
            simp only
            omega
theorem repC_len4 {num : L8 → Option Int} : ∀ (k : Nat) {r t : L8} {l : List Chg}, repP (stepC num) k r = some (l, t) → 4 * cntC l + t.length ≤ r.length
  | 0, _, _, _, h => by cases h; simp [cntC]
  | k + 1, r, t, l, h => by
    unfold repP at h
    split at h
    · cases h
    · next x u hx =>
      split at h
      · cases h
      · next m q hm =>
        simp only [Option.some.injEq, Prod.mk.injEq] at h
        obtain ⟨rfl, rfl⟩ := h
        have h1 := stepC_len4 hx
        have h2 := repC_len4 k hm
        rw [cntC_cons]; omega

theorem nuP_range {s : L8} {v : Int} (h : nuP s = some v) : -9223372036854775808 ≤ v ∧ v ≤ 9223372036854775807 := by
  unfold nuP at h
  split at h
  · next u hu =>
    cases h
    unfold Lib.atoiAll at hu
    split at hu
    · cases hu
    · simp only at hu
      split at hu
      · cases hu
      · cases hu
      · split at hu
        · cases hu
        · split at hu
          · cases hu
          · injection hu with hu
            subst hu
            split <;> omega
  · cases h
theorem spl_word : ∀ (l : L8), ∀ w ∈ spl l, w.length ≤ l.length
  | [], w, h => by simp [spl] at h; subst h; simp
  | c :: r, w, h => by
    have ih := spl_word r
    unfold spl at h
    split at h
    · rcases List.mem_cons.1 h with rfl | h
      · simp
      · have := ih w h; rw [List.length_cons]; omega
    · rcases List.mem_cons.1 h with rfl | h
      · rw [List.length_cons, List.length_cons]
        cases hs : spl r with
        | nil => exact absurd hs (spl_ne r)
        | cons x xs =>
          have := ih x (by rw [hs]; exact List.mem_cons_self)
          simpa using this
      · have := ih w (List.mem_of_mem_tail h); rw [List.length_cons]; omega
theorem lnP_word {r w : L8} {n : Nat} {ws : List L8} {t : L8} (h : lnP r w n = some (ws, t)) (i : Nat) : (ws.getD i []).length ≤ r.length := by
  unfold lnP at h
  split at h
  · cases h
  · next l u hc =>
    split at h
    · simp only [Option.some.injEq, Prod.mk.injEq] at h
      obtain ⟨rfl, _⟩ := h
      have h1 := ctl_len hc
      rw [List.getD_eq_getElem?_getD]
      cases hx : (spl l).tail[i]? with
      | none => simp
      | some x =>
        have hm : x ∈ spl l := List.mem_of_mem_tail (List.mem_of_getElem? hx)
        have := spl_word l x hm
        simp only [Option.getD_some]; omega
    · cases h
theorem stepS_sok {cl r t : L8} {s : Ses} {N : Nat} (h : stepS nuP cl r = some (s, t)) (hc : cl.length ≤ N) (hr : r.length ≤ N) (hN : N ≤ 9223372036854775807) : (s.1.length ≤ 9223372036854775807 ∧ s.2.2.2.2.2.length ≤ 9223372036854775807) ∧ -9223372036854775808 ≤ s.2.2.2.1 ∧ s.2.2.2.1 ≤ 9223372036854775807 := by
  unfold stepS at h
  split at h
  · cases h
  · next ws u hl =>
    split at h
    · next a b c d ha hb hcc hd =>
      simp only [Option.some.injEq, Prod.mk.injEq] at h
      obtain ⟨rfl, _⟩ := h
      have h4 := lnP_word hl 4
      unfold mkS
      refine ⟨⟨by simp only; omega, ?_⟩, nuP_range hcc⟩
      simp only
      split
      · simp
      · omega
    · cases h
theorem repS_sok {cl : L8} {N : Nat} (hc : cl.length ≤ N) (hN : N ≤ 9223372036854775807) : ∀ (k : Nat) {r t : L8} {l : List Ses}, r.length ≤ N → repP (stepS nuP cl) k r = some (l, t) → SOk l
  | 0, _, _, _, _, h => by cases h; intro s hs; cases hs
  | k + 1, r, t, l, hr, h => by
    unfold repP at h
    split at h
    · cases h
    · next x u hx =>
      split at h
      · cases h
      · next m q hm =>
        simp only [Option.some.injEq, Prod.mk.injEq] at h
        obtain ⟨rfl, rfl⟩ := h
        have h1 := stepS_len4 hx
        have h2 := repS_sok hc hN k (by omega) hm
        intro s hs
        rcases List.mem_cons.1 hs with rfl | hs
        · exact stepS_sok hx hc hr hN
        · exact h2 s hs
theorem stepC_okP {r t : L8} {c : Chg} (h : stepC nuP r = some (c, t)) (hN : r.length ≤ 9223372036854775807) : c.1.length ≤ 9223372036854775807 ∧ SOk c.2.1 ∧ SOk c.2.2 := by
  unfold stepC at h
  split at h
  · cases h
  · next ws u hl =>
    split at h
    · cases h
    · next a ha =>
      split at h
      · cases h
      · next x u2 hx =>
        split at h
        · cases h
        · next b hb =>
          split at h
          · cases h
          · next y u3 hy =>
            simp only [Option.some.injEq, Prod.mk.injEq] at h
            obtain ⟨rfl, rfl⟩ := h
            have h0 := lnP_word hl 0
            have h1 := (lnP_len4 hl).1
            have h2 := repS_len4 _ hx
            exact ⟨by simp only; omega, repS_sok h0 hN _ (by omega) hx, repS_sok h0 hN _ (by omega) hy⟩
theorem repC_okP : ∀ (k : Nat) {r t : L8} {l : List Chg}, r.length ≤ 9223372036854775807 → repP (stepC nuP) k r = some (l, t) → ∀ c ∈ l, c.1.length ≤ 9223372036854775807 ∧ SOk c.2.1 ∧ SOk c.2.2
  | 0, _, _, _, _, h => by cases h; intro s hs; cases hs
  | k + 1, r, t, l, hr, h => by
    unfold repP at h
    split at h
    · cases h
    · next x u hx =>
      split at h
      · cases h
      · next m q hm =>
        simp only [Option.some.injEq, Prod.mk.injEq] at h
        obtain ⟨rfl, rfl⟩ := h
        have h1 := stepC_len4 hx
        have h2 := repC_okP k (by omega) hm
        intro s hs
        rcases List.mem_cons.1 hs with rfl | hs
        · exact stepC_okP hx hr
        · exact h2 s hs

def SsR (r : Option (List Ses × L8)) (w0 : World) (b : Nat) (w : World) (e : Ending) (w' : World) : Prop :=
  (match r with
   | none => e = .panicked badP
   | some (xs, t) => ∃ v, e = .returned v ∧ SRow w' w.heap.size v xs ∧ RdB w0 w' b t) ∧ Below w0.heap.size w0 w' ∧ Keep b w w'
theorem SsR.bad {r : Option (List Ses × L8)} {w0 w w' : World} {b : Nat} (h : r = none) (hb : Below w0.heap.size w0 w') (hk : Keep b w w') : SsR r w0 b w (.panicked badP) w' := by subst h; exact ⟨rfl, hb, hk⟩
theorem SsR.ok {r : Option (List Ses × L8)} {w0 w w' : World} {b : Nat} {xs : List Ses} {t : L8} {v : Value} (h : r = some (xs, t)) (hr : SRow w' w.heap.size v xs) (hd : RdB w0 w' b t) (hk : Keep b w w') : SsR r w0 b w (.returned v) w' := by
  subst h; exact ⟨⟨v, rfl, hr, hd⟩, hd.bl, hk⟩
end Go.Proofs.YtihbpggbpapcfaaGreatDoor
