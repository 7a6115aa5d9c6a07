/- A statement whose order is drawn, whose guards are decided by what is known. -/
import Derived.Test.YtcifdllbnbhcdaaGreatDoorMV04
namespace Go.Proofs.YtcifdllbnbhcdaaGreatDoor.Rc
open Go.RowKit

section
variable {P : Program} {ops : Array Oper} {Q : Exit → Act → World → Prop} {md : Region.Mode}
/-- A STATEMENT WHOSE ORDER IS DRAWN: of each operation's value something is known, which the operations behind it keep (or consume). -/
theorem wp_region_relM0 {id N : Nat} (G : Nat → Bool) (V : Array Bool → Nat → Value → World → Prop) (S : Array Bool → World → Prop) {a0 : Act} {w0 : World} (hm : P.follows .mixedOrders = true)
    (hk0 : okOpsG ops N = true) (hN : N = a0.tmps.size) (hS : S (Array.replicate ops.size false) w0.drew)
    (hgv : ∀ (i : Nat) (o : Oper) (g : Nat) (b : Bool), ops[i]? = some o → o.guard = some (g, b) → ∀ L v w, V L g v w → v = .bool (bif G i then b else !b))
    (hop : ∀ (i : Nat) (o : Oper) (L : Array Bool) (a : Act) (w : World), ops[i]? = some o → L[i]? = some false → L.size = ops.size → S L w → a.defers = a0.defers →
      (∀ (j : Nat) (oj : Oper), ops[j]? = some oj → o.after.any (fun e => e.on == j && Region.binds .any e) = true → L[j]? = some true ∧ ∃ v, V L j v w ∧ ∀ d, oj.dst = some d → a.tmps[d]? = some v) →
      (∀ (j : Nat) (oj : Oper), ops[j]? = some oj → L[j]? = some true → ∃ v, V L j v w) →
      (∀ t : Nat, ops.all (fun o => o.dst != some t) = true → a.tmps[t]? = a0.tmps[t]?) →
      (o.guard = none ∨ G i = true → o.wp P a w (StepOk ops V S L i o a w) Q) ∧ (o.guard ≠ none → G i = false → StepOk ops V S L i o a w (a.put o.dst undef) w))
    (hfin : ∀ (vs : Nat → Value) (w : World), S (Array.replicate ops.size true) w → (∀ (j : Nat) (oj : Oper), ops[j]? = some oj → V (Array.replicate ops.size true) j (vs j) w) → Q .normal (putAll ops.toList 0 vs a0) w) :
    (Code.region id ops true).wp P Q a0 w0 := by
  refine wp_region_any hm (wpAny_inv (I := fun fuel listed a w => S listed w ∧ listed.size = ops.size ∧ unl listed = fuel ∧ SlotsR ops V a0 listed a w) ?_ ?_ ?_ _ _ _ _ ?_)
  · rintro fuel listed a w ⟨h1, h2, h3, h4⟩ hr
    have hall : ∀ i : Nat, i < ops.size → listed[i]? = some true := by
      intro i
      induction i using Nat.strongRecOn with
      | ind i ih =>
        intro hi
        obtain ⟨o, ho⟩ : ∃ o, ops[i]? = some o := ⟨ops[i], Array.getElem?_eq_getElem hi⟩
        have hil : i < listed.size := by omega
        cases hb : listed[i] with
        | true => rw [Array.getElem?_eq_getElem hil, hb]
        | false =>
          exfalso
          have : i ∈ Region.ready .any ops listed := by
            unfold Region.ready
            rw [List.mem_filter]
            refine ⟨List.mem_range.2 hi, ?_⟩
            rw [ho, Array.getD_eq_getD_getElem?, Array.getElem?_eq_getElem hil, hb]
            simp only [Option.getD_some, Bool.not_false, Bool.true_and, Option.map_some]
            rw [Array.all_eq_true']
            intro e he
            rcases (okOpsG_at hk0 ho).2.1 e he with hei | hei
            · rw [Array.getD_eq_getD_getElem?, ih e.on hei (by omega)]
              simp
            · simp [hei]
          rw [hr] at this
          cases this
    have hL : listed = Array.replicate ops.size true := by
      apply Array.ext
      · rw [Array.size_replicate]; exact h2
      · intro i hi1 hi2
        have := hall i (by omega)
        rw [Array.getElem?_eq_getElem hi1] at this
        rw [Array.getElem_replicate]
        exact Option.some.inj this
    subst hL
    obtain ⟨d1, d2, d3, d4⟩ := h4
    have hex : ∀ j : Nat, ∃ v, ∀ oj, ops[j]? = some oj → V (Array.replicate ops.size true) j v w ∧ ∀ d, oj.dst = some d → a.tmps[d]? = some v := by
      intro j
      by_cases hj : j < ops.size
      · obtain ⟨v, hv⟩ := d3 j ops[j] (Array.getElem?_eq_getElem hj) (hall j hj)
        refine ⟨v, fun oj hoj => ?_⟩
        rw [Array.getElem?_eq_getElem hj] at hoj
        cases hoj
        exact hv
      · exact ⟨undef, fun oj hoj => absurd (Array.getElem?_eq_some_iff.1 hoj).1 hj⟩
    have ⟨vs, hvs⟩ := Classical.axiomOfChoice hex
    have ha : a = putAll ops.toList 0 vs a0 := by
      apply act_eq
      · rw [putAll_defers]; exact d1
      · apply Array.ext_getElem?
        intro t
        by_cases ht : ∃ (i : Nat) (o : Oper), ops[i]? = some o ∧ o.dst = some t
        · obtain ⟨i, o, ho, hdt⟩ := ht
          rw [(hvs i o ho).2 t hdt, putAll_at ops.toList 0 vs a0 i t o (by rw [Array.getElem?_toList]; exact ho) hdt (by rw [← hN]; exact ((okOpsG_at hk0 ho).2.2 t hdt).1) (fun j oj hj e => okOpsG_dst hk0 (by rw [Array.getElem?_toList] at hj; exact hj) ho e hdt), Nat.zero_add]
        · rw [putAll_ne _ _ _ _ _ (fun o ho e => by
            obtain ⟨m, hm, rfl⟩ := List.getElem_of_mem ho
            exact ht ⟨m, _, by rw [← Array.getElem?_toList]; exact List.getElem?_eq_getElem hm, e⟩)]
          exact d4 t (fun i o ho e => ht ⟨i, o, ho, e⟩)
    rw [ha]
    exact hfin vs w h1 (fun j oj hoj => (hvs j oj hoj).1)
  · rintro listed a w ⟨_, h2, h3, _⟩
    cases hr : Region.ready .any ops listed with
    | nil => rfl
    | cons i r =>
      exfalso
      obtain ⟨o, _, hl, _⟩ := ready_facts (md := .any) (i := i) (by rw [hr]; exact List.mem_cons_self) h2
      have := unl_set hl
      omega
  · rintro fuel listed a w i ⟨h1, h2, h3, h4⟩ hi
    obtain ⟨o, ho, hl, haf⟩ := ready_facts hi h2
    have hst : ∀ a' w', StepOk ops V S listed i o a w a' w' → S (listed.setIfInBounds i true) w' ∧ (listed.setIfInBounds i true).size = ops.size ∧ unl (listed.setIfInBounds i true) = fuel ∧ SlotsR ops V a0 (listed.setIfInBounds i true) a' w' := by
      rintro a' w' ⟨v, rfl, hv, hs, hk⟩
      exact ⟨hs, by rw [Array.size_setIfInBounds]; exact h2, by have := unl_set hl; omega, slotsR_putG hk0 hN h4 ho hl hv hk⟩
    have hoi := hop i o listed a w ho hl h2 h1 h4.1 (fun j oj hoj hb => by
        rw [Array.any_eq_true'] at hb
        obtain ⟨e, he, hb⟩ := hb
        rw [Bool.and_eq_true, beq_iff_eq] at hb
        obtain ⟨rfl, hb⟩ := hb
        exact ⟨haf e he hb, h4.2.2.1 e.on oj hoj (haf e he hb)⟩) (fun j oj hoj hlj => (h4.2.2.1 j oj hoj hlj).imp fun _ h => h.1) (fun t ht => h4.2.2.2 t (fun i o ho e => by
        rw [Array.all_eq_true'] at ht
        have := ht o (Array.mem_of_getElem? ho)
        rw [e] at this
        simp at this))
    unfold wpOp
    rw [ho]
    simp only
    cases hgu : o.guard with
    | none =>
      rw [if_pos (by simp [Region.wanted, hgu])]
      left
      exact Oper.wp_mono hst (hoi.1 (Or.inl hgu))
    | some gb =>
      have hg1 := (okOpsG_at hk0 ho).1
      unfold gdOk at hg1
      obtain ⟨g, b⟩ := gb
      rw [hgu] at hg1
      simp only [Bool.and_eq_true] at hg1
      obtain ⟨ha1, ha2⟩ := hg1
      have hw : Region.wanted o (yielded ops a.tmps) = G i := by
        cases hog : ops[g]? with
        | none => rw [hog] at ha2; cases ha2
        | some og =>
          rw [hog] at ha2
          obtain ⟨d, hd⟩ := Option.isSome_iff_exists.1 ha2
          rw [Array.any_eq_true'] at ha1
          obtain ⟨e, he, hb⟩ := ha1
          rw [Bool.and_eq_true, beq_iff_eq] at hb
          obtain ⟨rfl, hb⟩ := hb
          obtain ⟨v, hv, hs⟩ := h4.2.2.1 e.on og hog (haf e he hb)
          have hvb := hgv i o e.on b ho hgu _ _ _ hv
          have hsl := hs d hd
          subst hvb
          cases hG : G i <;> simp [Region.wanted, hgu, yielded, hog, hd, hsl, hG]
      cases hG : G i with
      | true =>
        rw [hG] at hw
        rw [if_pos hw]
        left
        exact Oper.wp_mono hst (hoi.1 (Or.inr hG))
      | false =>
        rw [hG] at hw
        rw [if_neg (by rw [hw]; decide)]
        exact hst _ _ (hoi.2 (by rw [hgu]; simp) hG)
  · refine ⟨hS, by simp, ?_, rfl, rfl, fun i o ho hl => ?_, fun _ _ => rfl⟩
    · unfold unl
      simp
    · rw [Array.getElem?_replicate] at hl
      split at hl <;> cases hl
end

theorem wp_region_relM {P : Program} {ops : Array Oper} {Q : Exit → Act → World → Prop} {id N : Nat} (G : Nat → Bool) (V : Array Bool → Nat → Value → World → Prop) (S : Array Bool → World → Prop) {a0 : Act} {w0 : World} (hm : P.follows .mixedOrders = true)
    (hk0 : okOpsG ops N = true) (hN : N = a0.tmps.size) (hS : S (Array.replicate ops.size false) w0.drew)
    (hgv : ∀ (i : Nat) (o : Oper) (g : Nat) (b : Bool), ops[i]? = some o → o.guard = some (g, b) → ∀ L v w, V L g v w → v = .bool (bif G i then b else !b))
    (hop : ∀ (i : Nat) (o : Oper) (L : Array Bool) (a : Act) (w : World), ops[i]? = some o → L[i]? = some false → L.size = ops.size → S L w → a.defers = a0.defers →
      (∀ (j : Nat) (oj : Oper), ops[j]? = some oj → o.after.any (fun e => e.on == j && Region.binds .any e) = true → L[j]? = some true ∧ ∃ v, V L j v w ∧ ∀ d, oj.dst = some d → a.tmps[d]? = some v) →
      (∀ (j : Nat) (oj : Oper), ops[j]? = some oj → L[j]? = some true → ∃ v, V L j v w) →
      (∀ t : Nat, ops.all (fun o => o.dst != some t) = true → a.tmps[t]? = a0.tmps[t]?) →
      (∀ (p : Nat) (op : Oper), ops[p]? = some op → L[p]? = some true → ∀ (j : Nat) (oj : Oper), ops[j]? = some oj → op.after.any (fun e => e.on == j && Region.binds .any e) = true → L[j]? = some true) →
      (o.guard = none ∨ G i = true → o.wp P a w (StepOk ops V S L i o a w) Q) ∧ (o.guard ≠ none → G i = false → StepOk ops V S L i o a w (a.put o.dst undef) w))
    (hfin : ∀ (vs : Nat → Value) (w : World), S (Array.replicate ops.size true) w → (∀ (j : Nat) (oj : Oper), ops[j]? = some oj → V (Array.replicate ops.size true) j (vs j) w) → Q .normal (putAll ops.toList 0 vs a0) w) :
    (Code.region id ops true).wp P Q a0 w0 := by
  refine wp_region_relM0 G V (fun L W => (∀ (p : Nat) (op : Oper), ops[p]? = some op → L[p]? = some true → ∀ (j : Nat) (oj : Oper), ops[j]? = some oj → op.after.any (fun e => e.on == j && Region.binds .any e) = true → L[j]? = some true) ∧ S L W) hm hk0 hN ⟨fun p op hp h => ?_, hS⟩ hgv ?_ ?_
  · rw [Array.getElem?_replicate] at h
    split at h <;> cases h
  · intro i o L a w ho hl hsz hS' hdf dep all fr
    have hst : ∀ a' w', StepOk ops V S L i o a w a' w' → StepOk ops V (fun L W => (∀ (p : Nat) (op : Oper), ops[p]? = some op → L[p]? = some true → ∀ (j : Nat) (oj : Oper), ops[j]? = some oj → op.after.any (fun e => e.on == j && Region.binds .any e) = true → L[j]? = some true) ∧ S L W) L i o a w a' w' := by
      intro a' w' h
      obtain ⟨v, e1, e2, e3, e4⟩ := h
      refine ⟨v, e1, e2, ⟨fun p op hp h j oj hj ha => ?_, e3⟩, e4⟩
      by_cases hpi : p = i
      · subst hpi
        obtain rfl := Option.some.inj (ho.symm.trans hp)
        exact listed_more (dep j oj hj ha).1
      · rw [Array.getElem?_setIfInBounds_ne (fun e => hpi e.symm)] at h
        exact listed_more (hS'.1 p op hp h j oj hj ha)
    have ho2 := hop i o L a w ho hl hsz hS'.2 hdf dep all fr hS'.1
    exact ⟨fun hg => Oper.wp_mono hst (ho2.1 hg), fun hg hn => hst _ _ (ho2.2 hg hn)⟩
  · intro vs w hS' hV
    exact hfin vs w hS'.2 hV
end Go.Proofs.YtcifdllbnbhcdaaGreatDoor.Rc
