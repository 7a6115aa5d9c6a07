/- Texts V25, VB, V91, V94, V134, W1, W2, W4, joined: walks and laws. -/
import Derived.Lib.AtoiTie
import Derived.Lib.ItoaLen
import Derived.Lib.Join
import Derived.Test.YtcifdllbnbhcdaaGreatDoorMV02
import Derived.Test.YtcifdllbnbhcdaaGreatDoorMV03
namespace Go.Proofs.YtcifdllbnbhcdaaGreatDoor
open Go.RowKit
def ResS (r : Int × List Ses) (w : World) (e : Ending) (w' : World) : Prop := ∃ v, e = .returned (.tuple #[v, .int .i64 r.1]) ∧ SRow w' w.heap.size v r.2 ∧ Below w.heap.size w w'
theorem ResS.err {r : Int × List Ses} {w w' : World} {x : Int} (h : r = (x, [])) (hb : Below w.heap.size w w') : ResS r w (.returned (.tuple #[.slice none 0 0, .int .i64 x])) w' := by
  subst h; exact ⟨_, rfl, World.ownsRow_nil _ _ _ _, hb⟩
theorem ResS.mk {r : Int × List Ses} {w w' : World} {v : Value} {x : Int} {ss : List Ses} (h : r = (x, ss)) (hr : SRow w' w.heap.size v ss) (hb : Below w.heap.size w w') : ResS r w (.returned (.tuple #[v, .int .i64 x])) w' := by
  subst h; exact ⟨_, rfl, hr, hb⟩
theorem nomet_of {xs : List Ses} (h : ∀ (i k : Nat) (s t : Ses), xs[i]? = some s → xs[k]? = some t → k < i → metS s t = false) : NoMet xs := by
  unfold NoMet
  rw [List.pairwise_iff_getElem]
  intro i j hi hj hij
  rw [metS_comm]
  exact h j i _ _ (List.getElem?_eq_getElem hj) (List.getElem?_eq_getElem hi) hij
theorem not_nomet {xs : List Ses} {i k : Nat} {s t : Ses} (hs : xs[i]? = some s) (ht : xs[k]? = some t) (hk : k < i) (hm : metS s t = true) : ¬ NoMet xs := by
  intro h
  unfold NoMet at h
  obtain ⟨hi, rfl⟩ := List.getElem?_eq_some_iff.1 hs
  obtain ⟨hk', rfl⟩ := List.getElem?_eq_some_iff.1 ht
  have := List.pairwise_iff_getElem.1 h k i hk' hi hk
  rw [metS_comm, this] at hm; cases hm
end Go.Proofs.YtcifdllbnbhcdaaGreatDoor
namespace Go.Proofs.YtcifdllbnbhcdaaGreatDoor
open Go.RowKit
structure BX (w0 w : World) (R : Nat) (vs : Array Value) (T : TypeId) : Prop where
  hp : w.heap[R]? = some (.cells vs T (0, 0))
  lo : w0.heap.size ≤ R
  bl : Below w0.heap.size w0 w
section
variable {w0 w w2 : World} {R : Nat} {vs : Array Value} {T : TypeId}
theorem BX.next (h : BX w0 w R vs T) (hb : Below w.heap.size w w2) : BX w0 w2 R vs T := ⟨by rw [hb.block R (lt_of_heap h.hp)]; exact h.hp, h.lo, below3 h.bl hb⟩
theorem BX.lt (h : BX w0 w R vs T) : R < w.heap.size := lt_of_heap h.hp
theorem BX.cell (h : BX w0 w R vs T) (i : Nat) : w.cell? ⟨R, i, none⟩ = vs[i]? := cell_of_row _ _ i _ _ _ h.hp
theorem BX.fz (h : BX w0 w R vs T) (i : Nat) : w.frozen? ⟨R, i, none⟩ = false := frozen_of_row _ _ _ _ _ h.hp
theorem BX.set (h : BX w0 w R vs T) (i : Nat) (u : Value) : BX w0 (w.setCell ⟨R, i, none⟩ u) R (vs.setIfInBounds i u) T :=
  ⟨heap_setCell_same _ R i _ _ _ h.hp, h.lo, h.bl.setCell (p := ⟨R, i, none⟩) h.lo u⟩
theorem BX.mk0 (w : World) : BX w (w.alloc (.cells vs T)) w.heap.size vs T := ⟨heap_alloc_new _ _, Nat.le_refl _, (Below.refl _ _).alloc (Nat.le_refl _) _⟩
theorem BX.four {v0 v1 v2 v3 : Value} (h : BX w0 w R #[v0, v1, v2, v3] T) : (w.cell? ⟨R, 0, none⟩ = some v0 ∧ w.cell? ⟨R, 1, none⟩ = some v1 ∧ w.cell? ⟨R, 2, none⟩ = some v2 ∧ w.cell? ⟨R, 3, none⟩ = some v3) ∧ w.frozen? ⟨R, 0, none⟩ = false ∧ w.frozen? ⟨R, 1, none⟩ = false ∧ w.frozen? ⟨R, 2, none⟩ = false ∧ w.frozen? ⟨R, 3, none⟩ = false :=
  ⟨⟨h.cell 0, h.cell 1, h.cell 2, h.cell 3⟩, h.fz 0, h.fz 1, h.fz 2, h.fz 3⟩
end
theorem BX.bel {w0 w w2 : World} {R B : Nat} {vs : Array Value} {T : TypeId} (h : BX w0 w R vs T) (hb : Below B w w2) (hR : R < B) (hB : w0.heap.size ≤ B) : BX w0 w2 R vs T := ⟨by rw [hb.block R hR]; exact h.hp, h.lo, h.bl.trans (hb.mono hB)⟩
theorem BX.set4 {w0 w : World} {R : Nat} {v0 v1 v2 v3 : Value} {T : TypeId} (h : BX w0 w R #[v0, v1, v2, v3] T) (u0 u1 u2 u3 : Value) : BX w0 ((((w.setCell ⟨R, 0, none⟩ u0).setCell ⟨R, 1, none⟩ u1).setCell ⟨R, 2, none⟩ u2).setCell ⟨R, 3, none⟩ u3) R #[u0, u1, u2, u3] T := (((h.set 0 u0).set 1 u1).set 2 u2).set 3 u3
end Go.Proofs.YtcifdllbnbhcdaaGreatDoor
namespace Go.Proofs.YtcifdllbnbhcdaaGreatDoor
open Go.RowKit
section
variable {P : Program} {ops : Array Oper} {Q : Exit → Act → World → Prop} {md : Region.Mode}
theorem wpAny_inv {I : Nat → Array Bool → Act → World → Prop}
    (h0 : ∀ fuel listed a w, I fuel listed a w → Region.ready md ops listed = [] → Q .normal a w)
    (hz : ∀ listed a w, I 0 listed a w → Region.ready md ops listed = [])
    (hs : ∀ fuel listed a w i, I (fuel + 1) listed a w → i ∈ Region.ready md ops listed → wpOp P ops Q i (I fuel (listed.setIfInBounds i true)) a w) :
    ∀ fuel listed a w, I fuel listed a w → wpAny P md ops Q fuel listed a w
  | 0, _listed, _a, _w, h => ⟨hz _ _ _ h, h0 _ _ _ _ h (hz _ _ _ h)⟩
  | fuel + 1, listed, a, w, h => ⟨h0 _ _ _ _ h, fun i hi => wpOp_mono (fun a w => wpAny_inv h0 hz hs fuel _ a w) (hs fuel listed a w i h hi)⟩
def unl (listed : Array Bool) : Nat := (listed.toList.filter (fun b => !b)).length
theorem unl_set {listed : Array Bool} {i : Nat} (h : listed[i]? = some false) : unl listed = unl (listed.setIfInBounds i true) + 1 := by
  obtain ⟨l⟩ := listed
  unfold unl
  simp only [List.setIfInBounds_toArray, List.getElem?_toArray] at h ⊢
  induction l generalizing i with
  | nil => simp at h
  | cons b l ih =>
    cases i with
    | zero =>
      simp only [List.getElem?_cons_zero, Option.some.injEq] at h
      subst h
      simp
    | succ i =>
      simp only [List.getElem?_cons_succ] at h
      have := ih h
      simp only [List.set_cons_succ, List.filter_cons]
      cases b
      · simp only [Bool.not_false, if_true, List.length_cons]; omega
      · simpa using this
theorem ready_facts {listed : Array Bool} {i : Nat} (h : i ∈ Region.ready md ops listed) (hsz : listed.size = ops.size) : ∃ o, ops[i]? = some o ∧ listed[i]? = some false ∧ ∀ e ∈ o.after, Region.binds md e = true → listed[e.on]? = some true := by
  unfold Region.ready at h
  rw [List.mem_filter] at h
  obtain ⟨h1, h2⟩ := h
  have hi : i < ops.size := List.mem_range.1 h1
  obtain ⟨o, ho⟩ : ∃ o, ops[i]? = some o := ⟨ops[i], Array.getElem?_eq_getElem hi⟩
  rw [ho, Bool.and_eq_true] at h2
  obtain ⟨h3, h4⟩ := h2
  refine ⟨o, ho, ?_, fun e he hb => ?_⟩
  · have hl : i < listed.size := by omega
    rw [Array.getElem?_eq_getElem hl]
    rw [Array.getD_eq_getD_getElem?, Array.getElem?_eq_getElem hl] at h3
    simpa using h3
  · simp only [Option.map_some, Option.getD_some] at h4
    rw [Array.all_eq_true'] at h4
    have := h4 e he
    rw [hb] at this
    simp only [Bool.not_true, Bool.false_or] at this
    rw [Array.getD_eq_getD_getElem?] at this
    cases hx : listed[e.on]? with
    | none => rw [hx] at this; simp at this
    | some b => rw [hx] at this; simp at this; rw [this]
end
end Go.Proofs.YtcifdllbnbhcdaaGreatDoor
namespace Go.Proofs.YtcifdllbnbhcdaaGreatDoor
open Go.RowKit
section
variable {P : Program} {ops : Array Oper} {Q : Exit → Act → World → Prop} {md : Region.Mode}
def okOps (ops : Array Oper) (N : Nat) : Bool :=
  (List.range ops.size).all fun i => match ops[i]? with
    | none => true
    | some o => o.guard.isNone && o.after.all (fun e => decide (e.on < i)) && (match o.dst with
      | none => true
      | some d => decide (d < N) && (List.range i).all (fun j => match ops[j]? with
        | none => true
        | some oj => oj.dst != some d))
theorem okOps_at {N i : Nat} {o : Oper} (h : okOps ops N = true) (ho : ops[i]? = some o) : o.guard = none ∧ (∀ e ∈ o.after, e.on < i) ∧ ∀ d, o.dst = some d → d < N ∧ ∀ (j : Nat) (oj : Oper), j < i → ops[j]? = some oj → oj.dst ≠ some d := by
  have hi : i < ops.size := (Array.getElem?_eq_some_iff.1 ho).1
  unfold okOps at h
  rw [List.all_eq_true] at h
  have := h i (List.mem_range.2 hi)
  rw [ho] at this
  simp only [Bool.and_eq_true] at this
  obtain ⟨⟨h1, h2⟩, h3⟩ := this
  refine ⟨by simpa using h1, fun e he => ?_, fun d hd => ?_⟩
  · rw [Array.all_eq_true'] at h2
    exact of_decide_eq_true (h2 e he)
  · rw [hd] at h3
    simp only [Bool.and_eq_true, decide_eq_true_eq, List.all_eq_true] at h3
    refine ⟨h3.1, fun j oj hj hoj => ?_⟩
    have := h3.2 j (List.mem_range.2 hj)
    rw [hoj] at this
    simpa using this
theorem okOps_dst {N i j : Nat} {oi oj : Oper} {d : Nat} (h : okOps ops N = true) (hi : ops[i]? = some oi) (hj : ops[j]? = some oj) (di : oi.dst = some d) (dj : oj.dst = some d) : i = j := by
  rcases Nat.lt_trichotomy i j with hlt | heq | hgt
  · exact absurd di (((okOps_at h hj).2.2 d dj).2 i oi hlt hi)
  · exact heq
  · exact absurd dj (((okOps_at h hi).2.2 d di).2 j oj hgt hj)
def putAll : List Oper → Nat → (Nat → Value) → Act → Act
  | [], _, _, a => a
  | o :: r, i, vs, a => putAll r (i + 1) vs (a.put o.dst (vs i))
theorem putAll_defers : ∀ (l : List Oper) (i : Nat) (vs : Nat → Value) (a : Act), (putAll l i vs a).defers = a.defers
  | [], _, _, _ => rfl
  | o :: r, i, vs, a => by rw [putAll, putAll_defers r]; cases o.dst <;> rfl
theorem putAll_size : ∀ (l : List Oper) (i : Nat) (vs : Nat → Value) (a : Act), (putAll l i vs a).tmps.size = a.tmps.size
  | [], _, _, _ => rfl
  | o :: r, i, vs, a => by
    rw [putAll, putAll_size r]
    cases o.dst with
    | none => rfl
    | some d => show (a.tmps.setIfInBounds d _).size = _; rw [Array.size_setIfInBounds]
theorem put_ne {a : Act} {x : Option Nat} {v : Value} {t : Nat} (h : x ≠ some t) : (a.put x v).tmps[t]? = a.tmps[t]? := by
  cases x with
  | none => rfl
  | some d =>
    show (a.tmps.setIfInBounds d _)[t]? = _
    rw [Array.getElem?_setIfInBounds_ne (fun e => h (by rw [e]))]
theorem putAll_ne : ∀ (l : List Oper) (i : Nat) (vs : Nat → Value) (a : Act) (t : Nat), (∀ o ∈ l, o.dst ≠ some t) → (putAll l i vs a).tmps[t]? = a.tmps[t]?
  | [], _, _, _, _, _ => rfl
  | o :: r, i, vs, a, t, h => by
    rw [putAll, putAll_ne r _ _ _ _ (fun x hx => h x (List.mem_cons_of_mem _ hx)), put_ne (h o List.mem_cons_self)]
theorem putAll_at : ∀ (l : List Oper) (i : Nat) (vs : Nat → Value) (a : Act) (k t : Nat) (o : Oper), l[k]? = some o → o.dst = some t → t < a.tmps.size → (∀ (j : Nat) (oj : Oper), l[j]? = some oj → oj.dst = some t → j = k) → (putAll l i vs a).tmps[t]? = some (vs (i + k))
  | [], _, _, _, k, _, _, h, _, _, _ => by simp at h
  | o :: r, i, vs, a, 0, t, x, h, hd, hs, hu => by
    simp only [List.getElem?_cons_zero, Option.some.injEq] at h
    subst h
    rw [putAll, putAll_ne r _ _ _ _ (fun y hy e => by
      obtain ⟨m, hm, rfl⟩ := List.getElem_of_mem hy
      have := hu (m + 1) _ (by rw [List.getElem?_cons_succ]; exact List.getElem?_eq_getElem hm) e
      omega), hd]
    show (a.tmps.setIfInBounds t _)[t]? = _
    rw [Array.getElem?_setIfInBounds_self_of_lt hs]; rfl
  | o :: r, i, vs, a, k + 1, t, x, h, hd, hs, hu => by
    simp only [List.getElem?_cons_succ] at h
    rw [putAll, putAll_at r (i + 1) vs _ k t x h hd (by
      have := putAll_size [o] i vs a
      simp only [putAll] at this
      rw [this]; exact hs) (fun j oj hj e => by
      have := hu (j + 1) oj (by rw [List.getElem?_cons_succ]; exact hj) e
      omega)]
    rw [show i + 1 + k = i + (k + 1) by omega]
theorem act_eq {a b : Act} (h1 : a.defers = b.defers) (h2 : a.tmps = b.tmps) : a = b := by cases a; cases b; simp_all
def SlotsR (ops : Array Oper) (V : Array Bool → Nat → Value → World → Prop) (a0 : Act) (listed : Array Bool) (a : Act) (w : World) : Prop :=
  a.defers = a0.defers ∧ a.tmps.size = a0.tmps.size ∧
  (∀ (i : Nat) (o : Oper), ops[i]? = some o → listed[i]? = some true → ∃ v, V listed i v w ∧ ∀ d, o.dst = some d → a.tmps[d]? = some v) ∧
  (∀ t : Nat, (∀ (i : Nat) (o : Oper), ops[i]? = some o → o.dst ≠ some t) → a.tmps[t]? = a0.tmps[t]?)
theorem slotsR_put {V : Array Bool → Nat → Value → World → Prop} {a0 a : Act} {listed : Array Bool} {i N : Nat} {o : Oper} {w w' : World} {v : Value} (hk0 : okOps ops N = true) (hN : N = a0.tmps.size) (h : SlotsR ops V a0 listed a w) (ho : ops[i]? = some o) (hl : listed[i]? = some false)
    (hv : V (listed.setIfInBounds i true) i v w') (hk : ∀ (j : Nat) (oj : Oper) (u : Value), ops[j]? = some oj → j ≠ i → listed[j]? = some true → (∀ d, oj.dst = some d → a.tmps[d]? = some u) → V listed j u w → V (listed.setIfInBounds i true) j u w') :
    SlotsR ops V a0 (listed.setIfInBounds i true) (a.put o.dst v) w' := by
  obtain ⟨h1, h2, h3, h4⟩ := h
  have hlist : ∀ j : Nat, j ≠ i → (listed.setIfInBounds i true)[j]? = some true → listed[j]? = some true := fun j hj hx => by
    rw [Array.getElem?_setIfInBounds_ne (Ne.symm hj)] at hx; exact hx
  have hsz : (a.put o.dst v).tmps.size = a0.tmps.size := by
    have := putAll_size [o] 0 (fun _ => v) a
    simp only [putAll] at this
    rw [this, h2]
  have hdf : (a.put o.dst v).defers = a0.defers := by
    have := putAll_defers [o] 0 (fun _ => v) a
    simp only [putAll] at this
    rw [this, h1]
  refine ⟨hdf, hsz, fun j oj hoj hlj => ?_, fun t ht => ?_⟩
  · by_cases hji : j = i
    · subst hji
      rw [ho] at hoj; cases hoj
      refine ⟨v, hv, fun d hdj => ?_⟩
      rw [hdj]
      show (a.tmps.setIfInBounds d _)[d]? = _
      rw [Array.getElem?_setIfInBounds_self_of_lt (by rw [h2, ← hN]; exact ((okOps_at hk0 ho).2.2 d hdj).1)]
    · obtain ⟨u, hu, hq⟩ := h3 j oj hoj (hlist j hji hlj)
      refine ⟨u, hk j oj u hoj hji (hlist j hji hlj) hq hu, fun d hdj => ?_⟩
      rw [put_ne (fun e => hji (okOps_dst hk0 hoj ho hdj e))]
      exact hq d hdj
  · rw [put_ne (ht i o ho)]
    exact h4 t ht
def StepOk (ops : Array Oper) (V : Array Bool → Nat → Value → World → Prop) (S : Array Bool → World → Prop) (L : Array Bool) (i : Nat) (o : Oper) (a : Act) (w : World) (a' : Act) (w' : World) : Prop :=
  ∃ v, a' = a.put o.dst v ∧ V (L.setIfInBounds i true) i v w' ∧ S (L.setIfInBounds i true) w' ∧ ∀ (j : Nat) (oj : Oper) (u : Value), ops[j]? = some oj → j ≠ i → L[j]? = some true → (∀ d, oj.dst = some d → a.tmps[d]? = some u) → V L j u w → V (L.setIfInBounds i true) j u w'
theorem wp_region_rel {id N : Nat} (V : Array Bool → Nat → Value → World → Prop) (S : Array Bool → World → Prop) {a0 : Act} {w0 : World} (hm : P.follows .mixedOrders = true)
    (hk0 : okOps ops N = true) (hN : N = a0.tmps.size) (hS : S (Array.replicate ops.size false) w0.drew)
    (hop : ∀ (i : Nat) (o : Oper) (L : Array Bool) (a : Act) (w : World), ops[i]? = some o → L[i]? = some false → L.size = ops.size → S L w → a.defers = a0.defers →
      (∀ (j : Nat) (oj : Oper), ops[j]? = some oj → o.after.any (fun e => e.on == j && Region.binds .any e) = true → L[j]? = some true ∧ ∃ v, V L j v w ∧ ∀ d, oj.dst = some d → a.tmps[d]? = some v) →
      (∀ (j : Nat) (oj : Oper), ops[j]? = some oj → L[j]? = some true → ∃ v, V L j v w) →
      (∀ t : Nat, ops.all (fun o => o.dst != some t) = true → a.tmps[t]? = a0.tmps[t]?) →
      o.wp P a w (StepOk ops V S L i o a w) Q)
    (hfin : ∀ (vs : Nat → Value) (w : World), S (Array.replicate ops.size true) w → (∀ (j : Nat) (oj : Oper), ops[j]? = some oj → V (Array.replicate ops.size true) j (vs j) w) → Q .normal (putAll ops.toList 0 vs a0) w) :
    (Code.region id ops true).wp P Q a0 w0 := by
  refine wp_region_any hm (wpAny_inv (I := fun fuel listed a w => S listed w ∧ listed.size = ops.size ∧ unl listed = fuel ∧ SlotsR ops V a0 listed a w) ?_ ?_ ?_ _ _ _ _ ?_)
  · rintro fuel listed a w ⟨h1, h2, h3, h4⟩ hr
    have hall : ∀ i : Nat, i < ops.size → listed[i]? = some true := by
      intro i
      induction i using Nat.strongRecOn with
      | ind i ih =>
        intro hi
        obtain ⟨o, ho⟩ : ∃ o, ops[i]? = some o := ⟨ops[i], Array.getElem?_eq_getElem hi⟩
        have hil : i < listed.size := by omega
        cases hb : listed[i] with
        | true => rw [Array.getElem?_eq_getElem hil, hb]
        | false =>
          exfalso
          have : i ∈ Region.ready .any ops listed := by
            unfold Region.ready
            rw [List.mem_filter]
            refine ⟨List.mem_range.2 hi, ?_⟩
            rw [ho, Array.getD_eq_getD_getElem?, Array.getElem?_eq_getElem hil, hb]
            simp only [Option.getD_some, Bool.not_false, Bool.true_and, Option.map_some]
            rw [Array.all_eq_true']
            intro e he
            have hei := (okOps_at hk0 ho).2.1 e he
            rw [Array.getD_eq_getD_getElem?, ih e.on hei (by omega)]
            simp
          rw [hr] at this
          cases this
    have hL : listed = Array.replicate ops.size true := by
      apply Array.ext
      · rw [Array.size_replicate]; exact h2
      · intro i hi1 hi2
        have := hall i (by omega)
        rw [Array.getElem?_eq_getElem hi1] at this
        rw [Array.getElem_replicate]
        exact Option.some.inj this
    subst hL
    obtain ⟨d1, d2, d3, d4⟩ := h4
    have hex : ∀ j : Nat, ∃ v, ∀ oj, ops[j]? = some oj → V (Array.replicate ops.size true) j v w ∧ ∀ d, oj.dst = some d → a.tmps[d]? = some v := by
      intro j
      by_cases hj : j < ops.size
      · obtain ⟨v, hv⟩ := d3 j ops[j] (Array.getElem?_eq_getElem hj) (hall j hj)
        refine ⟨v, fun oj hoj => ?_⟩
        rw [Array.getElem?_eq_getElem hj] at hoj
        cases hoj
        exact hv
      · exact ⟨undef, fun oj hoj => absurd (Array.getElem?_eq_some_iff.1 hoj).1 hj⟩
    have ⟨vs, hvs⟩ := Classical.axiomOfChoice hex
    have ha : a = putAll ops.toList 0 vs a0 := by
      apply act_eq
      · rw [putAll_defers]; exact d1
      · apply Array.ext_getElem?
        intro t
        by_cases ht : ∃ (i : Nat) (o : Oper), ops[i]? = some o ∧ o.dst = some t
        · obtain ⟨i, o, ho, hdt⟩ := ht
          rw [(hvs i o ho).2 t hdt, putAll_at ops.toList 0 vs a0 i t o (by rw [Array.getElem?_toList]; exact ho) hdt (by rw [← hN]; exact ((okOps_at hk0 ho).2.2 t hdt).1) (fun j oj hj e => okOps_dst hk0 (by rw [Array.getElem?_toList] at hj; exact hj) ho e hdt), Nat.zero_add]
        · rw [putAll_ne _ _ _ _ _ (fun o ho e => by
            obtain ⟨m, hm, rfl⟩ := List.getElem_of_mem ho
            exact ht ⟨m, _, by rw [← Array.getElem?_toList]; exact List.getElem?_eq_getElem hm, e⟩)]
          exact d4 t (fun i o ho e => ht ⟨i, o, ho, e⟩)
    rw [ha]
    exact hfin vs w h1 (fun j oj hoj => (hvs j oj hoj).1)
  · rintro listed a w ⟨_, h2, h3, _⟩
    cases hr : Region.ready .any ops listed with
    | nil => rfl
    | cons i r =>
      exfalso
      obtain ⟨o, _, hl, _⟩ := ready_facts (md := .any) (i := i) (by rw [hr]; exact List.mem_cons_self) h2
      have := unl_set hl
      omega
  · rintro fuel listed a w i ⟨h1, h2, h3, h4⟩ hi
    obtain ⟨o, ho, hl, haf⟩ := ready_facts hi h2
    have hw : Region.wanted o (yielded ops a.tmps) = true := by simp [Region.wanted, (okOps_at hk0 ho).1]
    unfold wpOp
    rw [ho]
    simp only
    rw [if_pos hw]
    left
    refine Oper.wp_mono ?_ (hop i o listed a w ho hl h2 h1 h4.1 (fun j oj hoj hb => ?_) (fun j oj hoj hlj => (h4.2.2.1 j oj hoj hlj).imp fun _ h => h.1) (fun t ht => h4.2.2.2 t (fun i o ho e => ?_)))
    · rintro a' w' ⟨v, rfl, hv, hs, hk⟩
      exact ⟨hs, by rw [Array.size_setIfInBounds]; exact h2, by have := unl_set hl; omega, slotsR_put hk0 hN h4 ho hl hv hk⟩
    · rw [Array.any_eq_true'] at hb
      obtain ⟨e, he, hb⟩ := hb
      rw [Bool.and_eq_true, beq_iff_eq] at hb
      obtain ⟨rfl, hb⟩ := hb
      exact ⟨haf e he hb, h4.2.2.1 e.on oj hoj (haf e he hb)⟩
    · rw [Array.all_eq_true'] at ht
      have := ht o (Array.mem_of_getElem? ho)
      rw [e] at this
      simp at this
  · refine ⟨hS, by simp, ?_, rfl, rfl, fun i o ho hl => ?_, fun _ _ => rfl⟩
    · unfold unl
      simp
    · rw [Array.getElem?_replicate] at hl
      split at hl <;> cases hl
theorem wp_call1 {o : Oper} {a : Act} {w : World} {K : Act → World → Prop} {f : FuncId} {xs : Array Operand} {ts : Array TypeId} {args : Array Value} {R : Ending → World → Prop}
    (ho : o.op = .call { callee := .value (.func f), args := xs, argTypes := ts }) (hx : xs.map a.eval = args) (hi : (callFunc f args).run P w = .ok (.enter f args) w) (hc : Calls P f args w R)
    (h : ∀ e w', R e w' → match e, w' with
      | .returned v, w'' => K (a.put o.dst v) w''
      | .panicked chain, w'' => Q (.panic chain) a w''
      | .outgrown, _ => LetsOut Q) : o.wp P a w K Q := by
  unfold Oper.wp
  have : (execOp a.eval o).run P w = .ok (.enter f args) w := by
    simp [execOp, ho, resolve, invoke, Act.eval, Deferred.ofValue, go_sem, hx, hi]
  rw [this, Oper.upon_enter]
  exact hc.mono h
end
theorem listed_more {L : Array Bool} {i k : Nat} (h : L[k]? = some true) : (L.setIfInBounds i true)[k]? = some true := by
  by_cases hik : i = k
  · subst hik
    rw [Array.getElem?_setIfInBounds_self_of_lt (Array.getElem?_eq_some_iff.1 h).1]
  · rw [Array.getElem?_setIfInBounds_ne hik]; exact h
theorem listed_not {L : Array Bool} {i k : Nat} (h : ¬ L[k]? = some true) (hik : i ≠ k) : ¬ (L.setIfInBounds i true)[k]? = some true := by
  rw [Array.getElem?_setIfInBounds_ne hik]; exact h
theorem not_more {L : Array Bool} {i k : Nat} (h : ¬ (L.setIfInBounds i true)[k]? = some true) : ¬ L[k]? = some true := fun hx => h (listed_more hx)
theorem listed_now {L : Array Bool} {i : Nat} (h : L[i]? = some false) : (L.setIfInBounds i true)[i]? = some true := by rw [Array.getElem?_setIfInBounds_self_of_lt (Array.getElem?_eq_some_iff.1 h).1]
end Go.Proofs.YtcifdllbnbhcdaaGreatDoor
namespace Go.Proofs.YtcifdllbnbhcdaaGreatDoor
open Go.RowKit
section
variable {P : Program} {ops : Array Oper} {Q : Exit → Act → World → Prop} {md : Region.Mode}
def gdOk (ops : Array Oper) (o : Oper) : Bool := match o.guard with
  | none => true
  | some (g, _) => o.after.any (fun e => e.on == g && Region.binds .any e) && (match ops[g]? with
    | none => false
    | some og => og.dst.isSome)
def okOpsG (ops : Array Oper) (N : Nat) : Bool :=
  (List.range ops.size).all fun i => match ops[i]? with
    | none => true
    | some o => gdOk ops o && o.after.all (fun e => decide (e.on < i) || !Region.binds .any e) && (match o.dst with
      | none => true
      | some d => decide (d < N) && (List.range i).all (fun j => match ops[j]? with
        | none => true
        | some oj => oj.dst != some d))
theorem okOpsG_at {N i : Nat} {o : Oper} (h : okOpsG ops N = true) (ho : ops[i]? = some o) : gdOk ops o = true ∧ (∀ e ∈ o.after, e.on < i ∨ Region.binds .any e = false) ∧ ∀ d, o.dst = some d → d < N ∧ ∀ (j : Nat) (oj : Oper), j < i → ops[j]? = some oj → oj.dst ≠ some d := by
  have hi : i < ops.size := (Array.getElem?_eq_some_iff.1 ho).1
  unfold okOpsG at h
  rw [List.all_eq_true] at h
  have := h i (List.mem_range.2 hi)
  rw [ho] at this
  simp only [Bool.and_eq_true] at this
  obtain ⟨⟨h1, h2⟩, h3⟩ := this
  refine ⟨h1, fun e he => ?_, fun d hd => ?_⟩
  · rw [Array.all_eq_true'] at h2
    have := h2 e he
    simp only [Bool.or_eq_true, decide_eq_true_eq, Bool.not_eq_true'] at this
    exact this
  · rw [hd] at h3
    simp only [Bool.and_eq_true, decide_eq_true_eq, List.all_eq_true] at h3
    refine ⟨h3.1, fun j oj hj hoj => ?_⟩
    have := h3.2 j (List.mem_range.2 hj)
    rw [hoj] at this
    simpa using this
theorem okOpsG_dst {N i j : Nat} {oi oj : Oper} {d : Nat} (h : okOpsG ops N = true) (hi : ops[i]? = some oi) (hj : ops[j]? = some oj) (di : oi.dst = some d) (dj : oj.dst = some d) : i = j := by
  rcases Nat.lt_trichotomy i j with hlt | heq | hgt
  · exact absurd di (((okOpsG_at h hj).2.2 d dj).2 i oi hlt hi)
  · exact heq
  · exact absurd dj (((okOpsG_at h hi).2.2 d di).2 j oj hgt hj)
theorem slotsR_putG {V : Array Bool → Nat → Value → World → Prop} {a0 a : Act} {listed : Array Bool} {i N : Nat} {o : Oper} {w w' : World} {v : Value} (hk0 : okOpsG ops N = true) (hN : N = a0.tmps.size) (h : SlotsR ops V a0 listed a w) (ho : ops[i]? = some o) (hl : listed[i]? = some false)
    (hv : V (listed.setIfInBounds i true) i v w') (hk : ∀ (j : Nat) (oj : Oper) (u : Value), ops[j]? = some oj → j ≠ i → listed[j]? = some true → (∀ d, oj.dst = some d → a.tmps[d]? = some u) → V listed j u w → V (listed.setIfInBounds i true) j u w') :
    SlotsR ops V a0 (listed.setIfInBounds i true) (a.put o.dst v) w' := by
  obtain ⟨h1, h2, h3, h4⟩ := h
  have hlist : ∀ j : Nat, j ≠ i → (listed.setIfInBounds i true)[j]? = some true → listed[j]? = some true := fun j hj hx => by
    rw [Array.getElem?_setIfInBounds_ne (Ne.symm hj)] at hx; exact hx
  have hsz : (a.put o.dst v).tmps.size = a0.tmps.size := by
    have := putAll_size [o] 0 (fun _ => v) a
    simp only [putAll] at this
    rw [this, h2]
  have hdf : (a.put o.dst v).defers = a0.defers := by
    have := putAll_defers [o] 0 (fun _ => v) a
    simp only [putAll] at this
    rw [this, h1]
  refine ⟨hdf, hsz, fun j oj hoj hlj => ?_, fun t ht => ?_⟩
  · by_cases hji : j = i
    · subst hji
      rw [ho] at hoj; cases hoj
      refine ⟨v, hv, fun d hdj => ?_⟩
      rw [hdj]
      show (a.tmps.setIfInBounds d _)[d]? = _
      rw [Array.getElem?_setIfInBounds_self_of_lt (by rw [h2, ← hN]; exact ((okOpsG_at hk0 ho).2.2 d hdj).1)]
    · obtain ⟨u, hu, hq⟩ := h3 j oj hoj (hlist j hji hlj)
      refine ⟨u, hk j oj u hoj hji (hlist j hji hlj) hq hu, fun d hdj => ?_⟩
      rw [put_ne (fun e => hji (okOpsG_dst hk0 hoj ho hdj e))]
      exact hq d hdj
  · rw [put_ne (ht i o ho)]
    exact h4 t ht
theorem wp_region_relG0 {id N : Nat} (V : Array Bool → Nat → Value → World → Prop) (S : Array Bool → World → Prop) {a0 : Act} {w0 : World} (hm : P.follows .mixedOrders = true)
    (hk0 : okOpsG ops N = true) (hN : N = a0.tmps.size) (hS : S (Array.replicate ops.size false) w0.drew)
    (hgv : ∀ (i : Nat) (o : Oper) (g : Nat) (b : Bool), ops[i]? = some o → o.guard = some (g, b) → ∀ L v w, V L g v w → v = .bool b)
    (hop : ∀ (i : Nat) (o : Oper) (L : Array Bool) (a : Act) (w : World), ops[i]? = some o → L[i]? = some false → L.size = ops.size → S L w → a.defers = a0.defers →
      (∀ (j : Nat) (oj : Oper), ops[j]? = some oj → o.after.any (fun e => e.on == j && Region.binds .any e) = true → L[j]? = some true ∧ ∃ v, V L j v w ∧ ∀ d, oj.dst = some d → a.tmps[d]? = some v) →
      (∀ (j : Nat) (oj : Oper), ops[j]? = some oj → L[j]? = some true → ∃ v, V L j v w) →
      (∀ t : Nat, ops.all (fun o => o.dst != some t) = true → a.tmps[t]? = a0.tmps[t]?) →
      o.wp P a w (StepOk ops V S L i o a w) Q)
    (hfin : ∀ (vs : Nat → Value) (w : World), S (Array.replicate ops.size true) w → (∀ (j : Nat) (oj : Oper), ops[j]? = some oj → V (Array.replicate ops.size true) j (vs j) w) → Q .normal (putAll ops.toList 0 vs a0) w) :
    (Code.region id ops true).wp P Q a0 w0 := by
  refine wp_region_any hm (wpAny_inv (I := fun fuel listed a w => S listed w ∧ listed.size = ops.size ∧ unl listed = fuel ∧ SlotsR ops V a0 listed a w) ?_ ?_ ?_ _ _ _ _ ?_)
  · rintro fuel listed a w ⟨h1, h2, h3, h4⟩ hr
    have hall : ∀ i : Nat, i < ops.size → listed[i]? = some true := by
      intro i
      induction i using Nat.strongRecOn with
      | ind i ih =>
        intro hi
        obtain ⟨o, ho⟩ : ∃ o, ops[i]? = some o := ⟨ops[i], Array.getElem?_eq_getElem hi⟩
        have hil : i < listed.size := by omega
        cases hb : listed[i] with
        | true => rw [Array.getElem?_eq_getElem hil, hb]
        | false =>
          exfalso
          have : i ∈ Region.ready .any ops listed := by
            unfold Region.ready
            rw [List.mem_filter]
            refine ⟨List.mem_range.2 hi, ?_⟩
            rw [ho, Array.getD_eq_getD_getElem?, Array.getElem?_eq_getElem hil, hb]
            simp only [Option.getD_some, Bool.not_false, Bool.true_and, Option.map_some]
            rw [Array.all_eq_true']
            intro e he
            rcases (okOpsG_at hk0 ho).2.1 e he with hei | hei
            · rw [Array.getD_eq_getD_getElem?, ih e.on hei (by omega)]
              simp
            · simp [hei]
          rw [hr] at this
          cases this
    have hL : listed = Array.replicate ops.size true := by
      apply Array.ext
      · rw [Array.size_replicate]; exact h2
      · intro i hi1 hi2
        have := hall i (by omega)
        rw [Array.getElem?_eq_getElem hi1] at this
        rw [Array.getElem_replicate]
        exact Option.some.inj this
    subst hL
    obtain ⟨d1, d2, d3, d4⟩ := h4
    have hex : ∀ j : Nat, ∃ v, ∀ oj, ops[j]? = some oj → V (Array.replicate ops.size true) j v w ∧ ∀ d, oj.dst = some d → a.tmps[d]? = some v := by
      intro j
      by_cases hj : j < ops.size
      · obtain ⟨v, hv⟩ := d3 j ops[j] (Array.getElem?_eq_getElem hj) (hall j hj)
        refine ⟨v, fun oj hoj => ?_⟩
        rw [Array.getElem?_eq_getElem hj] at hoj
        cases hoj
        exact hv
      · exact ⟨undef, fun oj hoj => absurd (Array.getElem?_eq_some_iff.1 hoj).1 hj⟩
    have ⟨vs, hvs⟩ := Classical.axiomOfChoice hex
    have ha : a = putAll ops.toList 0 vs a0 := by
      apply act_eq
      · rw [putAll_defers]; exact d1
      · apply Array.ext_getElem?
        intro t
        by_cases ht : ∃ (i : Nat) (o : Oper), ops[i]? = some o ∧ o.dst = some t
        · obtain ⟨i, o, ho, hdt⟩ := ht
          rw [(hvs i o ho).2 t hdt, putAll_at ops.toList 0 vs a0 i t o (by rw [Array.getElem?_toList]; exact ho) hdt (by rw [← hN]; exact ((okOpsG_at hk0 ho).2.2 t hdt).1) (fun j oj hj e => okOpsG_dst hk0 (by rw [Array.getElem?_toList] at hj; exact hj) ho e hdt), Nat.zero_add]
        · rw [putAll_ne _ _ _ _ _ (fun o ho e => by
            obtain ⟨m, hm, rfl⟩ := List.getElem_of_mem ho
            exact ht ⟨m, _, by rw [← Array.getElem?_toList]; exact List.getElem?_eq_getElem hm, e⟩)]
          exact d4 t (fun i o ho e => ht ⟨i, o, ho, e⟩)
    rw [ha]
    exact hfin vs w h1 (fun j oj hoj => (hvs j oj hoj).1)
  · rintro listed a w ⟨_, h2, h3, _⟩
    cases hr : Region.ready .any ops listed with
    | nil => rfl
    | cons i r =>
      exfalso
      obtain ⟨o, _, hl, _⟩ := ready_facts (md := .any) (i := i) (by rw [hr]; exact List.mem_cons_self) h2
      have := unl_set hl
      omega
  · rintro fuel listed a w i ⟨h1, h2, h3, h4⟩ hi
    obtain ⟨o, ho, hl, haf⟩ := ready_facts hi h2
    have hw : Region.wanted o (yielded ops a.tmps) = true := by
      have hg1 := (okOpsG_at hk0 ho).1
      unfold gdOk at hg1
      cases hgu : o.guard with
      | none => simp [Region.wanted, hgu]
      | some gb =>
        obtain ⟨g, b⟩ := gb
        rw [hgu] at hg1
        simp only [Bool.and_eq_true] at hg1
        obtain ⟨ha1, ha2⟩ := hg1
        cases hog : ops[g]? with
        | none => rw [hog] at ha2; cases ha2
        | some og =>
          rw [hog] at ha2
          obtain ⟨d, hd⟩ := Option.isSome_iff_exists.1 ha2
          rw [Array.any_eq_true'] at ha1
          obtain ⟨e, he, hb⟩ := ha1
          rw [Bool.and_eq_true, beq_iff_eq] at hb
          obtain ⟨rfl, hb⟩ := hb
          obtain ⟨v, hv, hs⟩ := h4.2.2.1 e.on og hog (haf e he hb)
          have hvb := hgv i o e.on b ho hgu _ _ _ hv
          have hsl := hs d hd
          subst hvb
          simp [Region.wanted, hgu, yielded, hog, hd, hsl]
    unfold wpOp
    rw [ho]
    simp only
    rw [if_pos hw]
    left
    refine Oper.wp_mono ?_ (hop i o listed a w ho hl h2 h1 h4.1 (fun j oj hoj hb => ?_) (fun j oj hoj hlj => (h4.2.2.1 j oj hoj hlj).imp fun _ h => h.1) (fun t ht => h4.2.2.2 t (fun i o ho e => ?_)))
    · rintro a' w' ⟨v, rfl, hv, hs, hk⟩
      exact ⟨hs, by rw [Array.size_setIfInBounds]; exact h2, by have := unl_set hl; omega, slotsR_putG hk0 hN h4 ho hl hv hk⟩
    · rw [Array.any_eq_true'] at hb
      obtain ⟨e, he, hb⟩ := hb
      rw [Bool.and_eq_true, beq_iff_eq] at hb
      obtain ⟨rfl, hb⟩ := hb
      exact ⟨haf e he hb, h4.2.2.1 e.on oj hoj (haf e he hb)⟩
    · rw [Array.all_eq_true'] at ht
      have := ht o (Array.mem_of_getElem? ho)
      rw [e] at this
      simp at this
  · refine ⟨hS, by simp, ?_, rfl, rfl, fun i o ho hl => ?_, fun _ _ => rfl⟩
    · unfold unl
      simp
    · rw [Array.getElem?_replicate] at hl
      split at hl <;> cases hl
end
theorem wp_region_relG {P : Program} {ops : Array Oper} {Q : Exit → Act → World → Prop} {id N : Nat} (V : Array Bool → Nat → Value → World → Prop) (S : Array Bool → World → Prop) {a0 : Act} {w0 : World} (hm : P.follows .mixedOrders = true)
    (hk0 : okOpsG ops N = true) (hN : N = a0.tmps.size) (hS : S (Array.replicate ops.size false) w0.drew)
    (hgv : ∀ (i : Nat) (o : Oper) (g : Nat) (b : Bool), ops[i]? = some o → o.guard = some (g, b) → ∀ L v w, V L g v w → v = .bool b)
    (hop : ∀ (i : Nat) (o : Oper) (L : Array Bool) (a : Act) (w : World), ops[i]? = some o → L[i]? = some false → L.size = ops.size → S L w → a.defers = a0.defers →
      (∀ (j : Nat) (oj : Oper), ops[j]? = some oj → o.after.any (fun e => e.on == j && Region.binds .any e) = true → L[j]? = some true ∧ ∃ v, V L j v w ∧ ∀ d, oj.dst = some d → a.tmps[d]? = some v) →
      (∀ (j : Nat) (oj : Oper), ops[j]? = some oj → L[j]? = some true → ∃ v, V L j v w) →
      (∀ t : Nat, ops.all (fun o => o.dst != some t) = true → a.tmps[t]? = a0.tmps[t]?) →
      (∀ (p : Nat) (op : Oper), ops[p]? = some op → L[p]? = some true → ∀ (j : Nat) (oj : Oper), ops[j]? = some oj → op.after.any (fun e => e.on == j && Region.binds .any e) = true → L[j]? = some true) →
      o.wp P a w (StepOk ops V S L i o a w) Q)
    (hfin : ∀ (vs : Nat → Value) (w : World), S (Array.replicate ops.size true) w → (∀ (j : Nat) (oj : Oper), ops[j]? = some oj → V (Array.replicate ops.size true) j (vs j) w) → Q .normal (putAll ops.toList 0 vs a0) w) :
    (Code.region id ops true).wp P Q a0 w0 := by
  refine wp_region_relG0 V (fun L W => (∀ (p : Nat) (op : Oper), ops[p]? = some op → L[p]? = some true → ∀ (j : Nat) (oj : Oper), ops[j]? = some oj → op.after.any (fun e => e.on == j && Region.binds .any e) = true → L[j]? = some true) ∧ S L W) hm hk0 hN ⟨fun p op hp h => ?_, hS⟩ hgv ?_ ?_
  · rw [Array.getElem?_replicate] at h
    split at h <;> cases h
  · intro i o L a w ho hl hsz hS' hdf dep all fr
    refine Oper.wp_mono (fun a' w' h => ?_) (hop i o L a w ho hl hsz hS'.2 hdf dep all fr hS'.1)
    obtain ⟨v, e1, e2, e3, e4⟩ := h
    refine ⟨v, e1, e2, ⟨fun p op hp h j oj hj ha => ?_, e3⟩, e4⟩
    by_cases hpi : p = i
    · subst hpi
      obtain rfl := Option.some.inj (ho.symm.trans hp)
      exact listed_more (dep j oj hj ha).1
    · rw [Array.getElem?_setIfInBounds_ne (fun e => hpi e.symm)] at h
      exact listed_more (hS'.1 p op hp h j oj hj ha)
  · intro vs w hS' hV
    exact hfin vs w hS'.2 hV
theorem so {o o' : Oper} (h : some o' = some o) : o = o' := (Option.some.inj h).symm
theorem dv {p : Prop} {V : Value → Prop} {dst : Option Nat} {t : Array Value} {d : Nat} {u : Value} (h : p ∧ ∃ v, V v ∧ ∀ d, dst = some d → t[d]? = some v) (hV : ∀ v, V v → v = u) (hd : dst = some d) : t[d]? = some u := by
  obtain ⟨_, v, h1, h2⟩ := h
  rw [← hV v h1]
  exact h2 d hd
theorem no_gd {ops : Array Oper} (h : (List.range ops.size).all (fun i => match ops[i]? with
    | none => true
    | some o => o.guard.isNone) = true) {V : Array Bool → Nat → Value → World → Prop} (i : Nat) (o : Oper) (g : Nat) (b : Bool) (ho : ops[i]? = some o) (hg : o.guard = some (g, b)) : ∀ L v w, V L g v w → v = .bool b := by
  rw [List.all_eq_true] at h
  have := h i (List.mem_range.2 (Array.getElem?_eq_some_iff.1 ho).1)
  rw [ho] at this
  simp only at this
  rw [hg] at this
  cases this
end Go.Proofs.YtcifdllbnbhcdaaGreatDoor
namespace Go.Proofs.YtcifdllbnbhcdaaGreatDoor
open Go.RowKit
abbrev Chg := L8 × List Ses × List Ses
def aftK (p : Option L8) (k : L8) : Bool := match p with | none => true | some q => Op.bytesLess q k
def ordC (p : Option L8) : List Chg → Bool
  | [] => true
  | x :: r => aftK p x.1 && !decide (x.2.1 = x.2.2) && ordC (some x.1) r
def clsS (ss : List Ses) : List L8 := ss.map (·.1)
def clsC (cs : List Chg) : List L8 := cs.map (·.1)
def chgE (l : List Ses) : List Chg → Int
  | [] => 0
  | x :: r => if x.2.1 ≠ ofS l x.1 then 62 else if (ofS x.2.2 x.1).length ≠ x.2.2.length then 1 else chgE l r
def pickS (l : List Ses) (cs : List Chg) (k : L8) : List Ses := match cs.find? (fun x => decide (x.1 = k)) with | some x => x.2.2 | none => ofS l k
def appS (n : Int) (l : List Ses) (cs : List Chg) : Int × List Ses :=
  if vldS l n ≠ 0 then (vldS l n, []) else if ordC none cs = false then (63, []) else if chgE l cs ≠ 0 then (chgE l cs, [])
  else if vldS ((clsL (clsC cs ++ clsS l)).flatMap (pickS l cs)) n ≠ 0 then (vldS ((clsL (clsC cs ++ clsS l)).flatMap (pickS l cs)) n, []) else (0, (clsL (clsC cs ++ clsS l)).flatMap (pickS l cs))
def difK (a b : List Ses) (k : L8) : List Chg := if ofS a k = ofS b k then [] else [(k, ofS a k, ofS b k)]
def difS (n : Int) (a b : List Ses) : Int × List Chg :=
  if vldS a n ≠ 0 then (vldS a n, []) else if vldS b n ≠ 0 then (vldS b n, []) else (0, (clsL (clsS a ++ clsS b)).flatMap (difK a b))
end Go.Proofs.YtcifdllbnbhcdaaGreatDoor
namespace Go.Proofs.YtcifdllbnbhcdaaGreatDoor
open Go.RowKit
theorem vld_parts {xs : List Ses} {n : Int} (h : vldS xs n = 0) : (1 ≤ n ∧ n ≤ 20) ∧ xs.length ≤ 96 ∧ chkL n xs = 0 ∧ ordL xs = true ∧ dupL xs = false := by
  unfold vldS at h
  split at h
  · cases h
  next h1 =>
  split at h
  · cases h
  next h2 =>
  split at h
  · next h3 => exact absurd h h3
  next h3 =>
  split at h
  · cases h
  next h4 =>
  split at h
  · cases h
  next h5 =>
  exact ⟨by omega, by omega, by simpa using h3, by simpa using h4, by simpa using h5⟩
theorem difK_cases (a b : List Ses) (k : L8) : (ofS a k = ofS b k ∧ difK a b k = []) ∨ (ofS a k ≠ ofS b k ∧ difK a b k = [(k, ofS a k, ofS b k)]) := by
  unfold difK
  by_cases h : ofS a k = ofS b k
  · exact Or.inl ⟨h, if_pos h⟩
  · exact Or.inr ⟨h, if_neg h⟩
theorem dif_mem {a b : List Ses} {L : List L8} {x : Chg} (h : x ∈ L.flatMap (difK a b)) : x.1 ∈ L ∧ x = (x.1, ofS a x.1, ofS b x.1) ∧ ofS a x.1 ≠ ofS b x.1 := by
  obtain ⟨k, hk, hx⟩ := List.mem_flatMap.1 h
  rcases difK_cases a b k with ⟨_, e⟩ | ⟨hn, e⟩
  · rw [e] at hx; simp at hx
  · rw [e, List.mem_singleton] at hx
    subst hx
    exact ⟨hk, rfl, hn⟩
end Go.Proofs.YtcifdllbnbhcdaaGreatDoor
namespace Go.Proofs.YtcifdllbnbhcdaaGreatDoor
open Go.RowKit
abbrev Ver := Int × Int × List Chg
def lnT (ws : List L8) : L8 := Lib.join ws [32] ++ [10]
def lineW (s : Ses) : List L8 := [[83], Lib.itoa s.2.1, Lib.itoa s.2.2.1, Lib.itoa s.2.2.2.1, Lib.itoa s.2.2.2.2.1, if s.2.2.2.2.2 = [] then [45] else s.2.2.2.2.2]
def lineT (s : Ses) : L8 := lnT (lineW s)
def chgW (c : Chg) : List L8 := [[67], c.1, Lib.itoa c.2.1.length, Lib.itoa c.2.2.length]
def chgT (c : Chg) : L8 := lnT (chgW c) ++ (c.2.1.flatMap lineT ++ c.2.2.flatMap lineT)
def verW (v : Ver) : List L8 := [[86], Lib.itoa v.1, Lib.itoa v.2.1, Lib.itoa v.2.2.length]
def verT (v : Ver) : L8 := lnT (verW v) ++ v.2.2.flatMap chgT
def crcS (c : Nat) : Nat := if c % 2 = 1 then (c / 2) ^^^ 3988292384 else c / 2
def crcK : Nat → Nat → Nat
  | 0, c => c
  | k + 1, c => crcS (crcK k c)
def crcL (c : Nat) (b : L8) : Nat := b.foldl (fun c x => crcK 8 (c ^^^ x.toNat)) c
def crcN (b : L8) : Nat := 4294967295 - crcL 4294967295 b
def hexD (d : Nat) : UInt8 := if d < 10 then UInt8.ofNat (48 + d) else UInt8.ofNat (87 + d)
def hexK : Nat → Nat → L8
  | 0, _ => []
  | k + 1, n => hexK k (n / 16) ++ [hexD (n % 16)]
def endT (b : L8) : L8 := lnT [[69], hexK 8 (crcN b)]
def encV (v : Ver) : L8 := verT v ++ endT (verT v)
def ownB (l : List Ses) (c : L8) : Bool := l.all (fun s => decide (s.1 = c)) && decide (vldS l 20 = 0)
def chgOk (c : Chg) : Bool := codeOk c.1 && ownB c.2.1 c.1 && ownB c.2.2 c.1
def frmV (v : Ver) : Bool := decide (1 ≤ v.1 ∧ v.1 ≤ 64 ∧ 1 ≤ v.2.1 ∧ v.2.1 ≤ 20 ∧ v.2.2 ≠ []) && ordC none v.2.2 && v.2.2.all chgOk
theorem crcS_lt {c : Nat} (h : c < 4294967296) : crcS c < 4294967296 := by
  unfold crcS
  split
  · exact Nat.xor_lt_two_pow (n := 32) (by omega) (by decide)
  · omega
theorem xor_lt {c : Nat} (h : c < 4294967296) (x : UInt8) : c ^^^ x.toNat < 4294967296 := Nat.xor_lt_two_pow (n := 32) (by omega) (by have := x.toNat_lt; omega)
theorem hexK_len : ∀ k n, (hexK k n).length = k
  | 0, _ => rfl
  | k + 1, n => by rw [hexK, List.length_append, hexK_len]; rfl
theorem dec_sign : ∀ (n : Nat), ∀ c ∈ Lib.decDigits n, 48 ≤ c.toNat ∧ c.toNat ≤ 57 := by
  intro n
  induction n using Nat.strongRecOn with
  | ind n ih =>
    intro c hc
    rw [Lib.decDigits] at hc
    split at hc
    · rw [List.mem_singleton] at hc; subst hc; rw [UInt8.toNat_ofNat']; omega
    · rw [List.mem_append, List.mem_singleton] at hc
      rcases hc with hc | rfl
      · exact ih _ (by omega) c hc
      · rw [UInt8.toNat_ofNat']; omega
def Wrd (l : L8) : Prop := ∀ c ∈ l, c ≠ 32 ∧ c ≠ 10
theorem wrd_dec (n : Int) (h : 0 ≤ n) : Wrd (Lib.itoa n) := by
  intro c hc
  unfold Lib.itoa at hc
  rw [if_neg (by omega)] at hc
  have := dec_sign _ c hc
  constructor <;> rintro rfl <;> simp at this
theorem wrd_code {l : L8} (h : codeOk l = true) : Wrd l := by
  obtain ⟨_, _, h3⟩ := codeOk_of h
  intro c hc
  obtain ⟨m, hm, rfl⟩ := List.getElem_of_mem hc
  have := h3 m hm
  rw [List.getD_eq_getElem?_getD, List.getElem?_eq_getElem hm, Option.getD_some] at this
  constructor
  · intro e; rw [e] at this; simp [okAt, digI, ltrI] at this
  · intro e; rw [e] at this; simp [okAt, digI, ltrI] at this
theorem code_dash : codeOk [45] = false := by
  apply codeOk_no
  refine Or.inr (Or.inr ⟨0, by decide, ?_⟩)
  decide
theorem join_two (x y : L8) (r : List L8) : Lib.join (x :: y :: r) [32] = x ++ 32 :: Lib.join (y :: r) [32] := by
  rw [Lib.join_cons, Lib.join_cons]
  simp [Lib.joinTail]
theorem join_nl : ∀ (x : L8) (r : List L8), Wrd x → (∀ w ∈ r, Wrd w) → (10 : UInt8) ∉ Lib.join (x :: r) [32]
  | x, [], hx, _ => by rw [Lib.join_one]; exact fun h => (hx _ h).2 rfl
  | x, y :: r, hx, hr => by
    rw [join_two, List.mem_append, List.mem_cons]
    rintro (h | h | h)
    · exact (hx _ h).2 rfl
    · cases h
    · exact join_nl y r (hr y List.mem_cons_self) (fun w hw => hr w (List.mem_cons_of_mem _ hw)) h
end Go.Proofs.YtcifdllbnbhcdaaGreatDoor
