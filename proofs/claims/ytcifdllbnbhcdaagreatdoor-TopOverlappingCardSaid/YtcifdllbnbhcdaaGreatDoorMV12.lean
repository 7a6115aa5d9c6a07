/- Texts V46, V47, V48, V50, V72, V49, V51, joined: walks and laws. -/
import Derived.Deep.CutBlock
import Derived.Laws.BytesArg
import Derived.Test.YtcifdllbnbhcdaaGreatDoorMV04
import Derived.Test.YtcifdllbnbhcdaaGreatDoorMV11
set_option linter.unusedSimpArgs false
set_option linter.unusedVariables false
namespace Go.Proofs.YtcifdllbnbhcdaaGreatDoor
open Go.RowKit
def cntC (cs : List Chg) : Nat := (cs.map fun c => 1 + c.2.1.length + c.2.2.length).sum
theorem cntC_cons (c : Chg) (cs : List Chg) : cntC (c :: cs) = 1 + c.2.1.length + c.2.2.length + cntC cs := by simp [cntC]
theorem line_len {s : Ses} (h : chkS s 20 = 0) : (lineT s).length ≤ 120 := by
  obtain ⟨_, h2, h3, h4, h5, h6⟩ := chk_parts h
  have hr16 : s.2.2.2.2.2.length ≤ 16 := by
    rcases h6 with g6 | g6
    · rw [g6]; simp
    · exact (codeOk_of g6).2.1
  have l1 := Lib.itoa_length_le s.2.1 (by omega) (by omega)
  have l2 := Lib.itoa_length_le s.2.2.1 (by omega) (by omega)
  have l3 := Lib.itoa_length_le s.2.2.2.1 (by omega) (by omega)
  have l4 := Lib.itoa_length_le s.2.2.2.2.1 (by omega) (by omega)
  unfold lineT lnT lineW
  rw [join_two, join_two, join_two, join_two, join_two, Lib.join_one]
  simp only [List.length_append, List.length_cons, List.length_nil]
  split <;> simp <;> omega
theorem lines_len {l : List Ses} (h : ∀ s ∈ l, chkS s 20 = 0) : (l.flatMap lineT).length ≤ 120 * l.length := by
  induction l with
  | nil => simp
  | cons s l ih =>
    have h1 := line_len (h s List.mem_cons_self)
    have h2 := ih (fun x hx => h x (List.mem_cons_of_mem _ hx))
    rw [List.flatMap_cons, List.length_append, List.length_cons]; omega
theorem chgs_len {cs : List Chg} (h : ∀ c ∈ cs, chgOk c = true) : (cs.flatMap chgT).length ≤ 120 * cntC cs := by
  induction cs with
  | nil => simp [cntC]
  | cons c cs ih =>
    have h2 := ih (fun x hx => h x (List.mem_cons_of_mem _ hx))
    obtain ⟨h3, ⟨_, h4⟩, _, h5⟩ := chgOk_parts (h c List.mem_cons_self)
    have hcl := (codeOk_of h3).2.1
    have h6 := lines_len (own_chk h4)
    have h7 := lines_len (own_chk h5)
    have l1 := (vld_parts h4).2.1
    have l2 := (vld_parts h5).2.1
    have l3 := Lib.itoa_length_le (c.2.1.length : Int) (by omega) (by omega)
    have l4 := Lib.itoa_length_le (c.2.2.length : Int) (by omega) (by omega)
    rw [List.flatMap_cons, List.length_append, cntC_cons]
    have : (chgT c).length ≤ 120 + (c.2.1.flatMap lineT).length + (c.2.2.flatMap lineT).length := by
      unfold chgT
      rw [chg_head]
      simp only [List.length_append, List.length_cons, List.length_nil]
      omega
    omega
theorem read_len {v : Ver} {b : L8} (h : frmV v = true) (hc : cntC v.2.2 ≤ b.length) (hb : b.length ≤ 10000000) : (encV v).length ≤ 1000000000000 := by
  obtain ⟨⟨h1, h2, h3, h4, _⟩, _, h5⟩ := frm_parts h
  have h6 := chgs_len h5
  have hle : v.2.2.length ≤ cntC v.2.2 := by
    have : ∀ cs : List Chg, cs.length ≤ cntC cs := by
      intro cs
      induction cs with
      | nil => simp [cntC]
      | cons c cs ih => rw [cntC_cons, List.length_cons]; omega
    exact this _
  have l1 := Lib.itoa_length_le v.1 (by omega) (by omega)
  have l2 := Lib.itoa_length_le v.2.1 (by omega) (by omega)
  have l3 := Lib.itoa_length_le (v.2.2.length : Int) (by omega) (by omega)
  unfold encV verT
  rw [ver_head]
  simp only [List.length_append, List.length_cons, List.length_nil, end_len]
  omega
end Go.Proofs.YtcifdllbnbhcdaaGreatDoor
namespace Go.Proofs.YtcifdllbnbhcdaaGreatDoor
open Go.RowKit
def RdR (r : Option Ver) (w : World) (e : Ending) (w' : World) : Prop :=
  (r = none ∧ e = .returned (.tuple #[verV 0 0 (none, 0, 0), .int .i64 0, .bool false]) ∧ Below w.heap.size w w') ∨
  (∃ (v : Ver) (s : Sl), r = some v ∧ e = .returned (.tuple #[verV v.1 v.2.1 s, .int .i64 (encV v).length, .bool true]) ∧ HRow w' w.heap.size (slV s) v.2.2 ∧ Below w.heap.size w w')
theorem WdsR.two {d : L8} {f : Nat} {w : World} {e : Ending} {w' : World} (h : WdsR d f w e w') : ∃ (v : Value) (x : Int) (ok : Bool), e = .returned (.tuple #[v, .int .i64 x, .bool ok]) ∧ Below w.heap.size w w' ∧ ((ok = false ∧ ctl (d.drop f) = none) ∨ (ok = true ∧ ∃ l k, ctl (d.drop f) = some (l, d.drop k) ∧ x = (k : Int) ∧ f < k ∧ k ≤ d.length ∧ CRow w' w.heap.size v (spl l))) := by
  rcases h with ⟨h1, h2, h3⟩ | ⟨l, k, v, h1, h2, h3, h4, h5, h6⟩
  · exact ⟨_, _, _, h2, h3, Or.inl ⟨rfl, h1⟩⟩
  · exact ⟨_, _, _, h4, h6, Or.inr ⟨rfl, l, k, h1, rfl, h2, h3, h5⟩⟩
def SesQ (d : L8) (f : Nat) (nn : Int) (cl : L8) (B : Nat) (v : Value) (x : Int) (ok : Bool) (w' : World) : Prop :=
  (ok = false ∧ sesP numR cl nn (d.drop f) = none) ∨ (ok = true ∧ ∃ l k, sesP numR cl nn (d.drop f) = some (l, d.drop k) ∧ x = (k : Int) ∧ f ≤ k ∧ k ≤ d.length ∧ SRow w' B v l)
theorem SesR.two {d : L8} {f : Nat} {nn : Int} {cl : L8} {w : World} {e : Ending} {w' : World} (h : SesR d f nn cl w e w') : ∃ (s : Sl) (x : Int) (ok : Bool), e = .returned (.tuple #[.slice s.1 s.2.1 s.2.2, .int .i64 x, .bool ok]) ∧ Below w.heap.size w w' ∧ SesQ d f nn cl w.heap.size (slV s) x ok w' := by
  rcases h with ⟨h1, x, h2, h3⟩ | ⟨l, k, v, h1, h2, h3, h4, h5, h6⟩
  · exact ⟨(none, 0, 0), _, _, h2, h3, Or.inl ⟨rfl, h1⟩⟩
  · obtain ⟨s, rfl, _⟩ := SRow.sv h5
    exact ⟨s, _, _, h4, h6, Or.inr ⟨rfl, l, k, h1, rfl, h2, h3, h5⟩⟩
theorem row_set {w : World} {B : Nat} {e : TypeId} {k n : Nat} {v : Value} {xs : List Value} (h : w.ownsRow B e k v n xs) {p : Addr} (hp : p.block < B) (u : Value) : (w.setCell p u).ownsRow B e k v n xs := by
  obtain ⟨h1, h2⟩ := h
  refine ⟨h1, ?_⟩
  rcases h2 with h2 | ⟨g, cap, cur, h3, h4, h5, h6⟩
  · exact Or.inl h2
  · exact Or.inr ⟨g, cap, cur, h3, h4, (Below.heap_setCell w p _ _ (by omega)).trans h5, h6⟩
theorem whole_str {w : World} {a : Addr} {n cap : Nat} {d : L8} (h : BAt w (some a) n d) (W : World) (hW : ∀ p, W.cell? p = w.cell? p) : (convert 62 9 (.slice (some a) n cap)).run Tryz.prog W = .ok (.string (arr d)) W := by
  have := run_convert_bytes_back (P := Tryz.prog) W 62 9 5 a cap d Tryz.underlying62 Tryz.underlying5 Tryz.underlying9 (fun i hi => by
    rcases h.2.2 with h0 | ⟨b', off', e, hc⟩
    · rw [h.1] at hi; omega
    · cases e
      rw [Go.WideShapes.add_plain, hW]
      have := hc i _ (List.getElem?_eq_getElem hi) 0 _ rfl
      rw [Nat.mul_one, Nat.add_zero] at this
      exact this)
  rw [h.1] at this
  exact this
theorem set_far {w : World} {g o : Nat} {u v : Value} {q : Addr} (h : w.cell? q = some v) (hne : g ≠ q.block) : (w.setCell ⟨g, o, none⟩ u).cell? q = some v := (World.cell?_setCell_far w _ _ _ hne).trans h
theorem HRow.set {w : World} {B : Nat} {v : Value} {cs : List Chg} (h : HRow w B v cs) {p : Addr} (hp : p.block < B) (u : Value) : HRow (w.setCell p u) B v cs := by
  obtain ⟨rs, h1, h2⟩ := h
  exact ⟨rs, row_set h1 hp u, h2.imp fun _ _ hr => ⟨hr.1, row_set hr.2.1 hp u, row_set hr.2.2 hp u⟩⟩
theorem SesQ.next {d : L8} {f : Nat} {nn : Int} {cl : L8} {B : Nat} {v : Value} {x : Int} {ok : Bool} {w w' : World} (h : SesQ d f nn cl B v x ok w) (hb : Below w.heap.size w w') : SesQ d f nn cl B v x ok w' := by
  rcases h with h | ⟨h1, l, k, h2, h3, h4, h5, h6⟩
  · exact Or.inl h
  · exact Or.inr ⟨h1, l, k, h2, h3, h4, h5, row_below h6 hb⟩
theorem SesQ.set {d : L8} {f : Nat} {nn : Int} {cl : L8} {B : Nat} {v : Value} {x : Int} {ok : Bool} {w : World} (h : SesQ d f nn cl B v x ok w) {p : Addr} (hp : p.block < B) (u : Value) : SesQ d f nn cl B v x ok (w.setCell p u) := by
  rcases h with h | ⟨h1, l, k, h2, h3, h4, h5, h6⟩
  · exact Or.inl h
  · exact Or.inr ⟨h1, l, k, h2, h3, h4, h5, row_set h6 hp u⟩
theorem SesQ.base {d : L8} {f : Nat} {nn : Int} {cl : L8} {B B' : Nat} {v : Value} {x : Int} {ok : Bool} {w : World} (h : SesQ d f nn cl B v x ok w) (hb : B' ≤ B) : SesQ d f nn cl B' v x ok w := by
  rcases h with h | ⟨h1, l, k, h2, h3, h4, h5, h6⟩
  · exact Or.inl h
  · exact Or.inr ⟨h1, l, k, h2, h3, h4, h5, row_base h6 hb⟩
structure RC (w0 w : World) (R : Nat) (v0 v1 v2 : Value) (T : TypeId) : Prop where
  hp : w.heap[R]? = some (.cells #[v0, v1, v2] T (0, 0))
  lo : w0.heap.size ≤ R
  bl : Below w0.heap.size w0 w
section
variable {w0 w w2 : World} {R : Nat} {v0 v1 v2 : Value} {T : TypeId}
theorem RC.next (h : RC w0 w R v0 v1 v2 T) (hb : Below w.heap.size w w2) : RC w0 w2 R v0 v1 v2 T := ⟨by rw [hb.block R (lt_of_heap h.hp)]; exact h.hp, h.lo, below3 h.bl hb⟩
theorem RC.lt (h : RC w0 w R v0 v1 v2 T) : R < w.heap.size := lt_of_heap h.hp
theorem RC.cells (h : RC w0 w R v0 v1 v2 T) : w.cell? ⟨R, 0, none⟩ = some v0 ∧ w.cell? ⟨R, 1, none⟩ = some v1 ∧ w.cell? ⟨R, 2, none⟩ = some v2 ∧ w.frozen? ⟨R, 0, none⟩ = false ∧ w.frozen? ⟨R, 1, none⟩ = false ∧ w.frozen? ⟨R, 2, none⟩ = false :=
  ⟨by rw [cell_of_row _ _ 0 _ _ _ h.hp]; rfl, by rw [cell_of_row _ _ 1 _ _ _ h.hp]; rfl, by rw [cell_of_row _ _ 2 _ _ _ h.hp]; rfl, frozen_of_row _ _ _ _ _ h.hp, frozen_of_row _ _ _ _ _ h.hp, frozen_of_row _ _ _ _ _ h.hp⟩
theorem RC.set3 (h : RC w0 w R v0 v1 v2 T) (u0 u1 u2 : Value) : RC w0 (((w.setCell ⟨R, 0, none⟩ u0).setCell ⟨R, 1, none⟩ u1).setCell ⟨R, 2, none⟩ u2) R u0 u1 u2 T := by
  refine ⟨?_, h.lo, ((h.bl.setCell (p := ⟨R, 0, none⟩) h.lo u0).setCell (p := ⟨R, 1, none⟩) h.lo u1).setCell (p := ⟨R, 2, none⟩) h.lo u2⟩
  rw [heap_setCell_same _ R 2 #[u0, u1, v2] _ _ (by rw [heap_setCell_same _ R 1 #[u0, v1, v2] _ _ (by rw [heap_setCell_same _ R 0 _ _ _ h.hp]; rfl)]; rfl)]
  rfl
theorem RC.mk0 (w : World) : RC w (w.alloc (.cells #[v0, v1, v2] T)) w.heap.size v0 v1 v2 T := ⟨heap_alloc_new _ _, Nat.le_refl _, (Below.refl _ _).alloc (Nat.le_refl _) _⟩
end
end Go.Proofs.YtcifdllbnbhcdaaGreatDoor
namespace Go.Proofs.YtcifdllbnbhcdaaGreatDoor
open Go.RowKit
theorem chk_sok {s : Ses} {n : Int} (h : chkS s n = 0) : (s.1.length ≤ 9223372036854775807 ∧ s.2.2.2.2.2.length ≤ 9223372036854775807) ∧ -9223372036854775808 ≤ s.2.2.2.1 ∧ s.2.2.2.1 ≤ 9223372036854775807 := by
  obtain ⟨h1, _, _, h4, _, h6⟩ := chk_parts h
  have hc := (codeOk_of h1).2.1
  have hr : s.2.2.2.2.2.length ≤ 16 := by
    rcases h6 with h6 | h6
    · rw [h6]; simp
    · exact (codeOk_of h6).2.1
  exact ⟨⟨by omega, by omega⟩, by omega, by omega⟩
theorem vld_sok {xs : List Ses} {n : Int} (h : vldS xs n = 0) : SOk xs := fun s hs => chk_sok (chkL_all (vld_parts h).2.2.1 s hs)
theorem frm_vok {v : Ver} (h : frmV v = true) : VOk v := fun c hc => by
  obtain ⟨h1, ⟨_, h2⟩, _, h3⟩ := chgOk_parts ((frm_parts h).2.2 c hc)
  exact ⟨by have := (codeOk_of h1).2.1; omega, vld_sok h2, vld_sok h3⟩
theorem line_ge (s : Ses) : 2 ≤ (lineT s).length := by
  unfold lineT lnT lineW
  rw [join_two]
  simp <;> omega
theorem lines_ge (l : List Ses) : 2 * l.length ≤ (l.flatMap lineT).length := by
  induction l with
  | nil => simp
  | cons s l ih =>
    have := line_ge s
    rw [List.flatMap_cons, List.length_append, List.length_cons]; omega
theorem chgs_ge (cs : List Chg) : 2 * cntC cs ≤ (cs.flatMap chgT).length := by
  induction cs with
  | nil => simp [cntC]
  | cons c cs ih =>
    have h1 := lines_ge c.2.1
    have h2 := lines_ge c.2.2
    rw [List.flatMap_cons, List.length_append, cntC_cons]
    have : 2 + (c.2.1.flatMap lineT).length + (c.2.2.flatMap lineT).length ≤ (chgT c).length := by
      unfold chgT
      rw [chg_head]
      simp only [List.length_append, List.length_cons, List.length_nil]
      omega
    omega
theorem cnt_ge (cs : List Chg) : cs.length ≤ cntC cs ∧ (cs.flatMap (·.2.2)).length ≤ cntC cs := by
  induction cs with
  | nil => simp [cntC]
  | cons c cs ih =>
    rw [cntC_cons, List.flatMap_cons, List.length_append, List.length_cons]; omega
theorem enc_cnt {v : Ver} (h : (encV v).length ≤ 1048576) : v.2.2.length ≤ 1000000 ∧ (v.2.2.flatMap (·.2.2)).length ≤ 1000000 := by
  have h1 := chgs_ge v.2.2
  have h2 := cnt_ge v.2.2
  unfold encV verT at h
  rw [List.length_append, List.length_append] at h
  omega
structure OpI (n : Int) (b : L8) (k : Nat) (vs : List Ver) (ss : List Ses) : Prop where
  le : k ≤ b.length
  eq : opnL n b = opnF n (b.length + 1 - vs.length) (b.drop k) vs ss
  cnt : 11 * vs.length ≤ k
  sok : SOk ss
theorem OpI.start (n : Int) (b : L8) : OpI n b 0 [] [] := ⟨Nat.zero_le _, by simp [opnL], by simp, fun s hs => by cases hs⟩
theorem OpI.stop {n : Int} {b : L8} {k : Nat} {vs : List Ver} {ss : List Ses} (h : OpI n b k vs ss) (hn : ∀ v, decV (b.drop k) = some v → folV n vs ss v = none) : opnL n b = (vs, ss, b.drop k) := by
  have hc := h.cnt
  have hl := h.le
  rw [h.eq, show b.length + 1 - vs.length = (b.length - vs.length) + 1 by omega, opnF]
  cases hd : decV (b.drop k) with
  | none => rfl
  | some v => simp only [hn v hd]
theorem fol_app {n : Int} {vs : List Ver} {ss next : List Ses} {v : Ver} (h : folV n vs ss v = some next) : vldS next n = 0 := by
  unfold folV at h
  split at h
  · cases h
  · split at h
    · cases h
    · next h2 =>
      split at h
      · cases h
      · simp only [Option.some.injEq] at h
        subst h
        have h3 : (appS n ss v.2.2).1 = 0 := Classical.not_not.1 h2
        unfold appS at h3 ⊢
        split at h3
        · next h4 => exact absurd h3 h4
        · next h4 =>
          split at h3
          · simp at h3
          · next h5 =>
            split at h3
            · next h6 => exact absurd h3 h6
            · next h6 =>
              split at h3
              · next h7 => exact absurd h3 h7
              · next h7 => rw [if_neg h4, if_neg h5, if_neg h6, if_neg h7]; exact Classical.not_not.1 h7
theorem OpI.step {n : Int} {b : L8} {k : Nat} {vs : List Ver} {ss next : List Ses} {v : Ver} (h : OpI n b k vs ss) (hb : b.length ≤ 1048576) (hd : decV (b.drop k) = some v) (hf : folV n vs ss v = some next) : OpI n b (k + (encV v).length) (vs ++ [v]) next ∧ k + (encV v).length ≤ b.length ∧ frmV v = true ∧ (encV v).length ≤ 1048576 := by
  have hc := h.cnt
  have hl := h.le
  obtain ⟨h1, h2⟩ := (dec_iff (b.drop k) (by rw [List.length_drop]; omega) v).1 hd
  have h3 := h2.length_le
  rw [List.length_drop] at h3
  have h4 := enc_len v
  refine ⟨⟨by omega, ?_, by rw [List.length_append, List.length_singleton]; omega, vld_sok (fol_app hf)⟩, by omega, h1, by omega⟩
  rw [h.eq, show b.length + 1 - vs.length = (b.length + 1 - (vs ++ [v]).length) + 1 by rw [List.length_append, List.length_singleton]; omega, opnF, hd]
  simp only [hf]
  rw [List.drop_drop]
theorem dec_facts {b : L8} {k : Nat} {v : Ver} (hb : b.length ≤ 1048576) (hd : decV (b.drop k) = some v) : frmV v = true ∧ (encV v).length ≤ 1048576 ∧ k + (encV v).length ≤ b.length := by
  obtain ⟨h1, h2⟩ := (dec_iff (b.drop k) (by rw [List.length_drop]; omega) v).1 hd
  have h3 := h2.length_le
  have h4 := enc_len v
  rw [List.length_drop] at h3
  exact ⟨h1, by omega, by omega⟩
end Go.Proofs.YtcifdllbnbhcdaaGreatDoor
namespace Go.Proofs.YtcifdllbnbhcdaaGreatDoor
open Go.RowKit
structure OInv (b : L8) (r : List Ver × List Ses × L8) : Prop where
  frm : ∀ v ∈ r.1, frmV v = true ∧ (encV v).length ≤ 1048576
  sok : SOk r.2.1
  len : 11 * r.1.length + r.2.2.length ≤ b.length
theorem opnF_inv {n : Int} {b0 : L8} (h0 : b0.length ≤ 1048576) : ∀ (k : Nat) (b : L8) (vs : List Ver) (ss : List Ses), OInv b0 (vs, ss, b) → OInv b0 (opnF n k b vs ss)
  | 0, b, vs, ss, h => h
  | k + 1, b, vs, ss, h => by
    unfold opnF
    split
    · exact h
    · next v hd =>
      split
      · exact h
      · next next hf =>
        have hl := h.len
        have hbl : b.length ≤ 1048576 := by simp only at hl; omega
        obtain ⟨h1, h2⟩ := (dec_iff b (by omega) v).1 hd
        have h3 := h2.length_le
        have h4 := enc_len v
        refine opnF_inv h0 k _ _ _ ⟨fun u hu => ?_, vld_sok (fol_app hf), ?_⟩
        · rcases List.mem_append.1 hu with hu | hu
          · exact h.frm u hu
          · rw [List.mem_singleton] at hu
            subst hu
            exact ⟨h1, by omega⟩
        · simp only [List.length_append, List.length_singleton, List.length_drop] at hl ⊢
          omega
theorem opnL_inv {n : Int} {b : L8} (h : b.length ≤ 1048576) : OInv b (opnL n b) := by
  have h0 : OInv b (([] : List Ver), ([] : List Ses), b) := { frm := fun v hv => by simp at hv, sok := fun s hs => by simp at hs, len := by simp }
  exact opnF_inv h _ _ _ _ h0
theorem vld_log {n : Int} {l : Lg} (h : vldL n l = true) : (1 ≤ n ∧ n ≤ 20) ∧ l.1.length ≤ 1048576 ∧ (0 ≤ l.2.1 ∧ l.2.1 ≤ (l.1.length : Int)) ∧ (∀ v ∈ l.2.2.1, frmV v = true ∧ (encV v).length ≤ 1048576) ∧ SOk l.2.2.2 ∧ 11 * l.2.2.1.length ≤ l.1.length := by
  unfold vldL at h
  simp only [Bool.and_eq_true, decide_eq_true_eq] at h
  obtain ⟨⟨⟨h1, h2, h3⟩, h4⟩, h5⟩ := h
  unfold opnS at h2 h4 h5
  split at h2
  · simp at h2
  · next hn =>
    rw [if_neg hn] at h4 h5
    split at h2
    · simp at h2
    · next hb =>
      rw [if_neg hb] at h4 h5
      simp only at h4 h5
      have hi := opnL_inv (n := n) (b := l.1) (by omega)
      have h6 := hi.len
      rw [h4] at h6
      refine ⟨by omega, by omega, h1, ?_, ?_, by omega⟩
      · intro v hv
        exact hi.frm v (by rw [h4]; exact hv)
      · have := hi.sok
        rw [h5] at this; exact this
theorem app_err {n : Int} {l : List Ses} {cs : List Chg} (h : (appS n l cs).1 ≠ 0) : (appS n l cs).2 = [] := by
  unfold appS at h ⊢
  split
  · rfl
  · split
    · rfl
    · split
      · rfl
      · split
        · rfl
        · next h1 h2 h3 h4 => rw [if_neg h1, if_neg h2, if_neg h3, if_neg h4] at h; exact absurd rfl h
theorem app_vld {n : Int} {ss : List Ses} {cs : List Chg} (h : (appS n ss cs).1 = 0) : vldS (appS n ss cs).2 n = 0 := by
  unfold appS at h ⊢
  split at h
  · next h4 => exact absurd h h4
  · next h4 =>
    split at h
    · simp at h
    · next h5 =>
      split at h
      · next h6 => exact absurd h h6
      · next h6 =>
        split at h
        · next h7 => exact absurd h h7
        · next h7 => rw [if_neg h4, if_neg h5, if_neg h6, if_neg h7]; exact Classical.not_not.1 h7
theorem app_sok (n : Int) (l : List Ses) (cs : List Chg) : SOk (appS n l cs).2 := by
  by_cases h : (appS n l cs).1 = 0
  · exact vld_sok (app_vld h)
  · rw [app_err h]; intro s hs; cases hs
theorem cntC_le (N : Nat) : ∀ (cs : List Chg), (∀ c ∈ cs, c.2.1.length ≤ N ∧ c.2.2.length ≤ N) → cntC cs ≤ cs.length * (2 * N + 1)
  | [], _ => by simp [cntC]
  | c :: cs, h => by
    have h1 := cntC_le N cs (fun x hx => h x (List.mem_cons_of_mem _ hx))
    have h2 := h c List.mem_cons_self
    rw [cntC_cons, List.length_cons, Nat.add_mul, Nat.one_mul]; omega
theorem ofS_sok {xs : List Ses} (h : SOk xs) (k : L8) : SOk (ofS xs k) := fun s hs => h s (List.mem_filter.1 hs).1
theorem dif_facts {n : Int} {a b : List Ses} (ha : vldS a n = 0) (hb : vldS b n = 0) : cntC (difS n a b).2 ≤ 40000 ∧ ∀ c ∈ (difS n a b).2, c.1.length ≤ 9223372036854775807 ∧ SOk c.2.1 ∧ SOk c.2.2 := by
  have e : (difS n a b).2 = (clsL (clsS a ++ clsS b)).flatMap (difK a b) := by
    unfold difS; rw [if_neg (by simp [ha]), if_neg (by simp [hb])]
  have la := (vld_parts ha).2.1
  have lb := (vld_parts hb).2.1
  have l1 : (clsS a ++ clsS b).length ≤ 192 := by unfold clsS; rw [List.length_append, List.length_map, List.length_map]; omega
  have l2 := clsL_len (clsS a ++ clsS b) []
  have l3 : ((clsL (clsS a ++ clsS b)).flatMap (difK a b)).length ≤ 192 := by
    refine Nat.le_trans (flat_len_le _ (difK_le a b) _) ?_
    unfold clsL; simp only [List.length_nil, Nat.zero_add] at l2; omega
  rw [e]
  constructor
  · refine Nat.le_trans (cntC_le 96 _ (fun c hc => ?_)) ?_
    · obtain ⟨_, h2, _⟩ := dif_mem hc
      rw [h2]
      exact ⟨Nat.le_trans (ofS_len _ _) la, Nat.le_trans (ofS_len _ _) lb⟩
    · refine Nat.le_trans (Nat.mul_le_mul_right _ l3) (by decide)
  · intro c hc
    obtain ⟨h1, h2, _⟩ := dif_mem hc
    refine ⟨?_, by rw [h2]; exact ofS_sok (vld_sok ha) _, by rw [h2]; exact ofS_sok (vld_sok hb) _⟩
    rw [clsL_mem] at h1
    rcases List.mem_append.1 h1 with h1 | h1
    · obtain ⟨s, hs, e⟩ := List.mem_map.1 h1
      rw [← e]; exact (vld_sok ha s hs).1.1
    · obtain ⟨s, hs, e⟩ := List.mem_map.1 h1
      rw [← e]; exact (vld_sok hb s hs).1.1
theorem enc_small {v : Ver} (h : frmV v = true) (hc : cntC v.2.2 ≤ 1000000) : (encV v).length ≤ 1000000000000 := read_len (b := List.replicate 10000000 0) h (by rw [List.length_replicate]; omega) (by rw [List.length_replicate]; omega)
theorem lastW_get {vs : List Ver} {v : Ver} (h : vs[vs.length - 1]? = some v) : lastW vs = v.2.1 := by
  unfold lastW; rw [List.getLast?_eq_getElem?, h]
end Go.Proofs.YtcifdllbnbhcdaaGreatDoor
namespace Go.Proofs.YtcifdllbnbhcdaaGreatDoor
open Go.RowKit
theorem Wr.keep {B b : Nat} {bs : L8} {w w' : World} (h : Wr B b bs w) (hb : Below w.heap.size w w') : Wr B b bs w' := by
  obtain ⟨h1, v, lr, h2, h3, h4⟩ := h
  exact ⟨h1, v, lr, h2.of_heap (hb.block b h2.lt), row_below h3 hb, h4⟩
theorem line_le {s : Ses} (h : chkS s 20 = 0) : (lineT s).length ≤ 120 := line_len h
set_option maxRecDepth 100000 in
set_option maxHeartbeats 16000000 in
theorem sesw_any (b : Nat) (bs : L8) (a : Option Addr) (n c : Nat) (xs : List Ses) (w0 w : World) (hb : Below w0.heap.size w0 w) (h : Wr w0.heap.size b bs w) (hx : SAt w0 a n xs) (hE : Env w0) (hk : ∀ s ∈ xs, chkS s 20 = 0) (hn : n ≤ 1000000) (hbs : bs.length ≤ 90000000000000) :
    Calls Tryz.prog 335 #[.pointer (some ⟨b, 0, none⟩), .slice a n c] w (fun e w' => e = .returned (.tuple #[]) ∧ Wr w0.heap.size b (bs ++ xs.flatMap lineT) w' ∧ Below w0.heap.size w0 w' ∧ Oth b w w') := by
  have hlx := hx.1
  have HX := Lib.hid hx
  have HE := Lib.hid hE
  have HK := Lib.hid hk
  have HW0 := Lib.hid h
  have HB0 := Lib.hid hb
  have HLL := Lib.hid (fun (l : List Ses) (h : ∀ s ∈ l, chkS s 20 = 0) => lines_len h)
  clear hx hE hk h hb
  go_enter Tryz.func335, Tryz.ntmps335
  go_wp2_with fail
  go_loopw [10] (fun i wr => ∃ j : Nat, j ≤ n ∧ i = .int .i64 j ∧ Hid (Wr w0.heap.size b (bs ++ (xs.take j).flatMap lineT) wr) ∧ Hid (Below w0.heap.size w0 wr) ∧ Hid (Oth b w wr)) (fun i _ => n - (intOf i).toNat)
  case atStart => exact ⟨0, by omega, rfl, Lib.hid (by simpa using HW0.out), HB0, Lib.hid (Lib.OthersKept.refl _ _ _)⟩
  case round =>
    clear HW0 HB0
    obtain ⟨j, hj, rfl, HW, HB, HO⟩ := hrel
    by_cases hlt : j < n
    · obtain ⟨b1, o1, s1, rfl, g1, z1, x0, x1, x2, x3, x4, x5⟩ := SAt.cells (HX.out.below HB.out) hlt
      have HT := Lib.hid (flat_take lineT g1)
      have hck := HK.out s1 (List.mem_of_getElem? g1)
      have HLN := Lib.hid (line_le hck)
      obtain ⟨_, ⟨hw1, hw2⟩, ⟨hd1, hd2⟩, ⟨hs1, hs2⟩, ⟨hl1, hl2⟩, _⟩ := chk_parts hck
      have hfl := HLL.out (xs.take j) (fun s hs => HK.out s (List.mem_of_mem_take hs))
      rw [List.length_take] at hfl
      have hfl2 : ((xs.take j).flatMap lineT).length ≤ 120000000 := by omega
      have q1 : (j : Int) < n := by omega
      have q2 : (0 : Int) ≤ j := by omega
      have HLT : Hid (lineT s1 = lnT [[83], Lib.itoa s1.2.1, Lib.itoa s1.2.2.1, Lib.itoa s1.2.2.2.1, Lib.itoa s1.2.2.2.2.1, if s1.2.2.2.2.2 = [] then [45] else s1.2.2.2.2.2]) := Lib.hid rfl
      clear g1 hck hfl
      generalize (xs.take j).flatMap lineT = L at *
      obtain ⟨cl, wk, dy, st, ln, rm⟩ := s1
      simp only at x0 x1 x2 x3 x4 x5 hw1 hw2 hd1 hd2 hs1 hs2 hl1 hl2 HLT
      have HB1 := Lib.hid (BX.mk0 (vs := sesA (cl, wk, dy, st, ln, rm)) (T := 43) wr)
      go_upto_region 3 with fail
      change Hid (BX wr (wr.alloc (.cells #[.string (arr cl), .int .i64 wk, .int .i64 dy, .int .i64 st, .int .i64 ln, .string (arr rm)] 43)) wr.heap.size _ _) at HB1
      generalize wr.alloc (.cells #[.string (arr cl), .int .i64 wk, .int .i64 dy, .int .i64 st, .int .i64 ln, .string (arr rm)] 43) = wb at *
      obtain ⟨S, hS⟩ : ∃ S, S = wr.heap.size := ⟨_, rfl⟩
      rw [← hS] at HB1 ⊢
      clear hS x0 x1 x2 x3 x4 x5
      obtain ⟨x0, x1, x2, x3, x4, x5⟩ := HB1.out.six
      simp only at x0 x1 x2 x3 x4 x5
      have HWb := Lib.hid (HW.out.keep HB1.out.bl)
      have HBb := Lib.hid (below3 HB.out HB1.out.bl)
      obtain ⟨r, hr⟩ : ∃ r, (if rm = [] then [45] else rm) = r := ⟨_, rfl⟩
      have he := arr_empty rm
      obtain ⟨e4, he4⟩ : ∃ e, decide (rm = []) = e := ⟨_, rfl⟩
      rw [he4] at he
      have HR1 : Hid (e4 = true → arr r = ⟨#[45]⟩) := Lib.hid (fun h => by rw [← hr, if_pos (of_decide_eq_true (he4.trans h))]; rfl)
      have HR2 : Hid (e4 = false → arr r = arr rm) := Lib.hid (fun h => by rw [← hr, if_neg (of_decide_eq_false (he4.trans h))])
      clear he4
      go_upto_if 17 with fail
      go_cut [6] (fun s6 wx => s6 = .string (arr r) ∧ wx = wb)
      case first =>
        cases e4
        · have HR := Lib.hid (HR2.out rfl)
          clear hr
          go_wp2_with fail
          go_meet
          exact ⟨by rw [HR.out], rfl⟩
        · have HR := Lib.hid (HR1.out rfl)
          clear hr
          go_wp2_with fail
          go_meet
          exact ⟨by rw [HR.out], rfl⟩
      case rest =>
        obtain ⟨rfl, hwc⟩ := hcut
        subst hwc
        rw [hr] at HLT
        clear hr he HR1 HR2
        have HB2 := Lib.hid (BX.mk0 (vs := #[.int .i64 wk, .int .i64 dy, .int .i64 st, .int .i64 ln]) (T := 34) wc)
        go_upto_region 7 with fail
        generalize wc.alloc (.cells #[.int .i64 wk, .int .i64 dy, .int .i64 st, .int .i64 ln] 34) = wd at *
        obtain ⟨D, hD⟩ : ∃ D, D = wc.heap.size := ⟨_, rfl⟩
        rw [← hD] at HB2 ⊢
        clear hD x0 x1 x2 x3 x4 x5
        obtain ⟨⟨xp0, xp1, xp2, xp3⟩, _⟩ := HB2.out.four
        have x0 := xp0; have x1 := xp1; have x2 := xp2; have x3 := xp3
        have HWd := Lib.hid (HWb.out.keep HB2.out.bl)
        have HBd := Lib.hid (below3 HBb.out HB2.out.bl)
        have HEd := Lib.hid (HE.out.below HBd.out)
        have IT := Lib.hid (fun (m : Int) (W : World) (h0 : 0 ≤ m) (h1 : m ≤ 9223372036854775807) (h : Below wd.heap.size wd W) => itoa_any m h0 h1 W (HEd.out.below h))
        have hLbs : (bs ++ L).length ≤ 95000000000000 := by rw [List.length_append]; omega
        have hz0 := HBd.out.size
        have LNW := Lib.hid (fun (W : World) (h : Below wd.heap.size wd W) => line_any w0.heap.size b (bs ++ L) W.heap.size 0 6 [[83], Lib.itoa wk, Lib.itoa dy, Lib.itoa st, Lib.itoa ln, r] w0 (W.alloc (.cells ([[83], Lib.itoa wk, Lib.itoa dy, Lib.itoa st, Lib.itoa ln, r].flatMap strC).toArray 9)) (HWd.out.keep (below3 h ((Below.refl _ _).alloc (Nat.le_refl _) _))) (by have := h.size; simp; omega) (KAt.news (f := strC) (k := 1) (fun _ => rfl) W _ _ (by simp)) (by simp) (by simp) (by simp) (by simp) (by rw [← HLT.out]; have := HLN.out; omega) (by omega))
        have BD := Lib.hid (bel_drew0 wd)
        have HTX : Hid (bs ++ (xs.take (j + 1)).flatMap lineT = bs ++ L ++ lnT [[83], Lib.itoa wk, Lib.itoa dy, Lib.itoa st, Lib.itoa ln, r]) := Lib.hid (by rw [HT.out, ← HLT.out, List.append_assoc])
        clear HT HLT HLN
        have hbD : b < D := Nat.lt_of_lt_of_le (by obtain ⟨_, _, _, h2, _, _⟩ := HWb.out; exact h2.lt) HB2.out.lo
        have HOd := Lib.hid (Lib.OthersKept.trans HO.out (oth_bel (below3 HB1.out.bl HB2.out.bl)))
        have hDp := Lib.hid HB2.out.hp
        go_region_held3 (fun w' => w'.cell? ⟨D, 0, none⟩ = some (.int .i64 wk) ∧ w'.cell? ⟨D, 1, none⟩ = some (.int .i64 dy) ∧ w'.cell? ⟨D, 2, none⟩ = some (.int .i64 st) ∧ w'.cell? ⟨D, 3, none⟩ = some (.int .i64 ln)) (first | (with_reducible exact ⟨x0, x1, x2, x3⟩) | go_keep) (first | (go_at_call 25; refine (IT.out _ _ (by omega) (by omega) (by first | with_reducible exact BQ.out | with_reducible exact BD.out)).mono ?_; rintro e9 w9 ⟨rfl, hb9⟩; have BQ : Hid (Below wd.heap.size wd w9) := Lib.hid (by first | with_reducible exact below3 BQ.out hb9 | with_reducible exact below3 BD.out hb9); have x0 := below_cell9 BQ.out xp0; have x1 := below_cell9 BQ.out xp1; have x2 := below_cell9 BQ.out xp2; have x3 := below_cell9 BQ.out xp3; clear hb9) | (go_at_call 334; refine (LNW.out _ BQ.out).mono ?_; rintro e8 w8 ⟨rfl, h8, hb8, ho8⟩; have H8 := Lib.hid h8; have BA := below3 BQ.out ((Below.refl _ _).alloc (Nat.le_refl _) (.cells ([[83], Lib.itoa wk, Lib.itoa dy, Lib.itoa st, Lib.itoa ln, r].flatMap strC).toArray 9)); have HB8 : Hid (Below w0.heap.size w0 w8) := Lib.hid ((below3 HBd.out BA).trans hb8); have HO8 : Hid (Oth b w w8) := Lib.hid (Lib.OthersKept.trans (Lib.OthersKept.trans HOd.out (oth_bel BA)) ho8); have hD8 := oth_cells (b := b) hDp.out (Lib.OthersKept.trans (oth_bel BA) ho8) (by omega) (by decide); have x0 := cell_of_row _ _ 0 _ _ _ hD8; have x1 := cell_of_row _ _ 1 _ _ _ hD8; have x2 := cell_of_row _ _ 2 _ _ _ hD8; have x3 := cell_of_row _ _ 3 _ _ _ hD8; simp only [List.getElem?_toArray, List.getElem?_cons_zero, List.getElem?_cons_succ] at x0 x1 x2 x3; clear h8 hb8 ho8 BA hD8))
        all_goals (
          have HWF : Hid (Wr w0.heap.size b (bs ++ (xs.take (j + 1)).flatMap lineT) _) := Lib.hid (by rw [HTX.out]; exact H8.out)
          go_wp2_with fail
          go_roundw
          case rel => exact ⟨j + 1, by omega, by go_num, HWF, HB8, HO8⟩
          case measure => simp [intOf]; omega)
    · obtain rfl : n = j := by omega
      have HWF : Hid (Wr w0.heap.size b (bs ++ xs.flatMap lineT) wr) := Lib.hid (by have := HW.out; rw [List.take_of_length_le (by omega)] at this; exact this)
      go_wp2_with fail
      go_end0
      exact ⟨rfl, HWF.out, HB.out, HO.out⟩
end Go.Proofs.YtcifdllbnbhcdaaGreatDoor
namespace Go.Proofs.YtcifdllbnbhcdaaGreatDoor
open Go.RowKit
def VOwn (w : World) (B : Nat) (rs : List RVer) (vs : List Ver) : Prop := All2 (fun r v => r.1 = v.1 ∧ r.2.1 = v.2.1 ∧ HRow w B (slV r.2.2) v.2.2) rs vs
theorem VOwn.below {w w' : World} {B : Nat} {rs : List RVer} {vs : List Ver} (h : VOwn w B rs vs) (hb : Below w.heap.size w w') : VOwn w' B rs vs := h.imp fun _ _ hr => ⟨hr.1, hr.2.1, hr.2.2.below hb⟩
theorem VOwn.base {w : World} {B B' : Nat} {rs : List RVer} {vs : List Ver} (h : VOwn w B rs vs) (hb : B' ≤ B) : VOwn w B' rs vs := h.imp fun _ _ hr => ⟨hr.1, hr.2.1, hr.2.2.base hb⟩
theorem VOwn.set {w : World} {B : Nat} {rs : List RVer} {vs : List Ver} (h : VOwn w B rs vs) {p : Addr} (hp : p.block < B) (u : Value) : VOwn (w.setCell p u) B rs vs := h.imp fun _ _ hr => ⟨hr.1, hr.2.1, hr.2.2.set hp u⟩
theorem HRow.keptV {w w' : World} {B B2 : Nat} {v v2 : Value} {cs : List Chg} {rs2 : List RVer} (h : HRow w B v cs) (h2 : KRow rveC 3 157 w B2 v2 rs2) (hg : w.grownBy w' v2.ownBlock) : HRow w' B v cs := by
  obtain ⟨rs, h3, h4⟩ := h
  exact ⟨rs, row_kept h3 h2 (by decide) hg, h4.imp fun _ _ hr => ⟨hr.1, row_kept hr.2.1 h2 (by decide) hg, row_kept hr.2.2 h2 (by decide) hg⟩⟩
theorem VOwn.kept {w w' : World} {B B2 : Nat} {rs rs2 : List RVer} {vs : List Ver} {v : Value} (h : VOwn w B rs vs) (h2 : KRow rveC 3 157 w B2 v rs2) (hg : w.grownBy w' v.ownBlock) : VOwn w' B rs vs :=
  h.imp fun _ _ hr => ⟨hr.1, hr.2.1, hr.2.2.keptV h2 hg⟩
def VRow (w : World) (B : Nat) (v : Value) (vs : List Ver) : Prop := ∃ rs, KRow rveC 3 157 w B v rs ∧ VOwn w B rs vs
theorem VRow.nil (w : World) (B : Nat) : VRow w B (.slice none 0 0) [] := ⟨[], KRow.nil _ _ _ _ _, All2.nil _⟩
theorem VRow.below {w w' : World} {B : Nat} {v : Value} {vs : List Ver} (h : VRow w B v vs) (hb : Below w.heap.size w w') : VRow w' B v vs := by
  obtain ⟨rs, h1, h2⟩ := h
  exact ⟨rs, row_below h1 hb, h2.below hb⟩
theorem VRow.base {w : World} {B B' : Nat} {v : Value} {vs : List Ver} (h : VRow w B v vs) (hb : B' ≤ B) : VRow w B' v vs := by
  obtain ⟨rs, h1, h2⟩ := h
  exact ⟨rs, row_base h1 hb, h2.base hb⟩
theorem VRow.set {w : World} {B : Nat} {v : Value} {vs : List Ver} (h : VRow w B v vs) {p : Addr} (hp : p.block < B) (u : Value) : VRow (w.setCell p u) B v vs := by
  obtain ⟨rs, h1, h2⟩ := h
  exact ⟨rs, row_set h1 hp u, h2.set hp u⟩
theorem hv_of {w : World} {B : Nat} {s : Sl} {cs : List Chg} (h : HRow w B (slV s) cs) : HV w s cs := by
  obtain ⟨s', h1, h2⟩ := h.hv
  have : s = s' := by
    obtain ⟨a, n, c⟩ := s
    obtain ⟨a', n', c'⟩ := s'
    unfold slV at h1
    cases h1; rfl
  rw [this]; exact h2
theorem VRow.vv {w : World} {B : Nat} {v : Value} {vs : List Ver} (h : VRow w B v vs) : ∃ s : Sl, v = slV s ∧ VV w s vs := by
  obtain ⟨rs, h1, h2⟩ := h
  obtain ⟨a, cap, e, hc, hk⟩ := KRow.at_ encVer h1
  exact ⟨(a, rs.length, cap), e, hc, rs, hk, h2.imp fun r x hr => ⟨hr.1, hr.2.1, hv_of hr.2.2⟩⟩
theorem RdR.two {r : Option Ver} {w : World} {e : Ending} {w' : World} (h : RdR r w e w') : ∃ (v0 v1 : Int) (s : Sl) (x : Int) (ok : Bool), e = .returned (.tuple #[.agg #[.int .i64 v0, .int .i64 v1, .slice s.1 s.2.1 s.2.2], .int .i64 x, .bool ok]) ∧ Below w.heap.size w w' ∧
    ((ok = false ∧ r = none) ∨ (ok = true ∧ ∃ v, r = some v ∧ v0 = v.1 ∧ v1 = v.2.1 ∧ x = ((encV v).length : Int) ∧ HRow w' w.heap.size (slV s) v.2.2)) := by
  rcases h with ⟨h1, h2, h3⟩ | ⟨v, s, h1, h2, h3, h4⟩
  · exact ⟨0, 0, (none, 0, 0), 0, false, h2, h3, Or.inl ⟨rfl, h1⟩⟩
  · exact ⟨v.1, v.2.1, s, _, true, h2, h4, Or.inr ⟨rfl, v, h1, rfl, rfl, rfl, h3⟩⟩
def RdC (r : Option Ver) (w : World) (s10 s11 s12 : Value) (w' : World) : Prop := ∃ (B : Nat) (v0 v1 : Int) (s : Sl) (x : Int) (ok : Bool), s10 = .pointer (some ⟨B, 0, none⟩) ∧ s11 = .int .i64 x ∧ s12 = .bool ok ∧ BX w w' B #[.int .i64 v0, .int .i64 v1, .slice s.1 s.2.1 s.2.2] 157 ∧
    ((ok = false ∧ r = none) ∨ (ok = true ∧ ∃ v, r = some v ∧ v0 = v.1 ∧ v1 = v.2.1 ∧ x = ((encV v).length : Int) ∧ HRow w' w.heap.size (slV s) v.2.2))
def LogO (w : World) (B : Nat) (v : Value) (l : Lg) : Prop := ∃ d vs ss : Sl, v = logV d l.2.1 vs ss ∧ KRow bytC 1 5 w B (slV d) l.1 ∧ VRow w B (slV vs) l.2.2.1 ∧ SRow w B (slV ss) l.2.2.2
theorem LogO.zero (w : World) (B : Nat) : LogO w B (logV (none, 0, 0) 0 (none, 0, 0) (none, 0, 0)) lgZ := ⟨(none, 0, 0), (none, 0, 0), (none, 0, 0), rfl, KRow.nil _ _ _ _ _, VRow.nil _ _, KRow.nil _ _ _ _ _⟩
theorem bv_of {w : World} {B : Nat} {d : Sl} {l : L8} (h : KRow bytC 1 5 w B (slV d) l) : BV w d l := by
  obtain ⟨a, cap, e, hc, hk⟩ := KRow.at_ encByt h
  obtain ⟨a', n', c'⟩ := d
  injection e with e1 e2 e3
  simp only at e1 e2 e3
  subst e1 e2 e3
  exact ⟨hc, hk⟩
theorem LogO.logR {w : World} {B : Nat} {v : Value} {l : Lg} (h : LogO w B v l) : LogR w v l := by
  obtain ⟨d, vs, ss, hv, h1, h2, h3⟩ := h
  obtain ⟨vs', ev, hvv⟩ := h2.vv
  obtain ⟨a1, n1, c1⟩ := vs
  obtain ⟨a2, n2, c2⟩ := vs'
  injection ev with e1 e2 e3
  simp only at e1 e2 e3
  subst e1 e2 e3
  exact ⟨d, _, ss, hv, bv_of h1, hvv, sv_of h3⟩
theorem LogO.set4 {w : World} {B : Nat} {v : Value} {l : Lg} (h : LogO w B v l) {R : Nat} (hp : R < B) (u0 u1 u2 u3 : Value) : LogO ((((w.setCell ⟨R, 0, none⟩ u0).setCell ⟨R, 1, none⟩ u1).setCell ⟨R, 2, none⟩ u2).setCell ⟨R, 3, none⟩ u3) B v l := by
  obtain ⟨d, vs, ss, hv, h1, h2, h3⟩ := h
  exact ⟨d, vs, ss, hv, row_set (row_set (row_set (row_set h1 (p := ⟨R, 0, none⟩) hp u0) (p := ⟨R, 1, none⟩) hp u1) (p := ⟨R, 2, none⟩) hp u2) (p := ⟨R, 3, none⟩) hp u3, (((h2.set (p := ⟨R, 0, none⟩) hp u0).set (p := ⟨R, 1, none⟩) hp u1).set (p := ⟨R, 2, none⟩) hp u2).set (p := ⟨R, 3, none⟩) hp u3, row_set (row_set (row_set (row_set h3 (p := ⟨R, 0, none⟩) hp u0) (p := ⟨R, 1, none⟩) hp u1) (p := ⟨R, 2, none⟩) hp u2) (p := ⟨R, 3, none⟩) hp u3⟩
theorem LogO.base {w : World} {B B' : Nat} {v : Value} {l : Lg} (h : LogO w B v l) (hb : B' ≤ B) : LogO w B' v l := by
  obtain ⟨d, vs, ss, hv, h1, h2, h3⟩ := h
  exact ⟨d, vs, ss, hv, row_base h1 hb, h2.base hb, row_base h3 hb⟩
def OpnR (r : Int × Lg × Int) (w : World) (e : Ending) (w' : World) : Prop := ∃ v, e = .returned (.tuple #[v, .int .i64 r.2.2, .int .i64 r.1]) ∧ LogO w' w.heap.size v r.2.1 ∧ Below w.heap.size w w'
theorem LogR.zero (w : World) : LogR w (logV (none, 0, 0) 0 (none, 0, 0) (none, 0, 0)) lgZ := ⟨(none, 0, 0), (none, 0, 0), (none, 0, 0), rfl, BV.nil _, VV.nil _, SV.nil _⟩
end Go.Proofs.YtcifdllbnbhcdaaGreatDoor
namespace Go.Proofs.YtcifdllbnbhcdaaGreatDoor
open Go.RowKit
theorem conv_str {W : World} {a : Option Addr} {n c : Nat} {d : L8} (h : BAt W a n d) : (convert 62 9 (.slice a n c)).run Tryz.prog W = .ok (.string (arr d)) W := by
  cases a with
  | some a => exact whole_str h W (fun _ => rfl)
  | none =>
    have hn : n = 0 := by
      rcases h.2.2 with h0 | ⟨_, _, e, _⟩
      · exact h0
      · cases e
    have hd : d = [] := List.eq_nil_of_length_eq_zero (by rw [h.1]; exact hn)
    subst hd
    exact run_convert_bytes_nil W 62 5 Tryz.underlying62 Tryz.underlying5 n c 9 Tryz.underlying9
end Go.Proofs.YtcifdllbnbhcdaaGreatDoor
