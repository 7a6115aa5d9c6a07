/- Texts V46, V47, V48, V50, joined: walks and laws for the versions. -/
import Derived.Test.YtihbpggbpapcfaaGreatDoorM28
namespace Go.Proofs.YtihbpggbpapcfaaGreatDoor
open Go.RowKit

def rdV (b : L8) : Option Ver := match verP numR (fun c => decide (0 ≤ c ∧ c ≤ b.length)) b with
  | none => none
  | some (v, _) => if frmV v = true ∧ encV v <+: b then some v else none
theorem rd_dec {b : L8} (hb : b.length < 10000000) : rdV b = decV b := by
  refine dec_unique (f := rdV) hb (fun v h => ?_) (fun v h1 h2 => ?_)
  · unfold rdV at h
    split at h
    · cases h
    · split at h
      · next hc => cases h; exact hc
      · cases h
  · obtain ⟨t, rfl⟩ := h2
    have hl := chg_len v
    rw [List.length_append] at hb
    have hr : verP numR (fun c => decide (0 ≤ c ∧ c ≤ ((encV v ++ t).length : Int))) (encV v ++ t) = some (v, endT (verT v) ++ t) := ver_read (num := numR) num_ref h1 (by omega) (by rw [decide_eq_true_iff, List.length_append]; omega) t
    unfold rdV
    rw [hr]
    simp only
    rw [if_pos ⟨h1, List.prefix_append _ _⟩]
def cntC (cs : List Chg) : Nat := (cs.map fun c => 1 + c.2.1.length + c.2.2.length).sum
theorem cntC_cons (c : Chg) (cs : List Chg) : cntC (c :: cs) = 1 + c.2.1.length + c.2.2.length + cntC cs := by simp [cntC]
theorem lnP_len {r w : L8} {n : Nat} {ws : List L8} {t : L8} (h : lnP r w n = some (ws, t)) : t.length + 1 ≤ r.length := by
  unfold lnP at h
  split at h
  · cases h
  · next l u hc =>
    split at h
    · simp only [Option.some.injEq, Prod.mk.injEq] at h
      obtain ⟨_, rfl⟩ := h
      have := ctl_len hc
      omega
    · cases h
theorem stepS_len {num : L8 → Option Int} {cl r t : L8} {s : Ses} (h : stepS num cl r = some (s, t)) : t.length + 1 ≤ r.length := by
  unfold stepS at h
  split at h
  · cases h
  · next hl =>
    split at h
    · simp only [Option.some.injEq, Prod.mk.injEq] at h
      obtain ⟨_, rfl⟩ := h
      exact lnP_len hl
    · cases h
theorem repS_len {num : L8 → Option Int} {cl : L8} : ∀ (k : Nat) {r t : L8} {l : List Ses}, repP (stepS num cl) k r = some (l, t) → l.length + t.length ≤ r.length
  | 0, _, _, _, h => by cases h; simp
  | k + 1, r, t, l, h => by
    unfold repP at h
    split at h
    · cases h
    · next x u hx =>
      split at h
      · cases h
      · next m q hm =>
        simp only [Option.some.injEq, Prod.mk.injEq] at h
        obtain ⟨rfl, rfl⟩ := h
        have h1 := stepS_len hx
        have h2 := repS_len k hm
        rw [List.length_cons]; omega
theorem stepC_len {num : L8 → Option Int} {r t : L8} {c : Chg} (h : stepC num r = some (c, t)) : 1 + c.2.1.length + c.2.2.length + t.length ≤ r.length := by
  unfold stepC at h
  split at h
  · cases h
  · next ws u hl =>
    split at h
    · cases h
    · next a ha =>
      split at h
      · cases h
      · next x u2 hx =>
        split at h
        · cases h
        · next b hb =>
          split at h
          · cases h
          · next y u3 hy =>
            simp only [Option.some.injEq, Prod.mk.injEq] at h
            obtain ⟨rfl, rfl⟩ := h
            have h1 := lnP_len hl
            have h2 := repS_len _ hx
            have h3 := repS_len _ hy
            simp only
            omega
theorem repC_len {num : L8 → Option Int} : ∀ (k : Nat) {r t : L8} {l : List Chg}, repP (stepC num) k r = some (l, t) → cntC l + t.length ≤ r.length
  | 0, _, _, _, h => by cases h; simp [cntC]
  | k + 1, r, t, l, h => by
    unfold repP at h
    split at h
    · cases h
    · next x u hx =>
      split at h
      · cases h
      · next m q hm =>
        simp only [Option.some.injEq, Prod.mk.injEq] at h
        obtain ⟨rfl, rfl⟩ := h
        have h1 := stepC_len hx
        have h2 := repC_len k hm
        rw [cntC_cons]; omega
theorem line_len {s : Ses} (h : chkS s 20 = 0) : (lineT s).length ≤ 120 := by
  obtain ⟨_, h2, h3, h4, h5, h6⟩ := chk_parts h
  have hr16 : s.2.2.2.2.2.length ≤ 16 := by
    rcases h6 with g6 | g6
    · rw [g6]; simp
    · exact (codeOk_of g6).2.1
  have l1 := Lib.itoa_length_le s.2.1 (by omega) (by omega)
  have l2 := Lib.itoa_length_le s.2.2.1 (by omega) (by omega)
  have l3 := Lib.itoa_length_le s.2.2.2.1 (by omega) (by omega)
  have l4 := Lib.itoa_length_le s.2.2.2.2.1 (by omega) (by omega)
  unfold lineT lnT lineW
  rw [join_two, join_two, join_two, join_two, join_two, Lib.join_one]
  simp only [List.length_append, List.length_cons, List.length_nil]
  split <;> simp <;> omega
theorem lines_len {l : List Ses} (h : ∀ s ∈ l, chkS s 20 = 0) : (l.flatMap lineT).length ≤ 120 * l.length := by
  induction l with
  | nil => simp
  | cons s l ih =>
    have h1 := line_len (h s List.mem_cons_self)
    have h2 := ih (fun x hx => h x (List.mem_cons_of_mem _ hx))
    rw [List.flatMap_cons, List.length_append, List.length_cons]; omega
theorem chgs_len {cs : List Chg} (h : ∀ c ∈ cs, chgOk c = true) : (cs.flatMap chgT).length ≤ 120 * cntC cs := by
  induction cs with
  | nil => simp [cntC]
  | cons c cs ih =>
    have h2 := ih (fun x hx => h x (List.mem_cons_of_mem _ hx))
    obtain ⟨h3, ⟨_, h4⟩, _, h5⟩ := chgOk_parts (h c List.mem_cons_self)
    have hcl := (codeOk_of h3).2.1
    have h6 := lines_len (own_chk h4)
    have h7 := lines_len (own_chk h5)
    have l1 := (vld_parts h4).2.1
    have l2 := (vld_parts h5).2.1
    have l3 := Lib.itoa_length_le (c.2.1.length : Int) (by omega) (by omega)
    have l4 := Lib.itoa_length_le (c.2.2.length : Int) (by omega) (by omega)
    rw [List.flatMap_cons, List.length_append, cntC_cons]
    have : (chgT c).length ≤ 120 + (c.2.1.flatMap lineT).length + (c.2.2.flatMap lineT).length := by
      unfold chgT
      rw [chg_head]
      simp only [List.length_append, List.length_cons, List.length_nil]
      omega
    omega
theorem read_len {v : Ver} {b : L8} (h : frmV v = true) (hc : cntC v.2.2 ≤ b.length) (hb : b.length ≤ 10000000) : (encV v).length ≤ 1000000000000 := by
  obtain ⟨⟨h1, h2, h3, h4, _⟩, _, h5⟩ := frm_parts h
  have h6 := chgs_len h5
  have hle : v.2.2.length ≤ cntC v.2.2 := by
    have : ∀ cs : List Chg, cs.length ≤ cntC cs := by
      intro cs
      induction cs with
      | nil => simp [cntC]
      | cons c cs ih => rw [cntC_cons, List.length_cons]; omega
    exact this _
  have l1 := Lib.itoa_length_le v.1 (by omega) (by omega)
  have l2 := Lib.itoa_length_le v.2.1 (by omega) (by omega)
  have l3 := Lib.itoa_length_le (v.2.2.length : Int) (by omega) (by omega)
  unfold encV verT
  rw [ver_head]
  simp only [List.length_append, List.length_cons, List.length_nil, end_len]
  omega
end Go.Proofs.YtihbpggbpapcfaaGreatDoor

namespace Go.Proofs.YtihbpggbpapcfaaGreatDoor
open Go.RowKit

def RdR (r : Option Ver) (w : World) (e : Ending) (w' : World) : Prop :=
  (r = none ∧ e = .returned (.tuple #[verV 0 0 (none, 0, 0), .int .i64 0, .bool false]) ∧ Below w.heap.size w w') ∨
  (∃ (v : Ver) (s : Sl), r = some v ∧ e = .returned (.tuple #[verV v.1 v.2.1 s, .int .i64 (encV v).length, .bool true]) ∧ HRow w' w.heap.size (slV s) v.2.2 ∧ Below w.heap.size w w')
theorem WdsR.two {d : L8} {f : Nat} {w : World} {e : Ending} {w' : World} (h : WdsR d f w e w') : ∃ (v : Value) (x : Int) (ok : Bool), e = .returned (.tuple #[v, .int .i64 x, .bool ok]) ∧ Below w.heap.size w w' ∧ ((ok = false ∧ ctl (d.drop f) = none) ∨ (ok = true ∧ ∃ l k, ctl (d.drop f) = some (l, d.drop k) ∧ x = (k : Int) ∧ f < k ∧ k ≤ d.length ∧ CRow w' w.heap.size v (spl l))) := by
  rcases h with ⟨h1, h2, h3⟩ | ⟨l, k, v, h1, h2, h3, h4, h5, h6⟩
  · exact ⟨_, _, _, h2, h3, Or.inl ⟨rfl, h1⟩⟩
  · exact ⟨_, _, _, h4, h6, Or.inr ⟨rfl, l, k, h1, rfl, h2, h3, h5⟩⟩
def SesQ (d : L8) (f : Nat) (nn : Int) (cl : L8) (B : Nat) (v : Value) (x : Int) (ok : Bool) (w' : World) : Prop :=
  (ok = false ∧ sesP numR cl nn (d.drop f) = none) ∨ (ok = true ∧ ∃ l k, sesP numR cl nn (d.drop f) = some (l, d.drop k) ∧ x = (k : Int) ∧ f ≤ k ∧ k ≤ d.length ∧ SRow w' B v l)
theorem SesR.two {d : L8} {f : Nat} {nn : Int} {cl : L8} {w : World} {e : Ending} {w' : World} (h : SesR d f nn cl w e w') : ∃ (s : Sl) (x : Int) (ok : Bool), e = .returned (.tuple #[.slice s.1 s.2.1 s.2.2, .int .i64 x, .bool ok]) ∧ Below w.heap.size w w' ∧ SesQ d f nn cl w.heap.size (slV s) x ok w' := by
  rcases h with ⟨h1, x, h2, h3⟩ | ⟨l, k, v, h1, h2, h3, h4, h5, h6⟩
  · exact ⟨(none, 0, 0), _, _, h2, h3, Or.inl ⟨rfl, h1⟩⟩
  · obtain ⟨s, rfl, _⟩ := SRow.sv h5
    exact ⟨s, _, _, h4, h6, Or.inr ⟨rfl, l, k, h1, rfl, h2, h3, h5⟩⟩
theorem row_set {w : World} {B : Nat} {e : TypeId} {k n : Nat} {v : Value} {xs : List Value} (h : w.ownsRow B e k v n xs) {p : Addr} (hp : p.block < B) (u : Value) : (w.setCell p u).ownsRow B e k v n xs := by
  obtain ⟨h1, h2⟩ := h
  refine ⟨h1, ?_⟩
  rcases h2 with h2 | ⟨g, cap, cur, h3, h4, h5, h6⟩
  · exact Or.inl h2
  · exact Or.inr ⟨g, cap, cur, h3, h4, (Below.heap_setCell w p _ _ (by omega)).trans h5, h6⟩
theorem whole_str {w : World} {a : Addr} {n cap : Nat} {d : L8} (h : BAt w (some a) n d) (W : World) (hW : ∀ p, W.cell? p = w.cell? p) : (convert 26 9 (.slice (some a) n cap)).run Tryz.prog W = .ok (.string (arr d)) W := by
  have := run_convert_bytes_back (P := Tryz.prog) W 26 9 5 a cap d Tryz.underlying26 Tryz.underlying5 Tryz.underlying9 (fun i hi => by
    rcases h.2.2 with h0 | ⟨b', off', e, hc⟩
    · rw [h.1] at hi; omega
    · cases e
      rw [Go.WideShapes.add_plain, hW]
      have := hc i _ (List.getElem?_eq_getElem hi) 0 _ rfl
      rw [Nat.mul_one, Nat.add_zero] at this
      exact this)
  rw [h.1] at this
  exact this
theorem set_far {w : World} {g o : Nat} {u v : Value} {q : Addr} (h : w.cell? q = some v) (hne : g ≠ q.block) : (w.setCell ⟨g, o, none⟩ u).cell? q = some v := (World.cell?_setCell_far w _ _ _ hne).trans h
theorem set_is {w : World} {p q : Addr} {u : Value} (h : (w.cell? q).isSome = true) : ((w.setCell p u).cell? q).isSome = true := by
  obtain ⟨x, hx⟩ := Option.isSome_iff_exists.1 h
  by_cases e : p = q
  · subst e; rw [World.cell?_setCell_same w p u hx]; rfl
  · rw [World.cell?_setCell_other w p q u e, hx]; rfl
theorem set_fz {w : World} {p q : Addr} {u : Value} (h : w.frozen? q = false) : (w.setCell p u).frozen? q = false := by rw [World.frozen?_setCell]; exact h
theorem HRow.set {w : World} {B : Nat} {v : Value} {cs : List Chg} (h : HRow w B v cs) {p : Addr} (hp : p.block < B) (u : Value) : HRow (w.setCell p u) B v cs := by
  obtain ⟨rs, h1, h2⟩ := h
  exact ⟨rs, row_set h1 hp u, h2.imp fun _ _ hr => ⟨hr.1, row_set hr.2.1 hp u, row_set hr.2.2 hp u⟩⟩
theorem SesQ.next {d : L8} {f : Nat} {nn : Int} {cl : L8} {B : Nat} {v : Value} {x : Int} {ok : Bool} {w w' : World} (h : SesQ d f nn cl B v x ok w) (hb : Below w.heap.size w w') : SesQ d f nn cl B v x ok w' := by
  rcases h with h | ⟨h1, l, k, h2, h3, h4, h5, h6⟩
  · exact Or.inl h
  · exact Or.inr ⟨h1, l, k, h2, h3, h4, h5, row_below h6 hb⟩
theorem SesQ.set {d : L8} {f : Nat} {nn : Int} {cl : L8} {B : Nat} {v : Value} {x : Int} {ok : Bool} {w : World} (h : SesQ d f nn cl B v x ok w) {p : Addr} (hp : p.block < B) (u : Value) : SesQ d f nn cl B v x ok (w.setCell p u) := by
  rcases h with h | ⟨h1, l, k, h2, h3, h4, h5, h6⟩
  · exact Or.inl h
  · exact Or.inr ⟨h1, l, k, h2, h3, h4, h5, row_set h6 hp u⟩
theorem SesQ.base {d : L8} {f : Nat} {nn : Int} {cl : L8} {B B' : Nat} {v : Value} {x : Int} {ok : Bool} {w : World} (h : SesQ d f nn cl B v x ok w) (hb : B' ≤ B) : SesQ d f nn cl B' v x ok w := by
  rcases h with h | ⟨h1, l, k, h2, h3, h4, h5, h6⟩
  · exact Or.inl h
  · exact Or.inr ⟨h1, l, k, h2, h3, h4, h5, row_base h6 hb⟩
structure RC (w0 w : World) (R : Nat) (v0 v1 v2 : Value) (T : TypeId) : Prop where
  hp : w.heap[R]? = some (.cells #[v0, v1, v2] T (0, 0))
  lo : w0.heap.size ≤ R
  bl : Below w0.heap.size w0 w
section
variable {w0 w w2 : World} {R : Nat} {v0 v1 v2 : Value} {T : TypeId}
theorem RC.next (h : RC w0 w R v0 v1 v2 T) (hb : Below w.heap.size w w2) : RC w0 w2 R v0 v1 v2 T := ⟨by rw [hb.block R (lt_of_heap h.hp)]; exact h.hp, h.lo, below3 h.bl hb⟩
theorem RC.lt (h : RC w0 w R v0 v1 v2 T) : R < w.heap.size := lt_of_heap h.hp
theorem RC.cells (h : RC w0 w R v0 v1 v2 T) : w.cell? ⟨R, 0, none⟩ = some v0 ∧ w.cell? ⟨R, 1, none⟩ = some v1 ∧ w.cell? ⟨R, 2, none⟩ = some v2 ∧ w.frozen? ⟨R, 0, none⟩ = false ∧ w.frozen? ⟨R, 1, none⟩ = false ∧ w.frozen? ⟨R, 2, none⟩ = false :=
  ⟨by rw [cell_of_row _ _ 0 _ _ _ h.hp]; rfl, by rw [cell_of_row _ _ 1 _ _ _ h.hp]; rfl, by rw [cell_of_row _ _ 2 _ _ _ h.hp]; rfl, frozen_of_row _ _ _ _ _ h.hp, frozen_of_row _ _ _ _ _ h.hp, frozen_of_row _ _ _ _ _ h.hp⟩
theorem RC.set1 (h : RC w0 w R v0 v1 v2 T) (u : Value) : RC w0 (w.setCell ⟨R, 1, none⟩ u) R v0 u v2 T := by
  refine ⟨?_, h.lo, h.bl.setCell (p := ⟨R, 1, none⟩) h.lo u⟩
  rw [heap_setCell_same _ R 1 _ _ _ h.hp]; rfl
theorem RC.set2 (h : RC w0 w R v0 v1 v2 T) (u : Value) : RC w0 (w.setCell ⟨R, 2, none⟩ u) R v0 v1 u T := by
  refine ⟨?_, h.lo, h.bl.setCell (p := ⟨R, 2, none⟩) h.lo u⟩
  rw [heap_setCell_same _ R 2 _ _ _ h.hp]; rfl
theorem RC.set3 (h : RC w0 w R v0 v1 v2 T) (u0 u1 u2 : Value) : RC w0 (((w.setCell ⟨R, 0, none⟩ u0).setCell ⟨R, 1, none⟩ u1).setCell ⟨R, 2, none⟩ u2) R u0 u1 u2 T := by
  refine ⟨?_, h.lo, ((h.bl.setCell (p := ⟨R, 0, none⟩) h.lo u0).setCell (p := ⟨R, 1, none⟩) h.lo u1).setCell (p := ⟨R, 2, none⟩) h.lo u2⟩
  rw [heap_setCell_same _ R 2 #[u0, u1, v2] _ _ (by rw [heap_setCell_same _ R 1 #[u0, v1, v2] _ _ (by rw [heap_setCell_same _ R 0 _ _ _ h.hp]; rfl)]; rfl)]
  rfl
theorem RC.mk0 (w : World) : RC w (w.alloc (.cells #[v0, v1, v2] T)) w.heap.size v0 v1 v2 T := ⟨heap_alloc_new _ _, Nat.le_refl _, (Below.refl _ _).alloc (Nat.le_refl _) _⟩
end
end Go.Proofs.YtihbpggbpapcfaaGreatDoor

namespace Go.Proofs.YtihbpggbpapcfaaGreatDoor
open Go.RowKit

theorem chk_sok {s : Ses} {n : Int} (h : chkS s n = 0) : (s.1.length ≤ 9223372036854775807 ∧ s.2.2.2.2.2.length ≤ 9223372036854775807) ∧ -9223372036854775808 ≤ s.2.2.2.1 ∧ s.2.2.2.1 ≤ 9223372036854775807 := by
  obtain ⟨h1, _, _, h4, _, h6⟩ := chk_parts h
  have hc := (codeOk_of h1).2.1
  have hr : s.2.2.2.2.2.length ≤ 16 := by
    rcases h6 with h6 | h6
    · rw [h6]; simp
    · exact (codeOk_of h6).2.1
  exact ⟨⟨by omega, by omega⟩, by omega, by omega⟩
theorem vld_sok {xs : List Ses} {n : Int} (h : vldS xs n = 0) : SOk xs := fun s hs => chk_sok (chkL_all (vld_parts h).2.2.1 s hs)
theorem frm_vok {v : Ver} (h : frmV v = true) : VOk v := fun c hc => by
  obtain ⟨h1, ⟨_, h2⟩, _, h3⟩ := chgOk_parts ((frm_parts h).2.2 c hc)
  exact ⟨by have := (codeOk_of h1).2.1; omega, vld_sok h2, vld_sok h3⟩
theorem line_ge (s : Ses) : 2 ≤ (lineT s).length := by
  unfold lineT lnT lineW
  rw [join_two]
  simp <;> omega
theorem lines_ge (l : List Ses) : 2 * l.length ≤ (l.flatMap lineT).length := by
  induction l with
  | nil => simp
  | cons s l ih =>
    have := line_ge s
    rw [List.flatMap_cons, List.length_append, List.length_cons]; omega
theorem chgs_ge (cs : List Chg) : 2 * cntC cs ≤ (cs.flatMap chgT).length := by
  induction cs with
  | nil => simp [cntC]
  | cons c cs ih =>
    have h1 := lines_ge c.2.1
    have h2 := lines_ge c.2.2
    rw [List.flatMap_cons, List.length_append, cntC_cons]
    have : 2 + (c.2.1.flatMap lineT).length + (c.2.2.flatMap lineT).length ≤ (chgT c).length := by
      unfold chgT
      rw [chg_head]
      simp only [List.length_append, List.length_cons, List.length_nil]
      omega
    omega
theorem cnt_ge (cs : List Chg) : cs.length ≤ cntC cs ∧ (cs.flatMap (·.2.2)).length ≤ cntC cs := by
  induction cs with
  | nil => simp [cntC]
  | cons c cs ih =>
    rw [cntC_cons, List.flatMap_cons, List.length_append, List.length_cons]; omega
theorem enc_cnt {v : Ver} (h : (encV v).length ≤ 1048576) : v.2.2.length ≤ 1000000 ∧ (v.2.2.flatMap (·.2.2)).length ≤ 1000000 := by
  have h1 := chgs_ge v.2.2
  have h2 := cnt_ge v.2.2
  unfold encV verT at h
  rw [List.length_append, List.length_append] at h
  omega
structure OpI (n : Int) (b : L8) (k : Nat) (vs : List Ver) (ss : List Ses) : Prop where
  le : k ≤ b.length
  eq : opnL n b = opnF n (b.length + 1 - vs.length) (b.drop k) vs ss
  cnt : 11 * vs.length ≤ k
  sok : SOk ss
theorem OpI.start (n : Int) (b : L8) : OpI n b 0 [] [] := ⟨Nat.zero_le _, by simp [opnL], by simp, fun s hs => by cases hs⟩
theorem OpI.stop {n : Int} {b : L8} {k : Nat} {vs : List Ver} {ss : List Ses} (h : OpI n b k vs ss) (hn : ∀ v, decV (b.drop k) = some v → folV n vs ss v = none) : opnL n b = (vs, ss, b.drop k) := by
  have hc := h.cnt
  have hl := h.le
  rw [h.eq, show b.length + 1 - vs.length = (b.length - vs.length) + 1 by omega, opnF]
  cases hd : decV (b.drop k) with
  | none => rfl
  | some v => simp only [hn v hd]
theorem fol_app {n : Int} {vs : List Ver} {ss next : List Ses} {v : Ver} (h : folV n vs ss v = some next) : vldS next n = 0 := by
  unfold folV at h
  split at h
  · cases h
  · split at h
    · cases h
    · next h2 =>
      split at h
      · cases h
      · simp only [Option.some.injEq] at h
        subst h
        have h3 : (appS n ss v.2.2).1 = 0 := Classical.not_not.1 h2
        unfold appS at h3 ⊢
        split at h3
        · next h4 => exact absurd h3 h4
        · next h4 =>
          split at h3
          · simp at h3
          · next h5 =>
            split at h3
            · next h6 => exact absurd h3 h6
            · next h6 =>
              split at h3
              · next h7 => exact absurd h3 h7
              · next h7 => rw [if_neg h4, if_neg h5, if_neg h6, if_neg h7]; exact Classical.not_not.1 h7
theorem OpI.step {n : Int} {b : L8} {k : Nat} {vs : List Ver} {ss next : List Ses} {v : Ver} (h : OpI n b k vs ss) (hb : b.length ≤ 1048576) (hd : decV (b.drop k) = some v) (hf : folV n vs ss v = some next) : OpI n b (k + (encV v).length) (vs ++ [v]) next ∧ k + (encV v).length ≤ b.length ∧ frmV v = true ∧ (encV v).length ≤ 1048576 := by
  have hc := h.cnt
  have hl := h.le
  obtain ⟨h1, h2⟩ := (dec_iff (b.drop k) (by rw [List.length_drop]; omega) v).1 hd
  have h3 := h2.length_le
  rw [List.length_drop] at h3
  have h4 := enc_len v
  refine ⟨⟨by omega, ?_, by rw [List.length_append, List.length_singleton]; omega, vld_sok (fol_app hf)⟩, by omega, h1, by omega⟩
  rw [h.eq, show b.length + 1 - vs.length = (b.length + 1 - (vs ++ [v]).length) + 1 by rw [List.length_append, List.length_singleton]; omega, opnF, hd]
  simp only [hf]
  rw [List.drop_drop]
theorem dec_facts {b : L8} {k : Nat} {v : Ver} (hb : b.length ≤ 1048576) (hd : decV (b.drop k) = some v) : frmV v = true ∧ (encV v).length ≤ 1048576 ∧ k + (encV v).length ≤ b.length := by
  obtain ⟨h1, h2⟩ := (dec_iff (b.drop k) (by rw [List.length_drop]; omega) v).1 hd
  have h3 := h2.length_le
  have h4 := enc_len v
  rw [List.length_drop] at h3
  exact ⟨h1, by omega, by omega⟩
theorem rd_drop {b : L8} {k : Nat} (hb : b.length ≤ 1048576) : rdV (b.drop k) = decV (b.drop k) := rd_dec (by rw [List.length_drop]; omega)
end Go.Proofs.YtihbpggbpapcfaaGreatDoor

namespace Go.Proofs.YtihbpggbpapcfaaGreatDoor
open Go.RowKit

structure OInv (b : L8) (r : List Ver × List Ses × L8) : Prop where
  frm : ∀ v ∈ r.1, frmV v = true ∧ (encV v).length ≤ 1048576
  sok : SOk r.2.1
  len : 11 * r.1.length + r.2.2.length ≤ b.length
theorem opnF_inv {n : Int} {b0 : L8} (h0 : b0.length ≤ 1048576) : ∀ (k : Nat) (b : L8) (vs : List Ver) (ss : List Ses), OInv b0 (vs, ss, b) → OInv b0 (opnF n k b vs ss)
  | 0, b, vs, ss, h => h
  | k + 1, b, vs, ss, h => by
    unfold opnF
    split
    · exact h
    · next v hd =>
      split
      · exact h
      · next next hf =>
        have hl := h.len
        have hbl : b.length ≤ 1048576 := by simp only at hl; omega
        obtain ⟨h1, h2⟩ := (dec_iff b (by omega) v).1 hd
        have h3 := h2.length_le
        have h4 := enc_len v
        refine opnF_inv h0 k _ _ _ ⟨fun u hu => ?_, vld_sok (fol_app hf), ?_⟩
        · rcases List.mem_append.1 hu with hu | hu
          · exact h.frm u hu
          · rw [List.mem_singleton] at hu
            subst hu
            exact ⟨h1, by omega⟩
        · simp only [List.length_append, List.length_singleton, List.length_drop] at hl ⊢
          omega
theorem opnL_inv {n : Int} {b : L8} (h : b.length ≤ 1048576) : OInv b (opnL n b) := by
  have h0 : OInv b (([] : List Ver), ([] : List Ses), b) := { frm := fun v hv => by simp at hv, sok := fun s hs => by simp at hs, len := by simp }
  exact opnF_inv h _ _ _ _ h0
theorem vld_log {n : Int} {l : Lg} (h : vldL n l = true) : (1 ≤ n ∧ n ≤ 20) ∧ l.1.length ≤ 1048576 ∧ (0 ≤ l.2.1 ∧ l.2.1 ≤ (l.1.length : Int)) ∧ (∀ v ∈ l.2.2.1, frmV v = true ∧ (encV v).length ≤ 1048576) ∧ SOk l.2.2.2 ∧ 11 * l.2.2.1.length ≤ l.1.length := by
  unfold vldL at h
  simp only [Bool.and_eq_true, decide_eq_true_eq] at h
  obtain ⟨⟨⟨h1, h2, h3⟩, h4⟩, h5⟩ := h
  unfold opnS at h2 h4 h5
  split at h2
  · simp at h2
  · next hn =>
    rw [if_neg hn] at h4 h5
    split at h2
    · simp at h2
    · next hb =>
      rw [if_neg hb] at h4 h5
      simp only at h4 h5
      have hi := opnL_inv (n := n) (b := l.1) (by omega)
      have h6 := hi.len
      rw [h4] at h6
      refine ⟨by omega, by omega, h1, ?_, ?_, by omega⟩
      · intro v hv
        exact hi.frm v (by rw [h4]; exact hv)
      · have := hi.sok
        rw [h5] at this; exact this
theorem opn_sok {n : Int} {b : L8} : SOk (opnS n b).2.1.2.2.2 := by
  unfold opnS
  split
  · intro s hs; cases hs
  · split
    · intro s hs; cases hs
    · exact (opnL_inv (by omega)).sok
theorem app_err {n : Int} {l : List Ses} {cs : List Chg} (h : (appS n l cs).1 ≠ 0) : (appS n l cs).2 = [] := by
  unfold appS at h ⊢
  split
  · rfl
  · split
    · rfl
    · split
      · rfl
      · split
        · rfl
        · next h1 h2 h3 h4 => rw [if_neg h1, if_neg h2, if_neg h3, if_neg h4] at h; exact absurd rfl h
theorem app_vld {n : Int} {ss : List Ses} {cs : List Chg} (h : (appS n ss cs).1 = 0) : vldS (appS n ss cs).2 n = 0 := by
  unfold appS at h ⊢
  split at h
  · next h4 => exact absurd h h4
  · next h4 =>
    split at h
    · simp at h
    · next h5 =>
      split at h
      · next h6 => exact absurd h h6
      · next h6 =>
        split at h
        · next h7 => exact absurd h h7
        · next h7 => rw [if_neg h4, if_neg h5, if_neg h6, if_neg h7]; exact Classical.not_not.1 h7
theorem app_sok (n : Int) (l : List Ses) (cs : List Chg) : SOk (appS n l cs).2 := by
  by_cases h : (appS n l cs).1 = 0
  · exact vld_sok (app_vld h)
  · rw [app_err h]; intro s hs; cases hs
theorem aft_take {n : Int} {vs : List Ver} {j : Nat} {v : Ver} (h : vs[j]? = some v) : aftS n (vs.take (j + 1)) = (appS n (aftS n (vs.take j)) v.2.2).2 := by
  unfold aftS; rw [List.take_add_one, h, List.foldl_append]; rfl
theorem aft_sok (n : Int) : ∀ (vs : List Ver), SOk (aftS n vs) := by
  intro vs
  rcases List.eq_nil_or_concat vs with rfl | ⟨r, v, rfl⟩
  · intro s hs; cases hs
  · unfold aftS
    rw [List.concat_eq_append, List.foldl_append]
    exact app_sok n _ _
theorem cntC_le (N : Nat) : ∀ (cs : List Chg), (∀ c ∈ cs, c.2.1.length ≤ N ∧ c.2.2.length ≤ N) → cntC cs ≤ cs.length * (2 * N + 1)
  | [], _ => by simp [cntC]
  | c :: cs, h => by
    have h1 := cntC_le N cs (fun x hx => h x (List.mem_cons_of_mem _ hx))
    have h2 := h c List.mem_cons_self
    rw [cntC_cons, List.length_cons, Nat.add_mul, Nat.one_mul]; omega
theorem ofS_sok {xs : List Ses} (h : SOk xs) (k : L8) : SOk (ofS xs k) := fun s hs => h s (List.mem_filter.1 hs).1
theorem dif_facts {n : Int} {a b : List Ses} (ha : vldS a n = 0) (hb : vldS b n = 0) : cntC (difS n a b).2 ≤ 40000 ∧ ∀ c ∈ (difS n a b).2, c.1.length ≤ 9223372036854775807 ∧ SOk c.2.1 ∧ SOk c.2.2 := by
  have e : (difS n a b).2 = (clsL (clsS a ++ clsS b)).flatMap (difK a b) := by
    unfold difS; rw [if_neg (by simp [ha]), if_neg (by simp [hb])]
  have la := (vld_parts ha).2.1
  have lb := (vld_parts hb).2.1
  have l1 : (clsS a ++ clsS b).length ≤ 192 := by unfold clsS; rw [List.length_append, List.length_map, List.length_map]; omega
  have l2 := clsL_len (clsS a ++ clsS b) []
  have l3 : ((clsL (clsS a ++ clsS b)).flatMap (difK a b)).length ≤ 192 := by
    refine Nat.le_trans (flat_len_le _ (difK_le a b) _) ?_
    unfold clsL; simp only [List.length_nil, Nat.zero_add] at l2; omega
  rw [e]
  constructor
  · refine Nat.le_trans (cntC_le 96 _ (fun c hc => ?_)) ?_
    · obtain ⟨_, h2, _⟩ := dif_mem hc
      rw [h2]
      exact ⟨Nat.le_trans (ofS_len _ _) la, Nat.le_trans (ofS_len _ _) lb⟩
    · refine Nat.le_trans (Nat.mul_le_mul_right _ l3) (by decide)
  · intro c hc
    obtain ⟨h1, h2, _⟩ := dif_mem hc
    refine ⟨?_, by rw [h2]; exact ofS_sok (vld_sok ha) _, by rw [h2]; exact ofS_sok (vld_sok hb) _⟩
    rw [clsL_mem] at h1
    rcases List.mem_append.1 h1 with h1 | h1
    · obtain ⟨s, hs, e⟩ := List.mem_map.1 h1
      rw [← e]; exact (vld_sok ha s hs).1.1
    · obtain ⟨s, hs, e⟩ := List.mem_map.1 h1
      rw [← e]; exact (vld_sok hb s hs).1.1
theorem enc_small {v : Ver} (h : frmV v = true) (hc : cntC v.2.2 ≤ 1000000) : (encV v).length ≤ 1000000000000 := read_len (b := List.replicate 10000000 0) h (by rw [List.length_replicate]; omega) (by rw [List.length_replicate]; omega)
theorem lastW_get {vs : List Ver} {v : Ver} (h : vs[vs.length - 1]? = some v) : lastW vs = v.2.1 := by
  unfold lastW; rw [List.getLast?_eq_getElem?, h]
theorem lastW_snoc (vs : List Ver) (v : Ver) : lastW (vs ++ [v]) = v.2.1 := by simp [lastW]
def sameL (a b : Lg) : Bool := (a.1 == b.1) && (a.2.1 == b.2.1) && decide (a.2.2.1 = b.2.2.1) && decide (a.2.2.2 = b.2.2.2)
theorem sameL_iff (a b : Lg) : sameL a b = true ↔ a = b := by
  obtain ⟨a1, a2, a3, a4⟩ := a
  obtain ⟨b1, b2, b3, b4⟩ := b
  unfold sameL
  simp only [Bool.and_eq_true, beq_iff_eq, decide_eq_true_eq, Prod.mk.injEq, and_assoc]
theorem sameL_rfl (a : Lg) : sameL a a = true := (sameL_iff a a).2 rfl
end Go.Proofs.YtihbpggbpapcfaaGreatDoor
