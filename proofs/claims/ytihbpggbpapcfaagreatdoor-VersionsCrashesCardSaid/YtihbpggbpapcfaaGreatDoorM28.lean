/- Texts V71, V42, V43, V44, V45, joined: walks and laws for the versions. -/
import Derived.Lib.AppendIntMem
import Derived.Test.YtihbpggbpapcfaaGreatDoorM26
import Derived.Test.YtihbpggbpapcfaaGreatDoorM27
namespace Go.Proofs.YtihbpggbpapcfaaGreatDoor
open Go.RowKit

structure Env (w : World) : Prop where
  tz : Tz w
  pow : Lib.TabIs Tryz.prog w "internal/strconv.uint64pow10" .u64 Lib.pow10Tab
  max : ∃ m : Int, w.cell? ⟨2, 0, none⟩ = some (.int .i64 m)
  syn : ∃ ev, w.cell? ⟨5, 0, none⟩ = some ev ∧ (ev = .nilIface ∨ ∃ te pe, ev = .iface te pe)
  rng : ∃ ev, w.cell? ⟨6, 0, none⟩ = some ev ∧ (ev = .nilIface ∨ ∃ te pe, ev = .iface te pe)
theorem Env.below {w w' : World} (h : Env w) (hb : Below w.heap.size w w') : Env w' := by
  refine ⟨h.tz.below hb, Lib.tabBelow_of_tabIs h.pow w' hb, ?_, ?_, ?_⟩
  · obtain ⟨m, hm⟩ := h.max
    exact ⟨m, by rw [hb.cell (lt_of_cell hm)]; exact hm⟩
  · obtain ⟨m, hm, hv⟩ := h.syn
    exact ⟨m, by rw [hb.cell (lt_of_cell hm)]; exact hm, hv⟩
  · obtain ⟨m, hm, hv⟩ := h.rng
    exact ⟨m, by rw [hb.cell (lt_of_cell hm)]; exact hm, hv⟩
theorem itoa_any (n : Int) (h0 : 0 ≤ n) (h1 : n ≤ 9223372036854775807) (w : World) (hE : Env w) : Calls Tryz.prog 51 #[.int .i64 n] w (RetB (.string (arr (Lib.itoa n))) w) := by
  refine (Tryz.strconv_Itoa n (by omega) h1 w hE.pow).mono ?_
  rintro e w' ⟨rfl, k, os, rfl⟩
  exact ⟨rfl, ⟨rfl, rfl, rfl, by simp [Go.Sort.grow], fun j hj => by rw [Go.Sort.heap_grow_old _ _ (by simpa using hj)]; rfl⟩⟩
abbrev Wr (B b : Nat) (bs : L8) (w : World) : Prop := LibA.IsBuffer 112 (fun _ => none) 5 B b 0 (bs.flatMap bytC) w
theorem byteCells_eq (l : L8) : Lib.byteCells l = l.flatMap bytC := by
  induction l with
  | nil => rfl
  | cons c l ih => rw [List.flatMap_cons, ← ih]; rfl
theorem ones_byt (l : L8) : ∀ v ∈ l.flatMap bytC, v.oneCell' = true := by
  intro u hu
  obtain ⟨x, _, hx⟩ := List.mem_flatMap.1 hu
  exact encByt.one x u hx
theorem flat_byt (l : L8) : (l.flatMap bytC).length = l.length := by rw [flat_len bytC 1 encByt.len, Nat.mul_one]

abbrev Oth (b : Nat) (w w' : World) : Prop := Lib.OthersKept 5 (some b) w w'
theorem oth_bel {b : Nat} {w w' : World} (h : Below w.heap.size w w') : Oth b w w' := fun k o hk _ _ => by rw [h.block k (Array.getElem?_eq_some_iff.1 hk).1]; exact hk
theorem oth_cells {b : Nat} {w w' : World} {D : Nat} {vs : Array Value} {T : TypeId} (h : w.heap[D]? = some (.cells vs T (0, 0))) (ho : Oth b w w') (hne : D ≠ b) (hT : T ≠ 5) : w'.heap[D]? = some (.cells vs T (0, 0)) :=
  ho D _ h (by simpa using hne) (fun c fz e => hT (by cases e; rfl))

set_option maxRecDepth 100000 in
set_option maxHeartbeats 4000000 in
theorem line_any (B b : Nat) (bs : L8) (g o c : Nat) (ws : List L8) (_w0 w : World) (h : Wr B b bs w) (hBw : B ≤ w.heap.size) (hws : KAt strC 1 w (some ⟨g, o, none⟩) ws.length ws) (hg : g < w.heap.size) (hne : ws ≠ []) (hc : ws.length ≤ c) (hn : ws.length ≤ 1000) (hlen : (lnT ws).length ≤ 1000000000000) (hbs : bs.length ≤ 100000000000000) :
    Calls Tryz.prog 50 #[.pointer (some ⟨b, 0, none⟩), .slice (some ⟨g, o, none⟩) ws.length c] w (fun e w' => e = .returned (.tuple #[]) ∧ Wr B b (bs ++ lnT ws) w' ∧ Below B w w' ∧ Oth b w w') := by
  have HW := Lib.hid h
  have hjl : (Lib.join ws [32]).length ≤ 1000000000000 := by unfold lnT at hlen; rw [List.length_append] at hlen; omega
  have e1 : (ws.map arr).map (fun s => s.data.toList) = ws := by
    rw [List.map_map]
    have : ((fun s : ByteArray => s.data.toList) ∘ arr) = id := by funext x; rfl
    rw [this, List.map_id]
  have HWS := hws
  have JJ := fun (W : World) (hb : Below w.heap.size w W) => Tryz.strings_Join g o c (ws.map arr) ⟨#[32]⟩ W (fun j x hx => by
    rw [List.getElem?_map] at hx
    obtain ⟨y, hy, rfl⟩ := Option.map_eq_some_iff.1 hx
    rcases (HWS.below hb).2.2 with h0 | ⟨b', o', e, hcc⟩
    · exact absurd (List.eq_nil_of_length_eq_zero h0) hne
    · cases e
      have := hcc j y hy 0 _ rfl
      rw [Nat.mul_one, Nat.add_zero] at this
      exact this) (Nat.lt_of_lt_of_le hg hb.size) (by rw [List.length_map]; omega) (by rw [List.length_map]; exact hc) (by rw [e1]; exact Nat.le_trans hjl (by omega))
  simp only [List.length_map, e1] at JJ
  have JN : Hid (∀ W, Below w.heap.size w W → Calls Tryz.prog 89 #[.slice (some ⟨g, o, none⟩) ws.length c, .string ⟨#[32]⟩] W (fun e w' => e = .returned (.string (arr (Lib.join ws [32]))) ∧ Below W.heap.size W w')) := Lib.hid JJ
  have HT : Hid (lnT ws = Lib.join ws [32] ++ [10]) := Lib.hid rfl
  have HCAT : arr (Lib.join ws [32]) ++ ⟨#[10]⟩ = arr (lnT ws) := by rw [show (⟨#[10]⟩ : ByteArray) = arr [10] from rfl, arr_app]; rfl
  have hasz : (arr (Lib.join ws [32])).size ≤ 1000000000000 := by rw [arr_size]; exact hjl
  have hsum : ¬ 9223372036854775807 < (arr (Lib.join ws [32])).size + 1 := by omega
  have hsum2 : ¬ 9223372036854775806 < (arr (Lib.join ws [32])).size := by omega
  have WW := Lib.hid (fun (W : World) (hW : Wr B b bs W) (hB : B ≤ W.heap.size) => Tryz.Buffer_WriteString_at 112 (fun _ => none) B b 0 (bs.flatMap bytC) (arr (lnT ws)) W hW hB (ones_byt bs) (by rw [flat_byt, arr_size]; omega))
  have HKEEP := Lib.hid (fun (W : World) (hb : Below w.heap.size w W) => (show Wr B b bs W from by
    obtain ⟨h1, v, lr, h2, h3, h4⟩ := HW.out
    have hlt := h2.lt
    exact ⟨h1, v, lr, h2.of_heap (hb.block b hlt), row_below h3 hb, h4⟩))
  have BD := Lib.hid (bel_drew0 w)
  clear h hws JJ e1 hne HWS
  generalize Lib.join ws [32] = J at *
  go_enter Tryz.func50, Tryz.ntmps50
  go_wp2_with fail
  go_region_held3 (fun w' => True) (exact trivial) (first | (go_at_call 89; refine (JN.out _ BD.out).mono ?_; rintro e9 w9 ⟨rfl, hb9⟩; have BQ := Lib.hid (below3 BD.out hb9); clear hb9) | (go_at_call 88; refine (WW.out _ (HKEEP.out _ BQ.out) (Nat.le_trans hBw BQ.out.size)).mono ?_; rintro e8 w8 ⟨rfl, h8, hb8, ho8⟩; have H8 := Lib.hid h8; have HO8 : Hid (Oth b w w8) := Lib.hid (Lib.OthersKept.trans (oth_bel BQ.out) ho8); have HB8 := Lib.hid ((BQ.out.mono hBw).trans hb8); clear h8 hb8 ho8))
  all_goals (
    go_end0
    refine ⟨rfl, ?_, HB8.out, HO8.out⟩
    have h8 := H8.out
    rw [byteCells_eq, show (arr (lnT ws)).data.toList = lnT ws from rfl, ← List.flatMap_append] at h8
    exact h8)
end Go.Proofs.YtihbpggbpapcfaaGreatDoor

namespace Go.Proofs.YtihbpggbpapcfaaGreatDoor
open Go.RowKit

def ResB (r : Int × L8) (w : World) (e : Ending) (w' : World) : Prop := ∃ s : Sl, e = .returned (.tuple #[.slice s.1 s.2.1 s.2.2, .int .i64 r.1]) ∧ BV w' s r.2 ∧ Below w.heap.size w w'
theorem conv_bytes (l : L8) (hl : l.length ≤ 9000000000000000) (W : World) : ∃ (c : Nat) (W' : World), (convert 9 26 (.string (arr l))).run Tryz.prog W = .ok (.slice (some ⟨W.heap.size, 0, none⟩) l.length c) W' ∧ BV W' (some ⟨W.heap.size, 0, none⟩, l.length, c) l ∧ Below W.heap.size W W' := by
  have h := run_bytes_of_string (P := Tryz.prog) W 9 26 5 (arr l) Tryz.underlying9 Tryz.underlying26 Tryz.underlying5
  have hge := grownCap_ge W (arr l).size 0 5
  rw [arr_size] at h hge
  generalize grownCap W l.length 0 5 = gc at *
  refine ⟨gc, _, h, ⟨hge, rfl, by show l.length ≤ _; omega, Or.inr ⟨W.heap.size, 0, rfl, fun j x hx o u hu => ?_⟩⟩, ?_⟩
  · have ho : o = 0 := by
      have := (List.getElem?_eq_some_iff.1 hu).1
      simp [bytC] at this; omega
    subst ho
    simp [bytC] at hu
    subst hu
    obtain ⟨hj, rfl⟩ := List.getElem?_eq_some_iff.1 hx
    have hb := bytesRow_at (arr l) gc j (by show j < (arr l).size; rw [arr_size]; exact hj)
    rw [Nat.zero_add, Nat.mul_one]
    show World.cell? _ ⟨W.heap.size, j, none⟩ = _
    have hh := heap_alloc_new W.drew (.cells (bytesRow (arr l) gc) 5 ((bytesRow (arr l) gc).size, (bytesRow (arr l) gc).size + 1))
    rw [show W.drew.heap.size = W.heap.size from rfl] at hh
    rw [cell_of_row _ _ j _ _ _ hh, hb]
    rfl
  · exact (bel_drew0 W).alloc (Nat.le_refl _) _
theorem ftake_le {α β : Type} (f : α → List β) (xs : List α) (j : Nat) : ((xs.take j).flatMap f).length ≤ (xs.flatMap f).length := by
  have h := congrArg List.length (congrArg (List.flatMap f) (List.take_append_drop j xs))
  rw [List.flatMap_append, List.length_append] at h
  omega
theorem ver_head (v : Ver) : lnT (verW v) = [86, 32] ++ Lib.itoa v.1 ++ [32] ++ Lib.itoa v.2.1 ++ [32] ++ Lib.itoa v.2.2.length ++ [10] := by
  unfold lnT verW
  rw [join_two, join_two, join_two, Lib.join_one]
  simp
theorem chg_head (c : Chg) : lnT (chgW c) = [67, 32] ++ c.1 ++ [32] ++ Lib.itoa c.2.1.length ++ [32] ++ Lib.itoa c.2.2.length ++ [10] := by
  unfold lnT chgW
  rw [join_two, join_two, join_two, Lib.join_one]
  simp
theorem end_text (b : L8) : endT b = [69, 32] ++ hexK 8 (crcN b) ++ [10] := by
  unfold endT lnT
  rw [join_two, Lib.join_one]
  simp
theorem SAt.load {w : World} {a : Option Addr} {n : Nat} {ss : List Ses} (h : SAt w a n ss) {j : Nat} (hj : j < n) : ss[j]? = some (ss[j]'(by rw [h.1]; exact hj)) := List.getElem?_eq_getElem _
end Go.Proofs.YtihbpggbpapcfaaGreatDoor

namespace Go.Proofs.YtihbpggbpapcfaaGreatDoor
open Go.RowKit

theorem spl_snoc : ∀ (l : L8) (F : List L8) (W : L8), spl l = F ++ [W] → spl (l ++ [32]) = F ++ [W] ++ [[]] ∧ ∀ c : UInt8, c ≠ 32 → spl (l ++ [c]) = F ++ [W ++ [c]]
  | [], F, W, h => by
    have h1 : F = [] ∧ W = [] := by
      cases F with
      | nil => simp [spl] at h; exact ⟨rfl, h⟩
      | cons x F => simp [spl] at h
    obtain ⟨rfl, rfl⟩ := h1
    refine ⟨by simp [spl], fun c hc => ?_⟩
    simp [spl, hc]
  | x :: r, F, W, h => by
    unfold spl at h
    split at h
    · next hx =>
      subst hx
      cases F with
      | nil =>
        simp only [List.nil_append, List.cons.injEq] at h
        exact absurd h.2 (spl_ne r)
      | cons y F =>
        simp only [List.cons_append, List.cons.injEq] at h
        obtain ⟨rfl, h⟩ := h
        obtain ⟨h1, h2⟩ := spl_snoc r F W h
        refine ⟨by rw [List.cons_append, spl, if_pos rfl, h1]; simp, fun c hc => ?_⟩
        rw [List.cons_append, spl, if_pos rfl, h2 c hc]; simp
    · next hx =>
      cases hr : spl r with
      | nil => exact absurd hr (spl_ne r)
      | cons y t =>
        rw [hr] at h
        simp only [List.headD_cons, List.tail_cons] at h
        cases F with
        | nil =>
          simp only [List.nil_append, List.cons.injEq] at h
          obtain ⟨rfl, rfl⟩ := h
          obtain ⟨h1, h2⟩ := spl_snoc r [] y (by rw [hr]; rfl)
          refine ⟨by rw [List.cons_append, spl, if_neg hx, h1]; simp, fun c hc => ?_⟩
          rw [List.cons_append, spl, if_neg hx, h2 c hc]; simp
        | cons z F =>
          simp only [List.cons_append, List.cons.injEq] at h
          obtain ⟨rfl, h⟩ := h
          obtain ⟨h1, h2⟩ := spl_snoc r (y :: F) W (by rw [hr, h]; rfl)
          refine ⟨by rw [List.cons_append, spl, if_neg hx, h1]; simp, fun c hc => ?_⟩
          rw [List.cons_append, spl, if_neg hx, h2 c hc]; simp
theorem ctl_none : ∀ {r : L8}, (10 : UInt8) ∉ r → ctl r = none
  | [], _ => rfl
  | c :: r, h => by
    have h1 : c ≠ 10 := fun e => h (by rw [e]; exact List.mem_cons_self)
    rw [ctl, if_neg h1, ctl_none (fun hm => h (List.mem_cons_of_mem _ hm))]; rfl
theorem take_more {d : L8} {f j : Nat} {c : UInt8} (h : d[j]? = some c) (hf : f ≤ j) : (d.drop f).take (j + 1 - f) = (d.drop f).take (j - f) ++ [c] := by
  rw [show j + 1 - f = (j - f) + 1 by omega, List.take_add_one, List.getElem?_drop, show f + (j - f) = j by omega, h]; rfl
structure WdI (d : L8) (f s j : Nat) (F : List L8) (W : L8) : Prop where
  no : (10 : UInt8) ∉ (d.drop f).take (j - f)
  sp : spl ((d.drop f).take (j - f)) = F ++ [W]
  wd : W = (d.drop s).take (j - s)
  le : F.length ≤ j
theorem WdI.start (d : L8) (f : Nat) : WdI d f f f [] [] := ⟨by simp, by simp [spl], by simp, by simp⟩
theorem WdI.space {d : L8} {f s j : Nat} {F : List L8} {W : L8} (h : WdI d f s j F W) (hf : f ≤ j) (hc : d[j]? = some 32) : WdI d f (j + 1) (j + 1) (F ++ [W]) [] := by
  refine ⟨?_, ?_, by simp, by have := h.le; simp; omega⟩
  · rw [take_more hc hf, List.mem_append, not_or]; exact ⟨h.no, by simp⟩
  · rw [take_more hc hf, (spl_snoc _ _ _ h.sp).1]
theorem WdI.other {d : L8} {f s j : Nat} {F : List L8} {W : L8} {c : UInt8} (h : WdI d f s j F W) (hf : f ≤ s) (hs : s ≤ j) (hc : d[j]? = some c) (h1 : c ≠ 32) (h2 : c ≠ 10) : WdI d f s (j + 1) F (W ++ [c]) := by
  refine ⟨?_, ?_, by rw [take_more hc hs, h.wd], by have := h.le; omega⟩
  · rw [take_more hc (by omega), List.mem_append, not_or]; exact ⟨h.no, by simpa using fun e => h2 e.symm⟩
  · rw [take_more hc (by omega), (spl_snoc _ _ _ h.sp).2 c h1]
theorem WdI.line {d : L8} {f s j : Nat} {F : List L8} {W : L8} (h : WdI d f s j F W) (hf : f ≤ j) (hc : d[j]? = some 10) : ∃ l, ctl (d.drop f) = some (l, d.drop (j + 1)) ∧ spl l = F ++ [W] := by
  refine ⟨_, ?_, h.sp⟩
  have e : d.drop f = (d.drop f).take (j - f) ++ 10 :: d.drop (j + 1) := by
    have h1 := List.take_append_drop (j - f) (d.drop f)
    rw [List.drop_drop, show f + (j - f) = j by omega] at h1
    obtain ⟨hj, hv⟩ := List.getElem?_eq_some_iff.1 hc
    rw [List.drop_eq_getElem_cons hj, hv] at h1
    exact h1.symm
  have h2 := ctl_app (d.drop (j + 1)) h.no
  rw [← e] at h2
  exact h2
theorem WdI.none_ {d : L8} {f s j : Nat} {F : List L8} {W : L8} (h : WdI d f s j F W) (hj : d.length ≤ j) : ctl (d.drop f) = none := by
  refine ctl_none ?_
  have := h.no
  rwa [List.take_of_length_le (by rw [List.length_drop]; omega)] at this
def WdsR (d : L8) (f : Nat) (w : World) (e : Ending) (w' : World) : Prop :=
  (ctl (d.drop f) = none ∧ e = .returned (.tuple #[.slice none 0 0, .int .i64 f, .bool false]) ∧ Below w.heap.size w w') ∨
  (∃ (l : L8) (k : Nat) (v : Value), ctl (d.drop f) = some (l, d.drop k) ∧ f < k ∧ k ≤ d.length ∧ e = .returned (.tuple #[v, .int .i64 k, .bool true]) ∧ CRow w' w.heap.size v (spl l) ∧ Below w.heap.size w w')
theorem part_str {w : World} {b off n : Nat} {d : L8} (h : BAt w (some ⟨b, off, none⟩) n d) (s j cap : Nat) (hs : s ≤ j) (hj : j ≤ n) : (convert 26 9 (.slice (some ⟨b, off + s, none⟩) (j - s) cap)).run Tryz.prog w = .ok (.string (arr ((d.drop s).take (j - s)))) w := by
  have hl : ((d.drop s).take (j - s)).length = j - s := by rw [List.length_take, List.length_drop, h.1]; omega
  have := run_convert_bytes_back (P := Tryz.prog) w 26 9 5 ⟨b, off + s, none⟩ cap ((d.drop s).take (j - s)) Tryz.underlying26 Tryz.underlying5 Tryz.underlying9 (fun i hi => by
    rcases h.2.2 with h0 | ⟨b', off', e, hc⟩
    · rw [hl] at hi; omega
    · cases e
      rw [hl] at hi
      rw [Go.WideShapes.add_plain, List.getElem_take, List.getElem_drop]
      have := hc (s + i) _ (List.getElem?_eq_getElem (by rw [h.1]; omega)) 0 _ rfl
      rw [Nat.mul_one, Nat.add_zero, ← Nat.add_assoc] at this
      exact this)
  rw [hl] at this
  exact this
end Go.Proofs.YtihbpggbpapcfaaGreatDoor

namespace Go.Proofs.YtihbpggbpapcfaaGreatDoor
open Go.RowKit

theorem arr_at (l : L8) (j : Nat) (h : j < l.length) (h2 : j < (arr l).size) : (arr l)[j]'h2 = l[j] := by
  show l.toArray[j]'(by simpa using h) = _
  rw [List.getElem_toArray]
  rfl
theorem take_len_succ {s : L8} {j : Nat} (h : j < s.length) : s.take (j + 1) = s.take j ++ [s[j]] := by
  rw [List.take_add_one, List.getElem?_eq_getElem h]; rfl
theorem dig_no {s : L8} {j : Nat} (h : j < s.length) (hd : Lib.digitVal s[j] = none) : Lib.decNat s = none := by
  cases hn : Lib.decNat s with
  | none => rfl
  | some m =>
    exfalso
    obtain ⟨_, h1⟩ := Lib.decNat_some hn
    have key : ∀ (l : L8) (acc m : Nat), Lib.decFrom acc l = some m → ∀ c ∈ l, Lib.digitVal c ≠ none := by
      intro l
      induction l with
      | nil => intro _ _ _ c hc; cases hc
      | cons b r ih =>
        intro acc m hm c hc
        unfold Lib.decFrom at hm
        cases hb : Lib.digitVal b with
        | none => rw [hb] at hm; cases hm
        | some d =>
          rw [hb] at hm
          rcases List.mem_cons.1 hc with rfl | hc
          · rw [hb]; simp
          · exact ih _ _ hm c hc
    exact key s 0 m h1 _ (List.getElem_mem h) hd
def NumI (s : L8) (j : Nat) (z : Int) : Prop := ∃ m, Lib.decFrom 0 (s.take j) = some m ∧ (j ≤ 7 → z = (m : Int) ∧ m < 10 ^ j)
theorem NumI.step {s : L8} {j : Nat} {z z' : Int} (h : NumI s j z) (hj : j < s.length) (h1 : 48 ≤ s[j].toNat) (h2 : s[j].toNat ≤ 57) (hz : j < 7 → z' = 10 * z + ((s[j].toNat : Int) - 48)) : NumI s (j + 1) z' := by
  obtain ⟨m, hm, hv⟩ := h
  have hd : Lib.digitVal s[j] = some (s[j].toNat - 48) := by unfold Lib.digitVal; rw [if_pos ⟨h1, h2⟩]
  refine ⟨m * 10 + (s[j].toNat - 48), by rw [take_len_succ hj]; exact decFrom_snoc hd _ _ _ hm, fun h7 => ?_⟩
  obtain ⟨e, hp⟩ := hv (by omega)
  have := hz (by omega)
  exact ⟨by omega, by rw [Nat.pow_succ]; omega⟩
end Go.Proofs.YtihbpggbpapcfaaGreatDoor

namespace Go.Proofs.YtihbpggbpapcfaaGreatDoor
open Go.RowKit

def numR (s : L8) : Option Int := some (nuR s)
theorem nuR_bd (s : L8) : -1 ≤ nuR s ∧ nuR s < 10000000 := by
  unfold nuR
  split
  · next h =>
    cases hn : Lib.decNat s with
    | none => simp
    | some m =>
      obtain ⟨_, h1⟩ := Lib.decNat_some hn
      have h2 := Lib.decFrom_lt s 0 m h1
      have h3 : (10 : Nat) ^ s.length ≤ 10 ^ 7 := Nat.pow_le_pow_right (by omega) h
      simp only
      omega
  · simp
theorem stepS_words {cl r l t : L8} (h : ctl r = some (l, t)) {f0 f1 f2 f3 f4 f5 : L8} (hs : spl l = [f0, f1, f2, f3, f4, f5]) : stepS numR cl r = if f0 = [83] then some (mkS cl (nuR f1) (nuR f2) (nuR f3) (nuR f4) f5, t) else none := by
  unfold stepS lnP
  rw [h]
  simp only [hs]
  by_cases h0 : f0 = [83]
  · rw [if_pos h0, if_pos ⟨rfl, h0⟩]; rfl
  · rw [if_neg h0, if_neg (fun h => h0 h.2)]
theorem stepS_none {cl r : L8} (h : ctl r = none) : stepS numR cl r = none := by unfold stepS lnP; rw [h]
theorem stepS_long {cl r l t : L8} (h : ctl r = some (l, t)) (hs : (spl l).length ≠ 6) : stepS numR cl r = none := by
  unfold stepS lnP
  rw [h]
  simp only
  rw [if_neg (fun h => hs h.1)]
theorem six_of {α : Type} {l : List α} (h : l.length = 6) : ∃ a b c d e f, l = [a, b, c, d, e, f] := by
  match l, h with
  | [a, b, c, d, e, f], _ => exact ⟨a, b, c, d, e, f, rfl⟩
theorem spl_le : ∀ (l : L8), ∀ w ∈ spl l, w.length ≤ l.length
  | [], w, h => by simp [spl] at h; rw [h]; simp
  | c :: r, w, h => by
    have ih := spl_le r
    unfold spl at h
    split at h
    · rcases List.mem_cons.1 h with rfl | h
      · simp
      · have := ih w h; simp; omega
    · cases hr : spl r with
      | nil => exact absurd hr (spl_ne r)
      | cons y t =>
        rw [hr] at h ih
        simp only [List.headD_cons, List.tail_cons] at h
        rcases List.mem_cons.1 h with rfl | h
        · have := ih y List.mem_cons_self; simp; omega
        · have := ih w (List.mem_cons_of_mem _ h); simp; omega
def RepI {α : Type} (f : L8 → Option (α × L8)) (N : Nat) (r0 : L8) (j : Nat) (L : List α) (r : L8) : Prop := L.length = j ∧ repP f N r0 = (repP f (N - j) r).map fun p => (L ++ p.1, p.2)
theorem RepI.start {α : Type} (f : L8 → Option (α × L8)) (N : Nat) (r0 : L8) : RepI f N r0 0 [] r0 := ⟨rfl, by rw [Nat.sub_zero]; cases repP f N r0 <;> rfl⟩
theorem RepI.step {α : Type} {f : L8 → Option (α × L8)} {N : Nat} {r0 : L8} {j : Nat} {L : List α} {r t : L8} {x : α} (h : RepI f N r0 j L r) (hj : j < N) (hx : f r = some (x, t)) : RepI f N r0 (j + 1) (L ++ [x]) t := by
  obtain ⟨h1, h2⟩ := h
  refine ⟨by rw [List.length_append, h1]; rfl, ?_⟩
  rw [h2, show N - j = (N - (j + 1)) + 1 by omega, repP, hx]
  simp only
  cases repP f (N - (j + 1)) t with
  | none => rfl
  | some p => simp
theorem RepI.none_ {α : Type} {f : L8 → Option (α × L8)} {N : Nat} {r0 : L8} {j : Nat} {L : List α} {r : L8} (h : RepI f N r0 j L r) (hj : j < N) (hx : f r = none) : repP f N r0 = none := by
  rw [h.2, show N - j = (N - (j + 1)) + 1 by omega, repP, hx]; rfl
theorem RepI.done {α : Type} {f : L8 → Option (α × L8)} {N : Nat} {r0 : L8} {j : Nat} {L : List α} {r : L8} (h : RepI f N r0 j L r) (hj : N ≤ j) : repP f N r0 = some (L, r) := by
  rw [h.2, show N - j = 0 by omega, repP]; simp
def SesR (d : L8) (f : Nat) (nn : Int) (cl : L8) (w : World) (e : Ending) (w' : World) : Prop :=
  (sesP numR cl nn (d.drop f) = none ∧ ∃ x : Int, e = .returned (.tuple #[.slice none 0 0, .int .i64 x, .bool false]) ∧ Below w.heap.size w w') ∨
  (∃ (l : List Ses) (k : Nat) (v : Value), sesP numR cl nn (d.drop f) = some (l, d.drop k) ∧ f ≤ k ∧ k ≤ d.length ∧ e = .returned (.tuple #[v, .int .i64 k, .bool true]) ∧ SRow w' w.heap.size v l ∧ Below w.heap.size w w')
end Go.Proofs.YtihbpggbpapcfaaGreatDoor
