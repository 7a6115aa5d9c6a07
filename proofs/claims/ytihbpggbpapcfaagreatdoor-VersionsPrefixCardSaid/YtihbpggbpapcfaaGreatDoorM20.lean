/- Texts V64, ShelfG, joined: walks and laws for the versions. -/
import Derived.Ground.SlgfProg
import Derived.Ground.SlgnProg
import Derived.Ground.SlsfProg
import Derived.Shelf.SlGeneric
import Derived.Shelf.SlSortCmp.WholeK
import Derived.Shelf.SlicesE.Clone
import Derived.Shelf.SlicesQ.IndexFunc
import Derived.Sort.OwnSorted
import Derived.Test.YtihbpggbpapcfaaGreatDoorM18
import Derived.Test.YtihbpggbpapcfaaGreatDoorM19
import Derived.Test.YtihbpggbpapcfaaGreatDoorProg
namespace Go.Proofs.YtihbpggbpapcfaaGreatDoor
open Go.RowKit

theorem lt_of_le_ne {a b : L8} (h : a ≤ b) (hn : a ≠ b) : a < b := Classical.byContradiction fun h2 => hn (List.le_antisymm h (List.not_lt.1 h2))
theorem lt_of_le_lt {a b c : L8} (h : a ≤ b) (h2 : b < c) : a < c := Classical.byContradiction fun h3 => List.not_lt.2 (List.le_trans (List.not_lt.1 h3) h) h2
theorem comp_inv {zs : List L8} (hs : zs.Pairwise (· ≤ ·)) : ∀ m, m ≤ zs.length → (Lib.compactUpTo zs.toArray m).Pairwise (· < ·) ∧ (∀ k, k ∈ Lib.compactUpTo zs.toArray m ↔ k ∈ zs.take m) ∧ (Lib.compactUpTo zs.toArray m).length ≤ m
  | 0, _ => by simp [Lib.compactUpTo]
  | m + 1, hm => by
    obtain ⟨h1, h2, h3⟩ := comp_inv hs m (by omega)
    have hmz : m < zs.length := by omega
    have e0 : zs.toArray[m]! = zs[m] := by rw [getElem!_pos zs.toArray m (by simpa using hmz)]; simp
    rw [Lib.compactUpTo_succ]
    have ht : zs.take (m + 1) = zs.take m ++ [zs[m]] := by rw [List.take_add_one, List.getElem?_eq_getElem hmz]; rfl
    by_cases hk : Lib.keeps zs.toArray m = true
    · rw [if_pos hk, e0]
      refine ⟨?_, ?_, by rw [List.length_append, List.length_singleton]; omega⟩
      · rw [List.pairwise_append]
        refine ⟨h1, by simp, fun x hx y hy => ?_⟩
        rw [List.mem_singleton] at hy
        subst hy
        rw [h2] at hx
        obtain ⟨j, hj, rfl⟩ := List.getElem_of_mem hx
        rw [List.length_take] at hj
        rw [List.getElem_take]
        have hm0 : m ≠ 0 := by omega
        have hne : zs[m] ≠ zs[m - 1]'(by omega) := by
          have hk2 := of_decide_eq_true hk
          rw [e0] at hk2
          rcases hk2 with h | h
          · exact absurd h hm0
          · rw [getElem!_pos zs.toArray (m - 1) (by simp; omega)] at h
            simpa using h
        have hle : zs[m - 1]'(by omega) ≤ zs[m] := List.pairwise_iff_getElem.1 hs (m - 1) m (by omega) hmz (by omega)
        have hlt := lt_of_le_ne hle (Ne.symm hne)
        by_cases hj2 : j = m - 1
        · subst hj2; exact hlt
        · exact lt_of_le_lt (List.pairwise_iff_getElem.1 hs j (m - 1) (by omega) (by omega) (by omega)) hlt
      · intro k
        rw [ht, List.mem_append, List.mem_append, h2]
    · rw [if_neg hk, List.append_nil]
      refine ⟨h1, fun k => ?_, by omega⟩
      rw [h2, ht, List.mem_append, List.mem_singleton]
      constructor
      · exact Or.inl
      · rintro (h | rfl)
        · exact h
        · have hm0 : m ≠ 0 := by
            rintro rfl
            exact hk (by simp [Lib.keeps])
          have he : zs[m] = zs[m - 1]'(by omega) := by
            apply Classical.byContradiction
            intro h
            apply hk
            refine decide_eq_true (Or.inr ?_)
            rw [e0, getElem!_pos zs.toArray (m - 1) (by simp; omega)]
            simpa using h
          rw [he]
          have h5 : (zs.take m)[m - 1]'(by rw [List.length_take]; omega) = zs[m - 1]'(by omega) := List.getElem_take
          rw [← h5]
          exact List.getElem_mem _
theorem compact_cls (ss : List L8) : Lib.compact (ss.mergeSort fun x y => decide (x ≤ y)) = clsL ss := by
  have hs : (ss.mergeSort fun x y => decide (x ≤ y)).Pairwise (· ≤ ·) := by
    refine (List.pairwise_mergeSort (le := fun x y : L8 => decide (x ≤ y)) ?_ ?_ ss).imp (fun h => of_decide_eq_true h)
    · intro a b c h1 h2
      exact decide_eq_true (List.le_trans (of_decide_eq_true h1) (of_decide_eq_true h2))
    · intro a b
      rcases List.le_total a b with h | h
      · simp [h]
      · simp [h]
  obtain ⟨h1, h2, _⟩ := comp_inv hs _ (Nat.le_refl _)
  refine clsL_eq h1 (fun k => ?_)
  show k ∈ Lib.compactUpTo _ _ ↔ _
  rw [h2, List.take_length]
  exact (List.mergeSort_perm _ _).mem_iff
theorem compact_le (zs : List L8) : (Lib.compact zs).length ≤ zs.length := by
  unfold Lib.compact Lib.compactUpTo
  rw [List.length_map]
  refine Nat.le_trans (List.length_filter_le _ _) (by simp)
theorem flat_str (cs : List L8) : cs.flatMap strC = cs.map _root_.Go.Proofs.encStr := by
  induction cs with
  | nil => rfl
  | cons c cs ih => rw [List.flatMap_cons, ih]; rfl
theorem row_take {w : World} {B : Nat} {e : TypeId} {k : Nat} {a : Addr} {n cap m : Nat} {xs : List Value} (h : w.ownsRow B e k (.slice (some a) n cap) n xs) (hm : m ≤ n) : w.ownsRow B e k (.slice (some a) m cap) m (xs.take (m * k)) := by
  rcases h.2 with ⟨h0, _⟩ | ⟨g, cap', cur, hv, hB, hg, hn, hc, hs, ht⟩
  · cases h0
  cases hv
  have hk : m * k ≤ n * k := Nat.mul_le_mul_right _ hm
  exact ⟨by rw [List.length_take, h.1]; omega, Or.inr ⟨g, cap, cur, rfl, hB, hg, by omega, hc, hs, by rw [← ht, List.take_take, Nat.min_eq_left hk]⟩⟩
theorem sortstr_any (w0 w : World) (hb : Below w0.heap.size w0 w) (v : Value) (ss : List L8) (h : CRow w w0.heap.size v ss) (hn : ss.length ≤ 1000000000) :
    Calls Tryz.prog 151 #[v] w (fun e w' => e = .returned (.tuple #[]) ∧ CRow w' w0.heap.size v (ss.mergeSort fun x y => decide (x ≤ y)) ∧ Below w0.heap.size w0 w') := by
  rcases h.2 with ⟨rfl, h1⟩ | ⟨g, cap, cur, rfl, hB, hg, h1, h2, h3, h4⟩
  · have hL : ss = [] := List.eq_nil_of_length_eq_zero h1
    subst hL
    refine (Tryz.slices_Sort_string_none none 0 w).mono ?_
    rintro e w' ⟨rfl, rfl⟩
    exact ⟨rfl, by rw [List.mergeSort_nil]; exact h, hb⟩
  · rw [flat_str, Nat.mul_one] at h4
    refine (Tryz.slices_Sort_string g 0 cap ss w (holds_of_block hg h4) (Array.getElem?_eq_some_iff.1 hg).1 (by omega)).mono ?_
    rintro e w' ⟨rfl, m, os, rfl⟩
    refine ⟨rfl, ?_, hb.trans ((Below.refl _ w).grown (grownBy_sorted _) hb.size (fun q hq => by cases hq; exact hB))⟩
    have hl : (ss.mergeSort fun x y => decide (x ≤ y)).length = ss.length := List.length_mergeSort _
    have := ownsRow_sorted (n := m) (os := os) hl hB hg h1 h2 h3
    show World.ownsRow _ _ _ _ _ _ _
    rw [flat_str, hl]
    exact this
theorem compstr_any (w0 w : World) (hb : Below w0.heap.size w0 w) (v : Value) (ss : List L8) (h : CRow w w0.heap.size v ss) (hn : ss.length ≤ 1000000000) :
    Calls Tryz.prog 152 #[v] w (fun e w' => ∃ v', e = .returned v' ∧ CRow w' w0.heap.size v' (Lib.compact ss) ∧ Below w0.heap.size w0 w') := by
  rcases h.2 with ⟨rfl, h1⟩ | ⟨g, cap, cur, rfl, hB, hg, h1, h2, h3, h4⟩
  · have hL : ss = [] := List.eq_nil_of_length_eq_zero h1
    subst hL
    refine (Tryz.slices_Compact_string_empty none 0 w).mono ?_
    rintro e w' ⟨rfl, rfl⟩
    exact ⟨_, rfl, h, hb⟩
  · rw [flat_str, Nat.mul_one] at h4
    refine (Tryz.slices_Compact_string g 0 cap ss w (holds_of_block hg h4) (by omega) h1).mono ?_
    rintro e w' ⟨rfl, m, rfl⟩
    have hcl := compact_le ss
    have hl : (Lib.compact ss ++ List.replicate (ss.length - (Lib.compact ss).length) []).length = ss.length := by rw [List.length_append, List.length_replicate]; omega
    have key := ownsRow_sorted (n := m) (os := #[]) hl hB hg h1 h2 h3
    have gr := grownBy_sorted (w := w) (g := g) (n := m) (os := #[]) (Lib.compact ss ++ List.replicate (ss.length - (Lib.compact ss).length) []).toArray
    rw [Go.Sort.grow_empty] at key gr
    refine ⟨_, rfl, ?_, hb.trans ((Below.refl _ w).grown gr hb.size (fun q hq => by cases hq; exact hB))⟩
    have k2 := row_take key hcl
    show World.ownsRow _ _ _ _ _ _ _
    rw [flat_str]
    rw [Nat.mul_one, ← List.map_take, List.take_left] at k2
    exact k2

def slC (s : Sl) : List Value := [slV s]
def LLAt (w : World) (a : Option Addr) (n : Nat) (ls : List (List Ses)) : Prop := ∃ rs : List Sl, KAt slC 1 w a n rs ∧ All2 (SV w) rs ls
theorem LLAt.below {w w' : World} {a : Option Addr} {n : Nat} {ls : List (List Ses)} (h : LLAt w a n ls) (hb : Below w.heap.size w w') : LLAt w' a n ls := by
  obtain ⟨rs, h1, h2⟩ := h
  exact ⟨rs, h1.below hb, h2.imp fun r x hr => hr.below hb⟩
theorem LLAt.len {w : World} {a : Option Addr} {n : Nat} {ls : List (List Ses)} (h : LLAt w a n ls) : ls.length = n ∧ n ≤ 9223372036854775807 := by
  obtain ⟨rs, h1, h2⟩ := h
  exact ⟨by rw [← h2.1]; exact h1.1, h1.2.1⟩
theorem LLAt.cells {w : World} {a : Option Addr} {n : Nat} {ls : List (List Ses)} (h : LLAt w a n ls) {j : Nat} (hj : j < n) : ∃ (b off : Nat) (l : List Ses) (s : Sl), a = some ⟨b, off, none⟩ ∧ ls[j]? = some l ∧ b < w.heap.size ∧ w.cell? ⟨b, off + j, none⟩ = some (.slice s.1 s.2.1 s.2.2) ∧ SV w s l := by
  obtain ⟨rs, h1, h2⟩ := h
  obtain ⟨r, x, hr, hx, e1⟩ := h2.get (j := j) (by rw [h1.1]; exact hj)
  rcases h1.2.2 with h0 | ⟨b, off, rfl, hc⟩
  · omega
  · have c0 := hc j r hr 0 _ rfl
    rw [Nat.mul_one, Nat.add_zero] at c0
    exact ⟨b, off, x, r, rfl, hx, lt_of_cell c0, c0, e1⟩
theorem clsC_take {cs : List Chg} {j : Nat} {x : Chg} (h : cs[j]? = some x) : clsC (cs.take (j + 1)) = clsC (cs.take j) ++ [x.1] := by
  unfold clsC; rw [List.take_add_one, h, List.map_append]; rfl

set_option maxRecDepth 100000 in
set_option maxHeartbeats 8000000 in
theorem classes_any (a : Option Addr) (n c : Nat) (cs : List Chg) (b : Option Addr) (n' c' : Nat) (ls : List (List Ses)) (w : World) (hx : HAt w a n cs) (hy : LLAt w b n' ls) (hn : n ≤ 1000000) (hn' : n' ≤ 100) (hl : ∀ l ∈ ls, l.length ≤ 1000000) :
    Calls Tryz.prog 115 #[.slice a n c, .slice b n' c'] w (fun e w' => ∃ v, e = .returned v ∧ CRow w' w.heap.size v (clsL (clsC cs ++ ls.flatMap clsS)) ∧ Below w.heap.size w w') := by
  have hlx := hx.len.1
  have hly := hy.len.1
  have HX := Lib.hid hx
  have HY := Lib.hid hy
  have HLL := Lib.hid hl
  clear hx hy hl
  go_enter Tryz.func115, Tryz.ntmps115
  go_wp2_with fail
  go_loopw [5, 14] (fun v i wr => ∃ j : Nat, j ≤ n ∧ i = .int .i64 j ∧ Hid (CRow wr w.heap.size v (clsC (cs.take j))) ∧ Hid (Below w.heap.size w wr)) (fun _ i _ => n - (intOf i).toNat)
  case atStart => exact ⟨0, by omega, rfl, Lib.hid (KRow.nil _ _ _ _ _), Lib.hid (Below.refl _ _)⟩
  case round =>
    obtain ⟨j, hj, rfl, HR, HB⟩ := hrel
    by_cases hlt : j < n
    · obtain ⟨b1, o1, x, p, q, rfl, g1, z1, x0, x1, x2, _, _⟩ := HAt.cells (HX.out.below HB.out) hlt
      have HT := Lib.hid (clsC_take g1)
      have hcl : (clsC (cs.take j)).length ≤ j := by unfold clsC; rw [List.length_map, List.length_take]; omega
      have q1 : (j : Int) < n := by omega
      have q2 : (0 : Int) ≤ j := by omega
      have hbs := HB.out.size
      clear g1
      generalize clsC (cs.take j) = L at *
      have HB1 := Lib.hid (BX.mk0 (vs := #[.string (arr x.1), .slice p.1 p.2.1 p.2.2, .slice q.1 q.2.1 q.2.2]) (T := 101) wr)
      go_upto_region 5 with fail
      generalize wr.alloc (.cells #[.string (arr x.1), .slice p.1 p.2.1 p.2.2, .slice q.1 q.2.1 q.2.2] 101) = wb at *
      obtain ⟨S, hS⟩ : ∃ S, S = wr.heap.size := ⟨_, rfl⟩
      rw [← hS] at HB1 ⊢
      clear hS x0 x1 x2
      have y0 : wb.cell? ⟨S, 0, none⟩ = some (.string (arr x.1)) := HB1.out.cell 0
      have HR := Lib.hid (HR.out.below HB1.out.bl)
      have HB := Lib.hid (below3 HB.out HB1.out.bl)
      have hbs := HB.out.size
      go_wp2_with (at_builtin; refine wpList_app elemStr encStr rfl _ _ rfl w.heap.size _ L rfl (HR.out.below ((Below.refl _ _).alloc (Nat.le_refl _) _)) _ _ _ [x.1] rfl (KAt.one (f := strC) (k := 1) wb x.1 _) (by simp <;> omega) (by simp; omega) ?_)
      intro v6 w6 hr6 hb6 hg6 ho6
      have HRF : Hid (CRow w6 w.heap.size v6 (clsC (cs.take (j + 1)))) := Lib.hid (by rw [HT.out]; exact hr6)
      have HBF := Lib.hid ((HB.out.alloc hbs _).trans hb6)
      clear hr6 hb6 hg6 ho6
      go_wp2_with fail
      go_roundw
      case rel => exact ⟨j + 1, by omega, by go_num, HRF, HBF⟩
      case measure => simp [intOf]; omega
    · obtain rfl : n = j := by omega
      have HRX : Hid (CRow wr w.heap.size _ (clsC cs)) := Lib.hid (by have := HR.out; rw [List.take_of_length_le (by omega)] at this; exact this)
      have hcl : (clsC cs).length = n := by unfold clsC; rw [List.length_map]; exact hlx
      clear HR
      generalize hC0 : clsC cs = C at *
      have HC0 := Lib.hid hC0
      clear hC0
      obtain ⟨wo, rfl⟩ : ∃ wo : World, wo = wr := ⟨_, rfl⟩
      go_wp2_with fail
      go_loopw [5, 26] (fun v i wr => ∃ j : Nat, j ≤ n' ∧ i = .int .i64 j ∧ Hid (CRow wr w.heap.size v (C ++ (ls.take j).flatMap clsS)) ∧ Hid (Below w.heap.size w wr)) (fun _ i _ => n' - (intOf i).toNat)
      case atStart => exact ⟨0, by omega, rfl, Lib.hid (by have := HRX.out; simpa using this), HB⟩
      case round =>
        clear HB HRX
        obtain ⟨j, hj, rfl, HR, HB⟩ := hrel
        by_cases hlt : j < n'
        · obtain ⟨b1, o1, l, s, rfl, g1, z1, x0, sl⟩ := LLAt.cells HY.out hlt
          have x0 := below_cell9 HB.out x0
          have HT := Lib.hid (flat_take clsS g1)
          have hll := HLL.out l (List.mem_of_getElem? g1)
          have hl2 : ((ls.take j).flatMap clsS).length ≤ j * 1000000 := by
            have : ∀ (k : Nat) (L : List (List Ses)), (∀ x ∈ L, x.length ≤ 1000000) → (L.flatMap clsS).length ≤ L.length * 1000000 := by
              intro k L
              induction L with
              | nil => intro _; simp
              | cons y L ih =>
                intro h
                have h1 := h y List.mem_cons_self
                have h2 := ih (fun x hx => h x (List.mem_cons_of_mem _ hx))
                rw [List.flatMap_cons, List.length_append, List.length_cons, Nat.add_mul]
                unfold clsS at h2 ⊢
                rw [List.length_map]; omega
            have h3 := this 0 (ls.take j) (fun x hx => HLL.out x (List.mem_of_mem_take hx))
            rw [List.length_take] at h3
            refine Nat.le_trans h3 (Nat.mul_le_mul_right _ (by omega))
          have hj8 : j * 1000000 ≤ 100000000 := by omega
          have q1 : (j : Int) < n' := by omega
          have q2 : (0 : Int) ≤ j := by omega
          have SL := Lib.hid sl.2
          have hsn : l.length = s.2.1 := sl.2.1
          clear g1 sl
          obtain ⟨sa, sn, sc⟩ := s
          simp only at SL hsn x0
          generalize (ls.take j).flatMap clsS = D at *
          obtain ⟨wv, rfl⟩ : ∃ wv : World, wv = wr := ⟨_, rfl⟩
          go_wp2_with fail
          go_loopw [5, 32] (fun v i wr => ∃ r : Nat, r ≤ sn ∧ i = .int .i64 r ∧ Hid (CRow wr w.heap.size v (C ++ D ++ clsS (l.take r))) ∧ Hid (Below w.heap.size w wr)) (fun _ i _ => sn - (intOf i).toNat)
          case atStart => exact ⟨0, by omega, rfl, Lib.hid (by have := HR.out; simpa [clsS] using this), HB⟩
          case round =>
            clear HR HB
            obtain ⟨r, hr, rfl, HR, HC⟩ := hrel
            by_cases hlr : r < sn
            · obtain ⟨b2, o2, s1, rfl, g2, z2, y0, y1, y2, y3, y4, y5⟩ := SAt.cells (SL.out.below HC.out) hlr
              have HT2 := Lib.hid (clsS_take g2)
              have hcs : (clsS (l.take r)).length ≤ r := by unfold clsS; rw [List.length_map, List.length_take]; omega
              have q3 : (r : Int) < sn := by omega
              have q4 : (0 : Int) ≤ r := by omega
              clear g2
              generalize clsS (l.take r) = E at *
              have HB1 := Lib.hid (BX.mk0 (vs := #[.string (arr s1.1), .int .i64 s1.2.1, .int .i64 s1.2.2.1, .int .i64 s1.2.2.2.1, .int .i64 s1.2.2.2.2.1, .string (arr s1.2.2.2.2.2)]) (T := 95) wr)
              go_upto_region 13 with fail
              generalize wr.alloc (.cells #[.string (arr s1.1), .int .i64 s1.2.1, .int .i64 s1.2.2.1, .int .i64 s1.2.2.2.1, .int .i64 s1.2.2.2.2.1, .string (arr s1.2.2.2.2.2)] 95) = wb at *
              obtain ⟨S, hS⟩ : ∃ S, S = wr.heap.size := ⟨_, rfl⟩
              rw [← hS] at HB1 ⊢
              clear hS y0 y1 y2 y3 y4 y5
              have y0 : wb.cell? ⟨S, 0, none⟩ = some (.string (arr s1.1)) := HB1.out.cell 0
              have HR := Lib.hid (HR.out.below HB1.out.bl)
              have HC := Lib.hid (below3 HC.out HB1.out.bl)
              have hbs := HC.out.size
              go_wp2_with (at_builtin; refine wpList_app elemStr encStr rfl _ _ rfl w.heap.size _ (C ++ D ++ E) rfl (HR.out.below ((Below.refl _ _).alloc (Nat.le_refl _) _)) _ _ _ [s1.1] rfl (KAt.one (f := strC) (k := 1) wb s1.1 _) (by simp <;> omega) (by simp; omega) ?_)
              intro v6 w6 hr6 hb6 hg6 ho6
              have HRF : Hid (CRow w6 w.heap.size v6 (C ++ D ++ clsS (l.take (r + 1)))) := Lib.hid (by rw [HT2.out, ← List.append_assoc]; simpa using hr6)
              have HBF := Lib.hid ((HC.out.alloc hbs _).trans hb6)
              clear hr6 hg6 ho6 hb6
              go_wp2_with fail
              go_roundw
              case rel => exact ⟨r + 1, by omega, by go_num, HRF, HBF⟩
              case measure => simp [intOf]; omega
            · obtain rfl : sn = r := by omega
              have HRF : Hid (CRow wr w.heap.size _ (C ++ (ls.take (j + 1)).flatMap clsS)) := Lib.hid (by have := HR.out; rw [List.take_of_length_le (by omega)] at this; rw [HT.out, ← List.append_assoc]; exact this)
              go_wp2_with fail
              go_roundw
              case rel => exact ⟨j + 1, by omega, by go_num, HRF, HC⟩
              case measure => simp [intOf]; omega
        · obtain rfl : n' = j := by omega
          have HRY : Hid (CRow wr w.heap.size _ (C ++ ls.flatMap clsS)) := Lib.hid (by have := HR.out; rw [List.take_of_length_le (by omega)] at this; exact this)
          have hyl : (C ++ ls.flatMap clsS).length ≤ 200000000 := by
            have : ∀ (L : List (List Ses)), (∀ x ∈ L, x.length ≤ 1000000) → (L.flatMap clsS).length ≤ L.length * 1000000 := by
              intro L
              induction L with
              | nil => intro _; simp
              | cons y L ih =>
                intro h
                have h1 := h y List.mem_cons_self
                have h2 := ih (fun x hx => h x (List.mem_cons_of_mem _ hx))
                rw [List.flatMap_cons, List.length_append, List.length_cons, Nat.add_mul]
                unfold clsS at h2 ⊢
                rw [List.length_map]; omega
            have h3 := this ls HLL.out
            rw [List.length_append]
            have : ls.length * 1000000 ≤ 100 * 1000000 := Nat.mul_le_mul_right _ (by omega)
            omega
          clear HR
          generalize hK0 : C ++ ls.flatMap clsS = K at *
          have HK0 := Lib.hid hK0
          clear hK0
          have SS := Lib.hid (sortstr_any w wr HB.out _ K HRY.out (by omega))
          obtain ⟨av, cv, hv, _⟩ := KRow.at_ encStr HRY.out
          subst hv
          go_wp2_with fail
          refine SS.out.mono ?_
          rintro en w2 ⟨rfl, hr2, hb2⟩
          have CS := Lib.hid (compstr_any w w2 hb2 _ _ hr2 (by rw [List.length_mergeSort]; omega))
          rw [compact_cls] at CS
          clear hr2 hb2 SS
          go_wp2_with fail
          refine CS.out.mono ?_
          rintro en w3 ⟨v3, rfl, hr3, hb3⟩
          have H3 := Lib.hid (show _ ∧ _ from ⟨hr3, hb3⟩)
          clear hr3 hb3 CS
          go_wp2_with fail
          go_ret
          exact ⟨v3, rfl, by rw [HC0.out, HK0.out]; exact H3.out⟩
end Go.Proofs.YtihbpggbpapcfaaGreatDoor

namespace Go.Proofs
open Go.Shelf
def Tryz.laysSortSes_ren : Go.Shelf.Ren := ⟨fun | 6 => 174 | 15 => 177 | 14 => 197 | 28 => 207 | 29 => 182 | 20 => 217 | 21 => 218 | 22 => 219 | 23 => 220 | 24 => 221 | 25 => 222 | 26 => 223 | 27 => 224 | 46 => 236 | 47 => 226 | 48 => 227 | 49 => 237 | 50 => 238 | 57 => 242 | n => n, fun | 22 => 49 | 24 => 95 | 25 => 217 | 3 => 3 | 39 => 42 | 0 => 0 | 53 => 125 | 55 => 202 | 4 => 4 | 46 => 237 | 45 => 236 | 50 => 173 | 5 => 5 | 9 => 9 | 66 => 257 | 70 => 261 | 76 => 269 | 77 => 270 | n => n, fun | n => n⟩
theorem Tryz.laysSortSes : Go.Proofs.SlLaysF0.n6 Tryz.prog Tryz.laysSortSes_ren := {
  mixed := by kernel_rfl
  f6 := ⟨Tryz.f174.name, by decide, Tryz.func174.trans (congrArg some (by kernel_rfl))⟩
  f14 := ⟨Tryz.f197.name, by decide, Tryz.func197.trans (congrArg some (by kernel_rfl))⟩
  f15 := Tryz.func177.trans (congrArg some (by kernel_rfl))
  f20 := ⟨Tryz.f217.name, by decide, Tryz.func217.trans (congrArg some (by kernel_rfl))⟩
  f21 := ⟨Tryz.f218.name, by decide, Tryz.func218.trans (congrArg some (by kernel_rfl))⟩
  f22 := ⟨Tryz.f219.name, by decide, Tryz.func219.trans (congrArg some (by kernel_rfl))⟩
  f23 := ⟨Tryz.f220.name, by decide, Tryz.func220.trans (congrArg some (by kernel_rfl))⟩
  f24 := ⟨Tryz.f221.name, by decide, Tryz.func221.trans (congrArg some (by kernel_rfl))⟩
  f25 := ⟨Tryz.f222.name, by decide, Tryz.func222.trans (congrArg some (by kernel_rfl))⟩
  f26 := ⟨Tryz.f223.name, by decide, Tryz.func223.trans (congrArg some (by kernel_rfl))⟩
  f27 := ⟨Tryz.f224.name, by decide, Tryz.func224.trans (congrArg some (by kernel_rfl))⟩
  f28 := Tryz.func207.trans (congrArg some (by kernel_rfl))
  f29 := Tryz.func182.trans (congrArg some (by kernel_rfl))
  f46 := ⟨Tryz.f236.name, by decide, Tryz.func236.trans (congrArg some (by kernel_rfl))⟩
  f47 := Tryz.func226.trans (congrArg some (by kernel_rfl))
  f48 := Tryz.func227.trans (congrArg some (by kernel_rfl))
  f49 := ⟨Tryz.f237.name, by decide, Tryz.func237.trans (congrArg some (by kernel_rfl))⟩
  f50 := ⟨Tryz.f238.name, by decide, Tryz.func238.trans (congrArg some (by kernel_rfl))⟩
  f57 := ⟨Tryz.f242.name, by decide, Tryz.func242.trans (congrArg some (by kernel_rfl))⟩
  t0 := Tryz.underlying0
  a0 := Tryz.isAgg0
  z0 := Tryz.sizeOf0
  v0 := Tryz.zeroValue0
  t3 := Tryz.underlying3
  a3 := Tryz.isAgg3
  z3 := Tryz.sizeOf3
  v3 := Tryz.zeroValue3
  t4 := Tryz.underlying4
  a4 := Tryz.isAgg4
  z4 := Tryz.sizeOf4
  v4 := Tryz.zeroValue4
  t5 := Tryz.underlying5
  a5 := Tryz.isAgg5
  z5 := Tryz.sizeOf5
  v5 := Tryz.zeroValue5
  t9 := Tryz.underlying9
  a9 := Tryz.isAgg9
  z9 := Tryz.sizeOf9
  v9 := Tryz.zeroValue9
  t22 := Tryz.underlying49
  a22 := Tryz.isAgg49
  z22 := Tryz.sizeOf49
  v22 := Tryz.zeroValue49
  t25 := Tryz.underlying217
  a25 := Tryz.isAgg217
  z25 := Tryz.sizeOf217
  v25 := Tryz.zeroValue217
  t39 := Tryz.underlying42
  a39 := Tryz.isAgg42
  z39 := Tryz.sizeOf42
  v39 := Tryz.zeroValue42
  t45 := Tryz.underlying236
  a45 := Tryz.isAgg236
  z45 := Tryz.sizeOf236
  v45 := Tryz.zeroValue236
  t46 := Tryz.underlying237
  a46 := Tryz.isAgg237
  z46 := Tryz.sizeOf237
  v46 := Tryz.zeroValue237
  t50 := Tryz.underlying173
  a50 := Tryz.isAgg173
  z50 := Tryz.sizeOf173
  v50 := Tryz.zeroValue173
  t53 := Tryz.underlying125
  a53 := Tryz.isAgg125
  z53 := Tryz.sizeOf125
  v53 := Tryz.zeroValue125
  t55 := Tryz.underlying202
  a55 := Tryz.isAgg202
  z55 := Tryz.sizeOf202
  v55 := Tryz.zeroValue202
  t66 := Tryz.underlying257
  a66 := Tryz.isAgg257
  z66 := Tryz.sizeOf257
  v66 := Tryz.zeroValue257
  t70 := Tryz.underlying261
  a70 := Tryz.isAgg261
  z70 := Tryz.sizeOf261
  v70 := Tryz.zeroValue261
  t76 := Tryz.underlying269
  a76 := Tryz.isAgg269
  z76 := Tryz.sizeOf269
  v76 := Tryz.zeroValue269
  t77 := Tryz.underlying270
  a77 := Tryz.isAgg270
  z77 := Tryz.sizeOf270
  v77 := Tryz.zeroValue270 }
def Tryz.laysIndexSes_ren : Go.Shelf.Ren := ⟨fun | 6 => 146 | n => n, fun | 22 => 49 | 23 => 95 | 25 => 195 | 3 => 3 | 0 => 0 | 4 => 4 | n => n, fun | n => n⟩
theorem Tryz.laysIndexSes : Go.Proofs.SlLaysH0.n6 Tryz.prog Tryz.laysIndexSes_ren := {
  mixed := by kernel_rfl
  f6 := ⟨Tryz.f146.name, by decide, Tryz.func146.trans (congrArg some (by kernel_rfl))⟩
  t0 := Tryz.underlying0
  a0 := Tryz.isAgg0
  z0 := Tryz.sizeOf0
  v0 := Tryz.zeroValue0
  t3 := Tryz.underlying3
  a3 := Tryz.isAgg3
  z3 := Tryz.sizeOf3
  v3 := Tryz.zeroValue3
  t4 := Tryz.underlying4
  a4 := Tryz.isAgg4
  z4 := Tryz.sizeOf4
  v4 := Tryz.zeroValue4
  t22 := Tryz.underlying49
  a22 := Tryz.isAgg49
  z22 := Tryz.sizeOf49
  v22 := Tryz.zeroValue49
  t25 := Tryz.underlying195
  a25 := Tryz.isAgg195
  z25 := Tryz.sizeOf195
  v25 := Tryz.zeroValue195 }
def Tryz.laysContainsSes_ren : Go.Shelf.Ren := ⟨fun | 8 => 148 | 6 => 146 | n => n, fun | 22 => 49 | 23 => 95 | 25 => 195 | 4 => 4 | 3 => 3 | 0 => 0 | n => n, fun | n => n⟩
theorem Tryz.laysContainsSes : Go.Proofs.SlLaysH0.n8 Tryz.prog Tryz.laysContainsSes_ren := {
  mixed := by kernel_rfl
  f6 := ⟨Tryz.f146.name, by decide, Tryz.func146.trans (congrArg some (by kernel_rfl))⟩
  f8 := ⟨Tryz.f148.name, by decide, Tryz.func148.trans (congrArg some (by kernel_rfl))⟩
  t0 := Tryz.underlying0
  a0 := Tryz.isAgg0
  z0 := Tryz.sizeOf0
  v0 := Tryz.zeroValue0
  t3 := Tryz.underlying3
  a3 := Tryz.isAgg3
  z3 := Tryz.sizeOf3
  v3 := Tryz.zeroValue3
  t4 := Tryz.underlying4
  a4 := Tryz.isAgg4
  z4 := Tryz.sizeOf4
  v4 := Tryz.zeroValue4
  t22 := Tryz.underlying49
  a22 := Tryz.isAgg49
  z22 := Tryz.sizeOf49
  v22 := Tryz.zeroValue49
  t25 := Tryz.underlying195
  a25 := Tryz.isAgg195
  z25 := Tryz.sizeOf195
  v25 := Tryz.zeroValue195 }
def Tryz.laysCloneSes_ren : Go.Shelf.Ren := ⟨fun | 41 => 80 | n => n, fun | 22 => 49 | 23 => 95 | 4 => 4 | n => n, fun | n => n⟩
theorem Tryz.laysCloneSes : Go.Proofs.SlLaysE0.n41 Tryz.prog Tryz.laysCloneSes_ren := {
  mixed := by kernel_rfl
  f41 := ⟨Tryz.f80.name, by decide, Tryz.func80.trans (congrArg some (by kernel_rfl))⟩
  t4 := Tryz.underlying4
  a4 := Tryz.isAgg4
  z4 := Tryz.sizeOf4
  v4 := Tryz.zeroValue4
  t22 := Tryz.underlying49
  a22 := Tryz.isAgg49
  z22 := Tryz.sizeOf49
  v22 := Tryz.zeroValue49 }
end Go.Proofs
