/- Texts R8, R9, R10, R11, RB, R12, joined: walks and laws. -/
import Derived.Maps.AppendAt
import Derived.Maps.OwnOps
import Derived.Maps.OwnSet
import Derived.Sort.OwnSortedInts
import Derived.Test.YtcifdllbnbhcdaaGreatDoorMR02
set_option linter.unusedSimpArgs false
set_option linter.unusedVariables false
namespace Go.Proofs.YtcifdllbnbhcdaaGreatDoor.Rc
open Go.RowKit Go.Shelf Go.Sort TT
attribute [local go_sem] Oper.semAt_some
theorem contains_any (hs : List Int) (a : Option Addr) (n c : Nat) (d : Int) (w : World) (hI : IntsAt w a n hs) :
    Calls Tryz.prog 30 #[.slice a n c, .int .i64 d] w fun e w' => e = .returned (.bool (hasI hs d)) ∧ w = w' := by
  obtain ⟨h1, h2, h3⟩ := hI
  subst h1
  rcases h3 with h0 | ⟨b, off, rfl, hc⟩
  · have : hs = [] := List.eq_nil_of_length_eq_zero h0
    subst this
    refine (Tryz.slices_Contains_int_empty a c d w).mono ?_
    rintro e w' ⟨rfl, rfl⟩
    exact ⟨ret_bool (by simp [hasI]), rfl⟩
  · refine (Tryz.slices_Contains_int b off hs.length c hs d w (Nat.le_refl _) h2 hc).mono ?_
    rintro e w' ⟨rfl, rfl⟩
    exact ⟨ret_bool (by rw [List.take_length, Bool.eq_iff_iff]; simp [hasI]), rfl⟩
theorem clone_any (ys : List Int) (b : Option Addr) (m q : Nat) (w : World) (hI : IntsAt w b m ys) (hbig : m * 8 ≤ 140737488355328) :
    Calls Tryz.prog 28 #[.slice b m q] w fun e w' => ∃ a' c', e = .returned (.slice a' m c') ∧ Row w' w.heap.size (.slice a' m c') ys ∧ Below w.heap.size w w' := by
  have key : ∀ {w' : World} {v : Value} {xs : List Int}, xs.length = m → w'.ownsRow w.heap.size 3 1 v m (xs.map (Value.int .i64)) → ∃ a' c', v = .slice a' m c' ∧ Row w' w.heap.size (.slice a' m c') xs := by
    intro w' v xs hx h
    subst hx
    obtain ⟨a', c', rfl, _⟩ := IntsAt.of_owns (L := xs) h
    exact ⟨a', c', rfl, h⟩
  obtain ⟨h1, h2, h3⟩ := hI
  rcases h3 with h0 | ⟨b, off, rfl, hc⟩
  · subst h0
    have : ys = [] := List.eq_nil_of_length_eq_zero h1
    subst this
    cases b with
    | none =>
      refine (Tryz.slices_Clone_int_nil 0 q w).mono ?_
      rintro e w' ⟨rfl, rfl⟩
      exact ⟨none, 0, rfl, World.ownsRow_nil _ _ _ _, Below.refl _ _⟩
    | some ad =>
      refine (Tryz.slices_Clone_int_zero ad q w).mono ?_
      rintro e w' ⟨v', rfl, hown, _, hb⟩
      obtain ⟨a', c', rfl, hr⟩ := key (xs := []) rfl hown
      exact ⟨a', c', rfl, hr, hb⟩
  · subst h1
    refine (Tryz.slices_Clone_int b off ys.length q ys w (Nat.le_refl _) hbig hc).mono ?_
    rintro e w' ⟨v', rfl, hown, _, hb⟩
    rw [List.take_length] at hown
    obtain ⟨a', c', rfl, hr⟩ := key rfl hown
    exact ⟨a', c', rfl, hr, hb⟩
theorem row_shape {w : World} {B : Nat} {v : Value} {L : List Int} (h : Row w B v L) : ∃ a c, v = .slice a L.length c := by
  obtain ⟨a, c, h1, _⟩ := IntsAt.of_owns h
  exact ⟨a, c, h1⟩
theorem sort_any (B : Nat) (a : Option Addr) (c : Nat) (L : List Int) (w : World) (h : Row w B (.slice a L.length c) L) (hsz : L.length < 4611686018427387904) :
    Calls Tryz.prog 31 #[.slice a L.length c] w fun e w' => e = .returned (.tuple #[]) ∧ Row w' B (.slice a L.length c) (L.mergeSort fun x y => decide (x ≤ y)) ∧ w.grownBy w' (Value.slice a L.length c).ownBlock := by
  by_cases h0 : L.length = 0
  · have : L = [] := List.eq_nil_of_length_eq_zero h0
    subst this
    refine (Tryz.slices_Sort_int_none a c w).mono ?_
    rintro e w' ⟨rfl, rfl⟩
    exact ⟨rfl, by rw [List.mergeSort_nil]; exact h, ⟨rfl, rfl, rfl, Nat.le_refl _, fun _ _ _ => rfl⟩⟩
  · rcases h.2 with ⟨_, hn⟩ | ⟨g, cap, cur, hv, hg, hb, h1, h2, h3, h4⟩
    · exact absurd hn h0
    · simp only [Value.slice.injEq] at hv
      obtain ⟨rfl, _, rfl⟩ := hv
      have hH : Holds (Value.int .i64) w g 0 L.toArray := holds_of_blockI hb (by simpa using h4)
      refine (Tryz.slices_Sort_int g 0 c L w hH (Array.getElem?_eq_some_iff.1 hb).1 hsz).mono ?_
      rintro e w' ⟨rfl, nn, os, rfl⟩
      refine ⟨rfl, ?_, grownBy_sortedI _⟩
      have hl : (L.mergeSort fun x y => decide (x ≤ y)).length = L.length := by simp
      have := ownsRow_sortedI (base := B) (n := nn) (os := os) (ss := L) (ts := L.mergeSort fun x y => decide (x ≤ y)) hl hg hb h1 h2 h3
      show World.ownsRow _ _ _ _ _ _ _
      rw [hl]; exact this
theorem sorted_ms (L : List Int) : (L.mergeSort fun x y => decide (x ≤ y)).Pairwise (· ≤ ·) := by
  have := List.pairwise_mergeSort (le := fun x y : Int => decide (x ≤ y)) (fun a b c h1 h2 => by simp at *; omega) (fun a b => by simp; omega) L
  exact List.Pairwise.imp (fun h => by simpa using h) this
theorem days_fin {f l e k : Int} {xs ys : List Int} (h : vlE f l e k xs ys = 0) :
    ((ys ++ ((dayR f l).filter (regB f l e k)).filter (fun d => !(hasI xs d))).mergeSort fun x y => decide (x ≤ y)) = daysS f l e k xs ys := by
  refine days_sort h ?_ (sorted_ms _)
  have e : ((dayR f l).filter (regB f l e k)).filter (fun d => !(hasI xs d)) = daysR f l e k xs := by
    rw [List.filter_filter]; unfold daysR
    exact List.filter_congr fun d _ => by rw [Bool.and_comm]
  rw [← e]; exact List.mergeSort_perm _ _
end Go.Proofs.YtcifdllbnbhcdaaGreatDoor.Rc
namespace Go.Proofs.YtcifdllbnbhcdaaGreatDoor.Rc
open Go.RowKit Go.Shelf TT
attribute [local go_sem] Oper.semAt_some
theorem days_no (f l e k : Int) (a : Option Addr) (n c : Nat) (b : Option Addr) (m q : Nat) (xs ys : List Int) (w : World) (hx : IntsAt w a n xs) (hy : IntsAt w b m ys) (hs : n + m ≤ 9223372036854775807) (hv : vlE f l e k xs ys ≠ 0) :
    Calls Tryz.prog 12 #[serV f l e k a n c b m q] w (DaysP (daysO f l e k xs ys) w) := by
  have HS := Lib.hid (SC.mk0 (w := w) (f := f) (l := l) (e := e) (k := k) (c := c) (q := q) 37 hx hy)
  clear hx hy
  have hd : Hid (daysO f l e k xs ys = []) := Lib.hid (by unfold daysO; rw [if_neg hv])
  have hv' : (vlE f l e k xs ys != 0) = true := by simpa using hv
  clear hv
  go_enter Tryz.func12, Tryz.ntmps12
  go_wp2_with fail
  obtain ⟨c0, c1, c2, c3, c4, c5, _, _, sz, _⟩ := HS.out
  go_wp2_with (go_at_call 27; refine (valid_any f l e k a n c b m q xs ys _ HS.out.xa HS.out.ya hs).mono ?_; rintro e w1 ⟨rfl, hb⟩)
  go_ret
  exact ⟨_, rfl, by rw [hd.out]; exact World.ownsRow_nil _ _ _ _, (HS.out.next hb).bl⟩
def colL (xs ys pre : List Int) : List Int := ys ++ pre.filter (fun d => !(hasI xs d))
theorem colL_hit {xs ys pre : List Int} {x : Int} (h : hasI xs x = false) : colL xs ys (pre ++ [x]) = colL xs ys pre ++ [x] := by simp [colL, h]
theorem colL_miss {xs ys pre : List Int} {x : Int} (h : hasI xs x = true) : colL xs ys (pre ++ [x]) = colL xs ys pre := by simp [colL, h]
theorem colL_len (xs ys pre : List Int) : (colL xs ys pre).length ≤ ys.length + pre.length := by
  unfold colL; rw [List.length_append]; have := List.length_filter_le (fun d => !(hasI xs d)) pre; omega
theorem not_row {W : World} {B base size k : Nat} {T e : TypeId} {cs : Array Value} {fr : Nat × Nat} {v : Value} {xs : List Value} (h : W.heap[B]? = some (.cells cs T fr)) (hte : T ≠ e) (hr : W.ownsRow base e size v k xs) : some B ≠ v.ownBlock := by
  rcases hr.2 with ⟨rfl, _⟩ | ⟨g, cap, cur, rfl, _, hgb, _⟩
  · simp [Value.ownBlock]
  · intro e'
    obtain rfl : B = g := by simpa [Value.ownBlock] using e'
    rw [hgb] at h
    simp only [Option.some.injEq, Obj.cells.injEq] at h
    exact hte h.2.1.symm
set_option maxRecDepth 100000 in
set_option maxHeartbeats 4000000 in
theorem days_yes (f l e k : Int) (a : Option Addr) (n c : Nat) (b : Option Addr) (m q : Nat) (xs ys : List Int) (w : World) (hx : IntsAt w a n xs) (hy : IntsAt w b m ys) (hv : vlE f l e k xs ys = 0) :
    Calls Tryz.prog 12 #[serV f l e k a n c b m q] w (DaysP (daysO f l e k xs ys) w) := by
  have HS := Lib.hid (SC.mk0 (w := w) (f := f) (l := l) (e := e) (k := k) (c := c) (q := q) 37 hx hy)
  have hd : Hid (daysO f l e k xs ys = daysS f l e k xs ys) := Lib.hid (by unfold daysO; rw [if_pos hv])
  obtain ⟨hv0, _⟩ := vlE_inv hv
  obtain ⟨o1, o2, h3, h4, e1, e2, k1, k2, hsz⟩ := vl0_inv hv0
  obtain ⟨f1, f2⟩ := okDay_of o1
  obtain ⟨l1, l2⟩ := okDay_of o2
  have hnm : n + m ≤ 140 := by have := hx.len; have := hy.len; omega
  have hly := Lib.hid hy.len
  have HV := Lib.hid hv
  have hv' : (vlE f l e k xs ys != 0) = false := by simpa using hv
  clear hv o1 o2 hv0 hsz hx hy
  obtain ⟨i0, hi, hz0, hz1, hz2⟩ := info_parts Tryz.infoInt
  have HI0 := Lib.hid hi; have HZ0 := Lib.hid hz0; have HZ1 := Lib.hid hz1; have HZ2 := Lib.hid hz2
  clear hi hz0 hz1 hz2
  refine (callsIn_wide (n := 3)).1 ?_
  refine callsIn_of_wp_marks Tryz.func12 rfl trivial ?_ rfl
  simp only [Tryz.ntmps12, List.size_toArray, List.length_cons, List.length_nil, Nat.reduceAdd, Nat.reduceSub, Array.replicate_succ, Array.replicate_zero, List.push_toArray, List.append_toArray, List.nil_append, List.cons_append]
  obtain ⟨c0, c1, c2, c3, c4, c5, _, _, sz, _⟩ := HS.out
  gi_wp2_with fail
  refine ⟨trivial, ?_⟩
  refine (callsIn_wide.2 (valid_any f l e k a n c b m q xs ys _ HS.out.xa HS.out.ya (by omega))).mono ?_
  rintro en w1 ⟨rfl, hb⟩
  have HS1 := Lib.hid (HS.out.next hb)
  clear c0 c1 c2 c3 c4 c5 sz HS hb
  obtain ⟨c0, c1, c2, c3, c4, c5, _, _, sz, _⟩ := HS1.out
  gi_wp2_with fail
  refine ⟨trivial, ?_⟩
  refine (callsIn_wide.2 (clone_any ys b m q _ HS1.out.ya (by omega))).mono ?_
  rintro en w2 ⟨a2, q2, rfl, hrow, hb2⟩
  have HS2 := Lib.hid (HS1.out.next hb2)
  have HR := Lib.hid hrow
  have HB2 := Lib.hid hb2
  clear c0 c1 c2 c3 c4 c5 sz hrow hb2
  obtain ⟨c0, c1, c2, c3, c4, c5, _, _, sz, _⟩ := HS2.out
  gi_wp2_with fail
  refine ⟨trivial, ?_⟩
  refine (callsIn_wide.2 (regs_any f l e k a n c b m q _)).mono ?_
  rintro en w3 ⟨rfl, rfl⟩
  gi_wp2_with fail
  obtain ⟨W0, hW0⟩ : ∃ W0, ((w2.alloc (.cells #[.slice a2 m q2] 22)).alloc (.cells #[.int .i64 f, .int .i64 l, .int .i64 e, .int .i64 k, .slice a n c, .slice b m q] 37)) = W0 := ⟨_, rfl⟩
  rw [hW0]
  have hsz0 : W0.heap.size = w2.heap.size + 2 := by rw [← hW0]; simp
  have hBox : Boxed W0 w2.heap.size 22 (.slice a2 m q2) := by rw [← hW0]; exact (Boxed.new w2 22 _).alloc _
  have hBs : W0.heap[w2.heap.size + 1]? = some (.cells #[.int .i64 f, .int .i64 l, .int .i64 e, .int .i64 k, .slice a n c, .slice b m q] 37 (0, 0)) := by
    rw [← hW0]; have := World.alloc_heap_new (w2.alloc (.cells #[.slice a2 m q2] 22)) (.cells #[.int .i64 f, .int .i64 l, .int .i64 e, .int .i64 k, .slice a n c, .slice b m q] 37); rw [World.size_alloc] at this; exact this
  have hS6 : S6 W0 (w2.heap.size + 1) f l e k a n c b m q := by
    rw [← hW0]; have := S6.mk0 (w2.alloc (.cells #[.slice a2 m q2] 22)) 37 f l e k a n c b m q; rw [World.size_alloc] at this; exact this
  have hRow : Row W0 w1.heap.size (.slice a2 m q2) ys := by rw [← hW0]; exact World.ownsRow.alloc (World.ownsRow.alloc HR.out _) _
  have hB2s := HB2.out.size
  have hBl : Below w1.heap.size w1 W0 := by rw [← hW0]; exact (HB2.out.alloc hB2s _).alloc (by simp; omega) _
  clear hW0 c0 c1 c2 c3 c4 c5 sz
  have HS6 := Lib.hid hS6
  have HBL := Lib.hid hBl
  have HXA := Lib.hid HS1.out.xa
  have HC4 := Lib.hid HS1.out.c4
  have hw1 := HS1.out.sz
  refine wpIn_rangeFunc_ownG rfl (by omega) (gf := 51) (lb := #[.pointer (some ⟨w2.heap.size + 1, 0, none⟩)]) rfl trivial (enters_of Tryz.func51 (by kernel_rfl) rfl)
    (regs_stops (w2.heap.size + 1) f l e k a n c b m q f1 h3 l2 h4 e1 e2 k1 k2 W0 HS6.out) KpB.t (KpB.b (by omega)) (Below.refl _ _) (fun _ => rfl)
    (fun pre W => (∃ v, Boxed W w2.heap.size 22 v ∧ W.ownsRow w1.heap.size 3 1 v (colL xs ys pre).length ((colL xs ys pre).map (Value.int .i64)) ∧ True) ∧ (Below w1.heap.size w1 W ∧ W.heap[w2.heap.size + 1]? = some (.cells #[.int .i64 f, .int .i64 l, .int .i64 e, .int .i64 k, .slice a n c, .slice b m q] 37 (0, 0))))
    (fun _ _ _ => False)
    (OwnFrom.and (Own.from (holdsRow_own w1.heap.size w2.heap.size 22 3 1 (fun pre => (colL xs ys pre).length) (fun pre => (colL xs ys pre).map (Value.int .i64)) (fun _ _ => True)) _)
      (OwnFrom.and (ownFrom_below (Nat.le_refl _) (by omega)) (fun s X Y row hs hg hr => (hg.block _ (Array.getElem?_eq_some_iff.1 hs).1 (fun ee => by obtain ⟨_, o, ho, hc⟩ := hr _ ee.symm; rw [hs] at ho; cases ho; cases hc)).trans hs)))
    (fun _ _ _ _ _ hs _ _ => hs)
    ⟨⟨_, hBox, by simpa [colL] using hRow, trivial⟩, hBl, hBs⟩
    (fun x => { tmps := #[serV f l e k a n c b m q, .pointer (some ⟨w.heap.size, 0, none⟩), .slice none 0 0, .pointer (some ⟨w2.heap.size, 0, none⟩), .int .i64 x, .agg #[.int .i64 f, .int .i64 l, .int .i64 e, .int .i64 k, .slice a n c, .slice b m q], .int .i64 (vlE f l e k xs ys), .bool false, .pointer (some ⟨w.heap.size, 5, none⟩), .slice b m q, .slice a2 m q2, .agg #[.int .i64 f, .int .i64 l, .int .i64 e, .int .i64 k, .slice a n c, .slice b m q], .func (.func 51) #[] #[.pointer (some ⟨w2.heap.size + 1, 0, none⟩)], .int .i64 x, undef, undef, undef, undef, undef, undef, undef, undef, undef, undef, undef, undef], defers := [] }) ?assign ?body ?done ?stop
  case assign =>
    intro lp x W K hK
    gi_wp2
    exact hK
  case body =>
    rintro lp pre x W ⟨⟨v, hv, hrow, _⟩, hB, hBsW⟩ hlt
    have hc := hv.cell
    have c4 : W.cell? ⟨w.heap.size, 4, none⟩ = some (.slice a n c) := (hB.cell (p := ⟨w.heap.size, 4, none⟩) hw1).trans HC4.out
    have XA := Lib.hid (HXA.out.below hB)
    have hcl := colL_len xs ys pre
    have hyl : ys.length ≤ 140 := by have := hly.out; omega
    have HB := Lib.hid hB
    have HBs := Lib.hid hBsW
    have HV := Lib.hid hv
    have HR1 := Lib.hid hrow
    have hBz := hB.size
    clear hB hBsW
    cases hh : hasI xs x
    · have hL : Hid (colL xs ys (pre ++ [x]) = colL xs ys pre ++ [x]) := Lib.hid (colL_hit hh)
      generalize colL xs ys pre = L at *
      gi_wp2_with (first
        | (refine ⟨trivial, ?_⟩; gi_at_call 30; refine (CallsIn.inRound lp (callsIn_wide.2 (contains_any xs a n c x _ XA.out))).mono ?_; rintro en w9 ⟨rfl, rfl⟩; rw [hh])
        | (gi_at_builtin; refine wpListIn_append_own _ rfl _ _ 22 rfl w1.heap.size 3 i0 (.int .i64 0) 1 8 Tryz.underlying22 HI0.out HZ0.out HZ1.out HZ2.out rfl (by decide) _ _ _ rfl (HR1.out.alloc _) ⟨W.heap.size, 0, none⟩ 1 1 [.int .i64 x] rfl rfl (cell_one_new _ _ _) (by simp [Value.oneCell']) (by unfold maxLen; omega) (by omega) (by simp; omega) ?_; intro v' w4 hown' hgrow _; have HG := Lib.hid hgrow; obtain ⟨g', cap', rfl⟩ := ownsRow_succ hown'; obtain ⟨hv1, hv2, hr2, hk2, hb2'⟩ := HV.out.appended (by decide) HR1.out hBz (by omega) hown' hgrow; have hc1 := hv1.cell; have hf1 := hv1.frozen))
      have hkp : KpB (w2.heap.size + 1) W (w4.setCell ⟨w2.heap.size, 0, none⟩ (.slice (some ⟨g', 0, none⟩) (L.length + 1) cap')) := by
        have hlt1 : w2.heap.size + 1 < W.heap.size := (Array.getElem?_eq_some_iff.1 HBs.out).1
        refine ⟨(Below.heap_setCell _ _ _ _ (by simp)).trans ?_, hk2.size⟩
        rw [HG.out.block _ (by simp; omega) (not_row HBs.out (by decide) HR1.out)]
        exact Below.heap_alloc _ _ _ hlt1
      exact ⟨hk2.from _, hkp, ⟨_, hv2, by rw [hL.out]; simpa using hr2, trivial⟩, HB.out.trans hb2', hkp.1.trans HBs.out⟩
    · have hL : Hid (colL xs ys (pre ++ [x]) = colL xs ys pre) := Lib.hid (colL_miss hh)
      generalize colL xs ys pre = L at *
      gi_wp2_with (refine ⟨trivial, ?_⟩; gi_at_call 30; refine (CallsIn.inRound lp (callsIn_wide.2 (contains_any xs a n c x _ XA.out))).mono ?_; rintro en w9 ⟨rfl, rfl⟩; rw [hh])
      exact ⟨KeepsFrom.refl _ _, ⟨rfl, Nat.le_refl _⟩, ⟨v, HV.out, by rw [hL.out]; exact HR1.out, trivial⟩, HB.out, HBs.out⟩
  case done =>
    rintro D ys' W hD rfl ⟨⟨v, hv, hrow, _⟩, hB, hBsW⟩ hK
    have hfin := Lib.hid (days_fin HV.out)
    have hlenL : (colL xs ys ((dayR f l).filter (regB f l e k))).length ≤ 300 := by
      have h1 := colL_len xs ys ((dayR f l).filter (regB f l e k))
      have h2 := filter_len (regB f l e k) f (l - f + 1).toNat
      unfold dayR at h1 ⊢
      have := hly.out
      omega
    obtain ⟨a5, q5, rfl⟩ := row_shape hrow
    have hc := hv.cell
    have HVV := Lib.hid hv
    have HR1 := Lib.hid hrow
    have HB := Lib.hid hB
    have HK := Lib.hid hK
    have hfin2 : Hid (((colL xs ys ((dayR f l).filter (regB f l e k))).mergeSort fun x y => decide (x ≤ y)) = daysS f l e k xs ys) := Lib.hid hfin.out
    clear hv hrow hB hBsW hK hfin
    generalize colL xs ys ((dayR f l).filter (regB f l e k)) = L at *
    gi_wp2_with fail
    refine ⟨trivial, ?_⟩
    refine (callsIn_wide.2 (sort_any w1.heap.size a5 q5 L W HR1.out (by omega))).mono ?_
    rintro en w6 ⟨rfl, hrow6, hg6⟩
    have hb6 : Boxed w6 w2.heap.size 22 (.slice a5 L.length q5) := HVV.out.kept hg6 (HVV.out.not_row (by decide) HR1.out)
    have hc6 := hb6.cell
    have hk6 : w6.heap[D]? = some (.deferred (some [])) := by
      refine (hg6.block D (Array.getElem?_eq_some_iff.1 HK.out).1 (fun ee => ?_)).trans HK.out
      rcases HR1.out.2 with ⟨hz, _⟩ | ⟨g, cap, cur, hz, _, hgb, _⟩
      · rw [hz] at ee; simp [Value.ownBlock] at ee
      · rw [hz] at ee
        obtain rfl : D = g := by simpa [Value.ownBlock] using ee
        rw [HK.out] at hgb; cases hgb
    have hB6 : Below w1.heap.size w1 w6 := HB.out.grown hg6 HB.out.size (fun j hj => (HR1.out.lt j hj).1)
    have HR6 := Lib.hid hrow6
    have HK6 := Lib.hid hk6
    have HB6 := Lib.hid hB6
    clear hrow6 hg6 hk6 hB6 hb6 hc
    gi_wp2
    refine ⟨by simp, .inl ⟨_, _, rfl, run_takeDeferred HK6.out, ?_⟩⟩
    have hwb : Below w.heap.size w w1 := HS1.out.bl
    refine ⟨_, results_tmp rfl _ _ _, _, rfl, ?_, ?_⟩
    · rw [hd.out, ← hfin2.out]
      have hl : (L.mergeSort fun x y => decide (x ≤ y)).length = L.length := by simp
      exact row_base (ownsRow_putObj HR6.out _ HK6.out rfl) hwb.size
    · exact hwb.trans ((HB6.out.mono hwb.size).trans (belowK_b (w := w) (Nat.le_refl _) w6 D _ _ (by omega) HK6.out rfl rfl))
  case stop =>
    rintro D c pre W _ _ h _
    exact h.elim
theorem days_any (f l e k : Int) (a : Option Addr) (n c : Nat) (b : Option Addr) (m q : Nat) (xs ys : List Int) (w : World) (hx : IntsAt w a n xs) (hy : IntsAt w b m ys) (hs : n + m ≤ 9223372036854775807) :
    Calls Tryz.prog 12 #[serV f l e k a n c b m q] w (DaysP (daysO f l e k xs ys) w) := by
  by_cases hv : vlE f l e k xs ys = 0
  · exact days_yes f l e k a n c b m q xs ys w hx hy hv
  · exact days_no f l e k a n c b m q xs ys w hx hy hs hv
end Go.Proofs.YtcifdllbnbhcdaaGreatDoor.Rc
namespace Go.Proofs.YtcifdllbnbhcdaaGreatDoor.Rc
open Go.RowKit TT
theorem holds_any (f l e k d : Int) (a : Option Addr) (n c : Nat) (b : Option Addr) (m q : Nat) (xs ys : List Int) (w : World) (hx : IntsAt w a n xs) (hy : IntsAt w b m ys) (hs : n + m ≤ 9223372036854775807) :
    Calls Tryz.prog 13 #[serV f l e k a n c b m q, .int .i64 d] w (RetB (.bool (hasI (daysO f l e k xs ys) d)) w) := by
  have HS := Lib.hid (SC.mk0 (w := w) (f := f) (l := l) (e := e) (k := k) (c := c) (q := q) 37 hx hy)
  clear hx hy
  go_enter Tryz.func13, Tryz.ntmps13
  obtain ⟨c0, c1, c2, c3, c4, c5, _, _, sz, _⟩ := HS.out
  go_wp2_with fail
  refine (days_any f l e k a n c b m q xs ys _ HS.out.xa HS.out.ya hs).mono ?_
  rintro en w1 ⟨v, rfl, hr, hb⟩
  have HS1 := Lib.hid (HS.out.next hb)
  obtain ⟨a1, q1, rfl, hI⟩ := IntsAt.of_owns hr
  clear c0 c1 c2 c3 c4 c5 sz hb hr
  go_wp2_with (go_at_call 30; refine (contains_any _ _ _ _ d _ hI).mono ?_; rintro en w2 ⟨rfl, rfl⟩)
  go_ret
  exact ⟨rfl, HS1.out.bl⟩
end Go.Proofs.YtcifdllbnbhcdaaGreatDoor.Rc
namespace Go.Proofs.YtcifdllbnbhcdaaGreatDoor.Rc
open Go.RowKit Go.Maps TT
theorem Tryz.keyInt : Keyed Tryz.prog 3 := int_keyed Tryz.underlying3
theorem Tryz.zeroB (w : World) : (zeroValue 4).run Tryz.prog w = .ok (.bool false) w := by kernel_rfl
theorem plainElem_bool_inv {H : Type} {P : Program} {e : TypeId} (he : P.underlying e = some .bool) {v : Value} {z : DataW H × List MemPlace} (h : plainElem P e v = some z) : ∃ x, v = .bool x ∧ z = (.lit (.bool x), []) := by
  unfold plainElem at h
  rw [he] at h
  cases v <;> simp at h
  subst h
  exact ⟨_, rfl, rfl⟩
def SetAt (w : World) (B n : Nat) (L : List Int) : Prop :=
  ∃ D : DataW Unit, w.ownsMap Tryz.prog 3 (plainElem Tryz.prog 4) B n D ∧ IsMap D ∧ ∀ x : Int, (Lit.int .i64 x).wf = true → D.atKey (.int .i64 x) (.lit (.bool false)) = .lit (.bool (hasI L x))
theorem SetAt.kept {w w' : World} {B n : Nat} {L : List Int} {row : Option Nat} (h : SetAt w B n L) (hg : w.grownBy w' row) (hne : some B ≠ row) : SetAt w' B n L := by
  obtain ⟨D, h1, h2⟩ := h
  exact ⟨D, h1.kept hg hne, h2⟩
theorem SetAt.below {w w' : World} {B n : Nat} {L : List Int} (h : SetAt w B n L) (hb : Below w.heap.size w w') : SetAt w' B n L := h.kept (grown_below hb none) (by simp)
theorem SetAt.lt {w : World} {B n : Nat} {L : List Int} (h : SetAt w B n L) : B < w.heap.size := by
  obtain ⟨D, h1, _⟩ := h; exact h1.lt
theorem SetAt.mk0 (w : World) : SetAt (w.alloc (.map #[] 0)) w.heap.size 0 [] :=
  ⟨.map [], World.ownsMap_made _ _ _ _, ⟨_, rfl⟩, fun x _ => by simp [hasI]; rfl⟩
theorem hasI_snoc (L : List Int) (x y : Int) : hasI (L ++ [x]) y = (hasI L y || decide (y = x)) := by
  rw [Bool.eq_iff_iff]; simp [hasI]
theorem SetAt.put {w' : World} {B n : Nat} {L : List Int} {D : DataW Unit} {x : Int} (hm : IsMap D) (ha : ∀ y : Int, (Lit.int .i64 y).wf = true → D.atKey (.int .i64 y) (.lit (.bool false)) = .lit (.bool (hasI L y)))
    (hown : w'.ownsMap Tryz.prog 3 (plainElem Tryz.prog 4) B n (D.put (.int .i64 x) (.lit (.bool true)))) : SetAt w' B n (L ++ [x]) := by
  refine ⟨_, hown, hm.put _ _, fun y hy => ?_⟩
  rw [hasI_snoc]
  by_cases e : y = x
  · subst e; rw [atKey_put_same hm (show WideAt.IsKeyLit (.int .i64 y) from trivial)]; simp
  · rw [atKey_put_other (fun q => e (by cases q; rfl)), ha y hy]; simp [e]
theorem SetAt.look {w : World} {B n : Nat} {L : List Int} (h : SetAt w B n L) {x : Int} (hx : (Lit.int .i64 x).wf = true) :
    (Instr.lookup 164 (.map (some B)) (.int .i64 x) false).run Tryz.prog w = .ok (.bool (hasI L x)) w := by
  obtain ⟨D, hown, hm, ha⟩ := h
  obtain ⟨v, ps, hrun, hv⟩ := hown.lookup Tryz.keyInt Tryz.underlying164 (Tryz.zeroB w) (plainElem_bool Tryz.underlying4 false) (keyOf_int_mk Tryz.underlying3 hx)
  obtain ⟨c, rfl, hc⟩ := plainElem_bool_inv Tryz.underlying4 hv
  rw [ha x hx] at hc
  simp only [Prod.mk.injEq, DataW.lit.injEq, Lit.bool.injEq] at hc
  rw [hc.1]; exact hrun
theorem wf_i64 {x : Int} (h1 : -9223372036854775808 ≤ x) (h2 : x ≤ 9223372036854775807) : (Lit.int .i64 x).wf = true := WalkArith.wf_i64 (by omega)
def dN (L : List Int) (f e w : Int) (n : Nat) : Int := (hitN L f e w n : Int) - misN L f e w n
theorem dN_zero (L : List Int) (f e w : Int) : dN L f e w 0 = 0 := by simp [dN, hitN, misN, rng]
theorem hit_succ (L : List Int) (f e w : Int) (n : Nat) : hitN L f e w (n + 1) = hitN L f e w n + (if (decide (wd7 (f + n) = w) && (cntB f e (f + n) && hasI L (f + n))) = true then 1 else 0) := cnt_succ _ f n
theorem mis_succ (L : List Int) (f e w : Int) (n : Nat) : misN L f e w (n + 1) = misN L f e w n + (if (decide (wd7 (f + n) = w) && (cntB f e (f + n) && !(hasI L (f + n)))) = true then 1 else 0) := cnt_succ _ f n
theorem dN_no {L : List Int} {f e w : Int} {n : Nat} (h : cntB f e (f + n) = false) : dN L f e w (n + 1) = dN L f e w n := by
  unfold dN; rw [hit_succ, mis_succ, h]; simp
theorem dN_other {L : List Int} {f e w : Int} {n : Nat} (h : wd7 (f + n) ≠ w) : dN L f e w (n + 1) = dN L f e w n := by
  unfold dN; rw [hit_succ, mis_succ]; simp [h]
theorem dN_hit {L : List Int} {f e w : Int} {n : Nat} (h : wd7 (f + n) = w) (hc : cntB f e (f + n) = true) (hh : hasI L (f + n) = true) : dN L f e w (n + 1) = dN L f e w n + 1 := by
  unfold dN; rw [hit_succ, mis_succ, hc, hh]; simp [h] <;> omega
theorem dN_mis {L : List Int} {f e w : Int} {n : Nat} (h : wd7 (f + n) = w) (hc : cntB f e (f + n) = true) (hh : hasI L (f + n) = false) : dN L f e w (n + 1) = dN L f e w n - 1 := by
  unfold dN; rw [hit_succ, mis_succ, hc, hh]; simp [h] <;> omega
theorem dN_bd (L : List Int) (f e w : Int) (n : Nat) : -(n : Int) ≤ dN L f e w n ∧ dN L f e w n ≤ n := by
  have h1 : hitN L f e w n ≤ n := cnt_le _ f n
  have h2 : misN L f e w n ≤ n := cnt_le _ f n
  unfold dN; omega
theorem bestB_dN (L : List Int) (f l e w : Int) : bestB L f l e w = decide (0 < dN L f e w (l - f + 1).toNat) := by
  unfold bestB dN; rw [Bool.eq_iff_iff]; simp <;> omega
theorem setN_bd (L : List Int) (f l e : Int) : ∀ w : Nat, 0 ≤ setN L f l e w ∧ setN L f l e w < 2 ^ w
  | 0 => by simp [setN]
  | w + 1 => by
    have ih := setN_bd L f l e w
    have hp : (2 : Int) ^ (w + 1) = 2 ^ w * 2 := by rw [Int.pow_succ]
    simp only [setN, wBit]
    cases bestB L f l e w <;> simp only [cond_true, cond_false] <;> omega
theorem or_pow (k : Int) (i : Nat) (h0 : 0 ≤ k) (h1 : k < 2 ^ i) (hi : i < 7) : bits .or .i64 k (2 ^ i) = k + 2 ^ i := by
  obtain ⟨n, rfl⟩ := Int.eq_ofNat_of_zero_le h0
  have hn : n < 2 ^ i := by exact_mod_cast h1
  have h64 : (2 : Nat) ^ i ≤ 64 := by
    rcases (show i = 0 ∨ i = 1 ∨ i = 2 ∨ i = 3 ∨ i = 4 ∨ i = 5 ∨ i = 6 by omega) with rfl | rfl | rfl | rfl | rfl | rfl | rfl <;> decide
  have e2' : ((2 : Int) ^ i) = ((2 ^ i : Nat) : Int) := by simp
  have hb : (BitVec.ofInt 64 (n : Int) ||| BitVec.ofInt 64 (2 ^ i)).toNat = n + 2 ^ i := by
    rw [BitVec.toNat_or]
    have e1 : (BitVec.ofInt 64 (n : Int)).toNat = n := by simp; omega
    have e2 : (BitVec.ofInt 64 ((2 : Int) ^ i)).toNat = 2 ^ i := by rw [e2']; simp; omega
    have ho := Nat.two_pow_add_eq_or_of_lt hn 1
    rw [Nat.mul_one] at ho
    rw [e1, e2, Nat.or_comm, ← ho, Nat.add_comm]
  show IntKind.i64.wrap (((BitVec.ofInt 64 (n : Int) ||| BitVec.ofInt 64 (2 ^ i)).toNat : Nat) : Int) = _
  rw [hb, IntWalk.i64_in _ (by omega)]
  simp
end Go.Proofs.YtcifdllbnbhcdaaGreatDoor.Rc
namespace Go.Proofs.YtcifdllbnbhcdaaGreatDoor.Rc
open Go.RowKit Go.Maps TT
abbrev cells6 (f l e k : Int) (va vb : Value) : Obj := .cells #[.int .i64 f, .int .i64 l, .int .i64 e, .int .i64 k, va, vb] 37 (0, 0)
structure Bx (w : World) (B base : Nat) (f l e k : Int) (va vb : Value) (X Y : List Int) : Prop where
  hs : w.heap[B]? = some (cells6 f l e k va vb)
  ra : Row w base va X
  rb : Row w base vb Y
  dj : ∀ g, va.ownBlock = some g → vb.ownBlock ≠ some g
  hB : B < base
theorem c6_cells {w : World} {B : Nat} {f l e k : Int} {va vb : Value} (h : w.heap[B]? = some (cells6 f l e k va vb)) :
    w.cell? ⟨B, 0, none⟩ = some (.int .i64 f) ∧ w.cell? ⟨B, 1, none⟩ = some (.int .i64 l) ∧ w.cell? ⟨B, 2, none⟩ = some (.int .i64 e) ∧ w.cell? ⟨B, 3, none⟩ = some (.int .i64 k) ∧
    w.cell? ⟨B, 4, none⟩ = some va ∧ w.cell? ⟨B, 5, none⟩ = some vb ∧ w.frozen? ⟨B, 0, none⟩ = false ∧ w.frozen? ⟨B, 1, none⟩ = false ∧ w.frozen? ⟨B, 2, none⟩ = false ∧ w.frozen? ⟨B, 3, none⟩ = false ∧ w.frozen? ⟨B, 4, none⟩ = false ∧ w.frozen? ⟨B, 5, none⟩ = false ∧ B < w.heap.size := by
  refine ⟨?_, ?_, ?_, ?_, ?_, ?_, ?_, ?_, ?_, ?_, ?_, ?_, lt_of_heap h⟩
  all_goals first | simp [World.cell?, h] | simp [World.frozen?, h]
theorem c6_set3 {w : World} {B : Nat} {f l e k : Int} {va vb : Value} (h : w.heap[B]? = some (cells6 f l e k va vb)) (k' : Int) : (w.setCell ⟨B, 3, none⟩ (.int .i64 k')).heap[B]? = some (cells6 f l e k' va vb) := by
  rw [heap_setCell_same w B 3 _ _ _ h]; rfl
theorem c6_set4 {w : World} {B : Nat} {f l e k : Int} {va vb : Value} (h : w.heap[B]? = some (cells6 f l e k va vb)) (v : Value) : (w.setCell ⟨B, 4, none⟩ v).heap[B]? = some (cells6 f l e k v vb) := by
  rw [heap_setCell_same w B 4 _ _ _ h]; rfl
theorem c6_set5 {w : World} {B : Nat} {f l e k : Int} {va vb : Value} (h : w.heap[B]? = some (cells6 f l e k va vb)) (v : Value) : (w.setCell ⟨B, 5, none⟩ v).heap[B]? = some (cells6 f l e k va v) := by
  rw [heap_setCell_same w B 5 _ _ _ h]; rfl
theorem c6_set1 {w : World} {B : Nat} {f l e k : Int} {va vb : Value} (h : w.heap[B]? = some (cells6 f l e k va vb)) (v : Int) : (w.setCell ⟨B, 1, none⟩ (.int .i64 v)).heap[B]? = some (cells6 f v e k va vb) := by
  rw [heap_setCell_same w B 1 _ _ _ h]; rfl
theorem Bx.grown {w w' : World} {B base : Nat} {f l e k : Int} {va vb : Value} {X Y : List Int} {row : Option Nat} (h : Bx w B base f l e k va vb X Y) (hg : w.grownBy w' row) (h1 : ∀ g, row = some g → g < base ∧ g ≠ B) : Bx w' B base f l e k va vb X Y := by
  refine ⟨(hg.block B (lt_of_heap h.hs) (fun e => (h1 B e.symm).2 rfl)).trans h.hs, h.ra.kept hg ?_, h.rb.kept hg ?_, h.dj, h.hB⟩
  · cases hv : va.ownBlock with
    | none => exact Or.inl rfl
    | some g => exact Or.inr (fun e => by have := h1 g e.symm; have := (h.ra.lt g hv).1; omega)
  · cases hv : vb.ownBlock with
    | none => exact Or.inl rfl
    | some g => exact Or.inr (fun e => by have := h1 g e.symm; have := (h.rb.lt g hv).1; omega)
theorem Bx.grown2 {w w' : World} {B base : Nat} {f l e k : Int} {va vb : Value} {X Y : List Int} {row : Option Nat} (h : Bx w B base f l e k va vb X Y) (hg : w.grownBy w' row) (h1 : ∀ g, row = some g → g ≠ B ∧ va.ownBlock ≠ some g ∧ vb.ownBlock ≠ some g) : Bx w' B base f l e k va vb X Y := by
  refine ⟨(hg.block B (lt_of_heap h.hs) (fun e => (h1 B e.symm).1 rfl)).trans h.hs, h.ra.kept hg ?_, h.rb.kept hg ?_, h.dj, h.hB⟩
  · cases hv : va.ownBlock with
    | none => exact Or.inl rfl
    | some g => exact Or.inr (fun e => (h1 g e.symm).2.1 hv)
  · cases hv : vb.ownBlock with
    | none => exact Or.inl rfl
    | some g => exact Or.inr (fun e => (h1 g e.symm).2.2 hv)
theorem Bx.below {w w' : World} {B base : Nat} {f l e k : Int} {va vb : Value} {X Y : List Int} (h : Bx w B base f l e k va vb X Y) (hb : Below w.heap.size w w') : Bx w' B base f l e k va vb X Y :=
  h.grown (grown_below hb none) (fun g e => by cases e)
theorem Bx.mk0 {w : World} {B base : Nat} {f l e k : Int} (h : w.heap[B]? = some (cells6 f l e k (.slice none 0 0) (.slice none 0 0))) (hB : B < base) : Bx w B base f l e k (.slice none 0 0) (.slice none 0 0) [] [] :=
  ⟨h, World.ownsRow_nil _ _ _ _, World.ownsRow_nil _ _ _ _, (fun g e => by simp [Value.ownBlock] at e), hB⟩
theorem c6_set0 {w : World} {B : Nat} {f l e k : Int} {va vb : Value} (h : w.heap[B]? = some (cells6 f l e k va vb)) (v : Int) : (w.setCell ⟨B, 0, none⟩ (.int .i64 v)).heap[B]? = some (cells6 v l e k va vb) := by
  rw [heap_setCell_same w B 0 _ _ _ h]; rfl
theorem c6_set2 {w : World} {B : Nat} {f l e k : Int} {va vb : Value} (h : w.heap[B]? = some (cells6 f l e k va vb)) (v : Int) : (w.setCell ⟨B, 2, none⟩ (.int .i64 v)).heap[B]? = some (cells6 f l v k va vb) := by
  rw [heap_setCell_same w B 2 _ _ _ h]; rfl
abbrev put6 (w : World) (B : Nat) (f l e k : Int) (va vb : Value) : World :=
  (((((w.setCell ⟨B, 0, none⟩ (.int .i64 f)).setCell ⟨B, 1, none⟩ (.int .i64 l)).setCell ⟨B, 2, none⟩ (.int .i64 e)).setCell ⟨B, 3, none⟩ (.int .i64 k)).setCell ⟨B, 4, none⟩ va).setCell ⟨B, 5, none⟩ vb
theorem c6_all {w : World} {B : Nat} {f0 l0 e0 k0 : Int} {va0 vb0 : Value} (h : w.heap[B]? = some (cells6 f0 l0 e0 k0 va0 vb0)) (f l e k : Int) (va vb : Value) :
    (put6 w B f l e k va vb).heap[B]? = some (cells6 f l e k va vb) := c6_set5 (c6_set4 (c6_set3 (c6_set2 (c6_set1 (c6_set0 h f) l) e) k) va) vb
theorem grownBy_set (w : World) (b i : Nat) (v : Value) : w.grownBy (w.setCell ⟨b, i, none⟩ v) (some b) :=
  ⟨rfl, rfl, rfl, by simp, fun k _ hk => heap_setCell_other _ _ _ _ (fun e => hk (by rw [e]))⟩
theorem grow_two {w w1 w2 : World} {B : Nat} (h : w.grownBy w1 (some B)) (g : w1.grownBy w2 (some B)) : w.grownBy w2 (some B) :=
  ⟨g.os.trans h.os, g.tape.trans h.tape, g.output.trans h.output, Nat.le_trans h.size g.size, fun q hq hne => (g.block q (Nat.lt_of_lt_of_le hq h.size) hne).trans (h.block q hq hne)⟩
theorem grownBy_put6 (w : World) (B : Nat) (f l e k : Int) (va vb : Value) : w.grownBy (put6 w B f l e k va vb) (some B) :=
  grow_two (grow_two (grow_two (grow_two (grow_two (grownBy_set _ B 0 _) (grownBy_set _ B 1 _)) (grownBy_set _ B 2 _)) (grownBy_set _ B 3 _)) (grownBy_set _ B 4 _)) (grownBy_set _ B 5 _)
theorem Bx.appX {w w2 : World} {B base : Nat} {f l e k : Int} {va vb v' : Value} {X Y : List Int} {x : Int} {tmp : Obj} (h : Bx w B base f l e k va vb X Y) (_hb : base ≤ w.heap.size)
    (hown : w2.ownsRow base 3 1 v' (X.length + 1) (X.map (Value.int .i64) ++ [.int .i64 x])) (hg : (w.alloc tmp).grownBy w2 va.ownBlock) (hl : v'.ownBlock = va.ownBlock ∨ v'.ownBlock = some (w.alloc tmp).heap.size) :
    w2.heap[B]? = some (cells6 f l e k va vb) ∧ Bx (w2.setCell ⟨B, 4, none⟩ v') B base f l e k v' vb (X ++ [x]) Y ∧ Below B w (w2.setCell ⟨B, 4, none⟩ v') := by
  have hlt : B < w.heap.size := lt_of_heap h.hs
  have hne : ∀ {v : Value} {L : List Int} {u : World}, Row u base v L → some B ≠ v.ownBlock := fun hr e => by have := (hr.lt B e.symm).1; have := h.hB; omega
  have h2 : w2.heap[B]? = some (cells6 f l e k va vb) := by
    rw [hg.block B (by simp; omega) (hne h.ra), Below.heap_alloc _ _ _ hlt]; exact h.hs
  have hset := c6_set4 h2 v'
  have hX : Row w2 base v' (X ++ [x]) := rowSnoc hown
  have hdj0 : ∀ g, vb.ownBlock = some g → va.ownBlock ≠ some g := fun g e1 e2 => h.dj g e2 e1
  have hY : Row w2 base vb Y := by
    refine (World.ownsRow.alloc h.rb tmp).kept hg ?_
    cases hv : vb.ownBlock with
    | none => exact Or.inl rfl
    | some g => exact Or.inr (fun e => hdj0 g hv e.symm)
  refine ⟨h2, ⟨hset, hX.kept (grownBy_set w2 B 4 v') (Or.inr (hne hX).symm), hY.kept (grownBy_set w2 B 4 v') (Or.inr (hne hY).symm), ?_, h.hB⟩, ?_⟩
  rotate_left
  · refine (((Below.refl B w).alloc (by omega) tmp).grown hg (by simp; omega) (fun j hj => ?_)).setCell (p := ⟨B, 4, none⟩) (Nat.le_refl _) v'
    have := (h.ra.lt j hj).1; have := h.hB; omega
  intro g e1 e2
  rcases hl with e | e
  · rw [e] at e1; exact h.dj g e1 e2
  · rw [e] at e1
    have := (h.rb.lt g e2).2
    simp at e1; omega
theorem Bx.appY {w w2 : World} {B base : Nat} {f l e k : Int} {va vb v' : Value} {X Y : List Int} {x : Int} {tmp : Obj} (h : Bx w B base f l e k va vb X Y) (_hb : base ≤ w.heap.size)
    (hown : w2.ownsRow base 3 1 v' (Y.length + 1) (Y.map (Value.int .i64) ++ [.int .i64 x])) (hg : (w.alloc tmp).grownBy w2 vb.ownBlock) (hl : v'.ownBlock = vb.ownBlock ∨ v'.ownBlock = some (w.alloc tmp).heap.size) :
    w2.heap[B]? = some (cells6 f l e k va vb) ∧ Bx (w2.setCell ⟨B, 5, none⟩ v') B base f l e k va v' X (Y ++ [x]) ∧ Below B w (w2.setCell ⟨B, 5, none⟩ v') := by
  have hlt : B < w.heap.size := lt_of_heap h.hs
  have hne : ∀ {v : Value} {L : List Int} {u : World}, Row u base v L → some B ≠ v.ownBlock := fun hr e => by have := (hr.lt B e.symm).1; have := h.hB; omega
  have h2 : w2.heap[B]? = some (cells6 f l e k va vb) := by
    rw [hg.block B (by simp; omega) (hne h.rb), Below.heap_alloc _ _ _ hlt]; exact h.hs
  have hset := c6_set5 h2 v'
  have hY : Row w2 base v' (Y ++ [x]) := rowSnoc hown
  have hX : Row w2 base va X := by
    refine (World.ownsRow.alloc h.ra tmp).kept hg ?_
    cases hv : va.ownBlock with
    | none => exact Or.inl rfl
    | some g => exact Or.inr (fun e => h.dj g hv e.symm)
  refine ⟨h2, ⟨hset, hX.kept (grownBy_set w2 B 5 v') (Or.inr (hne hX).symm), hY.kept (grownBy_set w2 B 5 v') (Or.inr (hne hY).symm), ?_, h.hB⟩, ?_⟩
  rotate_left
  · refine (((Below.refl B w).alloc (by omega) tmp).grown hg (by simp; omega) (fun j hj => ?_)).setCell (p := ⟨B, 5, none⟩) (Nat.le_refl _) v'
    have := (h.rb.lt j hj).1; have := h.hB; omega
  intro g e1 e2
  rcases hl with e | e
  · rw [e] at e2; exact h.dj g e1 e2
  · rw [e] at e2
    have := (h.ra.lt g e1).2
    simp at e2; omega
end Go.Proofs.YtcifdllbnbhcdaaGreatDoor.Rc
namespace Go.Proofs.YtcifdllbnbhcdaaGreatDoor.Rc
open Go.RowKit Go.Maps TT
structure WA (w wr : World) (f l e k : Int) (va vb : Value) (X Y : List Int) (N : Nat) (L : List Int) : Prop where
  hr : wr.heap[w.heap.size]? = some (cells6 0 0 0 0 (.slice none 0 0) (.slice none 0 0))
  bx : Bx wr (w.heap.size + 1) (w.heap.size + 3) f l e k va vb X Y
  st : SetAt wr (w.heap.size + 2) N L
  bl : Below w.heap.size w wr
  sz : w.heap.size + 3 ≤ wr.heap.size
section
variable {w wr w2 : World} {f l e k : Int} {va vb : Value} {X Y : List Int} {N : Nat} {L : List Int}
theorem WA.next (h : WA w wr f l e k va vb X Y N L) (hb : Below wr.heap.size wr w2) : WA w w2 f l e k va vb X Y N L :=
  ⟨(hb.block _ (lt_of_heap h.hr)).trans h.hr, h.bx.below hb, h.st.below hb, h.bl.trans (hb.mono h.bl.size), Nat.le_trans h.sz hb.size⟩
theorem WA.grown {row : Option Nat} (h : WA w wr f l e k va vb X Y N L) (hg : wr.grownBy w2 row) (h1 : ∀ g, row = some g → w.heap.size + 3 ≤ g ∧ va.ownBlock ≠ some g ∧ vb.ownBlock ≠ some g) : WA w w2 f l e k va vb X Y N L := by
  refine ⟨(hg.block _ (lt_of_heap h.hr) (fun e => by have := (h1 _ e.symm).1; omega)).trans h.hr, h.bx.grown2 hg (fun g e => ⟨by have := (h1 _ e).1; omega, (h1 _ e).2⟩), h.st.kept hg (fun e => by have := (h1 _ e.symm).1; omega), h.bl.grown hg h.bl.size (fun j e => by have := (h1 _ e).1; omega), Nat.le_trans h.sz hg.size⟩
theorem WA.setk (h : WA w wr f l e k va vb X Y N L) (k' : Int) : WA w (wr.setCell ⟨w.heap.size + 1, 3, none⟩ (.int .i64 k')) f l e k' va vb X Y N L := by
  have hne : ∀ {v : Value} {L : List Int} {u : World}, Row u (w.heap.size + 3) v L → some (w.heap.size + 1) ≠ v.ownBlock := fun hr e => by have := (hr.lt _ e.symm).1; omega
  have hg := grownBy_set wr (w.heap.size + 1) 3 (.int .i64 k')
  refine ⟨(hg.block _ (lt_of_heap h.hr) (by simp)).trans h.hr, ⟨c6_set3 h.bx.hs k', h.bx.ra.kept hg (Or.inr (hne h.bx.ra).symm), h.bx.rb.kept hg (Or.inr (hne h.bx.rb).symm), h.bx.dj, h.bx.hB⟩, h.st.kept hg (by simp), h.bl.grown hg h.bl.size (fun j e => by cases e; omega), Nat.le_trans h.sz hg.size⟩
theorem WA.put {D : DataW Unit} {x : Int} {M : List Int} (h : WA w wr f l e k va vb X Y N L) (hm : IsMap D) (ha : ∀ y : Int, (Lit.int .i64 y).wf = true → D.atKey (.int .i64 y) (.lit (.bool false)) = .lit (.bool (hasI M y)))
    (hown : w2.ownsMap Tryz.prog 3 (plainElem Tryz.prog 4) (w.heap.size + 2) (N + 1) (D.put (.int .i64 x) (.lit (.bool true)))) (hg : wr.grownBy w2 (some (w.heap.size + 2))) : WA w w2 f l e k va vb X Y (N + 1) (M ++ [x]) := by
  have hne : ∀ {v : Value} {L : List Int} {u : World}, Row u (w.heap.size + 3) v L → v.ownBlock ≠ some (w.heap.size + 2) := fun hr e => by have := (hr.lt _ e).1; omega
  exact ⟨(hg.block _ (lt_of_heap h.hr) (by simp)).trans h.hr, h.bx.grown2 hg (fun g e => by cases e; exact ⟨by omega, hne h.bx.ra, hne h.bx.rb⟩), SetAt.put hm ha hown, h.bl.grown hg h.bl.size (fun j e => by cases e; omega), Nat.le_trans h.sz hg.size⟩
theorem WA.appX {v' : Value} {x : Int} {tmp : Obj} {w4 : World} (h : WA w wr f l e k va vb X Y N L) (hown : w4.ownsRow (w.heap.size + 3) 3 1 v' (X.length + 1) (X.map (Value.int .i64) ++ [.int .i64 x])) (hg : (wr.alloc tmp).grownBy w4 va.ownBlock) (hl : v'.ownBlock = va.ownBlock ∨ v'.ownBlock = some (wr.alloc tmp).heap.size) :
    w4.heap[w.heap.size + 1]? = some (cells6 f l e k va vb) ∧ WA w (w4.setCell ⟨w.heap.size + 1, 4, none⟩ v') f l e k v' vb (X ++ [x]) Y N L := by
  obtain ⟨q1, q2, q3⟩ := h.bx.appX h.sz hown hg hl
  have hsz := h.sz
  have hlo : ∀ q, q < w.heap.size + 3 → q ≠ w.heap.size + 1 → (w4.setCell ⟨w.heap.size + 1, 4, none⟩ v').heap[q]? = wr.heap[q]? := fun q h1 h2 => by
    rw [heap_setCell_other _ _ _ _ h2, hg.block q (by simp; omega) (fun e => by have := (h.bx.ra.lt q e.symm).1; omega), Below.heap_alloc _ _ _ (by omega)]
  refine ⟨q1, ⟨(hlo _ (by omega) (by omega)).trans h.hr, q2, ?_, h.bl.trans (q3.mono (by omega)), Nat.le_trans hsz q3.size⟩⟩
  obtain ⟨D, ⟨es, ck, hh, r⟩, h2⟩ := h.st
  exact ⟨D, ⟨es, ck, (hlo _ (by omega) (by omega)).trans hh, r⟩, h2⟩
theorem WA.appY {v' : Value} {x : Int} {tmp : Obj} {w4 : World} (h : WA w wr f l e k va vb X Y N L) (hown : w4.ownsRow (w.heap.size + 3) 3 1 v' (Y.length + 1) (Y.map (Value.int .i64) ++ [.int .i64 x])) (hg : (wr.alloc tmp).grownBy w4 vb.ownBlock) (hl : v'.ownBlock = vb.ownBlock ∨ v'.ownBlock = some (wr.alloc tmp).heap.size) :
    w4.heap[w.heap.size + 1]? = some (cells6 f l e k va vb) ∧ WA w (w4.setCell ⟨w.heap.size + 1, 5, none⟩ v') f l e k va v' X (Y ++ [x]) N L := by
  obtain ⟨q1, q2, q3⟩ := h.bx.appY h.sz hown hg hl
  have hsz := h.sz
  have hlo : ∀ q, q < w.heap.size + 3 → q ≠ w.heap.size + 1 → (w4.setCell ⟨w.heap.size + 1, 5, none⟩ v').heap[q]? = wr.heap[q]? := fun q h1 h2 => by
    rw [heap_setCell_other _ _ _ _ h2, hg.block q (by simp; omega) (fun e => by have := (h.bx.rb.lt q e.symm).1; omega), Below.heap_alloc _ _ _ (by omega)]
  refine ⟨q1, ⟨(hlo _ (by omega) (by omega)).trans h.hr, q2, ?_, h.bl.trans (q3.mono (by omega)), Nat.le_trans hsz q3.size⟩⟩
  obtain ⟨D, ⟨es, ck, hh, r⟩, h2⟩ := h.st
  exact ⟨D, ⟨es, ck, (hlo _ (by omega) (by omega)).trans hh, r⟩, h2⟩
end
def More (w : World) (B : Nat) (M : Int → Int) : Prop :=
  w.heap[B]? = some (.cells #[.int .i64 (M 0), .int .i64 (M 1), .int .i64 (M 2), .int .i64 (M 3), .int .i64 (M 4), .int .i64 (M 5), .int .i64 (M 6)] 165 (0, 0))
theorem More.below {w w' : World} {B : Nat} {M : Int → Int} (h : More w B M) (hb : Below w.heap.size w w') : More w' B M := (hb.block B (lt_of_heap h)).trans h
theorem More.cells {w : World} {B : Nat} {M : Int → Int} (h : More w B M) :
    w.cell? ⟨B, 0, none⟩ = some (.int .i64 (M 0)) ∧ w.cell? ⟨B, 1, none⟩ = some (.int .i64 (M 1)) ∧ w.cell? ⟨B, 2, none⟩ = some (.int .i64 (M 2)) ∧ w.cell? ⟨B, 3, none⟩ = some (.int .i64 (M 3)) ∧
    w.cell? ⟨B, 4, none⟩ = some (.int .i64 (M 4)) ∧ w.cell? ⟨B, 5, none⟩ = some (.int .i64 (M 5)) ∧ w.cell? ⟨B, 6, none⟩ = some (.int .i64 (M 6)) := by
  unfold More at h
  refine ⟨?_, ?_, ?_, ?_, ?_, ?_, ?_⟩ <;> simp [World.cell?, h]
theorem More.frozen {w : World} {B : Nat} {M : Int → Int} (h : More w B M) (i : Nat) : w.frozen? ⟨B, i, none⟩ = false := by
  unfold More at h; simp [World.frozen?, h]
theorem More.set {w : World} {B : Nat} {M M' : Int → Int} (h : More w B M) (i : Nat) (hi : i < 7) (v : Int) (hv : M' i = v) (ho : ∀ q : Int, q ≠ i → M' q = M q) : More (w.setCell ⟨B, i, none⟩ (.int .i64 v)) B M' := by
  have e : ∀ q : Int, M' q = if q = (i : Int) then v else M q := fun q => by
    by_cases c : q = (i : Int)
    · rw [if_pos c, c]; exact hv
    · rw [if_neg c]; exact ho q c
  unfold More at h ⊢
  rw [heap_setCell_same w B i _ _ _ h, e 0, e 1, e 2, e 3, e 4, e 5, e 6]
  rcases (show i = 0 ∨ i = 1 ∨ i = 2 ∨ i = 3 ∨ i = 4 ∨ i = 5 ∨ i = 6 by omega) with rfl | rfl | rfl | rfl | rfl | rfl | rfl <;> simp
end Go.Proofs.YtcifdllbnbhcdaaGreatDoor.Rc
