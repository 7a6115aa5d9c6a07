/- Series: the days of a series, of the program (the walk). -/
import Derived.Test.YtibigbfkokendaaGreatDoorR8
namespace Go.Proofs.YtibigbfkokendaaGreatDoor
open Go.RowKit Go.Shelf TT
attribute [local go_sem] Oper.semAt_some

theorem days_no (f l e k : Int) (a : Option Addr) (n c : Nat) (b : Option Addr) (m q : Nat) (xs ys : List Int) (w : World) (hx : IntsAt w a n xs) (hy : IntsAt w b m ys) (hs : n + m ≤ 9223372036854775807) (hv : vlE f l e k xs ys ≠ 0) :
    Calls Tryz.prog 18 #[serV f l e k a n c b m q] w (DaysP (daysO f l e k xs ys) w) := by
  have HS := Lib.hid (SC.mk0 (w := w) (f := f) (l := l) (e := e) (k := k) (c := c) (q := q) 24 hx hy)
  clear hx hy
  have hd : Hid (daysO f l e k xs ys = []) := Lib.hid (by unfold daysO; rw [if_neg hv])
  have hv' : (vlE f l e k xs ys != 0) = true := by simpa using hv
  clear hv
  go_enter Tryz.func18, Tryz.ntmps18
  go_wp2_with fail
  obtain ⟨c0, c1, c2, c3, c4, c5, _, _, sz, _⟩ := HS.out
  go_wp2_with (go_at_call 21; refine (valid_any f l e k a n c b m q xs ys _ HS.out.xa HS.out.ya hs).mono ?_; rintro e w1 ⟨rfl, hb⟩)
  go_ret
  exact ⟨_, rfl, by rw [hd.out]; exact World.ownsRow_nil _ _ _ _, (HS.out.next hb).bl⟩

/-- the list that the program collects -/
def colL (xs ys pre : List Int) : List Int := ys ++ pre.filter (fun d => !(hasI xs d))
theorem colL_hit {xs ys pre : List Int} {x : Int} (h : hasI xs x = false) : colL xs ys (pre ++ [x]) = colL xs ys pre ++ [x] := by simp [colL, h]
theorem colL_miss {xs ys pre : List Int} {x : Int} (h : hasI xs x = true) : colL xs ys (pre ++ [x]) = colL xs ys pre := by simp [colL, h]
theorem colL_len (xs ys pre : List Int) : (colL xs ys pre).length ≤ ys.length + pre.length := by
  unfold colL; rw [List.length_append]; have := List.length_filter_le (fun d => !(hasI xs d)) pre; omega

/-- a block of cells of another type is no row of integers -/
theorem not_row {W : World} {B base size k : Nat} {T e : TypeId} {cs : Array Value} {fr : Nat × Nat} {v : Value} {xs : List Value} (h : W.heap[B]? = some (.cells cs T fr)) (hte : T ≠ e) (hr : W.ownsRow base e size v k xs) : some B ≠ v.ownBlock := by
  rcases hr.2 with ⟨rfl, _⟩ | ⟨g, cap, cur, rfl, _, hgb, _⟩
  · simp [Value.ownBlock]
  · intro e'
    obtain rfl : B = g := by simpa [Value.ownBlock] using e'
    rw [hgb] at h
    simp only [Option.some.injEq, Obj.cells.injEq] at h
    exact hte h.2.1.symm

set_option maxRecDepth 100000 in
set_option maxHeartbeats 4000000 in
theorem days_yes (f l e k : Int) (a : Option Addr) (n c : Nat) (b : Option Addr) (m q : Nat) (xs ys : List Int) (w : World) (hx : IntsAt w a n xs) (hy : IntsAt w b m ys) (hv : vlE f l e k xs ys = 0) :
    Calls Tryz.prog 18 #[serV f l e k a n c b m q] w (DaysP (daysO f l e k xs ys) w) := by
  have HS := Lib.hid (SC.mk0 (w := w) (f := f) (l := l) (e := e) (k := k) (c := c) (q := q) 24 hx hy)
  have hd : Hid (daysO f l e k xs ys = daysS f l e k xs ys) := Lib.hid (by unfold daysO; rw [if_pos hv])
  obtain ⟨hv0, _⟩ := vlE_inv hv
  obtain ⟨o1, o2, h3, h4, e1, e2, k1, k2, hsz⟩ := vl0_inv hv0
  obtain ⟨f1, f2⟩ := okDay_of o1
  obtain ⟨l1, l2⟩ := okDay_of o2
  have hnm : n + m ≤ 140 := by have := hx.len; have := hy.len; omega
  have hly := Lib.hid hy.len
  have HV := Lib.hid hv
  have hv' : (vlE f l e k xs ys != 0) = false := by simpa using hv
  clear hv o1 o2 hv0 hsz hx hy
  obtain ⟨i0, hi, hz0, hz1, hz2⟩ := info_parts Tryz.infoInt
  have HI0 := Lib.hid hi; have HZ0 := Lib.hid hz0; have HZ1 := Lib.hid hz1; have HZ2 := Lib.hid hz2
  clear hi hz0 hz1 hz2
  refine (callsIn_wide (n := 3)).1 ?_
  refine callsIn_of_wp_marks Tryz.func18 rfl trivial ?_ rfl
  simp only [Tryz.ntmps18, List.size_toArray, List.length_cons, List.length_nil, Nat.reduceAdd, Nat.reduceSub, Array.replicate_succ, Array.replicate_zero, List.push_toArray, List.append_toArray, List.nil_append, List.cons_append]
  obtain ⟨c0, c1, c2, c3, c4, c5, _, _, sz, _⟩ := HS.out
  gi_wp2_with fail
  refine ⟨trivial, ?_⟩
  refine (callsIn_wide.2 (valid_any f l e k a n c b m q xs ys _ HS.out.xa HS.out.ya (by omega))).mono ?_
  rintro en w1 ⟨rfl, hb⟩
  have HS1 := Lib.hid (HS.out.next hb)
  clear c0 c1 c2 c3 c4 c5 sz HS hb
  obtain ⟨c0, c1, c2, c3, c4, c5, _, _, sz, _⟩ := HS1.out
  gi_wp2_with fail
  refine ⟨trivial, ?_⟩
  refine (callsIn_wide.2 (clone_any ys b m q _ HS1.out.ya (by omega))).mono ?_
  rintro en w2 ⟨a2, q2, rfl, hrow, hb2⟩
  have HS2 := Lib.hid (HS1.out.next hb2)
  have HR := Lib.hid hrow
  have HB2 := Lib.hid hb2
  clear c0 c1 c2 c3 c4 c5 sz hrow hb2
  obtain ⟨c0, c1, c2, c3, c4, c5, _, _, sz, _⟩ := HS2.out
  gi_wp2_with fail
  refine ⟨trivial, ?_⟩
  refine (callsIn_wide.2 (regs_any f l e k a n c b m q _)).mono ?_
  rintro en w3 ⟨rfl, rfl⟩
  gi_wp2_with fail
  obtain ⟨W0, hW0⟩ : ∃ W0, ((w2.alloc (.cells #[.slice a2 m q2] 22)).alloc (.cells #[.int .i64 f, .int .i64 l, .int .i64 e, .int .i64 k, .slice a n c, .slice b m q] 24)) = W0 := ⟨_, rfl⟩
  rw [hW0]
  have hsz0 : W0.heap.size = w2.heap.size + 2 := by rw [← hW0]; simp
  have hBox : Boxed W0 w2.heap.size 22 (.slice a2 m q2) := by rw [← hW0]; exact (Boxed.new w2 22 _).alloc _
  have hBs : W0.heap[w2.heap.size + 1]? = some (.cells #[.int .i64 f, .int .i64 l, .int .i64 e, .int .i64 k, .slice a n c, .slice b m q] 24 (0, 0)) := by
    rw [← hW0]; have := World.alloc_heap_new (w2.alloc (.cells #[.slice a2 m q2] 22)) (.cells #[.int .i64 f, .int .i64 l, .int .i64 e, .int .i64 k, .slice a n c, .slice b m q] 24); rw [World.size_alloc] at this; exact this
  have hS6 : S6 W0 (w2.heap.size + 1) f l e k a n c b m q := by
    rw [← hW0]; have := S6.mk0 (w2.alloc (.cells #[.slice a2 m q2] 22)) 24 f l e k a n c b m q; rw [World.size_alloc] at this; exact this
  have hRow : Row W0 w1.heap.size (.slice a2 m q2) ys := by rw [← hW0]; exact World.ownsRow.alloc (World.ownsRow.alloc HR.out _) _
  have hB2s := HB2.out.size
  have hBl : Below w1.heap.size w1 W0 := by rw [← hW0]; exact (HB2.out.alloc hB2s _).alloc (by simp; omega) _
  clear hW0 c0 c1 c2 c3 c4 c5 sz
  have HS6 := Lib.hid hS6
  have HBL := Lib.hid hBl
  have HXA := Lib.hid HS1.out.xa
  have HC4 := Lib.hid HS1.out.c4
  have hw1 := HS1.out.sz
  refine wpIn_rangeFunc_ownG rfl (by omega) (gf := 59) (lb := #[.pointer (some ⟨w2.heap.size + 1, 0, none⟩)]) rfl trivial (enters_of Tryz.func59 (by kernel_rfl) rfl)
    (regs_stops (w2.heap.size + 1) f l e k a n c b m q f1 h3 l2 h4 e1 e2 k1 k2 W0 HS6.out) KpB.t (KpB.b (by omega)) (Below.refl _ _) (fun _ => rfl)
    (fun pre W => (∃ v, Boxed W w2.heap.size 22 v ∧ W.ownsRow w1.heap.size 3 1 v (colL xs ys pre).length ((colL xs ys pre).map (Value.int .i64)) ∧ True) ∧ (Below w1.heap.size w1 W ∧ W.heap[w2.heap.size + 1]? = some (.cells #[.int .i64 f, .int .i64 l, .int .i64 e, .int .i64 k, .slice a n c, .slice b m q] 24 (0, 0))))
    (fun _ _ _ => False)
    (OwnFrom.and (Own.from (holdsRow_own w1.heap.size w2.heap.size 22 3 1 (fun pre => (colL xs ys pre).length) (fun pre => (colL xs ys pre).map (Value.int .i64)) (fun _ _ => True)) _)
      (OwnFrom.and (ownFrom_below (Nat.le_refl _) (by omega)) (fun s X Y row hs hg hr => (hg.block _ (Array.getElem?_eq_some_iff.1 hs).1 (fun ee => by obtain ⟨_, o, ho, hc⟩ := hr _ ee.symm; rw [hs] at ho; cases ho; cases hc)).trans hs)))
    (fun _ _ _ _ _ hs _ _ => hs)
    ⟨⟨_, hBox, by simpa [colL] using hRow, trivial⟩, hBl, hBs⟩
    (fun x => { tmps := #[serV f l e k a n c b m q, .pointer (some ⟨w.heap.size, 0, none⟩), .slice none 0 0, .pointer (some ⟨w2.heap.size, 0, none⟩), .int .i64 x, .agg #[.int .i64 f, .int .i64 l, .int .i64 e, .int .i64 k, .slice a n c, .slice b m q], .int .i64 (vlE f l e k xs ys), .bool false, .pointer (some ⟨w.heap.size, 5, none⟩), .slice b m q, .slice a2 m q2, .agg #[.int .i64 f, .int .i64 l, .int .i64 e, .int .i64 k, .slice a n c, .slice b m q], .func (.func 59) #[] #[.pointer (some ⟨w2.heap.size + 1, 0, none⟩)], .int .i64 x, undef, undef, undef, undef, undef, undef, undef, undef, undef, undef, undef, undef], defers := [] }) ?assign ?body ?done ?stop
  case assign =>
    intro lp x W K hK
    gi_wp2
    exact hK
  case body =>
    rintro lp pre x W ⟨⟨v, hv, hrow, _⟩, hB, hBsW⟩ hlt
    have hc := hv.cell
    have c4 : W.cell? ⟨w.heap.size, 4, none⟩ = some (.slice a n c) := (hB.cell (p := ⟨w.heap.size, 4, none⟩) hw1).trans HC4.out
    have XA := Lib.hid (HXA.out.below hB)
    have hcl := colL_len xs ys pre
    have hyl : ys.length ≤ 140 := by have := hly.out; omega
    have HB := Lib.hid hB
    have HBs := Lib.hid hBsW
    have HV := Lib.hid hv
    have HR1 := Lib.hid hrow
    have hBz := hB.size
    clear hB hBsW
    cases hh : hasI xs x
    · have hL : Hid (colL xs ys (pre ++ [x]) = colL xs ys pre ++ [x]) := Lib.hid (colL_hit hh)
      generalize colL xs ys pre = L at *
      gi_wp2_with (first
        | (refine ⟨trivial, ?_⟩; gi_at_call 40; refine (CallsIn.inRound lp (callsIn_wide.2 (contains_any xs a n c x _ XA.out))).mono ?_; rintro en w9 ⟨rfl, rfl⟩; rw [hh])
        | (gi_at_builtin; refine wpListIn_append_own _ rfl _ _ 22 rfl w1.heap.size 3 i0 (.int .i64 0) 1 8 Tryz.underlying22 HI0.out HZ0.out HZ1.out HZ2.out rfl (by decide) _ _ _ rfl (HR1.out.alloc _) ⟨W.heap.size, 0, none⟩ 1 1 [.int .i64 x] rfl rfl (cell_one_new _ _ _) (by simp [Value.oneCell']) (by unfold maxLen; omega) (by omega) (by simp; omega) ?_; intro v' w4 hown' hgrow _; have HG := Lib.hid hgrow; obtain ⟨g', cap', rfl⟩ := ownsRow_succ hown'; obtain ⟨hv1, hv2, hr2, hk2, hb2'⟩ := HV.out.appended (by decide) HR1.out hBz (by omega) hown' hgrow; have hc1 := hv1.cell; have hf1 := hv1.frozen))
      have hkp : KpB (w2.heap.size + 1) W (w4.setCell ⟨w2.heap.size, 0, none⟩ (.slice (some ⟨g', 0, none⟩) (L.length + 1) cap')) := by
        have hlt1 : w2.heap.size + 1 < W.heap.size := (Array.getElem?_eq_some_iff.1 HBs.out).1
        refine ⟨(Below.heap_setCell _ _ _ _ (by simp)).trans ?_, hk2.size⟩
        rw [HG.out.block _ (by simp; omega) (not_row HBs.out (by decide) HR1.out)]
        exact Below.heap_alloc _ _ _ hlt1
      exact ⟨hk2.from _, hkp, ⟨_, hv2, by rw [hL.out]; simpa using hr2, trivial⟩, HB.out.trans hb2', hkp.1.trans HBs.out⟩
    · have hL : Hid (colL xs ys (pre ++ [x]) = colL xs ys pre) := Lib.hid (colL_miss hh)
      generalize colL xs ys pre = L at *
      gi_wp2_with (refine ⟨trivial, ?_⟩; gi_at_call 40; refine (CallsIn.inRound lp (callsIn_wide.2 (contains_any xs a n c x _ XA.out))).mono ?_; rintro en w9 ⟨rfl, rfl⟩; rw [hh])
      exact ⟨KeepsFrom.refl _ _, ⟨rfl, Nat.le_refl _⟩, ⟨v, HV.out, by rw [hL.out]; exact HR1.out, trivial⟩, HB.out, HBs.out⟩
  case done =>
    rintro D ys' W hD rfl ⟨⟨v, hv, hrow, _⟩, hB, hBsW⟩ hK
    have hfin := Lib.hid (days_fin HV.out)
    have hlenL : (colL xs ys ((dayR f l).filter (regB f l e k))).length ≤ 300 := by
      have h1 := colL_len xs ys ((dayR f l).filter (regB f l e k))
      have h2 := filter_len (regB f l e k) f (l - f + 1).toNat
      unfold dayR at h1 ⊢
      have := hly.out
      omega
    obtain ⟨a5, q5, rfl⟩ := row_shape hrow
    have hc := hv.cell
    have HVV := Lib.hid hv
    have HR1 := Lib.hid hrow
    have HB := Lib.hid hB
    have HK := Lib.hid hK
    have hfin2 : Hid (((colL xs ys ((dayR f l).filter (regB f l e k))).mergeSort fun x y => decide (x ≤ y)) = daysS f l e k xs ys) := Lib.hid hfin.out
    clear hv hrow hB hBsW hK hfin
    generalize colL xs ys ((dayR f l).filter (regB f l e k)) = L at *
    gi_wp2_with fail
    refine ⟨trivial, ?_⟩
    refine (callsIn_wide.2 (sort_any w1.heap.size a5 q5 L W HR1.out (by omega))).mono ?_
    rintro en w6 ⟨rfl, hrow6, hg6⟩
    have hb6 : Boxed w6 w2.heap.size 22 (.slice a5 L.length q5) := HVV.out.kept hg6 (HVV.out.not_row (by decide) HR1.out)
    have hc6 := hb6.cell
    have hk6 : w6.heap[D]? = some (.deferred (some [])) := by
      refine (hg6.block D (Array.getElem?_eq_some_iff.1 HK.out).1 (fun ee => ?_)).trans HK.out
      rcases HR1.out.2 with ⟨hz, _⟩ | ⟨g, cap, cur, hz, _, hgb, _⟩
      · rw [hz] at ee; simp [Value.ownBlock] at ee
      · rw [hz] at ee
        obtain rfl : D = g := by simpa [Value.ownBlock] using ee
        rw [HK.out] at hgb; cases hgb
    have hB6 : Below w1.heap.size w1 w6 := HB.out.grown hg6 HB.out.size (fun j hj => (HR1.out.lt j hj).1)
    have HR6 := Lib.hid hrow6
    have HK6 := Lib.hid hk6
    have HB6 := Lib.hid hB6
    clear hrow6 hg6 hk6 hB6 hb6 hc
    gi_wp2
    refine ⟨by simp, .inl ⟨_, _, rfl, run_takeDeferred HK6.out, ?_⟩⟩
    have hwb : Below w.heap.size w w1 := HS1.out.bl
    refine ⟨_, results_tmp rfl _ _ _, _, rfl, ?_, ?_⟩
    · rw [hd.out, ← hfin2.out]
      have hl : (L.mergeSort fun x y => decide (x ≤ y)).length = L.length := by simp
      exact row_base (ownsRow_putObj HR6.out _ HK6.out rfl) hwb.size
    · exact hwb.trans ((HB6.out.mono hwb.size).trans (belowK_b (w := w) (Nat.le_refl _) w6 D _ _ (by omega) HK6.out rfl rfl))
  case stop =>
    rintro D c pre W _ _ h _
    exact h.elim

theorem days_any (f l e k : Int) (a : Option Addr) (n c : Nat) (b : Option Addr) (m q : Nat) (xs ys : List Int) (w : World) (hx : IntsAt w a n xs) (hy : IntsAt w b m ys) (hs : n + m ≤ 9223372036854775807) :
    Calls Tryz.prog 18 #[serV f l e k a n c b m q] w (DaysP (daysO f l e k xs ys) w) := by
  by_cases hv : vlE f l e k xs ys = 0
  · exact days_yes f l e k a n c b m q xs ys w hx hy hv
  · exact days_no f l e k a n c b m q xs ys w hx hy hs hv

end Go.Proofs.YtibigbfkokendaaGreatDoor
