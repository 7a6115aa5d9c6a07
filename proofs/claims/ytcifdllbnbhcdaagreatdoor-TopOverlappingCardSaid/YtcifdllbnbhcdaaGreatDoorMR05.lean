/- Texts R14, R15, R16, R17, R18, joined: walks and laws. -/
import Derived.Test.YtcifdllbnbhcdaaGreatDoorMR04
set_option linter.unusedSimpArgs false
set_option linter.unusedVariables false
namespace Go.Proofs.YtcifdllbnbhcdaaGreatDoor.Rc
open Go.RowKit Go.Maps TT
structure WR (w wr : World) (f l e k : Int) (va vb : Value) (X Y : List Int) : Prop where
  hr : wr.heap[w.heap.size]? = some (cells6 0 0 0 0 (.slice none 0 0) (.slice none 0 0))
  bx : Bx wr (w.heap.size + 1) (w.heap.size + 2) f l e k va vb X Y
  bl : Below w.heap.size w wr
  sz : w.heap.size + 2 ≤ wr.heap.size
section
variable {w wr w2 : World} {f l e k : Int} {va vb : Value} {X Y : List Int}
theorem WR.next (h : WR w wr f l e k va vb X Y) (hb : Below wr.heap.size wr w2) : WR w w2 f l e k va vb X Y :=
  ⟨(hb.block _ (lt_of_heap h.hr)).trans h.hr, h.bx.below hb, h.bl.trans (hb.mono h.bl.size), Nat.le_trans h.sz hb.size⟩
theorem WR.appX {v' : Value} {x : Int} {tmp : Obj} {w4 : World} (h : WR w wr f l e k va vb X Y) (hown : w4.ownsRow (w.heap.size + 2) 3 1 v' (X.length + 1) (X.map (Value.int .i64) ++ [.int .i64 x])) (hg : (wr.alloc tmp).grownBy w4 va.ownBlock) (hl : v'.ownBlock = va.ownBlock ∨ v'.ownBlock = some (wr.alloc tmp).heap.size) :
    w4.heap[w.heap.size + 1]? = some (cells6 f l e k va vb) ∧ WR w (w4.setCell ⟨w.heap.size + 1, 4, none⟩ v') f l e k v' vb (X ++ [x]) Y := by
  obtain ⟨q1, q2, q3⟩ := h.bx.appX h.sz hown hg hl
  have hsz := h.sz
  have hlo : ∀ q, q < w.heap.size + 2 → q ≠ w.heap.size + 1 → (w4.setCell ⟨w.heap.size + 1, 4, none⟩ v').heap[q]? = wr.heap[q]? := fun q h1 h2 => by
    rw [heap_setCell_other _ _ _ _ h2, hg.block q (by simp; omega) (fun e => by have := (h.bx.ra.lt q e.symm).1; omega), Below.heap_alloc _ _ _ (by omega)]
  exact ⟨q1, ⟨(hlo _ (by omega) (by omega)).trans h.hr, q2, h.bl.trans (q3.mono (by omega)), Nat.le_trans hsz q3.size⟩⟩
theorem WR.appY {v' : Value} {x : Int} {tmp : Obj} {w4 : World} (h : WR w wr f l e k va vb X Y) (hown : w4.ownsRow (w.heap.size + 2) 3 1 v' (Y.length + 1) (Y.map (Value.int .i64) ++ [.int .i64 x])) (hg : (wr.alloc tmp).grownBy w4 vb.ownBlock) (hl : v'.ownBlock = vb.ownBlock ∨ v'.ownBlock = some (wr.alloc tmp).heap.size) :
    w4.heap[w.heap.size + 1]? = some (cells6 f l e k va vb) ∧ WR w (w4.setCell ⟨w.heap.size + 1, 5, none⟩ v') f l e k va v' X (Y ++ [x]) := by
  obtain ⟨q1, q2, q3⟩ := h.bx.appY h.sz hown hg hl
  have hsz := h.sz
  have hlo : ∀ q, q < w.heap.size + 2 → q ≠ w.heap.size + 1 → (w4.setCell ⟨w.heap.size + 1, 5, none⟩ v').heap[q]? = wr.heap[q]? := fun q h1 h2 => by
    rw [heap_setCell_other _ _ _ _ h2, hg.block q (by simp; omega) (fun e => by have := (h.bx.rb.lt q e.symm).1; omega), Below.heap_alloc _ _ _ (by omega)]
  exact ⟨q1, ⟨(hlo _ (by omega) (by omega)).trans h.hr, q2, h.bl.trans (q3.mono (by omega)), Nat.le_trans hsz q3.size⟩⟩
end
end Go.Proofs.YtcifdllbnbhcdaaGreatDoor.Rc
namespace Go.Proofs.YtcifdllbnbhcdaaGreatDoor.Rc
open Go.RowKit Go.Maps TT
structure WW (w wr : World) (B : Nat) (f l e k : Int) : Prop where
  hs : wr.heap[B]? = some (cells6 f l e k (.slice none 0 0) (.slice none 0 0))
  bl : Below w.heap.size w wr
theorem WW.next {w wr w2 : World} {B : Nat} {f l e k : Int} (h : WW w wr B f l e k) (hb : Below wr.heap.size wr w2) : WW w w2 B f l e k :=
  ⟨(hb.block _ (lt_of_heap h.hs)).trans h.hs, h.bl.trans (hb.mono h.bl.size)⟩
end Go.Proofs.YtcifdllbnbhcdaaGreatDoor.Rc
namespace Go.Proofs.YtcifdllbnbhcdaaGreatDoor.Rc
open Go.RowKit Go.Maps TT
def OfP (L : List Int) (w : World) (en : Ending) (w' : World) : Prop :=
  ∃ a c b q, en = .returned (.tuple #[serV (ofF L) (ofL L) (ofEv L) (ofK L) a (ofX L).length c b (ofY L).length q, .int .i64 (ofE L)]) ∧ IntsAt w' a (ofX L).length (ofX L) ∧ IntsAt w' b (ofY L).length (ofY L) ∧ Below w.heap.size w w'
theorem of_no {L : List Int} (h : ofE L ≠ 0) : ofF L = 0 ∧ ofL L = 0 ∧ ofEv L = 0 ∧ ofK L = 0 ∧ ofX L = [] ∧ ofY L = [] := by
  unfold ofF ofL ofEv ofK ofX ofY; simp only [if_neg h, and_self]
theorem ofP_no {L : List Int} {v : Int} {w w' : World} (h : v = ofE L) (hv : v ≠ 0) (hb : Below w.heap.size w w') :
    OfP L w (.returned (.tuple #[serV 0 0 0 0 none 0 0 none 0 0, .int .i64 v])) w' := by
  obtain ⟨h1, h2, h3, h4, h5, h6⟩ := of_no (L := L) (by rw [← h]; exact hv)
  refine ⟨none, 0, none, 0, ?_, ?_, ?_, hb⟩
  · rw [h1, h2, h3, h4, h5, h6, h]; rfl
  · rw [h5]; exact ⟨rfl, by simp, Or.inl rfl⟩
  · rw [h6]; exact ⟨rfl, by simp, Or.inl rfl⟩
theorem ofE_empty {L : List Int} (h : L.length = 0) : 16 = ofE L := by unfold ofE; rw [if_pos h]
theorem ofE_lst {L : List Int} {v : Int} (h0 : L.length ≠ 0) (h : lstE none L = v) (hv : v ≠ 0) : v = ofE L := by unfold ofE; rw [if_neg h0, if_pos (by rw [h]; exact hv), h]
theorem ofE_rng {L : List Int} (h0 : L.length ≠ 0) (h : lstE none L = 0) (h2 : fstD L + 140 < lstD L) : 3 = ofE L := by unfold ofE; rw [if_neg h0, if_neg (by simp [h]), if_pos h2]
theorem ofE_ok {L : List Int} (h0 : L.length ≠ 0) (h : lstE none L = 0) (h2 : ¬ fstD L + 140 < lstD L) : ofE L = 0 := by unfold ofE; rw [if_neg h0, if_neg (by simp [h]), if_neg h2]
structure OW (w wr : World) (a : Option Addr) (n : Nat) (L : List Int) : Prop where
  hr : wr.heap[w.heap.size]? = some (cells6 0 0 0 0 (.slice none 0 0) (.slice none 0 0))
  il : IntsAt wr a n L
  bl : Below w.heap.size w wr
theorem OW.next {w wr w2 : World} {a : Option Addr} {n : Nat} {L : List Int} (h : OW w wr a n L) (hb : Below wr.heap.size wr w2) : OW w w2 a n L :=
  ⟨(hb.block _ (lt_of_heap h.hr)).trans h.hr, h.il.below hb, h.bl.trans (hb.mono h.bl.size)⟩
theorem OW.mk0 {w : World} {a : Option Addr} {n : Nat} {L : List Int} (h : IntsAt w a n L) : OW w (w.alloc (.cells #[.int .i64 0, .int .i64 0, .int .i64 0, .int .i64 0, .slice none 0 0, .slice none 0 0] 37)) a n L := by
  have hb : Below w.heap.size w (w.alloc (.cells #[.int .i64 0, .int .i64 0, .int .i64 0, .int .i64 0, .slice none 0 0, .slice none 0 0] 37)) := (Below.refl _ _).alloc (Nat.le_refl _) _
  exact ⟨World.alloc_heap_new w _, h.below hb, hb⟩
theorem OW.put {w wr : World} {a : Option Addr} {n : Nat} {L : List Int} (h : OW w wr a n L) (f l e k : Int) (va vb : Value) :
    (put6 wr w.heap.size f l e k va vb).heap[w.heap.size]? = some (cells6 f l e k va vb) ∧ wr.grownBy (put6 wr w.heap.size f l e k va vb) (some w.heap.size) ∧ Below w.heap.size w (put6 wr w.heap.size f l e k va vb) :=
  ⟨c6_all h.hr _ _ _ _ _ _, grownBy_put6 .., h.bl.grown (grownBy_put6 ..) h.bl.size (fun q hq => by cases hq; exact Nat.le_refl _)⟩
end Go.Proofs.YtcifdllbnbhcdaaGreatDoor.Rc
namespace Go.Proofs.YtcifdllbnbhcdaaGreatDoor.Rc
open Go.RowKit Go.Maps TT
theorem len_days {L : List Int} (h1 : Inc L) (h0 : L.length ≠ 0) : (L.length : Int) ≤ lstD L - fstD L + 1 := by
  have hs := inc_self h1 (fun x hx => inc_bounds h1 hx)
  have hl := List.length_filter_le (hasI L) (dayR (fstD L) (lstD L))
  rw [hs, dayR, rng_len] at hl
  have := (inc_bounds h1 (mem_fst h0).2).1
  omega
def bK (L : List Int) (m : Nat) : Int := setS L (fstD L) (lstD L) (bstE L m)
def bX (L : List Int) (m : Nat) : List Int := wX L (fstD L) (lstD L) (bstE L m) (bK L m)
def bY (L : List Int) (m : Nat) : List Int := wY2 L (fstD L) (lstD L) (bstE L m) (bK L m)
theorem bst_cost (L : List Int) (m : Nat) : costS L (bstE L m) = (bX L m).length + (bY L m).length := rfl
theorem bst_hit {L : List Int} {m : Nat} {ev : Int} (h : ev = (m : Int) + 2) (hc : costS L ev < costS L (bstE L m)) : bstE L (m + 1) = ev := by
  simp only [bstE]; rw [← h, if_pos hc]
theorem bst_miss {L : List Int} {m : Nat} {ev : Int} (h : ev = (m : Int) + 2) (hc : ¬ costS L ev < costS L (bstE L m)) : bstE L (m + 1) = bstE L m := by
  simp only [bstE]; rw [← h, if_neg hc]
theorem wlen (L : List Int) (f l e k : Int) (h : l ≤ f + 140) : (wX L f l e k).length ≤ 141 ∧ (wY2 L f l e k).length ≤ 141 := by
  have h1 := filter_len (excX L f l e k) f (l - f + 1).toNat
  have h2 := filter_len (excY L f l e k) f (l - f + 1).toNat
  unfold wX wY2 dayR; omega
def SBox (w : World) (B : Nat) (f l e k : Int) (X Y : List Int) : Prop :=
  ∃ a c b q, w.heap[B]? = some (cells6 f l e k (.slice a X.length c) (.slice b Y.length q)) ∧ Row w (B + 1) (.slice a X.length c) X ∧ Row w (B + 1) (.slice b Y.length q) Y
theorem SBox.grown {w w2 : World} {B : Nat} {f l e k : Int} {X Y : List Int} {row : Option Nat} (h : SBox w B f l e k X Y) (hg : w.grownBy w2 row) (h1 : ∀ g, row = some g → g < B) : SBox w2 B f l e k X Y := by
  obtain ⟨a, c, b, q, h2, h3, h4⟩ := h
  have key : ∀ {v : Value} {L : List Int}, Row w (B + 1) v L → Row w2 (B + 1) v L := fun hr => hr.kept hg (by
    rcases hv : Value.ownBlock _ with _ | g
    · exact Or.inl rfl
    · exact Or.inr (fun e => by have := (hr.lt _ hv).1; have := h1 g e.symm; omega))
  exact ⟨a, c, b, q, (hg.block _ (lt_of_heap h2) (fun e => by have := h1 _ e.symm; omega)).trans h2, key h3, key h4⟩
theorem SBox.below {w w2 : World} {B : Nat} {f l e k : Int} {X Y : List Int} (h : SBox w B f l e k X Y) (hb : Below w.heap.size w w2) : SBox w2 B f l e k X Y := h.grown (grown_below hb none) (fun g e => by cases e)
theorem SBox.lt {w : World} {B : Nat} {f l e k : Int} {X Y : List Int} (h : SBox w B f l e k X Y) : B < w.heap.size := by obtain ⟨a, c, b, q, h1, _⟩ := h; exact lt_of_heap h1
theorem SBox.put {w : World} {B : Nat} {f0 l0 e0 k0 : Int} {va vb : Value} (h : w.heap[B]? = some (cells6 f0 l0 e0 k0 va vb)) {f l e k : Int} {X Y : List Int} {a b : Option Addr} {c q : Nat} (h1 : Row w (B + 1) (.slice a X.length c) X) (h2 : Row w (B + 1) (.slice b Y.length q) Y) :
    SBox (put6 w B f l e k (.slice a X.length c) (.slice b Y.length q)) B f l e k X Y := by
  have hg := grownBy_put6 w B f l e k (.slice a X.length c) (.slice b Y.length q)
  have key : ∀ {v : Value} {L : List Int}, Row w (B + 1) v L → Row (put6 w B f l e k (.slice a X.length c) (.slice b Y.length q)) (B + 1) v L := fun hr => hr.kept hg (by
    rcases hv : Value.ownBlock _ with _ | g
    · exact Or.inl rfl
    · exact Or.inr (fun e => by have := (hr.lt _ hv).1; cases e; omega))
  exact ⟨a, c, b, q, c6_all h _ _ _ _ _ _, key h1, key h2⟩
theorem OW.grown {w wr w2 : World} {a : Option Addr} {n : Nat} {L : List Int} {g : Nat} (h : OW w wr a n L) (hi : ∀ b off, a = some ⟨b, off, none⟩ → b < w.heap.size) (hg : wr.grownBy w2 (some g)) (hb : w.heap.size < g) : OW w w2 a n L := by
  refine ⟨(hg.block _ (lt_of_heap h.hr) (fun e => by cases e; omega)).trans h.hr, ?_, h.bl.grown hg h.bl.size (fun q e => by cases e; omega)⟩
  obtain ⟨h1, h3, h2⟩ := h.il
  refine ⟨h1, h3, ?_⟩
  rcases h2 with h2 | ⟨b, off, ha, hc⟩
  · exact Or.inl h2
  · have hlt := hi b off ha
    exact Or.inr ⟨b, off, ha, fun i hi => by rw [World.cell?_of_block (w := wr) (a := ⟨b, off + i, none⟩) (hg.block b (lt_of_cell (hc i hi)) (fun e => by cases e; omega))]; exact hc i hi⟩
theorem ofP_yes {L : List Int} {w w' : World} {a b : Option Addr} {c q : Nat} (h : ofE L = 0) (h1 : Row w' (w.heap.size + 1) (.slice a (bX L 3).length c) (bX L 3)) (h2 : Row w' (w.heap.size + 1) (.slice b (bY L 3).length q) (bY L 3)) (hb : Below w.heap.size w w') :
    OfP L w (.returned (.tuple #[serV (fstD L) (lstD L) (bstE L 3) (bK L 3) a (bX L 3).length c b (bY L 3).length q, .int .i64 0])) w' := by
  obtain ⟨a1, c1, e1, i1⟩ := h1.ints
  obtain ⟨b1, q1, e2, i2⟩ := h2.ints
  cases e1; cases e2
  have x1 : ofX L = bX L 3 := by unfold ofX; rw [if_pos h]; rfl
  have x2 : ofY L = bY L 3 := by unfold ofY; rw [if_pos h]; rfl
  have x3 : ofF L = fstD L := by unfold ofF; rw [if_pos h]
  have x4 : ofL L = lstD L := by unfold ofL; rw [if_pos h]
  have x5 : ofEv L = bstE L 3 := by unfold ofEv; rw [if_pos h]
  have x6 : ofK L = bK L 3 := by unfold ofK; rw [if_pos h]; rfl
  refine ⟨a, c, b, q, ?_, ?_, ?_, hb⟩
  · rw [x1, x2, x3, x4, x5, x6, h]
  · rw [x1]; exact i1
  · rw [x2]; exact i2
end Go.Proofs.YtcifdllbnbhcdaaGreatDoor.Rc
namespace Go.Proofs.YtcifdllbnbhcdaaGreatDoor.Rc
open Go.RowKit Go.Maps TT
set_option maxRecDepth 100000 in
set_option maxHeartbeats 1000000 in
theorem of_empty (L : List Int) (hL : L.length = 0) (a : Option Addr) (c : Nat) (w : World) : Calls Tryz.prog 24 #[.slice a 0 c] w (OfP L w) := by
  have HO := Lib.hid (OW.mk0 (w := w) (a := a) (n := 0) (L := L) ⟨hL, by simp, Or.inl rfl⟩)
  have hf := Lib.hid (ofE_empty hL)
  clear hL
  obtain ⟨r0, r1, r2, r3, r4, r5, rz0, rz1, rz2, rz3, rz4, rz5, rsz⟩ := c6_cells HO.out.hr
  go_enter Tryz.func24, Tryz.ntmps24
  go_wp2
  obtain ⟨W9, hW9⟩ : ∃ W9, W9 = (w.alloc (.cells #[.int .i64 0, .int .i64 0, .int .i64 0, .int .i64 0, .slice none 0 0, .slice none 0 0] 37)) := ⟨_, rfl⟩
  rw [← hW9]
  have q1 := HO.out.hr
  have q3 := HO.out.bl
  rw [← hW9] at q1 q3
  obtain ⟨p0, p1, p2, p3, p4, p5, _⟩ := c6_cells q1
  refine bodyPost_ret (v := .tuple #[serV 0 0 0 0 none 0 0 none 0 0, .int .i64 16]) (by simp [results, Tryz.results24, go_sem, p0, p1, p2, p3, p4, p5]) rfl ?_
  exact ofP_no hf.out (by decide) q3
set_option maxRecDepth 100000 in
set_option maxHeartbeats 3000000 in
theorem of_some (L : List Int) (ba oa n c : Nat) (w : World) (hn : L.length = n) (hn0 : 0 < n) (hb : ba < w.heap.size) (hc : ∀ i, i < n → w.cell? ⟨ba, oa + i, none⟩ = some (.int .i64 (L.getD i 0))) (hn2 : n ≤ 9223372036854775807) :
    Calls Tryz.prog 24 #[.slice (some ⟨ba, oa, none⟩) n c] w (OfP L w) := by
  have hIL : IntsAt w (some ⟨ba, oa, none⟩) n L := ⟨hn, hn2, Or.inr ⟨ba, oa, rfl, hc⟩⟩
  have HO := Lib.hid (OW.mk0 (w := w) hIL)
  have HC := Lib.hid hc
  have HN := Lib.hid hn
  have hne : L.length ≠ 0 := by omega
  have HNE := Lib.hid hne
  have hn00 : ((n : Int) == 0) = false := by simp; omega
  clear hIL hc hn hne
  go_enter Tryz.func24, Tryz.ntmps24
  go_wp2
  go_loopw [4, 5, 15] (fun _ _ i wr => ∃ j : Nat, j ≤ n ∧ i = .int .i64 j ∧ Hid (lstE none L = lstE (pvI L j) (L.drop j)) ∧ Hid (OW w wr (some ⟨ba, oa, none⟩) n L)) (fun _ _ i _ => n - (intOf i).toNat)
  case atStart => exact ⟨0, by omega, rfl, Lib.hid (by rw [lstE_start]), HO⟩
  case round =>
    clear HO
    obtain ⟨j, hj, rfl, hR, HOW⟩ := hrel
    obtain ⟨r0, r1, r2, r3, r4, r5, rz0, rz1, rz2, rz3, rz4, rz5, rsz⟩ := c6_cells HOW.out.hr
    have hcw : ∀ i, i < n → wr.cell? ⟨ba, oa + i, none⟩ = some (.int .i64 (L.getD i 0)) := fun i hi => (HOW.out.bl.cell (p := ⟨ba, oa + i, none⟩) hb).trans (HC.out i hi)
    by_cases hlt : j < n
    · have hstep := Lib.hid (lstE_step L j (by rw [HN.out]; exact hlt))
      have gj := hcw j hlt
      have HCW := Lib.hid hcw
      clear hcw
      cases hok : okDay (L.getD j 0)
      · have hfin := Lib.hid (ofE_lst (v := 13) HNE.out (by rw [hR.out, hstep.out, hok, cond_false]) (by decide))
        generalize L.getD j 0 = x at *
        go_wp2_with (go_at_call 46; refine (isDay_any _ _).mono ?_; rintro e w' ⟨rfl, rfl⟩; rw [hok])
        obtain ⟨W9, hW9⟩ : ∃ W9, W9 = put6 wr w.heap.size 0 0 0 0 (.slice none 0 0) (.slice none 0 0) := ⟨_, rfl⟩
        rw [show (((((((wr).setCell ⟨w.heap.size, 0, none⟩ (.int .i64 0)).setCell ⟨w.heap.size, 1, none⟩ (.int .i64 0)).setCell ⟨w.heap.size, 2, none⟩ (.int .i64 0)).setCell ⟨w.heap.size, 3, none⟩ (.int .i64 0)).setCell ⟨w.heap.size, 4, none⟩ (.slice none 0 0)).setCell ⟨w.heap.size, 5, none⟩ (.slice none 0 0)) = W9 from hW9.symm]
        obtain ⟨q1, q2, q3⟩ := HOW.out.put 0 0 0 0 (.slice none 0 0) (.slice none 0 0)
        rw [← hW9] at q1 q2 q3
        obtain ⟨p0, p1, p2, p3, p4, p5, _⟩ := c6_cells q1
        refine bodyPost_ret (v := .tuple #[serV 0 0 0 0 none 0 0 none 0 0, .int .i64 13]) (by simp [results, Tryz.results24, go_sem, p0, p1, p2, p3, p4, p5]) rfl ?_
        exact ofP_no hfin.out (by decide) q3
      · have hstep2 : Hid (lstE none L = if 0 < j ∧ L.getD j 0 ≤ L.getD (j - 1) 0 then 63 else lstE (pvI L (j + 1)) (L.drop (j + 1))) := Lib.hid (by rw [hR.out, hstep.out, hok, cond_true])
        by_cases t3 : 0 < j
        · have gk : wr.cell? ⟨ba, oa + (j - 1), none⟩ = some (.int .i64 (L.getD (j - 1) 0)) := HCW.out (j - 1) (by omega)
          have gk' : wr.cell? ⟨ba, oa + ((j : Int) - 1).toNat, none⟩ = some (.int .i64 (L.getD (j - 1) 0)) := by rw [show ((j : Int) - 1).toNat = j - 1 by omega]; exact HCW.out (j - 1) (by omega)
          clear hstep
          generalize L.getD j 0 = x at *
          generalize L.getD (j - 1) 0 = x1 at *
          by_cases t4 : x ≤ x1
          · have hfin := Lib.hid (ofE_lst (v := 63) HNE.out (by rw [hstep2.out, if_pos ⟨t3, t4⟩]) (by decide))
            go_wp2_with (go_at_call 46; refine (isDay_any _ _).mono ?_; rintro e w' ⟨rfl, rfl⟩; rw [hok])
            obtain ⟨W9, hW9⟩ : ∃ W9, W9 = put6 wr w.heap.size 0 0 0 0 (.slice none 0 0) (.slice none 0 0) := ⟨_, rfl⟩
            rw [show (((((((wr).setCell ⟨w.heap.size, 0, none⟩ (.int .i64 0)).setCell ⟨w.heap.size, 1, none⟩ (.int .i64 0)).setCell ⟨w.heap.size, 2, none⟩ (.int .i64 0)).setCell ⟨w.heap.size, 3, none⟩ (.int .i64 0)).setCell ⟨w.heap.size, 4, none⟩ (.slice none 0 0)).setCell ⟨w.heap.size, 5, none⟩ (.slice none 0 0)) = W9 from hW9.symm]
            obtain ⟨q1, q2, q3⟩ := HOW.out.put 0 0 0 0 (.slice none 0 0) (.slice none 0 0)
            rw [← hW9] at q1 q2 q3
            obtain ⟨p0, p1, p2, p3, p4, p5, _⟩ := c6_cells q1
            refine bodyPost_ret (v := .tuple #[serV 0 0 0 0 none 0 0 none 0 0, .int .i64 63]) (by simp [results, Tryz.results24, go_sem, p0, p1, p2, p3, p4, p5]) rfl ?_
            exact ofP_no hfin.out (by decide) q3
          · have hnx : Hid (lstE none L = lstE (pvI L (j + 1)) (L.drop (j + 1))) := Lib.hid (by rw [hstep2.out, if_neg (fun h => t4 h.2)])
            go_wp2_with (go_at_call 46; refine (isDay_any _ _).mono ?_; rintro e w' ⟨rfl, rfl⟩; rw [hok])
            refine ⟨?_, ?measure⟩
            first
              | ((repeat apply Exists.intro); refine ⟨?rel, rfl⟩)
              | ((iterate 10 (apply Exists.intro)); (repeat apply Exists.intro); refine ⟨?rel, rfl⟩)
              | ((iterate 25 (apply Exists.intro)); (repeat apply Exists.intro); refine ⟨?rel, rfl⟩)
              | ((iterate 40 (apply Exists.intro)); (repeat apply Exists.intro); refine ⟨?rel, rfl⟩)
              | refine ?rel
            case rel => exact ⟨j + 1, by omega, by go_num, hnx, HOW⟩
            case measure => simp [intOf]; omega
        · clear hstep
          have hnx : Hid (lstE none L = lstE (pvI L (j + 1)) (L.drop (j + 1))) := Lib.hid (by rw [hstep2.out, if_neg (fun h => t3 h.1)])
          generalize L.getD j 0 = x at *
          go_wp2_with (go_at_call 46; refine (isDay_any _ _).mono ?_; rintro e w' ⟨rfl, rfl⟩; rw [hok])
          refine ⟨?_, ?measure⟩
          first
            | ((repeat apply Exists.intro); refine ⟨?rel, rfl⟩)
            | ((iterate 10 (apply Exists.intro)); (repeat apply Exists.intro); refine ⟨?rel, rfl⟩)
            | ((iterate 25 (apply Exists.intro)); (repeat apply Exists.intro); refine ⟨?rel, rfl⟩)
            | ((iterate 40 (apply Exists.intro)); (repeat apply Exists.intro); refine ⟨?rel, rfl⟩)
            | refine ?rel
          case rel => exact ⟨j + 1, by omega, by go_num, hnx, HOW⟩
          case measure => simp [intOf]; omega
    · obtain rfl : j = n := by omega
      have hl0 : lstE none L = 0 := by rw [hR.out]; have := HN.out; subst this; exact lstE_end _
      obtain ⟨hinc, hokA, _⟩ := lstE_inv L none hl0
      have hmem := mem_fst HNE.out
      obtain ⟨f1, f2⟩ := okDay_of (hokA _ hmem.1)
      obtain ⟨l1, l2⟩ := okDay_of (hokA _ hmem.2)
      have hfl := (inc_bounds hinc hmem.2).1
      have hld := len_days hinc HNE.out
      have HL0 := Lib.hid hl0
      have HOKA := Lib.hid hokA
      have g0 : wr.cell? ⟨ba, oa, none⟩ = some (.int .i64 (fstD L)) := hcw 0 hn0
      have gl : wr.cell? ⟨ba, oa + (j - 1), none⟩ = some (.int .i64 (lstD L)) := by have := hcw (j - 1) (by omega); rw [this]; unfold lstD; rw [HN.out]
      have gl' : wr.cell? ⟨ba, oa + ((j : Int) - 1).toNat, none⟩ = some (.int .i64 (lstD L)) := by rw [show ((j : Int) - 1).toNat = j - 1 by omega]; exact gl
      have y1 : IntKind.i64.wrap ((j : Int) - 1) = (j : Int) - 1 := IntWalk.i64_in _ (by omega)
      have y3 : (0 : Int) ≤ (j : Int) - 1 := by omega
      have y4 : (j : Int) - 1 < j := by omega
      have y5 : (0 : Int) < j := by omega
      rw [HN.out] at hld
      clear hcw hl0 hokA hmem hinc hR
      obtain ⟨f, hf⟩ : ∃ f, f = fstD L := ⟨_, rfl⟩
      obtain ⟨l, hl⟩ : ∃ l, l = lstD L := ⟨_, rfl⟩
      have HF := Lib.hid hf
      have HL := Lib.hid hl
      rw [← hf] at f1 f2 hfl hld g0
      rw [← hl] at l1 l2 hfl hld gl gl'
      clear hf hl
      obtain ⟨wo, rfl⟩ : ∃ wo : World, wo = wr := ⟨_, rfl⟩
      have y6 : IntKind.i64.wrap (f + 140) = f + 140 := IntWalk.i64_in _ (by omega)
      by_cases hrg : f + 140 < l
      · have hfin := Lib.hid (ofE_rng HNE.out HL0.out (by rw [← HF.out, ← HL.out]; exact hrg))
        go_wp2_with fail
        go_quiet (fail)
        have HOW2 := Lib.hid (HOW.out.next (below_drewN _ nq))
        clear y1 y3 y4 y5 y6 HOW
        go_wp2
        obtain ⟨W9, hW9⟩ : ∃ W9, W9 = put6 (wo.drewN nq) w.heap.size 0 0 0 0 (.slice none 0 0) (.slice none 0 0) := ⟨_, rfl⟩
        rw [show ((((((((wo.drewN nq)).setCell ⟨w.heap.size, 0, none⟩ (.int .i64 0)).setCell ⟨w.heap.size, 1, none⟩ (.int .i64 0)).setCell ⟨w.heap.size, 2, none⟩ (.int .i64 0)).setCell ⟨w.heap.size, 3, none⟩ (.int .i64 0)).setCell ⟨w.heap.size, 4, none⟩ (.slice none 0 0)).setCell ⟨w.heap.size, 5, none⟩ (.slice none 0 0)) = W9 from hW9.symm]
        obtain ⟨q1, q2, q3⟩ := HOW2.out.put 0 0 0 0 (.slice none 0 0) (.slice none 0 0)
        rw [← hW9] at q1 q2 q3
        obtain ⟨p0, p1, p2, p3, p4, p5, _⟩ := c6_cells q1
        refine bodyPost_ret (v := .tuple #[serV 0 0 0 0 none 0 0 none 0 0, .int .i64 3]) (by simp [results, Tryz.results24, go_sem, p0, p1, p2, p3, p4, p5]) rfl ?_
        exact ofP_no hfin.out (by decide) q3
      · have hE0 := Lib.hid (ofE_ok HNE.out HL0.out (by rw [← HF.out, ← HL.out]; exact hrg))
        go_wp2_with fail
        go_quiet (fail)
        have HOW2 := Lib.hid (HOW.out.next (below_drewN _ nq))
        clear y1 y3 y4 y5 y6 HOW g0 gl gl' r0 r1 r2 r3 r4 r5 rz0 rz1 rz2 rz3 rz4 rz5 rsz
        generalize wo.drewN nq = wq at *
        have HLF : Hid (lstD L ≤ fstD L + 140) := Lib.hid (by rw [← HF.out, ← HL.out]; omega)
        have HFL : Hid (fstD L ≤ lstD L) := Lib.hid (by rw [← HF.out, ← HL.out]; omega)
        have hwq := HOW2.out.bl.size
        have hwq2 : w.heap.size < wq.heap.size := lt_of_heap HOW2.out.hr
        go_wp2
        go_loopw [7] (fun v wr => ∃ ev : Int, 1 ≤ ev ∧ ev ≤ 5 ∧ v = .int .i64 ev ∧ Hid (OW w wr (some ⟨ba, oa, none⟩) j L) ∧
          Hid ((ev = 1 ∧ wr.heap[wq.heap.size]? = some (cells6 0 0 0 0 (.slice none 0 0) (.slice none 0 0))) ∨ (2 ≤ ev ∧ SBox wr wq.heap.size (fstD L) (lstD L) (bstE L (ev - 2).toNat) (bK L (ev - 2).toNat) (bX L (ev - 2).toNat) (bY L (ev - 2).toNat)))) (fun v _ => (5 - intOf v).toNat)
        case atStart => exact ⟨1, by omega, by omega, rfl, Lib.hid (HOW2.out.next ((Below.refl _ _).alloc (Nat.le_refl _) _)), Lib.hid (Or.inl ⟨rfl, World.alloc_heap_new _ _⟩)⟩
        case round =>
          clear HOW2
          obtain ⟨ev, ev1, ev2, rfl, HOW, HB⟩ := hrel
          by_cases hlt : ev ≤ 4
          · have hcw : ∀ i, i < j → wr.cell? ⟨ba, oa + i, none⟩ = some (.int .i64 (L.getD i 0)) := fun i hi => (HOW.out.bl.cell (p := ⟨ba, oa + i, none⟩) hb).trans (HC.out i hi)
            have hbw : ba < wr.heap.size := Nat.lt_of_lt_of_le hb HOW.out.bl.size
            obtain ⟨kS, hkS⟩ : ∃ k, k = setS L (fstD L) (lstD L) ev := ⟨_, rfl⟩
            have HKS := Lib.hid hkS
            have hXl := wlen L (fstD L) (lstD L) ev kS HLF.out
            have hcostE : costS L ev = (wX L (fstD L) (lstD L) ev kS).length + (wY2 L (fstD L) (lstD L) ev kS).length := by rw [hkS]; rfl
            have HCE := Lib.hid hcostE
            go_wp2_with fail
            refine (with_any ev L ba oa j c _ HN.out hn0 hbw hcw (by omega) ev1 hlt HOKA.out HFL.out HLF.out).mono ?_
            rintro en w2 ⟨a1, c1, b1, q1, rfl, hr1, hr2, hb2⟩
            rw [← hkS] at hr1 hr2 ⊢
            have HOW3 := Lib.hid (HOW.out.next hb2)
            have HR1 := Lib.hid hr1
            have HR2 := Lib.hid hr2
            have HB2 := Lib.hid hb2
            have hsz2 := hb2.size
            clear hcw hbw hr1 hr2 hb2 hcostE hkS
            have hqz : wq.heap.size < wr.heap.size := by
              rcases HB.out with ⟨_, h⟩ | ⟨_, h⟩
              · exact lt_of_heap h
              · exact h.lt
            generalize hXX : wX L (fstD L) (lstD L) ev kS = X at *
            generalize hYY : wY2 L (fstD L) (lstD L) ev kS = Y at *
            have HXX := Lib.hid hXX
            have HYY := Lib.hid hYY
            clear hXX hYY
            rw [← HF.out, ← HL.out]
            by_cases h1 : ev = 1
            · subst h1
              have hz : w2.heap[wq.heap.size]? = some (cells6 0 0 0 0 (.slice none 0 0) (.slice none 0 0)) := by
                rcases HB.out with ⟨_, h⟩ | ⟨h, _⟩
                · exact (HB2.out.block _ hqz).trans h
                · omega
              obtain ⟨z0, z1, z2, z3, z4, z5, v0, v1, v2, v3, v4, v5, vsz⟩ := c6_cells hz
              clear ev1 ev2 hlt
              go_wp2
              have hput : Hid (SBox ((put6 w2 wq.heap.size f l 1 kS (.slice a1 X.length c1) (.slice b1 Y.length q1)).alloc (.cells #[.int .i64 f, .int .i64 l, .int .i64 1, .int .i64 kS, .slice a1 X.length c1, .slice b1 Y.length q1] 37)) wq.heap.size f l 1 kS X Y) := Lib.hid ((SBox.put hz (row_base HR1.out (by omega)) (row_base HR2.out (by omega))).below ((Below.refl _ _).alloc (Nat.le_refl _) _))
              have hg := grownBy_put6 w2 wq.heap.size f l 1 kS (.slice a1 X.length c1) (.slice b1 Y.length q1)
              have HOW4 : Hid (OW w ((put6 w2 wq.heap.size f l 1 kS (.slice a1 X.length c1) (.slice b1 Y.length q1)).alloc (.cells #[.int .i64 f, .int .i64 l, .int .i64 1, .int .i64 kS, .slice a1 X.length c1, .slice b1 Y.length q1] 37)) (some ⟨ba, oa, none⟩) j L) := Lib.hid ((HOW3.out.grown (fun b off h => by cases h; exact hb) hg hwq2).next ((Below.refl _ _).alloc (Nat.le_refl _) _))
              refine ⟨?_, ?measure⟩
              first
                | ((repeat apply Exists.intro); refine ⟨?rel, rfl⟩)
                | ((iterate 10 (apply Exists.intro)); (repeat apply Exists.intro); refine ⟨?rel, rfl⟩)
                | ((iterate 25 (apply Exists.intro)); (repeat apply Exists.intro); refine ⟨?rel, rfl⟩)
                | ((iterate 40 (apply Exists.intro)); (repeat apply Exists.intro); refine ⟨?rel, rfl⟩)
                | refine ?rel
              case rel =>
                refine ⟨1 + 1, by omega, by omega, rfl, HOW4, Lib.hid (Or.inr ⟨by omega, ?_⟩)⟩
                have h := hput.out
                have hk : kS = bK L 0 := by rw [HKS.out]; unfold bK; rw [show bstE L 0 = 1 from rfl]
                have hX : X = bX L 0 := by rw [← HXX.out, hk]; unfold bX; rw [show bstE L 0 = 1 from rfl]
                have hY : Y = bY L 0 := by rw [← HYY.out, hk]; unfold bY; rw [show bstE L 0 = 1 from rfl]
                rw [HF.out, HL.out] at h
                show SBox _ _ _ _ (bstE L 0) (bK L 0) (bX L 0) (bY L 0)
                rw [← hk, ← hX, ← hY, show bstE L 0 = 1 from rfl]
                rw [HF.out, HL.out]
                exact h
              case measure => simp [intOf]
            · have ev3 : 2 ≤ ev := by omega
              have hne1 : (ev == 1) = false := by simpa using h1
              obtain ⟨m, hm⟩ : ∃ m : Nat, ev = (m : Int) + 2 := ⟨(ev - 2).toNat, by omega⟩
              have hm2 : (ev - 2).toNat = m := by omega
              have hm3 : (ev + 1 - 2).toNat = m + 1 := by omega
              have HS : SBox w2 wq.heap.size (fstD L) (lstD L) (bstE L m) (bK L m) (bX L m) (bY L m) := by
                rcases HB.out with ⟨h, _⟩ | ⟨_, h⟩
                · exact absurd h h1
                · rw [hm2] at h; exact h.below HB2.out
              have hXb := wlen L (fstD L) (lstD L) (bstE L m) (bK L m) HLF.out
              have hbc := Lib.hid (bst_cost L m)
              rw [← HF.out, ← HL.out] at HS
              have hXb' : (bX L m).length ≤ 141 ∧ (bY L m).length ≤ 141 := hXb
              obtain ⟨hXb1, hXb2⟩ := hXb'
              have HM := Lib.hid hm
              have HM3 := Lib.hid hm3
              have HSB := Lib.hid HS
              obtain ⟨a4, c4, b4, q4, hz, _, _⟩ := HS
              obtain ⟨z0, z1, z2, z3, z4, z5, v0, v1, v2, v3, v4, v5, vsz⟩ := c6_cells hz
              have HZZ := Lib.hid hz
              clear hz hm hm2 hm3 hXb h1
              by_cases hcost : X.length + Y.length < (bX L m).length + (bY L m).length
              · have hbst := Lib.hid (bst_hit HM.out (by rw [HCE.out, hbc.out]; exact hcost))
                have hci : (X.length : Int) + Y.length < ((bX L m).length : Int) + (bY L m).length := by omega
                go_wp2
                have hput : Hid (SBox ((put6 w2 wq.heap.size f l ev kS (.slice a1 X.length c1) (.slice b1 Y.length q1)).alloc (.cells #[.int .i64 f, .int .i64 l, .int .i64 ev, .int .i64 kS, .slice a1 X.length c1, .slice b1 Y.length q1] 37)) wq.heap.size f l ev kS X Y) := Lib.hid ((SBox.put HZZ.out (row_base HR1.out (by omega)) (row_base HR2.out (by omega))).below ((Below.refl _ _).alloc (Nat.le_refl _) _))
                have hg := grownBy_put6 w2 wq.heap.size f l ev kS (.slice a1 X.length c1) (.slice b1 Y.length q1)
                have HOW4 : Hid (OW w ((put6 w2 wq.heap.size f l ev kS (.slice a1 X.length c1) (.slice b1 Y.length q1)).alloc (.cells #[.int .i64 f, .int .i64 l, .int .i64 ev, .int .i64 kS, .slice a1 X.length c1, .slice b1 Y.length q1] 37)) (some ⟨ba, oa, none⟩) j L) := Lib.hid ((HOW3.out.grown (fun b off h => by cases h; exact hb) hg hwq2).next ((Below.refl _ _).alloc (Nat.le_refl _) _))
                refine ⟨?_, ?measure⟩
                first
                  | ((repeat apply Exists.intro); refine ⟨?rel, rfl⟩)
                  | ((iterate 10 (apply Exists.intro)); (repeat apply Exists.intro); refine ⟨?rel, rfl⟩)
                  | ((iterate 25 (apply Exists.intro)); (repeat apply Exists.intro); refine ⟨?rel, rfl⟩)
                  | ((iterate 40 (apply Exists.intro)); (repeat apply Exists.intro); refine ⟨?rel, rfl⟩)
                  | refine ?rel
                case rel =>
                  refine ⟨ev + 1, by omega, by omega, rfl, HOW4, Lib.hid (Or.inr ⟨by omega, ?_⟩)⟩
                  have h := hput.out
                  have hk : kS = bK L (m + 1) := by rw [HKS.out]; unfold bK; rw [show bstE L (m + 1) = ev from hbst.out]
                  have hX : X = bX L (m + 1) := by rw [← HXX.out, hk]; unfold bX; rw [show bstE L (m + 1) = ev from hbst.out]
                  have hY : Y = bY L (m + 1) := by rw [← HYY.out, hk]; unfold bY; rw [show bstE L (m + 1) = ev from hbst.out]
                  rw [HF.out, HL.out] at h
                  rw [HM3.out]
                  rw [← hk, ← hX, ← hY, show bstE L (m + 1) = ev from hbst.out]
                  rw [HF.out, HL.out]
                  exact h
                case measure => simp [intOf]; omega
              · have hbst := Lib.hid (bst_miss HM.out (by rw [HCE.out, hbc.out]; exact hcost))
                have hci : ¬ (X.length : Int) + Y.length < ((bX L m).length : Int) + (bY L m).length := by omega
                go_wp2
                refine ⟨?_, ?measure⟩
                first
                  | ((repeat apply Exists.intro); refine ⟨?rel, rfl⟩)
                  | ((iterate 10 (apply Exists.intro)); (repeat apply Exists.intro); refine ⟨?rel, rfl⟩)
                  | ((iterate 25 (apply Exists.intro)); (repeat apply Exists.intro); refine ⟨?rel, rfl⟩)
                  | ((iterate 40 (apply Exists.intro)); (repeat apply Exists.intro); refine ⟨?rel, rfl⟩)
                  | refine ?rel
                case rel =>
                  refine ⟨ev + 1, by omega, by omega, rfl, Lib.hid (HOW3.out.next ((Below.refl _ _).alloc (Nat.le_refl _) _)), Lib.hid (Or.inr ⟨by omega, ?_⟩)⟩
                  have := HSB.out
                  rw [HF.out, HL.out] at this
                  rw [HM3.out, hbst.out, show bK L (m + 1) = bK L m from by unfold bK; rw [hbst.out], show bX L (m + 1) = bX L m from by unfold bX bK; rw [hbst.out], show bY L (m + 1) = bY L m from by unfold bY bK; rw [hbst.out]]
                  exact this.below ((Below.refl _ _).alloc (Nat.le_refl _) _)
                case measure => simp [intOf]; omega
          · obtain rfl : ev = 5 := by omega
            have HS : SBox wr wq.heap.size (fstD L) (lstD L) (bstE L 3) (bK L 3) (bX L 3) (bY L 3) := by
              rcases HB.out with ⟨h, _⟩ | ⟨_, h⟩
              · omega
              · exact h
            have HSB := Lib.hid HS
            obtain ⟨a4, c4, b4, q4, hz, ha4, hb4⟩ := HS
            obtain ⟨z0, z1, z2, z3, z4, z5, v0, v1, v2, v3, v4, v5, vsz⟩ := c6_cells hz
            obtain ⟨r0, r1, r2, r3, r4, r5, rz0, rz1, rz2, rz3, rz4, rz5, rsz⟩ := c6_cells HOW.out.hr
            have HA4 := Lib.hid ha4
            have HB4 := Lib.hid hb4
            obtain ⟨hX3, hY3⟩ := wlen L (fstD L) (lstD L) (bstE L 3) (bK L 3) HLF.out
            change (bX L 3).length ≤ 141 at hX3
            change (bY L 3).length ≤ 141 at hY3
            clear hz ha4 hb4 ev1 ev2 hlt
            go_wp2
            obtain ⟨q1, q2, q3⟩ := HOW.out.put (fstD L) (lstD L) (bstE L 3) (bK L 3) (.slice a4 (bX L 3).length c4) (.slice b4 (bY L 3).length q4)
            obtain ⟨p0, p1, p2, p3, p4, p5, _⟩ := c6_cells q1
            have key : ∀ {v : Value} {M : List Int}, Row wr (wq.heap.size + 1) v M → Row (put6 wr w.heap.size (fstD L) (lstD L) (bstE L 3) (bK L 3) (.slice a4 (bX L 3).length c4) (.slice b4 (bY L 3).length q4)) (w.heap.size + 1) v M := fun hr => row_base (hr.kept q2 (by
              rcases hv : Value.ownBlock _ with _ | g
              · exact Or.inl rfl
              · exact Or.inr (fun e => by have := (hr.lt _ hv).1; cases e; omega))) (by omega)
            refine bodyPost_ret (v := .tuple #[serV (fstD L) (lstD L) (bstE L 3) (bK L 3) a4 (bX L 3).length c4 b4 (bY L 3).length q4, .int .i64 0]) (by simp [results, Tryz.results24, go_sem, p0, p1, p2, p3, p4, p5]) rfl ?_
            exact ofP_yes hE0.out (key HA4.out) (key HB4.out) q3
theorem of_any (L : List Int) (a : Option Addr) (n c : Nat) (w : World) (hI : IntsAt w a n L) : Calls Tryz.prog 24 #[.slice a n c] w (OfP L w) := by
  by_cases h0 : n = 0
  · subst h0
    exact of_empty L hI.len a c w
  · obtain ⟨b, off, rfl, hb, hc⟩ := hI.cell (j := 0) (by omega)
    exact of_some L b off n c w hI.len (by omega) hb hc hI.le
end Go.Proofs.YtcifdllbnbhcdaaGreatDoor.Rc
