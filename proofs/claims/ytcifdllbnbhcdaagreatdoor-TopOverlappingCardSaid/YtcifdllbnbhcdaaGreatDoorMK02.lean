/- Texts K13, K14, K15, K16, K17, K18, K19, K20, joined: walks and laws. -/
import Derived.Laws.Cover3
import Derived.Laws.EntriesVeiled
import Derived.Test.YtcifdllbnbhcdaaGreatDoorMK01
namespace Go.Proofs.YtcifdllbnbhcdaaGreatDoor
open Go.RowKit
def placeC : List Value := [.int .i64 1, .int .i64 0, .int .i64 0, .int .i64 1, .int .i64 0]
def Ret1E (vs : List Value) (w : World) (e : Ending) (w2 : World) : Prop := ∃ b c, e = .returned (.tuple #[.slice (some ⟨b, 0, none⟩) 1 c, .int .i64 0]) ∧ 1 ≤ c ∧ At w2 b vs ∧ Below w.heap.size w w2
set_option maxRecDepth 100000 in
set_option maxHeartbeats 4000000 in
theorem opts_one (R br cr bc cc bp cp : Nat) (w : World) (h : RegBox w R br cr bc cc bp cp) : Calls Tryz.prog 152 #[regV br cr bc cc, clsV bp cp] w (Ret1E placeC w) := by
  have hmf : ∀ (fn : Fn) (first cap : Array Value) (w : World), (Instr.makeFunc fn first cap).run Tryz.prog w = .ok (.func fn first cap) w := fun _ _ _ _ => rfl
  have R1 := h.ro
  have P1 := h.pa
  have hcap := h.caps
  have C1 := R1.all
  simp only [cellsAre, roomC, Nat.zero_add, Nat.reduceAdd, and_true] at C1
  have U1 := ups R1.lt
  go_enter Tryz.func152, Tryz.ntmps152
  go_wp2_with fail
  refine wp_loop_rounds 1 ?_
  rw [rounds_succ]
  go_wp2_with fail
  refine wp_loop_rounds 2 ?_
  rw [rounds_succ]
  go_wp2_with fail
  refine (fits_one _ _ _).mono ?_
  rintro e w2 ⟨rfl, hb⟩
  have HB := Lib.hid (below2 (below2' hb))
  have B1 := (((At.mk w (regC br cr bc cc) 58 rfl).push (.cells (claC bp cp).toArray 113)).push (.cells roomC.toArray 110)).below hb
  have B2 := ((At.mk (w.alloc (.cells (regC br cr bc cc).toArray 58)) (claC bp cp) 113 (n := w.heap.size + 1) (by simp)).push (.cells roomC.toArray 110)).below hb
  replace R1 := R1.below HB.out
  replace P1 := P1.below HB.out
  clear hb C1 U1 h
  have C1 := B1.all
  simp only [cellsAre, regC, Nat.zero_add, Nat.reduceAdd, and_true] at C1
  have C2 := B2.all
  simp only [cellsAre, claC, Nat.zero_add, Nat.reduceAdd, and_true] at C2
  have U1 := ups B1.lt
  have U2 := ups B2.lt
  go_wp2_with fail
  rw [rounds_succ]
  go_wp2_with fail
  have hc3 := cap_ge 1 0 3 (w2.tape w2.drawn (Question.appendCap 1 0 3))
  generalize (Question.appendCap 1 0 3).cut (w2.tape w2.drawn (Question.appendCap 1 0 3)) = c3 at *
  refine (times_one bp cp hcap.2.2 _ ((P1.push _).push _).drew).mono ?_
  rintro e w3 ⟨bt, ct, rfl, hct, hT, hb⟩
  have D1 := ((At.mkx (w2.alloc (.cells #[.int .i64 0] 3)) [.int .i64 0] _ 3 (n := w2.heap.size + 1) (by simp)).drew).below hb
  replace hb := below3 (bdrw (bpush (bpush (b0 w2) _) _)) hb
  replace HB := Lib.hid (below3 HB.out hb)
  replace B1 := B1.below hb
  replace B2 := B2.below hb
  replace R1 := R1.below hb
  clear hb C1 C2 U1 U2 P1
  have C1 := B1.all
  simp only [cellsAre, regC, Nat.zero_add, Nat.reduceAdd, and_true] at C1
  have C2 := B2.all
  simp only [cellsAre, claC, Nat.zero_add, Nat.reduceAdd, and_true] at C2
  have C3 := R1.all
  simp only [cellsAre, roomC, Nat.zero_add, Nat.reduceAdd, and_true] at C3
  have C4 := D1.all
  simp only [cellsAre, and_true] at C4
  have C5 := hT.all
  simp only [cellsAre, Nat.zero_add, Nat.reduceAdd, and_true] at C5
  have U1 := ups B1.lt
  have U2 := ups B2.lt
  have U3 := ups R1.lt
  have U4 := ups D1.lt
  have U5 := ups hT.lt
  go_wp2_with fail
  refine wp_loop_rounds 2 ?_
  rw [rounds_succ]
  go_wp2_with (go_at_call 232; refine (hasLec_nil _ _ _ _).mono ?_; rintro e w' ⟨rfl, rfl⟩)
  refine wp_loop_rounds 2 ?_
  rw [rounds_succ]
  go_wp2_with fail
  have T1 := At.mk w3 [.int .i64 1, .int .i64 0, .int .i64 0, .int .i64 1] 34 rfl
  have HX := bpush (b0 w3) (.cells #[.int .i64 1, .int .i64 0, .int .i64 0, .int .i64 1] 34)
  generalize w3.alloc (.cells #[.int .i64 1, .int .i64 0, .int .i64 0, .int .i64 1] 34) = wx at *
  replace B1 := B1.below HX
  replace R1 := R1.below HX
  replace HB := Lib.hid (below3 HB.out HX)
  clear HX C1 C2 C3 C4 C5 U1 U2 U3 U4 U5
  have C1 := B1.all
  simp only [cellsAre, regC, Nat.zero_add, Nat.reduceAdd, and_true] at C1
  have C3 := R1.all
  simp only [cellsAre, roomC, Nat.zero_add, Nat.reduceAdd, and_true] at C3
  have C5 := T1.all
  simp only [cellsAre, Nat.zero_add, Nat.reduceAdd, and_true] at C5
  go_still_tail 6, (by kernel_rfl)
  go_wp2_with fail
  refine (open_one _ _ _ _ _).mono ?_
  rintro e w4 ⟨rfl, hb⟩
  replace T1 := T1.drew.below hb
  replace HB := Lib.hid (below3 HB.out (below3 (bdrw (b0 wx)) hb))
  clear hb C1 C3 C5 B1 B2 R1 D1 hT
  have C1 := T1.all
  simp only [cellsAre, Nat.zero_add, Nat.reduceAdd, and_true] at C1
  go_wp2_with fail
  rw [rounds_succ]
  go_wp2_with fail
  rw [rounds_succ]
  go_wp2_with fail
  have hc := cap_ge 1 0 266 (w4.tape w4.drawn (Question.appendCap 1 0 266))
  generalize (Question.appendCap 1 0 266).cut (w4.tape w4.drawn (Question.appendCap 1 0 266)) = c at hc ⊢
  go_ret2
  exact ⟨_, _, rfl, hc, (At.mkx _ placeC _ 266 (by simp)).drew, below3 HB.out (bdrw (bpush (bpush (b0 _) _) _))⟩
end Go.Proofs.YtcifdllbnbhcdaaGreatDoor
namespace Go.Proofs.YtcifdllbnbhcdaaGreatDoor
open Go.RowKit
def Bk (w : World) (R : Nat) (vs : List Value) (T : TypeId) : Prop := w.heap[R]? = some (.cells vs.toArray T (0, 0))
theorem Bk.mk (w : World) (vs : List Value) (T : TypeId) {n : Nat} (hn : w.heap.size = n) : Bk (w.alloc (.cells vs.toArray T)) n vs T := by
  subst hn; exact heap_alloc_new _ _
theorem Bk.below {w w2 : World} {R : Nat} {vs : List Value} {T : TypeId} (h : Bk w R vs T) (hb : Below w.heap.size w w2) : Bk w2 R vs T := by
  unfold Bk; rw [hb.block R (lt_of_heap h)]; exact h
theorem Bk.push {w : World} {R : Nat} {vs : List Value} {T : TypeId} (h : Bk w R vs T) (o : Obj) : Bk (w.alloc o) R vs T := h.below (bpush (b0 _) _)
theorem Bk.at_ {w : World} {R : Nat} {vs : List Value} {T : TypeId} (h : Bk w R vs T) : At w R vs := fun i v hi => by
  rw [cell_of_row _ _ i _ _ _ h, List.getElem?_toArray]; exact hi
theorem Bk.fz {w : World} {R : Nat} {vs : List Value} {T : TypeId} (h : Bk w R vs T) (i : Nat) : w.frozen? ⟨R, i, none⟩ = false := frozen_of_row _ _ _ _ _ h
theorem Bk.fz4 {w : World} {R : Nat} {vs : List Value} {T : TypeId} (h : Bk w R vs T) : w.frozen? ⟨R, 0, none⟩ = false ∧ w.frozen? ⟨R, 1, none⟩ = false ∧ w.frozen? ⟨R, 2, none⟩ = false ∧ w.frozen? ⟨R, 3, none⟩ = false := ⟨h.fz 0, h.fz 1, h.fz 2, h.fz 3⟩
theorem Bk.lt {w : World} {R : Nat} {vs : List Value} {T : TypeId} (h : Bk w R vs T) : R < w.heap.size := lt_of_heap h
theorem bset {w w2 : World} {R : Nat} (h : Below w.heap.size w w2) (hR : w.heap.size ≤ R) (i : Nat) (u : Value) : Below w.heap.size w (w2.setCell ⟨R, i, none⟩ u) := h.setCell (p := ⟨R, i, none⟩) hR u
def optC : List Value := [.int .i64 1, .int .i64 0, .int .i64 0, .int .i64 1, .int .i64 0, .slice none 0 0]
abbrev modV (bm cm : Nat) (r : Int) : Value := .agg #[.slice (some ⟨bm, 0, none⟩) 1 cm, .slice none 0 0, .slice none 0 0, .int .i64 r]
def ModAt (r : Int) (w : World) (v : Value) : Prop := ∃ bm cm bo co, v = modV bm cm r ∧ (1 ≤ cm ∧ 1 ≤ co) ∧ At w bm [.slice (some ⟨bo, 0, none⟩) 1 co] ∧ At w bo optC
theorem ModAt.below {r : Int} {w w2 : World} {v : Value} (h : ModAt r w v) (hb : Below w.heap.size w w2) : ModAt r w2 v := by
  obtain ⟨bm, cm, bo, co, h1, hc, h2, h3⟩ := h
  exact ⟨bm, cm, bo, co, h1, hc, h2.below hb, h3.below hb⟩
def RetMod (r : Int) (w : World) (e : Ending) (w2 : World) : Prop := ∃ v, e = .returned (.tuple #[v, .int .i64 0]) ∧ ModAt r w2 v ∧ Below w.heap.size w w2
def zmC : List Value := [.slice none 0 0, .slice none 0 0, .slice none 0 0, .int .i64 0]
set_option maxRecDepth 100000 in
set_option maxHeartbeats 4000000 in
theorem mcls_one (v : Value) (w : World) (h : RegAt w v) : Calls Tryz.prog 93 #[v] w (RetMod 0 w) := by
  obtain ⟨br, cr, bc, cc, bp, cp, rfl, hcap, h1, h2, h3⟩ := h
  have HR : Hid (RegBox (w.alloc (.cells (regC br cr bc cc).toArray 58)) w.heap.size br cr bc cc bp cp) := Lib.hid ⟨hcap, At.mk w (regC br cr bc cc) 58 rfl, h1.push _, h2.push _, h3.push _⟩
  have C2 := h2.all
  simp only [cellsAre, claC, Nat.zero_add, Nat.reduceAdd, and_true] at C2
  have U2 := ups h2.lt
  go_enter Tryz.func93, Tryz.ntmps93
  go_wp2_with fail
  refine wp_loop_rounds 2 ?_
  rw [rounds_succ]
  go_wp2_with fail
  have HZ : Hid (∀ W : World, W.heap.size = w.heap.size + 1 → Bk (((W.alloc (.cells zmC.toArray 105)).alloc (.cells zmC.toArray 105)).alloc (.cells (claC bp cp).toArray 113)) (w.heap.size + 1) zmC 105 ∧ Bk (((W.alloc (.cells zmC.toArray 105)).alloc (.cells zmC.toArray 105)).alloc (.cells (claC bp cp).toArray 113)) (w.heap.size + 1 + 1) zmC 105) :=
    Lib.hid fun W hW => ⟨((Bk.mk W zmC 105 hW).push _).push _, (Bk.mk (W.alloc (.cells zmC.toArray 105)) zmC 105 (by simp [hW])).push _⟩
  have HB := bpush (bpush (bpush (bpush (b0 w) (.cells (regC br cr bc cc).toArray 58)) (.cells zmC.toArray 105)) (.cells zmC.toArray 105)) (.cells (claC bp cp).toArray 113)
  have HZ2 := HZ.out (w.alloc (.cells (regC br cr bc cc).toArray 58)) (by simp)
  clear HZ
  refine (opts_one _ br cr bc cc bp cp _ (HR.out.below (bpush (bpush (bpush (b0 _) (.cells zmC.toArray 105)) (.cells zmC.toArray 105)) (.cells (claC bp cp).toArray 113)))).mono ?_
  rintro e w2 ⟨bo, co, rfl, hco, hO, hb⟩
  have B1 := HZ2.1.below hb
  have B2 := HZ2.2.below hb
  have HB2 := Lib.hid (below3 HB hb)
  clear hb HZ2 HB HR C2 U2 h1 h2 h3
  obtain ⟨R1, hR1⟩ : ∃ R, R = w.heap.size + 1 := ⟨_, rfl⟩
  obtain ⟨R2, hR2⟩ : ∃ R, R = w.heap.size + 1 + 1 := ⟨_, rfl⟩
  have hne : R1 ≠ R2 := by omega
  have hlo : w.heap.size ≤ R1 ∧ w.heap.size ≤ R2 := by omega
  rw [← hR2] at B2 ⊢
  rw [← hR1] at B1 ⊢
  clear hR1 hR2
  have C1 := B1.at_.all
  simp only [cellsAre, zmC, Nat.zero_add, Nat.reduceAdd, and_true] at C1
  have C2 := B2.at_.all
  simp only [cellsAre, zmC, Nat.zero_add, Nat.reduceAdd, and_true] at C2
  have C3 := hO.all
  simp only [cellsAre, placeC, Nat.zero_add, Nat.reduceAdd, and_true] at C3
  have F1 := B1.fz4
  have F2 := B2.fz4
  have U1 := ups B1.lt
  have U2 := ups B2.lt
  have U3 := ups (At.lt (v := .int .i64 1) hO)
  go_wp2_with fail
  refine wp_loop_rounds 2 ?_
  rw [rounds_succ]
  go_wp2_with fail
  rw [rounds_succ]
  go_wp2_with fail
  rw [rounds_succ]
  go_wp2_with fail
  have hc1 := cap_ge 1 0 269 (w2.tape w2.drawn (Question.appendCap 1 0 269))
  have hc2 := cap_ge 1 0 264 (w2.tape (w2.drawn + 1) (Question.appendCap 1 0 264))
  generalize (Question.appendCap 1 0 269).cut (w2.tape w2.drawn (Question.appendCap 1 0 269)) = c1 at hc1 ⊢
  generalize (Question.appendCap 1 0 264).cut (w2.tape (w2.drawn + 1) (Question.appendCap 1 0 264)) = c2 at hc2 ⊢
  refine bodyPost_ret (v := .tuple #[modV (w2.heap.size + 1 + 1 + 1 + 1) c2 0, .int .i64 0]) (by simp [results, Tryz.results93, go_sem, C1, U1]) rfl ?_
  refine ⟨_, rfl, ⟨_, _, w2.heap.size + 1 + 1, c1, rfl, ⟨hc2, hc1⟩, ?_, ?_⟩, ?_⟩
  · exact (At.mkx _ [.slice (some ⟨w2.heap.size + 1 + 1, 0, none⟩) 1 c1] _ 264 (by simp)).drew.drew
  · exact (((At.mkx _ optC _ 269 (by simp)).push _).push _).drew.drew
  · exact bdrw (bdrw (bpush (bpush (bpush (bpush (bpush (bset (bset (bset (bset (bset HB2.out hlo.2 _ _) hlo.1 _ _) hlo.1 _ _) hlo.1 _ _) hlo.1 _ _) _) _) _) _) _))
end Go.Proofs.YtcifdllbnbhcdaaGreatDoor
namespace Go.Proofs.YtcifdllbnbhcdaaGreatDoor
open Go.RowKit
def bldC (bm cm : Nat) (r : Int) (br cr bc cc : Nat) : List Value := [.slice (some ⟨bm, 0, none⟩) 1 cm, .slice none 0 0, .slice none 0 0, .int .i64 r, .int .i64 1, .int .i64 1, .int .i64 480, .int .i64 45, .int .i64 2, .int .i64 1, .slice none 0 0, .slice (some ⟨br, 0, none⟩) 1 cr, .slice none 0 0, .slice none 0 0, .slice none 0 0, .slice (some ⟨bc, 0, none⟩) 1 cc, .slice none 0 0, .slice none 0 0, .slice none 0 0, .slice none 0 0]
def RetU (w : World) (e : Ending) (w2 : World) : Prop := e = .returned (.tuple #[]) ∧ w = w2
set_option maxRecDepth 100000 in
set_option maxHeartbeats 4000000 in
theorem charge_one (B bm cm br cr bc cc bo co : Nat) (_hcm : 1 ≤ cm) (w : World) (hB : Bk w B (bldC bm cm 2 br cr bc cc) 182) (hM : At w bm [.slice (some ⟨bo, 0, none⟩) 1 co]) : Calls Tryz.prog 94 #[.pointer (some ⟨B, 0, none⟩)] w (RetU w) := by
  have C1 := hB.at_.all
  simp only [cellsAre, bldC, Nat.zero_add, Nat.reduceAdd, and_true] at C1
  have C2 := hM.all
  simp only [cellsAre, and_true] at C2
  go_enter Tryz.func94, Tryz.ntmps94
  go_wp2_with fail
  refine wp_loop_rounds 2 ?_
  rw [rounds_succ]
  go_wp2_with fail
  refine wp_loop_rounds 2 ?_
  rw [rounds_succ]
  go_wp2_with fail
  refine wp_loop_rounds 1 ?_
  rw [rounds_succ]
  go_wp2_with fail
  rw [rounds_succ]
  go_wp2_with fail
  rw [rounds_succ]
  go_wp2_with fail
  refine bodyPost_ret (v := .tuple #[]) (by simp [results, Tryz.results94, go_sem]) rfl ?_
  exact ⟨rfl, rfl⟩
set_option maxRecDepth 100000 in
set_option maxHeartbeats 4000000 in
theorem count_one (B bm cm br cr bc cc : Nat) (w : World) (hB : Bk w B (bldC bm cm 2 br cr bc cc) 182) : Calls Tryz.prog 96 #[.pointer (some ⟨B, 0, none⟩)] w (RetU w) := by
  have C1 := hB.at_.all
  simp only [cellsAre, bldC, Nat.zero_add, Nat.reduceAdd, and_true] at C1
  go_enter Tryz.func96, Tryz.ntmps96
  go_wp2_with fail
  refine wp_loop_rounds 1 ?_
  rw [rounds_succ]
  go_wp2_with fail
  refine bodyPost_ret (v := .tuple #[]) (by simp [results, Tryz.results96, go_sem]) rfl ?_
  exact ⟨rfl, rfl⟩
set_option maxRecDepth 100000 in
set_option maxHeartbeats 4000000 in
theorem pairs_one (r : Int) (bm cm : Nat) (q : Int) (f : Value) (bo co : Nat) (_hcm : 1 ≤ cm) (w : World) (hM : At w bm [.slice (some ⟨bo, 0, none⟩) 1 co]) : Calls Tryz.prog 157 #[modV bm cm r, .int .i64 q, f] w (RetB nilV w) := by
  have C2 := hM.all
  simp only [cellsAre, and_true] at C2
  have U2 := ups (At.lt hM)
  go_enter Tryz.func157, Tryz.ntmps157
  go_wp2_with fail
  refine wp_loop_rounds 2 ?_
  rw [rounds_succ]
  go_wp2_with fail
  refine wp_loop_rounds 1 ?_
  rw [rounds_succ]
  go_wp2_with fail
  rw [rounds_succ]
  go_wp2_with fail
  go_ret
  exact ⟨rfl, bpush (b0 _) _⟩
end Go.Proofs.YtcifdllbnbhcdaaGreatDoor
namespace Go.Proofs.YtcifdllbnbhcdaaGreatDoor
open Go.RowKit
set_option maxRecDepth 100000 in
set_option maxHeartbeats 4000000 in
theorem builtin_one (r : Int) (bm cm br cr bc cc : Nat) (p q : Int) (bo co : Nat) (hcm : 1 ≤ cm) (w : World) (hM : At w bm [.slice (some ⟨bo, 0, none⟩) 1 co]) : Calls Tryz.prog 158 #[regV br cr bc cc, modV bm cm r, .int .i64 p, .int .i64 q] w (RetB nilV w) := by
  have hmf : ∀ (fn : Fn) (first cap : Array Value) (w : World), (Instr.makeFunc fn first cap).run Tryz.prog w = .ok (.func fn first cap) w := fun _ _ _ _ => rfl
  go_enter Tryz.func158, Tryz.ntmps158
  go_wp2_with fail
  have M1 := ((hM.push (.cells #[.int .i64 1, .int .i64 1, .int .i64 480, .int .i64 45, .int .i64 2, .int .i64 1, .slice none 0 0, .slice (some ⟨br, 0, none⟩) 1 cr, .slice none 0 0, .slice none 0 0, .slice none 0 0, .slice (some ⟨bc, 0, none⟩) 1 cc, .slice none 0 0, .slice none 0 0] 58)).push (.cells #[.slice (some ⟨bm, 0, none⟩) 1 cm, .slice none 0 0, .slice none 0 0, .int .i64 r] 105)).push (.cells #[.func (.func 244) #[] #[.pointer (some ⟨w.heap.size, 0, none⟩)]] 128)
  refine (pairs_one r bm cm _ _ bo co hcm _ M1).mono ?_
  rintro e w2 ⟨rfl, hb⟩
  have D1 := (((At.mk (w.alloc (.cells #[.int .i64 1, .int .i64 1, .int .i64 480, .int .i64 45, .int .i64 2, .int .i64 1, .slice none 0 0, .slice (some ⟨br, 0, none⟩) 1 cr, .slice none 0 0, .slice none 0 0, .slice none 0 0, .slice (some ⟨bc, 0, none⟩) 1 cc, .slice none 0 0, .slice none 0 0] 58)) [.slice (some ⟨bm, 0, none⟩) 1 cm, .slice none 0 0, .slice none 0 0, .int .i64 r] 105 (n := w.heap.size + 1) (by simp)).push (.cells #[.func (.func 244) #[] #[.pointer (some ⟨w.heap.size, 0, none⟩)]] 128)).below hb)
  have HB := below2 (below2' hb)
  replace M1 := M1.below hb
  clear hb
  have C1 := D1.all
  simp only [cellsAre, Nat.zero_add, Nat.reduceAdd, and_true] at C1
  go_wp2_with fail
  refine (pairs_one r bm cm _ _ bo co hcm _ M1).mono ?_
  rintro e w3 ⟨rfl, hb⟩
  go_wp2_with fail
  go_ret
  exact ⟨rfl, below3 HB hb⟩
end Go.Proofs.YtcifdllbnbhcdaaGreatDoor
namespace Go.Proofs.YtcifdllbnbhcdaaGreatDoor
open Go.RowKit
theorem Bk.set {w : World} {R : Nat} {vs : List Value} {T : TypeId} (h : Bk w R vs T) (i : Nat) (u : Value) : Bk (w.setCell ⟨R, i, none⟩ u) R (vs.set i u) T := by
  have : (w.setCell ⟨R, i, none⟩ u).heap[R]? = _ := heap_setCell_same _ R i _ _ _ h
  unfold Bk; rw [this]; simp
theorem Bk.other {w : World} {R R2 : Nat} {vs : List Value} {T : TypeId} (h : Bk w R vs T) (hne : R ≠ R2) (i : Nat) (u : Value) : Bk (w.setCell ⟨R2, i, none⟩ u) R vs T := by
  unfold Bk; rw [heap_setCell_other _ _ _ _ hne]; exact h
def RetUB (w : World) (B : Nat) (vs : List Value) (T : TypeId) (e : Ending) (w2 : World) : Prop := e = .returned (.tuple #[]) ∧ Bk w2 B vs T ∧ But B w w2
set_option maxRecDepth 100000 in
set_option maxHeartbeats 8000000 in
theorem pair_one (B bm cm br cr bc cc bo co : Nat) (hcm : 1 ≤ cm) (w : World) (hB : Bk w B (bldC bm cm 2 br cr bc cc) 182) (hM : At w bm [.slice (some ⟨bo, 0, none⟩) 1 co]) : Calls Tryz.prog 95 #[.pointer (some ⟨B, 0, none⟩)] w (RetUB w B (bldC bm cm 2 br cr bc cc) 182) := by
  have C1 := hB.at_.all
  simp only [cellsAre, bldC, Nat.zero_add, Nat.reduceAdd, and_true] at C1
  have U1 := ups hB.lt
  go_enter Tryz.func95, Tryz.ntmps95
  go_wp2_with fail
  refine wp_loop_rounds 1 ?_
  rw [rounds_succ]
  go_wp2_with fail
  have Q1 := Bk.mk w [.pointer (some ⟨B, 0, none⟩)] 179 rfl
  have HX := bpush (b0 w) (.cells #[.pointer (some ⟨B, 0, none⟩)] 179)
  obtain ⟨Q, hQ⟩ : ∃ Q, Q = w.heap.size := ⟨_, rfl⟩
  have hne : B ≠ Q := by have := hB.lt; omega
  rw [← hQ] at Q1 ⊢
  clear hQ
  generalize w.alloc (.cells #[.pointer (some ⟨B, 0, none⟩)] 179) = wx at *
  have B1 := hB.below HX
  have M1 := hM.below HX
  clear C1 U1 hB hM
  have C1 := B1.at_.all
  simp only [cellsAre, bldC, Nat.zero_add, Nat.reduceAdd, and_true] at C1
  have C2 := Q1.at_.all
  simp only [cellsAre, and_true] at C2
  have C3 := M1.all
  simp only [cellsAre, and_true] at C3
  have F1 := B1.fz 1
  obtain ⟨k0, k1, k2, k3, k4, k5, k6, k7, k8, k9, k10, k11, k12, k13, k14, k15, k16, k17, k18, k19⟩ := C1
  have BI := Lib.hid (fun W (h : Below wx.heap.size wx W) => builtin_one 2 bm cm br cr bc cc 0 (IntKind.i64.wrap 1) bo co hcm W (M1.below h))
  have KS : Hid (∀ W, Bk W B (bldC bm cm 2 br cr bc cc) 182 → Bk W Q [.pointer (some ⟨B, 0, none⟩)] 179 → W.frozen? ⟨B, 1, none⟩ = false ∧ W.cell? ⟨Q, 0, none⟩ = some (.pointer (some ⟨B, 0, none⟩)) ∧ W.cell? ⟨B, 0, none⟩ = some (.slice (some ⟨bm, 0, none⟩) 1 cm) ∧ W.cell? ⟨B, 1, none⟩ = some (.slice none 0 0) ∧ W.cell? ⟨B, 2, none⟩ = some (.slice none 0 0) ∧ W.cell? ⟨B, 3, none⟩ = some (.int .i64 2) ∧ W.cell? ⟨B, 4, none⟩ = some (.int .i64 1) ∧ W.cell? ⟨B, 5, none⟩ = some (.int .i64 1) ∧ W.cell? ⟨B, 6, none⟩ = some (.int .i64 480) ∧ W.cell? ⟨B, 7, none⟩ = some (.int .i64 45) ∧ W.cell? ⟨B, 8, none⟩ = some (.int .i64 2) ∧ W.cell? ⟨B, 9, none⟩ = some (.int .i64 1) ∧ W.cell? ⟨B, 10, none⟩ = some (.slice none 0 0) ∧ W.cell? ⟨B, 11, none⟩ = some (.slice (some ⟨br, 0, none⟩) 1 cr) ∧ W.cell? ⟨B, 12, none⟩ = some (.slice none 0 0) ∧ W.cell? ⟨B, 13, none⟩ = some (.slice none 0 0) ∧ W.cell? ⟨B, 14, none⟩ = some (.slice none 0 0) ∧ W.cell? ⟨B, 15, none⟩ = some (.slice (some ⟨bc, 0, none⟩) 1 cc) ∧ W.cell? ⟨B, 16, none⟩ = some (.slice none 0 0) ∧ W.cell? ⟨B, 17, none⟩ = some (.slice none 0 0) ∧ W.cell? ⟨B, 18, none⟩ = some (.slice none 0 0)) := Lib.hid fun W h g => ⟨h.fz 1, g.at_ 0 _ rfl, h.at_ 0 _ rfl, h.at_ 1 _ rfl, h.at_ 2 _ rfl, h.at_ 3 _ rfl, h.at_ 4 _ rfl, h.at_ 5 _ rfl, h.at_ 6 _ rfl, h.at_ 7 _ rfl, h.at_ 8 _ rfl, h.at_ 9 _ rfl, h.at_ 10 _ rfl, h.at_ 11 _ rfl, h.at_ 12 _ rfl, h.at_ 13 _ rfl, h.at_ 14 _ rfl, h.at_ 15 _ rfl, h.at_ 16 _ rfl, h.at_ 17 _ rfl, h.at_ 18 _ rfl⟩
  have BD := Lib.hid (bdrw (b0 wx))
  go_region_held3 (fun w' => w'.frozen? ⟨B, 1, none⟩ = false ∧ w'.cell? ⟨Q, 0, none⟩ = some (.pointer (some ⟨B, 0, none⟩)) ∧ w'.cell? ⟨B, 0, none⟩ = some (.slice (some ⟨bm, 0, none⟩) 1 cm) ∧ w'.cell? ⟨B, 1, none⟩ = some (.slice none 0 0) ∧ w'.cell? ⟨B, 2, none⟩ = some (.slice none 0 0) ∧ w'.cell? ⟨B, 3, none⟩ = some (.int .i64 2) ∧ w'.cell? ⟨B, 4, none⟩ = some (.int .i64 1) ∧ w'.cell? ⟨B, 5, none⟩ = some (.int .i64 1) ∧ w'.cell? ⟨B, 6, none⟩ = some (.int .i64 480) ∧ w'.cell? ⟨B, 7, none⟩ = some (.int .i64 45) ∧ w'.cell? ⟨B, 8, none⟩ = some (.int .i64 2) ∧ w'.cell? ⟨B, 9, none⟩ = some (.int .i64 1) ∧ w'.cell? ⟨B, 10, none⟩ = some (.slice none 0 0) ∧ w'.cell? ⟨B, 11, none⟩ = some (.slice (some ⟨br, 0, none⟩) 1 cr) ∧ w'.cell? ⟨B, 12, none⟩ = some (.slice none 0 0) ∧ w'.cell? ⟨B, 13, none⟩ = some (.slice none 0 0) ∧ w'.cell? ⟨B, 14, none⟩ = some (.slice none 0 0) ∧ w'.cell? ⟨B, 15, none⟩ = some (.slice (some ⟨bc, 0, none⟩) 1 cc) ∧ w'.cell? ⟨B, 16, none⟩ = some (.slice none 0 0) ∧ w'.cell? ⟨B, 17, none⟩ = some (.slice none 0 0) ∧ w'.cell? ⟨B, 18, none⟩ = some (.slice none 0 0)) (first | exact KS.out _ (B1.below BQ.out) (Q1.below BQ.out) | exact KS.out _ ((B1.below BQ.out).set 1 _) ((Q1.below BQ.out).other hne.symm _ _) | go_keep) ((go_at_call 158; (with_reducible refine (BI.out _ BD.out).mono ?_); rintro e w4 ⟨rfl, hb⟩; have BQ := Lib.hid (below3 BD.out hb)))
  refine bodyPost_ret (v := .tuple #[]) (by simp [results, Tryz.results95, go_sem]) rfl ?_
  exact ⟨rfl, (B1.below BQ.out).set 1 _, (But.of_below (below3 HX BQ.out)).trans (But.setCell _ B 1 _)⟩
end Go.Proofs.YtcifdllbnbhcdaaGreatDoor
namespace Go.Proofs.YtcifdllbnbhcdaaGreatDoor
open Go.RowKit
theorem Bk.drew {w : World} {R : Nat} {vs : List Value} {T : TypeId} (h : Bk w R vs T) : Bk w.drew R vs T := h
theorem At.far {w : World} {b R : Nat} {vs : List Value} (h : At w b vs) (hne : R ≠ b) (i : Nat) (u : Value) : At (w.setCell ⟨R, i, none⟩ u) b vs := fun j v hj => (World.cell?_setCell_far w _ _ _ hne).trans (h j v hj)
theorem At.but {w w2 : World} {b p : Nat} {vs : List Value} (h : At w b vs) (hb : But p w w2) (hne : p ≠ b) : At w2 b vs := fun j v hj => by
  rw [hb.cell (lt_of_cell (h j v hj)) hne.symm]; exact h j v hj
theorem Bk.but {w w2 : World} {b p : Nat} {vs : List Value} {T : TypeId} (h : Bk w b vs T) (hb : But p w w2) (hne : b ≠ p) : Bk w2 b vs T := by
  unfold Bk; rw [hb.block b h.lt hne]; exact h
def bld0 (br cr bc cc : Nat) : List Value := [.slice none 0 0, .slice none 0 0, .slice none 0 0, .int .i64 0, .int .i64 1, .int .i64 1, .int .i64 480, .int .i64 45, .int .i64 2, .int .i64 1, .slice none 0 0, .slice (some ⟨br, 0, none⟩) 1 cr, .slice none 0 0, .slice none 0 0, .slice none 0 0, .slice (some ⟨bc, 0, none⟩) 1 cc, .slice none 0 0, .slice none 0 0, .slice none 0 0, .slice none 0 0]
set_option maxRecDepth 100000 in
set_option maxHeartbeats 8000000 in
theorem comp_one (v : Value) (w : World) (h : RegAt w v) : Calls Tryz.prog 56 #[v, nilV] w (RetMod 2 w) := by
  have hmf : ∀ (fn : Fn) (first cap : Array Value) (w : World), (Instr.makeFunc fn first cap).run Tryz.prog w = .ok (.func fn first cap) w := fun _ _ _ _ => rfl
  obtain ⟨br, cr, bc, cc, bp, cp, rfl, hcap, h1, h2, h3⟩ := h
  have HR : RegBox (w.alloc (.cells (regC br cr bc cc).toArray 58)) w.heap.size br cr bc cc bp cp := ⟨hcap, At.mk w (regC br cr bc cc) 58 rfl, h1.push _, h2.push _, h3.push _⟩
  replace HR := HR.below (bpush (b0 _) (.cells zmC.toArray 105))
  have HZ := Bk.mk (w.alloc (.cells (regC br cr bc cc).toArray 58)) zmC 105 (n := w.heap.size + 1) (by simp)
  have HB := bpush (bpush (b0 w) (.cells (regC br cr bc cc).toArray 58)) (.cells zmC.toArray 105)
  clear h1 h2 h3
  go_enter Tryz.func56, Tryz.ntmps56
  go_wp2_with fail
  refine (reg_ok _ _ HR.reg).mono ?_
  rintro e w1 ⟨rfl, hb⟩
  replace HR := HR.below hb
  replace HZ := HZ.below hb
  replace HB := below3 HB hb
  clear hb
  obtain ⟨R, hR⟩ : ∃ R, R = w.heap.size := ⟨_, rfl⟩
  obtain ⟨Z, hZ⟩ : ∃ Z, Z = w.heap.size + 1 := ⟨_, rfl⟩
  have hlo : w.heap.size ≤ Z := by omega
  rw [← hZ] at HZ ⊢
  rw [← hR] at HR ⊢
  clear hR hZ
  have C1 := HR.box.all
  simp only [cellsAre, regC, Nat.zero_add, Nat.reduceAdd, and_true] at C1
  have U1 := ups HR.lt
  go_wp2_with fail
  refine wp_loop_rounds 1 ?_
  rw [rounds_succ]
  go_wp2_with fail
  refine (mcls_one _ _ ((HR.below (bpush (b0 w1) (.cells (bld0 br cr bc cc).toArray 182))).reg)).mono ?_
  rintro e w2 ⟨v2, rfl, ⟨bm, cm, bo, co, rfl, ⟨hcm, hco⟩, hM1, hM2⟩, hb⟩
  have HK := (Bk.mk w1 (bld0 br cr bc cc) 182 rfl).below hb
  have hne : Z ≠ w1.heap.size := by have := HZ.lt; omega
  replace HZ := (HZ.push (.cells (bld0 br cr bc cc).toArray 182)).below hb
  have hlB := HB.size
  replace HB := below3 HB (below2 hb)
  obtain ⟨B, hB⟩ : ∃ B, B = w1.heap.size := ⟨_, rfl⟩
  rw [← hB] at HK hlB hne ⊢
  clear hb C1 U1 hB HR
  have C1 := HK.at_.all
  simp only [cellsAre, bld0, Nat.zero_add, Nat.reduceAdd, and_true] at C1
  have F1 := HK.fz4
  have U1 := ups HK.lt
  have n1 : B ≠ bm := fun e => by subst e; have a := hM1 0 _ rfl; rw [C1.1] at a; cases a
  have n2 : B ≠ bo := fun e => by subst e; have a := hM2 0 _ rfl; rw [C1.1] at a; cases a
  go_wp2_with fail
  have K5 : Bk (((((w2.setCell ⟨B, 0, none⟩ (.slice (some ⟨bm, 0, none⟩) 1 cm)).setCell ⟨B, 1, none⟩ (.slice none 0 0)).setCell ⟨B, 2, none⟩ (.slice none 0 0)).setCell ⟨B, 3, none⟩ (.int .i64 0)).setCell ⟨B, 3, none⟩ (.int .i64 2)) B (bldC bm cm 2 br cr bc cc) 182 := ((((HK.set 0 _).set 1 _).set 2 _).set 3 _).set 3 _
  have Z5 := ((((HZ.other hne 0 (.slice (some ⟨bm, 0, none⟩) 1 cm)).other hne 1 (.slice none 0 0)).other hne 2 (.slice none 0 0)).other hne 3 (.int .i64 0)).other hne 3 (.int .i64 2)
  have M5 := ((((hM1.far n1 0 (.slice (some ⟨bm, 0, none⟩) 1 cm)).far n1 1 (.slice none 0 0)).far n1 2 (.slice none 0 0)).far n1 3 (.int .i64 0)).far n1 3 (.int .i64 2)
  have O5 := ((((hM2.far n2 0 (.slice (some ⟨bm, 0, none⟩) 1 cm)).far n2 1 (.slice none 0 0)).far n2 2 (.slice none 0 0)).far n2 3 (.int .i64 0)).far n2 3 (.int .i64 2)
  have B5 := bset (bset (bset (bset (bset HB hlB 0 (.slice (some ⟨bm, 0, none⟩) 1 cm)) hlB 1 (.slice none 0 0)) hlB 2 (.slice none 0 0)) hlB 3 (.int .i64 0)) hlB 3 (.int .i64 2)
  have hs5 : (((((w2.setCell ⟨B, 0, none⟩ (.slice (some ⟨bm, 0, none⟩) 1 cm)).setCell ⟨B, 1, none⟩ (.slice none 0 0)).setCell ⟨B, 2, none⟩ (.slice none 0 0)).setCell ⟨B, 3, none⟩ (.int .i64 0)).setCell ⟨B, 3, none⟩ (.int .i64 2)).heap.size = w2.heap.size := by simp
  generalize ((((w2.setCell ⟨B, 0, none⟩ (.slice (some ⟨bm, 0, none⟩) 1 cm)).setCell ⟨B, 1, none⟩ (.slice none 0 0)).setCell ⟨B, 2, none⟩ (.slice none 0 0)).setCell ⟨B, 3, none⟩ (.int .i64 0)).setCell ⟨B, 3, none⟩ (.int .i64 2) = w5 at *
  clear HK HZ hM1 hM2 HB C1 F1 U1
  have G5 := Bk.mk w5 [.func (.func 94) #[.pointer (some ⟨B, 0, none⟩)] #[], .func (.func 95) #[.pointer (some ⟨B, 0, none⟩)] #[], .func (.func 96) #[.pointer (some ⟨B, 0, none⟩)] #[]] 1 hs5
  have nG : w2.heap.size ≠ B := by have := K5.lt; omega
  replace K5 := K5.push (.cells #[.func (.func 94) #[.pointer (some ⟨B, 0, none⟩)] #[], .func (.func 95) #[.pointer (some ⟨B, 0, none⟩)] #[], .func (.func 96) #[.pointer (some ⟨B, 0, none⟩)] #[]] 1)
  replace Z5 := Z5.push (.cells #[.func (.func 94) #[.pointer (some ⟨B, 0, none⟩)] #[], .func (.func 95) #[.pointer (some ⟨B, 0, none⟩)] #[], .func (.func 96) #[.pointer (some ⟨B, 0, none⟩)] #[]] 1)
  replace M5 := M5.push (.cells #[.func (.func 94) #[.pointer (some ⟨B, 0, none⟩)] #[], .func (.func 95) #[.pointer (some ⟨B, 0, none⟩)] #[], .func (.func 96) #[.pointer (some ⟨B, 0, none⟩)] #[]] 1)
  replace O5 := O5.push (.cells #[.func (.func 94) #[.pointer (some ⟨B, 0, none⟩)] #[], .func (.func 95) #[.pointer (some ⟨B, 0, none⟩)] #[], .func (.func 96) #[.pointer (some ⟨B, 0, none⟩)] #[]] 1)
  replace B5 := bpush B5 (.cells #[.func (.func 94) #[.pointer (some ⟨B, 0, none⟩)] #[], .func (.func 95) #[.pointer (some ⟨B, 0, none⟩)] #[], .func (.func 96) #[.pointer (some ⟨B, 0, none⟩)] #[]] 1)
  obtain ⟨G, hG⟩ : ∃ G, G = w2.heap.size := ⟨_, rfl⟩
  rw [← hG] at G5 nG ⊢
  clear hG hs5
  generalize w5.alloc (.cells #[.func (.func 94) #[.pointer (some ⟨B, 0, none⟩)] #[], .func (.func 95) #[.pointer (some ⟨B, 0, none⟩)] #[], .func (.func 96) #[.pointer (some ⟨B, 0, none⟩)] #[]] 1) = w6 at *
  have C1 := G5.at_.all
  simp only [cellsAre, Nat.zero_add, Nat.reduceAdd, and_true] at C1
  refine wp_loop_rounds 4 ?_
  rw [rounds_succ]
  go_wp2_with fail
  refine (charge_one B bm cm br cr bc cc bo co hcm _ K5 M5).mono ?_
  rintro e w' ⟨rfl, rfl⟩
  go_wp2_with fail
  rw [rounds_succ]
  go_wp2_with fail
  refine (pair_one B bm cm br cr bc cc bo co hcm _ K5 M5).mono ?_
  rintro e w7 ⟨rfl, K7, hbt⟩
  have G7 := G5.but hbt nG
  have Z7 := Z5.but hbt hne
  have M7 := M5.but hbt n1
  have O7 := O5.but hbt n2
  have B7 := But.below B5 hbt hlB B5.size
  clear K5 G5 Z5 M5 O5 C1
  have C1 := G7.at_.all
  simp only [cellsAre, Nat.zero_add, Nat.reduceAdd, and_true] at C1
  go_wp2_with fail
  rw [rounds_succ]
  go_wp2_with fail
  refine (count_one B bm cm br cr bc cc _ K7).mono ?_
  rintro e w' ⟨rfl, rfl⟩
  go_wp2_with fail
  rw [rounds_succ]
  have C2 := K7.at_.all
  simp only [cellsAre, bldC, Nat.zero_add, Nat.reduceAdd, and_true] at C2
  have C3 := Z7.at_.all
  simp only [cellsAre, zmC, Nat.zero_add, Nat.reduceAdd, and_true] at C3
  have F3 := Z7.fz4
  have n3 : Z ≠ bm := fun e => by subst e; have a := M7 0 _ rfl; rw [C3.1] at a; cases a
  have n4 : Z ≠ bo := fun e => by subst e; have a := O7 0 _ rfl; rw [C3.1] at a; cases a
  go_wp2_with fail
  refine bodyPost_ret (v := .tuple #[modV bm cm 2, .int .i64 0]) (by simp [results, Tryz.results56, go_sem, C3]) rfl ?_
  refine ⟨_, rfl, ⟨bm, cm, bo, co, rfl, ⟨hcm, hco⟩, ?_, ?_⟩, ?_⟩
  · exact (((M7.far n3 _ _).far n3 _ _).far n3 _ _).far n3 _ _
  · exact (((O7.far n4 _ _).far n4 _ _).far n4 _ _).far n4 _ _
  · exact bset (bset (bset (bset B7 hlo _ _) hlo _ _) hlo _ _) hlo _ _
end Go.Proofs.YtcifdllbnbhcdaaGreatDoor
namespace Go.Proofs.YtcifdllbnbhcdaaGreatDoor
open Go.RowKit
set_option maxRecDepth 100000 in
set_option maxHeartbeats 4000000 in
theorem prob_one (v : Value) (w : World) (h : RegAt w v) : Calls Tryz.prog 33 #[v, nilV, nilV, .int .i64 0] w (RetMod 2 w) := by
  obtain ⟨br, cr, bc, cc, bp, cp, rfl, hcap, h1, h2, h3⟩ := h
  have HR : RegBox (w.alloc (.cells (regC br cr bc cc).toArray 58)) w.heap.size br cr bc cc bp cp := ⟨hcap, At.mk w (regC br cr bc cc) 58 rfl, h1.push _, h2.push _, h3.push _⟩
  replace HR := HR.below (bpush (b0 _) (.cells zmC.toArray 105))
  have HZ := Bk.mk (w.alloc (.cells (regC br cr bc cc).toArray 58)) zmC 105 (n := w.heap.size + 1) (by simp)
  have HB := bpush (bpush (b0 w) (.cells (regC br cr bc cc).toArray 58)) (.cells zmC.toArray 105)
  clear h1 h2 h3
  go_enter Tryz.func33, Tryz.ntmps33
  go_wp2_with fail
  refine (comp_one _ _ HR.reg).mono ?_
  rintro e w1 ⟨v1, rfl, ⟨bm, cm, bo, co, rfl, hcs, hM1, hM2⟩, hb⟩
  replace HR := HR.below hb
  replace HZ := HZ.below hb
  replace HB := below3 HB hb
  clear hb
  obtain ⟨R, hR⟩ : ∃ R, R = w.heap.size := ⟨_, rfl⟩
  obtain ⟨Z, hZ⟩ : ∃ Z, Z = w.heap.size + 1 := ⟨_, rfl⟩
  have hlo : w.heap.size ≤ Z := by omega
  rw [← hZ] at HZ ⊢
  rw [← hR] at HR ⊢
  clear hR hZ
  have C1 := HR.box.all
  simp only [cellsAre, regC, Nat.zero_add, Nat.reduceAdd, and_true] at C1
  have U1 := ups HR.lt
  go_wp2_with fail
  refine (sect_nil _ _ (HR.below (bpush (b0 w1) (.cells #[.slice (some ⟨bm, 0, none⟩) 1 cm, .slice none 0 0, .slice none 0 0, .int .i64 2] 105))).reg).mono ?_
  rintro e w2 ⟨rfl, hb⟩
  have HT := (At.mk w1 [.slice (some ⟨bm, 0, none⟩) 1 cm, .slice none 0 0, .slice none 0 0, .int .i64 2] 105 rfl).below hb
  have hb2 := below2 hb
  replace HZ := HZ.below hb2
  replace HB := below3 HB hb2
  replace hM1 := hM1.below hb2
  replace hM2 := hM2.below hb2
  clear hb hb2 C1 U1 HR
  have C1 := HT.all
  simp only [cellsAre, Nat.zero_add, Nat.reduceAdd, and_true] at C1
  have C3 := HZ.at_.all
  simp only [cellsAre, zmC, Nat.zero_add, Nat.reduceAdd, and_true] at C3
  have F3 := HZ.fz4
  have n3 : Z ≠ bm := fun e => by subst e; have a := hM1 0 _ rfl; rw [C3.1] at a; cases a
  have n4 : Z ≠ bo := fun e => by subst e; have a := hM2 0 _ rfl; rw [C3.1] at a; cases a
  go_wp2_with fail
  refine bodyPost_ret (v := .tuple #[modV bm cm 2, .int .i64 0]) (by simp [results, Tryz.results33, go_sem, C3]) rfl ?_
  refine ⟨_, rfl, ⟨bm, cm, bo, co, rfl, hcs, ?_, ?_⟩, ?_⟩
  · exact (((hM1.far n3 _ _).far n3 _ _).far n3 _ _).far n3 _ _
  · exact (((hM2.far n4 _ _).far n4 _ _).far n4 _ _).far n4 _ _
  · exact bset (bset (bset (bset HB hlo _ _) hlo _ _) hlo _ _) hlo _ _
end Go.Proofs.YtcifdllbnbhcdaaGreatDoor
namespace Go.Proofs.YtcifdllbnbhcdaaGreatDoor
open Go.RowKit
theorem eql_nil {t e : Nat} (h : Tryz.prog.underlying t = some (.slice e)) (a : Option Addr) (l c : Nat) (w : World) : (binOp .eql t (.slice a l c) (.slice none 0 0)).run Tryz.prog w = .ok (.bool a.isNone) w := by
  simp only [binOp]
  simp [run_equal_slice_nil w t e a l c h]
def Rw (w : World) (R : Nat) (vs : List Value) (T : TypeId) : Prop := ∃ xs : Array Value, w.heap[R]? = some (.cells (vs.toArray ++ xs) T (0, 0))
section
variable {w w2 : World} {R R2 p : Nat} {vs : List Value} {T : TypeId}
theorem Rw.lt (h : Rw w R vs T) : R < w.heap.size := by obtain ⟨_, h⟩ := h; exact lt_of_heap h
theorem Rw.mk (w : World) (vs : List Value) (xs : Array Value) (T : TypeId) {n : Nat} (hn : w.heap.size = n) : Rw (w.alloc (.cells (vs.toArray ++ xs) T)) n vs T := by
  subst hn; exact ⟨xs, heap_alloc_new _ _⟩
theorem Rw.below (h : Rw w R vs T) (hb : Below w.heap.size w w2) : Rw w2 R vs T := by
  have hl := h.lt
  obtain ⟨xs, h⟩ := h
  exact ⟨xs, by rw [hb.block R hl]; exact h⟩
theorem Rw.but (h : Rw w R vs T) (hb : But p w w2) (hne : R ≠ p) : Rw w2 R vs T := by
  have hl := h.lt
  obtain ⟨xs, h⟩ := h
  exact ⟨xs, by rw [hb.block R hl hne]; exact h⟩
theorem Rw.at_ (h : Rw w R vs T) : At w R vs := fun i v hi => by
  obtain ⟨xs, h⟩ := h
  have hl : i < vs.length := (List.getElem?_eq_some_iff.1 hi).1
  rw [cell_of_row _ _ i _ _ _ h, Array.getElem?_append_left (by simpa using hl), List.getElem?_toArray]; exact hi
theorem Rw.fz (h : Rw w R vs T) (i : Nat) : w.frozen? ⟨R, i, none⟩ = false := by obtain ⟨_, h⟩ := h; exact frozen_of_row _ _ _ _ _ h
theorem Rw.set (h : Rw w R vs T) (i : Nat) (hi : i < vs.length) (u : Value) : Rw (w.setCell ⟨R, i, none⟩ u) R (vs.set i u) T := by
  obtain ⟨xs, h⟩ := h
  have : (w.setCell ⟨R, i, none⟩ u).heap[R]? = _ := heap_setCell_same _ R i _ _ _ h
  refine ⟨xs, ?_⟩
  rw [this]
  simp [hi]
theorem Rw.other (h : Rw w R vs T) (hne : R ≠ R2) (i : Nat) (u : Value) : Rw (w.setCell ⟨R2, i, none⟩ u) R vs T := by
  obtain ⟨xs, h⟩ := h
  exact ⟨xs, by rw [heap_setCell_other _ _ _ _ hne]; exact h⟩
end
def RetR (vs : List Value) (T : TypeId) (w : World) (e : Ending) (w2 : World) : Prop := ∃ b c, e = .returned (.slice (some ⟨b, 0, none⟩) 1 c) ∧ 1 ≤ c ∧ w.heap.size ≤ b ∧ Rw w2 b vs T ∧ Below w.heap.size w w2
theorem clnStr_nil (w : World) : Calls Tryz.prog 63 #[nilV] w (RetS nilV w) := by
  have he := eql_nil Tryz.underlying49
  go_enter Tryz.func63, Tryz.ntmps63
  go_wp2_with fail
  go_ret
  exact ⟨rfl, rfl⟩
theorem clnTim_nil (w : World) : Calls Tryz.prog 62 #[nilV] w (RetS nilV w) := by
  have he := eql_nil Tryz.underlying76
  go_enter Tryz.func62, Tryz.ntmps62
  go_wp2_with fail
  go_ret
  exact ⟨rfl, rfl⟩
theorem clnInt_nil (w : World) : Calls Tryz.prog 28 #[nilV] w (RetS nilV w) := by
  have he := eql_nil Tryz.underlying22
  go_enter Tryz.func28, Tryz.ntmps28
  go_wp2_with fail
  go_ret
  exact ⟨rfl, rfl⟩
theorem clnRow_nil (w : World) : Calls Tryz.prog 172 #[nilV] w (RetS nilV w) := by
  have he := eql_nil Tryz.underlying50
  go_enter Tryz.func172, Tryz.ntmps172
  go_wp2_with fail
  go_ret
  exact ⟨rfl, rfl⟩
theorem clnLec_nil (w : World) : Calls Tryz.prog 174 #[nilV] w (RetS nilV w) := by
  have he := eql_nil Tryz.underlying53
  go_enter Tryz.func174, Tryz.ntmps174
  go_wp2_with fail
  go_ret
  exact ⟨rfl, rfl⟩
theorem clnSta_nil (w : World) : Calls Tryz.prog 176 #[nilV] w (RetS nilV w) := by
  have he := eql_nil Tryz.underlying111
  go_enter Tryz.func176, Tryz.ntmps176
  go_wp2_with fail
  go_ret
  exact ⟨rfl, rfl⟩
theorem clnCur_nil (w : World) : Calls Tryz.prog 177 #[nilV] w (RetS nilV w) := by
  have he := eql_nil Tryz.underlying55
  go_enter Tryz.func177, Tryz.ntmps177
  go_wp2_with fail
  go_ret
  exact ⟨rfl, rfl⟩
theorem clnReq_nil (w : World) : Calls Tryz.prog 178 #[nilV] w (RetS nilV w) := by
  have he := eql_nil Tryz.underlying56
  go_enter Tryz.func178, Tryz.ntmps178
  go_wp2_with fail
  go_ret
  exact ⟨rfl, rfl⟩
theorem clnRul_nil (w : World) : Calls Tryz.prog 60 #[nilV] w (RetS nilV w) := by
  have he := eql_nil Tryz.underlying59
  go_enter Tryz.func60, Tryz.ntmps60
  go_wp2_with fail
  go_ret
  exact ⟨rfl, rfl⟩
theorem clnEnr_nil (w : World) : Calls Tryz.prog 64 #[nilV] w (RetS nilV w) := by
  have he := eql_nil Tryz.underlying60
  go_enter Tryz.func64, Tryz.ntmps64
  go_wp2_with fail
  go_ret
  exact ⟨rfl, rfl⟩
theorem clnInc_nil (w : World) : Calls Tryz.prog 65 #[nilV] w (RetS nilV w) := by
  have he := eql_nil Tryz.underlying61
  go_enter Tryz.func65, Tryz.ntmps65
  go_wp2_with fail
  go_ret
  exact ⟨rfl, rfl⟩
theorem clnSes_nil (w : World) : Calls Tryz.prog 67 #[nilV] w (RetS nilV w) := by
  have he := eql_nil Tryz.underlying66
  go_enter Tryz.func67, Tryz.ntmps67
  go_wp2_with fail
  go_ret
  exact ⟨rfl, rfl⟩
theorem clnVer_nil (w : World) : Calls Tryz.prog 68 #[nilV] w (RetS nilV w) := by
  have he := eql_nil Tryz.underlying65
  go_enter Tryz.func68, Tryz.ntmps68
  go_wp2_with fail
  go_ret
  exact ⟨rfl, rfl⟩
theorem clnByt_nil (w : World) : Calls Tryz.prog 66 #[nilV] w (RetS nilV w) := by
  have he := eql_nil Tryz.underlying62
  go_enter Tryz.func66, Tryz.ntmps66
  go_wp2_with fail
  go_ret
  exact ⟨rfl, rfl⟩
set_option maxRecDepth 100000 in
theorem clnRoom_one (p q : Nat) (_hq : 1 ≤ q) (w : World) (h : At w p roomC) : Calls Tryz.prog 173 #[.slice (some ⟨p, 0, none⟩) 1 q] w (RetR roomC 110 w) := by
  have C1 := h.all
  simp only [cellsAre, roomC, Nat.zero_add, Nat.reduceAdd, and_true] at C1
  have U1 := ups (lt_of_cell (h 0 _ rfl))
  have he := eql_nil Tryz.underlying48
  go_enter Tryz.func173, Tryz.ntmps173
  go_wp2_with fail
  have hc := cap_ge 1 0 110 (w.tape w.drawn (Question.appendCap 1 0 110))
  generalize (Question.appendCap 1 0 110).cut (w.tape w.drawn (Question.appendCap 1 0 110)) = c at hc ⊢
  go_ret
  exact ⟨_, _, rfl, hc, Nat.le_succ _, (Rw.mk (w.alloc (.cells #[] 110)) roomC _ 110 (by simp)).below (bdrw (b0 _)), bdrw (bpush (bpush (b0 _) _) _)⟩
set_option maxRecDepth 100000 in
theorem clnCls_one (bp cp : Nat) (p q : Nat) (_hq : 1 ≤ q) (w : World) (h : At w p (claC bp cp)) : Calls Tryz.prog 175 #[.slice (some ⟨p, 0, none⟩) 1 q] w (RetR (claC bp cp) 113 w) := by
  have C1 := h.all
  simp only [cellsAre, claC, Nat.zero_add, Nat.reduceAdd, and_true] at C1
  have U1 := ups (lt_of_cell (h 0 _ rfl))
  have he := eql_nil Tryz.underlying54
  go_enter Tryz.func175, Tryz.ntmps175
  go_wp2_with fail
  have hc := cap_ge 1 0 113 (w.tape w.drawn (Question.appendCap 1 0 113))
  generalize (Question.appendCap 1 0 113).cut (w.tape w.drawn (Question.appendCap 1 0 113)) = c at hc ⊢
  go_ret
  exact ⟨_, _, rfl, hc, Nat.le_succ _, (Rw.mk (w.alloc (.cells #[] 113)) (claC bp cp) _ 113 (by simp)).below (bdrw (b0 _)), bdrw (bpush (bpush (b0 _) _) _)⟩
set_option maxRecDepth 100000 in
theorem clnNum_one (p q : Nat) (_hq : 1 ≤ q) (w : World) (h : At w p [.int .i64 1]) : Calls Tryz.prog 28 #[.slice (some ⟨p, 0, none⟩) 1 q] w (RetR [.int .i64 1] 3 w) := by
  have C1 := h.all
  simp only [cellsAre, and_true] at C1
  have U1 := ups (lt_of_cell (h 0 _ rfl))
  have he := eql_nil Tryz.underlying22
  go_enter Tryz.func28, Tryz.ntmps28
  go_wp2_with fail
  have hc := cap_ge 1 0 3 (w.tape w.drawn (Question.appendCap 1 0 3))
  generalize (Question.appendCap 1 0 3).cut (w.tape w.drawn (Question.appendCap 1 0 3)) = c at hc ⊢
  go_ret
  exact ⟨_, _, rfl, hc, Nat.le_succ _, (Rw.mk (w.alloc (.cells #[] 3)) [.int .i64 1] _ 3 (by simp)).below (bdrw (b0 _)), bdrw (bpush (bpush (b0 _) _) _)⟩
end Go.Proofs.YtcifdllbnbhcdaaGreatDoor
