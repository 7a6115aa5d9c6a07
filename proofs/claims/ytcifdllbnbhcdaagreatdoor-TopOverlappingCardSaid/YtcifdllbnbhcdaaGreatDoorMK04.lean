/- Texts KN, K23, K24, K25, ShelfK, K28, K29, K30, joined: walks and laws. -/
import Derived.Deep.MidRow
import Derived.Ground.Names2Prog
import Derived.Ground.SlbtProg
import Derived.Ground.SlgnProg
import Derived.Shelf.Bits.Mul64
import Derived.Shelf.LaysC
import Derived.Shelf.LaysM
import Derived.Test.YtcifdllbnbhcdaaGreatDoorMK03
import Derived.Test.YtcifdllbnbhcdaaGreatDoorProg
set_option linter.unusedSimpArgs false
set_option linter.unusedVariables false
namespace Go.Proofs.YtcifdllbnbhcdaaGreatDoor
open Go.RowKit
abbrev rowOk (T : TypeId) (n : Nat) : Prop := ((Tryz.prog.underlying T).any TypeDesc.isRow && ((Tryz.prog.info? T).map (·.size) == some n)) = true
theorem rowOk_parts {T : TypeId} {n : Nat} (h : rowOk T n) : ∃ d, Tryz.prog.underlying T = some d ∧ d.isRow = true ∧ (Tryz.prog.info? T).map (·.size) = some n := by
  obtain ⟨h1, h2⟩ := Bool.and_eq_true_iff.1 h
  rw [beq_iff_eq] at h2
  cases hu : Tryz.prog.underlying T with
  | none => rw [hu] at h1; cases h1
  | some d => rw [hu] at h1; exact ⟨d, rfl, h1, h2⟩
def splV (vs : List Value) (o : Nat) : List Value → List Value
  | [] => vs
  | v :: r => splV (vs.set o v) (o + 1) r
section
variable {a w : World} {l : List Blk} {R : Nat} {vs : List Value} {T : TypeId} {ty : Option TypeId}
theorem At.range (h : At w R vs) (o n : Nat) (hn : o + n ≤ vs.length) : w.rangeAt R o ((vs.drop o).take n) := fun j v hj => by
  refine h (o + j) v ?_
  have hl : j < n := by
    have := (List.getElem?_eq_some_iff.1 hj).1
    rw [List.length_take] at this; omega
  rwa [List.getElem?_take_of_lt hl, List.getElem?_drop] at hj
theorem Mem.loadV (h : Mem a w l) (k : Nat) (hk : l[k]? = some ⟨R, vs, ty⟩) (o n : Nat) (U : TypeId) (hU : ((Tryz.prog.underlying U).any TypeDesc.isRow && ((Tryz.prog.info? U).map (·.size) == some n)) = true) (hn : Nat.ble (o + n) vs.length = true) :
    (loadVar U ⟨R, o, none⟩).run Tryz.prog w = .ok (.agg ((vs.drop o).take n).toArray) w := by
  obtain ⟨d, h1, h2, h3⟩ := rowOk_parts hU
  have hn := Nat.le_of_ble_eq_true hn
  exact run_loadVar_mid w R o U _ d ((h.at_ k hk).range o n hn) h1 h2 (by rw [h3]; simp; omega)
theorem Mem.load (h : Mem a w l) (k : Nat) (hk : l[k]? = some ⟨R, vs, ty⟩) (o n : Nat) (U : TypeId) (hU : ((Tryz.prog.underlying U).any TypeDesc.isRow && ((Tryz.prog.info? U).map (·.size) == some n)) = true) (hn : Nat.ble (o + n) vs.length = true) :
    (Instr.loadAt U (.pointer (some ⟨R, o, none⟩))).run Tryz.prog w = .ok (.agg ((vs.drop o).take n).toArray) w := by
  obtain ⟨d, h1, h2, h3⟩ := rowOk_parts hU
  have hn := Nat.le_of_ble_eq_true hn
  exact run_loadAt_mid w R o U _ d ((h.at_ k hk).range o n hn) h1 h2 (by rw [h3]; simp; omega)
theorem Rw.setCells {R : Nat} {T : TypeId} : ∀ (cs : List Value) (vs : List Value) (o : Nat) {w : World}, Rw w R vs T → o + cs.length ≤ vs.length → Rw (w.setCells R o cs) R (splV vs o cs) T
  | [], _, _, _, h, _ => h
  | v :: r, vs, o, w, h, hl => by
    rw [World.setCells, splV]
    rw [List.length_cons] at hl
    exact Rw.setCells r (vs.set o v) (o + 1) (Rw.set h o (by omega) v) (by rw [List.length_set]; omega)
theorem But.setCells (p : Nat) : ∀ (cs : List Value) (o : Nat) {w : World}, But p w (w.setCells p o cs)
  | [], _, _ => But.refl _ _
  | v :: r, o, w' => (But.setCell w' p o v).trans (But.setCells p r (o + 1))
theorem Mem.there (h : Mem a w l) (k : Nat) (hk : l[k]? = some ⟨R, vs, some T⟩) (o n : Nat) (hn : o + n ≤ vs.length) : w.there R o n := fun j hj => by
  have hr := h.rw_ k hk
  have := hr.at_ (o + j) (vs[o + j]'(by omega)) (List.getElem?_eq_getElem (by omega))
  exact ⟨by rw [this]; rfl, hr.fz _⟩
theorem Mem.store (h : Mem a w l) (k : Nat) (hk : l[k]? = some ⟨R, vs, some T⟩) (o : Nat) (U : TypeId) (cs : List Value) (hU : ((Tryz.prog.underlying U).any TypeDesc.isRow && ((Tryz.prog.info? U).map (·.size) == some cs.length)) = true) (h1 : cs.all (·.oneCell') = true) (hn : Nat.ble (o + cs.length) vs.length = true) :
    (Instr.storeAt U (.pointer (some ⟨R, o, none⟩)) (.agg cs.toArray)).run Tryz.prog w = .ok () (w.setCells R o cs) := by
  obtain ⟨d, _, _, h3⟩ := rowOk_parts hU
  have hn := Nat.le_of_ble_eq_true hn
  exact run_storeAt_mid w R o U cs.toArray (h.there k hk o _ (by simpa using hn)) (by rw [h3]; simp) (all_oneCell_toArray (by simpa using h1))
theorem Mem.sets (h : Mem a w l) (k : Nat) (hk : l[k]? = some ⟨R, vs, some T⟩) (o : Nat) (cs : List Value) (hn : Nat.ble (o + cs.length) vs.length = true) : Mem a (w.setCells R o cs) (l.set k ⟨R, splV vs o cs, some T⟩) :=
  h.but k hk (But.setCells R cs o) ((h.rw_ k hk).setCells cs vs o (Nat.le_of_ble_eq_true hn))
theorem Mem.wpLoad (h : Mem a w l) (k : Nat) (hk : l[k]? = some ⟨R, vs, ty⟩) (o n : Nat) (U : TypeId) (hU : ((Tryz.prog.underlying U).any TypeDesc.isRow && ((Tryz.prog.info? U).map (·.size) == some n)) = true) (hn : Nat.ble (o + n) vs.length = true)
    {ops : Array Oper} {rest : List Oper} {op : Oper} {c : Act} {Q : Exit → Act → World → Prop} (hg : op.guard = none) {x : Operand} (ho : op.op = .load U x) (hx : c.eval x = .pointer (some ⟨R, o, none⟩))
    (hK : wpList Tryz.prog ops Q rest (c.put op.dst (.agg ((vs.drop o).take n).toArray)) w) : wpList Tryz.prog ops Q (op :: rest) c w := by
  obtain ⟨d, h1, h2, h3⟩ := rowOk_parts hU
  have hn := Nat.le_of_ble_eq_true hn
  exact wpList_load_mid hg U x ho R o hx _ d ((h.at_ k hk).range o n hn) h1 h2 (by rw [h3]; simp; omega) hK
theorem Mem.wpStore (h : Mem a w l) (k : Nat) (hk : l[k]? = some ⟨R, vs, some T⟩) (o : Nat) (U : TypeId) (cs : List Value) (hU : ((Tryz.prog.underlying U).any TypeDesc.isRow && ((Tryz.prog.info? U).map (·.size) == some cs.length)) = true) (h1 : cs.all (·.oneCell') = true) (hn : Nat.ble (o + cs.length) vs.length = true)
    {ops : Array Oper} {rest : List Oper} {op : Oper} {c : Act} {Q : Exit → Act → World → Prop} (hg : op.guard = none) {x y : Operand} (ho : op.op = .store U x y) (hx : c.eval x = .pointer (some ⟨R, o, none⟩)) (hy : c.eval y = .agg cs.toArray)
    (hK : wpList Tryz.prog ops Q rest (c.put op.dst undef) (w.setCells R o cs)) : wpList Tryz.prog ops Q (op :: rest) c w := by
  obtain ⟨d, _, _, h3⟩ := rowOk_parts hU
  have hn := Nat.le_of_ble_eq_true hn
  exact wpList_store_mid hg U x y ho R o cs.toArray hx hy (h.there k hk o _ (by simpa using hn)) (by rw [h3]; simp) (all_oneCell_toArray (by simpa using h1)) hK
theorem results_one {P : Program} {fn : Func} {tmps : Array Value} {x : Nat} {U : TypeId} {p : Addr} {v : Value} (hr : fn.results = #[.cell x U]) (ht : tmps[x]?.getD undef = .pointer (some p)) (hl : (loadVar U p).run P w = .ok v w) : (results fn tmps).run P w = .ok v w := by
  simp [results, hr, ht, asAddr, hl]
theorem results_two {P : Program} {fn : Func} {tmps : Array Value} {x y : Nat} {U : TypeId} {p : Addr} {v u : Value} (hr : fn.results = #[.cell x U, .tmp y]) (ht : tmps[x]?.getD undef = .pointer (some p)) (hy : tmps[y]?.getD undef = u) (hl : (loadVar U p).run P w = .ok v w) : (results fn tmps).run P w = .ok (.tuple #[v, u]) w := by
  simp [results, hr, ht, hy, asAddr, hl]
end
end Go.Proofs.YtcifdllbnbhcdaaGreatDoor
namespace Go.Proofs.YtcifdllbnbhcdaaGreatDoor
open Go.RowKit
def offC (br cr bc cc : Nat) : List Value := [.int .i64 1, .int .i64 1, .int .i64 480, .int .i64 45, .int .i64 2, .int .i64 1, .slice none 0 0, .slice (some ⟨br, 0, none⟩) 1 cr, .slice none 0 0, .slice none 0 0, .slice none 0 0, .slice (some ⟨bc, 0, none⟩) 1 cc, .slice none 0 0, .slice none 0 0, .slice none 0 0, .slice none 0 0, .int .i64 0, .int .i64 1, .slice none 0 0, .slice none 0 0, .int .i64 0, .slice none 0 0, .slice none 0 0]
abbrev offV (br cr bc cc : Nat) : Value := .agg #[.int .i64 1, .int .i64 1, .int .i64 480, .int .i64 45, .int .i64 2, .int .i64 1, .slice none 0 0, .slice (some ⟨br, 0, none⟩) 1 cr, .slice none 0 0, .slice none 0 0, .slice none 0 0, .slice (some ⟨bc, 0, none⟩) 1 cc, .slice none 0 0, .slice none 0 0, .slice none 0 0, .slice none 0 0, .int .i64 0, .int .i64 1, .slice none 0 0, .slice none 0 0, .int .i64 0, .slice none 0 0, .slice none 0 0]
def zoC : List Value := [.int .i64 0, .int .i64 0, .int .i64 0, .int .i64 0, .int .i64 0, .int .i64 0, .slice none 0 0, .slice none 0 0, .slice none 0 0, .slice none 0 0, .slice none 0 0, .slice none 0 0, .slice none 0 0, .slice none 0 0, .slice none 0 0, .slice none 0 0, .int .i64 0, .int .i64 0, .slice none 0 0, .slice none 0 0, .int .i64 0, .slice none 0 0, .slice none 0 0]
def OffN (w0 w : World) (v : Value) : Prop := ∃ br cr bc cc bp cp, v = offV br cr bc cc ∧ (1 ≤ cr ∧ 1 ≤ cc ∧ 1 ≤ cp) ∧ (w0.heap.size ≤ br ∧ w0.heap.size ≤ bc ∧ w0.heap.size ≤ bp) ∧ At w br roomC ∧ At w bc (claC bp cp) ∧ At w bp [.int .i64 1]
def OffAt (w : World) (v : Value) : Prop := ∃ br cr bc cc bp cp, v = offV br cr bc cc ∧ (1 ≤ cr ∧ 1 ≤ cc ∧ 1 ≤ cp) ∧ At w br roomC ∧ At w bc (claC bp cp) ∧ At w bp [.int .i64 1]
theorem OffN.off {w0 w : World} {v : Value} (h : OffN w0 w v) : OffAt w v := by
  obtain ⟨br, cr, bc, cc, bp, cp, h1, h2, _, h3, h4, h5⟩ := h
  exact ⟨br, cr, bc, cc, bp, cp, h1, h2, h3, h4, h5⟩
def RetOff (w : World) (e : Ending) (w2 : World) : Prop := ∃ v, e = .returned v ∧ OffN w w2 v ∧ Below w.heap.size w w2
def RetOffE (w : World) (e : Ending) (w2 : World) : Prop := ∃ v, e = .returned (.tuple #[v, .int .i64 0]) ∧ OffN w w2 v ∧ Below w.heap.size w w2
set_option maxRecDepth 100000 in
set_option maxHeartbeats 8000000 in
theorem otwin_one (v : Value) (w : World) (h : OffAt w v) : Calls Tryz.prog 34 #[v] w (RetOff w) := by
  obtain ⟨br, cr, bc, cc, bp, cp, rfl, hcap, h1, h2, h3⟩ := h
  have HM := ((Mem.reg h1 h2 h3).alloc (offC br cr bc cc) 70).alloc zoC 70
  simp only [World.size_alloc, World.size_drew, World.size_setCell] at HM
  clear h1 h2 h3
  go_enter Tryz.func34, Tryz.ntmps34
  go_wp2_with fail
  refine (appl_one _ _ ⟨br, cr, bc, cc, bp, cp, rfl, hcap, HM.at_ 2 rfl, HM.at_ 3 rfl, HM.at_ 4 rfl⟩).mono ?_
  rintro e w2 ⟨v2, rfl, ⟨b2, c2, d2, e2, f2, g2, rfl, hcap2, hlo, q1, q2, q3⟩, hb⟩
  have hs1 := HM.bl.size
  have HM : Mem w w2 [⟨b2, roomC, none⟩, ⟨d2, claC f2 g2, none⟩, ⟨f2, [.int .i64 1], none⟩, ⟨w.heap.size + 1, zoC, some 70⟩, ⟨w.heap.size, offC br cr bc cc, some 70⟩] := (((HM.addReg hb hlo q1 q2 q3).erase 7).erase 6 |>.erase 5)
  have hl2 : w.heap.size ≤ b2 ∧ w.heap.size ≤ d2 ∧ w.heap.size ≤ f2 := by omega
  clear hb q1 q2 q3 hs1 hlo
  obtain ⟨Z, hZ⟩ : ∃ n : Nat, n = w.heap.size + 1 := ⟨_, rfl⟩
  rw [← hZ] at HM ⊢
  clear hZ
  obtain ⟨R, hR⟩ : ∃ n : Nat, n = w.heap.size := ⟨_, rfl⟩
  rw [← hR] at HM ⊢
  clear hR
  dsimp only
  repeat (fail_if_success (refine wpList_store_mid rfl 58 _ _ rfl R 0 _ rfl rfl ?_ ?_ ?_ ?_)); go_step
  refine HM.wpStore 4 rfl 0 58 [.int .i64 1, .int .i64 1, .int .i64 480, .int .i64 45, .int .i64 2, .int .i64 1, .slice none 0 0, .slice (some ⟨b2, 0, none⟩) 1 c2, .slice none 0 0, .slice none 0 0, .slice none 0 0, .slice (some ⟨d2, 0, none⟩) 1 e2, .slice none 0 0, .slice none 0 0] (by kernel_rfl) (by kernel_rfl) rfl rfl rfl rfl rfl ?_
  go_upto_region 2 with fail
  replace HM : Mem w _ [⟨b2, roomC, none⟩, ⟨d2, claC f2 g2, none⟩, ⟨f2, [.int .i64 1], none⟩, ⟨Z, zoC, some 70⟩, ⟨R, offC b2 c2 d2 e2, some 70⟩] := HM.sets 4 rfl 0 [.int .i64 1, .int .i64 1, .int .i64 480, .int .i64 45, .int .i64 2, .int .i64 1, .slice none 0 0, .slice (some ⟨b2, 0, none⟩) 1 c2, .slice none 0 0, .slice none 0 0, .slice none 0 0, .slice (some ⟨d2, 0, none⟩) 1 e2, .slice none 0 0, .slice none 0 0] rfl
  obtain ⟨w3, hW, HM⟩ : ∃ W, W = _ ∧ Mem _ W _ := ⟨_, rfl, HM⟩
  rw [← hW]
  clear hW
  have C := HM.facts
  simp only [facts, cellsAre, lts, apart, offC, List.eraseIdx_cons_succ, List.eraseIdx_cons_zero, List.set_cons_zero, List.set_cons_succ, Nat.zero_add, Nat.reduceAdd, and_true] at C
  have F := HM.thaws
  simp only [thaws, List.eraseIdx_cons_succ, List.eraseIdx_cons_zero, List.set_cons_zero, List.set_cons_succ, Option.isSome_some, Option.isSome_none, Bool.false_eq_true, false_implies, forall_const, and_true, true_and] at F
  go_wp2_with (go_at_call 60; refine (clnRul_nil _).mono ?_; rintro e w9 ⟨rfl, rfl⟩)
  refine wp_loop_rounds 1 ?_
  rw [rounds_succ]
  go_wp2_with (go_at_call 64; refine (clnEnr_nil _).mono ?_; rintro e w9 ⟨rfl, rfl⟩)
  refine wp_loop_rounds 1 ?_
  rw [rounds_succ]
  go_wp2_with (go_at_call 65; refine (clnInc_nil _).mono ?_; rintro e w9 ⟨rfl, rfl⟩)
  refine wp_loop_rounds 1 ?_
  rw [rounds_succ]
  go_wp2_with (first
    | (go_at_call 66; refine (clnByt_nil _).mono ?_; rintro e w9 ⟨rfl, rfl⟩)
    | (go_at_call 67; refine (clnSes_nil _).mono ?_; rintro e w9 ⟨rfl, rfl⟩)
    | (go_at_call 68; refine (clnVer_nil _).mono ?_; rintro e w9 ⟨rfl, rfl⟩))
  clear C F
  replace HM : Mem w _ [⟨b2, roomC, none⟩, ⟨d2, claC f2 g2, none⟩, ⟨f2, [.int .i64 1], none⟩, ⟨Z, zoC, some 70⟩, ⟨R, offC b2 c2 d2 e2, some 70⟩] := ((((((HM.set 4 14 (.slice none 0 0) rfl rfl).set 4 15 (.slice none 0 0) rfl rfl).set 4 18 (.slice none 0 0) rfl rfl).set 4 19 (.slice none 0 0) rfl rfl).set 4 22 (.slice none 0 0) rfl rfl).set 4 21 (.slice none 0 0) rfl rfl)
  obtain ⟨w4, hW, HM⟩ : ∃ W, W = _ ∧ Mem _ W _ := ⟨_, rfl, HM⟩
  rw [← hW]
  clear hW
  have C := HM.facts
  simp only [facts, cellsAre, lts, apart, offC, List.eraseIdx_cons_succ, List.eraseIdx_cons_zero, List.set_cons_zero, List.set_cons_succ, Nat.zero_add, Nat.reduceAdd, and_true] at C
  have F := HM.thaws
  simp only [thaws, List.eraseIdx_cons_succ, List.eraseIdx_cons_zero, List.set_cons_zero, List.set_cons_succ, Option.isSome_some, Option.isSome_none, Bool.false_eq_true, false_implies, forall_const, and_true, true_and] at F
  refine wp_loop_rounds 1 ?_
  rw [rounds_succ]
  go_upto_region 37 with fail
  go_step
  refine HM.wpLoad 4 rfl 0 23 70 (by kernel_rfl) rfl rfl rfl rfl ?_
  refine HM.wpStore 3 rfl 0 70 [.int .i64 1, .int .i64 1, .int .i64 480, .int .i64 45, .int .i64 2, .int .i64 1, .slice none 0 0, .slice (some ⟨b2, 0, none⟩) 1 c2, .slice none 0 0, .slice none 0 0, .slice none 0 0, .slice (some ⟨d2, 0, none⟩) 1 e2, .slice none 0 0, .slice none 0 0, .slice none 0 0, .slice none 0 0, .int .i64 0, .int .i64 1, .slice none 0 0, .slice none 0 0, .int .i64 0, .slice none 0 0, .slice none 0 0] (by kernel_rfl) (by kernel_rfl) rfl rfl rfl rfl rfl ?_
  clear C F
  replace HM : Mem w _ [⟨b2, roomC, none⟩, ⟨d2, claC f2 g2, none⟩, ⟨f2, [.int .i64 1], none⟩, ⟨Z, offC b2 c2 d2 e2, some 70⟩] := (HM.sets 3 rfl 0 [.int .i64 1, .int .i64 1, .int .i64 480, .int .i64 45, .int .i64 2, .int .i64 1, .slice none 0 0, .slice (some ⟨b2, 0, none⟩) 1 c2, .slice none 0 0, .slice none 0 0, .slice none 0 0, .slice (some ⟨d2, 0, none⟩) 1 e2, .slice none 0 0, .slice none 0 0, .slice none 0 0, .slice none 0 0, .int .i64 0, .int .i64 1, .slice none 0 0, .slice none 0 0, .int .i64 0, .slice none 0 0, .slice none 0 0] rfl).erase 4
  obtain ⟨w5, hW, HM⟩ : ∃ W, W = _ ∧ Mem _ W _ := ⟨_, rfl, HM⟩
  rw [← hW]
  clear hW
  go_wp2_with fail
  refine bodyPost_ret (v := offV b2 c2 d2 e2) (results_one Tryz.results34 rfl (HM.loadV 3 rfl 0 23 70 (by kernel_rfl) rfl)) rfl ?_
  exact ⟨_, rfl, ⟨b2, c2, d2, e2, f2, g2, rfl, hcap2, hl2, HM.at_ 0 rfl, HM.at_ 1 rfl, HM.at_ 2 rfl⟩, HM.bl⟩
end Go.Proofs.YtcifdllbnbhcdaaGreatDoor
namespace Go.Proofs.YtcifdllbnbhcdaaGreatDoor
open Go.RowKit
set_option maxRecDepth 100000 in
set_option maxHeartbeats 8000000 in
theorem new_one (v : Value) (w : World) (h : RegAt w v) : Calls Tryz.prog 15 #[v, nilV, nilV, .int .i64 0] w (RetOffE w) := by
  obtain ⟨br, cr, bc, cc, bp, cp, rfl, hcap, h1, h2, h3⟩ := h
  have HM := ((Mem.reg h1 h2 h3).alloc (regC br cr bc cc) 58).alloc zoC 70
  simp only [World.size_alloc, World.size_drew, World.size_setCell] at HM
  clear h1 h2 h3
  go_enter Tryz.func15, Tryz.ntmps15
  go_wp2_with fail
  refine (prob_one _ _ ⟨br, cr, bc, cc, bp, cp, rfl, hcap, HM.at_ 2 rfl, HM.at_ 3 rfl, HM.at_ 4 rfl⟩).mono ?_
  rintro e w1 ⟨v1, rfl, ⟨bm, cm, bo, co, rfl, _⟩, hb⟩
  replace HM := HM.below hb
  clear hb
  obtain ⟨Z, hZ⟩ : ∃ n : Nat, n = w.heap.size + 1 := ⟨_, rfl⟩
  rw [← hZ] at HM ⊢
  clear hZ
  obtain ⟨R, hR⟩ : ∃ n : Nat, n = w.heap.size := ⟨_, rfl⟩
  rw [← hR] at HM ⊢
  clear hR
  have C := HM.facts
  simp only [facts, cellsAre, lts, apart, regC, List.eraseIdx_cons_succ, List.eraseIdx_cons_zero, List.set_cons_zero, List.set_cons_succ, Nat.zero_add, Nat.reduceAdd, and_true] at C
  have F := HM.thaws
  simp only [thaws, List.eraseIdx_cons_succ, List.eraseIdx_cons_zero, List.set_cons_zero, List.set_cons_succ, Option.isSome_some, Option.isSome_none, Bool.false_eq_true, false_implies, forall_const, and_true, true_and] at F
  go_wp2_with fail
  clear C F
  replace HM := HM.alloc [.slice (some ⟨bm, 0, none⟩) 1 cm, .slice none 0 0, .slice none 0 0, .int .i64 2] 105
  refine (otwin_one _ _ ⟨br, cr, bc, cc, bp, cp, rfl, hcap, HM.at_ 3 rfl, HM.at_ 4 rfl, HM.at_ 5 rfl⟩).mono ?_
  rintro e w2 ⟨v2, rfl, ⟨b2, c2, d2, e2, f2, g2, rfl, hcap2, hlo, q1, q2, q3⟩, hb⟩
  have hs1 := HM.bl.size
  have HM : Mem w w2 [⟨b2, roomC, none⟩, ⟨d2, claC f2 g2, none⟩, ⟨f2, [.int .i64 1], none⟩, ⟨w1.heap.size, [.slice (some ⟨bm, 0, none⟩) 1 cm, .slice none 0 0, .slice none 0 0, .int .i64 2], some 105⟩, ⟨Z, zoC, some 70⟩] := (((HM.addReg hb hlo q1 q2 q3).erase 8).erase 7 |>.erase 6).erase 5
  have hl2 : w.heap.size ≤ b2 ∧ w.heap.size ≤ d2 ∧ w.heap.size ≤ f2 := by omega
  clear hb q1 q2 q3 hs1 hlo
  dsimp only
  repeat (fail_if_success (refine wpList_store_mid rfl 70 _ _ rfl Z 0 _ rfl rfl ?_ ?_ ?_ ?_)); go_step
  refine HM.wpStore 4 rfl 0 70 [.int .i64 1, .int .i64 1, .int .i64 480, .int .i64 45, .int .i64 2, .int .i64 1, .slice none 0 0, .slice (some ⟨b2, 0, none⟩) 1 c2, .slice none 0 0, .slice none 0 0, .slice none 0 0, .slice (some ⟨d2, 0, none⟩) 1 e2, .slice none 0 0, .slice none 0 0, .slice none 0 0, .slice none 0 0, .int .i64 0, .int .i64 1, .slice none 0 0, .slice none 0 0, .int .i64 0, .slice none 0 0, .slice none 0 0] (by kernel_rfl) (by kernel_rfl) rfl rfl rfl rfl rfl ?_
  replace HM : Mem w _ [⟨b2, roomC, none⟩, ⟨d2, claC f2 g2, none⟩, ⟨f2, [.int .i64 1], none⟩, ⟨Z, offC b2 c2 d2 e2, some 70⟩] := (HM.sets 4 rfl 0 [.int .i64 1, .int .i64 1, .int .i64 480, .int .i64 45, .int .i64 2, .int .i64 1, .slice none 0 0, .slice (some ⟨b2, 0, none⟩) 1 c2, .slice none 0 0, .slice none 0 0, .slice none 0 0, .slice (some ⟨d2, 0, none⟩) 1 e2, .slice none 0 0, .slice none 0 0, .slice none 0 0, .slice none 0 0, .int .i64 0, .int .i64 1, .slice none 0 0, .slice none 0 0, .int .i64 0, .slice none 0 0, .slice none 0 0] rfl).erase 3
  obtain ⟨w5, hW, HM⟩ : ∃ W, W = _ ∧ Mem _ W _ := ⟨_, rfl, HM⟩
  rw [← hW]
  clear hW
  go_wp2_with fail
  refine bodyPost_ret (v := .tuple #[offV b2 c2 d2 e2, .int .i64 0]) (results_two Tryz.results15 rfl rfl (HM.loadV 3 rfl 0 23 70 (by kernel_rfl) rfl)) rfl ?_
  exact ⟨_, rfl, ⟨b2, c2, d2, e2, f2, g2, rfl, hcap2, hl2, HM.at_ 0 rfl, HM.at_ 1 rfl, HM.at_ 2 rfl⟩, HM.bl⟩
end Go.Proofs.YtcifdllbnbhcdaaGreatDoor
namespace Go.Proofs.YtcifdllbnbhcdaaGreatDoor
open Go.RowKit
def modC (bm cm : Nat) (r : Int) : List Value := [.slice (some ⟨bm, 0, none⟩) 1 cm, .slice none 0 0, .slice none 0 0, .int .i64 r]
abbrev optV : Value := .agg #[.int .i64 1, .int .i64 0, .int .i64 0, .int .i64 1, .int .i64 0, .slice none 0 0]
theorem many_one (bo co : Nat) (w : World) : Calls Tryz.prog 251 #[.slice (some ⟨bo, 0, none⟩) 1 co] w (RetS (.bool false) w) := by
  go_enter Tryz.func251, Tryz.ntmps251
  go_wp2_with fail
  go_ret
  exact ⟨rfl, rfl⟩
set_option maxRecDepth 100000 in
set_option maxHeartbeats 2000000 in
theorem idxOps_one (bm cm bo co : Nat) (hcm : 1 ≤ cm) (w : World) (hM : At w bm [.slice (some ⟨bo, 0, none⟩) 1 co]) : Calls Tryz.prog 314 #[.slice (some ⟨bm, 0, none⟩) 1 cm, .func (.func 251) #[] #[]] w (RetS (.int .i64 (-1)) w) := by
  have C := hM.all
  simp only [cellsAre, Nat.zero_add, Nat.reduceAdd, and_true] at C
  go_enter Tryz.func314, Tryz.ntmps314
  go_wp2_with fail
  refine wp_loop_rounds 2 ?_
  rw [rounds_succ]
  go_wp2_with (go_at_call 251; refine (many_one _ _ _).mono ?_; rintro e w' ⟨rfl, rfl⟩)
  rw [rounds_succ]
  go_wp2_with fail
  go_ret
  exact ⟨rfl, rfl⟩
theorem hasOps_one (bm cm bo co : Nat) (hcm : 1 ≤ cm) (w : World) (hM : At w bm [.slice (some ⟨bo, 0, none⟩) 1 co]) : Calls Tryz.prog 252 #[.slice (some ⟨bm, 0, none⟩) 1 cm, .func (.func 251) #[] #[]] w (RetS (.bool false) w) := by
  go_enter Tryz.func252, Tryz.ntmps252
  go_wp2_with (go_at_call 314; refine (idxOps_one _ _ _ _ hcm _ hM).mono ?_; rintro e w' ⟨rfl, rfl⟩)
  go_ret
  exact ⟨rfl, rfl⟩
set_option maxRecDepth 100000 in
set_option maxHeartbeats 2000000 in
theorem large_one (bm cm bo co : Nat) (hcm : 1 ≤ cm) (w : World) (hM : At w bm [.slice (some ⟨bo, 0, none⟩) 1 co]) : Calls Tryz.prog 160 #[modV bm cm 2] w (RetB (.bool false) w) := by
  have h2 := hasOps_one bm cm bo co hcm _ (hM.push (.cells (modC bm cm 2).toArray 105))
  simp only [modC] at h2
  go_enter Tryz.func160, Tryz.ntmps160
  go_wp2_with (go_at_call 252; refine h2.mono ?_; rintro e w' ⟨rfl, rfl⟩)
  go_ret
  exact ⟨rfl, bpush (b0 _) _⟩
set_option maxRecDepth 100000 in
set_option maxHeartbeats 2000000 in
theorem charged_one (bm cm : Nat) (r : Int) (w : World) : Calls Tryz.prog 163 #[modV bm cm r, optV] w (RetB (.bool true) w) := by
  go_enter Tryz.func163, Tryz.ntmps163
  go_wp2_with fail
  refine wp_loop_rounds 1 ?_
  rw [rounds_succ]
  go_wp2_with fail
  go_ret
  exact ⟨rfl, bpush (bpush (b0 _) _) _⟩
theorem val1_one (M bm cm : Nat) (r : Int) (w : World) (h : At w M (modC bm cm r)) : Calls Tryz.prog 162 #[optV, .pointer (some ⟨M, 0, none⟩)] w (RetB (.bool false) w) := by
  have C := h.all
  simp only [cellsAre, modC, Nat.zero_add, Nat.reduceAdd, and_true] at C
  have U := ups (At.lt (v := .slice (some ⟨bm, 0, none⟩) 1 cm) h)
  go_enter Tryz.func162, Tryz.ntmps162
  go_wp2_with (go_at_call 163; refine (charged_one _ _ _ _).mono ?_; rintro e w' ⟨rfl, hb⟩)
  go_ret
  exact ⟨rfl, below2 hb⟩
set_option maxRecDepth 100000 in
set_option maxHeartbeats 2000000 in
theorem idxOpt_one (M bm cm bo co : Nat) (r : Int) (hco : 1 ≤ co) (w : World) (h : At w M (modC bm cm r)) (hO : At w bo optC) : Calls Tryz.prog 253 #[.slice (some ⟨bo, 0, none⟩) 1 co, .func (.func 162) #[] #[.pointer (some ⟨M, 0, none⟩)]] w (RetB (.int .i64 (-1)) w) := by
  have C := hO.all
  simp only [cellsAre, optC, Nat.zero_add, Nat.reduceAdd, and_true] at C
  go_enter Tryz.func253, Tryz.ntmps253
  go_wp2_with fail
  refine wp_loop_rounds 2 ?_
  rw [rounds_succ]
  go_wp2_with (go_at_call 162; refine (val1_one M bm cm r _ h).mono ?_; rintro e w' ⟨rfl, hb⟩)
  rw [rounds_succ]
  go_wp2_with fail
  go_ret
  exact ⟨rfl, hb⟩
theorem hasOpt_one (M bm cm bo co : Nat) (r : Int) (hco : 1 ≤ co) (w : World) (h : At w M (modC bm cm r)) (hO : At w bo optC) : Calls Tryz.prog 161 #[.slice (some ⟨bo, 0, none⟩) 1 co, .func (.func 162) #[] #[.pointer (some ⟨M, 0, none⟩)]] w (RetB (.bool false) w) := by
  go_enter Tryz.func161, Tryz.ntmps161
  go_wp2_with (go_at_call 253; refine (idxOpt_one M bm cm _ _ r hco _ h hO).mono ?_; rintro e w' ⟨rfl, hb⟩)
  go_ret
  exact ⟨rfl, hb⟩
set_option maxRecDepth 100000 in
set_option maxHeartbeats 4000000 in
theorem mvalid_one (v : Value) (w : World) (h : ModAt 2 w v) : Calls Tryz.prog 98 #[v] w (RetB (.int .i64 0) w) := by
  obtain ⟨bm, cm, bo, co, rfl, ⟨hcm, hco⟩, h1, h2⟩ := h
  have hmf : ∀ (fn : Fn) (first cap : Array Value) (w : World), (Instr.makeFunc fn first cap).run Tryz.prog w = .ok (.func fn first cap) w := fun _ _ _ _ => rfl
  have n1 : bm ≠ bo := At.ne h1 h2 (by simp)
  have HM := (((Mem.start w).push (.of0 h2 (At.lt h2)) (by simp)).push (.of0 h1 (At.lt h1)) (by simpa using n1)).alloc (modC bm cm 2) 105
  clear h1 h2
  go_enter Tryz.func98, Tryz.ntmps98
  go_wp2_with fail
  refine (large_one bm cm bo co hcm _ (HM.at_ 1 rfl)).mono ?_
  rintro e w1 ⟨rfl, hb⟩
  replace HM := HM.below hb
  clear hb
  obtain ⟨M, hM⟩ : ∃ n : Nat, n = w.heap.size := ⟨_, rfl⟩
  rw [← hM] at HM ⊢
  clear hM
  have C := HM.facts
  simp only [facts, cellsAre, lts, apart, modC, optC, List.eraseIdx_cons_succ, List.eraseIdx_cons_zero, List.set_cons_zero, List.set_cons_succ, Nat.zero_add, Nat.reduceAdd, and_true] at C
  have F := HM.thaws
  simp only [thaws, List.eraseIdx_cons_succ, List.eraseIdx_cons_zero, List.set_cons_zero, List.set_cons_succ, Option.isSome_some, Option.isSome_none, Bool.false_eq_true, false_implies, forall_const, and_true, true_and] at F
  go_wp2_with fail
  refine wp_loop_rounds 2 ?_
  rw [rounds_succ]
  go_wp2_with fail
  refine (hasOpt_one M bm cm bo co 2 hco _ (HM.at_ 0 rfl) (HM.at_ 2 rfl)).mono ?_
  rintro e w2 ⟨rfl, hb⟩
  replace HM := HM.below hb
  clear hb C F
  have C := HM.facts
  simp only [facts, cellsAre, lts, apart, modC, optC, List.eraseIdx_cons_succ, List.eraseIdx_cons_zero, List.set_cons_zero, List.set_cons_succ, Nat.zero_add, Nat.reduceAdd, and_true] at C
  have F := HM.thaws
  simp only [thaws, List.eraseIdx_cons_succ, List.eraseIdx_cons_zero, List.set_cons_zero, List.set_cons_succ, Option.isSome_some, Option.isSome_none, Bool.false_eq_true, false_implies, forall_const, and_true, true_and] at F
  go_wp2_with fail
  rw [rounds_succ]
  go_wp2_with fail
  refine wp_loop_rounds 1 ?_
  rw [rounds_succ]
  go_wp2_with (go_at_call 166; refine (hasCnt_nil _ _ _ _).mono ?_; rintro e w' ⟨rfl, rfl⟩)
  go_ret
  exact ⟨rfl, HM.bl⟩
end Go.Proofs.YtcifdllbnbhcdaaGreatDoor
namespace Go.Proofs
open Go.Shelf
def Tryz.lays212_ren : Go.Shelf.Ren := ⟨fun | 212 => 362 | 263 => 404 | 264 => 405 | n => n, fun | 46 => 122 | 51 => 175 | 146 => 512 | 53 => 177 | 148 => 514 | n => n, fun | n => n⟩
theorem Tryz.lays212 : Go.Proofs.Lays.n212 Tryz.prog Tryz.lays212_ren := {
  mixed := by kernel_rfl
  f212 := Tryz.func362.trans (congrArg some (by kernel_rfl))
  f263 := Tryz.func404.trans (congrArg some (by kernel_rfl))
  f264 := Tryz.func405.trans (congrArg some (by kernel_rfl))
  t46 := Tryz.underlying122
  a46 := Tryz.isAgg122
  z46 := Tryz.sizeOf122
  v46 := Tryz.zeroValue122
  t51 := Tryz.underlying175
  a51 := Tryz.isAgg175
  z51 := Tryz.sizeOf175
  v51 := Tryz.zeroValue175
  t53 := Tryz.underlying177
  a53 := Tryz.isAgg177
  z53 := Tryz.sizeOf177
  v53 := Tryz.zeroValue177
  t146 := Tryz.underlying512
  a146 := Tryz.isAgg512
  z146 := Tryz.sizeOf512
  v146 := Tryz.zeroValue512
  t148 := Tryz.underlying514
  a148 := Tryz.isAgg514
  z148 := Tryz.sizeOf514
  v148 := Tryz.zeroValue514 }
open Go.RowKit Go.Lib in
theorem Tryz.bits_Mul (x y : Nat) (hx : x < 18446744073709551616) (hy : y < 18446744073709551616) (w : World) :
    Calls Tryz.prog 362 #[.int .u64 x, .int .u64 y] w fun e w' => e = .returned (.tuple #[.int .u64 ((x * y / 18446744073709551616 : Nat) : Int), .int .u64 ((x * y % 18446744073709551616 : Nat) : Int)]) ∧ w' = w := Any.bits_Mul Tryz.lays212 x y hx hy w
end Go.Proofs
namespace Go.Proofs.YtcifdllbnbhcdaaGreatDoor
open Go.RowKit
set_option maxRecDepth 100000 in
set_option maxHeartbeats 4000000 in
theorem rep_one (p q : Nat) (hq : 1 ≤ q) (w : World) (h : At w p [.bool true]) : Calls Tryz.prog 319 #[.slice (some ⟨p, 0, none⟩) 1 q, .int .i64 1] w (RetR [.bool true] 4 w) := by
  have hmul : ∀ W, Calls Tryz.prog 362 #[.int .u64 1, .int .u64 1] W fun e w' => e = .returned (.tuple #[.int .u64 0, .int .u64 1]) ∧ w' = W := fun W => by
    have := Tryz.bits_Mul 1 1 (by omega) (by omega) W
    simpa using this
  have C := h.all
  simp only [cellsAre, Nat.zero_add, Nat.reduceAdd, and_true] at C
  have U := ups (At.lt h)
  have hmk : ∀ W : World, (Instr.makeSlice 255 (.int .i64 1) (.int .i64 1)).run Tryz.prog W = .ok (.slice (some ⟨W.heap.size, 0, none⟩) 1 1) (W.alloc (.cells #[.bool false] 4)) := fun _ => by kernel_rfl
  have hcp : (Builtin.copy_ #[255, 255] 3 #[.slice (some ⟨w.heap.size, 0, none⟩) 1 1, .slice (some ⟨p, 0, none⟩) 1 q]).run Tryz.prog (w.alloc (.cells #[.bool false] 4)) = .ok (.int .i64 1) (w.alloc (.cells #[.bool true] 4)) := by
    have HB := Bk.mk w [.bool false] 4 rfl
    have hA := h.push (.cells #[.bool false] 4)
    have := run_copy_cells (P := Tryz.prog) (w.alloc (.cells #[.bool false] 4)) 255 255 3 4 w.heap.size 0 1 1 ⟨p, 0, none⟩ 1 q [.bool true] Tryz.underlying255 (by kernel_rfl) rfl (fun j v hj => by
      have e : j = 0 := by have := (List.getElem?_eq_some_iff.1 hj).1; simp at this; omega
      subst e; simpa [Addr.add] using hA 0 v hj) (fun j hj => by
      have e : j = 0 := by simp at hj; omega
      subst e; rw [HB.at_ 0 _ rfl]; rfl) (fun j hj => HB.fz _) (by simp [Value.oneCell'])
    simpa [World.setCells, goInt, go_sem] using this
  go_enter Tryz.func319, Tryz.ntmps319
  go_wp2_with (go_at_call 362; refine (hmul _).mono ?_; rintro e w' ⟨rfl, rfl⟩)
  refine wp_loop_rounds 1 ?_
  rw [rounds_succ]
  go_wp2_with fail
  go_ret
  exact ⟨_, _, rfl, Nat.le_refl _, Nat.le_refl _, Rw.mk _ [.bool true] #[] 4 rfl, bpush (b0 _) _⟩
end Go.Proofs.YtcifdllbnbhcdaaGreatDoor
namespace Go.Proofs.YtcifdllbnbhcdaaGreatDoor
open Go.RowKit
def RetAll (w : World) (e : Ending) (w2 : World) : Prop := ∃ b c b2 c2, e = .returned (.slice (some ⟨b, 0, none⟩) 1 c) ∧ (1 ≤ c ∧ 1 ≤ c2) ∧ w.heap.size ≤ b ∧ w.heap.size ≤ b2 ∧ b ≠ b2 ∧ Rw w2 b [.slice (some ⟨b2, 0, none⟩) 1 c2] 255 ∧ Rw w2 b2 [.bool true] 4 ∧ Below w.heap.size w w2
theorem Mem.mod {w : World} {bm bo co : Nat} (h1 : At w bm [.slice (some ⟨bo, 0, none⟩) 1 co]) (h2 : At w bo optC) : Mem w w [⟨bm, [.slice (some ⟨bo, 0, none⟩) 1 co], none⟩, ⟨bo, optC, none⟩] :=
  ((Mem.start w).push (.of0 h2 (At.lt h2)) (by simp)).push (.of0 h1 (At.lt h1)) (by simpa using At.ne h1 h2 (by simp))
set_option maxRecDepth 100000 in
set_option maxHeartbeats 4000000 in
theorem left_one (v : Value) (w : World) (h : ModAt 2 w v) : Calls Tryz.prog 267 #[v] w (RetAll w) := by
  obtain ⟨bm, cm, bo, co, rfl, ⟨hcm, hco⟩, h1, h2⟩ := h
  have HM := (Mem.mod h1 h2).alloc (modC bm cm 2) 105
  clear h1 h2
  go_enter Tryz.func267, Tryz.ntmps267
  go_wp2_with fail
  refine (mvalid_one _ _ ⟨bm, cm, bo, co, rfl, ⟨hcm, hco⟩, HM.at_ 1 rfl, HM.at_ 2 rfl⟩).mono ?_
  rintro e w1 ⟨rfl, hb⟩
  replace HM := HM.below hb
  clear hb
  obtain ⟨M, hM⟩ : ∃ n : Nat, n = w.heap.size := ⟨_, rfl⟩
  rw [← hM] at HM ⊢
  clear hM
  have C := HM.facts
  simp only [facts, cellsAre, lts, apart, modC, List.eraseIdx_cons_succ, List.eraseIdx_cons_zero, List.set_cons_zero, List.set_cons_succ, Nat.zero_add, Nat.reduceAdd, and_true] at C
  have F := HM.thaws
  simp only [thaws, List.eraseIdx_cons_succ, List.eraseIdx_cons_zero, List.set_cons_zero, List.set_cons_succ, Option.isSome_some, Option.isSome_none, Bool.false_eq_true, false_implies, forall_const, and_true, true_and] at F
  go_wp2_with fail
  refine wp_loop_rounds 2 ?_
  rw [rounds_succ]
  go_wp2_with fail
  clear C F
  replace HM := HM.alloc [.bool true] 4
  refine (rep_one _ 1 (Nat.le_refl _) _ (HM.at_ 0 rfl)).mono ?_
  rintro e w2 ⟨rb, rc, rfl, hrc, hlo, hR, hb⟩
  replace HM := HM.add hb hR hlo
  clear hb hR hlo
  go_wp2_with fail
  rw [rounds_succ]
  go_wp2_with fail
  have hc := cap_ge 1 0 255 (w2.tape w2.drawn (Question.appendCap 1 0 255))
  generalize (Question.appendCap 1 0 255).cut (w2.tape w2.drawn (Question.appendCap 1 0 255)) = c at *
  go_ret
  have HN := (((HM.alloc [.slice (some ⟨rb, 0, none⟩) 1 rc] 255).allocx [.slice (some ⟨rb, 0, none⟩) 1 rc] (Builtin.zeroCells #[.slice none 0 0] (c - 1)) 255)).drew
  simp only [World.size_alloc] at HN
  exact ⟨w2.heap.size + 1, c, rb, rc, rfl, ⟨hc, hrc⟩, HN.lo 0 rfl, HN.lo 2 rfl, HN.ne (i := 0) (k := 2) rfl rfl (by decide), HN.rw_ 0 rfl, HN.rw_ 2 rfl, HN.bl⟩
theorem cut_zero (w : World) : Calls Tryz.prog 323 #[.int .i64 0] w (RetS (.int .i64 0) w) := by
  go_enter Tryz.func323, Tryz.ntmps323
  go_wp2_with fail
  go_ret
  exact ⟨rfl, rfl⟩
set_option maxRecDepth 100000 in
set_option maxHeartbeats 2000000 in
theorem own_one (w : World) : Calls Tryz.prog 320 #[optV] w (RetB (.int .i64 0) w) := by
  go_enter Tryz.func320, Tryz.ntmps320
  go_wp2_with fail
  refine wp_loop_rounds 1 ?_
  rw [rounds_succ]
  go_wp2_with fail
  go_ret
  exact ⟨rfl, bpush (b0 _) _⟩
set_option maxRecDepth 100000 in
set_option maxHeartbeats 4000000 in
theorem value_one (bm cm bo co b c b2 c2 : Nat) (hcm : 1 ≤ cm ∧ 1 ≤ co ∧ 1 ≤ c ∧ 1 ≤ c2) (w : World) (h1 : At w bm [.slice (some ⟨bo, 0, none⟩) 1 co]) (h2 : At w bo optC) (h3 : At w b [.slice (some ⟨b2, 0, none⟩) 1 c2]) (h4 : At w b2 [.bool true]) :
    Calls Tryz.prog 269 #[modV bm cm 2, .slice (some ⟨b, 0, none⟩) 1 c] w (RetB (.int .i64 0) w) := by
  obtain ⟨q1, q2, q3, q4⟩ := hcm
  have l1 := At.lt h1
  have l2 := At.lt (v := .int .i64 1) h2
  have l3 := At.lt h3
  have l4 := At.lt h4
  have C1 := h1.all
  have C2 := h2.all
  have C3 := h3.all
  have C4 := h4.all
  simp only [cellsAre, optC, Nat.zero_add, Nat.reduceAdd, and_true] at C1 C2 C3 C4
  have U1 := ups l1
  have U2 := ups l2
  have U3 := ups l3
  have U4 := ups l4
  go_enter Tryz.func269, Tryz.ntmps269
  go_wp2_with fail
  refine wp_loop_rounds 2 ?_
  rw [rounds_succ]
  go_wp2_with fail
  refine wp_loop_rounds 2 ?_
  rw [rounds_succ]
  go_wp2_with fail
  refine (own_one _).mono ?_
  rintro e w2 ⟨rfl, hb⟩
  have HA := (At.mk w (modC bm cm 2) 105 rfl).push (.cells optC.toArray 269)
  have HM := (HA.below hb).all
  have hB := below2' hb
  have D1 := (h1.below hB).all
  have D2 := (h2.below hB).all
  simp only [cellsAre, optC, modC, Nat.zero_add, Nat.reduceAdd, and_true] at HM D1 D2
  clear C1 C2 C3 C4 U1 U2 U3 U4
  go_wp2_with fail
  rw [rounds_succ]
  go_wp2_with fail
  rw [rounds_succ]
  go_wp2_with fail
  refine wp_loop_rounds 1 ?_
  rw [rounds_succ]
  go_wp2_with fail
  refine wp_loop_rounds 1 ?_
  rw [rounds_succ]
  go_wp2_with (go_at_call 323; refine (cut_zero _).mono ?_; rintro e w' ⟨rfl, rfl⟩)
  go_ret
  exact ⟨rfl, hB⟩
end Go.Proofs.YtcifdllbnbhcdaaGreatDoor
namespace Go.Proofs.YtcifdllbnbhcdaaGreatDoor
open Go.RowKit
set_option maxRecDepth 100000 in
set_option maxHeartbeats 2000000 in
theorem idxTrue_one (b2 c2 : Nat) (hc : 1 ≤ c2) (w : World) (h : At w b2 [.bool true]) : Calls Tryz.prog 324 #[.slice (some ⟨b2, 0, none⟩) 1 c2, .bool true] w (RetS (.int .i64 0) w) := by
  have C := h.all
  simp only [cellsAre, Nat.zero_add, Nat.reduceAdd, and_true] at C
  go_enter Tryz.func324, Tryz.ntmps324
  go_wp2_with fail
  refine wp_loop_rounds 2 ?_
  rw [rounds_succ]
  go_wp2_with fail
  go_ret
  exact ⟨rfl, rfl⟩
set_option maxRecDepth 100000 in
set_option maxHeartbeats 4000000 in
theorem chosen_one (b c b2 c2 : Nat) (hc : 1 ≤ c ∧ 1 ≤ c2) (w : World) (h : At w b [.slice (some ⟨b2, 0, none⟩) 1 c2]) (h2 : At w b2 [.bool true]) : Calls Tryz.prog 270 #[.slice (some ⟨b, 0, none⟩) 1 c] w (RetR [.int .i64 0] 3 w) := by
  obtain ⟨q1, q2⟩ := hc
  have hmk : ∀ W : World, (Instr.makeSlice 22 (.int .i64 1) (.int .i64 1)).run Tryz.prog W = .ok (.slice (some ⟨W.heap.size, 0, none⟩) 1 1) (W.alloc (.cells #[.int .i64 0] 3)) := fun _ => by kernel_rfl
  have C := h.all
  simp only [cellsAre, Nat.zero_add, Nat.reduceAdd, and_true] at C
  have U := ups (At.lt h)
  have U2 := ups (At.lt h2)
  go_enter Tryz.func270, Tryz.ntmps270
  go_wp2_with fail
  refine wp_loop_rounds 2 ?_
  rw [rounds_succ]
  go_wp2_with (go_at_call 324; refine (idxTrue_one b2 c2 q2 _ (h2.push _)).mono ?_; rintro e w' ⟨rfl, rfl⟩)
  rw [rounds_succ]
  go_wp2_with fail
  go_ret
  exact ⟨_, _, rfl, Nat.le_refl _, Nat.le_refl _, Rw.mk _ [.int .i64 0] #[] 3 rfl, bpush (b0 _) _⟩
end Go.Proofs.YtcifdllbnbhcdaaGreatDoor
