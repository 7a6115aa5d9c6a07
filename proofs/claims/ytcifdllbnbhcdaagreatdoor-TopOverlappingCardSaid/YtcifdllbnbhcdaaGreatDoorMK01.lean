/- Texts K1, K2, K3, K4, K5, K6, K7, K8, K9, K10, K11, K12, joined: walks and laws. -/
import Derived.Laws.BytesArg
import Derived.Lib.SlBytesConst
import Derived.StillTailTactics
import Derived.Test.YtcifdllbnbhcdaaGreatDoorMV04
namespace Go.Proofs.YtcifdllbnbhcdaaGreatDoor
open Go.RowKit
def At (w : World) (b : Nat) (vs : List Value) : Prop := ∀ i v, vs[i]? = some v → w.cell? ⟨b, i, none⟩ = some v
theorem At.below {w w2 : World} {b : Nat} {vs : List Value} (h : At w b vs) (hb : Below w.heap.size w w2) : At w2 b vs := fun i v hi => by
  rw [hb.cell (lt_of_cell (h i v hi))]; exact h i v hi
theorem At.mk0 (w : World) (vs : List Value) (T : TypeId) : At (w.alloc (.cells vs.toArray T)) w.heap.size vs := fun i v h => by
  have := BX.cell (BX.mk0 (vs := vs.toArray) (T := T) w) i
  rw [this, List.getElem?_toArray]; exact h
theorem At.mk (w : World) (vs : List Value) (T : TypeId) {n : Nat} (hn : w.heap.size = n) : At (w.alloc (.cells vs.toArray T)) n vs := by
  subst hn; exact At.mk0 w vs T
theorem At.mkx (w : World) (vs : List Value) (xs : Array Value) (T : TypeId) {n : Nat} (hn : w.heap.size = n) : At (w.alloc (.cells (vs.toArray ++ xs) T)) n vs := fun i v h => by
  subst hn
  have := BX.cell (BX.mk0 (vs := vs.toArray ++ xs) (T := T) w) i
  have hi : i < vs.length := (List.getElem?_eq_some_iff.1 h).1
  rw [this, Array.getElem?_append_left (by simpa using hi), List.getElem?_toArray]; exact h
theorem At.push {w : World} {b : Nat} {vs : List Value} (h : At w b vs) (o : Obj) : At (w.alloc o) b vs := h.below ((Below.refl _ _).alloc (Nat.le_refl _) o)
theorem At.drew {w : World} {b : Nat} {vs : List Value} (h : At w b vs) : At w.drew b vs := h.below ⟨rfl, rfl, rfl, Nat.le_refl _, fun _ _ => rfl⟩
theorem bpush {w w2 : World} (h : Below w.heap.size w w2) (o : Obj) : Below w.heap.size w (w2.alloc o) := h.alloc h.size o
theorem bdrw {w w2 : World} (h : Below w.heap.size w w2) : Below w.heap.size w w2.drew := h.trans ⟨rfl, rfl, rfl, Nat.le_refl _, fun _ _ => rfl⟩
theorem ups {b n : Nat} (h : b < n) : b < n ∧ b < n + 1 ∧ b < n + 1 + 1 ∧ b < n + 1 + 1 + 1 ∧ b < n + 1 + 1 + 1 + 1 ∧ b < n + 1 + 1 + 1 + 1 + 1 ∧ b < n + 1 + 1 + 1 + 1 + 1 + 1 ∧ b < n + 1 + 1 + 1 + 1 + 1 + 1 + 1 ∧ b < n + 1 + 1 + 1 + 1 + 1 + 1 + 1 + 1 := by omega
theorem At.lt {w : World} {b : Nat} {v : Value} {vs : List Value} (h : At w b (v :: vs)) : b < w.heap.size := lt_of_cell (h 0 v rfl)
def cellsAre (w : World) (b : Nat) : Nat → List Value → Prop
  | _, [] => True
  | i, v :: vs => w.cell? ⟨b, i, none⟩ = some v ∧ cellsAre w b (i + 1) vs
theorem At.all_ {w : World} {b : Nat} : ∀ (i : Nat) (vs : List Value), (∀ j v, vs[j]? = some v → w.cell? ⟨b, i + j, none⟩ = some v) → cellsAre w b i vs
  | _, [], _ => trivial
  | i, v :: vs, h => ⟨h 0 v rfl, At.all_ (i + 1) vs fun j u hu => by rw [show i + 1 + j = i + (j + 1) by omega]; exact h (j + 1) u hu⟩
theorem At.all {w : World} {b : Nat} {vs : List Value} (h : At w b vs) : cellsAre w b 0 vs := At.all_ 0 vs fun j v hv => by rw [Nat.zero_add]; exact h j v hv
end Go.Proofs.YtcifdllbnbhcdaaGreatDoor
namespace Go.Proofs.YtcifdllbnbhcdaaGreatDoor
open Go.RowKit
abbrev nilV : Value := .slice none 0 0
def roomC : List Value := [.string ⟨#[82]⟩, .string ⟨#[66]⟩, .int .i64 9, nilV, nilV]
def claC (bp cp : Nat) : List Value := [.string ⟨#[99, 49]⟩, .string ⟨#[65]⟩, .string ⟨#[76]⟩, .int .i64 1, .slice (some ⟨bp, 0, none⟩) 1 cp, .int .i64 5, nilV, nilV, nilV]
abbrev regV (br cr bc cc : Nat) : Value := .agg #[.int .i64 1, .int .i64 1, .int .i64 480, .int .i64 45, .int .i64 2, .int .i64 1, .slice none 0 0, .slice (some ⟨br, 0, none⟩) 1 cr, .slice none 0 0, .slice none 0 0, .slice none 0 0, .slice (some ⟨bc, 0, none⟩) 1 cc, .slice none 0 0, .slice none 0 0]
def RegAt (w : World) (v : Value) : Prop := ∃ br cr bc cc bp cp, v = regV br cr bc cc ∧ (1 ≤ cr ∧ 1 ≤ cc ∧ 1 ≤ cp) ∧ At w br roomC ∧ At w bc (claC bp cp) ∧ At w bp [.int .i64 1]
theorem RegAt.below {w w2 : World} {v : Value} (h : RegAt w v) (hb : Below w.heap.size w w2) : RegAt w2 v := by
  obtain ⟨br, cr, bc, cc, bp, cp, h1, hc, h2, h3, h4⟩ := h
  exact ⟨br, cr, bc, cc, bp, cp, h1, hc, h2.below hb, h3.below hb, h4.below hb⟩
def RetReg (w : World) (e : Ending) (w2 : World) : Prop := ∃ v, e = .returned v ∧ RegAt w2 v ∧ Below w.heap.size w w2
theorem cap_ge (n s t k : Nat) : n ≤ (Question.appendCap n s t).cut k := by
  exact Nat.le_add_right _ _
theorem conv_one (W : World) (n : Nat) (hn : W.heap.size = n) : (convert 62 9 (.slice (some ⟨n, 0, none⟩) 1 1)).run Tryz.prog (W.alloc (.cells #[.int .u8 49] 5)) = .ok (.string ⟨#[49]⟩) (W.alloc (.cells #[.int .u8 49] 5)) :=
  run_convert_bytes_arg (P := Tryz.prog) (W.alloc (.cells #[.int .u8 49] 5)) 62 5 (by kernel_rfl) (by kernel_rfl) n 0 1 1 [49] rfl (fun i hi => by
    obtain rfl : i = 0 := by omega
    exact At.mk W [.int .u8 49] 5 hn 0 _ rfl) 9 (by kernel_rfl)
set_option maxRecDepth 100000 in
set_option maxHeartbeats 4000000 in
theorem crowd_one (w : World) : Calls Tryz.prog 16 #[.int .i64 1, .int .i64 1] w (RetReg w) := by
  have kc : ∀ (W : World) (n : Nat), W.heap.size = n → (convert 62 9 (.slice (some ⟨n, 0, none⟩) 1 1)).run Tryz.prog (W.alloc (.cells #[.int .u8 49] 5)) = .ok (.string ⟨#[49]⟩) (W.alloc (.cells #[.int .u8 49] 5)) := fun W n hn => conv_one W n hn
  have ks : (({ data := #[99] } : ByteArray) ++ { data := #[49] }) = { data := #[99, 49] } := by rfl
  go_enter Tryz.func16, Tryz.ntmps16
  go_wp2_with fail
  refine wp_loop_rounds 2 ?_
  rw [rounds_succ]
  go_wp2_with fail
  rw [rounds_succ]
  go_wp2_with fail
  have hc := cap_ge 1 0 113 (w.tape w.drawn (Question.appendCap 1 0 113))
  generalize (Question.appendCap 1 0 113).cut (w.tape w.drawn (Question.appendCap 1 0 113)) = c at hc ⊢
  refine bodyPost_ret (v := regV (w.heap.size + 1 + 1) 1 (w.heap.size + 1 + 1 + 1 + 1 + 1 + 1) c) (by simp [results, Tryz.results16, go_sem]) rfl ?_
  refine ⟨_, rfl, ⟨_, _, _, _, w.heap.size + 1 + 1 + 1 + 1, 1, rfl, ⟨by omega, hc, by omega⟩, ?_, ?_, ?_⟩, ?_⟩
  · exact (((((At.mk _ roomC 110 (by simp)).push _).push _).push _).push _).drew
  · exact (At.mkx _ (claC (w.heap.size + 1 + 1 + 1 + 1) 1) _ 113 (by simp)).drew
  · exact ((((At.mk _ [.int .i64 1] 3 (by simp)).push _).push _)).drew
  · exact bdrw (bpush (bpush (bpush (bpush (bpush (bpush (bpush (Below.refl _ _) _) _) _) _) _) _) _)
end Go.Proofs.YtcifdllbnbhcdaaGreatDoor
namespace Go.Proofs.YtcifdllbnbhcdaaGreatDoor
open Go.RowKit
abbrev gridV : Value := .agg #[.int .i64 1, .int .i64 1, .int .i64 480, .int .i64 45]
abbrev termV : Value := .agg #[.int .i64 2, .int .i64 1, .slice none 0 0]
theorem b0 (w : World) : Below w.heap.size w w := Below.refl _ _
theorem grid_one (w : World) : Calls Tryz.prog 20 #[gridV] w (RetB (.int .i64 0) w) := by
  go_enter Tryz.func20, Tryz.ntmps20
  go_wp2_with fail
  go_ret
  exact ⟨rfl, bpush (b0 _) _⟩
theorem cvalid_one (d : Int) (h0 : 0 ≤ d) (h1 : d ≤ 36524) (w : World) : Calls Tryz.prog 39 #[.int .i64 d] w (RetS (.bool true) w) := by
  go_enter Tryz.func39, Tryz.ntmps39
  go_wp2_with fail
  go_ret
  exact ⟨rfl, rfl⟩
theorem wday_one (w : World) : Calls Tryz.prog 38 #[.int .i64 2] w (RetS (.int .i64 0) w) := by
  have h := fun W => cvalid_one 2 (by omega) (by omega) W
  go_enter Tryz.func38, Tryz.ntmps38
  go_wp2_with (go_at_call 39; refine (h _).mono ?_; rintro e w' ⟨rfl, rfl⟩)
  go_ret
  exact ⟨rfl, rfl⟩
theorem last_one (w : World) : Calls Tryz.prog 40 #[termV] w (RetB (.int .i64 8) w) := by
  go_enter Tryz.func40, Tryz.ntmps40
  go_wp2_with fail
  go_ret
  exact ⟨rfl, bpush (b0 _) _⟩
set_option maxRecDepth 100000 in
theorem term_one (w : World) : Calls Tryz.prog 21 #[termV] w (RetB (.int .i64 0) w) := by
  have h8 := fun W => cvalid_one 8 (by omega) (by omega) W
  go_enter Tryz.func21, Tryz.ntmps21
  go_wp2_with (go_at_call 38; refine (wday_one _).mono ?_; rintro e w' ⟨rfl, rfl⟩)
  refine (last_one _).mono ?_
  rintro e w2 ⟨rfl, hb⟩
  have HB := Lib.hid (below2 hb)
  have C := ((At.mk w [.int .i64 2, .int .i64 1, .slice none 0 0] 31 rfl).below hb).all
  simp only [cellsAre, Nat.zero_add, Nat.reduceAdd, and_true] at C
  clear hb
  go_wp2_with (go_at_call 39; refine (h8 _).mono ?_; rintro e w' ⟨rfl, rfl⟩)
  refine wp_loop_rounds 1 ?_
  rw [rounds_succ]
  go_wp2_with fail
  go_ret
  exact ⟨rfl, HB.out⟩
theorem week_one (w : World) : Calls Tryz.prog 43 #[gridV, .int .i64 1] w (RetB (.bool true) w) := by
  go_enter Tryz.func43, Tryz.ntmps43
  go_wp2_with (go_at_call 20; refine (grid_one _).mono ?_; rintro e w' ⟨rfl, hb⟩)
  go_ret
  exact ⟨rfl, below2 hb⟩
theorem code_one (l : L8) (h2 : l.length ≤ 1000) (hc : codeOk l = true) (w : World) : Calls Tryz.prog 22 #[.string (arr l)] w (RetS (.bool true) w) := by
  have := code_l l (by omega) w
  rwa [hc] at this
theorem code_R (w : World) : Calls Tryz.prog 22 #[.string ⟨#[82]⟩] w (RetS (.bool true) w) := code_one [82] (by decide) (by decide) w
theorem code_B (w : World) : Calls Tryz.prog 22 #[.string ⟨#[66]⟩] w (RetS (.bool true) w) := code_one [66] (by decide) (by decide) w
theorem code_A (w : World) : Calls Tryz.prog 22 #[.string ⟨#[65]⟩] w (RetS (.bool true) w) := code_one [65] (by decide) (by decide) w
theorem code_L (w : World) : Calls Tryz.prog 22 #[.string ⟨#[76]⟩] w (RetS (.bool true) w) := code_one [76] (by decide) (by decide) w
theorem code_c1 (w : World) : Calls Tryz.prog 22 #[.string ⟨#[99, 49]⟩] w (RetS (.bool true) w) := code_one [99, 49] (by decide) (by decide) w
theorem asc_nil (w : World) : Calls Tryz.prog 209 #[nilV] w (RetS (.bool true) w) := by
  go_enter Tryz.func209, Tryz.ntmps209
  go_wp2_with fail
  refine wp_loop_rounds 1 ?_
  rw [rounds_succ]
  go_wp2_with fail
  go_ret
  exact ⟨rfl, rfl⟩
end Go.Proofs.YtcifdllbnbhcdaaGreatDoor
namespace Go.Proofs.YtcifdllbnbhcdaaGreatDoor
open Go.RowKit
theorem idxCls_nil (a : Option Addr) (c : Nat) (f : Value) (w : World) : Calls Tryz.prog 191 #[.slice a 0 c, f] w (RetS (.int .i64 (-1)) w) := by
  go_enter Tryz.func191, Tryz.ntmps191
  go_wp2_with fail
  refine wp_loop_rounds 1 ?_
  rw [rounds_succ]
  go_wp2_with fail
  go_ret
  exact ⟨rfl, rfl⟩
theorem hasCls_nil (a : Option Addr) (c : Nat) (f : Value) (w : World) : Calls Tryz.prog 138 #[.slice a 0 c, f] w (RetS (.bool false) w) := by
  go_enter Tryz.func138, Tryz.ntmps138
  go_wp2_with (go_at_call 191; refine (idxCls_nil _ _ _ _).mono ?_; rintro e w' ⟨rfl, rfl⟩)
  go_ret
  exact ⟨rfl, rfl⟩
theorem idxCur_nil (a : Option Addr) (c : Nat) (f : Value) (w : World) : Calls Tryz.prog 193 #[.slice a 0 c, f] w (RetS (.int .i64 (-1)) w) := by
  go_enter Tryz.func193, Tryz.ntmps193
  go_wp2_with fail
  refine wp_loop_rounds 1 ?_
  rw [rounds_succ]
  go_wp2_with fail
  go_ret
  exact ⟨rfl, rfl⟩
theorem hasCur_nil (a : Option Addr) (c : Nat) (f : Value) (w : World) : Calls Tryz.prog 141 #[.slice a 0 c, f] w (RetS (.bool false) w) := by
  go_enter Tryz.func141, Tryz.ntmps141
  go_wp2_with (go_at_call 193; refine (idxCur_nil _ _ _ _).mono ?_; rintro e w' ⟨rfl, rfl⟩)
  go_ret
  exact ⟨rfl, rfl⟩
theorem idxNum_nil (a : Option Addr) (c : Nat) (f : Value) (w : World) : Calls Tryz.prog 52 #[.slice a 0 c, f] w (RetS (.int .i64 (-1)) w) := by
  go_enter Tryz.func52, Tryz.ntmps52
  go_wp2_with fail
  refine wp_loop_rounds 1 ?_
  rw [rounds_succ]
  go_wp2_with fail
  go_ret
  exact ⟨rfl, rfl⟩
theorem hasNum_nil (a : Option Addr) (c : Nat) (f : Value) (w : World) : Calls Tryz.prog 30 #[.slice a 0 c, f] w (RetS (.bool false) w) := by
  go_enter Tryz.func30, Tryz.ntmps30
  go_wp2_with (go_at_call 52; refine (idxNum_nil _ _ _ _).mono ?_; rintro e w' ⟨rfl, rfl⟩)
  go_ret
  exact ⟨rfl, rfl⟩
theorem idxReq_nil (a : Option Addr) (c : Nat) (f : Value) (w : World) : Calls Tryz.prog 222 #[.slice a 0 c, f] w (RetS (.int .i64 (-1)) w) := by
  go_enter Tryz.func222, Tryz.ntmps222
  go_wp2_with fail
  refine wp_loop_rounds 1 ?_
  rw [rounds_succ]
  go_wp2_with fail
  go_ret
  exact ⟨rfl, rfl⟩
theorem hasReq_nil (a : Option Addr) (c : Nat) (f : Value) (w : World) : Calls Tryz.prog 144 #[.slice a 0 c, f] w (RetS (.bool false) w) := by
  go_enter Tryz.func144, Tryz.ntmps144
  go_wp2_with (go_at_call 222; refine (idxReq_nil _ _ _ _).mono ?_; rintro e w' ⟨rfl, rfl⟩)
  go_ret
  exact ⟨rfl, rfl⟩
theorem idxStr_nil (a : Option Addr) (c : Nat) (f : Value) (w : World) : Calls Tryz.prog 229 #[.slice a 0 c, f] w (RetS (.int .i64 (-1)) w) := by
  go_enter Tryz.func229, Tryz.ntmps229
  go_wp2_with fail
  refine wp_loop_rounds 1 ?_
  rw [rounds_succ]
  go_wp2_with fail
  go_ret
  exact ⟨rfl, rfl⟩
theorem hasStr_nil (a : Option Addr) (c : Nat) (f : Value) (w : World) : Calls Tryz.prog 149 #[.slice a 0 c, f] w (RetS (.bool false) w) := by
  go_enter Tryz.func149, Tryz.ntmps149
  go_wp2_with (go_at_call 229; refine (idxStr_nil _ _ _ _).mono ?_; rintro e w' ⟨rfl, rfl⟩)
  go_ret
  exact ⟨rfl, rfl⟩
theorem idxCnt_nil (a : Option Addr) (c : Nat) (f : Value) (w : World) : Calls Tryz.prog 259 #[.slice a 0 c, f] w (RetS (.int .i64 (-1)) w) := by
  go_enter Tryz.func259, Tryz.ntmps259
  go_wp2_with fail
  refine wp_loop_rounds 1 ?_
  rw [rounds_succ]
  go_wp2_with fail
  go_ret
  exact ⟨rfl, rfl⟩
theorem hasCnt_nil (a : Option Addr) (c : Nat) (f : Value) (w : World) : Calls Tryz.prog 166 #[.slice a 0 c, f] w (RetS (.bool false) w) := by
  go_enter Tryz.func166, Tryz.ntmps166
  go_wp2_with (go_at_call 259; refine (idxCnt_nil _ _ _ _).mono ?_; rintro e w' ⟨rfl, rfl⟩)
  go_ret
  exact ⟨rfl, rfl⟩
theorem idxRow_nil (a : Option Addr) (c : Nat) (f : Value) (w : World) : Calls Tryz.prog 290 #[.slice a 0 c, f] w (RetS (.int .i64 (-1)) w) := by
  go_enter Tryz.func290, Tryz.ntmps290
  go_wp2_with fail
  refine wp_loop_rounds 1 ?_
  rw [rounds_succ]
  go_wp2_with fail
  go_ret
  exact ⟨rfl, rfl⟩
theorem hasRow_nil (a : Option Addr) (c : Nat) (f : Value) (w : World) : Calls Tryz.prog 211 #[.slice a 0 c, f] w (RetS (.bool false) w) := by
  go_enter Tryz.func211, Tryz.ntmps211
  go_wp2_with (go_at_call 290; refine (idxRow_nil _ _ _ _).mono ?_; rintro e w' ⟨rfl, rfl⟩)
  go_ret
  exact ⟨rfl, rfl⟩
theorem idxLec_nil (a : Option Addr) (c : Nat) (f : Value) (w : World) : Calls Tryz.prog 189 #[.slice a 0 c, f] w (RetS (.int .i64 (-1)) w) := by
  go_enter Tryz.func189, Tryz.ntmps189
  go_wp2_with fail
  refine wp_loop_rounds 1 ?_
  rw [rounds_succ]
  go_wp2_with fail
  go_ret
  exact ⟨rfl, rfl⟩
theorem hasLec_nil (a : Option Addr) (c : Nat) (f : Value) (w : World) : Calls Tryz.prog 232 #[.slice a 0 c, f] w (RetS (.bool false) w) := by
  go_enter Tryz.func232, Tryz.ntmps232
  go_wp2_with (go_at_call 189; refine (idxLec_nil _ _ _ _).mono ?_; rintro e w' ⟨rfl, rfl⟩)
  go_ret
  exact ⟨rfl, rfl⟩
theorem idxTim_nil (a : Option Addr) (c : Nat) (f : Value) (w : World) : Calls Tryz.prog 309 #[.slice a 0 c, f] w (RetS (.int .i64 (-1)) w) := by
  go_enter Tryz.func309, Tryz.ntmps309
  go_wp2_with fail
  refine wp_loop_rounds 1 ?_
  rw [rounds_succ]
  go_wp2_with fail
  go_ret
  exact ⟨rfl, rfl⟩
theorem hasTim_nil (a : Option Addr) (c : Nat) (f : Value) (w : World) : Calls Tryz.prog 237 #[.slice a 0 c, f] w (RetS (.bool false) w) := by
  go_enter Tryz.func237, Tryz.ntmps237
  go_wp2_with (go_at_call 309; refine (idxTim_nil _ _ _ _).mono ?_; rintro e w' ⟨rfl, rfl⟩)
  go_ret
  exact ⟨rfl, rfl⟩
end Go.Proofs.YtcifdllbnbhcdaaGreatDoor
namespace Go.Proofs.YtcifdllbnbhcdaaGreatDoor
open Go.RowKit
theorem below2' {w w1 : World} {o o2 : Obj} (hb : Below ((w.alloc o).alloc o2).heap.size ((w.alloc o).alloc o2) w1) : Below w.heap.size w w1 := below2 (below2 hb)
theorem check_str (b : Bool) (n : Nat) (s : ByteArray) (w : World) : (Instr.checkKey b (n + 1) 9 (.string s)).run Tryz.prog w = .ok () w := by
  rw [Instr.checkKey]
  simp [run_underlying Tryz.underlying9]
theorem find_none (s : ByteArray) (w : World) : (Instr.findKey 9 (.string s) []).run Tryz.prog w = .ok none w := by
  simp [Instr.findKey, Instr.findNow, run_underlying Tryz.underlying9]
theorem lookup_empty (w : World) (M : Nat) (s : ByteArray) (h : w.heap[M]? = some (.map #[] 0)) : (Instr.lookup 188 (.map (some M)) (.string s) false).run Tryz.prog w = .ok (.bool false) w := by
  have h1 : (zeroValue 4).run Tryz.prog w = .ok (.bool false) w := by kernel_rfl
  have h2 := check_str true 9999 s w
  have h3 := find_none s w
  have h4 : (getObj M).run Tryz.prog w = .ok (.map #[] 0) w := by simp [getObj, Sem.run, h]
  unfold Instr.lookup
  simp [run_underlying Tryz.underlying188, h1, h2, h3, h4]
theorem update_empty (w : World) (M : Nat) (s : ByteArray) (h : w.heap[M]? = some (.map #[] 0)) : (Instr.mapUpdate 188 (.map (some M)) (.string s) (.bool true)).run Tryz.prog w = .ok () { w with heap := w.heap.setIfInBounds M (.map #[{ key := .string s, val := .bool true, born := 0 }] 1) } := by
  have h2 := check_str false 9999 s w
  have h3 := find_none s w
  have h4 : (getObj M).run Tryz.prog w = .ok (.map #[] 0) w := by simp [getObj, Sem.run, h]
  unfold Instr.mapUpdate
  simp [run_underlying Tryz.underlying188, h2, h3, h4, setObj, Sem.run, h]
theorem fit_nil (w : World) : Calls Tryz.prog 210 #[nilV, gridV, .int .i64 1] w (RetB (.bool true) w) := by
  go_enter Tryz.func210, Tryz.ntmps210
  go_wp2_with (go_at_call 237; refine (hasTim_nil _ _ _ _).mono ?_; rintro e w' ⟨rfl, rfl⟩)
  go_ret
  exact ⟨rfl, bpush (bpush (b0 _) _) _⟩
theorem map_there {w w3 : World} {o o2 : Obj} (hb : Below ((w.alloc o).alloc o2).heap.size ((w.alloc o).alloc o2) w3) : w3.heap[w.heap.size]? = some o := by
  rw [hb.block _ (by simp only [World.size_alloc]; omega), heap_alloc_old _ _ (by simp)]
  exact heap_alloc_new _ _
theorem bel_set {B M : Nat} {a w : World} {o : Obj} (h : Below B a w) (hM : B ≤ M) : Below B a { w with heap := w.heap.setIfInBounds M o } :=
  ⟨h.os, h.tape, h.output, by simpa using h.size, fun k hk => by
    rw [← h.block k hk]
    simp only [Array.getElem?_setIfInBounds]
    rw [if_neg (by omega)]⟩
set_option maxRecDepth 100000 in
set_option maxHeartbeats 4000000 in
theorem rooms_one (br cr : Nat) (_hcr : 1 ≤ cr) (w : World) (hA : At w br roomC) : Calls Tryz.prog 127 #[.slice (some ⟨br, 0, none⟩) 1 cr, gridV, .int .i64 1] w (RetB (.int .i64 0) w) := by
  have hmm := @run_makeMap Tryz.prog
  have hlk := lookup_empty
  have hmu := update_empty
  go_enter Tryz.func127, Tryz.ntmps127
  go_wp2_with (go_at_call 43; refine (week_one _).mono ?_; rintro e w2 ⟨rfl, hb⟩)
  have HB := Lib.hid (below2 hb)
  have A1 := hA.below HB.out
  have G1 := ((At.mk w [.int .i64 1, .int .i64 1, .int .i64 480, .int .i64 45] 28 rfl).below hb)
  have C1 := A1.all
  simp only [cellsAre, roomC, Nat.zero_add, Nat.reduceAdd, and_true] at C1
  have C2 := G1.all
  simp only [cellsAre, Nat.zero_add, Nat.reduceAdd, and_true] at C2
  have U1 := ups A1.lt
  have U2 := ups G1.lt
  clear hb
  refine wp_loop_rounds 2 ?_
  rw [rounds_succ]
  go_wp2_with (first
    | (go_at_call 22; (with_reducible refine (code_R _).mono ?_); rintro e w' ⟨rfl, rfl⟩)
    | (go_at_call 22; (with_reducible refine (code_B _).mono ?_); rintro e w' ⟨rfl, rfl⟩)
    | (go_at_call 209; refine (asc_nil _).mono ?_; rintro e w' ⟨rfl, rfl⟩))
  refine (fit_nil _).mono ?_
  rintro e w3 ⟨rfl, hb⟩
  have HB3 := Lib.hid (below3 HB.out (below2' hb))
  have hM : w3.heap[w2.heap.size]? = some (.map #[] 0) := map_there hb
  have C3 := ((At.mk (w2.alloc (.map #[] 0)) roomC 110 (n := w2.heap.size + 1) (by simp)).below hb).all
  simp only [cellsAre, roomC, Nat.zero_add, Nat.reduceAdd, and_true] at C3
  clear hb
  go_wp2_with fail
  rw [rounds_succ]
  go_wp2_with fail
  go_ret
  exact ⟨rfl, bel_set HB3.out HB.out.size⟩
end Go.Proofs.YtcifdllbnbhcdaaGreatDoor
namespace Go.Proofs.YtcifdllbnbhcdaaGreatDoor
open Go.RowKit
set_option maxRecDepth 100000 in
theorem travel_nil (w : World) : Calls Tryz.prog 129 #[.agg #[.slice none 0 0, .slice none 0 0]] w (RetB (.int .i64 0) w) := by
  go_enter Tryz.func129, Tryz.ntmps129
  go_wp2_with fail
  refine wp_loop_rounds 1 ?_
  rw [rounds_succ]
  go_wp2_with (go_at_call 211; refine (hasRow_nil _ _ _ _).mono ?_; rintro e w' ⟨rfl, rfl⟩)
  refine wp_loop_rounds 1 ?_
  rw [rounds_succ]
  go_wp2_with fail
  go_ret
  exact ⟨rfl, bpush (bpush (b0 _) _) _⟩
set_option maxRecDepth 100000 in
theorem staff_nil (w : World) : Calls Tryz.prog 131 #[nilV, gridV, .int .i64 1] w (RetB (.int .i64 0) w) := by
  go_enter Tryz.func131, Tryz.ntmps131
  go_wp2_with (go_at_call 43; refine (week_one _).mono ?_; rintro e w' ⟨rfl, hb⟩)
  refine wp_loop_rounds 1 ?_
  rw [rounds_succ]
  go_wp2_with fail
  go_ret
  exact ⟨rfl, below2 hb⟩
set_option maxRecDepth 100000 in
theorem curr_nil (w : World) : Calls Tryz.prog 135 #[nilV] w (RetS (.int .i64 0) w) := by
  go_enter Tryz.func135, Tryz.ntmps135
  go_wp2_with fail
  refine wp_loop_rounds 1 ?_
  rw [rounds_succ]
  go_wp2_with fail
  go_ret
  exact ⟨rfl, rfl⟩
set_option maxRecDepth 100000 in
theorem req_nil (w : World) : Calls Tryz.prog 137 #[nilV] w (RetB (.int .i64 0) w) := by
  have hmm := @run_makeMap Tryz.prog
  go_enter Tryz.func137, Tryz.ntmps137
  go_wp2_with fail
  refine wp_loop_rounds 1 ?_
  rw [rounds_succ]
  go_wp2_with fail
  go_ret
  exact ⟨rfl, bpush (b0 _) _⟩
end Go.Proofs.YtcifdllbnbhcdaaGreatDoor
namespace Go.Proofs.YtcifdllbnbhcdaaGreatDoor
open Go.RowKit
theorem has0 (a : Option Addr) (c : Nat) (s : ByteArray) (w : World) : Calls Tryz.prog 215 #[.slice a 0 c, .string s] w (RetB (.bool false) w) := by
  go_enter Tryz.func215, Tryz.ntmps215
  go_wp2_with (go_at_call 138; refine (hasCls_nil _ _ _ _).mono ?_; rintro e w' ⟨rfl, rfl⟩)
  go_ret
  exact ⟨rfl, bpush (b0 _) _⟩
set_option maxRecDepth 100000 in
theorem pats_one (bp cp : Nat) (hc : 1 ≤ cp) (w : World) (hA : At w bp [.int .i64 1]) : Calls Tryz.prog 292 #[.slice (some ⟨bp, 0, none⟩) 1 cp, .int .i64 1] w (RetS (.int .i64 0) w) := by
  have hws := fun W => ws_any 1 1 W
  rw [show wsB 1 1 = true from by decide] at hws
  have C1 := hA.all
  simp only [cellsAre, and_true] at C1
  go_enter Tryz.func292, Tryz.ntmps292
  go_wp2_with fail
  refine wp_loop_rounds 2 ?_
  rw [rounds_succ]
  go_wp2_with (first
    | (go_at_call 45; refine (hws _).mono ?_; rintro e w' ⟨rfl, rfl⟩)
    | (go_at_call 30; refine (hasNum_nil _ _ _ _).mono ?_; rintro e w' ⟨rfl, rfl⟩))
  rw [rounds_succ]
  go_wp2_with fail
  go_ret
  exact ⟨rfl, rfl⟩
abbrev clsV (bp cp : Nat) : Value := .agg #[.string ⟨#[99, 49]⟩, .string ⟨#[65]⟩, .string ⟨#[76]⟩, .int .i64 1, .slice (some ⟨bp, 0, none⟩) 1 cp, .int .i64 5, .slice none 0 0, .slice none 0 0, .slice none 0 0]
set_option maxRecDepth 100000 in
theorem starts_nil (bp cp : Nat) (w : World) : Calls Tryz.prog 293 #[clsV bp cp, gridV] w (RetB (.bool true) w) := by
  go_enter Tryz.func293, Tryz.ntmps293
  go_wp2_with fail
  refine wp_loop_rounds 1 ?_
  rw [rounds_succ]
  go_wp2_with fail
  go_ret
  exact ⟨rfl, bpush (bpush (b0 _) _) _⟩
set_option maxRecDepth 100000 in
set_option maxHeartbeats 4000000 in
theorem class_one (bp cp : Nat) (hc : 1 ≤ cp) (w : World) (hA : At w bp [.int .i64 1]) : Calls Tryz.prog 214 #[clsV bp cp, gridV, .int .i64 1] w (RetB (.int .i64 0) w) := by
  have hp := pats_one bp cp hc _ ((hA.push (.cells #[.string ⟨#[99, 49]⟩, .string ⟨#[65]⟩, .string ⟨#[76]⟩, .int .i64 1, .slice (some ⟨bp, 0, none⟩) 1 cp, .int .i64 5, .slice none 0 0, .slice none 0 0, .slice none 0 0] 113)).push (.cells #[.int .i64 1, .int .i64 1, .int .i64 480, .int .i64 45] 28))
  go_enter Tryz.func214, Tryz.ntmps214
  go_wp2_with (first
    | (go_at_call 22; (with_reducible refine (code_c1 _).mono ?_); rintro e w' ⟨rfl, rfl⟩)
    | (go_at_call 22; (with_reducible refine (code_A _).mono ?_); rintro e w' ⟨rfl, rfl⟩)
    | (go_at_call 22; (with_reducible refine (code_L _).mono ?_); rintro e w' ⟨rfl, rfl⟩)
    | (go_at_call 292; refine hp.mono ?_; rintro e w' ⟨rfl, rfl⟩)
    | (go_at_call 209; refine (asc_nil _).mono ?_; rintro e w' ⟨rfl, rfl⟩)
    | (go_at_call 293; refine (starts_nil _ _ _).mono ?_; rintro e w' ⟨rfl, hb⟩))
  go_ret
  exact ⟨rfl, below2' hb⟩
end Go.Proofs.YtcifdllbnbhcdaaGreatDoor
namespace Go.Proofs.YtcifdllbnbhcdaaGreatDoor
open Go.RowKit
set_option maxRecDepth 100000 in
set_option maxHeartbeats 4000000 in
theorem classes_one (bc cc bp cp : Nat) (_hcc : 1 ≤ cc) (hcp : 1 ≤ cp) (w : World) (hA : At w bc (claC bp cp)) (hP : At w bp [.int .i64 1]) : Calls Tryz.prog 133 #[.slice (some ⟨bc, 0, none⟩) 1 cc, gridV, .int .i64 1] w (RetB (.int .i64 0) w) := by
  go_enter Tryz.func133, Tryz.ntmps133
  go_wp2_with (go_at_call 43; refine (week_one _).mono ?_; rintro e w2 ⟨rfl, hb⟩)
  have HB := Lib.hid (below2 hb)
  have A1 := hA.below HB.out
  have P1 := hP.below HB.out
  have G1 := (At.mk w [.int .i64 1, .int .i64 1, .int .i64 480, .int .i64 45] 28 rfl).below hb
  have C1 := A1.all
  simp only [cellsAre, claC, Nat.zero_add, Nat.reduceAdd, and_true] at C1
  have C2 := G1.all
  simp only [cellsAre, Nat.zero_add, Nat.reduceAdd, and_true] at C2
  have U1 := ups A1.lt
  have U2 := ups G1.lt
  clear hb
  refine wp_loop_rounds 2 ?_
  rw [rounds_succ]
  go_wp2_with fail
  refine (class_one bp cp hcp _ (P1.push _)).mono ?_
  rintro e w3 ⟨rfl, hb⟩
  have HB3 := Lib.hid (below3 HB.out (below2 hb))
  have C3 := ((At.mk w2 (claC bp cp) 113 rfl).below hb).all
  simp only [cellsAre, claC, Nat.zero_add, Nat.reduceAdd, and_true] at C3
  clear hb
  go_wp2_with fail
  go_still_tail 5, (by kernel_rfl)
  go_wp2_with (go_at_call 215; refine (has0 _ _ _ _).mono ?_; rintro e w4 ⟨rfl, hb⟩)
  rw [rounds_succ]
  go_wp2_with fail
  go_ret
  exact ⟨rfl, below3 (HB3.out.drew) hb⟩
end Go.Proofs.YtcifdllbnbhcdaaGreatDoor
namespace Go.Proofs.YtcifdllbnbhcdaaGreatDoor
open Go.RowKit
def regC (br cr bc cc : Nat) : List Value := [.int .i64 1, .int .i64 1, .int .i64 480, .int .i64 45, .int .i64 2, .int .i64 1, .slice none 0 0, .slice (some ⟨br, 0, none⟩) 1 cr, .slice none 0 0, .slice none 0 0, .slice none 0 0, .slice (some ⟨bc, 0, none⟩) 1 cc, .slice none 0 0, .slice none 0 0]
structure RegBox (w : World) (R br cr bc cc bp cp : Nat) : Prop where
  caps : 1 ≤ cr ∧ 1 ≤ cc ∧ 1 ≤ cp
  box : At w R (regC br cr bc cc)
  ro : At w br roomC
  cl : At w bc (claC bp cp)
  pa : At w bp [.int .i64 1]
theorem RegBox.below {w w2 : World} {R br cr bc cc bp cp : Nat} (h : RegBox w R br cr bc cc bp cp) (hb : Below w.heap.size w w2) : RegBox w2 R br cr bc cc bp cp :=
  ⟨h.caps, h.box.below hb, h.ro.below hb, h.cl.below hb, h.pa.below hb⟩
section
variable {R br cr bc cc bp cp : Nat}
theorem chk124 (w : World) (h : RegBox w R br cr bc cc bp cp) : Calls Tryz.prog 124 #[.pointer (some ⟨R, 0, none⟩)] w (RetB (.int .i64 0) w) := by
  have C := h.box.all
  simp only [cellsAre, regC, Nat.zero_add, Nat.reduceAdd, and_true] at C
  go_enter Tryz.func124, Tryz.ntmps124
  go_wp2_with (go_at_call 20; refine (grid_one _).mono ?_; rintro e w' ⟨rfl, hb⟩)
  go_ret
  exact ⟨rfl, hb⟩
theorem chk125 (w : World) (h : RegBox w R br cr bc cc bp cp) : Calls Tryz.prog 125 #[.pointer (some ⟨R, 0, none⟩)] w (RetB (.int .i64 0) w) := by
  have C := h.box.all
  simp only [cellsAre, regC, Nat.zero_add, Nat.reduceAdd, and_true] at C
  go_enter Tryz.func125, Tryz.ntmps125
  go_wp2_with (go_at_call 21; refine (term_one _).mono ?_; rintro e w' ⟨rfl, hb⟩)
  go_ret
  exact ⟨rfl, hb⟩
theorem chk126 (w : World) (h : RegBox w R br cr bc cc bp cp) : Calls Tryz.prog 126 #[.pointer (some ⟨R, 0, none⟩)] w (RetB (.int .i64 0) w) := by
  have C := h.box.all
  simp only [cellsAre, regC, Nat.zero_add, Nat.reduceAdd, and_true] at C
  go_enter Tryz.func126, Tryz.ntmps126
  go_wp2_with (go_at_call 127; refine (rooms_one br cr h.caps.1 _ h.ro).mono ?_; rintro e w' ⟨rfl, hb⟩)
  go_ret
  exact ⟨rfl, hb⟩
theorem chk128 (w : World) (h : RegBox w R br cr bc cc bp cp) : Calls Tryz.prog 128 #[.pointer (some ⟨R, 0, none⟩)] w (RetB (.int .i64 0) w) := by
  have C := h.box.all
  simp only [cellsAre, regC, Nat.zero_add, Nat.reduceAdd, and_true] at C
  go_enter Tryz.func128, Tryz.ntmps128
  go_wp2_with (go_at_call 129; refine (travel_nil _).mono ?_; rintro e w' ⟨rfl, hb⟩)
  go_ret
  exact ⟨rfl, hb⟩
theorem chk130 (w : World) (h : RegBox w R br cr bc cc bp cp) : Calls Tryz.prog 130 #[.pointer (some ⟨R, 0, none⟩)] w (RetB (.int .i64 0) w) := by
  have C := h.box.all
  simp only [cellsAre, regC, Nat.zero_add, Nat.reduceAdd, and_true] at C
  go_enter Tryz.func130, Tryz.ntmps130
  go_wp2_with (go_at_call 131; refine (staff_nil _).mono ?_; rintro e w' ⟨rfl, hb⟩)
  go_ret
  exact ⟨rfl, hb⟩
theorem chk132 (w : World) (h : RegBox w R br cr bc cc bp cp) : Calls Tryz.prog 132 #[.pointer (some ⟨R, 0, none⟩)] w (RetB (.int .i64 0) w) := by
  have C := h.box.all
  simp only [cellsAre, regC, Nat.zero_add, Nat.reduceAdd, and_true] at C
  go_enter Tryz.func132, Tryz.ntmps132
  go_wp2_with (go_at_call 133; refine (classes_one bc cc bp cp h.caps.2.1 h.caps.2.2 _ h.cl h.pa).mono ?_; rintro e w' ⟨rfl, hb⟩)
  go_ret
  exact ⟨rfl, hb⟩
theorem chk134 (w : World) (h : RegBox w R br cr bc cc bp cp) : Calls Tryz.prog 134 #[.pointer (some ⟨R, 0, none⟩)] w (RetB (.int .i64 0) w) := by
  have C := h.box.all
  simp only [cellsAre, regC, Nat.zero_add, Nat.reduceAdd, and_true] at C
  go_enter Tryz.func134, Tryz.ntmps134
  go_wp2_with (go_at_call 135; refine (curr_nil _).mono ?_; rintro e w' ⟨rfl, rfl⟩)
  go_ret
  exact ⟨rfl, b0 _⟩
theorem chk136 (w : World) (h : RegBox w R br cr bc cc bp cp) : Calls Tryz.prog 136 #[.pointer (some ⟨R, 0, none⟩)] w (RetB (.int .i64 0) w) := by
  have C := h.box.all
  simp only [cellsAre, regC, Nat.zero_add, Nat.reduceAdd, and_true] at C
  go_enter Tryz.func136, Tryz.ntmps136
  go_wp2_with (go_at_call 137; refine (req_nil _).mono ?_; rintro e w' ⟨rfl, hb⟩)
  go_ret
  exact ⟨rfl, hb⟩
theorem staffed_one (v0 : Value) (hv : v0 = regV br cr bc cc) (w : World) : Calls Tryz.prog 140 #[v0, clsV bp cp] w (RetB (.bool true) w) := by
  subst hv
  go_enter Tryz.func140, Tryz.ntmps140
  go_wp2_with (go_at_call 149; refine (hasStr_nil _ _ _ _).mono ?_; rintro e w' ⟨rfl, rfl⟩)
  go_ret
  exact ⟨rfl, bpush (bpush (b0 _) _) _⟩
set_option maxRecDepth 100000 in
theorem chk139 (w : World) (h : RegBox w R br cr bc cc bp cp) : Calls Tryz.prog 139 #[clsV bp cp, .pointer (some ⟨R, 0, none⟩)] w (RetB (.bool false) w) := by
  have C := h.box.all
  simp only [cellsAre, regC, Nat.zero_add, Nat.reduceAdd, and_true] at C
  have U := ups (b := R) (n := w.heap.size) (At.lt (v := .int .i64 1) h.box)
  go_enter Tryz.func139, Tryz.ntmps139
  go_wp2_with (go_at_call 140; refine (staffed_one _ rfl _).mono ?_; rintro e w' ⟨rfl, hb⟩)
  go_ret
  exact ⟨rfl, below2 hb⟩
set_option maxRecDepth 100000 in
theorem idx139 (w : World) (h : RegBox w R br cr bc cc bp cp) : Calls Tryz.prog 191 #[.slice (some ⟨bc, 0, none⟩) 1 cc, .func (.func 139) #[] #[.pointer (some ⟨R, 0, none⟩)]] w (RetB (.int .i64 (-1)) w) := by
  have C := h.cl.all
  simp only [cellsAre, claC, Nat.zero_add, Nat.reduceAdd, and_true] at C
  have hcc := h.caps.2.1
  go_enter Tryz.func191, Tryz.ntmps191
  go_wp2_with fail
  refine wp_loop_rounds 2 ?_
  rw [rounds_succ]
  go_wp2_with (go_at_call 139; refine (chk139 _ h).mono ?_; rintro e w' ⟨rfl, hb⟩)
  rw [rounds_succ]
  go_wp2_with fail
  go_ret
  exact ⟨rfl, hb⟩
theorem has139 (w : World) (h : RegBox w R br cr bc cc bp cp) : Calls Tryz.prog 138 #[.slice (some ⟨bc, 0, none⟩) 1 cc, .func (.func 139) #[] #[.pointer (some ⟨R, 0, none⟩)]] w (RetB (.bool false) w) := by
  go_enter Tryz.func138, Tryz.ntmps138
  go_wp2_with (go_at_call 191; refine (idx139 _ h).mono ?_; rintro e w' ⟨rfl, hb⟩)
  go_ret
  exact ⟨rfl, hb⟩
end
end Go.Proofs.YtcifdllbnbhcdaaGreatDoor
namespace Go.Proofs.YtcifdllbnbhcdaaGreatDoor
open Go.RowKit
def chkF (R : Nat) : List Value := [.func (.func 124) #[] #[.pointer (some ⟨R, 0, none⟩)], .func (.func 125) #[] #[.pointer (some ⟨R, 0, none⟩)], .func (.func 126) #[] #[.pointer (some ⟨R, 0, none⟩)], .func (.func 128) #[] #[.pointer (some ⟨R, 0, none⟩)], .func (.func 130) #[] #[.pointer (some ⟨R, 0, none⟩)], .func (.func 132) #[] #[.pointer (some ⟨R, 0, none⟩)], .func (.func 134) #[] #[.pointer (some ⟨R, 0, none⟩)], .func (.func 136) #[] #[.pointer (some ⟨R, 0, none⟩)]]
theorem RegBox.lt {w : World} {R br cr bc cc bp cp : Nat} (h : RegBox w R br cr bc cc bp cp) : R < w.heap.size := At.lt (v := .int .i64 1) h.box
set_option maxRecDepth 100000 in
set_option maxHeartbeats 8000000 in
theorem reg_ok (v : Value) (w : World) (h : RegAt w v) : Calls Tryz.prog 91 #[v] w (RetB (.int .i64 0) w) := by
  obtain ⟨br, cr, bc, cc, bp, cp, rfl, hcap, h1, h2, h3⟩ := h
  have HR : Hid (RegBox (w.alloc (.cells #[.int .i64 1, .int .i64 1, .int .i64 480, .int .i64 45, .int .i64 2, .int .i64 1, .slice none 0 0, .slice (some ⟨br, 0, none⟩) 1 cr, .slice none 0 0, .slice none 0 0, .slice none 0 0, .slice (some ⟨bc, 0, none⟩) 1 cc, .slice none 0 0, .slice none 0 0] 58)) w.heap.size br cr bc cc bp cp) := Lib.hid ⟨hcap, At.mk w (regC br cr bc cc) 58 rfl, h1.push _, h2.push _, h3.push _⟩
  clear h1 h2 h3
  have hmf : ∀ (fn : Fn) (first cap : Array Value) (w : World), (Instr.makeFunc fn first cap).run Tryz.prog w = .ok (.func fn first cap) w := fun _ _ _ _ => rfl
  go_enter Tryz.func91, Tryz.ntmps91
  have HF := Lib.hid (At.mk (w.alloc (.cells (regC br cr bc cc).toArray 58)) (chkF w.heap.size) 233 (n := w.heap.size + 1) (by simp))
  have HR := Lib.hid (HR.out.below (bpush (b0 _) (.cells (chkF w.heap.size).toArray 233)))
  go_wp2_with fail
  refine wp_loop_rounds 9 ?_
  rw [rounds_succ]
  go_wp2_with fail
  refine (chk124 _ HR.out).mono ?_
  rintro e w1 ⟨rfl, hb⟩
  replace HR := Lib.hid (HR.out.below hb)
  have HB := Lib.hid (below2' hb)
  replace HF := Lib.hid (HF.out.below hb)
  have U := ups HR.out.lt
  obtain ⟨R, hR⟩ : ∃ R, R = w.heap.size := ⟨_, rfl⟩
  rw [← hR] at HR HF U ⊢
  clear hR
  have C := HF.out.all
  simp only [cellsAre, chkF, Nat.zero_add, Nat.reduceAdd, and_true] at C
  clear hb
  go_wp2_with fail
  rw [rounds_succ]
  go_wp2_with fail
  refine (chk125 _ HR.out).mono ?_
  rintro e w2 ⟨rfl, hb⟩
  replace HR := Lib.hid (HR.out.below hb)
  replace HB := Lib.hid (below3 HB.out hb)
  replace HF := Lib.hid (HF.out.below hb)
  replace C := HF.out.all
  simp only [cellsAre, chkF, Nat.zero_add, Nat.reduceAdd, and_true] at C
  clear hb
  go_wp2_with fail
  rw [rounds_succ]
  go_wp2_with fail
  refine (chk126 _ HR.out).mono ?_
  rintro e w3 ⟨rfl, hb⟩
  replace HR := Lib.hid (HR.out.below hb)
  replace HB := Lib.hid (below3 HB.out hb)
  replace HF := Lib.hid (HF.out.below hb)
  replace C := HF.out.all
  simp only [cellsAre, chkF, Nat.zero_add, Nat.reduceAdd, and_true] at C
  clear hb
  go_wp2_with fail
  rw [rounds_succ]
  go_wp2_with fail
  refine (chk128 _ HR.out).mono ?_
  rintro e w4 ⟨rfl, hb⟩
  replace HR := Lib.hid (HR.out.below hb)
  replace HB := Lib.hid (below3 HB.out hb)
  replace HF := Lib.hid (HF.out.below hb)
  replace C := HF.out.all
  simp only [cellsAre, chkF, Nat.zero_add, Nat.reduceAdd, and_true] at C
  clear hb
  go_wp2_with fail
  rw [rounds_succ]
  go_wp2_with fail
  refine (chk130 _ HR.out).mono ?_
  rintro e w5 ⟨rfl, hb⟩
  replace HR := Lib.hid (HR.out.below hb)
  replace HB := Lib.hid (below3 HB.out hb)
  replace HF := Lib.hid (HF.out.below hb)
  replace C := HF.out.all
  simp only [cellsAre, chkF, Nat.zero_add, Nat.reduceAdd, and_true] at C
  clear hb
  go_wp2_with fail
  rw [rounds_succ]
  go_wp2_with fail
  refine (chk132 _ HR.out).mono ?_
  rintro e w6 ⟨rfl, hb⟩
  replace HR := Lib.hid (HR.out.below hb)
  replace HB := Lib.hid (below3 HB.out hb)
  replace HF := Lib.hid (HF.out.below hb)
  replace C := HF.out.all
  simp only [cellsAre, chkF, Nat.zero_add, Nat.reduceAdd, and_true] at C
  clear hb
  go_wp2_with fail
  rw [rounds_succ]
  go_wp2_with fail
  refine (chk134 _ HR.out).mono ?_
  rintro e w7 ⟨rfl, hb⟩
  replace HR := Lib.hid (HR.out.below hb)
  replace HB := Lib.hid (below3 HB.out hb)
  replace HF := Lib.hid (HF.out.below hb)
  replace C := HF.out.all
  simp only [cellsAre, chkF, Nat.zero_add, Nat.reduceAdd, and_true] at C
  clear hb
  go_wp2_with fail
  rw [rounds_succ]
  go_wp2_with fail
  refine (chk136 _ HR.out).mono ?_
  rintro e w8 ⟨rfl, hb⟩
  replace HR := Lib.hid (HR.out.below hb)
  replace HB := Lib.hid (below3 HB.out hb)
  replace HF := Lib.hid (HF.out.below hb)
  replace C := HF.out.all
  simp only [cellsAre, chkF, Nat.zero_add, Nat.reduceAdd, and_true] at C
  clear hb
  go_wp2_with fail
  rw [rounds_succ]
  clear C
  have C := HR.out.box.all
  simp only [cellsAre, regC, Nat.zero_add, Nat.reduceAdd, and_true] at C
  go_wp2_with fail
  refine (has139 _ HR.out).mono ?_
  rintro e w9 ⟨rfl, hb⟩
  replace HR := Lib.hid (HR.out.below hb)
  replace HB := Lib.hid (below3 HB.out hb)
  clear hb C
  have C := HR.out.box.all
  simp only [cellsAre, regC, Nat.zero_add, Nat.reduceAdd, and_true] at C
  go_wp2_with (first
    | (go_at_call 141; refine (hasCur_nil _ _ _ _).mono ?_; rintro e w' ⟨rfl, rfl⟩)
    | (go_at_call 144; refine (hasReq_nil _ _ _ _).mono ?_; rintro e w' ⟨rfl, rfl⟩))
  go_ret
  exact ⟨rfl, HB.out⟩
end Go.Proofs.YtcifdllbnbhcdaaGreatDoor
namespace Go.Proofs.YtcifdllbnbhcdaaGreatDoor
open Go.RowKit
theorem reg_box {v : Value} {w : World} (h : RegAt w v) : ∃ br cr bc cc bp cp, v = regV br cr bc cc ∧ RegBox (w.alloc (.cells #[.int .i64 1, .int .i64 1, .int .i64 480, .int .i64 45, .int .i64 2, .int .i64 1, .slice none 0 0, .slice (some ⟨br, 0, none⟩) 1 cr, .slice none 0 0, .slice none 0 0, .slice none 0 0, .slice (some ⟨bc, 0, none⟩) 1 cc, .slice none 0 0, .slice none 0 0] 58)) w.heap.size br cr bc cc bp cp := by
  obtain ⟨br, cr, bc, cc, bp, cp, rfl, hcap, h1, h2, h3⟩ := h
  exact ⟨br, cr, bc, cc, bp, cp, rfl, hcap, At.mk w (regC br cr bc cc) 58 rfl, h1.push _, h2.push _, h3.push _⟩
theorem RegBox.reg {w : World} {R br cr bc cc bp cp : Nat} (h : RegBox w R br cr bc cc bp cp) : RegAt w (regV br cr bc cc) := ⟨br, cr, bc, cc, bp, cp, rfl, h.caps, h.ro, h.cl, h.pa⟩
set_option maxRecDepth 100000 in
set_option maxHeartbeats 2000000 in
theorem sect_nil (v : Value) (w : World) (h : RegAt w v) : Calls Tryz.prog 57 #[v, nilV] w (RetB (.int .i64 0) w) := by
  obtain ⟨br, cr, bc, cc, bp, cp, rfl, hB⟩ := reg_box h
  clear h
  have hmm := @run_makeMap Tryz.prog
  have hr := Lib.hid (reg_ok _ _ hB.reg)
  clear hB
  go_enter Tryz.func57, Tryz.ntmps57
  go_wp2_with (go_at_call 91; refine hr.out.mono ?_; rintro e w' ⟨rfl, hb⟩)
  refine wp_loop_rounds 1 ?_
  rw [rounds_succ]
  go_wp2_with fail
  go_ret
  exact ⟨rfl, bpush (below2 hb) _⟩
abbrev roomV : Value := .agg #[.string ⟨#[82]⟩, .string ⟨#[66]⟩, .int .i64 9, .slice none 0 0, .slice none 0 0]
set_option maxRecDepth 100000 in
theorem fits_one (bp cp : Nat) (w : World) : Calls Tryz.prog 230 #[roomV, clsV bp cp] w (RetB (.bool true) w) := by
  have hmf : ∀ (fn : Fn) (first cap : Array Value) (w : World), (Instr.makeFunc fn first cap).run Tryz.prog w = .ok (.func fn first cap) w := fun _ _ _ _ => rfl
  go_enter Tryz.func230, Tryz.ntmps230
  go_wp2_with (go_at_call 149; refine (hasStr_nil _ _ _ _).mono ?_; rintro e w' ⟨rfl, rfl⟩)
  go_ret
  exact ⟨rfl, bpush (bpush (b0 _) _) _⟩
def Ret1 (vs : List Value) (w : World) (e : Ending) (w2 : World) : Prop := ∃ b c, e = .returned (.slice (some ⟨b, 0, none⟩) 1 c) ∧ 1 ≤ c ∧ At w2 b vs ∧ Below w.heap.size w w2
set_option maxRecDepth 100000 in
set_option maxHeartbeats 2000000 in
theorem all_one (w : World) : Calls Tryz.prog 307 #[.int .i64 1, gridV] w (Ret1 [.int .i64 0, .int .i64 0] w) := by
  go_enter Tryz.func307, Tryz.ntmps307
  go_wp2_with fail
  refine wp_loop_rounds 2 ?_
  rw [rounds_succ]
  go_wp2_with fail
  refine wp_loop_rounds 2 ?_
  rw [rounds_succ]
  go_wp2_with fail
  rw [rounds_succ]
  go_wp2_with fail
  rw [rounds_succ]
  go_wp2_with fail
  have hc := cap_ge 1 0 305 (w.tape w.drawn (Question.appendCap 1 0 305))
  generalize (Question.appendCap 1 0 305).cut (w.tape w.drawn (Question.appendCap 1 0 305)) = c at hc ⊢
  go_ret
  exact ⟨_, _, rfl, hc, (At.mkx _ [.int .i64 0, .int .i64 0] _ 305 (by simp)).drew, bdrw (bpush (bpush (bpush (b0 _) _) _) _)⟩
theorem apart_nil (a b c d : Int) (w : World) : Calls Tryz.prog 308 #[.slice none 0 0, .agg #[.int .i64 a, .int .i64 b, .int .i64 c, .int .i64 d]] w (RetB (.bool true) w) := by
  have hmf : ∀ (fn : Fn) (first cap : Array Value) (w : World), (Instr.makeFunc fn first cap).run Tryz.prog w = .ok (.func fn first cap) w := fun _ _ _ _ => rfl
  go_enter Tryz.func308, Tryz.ntmps308
  go_wp2_with (go_at_call 237; refine (hasTim_nil _ _ _ _).mono ?_; rintro e w' ⟨rfl, rfl⟩)
  go_ret
  exact ⟨rfl, bpush (b0 _) _⟩
theorem open_one (a b c d : Int) (w : World) : Calls Tryz.prog 235 #[roomV, .agg #[.int .i64 a, .int .i64 b, .int .i64 c, .int .i64 d]] w (RetB (.bool true) w) := by
  go_enter Tryz.func235, Tryz.ntmps235
  go_wp2_with (go_at_call 308; refine (apart_nil _ _ _ _ _).mono ?_; rintro e w' ⟨rfl, hb⟩)
  go_ret
  exact ⟨rfl, below2' hb⟩
end Go.Proofs.YtcifdllbnbhcdaaGreatDoor
namespace Go.Proofs.YtcifdllbnbhcdaaGreatDoor
open Go.RowKit
set_option maxRecDepth 100000 in
set_option maxHeartbeats 2000000 in
theorem times_one (bp cp : Nat) (_hcp : 1 ≤ cp) (w : World) (hP : At w bp [.int .i64 1]) : Calls Tryz.prog 231 #[clsV bp cp, gridV] w (Ret1 [.int .i64 1, .int .i64 0, .int .i64 0, .int .i64 1] w) := by
  go_enter Tryz.func231, Tryz.ntmps231
  go_wp2_with fail
  go_step3
  go_wp2_with fail
  refine (grid_one _).mono ?_
  rintro e w2 ⟨rfl, hb⟩
  have HB := Lib.hid (below2' hb)
  have P1 := hP.below HB.out
  have B1 := ((At.mk w (claC bp cp) 113 rfl).push (.cells #[.int .i64 1, .int .i64 1, .int .i64 480, .int .i64 45] 28)).below hb
  have B2 := (At.mk (w.alloc (.cells (claC bp cp).toArray 113)) [.int .i64 1, .int .i64 1, .int .i64 480, .int .i64 45] 28 (n := w.heap.size + 1) (by simp)).below hb
  clear hb
  have C1 := B1.all
  simp only [cellsAre, claC, Nat.zero_add, Nat.reduceAdd, and_true] at C1
  have C2 := B2.all
  simp only [cellsAre, Nat.zero_add, Nat.reduceAdd, and_true] at C2
  go_wp2_with fail
  refine (all_one _).mono ?_
  rintro e w3 ⟨ba, ca, rfl, hca, hA, hb⟩
  have HB3 := Lib.hid (below3 HB.out hb)
  replace P1 := P1.below hb
  replace B1 := B1.below hb
  clear hb C1 C2 B2
  have C1 := B1.all
  simp only [cellsAre, claC, Nat.zero_add, Nat.reduceAdd, and_true] at C1
  have C2 := P1.all
  simp only [cellsAre, and_true] at C2
  have C3 := hA.all
  simp only [cellsAre, Nat.zero_add, and_true] at C3
  have U1 := ups B1.lt
  have U2 := ups P1.lt
  have U3 := ups hA.lt
  go_wp2_with fail
  go_step3
  go_wp2_with fail
  refine wp_loop_rounds 2 ?_
  rw [rounds_succ]
  go_wp2_with fail
  refine wp_loop_rounds 2 ?_
  rw [rounds_succ]
  go_wp2_with fail
  rw [rounds_succ]
  go_wp2_with fail
  rw [rounds_succ]
  go_wp2_with fail
  have hc := cap_ge 1 0 34 (w3.tape w3.drawn (Question.appendCap 1 0 34))
  generalize (Question.appendCap 1 0 34).cut (w3.tape w3.drawn (Question.appendCap 1 0 34)) = c at hc ⊢
  go_ret
  exact ⟨_, _, rfl, hc, (At.mkx _ [.int .i64 1, .int .i64 0, .int .i64 0, .int .i64 1] _ 34 (by simp)).drew, below3 HB3.out (bdrw (bpush (bpush (bpush (b0 _) _) _) _))⟩
end Go.Proofs.YtcifdllbnbhcdaaGreatDoor
