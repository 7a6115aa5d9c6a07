/- Texts Base, Codes, V1, V2, V3, V4, V5, V6, V7, V8, V9, joined: walks and laws. -/
import Derived.BigQuiet
import Derived.Deep.QuietTactic
import Derived.IntWalk
import Derived.Laws.OwnMore
import Derived.Lib.Hide
import Derived.Lib.OthersKept
import Derived.Lib.OwnKind
import Derived.RangeFuncBox
import Derived.WalkKit
import Derived.WalkLawsBesides
import Derived.WalkSpells
import Derived.Test.YtcifdllbnbhcdaaGreatDoorProg
namespace Go.Proofs.YtcifdllbnbhcdaaGreatDoor
open Go.RowKit
abbrev L8 := List UInt8
def arr (l : L8) : ByteArray := ⟨l.toArray⟩
theorem arr_size (l : L8) : (arr l).size = l.length := by simp [arr, ByteArray.size]
theorem arr_toList (l : L8) : (arr l).toList = l := by rw [ByteArray.toList_eq]; rfl
theorem ret_int {k : IntKind} {a b : Int} (h : a = b) : Ending.returned (.int k a) = .returned (.int k b) := by rw [h]
theorem ret_bool {a b : Bool} (h : a = b) : Ending.returned (.bool a) = .returned (.bool b) := by rw [h]
theorem lt_of_cell {w : World} {a : Addr} {v : Value} (h : w.cell? a = some v) : a.block < w.heap.size := by
  rcases Nat.lt_or_ge a.block w.heap.size with h' | h'
  · exact h'
  · simp [World.cell?, Array.getElem?_eq_none h'] at h
theorem lt_of_heap {w : World} {p : Nat} {o : Obj} (h : w.heap[p]? = some o) : p < w.heap.size := by
  by_cases c : p < w.heap.size
  · exact c
  · rw [Array.getElem?_eq_none (by omega)] at h; cases h
theorem same_flip {P : Program} {f : FuncId} {args : Array Value} {w : World} {x : Ending} (h : Calls P f args w fun e w' => e = x ∧ w = w') : Calls P f args w fun e w' => e = x ∧ w' = w :=
  h.mono fun _ _ ⟨a, b⟩ => ⟨a, b.symm⟩
def RetB (v : Value) (w : World) (e : Ending) (w' : World) : Prop := e = .returned v ∧ Below w.heap.size w w'
def RetS (v : Value) (w : World) (e : Ending) (w' : World) : Prop := e = .returned v ∧ w = w'
theorem below2 {w w1 : World} {o : Obj} (hb : Below (w.alloc o).heap.size (w.alloc o) w1) : Below w.heap.size w w1 := ((Below.refl _ _).alloc (Nat.le_refl _) o).trans (hb.mono (by simp))
theorem below3 {w w1 w2 : World} (h : Below w.heap.size w w1) (h2 : Below w1.heap.size w1 w2) : Below w.heap.size w w2 := h.trans (h2.mono h.size)
theorem below_drewN (w : World) (n : Nat) : Below w.heap.size w (w.drewN n) := ⟨rfl, rfl, rfl, Nat.le_refl _, fun _ _ => rfl⟩
theorem bcell {W w1 : World} (hb : Below W.heap.size W w1) : (∀ b o, b < W.heap.size → w1.cell? ⟨b, o, none⟩ = W.cell? ⟨b, o, none⟩) ∧ (∀ b o, b < W.heap.size → w1.frozen? ⟨b, o, none⟩ = W.frozen? ⟨b, o, none⟩) :=
  ⟨fun b o h => hb.cell (p := ⟨b, o, none⟩) h, fun b o h => hb.frozen (p := ⟨b, o, none⟩) h⟩
theorem grown_below {w w' : World} (h : Below w.heap.size w w') (row : Option Nat) : w.grownBy w' row := ⟨h.os, h.tape, h.output, h.size, fun k hk _ => h.block k hk⟩
theorem row_below {w w' : World} {B s n : Nat} {e : TypeId} {v : Value} {xs : List Value} (h : w.ownsRow B e s v n xs) (hb : Below w.heap.size w w') : w'.ownsRow B e s v n xs := by
  refine h.kept (row := none) (grown_below hb none) ?_
  cases v.ownBlock <;> simp
theorem row_kept {w w' : World} {B B2 s1 s2 n1 n2 : Nat} {e1 e2 : TypeId} {v1 v2 : Value} {xs1 xs2 : List Value} (h1 : w.ownsRow B e1 s1 v1 n1 xs1) (h2 : w.ownsRow B2 e2 s2 v2 n2 xs2) (hne : e1 ≠ e2) (hg : w.grownBy w' v2.ownBlock) : w'.ownsRow B e1 s1 v1 n1 xs1 := by
  refine h1.kept hg ?_
  cases hv : v1.ownBlock with
  | none => exact Or.inl rfl
  | some g =>
    refine Or.inr (fun e => ?_)
    obtain ⟨c, fz, hc⟩ := Lib.ownsRow_kind h1 g hv
    obtain ⟨c', fz', hc'⟩ := Lib.ownsRow_kind h2 g e.symm
    rw [hc] at hc'
    simp only [Option.some.injEq, Obj.cells.injEq] at hc'
    exact hne hc'.2.1
def IntsAt (w : World) (a : Option Addr) (n : Nat) (hs : List Int) : Prop :=
  hs.length = n ∧ n ≤ 9223372036854775807 ∧ (n = 0 ∨ ∃ b off, a = some ⟨b, off, none⟩ ∧ ∀ i, i < n → w.cell? ⟨b, off + i, none⟩ = some (.int .i64 (hs.getD i 0)))
theorem IntsAt.below {w w' : World} {a : Option Addr} {n : Nat} {hs : List Int} (h : IntsAt w a n hs) (hb : Below w.heap.size w w') : IntsAt w' a n hs := by
  obtain ⟨h1, h3, h2⟩ := h
  refine ⟨h1, h3, ?_⟩
  rcases h2 with h2 | ⟨b, off, ha, hc⟩
  · exact Or.inl h2
  · exact Or.inr ⟨b, off, ha, fun i hi => by rw [hb.cell (p := ⟨b, off + i, none⟩) (World.block_lt_of_cell? _ ⟨b, off + i, none⟩ (hc i hi))]; exact hc i hi⟩
theorem IntsAt.of_owns {w : World} {base : Nat} {e : TypeId} {v : Value} {L : List Int} (h : w.ownsRow base e 1 v L.length (L.map (Value.int .i64))) :
    ∃ a cap, v = .slice a L.length cap ∧ IntsAt w a L.length L := by
  obtain ⟨h1, ⟨rfl, h2⟩ | ⟨g, cap, cur, rfl, hg, hh, hc, hm, hs, ht⟩⟩ := id h
  · exact ⟨none, 0, by rw [h2], by rw [h2]; exact ⟨h2, by omega, Or.inl rfl⟩⟩
  · refine ⟨_, _, rfl, rfl, by unfold maxLen at hm; omega, ?_⟩
    by_cases h0 : L.length = 0
    · exact Or.inl h0
    · refine Or.inr ⟨g, 0, rfl, fun i hi => ?_⟩
      rw [Nat.zero_add, h.cellAt i (by omega)]
      simp [hi]
def Ints (w : World) (v : Value) (hs : List Int) : Prop := ∃ a cap, v = .slice a hs.length cap ∧ IntsAt w a hs.length hs
theorem Ints.below {w w' : World} {v : Value} {hs : List Int} (h : Ints w v hs) (hb : Below w.heap.size w w') : Ints w' v hs := by
  obtain ⟨a, cap, h1, h2⟩ := h
  exact ⟨a, cap, h1, h2.below hb⟩
abbrev Prs := List (Int × Int)
def pcells (xs : Prs) : List Value := xs.flatMap (fun d => [.int .i64 d.1, .int .i64 d.2])
theorem pcells_at : ∀ (xs : Prs) (j : Nat), j < xs.length → (pcells xs)[j * 2]? = some (.int .i64 (xs.getD j (0, 0)).1) ∧ (pcells xs)[j * 2 + 1]? = some (.int .i64 (xs.getD j (0, 0)).2)
  | [], j, h => by simp at h
  | d :: xs, 0, _ => by simp [pcells, List.getD]
  | d :: xs, j + 1, h => by
    have ih := pcells_at xs j (by simpa using h)
    have e : pcells (d :: xs) = .int .i64 d.1 :: .int .i64 d.2 :: pcells xs := rfl
    have e2 : (j + 1) * 2 = j * 2 + 1 + 1 := by omega
    rw [e, e2]
    simpa [List.getD] using ih
def PCells (w : World) (b off : Nat) (xs : Prs) : Prop := ∀ j, j < xs.length → w.cell? ⟨b, off + j * 2, none⟩ = some (.int .i64 (xs.getD j (0, 0)).1) ∧ w.cell? ⟨b, off + j * 2 + 1, none⟩ = some (.int .i64 (xs.getD j (0, 0)).2)
theorem PCells.below {w w' : World} {b off : Nat} {xs : Prs} (h : PCells w b off xs) (hb : Below w.heap.size w w') : PCells w' b off xs := fun j hj => by
  obtain ⟨p, q⟩ := h j hj
  exact ⟨by rw [hb.cell (lt_of_cell p)]; exact p, by rw [hb.cell (lt_of_cell q)]; exact q⟩
def Pairs (w : World) (v : Value) (xs : Prs) : Prop := ∃ a cap, v = .slice a xs.length cap ∧ xs.length ≤ 9223372036854775807 ∧ (xs = [] ∨ ∃ b off, a = some ⟨b, off, none⟩ ∧ PCells w b off xs)
theorem Pairs.below {w w' : World} {v : Value} {xs : Prs} (h : Pairs w v xs) (hb : Below w.heap.size w w') : Pairs w' v xs := by
  obtain ⟨a, cap, h1, h2, h3⟩ := h
  refine ⟨a, cap, h1, h2, ?_⟩
  rcases h3 with h3 | ⟨b, off, ha, hc⟩
  · exact Or.inl h3
  · exact Or.inr ⟨b, off, ha, hc.below hb⟩
theorem Pairs.of_owns {w : World} {B : Nat} {e : TypeId} {v : Value} {xs : Prs} (h : w.ownsRow B e 2 v xs.length (pcells xs)) : Pairs w v xs := by
  rcases h.2 with ⟨rfl, hn⟩ | ⟨g, cap, cur, rfl, _, hg, hle, hm, hs, htake⟩
  · have : xs = [] := List.eq_nil_of_length_eq_zero hn
    subst this
    exact ⟨none, 0, rfl, by simp, Or.inl rfl⟩
  · refine ⟨_, cap, rfl, by unfold maxLen at hm; omega, Or.inr ⟨g, 0, rfl, fun j hj => ?_⟩⟩
    obtain ⟨p, q⟩ := pcells_at xs j hj
    rw [Nat.zero_add]
    have hc : ∀ i : Nat, w.cell? ⟨g, i, none⟩ = cur[i]? := fun i => by simp [World.cell?, hg]
    rw [← htake] at p q
    rw [List.getElem?_take] at p q
    rw [hc, hc, ← Array.getElem?_toList, ← Array.getElem?_toList]
    rw [if_pos (by omega)] at p q
    exact ⟨p, q⟩
structure But (p : Nat) (w w' : World) : Prop where
  os : w'.os = w.os
  tape : w'.tape = w.tape
  output : w'.output = w.output
  size : w.heap.size ≤ w'.heap.size
  block : ∀ k, k < w.heap.size → k ≠ p → w'.heap[k]? = w.heap[k]?
theorem But.refl (p : Nat) (w : World) : But p w w := ⟨rfl, rfl, rfl, Nat.le_refl _, fun _ _ _ => rfl⟩
theorem But.trans {p : Nat} {a b c : World} (h : But p a b) (g : But p b c) : But p a c :=
  ⟨g.os.trans h.os, g.tape.trans h.tape, g.output.trans h.output, Nat.le_trans h.size g.size, fun k hk hp => (g.block k (Nat.lt_of_lt_of_le hk h.size) hp).trans (h.block k hk hp)⟩
theorem But.of_below {p : Nat} {w w' : World} (h : Below w.heap.size w w') : But p w w' := ⟨h.os, h.tape, h.output, h.size, fun k hk _ => h.block k hk⟩
theorem But.below {p B : Nat} {a w w' : World} (h : Below B a w) (g : But p w w') (hp : B ≤ p) (hB : B ≤ w.heap.size) : Below B a w' :=
  h.trans ⟨g.os, g.tape, g.output, g.size, fun k hk => g.block k (by omega) (by omega)⟩
theorem But.cell {p : Nat} {w w' : World} (h : But p w w') {b o : Nat} (hb : b < w.heap.size) (hp : b ≠ p) : w'.cell? ⟨b, o, none⟩ = w.cell? ⟨b, o, none⟩ := World.cell?_of_block (w := w) (h.block b hb hp)
theorem But.frozen {p : Nat} {w w' : World} (h : But p w w') {b o : Nat} (hb : b < w.heap.size) (hp : b ≠ p) : w'.frozen? ⟨b, o, none⟩ = w.frozen? ⟨b, o, none⟩ := World.frozen?_of_block (w := w) (h.block b hb hp)
theorem But.drewN {p : Nat} (w : World) (n : Nat) : But p w (w.drewN n) := ⟨rfl, rfl, rfl, Nat.le_refl _, fun _ _ _ => rfl⟩
theorem But.setCell (w : World) (p o : Nat) (v : Value) : But p w (w.setCell ⟨p, o, none⟩ v) := ⟨rfl, rfl, rfl, by simp, fun k _ hp => heap_setCell_other _ _ _ _ hp⟩
def DiceAt (w : World) (p : Nat) : Prop :=
  ∃ (a : Option Addr) (n c i : Nat) (L : List Int) (T : TypeId), w.heap[p]? = some (.cells #[.slice a n c, .int .i64 i] T (0, 0)) ∧ i ≤ n ∧ L.length = n ∧ n ≤ 9223372036854775806 ∧
    (n = 0 ∨ ∃ b off, a = some ⟨b, off, none⟩ ∧ b < p ∧ ∀ j, j < n → w.cell? ⟨b, off + j, none⟩ = some (.int .i64 (L.getD j 0))) ∧ (∀ x ∈ L, -9223372036854775808 ≤ x ∧ x ≤ 9223372036854775807)
theorem DiceAt.lt {w : World} {p : Nat} (h : DiceAt w p) : p < w.heap.size := by
  obtain ⟨a, n, c, i, L, T, hp, _⟩ := h; exact lt_of_heap hp
theorem DiceAt.same {w w' : World} {p : Nat} (h : DiceAt w p) (hs : ∀ k, k ≤ p → w'.heap[k]? = w.heap[k]?) : DiceAt w' p := by
  obtain ⟨a, n, c, i, L, T, hp, hi, hl, hn, hc, hL⟩ := h
  refine ⟨a, n, c, i, L, T, (hs p (Nat.le_refl _)).trans hp, hi, hl, hn, ?_, hL⟩
  rcases hc with h0 | ⟨b, off, ha, hbp, hcc⟩
  · exact Or.inl h0
  · exact Or.inr ⟨b, off, ha, hbp, fun j hj => by rw [World.cell?_of_block (w := w) (a := ⟨b, off + j, none⟩) (hs b (by omega))]; exact hcc j hj⟩
theorem DiceAt.below {w w' : World} {p : Nat} (h : DiceAt w p) (hb : Below w.heap.size w w') : DiceAt w' p := h.same fun k hk => hb.block k (by have := h.lt; omega)
theorem DiceAt.mk0 {w : World} {a : Option Addr} {n : Nat} (c : Nat) {L : List Int} (T : TypeId) (h : IntsAt w a n L) (hn : n ≤ 400) (hL : ∀ x ∈ L, -9223372036854775808 ≤ x ∧ x ≤ 9223372036854775807) :
    DiceAt (w.alloc (.cells #[.slice a n c, .int .i64 0] T)) w.heap.size := by
  obtain ⟨h1, h2, h3⟩ := h
  refine ⟨a, n, c, 0, L, T, ?_, by omega, h1, by omega, ?_, hL⟩
  · show (w.heap.push _)[w.heap.size]? = _
    simp
  · rcases h3 with h0 | ⟨b, off, ha, hc⟩
    · exact Or.inl h0
    · by_cases h0 : n = 0
      · exact Or.inl h0
      · have hb : b < w.heap.size := World.block_lt_of_cell? _ ⟨b, off + 0, none⟩ (hc 0 (by omega))
        exact Or.inr ⟨b, off, ha, hb, fun j hj => by rw [World.cell?_alloc_past _ _ _ hb]; exact hc j hj⟩
def Threw (p : Nat) (m : Int) (w : World) (e : Ending) (w' : World) : Prop := ∃ r : Int, 0 ≤ r ∧ r < m ∧ e = .returned (.int .i64 r) ∧ DiceAt w' p ∧ But p w w'
end Go.Proofs.YtcifdllbnbhcdaaGreatDoor
namespace Go.Proofs.YtcifdllbnbhcdaaGreatDoor
open Go.RowKit
def digI (c : Int) : Bool := decide (48 ≤ c) && decide (c ≤ 57)
def ltrI (c : Int) : Bool := (decide (65 ≤ c) && decide (c ≤ 90)) || (decide (97 ≤ c) && decide (c ≤ 122))
def okAt (c : Int) (m : Nat) : Bool := digI c || ltrI c || (decide (0 < m) && (c == 95 || c == 45))
def codeOk (l : L8) : Bool := decide (1 ≤ l.length ∧ l.length ≤ 16 ∧ ∀ m, m < l.length → okAt ((l.getD m 0).toNat : Int) m = true)
theorem codeOk_of {l : L8} (h : codeOk l = true) : 1 ≤ l.length ∧ l.length ≤ 16 ∧ ∀ m, m < l.length → okAt ((l.getD m 0).toNat : Int) m = true := of_decide_eq_true h
theorem codeOk_mk {l : L8} (h1 : 1 ≤ l.length) (h2 : l.length ≤ 16) (h3 : ∀ m, m < l.length → okAt ((l.getD m 0).toNat : Int) m = true) : codeOk l = true := decide_eq_true ⟨h1, h2, h3⟩
theorem codeOk_no {l : L8} (h : l.length < 1 ∨ 16 < l.length ∨ ∃ m, m < l.length ∧ okAt ((l.getD m 0).toNat : Int) m = false) : codeOk l = false := by
  apply decide_eq_false
  rintro ⟨h1, h2, h3⟩
  rcases h with h | h | ⟨m, hm, h⟩
  · omega
  · omega
  · rw [h3 m hm] at h; cases h
theorem digit_any (c : Int) (w : World) : Calls Tryz.prog 41 #[.int .u8 c] w (RetS (.bool (digI c)) w) := by
  go_enter Tryz.func41, Tryz.ntmps41
  go_wp2
  all_goals go_ret
  all_goals exact ⟨ret_bool (by unfold digI; rw [Bool.eq_iff_iff]; simp; try omega), rfl⟩
theorem letter_any (c : Int) (w : World) : Calls Tryz.prog 42 #[.int .u8 c] w (RetS (.bool (ltrI c)) w) := by
  go_enter Tryz.func42, Tryz.ntmps42
  go_wp2
  all_goals go_ret
  all_goals exact ⟨ret_bool (by unfold ltrI; rw [Bool.eq_iff_iff]; simp; try omega), rfl⟩
theorem get_getD (s : ByteArray) (k : Nat) (h : k < s.size) : s.data.toList.getD k 0 = s[k] := by
  have h' : k < s.data.toList.length := h
  simp only [List.getD, List.getElem?_eq_getElem h', Option.getD_some]
  rfl
theorem code_no (s : ByteArray) (h : s.size < 1 ∨ 16 < s.size) (hs : s.size ≤ 9223372036854775807) (w : World) : Calls Tryz.prog 22 #[.string s] w (RetS (.bool (codeOk s.data.toList)) w) := by
  have e : Hid (codeOk s.data.toList = false) := Lib.hid (codeOk_no (by have e : s.data.toList.length = s.size := rfl; omega))
  rcases (show s.size < 1 ∨ (1 ≤ s.size ∧ 16 < s.size) from by omega) with h1 | ⟨h1, h2⟩
  all_goals
    clear h
    go_enter Tryz.func22, Tryz.ntmps22
    go_wp2
    go_ret
    exact ⟨ret_bool e.out.symm, rfl⟩
set_option maxHeartbeats 1000000 in
set_option maxRecDepth 100000 in
theorem code_yes (s : ByteArray) (h1 : 1 ≤ s.size) (h2 : s.size ≤ 16) (w : World) : Calls Tryz.prog 22 #[.string s] w (RetS (.bool (codeOk s.data.toList)) w) := by
  have NO := Lib.hid (fun m (hm : m < s.size) h => codeOk_no (l := s.data.toList) (Or.inr (Or.inr ⟨m, hm, h⟩)))
  have YES := Lib.hid (fun h => codeOk_mk (l := s.data.toList) h1 h2 h)
  have D := Lib.hid (fun c w => digit_any c w)
  have L := Lib.hid (fun c w => letter_any c w)
  go_enter Tryz.func22, Tryz.ntmps22
  go_wp2
  go_loop [3, 4, 15] (fun _ _ i => ∃ j : Nat, j ≤ s.size ∧ i = .int .i64 j ∧ Hid (∀ m, m < j → okAt ((s.data.toList.getD m 0).toNat : Int) m = true)) (fun _ _ i => s.size - (intOf i).toNat)
  case atStart => exact ⟨0, Nat.zero_le _, rfl, Lib.hid (fun m h => by omega)⟩
  case round =>
    obtain ⟨j, hj, rfl, HA⟩ := hrel
    by_cases hlt : j < s.size
    · have hg := get_getD s j hlt
      have hx : (s[j].toNat : Int) < 256 := by have := s[j].toNat_lt; omega
      have NJ := Lib.hid (NO.out j hlt)
      have HN : Hid (okAt (s[j].toNat : Int) j = true → ∀ m, m < j + 1 → okAt ((s.data.toList.getD m 0).toNat : Int) m = true) := Lib.hid (fun h m hm => by
        rcases Nat.lt_or_ge m j with h3 | h3
        · exact HA.out m h3
        · have : m = j := by omega
          rw [this, hg]; exact h)
      rw [hg] at NJ
      clear hg
      have OK : Hid (okAt (s[j].toNat : Int) j = (digI (s[j].toNat : Int) || ltrI (s[j].toNat : Int) || (decide (0 < j) && ((s[j].toNat : Int) == 95 || (s[j].toNat : Int) == 45)))) := Lib.hid rfl
      have D0 : Hid (j ≤ 0 → decide (0 < j) = false) := Lib.hid (fun h => by simp; omega)
      have D1 : Hid (0 < j → decide (0 < j) = true) := Lib.hid (fun h => by simpa using h)
      rcases (show j ≤ 0 ∨ 0 < j from by omega) with h0 | h0
      · have d0 := D0.out h0
        rw [d0] at OK
        clear d0
        cases hd : digI (s[j].toNat : Int) <;> cases hl : ltrI (s[j].toNat : Int)
        · have hk : okAt (s[j].toNat : Int) j = false := by rw [OK.out, hd, hl]; rfl
          have F := Lib.hid (NJ.out hk)
          clear hk
          go_wp2_with (first | (go_at_call 41; refine (D.out _ _).mono ?_; rintro e w' ⟨rfl, rfl⟩) | (go_at_call 42; refine (L.out _ _).mono ?_; rintro e w' ⟨rfl, rfl⟩))
          go_ret
          exact ⟨ret_bool F.out.symm, rfl⟩
        all_goals
          have hk : okAt (s[j].toNat : Int) j = true := by rw [OK.out, hd, hl]; rfl
          have F := Lib.hid (HN.out hk)
          clear hk
          go_wp2_with (first | (go_at_call 41; refine (D.out _ _).mono ?_; rintro e w' ⟨rfl, rfl⟩) | (go_at_call 42; refine (L.out _ _).mono ?_; rintro e w' ⟨rfl, rfl⟩))
          go_round
          case rel => exact ⟨j + 1, by omega, by go_num, F⟩
          case measure => simp [intOf]; omega
      · have d0 := D1.out h0
        rw [d0] at OK
        clear d0
        cases hd : digI (s[j].toNat : Int) <;> cases hl : ltrI (s[j].toNat : Int) <;> cases q1 : ((s[j].toNat : Int) == 95) <;> cases q2 : ((s[j].toNat : Int) == 45)
        · have hk : okAt (s[j].toNat : Int) j = false := by rw [OK.out, hd, hl, q1, q2]; rfl
          have F := Lib.hid (NJ.out hk)
          clear hk
          go_wp2_with (first | (go_at_call 41; refine (D.out _ _).mono ?_; rintro e w' ⟨rfl, rfl⟩) | (go_at_call 42; refine (L.out _ _).mono ?_; rintro e w' ⟨rfl, rfl⟩))
          go_ret
          exact ⟨ret_bool F.out.symm, rfl⟩
        all_goals
          have hk : okAt (s[j].toNat : Int) j = true := by rw [OK.out, hd, hl, q1, q2]; rfl
          have F := Lib.hid (HN.out hk)
          clear hk
          go_wp2_with (first | (go_at_call 41; refine (D.out _ _).mono ?_; rintro e w' ⟨rfl, rfl⟩) | (go_at_call 42; refine (L.out _ _).mono ?_; rintro e w' ⟨rfl, rfl⟩))
          go_round
          case rel => exact ⟨j + 1, by omega, by go_num, F⟩
          case measure => simp [intOf]; omega
    · have F : Hid (codeOk s.data.toList = true) := Lib.hid (YES.out (fun m hm => HA.out m (by have e : s.data.toList.length = s.size := rfl; omega)))
      go_wp2
      go_ret
      exact ⟨ret_bool F.out.symm, rfl⟩
theorem code_any (s : ByteArray) (hs : s.size ≤ 9223372036854775807) (w : World) : Calls Tryz.prog 22 #[.string s] w (RetS (.bool (codeOk s.data.toList)) w) := by
  by_cases h : s.size < 1 ∨ 16 < s.size
  · exact code_no s h hs w
  · exact code_yes s (by omega) (by omega) w
end Go.Proofs.YtcifdllbnbhcdaaGreatDoor
namespace Go.Proofs.YtcifdllbnbhcdaaGreatDoor
open Go.RowKit
def wsB (set n : Int) : Bool := decide (1 ≤ n ∧ n ≤ 20 ∧ 1 ≤ set ∧ set < 2 ^ n.toNat)
def sndB (wk dy st ln : Int) : Bool := wsB wk 20 && decide (0 ≤ dy ∧ dy ≤ 6 ∧ 0 ≤ st ∧ st ≤ 23 ∧ 1 ≤ ln ∧ st + ln ≤ 24)
theorem wsB_20 (set : Int) : wsB set 20 = decide (1 ≤ set ∧ set < 1048576) := by
  unfold wsB; rw [Bool.eq_iff_iff]; simp
theorem n20 {n : Int} (h1 : 1 ≤ n) (h2 : n ≤ 20) : n = 1 ∨ n = 2 ∨ n = 3 ∨ n = 4 ∨ n = 5 ∨ n = 6 ∨ n = 7 ∨ n = 8 ∨ n = 9 ∨ n = 10 ∨ n = 11 ∨ n = 12 ∨ n = 13 ∨ n = 14 ∨ n = 15 ∨ n = 16 ∨ n = 17 ∨ n = 18 ∨ n = 19 ∨ n = 20 := by omega
theorem ws_any (set n : Int) (w : World) : Calls Tryz.prog 45 #[.int .i64 set, .int .i64 n] w (RetS (.bool (wsB set n)) w) := by
  by_cases h : 1 ≤ n ∧ n ≤ 20
  · obtain ⟨h1, h2⟩ := h
    rcases n20 h1 h2 with rfl | rfl | rfl | rfl | rfl | rfl | rfl | rfl | rfl | rfl | rfl | rfl | rfl | rfl | rfl | rfl | rfl | rfl | rfl | rfl
    all_goals
      clear h1 h2
      go_enter Tryz.func45, Tryz.ntmps45
      go_wp2
      all_goals go_ret
      all_goals exact ⟨ret_bool (by unfold wsB; rw [Bool.eq_iff_iff]; simp; try omega), rfl⟩
  · have e : Hid (wsB set n = false) := Lib.hid (by unfold wsB; simp; omega)
    rcases (show n < 1 ∨ (1 ≤ n ∧ 20 < n) by omega) with h1 | ⟨h1, h2⟩
    all_goals
      clear h
      go_enter Tryz.func45, Tryz.ntmps45
      go_wp2
      all_goals go_ret
      all_goals exact ⟨ret_bool e.out.symm, rfl⟩
theorem rws_any (set n : Int) (w : World) : Calls Tryz.prog 123 #[.int .i64 set, .int .i64 n] w (RetS (.bool (wsB set n)) w) := by
  by_cases h : 1 ≤ n ∧ n ≤ 20
  · obtain ⟨h1, h2⟩ := h
    rcases n20 h1 h2 with rfl | rfl | rfl | rfl | rfl | rfl | rfl | rfl | rfl | rfl | rfl | rfl | rfl | rfl | rfl | rfl | rfl | rfl | rfl | rfl
    all_goals
      clear h1 h2
      go_enter Tryz.func123, Tryz.ntmps123
      go_wp2
      all_goals go_ret
      all_goals exact ⟨ret_bool (by unfold wsB; rw [Bool.eq_iff_iff]; simp; try omega), rfl⟩
  · have e : Hid (wsB set n = false) := Lib.hid (by unfold wsB; simp; omega)
    rcases (show n < 1 ∨ (1 ≤ n ∧ 20 < n) by omega) with h1 | ⟨h1, h2⟩
    all_goals
      clear h
      go_enter Tryz.func123, Tryz.ntmps123
      go_wp2
      all_goals go_ret
      all_goals exact ⟨ret_bool e.out.symm, rfl⟩
abbrev timV (wk dy st ln : Int) : Value := .agg #[.int .i64 wk, .int .i64 dy, .int .i64 st, .int .i64 ln]
end Go.Proofs.YtcifdllbnbhcdaaGreatDoor
namespace Go.Proofs.YtcifdllbnbhcdaaGreatDoor
open Go.RowKit
set_option maxRecDepth 100000 in
set_option maxHeartbeats 1000000 in
theorem sound_any (wk dy st ln : Int) (_h1 : -9223372036854775808 ≤ st) (_h2 : st ≤ 9223372036854775807) (w : World) : Calls Tryz.prog 44 #[timV wk dy st ln] w (RetB (.bool (sndB wk dy st ln)) w) := by
  have HB := Lib.hid (show Below w.heap.size w (w.alloc (.cells #[.int .i64 wk, .int .i64 dy, .int .i64 st, .int .i64 ln] 34)) from (Below.refl _ _).alloc (Nat.le_refl _) _)
  have HS : Hid (sndB wk dy st ln = (wsB wk 20 && decide (0 ≤ dy ∧ dy ≤ 6 ∧ 0 ≤ st ∧ st ≤ 23 ∧ 1 ≤ ln ∧ st + ln ≤ 24))) := Lib.hid rfl
  have HW := Lib.hid (fun W => ws_any wk 20 W)
  by_cases hc : 0 ≤ st ∧ st ≤ 23 ∧ 1 ≤ ln ∧ st + ln ≤ 24
  · obtain ⟨g1, g2, g3, g4⟩ := hc
    cases hw : wsB wk 20
    · rw [hw] at HW HS
      have HF : Hid (sndB wk dy st ln = false) := Lib.hid (by rw [HS.out]; rfl)
      clear hw HS
      go_enter Tryz.func44, Tryz.ntmps44
      go_wp2_with (go_at_call 45; refine (HW.out _).mono ?_; rintro e w' ⟨rfl, rfl⟩)
      all_goals go_ret
      all_goals exact ⟨ret_bool HF.out.symm, HB.out⟩
    · rw [hw] at HW HS
      have HF : Hid (sndB wk dy st ln = decide (0 ≤ dy ∧ dy ≤ 6)) := Lib.hid (by rw [HS.out, Bool.eq_iff_iff]; simp; omega)
      clear hw HS
      go_enter Tryz.func44, Tryz.ntmps44
      go_wp2_with (go_at_call 45; refine (HW.out _).mono ?_; rintro e w' ⟨rfl, rfl⟩)
      all_goals go_ret
      all_goals exact ⟨ret_bool (by rw [HF.out, Bool.eq_iff_iff]; simp; try omega), HB.out⟩
  · have HF : Hid (sndB wk dy st ln = false) := Lib.hid (by rw [HS.out]; simp; omega)
    have hb2 : Hid (wsB wk 20 = true ∨ wsB wk 20 = false) := Lib.hid (by cases wsB wk 20 <;> simp)
    clear HS
    rcases (show st < 0 ∨ (0 ≤ st ∧ 23 < st) ∨ (0 ≤ st ∧ st ≤ 23 ∧ ln < 1) ∨ (0 ≤ st ∧ st ≤ 23 ∧ 1 ≤ ln ∧ 24 < st + ln) by omega) with h | ⟨h, h'⟩ | ⟨h, h', h''⟩ | ⟨h, h', h'', h'''⟩
    all_goals
      clear hc
      generalize wsB wk 20 = bw at *
      cases bw
      all_goals
        go_enter Tryz.func44, Tryz.ntmps44
        go_wp2_with (go_at_call 45; refine (HW.out _).mono ?_; rintro e w' ⟨rfl, rfl⟩)
        all_goals go_ret
        all_goals exact ⟨ret_bool (by rw [HF.out]; try (simp; omega)), HB.out⟩
set_option maxRecDepth 100000 in
set_option maxHeartbeats 1000000 in
theorem rsound_any (wk dy st ln : Int) (w : World) : Calls Tryz.prog 90 #[timV wk dy st ln] w (RetB (.bool (sndB wk dy st ln)) w) := by
  have HB := Lib.hid (show Below w.heap.size w (w.alloc (.cells #[.int .i64 wk, .int .i64 dy, .int .i64 st, .int .i64 ln] 34)) from (Below.refl _ _).alloc (Nat.le_refl _) _)
  have HS : Hid (sndB wk dy st ln = (wsB wk 20 && decide (0 ≤ dy ∧ dy ≤ 6 ∧ 0 ≤ st ∧ st ≤ 23 ∧ 1 ≤ ln ∧ st + ln ≤ 24))) := Lib.hid rfl
  have HW := Lib.hid (fun W => rws_any wk 20 W)
  cases hw : wsB wk 20
  · rw [hw] at HW HS
    have HF : Hid (sndB wk dy st ln = false) := Lib.hid (by rw [HS.out]; rfl)
    clear hw HS
    go_enter Tryz.func90, Tryz.ntmps90
    go_wp2_with (go_at_call 123; refine (HW.out _).mono ?_; rintro e w' ⟨rfl, rfl⟩)
    all_goals go_ret
    all_goals exact ⟨ret_bool HF.out.symm, HB.out⟩
  · rw [hw] at HW HS
    have HF : Hid (sndB wk dy st ln = decide (0 ≤ dy ∧ dy ≤ 6 ∧ 0 ≤ st ∧ st ≤ 23 ∧ 1 ≤ ln ∧ st + ln ≤ 24)) := Lib.hid (by rw [HS.out]; rfl)
    clear hw HS
    go_enter Tryz.func90, Tryz.ntmps90
    go_wp2_with (go_at_call 123; refine (HW.out _).mono ?_; rintro e w' ⟨rfl, rfl⟩)
    all_goals go_ret
    all_goals exact ⟨ret_bool (by rw [HF.out, Bool.eq_iff_iff]; simp; try omega), HB.out⟩
end Go.Proofs.YtcifdllbnbhcdaaGreatDoor
namespace Go.Proofs.YtcifdllbnbhcdaaGreatDoor
open Go.RowKit
abbrev sesV (cl : L8) (wk dy st ln : Int) (rm : L8) : Value := .agg #[.string (arr cl), .int .i64 wk, .int .i64 dy, .int .i64 st, .int .i64 ln, .string (arr rm)]
def chkE (cl : L8) (wk dy st ln : Int) (rm : L8) (n : Int) : Int :=
  if codeOk cl = false then 10 else if (sndB wk dy st ln && wsB wk n) = false then 14 else if (decide (rm ≠ []) && !codeOk rm) = true then 10 else 0
structure SB (w0 w : World) (B : Nat) (cl : L8) (wk dy st ln : Int) (rm : L8) : Prop where
  c0 : w.cell? ⟨B, 0, none⟩ = some (.string (arr cl))
  c1 : w.cell? ⟨B, 1, none⟩ = some (.int .i64 wk)
  c2 : w.cell? ⟨B, 2, none⟩ = some (.int .i64 dy)
  c3 : w.cell? ⟨B, 3, none⟩ = some (.int .i64 st)
  c4 : w.cell? ⟨B, 4, none⟩ = some (.int .i64 ln)
  c5 : w.cell? ⟨B, 5, none⟩ = some (.string (arr rm))
  sz : B < w.heap.size
  bl : Below w0.heap.size w0 w
section
variable {w0 w w2 : World} {B : Nat} {cl : L8} {wk dy st ln : Int} {rm : L8}
theorem SB.next (h : SB w0 w B cl wk dy st ln rm) (hb : Below w.heap.size w w2) : SB w0 w2 B cl wk dy st ln rm := by
  have ce : ∀ o, w2.cell? ⟨B, o, none⟩ = w.cell? ⟨B, o, none⟩ := fun o => hb.cell (p := ⟨B, o, none⟩) h.sz
  exact ⟨(ce 0).trans h.c0, (ce 1).trans h.c1, (ce 2).trans h.c2, (ce 3).trans h.c3, (ce 4).trans h.c4, (ce 5).trans h.c5, Nat.lt_of_lt_of_le h.sz hb.size, below3 h.bl hb⟩
theorem SB.mk0 (T : TypeId) : SB w (w.alloc (.cells #[.string (arr cl), .int .i64 wk, .int .i64 dy, .int .i64 st, .int .i64 ln, .string (arr rm)] T)) w.heap.size cl wk dy st ln rm :=
  ⟨by simp, by simp, by simp, by simp, by simp, by simp, by simp, (Below.refl _ _).alloc (Nat.le_refl _) _⟩
end
theorem arr_empty (rm : L8) : (arr rm).toList.isEmpty = decide (rm = []) := by
  rw [arr_toList]; cases rm <;> simp
theorem code_l (l : L8) (h : l.length ≤ 9223372036854775807) (w : World) : Calls Tryz.prog 22 #[.string (arr l)] w (RetS (.bool (codeOk l)) w) := code_any (arr l) (by rw [arr_size]; exact h) w
set_option maxRecDepth 100000 in
set_option maxHeartbeats 2000000 in
theorem check_any (cl : L8) (wk dy st ln : Int) (rm : L8) (n : Int) (hc : cl.length ≤ 9223372036854775807) (hr : rm.length ≤ 9223372036854775807) (s1 : -9223372036854775808 ≤ st) (s2 : st ≤ 9223372036854775807) (w : World) :
    Calls Tryz.prog 327 #[sesV cl wk dy st ln rm, .int .i64 n] w (RetB (.int .i64 (chkE cl wk dy st ln rm n)) w) := by
  have HS := Lib.hid (SB.mk0 (w := w) (cl := cl) (wk := wk) (dy := dy) (st := st) (ln := ln) (rm := rm) 43)
  have C1 := Lib.hid (fun W => code_l cl hc W)
  have C2 := Lib.hid (fun W => code_l rm hr W)
  have C3 := Lib.hid (fun W => sound_any wk dy st ln s1 s2 W)
  have C4 := Lib.hid (fun W => ws_any wk n W)
  have HE : Hid (∀ b1 b2 b3 b4 b5, codeOk cl = b1 → sndB wk dy st ln = b2 → wsB wk n = b3 → decide (rm = []) = b4 → codeOk rm = b5 → chkE cl wk dy st ln rm n = if b1 = false then 10 else if (b2 && b3) = false then 14 else if (!b4 && !b5) = true then 10 else 0) := Lib.hid (by
    rintro b1 b2 b3 b4 b5 rfl rfl rfl rfl rfl
    unfold chkE
    simp)
  have he := arr_empty rm
  generalize h1 : codeOk cl = b1 at *
  generalize h2 : sndB wk dy st ln = b2 at *
  generalize h3 : wsB wk n = b3 at *
  generalize h4 : decide (rm = []) = b4 at *
  generalize h5 : codeOk rm = b5 at *
  have HE := Lib.hid (HE.out b1 b2 b3 b4 b5 rfl rfl rfl rfl rfl)
  clear h1 h2 h3 h4 h5 hc hr
  go_enter Tryz.func327, Tryz.ntmps327
  go_wp2_with fail
  obtain ⟨c0, c1, c2, c3, c4, c5, sz, _⟩ := HS.out
  go_wp2_with fail
  refine (C1.out _).mono ?_
  rintro en w1 ⟨rfl, hw⟩
  subst hw
  cases b1
  · go_wp2_with fail
    go_ret
    exact ⟨ret_int (by rw [HE.out]; rfl), HS.out.bl⟩
  go_wp2_with fail
  refine (C3.out _).mono ?_
  rintro en w2 ⟨rfl, hb2⟩
  have HS2 := Lib.hid (HS.out.next hb2)
  clear hb2 c0 c1 c2 c3 c4 c5 sz HS C1 C3
  obtain ⟨c0, c1, c2, c3, c4, c5, sz, _⟩ := HS2.out
  cases b2
  · go_wp2_with fail
    go_ret
    exact ⟨ret_int (by rw [HE.out]; rfl), HS2.out.bl⟩
  go_wp2_with fail
  refine (C4.out _).mono ?_
  rintro en w3 ⟨rfl, hw⟩
  replace hw := hw.symm
  subst hw
  cases b3
  · go_wp2_with fail
    go_ret
    exact ⟨ret_int (by rw [HE.out]; rfl), HS2.out.bl⟩
  cases b4
  rotate_left
  · go_wp2_with fail
    go_ret
    exact ⟨ret_int (by rw [HE.out]; rfl), HS2.out.bl⟩
  go_wp2_with fail
  refine (C2.out _).mono ?_
  rintro en w4 ⟨rfl, hw⟩
  replace hw := hw.symm
  subst hw
  cases b5
  all_goals
    go_wp2_with fail
    go_ret
    exact ⟨ret_int (by rw [HE.out]; rfl), HS2.out.bl⟩
end Go.Proofs.YtcifdllbnbhcdaaGreatDoor
namespace Go.Proofs.YtcifdllbnbhcdaaGreatDoor
open Go.RowKit
def alkB (cl : L8) (dy st ln : Int) (rm : L8) (cl' : L8) (dy' st' ln' : Int) (rm' : L8) : Bool := decide (cl = cl' ∧ dy = dy' ∧ st = st' ∧ ln = ln' ∧ rm = rm')
set_option maxRecDepth 100000 in
set_option maxHeartbeats 1000000 in
theorem alike_any (cl : L8) (wk dy st ln : Int) (rm : L8) (cl' : L8) (wk' dy' st' ln' : Int) (rm' : L8) (w : World) :
    Calls Tryz.prog 329 #[sesV cl wk dy st ln rm, sesV cl' wk' dy' st' ln' rm'] w (RetB (.bool (alkB cl dy st ln rm cl' dy' st' ln' rm')) w) := by
  have HB := Lib.hid (fun (A B : Obj) => ((Below.refl w.heap.size w).alloc (Nat.le_refl _) A).alloc (by simp) B)
  go_enter Tryz.func329, Tryz.ntmps329
  go_wp2
  all_goals go_ret
  all_goals (
    refine ⟨ret_bool ?_, HB.out _ _⟩
    simp_all [alkB, arr_toList])
end Go.Proofs.YtcifdllbnbhcdaaGreatDoor
namespace Go.Proofs.YtcifdllbnbhcdaaGreatDoor
open Go.RowKit
theorem flat_len {α : Type} (f : α → List Value) (k : Nat) (hk : ∀ x, (f x).length = k) : ∀ xs : List α, (xs.flatMap f).length = xs.length * k
  | [] => by simp
  | x :: xs => by rw [List.flatMap_cons, List.length_append, hk, flat_len f k hk xs, List.length_cons, Nat.add_mul]; omega
theorem flat_at {α : Type} (f : α → List Value) (k : Nat) (hk : ∀ x, (f x).length = k) : ∀ (xs : List α) (j o : Nat) (x : α), xs[j]? = some x → o < k → (xs.flatMap f)[j * k + o]? = (f x)[o]?
  | [], j, o, x, h, _ => by simp at h
  | y :: xs, 0, o, x, h, ho => by
    simp at h; subst h
    rw [List.flatMap_cons, Nat.zero_mul, Nat.zero_add, List.getElem?_append_left (by rw [hk]; exact ho)]
  | y :: xs, j + 1, o, x, h, ho => by
    have ih := flat_at f k hk xs j o x (by simpa using h) ho
    rw [List.flatMap_cons, List.getElem?_append_right (by rw [hk, Nat.add_mul]; omega), hk]
    rw [show (j + 1) * k + o - k = j * k + o by rw [Nat.add_mul]; omega]
    exact ih
def KC {α : Type} (f : α → List Value) (k : Nat) (w : World) (b off : Nat) (xs : List α) : Prop := ∀ (j : Nat) (x : α), xs[j]? = some x → ∀ (o : Nat) (v : Value), (f x)[o]? = some v → w.cell? ⟨b, off + (j * k + o), none⟩ = some v
theorem KC.below {α : Type} {f : α → List Value} {k : Nat} {w w' : World} {b off : Nat} {xs : List α} (h : KC f k w b off xs) (hb : Below w.heap.size w w') : KC f k w' b off xs := fun j x hx o v hv => by
  have p := h j x hx o v hv
  rw [hb.cell (lt_of_cell p)]; exact p
def KAt {α : Type} (f : α → List Value) (k : Nat) (w : World) (a : Option Addr) (n : Nat) (xs : List α) : Prop := xs.length = n ∧ n ≤ 9223372036854775807 ∧ (n = 0 ∨ ∃ b off, a = some ⟨b, off, none⟩ ∧ KC f k w b off xs)
theorem KAt.below {α : Type} {f : α → List Value} {k : Nat} {w w' : World} {a : Option Addr} {n : Nat} {xs : List α} (h : KAt f k w a n xs) (hb : Below w.heap.size w w') : KAt f k w' a n xs := by
  obtain ⟨h1, h2, h3⟩ := h
  refine ⟨h1, h2, ?_⟩
  rcases h3 with h3 | ⟨b, off, ha, hc⟩
  · exact Or.inl h3
  · exact Or.inr ⟨b, off, ha, hc.below hb⟩
theorem KAt.nil {α : Type} (f : α → List Value) (k : Nat) (w : World) : KAt f k w none 0 ([] : List α) := ⟨rfl, by omega, Or.inl rfl⟩
theorem KAt.of_owns {α : Type} {f : α → List Value} {k : Nat} (hk : ∀ x, (f x).length = k) {w : World} {B : Nat} {e : TypeId} {v : Value} {xs : List α} (h : w.ownsRow B e k v xs.length (xs.flatMap f)) : ∃ a cap, v = .slice a xs.length cap ∧ KAt f k w a xs.length xs := by
  rcases h.2 with ⟨rfl, hn⟩ | ⟨g, cap, cur, rfl, _, hg, hle, hm, hs, htake⟩
  · have : xs = [] := List.eq_nil_of_length_eq_zero hn
    subst this
    exact ⟨none, 0, rfl, KAt.nil _ _ _⟩
  · refine ⟨_, cap, rfl, rfl, by unfold maxLen at hm; omega, Or.inr ⟨g, 0, rfl, fun j x hx o u hu => ?_⟩⟩
    have ho : o < k := by rw [← hk x]; exact (List.getElem?_eq_some_iff.1 hu).1
    have p := flat_at f k hk xs j o x hx ho
    rw [hu] at p
    rw [Nat.zero_add]
    have hc : ∀ i : Nat, w.cell? ⟨g, i, none⟩ = cur[i]? := fun i => by simp [World.cell?, hg]
    rw [← htake, List.getElem?_take] at p
    split at p
    · rw [hc, ← Array.getElem?_toList]; exact p
    · cases p
abbrev Ses := L8 × Int × Int × Int × Int × L8
def sesC (s : Ses) : List Value := [.string (arr s.1), .int .i64 s.2.1, .int .i64 s.2.2.1, .int .i64 s.2.2.2.1, .int .i64 s.2.2.2.2.1, .string (arr s.2.2.2.2.2)]
theorem sesC_len (s : Ses) : (sesC s).length = 6 := rfl
abbrev SAt (w : World) (a : Option Addr) (n : Nat) (ss : List Ses) : Prop := KAt sesC 6 w a n ss
theorem SAt.cells {w : World} {a : Option Addr} {n : Nat} {ss : List Ses} (h : SAt w a n ss) {j : Nat} (hj : j < n) : ∃ (b off : Nat) (s : Ses), a = some ⟨b, off, none⟩ ∧ ss[j]? = some s ∧ b < w.heap.size ∧
    w.cell? ⟨b, off + j * 6, none⟩ = some (.string (arr s.1)) ∧ w.cell? ⟨b, off + j * 6 + 1, none⟩ = some (.int .i64 s.2.1) ∧ w.cell? ⟨b, off + j * 6 + 2, none⟩ = some (.int .i64 s.2.2.1) ∧
    w.cell? ⟨b, off + j * 6 + 3, none⟩ = some (.int .i64 s.2.2.2.1) ∧ w.cell? ⟨b, off + j * 6 + 4, none⟩ = some (.int .i64 s.2.2.2.2.1) ∧ w.cell? ⟨b, off + j * 6 + 5, none⟩ = some (.string (arr s.2.2.2.2.2)) := by
  obtain ⟨h1, _, h3⟩ := h
  rcases h3 with h3 | ⟨b, off, rfl, hc⟩
  · omega
  · have hx : ss[j]? = some ss[j] := List.getElem?_eq_getElem (by omega)
    have c := hc j ss[j] hx
    have c0 := c 0 _ rfl
    exact ⟨b, off, ss[j], rfl, hx, lt_of_cell c0, c0, c 1 _ rfl, c 2 _ rfl, c 3 _ rfl, c 4 _ rfl, c 5 _ rfl⟩
end Go.Proofs.YtcifdllbnbhcdaaGreatDoor
namespace Go.Proofs.YtcifdllbnbhcdaaGreatDoor
open Go.RowKit
theorem take_next {α : Type} {xs ys : List α} {j : Nat} {x : α} (h : xs.take j = ys.take j) (hx : xs[j]? = some x) (hy : ys[j]? = some x) : xs.take (j + 1) = ys.take (j + 1) := by
  rw [List.take_add_one, List.take_add_one, h, hx, hy]
theorem ne_at {α : Type} {xs ys : List α} {j : Nat} {x y : α} (hx : xs[j]? = some x) (hy : ys[j]? = some y) (hn : x ≠ y) : xs ≠ ys := by
  rintro rfl; rw [hx] at hy; exact hn (by cases hy; rfl)
end Go.Proofs.YtcifdllbnbhcdaaGreatDoor
namespace Go.Proofs.YtcifdllbnbhcdaaGreatDoor
open Go.RowKit
def ofS (ss : List Ses) (k : L8) : List Ses := ss.filter (fun s => decide (s.1 = k))
theorem ofS_hit {xs : List Ses} {j : Nat} {s : Ses} {k : L8} (h : xs[j]? = some s) (he : s.1 = k) : ofS (xs.take (j + 1)) k = ofS (xs.take j) k ++ [s] := by
  unfold ofS; rw [List.take_add_one, h, List.filter_append]; simp [he]
theorem ofS_miss {xs : List Ses} {j : Nat} {s : Ses} {k : L8} (h : xs[j]? = some s) (he : s.1 ≠ k) : ofS (xs.take (j + 1)) k = ofS (xs.take j) k := by
  unfold ofS; rw [List.take_add_one, h, List.filter_append]; simp [he]
theorem ofS_len (xs : List Ses) (k : L8) : (ofS xs k).length ≤ xs.length := List.length_filter_le _ _
def sesZ : Value := .agg #[.string .empty, .int .i64 0, .int .i64 0, .int .i64 0, .int .i64 0, .string .empty]
theorem Tryz.infoSes : (Tryz.prog.info? 43).map (fun i => (i.zero, i.size, i.bytes)) = some (some sesZ, 6, 64) := by kernel_rfl
abbrev SRow (w : World) (B : Nat) (v : Value) (ss : List Ses) : Prop := w.ownsRow B 43 6 v ss.length (ss.flatMap sesC)
theorem srow_snoc {w2 : World} {B : Nat} {v' : Value} {L : List Ses} {s : Ses} (h : w2.ownsRow B 43 6 v' (L.length + 1) (L.flatMap sesC ++ sesC s)) : SRow w2 B v' (L ++ [s]) := by
  unfold SRow; rw [List.flatMap_append, List.length_append]; simpa using h
theorem ones_ses (s : Ses) : ∀ u ∈ sesC s, u.oneCell' = true := by
  intro u hu; simp [sesC] at hu; rcases hu with rfl | rfl | rfl | rfl | rfl | rfl <;> rfl
set_option maxRecDepth 100000 in
set_option maxHeartbeats 2000000 in
theorem of_any (a : Option Addr) (n c : Nat) (xs : List Ses) (k : L8) (w : World) (hx : SAt w a n xs) (hn : n ≤ 1000000) :
    Calls Tryz.prog 332 #[.slice a n c, .string (arr k)] w (fun e w' => ∃ v, e = .returned v ∧ SRow w' w.heap.size v (ofS xs k) ∧ Below w.heap.size w w') := by
  have HX := Lib.hid hx
  have hlen := hx.1
  obtain ⟨i0, hi, hz0, hz1, hz2⟩ := info_parts Tryz.infoSes
  have HI0 := Lib.hid hi; have HZ0 := Lib.hid hz0; have HZ1 := Lib.hid hz1; have HZ2 := Lib.hid hz2
  clear hi hz0 hz1 hz2 hx
  go_enter Tryz.func332, Tryz.ntmps332
  go_wp2
  go_loopw [5, 10] (fun v i wr => ∃ j : Nat, j ≤ n ∧ i = .int .i64 j ∧ Hid (SRow wr w.heap.size v (ofS (xs.take j) k)) ∧ Hid (Below w.heap.size w wr)) (fun _ i _ => n - (intOf i).toNat)
  case atStart => exact ⟨0, by omega, rfl, Lib.hid (by simp [ofS]; exact World.ownsRow_nil _ _ _ _), Lib.hid (Below.refl _ _)⟩
  case round =>
    obtain ⟨j, hj, rfl, HR, HB⟩ := hrel
    by_cases hlt : j < n
    · obtain ⟨b1, o1, s1, rfl, g1, z1, x0, x1, x2, x3, x4, x5⟩ := SAt.cells (HX.out.below HB.out) hlt
      have hfl := ofS_len (xs.take j) k
      rw [List.length_take] at hfl
      have k1 : (j : Int) < n := by omega
      have k2 : (0 : Int) ≤ j := by omega
      have hb1 := HB.out.size
      by_cases he : s1.1 = k
      · have HT := Lib.hid (ofS_hit g1 he)
        have HC : Hid (((arr s1.1).toList == (arr k).toList) = true ∧ (arr s1.1).toList = (arr k).toList) := Lib.hid (by rw [he]; simp)
        obtain ⟨q1, q2⟩ := HC.out
        generalize ofS (xs.take j) k = L at *
        clear g1 he
        obtain ⟨cl, wk, dy, st, ln, rm⟩ := s1
        simp only at x0 x1 x2 x3 x4 x5 q1 q2
        go_wp2_with (at_builtin; refine wpList_append_own _ rfl _ _ 66 rfl w.heap.size 43 i0 sesZ 6 64 Tryz.underlying66 HI0.out HZ0.out HZ1.out HZ2.out rfl (by decide) _ _ _ rfl ((HR.out.alloc _).alloc _) ⟨wr.heap.size + 1, 0, none⟩ 1 1 (sesC (cl, wk, dy, st, ln, rm)) rfl rfl ?c1 ?c2 ?c3 ?c4 ?c5 ?_)
        case c1 => exact fun j u h => h
        case c2 => exact ones_ses _
        case c3 => unfold maxLen; omega
        case c4 => omega
        case c5 => first | omega | (simp; omega)
        intro v' w2 hown' hgrow _
        have hown2 := Lib.hid (srow_snoc hown')
        have hB2 : Hid (Below w.heap.size w w2) := Lib.hid (((HB.out.alloc HB.out.size _).alloc (by simp; omega) _).grown hgrow (by simp; omega) (fun q hq => (HR.out.lt q hq).1))
        clear hown' hgrow
        go_wp2
        go_roundw
        case rel => exact ⟨j + 1, by omega, by go_num, by rw [HT.out]; exact hown2, hB2⟩
        case measure => simp [intOf]; omega
      · have HT := Lib.hid (ofS_miss g1 he)
        have HC : Hid (((arr s1.1).toList == (arr k).toList) = false ∧ ¬ (arr s1.1).toList = (arr k).toList) := Lib.hid (by rw [arr_toList, arr_toList]; exact ⟨by simpa using he, he⟩)
        obtain ⟨q1, q2⟩ := HC.out
        clear g1 he
        obtain ⟨cl, wk, dy, st, ln, rm⟩ := s1
        simp only at x0 x1 x2 x3 x4 x5 q1 q2
        go_wp2
        go_roundw
        case rel => exact ⟨j + 1, by omega, by go_num, by rw [HT.out]; exact Lib.hid (HR.out.alloc _), Lib.hid (HB.out.alloc HB.out.size _)⟩
        case measure => simp [intOf]; omega
    · obtain rfl : j = n := by omega
      have HF : Hid (ofS (xs.take j) k = ofS xs k) := Lib.hid (by rw [List.take_of_length_le (by omega)])
      go_wp2
      go_ret
      exact ⟨_, rfl, by rw [← HF.out]; exact HR.out, HB.out⟩
end Go.Proofs.YtcifdllbnbhcdaaGreatDoor
namespace Go.Proofs.YtcifdllbnbhcdaaGreatDoor
open Go.RowKit
def metB (cl : L8) (wk : Int) (cl' : L8) (wk' : Int) : Bool := decide (cl = cl') && (bits .and .i64 wk wk' != 0)
set_option maxRecDepth 100000 in
theorem meet_any (cl : L8) (wk dy st ln : Int) (rm : L8) (cl' : L8) (wk' dy' st' ln' : Int) (rm' : L8) (w : World) :
    Calls Tryz.prog 328 #[sesV cl wk dy st ln rm, sesV cl' wk' dy' st' ln' rm'] w (RetB (.bool (metB cl wk cl' wk')) w) := by
  have HB := Lib.hid (fun (A B : Obj) => ((Below.refl w.heap.size w).alloc (Nat.le_refl _) A).alloc (by simp) B)
  by_cases h : cl = cl'
  · subst h
    have HF : Hid (metB cl wk cl wk' = (bits .and .i64 wk wk' != 0)) := Lib.hid (by simp [metB])
    go_enter Tryz.func328, Tryz.ntmps328
    go_wp2
    all_goals go_ret
    all_goals exact ⟨ret_bool (by rw [HF.out]), HB.out _ _⟩
  · have HF : Hid (metB cl wk cl' wk' = false) := Lib.hid (by simp [metB, h])
    have q1 : ((arr cl).toList == (arr cl').toList) = false := by rw [arr_toList, arr_toList]; simpa using h
    have q2 : ¬ (arr cl).toList = (arr cl').toList := by rw [arr_toList, arr_toList]; exact h
    clear h
    go_enter Tryz.func328, Tryz.ntmps328
    go_wp2
    all_goals go_ret
    all_goals exact ⟨ret_bool (by rw [HF.out]), HB.out _ _⟩
end Go.Proofs.YtcifdllbnbhcdaaGreatDoor
namespace Go.Proofs.YtcifdllbnbhcdaaGreatDoor
open Go.RowKit
def cmpS (a b : L8) : Int := if Op.bytesLess a b = true then -1 else if a = b then 0 else 1
theorem cmpS_any (a b : L8) (w : World) : Calls Tryz.prog 326 #[.string (arr a), .string (arr b)] w (RetS (.int .i64 (cmpS a b)) w) := by
  have ea := arr_toList a
  have eb := arr_toList b
  cases hl : Op.bytesLess a b
  · by_cases he : a = b
    · subst he
      have HF : Hid (cmpS a a = 0) := Lib.hid (by simp [cmpS, hl])
      have q1 : ((arr a).toList == (arr a).toList) = true := by simp
      have q2 : Op.bytesLess (arr a).toList (arr a).toList = false := by rw [ea]; exact hl
      clear ea eb hl
      generalize arr a = A at *
      go_enter Tryz.func326, Tryz.ntmps326
      go_wp2
      all_goals go_ret
      all_goals exact ⟨ret_int (by rw [HF.out]), rfl⟩
    · have HF : Hid (cmpS a b = 1) := Lib.hid (by simp [cmpS, hl, he])
      have q1 : ((arr a).toList == (arr a).toList) = true := by simp
      have q1' : ((arr b).toList == (arr b).toList) = true := by simp
      have q2 : Op.bytesLess (arr a).toList (arr b).toList = false := by rw [ea, eb]; exact hl
      have q3 : ((arr a).toList == (arr b).toList) = false := by rw [ea, eb]; simpa using he
      clear ea eb hl he
      generalize arr a = A at *
      generalize arr b = B at *
      go_enter Tryz.func326, Tryz.ntmps326
      go_wp2
      all_goals go_ret
      all_goals exact ⟨ret_int (by rw [HF.out]), rfl⟩
  · have HF : Hid (cmpS a b = -1) := Lib.hid (by simp [cmpS, hl])
    have q1 : ((arr a).toList == (arr a).toList) = true := by simp
    have q1' : ((arr b).toList == (arr b).toList) = true := by simp
    have q2 : Op.bytesLess (arr a).toList (arr b).toList = true := by rw [ea, eb]; exact hl
    clear ea eb hl
    generalize arr a = A at *
    generalize arr b = B at *
    go_enter Tryz.func326, Tryz.ntmps326
    go_wp2
    all_goals go_ret
    all_goals exact ⟨ret_int (by rw [HF.out]), rfl⟩
end Go.Proofs.YtcifdllbnbhcdaaGreatDoor
