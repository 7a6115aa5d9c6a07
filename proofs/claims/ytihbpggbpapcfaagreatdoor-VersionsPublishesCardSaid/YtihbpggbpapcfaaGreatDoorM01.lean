/- Texts Base, Dice, joined: walks and laws for the versions. -/
import Derived.BigQuiet
import Derived.Deep.QuietTactic
import Derived.IntWalk
import Derived.Laws.OwnMore
import Derived.Lib.Hide
import Derived.Lib.OthersKept
import Derived.Lib.OwnKind
import Derived.RangeFuncBox
import Derived.WalkKit
import Derived.WalkLawsBesides
import Derived.WalkSpells
import Derived.Test.YtihbpggbpapcfaaGreatDoorProg
namespace Go.Proofs.YtihbpggbpapcfaaGreatDoor
open Go.RowKit

abbrev L8 := List UInt8
def arr (l : L8) : ByteArray := ⟨l.toArray⟩
theorem arr_size (l : L8) : (arr l).size = l.length := by simp [arr, ByteArray.size]
theorem arr_toList (l : L8) : (arr l).toList = l := by rw [ByteArray.toList_eq]; rfl
theorem arr_of (s : ByteArray) : arr s.data.toList = s := by cases s; simp [arr]

theorem ret_int {k : IntKind} {a b : Int} (h : a = b) : Ending.returned (.int k a) = .returned (.int k b) := by rw [h]
theorem ret_bool {a b : Bool} (h : a = b) : Ending.returned (.bool a) = .returned (.bool b) := by rw [h]
theorem ret_two {a b c d : Int} (h : a = b) (h' : c = d) : Ending.returned (.tuple #[.int .i64 a, .int .i64 c]) = .returned (.tuple #[.int .i64 b, .int .i64 d]) := by rw [h, h']
theorem lt_of_cell {w : World} {a : Addr} {v : Value} (h : w.cell? a = some v) : a.block < w.heap.size := by
  rcases Nat.lt_or_ge a.block w.heap.size with h' | h'
  · exact h'
  · simp [World.cell?, Array.getElem?_eq_none h'] at h
theorem lt_of_heap {w : World} {p : Nat} {o : Obj} (h : w.heap[p]? = some o) : p < w.heap.size := by
  by_cases c : p < w.heap.size
  · exact c
  · rw [Array.getElem?_eq_none (by omega)] at h; cases h
theorem same_flip {P : Program} {f : FuncId} {args : Array Value} {w : World} {x : Ending} (h : Calls P f args w fun e w' => e = x ∧ w = w') : Calls P f args w fun e w' => e = x ∧ w' = w :=
  h.mono fun _ _ ⟨a, b⟩ => ⟨a, b.symm⟩

def RetB (v : Value) (w : World) (e : Ending) (w' : World) : Prop := e = .returned v ∧ Below w.heap.size w w'
def RetS (v : Value) (w : World) (e : Ending) (w' : World) : Prop := e = .returned v ∧ w = w'

theorem below2 {w w1 : World} {o : Obj} (hb : Below (w.alloc o).heap.size (w.alloc o) w1) : Below w.heap.size w w1 := ((Below.refl _ _).alloc (Nat.le_refl _) o).trans (hb.mono (by simp))
theorem below3 {w w1 w2 : World} (h : Below w.heap.size w w1) (h2 : Below w1.heap.size w1 w2) : Below w.heap.size w w2 := h.trans (h2.mono h.size)
theorem below_drewN (w : World) (n : Nat) : Below w.heap.size w (w.drewN n) := ⟨rfl, rfl, rfl, Nat.le_refl _, fun _ _ => rfl⟩
theorem bcell {W w1 : World} (hb : Below W.heap.size W w1) : (∀ b o, b < W.heap.size → w1.cell? ⟨b, o, none⟩ = W.cell? ⟨b, o, none⟩) ∧ (∀ b o, b < W.heap.size → w1.frozen? ⟨b, o, none⟩ = W.frozen? ⟨b, o, none⟩) :=
  ⟨fun b o h => hb.cell (p := ⟨b, o, none⟩) h, fun b o h => hb.frozen (p := ⟨b, o, none⟩) h⟩
theorem grown_below {w w' : World} (h : Below w.heap.size w w') (row : Option Nat) : w.grownBy w' row := ⟨h.os, h.tape, h.output, h.size, fun k hk _ => h.block k hk⟩
theorem row_below {w w' : World} {B s n : Nat} {e : TypeId} {v : Value} {xs : List Value} (h : w.ownsRow B e s v n xs) (hb : Below w.heap.size w w') : w'.ownsRow B e s v n xs := by
  refine h.kept (row := none) (grown_below hb none) ?_
  cases v.ownBlock <;> simp
theorem row_kept {w w' : World} {B B2 s1 s2 n1 n2 : Nat} {e1 e2 : TypeId} {v1 v2 : Value} {xs1 xs2 : List Value} (h1 : w.ownsRow B e1 s1 v1 n1 xs1) (h2 : w.ownsRow B2 e2 s2 v2 n2 xs2) (hne : e1 ≠ e2) (hg : w.grownBy w' v2.ownBlock) : w'.ownsRow B e1 s1 v1 n1 xs1 := by
  refine h1.kept hg ?_
  cases hv : v1.ownBlock with
  | none => exact Or.inl rfl
  | some g =>
    refine Or.inr (fun e => ?_)
    obtain ⟨c, fz, hc⟩ := Lib.ownsRow_kind h1 g hv
    obtain ⟨c', fz', hc'⟩ := Lib.ownsRow_kind h2 g e.symm
    rw [hc] at hc'
    simp only [Option.some.injEq, Obj.cells.injEq] at hc'
    exact hne hc'.2.1

def IntsAt (w : World) (a : Option Addr) (n : Nat) (hs : List Int) : Prop :=
  hs.length = n ∧ n ≤ 9223372036854775807 ∧ (n = 0 ∨ ∃ b off, a = some ⟨b, off, none⟩ ∧ ∀ i, i < n → w.cell? ⟨b, off + i, none⟩ = some (.int .i64 (hs.getD i 0)))
theorem IntsAt.below {w w' : World} {a : Option Addr} {n : Nat} {hs : List Int} (h : IntsAt w a n hs) (hb : Below w.heap.size w w') : IntsAt w' a n hs := by
  obtain ⟨h1, h3, h2⟩ := h
  refine ⟨h1, h3, ?_⟩
  rcases h2 with h2 | ⟨b, off, ha, hc⟩
  · exact Or.inl h2
  · exact Or.inr ⟨b, off, ha, fun i hi => by rw [hb.cell (p := ⟨b, off + i, none⟩) (World.block_lt_of_cell? _ ⟨b, off + i, none⟩ (hc i hi))]; exact hc i hi⟩
theorem IntsAt.of_owns {w : World} {base : Nat} {e : TypeId} {v : Value} {L : List Int} (h : w.ownsRow base e 1 v L.length (L.map (Value.int .i64))) :
    ∃ a cap, v = .slice a L.length cap ∧ IntsAt w a L.length L := by
  obtain ⟨h1, ⟨rfl, h2⟩ | ⟨g, cap, cur, rfl, hg, hh, hc, hm, hs, ht⟩⟩ := id h
  · exact ⟨none, 0, by rw [h2], by rw [h2]; exact ⟨h2, by omega, Or.inl rfl⟩⟩
  · refine ⟨_, _, rfl, rfl, by unfold maxLen at hm; omega, ?_⟩
    by_cases h0 : L.length = 0
    · exact Or.inl h0
    · refine Or.inr ⟨g, 0, rfl, fun i hi => ?_⟩
      rw [Nat.zero_add, h.cellAt i (by omega)]
      simp [hi]
def Ints (w : World) (v : Value) (hs : List Int) : Prop := ∃ a cap, v = .slice a hs.length cap ∧ IntsAt w a hs.length hs
theorem Ints.below {w w' : World} {v : Value} {hs : List Int} (h : Ints w v hs) (hb : Below w.heap.size w w') : Ints w' v hs := by
  obtain ⟨a, cap, h1, h2⟩ := h
  exact ⟨a, cap, h1, h2.below hb⟩

abbrev Prs := List (Int × Int)
def pcells (xs : Prs) : List Value := xs.flatMap (fun d => [.int .i64 d.1, .int .i64 d.2])
theorem pcells_len (xs : Prs) : (pcells xs).length = xs.length * 2 := by
  induction xs with
  | nil => rfl
  | cons d xs ih => simp only [pcells, List.flatMap_cons, List.length_append, List.length_cons, List.length_nil] at ih ⊢; omega
theorem pcells_app (xs ys : Prs) : pcells (xs ++ ys) = pcells xs ++ pcells ys := by simp [pcells]
theorem pcells_at : ∀ (xs : Prs) (j : Nat), j < xs.length → (pcells xs)[j * 2]? = some (.int .i64 (xs.getD j (0, 0)).1) ∧ (pcells xs)[j * 2 + 1]? = some (.int .i64 (xs.getD j (0, 0)).2)
  | [], j, h => by simp at h
  | d :: xs, 0, _ => by simp [pcells, List.getD]
  | d :: xs, j + 1, h => by
    have ih := pcells_at xs j (by simpa using h)
    have e : pcells (d :: xs) = .int .i64 d.1 :: .int .i64 d.2 :: pcells xs := rfl
    have e2 : (j + 1) * 2 = j * 2 + 1 + 1 := by omega
    rw [e, e2]
    simpa [List.getD] using ih
def PCells (w : World) (b off : Nat) (xs : Prs) : Prop := ∀ j, j < xs.length → w.cell? ⟨b, off + j * 2, none⟩ = some (.int .i64 (xs.getD j (0, 0)).1) ∧ w.cell? ⟨b, off + j * 2 + 1, none⟩ = some (.int .i64 (xs.getD j (0, 0)).2)
theorem PCells.below {w w' : World} {b off : Nat} {xs : Prs} (h : PCells w b off xs) (hb : Below w.heap.size w w') : PCells w' b off xs := fun j hj => by
  obtain ⟨p, q⟩ := h j hj
  exact ⟨by rw [hb.cell (lt_of_cell p)]; exact p, by rw [hb.cell (lt_of_cell q)]; exact q⟩
def Pairs (w : World) (v : Value) (xs : Prs) : Prop := ∃ a cap, v = .slice a xs.length cap ∧ xs.length ≤ 9223372036854775807 ∧ (xs = [] ∨ ∃ b off, a = some ⟨b, off, none⟩ ∧ PCells w b off xs)
theorem Pairs.below {w w' : World} {v : Value} {xs : Prs} (h : Pairs w v xs) (hb : Below w.heap.size w w') : Pairs w' v xs := by
  obtain ⟨a, cap, h1, h2, h3⟩ := h
  refine ⟨a, cap, h1, h2, ?_⟩
  rcases h3 with h3 | ⟨b, off, ha, hc⟩
  · exact Or.inl h3
  · exact Or.inr ⟨b, off, ha, hc.below hb⟩
theorem Pairs.of_owns {w : World} {B : Nat} {e : TypeId} {v : Value} {xs : Prs} (h : w.ownsRow B e 2 v xs.length (pcells xs)) : Pairs w v xs := by
  rcases h.2 with ⟨rfl, hn⟩ | ⟨g, cap, cur, rfl, _, hg, hle, hm, hs, htake⟩
  · have : xs = [] := List.eq_nil_of_length_eq_zero hn
    subst this
    exact ⟨none, 0, rfl, by simp, Or.inl rfl⟩
  · refine ⟨_, cap, rfl, by unfold maxLen at hm; omega, Or.inr ⟨g, 0, rfl, fun j hj => ?_⟩⟩
    obtain ⟨p, q⟩ := pcells_at xs j hj
    rw [Nat.zero_add]
    have hc : ∀ i : Nat, w.cell? ⟨g, i, none⟩ = cur[i]? := fun i => by simp [World.cell?, hg]
    rw [← htake] at p q
    rw [List.getElem?_take] at p q
    rw [hc, hc, ← Array.getElem?_toList, ← Array.getElem?_toList]
    rw [if_pos (by omega)] at p q
    exact ⟨p, q⟩

structure But (p : Nat) (w w' : World) : Prop where
  os : w'.os = w.os
  tape : w'.tape = w.tape
  output : w'.output = w.output
  size : w.heap.size ≤ w'.heap.size
  block : ∀ k, k < w.heap.size → k ≠ p → w'.heap[k]? = w.heap[k]?
theorem But.refl (p : Nat) (w : World) : But p w w := ⟨rfl, rfl, rfl, Nat.le_refl _, fun _ _ _ => rfl⟩
theorem But.trans {p : Nat} {a b c : World} (h : But p a b) (g : But p b c) : But p a c :=
  ⟨g.os.trans h.os, g.tape.trans h.tape, g.output.trans h.output, Nat.le_trans h.size g.size, fun k hk hp => (g.block k (Nat.lt_of_lt_of_le hk h.size) hp).trans (h.block k hk hp)⟩
theorem But.of_below {p : Nat} {w w' : World} (h : Below w.heap.size w w') : But p w w' := ⟨h.os, h.tape, h.output, h.size, fun k hk _ => h.block k hk⟩
theorem But.below {p B : Nat} {a w w' : World} (h : Below B a w) (g : But p w w') (hp : B ≤ p) (hB : B ≤ w.heap.size) : Below B a w' :=
  h.trans ⟨g.os, g.tape, g.output, g.size, fun k hk => g.block k (by omega) (by omega)⟩
theorem But.cell {p : Nat} {w w' : World} (h : But p w w') {b o : Nat} (hb : b < w.heap.size) (hp : b ≠ p) : w'.cell? ⟨b, o, none⟩ = w.cell? ⟨b, o, none⟩ := World.cell?_of_block (w := w) (h.block b hb hp)
theorem But.frozen {p : Nat} {w w' : World} (h : But p w w') {b o : Nat} (hb : b < w.heap.size) (hp : b ≠ p) : w'.frozen? ⟨b, o, none⟩ = w.frozen? ⟨b, o, none⟩ := World.frozen?_of_block (w := w) (h.block b hb hp)
theorem But.drewN {p : Nat} (w : World) (n : Nat) : But p w (w.drewN n) := ⟨rfl, rfl, rfl, Nat.le_refl _, fun _ _ _ => rfl⟩
theorem But.setCell (w : World) (p o : Nat) (v : Value) : But p w (w.setCell ⟨p, o, none⟩ v) := ⟨rfl, rfl, rfl, by simp, fun k _ hp => heap_setCell_other _ _ _ _ hp⟩
theorem row_but {p : Nat} {w w' : World} {base : Nat} {e : TypeId} {size : Nat} {v : Value} {n : Nat} {xs : List Value} (h : w.ownsRow base e size v n xs) (hb : But p w w') (hp : p < base) : w'.ownsRow base e size v n xs := by
  obtain ⟨h1, h2⟩ := id h
  refine ⟨h1, ?_⟩
  rcases h2 with h2 | ⟨g, cap, cur, hv, hg, hh, r⟩
  · exact Or.inl h2
  · have hlt := h.lt g (by rw [hv]; rfl)
    exact Or.inr ⟨g, cap, cur, hv, hg, by rw [hb.block g hlt.2 (by omega)]; exact hh, r⟩

def DiceAt (w : World) (p : Nat) : Prop :=
  ∃ (a : Option Addr) (n c i : Nat) (L : List Int) (T : TypeId), w.heap[p]? = some (.cells #[.slice a n c, .int .i64 i] T (0, 0)) ∧ i ≤ n ∧ L.length = n ∧ n ≤ 9223372036854775806 ∧
    (n = 0 ∨ ∃ b off, a = some ⟨b, off, none⟩ ∧ b < p ∧ ∀ j, j < n → w.cell? ⟨b, off + j, none⟩ = some (.int .i64 (L.getD j 0))) ∧ (∀ x ∈ L, -9223372036854775808 ≤ x ∧ x ≤ 9223372036854775807)
theorem DiceAt.lt {w : World} {p : Nat} (h : DiceAt w p) : p < w.heap.size := by
  obtain ⟨a, n, c, i, L, T, hp, _⟩ := h; exact lt_of_heap hp
theorem DiceAt.same {w w' : World} {p : Nat} (h : DiceAt w p) (hs : ∀ k, k ≤ p → w'.heap[k]? = w.heap[k]?) : DiceAt w' p := by
  obtain ⟨a, n, c, i, L, T, hp, hi, hl, hn, hc, hL⟩ := h
  refine ⟨a, n, c, i, L, T, (hs p (Nat.le_refl _)).trans hp, hi, hl, hn, ?_, hL⟩
  rcases hc with h0 | ⟨b, off, ha, hbp, hcc⟩
  · exact Or.inl h0
  · exact Or.inr ⟨b, off, ha, hbp, fun j hj => by rw [World.cell?_of_block (w := w) (a := ⟨b, off + j, none⟩) (hs b (by omega))]; exact hcc j hj⟩
theorem DiceAt.below {w w' : World} {p : Nat} (h : DiceAt w p) (hb : Below w.heap.size w w') : DiceAt w' p := h.same fun k hk => hb.block k (by have := h.lt; omega)
theorem DiceAt.mk0 {w : World} {a : Option Addr} {n : Nat} (c : Nat) {L : List Int} (T : TypeId) (h : IntsAt w a n L) (hn : n ≤ 400) (hL : ∀ x ∈ L, -9223372036854775808 ≤ x ∧ x ≤ 9223372036854775807) :
    DiceAt (w.alloc (.cells #[.slice a n c, .int .i64 0] T)) w.heap.size := by
  obtain ⟨h1, h2, h3⟩ := h
  refine ⟨a, n, c, 0, L, T, ?_, by omega, h1, by omega, ?_, hL⟩
  · show (w.heap.push _)[w.heap.size]? = _
    simp
  · rcases h3 with h0 | ⟨b, off, ha, hc⟩
    · exact Or.inl h0
    · by_cases h0 : n = 0
      · exact Or.inl h0
      · have hb : b < w.heap.size := World.block_lt_of_cell? _ ⟨b, off + 0, none⟩ (hc 0 (by omega))
        exact Or.inr ⟨b, off, ha, hb, fun j hj => by rw [World.cell?_alloc_past _ _ _ hb]; exact hc j hj⟩

def Threw (p : Nat) (m : Int) (w : World) (e : Ending) (w' : World) : Prop := ∃ r : Int, 0 ≤ r ∧ r < m ∧ e = .returned (.int .i64 r) ∧ DiceAt w' p ∧ But p w w'
def One (p : Nat) (w : World) (e : Ending) (w' : World) : Prop := ∃ b : Bool, e = .returned (.bool b) ∧ DiceAt w' p ∧ But p w w'
end Go.Proofs.YtihbpggbpapcfaaGreatDoor

namespace Go.Proofs.YtihbpggbpapcfaaGreatDoor
open Go.RowKit

theorem light_any (a : Option Addr) (n c : Nat) (w : World) :
    Calls Tryz.prog 12 #[.slice a n c] w (RetS (.bool (decide (n ≤ 400))) w) := by
  go_enter Tryz.func12, Tryz.ntmps12
  go_wp2
  go_ret
  exact ⟨ret_bool (by simp; omega), rfl⟩
theorem roll_any (a : Option Addr) (n c : Nat) (w : World) :
    Calls Tryz.prog 15 #[.slice a n c] w fun e w' => e = .returned (.pointer (some ⟨w.heap.size, 0, none⟩)) ∧ w' = w.alloc (.cells #[.slice a n c, .int .i64 0] 104) := by
  go_enter Tryz.func15, Tryz.ntmps15
  go_wp2
  go_ret
  exact ⟨rfl, rfl⟩
theorem mod_any (n m : Int) (h1 : -9223372036854775808 ≤ n) (h2 : n ≤ 9223372036854775807) (hm : 1 ≤ m) (hm2 : m ≤ 1000000000000) (w : World) :
    Calls Tryz.prog 22 #[.int .i64 n, .int .i64 m] w fun e w' => e = .returned (.int .i64 (n % m)) ∧ w = w' := by
  have hb := Int.emod_nonneg n (show m ≠ 0 by omega)
  have hb2 := Int.emod_lt_of_pos n (show 0 < m by omega)
  by_cases hn : 0 ≤ n
  · go_enter Tryz.func22, Tryz.ntmps22
    go_wp2
    go_ret
    exact ⟨rfl, rfl⟩
  · have ht : n.tmod m = if n % m = 0 then 0 else n % m - m := by
      rw [Int.tmod_eq_emod]
      have hd : (0 ≤ n ∨ m ∣ n) ↔ n % m = 0 := by
        constructor
        · rintro (h | h)
          · omega
          · exact Int.emod_eq_zero_of_dvd h
        · intro h; exact Or.inr (Int.dvd_of_emod_eq_zero h)
      by_cases c : n % m = 0
      · rw [if_pos (hd.2 c), if_pos c, c]; simp
      · rw [if_neg (fun h => c (hd.1 h)), if_neg c]; omega
    by_cases c : n % m = 0
    · rw [if_pos c] at ht
      have H := Lib.hid c
      clear c
      go_enter Tryz.func22, Tryz.ntmps22
      go_wp2
      go_ret
      exact ⟨ret_int (by rw [H.out]), rfl⟩
    · rw [if_neg c] at ht
      go_enter Tryz.func22, Tryz.ntmps22
      go_wp2
      go_ret
      exact ⟨ret_int (by omega), rfl⟩

set_option maxHeartbeats 400000 in
theorem next_any (p : Nat) (m : Int) (w : World) (hm : 1 ≤ m) (hm2 : m ≤ 1000000000000) (hD : DiceAt w p) :
    Calls Tryz.prog 24 #[.pointer (some ⟨p, 0, none⟩), .int .i64 m] w (Threw p m w) := by
  have HD := Lib.hid hD
  obtain ⟨a, n, c, i, L, T, hp, hi, hl, hn, hc, hL⟩ := hD
  have c0 : w.cell? ⟨p, 0, none⟩ = some (.slice a n c) := by simp [World.cell?, hp]
  have c1 : w.cell? ⟨p, 1, none⟩ = some (.int .i64 i) := by simp [World.cell?, hp]
  have f1 : w.frozen? ⟨p, 1, none⟩ = false := by simp [World.frozen?, hp]
  have HP := Lib.hid hp; have HL := Lib.hid hL; have Hl := Lib.hid hl
  clear hp hL hl
  by_cases h : n ≤ i
  · clear hc
    go_enter Tryz.func24, Tryz.ntmps24
    go_wp2
    go_quiet (fail)
    go_wp2
    go_ret
    exact ⟨0, by omega, by omega, rfl, HD.out.below ⟨rfl, rfl, rfl, Nat.le_refl _, fun _ _ => rfl⟩, But.drewN _ _⟩
  · rcases hc with h0 | ⟨b, off, rfl, hbp, hcc⟩
    · omega
    have hlt : i < n := by omega
    have g := hcc i hlt
    have hx := HL.out (L.getD i 0) (by have := Hl.out; rw [List.getD_eq_getElem?_getD, List.getElem?_eq_getElem (by omega)]; exact List.getElem_mem _)
    have HCC := Lib.hid hcc
    clear hcc h
    obtain ⟨x1, x2⟩ := hx
    generalize L.getD i 0 = x at *
    have r0 := Int.emod_nonneg x (show m ≠ 0 by omega)
    have r1 := Int.emod_lt_of_pos x (show 0 < m by omega)
    go_enter Tryz.func24, Tryz.ntmps24
    go_wp2
    go_quiet (fail)
    go_wp2
    have q0 : ∀ (nq : Nat) (v : Value), ((w.drewN nq).setCell ⟨p, 1, none⟩ v).cell? ⟨p, 0, none⟩ = some (.slice (some ⟨b, off, none⟩) n c) := fun nq v => by
      rw [World.cell?_setCell_other _ _ _ _ (by simp)]; exact c0
    have q1 : ∀ (nq : Nat) (v : Value), ((w.drewN nq).setCell ⟨p, 1, none⟩ v).cell? ⟨p, 1, none⟩ = some v := fun nq v => World.cell?_setCell_same _ _ _ (show (w.drewN nq).cell? _ = _ from c1)
    have q2 : ∀ (nq : Nat) (v : Value), ((w.drewN nq).setCell ⟨p, 1, none⟩ v).cell? ⟨b, off + i, none⟩ = some (.int .i64 x) := fun nq v => by
      rw [World.cell?_setCell_other _ _ _ _ (by simp)]; exact g
    have y1 : IntKind.i64.wrap (i : Int) = i := IntWalk.i64_in _ (by omega)
    have y2 : (i : Int) < n := by omega
    have y3 : (0 : Int) ≤ i := by omega
    go_quiet ((go_at_call 22; exact Calls.quiet_of_same (same_flip (mod_any _ _ x1 x2 hm hm2 _))))
    clear y1 y2 y3 q0 q1 q2
    go_wp2
    go_ret
    refine ⟨x % m, r0, r1, rfl, ?_, ?_⟩
    · refine ⟨some ⟨b, off, none⟩, n, c, i + 1, L, T, ?_, by omega, Hl.out, hn, Or.inr ⟨b, off, rfl, hbp, fun j hj => ?_⟩, HL.out⟩
      · show ((w.drewN _).setCell ⟨p, 1, none⟩ _).heap[p]? = _
        rw [heap_setCell_same _ p 1 _ _ _ (show (w.drewN _).heap[p]? = _ from HP.out)]
        simp
      · show ((w.drewN _).setCell ⟨p, 1, none⟩ _).cell? _ = _
        rw [World.cell?_setCell_other _ _ _ _ (by simp)]; exact HCC.out j hj
    · exact ((But.drewN w _).trans (But.setCell _ p 1 _)).trans (But.drewN _ _)

theorem one_any (p : Nat) (m : Int) (w : World) (hm : 1 ≤ m) (hm2 : m ≤ 1000000000000) (hD : DiceAt w p) :
    Calls Tryz.prog 34 #[.pointer (some ⟨p, 0, none⟩), .int .i64 m] w (One p w) := by
  have HD := Lib.hid hD
  clear hD
  go_enter Tryz.func34, Tryz.ntmps34
  go_wp2_with (go_at_call 24; refine (next_any p m _ hm hm2 HD.out).mono ?_; rintro e w1 ⟨r, r0, r1, rfl, hd, hb⟩)
  go_ret
  exact ⟨_, rfl, hd, hb⟩
end Go.Proofs.YtihbpggbpapcfaaGreatDoor
