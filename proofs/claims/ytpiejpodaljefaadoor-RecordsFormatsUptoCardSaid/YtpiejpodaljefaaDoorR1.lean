import Derived.Test.YtpiejpodaljefaaDoorPlain
import Derived.Test.YtpiejpodaljefaaDoorDice
namespace Go.Proofs.YtpiejpodaljefaaDoor
open Go.RowKit

/-- the program's reader: place, line, the line's beginning, the text, the dialect -/
def RdAt (w : World) (p : Nat) (s : ByteArray) (i l b : Nat) (d q : UInt8) : Prop :=
  w.heap[p]? = some (.cells #[.int .i64 i, .int .i64 l, .int .i64 b, .string s, .int .u8 d.toNat, .int .u8 q.toNat] 82 (0, 0)) ∧ s.size ≤ 65536 ∧ i ≤ s.size ∧ b ≤ i ∧ l ≤ 65537 + i
theorem RdAt.below {w w' : World} {p : Nat} {s : ByteArray} {i l b : Nat} {d q : UInt8} (h : RdAt w p s i l b d q) (hb : Below w.heap.size w w') : RdAt w' p s i l b d q :=
  ⟨(hb.block p (lt_of_heap h.1)).trans h.1, h.2⟩
theorem RdAt.cells {w : World} {p : Nat} {s : ByteArray} {i l b : Nat} {d q : UInt8} (h : RdAt w p s i l b d q) :
    (w.cell? ⟨p, 0, none⟩ = some (.int .i64 i) ∧ w.cell? ⟨p, 1, none⟩ = some (.int .i64 l) ∧ w.cell? ⟨p, 2, none⟩ = some (.int .i64 b) ∧ w.cell? ⟨p, 3, none⟩ = some (.string s) ∧ w.cell? ⟨p, 4, none⟩ = some (.int .u8 d.toNat) ∧ w.cell? ⟨p, 5, none⟩ = some (.int .u8 q.toNat)) ∧
    w.frozen? ⟨p, 0, none⟩ = false ∧ w.frozen? ⟨p, 1, none⟩ = false ∧ w.frozen? ⟨p, 2, none⟩ = false := by
  have h1 := h.1
  refine ⟨⟨?_, ?_, ?_, ?_, ?_, ?_⟩, ?_, ?_, ?_⟩ <;> simp [World.cell?, World.frozen?, h1]

/-- It hands back a value; the world has drawn. -/
def RetQ (v : Value) (w : World) (e : Ending) (w' : World) : Prop := e = .returned v ∧ ∃ m, w' = w.drewN m
theorem RetQ.b {v : Value} {w : World} {e : Ending} {w' : World} (h : RetQ v w e w') : RetB v w e w' := by
  obtain ⟨he, m, rfl⟩ := h
  exact ⟨he, below_drewN _ _⟩
theorem quiet_q {P : Program} {f : FuncId} {args : Array Value} {w : World} {n : Nat} {v : Value} (h : Calls P f args (w.drewN n) (RetQ v (w.drewN n))) : Calls P f args (w.drewN n) fun e w'' => e = .returned v ∧ ∃ m, w'' = w.drewN m :=
  Calls.quiet_of (h.mono fun _ _ x => x)
theorem ended_q (p : Nat) (s : ByteArray) (i l b : Nat) (d q : UInt8) (w : World) (hR : RdAt w p s i l b d q) :
    Calls Tryd.prog 39 #[.pointer (some ⟨p, 0, none⟩)] w (RetQ (.bool (decide (s.size ≤ i))) w) := by
  obtain ⟨⟨c0, c1, c2, c3, c4, c5⟩, f0, f1, f2⟩ := hR.cells
  obtain ⟨_, hs, hi, hb, hl⟩ := hR
  go_enter Tryd.func39, Tryd.ntmps39
  go_wp2
  go_quiet (fail)
  go_wp2
  go_ret
  exact ⟨ret_bool (by simp), _, rfl⟩
theorem ended_any (p : Nat) (s : ByteArray) (i l b : Nat) (d q : UInt8) (w : World) (hR : RdAt w p s i l b d q) :
    Calls Tryd.prog 39 #[.pointer (some ⟨p, 0, none⟩)] w (RetB (.bool (decide (s.size ≤ i))) w) := (ended_q p s i l b d q w hR).mono fun _ _ h => h.b
theorem ended_qno (p : Nat) (s : ByteArray) (i l b : Nat) (d q : UInt8) (w : World) (hR : RdAt w p s i l b d q) (h : i < s.size) : Calls Tryd.prog 39 #[.pointer (some ⟨p, 0, none⟩)] w (RetQ (.bool false) w) := by
  have C := ended_q p s i l b d q w hR
  rw [show decide (s.size ≤ i) = false by simp; omega] at C
  exact C
theorem ended_qyes (p : Nat) (s : ByteArray) (i l b : Nat) (d q : UInt8) (w : World) (hR : RdAt w p s i l b d q) (h : ¬ i < s.size) : Calls Tryd.prog 39 #[.pointer (some ⟨p, 0, none⟩)] w (RetQ (.bool true) w) := by
  have C := ended_q p s i l b d q w hR
  rw [show decide (s.size ≤ i) = true by simp; omega] at C
  exact C
end Go.Proofs.YtpiejpodaljefaaDoor
