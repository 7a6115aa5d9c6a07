/- Series: the regular days as an iterator, of the program. -/
import Derived.Test.YtibigbfkokendaaGreatDoorR6
import Derived.RangeFuncNested
import Derived.RangeFuncBound
import Derived.RangeFuncCalls
import Derived.RangeFuncLeaves
import Derived.Shelf.Abstract
import Derived.Shelf.RegionOpen
import Derived.OwnWalkIn
import Derived.TacticsInMore
import Derived.LoopNIn
import Derived.LoopIn
import Derived.Maps.AppendAt
namespace Go.Proofs.YtibigbfkokendaaGreatDoor
open Go.RowKit Go.Shelf TT
attribute [local go_sem] Oper.semAt_some

/-- six cells of a series at block B -/
structure S6 (w : World) (B : Nat) (f l e k : Int) (a : Option Addr) (n c : Nat) (b : Option Addr) (m q : Nat) : Prop where
  c0 : w.cell? ⟨B, 0, none⟩ = some (.int .i64 f)
  c1 : w.cell? ⟨B, 1, none⟩ = some (.int .i64 l)
  c2 : w.cell? ⟨B, 2, none⟩ = some (.int .i64 e)
  c3 : w.cell? ⟨B, 3, none⟩ = some (.int .i64 k)
  c4 : w.cell? ⟨B, 4, none⟩ = some (.slice a n c)
  c5 : w.cell? ⟨B, 5, none⟩ = some (.slice b m q)
  sz : B < w.heap.size
theorem S6.kept {w w2 : World} {B : Nat} {f l e k : Int} {a : Option Addr} {n c : Nat} {b : Option Addr} {m q : Nat} (h : S6 w B f l e k a n c b m q) (hb : w2.heap[B]? = w.heap[B]?) (hs : w.heap.size ≤ w2.heap.size) : S6 w2 B f l e k a n c b m q := by
  have ce : ∀ o, w2.cell? ⟨B, o, none⟩ = w.cell? ⟨B, o, none⟩ := fun o => World.cell?_of_block (w := w) (a := ⟨B, o, none⟩) hb
  exact ⟨(ce 0).trans h.c0, (ce 1).trans h.c1, (ce 2).trans h.c2, (ce 3).trans h.c3, (ce 4).trans h.c4, (ce 5).trans h.c5, Nat.lt_of_lt_of_le h.sz hs⟩
theorem S6.mk0 (w : World) (T : TypeId) (f l e k : Int) (a : Option Addr) (n c : Nat) (b : Option Addr) (m q : Nat) :
    S6 (w.alloc (.cells #[.int .i64 f, .int .i64 l, .int .i64 e, .int .i64 k, .slice a n c, .slice b m q] T)) w.heap.size f l e k a n c b m q :=
  ⟨by simp, by simp, by simp, by simp, by simp, by simp, by simp⟩

/-- what a round keeps: the box of the series -/
def KpB (B : Nat) (W W' : World) : Prop := W'.heap[B]? = W.heap[B]? ∧ W.heap.size ≤ W'.heap.size
theorem KpB.t {B : Nat} {X Y Z : World} (h : KpB B X Y) (k : KpB B Y Z) : KpB B X Z := ⟨k.1.trans h.1, Nat.le_trans h.2 k.2⟩
theorem KpB.b {B : Nat} {w : World} (hB : B < w.heap.size) (W : World) (l : Nat) (o o' : Obj) (hl : w.heap.size ≤ l) (_ : W.heap[l]? = some o) (_ : o.isCells = false) (_ : o.isWalk = false) : KpB B W (W.putObj l o') :=
  ⟨World.putObj_heap_other (by omega), by simp⟩
theorem KpB.below {B : Nat} {W W' : World} (hB : B < W.heap.size) (h : Below W.heap.size W W') : KpB B W W' := ⟨h.block B hB, h.size⟩

set_option maxRecDepth 100000 in
set_option maxHeartbeats 2000000 in
theorem regs1_in (lp B : Nat) (f l e k : Int) (a : Option Addr) (n c : Nat) (b : Option Addr) (m q : Nat) (h0 : 0 ≤ f) (hfl : f ≤ l) (hl : l ≤ 36524) (hl2 : l ≤ f + 140) (e1 : 1 ≤ e) (e2 : e ≤ 4) (k0 : 0 ≤ k) (k1 : k ≤ 127)
    (J Jx : List Int → World → Prop) (W : World) (hJ : AbidesFrom W.heap.size J)
    (hY : ∀ pre x W1, J pre W1 → pre.length < 141 → YieldAt Fence.wide 1 Tryz.prog lp #[.int .i64 x] W1 fun en W' =>
      (en = .returned (.bool true) ∧ J (pre ++ [x]) W' ∧ KpB B W1 W') ∨ (en = .returned (.bool false) ∧ Jx (pre ++ [x]) W'))
    (hS : S6 W B f l e k a n c b m q) (hJ0 : J [] W) :
    CallsIn Fence.wide 2 Tryz.prog 59 #[.func (.yield lp) #[] #[], .pointer (some ⟨B, 0, none⟩)] W fun en W' => (∃ v, en = .returned v) ∧
      ((∃ ys, ys = (dayR f l).filter (regB f l e k) ∧ J ys W') ∨ (∃ pre, True ∧ Jx pre W')) := by
  have HJ := Lib.hid hJ
  have HY := Lib.hid hY
  have HS := Lib.hid hS
  clear hJ hY hS
  refine callsIn_of_wp Tryz.func59 rfl trivial ?_ rfl
  simp only [Tryz.ntmps59, List.size_toArray, List.length_cons, List.length_nil, Nat.reduceAdd, Nat.reduceSub, Array.replicate_succ, Array.replicate_zero, List.push_toArray, List.append_toArray, List.nil_append, List.cons_append]
  obtain ⟨c0, c1, c2, c3, c4, c5, sz⟩ := HS.out
  gi_wp2
  gi_loopw [3] (fun d wr => ∃ j : Nat, f + j ≤ l + 1 ∧ d = .int .i64 (f + j) ∧ Hid (J ((rng f j).filter (regB f l e k)) wr) ∧ Hid (KpB B W wr)) (fun d _ => (l + 1 - intOf d).toNat)
  case atStart => exact ⟨0, by omega, by simp, Lib.hid hJ0, Lib.hid ⟨rfl, Nat.le_refl _⟩⟩
  case round =>
    clear c0 c1 c2 c3 c4 c5 sz
    obtain ⟨j, hj, rfl, hJs, hK⟩ := hrel
    have HW := Lib.hid (HS.out.kept hK.out.1 hK.out.2)
    obtain ⟨c0, c1, c2, c3, c4, c5, sz⟩ := HW.out
    by_cases hlt : f + j ≤ l
    · have hlen := filter_len (regB f l e k) f j
      have hlen2 : ((rng f j).filter (regB f l e k)).length < 141 := by omega
      have hhit := Lib.hid (fun h => filter_hit (p := regB f l e k) (f := f) (n := j) h)
      have hmiss := Lib.hid (fun h => filter_miss (p := regB f l e k) (f := f) (n := j) h)
      generalize hL : (rng f j).filter (regB f l e k) = L at *
      clear hL hlen
      obtain ⟨x, hxj⟩ : ∃ x : Int, x = f + j := ⟨_, rfl⟩
      have HXJ := Lib.hid hxj
      have HJJ := Lib.hid hj
      rw [← hxj] at hhit hmiss hlt ⊢
      have hx0 : 0 ≤ x := by omega
      clear hxj hj
      cases hr : regB f l e k x
      · have hm := Lib.hid (hmiss.out hr)
        clear hhit hmiss
        gi_wp2_with (refine ⟨trivial, ?_⟩; gi_at_call 42; refine (callsIn_wide.2 (regular_any f l e k x a n c b m q _ h0 hl e1 e2 k0 k1)).mono ?_; rintro e w1 ⟨rfl, hb1⟩; rw [hr])
        have HB1 := Lib.hid (KpB.below sz hb1)
        refine ⟨fun _ h => (by cases h), ?_⟩
        gi_wp2
        go_roundw
        case rel => exact ⟨j + 1, by have := HXJ.out; omega, int_eq (by have := HXJ.out; omega), Lib.hid (by rw [hm.out]; exact HJ.out _ _ _ none hJs.out (grown_below hb1 none) (fun r e => by cases e)), Lib.hid (hK.out.t HB1.out)⟩
        case measure => have := HXJ.out; simp [intOf]; omega
      · have hm := Lib.hid (hhit.out hr)
        clear hhit hmiss
        gi_wp2_with fail
        refine ⟨trivial, ?_⟩
        refine (callsIn_wide.2 (regular_any f l e k x a n c b m q _ h0 hl e1 e2 k0 k1)).mono ?_
        rintro en w1 ⟨rfl, hb1⟩
        rw [hr]
        have HB1 := Lib.hid (KpB.below sz hb1)
        have hJ1 := HJ.out _ _ _ none hJs.out (grown_below hb1 none) (fun r e => by cases e)
        obtain ⟨fn, tmps, assign, body, hy, hR⟩ := HY.out _ x w1 hJ1 hlen2
        clear hJ1 c0 c1 c2 c3 c4 c5 sz
        gi_wp2_with fail
        refine hR.mono ?_
        rintro en W3 (⟨rfl, hJ3, hk3⟩ | ⟨rfl, hJx3⟩)
        · have HJ3 := Lib.hid hJ3
          have HK3 := Lib.hid hk3
          clear hJ3 hk3
          gi_wp2
          go_roundw
          case rel => exact ⟨j + 1, by have := HXJ.out; omega, int_eq (by have := HXJ.out; omega), Lib.hid (by rw [hm.out]; exact HJ3.out), Lib.hid ((hK.out.t HB1.out).t HK3.out)⟩
          case measure => have := HXJ.out; simp [intOf]; omega
        · gi_wp2
          refine bodyPost_ret (results_none rfl _ _ _) rfl ?_
          exact ⟨⟨_, rfl⟩, .inr ⟨_, trivial, hJx3⟩⟩
    · have hjj : Hid (j = (l - f + 1).toNat) := Lib.hid (by omega)
      gi_wp2
      go_end0
      exact ⟨⟨_, rfl⟩, .inl (by unfold dayR; rw [← hjj.out]; exact hJs.out)⟩

theorem regs_any (f l e k : Int) (a : Option Addr) (n c : Nat) (b : Option Addr) (m q : Nat) (w : World) :
    Calls Tryz.prog 39 #[serV f l e k a n c b m q] w fun en w' => en = .returned (.func (.func 59) #[] #[.pointer (some ⟨w.heap.size, 0, none⟩)]) ∧
      w' = w.alloc (.cells #[.int .i64 f, .int .i64 l, .int .i64 e, .int .i64 k, .slice a n c, .slice b m q] 24) := by
  go_enter Tryz.func39, Tryz.ntmps39
  go_wp2
  go_ret
  exact ⟨rfl, rfl⟩

theorem regs_stops (B : Nat) (f l e k : Int) (a : Option Addr) (n c : Nat) (b : Option Addr) (m q : Nat) (h0 : 0 ≤ f) (hfl : f ≤ l) (hl : l ≤ 36524) (hl2 : l ≤ f + 140) (e1 : 1 ≤ e) (e2 : e ≤ 4) (k0 : 0 ≤ k) (k1 : k ≤ 127) (w : World) (hS : S6 w B f l e k a n c b m q) :
    SeqStopsK Fence.wide 2 Tryz.prog 59 #[.pointer (some ⟨B, 0, none⟩)] (fun x : Int => #[Value.int .i64 x]) (KpB B) (fun ys => ys = (dayR f l).filter (regB f l e k)) (fun _ => True) 141 w := fun lp J Jx W hW hJ _ hY hJ0 =>
  regs1_in lp B f l e k a n c b m q h0 hfl hl hl2 e1 e2 k0 k1 J Jx W hJ hY (hS.kept (hW.block B hS.sz) hW.size) hJ0

end Go.Proofs.YtibigbfkokendaaGreatDoor
