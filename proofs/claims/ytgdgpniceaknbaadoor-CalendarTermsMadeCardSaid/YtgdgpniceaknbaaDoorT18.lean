import Derived.Test.YtgdgpniceaknbaaDoorT21
import Derived.Deep.AppendLies
import Derived.Deep.RegionLaw
namespace Go.Proofs.YtgdgpniceaknbaaDoor
open Go.RowKit TT

/-- an odd term being made: its box at B, the result's at B + 1 -/
structure OddW (w wr : World) (p : Nat) (f k : Int) (v : Value) : Prop where
  h3 : wr.heap[w.heap.size]? = some (.cells #[.int .i64 f, .int .i64 k, v] 37 (0, 0))
  h2 : wr.heap[w.heap.size + 1]? = some (.cells #[.int .i64 0, .int .i64 0, .slice none 0 0] 37 (0, 0))
  dice : DiceAt wr p
  but : But p w wr

def OddPost (p : Nat) (a0 : Option Addr) (n0 : Nat) (w : World) (e : Ending) (w' : World) : Prop :=
  ∃ (f k : Int) (hs : List Int) (a : Option Addr) (n c : Nat), e = .returned (.agg #[.int .i64 f, .int .i64 k, .slice a n c]) ∧ -40000 ≤ f ∧ f ≤ 40000 ∧ (∀ q, q < w.heap.size → (∀ b off, a0 = some ⟨b, off, none⟩ → 0 < n0 → b ≠ q) → ∀ b off, a = some ⟨b, off, none⟩ → 0 < n → b ≠ q) ∧ IntsAt w' a n hs ∧ DiceAt w' p ∧ But p w w'

theorem IntsAt.setOther {w : World} {a : Option Addr} {n : Nat} {hs : List Int} (h : IntsAt w a n hs) (q o : Nat) (v : Value) (hq : ∀ b off, a = some ⟨b, off, none⟩ → 0 < n → b ≠ q) : IntsAt (w.setCell ⟨q, o, none⟩ v) a n hs := by
  obtain ⟨h1, h3, h2⟩ := h
  refine ⟨h1, h3, ?_⟩
  rcases h2 with h2 | ⟨b, off, ha, hc⟩
  · exact Or.inl h2
  · by_cases h0 : n = 0
    · exact Or.inl h0
    · refine Or.inr ⟨b, off, ha, fun i hi => ?_⟩
      have hne := hq b off ha (by omega)
      rw [World.cell?_setCell_other _ _ _ _ (by intro e; cases e; exact hne rfl)]; exact hc i hi

theorem odd_fin {w wX : World} {p : Nat} {f k : Int} {a : Option Addr} {n c : Nat} {hs : List Int} (hp : p < w.heap.size) (f1 : -40000 ≤ f) (f2 : f ≤ 40000)
    (hW : OddW w wX p f k (.slice a n c)) (hI : IntsAt wX a n hs) (hq : ∀ b off, a = some ⟨b, off, none⟩ → 0 < n → b ≠ w.heap.size + 1) (a0 : Option Addr) (n0 : Nat) (hq2 : ∀ q, q < w.heap.size → (∀ b off, a0 = some ⟨b, off, none⟩ → 0 < n0 → b ≠ q) → ∀ b off, a = some ⟨b, off, none⟩ → 0 < n → b ≠ q) :
    OddPost p a0 n0 w (.returned (.agg #[.int .i64 f, .int .i64 k, .slice a n c]))
      (((wX.setCell ⟨w.heap.size + 1, 0, none⟩ (.int .i64 f)).setCell ⟨w.heap.size + 1, 1, none⟩ (.int .i64 k)).setCell ⟨w.heap.size + 1, 2, none⟩ (.slice a n c)) := by
  have hblk : ∀ q, q ≠ w.heap.size + 1 → (((wX.setCell ⟨w.heap.size + 1, 0, none⟩ (.int .i64 f)).setCell ⟨w.heap.size + 1, 1, none⟩ (.int .i64 k)).setCell ⟨w.heap.size + 1, 2, none⟩ (.slice a n c)).heap[q]? = wX.heap[q]? := fun q hq => by
    rw [heap_setCell_other _ _ _ _ hq, heap_setCell_other _ _ _ _ hq, heap_setCell_other _ _ _ _ hq]
  refine ⟨f, k, hs, a, n, c, rfl, f1, f2, hq2, ((hI.setOther _ _ _ hq).setOther _ _ _ hq).setOther _ _ _ hq, hW.dice.same (fun q hq => hblk q (by omega)), ?_⟩
  refine ⟨hW.but.os, hW.but.tape, hW.but.output, by simpa using hW.but.size, fun q hq hqp => ?_⟩
  rw [hblk q (by omega)]; exact hW.but.block q hq hqp

theorem OddW.set {w wr : World} {p : Nat} {f k : Int} {v : Value} (h : OddW w wr p f k v) (hp : p < w.heap.size) (o : Nat) (x : Value) (f' k' : Int) (v' : Value) (he : (#[.int .i64 f, .int .i64 k, v] : Array Value).setIfInBounds o x = #[.int .i64 f', .int .i64 k', v']) :
    OddW w (wr.setCell ⟨w.heap.size, o, none⟩ x) p f' k' v' := by
  refine ⟨?_, ?_, h.dice.same (fun q hq => heap_setCell_other _ _ _ _ (by show q ≠ w.heap.size; omega)), ?_⟩
  · rw [heap_setCell_same _ _ _ _ _ _ h.h3, he]
  · rw [heap_setCell_other _ _ _ _ (by show w.heap.size + 1 ≠ w.heap.size; omega)]; exact h.h2
  · refine ⟨h.but.os, h.but.tape, h.but.output, by simpa using h.but.size, fun q hq hqp => ?_⟩
    rw [heap_setCell_other _ _ _ _ (by show q ≠ w.heap.size; omega)]; exact h.but.block q hq hqp
theorem OddW.next {w wr w2 : World} {p : Nat} {f k : Int} {v : Value} (h : OddW w wr p f k v) (hp : p < w.heap.size) (hd : DiceAt w2 p) (hb : But p wr w2) : OddW w w2 p f k v :=
  ⟨(hb.block _ (lt_of_heap h.h3) (by omega)).trans h.h3, (hb.block _ (lt_of_heap h.h2) (by omega)).trans h.h2, hd, h.but.trans hb⟩
theorem OddW.alloc {w wr : World} {p : Nat} {f k : Int} {v : Value} (h : OddW w wr p f k v) (hp : p < w.heap.size) (o : Obj) : OddW w (wr.alloc o) p f k v :=
  h.next hp (h.dice.below ((Below.refl _ _).alloc (Nat.le_refl _) o)) (But.of_below ((Below.refl _ _).alloc (Nat.le_refl _) o))
theorem OddW.grown {w wr w2 : World} {p : Nat} {f k : Int} {v : Value} {row : Option Nat} (h : OddW w wr p f k v) (hp : p < w.heap.size) (hg : wr.grownBy w2 row) (hrow : ∀ q, row = some q → w.heap.size + 2 ≤ q) : OddW w w2 p f k v := by
  have hblk : ∀ q, q < wr.heap.size → q < w.heap.size + 2 → w2.heap[q]? = wr.heap[q]? := fun q h1 h2 => hg.block q h1 (fun e => by have := hrow q e.symm; omega)
  have z := lt_of_heap h.h2
  refine ⟨(hblk _ (by omega) (by omega)).trans h.h3, (hblk _ (by omega) (by omega)).trans h.h2, h.dice.same (fun q hq => hblk q (by omega) (by omega)), ?_⟩
  exact ⟨hg.os.trans h.but.os, hg.tape.trans h.but.tape, hg.output.trans h.but.output, Nat.le_trans h.but.size hg.size, fun q hq hqp => (hblk q (by omega) (by omega)).trans (h.but.block q hq hqp)⟩
def OddAll (w : World) (p : Nat) (f k : Int) (wr : World) : Prop := (∃ v, OddW w wr p f k v) ∧ wr.cell? ⟨w.heap.size, 0, none⟩ = some (.int .i64 f) ∧ wr.cell? ⟨w.heap.size, 1, none⟩ = some (.int .i64 k)
theorem OddAll.mk0 {w wr : World} {p : Nat} {f k : Int} {v : Value} (h : OddW w wr p f k v) : OddAll w p f k wr := ⟨⟨v, h⟩, (cells3_of h.h3).1.1, (cells3_of h.h3).1.2.1⟩
theorem OddAll.drew {w wr : World} {p : Nat} {f k : Int} (h : OddAll w p f k wr) : OddAll w p f k wr.drew := ⟨h.1.elim fun v h => ⟨v, ⟨h.h3, h.h2, h.dice.below ⟨rfl, rfl, rfl, Nat.le_refl _, fun _ _ => rfl⟩, h.but.trans ⟨rfl, rfl, rfl, Nat.le_refl _, fun _ _ _ => rfl⟩⟩⟩, h.2⟩
theorem OddAll.grown {w wr w2 : World} {p : Nat} {f k : Int} {row : Option Nat} (h : OddAll w p f k wr) (hp : p < w.heap.size) (hg : wr.grownBy w2 row) (hrow : ∀ q, row = some q → w.heap.size + 2 ≤ q) : OddAll w p f k w2 :=
  h.1.elim fun _ h => OddAll.mk0 (h.grown hp hg hrow)
theorem OddAll.alloc {w wr : World} {p : Nat} {f k : Int} (h : OddAll w p f k wr) (hp : p < w.heap.size) (o : Obj) : OddAll w p f k (wr.alloc o) := h.1.elim fun _ h => OddAll.mk0 (h.alloc hp o)
theorem OddAll.next {w wr w2 : World} {p : Nat} {f k : Int} (h : OddAll w p f k wr) (hp : p < w.heap.size) (hd : DiceAt w2 p) (hb : But p wr w2) : OddAll w p f k w2 := h.1.elim fun _ h => OddAll.mk0 (h.next hp hd hb)
theorem OddAll.set {w wr : World} {p : Nat} {f k : Int} (h : OddAll w p f k wr) (hp : p < w.heap.size) (x : Value) : OddAll w p f k (wr.setCell ⟨w.heap.size, 2, none⟩ x) := h.1.elim fun _ h => OddAll.mk0 (h.set hp 2 x f k x rfl)
theorem OddAll.dice {w wr : World} {p : Nat} {f k : Int} (h : OddAll w p f k wr) : DiceAt wr p := h.1.elim fun _ h => h.dice

set_option maxHeartbeats 8000000 in
theorem odd_any (p : Nat) (f k : Int) (hs : List Int) (a : Option Addr) (n c : Nat) (w : World) (hD : DiceAt w p) (hI : IntsAt w a n hs) (hq : ∀ b off, a = some ⟨b, off, none⟩ → 0 < n → b ≠ p) (f1 : -2 ≤ f) (f2 : f ≤ 36600) (k1 : -2 ≤ k) (k2 : k ≤ 30)
    (hn : (n = 0 ∧ a = none ∧ c = 0) ∨ 0 < n) (hn5 : n ≤ 10) :
    Calls Tryd.prog 31 #[.pointer (some ⟨p, 0, none⟩), .agg #[.int .i64 f, .int .i64 k, .slice a n c]] w (OddPost p a n w) := by
  have hp := hD.lt
  have hab : ∀ b off, a = some ⟨b, off, none⟩ → 0 < n → b < w.heap.size := fun b off ha h0 => by
    rcases hI.2.2 with h | ⟨b', off', ha', hc⟩
    · omega
    · rw [ha] at ha'; cases ha'; exact World.block_lt_of_cell? _ ⟨b, off + 0, none⟩ (hc 0 h0)
  have hW0 : OddW w ((w.alloc (.cells #[.int .i64 f, .int .i64 k, .slice a n c] 37)).alloc (.cells #[.int .i64 0, .int .i64 0, .slice none 0 0] 37)) p f k (.slice a n c) := by
    have hB : Below w.heap.size w ((w.alloc (.cells #[.int .i64 f, .int .i64 k, .slice a n c] 37)).alloc (.cells #[.int .i64 0, .int .i64 0, .slice none 0 0] 37)) := ((Below.refl _ _).alloc (Nat.le_refl _) _).alloc (by simp) _
    refine ⟨?_, ?_, hD.below hB, But.of_below hB⟩
    · rw [Below.heap_alloc _ _ _ (by simp)]; show (w.heap.push _)[w.heap.size]? = _; simp
    · have := heap_alloc_new (w.alloc (.cells #[.int .i64 f, .int .i64 k, .slice a n c] 37)) (.cells #[.int .i64 0, .int .i64 0, .slice none 0 0] 37)
      simpa using this
  have hI0 := hI.below (((Below.refl _ _).alloc (Nat.le_refl _) (.cells #[.int .i64 f, .int .i64 k, .slice a n c] 37)).alloc (by simp) (.cells #[.int .i64 0, .int .i64 0, .slice none 0 0] 37))
  have HW0 := Lib.hid hW0; have HI0' := Lib.hid hI0; have HQ := Lib.hid hq; have HAB := Lib.hid hab; have HN := Lib.hid hn
  clear hD hI hW0 hI0 hq hab hn
  obtain ⟨i0, hi, hz0, hz1, hz2⟩ := info_parts Tryd.info3
  have HI0 := Lib.hid hi; have HZ0 := Lib.hid hz0; have HZ1 := Lib.hid hz1; have HZ2 := Lib.hid hz2
  clear hi hz0 hz1 hz2
  go_enter Tryd.func31, Tryd.ntmps31
  go_wp2_with fail
  refine (next_any p 4 _ (by omega) (by omega) HW0.out.dice).mono ?_
  rintro e w1 ⟨r, r0, r1, rfl, hd1, hb1⟩
  have hW1 := HW0.out.next hp hd1 hb1
  have HI1 := Lib.hid (HI0'.out.but hb1 HQ.out)
  obtain ⟨⟨c0, c1, c2⟩, g0, g1, g2⟩ := cells3_of hW1.h3
  obtain ⟨⟨d0, d1, d2⟩, e0, e1, e2⟩ := cells3_of hW1.h2
  have z0 : w.heap.size + 1 < w1.heap.size := lt_of_heap hW1.h2
  have HW1 := Lib.hid hW1
  clear hW1 hd1 hb1 HW0 HI0'
  have hr : r = 0 ∨ r = 1 ∨ r = 2 ∨ r = 3 := by omega
  rcases hr with rfl | rfl | rfl | rfl
  · go_wp2_with fail
    refine (next_any p 5 _ (by omega) (by omega) (HW1.out.alloc hp _).dice).mono ?_
    rintro e w2 ⟨q, q0, q1, rfl, hd2, hb2⟩
    have hW2 := (HW1.out.alloc hp _).next hp hd2 hb2
    have HI2 := Lib.hid ((HI1.out.alloc (.cells #[.int .i64 (-1), .int .i64 0, .int .i64 3, .int .i64 36524, .int .i64 36504] 3)).but hb2 HQ.out)
    have ht : ∀ o, w2.cell? ⟨w1.heap.size, o, none⟩ = (#[.int .i64 (-1), .int .i64 0, .int .i64 3, .int .i64 36524, .int .i64 36504] : Array Value)[o]? := fun o => by
      rw [hb2.cell (by simp) (by omega), World.cell?_alloc_at _ _ _ _ rfl]
    obtain ⟨⟨c0', c1', c2'⟩, g0', g1', g2'⟩ := cells3_of hW2.h3
    obtain ⟨⟨d0', d1', d2'⟩, e0', e1', e2'⟩ := cells3_of hW2.h2
    have HW2 := Lib.hid hW2
    clear hW2 hd2 hb2 c0 c1 c2 g0 g1 g2 d0 d1 d2 e0 e1 e2
    have hcase : q = 0 ∨ q = 1 ∨ q = 2 ∨ q = 3 ∨ q = 4 := by omega
    have ht0 := ht 0; have ht1 := ht 1; have ht2 := ht 2; have ht3 := ht 3; have ht4 := ht 4
    simp at ht0 ht1 ht2 ht3 ht4
    clear ht
    have fin : ∀ f' : Int, -40000 ≤ f' → f' ≤ 40000 → OddPost p a n w (.returned (.agg #[.int .i64 f', .int .i64 k, .slice a n c])) ((((w2.setCell ⟨w.heap.size, 0, none⟩ (.int .i64 f')).setCell ⟨w.heap.size + 1, 0, none⟩ (.int .i64 f')).setCell ⟨w.heap.size + 1, 1, none⟩ (.int .i64 k)).setCell ⟨w.heap.size + 1, 2, none⟩ (.slice a n c)) := fun f' x1 x2 =>
      odd_fin hp x1 x2 (HW2.out.set hp 0 (.int .i64 f') f' k (.slice a n c) rfl) (HI2.out.setOther _ _ _ (fun b off ha h0 => by have := HAB.out b off ha h0; omega)) (fun b off ha h0 => by have := HAB.out b off ha h0; omega) a n (fun q _ h => h)
    have FIN := Lib.hid fin
    clear fin
    rcases hcase with rfl | rfl | rfl | rfl | rfl
    · go_wp2_with fail
      refine bodyPost_ret (v := .agg #[.int .i64 (-1), .int .i64 k, .slice a n c]) ?_ rfl (FIN.out (-1) (by omega) (by omega))
      simp [results, Tryd.results31, go_sem, d0', d1', d2']
    · go_wp2_with fail
      refine bodyPost_ret (v := .agg #[.int .i64 (0), .int .i64 k, .slice a n c]) ?_ rfl (FIN.out (0) (by omega) (by omega))
      simp [results, Tryd.results31, go_sem, d0', d1', d2']
    · go_wp2_with fail
      refine bodyPost_ret (v := .agg #[.int .i64 (3), .int .i64 k, .slice a n c]) ?_ rfl (FIN.out (3) (by omega) (by omega))
      simp [results, Tryd.results31, go_sem, d0', d1', d2']
    · go_wp2_with fail
      refine bodyPost_ret (v := .agg #[.int .i64 (36524), .int .i64 k, .slice a n c]) ?_ rfl (FIN.out (36524) (by omega) (by omega))
      simp [results, Tryd.results31, go_sem, d0', d1', d2']
    · go_wp2_with fail
      refine bodyPost_ret (v := .agg #[.int .i64 (36504), .int .i64 k, .slice a n c]) ?_ rfl (FIN.out (36504) (by omega) (by omega))
      simp [results, Tryd.results31, go_sem, d0', d1', d2']
  · go_wp2_with fail
    refine (next_any p 4 _ (by omega) (by omega) (HW1.out.alloc hp _).dice).mono ?_
    rintro e w2 ⟨q, q0, q1, rfl, hd2, hb2⟩
    have hW2 := (HW1.out.alloc hp _).next hp hd2 hb2
    have HI2 := Lib.hid ((HI1.out.alloc (.cells #[.int .i64 0, .int .i64 20, .int .i64 21, .int .i64 (-1)] 3)).but hb2 HQ.out)
    have ht : ∀ o, w2.cell? ⟨w1.heap.size, o, none⟩ = (#[.int .i64 0, .int .i64 20, .int .i64 21, .int .i64 (-1)] : Array Value)[o]? := fun o => by
      rw [hb2.cell (by simp) (by omega), World.cell?_alloc_at _ _ _ _ rfl]
    obtain ⟨⟨c0', c1', c2'⟩, g0', g1', g2'⟩ := cells3_of hW2.h3
    obtain ⟨⟨d0', d1', d2'⟩, e0', e1', e2'⟩ := cells3_of hW2.h2
    have HW2 := Lib.hid hW2
    clear hW2 hd2 hb2 c0 c1 c2 g0 g1 g2 d0 d1 d2 e0 e1 e2
    have hcase : q = 0 ∨ q = 1 ∨ q = 2 ∨ q = 3 := by omega
    have ht0 := ht 0; have ht1 := ht 1; have ht2 := ht 2; have ht3 := ht 3
    simp at ht0 ht1 ht2 ht3
    clear ht
    have fin : ∀ k' : Int, OddPost p a n w (.returned (.agg #[.int .i64 f, .int .i64 k', .slice a n c])) ((((w2.setCell ⟨w.heap.size, 1, none⟩ (.int .i64 k')).setCell ⟨w.heap.size + 1, 0, none⟩ (.int .i64 f)).setCell ⟨w.heap.size + 1, 1, none⟩ (.int .i64 k')).setCell ⟨w.heap.size + 1, 2, none⟩ (.slice a n c)) := fun k' =>
      odd_fin hp (by omega) (by omega) (HW2.out.set hp 1 (.int .i64 k') f k' (.slice a n c) rfl) (HI2.out.setOther _ _ _ (fun b off ha h0 => by have := HAB.out b off ha h0; omega)) (fun b off ha h0 => by have := HAB.out b off ha h0; omega) a n (fun q _ h => h)
    have FIN := Lib.hid fin
    clear fin
    rcases hcase with rfl | rfl | rfl | rfl
    · go_wp2_with fail
      refine bodyPost_ret (v := .agg #[.int .i64 f, .int .i64 (0), .slice a n c]) ?_ rfl (FIN.out (0))
      simp [results, Tryd.results31, go_sem, d0', d1', d2']
    · go_wp2_with fail
      refine bodyPost_ret (v := .agg #[.int .i64 f, .int .i64 (20), .slice a n c]) ?_ rfl (FIN.out (20))
      simp [results, Tryd.results31, go_sem, d0', d1', d2']
    · go_wp2_with fail
      refine bodyPost_ret (v := .agg #[.int .i64 f, .int .i64 (21), .slice a n c]) ?_ rfl (FIN.out (21))
      simp [results, Tryd.results31, go_sem, d0', d1', d2']
    · go_wp2_with fail
      refine bodyPost_ret (v := .agg #[.int .i64 f, .int .i64 (-1), .slice a n c]) ?_ rfl (FIN.out (-1))
      simp [results, Tryd.results31, go_sem, d0', d1', d2']
  · have z1 : w.heap.size < w1.heap.size := by omega
    have S2 : Hid (OddW w w1 p f k (.slice a n c)) := HW1
    have hS0 := Lib.hid (OddAll.mk0 HW1.out)
    by_cases hn0 : 0 < n
    · obtain ⟨hl, _, h0 | ⟨b, off, rfl, hcc⟩⟩ := HI1.out
      · omega
      have HNEWS : Hid (∀ (W : World), (∀ x, W.cell? x = w1.cell? x) → ∀ j u, (hs.map (Value.int .i64))[j]? = some u → W.cell? ((⟨b, off, none⟩ : Addr).add j) = some u) := Lib.hid (fun W hW j u hj => by
        rw [hW, Go.WideShapes.add_plain]
        have hjn : j < n := by
          by_cases c : j < n
          · exact c
          · rw [List.getElem?_eq_none (by simp; omega)] at hj; cases hj
        rw [hcc j hjn]
        simp only [List.getElem?_map, List.getElem?_eq_getElem (show j < hs.length by omega), Option.map_some, Option.some.injEq] at hj
        rw [← hj]
        simp [show j < hs.length by omega])
      have HL := Lib.hid hl
      have y1 : IntKind.i64.wrap (7 * k) = 7 * k := IntWalk.i64_in _ (by omega)
      have y2 : IntKind.i64.wrap (f + 7 * k) = f + 7 * k := IntWalk.i64_in _ (by omega)
      clear hcc hl
      go_wp2_with fail
      go_region_law (first
          | (refine step_append_lies _ (by rfl) _ _ _ (by rfl) (w.heap.size + 2) 3 i0 _ 1 8 Tryd.underlying35 HI0.out HZ0.out HZ1.out HZ2.out rfl (by omega) (.slice none 0 0) 0 [] (by rfl) (World.ownsRow_nil _ _ _ _)
              ⟨b, off, none⟩ n c (hs.map (Value.int .i64)) (by rfl) (by simp [HL.out]) (HNEWS.out _ (fun _ => rfl)) (by simp [Value.oneCell']) hn0 (by unfold maxLen; omega) (by omega) (by simp; omega) w1.heap.size rfl ?_; intro g2' cap2 w2 hown2 hgrow2 hat2 hlt2; simp only [Nat.zero_add, List.nil_append] at hown2; have A2 := Lib.hid (hS0.out.drew.grown hp hgrow2 (fun q hq => by cases hq)); obtain ⟨_, c0b, c1b⟩ := A2.out; have z2 : w.heap.size + 1 < w2.heap.size := A2.out.1.elim (fun _ h => lt_of_heap h.h2); clear hgrow2 hat2 hlt2)
          | (go_simp; go_at_call 32; refine (next_any p 3 _ (by omega) (by omega) A2.out.dice).mono ?_; rintro e w3 ⟨q3, q30, q31, rfl, hd3, hb3⟩; have A3 := Lib.hid (A2.out.next hp hd3 hb3); obtain ⟨_, c0c, c1c⟩ := A3.out; have z3 : w.heap.size + 1 < w3.heap.size := A3.out.1.elim (fun _ h => lt_of_heap h.h2); have H3 := Lib.hid (ownsRow_but hown2 hb3 (by omega)); have y3 : IntKind.i64.wrap (f + 7 * k - q3) = f + 7 * k - q3 := IntWalk.i64_in _ (by omega); clear hd3)
          | (refine step_append_lies _ (by rfl) _ _ _ (by rfl) (w.heap.size + 2) 3 i0 _ 1 8 Tryd.underlying35 HI0.out HZ0.out HZ1.out HZ2.out rfl (by omega) _ _ _ (by rfl) (H3.out.alloc _)
              ⟨w3.heap.size, 0, none⟩ 1 1 [.int .i64 (f + 7 * k - q3)] (by rfl) (by rfl) (cell_one_new _ _ _) (by simp [Value.oneCell']) (by omega) (by unfold maxLen; omega) (by omega) (by simp; omega) (w3.heap.size + 1) (by simp) ?_; intro g4 cap4 w4 hown4 hgrow4 hat4 hlt4; have A4 := Lib.hid ((A3.out.alloc hp _).grown hp hgrow4 (fun q hq => (H3.out.lt q hq).1)); obtain ⟨⟨v4, hv4⟩, c0d, c1d⟩ := A4.out; obtain ⟨⟨_, _, c2d⟩, _, _, g2d⟩ := cells3_of hv4.h3; obtain ⟨⟨d0d, d1d, d2d⟩, e0d, e1d, e2d⟩ := cells3_of hv4.h2; have z4 : w.heap.size + 1 < w4.heap.size := lt_of_heap hv4.h2; have HV4 := Lib.hid hv4; have H4 := Lib.hid hown4; clear hv4 hown4 hgrow4 hat4 hlt4))
      all_goals
        go_wp2_with fail
        refine bodyPost_ret (v := .agg #[.int .i64 f, .int .i64 k, .slice (some ⟨g4, 0, none⟩) (n + 1) cap4]) ?_ rfl ?_
        rotate_left
        · refine odd_fin (hs := hs ++ [f + 7 * k - q3]) hp (by omega) (by omega) (HV4.out.set hp 2 _ f k _ rfl) ?_ ?_ _ _ ?_
          · refine IntsAt.setOther ?_ _ _ _ ?_
            · have h4 := H4.out
              have hL := HL.out
              refine (show n + 1 = (hs ++ [f + 7 * k - q3]).length by simp; omega) ▸ IntsAt.of_owns' (base := w.heap.size + 2) (e := 3) (n := n + 1) (c := cap4) ?_
              rw [show (hs ++ [f + 7 * k - q3]).length = n + 1 by simp; omega]
              simpa using h4
            · intro b' off' hb' _; cases hb'; have := (H4.out.lt g4 rfl).1; omega
          · intro b' off' hb' _; cases hb'; have := (H4.out.lt g4 rfl).1; omega
          · intro q hq _ b' off' hb' _; cases hb'; have := (H4.out.lt g4 rfl).1; omega
        · simp [results, Tryd.results31, go_sem, d0d, d1d, d2d]
    · obtain ⟨rfl, rfl, rfl⟩ : n = 0 ∧ a = none ∧ c = 0 := by rcases HN.out with h | h; exact h; omega
      have hap : ∀ W, (Builtin.append_ #[35, 35] 35 #[.slice none 0 0, .slice none 0 0]).run Tryd.prog W = .ok (.slice none 0 0) W := fun _ => by kernel_rfl
      have A2 := Lib.hid hS0.out.drew
      have y1 : IntKind.i64.wrap (7 * k) = 7 * k := IntWalk.i64_in _ (by omega)
      have y2 : IntKind.i64.wrap (f + 7 * k) = f + 7 * k := IntWalk.i64_in _ (by omega)
      go_wp2_with fail
      go_region_law (first
          | (refine step_append_lies _ (by rfl) _ _ _ (by rfl) (w.heap.size + 2) 3 i0 _ 1 8 Tryd.underlying35 HI0.out HZ0.out HZ1.out HZ2.out rfl (by omega) (.slice none 0 0) 0 [] (by rfl) (World.ownsRow_nil _ _ _ _)
              ⟨w3.heap.size, 0, none⟩ 1 1 [.int .i64 (f + 7 * k - q3)] (by rfl) (by rfl) (cell_one_new _ _ _) (by simp [Value.oneCell']) (by omega) (by unfold maxLen; omega) (by omega) (by simp; omega) (w3.heap.size + 1) (by simp) ?_; intro g4 cap4 w4 hown4 hgrow4 hat4 hlt4; have A4 := Lib.hid ((A3.out.alloc hp _).grown hp hgrow4 (fun q hq => by cases hq)); obtain ⟨⟨v4, hv4⟩, c0d, c1d⟩ := A4.out; obtain ⟨⟨_, _, c2d⟩, _, _, g2d⟩ := cells3_of hv4.h3; obtain ⟨⟨d0d, d1d, d2d⟩, e0d, e1d, e2d⟩ := cells3_of hv4.h2; have z4 : w.heap.size + 1 < w4.heap.size := lt_of_heap hv4.h2; have HV4 := Lib.hid hv4; have H4 := Lib.hid hown4; clear hv4 hown4 hgrow4 hat4 hlt4)
          | (go_simp; go_at_call 32; refine (next_any p 3 _ (by omega) (by omega) A2.out.dice).mono ?_; rintro e w3 ⟨q3, q30, q31, rfl, hd3, hb3⟩; have A3 := Lib.hid (A2.out.next hp hd3 hb3); obtain ⟨_, c0c, c1c⟩ := A3.out; have z3 : w.heap.size + 1 < w3.heap.size := A3.out.1.elim (fun _ h => lt_of_heap h.h2); have y3 : IntKind.i64.wrap (f + 7 * k - q3) = f + 7 * k - q3 := IntWalk.i64_in _ (by omega); clear hd3))
      all_goals
        go_wp2_with fail
        refine bodyPost_ret (v := .agg #[.int .i64 f, .int .i64 k, .slice (some ⟨g4, 0, none⟩) (0 + 1) cap4]) ?_ rfl ?_
        rotate_left
        · refine odd_fin (hs := [f + 7 * k - q3]) hp (by omega) (by omega) (HV4.out.set hp 2 _ f k _ rfl) ?_ ?_ _ _ ?_
          · refine IntsAt.setOther ?_ _ _ _ ?_
            · exact IntsAt.of_owns' (base := w.heap.size + 2) (e := 3) (n := 0 + 1) (c := cap4) (L := [f + 7 * k - q3]) H4.out
            · intro b' off' hb' _; cases hb'; have := (H4.out.lt g4 rfl).1; omega
          · intro b' off' hb' _; cases hb'; have := (H4.out.lt g4 rfl).1; omega
          · intro q hq _ b' off' hb' _; cases hb'; have := (H4.out.lt g4 rfl).1; omega
        · simp [results, Tryd.results31, go_sem, d0d, d1d, d2d]
  · have z1 : w.heap.size < w1.heap.size := by omega
    have fin : OddPost p a n w (.returned (.agg #[.int .i64 f, .int .i64 k, .slice (some ⟨w1.heap.size, 0, none⟩) 2 2]))
        (((((w1.setCell ⟨w.heap.size, 2, none⟩ (.slice (some ⟨w1.heap.size, 0, none⟩) 2 2)).setCell ⟨w.heap.size + 1, 0, none⟩ (.int .i64 f)).setCell ⟨w.heap.size + 1, 1, none⟩ (.int .i64 k)).setCell ⟨w.heap.size + 1, 2, none⟩ (.slice (some ⟨w1.heap.size, 0, none⟩) 2 2)).alloc (.cells #[.int .i64 f, .int .i64 f] 3)) := by
      have e : (((((w1.alloc (.cells #[.int .i64 f, .int .i64 f] 3)).setCell ⟨w.heap.size, 2, none⟩ (.slice (some ⟨w1.heap.size, 0, none⟩) 2 2)).setCell ⟨w.heap.size + 1, 0, none⟩ (.int .i64 f)).setCell ⟨w.heap.size + 1, 1, none⟩ (.int .i64 k)).setCell ⟨w.heap.size + 1, 2, none⟩ (.slice (some ⟨w1.heap.size, 0, none⟩) 2 2)) =
          (((((w1.setCell ⟨w.heap.size, 2, none⟩ (.slice (some ⟨w1.heap.size, 0, none⟩) 2 2)).setCell ⟨w.heap.size + 1, 0, none⟩ (.int .i64 f)).setCell ⟨w.heap.size + 1, 1, none⟩ (.int .i64 k)).setCell ⟨w.heap.size + 1, 2, none⟩ (.slice (some ⟨w1.heap.size, 0, none⟩) 2 2)).alloc (.cells #[.int .i64 f, .int .i64 f] 3)) := by
        rw [World.setCell_alloc_past _ _ _ _ z1, World.setCell_alloc_past _ _ _ _ (by simpa using z0), World.setCell_alloc_past _ _ _ _ (by simpa using z0), World.setCell_alloc_past _ _ _ _ (by simpa using z0)]
      rw [← e]
      refine odd_fin (hs := [f, f]) (n := 2) hp (by omega) (by omega) ((HW1.out.alloc hp _).set hp 2 _ f k _ rfl) ⟨rfl, (by decide : (2 : Nat) ≤ 9223372036854775807), Or.inr ⟨w1.heap.size, 0, rfl, fun i hi => ?_⟩⟩ (fun b off ha _ => by cases ha; omega) a n (fun q hq _ b off ha _ => by cases ha; omega)
      rw [World.cell?_setCell_other _ _ _ _ (by intro e; have := congrArg Addr.block e; simp at this; omega), World.cell?_alloc_at _ _ _ _ rfl]
      match i, hi with
      | 0, _ => rfl
      | 1, _ => rfl
    have FIN := Lib.hid fin
    clear fin
    go_wp2_with fail
    refine bodyPost_ret (v := .agg #[.int .i64 f, .int .i64 k, .slice (some ⟨w1.heap.size, 0, none⟩) 2 2]) ?_ rfl FIN.out
    simp [results, Tryd.results31, go_sem, d0, d1, d2, z0]
end Go.Proofs.YtgdgpniceaknbaaDoor
