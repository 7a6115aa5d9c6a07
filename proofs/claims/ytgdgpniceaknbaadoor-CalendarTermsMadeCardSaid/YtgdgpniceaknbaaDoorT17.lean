import Derived.Test.YtgdgpniceaknbaaDoorT16
import Derived.RangeFuncBox
namespace Go.Proofs.YtgdgpniceaknbaaDoor
open Go.RowKit TT

theorem light_any (a : Option Addr) (n c : Nat) (w : World) :
    Calls Tryd.prog 27 #[.slice a n c] w fun e w' => e = .returned (.bool (decide (n ≤ 400))) ∧ w = w' := by
  go_enter Tryd.func27, Tryd.ntmps27
  go_wp2
  go_ret
  exact ⟨ret_bool (by simp; omega), rfl⟩
theorem roll_any (a : Option Addr) (n c : Nat) (w : World) :
    Calls Tryd.prog 28 #[.slice a n c] w fun e w' => e = .returned (.pointer (some ⟨w.heap.size, 0, none⟩)) ∧ w' = w.alloc (.cells #[.slice a n c, .int .i64 0] 57) := by
  go_enter Tryd.func28, Tryd.ntmps28
  go_wp2
  go_ret
  exact ⟨rfl, rfl⟩
def One (p : Nat) (w : World) (e : Ending) (w' : World) : Prop := ∃ b : Bool, e = .returned (.bool b) ∧ DiceAt w' p ∧ But p w w'
theorem one_any (p : Nat) (m : Int) (w : World) (hm : 1 ≤ m) (hm2 : m ≤ 1000000000000) (hD : DiceAt w p) :
    Calls Tryd.prog 30 #[.pointer (some ⟨p, 0, none⟩), .int .i64 m] w (One p w) := by
  have HD := Lib.hid hD
  clear hD
  go_enter Tryd.func30, Tryd.ntmps30
  go_wp2_with (go_at_call 32; refine (next_any p m _ hm hm2 HD.out).mono ?_; rintro e w1 ⟨r, r0, r1, rfl, hd, hb⟩)
  go_ret
  exact ⟨_, rfl, hd, hb⟩

theorem ownsRow_but {p : Nat} {w w' : World} {base : Nat} {e : TypeId} {size : Nat} {v : Value} {n : Nat} {xs : List Value} (h : w.ownsRow base e size v n xs) (hb : But p w w') (hp : p < base) : w'.ownsRow base e size v n xs := by
  obtain ⟨h1, h2⟩ := id h
  refine ⟨h1, ?_⟩
  rcases h2 with h2 | ⟨g, cap, cur, hv, hg, hh, r⟩
  · exact Or.inl h2
  · have hlt := h.lt g (by rw [hv]; rfl)
    exact Or.inr ⟨g, cap, cur, hv, hg, by rw [hb.block g hlt.2 (by omega)]; exact hh, r⟩

/-- a term being made: its box b3, the result's box b2 -/
structure TermW (w wr : World) (p b3 : Nat) (f k : Int) (v : Value) (hs : List Int) : Prop where
  h3 : wr.heap[b3]? = some (.cells #[.int .i64 f, .int .i64 k, v] 37 (0, 0))
  h2 : wr.heap[w.heap.size]? = some (.cells #[.int .i64 0, .int .i64 0, .slice none 0 0] 37 (0, 0))
  own : wr.ownsRow (b3 + 1) 3 1 v hs.length (hs.map (Value.int .i64))
  dice : DiceAt wr p
  but : But p w wr
  lt : w.heap.size < b3

theorem TermW.but_next {w wr w2 : World} {p b3 : Nat} {f k : Int} {v : Value} {hs : List Int} (h : TermW w wr p b3 f k v hs) (hp : p < w.heap.size) (hd : DiceAt w2 p) (hb : But p wr w2) : TermW w w2 p b3 f k v hs :=
  ⟨(hb.block b3 (lt_of_heap h.h3) (by have := h.lt; omega)).trans h.h3, (hb.block _ (lt_of_heap h.h2) (by omega)).trans h.h2, ownsRow_but h.own hb (by have := h.lt; omega), hd, h.but.trans hb, h.lt⟩

theorem cells3_of {w : World} {b : Nat} {x0 x1 x2 : Value} {T : TypeId} (h : w.heap[b]? = some (.cells #[x0, x1, x2] T (0, 0))) :
    (w.cell? ⟨b, 0, none⟩ = some x0 ∧ w.cell? ⟨b, 1, none⟩ = some x1 ∧ w.cell? ⟨b, 2, none⟩ = some x2) ∧ w.frozen? ⟨b, 0, none⟩ = false ∧ w.frozen? ⟨b, 1, none⟩ = false ∧ w.frozen? ⟨b, 2, none⟩ = false := by
  simp [World.cell?, World.frozen?, h]

def MadeTerm (p : Nat) (w : World) (e : Ending) (w' : World) : Prop :=
  ∃ (f k : Int) (hs : List Int) (a : Option Addr) (c : Nat), e = .returned (.agg #[.int .i64 f, .int .i64 k, .slice a hs.length c]) ∧ termE f k hs = 0 ∧ List.Pairwise (· < ·) hs ∧ (∀ h ∈ hs, f ≤ h ∧ h ≤ lastD f k) ∧ k ≤ 8 ∧ f ≤ 36000 ∧ hs.length ≤ 5 ∧ (hs = [] → a = none ∧ c = 0) ∧ (∀ b off, a = some ⟨b, off, none⟩ → 0 < hs.length → b ≠ p) ∧ IntsAt w' a hs.length hs ∧ DiceAt w' p ∧ But p w w'

theorem DiceAt.same {w w' : World} {p : Nat} (h : DiceAt w p) (hs : ∀ k, k ≤ p → w'.heap[k]? = w.heap[k]?) : DiceAt w' p := by
  obtain ⟨a, n, c, i, L, T, hp, hi, hl, hn, hc, hL⟩ := h
  refine ⟨a, n, c, i, L, T, (hs p (Nat.le_refl _)).trans hp, hi, hl, hn, ?_, hL⟩
  rcases hc with h0 | ⟨b, off, ha, hbp, hcc⟩
  · exact Or.inl h0
  · exact Or.inr ⟨b, off, ha, hbp, fun j hj => by rw [World.cell?_of_block (w := w) (a := ⟨b, off + j, none⟩) (hs b (by omega))]; exact hcc j hj⟩
theorem IntsAt.of_owns' {w : World} {base : Nat} {e : TypeId} {a : Option Addr} {n c : Nat} {L : List Int} (h : w.ownsRow base e 1 (.slice a n c) L.length (L.map (Value.int .i64))) : IntsAt w a L.length L := by
  obtain ⟨a', cap, e, hi⟩ := IntsAt.of_owns h
  cases e; exact hi

theorem made_fin {w wX : World} {p b3 : Nat} {r k : Int} {a : Option Addr} {c : Nat} {hs : List Int} (r0 : 0 ≤ r) (r1 : r < 5000) (k0 : 0 ≤ k) (k1 : k < 8) (hlen : hs.length ≤ 5) (hnl : hs = [] → a = none ∧ c = 0) (hp : p < w.heap.size)
    (hok : okHol (2 + 7 * r) (lastD (2 + 7 * r) (1 + k)) hs) (hW : TermW w wX p b3 (2 + 7 * r) (1 + k) (.slice a hs.length c) hs) :
    MadeTerm p w (.returned (.agg #[.int .i64 (2 + 7 * r), .int .i64 (1 + k), .slice a hs.length c]))
      (((wX.setCell ⟨w.heap.size, 0, none⟩ (.int .i64 (2 + 7 * r))).setCell ⟨w.heap.size, 1, none⟩ (.int .i64 (1 + k))).setCell ⟨w.heap.size, 2, none⟩ (.slice a hs.length c)) := by
  have hlt := hW.lt
  have hblk : ∀ q, q ≠ w.heap.size → (((wX.setCell ⟨w.heap.size, 0, none⟩ (.int .i64 (2 + 7 * r))).setCell ⟨w.heap.size, 1, none⟩ (.int .i64 (1 + k))).setCell ⟨w.heap.size, 2, none⟩ (.slice a hs.length c)).heap[q]? = wX.heap[q]? := fun q hq => by
    rw [heap_setCell_other _ _ _ _ hq, heap_setCell_other _ _ _ _ hq, heap_setCell_other _ _ _ _ hq]
  refine ⟨2 + 7 * r, 1 + k, hs, a, c, rfl, termE_made r0 r1 (by omega) (by omega) hlen hok, hok.1, hok.2, by omega, by omega, hlen, hnl, (fun b off ha _ => by have := (hW.own.lt b (by rw [ha]; rfl)).1; omega), ?_, hW.dice.same (fun q hq => hblk q (by omega)), ?_⟩
  · refine IntsAt.of_owns' (base := b3 + 1) (e := 3) (n := hs.length) (c := c) ?_
    exact ownsRow_setCell_below (ownsRow_setCell_below (ownsRow_setCell_below hW.own (by show w.heap.size < b3 + 1; omega) _) (by show w.heap.size < b3 + 1; omega) _) (by show w.heap.size < b3 + 1; omega) _
  · refine ⟨hW.but.os, hW.but.tape, hW.but.output, by simpa using hW.but.size, fun q hq hqp => ?_⟩
    rw [hblk q (by omega)]; exact hW.but.block q hq hqp

theorem TermW.grow {w w4 w5 : World} {p b3 g cap : Nat} {f k x : Int} {v : Value} {hs : List Int} {o : Obj} (h : TermW w w4 p b3 f k v hs) (hp : p < w.heap.size)
    (hown' : w5.ownsRow (b3 + 1) 3 1 (.slice (some ⟨g, 0, none⟩) (hs.length + 1) cap) (hs.length + 1) (hs.map (Value.int .i64) ++ [.int .i64 x])) (hgrow : (w4.alloc o).grownBy w5 v.ownBlock) :
    w5.heap[b3]? = some (.cells #[.int .i64 f, .int .i64 k, v] 37 (0, 0)) ∧
    TermW w (w5.setCell ⟨b3, 2, none⟩ (.slice (some ⟨g, 0, none⟩) (hs.length + 1) cap)) p b3 f k (.slice (some ⟨g, 0, none⟩) (hs ++ [x]).length cap) (hs ++ [x]) := by
  have hlt := h.lt
  have hb3 := lt_of_heap h.h3
  have hne : ∀ q, q ≤ b3 → some q ≠ v.ownBlock := fun q hq e => by have := h.own.lt q e.symm; omega
  have hblk : ∀ q, q ≤ b3 → w5.heap[q]? = w4.heap[q]? := fun q hq => by
    rw [hgrow.block q (by simp; omega) (hne q hq), Below.heap_alloc _ _ _ (by omega)]
  have hblk' : ∀ q, q ≤ b3 → q ≠ b3 → (w5.setCell ⟨b3, 2, none⟩ (.slice (some ⟨g, 0, none⟩) (hs.length + 1) cap)).heap[q]? = w4.heap[q]? := fun q hq hn => by
    rw [heap_setCell_other _ _ _ _ hn, hblk q hq]
  refine ⟨(hblk b3 (Nat.le_refl _)).trans h.h3, ?_, ?_, ?_, h.dice.same (fun q hq => hblk' q (by omega) (by omega)), ?_, hlt⟩
  · rw [heap_setCell_same _ b3 2 _ _ _ ((hblk b3 (Nat.le_refl _)).trans h.h3)]
    simp
  · rw [hblk' _ (by omega) (by omega)]; exact h.h2
  · refine ownsRow_setCell_below ?_ (by show b3 < b3 + 1; omega) _
    simpa using hown'
  · have hz : w4.heap.size ≤ w5.heap.size := Nat.le_trans (by simp) hgrow.size
    have h1 : But p w4 (w4.alloc o) := But.of_below ((Below.refl _ _).alloc (Nat.le_refl _) o)
    refine ⟨hgrow.os.trans h.but.os, hgrow.tape.trans h.but.tape, hgrow.output.trans h.but.output, ?_, fun q hq hqp => ?_⟩
    · simp only [World.size_setCell]; exact Nat.le_trans h.but.size hz
    · rw [hblk' q (by omega) (by omega)]; exact h.but.block q hq hqp

set_option maxHeartbeats 2000000 in
theorem mterm_any (p : Nat) (w : World) (hD : DiceAt w p) : Calls Tryd.prog 29 #[.pointer (some ⟨p, 0, none⟩)] w (MadeTerm p w) := by
  have hp := hD.lt
  have HD := Lib.hid (hD.below ((Below.refl _ _).alloc (Nat.le_refl _) (.cells #[.int .i64 0, .int .i64 0, .slice none 0 0] 37)))
  clear hD
  obtain ⟨i0, hi, hz0, hz1, hz2⟩ := info_parts Tryd.info3
  have HI0 := Lib.hid hi; have HZ0 := Lib.hid hz0; have HZ1 := Lib.hid hz1; have HZ2 := Lib.hid hz2
  clear hi hz0 hz1 hz2
  go_enter Tryd.func29, Tryd.ntmps29
  go_wp2_with fail
  refine (next_any p 5000 _ (by omega) (by omega) HD.out).mono ?_
  rintro e w1 ⟨r, r0, r1, rfl, hd1, hb1⟩
  go_wp2_with fail
  refine (next_any p 8 _ (by omega) (by omega) hd1).mono ?_
  rintro e w2 ⟨k, k0, k1, rfl, hd2, hb2⟩
  go_wp2_with fail
  have hT : TermW w (w2.alloc (.cells #[.int .i64 (2 + 7 * r), .int .i64 (1 + k), .slice none 0 0] 37)) p w2.heap.size (2 + 7 * r) (1 + k) (.slice none ([] : List Int).length 0) [] := by
    have z1 := hb1.size
    have z2 := hb2.size
    simp only [World.size_alloc] at z1
    refine ⟨?_, ?_, World.ownsRow_nil _ _ _ _, hd2.below ((Below.refl _ _).alloc (Nat.le_refl _) _), ?_, by omega⟩
    · show (w2.heap.push _)[w2.heap.size]? = _
      simp
    · rw [Below.heap_alloc _ _ _ (by omega), hb2.block _ (by omega) (by omega), hb1.block _ (by simp) (by omega)]
      show (w.heap.push _)[w.heap.size]? = _
      simp
    · exact (((But.of_below ((Below.refl _ _).alloc (Nat.le_refl _) _)).trans hb1).trans hb2).trans (But.of_below ((Below.refl _ _).alloc (Nat.le_refl _) _))
  refine (next_any p 5 _ (by omega) (by omega) hT.dice).mono ?_
  rintro e w3 ⟨j0, j00, j01, rfl, hd3, hb3⟩
  have hT3 := Lib.hid (hT.but_next hp hd3 hb3)
  clear hT hd3 hb3 hd2 hb2 hd1 hb1
  generalize w2.heap.size = b3 at *
  obtain ⟨j0, rfl⟩ := Int.eq_ofNat_of_zero_le j00
  go_wp2_with fail
  go_loopw [4, 5] (fun day q wr => ∃ (hs : List Int) (a : Option Addr) (c j : Nat) (dy : Int), q = .int .i64 j ∧ hs.length + j ≤ 5 ∧ Hid (hs = [] → a = none ∧ c = 0) ∧ day = .int .i64 dy ∧ 2 + 7 * r ≤ dy ∧ dy ≤ 2 + 7 * r + 7 * (1 + k) ∧ okHol (2 + 7 * r) (lastD (2 + 7 * r) (1 + k)) hs ∧ Hid (∀ x ∈ hs, x < dy) ∧ TermW w wr p b3 (2 + 7 * r) (1 + k) (.slice a hs.length c) hs) (fun _ q _ => (intOf q).toNat)
  case atStart => exact ⟨[], none, 0, j0, _, rfl, by simp; omega, Lib.hid (fun _ => ⟨rfl, rfl⟩), rfl, by omega, by omega, okHol_nil _ _, Lib.hid (fun x hx => by cases hx), hT3.out⟩
  case round =>
    obtain ⟨hs, a, c, j, dy, rfl, hlen, hnl, rfl, y1, y2, hok, hlt, hW⟩ := hrel
    have HOK := Lib.hid hok
    have HW := Lib.hid hW
    have e3 := hW.h3
    have c0 : wr.cell? ⟨b3, 0, none⟩ = some (.int .i64 (2 + 7 * r)) := by simp [World.cell?, e3]
    have c1 : wr.cell? ⟨b3, 1, none⟩ = some (.int .i64 (1 + k)) := by simp [World.cell?, e3]
    have c2 : wr.cell? ⟨b3, 2, none⟩ = some (.slice a hs.length c) := by simp [World.cell?, e3]
    clear hok hW e3
    by_cases hj : 0 < j
    · go_wp2_with fail
      refine (next_any p 20 _ (by omega) (by omega) HW.out.dice).mono ?_
      rintro e w4 ⟨x, x0, x1, rfl, hd4, hb4⟩
      have hW4 := HW.out.but_next hp hd4 hb4
      have HW4 := Lib.hid hW4
      have e3 := hW4.h3
      have c0' : w4.cell? ⟨b3, 0, none⟩ = some (.int .i64 (2 + 7 * r)) := by simp [World.cell?, e3]
      have c1' : w4.cell? ⟨b3, 1, none⟩ = some (.int .i64 (1 + k)) := by simp [World.cell?, e3]
      have c2' : w4.cell? ⟨b3, 2, none⟩ = some (.slice a hs.length c) := by simp [World.cell?, e3]
      clear hW4 e3 hd4 hb4 c0 c1 c2
      by_cases hbr : 2 + 7 * r + 7 * (1 + k) ≤ dy + x
      · obtain ⟨⟨d0, d1, d2⟩, g0, g1, g2⟩ := cells3_of HW4.out.h2
        go_wp2_with fail
        refine bodyPost_ret (v := .agg #[.int .i64 (2 + 7 * r), .int .i64 (1 + k), .slice a hs.length c]) ?_ rfl (made_fin r0 r1 k0 k1 (by omega) hnl.out hp HOK.out HW4.out)
        have hne : w.heap.size < w4.heap.size := lt_of_heap HW4.out.h2
        simp [results, Tryd.results29, go_sem, d0, d1, d2]
      · have y3 : dy + x ≤ lastD (2 + 7 * r) (1 + k) := by unfold lastD; omega
        have hnx : Hid (okHol (2 + 7 * r) (lastD (2 + 7 * r) (1 + k)) (hs ++ [dy + x])) := Lib.hid (okHol_snoc HOK.out (by omega) y3 (fun q hq => by have := hlt.out q hq; omega))
        have hlx : Hid (∀ q ∈ hs ++ [dy + x], q < dy + x + 1) := Lib.hid (fun q hq => by
          rcases List.mem_append.1 hq with hq | hq
          · have := hlt.out q hq; omega
          · simp at hq; omega)
        clear y3
        go_wp2_with (at_builtin; refine wpList_append_own _ rfl _ _ 35 rfl (b3 + 1) 3 i0 (.int .i64 0) 1 8 Tryd.underlying35 HI0.out HZ0.out HZ1.out HZ2.out rfl (by decide) _ _ _ rfl (HW4.out.own.alloc _) ⟨w4.heap.size, 0, none⟩ 1 1 [.int .i64 (dy + x)] rfl rfl ?c1 ?c2 ?c3 ?c4 ?c5 ?_)
        case c1 =>
          intro j u hj
          match j, hj with
          | 0, hj => simp at hj; subst hj; simp [Addr.add]
        case c2 => intro u hu; simp at hu; subst hu; rfl
        case c3 => unfold maxLen; omega
        case c4 => omega
        case c5 => have := lt_of_heap HW4.out.h3; simp; omega
        intro v' w5 hown' hgrow _
        obtain ⟨g, cap, hv⟩ := ownsRow_succ hown'
        subst hv
        obtain ⟨h5, hT5⟩ := HW4.out.grow hp hown' hgrow
        obtain ⟨⟨d0, d1, d2⟩, g0, g1, g2⟩ := cells3_of h5
        have HT5 := Lib.hid hT5
        clear hown' hgrow hT5 h5 c0' c1' c2'
        go_wp2_with fail
        go_roundw
        case rel => exact ⟨hs ++ [dy + x], some ⟨g, 0, none⟩, cap, j - 1, dy + x + 1, by rw [show ((j - 1 : Nat) : Int) = (j : Int) - 1 by omega], by simp; omega, Lib.hid (fun h => by simp at h), by go_num, by omega, by omega, hnx.out, hlx, HT5.out⟩
        case measure => simp [intOf]; omega
    · obtain rfl : j = 0 := by omega
      obtain ⟨⟨d0, d1, d2⟩, g0, g1, g2⟩ := cells3_of HW.out.h2
      go_wp2_with fail
      refine bodyPost_ret (v := .agg #[.int .i64 (2 + 7 * r), .int .i64 (1 + k), .slice a hs.length c]) ?_ rfl (made_fin r0 r1 k0 k1 (by omega) hnl.out hp HOK.out HW.out)
      have hne : w.heap.size < wr.heap.size := lt_of_heap HW.out.h2
      simp [results, Tryd.results29, go_sem, d0, d1, d2]
end Go.Proofs.YtgdgpniceaknbaaDoor
