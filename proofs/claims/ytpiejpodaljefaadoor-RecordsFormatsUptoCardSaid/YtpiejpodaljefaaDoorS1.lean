import Derived.Test.YtpiejpodaljefaaDoorR7
namespace Go.Proofs.YtpiejpodaljefaaDoor
open Go.RowKit

/-- the reference's reader -/
def RrAt (w : World) (p : Nat) (s : ByteArray) (i l b : Nat) : Prop :=
  w.heap[p]? = some (.cells #[.string s, .int .i64 i, .int .i64 l, .int .i64 b] 90 (0, 0)) ∧ s.size ≤ 65536 ∧ i ≤ s.size ∧ b ≤ i ∧ l ≤ 1 + i
theorem RrAt.below {w w' : World} {p : Nat} {s : ByteArray} {i l b : Nat} (h : RrAt w p s i l b) (hb : Below w.heap.size w w') : RrAt w' p s i l b :=
  ⟨(hb.block p (lt_of_heap h.1)).trans h.1, h.2⟩
theorem RrAt.but {w w' : World} {p f : Nat} {s : ByteArray} {i l b : Nat} (h : RrAt w p s i l b) (hb : But f w w') (hne : p ≠ f) : RrAt w' p s i l b := ⟨(hb.block p (lt_of_heap h.1) hne).trans h.1, h.2⟩
theorem RrAt.cells {w : World} {p : Nat} {s : ByteArray} {i l b : Nat} (h : RrAt w p s i l b) :
    (w.cell? ⟨p, 0, none⟩ = some (.string s) ∧ w.cell? ⟨p, 1, none⟩ = some (.int .i64 i) ∧ w.cell? ⟨p, 2, none⟩ = some (.int .i64 l) ∧ w.cell? ⟨p, 3, none⟩ = some (.int .i64 b)) ∧
    w.frozen? ⟨p, 1, none⟩ = false ∧ w.frozen? ⟨p, 2, none⟩ = false ∧ w.frozen? ⟨p, 3, none⟩ = false := by
  have h1 := h.1
  refine ⟨⟨?_, ?_, ?_, ?_⟩, ?_, ?_, ?_⟩ <;> simp [World.cell?, World.frozen?, h1]
theorem RrAt.set1 {w : World} {p : Nat} {s : ByteArray} {i l b : Nat} (h : RrAt w p s i l b) (j : Nat) (h1 : i ≤ j) (h2 : j ≤ s.size) : RrAt (w.setCell ⟨p, 1, none⟩ (.int .i64 j)) p s j l b := by
  refine ⟨by rw [heap_set _ _ _ _ _ _ h.1]; rfl, h.2.1, h2, ?_, ?_⟩
  · have := h.2.2.2.1; omega
  · have := h.2.2.2.2; omega

theorem retq2 {v v' : Value} {w : World} {a b : Nat} (h : v = v') : RetQ v' w (.returned v) ((w.drewN a).drewN b) := ⟨by rw [h], a + b, World.drewN_drewN ..⟩
theorem retq3 {v v' : Value} {w : World} {a b c : Nat} (h : v = v') : RetQ v' w (.returned v) (((w.drewN a).drewN b).drewN c) := ⟨by rw [h], a + b + c, by rw [World.drewN_drewN, World.drewN_drewN, Nat.add_assoc]⟩
theorem rcolumn_q (p : Nat) (s : ByteArray) (i l b : Nat) (w : World) (hR : RrAt w p s i l b) :
    Calls Tryd.prog 58 #[.pointer (some ⟨p, 0, none⟩)] w (RetQ (.int .i64 ((i : Int) - (b : Int) + 1)) w) := by
  obtain ⟨⟨c0, c1, c2, c3⟩, f1, f2, f3⟩ := hR.cells
  obtain ⟨_, hs, hi, hb, hl⟩ := hR
  go_enter Tryd.func58, Tryd.ntmps58
  go_wp2
  go_quiet (fail)
  go_wp2
  go_ret
  exact ⟨rfl, _, rfl⟩

set_option maxHeartbeats 2000000 in
theorem rended_q (p : Nat) (s : ByteArray) (i l b : Nat) (w : World) (hR : RrAt w p s i l b) :
    Calls Tryd.prog 44 #[.pointer (some ⟨p, 0, none⟩)] w (RetQ (.bool (endL (s.data.toList.drop i))) w) := by
  obtain ⟨⟨c0, c1, c2, c3⟩, f1, f2, f3⟩ := hR.cells
  obtain ⟨_, hs, hi, hb, hl⟩ := hR
  by_cases hlt : i < s.size
  · have hd := drop_at s i hlt
    have y1 : IntKind.i64.wrap ((i : Int) + 1) = (i : Int) + 1 := IntWalk.i64_in _ (by omega)
    have y2 : (0 : Int) ≤ (i : Int) + 1 := by omega
    have y3 : ((i : Int) + 1).toNat = i + 1 := by omega
    have n0 : ((s.size : Int) - (i : Int) == 0) = false := by simp; omega
    have e10 : (s[i] == 10) = ((s[i].toNat : Int) == 10) := (beq_cast s[i] 10 (by decide)).symm
    have e13 : (s[i] == 13) = ((s[i].toNat : Int) == 13) := (beq_cast s[i] 13 (by decide)).symm
    have EE := Lib.hid (And.intro e10 e13)
    have HD := Lib.hid hd
    clear hd e10 e13
    cases h10 : ((s[i].toNat : Int) == 10)
    · cases h13 : ((s[i].toNat : Int) == 13)
      · have E : Hid (endL (s.data.toList.drop i) = false) := Lib.hid (by
          rw [HD.out]
          cases s.data.toList.drop (i + 1) <;> simp only [endL, EE.out.1, EE.out.2, h10, h13] <;> rfl)
        go_enter Tryd.func44, Tryd.ntmps44
        go_wp2_with fail
        go_quiet (fail)
        go_wp2_with fail
        go_quiet (fail)
        go_wp2_with fail
        go_quiet (fail)
        go_wp2_with fail
        go_ret
        exact retq3 (by rw [E.out]; rfl)
      · by_cases h1 : i + 1 < s.size
        · have n1 : ((s.size : Int) - (i : Int) == 1) = false := by simp; omega
          have y4 : (i : Int) + 1 < (s.size : Int) := by omega
          have hd2 := drop_at s (i + 1) h1
          have e10 : (s[i + 1] == 10) = ((s[i + 1].toNat : Int) == 10) := (beq_cast s[i + 1] 10 (by decide)).symm
          cases hx : ((s[i + 1].toNat : Int) == 10)
          · have E : Hid (endL (s.data.toList.drop i) = false) := Lib.hid (by
              rw [HD.out, hd2]
              simp only [endL, EE.out.1, EE.out.2, h10, h13, e10, hx]
              rfl)
            clear hd2 e10
            go_enter Tryd.func44, Tryd.ntmps44
            go_wp2_with fail
            go_quiet (fail)
            go_wp2_with fail
            go_quiet (fail)
            go_wp2_with fail
            go_quiet (fail)
            go_wp2_with fail
            go_ret
            exact retq3 (by rw [E.out]; rfl)
          · have E : Hid (endL (s.data.toList.drop i) = true) := Lib.hid (by
              rw [HD.out, hd2]
              simp only [endL, EE.out.1, EE.out.2, h10, h13, e10, hx]
              rfl)
            clear hd2 e10
            go_enter Tryd.func44, Tryd.ntmps44
            go_wp2_with fail
            go_quiet (fail)
            go_wp2_with fail
            go_quiet (fail)
            go_wp2_with fail
            go_quiet (fail)
            go_wp2_with fail
            go_ret
            exact retq3 (by rw [E.out]; rfl)
        · have n1 : ((s.size : Int) - (i : Int) == 1) = true := by simp; omega
          have E : Hid (endL (s.data.toList.drop i) = true) := Lib.hid (by
            rw [HD.out, drop_end s (i + 1) (by omega)]
            simp only [endL, EE.out.1, EE.out.2, h10, h13]
            rfl)
          go_enter Tryd.func44, Tryd.ntmps44
          go_wp2_with fail
          go_quiet (fail)
          go_wp2_with fail
          go_quiet (fail)
          go_wp2_with fail
          go_quiet (fail)
          go_wp2_with fail
          go_ret
          exact retq3 (by rw [E.out]; rfl)
    · have E : Hid (endL (s.data.toList.drop i) = true) := Lib.hid (by
        rw [HD.out]
        cases s.data.toList.drop (i + 1) <;> simp only [endL, EE.out.1, EE.out.2, h10] <;> rfl)
      go_enter Tryd.func44, Tryd.ntmps44
      go_wp2_with fail
      go_quiet (fail)
      go_wp2_with fail
      go_quiet (fail)
      go_wp2_with fail
      go_ret
      exact retq2 (by rw [E.out]; rfl)
  · have n0 : ((s.size : Int) - (i : Int) == 0) = true := by simp; omega
    have E : Hid (endL (s.data.toList.drop i) = true) := Lib.hid (by rw [drop_end s i (by omega)]; rfl)
    go_enter Tryd.func44, Tryd.ntmps44
    go_wp2_with fail
    go_quiet (fail)
    go_wp2_with fail
    go_quiet (fail)
    go_wp2_with fail
    go_ret
    exact retq2 (by rw [E.out]; rfl)

/-- a reader of the reference has moved behind the line -/
def RSkipped (p : Nat) (s : ByteArray) (i l : Nat) (w : World) (e : Ending) (w' : World) : Prop :=
  e = .returned (.tuple #[]) ∧ (∃ j : Nat, w'.heap[p]? = some (.cells #[.string s, .int .i64 j, .int .i64 (l + 1 : Nat), .int .i64 j] 90 (0, 0)) ∧ j ≤ s.size ∧ (j < s.size → RrAt w' p s j (l + 1) j) ∧ s.data.toList.drop j = skipL (s.data.toList.drop i) ∧ i ≤ j ∧ (i < s.size → i < j)) ∧ But p w w'
end Go.Proofs.YtpiejpodaljefaaDoor
