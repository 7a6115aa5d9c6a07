/- Series: a list of days, made by dice. -/
import Derived.Test.YtibigbfkokendaaDoorR6
import Derived.Test.YtibigbfkokendaaDoorDice
namespace Go.Proofs.YtibigbfkokendaaDoor
open Go.RowKit TT

theorem app1_c1 (w : World) (x : Int) (t : TypeId) : ∀ (j : Nat) (u : Value), [Value.int .i64 x][j]? = some u → (w.alloc (.cells #[.int .i64 x] t)).cell? (Addr.add ⟨w.heap.size, 0, none⟩ j) = some u := by
  intro j u hj
  match j, hj with
  | 0, hj => simp at hj; subst hj; simp [Addr.add]
theorem app1_c2 (x : Int) : ∀ u ∈ [Value.int .i64 x], u.oneCell' = true := by
  intro u hu; simp at hu; subst hu; rfl
theorem But.grown {p : Nat} {w w1 w2 : World} (h : But p w w1) {row : Option Nat} (hg : w1.grownBy w2 row) (hr : ∀ g, row = some g → w.heap.size ≤ g) : But p w w2 :=
  ⟨hg.os.trans h.os, hg.tape.trans h.tape, hg.output.trans h.output, Nat.le_trans h.size hg.size, fun k hk hp => (hg.block k (Nat.lt_of_lt_of_le hk h.size) (fun e => by have := hr k e.symm; omega)).trans (h.block k hk hp)⟩

/-- the list in the making -/
structure MD (w wr : World) (p : Nat) (v : Value) (L : List Int) : Prop where
  dc : DiceAt wr p
  bt : But p w wr
  rw : Row wr w.heap.size v L
  hp : p < w.heap.size
theorem MD.next {w wr w2 : World} {p : Nat} {v : Value} {L : List Int} (h : MD w wr p v L) (hd : DiceAt w2 p) (hb : But p wr w2) : MD w w2 p v L :=
  ⟨hd, h.bt.trans hb, row_but h.rw hb h.hp, h.hp⟩
theorem MD.below {w wr w2 : World} {p : Nat} {v : Value} {L : List Int} (h : MD w wr p v L) (hb : Below wr.heap.size wr w2) : MD w w2 p v L :=
  h.next (h.dc.below hb) (But.of_below hb)
theorem MD.app {w wr w2 : World} {p : Nat} {v v' : Value} {L : List Int} {x : Int} (h : MD w wr p v L) {row : Option Nat} (hg : wr.grownBy w2 row) (hr : ∀ g, row = some g → w.heap.size ≤ g) (hn : w2.ownsRow w.heap.size 3 1 v' (L.length + 1) (L.map (Value.int .i64) ++ [.int .i64 x])) : MD w w2 p v' (L ++ [x]) :=
  ⟨h.dc.same (fun k hk => hg.block k (Nat.lt_of_lt_of_le (by have := h.hp; omega) h.bt.size) (fun e => by have := hr k e.symm; have := h.hp; omega)), h.bt.grown hg hr, rowSnoc hn, h.hp⟩

/-- a list of days within so many days, one after the other -/
structure DL (f : Int) (n : Nat) (L : List Int) : Prop where
  inc : Inc L
  bd : ∀ x ∈ L, f ≤ x ∧ x < f + n
  len : L.length ≤ n
theorem DL.nil (f : Int) : DL f 0 [] := ⟨Inc.nil, by simp, by simp⟩
theorem DL.more {f : Int} {n : Nat} {L : List Int} (h : DL f n L) : DL f (n + 1) L := ⟨h.inc, fun x hx => by have := h.bd x hx; omega, by have := h.len; omega⟩
theorem DL.snoc {f : Int} {n : Nat} {L : List Int} (h : DL f n L) {x : Int} (hx : x = f + n) : DL f (n + 1) (L ++ [x]) := by
  subst hx
  refine ⟨inc_snoc h.inc (fun x hx => (h.bd x hx).2), fun y hy => ?_, by have := h.len; simp; omega⟩
  rw [List.mem_append] at hy
  rcases hy with hy | hy
  · have := h.bd y hy; omega
  · simp at hy; omega

/-- what the dice give: a list of days -/
def MadeD (p : Nat) (w : World) (en : Ending) (w' : World) : Prop := ∃ v f L, en = .returned v ∧ Row w' w.heap.size v L ∧ DL f 141 L ∧ 2 ≤ f ∧ f ≤ 30001 ∧ But p w w' ∧ DiceAt w' p

set_option maxRecDepth 100000 in
set_option maxHeartbeats 4000000 in
theorem mdays_any (p : Nat) (w : World) (hD : DiceAt w p) : Calls Tryd.prog 9 #[.pointer (some ⟨p, 0, none⟩)] w (MadeD p w) := by
  have h0 : MD w w p (.slice none 0 0) [] := ⟨hD, But.refl _ _, World.ownsRow_nil _ _ _ _, hD.lt⟩
  have H0 := Lib.hid h0
  clear h0 hD
  obtain ⟨i0, hi, hz0, hz1, hz2⟩ := info_parts Tryd.infoInt
  have HI0 := Lib.hid hi; have HZ0 := Lib.hid hz0; have HZ1 := Lib.hid hz1; have HZ2 := Lib.hid hz2
  clear hi hz0 hz1 hz2
  go_enter Tryd.func9, Tryd.ntmps9
  go_wp2_with fail
  refine (next_any p 30000 _ (by omega) (by omega) H0.out.dc).mono ?_
  rintro e w1 ⟨r1, a1, b1, rfl, hd, hb⟩
  have H1 := Lib.hid (H0.out.next hd hb)
  clear hd hb H0
  go_wp2_with fail
  refine (next_any p 4 _ (by omega) (by omega) H1.out.dc).mono ?_
  rintro e w2 ⟨r2, a2, b2, rfl, hd, hb⟩
  have H2 := Lib.hid (H1.out.next hd hb)
  clear hd hb H1
  go_wp2_with fail
  refine (next_any p 127 _ (by omega) (by omega) H2.out.dc).mono ?_
  rintro e w3 ⟨r3, a3, b3, rfl, hd, hb⟩
  have H3 := Lib.hid (H2.out.next hd hb)
  clear hd hb H2
  go_wp2_with fail
  refine (next_any p 141 _ (by omega) (by omega) H3.out.dc).mono ?_
  rintro e w4 ⟨r4, a4, b4, rfl, hd, hb⟩
  have H4 := Lib.hid (H3.out.next hd hb)
  clear hd hb H3
  obtain ⟨f, hf⟩ : ∃ f : Int, f = 2 + r1 := ⟨_, rfl⟩
  obtain ⟨e, he⟩ : ∃ e : Int, e = 1 + r2 := ⟨_, rfl⟩
  obtain ⟨k, hk⟩ : ∃ k : Int, k = 1 + r3 := ⟨_, rfl⟩
  rw [← hf, ← he, ← hk]
  have f1 : 2 ≤ f := by omega
  have f2 : f ≤ 30001 := by omega
  have e1 : 1 ≤ e := by omega
  have e2 : e ≤ 4 := by omega
  have k1 : 1 ≤ k := by omega
  have k2 : k ≤ 127 := by omega
  clear hf he hk a1 b1 a2 b2 a3 b3
  go_wp2_with fail
  go_loopw [5, 7] (fun v d wr => ∃ (j : Nat) (L : List Int), j ≤ r4 + 1 ∧ d = .int .i64 j ∧ Hid (MD w wr p v L) ∧ DL f j L) (fun _ d _ => (r4 + 1 - intOf d).toNat)
  case atStart => exact ⟨0, [], by omega, rfl, H4, DL.nil f⟩
  case round =>
    clear H4
    obtain ⟨j, L, hj, rfl, HM, HL⟩ := hrel
    have HL := Lib.hid HL
    by_cases hlt : (j : Int) ≤ r4
    · have HJ := Lib.hid hj
      have H9 := Lib.hid hlt
      clear hj
      go_wp2_with fail
      all_goals (
        refine (one_any p 12 _ (by omega) (by omega) HM.out.dc).mono ?_
        rintro en w5 ⟨bb, rfl, hd, hb⟩
        have HM5 := Lib.hid (HM.out.next hd hb)
        clear hd hb HM
        first
          | (generalize ((j : Int) / 7 % e == 0) = z; cases z <;> cases bb)
          | cases bb)
      all_goals go_wp2_with (at_builtin; refine wpList_append_own _ rfl _ _ 22 rfl w.heap.size 3 i0 (.int .i64 0) 1 8 Tryd.underlying22 HI0.out HZ0.out HZ1.out HZ2.out rfl (by decide) _ _ _ rfl (HM5.out.rw.alloc _) ⟨w5.heap.size, 0, none⟩ 1 1 [.int .i64 (f + j)] rfl rfl (app1_c1 _ _ _) (app1_c2 _) (by have := HL.out.len; unfold maxLen; omega) (by have := HL.out.len; omega) (by have := HM5.out.bt.size; simp; omega) ?_; intro v' w6 hown' hgrow _; have HM6 := Lib.hid ((HM5.out.below ((Below.refl _ _).alloc (Nat.le_refl _) _)).app hgrow (fun g hg => (HM5.out.rw.lt g hg).1) hown'); clear hown' hgrow)
      all_goals refine ⟨?_, ?_⟩
      all_goals first
        | (exact ⟨j + 1, L ++ [f + (j : Int)], by omega, int_eq (by omega), HM6, HL.out.snoc rfl⟩)
        | (exact ⟨j + 1, L, by omega, int_eq (by omega), HM5, HL.out.more⟩)
        | (simp [intOf]; omega)
        | (iterate 10 (apply Exists.intro)); (repeat apply Exists.intro); refine ⟨?_, rfl⟩
    · go_wp2_with fail
      go_ret
      exact ⟨_, f, L, rfl, HM.out.rw, ⟨HL.out.inc, fun x hx => by have := HL.out.bd x hx; omega, by have := HL.out.len; omega⟩, f1, f2, HM.out.bt, HM.out.dc⟩

end Go.Proofs.YtibigbfkokendaaDoor
