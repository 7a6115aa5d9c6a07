import Derived.Test.YtllcoocllkaanaaDoorZ13
import Derived.Deep.RegionHeld3
import Derived.Deep.DeepCutAuto
namespace Go.Proofs.YtllcoocllkaanaaDoor
open Go.RowKit

/-- some bounded number, and the dice go on -/
def NearP (p : Nat) (w : World) (e : Ending) (w' : World) : Prop := ∃ t : Int, e = .returned (.int .i64 t) ∧ -9223372036854775808 ≤ t ∧ t ≤ 9223372036854775807 ∧ DiceAt w' p ∧ But p w w'
theorem wr_in (n : Int) : -9223372036854775808 ≤ IntKind.i64.wrap n ∧ IntKind.i64.wrap n ≤ 9223372036854775807 := by
  rw [IntWalk.i64_left]; unfold wrap64; omega
theorem wr_in' (n : Int) : -9223372036854775808 ≤ wrap64 n ∧ wrap64 n ≤ 9223372036854775807 := by
  unfold wrap64; omega
theorem NearP.of {p : Nat} {w w' : World} {n : Int} (hd : DiceAt w' p) (hb : But p w w') : NearP p w (.returned (.int .i64 (IntKind.i64.wrap n))) w' := ⟨_, rfl, (wr_in n).1, (wr_in n).2, hd, hb⟩
theorem NearP.of' {p : Nat} {w w' : World} {n : Int} (hd : DiceAt w' p) (hb : But p w w') : NearP p w (.returned (.int .i64 (wrap64 n))) w' := ⟨_, rfl, (wr_in' n).1, (wr_in' n).2, hd, hb⟩

theorem one_go {Q : Ending → World → Prop} (p : Nat) (m : Int) (w : World) (hm : 1 ≤ m) (hm2 : m ≤ 1000000000000) (hD : DiceAt w p) (hk : ∀ (b : Bool) w', DiceAt w' p → But p w w' → Q (.returned (.bool b)) w') :
    Calls Tryd.prog 32 #[.pointer (some ⟨p, 0, none⟩), .int .i64 m] w Q :=
  (one_any p m w hm hm2 hD).mono (fun e w' h => by
    obtain ⟨b, rfl, hd, hb⟩ := h
    exact hk b w' hd hb)

def NMid (p _b3 : Nat) (w : World) (s7 : Value) (wx : World) : Prop := ∃ (g : Nat) (X O : Int), s7 = .pointer (some ⟨g, 0, none⟩) ∧ wx.cell? ⟨g, 0, none⟩ = some (.int .i64 X) ∧ wx.cell? ⟨g, 1, none⟩ = some (.int .i64 O) ∧ g ≠ p ∧ g < wx.heap.size ∧ DiceAt wx p ∧ But p w wx

set_option maxRecDepth 100000 in
set_option maxHeartbeats 2000000 in
theorem mnear_any (p : Nat) (w : World) (s : ByteArray) (off : Int) (a : Option Addr) (len cap : Nat) (xs : Prs) (hl : xs.length = len) (hc : xs = [] ∨ ∃ b of, a = some ⟨b, of, none⟩ ∧ b ≠ p ∧ PCells w b of xs) (hlen : len ≤ 100) (hD : DiceAt w p) :
    Calls Tryd.prog 14 #[.pointer (some ⟨p, 0, none⟩), .agg #[.string s, .int .i64 off, .slice a len cap]] w (NearP p w) := by
  have hp := hD.lt
  have HD := Lib.hid (hD.alloc (.cells #[.string s, .int .i64 off, .slice a len cap] 24))
  have HC := Lib.hid hc
  have HL := Lib.hid hl
  clear hD hc hl
  go_enter Tryd.func14, Tryd.ntmps14
  go_wp2_with (first | (go_at_call 34; refine next_go p 2000000 _ (by decide) (by decide) HD.out ?_) | fail)
  intro r1 w1 r10 r11 hd1 hb1 hl1 hs1 hn1 hn2 hn3 hc1 hf1 hz1; clear hf1 hz1 hn1 hn2 hn3
  have z2 : w1.cell? ⟨w.heap.size, 2, none⟩ = some (.slice a len cap) := by
    rw [hc1 _ _ (by simp) (by omega), World.cell?_alloc_at _ _ _ _ rfl]; rfl
  clear hc1
  by_cases h0 : 0 < len
  rotate_left
  · obtain rfl : len = 0 := by omega
    go_wp2_with fail
    go_ret
    exact ⟨_, rfl, by omega, by omega, hd1, (But.of_below ((Below.refl _ _).alloc (Nat.le_refl _) _)).trans hb1⟩
  have hbs : w.heap.size < w1.heap.size := by first | omega | (simp at hs1; omega)
  have BW1 := Lib.hid ((But.of_below ((Below.refl w.heap.size w).alloc (Nat.le_refl _) (.cells #[.string s, .int .i64 off, .slice a len cap] 24))).trans hb1 : But p w w1)
  rcases HC.out with hq | ⟨b, of, rfl, hbp, hP0⟩
  · rw [hq] at HL; have := HL.out; simp at this; omega
  have NC : Hid (∀ W, But p w W → ∀ r : Int, 0 ≤ r → r < len → ∃ X O : Int, W.cell? ⟨b, of + r.toNat * 2, none⟩ = some (.int .i64 X) ∧ W.cell? ⟨b, of + r.toNat * 2 + 1, none⟩ = some (.int .i64 O) ∧ b < W.heap.size) := Lib.hid (fun W hW r h0 h1 => by
    have hlt : r.toNat < xs.length := by have := HL.out; omega
    obtain ⟨c1, c2⟩ := hP0 r.toNat hlt
    have hbl := lt_of_cell c1
    exact ⟨_, _, (hW.cell hbl hbp).trans c1, (hW.cell hbl hbp).trans c2, Nat.lt_of_lt_of_le hbl hW.size⟩)
  clear hP0 hb1 HD HC hbp
  have hl64 : (len : Int) ≤ 1000000000000 := by omega
  have hl1 : (1 : Int) ≤ len := by omega
  go_wp2_with (first | (go_at_call 32; refine one_go p 4 _ (by decide) (by decide) hd1 ?_) | fail)
  refine ⟨?_, ?_⟩
  · intro w2 hd2 hb2
    have z22 : w2.cell? ⟨w.heap.size, 2, none⟩ = some (.slice (some ⟨b, of, none⟩) len cap) := by
      rw [hb2.cell hbs (by omega)]; exact z2
    have BW2 := Lib.hid (BW1.out.trans hb2)
    have hp2 := hd2.lt
    have hp3 : w2.heap.size ≠ p := by omega
    have ZC : Hid (∀ W, But p w2 W → W.cell? ⟨w.heap.size, 2, none⟩ = some (.slice (some ⟨b, of, none⟩) len cap) ∧ w.heap.size < W.heap.size) := Lib.hid (fun W hW => by
      have hz := Nat.lt_of_lt_of_le hbs hb2.size
      exact ⟨by rw [hW.cell hz (by omega)]; exact z22, Nat.lt_of_lt_of_le hz hW.size⟩)
    have hbs2 : w.heap.size < w2.heap.size := Nat.lt_of_lt_of_le hbs hb2.size
    have hbb : b < w2.heap.size := by obtain ⟨_, _, _, _, h⟩ := NC.out w2 (BW1.out.trans hb2) 0 (by omega) (by omega); exact h
    clear hb2 z2 hd1 hl1
    have hl1 : (1 : Int) ≤ len := by omega
    go_upto_region 4 with fail
    go_cut [7] (fun s7 wx => NMid p 0 w s7 wx)
    case first =>
      go_region_with (go_at_call 34; refine next_go p _ _ hl1 hl64 ?_ ?_; (repeat (first | assumption | apply DiceAt.alloc | apply DiceAt.drew)); intro r3 w3 r30 r31 hd3 hb3 hl3 hs3 hn1 hn2 hn3 hc1 hf1 hz1; have BN : But p w2 w3 := (by first | exact (But.refl p w2).drew.trans hb3 | exact ((But.refl p w2).alloc _).drew.trans hb3 | exact (But.refl p w2).trans hb3 | exact ((But.refl p w2).alloc _).trans hb3); have BW3 := BW2.out.trans BN; obtain ⟨zc, zs⟩ := ZC.out w3 BN; obtain ⟨X, O, g1, g2, g3⟩ := NC.out w3 BW3 r3 r30 r31)
      all_goals (
        go_wp2_with fail
        go_meet
        refine ⟨_, X, O, rfl, ?c0, ?c1, ?ne, ?lt, ?hd, ?hb⟩
        case c0 => first | (go_simp; done) | (simp [*]; done)
        case c1 => first | (go_simp; done) | (simp [*]; done)
        case ne => first | assumption | omega
        case lt => (try simp only [World.size_alloc, World.size_drew] at hl3); (try simp only [World.size_alloc, World.size_drew] at hs3); simp only [World.size_alloc, World.size_setCell]; omega
        case hd => repeat (first | assumption | apply DiceAt.alloc | apply DiceAt.drew | apply DiceAt.setNe | omega)
        case hb => repeat (first | assumption | exact But.refl _ _ | apply But.alloc | apply But.drew | refine But.setNew ?_ (by omega) _ | refine But.trans ?_ (by assumption)))
    case rest =>
      obtain ⟨g, X, O, rfl, g0, g1, gne, glt, hd3, hb3⟩ := hcut
      have HB3 := Lib.hid hb3
      clear hb3
      go_wp2_with fail
      go_region_with (go_at_call 34; refine next_go p 400 _ (by decide) (by decide) ?_ ?_; (first | exact hd3 | exact hd3.drew); intro r4 w4 r40 r41 hd4 hb4 hl4 hs4 hn1 hn2 hn3 hc1 hf1 hz1; have BN : But p wc w4 := (by first | exact (But.refl p wc).drew.trans hb4 | exact hb4); have y0 : w4.cell? ⟨g, 0, none⟩ = some (.int .i64 X) := (by rw [BN.cell glt gne]; exact g0); have y1 : w4.cell? ⟨g, 1, none⟩ = some (.int .i64 O) := (by rw [BN.cell glt gne]; exact g1); clear hc1 hf1 hz1)
      all_goals (
        go_wp2_with fail
        go_ret
        first | exact NearP.of hd4 (HB3.out.trans BN) | exact NearP.of' hd4 (HB3.out.trans BN))
  · intro w2 hd2 hb2
    go_wp2_with fail
    go_ret
    exact ⟨_, rfl, by omega, by omega, hd2, BW1.out.trans hb2⟩

end Go.Proofs.YtllcoocllkaanaaDoor
