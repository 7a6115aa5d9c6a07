import Derived.Test.YtllcoocllkaanaaDoorZ14
import Derived.Test.YtllcoocllkaanaaDoorZ15
import Derived.Test.YtllcoocllkaanaaDoorZ11
namespace Go.Proofs.YtllcoocllkaanaaDoor
open Go.RowKit

/-- a made zone in a box -/
structure GW (w wr : World) (b5 : Nat) (s : ByteArray) (off : Int) (a : Option Addr) (cap : Nat) (xs : Prs) : Prop where
  box : ZBox wr b5 s off (.slice a xs.length cap)
  val : ZVal wr (.agg #[.string s, .int .i64 off, .slice a xs.length cap]) s off xs
  bel : Below w.heap.size w wr
  lt : b5 < wr.heap.size
  cel : xs = [] ∨ ∃ b of, a = some ⟨b, of, none⟩ ∧ PCells wr b of xs
theorem GW.below {w wr w2 : World} {b5 : Nat} {s : ByteArray} {off : Int} {a : Option Addr} {cap : Nat} {xs : Prs} (h : GW w wr b5 s off a cap xs) (hb : Below wr.heap.size wr w2) : GW w w2 b5 s off a cap xs := by
  obtain ⟨⟨z0, z1, z2⟩, hv, hbl, hlt, hc⟩ := h
  refine ⟨⟨?_, ?_, ?_⟩, hv.below hb, below3 hbl hb, Nat.lt_of_lt_of_le hlt hb.size, ?_⟩
  · rw [hb.cell (p := ⟨b5, 0, none⟩) hlt]; exact z0
  · rw [hb.cell (p := ⟨b5, 1, none⟩) hlt]; exact z1
  · rw [hb.cell (p := ⟨b5, 2, none⟩) hlt]; exact z2
  · rcases hc with hc | ⟨b, of, e, hp⟩
    · exact Or.inl hc
    · exact Or.inr ⟨b, of, e, hp.below hb⟩
theorem But.toBelow {w w1 : World} {o : Obj} (h : But w.heap.size (w.alloc o) w1) : Below w.heap.size w w1 :=
  ⟨h.os, h.tape, h.output, by have := h.size; simp only [World.size_alloc] at this; omega, fun k hk => by
    rw [h.block k (by simp; omega) (by omega), Below.heap_alloc _ _ _ hk]⟩
theorem GW.start {w w1 : World} {s : ByteArray} {off : Int} {xs : Prs} {sv : Value} {B : Nat} (hb : Below w.heap.size w w1) (hs : s.size ≤ 6) (hown : w1.ownsRow B 43 2 sv xs.length (pcells xs)) :
    ∃ a cap, sv = .slice a xs.length cap ∧ GW w (w1.alloc (.cells #[.string s, .int .i64 off, sv] 24)) w1.heap.size s off a cap xs := by
  obtain ⟨a, cap, rfl, hl, hc⟩ := Pairs.of_owns hown
  have hb2 : Below w1.heap.size w1 (w1.alloc (.cells #[.string s, .int .i64 off, .slice a xs.length cap] 24)) := (Below.refl _ _).alloc (Nat.le_refl _) _
  refine ⟨a, cap, rfl, ⟨?_, ?_, ?_⟩, ⟨_, rfl, by omega, (Pairs.below ⟨a, cap, rfl, hl, hc⟩ hb2)⟩, below3 hb hb2, by simp, ?_⟩
  · rw [World.cell?_alloc_at _ _ _ _ rfl]; rfl
  · rw [World.cell?_alloc_at _ _ _ _ rfl]; rfl
  · rw [World.cell?_alloc_at _ _ _ _ rfl]; rfl
  · rcases hc with hc | ⟨b, of, e, hp⟩
    · exact Or.inl hc
    · exact Or.inr ⟨b, of, e, hp.below hb2⟩
def NoneB (w : World) (e : Ending) (w' : World) : Prop := ∃ a c, e = .returned (.slice a 0 c) ∧ Below w.heap.size w w'


set_option maxRecDepth 100000 in
set_option maxHeartbeats 2000000 in
theorem law_gaps (a : Option Addr) (n c : Nat) (L : List Int) (q : Int) (q0 : 0 ≤ q) (q255 : q ≤ 255) (w : World) (hI : IntsAt w a n L) (hL : ∀ x ∈ L, -9223372036854775808 ≤ x ∧ x ≤ 9223372036854775807) :
    Calls Tryd.prog 6 #[.slice a n c, .int .u8 q] w (RetB (.bool true) w) := by
  by_cases hn : n ≤ 400
  rotate_left
  · have hd : decide (n ≤ 400) = false := by simpa using hn
    clear hI hL hn
    go_enter Tryd.func6, Tryd.ntmps6
    go_wp2_with (first | (go_at_call 9; refine (light_any _ _ _ _).mono ?_; rw [hd]; rintro e w' ⟨rfl, rfl⟩) | (go_at_call 10; refine (awake_any _).mono ?_; rintro e w' ⟨rfl, hb⟩))
    go_ret
    exact ⟨rfl, hb⟩
  have hd : decide (n ≤ 400) = true := by simpa using hn
  have HD0 := Lib.hid (DiceAt.mk0 c 55 hI hn hL)
  clear hI hL hn
  go_enter Tryd.func6, Tryd.ntmps6
  go_wp2_with (first | (go_at_call 9; refine (light_any _ _ _ _).mono ?_; rw [hd]; rintro e w' ⟨rfl, rfl⟩) | (go_at_call 11; refine (roll_any _ _ _ _).mono ?_; rintro e w' ⟨rfl, rfl⟩) | (go_at_call 26; refine (mzone_any _ _ HD0.out).mono ?_) | fail)
  rintro e w1 ⟨s, off, xs, sv, B, rfl, hss, hv, hlen, hat, hpB, hown, hd1, hb1⟩
  obtain ⟨sa, cap, rfl, hG⟩ := GW.start (off := off) hb1.toBelow hss hown
  have HG1 := Lib.hid hG
  have HV := Lib.hid hv
  have HAT := Lib.hid hat
  obtain ⟨_, ⟨o1, o2⟩, _, hsh⟩ := vldE_ok hv
  have HSH := Lib.hid hsh
  have HB1 := Lib.hid hb1.toBelow
  clear hown hd1 hb1 hG hv hat hsh HD0 hd hpB
  generalize hL : xs.length = len at *
  have HL := Lib.hid hL
  clear hL
  obtain ⟨⟨z0, z1, z2⟩, _, _, zl, _⟩ := HG1.out
  go_wp2_with fail
  have HG2 := HG1
  generalize hw2 : w1.alloc (.cells #[.string s, .int .i64 off, .slice sa len cap] 24) = w2 at *
  clear hw2
  generalize w1.heap.size = b5 at *
  go_loopw [6, 7] (fun bf i wr => ∃ j : Nat, j ≤ len ∧ i = .int .i64 j ∧ bf = .int .i64 (bef off xs j) ∧ Hid (GW w wr b5 s off sa cap xs)) (fun _ i _ => len - (intOf i).toNat)
  case atStart => exact ⟨0, Nat.zero_le _, rfl, by cases xs <;> rfl, HG1⟩
  case round =>
    obtain ⟨j, hj, rfl, rfl, HG⟩ := hrel
    obtain ⟨⟨y0, y1, y2⟩, hval, hbel, ylt, hcel⟩ := HG.out
    rw [HL.out] at y2
    have HBEL := Lib.hid hbel
    have HVAL := Lib.hid hval
    by_cases hlt : j < len
    · have hlt' : j < xs.length := by have := HL.out; omega
      rcases hcel with hq | ⟨b, of, rfl, hP⟩
      · rw [hq] at hlt'; simp at hlt'
      obtain ⟨c1, c2⟩ := hP j hlt'
      have hbl := lt_of_cell c1
      have hm : xs.getD j (0, 0) ∈ xs := by rw [List.getD_eq_getElem?_getD, List.getElem?_eq_getElem hlt']; exact List.getElem_mem _
      obtain ⟨x0, x1⟩ := HAT.out _ hm
      obtain ⟨n0, n1⟩ := (shE_later HSH.out _ hm).2.2
      obtain ⟨f0, f1⟩ := bef_near xs off _ j HSH.out ⟨o1, o2⟩
      have GA : Hid (∀ Q : Int, 0 ≤ Q → Q < (xs.getD j (0, 0)).2 - bef off xs j → _) := Lib.hid (fun Q h1 h2 => gap_all HV.out hlt' HAT.out h1 h2)
      have NB := Lib.hid (bef_succ xs off j hlt')
      clear hm hP hval hbel hlt'
      generalize hX : (xs.getD j (0, 0)).1 = X at *
      generalize hO : (xs.getD j (0, 0)).2 = O at *
      generalize hBf : bef off xs j = Bf at *
      clear hX hO hBf
      by_cases hD : 0 < O - Bf
      · have m0 := Int.emod_nonneg q (show O - Bf ≠ 0 by omega)
        have m1 := Int.emod_lt_of_pos q hD
        have m2 : q.tmod (O - Bf) = q % (O - Bf) := Int.tmod_eq_emod_of_nonneg q0
        obtain ⟨g1, g2, g3, g4, g5⟩ := GA.out _ m0 m1
        generalize q % (O - Bf) = Q at *
        have R15 : Hid (∀ W, Below wr.heap.size wr W → Calls Tryd.prog 15 #[.agg #[.string s, .int .i64 off, .slice (some ⟨b, of, none⟩) len cap], .int .i64 (X + Bf + Q)] W (RetB (.tuple #[.int .i64 (X + Q), .int .i64 0]) W)) := Lib.hid (fun W hb => by
          have h := resolve_any (X + Bf + Q) W (HVAL.out.below hb)
          unfold ResP at h
          rw [g2, g3, HL.out] at h
          exact h)
        have R24 : Hid (∀ W, Below wr.heap.size wr W → Calls Tryd.prog 24 #[.agg #[.string s, .int .i64 off, .slice (some ⟨b, of, none⟩) len cap], .int .i64 (X + Q)] W (RetB (.tuple #[.int .i64 (X + Q + O), .int .i64 0]) W)) := Lib.hid (fun W hb => by
          have h := local_any (X + Q) W (HVAL.out.below hb)
          unfold LocP at h
          rw [g4, g5, HL.out] at h
          exact h)
        have R18 : Hid (∀ W, Below wr.heap.size wr W → Calls Tryd.prog 18 #[.agg #[.string s, .int .i64 off, .slice (some ⟨b, of, none⟩) len cap], .int .i64 (X + Bf + Q)] W (NoneB W)) := Lib.hid (fun W hb => by
          have h := instants_any (X + Bf + Q) W (HVAL.out.below hb)
          rw [HL.out] at h
          refine h.mono ?_
          rintro e w' ⟨v, rfl, ⟨a', c', rfl, _⟩, hb'⟩
          rw [g1]
          exact ⟨a', c', rfl, hb'⟩)
        clear g1 g2 g3 g4 g5 GA
        have t1 : IntKind.i64.wrap (X + Bf) = X + Bf := IntWalk.i64_in _ (by omega)
        have t2 : IntKind.i64.wrap (X + Bf + Q) = X + Bf + Q := IntWalk.i64_in _ (by omega)
        have t3 : IntKind.i64.wrap q = q := IntWalk.i64_in _ (by omega)
        have t4 : IntKind.i64.wrap Q = Q := IntWalk.i64_in _ (by omega)
        have t5 : O - Bf ≠ 0 := by omega
        go_wp2_with fail
        go_quiet (fail)
        have Bd : Below wr.heap.size wr ((wr.alloc (.cells #[.int .i64 X, .int .i64 O] 43)).drewN nq) := ((Below.refl _ _).alloc (Nat.le_refl _) _).trans ⟨rfl, rfl, rfl, Nat.le_refl _, fun _ _ => rfl⟩
        have k0 : ((wr.alloc (.cells #[.int .i64 X, .int .i64 O] 43)).drewN nq).cell? ⟨wr.heap.size, 0, none⟩ = some (.int .i64 X) := by
          show (wr.alloc _).cell? _ = _
          rw [World.cell?_alloc_at _ _ _ _ rfl]; rfl
        have k1 : ((wr.alloc (.cells #[.int .i64 X, .int .i64 O] 43)).drewN nq).cell? ⟨wr.heap.size, 1, none⟩ = some (.int .i64 O) := by
          show (wr.alloc _).cell? _ = _
          rw [World.cell?_alloc_at _ _ _ _ rfl]; rfl
        have kl : wr.heap.size < ((wr.alloc (.cells #[.int .i64 X, .int .i64 O] 43)).drewN nq).heap.size := by show _ < (wr.alloc _).heap.size; simp
        generalize (wr.alloc (.cells #[.int .i64 X, .int .i64 O] 43)).drewN nq = W0 at *
        clear y0 y1 y2 c1 c2
        have BD := Lib.hid Bd
        clear Bd
        obtain ⟨⟨y0, y1, y2⟩, _, _, _, _⟩ := HG.out.below BD.out
        rw [HL.out] at y2
        go_wp2_with (first | (go_at_call 15; refine (R15.out _ BD.out).mono ?_) | fail)
        rintro e w3 ⟨rfl, hb3⟩
        have BD3 := Lib.hid (below3 BD.out hb3)
        have k03 : w3.cell? ⟨wr.heap.size, 0, none⟩ = some (.int .i64 X) := by rw [hb3.cell (p := ⟨wr.heap.size, 0, none⟩) kl]; exact k0
        have k13 : w3.cell? ⟨wr.heap.size, 1, none⟩ = some (.int .i64 O) := by rw [hb3.cell (p := ⟨wr.heap.size, 1, none⟩) kl]; exact k1
        have kl3 := Nat.lt_of_lt_of_le kl hb3.size
        clear y0 y1 y2 k0 k1 kl hb3
        obtain ⟨⟨y0, y1, y2⟩, _, _, _, _⟩ := HG.out.below BD3.out
        rw [HL.out] at y2
        go_wp2_with (first | (go_at_call 24; refine (R24.out _ BD3.out).mono ?_) | fail)
        rintro e w4 ⟨rfl, hb4⟩
        have BD4 := Lib.hid (below3 BD3.out hb4)
        have k04 : w4.cell? ⟨wr.heap.size, 0, none⟩ = some (.int .i64 X) := by rw [hb4.cell (p := ⟨wr.heap.size, 0, none⟩) kl3]; exact k03
        have k14 : w4.cell? ⟨wr.heap.size, 1, none⟩ = some (.int .i64 O) := by rw [hb4.cell (p := ⟨wr.heap.size, 1, none⟩) kl3]; exact k13
        have kl4 := Nat.lt_of_lt_of_le kl3 hb4.size
        clear y0 y1 y2 k03 k13 kl3 hb4
        obtain ⟨⟨y0, y1, y2⟩, _, _, _, _⟩ := HG.out.below BD4.out
        rw [HL.out] at y2
        go_wp2_with (first | (go_at_call 18; refine (R18.out _ BD4.out).mono ?_) | fail)
        rintro e w5 ⟨a5, c5, rfl, hb5⟩
        have BD5 := Lib.hid (below3 BD4.out hb5)
        have k05 : w5.cell? ⟨wr.heap.size, 0, none⟩ = some (.int .i64 X) := by rw [hb5.cell (p := ⟨wr.heap.size, 0, none⟩) kl4]; exact k04
        have k15 : w5.cell? ⟨wr.heap.size, 1, none⟩ = some (.int .i64 O) := by rw [hb5.cell (p := ⟨wr.heap.size, 1, none⟩) kl4]; exact k14
        clear y0 y1 y2 k04 k14 kl4 hb5
        have u1 : (X + Q + O != X + Bf + Q + (O - Bf)) = false := by simp; omega
        have u2 : decide (X + Q < X) = false := by simp; omega
        have NG := Lib.hid (HG.out.below BD5.out)
        go_wp2_with fail
        go_roundw
        case rel => exact ⟨j + 1, by omega, by go_num, by rw [NB.out], NG⟩
        case measure => simp [intOf]; omega
      · have NG := Lib.hid (HG.out.below ((Below.refl wr.heap.size wr).alloc (Nat.le_refl _) (.cells #[.int .i64 X, .int .i64 O] 43)))
        go_wp2_with fail
        go_roundw
        case rel => exact ⟨j + 1, by omega, by go_num, by rw [NB.out], NG⟩
        case measure => simp [intOf]; omega
    · obtain rfl : j = len := by omega
      go_wp2_with (first | (go_at_call 10; refine (awake_any _).mono ?_) | fail)
      rintro e w' ⟨rfl, hb⟩
      go_wp2_with fail
      go_ret
      exact ⟨rfl, below3 HBEL.out hb⟩

end Go.Proofs.YtllcoocllkaanaaDoor
