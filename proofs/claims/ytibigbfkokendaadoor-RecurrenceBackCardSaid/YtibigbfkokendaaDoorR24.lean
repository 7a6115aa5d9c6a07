/- RecurrenceBack, walked: the days of the series of a made list are the list. -/
import Derived.Test.YtibigbfkokendaaDoorR22
import Derived.Test.YtibigbfkokendaaDoorR23
namespace Go.Proofs.YtibigbfkokendaaDoor
open Go.RowKit TT

/-- a made list, with its facts -/
def MadeL (w : World) (en : Ending) (w' : World) : Prop := ∃ a c f L n, n = L.length ∧ en = .returned (.slice a n c) ∧ IntsAt w' a n L ∧ DL f 141 L ∧ 2 ≤ f ∧ f ≤ 30001 ∧ Below w.heap.size w w'
theorem madeL (w : World) (v : Value) (hD : DiceAt (w.alloc (.cells #[v, .int .i64 0] 50)) w.heap.size) :
    Calls Tryd.prog 9 #[.pointer (some ⟨w.heap.size, 0, none⟩)] (w.alloc (.cells #[v, .int .i64 0] 50)) (MadeL w) := by
  refine (mdays_any _ _ hD).mono ?_
  rintro en w1 ⟨v, f, L, rfl, hr, hl, f1, f2, hb, _⟩
  obtain ⟨a, c, rfl, hi⟩ := Row.ints hr
  exact ⟨a, c, f, L, _, rfl, rfl, hi, hl, f1, f2, ((Below.refl _ w).alloc (Nat.le_refl _) _).trans ⟨hb.os, hb.tape, hb.output, hb.size, fun k hk => hb.block k (by simp; omega) (by omega)⟩⟩
theorem made_ofE {f : Int} {L : List Int} (h : DL f 141 L) (f1 : 2 ≤ f) (f2 : f ≤ 30001) (h0 : L.length ≠ 0) : ofE L = 0 := by
  obtain ⟨m1, m2⟩ := mem_fst h0
  have b1 := h.bd _ m1
  have b2 := h.bd _ m2
  exact ofE_mk h0 h.inc (fun x hx => by have := h.bd x hx; exact okDay_mk (by omega) (by omega)) (by omega)

set_option maxRecDepth 100000 in
set_option maxHeartbeats 4000000 in
theorem law_back (a : Option Addr) (n c : Nat) (T : List Int) (w : World) (hI : IntsAt w a n T) (hL : ∀ x ∈ T, -9223372036854775808 ≤ x ∧ x ≤ 9223372036854775807) (hT : Tbs w) :
    Calls Tryd.prog 4 #[.slice a n c] w (RetB (.bool true) w) := by
  have HT := Lib.hid hT
  clear hT
  by_cases hn : n ≤ 400
  rotate_left
  · have hd : decide (n ≤ 400) = false := by simpa using hn
    clear hI hL hn
    go_enter Tryd.func4, Tryd.ntmps4
    go_wp2_with (first
      | (go_at_call 7; refine (light_any _ _ _ _).mono ?_; rw [hd]; rintro e w' ⟨rfl, rfl⟩)
      | (go_at_call 8; refine (awake_any _ HT.out).mono ?_; rintro e w' ⟨rfl, hb⟩))
    go_ret
    exact ⟨rfl, hb⟩
  have hd : decide (n ≤ 400) = true := by simpa using hn
  have HD0 := Lib.hid (DiceAt.mk0 c 50 hI hn hL)
  clear hI hL hn
  go_enter Tryd.func4, Tryd.ntmps4
  go_wp2_with (first
    | (go_at_call 7; refine (light_any _ _ _ _).mono ?_; rw [hd]; rintro e w' ⟨rfl, rfl⟩)
    | (go_at_call 10; refine (roll_any _ _ _ _).mono ?_; rintro e w' ⟨rfl, rfl⟩)
    | (go_at_call 9; refine (madeL _ _ HD0.out).mono ?_)
    | fail)
  rintro en w1 ⟨la, lc, f, L, m, hm, rfl, hi, hl, f1, f2, hb1⟩
  have HI := Lib.hid hi
  have HB := Lib.hid hb1
  have HM := Lib.hid hm
  have hmax := hi.le
  have hz := Lib.hid (fun h0 => made_ofE hl f1 f2 h0)
  clear hi hb1 hm HD0 hd hl f1 f2
  go_wp2_with fail
  refine (of_any L la m lc _ HI.out).mono ?_
  rintro en w2 ⟨sa, sc, sb, sq, rfl, hx, hy, hb2⟩
  have HI2 := Lib.hid (HI.out.below hb2)
  have HB2 := Lib.hid (HB.out.trans (hb2.mono HB.out.size))
  clear hb2 HI HB
  by_cases h0 : m = 0
  · subst h0
    have h0 := HM.out
    have hE : ofE L = 16 := (ofE_empty h0.symm).symm
    rw [hE]
    clear hx hy HI2 hz h0 HM
    go_wp2_with (go_at_call 8; refine (awake_any _ (HT.out.below (HB2.out.alloc (HB2.out.size) _))).mono ?_; rintro e w' ⟨rfl, hb⟩)
    go_ret
    exact ⟨rfl, HB2.out.trans ((Below.refl _ _).alloc (HB2.out.size) _) |>.trans (hb.mono (by have := HB2.out.size; simp; omega))⟩
  · have hE : ofE L = 0 := hz.out (by rw [← HM.out]; exact h0)
    have hV := of_valid hE
    have hD := of_days hE
    have hXl := Lib.hid hx.1
    rw [hE]
    generalize ofF L = gf at *
    generalize ofL L = gl at *
    generalize ofEv L = ge at *
    generalize ofK L = gk at *
    generalize ofX L = gx at *
    generalize ofY L = gy at *
    have hsz := Lib.hid (vl0_inv (vlE_inv hV).1)
    have HS := Lib.hid (SC.mk0 (w := w2) (f := gf) (l := gl) (e := ge) (k := gk) (c := sc) (q := sq) 30 hx hy)
    have hs : gx.length + gy.length ≤ 9223372036854775807 := by have := hsz.out; omega
    have hv := Lib.hid (valid_any gf gl ge gk sa gx.length sc sb gy.length sq gx gy _ HS.out.xa HS.out.ya hs)
    rw [hV] at hv
    have hD2 := Lib.hid (fun (w9 : World) (hb : Below (w2.alloc (.cells #[.int .i64 gf, .int .i64 gl, .int .i64 ge, .int .i64 gk, .slice sa gx.length sc, .slice sb gy.length sq] 30)).heap.size (w2.alloc (.cells #[.int .i64 gf, .int .i64 gl, .int .i64 ge, .int .i64 gk, .slice sa gx.length sc, .slice sb gy.length sq] 30)) w9) => days_any gf gl ge gk sa gx.length sc sb gy.length sq gx gy w9 (HS.out.xa.below hb) (HS.out.ya.below hb) hs)
    unfold DaysP at hD2
    rw [hD] at hD2
    have HBS := Lib.hid (HB2.out.trans (HS.out.bl.mono HB2.out.size))
    have HI3 := Lib.hid (HI2.out.below HS.out.bl)
    have hne : ¬ ((m : Int) = 0) := by omega
    clear hx hy hXl hV hE hz hsz hD hs HI2
    generalize gx.length = gn at *
    generalize gy.length = gm at *
    go_wp2_with (first
      | (go_at_call 14; refine hv.out.mono ?_; rintro en w3 ⟨rfl, hb3⟩; have HS3 := Lib.hid (HS.out.next hb3); have HB3 := Lib.hid hb3; obtain ⟨c0, c1, c2, c3, c4, c5, _, _, sz, _⟩ := HS3.out; clear hb3)
      | (go_at_call 16; refine (hD2.out _ HB3.out).mono ?_; rintro en w4 ⟨v, rfl, hr, hb4⟩; obtain ⟨a4, c4', rfl, hi4⟩ := Row.ints hr; rw [← HM.out] at hi4 ⊢; have HI4 := Lib.hid hi4; have HB4 := Lib.hid (HB3.out.trans (hb4.mono HB3.out.size)); clear hb4 hr hi4)
      | (go_at_call 15; refine (sameInts_any L _ _ m _ _ _ HI4.out (HI3.out.below HB4.out)).mono ?_; rintro en w5 ⟨rfl, hb5⟩; have HB5 := Lib.hid (HBS.out.trans ((HB4.out.trans (hb5.mono HB4.out.size)).mono HBS.out.size)); clear hb5)
      | (go_at_call 8; refine (awake_any _ (HT.out.below HB5.out)).mono ?_; rintro e w6 ⟨rfl, hb6⟩; have HB6 := Lib.hid (HB5.out.trans (hb6.mono HB5.out.size)); clear hb6))
    go_ret
    exact ⟨rfl, HB6.out⟩

end Go.Proofs.YtibigbfkokendaaDoor
