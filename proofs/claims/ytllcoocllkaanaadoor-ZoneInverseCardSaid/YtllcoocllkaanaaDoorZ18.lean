import Derived.Test.YtllcoocllkaanaaDoorZ16
import Derived.Test.YtllcoocllkaanaaDoorZ17
namespace Go.Proofs.YtllcoocllkaanaaDoor
open Go.RowKit

/-! ### The instants of the local time of an instant -/
theorem inv_law {nm : L8} {off n : Int} {xs : Prs} (h : vldE nm off xs = 0) (h0 : 0 ≤ n) (h1 : n < 52596000) :
    ∃ (T : Int) (L : List Int), locV nm off xs n = T ∧ insts nm off xs T = L ∧ offE nm off xs n = 0 ∧ 1 ≤ L.length ∧ L.length ≤ 2 ∧ n ∈ L ∧ List.Pairwise (· < ·) L ∧ (∀ u ∈ L, offE nm off xs u = 0 ∧ locV nm off xs u = T ∧ 0 ≤ u ∧ u < 52596000) ∧ resV nm off xs T = L.getD 0 0 ∧ resE nm off xs T = 0 ∧ -10000 ≤ T ∧ T ≤ 60000000 := by
  obtain ⟨_, hn, _, hs⟩ := vldE_ok h
  obtain ⟨e0, _, e2⟩ := offE_fine h (isI_iff.2 ⟨h0, h1⟩)
  have hb := atF_near (t := n) xs off _ hs hn
  have hm : n ∈ insts nm off xs (n + atF n off xs) := (insts_mem h).2 ⟨h0, h1, rfl⟩
  have h2 : (insts nm off xs (n + atF n off xs)).length ≤ 2 := by
    unfold insts
    split
    · exact segF_two xs 0 off _ hs hn
    · simp
  refine ⟨_, _, e2, rfl, e0, by have := List.length_pos_of_mem hm; omega, h2, hm, insts_asc, fun u hu => ?_, ?_, ?_, by omega, by omega⟩
  · obtain ⟨u0, u1, u2⟩ := (insts_mem h).1 hu
    obtain ⟨f0, _, f2⟩ := offE_fine h (isI_iff.2 ⟨u0, u1⟩)
    exact ⟨f0, by rw [f2, u2], u0, u1⟩
  · cases hl : insts nm off xs (n + atF n off xs) with
    | nil => rw [hl] at hm; cases hm
    | cons t r => exact (res_first h hl).1
  · cases hl : insts nm off xs (n + atF n off xs) with
    | nil => rw [hl] at hm; cases hm
    | cons t r => exact (res_first h hl).2

theorem GW.make {w wx : World} {b5 B : Nat} {s : ByteArray} {off : Int} {a : Option Addr} {cap : Nat} {xs : Prs} (z0 : wx.cell? ⟨b5, 0, none⟩ = some (.string s)) (z1 : wx.cell? ⟨b5, 1, none⟩ = some (.int .i64 off)) (z2 : wx.cell? ⟨b5, 2, none⟩ = some (.slice a xs.length cap))
    (hs : s.size ≤ 9223372036854775807) (hown : wx.ownsRow B 43 2 (.slice a xs.length cap) xs.length (pcells xs)) (hb : Below w.heap.size w wx) : GW w wx b5 s off a cap xs := by
  have hP := Pairs.of_owns hown
  obtain ⟨a', cap', e, hl, hc⟩ := id hP
  cases e
  exact ⟨⟨z0, z1, z2⟩, ⟨_, rfl, hs, hP⟩, hb, lt_of_cell z0, hc⟩

theorem But.undrew' {p : Nat} {w w' : World} (h : But p w.drew w') : But p w w' := (But.refl p w).drew.trans h
def SomeInts (L : List Int) (w : World) (e : Ending) (w' : World) : Prop := ∃ v, e = .returned v ∧ Ints w' v L ∧ Below w.heap.size w w'
/-- the slice of two numbers -/
def IMid (p : Nat) (W : World) (x : Int) (s31 s32 s33 : Value) (wx : World) : Prop :=
  ∃ (g : Nat) (y : Int), s31 = .slice (some ⟨g, 0, none⟩) 2 2 ∧ s32 = .int .i64 2 ∧ s33 = .int .i64 0 ∧ -9223372036854775808 ≤ y ∧ y ≤ 9223372036854775807 ∧ wx.cell? ⟨g, 0, none⟩ = some (.int .i64 x) ∧ wx.cell? ⟨g, 1, none⟩ = some (.int .i64 y) ∧ But p W wx

set_option maxRecDepth 100000 in
set_option maxHeartbeats 8000000 in
theorem law_inverse (a : Option Addr) (n c : Nat) (L : List Int) (q : Int) (q0 : -9223372036854775808 ≤ q) (q1 : q ≤ 9223372036854775807) (w : World) (hI : IntsAt w a n L) (hL : ∀ x ∈ L, -9223372036854775808 ≤ x ∧ x ≤ 9223372036854775807) :
    Calls Tryd.prog 5 #[.slice a n c, .int .i64 q] w (RetB (.bool true) w) := by
  by_cases hn : n ≤ 400
  rotate_left
  · have hd : decide (n ≤ 400) = false := by simpa using hn
    clear hI hL hn
    go_enter Tryd.func5, Tryd.ntmps5
    go_wp2_with (first | (go_at_call 9; refine (light_any _ _ _ _).mono ?_; rw [hd]; rintro e w' ⟨rfl, rfl⟩) | (go_at_call 10; refine (awake_any _).mono ?_; rintro e w' ⟨rfl, hb⟩))
    go_ret
    exact ⟨rfl, hb⟩
  have hd : decide (n ≤ 400) = true := by simpa using hn
  have HD0 := Lib.hid (DiceAt.mk0 c 55 hI hn hL)
  have m0 := Int.emod_nonneg q (show (52596000 : Int) ≠ 0 by decide)
  have m1 := Int.emod_lt_of_pos q (show (0 : Int) < 52596000 by decide)
  have HM : Hid (∀ W, Calls Tryd.prog 13 #[.int .i64 q, .int .i64 52596000] W (RetS (.int .i64 (q % 52596000)) W)) := Lib.hid (fun W => mod_any q 52596000 q0 q1 (by decide) (by decide) W)
  clear hI hL hn
  generalize q % 52596000 = x at *
  clear q0 q1
  go_enter Tryd.func5, Tryd.ntmps5
  go_wp2_with (first | (go_at_call 9; refine (light_any _ _ _ _).mono ?_; rw [hd]; rintro e w' ⟨rfl, rfl⟩) | (go_at_call 11; refine (roll_any _ _ _ _).mono ?_; rintro e w' ⟨rfl, rfl⟩) | (go_at_call 26; refine (mzone_any _ _ HD0.out).mono ?_) | fail)
  rintro e w1 ⟨s, off, xs, sv, B, rfl, hss, hv, hlen, hat, hpB, hown, hd1, hb1⟩
  have HV := Lib.hid hv
  have HAT := Lib.hid hat
  obtain ⟨_, ⟨o1, o2⟩, _, hsh⟩ := vldE_ok hv
  have HB1 := Lib.hid hb1.toBelow
  obtain ⟨sa, cap, rfl, _, _⟩ := Pairs.of_owns hown
  have hp := hd1.lt
  have hbA : But w.heap.size w1 (w1.alloc (.cells #[.string s, .int .i64 off, .slice sa xs.length cap] 24)) := (But.refl _ _).alloc _
  have HO1 := Lib.hid (row_but hown hbA hpB)
  have HD1 := Lib.hid (hd1.alloc (.cells #[.string s, .int .i64 off, .slice sa xs.length cap] 24))
  have HBA := Lib.hid (But.below HB1.out hbA (Nat.le_refl _) (by omega))
  have HX : Hid (∀ y ∈ xs, (-10 ≤ y.1 ∧ y.1 ≤ 60000000) ∧ (-3000 ≤ y.2 ∧ y.2 ≤ 3000)) := Lib.hid (fun y hy => by
    have h1 := hat y hy
    have h2 := (shE_later hsh y hy).2.2
    omega)
  have hne5 : w1.heap.size ≠ w.heap.size := by omega
  clear hown hd1 hb1 hv hat hsh HD0 hd hbA
  generalize hL : xs.length = len at *
  have HL := Lib.hid hL
  clear hL
  have z0 : (w1.alloc (.cells #[.string s, .int .i64 off, .slice sa len cap] 24)).cell? ⟨w1.heap.size, 0, none⟩ = some (.string s) := by rw [World.cell?_alloc_at _ _ _ _ rfl]; rfl
  have z1 : (w1.alloc (.cells #[.string s, .int .i64 off, .slice sa len cap] 24)).cell? ⟨w1.heap.size, 1, none⟩ = some (.int .i64 off) := by rw [World.cell?_alloc_at _ _ _ _ rfl]; rfl
  have z2 : (w1.alloc (.cells #[.string s, .int .i64 off, .slice sa len cap] 24)).cell? ⟨w1.heap.size, 2, none⟩ = some (.slice sa len cap) := by rw [World.cell?_alloc_at _ _ _ _ rfl]; rfl
  have lt5 : w1.heap.size < (w1.alloc (.cells #[.string s, .int .i64 off, .slice sa len cap] 24)).heap.size := by simp
  go_wp2_with fail
  generalize hw2 : w1.alloc (.cells #[.string s, .int .i64 off, .slice sa len cap] 24) = w2 at *
  clear hw2
  generalize w1.heap.size = b5 at *
  generalize hpe : w.heap.size = p at *
  have HPE := Lib.hid hpe
  clear hpe
  have zp : w2.heap.size ≠ p := by omega
  have near : Hid (∀ W, DiceAt W p → But p w2 W → Calls Tryd.prog 14 #[.pointer (some ⟨p, 0, none⟩), .agg #[.string s, .int .i64 off, .slice sa len cap]] W (NearP p W)) := Lib.hid (fun W hD hB => by
    have hr := row_but HO1.out hB hpB
    have hr2 : W.ownsRow B 43 2 (.slice sa len cap) xs.length (pcells xs) := by rw [HL.out]; exact hr
    obtain ⟨a', cap', e, _, hc⟩ := Pairs.of_owns hr2
    have e1 : a' = sa := by cases e; rfl
    subst e1
    refine mnear_any p W s off _ _ _ xs HL.out ?_ (by omega) hD
    rcases hc with h0 | ⟨b, of, rfl, hP⟩
    · exact Or.inl h0
    · by_cases h0 : xs = []
      · exact Or.inl h0
      · refine Or.inr ⟨b, of, rfl, ?_, hP⟩
        rcases hr.2 with ⟨e, _⟩ | ⟨g, c, cur, e, hg, _⟩
        · cases e
        · cases e; omega)
  go_upto_region 5 with fail
  go_cut [31, 32, 33] (fun s31 s32 s33 wx => IMid p w2 x s31 s32 s33 wx)
  case first =>
    go_region_with (first
      | (go_at_call 13; refine (HM.out _).mono ?_; rintro e w' ⟨rfl, rfl⟩)
      | (go_at_call 14; refine (near.out _ ?_ ?_).mono ?_; (first | exact HD1.out | exact HD1.out.drew); (first | exact But.refl _ _ | exact (But.refl _ _).drew); rintro e w3 ⟨y, rfl, y0, y1, hd3, hb3⟩; have BN : But p w2 w3 := (by first | exact hb3 | exact hb3.undrew')))
    all_goals (
      go_wp2_with fail
      go_meet
      refine ⟨_, y, rfl, rfl, rfl, y0, y1, ?c0, ?c1, ?hb⟩
      case c0 => first | (go_simp; done) | (simp [*]; done)
      case c1 => first | (go_simp; done) | (simp [*]; done)
      case hb => repeat (first | assumption | apply But.alloc | apply But.drew))
  case rest =>
    obtain ⟨g, y, rfl, rfl, rfl, y0, y1, k0, k1, hbx⟩ := hcut
    have hG : GW w wc b5 s off sa cap xs := by
      refine GW.make (B := B) ((hbx.cell lt5 hne5).trans z0) ((hbx.cell lt5 hne5).trans z1) ?_ (by omega) ?_ ?_
      · rw [HL.out]; exact (hbx.cell lt5 hne5).trans z2
      · rw [HL.out]; exact row_but HO1.out hbx hpB
      · rw [HPE.out]; exact But.below HBA.out hbx (Nat.le_refl _) (by omega)
    have HG := Lib.hid hG
    have hgs := lt_of_cell k0
    clear z0 z1 z2 hbx hG near HM zp HBA HO1 HD1
    have HK0 := Lib.hid k0
    have HK1 := Lib.hid k1
    clear k0 k1
    go_wp2_with fail
    go_loopw [33] (fun i wr => ∃ k : Nat, k ≤ 2 ∧ i = .int .i64 k ∧ Hid (Below wc.heap.size wc wr)) (fun i _ => 2 - (intOf i).toNat)
    case atStart => exact ⟨0, by omega, rfl, Lib.hid (Below.refl _ _)⟩
    case round =>
      obtain ⟨k, hk, rfl, HB⟩ := hrel
      obtain ⟨⟨u0, u1, u2⟩, hval, hbel, ult, _⟩ := HG.out.below HB.out
      rw [HL.out] at u2
      have HVAL := Lib.hid hval
      have HBEL := Lib.hid hbel
      clear hval hbel
      by_cases hlt : k < 2
      · have hN : ∃ N : Int, wr.cell? ⟨g, k, none⟩ = some (.int .i64 N) ∧ -9223372036854775808 ≤ N ∧ N ≤ 9223372036854775807 := by
          rcases (show k = 0 ∨ k = 1 by omega) with rfl | rfl
          · exact ⟨x, (HB.out.cell (p := ⟨g, 0, none⟩) hgs).trans HK0.out, by omega, by omega⟩
          · exact ⟨y, (HB.out.cell (p := ⟨g, 1, none⟩) hgs).trans HK1.out, y0, y1⟩
        obtain ⟨N, hNc, N0, N1⟩ := hN
        by_cases hr : 0 ≤ N ∧ N < 52596000
        · obtain ⟨r0, r1⟩ := hr
          obtain ⟨T, L2, l0, l1, l2, l3, l4, l5, l6, l7, l8, l9, T0, T1⟩ := inv_law HV.out r0 r1
          have R24 : Hid (∀ u : Int, u ∈ L2 → ∀ W, Below wr.heap.size wr W → Calls Tryd.prog 24 #[.agg #[.string s, .int .i64 off, .slice sa len cap], .int .i64 u] W (RetB (.tuple #[.int .i64 T, .int .i64 0]) W)) := Lib.hid (fun u hu W hb => by
            have h := local_any u W (HVAL.out.below hb)
            unfold LocP at h
            obtain ⟨j1, j2, _, _⟩ := l7 u hu
            rw [j1, j2, HL.out] at h
            exact h)
          have R18 : Hid (∀ W, Below wr.heap.size wr W → Calls Tryd.prog 18 #[.agg #[.string s, .int .i64 off, .slice sa len cap], .int .i64 T] W (SomeInts L2 W)) := Lib.hid (fun W hb => by
            have h := instants_any T W (HVAL.out.below hb)
            rw [HL.out] at h
            refine h.mono ?_
            rintro e w' ⟨v, rfl, hi, hb'⟩
            rw [l1] at hi
            exact ⟨v, rfl, hi, hb'⟩)
          have R15 : Hid (∀ W, Below wr.heap.size wr W → Calls Tryd.prog 15 #[.agg #[.string s, .int .i64 off, .slice sa len cap], .int .i64 T] W (RetB (.tuple #[.int .i64 (L2.getD 0 0), .int .i64 0]) W)) := Lib.hid (fun W hb => by
            have h := resolve_any T W (HVAL.out.below hb)
            unfold ResP at h
            rw [l8, l9, HL.out] at h
            exact h)
          have HS2 : Hid (∀ i, i < L2.length → L2.getD i 0 ∈ L2) := Lib.hid (fun i hi => by rw [List.getD_eq_getElem?_getD, List.getElem?_eq_getElem hi]; exact List.getElem_mem _)
          have HMN := Lib.hid l5
          have HAS : Hid (∀ i, i + 1 < L2.length → L2.getD i 0 < L2.getD (i + 1) 0) := Lib.hid (fun i hi => by
            rw [List.getD_eq_getElem?_getD, List.getD_eq_getElem?_getD, List.getElem?_eq_getElem hi, List.getElem?_eq_getElem (by omega)]
            exact List.pairwise_iff_getElem.1 l6 i (i + 1) (by omega) hi (by omega))
          have HTK : Hid (∀ i, i < L2.length → L2.take (i + 1) = L2.take i ++ [L2.getD i 0]) := Lib.hid (fun i hi => by
            rw [List.take_succ_eq_append_getElem hi, List.getD_eq_getElem?_getD, List.getElem?_eq_getElem hi]; rfl)
          clear l0 l1 l2 l5 l6 l7 l8 l9
          generalize hl2 : L2.length = m at *
          have HM2 := Lib.hid hl2
          clear hl2
          go_wp2_with (first | (go_at_call 24; refine (R24.out N HMN.out _ (Below.refl _ _)).mono ?_) | fail)
          rintro e w3 ⟨rfl, hb3⟩
          have BD3 := Lib.hid hb3
          obtain ⟨hc3, hf3⟩ := bcell hb3
          clear hb3 hf3 hNc
          go_wp2_with (first | (go_at_call 18; refine (R18.out _ BD3.out).mono ?_) | fail)
          rintro e w4 ⟨v, rfl, ⟨ia, icap, rfl, hi4⟩, hb4⟩
          have BD4 := Lib.hid (below3 BD3.out hb4)
          rw [HM2.out] at hi4
          clear hc3 hb4
          obtain ⟨hc4, hf4⟩ := bcell BD4.out
          clear hf4
          rw [HM2.out]
          go_wp2_with (first | (go_at_call 15; refine (R15.out _ BD4.out).mono ?_) | fail)
          rintro e w5 ⟨rfl, hb5⟩
          have BD5 := Lib.hid (below3 BD4.out hb5)
          have hi5 := hi4.below hb5
          clear hc4 hb5 hi4
          obtain ⟨_, _, h0 | ⟨lb, lo, rfl, hcell⟩⟩ := hi5
          · omega
          have HC5 := Lib.hid hcell
          have c50 : w5.cell? ⟨lb, lo, none⟩ = some (.int .i64 (L2.getD 0 0)) := hcell 0 (by omega)
          have lb5 := lt_of_cell c50
          clear hcell
          generalize hR : L2.getD 0 0 = R at *
          clear hR
          have t0 : (R != R) = false := by simp
          go_wp2_with fail
          clear c50 t0 u0 u1 u2 R15 R18
          obtain ⟨wo, rfl⟩ : ∃ wo : World, wo = wr := ⟨_, rfl⟩
          go_loopw [14, 15] (fun fd i wr => ∃ (j : Nat) (f : Bool), j ≤ m ∧ i = .int .i64 j ∧ fd = .bool f ∧ Hid (f = true ↔ N ∈ L2.take j) ∧ Hid (Below w5.heap.size w5 wr)) (fun _ i _ => m - (intOf i).toNat)
          case atStart => exact ⟨0, false, by omega, rfl, rfl, Lib.hid (by simp), Lib.hid (Below.refl _ _)⟩
          case round =>
            obtain ⟨j, f, hj, rfl, rfl, HF, HQ⟩ := hrel
            have BDQ := Lib.hid (below3 BD5.out HQ.out)
            by_cases hjm : j < m
            · obtain ⟨⟨u0, u1, u2⟩, _, _, _, _⟩ := HG.out.below (below3 HB.out BDQ.out)
              rw [HL.out] at u2
              have hcq : ∀ i, i < m → wr.cell? ⟨lb, lo + i, none⟩ = some (.int .i64 (L2.getD i 0)) := fun i hi => by rw [HQ.out.cell (p := ⟨lb, lo + i, none⟩) lb5]; exact HC5.out i hi
              have cj := hcq j hjm
              have bl5 := lt_of_cell u0
              have lbr : lb < wr.heap.size := Nat.lt_of_lt_of_le lb5 HQ.out.size
              have hUm := HS2.out j hjm
              have HT := Lib.hid (HTK.out j hjm)
              have BDD : Hid (Below wo.heap.size wo wr.drew) := Lib.hid (below3 BDQ.out ⟨rfl, rfl, rfl, Nat.le_refl _, fun _ _ => rfl⟩)
              have BQD : Hid (Below w5.heap.size w5 wr.drew) := Lib.hid (below3 HQ.out ⟨rfl, rfl, rfl, Nat.le_refl _, fun _ _ => rfl⟩)
              have cp : 0 < j → wr.cell? ⟨lb, lo + ((j : Int) - 1).toNat, none⟩ = some (.int .i64 (L2.getD (j - 1) 0)) := fun h => by
                rw [show ((j : Int) - 1).toNat = j - 1 by omega]; exact hcq (j - 1) (by omega)
              have hasc : 0 < j → L2.getD (j - 1) 0 < L2.getD j 0 := fun h => by
                have := HAS.out (j - 1) (by omega)
                rwa [show j - 1 + 1 = j by omega] at this
              clear hcq
              generalize L2.getD j 0 = U at *
              generalize L2.getD (j - 1) 0 = V at *
              have j1 : (0 : Int) ≤ (j : Int) := by omega
              have j2 : (j : Int) < (m : Int) := by omega
              have HUM := Lib.hid hUm
              clear hUm
              by_cases j0 : 0 < j
              · have cp' := cp j0
                have d1 : decide ((0 : Int) < (j : Int)) = true := by simp; omega
                have d2 : decide (U ≤ V) = false := by simp; exact hasc j0
                have d3 : IntKind.i64.wrap ((j : Int) - 1) = (j : Int) - 1 := IntWalk.i64_in _ (by omega)
                have d4 : (0 : Int) ≤ (j : Int) - 1 := by omega
                have d5 : (j : Int) - 1 < (m : Int) := by omega
                have d7 : (1 : Int) ≤ (j : Int) := by omega
                have d8 : 1 ≤ j := j0
                have d9 : j - 1 < m := by omega
                clear cp hasc
                go_wp2_with fail
                go_region_held3 (fun w' => w'.cell? ⟨b5, 0, none⟩ = some (.string s) ∧ w'.cell? ⟨b5, 1, none⟩ = some (.int .i64 off) ∧ w'.cell? ⟨b5, 2, none⟩ = some (.slice sa len cap) ∧ w'.cell? ⟨lb, lo + j, none⟩ = some (.int .i64 U)) ((first | exact ⟨q0, q1, q2, e1⟩ | exact ⟨u0, u1, u2, cj⟩ | go_keep)) ((go_at_call 24; refine (R24.out U HUM.out _ ?_).mono ?_; (first | exact BDD.out | exact BDQ.out); rintro e w6 ⟨rfl, hb6⟩; have BQ6 : Hid (Below w5.heap.size w5 w6) := Lib.hid (by first | exact below3 BQD.out hb6 | exact below3 HQ.out hb6); have lb6 : lb < w6.heap.size := Nat.lt_of_lt_of_le lbr hb6.size; have e1 : w6.cell? ⟨lb, lo + j, none⟩ = some (.int .i64 U) := (hb6.cell (p := ⟨lb, lo + j, none⟩) lbr).trans cj; have e2 : w6.cell? ⟨lb, lo + ((j : Int) - 1).toNat, none⟩ = some (.int .i64 V) := (hb6.cell (p := ⟨lb, lo + ((j : Int) - 1).toNat, none⟩) lbr).trans cp'; have e1s := e1; (have e3 : w6.cell? ⟨lb, lo + (j - 1), none⟩ = some (.int .i64 V) := (by rw [← show ((j : Int) - 1).toNat = j - 1 by omega]; exact e2)); have q0 := (hb6.cell (p := ⟨b5, 0, none⟩) bl5).trans u0; have q1 := (hb6.cell (p := ⟨b5, 1, none⟩) bl5).trans u1; have q2 := (hb6.cell (p := ⟨b5, 2, none⟩) bl5).trans u2; clear hb6))
                all_goals (
                  clear cj u0 u1 u2
                  go_wp2_with fail
                  go_region_held3 (fun w' => w'.cell? ⟨lb, lo + j, none⟩ = some (.int .i64 U) ∧ w'.cell? ⟨lb, lo + (j - 1), none⟩ = some (.int .i64 V)) ((first | exact ⟨e1, e3⟩ | go_keep)) (fail)
                  have BQ7 : Hid (Below w5.heap.size w5 w6.drew) := Lib.hid (below3 BQ6.out ⟨rfl, rfl, rfl, Nat.le_refl _, fun _ _ => rfl⟩)
                  clear e1
                  have e1 : w6.drew.cell? ⟨lb, lo + j, none⟩ = some (.int .i64 U) := e1s
                  cases f
                  · by_cases hUN : U = N
                    · have d6 : (U == N) = true := by simp [hUN]
                      have HF7 : Hid (true = true ↔ N ∈ L2.take (j + 1)) := Lib.hid (by rw [HT.out]; simp [hUN])
                      clear hUN
                      go_wp2_with fail
                      go_roundw
                      case rel => exact ⟨j + 1, true, by omega, by go_num, rfl, HF7, BQ7⟩
                      case measure => simp [intOf]; omega
                    · have d6 : (U == N) = false := by simp [hUN]
                      have HF7 : Hid (false = true ↔ N ∈ L2.take (j + 1)) := Lib.hid (by
                        rw [HT.out, List.mem_append, ← HF.out]; simp; exact fun h => hUN h.symm)
                      clear hUN
                      go_wp2_with fail
                      go_roundw
                      case rel => exact ⟨j + 1, false, by omega, by go_num, rfl, HF7, BQ7⟩
                      case measure => simp [intOf]; omega
                  · have HF7 : Hid (true = true ↔ N ∈ L2.take (j + 1)) := Lib.hid (by
                      rw [HT.out, List.mem_append, ← HF.out]; simp)
                    go_wp2_with fail
                    go_roundw
                    case rel => exact ⟨j + 1, true, by omega, by go_num, rfl, HF7, BQ7⟩
                    case measure => simp [intOf]; omega)
              · obtain rfl : j = 0 := by omega
                have cj0 : wr.cell? ⟨lb, lo, none⟩ = some (.int .i64 U) := cj
                have j3 : (0 : Int) < (m : Int) := by omega
                clear cp hasc j0 cj j1 j2
                have hz : ((0 : Nat) : Int) = 0 := rfl
                rw [hz]
                clear hz
                go_wp2_with fail
                go_region_held3 (fun w' => w'.cell? ⟨b5, 0, none⟩ = some (.string s) ∧ w'.cell? ⟨b5, 1, none⟩ = some (.int .i64 off) ∧ w'.cell? ⟨b5, 2, none⟩ = some (.slice sa len cap) ∧ w'.cell? ⟨lb, lo, none⟩ = some (.int .i64 U)) ((first | exact ⟨q0, q1, q2, e1⟩ | exact ⟨u0, u1, u2, cj0⟩ | go_keep)) ((go_at_call 24; refine (R24.out U HUM.out _ ?_).mono ?_; (first | exact BDD.out | exact BDQ.out); rintro e w6 ⟨rfl, hb6⟩; have BQ6 : Hid (Below w5.heap.size w5 w6) := Lib.hid (by first | exact below3 BQD.out hb6 | exact below3 HQ.out hb6); have lb6 : lb < w6.heap.size := Nat.lt_of_lt_of_le lbr hb6.size; have e1 : w6.cell? ⟨lb, lo, none⟩ = some (.int .i64 U) := (hb6.cell (p := ⟨lb, lo, none⟩) lbr).trans cj0; have e1s := e1; have q0 := (hb6.cell (p := ⟨b5, 0, none⟩) bl5).trans u0; have q1 := (hb6.cell (p := ⟨b5, 1, none⟩) bl5).trans u1; have q2 := (hb6.cell (p := ⟨b5, 2, none⟩) bl5).trans u2; clear hb6))
                all_goals (
                  clear cj0 u0 u1 u2
                  go_wp2_with fail
                  go_quiet (fail)
                  have BQ7 := Lib.hid (below3 BQ6.out (below_drewN w6 nq))
                  clear e1
                  have e1 : (w6.drewN nq).cell? ⟨lb, lo, none⟩ = some (.int .i64 U) := e1s
                  cases f
                  · by_cases hUN : U = N
                    · have d6 : (U == N) = true := by simp [hUN]
                      have HF7 : Hid (true = true ↔ N ∈ L2.take (0 + 1)) := Lib.hid (by rw [HT.out]; simp [hUN])
                      clear hUN
                      go_wp2_with fail
                      go_roundw
                      case rel => exact ⟨0 + 1, true, by omega, by first | go_num | rfl, rfl, HF7, BQ7⟩
                      case measure => simp [intOf]; omega
                    · have d6 : (U == N) = false := by simp [hUN]
                      have HF7 : Hid (false = true ↔ N ∈ L2.take (0 + 1)) := Lib.hid (by
                        rw [HT.out, List.mem_append, ← HF.out]; simp; exact fun h => hUN h.symm)
                      clear hUN
                      go_wp2_with fail
                      go_roundw
                      case rel => exact ⟨0 + 1, false, by omega, by first | go_num | rfl, rfl, HF7, BQ7⟩
                      case measure => simp [intOf]; omega
                  · have HF7 : Hid (true = true ↔ N ∈ L2.take (0 + 1)) := Lib.hid (by
                      rw [HT.out, List.mem_append, ← HF.out]; simp)
                    go_wp2_with fail
                    go_roundw
                    case rel => exact ⟨0 + 1, true, by omega, by first | go_num | rfl, rfl, HF7, BQ7⟩
                    case measure => simp [intOf]; omega)
            · obtain rfl : j = m := by omega
              have hf : f = true := HF.out.2 (by rw [List.take_of_length_le (by rw [HM2.out]; omega)]; exact HMN.out)
              subst hf
              have NQ := Lib.hid (below3 HB.out BDQ.out)
              go_wp2_with fail
              go_roundw
              case rel => exact ⟨k + 1, by omega, by go_num, NQ⟩
              case measure => simp [intOf]; omega
        · by_cases hr2 : N < 0
          all_goals
            go_wp2_with fail
            go_roundw
            case rel => exact ⟨k + 1, by omega, by go_num, HB⟩
            case measure => simp [intOf]; omega
      · obtain rfl : k = 2 := by omega
        go_wp2_with (first | (go_at_call 10; refine (awake_any _).mono ?_) | fail)
        rintro e w' ⟨rfl, hb⟩
        go_wp2_with fail
        go_ret
        exact ⟨rfl, below3 HBEL.out hb⟩

end Go.Proofs.YtllcoocllkaanaaDoor
