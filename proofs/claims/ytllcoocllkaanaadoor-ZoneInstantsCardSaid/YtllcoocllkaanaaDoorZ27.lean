import Derived.Test.YtllcoocllkaanaaDoorZ24
import Derived.Test.YtllcoocllkaanaaDoorZ23
namespace Go.Proofs.YtllcoocllkaanaaDoor
open Go.RowKit

def IntsR (L : List Int) (w : World) (e : Ending) (w' : World) : Prop := ∃ v, e = .returned v ∧ Ints w' v L ∧ Below w.heap.size w w'
theorem insts_len {nm : L8} {off loc : Int} {xs : Prs} : (insts nm off xs loc).length ≤ 2 := by
  unfold insts
  split
  · rename_i h
    obtain ⟨_, hn, _, hs⟩ := vldE_ok h.1
    exact segF_two xs 0 off _ hs hn
  · simp
/-- five numbers in a row -/
def NMid5 (p : Nat) (W : World) (s45 s46 s47 : Value) (wx : World) : Prop :=
  ∃ g : Nat, s45 = .slice (some ⟨g, 0, none⟩) 5 5 ∧ s46 = .int .i64 5 ∧ s47 = .int .i64 0 ∧ But p W wx ∧ ∀ j, j < 5 → ∃ N, wx.cell? ⟨g, j, none⟩ = some (.int .i64 N)

set_option maxRecDepth 100000 in
set_option maxHeartbeats 4000000 in
theorem law_instants (s0 : ByteArray) (off0 : Int) (a0 : Option Addr) (n0 c0 : Nat) (xs0 : Prs) (a : Option Addr) (n c : Nat) (L : List Int) (q : Int) (q0 : -9223372036854775808 ≤ q) (q1 : q ≤ 9223372036854775807) (w : World)
    (hs0 : s0.size ≤ 9223372036854775807) (hl0 : xs0.length = n0) (hn0 : n0 ≤ 9223372036854775807) (hc0 : xs0 = [] ∨ ∃ b of, a0 = some ⟨b, of, none⟩ ∧ PCells w b of xs0)
    (hI : IntsAt w a n L) (hL : ∀ x ∈ L, -9223372036854775808 ≤ x ∧ x ≤ 9223372036854775807) :
    Calls Tryd.prog 3 #[.agg #[.string s0, .int .i64 off0, .slice a0 n0 c0], .slice a n c, .int .i64 q] w (RetB (.bool true) w) := by
  have BX : Hid (Below w.heap.size w (w.alloc (.cells #[.string s0, .int .i64 off0, .slice a0 n0 c0] 24))) := Lib.hid ((Below.refl _ _).alloc (Nat.le_refl _) _)
  by_cases hn : n ≤ 400 ∧ n0 ≤ 100
  rotate_left
  · by_cases hn4 : n ≤ 400
    · have hd : decide (n ≤ 400) = true := by simpa using hn4
      have hn5 : 100 < n0 := by omega
      have hn6 : ¬ (n0 ≤ 100) := by omega
      clear hI hL hn hc0
      go_enter Tryd.func3, Tryd.ntmps3
      go_wp2_with (first | (go_at_call 9; refine (light_any _ _ _ _).mono ?_; rw [hd]; rintro e w' ⟨rfl, rfl⟩) | (go_at_call 10; refine (awake_any _).mono ?_; rintro e w' ⟨rfl, hb⟩))
      go_ret
      exact ⟨rfl, below3 BX.out hb⟩
    · have hd : decide (n ≤ 400) = false := by simpa using hn4
      clear hI hL hn hc0
      go_enter Tryd.func3, Tryd.ntmps3
      go_wp2_with (first | (go_at_call 9; refine (light_any _ _ _ _).mono ?_; rw [hd]; rintro e w' ⟨rfl, rfl⟩) | (go_at_call 10; refine (awake_any _).mono ?_; rintro e w' ⟨rfl, hb⟩))
      go_ret
      exact ⟨rfl, below3 BX.out hb⟩
  obtain ⟨hn4, hn5⟩ := hn
  have hd : decide (n ≤ 400) = true := by simpa using hn4
  have HD0 := Lib.hid (DiceAt.mk0 c 55 (hI.below BX.out) hn4 hL)
  have m0 := Int.emod_nonneg q (show (3000 : Int) ≠ 0 by decide)
  have m1 := Int.emod_lt_of_pos q (show (0 : Int) < 3000 by decide)
  have HM : Hid (∀ W, Calls Tryd.prog 13 #[.int .i64 q, .int .i64 3000] W (RetS (.int .i64 (q % 3000)) W)) := Lib.hid (fun W => mod_any q 3000 q0 q1 (by decide) (by decide) W)
  have B0 : Below w.heap.size w ((w.alloc (.cells #[.string s0, .int .i64 off0, .slice a0 n0 c0] 24)).alloc (.cells #[.slice a n c, .int .i64 0] 55)) := BX.out.alloc (by simp) _
  have hz0 : ZC ((w.alloc (.cells #[.string s0, .int .i64 off0, .slice a0 n0 c0] 24)).alloc (.cells #[.slice a n c, .int .i64 0] 55)) (w.heap.size + 1) w.heap.size 0 s0 off0 a0 n0 c0 xs0 := by
    refine ⟨?_, ?_, ?_, hl0, hn5, hs0, by omega, ?_⟩
    · rw [World.cell?_alloc_past _ _ _ (by simp), World.cell?_alloc_at _ _ _ _ rfl]; rfl
    · rw [World.cell?_alloc_past _ _ _ (by simp), World.cell?_alloc_at _ _ _ _ rfl]; rfl
    · rw [World.cell?_alloc_past _ _ _ (by simp), World.cell?_alloc_at _ _ _ _ rfl]; rfl
    · rcases hc0 with h0 | ⟨b, of, e, hP⟩
      · exact Or.inl h0
      · by_cases h0 : xs0 = []
        · exact Or.inl h0
        · have hb := lt_of_cell (hP 0 (List.length_pos_iff.2 h0)).1
          exact Or.inr ⟨b, of, e, by simp at hb; omega, hP.below B0⟩
  have HZ0 := Lib.hid hz0
  have HB0 := Lib.hid B0
  clear hI hL hn4 hc0 hz0 B0
  generalize q % 3000 = x at *
  go_enter Tryd.func3, Tryd.ntmps3
  go_wp2_with (first | (go_at_call 9; refine (light_any _ _ _ _).mono ?_; rw [hd]; rintro e w' ⟨rfl, rfl⟩) | (go_at_call 11; refine (roll_any _ _ _ _).mono ?_; rintro e w' ⟨rfl, rfl⟩) | fail)
  have HD1 : Hid (DiceAt ((w.alloc (.cells #[.string s0, .int .i64 off0, .slice a0 n0 c0] 24)).alloc (.cells #[.slice a n c, .int .i64 0] 55)) (w.heap.size + 1)) := by simpa using HD0
  generalize (w.alloc (.cells #[.string s0, .int .i64 off0, .slice a0 n0 c0] 24)).alloc (.cells #[.slice a n c, .int .i64 0] 55) = W0 at *
  generalize hp : w.heap.size + 1 = p at *
  have HP := Lib.hid hp
  clear hp HD0
  have hpl := HD1.out.lt
  go_wp2_with (first | (go_at_call 12; refine (some_any p _ HD1.out).mono ?_) | fail)
  rintro e w3 ⟨s, off, az, cz, xs, rfl, h2, h3, h4, h5, h6⟩
  have hpl3 := h5.lt
  have hn3 : w3.heap.size ≠ p := by omega
  have HZ1 : Hid (ZC (w3.alloc (.cells #[.string s, .int .i64 off, .slice az xs.length cz] 24)) p w3.heap.size 0 s off az xs.length cz xs) := Lib.hid (by
    refine ZC.of_some h2 h3 ?_ hn3 (by rw [World.cell?_alloc_at _ _ _ _ rfl]; rfl) (by rw [World.cell?_alloc_at _ _ _ _ rfl]; rfl) (by rw [World.cell?_alloc_at _ _ _ _ rfl]; rfl)
    rcases h4 with h0 | ⟨b, of, e, hb, hP⟩
    · exact Or.inl h0
    · exact Or.inr ⟨b, of, e, hb, hP.below ((Below.refl _ _).alloc (Nat.le_refl _) _)⟩)
  have HD4 : Hid (DiceAt (w3.alloc (.cells #[.string s, .int .i64 off, .slice az xs.length cz] 24)) p) := Lib.hid (h5.alloc _)
  have HZ4 : Hid (ZC (w3.alloc (.cells #[.string s, .int .i64 off, .slice az xs.length cz] 24)) p w.heap.size 0 s0 off0 a0 n0 c0 xs0) := Lib.hid (HZ0.out.but (h6.alloc _))
  have HB4 : Hid (But p W0 (w3.alloc (.cells #[.string s, .int .i64 off, .slice az xs.length cz] 24))) := Lib.hid (h6.alloc _)
  clear h2 h3 h4 h5 h6 HZ0 HD1
  generalize xs.length = nz at *
  go_wp2_with fail
  generalize w3.alloc (.cells #[.string s, .int .i64 off, .slice az nz cz] 24) = w4 at *
  generalize w3.heap.size = b3 at *
  obtain ⟨y0, y1, y2, _, _, _, _, _⟩ := HZ1.out
  have yl := lt_of_cell y0
  have dl := HD4.out.lt
  have near : Hid (∀ W, DiceAt W p → But p w4 W → Calls Tryd.prog 14 #[.pointer (some ⟨p, 0, none⟩), .agg #[.string s, .int .i64 off, .slice az nz cz]] W (NearP p W)) := Lib.hid (fun W hD hB => by
    have h := HZ1.out.but hB
    exact mnear_any p W s off _ _ _ xs h.len h.cel h.le hD)
  have BD : Hid (DiceAt w4.drew p) := Lib.hid HD4.out.drew
  have BB : But p w4 w4.drew := (But.refl _ _).drew
  have t1 : IntKind.i64.wrap (x - 1500) = x - 1500 := IntWalk.i64_in _ (by omega)
  have t2 : IntKind.i64.wrap (52596000 + x) = 52596000 + x := IntWalk.i64_in _ (by omega)
  have t3 : IntKind.i64.wrap (52596000 + x - 1500) = 52596000 + x - 1500 := IntWalk.i64_in _ (by omega)
  go_upto_region 5 with fail
  go_cut [45, 46, 47] (fun s45 s46 s47 wx => NMid5 p w4 s45 s46 s47 wx)
  case first =>
    go_region_held3 (fun w' => w'.cell? ⟨b3, 0, none⟩ = some (.string s) ∧ w'.cell? ⟨b3, 1, none⟩ = some (.int .i64 off) ∧ w'.cell? ⟨b3, 2, none⟩ = some (.slice az nz cz)) ((first | exact ⟨k0, k1, k2⟩ | exact ⟨y0, y1, y2⟩ | go_keep)) ((first
      | (go_at_call 13; refine (HM.out _).mono ?_; rintro e w' ⟨rfl, rfl⟩)
      | (go_at_call 14; refine (near.out _ ?_ ?_).mono ?_; (first | exact HD4.out | exact BD.out | (exact HDN.out)); (first | exact BB | exact But.refl _ _ | assumption); rintro e w5 ⟨y, rfl, yy0, yy1, hd5, hb5⟩; have BN : But p w4 w5 := (by first | exact hb5 | exact hb5.undrw | exact BN.trans hb5); have hd5l := hd5.lt; have HDN := Lib.hid hd5; obtain ⟨k0, k1, k2, _, _, _, _, _⟩ := HZ1.out.but BN; have kl := lt_of_cell k0; clear hd5 hb5)))
    all_goals (
      go_wp2_with fail
      go_meet
      refine ⟨_, rfl, rfl, rfl, BN.alloc _, fun j hj => ?_⟩
      rcases (show j = 0 ∨ j = 1 ∨ j = 2 ∨ j = 3 ∨ j = 4 by omega) with rfl | rfl | rfl | rfl | rfl
      · exact ⟨_, by rw [World.cell?_alloc_at _ _ _ _ rfl]; rfl⟩
      · exact ⟨_, by rw [World.cell?_alloc_at _ _ _ _ rfl]; rfl⟩
      · exact ⟨_, by rw [World.cell?_alloc_at _ _ _ _ rfl]; rfl⟩
      · exact ⟨_, by rw [World.cell?_alloc_at _ _ _ _ rfl]; rfl⟩
      · exact ⟨_, by rw [World.cell?_alloc_at _ _ _ _ rfl]; rfl⟩)
  case rest =>
    obtain ⟨g, rfl, rfl, rfl, hbx, hnn⟩ := hcut
    have HN := Lib.hid hnn
    have HZA := Lib.hid (HZ4.out.but hbx)
    have HZB := Lib.hid (HZ1.out.but hbx)
    have HBX := Lib.hid (But.below HB0.out (HB4.out.trans hbx) (by have := HP.out; omega) (by have := HP.out; omega))
    have hg : g < wc.heap.size := by obtain ⟨N, hN⟩ := hnn 0 (by omega); exact lt_of_cell hN
    clear hbx hnn HZ4 HZ1 HB4 near BD BB t1 t2 t3 y0 y1 y2 yl dl HM HD4
    go_wp2_with fail
    go_loopw [47] (fun i wr => ∃ k : Nat, k ≤ 5 ∧ i = .int .i64 k ∧ Hid (Below wc.heap.size wc wr)) (fun i _ => 5 - (intOf i).toNat)
    case atStart => exact ⟨0, by omega, rfl, Lib.hid (Below.refl _ _)⟩
    case round =>
      obtain ⟨k, hk, rfl, HB⟩ := hrel
      by_cases hlt : k < 5
      · obtain ⟨N, hN⟩ := HN.out k hlt
        have hN' : wr.cell? ⟨g, k, none⟩ = some (.int .i64 N) := (HB.out.cell (p := ⟨g, k, none⟩) hg).trans hN
        clear hN
        have HA := Lib.hid (HZA.out.below HB.out)
        have HC := Lib.hid (HZB.out.below HB.out)
        obtain ⟨y0, y1, y2, _, _, _, _, _⟩ := HA.out
        obtain ⟨x0, x1, x2, _, _, _, _, _⟩ := HC.out
        have yl := lt_of_cell y0
        have xl := lt_of_cell x0
        go_wp2_with fail
        have hne : wr.heap.size ≠ p := by omega
        have HZ2 : Hid (∀ j, j < 2 → ∃ s1 off1 a1 n1 c1 xs1, ZC (wr.alloc (.cells #[.string s0, .int .i64 off0, .slice a0 n0 c0, .string s, .int .i64 off, .slice az nz cz] 24)) p wr.heap.size (j * 3) s1 off1 a1 n1 c1 xs1) := Lib.hid (fun j hj => by
          rcases (show j = 0 ∨ j = 1 by omega) with rfl | rfl
          · exact ⟨_, _, _, _, _, _, HA.out.box ((But.refl p wr).alloc _) hne (by rw [World.cell?_alloc_at _ _ _ _ rfl]; rfl) (by rw [World.cell?_alloc_at _ _ _ _ rfl]; rfl) (by rw [World.cell?_alloc_at _ _ _ _ rfl]; rfl)⟩
          · exact ⟨_, _, _, _, _, _, HC.out.box ((But.refl p wr).alloc _) hne (by rw [World.cell?_alloc_at _ _ _ _ rfl]; rfl) (by rw [World.cell?_alloc_at _ _ _ _ rfl]; rfl) (by rw [World.cell?_alloc_at _ _ _ _ rfl]; rfl)⟩)
        have BQ : Hid (Below wc.heap.size wc (wr.alloc (.cells #[.string s0, .int .i64 off0, .slice a0 n0 c0, .string s, .int .i64 off, .slice az nz cz] 24))) := Lib.hid (below3 HB.out ((Below.refl _ _).alloc (Nat.le_refl _) _))
        have hp5 : p < (wr.alloc (.cells #[.string s0, .int .i64 off0, .slice a0 n0 c0, .string s, .int .i64 off, .slice az nz cz] 24)).heap.size := by simp; omega
        clear y0 y1 y2 x0 x1 x2 yl xl hN' HA HC HB
        generalize wr.alloc (.cells #[.string s0, .int .i64 off0, .slice a0 n0 c0, .string s, .int .i64 off, .slice az nz cz] 24) = w5 at *
        generalize wr.heap.size = g5 at *
        obtain ⟨wo, rfl⟩ : ∃ wo : World, wo = wc := ⟨_, rfl⟩
        clear HN HZA HZB hg
        go_loopw [55] (fun i wr => ∃ j : Nat, j ≤ 2 ∧ i = .int .i64 j ∧ Hid (Below w5.heap.size w5 wr)) (fun i _ => 2 - (intOf i).toNat)
        case atStart => exact ⟨0, by omega, rfl, Lib.hid (Below.refl _ _)⟩
        case round =>
          obtain ⟨j, hj, rfl, HQ⟩ := hrel
          by_cases hj2 : j < 2
          · obtain ⟨s1, off1, a1, n1, c1, xs1, hz⟩ := HZ2.out j hj2
            have HZ := Lib.hid (hz.below HQ.out)
            clear hz
            obtain ⟨y0, y1, y2, hlen, hle, hsz, hgp, _⟩ := HZ.out
            clear hlen
            have gl := lt_of_cell y0
            go_wp2_with fail
            have hrn : wr.heap.size ≠ p := by have := HQ.out.size; omega
            have HZ1 : Hid (ZC (wr.alloc (.cells #[.string s1, .int .i64 off1, .slice a1 n1 c1] 24)) p wr.heap.size 0 s1 off1 a1 n1 c1 xs1) := Lib.hid (HZ.out.box ((But.refl p wr).alloc _) hrn (by rw [World.cell?_alloc_at _ _ _ _ rfl]; rfl) (by rw [World.cell?_alloc_at _ _ _ _ rfl]; rfl) (by rw [World.cell?_alloc_at _ _ _ _ rfl]; rfl))
            have HB1 : Hid (Below w5.heap.size w5 (wr.alloc (.cells #[.string s1, .int .i64 off1, .slice a1 n1 c1] 24))) := Lib.hid (below3 HQ.out ((Below.refl _ _).alloc (Nat.le_refl _) _))
            clear y0 y1 y2 HZ HQ
            generalize wr.alloc (.cells #[.string s1, .int .i64 off1, .slice a1 n1 c1] 24) = wz at *
            generalize wr.heap.size = bz at *
            obtain ⟨y0, y1, y2, _, _, _, _, _⟩ := HZ1.out
            have zl := lt_of_cell y0
            have R : Hid (∃ (V E : Int) (L2 : List Int), L2.length ≤ 1000000 ∧ ∀ W, Below wz.heap.size wz W → (Calls Tryd.prog 15 #[.agg #[.string s1, .int .i64 off1, .slice a1 n1 c1], .int .i64 N] W (RetB (.tuple #[.int .i64 V, .int .i64 E]) W)) ∧ (Calls Tryd.prog 16 #[.agg #[.string s1, .int .i64 off1, .slice a1 n1 c1], .int .i64 N] W (RetB (.tuple #[.int .i64 V, .int .i64 E]) W)) ∧ (Calls Tryd.prog 18 #[.agg #[.string s1, .int .i64 off1, .slice a1 n1 c1], .int .i64 N] W (IntsR L2 W)) ∧ (Calls Tryd.prog 19 #[.agg #[.string s1, .int .i64 off1, .slice a1 n1 c1], .int .i64 N] W (IntsR L2 W))) :=
              Lib.hid ⟨_, _, insts s1.data.toList off1 xs1 N, Nat.le_trans insts_len (by decide), fun W hb => ⟨resolve_any N W (HZ1.out.below hb).val, rresolve_any N W (HZ1.out.below hb).val, instants_any N W (HZ1.out.below hb).val, rinstants_any N W (HZ1.out.below hb).val⟩⟩
            obtain ⟨V, E, L2, hL2, hR⟩ := R.out
            have HR := Lib.hid hR
            have HL2 := Lib.hid hL2
            clear hR R hL2
            go_wp2_with (first | (go_at_call 15; refine ((HR.out _ (Below.refl _ _)).1).mono ?_) | fail)
            rintro e w6 ⟨rfl, hb6⟩
            have BD6 := Lib.hid hb6
            obtain ⟨hc6, hf6⟩ := bcell hb6
            clear hb6 hf6
            go_wp2_with (first | (go_at_call 16; refine ((HR.out _ BD6.out).2.1).mono ?_) | fail)
            rintro e w7 ⟨rfl, hb7⟩
            have BD7 := Lib.hid (below3 BD6.out hb7)
            clear hc6 hb7
            obtain ⟨u0, u1, u2, _, _, _, _, _⟩ := HZ1.out.below BD7.out
            have ul := lt_of_cell u0
            have BE7 : Hid (Below wz.heap.size wz w7.drew) := Lib.hid (below3 BD7.out ⟨rfl, rfl, rfl, Nat.le_refl _, fun _ _ => rfl⟩)
            have e1 : (V != V) = false := by simp
            have e2 : (E != E) = false := by simp
            clear y0 y1 y2 zl
            go_upto_region 13 with fail
            go_cut [88] (fun s88 wx => s88 = .bool false ∧ Below wz.heap.size wz wx)
            case first =>
              go_region_held3 (fun w' => w'.cell? ⟨bz, 0, none⟩ = some (.string s1) ∧ w'.cell? ⟨bz, 1, none⟩ = some (.int .i64 off1) ∧ w'.cell? ⟨bz, 2, none⟩ = some (.slice a1 n1 c1)) ((first | exact ⟨k0, k1, k2⟩ | exact ⟨u0, u1, u2⟩ | go_keep))
                ((first
                  | (go_at_call 18; refine ((HR.out _ ?_).2.2.1).mono ?_; (first | with_reducible exact BE7.out | with_reducible assumption); rintro e w8 ⟨v1, rfl, hi1, hb8⟩; have BQ8 : Below wz.heap.size wz w8 := (by first | with_reducible exact below3 BE7.out hb8 | with_reducible exact below3 (by with_reducible assumption) hb8); obtain ⟨k0, k1, k2, _, _, _, _, _⟩ := HZ1.out.below BQ8; have kl := lt_of_cell k0)
                  | (go_at_call 19; refine ((HR.out _ ?_).2.2.2).mono ?_; (first | with_reducible exact BE7.out | with_reducible assumption); rintro e w9 ⟨v2, rfl, hi2, hb9⟩; have BQ9 : Below wz.heap.size wz w9 := (by first | with_reducible exact below3 BE7.out hb9 | with_reducible exact below3 BQ8 hb9); obtain ⟨k0, k1, k2, _, _, _, _, _⟩ := HZ1.out.below BQ9; have kl := lt_of_cell k0)
                  | (go_at_call 17; refine (same_any _ HL2.out ?_ ?_).mono ?_; (first | with_reducible exact hi1 | with_reducible exact hi1.below hb9); (first | with_reducible exact hi2 | with_reducible exact hi2.below hb8); rintro e w10 ⟨rfl, hb10⟩; have BQ10 : Below wz.heap.size wz w10 := (by first | with_reducible exact below3 BQ9 hb10 | with_reducible exact below3 BQ8 hb10); obtain ⟨k0, k1, k2, _, _, _, _, _⟩ := HZ1.out.below BQ10)))
              all_goals (
                go_wp2_with fail
                go_meet
                exact ⟨by simp, by assumption⟩)
            case rest =>
              obtain ⟨rfl, hbz⟩ := hcut
              have BF := Lib.hid (below3 HB1.out hbz)
              go_wp2_with fail
              go_roundw
              case rel => exact ⟨j + 1, by omega, by go_num, BF⟩
              case measure => simp [intOf]; omega
          · obtain rfl : j = 2 := by omega
            have BE := Lib.hid (below3 BQ.out HQ.out)
            go_wp2_with fail
            go_roundw
            case rel => exact ⟨k + 1, by omega, by go_num, BE⟩
            case measure => simp [intOf]; omega
      · obtain rfl : k = 5 := by omega
        have BE : Hid (Below w.heap.size w wr) := Lib.hid (below3 HBX.out HB.out)
        go_wp2_with (first | (go_at_call 10; refine (awake_any _).mono ?_) | fail)
        rintro e w' ⟨rfl, hb⟩
        go_wp2_with fail
        go_ret
        exact ⟨rfl, below3 BE.out hb⟩
end Go.Proofs.YtllcoocllkaanaaDoor
