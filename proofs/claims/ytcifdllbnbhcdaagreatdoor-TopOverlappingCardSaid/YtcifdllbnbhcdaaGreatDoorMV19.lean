/- Texts V99, joined: walks and laws. -/
import Derived.Test.YtcifdllbnbhcdaaGreatDoorMV17
import Derived.Test.YtcifdllbnbhcdaaGreatDoorMV18
set_option linter.unusedSimpArgs false
set_option linter.unusedVariables false
namespace Go.Proofs.YtcifdllbnbhcdaaGreatDoor
open Go.RowKit
set_option maxRecDepth 100000 in
set_option maxHeartbeats 16000000 in
theorem open_any (a : Option Addr) (n c : Nat) (b : L8) (m : Int) (w : World) (hx : BV w (a, n, c) b) (ho : NilOk (a, n, c)) (hE : Env w) :
    Calls Tryz.prog 183 #[.slice a n c, .int .i64 m] w (OpnR (opnS m b) w) := by
  have hl : b.length = n := hx.2.1
  have hc : n ≤ c := hx.1
  have n1 : n ≤ 9223372036854775807 := hx.2.2.1
  have HX := Lib.hid hx.2
  have HNO := Lib.hid ho
  have HE := Lib.hid hE
  have HO : Hid (opnS m b = if m < 1 ∨ 20 < m then (3, lgZ, 0) else if 1048576 < b.length then (2, lgZ, 0)
    else (0, (b.take (b.length - (opnL m b).2.2.length), ((b.length - (opnL m b).2.2.length : Nat) : Int), (opnL m b).1, (opnL m b).2.1), ((opnL m b).2.2.length : Int))) := Lib.hid rfl
  clear hx ho hE
  have HR0 := Lib.hid (BX.mk0 (vs := #[.slice none 0 0, .int .i64 0, .slice none 0 0, .slice none 0 0]) (T := 68) w)
  by_cases hm : m < 1 ∨ 20 < m
  · have HF : Hid (opnS m b = (3, lgZ, 0)) := Lib.hid (by rw [HO.out, if_pos hm])
    rcases (show m < 1 ∨ (1 ≤ m ∧ 20 < m) by omega) with h | ⟨h, h'⟩
    all_goals
      clear hm
      go_enter Tryz.func183, Tryz.ntmps183
      go_upto_region 2 with fail
      generalize w.alloc (.cells #[.slice none 0 0, .int .i64 0, .slice none 0 0, .slice none 0 0] 68) = wa at *
      obtain ⟨R, hR⟩ : ∃ R, R = w.heap.size := ⟨_, rfl⟩
      rw [← hR] at HR0 ⊢
      clear hR
      have HR9 : Hid (BX w _ R #[.slice none 0 0, .int .i64 0, .slice none 0 0, .slice none 0 0] 68) := Lib.hid (HR0.out.set4 (.slice none 0 0) (.int .i64 0) (.slice none 0 0) (.slice none 0 0))
      obtain ⟨⟨rc0, rc1, rc2, rc3⟩, rf0, rf1, rf2, rf3⟩ := HR0.out.four
      go_wp2_with fail
      generalize (((World.setCell wa ⟨R, 0, none⟩ (.slice none 0 0)).setCell ⟨R, 1, none⟩ (.int .i64 0)).setCell ⟨R, 2, none⟩ (.slice none 0 0)).setCell ⟨R, 3, none⟩ (.slice none 0 0) = W9 at *
      clear rc0 rc1 rc2 rc3 rf0 rf1 rf2 rf3
      obtain ⟨⟨rc0, rc1, rc2, rc3⟩, _⟩ := HR9.out.four
      refine bodyPost_ret (v := .tuple #[.agg #[.slice none 0 0, .int .i64 0, .slice none 0 0, .slice none 0 0], .int .i64 0, .int .i64 3]) (by simp [results, Tryz.results183, go_sem, rc0, rc1, rc2, rc3]) rfl ?_
      rw [HF.out]
      exact ⟨_, rfl, LogO.zero _ _, HR9.out.bl⟩
  have m1 : 1 ≤ m := by omega
  have m2 : m ≤ 20 := by omega
  by_cases hn : 1048576 < n
  · have HF : Hid (opnS m b = (2, lgZ, 0)) := Lib.hid (by rw [HO.out, if_neg hm, if_pos (by omega)])
    clear hm
    have h8 : (1048576 : Int) < n := by omega
    go_enter Tryz.func183, Tryz.ntmps183
    go_upto_region 4 with fail
    generalize w.alloc (.cells #[.slice none 0 0, .int .i64 0, .slice none 0 0, .slice none 0 0] 68) = wa at *
    obtain ⟨R, hR⟩ : ∃ R, R = w.heap.size := ⟨_, rfl⟩
    rw [← hR] at HR0 ⊢
    clear hR
    have HR9 : Hid (BX w _ R #[.slice none 0 0, .int .i64 0, .slice none 0 0, .slice none 0 0] 68) := Lib.hid (HR0.out.set4 (.slice none 0 0) (.int .i64 0) (.slice none 0 0) (.slice none 0 0))
    obtain ⟨⟨rc0, rc1, rc2, rc3⟩, rf0, rf1, rf2, rf3⟩ := HR0.out.four
    go_wp2_with fail
    generalize (((World.setCell wa ⟨R, 0, none⟩ (.slice none 0 0)).setCell ⟨R, 1, none⟩ (.int .i64 0)).setCell ⟨R, 2, none⟩ (.slice none 0 0)).setCell ⟨R, 3, none⟩ (.slice none 0 0) = W9 at *
    clear rc0 rc1 rc2 rc3 rf0 rf1 rf2 rf3
    obtain ⟨⟨rc0, rc1, rc2, rc3⟩, _⟩ := HR9.out.four
    refine bodyPost_ret (v := .tuple #[.agg #[.slice none 0 0, .int .i64 0, .slice none 0 0, .slice none 0 0], .int .i64 0, .int .i64 2]) (by simp [results, Tryz.results183, go_sem, rc0, rc1, rc2, rc3]) rfl ?_
    rw [HF.out]
    exact ⟨_, rfl, LogO.zero _ _, HR9.out.bl⟩
  have HP : Hid (opnS m b = (0, (b.take (b.length - (opnL m b).2.2.length), ((b.length - (opnL m b).2.2.length : Nat) : Int), (opnL m b).1, (opnL m b).2.1), ((opnL m b).2.2.length : Int))) := Lib.hid (by rw [HO.out, if_neg hm, if_neg (by omega)])
  clear HO hm
  have h8 : (n : Int) ≤ 1048576 := by omega
  go_enter Tryz.func183, Tryz.ntmps183
  go_upto_region 5 with fail
  generalize w.alloc (.cells #[.slice none 0 0, .int .i64 0, .slice none 0 0, .slice none 0 0] 68) = wa at *
  obtain ⟨R, hR⟩ : ∃ R, R = w.heap.size := ⟨_, rfl⟩
  rw [← hR] at HR0 ⊢
  clear hR
  have HG0 := Lib.hid (BX.mk0 (vs := #[.slice none 0 0, .int .i64 0, .slice none 0 0, .slice none 0 0]) (T := 68) wa)
  go_upto_block 0 with fail
  generalize wa.alloc (.cells #[.slice none 0 0, .int .i64 0, .slice none 0 0, .slice none 0 0] 68) = wb at *
  obtain ⟨G, hG⟩ : ∃ G, G = wa.heap.size := ⟨_, rfl⟩
  rw [← hG] at HG0 ⊢
  clear hG
  have hgb := HG0.out.lt
  have HG0s := Lib.hid HG0.out.bl.size
  go_cut [8] (fun s8 wx => ∃ (k : Nat) (vs : List Ver) (ss : List Ses) (s1 s2 : Sl), s8 = .int .i64 k ∧ k ≤ b.length ∧ Hid (opnL m b = (vs, ss, b.drop k)) ∧ Hid (BX wa wx G #[.slice none 0 0, .int .i64 0, .slice s1.1 s1.2.1 s1.2.2, .slice s2.1 s2.2.1 s2.2.2] 68) ∧ Hid (VRow wx wb.heap.size (slV s1) vs) ∧ Hid (SRow wx wb.heap.size (slV s2) ss) ∧ wb.heap.size ≤ wx.heap.size)
  case first =>
    go_wp2_with fail
    go_loopw [8] (fun p wr => ∃ (k : Nat) (vs : List Ver) (ss : List Ses) (s1 s2 : Sl), p = .int .i64 k ∧ Hid (OpI m b k vs ss) ∧ Hid (BX wa wr G #[.slice none 0 0, .int .i64 0, .slice s1.1 s1.2.1 s1.2.2, .slice s2.1 s2.2.1 s2.2.2] 68) ∧ Hid (VRow wr wb.heap.size (slV s1) vs) ∧ Hid (SRow wr wb.heap.size (slV s2) ss) ∧ Hid (wb.heap.size ≤ wr.heap.size)) (fun p _ => n - (intOf p).toNat)
    case atStart => exact ⟨0, [], [], (none, 0, 0), (none, 0, 0), rfl, Lib.hid (OpI.start m b), HG0, Lib.hid (VRow.nil _ _), Lib.hid (World.ownsRow_nil _ _ _ _), Lib.hid (Nat.le_refl _)⟩
    case round =>
      obtain ⟨k, vs, ss, ⟨va, vn, vc⟩, ⟨sa, sn, sc⟩, rfl, HI, HG, HV, HS, HZ⟩ := hrel
      have hk := HI.out.le
      have k1 : (0 : Int) ≤ k := by omega
      have k2 : (k : Int) ≤ n := by omega
      have k3 : (k : Int) ≤ c := by omega
      have k4 : (n : Int) ≤ c := by omega
      have HBw := Lib.hid (below3 HR0.out.bl HG.out.bl)
      have HDA : Hid (∀ A C, (A = none → C = 0) → n - k ≤ C → BAt w A (n - k) (b.drop k) → Calls Tryz.prog 263 #[.slice A ((n - k : Nat)) C] wr (RdR (decV (b.drop k)) wr)) := Lib.hid (fun A C h1 h2 h3 => decode_any A (n - k) C (b.drop k) wr ⟨h2, h3.below HBw.out⟩ h1 (HE.out.below HBw.out) (by omega))
      go_upto_region 7 with fail
      go_cut [9, 10, 11] (fun s10 s11 s12 wx => RdC (decV (b.drop k)) wr s10 s11 s12 wx)
      case first =>
        have HD0 : Hid (∀ A, n - k = 0 → BAt w A (n - k) (b.drop k)) := Lib.hid (fun A h => ⟨by rw [List.length_drop, hl], by omega, Or.inl h⟩)
        rcases HX.out.2.2 with h0 | ⟨ba, oa, rfl, _⟩
        · subst h0
          have HD9 : Hid (∀ A C, (A = none → C = 0) → Calls Tryz.prog 263 #[.slice A 0 C] wr (RdR (decV (b.drop k)) wr)) := Lib.hid (fun A C h => by
            have h2 := HDA.out A C h (by omega) (HD0.out A (by omega))
            rw [show 0 - k = 0 by omega] at h2
            exact h2)
          clear HDA HD0
          by_cases hck : c = k
          · obtain rfl : k = c := hck.symm
            have HN9 : Hid (a = none → k = 0) := HNO
            go_wp2_with fail
            all_goals (
              refine (HD9.out _ _ (by first | (intro _; rfl) | exact HN9.out | (intro _; omega) | (intro h; exact absurd h (by simp)))).mono ?_
              rintro en w1 h1
              obtain ⟨v0, v1, ⟨ta, tn, tc⟩, x1, ok1, rfl, hb1, hq⟩ := h1.two
              have HQ := Lib.hid hq
              have HB1 := Lib.hid hb1
              clear h1 hq hb1
              go_wp2_with fail
              go_meet
              exact ⟨_, v0, v1, (ta, tn, tc), x1, ok1, rfl, rfl, rfl, ⟨heap_alloc_new _ _, HB1.out.size, HB1.out.alloc HB1.out.size _⟩, HQ.out.imp id (fun h => ⟨h.1, h.2.imp fun v hv => ⟨hv.1, hv.2.1, hv.2.2.1, hv.2.2.2.1, hv.2.2.2.2.below ((Below.refl _ _).alloc (Nat.le_refl _) _)⟩⟩)⟩)
          · have hck2 : ¬ k = c := fun h => hck h.symm
            cases a with
            | none =>
              have : c = 0 := HNO.out rfl
              omega
            | some ad =>
            go_wp2_with fail
            all_goals (
              refine (HD9.out _ _ (fun h => by cases h)).mono ?_
              rintro en w1 h1
              obtain ⟨v0, v1, ⟨ta, tn, tc⟩, x1, ok1, rfl, hb1, hq⟩ := h1.two
              have HQ := Lib.hid hq
              have HB1 := Lib.hid hb1
              clear h1 hq hb1
              go_wp2_with fail
              go_meet
              exact ⟨_, v0, v1, (ta, tn, tc), x1, ok1, rfl, rfl, rfl, ⟨heap_alloc_new _ _, HB1.out.size, HB1.out.alloc HB1.out.size _⟩, HQ.out.imp id (fun h => ⟨h.1, h.2.imp fun v hv => ⟨hv.1, hv.2.1, hv.2.2.1, hv.2.2.2.1, hv.2.2.2.2.below ((Below.refl _ _).alloc (Nat.le_refl _) _)⟩⟩)⟩)
        · have HD1 : Hid (BAt w (some ⟨ba, oa + k, none⟩) (n - k) (b.drop k)) := Lib.hid (by
            have := KAt.drop HX.out (by omega : k ≤ n)
            rw [Nat.mul_one] at this; exact this)
          by_cases hck : c = k
          · obtain rfl : k = c := hck.symm
            have HD9 : Hid (∀ A C, (A = none → C = 0) → Calls Tryz.prog 263 #[.slice A 0 C] wr (RdR (decV (b.drop k)) wr)) := Lib.hid (fun A C h => by
              have h2 := HDA.out A C h (by omega) (HD0.out A (by omega))
              rw [show n - k = 0 by omega] at h2
              exact h2)
            clear HDA HD0 HD1
            go_wp2_with fail
            all_goals (
              refine (HD9.out _ _ (fun _ => rfl)).mono ?_
              rintro en w1 h1
              obtain ⟨v0, v1, ⟨ta, tn, tc⟩, x1, ok1, rfl, hb1, hq⟩ := h1.two
              have HQ := Lib.hid hq
              have HB1 := Lib.hid hb1
              clear h1 hq hb1
              go_wp2_with fail
              go_meet
              exact ⟨_, v0, v1, (ta, tn, tc), x1, ok1, rfl, rfl, rfl, ⟨heap_alloc_new _ _, HB1.out.size, HB1.out.alloc HB1.out.size _⟩, HQ.out.imp id (fun h => ⟨h.1, h.2.imp fun v hv => ⟨hv.1, hv.2.1, hv.2.2.1, hv.2.2.2.1, hv.2.2.2.2.below ((Below.refl _ _).alloc (Nat.le_refl _) _)⟩⟩)⟩)
          · have hck2 : ¬ k = c := fun h => hck h.symm
            have HD9 := Lib.hid (HDA.out (some ⟨ba, oa + k, none⟩) (c - k) (fun h => by cases h) (by omega) HD1.out)
            clear HDA HD0 HD1
            go_wp2_with fail
            all_goals (
              refine HD9.out.mono ?_
              rintro en w1 h1
              obtain ⟨v0, v1, ⟨ta, tn, tc⟩, x1, ok1, rfl, hb1, hq⟩ := h1.two
              have HQ := Lib.hid hq
              have HB1 := Lib.hid hb1
              clear h1 hq hb1
              go_wp2_with fail
              go_meet
              exact ⟨_, v0, v1, (ta, tn, tc), x1, ok1, rfl, rfl, rfl, ⟨heap_alloc_new _ _, HB1.out.size, HB1.out.alloc HB1.out.size _⟩, HQ.out.imp id (fun h => ⟨h.1, h.2.imp fun v hv => ⟨hv.1, hv.2.1, hv.2.2.1, hv.2.2.2.1, hv.2.2.2.2.below ((Below.refl _ _).alloc (Nat.le_refl _) _)⟩⟩)⟩)
      case rest =>
        obtain ⟨Bv, v0, v1, ⟨ta, tn, tc⟩, x1, ok1, rfl, rfl, rfl, hbx, hq⟩ := hcut
        obtain ⟨w1, rfl⟩ : ∃ w1 : World, w1 = wc := ⟨_, rfl⟩
        have HX1 := Lib.hid hbx
        have q0 := hbx.cell 0
        have q1 := hbx.cell 1
        have q2 := hbx.cell 2
        simp only [List.getElem?_toArray, List.getElem?_cons_zero, List.getElem?_cons_succ] at q0 q1 q2
        have HG1 := Lib.hid (HG.out.next hbx.bl)
        have HV1 := Lib.hid (HV.out.below hbx.bl)
        have HS1 := Lib.hid (row_below HS.out hbx.bl)
        have hz1 := hbx.bl.size
        clear hbx HDA
        obtain ⟨⟨g0, g1, g2, g3⟩, gf0, gf1, gf2, gf3⟩ := HG1.out.four
        rcases hq with ⟨rfl, hdn⟩ | ⟨rfl, v, hdv, rfl, rfl, rfl, hhr⟩
        · have HSTP := Lib.hid (HI.out.stop (fun v h => by rw [hdn] at h; cases h))
          clear hdn
          go_wp2_with fail
          go_meet
          exact ⟨k, vs, ss, (va, vn, vc), (sa, sn, sc), rfl, hk, HSTP, HG1, HV1, HS1, by have := HZ.out; omega⟩
        · obtain ⟨hfr, hel, hle⟩ := dec_facts (b := b) (k := k) (by omega) hdv
          have HFO : Hid (folV m vs ss v = none → opnL m b = (vs, ss, b.drop k)) := Lib.hid (fun h => HI.out.stop (fun u hu => by rw [hdv] at hu; cases hu; exact h))
          have HST := Lib.hid (fun next (h : folV m vs ss v = some next) => HI.out.step (by omega) hdv h)
          have hvl : vs.length = vn := by
            obtain ⟨rs, h1, h2⟩ := HV1.out
            obtain ⟨_, _, e, _, _⟩ := KRow.at_ encVer h1
            unfold slV at e
            cases e
            exact h2.1.symm
          have hvn := HI.out.cnt
          obtain ⟨s1', e1, hvv⟩ := HV1.out.vv
          obtain rfl : s1' = (va, vn, vc) := by
            obtain ⟨x, y, z⟩ := s1'
            unfold slV at e1
            cases e1; rfl
          have FO := Lib.hid (follow_any (logV (none, 0, 0) 0 (va, vn, vc) (sa, sn, sc)) ([], 0, vs, ss) v ta tn tc m w1 ⟨(none, 0, 0), (va, vn, vc), (sa, sn, sc), rfl, BV.nil _, hvv, sv_of HS1.out⟩ (hv_of hhr) hfr hel HI.out.sok (by simp only; omega) ((HE.out.below (below3 HBw.out HX1.out.bl)).tz))
          have HHR := Lib.hid hhr
          clear hdv hhr hfr hel hvv e1
          change Hid (Calls _ _ #[.agg #[.slice none 0 0, .int .i64 0, .slice va vn vc, .slice sa sn sc], .agg #[.int .i64 v.1, .int .i64 v.2.1, .slice ta tn tc], .int .i64 m] w1 (FolR (folV m vs ss v) w1)) at FO
          cases hf : folV m vs ss v with
          | none =>
            have HSTP := Lib.hid (HFO.out hf)
            rw [hf] at FO
            clear HST HFO hf
            go_wp2_with fail
            refine FO.out.mono ?_
            rintro en w2 ⟨vx, ok, rfl, rfl, hb2⟩
            have HG1 := Lib.hid (HG1.out.next hb2)
            have HV1 := Lib.hid (HV1.out.below hb2)
            have HS1 := Lib.hid (row_below HS1.out hb2)
            have hz1 := Nat.le_trans hz1 hb2.size
            clear hb2 g0 g1 g2 g3 gf0 gf1 gf2 gf3 q0 q1 q2
            go_wp2_with fail
            go_meet
            exact ⟨k, vs, ss, (va, vn, vc), (sa, sn, sc), rfl, hk, HSTP, HG1, HV1, HS1, by have := HZ.out; omega⟩
          | some nx =>
            have HSTQ := Lib.hid (HST.out nx hf)
            rw [hf] at FO
            clear HST HFO hf
            go_wp2_with fail
            refine FO.out.mono ?_
            rintro en w2 ⟨vx, ok, rfl, ⟨rfl, hr2⟩, hb2⟩
            obtain ⟨⟨xa, xn, xc⟩, hvx, _⟩ := SRow.sv hr2
            replace hvx : vx = .slice xa xn xc := hvx
            subst hvx
            have hbw1 : wb.heap.size ≤ w1.heap.size := by have := HZ.out; omega
            have HNX := Lib.hid (row_base hr2 hbw1)
            have HG1 := Lib.hid (HG1.out.next hb2)
            have HV1 := Lib.hid (HV1.out.below hb2)
            have HS1 := Lib.hid (row_below HS1.out hb2)
            have HX1 := Lib.hid (HX1.out.next hb2)
            have HHR := Lib.hid (HHR.out.below hb2)
            have hz1 := Nat.le_trans hz1 hb2.size
            clear hb2 hr2 g0 g1 g2 g3 gf0 gf1 gf2 gf3 q0 q1 q2 FO
            obtain ⟨⟨g0, g1, g2, g3⟩, gf0, gf1, gf2, gf3⟩ := HG1.out.four
            have q0 := HX1.out.cell 0
            have q1 := HX1.out.cell 1
            have q2 := HX1.out.cell 2
            simp only [List.getElem?_toArray, List.getElem?_cons_zero, List.getElem?_cons_succ] at q0 q1 q2
            obtain ⟨rs, hk4, ho4⟩ := HV1.out
            have hrl : rs.length = vn := by rw [ho4.1]; exact hvl
            have HK4 := Lib.hid hk4
            have HO4 := Lib.hid ho4
            clear hk4 ho4
            have hkn : k + (encV v).length ≤ n := by omega
            have hadd : IntKind.i64.wrap ((k : Int) + ((encV v).length : Int)) = (k : Int) + ((encV v).length : Int) := IntWalk.i64_in _ (by omega)
            have hbwr : wb.heap.size ≤ wr.heap.size := HZ.out
            have hbw4 : wb.heap.size ≤ w2.heap.size := by have := HZ.out; omega
            have hwa : wa.heap.size ≤ wb.heap.size := HG0s.out
            go_wp2_with (at_builtin; refine wpList_app elemVer encVer rfl _ _ rfl wb.heap.size _ rs rfl (row_below HK4.out ((Below.refl _ _).alloc (Nat.le_refl _) _)) _ _ _ [(v.1, v.2.1, (ta, tn, tc))] rfl (KAt.one w2 ((v.1, v.2.1, (ta, tn, tc)) : RVer) _) (by simp <;> omega) (by simp <;> omega) ?_)
            intro v7 w7 hr7 hb7 hg7 ho7
            have HBA := Lib.hid ((Below.refl w2.heap.size w2).alloc (Nat.le_refl _) (.cells (rveC (v.1, v.2.1, (ta, tn, tc))).toArray 157))
            have HK5 := Lib.hid (row_below HK4.out HBA.out)
            have HB7 : Hid (Below wb.heap.size w2 w7) := Lib.hid ((HBA.out.mono hbw4).trans hb7)
            have HO7 := Lib.hid ((HO4.out.below HBA.out).kept HK5.out hg7)
            have HH7 := Lib.hid ((HHR.out.below HBA.out).keptV HK5.out hg7)
            have HN7 := Lib.hid (row_kept (row_below HNX.out HBA.out) HK5.out (by decide) hg7)
            obtain ⟨va7, vc7, hv7, hvc7, _⟩ := KRow.at_ encVer hr7
            rw [show (rs ++ [((v.1, v.2.1, (ta, tn, tc)) : RVer)]).length = vn + 1 by rw [List.length_append, hrl]; rfl] at hv7
            subst hv7
            have HR7 := Lib.hid hr7
            have HG7 := Lib.hid (HG1.out.bel HB7.out hgb hwa)
            clear hr7 hb7 hg7 ho7 g0 g1 g2 g3 gf0 gf1 gf2 gf3 q0 q1 q2
            obtain ⟨⟨_, _, g2, g3⟩, _, _, gf2, gf3⟩ := HG7.out.four
            have HRV : Hid (VRow _ wb.heap.size (slV (va7, (vn + 1), vc7)) (vs ++ [v])) := Lib.hid ⟨_, row_set (row_set HR7.out (p := ⟨G, 2, none⟩) hgb (.slice va7 (vn + 1) vc7)) (p := ⟨G, 3, none⟩) hgb (.slice xa xn xc), VOwn.set (VOwn.set (show VOwn w7 wb.heap.size (rs ++ [(v.1, v.2.1, (ta, tn, tc))]) (vs ++ [v]) from All2.snoc HO7.out ⟨rfl, rfl, HH7.out.base hbwr⟩) (p := ⟨G, 2, none⟩) hgb _) (p := ⟨G, 3, none⟩) hgb _⟩
            have HSV : Hid (SRow _ wb.heap.size (slV (xa, xn, xc)) nx) := Lib.hid (row_set (row_set HN7.out (p := ⟨G, 2, none⟩) hgb (.slice va7 (vn + 1) vc7)) (p := ⟨G, 3, none⟩) hgb (.slice xa xn xc))
            have HGV : Hid (BX wa _ G #[.slice none 0 0, .int .i64 0, .slice va7 (vn + 1) vc7, .slice xa xn xc] 68) := Lib.hid ((HG7.out.set 2 _).set 3 _)
            have HZV : Hid (wb.heap.size ≤ ((w7.setCell ⟨G, 2, none⟩ (.slice va7 (vn + 1) vc7)).setCell ⟨G, 3, none⟩ (.slice xa xn xc)).heap.size) := Lib.hid (by have := HB7.out.size; simp; omega)
            have HEN := Lib.hid (enc_len v)
            go_wp2_with fail
            go_roundw
            case rel => exact ⟨k + (encV v).length, vs ++ [v], nx, (va7, (vn + 1), vc7), (xa, xn, xc), by go_num, Lib.hid HSTQ.out.1, HGV, HRV, HSV, HZV⟩
            case measure =>
              have h11 := HEN.out
              simp [intOf, Act.put]
              first
              | omega
              | (have e1 : ((k : Int) + ((encV v).length : Int)).toNat = k + (encV v).length := by omega
                 rw [e1]; omega)
  case rest =>
    obtain ⟨k, vs, ss, ⟨va, vn, vc⟩, ⟨sa, sn, sc⟩, rfl, hk, HSTP, HG1, HV1, HS1, hz0⟩ := hcut
    have k1 : (0 : Int) ≤ k := by omega
    have k2 : (k : Int) ≤ n := by omega
    have k3 : (k : Int) ≤ c := by omega
    have k4 : (n : Int) ≤ c := by omega
    have hlk : (b.take k).length = k := by rw [List.length_take]; omega
    obtain ⟨⟨g0, g1, g2, g3⟩, gf0, gf1, gf2, gf3⟩ := HG1.out.four
    have CL := Lib.hid (bclone_any a k c (b.take k) wc ⟨show k ≤ c by omega, (HX.out.below (below3 HR0.out.bl HG1.out.bl)).take (show k ≤ n by omega)⟩ (by rw [hlk]; omega))
    go_upto_region 12 with fail
    cases a with
    | none =>
      go_wp2_with fail
      refine CL.out.mono ?_
      rintro en w9 ⟨⟨da, dn, dc⟩, rfl, hr9, hb9⟩
      obtain ⟨_, cap9, hv9, hdc, _⟩ := KRow.at_ encByt hr9
      rw [hlk] at hv9 hdc
      injection hv9 with e1 e2 e3
      simp only at e1 e2 e3
      subst e1 e2 e3
      have HRD := Lib.hid hr9
      have HG9 := Lib.hid (HG1.out.next hb9)
      have HV9 := Lib.hid (HV1.out.below hb9)
      have HS9 := Lib.hid (row_below HS1.out hb9)
      clear hr9 hb9 g0 g1 g2 g3 gf0 gf1 gf2 gf3 CL
      obtain ⟨⟨g0, g1, g2, g3⟩, gf0, gf1, gf2, gf3⟩ := HG9.out.four
      have HGX : Hid (BX wa ((w9.setCell ⟨G, 0, none⟩ (.slice da dn dc)).setCell ⟨G, 1, none⟩ (.int .i64 dn)) G #[.slice da dn dc, .int .i64 dn, .slice va vn vc, .slice sa sn sc] 68) := Lib.hid ((HG9.out.set 0 _).set 1 _)
      have hg1 : G < wc.heap.size := HG1.out.lt
      have HRD := Lib.hid (row_set (row_set HRD.out (p := ⟨G, 0, none⟩) hg1 (.slice da dn dc)) (p := ⟨G, 1, none⟩) hg1 (.int .i64 dn))
      have HV9 := Lib.hid ((HV9.out.set (p := ⟨G, 0, none⟩) hgb (.slice da dn dc)).set (p := ⟨G, 1, none⟩) hgb (.int .i64 dn))
      have HS9 := Lib.hid (row_set (row_set HS9.out (p := ⟨G, 0, none⟩) hgb (.slice da dn dc)) (p := ⟨G, 1, none⟩) hgb (.int .i64 dn))
      go_upto_region 13 with fail
      generalize (w9.setCell ⟨G, 0, none⟩ (.slice da dn dc)).setCell ⟨G, 1, none⟩ (.int .i64 dn) = W10 at *
      clear g0 g1 g2 g3 gf0 gf1 gf2 gf3
      obtain ⟨⟨g0, g1, g2, g3⟩, _⟩ := HGX.out.four
      have HRX := Lib.hid (HR0.out.next HGX.out.bl)
      have hrb : R < wb.heap.size := Nat.lt_of_lt_of_le HR0.out.lt (by have := HG0s.out; omega)
      have hr1 : R < wc.heap.size := by omega
      have HRY : Hid (BX w ((((W10.setCell ⟨R, 0, none⟩ (.slice da dn dc)).setCell ⟨R, 1, none⟩ (.int .i64 dn)).setCell ⟨R, 2, none⟩ (.slice va vn vc)).setCell ⟨R, 3, none⟩ (.slice sa sn sc)) R #[.slice da dn dc, .int .i64 dn, .slice va vn vc, .slice sa sn sc] 68) := Lib.hid ((((HRX.out.set 0 _).set 1 _).set 2 _).set 3 _)
      have HRD := Lib.hid (row_set (row_set (row_set (row_set HRD.out (p := ⟨R, 0, none⟩) hr1 (.slice da dn dc)) (p := ⟨R, 1, none⟩) hr1 (.int .i64 dn)) (p := ⟨R, 2, none⟩) hr1 (.slice va vn vc)) (p := ⟨R, 3, none⟩) hr1 (.slice sa sn sc))
      have HV9 := Lib.hid ((((HV9.out.set (p := ⟨R, 0, none⟩) hrb (.slice da dn dc)).set (p := ⟨R, 1, none⟩) hrb (.int .i64 dn)).set (p := ⟨R, 2, none⟩) hrb (.slice va vn vc)).set (p := ⟨R, 3, none⟩) hrb (.slice sa sn sc))
      have HS9 := Lib.hid (row_set (row_set (row_set (row_set HS9.out (p := ⟨R, 0, none⟩) hrb (.slice da dn dc)) (p := ⟨R, 1, none⟩) hrb (.int .i64 dn)) (p := ⟨R, 2, none⟩) hrb (.slice va vn vc)) (p := ⟨R, 3, none⟩) hrb (.slice sa sn sc))
      obtain ⟨⟨rc0, rc1, rc2, rc3⟩, rf0, rf1, rf2, rf3⟩ := HRX.out.four
      go_wp2_with fail
      generalize (((W10.setCell ⟨R, 0, none⟩ (.slice da dn dc)).setCell ⟨R, 1, none⟩ (.int .i64 dn)).setCell ⟨R, 2, none⟩ (.slice va vn vc)).setCell ⟨R, 3, none⟩ (.slice sa sn sc) = W11 at *
      clear rc0 rc1 rc2 rc3 rf0 rf1 rf2 rf3
      obtain ⟨⟨rc0, rc1, rc2, rc3⟩, _⟩ := HRY.out.four
      have HF : Hid (opnS m b = (0, (b.take dn, (dn : Int), vs, ss), ((n : Int) - (dn : Int)))) := Lib.hid (by
        rw [HP.out, HSTP.out]
        simp only [List.length_drop]
        rw [show b.length - (b.length - dn) = dn by omega, show ((b.length - dn : Nat) : Int) = (n : Int) - dn by omega])
      refine bodyPost_ret (v := .tuple #[.agg #[.slice da dn dc, .int .i64 dn, .slice va vn vc, .slice sa sn sc], .int .i64 ((n : Int) - (dn : Int)), .int .i64 0]) (by simp [results, Tryz.results183, go_sem, rc0, rc1, rc2, rc3]) rfl ?_
      rw [HF.out]
      exact ⟨_, rfl, ⟨(da, dn, dc), (va, vn, vc), (sa, sn, sc), rfl, row_base HRD.out (Nat.le_trans HRY.out.lo (Nat.le_of_lt hr1)), HV9.out.base (Nat.le_trans HRY.out.lo (Nat.le_of_lt hrb)), row_base HS9.out (Nat.le_trans HRY.out.lo (Nat.le_of_lt hrb))⟩, HRY.out.bl⟩
    | some ad =>
      go_wp2_with fail
      refine CL.out.mono ?_
      rintro en w9 ⟨⟨da, dn, dc⟩, rfl, hr9, hb9⟩
      obtain ⟨_, cap9, hv9, hdc, _⟩ := KRow.at_ encByt hr9
      rw [hlk] at hv9 hdc
      injection hv9 with e1 e2 e3
      simp only at e1 e2 e3
      subst e1 e2 e3
      have HRD := Lib.hid hr9
      have HG9 := Lib.hid (HG1.out.next hb9)
      have HV9 := Lib.hid (HV1.out.below hb9)
      have HS9 := Lib.hid (row_below HS1.out hb9)
      clear hr9 hb9 g0 g1 g2 g3 gf0 gf1 gf2 gf3 CL
      obtain ⟨⟨g0, g1, g2, g3⟩, gf0, gf1, gf2, gf3⟩ := HG9.out.four
      have HGX : Hid (BX wa ((w9.setCell ⟨G, 0, none⟩ (.slice da dn dc)).setCell ⟨G, 1, none⟩ (.int .i64 dn)) G #[.slice da dn dc, .int .i64 dn, .slice va vn vc, .slice sa sn sc] 68) := Lib.hid ((HG9.out.set 0 _).set 1 _)
      have hg1 : G < wc.heap.size := HG1.out.lt
      have HRD := Lib.hid (row_set (row_set HRD.out (p := ⟨G, 0, none⟩) hg1 (.slice da dn dc)) (p := ⟨G, 1, none⟩) hg1 (.int .i64 dn))
      have HV9 := Lib.hid ((HV9.out.set (p := ⟨G, 0, none⟩) hgb (.slice da dn dc)).set (p := ⟨G, 1, none⟩) hgb (.int .i64 dn))
      have HS9 := Lib.hid (row_set (row_set HS9.out (p := ⟨G, 0, none⟩) hgb (.slice da dn dc)) (p := ⟨G, 1, none⟩) hgb (.int .i64 dn))
      go_upto_region 13 with fail
      generalize (w9.setCell ⟨G, 0, none⟩ (.slice da dn dc)).setCell ⟨G, 1, none⟩ (.int .i64 dn) = W10 at *
      clear g0 g1 g2 g3 gf0 gf1 gf2 gf3
      obtain ⟨⟨g0, g1, g2, g3⟩, _⟩ := HGX.out.four
      have HRX := Lib.hid (HR0.out.next HGX.out.bl)
      have hrb : R < wb.heap.size := Nat.lt_of_lt_of_le HR0.out.lt (by have := HG0s.out; omega)
      have hr1 : R < wc.heap.size := by omega
      have HRY : Hid (BX w ((((W10.setCell ⟨R, 0, none⟩ (.slice da dn dc)).setCell ⟨R, 1, none⟩ (.int .i64 dn)).setCell ⟨R, 2, none⟩ (.slice va vn vc)).setCell ⟨R, 3, none⟩ (.slice sa sn sc)) R #[.slice da dn dc, .int .i64 dn, .slice va vn vc, .slice sa sn sc] 68) := Lib.hid ((((HRX.out.set 0 _).set 1 _).set 2 _).set 3 _)
      have HRD := Lib.hid (row_set (row_set (row_set (row_set HRD.out (p := ⟨R, 0, none⟩) hr1 (.slice da dn dc)) (p := ⟨R, 1, none⟩) hr1 (.int .i64 dn)) (p := ⟨R, 2, none⟩) hr1 (.slice va vn vc)) (p := ⟨R, 3, none⟩) hr1 (.slice sa sn sc))
      have HV9 := Lib.hid ((((HV9.out.set (p := ⟨R, 0, none⟩) hrb (.slice da dn dc)).set (p := ⟨R, 1, none⟩) hrb (.int .i64 dn)).set (p := ⟨R, 2, none⟩) hrb (.slice va vn vc)).set (p := ⟨R, 3, none⟩) hrb (.slice sa sn sc))
      have HS9 := Lib.hid (row_set (row_set (row_set (row_set HS9.out (p := ⟨R, 0, none⟩) hrb (.slice da dn dc)) (p := ⟨R, 1, none⟩) hrb (.int .i64 dn)) (p := ⟨R, 2, none⟩) hrb (.slice va vn vc)) (p := ⟨R, 3, none⟩) hrb (.slice sa sn sc))
      obtain ⟨⟨rc0, rc1, rc2, rc3⟩, rf0, rf1, rf2, rf3⟩ := HRX.out.four
      go_wp2_with fail
      generalize (((W10.setCell ⟨R, 0, none⟩ (.slice da dn dc)).setCell ⟨R, 1, none⟩ (.int .i64 dn)).setCell ⟨R, 2, none⟩ (.slice va vn vc)).setCell ⟨R, 3, none⟩ (.slice sa sn sc) = W11 at *
      clear rc0 rc1 rc2 rc3 rf0 rf1 rf2 rf3
      obtain ⟨⟨rc0, rc1, rc2, rc3⟩, _⟩ := HRY.out.four
      have HF : Hid (opnS m b = (0, (b.take dn, (dn : Int), vs, ss), ((n : Int) - (dn : Int)))) := Lib.hid (by
        rw [HP.out, HSTP.out]
        simp only [List.length_drop]
        rw [show b.length - (b.length - dn) = dn by omega, show ((b.length - dn : Nat) : Int) = (n : Int) - dn by omega])
      refine bodyPost_ret (v := .tuple #[.agg #[.slice da dn dc, .int .i64 dn, .slice va vn vc, .slice sa sn sc], .int .i64 ((n : Int) - (dn : Int)), .int .i64 0]) (by simp [results, Tryz.results183, go_sem, rc0, rc1, rc2, rc3]) rfl ?_
      rw [HF.out]
      exact ⟨_, rfl, ⟨(da, dn, dc), (va, vn, vc), (sa, sn, sc), rfl, row_base HRD.out (Nat.le_trans HRY.out.lo (Nat.le_of_lt hr1)), HV9.out.base (Nat.le_trans HRY.out.lo (Nat.le_of_lt hrb)), row_base HS9.out (Nat.le_trans HRY.out.lo (Nat.le_of_lt hrb))⟩, HRY.out.bl⟩
end Go.Proofs.YtcifdllbnbhcdaaGreatDoor
