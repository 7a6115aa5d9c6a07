/- Records: the reference's Format writes what Format writes. -/
import Derived.Test.YtpiejpodaljefaaDoorN3
import Derived.Deep.RegionHeld3
namespace Go.Proofs.YtpiejpodaljefaaDoor
open Go.RowKit

set_option maxRecDepth 100000 in
set_option maxHeartbeats 16000000 in
theorem rformat_any (B : Nat) (v : Value) (L : List RowS) (d q : UInt8) (w : World) (hL : LstW B w v L)
    (hS : ∀ x ∈ L, ∀ s ∈ x.2.2, s.size < 4294967281) (hT : (textF d q (lstB L)).length ≤ 140737488355000) :
    Calls Tryd.prog 18 #[v, .agg #[.int .u8 d.toNat, .int .u8 q.toNat]] w (FmtOut (formatF d q (lstB L)) w) := by
  have HL := Lib.hid hL
  have HS := Lib.hid hS
  have HT := Lib.hid hT
  have hlen : (lstB L).length = L.length := List.length_map ..
  obtain ⟨ad, cp, hv, hcp1, hcp2, _, _⟩ := hL
  subst hv
  clear hS hT
  have V := Lib.hid (fun w => rvalid_any d q w)
  cases hok : okD d q
  · have HF : Hid (formatF d q (lstB L) = ([], 1)) := Lib.hid (by unfold formatF; rw [if_pos hok])
    rw [hok] at V
    clear hok hlen
    go_enter Tryd.func18, Tryd.ntmps18
    go_wp2_with fail
    refine (V.out _).mono ?_
    rintro e w1 ⟨rfl, hb1⟩
    go_wp2
    go_ret2
    exact ⟨by rw [HF.out]; rfl, below2 hb1⟩
  · rw [hok] at V
    by_cases hbig : 400 < L.length
    · have HF : Hid (formatF d q (lstB L) = ([], 2)) := Lib.hid (by unfold formatF; rw [if_neg (by simp [hok]), if_pos (by omega)])
      clear hok hlen
      go_enter Tryd.func18, Tryd.ntmps18
      go_wp2_with fail
      refine (V.out _).mono ?_
      rintro e w1 ⟨rfl, hb1⟩
      go_wp2
      go_ret2
      exact ⟨by rw [HF.out]; rfl, below2 hb1⟩
    · have HF : Hid (formatF d q (lstB L) = if errF (lstB L) ≠ 0 then ([], errF (lstB L)) else if 65536 < (textF d q (lstB L)).length then ([], 2) else (textF d q (lstB L), 0)) := Lib.hid (by unfold formatF; rw [if_neg (by simp [hok]), if_neg (by omega)])
      have HLEN := Lib.hid hlen
      have hd400 : decide ((400 : Int) < (L.length : Int)) = false := by simp; omega
      clear hok hlen
      go_enter Tryd.func18, Tryd.ntmps18
      go_wp2_with fail
      refine (V.out _).mono ?_
      rintro e w1 ⟨rfl, hb1⟩
      obtain ⟨hbx, hbw, hbl⟩ := boxD hb1
      have HR1 : Hid (RfW w d q [] (.slice none 0 0) w1) := Lib.hid ⟨World.ownsRow_nil _ _ _ _, hbw, hbx⟩
      clear hb1 hbx hbw V
      go_wp2
      go_loopg [6, 7] L.length (fun k vo i wr => ∃ (j : Nat) (o : L8), k = L.length - j ∧ j ≤ L.length ∧ i = .int .i64 j ∧ Hid (RfW w d q o vo wr) ∧ Hid (errF ((lstB L).drop j) = errF (lstB L)) ∧ Hid (o ++ textF d q ((lstB L).drop j) = textF d q (lstB L)))
      case atStart => exact ⟨0, [], by omega, by omega, rfl, HR1, Lib.hid rfl, Lib.hid rfl⟩
      case round =>
        obtain ⟨j, o, hk, hj, rfl, HR, HE, HO⟩ := hrel
        have HK := Lib.hid hk
        clear hk HR1
        obtain ⟨wo, rfl⟩ : ∃ wo : World, wo = wr := ⟨_, rfl⟩
        obtain ⟨a6, c6, rfl, _, _⟩ := own_slice HR.out.row
        by_cases hlt : j < L.length
        · have hlt' : j < (lstB L).length := by rw [HLEN.out]; exact hlt
          obtain ⟨b, off, c, hv, _, _, hc⟩ := lst_at HL.out (by omega)
          cases hv
          have HCJ := Lib.hid (hc j hlt)
          have hcj := below_cell HR.out.bel HCJ.out
          obtain ⟨hst, hm1, hm2⟩ := HL.out.el (List.getElem_mem hlt)
          have hed := errF_drop (l := lstB L) (k := j) hlt'
          have HSJ := Lib.hid (HS.out _ (List.getElem_mem hlt))
          have hdr : textF d q ((lstB L).drop j) = lineF d q (lstB L)[j] ++ 10 :: textF d q ((lstB L).drop (j + 1)) := by rw [List.drop_eq_getElem_cons hlt']; rfl
          rw [lstB_at hlt hlt'] at hed hdr
          have hrl : (rowB L[j]).length = (L[j]).2.2.length := List.length_map ..
          rw [hrl] at hed
          unfold rowB at hdr
          clear hc hrl hlt'
          generalize (L[j]).1 = ra at *
          generalize (L[j]).2.1 = rc at *
          generalize (L[j]).2.2 = zs at *
          by_cases h0 : zs.length = 0
          · rw [if_pos h0] at hed
            have e0 : ((zs.length : Int) == 0) = true := by rw [h0]; rfl
            have HFF : Hid (formatF d q (lstB L) = ([], 16)) := Lib.hid (by rw [HF.out, ← HE.out, hed]; rfl)
            clear hed h0 hdr
            go_wp2_with fail
            go_ret2
            exact ⟨by rw [HFF.out]; rfl, HR.out.bel⟩
          · rw [if_neg h0] at hed
            have e0 : ((zs.length : Int) == 0) = false := beq_eq_false_iff_ne.2 (by omega)
            by_cases h12 : 12 < zs.length
            · rw [if_pos h12] at hed
              have HFF : Hid (formatF d q (lstB L) = ([], 2)) := Lib.hid (by rw [HF.out, ← HE.out, hed]; rfl)
              clear hed h0 hdr
              go_wp2_with fail
              go_ret2
              exact ⟨by rw [HFF.out]; rfl, HR.out.bel⟩
            · rw [if_neg h12] at hed
              have HED := Lib.hid hed
              have hpos : 0 < zs.length := by omega
              have hd12 : decide ((12 : Int) < (zs.length : Int)) = false := by simp; omega
              rcases hst with hst | ⟨xb, xo, rfl, hxB, hxc⟩
              · rw [hst] at hpos; simp at hpos
              have HXC := Lib.hid hxc
              have HREM : Hid (o ++ (remL d q (zs.map (·.data.toList)) 0 ++ 10 :: textF d q ((lstB L).drop (j + 1))) = textF d q (lstB L)) := Lib.hid (by
                have h := HO.out
                rw [hdr] at h
                exact h)
              have HZL : Hid ((zs.map (·.data.toList)).length = zs.length) := Lib.hid (List.length_map ..)
              clear hed h0 hdr hxc HO
              generalize hRR : 10 :: textF d q ((lstB L).drop (j + 1)) = R at HREM
              have HRR := Lib.hid hRR
              clear hRR
              go_wp2_with fail
              go_loopg [6, 8] zs.length (fun k vo i wr => ∃ (i0 : Nat) (o : L8), k = zs.length - i0 ∧ i0 ≤ zs.length ∧ i = .int .i64 i0 ∧ Hid (RfW w d q o vo wr) ∧ Hid (o ++ (remL d q (zs.map (·.data.toList)) i0 ++ R) = textF d q (lstB L)))
              case atStart => exact ⟨0, o, by omega, by omega, rfl, HR, HREM⟩
              case round =>
                obtain ⟨i0, o2, hk2, hi0, rfl, HR2, HO2⟩ := hrel
                have HK2 := Lib.hid hk2
                obtain ⟨a7, c7, rfl, _, _⟩ := own_slice HR2.out.row
                clear hk2 hcj HR HREM
                have hcj := below_cell HR2.out.bel HCJ.out
                have hol2 : o2.length ≤ 140737488355000 := by
                  have h := congrArg List.length HO2.out
                  have := HT.out
                  rw [List.length_append] at h
                  omega
                obtain ⟨b0, b1⟩ := cells2_of HR2.out.box
                obtain ⟨wi, rfl⟩ : ∃ wi : World, wi = wr := ⟨_, rfl⟩
                by_cases hli : i0 < zs.length
                · have hxi := below_cell HR2.out.bel (HXC.out i0 hli)
                  have HSZ := Lib.hid (HSJ.out _ (List.getElem_mem hli))
                  have E1 : Hid (((i0 : Int) == 0) = (i0 == 0)) := Lib.hid (by rw [Bool.eq_iff_iff]; simp <;> omega)
                  have E2 : Hid (((zs.length : Int) == 1) = (zs.length == 1)) := Lib.hid (by rw [Bool.eq_iff_iff]; simp; omega)
                  have hstep := remL_step (d := d) (q := q) (x := zs.map (·.data.toList)) (k := i0) (by rw [HZL.out]; exact hli)
                  simp only [List.length_map, List.getElem_map] at hstep
                  have HSTEP := Lib.hid hstep
                  clear hstep
                  generalize zs[i0] = s0 at *
                  generalize hRM : remL d q (zs.map (·.data.toList)) (i0 + 1) = RM at HSTEP
                  have HRM := Lib.hid hRM
                  clear hRM
                  go_upto_if 53 with fail
                  go_cut [6] (fun v6 wx => ∃ (o3 : L8) (a8 : Option Addr) (c8 : Nat), v6 = .slice a8 o3.length c8 ∧ o3.length ≤ 140737488355000 ∧ Hid (RfW w d q o3 (.slice a8 o3.length c8) wx) ∧ Hid (o3 ++ (fieldF d q (i0 == 0) (zs.length == 1) s0.data.toList ++ (RM ++ R)) = textF d q (lstB L)))
                  case first =>
                    by_cases hi1 : 0 < i0
                    · have HO3 : Hid ((o2 ++ [d]) ++ (fieldF d q (i0 == 0) (zs.length == 1) s0.data.toList ++ (RM ++ R)) = textF d q (lstB L)) := Lib.hid (by
                        have h := HO2.out
                        rw [HSTEP.out, if_neg (by omega)] at h
                        rw [← h]; simp)
                      go_wp2_with (at_builtin; refine wpList_rf rfl _ _ rfl d _ rfl rfl HR2.out rfl (by omega) ?_)
                      intro v' w5 hr5
                      have HR5 := Lib.hid hr5
                      obtain ⟨a8, c8, rfl, _, _⟩ := own_slice HR5.out.row
                      clear hr5
                      go_wp2_with fail
                      go_meet
                      exact ⟨o2 ++ [d], a8, c8, rfl, by (have h := congrArg List.length HO3.out); (have := HT.out); (rw [List.length_append] at h); omega, HR5, HO3⟩
                    · have HO3 : Hid (o2 ++ (fieldF d q (i0 == 0) (zs.length == 1) s0.data.toList ++ (RM ++ R)) = textF d q (lstB L)) := Lib.hid (by
                        have h := HO2.out
                        rw [HSTEP.out, if_pos (by omega)] at h
                        rw [← h]; simp)
                      go_wp2_with fail
                      go_meet
                      exact ⟨o2, a7, c7, rfl, hol2, HR2, HO3⟩
                  case rest =>
                    obtain ⟨o3, a8, c8, rfl, hol3, HR3, HO3⟩ := hcut
                    clear b0 b1 hcj hxi HR2 HO2
                    obtain ⟨b0, b1⟩ := cells2_of HR3.out.box
                    have hcj := below_cell HR3.out.bel HCJ.out
                    have hsz0 : s0.size ≤ 9223372036854775806 := by have := HSZ.out; omega
                    have hb : Below wc.heap.size wc wc := Below.refl _ _
                    have hsz : wc.heap.size ≤ wc.heap.size := Nat.le_refl _
                    go_wp2_with fail
                    go_region_held3 (fun w' => w'.cell? ⟨w.heap.size, 0, none⟩ = some (.int .u8 d.toNat) ∧ w'.cell? ⟨w.heap.size, 1, none⟩ = some (.int .u8 q.toNat) ∧ w'.cell? ⟨b, off + j, none⟩ = some (.slice (some ⟨xb, xo, none⟩) zs.length rc) ∧ Below wc.heap.size wc w' ∧ wc.heap.size ≤ w'.heap.size)
                      (first | (with_reducible exact ⟨k0, k1, k2, kb, kz⟩) | (exact ⟨b0, b1, hcj, hb, hsz⟩) | (exact ⟨b0, b1, hcj, bel_drew hb, hsz⟩) | go_keep)
                      ((go_at_call 32; refine (rquoted_any s0 d q _ _ _ hsz0).mono ?_; rw [E1.out, E2.out]; rintro e w1 ⟨rfl, hb1⟩; obtain ⟨h0, h1, h2, h3, h4⟩ := ‹_ ∧ _ ∧ _ ∧ Below wc.heap.size wc _ ∧ _›; have k0 := below_cell hb1 h0; have k1 := below_cell hb1 h1; have k2 := below_cell hb1 h2; have kb : Below wc.heap.size wc w1 := Below.trans h3 (hb1.mono h4); have kz := kb.size))
                    generalize hq : qtd d q (i0 == 0) (zs.length == 1) s0.data.toList = qb
                    have HQ := Lib.hid hq
                    clear hq
                    clear hb
                    have HR5 := Lib.hid (HR3.out.below ‹Below wc.heap.size wc _›)
                    have HO5 : Hid (o3 ++ ((if qb then [q] else []) ++ (fldR qb q s0.data.toList 0 ++ (RM ++ R))) = textF d q (lstB L)) := Lib.hid (by
                      have h := HO3.out
                      rw [fieldF_fldR HQ.out] at h
                      rw [← h]; simp)
                    clear HR3 HO3 hsz k0 k1 k2 kb kz b0 b1 hcj
                    generalize w1 = w5 at HR5
                    obtain ⟨b0, b1⟩ := cells2_of HR5.out.box
                    have hcj := below_cell HR5.out.bel HCJ.out
                    go_upto_if 70 with fail
                    go_cut [6] (fun v6 wx => ∃ (o3 : L8) (a8 : Option Addr) (c8 : Nat), v6 = .slice a8 o3.length c8 ∧ o3.length ≤ 140737488355000 ∧ Hid (RfW w d q o3 (.slice a8 o3.length c8) wx) ∧ Hid (o3 ++ (fldR qb q s0.data.toList 0 ++ (RM ++ R)) = textF d q (lstB L)))
                    case first =>
                      cases qb
                      · go_wp2_with fail
                        go_meet
                        exact ⟨o3, a8, c8, rfl, hol3, HR5, Lib.hid (by have h := HO5.out; simpa using h)⟩
                      · go_wp2_with (at_builtin; refine wpList_rf rfl _ _ rfl q _ rfl rfl HR5.out rfl (by omega) ?_)
                        intro v' w6 hr6
                        have HR6 := Lib.hid hr6
                        obtain ⟨a9, c9, rfl, _, _⟩ := own_slice HR6.out.row
                        clear hr6
                        have HO6 : Hid ((o3 ++ [q]) ++ (fldR true q s0.data.toList 0 ++ (RM ++ R)) = textF d q (lstB L)) := Lib.hid (by have h := HO5.out; simpa using h)
                        go_wp2_with fail
                        go_meet
                        exact ⟨o3 ++ [q], a9, c9, rfl, by (have h := congrArg List.length HO6.out); (have := HT.out); (rw [List.length_append] at h); omega, HR6, HO6⟩
                    case rest =>
                      obtain ⟨o4, a9, c9, rfl, hol4, HR6, HO6⟩ := hcut
                      clear HR5 HO5 b0 b1 hcj
                      go_wp2_with fail
                      go_loopg [6, 11] s0.size (fun k vo i wr => ∃ (n : Nat) (o : L8), k = s0.size - n ∧ n ≤ s0.size ∧ i = .int .i64 n ∧ Hid (RfW w d q o vo wr) ∧ Hid (o ++ (fldR qb q s0.data.toList n ++ (RM ++ R)) = textF d q (lstB L)))
                      case atStart => exact ⟨0, o4, by omega, by omega, rfl, HR6, HO6⟩
                      case round =>
                        obtain ⟨n, o5, hk3, hn, rfl, HR7, HO7⟩ := hrel
                        have HK3 := Lib.hid hk3
                        obtain ⟨a10, c10, rfl, _, _⟩ := own_slice HR7.out.row
                        clear hk3 HR6 HO6
                        have hol5 : o5.length ≤ 140737488355000 := by
                          have h := congrArg List.length HO7.out
                          have := HT.out
                          rw [List.length_append] at h
                          omega
                        by_cases hln : n < s0.size
                        · have hfs := fldR_step (qb := qb) (q := q) hln
                          have HFS := Lib.hid hfs
                          have hb2 := beq_cast2 s0[n] q
                          have HB2 := Lib.hid hb2
                          have hol6 : (o5 ++ [s0[n]]).length ≤ 140737488355000 := by
                            have h := congrArg List.length HO7.out
                            have := HT.out
                            rw [hfs] at h
                            simp at h ⊢
                            omega
                          have HL6 : Hid ((o5 ++ [s0[n]]).length = o5.length + 1) := Lib.hid (by simp)
                          clear hfs hb2
                          cases qb
                          · have HO8 : Hid ((o5 ++ [s0[n]]) ++ (fldR false q s0.data.toList (n + 1) ++ (RM ++ R)) = textF d q (lstB L)) := Lib.hid (by
                              have h := HO7.out
                              rw [HFS.out] at h
                              simpa using h)
                            go_wp2_with (at_builtin; refine wpList_rf rfl _ _ rfl s0[n] _ rfl rfl HR7.out rfl (by omega) ?_)
                            intro v' w6 hr6
                            have HR8 := Lib.hid hr6
                            obtain ⟨a11, c11, rfl, _, _⟩ := own_slice HR8.out.row
                            obtain ⟨b0, b1⟩ := cells2_of HR8.out.box
                            clear hr6
                            go_wp2_with fail
                            go_quiet (fail)
                            go_wp2_with fail
                            go_roundg (s0.size - (n + 1))
                            case rel => exact ⟨n + 1, o5 ++ [s0[n]], rfl, by omega, by go_num, Lib.hid (HR8.out.below (below_drewN _ _)), HO8⟩
                            case measure => have := HK3.out; omega
                          · cases hcq : ((s0[n].toNat : Int) == (q.toNat : Int))
                            · have HO8 : Hid ((o5 ++ [s0[n]]) ++ (fldR true q s0.data.toList (n + 1) ++ (RM ++ R)) = textF d q (lstB L)) := Lib.hid (by
                                have h := HO7.out
                                rw [HFS.out, ← HB2.out, hcq] at h
                                simpa using h)
                              go_wp2_with (at_builtin; refine wpList_rf rfl _ _ rfl s0[n] _ rfl rfl HR7.out rfl (by omega) ?_)
                              intro v' w6 hr6
                              have HR8 := Lib.hid hr6
                              obtain ⟨a11, c11, rfl, _, _⟩ := own_slice HR8.out.row
                              obtain ⟨b0, b1⟩ := cells2_of HR8.out.box
                              clear hr6
                              go_wp2_with fail
                              go_quiet (fail)
                              go_wp2_with fail
                              go_roundg (s0.size - (n + 1))
                              case rel => exact ⟨n + 1, o5 ++ [s0[n]], rfl, by omega, by go_num, Lib.hid (HR8.out.below (below_drewN _ _)), HO8⟩
                              case measure => have := HK3.out; omega
                            · have HO8 : Hid ((o5 ++ [s0[n], q]) ++ (fldR true q s0.data.toList (n + 1) ++ (RM ++ R)) = textF d q (lstB L)) := Lib.hid (by
                                have h := HO7.out
                                rw [HFS.out, ← HB2.out, hcq] at h
                                simpa using h)
                              go_wp2_with (at_builtin; refine wpList_rf rfl _ _ rfl s0[n] _ rfl rfl HR7.out rfl (by omega) ?_)
                              intro v' w6 hr6
                              have HR8 := Lib.hid hr6
                              obtain ⟨a11, c11, rfl, _, _⟩ := own_slice HR8.out.row
                              obtain ⟨b0, b1⟩ := cells2_of HR8.out.box
                              clear hr6
                              go_wp2_with fail
                              go_quiet (fail)
                              go_wp2_with (at_builtin; refine wpList_rf rfl _ _ rfl q _ rfl rfl (HR8.out.below (below_drewN _ _)) rfl (by omega) ?_)
                              intro v' w7 hr7
                              have HR9 := Lib.hid hr7
                              clear hr7
                              go_wp2_with fail
                              go_roundg (s0.size - (n + 1))
                              case rel => exact ⟨n + 1, o5 ++ [s0[n], q], rfl, by omega, by go_num, HR9, HO8⟩
                              case measure => have := HK3.out; omega
                        · obtain rfl : n = s0.size := by omega
                          obtain ⟨b0, b1⟩ := cells2_of HR7.out.box
                          have hfe := fldR_end qb q s0
                          have HFE := Lib.hid hfe
                          clear hfe
                          cases qb
                          · have HO8 : Hid (o5 ++ (remL d q (zs.map (·.data.toList)) (i0 + 1) ++ R) = textF d q (lstB L)) := Lib.hid (by
                              have h := HO7.out
                              rw [HFE.out] at h
                              rw [HRM.out]
                              simpa using h)
                            go_wp2_with fail
                            go_roundg (zs.length - (i0 + 1))
                            case rel => exact ⟨i0 + 1, o5, rfl, by omega, by go_num, HR7, HO8⟩
                            case measure => have := HK2.out; omega
                          · have HO8 : Hid ((o5 ++ [q]) ++ (remL d q (zs.map (·.data.toList)) (i0 + 1) ++ R) = textF d q (lstB L)) := Lib.hid (by
                              have h := HO7.out
                              rw [HFE.out] at h
                              rw [HRM.out]
                              simpa using h)
                            go_wp2_with (at_builtin; refine wpList_rf rfl _ _ rfl q _ rfl rfl HR7.out rfl (by omega) ?_)
                            intro v' w6 hr6
                            have HR8 := Lib.hid hr6
                            clear hr6
                            go_wp2_with fail
                            go_roundg (zs.length - (i0 + 1))
                            case rel => exact ⟨i0 + 1, o5 ++ [q], rfl, by omega, by go_num, HR8, HO8⟩
                            case measure => have := HK2.out; omega
                · obtain rfl : i0 = zs.length := by omega
                  have hre : remL d q (zs.map (·.data.toList)) zs.length = [] := by
                    have h := remL_end (d := d) (q := q) (x := zs.map (·.data.toList)) (by rw [HZL.out]; exact hpos)
                    rw [HZL.out] at h
                    exact h
                  have HO3 : Hid ((o2 ++ [10]) ++ textF d q ((lstB L).drop (j + 1)) = textF d q (lstB L)) := Lib.hid (by
                    have h := HO2.out
                    rw [hre, ← HRR.out] at h
                    simpa using h)
                  clear hre
                  go_wp2_with (at_builtin; refine wpList_rf rfl _ _ rfl 10 _ rfl rfl HR2.out rfl (by omega) ?_)
                  intro v' w6 hr6
                  have HR8 := Lib.hid hr6
                  clear hr6
                  go_wp2_with fail
                  go_roundg (L.length - (j + 1))
                  case rel => exact ⟨j + 1, o2 ++ [10], rfl, by omega, by go_num, HR8, Lib.hid (by rw [← HED.out]; exact HE.out), HO3⟩
                  case measure => have := HK.out; omega
        · obtain rfl : j = L.length := by omega
          have he0 : errF (lstB L) = 0 := by
            rw [← HE.out, List.drop_eq_nil_of_le (by rw [HLEN.out]; exact Nat.le_refl _)]; rfl
          have hot : o = textF d q (lstB L) := by
            have h := HO.out
            rw [List.drop_eq_nil_of_le (by rw [HLEN.out]; exact Nat.le_refl _)] at h
            simpa [textF] using h
          have HF2 : Hid (formatF d q (lstB L) = if 65536 < o.length then ([], 2) else (o, 0)) := Lib.hid (by rw [HF.out, if_neg (by simp [he0]), hot])
          have hol : o.length ≤ 140737488355000 := by rw [hot]; exact HT.out
          have hcv := own_string HR.out.row
          clear he0 hot hlt
          by_cases hsz : 65536 < o.length
          · have HFF : Hid (formatF d q (lstB L) = ([], 2)) := Lib.hid (by rw [HF2.out, if_pos hsz])
            go_wp2_with fail
            go_ret2
            exact ⟨by rw [HFF.out]; rfl, HR.out.bel⟩
          · have HFF : Hid (formatF d q (lstB L) = (o, 0)) := Lib.hid (by rw [HF2.out, if_neg hsz])
            go_wp2_with fail
            go_ret2
            exact ⟨by rw [HFF.out]; rfl, HR.out.bel⟩
end Go.Proofs.YtpiejpodaljefaaDoor
