import Derived.Test.YtpiejpodaljefaaDoorF4
namespace Go.Proofs.YtpiejpodaljefaaDoor
open Go.RowKit

set_option maxRecDepth 100000 in
set_option maxHeartbeats 8000000 in
theorem format_any (B : Nat) (v : Value) (L : List RowS) (d q : UInt8) (w : World) (hL : LstW B w v L) (hM : MaxAt w)
    (hS : ∀ x ∈ L, ∀ s ∈ x.2.2, s.size < 4294967281 ∧ AnyOk d q s) (hT : (textF d q (lstB L)).length ≤ 140737488355000) :
    Calls Tryd.prog 21 #[v, .agg #[.int .u8 d.toNat, .int .u8 q.toNat]] w (FmtOut (formatF d q (lstB L)) w) := by
  have HL := Lib.hid hL
  have HM := Lib.hid hM
  have HS := Lib.hid hS
  have HT := Lib.hid hT
  have hlen : (lstB L).length = L.length := List.length_map ..
  obtain ⟨ad, cp, hv, hcp1, hcp2, _, _⟩ := hL
  subst hv
  clear hM hS hT
  have V := Lib.hid (fun w => valid_any d q w)
  cases hok : okD d q
  · have HF : Hid (formatF d q (lstB L) = ([], 1)) := Lib.hid (by unfold formatF; rw [if_pos hok])
    rw [hok] at V
    clear hok hlen
    go_enter Tryd.func21, Tryd.ntmps21
    go_wp2_with fail
    refine (V.out _).mono ?_
    rintro e w1 ⟨rfl, hb1⟩
    go_wp2
    go_ret2
    exact ⟨by rw [HF.out]; rfl, below2 hb1⟩
  · have HOK := Lib.hid hok
    rw [hok] at V
    by_cases hbig : 400 < L.length
    · have HF : Hid (formatF d q (lstB L) = ([], 2)) := Lib.hid (by unfold formatF; rw [if_neg (by simp [hok]), if_pos (by omega)])
      clear hok hlen
      go_enter Tryd.func21, Tryd.ntmps21
      go_wp2_with fail
      refine (V.out _).mono ?_
      rintro e w1 ⟨rfl, hb1⟩
      go_wp2
      go_ret2
      exact ⟨by rw [HF.out]; rfl, below2 hb1⟩
    · have HF : Hid (formatF d q (lstB L) = if errF (lstB L) ≠ 0 then ([], errF (lstB L)) else if 65536 < (textF d q (lstB L)).length then ([], 2) else (textF d q (lstB L), 0)) := Lib.hid (by unfold formatF; rw [if_neg (by simp [hok]), if_neg (by omega)])
      have HLEN := Lib.hid hlen
      have hd400 : decide ((400 : Int) < (L.length : Int)) = false := by simp; omega
      have hdd : okD d q = true := hok
      have hcv := conv_byte d (by rcases (okD_of hdd).1 with h | h | h | h <;> simp [h])
      clear hok hlen hdd
      go_enter Tryd.func21, Tryd.ntmps21
      go_wp2_with fail
      refine (V.out _).mono ?_
      rintro e w1 ⟨rfl, hb1⟩
      obtain ⟨hbx, hbw, hbl⟩ := boxD hb1
      have HX1 : Hid (DxAt w1 w.heap.size d q) := Lib.hid hbx
      have HL1 := Lib.hid (HL.out.below hbw)
      have HM1 := Lib.hid (HM.out.below hbw)
      have HB1 := Lib.hid hbw
      clear hb1 hbx hbw HL HM
      go_wp2
      go_loopg [24] L.length (fun k i wr => ∃ j : Nat, k = L.length - j ∧ j ≤ L.length ∧ i = .int .i64 j ∧ wr = w1 ∧ Hid (errF ((lstB L).drop j) = errF (lstB L)))
      case atStart => exact ⟨0, by omega, by omega, rfl, rfl, Lib.hid rfl⟩
      case round =>
        obtain ⟨j, hk, hj, rfl, rfl, HE⟩ := hrel
        have HK := Lib.hid hk
        clear hk
        by_cases hlt : j < L.length
        · obtain ⟨b, off, c, hv, _, _, hc⟩ := lst_at HL1.out (by omega)
          cases hv
          have hcj := hc j hlt
          obtain ⟨_, hm1, hm2⟩ := HL1.out.el (List.getElem_mem hlt)
          have hed := errF_drop (l := lstB L) (k := j) (by rw [HLEN.out]; exact hlt)
          rw [lstB_at hlt (by rw [HLEN.out]; exact hlt)] at hed
          have hrl : (rowB L[j]).length = (L[j]).2.2.length := List.length_map ..
          rw [hrl] at hed
          clear hc hrl
          generalize (L[j]).1 = ra at *
          generalize (L[j]).2.1 = rc at *
          generalize (L[j]).2.2.length = m at *
          by_cases h0 : m = 0
          · rw [if_pos h0] at hed
            subst h0
            have HFF : Hid (formatF d q (lstB L) = ([], 16)) := Lib.hid (by rw [HF.out, ← HE.out, hed]; rfl)
            clear hed
            go_wp2
            go_ret2
            exact ⟨by rw [HFF.out]; rfl, HB1.out⟩
          · rw [if_neg h0] at hed
            have e0 : ((m : Int) == 0) = false := by simp; omega
            by_cases h12 : 12 < m
            · rw [if_pos h12] at hed
              have HFF : Hid (formatF d q (lstB L) = ([], 2)) := Lib.hid (by rw [HF.out, ← HE.out, hed]; rfl)
              clear hed h0
              go_wp2
              go_ret2
              exact ⟨by rw [HFF.out]; rfl, HB1.out⟩
            · rw [if_neg h12] at hed
              have HED := Lib.hid hed
              clear hed h0
              go_wp2_with fail
              go_roundg (L.length - (j + 1))
              case rel => exact ⟨j + 1, rfl, by omega, by go_num, rfl, Lib.hid (by rw [← HED.out]; exact HE.out)⟩
              case measure => have := HK.out; omega
        · obtain rfl : j = L.length := by omega
          have HF2 : Hid (formatF d q (lstB L) = if 65536 < (textF d q (lstB L)).length then ([], 2) else (textF d q (lstB L), 0)) := Lib.hid (by
            have e : errF (lstB L) = 0 := by rw [← HE.out, List.drop_eq_nil_of_le (by rw [HLEN.out]; exact Nat.le_refl _)]; rfl
            rw [HF.out, e]; rfl)
          have HALL : Hid (65536 < (textF d q (lstB L)).length ∨ ∀ x ∈ lstB L, 0 < x.length ∧ x.length ≤ 12) := Lib.hid (Or.inr (errF_all (by rw [← HE.out, List.drop_eq_nil_of_le (by rw [HLEN.out]; exact Nat.le_refl _)]; rfl)))
          have HALL : Hid (∀ x ∈ lstB L, 0 < x.length ∧ x.length ≤ 12) := Lib.hid (errF_all (by rw [← HE.out, List.drop_eq_nil_of_le (by rw [HLEN.out]; exact Nat.le_refl _)]; rfl))
          clear hlt HF HE HK
          obtain ⟨W0, rfl⟩ : ∃ W0 : World, W0 = wr := ⟨_, rfl⟩
          have hb0 : Below W0.heap.size W0 (W0.alloc (.cells #[.pointer none, .slice none 0 0] 66)) := (Below.refl _ _).alloc (Nat.le_refl _) _
          have HB0 := Lib.hid hb0
          have HG0 := Lib.hid (BldW.start W0)
          clear hb0
          go_wp2_with fail
          generalize W0.alloc (.cells #[.pointer none, .slice none 0 0] 66) = W1 at *
          go_loopg [39] L.length (fun k i wr => ∃ j : Nat, k = L.length - j ∧ j ≤ L.length ∧ i = .int .i64 j ∧ Hid (Below W0.heap.size W0 wr) ∧ Hid (BldW W0.heap.size W0.heap.size (textF d q ((lstB L).take j)) wr))
          case atStart => exact ⟨0, by omega, by omega, rfl, HB0, HG0⟩
          case round =>
            obtain ⟨j, hk, hj, rfl, HBL, HBD⟩ := hrel
            have HK := Lib.hid hk
            clear hk HB0 HG0
            obtain ⟨wo, rfl⟩ : ∃ wo : World, wo = wr := ⟨_, rfl⟩
            by_cases hlt : j < L.length
            · have hlt' : j < (lstB L).length := by rw [HLEN.out]; exact hlt
              have HT1 := Lib.hid (textF_take (d := d) (q := q) hlt')
              have HTL := Lib.hid (textF_take_le (d := d) (q := q) (l := lstB L) (k := j + 1))
              have HTL0 := Lib.hid (textF_take_le (d := d) (q := q) (l := lstB L) (k := j))
              have hal := HALL.out _ (List.getElem_mem hlt')
              rw [lstB_at hlt hlt'] at HT1 hal
              obtain ⟨b, off, c, hv, _, _, hc⟩ := lst_at (HL1.out.below HBL.out) (by omega)
              cases hv
              have hcj := hc j hlt
              have HSJ := Lib.hid (HS.out _ (List.getElem_mem hlt))
              obtain ⟨hst, hm1, hm2⟩ := (HL1.out.below HBL.out).el (List.getElem_mem hlt)
              have hst0 := (HL1.out.el (List.getElem_mem hlt)).1
              unfold rowB at HT1 hal
              rw [List.length_map] at hal
              clear hc
              generalize (L[j]).1 = ra at *
              generalize (L[j]).2.1 = rc at *
              generalize (L[j]).2.2 = zs at *
              rcases hst with hst | ⟨xb, xo, rfl, hxB, hxc⟩
              · rw [hst] at hal; simp at hal
              rcases hst0 with hst0 | ⟨xb0, xo0, hxe, _, hxc0⟩
              · rw [hst0] at hal; simp at hal
              cases hxe
              obtain ⟨hal1, hal2⟩ := hal
              have HXC := Lib.hid hxc0
              have CL := Lib.hid (Tryd.slices_Clone_string xb xo zs.length rc zs wo (Nat.le_refl _) (by omega) (fun i hi => by rw [hxc i hi]; simp [List.getD, hi]))
              clear hxc hxc0
              go_wp2_with fail
              refine CL.out.mono ?_
              rintro e w2 ⟨v', rfl, hrow, hne, hbel⟩
              rw [List.take_length] at hrow
              obtain ⟨g, cap, rfl, hgc, hgc2, _⟩ := row_at hrow hal1
              have HBL2 := Lib.hid (HBL.out.trans (hbel.mono HBL.out.size))
              have HBD2 := Lib.hid (HBD.out.below hbel)
              have hbl2 := HBD.out.lt
              have HROW := Lib.hid (row_base hrow (show W0.heap.size + 1 ≤ wo.heap.size by omega))
              clear hrow hne hbel CL
              have HA1 : Hid (((rowG d q (zs.length == 1) 0 (zs.map (·.data.toList))).map arr).length = zs.length) := Lib.hid (by rw [List.length_map, rowG_len, List.length_map])
              have HA2 : Hid (∀ k (h : k < zs.length), ((rowG d q (zs.length == 1) 0 (zs.map (·.data.toList))).map arr)[k]? = some (arr (fieldF d q (k == 0) (zs.length == 1) zs[k].data.toList))) := Lib.hid (fun k h => by
                rw [List.getElem?_map, rowG_get d q _ 0 _ k (by rw [List.length_map]; exact h)]
                simp)
              have HA3 : Hid (Lib.join (((rowG d q (zs.length == 1) 0 (zs.map (·.data.toList))).map arr).map (·.data.toList)) [d] = lineF d q (zs.map (·.data.toList))) := Lib.hid (by
                have e := lineF_join d q (zs.map (·.data.toList))
                rw [List.length_map] at e
                rw [← e, List.map_map]
                congr 1
                have e2 : ((fun x : ByteArray => x.data.toList) ∘ arr) = id := by funext l; exact (toList_data (arr l)).symm.trans (arr_toList l)
                rw [e2, List.map_id])
              generalize (rowG d q (zs.length == 1) 0 (zs.map (·.data.toList))).map arr = A at *
              go_wp2_with fail
              go_loopg [47] zs.length (fun k i wr => ∃ i0 : Nat, k = zs.length - i0 ∧ i0 ≤ zs.length ∧ i = .int .i64 i0 ∧ Hid (Below W0.heap.size W0 wr) ∧ Hid (BldW W0.heap.size W0.heap.size (textF d q ((lstB L).take j)) wr) ∧ Hid (wr.ownsRow (W0.heap.size + 1) 9 1 (.slice (some ⟨g, 0, none⟩) zs.length cap) zs.length ((A.take i0 ++ zs.drop i0).map Value.string)))
              case atStart => exact ⟨0, by omega, by omega, rfl, HBL2, HBD2, by rw [List.take_zero, List.drop_zero, List.nil_append]; exact HROW⟩
              case round =>
                obtain ⟨i0, hk2, hi0, rfl, HBL3, HBD3, HROW3⟩ := hrel
                have HK2 := Lib.hid hk2
                clear hk2 HBL2 HBD2 HROW
                by_cases hli : i0 < zs.length
                · have hxi := below_cell (HBL3.out) (HXC.out i0 hli)
                  obtain ⟨e0, e1⟩ := cells2_of (HX1.out.below HBL3.out)
                  obtain ⟨hsz, hok⟩ := HSJ.out _ (List.getElem_mem hli)
                  have HGET := Lib.hid (HA2.out i0 hli)
                  have FC := Lib.hid (fun b1 b2 => field_any d q HOK.out zs[i0] hsz hok b1 b2 wr (HM1.out.below HBL3.out))
                  have E1 : Hid (((i0 : Int) == 0) = (i0 == 0)) := Lib.hid (by rw [Bool.eq_iff_iff]; simp <;> omega)
                  have E2 : Hid (((zs.length : Int) == 1) = (zs.length == 1)) := Lib.hid (by rw [Bool.eq_iff_iff]; simp; omega)
                  clear hsz hok
                  generalize zs[i0] = s0 at *
                  go_wp2_with fail
                  refine (FC.out _ _).mono ?_
                  rw [E1.out, E2.out]
                  rintro e w5 ⟨rfl, hb5⟩
                  have HROW5 := Lib.hid (row_below HROW3.out hb5)
                  have HBL5 := Lib.hid (HBL3.out.trans (hb5.mono HBL3.out.size))
                  have HBD5 := Lib.hid (HBD3.out.below hb5)
                  obtain ⟨⟨u, hu⟩, hfz, _, _, hgB, _, c9, hc9⟩ := str_cell HROW5.out hli
                  have HBD6 := Lib.hid (HBD5.out.set (o := i0) hc9 (by decide) (by decide) (.string (arr (fieldF d q (i0 == 0) (zs.length == 1) s0.data.toList))))
                  have HROW6 : Hid ((w5.setCell ⟨g, i0, none⟩ (.string (arr (fieldF d q (i0 == 0) (zs.length == 1) s0.data.toList)))).ownsRow (W0.heap.size + 1) 9 1 (.slice (some ⟨g, 0, none⟩) zs.length cap) zs.length ((A.take (i0 + 1) ++ zs.drop (i0 + 1)).map Value.string)) := Lib.hid (by
                    have h := row_set (j := i0) HROW5.out (.string (arr (fieldF d q (i0 == 0) (zs.length == 1) s0.data.toList)))
                    rw [← List.map_set, set_step HGET.out hli] at h
                    exact h)
                  have HBL6 := Lib.hid (bel_set HBL5.out g i0 (.string (arr (fieldF d q (i0 == 0) (zs.length == 1) s0.data.toList))) (by omega))
                  clear hb5 hc9 hxi
                  go_wp2_with fail
                  go_roundg (zs.length - (i0 + 1))
                  case rel => exact ⟨i0 + 1, rfl, by omega, by go_num, HBL6, HBD6, HROW6⟩
                  case measure => have := HK2.out; omega
                · obtain rfl : i0 = zs.length := by omega
                  have HROW4 : Hid (wr.ownsRow (W0.heap.size + 1) 9 1 (.slice (some ⟨g, 0, none⟩) A.length cap) A.length (A.map Value.string)) := Lib.hid (by
                    have h := HROW3.out
                    rw [List.drop_length, List.append_nil, List.take_of_length_le (by rw [HA1.out]; exact Nat.le_refl _)] at h
                    rw [HA1.out]
                    exact h)
                  obtain ⟨e0, e1⟩ := cells2_of (HX1.out.below HBL3.out)
                  have hle := HTL.out
                  rw [HT1.out] at hle
                  simp only [List.length_append, List.length_singleton] at hle
                  have htt := HT.out
                  have JN := Lib.hid (join_any d HROW4.out (by rw [HA1.out]; exact hal1) (by rw [HA1.out]; exact hal2) (by rw [HA3.out]; omega))
                  rw [HA3.out, HA1.out] at JN
                  have hcat : arr (lineF d q (zs.map (·.data.toList))) ++ ⟨#[10]⟩ = arr (lineF d q (zs.map (·.data.toList)) ++ [10]) := arr_app _ [10]
                  have hls : (arr (lineF d q (zs.map (·.data.toList)))).size ≤ 140737488355000 := by rw [arr_size]; omega
                  have HSZ : Hid ((textF d q ((lstB L).take j)).length + (arr (lineF d q (zs.map (·.data.toList)) ++ [10])).size ≤ 140737488355328) := Lib.hid (by rw [arr_size, List.length_append, List.length_singleton]; omega)
                  have HTJ : Hid (textF d q ((lstB L).take j) ++ (arr (lineF d q (zs.map (·.data.toList)) ++ [10])).data.toList = textF d q ((lstB L).take (j + 1))) := Lib.hid (by rw [HT1.out, ← toList_data, arr_toList])
                  clear hle htt hli
                  generalize arr (lineF d q (zs.map (·.data.toList))) = LN at *
                  generalize arr (lineF d q (zs.map (·.data.toList)) ++ [10]) = LN2 at *
                  go_wp2_with fail
                  refine JN.out.mono ?_
                  rintro e w6 ⟨rfl, hb6⟩
                  have HBL6 := Lib.hid (HBL3.out.trans (hb6.mono HBL3.out.size))
                  have HBD6 := Lib.hid (HBD3.out.below hb6)
                  clear hb6 e0 e1
                  go_wp2_with fail
                  refine (write_any HBD6.out HSZ.out).mono ?_
                  rintro e w7 ⟨rfl, hbd7, hb7⟩
                  rw [HTJ.out] at hbd7
                  have HBD7 := Lib.hid hbd7
                  have HBL7 := Lib.hid (HBL6.out.trans hb7)
                  clear hbd7 hb7
                  go_wp2_with fail
                  go_roundg (L.length - (j + 1))
                  case rel => exact ⟨j + 1, rfl, by omega, by go_num, HBL7, HBD7⟩
                  case measure => have := HK.out; omega
            · obtain rfl : j = L.length := by omega
              have htk : (lstB L).take L.length = lstB L := List.take_of_length_le (by rw [HLEN.out]; exact Nat.le_refl _)
              rw [htk] at HBD
              have HLN := Lib.hid (Tryd.Builder_Len_f W0.heap.size W0.heap.size (Lib.byteCells (textF d q (lstB L))) wo HBD.out)
              rw [Lib.byteCells_length] at HLN
              have HW := Lib.hid (HB1.out.trans (HBL.out.mono HB1.out.size))
              clear hlt htk
              by_cases hsz : 65536 < (textF d q (lstB L)).length
              · have HFF : Hid (formatF d q (lstB L) = ([], 2)) := Lib.hid (by rw [HF2.out, if_pos hsz])
                go_wp2_with fail
                refine HLN.out.mono ?_
                rintro e w7 ⟨rfl, rfl⟩
                go_wp2_with fail
                go_ret2
                exact ⟨by rw [HFF.out]; rfl, HW.out⟩
              · have HFF : Hid (formatF d q (lstB L) = (textF d q (lstB L), 0)) := Lib.hid (by rw [HF2.out, if_neg hsz])
                go_wp2_with fail
                refine HLN.out.mono ?_
                rintro e w7 ⟨rfl, rfl⟩
                go_wp2_with fail
                refine (Tryd.Builder_String_any_k W0.heap.size W0.heap.size (textF d q (lstB L)) _ HBD.out (by have := HBL.out.size; omega)).mono ?_
                rintro e w8 ⟨rfl, _, hb8, _⟩
                go_wp2_with fail
                go_ret2
                exact ⟨by rw [HFF.out]; rfl, HW.out.trans (hb8.mono HB1.out.size)⟩
end Go.Proofs.YtpiejpodaljefaaDoor
