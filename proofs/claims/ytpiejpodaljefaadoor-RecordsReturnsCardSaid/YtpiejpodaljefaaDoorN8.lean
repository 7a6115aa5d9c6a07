/- Records: the law RecordsReturns. -/
import Derived.Test.YtpiejpodaljefaaDoorN1
import Derived.Test.YtpiejpodaljefaaDoorN5
import Derived.Test.YtpiejpodaljefaaDoorN7
import Derived.Test.YtpiejpodaljefaaDoorM5
import Derived.Test.YtpiejpodaljefaaDoorG1
namespace Go.Proofs.YtpiejpodaljefaaDoor
open Go.RowKit

theorem FlW.any {p : Nat} {w : World} {L : List RowM} {v : Value} {wr : World} (h : FlW p w L v wr) {d q : UInt8} (hok : okD d q = true) : ∀ x ∈ L, ∀ s ∈ x.2.2, s.size < 4294967281 ∧ AnyOk d q s := fun x hx s hs => by
  obtain ⟨h1, h2⟩ := (h.sm x hx).2.2 s hs
  exact ⟨by omega, anyOk_ascii d q hok s (by omega) fun c hc => sgn_small c (h2 c hc)⟩
theorem toL_arr (l : L8) : (arr l).data.toList = l := by rw [← toList_data, arr_toList]

theorem zm_at {Z : List (Rcd × Value)} {M : List RowM} {R : List Rcd} (hZ : Z.map (·.1) = R) (hR : R.map (fun r => r.2.map (·.1)) = lstB M) (j : Nat) (h1 : j < Z.length) (h2 : j < M.length) : ((Z[j]).1.2).map (·.1) = (M[j]).2.2.map (·.data.toList) := by
  subst hZ
  have h := congrArg (fun l => l[j]?) hR
  simpa [lstB, rowB, h1, h2] using h
theorem strs_eq {fs : List Fld} {zs : List ByteArray} (h : fs.map (·.1) = zs.map (·.data.toList)) : fs.length = zs.length ∧ ∀ k (h1 : k < fs.length) (h2 : k < zs.length), arr (fs[k]).1 = zs[k] := by
  refine ⟨by have := congrArg List.length h; simpa using this, fun k h1 h2 => ?_⟩
  have h' := congrArg (fun l => l[k]?) h
  simp [h1, h2] at h'
  rw [h', arr_of]

set_option maxRecDepth 100000 in
set_option maxHeartbeats 8000000 in
theorem law_returns (a : Option Addr) (n c : Nat) (L : List Int) (w : World) (hI : IntsAt w a n L) (hL : ∀ x ∈ L, -9223372036854775808 ≤ x ∧ x ≤ 9223372036854775807) (hM : MaxAt w) :
    Calls Tryd.prog 6 #[.slice a n c] w (RetB (.bool true) w) := by
  obtain ⟨i0, hii, hz0, hz1, hz2⟩ := info_parts infoS
  have HI0 := Lib.hid hii; have HZ0 := Lib.hid hz0; have HZ1 := Lib.hid hz1; have HZ2 := Lib.hid hz2
  clear hii hz0 hz1 hz2
  by_cases hn : n ≤ 400
  rotate_left
  · have hd : decide (n ≤ 400) = false := by simpa using hn
    clear hI hL hn
    go_enter Tryd.func6, Tryd.ntmps6
    go_wp2_with (first | (go_at_call 14; refine (light_any _ _ _ _).mono ?_; rw [hd]; rintro e w' ⟨rfl, rfl⟩) | (go_at_call 9; refine (awake_any _ hM).mono ?_; rintro e w' ⟨rfl, hb⟩))
    go_ret
    exact ⟨rfl, hb⟩
  have hd : decide (n ≤ 400) = true := by simpa using hn
  have HD0 := Lib.hid (DiceAt.mk0 c 60 hI hn hL)
  have hb0 : Below w.heap.size w (w.alloc (.cells #[.slice a n c, .int .i64 0] 60)) := (Below.refl _ _).alloc (Nat.le_refl _) _
  have hp0 : w.heap.size < (w.alloc (.cells #[.slice a n c, .int .i64 0] 60)).heap.size := by simp
  have HP0 := Lib.hid hp0
  have HB0 := Lib.hid hb0
  have HMW := Lib.hid hM
  clear hI hL hn hM hb0 hp0
  go_enter Tryd.func6, Tryd.ntmps6
  go_wp2_with (first | (go_at_call 14; refine (light_any _ _ _ _).mono ?_; rw [hd]; rintro e w' ⟨rfl, rfl⟩) | (go_at_call 15; refine (roll_any _ _ _ _).mono ?_; rintro e w' ⟨rfl, rfl⟩))
  generalize w.alloc (.cells #[.slice a n c, .int .i64 0] 60) = w1 at *
  refine (fields_any w.heap.size _ HD0.out).mono ?_
  rintro e w2 ⟨v, M, rfl, hM5, hfl⟩
  have HM5 := Lib.hid hM5
  have HF2 := Lib.hid hfl
  clear hfl hM5 HD0
  go_wp2_with fail
  refine (dialect_any w.heap.size _ HF2.out.dc).mono ?_
  rintro e w3 ⟨x, y, rfl, hx, hy, hd3, hb3⟩
  have HOK := Lib.hid (dial_ok hx hy)
  have hlst := HF2.out.lst.but hb3 HP0.out
  have hbel : Below w.heap.size w w3 := hb3.below (HF2.out.but.below HB0.out (Nat.le_refl _) (Nat.le_of_lt HP0.out)) (Nat.le_refl _) (Nat.le_trans (Nat.le_of_lt HP0.out) HF2.out.but.size)
  have hmx : MaxAt w3 := HMW.out.below hbel
  have HT := Lib.hid (HF2.out.text_le HM5.out x y)
  have HS := Lib.hid (HF2.out.any HOK.out)
  have HFF := Lib.hid (HF2.out.format HM5.out HOK.out)
  have hpar := par_text HOK.out (lstB M) (by have := HM5.out; have : (lstB M).length = M.length := List.length_map ..; omega) (fun z hz => ⟨(lstB_small HF2.out.sm z hz).1, by have := (lstB_small HF2.out.sm z hz).2.1; omega⟩) (by have := HT.out; omega)
  have hba : Below w3.heap.size w3 (w3.alloc (.cells #[.int .u8 x.toNat, .int .u8 y.toNat] 23)) := (Below.refl _ _).alloc (Nat.le_refl _) _
  have HX4 : Hid (DxAt (w3.alloc (.cells #[.int .u8 x.toNat, .int .u8 y.toNat] 23)) w3.heap.size x y) := Lib.hid (heap_alloc_new _ _)
  have HL4 := Lib.hid (hlst.below hba)
  have HB4 := Lib.hid (hbel.trans (hba.mono hbel.size))
  have HM4 := Lib.hid (hmx.below hba)
  clear hx hy hd3 hb3 hlst hbel hmx hba
  go_wp2_with fail
  generalize w3.alloc (.cells #[.int .u8 x.toNat, .int .u8 y.toNat] 23) = w4 at *
  generalize w3.heap.size = g at *
  obtain ⟨g0, g1⟩ := cells2_of HX4.out
  refine (format_any _ v M x y _ HL4.out HM4.out HS.out (by have := HT.out; omega)).mono ?_
  rw [HFF.out]
  rintro e w5 ⟨rfl, hb5⟩
  obtain ⟨R, hR1, hR2⟩ := hpar
  have HL5 := Lib.hid (HL4.out.below hb5)
  have HX5 := Lib.hid (HX4.out.below hb5)
  have HB5 := Lib.hid (HB4.out.trans (hb5.mono HB4.out.size))
  have HM5' := Lib.hid (HM4.out.below hb5)
  have HSZ : Hid ((arr (textF x y (lstB M))).size ≤ 9223372036854775807) := Lib.hid (by rw [arr_size]; have := HT.out; omega)
  have HPAR : Hid (parT x y (arr (textF x y (lstB M))).data.toList = (R, [])) := Lib.hid (by rw [toL_arr]; exact hR1)
  have HR2 := Lib.hid hR2
  clear hR1 hR2 hb5 g0 g1 HL4 HX4 HB4 HM4
  obtain ⟨g0, g1⟩ := cells2_of HX5.out
  generalize arr (textF x y (lstB M)) = T at *
  go_wp2_with fail
  refine (parse_any T x y _ HSZ.out).mono ?_
  rw [HPAR.out]
  rintro e w6 ⟨va, vb, rfl, hra, hpb, hb6⟩
  have HL6 := Lib.hid (HL5.out.below hb6)
  have HB6 := Lib.hid (HB5.out.trans (hb6.mono HB5.out.size))
  have HM6 := Lib.hid (HM5'.out.below hb6)
  obtain ⟨a9, c9, rfl, hc9, hc9'⟩ := probs_len hpb
  have HRA := Lib.hid hra
  clear hra hpb hb6 HL5 HX5 HB5 HM5' g0 g1
  go_wp2_with fail
  refine (awake_any _ HM6.out).mono ?_
  rintro e w7 ⟨rfl, hb7⟩
  have HL7 := Lib.hid (HL6.out.below hb7)
  have HB7 := Lib.hid (HB6.out.trans (hb7.mono HB6.out.size))
  obtain ⟨Z, hZ, hrow, hfl⟩ := HRA.out.below hb7
  clear hb7 HL6 HB6 HM6 HRA
  have hlen : Z.length = M.length := by
    have h1 := congrArg List.length hZ
    have h2 := congrArg List.length HR2.out
    rw [List.length_map] at h1 h2
    have h3 : (lstB M).length = M.length := List.length_map ..
    omega
  obtain ⟨a8, c8, rfl, hc8, hc8'⟩ := own_slice hrow
  obtain ⟨am, cm, hvm, hm1, hm2, hm3, hm4⟩ := id HL7.out
  subst hvm
  have hM5 := HM5.out
  have hle : ((Z.length : Int) != (M.length : Int)) = false := by rw [hlen]; simp
  have HZ := Lib.hid hZ; have HROW := Lib.hid hrow; have HFL := Lib.hid hfl; have HLEN := Lib.hid hlen
  clear hZ hrow hfl hlen hm3 hm4
  go_wp2_with fail
  have HSM := Lib.hid HF2.out.sm
  clear HF2 HFF HT HS hle
  go_loopw [10] (fun i wr => ∃ j : Nat, i = .int .i64 j ∧ j ≤ M.length ∧ Hid (Below w7.heap.size w7 wr)) (fun i _ => M.length - (intOf i).toNat)
  case atStart => exact ⟨0, rfl, by omega, Lib.hid (Below.refl _ _)⟩
  case round =>
    obtain ⟨j, rfl, hj, HW⟩ := hrel
    obtain ⟨wo, rfl⟩ : ∃ wo : World, wo = wr := ⟨_, rfl⟩
    by_cases hlt : j < M.length
    · have hlz : j < Z.length := by rw [HLEN.out]; exact hlt
      obtain ⟨g1, p1, e1, _, _, r1⟩ := row_at HROW.out (by omega)
      cases e1
      have X1 := Lib.hid (r1 _ _ (rcells_at Z j hlz).2)
      have fa := HFL.out _ (List.getElem_mem hlz)
      have eq := zm_at HZ.out HR2.out j hlz hlt
      obtain ⟨b, off, cc, hv, _, _, hc⟩ := lst_at HL7.out (by omega)
      cases hv
      have CJ := Lib.hid (hc j hlt)
      obtain ⟨hst, hq1, hq2⟩ := HL7.out.el (List.getElem_mem hlt)
      obtain ⟨hs1, hs2, _⟩ := HSM.out _ (List.getElem_mem hlt)
      clear r1 hc
      generalize (Z[j]).2 = v2 at *
      generalize (Z[j]).1.2 = fs at *
      generalize (M[j]).1 = ra at *
      generalize (M[j]).2.1 = rc at *
      generalize (M[j]).2.2 = zs at *
      obtain ⟨hlen, heq⟩ := strs_eq eq
      rw [hlen] at fa
      obtain ⟨b1, c3, rfl, hc3, hc4⟩ := own_slice fa
      have FA := Lib.hid fa
      have HLF := Lib.hid hlen
      have HEQ := Lib.hid heq
      have HST := Lib.hid hst
      clear fa eq hlen heq hst
      have x1 := below_cell HW.out X1.out
      have cj := below_cell HW.out CJ.out
      have HN0 : Hid (wo.ownsRow w7.heap.size 9 1 (.slice none 0 0) 0 (([] : List ByteArray).map Value.string)) := Lib.hid (World.ownsRow_nil _ _ _ _)
      go_wp2_with fail
      go_loopw [11, 12] (fun vf k wr => ∃ k0 : Nat, k = .int .i64 k0 ∧ k0 ≤ zs.length ∧ Hid (Below w7.heap.size w7 wr) ∧ Hid (wr.ownsRow w7.heap.size 9 1 vf k0 ((zs.take k0).map Value.string))) (fun _ k _ => zs.length - (intOf k).toNat)
      case atStart => exact ⟨0, rfl, by omega, HW, HN0⟩
      case round =>
        obtain ⟨k0, rfl, hk0, HW2, HF⟩ := hrel
        obtain ⟨a11, c11, rfl, hc11, hc12⟩ := own_slice HF.out
        clear HN0 x1 cj
        have x1 := below_cell HW2.out X1.out
        have cj := below_cell HW2.out CJ.out
        by_cases hlk : k0 < zs.length
        · obtain ⟨g3, p3, e3, _, _, r3⟩ := row_at FA.out (by omega)
          cases e3
          have hlk' : k0 < fs.length := by rw [HLF.out]; exact hlk
          have s0 := r3 _ _ (fcells_at fs k0 hlk').1
          rw [HEQ.out k0 hlk' hlk] at s0
          have t0 := below_cell HW2.out s0
          have HTK : Hid ((zs.take (k0 + 1)).map Value.string = (zs.map Value.string).take k0 ++ [.string zs[k0]]) := Lib.hid (by rw [List.take_succ_eq_append_getElem hlk, List.map_append, List.map_take]; rfl)
          clear r3 s0
          generalize zs[k0] = z at *
          go_wp2_with (at_builtin; refine wpList_append_own _ rfl _ _ 45 rfl w7.heap.size 9 i0 (.string ⟨#[]⟩) 1 16 Tryd.underlying45 HI0.out HZ0.out HZ1.out HZ2.out rfl (by decide) _ _ _ rfl (HF.out.alloc _) ⟨_, 0, none⟩ 1 1 [.string z] rfl rfl ?a1 ?a2 ?a3 ?a4 ?a5 ?_)
          case a1 => exact cell_one_new _ _ _
          case a2 => simp [Value.oneCell']
          case a3 => unfold maxLen; omega
          case a4 => omega
          case a5 => have := HW2.out.size; simp; omega
          intro v' w8 hown hgr _
          rw [← HTK.out] at hown
          have HO := Lib.hid hown
          have HW3 : Hid (Below w7.heap.size w7 w8) := Lib.hid ((HW2.out.alloc HW2.out.size _).grown hgr (by have := HW2.out.size; simp; omega) (fun q hq => (HF.out.lt q hq).1))
          clear hown hgr
          go_wp2_with fail
          go_roundw
          case rel => exact ⟨k0 + 1, by go_num, by omega, HW3, HO⟩
          case measure => simp [intOf]; omega
        · obtain rfl : k0 = zs.length := by omega
          have hrow := HF.out
          rw [List.take_length] at hrow
          obtain ⟨aa, ca, ea, hsa, _, _⟩ := row_strs hrow
          cases ea
          have S2 := Lib.hid (same_strings a11 ra c11 rc zs.length zs wr rfl (by omega) (fun h => by
            rcases hsa with h0 | ⟨g5, o5, e5, _, h5⟩
            · rw [h0] at h; simp at h
            · exact ⟨g5, o5, e5, h5⟩) (fun h => by
            rcases HST.out with h0 | ⟨g5, o5, e5, _, h5⟩
            · rw [h0] at h; simp at h
            · exact ⟨g5, o5, e5, fun q hq => below_cell HW2.out (h5 q hq)⟩) hc11 hq1)
          clear hrow hsa
          go_wp2_with fail
          refine S2.out.mono ?_
          rintro e w9 ⟨rfl, hb9⟩
          have HW9 := Lib.hid (HW2.out.trans (hb9.mono HW2.out.size))
          clear hb9
          go_wp2_with fail
          go_roundw
          case rel => exact ⟨j + 1, by go_num, by omega, HW9⟩
          case measure => simp [intOf]; omega
    · go_wp2_with fail
      go_ret
      exact ⟨rfl, HB7.out.trans (HW.out.mono HB7.out.size)⟩
end Go.Proofs.YtpiejpodaljefaaDoor
