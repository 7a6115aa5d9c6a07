import Derived.Test.YtpiejpodaljefaaDoorM3
namespace Go.Proofs.YtpiejpodaljefaaDoor
open Go.RowKit

/-- What Fields hands back. -/
def FieldsOut (p : Nat) (w : World) (e : Ending) (w' : World) : Prop := ∃ (v : Value) (L : List RowM), e = .returned v ∧ L.length ≤ 5 ∧ FlW p w L v w'

set_option maxRecDepth 100000 in
set_option maxHeartbeats 4000000 in
theorem fields_any (p : Nat) (w : World) (hD : DiceAt w p) :
    Calls Tryd.prog 19 #[.pointer (some ⟨p, 0, none⟩)] w (FieldsOut p w) := by
  obtain ⟨i0, hii, hz0, hz1, hz2⟩ := info_parts infoS
  have HI0 := Lib.hid hii; have HZ0 := Lib.hid hz0; have HZ1 := Lib.hid hz1; have HZ2 := Lib.hid hz2
  obtain ⟨i1, hii1, hy0, hy1, hy2⟩ := info_parts infoL
  have HI1 := Lib.hid hii1; have HY0 := Lib.hid hy0; have HY1 := Lib.hid hy1; have HY2 := Lib.hid hy2
  have HD := Lib.hid hD
  have PB := Lib.hid hD.lt
  have HTX := Lib.hid (fun W (h : DiceAt W p) => text_any p sgn 6 (by decide) (by decide) (by decide) W h)
  change Hid (∀ W, DiceAt W p → Calls Tryd.prog 17 #[.pointer (some ⟨p, 0, none⟩), .string ⟨#[97, 98, 44, 59, 34, 39, 35, 32, 10, 13]⟩, .int .i64 6] W (TextOut p sgn 6 W)) at HTX
  clear hD hii hz0 hz1 hz2 hii1 hy0 hy1 hy2
  go_enter Tryd.func19, Tryd.ntmps19
  go_wp2_with fail
  refine (next_any p 6 _ (by omega) (by omega) HD.out).mono ?_
  rintro e w1 ⟨r, hr0, hr1, rfl, hd1, hb1⟩
  obtain ⟨n, rfl⟩ : ∃ n : Nat, r = n := ⟨r.toNat, by omega⟩
  have hn : n ≤ 5 := by omega
  have HF : Hid (FlW p w [] (.slice none 0 0) w1) := Lib.hid ⟨hd1, hb1, PB.out, World.ownsRow_nil _ _ _ _, by simp, by simp⟩
  clear hd1 hb1 hr0 hr1
  go_wp2_with fail
  go_loopw [3, 4] (fun v i wr => ∃ (k : Nat) (L : List RowM), i = .int .i64 k ∧ k + L.length ≤ 5 ∧ Hid (FlW p w L v wr)) (fun _ i _ => (intOf i).toNat)
  case atStart => exact ⟨n, [], rfl, by simpa using hn, HF⟩
  case round =>
    obtain ⟨k, L, rfl, hk, HW⟩ := hrel
    have HK := Lib.hid hk
    have hk1 : k ≤ 5 := by omega
    clear hk HF
    obtain ⟨a3, c3, rfl, _, _⟩ := own_slice HW.out.row
    by_cases hlt : 0 < k
    · go_wp2_with fail
      refine (next_any p 5 _ (by omega) (by omega) HW.out.dc).mono ?_
      rintro e w2 ⟨r, hr0, hr1, rfl, hd2, hb2⟩
      obtain ⟨m, rfl⟩ : ∃ m : Nat, r = m := ⟨r.toNat, by omega⟩
      have hm : m ≤ 4 := by omega
      have HI := Lib.hid (FlI.start (HW.out.moved hd2 hb2))
      clear hd2 hb2 hr0 hr1 HW
      obtain ⟨B1, eB⟩ : ∃ B1, B1 = w2.heap.size := ⟨_, rfl⟩
      rw [← eB] at HI
      clear eB
      go_wp2_with fail
      go_loopw [5, 6] (fun vi i wr => ∃ (j : Nat) (o : List ByteArray), i = .int .i64 j ∧ j + o.length ≤ 5 ∧ 1 ≤ j + o.length ∧ Hid (FlI p w L (.slice a3 L.length c3) B1 o vi wr)) (fun _ i _ => (intOf i).toNat)
      case atStart => exact ⟨m + 1, [], by go_num, by simp; omega, by omega, HI⟩
      case round =>
        obtain ⟨j, o, rfl, hj5, hj1, HI⟩ := hrel
        have HJ := Lib.hid hj5; have HJ1 := Lib.hid hj1
        have hj : j ≤ 5 := by omega
        clear hj5 hj1
        obtain ⟨a5, c5, rfl, _, _⟩ := own_slice HI.out.row
        by_cases hlj : 0 < j
        · go_wp2_with fail
          refine (HTX.out _ HI.out.fl.dc).mono ?_
          rintro e w3 ⟨l, rfl, hl, hin, hd3, hb3⟩
          have HI3 := Lib.hid (HI.out.moved hd3 hb3)
          have HS : Hid (SmallS (arr l)) := Lib.hid ⟨by rw [arr_size]; exact hl, hin⟩
          clear hd3 hb3 hl hin HI
          go_wp2_with (at_builtin; refine wpList_append_own _ rfl _ _ 45 rfl B1 9 i0 (.string ⟨#[]⟩) 1 16 Tryd.underlying45 HI0.out HZ0.out HZ1.out HZ2.out rfl (by decide) _ _ _ rfl (HI3.out.row.alloc _) ⟨_, 0, none⟩ 1 1 [.string (arr l)] rfl rfl ?a1 ?a2 ?a3 ?a4 ?a5 ?_)
          case a1 => exact cell_one_new _ _ _
          case a2 => simp [Value.oneCell']
          case a3 => have := HJ.out; unfold maxLen; omega
          case a4 => have := HJ.out; omega
          case a5 => have := HI3.out.hs; simp; omega
          intro v' w5 hown hgr _
          have HE := Lib.hid ((HI3.out.below ((Below.refl _ _).alloc (Nat.le_refl _) _)).grown (o2 := o ++ [arr l]) hgr (by rw [List.length_append, List.map_append]; exact hown) (fun s hs => by
            rcases List.mem_append.1 hs with h | h
            · exact HI3.out.sm s h
            · rw [List.mem_singleton.1 h]; exact HS.out))
          clear hown hgr
          go_wp2
          go_roundw
          case rel => exact ⟨j - 1, o ++ [arr l], by go_num, by rw [List.length_append, List.length_singleton]; have := HJ.out; omega, by rw [List.length_append, List.length_singleton]; omega, HE⟩
          case measure => simp [intOf]; omega
        · obtain rfl : j = 0 := by omega
          go_wp2_with (at_builtin; refine wpList_append_own _ rfl _ _ 37 rfl w.heap.size 45 i1 (.slice none 0 0) 1 24 Tryd.underlying37 HI1.out HY0.out HY1.out HY2.out rfl (by decide) _ _ _ rfl (HI.out.fl.row.alloc _) ⟨_, 0, none⟩ 1 1 [.slice a5 o.length c5] rfl rfl ?b1 ?b2 ?b3 ?b4 ?b5 ?_)
          case b1 => exact cell_one_new _ _ _
          case b2 => simp [Value.oneCell']
          case b3 => have := HK.out; unfold maxLen; omega
          case b4 => have := HK.out; omega
          case b5 => have := HI.out.fl.but.size; simp; omega
          intro v' w5 hown hgr _
          have hI2 := HI.out.below ((Below.refl _ _).alloc (Nat.le_refl _) (.cells #[.slice a5 o.length c5] 45))
          have HE := Lib.hid (hI2.fl.grown (L2 := L ++ [(a5, c5, o)]) hgr (by rw [List.length_append, List.map_append]; exact hown) (fun x hx => by
            rcases List.mem_append.1 hx with h | h
            · exact hI2.fl.els x h
            · rw [List.mem_singleton.1 h]; exact row_base hI2.row hI2.hB) (fun x hx => by
            rcases List.mem_append.1 hx with h | h
            · exact hI2.fl.sm x h
            · rw [List.mem_singleton.1 h]; exact ⟨by have := HJ1.out; simpa using this, by have := HJ.out; simpa using this, hI2.sm⟩))
          clear hown hgr hI2
          go_wp2
          go_roundw
          case rel => exact ⟨k - 1, L ++ [(a5, c5, o)], by go_num, by have := HK.out; simp; omega, HE⟩
          case measure => simp [intOf]; omega
    · obtain rfl : k = 0 := by omega
      go_wp2_with fail
      go_ret
      exact ⟨_, L, rfl, by have := HK.out; omega, HW.out⟩
end Go.Proofs.YtpiejpodaljefaaDoor
