import Derived.Test.YtpiejpodaljefaaDoorF1
namespace Go.Proofs.YtpiejpodaljefaaDoor
open Go.RowKit

theorem enc_byte (c : UInt8) (hc : c = 44 ∨ c = 59 ∨ c = 124 ∨ c = 9 ∨ c = 34 ∨ c = 39) : Utf8.encode (c.toNat : Int) = arr [c] := by
  rcases hc with rfl | rfl | rfl | rfl | rfl | rfl <;> decide +kernel
theorem conv_byte (c : UInt8) (hc : c = 44 ∨ c = 59 ∨ c = 124 ∨ c = 9 ∨ c = 34 ∨ c = 39) (w : World) : (convert 5 9 (.int .u8 (c.toNat : Int))).run Tryd.prog w = .ok (.string (arr [c])) w := by
  have e := run_convert_int_string (P := Tryd.prog) w 5 9 .u8 (c.toNat : Int) (by rw [Tryd.underlying5]; rfl) Tryd.underlying9
  rw [enc_byte c hc] at e
  exact e
theorem arr_app (l m : L8) : arr l ++ arr m = arr (l ++ m) := by
  apply ByteArray.ext
  simp [arr]
theorem conv_four (w : World) (g : Nat) (a b c e : UInt8) (fz : Nat × Nat) (h : w.heap[g]? = some (.cells #[.int .u8 a.toNat, .int .u8 b.toNat, .int .u8 c.toNat, .int .u8 e.toNat] 5 fz)) : (convert 61 9 (.slice (some ⟨g, 0, none⟩) 4 4)).run Tryd.prog w = .ok (.string (arr [a, b, c, e])) w := by
  have e1 := run_convert_bytes_back (P := Tryd.prog) w 61 9 5 ⟨g, 0, none⟩ 4 [a, b, c, e] Tryd.underlying61 Tryd.underlying5 Tryd.underlying9 (fun j hj => by
    rw [Go.WideShapes.add_plain]
    match j, hj with
    | 0, _ => simp [World.cell?, h]
    | 1, _ => simp [World.cell?, h]
    | 2, _ => simp [World.cell?, h]
    | 3, _ => simp [World.cell?, h]
    | j + 4, hj => exact absurd hj (by simp))
  exact e1
/-- the library's longest search lies in memory -/
def MaxAt (w : World) : Prop := ∃ m : Int, w.cell? ⟨0, 0, none⟩ = some (.int .i64 m)
theorem MaxAt.below {w w' : World} (h : MaxAt w) (hb : Below w.heap.size w w') : MaxAt w' := by
  obtain ⟨m, hm⟩ := h
  exact ⟨m, below_cell hb hm⟩
theorem MaxAt.but {w w' : World} {p : Nat} (h : MaxAt w) (hb : But p w w') (hp : 0 < p) : MaxAt w' := by
  obtain ⟨m, hm⟩ := h
  exact ⟨m, (hb.cell (lt_of_cell hm) (show (0 : Nat) ≠ p by omega)).trans hm⟩

theorem replace_any (_d q : UInt8) (s : ByteArray) (w : World) (hM : MaxAt w) (hs : s.size < 4294967281) : Calls Tryd.prog 49 #[.string s, .string (arr [q]), .string (arr [q, q])] w (RetB (.string (arr (dbl q s.data.toList))) w) := by
  obtain ⟨m, hm⟩ := hM
  have hc : Lib.countB s (arr [q]) ≤ s.size := by
    show Lib.count _ _ ≤ _
    have e : (arr [q]).data.toList = [q] := rfl
    rw [e, Lib.count_one]
    exact List.count_le_length
  have h := Tryd.strings_ReplaceAll s (arr [q]) (arr [q, q]) m w hs hm (show 1 ≤ 1 from Nat.le_refl _) (by
    have e : (arr [q, q]).size = 2 := rfl
    rw [e]; omega)
  refine h.mono fun e w' ⟨he, hb⟩ => ⟨?_, hb⟩
  rw [he]
  show Ending.returned (.string (arr (Lib.replaceAll s.data.toList [q] [q, q]))) = _
  rw [replaceAll_dbl]

/-- does ContainsAny answer as it should, of this string? -/
def AnyOk (d q : UInt8) (s : ByteArray) : Prop := ∀ w : World, Calls Tryd.prog 47 #[.string s, .string (arr [d, q, 13, 10])] w (RetB (.bool (Lib.containsAny s.data.toList [d, q, 13, 10])) w)
theorem anyOk_ascii (d q : UInt8) (hok : okD d q = true) (s : ByteArray) (hs : s.size < 4294967281) (ha : ∀ c ∈ s.data.toList, c.toNat < 128) : AnyOk d q s := fun w => by
  have h := Tryd.strings_ContainsAny_laid s (arr [d, q, 13, 10]) w hs (by show 4 < _; omega) (fun j b hb => ha b (List.mem_of_getElem? hb)) (fun j b hb => by
    have hm : b ∈ [d, q, 13, 10] := List.mem_of_getElem? hb
    obtain ⟨h1, h2⟩ := okD_of hok
    simp only [List.mem_cons, List.not_mem_nil, or_false] at hm
    rcases hm with rfl | rfl | rfl | rfl
    · rcases h1 with rfl | rfl | rfl | rfl <;> decide
    · rcases h2 with rfl | rfl <;> decide
    · decide
    · decide)
  exact h.mono fun e w' ⟨he, hb⟩ => ⟨he, hb⟩

theorem pre35 (s : L8) : Lib.hasPrefix s [35] = (s.head? == some 35) := by
  unfold Lib.hasPrefix
  cases s with
  | nil => rfl
  | cons c r =>
    rw [Bool.eq_iff_iff]
    simp [List.isPrefixOf, @eq_comm _ (35 : UInt8)]
set_option maxRecDepth 100000 in
set_option maxHeartbeats 4000000 in
theorem field_any (d q : UInt8) (hok : okD d q = true) (s : ByteArray) (hs : s.size < 4294967281) (hA : AnyOk d q s) (first only : Bool) (w : World) (hM : MaxAt w) :
    Calls Tryd.prog 34 #[.string s, .agg #[.int .u8 d.toNat, .int .u8 q.toNat], .bool first, .bool only] w (RetB (.string (arr (fieldF d q first only s.data.toList))) w) := by
  obtain ⟨hk1, hk2⟩ := okD_of hok
  have hcv := conv_byte q (by rcases hk2 with h | h <;> simp [h])
  have HA := Lib.hid hA
  have hb0 : Below w.heap.size w ((w.alloc (.cells #[.int .u8 d.toNat, .int .u8 q.toNat] 23)).alloc (.cells #[.int .u8 d.toNat, .int .u8 q.toNat, .int .u8 13, .int .u8 10] 5)) := ((Below.refl _ _).alloc (Nat.le_refl _) _).alloc (by simp) _
  have hc4 : (convert 61 9 (.slice (some ⟨w.heap.size + 1, 0, none⟩) 4 4)).run Tryd.prog ((w.alloc (.cells #[.int .u8 d.toNat, .int .u8 q.toNat] 23)).alloc (.cells #[.int .u8 d.toNat, .int .u8 q.toNat, .int .u8 13, .int .u8 10] 5)) = .ok (.string (arr [d, q, 13, 10])) ((w.alloc (.cells #[.int .u8 d.toNat, .int .u8 q.toNat] 23)).alloc (.cells #[.int .u8 d.toNat, .int .u8 q.toNat, .int .u8 13, .int .u8 10] 5)) := by
    refine conv_four _ _ d q 13 10 (0, 0) ?_
    have e := heap_alloc_new (w.alloc (.cells #[.int .u8 d.toNat, .int .u8 q.toNat] 23)) (.cells #[.int .u8 d.toNat, .int .u8 q.toNat, .int .u8 13, .int .u8 10] 5)
    rw [show (w.alloc (.cells #[.int .u8 d.toNat, .int .u8 q.toNat] 23)).heap.size = w.heap.size + 1 by simp] at e
    exact e
  have HM := Lib.hid hM
  have HB0 := Lib.hid hb0
  have HP := Lib.hid (fun w => ((Tryd.strings_HasPrefix s ⟨#[35]⟩ w).mono fun _ _ ⟨a, b⟩ => (⟨a, b.symm⟩ : _ ∧ w = _)))
  have HQ : Hid (qtd d q first only s.data.toList = (Lib.containsAny s.data.toList [d, q, 13, 10] || (first && Lib.hasPrefix s.data.toList [35]) || (only && s.toList.isEmpty))) := Lib.hid (by rw [containsAny_any, pre35, toList_data]; rfl)
  have HR := Lib.hid (fun w hM => replace_any d q s w hM hs)
  have HYES : Hid (qtd d q first only s.data.toList = true → arr (fieldF d q first only s.data.toList) = (arr [q] ++ arr (dbl q s.data.toList)) ++ arr [q]) := Lib.hid (fun h => by rw [arr_app, arr_app]; unfold fieldF; rw [if_pos h]; rfl)
  have HNO : Hid (qtd d q first only s.data.toList = false → arr (fieldF d q first only s.data.toList) = s) := Lib.hid (fun h => by unfold fieldF; rw [if_neg (by simp [h]), arr_of])
  have hq1 : (arr [q]).size = 1 := rfl
  have hqq : arr [q] ++ arr [q] = arr [q, q] := arr_app _ _
  have hd1 : (arr (dbl q s.data.toList)).size ≤ 8589934562 := by
    have h := dbl_len q s.data.toList
    have e : s.data.toList.length = s.size := rfl
    rw [arr_size]; omega
  clear hA hM hok hk1 hk2 hb0
  have HPe : Hid (Lib.hasPrefix s.data.toList (⟨#[35]⟩ : ByteArray).data.toList = Lib.hasPrefix s.data.toList [35]) := Lib.hid rfl
  change Hid (∀ w : World, Calls Tryd.prog 48 #[.string s, .string ⟨#[35]⟩] w (fun e w' => e = .returned (.bool (Lib.hasPrefix s.data.toList [35])) ∧ w = w')) at HP
  change Hid (∀ w : World, Calls Tryd.prog 47 #[.string s, .string (arr [d, q, 13, 10])] w (RetB (.bool (Lib.containsAny s.data.toList [d, q, 13, 10])) w)) at HA
  clear HPe
  generalize Lib.hasPrefix s.data.toList [35] = b2 at *
  generalize Lib.containsAny s.data.toList [d, q, 13, 10] = b1 at *
  generalize arr (fieldF d q first only s.data.toList) = F at *
  generalize arr (dbl q s.data.toList) = D at *
  generalize arr [q, q] = QQ at *
  generalize arr [q] = Q at *
  generalize qtd d q first only s.data.toList = Z at *
  cases b1
  · cases h3 : s.toList.isEmpty <;> cases first <;> cases only <;> cases b2 <;> (
      have HZ := HQ
      rw [h3] at HZ
      go_enter Tryd.func34, Tryd.ntmps34
      go_wp2_with fail
      refine (HA.out _).mono ?_
      rintro e w2 ⟨rfl, hb2⟩
      have HB2 := Lib.hid (below3 HB0.out hb2)
      clear hb2
      go_wp2_with (first | (go_at_call 48; refine (HP.out _).mono ?_; rintro e w3 ⟨rfl, rfl⟩) | (go_at_call 49; refine (HR.out _ (HM.out.below HB2.out)).mono ?_; rintro e w3 ⟨rfl, hb3⟩))
      go_ret
      first
        | exact ⟨by rw [HNO.out HZ.out]; rfl, HB2.out⟩
        | exact ⟨by rw [HYES.out HZ.out]; rfl, below3 HB2.out hb3⟩)
  · go_enter Tryd.func34, Tryd.ntmps34
    go_wp2_with fail
    refine (HA.out _).mono ?_
    rintro e w2 ⟨rfl, hb2⟩
    have HB2 := Lib.hid (below3 HB0.out hb2)
    clear hb2
    go_wp2_with (go_at_call 49; refine (HR.out _ (HM.out.below HB2.out)).mono ?_; rintro e w3 ⟨rfl, hb3⟩)
    go_ret
    exact ⟨by rw [HYES.out HQ.out]; rfl, below3 HB2.out hb3⟩
end Go.Proofs.YtpiejpodaljefaaDoor
