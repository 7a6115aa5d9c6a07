import Derived.Test.YtmnoiknpamfmoaaDoorC3
import Derived.Laws.Cover4
import Derived.Laws.IdiomStrings
namespace Go.Proofs.YtmnoiknpamfmoaaDoor
open Go.RowKit CS

theorem runesFrom_list (s : ByteArray) : ∀ (n i : Nat) (acc : Array Value), (Conv.runesFrom s n i acc).toList = acc.toList ++ (runesF n (s.data.toList.drop i)).map (Value.int .i32)
  | 0, i, acc => by simp [Conv.runesFrom, runesF]
  | n + 1, i, acc => by
    unfold Conv.runesFrom runesF
    by_cases h : i < s.size
    · have hne : s.data.toList.drop i ≠ [] := by
        intro e
        have := List.drop_eq_nil_iff.1 e
        have h2 : s.data.toList.length = s.size := rfl
        omega
      rw [if_pos h, if_neg hne]
      have := runesFrom_list s n (i + (Utf8.decode s i).2) (acc.push (.int .i32 (Int.ofNat (Utf8.decode s i).1)))
      simp only at this ⊢
      rw [this, List.drop_drop, Lib.decodeL_drop]
      simp
    · have hn : s.data.toList.drop i = [] := by
        apply List.drop_eq_nil_iff.2
        have h2 : s.data.toList.length = s.size := rfl
        omega
      rw [if_neg h, if_pos hn]
      simp

theorem runes_all (s : ByteArray) : Conv.runesFrom s s.size 0 #[] = ((runesL s.data.toList).map (Value.int .i32)).toArray := by
  apply Array.toList_inj.1
  rw [runesFrom_list]
  simp [runesL]

theorem encode_enc (r : Int) (h : okRune r) : Utf8.encode r = ⟨(Lib.encodeRune r).toArray⟩ := by
  obtain ⟨h0, h1⟩ := h
  have hv : Utf8.valid r = true := by
    unfold Utf8.valid
    simp only [Bool.or_eq_true, Bool.and_eq_true, decide_eq_true_eq]
    omega
  unfold Utf8.encode Lib.encodeRune
  rw [hv]
  simp only [if_true]
  have hb : ∀ (z : Int) (n : Nat), z.toNat = n → z.toNat.toUInt8 = UInt8.ofNat n := by intro z n h; rw [h]
  by_cases c1 : r ≤ 127
  · rw [if_pos (by omega), Lib.encodeRuneZ_one h0 c1]
    rfl
  by_cases c2 : r ≤ 2047
  · rw [if_neg (by omega), if_pos (by omega), Lib.encodeRuneZ_two (by omega) c2]
    simp only [List.map_cons, List.map_nil]
    rw [hb (192 + r / 64) (0xC0 + r.toNat / 64) (by omega), hb (128 + r % 64) (0x80 + r.toNat % 64) (by omega)]
  by_cases c3 : r ≤ 65535
  · rw [if_neg (by omega), if_neg (by omega), if_pos (by omega), Lib.encodeRuneZ_three (by omega)]
    simp only [List.map_cons, List.map_nil]
    rw [hb (224 + r / 4096) (0xE0 + r.toNat / 4096) (by omega), hb (128 + r / 64 % 64) (0x80 + r.toNat / 64 % 64) (by omega), hb (128 + r % 64) (0x80 + r.toNat % 64) (by omega)]
  · rw [if_neg (by omega), if_neg (by omega), if_neg (by omega), Lib.encodeRuneZ_four (by omega) (by omega)]
    simp only [List.map_cons, List.map_nil]
    rw [hb (240 + r / 262144) (0xF0 + r.toNat / 262144) (by omega), hb (128 + r / 4096 % 64) (0x80 + r.toNat / 4096 % 64) (by omega), hb (128 + r / 64 % 64) (0x80 + r.toNat / 64 % 64) (by omega), hb (128 + r % 64) (0x80 + r.toNat % 64) (by omega)]

theorem foldl_text (rs : List Int) : ∀ s : ByteArray, (∀ r ∈ rs, okRune r) → rs.foldl (fun a n => a ++ Utf8.encode n) s = ⟨s.data ++ (textOf rs).toArray⟩ := by
  induction rs with
  | nil => intro s _; simp [textOf]
  | cons r rs ih =>
    intro s h
    rw [List.foldl_cons, ih _ (fun x hx => h x (by simp [hx])), encode_enc r (h r (by simp))]
    have : (s ++ (⟨(Lib.encodeRune r).toArray⟩ : ByteArray)).data = s.data ++ (Lib.encodeRune r).toArray := by rw [ByteArray.data_append]
    rw [this]
    simp [textOf]

theorem runesBytes_text (rs : List Int) (h : ∀ r ∈ rs, okRune r) : runesBytes rs = arr (textOf rs) := by
  unfold runesBytes
  rw [foldl_text rs _ h]
  have : ByteArray.empty.data = #[] := rfl
  rw [this]; simp [arr]

theorem runes_ok (l : L8) : ∀ r ∈ runesL l, okRune r := by
  induction hn : l.length using Nat.strongRecOn generalizing l with
  | _ n ih =>
    by_cases hne : l = []
    · subst hne; simp [runesL_nil]
    · have hw := Lib.decodeL_width l
      have hl : 0 < l.length := List.length_pos_iff.2 hne
      rw [runesL_step l hne]
      intro r hr
      rcases List.mem_cons.1 hr with rfl | hr
      · have := decode_rune l; exact ⟨by omega, by omega⟩
      · exact ih (l.drop (Lib.decodeL l).2).length (by rw [List.length_drop]; omega) _ rfl r hr

/-- What '[]rune(s)' lays. -/
def runeRow (l : L8) (cap : Nat) : Array Value := ((runesL l).map (Value.int .i32)).toArray ++ Array.replicate (cap - (runesL l).length) (.int .i32 0)

theorem conv_runes (w : World) (l : L8) (h46 : l.length ≤ 70368744177664) :
    (convert 9 52 (.string (arr l))).run Tryd.prog w = .ok (.slice (some ⟨w.heap.size, 0, none⟩) (runesL l).length (grownCap w (runesL l).length 0 21))
      (w.drew.alloc (.cells (runeRow l (grownCap w (runesL l).length 0 21)) 21)) := by
  have e : Conv.runesFrom (arr l) (arr l).size 0 #[] = ((runesL l).map (Value.int .i32)).toArray := runes_all (arr l)
  have e2 : (Conv.runesFrom (arr l) (arr l).size 0 #[]).size = (runesL l).length := by rw [e]; simp
  have := runesL_length l
  have h := run_runes_of_string (P := Tryd.prog) w 9 52 21 (arr l) Tryd.underlying9 Tryd.underlying52 Tryd.underlying21 (by omega)
  rw [e2, e] at h
  exact h

theorem runeRow_at (l : L8) (cap j : Nat) (h : j < (runesL l).length) : (runeRow l cap)[j]? = some (.int .i32 ((runesL l).getD j 0)) := by
  unfold runeRow
  rw [Array.getElem?_append_left (by simpa using h)]
  simp [h, List.getD]

theorem conv_back (w : World) (l : L8) (b cap : Nat) (hc : ∀ j, j < (runesL l).length → w.cell? ⟨b, j, none⟩ = some (.int .i32 ((runesL l).getD j 0))) :
    (convert 52 9 (.slice (some ⟨b, 0, none⟩) (runesL l).length cap)).run Tryd.prog w = .ok (.string (arr (mend l))) w := by
  rw [run_convert_runes (P := Tryd.prog) w 52 9 21 ⟨b, 0, none⟩ _ cap (runesL l) (Nat.le_refl _) Tryd.underlying52 Tryd.underlying21 Tryd.underlying9 (fun j hj => by have := hc j hj; simp only [Addr.add]; split <;> simp_all)]
  rw [List.take_of_length_le (Nat.le_refl _), runesBytes_text _ (runes_ok l)]
  rfl

theorem arr_toList (l : L8) : (arr l).toList = l := by rw [ByteArray.toList_eq]; rfl

set_option maxRecDepth 100000 in
theorem proper_any (l : L8) (h46 : l.length ≤ 70368744177664) (w : World) :
    Calls Tryd.prog 13 #[.string (arr l)] w fun e w' => e = .returned (.bool (Lib.validD l)) ∧ Below w.heap.size w w' := by
  have E := Lib.hid (proper_valid l)
  have c1 := conv_runes w l h46
  have c2 : ∀ cap, (convert 52 9 (.slice (some ⟨w.heap.size, 0, none⟩) (runesL l).length cap)).run Tryd.prog (w.alloc (.cells (runeRow l cap) 21)).drew = .ok (.string (arr (mend l))) (w.alloc (.cells (runeRow l cap) 21)).drew := by
    intro cap
    refine conv_back _ l w.heap.size cap (fun j hj => ?_)
    show (w.alloc _).cell? _ = _
    rw [World.cell?_alloc_mark]
    exact runeRow_at l cap j hj
  go_enter Tryd.func13, Tryd.ntmps13
  go_wp2
  go_ret
  refine ⟨ret_bool ?_, ((Below.refl _ w).alloc (Nat.le_refl _) _).drew⟩
  rw [arr_toList, arr_toList, ← E.out]
  rfl

end Go.Proofs.YtmnoiknpamfmoaaDoor
