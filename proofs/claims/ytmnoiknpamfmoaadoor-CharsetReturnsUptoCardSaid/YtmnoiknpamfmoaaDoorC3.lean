import Derived.Test.YtmnoiknpamfmoaaDoorC2
import Derived.Test.YtmnoiknpamfmoaaDoorP2
namespace Go.Proofs.YtmnoiknpamfmoaaDoor
open Go.RowKit CS

theorem ret_int {k : IntKind} {a b : Int} (h : a = b) : Ending.returned (.int k a) = .returned (.int k b) := by rw [h]
theorem ret_bool {a b : Bool} (h : a = b) : Ending.returned (.bool a) = .returned (.bool b) := by rw [h]
theorem ret3 {a a' b b' : Int} {c c' : Bool} (h : a = a') (h2 : b = b') (h3 : c = c') : Ending.returned (.tuple #[.int .i32 a, .int .i64 b, .bool c]) = .returned (.tuple #[.int .i32 a', .int .i64 b', .bool c']) := by rw [h, h2, h3]
theorem lt_of_cell {w : World} {a : Addr} {v : Value} (h : w.cell? a = some v) : a.block < w.heap.size := by
  rcases Nat.lt_or_ge a.block w.heap.size with h' | h'
  · exact h'
  · simp [World.cell?, Array.getElem?_eq_none h'] at h

/-- A slice's bytes, from an address on. -/
def Bytes (w : World) (b off : Nat) (l : L8) : Prop := ∀ j, j < l.length → w.cell? ⟨b, off + j, none⟩ = some (.int .u8 (l.getD j 0).toNat)

theorem Bytes.drop {w : World} {b off : Nat} {l : L8} (h : Bytes w b off l) (n : Nat) : Bytes w b (off + n) (l.drop n) := by
  intro j hj
  rw [List.length_drop] at hj
  rw [getD_drop, Nat.add_assoc]
  exact h (n + j) (by omega)

theorem Bytes.below {w w' : World} {b off : Nat} {l : L8} (h : Bytes w b off l) (hb : Below w.heap.size w w') : Bytes w' b off l := by
  intro j hj
  have h1 := h j hj
  rw [hb.cell (lt_of_cell h1)]
  exact h1

def arr (l : L8) : ByteArray := ⟨l.toArray⟩
theorem arr_size (l : L8) : (arr l).size = l.length := by simp [arr, ByteArray.size]
theorem arr_get (l : L8) (j : Nat) : (arr l).get! j = l.getD j 0 := by
  simp [arr, ByteArray.get!, List.getD]
  rfl
theorem arr_decode (l : L8) (hne : l ≠ []) : Lib.decodeGo (arr l) = Lib.decodeL l := by
  unfold Lib.decodeGo Lib.decodeL
  rw [if_neg (by rw [arr_size]; intro h; exact hne (List.eq_nil_of_length_eq_zero h))]
  rfl

theorem decode_at (l : L8) (hne : l ≠ []) (b off cap : Nat) (w : World) (hT : Lib.Utf8Tabs 0 1 w) (hp : Bytes w b off l) :
    Calls Tryd.prog 30 #[.slice (some ⟨b, off, none⟩) l.length cap] w fun e w' => e = .returned (.tuple #[.int .i32 (Lib.decodeL l).1, .int .i64 (Lib.decodeL l).2]) ∧ Below w.heap.size w w' := by
  have := decode_any (arr l) b off cap w hT (by intro j hj; rw [arr_size] at hj; rw [arr_get]; exact hp j hj)
  rw [arr_size, arr_decode l hne] at this
  exact this

set_option maxRecDepth 100000 in
theorem greatest_any (k : Int) (w : World) :
    Calls Tryd.prog 18 #[.int .i64 k] w fun e w' => e = .returned (.tuple #[.int .i32 (most k), .bool (okKind k)]) ∧ w = w' := by
  by_cases h1 : k = 1
  · subst h1
    go_enter Tryd.func18, Tryd.ntmps18
    go_wp2
    go_ret2
    exact ⟨rfl, rfl⟩
  by_cases h2 : k = 2
  · subst h2
    go_enter Tryd.func18, Tryd.ntmps18
    go_wp2
    go_ret2
    exact ⟨rfl, rfl⟩
  by_cases h3 : k = 3
  · subst h3
    go_enter Tryd.func18, Tryd.ntmps18
    go_wp2
    go_ret2
    exact ⟨rfl, rfl⟩
  have E : Hid (most k = 0 ∧ okKind k = false) := Lib.hid ⟨by simp [most, h1, h2, h3], by unfold okKind; simp; omega⟩
  have q1 : (k == 1) = false := by simpa using h1
  have q2 : (k == 2) = false := by simpa using h2
  have q3 : (k == 3) = false := by simpa using h3
  go_enter Tryd.func18, Tryd.ntmps18
  go_wp2
  go_ret2
  exact ⟨by rw [E.out.1, E.out.2]; rfl, rfl⟩

theorem mod_any (n m : Int) (h1 : -9223372036854775808 ≤ n) (h2 : n ≤ 9223372036854775807) (hm : 1 ≤ m) (hm2 : m ≤ 1000000000000) (w : World) :
    Calls Tryd.prog 12 #[.int .i64 n, .int .i64 m] w fun e w' => e = .returned (.int .i64 (n % m)) ∧ w = w' := by
  have hb := Int.emod_nonneg n (show m ≠ 0 by omega)
  have hb2 := Int.emod_lt_of_pos n (show 0 < m by omega)
  by_cases hn : 0 ≤ n
  · go_enter Tryd.func12, Tryd.ntmps12
    go_wp2
    go_ret
    exact ⟨rfl, rfl⟩
  · have ht : n.tmod m = if n % m = 0 then 0 else n % m - m := by
      rw [Int.tmod_eq_emod]
      have hd : (0 ≤ n ∨ m ∣ n) ↔ n % m = 0 := by
        constructor
        · rintro (h | h)
          · omega
          · exact Int.emod_eq_zero_of_dvd h
        · intro h; exact Or.inr (Int.dvd_of_emod_eq_zero h)
      by_cases c : n % m = 0
      · rw [if_pos (hd.2 c), if_pos c, c]; simp
      · rw [if_neg (fun h => c (hd.1 h)), if_neg c]; omega
    by_cases c : n % m = 0
    · rw [if_pos c] at ht
      have H := Lib.hid c
      clear c
      go_enter Tryd.func12, Tryd.ntmps12
      go_wp2
      go_ret
      exact ⟨ret_int (by rw [H.out]), rfl⟩
    · rw [if_neg c] at ht
      go_enter Tryd.func12, Tryd.ntmps12
      go_wp2
      go_ret
      exact ⟨ret_int (by omega), rfl⟩

theorem above_any (r : Int) (w : World) :
    Calls Tryd.prog 28 #[.int .i32 r] w fun e w' => e = .returned (.bool (decide (127 < r))) ∧ w = w' := by
  go_enter Tryd.func28, Tryd.ntmps28
  go_wp2
  go_ret
  exact ⟨rfl, rfl⟩

/-- The first character: no UTF-8. -/
theorem next_plain (k : Int) (hk : k ≠ 3) (l : L8) (hne : l ≠ []) (b off cap : Nat) (w : World) (hp : Bytes w b off l) :
    Calls Tryd.prog 20 #[.slice (some ⟨b, off, none⟩) l.length cap, .int .i64 k] w fun e w' => e = .returned (.tuple #[.int .i32 (nextR k l), .int .i64 (nextN k l), .bool (nextOk k l)]) ∧ Below w.heap.size w w' := by
  have hl : 0 < l.length := List.length_pos_iff.2 hne
  have c0 : w.cell? ⟨b, off, none⟩ = some (.int .u8 (l.getD 0 0).toNat) := hp 0 hl
  have c0' : w.cell? ⟨b, off + (0 : Int).toNat, none⟩ = some (.int .u8 (l.getD 0 0).toNat) := hp 0 hl
  have hx := (l.getD 0 0).toNat_lt
  have R : Hid (nextR k l = ((l.getD 0 0).toNat : Int)) := Lib.hid (by unfold nextR; rw [if_neg hk])
  have N : Hid (nextN k l = 1) := Lib.hid (by unfold nextN; rw [if_neg hk])
  have O : Hid (nextOk k l = (k == 2 || decide ((l.getD 0 0).toNat ≤ 127))) := Lib.hid (by unfold nextOk; rw [if_neg hk])
  generalize (l.getD 0 0).toNat = x at *
  have q1 : (k != 3) = true := by simpa using hk
  clear hk
  by_cases h2 : k = 2
  · subst h2
    have q2 : ((2 : Int) == 2) = true := rfl
    go_enter Tryd.func20, Tryd.ntmps20
    go_wp2
    go_quiet (fail)
    go_wp2
    refine bodyPost_ret (v := .tuple #[.int .i32 x, .int .i64 1, .bool true]) (by simp [results, Tryd.results20, go_sem]) rfl ?_
    refine ⟨?_, ?_⟩
    · rw [R.out, N.out, O.out]; rfl
    · exact ⟨rfl, rfl, rfl, Nat.le_refl _, fun _ _ => rfl⟩
  · have q2 : (k == 2) = false := by simpa using h2
    go_enter Tryd.func20, Tryd.ntmps20
    go_wp2
    go_quiet (fail)
    go_wp2
    refine bodyPost_ret (v := .tuple #[.int .i32 x, .int .i64 1, .bool (decide ((x : Int) ≤ 127))]) (by simp [results, Tryd.results20, go_sem]) rfl ?_
    refine ⟨?_, ?_⟩
    · rw [R.out, N.out, O.out, q2]
      exact ret3 rfl rfl (by rw [Bool.eq_iff_iff]; simp; omega)
    · exact ⟨rfl, rfl, rfl, Nat.le_refl _, fun _ _ => rfl⟩

theorem next_utf8 (l : L8) (hne : l ≠ []) (b off cap : Nat) (w : World) (hT : Lib.Utf8Tabs 0 1 w) (hp : Bytes w b off l) :
    Calls Tryd.prog 20 #[.slice (some ⟨b, off, none⟩) l.length cap, .int .i64 3] w fun e w' => e = .returned (.tuple #[.int .i32 (nextR 3 l), .int .i64 (nextN 3 l), .bool (nextOk 3 l)]) ∧ Below w.heap.size w w' := by
  have C := Lib.hid (decode_at l hne b off cap w hT hp)
  have R : Hid (nextR 3 l = ((Lib.decodeL l).1 : Int)) := Lib.hid (by simp [nextR])
  have N : Hid (nextN 3 l = (Lib.decodeL l).2) := Lib.hid (by simp [nextN])
  have O : Hid (nextOk 3 l = !decide (bad l)) := Lib.hid (by simp [nextOk])
  have hr := decode_rune l
  have hw := Lib.decodeL_width l
  have hw4 := decode_le4 l
  have B : Hid (bad l = ((Lib.decodeL l).1 = 65533 ∧ (Lib.decodeL l).2 = 1)) := Lib.hid rfl
  have hr1 : 0 ≤ ((Lib.decodeL l).1 : Int) ∧ ((Lib.decodeL l).1 : Int) ≤ 1114111 := by omega
  have B' : Hid (bad l ↔ (((Lib.decodeL l).1 : Int) = 65533 ∧ ((Lib.decodeL l).2 : Int) = 1)) := Lib.hid (by unfold bad; omega)
  have hw' : 1 ≤ ((Lib.decodeL l).2 : Int) ∧ ((Lib.decodeL l).2 : Int) ≤ 4 := by omega
  have N' : Hid ((nextN 3 l : Int) = ((Lib.decodeL l).2 : Int)) := Lib.hid (by rw [N.out])
  clear hr B N hw hw4
  generalize ((Lib.decodeL l).1 : Int) = r at *
  generalize ((Lib.decodeL l).2 : Int) = n at *
  obtain ⟨hr1, hr2⟩ := hr1
  obtain ⟨hw, hw4⟩ := hw'
  have q1 : ((3 : Int) != 3) = false := rfl
  by_cases h1 : r = 65533
  · have q2 : (r != 65533) = false := by simp; omega
    have B2 := Lib.hid h1
    clear h1
    by_cases h2 : n = 1
    · go_enter Tryd.func20, Tryd.ntmps20
      go_wp2_with (go_at_call 30; refine C.out.mono ?_)
      rintro e w' ⟨rfl, hb⟩
      go_wp2
      go_ret3
      refine ⟨?_, hb⟩
      rw [R.out, N'.out, O.out]
      refine ret3 rfl (by omega) ?_
      simp [B'.out, B2.out, h2]
    · go_enter Tryd.func20, Tryd.ntmps20
      go_wp2_with (go_at_call 30; refine C.out.mono ?_)
      rintro e w' ⟨rfl, hb⟩
      go_wp2
      go_ret3
      refine ⟨?_, hb⟩
      rw [R.out, N'.out, O.out]
      refine ret3 rfl rfl ?_
      simp [B'.out, h2]; omega
  · have q2 : (r != 65533) = true := by simp; omega
    go_enter Tryd.func20, Tryd.ntmps20
    go_wp2_with (go_at_call 30; refine C.out.mono ?_)
    rintro e w' ⟨rfl, hb⟩
    go_wp2
    go_ret3
    refine ⟨?_, hb⟩
    rw [R.out, N'.out, O.out]
    refine ret3 rfl rfl ?_
    simp [B'.out, h1]

theorem next_any (k : Int) (l : L8) (hne : l ≠ []) (b off cap : Nat) (w : World) (hT : Lib.Utf8Tabs 0 1 w) (hp : Bytes w b off l) :
    Calls Tryd.prog 20 #[.slice (some ⟨b, off, none⟩) l.length cap, .int .i64 k] w fun e w' => e = .returned (.tuple #[.int .i32 (nextR k l), .int .i64 (nextN k l), .bool (nextOk k l)]) ∧ Below w.heap.size w w' := by
  by_cases h : k = 3
  · subst h; exact next_utf8 l hne b off cap w hT hp
  · exact next_plain k h l hne b off cap w hp

end Go.Proofs.YtmnoiknpamfmoaaDoor
