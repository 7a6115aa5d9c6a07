/- Series: numbers, dates and names, of the reference. -/
import Derived.Test.YtibigbfkokendaaGreatDoorCal
import Derived.Test.YtibigbfkokendaaGreatDoorP6
import Derived.Test.YtibigbfkokendaaGreatDoorBytes
import Derived.Outline
import Derived.BigQuiet
namespace Go.Proofs.YtibigbfkokendaaGreatDoor
open Go.RowKit TT

theorem arr_cat (l m : L8) : arr l ++ arr m = arr (l ++ m) := by
  apply ByteArray.ext
  simp [arr]
theorem drop_at (s : ByteArray) (i : Nat) (h : i < s.size) : s.data.toList.drop i = s[i] :: s.data.toList.drop (i + 1) := by
  have h' : i < s.data.toList.length := h
  rw [List.drop_eq_getElem_cons h']
  rfl
theorem drop_end (s : ByteArray) (i : Nat) (h : s.size ≤ i) : s.data.toList.drop i = [] := List.drop_eq_nil_of_le h
/-- k decimal digits of a number -/
def dgt : Nat → Nat → L8
  | 0, _ => []
  | k + 1, m => dgt k (m / 10) ++ [UInt8.ofNat (48 + m % 10)]
theorem dgt_one (n : Nat) (h : n < 10) : dgt 1 n = [UInt8.ofNat (48 + n)] := by simp [dgt, Nat.mod_eq_of_lt h]
theorem dgt_two (n : Nat) (h : n < 100) : dgt 2 n = two2 n := by
  have e : n / 10 % 10 = n / 10 := Nat.mod_eq_of_lt (by omega)
  simp [dgt, two2, e]
theorem dgt_four (n : Nat) (h0 : 2000 ≤ n) (h1 : n ≤ 2099) : dgt 4 n = [50, 48] ++ two2 (n - 2000) := by
  have e1 : n / 10 / 10 / 10 % 10 = 2 := by omega
  have e2 : n / 10 / 10 % 10 = 0 := by omega
  have e3 : n / 10 % 10 = (n - 2000) / 10 := by omega
  have e4 : n % 10 = (n - 2000) % 10 := by omega
  simp only [dgt, two2, e1, e2, e3, e4]
  rfl
theorem one_conv (c : UInt8) (W : World) : (convert 39 9 (.slice (some ⟨W.heap.size, 0, none⟩) 1 1)).run Tryz.prog (W.alloc (.cells #[.int .u8 (c.toNat : Int)] 5)) = .ok (.string (arr [c])) (W.alloc (.cells #[.int .u8 (c.toNat : Int)] 5)) :=
  run_convert_bytes_back _ 39 9 5 ⟨W.heap.size, 0, none⟩ 1 [c] Tryz.underlying39 Tryz.underlying5 Tryz.underlying9 (fun j hj => by
    obtain rfl : j = 0 := by simpa using hj
    rw [Go.WideShapes.add_plain, World.cell?_alloc_at _ _ _ _ rfl]; rfl)

set_option maxRecDepth 100000 in
set_option maxHeartbeats 2000000 in
theorem rdigits_any (k n : Nat) (hk : k ≤ 4) (hn : n < 10 ^ k) (hn2 : n ≤ 100000) (w : World) : Calls Tryz.prog 52 #[.int .i64 n, .int .i64 k] w (RetB (.string (arr (dgt k n))) w) := by
  have HN := Lib.hid hn
  have HB : Hid (Below w.heap.size w w) := Lib.hid (Below.refl _ _)
  have HD : Hid (dgt k n ++ [] = dgt k n) := Lib.hid (List.append_nil _)
  clear hn
  go_enter Tryz.func52, Tryz.ntmps52
  go_wp2
  go_loopw [0, 1, 5] (fun a b s wr => ∃ (m j : Nat) (o : L8), a = .int .i64 m ∧ b = .int .i64 j ∧ s = .string (arr o) ∧ m ≤ 100000 ∧ j ≤ 4 ∧ o.length ≤ 4 - j ∧ Hid (m < 10 ^ j) ∧ Hid (Below w.heap.size w wr) ∧ Hid (dgt j m ++ o = dgt k n)) (fun _ b _ _ => (intOf b).toNat)
  case atStart => exact ⟨n, k, [], rfl, rfl, rfl, hn2, hk, by simp, HN, HB, HD⟩
  case round =>
    obtain ⟨m, j, o, rfl, rfl, rfl, hm, hj, ho, HM, HW, HO⟩ := hrel
    clear HN HB HD
    cases j with
    | zero =>
      have HE : Hid (o = dgt k n) := Lib.hid (by have := HO.out; simpa [dgt] using this)
      rw [show ((0 : Nat) : Int) = 0 from rfl]
      go_wp2_with fail
      go_ret
      exact ⟨by rw [← HE.out]; rfl, HW.out⟩
    | succ j =>
      have hc : (UInt8.ofNat (48 + m % 10)).toNat = 48 + m % 10 := by rw [UInt8.toNat_ofNat']; omega
      have hcv := one_conv (UInt8.ofNat (48 + m % 10))
      have hcc : (((UInt8.ofNat (48 + m % 10)).toNat : Nat) : Int) = 48 + (m : Int) % 10 := by rw [hc]; omega
      rw [hcc] at hcv
      have y1 : IntKind.u8.wrap (48 + (m : Int) % 10) = 48 + (m : Int) % 10 := by
        have h1 : (0 : Int) ≤ (m : Int) % 10 := by omega
        have h2 : (m : Int) % 10 < 10 := by omega
        unfold IntKind.wrap
        simp [IntKind.bits, IntKind.signed]
        omega
      have hcat : arr [UInt8.ofNat (48 + m % 10)] ++ arr o = arr (UInt8.ofNat (48 + m % 10) :: o) := arr_cat _ _
      have hsz : ¬ 9223372036854775807 < (arr [UInt8.ofNat (48 + m % 10)]).size + (arr o).size := by rw [arr_size, arr_size]; simp; omega
      have HL : Hid (m / 10 < 10 ^ j) := Lib.hid (by
        have := HM.out
        rw [Nat.pow_succ] at this
        omega)
      have HOO : Hid (dgt j (m / 10) ++ (UInt8.ofNat (48 + m % 10) :: o) = dgt k n) := Lib.hid (by
        have := HO.out
        rw [dgt] at this
        rw [← this]; simp)
      have HWA := Lib.hid (fun ob => HW.out.alloc HW.out.size ob)
      clear hc hcc
      generalize arr [UInt8.ofNat (48 + m % 10)] = cs at *
      have HSS := Lib.hid hcat
      clear hcat
      have HL4 : Hid ((UInt8.ofNat (48 + m % 10) :: o).length ≤ 4 - j) := Lib.hid (by simp; omega)
      go_wp2_with fail
      go_roundw
      case rel => exact ⟨m / 10, j, UInt8.ofNat (48 + m % 10) :: o, by simp, by simp, by rw [HSS.out], by omega, by omega, HL4.out, HL, Lib.hid (HWA.out _), HOO⟩
      case measure => simp [intOf]
theorem rtwo_any (n : Nat) (h : n < 100) (w : World) : Calls Tryz.prog 52 #[.int .i64 n, .int .i64 2] w (RetB (.string (arr (two2 n))) w) := by
  have h2 := rdigits_any 2 n (by omega) (by omega) (by omega) w
  rw [dgt_two n h] at h2
  exact h2
theorem rtwo_int (x : Int) (h0 : 0 ≤ x) (h1 : x < 100) (w : World) : Calls Tryz.prog 52 #[.int .i64 x, .int .i64 2] w (RetB (.string (arr (two2 x.toNat))) w) := by
  obtain ⟨n, rfl⟩ : ∃ n : Nat, x = n := ⟨x.toNat, by omega⟩
  exact rtwo_any n (by omega) w
theorem rone_int (x : Int) (h0 : 0 ≤ x) (h1 : x < 10) (w : World) : Calls Tryz.prog 52 #[.int .i64 x, .int .i64 1] w (RetB (.string (arr [UInt8.ofNat (48 + x.toNat)])) w) := by
  obtain ⟨n, rfl⟩ : ∃ n : Nat, x = n := ⟨x.toNat, by omega⟩
  have h2 := rdigits_any 1 n (by omega) (by omega) (by omega) w
  rw [dgt_one n (by omega)] at h2
  exact h2
theorem rfour_int (x : Int) (h0 : 2000 ≤ x) (h1 : x ≤ 2099) (w : World) : Calls Tryz.prog 52 #[.int .i64 x, .int .i64 4] w (RetB (.string (arr ([50, 48] ++ two2 (x - 2000).toNat))) w) := by
  obtain ⟨n, rfl⟩ : ∃ n : Nat, x = n := ⟨x.toNat, by omega⟩
  have h2 := rdigits_any 4 n (by omega) (by omega) (by omega) w
  rw [dgt_four n (by omega) (by omega), show n - 2000 = ((n : Int) - 2000).toNat by omega] at h2
  exact h2

set_option maxRecDepth 100000 in
set_option maxHeartbeats 1000000 in
theorem rdate_any (l : Int) (h : okDay l = true) (w : World) : Calls Tryz.prog 53 #[.int .i64 l] w (RetB (.string (arr (datL l))) w) := by
  have P := Lib.hid (fun w => Cal.rparts_any l w)
  obtain ⟨h1, h2⟩ := okDay_of h
  obtain ⟨y0, y1, _, _⟩ := yearOf_spec l h1 h2
  have hy : pY l = yearOf l := by unfold pY; rw [h]; rfl
  have hpE : pE l = 0 := by unfold pE; rw [h]; rfl
  obtain ⟨_, _, m0, m1, d0, d1⟩ := p_bd l
  rw [← hy] at y0 y1
  rw [hpE] at P
  have D4 := Lib.hid (rfour_int (pY l) y0 y1)
  have D2 := Lib.hid (rtwo_int (pM l) m0 (by omega))
  have D3 := Lib.hid (rtwo_int (pD l) d0 (by omega))
  have J : Hid (arr ([50, 48] ++ two2 (pY l - 2000).toNat) ++ arr (two2 (pM l).toNat) ++ arr (two2 (pD l).toNat) = arr (datL l)) := Lib.hid (by
    rw [arr_cat, arr_cat]; unfold datL; rfl)
  have s1 : (arr ([50, 48] ++ two2 (pY l - 2000).toNat)).size = 4 := rfl
  have s2 : (arr (two2 (pM l).toNat)).size = 2 := rfl
  have s3 : (arr (two2 (pD l).toNat)).size = 2 := rfl
  clear hy hpE h
  generalize arr ([50, 48] ++ two2 (pY l - 2000).toNat) = S1 at *
  generalize arr (two2 (pM l).toNat) = S2 at *
  generalize arr (two2 (pD l).toNat) = S3 at *
  generalize arr (datL l) = S4 at *
  generalize pY l = yy at *
  generalize pM l = mm at *
  generalize pD l = dd at *
  go_enter Tryz.func53, Tryz.ntmps53
  go_wp2_with fail
  refine (P.out _).mono ?_
  rintro en w1 ⟨rfl, hw⟩
  subst hw
  go_wp2_with fail
  refine (D4.out _).mono ?_
  rintro en w2 ⟨rfl, hb2⟩
  have HB2 := Lib.hid hb2
  clear hb2
  go_wp2_with fail
  refine (D2.out _).mono ?_
  rintro en w3 ⟨rfl, hb3⟩
  have HB3 := Lib.hid (below3 HB2.out hb3)
  clear hb3
  go_wp2_with fail
  refine (D3.out _).mono ?_
  rintro en w4 ⟨rfl, hb4⟩
  have HB4 := Lib.hid (below3 HB3.out hb4)
  clear hb4
  go_wp2_with fail
  go_ret
  exact ⟨by rw [J.out]; rfl, HB4.out⟩

/-- the names of the weekdays, in a block -/
def NamesP (w : World) (e : Ending) (w' : World) : Prop := ∃ g, e = .returned (.slice (some ⟨g, 0, none⟩) 7 7) ∧ (∀ j, j < 7 → w'.cell? ⟨g, j, none⟩ = some (.string (arr (nmL j)))) ∧ g < w'.heap.size ∧ Below w.heap.size w w'
theorem names_any (w : World) : Calls Tryz.prog 35 #[] w (NamesP w) := by
  go_enter Tryz.func35, Tryz.ntmps35
  go_wp2
  go_ret
  refine ⟨_, rfl, fun j hj => ?_, by simp, (Below.refl _ _).alloc (Nat.le_refl _) _⟩
  match j, hj with
  | 0, _ => rw [World.cell?_alloc_at _ _ _ _ rfl]; rfl
  | 1, _ => rw [World.cell?_alloc_at _ _ _ _ rfl]; rfl
  | 2, _ => rw [World.cell?_alloc_at _ _ _ _ rfl]; rfl
  | 3, _ => rw [World.cell?_alloc_at _ _ _ _ rfl]; rfl
  | 4, _ => rw [World.cell?_alloc_at _ _ _ _ rfl]; rfl
  | 5, _ => rw [World.cell?_alloc_at _ _ _ _ rfl]; rfl
  | 6, _ => rw [World.cell?_alloc_at _ _ _ _ rfl]; rfl

theorem dig_two (c : UInt8) {b1 b2 : Bool} (h1 : decide ((c.toNat : Int) < 48) = b1) (h2 : decide ((57 : Int) < (c.toNat : Int)) = b2) : decide (48 ≤ c.toNat ∧ c.toNat ≤ 57) = (!b1 && !b2) := by
  rw [← h1, ← h2, Bool.eq_iff_iff]
  simp
  omega
def numE (o : Option Nat) : Int := match o with | none => -1 | some n => n

set_option maxRecDepth 100000 in
set_option maxHeartbeats 1000000 in
theorem rnumber_any (s : ByteArray) (hs : s.size ≤ 4) (w : World) : Calls Tryz.prog 34 #[.string s] w (RetS (.int .i64 (numI s.data.toList)) w) := by
  have HN0 : Hid (numO 0 (s.data.toList.drop 0) = numO 0 s.data.toList) := Lib.hid rfl
  have HI : Hid (numI s.data.toList = numE (numO 0 s.data.toList)) := Lib.hid rfl
  go_enter Tryz.func34, Tryz.ntmps34
  go_wp2
  go_loop [3, 4] (fun n i => ∃ m j : Nat, n = .int .i64 m ∧ i = .int .i64 j ∧ j ≤ s.size ∧ m ≤ 10000 ∧ Hid (m < 10 ^ j) ∧ Hid (numO m (s.data.toList.drop j) = numO 0 s.data.toList)) (fun _ i => s.size - (intOf i).toNat)
  case atStart => exact ⟨0, 0, rfl, rfl, by omega, by omega, Lib.hid (by simp), HN0⟩
  case round =>
    obtain ⟨m, j, rfl, rfl, hj, hm, HM, HR⟩ := hrel
    clear HN0
    by_cases hjl : j < s.size
    · have hdr := drop_at s j hjl
      have HN := HR.out
      rw [hdr, numO] at HN
      have HNN := Lib.hid HN
      clear HN hdr
      have hc255 : (s[j]).toNat < 256 := (s[j]).toNat_lt
      have hm3 : m < 1000 := Nat.lt_of_lt_of_le HM.out (Nat.le_trans (Nat.pow_le_pow_right (by omega) (show j ≤ 3 by omega)) (by decide))
      have HM2 : Hid (10 * m + 9 < 10 ^ (j + 1)) := Lib.hid (by have := HM.out; rw [Nat.pow_succ]; omega)
      generalize b1 : decide (((s[j]).toNat : Int) < 48) = d1
      generalize b2 : decide ((57 : Int) < ((s[j]).toNat : Int)) = d2
      have hD := dig_two (s[j]) b1 b2
      cases d1
      · cases d2
        · have g1 : 48 ≤ (s[j]).toNat := by have := of_decide_eq_false b1; omega
          have g2 : (s[j]).toNat ≤ 57 := by have := of_decide_eq_false b2; omega
          have HG := HNN.out
          rw [if_pos ⟨g1, g2⟩] at HG
          have HN2 : Hid (numO (10 * m + ((s[j]).toNat - 48)) (s.data.toList.drop (j + 1)) = numO 0 s.data.toList) := Lib.hid HG
          have y1 : IntKind.u8.wrap (((s[j]).toNat : Int) - 48) = ((s[j]).toNat : Int) - 48 := by
            unfold IntKind.wrap
            simp [IntKind.bits, IntKind.signed]
            omega
          clear HG HNN hD
          have HZ : Hid (((s[j]).toNat : Int) - 48 = ((s[j].toNat - 48 : Nat) : Int)) := Lib.hid (by omega)
          go_wp2
          refine ⟨⟨10 * m + ((s[j]).toNat - 48), j + 1, ?_, by go_num, by omega, by omega, Lib.hid (by have := HM2.out; omega), HN2⟩, by simp [intOf]; omega⟩
          have := HZ.out
          congr 1; omega
        · have HE : Hid (numI s.data.toList = -1) := Lib.hid (by
            have := HNN.out; rw [if_neg (of_decide_eq_false (by rw [hD]; decide))] at this
            rw [HI.out, ← this]; rfl)
          clear hD HNN
          go_wp2
          go_ret
          exact ⟨ret_int HE.out.symm, rfl⟩
      · have HE : Hid (numI s.data.toList = -1) := Lib.hid (by
          have := HNN.out; rw [if_neg (of_decide_eq_false (by rw [hD]; simp))] at this
          rw [HI.out, ← this]; rfl)
        clear hD HNN
        go_wp2
        go_ret
        exact ⟨ret_int HE.out.symm, rfl⟩
    · obtain rfl : j = s.size := by omega
      have HE : Hid ((m : Int) = numI s.data.toList) := Lib.hid (by
        have := HR.out; rw [drop_end s _ (Nat.le_refl _)] at this
        rw [HI.out, ← this]; rfl)
      go_wp2
      go_ret
      exact ⟨ret_int HE.out, rfl⟩

end Go.Proofs.YtibigbfkokendaaGreatDoor
