/- Zones: offsets and dates, read by the reference. -/
import Derived.Test.YtllcoocllkaanaaDoorY16
namespace Go.Proofs.YtllcoocllkaanaaDoor
open Go.RowKit TT

theorem dig_iff : ∀ (l : L8) (n : Int), 0 ≤ n → (0 ≤ numF n l ↔ ∀ c ∈ l, isD c = true)
  | [], n, h => by simp [numF, h]
  | c :: r, n, h => by
    rw [numF]
    by_cases hd : isD c = true
    · have hd2 : 48 ≤ c.toNat ∧ c.toNat ≤ 57 := by simpa [isD] using hd
      rw [if_pos hd, dig_iff r _ (by omega)]
      simp [hd]
    · rw [if_neg hd]
      simp [hd]
theorem num_two (a b : L8) : 0 ≤ numL (a ++ b) ↔ 0 ≤ numL a ∧ 0 ≤ numL b := by
  unfold numL
  rw [dig_iff _ _ (by omega), dig_iff _ _ (by omega), dig_iff _ _ (by omega)]
  simp only [List.mem_append]
  exact ⟨fun h => ⟨fun c hc => h c (Or.inl hc), fun c hc => h c (Or.inr hc)⟩, fun h c hc => hc.elim (h.1 c) (h.2 c)⟩
theorem cut_split (l : L8) (a b c : Nat) (h1 : a ≤ b) (h2 : b ≤ c) : cut l a c = cut l a b ++ cut l b c := by
  unfold cut
  rw [List.drop_take, List.drop_take, List.drop_take]
  obtain ⟨k, rfl⟩ : ∃ k, b = a + k := ⟨b - a, by omega⟩
  obtain ⟨m, rfl⟩ : ∃ m, c = a + k + m := ⟨c - (a + k), by omega⟩
  rw [show a + k + m - a = k + m by omega, show a + k - a = k by omega, show a + k + m - (a + k) = m by omega, List.take_add, List.drop_drop]
theorem rnum_cut (s : ByteArray) (a b : Nat) (h : b ≤ a + 4) (w : World) : Calls Tryd.prog 69 #[.string (s.extract a b)] w (RetS (.int .i64 (numL (cut s.data.toList a b))) w) := by
  have := rnumber_any (s.extract a b) (by rw [ByteArray.size_extract]; omega) w
  rw [ext_cut] at this
  exact this
set_option maxRecDepth 100000 in
set_option maxHeartbeats 4000000 in
theorem rshown_any (s : ByteArray) (w : World) : Calls Tryd.prog 53 #[.string s] w (RetB (ofsV (offP s.data.toList)) w) := by
  by_cases h5 : s.size = 5
  · have hlen : s.data.toList.length = 5 := h5
    have R1 := Lib.hid (fun w => rnum_cut s 1 5 (by omega) w)
    have R2 := Lib.hid (fun w => rnum_cut s 1 3 (by omega) w)
    have R3 := Lib.hid (fun w => rnum_cut s 3 5 (by omega) w)
    have hsp := cut_split s.data.toList 1 3 5 (by omega) (by omega)
    have hpos : 0 ≤ numL (cut s.data.toList 1 5) ↔ 0 ≤ numL (cut s.data.toList 1 3) ∧ 0 ≤ numL (cut s.data.toList 3 5) := by rw [hsp, num_two]
    obtain ⟨a1, a2⟩ := numL_bd (l := cut s.data.toList 1 3) (k := 4) (by have := cut_len s.data.toList 1 3; omega)
    obtain ⟨b1, b2⟩ := numL_bd (l := cut s.data.toList 3 5) (k := 4) (by have := cut_len s.data.toList 3 5; omega)
    have HO : Hid (offP s.data.toList = if 0 ≤ numL (cut s.data.toList 1 3) ∧ 0 ≤ numL (cut s.data.toList 3 5) ∧ (s.data.toList.head? = some 43 ∨ s.data.toList.head? = some 45) then
      some (if s.data.toList.head? = some 45 then -60 * numL (cut s.data.toList 1 3) - numL (cut s.data.toList 3 5) else 60 * numL (cut s.data.toList 1 3) + numL (cut s.data.toList 3 5)) else none) := Lib.hid (by
        unfold offP
        by_cases h : 0 ≤ numL (cut s.data.toList 1 3) ∧ 0 ≤ numL (cut s.data.toList 3 5) ∧ (s.data.toList.head? = some 43 ∨ s.data.toList.head? = some 45)
        · rw [if_pos h, if_pos ⟨hlen, h⟩]
        · rw [if_neg h, if_neg fun h' => h h'.2])
    have hh : s.data.toList.head? = some (s[0]'(by omega)) := by
      have := drop_at s 0 (by omega)
      rw [List.drop_zero] at this
      rw [this]; rfl
    have HH := Lib.hid hh
    generalize numL (cut s.data.toList 1 3) = x at *
    generalize numL (cut s.data.toList 3 5) = y at *
    generalize numL (cut s.data.toList 1 5) = z at *
    have HPOS := Lib.hid hpos
    clear hsp hlen hpos hh
    have g0 : 0 < s.size := by omega
    have hBD : ∀ n, Below w.heap.size w (w.drewN n) := fun n => ⟨rfl, rfl, rfl, Nat.le_refl _, fun _ _ => rfl⟩
    have HBD := Lib.hid hBD
    clear hBD
    by_cases c1 : s[0] = 45
    · have hc1 := c1
      clear hc1
      have q1 : ((s[0].toNat : Int) != 43) = true := by rw [c1]; decide
      have q2 : ((s[0].toNat : Int) != 45) = false := by rw [c1]; decide
      have q3 : ((s[0].toNat : Int) == 45) = true := by rw [c1]; decide
      by_cases hz : z < 0
      · have HE : Hid (offP s.data.toList = none) := Lib.hid (by rw [HO.out, if_neg]; rintro ⟨h1, h2, _⟩; have := HPOS.out.2 ⟨h1, h2⟩; omega)
        have hz' : decide (z < 0) = true := by simpa using hz
        clear HO hz c1
        go_enter Tryd.func53, Tryd.ntmps53
        go_wp2_with fail
        refine (R1.out _).mono ?_
        rintro e w' ⟨rfl, rfl⟩
        go_wp2_with fail
        go_ret2
        exact ⟨ret_ofsV (by rw [HE.out]; rfl) (by rw [HE.out]; rfl), Below.refl _ _⟩
      · have hz' : decide (z < 0) = false := by simpa using hz
        have hxy := HPOS.out.1 (by omega)
        obtain ⟨x0, y0⟩ := hxy
        have HE : Hid (offP s.data.toList = some (-60 * x - y)) := Lib.hid (by rw [HO.out, HH.out, c1, if_pos ⟨x0, y0, Or.inr rfl⟩, if_pos rfl])
        clear HO hz c1
        go_enter Tryd.func53, Tryd.ntmps53
        go_wp2_with fail
        refine (R1.out _).mono ?_
        rintro e w' ⟨rfl, rfl⟩
        go_wp2_with fail
        go_quiet ((go_at_call 69; first | (with_reducible exact Calls.quiet_of_same (same_flip (R2.out _))) | (with_reducible exact Calls.quiet_of_same (same_flip (R3.out _)))))
        go_wp2_with fail
        go_ret2
        exact ⟨ret_ofsV (by rw [HE.out]; show -60 * x - y = _; omega) (by rw [HE.out]; rfl), HBD.out _⟩
    have hn1 := c1
    by_cases c1 : s[0] = 43
    · clear hn1
      have q1 : ((s[0].toNat : Int) != 43) = false := by rw [c1]; decide
      have q2 : ((s[0].toNat : Int) != 45) = true := by rw [c1]; decide
      have q3 : ((s[0].toNat : Int) == 45) = false := by rw [c1]; decide
      by_cases hz : z < 0
      · have HE : Hid (offP s.data.toList = none) := Lib.hid (by rw [HO.out, if_neg]; rintro ⟨h1, h2, _⟩; have := HPOS.out.2 ⟨h1, h2⟩; omega)
        have hz' : decide (z < 0) = true := by simpa using hz
        clear HO hz c1
        go_enter Tryd.func53, Tryd.ntmps53
        go_wp2_with fail
        refine (R1.out _).mono ?_
        rintro e w' ⟨rfl, rfl⟩
        go_wp2_with fail
        go_ret2
        exact ⟨ret_ofsV (by rw [HE.out]; rfl) (by rw [HE.out]; rfl), Below.refl _ _⟩
      · have hz' : decide (z < 0) = false := by simpa using hz
        have hxy := HPOS.out.1 (by omega)
        obtain ⟨x0, y0⟩ := hxy
        have HE : Hid (offP s.data.toList = some (60 * x + y)) := Lib.hid (by rw [HO.out, HH.out, c1, if_pos ⟨x0, y0, Or.inl rfl⟩, if_neg (by decide)])
        clear HO hz c1
        go_enter Tryd.func53, Tryd.ntmps53
        go_wp2_with fail
        refine (R1.out _).mono ?_
        rintro e w' ⟨rfl, rfl⟩
        go_wp2_with fail
        go_quiet ((go_at_call 69; first | (with_reducible exact Calls.quiet_of_same (same_flip (R2.out _))) | (with_reducible exact Calls.quiet_of_same (same_flip (R3.out _)))))
        go_wp2_with fail
        go_ret2
        exact ⟨ret_ofsV (by rw [HE.out]; show 60 * x + y = _; omega) (by rw [HE.out]; rfl), HBD.out _⟩
    have HE : Hid (offP s.data.toList = none) := Lib.hid (by
      rw [HO.out, HH.out, if_neg]
      rintro ⟨_, _, h | h⟩
      · exact c1 (Option.some.inj h)
      · exact hn1 (Option.some.inj h))
    have q1 : ((s[0].toNat : Int) != 43) = true := by
      rw [bne_iff_ne]; intro h; apply c1; apply UInt8.toNat_inj.1; show s[0].toNat = 43; omega
    have q2 : ((s[0].toNat : Int) != 45) = true := by
      rw [bne_iff_ne]; intro h; apply hn1; apply UInt8.toNat_inj.1; show s[0].toNat = 45; omega
    clear c1 hn1 HO
    go_enter Tryd.func53, Tryd.ntmps53
    go_wp2_with fail
    go_ret2
    exact ⟨ret_ofsV (by rw [HE.out]; rfl) (by rw [HE.out]; rfl), Below.refl _ _⟩
  · have HO : Hid (offP s.data.toList = none) := Lib.hid (by unfold offP; rw [if_neg fun h => h5 h.1])
    have h5' : ((s.size : Int) != 5) = true := by simp; omega
    clear h5
    go_enter Tryd.func53, Tryd.ntmps53
    go_wp2_with fail
    go_ret2
    exact ⟨ret_ofsV (by rw [HO.out]; rfl) (by rw [HO.out]; rfl), Below.refl _ _⟩
end Go.Proofs.YtllcoocllkaanaaDoor
