/- Zones: offsets and dates, read by the program. -/
import Derived.Test.YtllcoocllkaanaaDoorY7
namespace Go.Proofs.YtllcoocllkaanaaDoor
open Go.RowKit TT

theorem numF_bd : ∀ (l : L8) (n : Int), 0 ≤ n → -1 ≤ numF n l ∧ numF n l < (n + 1) * (10 : Int) ^ l.length
  | [], n, h => by simp only [numF, List.length_nil]; omega
  | c :: r, n, h => by
    rw [numF]
    have hp : (1 : Int) ≤ 10 ^ r.length := by
      have : (0 : Int) < 10 ^ r.length := Int.pow_pos (by omega)
      omega
    have hq : (10 : Int) ^ (c :: r).length = 10 ^ r.length * 10 := Int.pow_succ 10 r.length
    have hmul : (n + 1) * (10 : Int) ^ (c :: r).length = ((n + 1) * 10) * 10 ^ r.length := by rw [hq, ← Int.mul_assoc, Int.mul_comm, ← Int.mul_assoc]; congr 1; omega
    by_cases hd : isD c = true
    · rw [if_pos hd]
      have hd2 : 48 ≤ c.toNat ∧ c.toNat ≤ 57 := by simpa [isD] using hd
      obtain ⟨h1, h2⟩ := numF_bd r (10 * n + ((c.toNat : Int) - 48)) (by omega)
      refine ⟨h1, Int.lt_of_lt_of_le h2 ?_⟩
      rw [hmul]
      exact Int.mul_le_mul_of_nonneg_right (by omega) (by omega)
    · rw [if_neg hd]
      refine ⟨by omega, ?_⟩
      rw [hmul]
      have : (0 : Int) ≤ ((n + 1) * 10) * 10 ^ r.length := Int.mul_nonneg (by omega) (by omega)
      omega
theorem numL_bd {l : L8} {k : Nat} (h : l.length ≤ k) : -1 ≤ numL l ∧ numL l < (10 : Int) ^ k := by
  obtain ⟨h1, h2⟩ := numF_bd l 0 (by omega)
  have h3 : ((10 : Nat) : Int) ^ l.length ≤ ((10 : Nat) : Int) ^ k := by
    have := Nat.pow_le_pow_right (n := 10) (by omega) h
    exact_mod_cast this
  unfold numL
  refine ⟨h1, ?_⟩
  have h4 : ((0 : Int) + 1) * 10 ^ l.length = 10 ^ l.length := by omega
  rw [h4] at h2
  exact Int.lt_of_lt_of_le h2 h3
theorem cut_len (l : L8) (a b : Nat) : (cut l a b).length ≤ b - a := by
  unfold cut
  simp; omega
theorem num_bd (s : ByteArray) (a b : Nat) (h : b ≤ a + 4) : -1 ≤ numAB s a b ∧ numAB s a b < 10000 := by
  unfold numAB
  split
  · omega
  · have := numL_bd (l := cut s.data.toList a b) (k := 4) (by have := cut_len s.data.toList a b; omega)
    omega

theorem bel_of_ret {v : Value} {w : World} {e : Ending} {w' : World} (h : RetB v w e w') : e = .returned v ∧ Below w.heap.size w w' := h
/-- what an offset is read as -/
def ofsV (o : Option Int) : Value := .tuple #[.int .i64 (o.getD 0), .bool o.isSome]
theorem ret_ofsV {o : Option Int} {a : Int} {b : Bool} (h1 : o.getD 0 = a) (h2 : o.isSome = b) : Ending.returned (.tuple #[.int .i64 a, .bool b]) = .returned (ofsV o) := by rw [ofsV, h1, h2]
set_option maxRecDepth 100000 in
set_option maxHeartbeats 1000000 in
theorem ofs_any (s : ByteArray) (w : World) (hs : s.size ≤ 1000000) :
    Calls Tryd.prog 51 #[.string s] w (RetB (ofsV (offP s.data.toList)) w) := by
  have N1 := fun w => number_any s 1 3 (by omega) (by omega) (by omega) w hs
  have N2 := fun w => number_any s 3 5 (by omega) (by omega) (by omega) w hs
  obtain ⟨a1, a2⟩ := num_bd s 1 3 (by omega)
  obtain ⟨b1, b2⟩ := num_bd s 3 5 (by omega)
  by_cases h5 : s.size = 5
  · have e1 : numAB s 1 3 = numL (cut s.data.toList 1 3) := if_neg (by omega)
    have e2 : numAB s 3 5 = numL (cut s.data.toList 3 5) := if_neg (by omega)
    have hlen : s.data.toList.length = 5 := h5
    have HO : Hid (offP s.data.toList = if 0 ≤ numAB s 1 3 ∧ 0 ≤ numAB s 3 5 ∧ (s.data.toList.head? = some 43 ∨ s.data.toList.head? = some 45) then
      some (if s.data.toList.head? = some 45 then -60 * numAB s 1 3 - numAB s 3 5 else 60 * numAB s 1 3 + numAB s 3 5) else none) := Lib.hid (by
        rw [e1, e2]; unfold offP
        by_cases h : 0 ≤ numL (cut s.data.toList 1 3) ∧ 0 ≤ numL (cut s.data.toList 3 5) ∧ (s.data.toList.head? = some 43 ∨ s.data.toList.head? = some 45)
        · rw [if_pos h, if_pos ⟨hlen, h⟩]
        · rw [if_neg h, if_neg fun h' => h h'.2])
    clear e1 e2 hlen
    generalize numAB s 1 3 = x at *
    generalize numAB s 3 5 = y at *
    have N1 := Lib.hid N1
    have N2 := Lib.hid N2
    go_enter Tryd.func51, Tryd.ntmps51
    go_wp2_with fail
    refine (N1.out _).mono ?_
    rintro e w1 ⟨rfl, h1⟩
    have H1 := Lib.hid h1
    clear h1
    go_wp2_with fail
    refine (N2.out _).mono ?_
    rintro e w2 ⟨rfl, h2⟩
    have H2 := Lib.hid (H1.out.trans (h2.mono H1.out.size))
    clear h2 H1 N1 N2
    by_cases hx : x < 0
    · have hx' : decide (x < 0) = true := by simpa using hx
      have HE : Hid (offP s.data.toList = none) := Lib.hid (by rw [HO.out, if_neg fun h => by omega])
      clear hx HO
      go_wp2_with fail
      go_ret2
      exact ⟨ret_ofsV (by rw [HE.out]; rfl) (by rw [HE.out]; rfl), H2.out⟩
    by_cases hy : y < 0
    · have hx' : decide (x < 0) = false := by simpa using hx
      have hy' : decide (y < 0) = true := by simpa using hy
      have HE : Hid (offP s.data.toList = none) := Lib.hid (by rw [HO.out, if_neg fun h => by omega])
      clear hx hy HO
      go_wp2_with fail
      go_ret2
      exact ⟨ret_ofsV (by rw [HE.out]; rfl) (by rw [HE.out]; rfl), H2.out⟩
    have hx' : decide (x < 0) = false := by simpa using hx
    have hy' : decide (y < 0) = false := by simpa using hy
    have g0 : 0 < s.size := by omega
    have hh : s.data.toList.head? = some s[0] := by
      have := drop_at s 0 g0
      rw [List.drop_zero] at this
      rw [this]; rfl
    have HP : Hid (0 ≤ x ∧ 0 ≤ y) := Lib.hid (by omega)
    by_cases c1 : s[0] = 45
    · have HE : Hid (offP s.data.toList = some (-60 * x - y)) := Lib.hid (by
        rw [HO.out, hh, c1, if_pos ⟨HP.out.1, HP.out.2, Or.inr rfl⟩, if_pos rfl])
      have q1 : ((s[0].toNat : Int) != 43) = true := by rw [c1]; decide
      have q2 : ((s[0].toNat : Int) != 45) = false := by rw [c1]; decide
      have q3 : ((s[0].toNat : Int) == 45) = true := by rw [c1]; decide
      clear hh c1 HO
      go_wp2_with fail
      go_ret2
      exact ⟨ret_ofsV (by rw [HE.out]; rfl) (by rw [HE.out]; rfl), H2.out⟩
    by_cases c2 : s[0] = 43
    · have HE : Hid (offP s.data.toList = some (60 * x + y)) := Lib.hid (by
        rw [HO.out, hh, c2, if_pos ⟨HP.out.1, HP.out.2, Or.inl rfl⟩, if_neg (by decide)])
      have q1 : ((s[0].toNat : Int) != 43) = false := by rw [c2]; decide
      have q2 : ((s[0].toNat : Int) != 45) = true := by rw [c2]; decide
      have q3 : ((s[0].toNat : Int) == 45) = false := by rw [c2]; decide
      clear hh c1 c2 HO
      go_wp2_with fail
      go_ret2
      exact ⟨ret_ofsV (by rw [HE.out]; rfl) (by rw [HE.out]; rfl), H2.out⟩
    have HE : Hid (offP s.data.toList = none) := Lib.hid (by
      rw [HO.out, hh, if_neg]
      rintro ⟨_, _, h | h⟩
      · exact c2 (Option.some.inj h)
      · exact c1 (Option.some.inj h))
    have q1 : ((s[0].toNat : Int) != 43) = true := by
      rw [bne_iff_ne]; intro h; apply c2; apply UInt8.toNat_inj.1; show s[0].toNat = 43; omega
    have q2 : ((s[0].toNat : Int) != 45) = true := by
      rw [bne_iff_ne]; intro h; apply c1; apply UInt8.toNat_inj.1; show s[0].toNat = 45; omega
    clear hh c1 c2 HO
    go_wp2_with fail
    go_ret2
    exact ⟨ret_ofsV (by rw [HE.out]; rfl) (by rw [HE.out]; rfl), H2.out⟩
  · have HO : Hid (offP s.data.toList = none) := Lib.hid (by unfold offP; rw [if_neg fun h => h5 h.1])
    generalize numAB s 1 3 = x at *
    generalize numAB s 3 5 = y at *
    have h5' : ((s.size : Int) != 5) = true := by simp; omega
    have N1 := Lib.hid N1
    have N2 := Lib.hid N2
    clear h5
    go_enter Tryd.func51, Tryd.ntmps51
    go_wp2_with fail
    refine (N1.out _).mono ?_
    rintro e w1 ⟨rfl, h1⟩
    have H1 := Lib.hid h1
    clear h1
    go_wp2_with fail
    refine (N2.out _).mono ?_
    rintro e w2 ⟨rfl, h2⟩
    have H2 := Lib.hid h2
    clear h2
    go_wp2_with fail
    go_ret2
    exact ⟨ret_ofsV (by rw [HO.out]; rfl) (by rw [HO.out]; rfl), H1.out.trans (H2.out.mono H1.out.size)⟩
/-- what a date is read as -/
def whnV (o : Option Int) (v : Value) : Prop := ∃ a : Int, v = .tuple #[.int .i64 a, .bool o.isSome] ∧ ∀ t, o = some t → a = t
theorem dayN_bd (y m d : Int) : 0 ≤ dayN y m d ∧ dayN y m d ≤ 40000 := by
  unfold dayN
  cases h : okDate y m d with
  | false => simp
  | true =>
    obtain ⟨a1, a2, a3, a4, a5, a6⟩ := Cal.okDate_of h
    have b1 := dby_bd y a1 (by omega)
    have b2 := dbm_bd y m a3 (by omega)
    have b3 := ml_bd y m
    simp only [cond_true]
    omega
set_option maxRecDepth 100000 in
set_option maxHeartbeats 1000000 in
theorem when_any (s : ByteArray) (w : World) (hs : s.size ≤ 1000000) (hT : Tbs w) :
    Calls Tryd.prog 52 #[.string s] w fun e w' => ∃ v, e = .returned v ∧ whnV (whenC s.data.toList) v ∧ Below w.heap.size w w' := by
  by_cases h16 : s.size = 16
  · have hlen : s.data.toList.length = 16 := h16
    have e0 : ∀ a b, b ≤ 16 → numAB s a b = numL (cut s.data.toList a b) := fun a b h => if_neg (by omega)
    have N1 := Lib.hid (fun w => number_any s 0 4 (by omega) (by omega) (by omega) w hs)
    have N2 := Lib.hid (fun w => number_any s 5 7 (by omega) (by omega) (by omega) w hs)
    have N3 := Lib.hid (fun w => number_any s 8 10 (by omega) (by omega) (by omega) w hs)
    have N4 := Lib.hid (fun w => number_any s 11 13 (by omega) (by omega) (by omega) w hs)
    have N5 := Lib.hid (fun w => number_any s 14 16 (by omega) (by omega) (by omega) w hs)
    obtain ⟨h0, h1⟩ := num_bd s 11 13 (by omega)
    obtain ⟨m0, m1⟩ := num_bd s 14 16 (by omega)
    have HO : Hid (whenC s.data.toList = if dayE (numAB s 0 4) (numAB s 5 7) (numAB s 8 10) = 0 ∧ 0 ≤ numAB s 11 13 ∧ 0 ≤ numAB s 14 16 then
      some (1440 * dayN (numAB s 0 4) (numAB s 5 7) (numAB s 8 10) + 60 * numAB s 11 13 + numAB s 14 16) else none) := Lib.hid (by
        rw [e0 _ _ (by omega), e0 _ _ (by omega), e0 _ _ (by omega), e0 _ _ (by omega), e0 _ _ (by omega)]; unfold whenC
        by_cases h : dayE (numL (cut s.data.toList 0 4)) (numL (cut s.data.toList 5 7)) (numL (cut s.data.toList 8 10)) = 0 ∧ 0 ≤ numL (cut s.data.toList 11 13) ∧ 0 ≤ numL (cut s.data.toList 14 16)
        · rw [if_pos h, if_pos ⟨hlen, h⟩]; rfl
        · rw [if_neg h, if_neg fun h' => h h'.2])
    clear e0 hlen
    generalize numAB s 0 4 = yy at *
    generalize numAB s 5 7 = mm at *
    generalize numAB s 8 10 = dd at *
    generalize numAB s 11 13 = hh at *
    generalize numAB s 14 16 = mi at *
    obtain ⟨q0, q1⟩ := dayN_bd yy mm dd
    have D := Lib.hid (fun w (hT : Tbs w) => Cal.day_any yy mm dd w hT.lens)
    generalize dayN yy mm dd = dn at *
    generalize dayE yy mm dd = de at *
    have HT := Lib.hid hT
    clear hT
    go_enter Tryd.func52, Tryd.ntmps52
    go_wp2_with fail
    refine (N1.out _).mono ?_
    rintro e w1 ⟨rfl, g⟩
    have H := Lib.hid g
    clear g N1
    go_wp2_with fail
    refine (N2.out _).mono ?_
    rintro e w2 ⟨rfl, g⟩
    replace H := Lib.hid (H.out.trans (g.mono H.out.size))
    clear g N2
    go_wp2_with fail
    refine (N3.out _).mono ?_
    rintro e w3 ⟨rfl, g⟩
    replace H := Lib.hid (H.out.trans (g.mono H.out.size))
    clear g N3
    go_wp2_with fail
    refine (D.out _ (HT.out.below H.out)).mono ?_
    rintro e w4 ⟨rfl, rfl⟩
    go_wp2_with fail
    refine (N4.out _).mono ?_
    rintro e w5 ⟨rfl, g⟩
    replace H := Lib.hid (H.out.trans (g.mono H.out.size))
    clear g N4
    go_wp2_with fail
    refine (N5.out _).mono ?_
    rintro e w6 ⟨rfl, g⟩
    replace H := Lib.hid (H.out.trans (g.mono H.out.size))
    clear g N5 D HT
    cases b1 : (de == 0)
    all_goals cases b2 : decide (0 ≤ hh)
    all_goals cases b3 : decide (0 ≤ mi)
    case true.true.true =>
      have HE : Hid (whenC s.data.toList = some (1440 * dn + 60 * hh + mi)) := Lib.hid (by
        rw [HO.out, if_pos ⟨by simpa using b1, by simpa using b2, by simpa using b3⟩])
      clear HO
      go_wp2_with fail
      go_ret2
      exact ⟨_, rfl, ⟨_, by rw [HE.out]; rfl, fun t h => by rw [HE.out] at h; cases h; rfl⟩, H.out⟩
    all_goals
      have HE : Hid (whenC s.data.toList = none) := Lib.hid (by
        rw [HO.out, if_neg]
        rintro ⟨i1, i2, i3⟩
        simp [i1, i2, i3] at b1 b2 b3
        try omega)
      clear HO
      go_wp2_with fail
      go_ret2
      exact ⟨_, rfl, ⟨_, by rw [HE.out]; rfl, fun t h => by rw [HE.out] at h; cases h⟩, H.out⟩
  · have HO : Hid (whenC s.data.toList = none) := Lib.hid (by unfold whenC; rw [if_neg fun h => h16 h.1])
    have h5' : ((s.size : Int) != 16) = true := by simp; omega
    clear h16
    go_enter Tryd.func52, Tryd.ntmps52
    go_wp2_with fail
    go_ret2
    exact ⟨_, rfl, ⟨0, by rw [HO.out]; rfl, fun t h => by rw [HO.out] at h; cases h⟩, Below.refl _ _⟩
end Go.Proofs.YtllcoocllkaanaaDoor
