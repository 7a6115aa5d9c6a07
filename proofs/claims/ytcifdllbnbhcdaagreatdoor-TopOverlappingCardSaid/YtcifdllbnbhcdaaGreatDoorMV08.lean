/- Texts V63, V65, V66, joined: walks and laws. -/
import Derived.Test.YtcifdllbnbhcdaaGreatDoorMV05
import Derived.Test.YtcifdllbnbhcdaaGreatDoorMV06
import Derived.Test.YtcifdllbnbhcdaaGreatDoorMV07
set_option linter.unusedSimpArgs false
set_option linter.unusedVariables false
namespace Go.Proofs.YtcifdllbnbhcdaaGreatDoor
open Go.RowKit Go.Sort
theorem msk_sok {m : Int} {xs : List Ses} (h : SOk xs) : SOk (mskS m xs) := by
  intro s hs
  obtain ⟨h1, _⟩ := List.mem_filter.1 hs
  obtain ⟨t, ht, rfl⟩ := List.mem_map.1 h1
  exact h t ht
set_option maxRecDepth 100000 in
set_option maxHeartbeats 8000000 in
theorem splice_any (a : Option Addr) (n c : Nat) (xs : List Ses) (b : Option Addr) (n' c' : Nat) (ys : List Ses) (m k : Int) (w : World) (hx : SAt w a n xs) (hs : SOk xs) (hy : SAt w b n' ys) (hs' : SOk ys) (hk : -9223372036854775808 ≤ k ∧ k ≤ 9223372036854775807) (hT : Tz w) (hc : n ≤ c) (hc' : n' ≤ c') :
    Calls Tryz.prog 277 #[.slice a n c, .slice b n' c', .int .i64 m, .int .i64 k] w (ResS (spcS m k xs ys) w) := by
  obtain ⟨hk1, hk2⟩ := hk
  have HX := Lib.hid hx
  have HY := Lib.hid hy
  have HS := Lib.hid hs
  have HS' := Lib.hid hs'
  have HT := Lib.hid hT
  have V1 := Lib.hid (fun W (h : Below w.heap.size w W) => valid_any a n c xs m W (hx.below h) hs (hT.below h) hc)
  have V2 := Lib.hid (fun W (h : Below w.heap.size w W) => valid_any b n' c' ys m W (hy.below h) hs' (hT.below h) hc')
  have HV : Hid (spcS m k xs ys = if vldS xs m ≠ 0 then (vldS xs m, []) else if vldS ys m ≠ 0 then (vldS ys m, []) else if k < 1 ∨ m + 1 < k then (3, []) else nrmS m (mskS (firstW k) xs ++ mskS (-(firstW k) - 1) ys)) := Lib.hid rfl
  have P1 := Lib.hid (fun h => vld_parts (xs := xs) (n := m) h)
  have P2 := Lib.hid (fun h => vld_parts (xs := ys) (n := m) h)
  have hlx := hx.1
  have hly := hy.1
  clear hx hy hs hs' hT
  generalize vldS xs m = e1 at *
  generalize vldS ys m = e2 at *
  go_enter Tryz.func277, Tryz.ntmps277
  go_wp2_with fail
  refine (V1.out _ (Below.refl _ _)).mono ?_
  rintro en w1 ⟨rfl, hb1⟩
  have HB1 := Lib.hid hb1
  clear hb1
  by_cases hz : e1 = 0
  rotate_left
  · have HF : Hid (spcS m k xs ys = (e1, [])) := Lib.hid (by rw [HV.out, if_pos hz])
    have hd : (e1 != 0) = true := by simpa using hz
    clear hz
    go_wp2_with fail
    go_ret2
    exact ResS.err HF.out HB1.out
  have p1 := P1.out hz
  have hd : (e1 != 0) = false := by simpa using hz
  have HZ := Lib.hid hz
  clear hz
  go_wp2_with fail
  refine (V2.out _ HB1.out).mono ?_
  rintro en w2 ⟨rfl, hb2⟩
  have HB2 := Lib.hid (below3 HB1.out hb2)
  clear hb2
  by_cases hz : e2 = 0
  rotate_left
  · have HF : Hid (spcS m k xs ys = (e2, [])) := Lib.hid (by rw [HV.out, if_neg (by simpa using HZ.out), if_pos hz])
    have hd : (e2 != 0) = true := by simpa using hz
    clear hz
    go_wp2_with fail
    go_ret2
    exact ResS.err HF.out HB2.out
  have p2 := P2.out hz
  have hd : (e2 != 0) = false := by simpa using hz
  have HZ2 := Lib.hid hz
  clear hz
  obtain ⟨⟨m1, m2⟩, l1, _⟩ := p1
  obtain ⟨_, l2, _⟩ := p2
  by_cases hkk : k < 1 ∨ m + 1 < k
  · have HF : Hid (spcS m k xs ys = (3, [])) := Lib.hid (by rw [HV.out, if_neg (by simpa using HZ.out), if_neg (by simpa using HZ2.out), if_pos hkk])
    rcases (show k < 1 ∨ (1 ≤ k ∧ m + 1 < k) by omega) with h | ⟨h, h'⟩
    all_goals
      clear hkk
      go_wp2_with fail
      go_ret2
      exact ResS.err HF.out HB2.out
  have HF : Hid (spcS m k xs ys = nrmS m (mskS (firstW k) xs ++ mskS (-(firstW k) - 1) ys)) := Lib.hid (by rw [HV.out, if_neg (by simpa using HZ.out), if_neg (by simpa using HZ2.out), if_neg hkk])
  have h1 : 1 ≤ k := by omega
  have h2 : k ≤ m + 1 := by omega
  have h3 : k ≤ 21 := by omega
  clear hkk
  go_upto_region 9 with fail
  go_cut [12] (fun s12 wx => s12 = .int .i64 (firstW k) ∧ w2 = wx)
  case first =>
    clear HF HV
    rcases n21 h1 h3 with rfl | rfl | rfl | rfl | rfl | rfl | rfl | rfl | rfl | rfl | rfl | rfl | rfl | rfl | rfl | rfl | rfl | rfl | rfl | rfl | rfl
    all_goals
      go_wp2_with fail
      go_meet
      exact ⟨rfl, rfl⟩
  case rest =>
    obtain ⟨rfl, hwc⟩ := hcut
    subst hwc
    generalize firstW k = F at *
    generalize hM : -F - 1 = F2 at *
    have HM2 := Lib.hid hM
    clear hM HV HZ HZ2 P1 P2 V1 V2
    go_wp2_with fail
    go_loopw [13, 44] (fun v i wr => ∃ j : Nat, j ≤ n ∧ i = .int .i64 j ∧ Hid (SRow wr w.heap.size v (mskS F (xs.take j))) ∧ Hid (Below w.heap.size w wr)) (fun _ i _ => n - (intOf i).toNat)
    case atStart => exact ⟨0, by omega, rfl, Lib.hid (by simp [mskS]; exact World.ownsRow_nil _ _ _ _), HB2⟩
    case round =>
      clear HB2
      obtain ⟨j, hj, rfl, HR, HB⟩ := hrel
      by_cases hlt : j < n
      · obtain ⟨b1, o1, s1, rfl, g1, z1, x0, x1, x2, x3, x4, x5⟩ := SAt.cells (HX.out.below HB.out) hlt
        have HG := Lib.hid g1
        have hfl := mskS_len F (xs.take j)
        rw [List.length_take] at hfl
        have q1 : (j : Int) < n := by omega
        have q2 : (0 : Int) ≤ j := by omega
        clear g1
        have HB1 := Lib.hid (BX.mk0 (vs := sesA s1) (T := 43) wr)
        go_upto_region 14 with fail
        change Hid (BX wr (wr.alloc (.cells #[.string (arr s1.1), .int .i64 s1.2.1, .int .i64 s1.2.2.1, .int .i64 s1.2.2.2.1, .int .i64 s1.2.2.2.2.1, .string (arr s1.2.2.2.2.2)] 43)) wr.heap.size _ _) at HB1
        generalize wr.alloc (.cells #[.string (arr s1.1), .int .i64 s1.2.1, .int .i64 s1.2.2.1, .int .i64 s1.2.2.2.1, .int .i64 s1.2.2.2.2.1, .string (arr s1.2.2.2.2.2)] 43) = wb at *
        obtain ⟨S, hS⟩ : ∃ S, S = wr.heap.size := ⟨_, rfl⟩
        rw [← hS] at HB1 ⊢
        clear hS x0 x1 x2 x3 x4 x5
        obtain ⟨x0, x1, x2, x3, x4, x5⟩ := HB1.out.six
        have f1 := HB1.out.fz 1
        have HB2 : Hid (BX wr (wb.setCell ⟨S, 1, none⟩ (.int .i64 (bits .and .i64 s1.2.1 F))) S (sesA (inW F s1)) 43) := Lib.hid (by exact HB1.out.set 1 _)
        go_upto_region 15 with fail
        generalize wb.setCell ⟨S, 1, none⟩ (.int .i64 (bits .and .i64 s1.2.1 F)) = w2 at *
        have HR := Lib.hid (HR.out.below HB2.out.bl)
        have HB := Lib.hid (below3 HB.out HB2.out.bl)
        have hbs := HB.out.size
        clear x0 x1 x2 x3 x4 x5 f1 HB1
        obtain ⟨x0, x1, x2, x3, x4, x5⟩ := HB2.out.six
        by_cases he : (bits .and .i64 s1.2.1 F != 0) = true
        · have HT := Lib.hid (mskS_hit HG.out he)
          have he' : ((inW F s1).2.1 != 0) = true := he
          clear he
          generalize inW F s1 = u1 at *
          generalize mskS F (xs.take j) = L at *
          go_wp2_with (at_builtin; refine wpList_app elemSes encSes rfl _ _ rfl w.heap.size _ L rfl (HR.out.below ((Below.refl _ _).alloc (Nat.le_refl _) _)) _ _ _ [u1] rfl (KAt.one w2 u1 _) (by simp <;> omega) (by simp; omega) ?_)
          intro v6 w6 hr6 hb6 hg6 ho6
          have HRF : Hid (SRow w6 w.heap.size v6 (mskS F (xs.take (j + 1)))) := Lib.hid (by rw [HT.out]; exact hr6)
          have HBF := Lib.hid ((HB.out.alloc hbs _).trans hb6)
          clear hr6 hb6 hg6 ho6
          go_wp2_with fail
          go_roundw
          case rel => exact ⟨j + 1, by omega, by go_num, HRF, HBF⟩
          case measure => simp [intOf]; omega
        · have he2 : (bits .and .i64 s1.2.1 F != 0) = false := by simpa using he
          have HT := Lib.hid (mskS_miss HG.out he2)
          have he' : ((inW F s1).2.1 != 0) = false := he2
          have HRF : Hid (SRow w2 w.heap.size _ (mskS F (xs.take (j + 1)))) := Lib.hid (by rw [HT.out]; exact HR.out)
          clear he he2
          go_wp2_with fail
          go_roundw
          case rel => exact ⟨j + 1, by omega, by go_num, HRF, HB⟩
          case measure => simp [intOf]; omega
      · obtain rfl : n = j := by omega
        have HRX : Hid (SRow wr w.heap.size _ (mskS F xs)) := Lib.hid (by have := HR.out; rw [List.take_of_length_le (by omega)] at this; exact this)
        have ml := mskS_len F xs
        have O1 := Lib.hid (msk_sok (m := F) HS.out)
        clear HR
        generalize mskS F xs = X1 at *
        obtain ⟨wo, rfl⟩ : ∃ wo : World, wo = wr := ⟨_, rfl⟩
        go_wp2_with fail
        go_loopw [13, 66] (fun v i wr => ∃ j : Nat, j ≤ n' ∧ i = .int .i64 j ∧ Hid (SRow wr w.heap.size v (X1 ++ mskS F2 (ys.take j))) ∧ Hid (Below w.heap.size w wr)) (fun _ i _ => n' - (intOf i).toNat)
        case atStart => exact ⟨0, by omega, rfl, Lib.hid (by have := HRX.out; simpa [mskS] using this), HB⟩
        case round =>
          clear HB HRX
          obtain ⟨j, hj, rfl, HR, HB⟩ := hrel
          by_cases hlt : j < n'
          · obtain ⟨b1, o1, s1, rfl, g1, z1, x0, x1, x2, x3, x4, x5⟩ := SAt.cells (HY.out.below HB.out) hlt
            have HG := Lib.hid g1
            have hfl := mskS_len F2 (ys.take j)
            rw [List.length_take] at hfl
            have q1 : (j : Int) < n' := by omega
            have q2 : (0 : Int) ≤ j := by omega
            clear g1
            have HB1 := Lib.hid (BX.mk0 (vs := sesA s1) (T := 43) wr)
            go_upto_region 21 with fail
            change Hid (BX wr (wr.alloc (.cells #[.string (arr s1.1), .int .i64 s1.2.1, .int .i64 s1.2.2.1, .int .i64 s1.2.2.2.1, .int .i64 s1.2.2.2.2.1, .string (arr s1.2.2.2.2.2)] 43)) wr.heap.size _ _) at HB1
            generalize wr.alloc (.cells #[.string (arr s1.1), .int .i64 s1.2.1, .int .i64 s1.2.2.1, .int .i64 s1.2.2.2.1, .int .i64 s1.2.2.2.2.1, .string (arr s1.2.2.2.2.2)] 43) = wb at *
            obtain ⟨S, hS⟩ : ∃ S, S = wr.heap.size := ⟨_, rfl⟩
            rw [← hS] at HB1 ⊢
            clear hS x0 x1 x2 x3 x4 x5
            obtain ⟨x0, x1, x2, x3, x4, x5⟩ := HB1.out.six
            have f1 := HB1.out.fz 1
            have HB2 : Hid (BX wr (wb.setCell ⟨S, 1, none⟩ (.int .i64 (bits .andNot .i64 s1.2.1 F))) S (sesA (inW F2 s1)) 43) := Lib.hid (by rw [andNot_compl, HM2.out]; exact HB1.out.set 1 _)
            go_upto_region 22 with fail
            generalize wb.setCell ⟨S, 1, none⟩ (.int .i64 (bits .andNot .i64 s1.2.1 F)) = w2 at *
            have HR := Lib.hid (HR.out.below HB2.out.bl)
            have HB := Lib.hid (below3 HB.out HB2.out.bl)
            have hbs := HB.out.size
            clear x0 x1 x2 x3 x4 x5 f1 HB1
            obtain ⟨x0, x1, x2, x3, x4, x5⟩ := HB2.out.six
            by_cases he : (bits .and .i64 s1.2.1 F2 != 0) = true
            · have HT := Lib.hid (mskS_hit HG.out he)
              have he' : ((inW F2 s1).2.1 != 0) = true := he
              clear he
              generalize inW F2 s1 = u1 at *
              generalize mskS F2 (ys.take j) = L at *
              go_wp2_with (at_builtin; refine wpList_app elemSes encSes rfl _ _ rfl w.heap.size _ (X1 ++ L) rfl (HR.out.below ((Below.refl _ _).alloc (Nat.le_refl _) _)) _ _ _ [u1] rfl (KAt.one w2 u1 _) (by simp <;> omega) (by simp; omega) ?_)
              intro v6 w6 hr6 hb6 hg6 ho6
              have HRF : Hid (SRow w6 w.heap.size v6 (X1 ++ mskS F2 (ys.take (j + 1)))) := Lib.hid (by rw [HT.out]; first | exact hr6 | (rw [← List.append_assoc]; exact hr6))
              have HBF := Lib.hid ((HB.out.alloc hbs _).trans hb6)
              clear hr6 hb6 hg6 ho6
              go_wp2_with fail
              go_roundw
              case rel => exact ⟨j + 1, by omega, by go_num, HRF, HBF⟩
              case measure => simp [intOf]; omega
            · have he2 : (bits .and .i64 s1.2.1 F2 != 0) = false := by simpa using he
              have HT := Lib.hid (mskS_miss HG.out he2)
              have he' : ((inW F2 s1).2.1 != 0) = false := he2
              have HRF : Hid (SRow w2 w.heap.size _ (X1 ++ mskS F2 (ys.take (j + 1)))) := Lib.hid (by rw [HT.out]; exact HR.out)
              clear he he2
              go_wp2_with fail
              go_roundw
              case rel => exact ⟨j + 1, by omega, by go_num, HRF, HB⟩
              case measure => simp [intOf]; omega
          · obtain rfl : n' = j := by omega
            have HRY : Hid (SRow wr w.heap.size _ (X1 ++ mskS F2 ys)) := Lib.hid (by have := HR.out; rw [List.take_of_length_le (by omega)] at this; exact this)
            have ml2 := mskS_len F2 ys
            have O2 := Lib.hid (msk_sok (m := F2) HS'.out)
            have HO : Hid (SOk (X1 ++ mskS F2 ys)) := Lib.hid (fun s hs => (List.mem_append.1 hs).elim (O1.out s) (O2.out s))
            have hxl : (X1 ++ mskS F2 ys).length ≤ 1000000 := by rw [List.length_append]; omega
            clear HR ml ml2
            generalize X1 ++ mskS F2 ys = X at *
            obtain ⟨ax, cx, rfl, hcx, hsx⟩ := HRY.out.sat
            have NN := Lib.hid (normal_any ax X.length cx X m wr hsx HO.out (HT.out.below HB.out) hxl)
            rw [← HF.out] at NN
            clear hsx
            go_wp2_with fail
            refine NN.out.mono ?_
            rintro en w6 ⟨v6, rfl, hr6, hb6⟩
            have HRF := Lib.hid (row_base hr6 HB.out.size)
            have HBF := Lib.hid (below3 HB.out hb6)
            clear hr6 hb6 NN
            generalize spcS m k xs ys = r at *
            obtain ⟨r1, r2⟩ := r
            go_wp2_with fail
            go_ret2
            exact ResS.mk rfl HRF.out HBF.out
end Go.Proofs.YtcifdllbnbhcdaaGreatDoor
namespace Go.Proofs.YtcifdllbnbhcdaaGreatDoor
open Go.RowKit
theorem KAt.news {α : Type} {f : α → List Value} {k : Nat} (hk : ∀ x, (f x).length = k) (w : World) (xs : List α) (T : TypeId) (hl : xs.length ≤ 9223372036854775807) : KAt f k (w.alloc (.cells (xs.flatMap f).toArray T)) (some ⟨w.heap.size, 0, none⟩) xs.length xs := by
  refine ⟨rfl, hl, Or.inr ⟨_, 0, rfl, fun j x hx o v hv => ?_⟩⟩
  have ho : o < k := by rw [← hk x]; exact (List.getElem?_eq_some_iff.1 hv).1
  have p := flat_at f k hk xs j o x hx ho
  rw [hv] at p
  have := new1 w (xs.flatMap f) T _ _ p
  rw [Go.WideShapes.add_plain] at this
  simpa using this
set_option maxRecDepth 100000 in
set_option maxHeartbeats 4000000 in
theorem diff_any (a : Option Addr) (n c : Nat) (xs : List Ses) (b : Option Addr) (n' c' : Nat) (ys : List Ses) (m : Int) (w : World) (hx : SAt w a n xs) (hs : SOk xs) (hy : SAt w b n' ys) (hs' : SOk ys) (hT : Tz w) (hc : n ≤ c) (hc' : n' ≤ c') :
    Calls Tryz.prog 278 #[.slice a n c, .slice b n' c', .int .i64 m] w (ResH (difS m xs ys) w) := by
  have HX := Lib.hid hx
  have HY := Lib.hid hy
  have V1 := Lib.hid (fun W (h : Below w.heap.size w W) => valid_any a n c xs m W (hx.below h) hs (hT.below h) hc)
  have V2 := Lib.hid (fun W (h : Below w.heap.size w W) => valid_any b n' c' ys m W (hy.below h) hs' (hT.below h) hc')
  have HV : Hid (difS m xs ys = if vldS xs m ≠ 0 then (vldS xs m, []) else if vldS ys m ≠ 0 then (vldS ys m, []) else (0, (clsL (clsS xs ++ clsS ys)).flatMap (difK xs ys))) := Lib.hid rfl
  have P1 := Lib.hid (fun h => vld_parts (xs := xs) (n := m) h)
  have P2 := Lib.hid (fun h => vld_parts (xs := ys) (n := m) h)
  have hlx := hx.1
  have hly := hy.1
  clear hx hy hs hs' hT
  generalize vldS xs m = e1 at *
  generalize vldS ys m = e2 at *
  go_enter Tryz.func278, Tryz.ntmps278
  go_wp2_with fail
  refine (V1.out _ (Below.refl _ _)).mono ?_
  rintro en w1 ⟨rfl, hb1⟩
  have HB1 := Lib.hid hb1
  clear hb1
  by_cases hz : e1 = 0
  rotate_left
  · have HF : Hid (difS m xs ys = (e1, [])) := Lib.hid (by rw [HV.out, if_pos hz])
    have hd : (e1 != 0) = true := by simpa using hz
    clear hz
    go_wp2_with fail
    go_ret2
    exact ResH.err HF.out HB1.out
  have p1 := P1.out hz
  have hd : (e1 != 0) = false := by simpa using hz
  have HZ := Lib.hid hz
  clear hz
  go_wp2_with fail
  refine (V2.out _ HB1.out).mono ?_
  rintro en w2 ⟨rfl, hb2⟩
  have HB2 := Lib.hid (below3 HB1.out hb2)
  clear hb2
  by_cases hz : e2 = 0
  rotate_left
  · have HF : Hid (difS m xs ys = (e2, [])) := Lib.hid (by rw [HV.out, if_neg (by simpa using HZ.out), if_pos hz])
    have hd : (e2 != 0) = true := by simpa using hz
    clear hz
    go_wp2_with fail
    go_ret2
    exact ResH.err HF.out HB2.out
  have p2 := P2.out hz
  have hd : (e2 != 0) = false := by simpa using hz
  have HF : Hid (difS m xs ys = (0, (clsL (clsS xs ++ clsS ys)).flatMap (difK xs ys))) := Lib.hid (by rw [HV.out, if_neg (by simpa using HZ.out), if_neg (by simpa using hz)])
  clear hz HZ
  obtain ⟨_, l1, _⟩ := p1
  obtain ⟨_, l2, _⟩ := p2
  have HBL := Lib.hid (HB2.out.alloc HB2.out.size (.cells #[.slice a n c, .slice b n' c'] 66))
  have HLL : Hid (LLAt (w2.alloc (.cells #[.slice a n c, .slice b n' c'] 66)) (some ⟨w2.heap.size, 0, none⟩) 2 [xs, ys]) := Lib.hid ⟨[(a, n, c), (b, n', c')], KAt.news (f := slC) (k := 1) (fun _ => rfl) w2 [(a, n, c), (b, n', c')] _ (by simp), rfl, fun j x y h1 h2 => by
    match j with
    | 0 => simp at h1 h2; subst h1; subst h2; exact ⟨hc, HX.out.below HBL.out⟩
    | 1 => simp at h1 h2; subst h1; subst h2; exact ⟨hc', HY.out.below HBL.out⟩
    | j + 2 => simp at h1⟩
  have CL := Lib.hid (classes_any none 0 0 [] (some ⟨w2.heap.size, 0, none⟩) 2 2 [xs, ys] (w2.alloc (.cells #[.slice a n c, .slice b n' c'] 66)) (HAt.nil _) HLL.out (by omega) (by omega) (fun l hl => by
    simp at hl
    rcases hl with rfl | rfl <;> omega))
  rw [show clsL (clsC [] ++ [xs, ys].flatMap clsS) = clsL (clsS xs ++ clsS ys) by simp [clsC]] at CL
  have hcl := clsL_le (clsS xs ++ clsS ys)
  have hcl2 : (clsL (clsS xs ++ clsS ys)).length ≤ 200 := by
    rw [List.length_append] at hcl
    unfold clsS at hcl ⊢
    simp only [List.length_map] at hcl
    omega
  clear hcl
  go_wp2_with fail
  refine CL.out.mono ?_
  rintro en w3 ⟨v3, rfl, hr3, hb3⟩
  obtain ⟨a3, c3, rfl, hc3, hs3⟩ := KRow.at_ encStr hr3
  have HC3 := Lib.hid hs3
  have HB3 := Lib.hid (below3 HBL.out hb3)
  have HX3 := Lib.hid (HX.out.below HB3.out)
  have HY3 := Lib.hid (HY.out.below HB3.out)
  clear hr3 hb3 hs3 CL HLL HBL
  generalize clsL (clsS xs ++ clsS ys) = K at *
  generalize hp : K.length = p at *
  have HP := Lib.hid hp
  clear hp
  go_wp2_with fail
  go_loopw [10, 32] (fun v i wr => ∃ j : Nat, j ≤ p ∧ i = .int .i64 j ∧ Hid (HRow wr w3.heap.size v ((K.take j).flatMap (difK xs ys))) ∧ Hid (Below w3.heap.size w3 wr)) (fun _ i _ => p - (intOf i).toNat)
  case atStart => exact ⟨0, by omega, rfl, Lib.hid (HRow.nil _ _), Lib.hid (Below.refl _ _)⟩
  case round =>
    obtain ⟨j, hj, rfl, HR, HB⟩ := hrel
    by_cases hlt : j < p
    · obtain ⟨b1, o1, k1, rfl, g1, z1, x0⟩ := CAt.cells (HC3.out.below HB.out) hlt
      have HT := Lib.hid (flat_take (difK xs ys) g1)
      have hfl := flat_len_le (difK xs ys) (difK_le xs ys) (K.take j)
      rw [List.length_take] at hfl
      have q1 : (j : Int) < p := by omega
      have q2 : (0 : Int) ≤ (j : Int) := by omega
      have hbs := HB.out.size
      have xp0 := x0
      clear g1
      have OA := Lib.hid (fun W (h : Below wr.heap.size wr W) => of_any a n c xs k1 W (HX3.out.below (below3 HB.out h)) (by omega))
      have OB := Lib.hid (fun W (h : Below wr.heap.size wr W) => of_any b n' c' ys k1 W (HY3.out.below (below3 HB.out h)) (by omega))
      have hol1 := ofS_len xs k1
      have hol2 := ofS_len ys k1
      go_wp2_with fail
      refine (OA.out wr (Below.refl _ _)).mono ?_
      rintro en w9 ⟨v9, rfl, h9, hb9⟩
      have H9 := Lib.hid h9
      have HB9 := Lib.hid hb9
      clear h9 hb9
      go_wp2_with fail
      refine (OB.out w9 HB9.out).mono ?_
      rintro en wc ⟨v8, rfl, h8, hb8⟩
      have h1 := row_below H9.out hb8
      have h2 := row_base h8 HB9.out.size
      have hbz := below3 HB9.out hb8
      clear h8 hb8 H9 HB9
      obtain ⟨ax, cx, rfl, hcx, hsx⟩ := SRow.sat h1
      obtain ⟨ay, cy, rfl, hcy, hsy⟩ := SRow.sat h2
      have HR1 := Lib.hid h1
      have HR2 := Lib.hid h2
      have HO := Lib.hid (HR.out.below hbz)
      have HBz := Lib.hid (below3 HB.out hbz)
      have x0 := below_cell9 hbz xp0
      have SN := Lib.hid (equalq_any ax (ofS xs k1).length cx ay (ofS ys k1).length cy (ofS xs k1) (ofS ys k1) wc hsx hsy)
      have HDK := Lib.hid (difK_cases xs ys k1)
      have hz0 := hbz.size
      clear h1 h2 hbz hsx hsy OA OB xp0
      generalize ofS xs k1 = X1 at *
      generalize ofS ys k1 = Y1 at *
      generalize hL : (K.take j).flatMap (difK xs ys) = L at *
      clear hL
      go_wp2_with fail
      refine SN.out.mono ?_
      rintro en w5 ⟨rfl, hq5⟩
      have hb5 := drew_bel hq5
      have HR1 := Lib.hid (row_below HR1.out hb5)
      have HR2 := Lib.hid (row_below HR2.out hb5)
      have HO := Lib.hid (HO.out.below hb5)
      have HB5 := Lib.hid (below3 HBz.out hb5)
      have x0 := below_cell9 hb5 x0
      have hz5 := HB5.out.size
      have hz6 := hb5.size
      clear hb5 hq5 SN
      by_cases he : X1 = Y1
      · have hd : decide (X1 = Y1) = true := decide_eq_true he
        rw [hd]
        have HN : Hid ((K.take (j + 1)).flatMap (difK xs ys) = L) := Lib.hid (by
          rw [HT.out]
          rcases HDK.out with ⟨_, e⟩ | ⟨h, _⟩
          · rw [e, List.append_nil]
          · exact absurd he h)
        clear hd he
        go_wp2_with fail
        go_roundw
        case rel => exact ⟨j + 1, by omega, by go_num, by rw [HN.out]; exact HO, HB5⟩
        case measure => simp [intOf]; omega
      · have hd : decide (X1 = Y1) = false := decide_eq_false he
        rw [hd]
        have HN : Hid ((K.take (j + 1)).flatMap (difK xs ys) = L ++ [(k1, X1, Y1)]) := Lib.hid (by
          rw [HT.out]
          rcases HDK.out with ⟨h, _⟩ | ⟨_, e⟩
          · exact absurd h he
          · rw [e])
        clear hd he HDK
        obtain ⟨rs, hrow, hown⟩ := HO.out
        have HRW := Lib.hid hrow
        have HOW := Lib.hid hown
        have hrl : rs.length = L.length := hown.1
        clear hrow hown HO
        go_wp2_with (at_builtin; refine wpList_app elemChg encChg rfl _ _ rfl w3.heap.size _ rs rfl (row_below HRW.out ((Below.refl _ _).alloc (Nat.le_refl _) _)) _ _ _ [(k1, (ax, X1.length, cx), (ay, Y1.length, cy))] rfl (KAt.one w5 ((k1, (ax, X1.length, cx), (ay, Y1.length, cy)) : RChg) _) (by simp; omega) (by simp; omega) ?_)
        intro v6 w6 hr6 hb6 hg6 ho6
        have HA := Lib.hid (row_below HRW.out ((Below.refl w5.heap.size w5).alloc (Nat.le_refl _) (.cells (rchC (k1, (ax, X1.length, cx), (ay, Y1.length, cy))).toArray 161)))
        have HBA := Lib.hid ((Below.refl w5.heap.size w5).alloc (Nat.le_refl _) (.cells (rchC (k1, (ax, X1.length, cx), (ay, Y1.length, cy))).toArray 161))
        have HO6 := Lib.hid ((HOW.out.below HBA.out).kept HA.out hg6)
        have HX6 := Lib.hid (row_kept (row_below HR1.out HBA.out) HA.out (by decide) hg6)
        have HY6 := Lib.hid (row_kept (row_below HR2.out HBA.out) HA.out (by decide) hg6)
        have HRF : Hid (HRow w6 w3.heap.size v6 ((K.take (j + 1)).flatMap (difK xs ys))) := Lib.hid (by
          rw [HN.out]
          exact ⟨_, hr6, HO6.out.snoc ⟨rfl, row_base HX6.out hbs, row_base HY6.out hbs⟩⟩)
        have HBF := Lib.hid ((HB5.out.alloc hz5 (.cells (rchC (k1, (ax, X1.length, cx), (ay, Y1.length, cy))).toArray 161)).trans hb6)
        clear hr6 hb6 hg6 ho6
        go_wp2_with fail
        go_roundw
        case rel => exact ⟨j + 1, by omega, by go_num, HRF, HBF⟩
        case measure => simp [intOf]; omega
    · obtain rfl : j = p := by omega
      have HN : Hid (difS m xs ys = (0, (K.take j).flatMap (difK xs ys))) := Lib.hid (by rw [HF.out, List.take_of_length_le (by have := HP.out; omega)])
      have HRF := Lib.hid (HR.out.base HB3.out.size)
      have HBF := Lib.hid (below3 HB3.out HB.out)
      go_wp2_with fail
      go_ret2
      exact ResH.mk HN.out HRF.out HBF.out
end Go.Proofs.YtcifdllbnbhcdaaGreatDoor
namespace Go.Proofs.YtcifdllbnbhcdaaGreatDoor
open Go.RowKit
abbrev chgA (k : L8) (p q : Sl) : Array Value := #[.string (arr k), .slice p.1 p.2.1 p.2.2, .slice q.1 q.2.1 q.2.2]
theorem BX.chg {w0 w : World} {R : Nat} {T : TypeId} {k : L8} {p q : Sl} (h : BX w0 w R (chgA k p q) T) : (w.cell? ⟨R, 0, none⟩ = some (.string (arr k)) ∧ w.cell? ⟨R, 1, none⟩ = some (.slice p.1 p.2.1 p.2.2) ∧ w.cell? ⟨R, 2, none⟩ = some (.slice q.1 q.2.1 q.2.2)) ∧ w.frozen? ⟨R, 0, none⟩ = false ∧ w.frozen? ⟨R, 1, none⟩ = false ∧ w.frozen? ⟨R, 2, none⟩ = false :=
  ⟨⟨h.cell 0, h.cell 1, h.cell 2⟩, h.fz 0, h.fz 1, h.fz 2⟩
theorem find_drop {cs : List Chg} {k : L8} {j : Nat} {x : Chg} (h : cs[j]? = some x) : (cs.drop j).find? (fun x => decide (x.1 = k)) = if x.1 = k then some x else (cs.drop (j + 1)).find? (fun x => decide (x.1 = k)) := by
  obtain ⟨hj, rfl⟩ := List.getElem?_eq_some_iff.1 h
  rw [List.drop_eq_getElem_cons hj, List.find?_cons]
  by_cases hk : cs[j].1 = k <;> simp [hk]
def FndR (cs : List Chg) (k : L8) (w : World) (e : Ending) (w' : World) : Prop := ∃ (kx : L8) (p q : Sl) (ok : Bool), e = .returned (.tuple #[.agg (chgA kx p q), .bool ok]) ∧ Below w.heap.size w w' ∧
  ((ok = false ∧ cs.find? (fun x => decide (x.1 = k)) = none) ∨ (ok = true ∧ ∃ x, cs.find? (fun x => decide (x.1 = k)) = some x ∧ x ∈ cs ∧ SV w' p x.2.1 ∧ SV w' q x.2.2))
set_option maxRecDepth 100000 in
set_option maxHeartbeats 4000000 in
theorem find_any (a : Option Addr) (n c : Nat) (cs : List Chg) (k : L8) (w : World) (hx : HAt w a n cs) :
    Calls Tryz.prog 361 #[.slice a n c, .string (arr k)] w (FndR cs k w) := by
  have hlx := hx.len.1
  have n1 := hx.len.2
  have HX := Lib.hid hx
  clear hx
  have HR0 := Lib.hid (BX.mk0 (vs := chgA [] (none, 0, 0) (none, 0, 0)) (T := 161) w)
  go_enter Tryz.func361, Tryz.ntmps361
  go_upto_region 1 with fail
  change Hid (BX w (w.alloc (.cells #[.string ⟨#[]⟩, .slice none 0 0, .slice none 0 0] 161)) _ _ _) at HR0
  generalize w.alloc (.cells #[.string ⟨#[]⟩, .slice none 0 0, .slice none 0 0] 161) = wa at *
  obtain ⟨R, hR⟩ : ∃ R, R = w.heap.size := ⟨_, rfl⟩
  rw [← hR] at HR0 ⊢
  clear hR
  go_wp2_with fail
  go_loopw [10] (fun i wr => ∃ j : Nat, j ≤ n ∧ i = .int .i64 j ∧ Hid ((cs.drop j).find? (fun x => decide (x.1 = k)) = cs.find? (fun x => decide (x.1 = k))) ∧ Hid (BX w wr R (chgA [] (none, 0, 0) (none, 0, 0)) 161)) (fun i _ => n - (intOf i).toNat)
  case atStart => exact ⟨0, by omega, rfl, Lib.hid rfl, HR0⟩
  case round =>
    obtain ⟨j, hj, rfl, HF, HR⟩ := hrel
    by_cases hlt : j < n
    · obtain ⟨b1, o1, x, p, q, rfl, g1, z1, x0, x1, x2, sp, sq⟩ := HAt.cells HX.out hlt
      have x0 := below_cell9 HR.out.bl x0
      have x1 := below_cell9 HR.out.bl x1
      have x2 := below_cell9 HR.out.bl x2
      have HD := Lib.hid (find_drop (k := k) g1)
      have HM := Lib.hid (List.mem_of_getElem? g1)
      have SP := Lib.hid sp
      have SQ := Lib.hid sq
      have q1 : (j : Int) < n := by omega
      have q2 : (0 : Int) ≤ (j : Int) := by omega
      clear g1 sp sq
      have HB1 := Lib.hid (BX.mk0 (vs := chgA x.1 p q) (T := 161) wr)
      go_upto_region 4 with fail
      change Hid (BX wr (wr.alloc (.cells #[.string (arr x.1), .slice p.1 p.2.1 p.2.2, .slice q.1 q.2.1 q.2.2] 161)) _ _ _) at HB1
      generalize wr.alloc (.cells #[.string (arr x.1), .slice p.1 p.2.1 p.2.2, .slice q.1 q.2.1 q.2.2] 161) = wb at *
      obtain ⟨S, hS⟩ : ∃ S, S = wr.heap.size := ⟨_, rfl⟩
      rw [← hS] at HB1 ⊢
      clear hS x0 x1 x2
      obtain ⟨⟨x0, x1, x2⟩, _⟩ := HB1.out.chg
      have HR2 := Lib.hid (HR.out.next HB1.out.bl)
      by_cases he : x.1 = k
      · have HF2 : Hid (cs.find? (fun x => decide (x.1 = k)) = some x) := Lib.hid (by rw [← HF.out, HD.out, if_pos he])
        have p1 : ((arr x.1).toList == (arr k).toList) = true := by rw [he]; simp
        have p2 : (arr x.1).toList = (arr k).toList := by rw [he]
        have HR9 := Lib.hid (((HR2.out.set 0 (.string (arr x.1))).set 1 (.slice p.1 p.2.1 p.2.2)).set 2 (.slice q.1 q.2.1 q.2.2))
        obtain ⟨⟨rc0, rc1, rc2⟩, rf0, rf1, rf2⟩ := HR2.out.chg
        clear he
        go_wp2_with fail
        change Hid (BX w _ R (chgA x.1 p q) 161) at HR9
        generalize ((wb.setCell ⟨R, 0, none⟩ (.string (arr x.1))).setCell ⟨R, 1, none⟩ (.slice p.1 p.2.1 p.2.2)).setCell ⟨R, 2, none⟩ (.slice q.1 q.2.1 q.2.2) = W9 at *
        clear rc0 rc1 rc2 rf0 rf1 rf2
        obtain ⟨⟨rc0, rc1, rc2⟩, _⟩ := HR9.out.chg
        refine bodyPost_ret (v := .tuple #[.agg (chgA x.1 p q), .bool true]) (by simp [results, Tryz.results361, go_sem, rc0, rc1, rc2]) rfl ?_
        exact ⟨_, _, _, _, rfl, HR9.out.bl, Or.inr ⟨rfl, x, HF2.out, HM.out, SP.out.below HR9.out.bl, SQ.out.below HR9.out.bl⟩⟩
      · have HF2 : Hid ((cs.drop (j + 1)).find? (fun x => decide (x.1 = k)) = cs.find? (fun x => decide (x.1 = k))) := Lib.hid (by rw [← HF.out, HD.out, if_neg he])
        have p1 : ((arr x.1).toList == (arr k).toList) = false := by rw [arr_toList, arr_toList]; simpa using he
        have p2 : ¬ (arr x.1).toList = (arr k).toList := by rw [arr_toList, arr_toList]; exact he
        clear he
        go_wp2_with fail
        go_roundw
        case rel => exact ⟨j + 1, by omega, by go_num, HF2, HR2⟩
        case measure => simp [intOf]; omega
    · obtain rfl : n = j := by omega
      have HF2 : Hid (cs.find? (fun x => decide (x.1 = k)) = none) := Lib.hid (by rw [← HF.out, List.drop_eq_nil_of_le (by omega)]; rfl)
      have HR9 := Lib.hid (((HR.out.set 0 (.string ⟨#[]⟩)).set 1 (.slice none 0 0)).set 2 (.slice none 0 0))
      obtain ⟨⟨rc0, rc1, rc2⟩, rf0, rf1, rf2⟩ := HR.out.chg
      go_wp2_with fail
      change Hid (BX w _ R (chgA [] (none, 0, 0) (none, 0, 0)) 161) at HR9
      generalize ((wr.setCell ⟨R, 0, none⟩ (.string ⟨#[]⟩)).setCell ⟨R, 1, none⟩ (.slice none 0 0)).setCell ⟨R, 2, none⟩ (.slice none 0 0) = W9 at *
      clear rc0 rc1 rc2 rf0 rf1 rf2
      obtain ⟨⟨rc0, rc1, rc2⟩, _⟩ := HR9.out.chg
      refine bodyPost_ret (v := .tuple #[.agg (chgA [] (none, 0, 0) (none, 0, 0)), .bool false]) (by simp [results, Tryz.results361, go_sem, rc0, rc1, rc2]) rfl ?_
      exact ⟨_, _, _, _, rfl, HR9.out.bl, Or.inl ⟨rfl, HF2.out⟩⟩
end Go.Proofs.YtcifdllbnbhcdaaGreatDoor
