/- Records: the law RecordsPlaces. -/
import Derived.Test.YtpiejpodaljefaaDoorN6
import Derived.Test.YtpiejpodaljefaaDoorN9
import Derived.Deep.DeepCutAuto
namespace Go.Proofs.YtpiejpodaljefaaDoor
open Go.RowKit

theorem place_use {s : ByteArray} {q : UInt8} {l : Nat} {fs : List Fld} (h : PlaceOk s.data.toList q (l, fs)) :
    1 ≤ l ∧ l ≤ s.size + 1 ∧ begP s.data.toList (l - 1) ≤ s.size ∧ (∀ k (h : k < fs.length), 1 ≤ (fs[k]).2.1) ∧
    ∀ h : 0 < fs.length, (fs[0]).2.1 = 1 ∧ ((fs[0]).2.2 = true → ∃ h : begP s.data.toList (l - 1) < s.size, s[begP s.data.toList (l - 1)] = q) ∧
      ((fs[0]).2.2 = false → begP s.data.toList (l - 1) + (fs[0]).1.length ≤ s.size ∧ s.extract (begP s.data.toList (l - 1)) (begP s.data.toList (l - 1) + (fs[0]).1.length) = arr (fs[0]).1) := by
  obtain ⟨u, r, f, gs, ht, hu, h1, h2, hfs, hf, hg, hat⟩ := h
  simp only at hu h1 h2 hfs
  subst hfs
  have hs : s.size = u.length + r.length := by
    have e : s.data.toList.length = s.size := rfl
    rw [ht] at e
    simp at e; omega
  have hl2 : l ≤ s.size + 1 := h2
  refine ⟨h1, hl2, by rw [← hu]; omega, fun k hk => ?_, fun _ => ⟨hf, fun hq => ?_, fun hq => ?_⟩⟩
  · cases k with
    | zero => show 1 ≤ f.2.1; omega
    | succ k => exact hg _ (List.getElem_mem (by simpa using hk))
  · have hq' : f.2.2 = true := hq
    unfold FPl at hat
    rw [if_pos hq'] at hat
    cases r with
    | nil => simp at hat
    | cons c r =>
      have hc : c = q := by simpa using hat
      rw [← hu]
      have hlt : u.length < s.size := by simp at hs; omega
      refine ⟨hlt, ?_⟩
      have e : s[u.length] = s.data.toList[u.length]'hlt := rfl
      rw [e]
      simp only [ht]
      rw [List.getElem_append_right (Nat.le_refl _)]
      simpa using hc
  · have hq' : f.2.2 = false := hq
    unfold FPl at hat
    rw [if_neg (by simp [hq'])] at hat
    obtain ⟨b, rfl⟩ := hat
    rw [← hu]
    simp only [List.getElem_cons_zero]
    refine ⟨by simp at hs; omega, ?_⟩
    have e : (s.extract u.length (u.length + f.1.length)).data.toList = f.1 := by
      rw [ByteArray.data_extract, Array.toList_extract, ht, List.extract_eq_take_drop, List.drop_left]
      simp
    rw [← arr_of (s.extract u.length (u.length + f.1.length)), e]

set_option maxRecDepth 100000 in
set_option maxHeartbeats 3200000 in
theorem law_places (a : Option Addr) (n c : Nat) (L : List Int) (w : World) (hI : IntsAt w a n L) (hL : ∀ x ∈ L, -9223372036854775808 ≤ x ∧ x ≤ 9223372036854775807) (hM : MaxAt w) :
    Calls Tryd.prog 7 #[.slice a n c] w (RetB (.bool true) w) := by
  obtain ⟨m, hm⟩ := hM
  by_cases hn : n ≤ 400
  rotate_left
  · have hd : decide (n ≤ 400) = false := by simpa using hn
    clear hI hL hn
    go_enter Tryd.func7, Tryd.ntmps7
    go_wp2_with (first | (go_at_call 14; refine (light_any _ _ _ _).mono ?_; rw [hd]; rintro e w' ⟨rfl, rfl⟩) | (go_at_call 9; refine (awake_any _ ⟨m, hm⟩).mono ?_; rintro e w' ⟨rfl, hb⟩))
    go_ret
    exact ⟨rfl, hb⟩
  have hd : decide (n ≤ 400) = true := by simpa using hn
  have HD0 := Lib.hid (DiceAt.mk0 c 60 hI hn hL)
  have HM0 := Lib.hid hm
  clear hI hL hn hm
  go_enter Tryd.func7, Tryd.ntmps7
  go_wp2_with (first | (go_at_call 14; refine (light_any _ _ _ _).mono ?_; rw [hd]; rintro e w' ⟨rfl, rfl⟩) | (go_at_call 15; refine (roll_any _ _ _ _).mono ?_; rintro e w' ⟨rfl, rfl⟩))
  have hb0 : Below w.heap.size w (w.alloc (.cells #[.slice a n c, .int .i64 0] 60)) := (Below.refl _ _).alloc (Nat.le_refl _) _
  have HB0 := Lib.hid hb0
  clear hb0
  refine (dialect_any w.heap.size _ HD0.out).mono ?_
  rintro e w2 ⟨x, y, rfl, hx, hy, hd2, hb2⟩
  have HOK := Lib.hid (dial_ok hx hy)
  have HG := Lib.hid (GM.start (x := x) (y := y) hd2 (hb2.below HB0.out (Nat.le_refl _) HB0.out.size) HM0.out)
  clear hx hy hd2 hb2 HB0 HD0
  go_wp2_with fail
  generalize w2.alloc (.cells #[.int .u8 x.toNat, .int .u8 y.toNat] 23) = w4 at *
  generalize w2.heap.size = g at *
  have hA := HG.out.ga
  have hAd := HG.out.drew.ga
  go_region_held3 (fun w' => GM w g x y m w' ∧ w'.cell? ⟨g, 0, none⟩ = some (.int .u8 x.toNat) ∧ w'.cell? ⟨g, 1, none⟩ = some (.int .u8 y.toNat))
    (first | assumption | exact hAd | exact hA | exact kA | exact kB | go_keep)
    (first
      | (go_at_call 19; refine (fields_any w.heap.size _ (GM.dc (And.left (by assumption)))).mono ?_; rintro e w5 ⟨v5, L5, rfl, hl5, hfl⟩; have kA := (GM.but (And.left (by assumption)) hfl.dc hfl.but).ga; have HL5 := Lib.hid hfl.lst; have HT5 := Lib.hid (hfl.text_le hl5 x y); have HS5 := Lib.hid hfl.str_le; clear hfl)
      | (go_at_call 18; refine (rformat_any _ v5 L5 x y _ HL5.out HS5.out (Nat.le_trans HT5.out (by decide))).mono ?_; rintro e w6 ⟨rfl, hb6⟩; have kB := (GM.below (And.left (by assumption)) hb6).ga; have HF : Hid ((arr (formatF x y (lstB L5)).1).size ≤ 400) := Lib.hid (by rw [arr_size]; exact Nat.le_trans (formatF_le _ _ _) HT5.out)))
  clear hA hAd kA HL5 HS5 HT5 HG
  have HF4 := HF.out
  generalize arr (formatF x y (lstB L5)).1 = f1 at *
  have HB := Lib.hid kB.1
  clear kB HF
  generalize w6 = w7 at *
  go_wp2_with fail
  refine (one_any w.heap.size 2 _ (by omega) (by omega) HB.out.dc).mono ?_
  rintro e w8 ⟨bb, rfl, hd8, hb8⟩
  have HB8 := Lib.hid (HB.out.but hd8 hb8)
  clear hd8 hb8 HB
  go_upto_if 29 with fail
  go_cut [5] (fun v5 wx => ∃ s1 : ByteArray, v5 = .string s1 ∧ s1.size ≤ 500 ∧ Hid (GM w g x y m wx))
  case first =>
    cases bb
    · go_wp2_with fail
      go_meet
      exact ⟨f1, rfl, by omega, HB8⟩
    · go_wp2_with fail
      refine (spoil_any w.heap.size f1 ssg (by decide) (by decide) (by omega) _ HB8.out.dc).mono ?_
      rintro e w9 ⟨t9, rfl, ht9, hd9, hb9⟩
      have HB9 := Lib.hid (HB8.out.but hd9 hb9)
      have hsz : (arr t9).size ≤ 500 := by rw [arr_size]; omega
      clear hd9 hb9 ht9
      generalize arr t9 = s9 at *
      go_wp2_with fail
      go_meet
      exact ⟨s9, rfl, hsz, HB9⟩
  case rest =>
    obtain ⟨s1, rfl, hs1, HG⟩ := hcut
    clear HF4 HB8
    obtain ⟨g0, g1⟩ := cells2_of HG.out.box
    go_wp2_with fail
    refine (parse_any s1 x y _ (by omega)).mono ?_
    rintro e w6 ⟨va, vb, rfl, hra, hpb, hb6⟩
    have HG6 := Lib.hid (HG.out.below hb6)
    have HPL := Lib.hid (par_place HOK.out s1.data.toList)
    obtain ⟨Z, hZ, hrow, hfl⟩ := hra
    obtain ⟨a8, c8, rfl, hc8, hc8'⟩ := own_slice hrow
    have hzl : Z.length ≤ 9223372036854775807 := by omega
    have HZ := Lib.hid hZ; have HROW := Lib.hid hrow; have HFL := Lib.hid hfl
    clear hZ hrow hfl hpb hb6 HG g0 g1
    go_wp2_with fail
    go_loopw [9] (fun i wr => ∃ j : Nat, i = .int .i64 j ∧ j ≤ Z.length ∧ Hid (Below w6.heap.size w6 wr)) (fun i _ => Z.length - (intOf i).toNat)
    case atStart => exact ⟨0, rfl, by omega, Lib.hid (Below.refl _ _)⟩
    case round =>
      obtain ⟨j, rfl, hj, HW⟩ := hrel
      obtain ⟨wo, rfl⟩ : ∃ wo : World, wo = wr := ⟨_, rfl⟩
      by_cases hlt : j < Z.length
      · obtain ⟨q1, p1, e1, _, _, r1⟩ := row_at HROW.out (by omega)
        cases e1
        have X0 := Lib.hid (r1 _ _ (rcells_at Z j hlt).1)
        have X1 := Lib.hid (r1 _ _ (rcells_at Z j hlt).2)
        have fa := HFL.out _ (List.getElem_mem hlt)
        have hpl := HPL.out (Z[j]).1 (by rw [← HZ.out]; exact List.mem_map_of_mem (List.getElem_mem hlt))
        clear r1
        generalize (Z[j]).2 = v2 at *
        generalize (Z[j]).1 = rcd at *
        obtain ⟨ln, fs⟩ := rcd
        simp only at fa X0
        obtain ⟨l1, l2, b1, k1, k2⟩ := place_use hpl
        obtain ⟨b3, c3, rfl, hc3, hc4⟩ := own_slice fa
        obtain ⟨ln', rfl⟩ : ∃ l', ln = l' + 1 := ⟨ln - 1, by omega⟩
        have e1 : ln' + 1 - 1 = ln' := by omega
        rw [e1] at b1 k2
        have FA := Lib.hid fa; have K1 := Lib.hid k1; have K2 := Lib.hid k2
        have BG := Lib.hid (fun W => begin_any s1 ln' W (by omega) (by omega))
        clear fa hpl k1 k2 e1
        generalize begP s1.data.toList ln' = at0 at *
        go_wp2_with fail
        go_loopw [10] (fun k wr => ∃ k0 : Nat, k = .int .i64 k0 ∧ k0 ≤ fs.length ∧ Hid (Below w6.heap.size w6 wr)) (fun k _ => fs.length - (intOf k).toNat)
        case atStart => exact ⟨0, rfl, by omega, HW⟩
        case round =>
          obtain ⟨k0, rfl, hk0, HW2⟩ := hrel
          have x0 : wr.cell? ⟨q1, j * 2, none⟩ = some (.int .i64 ((ln' : Int) + 1)) := by have h := below_cell HW2.out X0.out; simpa using h
          have x1 := below_cell HW2.out X1.out
          by_cases hlk : k0 < fs.length
          · obtain ⟨g3, p3, e3, _, _, r3⟩ := row_at FA.out (by omega)
            cases e3
            obtain ⟨u0, u1, u2⟩ := fcells_at fs k0 hlk
            have t0 := below_cell HW2.out (r3 _ _ u0)
            have t1 := below_cell HW2.out (r3 _ _ u1)
            have t2 := below_cell HW2.out (r3 _ _ u2)
            have hc1 := K1.out k0 hlk
            clear r3 u0 u1 u2
            by_cases hk00 : k0 = 0
            · subst hk00
              obtain ⟨z1, z2, z3⟩ := K2.out hlk
              rw [z1] at t1
              rw [← arr_size (fs[0]).1] at z3
              clear z1 hc1
              generalize arr (fs[0]).1 = z at *
              generalize (fs[0]).2.2 = qd at *
              have bx : DxAt wr g x y := (HW2.out.block g (lt_of_heap HG6.out.box)).trans HG6.out.box
              obtain ⟨g0, g1⟩ := cells2_of bx
              clear bx
              rw [show ((0 : Nat) : Int) = 0 from rfl]
              have hbe : ∀ o, Below w6.heap.size w6 (wr.alloc o) := fun o => HW2.out.alloc HW2.out.size _
              have HBE := Lib.hid hbe
              clear hbe
              cases qd
              · obtain ⟨z4, z5⟩ := z3 rfl
                clear z2 z3
                have x0' : (wr.alloc (.cells #[.string z, .int .i64 1, .bool false] 50)).cell? ⟨q1, j * 2, none⟩ = some (.int .i64 ((ln' : Int) + 1)) := by rw [World.cell?_alloc_past _ _ _ (lt_of_cell x0)]; exact x0
                have y6 : decide (s1.size < at0 + z.size) = false := by simp; omega
                have y6b : decide ((s1.size : Int) < (at0 : Int) + (z.size : Int)) = false := by simp; omega
                have y6c : (at0 : Int) + (z.size : Int) ≤ (s1.size : Int) := by omega
                have y6d : (at0 : Int) ≤ (at0 : Int) + (z.size : Int) := by omega
                have w0' : (wr.alloc (.cells #[.string z, .int .i64 1, .bool false] 50)).cell? ⟨wr.heap.size, 0, none⟩ = some (.string z) := by rw [World.cell?_alloc_at _ _ _ _ rfl]; rfl
                have w2' : (wr.alloc (.cells #[.string z, .int .i64 1, .bool false] 50)).cell? ⟨wr.heap.size, 2, none⟩ = some (.bool false) := by rw [World.cell?_alloc_at _ _ _ _ rfl]; rfl
                have y5 : IntKind.i64.wrap ((at0 : Int) + (z.size : Int)) = (at0 : Int) + (z.size : Int) := IntWalk.i64_in _ (by omega)
                have y7 : (0 : Int) ≤ (at0 : Int) + (z.size : Int) := by omega
                have y8 : ((at0 : Int) + (z.size : Int)).toNat = at0 + z.size := by omega
                have y1 : IntKind.i64.wrap ((at0 : Int) + 1) = (at0 : Int) + 1 := IntWalk.i64_in _ (by omega)
                have y3 : IntKind.i64.wrap (at0 : Int) = (at0 : Int) := IntWalk.i64_in _ (by omega)
                go_wp2_with fail
                go_quiet ((go_at_call 25; exact Calls.quiet_of_same (same_flip (BG.out _))))
                go_wp2_with fail
                go_quiet (fail)
                go_wp2_with fail
                go_roundw
                case rel => exact ⟨1, by go_num, by omega, Lib.hid (bel_drewN (HBE.out _) _)⟩
                case measure => simp [intOf]; omega
              · obtain ⟨z4, z5⟩ := z2 rfl
                clear z2 z3
                have x0' : (wr.alloc (.cells #[.string z, .int .i64 1, .bool true] 50)).cell? ⟨q1, j * 2, none⟩ = some (.int .i64 ((ln' : Int) + 1)) := by rw [World.cell?_alloc_past _ _ _ (lt_of_cell x0)]; exact x0
                have w2' : (wr.alloc (.cells #[.string z, .int .i64 1, .bool true] 50)).cell? ⟨wr.heap.size, 2, none⟩ = some (.bool true) := by rw [World.cell?_alloc_at _ _ _ _ rfl]; rfl
                have g1' : (wr.alloc (.cells #[.string z, .int .i64 1, .bool true] 50)).cell? ⟨g, 1, none⟩ = some (.int .u8 y.toNat) := by rw [World.cell?_alloc_past _ _ _ (lt_of_cell g1)]; exact g1
                have y6 : ((at0 : Int) == (s1.size : Int)) = false := beq_eq_false_iff_ne.2 (by omega)
                have y9 : ((s1[at0].toNat : Int) == (y.toNat : Int)) = true := by rw [z5]; simp
                have y10 : ((s1[at0].toNat : Int) != (y.toNat : Int)) = false := by rw [bne, y9]; rfl
                clear z5
                have y1 : IntKind.i64.wrap ((at0 : Int) + 1) = (at0 : Int) + 1 := IntWalk.i64_in _ (by omega)
                have y3 : IntKind.i64.wrap (at0 : Int) = (at0 : Int) := IntWalk.i64_in _ (by omega)
                go_wp2_with fail
                go_quiet ((go_at_call 25; exact Calls.quiet_of_same (same_flip (BG.out _))))
                go_wp2_with fail
                go_quiet (fail)
                go_wp2_with fail
                go_roundw
                case rel => exact ⟨1, by go_num, by omega, Lib.hid (bel_drewN (HBE.out _) _)⟩
                case measure => simp [intOf]; omega
            · have hk1 : 0 < k0 := by omega
              have hk2 : ((k0 : Int) == 0) = false := beq_eq_false_iff_ne.2 (by omega)
              have hc2 : decide (((fs[k0]).2.1 : Int) < 1) = false := by simp; omega
              have HBE : Hid (∀ o, Below w6.heap.size w6 (wr.alloc o)) := Lib.hid (fun o => HW2.out.alloc HW2.out.size _)
              clear hk00 hc1
              generalize arr (fs[k0]).1 = z at *
              generalize (fs[k0]).2.2 = qd at *
              generalize (fs[k0]).2.1 = col at *
              have x0' : (wr.alloc (.cells #[.string z, .int .i64 col, .bool qd] 50)).cell? ⟨q1, j * 2, none⟩ = some (.int .i64 ((ln' : Int) + 1)) := by rw [World.cell?_alloc_past _ _ _ (lt_of_cell x0)]; exact x0
              go_wp2_with fail
              go_quiet ((go_at_call 25; exact Calls.quiet_of_same (same_flip (BG.out _))))
              go_wp2_with fail
              go_roundw
              case rel => exact ⟨k0 + 1, by go_num, by omega, Lib.hid (bel_drewN (HBE.out _) _)⟩
              case measure => simp [intOf]; omega
          · go_wp2_with fail
            go_roundw
            case rel => exact ⟨j + 1, by go_num, by omega, HW2⟩
            case measure => simp [intOf]; omega
      · go_wp2_with fail
        refine (awake_any _ ⟨m, below_cell HW.out HG6.out.mx⟩).mono ?_
        rintro e w9 ⟨rfl, hb9⟩
        have HW9 := Lib.hid (HG6.out.bel.trans ((HW.out.trans (hb9.mono HW.out.size)).mono HG6.out.bel.size))
        clear hb9
        go_wp2_with fail
        go_ret
        exact ⟨rfl, HW9.out⟩
end Go.Proofs.YtpiejpodaljefaaDoor
