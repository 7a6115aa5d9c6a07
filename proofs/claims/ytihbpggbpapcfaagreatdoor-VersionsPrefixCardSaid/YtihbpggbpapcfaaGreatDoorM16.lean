/- Texts V28, joined: walks and laws for the versions. -/
import Derived.Test.YtihbpggbpapcfaaGreatDoorM15
namespace Go.Proofs.YtihbpggbpapcfaaGreatDoor
open Go.RowKit

def PP (xs ys : List Ses) (t : Nat) : List L8 := if t = 0 then [] else if t = 1 then clsS xs else clsS xs ++ clsS ys

set_option maxRecDepth 100000 in
set_option maxHeartbeats 4000000 in
theorem rclasses_any (a : Option Addr) (n c : Nat) (xs : List Ses) (b : Option Addr) (n' c' : Nat) (ys : List Ses) (w : World) (hx : SAt w a n xs) (hy : SAt w b n' ys) (hn : n ≤ 1000000) (hn' : n' ≤ 1000000) :
    Calls Tryz.prog 82 #[.slice a n c, .slice b n' c'] w (fun e w' => ∃ v, e = .returned v ∧ CRow w' w.heap.size v (clsL (clsS xs ++ clsS ys)) ∧ Below w.heap.size w w') := by
  have hlx := hx.1
  have hly := hy.1
  have HX := Lib.hid hx
  have HY := Lib.hid hy
  clear hx hy
  go_enter Tryz.func82, Tryz.ntmps82
  go_wp2_with fail
  have HBW := Lib.hid (show Below w.heap.size w (w.alloc (.cells #[.slice a n c, .slice b n' c'] 49)) from (Below.refl _ _).alloc (Nat.le_refl _) _)
  have cc0 : (w.alloc (.cells #[.slice a n c, .slice b n' c'] 49)).cell? ⟨w.heap.size, 0, none⟩ = some (.slice a n c) := by simp
  have cc1 : (w.alloc (.cells #[.slice a n c, .slice b n' c'] 49)).cell? ⟨w.heap.size, 1, none⟩ = some (.slice b n' c') := by simp
  have hsz : (w.alloc (.cells #[.slice a n c, .slice b n' c'] 49)).heap.size = w.heap.size + 1 := by simp
  generalize w.alloc (.cells #[.slice a n c, .slice b n' c'] 49) = w1 at *
  have HX1 := Lib.hid (HX.out.below HBW.out)
  have HY1 := Lib.hid (HY.out.below HBW.out)
  have HSZ := Lib.hid hsz
  have hws : w.heap.size < w1.heap.size := by omega
  have HC0 := Lib.hid cc0
  have HC1 := Lib.hid cc1
  clear hsz cc0 cc1
  generalize hN0 : w.heap.size = N0 at *
  have HN0 := Lib.hid hN0
  clear hN0
  go_loopw [5, 15] (fun v i wr => ∃ t : Nat, t ≤ 2 ∧ i = .int .i64 t ∧ Hid (CRow wr w1.heap.size v (clsL (PP xs ys t))) ∧ Hid (Below w1.heap.size w1 wr)) (fun _ i _ => 2 - (intOf i).toNat)
  case atStart => exact ⟨0, by omega, rfl, Lib.hid (KRow.nil _ _ _ _ _), Lib.hid (Below.refl _ _)⟩
  case round =>
    obtain ⟨t, ht, rfl, HR1, HB1⟩ := hrel
    by_cases hlt1 : t < 2
    · have hcell : ∃ az nz cz zs, wr.cell? ⟨N0, t, none⟩ = some (.slice az nz cz) ∧ SAt w1 az nz zs ∧ PP xs ys (t + 1) = PP xs ys t ++ clsS zs ∧ nz ≤ 1000000 ∧ (PP xs ys t).length ≤ 1000000 := by
        rcases (show t = 0 ∨ t = 1 by omega) with rfl | rfl
        · exact ⟨a, n, c, xs, (HB1.out.cell (p := ⟨N0, 0, none⟩) hws).trans HC0.out, HX1.out, by simp [PP], hn, by simp [PP]⟩
        · exact ⟨b, n', c', ys, (HB1.out.cell (p := ⟨N0, 1, none⟩) hws).trans HC1.out, HY1.out, by simp [PP], hn', by simp [PP, clsS]; omega⟩
      obtain ⟨az, nz, cz, zs, hcz, hz, hPP, hnz, hpl⟩ := hcell
      have HZ := Lib.hid hz
      have HPP := Lib.hid hPP
      have hlz := hz.1
      have k9 : (t : Int) < 2 := by omega
      clear hz hPP
      obtain ⟨wo1, rfl⟩ : ∃ wo1 : World, wo1 = wr := ⟨_, rfl⟩
      go_wp2_with fail
      go_loopw [5, 8] (fun v i wr => ∃ j : Nat, j ≤ nz ∧ i = .int .i64 j ∧ Hid (CRow wr w1.heap.size v (clsL (PP xs ys t ++ clsS (zs.take j)))) ∧ Hid (Below w1.heap.size w1 wr)) (fun _ i _ => nz - (intOf i).toNat)
      case atStart => exact ⟨0, by omega, rfl, by simpa [clsS] using HR1, HB1⟩
      case round =>
        clear HR1 HB1 hcz
        obtain ⟨j, hj, rfl, HR, HB⟩ := hrel
        by_cases hlt : j < nz
        · obtain ⟨b1, o1, s1, rfl, g1, z1, x0, x1, x2, x3, x4, x5⟩ := SAt.cells (HZ.out.below HB.out) hlt
          have hJ := clsL_le (PP xs ys t ++ clsS (zs.take j))
          have hJ2 : (clsL (PP xs ys t ++ clsS (zs.take j))).length ≤ 2000000 := by
            rw [List.length_append] at hJ
            have : (clsS (zs.take j)).length ≤ j := by unfold clsS; simp; omega
            omega
          have HJ : Hid (clsL (PP xs ys t ++ clsS (zs.take (j + 1))) = insC (clsL (PP xs ys t ++ clsS (zs.take j))) s1.1) := Lib.hid (by rw [clsS_take g1, ← List.append_assoc, clsL_snoc])
          clear g1 hJ x1 x2 x3 x4 x5
          generalize clsL (PP xs ys t ++ clsS (zs.take j)) = L at *
          obtain ⟨ao, co, rfl, hco, hso⟩ := HR.out.at_ encStr
          have HSO := Lib.hid hso
          clear hso
          go_wp2_with fail
          obtain ⟨wo, rfl⟩ : ∃ wo : World, wo = wr := ⟨_, rfl⟩
          go_loopw [9] (fun i wr => ∃ q : Nat, q ≤ L.length ∧ i = .int .i64 q ∧ Hid (∀ i d, i < q → L[i]? = some d → Op.bytesLess d s1.1 = true) ∧ Hid (Below wo.heap.size wo wr)) (fun i _ => L.length - (intOf i).toNat)
          case atStart => exact ⟨0, by omega, rfl, Lib.hid (fun i d h => by omega), Lib.hid (Below.refl _ _)⟩
          case round =>
            obtain ⟨q, hq, rfl, HA, HC⟩ := hrel
            have HR2 := Lib.hid (HR.out.below HC.out)
            have x0 := below_cell9 HC.out x0
            have k1 : (j : Int) < nz := by omega
            have k2 : (0 : Int) ≤ j := by omega
            have k4 : (0 : Int) ≤ q := by omega
            have HBB : Hid (∀ bb, (decide (q < L.length) && Op.bytesLess (L.getD q []) s1.1) = bb → (bb = true → q < L.length ∧ ∀ i d, i < q + 1 → L[i]? = some d → Op.bytesLess d s1.1 = true) ∧ (bb = false → idxC L s1.1 = q)) := Lib.hid (fun bb hb => by
              rcases Nat.lt_or_ge q L.length with hl | hl
              · have hg : L.getD q [] = L[q] := by rw [List.getD_eq_getElem?_getD, List.getElem?_eq_getElem hl]; rfl
                rw [decide_eq_true hl, Bool.true_and, hg] at hb
                refine ⟨fun h => ⟨hl, fun i d h1 h2 => ?_⟩, fun h => ?_⟩
                · rcases Nat.lt_or_ge i q with h3 | h3
                  · exact HA.out i d h3 h2
                  · have : i = q := by omega
                    subst this
                    rw [List.getElem?_eq_getElem hl] at h2; cases h2
                    rw [hb]; exact h
                · exact idxC_of HA.out hq (fun d h2 => by rw [List.getElem?_eq_getElem hl] at h2; cases h2; rw [hb]; exact h)
              · rw [decide_eq_false (by omega), Bool.false_and] at hb
                refine ⟨fun h => (by rw [← hb] at h; cases h), fun _ => idxC_of HA.out hq (fun d h2 => by rw [List.getElem?_eq_none (by omega)] at h2; cases h2)⟩)
            generalize hbb : (decide (q < L.length) && Op.bytesLess (L.getD q []) s1.1) = bb at *
            have HB0 := Lib.hid hbb
            have HBX := Lib.hid (HBB.out bb rfl)
            clear HBB hbb
            go_upto_region 9 with fail
            go_cut [40] (fun s40 wx => s40 = .bool bb ∧ Below wr.heap.size wr wx)
            case first =>
              by_cases hlq : q < L.length
              · obtain ⟨g, cap, he, hcap, hB, hg, hcell⟩ := CRow.open_ HR2.out (by omega)
                cases he
                obtain ⟨d1, hd1⟩ : ∃ d1, L[q]? = some d1 := ⟨_, List.getElem?_eq_getElem hlq⟩
                have y0 := hcell q d1 hd1
                have e : Op.bytesLess (arr d1).toList (arr s1.1).toList = bb := by
                  rw [arr_toList, arr_toList, ← HB0.out, decide_eq_true hlq, Bool.true_and, List.getD_eq_getElem?_getD, hd1]; rfl
                have k3 : (q : Int) < (L.length : Int) := by omega
                clear hcell hd1 HB0 HBX HA
                cases bb
                all_goals
                  go_quiet (fail)
                  go_wp2_with fail
                  go_meet
                  exact ⟨rfl, below_drewN _ _⟩
              · have e : bb = false := by rw [← HB0.out, decide_eq_false hlq]; rfl
                obtain rfl : q = L.length := by omega
                subst e
                go_quiet (fail)
                go_wp2_with fail
                go_meet
                exact ⟨rfl, below_drewN _ _⟩
            case rest =>
              obtain ⟨rfl, hbz⟩ := hcut
              have HC2 := Lib.hid (below3 HC.out hbz)
              have HR3 := Lib.hid (HR2.out.below hbz)
              have x0 := below_cell9 hbz x0
              have HB2 := Lib.hid (below3 HB.out HC2.out)
              clear hbz HB0
              cases bb
              rotate_left
              · obtain ⟨h1, h2⟩ := HBX.out.1 rfl
                have H2 := Lib.hid h2
                clear h2 HBX HA
                go_wp2_with fail
                go_roundw
                case rel => exact ⟨q + 1, by omega, by go_num, H2, HC2⟩
                case measure => simp [intOf]; omega
              · have HK := Lib.hid (HBX.out.2 rfl)
                clear HBX HA
                have hb2 := HB2.out.size
                obtain ⟨wu, rfl⟩ : ∃ wu : World, wu = wc := ⟨_, rfl⟩
                go_upto_region 11 with fail
                go_cut [58] (fun s58 wx => s58 = .bool (!decide (L[q]? = some s1.1)) ∧ Below wu.heap.size wu wx)
                case first =>
                  by_cases hlq : q < L.length
                  · obtain ⟨g, cap, he, hcap, hB, hg, hcell⟩ := CRow.open_ HR3.out (by omega)
                    cases he
                    obtain ⟨d1, hd1⟩ : ∃ d1, L[q]? = some d1 := ⟨_, List.getElem?_eq_getElem hlq⟩
                    have y0 := hcell q d1 hd1
                    have HE : Hid (L[q]? = some d1) := Lib.hid hd1
                    have k3 : (q : Int) < (L.length : Int) := by omega
                    have k5 : ((q : Int) == (L.length : Int)) = false := by rw [beq_eq_false_iff_ne]; omega
                    clear hcell hd1 HK
                    by_cases hde : d1 = s1.1
                    · have HQ : Hid (decide (L[q]? = some s1.1) = true) := Lib.hid (by rw [HE.out, hde]; simp)
                      have p1 : ((arr d1).toList == (arr s1.1).toList) = true := by rw [hde]; simp
                      clear hde
                      go_quiet (fail)
                      go_wp2_with fail
                      go_meet
                      exact ⟨by rw [HQ.out]; rfl, below_drewN _ _⟩
                    · have HQ : Hid (decide (L[q]? = some s1.1) = false) := Lib.hid (by rw [HE.out]; simpa using hde)
                      have p1 : ((arr d1).toList == (arr s1.1).toList) = false := by rw [arr_toList, arr_toList]; simpa using hde
                      clear hde
                      go_quiet (fail)
                      go_wp2_with fail
                      go_meet
                      exact ⟨by rw [HQ.out]; rfl, below_drewN _ _⟩
                  · have HQ : Hid (decide (L[q]? = some s1.1) = false) := Lib.hid (by rw [List.getElem?_eq_none (by omega)]; simp)
                    obtain rfl : q = L.length := by omega
                    have k5 : ((L.length : Int) == (L.length : Int)) = true := by simp
                    clear HK
                    go_quiet (fail)
                    go_wp2_with fail
                    go_meet
                    exact ⟨by rw [HQ.out]; rfl, below_drewN _ _⟩
                case rest =>
                  obtain ⟨rfl, hbz⟩ := hcut
                  have HC4 := Lib.hid (below3 HC2.out hbz)
                  have HR3 := Lib.hid (HR3.out.below hbz)
                  have x0 := below_cell9 hbz x0
                  have HB2 := Lib.hid (below3 HB2.out hbz)
                  clear hbz
                  by_cases hEQ : L[q]? = some s1.1
                  · have HN : Hid (clsL (PP xs ys t ++ clsS (zs.take (j + 1))) = L) := Lib.hid (by rw [HJ.out]; exact insC_same HK.out hEQ)
                    have hdd : decide (L[q]? = some s1.1) = true := decide_eq_true hEQ
                    rw [hdd]
                    clear hdd hEQ HK
                    have HRF : Hid (CRow wc w1.heap.size (.slice ao L.length co) (clsL (PP xs ys t ++ clsS (zs.take (j + 1))))) := Lib.hid (by rw [HN.out]; exact HR3.out)
                    go_wp2_with fail
                    go_roundw
                    case rel => exact ⟨j + 1, by omega, by go_num, HRF, HB2⟩
                    case measure => simp [intOf]; omega
                  · have HN : Hid (clsL (PP xs ys t ++ clsS (zs.take (j + 1))) = L.take q ++ [s1.1] ++ L.drop q) := Lib.hid (by rw [HJ.out]; exact insC_new HK.out hEQ)
                    have hdd : decide (L[q]? = some s1.1) = false := decide_eq_false hEQ
                    rw [hdd]
                    clear hdd hEQ HK
                    have hb2 := HB2.out.size
                    obtain ⟨wv, rfl⟩ : ∃ wv : World, wv = wc := ⟨_, rfl⟩
                    have hs1 := HSO.out
                    have HS0 := Lib.hid (HSO.out.below HC4.out)
                    have KN := Lib.hid (KRow.nil strC 1 9 wv wv.heap.size)
                    rcases HR3.out.2 with ⟨he, h0⟩ | ⟨g, cap, cur, he, hB, hh, hcap, _⟩
                    · have hL : L = [] := List.eq_nil_of_length_eq_zero h0
                      subst hL
                      cases he
                      obtain rfl : q = 0 := by simpa using hq
                      have KD := Lib.hid (KAt.nil strC 1 wv)
                      clear hs1 HSO HS0 h0
                      go_upto_region 12 with fail
                      go_cut [10] (fun s10 wx => CRow wx wv.heap.size s10 [] ∧ Below wv.heap.size wv wx)
                      case first =>
                        go_wp2_with fail
                        go_meet
                        exact ⟨KN.out, Below.refl _ _⟩
                      case rest =>
                        have HR6 := Lib.hid hcut.1
                        have HB6 := Lib.hid hcut.2
                        clear hcut
                        have xp0 := x0
                        have x0 := below_cell9 HB6.out x0
                        have hz6 := HB6.out.size
                        go_wp2_with fail
                        go_region_held3 (fun w' => w'.cell? ⟨b1, o1 + j * 6, none⟩ = some (.string (arr s1.1))) (first | (with_reducible exact x0) | go_keep) (first | (refine step_app elemStr encStr (by rfl) (.tmp 63) (.tmp 69) (by rfl) wv.heap.size u10 [] (by rfl) (row_below HR6.out (new_bel _ _)) _ _ _ [s1.1] (by rfl) (KAt.one' wc s1.1 _) (by simp <;> omega) (by simp <;> omega) ?_; intro v7 w7 hr7 hb7 hg7 ho7; have HR7 := Lib.hid hr7; have HB7 := Lib.hid (HB6.out.trans (new_tr _ hz6 hb7)); have x0 := below_cell9 HB7.out xp0; have hz7 := HB7.out.size; clear hr7 hb7 hg7 ho7) | (refine step_app elemStr encStr (by rfl) (.tmp 70) (.tmp 73) (by rfl) wv.heap.size v7 ([] ++ [s1.1]) (by rfl) HR7.out _ _ _ [] (by rfl) (KD.out.below HB7.out) (by simp <;> omega) hz7 ?_; intro v8 w8 hr8 hb8 hg8 ho8; have HR8 := Lib.hid hr8; have HB8 := Lib.hid (HB7.out.trans hb8); have x0 := below_cell9 HB8.out xp0; clear hr8 hb8 hg8 ho8))
                        have HRF : Hid (CRow _ w1.heap.size _ (clsL (PP xs ys t ++ clsS (zs.take (j + 1))))) := Lib.hid (by rw [HN.out]; exact row_base HR8.out hb2)
                        have HBF := Lib.hid (HB2.out.trans (HB8.out.mono hb2))
                        go_wp2_with fail
                        go_roundw
                        case rel => exact ⟨j + 1, by omega, by go_num, HRF, HBF⟩
                        case measure => simp [intOf]; omega
                    · cases he
                      have KT := Lib.hid (HS0.out.take (i := q) hq)
                      have KD := Lib.hid (tail_str HS0.out hq hco)
                      clear hs1 HSO
                      go_upto_region 12 with fail
                      go_cut [10] (fun s10 wx => CRow wx wv.heap.size s10 (L.take q) ∧ Below wv.heap.size wv wx)
                      case first =>
                        go_wp2_with (at_builtin; refine wpList_app elemStr encStr rfl _ _ rfl wv.heap.size _ [] rfl KN.out _ _ _ (L.take q) rfl KT.out (by simp <;> omega) (Nat.le_refl _) ?_)
                        intro v6 w6 hr6 hb6 hg6 ho6
                        have HR6 := Lib.hid hr6
                        have HB6 := Lib.hid hb6
                        clear hr6 hb6 hg6 ho6
                        go_wp2_with fail
                        go_meet
                        exact ⟨HR6.out, HB6.out⟩
                      case rest =>
                        have HR6 := Lib.hid hcut.1
                        have HB6 := Lib.hid hcut.2
                        clear hcut
                        have xp0 := x0
                        have x0 := below_cell9 HB6.out x0
                        have hz6 := HB6.out.size
                        go_wp2_with fail
                        go_region_held3 (fun w' => w'.cell? ⟨b1, o1 + j * 6, none⟩ = some (.string (arr s1.1))) (first | (with_reducible exact x0) | go_keep) (first | (refine step_app elemStr encStr (by rfl) (.tmp 63) (.tmp 69) (by rfl) wv.heap.size u10 (L.take q) (by rfl) (row_below HR6.out (new_bel _ _)) _ _ _ [s1.1] (by rfl) (KAt.one' wc s1.1 _) (by simp <;> omega) (by simp <;> omega) ?_; intro v7 w7 hr7 hb7 hg7 ho7; have HR7 := Lib.hid hr7; have HB7 := Lib.hid (HB6.out.trans (new_tr _ hz6 hb7)); have x0 := below_cell9 HB7.out xp0; have hz7 := HB7.out.size; clear hr7 hb7 hg7 ho7) | (refine step_app elemStr encStr (by rfl) (.tmp 70) (.tmp 73) (by rfl) wv.heap.size v7 ((L.take q) ++ [s1.1]) (by rfl) HR7.out _ _ _ (L.drop q) (by rfl) (KD.out.below HB7.out) (by simp <;> omega) hz7 ?_; intro v8 w8 hr8 hb8 hg8 ho8; have HR8 := Lib.hid hr8; have HB8 := Lib.hid (HB7.out.trans hb8); have x0 := below_cell9 HB8.out xp0; clear hr8 hb8 hg8 ho8))
                        have HRF : Hid (CRow _ w1.heap.size _ (clsL (PP xs ys t ++ clsS (zs.take (j + 1))))) := Lib.hid (by rw [HN.out]; exact row_base HR8.out hb2)
                        have HBF := Lib.hid (HB2.out.trans (HB8.out.mono hb2))
                        go_wp2_with fail
                        go_roundw
                        case rel => exact ⟨j + 1, by omega, by go_num, HRF, HBF⟩
                        case measure => simp [intOf]; omega
        · obtain rfl : j = nz := by omega
          have HF : Hid (clsL (PP xs ys t ++ clsS (zs.take j)) = clsL (PP xs ys (t + 1))) := Lib.hid (by rw [List.take_of_length_le (by omega), HPP.out])
          rw [HF.out] at HR
          go_wp2_with fail
          go_roundw
          case rel => exact ⟨t + 1, by omega, by go_num, HR, HB⟩
          case measure => simp [intOf]; omega
    · obtain rfl : t = 2 := by omega
      go_wp2_with fail
      go_ret
      rw [HN0.out]
      exact ⟨_, rfl, by have := row_base HR1.out (Nat.le_of_lt hws); simpa [PP] using this, by have h := below3 (by rw [HN0.out]; exact HBW.out) HB1.out; rw [HN0.out] at h; exact h⟩
end Go.Proofs.YtihbpggbpapcfaaGreatDoor
