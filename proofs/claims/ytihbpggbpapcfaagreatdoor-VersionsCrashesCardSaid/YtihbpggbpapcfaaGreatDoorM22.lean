/- Texts V62, joined: walks and laws for the versions. -/
import Derived.Test.YtihbpggbpapcfaaGreatDoorM21
namespace Go.Proofs.YtihbpggbpapcfaaGreatDoor
open Go.RowKit Go.Sort

theorem idx_props {L : List Ses} {s : Ses} (h : idxS L s < L.length) : (∀ i u, i < idxS L s → L[i]? = some u → alkS s u = false) ∧ ∃ t, L[idxS L s]? = some t ∧ alkS s t = true := by
  refine ⟨fun i u hi hu => ?_, L[idxS L s], List.getElem?_eq_getElem h, List.findIdx_getElem (w := h)⟩
  obtain ⟨hl, rfl⟩ := List.getElem?_eq_some_iff.1 hu
  have := List.not_of_lt_findIdx (p := fun t => alkS s t) (xs := L) hi
  simpa using this
theorem add_none {L : List Ses} {s : Ses} (h : ¬ idxS L s < L.length) : addS L s = L ++ [s] := by unfold addS; rw [if_neg h]
theorem joinS_le (xs : List Ses) : (joinS xs).length ≤ xs.length := by have := joinS_len xs []; unfold joinS; simpa using this

set_option maxRecDepth 100000 in
set_option maxHeartbeats 8000000 in
theorem normal_any (a : Option Addr) (n c : Nat) (xs : List Ses) (m : Int) (w : World) (hx : SAt w a n xs) (hs : SOk xs) (hT : Tz w) (hn : n ≤ 1000000) :
    Calls Tryz.prog 114 #[.slice a n c, .int .i64 m] w (ResS (nrmS m xs) w) := by
  have n1 := hx.2.1
  have hl := hx.1
  have HX := Lib.hid hx
  have HS := Lib.hid hs
  have HT := Lib.hid hT
  clear hx hs hT
  have hmf : ∀ (fn : Fn) (first cap : Array Value) (w : World), (Instr.makeFunc fn first cap).run Tryz.prog w = .ok (.func fn first cap) w := fun _ _ _ _ => rfl
  by_cases hm : m < 1 ∨ 20 < m
  · have HF : Hid (nrmS m xs = (3, [])) := Lib.hid (by unfold nrmS; rw [if_pos hm])
    rcases (show m < 1 ∨ (1 ≤ m ∧ 20 < m) by omega) with h | ⟨h, h'⟩
    all_goals
      clear hm
      go_enter Tryz.func114, Tryz.ntmps114
      go_wp2
      go_ret2
      exact ResS.err HF.out (Below.refl _ _)
  have m1 : 1 ≤ m := by omega
  have m2 : m ≤ 20 := by omega
  have HV : Hid (nrmS m xs = if chkL m xs ≠ 0 then (chkL m xs, []) else if ¬ NoMet (joinS xs) then (11, []) else if 96 < (joinS xs).length then (2, []) else (0, srtS (joinS xs))) := Lib.hid (by unfold nrmS; rw [if_neg hm])
  clear hm
  go_enter Tryz.func114, Tryz.ntmps114
  go_wp2_with fail
  go_loopw [23] (fun i wr => ∃ j : Nat, j ≤ n ∧ i = .int .i64 j ∧ Hid (chkL m (xs.drop j) = chkL m xs) ∧ Hid (∀ (i : Nat) (s : Ses), i < j → xs[i]? = some s → chkS s m = 0) ∧ Hid (Below w.heap.size w wr)) (fun i _ => n - (intOf i).toNat)
  case atStart => exact ⟨0, by omega, rfl, Lib.hid rfl, Lib.hid (fun i s h => by omega), Lib.hid (Below.refl _ _)⟩
  case round =>
    obtain ⟨j, hj, rfl, HC, HA, HB⟩ := hrel
    by_cases hlt : j < n
    · obtain ⟨b1, o1, s1, rfl, g1, z1, x0, x1, x2, x3, x4, x5⟩ := SAt.cells (HX.out.below HB.out) hlt
      have HG := Lib.hid g1
      have HSS := Lib.hid (HS.out s1 (List.mem_of_getElem? g1))
      have HD := Lib.hid (chkL_drop (n := m) g1)
      have k1 : (j : Int) < n := by omega
      have k2 : (0 : Int) ≤ j := by omega
      clear g1
      have HK : Hid (chkS s1 m = chkE s1.1 s1.2.1 s1.2.2.1 s1.2.2.2.1 s1.2.2.2.2.1 s1.2.2.2.2.2 m) := Lib.hid rfl
      have SN := Lib.hid (fun W => check_any s1.1 s1.2.1 s1.2.2.1 s1.2.2.2.1 s1.2.2.2.2.1 s1.2.2.2.2.2 m HSS.out.1.1 HSS.out.1.2 HSS.out.2.1 HSS.out.2.2 W)
      rw [← HK.out] at SN
      have HBa := Lib.hid (fun O : Obj => HB.out.alloc HB.out.size O)
      go_wp2_with fail
      refine (SN.out _).mono ?_
      rintro en w2 ⟨rfl, hb2⟩
      have HB2 := Lib.hid (below3 (HBa.out _) hb2)
      clear hb2
      by_cases hz : chkS s1 m = 0
      · have HC2 : Hid (chkL m (xs.drop (j + 1)) = chkL m xs) := Lib.hid (by rw [← HC.out, HD.out, if_pos hz])
        have HA2 : Hid (∀ (i : Nat) (s : Ses), i < j + 1 → xs[i]? = some s → chkS s m = 0) := Lib.hid (fun i s h h2 => by
          rcases Nat.lt_or_ge i j with h3 | h3
          · exact HA.out i s h3 h2
          · have : i = j := by omega
            subst this
            rw [HG.out] at h2; cases h2; exact hz)
        have hd : (chkS s1 m != 0) = false := by simpa using hz
        clear hz
        generalize chkS s1 m = e1 at *
        go_wp2_with fail
        go_roundw
        case rel => exact ⟨j + 1, by omega, by go_num, HC2, HA2, HB2⟩
        case measure => simp [intOf]; omega
      · have HF : Hid (nrmS m xs = (chkS s1 m, [])) := Lib.hid (by
          have : chkL m xs = chkS s1 m := by rw [← HC.out, HD.out, if_neg hz]
          rw [HV.out, this, if_pos hz])
        have hd : (chkS s1 m != 0) = true := by simpa using hz
        clear hz
        generalize chkS s1 m = e1 at *
        go_wp2_with fail
        go_ret2
        exact ResS.err HF.out HB2.out
    · obtain rfl : n = j := by omega
      have HOK : Hid (∀ s ∈ xs, chkS s m = 0) := Lib.hid (fun s h => by
        obtain ⟨i, hi, rfl⟩ := List.getElem_of_mem h
        exact HA.out i _ (by omega) (List.getElem?_eq_getElem hi))
      have HV2 : Hid (nrmS m xs = if ¬ NoMet (joinS xs) then (11, []) else if 96 < (joinS xs).length then (2, []) else (0, srtS (joinS xs))) := Lib.hid (by
        have h0 : chkL m xs = 0 := by rw [← HC.out, List.drop_eq_nil_of_le (by omega), chkL]
        rw [HV.out, h0]; simp)
      have HW : Hid (∀ t ∈ joinS xs, wsB t.2.1 20 = true) := Lib.hid (joinS_ws xs [] (fun t h => by simp at h) (fun s h => (chk_week (HOK.out s h)).2.2.2))
      clear HV HC HA
      obtain ⟨wo, rfl⟩ : ∃ wo : World, wo = wr := ⟨_, rfl⟩
      go_wp2_with fail
      go_loopw [9, 36] (fun v i wr => ∃ j : Nat, j ≤ n ∧ i = .int .i64 j ∧ Hid (SRow wr w.heap.size v (joinS (xs.take j))) ∧ Hid (Below w.heap.size w wr)) (fun _ i _ => n - (intOf i).toNat)
      case atStart => exact ⟨0, by omega, rfl, Lib.hid (by simp [joinS]; exact World.ownsRow_nil _ _ _ _), HB⟩
      case round =>
        clear HB
        obtain ⟨j, hj, rfl, HR, HB⟩ := hrel
        by_cases hlt : j < n
        · obtain ⟨b1, o1, s1, rfl, g1, z1, x0, x1, x2, x3, x4, x5⟩ := SAt.cells (HX.out.below HB.out) hlt
          have hJ := joinS_le (xs.take j)
          rw [List.length_take] at hJ
          have HJ : Hid (joinS (xs.take (j + 1)) = addS (joinS (xs.take j)) s1) := Lib.hid (joinS_take g1)
          have hJ2 : (joinS (xs.take j)).length ≤ j := by omega
          clear g1 hJ
          generalize joinS (xs.take j) = L at *
          obtain ⟨ao, co, rfl, hco, _⟩ := HR.out.sat
          have k1 : (j : Int) < n := by omega
          have k2 : (0 : Int) ≤ j := by omega
          have HB1 := Lib.hid (BX.mk0 (vs := sesA s1) (T := 95) wr)
          go_upto_region 14 with fail
          change Hid (BX wr (wr.alloc (.cells #[.string (arr s1.1), .int .i64 s1.2.1, .int .i64 s1.2.2.1, .int .i64 s1.2.2.2.1, .int .i64 s1.2.2.2.2.1, .string (arr s1.2.2.2.2.2)] 95)) wr.heap.size _ _) at HB1
          generalize wr.alloc (.cells #[.string (arr s1.1), .int .i64 s1.2.1, .int .i64 s1.2.2.1, .int .i64 s1.2.2.2.1, .int .i64 s1.2.2.2.2.1, .string (arr s1.2.2.2.2.2)] 95) = wb at *
          obtain ⟨S, hS⟩ : ∃ S, S = wr.heap.size := ⟨_, rfl⟩
          rw [← hS] at HB1 ⊢
          have HSS : Hid (S = wr.heap.size) := Lib.hid hS
          clear hS x0 x1 x2 x3 x4 x5
          have HR := Lib.hid (HR.out.below HB1.out.bl)
          have HB := Lib.hid (below3 HB.out HB1.out.bl)
          have IX := Lib.hid (idx_any s1 S wr wb HB1.out _ L w.heap.size HR.out (by omega))
          by_cases hi : idxS L s1 < L.length
          · have HIE : Hid (ixI L s1 = (idxS L s1 : Int)) := Lib.hid (by unfold ixI; rw [if_pos hi])
            obtain ⟨hp0, t1, ht1, hp2⟩ := idx_props hi
            rw [HIE.out] at IX
            have HN : Hid (joinS (xs.take (j + 1)) = L.set (idxS L s1) (t1.1, bits .or .i64 t1.2.1 s1.2.1, t1.2.2)) := Lib.hid (by rw [HJ.out]; exact addS_hit hp0 ht1 hp2)
            have HT1 := Lib.hid ht1
            clear HIE hp0 hp2 ht1
            generalize idxS L s1 = q at *
            go_wp2_with fail
            refine IX.out.mono ?_
            rintro en w2 ⟨rfl, hb2⟩
            have HR := Lib.hid (HR.out.below hb2)
            have HB := Lib.hid (below3 HB.out hb2)
            have HB1 := Lib.hid (HB1.out.next hb2)
            clear hb2 IX
            obtain ⟨g, cap, he, hcap, hBg, hg, hcell⟩ := SRow.open_ HR.out (by omega)
            cases he
            obtain ⟨y0, y1, y2, y3, y4, y5, yf⟩ := hcell q t1 HT1.out
            have yf := yf 1
            obtain ⟨_, z1', _, _, _, _⟩ := HB1.out.six
            have hq1 : (q : Int) < (L.length : Int) := by omega
            have hq0 : (0 : Int) ≤ q := by omega
            have HST := Lib.hid (SRow.store HR.out HT1.out (bits .or .i64 t1.2.1 s1.2.1))
            have HBS := Lib.hid (below_drw (HB.out.setCell (p := ⟨g, q * 6 + 1, none⟩) hBg (.int .i64 (bits .or .i64 t1.2.1 s1.2.1))))
            clear hcell y0 y2 y3 y4 y5
            go_wp2_with fail
            go_region
            all_goals (
              go_wp2_with fail
              go_roundw
              case rel => exact ⟨j + 1, by omega, by go_num, by rw [HN.out]; exact HST, HBS⟩
              case measure => simp [intOf]; omega)
          · have HIE : Hid (ixI L s1 = -1) := Lib.hid (by unfold ixI; rw [if_neg hi])
            rw [HIE.out] at IX
            have HN : Hid (joinS (xs.take (j + 1)) = L ++ [s1]) := Lib.hid (by rw [HJ.out]; exact add_none hi)
            clear HIE hi
            go_wp2_with fail
            refine IX.out.mono ?_
            rintro en w2 ⟨rfl, hb2⟩
            have HR := Lib.hid (HR.out.below hb2)
            have HB := Lib.hid (below3 HB.out hb2)
            have HB1 := Lib.hid (HB1.out.next hb2)
            have hbs := HB.out.size
            clear hb2 IX
            obtain ⟨x0, x1, x2, x3, x4, x5⟩ := HB1.out.six
            go_wp2_with (at_builtin; refine wpList_app elemSes encSes rfl _ _ rfl w.heap.size _ L rfl (HR.out.below ((Below.refl _ _).alloc (Nat.le_refl _) _)) _ _ _ [s1] rfl (KAt.one w2 s1 _) (by simp <;> omega) (by simp; omega) ?_)
            intro v6 w6 hr6 hb6 hg6 ho6
            have HRF : Hid (SRow w6 w.heap.size v6 (joinS (xs.take (j + 1)))) := Lib.hid (by rw [HN.out]; exact hr6)
            have HBF := Lib.hid ((HB.out.alloc hbs _).trans hb6)
            clear hr6 hb6 hg6 ho6
            go_wp2_with fail
            go_roundw
            case rel => exact ⟨j + 1, by omega, by go_num, HRF, HBF⟩
            case measure => simp [intOf]; omega
        · obtain rfl : n = j := by omega
          have HRM : Hid (SRow wr w.heap.size _ (joinS xs)) := Lib.hid (by have := HR.out; rw [List.take_of_length_le (by omega)] at this; exact this)
          have hml := joinS_le xs
          have HNM := Lib.hid (NoMet.eq (xs := joinS xs))
          clear HR
          generalize joinS xs = M at *
          obtain ⟨am, cm, rfl, hcm, hsm⟩ := HRM.out.sat
          have HSM := Lib.hid hsm
          clear hsm
          have hmc : (M.length : Int) ≤ cm := by omega
          obtain ⟨wp, rfl⟩ : ∃ wp : World, wp = wr := ⟨_, rfl⟩
          go_wp2_with fail
          go_loopw [65] (fun i wr => ∃ j : Nat, j ≤ M.length ∧ i = .int .i64 j ∧ Hid (∀ (i k : Nat) (s t : Ses), i < j → M[i]? = some s → M[k]? = some t → k < i → metS s t = false) ∧ Hid (Below wp.heap.size wp wr)) (fun i _ => M.length - (intOf i).toNat)
          case atStart => exact ⟨0, by omega, rfl, Lib.hid (fun i k s t h => by omega), Lib.hid (Below.refl _ _)⟩
          case round =>
            obtain ⟨i, hi, rfl, HA, HC⟩ := hrel
            by_cases hli : i < M.length
            · obtain ⟨g, o1, s1, rfl, g1, z1, x0, x1, x2, x3, x4, x5⟩ := SAt.cells (HSM.out.below HC.out) hli
              have ho : o1 = 0 := by
                obtain ⟨_, _, he, _⟩ := HRM.out.open_ (by omega)
                cases he; rfl
              subst ho
              simp only [Nat.zero_add] at x0 x1 x2 x3 x4 x5
              have HG1 := Lib.hid g1
              have k1 : (i : Int) < M.length := by omega
              have k2 : (0 : Int) ≤ i := by omega
              have k3 : (i : Int) ≤ cm := by omega
              have HTK := Lib.hid ((HSM.out.below HC.out).take (i := i) (by omega))
              clear g1
              have HB1 := Lib.hid (BX.mk0 (vs := sesA s1) (T := 95) wr)
              go_upto_region 22 with fail
              change Hid (BX wr (wr.alloc (.cells #[.string (arr s1.1), .int .i64 s1.2.1, .int .i64 s1.2.2.1, .int .i64 s1.2.2.2.1, .int .i64 s1.2.2.2.2.1, .string (arr s1.2.2.2.2.2)] 95)) wr.heap.size _ _) at HB1
              generalize wr.alloc (.cells #[.string (arr s1.1), .int .i64 s1.2.1, .int .i64 s1.2.2.1, .int .i64 s1.2.2.2.1, .int .i64 s1.2.2.2.2.1, .string (arr s1.2.2.2.2.2)] 95) = wb at *
              obtain ⟨S, hS⟩ : ∃ S, S = wr.heap.size := ⟨_, rfl⟩
              rw [← hS] at HB1 ⊢
              clear hS x0 x1 x2 x3 x4 x5
              have MT := Lib.hid (fun c' => met_any s1 S wr wb HB1.out g i c' (M.take i) (HTK.out.below HB1.out.bl) (Nat.lt_of_lt_of_le z1 HB1.out.bl.size) (by omega))
              have HCB := Lib.hid (below3 HC.out HB1.out.bl)
              go_wp2_with fail
              refine (MT.out _).mono ?_
              rintro en w2 ⟨rfl, hb2⟩
              have HC2 := Lib.hid (below3 HCB.out hb2)
              clear hb2 MT
              cases hany : (M.take i).any (metS s1)
              · have HA2 : Hid (∀ (i' k : Nat) (s t : Ses), i' < i + 1 → M[i']? = some s → M[k]? = some t → k < i' → metS s t = false) := Lib.hid (fun i' k s t h1 h2 h3 h4 => by
                  rcases Nat.lt_or_ge i' i with h5 | h5
                  · exact HA.out i' k s t h5 h2 h3 h4
                  · have : i' = i := by omega
                    subst this
                    rw [HG1.out] at h2; cases h2
                    have hk : (M.take i')[k]? = some t := by rw [List.getElem?_take, if_pos h4]; exact h3
                    have := List.any_eq_false.1 hany t (List.mem_of_getElem? hk)
                    simpa using this)
                clear hany
                go_wp2_with fail
                go_roundw
                case rel => exact ⟨i + 1, by omega, by go_num, HA2, HC2⟩
                case measure => simp [intOf]; omega
              · have HF : Hid (nrmS m xs = (11, [])) := Lib.hid (by
                  obtain ⟨t, ht, hm⟩ := List.any_eq_true.1 hany
                  obtain ⟨k, hk, rfl⟩ := List.getElem_of_mem ht
                  rw [List.length_take] at hk
                  have hk2 : M[k]? = some (M.take i)[k] := by rw [List.getElem_take]; exact List.getElem?_eq_getElem (by omega)
                  rw [HV2.out, if_pos (not_nomet HG1.out hk2 (by omega) hm)])
                clear hany
                go_wp2_with fail
                go_ret2
                exact ResS.err HF.out (below3 HB.out HC2.out)
            · obtain rfl : i = M.length := by omega
              have HNOM : Hid (NoMet M) := Lib.hid (nomet_of (fun i k s t h1 h2 h3 => HA.out i k s t (List.getElem?_eq_some_iff.1 h1).1 h1 h2 h3))
              have HV3 : Hid (nrmS m xs = if 96 < M.length then (2, []) else (0, srtS M)) := Lib.hid (by rw [HV2.out, if_neg (fun h => h HNOM.out)])
              have HB9 := Lib.hid (below3 HB.out HC.out)
              by_cases hbig : 96 < M.length
              · have HF : Hid (nrmS m xs = (2, [])) := Lib.hid (by rw [HV3.out, if_pos hbig])
                go_wp2_with fail
                go_ret2
                exact ResS.err HF.out HB9.out
              have HF : Hid (nrmS m xs = (0, srtS M)) := Lib.hid (by rw [HV3.out, if_neg hbig])
              have SO := Lib.hid (sorted_any w wr HB9.out HT.out _ M (HRM.out.below HC.out) (by omega))
              have HEQ := Lib.hid (fun (ys : List Ses) (h1 : ys.Perm M) (h2 : ys.Pairwise (fun a b => ltP b a = false)) => srt_unique h1 h2 (HNM.out HNOM.out HW.out))
              clear HV2 HV3 HA
              go_wp2_with fail
              refine SO.out.mono ?_
              rintro en w4 ⟨rfl, ys, h1, h2, h3, h4⟩
              have H3 := Lib.hid h3
              have H4 := Lib.hid h4
              have HY := Lib.hid (HEQ.out ys h1 h2)
              clear h1 h2 h3 h4 SO
              go_wp2_with fail
              go_ret2
              exact ResS.mk HF.out (by rw [← HY.out]; exact H3.out) H4.out
end Go.Proofs.YtihbpggbpapcfaaGreatDoor
