/- Texts V67, V68, V69, V37, joined: walks and laws. -/
import Derived.Laws.IdiomStrings
import Derived.Test.YtcifdllbnbhcdaaGreatDoorMV06
import Derived.Test.YtcifdllbnbhcdaaGreatDoorMV08
set_option linter.unusedSimpArgs false
set_option linter.unusedVariables false
namespace Go.Proofs.YtcifdllbnbhcdaaGreatDoor
open Go.RowKit
theorem pickS_le {l : List Ses} {cs : List Chg} {N : Nat} (h : l.length ≤ N) (hc : ∀ c ∈ cs, c.2.2.length ≤ N) (k : L8) : (pickS l cs k).length ≤ N := by
  unfold pickS
  split
  · next x hx => exact hc x (List.mem_of_find?_eq_some hx)
  · exact Nat.le_trans (ofS_len _ _) h
theorem pickS_sok {l : List Ses} {cs : List Chg} (h : SOk l) (hc : ∀ c ∈ cs, SOk c.2.2) (k : L8) : SOk (pickS l cs k) := by
  unfold pickS
  split
  · next x hx => exact hc x (List.mem_of_find?_eq_some hx)
  · exact fun s hs => h s (List.mem_filter.1 hs).1
theorem pickS_some {l : List Ses} {cs : List Chg} {k : L8} {x : Chg} (h : cs.find? (fun x => decide (x.1 = k)) = some x) : pickS l cs k = x.2.2 := by unfold pickS; rw [h]
theorem pickS_none {l : List Ses} {cs : List Chg} {k : L8} (h : cs.find? (fun x => decide (x.1 = k)) = none) : pickS l cs k = ofS l k := by unfold pickS; rw [h]
set_option maxRecDepth 100000 in
set_option maxHeartbeats 8000000 in
theorem apply_any (a : Option Addr) (n c : Nat) (l : List Ses) (b : Option Addr) (n' c' : Nat) (cs : List Chg) (m : Int) (w : World) (hx : SAt w a n l) (hs : SOk l) (hy : HAt w b n' cs) (hs' : ∀ c ∈ cs, SOk c.2.2) (hn' : n' ≤ 1000000) (hfl : (cs.flatMap (·.2.2)).length ≤ 1000000) (hT : Tz w) (hc : n ≤ c) :
    Calls Tryz.prog 318 #[.slice a n c, .slice b n' c', .int .i64 m] w (ResS (appS m l cs) w) := by
  have HX := Lib.hid hx
  have HY := Lib.hid hy
  have HS := Lib.hid hs
  have HS' := Lib.hid hs'
  have HT := Lib.hid hT
  have V1 := Lib.hid (fun W (h : Below w.heap.size w W) => valid_any a n c l m W (hx.below h) hs (hT.below h) hc)
  have P1 := Lib.hid (fun h => vld_parts (xs := l) (n := m) h)
  have HAF := Lib.hid (fun c hc => Nat.le_trans (flat_mem_le (cs := cs) c hc) hfl)
  have hlx := hx.1
  have hly := hy.len.1
  have HV : Hid (appS m l cs = if vldS l m ≠ 0 then (vldS l m, []) else if ordC none cs = false then (63, []) else if chgE l cs ≠ 0 then (chgE l cs, []) else if vldS ((clsL (clsC cs ++ clsS l)).flatMap (pickS l cs)) m ≠ 0 then (vldS ((clsL (clsC cs ++ clsS l)).flatMap (pickS l cs)) m, []) else (0, (clsL (clsC cs ++ clsS l)).flatMap (pickS l cs))) := Lib.hid rfl
  clear hx hy hs hs' hT
  generalize vldS l m = e1 at *
  go_enter Tryz.func318, Tryz.ntmps318
  go_wp2_with fail
  refine (V1.out _ (Below.refl _ _)).mono ?_
  rintro en w1 ⟨rfl, hb1⟩
  have HB1 := Lib.hid hb1
  clear hb1
  by_cases hz : e1 = 0
  rotate_left
  · have HF : Hid (appS m l cs = (e1, [])) := Lib.hid (by rw [HV.out, if_pos hz])
    have hd : (e1 != 0) = true := by simpa using hz
    clear hz
    go_wp2_with fail
    go_ret2
    exact ResS.err HF.out HB1.out
  have p1 := P1.out hz
  have hd : (e1 != 0) = false := by simpa using hz
  have HV1 : Hid (appS m l cs = if ordC none cs = false then (63, []) else if chgE l cs ≠ 0 then (chgE l cs, []) else if vldS ((clsL (clsC cs ++ clsS l)).flatMap (pickS l cs)) m ≠ 0 then (vldS ((clsL (clsC cs ++ clsS l)).flatMap (pickS l cs)) m, []) else (0, (clsL (clsC cs ++ clsS l)).flatMap (pickS l cs))) := Lib.hid (by rw [HV.out, if_neg (by simpa using hz)])
  obtain ⟨_, l1, _⟩ := p1
  clear hz HV P1 V1
  have OC := Lib.hid (ordC_any b n' c' cs w1 (HY.out.below HB1.out))
  go_wp2_with fail
  refine OC.out.mono ?_
  rintro en w2 ⟨rfl, hb2⟩
  have HB2 := Lib.hid (below3 HB1.out hb2)
  clear hb2 OC
  cases hoc : ordC none cs
  · have HF : Hid (appS m l cs = (63, [])) := Lib.hid (by rw [HV1.out, if_pos hoc])
    clear hoc
    go_wp2_with fail
    go_ret2
    exact ResS.err HF.out HB2.out
  have HV2 : Hid (appS m l cs = if chgE l cs ≠ 0 then (chgE l cs, []) else if vldS ((clsL (clsC cs ++ clsS l)).flatMap (pickS l cs)) m ≠ 0 then (vldS ((clsL (clsC cs ++ clsS l)).flatMap (pickS l cs)) m, []) else (0, (clsL (clsC cs ++ clsS l)).flatMap (pickS l cs))) := Lib.hid (by rw [HV1.out, if_neg (by rw [hoc]; simp)])
  clear hoc HV1
  have HX2 := Lib.hid (HX.out.below HB2.out)
  have HY2 := Lib.hid (HY.out.below HB2.out)
  go_wp2_with fail
  go_loopw [28] (fun i wr => ∃ j : Nat, j ≤ n' ∧ i = .int .i64 j ∧ Hid (chgE l (cs.drop j) = chgE l cs) ∧ Hid (Below w2.heap.size w2 wr)) (fun i _ => n' - (intOf i).toNat)
  case atStart => exact ⟨0, by omega, rfl, Lib.hid rfl, Lib.hid (Below.refl _ _)⟩
  case round =>
    obtain ⟨j, hj, rfl, HC, HB⟩ := hrel
    by_cases hlt : j < n'
    · obtain ⟨b1, o1, x, p, q, rfl, g1, z1, x0, x1, x2, sp, sq⟩ := HAt.cells (HY2.out.below HB.out) hlt
      have HD := Lib.hid (chgE_drop (l := l) g1)
      have hmem := List.mem_of_getElem? g1
      have q1 : (j : Int) < n' := by omega
      have q2 : (0 : Int) ≤ (j : Int) := by omega
      have HB1x := Lib.hid (BX.mk0 (vs := chgA x.1 p q) (T := 161) wr)
      have SPr := Lib.hid sp
      have SQr := Lib.hid sq
      have hql : q.2.1 ≤ 1000000 := by rw [← sq.2.1]; exact HAF.out x hmem
      clear g1 hmem sp sq
      go_upto_region 9 with fail
      change Hid (BX wr (wr.alloc (.cells #[.string (arr x.1), .slice p.1 p.2.1 p.2.2, .slice q.1 q.2.1 q.2.2] 161)) _ _ _) at HB1x
      generalize wr.alloc (.cells #[.string (arr x.1), .slice p.1 p.2.1 p.2.2, .slice q.1 q.2.1 q.2.2] 161) = wb at *
      obtain ⟨S, hS⟩ : ∃ S, S = wr.heap.size := ⟨_, rfl⟩
      rw [← hS] at HB1x ⊢
      clear hS x0 x1 x2
      obtain ⟨⟨x0, x1, x2⟩, _⟩ := HB1x.out.chg
      have HBB := Lib.hid (below3 HB.out HB1x.out.bl)
      have SP := Lib.hid (fun W (h : Below wb.heap.size wb W) => (SPr.out.below (below3 HB1x.out.bl h)).2)
      have SQ := Lib.hid (fun W (h : Below wb.heap.size wb W) => (SQr.out.below (below3 HB1x.out.bl h)).2)
      have xp0 := x0; have xp1 := x1; have xp2 := x2
      have OA := Lib.hid (fun W (h : Below wb.heap.size wb W) => of_any a n c l x.1 W (HX2.out.below (below3 HBB.out h)) (by omega))
      have OB := Lib.hid (fun W (h : Below wb.heap.size wb W) => of_any q.1 q.2.1 q.2.2 x.2.2 x.1 W (SQ.out W h) hql)
      have BE := Lib.hid (bel_drew0 wb)
      have BR := Lib.hid (Below.refl wb.heap.size wb)
      have SM := Lib.hid (fun (A : Option Addr) (N C : Nat) (Z : List Ses) (W : World) (hA : SAt W A N Z) (h : Below wb.heap.size wb W) => equalq_any p.1 p.2.1 p.2.2 A N C x.2.1 Z W (SP.out W h) hA)
      go_cut [39] (fun s wx => s = .bool (!decide (x.2.1 = ofS l x.1)) ∧ Below wb.heap.size wb wx)
      case first =>
        generalize ofS l x.1 = O1 at *
        go_region_held3 (fun w' => w'.cell? ⟨S, 0, none⟩ = some (.string (arr x.1)) ∧ w'.cell? ⟨S, 1, none⟩ = some (.slice p.1 p.2.1 p.2.2)) (first | (with_reducible exact ⟨x0, x1⟩) | go_keep) (first | (go_at_call 332; refine (OA.out _ (by first | with_reducible exact BR.out | with_reducible exact BE.out)).mono ?_; rintro e9 w9 ⟨v9, rfl, hr9, hb9⟩; have BQ : Below wb.heap.size wb w9 := (by first | with_reducible exact hb9 | with_reducible exact below3 BE.out hb9); obtain ⟨a9, c9, rfl, hc9, hs9⟩ := SRow.sat hr9; have HS9 := Lib.hid hs9; have x0 := below_cell9 BQ xp0; have x1 := below_cell9 BQ xp1; clear hr9 hb9 hs9) | (go_at_call 186; refine (SM.out _ _ _ _ _ HS9.out BQ).mono ?_; rintro e8 w8 ⟨rfl, hq8⟩; have BP := below3 BQ (drew_bel hq8); have x0 := below_cell9 BP xp0; have x1 := below_cell9 BP xp1; clear hq8))
        all_goals (
          go_wp2_with fail
          go_meet
          exact ⟨rfl, BP⟩)
      case rest =>
        obtain ⟨rfl, hbz⟩ := hcut
        have HB3 := Lib.hid (below3 HBB.out hbz)
        have x0 := below_cell9 hbz xp0
        have x2 := below_cell9 hbz xp2
        have HBZ := Lib.hid hbz
        clear hbz x1 xp0 xp1 xp2
        by_cases he : x.2.1 = ofS l x.1
        rotate_left
        · have HF : Hid (appS m l cs = (62, [])) := Lib.hid (by
            have : chgE l cs = 62 := by rw [← HC.out, HD.out, if_pos he]
            rw [HV2.out, this]; rfl)
          have hdd : decide (x.2.1 = ofS l x.1) = false := decide_eq_false he
          rw [hdd]
          clear he hdd
          go_wp2_with fail
          go_ret2
          exact ResS.err HF.out (below3 HB2.out HB3.out)
        have hdd : decide (x.2.1 = ofS l x.1) = true := decide_eq_true he
        rw [hdd]
        have HD2 : Hid (chgE l (cs.drop j) = if (ofS x.2.2 x.1).length ≠ x.2.2.length then 1 else chgE l (cs.drop (j + 1))) := Lib.hid (by rw [HD.out, if_neg (by simpa using he)])
        have HQL : Hid (x.2.2.length = q.2.1) := Lib.hid (SQ.out wb BR.out).1
        clear he hdd HD
        obtain ⟨wv, rfl⟩ : ∃ wv : World, wv = wc := ⟨_, rfl⟩
        have xp0 := x0; have xp2 := x2
        have BE2 := Lib.hid (bel_drew0 wv)
        have BR2 := Lib.hid (Below.refl wv.heap.size wv)
        have hol := ofS_len x.2.2 x.1
        have hol2 : (ofS x.2.2 x.1).length ≤ 1000000 := by have := HQL.out; omega
        clear hol
        go_upto_region 11 with fail
        go_cut [49] (fun s wx => s = .bool (((ofS x.2.2 x.1).length : Int) != (q.2.1 : Int)) ∧ Below wv.heap.size wv wx)
        case first =>
          generalize ofS x.2.2 x.1 = Y1 at *
          go_region_held3 (fun w' => w'.cell? ⟨S, 0, none⟩ = some (.string (arr x.1)) ∧ w'.cell? ⟨S, 2, none⟩ = some (.slice q.1 q.2.1 q.2.2)) (first | (with_reducible exact ⟨x0, x2⟩) | go_keep) ((go_at_call 332; refine (OB.out _ (by first | with_reducible exact HBZ.out | with_reducible exact below3 HBZ.out BE2.out)).mono ?_; rintro e9 w9 ⟨v9, rfl, hr9, hb9⟩; have BQ : Below wv.heap.size wv w9 := (by first | with_reducible exact hb9 | with_reducible exact below3 BE2.out hb9); obtain ⟨a9, c9, rfl, hc9, hs9⟩ := SRow.sat hr9; have x0 := below_cell9 BQ xp0; have x2 := below_cell9 BQ xp2; clear hr9 hb9 hs9))
          all_goals (
            go_wp2_with fail
            go_meet
            exact ⟨rfl, by assumption⟩)
        case rest =>
          obtain ⟨rfl, hbz⟩ := hcut
          have HB4 := Lib.hid (below3 HB3.out hbz)
          clear hbz
          by_cases hle : (ofS x.2.2 x.1).length = x.2.2.length
          · have hd3 : (((ofS x.2.2 x.1).length : Int) != (q.2.1 : Int)) = false := by
              have := HQL.out
              rw [hle, this]; simp
            have HC2 : Hid (chgE l (cs.drop (j + 1)) = chgE l cs) := Lib.hid (by rw [← HC.out, HD2.out, if_neg (by simpa using hle)])
            rw [hd3]
            clear hd3 hle
            go_wp2_with fail
            go_roundw
            case rel => exact ⟨j + 1, by omega, by go_num, HC2, HB4⟩
            case measure => simp [intOf]; omega
          · have hd3 : (((ofS x.2.2 x.1).length : Int) != (q.2.1 : Int)) = true := by
              have := HQL.out
              rw [bne_iff_ne]; omega
            have HF : Hid (appS m l cs = (1, [])) := Lib.hid (by
              have : chgE l cs = 1 := by rw [← HC.out, HD2.out, if_pos hle]
              rw [HV2.out, this]; rfl)
            rw [hd3]
            clear hd3 hle
            go_wp2_with fail
            go_ret2
            exact ResS.err HF.out (below3 HB2.out HB4.out)
    · obtain rfl : n' = j := by omega
      have h0 : chgE l cs = 0 := by rw [← HC.out, List.drop_eq_nil_of_le (by omega), chgE]
      have HV3 : Hid (appS m l cs = if vldS ((clsL (clsC cs ++ clsS l)).flatMap (pickS l cs)) m ≠ 0 then (vldS ((clsL (clsC cs ++ clsS l)).flatMap (pickS l cs)) m, []) else (0, (clsL (clsC cs ++ clsS l)).flatMap (pickS l cs))) := Lib.hid (by rw [HV2.out, if_neg (by simpa using h0)])
      have HBO := Lib.hid (below3 HB2.out HB.out)
      clear h0 HV2 HC HX2 HY2
      obtain ⟨wo, rfl⟩ : ∃ wo : World, wo = wr := ⟨_, rfl⟩
      clear HB
      have HBL := Lib.hid (HBO.out.alloc HBO.out.size (.cells #[.slice a n c] 66))
      have HLL : Hid (LLAt (wo.alloc (.cells #[.slice a n c] 66)) (some ⟨wo.heap.size, 0, none⟩) 1 [l]) := Lib.hid ⟨[(a, n, c)], KAt.news (f := slC) (k := 1) (fun _ => rfl) wo [(a, n, c)] _ (by simp), rfl, fun j x y h1 h2 => by
        match j with
        | 0 => simp at h1 h2; subst h1; subst h2; exact ⟨hc, HX.out.below HBL.out⟩
        | j + 1 => simp at h1⟩
      have CL := Lib.hid (classes_any b n' c' cs (some ⟨wo.heap.size, 0, none⟩) 1 1 [l] (wo.alloc (.cells #[.slice a n c] 66)) (HY.out.below HBL.out) HLL.out (by omega) (by omega) (fun l' hl => by
        simp at hl
        subst hl; omega))
      rw [show clsL (clsC cs ++ [l].flatMap clsS) = clsL (clsC cs ++ clsS l) by simp] at CL
      have hkl : (clsL (clsC cs ++ clsS l)).length ≤ 1000096 := by
        have := clsL_le (clsC cs ++ clsS l)
        rw [List.length_append] at this
        unfold clsC clsS at this ⊢
        simp only [List.length_map] at this
        omega
      have HPK := Lib.hid (fun k => pickS_le (l := l) (cs := cs) (N := 1000000) (by omega) HAF.out k)
      have HPS := Lib.hid (fun k => pickS_sok (l := l) (cs := cs) HS.out HS'.out k)
      generalize clsL (clsC cs ++ clsS l) = K at *
      go_wp2_with fail
      refine CL.out.mono ?_
      rintro en w5 ⟨v5, rfl, hr5, hb5⟩
      obtain ⟨a5, c5, rfl, hc5, hs5⟩ := KRow.at_ encStr hr5
      have HK5 := Lib.hid hs5
      have HB5 := Lib.hid (below3 HBL.out hb5)
      have HX5 := Lib.hid (HX.out.below HB5.out)
      have HY5 := Lib.hid (HY.out.below HB5.out)
      clear hr5 hb5 hs5 CL HLL HBL
      generalize hp : K.length = p at *
      have HP := Lib.hid hp
      clear hp
      go_wp2_with fail
      go_loopw [11, 56] (fun v i wr => ∃ j : Nat, j ≤ p ∧ i = .int .i64 j ∧ Hid (SRow wr w5.heap.size v ((K.take j).flatMap (pickS l cs))) ∧ Hid (Below w5.heap.size w5 wr)) (fun _ i _ => p - (intOf i).toNat)
      case atStart => exact ⟨0, by omega, rfl, Lib.hid (KRow.nil _ _ _ _ _), Lib.hid (Below.refl _ _)⟩
      case round =>
        obtain ⟨j, hj, rfl, HR, HB⟩ := hrel
        by_cases hlt : j < p
        · obtain ⟨b2, o2, k1, rfl, g1, z1, x0⟩ := CAt.cells (HK5.out.below HB.out) hlt
          have HT := Lib.hid (flat_take (pickS l cs) g1)
          have hfl3 := flat_len_mul (pickS l cs) 1000000 HPK.out (K.take j)
          rw [List.length_take] at hfl3
          have hjk : ((K.take j).flatMap (pickS l cs)).length ≤ j * 1000000 := Nat.le_trans hfl3 (Nat.mul_le_mul_right _ (by omega))
          have q1 : (j : Int) < p := by omega
          have q2 : (0 : Int) ≤ (j : Int) := by omega
          have hnk := HPK.out k1
          clear g1 hfl3
          have FN := Lib.hid (find_any b n' c' cs k1 wr (HY5.out.below HB.out))
          have HPN := Lib.hid (pickS_none (l := l) (cs := cs) (k := k1))
          have HPO := Lib.hid (fun x => pickS_some (l := l) (cs := cs) (k := k1) (x := x))
          generalize (K.take j).flatMap (pickS l cs) = L at *
          generalize pickS l cs k1 = PK at *
          go_wp2_with fail
          refine FN.out.mono ?_
          rintro en w6 ⟨kx, p', q', ok, rfl, hb6, hok⟩
          have HOK := Lib.hid hok
          have HR6 := Lib.hid (row_below HR.out hb6)
          have HB6 := Lib.hid (below3 HB.out hb6)
          clear hb6 hok FN x0
          have HBx := Lib.hid (BX.mk0 (vs := chgA kx p' q') (T := 161) w6)
          go_upto_region 19 with fail
          change Hid (BX w6 (w6.alloc (.cells #[.string (arr kx), .slice p'.1 p'.2.1 p'.2.2, .slice q'.1 q'.2.1 q'.2.2] 161)) _ _ _) at HBx
          generalize w6.alloc (.cells #[.string (arr kx), .slice p'.1 p'.2.1 p'.2.2, .slice q'.1 q'.2.1 q'.2.2] 161) = w7 at *
          obtain ⟨S, hS⟩ : ∃ S, S = w6.heap.size := ⟨_, rfl⟩
          rw [← hS] at HBx ⊢
          clear hS
          obtain ⟨⟨_, _, y2⟩, _⟩ := HBx.out.chg
          have HR7 := Lib.hid (row_below HR6.out HBx.out.bl)
          have HB7 := Lib.hid (below3 HB6.out HBx.out.bl)
          have hbs := HB7.out.size
          rcases HOK.out with ⟨rfl, hnf⟩ | ⟨rfl, x, hf, hmx, hsp, hsq⟩
          · have HPE := Lib.hid (HPN.out hnf)
            have hol := ofS_len l k1
            have OA := Lib.hid (of_any a n c l k1 w7 (HX5.out.below HB7.out) (by omega))
            rw [← HPE.out] at OA
            clear hnf HOK
            go_wp2_with fail
            refine OA.out.mono ?_
            rintro en w8 ⟨v8, rfl, hr8, hb8⟩
            obtain ⟨a8, c8, rfl, hc8, hs8⟩ := SRow.sat hr8
            have HS8 := Lib.hid hs8
            have HR8 := Lib.hid (row_below HR7.out hb8)
            have HB8 := Lib.hid (below3 HB7.out hb8)
            have hbs8 := HB8.out.size
            clear hr8 hb8 hs8 OA
            go_wp2_with (at_builtin; refine wpList_app elemSes encSes rfl _ _ rfl w5.heap.size _ L rfl HR8.out _ _ _ PK rfl HS8.out (by omega) hbs8 ?_)
            intro v9 w9 hr9 hb9 hg9 ho9
            have HRF : Hid (SRow w9 w5.heap.size v9 ((K.take (j + 1)).flatMap (pickS l cs))) := Lib.hid (by rw [HT.out]; exact hr9)
            have HBF := Lib.hid (HB8.out.trans hb9)
            clear hr9 hb9 hg9 ho9
            go_wp2_with fail
            go_roundw
            case rel => exact ⟨j + 1, by omega, by go_num, HRF, HBF⟩
            case measure => simp [intOf]; omega
          · have HPE := Lib.hid (HPO.out x hf)
            have SQ7 := Lib.hid ((hsq.below HBx.out.bl).2)
            rw [← HPE.out] at SQ7
            have hqn : PK.length = q'.2.1 := SQ7.out.1
            clear hf hmx hsp hsq HOK
            go_wp2_with (at_builtin; refine wpList_app elemSes encSes rfl _ _ rfl w5.heap.size _ L rfl HR7.out _ _ _ PK rfl SQ7.out (by omega) hbs ?_)
            intro v9 w9 hr9 hb9 hg9 ho9
            have HRF : Hid (SRow w9 w5.heap.size v9 ((K.take (j + 1)).flatMap (pickS l cs))) := Lib.hid (by rw [HT.out]; exact hr9)
            have HBF := Lib.hid (HB7.out.trans hb9)
            clear hr9 hb9 hg9 ho9
            go_wp2_with fail
            go_roundw
            case rel => exact ⟨j + 1, by omega, by go_num, HRF, HBF⟩
            case measure => simp [intOf]; omega
        · obtain rfl : p = j := by omega
          have HRK : Hid (SRow wr w5.heap.size _ (K.flatMap (pickS l cs))) := Lib.hid (by have := HR.out; rw [List.take_of_length_le (by have := HP.out; omega)] at this; exact this)
          have HSK : Hid (SOk (K.flatMap (pickS l cs))) := Lib.hid (fun s hs => by
            obtain ⟨k, _, hk⟩ := List.mem_flatMap.1 hs
            exact HPS.out k s hk)
          have HB9 := Lib.hid (below3 HB5.out HB.out)
          have hz9 := HB5.out.size
          clear HR
          generalize K.flatMap (pickS l cs) = X at *
          obtain ⟨a9, c9, rfl, hc9, hs9⟩ := SRow.sat HRK.out
          have VX := Lib.hid (valid_any a9 X.length c9 X m wr hs9 HSK.out (HT.out.below HB9.out) hc9)
          clear hs9
          generalize vldS X m = ex at *
          go_wp2_with fail
          refine VX.out.mono ?_
          rintro en w10 ⟨rfl, hb10⟩
          have HRX := Lib.hid (row_base (row_below HRK.out hb10) hz9)
          have HBX := Lib.hid (below3 HB9.out hb10)
          clear hb10 VX
          by_cases hex : ex = 0
          · have HF : Hid (appS m l cs = (0, X)) := Lib.hid (by rw [HV3.out, if_neg (by simpa using hex)])
            have hd : (ex != 0) = false := by simpa using hex
            clear hex
            go_wp2_with fail
            go_ret2
            exact ResS.mk HF.out HRX.out HBX.out
          · have HF : Hid (appS m l cs = (ex, [])) := Lib.hid (by rw [HV3.out, if_pos hex])
            have hd : (ex != 0) = true := by simpa using hex
            clear hex
            go_wp2_with fail
            go_ret2
            exact ResS.err HF.out HBX.out
end Go.Proofs.YtcifdllbnbhcdaaGreatDoor
namespace Go.Proofs.YtcifdllbnbhcdaaGreatDoor
open Go.RowKit
theorem KRow.empty {α : Type} (f : α → List Value) (k : Nat) (e : TypeId) (w : World) : KRow f k e (w.alloc (.cells #[] e)) w.heap.size (.slice (some ⟨w.heap.size, 0, none⟩) 0 0) [] :=
  ⟨by simp, Or.inr ⟨w.heap.size, 0, #[], rfl, Nat.le_refl _, heap_alloc_new w _, Nat.le_refl _, Nat.zero_le _, by simp, by simp⟩⟩
set_option maxHeartbeats 2000000 in
theorem clone_any (a : Option Addr) (n c : Nat) (xs : List Ses) (w : World) (hx : SAt w a n xs) (hn : n * 64 ≤ 140737488355328) :
    Calls Tryz.prog 67 #[.slice a n c] w (fun e w' => ∃ v, e = .returned v ∧ SRow w' w.heap.size v xs ∧ Below w.heap.size w w') := by
  have hl := hx.1
  have HX := Lib.hid hx
  cases a with
  | none =>
    have h0 : xs = [] := by
      rcases hx.2.2 with h | ⟨_, _, e, _⟩
      · exact List.eq_nil_of_length_eq_zero (by omega)
      · cases e
    subst h0
    refine (AnyE.slices_Clone_nil Tryz.laysCloneSes n c w).mono ?_
    rintro e w' ⟨rfl, rfl⟩
    exact ⟨_, rfl, World.ownsRow_nil _ _ _ _, Below.refl _ _⟩
  | some ad =>
    have hq : ∀ w, (binOp .eql 66 (.slice (some ad) n c) (.slice none 0 0)).run Tryz.prog w = .ok (.bool false) w := fun w => Lib.run_eql_slice_nil w _ _ (some ad) n c 0 0 Tryz.underlying66
    have HE := Lib.hid (KRow.empty sesC 6 43 w)
    have HBA := Lib.hid ((Below.refl w.heap.size w).alloc (Nat.le_refl _) (.cells #[] 43))
    clear hx
    go_enter Tryz.func67, Tryz.ntmps67
    go_wp2_with (at_builtin; refine wpList_app elemSes encSes rfl _ _ rfl w.heap.size _ [] rfl HE.out _ _ _ xs rfl (HX.out.below HBA.out) (by simp; omega) (by simp) ?_)
    intro v6 w6 hr6 hb6 hg6 ho6
    have HR := Lib.hid hr6
    have HB := Lib.hid (HBA.out.trans hb6)
    clear hr6 hb6 hg6 ho6
    go_wp2_with fail
    go_ret
    exact ⟨v6, rfl, HR.out, HB.out⟩
theorem wpList_appnil {t e : TypeId} {k bytes : Nat} (hE : ElemT t e k bytes) {w : World} {ops : Array Oper} {rest : List Oper} {o : Oper} {a : Act} {Q : Exit → Act → World → Prop} (hgd : o.guard = none) (s x : Operand)
    (ho : o.op = .call { callee := .builtin .append, args := #[s, x], argTypes := #[t, t] }) (A : Option Addr) (n c : Nat) (hs : a.eval s = .slice A n c) (hx : a.eval x = .slice none 0 0) (hc : n ≤ c)
    (h : wpList Tryz.prog ops Q rest (a.put o.dst (.slice A n c)) w) : wpList Tryz.prog ops Q (o :: rest) a w := by
  obtain ⟨i, z, ht, hi, hz, hs', hb, hzs⟩ := hE.ex
  have hrun : (Builtin.append_ #[t, t] o.type #[.slice A n c, .slice none 0 0]).run Tryz.prog w = .ok (.slice A n c) w := by
    cases A <;> simp [Builtin.append_, run_underlying ht, sizeOf, typeInfo, hi, Builtin.lenOf, Builtin.firstCells, hc, storeCells]
  refine wpList_plain hgd fun _ hK => ?_
  unfold Oper.wp execOp
  simp only [ho, resolve, invoke, builtin, Sem.run_bind, Sem.run_pure, Result.andThen_ok, List.map_toArray, List.map_cons, List.map_nil, hs, hx, hrun]
  exact hK _ _ h
theorem clip_any (a : Option Addr) (n c : Nat) (w : World) (hc : n ≤ c) (hn : n ≤ 9223372036854775807) : Calls Tryz.prog 409 #[.slice a n c] w (RetS (.slice a n n) w) := by
  have h1 : (n : Int) ≤ c := by omega
  go_enter Tryz.func409, Tryz.ntmps409
  go_wp2
  go_ret
  exact ⟨rfl, rfl⟩
end Go.Proofs.YtcifdllbnbhcdaaGreatDoor
namespace Go.Proofs.YtcifdllbnbhcdaaGreatDoor
open Go.RowKit
theorem BX.keep3 {w0 w : World} {R R2 : Nat} {vs : Array Value} {T : TypeId} (h : BX w0 w R vs T) (hne : R2 ≠ R) (hlo : w0.heap.size ≤ R2) (u0 u1 u2 : Value) : BX w0 (((w.setCell ⟨R2, 0, none⟩ u0).setCell ⟨R2, 1, none⟩ u1).setCell ⟨R2, 2, none⟩ u2) R vs T := by
  have hx : ∀ (W : World) (i : Nat) (u : Value), BX w0 W R vs T → BX w0 (W.setCell ⟨R2, i, none⟩ u) R vs T := fun W i u hW => ⟨by rw [heap_setCell_other _ _ _ _ (Ne.symm hne)]; exact hW.hp, hW.lo, hW.bl.setCell (p := ⟨R2, i, none⟩) hlo u⟩
  exact hx _ _ _ (hx _ _ _ (hx _ _ _ h))
def ErrO (x : Int) (w : World) (e : Ending) (w' : World) : Prop := ∃ v, e = .returned (.tuple #[v, .int .i64 x]) ∧ Below w.heap.size w w'
theorem ErrO.mk {w w' : World} {v : Value} {x : Int} (hb : Below w.heap.size w w') : ErrO x w (.returned (.tuple #[v, .int .i64 x])) w' := ⟨_, rfl, hb⟩
def ordE (cs : List Chg) : Int := if ordC none cs = true then 0 else 63
theorem LLAt.nil (w : World) : LLAt w none 0 [] := ⟨[], KAt.nil _ _ _, All2.nil _⟩
set_option maxRecDepth 100000 in
set_option maxHeartbeats 8000000 in
theorem join_any (a : Option Addr) (n c : Nat) (cs : List Chg) (w : World) (hx : HAt w a n cs) (hn : n ≤ 1000000) (hc : n ≤ c) (hz : ∀ c ∈ cs, c.2.1.length * 64 ≤ 140737488355328 ∧ c.2.2.length * 64 ≤ 140737488355328) :
    Calls Tryz.prog 380 #[.slice a n c, .slice none 0 0] w (ErrO (ordE cs) w) := by
  have hlx := hx.len.1
  have HX := Lib.hid hx
  have HZ := Lib.hid hz
  have OC := Lib.hid (ordC_any a n c cs w hx)
  have ON : Hid (∀ W, Calls Tryz.prog 360 #[.slice none 0 0] W (RetB (.bool true) W)) := Lib.hid (fun W => ordC_any none 0 0 [] W (HAt.nil W))
  clear hx hz
  have HE0 : Hid (ordC none cs = true → ordE cs = 0) := Lib.hid (fun h => by unfold ordE; rw [if_pos h])
  have HE1 : Hid (ordC none cs = false → ordE cs = 63) := Lib.hid (fun h => by unfold ordE; rw [if_neg (by rw [h]; simp)])
  generalize ordC none cs = q at *
  generalize ordE cs = ee at *
  go_enter Tryz.func380, Tryz.ntmps380
  go_wp2_with fail
  refine OC.out.mono ?_
  rintro en w1 ⟨rfl, hb1⟩
  have HB1 := Lib.hid hb1
  clear hb1 OC
  cases q
  · have HEE := Lib.hid (HE1.out rfl)
    clear HE0 HE1
    go_wp2_with fail
    go_ret2
    rw [HEE.out]
    exact ErrO.mk HB1.out
  have HEE := Lib.hid (HE0.out rfl)
  clear HE0 HE1
  go_wp2_with fail
  refine (ON.out _).mono ?_
  rintro en w2 ⟨rfl, hb2⟩
  have HB2 := Lib.hid (below3 HB1.out hb2)
  clear hb2 ON
  go_wp2_with fail
  go_loopw [27] (fun i wr => ∃ j : Nat, j ≤ n ∧ i = .int .i64 j ∧ Hid (Below w.heap.size w wr)) (fun i _ => n - (intOf i).toNat)
  case atStart => exact ⟨0, by omega, rfl, HB2⟩
  case round =>
    clear HB1 HB2
    obtain ⟨j, hj, rfl, HB⟩ := hrel
    by_cases hlt : j < n
    · obtain ⟨b1, o1, x, ⟨pa, pn, pc⟩, ⟨qa, qn, qc⟩, rfl, g1, z1, x0, x1, x2, sp, sq⟩ := HAt.cells (HX.out.below HB.out) hlt
      have q1 : (j : Int) < n := by omega
      have q2 : (0 : Int) ≤ (j : Int) := by omega
      clear g1 sp sq
      have HB1 := Lib.hid (BX.mk0 (vs := chgA x.1 (pa, pn, pc) (qa, qn, qc)) (T := 161) wr)
      go_upto_region 6 with fail
      change Hid (BX wr (wr.alloc (.cells #[.string (arr x.1), .slice pa pn pc, .slice qa qn qc] 161)) _ _ _) at HB1
      generalize wr.alloc (.cells #[.string (arr x.1), .slice pa pn pc, .slice qa qn qc] 161) = wb at *
      obtain ⟨S, hS⟩ : ∃ S, S = wr.heap.size := ⟨_, rfl⟩
      rw [← hS] at HB1 ⊢
      clear hS
      clear x0 x1 x2
      obtain ⟨⟨x0, x1, x2⟩, _⟩ := HB1.out.chg
      have FN := Lib.hid (find_any none 0 0 [] x.1 wb (HAt.nil _))
      have HB2 := Lib.hid (below3 HB.out HB1.out.bl)
      go_wp2_with fail
      refine FN.out.mono ?_
      rintro en w6 ⟨kx, ⟨pa', pn', pc'⟩, ⟨qa', qn', qc'⟩, ok, rfl, hb6, hok⟩
      have hof : ok = false := by
        rcases hok with ⟨h, _⟩ | ⟨_, x', hf, _⟩
        · exact h
        · simp at hf
      subst hof
      have HB3 := Lib.hid (below3 HB2.out hb6)
      clear hb6 hok FN x0 x1 x2
      have HB5 := Lib.hid (BX.mk0 (vs := chgA kx (pa', pn', pc') (qa', qn', qc')) (T := 161) w6)
      go_upto_region 7 with fail
      change Hid (BX w6 (w6.alloc (.cells #[.string (arr kx), .slice pa' pn' pc', .slice qa' qn' qc'] 161)) _ _ _) at HB5
      generalize w6.alloc (.cells #[.string (arr kx), .slice pa' pn' pc', .slice qa' qn' qc'] 161) = w7 at *
      have HB4 := Lib.hid (below3 HB3.out HB5.out.bl)
      go_wp2_with fail
      go_roundw
      case rel => exact ⟨j + 1, by omega, by go_num, HB4⟩
      case measure => simp [intOf]; omega
    · obtain rfl : n = j := by omega
      obtain ⟨wo, rfl⟩ : ∃ wo : World, wo = wr := ⟨_, rfl⟩
      have HBO := HB
      clear HB
      have CP := Lib.hid (clip_any a n c wo hc (by omega))
      have CLS := Lib.hid (classes_any a n n cs none 0 0 [] wo (HX.out.below HBO.out) (LLAt.nil _) (by omega) (by omega) (fun l hl => by simp at hl))
      rw [show clsL (clsC cs ++ ([] : List (List Ses)).flatMap clsS) = clsL (clsC cs) by simp] at CLS
      have hkl : (clsL (clsC cs)).length ≤ 1000000 := by
        have := clsL_le (clsC cs)
        unfold clsC at this ⊢
        rw [List.length_map] at this
        omega
      have HKM : Hid (∀ k ∈ clsL (clsC cs), ∃ c ∈ cs, c.1 = k) := Lib.hid (fun k hk => by
        rw [clsL_mem] at hk
        exact List.mem_map.1 hk)
      generalize clsL (clsC cs) = K at *
      go_wp2_with fail
      refine CP.out.mono ?_
      rintro en w4 ⟨rfl, hw4⟩
      subst hw4
      clear CP
      go_wp2_with (at_builtin; refine wpList_appnil elemChg rfl _ _ rfl a n n rfl rfl (Nat.le_refl _) ?_)
      go_wp2_with fail
      refine CLS.out.mono ?_
      rintro en w5 ⟨v5, rfl, hr5, hb5⟩
      obtain ⟨a5, c5, rfl, hc5, hs5⟩ := KRow.at_ encStr hr5
      have HK5 := Lib.hid hs5
      have HB5 := Lib.hid (below3 HBO.out hb5)
      have HX5 := Lib.hid (HX.out.below HB5.out)
      clear hr5 hb5 hs5 CLS
      generalize hp : K.length = p at *
      have HP := Lib.hid hp
      clear hp
      go_wp2_with fail
      go_loopw [10, 54] (fun v i wr => ∃ j : Nat, j ≤ p ∧ i = .int .i64 j ∧ Hid (∃ rs : List RChg, KRow rchC 3 161 wr w5.heap.size v rs ∧ rs.length ≤ j) ∧ Hid (Below w5.heap.size w5 wr)) (fun _ i _ => p - (intOf i).toNat)
      case atStart => exact ⟨0, by omega, rfl, Lib.hid ⟨[], KRow.nil _ _ _ _ _, by simp⟩, Lib.hid (Below.refl _ _)⟩
      case round =>
        obtain ⟨j, hj, rfl, HR, HB⟩ := hrel
        by_cases hlt : j < p
        · obtain ⟨b2, o2, k1, rfl, g1, z1, x0⟩ := CAt.cells (HK5.out.below HB.out) hlt
          have HKC := Lib.hid (HKM.out k1 (List.mem_of_getElem? g1))
          have q1 : (j : Int) < p := by omega
          have q2 : (0 : Int) ≤ (j : Int) := by omega
          obtain ⟨rs, hrs, hrl⟩ := HR.out
          have HRS := Lib.hid hrs
          clear g1 hrs HR
          have FN := Lib.hid (find_any a n c cs k1 wr (HX5.out.below HB.out))
          go_wp2_with fail
          refine FN.out.mono ?_
          rintro en w6 ⟨kx, ⟨pa, pn, pc⟩, ⟨qa, qn, qc⟩, ok, rfl, hb6, hok⟩
          have hof : ok = true ∧ ∃ x ∈ cs, SV w6 (pa, pn, pc) x.2.1 ∧ SV w6 (qa, qn, qc) x.2.2 := by
            rcases hok with ⟨_, hf⟩ | ⟨h, x', hf, hm, hsp, hsq⟩
            · obtain ⟨c, hc, he⟩ := HKC.out
              have := List.find?_eq_none.1 hf c hc
              simp [he] at this
            · exact ⟨h, x', hm, hsp, hsq⟩
          obtain ⟨rfl, x, hm, hsp, hsq⟩ := hof
          obtain ⟨hz1, hz2⟩ := HZ.out x hm
          have HSP := Lib.hid hsp
          have HSQ := Lib.hid hsq
          obtain rfl : x.2.1.length = pn := hsp.2.1
          obtain rfl : x.2.2.length = qn := hsq.2.1
          have HB6 := Lib.hid (below3 HB.out hb6)
          have HRS := Lib.hid (row_below HRS.out hb6)
          clear hb6 hok FN hm hsp hsq x0 HKC
          have H1 := Lib.hid (BX.mk0 (vs := chgA kx (pa, x.2.1.length, pc) (qa, x.2.2.length, qc)) (T := 161) w6)
          go_upto_region 15 with fail
          change Hid (BX w6 (w6.alloc (.cells #[.string (arr kx), .slice pa x.2.1.length pc, .slice qa x.2.2.length qc] 161)) _ _ _) at H1
          generalize w6.alloc (.cells #[.string (arr kx), .slice pa x.2.1.length pc, .slice qa x.2.2.length qc] 161) = w7 at *
          obtain ⟨S1, hS⟩ : ∃ S1, S1 = w6.heap.size := ⟨_, rfl⟩
          rw [← hS] at H1 ⊢
          clear hS
          have FN := Lib.hid (find_any none 0 0 [] k1 w7 (HAt.nil _))
          go_wp2_with fail
          refine FN.out.mono ?_
          rintro en w8 ⟨ky, ⟨pa', pn', pc'⟩, ⟨qa', qn', qc'⟩, ok, rfl, hb8, hok⟩
          have hof : ok = false := by
            rcases hok with ⟨h, _⟩ | ⟨_, x', hf, _⟩
            · exact h
            · simp at hf
          subst hof
          have H1 := Lib.hid (H1.out.next hb8)
          clear hb8 hok FN
          have H2 := Lib.hid (BX.mk0 (vs := chgA ky (pa', pn', pc') (qa', qn', qc')) (T := 161) w8)
          have HS1L : Hid (S1 < w8.heap.size ∧ w6.heap.size ≤ w8.heap.size) := Lib.hid ⟨H1.out.lt, H1.out.bl.size⟩
          go_upto_region 16 with fail
          change Hid (BX w8 (w8.alloc (.cells #[.string (arr ky), .slice pa' pn' pc', .slice qa' qn' qc'] 161)) _ _ _) at H2
          generalize w8.alloc (.cells #[.string (arr ky), .slice pa' pn' pc', .slice qa' qn' qc'] 161) = w9 at *
          obtain ⟨S2, hS⟩ : ∃ S2, S2 = w8.heap.size := ⟨_, rfl⟩
          rw [← hS] at H2 ⊢
          clear hS
          have H1 := Lib.hid (H1.out.next H2.out.bl)
          have hlt1 := H1.out.lt
          have hS1 := H1.out.lo
          have hS2 : w8.heap.size ≤ S2 := H2.out.lo
          have hne : S2 ≠ S1 := by have := HS1L.out; omega
          have H2 : Hid (BX w6 w9 S2 _ _) := Lib.hid ⟨H2.out.hp, by have := HS1L.out; omega, H1.out.bl⟩
          obtain ⟨⟨x0, x1, x2⟩, _⟩ := H1.out.chg
          obtain ⟨⟨y0, y1, y2⟩, yf0, yf1, yf2⟩ := H2.out.chg
          go_upto_region 20 with fail
          have H1b := Lib.hid (H1.out.keep3 hne H2.out.lo (.string (arr kx)) (.slice pa x.2.1.length pc) (.slice qa x.2.2.length qc))
          have H2b : Hid (BX w6 _ S2 (chgA kx (pa, x.2.1.length, pc) (qa, x.2.2.length, qc)) 161) := Lib.hid (((H2.out.set 0 (.string (arr kx))).set 1 (.slice pa x.2.1.length pc)).set 2 (.slice qa x.2.2.length qc))
          generalize ((w9.setCell ⟨S2, 0, none⟩ (.string (arr kx))).setCell ⟨S2, 1, none⟩ (.slice pa x.2.1.length pc)).setCell ⟨S2, 2, none⟩ (.slice qa x.2.2.length qc) = wX at *
          clear x0 x1 x2 y0 y1 y2 yf0 yf1 yf2 H1 H2
          obtain ⟨⟨x0, x1, x2⟩, _⟩ := H1b.out.chg
          obtain ⟨⟨y0, y1, y2⟩, _⟩ := H2b.out.chg
          have EQ := Lib.hid (equalq_any pa x.2.1.length pc qa x.2.2.length qc x.2.1 x.2.2 wX (HSP.out.below H1b.out.bl).2 (HSQ.out.below H1b.out.bl).2)
          have HRX := Lib.hid (row_below HRS.out H1b.out.bl)
          have HBX := Lib.hid (below3 HB6.out H1b.out.bl)
          go_wp2_with fail
          refine EQ.out.mono ?_
          rintro en wY ⟨rfl, hqY⟩
          have hbY := drew_bel hqY
          have H1c := Lib.hid (H1b.out.next hbY)
          have H2c := Lib.hid (H2b.out.next hbY)
          have HRY := Lib.hid (row_below HRX.out hbY)
          have HBY := Lib.hid (below3 HBX.out hbY)
          clear x0 x1 x2 y0 y1 y2 hbY hqY EQ HRX HBX H1b H2b
          obtain ⟨⟨x0, xp1, x2⟩, _⟩ := H1c.out.chg
          obtain ⟨⟨y0, y1, yp2⟩, _⟩ := H2c.out.chg
          cases hdec : decide (x.2.1 = x.2.2)
          rotate_left
          · clear hdec
            go_wp2_with fail
            go_roundw
            case rel => exact ⟨j + 1, by omega, by go_num, Lib.hid ⟨rs, HRY.out, by omega⟩, HBY⟩
            case measure => simp [intOf]; omega
          · clear hdec x0 x2 y0 y1
            have x1 := xp1; have y2 := yp2
            have CNP := Lib.hid (fun W (h : Below wY.heap.size wY W) => clone_any pa x.2.1.length pc x.2.1 W ((HSP.out.below H1c.out.bl).below h).2 (by omega))
            have CNQ := Lib.hid (fun W (h : Below wY.heap.size wY W) => clone_any qa x.2.2.length qc x.2.2 W ((HSQ.out.below H1c.out.bl).below h).2 (by omega))
            have BD := Lib.hid (bel_drew0 wY)
            have HNO := Lib.hid (fun q hq => (HRS.out.lt q hq).2)
            have hlo1 := H1c.out.lo
            have hlo2 := H2c.out.lo
            have HLT1 := Lib.hid H1c.out.lt
            have HLT2 := Lib.hid H2c.out.lt
            have hbw5 := HBY.out.size
            go_upto_region 21 with fail
            go_region_held3 (fun w' => w'.cell? ⟨S1, 1, none⟩ = some (.slice pa x.2.1.length pc) ∧ w'.cell? ⟨S2, 2, none⟩ = some (.slice qa x.2.2.length qc)) (first | (with_reducible exact ⟨x1, y2⟩) | go_keep) (first | (go_at_call 67; with_reducible refine (CNP.out _ (by first | with_reducible exact BQ.out | with_reducible exact BD.out)).mono ?_; rintro e9 w9 ⟨v9, rfl, hr9, hb9⟩; have BQ : Hid (Below wY.heap.size wY w9) := Lib.hid (by first | with_reducible exact below3 BQ.out hb9 | with_reducible exact below3 BD.out hb9); obtain ⟨a9, c9, rfl, hc9, _⟩ := SRow.sat hr9; have x1 := below_cell9 BQ.out xp1; have y2 := below_cell9 BQ.out yp2; clear hr9 hb9) | (go_at_call 67; with_reducible refine (CNQ.out _ (by first | with_reducible exact BQ.out | with_reducible exact BD.out)).mono ?_; rintro e9 w9 ⟨v9, rfl, hr9, hb9⟩; have BQ : Hid (Below wY.heap.size wY w9) := Lib.hid (by first | with_reducible exact below3 BQ.out hb9 | with_reducible exact below3 BD.out hb9); obtain ⟨a8, c8, rfl, hc8, _⟩ := SRow.sat hr9; have x1 := below_cell9 BQ.out xp1; have y2 := below_cell9 BQ.out yp2; clear hr9 hb9) | (refine step_app elemChg encChg (by rfl) (.tmp 82) (.tmp 91) (by rfl) w5.heap.size _ rs (by rfl) (row_below HRY.out (below3 BQ.out ((Below.refl _ _).alloc (Nat.le_refl _) _))) _ _ _ [(k1, (a9, x.2.1.length, c9), (a8, x.2.2.length, c8))] (by rfl) (KAt.one (f := rchC) (k := 3) _ ((k1, (a9, x.2.1.length, c9), (a8, x.2.2.length, c8)) : RChg) _) (by simp <;> omega) (by have := BQ.out.size; simp; omega) ?_; intro v7 w7 hr7 hb7 hg7 ho7; have HR7 := Lib.hid hr7; have HB7 := Lib.hid ((below3 HBY.out (below3 BQ.out ((Below.refl _ _).alloc (Nat.le_refl _) _))).trans hb7); have x1 := (World.cell?_of_block (hg7.block S1 (Nat.lt_of_lt_of_le HLT1.out (below3 BQ.out ((Below.refl _ _).alloc (Nat.le_refl _) _)).size) (fun h => by have := HNO.out S1 h.symm; omega))).trans (below_cell9 (below3 BQ.out ((Below.refl _ _).alloc (Nat.le_refl _) _)) xp1); have y2 := (World.cell?_of_block (hg7.block S2 (Nat.lt_of_lt_of_le HLT2.out (below3 BQ.out ((Below.refl _ _).alloc (Nat.le_refl _) _)).size) (fun h => by have := HNO.out S2 h.symm; omega))).trans (below_cell9 (below3 BQ.out ((Below.refl _ _).alloc (Nat.le_refl _) _)) yp2); clear hr7 hb7 hg7 ho7))
            all_goals (
              have HRF : Hid (∃ rs' : List RChg, KRow rchC 3 161 _ w5.heap.size _ rs' ∧ rs'.length ≤ j + 1) := Lib.hid ⟨_, HR7.out, by simp; omega⟩
              go_wp2_with fail
              go_roundw
              case rel => exact ⟨j + 1, by omega, by go_num, HRF, HB7⟩
              case measure => simp [intOf]; omega)
        · obtain rfl : p = j := by omega
          have HBF := Lib.hid (below3 HB5.out HB.out)
          go_wp2_with fail
          go_ret2
          rw [HEE.out]
          exact ErrO.mk HBF.out
end Go.Proofs.YtcifdllbnbhcdaaGreatDoor
namespace Go.Proofs.YtcifdllbnbhcdaaGreatDoor
open Go.RowKit
theorem ofInt32 (a : Nat) (h : a < 4294967296) : (BitVec.ofInt 32 (a : Int)).toNat = a := by
  rw [BitVec.ofInt_natCast, BitVec.toNat_ofNat]; exact Nat.mod_eq_of_lt (by omega)
theorem wrap32 (a : Nat) (h : a < 4294967296) : IntKind.u32.wrap (a : Int) = (a : Int) := by
  rw [IntKind.wrap_u32]; omega
theorem xor32 (a b : Nat) (ha : a < 4294967296) (hb : b < 4294967296) : bits .xor .u32 (a : Int) (b : Int) = ((a ^^^ b : Nat) : Int) := by
  have hx : a ^^^ b < 4294967296 := Nat.xor_lt_two_pow (n := 32) (by omega) (by omega)
  show IntKind.u32.wrap ((BitVec.ofInt 32 (a : Int) ^^^ BitVec.ofInt 32 (b : Int)).toNat : Int) = _
  rw [BitVec.toNat_xor, ofInt32 a ha, ofInt32 b hb]
  exact wrap32 _ hx
theorem and32 (a : Nat) (ha : a < 4294967296) : bits .and .u32 (a : Int) 1 = ((a % 2 : Nat) : Int) := by
  show IntKind.u32.wrap ((BitVec.ofInt 32 (a : Int) &&& BitVec.ofInt 32 ((1 : Nat) : Int)).toNat : Int) = _
  rw [BitVec.toNat_and, ofInt32 a ha, ofInt32 1 (by omega), Nat.and_one_is_mod]
  exact wrap32 _ (by omega)
theorem not32 (a : Nat) (ha : a < 4294967296) : bits .xor .u32 4294967295 (a : Int) = ((4294967295 - a : Nat) : Int) := by
  rw [show (4294967295 : Int) = ((4294967295 : Nat) : Int) from rfl, xor32 4294967295 a (by omega) ha]
  congr 1
  apply Nat.eq_of_testBit_eq
  intro i
  rw [Nat.testBit_xor]
  have e : 4294967295 = 2 ^ 32 - 1 := by decide
  rw [e, Nat.testBit_two_pow_sub_one, show 2 ^ 32 - 1 - a = 2 ^ 32 - (a + 1) by omega, Nat.testBit_two_pow_sub_succ (by omega)]
  by_cases hi : i < 32
  · simp [hi]
  · have : a.testBit i = false := Nat.testBit_lt_two_pow (Nat.lt_of_lt_of_le ha (by
      have := Nat.pow_le_pow_right (n := 2) (by decide) (show 32 ≤ i by omega)
      omega))
    simp [hi, this]
theorem crcL_take {b : L8} {c j : Nat} {x : UInt8} (h : b[j]? = some x) : crcL c (b.take (j + 1)) = crcK 8 (crcL c (b.take j) ^^^ x.toNat) := by
  unfold crcL; rw [List.take_add_one, h, List.foldl_append]; rfl
set_option maxRecDepth 100000 in
set_option maxHeartbeats 2000000 in
theorem sum_any (a : Option Addr) (n c : Nat) (bs : L8) (w : World) (hx : BAt w a n bs) :
    Calls Tryz.prog 337 #[.slice a n c] w (RetS (.int .i64 (crcN bs)) w) := by
  have hl := hx.1
  have n1 := hx.2.1
  have HX := Lib.hid hx
  clear hx
  go_enter Tryz.func337, Tryz.ntmps337
  go_wp2_with fail
  go_loop [3, 9] (fun v i => ∃ (j q : Nat), j ≤ n ∧ i = .int .i64 j ∧ v = .int .u32 q ∧ q < 4294967296 ∧ Hid (crcL 4294967295 (bs.take j) = q)) (fun _ i => n - (intOf i).toNat)
  case atStart => exact ⟨0, 4294967295, by omega, rfl, rfl, by omega, Lib.hid rfl⟩
  case round =>
    obtain ⟨j, q, hj, rfl, rfl, hq, HQ⟩ := hrel
    by_cases hlt : j < n
    · obtain ⟨b1, o1, x, rfl, g1, z1, x0⟩ := BAt.cells HX.out hlt
      have HT := Lib.hid (crcL_take (c := 4294967295) g1)
      have hxl := x.toNat_lt
      have q1 : (j : Int) < n := by omega
      have q2 : (0 : Int) ≤ (j : Int) := by omega
      have hxx := xor32 q x.toNat hq (by omega)
      have hxq := xor_lt hq x
      clear g1
      rw [HQ.out] at HT
      generalize q ^^^ x.toNat = q0 at *
      go_wp2_with fail
      go_loop [3, 17] (fun v i => ∃ (k r : Nat), k ≤ 8 ∧ i = .int .i64 k ∧ v = .int .u32 r ∧ r < 4294967296 ∧ Hid (crcK k q0 = r)) (fun _ i => 8 - (intOf i).toNat)
      case atStart => exact ⟨0, q0, by omega, rfl, by go_num, hxq, Lib.hid rfl⟩
      case round =>
        obtain ⟨k, r, hk, rfl, rfl, hr, HK⟩ := hrel
        by_cases hlk : k < 8
        · have ha := and32 r hr
          have hs : Hid (crcK (k + 1) q0 = crcS r) := Lib.hid (by rw [crcK, HK.out])
          have hlt2 := crcS_lt hr
          by_cases hodd : r % 2 = 1
          · rw [hodd] at ha
            have hx2 := xor32 (r / 2) 3988292384 (by omega) (by omega)
            have he : Hid (crcS r = (r / 2) ^^^ 3988292384) := Lib.hid (by unfold crcS; rw [if_pos hodd])
            rw [he.out] at hs hlt2
            clear he hodd
            go_wp2_with fail
            go_round
            case rel => exact ⟨k + 1, _, by omega, by go_num, by first | rfl | (rw [← hx2]; rfl) | skip, hlt2, hs⟩
            case measure => simp [intOf]; omega
          · have hev : r % 2 = 0 := by omega
            rw [hev] at ha
            have he : Hid (crcS r = r / 2) := Lib.hid (by unfold crcS; rw [if_neg hodd])
            rw [he.out] at hs hlt2
            clear he hodd hev
            go_wp2_with fail
            go_round
            case rel => exact ⟨k + 1, _, by omega, by go_num, by first | rfl | skip, hlt2, hs⟩
            case measure => simp [intOf]; omega
        · obtain rfl : k = 8 := by omega
          have HT2 : Hid (crcL 4294967295 (bs.take (j + 1)) = r) := Lib.hid (by rw [HT.out, HK.out])
          go_wp2_with fail
          go_round
          case rel => exact ⟨j + 1, r, by omega, by go_num, rfl, hr, HT2⟩
          case measure => simp [intOf]; omega
    · obtain rfl : j = n := by omega
      have HF : Hid (crcN bs = 4294967295 - q) := Lib.hid (by
        have := HQ.out
        rw [List.take_of_length_le (by omega)] at this
        unfold crcN; rw [this])
      have HE : Hid (wrap64 (bits .xor .u32 IntKind.u32.max (q : Int)) = ((4294967295 - q : Nat) : Int)) := Lib.hid (by
        have e : bits .xor .u32 IntKind.u32.max (q : Int) = ((4294967295 - q : Nat) : Int) := not32 q hq
        rw [e]; unfold wrap64; omega)
      go_wp2_with fail
      go_ret
      exact ⟨ret_int (by rw [HF.out, HE.out]), rfl⟩
end Go.Proofs.YtcifdllbnbhcdaaGreatDoor
