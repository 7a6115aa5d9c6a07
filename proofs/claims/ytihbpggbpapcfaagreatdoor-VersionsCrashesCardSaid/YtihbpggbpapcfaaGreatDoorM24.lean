/- Texts V66, V67, joined: walks and laws for the versions. -/
import Derived.Test.YtihbpggbpapcfaaGreatDoorM23
namespace Go.Proofs.YtihbpggbpapcfaaGreatDoor
open Go.RowKit

abbrev chgA (k : L8) (p q : Sl) : Array Value := #[.string (arr k), .slice p.1 p.2.1 p.2.2, .slice q.1 q.2.1 q.2.2]
theorem BX.chg {w0 w : World} {R : Nat} {T : TypeId} {k : L8} {p q : Sl} (h : BX w0 w R (chgA k p q) T) : (w.cell? ⟨R, 0, none⟩ = some (.string (arr k)) ∧ w.cell? ⟨R, 1, none⟩ = some (.slice p.1 p.2.1 p.2.2) ∧ w.cell? ⟨R, 2, none⟩ = some (.slice q.1 q.2.1 q.2.2)) ∧ w.frozen? ⟨R, 0, none⟩ = false ∧ w.frozen? ⟨R, 1, none⟩ = false ∧ w.frozen? ⟨R, 2, none⟩ = false :=
  ⟨⟨h.cell 0, h.cell 1, h.cell 2⟩, h.fz 0, h.fz 1, h.fz 2⟩
theorem find_drop {cs : List Chg} {k : L8} {j : Nat} {x : Chg} (h : cs[j]? = some x) : (cs.drop j).find? (fun x => decide (x.1 = k)) = if x.1 = k then some x else (cs.drop (j + 1)).find? (fun x => decide (x.1 = k)) := by
  obtain ⟨hj, rfl⟩ := List.getElem?_eq_some_iff.1 h
  rw [List.drop_eq_getElem_cons hj, List.find?_cons]
  by_cases hk : cs[j].1 = k <;> simp [hk]
def FndR (cs : List Chg) (k : L8) (w : World) (e : Ending) (w' : World) : Prop := ∃ (kx : L8) (p q : Sl) (ok : Bool), e = .returned (.tuple #[.agg (chgA kx p q), .bool ok]) ∧ Below w.heap.size w w' ∧
  ((ok = false ∧ cs.find? (fun x => decide (x.1 = k)) = none) ∨ (ok = true ∧ ∃ x, cs.find? (fun x => decide (x.1 = k)) = some x ∧ x ∈ cs ∧ SV w' p x.2.1 ∧ SV w' q x.2.2))

set_option maxRecDepth 100000 in
set_option maxHeartbeats 4000000 in
theorem find_any (a : Option Addr) (n c : Nat) (cs : List Chg) (k : L8) (w : World) (hx : HAt w a n cs) :
    Calls Tryz.prog 119 #[.slice a n c, .string (arr k)] w (FndR cs k w) := by
  have hlx := hx.len.1
  have n1 := hx.len.2
  have HX := Lib.hid hx
  clear hx
  have HR0 := Lib.hid (BX.mk0 (vs := chgA [] (none, 0, 0) (none, 0, 0)) (T := 101) w)
  go_enter Tryz.func119, Tryz.ntmps119
  go_upto_region 1 with fail
  change Hid (BX w (w.alloc (.cells #[.string ⟨#[]⟩, .slice none 0 0, .slice none 0 0] 101)) _ _ _) at HR0
  generalize w.alloc (.cells #[.string ⟨#[]⟩, .slice none 0 0, .slice none 0 0] 101) = wa at *
  obtain ⟨R, hR⟩ : ∃ R, R = w.heap.size := ⟨_, rfl⟩
  rw [← hR] at HR0 ⊢
  clear hR
  go_wp2_with fail
  go_loopw [10] (fun i wr => ∃ j : Nat, j ≤ n ∧ i = .int .i64 j ∧ Hid ((cs.drop j).find? (fun x => decide (x.1 = k)) = cs.find? (fun x => decide (x.1 = k))) ∧ Hid (BX w wr R (chgA [] (none, 0, 0) (none, 0, 0)) 101)) (fun i _ => n - (intOf i).toNat)
  case atStart => exact ⟨0, by omega, rfl, Lib.hid rfl, HR0⟩
  case round =>
    obtain ⟨j, hj, rfl, HF, HR⟩ := hrel
    by_cases hlt : j < n
    · obtain ⟨b1, o1, x, p, q, rfl, g1, z1, x0, x1, x2, sp, sq⟩ := HAt.cells HX.out hlt
      have x0 := below_cell9 HR.out.bl x0
      have x1 := below_cell9 HR.out.bl x1
      have x2 := below_cell9 HR.out.bl x2
      have HD := Lib.hid (find_drop (k := k) g1)
      have HM := Lib.hid (List.mem_of_getElem? g1)
      have SP := Lib.hid sp
      have SQ := Lib.hid sq
      have q1 : (j : Int) < n := by omega
      have q2 : (0 : Int) ≤ (j : Int) := by omega
      clear g1 sp sq
      have HB1 := Lib.hid (BX.mk0 (vs := chgA x.1 p q) (T := 101) wr)
      go_upto_region 4 with fail
      change Hid (BX wr (wr.alloc (.cells #[.string (arr x.1), .slice p.1 p.2.1 p.2.2, .slice q.1 q.2.1 q.2.2] 101)) _ _ _) at HB1
      generalize wr.alloc (.cells #[.string (arr x.1), .slice p.1 p.2.1 p.2.2, .slice q.1 q.2.1 q.2.2] 101) = wb at *
      obtain ⟨S, hS⟩ : ∃ S, S = wr.heap.size := ⟨_, rfl⟩
      rw [← hS] at HB1 ⊢
      clear hS x0 x1 x2
      obtain ⟨⟨x0, x1, x2⟩, _⟩ := HB1.out.chg
      have HR2 := Lib.hid (HR.out.next HB1.out.bl)
      by_cases he : x.1 = k
      · have HF2 : Hid (cs.find? (fun x => decide (x.1 = k)) = some x) := Lib.hid (by rw [← HF.out, HD.out, if_pos he])
        have p1 : ((arr x.1).toList == (arr k).toList) = true := by rw [he]; simp
        have p2 : (arr x.1).toList = (arr k).toList := by rw [he]
        have HR9 := Lib.hid (((HR2.out.set 0 (.string (arr x.1))).set 1 (.slice p.1 p.2.1 p.2.2)).set 2 (.slice q.1 q.2.1 q.2.2))
        obtain ⟨⟨rc0, rc1, rc2⟩, rf0, rf1, rf2⟩ := HR2.out.chg
        clear he
        go_wp2_with fail
        change Hid (BX w _ R (chgA x.1 p q) 101) at HR9
        generalize ((wb.setCell ⟨R, 0, none⟩ (.string (arr x.1))).setCell ⟨R, 1, none⟩ (.slice p.1 p.2.1 p.2.2)).setCell ⟨R, 2, none⟩ (.slice q.1 q.2.1 q.2.2) = W9 at *
        clear rc0 rc1 rc2 rf0 rf1 rf2
        obtain ⟨⟨rc0, rc1, rc2⟩, _⟩ := HR9.out.chg
        refine bodyPost_ret (v := .tuple #[.agg (chgA x.1 p q), .bool true]) (by simp [results, Tryz.results119, go_sem, rc0, rc1, rc2]) rfl ?_
        exact ⟨_, _, _, _, rfl, HR9.out.bl, Or.inr ⟨rfl, x, HF2.out, HM.out, SP.out.below HR9.out.bl, SQ.out.below HR9.out.bl⟩⟩
      · have HF2 : Hid ((cs.drop (j + 1)).find? (fun x => decide (x.1 = k)) = cs.find? (fun x => decide (x.1 = k))) := Lib.hid (by rw [← HF.out, HD.out, if_neg he])
        have p1 : ((arr x.1).toList == (arr k).toList) = false := by rw [arr_toList, arr_toList]; simpa using he
        have p2 : ¬ (arr x.1).toList = (arr k).toList := by rw [arr_toList, arr_toList]; exact he
        clear he
        go_wp2_with fail
        go_roundw
        case rel => exact ⟨j + 1, by omega, by go_num, HF2, HR2⟩
        case measure => simp [intOf]; omega
    · obtain rfl : n = j := by omega
      have HF2 : Hid (cs.find? (fun x => decide (x.1 = k)) = none) := Lib.hid (by rw [← HF.out, List.drop_eq_nil_of_le (by omega)]; rfl)
      have HR9 := Lib.hid (((HR.out.set 0 (.string ⟨#[]⟩)).set 1 (.slice none 0 0)).set 2 (.slice none 0 0))
      obtain ⟨⟨rc0, rc1, rc2⟩, rf0, rf1, rf2⟩ := HR.out.chg
      go_wp2_with fail
      change Hid (BX w _ R (chgA [] (none, 0, 0) (none, 0, 0)) 101) at HR9
      generalize ((wr.setCell ⟨R, 0, none⟩ (.string ⟨#[]⟩)).setCell ⟨R, 1, none⟩ (.slice none 0 0)).setCell ⟨R, 2, none⟩ (.slice none 0 0) = W9 at *
      clear rc0 rc1 rc2 rf0 rf1 rf2
      obtain ⟨⟨rc0, rc1, rc2⟩, _⟩ := HR9.out.chg
      refine bodyPost_ret (v := .tuple #[.agg (chgA [] (none, 0, 0) (none, 0, 0)), .bool false]) (by simp [results, Tryz.results119, go_sem, rc0, rc1, rc2]) rfl ?_
      exact ⟨_, _, _, _, rfl, HR9.out.bl, Or.inl ⟨rfl, HF2.out⟩⟩
end Go.Proofs.YtihbpggbpapcfaaGreatDoor

namespace Go.Proofs.YtihbpggbpapcfaaGreatDoor
open Go.RowKit

theorem pickS_le {l : List Ses} {cs : List Chg} {N : Nat} (h : l.length ≤ N) (hc : ∀ c ∈ cs, c.2.2.length ≤ N) (k : L8) : (pickS l cs k).length ≤ N := by
  unfold pickS
  split
  · next x hx => exact hc x (List.mem_of_find?_eq_some hx)
  · exact Nat.le_trans (ofS_len _ _) h
theorem pickS_sok {l : List Ses} {cs : List Chg} (h : SOk l) (hc : ∀ c ∈ cs, SOk c.2.2) (k : L8) : SOk (pickS l cs k) := by
  unfold pickS
  split
  · next x hx => exact hc x (List.mem_of_find?_eq_some hx)
  · exact fun s hs => h s (List.mem_filter.1 hs).1
theorem pickS_some {l : List Ses} {cs : List Chg} {k : L8} {x : Chg} (h : cs.find? (fun x => decide (x.1 = k)) = some x) : pickS l cs k = x.2.2 := by unfold pickS; rw [h]
theorem pickS_none {l : List Ses} {cs : List Chg} {k : L8} (h : cs.find? (fun x => decide (x.1 = k)) = none) : pickS l cs k = ofS l k := by unfold pickS; rw [h]

set_option maxRecDepth 100000 in
set_option maxHeartbeats 8000000 in
theorem apply_any (a : Option Addr) (n c : Nat) (l : List Ses) (b : Option Addr) (n' c' : Nat) (cs : List Chg) (m : Int) (w : World) (hx : SAt w a n l) (hs : SOk l) (hy : HAt w b n' cs) (hs' : ∀ c ∈ cs, SOk c.2.2) (hn' : n' ≤ 1000000) (hfl : (cs.flatMap (·.2.2)).length ≤ 1000000) (hT : Tz w) (hc : n ≤ c) :
    Calls Tryz.prog 100 #[.slice a n c, .slice b n' c', .int .i64 m] w (ResS (appS m l cs) w) := by
  have HX := Lib.hid hx
  have HY := Lib.hid hy
  have HS := Lib.hid hs
  have HS' := Lib.hid hs'
  have HT := Lib.hid hT
  have V1 := Lib.hid (fun W (h : Below w.heap.size w W) => valid_any a n c l m W (hx.below h) hs (hT.below h) hc)
  have P1 := Lib.hid (fun h => vld_parts (xs := l) (n := m) h)
  have HAF := Lib.hid (fun c hc => Nat.le_trans (flat_mem_le (cs := cs) c hc) hfl)
  have hlx := hx.1
  have hly := hy.len.1
  have HV : Hid (appS m l cs = if vldS l m ≠ 0 then (vldS l m, []) else if ordC none cs = false then (63, []) else if chgE l cs ≠ 0 then (chgE l cs, []) else if vldS ((clsL (clsC cs ++ clsS l)).flatMap (pickS l cs)) m ≠ 0 then (vldS ((clsL (clsC cs ++ clsS l)).flatMap (pickS l cs)) m, []) else (0, (clsL (clsC cs ++ clsS l)).flatMap (pickS l cs))) := Lib.hid rfl
  clear hx hy hs hs' hT
  generalize vldS l m = e1 at *
  go_enter Tryz.func100, Tryz.ntmps100
  go_wp2_with fail
  refine (V1.out _ (Below.refl _ _)).mono ?_
  rintro en w1 ⟨rfl, hb1⟩
  have HB1 := Lib.hid hb1
  clear hb1
  by_cases hz : e1 = 0
  rotate_left
  · have HF : Hid (appS m l cs = (e1, [])) := Lib.hid (by rw [HV.out, if_pos hz])
    have hd : (e1 != 0) = true := by simpa using hz
    clear hz
    go_wp2_with fail
    go_ret2
    exact ResS.err HF.out HB1.out
  have p1 := P1.out hz
  have hd : (e1 != 0) = false := by simpa using hz
  have HV1 : Hid (appS m l cs = if ordC none cs = false then (63, []) else if chgE l cs ≠ 0 then (chgE l cs, []) else if vldS ((clsL (clsC cs ++ clsS l)).flatMap (pickS l cs)) m ≠ 0 then (vldS ((clsL (clsC cs ++ clsS l)).flatMap (pickS l cs)) m, []) else (0, (clsL (clsC cs ++ clsS l)).flatMap (pickS l cs))) := Lib.hid (by rw [HV.out, if_neg (by simpa using hz)])
  obtain ⟨_, l1, _⟩ := p1
  clear hz HV P1 V1
  have OC := Lib.hid (ordC_any b n' c' cs w1 (HY.out.below HB1.out))
  go_wp2_with fail
  refine OC.out.mono ?_
  rintro en w2 ⟨rfl, hb2⟩
  have HB2 := Lib.hid (below3 HB1.out hb2)
  clear hb2 OC
  cases hoc : ordC none cs
  · have HF : Hid (appS m l cs = (63, [])) := Lib.hid (by rw [HV1.out, if_pos hoc])
    clear hoc
    go_wp2_with fail
    go_ret2
    exact ResS.err HF.out HB2.out
  have HV2 : Hid (appS m l cs = if chgE l cs ≠ 0 then (chgE l cs, []) else if vldS ((clsL (clsC cs ++ clsS l)).flatMap (pickS l cs)) m ≠ 0 then (vldS ((clsL (clsC cs ++ clsS l)).flatMap (pickS l cs)) m, []) else (0, (clsL (clsC cs ++ clsS l)).flatMap (pickS l cs))) := Lib.hid (by rw [HV1.out, if_neg (by rw [hoc]; simp)])
  clear hoc HV1
  have HX2 := Lib.hid (HX.out.below HB2.out)
  have HY2 := Lib.hid (HY.out.below HB2.out)
  go_wp2_with fail
  go_loopw [28] (fun i wr => ∃ j : Nat, j ≤ n' ∧ i = .int .i64 j ∧ Hid (chgE l (cs.drop j) = chgE l cs) ∧ Hid (Below w2.heap.size w2 wr)) (fun i _ => n' - (intOf i).toNat)
  case atStart => exact ⟨0, by omega, rfl, Lib.hid rfl, Lib.hid (Below.refl _ _)⟩
  case round =>
    obtain ⟨j, hj, rfl, HC, HB⟩ := hrel
    by_cases hlt : j < n'
    · obtain ⟨b1, o1, x, p, q, rfl, g1, z1, x0, x1, x2, sp, sq⟩ := HAt.cells (HY2.out.below HB.out) hlt
      have HD := Lib.hid (chgE_drop (l := l) g1)
      have hmem := List.mem_of_getElem? g1
      have q1 : (j : Int) < n' := by omega
      have q2 : (0 : Int) ≤ (j : Int) := by omega
      have HB1x := Lib.hid (BX.mk0 (vs := chgA x.1 p q) (T := 101) wr)
      have SPr := Lib.hid sp
      have SQr := Lib.hid sq
      have hql : q.2.1 ≤ 1000000 := by rw [← sq.2.1]; exact HAF.out x hmem
      clear g1 hmem sp sq
      go_upto_region 9 with fail
      change Hid (BX wr (wr.alloc (.cells #[.string (arr x.1), .slice p.1 p.2.1 p.2.2, .slice q.1 q.2.1 q.2.2] 101)) _ _ _) at HB1x
      generalize wr.alloc (.cells #[.string (arr x.1), .slice p.1 p.2.1 p.2.2, .slice q.1 q.2.1 q.2.2] 101) = wb at *
      obtain ⟨S, hS⟩ : ∃ S, S = wr.heap.size := ⟨_, rfl⟩
      rw [← hS] at HB1x ⊢
      clear hS x0 x1 x2
      obtain ⟨⟨x0, x1, x2⟩, _⟩ := HB1x.out.chg
      have HBB := Lib.hid (below3 HB.out HB1x.out.bl)
      have SP := Lib.hid (fun W (h : Below wb.heap.size wb W) => (SPr.out.below (below3 HB1x.out.bl h)).2)
      have SQ := Lib.hid (fun W (h : Below wb.heap.size wb W) => (SQr.out.below (below3 HB1x.out.bl h)).2)
      have xp0 := x0; have xp1 := x1; have xp2 := x2
      have OA := Lib.hid (fun W (h : Below wb.heap.size wb W) => of_any a n c l x.1 W (HX2.out.below (below3 HBB.out h)) (by omega))
      have OB := Lib.hid (fun W (h : Below wb.heap.size wb W) => of_any q.1 q.2.1 q.2.2 x.2.2 x.1 W (SQ.out W h) hql)
      have BE := Lib.hid (bel_drew0 wb)
      have BR := Lib.hid (Below.refl wb.heap.size wb)
      have SM := Lib.hid (fun (A : Option Addr) (N C : Nat) (Z : List Ses) (W : World) (hA : SAt W A N Z) (h : Below wb.heap.size wb W) => equalq_any p.1 p.2.1 p.2.2 A N C x.2.1 Z W (SP.out W h) hA)
      go_cut [39] (fun s wx => s = .bool (!decide (x.2.1 = ofS l x.1)) ∧ Below wb.heap.size wb wx)
      case first =>
        generalize ofS l x.1 = O1 at *
        go_region_held3 (fun w' => w'.cell? ⟨S, 0, none⟩ = some (.string (arr x.1)) ∧ w'.cell? ⟨S, 1, none⟩ = some (.slice p.1 p.2.1 p.2.2)) (first | (with_reducible exact ⟨x0, x1⟩) | go_keep) (first | (go_at_call 116; refine (OA.out _ (by first | with_reducible exact BR.out | with_reducible exact BE.out)).mono ?_; rintro e9 w9 ⟨v9, rfl, hr9, hb9⟩; have BQ : Below wb.heap.size wb w9 := (by first | with_reducible exact hb9 | with_reducible exact below3 BE.out hb9); obtain ⟨a9, c9, rfl, hc9, hs9⟩ := SRow.sat hr9; have HS9 := Lib.hid hs9; have x0 := below_cell9 BQ xp0; have x1 := below_cell9 BQ xp1; clear hr9 hb9 hs9) | (go_at_call 71; refine (SM.out _ _ _ _ _ HS9.out BQ).mono ?_; rintro e8 w8 ⟨rfl, hq8⟩; have BP := below3 BQ (drew_bel hq8); have x0 := below_cell9 BP xp0; have x1 := below_cell9 BP xp1; clear hq8))
        all_goals (
          go_wp2_with fail
          go_meet
          exact ⟨rfl, BP⟩)
      case rest =>
        obtain ⟨rfl, hbz⟩ := hcut
        have HB3 := Lib.hid (below3 HBB.out hbz)
        have x0 := below_cell9 hbz xp0
        have x2 := below_cell9 hbz xp2
        have HBZ := Lib.hid hbz
        clear hbz x1 xp0 xp1 xp2
        by_cases he : x.2.1 = ofS l x.1
        rotate_left
        · have HF : Hid (appS m l cs = (62, [])) := Lib.hid (by
            have : chgE l cs = 62 := by rw [← HC.out, HD.out, if_pos he]
            rw [HV2.out, this]; rfl)
          have hdd : decide (x.2.1 = ofS l x.1) = false := decide_eq_false he
          rw [hdd]
          clear he hdd
          go_wp2_with fail
          go_ret2
          exact ResS.err HF.out (below3 HB2.out HB3.out)
        have hdd : decide (x.2.1 = ofS l x.1) = true := decide_eq_true he
        rw [hdd]
        have HD2 : Hid (chgE l (cs.drop j) = if (ofS x.2.2 x.1).length ≠ x.2.2.length then 1 else chgE l (cs.drop (j + 1))) := Lib.hid (by rw [HD.out, if_neg (by simpa using he)])
        have HQL : Hid (x.2.2.length = q.2.1) := Lib.hid (SQ.out wb BR.out).1
        clear he hdd HD
        obtain ⟨wv, rfl⟩ : ∃ wv : World, wv = wc := ⟨_, rfl⟩
        have xp0 := x0; have xp2 := x2
        have BE2 := Lib.hid (bel_drew0 wv)
        have BR2 := Lib.hid (Below.refl wv.heap.size wv)
        have hol := ofS_len x.2.2 x.1
        have hol2 : (ofS x.2.2 x.1).length ≤ 1000000 := by have := HQL.out; omega
        clear hol
        go_upto_region 11 with fail
        go_cut [49] (fun s wx => s = .bool (((ofS x.2.2 x.1).length : Int) != (q.2.1 : Int)) ∧ Below wv.heap.size wv wx)
        case first =>
          generalize ofS x.2.2 x.1 = Y1 at *
          go_region_held3 (fun w' => w'.cell? ⟨S, 0, none⟩ = some (.string (arr x.1)) ∧ w'.cell? ⟨S, 2, none⟩ = some (.slice q.1 q.2.1 q.2.2)) (first | (with_reducible exact ⟨x0, x2⟩) | go_keep) ((go_at_call 116; refine (OB.out _ (by first | with_reducible exact HBZ.out | with_reducible exact below3 HBZ.out BE2.out)).mono ?_; rintro e9 w9 ⟨v9, rfl, hr9, hb9⟩; have BQ : Below wv.heap.size wv w9 := (by first | with_reducible exact hb9 | with_reducible exact below3 BE2.out hb9); obtain ⟨a9, c9, rfl, hc9, hs9⟩ := SRow.sat hr9; have x0 := below_cell9 BQ xp0; have x2 := below_cell9 BQ xp2; clear hr9 hb9 hs9))
          all_goals (
            go_wp2_with fail
            go_meet
            exact ⟨rfl, by assumption⟩)
        case rest =>
          obtain ⟨rfl, hbz⟩ := hcut
          have HB4 := Lib.hid (below3 HB3.out hbz)
          clear hbz
          by_cases hle : (ofS x.2.2 x.1).length = x.2.2.length
          · have hd3 : (((ofS x.2.2 x.1).length : Int) != (q.2.1 : Int)) = false := by
              have := HQL.out
              rw [hle, this]; simp
            have HC2 : Hid (chgE l (cs.drop (j + 1)) = chgE l cs) := Lib.hid (by rw [← HC.out, HD2.out, if_neg (by simpa using hle)])
            rw [hd3]
            clear hd3 hle
            go_wp2_with fail
            go_roundw
            case rel => exact ⟨j + 1, by omega, by go_num, HC2, HB4⟩
            case measure => simp [intOf]; omega
          · have hd3 : (((ofS x.2.2 x.1).length : Int) != (q.2.1 : Int)) = true := by
              have := HQL.out
              rw [bne_iff_ne]; omega
            have HF : Hid (appS m l cs = (1, [])) := Lib.hid (by
              have : chgE l cs = 1 := by rw [← HC.out, HD2.out, if_pos hle]
              rw [HV2.out, this]; rfl)
            rw [hd3]
            clear hd3 hle
            go_wp2_with fail
            go_ret2
            exact ResS.err HF.out (below3 HB2.out HB4.out)
    · obtain rfl : n' = j := by omega
      have h0 : chgE l cs = 0 := by rw [← HC.out, List.drop_eq_nil_of_le (by omega), chgE]
      have HV3 : Hid (appS m l cs = if vldS ((clsL (clsC cs ++ clsS l)).flatMap (pickS l cs)) m ≠ 0 then (vldS ((clsL (clsC cs ++ clsS l)).flatMap (pickS l cs)) m, []) else (0, (clsL (clsC cs ++ clsS l)).flatMap (pickS l cs))) := Lib.hid (by rw [HV2.out, if_neg (by simpa using h0)])
      have HBO := Lib.hid (below3 HB2.out HB.out)
      clear h0 HV2 HC HX2 HY2
      obtain ⟨wo, rfl⟩ : ∃ wo : World, wo = wr := ⟨_, rfl⟩
      clear HB
      have HBL := Lib.hid (HBO.out.alloc HBO.out.size (.cells #[.slice a n c] 49))
      have HLL : Hid (LLAt (wo.alloc (.cells #[.slice a n c] 49)) (some ⟨wo.heap.size, 0, none⟩) 1 [l]) := Lib.hid ⟨[(a, n, c)], KAt.news (f := slC) (k := 1) (fun _ => rfl) wo [(a, n, c)] _ (by simp), rfl, fun j x y h1 h2 => by
        match j with
        | 0 => simp at h1 h2; subst h1; subst h2; exact ⟨hc, HX.out.below HBL.out⟩
        | j + 1 => simp at h1⟩
      have CL := Lib.hid (classes_any b n' c' cs (some ⟨wo.heap.size, 0, none⟩) 1 1 [l] (wo.alloc (.cells #[.slice a n c] 49)) (HY.out.below HBL.out) HLL.out (by omega) (by omega) (fun l' hl => by
        simp at hl
        subst hl; omega))
      rw [show clsL (clsC cs ++ [l].flatMap clsS) = clsL (clsC cs ++ clsS l) by simp] at CL
      have hkl : (clsL (clsC cs ++ clsS l)).length ≤ 1000096 := by
        have := clsL_le (clsC cs ++ clsS l)
        rw [List.length_append] at this
        unfold clsC clsS at this ⊢
        simp only [List.length_map] at this
        omega
      have HPK := Lib.hid (fun k => pickS_le (l := l) (cs := cs) (N := 1000000) (by omega) HAF.out k)
      have HPS := Lib.hid (fun k => pickS_sok (l := l) (cs := cs) HS.out HS'.out k)
      generalize clsL (clsC cs ++ clsS l) = K at *
      go_wp2_with fail
      refine CL.out.mono ?_
      rintro en w5 ⟨v5, rfl, hr5, hb5⟩
      obtain ⟨a5, c5, rfl, hc5, hs5⟩ := KRow.at_ encStr hr5
      have HK5 := Lib.hid hs5
      have HB5 := Lib.hid (below3 HBL.out hb5)
      have HX5 := Lib.hid (HX.out.below HB5.out)
      have HY5 := Lib.hid (HY.out.below HB5.out)
      clear hr5 hb5 hs5 CL HLL HBL
      generalize hp : K.length = p at *
      have HP := Lib.hid hp
      clear hp
      go_wp2_with fail
      go_loopw [11, 56] (fun v i wr => ∃ j : Nat, j ≤ p ∧ i = .int .i64 j ∧ Hid (SRow wr w5.heap.size v ((K.take j).flatMap (pickS l cs))) ∧ Hid (Below w5.heap.size w5 wr)) (fun _ i _ => p - (intOf i).toNat)
      case atStart => exact ⟨0, by omega, rfl, Lib.hid (KRow.nil _ _ _ _ _), Lib.hid (Below.refl _ _)⟩
      case round =>
        obtain ⟨j, hj, rfl, HR, HB⟩ := hrel
        by_cases hlt : j < p
        · obtain ⟨b2, o2, k1, rfl, g1, z1, x0⟩ := CAt.cells (HK5.out.below HB.out) hlt
          have HT := Lib.hid (flat_take (pickS l cs) g1)
          have hfl3 := flat_len_mul (pickS l cs) 1000000 HPK.out (K.take j)
          rw [List.length_take] at hfl3
          have hjk : ((K.take j).flatMap (pickS l cs)).length ≤ j * 1000000 := Nat.le_trans hfl3 (Nat.mul_le_mul_right _ (by omega))
          have q1 : (j : Int) < p := by omega
          have q2 : (0 : Int) ≤ (j : Int) := by omega
          have hnk := HPK.out k1
          clear g1 hfl3
          have FN := Lib.hid (find_any b n' c' cs k1 wr (HY5.out.below HB.out))
          have HPN := Lib.hid (pickS_none (l := l) (cs := cs) (k := k1))
          have HPO := Lib.hid (fun x => pickS_some (l := l) (cs := cs) (k := k1) (x := x))
          generalize (K.take j).flatMap (pickS l cs) = L at *
          generalize pickS l cs k1 = PK at *
          go_wp2_with fail
          refine FN.out.mono ?_
          rintro en w6 ⟨kx, p', q', ok, rfl, hb6, hok⟩
          have HOK := Lib.hid hok
          have HR6 := Lib.hid (row_below HR.out hb6)
          have HB6 := Lib.hid (below3 HB.out hb6)
          clear hb6 hok FN x0
          have HBx := Lib.hid (BX.mk0 (vs := chgA kx p' q') (T := 101) w6)
          go_upto_region 19 with fail
          change Hid (BX w6 (w6.alloc (.cells #[.string (arr kx), .slice p'.1 p'.2.1 p'.2.2, .slice q'.1 q'.2.1 q'.2.2] 101)) _ _ _) at HBx
          generalize w6.alloc (.cells #[.string (arr kx), .slice p'.1 p'.2.1 p'.2.2, .slice q'.1 q'.2.1 q'.2.2] 101) = w7 at *
          obtain ⟨S, hS⟩ : ∃ S, S = w6.heap.size := ⟨_, rfl⟩
          rw [← hS] at HBx ⊢
          clear hS
          obtain ⟨⟨_, _, y2⟩, _⟩ := HBx.out.chg
          have HR7 := Lib.hid (row_below HR6.out HBx.out.bl)
          have HB7 := Lib.hid (below3 HB6.out HBx.out.bl)
          have hbs := HB7.out.size
          rcases HOK.out with ⟨rfl, hnf⟩ | ⟨rfl, x, hf, hmx, hsp, hsq⟩
          · have HPE := Lib.hid (HPN.out hnf)
            have hol := ofS_len l k1
            have OA := Lib.hid (of_any a n c l k1 w7 (HX5.out.below HB7.out) (by omega))
            rw [← HPE.out] at OA
            clear hnf HOK
            go_wp2_with fail
            refine OA.out.mono ?_
            rintro en w8 ⟨v8, rfl, hr8, hb8⟩
            obtain ⟨a8, c8, rfl, hc8, hs8⟩ := SRow.sat hr8
            have HS8 := Lib.hid hs8
            have HR8 := Lib.hid (row_below HR7.out hb8)
            have HB8 := Lib.hid (below3 HB7.out hb8)
            have hbs8 := HB8.out.size
            clear hr8 hb8 hs8 OA
            go_wp2_with (at_builtin; refine wpList_app elemSes encSes rfl _ _ rfl w5.heap.size _ L rfl HR8.out _ _ _ PK rfl HS8.out (by omega) hbs8 ?_)
            intro v9 w9 hr9 hb9 hg9 ho9
            have HRF : Hid (SRow w9 w5.heap.size v9 ((K.take (j + 1)).flatMap (pickS l cs))) := Lib.hid (by rw [HT.out]; exact hr9)
            have HBF := Lib.hid (HB8.out.trans hb9)
            clear hr9 hb9 hg9 ho9
            go_wp2_with fail
            go_roundw
            case rel => exact ⟨j + 1, by omega, by go_num, HRF, HBF⟩
            case measure => simp [intOf]; omega
          · have HPE := Lib.hid (HPO.out x hf)
            have SQ7 := Lib.hid ((hsq.below HBx.out.bl).2)
            rw [← HPE.out] at SQ7
            have hqn : PK.length = q'.2.1 := SQ7.out.1
            clear hf hmx hsp hsq HOK
            go_wp2_with (at_builtin; refine wpList_app elemSes encSes rfl _ _ rfl w5.heap.size _ L rfl HR7.out _ _ _ PK rfl SQ7.out (by omega) hbs ?_)
            intro v9 w9 hr9 hb9 hg9 ho9
            have HRF : Hid (SRow w9 w5.heap.size v9 ((K.take (j + 1)).flatMap (pickS l cs))) := Lib.hid (by rw [HT.out]; exact hr9)
            have HBF := Lib.hid (HB7.out.trans hb9)
            clear hr9 hb9 hg9 ho9
            go_wp2_with fail
            go_roundw
            case rel => exact ⟨j + 1, by omega, by go_num, HRF, HBF⟩
            case measure => simp [intOf]; omega
        · obtain rfl : p = j := by omega
          have HRK : Hid (SRow wr w5.heap.size _ (K.flatMap (pickS l cs))) := Lib.hid (by have := HR.out; rw [List.take_of_length_le (by have := HP.out; omega)] at this; exact this)
          have HSK : Hid (SOk (K.flatMap (pickS l cs))) := Lib.hid (fun s hs => by
            obtain ⟨k, _, hk⟩ := List.mem_flatMap.1 hs
            exact HPS.out k s hk)
          have HB9 := Lib.hid (below3 HB5.out HB.out)
          have hz9 := HB5.out.size
          clear HR
          generalize K.flatMap (pickS l cs) = X at *
          obtain ⟨a9, c9, rfl, hc9, hs9⟩ := SRow.sat HRK.out
          have VX := Lib.hid (valid_any a9 X.length c9 X m wr hs9 HSK.out (HT.out.below HB9.out) hc9)
          clear hs9
          generalize vldS X m = ex at *
          go_wp2_with fail
          refine VX.out.mono ?_
          rintro en w10 ⟨rfl, hb10⟩
          have HRX := Lib.hid (row_base (row_below HRK.out hb10) hz9)
          have HBX := Lib.hid (below3 HB9.out hb10)
          clear hb10 VX
          by_cases hex : ex = 0
          · have HF : Hid (appS m l cs = (0, X)) := Lib.hid (by rw [HV3.out, if_neg (by simpa using hex)])
            have hd : (ex != 0) = false := by simpa using hex
            clear hex
            go_wp2_with fail
            go_ret2
            exact ResS.mk HF.out HRX.out HBX.out
          · have HF : Hid (appS m l cs = (ex, [])) := Lib.hid (by rw [HV3.out, if_pos hex])
            have hd : (ex != 0) = true := by simpa using hex
            clear hex
            go_wp2_with fail
            go_ret2
            exact ResS.err HF.out HBX.out
end Go.Proofs.YtihbpggbpapcfaaGreatDoor
