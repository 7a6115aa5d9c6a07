/- The reference opens logs. -/
import Derived.Deep.CutBlock
import Derived.Laws.BytesArg
import Derived.Outline
import Derived.Test.YtihbpggbpapcfaaGreatDoorH47
import Derived.Test.YtihbpggbpapcfaaGreatDoorS02
namespace Go.Proofs.YtihbpggbpapcfaaGreatDoor
open Go.RowKit

set_option maxRecDepth 100000 in
set_option maxHeartbeats 2000000 in
theorem rmasked_any (a : Option Addr) (n c : Nat) (xs : List Ses) (m : Int) (w : World) (hx : SAt w a n xs) (hn : n ≤ 1000000) :
  Calls Tryz.prog 75 #[.slice a n c, .int .i64 m] w (fun e w' => ∃ v, e = .returned v ∧ SRow w' w.heap.size v (mskS m xs) ∧ Below w.heap.size w w') := by
 have HX := Lib.hid hx
 have hlen := hx.1
 obtain ⟨i0, hi, hz0, hz1, hz2⟩ := info_parts Tryz.infoSes
 have HI0 := Lib.hid hi; have HZ0 := Lib.hid hz0; have HZ1 := Lib.hid hz1; have HZ2 := Lib.hid hz2
 clear hi hz0 hz1 hz2 hx
 go_enter Tryz.func75, Tryz.ntmps75
 go_wp2
 go_loopw [5, 6] (fun v i wr => ∃ j : Nat, j ≤ n ∧ i = .int .i64 j ∧ Hid (SRow wr w.heap.size v (mskS m (xs.take j))) ∧ Hid (Below w.heap.size w wr)) (fun _ i _ => n - (intOf i).toNat)
 case atStart => exact ⟨0, by omega, rfl, Lib.hid (by simp [mskS]; exact World.ownsRow_nil _ _ _ _), Lib.hid (Below.refl _ _)⟩
 case round =>
  obtain ⟨j, hj, rfl, HR, HB⟩ := hrel
  by_cases hlt : j < n
  ·
   obtain ⟨b1, o1, s1, rfl, g1, z1, x0, x1, x2, x3, x4, x5⟩ := SAt.cells (HX.out.below HB.out) hlt
   have hfl := mskS_len m (xs.take j)
   rw [List.length_take] at hfl
   have k1 : (j : Int) < n := by omega
   have k2 : (0 : Int) ≤ j := by omega
   have hb1 := HB.out.size
   have HG := Lib.hid g1
   clear g1
   obtain ⟨cl, wk, dy, st, ln, rm⟩ := s1
   simp only at x0 x1 x2 x3 x4 x5
   cases hd : (bits .and .i64 wk m != 0)
   ·
    have HT := Lib.hid (mskS_miss (m := m) HG.out hd)
    have HBa := Lib.hid (fun O : Obj => HB.out.alloc HB.out.size O)
    have HRa := Lib.hid (fun O : Obj => HR.out.alloc O)
    go_wp2_with fail
    go_roundw
    case rel => exact ⟨j + 1, by omega, by go_num, by rw [HT.out]; exact Lib.hid (HRa.out _), Lib.hid (HBa.out _)⟩
    case measure => simp [intOf]; omega
   ·
    have HT := Lib.hid (mskS_hit (m := m) HG.out hd)
    have HT2 : Hid (inW m (cl, wk, dy, st, ln, rm) = (cl, bits .and .i64 wk m, dy, st, ln, rm)) := Lib.hid rfl
    generalize mskS m (xs.take j) = L at *
    go_wp2_with (at_builtin; refine wpList_append_own _ rfl _ _ 49 rfl w.heap.size 95 i0 sesZ 6 64 Tryz.underlying49 HI0.out HZ0.out HZ1.out HZ2.out rfl (by decide) _ _ _ rfl ((HR.out.alloc _).alloc _) ⟨wr.heap.size + 1, 0, none⟩ 1 1 (sesC (cl, bits .and .i64 wk m, dy, st, ln, rm)) rfl rfl ?c1 ?c2 ?c3 ?c4 ?c5 ?_)
    case c1 => exact new2 _ _ _ _
    case c2 => exact ones_ses _
    case c3 => unfold maxLen; omega
    case c4 => omega
    case c5 => first | omega | (simp; omega)
    intro v' w2 hown' hgrow _
    have hown2 := Lib.hid (snoc_of (HT.out.trans (by rw [HT2.out])) hown')
    have hB2 : Hid (Below w.heap.size w w2) := Lib.hid (((HB.out.alloc HB.out.size _).alloc (by simp; omega) _).grown hgrow (by simp; omega) (fun q hq => (HR.out.lt q hq).1))
    clear hown' hgrow
    go_wp2
    go_roundw
    case rel => exact ⟨j + 1, by omega, by go_num, hown2, hB2⟩
    case measure => simp [intOf]; omega
  ·
   obtain rfl : j = n := by omega
   have HF : Hid (mskS m (xs.take j) = mskS m xs) := Lib.hid (by rw [List.take_of_length_le (by omega)])
   go_wp2
   go_ret
   exact ⟨_, rfl, by rw [← HF.out]; exact HR.out, HB.out⟩
end Go.Proofs.YtihbpggbpapcfaaGreatDoor

namespace Go.Proofs.YtihbpggbpapcfaaGreatDoor
open Go.RowKit

theorem xor_neg {F : Int} (h0 : 0 ≤ F) (h1 : F ≤ 9223372036854775807) : bits .xor .i64 (-1) F = -F - 1 := by
 show IntKind.i64.wrap (((BitVec.ofInt 64 (-1) ^^^ BitVec.ofInt 64 F).toNat : Nat) : Int) = _
 have e : BitVec.ofInt 64 (-1) ^^^ BitVec.ofInt 64 F = BitVec.ofInt 64 (-F - 1) := by
  rw [not_ofInt, show BitVec.ofInt 64 (-1) = BitVec.allOnes 64 by decide, BitVec.xor_comm, BitVec.xor_allOnes]
 rw [e, BitVec.toNat_ofInt, IntKind.wrap_i64]
 omega
theorem msk_str {m : Int} {xs : List Ses} (h : StrOk xs) : StrOk (mskS m xs) := by
 intro s hs
 obtain ⟨h1, _⟩ := List.mem_filter.1 hs
 obtain ⟨t, ht, rfl⟩ := List.mem_map.1 h1
 exact h t ht

set_option maxRecDepth 100000 in
set_option maxHeartbeats 4000000 in
theorem rsplice_any (a : Option Addr) (n c : Nat) (xs : List Ses) (b : Option Addr) (n' c' : Nat) (ys : List Ses) (m k : Int) (w : World) (hx : SAt w a n xs) (hs : StrOk xs) (hy : SAt w b n' ys) (hs' : StrOk ys) (hk : -9223372036854775808 ≤ k ∧ k ≤ 9223372036854775807) :
  Calls Tryz.prog 33 #[.slice a n c, .slice b n' c', .int .i64 m, .int .i64 k] w (ResS (spcS m k xs ys) w) := by
 obtain ⟨hk1, hk2⟩ := hk
 have HX := Lib.hid hx
 have HY := Lib.hid hy
 have HS := Lib.hid hs
 have HS' := Lib.hid hs'
 have V1 := Lib.hid (fun W (h : Below w.heap.size w W) => rvalidS_any a n c xs m W (hx.below h) hs)
 have V2 := Lib.hid (fun W (h : Below w.heap.size w W) => rvalidS_any b n' c' ys m W (hy.below h) hs')
 have HV : Hid (spcS m k xs ys = if vldS xs m ≠ 0 then (vldS xs m, []) else if vldS ys m ≠ 0 then (vldS ys m, []) else if k < 1 ∨ m + 1 < k then (3, []) else nrmS m (mskS (firstW k) xs ++ mskS (-(firstW k) - 1) ys)) := Lib.hid rfl
 have P1 := Lib.hid (fun h => vld_parts (xs := xs) (n := m) h)
 have P2 := Lib.hid (fun h => vld_parts (xs := ys) (n := m) h)
 have hlx := hx.1
 have hly := hy.1
 clear hx hy hs hs'
 generalize vldS xs m = e1 at *
 generalize vldS ys m = e2 at *
 go_enter Tryz.func33, Tryz.ntmps33
 go_wp2_with fail
 refine (V1.out _ (Below.refl _ _)).mono ?_
 rintro en w1 ⟨rfl, hb1⟩
 have HB1 := Lib.hid hb1
 clear hb1
 by_cases hz : e1 = 0
 rotate_left
 ·
  have HF : Hid (spcS m k xs ys = (e1, [])) := Lib.hid (by rw [HV.out, if_pos hz])
  have hd : (e1 != 0) = true := by simpa using hz
  clear hz
  go_wp2_with fail
  go_ret2
  exact ResS.err HF.out HB1.out
 have p1 := P1.out hz
 have hd : (e1 != 0) = false := by simpa using hz
 have HZ := Lib.hid hz
 clear hz
 go_wp2_with fail
 refine (V2.out _ HB1.out).mono ?_
 rintro en w2 ⟨rfl, hb2⟩
 have HB2 := Lib.hid (below3 HB1.out hb2)
 clear hb2
 by_cases hz : e2 = 0
 rotate_left
 ·
  have HF : Hid (spcS m k xs ys = (e2, [])) := Lib.hid (by rw [HV.out, if_neg (by simpa using HZ.out), if_pos hz])
  have hd : (e2 != 0) = true := by simpa using hz
  clear hz
  go_wp2_with fail
  go_ret2
  exact ResS.err HF.out HB2.out
 have p2 := P2.out hz
 have hd : (e2 != 0) = false := by simpa using hz
 have HZ2 := Lib.hid hz
 clear hz
 obtain ⟨⟨m1, m2⟩, l1, _⟩ := p1
 obtain ⟨_, l2, _⟩ := p2
 by_cases hkk : k < 1 ∨ m + 1 < k
 ·
  have HF : Hid (spcS m k xs ys = (3, [])) := Lib.hid (by rw [HV.out, if_neg (by simpa using HZ.out), if_neg (by simpa using HZ2.out), if_pos hkk])
  rcases (show k < 1 ∨ (1 ≤ k ∧ m + 1 < k) by omega) with h | ⟨h, h'⟩
  all_goals
   clear hkk
   go_wp2_with fail
   go_ret2
   exact ResS.err HF.out HB2.out
 have HF : Hid (spcS m k xs ys = nrmS m (mskS (firstW k) xs ++ mskS (-(firstW k) - 1) ys)) := Lib.hid (by rw [HV.out, if_neg (by simpa using HZ.out), if_neg (by simpa using HZ2.out), if_neg hkk])
 have h1 : 1 ≤ k := by omega
 have h2 : k ≤ m + 1 := by omega
 have h3 : k ≤ 21 := by omega
 clear hkk
 go_upto_region 9 with fail
 go_cut [12] (fun s12 wx => s12 = .int .i64 (firstW k) ∧ w2 = wx)
 case first =>
  clear HF HV
  rcases n21 h1 h3 with rfl | rfl | rfl | rfl | rfl | rfl | rfl | rfl | rfl | rfl | rfl | rfl | rfl | rfl | rfl | rfl | rfl | rfl | rfl | rfl | rfl
  all_goals
   go_wp2_with fail
   go_meet
   exact ⟨rfl, rfl⟩
 case rest =>
  obtain ⟨rfl, hwc⟩ := hcut
  subst hwc
  have hF := firstW_bd h1 h3
  generalize firstW k = F at *
  have M1 := Lib.hid (rmasked_any a n c xs F w2 (HX.out.below HB2.out) (by omega))
  go_wp2_with fail
  refine M1.out.mono ?_
  rintro en w3 ⟨v3, rfl, hr3, hb3⟩
  obtain ⟨a3, c3, rfl, hc3, hs3⟩ := hr3.sat
  have HR3 := Lib.hid hr3
  have HB3 := Lib.hid hb3
  have ml := mskS_len F xs
  clear hr3 hs3 hb3 M1
  have HXE := Lib.hid (xor_neg hF.1 (by omega))
  have M2 := Lib.hid (rmasked_any b n' c' ys (bits .xor .i64 (-1) F) w3 (HY.out.below (below3 HB2.out HB3.out)) (by omega))
  have ml2 := mskS_len (bits .xor .i64 (-1) F) ys
  rw [← HXE.out] at HF
  have O1 := Lib.hid (msk_str (m := F) HS.out)
  have O2 := Lib.hid (msk_str (m := bits .xor .i64 (-1) F) HS'.out)
  generalize mskS F xs = X1 at *
  generalize mskS (bits .xor .i64 (-1) F) ys = X2 at *
  go_wp2_with fail
  refine M2.out.mono ?_
  rintro en w4 ⟨v4, rfl, hr4, hb4⟩
  obtain ⟨a4, c4, rfl, hc4, hs4⟩ := hr4.sat
  have HS4 := Lib.hid hs4
  have HR3b := Lib.hid (HR3.out.below hb4)
  have HB4 := Lib.hid (below3 HB3.out hb4)
  have hz4 := HB4.out.size
  clear hr4 hb4 hs4 M2
  go_wp2_with (at_builtin; refine wpList_app elemSes encSes rfl _ _ rfl w2.heap.size _ X1 rfl HR3b.out _ _ _ X2 rfl HS4.out (by omega) hz4 ?_)
  intro v5 w5 hr5 hb5 hg5 ho5
  obtain ⟨a5, c5, rfl, hc5, hs5⟩ := SRow.sat hr5
  have HB5 := Lib.hid (below3 HB2.out (HB4.out.trans hb5))
  have HO : Hid (StrOk (X1 ++ X2)) := Lib.hid (fun s hs => (List.mem_append.1 hs).elim (O1.out s) (O2.out s))
  have hl5 : (X1 ++ X2).length ≤ 1000000 := by rw [List.length_append]; omega
  have NN := Lib.hid (rnormal_any a5 (X1 ++ X2).length c5 (X1 ++ X2) m w5 hs5 HO.out hl5)
  rw [← HF.out] at NN
  clear hr5 hb5 hg5 ho5 hs5
  generalize (X1 ++ X2) = X at *
  go_wp2_with fail
  refine NN.out.mono ?_
  rintro en w6 ⟨v6, rfl, hr6, hb6⟩
  have HRF := Lib.hid (row_base hr6 HB5.out.size)
  have HBF := Lib.hid (below3 HB5.out hb6)
  clear hr6 hb6 NN
  generalize spcS m k xs ys = r at *
  obtain ⟨r1, r2⟩ := r
  go_wp2_with fail
  go_ret2
  exact ResS.mk rfl HRF.out HBF.out
end Go.Proofs.YtihbpggbpapcfaaGreatDoor

namespace Go.Proofs.YtihbpggbpapcfaaGreatDoor
open Go.RowKit

set_option maxRecDepth 100000 in
set_option maxHeartbeats 8000000 in
theorem rapply_any (a : Option Addr) (n c : Nat) (l : List Ses) (b : Option Addr) (n' c' : Nat) (cs : List Chg) (m : Int) (w : World) (hx : SAt w a n l) (hs : StrOk l) (hy : HAt w b n' cs) (hs' : COk cs) (hn' : n' ≤ 1000000) (hfl : (cs.flatMap (·.2.2)).length ≤ 1000000) :
  Calls Tryz.prog 68 #[.slice a n c, .slice b n' c', .int .i64 m] w (ResS (appS m l cs) w) := by
 have HX := Lib.hid hx
 have HY := Lib.hid hy
 have HS := Lib.hid hs
 have HS' := Lib.hid hs'
 have V1 := Lib.hid (fun W (h : Below w.heap.size w W) => rvalidS_any a n c l m W (hx.below h) hs)
 have P1 := Lib.hid (fun h => vld_parts (xs := l) (n := m) h)
 have HAF := Lib.hid (fun c hc => Nat.le_trans (flat_mem_le (cs := cs) c hc) hfl)
 have hlx := hx.1
 have hly := hy.len.1
 have HV : Hid (appS m l cs = if vldS l m ≠ 0 then (vldS l m, []) else if ordC none cs = false then (63, []) else if chgE l cs ≠ 0 then (chgE l cs, []) else if vldS ((clsL (clsC cs ++ clsS l)).flatMap (pickS l cs)) m ≠ 0 then (vldS ((clsL (clsC cs ++ clsS l)).flatMap (pickS l cs)) m, []) else (0, (clsL (clsC cs ++ clsS l)).flatMap (pickS l cs))) := Lib.hid rfl
 clear hx hy hs hs'
 generalize vldS l m = e1 at *
 go_enter Tryz.func68, Tryz.ntmps68
 go_wp2_with fail
 refine (V1.out _ (Below.refl _ _)).mono ?_
 rintro en w1 ⟨rfl, hb1⟩
 have HB1 := Lib.hid hb1
 clear hb1
 by_cases hz : e1 = 0
 rotate_left
 ·
  have HF : Hid (appS m l cs = (e1, [])) := Lib.hid (by rw [HV.out, if_pos hz])
  have hd : (e1 != 0) = true := by simpa using hz
  clear hz
  go_wp2_with fail
  go_ret2
  exact ResS.err HF.out HB1.out
 have p1 := P1.out hz
 have hd : (e1 != 0) = false := by simpa using hz
 have HV1 : Hid (appS m l cs = if ordC none cs = false then (63, []) else if chgE l cs ≠ 0 then (chgE l cs, []) else if vldS ((clsL (clsC cs ++ clsS l)).flatMap (pickS l cs)) m ≠ 0 then (vldS ((clsL (clsC cs ++ clsS l)).flatMap (pickS l cs)) m, []) else (0, (clsL (clsC cs ++ clsS l)).flatMap (pickS l cs))) := Lib.hid (by rw [HV.out, if_neg (by simpa using hz)])
 obtain ⟨_, l1, _⟩ := p1
 clear hz HV P1 V1
 have OC := Lib.hid (rordC_any b n' c' cs w1 (HY.out.below HB1.out))
 go_wp2_with fail
 refine OC.out.mono ?_
 rintro en w2 ⟨rfl, hq2⟩
 have HB2 := Lib.hid (below3 HB1.out (drew_bel hq2))
 clear hq2 OC
 cases hoc : ordC none cs
 ·
  have HF : Hid (appS m l cs = (63, [])) := Lib.hid (by rw [HV1.out, if_pos hoc])
  clear hoc
  go_wp2_with fail
  go_ret2
  exact ResS.err HF.out HB2.out
 have HV2 : Hid (appS m l cs = if chgE l cs ≠ 0 then (chgE l cs, []) else if vldS ((clsL (clsC cs ++ clsS l)).flatMap (pickS l cs)) m ≠ 0 then (vldS ((clsL (clsC cs ++ clsS l)).flatMap (pickS l cs)) m, []) else (0, (clsL (clsC cs ++ clsS l)).flatMap (pickS l cs))) := Lib.hid (by rw [HV1.out, if_neg (by rw [hoc]; simp)])
 have HOC := Lib.hid hoc
 clear hoc HV1
 have HX2 := Lib.hid (HX.out.below HB2.out)
 have HY2 := Lib.hid (HY.out.below HB2.out)
 go_wp2_with fail
 go_loopw [9] (fun i wr => ∃ j : Nat, j ≤ n' ∧ i = .int .i64 j ∧ Hid (chgE l (cs.drop j) = chgE l cs) ∧ Hid (Below w2.heap.size w2 wr)) (fun i _ => n' - (intOf i).toNat)
 case atStart => exact ⟨0, by omega, rfl, Lib.hid rfl, Lib.hid (Below.refl _ _)⟩
 case round =>
  obtain ⟨j, hj, rfl, HC, HB⟩ := hrel
  by_cases hlt : j < n'
  ·
   obtain ⟨b1, o1, x, p, q, rfl, g1, z1, x0, x1, x2, sp, sq⟩ := HAt.cells (HY2.out.below HB.out) hlt
   have HD := Lib.hid (chgE_drop (l := l) g1)
   have hmem := List.mem_of_getElem? g1
   have SP := Lib.hid (fun W (h : Below wr.heap.size wr W) => (sp.below h).2)
   have SQ := Lib.hid (fun W (h : Below wr.heap.size wr W) => (sq.below h).2)
   have hql : q.2.1 ≤ 1000000 := by rw [← sq.2.1]; exact HAF.out x hmem
   have q1 : (j : Int) < n' := by omega
   have q2 : (0 : Int) ≤ (j : Int) := by omega
   have xp0 := x0; have xp1 := x1; have xp2 := x2
   clear g1 sp sq hmem
   have OA := Lib.hid (fun W (h : Below wr.heap.size wr W) => rof_any a n c l x.1 W (HX2.out.below (below3 HB.out h)) (by omega))
   have OB := Lib.hid (fun W (h : Below wr.heap.size wr W) => rof_any q.1 q.2.1 q.2.2 x.2.2 x.1 W (SQ.out W h) hql)
   have BE := Lib.hid (bel_drew0 wr)
   have BR := Lib.hid (Below.refl wr.heap.size wr)
   have SM := Lib.hid (fun (A : Option Addr) (N C : Nat) (Z : List Ses) (W : World) (hA : SAt W A N Z) (h : Below wr.heap.size wr W) => rsame_any A N C p.1 p.2.1 p.2.2 Z x.2.1 W hA (SP.out W h))
   go_upto_region 9 with fail
   go_cut [46] (fun s46 wx => s46 = .bool (!decide (ofS l x.1 = x.2.1)) ∧ Below wr.heap.size wr wx)
   case first =>
    generalize ofS l x.1 = X1 at *
    go_region_held3 (fun w' => w'.cell? ⟨b1, o1 + j * 3, none⟩ = some (.string (arr x.1)) ∧ w'.cell? ⟨b1, o1 + j * 3 + 1, none⟩ = some (.slice p.1 p.2.1 p.2.2)) (first | (with_reducible exact ⟨x0, x1⟩) | go_keep) (first | (go_at_call 83; refine (OA.out _ (by first | with_reducible exact BR.out | with_reducible exact BE.out)).mono ?_; rintro e9 w9 ⟨v9, rfl, hr9, hb9⟩; have BQ : Below wr.heap.size wr w9 := (by first | with_reducible exact hb9 | with_reducible exact below3 BE.out hb9); obtain ⟨a9, c9, rfl, hc9, hs9⟩ := SRow.sat hr9; have HS9 := Lib.hid hs9; have x0 := below_cell9 BQ xp0; have x1 := below_cell9 BQ xp1; clear hr9 hb9 hs9) | (go_at_call 40; refine (SM.out _ _ _ X1 _ (by first | with_reducible exact HS9.out | exact HS9.out.below (bel_drew0 _)) (by first | with_reducible exact BQ | with_reducible exact below3 BQ (bel_drew0 _))).mono ?_; rintro e8 w8 ⟨rfl, hb8⟩; have BP : Below wr.heap.size wr w8 := (by first | with_reducible exact below3 BQ hb8 | with_reducible exact below3 (below3 BQ (bel_drew0 _)) hb8); have x0 := below_cell9 BP xp0; have x1 := below_cell9 BP xp1; clear hb8))
    all_goals (
     go_wp2_with fail
     go_meet
     exact ⟨rfl, BP⟩)
   case rest =>
    obtain ⟨rfl, hbz⟩ := hcut
    have HB3 := Lib.hid (below3 HB.out hbz)
    have x0 := below_cell9 hbz xp0
    have x2 := below_cell9 hbz xp2
    have HBZ := Lib.hid hbz
    clear hbz x1 xp0 xp1 xp2
    by_cases he : ofS l x.1 = x.2.1
    rotate_left
    ·
     have HF : Hid (appS m l cs = (62, [])) := Lib.hid (by
      have : chgE l cs = 62 := by rw [← HC.out, HD.out, if_pos (fun h => he h.symm)]
      rw [HV2.out, this]; rfl)
     have hdd : decide (ofS l x.1 = x.2.1) = false := decide_eq_false he
     rw [hdd]
     clear he hdd
     go_wp2_with fail
     go_ret2
     exact ResS.err HF.out (below3 HB2.out HB3.out)
    have hdd : decide (ofS l x.1 = x.2.1) = true := decide_eq_true he
    rw [hdd]
    have HD2 : Hid (chgE l (cs.drop j) = if (ofS x.2.2 x.1).length ≠ x.2.2.length then 1 else chgE l (cs.drop (j + 1))) := Lib.hid (by rw [HD.out, if_neg (by simpa using he.symm)])
    have HQL : Hid (x.2.2.length = q.2.1) := Lib.hid (SQ.out wr BR.out).1
    clear he hdd HD
    obtain ⟨wv, rfl⟩ : ∃ wv : World, wv = wc := ⟨_, rfl⟩
    have xp0 := x0; have xp2 := x2
    have BE2 := Lib.hid (bel_drew0 wv)
    have BR2 := Lib.hid (Below.refl wv.heap.size wv)
    have hol := ofS_len x.2.2 x.1
    have hol2 : (ofS x.2.2 x.1).length ≤ 1000000 := by have := HQL.out; omega
    clear hol
    go_upto_region 11 with fail
    go_cut [65] (fun s65 wx => s65 = .bool (((ofS x.2.2 x.1).length : Int) != (q.2.1 : Int)) ∧ Below wv.heap.size wv wx)
    case first =>
     generalize ofS x.2.2 x.1 = Y1 at *
     go_region_held3 (fun w' => w'.cell? ⟨b1, o1 + j * 3, none⟩ = some (.string (arr x.1)) ∧ w'.cell? ⟨b1, o1 + j * 3 + 2, none⟩ = some (.slice q.1 q.2.1 q.2.2)) (first | (with_reducible exact ⟨x0, x2⟩) | go_keep) ((go_at_call 83; refine (OB.out _ (by first | with_reducible exact HBZ.out | with_reducible exact below3 HBZ.out BE2.out)).mono ?_; rintro e9 w9 ⟨v9, rfl, hr9, hb9⟩; have BQ : Below wv.heap.size wv w9 := (by first | with_reducible exact hb9 | with_reducible exact below3 BE2.out hb9); obtain ⟨a9, c9, rfl, hc9, hs9⟩ := SRow.sat hr9; have x0 := below_cell9 BQ xp0; have x2 := below_cell9 BQ xp2; clear hr9 hb9 hs9))
     all_goals (
      go_wp2_with fail
      go_meet
      exact ⟨rfl, by assumption⟩)
    case rest =>
     obtain ⟨rfl, hbz⟩ := hcut
     have HB4 := Lib.hid (below3 HB3.out hbz)
     clear hbz
     by_cases hle : (ofS x.2.2 x.1).length = x.2.2.length
     ·
      have hd3 : (((ofS x.2.2 x.1).length : Int) != (q.2.1 : Int)) = false := by
       have := HQL.out
       rw [hle, this]; simp
      have HC2 : Hid (chgE l (cs.drop (j + 1)) = chgE l cs) := Lib.hid (by rw [← HC.out, HD2.out, if_neg (by simpa using hle)])
      rw [hd3]
      clear hd3 hle
      go_wp2_with fail
      go_roundw
      case rel => exact ⟨j + 1, by omega, by go_num, HC2, HB4⟩
      case measure => simp [intOf]; omega
     ·
      have hd3 : (((ofS x.2.2 x.1).length : Int) != (q.2.1 : Int)) = true := by
       have := HQL.out
       rw [bne_iff_ne]; omega
      have HF : Hid (appS m l cs = (1, [])) := Lib.hid (by
       have : chgE l cs = 1 := by rw [← HC.out, HD2.out, if_pos hle]
       rw [HV2.out, this]; rfl)
      rw [hd3]
      clear hd3 hle
      go_wp2_with fail
      go_ret2
      exact ResS.err HF.out (below3 HB2.out HB4.out)
  ·
   obtain rfl : n' = j := by omega
   have h0 : chgE l cs = 0 := by rw [← HC.out, List.drop_eq_nil_of_le (by omega), chgE]
   have HV3 : Hid (appS m l cs = if vldS ((clsL (clsS l ++ clsS (cs.flatMap (·.2.2)))).flatMap (rpick l cs)) m ≠ 0 then (vldS ((clsL (clsS l ++ clsS (cs.flatMap (·.2.2)))).flatMap (rpick l cs)) m, []) else (0, (clsL (clsS l ++ clsS (cs.flatMap (·.2.2)))).flatMap (rpick l cs))) := Lib.hid (by rw [HV2.out, if_neg (by simpa using h0), app_ref HOC.out h0])
   have HBO := Lib.hid (below3 HB2.out HB.out)
   have HX3 := Lib.hid (HX2.out.below HB.out)
   have HY3 := Lib.hid (HY2.out.below HB.out)
   clear h0 HV2 HC HX2 HY2
   obtain ⟨wo, rfl⟩ : ∃ wo : World, wo = wr := ⟨_, rfl⟩
   clear HB
   go_wp2_with fail
   go_loopw [10, 11] (fun v i wr => ∃ j : Nat, j ≤ n' ∧ i = .int .i64 j ∧ Hid (SRow wr wo.heap.size v ((cs.take j).flatMap (·.2.2))) ∧ Hid (Below wo.heap.size wo wr)) (fun _ i _ => n' - (intOf i).toNat)
   case atStart => exact ⟨0, by omega, rfl, Lib.hid (KRow.nil _ _ _ _ _), Lib.hid (Below.refl _ _)⟩
   case round =>
    obtain ⟨j, hj, rfl, HR, HB⟩ := hrel
    by_cases hlt : j < n'
    ·
     obtain ⟨b1, o1, x, p, q, rfl, g1, z1, x0, x1, x2, sp, sq⟩ := HAt.cells (HY3.out.below HB.out) hlt
     have HT := Lib.hid (flat_take (fun c : Chg => c.2.2) g1)
     have hfl2 := flat_take_le (cs := cs) (j + 1)
     rw [HT.out, List.length_append] at hfl2
     have q1 : (j : Int) < n' := by omega
     have q2 : (0 : Int) ≤ (j : Int) := by omega
     have hbs := HB.out.size
     have SQ := Lib.hid sq.2
     clear g1 sp sq
     generalize (cs.take j).flatMap (fun c : Chg => c.2.2) = L at *
     go_wp2_with (at_builtin; refine wpList_app elemSes encSes rfl _ _ rfl wo.heap.size _ L rfl HR.out _ _ _ x.2.2 rfl SQ.out (by omega) hbs ?_)
     intro v6 w6 hr6 hb6 hg6 ho6
     have HRF : Hid (SRow w6 wo.heap.size v6 ((cs.take (j + 1)).flatMap (fun c : Chg => c.2.2))) := Lib.hid (by rw [HT.out]; exact hr6)
     have HBF := Lib.hid (HB.out.trans hb6)
     clear hr6 hb6 hg6 ho6
     go_wp2_with fail
     go_roundw
     case rel => exact ⟨j + 1, by omega, by go_num, HRF, HBF⟩
     case measure => simp [intOf]; omega
    ·
     obtain rfl : n' = j := by omega
     have HRN : Hid (SRow wr wo.heap.size _ (cs.flatMap (fun c : Chg => c.2.2))) := Lib.hid (by have := HR.out; rw [List.take_of_length_le (by omega)] at this; exact this)
     obtain ⟨a4, c4, rfl, hc4, hs4⟩ := SRow.sat HRN.out
     have HS4 := Lib.hid hs4
     have HB4 := Lib.hid (below3 HBO.out HB.out)
     have HX4 := Lib.hid (HX3.out.below HB.out)
     have HY4 := Lib.hid (HY3.out.below HB.out)
     clear hs4 HR HB HRN HX3 HY3
     have HSO : Hid (∀ k, StrOk (rpick l cs k)) := Lib.hid (fun k => pick_str HS.out HS'.out k)
     have hlc : (clsS l).length ≤ 96 := by unfold clsS; simp; omega
     have hlc2 : (clsS (cs.flatMap (fun c : Chg => c.2.2))).length ≤ 1000000 := by unfold clsS; rw [List.length_map]; exact hfl
     have hcl := clsL_le (clsS l ++ clsS (cs.flatMap (fun c : Chg => c.2.2)))
     rw [List.length_append] at hcl
     have CL := Lib.hid (rclasses_any a n c l a4 (cs.flatMap (fun c : Chg => c.2.2)).length c4 (cs.flatMap (fun c : Chg => c.2.2)) wr HX4.out HS4.out (by omega) hfl)
     generalize cs.flatMap (fun c : Chg => c.2.2) = NW at *
     generalize clsL (clsS l ++ clsS NW) = K at *
     go_wp2_with fail
     refine CL.out.mono ?_
     rintro en w5 ⟨v5, rfl, hr5, hb5⟩
     obtain ⟨a5, c5, rfl, hc5, hs5⟩ := KRow.at_ encStr hr5
     have HK5 := Lib.hid hs5
     have HB5 := Lib.hid (below3 HB4.out hb5)
     have HX5 := Lib.hid (HX4.out.below hb5)
     have HY5 := Lib.hid (HY4.out.below hb5)
     clear hr5 hb5 hs5 CL HX4 HY4 HS4
     have HN1 : Hid (∀ k, (rpick l cs k).length ≤ 1000000) := Lib.hid (rpick_le (by omega) HAF.out)
     have hkl : K.length ≤ 1000096 := by omega
     generalize hp : K.length = p at *
     have HP := Lib.hid hp
     clear hp hcl hlc hlc2
     go_wp2_with fail
     go_loopw [12, 14] (fun v i wr => ∃ j : Nat, j ≤ p ∧ i = .int .i64 j ∧ Hid (SRow wr w5.heap.size v ((K.take j).flatMap (rpick l cs))) ∧ Hid (Below w5.heap.size w5 wr)) (fun _ i _ => p - (intOf i).toNat)
     case atStart => exact ⟨0, by omega, rfl, Lib.hid (KRow.nil _ _ _ _ _), Lib.hid (Below.refl _ _)⟩
     case round =>
      obtain ⟨j, hj, rfl, HR, HB⟩ := hrel
      by_cases hlt : j < p
      ·
       obtain ⟨b2, o2, k1, rfl, g1, z1, x0⟩ := CAt.cells (HK5.out.below HB.out) hlt
       have HT := Lib.hid (flat_take (rpick l cs) g1)
       have hfl3 := flat_len_mul (rpick l cs) 1000000 HN1.out (K.take j)
       rw [List.length_take] at hfl3
       have hjk : ((K.take j).flatMap (rpick l cs)).length ≤ j * 1000000 := by
        refine Nat.le_trans hfl3 (Nat.mul_le_mul_right _ (by omega))
       have q1 : (j : Int) < p := by omega
       have q2 : (0 : Int) ≤ (j : Int) := by omega
       have hnk := HN1.out k1
       clear g1 hfl3
       have OA := Lib.hid (rof_any a n c l k1 wr (HX5.out.below HB.out) (by omega))
       have hol := ofS_len l k1
       generalize (K.take j).flatMap (rpick l cs) = L at *
       go_wp2_with fail
       refine OA.out.mono ?_
       rintro en w6 ⟨v6, rfl, hr6, hb6⟩
       obtain ⟨a6, c6, rfl, hc6, hs6⟩ := SRow.sat hr6
       have HS6 := Lib.hid hs6
       have HR6 := Lib.hid (row_below HR.out hb6)
       have HB6 := Lib.hid (below3 HB.out hb6)
       have x0 := below_cell9 hb6 x0
       clear hr6 hb6 hs6 OA
       obtain ⟨wu, rfl⟩ : ∃ wu : World, wu = w6 := ⟨_, rfl⟩
       go_wp2_with fail
       go_loopw [15, 16] (fun v i wr => ∃ (r : Nat) (s : Sl), r ≤ n' ∧ i = .int .i64 r ∧ v = .slice s.1 s.2.1 s.2.2 ∧ Hid (SAt wr s.1 s.2.1 (rpick l (cs.take r) k1)) ∧ Hid (Below wu.heap.size wu wr)) (fun _ i _ => n' - (intOf i).toNat)
       case atStart => exact ⟨0, (a6, (ofS l k1).length, c6), by omega, rfl, rfl, HS6, Lib.hid (Below.refl _ _)⟩
       case round =>
        obtain ⟨r, s, hr, rfl, rfl, HP1, HB7⟩ := hrel
        by_cases hlr : r < n'
        ·
         obtain ⟨b1, o1, x, p', q, rfl, g1, z1', y0, y1, y2, sp, sq⟩ := HAt.cells (HY5.out.below (below3 HB6.out HB7.out)) hlr
         have HT2 := Lib.hid (rpick_take (l := l) (k := k1) g1)
         have x0 := below_cell9 HB7.out x0
         have q3 : (r : Int) < n' := by omega
         have q4 : (0 : Int) ≤ (r : Int) := by omega
         have SQ := Lib.hid (fun W (h : Below wr.heap.size wr W) => (sq.below h).2)
         clear g1 sp sq
         go_upto_region 27 with fail
         by_cases hk : x.1 = k1
         ·
          have p1 : ((arr x.1).toList == (arr k1).toList) = true := by rw [hk]; simp
          have HN2 : Hid (rpick l (cs.take (r + 1)) k1 = x.2.2) := Lib.hid (by rw [HT2.out, if_pos hk])
          clear hk
          go_quiet (fail)
          go_wp2_with fail
          go_roundw
          case rel => exact ⟨r + 1, q, by omega, by go_num, rfl, by rw [HN2.out]; exact Lib.hid (SQ.out _ (below_drewN _ _)), Lib.hid (below3 HB7.out (below_drewN _ _))⟩
          case measure => simp [intOf]; omega
         ·
          have p1 : ((arr x.1).toList == (arr k1).toList) = false := by rw [arr_toList, arr_toList]; simpa using hk
          have HN2 : Hid (rpick l (cs.take (r + 1)) k1 = rpick l (cs.take r) k1) := Lib.hid (by rw [HT2.out, if_neg hk])
          clear hk
          go_quiet (fail)
          go_wp2_with fail
          go_roundw
          case rel => exact ⟨r + 1, s, by omega, by go_num, rfl, by rw [HN2.out]; exact Lib.hid (HP1.out.below (below_drewN _ _)), Lib.hid (below3 HB7.out (below_drewN _ _))⟩
          case measure => simp [intOf]; omega
        ·
         obtain rfl : n' = r := by omega
         have HP2 : Hid (SAt wr s.1 s.2.1 (rpick l cs k1)) := Lib.hid (by have := HP1.out; rw [List.take_of_length_le (by omega)] at this; exact this)
         have HR7 := Lib.hid (row_below HR6.out HB7.out)
         have HB8 := Lib.hid (below3 HB6.out HB7.out)
         have hbs := HB8.out.size
         clear HP1
         go_wp2_with (at_builtin; refine wpList_app elemSes encSes rfl _ _ rfl w5.heap.size _ L rfl HR7.out _ _ _ (rpick l cs k1) rfl HP2.out (by omega) hbs ?_)
         intro v8 w8 hr8 hb8 hg8 ho8
         have HRF : Hid (SRow w8 w5.heap.size v8 ((K.take (j + 1)).flatMap (rpick l cs))) := Lib.hid (by rw [HT.out]; exact hr8)
         have HBF := Lib.hid (HB8.out.trans hb8)
         clear hr8 hb8 hg8 ho8
         go_wp2_with fail
         go_roundw
         case rel => exact ⟨j + 1, by omega, by go_num, HRF, HBF⟩
         case measure => simp [intOf]; omega
      ·
       obtain rfl : p = j := by omega
       have HRK : Hid (SRow wr w5.heap.size _ (K.flatMap (rpick l cs))) := Lib.hid (by have := HR.out; rw [List.take_of_length_le (by have := HP.out; omega)] at this; exact this)
       have HSK : Hid (StrOk (K.flatMap (rpick l cs))) := Lib.hid (fun s hs => by
        obtain ⟨k, _, hk⟩ := List.mem_flatMap.1 hs
        exact HSO.out k s hk)
       have HB9 := Lib.hid (below3 HB5.out HB.out)
       have hz9 := HB5.out.size
       clear HR
       generalize K.flatMap (rpick l cs) = X at *
       obtain ⟨a9, c9, rfl, hc9, hs9⟩ := SRow.sat HRK.out
       have VX := Lib.hid (rvalidS_any a9 X.length c9 X m wr hs9 HSK.out)
       clear hs9
       generalize vldS X m = ex at *
       go_wp2_with fail
       refine VX.out.mono ?_
       rintro en w10 ⟨rfl, hb10⟩
       have HRX := Lib.hid (row_base (row_below HRK.out hb10) hz9)
       have HBX := Lib.hid (below3 HB9.out hb10)
       clear hb10 VX
       by_cases hex : ex = 0
       ·
        have HF : Hid (appS m l cs = (0, X)) := Lib.hid (by rw [HV3.out, if_neg (by simpa using hex)])
        have hd : (ex != 0) = false := by simpa using hex
        clear hex
        go_wp2_with fail
        go_ret2
        exact ResS.mk HF.out HRX.out HBX.out
       ·
        have HF : Hid (appS m l cs = (ex, [])) := Lib.hid (by rw [HV3.out, if_pos hex])
        have hd : (ex != 0) = true := by simpa using hex
        clear hex
        go_wp2_with fail
        go_ret2
        exact ResS.err HF.out HBX.out
end Go.Proofs.YtihbpggbpapcfaaGreatDoor

namespace Go.Proofs.YtihbpggbpapcfaaGreatDoor
open Go.RowKit

set_option maxRecDepth 100000 in
set_option maxHeartbeats 16000000 in
theorem ropen_any (a : Option Addr) (n c : Nat) (b : L8) (m : Int) (w : World) (hx : BAt w a n b) (hc : n ≤ c) :
  Calls Tryz.prog 27 #[.slice a n c, .int .i64 m] w (OpnR (opnS m b) w) := by
 have hl := hx.1
 have n1 := hx.2.1
 have HX := Lib.hid hx
 have HO : Hid (opnS m b = if m < 1 ∨ 20 < m then (3, lgZ, 0) else if 1048576 < b.length then (2, lgZ, 0)
  else (0, (b.take (b.length - (opnL m b).2.2.length), ((b.length - (opnL m b).2.2.length : Nat) : Int), (opnL m b).1, (opnL m b).2.1), ((opnL m b).2.2.length : Int))) := Lib.hid rfl
 clear hx
 have HR0 := Lib.hid (BX.mk0 (vs := #[.slice none 0 0, .int .i64 0, .slice none 0 0, .slice none 0 0]) (T := 51) w)
 by_cases hm : m < 1 ∨ 20 < m
 ·
  have HF : Hid (opnS m b = (3, lgZ, 0)) := Lib.hid (by rw [HO.out, if_pos hm])
  rcases (show m < 1 ∨ (1 ≤ m ∧ 20 < m) by omega) with h | ⟨h, h'⟩
  all_goals
   clear hm
   go_enter Tryz.func27, Tryz.ntmps27
   go_upto_region 2 with fail
   generalize w.alloc (.cells #[.slice none 0 0, .int .i64 0, .slice none 0 0, .slice none 0 0] 51) = wa at *
   obtain ⟨R, hR⟩ : ∃ R, R = w.heap.size := ⟨_, rfl⟩
   rw [← hR] at HR0 ⊢
   clear hR
   have HR9 := Lib.hid ((((HR0.out.set 0 (.slice none 0 0)).set 1 (.int .i64 0)).set 2 (.slice none 0 0)).set 3 (.slice none 0 0))
   obtain ⟨⟨rc0, rc1, rc2, rc3⟩, rf0, rf1, rf2, rf3⟩ := HR0.out.four
   go_wp2_with fail
   generalize (((World.setCell wa ⟨R, 0, none⟩ (.slice none 0 0)).setCell ⟨R, 1, none⟩ (.int .i64 0)).setCell ⟨R, 2, none⟩ (.slice none 0 0)).setCell ⟨R, 3, none⟩ (.slice none 0 0) = W9 at *
   clear rc0 rc1 rc2 rc3 rf0 rf1 rf2 rf3
   have HR8 : Hid (BX w W9 R #[.slice none 0 0, .int .i64 0, .slice none 0 0, .slice none 0 0] 51) := HR9
   obtain ⟨⟨rc0, rc1, rc2, rc3⟩, _⟩ := HR8.out.four
   refine bodyPost_ret (v := .tuple #[.agg #[.slice none 0 0, .int .i64 0, .slice none 0 0, .slice none 0 0], .int .i64 0, .int .i64 3]) (by simp [results, Tryz.results27, go_sem, rc0, rc1, rc2, rc3]) rfl ?_
   rw [HF.out]
   exact ⟨_, rfl, LogO.zero _ _, HR8.out.bl⟩
 have m1 : 1 ≤ m := by omega
 have m2 : m ≤ 20 := by omega
 by_cases hn : 1048576 < n
 ·
  have HF : Hid (opnS m b = (2, lgZ, 0)) := Lib.hid (by rw [HO.out, if_neg hm, if_pos (by omega)])
  clear hm
  have h8 : (1048576 : Int) < n := by omega
  go_enter Tryz.func27, Tryz.ntmps27
  go_upto_region 4 with fail
  generalize w.alloc (.cells #[.slice none 0 0, .int .i64 0, .slice none 0 0, .slice none 0 0] 51) = wa at *
  obtain ⟨R, hR⟩ : ∃ R, R = w.heap.size := ⟨_, rfl⟩
  rw [← hR] at HR0 ⊢
  clear hR
  have HR9 := Lib.hid ((((HR0.out.set 0 (.slice none 0 0)).set 1 (.int .i64 0)).set 2 (.slice none 0 0)).set 3 (.slice none 0 0))
  obtain ⟨⟨rc0, rc1, rc2, rc3⟩, rf0, rf1, rf2, rf3⟩ := HR0.out.four
  go_wp2_with fail
  generalize (((World.setCell wa ⟨R, 0, none⟩ (.slice none 0 0)).setCell ⟨R, 1, none⟩ (.int .i64 0)).setCell ⟨R, 2, none⟩ (.slice none 0 0)).setCell ⟨R, 3, none⟩ (.slice none 0 0) = W9 at *
  clear rc0 rc1 rc2 rc3 rf0 rf1 rf2 rf3
  have HR8 : Hid (BX w W9 R #[.slice none 0 0, .int .i64 0, .slice none 0 0, .slice none 0 0] 51) := HR9
  obtain ⟨⟨rc0, rc1, rc2, rc3⟩, _⟩ := HR8.out.four
  refine bodyPost_ret (v := .tuple #[.agg #[.slice none 0 0, .int .i64 0, .slice none 0 0, .slice none 0 0], .int .i64 0, .int .i64 2]) (by simp [results, Tryz.results27, go_sem, rc0, rc1, rc2, rc3]) rfl ?_
  rw [HF.out]
  exact ⟨_, rfl, LogO.zero _ _, HR8.out.bl⟩
 have HP : Hid (opnS m b = (0, (b.take (b.length - (opnL m b).2.2.length), ((b.length - (opnL m b).2.2.length : Nat) : Int), (opnL m b).1, (opnL m b).2.1), ((opnL m b).2.2.length : Int))) := Lib.hid (by rw [HO.out, if_neg hm, if_neg (by omega)])
 clear HO hm
 have h8 : (n : Int) ≤ 1048576 := by omega
 go_enter Tryz.func27, Tryz.ntmps27
 go_upto_region 5 with fail
 generalize w.alloc (.cells #[.slice none 0 0, .int .i64 0, .slice none 0 0, .slice none 0 0] 51) = wa at *
 obtain ⟨R, hR⟩ : ∃ R, R = w.heap.size := ⟨_, rfl⟩
 rw [← hR] at HR0 ⊢
 clear hR
 have HG0 := Lib.hid (BX.mk0 (vs := #[.slice none 0 0, .int .i64 0, .slice none 0 0, .slice none 0 0]) (T := 51) wa)
 go_upto_block 0 with fail
 generalize wa.alloc (.cells #[.slice none 0 0, .int .i64 0, .slice none 0 0, .slice none 0 0] 51) = wb at *
 obtain ⟨G, hG⟩ : ∃ G, G = wa.heap.size := ⟨_, rfl⟩
 rw [← hG] at HG0 ⊢
 clear hG
 have hgb := HG0.out.lt
 have HG0s := Lib.hid HG0.out.bl.size
 go_cut [8] (fun s8 wx => ∃ (k : Nat) (vs : List Ver) (ss : List Ses) (s1 s2 : Sl), s8 = .int .i64 k ∧ k ≤ b.length ∧ Hid (opnL m b = (vs, ss, b.drop k)) ∧ Hid (BX wa wx G #[.slice none 0 0, .int .i64 0, .slice s1.1 s1.2.1 s1.2.2, .slice s2.1 s2.2.1 s2.2.2] 51) ∧ Hid (VRow wx wb.heap.size (slV s1) vs) ∧ Hid (SRow wx wb.heap.size (slV s2) ss) ∧ wb.heap.size ≤ wx.heap.size)
 case first =>
  go_wp2_with fail
  go_loopw [8, 9] (fun p q wr => ∃ (k : Nat) (vs : List Ver) (ss : List Ses) (s1 s2 : Sl), p = .int .i64 k ∧ q = .int .i64 (lastW vs) ∧ Hid (OpI m b k vs ss) ∧ Hid (BX wa wr G #[.slice none 0 0, .int .i64 0, .slice s1.1 s1.2.1 s1.2.2, .slice s2.1 s2.2.1 s2.2.2] 51) ∧ Hid (VRow wr wb.heap.size (slV s1) vs) ∧ Hid (SRow wr wb.heap.size (slV s2) ss) ∧ Hid (wb.heap.size ≤ wr.heap.size)) (fun p _ _ => n - (intOf p).toNat)
  case atStart => exact ⟨0, [], [], (none, 0, 0), (none, 0, 0), rfl, rfl, Lib.hid (OpI.start m b), HG0, Lib.hid (VRow.nil _ _), Lib.hid (World.ownsRow_nil _ _ _ _), Lib.hid (Nat.le_refl _)⟩
  case round =>
   obtain ⟨k, vs, ss, ⟨va, vn, vc⟩, ⟨sa, sn, sc⟩, rfl, rfl, HI, HG, HV, HS, HZ⟩ := hrel
   have hk := HI.out.le
   have k1 : (0 : Int) ≤ k := by omega
   have k2 : (k : Int) ≤ n := by omega
   have k3 : (k : Int) ≤ c := by omega
   have k4 : (n : Int) ≤ c := by omega
   have HBw := Lib.hid (below3 HR0.out.bl HG.out.bl)
   have RD := Lib.hid (rd_drop (b := b) (k := k) (by omega))
   go_upto_region 7 with fail
   go_cut [10, 11, 12] (fun s10 s11 s12 wx => RdC (decV (b.drop k)) wr s10 s11 s12 wx)
   case first =>
    by_cases hck : c = k
    ·
     obtain rfl : k = c := hck.symm
     rcases HX.out.2.2 with h0 | ⟨ba, oa, rfl, _⟩
     ·
      have hd0 : ∀ a' : Option Addr, BAt wr a' 0 (b.drop k) := fun a' => ⟨by rw [List.length_drop]; omega, by omega, Or.inl rfl⟩
      subst h0
      go_wp2_with fail
      all_goals (
       refine (rdecode_any _ _ _ (b.drop k) wr (hd0 _) (Nat.zero_le _) (by omega)).mono ?_
       rintro en w1 h1
       rw [RD.out] at h1
       obtain ⟨v0, v1, ⟨ta, tn, tc⟩, x1, ok1, rfl, hb1, hq⟩ := h1.two
       have HQ := Lib.hid hq
       have HB1 := Lib.hid hb1
       clear h1 hq hb1 hd0
       go_wp2_with fail
       go_meet
       exact ⟨_, v0, v1, (ta, tn, tc), x1, ok1, rfl, rfl, rfl, ⟨heap_alloc_new _ _, HB1.out.size, HB1.out.alloc HB1.out.size _⟩, HQ.out.imp id (fun h => ⟨h.1, h.2.imp fun v hv => ⟨hv.1, hv.2.1, hv.2.2.1, hv.2.2.2.1, hv.2.2.2.2.below ((Below.refl _ _).alloc (Nat.le_refl _) _)⟩⟩)⟩)
     ·
      have hd1 : BAt wr (some ⟨ba, oa + k, none⟩) (n - k) (b.drop k) := by
       have := KAt.drop (HX.out.below HBw.out) (by omega : k ≤ n)
       rw [Nat.mul_one] at this; exact this
      have hd0 : n - k = 0 → BAt wr (some ⟨ba, oa, none⟩) (n - k) (b.drop k) := fun h => ⟨by rw [List.length_drop, hl], by omega, Or.inl h⟩
      go_wp2_with fail
      all_goals (
       refine (rdecode_any _ _ _ (b.drop k) wr (by first | exact hd1 | exact hd0 (by omega) | (have h := hd0 (by omega); rw [show n - k = 0 by omega] at h; exact h)) (by omega) (by omega)).mono ?_
       rintro en w1 h1
       rw [RD.out] at h1
       obtain ⟨v0, v1, ⟨ta, tn, tc⟩, x1, ok1, rfl, hb1, hq⟩ := h1.two
       have HQ := Lib.hid hq
       have HB1 := Lib.hid hb1
       clear h1 hq hb1 hd0 hd1
       go_wp2_with fail
       go_meet
       exact ⟨_, v0, v1, (ta, tn, tc), x1, ok1, rfl, rfl, rfl, ⟨heap_alloc_new _ _, HB1.out.size, HB1.out.alloc HB1.out.size _⟩, HQ.out.imp id (fun h => ⟨h.1, h.2.imp fun v hv => ⟨hv.1, hv.2.1, hv.2.2.1, hv.2.2.2.1, hv.2.2.2.2.below ((Below.refl _ _).alloc (Nat.le_refl _) _)⟩⟩)⟩)
    ·
     have hck2 : ¬ k = c := fun h => hck h.symm
     rcases HX.out.2.2 with h0 | ⟨ba, oa, rfl, _⟩
     ·
      have hd0 : ∀ a' : Option Addr, BAt wr a' 0 (b.drop k) := fun a' => ⟨by rw [List.length_drop]; omega, by omega, Or.inl rfl⟩
      subst h0
      go_wp2_with fail
      all_goals (
       refine (rdecode_any _ _ _ (b.drop k) wr (hd0 _) (Nat.zero_le _) (by omega)).mono ?_
       rintro en w1 h1
       rw [RD.out] at h1
       obtain ⟨v0, v1, ⟨ta, tn, tc⟩, x1, ok1, rfl, hb1, hq⟩ := h1.two
       have HQ := Lib.hid hq
       have HB1 := Lib.hid hb1
       clear h1 hq hb1 hd0
       go_wp2_with fail
       go_meet
       exact ⟨_, v0, v1, (ta, tn, tc), x1, ok1, rfl, rfl, rfl, ⟨heap_alloc_new _ _, HB1.out.size, HB1.out.alloc HB1.out.size _⟩, HQ.out.imp id (fun h => ⟨h.1, h.2.imp fun v hv => ⟨hv.1, hv.2.1, hv.2.2.1, hv.2.2.2.1, hv.2.2.2.2.below ((Below.refl _ _).alloc (Nat.le_refl _) _)⟩⟩)⟩)
     ·
      have hd1 : BAt wr (some ⟨ba, oa + k, none⟩) (n - k) (b.drop k) := by
       have := KAt.drop (HX.out.below HBw.out) (by omega : k ≤ n)
       rw [Nat.mul_one] at this; exact this
      have hd0 : n - k = 0 → BAt wr (some ⟨ba, oa, none⟩) (n - k) (b.drop k) := fun h => ⟨by rw [List.length_drop, hl], by omega, Or.inl h⟩
      go_wp2_with fail
      all_goals (
       refine (rdecode_any _ _ _ (b.drop k) wr (by first | exact hd1 | exact hd0 (by omega) | (have h := hd0 (by omega); rw [show n - k = 0 by omega] at h; exact h)) (by omega) (by omega)).mono ?_
       rintro en w1 h1
       rw [RD.out] at h1
       obtain ⟨v0, v1, ⟨ta, tn, tc⟩, x1, ok1, rfl, hb1, hq⟩ := h1.two
       have HQ := Lib.hid hq
       have HB1 := Lib.hid hb1
       clear h1 hq hb1 hd0 hd1
       go_wp2_with fail
       go_meet
       exact ⟨_, v0, v1, (ta, tn, tc), x1, ok1, rfl, rfl, rfl, ⟨heap_alloc_new _ _, HB1.out.size, HB1.out.alloc HB1.out.size _⟩, HQ.out.imp id (fun h => ⟨h.1, h.2.imp fun v hv => ⟨hv.1, hv.2.1, hv.2.2.1, hv.2.2.2.1, hv.2.2.2.2.below ((Below.refl _ _).alloc (Nat.le_refl _) _)⟩⟩)⟩)
   case rest =>
    obtain ⟨Bv, v0, v1, ⟨ta, tn, tc⟩, x1, ok1, rfl, rfl, rfl, hbx, hq⟩ := hcut
    obtain ⟨w1, rfl⟩ : ∃ w1 : World, w1 = wc := ⟨_, rfl⟩
    have HX1 := Lib.hid hbx
    have q0 := hbx.cell 0
    have q1 := hbx.cell 1
    have q2 := hbx.cell 2
    simp only [List.getElem?_toArray, List.getElem?_cons_zero, List.getElem?_cons_succ] at q0 q1 q2
    have HG1 := Lib.hid (HG.out.next hbx.bl)
    have HV1 := Lib.hid (HV.out.below hbx.bl)
    have HS1 := Lib.hid (row_below HS.out hbx.bl)
    have hz1 := hbx.bl.size
    clear hbx
    obtain ⟨⟨g0, g1, g2, g3⟩, gf0, gf1, gf2, gf3⟩ := HG1.out.four
    rcases hq with ⟨rfl, hdn⟩ | ⟨rfl, v, hdv, rfl, rfl, rfl, hhr⟩
    ·
     have HSTP := Lib.hid (HI.out.stop (fun v h => by rw [hdn] at h; cases h))
     clear hdn
     go_wp2_with fail
     go_meet
     exact ⟨k, vs, ss, (va, vn, vc), (sa, sn, sc), rfl, hk, HSTP, HG1, HV1, HS1, by have := HZ.out; omega⟩
    ·
     obtain ⟨hfr, hel, hle⟩ := dec_facts (b := b) (k := k) (by omega) hdv
     have HFO : Hid (folV m vs ss v = none → opnL m b = (vs, ss, b.drop k)) := Lib.hid (fun h => HI.out.stop (fun u hu => by rw [hdv] at hu; cases hu; exact h))
     have HST := Lib.hid (fun next (h : folV m vs ss v = some next) => HI.out.step (by omega) hdv h)
     have hvl : vs.length = vn := by
      obtain ⟨rs, h1, h2⟩ := HV1.out
      obtain ⟨_, _, e, _, _⟩ := KRow.at_ encVer h1
      unfold slV at e
      cases e
      exact h2.1.symm
     have hvn := HI.out.cnt
     have HFV : Hid (v.1 ≠ (vs.length : Int) + 1 ∨ m < v.2.1 ∨ v.2.1 < lastW vs → folV m vs ss v = none) := Lib.hid (fun h => by unfold folV; rw [if_pos h])
     clear hdv
     by_cases hc1 : v.1 = (vn : Int) + 1
     rotate_left
     ·
      have HSTP := Lib.hid (HFO.out (HFV.out (Or.inl (by rw [hvl]; exact hc1))))
      have hd : (v.1 != (vn : Int) + 1) = true := by simpa using hc1
      go_wp2_with fail
      go_meet
      exact ⟨k, vs, ss, (va, vn, vc), (sa, sn, sc), rfl, hk, HSTP, HG1, HV1, HS1, by have := HZ.out; omega⟩
     have hd : (v.1 != (vn : Int) + 1) = false := by simpa using hc1
     by_cases hc2 : v.2.1 < lastW vs
     ·
      have HSTP := Lib.hid (HFO.out (HFV.out (Or.inr (Or.inr hc2))))
      clear hc1
      go_wp2_with fail
      go_meet
      exact ⟨k, vs, ss, (va, vn, vc), (sa, sn, sc), rfl, hk, HSTP, HG1, HV1, HS1, by have := HZ.out; omega⟩
     by_cases hc3 : m < v.2.1
     ·
      have HSTP := Lib.hid (HFO.out (HFV.out (Or.inr (Or.inl hc3))))
      have hc2' : lastW vs ≤ v.2.1 := by omega
      clear hc1 hc2
      go_wp2_with fail
      go_meet
      exact ⟨k, vs, ss, (va, vn, vc), (sa, sn, sc), rfl, hk, HSTP, HG1, HV1, HS1, by have := HZ.out; omega⟩
     have hc2' : lastW vs ≤ v.2.1 := by omega
     have hc3' : v.2.1 ≤ m := by omega
     have ecn := enc_cnt hel
     have hhl : v.2.2.length = tn := (hv_of hhr).2.len.1
     have AP := Lib.hid (rapply_any sa sn sc ss ta tn tc v.2.2 m w1 (sv_of HS1.out).2 HI.out.sok.str (hv_of hhr).2 (frm_vok hfr).cok (by omega) ecn.2)
     have HHR := Lib.hid hhr
     have HFA : Hid ((appS m ss v.2.2).1 ≠ 0 → folV m vs ss v = none) := Lib.hid (fun h => by
      unfold folV
      rw [if_neg (by rw [hvl]; omega), if_pos h])
     clear hc2 hc3 ecn hhl hhr
     go_wp2_with fail
     refine AP.out.mono ?_
     rintro en w2 ⟨vx, rfl, hr2, hb2⟩
     have HG1 := Lib.hid (HG1.out.next hb2)
     have HV1 := Lib.hid (HV1.out.below hb2)
     have HS1 := Lib.hid (row_below HS1.out hb2)
     have HX1 := Lib.hid (HX1.out.next hb2)
     have HHR := Lib.hid (HHR.out.below hb2)
     have hz1 := Nat.le_trans hz1 hb2.size
     have HNX := Lib.hid hr2
     clear hr2 hb2 AP g0 g1 g2 g3 gf0 gf1 gf2 gf3 q0 q1 q2
     obtain ⟨⟨g0, g1, g2, g3⟩, gf0, gf1, gf2, gf3⟩ := HG1.out.four
     by_cases hap : (appS m ss v.2.2).1 = 0
     rotate_left
     ·
      have HSTP := Lib.hid (HFO.out (HFA.out hap))
      have hd2 : ((appS m ss v.2.2).1 != 0) = true := by simpa using hap
      clear hap
      generalize (appS m ss v.2.2).1 = ea at *
      go_wp2_with fail
      go_meet
      exact ⟨k, vs, ss, (va, vn, vc), (sa, sn, sc), rfl, hk, HSTP, HG1, HV1, HS1, by have := HZ.out; omega⟩
     have hd2 : ((appS m ss v.2.2).1 != 0) = false := by simpa using hap
     have HVX := Lib.hid (app_vld hap)
     have HFS : Hid (spcS m v.2.1 ss (appS m ss v.2.2).2 ≠ (0, (appS m ss v.2.2).2) → folV m vs ss v = none) := Lib.hid (fun h => by
      unfold folV
      rw [if_neg (by rw [hvl]; omega), if_neg (by simpa using hap), if_pos h])
     have HFY : Hid (spcS m v.2.1 ss (appS m ss v.2.2).2 = (0, (appS m ss v.2.2).2) → folV m vs ss v = some (appS m ss v.2.2).2) := Lib.hid (fun h => by
      unfold folV
      rw [if_neg (by rw [hvl]; omega), if_neg (by simpa using hap), if_neg (by simpa using h)])
     obtain ⟨xa, xc, rfl, hxc, hxs⟩ := SRow.sat HNX.out
     have SP := Lib.hid (rsplice_any sa sn sc ss xa (appS m ss v.2.2).2.length xc (appS m ss v.2.2).2 m v.2.1 w2 (sv_of HS1.out).2 HI.out.sok.str hxs (vld_sok HVX.out).str (by have := (frm_parts hfr).1; omega))
     have HBX := HX1.out
     have q0 := HBX.cell 0
     have q1 := HBX.cell 1
     have q2 := HBX.cell 2
     simp only [List.getElem?_toArray, List.getElem?_cons_zero, List.getElem?_cons_succ] at q0 q1 q2
     clear HBX
     have hbw1 : wb.heap.size ≤ w1.heap.size := by have := HZ.out; omega
     have hx1 := SOk.str (vld_sok HVX.out)
     have HXO := Lib.hid hx1
     clear hap HFA hxs hx1
     generalize (appS m ss v.2.2).1 = ea at *
     generalize (appS m ss v.2.2).2 = nx at *
     go_wp2_with fail
     refine SP.out.mono ?_
     rintro en w3 ⟨vy, rfl, hr3, hb3⟩
     have HG1 := Lib.hid (HG1.out.next hb3)
     have HV1 := Lib.hid (HV1.out.below hb3)
     have HS1 := Lib.hid (row_below HS1.out hb3)
     have HX1 := Lib.hid (HX1.out.next hb3)
     have HHR := Lib.hid (HHR.out.below hb3)
     have HNX := Lib.hid (row_below HNX.out hb3)
     have hz1 := Nat.le_trans hz1 hb3.size
     have HNY := Lib.hid hr3
     clear hr3 hb3 SP g0 g1 g2 g3 gf0 gf1 gf2 gf3 q0 q1 q2
     obtain ⟨⟨g0, g1, g2, g3⟩, gf0, gf1, gf2, gf3⟩ := HG1.out.four
     generalize spcS m v.2.1 ss nx = r at *
     obtain ⟨r1, r2⟩ := r
     by_cases hr1 : r1 = 0
     rotate_left
     ·
      have HSTP := Lib.hid (HFO.out (HFS.out (fun h => hr1 (congrArg Prod.fst h))))
      have hd3 : (r1 != 0) = true := by simpa using hr1
      clear hr1
      go_wp2_with fail
      go_meet
      exact ⟨k, vs, ss, (va, vn, vc), (sa, sn, sc), rfl, hk, HSTP, HG1, HV1, HS1, by have := HZ.out; omega⟩
     have hd3 : (r1 != 0) = false := by simpa using hr1
     obtain ⟨ya, yc, rfl, hyc, hys⟩ := SRow.sat HNY.out
     obtain ⟨xa', xc', hxe, hxc', hxs⟩ := SRow.sat HNX.out
     cases hxe
     have SM := Lib.hid (rsameq_any ya r2.length yc xa nx.length xc r2 nx w3 hys hxs)
     clear hys hxs HNY hxc'
     have hr1' := Lib.hid hr1
     clear hr1
     go_wp2_with fail
     refine SM.out.mono ?_
     rintro en w4 ⟨rfl, q4, rfl⟩
     have hb4 := below_drewN w3 q4
     generalize w3.drewN q4 = w4 at *
     have HG1 := Lib.hid (HG1.out.next hb4)
     have HV1 := Lib.hid (HV1.out.below hb4)
     have HS1 := Lib.hid (row_below HS1.out hb4)
     have HX1 := Lib.hid (HX1.out.next hb4)
     have HHR := Lib.hid (HHR.out.below hb4)
     have HNX := Lib.hid (row_below HNX.out hb4)
     have hz1 := Nat.le_trans hz1 hb4.size
     clear hb4 SM g0 g1 g2 g3 gf0 gf1 gf2 gf3
     obtain ⟨⟨g0, g1, g2, g3⟩, gf0, gf1, gf2, gf3⟩ := HG1.out.four
     by_cases hr2 : r2 = nx
     rotate_left
     ·
      have HSTP := Lib.hid (HFO.out (HFS.out (fun h => hr2 (congrArg Prod.snd h))))
      have hd4 : decide (r2 = nx) = false := decide_eq_false hr2
      rw [hd4]
      clear hr2 hd4
      go_wp2_with fail
      go_meet
      exact ⟨k, vs, ss, (va, vn, vc), (sa, sn, sc), rfl, hk, HSTP, HG1, HV1, HS1, by have := HZ.out; omega⟩
     have hd4 : decide (r2 = nx) = true := decide_eq_true hr2
     have HSTQ := Lib.hid (HST.out nx (HFY.out (by rw [hr1'.out, hr2])))
     rw [hd4]
     clear hr2 hd4
     obtain ⟨rs, hk4, ho4⟩ := HV1.out
     have hrl : rs.length = vn := by rw [ho4.1]; exact hvl
     have HK4 := Lib.hid hk4
     have HO4 := Lib.hid ho4
     clear hk4 ho4
     have HBX := HX1.out
     have q0 := HBX.cell 0
     have q1 := HBX.cell 1
     have q2 := HBX.cell 2
     simp only [List.getElem?_toArray, List.getElem?_cons_zero, List.getElem?_cons_succ] at q0 q1 q2
     clear HBX
     have hkn : k + (encV v).length ≤ n := by omega
     have hadd : IntKind.i64.wrap ((k : Int) + ((encV v).length : Int)) = (k : Int) + ((encV v).length : Int) := IntWalk.i64_in _ (by omega)
     have hbwr : wb.heap.size ≤ wr.heap.size := HZ.out
     have hbw4 : wb.heap.size ≤ w4.heap.size := by have := HZ.out; omega
     have hwa : wa.heap.size ≤ wb.heap.size := HG0s.out
     have hBl : Bv < w4.heap.size := HX1.out.lt
     have hBo : wr.heap.size ≤ Bv := HX1.out.lo
     have hGB : G ≠ Bv := by have := HZ.out; omega
     have hGB' : Bv ≠ G := Ne.symm hGB
     have HNO : Hid (∀ q, (Value.slice va vn vc).ownBlock = some q → q < wr.heap.size) := Lib.hid (fun q hq => by
      obtain ⟨rs0, h1, _⟩ := HV.out
      exact (h1.lt q hq).2)
     have g2a : ∀ O, (w4.alloc O).drew.cell? ⟨G, 2, none⟩ = some (.slice va vn vc) := fun O => below_cell9 (new_bel w4 O) g2
     have q1a : ∀ O, (w4.alloc O).drew.cell? ⟨Bv, 1, none⟩ = some (.int .i64 v.2.1) := fun O => below_cell9 (new_bel w4 O) q1
     go_upto_region 13 with fail
     go_region_law (refine step_app elemVer encVer (by rfl) (.tmp 88) (.tmp 90) (by rfl) wb.heap.size _ rs (by rfl) (row_below HK4.out (new_bel _ _)) _ _ _ [((vn : Int) + 1, v.2.1, (ta, tn, tc))] (by rfl) (KAt.one' (f := rveC) (k := 3) w4 ((vn : Int) + 1, v.2.1, (ta, tn, tc)) _) (by simp <;> omega) (by simp <;> omega) ?_; intro v7 w7 hr7 hb7 hg7 ho7; have HB7 := Lib.hid (new_tr _ hbw4 hb7); have q1 := (World.cell?_of_block (w := (w4.alloc _).drew) (hg7.block Bv (Nat.lt_of_lt_of_le hBl (new_bel w4 _).size) (fun h => by have := HNO.out Bv h.symm; omega))).trans (below_cell9 (new_bel w4 _) q1); have HO7 := Lib.hid ((HO4.out.below (new_bel w4 _)).kept (row_below HK4.out (new_bel w4 _)) hg7); have HH7 := Lib.hid ((HHR.out.below (new_bel w4 _)).keptV (row_below HK4.out (new_bel w4 _)) hg7); have HN7 := Lib.hid (row_kept (row_below HNX.out (new_bel w4 _)) (row_below HK4.out (new_bel w4 _)) (by decide) hg7); obtain ⟨va7, vc7, hv7, hvc7, _⟩ := KRow.at_ encVer hr7; rw [show (rs ++ [((vn : Int) + 1, v.2.1, (ta, tn, tc))]).length = vn + 1 by rw [List.length_append, hrl]; rfl] at hv7; subst hv7; have HR7 := Lib.hid hr7; have HG7 := Lib.hid (HG1.out.bel HB7.out hgb hwa); obtain ⟨⟨_, _, g2, g3⟩, _, _, gf2, gf3⟩ := HG7.out.four; clear hr7 hb7 hg7 ho7)
     all_goals (
      have HRV : Hid (VRow _ wb.heap.size (slV (va7, (vn + 1), vc7)) (vs ++ [v])) := Lib.hid ⟨_, row_set (row_set HR7.out (p := ⟨G, 2, none⟩) hgb (.slice va7 (vn + 1) vc7)) (p := ⟨G, 3, none⟩) hgb (.slice xa nx.length xc), VOwn.set (VOwn.set (show VOwn w7 wb.heap.size (rs ++ [((vn : Int) + 1, v.2.1, (ta, tn, tc))]) (vs ++ [v]) from All2.snoc HO7.out ⟨hc1.symm, rfl, HH7.out.base hbwr⟩) (p := ⟨G, 2, none⟩) hgb _) (p := ⟨G, 3, none⟩) hgb _⟩
      have HSV : Hid (SRow _ wb.heap.size (slV (xa, nx.length, xc)) nx) := Lib.hid (row_set (row_set (row_base HN7.out hbw1) (p := ⟨G, 2, none⟩) hgb (.slice va7 (vn + 1) vc7)) (p := ⟨G, 3, none⟩) hgb (.slice xa nx.length xc))
      have HGV : Hid (BX wa _ G #[.slice none 0 0, .int .i64 0, .slice va7 (vn + 1) vc7, .slice xa nx.length xc] 51) := Lib.hid ((HG7.out.set 2 _).set 3 _)
      have HZV : Hid (wb.heap.size ≤ ((w7.setCell ⟨G, 2, none⟩ (.slice va7 (vn + 1) vc7)).setCell ⟨G, 3, none⟩ (.slice xa nx.length xc)).heap.size) := Lib.hid (by have := HB7.out.size; simp; omega)
      have HLW : Hid (v.2.1 = lastW (vs ++ [v])) := Lib.hid (lastW_snoc vs v).symm
      have HEN := Lib.hid (enc_len v)
      clear hc1 g2 g3 gf2 gf3 q1 q1a g2a
      go_wp2_with fail
      refine ⟨?_, ?measure⟩
      first
       | ((repeat apply Exists.intro); refine ⟨?rel, rfl⟩)
       | ((iterate 10 (apply Exists.intro)); (repeat apply Exists.intro); refine ⟨?rel, rfl⟩)
       | ((iterate 25 (apply Exists.intro)); (repeat apply Exists.intro); refine ⟨?rel, rfl⟩)
       | ((iterate 40 (apply Exists.intro)); (repeat apply Exists.intro); refine ⟨?rel, rfl⟩)
       | refine ?rel
      case rel => exact ⟨k + (encV v).length, vs ++ [v], nx, (va7, (vn + 1), vc7), (xa, nx.length, xc), by go_num, by rw [← HLW.out], Lib.hid HSTQ.out.1, HGV, HRV, HSV, HZV⟩
      case measure =>
       have h11 := HEN.out
       simp [intOf, Act.put]
       first
       | omega
       | (have e1 : ((k : Int) + ((encV v).length : Int)).toNat = k + (encV v).length := by omega
          rw [e1]; omega)
      )
 case rest =>
  obtain ⟨k, vs, ss, ⟨va, vn, vc⟩, ⟨sa, sn, sc⟩, rfl, hk, HSTP, HG1, HV1, HS1, hz0⟩ := hcut
  have HZ := Lib.hid (Nat.le_refl wb.heap.size)
  have k1 : (0 : Int) ≤ k := by omega
  have k2 : (k : Int) ≤ n := by omega
  have k3 : (k : Int) ≤ c := by omega
  have k4 : (n : Int) ≤ c := by omega
  obtain ⟨⟨g0, g1, g2, g3⟩, gf0, gf1, gf2, gf3⟩ := HG1.out.four
  have hbt : ∀ A, (n = 0 ∨ A = a) → BAt wc A k (b.take k) := fun A h => by
   have h2 : BAt wc a n b := HX.out.below (below3 HR0.out.bl HG1.out.bl)
   rcases h with h | rfl
   ·
    exact ⟨by rw [List.length_take]; omega, by omega, Or.inl (by omega)⟩
   ·
    exact h2.take (by omega)
  rcases HX.out.2.2 with h0 | ⟨ba, oa, ha, _⟩
  ·
   have hk0 : k = 0 := by omega
   subst hk0
   cases a with
   | none =>
    go_wp2_with (at_builtin; refine wpList_app elemByt encByt rfl _ _ rfl wc.heap.size _ [] rfl (KRow.nil _ _ _ _ _) _ _ _ (b.take 0) rfl (hbt _ (Or.inl h0)) (by simp) (Nat.le_refl _) ?_)
    intro v9 w9 hr9 hb9 _ _
    obtain ⟨da, dc, rfl, hdc, _⟩ := KRow.at_ encByt hr9
    have hlk : ([] : L8).length = 0 := rfl
    rw [hlk] at hr9 hdc ⊢
    have HRD := Lib.hid hr9
    have HG9 := Lib.hid (HG1.out.next hb9)
    have HV9 := Lib.hid (HV1.out.below hb9)
    have HS9 := Lib.hid (row_below HS1.out hb9)
    clear hr9 hb9 g0 g1 g2 g3 gf0 gf1 gf2 gf3 hbt
    obtain ⟨⟨g0, g1, g2, g3⟩, gf0, gf1, gf2, gf3⟩ := HG9.out.four
    have HGX : Hid (BX wa ((w9.setCell ⟨G, 0, none⟩ (.slice da 0 dc)).setCell ⟨G, 1, none⟩ (.int .i64 0)) G #[.slice da 0 dc, .int .i64 0, .slice va vn vc, .slice sa sn sc] 51) := Lib.hid ((HG9.out.set 0 _).set 1 _)
    have hg1 : G < wc.heap.size := HG1.out.lt
    have HRD := Lib.hid (row_set (row_set HRD.out (p := ⟨G, 0, none⟩) hg1 (.slice da 0 dc)) (p := ⟨G, 1, none⟩) hg1 (.int .i64 0))
    have HV9 := Lib.hid ((HV9.out.set (p := ⟨G, 0, none⟩) hgb (.slice da 0 dc)).set (p := ⟨G, 1, none⟩) hgb (.int .i64 0))
    have HS9 := Lib.hid (row_set (row_set HS9.out (p := ⟨G, 0, none⟩) hgb (.slice da 0 dc)) (p := ⟨G, 1, none⟩) hgb (.int .i64 0))
    go_upto_region 15 with fail
    generalize (w9.setCell ⟨G, 0, none⟩ (.slice da 0 dc)).setCell ⟨G, 1, none⟩ (.int .i64 0) = W10 at *
    clear g0 g1 g2 g3 gf0 gf1 gf2 gf3
    obtain ⟨⟨g0, g1, g2, g3⟩, _⟩ := HGX.out.four
    have HRX := Lib.hid (HR0.out.next HGX.out.bl)
    have hrb : R < wb.heap.size := Nat.lt_of_lt_of_le HR0.out.lt (by have := HG0s.out; omega)
    have hr1 : R < wc.heap.size := by have := HZ.out; omega
    have HRY : Hid (BX w ((((W10.setCell ⟨R, 0, none⟩ (.slice da 0 dc)).setCell ⟨R, 1, none⟩ (.int .i64 0)).setCell ⟨R, 2, none⟩ (.slice va vn vc)).setCell ⟨R, 3, none⟩ (.slice sa sn sc)) R #[.slice da 0 dc, .int .i64 0, .slice va vn vc, .slice sa sn sc] 51) := Lib.hid ((((HRX.out.set 0 _).set 1 _).set 2 _).set 3 _)
    have HRD := Lib.hid (row_set (row_set (row_set (row_set HRD.out (p := ⟨R, 0, none⟩) hr1 (.slice da 0 dc)) (p := ⟨R, 1, none⟩) hr1 (.int .i64 0)) (p := ⟨R, 2, none⟩) hr1 (.slice va vn vc)) (p := ⟨R, 3, none⟩) hr1 (.slice sa sn sc))
    have HV9 := Lib.hid ((((HV9.out.set (p := ⟨R, 0, none⟩) hrb (.slice da 0 dc)).set (p := ⟨R, 1, none⟩) hrb (.int .i64 0)).set (p := ⟨R, 2, none⟩) hrb (.slice va vn vc)).set (p := ⟨R, 3, none⟩) hrb (.slice sa sn sc))
    have HS9 := Lib.hid (row_set (row_set (row_set (row_set HS9.out (p := ⟨R, 0, none⟩) hrb (.slice da 0 dc)) (p := ⟨R, 1, none⟩) hrb (.int .i64 0)) (p := ⟨R, 2, none⟩) hrb (.slice va vn vc)) (p := ⟨R, 3, none⟩) hrb (.slice sa sn sc))
    obtain ⟨⟨rc0, rc1, rc2, rc3⟩, rf0, rf1, rf2, rf3⟩ := HRX.out.four
    go_wp2_with fail
    generalize (((W10.setCell ⟨R, 0, none⟩ (.slice da 0 dc)).setCell ⟨R, 1, none⟩ (.int .i64 0)).setCell ⟨R, 2, none⟩ (.slice va vn vc)).setCell ⟨R, 3, none⟩ (.slice sa sn sc) = W11 at *
    clear rc0 rc1 rc2 rc3 rf0 rf1 rf2 rf3
    obtain ⟨⟨rc0, rc1, rc2, rc3⟩, _⟩ := HRY.out.four
    have HF : Hid (opnS m b = (0, (([] : L8), (0 : Int), vs, ss), ((n : Int) - (0 : Int)))) := Lib.hid (by
     rw [HP.out, HSTP.out]
     simp only [List.length_drop]
     rw [show b.length - (b.length - 0) = 0 by omega, show ((b.length - 0 : Nat) : Int) = (n : Int) - 0 by omega]
     all_goals rfl)
    refine bodyPost_ret (v := .tuple #[.agg #[.slice da 0 dc, .int .i64 0, .slice va vn vc, .slice sa sn sc], .int .i64 ((n : Int) - (0 : Int)), .int .i64 0]) (by simp [results, Tryz.results27, go_sem, rc0, rc1, rc2, rc3, h0]) rfl ?_
    rw [HF.out]
    exact ⟨_, rfl, ⟨(da, 0, dc), (va, vn, vc), (sa, sn, sc), rfl, row_base HRD.out (Nat.le_trans HRY.out.lo (Nat.le_of_lt hr1)), HV9.out.base (Nat.le_trans HRY.out.lo (Nat.le_of_lt hrb)), row_base HS9.out (Nat.le_trans HRY.out.lo (Nat.le_of_lt hrb))⟩, HRY.out.bl⟩
   | some ad =>
    go_wp2_with (at_builtin; refine wpList_app elemByt encByt rfl _ _ rfl wc.heap.size _ [] rfl (KRow.nil _ _ _ _ _) _ _ _ (b.take 0) rfl (hbt _ (Or.inl h0)) (by simp) (Nat.le_refl _) ?_)
    intro v9 w9 hr9 hb9 _ _
    obtain ⟨da, dc, rfl, hdc, _⟩ := KRow.at_ encByt hr9
    have hlk : ([] : L8).length = 0 := rfl
    rw [hlk] at hr9 hdc ⊢
    have HRD := Lib.hid hr9
    have HG9 := Lib.hid (HG1.out.next hb9)
    have HV9 := Lib.hid (HV1.out.below hb9)
    have HS9 := Lib.hid (row_below HS1.out hb9)
    clear hr9 hb9 g0 g1 g2 g3 gf0 gf1 gf2 gf3 hbt
    obtain ⟨⟨g0, g1, g2, g3⟩, gf0, gf1, gf2, gf3⟩ := HG9.out.four
    have HGX : Hid (BX wa ((w9.setCell ⟨G, 0, none⟩ (.slice da 0 dc)).setCell ⟨G, 1, none⟩ (.int .i64 0)) G #[.slice da 0 dc, .int .i64 0, .slice va vn vc, .slice sa sn sc] 51) := Lib.hid ((HG9.out.set 0 _).set 1 _)
    have hg1 : G < wc.heap.size := HG1.out.lt
    have HRD := Lib.hid (row_set (row_set HRD.out (p := ⟨G, 0, none⟩) hg1 (.slice da 0 dc)) (p := ⟨G, 1, none⟩) hg1 (.int .i64 0))
    have HV9 := Lib.hid ((HV9.out.set (p := ⟨G, 0, none⟩) hgb (.slice da 0 dc)).set (p := ⟨G, 1, none⟩) hgb (.int .i64 0))
    have HS9 := Lib.hid (row_set (row_set HS9.out (p := ⟨G, 0, none⟩) hgb (.slice da 0 dc)) (p := ⟨G, 1, none⟩) hgb (.int .i64 0))
    go_upto_region 15 with fail
    generalize (w9.setCell ⟨G, 0, none⟩ (.slice da 0 dc)).setCell ⟨G, 1, none⟩ (.int .i64 0) = W10 at *
    clear g0 g1 g2 g3 gf0 gf1 gf2 gf3
    obtain ⟨⟨g0, g1, g2, g3⟩, _⟩ := HGX.out.four
    have HRX := Lib.hid (HR0.out.next HGX.out.bl)
    have hrb : R < wb.heap.size := Nat.lt_of_lt_of_le HR0.out.lt (by have := HG0s.out; omega)
    have hr1 : R < wc.heap.size := by have := HZ.out; omega
    have HRY : Hid (BX w ((((W10.setCell ⟨R, 0, none⟩ (.slice da 0 dc)).setCell ⟨R, 1, none⟩ (.int .i64 0)).setCell ⟨R, 2, none⟩ (.slice va vn vc)).setCell ⟨R, 3, none⟩ (.slice sa sn sc)) R #[.slice da 0 dc, .int .i64 0, .slice va vn vc, .slice sa sn sc] 51) := Lib.hid ((((HRX.out.set 0 _).set 1 _).set 2 _).set 3 _)
    have HRD := Lib.hid (row_set (row_set (row_set (row_set HRD.out (p := ⟨R, 0, none⟩) hr1 (.slice da 0 dc)) (p := ⟨R, 1, none⟩) hr1 (.int .i64 0)) (p := ⟨R, 2, none⟩) hr1 (.slice va vn vc)) (p := ⟨R, 3, none⟩) hr1 (.slice sa sn sc))
    have HV9 := Lib.hid ((((HV9.out.set (p := ⟨R, 0, none⟩) hrb (.slice da 0 dc)).set (p := ⟨R, 1, none⟩) hrb (.int .i64 0)).set (p := ⟨R, 2, none⟩) hrb (.slice va vn vc)).set (p := ⟨R, 3, none⟩) hrb (.slice sa sn sc))
    have HS9 := Lib.hid (row_set (row_set (row_set (row_set HS9.out (p := ⟨R, 0, none⟩) hrb (.slice da 0 dc)) (p := ⟨R, 1, none⟩) hrb (.int .i64 0)) (p := ⟨R, 2, none⟩) hrb (.slice va vn vc)) (p := ⟨R, 3, none⟩) hrb (.slice sa sn sc))
    obtain ⟨⟨rc0, rc1, rc2, rc3⟩, rf0, rf1, rf2, rf3⟩ := HRX.out.four
    go_wp2_with fail
    generalize (((W10.setCell ⟨R, 0, none⟩ (.slice da 0 dc)).setCell ⟨R, 1, none⟩ (.int .i64 0)).setCell ⟨R, 2, none⟩ (.slice va vn vc)).setCell ⟨R, 3, none⟩ (.slice sa sn sc) = W11 at *
    clear rc0 rc1 rc2 rc3 rf0 rf1 rf2 rf3
    obtain ⟨⟨rc0, rc1, rc2, rc3⟩, _⟩ := HRY.out.four
    have HF : Hid (opnS m b = (0, (([] : L8), (0 : Int), vs, ss), ((n : Int) - (0 : Int)))) := Lib.hid (by
     rw [HP.out, HSTP.out]
     simp only [List.length_drop]
     rw [show b.length - (b.length - 0) = 0 by omega, show ((b.length - 0 : Nat) : Int) = (n : Int) - 0 by omega]
     all_goals rfl)
    refine bodyPost_ret (v := .tuple #[.agg #[.slice da 0 dc, .int .i64 0, .slice va vn vc, .slice sa sn sc], .int .i64 ((n : Int) - (0 : Int)), .int .i64 0]) (by simp [results, Tryz.results27, go_sem, rc0, rc1, rc2, rc3, h0]) rfl ?_
    rw [HF.out]
    exact ⟨_, rfl, ⟨(da, 0, dc), (va, vn, vc), (sa, sn, sc), rfl, row_base HRD.out (Nat.le_trans HRY.out.lo (Nat.le_of_lt hr1)), HV9.out.base (Nat.le_trans HRY.out.lo (Nat.le_of_lt hrb)), row_base HS9.out (Nat.le_trans HRY.out.lo (Nat.le_of_lt hrb))⟩, HRY.out.bl⟩
  ·
   subst ha
   go_wp2_with (at_builtin; refine wpList_app elemByt encByt rfl _ _ rfl wc.heap.size _ [] rfl (KRow.nil _ _ _ _ _) _ _ _ (b.take k) rfl (hbt _ (Or.inr rfl)) (by simp; omega) (Nat.le_refl _) ?_)
   intro v9 w9 hr9 hb9 _ _
   obtain ⟨da, dc, rfl, hdc, _⟩ := KRow.at_ encByt hr9
   have hlk : (b.take k).length = k := by rw [List.length_take]; omega
   rw [hlk] at hr9 hdc ⊢
   have HRD := Lib.hid hr9
   have HG9 := Lib.hid (HG1.out.next hb9)
   have HV9 := Lib.hid (HV1.out.below hb9)
   have HS9 := Lib.hid (row_below HS1.out hb9)
   clear hr9 hb9 g0 g1 g2 g3 gf0 gf1 gf2 gf3 hbt
   obtain ⟨⟨g0, g1, g2, g3⟩, gf0, gf1, gf2, gf3⟩ := HG9.out.four
   have HGX : Hid (BX wa ((w9.setCell ⟨G, 0, none⟩ (.slice da k dc)).setCell ⟨G, 1, none⟩ (.int .i64 k)) G #[.slice da k dc, .int .i64 k, .slice va vn vc, .slice sa sn sc] 51) := Lib.hid ((HG9.out.set 0 _).set 1 _)
   have hg1 : G < wc.heap.size := HG1.out.lt
   have HRD := Lib.hid (row_set (row_set HRD.out (p := ⟨G, 0, none⟩) hg1 (.slice da k dc)) (p := ⟨G, 1, none⟩) hg1 (.int .i64 k))
   have HV9 := Lib.hid ((HV9.out.set (p := ⟨G, 0, none⟩) hgb (.slice da k dc)).set (p := ⟨G, 1, none⟩) hgb (.int .i64 k))
   have HS9 := Lib.hid (row_set (row_set HS9.out (p := ⟨G, 0, none⟩) hgb (.slice da k dc)) (p := ⟨G, 1, none⟩) hgb (.int .i64 k))
   go_upto_region 15 with fail
   generalize (w9.setCell ⟨G, 0, none⟩ (.slice da k dc)).setCell ⟨G, 1, none⟩ (.int .i64 k) = W10 at *
   clear g0 g1 g2 g3 gf0 gf1 gf2 gf3
   obtain ⟨⟨g0, g1, g2, g3⟩, _⟩ := HGX.out.four
   have HRX := Lib.hid (HR0.out.next HGX.out.bl)
   have hrb : R < wb.heap.size := Nat.lt_of_lt_of_le HR0.out.lt (by have := HG0s.out; omega)
   have hr1 : R < wc.heap.size := by have := HZ.out; omega
   have HRY : Hid (BX w ((((W10.setCell ⟨R, 0, none⟩ (.slice da k dc)).setCell ⟨R, 1, none⟩ (.int .i64 k)).setCell ⟨R, 2, none⟩ (.slice va vn vc)).setCell ⟨R, 3, none⟩ (.slice sa sn sc)) R #[.slice da k dc, .int .i64 k, .slice va vn vc, .slice sa sn sc] 51) := Lib.hid ((((HRX.out.set 0 _).set 1 _).set 2 _).set 3 _)
   have HRD := Lib.hid (row_set (row_set (row_set (row_set HRD.out (p := ⟨R, 0, none⟩) hr1 (.slice da k dc)) (p := ⟨R, 1, none⟩) hr1 (.int .i64 k)) (p := ⟨R, 2, none⟩) hr1 (.slice va vn vc)) (p := ⟨R, 3, none⟩) hr1 (.slice sa sn sc))
   have HV9 := Lib.hid ((((HV9.out.set (p := ⟨R, 0, none⟩) hrb (.slice da k dc)).set (p := ⟨R, 1, none⟩) hrb (.int .i64 k)).set (p := ⟨R, 2, none⟩) hrb (.slice va vn vc)).set (p := ⟨R, 3, none⟩) hrb (.slice sa sn sc))
   have HS9 := Lib.hid (row_set (row_set (row_set (row_set HS9.out (p := ⟨R, 0, none⟩) hrb (.slice da k dc)) (p := ⟨R, 1, none⟩) hrb (.int .i64 k)) (p := ⟨R, 2, none⟩) hrb (.slice va vn vc)) (p := ⟨R, 3, none⟩) hrb (.slice sa sn sc))
   obtain ⟨⟨rc0, rc1, rc2, rc3⟩, rf0, rf1, rf2, rf3⟩ := HRX.out.four
   go_wp2_with fail
   generalize (((W10.setCell ⟨R, 0, none⟩ (.slice da k dc)).setCell ⟨R, 1, none⟩ (.int .i64 k)).setCell ⟨R, 2, none⟩ (.slice va vn vc)).setCell ⟨R, 3, none⟩ (.slice sa sn sc) = W11 at *
   clear rc0 rc1 rc2 rc3 rf0 rf1 rf2 rf3
   obtain ⟨⟨rc0, rc1, rc2, rc3⟩, _⟩ := HRY.out.four
   have HF : Hid (opnS m b = (0, (b.take k, (k : Int), vs, ss), ((n : Int) - (k : Int)))) := Lib.hid (by
    rw [HP.out, HSTP.out]
    simp only [List.length_drop]
    rw [show b.length - (b.length - k) = k by omega, show ((b.length - k : Nat) : Int) = (n : Int) - k by omega])
   refine bodyPost_ret (v := .tuple #[.agg #[.slice da k dc, .int .i64 k, .slice va vn vc, .slice sa sn sc], .int .i64 ((n : Int) - (k : Int)), .int .i64 0]) (by simp [results, Tryz.results27, go_sem, rc0, rc1, rc2, rc3]) rfl ?_
   rw [HF.out]
   exact ⟨_, rfl, ⟨(da, k, dc), (va, vn, vc), (sa, sn, sc), rfl, row_base HRD.out (Nat.le_trans HRY.out.lo (Nat.le_of_lt hr1)), HV9.out.base (Nat.le_trans HRY.out.lo (Nat.le_of_lt hrb)), row_base HS9.out (Nat.le_trans HRY.out.lo (Nat.le_of_lt hrb))⟩, HRY.out.bl⟩
end Go.Proofs.YtihbpggbpapcfaaGreatDoor

namespace Go.Proofs.YtihbpggbpapcfaaGreatDoor
open Go.RowKit

set_option maxRecDepth 100000 in
set_option maxHeartbeats 4000000 in
theorem rvalidL_any (va : Value) (l : Lg) (m : Int) (w : World) (ha : LogR w va l) : Calls Tryz.prog 31 #[va, .int .i64 m] w (RetB (.bool (vldL m l)) w) := by
 obtain ⟨⟨da, dn, dc⟩, ⟨va, vn, vc⟩, ⟨sa, sn, sc⟩, rfl, hd, hv, hs⟩ := ha
 obtain ⟨l1, l2, l3, l4⟩ := l
 simp only at hd hv hs
 have hln : l1.length = dn := hd.2.1
 have hn1 : dn ≤ 9223372036854775807 := hd.2.2.1
 have HF : Hid (vldL m (l1, l2, l3, l4) = (decide (0 ≤ l2 ∧ l2 ≤ (l1.length : Int)) && decide ((opnS m l1).1 = 0 ∧ (opnS m l1).2.2 = 0) && decide ((opnS m l1).2.1.2.2.1 = l3) && decide ((opnS m l1).2.1.2.2.2 = l4))) := Lib.hid rfl
 have HA := Lib.hid (BX.mk0 (vs := #[.slice da dn dc, .int .i64 l2, .slice va vn vc, .slice sa sn sc]) (T := 51) w)
 have OP := Lib.hid (fun W (h : Below w.heap.size w W) => ropen_any da dn dc l1 m W (hd.2.below h) hd.1)
 have HV := Lib.hid hv
 have HS := Lib.hid hs
 clear hd hv hs
 generalize vldL m (l1, l2, l3, l4) = q at *
 generalize opnS m l1 = r at *
 obtain ⟨er, ⟨o1, o2, o3, o4⟩, rest⟩ := r
 show Calls _ _ #[.agg #[.slice da dn dc, .int .i64 l2, .slice va vn vc, .slice sa sn sc], .int .i64 m] w _
 go_enter Tryz.func31, Tryz.ntmps31
 go_upto_region 1 with fail
 have hsa : (w.alloc (.cells #[.slice da dn dc, .int .i64 l2, .slice va vn vc, .slice sa sn sc] 51)).heap.size = w.heap.size + 1 := by simp
 generalize w.alloc (.cells #[.slice da dn dc, .int .i64 l2, .slice va vn vc, .slice sa sn sc] 51) = wa at *
 obtain ⟨R, hR⟩ : ∃ R, R = w.heap.size := ⟨_, rfl⟩
 clear hsa
 rw [← hR] at HA ⊢
 clear hR
 have HW := Lib.hid HA.out.bl
 obtain ⟨⟨g0, g1, g2, g3⟩, _⟩ := HA.out.four
 by_cases hc : 0 ≤ l2 ∧ l2 ≤ (dn : Int)
 rotate_left
 ·
  have HF2 : Hid (q = false) := Lib.hid (by rw [HF.out, hln, decide_eq_false hc]; rfl)
  rcases (show l2 < 0 ∨ (0 ≤ l2 ∧ (dn : Int) < l2) by omega) with h | ⟨h, h'⟩
  all_goals
   clear hc
   go_wp2_with fail
   go_ret
   exact ⟨ret_bool (by rw [HF2.out]), HW.out⟩
 have HF2 : Hid (q = (decide (er = 0 ∧ rest = 0) && decide (o3 = l3) && decide (o4 = l4))) := Lib.hid (by rw [HF.out, hln, decide_eq_true hc]; rfl)
 obtain ⟨hc1, hc2⟩ := hc
 clear HF
 go_wp2_with fail
 refine (OP.out _ HW.out).mono ?_
 rintro en w1 ⟨v1, rfl, hl1, hb1⟩
 obtain ⟨⟨xa, xn, xc⟩, ⟨ya, yn, yc⟩, ⟨za, zn, zc⟩, hv1, hx1, hx2, hx3⟩ := hl1.logR
 replace hv1 : v1 = .agg #[.slice xa xn xc, .int .i64 o2, .slice ya yn yc, .slice za zn zc] := hv1
 subst hv1
 simp only at hx1 hx2 hx3
 have HA1 := Lib.hid (HA.out.next hb1)
 have HX := Lib.hid (BX.mk0 (vs := #[.slice xa xn xc, .int .i64 o2, .slice ya yn yc, .slice za zn zc]) (T := 51) w1)
 have S3 := Lib.hid (fun W (h0 : Below w.heap.size w W) (h : Below w1.heap.size w1 W) => rsameV_any ya yn yc va vn vc o3 l3 W (hx2.2.below h) (HV.out.2.below h0))
 have S4 := Lib.hid (fun W (h0 : Below w.heap.size w W) (h : Below w1.heap.size w1 W) => rsameq_any za zn zc sa sn sc o4 l4 W (hx3.2.below h) (HS.out.2.below h0))
 clear g0 g1 g2 g3 hx1 hx2 hx3 hb1 OP
 go_upto_region 4 with fail
 generalize w1.alloc (.cells #[.slice xa xn xc, .int .i64 o2, .slice ya yn yc, .slice za zn zc] 51) = wb at *
 obtain ⟨R2, hR2⟩ : ∃ R2, R2 = w1.heap.size := ⟨_, rfl⟩
 rw [← hR2] at HX ⊢
 clear hR2
 have HA2 := Lib.hid (HA1.out.next HX.out.bl)
 have HW2 := Lib.hid HA2.out.bl
 obtain ⟨⟨g0, g1, g2, g3⟩, _⟩ := HA2.out.four
 obtain ⟨⟨k0, k1, k2, k3⟩, _⟩ := HX.out.four
 cases h1 : (er == 0)
 ·
  have HF3 : Hid (q = false) := Lib.hid (by
   rw [beq_eq_false_iff_ne] at h1
   rw [HF2.out, decide_eq_false (fun h => h1 h.1)]; rfl)
  go_wp2_with fail
  go_ret
  exact ⟨ret_bool (by rw [HF3.out]), HW2.out⟩
 cases h2 : (rest == 0)
 ·
  have HF3 : Hid (q = false) := Lib.hid (by
   rw [beq_eq_false_iff_ne] at h2
   rw [HF2.out, decide_eq_false (fun h => h2 h.2)]; rfl)
  go_wp2_with fail
  go_ret
  exact ⟨ret_bool (by rw [HF3.out]), HW2.out⟩
 have HF3 : Hid (q = (decide (o3 = l3) && decide (o4 = l4))) := Lib.hid (by
  rw [beq_iff_eq] at h1 h2
  rw [HF2.out, decide_eq_true ⟨h1, h2⟩]; rfl)
 clear HF2
 generalize decide (o3 = l3) = d3 at *
 generalize decide (o4 = l4) = d4 at *
 go_wp2_with fail
 refine (S3.out _ HW2.out HX.out.bl).mono ?_
 rintro en w2 ⟨rfl, hq2⟩
 have hb2 := drew_bel hq2
 have HA3 := Lib.hid (HA2.out.next hb2)
 have HX3 := Lib.hid (HX.out.next hb2)
 have HW3 := Lib.hid HA3.out.bl
 clear g0 g1 g2 g3 k0 k1 k2 k3 hb2 hq2
 obtain ⟨⟨g0, g1, g2, g3⟩, _⟩ := HA3.out.four
 obtain ⟨⟨k0, k1, k2, k3⟩, _⟩ := HX3.out.four
 cases d3
 ·
  go_wp2_with fail
  go_ret
  exact ⟨ret_bool (by rw [HF3.out]; rfl), HW3.out⟩
 go_wp2_with fail
 refine (S4.out _ HW3.out HX3.out.bl).mono ?_
 rintro en w3 ⟨rfl, hq3⟩
 have HW4 := Lib.hid (below3 HW3.out (drew_bel hq3))
 clear hq3
 go_wp2_with fail
 go_ret
 exact ⟨ret_bool (by rw [HF3.out]; rfl), HW4.out⟩
end Go.Proofs.YtihbpggbpapcfaaGreatDoor
