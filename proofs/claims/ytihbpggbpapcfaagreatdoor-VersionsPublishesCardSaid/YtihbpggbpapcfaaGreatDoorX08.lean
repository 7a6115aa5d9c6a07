/- One version more, and all bytes safe. -/
import Derived.Laws.BytesArg
import Derived.Lib.SlBytesConst
import Derived.Test.YtihbpggbpapcfaaGreatDoorX12
import Derived.Test.YtihbpggbpapcfaaGreatDoorY13
namespace Go.Proofs.YtihbpggbpapcfaaGreatDoor
open Go.RowKit

set_option maxRecDepth 100000 in
set_option maxHeartbeats 4000000 in
theorem rsame_log (va vb : Value) (la lb : Lg) (w : World) (ha : LogR w va la) (hb : LogR w vb lb) : Calls Tryz.prog 28 #[va, vb] w (RetB (.bool (sameL la lb)) w) := by
 obtain ⟨⟨da, dn, dc⟩, ⟨va, vn, vc⟩, ⟨sa, sn, sc⟩, rfl, hd, hv, hs⟩ := ha
 obtain ⟨⟨da', dn', dc'⟩, ⟨va', vn', vc'⟩, ⟨sa', sn', sc'⟩, rfl, hd', hv', hs'⟩ := hb
 obtain ⟨l1, l2, l3, l4⟩ := la
 obtain ⟨m1, m2, m3, m4⟩ := lb
 simp only at hd hv hs hd' hv' hs'
 have HF : Hid (sameL (l1, l2, l3, l4) (m1, m2, m3, m4) = ((l1 == m1) && (l2 == m2) && decide (l3 = m3) && decide (l4 = m4))) := Lib.hid rfl
 have HA := Lib.hid (BX.mk0 (vs := #[.slice da dn dc, .int .i64 l2, .slice va vn vc, .slice sa sn sc]) (T := 51) w)
 have CD := Lib.hid (fun W (h : Below w.heap.size w W) => conv_str (c := dc) (hd.2.below h))
 have CD' := Lib.hid (fun W (h : Below w.heap.size w W) => conv_str (c := dc') (hd'.2.below h))
 have S3 := Lib.hid (fun W (h : Below w.heap.size w W) => rsameV_any va vn vc va' vn' vc' l3 m3 W (hv.2.below h) (hv'.2.below h))
 have S4 := Lib.hid (fun W (h : Below w.heap.size w W) => rsameq_any sa sn sc sa' sn' sc' l4 m4 W (hs.2.below h) (hs'.2.below h))
 clear hd hv hs hd' hv' hs'
 show Calls _ _ #[.agg #[.slice da dn dc, .int .i64 l2, .slice va vn vc, .slice sa sn sc], .agg #[.slice da' dn' dc', .int .i64 m2, .slice va' vn' vc', .slice sa' sn' sc']] w _
 go_enter Tryz.func28, Tryz.ntmps28
 go_upto_region 1 with fail
 have hsa : (w.alloc (.cells #[.slice da dn dc, .int .i64 l2, .slice va vn vc, .slice sa sn sc] 51)).heap.size = w.heap.size + 1 := by simp
 generalize w.alloc (.cells #[.slice da dn dc, .int .i64 l2, .slice va vn vc, .slice sa sn sc] 51) = wa at *
 obtain ⟨R, hR⟩ : ∃ R, R = w.heap.size := ⟨_, rfl⟩
 rw [← hR] at HA hsa ⊢
 clear hR
 have HB := Lib.hid (BX.mk0 (vs := #[.slice da' dn' dc', .int .i64 m2, .slice va' vn' vc', .slice sa' sn' sc']) (T := 51) wa)
 rw [hsa] at HB
 clear hsa
 generalize wa.alloc (.cells #[.slice da' dn' dc', .int .i64 m2, .slice va' vn' vc', .slice sa' sn' sc'] 51) = wb at *
 obtain ⟨R2, hR2⟩ : ∃ R2, R2 = R + 1 := ⟨_, rfl⟩
 rw [← hR2] at HB ⊢
 clear hR2
 have HA2 := Lib.hid (HA.out.next HB.out.bl)
 have HW := Lib.hid HA2.out.bl
 have CV := CD.out wb HW.out
 have CV' := CD'.out wb HW.out
 obtain ⟨⟨g0, g1, g2, g3⟩, _⟩ := HA2.out.four
 obtain ⟨⟨k0, k1, k2, k3⟩, _⟩ := HB.out.four
 cases h1 : (l1 == m1)
 ·
  have HF2 : Hid (sameL (l1, l2, l3, l4) (m1, m2, m3, m4) = false) := Lib.hid (by rw [HF.out, h1]; rfl)
  have p1 : ((arr l1).toList == (arr m1).toList) = false := by rw [arr_toList, arr_toList]; exact h1
  have p2 : ¬ (arr l1).toList = (arr m1).toList := by rw [beq_eq_false_iff_ne] at p1; exact p1
  clear h1
  go_wp2_with fail
  go_ret
  exact ⟨ret_bool (by rw [HF2.out]), HW.out⟩
 have p1 : ((arr l1).toList == (arr m1).toList) = true := by rw [arr_toList, arr_toList]; exact h1
 have p2 : (arr l1).toList = (arr m1).toList := by rw [beq_iff_eq] at p1; exact p1
 have HF1 : Hid (sameL (l1, l2, l3, l4) (m1, m2, m3, m4) = ((l2 == m2) && decide (l3 = m3) && decide (l4 = m4))) := Lib.hid (by rw [HF.out, h1]; rfl)
 clear h1 HF
 cases h2 : (l2 == m2)
 ·
  have HF2 : Hid (sameL (l1, l2, l3, l4) (m1, m2, m3, m4) = false) := Lib.hid (by rw [HF1.out, h2]; rfl)
  go_wp2_with fail
  go_ret
  exact ⟨ret_bool (by rw [HF2.out]), HW.out⟩
 have HF2 : Hid (sameL (l1, l2, l3, l4) (m1, m2, m3, m4) = (decide (l3 = m3) && decide (l4 = m4))) := Lib.hid (by rw [HF1.out, h2]; rfl)
 clear HF1
 generalize sameL (l1, l2, l3, l4) (m1, m2, m3, m4) = r at *
 generalize decide (l3 = m3) = d3 at *
 generalize decide (l4 = m4) = d4 at *
 go_wp2_with fail
 refine (S3.out _ HW.out).mono ?_
 rintro en w2 ⟨rfl, hq2⟩
 have hb2 := drew_bel hq2
 have HA3 := Lib.hid (HA2.out.next hb2)
 have HB3 := Lib.hid (HB.out.next hb2)
 have HW2 := Lib.hid HA3.out.bl
 clear g0 g1 g2 g3 k0 k1 k2 k3 CV CV' hb2 hq2
 obtain ⟨⟨g0, g1, g2, g3⟩, _⟩ := HA3.out.four
 obtain ⟨⟨k0, k1, k2, k3⟩, _⟩ := HB3.out.four
 cases d3
 ·
  go_wp2_with fail
  go_ret
  exact ⟨ret_bool (by rw [HF2.out]; rfl), HW2.out⟩
 go_wp2_with fail
 refine (S4.out _ HW2.out).mono ?_
 rintro en w3 ⟨rfl, hq3⟩
 have HW3 := Lib.hid (below3 HW2.out (drew_bel hq3))
 clear hq3
 go_wp2_with fail
 go_ret
 exact ⟨ret_bool (by rw [HF2.out]; rfl), HW3.out⟩

set_option maxRecDepth 100000 in
set_option maxHeartbeats 4000000 in
theorem rsync_any (va : Value) (l : Lg) (m : Int) (w : World) (ha : LogR w va l) : Calls Tryz.prog 38 #[va, .int .i64 m] w (ResL (synS m l) w) := by
 have HV := Lib.hid (fun W (h : Below w.heap.size w W) => rvalidL_any va l m W (ha.below h))
 obtain ⟨⟨da, dn, dc⟩, ⟨va, vn, vc⟩, ⟨sa, sn, sc⟩, rfl, hd, hv, hs⟩ := ha
 obtain ⟨l1, l2, l3, l4⟩ := l
 simp only at hd hv hs
 have hln : l1.length = dn := hd.2.1
 have hn1 : dn ≤ 9223372036854775807 := hd.2.2.1
 have HF : Hid (synS m (l1, l2, l3, l4) = if vldL m (l1, l2, l3, l4) = false then (1, lgZ) else (0, (l1, (l1.length : Int), l3, l4))) := Lib.hid rfl
 have HA := Lib.hid (BX.mk0 (vs := #[.slice da dn dc, .int .i64 l2, .slice va vn vc, .slice sa sn sc]) (T := 51) w)
 have HD := Lib.hid hd
 have HVV := Lib.hid hv
 have HS := Lib.hid hs
 clear hd hv hs
 change Hid (∀ W, Below w.heap.size w W → Calls _ _ #[.agg #[.slice da dn dc, .int .i64 l2, .slice va vn vc, .slice sa sn sc], .int .i64 m] W _) at HV
 show Calls _ _ #[.agg #[.slice da dn dc, .int .i64 l2, .slice va vn vc, .slice sa sn sc], .int .i64 m] w _
 generalize vldL m (l1, l2, l3, l4) = q at *
 go_enter Tryz.func38, Tryz.ntmps38
 go_upto_region 1 with fail
 have hsa : (w.alloc (.cells #[.slice da dn dc, .int .i64 l2, .slice va vn vc, .slice sa sn sc] 51)).heap.size = w.heap.size + 1 := by simp
 generalize w.alloc (.cells #[.slice da dn dc, .int .i64 l2, .slice va vn vc, .slice sa sn sc] 51) = wa at *
 obtain ⟨R, hR⟩ : ∃ R, R = w.heap.size := ⟨_, rfl⟩
 rw [← hR] at HA hsa ⊢
 clear hR
 have HB := Lib.hid (BX.mk0 (vs := #[.slice none 0 0, .int .i64 0, .slice none 0 0, .slice none 0 0]) (T := 51) wa)
 rw [hsa] at HB
 clear hsa
 generalize wa.alloc (.cells #[.slice none 0 0, .int .i64 0, .slice none 0 0, .slice none 0 0] 51) = wb at *
 obtain ⟨R2, hR2⟩ : ∃ R2, R2 = R + 1 := ⟨_, rfl⟩
 rw [← hR2] at HB ⊢
 have hne : R2 ≠ R := by omega
 have hle : R ≤ R2 := by omega
 clear hR2
 have HA := Lib.hid (HA.out.next HB.out.bl)
 have HB : Hid (BX w wb R2 _ _) := Lib.hid ⟨HB.out.hp, Nat.le_trans HA.out.lo hle, HA.out.bl⟩
 obtain ⟨⟨g0, g1, g2, g3⟩, gf0, gf1, gf2, gf3⟩ := HA.out.four
 go_wp2_with fail
 refine (HV.out _ HA.out.bl).mono ?_
 rintro en w1 ⟨rfl, hb1⟩
 have HA := Lib.hid (HA.out.next hb1)
 have HB := Lib.hid (HB.out.next hb1)
 clear g0 g1 g2 g3 gf0 gf1 gf2 gf3 hb1 HV
 cases q
 ·
  have HF2 : Hid (synS m (l1, l2, l3, l4) = (1, lgZ)) := Lib.hid (by rw [HF.out, if_pos rfl])
  obtain ⟨⟨rc0, rc1, rc2, rc3⟩, rf0, rf1, rf2, rf3⟩ := HB.out.four
  have HR9 := Lib.hid (HB.out.set4 (.slice none 0 0) (.int .i64 0) (.slice none 0 0) (.slice none 0 0))
  go_wp2_with fail
  generalize (((World.setCell w1 ⟨R2, 0, none⟩ (.slice none 0 0)).setCell ⟨R2, 1, none⟩ (.int .i64 0)).setCell ⟨R2, 2, none⟩ (.slice none 0 0)).setCell ⟨R2, 3, none⟩ (.slice none 0 0) = W9 at *
  clear rc0 rc1 rc2 rc3 rf0 rf1 rf2 rf3
  obtain ⟨⟨rc0, rc1, rc2, rc3⟩, _⟩ := HR9.out.four
  refine bodyPost_ret (v := .tuple #[.agg #[.slice none 0 0, .int .i64 0, .slice none 0 0, .slice none 0 0], .int .i64 1]) (by simp [results, Tryz.results38, go_sem, rc0, rc1, rc2, rc3]) rfl ?_
  rw [HF2.out]
  exact ⟨_, rfl, LogR.zero _, HR9.out.bl⟩
 have HF2 : Hid (synS m (l1, l2, l3, l4) = (0, (l1, (l1.length : Int), l3, l4))) := Lib.hid (by rw [HF.out, if_neg (by simp)])
 clear HF
 obtain ⟨⟨g0, g1, g2, g3⟩, gf0, gf1, gf2, gf3⟩ := HA.out.four
 go_upto_region 4 with fail
 have HA2 : Hid (BX w (w1.setCell ⟨R, 1, none⟩ (.int .i64 dn)) R #[.slice da dn dc, .int .i64 dn, .slice va vn vc, .slice sa sn sc] 51) := Lib.hid (HA.out.set 1 _)
 have HB2 : Hid (BX w (w1.setCell ⟨R, 1, none⟩ (.int .i64 dn)) R2 #[.slice none 0 0, .int .i64 0, .slice none 0 0, .slice none 0 0] 51) := Lib.hid ⟨by rw [heap_setCell_other _ _ _ _ hne]; exact HB.out.hp, HB.out.lo, HA2.out.bl⟩
 generalize w1.setCell ⟨R, 1, none⟩ (.int .i64 dn) = w2 at *
 clear g0 g1 g2 g3 gf0 gf1 gf2 gf3
 obtain ⟨⟨g0, g1, g2, g3⟩, _⟩ := HA2.out.four
 obtain ⟨⟨rc0, rc1, rc2, rc3⟩, rf0, rf1, rf2, rf3⟩ := HB2.out.four
 have HR9 := Lib.hid (HB2.out.set4 (.slice da dn dc) (.int .i64 dn) (.slice va vn vc) (.slice sa sn sc))
 go_wp2_with fail
 generalize (((World.setCell w2 ⟨R2, 0, none⟩ (.slice da dn dc)).setCell ⟨R2, 1, none⟩ (.int .i64 dn)).setCell ⟨R2, 2, none⟩ (.slice va vn vc)).setCell ⟨R2, 3, none⟩ (.slice sa sn sc) = W9 at *
 clear rc0 rc1 rc2 rc3 rf0 rf1 rf2 rf3 g0 g1 g2 g3
 obtain ⟨⟨rc0, rc1, rc2, rc3⟩, _⟩ := HR9.out.four
 refine bodyPost_ret (v := .tuple #[.agg #[.slice da dn dc, .int .i64 dn, .slice va vn vc, .slice sa sn sc], .int .i64 0]) (by simp [results, Tryz.results38, go_sem, rc0, rc1, rc2, rc3]) rfl ?_
 rw [HF2.out]
 exact ⟨_, rfl, ⟨(da, dn, dc), (va, vn, vc), (sa, sn, sc), by rw [hln]; rfl, HD.out.below HR9.out.bl, HVV.out.below HR9.out.bl, HS.out.below HR9.out.bl⟩, HR9.out.bl⟩
end Go.Proofs.YtihbpggbpapcfaaGreatDoor

namespace Go.Proofs.YtihbpggbpapcfaaGreatDoor
open Go.RowKit

theorem told_any (a : Option Addr) (n c : Nat) (x : Int) (b : Option Addr) (n2 c2 : Nat) (d : Option Addr) (n3 c3 : Nat) (w : World) : Calls Tryz.prog 29 #[.agg #[.slice a n c, .int .i64 x, .slice b n2 c2, .slice d n3 c3]] w (RetB (.agg #[.slice a n c, .int .i64 x, .slice b n2 c2, .slice d n3 c3]) w) := by
 go_enter Tryz.func29, Tryz.ntmps29
 have HA := Lib.hid (BX.mk0 (vs := #[.slice a n c, .int .i64 x, .slice b n2 c2, .slice d n3 c3]) (T := 55) w)
 go_upto_region 1 with fail
 have hsa : (w.alloc (.cells #[.slice a n c, .int .i64 x, .slice b n2 c2, .slice d n3 c3] 55)).heap.size = w.heap.size + 1 := by simp
 generalize w.alloc (.cells #[.slice a n c, .int .i64 x, .slice b n2 c2, .slice d n3 c3] 55) = wa at *
 obtain ⟨R, hR⟩ : ∃ R, R = w.heap.size := ⟨_, rfl⟩
 rw [← hR] at HA hsa ⊢
 clear hR
 have HB := Lib.hid (BX.mk0 (vs := #[.slice none 0 0, .int .i64 0, .slice none 0 0, .slice none 0 0]) (T := 51) wa)
 rw [hsa] at HB
 clear hsa
 generalize wa.alloc (.cells #[.slice none 0 0, .int .i64 0, .slice none 0 0, .slice none 0 0] 51) = wb at *
 obtain ⟨R2, hR2⟩ : ∃ R2, R2 = R + 1 := ⟨_, rfl⟩
 rw [← hR2] at HB ⊢
 have hle : R ≤ R2 := by omega
 clear hR2
 have HA := Lib.hid (HA.out.next HB.out.bl)
 have HB : Hid (BX w wb R2 _ _) := Lib.hid ⟨HB.out.hp, Nat.le_trans HA.out.lo hle, HA.out.bl⟩
 obtain ⟨⟨g0, g1, g2, g3⟩, _⟩ := HA.out.four
 obtain ⟨⟨rc0, rc1, rc2, rc3⟩, rf0, rf1, rf2, rf3⟩ := HB.out.four
 have HR9 := Lib.hid (HB.out.set4 (.slice a n c) (.int .i64 x) (.slice b n2 c2) (.slice d n3 c3))
 go_wp2_with fail
 generalize (((World.setCell wb ⟨R2, 0, none⟩ (.slice a n c)).setCell ⟨R2, 1, none⟩ (.int .i64 x)).setCell ⟨R2, 2, none⟩ (.slice b n2 c2)).setCell ⟨R2, 3, none⟩ (.slice d n3 c3) = W9 at *
 clear rc0 rc1 rc2 rc3 rf0 rf1 rf2 rf3
 obtain ⟨⟨rc0, rc1, rc2, rc3⟩, _⟩ := HR9.out.four
 refine bodyPost_ret (v := .agg #[.slice a n c, .int .i64 x, .slice b n2 c2, .slice d n3 c3]) (by simp [results, Tryz.results29, go_sem, rc0, rc1, rc2, rc3]) rfl ?_
 exact ⟨rfl, HR9.out.bl⟩
end Go.Proofs.YtihbpggbpapcfaaGreatDoor

namespace Go.Proofs.YtihbpggbpapcfaaGreatDoor
open Go Go.ChangeShapes Go.WideShapes Go.ChangeAt Go.RowKit Go.WideMaps Go.WideElems Go.Joins Go.Deep

section
variable {H : Type} {enc : TypeId × Value → H} {W : World} {base : Nat} {held : Bool}
theorem arr_dataS (s : ByteArray) : arr s.data.toList = s := by
 cases s; simp [arr]
theorem open_kat2 {P : Program} {α : Type} [Inhabited α] {f : α → List Value} {k : Nat} {R : α → Prop} {t e : TypeId} {fuel : Nat} {v : Value} {y : DataW H × List MemPlace} (ht : P.underlying t = some (.slice e)) (hc : P.cellsOf e = k) (hk : 0 < k)
  (hel : ∀ (n : Nat) (cs : List Value) (z : DataW H × List MemPlace), DataW.trod enc P W base (fun _ => true) held n e cs = some z → ∃ x, cs = f x ∧ R x)
  (h : DataW.trod enc P W base (fun _ => true) held fuel t [v] = some y) :
  ∃ a n c xs, v = .slice a n c ∧ n ≤ c ∧ KAt f k W a n xs ∧ ∀ x ∈ xs, R x := by
 rcases open_slice ht h with ⟨hcs, hy⟩ | ⟨a, len, cap, m, n, D, Pl, hcs, _, hl, hm, hmm, hx, hcell⟩
 ·
  simp only [List.cons.injEq, and_true] at hcs
  exact ⟨none, 0, 0, [], hcs, Nat.le_refl _, ⟨rfl, by omega, Or.inl rfl⟩, fun x hx => by cases hx⟩
 ·
  simp only [List.cons.injEq, and_true] at hcs
  simp only [if_true] at hmm
  subst hmm
  have each : ∀ i, i < m → ∃ x : α, (∀ o, o < k → W.cell? (a.add (i * k + o)) = (f x)[o]?) ∧ (f x).length = k ∧ R x := by
   intro i hi
   obtain ⟨cs', h1, h2⟩ := hcell i hi
   obtain ⟨x, rfl, hR⟩ := hel n cs' _ h2
   rw [hc] at h1
   obtain ⟨_, h3, h4⟩ := World.cells?_some h1
   refine ⟨x, fun o ho => ?_, h3, hR⟩
   rw [← h4 o ho]
   by_cases hz : i * k = 0 <;> by_cases hz2 : o = 0 <;> simp [Addr.add, hz, hz2, Nat.add_assoc]
  obtain ⟨X, hX⟩ := choose_lt each
  refine ⟨some a, len, m, (List.range len).map X, hcs, hl, ⟨by simp, by unfold maxLen at hm; omega, ?_⟩, fun x hx => ?_⟩
  ·
   by_cases h0 : len = 0
   ·
    exact Or.inl h0
   ·
    have hf0 := (hX 0 (by omega)).1 0 hk
    have hl0 := (hX 0 (by omega)).2.1
    obtain ⟨b, off, spot⟩ := a
    rw [List.getElem?_eq_getElem (show 0 < (f (X 0)).length by omega)] at hf0
    have hspot : spot = none := by simpa [Addr.add] using World.cell?_spot hf0
    subst hspot
    refine Or.inr ⟨b, off, rfl, fun i x hx o u hu => ?_⟩
    have hi : i < len := by have := (List.getElem?_eq_some_iff.1 hx).1; simpa using this
    have hxe : x = X i := by rw [List.getElem?_map, List.getElem?_range hi] at hx; exact (Option.some.inj hx).symm
    subst hxe
    obtain ⟨h1, h2, _⟩ := hX i (by omega)
    have ho : o < k := by have := (List.getElem?_eq_some_iff.1 hu).1; omega
    have := h1 o ho
    rw [hu] at this
    rw [← Go.WideShapes.add_plain]
    exact this
  ·
   obtain ⟨i, hi, rfl⟩ := List.mem_map.1 hx
   have hi := List.mem_range.1 hi
   exact (hX i (by omega)).2.2

set_option maxRecDepth 100000 in
theorem trod_ses2 {n : Nat} {cs : List Value} {z : DataW H × List MemPlace} (h : DataW.trod enc Tryz.prog W base (fun _ => true) held n 95 cs = some z) : ∃ s : Ses, cs = sesC s ∧ (s.1.length ≤ 9223372036854775807 ∧ s.2.2.2.2.2.length ≤ 9223372036854775807) ∧ -9223372036854775808 ≤ s.2.2.2.1 ∧ s.2.2.2.1 ≤ 9223372036854775807 := by
 obtain ⟨xs, m, _, rfl, hl, hlen, hf⟩ := DataW.trod_struct Tryz.underlying95 h
 rw [show Tryz.prog.cellsOf 95 = 6 by kernel_rfl] at hl
 match cs, hl, xs, hlen with
 | [c0, c1, c2, c3, c4, c5], _, [y0, y1, y2], _ =>
  have h0 := hf 0 _ rfl
  have h1 := hf 1 _ rfl
  have h2 := hf 2 _ rfl
  clear hf
  simp only [List.getElem_toArray, List.getElem_cons_zero, List.getElem_cons_succ] at h0 h1 h2
  simp only [show Tryz.prog.cellsOf 9 = 1 by kernel_rfl, show Tryz.prog.cellsOf 93 = 4 by kernel_rfl, List.drop_zero, List.drop_succ_cons, List.take_succ_cons, List.take_zero, List.getElem?_cons_zero, List.getElem?_cons_succ] at h0 h1 h2
  obtain ⟨s0, e0, rfl, z0⟩ := DataW.trod_string Tryz.underlying9 h0
  obtain ⟨s2, e2, rfl, z2⟩ := DataW.trod_string Tryz.underlying9 h2
  obtain ⟨xt, m2, _, rfl, _, hlt, hft⟩ := DataW.trod_struct Tryz.underlying93 h1
  match xt, hlt with
  | [t0, t1, t2, t3], _ =>
   have g0 := hft 0 _ rfl
   have g1 := hft 1 _ rfl
   have g2 := hft 2 _ rfl
   have g3 := hft 3 _ rfl
   clear hft
   simp only [List.getElem_toArray, List.getElem_cons_zero, List.getElem_cons_succ] at g0 g1 g2 g3
   simp only [show Tryz.prog.cellsOf 3 = 1 by kernel_rfl, List.drop_zero, List.drop_succ_cons, List.take_succ_cons, List.take_zero, List.getElem?_cons_zero, List.getElem?_cons_succ] at g0 g1 g2 g3
   obtain ⟨n0, f0, _, w0⟩ := DataW.trod_int Tryz.underlying3 g0
   obtain ⟨n1, f1, _, w1⟩ := DataW.trod_int Tryz.underlying3 g1
   obtain ⟨n2, f2, _, w2⟩ := DataW.trod_int Tryz.underlying3 g2
   obtain ⟨n3, f3, _, w3⟩ := DataW.trod_int Tryz.underlying3 g3
   simp only [List.cons.injEq, and_true] at e0 e2 f0 f1 f2 f3
   subst e0 e2 f0 f1 f2 f3
   refine ⟨(s0.data.toList, n0, n1, n2, n3, s2.data.toList), by simp only [sesC, arr_dataS], ⟨⟨?_, ?_⟩, bounds_i64 w2⟩⟩
   ·
    have : s0.data.toList.length = s0.size := by rw [Array.length_toList]; rfl
    unfold maxLen at z0; simp only; omega
   ·
    have : s2.data.toList.length = s2.size := by rw [Array.length_toList]; rfl
    unfold maxLen at z2; simp only; omega
theorem open_sessions {fuel : Nat} {v : Value} {y : DataW H × List MemPlace} (h : DataW.trod enc Tryz.prog W base (fun _ => true) held fuel 49 [v] = some y) : ∃ a n c xs, v = .slice a n c ∧ SV W (a, n, c) xs ∧ SOk xs := by
 obtain ⟨a, n, c, xs, h1, h2, h3, h4⟩ := open_kat2 (f := sesC) (k := 6) (R := fun s => (s.1.length ≤ 9223372036854775807 ∧ s.2.2.2.2.2.length ≤ 9223372036854775807) ∧ -9223372036854775808 ≤ s.2.2.2.1 ∧ s.2.2.2.1 ≤ 9223372036854775807) Tryz.underlying49 (by kernel_rfl) (by decide) (fun _ _ _ h => trod_ses2 h) h
 exact ⟨a, n, c, xs, h1, ⟨h2, h3⟩, h4⟩
end
end Go.Proofs.YtihbpggbpapcfaaGreatDoor

namespace Go.Proofs.YtihbpggbpapcfaaGreatDoor
open Go.RowKit

theorem LLX.ll {φ : Nat → Prop} {w : World} {s : Sl} {ls : List (List Ses)} (h : LLX φ w s ls) : LLAt w s.1 s.2.1 ls := by
 obtain ⟨_, _, rs, h1, h2⟩ := h
 exact ⟨rs, h1, h2.imp fun _ _ hr => hr.1⟩
theorem LLX.below {φ : Nat → Prop} {w w' : World} {s : Sl} {ls : List (List Ses)} (h : LLX φ w s ls) (hb : Below w.heap.size w w') : LLX φ w' s ls := by
 obtain ⟨h1, h2, rs, h3, h4⟩ := h
 exact ⟨h1, h2, rs, KAt.same h3 h2 (SameB.of_below (φ := φ) hb), h4.imp fun _ _ hr => hr.below hb⟩
theorem LLX.len {φ : Nat → Prop} {w : World} {s : Sl} {ls : List (List Ses)} (h : LLX φ w s ls) : s.2.1 = ls.length := by
 obtain ⟨_, _, rs, h3, h4⟩ := h
 rw [← h4.1]
 exact h3.1.symm
theorem LogX.syncP {φ : Nat → Prop} {w : World} {d vs xs : Sl} {y syn : Int} {l : Lg} (h : LogX φ w (logV d y vs xs) l) : LogX φ w (logV d syn vs xs) (l.1, syn, l.2.2.1, l.2.2.2) := by
 obtain ⟨a, b, c, e, g1, g2, g3, g4, g5⟩ := h
 obtain ⟨a1, a2, a3⟩ := a
 obtain ⟨b1, b2, b3⟩ := b
 obtain ⟨c1, c2, c3⟩ := c
 obtain ⟨d1, d2, d3⟩ := d
 obtain ⟨v1, v2, v3⟩ := vs
 obtain ⟨x1, x2, x3⟩ := xs
 simp only [logV, Value.agg.injEq, Array.mk.injEq, List.cons.injEq, slV, Value.slice.injEq] at e
 obtain ⟨⟨rfl, rfl, rfl⟩, _, ⟨rfl, rfl, rfl⟩, ⟨rfl, rfl, rfl⟩, _⟩ := e
 exact ⟨_, _, _, rfl, g1, g2, g3, g4, g5⟩
theorem LogX.vv {φ : Nat → Prop} {w : World} {d vs xs : Sl} {y : Int} {l : Lg} (h : LogX φ w (logV d y vs xs) l) : VVX φ w vs l.2.2.1 := by
 obtain ⟨a, b, c, e, _, _, _, g, _⟩ := h
 obtain ⟨a1, a2, a3⟩ := a
 obtain ⟨b1, b2, b3⟩ := b
 obtain ⟨v1, v2, v3⟩ := vs
 simp only [logV, Value.agg.injEq, Array.mk.injEq, List.cons.injEq, slV, Value.slice.injEq] at e
 obtain ⟨_, _, ⟨rfl, rfl, rfl⟩, _⟩ := e
 exact g
theorem LogX.vers {φ : Nat → Prop} {w : World} {d vs vs' xs : Sl} {y : Int} {l : Lg} {l3 : List Ver} (h : LogX φ w (logV d y vs xs) l) (hv : VVX φ w vs' l3) : LogX φ w (logV d y vs' xs) (l.1, y, l3, l.2.2.2) := by
 obtain ⟨a, b, c, e, g1, g2, g3, g4, g5⟩ := h
 obtain ⟨a1, a2, a3⟩ := a
 obtain ⟨b1, b2, b3⟩ := b
 obtain ⟨c1, c2, c3⟩ := c
 obtain ⟨d1, d2, d3⟩ := d
 obtain ⟨v1, v2, v3⟩ := vs
 obtain ⟨x1, x2, x3⟩ := xs
 simp only [logV, Value.agg.injEq, Array.mk.injEq, List.cons.injEq, slV, Value.slice.injEq] at e
 obtain ⟨⟨rfl, rfl, rfl⟩, _, ⟨rfl, rfl, rfl⟩, ⟨rfl, rfl, rfl⟩, _⟩ := e
 exact ⟨_, _, _, rfl, g1, g2, g3, hv, g5⟩
theorem VVX.tail {φ : Nat → Prop} {w : World} {b o n c : Nat} {vs : List Ver} (h : VVX φ w (some ⟨b, o, none⟩, n, c) vs) (hn : 1 ≤ n) : VVX φ w (some ⟨b, o + 3, none⟩, n - 1, c - 1) (vs.drop 1) := by
 obtain ⟨h1, h2, rs, h3, h4⟩ := h
 have h1 : n ≤ c := h1
 refine ⟨by show n - 1 ≤ c - 1; omega, ?_, rs.drop 1, KAt.drop h3 hn, by rw [List.length_drop, List.length_drop, h4.1], fun j x y hx hy => ?_⟩
 ·
  rcases h2 with h2 | ⟨b', o', e, hb⟩
  ·
   have h2 : n = 0 := h2
   omega
  ·
   simp only [Option.some.injEq, Addr.mk.injEq] at e
   obtain ⟨rfl, _, _⟩ := e
   exact Or.inr ⟨_, _, rfl, hb⟩
 ·
  rw [List.getElem?_drop] at hx hy
  exact h4.2 _ x y hx hy
theorem VVX.some {φ : Nat → Prop} {w : World} {a : Option Addr} {n c : Nat} {vs : List Ver} (h : VVX φ w (a, n, c) vs) (hn : 1 ≤ n) : ∃ b o, a = Option.some ⟨b, o, none⟩ := by
 obtain ⟨_, h2, _⟩ := h
 rcases h2 with h2 | ⟨b, o, e, _⟩
 ·
  have h2 : n = 0 := h2
  omega
 ·
  exact ⟨b, o, e⟩
theorem sameL_refl (l : Lg) : sameL l l = true := (sameL_iff l l).2 rfl
theorem ciTold (args : Array Value) (w : World) : (callFunc 29 args).run Tryz.prog w = .ok (.enter 29 args) w := by
 kernel_rfl
theorem ciSame (args : Array Value) (w : World) : (callFunc 28 args).run Tryz.prog w = .ok (.enter 28 args) w := by
 kernel_rfl
theorem ciNext (args : Array Value) (w : World) : (callFunc 24 args).run Tryz.prog w = .ok (.enter 24 args) w := by
 kernel_rfl
theorem ciAwk (args : Array Value) (w : World) : (callFunc 13 args).run Tryz.prog w = .ok (.enter 13 args) w := by
 kernel_rfl
theorem SV.x {w : World} {s : Sl} {ss : List Ses} (h : SV w s ss) : SVX (fun _ => True) w s ss := by
 refine ⟨h, ?_⟩
 rcases h.2.2.2 with h0 | ⟨b, o, e, _⟩
 ·
  exact Or.inl h0
 ·
  exact Or.inr ⟨b, o, e, trivial⟩
def pcV (e : Int) (va vb : Value) (_L : Array Bool) (j : Nat) (v : Value) (_W : World) : Prop := match j with
 | 0 | 1 => v = .int .i64 e
 | 2 | 3 | 8 | 9 => v = .bool false
 | 4 | 5 => v = va
 | 6 => v = vb
 | 7 => v = .bool true
 | _ => va = va
def peV (e : Int) (va vb : Value) (_L : Array Bool) (j : Nat) (v : Value) (_W : World) : Prop := match j with
 | 0 | 1 => v = .int .i64 e
 | 4 | 5 => v = va
 | 6 => v = vb
 | 2 | 3 | 7 | 8 | 9 | 10 | 11 | 12 => v = .bool true
 | _ => va = va
structure PbS (p R : Nat) (w0 : World) (d vs xs : Sl) (l : Lg) (s : Sl) (ys : List Ses) (W : World) : Prop where
 di : DiceAt W p
 bl : Below w0.heap.size w0 W
 bx : W.heap[R]? = some (.cells #[.slice d.1 d.2.1 d.2.2, .int .i64 l.2.1, .slice vs.1 vs.2.1 vs.2.2, .slice xs.1 xs.2.1 xs.2.2] 51 (0, 0))
 lg : LogX (fun b => p < b ∧ b ≠ R) W (logV d l.2.1 vs xs) l
 sx : SVX (fun b => p < b ∧ b ≠ R) W s ys
 so : SOk ys
 sl : ys.length ≤ 1000000
section
variable {p R : Nat} {w0 : World} {d vs xs : Sl} {l : Lg} {s : Sl} {ys : List Ses} {W W' : World}
theorem PbS.below (h : PbS p R w0 d vs xs l s ys W) (hb : Below W.heap.size W W') : PbS p R w0 d vs xs l s ys W' :=
 ⟨h.di.below hb, h.bl.trans (hb.mono h.bl.size), (hb.block R (lt_of_heap h.bx)).trans h.bx, h.lg.below hb, h.sx.below hb, h.so, h.sl⟩
theorem PbS.but (h : PbS p R w0 d vs xs l s ys W) (hd : DiceAt W' p) (hb : But p W W') (hp : w0.heap.size ≤ p) (hpR : p < R) : PbS p R w0 d vs xs l s ys W' :=
 have hs : SameB (fun b => p < b ∧ b ≠ R) W W' := SameB.of_but hb (fun b hb => by omega)
 ⟨hd, But.below h.bl hb hp h.bl.size, but_heap hb hpR h.bx, h.lg.same hs, h.sx.same hs, h.so, h.sl⟩
theorem PbS.sync {syn : Int} (h : PbS p R w0 d vs xs l s ys W) (hp : w0.heap.size ≤ R) (hpR : p < R) : PbS p R w0 d vs xs (l.1, syn, l.2.2.1, l.2.2.2) s ys (W.setCell ⟨R, 1, none⟩ (.int .i64 syn)) :=
 have hb : Below R W (W.setCell ⟨R, 1, none⟩ (.int .i64 syn)) := (Below.refl R W).setCell (p := ⟨R, 1, none⟩) (Nat.le_refl _) _
 have hs : SameB (fun b => p < b ∧ b ≠ R) W (W.setCell ⟨R, 1, none⟩ (.int .i64 syn)) := fun b hb _ => heap_setCell_other W ⟨R, 1, none⟩ b _ hb.2
 ⟨h.di.bel hb hpR, h.bl.setCell (p := ⟨R, 1, none⟩) hp _, heap_setCell_same _ R 1 _ _ _ h.bx, h.lg.syncP.same hs, h.sx.same hs, h.so, h.sl⟩
theorem PbS.vers {vs' : Sl} {l3 : List Ver} (h : PbS p R w0 d vs xs l s ys W) (hp : w0.heap.size ≤ R) (hpR : p < R) (hv : VVX (fun b => p < b ∧ b ≠ R) W vs' l3) : PbS p R w0 d vs' xs (l.1, l.2.1, l3, l.2.2.2) s ys (W.setCell ⟨R, 2, none⟩ (.slice vs'.1 vs'.2.1 vs'.2.2)) :=
 have hb : Below R W (W.setCell ⟨R, 2, none⟩ (.slice vs'.1 vs'.2.1 vs'.2.2)) := (Below.refl R W).setCell (p := ⟨R, 2, none⟩) (Nat.le_refl _) _
 have hs : SameB (fun b => p < b ∧ b ≠ R) W (W.setCell ⟨R, 2, none⟩ (.slice vs'.1 vs'.2.1 vs'.2.2)) := fun b hb _ => heap_setCell_other W ⟨R, 2, none⟩ b _ hb.2
 ⟨h.di.bel hb hpR, h.bl.setCell (p := ⟨R, 2, none⟩) hp _, heap_setCell_same _ R 2 _ _ _ h.bx, (h.lg.vers hv).same hs, h.sx.same hs, h.so, h.sl⟩
end

def mkV (p R : Nat) (y : Int) (_L : Array Bool) (j : Nat) (u : Value) (_W : World) : Prop := match j with
 | 0 | 7 => u = .pointer (some ⟨R, 0, none⟩)
 | 1 | 8 => u = .pointer (some ⟨R, 1, none⟩)
 | 2 => u = .int .i64 y
 | 3 => u = .pointer (some ⟨p, 0, none⟩)
 | 4 => ∃ r : Int, u = .int .i64 r ∧ 0 ≤ r ∧ r < 5
 | 5 => ∃ r : Int, u = .int .i64 (r - 2) ∧ 0 ≤ r ∧ r < 5
 | 6 => ∃ r : Int, u = .int .i64 (y + (r - 2)) ∧ 0 ≤ r ∧ r < 5
 | _ => p = p

set_option maxRecDepth 100000 in
set_option maxHeartbeats 16000000 in
theorem law_publishes (ra : Option Addr) (rn rc : Nat) (rs : List Ses) (a : Option Addr) (n c : Nat) (L : List Int) (wks wek : Int) (w : World) (hR : SV w (ra, rn, rc) rs) (hRO : SOk rs) (hI : IntsAt w a n L) (hL : ∀ x ∈ L, -9223372036854775808 ≤ x ∧ x ≤ 9223372036854775807) (hwb : -9223372036854775808 ≤ wek ∧ wek ≤ 9223372036854775807) (hE : Env w) :
  Calls Tryz.prog 7 #[.slice ra rn rc, .slice a n c, .int .i64 wks, .int .i64 wek] w (RetB (.bool true) w) := by
 have AW := Lib.hid (fun W (h : Below w.heap.size w W) => awake_any W (hE.below h))
 by_cases hg : n ≤ 400 ∧ rn ≤ 150
 rotate_left
 ·
  have hcond : (!decide (n ≤ 400) || decide (150 < rn)) = true := by
   simp only [Bool.or_eq_true, Bool.not_eq_true', decide_eq_true_eq, decide_eq_false_iff_not]
   omega
  clear hI hL hE hR hRO
  go_enter Tryz.func7, Tryz.ntmps7
  clear hcond
  go_wp2_with (first | (go_at_call 12; refine (light_any _ _ _ _).mono ?_; rintro e w' ⟨rfl, rfl⟩) | (go_at_call 13; refine (AW.out _ (Below.refl _ _)).mono ?_; rintro e w' ⟨rfl, hb⟩))
  all_goals first | (go_ret; exact ⟨rfl, hb⟩) | (exfalso; simp only [decide_eq_true_eq, decide_eq_false_iff_not, beq_iff_eq, Bool.not_eq_true, beq_eq_false_iff_ne] at *; omega)
 obtain ⟨hg, hrn⟩ := hg
 have hnd : decide (n ≤ 400) = true := by simpa using hg
 have HD0 := Lib.hid (DiceAt.mk0 c 104 hI hg hL)
 have HE := Lib.hid hE
 have HRO := Lib.hid hRO
 have HRW := Lib.hid hR
 have hrl : rs.length = rn := hR.2.1
 clear hR hRO
 clear hI hL hE
 go_enter Tryz.func7, Tryz.ntmps7
 go_upto_region 3 with (go_at_call 12; refine (light_any _ _ _ _).mono ?_; rintro e w' ⟨rfl, rfl⟩)
 have HB1 := Lib.hid ((Below.refl w.heap.size w).alloc (Nat.le_refl _) (.cells #[.slice a n c, .int .i64 0] 104))
 go_upto_region 4 with (go_at_call 15; refine (roll_any _ _ _ _).mono ?_; rintro e w' ⟨rfl, rfl⟩)
 generalize w.alloc (.cells #[.slice a n c, .int .i64 0] 104) = w1 at *
 obtain ⟨p, hp⟩ : ∃ p, p = w.heap.size := ⟨_, rfl⟩
 rw [← hp] at HD0 ⊢
 have hpw : w.heap.size ≤ p := Nat.le_of_eq hp.symm
 clear hp
 have N8 := Lib.hid (next_any p 8 w1 (by omega) (by omega) HD0.out)
 go_upto_region 5 with (go_at_call 24; refine N8.out.mono ?_; rintro en w2 ⟨r, r0, r8, rfl, hd2, hb2⟩)
 have HB2 := Lib.hid (But.below HB1.out hb2 hpw HB1.out.size)
 obtain ⟨m, hm⟩ : ∃ m : Nat, 1 + r = (m : Int) := ⟨(1 + r).toNat, by omega⟩
 have hm1 : 1 ≤ m := by omega
 have hm8 : m ≤ 8 := by omega
 rw [hm]
 have FL := Lib.hid (filled_any p m hm1 hm8 w2 hd2)
 have hp2 : p < w2.heap.size := hd2.lt
 clear N8 HD0 hd2 hb2 hm r0 r8
 go_upto_region 6 with (go_at_call 25; refine FL.out.mono ?_; rintro en w3 ⟨_, ⟨s0, s1, s2⟩, l, ss, rfl, ⟨⟨d0, d1, d2⟩, ⟨v0, v1, v2⟩, ⟨x0, x1, x2⟩, rfl, hlq⟩, hll, hpu, hs4, hd3, hb3⟩; rw [show (logV (d0, d1, d2) l.2.1 (v0, v1, v2) (x0, x1, x2)) = .agg #[.slice d0 d1 d2, .int .i64 l.2.1, .slice v0 v1 v2, .slice x0 x1 x2] from rfl])
 have hlx : LogX (fun b => w2.heap.size ≤ b ∧ b < w3.heap.size) w3 (logV (d0, d1, d2) l.2.1 (v0, v1, v2) (x0, x1, x2)) l := LogX.lt (φ := fun b => w2.heap.size ≤ b) ⟨_, _, _, rfl, hlq⟩
 have hal : Below w3.heap.size w3 (w3.alloc (.cells #[.slice d0 d1 d2, .int .i64 l.2.1, .slice v0 v1 v2, .slice x0 x1 x2] 51)) := (Below.refl _ _).alloc (Nat.le_refl _) _
 have HX : Hid ((w3.alloc (.cells #[.slice d0 d1 d2, .int .i64 l.2.1, .slice v0 v1 v2, .slice x0 x1 x2] 51)).heap[w3.heap.size]? = some (.cells #[.slice d0 d1 d2, .int .i64 l.2.1, .slice v0 v1 v2, .slice x0 x1 x2] 51 (0, 0))) := Lib.hid (heap_alloc_new _ _)
 have HLX := Lib.hid (hlx.below hal)
 have HLL := Lib.hid (hll.below hal)
 have HPU := Lib.hid hpu
 have HD4 := Lib.hid (hd3.below hal)
 have HB3 := Lib.hid (But.below HB2.out hb3 hpw HB2.out.size)
 have HB4 := Lib.hid (HB3.out.trans (hal.mono HB3.out.size))
 have HPR : Hid (p < w3.heap.size) := Lib.hid (Nat.lt_of_lt_of_le hp2 hb3.size)
 have hs1 : s1 = ss.length + 1 := hll.len
 have hs5 : s1 ≤ 5 := by omega
 have HS1 := Lib.hid hs1
 clear hs1
 have HVL := Lib.hid (chn_len hpu.ch)
 have hdl : l.1.length = d1 := by
  obtain ⟨a, b, c, e, g1, _⟩ := hlx
  obtain ⟨a1, a2, a3⟩ := a
  simp only [logV, Value.agg.injEq, Array.mk.injEq, List.cons.injEq, slV, Value.slice.injEq] at e
  obtain ⟨⟨rfl, rfl, rfl⟩, _⟩ := e
  exact g1.2.1
 have HDL := Lib.hid hdl
 have HD1 : Hid (d1 ≤ 9223372036854775806) := Lib.hid (by have := hpu.sz; omega)
 have HRB : Hid (∀ b, (w2.heap.size ≤ b ∧ b < w3.heap.size) → b ≠ w3.heap.size) := Lib.hid (fun b hb => Nat.ne_of_lt hb.2)
 clear hdl hs4
 clear FL hlq hlx hll hpu hd3 hb3 hal HB3 HB2 HB1
 generalize w3.alloc (.cells #[.slice d0 d1 d2, .int .i64 l.2.1, .slice v0 v1 v2, .slice x0 x1 x2] 51) = w4 at *
 generalize w3.heap.size = R at *
 have hpR : p < R := HPR.out
 have hwR : w.heap.size ≤ R := Nat.le_trans hpw (Nat.le_of_lt hpR)
 have HSO : Hid (SOk l.2.2.2) := Lib.hid (vld_log HPU.out.vld).2.2.2.2.1
 have hy0 := HPU.out.s0
 have hy1 : l.2.1 ≤ 1048576 := by have := HPU.out.s1; have := HPU.out.sz; omega
 have hq4 : l.2.2.2.length ≤ 500000 := by have := (vld_small HPU.out.vld).2.2.1; omega
 have LA := Lib.hid (list_any p m hm1 hm8 w4 HD4.out)
 go_wp2_with (go_at_call 32; refine LA.out.mono ?_; rintro en w5 ⟨v5, nx, rfl, hr5, hl5, ho5, hd5, hb5⟩; clear LA; obtain ⟨⟨t0, t1, t2⟩, ht, _⟩ := SRow.sv hr5; replace ht : v5 = .slice t0 t1 t2 := ht; subst ht)
 have HX5 := Lib.hid (but_heap hb5 hpR HX.out)
 have hR4 := lt_of_heap HX.out
 have HPS : Hid (PbS p R w (d0, d1, d2) (v0, v1, v2) (x0, x1, x2) l (t0, t1, t2) nx w5) := Lib.hid
  ⟨hd5, But.below HB4.out hb5 hpw HB4.out.size, HX5.out, (HLX.out.imp (fun b hb => ⟨by omega, HRB.out b hb⟩)).same (SameB.of_but hb5 (fun b hb => by omega)), sv_row hr5 (fun b hb => ⟨by omega, by omega⟩), ho5, by omega⟩
 clear HX5 HX HLX HLL HD4 HB4 hr5 ho5 hd5 hb5 HPU HVL HS1 hs5 HDL HD1 HRB hR4 hp2
 have NM := Lib.hid (next_any p m w5 (by omega) (by omega) HPS.out.di)
 go_upto_region 7 with (go_at_call 24; refine NM.out.mono ?_; rintro en w6 ⟨r, r0, r9, rfl, hd6, hb6⟩; clear NM)
 have HPS6 := Lib.hid (HPS.out.but hd6 hb6 hpw hpR)
 obtain ⟨k, hk⟩ : ∃ k : Int, 1 + r = k := ⟨_, rfl⟩
 rw [hk]
 have hk1 : 1 ≤ k ∧ k ≤ 8 := by omega
 have SPL := Lib.hid (rsplice_any x0 x1 x2 l.2.2.2 t0 t1 t2 nx m k w6 (by obtain ⟨a, b, c, e, _, _, _, _, g⟩ := HPS6.out.lg; obtain ⟨a1, a2, a3⟩ := a; obtain ⟨b1, b2, b3⟩ := b; obtain ⟨c1, c2, c3⟩ := c; simp only [logV, Value.agg.injEq, Array.mk.injEq, List.cons.injEq, slV, Value.slice.injEq] at e; obtain ⟨_, _, _, ⟨rfl, rfl, rfl⟩, _⟩ := e; exact g.1.2) HSO.out.str HPS6.out.sx.1.2 HPS6.out.so.str ⟨by omega, by omega⟩)
 have hsm := spc_small (n := m) (k := k) HSO.out HPS6.out.so
 obtain ⟨⟨er, sp⟩, hsp⟩ : ∃ r, spcS m k l.2.2.2 nx = r := ⟨_, rfl⟩
 rw [hsp] at SPL hsm
 simp only at hsm
 have HSM := Lib.hid hsm.1
 have hl4 : sp.length ≤ 1000000 := by have := hq4; have := hsm.2; omega
 clear hd6 hb6 HPS hk r0 r9 hsm hsp
 obtain ⟨⟨c0, c1, c2, c3⟩, _⟩ := box4_cells HPS6.out.bx
 go_upto_region 8 with (go_at_call 33; refine SPL.out.mono ?_; rintro en w7 ⟨v7, rfl, hr7, hb7⟩; clear SPL; obtain ⟨⟨u0, u1, u2⟩, hu, _⟩ := SRow.sv hr7; replace hu : v7 = .slice u0 u1 u2 := hu; subst hu)
 clear c0 c1 c2 c3
 have HPS7 := Lib.hid (HPS6.out.below hb7)
 have HS7 : Hid (SVX (fun b => p < b ∧ b ≠ R) w7 (u0, u1, u2) sp) := Lib.hid (sv_row hr7 (fun b hb => by have := HPS6.out.di.lt; have := lt_of_heap HPS6.out.bx; omega))
 clear hr7 hb7 HPS6 HSO
 go_cut [71] (fun s71 wx => ∃ b : Bool, s71 = .bool b ∧ Hid (PbS p R w (d0, d1, d2) (v0, v1, v2) (x0, x1, x2) l (t0, t1, t2) nx wx) ∧ Hid (SVX (fun b => p < b ∧ b ≠ R) wx (u0, u1, u2) sp))
 case first =>
  by_cases her : er = 0
  ·
   subst her
   have O4 := Lib.hid (one_any p 4 w7 (by omega) (by omega) HPS7.out.di)
   go_wp2_with (go_at_call 34; refine O4.out.mono ?_; rintro en w8 ⟨b, rfl, hd8, hb8⟩; clear O4; simp only [])
   go_meet
   exact ⟨_, rfl, Lib.hid (HPS7.out.but hd8 hb8 hpw hpR), Lib.hid (HS7.out.same (SameB.of_but hb8 (fun b hb => by omega)))⟩
  ·
   have hd : (er == 0) = false := by simpa using her
   clear her
   go_wp2_with fail
   go_meet
   exact ⟨_, rfl, HPS7, HS7⟩
 case rest =>
  obtain ⟨b, rfl, HPA, HSA⟩ := hcut
  clear HPS7 HS7
  go_upto_if 71 with fail
  go_cut [13] (fun s13 wx => ∃ (ta : Option Addr) (tb tc : Nat) (ys : List Ses), s13 = .slice ta tb tc ∧ Hid (PbS p R w (d0, d1, d2) (v0, v1, v2) (x0, x1, x2) l (ta, tb, tc) ys wx))
  case first =>
   cases b with
   | false =>
    go_wp2_with fail
    go_meet
    exact ⟨t0, t1, t2, nx, rfl, HPA⟩
   | true =>
    go_wp2_with fail
    go_meet
    exact ⟨u0, u1, u2, sp, rfl, Lib.hid ⟨HPA.out.di, HPA.out.bl, HPA.out.bx, HPA.out.lg, HSA.out, HSM.out, hl4⟩⟩
  case rest =>
   obtain ⟨ta, tb, tc, ys, rfl, HPB⟩ := hcut
   clear HPA HSA HSM hl4
   have O8 := Lib.hid (one_any p 8 wc (by omega) (by omega) HPB.out.di)
   go_upto_if 74 with (go_at_call 34; refine O8.out.mono ?_; rintro en w9 ⟨b8, rfl, hd9, hb9⟩; clear O8; simp only [])
   have HPC := Lib.hid (HPB.out.but hd9 hb9 hpw hpR)
   clear hd9 hb9 HPB
   go_cut [10] (fun s10 wx => ∃ l' : Lg, s10 = .int .i64 m ∧ Hid (PbS p R w (d0, d1, d2) (v0, v1, v2) (x0, x1, x2) l' (ta, tb, tc) ys wx))
   case first =>
    cases b8 with
    | false =>
     go_wp2_with fail
     go_meet
     exact ⟨l, rfl, HPC⟩
    | true =>
     go_upto_region 11 with fail
     refine wp_region_relG (N := 175) (mkV p R l.2.1) (fun L W => (¬ L[9]? = some true → PbS p R w (d0, d1, d2) (v0, v1, v2) (x0, x1, x2) l (ta, tb, tc) ys W) ∧ (L[9]? = some true → ∃ syn : Int, PbS p R w (d0, d1, d2) (v0, v1, v2) (x0, x1, x2) (l.1, syn, l.2.2.1, l.2.2.2) (ta, tb, tc) ys W)) (by kernel_rfl) (by kernel_rfl) (by rfl) ⟨fun _ => HPC.out.below (bel_drew0 _), fun h => by simp at h⟩ (no_gd (by kernel_rfl)) ?_ ?_
     ·
      intro i o L a' W ho hl hL hS hdf dep all fr dwn
      have D : L[9]? = some true → ∀ j, j < 9 → L[j]? = some true := fun h9 => by
       have h6 := dwn 9 _ rfl h9 6 _ rfl (by kernel_rfl)
       have h8 := dwn 9 _ rfl h9 8 _ rfl (by kernel_rfl)
       have h7 := dwn 8 _ rfl h8 7 _ rfl (by kernel_rfl)
       have h2 := dwn 6 _ rfl h6 2 _ rfl (by kernel_rfl)
       have h5 := dwn 6 _ rfl h6 5 _ rfl (by kernel_rfl)
       have h4 := dwn 5 _ rfl h5 4 _ rfl (by kernel_rfl)
       have h3 := dwn 4 _ rfl h4 3 _ rfl (by kernel_rfl)
       have h1 := dwn 2 _ rfl h2 1 _ rfl (by kernel_rfl)
       have h0 := dwn 1 _ rfl h1 0 _ rfl (by kernel_rfl)
       intro j hj
       match j, hj with
       | 0, _ => exact h0
       | 1, _ => exact h1
       | 2, _ => exact h2
       | 3, _ => exact h3
       | 4, _ => exact h4
       | 5, _ => exact h5
       | 6, _ => exact h6
       | 7, _ => exact h7
       | 8, _ => exact h8
       | q + 9, hq => exact absurd hq (by omega)
      have hn : i < 9 → ¬ L[9]? = some true := fun hi h => by
       have := D h i hi
       rw [hl] at this; cases this
      match i, ho with
      | 0, ho =>
       obtain rfl := so ho
       have hn9 := hn (by decide)
       have f8 := fr 11 (by kernel_rfl)
       unfold Oper.wp
       simp [go_sem, f8]
       exact ⟨_, rfl, rfl, ⟨fun h => hS.1 (not_more h), fun h => absurd h (listed_not hn9 (by decide))⟩, fun _ _ _ _ _ _ _ => id⟩
      | 1, ho =>
       obtain rfl := so ho
       have hn9 := hn (by decide)
       have d0 := dw (dep 0 _ rfl (by kernel_rfl)) rfl
       unfold Oper.wp
       simp [go_sem, d0]
       exact ⟨_, rfl, rfl, ⟨fun h => hS.1 (not_more h), fun h => absurd h (listed_not hn9 (by decide))⟩, fun _ _ _ _ _ _ _ => id⟩
      | 2, ho =>
       obtain rfl := so ho
       have hn9 := hn (by decide)
       have d1 := dw (dep 1 _ rfl (by kernel_rfl)) rfl
       have hc := box4_cells (hS.1 hn9).bx
       obtain ⟨⟨_, c1, _⟩, _⟩ := hc
       unfold Oper.wp
       simp [go_sem, d1, c1]
       exact ⟨_, rfl, rfl, ⟨fun h => hS.1 (not_more h), fun h => absurd h (listed_not hn9 (by decide))⟩, fun _ _ _ _ _ _ _ => id⟩
      | 3, ho =>
       obtain rfl := so ho
       have hn9 := hn (by decide)
       have f8 := fr 9 (by kernel_rfl)
       unfold Oper.wp
       simp [go_sem, f8]
       exact ⟨_, rfl, rfl, ⟨fun h => hS.1 (not_more h), fun h => absurd h (listed_not hn9 (by decide))⟩, fun _ _ _ _ _ _ _ => id⟩
      | 4, ho =>
       obtain rfl := so ho
       have hn9 := hn (by decide)
       have d3 := dw (dep 3 _ rfl (by kernel_rfl)) rfl
       refine wp_call1 (args := #[.pointer (some ⟨p, 0, none⟩), .int .i64 5]) rfl (by simp [Act.eval, d3]) (ciNext _ _) (next_any p 5 W (by omega) (by omega) (hS.1 hn9).di) ?_
       rintro e w' ⟨r, r0, r5, rfl, hd, hb⟩
       exact ⟨_, rfl, ⟨r, rfl, r0, r5⟩, ⟨fun h => (hS.1 (not_more h)).but hd hb hpw hpR, fun h => absurd h (listed_not hn9 (by decide))⟩, fun _ _ _ _ _ _ _ => id⟩
      | 5, ho =>
       obtain rfl := so ho
       have hn9 := hn (by decide)
       obtain ⟨_, v4, ⟨r, rfl, r0, r5⟩, d4⟩ := dep 4 _ rfl (by kernel_rfl)
       have d4 := d4 79 rfl
       have hw : IntKind.i64.wrap (r - 2) = r - 2 := IntWalk.i64_in _ (by omega)
       unfold Oper.wp
       simp [go_sem, d4, hw]
       exact ⟨_, rfl, ⟨r, rfl, r0, r5⟩, ⟨fun h => hS.1 (not_more h), fun h => absurd h (listed_not hn9 (by decide))⟩, fun _ _ _ _ _ _ _ => id⟩
      | 6, ho =>
       obtain rfl := so ho
       have hn9 := hn (by decide)
       have d2 := dw (dep 2 _ rfl (by kernel_rfl)) rfl
       obtain ⟨_, v5, ⟨r, rfl, r0, r5⟩, d5⟩ := dep 5 _ rfl (by kernel_rfl)
       have d5 := d5 80 rfl
       have hw : IntKind.i64.wrap (l.2.1 + (r - 2)) = l.2.1 + (r - 2) := IntWalk.i64_in _ (by omega)
       unfold Oper.wp
       simp [go_sem, d2, d5, hw]
       exact ⟨_, rfl, ⟨r, rfl, r0, r5⟩, ⟨fun h => hS.1 (not_more h), fun h => absurd h (listed_not hn9 (by decide))⟩, fun _ _ _ _ _ _ _ => id⟩
      | 7, ho =>
       obtain rfl := so ho
       have hn9 := hn (by decide)
       have f8 := fr 11 (by kernel_rfl)
       unfold Oper.wp
       simp [go_sem, f8]
       exact ⟨_, rfl, rfl, ⟨fun h => hS.1 (not_more h), fun h => absurd h (listed_not hn9 (by decide))⟩, fun _ _ _ _ _ _ _ => id⟩
      | 8, ho =>
       obtain rfl := so ho
       have hn9 := hn (by decide)
       have d7 := dw (dep 7 _ rfl (by kernel_rfl)) rfl
       unfold Oper.wp
       simp [go_sem, d7]
       exact ⟨_, rfl, rfl, ⟨fun h => hS.1 (not_more h), fun h => absurd h (listed_not hn9 (by decide))⟩, fun _ _ _ _ _ _ _ => id⟩
      | 9, ho =>
       obtain rfl := so ho
       obtain ⟨_, v6, ⟨r, rfl, r0, r5⟩, d6⟩ := dep 6 _ rfl (by kernel_rfl)
       have d6 := d6 81 rfl
       have d8 := dw (dep 8 _ rfl (by kernel_rfl)) rfl
       have hn9 : ¬ L[9]? = some true := by rw [hl]; simp
       obtain ⟨⟨_, c1, _⟩, _, z1, _⟩ := box4_cells (hS.1 hn9).bx
       unfold Oper.wp
       simp [go_sem, d8, d6, c1, z1]
       exact ⟨.tuple #[], rfl, rfl, ⟨fun h => absurd (listed_now hl) h, fun _ => ⟨l.2.1 + (r - 2), (hS.1 hn9).sync hwR hpR⟩⟩, fun _ _ _ _ _ _ _ => id⟩
     ·
      intro us W hS hV
      obtain ⟨syn, hps⟩ := hS.2 rfl
      have HPD := Lib.hid hps
      clear hV hS hps
      simp only [putAll, Act.put, List.setIfInBounds_toArray, List.set_cons_zero, List.set_cons_succ, Nat.zero_add, Nat.reduceAdd]
      go_wp2_with fail
      go_meet
      exact ⟨_, rfl, HPD⟩
   case rest =>
    obtain ⟨l', rfl, HPD⟩ := hcut
    clear HPC
    have O8 := Lib.hid (one_any p 8 wc (by omega) (by omega) HPD.out.di)
    obtain ⟨⟨c0, c1, c2, c3⟩, _⟩ := box4_cells HPD.out.bx
    obtain ⟨wq, rfl⟩ : ∃ wq : World, wq = wc := ⟨_, rfl⟩
    go_upto_region 12 with fail
    go_cut [91] (fun s91 wx => ∃ b : Bool, s91 = .bool b ∧ (b = true → 0 < v1) ∧ Hid (PbS p R w (d0, d1, d2) (v0, v1, v2) (x0, x1, x2) l' (ta, tb, tc) ys wx))
    case first =>
     by_cases hv1 : 0 < v1
     ·
      have hv2 : (0 : Int) < v1 := by omega
      go_wp2_with (go_at_call 34; refine O8.out.mono ?_; rintro en w8 ⟨b, rfl, hd8, hb8⟩; clear O8; obtain ⟨HPE, ⟨k0, k1, k2, k3⟩, _⟩ : Hid (PbS p R w (d0, d1, d2) (v0, v1, v2) (x0, x1, x2) l' (ta, tb, tc) ys w8) ∧ _ := ⟨Lib.hid (HPD.out.but hd8 hb8 hpw hpR), box4_cells (HPD.out.but hd8 hb8 hpw hpR).bx⟩; clear hd8 hb8; cases b <;> simp only [])
      all_goals (
       go_meet
       exact ⟨_, rfl, fun _ => hv1, HPE⟩)
     ·
      have hv2 : ¬ (0 : Int) < v1 := by omega
      go_wp2_with (go_at_call 34; refine O8.out.mono ?_; rintro en w8 ⟨b, rfl, hd8, hb8⟩; clear O8; obtain ⟨HPE, ⟨k0, k1, k2, k3⟩, _⟩ : Hid (PbS p R w (d0, d1, d2) (v0, v1, v2) (x0, x1, x2) l' (ta, tb, tc) ys w8) ∧ _ := ⟨Lib.hid (HPD.out.but hd8 hb8 hpw hpR), box4_cells (HPD.out.but hd8 hb8 hpw hpR).bx⟩; clear hd8 hb8; cases b <;> simp only [])
      all_goals (
       go_meet
       first | exact ⟨false, rfl, fun h => absurd h (by decide), HPE⟩ | exact ⟨rfl, fun h => absurd h (by decide), HPE⟩ | exact ⟨false, fun h => absurd h (by decide), HPE⟩ | exact ⟨fun h => absurd h (by decide), HPE⟩)
    case rest =>
     obtain ⟨b, rfl, hbv, HPE⟩ := hcut
     clear c0 c1 c2 c3 HPD O8
     go_upto_if 91 with fail
     go_cut [10] (fun s10 wx => ∃ (va : Option Addr) (vb vc : Nat) (l2 : Lg), s10 = .int .i64 m ∧ Hid (PbS p R w (d0, d1, d2) (va, vb, vc) (x0, x1, x2) l2 (ta, tb, tc) ys wx))
     case first =>
      cases b with
      | false =>
       go_wp2_with fail
       go_meet
       exact ⟨_, _, _, l', rfl, HPE⟩
      | true =>
       have hv1 := hbv rfl
       obtain ⟨⟨c0, c1, c2, c3⟩, z0, z1, z2, z3⟩ := box4_cells HPE.out.bx
       have hvx := HPE.out.lg.vv
       have hvc : v1 ≤ v2 := hvx.1
       have hi1 : (1 : Int) ≤ v1 := by omega
       obtain ⟨vb, vo, rfl⟩ := hvx.some hv1
       by_cases hc1 : v2 = 1
       ·
        have hv0 : v1 - 1 = 0 := by omega
        have HPG := Lib.hid (HPE.out.vers (vs' := (some ⟨vb, vo, none⟩, 0, 0)) (l3 := []) hwR hpR ⟨Nat.le_refl _, Or.inl rfl, [], ⟨rfl, by show 0 ≤ _; omega, Or.inl rfl⟩, All2.nil _⟩)
        clear hvx hbv hv0
        subst hc1
        obtain rfl : v1 = 1 := by omega
        go_wp2_with fail
        go_meet
        exact ⟨_, _, _, _, rfl, HPG⟩
       ·
        have HPG := Lib.hid (HPE.out.vers hwR hpR (hvx.tail hv1))
        clear hvx hbv
        go_wp2_with fail
        go_meet
        exact ⟨_, _, _, _, rfl, HPG⟩
     case rest =>
      obtain ⟨va, vb, vc, l2, rfl, HPF⟩ := hcut
      clear HPE
      have HG := Lib.hid (BX.mk0 (vs := #[.slice ra rn rc, .slice ta tb tc]) (T := 49) wc)
      go_upto_region 15 with fail
      have HX7 := Lib.hid ((HG.out.bl.block R (lt_of_heap HPF.out.bx)).trans HPF.out.bx)
      have HLX7 := Lib.hid ((HPF.out.lg.imp (ψ := fun _ => True) (fun _ _ => trivial)).below HG.out.bl)
      have HBW7 := Lib.hid (HPF.out.bl.trans (HG.out.bl.mono HPF.out.bl.size))
      have hsx := (HPF.out.sx.imp (ψ := fun _ => True) (fun _ _ => trivial)).below HG.out.bl
      have hyl : tb = ys.length := HPF.out.sx.1.2.1.symm
      have hso := HPF.out.so
      have hsl := HPF.out.sl
      generalize wc.alloc (.cells #[.slice ra rn rc, .slice ta tb tc] 49) = w7 at *
      generalize wc.heap.size = G at *
      have HS : Hid (∀ i, i < 2 → ∃ xa xn xc zs, w7.cell? ⟨G, i, none⟩ = some (.slice xa xn xc) ∧ SVX (fun _ => True) w7 (xa, xn, xc) zs ∧ SOk zs ∧ xn ≤ 1000000) := Lib.hid (fun i hi => by
       match i, hi with
       | 0, _ => exact ⟨ra, rn, rc, rs, HG.out.cell 0, (HRW.out.below HBW7.out).x, HRO.out, by omega⟩
       | 1, _ => exact ⟨ta, tb, tc, ys, HG.out.cell 1, hsx, hso, by omega⟩)
      clear HG hsx hyl hso hsl HPF
      go_loopw [100] (fun s100 wr => ∃ i : Nat, i ≤ 2 ∧ s100 = .int .i64 i ∧ Hid (Below w7.heap.size w7 wr)) (fun s100 _ => 2 - (intOf s100).toNat)
      case atStart => exact ⟨0, by omega, rfl, Lib.hid (Below.refl _ _)⟩
      case round =>
       obtain ⟨i, hi, rfl, HB⟩ := hrel
       have HBW := Lib.hid (HBW7.out.trans (HB.out.mono HBW7.out.size))
       by_cases hlt : i < 2
       ·
        obtain ⟨xa, xn, xc, zs, hcell, hsv, hso, hxn⟩ := HS.out i hlt
        have f0 := (HB.out.cell (lt_of_cell hcell)).trans hcell
        have hii : (i : Int) < 2 := by omega
        have HJ := Lib.hid (BX.mk0 (vs := #[.int .i64 wks, .int .i64 wek, .int .i64 m, .int .i64 wek, .int .i64 m, .int .i64 k]) (T := 69) wr)
        have HSV := Lib.hid (hsv.below (below3 HB.out HJ.out.bl))
        have HSZ := Lib.hid hso
        have HB8 := Lib.hid (below3 HB.out HJ.out.bl)
        have HBW8 := Lib.hid (HBW.out.trans (HJ.out.bl.mono HBW.out.size))
        clear hcell hsv hso
        obtain ⟨wo, rfl⟩ : ∃ wo : World, wo = wr := ⟨_, rfl⟩
        go_upto_region 18 with fail
        clear f0
        generalize wo.alloc (.cells #[.int .i64 wks, .int .i64 wek, .int .i64 m, .int .i64 wek, .int .i64 m, .int .i64 k] 69) = w8 at *
        generalize wo.heap.size = G2 at *
        have KS : Hid (∀ j, j < 3 → ∃ ky kz : Int, (-9223372036854775808 ≤ kz ∧ kz ≤ 9223372036854775807) ∧ w8.cell? ⟨G2, j * 2, none⟩ = some (.int .i64 ky) ∧ w8.cell? ⟨G2, j * 2 + 1, none⟩ = some (.int .i64 kz)) := Lib.hid (fun j hj => by
         match j, hj with
         | 0, _ => exact ⟨wks, wek, hwb, HJ.out.cell 0, HJ.out.cell 1⟩
         | 1, _ => exact ⟨m, wek, hwb, HJ.out.cell 2, HJ.out.cell 3⟩
         | 2, _ => exact ⟨m, k, by omega, HJ.out.cell 4, HJ.out.cell 5⟩)
        clear HJ HB HBW
        go_loopw [115] (fun s115 wr => ∃ j : Nat, j ≤ 3 ∧ s115 = .int .i64 j ∧ Hid (Below w8.heap.size w8 wr)) (fun s115 _ => 3 - (intOf s115).toNat)
        case atStart => exact ⟨0, by omega, rfl, Lib.hid (Below.refl _ _)⟩
        case round =>
         obtain ⟨j, hj, rfl, HC⟩ := hrel
         by_cases hjt : j < 3
         ·
          obtain ⟨ky, kz, hkz, hc0, hc1⟩ := KS.out j hjt
          have f0 := (HC.out.cell (lt_of_cell hc0)).trans hc0
          have f1 := (HC.out.cell (lt_of_cell hc1)).trans hc1
          have hjj : (j : Int) < 3 := by omega
          have HTJ := Lib.hid (BX.mk0 (vs := #[.int .i64 ky, .int .i64 kz]) (T := 69) wr)
          clear hc0 hc1
          go_upto_region 20 with fail
          clear f0 f1
          have HC := Lib.hid (below3 HC.out HTJ.out.bl)
          generalize wr.alloc (.cells #[.int .i64 ky, .int .i64 kz] 69) = wj at *
          generalize wr.heap.size = QJ at *
          have HCW := Lib.hid (HBW8.out.trans (HC.out.mono HBW8.out.size))
          have HCX := Lib.hid (below3 HB8.out HC.out)
          have HXj := Lib.hid ((HCX.out.block R (lt_of_heap HX7.out)).trans HX7.out)
          have HLJ := Lib.hid (HLX7.out.below HCX.out)
          have HSJ := Lib.hid (HSV.out.below HC.out)
          have O1 := Lib.hid (publish_any (logV (d0, d1, d2) l2.2.1 (va, vb, vc) (x0, x1, x2)) l2 ky kz xa xn xc zs wj HLJ.out.logP HSJ.out.1.2 HSZ.out HSJ.out.1.1 hkz (HE.out.below HCW.out) hxn)
          have O2 := Lib.hid (fun W (h : Below wj.heap.size wj W) => rpublish_any (fun _ => True) (logV (d0, d1, d2) l2.2.1 (va, vb, vc) (x0, x1, x2)) l2 ky kz xa xn xc zs W (fun _ _ => trivial) (HLJ.out.below h) (HSJ.out.below h) HSZ.out.str hkz)
          obtain ⟨⟨e0, r0⟩, hr0⟩ : ∃ r, pubS ky kz l2 zs = r := ⟨_, rfl⟩
          rw [hr0] at O1 O2
          clear hr0
          obtain ⟨⟨c0, c1, c2, c3⟩, _⟩ := box4_cells HXj.out
          obtain ⟨h0, h1⟩ : _ ∧ _ := ⟨HTJ.out.cell 0, HTJ.out.cell 1⟩
          go_upto_region 21 with (go_at_call 35; refine O1.out.mono ?_; rintro en w9 ⟨_, rfl, ⟨⟨d0', d1', d2'⟩, ⟨v0', v1', v2'⟩, ⟨x0', x1', x2'⟩, rfl, hlo⟩, hb9⟩; rw [show logV (d0', d1', d2') (e0, r0).2.2.1 (v0', v1', v2') (x0', x1', x2') = .agg #[.slice d0' d1' d2', .int .i64 r0.2.1, .slice v0' v1' v2', .slice x0' x1' x2'] from rfl])
          have hla : LogR w9 (.agg #[.slice d0' d1' d2', .int .i64 r0.2.1, .slice v0' v1' v2', .slice x0' x1' x2']) r0 := LogO.logR (B := wj.heap.size) ⟨(d0', d1', d2'), (v0', v1', v2'), (x0', x1', x2'), rfl, hlo⟩
          have hal : Below w9.heap.size w9 (w9.alloc (.cells #[.slice d0' d1' d2', .int .i64 r0.2.1, .slice v0' v1' v2', .slice x0' x1' x2'] 55)) := (Below.refl _ _).alloc (Nat.le_refl _) _
          have HQ1 : Hid ((w9.alloc (.cells #[.slice d0' d1' d2', .int .i64 r0.2.1, .slice v0' v1' v2', .slice x0' x1' x2'] 55)).heap[w9.heap.size]? = some (.cells #[.slice d0' d1' d2', .int .i64 r0.2.1, .slice v0' v1' v2', .slice x0' x1' x2'] 55 (0, 0))) := Lib.hid (heap_alloc_new _ _)
          have HLA := Lib.hid (hla.below hal)
          have HB10 := Lib.hid (below3 hb9 hal)
          clear hla hlo hb9 hal O1 c0 c1 c2 c3
          generalize w9.alloc (.cells #[.slice d0' d1' d2', .int .i64 r0.2.1, .slice v0' v1' v2', .slice x0' x1' x2'] 55) = w10 at *
          generalize w9.heap.size = Q1 at *
          obtain ⟨⟨c0, c1, c2, c3⟩, _⟩ := box4_cells ((HB10.out.block R (lt_of_heap HXj.out)).trans HXj.out)
          have HT10 := Lib.hid (HTJ.out.next HB10.out)
          obtain ⟨h0, h1⟩ : _ ∧ _ := ⟨HT10.out.cell 0, HT10.out.cell 1⟩
          go_upto_region 22 with (go_at_call 36; refine (O2.out _ HB10.out).mono ?_; rintro en w11 ⟨_, rfl, ⟨⟨e0', e1', e2'⟩, ⟨f0', f1', f2'⟩, ⟨y0', y1', y2'⟩, rfl, hlo⟩, hb11⟩; rw [show logV (e0', e1', e2') (e0, r0).2.2.1 (f0', f1', f2') (y0', y1', y2') = .agg #[.slice e0' e1' e2', .int .i64 r0.2.1, .slice f0' f1' f2', .slice y0' y1' y2'] from rfl])
          have hlb : LogR w11 (.agg #[.slice e0' e1' e2', .int .i64 r0.2.1, .slice f0' f1' f2', .slice y0' y1' y2']) r0 := LogX.logP (φ := fun _ => True) ⟨(e0', e1', e2'), (f0', f1', f2'), (y0', y1', y2'), rfl, hlo⟩ |>.logR
          have hal : Below w11.heap.size w11 (w11.alloc (.cells #[.slice e0' e1' e2', .int .i64 r0.2.1, .slice f0' f1' f2', .slice y0' y1' y2'] 51)) := (Below.refl _ _).alloc (Nat.le_refl _) _
          have HQ2 : Hid ((w11.alloc (.cells #[.slice e0' e1' e2', .int .i64 r0.2.1, .slice f0' f1' f2', .slice y0' y1' y2'] 51)).heap[w11.heap.size]? = some (.cells #[.slice e0' e1' e2', .int .i64 r0.2.1, .slice f0' f1' f2', .slice y0' y1' y2'] 51 (0, 0))) := Lib.hid (heap_alloc_new _ _)
          have HLB := Lib.hid (hlb.below hal)
          have hb12 := below3 hb11 hal
          have HQ1 := Lib.hid ((hb12.block Q1 (lt_of_heap HQ1.out)).trans HQ1.out)
          have HLA := Lib.hid (HLA.out.below hb12)
          have HC12 := Lib.hid (below3 HC.out (below3 HB10.out hb12))
          clear hlb hlo hb11 hal O2 hb12 HB10 c0 c1 c2 c3
          generalize w11.alloc (.cells #[.slice e0' e1' e2', .int .i64 r0.2.1, .slice f0' f1' f2', .slice y0' y1' y2'] 51) = w12 at *
          generalize w11.heap.size = Q2 at *
          clear h0 h1
          refine wp_region_relG (N := 175) (pcV e0 (.agg #[.slice d0' d1' d2', .int .i64 r0.2.1, .slice v0' v1' v2', .slice x0' x1' x2']) (.agg #[.slice e0' e1' e2', .int .i64 r0.2.1, .slice f0' f1' f2', .slice y0' y1' y2'])) (fun _ W => Below w12.heap.size w12 W) (by kernel_rfl) (by kernel_rfl) (by rfl) (bel_drew0 _) (fun i o g b ho hg LL v W hV => by
           match i, ho with
           | 0, ho => obtain rfl := so ho; cases hg
           | 1, ho => obtain rfl := so ho; cases hg
           | 2, ho => obtain rfl := so ho; cases hg
           | 3, ho => obtain rfl := so ho; cases hg
           | 4, ho => obtain rfl := so ho; cases hg; exact hV
           | 5, ho => obtain rfl := so ho; cases hg; exact hV
           | 6, ho => obtain rfl := so ho; cases hg; exact hV
           | 7, ho => obtain rfl := so ho; cases hg; exact hV
           | 8, ho => obtain rfl := so ho; cases hg; exact hV
           | 9, ho => obtain rfl := so ho; cases hg
           | k + 10, ho => simp at ho
           ) ?_ ?_
          ·
           intro i o L a' W ho hl hL hS hdf dep all fr dwn
           match i, ho with
           | 0, ho =>
            obtain rfl := so ho
            have f8 := fr 22 (by kernel_rfl)
            unfold Oper.wp
            simp [go_sem, f8]
            exact ⟨_, rfl, rfl, hS, fun _ _ _ _ _ _ _ => id⟩
           | 1, ho =>
            obtain rfl := so ho
            have f8 := fr 24 (by kernel_rfl)
            unfold Oper.wp
            simp [go_sem, f8]
            exact ⟨_, rfl, rfl, hS, fun _ _ _ _ _ _ _ => id⟩
           | 2, ho =>
            obtain rfl := so ho
            have d0 := dw (dep 0 _ rfl (by kernel_rfl)) rfl
            have d1 := dw (dep 1 _ rfl (by kernel_rfl)) rfl
            unfold Oper.wp
            simp [go_sem, d0, d1]
            exact ⟨_, rfl, rfl, hS, fun _ _ _ _ _ _ _ => id⟩
           | 3, ho =>
            obtain rfl := so ho
            have d2 := dw (dep 2 _ rfl (by kernel_rfl)) rfl
            unfold Oper.wp
            simp [go_sem, d2]
            exact ⟨_, rfl, rfl, hS, fun _ _ _ _ _ _ _ => id⟩
           | 4, ho =>
            obtain rfl := so ho
            have f8 := fr 21 (by kernel_rfl)
            obtain ⟨⟨c0, c1, c2, c3⟩, _⟩ := box4_cells ((hS.block Q1 (lt_of_heap HQ1.out)).trans HQ1.out)
            unfold Oper.wp
            simp [go_sem, f8, c0, c1, c2, c3]
            exact ⟨_, rfl, rfl, hS, fun _ _ _ _ _ _ _ => id⟩
           | 5, ho =>
            obtain rfl := so ho
            have d4 := dw (dep 4 _ rfl (by kernel_rfl)) rfl
            refine wp_call1 (args := #[.agg #[.slice d0' d1' d2', .int .i64 r0.2.1, .slice v0' v1' v2', .slice x0' x1' x2']]) rfl (by simp [Act.eval, d4]) (ciTold _ _) (told_any d0' d1' d2' r0.2.1 v0' v1' v2' x0' x1' x2' W) ?_
            rintro e w' ⟨rfl, hb⟩
            exact ⟨_, rfl, rfl, below3 hS hb, fun _ _ _ _ _ _ _ => id⟩
           | 6, ho =>
            obtain rfl := so ho
            have f8 := fr 23 (by kernel_rfl)
            obtain ⟨⟨c0, c1, c2, c3⟩, _⟩ := box4_cells ((hS.block Q2 (lt_of_heap HQ2.out)).trans HQ2.out)
            unfold Oper.wp
            simp [go_sem, f8, c0, c1, c2, c3]
            exact ⟨_, rfl, rfl, hS, fun _ _ _ _ _ _ _ => id⟩
           | 7, ho =>
            obtain rfl := so ho
            have d5 := dw (dep 5 _ rfl (by kernel_rfl)) rfl
            have d6 := dw (dep 6 _ rfl (by kernel_rfl)) rfl
            refine wp_call1 (args := #[.agg #[.slice d0' d1' d2', .int .i64 r0.2.1, .slice v0' v1' v2', .slice x0' x1' x2'], .agg #[.slice e0' e1' e2', .int .i64 r0.2.1, .slice f0' f1' f2', .slice y0' y1' y2']]) rfl (by simp [Act.eval, d5, d6]) (ciSame _ _) (rsame_log _ _ r0 r0 W (HLA.out.below hS) (HLB.out.below hS)) ?_
            rintro e w' ⟨rfl, hb⟩
            rw [sameL_refl]
            exact ⟨_, rfl, rfl, below3 hS hb, fun _ _ _ _ _ _ _ => id⟩
           | 8, ho =>
            obtain rfl := so ho
            have d7 := dw (dep 7 _ rfl (by kernel_rfl)) rfl
            unfold Oper.wp
            simp [go_sem, d7]
            exact ⟨_, rfl, rfl, hS, fun _ _ _ _ _ _ _ => id⟩
           | 9, ho =>
            obtain rfl := so ho
            have d3 := dw (dep 3 _ rfl (by kernel_rfl)) rfl
            have d8 := dw (dep 8 _ rfl (by kernel_rfl)) rfl
            unfold Oper.wp
            simp [go_sem, d3, d8]
            exact ⟨_, rfl, rfl, hS, fun _ _ _ _ _ _ _ => id⟩
          ·
           intro us W hS hV
           have h9 : us 9 = .bool false := hV 9 _ rfl
           have HC13 := Lib.hid (below3 HC12.out hS)
           clear hV hS
           simp only [putAll, Act.put, List.setIfInBounds_toArray, List.set_cons_zero, List.set_cons_succ, Nat.zero_add, Nat.reduceAdd]
           rw [h9]
           clear h9
           generalize us 0 = z0 at *
           generalize us 1 = z1 at *
           generalize us 2 = z2 at *
           generalize us 3 = z3 at *
           generalize us 4 = z4 at *
           generalize us 5 = z5 at *
           generalize us 6 = z6 at *
           generalize us 7 = z7 at *
           generalize us 8 = z8 at *
           go_wp2_with fail
           go_roundw
           case rel => exact ⟨j + 1, by omega, by go_num, HC13⟩
           case measure => simp [intOf]; omega
         ·
          have hnj : ¬ (j : Int) < 3 := by omega
          have HC8 := Lib.hid (below3 HB8.out HC.out)
          go_wp2_with fail
          go_roundw
          case rel => exact ⟨i + 1, by omega, by go_num, HC8⟩
          case measure => simp [intOf]; omega
       ·
        have hni : ¬ (i : Int) < 2 := by omega
        have HXj := Lib.hid ((HB.out.block R (lt_of_heap HX7.out)).trans HX7.out)
        have HLJ := Lib.hid (HLX7.out.below HB.out)
        have O1 := Lib.hid (sync_any (logV (d0, d1, d2) l2.2.1 (va, vb, vc) (x0, x1, x2)) l2 m wr HLJ.out.logP (HE.out.below HBW.out))
        have O2 := Lib.hid (fun W (h : Below wr.heap.size wr W) => rsync_any (logV (d0, d1, d2) l2.2.1 (va, vb, vc) (x0, x1, x2)) l2 m W (HLJ.out.below h).logP.logR)
        obtain ⟨⟨e0, r0⟩, hr0⟩ : ∃ r, synS m l2 = r := ⟨_, rfl⟩
        rw [hr0] at O1 O2
        clear hr0
        obtain ⟨⟨c0, c1, c2, c3⟩, _⟩ := box4_cells HXj.out
        go_upto_region 27 with (go_at_call 37; refine O1.out.mono ?_; rintro en w9 ⟨_, rfl, ⟨⟨d0', d1', d2'⟩, ⟨v0', v1', v2'⟩, ⟨x0', x1', x2'⟩, rfl, hlo⟩, hb9⟩; rw [show logV (d0', d1', d2') (e0, r0).2.2.1 (v0', v1', v2') (x0', x1', x2') = .agg #[.slice d0' d1' d2', .int .i64 r0.2.1, .slice v0' v1' v2', .slice x0' x1' x2'] from rfl])
        have hla : LogR w9 (.agg #[.slice d0' d1' d2', .int .i64 r0.2.1, .slice v0' v1' v2', .slice x0' x1' x2']) r0 := LogO.logR (B := wr.heap.size) ⟨(d0', d1', d2'), (v0', v1', v2'), (x0', x1', x2'), rfl, hlo⟩
        have hal : Below w9.heap.size w9 (w9.alloc (.cells #[.slice d0' d1' d2', .int .i64 r0.2.1, .slice v0' v1' v2', .slice x0' x1' x2'] 55)) := (Below.refl _ _).alloc (Nat.le_refl _) _
        have HQ1 : Hid ((w9.alloc (.cells #[.slice d0' d1' d2', .int .i64 r0.2.1, .slice v0' v1' v2', .slice x0' x1' x2'] 55)).heap[w9.heap.size]? = some (.cells #[.slice d0' d1' d2', .int .i64 r0.2.1, .slice v0' v1' v2', .slice x0' x1' x2'] 55 (0, 0))) := Lib.hid (heap_alloc_new _ _)
        have HLA := Lib.hid (hla.below hal)
        have HB10 := Lib.hid (below3 hb9 hal)
        clear hla hlo hb9 hal O1 c0 c1 c2 c3
        generalize w9.alloc (.cells #[.slice d0' d1' d2', .int .i64 r0.2.1, .slice v0' v1' v2', .slice x0' x1' x2'] 55) = w10 at *
        generalize w9.heap.size = Q1 at *
        obtain ⟨⟨c0, c1, c2, c3⟩, _⟩ := box4_cells ((HB10.out.block R (lt_of_heap HXj.out)).trans HXj.out)
        go_upto_region 28 with (go_at_call 38; refine (O2.out _ HB10.out).mono ?_; rintro en w11 ⟨_, rfl, ⟨⟨e0', e1', e2'⟩, ⟨f0', f1', f2'⟩, ⟨y0', y1', y2'⟩, rfl, hlo⟩, hb11⟩; rw [show logV (e0', e1', e2') (e0, r0).2.2.1 (f0', f1', f2') (y0', y1', y2') = .agg #[.slice e0' e1' e2', .int .i64 r0.2.1, .slice f0' f1' f2', .slice y0' y1' y2'] from rfl])
        have hlb : LogR w11 (.agg #[.slice e0' e1' e2', .int .i64 r0.2.1, .slice f0' f1' f2', .slice y0' y1' y2']) r0 := ⟨(e0', e1', e2'), (f0', f1', f2'), (y0', y1', y2'), rfl, hlo⟩
        have hal : Below w11.heap.size w11 (w11.alloc (.cells #[.slice e0' e1' e2', .int .i64 r0.2.1, .slice f0' f1' f2', .slice y0' y1' y2'] 51)) := (Below.refl _ _).alloc (Nat.le_refl _) _
        have HQ2 : Hid ((w11.alloc (.cells #[.slice e0' e1' e2', .int .i64 r0.2.1, .slice f0' f1' f2', .slice y0' y1' y2'] 51)).heap[w11.heap.size]? = some (.cells #[.slice e0' e1' e2', .int .i64 r0.2.1, .slice f0' f1' f2', .slice y0' y1' y2'] 51 (0, 0))) := Lib.hid (heap_alloc_new _ _)
        have HLB := Lib.hid (hlb.below hal)
        have hb12 := below3 hb11 hal
        have HQ1 := Lib.hid ((hb12.block Q1 (lt_of_heap HQ1.out)).trans HQ1.out)
        have HLA := Lib.hid (HLA.out.below hb12)
        have HC12 := Lib.hid (below3 HB.out (below3 HB10.out hb12))
        clear hlb hlo hb11 hal O2 hb12 HB10 c0 c1 c2 c3
        generalize w11.alloc (.cells #[.slice e0' e1' e2', .int .i64 r0.2.1, .slice f0' f1' f2', .slice y0' y1' y2'] 51) = w12 at *
        generalize w11.heap.size = Q2 at *
        have HBZ := Lib.hid (HBW7.out.trans (HC12.out.mono HBW7.out.size))
        refine wp_region_relG (N := 175) (peV e0 (.agg #[.slice d0' d1' d2', .int .i64 r0.2.1, .slice v0' v1' v2', .slice x0' x1' x2']) (.agg #[.slice e0' e1' e2', .int .i64 r0.2.1, .slice f0' f1' f2', .slice y0' y1' y2'])) (fun _ W => Below w12.heap.size w12 W) (by kernel_rfl) (by kernel_rfl) (by rfl) (bel_drew0 _) (fun i o g b ho hg LL v W hV => by
         match i, ho with
         | 0, ho => obtain rfl := so ho; cases hg
         | 1, ho => obtain rfl := so ho; cases hg
         | 2, ho => obtain rfl := so ho; cases hg
         | 3, ho => obtain rfl := so ho; cases hg
         | 4, ho => obtain rfl := so ho; cases hg; exact hV
         | 5, ho => obtain rfl := so ho; cases hg; exact hV
         | 6, ho => obtain rfl := so ho; cases hg; exact hV
         | 7, ho => obtain rfl := so ho; cases hg; exact hV
         | 8, ho => obtain rfl := so ho; cases hg
         | 9, ho => obtain rfl := so ho; cases hg
         | 10, ho => obtain rfl := so ho; cases hg; exact hV
         | 11, ho => obtain rfl := so ho; cases hg
         | 12, ho => obtain rfl := so ho; cases hg
         | k + 13, ho => simp at ho
         ) ?_ ?_
        ·
         intro i o L a' W ho hl hL hS hdf dep all fr dwn
         match i, ho with
         | 0, ho =>
          obtain rfl := so ho
          have f8 := fr 26 (by kernel_rfl)
          unfold Oper.wp
          simp [go_sem, f8]
          exact ⟨_, rfl, rfl, hS, fun _ _ _ _ _ _ _ => id⟩
         | 1, ho =>
          obtain rfl := so ho
          have f8 := fr 28 (by kernel_rfl)
          unfold Oper.wp
          simp [go_sem, f8]
          exact ⟨_, rfl, rfl, hS, fun _ _ _ _ _ _ _ => id⟩
         | 2, ho =>
          obtain rfl := so ho
          have d0 := dw (dep 0 _ rfl (by kernel_rfl)) rfl
          have d1 := dw (dep 1 _ rfl (by kernel_rfl)) rfl
          unfold Oper.wp
          simp [go_sem, d0, d1]
          exact ⟨_, rfl, rfl, hS, fun _ _ _ _ _ _ _ => id⟩
         | 3, ho =>
          obtain rfl := so ho
          have d2 := dw (dep 2 _ rfl (by kernel_rfl)) rfl
          unfold Oper.wp
          simp [go_sem, d2]
          exact ⟨_, rfl, rfl, hS, fun _ _ _ _ _ _ _ => id⟩
         | 4, ho =>
          obtain rfl := so ho
          have f8 := fr 25 (by kernel_rfl)
          obtain ⟨⟨c0, c1, c2, c3⟩, _⟩ := box4_cells ((hS.block Q1 (lt_of_heap HQ1.out)).trans HQ1.out)
          unfold Oper.wp
          simp [go_sem, f8, c0, c1, c2, c3]
          exact ⟨_, rfl, rfl, hS, fun _ _ _ _ _ _ _ => id⟩
         | 5, ho =>
          obtain rfl := so ho
          have d4 := dw (dep 4 _ rfl (by kernel_rfl)) rfl
          refine wp_call1 (args := #[.agg #[.slice d0' d1' d2', .int .i64 r0.2.1, .slice v0' v1' v2', .slice x0' x1' x2']]) rfl (by simp [Act.eval, d4]) (ciTold _ _) (told_any d0' d1' d2' r0.2.1 v0' v1' v2' x0' x1' x2' W) ?_
          rintro e w' ⟨rfl, hb⟩
          exact ⟨_, rfl, rfl, below3 hS hb, fun _ _ _ _ _ _ _ => id⟩
         | 6, ho =>
          obtain rfl := so ho
          have f8 := fr 27 (by kernel_rfl)
          obtain ⟨⟨c0, c1, c2, c3⟩, _⟩ := box4_cells ((hS.block Q2 (lt_of_heap HQ2.out)).trans HQ2.out)
          unfold Oper.wp
          simp [go_sem, f8, c0, c1, c2, c3]
          exact ⟨_, rfl, rfl, hS, fun _ _ _ _ _ _ _ => id⟩
         | 7, ho =>
          obtain rfl := so ho
          have d5 := dw (dep 5 _ rfl (by kernel_rfl)) rfl
          have d6 := dw (dep 6 _ rfl (by kernel_rfl)) rfl
          refine wp_call1 (args := #[.agg #[.slice d0' d1' d2', .int .i64 r0.2.1, .slice v0' v1' v2', .slice x0' x1' x2'], .agg #[.slice e0' e1' e2', .int .i64 r0.2.1, .slice f0' f1' f2', .slice y0' y1' y2']]) rfl (by simp [Act.eval, d5, d6]) (ciSame _ _) (rsame_log _ _ r0 r0 W (HLA.out.below hS) (HLB.out.below hS)) ?_
          rintro e w' ⟨rfl, hb⟩
          rw [sameL_refl]
          exact ⟨_, rfl, rfl, below3 hS hb, fun _ _ _ _ _ _ _ => id⟩
         | 8, ho =>
          obtain rfl := so ho
          have d3 := dw (dep 3 _ rfl (by kernel_rfl)) rfl
          have d7 := dw (dep 7 _ rfl (by kernel_rfl)) rfl
          unfold Oper.wp
          simp [go_sem, d3, d7]
          exact ⟨_, rfl, rfl, hS, fun _ _ _ _ _ _ _ => id⟩
         | 9, ho =>
          obtain rfl := so ho
          have d8 := dw (dep 8 _ rfl (by kernel_rfl)) rfl
          unfold Oper.wp
          simp [go_sem, d8]
          exact ⟨_, rfl, rfl, hS, fun _ _ _ _ _ _ _ => id⟩
         | 10, ho =>
          obtain rfl := so ho
          refine wp_call1 (args := #[]) rfl (by simp) (ciAwk _ _) (AW.out W (HBZ.out.trans (hS.mono HBZ.out.size))) ?_
          rintro e w' ⟨rfl, hb⟩
          exact ⟨_, rfl, rfl, below3 hS hb, fun _ _ _ _ _ _ _ => id⟩
         | 11, ho =>
          obtain rfl := so ho
          have d9 := dw (dep 9 _ rfl (by kernel_rfl)) rfl
          have d10 := dw (dep 10 _ rfl (by kernel_rfl)) rfl
          unfold Oper.wp
          simp [go_sem, d9, d10]
          exact ⟨_, rfl, rfl, hS, fun _ _ _ _ _ _ _ => id⟩
         | 12, ho =>
          obtain rfl := so ho
          have d11 := dw (dep 11 _ rfl (by kernel_rfl)) rfl
          unfold Oper.wp
          simp [go_sem, d11]
          exact ⟨_, rfl, rfl, hS, fun _ _ _ _ _ _ _ => id⟩
        ·
         intro us W hS hV
         have h12 : us 12 = .bool true := hV 12 _ rfl
         have HC13 := Lib.hid (HBZ.out.trans (hS.mono HBZ.out.size))
         clear hV hS
         simp only [putAll, Act.put, List.setIfInBounds_toArray, List.set_cons_zero, List.set_cons_succ, Nat.zero_add, Nat.reduceAdd]
         rw [h12]
         go_wp2_with fail
         go_ret
         exact ⟨rfl, HC13.out⟩
end Go.Proofs.YtihbpggbpapcfaaGreatDoor
