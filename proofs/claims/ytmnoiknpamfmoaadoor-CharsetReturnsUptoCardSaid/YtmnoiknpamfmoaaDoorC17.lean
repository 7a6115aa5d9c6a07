import Derived.Test.YtmnoiknpamfmoaaDoorC16
namespace Go.Proofs.YtmnoiknpamfmoaaDoor
open Go.RowKit CS

theorem conv_bytes (w : World) (l : L8) : (convert 9 22 (.string (arr l))).run Tryd.prog w = .ok (.slice (some ⟨w.heap.size, 0, none⟩) l.length (grownCap w l.length 0 5))
    (w.drew.alloc (.cells (bytesRow (arr l) (grownCap w l.length 0 5)) 5 ((bytesRow (arr l) (grownCap w l.length 0 5)).size, (bytesRow (arr l) (grownCap w l.length 0 5)).size + 1))) := by
  have h := run_bytes_of_string (P := Tryd.prog) w 9 22 5 (arr l) Tryd.underlying9 Tryd.underlying22 Tryd.underlying5
  rw [arr_size] at h
  exact h

theorem bslice_new (w : World) (l : L8) (cap : Nat) (hc : l.length ≤ cap) (fz : Nat × Nat) : BSlice (w.alloc (.cells (bytesRow (arr l) cap) 5 fz)).drew (.slice (some ⟨w.heap.size, 0, none⟩) l.length cap) l := by
  refine Or.inr ⟨w.heap.size, 0, cap, rfl, hc, fun j hj => ?_⟩
  show (w.alloc _).cell? _ = _
  rw [Nat.zero_add, World.cell?_alloc_mark]
  have hj' : j < (arr l).data.size := by simpa [arr] using hj
  rw [bytesRow_at _ _ j hj']
  simp [arr, List.getD, hj]

theorem rEncode_kind (k : Int) (hk : k < 1 ∨ 3 < k) (l : L8) (w : World) : Calls Tryd.prog 15 #[.string (arr l), .int .i64 k] w (EncP w k l) := by
  have F := Lib.hid (EncP.err (w := w) (w' := w) (encE_kind (k := k) (l := l) (by unfold okKind; simp; omega)) (by decide) (Below.refl _ _))
  rcases (show k < 1 ∨ (1 ≤ k ∧ 3 < k) from by omega) with h | ⟨h1, h2⟩
  all_goals
    clear hk
    go_enter Tryd.func15, Tryd.ntmps15
    go_wp2
    go_ret2
    exact F.out

theorem rEncode_form (k : Int) (hk1 : 1 ≤ k) (hk3 : k ≤ 3) (l : L8) (hl : l.length ≤ 1048576) (hv : Lib.validD l = false) (w : World) : Calls Tryd.prog 15 #[.string (arr l), .int .i64 k] w (EncP w k l) := by
  have V := Lib.hid (proper_any l (by omega) w)
  rw [hv] at V
  have F := Lib.hid (fun w' => EncP.err (w := w) (w' := w') (encE_form (okKind_iff.2 ⟨hk1, hk3⟩) hv) (by decide))
  clear hv
  go_enter Tryd.func15, Tryd.ntmps15
  go_wp2_with (go_at_call 13; refine V.out.mono ?_)
  rintro e w' ⟨rfl, hb⟩
  have F := Lib.hid (F.out w' hb)
  clear hb
  go_wp2
  go_ret2
  exact F.out

theorem rEncode_utf8 (l : L8) (hl : l.length ≤ 1048576) (hv : Lib.validD l = true) (w : World) : Calls Tryd.prog 15 #[.string (arr l), .int .i64 3] w (EncP w 3 l) := by
  have V := Lib.hid (proper_any l (by omega) w)
  rw [hv] at V
  have hf := fits_utf8 l
  have ho : encOut 3 l = l := by simp [encOut]
  have F2 := Lib.hid (fun w' (hs : 65536 < l.length) => EncP.err (w := w) (w' := w') (encE_size (k := 3) (by decide) hv hf (by rw [ho]; exact hs)) (by decide))
  have F3 := Lib.hid (fun w' v (hs : ¬ 65536 < l.length) (hB : BSlice w' v l) => EncP.fine (w := w) (w' := w') (v := v) (encE_ok (k := 3) (by decide) hv hf (by rw [ho]; exact hs)) (by rw [ho]; exact hB))
  have K := Lib.hid (fun w => conv_bytes w l)
  clear hv hf ho
  go_enter Tryd.func15, Tryd.ntmps15
  go_wp2_with (go_at_call 13; refine V.out.mono ?_)
  rintro e w1 ⟨rfl, hb⟩
  have k1 := K.out w1
  have HB := Lib.hid (fun o => ((hb.alloc hb.size o)).drew)
  have hcap := grownCap_ge w1 l.length 0 5
  have HN := Lib.hid (bslice_new w1 l (grownCap w1 l.length 0 5) hcap ((bytesRow (arr l) (grownCap w1 l.length 0 5)).size, (bytesRow (arr l) (grownCap w1 l.length 0 5)).size + 1))
  generalize grownCap w1 l.length 0 5 = cap at *
  clear hb
  by_cases hbig : 65536 < l.length
  · have F := Lib.hid (F2.out _ hbig (HB.out (.cells (bytesRow (arr l) cap) 5 ((bytesRow (arr l) cap).size, (bytesRow (arr l) cap).size + 1))))
    go_wp2
    go_ret2
    exact F.out
  · have F := Lib.hid (F3.out _ _ hbig HN.out (HB.out _))
    go_wp2
    go_ret2
    exact F.out

/-- The reference's loop over the runes. -/
structure RencW (wc : World) (k : Int) (l : L8) (j : Nat) (ov : Value) (wr : World) : Prop where
  small : ∀ r ∈ (runesL l).take j, r ≤ most k
  row : wr.ownsRow wc.heap.size 5 1 ov j (Lib.byteCells (((runesL l).take j).map CS.byteOf))
  bel : Below wc.heap.size wc wr

theorem take_snoc' (rs : List Int) (j : Nat) (h : j < rs.length) : rs.take (j + 1) = rs.take j ++ [rs.getD j 0] := by
  rw [List.take_succ_eq_append_getElem h]
  simp [List.getD, h]

theorem byteOf_cell {r : Int} (h0 : 0 ≤ r) (h1 : r ≤ 255) : Lib.byteCells [CS.byteOf r] = [.int .u8 r] := by
  unfold Lib.byteCells CS.byteOf
  simp only [List.map_cons, List.map_nil, UInt8.toNat_ofNat']
  have : ((r.toNat % 2 ^ 8 : Nat) : Int) = r := by omega
  rw [this]

theorem RencW.next {wc : World} {k : Int} {l : L8} {j : Nat} {ov ov' : Value} {wr w2 : World} {o : Obj} (h : RencW wc k l j ov wr) (hj : j < (runesL l).length) (h0 : 0 ≤ (runesL l).getD j 0) (hm : (runesL l).getD j 0 ≤ most k) (h255 : (runesL l).getD j 0 ≤ 255)
    (hown : w2.ownsRow wc.heap.size 5 1 ov' (j + 1) (Lib.byteCells (((runesL l).take j).map CS.byteOf) ++ [.int .u8 ((runesL l).getD j 0)])) (hg : (wr.alloc o).grownBy w2 ov.ownBlock) : RencW wc k l (j + 1) ov' w2 := by
  refine ⟨?_, ?_, ?_⟩
  · rw [take_snoc' _ _ hj]
    intro r hr
    rcases List.mem_append.1 hr with hr | hr
    · exact h.small r hr
    · simp only [List.mem_singleton] at hr; rw [hr]; exact hm
  · rw [take_snoc' _ _ hj, List.map_append, Lib.byteCells_append]
    rw [show List.map CS.byteOf [(runesL l).getD j 0] = [CS.byteOf ((runesL l).getD j 0)] from rfl, byteOf_cell h0 h255]
    exact hown
  · exact (h.bel.alloc h.bel.size o).grown hg (by have := h.bel.size; simp; omega) (fun q hq => ((h.row.alloc o).lt q hq).1)

theorem fits_bad {k : Int} {l : L8} {j : Nat} (hj : j < (runesL l).length) (hm : most k < (runesL l).getD j 0) : fits k l = false := by
  unfold fits
  rw [List.all_eq_false]
  refine ⟨(runesL l)[j], List.getElem_mem hj, ?_⟩
  have : (runesL l).getD j 0 = (runesL l)[j] := by simp [List.getD, hj]
  rw [this] at hm
  simp; omega

set_option maxHeartbeats 2000000 in
set_option maxRecDepth 100000 in
theorem rEncode_plain (k : Int) (hk : k = 1 ∨ k = 2) (l : L8) (hl : l.length ≤ 1048576) (hv : Lib.validD l = true) (w : World) : Calls Tryd.prog 15 #[.string (arr l), .int .i64 k] w (EncP w k l) := by
  have V := Lib.hid (proper_any l (by omega) w)
  rw [hv] at V
  have hok : okKind k = true := okKind_iff.2 (by omega)
  have ho : encOut k l = (runesL l).map CS.byteOf := by unfold encOut; rw [if_neg (by omega)]
  have hrl := runesL_length l
  have F1 := Lib.hid (fun w' j hj hm => EncP.err (w := w) (w' := w') (encE_char hok hv (fits_bad (j := j) hj hm)) (by decide))
  have F2 := Lib.hid (fun w' hf (hs : 65536 < (runesL l).length) => EncP.err (w := w) (w' := w') (encE_size hok hv hf (by rw [ho]; simpa using hs)) (by decide))
  have F3 := Lib.hid (fun w' v hf (hs : ¬ 65536 < (runesL l).length) (hB : BSlice w' v ((runesL l).map CS.byteOf)) => EncP.fine (w := w) (w' := w') (v := v) (encE_ok hok hv hf (by rw [ho]; simpa using hs)) (by rw [ho]; exact hB))
  have K := Lib.hid (fun w => conv_bytes w l)
  have KR := Lib.hid (fun w => conv_runes w l (by omega))
  have KB := Lib.hid (runes_nonneg l)
  have q3 : (k != 3) = true := by rcases hk with rfl | rfl <;> rfl
  obtain ⟨j0, hj, hy0, hy1, hy2⟩ := info_parts info5
  have HJ0 := Lib.hid hj; have HY0 := Lib.hid hy0; have HY1 := Lib.hid hy1; have HY2 := Lib.hid hy2
  have hk1 : 1 ≤ k := by omega
  have hk3 : k ≤ 3 := by omega
  have HK := Lib.hid hk
  clear hv hok ho hj hy0 hy1 hy2 hk
  go_enter Tryd.func15, Tryd.ntmps15
  go_wp2_with (go_at_call 13; refine V.out.mono ?_)
  rintro e w1 ⟨rfl, hb⟩
  have k1 := K.out w1
  have HB := Lib.hid (fun o o' => (((hb.alloc hb.size o).alloc (by have := hb.size; simp; omega) o').drew).drew)
  generalize grownCap w1 l.length 0 5 = cap at *
  have k2 := KR.out (w1.alloc (.cells (bytesRow (arr l) cap) 5 ((bytesRow (arr l) cap).size, (bytesRow (arr l) cap).size + 1))).drew
  generalize grownCap (w1.alloc (.cells (bytesRow (arr l) cap) 5 ((bytesRow (arr l) cap).size, (bytesRow (arr l) cap).size + 1))).drew (runesL l).length 0 21 = cap2 at *
  go_wp2
  obtain ⟨wc, hwc⟩ : ∃ wc, wc = ((w1.alloc (.cells (bytesRow (arr l) cap) 5 ((bytesRow (arr l) cap).size, (bytesRow (arr l) cap).size + 1))).alloc (.cells (runeRow l cap2) 21)).drew.drew := ⟨_, rfl⟩
  have HC : Hid (∀ j, j < (runesL l).length → wc.cell? ⟨w1.heap.size + 1, j, none⟩ = some (.int .i32 ((runesL l).getD j 0))) := Lib.hid (fun j hj => by
    rw [hwc]
    show ((w1.alloc _).alloc _).cell? _ = _
    rw [World.cell?_alloc_at _ _ _ _ (by simp)]
    exact runeRow_at l cap2 j hj)
  have hsz : w1.heap.size + 1 < wc.heap.size := by rw [hwc]; simp [World.drew]
  have HBW : Hid (Below w.heap.size w wc) := Lib.hid (by rw [hwc]; exact HB.out _ _)
  rw [← hwc]
  clear hwc k1 k2 hb
  go_loopw [6, 8] (fun ov i wr => ∃ j : Nat, j ≤ (runesL l).length ∧ i = .int .i64 j ∧ Hid (RencW wc k l j ov wr)) (fun _ i _ => (runesL l).length - (intOf i).toNat)
  case atStart => exact ⟨0, Nat.zero_le _, rfl, Lib.hid ⟨by simp, by simpa [Lib.byteCells] using World.ownsRow_nil _ _ _ _, Below.refl _ _⟩⟩
  case round =>
    obtain ⟨j, hj, rfl, HW⟩ := hrel
    by_cases hlt : j < (runesL l).length
    · have c1 := HC.out j hlt
      have c2 : wr.cell? ⟨w1.heap.size + 1, j, none⟩ = some (.int .i32 ((runesL l).getD j 0)) := by rw [HW.out.bel.cell hsz]; exact c1
      have hr := KB.out ((runesL l).getD j 0) (by simp only [List.getD, List.getElem?_eq_getElem hlt, Option.getD_some]; exact List.getElem_mem hlt)
      obtain ⟨r0, r1⟩ := hr
      have NX := Lib.hid (fun hm h255 ov' w2 o => HW.out.next (ov' := ov') (w2 := w2) (o := o) hlt r0 hm h255)
      have ER := Lib.hid (fun hm => F1.out wr j hlt hm (HBW.out.trans (HW.out.bel.mono HBW.out.size)))
      have HR := Lib.hid HW.out.row
      have hbs := HW.out.bel.size
      clear c1
      generalize (runesL l).getD j 0 = r at *
      by_cases hm : most k < r
      · have F := Lib.hid (ER.out hm)
        rcases HK.out with h | h
        · have hmk : most k = 127 := by rw [h]; rfl
          have q1 : (k == 1) = true := by simpa using h
          rcases (show 255 < r ∨ (r ≤ 255 ∧ 127 < r) from by omega) with h | ⟨h, h'⟩
          all_goals
            clear hmk hm
            go_wp2
            go_ret2
            exact F.out
        · have hmk : most k = 255 := by rw [h]; rfl
          have hm' : 255 < r := by omega
          clear hmk hm
          go_wp2
          go_ret2
          exact F.out
      · have hm' : r ≤ most k := by omega
        have h255 : r ≤ 255 := by rcases HK.out with h | h <;> rw [h] at hm' <;> have : most 1 = 127 := rfl <;> have : most 2 = 255 := rfl <;> omega
        have hq : (k == 1) = false ∨ ((k == 1) = true ∧ r ≤ 127) := by
          rcases HK.out with h | h
          · right; rw [h] at hm'; exact ⟨by simpa using h, hm'⟩
          · left; simp [h]
        have NX := Lib.hid (NX.out hm' h255)
        clear hm hm'
        rcases hq with q1 | ⟨q1, h127⟩
        · go_wp2_with (at_builtin; refine wpList_append_own _ rfl _ _ 22 rfl wc.heap.size 5 j0 (.int .u8 0) 1 1 Tryd.underlying22 HJ0.out HY0.out HY1.out HY2.out rfl (by decide) _ _ _ rfl (HR.out.alloc _) ⟨wr.heap.size, 0, none⟩ 1 1 [.int .u8 r] rfl rfl ?a1 ?a2 ?a3 ?a4 ?a5 ?_)
          case a1 =>
            intro j u hj
            rw [Go.WideShapes.add_plain, World.cell?_alloc_at _ _ _ _ rfl]
            match j, hj with
            | 0, hj => simpa using hj
            | j + 1, hj => simp at hj
          case a2 => simp [Value.oneCell']
          case a3 => unfold maxLen; omega
          case a4 => omega
          case a5 => simp; omega
          intro ov' w2 hown hg _
          have HE := Lib.hid (NX.out ov' w2 _ (by rw [List.map_take]; exact hown) hg)
          clear hown hg
          go_wp2
          go_round
          case rel => exact ⟨j + 1, by omega, by go_num, HE⟩
          case measure => simp [intOf]; omega
        · go_wp2_with (at_builtin; refine wpList_append_own _ rfl _ _ 22 rfl wc.heap.size 5 j0 (.int .u8 0) 1 1 Tryd.underlying22 HJ0.out HY0.out HY1.out HY2.out rfl (by decide) _ _ _ rfl (HR.out.alloc _) ⟨wr.heap.size, 0, none⟩ 1 1 [.int .u8 r] rfl rfl ?b1 ?b2 ?b3 ?b4 ?b5 ?_)
          case b1 =>
            intro j u hj
            rw [Go.WideShapes.add_plain, World.cell?_alloc_at _ _ _ _ rfl]
            match j, hj with
            | 0, hj => simpa using hj
            | j + 1, hj => simp at hj
          case b2 => simp [Value.oneCell']
          case b3 => unfold maxLen; omega
          case b4 => omega
          case b5 => simp; omega
          intro ov' w2 hown hg _
          have HE := Lib.hid (NX.out ov' w2 _ (by rw [List.map_take]; exact hown) hg)
          clear hown hg
          go_wp2
          go_round
          case rel => exact ⟨j + 1, by omega, by go_num, HE⟩
          case measure => simp [intOf]; omega
    · have hn' : j = (runesL l).length := by omega
      have HW' : Hid (RencW wc k l (runesL l).length u6 wr) := by rw [← hn']; exact HW
      clear HW hn'
      have hsm := HW'.out.small
      have hrow := HW'.out.row
      rw [List.take_of_length_le (Nat.le_refl _)] at hsm hrow
      have HF := Lib.hid (fits_yes (k := k) (l := l) rfl hsm)
      have HR := Lib.hid (bslice_ownF (bs := (runesL l).map CS.byteOf) (by rw [List.length_map]; exact World.ownsRowF_of hrow))
      have HBE := Lib.hid (HBW.out.trans (HW'.out.bel.mono HBW.out.size))
      obtain ⟨g, c, hov⟩ : ∃ g c, u6 = .slice g (runesL l).length c := by
        rcases hrow.2 with ⟨h, h0⟩ | ⟨g, cap, cur, h, _⟩
        · exact ⟨none, 0, by rw [h, h0]⟩
        · exact ⟨_, cap, h⟩
      subst hov
      clear hsm hrow
      by_cases hbig : 65536 < (runesL l).length
      · have F := Lib.hid (F2.out wr HF.out hbig HBE.out)
        go_wp2
        go_ret2
        exact F.out
      · have F := Lib.hid (F3.out wr _ HF.out hbig HR.out HBE.out)
        go_wp2
        go_ret2
        exact F.out

theorem rEncode_any (k : Int) (l : L8) (hl : l.length ≤ 1048576) (w : World) : Calls Tryd.prog 15 #[.string (arr l), .int .i64 k] w (EncP w k l) := by
  by_cases hk : k < 1 ∨ 3 < k
  · exact rEncode_kind k hk l w
  · cases hv : Lib.validD l
    · exact rEncode_form k (by omega) (by omega) l hl hv w
    · by_cases h3 : k = 3
      · subst h3; exact rEncode_utf8 l hl hv w
      · exact rEncode_plain k (by omega) l hl hv w

end Go.Proofs.YtmnoiknpamfmoaaDoor
