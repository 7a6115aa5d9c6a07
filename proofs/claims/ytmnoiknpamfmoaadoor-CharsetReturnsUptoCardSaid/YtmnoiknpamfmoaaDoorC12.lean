import Derived.Test.YtmnoiknpamfmoaaDoorC11
namespace Go.Proofs.YtmnoiknpamfmoaaDoor
open Go.RowKit CS

theorem bytes_one (l : L8) : ∀ u ∈ Lib.byteCells l, u.oneCell' = true := by
  intro u hu
  obtain ⟨x, _, rfl⟩ := List.mem_map.1 hu
  rfl

theorem stepL_ok {l : L8} (h : nextOk 3 l = true) : stepL l = nextN 3 l := by
  unfold nextOk at h; unfold stepL nextN
  rw [if_pos rfl] at h
  simp at h
  rw [if_neg h, if_pos rfl]
theorem stepL_bad {l : L8} (h : nextOk 3 l = false) : stepL l = 0 := by
  unfold nextOk at h; unfold stepL
  rw [if_pos rfl] at h
  simp at h
  rw [if_pos h]
theorem enc_next {l : L8} (hne : l ≠ []) (h : nextOk 3 l = true) : Lib.encodeRune (nextR 3 l) = l.take (nextN 3 l) := by
  unfold nextOk at h; unfold nextR nextN
  rw [if_pos rfl] at h ⊢
  rw [if_pos rfl]
  simp at h
  exact Lib.encode_decode l hne h

set_option maxHeartbeats 2000000 in
set_option maxRecDepth 100000 in
theorem rDecode_utf8 (l : L8) (b off cap : Nat) (hl : l.length ≤ 65536) (hcap : l.length ≤ cap) (w : World) (hp : Bytes w b off l) :
    Calls Tryd.prog 9 #[.slice (some ⟨b, off, none⟩) l.length cap, .int .i64 3] w (DecQ w 3 l) := by
  have HP := Lib.hid hp
  have FIN := Lib.hid (fun bs ds ov dv wr => RefW.finish (w := w) (k := 3) (l := l) (bs := bs) (ds := ds) (ov := ov) (dv := dv) (wr := wr))
  obtain ⟨i0, hi, hz0, hz1, hz2⟩ := info_parts info32
  have HI0 := Lib.hid hi; have HZ0 := Lib.hid hz0; have HZ1 := Lib.hid hz1; have HZ2 := Lib.hid hz2
  obtain ⟨j0, hj, hy0, hy1, hy2⟩ := info_parts info5
  have HJ0 := Lib.hid hj; have HY0 := Lib.hid hy0; have HY1 := Lib.hid hy1; have HY2 := Lib.hid hy2
  have ST : Hid (CS.start 3 l = if (3 : Int) = 3 ∧ marked l = true then 3 else 0) := Lib.hid rfl
  have S3 : Hid (CS.start 3 l ≤ l.length) := Lib.hid (CS.start_le 3 l)
  have HM := Lib.hid (marked_at l b off cap w hp (by omega))
  clear hi hz0 hz1 hz2 hj hy0 hy1 hy2 hp
  have hcase : (marked l = true ∧ 3 ≤ l.length ∧ Hid (CS.start 3 l = 3)) ∨ (marked l = false ∧ Hid (CS.start 3 l = 0)) := by
    cases hm : marked l
    · exact Or.inr ⟨rfl, Lib.hid (by rw [ST.out, if_neg]; simp [hm])⟩
    · have e : CS.start 3 l = 3 := by rw [ST.out, if_pos ⟨rfl, hm⟩]
      exact Or.inl ⟨rfl, by have := S3.out; omega, Lib.hid e⟩
  clear ST S3
  generalize hL : l.length = len at *
  have HL := Lib.hid hL
  clear hL
  rcases hcase with ⟨hm, h3l, hs⟩ | ⟨hm, hs⟩
  all_goals
    rw [hm] at HM
    go_enter Tryd.func9, Tryd.ntmps9
    go_wp2_with (first | (go_at_call 23; refine HM.out.mono ?_; rintro e w' ⟨rfl, rfl⟩) | fail)
    go_loopw [7, 8, 9, 10] (fun ov dv i _ wr => ∃ (n : Nat) (bs : L8) (ds : Dmg), n ≤ len ∧ i = .int .i64 n ∧ Hid (RefW w 3 l n bs ds ov dv wr)) (fun _ _ i _ _ => len - (intOf i).toNat)
    case atStart => exact ⟨_, [], [], by omega, by go_num, Lib.hid (RefW.start hs.out (Below.refl _ _))⟩
    case round =>
      obtain ⟨n, bs, ds, hn, rfl, HW⟩ := hrel
      by_cases hlt : n < len
      · have lb := HW.out.lb
        have ld := HW.out.ld
        have hsz := HW.out.bel.size
        have hne : l.drop n ≠ [] := by intro e; have := List.drop_eq_nil_iff.1 e; have := HL.out; omega
        have hbx : ((l.getD n 0).toNat : Int) < 256 := by have := (l.getD n 0).toNat_lt; omega
        have hx0 : 0 ≤ ((l.getD n 0).toNat : Int) := by omega
        have CN := Lib.hid (step_at (l.drop n) hne b (off + n) (cap - n) wr (by rw [List.length_drop]; have := HL.out; omega) ((HP.out.below HW.out.bel).drop n))
        rw [List.length_drop, HL.out] at CN
        have CX : Hid (∀ w1, Below wr.heap.size wr w1 → w1.cell? ⟨b, off + n, none⟩ = some (.int .u8 (l.getD n 0).toNat)) := Lib.hid (fun w1 hb => (HP.out.below (HW.out.bel.trans (hb.mono HW.out.bel.size))) n (by rw [HL.out]; exact hlt))
        have CT : Hid (∀ w1, Below wr.heap.size wr w1 → Bytes w1 b (off + n) (l.drop n)) := Lib.hid (fun w1 hb => (HP.out.below (HW.out.bel.trans (hb.mono HW.out.bel.size))).drop n)
        have W1 := Lib.hid (fun (ho : nextOk 3 (l.drop n) = true) (ov' : Value) (w1 w2 : World) => HW.out.ok (ov' := ov') (w1 := w1) (w2 := w2) hne ho)
        have W2 := Lib.hid (fun (ho : nextOk 3 (l.drop n) = false) (ov' dv' : Value) (o : Obj) (w1 w2 w3 : World) => HW.out.bad (ov' := ov') (dv' := dv') (o := o) (w1 := w1) (w2 := w2) (w3 := w3) hne ho)
        have W3 := Lib.hid (fun (o : Obj) (w1 w2 : World) => HW.out.rows2 (o := o) (w1 := w1) (w2 := w2))
        have hN := nextN_pos 3 (l.drop n)
        have hN2 := nextN_le 3 (l.drop n) hne
        rw [List.length_drop, HL.out] at hN2
        have hEN := Lib.hid (fun h => enc_next hne h)
        have hNB := Lib.hid (fun h => nextN_bad 3 (l.drop n) h)
        cases hok : nextOk 3 (l.drop n)
        · rw [stepL_bad hok] at CN
          have HOK := Lib.hid hok
          have h1 := hNB.out hok
          rw [h1] at W2
          clear hok h1
          go_wp2_with (first | (go_at_call 24; refine CN.out.mono ?_) | fail)
          rintro e w1 ⟨rfl, hb1⟩
          have cx := CX.out w1 hb1
          have hsz1 : w.heap.size ≤ w1.heap.size := Nat.le_trans hsz hb1.size
          have hbr := Lib.hid (row_below HW.out.brow hb1)
          have hdr := Lib.hid (row_below HW.out.row hb1)
          have hdl : ds.length + 1 ≤ 70000 := by omega
          generalize hX' : ((l.getD n 0).toNat : Int) = X at *
          have HX := Lib.hid hX'
          clear hX'
          go_wp2_with (at_builtin; refine wpList_append_own _ rfl _ _ 23 rfl w.heap.size 32 i0 (.agg #[.int .i64 0, .int .i64 0]) 2 16 Tryd.underlying23 HI0.out HZ0.out HZ1.out HZ2.out rfl (by decide) _ _ _ rfl (hdr.out.alloc _) ⟨w1.heap.size, 0, none⟩ 1 1 [.int .i64 n, .int .i64 X] rfl rfl ?e1 ?e2 ?e3 ?e4 ?e5 ?_)
          case e1 =>
            intro j u hj
            rw [Go.WideShapes.add_plain, World.cell?_alloc_at _ _ _ _ rfl]
            match j, hj with
            | 0, hj => simpa using hj
            | 1, hj => simpa using hj
            | j + 2, hj => simp at hj
          case e2 => simp [Value.oneCell']
          case e3 => unfold maxLen; omega
          case e4 => omega
          case e5 => simp; omega
          intro dv2 w2 hown2 hgrow2 _
          have HR := Lib.hid (W3.out _ _ _ hb1 hgrow2)
          have HO2 := Lib.hid hown2
          have HG2 := Lib.hid hgrow2
          clear hown2 hgrow2
          have hz2 := HR.out.2
          go_wp2_with (at_builtin; refine Lib.wpList_append_own_string _ rfl _ _ 22 9 rfl w.heap.size 5 j0 Tryd.underlying22 Tryd.underlying9 HJ0.out HY0.out HY1.out HY2.out _ _ _ rfl HR.out.1 _ rfl ?f1 ?f2 ?f3 ?_)
          case f1 => show bs.length + 3 ≤ _; unfold maxLen; omega
          case f2 => show bs.length + 3 ≤ _; omega
          case f3 => exact hz2
          intro ov2 w3 hown3 hgrow3 _
          have HW2 := Lib.hid (W2.out HOK.out ov2 dv2 _ w1 w2 w3 hb1 HO2.out HG2.out hgrow3 hown3)
          clear hown3 hgrow3
          go_wp2
          go_round
          case rel => exact ⟨n + 1, _, _, by omega, by go_num, HW2⟩
          case measure => simp [intOf]; omega
        · rw [stepL_ok hok] at CN
          have hen := hEN.out hok
          rw [hen] at W1
          have W1 := Lib.hid (W1.out hok)
          clear hok hen
          go_wp2_with (first | (go_at_call 24; refine CN.out.mono ?_) | fail)
          rintro e w1 ⟨rfl, hb1⟩
          have hsz1 : w.heap.size ≤ w1.heap.size := Nat.le_trans hsz hb1.size
          have hbr := Lib.hid (row_below HW.out.brow hb1)
          have hct := Lib.hid (CT.out w1 hb1)
          have hln : ((l.drop n).take (nextN 3 (l.drop n))).length = nextN 3 (l.drop n) := by rw [List.length_take, List.length_drop]; have := HL.out; omega
          have HLN := Lib.hid hln
          clear hln
          generalize hNN : nextN 3 (l.drop n) = N at *
          go_wp2_with (at_builtin; refine wpList_append_own _ rfl _ _ 22 rfl w.heap.size 5 j0 (.int .u8 0) 1 1 Tryd.underlying22 HJ0.out HY0.out HY1.out HY2.out rfl (by decide) _ _ _ rfl hbr.out ⟨b, off + n, none⟩ (n + N - n) (cap - n) (Lib.byteCells ((l.drop n).take N)) rfl ?g0 ?g1 ?g2 ?g3 ?g4 ?g5 ?_)
          case g0 => rw [Lib.byteCells_length, HLN.out]; omega
          case g1 =>
            intro j u hj
            rw [Go.WideShapes.add_plain]
            have hj2 : j < ((l.drop n).take N).length := by
              rcases Nat.lt_or_ge j ((l.drop n).take N).length with h | h
              · exact h
              · rw [List.getElem?_eq_none (by rw [Lib.byteCells_length]; exact h)] at hj; cases hj
            rw [(hct.out.take N) j hj2, ← hj]
            generalize (l.drop n).take N = t at *
            simp [Lib.byteCells, List.getD, hj2]
          case g2 => exact bytes_one _
          case g3 => unfold maxLen; omega
          case g4 => omega
          case g5 => exact hsz1
          intro ov2 w2 hown2 hgrow2 _
          have HW2 := Lib.hid (W1.out ov2 w1 w2 hb1 hgrow2 (by rw [HLN.out]; exact hown2))
          clear hown2 hgrow2
          go_wp2
          go_round
          case rel => exact ⟨n + N, _, _, by omega, by go_num, HW2⟩
          case measure => simp [intOf]; omega
      · have hn' : n = len := by omega
        have HW' : Hid (RefW w 3 l len bs ds u7 u8 wr) := by rw [← hn']; exact HW
        clear HW hn'
        have k1 := conv_own HW'.out.brow
        have F := Lib.hid (FIN.out _ _ _ _ _ HW'.out)
        go_wp2
        go_ret3
        exact F.out

end Go.Proofs.YtmnoiknpamfmoaaDoor
