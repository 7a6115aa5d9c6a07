import Derived.Test.YtmnoiknpamfmoaaDoorC9
namespace Go.Proofs.YtmnoiknpamfmoaaDoor
open Go.RowKit CS

theorem info32 : (Tryd.prog.info? 32).map (fun i => (i.zero, i.size, i.bytes)) = some (some (.agg #[.int .i64 0, .int .i64 0]), 2, 16) := by kernel_rfl

/-- Decode's loop: what holds at its head. -/
structure DecW (w : World) (k : Int) (l : L8) (n : Nat) (bs : L8) (ds : Dmg) (dv : Value) (wr : World) : Prop where
  out : bs ++ (dec k (l.drop n) n).1 = (dec k (l.drop (CS.start k l)) (CS.start k l)).1
  dmg : ds ++ (dec k (l.drop n) n).2 = (dec k (l.drop (CS.start k l)) (CS.start k l)).2
  bld : Lib.IsBuilderF 44 5 w.heap.size w.heap.size (Lib.byteCells bs) wr
  row : wr.ownsRow w.heap.size 32 2 dv ds.length (dcells ds)
  lb : bs.length ≤ 4 * n
  ld : ds.length ≤ n
  bel : Below w.heap.size w wr

theorem grown_below {w w' : World} (h : Below w.heap.size w w') (row : Option Nat) : w.grownBy w' row := ⟨h.os, h.tape, h.output, h.size, fun k hk _ => h.block k hk⟩

theorem dec_at (k : Int) (l : L8) (n : Nat) (hne : l.drop n ≠ []) : dec k (l.drop n) n = if nextOk k (l.drop n) then (Lib.encodeRune (nextR k (l.drop n)) ++ (dec k (l.drop (n + nextN k (l.drop n))) (n + nextN k (l.drop n) : Nat)).1, (dec k (l.drop (n + nextN k (l.drop n))) (n + nextN k (l.drop n) : Nat)).2)
      else (Lib.encodeRune 65533 ++ (dec k (l.drop (n + nextN k (l.drop n))) (n + nextN k (l.drop n) : Nat)).1, ((n : Int), ((l.getD n 0).toNat : Int)) :: (dec k (l.drop (n + nextN k (l.drop n))) (n + nextN k (l.drop n) : Nat)).2) := by
  rw [dec_step k _ _ hne, List.drop_drop, getD_drop]
  have e : (n : Int) + (nextN k (l.drop n) : Int) = ((n + nextN k (l.drop n) : Nat) : Int) := by omega
  rw [e]
  rfl

theorem DecW.row1 {w : World} {k : Int} {l : L8} {n : Nat} {bs : L8} {ds : Dmg} {dv : Value} {wr w1 : World} (h : DecW w k l n bs ds dv wr)
    (hb1 : Below wr.heap.size wr w1) : w1.ownsRow w.heap.size 32 2 dv ds.length (dcells ds) := by
  refine h.row.kept (row := none) (grown_below hb1 none) ?_
  cases dv.ownBlock <;> simp

theorem DecW.ok {w : World} {k : Int} {l : L8} {n : Nat} {bs : L8} {ds : Dmg} {dv : Value} {wr w1 w2 : World} (h : DecW w k l n bs ds dv wr) (hne : l.drop n ≠ []) (ho : nextOk k (l.drop n) = true)
    (hb1 : Below wr.heap.size wr w1) (hbl : Lib.BuilderAtF 44 5 w.heap.size w.heap.size (.pointer (some ⟨w.heap.size, 0, none⟩)) (Lib.byteCells bs ++ Lib.runeCells (nextR k (l.drop n))) w2) (hb2 : Below w.heap.size w1 w2) (hk : Lib.OthersKept 5 (some w.heap.size) w1 w2) :
    DecW w k l (n + nextN k (l.drop n)) (bs ++ Lib.encodeRune (nextR k (l.drop n))) ds dv w2 := by
  have e := dec_at k l n hne
  rw [if_pos ho] at e
  have hN := nextN_pos k (l.drop n)
  have h4 := enc_le4 (nextR k (l.drop n))
  refine ⟨?_, ?_, ?_, ?_, ?_, ?_, ?_⟩
  · rw [← h.out, e]; simp
  · rw [← h.dmg, e]
  · rw [Lib.byteCells_append, Lib.byteCells_encodeRune]; exact Or.inr hbl
  · obtain ⟨c, hc⟩ := bld_block h.bld
    have hlt : w.heap.size < wr.heap.size := (Array.getElem?_eq_some_iff.1 hc).1
    refine dmg_kept (h.row1 hb1) hk ⟨c, ?_⟩
    rw [hb1.block _ hlt]; exact hc
  · have := h.lb; rw [List.length_append]; omega
  · have := h.ld; omega
  · exact (h.bel.trans (hb1.mono h.bel.size)).trans hb2

theorem DecW.bld2 {w : World} {k : Int} {l : L8} {n : Nat} {bs : L8} {ds : Dmg} {dv : Value} {wr w1 w2 : World} {o : Obj} (h : DecW w k l n bs ds dv wr)
    (hb1 : Below wr.heap.size wr w1) (hg : (w1.alloc o).grownBy w2 dv.ownBlock) : Lib.IsBuilderF 44 5 w.heap.size w.heap.size (Lib.byteCells bs) w2 := by
  have h1 : Lib.IsBuilderF 44 5 w.heap.size w.heap.size (Lib.byteCells bs) w1 := bld_kept (row := none) h.bld (grown_below hb1 none) (by simp)
  have h2 : Lib.IsBuilderF 44 5 w.heap.size w.heap.size (Lib.byteCells bs) (w1.alloc o) := h1.elim (fun x => .inl (x.alloc o)) (fun x => .inr (x.alloc o))
  exact bld_kept h2 hg (dmg_kind ((h.row1 hb1).alloc o))

theorem DecW.bel2 {w : World} {k : Int} {l : L8} {n : Nat} {bs : L8} {ds : Dmg} {dv : Value} {wr w1 w2 : World} {o : Obj} (h : DecW w k l n bs ds dv wr)
    (hb1 : Below wr.heap.size wr w1) (hg : (w1.alloc o).grownBy w2 dv.ownBlock) : Below w.heap.size w w2 := by
  have h1 : Below w.heap.size w w1 := h.bel.trans (hb1.mono h.bel.size)
  exact (h1.alloc h1.size o).grown hg (by have := h1.size; simp; omega) (fun q hq => ((h.row1 hb1).alloc o).lt q hq |>.1)

theorem DecW.bad {w : World} {k : Int} {l : L8} {n : Nat} {bs : L8} {ds : Dmg} {dv dv' : Value} {wr w1 w2 w3 : World} {o : Obj} (h : DecW w k l n bs ds dv wr) (hne : l.drop n ≠ []) (ho : nextOk k (l.drop n) = false)
    (hb1 : Below wr.heap.size wr w1) (hown : w2.ownsRow w.heap.size 32 2 dv' (ds.length + 1) (dcells ds ++ [.int .i64 n, .int .i64 (l.getD n 0).toNat])) (hg : (w1.alloc o).grownBy w2 dv.ownBlock)
    (hbl : Lib.BuilderAtF 44 5 w.heap.size w.heap.size (.pointer (some ⟨w.heap.size, 0, none⟩)) (Lib.byteCells bs ++ Lib.runeCells 65533) w3) (hb3 : Below w.heap.size w2 w3) (hk : Lib.OthersKept 5 (some w.heap.size) w2 w3) :
    DecW w k l (n + nextN k (l.drop n)) (bs ++ Lib.encodeRune 65533) (ds ++ [((n : Int), ((l.getD n 0).toNat : Int))]) dv' w3 := by
  have e := dec_at k l n hne
  rw [if_neg (by simp [ho])] at e
  have hN := nextN_pos k (l.drop n)
  have h4 := enc_le4 65533
  refine ⟨?_, ?_, ?_, ?_, ?_, ?_, ?_⟩
  · rw [← h.out, e]; simp
  · rw [← h.dmg, e]; simp
  · rw [Lib.byteCells_append, Lib.byteCells_encodeRune]; exact Or.inr hbl
  · rw [List.length_append, List.length_singleton, dcells_app]
    exact dmg_kept hown hk (bld_block (h.bld2 hb1 hg))
  · have := h.lb; rw [List.length_append]; omega
  · have := h.ld; rw [List.length_append, List.length_singleton]; omega
  · exact (h.bel2 hb1 hg).trans hb3

theorem Utf8Tabs_below {w w' : World} (hT : Lib.Utf8Tabs 0 1 w) (hb : Below w.heap.size w w') : Lib.Utf8Tabs 0 1 w' := by
  refine ⟨fun c hc => ?_, fun i hi => ⟨?_, ?_⟩⟩
  · have := hT.1 c hc; rw [hb.cell (lt_of_cell this)]; exact this
  · have := (hT.2 i hi).1; rw [hb.cell (lt_of_cell this)]; exact this
  · have := (hT.2 i hi).2; rw [hb.cell (lt_of_cell this)]; exact this

theorem ret_dec {a b : L8} {v : Value} (h : a = b) : Ending.returned (.tuple #[.string ⟨a.toArray⟩, v, .int .i64 0]) = .returned (.tuple #[.string (arr b), v, .int .i64 0]) := by rw [h]; rfl

/-- What the loop leaves. -/
def DecQ (w : World) (k : Int) (l : L8) (e : Ending) (w' : World) : Prop :=
  ∃ dv, e = .returned (.tuple #[.string (arr (dec k (l.drop (CS.start k l)) (CS.start k l)).1), dv, .int .i64 0]) ∧ Dam w' dv (dec k (l.drop (CS.start k l)) (CS.start k l)).2 ∧ Below w.heap.size w w'

theorem DecW.start {w : World} {k : Int} {l : L8} {s : Nat} (hs : CS.start k l = s) : DecW w k l s [] [] (.slice none 0 0) (w.alloc (.cells #[.pointer none, .slice none 0 0] 44)) := by
  subst hs
  refine ⟨rfl, rfl, ?_, World.ownsRow_nil _ _ _ _, Nat.zero_le _, Nat.zero_le _, (Below.refl _ _).alloc (Nat.le_refl _) _⟩
  exact Lib.IsBuilderF.of (Lib.fresh_isBuilder _ _ _)

theorem DecW.finish {w : World} {k : Int} {l : L8} {bs : L8} {ds : Dmg} {dv : Value} {wr w1 : World} (h : DecW w k l l.length bs ds dv wr) (hb : Below w.heap.size wr w1) (hk : Lib.OthersKept 5 (some w.heap.size) wr w1) :
    DecQ w k l (.returned (.tuple #[.string ⟨bs.toArray⟩, dv, .int .i64 0])) w1 := by
  have e1 := h.out
  have e2 := h.dmg
  rw [List.drop_length, dec_nil] at e1 e2
  simp only [List.append_nil] at e1 e2
  refine ⟨dv, ret_dec e1, ?_, h.bel.trans hb⟩
  rw [← e2]
  exact dam_of (dmg_kept h.row hk (bld_block h.bld))

set_option maxHeartbeats 2000000 in
set_option maxRecDepth 100000 in
theorem Decode_main (k : Int) (hk : okKind k = true) (l : L8) (b off cap : Nat) (hl : l.length ≤ 65536) (hcap : l.length ≤ cap) (w : World) (hp : Bytes w b off l) (hT : Lib.Utf8Tabs 0 1 w) :
    Calls Tryd.prog 8 #[.slice (some ⟨b, off, none⟩) l.length cap, .int .i64 k] w (DecQ w k l) := by
  have C := Lib.hid (fun w => greatest_any k w)
  rw [hk] at C
  have HP := Lib.hid hp
  have HT := Lib.hid hT
  have k1 := conv_str w l b off l.length cap rfl hp
  have HM := Lib.hid (fun w => has_mark l w)
  have FIN := Lib.hid (fun bs ds dv wr w1 => DecW.finish (w := w) (k := k) (l := l) (bs := bs) (ds := ds) (dv := dv) (wr := wr) (w1 := w1))
  have ST : Hid (CS.start k l = if k = 3 ∧ marked l = true then 3 else 0) := Lib.hid rfl
  have S3 : Hid (CS.start k l ≤ l.length) := Lib.hid (CS.start_le k l)
  obtain ⟨i0, hi, hz0, hz1, hz2⟩ := info_parts info32
  have HI0 := Lib.hid hi; have HZ0 := Lib.hid hz0; have HZ1 := Lib.hid hz1; have HZ2 := Lib.hid hz2
  clear hi hz0 hz1 hz2 hp hT
  have hcase : ((k == 3) = false ∧ Hid (CS.start k l = 0)) ∨ ((k == 3) = true ∧ marked l = true ∧ 3 ≤ l.length ∧ Hid (CS.start k l = 3)) ∨ ((k == 3) = true ∧ marked l = false ∧ Hid (CS.start k l = 0)) := by
    by_cases h3 : k = 3
    · cases hm : marked l
      · exact Or.inr (Or.inr ⟨by simp [h3], rfl, Lib.hid (by rw [ST.out, if_neg]; simp [hm])⟩)
      · have e : CS.start k l = 3 := by rw [ST.out, if_pos ⟨h3, hm⟩]
        exact Or.inr (Or.inl ⟨by simp [h3], rfl, by have := S3.out; omega, Lib.hid e⟩)
    · exact Or.inl ⟨by simpa using h3, Lib.hid (by rw [ST.out, if_neg (fun h => h3 h.1)])⟩
  clear ST S3
  generalize hL : l.length = len at *
  have HL := Lib.hid hL
  clear hL
  rcases hcase with ⟨q3, hs⟩ | ⟨q3, hm, h3l, hs⟩ | ⟨q3, hm, hs⟩
  all_goals
    go_enter Tryd.func8, Tryd.ntmps8
    go_wp2_with (first | (go_at_call 18; refine (C.out _).mono ?_; rintro e w' ⟨rfl, rfl⟩) | (go_at_call 19; refine (HM.out _).mono ?_; rintro e w' ⟨rfl, rfl⟩))
    go_loopw [5, 9, 11, 12, 13] (fun dv i _ _ _ wr => ∃ (n : Nat) (bs : L8) (ds : Dmg), n ≤ len ∧ i = .int .i64 n ∧ Hid (DecW w k l n bs ds dv wr)) (fun _ i _ _ _ _ => len - (intOf i).toNat)
    case atStart => exact ⟨_, [], [], by omega, by go_num, Lib.hid (DecW.start hs.out)⟩
    case round =>
      obtain ⟨n, bs, ds, hn, rfl, HW⟩ := hrel
      by_cases hlt : n < len
      · have hW := HW.out
        obtain ⟨_, _, bld, row, lb, ld, bel⟩ := hW
        have hne : l.drop n ≠ [] := by intro e; have := List.drop_eq_nil_iff.1 e; have := HL.out; omega
        have CN := Lib.hid (next_any k (l.drop n) hne b (off + n) (cap - n) wr (Utf8Tabs_below HT.out bel) ((HP.out.below bel).drop n))
        rw [List.length_drop, HL.out] at CN
        have hbx : ((l.getD n 0).toNat : Int) < 256 := by have := (l.getD n 0).toNat_lt; omega
        have CX : Hid (∀ w1, Below wr.heap.size wr w1 → w1.cell? ⟨b, off + n, none⟩ = some (.int .u8 (l.getD n 0).toNat)) := Lib.hid (fun w1 hb => (HP.out.below (bel.trans (hb.mono bel.size))) n (by rw [HL.out]; exact hlt))
        have W1 := Lib.hid (fun (ho : nextOk k (l.drop n) = true) (w1 w2 : World) => HW.out.ok (w1 := w1) (w2 := w2) hne ho)
        have W2 := Lib.hid (fun (ho : nextOk k (l.drop n) = false) (dv' : Value) (o : Obj) (w1 w2 w3 : World) => HW.out.bad (dv' := dv') (o := o) (w1 := w1) (w2 := w2) (w3 := w3) hne ho)
        have hR := okRune_next k (l.drop n)
        have hN := nextN_pos k (l.drop n)
        have hN2 := nextN_le k (l.drop n) hne
        rw [List.length_drop, HL.out] at hN2
        have bl1 : Hid (∀ w1, Below wr.heap.size wr w1 → Lib.IsBuilderF 44 5 w.heap.size w.heap.size (Lib.byteCells bs) w1 ∧ w.heap.size ≤ w1.heap.size) := Lib.hid (fun w1 hb => ⟨bld_kept (row := none) HW.out.bld (grown_below hb none) (by simp), Nat.le_trans HW.out.bel.size hb.size⟩)
        have hbsl : (Lib.byteCells bs).length ≤ 262144 := by rw [Lib.byteCells_length]; omega
        clear bld row
        generalize nextN k (l.drop n) = N at *
        generalize nextR k (l.drop n) = R at *
        obtain ⟨r0, r1⟩ := hR
        have r2 : R ≤ 1114111 := by omega
        clear r1
        cases hok : nextOk k (l.drop n)
        · rw [hok] at CN
          have HOK := Lib.hid hok
          clear hok
          go_wp2_with (first | (go_at_call 20; refine CN.out.mono ?_) | fail)
          rintro e w1 ⟨rfl, hb1⟩
          have cx := CX.out w1 hb1
          have hsz := (bl1.out w1 hb1).2
          have hdl : ds.length + 1 ≤ 70000 := by omega
          generalize hX : ((l.getD n 0).toNat : Int) = X at *
          have HX := Lib.hid hX
          clear hX
          have hX0 : 0 ≤ X := by have := HX.out; omega
          have hrow := Lib.hid (HW.out.row1 hb1)
          go_wp2_with (at_builtin; refine wpList_append_own _ rfl _ _ 23 rfl w.heap.size 32 i0 (.agg #[.int .i64 0, .int .i64 0]) 2 16 Tryd.underlying23 HI0.out HZ0.out HZ1.out HZ2.out rfl (by decide) _ _ _ rfl (hrow.out.alloc _) ⟨w1.heap.size, 0, none⟩ 1 1 [.int .i64 n, .int .i64 X] rfl rfl ?c1 ?c2 ?c3 ?c4 ?c5 ?_)
          case c1 =>
            intro j u hj
            rw [Go.WideShapes.add_plain, World.cell?_alloc_at _ _ _ _ rfl]
            match j, hj with
            | 0, hj => simpa using hj
            | 1, hj => simpa using hj
            | j + 2, hj => simp at hj
          case c2 => simp [Value.oneCell']
          case c3 => unfold maxLen; omega
          case c4 => omega
          case c5 => simp; omega
          intro dv2 w2 hown2 hgrow2 _
          have HB2 := Lib.hid (HW.out.bld2 hb1 hgrow2)
          have HBel2 := Lib.hid (HW.out.bel2 hb1 hgrow2)
          have HO2 := Lib.hid hown2
          have HG2 := Lib.hid hgrow2
          clear hown2 hgrow2
          go_wp2_with (first | (go_at_call 21; refine (writeRune_k w.heap.size w.heap.size (Lib.byteCells bs) 65533 (by omega) (by omega) w2 HB2.out (by omega) HBel2.out.size).mono ?_) | fail)
          rintro e w3 ⟨rfl, hbl, hb3, hk3⟩
          go_wp2
          go_round
          case rel =>
            exact ⟨n + N, _, _, by omega, by go_num, Lib.hid (W2.out HOK.out _ _ w1 w2 w3 hb1 HO2.out HG2.out hbl hb3 hk3)⟩
          case measure => simp [intOf]; omega
        · rw [hok] at CN
          go_wp2_with (first | (go_at_call 20; refine CN.out.mono ?_) | fail)
          rintro e w1 ⟨rfl, hb1⟩
          go_wp2_with (first | (go_at_call 21; refine (writeRune_k w.heap.size w.heap.size (Lib.byteCells bs) R (by omega) (by omega) w1 (bl1.out w1 hb1).1 (by omega) (bl1.out w1 hb1).2).mono ?_) | fail)
          rintro e w2 ⟨rfl, hbl, hb2, hk2⟩
          go_wp2
          go_round
          case rel => exact ⟨n + N, _, _, by omega, by go_num, Lib.hid (W1.out hok w1 w2 hb1 hbl hb2 hk2)⟩
          case measure => simp [intOf]; omega
      · have hn' : n = len := by omega
        have HW' : Hid (DecW w k l len bs ds u5 wr) := by rw [← hn']; exact HW
        clear HW hn'
        have hb0 := HW'.out.bel.size
        go_wp2_with (first | (go_at_call 22; refine (Tryd.Builder_String_any_k w.heap.size w.heap.size bs wr HW'.out.bld hb0).mono ?_) | fail)
        rintro e w1 ⟨rfl, _, hb1, hk1⟩
        have F := Lib.hid (FIN.out _ _ _ _ _ HW'.out hb1 hk1)
        go_wp2
        go_ret3
        exact F.out

set_option maxRecDepth 100000 in
theorem Decode_nil (k : Int) (hk : okKind k = true) (a : Option Addr) (cap : Nat) (w : World) :
    Calls Tryd.prog 8 #[.slice a 0 cap, .int .i64 k] w (DecQ w k []) := by
  have C := Lib.hid (fun w => greatest_any k w)
  rw [hk] at C
  have HM := Lib.hid (fun w => has_mark [] w)
  have hs : CS.start k [] = 0 := by unfold CS.start; rw [if_neg]; rintro ⟨_, h⟩; cases h
  have k1 := fun w => conv_zero w a cap
  have HW := Lib.hid (DecW.start (w := w) hs)
  have HB := Lib.hid (fun (w1 : World) (h1 : Below w.heap.size _ w1) (h2 : Lib.OthersKept 5 (some w.heap.size) _ w1) => HW.out.finish h1 h2)
  clear hs
  cases q3 : (k == 3)
  all_goals
    go_enter Tryd.func8, Tryd.ntmps8
    go_wp2_with (first | (go_at_call 18; refine (C.out _).mono ?_; rintro e w' ⟨rfl, rfl⟩) | (go_at_call 19; refine (HM.out _).mono ?_; rintro e w' ⟨rfl, rfl⟩))
    refine wp_loop_rounds 1 ?_
    rw [rounds_succ]
    go_wp2_with (first | (go_at_call 22; refine (Tryd.Builder_String_any_k w.heap.size w.heap.size [] _ HW.out.bld (by simp)).mono ?_) | fail)
    rintro e w1 ⟨rfl, _, hb1, hk1⟩
    have F := Lib.hid (HB.out w1 hb1 hk1)
    go_wp2
    go_ret3
    exact F.out

end Go.Proofs.YtmnoiknpamfmoaaDoor
