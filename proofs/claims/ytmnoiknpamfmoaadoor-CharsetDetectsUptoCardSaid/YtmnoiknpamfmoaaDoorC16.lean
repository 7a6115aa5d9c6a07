import Derived.Test.YtmnoiknpamfmoaaDoorC14
namespace Go.Proofs.YtmnoiknpamfmoaaDoor
open Go.RowKit CS

theorem conv_bslice {w : World} {v : Value} {l : L8} (h : BSlice w v l) : (convert 22 9 v).run Tryd.prog w = .ok (.string (arr l)) w := by
  rcases h with ⟨a, cap, rfl, rfl⟩ | ⟨b, off, cap, rfl, _, hp⟩
  · exact conv_zero w a cap
  · exact conv_str w l b off _ cap rfl hp

theorem bslice_ownF {w : World} {B : Nat} {v : Value} {bs : L8} (h : w.ownsRowF B 5 1 v bs.length (Lib.byteCells bs)) : BSlice w v bs := by
  rcases h.2 with ⟨rfl, hn⟩ | ⟨g, cap, cur, fz, rfl, hbg, hg, hfz, hle, hcm, hcs, htake⟩
  · exact Or.inl ⟨_, _, rfl, List.eq_nil_of_length_eq_zero hn⟩
  · refine Or.inr ⟨g, 0, cap, rfl, hle, fun j hj => ?_⟩
    have := h.cells (g := g) rfl j (.int .u8 (bs.getD j 0).toNat) (by simp [Lib.byteCells, List.getD, hj])
    rw [Go.WideShapes.add_plain] at this
    exact this

/-- What both Encodes return. -/
def EncP (w : World) (k : Int) (l : L8) (e : Ending) (w' : World) : Prop :=
  ∃ v, e = .returned (.tuple #[v, .int .i64 (encE k l)]) ∧ BSlice w' v (CS.encR k l) ∧ Below w.heap.size w w'

theorem bslice_none (w : World) : BSlice w (.slice none 0 0) [] := Or.inl ⟨_, _, rfl, rfl⟩
theorem EncP.err {w w' : World} {k : Int} {l : L8} {c : Int} (hc : encE k l = c) (h0 : c ≠ 0) (hb : Below w.heap.size w w') : EncP w k l (.returned (.tuple #[.slice none 0 0, .int .i64 c])) w' := by
  refine ⟨_, by rw [hc], ?_, hb⟩
  unfold CS.encR
  rw [if_neg (by rw [hc]; exact h0)]
  exact bslice_none w'
theorem EncP.fine {w w' : World} {k : Int} {l : L8} {v : Value} (hc : encE k l = 0) (hv : BSlice w' v (encOut k l)) (hb : Below w.heap.size w w') : EncP w k l (.returned (.tuple #[v, .int .i64 0])) w' := by
  refine ⟨_, by rw [hc], ?_, hb⟩
  unfold CS.encR
  rw [if_pos hc]
  exact hv

theorem encE_kind {k : Int} {l : L8} (h : okKind k = false) : encE k l = 6 := by unfold encE; rw [if_pos h]
theorem encE_form {k : Int} {l : L8} (h : okKind k = true) (hv : Lib.validD l = false) : encE k l = 4 := by unfold encE; rw [if_neg (by simp [h]), if_pos hv]
theorem encE_char {k : Int} {l : L8} (h : okKind k = true) (hv : Lib.validD l = true) (hf : fits k l = false) : encE k l = 5 := by unfold encE; rw [if_neg (by simp [h]), if_neg (by simp [hv]), if_pos hf]
theorem encE_size {k : Int} {l : L8} (h : okKind k = true) (hv : Lib.validD l = true) (hf : fits k l = true) (hs : 65536 < (encOut k l).length) : encE k l = 2 := by unfold encE; rw [if_neg (by simp [h]), if_neg (by simp [hv]), if_neg (by simp [hf]), if_pos hs]
theorem encE_ok {k : Int} {l : L8} (h : okKind k = true) (hv : Lib.validD l = true) (hf : fits k l = true) (hs : ¬ 65536 < (encOut k l).length) : encE k l = 0 := by unfold encE; rw [if_neg (by simp [h]), if_neg (by simp [hv]), if_neg (by simp [hf]), if_neg hs]

/-- The bytes of the runes that have been read. -/
def outOf (k : Int) (rs : List Int) : L8 := if k = 3 then textOf rs else rs.map CS.byteOf
theorem outOf_snoc (k : Int) (rs : List Int) (r : Int) : outOf k (rs ++ [r]) = outOf k rs ++ (if k = 3 then Lib.encodeRune r else [CS.byteOf r]) := by
  unfold outOf
  split <;> simp [textOf]
theorem outOf_len (k : Int) (rs : List Int) : (outOf k rs).length ≤ 4 * rs.length := by
  unfold outOf
  split
  · induction rs with
    | nil => simp [textOf]
    | cons r rs ih =>
      have := enc_le4 r
      simp only [textOf, List.flatMap_cons, List.length_append, List.length_cons] at ih ⊢
      omega
  · simp; omega
theorem outOf_all (k : Int) (l : L8) (hv : Lib.validD l = true) : outOf k (runesL l) = encOut k l := by
  unfold outOf encOut
  split
  · exact valid_mend l hv
  · rfl

theorem fits_no {k : Int} {l : L8} {ds rest : List Int} {r : Int} (h : ds ++ r :: rest = runesL l) (hr : most k < r) : fits k l = false := by
  unfold fits
  rw [← h]
  simp [List.all_append]
  intro _ h2
  omega
theorem fits_yes {k : Int} {l : L8} {ds : List Int} (h : ds = runesL l) (hr : ∀ r ∈ ds, r ≤ most k) : fits k l = true := by
  unfold fits
  rw [← h, List.all_eq_true]
  intro r hm
  simpa using hr r hm

/-- Encode's loop. ib: the iterator's block. -/
structure EncW (w : World) (k : Int) (l : L8) (ib n : Nat) (ds : List Int) (ov : Value) (wr : World) : Prop where
  runes : ds ++ runesL (l.drop n) = runesL l
  few : ds.length ≤ n
  small : ∀ r ∈ ds, r ≤ most k
  row : wr.ownsRowF w.heap.size 5 1 ov (outOf k ds).length (Lib.byteCells (outOf k ds))
  it : wr.heap[ib]? = some (.stringIter (arr l) n)
  bel : Below w.heap.size w wr
  ge : w.heap.size ≤ ib

theorem ownF_iterAt {w : World} {B n : Nat} {v : Value} {xs : List Value} {ib : Nat} {s : ByteArray} {p : Nat} (h : w.ownsRowF B 5 1 v n xs) (hk : w.heap[ib]? = some (.stringIter s p)) (p' : Nat) : (w.iterAt ib s p').ownsRowF B 5 1 v n xs := by
  refine h.kept (row := some ib) ⟨rfl, rfl, rfl, by rw [Lib.iterAt_size]; exact Nat.le_refl _, fun k _ hne => Lib.iterAt_other w ib k s p' (fun e => hne (by rw [e]))⟩ ?_
  cases hv : v.ownBlock with
  | none => exact Or.inl rfl
  | some g =>
    refine Or.inr (fun e => ?_)
    obtain ⟨c, fz, hc⟩ := Lib.ownsRowF_kind h g hv
    rw [Option.some.inj e, hk] at hc
    cases hc

theorem EncW.next {w : World} {k : Int} {l : L8} {ib n : Nat} {ds : List Int} {ov ov' : Value} {wr w2 : World} {o : Obj} (h : EncW w k l ib n ds ov wr) (hne : l.drop n ≠ []) (hr : ((Lib.decodeL (l.drop n)).1 : Int) ≤ most k)
    (hown : w2.ownsRowF w.heap.size 5 1 ov' (outOf k (ds ++ [((Lib.decodeL (l.drop n)).1 : Int)])).length (Lib.byteCells (outOf k (ds ++ [((Lib.decodeL (l.drop n)).1 : Int)]))))
    (hg : ((wr.iterAt ib (arr l) (n + (Lib.decodeL (l.drop n)).2)).alloc o).grownBy w2 ov.ownBlock) :
    EncW w k l ib (n + (Lib.decodeL (l.drop n)).2) (ds ++ [((Lib.decodeL (l.drop n)).1 : Int)]) ov' w2 := by
  have hw := Lib.decodeL_width (l.drop n)
  have hlt : ib < wr.heap.size := (Array.getElem?_eq_some_iff.1 h.it).1
  have hI := ownF_iterAt h.row h.it (n + (Lib.decodeL (l.drop n)).2)
  refine ⟨?_, ?_, ?_, hown, ?_, ?_, h.ge⟩
  · rw [← h.runes, runesL_step _ hne, List.drop_drop]; simp
  · have := h.few; simp; omega
  · intro r hm
    rcases List.mem_append.1 hm with hm | hm
    · exact h.small r hm
    · simp at hm; rw [hm]; exact hr
  · rw [hg.block ib (by simp [Lib.iterAt_size]; omega) ?_]
    · rw [Lib.alloc_old _ _ _ (by rw [Lib.iterAt_size]; exact hlt)]
      exact Lib.iterAt_heap _ _ _ _ _ h.it
    · intro e
      obtain ⟨c, fz, hc⟩ := Lib.ownsRowF_kind h.row ib e.symm
      rw [h.it] at hc
      cases hc
  · exact ((Lib.below_iterAt h.bel h.ge _ _).alloc (by rw [Lib.iterAt_size]; exact h.bel.size) o).grown hg (by have := h.bel.size; simp [Lib.iterAt_size]; omega) (fun q hq => (hI.lt q hq).1)

theorem EncW.next3 {w : World} {k : Int} {l : L8} {ib n : Nat} {ds : List Int} {ov ov' : Value} {wr w2 : World} {o : Obj} (h : EncW w k l ib n ds ov wr) (hk : k = 3) (hne : l.drop n ≠ []) (hr : ((Lib.decodeL (l.drop n)).1 : Int) ≤ most k)
    (hown : w2.ownsRowF w.heap.size 5 1 ov' ((outOf k ds).length + (Lib.runeCells ((Lib.decodeL (l.drop n)).1 : Int)).length) (Lib.byteCells (outOf k ds) ++ Lib.runeCells ((Lib.decodeL (l.drop n)).1 : Int)))
    (hg : ((wr.iterAt ib (arr l) (n + (Lib.decodeL (l.drop n)).2)).alloc o).grownBy w2 ov.ownBlock) :
    EncW w k l ib (n + (Lib.decodeL (l.drop n)).2) (ds ++ [((Lib.decodeL (l.drop n)).1 : Int)]) ov' w2 := by
  refine h.next hne hr ?_ hg
  rw [outOf_snoc, if_pos hk, Lib.byteCells_append, Lib.byteCells_encodeRune, List.length_append]
  rw [← Lib.byteCells_encodeRune, Lib.byteCells_length] at hown
  rw [← Lib.byteCells_encodeRune]
  exact hown
theorem EncW.nextB {w : World} {k : Int} {l : L8} {ib n : Nat} {ds : List Int} {ov ov' : Value} {wr w2 : World} {o : Obj} (h : EncW w k l ib n ds ov wr) (hk : k ≠ 3) (hne : l.drop n ≠ []) (hr : ((Lib.decodeL (l.drop n)).1 : Int) ≤ most k) (h255 : ((Lib.decodeL (l.drop n)).1 : Int) ≤ 255)
    (hown : w2.ownsRowF w.heap.size 5 1 ov' ((outOf k ds).length + 1) (Lib.byteCells (outOf k ds) ++ [.int .u8 ((Lib.decodeL (l.drop n)).1 : Int)]))
    (hg : ((wr.iterAt ib (arr l) (n + (Lib.decodeL (l.drop n)).2)).alloc o).grownBy w2 ov.ownBlock) :
    EncW w k l ib (n + (Lib.decodeL (l.drop n)).2) (ds ++ [((Lib.decodeL (l.drop n)).1 : Int)]) ov' w2 := by
  refine h.next hne hr ?_ hg
  have e : Lib.byteCells [CS.byteOf ((Lib.decodeL (l.drop n)).1 : Int)] = [.int .u8 ((Lib.decodeL (l.drop n)).1 : Int)] := by
    unfold Lib.byteCells CS.byteOf
    simp only [List.map_cons, List.map_nil, UInt8.toNat_ofNat', Int.toNat_natCast]
    rw [Nat.mod_eq_of_lt (by omega)]
  rw [outOf_snoc, if_neg hk, Lib.byteCells_append, List.length_append, e]
  exact hown

theorem EncW.finish {w : World} {k : Int} {l : L8} {ib : Nat} {ds : List Int} {ov : Value} {wr : World} (h : EncW w k l ib l.length ds ov wr) (hv : Lib.validD l = true) : fits k l = true ∧ outOf k ds = encOut k l := by
  have e : ds = runesL l := by
    have := h.runes
    rw [List.drop_length, runesL_nil, List.append_nil] at this
    exact this
  exact ⟨fits_yes e h.small, by rw [e]; exact outOf_all k l hv⟩

def AppQ (B : Nat) (v : Value) (n : Nat) (xs news : List Value) (w : World) (e : Ending) (w' : World) : Prop :=
  ∃ v', e = .returned v' ∧ w'.ownsRowF B 5 1 v' (n + news.length) (xs ++ news) ∧ ∃ o, (w.alloc o).grownBy w' v.ownBlock
theorem appendRune_q (B : Nat) (v : Value) (n : Nat) (xs : List Value) (r : Int) (hr0 : -2147483648 ≤ r) (hr1 : r ≤ 2147483647) (w : World) (hown : w.ownsRowF B 5 1 v n xs) (hlen : n + 4 ≤ 140737488355328) (hBw : B ≤ w.heap.size) :
    Calls Tryd.prog 26 #[v, .int .i32 r] w (AppQ B v n xs (Lib.runeCells r) w) := Tryd.utf8_AppendRune_row B v n xs r hr0 hr1 w hown hlen hBw

theorem Encode_kind (k : Int) (hk : okKind k = false) (l : L8) (w : World) : Calls Tryd.prog 14 #[.string (arr l), .int .i64 k] w (EncP w k l) := by
  have C := Lib.hid (fun w => greatest_any k w)
  rw [hk] at C
  have F := Lib.hid (EncP.err (w := w) (w' := w) (encE_kind (l := l) hk) (by decide) (Below.refl _ _))
  clear hk
  go_enter Tryd.func14, Tryd.ntmps14
  go_wp2_with (go_at_call 18; refine (C.out _).mono ?_; rintro e w' ⟨rfl, rfl⟩)
  go_ret2
  exact F.out

theorem Encode_form (k : Int) (hk : okKind k = true) (l : L8) (hl : l.length ≤ 9223372036854775807) (hv : Lib.validD l = false) (w : World) (hT : Lib.Utf8Tabs 0 1 w) : Calls Tryd.prog 14 #[.string (arr l), .int .i64 k] w (EncP w k l) := by
  have C := Lib.hid (fun w => greatest_any k w)
  rw [hk] at C
  have V := Lib.hid (valid_any (arr l) w (by rw [arr_size]; exact hl) hT)
  rw [show Lib.validD (arr l).data.toList = false from hv] at V
  have F := Lib.hid (fun w' => EncP.err (w := w) (w' := w') (encE_form hk hv) (by decide))
  clear hk hv hT
  go_enter Tryd.func14, Tryd.ntmps14
  go_wp2_with (first | (go_at_call 18; refine (C.out _).mono ?_; rintro e w' ⟨rfl, rfl⟩) | (go_at_call 25; refine V.out.mono ?_))
  rintro e w' ⟨rfl, hb⟩
  have F := Lib.hid (F.out w' hb)
  clear hb
  go_wp2
  go_ret2
  exact F.out

theorem most_bd (k : Int) : 0 ≤ most k ∧ most k ≤ 1114111 := by
  unfold most
  repeat' split
  all_goals omega

set_option maxHeartbeats 2000000 in
set_option maxRecDepth 100000 in
theorem Encode_main (k : Int) (hk : okKind k = true) (l : L8) (hl : l.length ≤ 1048576) (hv : Lib.validD l = true) (w : World) (hT : Lib.Utf8Tabs 0 1 w) : Calls Tryd.prog 14 #[.string (arr l), .int .i64 k] w (EncP w k l) := by
  have C := Lib.hid (fun w => greatest_any k w)
  rw [hk] at C
  have V := Lib.hid (valid_any (arr l) w (by rw [arr_size]; omega) hT)
  rw [show Lib.validD (arr l).data.toList = true from hv] at V
  have hsz : (arr l).size = l.length := arr_size l
  have HSZ := Lib.hid hsz
  have hmb := most_bd k
  obtain ⟨hm0, hm1⟩ := hmb
  have F1 := Lib.hid (fun w' hf => EncP.err (w := w) (w' := w') (encE_char hk hv hf) (by decide))
  have F2 := Lib.hid (fun w' hf hs => EncP.err (w := w) (w' := w') (encE_size hk hv hf hs) (by decide))
  have F3 := Lib.hid (fun w' v hf hs => EncP.fine (w := w) (w' := w') (v := v) (encE_ok hk hv hf hs))
  have FE := Lib.hid (fun ib ds ov wr (h : EncW w k l ib l.length ds ov wr) => h.finish hv)
  obtain ⟨j0, hj, hy0, hy1, hy2⟩ := info_parts info5
  have HJ0 := Lib.hid hj; have HY0 := Lib.hid hy0; have HY1 := Lib.hid hy1; have HY2 := Lib.hid hy2
  have HK : Hid (k = 3 ∨ most k ≤ 255) := Lib.hid (by have := okKind_iff.1 hk; by_cases h : k = 3; exact Or.inl h; right; unfold most; repeat' split; all_goals omega)
  clear hk hv hT hj hy0 hy1 hy2 hsz
  generalize hLen : l.length = len at *
  have HL := Lib.hid hLen
  clear hLen
  go_enter Tryd.func14, Tryd.ntmps14
  go_wp2_with (first | (go_at_call 18; refine (C.out _).mono ?_; rintro e w' ⟨rfl, rfl⟩) | (go_at_call 25; refine V.out.mono ?_))
  rintro e w1 ⟨rfl, hb1⟩
  have HB1 := Lib.hid hb1
  have hsz1 := hb1.size
  clear hb1
  go_wp2
  have HS0 : Hid (∀ W, Below w.heap.size w W → W.heap[w1.heap.size]? = some (.stringIter (arr l) 0) → EncW w k l w1.heap.size 0 [] (.slice none 0 0) W) := Lib.hid (fun W hb hi => ⟨by simp, Nat.le_refl _, by simp, by rw [show outOf k [] = [] by unfold outOf; split <;> rfl]; exact World.ownsRowF_nil _ _ _ _, hi, hb, hsz1⟩)
  have HB2 := Lib.hid (fun o => HB1.out.alloc hsz1 o)
  go_loopw [8, 10] (fun ov _ wr => ∃ (n : Nat) (ds : List Int), n ≤ len ∧ Hid (EncW w k l w1.heap.size n ds ov wr)) (fun _ _ wr => len - wr.iterPos w1.heap.size)
  case atStart => exact ⟨0, [], Nat.zero_le _, Lib.hid (HS0.out _ (HB2.out _) (by simp only [World.iter_heap]))⟩
  case round =>
    obtain ⟨n, ds, hn, HW⟩ := hrel
    have hpos : wr.iterPos w1.heap.size = n := by unfold World.iterPos; rw [HW.out.it]
    have HPOS := Lib.hid hpos
    clear hpos
    by_cases hlt : n < len
    · have hne : l.drop n ≠ [] := by intro e; have := List.drop_eq_nil_iff.1 e; have := HL.out; omega
      have kn := fun ty => Lib.run_next_any_at (P := Tryd.prog) wr w1.heap.size (arr l) n ty HW.out.it (by rw [HSZ.out]; exact hlt)
      have hd : Utf8.decode (arr l) n = Lib.decodeL (l.drop n) := (Lib.decodeL_drop (arr l) n).symm
      rw [hd] at kn
      clear hd
      have hw := Lib.decodeL_width (l.drop n)
      have hle := Lib.decodeL_le (l.drop n) hne
      rw [List.length_drop, HL.out] at hle
      have hru := decode_rune (l.drop n)
      have hru2 : (((Lib.decodeL (l.drop n)).1 : Nat) : Int) ≤ 1114111 := by omega
      have few := HW.out.few
      have N3 := Lib.hid (fun hk hr ov' w2 o => HW.out.next3 (ov' := ov') (w2 := w2) (o := o) hk hne hr)
      have NB := Lib.hid (fun hk hr h255 ov' w2 o => HW.out.nextB (ov' := ov') (w2 := w2) (o := o) hk hne hr h255)
      have BI := Lib.hid (Lib.below_iterAt HW.out.bel HW.out.ge (arr l) (n + (Lib.decodeL (l.drop n)).2))
      have RI := Lib.hid (ownF_iterAt HW.out.row HW.out.it (n + (Lib.decodeL (l.drop n)).2))
      have NO := Lib.hid (fun hr => fits_no (k := k) (l := l) (ds := ds) (r := ((Lib.decodeL (l.drop n)).1 : Int)) (rest := runesL ((l.drop n).drop (Lib.decodeL (l.drop n)).2)) (by rw [← HW.out.runes, runesL_step _ hne]) hr)
      have ob := outOf_len k ds
      have hIS := Lib.iterAt_size wr w1.heap.size (arr l) (n + (Lib.decodeL (l.drop n)).2)
      have hbs := HW.out.bel.size
      have HIS := Lib.hid hIS
      clear hru hIS hne
      generalize (Lib.decodeL (l.drop n)).1 = R at *
      generalize (Lib.decodeL (l.drop n)).2 = N at *
      generalize hWX : wr.iterAt w1.heap.size (arr l) (n + N) = wx at *
      have HWX := Lib.hid hWX
      clear hWX
      have hbx := BI.out.size
      by_cases hgt : most k < (R : Int)
      · have F := Lib.hid (F1.out wx (NO.out hgt) BI.out)
        go_wp2
        go_ret2
        exact F.out
      · have hrm : (R : Int) ≤ most k := by omega
        by_cases h3 : k = 3
        · have q3 : (k == 3) = true := by simpa using h3
          have H3 := Lib.hid h3
          clear h3
          go_wp2_with (first | (go_at_call 26; refine (appendRune_q w.heap.size _ (outOf k ds).length (Lib.byteCells (outOf k ds)) (R : Int) (by omega) (by omega) wx RI.out (by omega) hbx).mono ?_) | fail)
          rintro e w2 ⟨ov', rfl, hown, o, hg⟩
          have HE := Lib.hid (N3.out H3.out hrm ov' w2 o hown hg)
          clear hown hg
          have hp2 : w2.iterPos w1.heap.size = n + N := by unfold World.iterPos; rw [HE.out.it]
          have HP2 := Lib.hid hp2
          clear hp2
          go_wp2
          exact ⟨⟨n + N, _, by omega, HE⟩, by rw [HPOS.out, HP2.out]; omega⟩
        · have q3 : (k == 3) = false := by simpa using h3
          have h255 : (R : Int) ≤ 255 := by rcases HK.out with h | h; exact absurd h h3; omega
          have H3 := Lib.hid h3
          clear h3
          go_wp2_with (at_builtin; refine wpList_append_ownF _ rfl _ _ 22 rfl w.heap.size 5 j0 (.int .u8 0) 1 1 Tryd.underlying22 HJ0.out HY0.out HY1.out HY2.out rfl (by decide) _ _ _ rfl (RI.out.alloc _) ⟨wx.heap.size, 0, none⟩ 1 1 [.int .u8 (R : Int)] rfl rfl ?c1 ?c2 ?c3 ?c4 ?c5 ?_)
          case c2 => simp [Value.oneCell']
          case c3 => unfold maxLen; omega
          case c4 => omega
          case c5 => omega
          intro ov' w2 hown hg _
          have HE := Lib.hid (NB.out H3.out hrm h255 ov' w2 _ hown hg)
          clear hown hg
          have hp2 : w2.iterPos w1.heap.size = n + N := by unfold World.iterPos; rw [HE.out.it]
          have HP2 := Lib.hid hp2
          clear hp2
          go_wp2
          exact ⟨⟨n + N, _, by omega, HE⟩, by rw [HPOS.out, HP2.out]; omega⟩
    · have hn' : n = len := by omega
      have HW' : Hid (EncW w k l w1.heap.size len ds u8 wr) := by rw [← hn']; exact HW
      have kn := fun ty => Lib.run_next_end_at (P := Tryd.prog) wr w1.heap.size (arr l) n ty HW.out.it (by rw [HSZ.out]; exact hlt)
      clear HW hn'
      have hfe := FE.out _ _ _ _ HW'.out
      obtain ⟨hf, ho⟩ := hfe
      have HF := Lib.hid hf
      have HO := Lib.hid ho
      have hrow := HW'.out.row
      rw [ho] at hrow
      have HR := Lib.hid (bslice_ownF hrow)
      obtain ⟨g, cap, hov, hlen⟩ : ∃ g cap, u8 = .slice g (encOut k l).length cap ∧ (encOut k l).length ≤ 9223372036854775807 := by
        have h1 : (encOut k l).length ≤ 9223372036854775807 := by
          rw [← ho]; have h2 := outOf_len k ds; have h3 := HW'.out.few; omega
        rcases hrow.2 with ⟨h, h0⟩ | ⟨g, cap, cur, fz, h, _⟩
        · exact ⟨none, 0, by rw [h, h0], h1⟩
        · exact ⟨_, cap, h, h1⟩
      subst hov
      clear hf ho hrow
      by_cases hbig : 65536 < (encOut k l).length
      · have F := Lib.hid (F2.out wr HF.out hbig HW'.out.bel)
        go_wp2
        go_ret2
        exact F.out
      · have F := Lib.hid (F3.out wr _ HF.out hbig HR.out HW'.out.bel)
        go_wp2
        go_ret2
        exact F.out

theorem Encode_any (k : Int) (l : L8) (hl : l.length ≤ 1048576) (w : World) (hT : Lib.Utf8Tabs 0 1 w) : Calls Tryd.prog 14 #[.string (arr l), .int .i64 k] w (EncP w k l) := by
  cases hk : okKind k
  · exact Encode_kind k hk l w
  · cases hv : Lib.validD l
    · exact Encode_form k hk l (by omega) hv w hT
    · exact Encode_main k hk l hl hv w hT

end Go.Proofs.YtmnoiknpamfmoaaDoor
