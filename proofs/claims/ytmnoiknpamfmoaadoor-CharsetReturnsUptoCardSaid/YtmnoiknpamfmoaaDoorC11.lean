import Derived.Test.YtmnoiknpamfmoaaDoorC10
import Derived.Lib.OwnKind
import Derived.Lib.AppendStr
import Derived.Laws.BytesArg
namespace Go.Proofs.YtmnoiknpamfmoaaDoor
open Go.RowKit CS

theorem info5 : (Tryd.prog.info? 5).map (fun i => (i.zero, i.size, i.bytes)) = some (some (.int .u8 0), 1, 1) := by kernel_rfl

theorem row_kept {w w' : World} {B B2 s1 s2 n1 n2 : Nat} {e1 e2 : TypeId} {v1 v2 : Value} {xs1 xs2 : List Value} (h1 : w.ownsRow B e1 s1 v1 n1 xs1) (h2 : w.ownsRow B2 e2 s2 v2 n2 xs2) (hne : e1 ≠ e2) (hg : w.grownBy w' v2.ownBlock) : w'.ownsRow B e1 s1 v1 n1 xs1 := by
  refine h1.kept hg ?_
  cases hv : v1.ownBlock with
  | none => exact Or.inl rfl
  | some g =>
    refine Or.inr (fun e => ?_)
    obtain ⟨c, fz, hc⟩ := Lib.ownsRow_kind h1 g hv
    obtain ⟨c', fz', hc'⟩ := Lib.ownsRow_kind h2 g e.symm
    rw [hc] at hc'
    simp only [Option.some.injEq, Obj.cells.injEq] at hc'
    exact hne hc'.2.1
theorem row_below {w w' : World} {B s n : Nat} {e : TypeId} {v : Value} {xs : List Value} (h : w.ownsRow B e s v n xs) (hb : Below w.heap.size w w') : w'.ownsRow B e s v n xs := by
  refine h.kept (row := none) (grown_below hb none) ?_
  cases v.ownBlock <;> simp

theorem conv_own {w : World} {B : Nat} {v : Value} {bs : L8} (h : w.ownsRow B 5 1 v bs.length (Lib.byteCells bs)) : (convert 22 9 v).run Tryd.prog w = .ok (.string (arr bs)) w := by
  rcases h.2 with ⟨rfl, hn⟩ | ⟨g, cap, cur, rfl, hbg, hg, hle, hcm, hcs, htake⟩
  · have : bs = [] := List.eq_nil_of_length_eq_zero hn
    subst this
    exact run_convert_bytes_nil (P := Tryd.prog) (w := w) 22 5 Tryd.underlying22 Tryd.underlying5 0 0 9 Tryd.underlying9
  · refine conv_str w bs g 0 _ cap rfl (fun j hj => ?_)
    have := h.cells (g := g) rfl j (.int .u8 (bs.getD j 0).toNat) (by simp [Lib.byteCells, List.getD, hj])
    rw [Go.WideShapes.add_plain] at this
    exact this

/-- The reference's loop: what holds at its head. -/
structure RefW (w : World) (k : Int) (l : L8) (n : Nat) (bs : L8) (ds : Dmg) (ov dv : Value) (wr : World) : Prop where
  out : bs ++ (dec k (l.drop n) n).1 = (dec k (l.drop (CS.start k l)) (CS.start k l)).1
  dmg : ds ++ (dec k (l.drop n) n).2 = (dec k (l.drop (CS.start k l)) (CS.start k l)).2
  brow : wr.ownsRow w.heap.size 5 1 ov bs.length (Lib.byteCells bs)
  row : wr.ownsRow w.heap.size 32 2 dv ds.length (dcells ds)
  lb : bs.length ≤ 4 * n
  ld : ds.length ≤ n
  bel : Below w.heap.size w wr

theorem RefW.start {w w' : World} {k : Int} {l : L8} {s : Nat} (hs : CS.start k l = s) (hb : Below w.heap.size w w') : RefW w k l s [] [] (.slice none 0 0) (.slice none 0 0) w' := by
  subst hs
  exact ⟨rfl, rfl, World.ownsRow_nil _ _ _ _, World.ownsRow_nil _ _ _ _, Nat.zero_le _, Nat.zero_le _, hb⟩

theorem RefW.ok {w : World} {k : Int} {l : L8} {n : Nat} {bs : L8} {ds : Dmg} {ov ov' dv : Value} {wr w1 w2 : World} (h : RefW w k l n bs ds ov dv wr) (hne : l.drop n ≠ []) (ho : nextOk k (l.drop n) = true)
    (hb1 : Below wr.heap.size wr w1) (hg : w1.grownBy w2 ov.ownBlock) (hown : w2.ownsRow w.heap.size 5 1 ov' (bs.length + (Lib.encodeRune (nextR k (l.drop n))).length) (Lib.byteCells bs ++ Lib.byteCells (Lib.encodeRune (nextR k (l.drop n))))) :
    RefW w k l (n + nextN k (l.drop n)) (bs ++ Lib.encodeRune (nextR k (l.drop n))) ds ov' dv w2 := by
  have e := dec_at k l n hne
  rw [if_pos ho] at e
  have hN := nextN_pos k (l.drop n)
  have h4 := enc_le4 (nextR k (l.drop n))
  refine ⟨?_, ?_, ?_, ?_, ?_, ?_, ?_⟩
  · rw [← h.out, e]; simp
  · rw [← h.dmg, e]
  · rw [Lib.byteCells_append, List.length_append]; exact hown
  · exact row_kept (row_below h.row hb1) (row_below h.brow hb1) (by decide) hg
  · have := h.lb; rw [List.length_append]; omega
  · have := h.ld; omega
  · exact (h.bel.trans (hb1.mono h.bel.size)).grown hg (Nat.le_trans h.bel.size hb1.size) (fun q hq => ((row_below h.brow hb1).lt q hq).1)

theorem RefW.bad {w : World} {k : Int} {l : L8} {n : Nat} {bs : L8} {ds : Dmg} {ov ov' dv dv' : Value} {wr w1 w2 w3 : World} {o : Obj} (h : RefW w k l n bs ds ov dv wr) (hne : l.drop n ≠ []) (ho : nextOk k (l.drop n) = false)
    (hb1 : Below wr.heap.size wr w1) (hown : w2.ownsRow w.heap.size 32 2 dv' (ds.length + 1) (dcells ds ++ [.int .i64 n, .int .i64 (l.getD n 0).toNat])) (hg : (w1.alloc o).grownBy w2 dv.ownBlock)
    (hg3 : w2.grownBy w3 ov.ownBlock) (hown3 : w3.ownsRow w.heap.size 5 1 ov' (bs.length + 3) (Lib.byteCells bs ++ Lib.byteCells [239, 191, 189])) :
    RefW w k l (n + nextN k (l.drop n)) (bs ++ [239, 191, 189]) (ds ++ [((n : Int), ((l.getD n 0).toNat : Int))]) ov' dv' w3 := by
  have e := dec_at k l n hne
  rw [if_neg (by simp [ho])] at e
  have hN := nextN_pos k (l.drop n)
  have hb : w2.ownsRow w.heap.size 5 1 ov bs.length (Lib.byteCells bs) := row_kept ((row_below h.brow hb1).alloc o) ((row_below h.row hb1).alloc o) (by decide) hg
  have hbel1 : Below w.heap.size w w1 := h.bel.trans (hb1.mono h.bel.size)
  have hbel2 : Below w.heap.size w w2 := (hbel1.alloc hbel1.size o).grown hg (by have := hbel1.size; simp; omega) (fun q hq => (((row_below h.row hb1).alloc o).lt q hq).1)
  refine ⟨?_, ?_, ?_, ?_, ?_, ?_, ?_⟩
  · rw [← h.out, e, enc_bad]; simp
  · rw [← h.dmg, e]; simp
  · rw [Lib.byteCells_append, List.length_append]; exact hown3
  · rw [List.length_append, List.length_singleton, dcells_app]
    exact row_kept hown hb (by decide) hg3
  · have := h.lb; rw [List.length_append]; simp; omega
  · have := h.ld; rw [List.length_append, List.length_singleton]; omega
  · exact hbel2.grown hg3 hbel2.size (fun q hq => (hb.lt q hq).1)

theorem RefW.rows2 {w : World} {k : Int} {l : L8} {n : Nat} {bs : L8} {ds : Dmg} {ov dv : Value} {wr w1 w2 : World} {o : Obj} (h : RefW w k l n bs ds ov dv wr)
    (hb1 : Below wr.heap.size wr w1) (hg : (w1.alloc o).grownBy w2 dv.ownBlock) : w2.ownsRow w.heap.size 5 1 ov bs.length (Lib.byteCells bs) ∧ w.heap.size ≤ w2.heap.size := by
  refine ⟨row_kept ((row_below h.brow hb1).alloc o) ((row_below h.row hb1).alloc o) (by decide) hg, ?_⟩
  have h1 := h.bel.size
  have h2 := hb1.size
  have h3 := hg.size
  simp at h3
  omega

theorem RefW.finish {w : World} {k : Int} {l : L8} {bs : L8} {ds : Dmg} {ov dv : Value} {wr : World} (h : RefW w k l l.length bs ds ov dv wr) :
    DecQ w k l (.returned (.tuple #[.string (arr bs), dv, .int .i64 0])) wr := by
  have e1 := h.out
  have e2 := h.dmg
  rw [List.drop_length, dec_nil] at e1 e2
  simp only [List.append_nil] at e1 e2
  refine ⟨dv, by rw [e1], ?_, h.bel⟩
  rw [← e2]
  exact dam_of h.row

theorem strCells_arr (l : L8) : Lib.strCells (arr l) = Lib.byteCells l := rfl

set_option maxHeartbeats 2000000 in
set_option maxRecDepth 100000 in
theorem rDecode_plain (k : Int) (hk : k = 1 ∨ k = 2) (l : L8) (b off cap : Nat) (hl : l.length ≤ 65536) (_hcap : l.length ≤ cap) (w : World) (hp : Bytes w b off l) :
    Calls Tryd.prog 9 #[.slice (some ⟨b, off, none⟩) l.length cap, .int .i64 k] w (DecQ w k l) := by
  have hk1 : 1 ≤ k := by omega
  have hk3 : k ≤ 3 := by omega
  have q3 : (k == 3) = false := by rcases hk with rfl | rfl <;> rfl
  have hs : CS.start k l = 0 := by unfold CS.start; rw [if_neg]; rintro ⟨rfl, _⟩; omega
  have HP := Lib.hid hp
  have FIN := Lib.hid (fun bs ds ov dv wr => RefW.finish (w := w) (k := k) (l := l) (bs := bs) (ds := ds) (ov := ov) (dv := dv) (wr := wr))
  obtain ⟨i0, hi, hz0, hz1, hz2⟩ := info_parts info32
  have HI0 := Lib.hid hi; have HZ0 := Lib.hid hz0; have HZ1 := Lib.hid hz1; have HZ2 := Lib.hid hz2
  obtain ⟨j0, hj, hy0, hy1, hy2⟩ := info_parts info5
  have HJ0 := Lib.hid hj; have HY0 := Lib.hid hy0; have HY1 := Lib.hid hy1; have HY2 := Lib.hid hy2
  have HS0 := Lib.hid hs
  have HK := Lib.hid hk
  clear hi hz0 hz1 hz2 hj hy0 hy1 hy2 hp hs hk
  generalize hL : l.length = len at *
  have HL := Lib.hid hL
  clear hL
  go_enter Tryd.func9, Tryd.ntmps9
  go_wp2
  go_loopw [7, 8, 9, 10] (fun ov dv i _ wr => ∃ (n : Nat) (bs : L8) (ds : Dmg), n ≤ len ∧ i = .int .i64 n ∧ Hid (RefW w k l n bs ds ov dv wr)) (fun _ _ i _ _ => len - (intOf i).toNat)
  case atStart => exact ⟨0, [], [], by omega, rfl, Lib.hid (RefW.start HS0.out (Below.refl _ _))⟩
  case round =>
    obtain ⟨n, bs, ds, hn, rfl, HW⟩ := hrel
    by_cases hlt : n < len
    · have lb := HW.out.lb
      have ld := HW.out.ld
      have hsz := HW.out.bel.size
      have hne : l.drop n ≠ [] := by intro e; have := List.drop_eq_nil_iff.1 e; have := HL.out; omega
      have cx : wr.cell? ⟨b, off + n, none⟩ = some (.int .u8 (l.getD n 0).toNat) := (HP.out.below HW.out.bel) n (by rw [HL.out]; exact hlt)
      have hbx : ((l.getD n 0).toNat : Int) < 256 := by have := (l.getD n 0).toNat_lt; omega
      have W1 := Lib.hid (fun (ho : nextOk k (l.drop n) = true) (ov' : Value) (w2 : World) => HW.out.ok (ov' := ov') (w1 := wr) (w2 := w2) hne ho (Below.refl _ _))
      have W2 := Lib.hid (fun (ho : nextOk k (l.drop n) = false) (ov' dv' : Value) (o : Obj) (w2 w3 : World) => HW.out.bad (ov' := ov') (dv' := dv') (o := o) (w1 := wr) (w2 := w2) (w3 := w3) hne ho (Below.refl _ _))
      have W3 := Lib.hid (fun (o : Obj) (w2 : World) => HW.out.rows2 (o := o) (w1 := wr) (w2 := w2) (Below.refl _ _))
      have hN : Hid (nextN k (l.drop n) = 1) := Lib.hid (by unfold nextN; rw [if_neg (by intro h; subst h; simp at q3)])
      have hR : Hid (nextR k (l.drop n) = ((l.getD n 0).toNat : Int)) := Lib.hid (by unfold nextR; rw [if_neg (by intro h; subst h; simp at q3), getD_drop]; rfl)
      have hO : Hid (nextOk k (l.drop n) = (k == 2 || decide ((l.getD n 0).toNat ≤ 127))) := Lib.hid (by unfold nextOk; rw [if_neg (by intro h; subst h; simp at q3), getD_drop]; rfl)
      have hx0 : 0 ≤ ((l.getD n 0).toNat : Int) := by omega
      have hE : Hid (Utf8.encode ((l.getD n 0).toNat : Int) = arr (Lib.encodeRune ((l.getD n 0).toNat : Int))) := Lib.hid (encode_enc _ ⟨hx0, by omega⟩)
      have hE4 := enc_le4 ((l.getD n 0).toNat : Int)
      have hbr := Lib.hid HW.out.brow
      have hdr := Lib.hid HW.out.row
      rw [hN.out] at W1 W2
      rw [hR.out] at W1
      have hX : Hid (((l.getD n 0).toNat ≤ 127) ↔ (((l.getD n 0).toNat : Int) ≤ 127)) := Lib.hid (by omega)
      generalize hX' : ((l.getD n 0).toNat : Int) = X at *
      have HX := Lib.hid hX'
      clear hX'
      have ap : ∀ w2 : World, True := fun _ => trivial
      clear ap
      by_cases hok : X < 128 ∨ k = 2
      · have HOK : Hid (nextOk k (l.drop n) = true) := Lib.hid (by
          rw [hO.out, Bool.or_eq_true, beq_iff_eq, decide_eq_true_eq]
          rcases hok with h | h
          · right; exact hX.out.2 (by omega)
          · left; exact h)
        rcases (show X < 128 ∨ (128 ≤ X ∧ k = 2) from by omega) with h | ⟨h, h'⟩
        · clear hok
          go_wp2_with (at_builtin; refine Lib.wpList_append_own_string _ rfl _ _ 22 9 rfl w.heap.size 5 j0 Tryd.underlying22 Tryd.underlying9 HJ0.out HY0.out HY1.out HY2.out _ _ _ rfl hbr.out _ rfl ?c1 ?c2 ?c3 ?_)
          case c1 => rw [hE.out, arr_size]; unfold maxLen; omega
          case c2 => rw [hE.out, arr_size]; omega
          case c3 => omega
          intro ov2 w2 hown2 hgrow2 _
          rw [hE.out, arr_size, strCells_arr] at hown2
          have HW2 := Lib.hid (W1.out HOK.out ov2 w2 hgrow2 hown2)
          clear hown2 hgrow2
          go_wp2
          go_round
          case rel => exact ⟨n + 1, _, _, by omega, by go_num, HW2⟩
          case measure => simp [intOf]; omega
        · have q2 : (k == 2) = true := by simpa using h'
          have q1 : decide (X < 128) = false := by simp; omega
          clear hok h'
          go_wp2_with (at_builtin; refine Lib.wpList_append_own_string _ rfl _ _ 22 9 rfl w.heap.size 5 j0 Tryd.underlying22 Tryd.underlying9 HJ0.out HY0.out HY1.out HY2.out _ _ _ rfl hbr.out _ rfl ?d1 ?d2 ?d3 ?_)
          case d1 => rw [hE.out, arr_size]; unfold maxLen; omega
          case d2 => rw [hE.out, arr_size]; omega
          case d3 => omega
          intro ov2 w2 hown2 hgrow2 _
          rw [hE.out, arr_size, strCells_arr] at hown2
          have HW2 := Lib.hid (W1.out HOK.out ov2 w2 hgrow2 hown2)
          clear hown2 hgrow2
          go_wp2
          go_round
          case rel => exact ⟨n + 1, _, _, by omega, by go_num, HW2⟩
          case measure => simp [intOf]; omega
      · have h1 : 128 ≤ X := by omega
        have q2 : (k == 2) = false := by simp; omega
        have q1 : decide (X < 128) = false := by simp; omega
        have HOK : Hid (nextOk k (l.drop n) = false) := Lib.hid (by
          rw [hO.out, q2, Bool.false_or, decide_eq_false_iff_not]
          intro h; have := hX.out.1 h; omega)
        clear hok
        have hdl : ds.length + 1 ≤ 70000 := by omega
        go_wp2_with (at_builtin; refine wpList_append_own _ rfl _ _ 23 rfl w.heap.size 32 i0 (.agg #[.int .i64 0, .int .i64 0]) 2 16 Tryd.underlying23 HI0.out HZ0.out HZ1.out HZ2.out rfl (by decide) _ _ _ rfl (hdr.out.alloc _) ⟨wr.heap.size, 0, none⟩ 1 1 [.int .i64 n, .int .i64 X] rfl rfl ?e1 ?e2 ?e3 ?e4 ?e5 ?_)
        case e1 =>
          intro j u hj
          rw [Go.WideShapes.add_plain, World.cell?_alloc_at _ _ _ _ rfl]
          match j, hj with
          | 0, hj => simpa using hj
          | 1, hj => simpa using hj
          | j + 2, hj => simp at hj
        case e2 => simp [Value.oneCell']
        case e3 => unfold maxLen; omega
        case e4 => omega
        case e5 => simp; omega
        intro dv2 w2 hown2 hgrow2 _
        have HR := Lib.hid (W3.out _ _ hgrow2)
        have HO2 := Lib.hid hown2
        have HG2 := Lib.hid hgrow2
        clear hown2 hgrow2
        have hz2 := HR.out.2
        go_wp2_with (at_builtin; refine Lib.wpList_append_own_string _ rfl _ _ 22 9 rfl w.heap.size 5 j0 Tryd.underlying22 Tryd.underlying9 HJ0.out HY0.out HY1.out HY2.out _ _ _ rfl HR.out.1 _ rfl ?f1 ?f2 ?f3 ?_)
        case f1 => show bs.length + 3 ≤ _; unfold maxLen; omega
        case f2 => show bs.length + 3 ≤ _; omega
        case f3 => exact hz2
        intro ov2 w3 hown3 hgrow3 _
        have HW2 := Lib.hid (W2.out HOK.out ov2 dv2 _ w2 w3 HO2.out HG2.out hgrow3 hown3)
        clear hown3 hgrow3
        go_wp2
        go_round
        case rel => exact ⟨n + 1, _, _, by omega, by go_num, HW2⟩
        case measure => simp [intOf]; omega
    · have hn' : n = len := by omega
      have HW' : Hid (RefW w k l len bs ds u7 u8 wr) := by rw [← hn']; exact HW
      clear HW hn'
      have k1 := conv_own HW'.out.brow
      have F := Lib.hid (FIN.out _ _ _ _ _ HW'.out)
      go_wp2
      go_ret3
      exact F.out

end Go.Proofs.YtmnoiknpamfmoaaDoor
