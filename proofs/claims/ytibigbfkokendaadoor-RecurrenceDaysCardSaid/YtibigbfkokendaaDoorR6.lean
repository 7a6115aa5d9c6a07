/- Series: the days of a series, of the reference. -/
import Derived.Test.YtibigbfkokendaaDoorR5
namespace Go.Proofs.YtibigbfkokendaaDoor
open Go.RowKit TT

theorem Tryd.infoInt : (Tryd.prog.info? 3).map (fun i => (i.zero, i.size, i.bytes)) = some (some (.int .i64 0), 1, 8) := by kernel_rfl
theorem rowSnoc {w2 : World} {B : Nat} {v' : Value} {L : List Int} {x : Int}
    (hown' : w2.ownsRow B 3 1 v' (L.length + 1) (L.map (Value.int .i64) ++ [.int .i64 x])) : w2.ownsRow B 3 1 v' (L ++ [x]).length ((L ++ [x]).map (Value.int .i64)) := by
  simpa using hown'
/-- a slice of integers that the call made from block B on -/
abbrev Row (w : World) (B : Nat) (v : Value) (L : List Int) : Prop := w.ownsRow B 3 1 v L.length (L.map (Value.int .i64))
theorem Row.ints {w : World} {B : Nat} {v : Value} {L : List Int} (h : Row w B v L) : Ints w v L := by
  obtain ⟨a, cap, h1, h2⟩ := IntsAt.of_owns h
  exact ⟨a, cap, h1, h2⟩
theorem SC.grow {w0 w w2 : World} {B : Nat} {f l e k : Int} {a : Option Addr} {n c : Nat} {b : Option Addr} {m q : Nat} {xs ys : List Int} (h : SC w0 w B f l e k a n c b m q xs ys) (hB : B = w0.heap.size) (hx : IntsAt w0 a n xs) (hy : IntsAt w0 b m ys) (hb : Below (B + 1) w w2) : SC w0 w2 B f l e k a n c b m q xs ys := by
  have ce : ∀ o, w2.cell? ⟨B, o, none⟩ = w.cell? ⟨B, o, none⟩ := fun o => hb.cell (p := ⟨B, o, none⟩) (by simp)
  have bl : Below w0.heap.size w0 w2 := h.bl.trans (hb.mono (by omega))
  exact ⟨(ce 0).trans h.c0, (ce 1).trans h.c1, (ce 2).trans h.c2, (ce 3).trans h.c3, (ce 4).trans h.c4, (ce 5).trans h.c5, hx.below bl, hy.below bl, Nat.lt_of_lt_of_le h.sz hb.size, bl⟩

theorem row_base {w : World} {B B2 : Nat} {e : TypeId} {size : Nat} {v : Value} {n : Nat} {xs : List Value} (h : w.ownsRow B e size v n xs) (hB : B2 ≤ B) : w.ownsRow B2 e size v n xs := by
  obtain ⟨h1, h2⟩ := h
  refine ⟨h1, ?_⟩
  rcases h2 with h2 | ⟨g, cap, cur, hv, hg, r⟩
  · exact Or.inl h2
  · exact Or.inr ⟨g, cap, cur, hv, Nat.le_trans hB hg, r⟩

theorem int_eq {a b : Int} (h : a = b) : Value.int .i64 a = Value.int .i64 b := by rw [h]

/-- what Days hands back: a slice of its own with the days -/
def DaysP (L : List Int) (w : World) (e : Ending) (w' : World) : Prop := ∃ v, e = .returned v ∧ Row w' w.heap.size v L ∧ Below w.heap.size w w'

set_option maxHeartbeats 2000000 in
theorem rdays_any (f l e k : Int) (a : Option Addr) (n c : Nat) (b : Option Addr) (m q : Nat) (xs ys : List Int) (w : World) (hx : IntsAt w a n xs) (hy : IntsAt w b m ys) (hs : n + m ≤ 9223372036854775807) :
    Calls Tryd.prog 20 #[serV f l e k a n c b m q] w (DaysP (daysO f l e k xs ys) w) := by
  have HS := Lib.hid (SC.mk0 (w := w) (f := f) (l := l) (e := e) (k := k) (c := c) (q := q) 30 hx hy)
  have HX := Lib.hid hx
  have HY := Lib.hid hy
  clear hx hy
  by_cases hv : vlE f l e k xs ys = 0
  rotate_left
  · have hd : Hid (daysO f l e k xs ys = []) := Lib.hid (by unfold daysO; rw [if_neg hv])
    have hv' : (vlE f l e k xs ys != 0) = true := by simpa using hv
    clear hv
    go_enter Tryd.func20, Tryd.ntmps20
    go_wp2_with fail
    obtain ⟨c0, c1, c2, c3, c4, c5, _, _, sz, _⟩ := HS.out
    go_wp2_with (go_at_call 19; refine (rvalid_any f l e k a n c b m q xs ys _ HS.out.xa HS.out.ya hs).mono ?_; rintro e w1 ⟨rfl, hb⟩)
    go_ret
    exact ⟨_, rfl, by rw [hd.out]; exact World.ownsRow_nil _ _ _ _, (HS.out.next hb).bl⟩
  have hd : Hid (daysO f l e k xs ys = daysS f l e k xs ys) := Lib.hid (by unfold daysO; rw [if_pos hv])
  obtain ⟨h0, _⟩ := vlE_inv hv
  obtain ⟨o1, o2, h3, h4, e1, e2, k1, k2, hsz⟩ := vl0_inv h0
  obtain ⟨f1, f2⟩ := okDay_of o1
  obtain ⟨l1, l2⟩ := okDay_of o2
  have HV := Lib.hid hv
  have hv' : (vlE f l e k xs ys != 0) = false := by simpa using hv
  clear hv o1 o2 h0 hsz
  obtain ⟨i0, hi, hz0, hz1, hz2⟩ := info_parts Tryd.infoInt
  have HI0 := Lib.hid hi; have HZ0 := Lib.hid hz0; have HZ1 := Lib.hid hz1; have HZ2 := Lib.hid hz2
  clear hi hz0 hz1 hz2
  go_enter Tryd.func20, Tryd.ntmps20
  go_wp2_with fail
  obtain ⟨c0, c1, c2, c3, c4, c5, _, _, sz, _⟩ := HS.out
  go_wp2_with fail
  refine (rvalid_any f l e k a n c b m q xs ys _ HS.out.xa HS.out.ya hs).mono ?_
  rintro e w1 ⟨rfl, hb⟩
  have HS1 := Lib.hid (HS.out.next hb)
  clear c0 c1 c2 c3 c4 c5 sz
  obtain ⟨c0, c1, c2, c3, c4, c5, _, _, sz, _⟩ := HS1.out
  go_wp2_with fail
  go_loopw [3, 4] (fun v d wr => ∃ j : Nat, f + j ≤ l + 1 ∧ d = .int .i64 (f + j) ∧ Row wr (w.heap.size + 1) v ((rng f j).filter (dayP f l e k xs ys)) ∧ SC w wr w.heap.size f l e k a n c b m q xs ys) (fun _ d _ => (l + 1 - intOf d).toNat)
  case atStart => exact ⟨0, by omega, by simp, World.ownsRow_nil _ _ _ _, HS1.out⟩
  case round =>
    clear HS1 hb c0 c1 c2 c3 c4 c5 sz HS
    obtain ⟨j, hj, rfl, hR, hW⟩ := hrel
    obtain ⟨c0, c1, c2, c3, c4, c5, _, _, sz, _⟩ := id hW
    have HW := Lib.hid hW
    have HO := Lib.hid hR
    clear hW hR
    have hlen := filter_len (dayP f l e k xs ys) f j
    by_cases hlt : f + j ≤ l
    · have hhit := Lib.hid (fun h => filter_hit (p := dayP f l e k xs ys) (f := f) (n := j) h)
      have hmiss := Lib.hid (fun h => filter_miss (p := dayP f l e k xs ys) (f := f) (n := j) h)
      have HP : Hid (dayP f l e k xs ys (f + j) = ((regB f l e k (f + j) && !(hasI xs (f + j))) || hasI ys (f + j))) := Lib.hid rfl
      generalize hL : (rng f j).filter (dayP f l e k xs ys) = L at *
      clear hL
      obtain ⟨x, hxj⟩ : ∃ x : Int, x = f + j := ⟨_, rfl⟩
      have HXJ := Lib.hid hxj
      rw [← hxj] at hhit hmiss HP hlt ⊢
      have HJ := Lib.hid hj
      have hx0 : 0 ≤ x := by omega
      clear hxj hj
      cases hr : regB f l e k x <;> cases hxs : hasI xs x <;> cases hys : hasI ys x
      · -- regular 0, taken out 0, put in 0
        have hm : Hid ((rng f (j + 1)).filter (dayP f l e k xs ys) = L) := Lib.hid (hmiss.out (by rw [HP.out, hr, hxs, hys]; rfl))
        clear hhit hmiss
        go_wp2_with (first
        | (go_at_call 39; refine (rregular_any f l e k x a n c b m q _ f1 l2 e1 e2 k1 k2).mono ?_; rintro e w1 ⟨rfl, hb1⟩; rw [hr]; have HW1 := Lib.hid (HW.out.next hb1); obtain ⟨c0, c1, c2, c3, c4, c5, _, _, sz, _⟩ := HW1.out)
        | (go_at_call 40; refine (rin_any _ _ _ _ x _ (by first | exact HW1.out.xa | exact HW1.out.ya)).mono ?_; rintro e w9 ⟨rfl, rfl⟩; first | rw [hxs] | rw [hys]))
        go_roundw
        case rel => exact ⟨j + 1, by have := HXJ.out; omega, int_eq (by have := HXJ.out; omega), by rw [hm.out]; exact row_below HO.out hb1, HW1.out⟩
        case measure => have := HXJ.out; simp [intOf]; omega
      · -- regular 0, taken out 0, put in 1
        have hm : Hid ((rng f (j + 1)).filter (dayP f l e k xs ys) = L ++ [x]) := Lib.hid (by rw [hhit.out (by rw [HP.out, hr, hxs, hys]; rfl), HXJ.out])
        clear hhit hmiss
        go_wp2_with (first
        | (go_at_call 39; refine (rregular_any f l e k x a n c b m q _ f1 l2 e1 e2 k1 k2).mono ?_; rintro e w1 ⟨rfl, hb1⟩; rw [hr]; have HW1 := Lib.hid (HW.out.next hb1); obtain ⟨c0, c1, c2, c3, c4, c5, _, _, sz, _⟩ := HW1.out)
        | (go_at_call 40; refine (rin_any _ _ _ _ x _ (by first | exact HW1.out.xa | exact HW1.out.ya)).mono ?_; rintro e w9 ⟨rfl, rfl⟩; first | rw [hxs] | rw [hys])
        | (at_builtin; refine wpList_append_own _ rfl _ _ 22 rfl (w.heap.size + 1) 3 i0 (.int .i64 0) 1 8 Tryd.underlying22 HI0.out HZ0.out HZ1.out HZ2.out rfl (by decide) _ _ _ rfl ((row_below HO.out hb1).alloc _) ⟨w1.heap.size, 0, none⟩ 1 1 [.int .i64 x] rfl rfl ?c1 ?c2 ?c3 ?c4 ?c5 ?_))
        case c1 =>
          intro j u hj
          match j, hj with
          | 0, hj => simp at hj; subst hj; simp [Addr.add]
        case c2 => intro u hu; simp at hu; subst hu; rfl
        case c3 => have := HJ.out; unfold maxLen; omega
        case c4 => have := HJ.out; omega
        case c5 => simp; omega
        intro v' w2 hown' hgrow _
        have hown2 := Lib.hid (rowSnoc hown')
        have hB2 : Hid (Below (w.heap.size + 1) w1 w2) := Lib.hid (((Below.refl _ w1).alloc (by omega) _).grown hgrow (by simp; omega) (fun q hq => ((row_below HO.out hb1).lt q hq).1))
        clear hown' hgrow
        go_wp2
        go_roundw
        case rel => exact ⟨j + 1, by have := HXJ.out; omega, int_eq (by have := HXJ.out; omega), by rw [hm.out]; exact hown2.out, HW1.out.grow rfl HX.out HY.out hB2.out⟩
        case measure => have := HXJ.out; simp [intOf]; omega
      · -- regular 0, taken out 1, put in 0
        have hm : Hid ((rng f (j + 1)).filter (dayP f l e k xs ys) = L) := Lib.hid (hmiss.out (by rw [HP.out, hr, hxs, hys]; rfl))
        clear hhit hmiss
        go_wp2_with (first
        | (go_at_call 39; refine (rregular_any f l e k x a n c b m q _ f1 l2 e1 e2 k1 k2).mono ?_; rintro e w1 ⟨rfl, hb1⟩; rw [hr]; have HW1 := Lib.hid (HW.out.next hb1); obtain ⟨c0, c1, c2, c3, c4, c5, _, _, sz, _⟩ := HW1.out)
        | (go_at_call 40; refine (rin_any _ _ _ _ x _ (by first | exact HW1.out.xa | exact HW1.out.ya)).mono ?_; rintro e w9 ⟨rfl, rfl⟩; first | rw [hxs] | rw [hys]))
        go_roundw
        case rel => exact ⟨j + 1, by have := HXJ.out; omega, int_eq (by have := HXJ.out; omega), by rw [hm.out]; exact row_below HO.out hb1, HW1.out⟩
        case measure => have := HXJ.out; simp [intOf]; omega
      · -- regular 0, taken out 1, put in 1
        have hm : Hid ((rng f (j + 1)).filter (dayP f l e k xs ys) = L ++ [x]) := Lib.hid (by rw [hhit.out (by rw [HP.out, hr, hxs, hys]; rfl), HXJ.out])
        clear hhit hmiss
        go_wp2_with (first
        | (go_at_call 39; refine (rregular_any f l e k x a n c b m q _ f1 l2 e1 e2 k1 k2).mono ?_; rintro e w1 ⟨rfl, hb1⟩; rw [hr]; have HW1 := Lib.hid (HW.out.next hb1); obtain ⟨c0, c1, c2, c3, c4, c5, _, _, sz, _⟩ := HW1.out)
        | (go_at_call 40; refine (rin_any _ _ _ _ x _ (by first | exact HW1.out.xa | exact HW1.out.ya)).mono ?_; rintro e w9 ⟨rfl, rfl⟩; first | rw [hxs] | rw [hys])
        | (at_builtin; refine wpList_append_own _ rfl _ _ 22 rfl (w.heap.size + 1) 3 i0 (.int .i64 0) 1 8 Tryd.underlying22 HI0.out HZ0.out HZ1.out HZ2.out rfl (by decide) _ _ _ rfl ((row_below HO.out hb1).alloc _) ⟨w1.heap.size, 0, none⟩ 1 1 [.int .i64 x] rfl rfl ?c1 ?c2 ?c3 ?c4 ?c5 ?_))
        case c1 =>
          intro j u hj
          match j, hj with
          | 0, hj => simp at hj; subst hj; simp [Addr.add]
        case c2 => intro u hu; simp at hu; subst hu; rfl
        case c3 => have := HJ.out; unfold maxLen; omega
        case c4 => have := HJ.out; omega
        case c5 => simp; omega
        intro v' w2 hown' hgrow _
        have hown2 := Lib.hid (rowSnoc hown')
        have hB2 : Hid (Below (w.heap.size + 1) w1 w2) := Lib.hid (((Below.refl _ w1).alloc (by omega) _).grown hgrow (by simp; omega) (fun q hq => ((row_below HO.out hb1).lt q hq).1))
        clear hown' hgrow
        go_wp2
        go_roundw
        case rel => exact ⟨j + 1, by have := HXJ.out; omega, int_eq (by have := HXJ.out; omega), by rw [hm.out]; exact hown2.out, HW1.out.grow rfl HX.out HY.out hB2.out⟩
        case measure => have := HXJ.out; simp [intOf]; omega
      · -- regular 1, taken out 0, put in 0
        have hm : Hid ((rng f (j + 1)).filter (dayP f l e k xs ys) = L ++ [x]) := Lib.hid (by rw [hhit.out (by rw [HP.out, hr, hxs, hys]; rfl), HXJ.out])
        clear hhit hmiss
        go_wp2_with (first
        | (go_at_call 39; refine (rregular_any f l e k x a n c b m q _ f1 l2 e1 e2 k1 k2).mono ?_; rintro e w1 ⟨rfl, hb1⟩; rw [hr]; have HW1 := Lib.hid (HW.out.next hb1); obtain ⟨c0, c1, c2, c3, c4, c5, _, _, sz, _⟩ := HW1.out)
        | (go_at_call 40; refine (rin_any _ _ _ _ x _ (by first | exact HW1.out.xa | exact HW1.out.ya)).mono ?_; rintro e w9 ⟨rfl, rfl⟩; first | rw [hxs] | rw [hys])
        | (at_builtin; refine wpList_append_own _ rfl _ _ 22 rfl (w.heap.size + 1) 3 i0 (.int .i64 0) 1 8 Tryd.underlying22 HI0.out HZ0.out HZ1.out HZ2.out rfl (by decide) _ _ _ rfl ((row_below HO.out hb1).alloc _) ⟨w1.heap.size, 0, none⟩ 1 1 [.int .i64 x] rfl rfl ?c1 ?c2 ?c3 ?c4 ?c5 ?_))
        case c1 =>
          intro j u hj
          match j, hj with
          | 0, hj => simp at hj; subst hj; simp [Addr.add]
        case c2 => intro u hu; simp at hu; subst hu; rfl
        case c3 => have := HJ.out; unfold maxLen; omega
        case c4 => have := HJ.out; omega
        case c5 => simp; omega
        intro v' w2 hown' hgrow _
        have hown2 := Lib.hid (rowSnoc hown')
        have hB2 : Hid (Below (w.heap.size + 1) w1 w2) := Lib.hid (((Below.refl _ w1).alloc (by omega) _).grown hgrow (by simp; omega) (fun q hq => ((row_below HO.out hb1).lt q hq).1))
        clear hown' hgrow
        go_wp2
        go_roundw
        case rel => exact ⟨j + 1, by have := HXJ.out; omega, int_eq (by have := HXJ.out; omega), by rw [hm.out]; exact hown2.out, HW1.out.grow rfl HX.out HY.out hB2.out⟩
        case measure => have := HXJ.out; simp [intOf]; omega
      · -- regular 1, taken out 0, put in 1
        have hm : Hid ((rng f (j + 1)).filter (dayP f l e k xs ys) = L ++ [x]) := Lib.hid (by rw [hhit.out (by rw [HP.out, hr, hxs, hys]; rfl), HXJ.out])
        clear hhit hmiss
        go_wp2_with (first
        | (go_at_call 39; refine (rregular_any f l e k x a n c b m q _ f1 l2 e1 e2 k1 k2).mono ?_; rintro e w1 ⟨rfl, hb1⟩; rw [hr]; have HW1 := Lib.hid (HW.out.next hb1); obtain ⟨c0, c1, c2, c3, c4, c5, _, _, sz, _⟩ := HW1.out)
        | (go_at_call 40; refine (rin_any _ _ _ _ x _ (by first | exact HW1.out.xa | exact HW1.out.ya)).mono ?_; rintro e w9 ⟨rfl, rfl⟩; first | rw [hxs] | rw [hys])
        | (at_builtin; refine wpList_append_own _ rfl _ _ 22 rfl (w.heap.size + 1) 3 i0 (.int .i64 0) 1 8 Tryd.underlying22 HI0.out HZ0.out HZ1.out HZ2.out rfl (by decide) _ _ _ rfl ((row_below HO.out hb1).alloc _) ⟨w1.heap.size, 0, none⟩ 1 1 [.int .i64 x] rfl rfl ?c1 ?c2 ?c3 ?c4 ?c5 ?_))
        case c1 =>
          intro j u hj
          match j, hj with
          | 0, hj => simp at hj; subst hj; simp [Addr.add]
        case c2 => intro u hu; simp at hu; subst hu; rfl
        case c3 => have := HJ.out; unfold maxLen; omega
        case c4 => have := HJ.out; omega
        case c5 => simp; omega
        intro v' w2 hown' hgrow _
        have hown2 := Lib.hid (rowSnoc hown')
        have hB2 : Hid (Below (w.heap.size + 1) w1 w2) := Lib.hid (((Below.refl _ w1).alloc (by omega) _).grown hgrow (by simp; omega) (fun q hq => ((row_below HO.out hb1).lt q hq).1))
        clear hown' hgrow
        go_wp2
        go_roundw
        case rel => exact ⟨j + 1, by have := HXJ.out; omega, int_eq (by have := HXJ.out; omega), by rw [hm.out]; exact hown2.out, HW1.out.grow rfl HX.out HY.out hB2.out⟩
        case measure => have := HXJ.out; simp [intOf]; omega
      · -- regular 1, taken out 1, put in 0
        have hm : Hid ((rng f (j + 1)).filter (dayP f l e k xs ys) = L) := Lib.hid (hmiss.out (by rw [HP.out, hr, hxs, hys]; rfl))
        clear hhit hmiss
        go_wp2_with (first
        | (go_at_call 39; refine (rregular_any f l e k x a n c b m q _ f1 l2 e1 e2 k1 k2).mono ?_; rintro e w1 ⟨rfl, hb1⟩; rw [hr]; have HW1 := Lib.hid (HW.out.next hb1); obtain ⟨c0, c1, c2, c3, c4, c5, _, _, sz, _⟩ := HW1.out)
        | (go_at_call 40; refine (rin_any _ _ _ _ x _ (by first | exact HW1.out.xa | exact HW1.out.ya)).mono ?_; rintro e w9 ⟨rfl, rfl⟩; first | rw [hxs] | rw [hys]))
        go_roundw
        case rel => exact ⟨j + 1, by have := HXJ.out; omega, int_eq (by have := HXJ.out; omega), by rw [hm.out]; exact row_below HO.out hb1, HW1.out⟩
        case measure => have := HXJ.out; simp [intOf]; omega
      · -- regular 1, taken out 1, put in 1
        have hm : Hid ((rng f (j + 1)).filter (dayP f l e k xs ys) = L ++ [x]) := Lib.hid (by rw [hhit.out (by rw [HP.out, hr, hxs, hys]; rfl), HXJ.out])
        clear hhit hmiss
        go_wp2_with (first
        | (go_at_call 39; refine (rregular_any f l e k x a n c b m q _ f1 l2 e1 e2 k1 k2).mono ?_; rintro e w1 ⟨rfl, hb1⟩; rw [hr]; have HW1 := Lib.hid (HW.out.next hb1); obtain ⟨c0, c1, c2, c3, c4, c5, _, _, sz, _⟩ := HW1.out)
        | (go_at_call 40; refine (rin_any _ _ _ _ x _ (by first | exact HW1.out.xa | exact HW1.out.ya)).mono ?_; rintro e w9 ⟨rfl, rfl⟩; first | rw [hxs] | rw [hys])
        | (at_builtin; refine wpList_append_own _ rfl _ _ 22 rfl (w.heap.size + 1) 3 i0 (.int .i64 0) 1 8 Tryd.underlying22 HI0.out HZ0.out HZ1.out HZ2.out rfl (by decide) _ _ _ rfl ((row_below HO.out hb1).alloc _) ⟨w1.heap.size, 0, none⟩ 1 1 [.int .i64 x] rfl rfl ?c1 ?c2 ?c3 ?c4 ?c5 ?_))
        case c1 =>
          intro j u hj
          match j, hj with
          | 0, hj => simp at hj; subst hj; simp [Addr.add]
        case c2 => intro u hu; simp at hu; subst hu; rfl
        case c3 => have := HJ.out; unfold maxLen; omega
        case c4 => have := HJ.out; omega
        case c5 => simp; omega
        intro v' w2 hown' hgrow _
        have hown2 := Lib.hid (rowSnoc hown')
        have hB2 : Hid (Below (w.heap.size + 1) w1 w2) := Lib.hid (((Below.refl _ w1).alloc (by omega) _).grown hgrow (by simp; omega) (fun q hq => ((row_below HO.out hb1).lt q hq).1))
        clear hown' hgrow
        go_wp2
        go_roundw
        case rel => exact ⟨j + 1, by have := HXJ.out; omega, int_eq (by have := HXJ.out; omega), by rw [hm.out]; exact hown2.out, HW1.out.grow rfl HX.out HY.out hB2.out⟩
        case measure => have := HXJ.out; simp [intOf]; omega
    · have hjj : Hid (j = (l - f + 1).toNat) := Lib.hid (by omega)
      go_wp2
      go_ret
      exact ⟨_, rfl, by rw [hd.out]; have := hjj.out; subst this; exact row_base HO.out (by omega), HW.out.bl⟩


end Go.Proofs.YtibigbfkokendaaDoor
