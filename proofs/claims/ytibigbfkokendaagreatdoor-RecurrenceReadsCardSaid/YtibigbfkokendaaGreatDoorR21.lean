/- Series: the text of a rule, of the program. -/
import Derived.Test.YtibigbfkokendaaGreatDoorR20
namespace Go.Proofs.YtibigbfkokendaaGreatDoor
open Go.RowKit TT

theorem Tryz.infoStr : (Tryz.prog.info? 9).map (fun i => (i.zero, i.size, i.bytes)) = some (some (.string .empty), 1, 16) := by kernel_rfl
theorem byL_hit {k : Int} {p : Nat} (h : bitN k p = true) : byL k (p + 1) = byL k p ++ [nmL p] := by simp [byL, h]
theorem byL_miss {k : Int} {p : Nat} (h : bitN k p = false) : byL k (p + 1) = byL k p := by simp [byL, h]
theorem srowSnoc {w2 : World} {B : Nat} {v' : Value} {L : List L8} {x : L8}
    (hown' : w2.ownsRow B 9 1 v' (L.length + 1) (L.map (fun x => Value.string (arr x)) ++ [.string (arr x)])) : SRow w2 B v' (L ++ [x]) := by
  unfold SRow; simpa using hown'

theorem pY_bd {n : Int} (h : okDay n = true) : 2000 ≤ pY n ∧ pY n ≤ 2099 := by
  obtain ⟨h1, h2⟩ := okDay_of h
  obtain ⟨a, b, c, d⟩ := yearOf_spec n h1 h2
  unfold pY; rw [h]; exact ⟨a, b⟩
theorem dig2 (x : Int) (h0 : 0 ≤ x) (h1 : x < 100) (w : World) : Calls Tryz.prog 25 #[.int .i64 x, .int .i64 2] w (RetB (.string (arr (two2 x.toNat))) w) := by
  obtain ⟨n, rfl⟩ : ∃ n : Nat, x = n := ⟨x.toNat, by omega⟩
  exact digits_two n (by omega) w
theorem itoa_one (e : Int) (h0 : 0 ≤ e) (h1 : e < 10) (w : World) : Calls Tryz.prog 22 #[.int .i64 e] w (fun en w' => en = .returned (.string (arr [UInt8.ofNat (48 + e.toNat)])) ∧ w' = w) := by
  obtain ⟨n, rfl⟩ : ∃ n : Nat, e = n := ⟨e.toNat, by omega⟩
  have D := Tryz.strconv_Itoa_small n (by omega) w
  rw [dec_small n (by omega), if_pos (by omega)] at D
  exact D
/-- the pieces of a rule's text, joined one after another -/
theorem rule_cats (e : Nat) (k l : Int) : ∃ A B Y M D T1 T2 T3 T4 T5 T6 T7 : ByteArray,
    arr [UInt8.ofNat (48 + e)] = A ∧ arr (bysL k) = B ∧ arr ([50, 48] ++ two2 (pY l - 2000).toNat) = Y ∧ arr (two2 (pM l).toNat) = M ∧ arr (two2 (pD l).toNat) = D ∧ arr (ruleL e k l) = T7 ∧
    (⟨#[70, 82, 69, 81, 61, 87, 69, 69, 75, 76, 89, 59, 73, 78, 84, 69, 82, 86, 65, 76, 61]⟩ : ByteArray) ++ A = T1 ∧ T1 ++ (⟨#[59, 66, 89, 68, 65, 89, 61]⟩ : ByteArray) = T2 ∧ T2 ++ B = T3 ∧ T3 ++ (⟨#[59, 85, 78, 84, 73, 76, 61]⟩ : ByteArray) = T4 ∧ T4 ++ Y = T5 ∧ T5 ++ M = T6 ∧ T6 ++ D = T7 ∧
    A.size = 1 ∧ B.size ≤ 21 ∧ Y.size = 4 ∧ M.size = 2 ∧ D.size = 2 ∧ T1.size ≤ 100 ∧ T2.size ≤ 100 ∧ T3.size ≤ 100 ∧ T4.size ≤ 100 ∧ T5.size ≤ 100 ∧ T6.size ≤ 100 := by
  have hB := bysL_len k
  refine ⟨_, _, _, _, _, arr (preL ++ [UInt8.ofNat (48 + e)]), arr (preL ++ [UInt8.ofNat (48 + e)] ++ bydL), arr (preL ++ [UInt8.ofNat (48 + e)] ++ bydL ++ bysL k), arr (preL ++ [UInt8.ofNat (48 + e)] ++ bydL ++ bysL k ++ untL), arr (preL ++ [UInt8.ofNat (48 + e)] ++ bydL ++ bysL k ++ untL ++ ([50, 48] ++ two2 (pY l - 2000).toNat)), arr (preL ++ [UInt8.ofNat (48 + e)] ++ bydL ++ bysL k ++ untL ++ ([50, 48] ++ two2 (pY l - 2000).toNat) ++ two2 (pM l).toNat), _, rfl, rfl, rfl, rfl, rfl, rfl, ?_, ?_, ?_, ?_, ?_, ?_, ?_, rfl, ?_, rfl, rfl, rfl, ?_, ?_, ?_, ?_, ?_, ?_⟩
  · rw [show (⟨#[70, 82, 69, 81, 61, 87, 69, 69, 75, 76, 89, 59, 73, 78, 84, 69, 82, 86, 65, 76, 61]⟩ : ByteArray) = arr preL from rfl, arr_app]
  · rw [show (⟨#[59, 66, 89, 68, 65, 89, 61]⟩ : ByteArray) = arr bydL from rfl, arr_app]
  · rw [arr_app]
  · rw [show (⟨#[59, 85, 78, 84, 73, 76, 61]⟩ : ByteArray) = arr untL from rfl, arr_app]
  · rw [arr_app]
  · rw [arr_app]
  · rw [arr_app]; unfold ruleL datL; simp only [List.append_assoc]
  all_goals simp only [arr_size, List.length_append, preL, bydL, untL, two2, List.length_cons, List.length_nil]; omega

/-- what Format hands back -/
def fmtL (f l e k : Int) (xs ys : List Int) : L8 := if vlE f l e k xs ys = 0 then ruleL e.toNat k l else []
def FmtP (f l e k : Int) (xs ys : List Int) (w : World) (en : Ending) (w' : World) : Prop :=
  en = .returned (.tuple #[.string (arr (fmtL f l e k xs ys)), .int .i64 (vlE f l e k xs ys)]) ∧ Below w.heap.size w w'

theorem nm_at (p : Nat) (h : p < 7) : ByteArray.extract ⟨#[77, 79, 84, 85, 87, 69, 84, 72, 70, 82, 83, 65, 83, 85]⟩ (2 * p) (2 * p + 2) = arr (nmL p) := by
  match p, h with
  | 0, _ => rfl
  | 1, _ => rfl
  | 2, _ => rfl
  | 3, _ => rfl
  | 4, _ => rfl
  | 5, _ => rfl
  | 6, _ => rfl
theorem srow_below {w w' : World} {B : Nat} {v : Value} {L : List L8} (h : SRow w B v L) (hb : Below w.heap.size w w') : SRow w' B v L := row_below h hb

set_option maxRecDepth 100000 in
set_option maxHeartbeats 4000000 in
theorem format_any (f l e k : Int) (a : Option Addr) (n c : Nat) (b : Option Addr) (m q : Nat) (xs ys : List Int) (w : World) (hx : IntsAt w a n xs) (hy : IntsAt w b m ys) (hs : n + m ≤ 9223372036854775807) (hT : Tbs w) :
    Calls Tryz.prog 9 #[serV f l e k a n c b m q] w (FmtP f l e k xs ys w) := by
  have HS := Lib.hid (SC.mk0 (w := w) (f := f) (l := l) (e := e) (k := k) (c := c) (q := q) 24 hx hy)
  have HX := Lib.hid hx
  have HY := Lib.hid hy
  have HT := Lib.hid hT
  clear hx hy hT
  by_cases hv : vlE f l e k xs ys = 0
  rotate_left
  · have hd : Hid (fmtL f l e k xs ys = []) := Lib.hid (by unfold fmtL; rw [if_neg hv])
    have hv' : (vlE f l e k xs ys != 0) = true := by simpa using hv
    clear hv
    go_enter Tryz.func9, Tryz.ntmps9
    go_wp2_with fail
    obtain ⟨c0, c1, c2, c3, c4, c5, _, _, sz, _⟩ := HS.out
    go_wp2_with (go_at_call 21; refine (valid_any f l e k a n c b m q xs ys _ HS.out.xa HS.out.ya hs).mono ?_; rintro e w1 ⟨rfl, hb⟩)
    go_ret2
    exact ⟨by rw [hd.out]; rfl, (HS.out.next hb).bl⟩
  have hd : Hid (fmtL f l e k xs ys = ruleL e.toNat k l) := Lib.hid (by unfold fmtL; rw [if_pos hv])
  obtain ⟨h0, _⟩ := vlE_inv hv
  obtain ⟨o1, o2, h3, h4, e1, e2, k1, k2, hsz⟩ := vl0_inv h0
  obtain ⟨f1, f2⟩ := okDay_of o1
  obtain ⟨l1, l2⟩ := okDay_of o2
  have HV := Lib.hid hv
  have hv' : (vlE f l e k xs ys != 0) = false := by simpa using hv
  clear hv o1 h0 hsz
  obtain ⟨i0, hi, hz0, hz1, hz2⟩ := info_parts Tryz.infoStr
  have HI0 := Lib.hid hi; have HZ0 := Lib.hid hz0; have HZ1 := Lib.hid hz1; have HZ2 := Lib.hid hz2
  clear hi hz0 hz1 hz2
  go_enter Tryz.func9, Tryz.ntmps9
  go_wp2_with fail
  obtain ⟨c0, c1, c2, c3, c4, c5, _, _, sz, _⟩ := HS.out
  go_wp2_with fail
  refine (valid_any f l e k a n c b m q xs ys _ HS.out.xa HS.out.ya hs).mono ?_
  rintro en w1 ⟨rfl, hb⟩
  have HS1 := Lib.hid (HS.out.next hb)
  clear c0 c1 c2 c3 c4 c5 sz hb
  go_wp2_with fail
  go_loopw [5, 6, 17] (fun v _ i wr => ∃ p : Nat, p ≤ 7 ∧ i = .int .i64 p ∧ Hid (SRow wr (w.heap.size + 1) v (byL k p)) ∧ Hid (SC w wr w.heap.size f l e k a n c b m q xs ys)) (fun _ _ i _ => 7 - (intOf i).toNat)
  case atStart => exact ⟨0, by omega, rfl, Lib.hid (World.ownsRow_nil _ _ _ _), HS1⟩
  case round =>
    clear HS1 HS
    obtain ⟨p, hp, rfl, HR, HW⟩ := hrel
    obtain ⟨c0, c1, c2, c3, c4, c5, _, _, sz, _⟩ := HW.out
    by_cases hlt : p < 7
    · have hbit := bit_eq1 k p k1 (by omega)
      rw [Int.toNat_natCast] at hbit
      have hlen := byL_len k p
      have hnm := nm_at p hlt
      cases hbb : bitN k p
      · have hm := Lib.hid (byL_miss hbb)
        rw [hbb] at hbit
        clear hbb
        go_wp2_with fail
        refine ⟨?_, ?measure⟩
        first
          | ((repeat apply Exists.intro); refine ⟨?rel, rfl⟩)
          | ((iterate 10 (apply Exists.intro)); (repeat apply Exists.intro); refine ⟨?rel, rfl⟩)
          | ((iterate 25 (apply Exists.intro)); (repeat apply Exists.intro); refine ⟨?rel, rfl⟩)
          | ((iterate 40 (apply Exists.intro)); (repeat apply Exists.intro); refine ⟨?rel, rfl⟩)
          | refine ?rel
        case rel => exact ⟨p + 1, by omega, int_eq (by omega), by rw [hm.out]; exact HR, HW⟩
        case measure => simp [intOf]; omega
      · have hm := Lib.hid (byL_hit hbb)
        rw [hbb] at hbit
        clear hbb
        have hmm := Lib.hid (show byL k (p + 1) = byL k p ++ [nmL p] from hm.out)
        clear hm
        generalize byL k p = L at *
        generalize nmL p = y at *
        go_wp2_with (at_builtin; refine wpList_append_own _ rfl _ _ 41 rfl (w.heap.size + 1) 9 i0 (.string .empty) 1 16 Tryz.underlying41 HI0.out HZ0.out HZ1.out HZ2.out rfl (by decide) _ _ _ rfl (HR.out.alloc _) ⟨wr.heap.size, 0, none⟩ 1 1 [.string (arr y)] rfl rfl ?c1 ?c2 ?c3 ?c4 ?c5 ?_)
        case c1 =>
          intro j u hj
          match j, hj with
          | 0, hj => simp at hj; subst hj; simp [Addr.add]
        case c2 => intro u hu; simp at hu; subst hu; rfl
        case c3 => unfold maxLen; omega
        case c4 => omega
        case c5 => simp; omega
        intro v' w2 hown' hgrow _
        have hown2 := Lib.hid (srowSnoc hown')
        have hB2 : Hid (Below (w.heap.size + 1) wr w2) := Lib.hid (((Below.refl _ wr).alloc (by omega) _).grown hgrow (by simp; omega) (fun q hq => (HR.out.lt q hq).1))
        clear hown' hgrow
        go_wp2
        refine ⟨?_, ?measure⟩
        first
          | ((repeat apply Exists.intro); refine ⟨?rel, rfl⟩)
          | ((iterate 10 (apply Exists.intro)); (repeat apply Exists.intro); refine ⟨?rel, rfl⟩)
          | ((iterate 25 (apply Exists.intro)); (repeat apply Exists.intro); refine ⟨?rel, rfl⟩)
          | ((iterate 40 (apply Exists.intro)); (repeat apply Exists.intro); refine ⟨?rel, rfl⟩)
          | refine ?rel
        case rel => exact ⟨p + 1, by omega, int_eq (by omega), by rw [hmm.out]; exact hown2, Lib.hid (HW.out.grow rfl HX.out HY.out hB2.out)⟩
        case measure => simp [intOf]; omega
    · obtain rfl : p = 7 := by omega
      clear hp hlt
      obtain ⟨y1, y2⟩ := pY_bd o2
      obtain ⟨_, _, m1, m2, d1, d2⟩ := p_bd l
      have HTr := Lib.hid (HT.out.below HW.out.bl)
      have hwj := Lib.hid (fun (w9 : World) (hb : Below wr.heap.size wr w9) => join_any (w.heap.size + 1) u5 (byL k 7) w9 (srow_below HR.out hb) (by have := byL_len k 7; omega) (by have := bysL_len k; unfold bysL at this; omega))
      have hI := Lib.hid (itoa_one e (by omega) (by omega))
      have hP := Lib.hid (fun (w9 : World) (hb : Below wr.heap.size wr w9) => Cal.parts_any l w9 (HTr.out.below hb).lens)
      have hpE : Hid (pE l = 0) := Lib.hid (by unfold pE; rw [o2]; rfl)
      rw [hpE.out] at hP
      have hG4 := Lib.hid (fun (w9 : World) (hb : Below wr.heap.size wr w9) => digits_four (pY l) y1 y2 w9 (HTr.out.below hb))
      have hGm := Lib.hid (dig2 (pM l) m1 (by omega))
      have hGd := Lib.hid (dig2 (pD l) d1 (by omega))
      obtain ⟨A, B, Y, M, D, T1, T2, T3, T4, T5, T6, T7, qA, qB, qY, qM, qD, qT, t1, t2, t3, t4, t5, t6, t7, s1, s2, s3, s4, s5, z1, z2, z3, z4, z5, z6⟩ := rule_cats e.toNat k l
      rw [qA] at hI; rw [qM] at hGm; rw [qD] at hGd
      rw [qY] at hG4
      rw [show Lib.join (byL k 7) [44] = bysL k from rfl, qB] at hwj
      have hfin := Lib.hid qT
      clear qA qB qY qM qD qT hpE o2
      generalize pY l = yy at *
      generalize pM l = mm at *
      generalize pD l = dd at *
      have hbr := Lib.hid (Below.refl wr.heap.size wr)
      go_wp2_with (first
        | (go_at_call 22; refine (hI.out _).mono ?_; rintro en w9 ⟨rfl, hw9⟩; subst hw9)
        | (go_at_call 23; refine (hwj.out _ (Below.refl _ _)).mono ?_; rintro en w2 ⟨rfl, hb2⟩; have HB2 := Lib.hid hb2; have c1' := (HW.out.next hb2).c1; clear hb2))
      refine (hP.out _ HB2.out).mono ?_
      rintro en w3 ⟨rfl, hw3⟩
      subst hw3
      go_wp2_with fail
      refine (hG4.out _ HB2.out).mono ?_
      rintro en w4 ⟨rfl, hb4⟩
      have HB4 := Lib.hid (HB2.out.trans (hb4.mono HB2.out.size))
      clear hb4
      go_wp2_with fail
      refine (hGm.out _).mono ?_
      rintro en w5 ⟨rfl, hb5⟩
      have HB5 := Lib.hid (HB4.out.trans (hb5.mono HB4.out.size))
      clear hb5
      go_wp2_with fail
      refine (hGd.out _).mono ?_
      rintro en w6 ⟨rfl, hb6⟩
      have HB6 := Lib.hid (HB5.out.trans (hb6.mono HB5.out.size))
      clear hb6
      have HF := Lib.hid (HW.out.next HB6.out).bl
      go_wp2_with fail

      go_ret2
      exact ⟨by rw [hd.out, hfin.out, HV.out]; rfl, HF.out⟩

end Go.Proofs.YtibigbfkokendaaGreatDoor
