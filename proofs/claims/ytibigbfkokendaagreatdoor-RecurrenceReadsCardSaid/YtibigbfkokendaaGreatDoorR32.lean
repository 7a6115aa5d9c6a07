/- Series: the text of a rule, of the reference. -/
import Derived.Test.YtibigbfkokendaaGreatDoorR31
import Derived.Test.YtibigbfkokendaaGreatDoorR5
import Derived.Test.YtibigbfkokendaaGreatDoorR21
namespace Go.Proofs.YtibigbfkokendaaGreatDoor
open Go.RowKit TT

def sgnL (xs : List L8) : L8 := if xs = [] then [] else [44]
theorem join_snoc (xs : List L8) (y : L8) : Lib.join (xs ++ [y]) [44] = Lib.join xs [44] ++ (sgnL xs ++ y) := by
  cases xs with
  | nil => simp [Lib.join_nil, Lib.join_one, sgnL]
  | cons x r =>
    rw [List.cons_append, Lib.join_cons, Lib.join_cons]
    simp [Lib.joinTail, sgnL]

set_option maxRecDepth 100000 in
set_option maxHeartbeats 4000000 in
theorem rrule_any (f l e k : Int) (a : Option Addr) (n c : Nat) (b : Option Addr) (m q : Nat) (xs ys : List Int) (w : World) (hx : IntsAt w a n xs) (hy : IntsAt w b m ys) (e0 : 0 ≤ e) (e1 : e < 10) (k0 : 0 ≤ k) (k1 : k < 128) (hl : okDay l = true) :
    Calls Tryz.prog 27 #[serV f l e k a n c b m q] w (RetB (.string (arr (ruleL e.toNat k l))) w) := by
  have HS := Lib.hid (SC.mk0 (w := w) (f := f) (l := l) (e := e) (k := k) (c := c) (q := q) 24 hx hy)
  have D1 := Lib.hid (rone_int e e0 e1)
  have DD := Lib.hid (rdate_any l hl)
  have hd8 : (arr (datL l)).size = 8 := rfl
  have h1s : (arr [UInt8.ofNat (48 + e.toNat)]).size = 1 := rfl
  have HJ : Hid ((⟨#[70, 82, 69, 81, 61, 87, 69, 69, 75, 76, 89, 59, 73, 78, 84, 69, 82, 86, 65, 76, 61]⟩ : ByteArray) ++ arr [UInt8.ofNat (48 + e.toNat)] ++ (⟨#[59, 66, 89, 68, 65, 89, 61]⟩ : ByteArray) = arr ((preL ++ [UInt8.ofNat (48 + e.toNat)] ++ bydL) ++ Lib.join (byL k 0) [44])) := Lib.hid (by
    rw [show (⟨#[70, 82, 69, 81, 61, 87, 69, 69, 75, 76, 89, 59, 73, 78, 84, 69, 82, 86, 65, 76, 61]⟩ : ByteArray) = arr preL from rfl, show (⟨#[59, 66, 89, 68, 65, 89, 61]⟩ : ByteArray) = arr bydL from rfl, arr_cat, arr_cat]
    simp [byL, Lib.join_nil])
  have HF : Hid (∀ X : ByteArray, X = arr ((preL ++ [UInt8.ofNat (48 + e.toNat)] ++ bydL) ++ Lib.join (byL k 7) [44]) → X ++ (⟨#[59, 85, 78, 84, 73, 76, 61]⟩ : ByteArray) ++ arr (datL l) = arr (ruleL e.toNat k l)) := Lib.hid (by
    rintro X rfl
    rw [show (⟨#[59, 85, 78, 84, 73, 76, 61]⟩ : ByteArray) = arr untL from rfl, arr_cat, arr_cat]
    rfl)
  have HP : Hid (∃ P : L8, P = preL ++ [UInt8.ofNat (48 + e.toNat)] ++ bydL) := Lib.hid ⟨_, rfl⟩
  obtain ⟨P, hP⟩ := HP.out
  rw [← hP] at HJ HF
  clear hP HP hx hy hl
  generalize arr [UInt8.ofNat (48 + e.toNat)] = E1 at *
  generalize arr (datL l) = DL at *
  generalize arr (ruleL e.toNat k l) = RL at *
  go_enter Tryz.func27, Tryz.ntmps27
  go_wp2_with fail
  obtain ⟨c0, c1, c2, c3, c4, c5, _, _, sz, _⟩ := HS.out
  go_wp2_with fail
  refine (D1.out _).mono ?_
  rintro en w1 ⟨rfl, hb1⟩
  have HS1 := Lib.hid (HS.out.next hb1)
  clear c0 c1 c2 c3 c4 c5 sz hb1 HS
  go_wp2_with fail
  go_loopw [3, 4, 5] (fun o s i wr => ∃ (p : Nat) (O S : ByteArray), p ≤ 7 ∧ o = .string O ∧ s = .string S ∧ i = .int .i64 p ∧ O.size ≤ 29 + 3 * p ∧ S.size ≤ 1 ∧ Hid (O = arr (P ++ Lib.join (byL k p) [44])) ∧ Hid (S = arr (sgnL (byL k p))) ∧ Hid (SC w wr w.heap.size f l e k a n c b m q xs ys)) (fun _ _ i _ => 7 - (intOf i).toNat)
  case atStart => exact ⟨0, _, _, by omega, rfl, rfl, rfl, by simp [ByteArray.size_append, h1s]; decide, by decide, HJ, Lib.hid rfl, HS1⟩
  case round =>
    clear HS1 HJ
    obtain ⟨p, O, S, hp, rfl, rfl, rfl, hO, hS, HO, HSg, HW⟩ := hrel
    obtain ⟨c0, c1, c2, c3, c4, c5, _, _, sz, _⟩ := HW.out
    by_cases hlt : p < 7
    · have hbit := bit_eq1 k p k0 (by omega)
      rw [Int.toNat_natCast] at hbit
      cases hbb : bitN k p
      · have hm := byL_miss hbb
        have HO2 : Hid (O = arr (P ++ Lib.join (byL k (p + 1)) [44])) := Lib.hid (by rw [hm]; exact HO.out)
        have HS2 : Hid (S = arr (sgnL (byL k (p + 1)))) := Lib.hid (by rw [hm]; exact HSg.out)
        rw [hbb] at hbit
        clear hbb hm HO HSg
        go_wp2_with fail
        go_roundw
        case rel => exact ⟨p + 1, O, S, by omega, rfl, rfl, by go_num, by omega, by omega, HO2, HS2, HW⟩
        case measure => simp [intOf]; omega
      · have hm := byL_hit hbb
        have HO2 : Hid (O ++ (S ++ arr (nmL p)) = arr (P ++ Lib.join (byL k (p + 1)) [44])) := Lib.hid (by
          rw [hm, join_snoc, HO.out, HSg.out, arr_cat, arr_cat, List.append_assoc])
        have HS2 : Hid ((⟨#[44]⟩ : ByteArray) = arr (sgnL (byL k (p + 1)))) := Lib.hid (by rw [hm]; unfold sgnL; rw [if_neg (by simp)]; rfl)
        rw [hbb] at hbit
        clear hbb hm HO HSg
        go_wp2_with fail
        refine (names_any _).mono ?_
        rintro en w2 ⟨g, rfl, hg, hgl, hb2⟩
        have HW2 := Lib.hid (HW.out.next hb2)
        have hgp := hg p hlt
        have hNs : (arr (nmL p)).size = 2 := by rw [arr_size]; exact nmL_len ⟨p, hlt⟩
        clear hg hb2 c0 c1 c2 c3 c4 c5 sz
        generalize arr (nmL p) = N at *
        go_wp2_with fail
        go_roundw
        case rel => exact ⟨p + 1, O ++ (S ++ N), ⟨#[44]⟩, by omega, rfl, rfl, by go_num, by rw [ByteArray.size_append, ByteArray.size_append]; omega, by decide, HO2, HS2, HW2⟩
        case measure => simp [intOf]; omega
    · obtain rfl : p = 7 := by omega
      have HX := Lib.hid (HF.out O HO.out)
      clear HO HSg HF
      go_wp2_with fail
      refine (DD.out _).mono ?_
      rintro en w2 ⟨rfl, hb2⟩
      have HW2 := Lib.hid (HW.out.next hb2)
      clear hb2
      go_wp2_with fail
      go_ret
      exact ⟨by rw [HX.out]; rfl, HW2.out.bl⟩

set_option maxRecDepth 100000 in
set_option maxHeartbeats 1000000 in
theorem rformat_any (f l e k : Int) (a : Option Addr) (n c : Nat) (b : Option Addr) (m q : Nat) (xs ys : List Int) (w : World) (hx : IntsAt w a n xs) (hy : IntsAt w b m ys) (hs : n + m ≤ 9223372036854775807) :
    Calls Tryz.prog 10 #[serV f l e k a n c b m q] w (FmtP f l e k xs ys w) := by
  have HS := Lib.hid (SC.mk0 (w := w) (f := f) (l := l) (e := e) (k := k) (c := c) (q := q) 24 hx hy)
  clear hx hy
  by_cases hv : vlE f l e k xs ys = 0
  rotate_left
  · have hd : Hid (fmtL f l e k xs ys = []) := Lib.hid (by unfold fmtL; rw [if_neg hv])
    have hv' : (vlE f l e k xs ys != 0) = true := by simpa using hv
    clear hv
    go_enter Tryz.func10, Tryz.ntmps10
    go_wp2_with fail
    obtain ⟨c0, c1, c2, c3, c4, c5, _, _, sz, _⟩ := HS.out
    go_wp2_with (go_at_call 26; refine (rvalid_any f l e k a n c b m q xs ys _ HS.out.xa HS.out.ya hs).mono ?_; rintro e w1 ⟨rfl, hb⟩)
    go_ret2
    exact ⟨by rw [hd.out]; rfl, (HS.out.next hb).bl⟩
  have hd : Hid (fmtL f l e k xs ys = ruleL e.toNat k l) := Lib.hid (by unfold fmtL; rw [if_pos hv])
  obtain ⟨h0, _⟩ := vlE_inv hv
  obtain ⟨o1, o2, h3, h4, e1, e2, k1, k2, hsz⟩ := vl0_inv h0
  have HV := Lib.hid hv
  have hv' : (vlE f l e k xs ys != 0) = false := by simpa using hv
  clear hv o1 h0 hsz
  go_enter Tryz.func10, Tryz.ntmps10
  go_wp2_with fail
  obtain ⟨c0, c1, c2, c3, c4, c5, _, _, sz, _⟩ := HS.out
  go_wp2_with fail
  refine (rvalid_any f l e k a n c b m q xs ys _ HS.out.xa HS.out.ya hs).mono ?_
  rintro en w1 ⟨rfl, hb⟩
  have HS1 := Lib.hid (HS.out.next hb)
  clear c0 c1 c2 c3 c4 c5 sz hb
  obtain ⟨c0, c1, c2, c3, c4, c5, _, _, sz, _⟩ := HS1.out
  go_wp2_with fail
  refine (rrule_any f l e k a n c b m q xs ys _ HS1.out.xa HS1.out.ya (by omega) (by omega) k1 (by omega) o2).mono ?_
  rintro en w2 ⟨rfl, hb2⟩
  have HB := Lib.hid (HS1.out.next hb2).bl
  clear hb2
  go_wp2_with fail
  go_ret2
  exact ⟨by rw [hd.out, HV.out]; rfl, HB.out⟩

end Go.Proofs.YtibigbfkokendaaGreatDoor
