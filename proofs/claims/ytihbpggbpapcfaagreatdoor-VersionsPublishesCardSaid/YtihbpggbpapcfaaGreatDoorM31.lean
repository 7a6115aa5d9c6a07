/- Texts V74, V75, joined: walks and laws for the versions. -/
import Derived.Test.YtihbpggbpapcfaaGreatDoorM30
namespace Go.Proofs.YtihbpggbpapcfaaGreatDoor
open Go.RowKit

def hexA (n k : Nat) : List Value := List.replicate (65 - k) (.int .u8 0) ++ (hexK k n).flatMap bytC
theorem hexA_len (n k : Nat) (h : k ≤ 65) : (hexA n k).length = 65 := by
  unfold hexA
  rw [List.length_append, List.length_replicate, flat_len bytC 1 encByt.len, hexK_len]; omega
theorem hexA_set (n k : Nat) (h : k < 65) : (hexA n k).set (64 - k) (.int .u8 (hexD (n / 16 ^ k % 16)).toNat) = hexA n (k + 1) := by
  unfold hexA
  rw [hexK_front, List.flatMap_cons]
  rw [show 65 - k = (64 - k) + 1 by omega, List.replicate_succ', List.append_assoc, List.set_append_right _ _ (by simp), List.length_replicate, Nat.sub_self]
  rw [show 65 - (k + 1) = 64 - k by omega]
  rfl
theorem ofU64 (m : Nat) (h : m < 18446744073709551616) : (BitVec.ofInt 64 (m : Int)).toNat = m := by
  rw [BitVec.ofInt_natCast, BitVec.toNat_ofNat]; exact Nat.mod_eq_of_lt (by omega)
theorem uand15 (m : Nat) (h : m < 4294967296) : bits .and .u64 (m : Int) 15 = ((m % 16 : Nat) : Int) := by
  show IntKind.u64.wrap (((BitVec.ofInt 64 (m : Int) &&& BitVec.ofInt 64 ((15 : Nat) : Int)).toNat : Nat) : Int) = _
  rw [BitVec.toNat_and, ofU64 m (by omega), ofU64 15 (by omega), show (15 : Nat) = 2 ^ 4 - 1 by decide, Nat.and_two_pow_sub_one_eq_mod]
  rw [IntKind.wrap_u64]; omega
theorem hexTab36 (d : Nat) (h : d < 36) (h2 : d < 16) : (⟨#[48, 49, 50, 51, 52, 53, 54, 55, 56, 57, 97, 98, 99, 100, 101, 102, 103, 104, 105, 106, 107, 108, 109, 110, 111, 112, 113, 114, 115, 116, 117, 118, 119, 120, 121, 122]⟩ : ByteArray)[d]'h = hexD d := by
  have : ∀ d : Fin 16, (⟨#[48, 49, 50, 51, 52, 53, 54, 55, 56, 57, 97, 98, 99, 100, 101, 102, 103, 104, 105, 106, 107, 108, 109, 110, 111, 112, 113, 114, 115, 116, 117, 118, 119, 120, 121, 122]⟩ : ByteArray)[d.val]'(Nat.lt_trans d.isLt (by decide)) = hexD d.val := by decide
  exact this ⟨d, h2⟩
theorem pow2_any (w : World) : Calls Tryz.prog 184 #[.int .i64 16] w (RetS (.bool true) w) := by
  have hb : bits .and .i64 16 15 = 0 := by decide
  go_enter Tryz.func184, Tryz.ntmps184
  go_wp2_with fail
  go_ret
  exact ⟨rfl, rfl⟩

set_option maxRecDepth 100000 in
set_option maxHeartbeats 4000000 in
theorem fb_any (x : Nat) (hx : x < 4294967296) (w : World) (hT : Tz w) : Calls Tryz.prog 161 #[.slice none 0 0, .int .u64 x, .int .i64 16, .bool false, .bool false] w (fun e w' => ∃ k, k ≤ 8 ∧ x < 16 ^ k ∧ e = .returned (.tuple #[.slice none 0 0, .string (arr (hexK k x))]) ∧ Below w.heap.size w w') := by
  have HT := Lib.hid hT
  clear hT
  go_enter Tryz.func161, Tryz.ntmps161
  go_upto_region 5 with fail
  have hz : Tryz.zeroCells224 = (hexA x 0).toArray := by kernel_rfl
  rw [hz]
  have HBW := Lib.hid ((Below.refl w.heap.size w).alloc (Nat.le_refl _) (.cells (hexA x 0).toArray 224))
  have HHP := Lib.hid (heap_alloc_new w (.cells (hexA x 0).toArray 224))
  clear hz
  generalize w.alloc (.cells (hexA x 0).toArray 224) = w1 at *
  obtain ⟨g, hg⟩ : ∃ g, g = w.heap.size := ⟨_, rfl⟩
  rw [← hg] at HBW HHP ⊢
  have HG := Lib.hid hg
  clear hg
  have PW := Lib.hid (pow2_any w1)
  have TZ := Lib.hid (tz_any 16 (by omega) w1 (HT.out.below (by have := HBW.out; rw [HG.out] at this; exact this)))
  have hct : Lib.ctz 64 16 = 4 := by decide
  rw [hct] at TZ
  clear hct
  go_wp2_with fail
  refine PW.out.mono ?_
  rintro en w2 ⟨rfl, rfl⟩
  go_wp2_with fail
  refine TZ.out.mono ?_
  rintro en w3 ⟨rfl, rfl⟩
  go_wp2_with fail
  go_loopw [1, 13] (fun m i wr => ∃ k : Nat, k ≤ 7 ∧ i = .int .i64 (65 - (k : Int)) ∧ m = .int .u64 ((x / 16 ^ k : Nat) : Int) ∧ Hid (wr.heap[g]? = some (.cells (hexA x k).toArray 224 (0, 0))) ∧ Hid (Below g w wr)) (fun _ i _ => (intOf i + 1).toNat)
  case atStart => exact ⟨0, by omega, rfl, by rw [Nat.pow_zero, Nat.div_one], HHP, HBW⟩
  case round =>
    obtain ⟨k, hk, rfl, rfl, HH, HB⟩ := hrel
    have hcs := hexA_len x k (by omega)
    have hcell : wr.cell? ⟨g, 64 - k, none⟩ = some ((hexA x k)[64 - k]'(by omega)) := by
      rw [cell_of_row _ _ (64 - k) _ _ _ HH.out, List.getElem?_toArray, List.getElem?_eq_getElem (by omega)]
    have hfz : wr.frozen? ⟨g, 64 - k, none⟩ = false := frozen_of_row _ _ _ _ _ HH.out
    have hle : x / 16 ^ k ≤ x := Nat.div_le_self _ _
    have hdv : Hid (x / 16 ^ (k + 1) = x / 16 ^ k / 16) := Lib.hid (by rw [Nat.pow_succ, Nat.div_div_eq_div_mul])
    have HST := Lib.hid (hexA_set x k (by omega))
    have HSA : Hid (∀ u : Value, (wr.setCell ⟨g, 64 - k, none⟩ u).heap[g]? = some (.cells ((hexA x k).set (64 - k) u).toArray 224 (0, 0))) := Lib.hid (fun u => by
      rw [heap_setCell_same wr g (64 - k) _ _ u HH.out, List.setIfInBounds_toArray])
    have HBS : Hid (∀ u : Value, Below g w (wr.setCell ⟨g, 64 - k, none⟩ u)) := Lib.hid (fun u => HB.out.setCell (p := ⟨g, 64 - k, none⟩) (Nat.le_refl g) u)
    have hi1 : (65 : Int) - (k : Int) - 1 = ((64 - k : Nat) : Int) := by omega
    have hiw : IntKind.i64.wrap ((65 : Int) - (k : Int) - 1) = (65 : Int) - (k : Int) - 1 := IntWalk.i64_in _ (by omega)
    have hit : ((65 : Int) - (k : Int) - 1).toNat = 64 - k := by omega
    have hib0 : (0 : Int) ≤ (65 : Int) - (k : Int) - 1 := by omega
    have hib1 : (65 : Int) - (k : Int) - 1 < 65 := by omega
    by_cases hge : 16 ≤ x / 16 ^ k
    · have hk7 : k < 7 := by
        rcases Nat.lt_or_ge k 7 with h | h
        · exact h
        · obtain rfl : k = 7 := by omega
          have : x / 16 ^ 7 < 16 := (Nat.div_lt_iff_lt_mul (by decide)).2 (by omega)
          omega
      have hm16 : x / 16 ^ k % 16 < 16 := Nat.mod_lt _ (by omega)
      have hb15 : bits .and .u64 ((x / 16 ^ k : Nat) : Int) 15 = ((x / 16 ^ k % 16 : Nat) : Int) := uand15 _ (by omega)
      generalize x / 16 ^ k = m at *
      generalize m % 16 = d at *
      have hge2 : (16 : Int) ≤ (m : Int) := by omega
      have hd36 : (d : Int) < 36 := by omega
      have hd0 : (0 : Int) ≤ (d : Int) := by omega
      have hgd : d < 36 := by omega
      go_wp2_with fail
      go_roundw
      case rel =>
        refine ⟨k + 1, by omega, by go_num, by rw [hdv.out]; go_num, Lib.hid ?_, Lib.hid (HBS.out _)⟩
        rw [HSA.out, hexTab36 d hgd hm16, HST.out]
      case measure => simp [intOf]; omega
    · have hm16 : x / 16 ^ k % 16 = x / 16 ^ k := Nat.mod_eq_of_lt (by omega)
      rw [hm16] at HST
      have hlt2 : x / 16 ^ k < 16 := by omega
      have hxk : Hid (x < 16 ^ (k + 1)) := Lib.hid (by
        have := (Nat.div_lt_iff_lt_mul (Nat.pow_pos (n := k) (by decide : 0 < 16))).1 hlt2
        rw [Nat.pow_succ]; omega)
      clear hm16 hge hdv
      generalize x / 16 ^ k = d at *
      have hge2 : (d : Int) < 16 := by omega
      have hd36 : (d : Int) < 36 := by omega
      have hd0 : (0 : Int) ≤ (d : Int) := by omega
      have hgd : d < 36 := by omega
      have HCV : Hid (∀ u : Value, u = .int .u8 ((hexD d).toNat : Int) → (convert 26 9 (.slice (some ⟨g, 64 - k, none⟩) (k + 1) (k + 1))).run Tryz.prog (wr.setCell ⟨g, 64 - k, none⟩ u) = .ok (.string (arr (hexK (k + 1) x))) (wr.setCell ⟨g, 64 - k, none⟩ u)) := Lib.hid (fun u hu => by
        refine conv_str (d := hexK (k + 1) x) ⟨hexK_len _ _, by omega, Or.inr ⟨g, 64 - k, rfl, ?_⟩⟩
        subst hu
        have h1 := HSA.out (.int .u8 ((hexD d).toNat : Int))
        rw [HST.out] at h1
        intro j y hj o v hv
        rw [cell_of_row _ _ _ _ _ _ h1, List.getElem?_toArray]
        unfold hexA
        rw [List.getElem?_append_right (by rw [List.length_replicate]; omega), List.length_replicate]
        rw [show 64 - k + (j * 1 + o) - (65 - (k + 1)) = j * 1 + o by omega]
        have ho : o < 1 := by
          have := (List.getElem?_eq_some_iff.1 hv).1
          rw [encByt.len] at this; exact this
        rw [flat_at bytC 1 encByt.len _ j o y hj ho]; exact hv)
      have hsl : ∀ W : World, (Instr.sliceAt 224 (.pointer (some ⟨g, 0, none⟩)) (some (.int .i64 ((64 - k : Nat) : Int))) none none).run Tryz.prog W = .ok (.slice (some ⟨g, 64 - k, none⟩) (k + 1) (k + 1)) W := fun W => by
        have h2 : ¬ 65 = 64 - k := by omega
        have h3 : 65 - (64 - k) = k + 1 := by omega
        have := run_sliceAt_array_l (P := Tryz.prog) W 224 ⟨g, 0, none⟩ Tryz.underlying224 .i64 ((64 - k : Nat) : Int) (by omega) (by show _ ≤ ((65 : Nat) : Int); omega)
        rw [this]
        simp [go_sem, h2, h3]
      have HCV2 := HCV.out (.int .u8 ((hexD d).toNat : Int)) rfl
      rw [← hexTab36 d hgd (by omega)] at HCV2
      have hBS := HBS.out (.int .u8 ((hexD d).toNat : Int))
      rw [← hexTab36 d hgd (by omega)] at hBS
      have HBS2 := Lib.hid hBS
      clear hBS HBS HSA HST
      go_wp2_with fail
      go_ret2
      exact ⟨k + 1, by omega, hxk.out, rfl, by rw [← HG.out]; exact HBS2.out⟩

theorem hexK_pad : ∀ (k m x : Nat), x < 16 ^ k → hexK (k + m) x = List.replicate m 48 ++ hexK k x
  | 0, 0, x, _ => rfl
  | 0, m + 1, x, h => by
    have h0 : x = 0 := by simp at h; exact h
    subst h0
    have := hexK_pad 0 m 0 (by simp)
    rw [Nat.zero_add] at this ⊢
    show hexK m (0 / 16) ++ [hexD (0 % 16)] = List.replicate (m + 1) 48 ++ hexK 0 0
    rw [Nat.zero_div, this, List.replicate_succ']
    simp [hexK, hexD]
  | k + 1, m, x, h => by
    have hd : x / 16 < 16 ^ k := by rw [Nat.pow_succ] at h; exact (Nat.div_lt_iff_lt_mul (by decide)).2 h
    have := hexK_pad k m (x / 16) hd
    rw [show k + 1 + m = (k + m) + 1 by omega, hexK, this, hexK, List.append_assoc]
theorem rep48 : ∀ (c : Nat), Lib.repeatL [48] c = List.replicate c (48 : UInt8)
  | 0 => rfl
  | c + 1 => by
    have := rep48 c
    simp only [Lib.repeatL] at this ⊢
    first | (rw [this]; rfl) | (simp [this, List.replicate_succ]) 

set_option maxRecDepth 100000 in
set_option maxHeartbeats 4000000 in
theorem fint_any (x : Nat) (hx : x < 4294967296) (w : World) (hT : Tz w) : Calls Tryz.prog 91 #[.int .i64 x, .int .i64 16] w (fun e w' => ∃ k, k ≤ 8 ∧ x < 16 ^ k ∧ e = .returned (.string (arr (hexK k x))) ∧ Below w.heap.size w w') := by
  have FI : Calls Tryz.prog 128 #[.int .i64 x, .int .i64 16] w (fun e w' => ∃ k, k ≤ 8 ∧ x < 16 ^ k ∧ e = .returned (.string (arr (hexK k x))) ∧ Below w.heap.size w w') := by
    have FB := Lib.hid (fb_any x hx w hT)
    clear hT
    have hx0 : (0 : Int) ≤ x := by omega
    go_enter Tryz.func128, Tryz.ntmps128
    go_wp2_with fail
    refine FB.out.mono ?_
    rintro en w2 ⟨k, hk, hxk, rfl, hb⟩
    go_wp2_with fail
    go_ret
    exact ⟨k, hk, hxk, rfl, hb⟩
  have FI := Lib.hid FI
  clear hT
  go_enter Tryz.func91, Tryz.ntmps91
  go_wp2_with fail
  refine FI.out.mono ?_
  rintro en w2 ⟨k, hk, hxk, rfl, hb⟩
  go_wp2_with fail
  go_ret
  exact ⟨k, hk, hxk, rfl, hb⟩

set_option maxRecDepth 100000 in
set_option maxHeartbeats 4000000 in
theorem hex_any (x : Nat) (hx : x < 4294967296) (w : World) (hT : Tz w) : Calls Tryz.prog 53 #[.int .i64 x] w (RetB (.string (arr (hexK 8 x))) w) := by
  have FI := Lib.hid (fint_any x hx w hT)
  clear hT
  go_enter Tryz.func53, Tryz.ntmps53
  go_wp2_with fail
  refine FI.out.mono ?_
  rintro en w2 ⟨k, hk, hxk, rfl, hb⟩
  have hsz : (arr (hexK k x)).size = k := by rw [arr_size, hexK_len]
  have hw8 : IntKind.i64.wrap (8 - (k : Int)) = 8 - (k : Int) := IntWalk.i64_in _ (by omega)
  obtain ⟨c, hc⟩ : ∃ c : Nat, (8 : Int) - (k : Int) = c := ⟨8 - k, by omega⟩
  have hck : k + c = 8 := by omega
  have HF : Hid (hexK 8 x = List.replicate c 48 ++ hexK k x) := Lib.hid (by rw [← hck]; exact hexK_pad k c x hxk)
  have hc8 : c ≤ 8 := by omega
  have RP := Lib.hid (Tryz.strings_Repeat ⟨#[48]⟩ c w2 (by omega) (by show 1 * c ≤ _; omega))
  have hre : (⟨(Lib.repeatL (⟨#[48]⟩ : ByteArray).data.toList c).toArray⟩ : ByteArray) = arr (List.replicate c 48) := by
    rw [← rep48 c]; rfl
  rw [hre] at RP
  have hrs : (arr (List.replicate c (48 : UInt8))).size = c := by rw [arr_size, List.length_replicate]
  have hno : ¬ 9223372036854775807 < c + k := by omega
  generalize hexK k x = X at *
  generalize (List.replicate c (48 : UInt8)) = Y at *
  clear hre hxk FI
  go_wp2_with fail
  refine RP.out.mono ?_
  rintro en w3 ⟨rfl, hb3⟩
  go_wp2_with fail
  go_ret
  exact ⟨by rw [HF.out, ← arr_app]; rfl, below3 hb hb3⟩
end Go.Proofs.YtihbpggbpapcfaaGreatDoor

namespace Go.Proofs.YtihbpggbpapcfaaGreatDoor
open Go.RowKit

set_option maxRecDepth 100000 in
set_option maxHeartbeats 4000000 in
theorem bytes_any (B b : Nat) (bs : L8) (w : World) (h : Wr B b bs w) : Calls Tryz.prog 54 #[.pointer (some ⟨b, 0, none⟩)] w (fun e w' => ∃ s : Sl, e = .returned (.slice s.1 s.2.1 s.2.2) ∧ BV w' s bs ∧ (∃ q, w' = w.drewN q)) := by
  obtain ⟨_, v, lr, h2, h3, _⟩ := h
  have hk : KRow bytC 1 5 w B v bs := by
    have := flat_byt bs
    unfold KRow
    rw [this] at h3
    exact h3
  obtain ⟨a, cap, hv, hc, hb⟩ := KRow.at_ encByt hk
  have HB := Lib.hid (show BV w (a, bs.length, cap) bs from ⟨hc, hb⟩)
  have x0 := h2.c0
  have x1 := h2.c1
  subst hv
  clear hk h3 h2 hb
  have hl : (0 : Int) ≤ bs.length := by omega
  go_enter Tryz.func54, Tryz.ntmps54
  go_upto_region 1 with fail
  rw [Nat.zero_add] at x1
  cases a with
  | none =>
    go_quiet (fail)
    go_wp2_with fail
    go_ret
    exact ⟨(none, bs.length, cap), rfl, HB.out.below (below_drewN _ _), _, rfl⟩
  | some a =>
    go_quiet (fail)
    go_wp2_with fail
    go_ret
    exact ⟨(some a, bs.length, cap), rfl, HB.out.below (below_drewN _ _), _, rfl⟩

set_option maxRecDepth 100000 in
set_option maxHeartbeats 4000000 in
theorem bclone_any (a : Option Addr) (n c : Nat) (bs : L8) (w : World) (h : BV w (a, n, c) bs) (hl : bs.length ≤ 100000000000000) : Calls Tryz.prog 55 #[.slice a n c] w (fun e w' => ∃ s : Sl, e = .returned (.slice s.1 s.2.1 s.2.2) ∧ KRow bytC 1 5 w' w.heap.size (slV s) bs ∧ Below w.heap.size w w') := by
  have HB := Lib.hid h
  have hn : bs.length = n := h.2.1
  clear h
  cases a with
  | none =>
    have h0 : bs = [] := by
      rcases HB.out.2.2.2 with h | ⟨_, _, h, _⟩
      · exact List.eq_nil_of_length_eq_zero (hn.trans h)
      · cases h
    subst h0
    have hc0 : n = 0 := hn.symm
    subst hc0
    have hq : ∀ w, (binOp .eql 26 (.slice none 0 c) (.slice none 0 0)).run Tryz.prog w = .ok (.bool true) w := fun w => Lib.run_eql_slice_nil w _ _ none 0 c 0 0 Tryz.underlying26
    go_enter Tryz.func55, Tryz.ntmps55
    go_wp2_with fail
    go_ret
    exact ⟨(none, 0, 0), rfl, KRow.nil _ _ _ _ _, Below.refl _ _⟩
  | some ad =>
    have hq : ∀ w, (binOp .eql 26 (.slice (some ad) n c) (.slice none 0 0)).run Tryz.prog w = .ok (.bool false) w := fun w => Lib.run_eql_slice_nil w _ _ (some ad) n c 0 0 Tryz.underlying26
    have HE := Lib.hid (KRow.empty bytC 1 5 w)
    have HBA := Lib.hid ((Below.refl w.heap.size w).alloc (Nat.le_refl _) (.cells #[] 5))
    go_enter Tryz.func55, Tryz.ntmps55
    go_wp2_with (at_builtin; refine wpList_app elemByt encByt rfl _ _ rfl w.heap.size _ [] rfl HE.out _ _ _ bs rfl (HB.out.below HBA.out).2 (by simp; omega) (by simp) ?_)
    intro v6 w6 hr6 hb6 hg6 ho6
    obtain ⟨a6, c6, hv6, _, _⟩ := KRow.at_ encByt hr6
    have HR := Lib.hid hr6
    have HB6 := Lib.hid (HBA.out.trans hb6)
    clear hr6 hb6 hg6 ho6
    go_wp2_with fail
    go_ret
    exact ⟨(a6, _, c6), by rw [hv6]; rfl, by rw [hv6] at HR; exact HR.out, HB6.out⟩
end Go.Proofs.YtihbpggbpapcfaaGreatDoor
