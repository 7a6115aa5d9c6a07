/- Texts V74, V75, V76, V80, V81, joined: walks and laws. -/
import Derived.Lib.SplitLaws
import Derived.Test.YtcifdllbnbhcdaaGreatDoorMV12
set_option linter.unusedSimpArgs false
set_option linter.unusedVariables false
namespace Go.Proofs.YtcifdllbnbhcdaaGreatDoor
open Go.RowKit
def hexA (n k : Nat) : List Value := List.replicate (65 - k) (.int .u8 0) ++ (hexK k n).flatMap bytC
theorem hexA_len (n k : Nat) (h : k ≤ 65) : (hexA n k).length = 65 := by
  unfold hexA
  rw [List.length_append, List.length_replicate, flat_len bytC 1 encByt.len, hexK_len]; omega
theorem hexA_set (n k : Nat) (h : k < 65) : (hexA n k).set (64 - k) (.int .u8 (hexD (n / 16 ^ k % 16)).toNat) = hexA n (k + 1) := by
  unfold hexA
  rw [hexK_front, List.flatMap_cons]
  rw [show 65 - k = (64 - k) + 1 by omega, List.replicate_succ', List.append_assoc, List.set_append_right _ _ (by simp), List.length_replicate, Nat.sub_self]
  rw [show 65 - (k + 1) = 64 - k by omega]
  rfl
theorem ofU64 (m : Nat) (h : m < 18446744073709551616) : (BitVec.ofInt 64 (m : Int)).toNat = m := by
  rw [BitVec.ofInt_natCast, BitVec.toNat_ofNat]; exact Nat.mod_eq_of_lt (by omega)
theorem uand15 (m : Nat) (h : m < 4294967296) : bits .and .u64 (m : Int) 15 = ((m % 16 : Nat) : Int) := by
  show IntKind.u64.wrap (((BitVec.ofInt 64 (m : Int) &&& BitVec.ofInt 64 ((15 : Nat) : Int)).toNat : Nat) : Int) = _
  rw [BitVec.toNat_and, ofU64 m (by omega), ofU64 15 (by omega), show (15 : Nat) = 2 ^ 4 - 1 by decide, Nat.and_two_pow_sub_one_eq_mod]
  rw [IntKind.wrap_u64]; omega
theorem hexTab36 (d : Nat) (h : d < 36) (h2 : d < 16) : (⟨#[48, 49, 50, 51, 52, 53, 54, 55, 56, 57, 97, 98, 99, 100, 101, 102, 103, 104, 105, 106, 107, 108, 109, 110, 111, 112, 113, 114, 115, 116, 117, 118, 119, 120, 121, 122]⟩ : ByteArray)[d]'h = hexD d := by
  have : ∀ d : Fin 16, (⟨#[48, 49, 50, 51, 52, 53, 54, 55, 56, 57, 97, 98, 99, 100, 101, 102, 103, 104, 105, 106, 107, 108, 109, 110, 111, 112, 113, 114, 115, 116, 117, 118, 119, 120, 121, 122]⟩ : ByteArray)[d.val]'(Nat.lt_trans d.isLt (by decide)) = hexD d.val := by decide
  exact this ⟨d, h2⟩
theorem pow2_any (w : World) : Calls Tryz.prog 206 #[.int .i64 16] w (RetS (.bool true) w) := by
  have hb : bits .and .i64 16 15 = 0 := by decide
  go_enter Tryz.func206, Tryz.ntmps206
  go_wp2_with fail
  go_ret
  exact ⟨rfl, rfl⟩
set_option maxRecDepth 100000 in
set_option maxHeartbeats 4000000 in
theorem fb_any (x : Nat) (hx : x < 4294967296) (w : World) (hT : Tz w) : Calls Tryz.prog 116 #[.slice none 0 0, .int .u64 x, .int .i64 16, .bool false, .bool false] w (fun e w' => ∃ k, k ≤ 8 ∧ x < 16 ^ k ∧ e = .returned (.tuple #[.slice none 0 0, .string (arr (hexK k x))]) ∧ Below w.heap.size w w') := by
  have HT := Lib.hid hT
  clear hT
  go_enter Tryz.func116, Tryz.ntmps116
  go_upto_region 5 with fail
  have hz : Tryz.zeroCells336 = (hexA x 0).toArray := by kernel_rfl
  rw [hz]
  have HBW := Lib.hid ((Below.refl w.heap.size w).alloc (Nat.le_refl _) (.cells (hexA x 0).toArray 336))
  have HHP := Lib.hid (heap_alloc_new w (.cells (hexA x 0).toArray 336))
  clear hz
  generalize w.alloc (.cells (hexA x 0).toArray 336) = w1 at *
  obtain ⟨g, hg⟩ : ∃ g, g = w.heap.size := ⟨_, rfl⟩
  rw [← hg] at HBW HHP ⊢
  have HG := Lib.hid hg
  clear hg
  have PW := Lib.hid (pow2_any w1)
  have TZ := Lib.hid (tz_any 16 (by omega) w1 (HT.out.below (by have := HBW.out; rw [HG.out] at this; exact this)))
  have hct : Lib.ctz 64 16 = 4 := by decide
  rw [hct] at TZ
  clear hct
  go_wp2_with fail
  refine PW.out.mono ?_
  rintro en w2 ⟨rfl, rfl⟩
  go_wp2_with fail
  refine TZ.out.mono ?_
  rintro en w3 ⟨rfl, rfl⟩
  go_wp2_with fail
  go_loopw [1, 13] (fun m i wr => ∃ k : Nat, k ≤ 7 ∧ i = .int .i64 (65 - (k : Int)) ∧ m = .int .u64 ((x / 16 ^ k : Nat) : Int) ∧ Hid (wr.heap[g]? = some (.cells (hexA x k).toArray 336 (0, 0))) ∧ Hid (Below g w wr)) (fun _ i _ => (intOf i + 1).toNat)
  case atStart => exact ⟨0, by omega, rfl, by rw [Nat.pow_zero, Nat.div_one], HHP, HBW⟩
  case round =>
    obtain ⟨k, hk, rfl, rfl, HH, HB⟩ := hrel
    have hcs := hexA_len x k (by omega)
    have hcell : wr.cell? ⟨g, 64 - k, none⟩ = some ((hexA x k)[64 - k]'(by omega)) := by
      rw [cell_of_row _ _ (64 - k) _ _ _ HH.out, List.getElem?_toArray, List.getElem?_eq_getElem (by omega)]
    have hfz : wr.frozen? ⟨g, 64 - k, none⟩ = false := frozen_of_row _ _ _ _ _ HH.out
    have hle : x / 16 ^ k ≤ x := Nat.div_le_self _ _
    have hdv : Hid (x / 16 ^ (k + 1) = x / 16 ^ k / 16) := Lib.hid (by rw [Nat.pow_succ, Nat.div_div_eq_div_mul])
    have HST := Lib.hid (hexA_set x k (by omega))
    have HSA : Hid (∀ u : Value, (wr.setCell ⟨g, 64 - k, none⟩ u).heap[g]? = some (.cells ((hexA x k).set (64 - k) u).toArray 336 (0, 0))) := Lib.hid (fun u => by
      rw [heap_setCell_same wr g (64 - k) _ _ u HH.out, List.setIfInBounds_toArray])
    have HBS : Hid (∀ u : Value, Below g w (wr.setCell ⟨g, 64 - k, none⟩ u)) := Lib.hid (fun u => HB.out.setCell (p := ⟨g, 64 - k, none⟩) (Nat.le_refl g) u)
    have hi1 : (65 : Int) - (k : Int) - 1 = ((64 - k : Nat) : Int) := by omega
    have hiw : IntKind.i64.wrap ((65 : Int) - (k : Int) - 1) = (65 : Int) - (k : Int) - 1 := IntWalk.i64_in _ (by omega)
    have hit : ((65 : Int) - (k : Int) - 1).toNat = 64 - k := by omega
    have hib0 : (0 : Int) ≤ (65 : Int) - (k : Int) - 1 := by omega
    have hib1 : (65 : Int) - (k : Int) - 1 < 65 := by omega
    by_cases hge : 16 ≤ x / 16 ^ k
    · have hk7 : k < 7 := by
        rcases Nat.lt_or_ge k 7 with h | h
        · exact h
        · obtain rfl : k = 7 := by omega
          have : x / 16 ^ 7 < 16 := (Nat.div_lt_iff_lt_mul (by decide)).2 (by omega)
          omega
      have hm16 : x / 16 ^ k % 16 < 16 := Nat.mod_lt _ (by omega)
      have hb15 : bits .and .u64 ((x / 16 ^ k : Nat) : Int) 15 = ((x / 16 ^ k % 16 : Nat) : Int) := uand15 _ (by omega)
      generalize x / 16 ^ k = m at *
      generalize m % 16 = d at *
      have hge2 : (16 : Int) ≤ (m : Int) := by omega
      have hd36 : (d : Int) < 36 := by omega
      have hd0 : (0 : Int) ≤ (d : Int) := by omega
      have hgd : d < 36 := by omega
      go_wp2_with fail
      go_roundw
      case rel =>
        refine ⟨k + 1, by omega, by go_num, by rw [hdv.out]; go_num, Lib.hid ?_, Lib.hid (HBS.out _)⟩
        rw [HSA.out, hexTab36 d hgd hm16, HST.out]
      case measure => simp [intOf]; omega
    · have hm16 : x / 16 ^ k % 16 = x / 16 ^ k := Nat.mod_eq_of_lt (by omega)
      rw [hm16] at HST
      have hlt2 : x / 16 ^ k < 16 := by omega
      have hxk : Hid (x < 16 ^ (k + 1)) := Lib.hid (by
        have := (Nat.div_lt_iff_lt_mul (Nat.pow_pos (n := k) (by decide : 0 < 16))).1 hlt2
        rw [Nat.pow_succ]; omega)
      clear hm16 hge hdv
      generalize x / 16 ^ k = d at *
      have hge2 : (d : Int) < 16 := by omega
      have hd36 : (d : Int) < 36 := by omega
      have hd0 : (0 : Int) ≤ (d : Int) := by omega
      have hgd : d < 36 := by omega
      have HCV : Hid (∀ u : Value, u = .int .u8 ((hexD d).toNat : Int) → (convert 62 9 (.slice (some ⟨g, 64 - k, none⟩) (k + 1) (k + 1))).run Tryz.prog (wr.setCell ⟨g, 64 - k, none⟩ u) = .ok (.string (arr (hexK (k + 1) x))) (wr.setCell ⟨g, 64 - k, none⟩ u)) := Lib.hid (fun u hu => by
        refine conv_str (d := hexK (k + 1) x) ⟨hexK_len _ _, by omega, Or.inr ⟨g, 64 - k, rfl, ?_⟩⟩
        subst hu
        have h1 := HSA.out (.int .u8 ((hexD d).toNat : Int))
        rw [HST.out] at h1
        intro j y hj o v hv
        rw [cell_of_row _ _ _ _ _ _ h1, List.getElem?_toArray]
        unfold hexA
        rw [List.getElem?_append_right (by rw [List.length_replicate]; omega), List.length_replicate]
        rw [show 64 - k + (j * 1 + o) - (65 - (k + 1)) = j * 1 + o by omega]
        have ho : o < 1 := by
          have := (List.getElem?_eq_some_iff.1 hv).1
          rw [encByt.len] at this; exact this
        rw [flat_at bytC 1 encByt.len _ j o y hj ho]; exact hv)
      have hsl : ∀ W : World, (Instr.sliceAt 336 (.pointer (some ⟨g, 0, none⟩)) (some (.int .i64 ((64 - k : Nat) : Int))) none none).run Tryz.prog W = .ok (.slice (some ⟨g, 64 - k, none⟩) (k + 1) (k + 1)) W := fun W => by
        have h2 : ¬ 65 = 64 - k := by omega
        have h3 : 65 - (64 - k) = k + 1 := by omega
        have := run_sliceAt_array_l (P := Tryz.prog) W 336 ⟨g, 0, none⟩ Tryz.underlying336 .i64 ((64 - k : Nat) : Int) (by omega) (by show _ ≤ ((65 : Nat) : Int); omega)
        rw [this]
        simp [go_sem, h2, h3]
      have HCV2 := HCV.out (.int .u8 ((hexD d).toNat : Int)) rfl
      rw [← hexTab36 d hgd (by omega)] at HCV2
      have hBS := HBS.out (.int .u8 ((hexD d).toNat : Int))
      rw [← hexTab36 d hgd (by omega)] at hBS
      have HBS2 := Lib.hid hBS
      clear hBS HBS HSA HST
      go_wp2_with fail
      go_ret2
      exact ⟨k + 1, by omega, hxk.out, rfl, by rw [← HG.out]; exact HBS2.out⟩
theorem hexK_pad : ∀ (k m x : Nat), x < 16 ^ k → hexK (k + m) x = List.replicate m 48 ++ hexK k x
  | 0, 0, x, _ => rfl
  | 0, m + 1, x, h => by
    have h0 : x = 0 := by simp at h; exact h
    subst h0
    have := hexK_pad 0 m 0 (by simp)
    rw [Nat.zero_add] at this ⊢
    show hexK m (0 / 16) ++ [hexD (0 % 16)] = List.replicate (m + 1) 48 ++ hexK 0 0
    rw [Nat.zero_div, this, List.replicate_succ']
    simp [hexK, hexD]
  | k + 1, m, x, h => by
    have hd : x / 16 < 16 ^ k := by rw [Nat.pow_succ] at h; exact (Nat.div_lt_iff_lt_mul (by decide)).2 h
    have := hexK_pad k m (x / 16) hd
    rw [show k + 1 + m = (k + m) + 1 by omega, hexK, this, hexK, List.append_assoc]
theorem rep48 : ∀ (c : Nat), Lib.repeatL [48] c = List.replicate c (48 : UInt8)
  | 0 => rfl
  | c + 1 => by
    have := rep48 c
    simp only [Lib.repeatL] at this ⊢
    first | (rw [this]; rfl) | (simp [this, List.replicate_succ]) 
set_option maxRecDepth 100000 in
set_option maxHeartbeats 4000000 in
theorem fint_any (x : Nat) (hx : x < 4294967296) (w : World) (hT : Tz w) : Calls Tryz.prog 384 #[.int .i64 x, .int .i64 16] w (fun e w' => ∃ k, k ≤ 8 ∧ x < 16 ^ k ∧ e = .returned (.string (arr (hexK k x))) ∧ Below w.heap.size w w') := by
  have FI : Calls Tryz.prog 78 #[.int .i64 x, .int .i64 16] w (fun e w' => ∃ k, k ≤ 8 ∧ x < 16 ^ k ∧ e = .returned (.string (arr (hexK k x))) ∧ Below w.heap.size w w') := by
    have FB := Lib.hid (fb_any x hx w hT)
    clear hT
    have hx0 : (0 : Int) ≤ x := by omega
    go_enter Tryz.func78, Tryz.ntmps78
    go_wp2_with fail
    refine FB.out.mono ?_
    rintro en w2 ⟨k, hk, hxk, rfl, hb⟩
    go_wp2_with fail
    go_ret
    exact ⟨k, hk, hxk, rfl, hb⟩
  have FI := Lib.hid FI
  clear hT
  go_enter Tryz.func384, Tryz.ntmps384
  go_wp2_with fail
  refine FI.out.mono ?_
  rintro en w2 ⟨k, hk, hxk, rfl, hb⟩
  go_wp2_with fail
  go_ret
  exact ⟨k, hk, hxk, rfl, hb⟩
set_option maxRecDepth 100000 in
set_option maxHeartbeats 4000000 in
theorem hex_any (x : Nat) (hx : x < 4294967296) (w : World) (hT : Tz w) : Calls Tryz.prog 336 #[.int .i64 x] w (RetB (.string (arr (hexK 8 x))) w) := by
  have FI := Lib.hid (fint_any x hx w hT)
  clear hT
  go_enter Tryz.func336, Tryz.ntmps336
  go_wp2_with fail
  refine FI.out.mono ?_
  rintro en w2 ⟨k, hk, hxk, rfl, hb⟩
  have hsz : (arr (hexK k x)).size = k := by rw [arr_size, hexK_len]
  have hw8 : IntKind.i64.wrap (8 - (k : Int)) = 8 - (k : Int) := IntWalk.i64_in _ (by omega)
  obtain ⟨c, hc⟩ : ∃ c : Nat, (8 : Int) - (k : Int) = c := ⟨8 - k, by omega⟩
  have hck : k + c = 8 := by omega
  have HF : Hid (hexK 8 x = List.replicate c 48 ++ hexK k x) := Lib.hid (by rw [← hck]; exact hexK_pad k c x hxk)
  have hc8 : c ≤ 8 := by omega
  have RP := Lib.hid (Tryz.strings_Repeat ⟨#[48]⟩ c w2 (by omega) (by show 1 * c ≤ _; omega))
  have hre : (⟨(Lib.repeatL (⟨#[48]⟩ : ByteArray).data.toList c).toArray⟩ : ByteArray) = arr (List.replicate c 48) := by
    rw [← rep48 c]; rfl
  rw [hre] at RP
  have hrs : (arr (List.replicate c (48 : UInt8))).size = c := by rw [arr_size, List.length_replicate]
  have hno : ¬ 9223372036854775807 < c + k := by omega
  generalize hexK k x = X at *
  generalize (List.replicate c (48 : UInt8)) = Y at *
  clear hre hxk FI
  go_wp2_with fail
  refine RP.out.mono ?_
  rintro en w3 ⟨rfl, hb3⟩
  go_wp2_with fail
  go_ret
  exact ⟨by rw [HF.out, ← arr_app]; rfl, below3 hb hb3⟩
end Go.Proofs.YtcifdllbnbhcdaaGreatDoor
namespace Go.Proofs.YtcifdllbnbhcdaaGreatDoor
open Go.RowKit
set_option maxRecDepth 100000 in
set_option maxHeartbeats 4000000 in
theorem bytes_any (B b : Nat) (bs : L8) (w : World) (h : Wr B b bs w) : Calls Tryz.prog 338 #[.pointer (some ⟨b, 0, none⟩)] w (fun e w' => ∃ s : Sl, e = .returned (.slice s.1 s.2.1 s.2.2) ∧ BV w' s bs ∧ (∃ q, w' = w.drewN q)) := by
  obtain ⟨_, v, lr, h2, h3, _⟩ := h
  have hk : KRow bytC 1 5 w B v bs := by
    have := flat_byt bs
    unfold KRow
    rw [this] at h3
    exact h3
  obtain ⟨a, cap, hv, hc, hb⟩ := KRow.at_ encByt hk
  have HB := Lib.hid (show BV w (a, bs.length, cap) bs from ⟨hc, hb⟩)
  have x0 := h2.c0
  have x1 := h2.c1
  subst hv
  clear hk h3 h2 hb
  have hl : (0 : Int) ≤ bs.length := by omega
  go_enter Tryz.func338, Tryz.ntmps338
  go_upto_region 1 with fail
  rw [Nat.zero_add] at x1
  cases a with
  | none =>
    go_quiet (fail)
    go_wp2_with fail
    go_ret
    exact ⟨(none, bs.length, cap), rfl, HB.out.below (below_drewN _ _), _, rfl⟩
  | some a =>
    go_quiet (fail)
    go_wp2_with fail
    go_ret
    exact ⟨(some a, bs.length, cap), rfl, HB.out.below (below_drewN _ _), _, rfl⟩
set_option maxRecDepth 100000 in
set_option maxHeartbeats 4000000 in
theorem bclone_any (a : Option Addr) (n c : Nat) (bs : L8) (w : World) (h : BV w (a, n, c) bs) (hl : bs.length ≤ 100000000000000) : Calls Tryz.prog 66 #[.slice a n c] w (fun e w' => ∃ s : Sl, e = .returned (.slice s.1 s.2.1 s.2.2) ∧ KRow bytC 1 5 w' w.heap.size (slV s) bs ∧ Below w.heap.size w w') := by
  have HB := Lib.hid h
  have hn : bs.length = n := h.2.1
  clear h
  cases a with
  | none =>
    have h0 : bs = [] := by
      rcases HB.out.2.2.2 with h | ⟨_, _, h, _⟩
      · exact List.eq_nil_of_length_eq_zero (hn.trans h)
      · cases h
    subst h0
    have hc0 : n = 0 := hn.symm
    subst hc0
    have hq : ∀ w, (binOp .eql 62 (.slice none 0 c) (.slice none 0 0)).run Tryz.prog w = .ok (.bool true) w := fun w => Lib.run_eql_slice_nil w _ _ none 0 c 0 0 Tryz.underlying62
    go_enter Tryz.func66, Tryz.ntmps66
    go_wp2_with fail
    go_ret
    exact ⟨(none, 0, 0), rfl, KRow.nil _ _ _ _ _, Below.refl _ _⟩
  | some ad =>
    have hq : ∀ w, (binOp .eql 62 (.slice (some ad) n c) (.slice none 0 0)).run Tryz.prog w = .ok (.bool false) w := fun w => Lib.run_eql_slice_nil w _ _ (some ad) n c 0 0 Tryz.underlying62
    have HE := Lib.hid (KRow.empty bytC 1 5 w)
    have HBA := Lib.hid ((Below.refl w.heap.size w).alloc (Nat.le_refl _) (.cells #[] 5))
    go_enter Tryz.func66, Tryz.ntmps66
    go_wp2_with (at_builtin; refine wpList_app elemByt encByt rfl _ _ rfl w.heap.size _ [] rfl HE.out _ _ _ bs rfl (HB.out.below HBA.out).2 (by simp; omega) (by simp) ?_)
    intro v6 w6 hr6 hb6 hg6 ho6
    obtain ⟨a6, c6, hv6, _, _⟩ := KRow.at_ encByt hr6
    have HR := Lib.hid hr6
    have HB6 := Lib.hid (HBA.out.trans hb6)
    clear hr6 hb6 hg6 ho6
    go_wp2_with fail
    go_ret
    exact ⟨(a6, _, c6), by rw [hv6]; rfl, by rw [hv6] at HR; exact HR.out, HB6.out⟩
end Go.Proofs.YtcifdllbnbhcdaaGreatDoor
namespace Go.Proofs.YtcifdllbnbhcdaaGreatDoor
open Go.RowKit
theorem enc_parts (num wk : Int) (cs : List Chg) : (encV (num, wk, cs)).length = (lnT (verW (num, wk, cs))).length + (cs.flatMap chgT).length + (endT (verT (num, wk, cs))).length := by
  unfold encV
  rw [List.length_append]
  conv => lhs; lhs; unfold verT
  rw [List.length_append]
theorem chg_split {cs : List Chg} {j : Nat} {x : Chg} (h : cs[j]? = some x) : ((cs.take (j + 1)).flatMap chgT).length ≤ (cs.flatMap chgT).length ∧ (cs.take (j + 1)).flatMap chgT = (cs.take j).flatMap chgT ++ chgT x := by
  refine ⟨?_, flat_take chgT h⟩
  conv => rhs; rw [← List.take_append_drop (j + 1) cs]
  rw [List.flatMap_append, List.length_append]; omega
set_option maxRecDepth 100000 in
set_option maxHeartbeats 16000000 in
theorem encode_any (v : Ver) (s : Sl) (w : World) (hv : HV w s v.2.2) (hk : VOk v) (hE : Env w) (hn : v.2.2.length ≤ 1000000) (hz : ∀ c ∈ v.2.2, c.2.1.length * 64 ≤ 140737488355328 ∧ c.2.2.length * 64 ≤ 140737488355328) (hel : frmV v = true → (encV v).length ≤ 1000000000000) :
    Calls Tryz.prog 279 #[verV v.1 v.2.1 s] w (ResB (if frmV v = true then (0, encV v) else (1, [])) w) := by
  have FM := Lib.hid (fun W (h : Below w.heap.size w W) => formed_any v s W (hv.below h) hk (hE.tz.below h) hn hz)
  have HP := Lib.hid (fun h : frmV v = true => (frm_parts h))
  obtain ⟨num, wk, cs⟩ := v
  obtain ⟨sa, sn, sc⟩ := s
  have hl : cs.length = sn := hv.2.len.1
  simp only at hn
  have HX := Lib.hid hv.2
  have HEE := Lib.hid hE
  have HEL := Lib.hid hel
  clear hv hk hE hz hel
  obtain ⟨fr, hfr⟩ : ∃ b, frmV (num, wk, cs) = b := ⟨_, rfl⟩
  rw [hfr] at FM HP HEL ⊢
  clear hfr
  obtain ⟨pr, hpr⟩ : ∃ pr, pr = (if fr = true then (0, encV (num, wk, cs)) else ((1 : Int), ([] : L8))) := ⟨_, rfl⟩
  rw [← hpr]
  have HPR := Lib.hid hpr
  clear hpr
  have HA := Lib.hid (BX.mk0 (vs := #[.int .i64 num, .int .i64 wk, .slice sa sn sc]) (T := 157) w)
  change Hid (∀ W, Below w.heap.size w W → Calls _ _ #[.agg #[.int .i64 num, .int .i64 wk, .slice sa sn sc]] W _) at FM
  show Calls _ _ #[.agg #[.int .i64 num, .int .i64 wk, .slice sa sn sc]] w _
  go_enter Tryz.func279, Tryz.ntmps279
  go_upto_region 1 with fail
  generalize w.alloc (.cells #[.int .i64 num, .int .i64 wk, .slice sa sn sc] 157) = wa at *
  obtain ⟨R, hR⟩ : ∃ R, R = w.heap.size := ⟨_, rfl⟩
  rw [← hR] at HA ⊢
  clear hR
  have g0 := HA.out.cell 0
  have g1 := HA.out.cell 1
  have g2 := HA.out.cell 2
  simp only [List.getElem?_toArray, List.getElem?_cons_zero, List.getElem?_cons_succ] at g0 g1 g2
  go_wp2_with fail
  refine (FM.out _ HA.out.bl).mono ?_
  rintro en w1 ⟨rfl, hb1⟩
  have HA := Lib.hid (HA.out.next hb1)
  clear hb1 FM g0 g1 g2
  cases fr
  · go_wp2_with fail
    go_ret2
    rw [HPR.out, if_neg (by simp)]
    exact ⟨(none, 0, 0), rfl, BV.nil _, HA.out.bl⟩
  have HPR : Hid (pr = (0, encV (num, wk, cs))) := Lib.hid (by rw [HPR.out, if_pos rfl])
  obtain ⟨⟨hn1, hn2, hw1, hw2, hne⟩, _, hch⟩ := HP.out rfl
  have HCH := Lib.hid hch
  have hen := HEL.out rfl
  have HEN := Lib.hid (enc_parts num wk cs)
  have hln1 : (lnT (verW (num, wk, cs))).length + (cs.flatMap chgT).length + (endT (verT (num, wk, cs))).length ≤ 1000000000000 := by have := HEN.out; omega
  clear hch hen HEL HEN HP hne
  have HX1 := Lib.hid (HX.out.below HA.out.bl)
  have HE1 := Lib.hid (HEE.out.below HA.out.bl)
  have xp0 := HA.out.cell 0
  have xp1 := HA.out.cell 1
  have xp2 := HA.out.cell 2
  simp only [List.getElem?_toArray, List.getElem?_cons_zero, List.getElem?_cons_succ] at xp0 xp1 xp2
  have HW0 := Lib.hid (LibA.of_whole (Lib.fresh_isBuffer 450 5 w1))
  have HB2 := Lib.hid ((Below.refl w1.heap.size w1).alloc (Nat.le_refl _) (.cells #[.slice none 0 0, .int .i64 0, .int .i8 0] 450))
  obtain ⟨Rlt, hRlt⟩ : ∃ u : Unit, R < w1.heap.size := ⟨(), HA.out.lt⟩
  have g0 := xp0; have g1 := xp1; have g2 := xp2
  go_upto_region 4 with fail
  generalize w1.alloc (.cells #[.slice none 0 0, .int .i64 0, .int .i8 0] 450) = w2 at *
  obtain ⟨b, hb⟩ : ∃ b, b = w1.heap.size := ⟨_, rfl⟩
  have HW : Hid (Wr w1.heap.size b [] w2) := Lib.hid (by rw [hb]; exact HW0.out)
  rw [← hb]
  have hRb : R < b := by omega
  clear HW0 hb g0 g1 g2
  have x0 := below_cell9 HB2.out xp0
  have x1 := below_cell9 HB2.out xp1
  have x2 := below_cell9 HB2.out xp2
  have hsn : sn ≤ 1000000 := by omega
  have HVW : Hid (lnT (verW (num, wk, cs)) = lnT [[86], Lib.itoa num, Lib.itoa wk, Lib.itoa sn]) := Lib.hid (by rw [← hl]; rfl)
  have IT := Lib.hid (fun (m : Int) (W : World) (h0 : 0 ≤ m) (h1 : m ≤ 9223372036854775807) (h : Below w2.heap.size w2 W) => itoa_any m h0 h1 W (HE1.out.below (below3 HB2.out h)))
  have hz0 := HB2.out.size
  have LNW := Lib.hid (fun (W : World) (h : Below w2.heap.size w2 W) => line_any w1.heap.size b [] W.heap.size 0 4 [[86], Lib.itoa num, Lib.itoa wk, Lib.itoa sn] w1 (W.alloc (.cells ([[86], Lib.itoa num, Lib.itoa wk, Lib.itoa sn].flatMap strC).toArray 9)) (HW.out.keep (below3 h ((Below.refl _ _).alloc (Nat.le_refl _) _))) (by have := h.size; simp; omega) (KAt.news (f := strC) (k := 1) (fun _ => rfl) W _ _ (by simp)) (by simp) (by simp) (by simp) (by simp) (by rw [← HVW.out]; omega) (by simp))
  have BD := Lib.hid (bel_drew0 w2)
  go_region_held3 (fun w' => w'.cell? ⟨R, 0, none⟩ = some (.int .i64 num) ∧ w'.cell? ⟨R, 1, none⟩ = some (.int .i64 wk) ∧ w'.cell? ⟨R, 2, none⟩ = some (.slice sa sn sc)) (first | (with_reducible exact ⟨x0, x1, x2⟩) | go_keep) (first | (go_at_call 25; refine (IT.out _ _ (by omega) (by omega) (by first | with_reducible exact BQ.out | with_reducible exact BD.out)).mono ?_; rintro e9 w9 ⟨rfl, hb9⟩; have BQ : Hid (Below w2.heap.size w2 w9) := Lib.hid (by first | with_reducible exact below3 BQ.out hb9 | with_reducible exact below3 BD.out hb9); have x0 := below_cell9 (below3 HB2.out BQ.out) xp0; have x1 := below_cell9 (below3 HB2.out BQ.out) xp1; have x2 := below_cell9 (below3 HB2.out BQ.out) xp2; clear hb9) | (go_at_call 334; refine (LNW.out _ BQ.out).mono ?_; rintro e8 w8 ⟨rfl, h8, hb8, ho8⟩; have H8 := Lib.hid h8; have BA := Lib.hid (below3 BQ.out ((Below.refl _ _).alloc (Nat.le_refl _) (.cells ([[86], Lib.itoa num, Lib.itoa wk, Lib.itoa sn].flatMap strC).toArray 9))); have HB8 : Hid (Below w1.heap.size w1 w8) := Lib.hid ((below3 HB2.out BA.out).trans hb8); have x0 := below_cell9 HB8.out xp0; have x1 := below_cell9 HB8.out xp1; have x2 := below_cell9 HB8.out xp2; clear h8 hb8 ho8))
  have HWL : Hid (Wr w1.heap.size b (lnT (verW (num, wk, cs))) w8) := Lib.hid (by rw [HVW.out]; exact H8.out)
  clear H8 x0 x1 x2 BA LNW IT BD BQ hz0
  generalize hVL : lnT (verW (num, wk, cs)) = VL at *
  go_wp2_with fail
  go_loopw [28] (fun i wr => ∃ j : Nat, j ≤ sn ∧ i = .int .i64 j ∧ Hid (Wr w1.heap.size b (VL ++ (cs.take j).flatMap chgT) wr) ∧ Hid (Below w1.heap.size w1 wr)) (fun i _ => sn - (intOf i).toNat)
  case atStart => exact ⟨0, by omega, rfl, Lib.hid (by rw [List.take_zero, List.flatMap_nil, List.append_nil]; exact HWL.out), HB8⟩
  case round =>
    clear HWL HB8
    obtain ⟨j, hj, rfl, HW, HB⟩ := hrel
    by_cases hlt : j < sn
    · obtain ⟨b1, o1, x, p, q, rfl, gx, z1, y0, y1, y2, sp, sq⟩ := HAt.cells HX1.out hlt
      have hco := HCH.out x (List.mem_of_getElem? gx)
      obtain ⟨hcode, ⟨_, hv1⟩, _, hv2⟩ := chgOk_parts hco
      have hcl := (codeOk_of hcode).2.1
      have HK1 := Lib.hid (chkL_all (vld_parts hv1).2.2.1)
      have HK2 := Lib.hid (chkL_all (vld_parts hv2).2.2.1)
      have hp6 := (vld_parts hv1).2.1
      have hq6 := (vld_parts hv2).2.1
      obtain ⟨hle, HT⟩ := chg_split gx
      have HT := Lib.hid HT
      rw [HT.out, List.length_append] at hle
      have hct : (chgT x).length = (lnT (chgW x)).length + ((x.2.1.flatMap lineT).length + (x.2.2.flatMap lineT).length) := by unfold chgT; rw [List.length_append, List.length_append]
      rw [hct] at hle
      have HCT : Hid (chgT x = lnT (chgW x) ++ (x.2.1.flatMap lineT ++ x.2.2.flatMap lineT)) := Lib.hid rfl
      obtain ⟨pa, pn, pc⟩ := p
      obtain ⟨qa, qn, qc⟩ := q
      have hpn : x.2.1.length = pn := sp.2.1
      have hqn : x.2.2.length = qn := sq.2.1
      have HSP := Lib.hid sp.2
      have HSQ := Lib.hid sq.2
      have y0 := below_cell9 HB.out y0
      have y1 := below_cell9 HB.out y1
      have y2 := below_cell9 HB.out y2
      have HCW : Hid (lnT (chgW x) = lnT [[67], x.1, Lib.itoa pn, Lib.itoa qn]) := Lib.hid (by rw [← hpn, ← hqn]; rfl)
      clear hco hcode hv1 hv2 gx sp sq hct hVL
      have q1 : (j : Int) < sn := by omega
      have q2 : (0 : Int) ≤ j := by omega
      have hpn6 : pn ≤ 1000000 := by omega
      have hqn6 : qn ≤ 1000000 := by omega
      generalize (cs.take j).flatMap chgT = L at *
      generalize chgW x = cw at *
      obtain ⟨x1, x2, x3⟩ := x
      simp only at hle hcl hpn hqn HCT HCW HK1 HK2 hp6 hq6 y0 HSP HSQ
      have HC := Lib.hid (BX.mk0 (vs := #[.string (arr x1), .slice pa pn pc, .slice qa qn qc]) (T := 161) wr)
      go_upto_region 8 with fail
      generalize wr.alloc (.cells #[.string (arr x1), .slice pa pn pc, .slice qa qn qc] 161) = wd at *
      obtain ⟨C, hC⟩ : ∃ C, C = wr.heap.size := ⟨_, rfl⟩
      rw [← hC] at HC ⊢
      have hbC : b < C := by rw [hC]; exact LibA.IsBuffer.lt HW.out
      clear hC y0 y1 y2
      have yp0 := HC.out.cell 0
      have yp1 := HC.out.cell 1
      have yp2 := HC.out.cell 2
      simp only [List.getElem?_toArray, List.getElem?_cons_zero, List.getElem?_cons_succ] at yp0 yp1 yp2
      have y0 := yp0; have y1 := yp1; have y2 := yp2
      have HWd := Lib.hid (HW.out.keep HC.out.bl)
      have HBd := Lib.hid (below3 HB.out HC.out.bl)
      have hCp := Lib.hid HC.out.hp
      have IT := Lib.hid (fun (m : Int) (W : World) (h0 : 0 ≤ m) (h1 : m ≤ 9223372036854775807) (h : Below wd.heap.size wd W) => itoa_any m h0 h1 W (HE1.out.below (below3 HBd.out h)))
      have hz0 := HBd.out.size
      have hVL : (VL ++ L).length ≤ 1000000000000 := by rw [List.length_append]; omega
      have LNW := Lib.hid (fun (W : World) (h : Below wd.heap.size wd W) => line_any w1.heap.size b (VL ++ L) W.heap.size 0 4 [[67], x1, Lib.itoa pn, Lib.itoa qn] w1 (W.alloc (.cells ([[67], x1, Lib.itoa pn, Lib.itoa qn].flatMap strC).toArray 9)) (HWd.out.keep (below3 h ((Below.refl _ _).alloc (Nat.le_refl _) _))) (by have := h.size; simp; omega) (KAt.news (f := strC) (k := 1) (fun _ => rfl) W _ _ (by simp)) (by simp) (by simp) (by simp) (by simp) (by rw [← HCW.out]; omega) (by omega))
      have BD := Lib.hid (bel_drew0 wd)
      go_region_held3 (fun w' => w'.cell? ⟨C, 0, none⟩ = some (.string (arr x1)) ∧ w'.cell? ⟨C, 1, none⟩ = some (.slice pa pn pc) ∧ w'.cell? ⟨C, 2, none⟩ = some (.slice qa qn qc)) (first | (with_reducible exact ⟨y0, y1, y2⟩) | go_keep) (first | (go_at_call 25; refine (IT.out _ _ (by omega) (by omega) (by first | with_reducible exact BQ.out | with_reducible exact BD.out)).mono ?_; rintro e9 w9 ⟨rfl, hb9⟩; have BQ : Hid (Below wd.heap.size wd w9) := Lib.hid (by first | with_reducible exact below3 BQ.out hb9 | with_reducible exact below3 BD.out hb9); have y0 := below_cell9 BQ.out yp0; have y1 := below_cell9 BQ.out yp1; have y2 := below_cell9 BQ.out yp2; clear hb9) | (go_at_call 334; refine (LNW.out _ BQ.out).mono ?_; rintro e8 w8 ⟨rfl, h8, hb8, ho8⟩; have H8 := Lib.hid h8; have BA := Lib.hid (below3 BQ.out ((Below.refl _ _).alloc (Nat.le_refl _) (.cells ([[67], x1, Lib.itoa pn, Lib.itoa qn].flatMap strC).toArray 9))); have HB8 : Hid (Below w1.heap.size w1 w8) := Lib.hid ((below3 HBd.out BA.out).trans hb8); have HC8 := Lib.hid (oth_cells (b := b) hCp.out (Lib.OthersKept.trans (oth_bel BA.out) ho8) (by omega) (by decide)); have y0 := cell_of_row _ _ 0 _ _ _ HC8.out; have y1 := cell_of_row _ _ 1 _ _ _ HC8.out; have y2 := cell_of_row _ _ 2 _ _ _ HC8.out; simp only [List.getElem?_toArray, List.getElem?_cons_zero, List.getElem?_cons_succ] at y0 y1 y2; clear h8 hb8 ho8))
      have S1 := Lib.hid (sesw_any b (VL ++ L ++ lnT [[67], x1, Lib.itoa pn, Lib.itoa qn]) pa pn pc x2 w1 w8 HB8.out H8.out HSP.out HE1.out HK1.out hpn6 (by rw [List.length_append, ← HCW.out]; omega))
      go_wp2_with fail
      refine S1.out.mono ?_
      rintro en w9 ⟨rfl, h9, hb9, ho9⟩
      have H9 := Lib.hid h9
      have HB9 := Lib.hid hb9
      have HC9 := Lib.hid (oth_cells (b := b) HC8.out ho9 (by omega) (by decide))
      have S2 := Lib.hid (sesw_any b (VL ++ L ++ lnT [[67], x1, Lib.itoa pn, Lib.itoa qn] ++ x2.flatMap lineT) qa qn qc x3 w1 w9 HB9.out H9.out HSQ.out HE1.out HK2.out hqn6 (by rw [List.length_append, List.length_append, ← HCW.out]; omega))
      clear h9 hb9 ho9 y0 y1 y2
      have y2 := cell_of_row _ _ 2 _ _ _ HC9.out
      simp only [List.getElem?_toArray, List.getElem?_cons_zero, List.getElem?_cons_succ] at y2
      go_wp2_with fail
      refine S2.out.mono ?_
      rintro en w10 ⟨rfl, h10, hb10, _⟩
      have HWF : Hid (Wr w1.heap.size b (VL ++ (cs.take (j + 1)).flatMap chgT) w10) := Lib.hid (by
        rw [HT.out, HCT.out, HCW.out]
        simpa [List.append_assoc] using h10)
      have HBF := Lib.hid hb10
      clear h10 hb10
      go_wp2_with fail
      go_roundw
      case rel => exact ⟨j + 1, by omega, by go_num, HWF, HBF⟩
      case measure => simp [intOf]; omega
    · obtain rfl : sn = j := by omega
      have HT : Hid (Wr w1.heap.size b (verT (num, wk, cs)) wr) := Lib.hid (by
        have h := HW.out
        rw [List.take_of_length_le (by omega)] at h
        unfold verT
        rw [hVL]
        exact h)
      obtain ⟨T, hT⟩ : ∃ T, verT (num, wk, cs) = T := ⟨_, rfl⟩
      have hTl : T.length ≤ 1000000000000 := by
        have h2 : (verT (num, wk, cs)).length = VL.length + (cs.flatMap chgT).length := by unfold verT; rw [List.length_append, hVL]
        rw [← hT, h2]; omega
      rw [hT] at HT hln1
      have hEN : Hid (encV (num, wk, cs) = T ++ lnT [[69], hexK 8 (crcN T)]) := Lib.hid (by unfold encV; rw [hT]; rfl)
      have hcr : crcN T < 4294967296 := by unfold crcN; omega
      have hlE : (lnT [[69], hexK 8 (crcN T)]).length ≤ 1000000000000 := by
        have h : (endT T).length ≤ 1000000000000 := by omega
        exact h
      clear HW hT hVL hln1
      have BY := Lib.hid (bytes_any w1.heap.size b T wr HT.out)
      go_wp2_with fail
      refine BY.out.mono ?_
      rintro en w4 ⟨⟨ya, yn, yc⟩, rfl, hbv, hq⟩
      have HB4 := Lib.hid (below3 HB.out (drew_bel hq))
      have HT4 := Lib.hid (HT.out.keep (drew_bel hq))
      have SU := Lib.hid (sum_any ya yn yc T w4 hbv.2)
      clear hbv hq BY HT HB
      have HX4 := Lib.hid (hex_any (crcN T) hcr w4 (HE1.out.tz.below HB4.out))
      go_wp2_with fail
      refine SU.out.mono ?_
      rintro en w5 ⟨rfl, rfl⟩
      go_wp2_with fail
      refine HX4.out.mono ?_
      rintro en w5 ⟨rfl, hb5⟩
      have HB5 := Lib.hid (below3 HB4.out hb5)
      have HT5 := Lib.hid (HT4.out.keep hb5)
      have hz0 := HB5.out.size
      have HC5 := Lib.hid ((Below.refl w5.heap.size w5).alloc (Nat.le_refl _) (.cells ([[69], hexK 8 (crcN T)].flatMap strC).toArray 9))
      have LNW := Lib.hid (fun (W : World) (h : Below w5.heap.size w5 W) => line_any w1.heap.size b T W.heap.size 0 2 [[69], hexK 8 (crcN T)] w1 (W.alloc (.cells ([[69], hexK 8 (crcN T)].flatMap strC).toArray 9)) (HT5.out.keep (below3 h ((Below.refl _ _).alloc (Nat.le_refl _) _))) (by have := h.size; simp; omega) (KAt.news (f := strC) (k := 1) (fun _ => rfl) W _ _ (by simp)) (by simp) (by simp) (by simp) (by simp) (by omega) (by omega))
      have BR := Lib.hid (Below.refl w5.heap.size w5)
      clear hb5 HX4 SU HT4 HB4
      generalize hexK 8 (crcN T) = X at *
      go_wp2_with fail
      refine (LNW.out _ BR.out).mono ?_
      rintro en w6 ⟨rfl, h6, hb6, _⟩
      have HB6 := Lib.hid ((below3 HB5.out HC5.out).trans hb6)
      have BY := Lib.hid (bytes_any w1.heap.size b _ w6 h6)
      clear h6 hb6 LNW
      go_wp2_with fail
      refine BY.out.mono ?_
      rintro en w7 ⟨⟨ya', yn', yc'⟩, rfl, hbv, hq⟩
      have CL := Lib.hid (bclone_any ya' yn' yc' _ w7 hbv (by rw [List.length_append]; omega))
      have HB7 := Lib.hid (below3 HB6.out (drew_bel hq))
      clear hbv hq
      go_wp2_with fail
      refine CL.out.mono ?_
      rintro en w9 ⟨sz, rfl, hrz, hbz⟩
      have HZ := Lib.hid (bv_of hrz)
      have HB9 := Lib.hid (below3 HA.out.bl (below3 HB7.out hbz))
      clear hrz hbz
      go_wp2_with fail
      go_ret2
      rw [HPR.out, hEN.out]
      exact ⟨sz, rfl, HZ.out, HB9.out⟩
end Go.Proofs.YtcifdllbnbhcdaaGreatDoor
namespace Go.Proofs.YtcifdllbnbhcdaaGreatDoor
open Go.RowKit
def badP : List PanicEntry := [{ v := .iface 510 (.agg #[]), recovered := false }]
def NumR (r : Option Int) (w : World) (e : Ending) (w' : World) : Prop := (match r with | some v => e = .returned (.int .i64 v) | none => e = .panicked badP) ∧ Below w.heap.size w w'
set_option maxRecDepth 100000 in
set_option maxHeartbeats 4000000 in
theorem number_any (s : L8) (w : World) (hE : Env w) (hl : s.length ≤ 281474976710656) : Calls Tryz.prog 357 #[.string (arr s)] w (NumR (nuP s) w) := by
  have hsz : (arr s).size ≤ 281474976710656 := by rw [arr_size]; exact hl
  obtain ⟨ev, hev, hvv⟩ := hE.syn
  obtain ⟨rv, hrv, hrr⟩ := hE.rng
  obtain ⟨r, hr⟩ : ∃ r, nuP s = r := ⟨_, rfl⟩
  have HR : Hid (nuP s = match Lib.atoiAll s with | .ok v => some v | _ => none) := Lib.hid rfl
  rw [hr] at HR ⊢
  clear hr
  cases hat : Lib.atoiAll s with
  | ok v =>
    have HR2 : Hid (r = some v) := Lib.hid (by rw [HR.out, hat])
    have AT := Lib.hid (Tryz.strconv_Atoi_ok (arr s) (by omega) v hat w)
    clear HR
    go_enter Tryz.func357, Tryz.ntmps357
    go_wp2_with fail
    refine AT.out.mono ?_
    rintro en w2 ⟨rfl, hw⟩
    have HB : Hid (Below w.heap.size w w2) := Lib.hid (by
      rcases hw with rfl | ⟨t, rfl⟩
      · exact Below.refl _ _
      · exact Lib.bytesWorld_below _ _ _)
    clear hw
    go_wp2_with fail
    go_ret
    rw [HR2.out]
    exact ⟨rfl, HB.out⟩
  | range =>
    have HR2 : Hid (r = none) := Lib.hid (by rw [HR.out, hat])
    have AT := Lib.hid (Tryz.strconv_Atoi_range (arr s) hsz hat rv w hrv hrr)
    clear HR
    go_enter Tryz.func357, Tryz.ntmps357
    go_wp2_with fail
    refine AT.out.mono ?_
    rintro en w2 ⟨N, rfl, hN, hh, hb⟩
    go_wp2_with fail
    refine ⟨rfl, ?_⟩
    rw [HR2.out]
    exact ⟨rfl, hb⟩
  | _ =>
    have HR2 : Hid (r = none) := Lib.hid (by rw [HR.out, hat])
    have AT := Lib.hid (Tryz.strconv_Atoi_syntax (arr s) hsz hat ev w hev hvv)
    clear HR
    go_enter Tryz.func357, Tryz.ntmps357
    go_wp2_with fail
    refine AT.out.mono ?_
    rintro en w2 ⟨N, rfl, hN, hh, hb⟩
    go_wp2_with fail
    refine ⟨rfl, ?_⟩
    rw [HR2.out]
    exact ⟨rfl, hb⟩
end Go.Proofs.YtcifdllbnbhcdaaGreatDoor
namespace Go.Proofs.YtcifdllbnbhcdaaGreatDoor
open Go.RowKit
theorem index_cons_ne (b c : UInt8) (l : L8) (h : b ≠ c) : Lib.index (b :: l) [c] = if Lib.index l [c] = -1 then -1 else Lib.index l [c] + 1 := by
  have hp : ([c] : List UInt8).isPrefixOf (b :: l) = false := by simp [List.isPrefixOf, Ne.symm h]
  rw [Lib.index, hp]; simp
theorem index_cons_eq (c : UInt8) (l : L8) : Lib.index (c :: l) [c] = 0 := by rw [Lib.index]; simp [List.isPrefixOf]
theorem index_nil1 (c : UInt8) : Lib.index [] [c] = -1 := by simp [Lib.index]
theorem ctl_idx : ∀ d : L8, ctl d = if Lib.index d [10] = -1 then none else some (d.take (Lib.index d [10]).toNat, d.drop ((Lib.index d [10]).toNat + 1))
  | [] => by rw [index_nil1]; rfl
  | b :: l => by
    unfold ctl
    by_cases h : b = 10
    · subst h; rw [if_pos rfl, index_cons_eq]; rfl
    · rw [if_neg h, ctl_idx l, index_cons_ne b 10 l h]
      have hge := Lib.index_ge l [10]
      by_cases hm : Lib.index l [10] = -1
      · rw [if_pos hm, if_pos hm]; rfl
      · rw [if_neg hm, if_neg hm, if_neg (by omega)]
        obtain ⟨j, hj⟩ : ∃ j : Nat, Lib.index l [10] = j := ⟨(Lib.index l [10]).toNat, by omega⟩
        rw [hj, show ((j : Int) + 1).toNat = j + 1 by omega, show ((j : Int)).toNat = j by omega]
        rfl
theorem idx_len : ∀ d : L8, Lib.index d [10] < (d.length : Int)
  | [] => by rw [index_nil1]; decide
  | b :: l => by
    by_cases h : b = 10
    · subst h; rw [index_cons_eq]; simp
    · rw [index_cons_ne b 10 l h]
      have := idx_len l
      split
      · simp; omega
      · simp; omega
theorem split_spl : ∀ l : L8, Lib.splitK [32] 0 (Lib.count l [32]) l = spl l
  | [] => by rw [Lib.count_one]; rfl
  | b :: l => by
    have ih := split_spl l
    unfold spl
    by_cases h : b = 32
    · subst h
      rw [if_pos rfl, Lib.count_one, List.count_cons_self, ← Lib.count_one]
      rw [Lib.splitK, index_cons_eq, if_neg (by decide), ← ih]; rfl
    · rw [if_neg h, Lib.count_one, List.count_cons_of_ne (by simpa using h), ← Lib.count_one, ← ih]
      generalize hk : Lib.count l [32] = k
      cases k with
      | zero => rfl
      | succ k =>
        have hne : Lib.index l [32] ≠ -1 := fun e => by rw [Lib.count_miss e] at hk; omega
        have hge := Lib.index_ge l [32]
        obtain ⟨j, hj⟩ : ∃ j : Nat, Lib.index l [32] = j := ⟨(Lib.index l [32]).toNat, by omega⟩
        rw [Lib.splitK, Lib.splitK, index_cons_ne b 32 l h, if_neg hne, hj]
        rw [if_neg (by simp; omega), if_neg (by simp)]
        rw [show ((j : Int) + 1).toNat = j + 1 by omega, show ((j : Int)).toNat = j by omega]
        rfl
theorem splitB_spl (l : L8) : (Lib.splitB ⟨#[32]⟩ 0 (Lib.countB (arr l) ⟨#[32]⟩) (arr l)) = (spl l).map arr := by
  have h1 := Lib.splitB_data ⟨#[32]⟩ 0 (Lib.countB (arr l) ⟨#[32]⟩) (arr l)
  have h2 : Lib.splitK [32] 0 (Lib.countB (arr l) ⟨#[32]⟩) l = spl l := split_spl l
  have h3 : (Lib.splitB ⟨#[32]⟩ 0 (Lib.countB (arr l) ⟨#[32]⟩) (arr l)).map (·.data.toList) = spl l := by rw [← h2]; exact h1
  rw [← h3, List.map_map]
  have : (arr ∘ fun x : ByteArray => x.data.toList) = id := by
    funext x; rfl
  rw [this, List.map_id]
def intsOf (d : L8) : List Int := d.map (fun c => (c.toNat : Int))
theorem ints_of (d : L8) : Lib.bytesOf (intsOf d) = d := by
  unfold Lib.bytesOf intsOf
  rw [List.map_map]
  conv => rhs; rw [← List.map_id d]
  apply List.map_congr_left
  intro c _
  simp
theorem ints_in {w : World} {a : Option Addr} {n : Nat} {d : L8} (h : BAt w a n d) : Lib.BytesIn w a n (intsOf d) := by
  intro hn
  rcases h.2.2 with h0 | ⟨b, o, rfl, hc⟩
  · omega
  refine ⟨b, o, rfl, fun i hi => ?_⟩
  obtain ⟨c, hc1⟩ : ∃ c, d[i]? = some c := ⟨_, List.getElem?_eq_getElem (by have := h.1; omega)⟩
  have := hc i c hc1 0 (.int .u8 c.toNat) rfl
  rw [Nat.mul_one, Nat.add_zero] at this
  rw [this]
  unfold intsOf
  rw [List.getD_eq_getElem?_getD, List.getElem?_map, hc1]; rfl
theorem ints_rng (d : L8) : ∀ x ∈ intsOf d, 0 ≤ x ∧ x < 256 := by
  intro x hx
  obtain ⟨c, _, rfl⟩ := List.mem_map.1 hx
  have := c.toNat_lt
  constructor <;> omega
theorem cut_any (a : Option Addr) (n c : Nat) (d : L8) (p : Option Addr) (c2 : Nat) (w : World) (hx : BV w (a, n, c) d) (hp : a = none → c = 0) (hs : n < 4294967281) (hE : Env w) (hy : BAt w p 1 [10]) :
    Calls Tryz.prog 401 #[.slice a n c, .slice p 1 c2] w (fun e w' => e = .returned (Lib.cutV a n c 1 (Lib.index d [10])) ∧ ∃ q, w' = w.drewN q) := by
  obtain ⟨m, hm⟩ := hE.max
  have h := Tryz.bytes_Cut_all a p n c 1 c2 (intsOf d) (intsOf [10]) m w (by unfold intsOf; rw [List.length_map]; exact hx.2.1) rfl (ints_rng d) (ints_rng [10]) (ints_in hx.2) (ints_in hy) hp hx.1 hs (by omega) hm
  rw [ints_of d, ints_of [10]] at h
  exact h
theorem split_any (l : L8) (w : World) (hs : l.length < 4294967281) (hE : Env w) :
    Calls Tryz.prog 402 #[.string (arr l), .string ⟨#[32]⟩] w (fun e w' => e = .returned (.slice (some ⟨w.heap.size, 0, none⟩) (spl l).length (spl l).length) ∧ w' = w.alloc (.cells ((spl l).flatMap strC).toArray 9)) := by
  obtain ⟨m, hm⟩ := hE.max
  have h := Tryz.strings_Split (arr l) ⟨#[32]⟩ m w (by rw [arr_size]; exact hs) hm (by decide)
  have hl : (spl l).length = Lib.countB (arr l) ⟨#[32]⟩ + 1 := by
    have := Lib.splitB_all ⟨#[32]⟩ (by decide) 0 _ (arr l) rfl
    rw [splitB_spl, List.length_map] at this; exact this
  have hc : ((spl l).map arr).map Value.string = (spl l).flatMap strC := by
    rw [List.map_map]
    induction spl l with
    | nil => rfl
    | cons x r ih => rw [List.flatMap_cons, ← ih]; rfl
  rw [splitB_spl, hc, ← hl] at h
  exact h
end Go.Proofs.YtcifdllbnbhcdaaGreatDoor
