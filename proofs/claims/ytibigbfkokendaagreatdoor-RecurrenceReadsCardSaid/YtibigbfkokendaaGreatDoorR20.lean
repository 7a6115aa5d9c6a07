/- Series: numbers and dates, written by the program. -/
import Derived.Test.YtibigbfkokendaaGreatDoorR9
import Derived.Test.YtibigbfkokendaaGreatDoorP3
import Derived.Lib.AppendIntMem
namespace Go.Proofs.YtibigbfkokendaaGreatDoor
open Go.RowKit TT

/-- The tables that lie in memory. -/
structure Tbs (w : World) : Prop where
  pow : Lib.TabIs Tryz.prog w "internal/strconv.uint64pow10" .u64 Lib.pow10Tab
  lens : Cal.Lens w
theorem Tbs.below {w w' : World} (h : Tbs w) (hb : Below w.heap.size w w') : Tbs w' := by
  refine ⟨Lib.tabBelow_of_tabIs h.pow w' hb, fun i hi => ?_⟩
  have hc := h.lens i hi
  rw [hb.cell (lt_of_cell hc)]; exact hc
theorem arr_app (l m : L8) : arr l ++ arr m = arr (l ++ m) := by
  apply ByteArray.ext
  simp [arr]
theorem dec_small : ∀ i, i < 100 → Lib.decDigits i = if i < 10 then [UInt8.ofNat (48 + i)] else two2 i := by decide +kernel
theorem dec_step (u : Nat) (h : ¬ u < 10) : Lib.decDigits u = Lib.decDigits (u / 10) ++ [UInt8.ofNat (48 + u % 10)] := by
  rw [Lib.decDigits, dif_neg h]
theorem itoa_year (y : Nat) (h0 : 2000 ≤ y) (h1 : y ≤ 2099) : Lib.itoa (y : Int) = [50, 48] ++ two2 (y - 2000) := by
  unfold Lib.itoa
  rw [if_neg (by omega), Int.toNat_natCast, dec_step y (by omega), dec_step (y / 10) (by omega), show y / 10 / 10 = 20 by omega, dec_small 20 (by omega), if_neg (by omega)]
  have e1 : y / 10 % 10 = (y - 2000) / 10 := by omega
  have e2 : y % 10 = (y - 2000) % 10 := by omega
  simp only [two2, e1, e2]
  rfl

set_option maxRecDepth 100000 in
theorem digits_two (n : Nat) (hn : n < 100) (w : World) : Calls Tryz.prog 25 #[.int .i64 n, .int .i64 2] w (RetB (.string (arr (two2 n))) w) := by
  have D := Tryz.strconv_Itoa_small n hn w
  have hd := dec_small n hn
  by_cases h : n < 10
  · rw [if_pos h] at hd
    rw [hd] at D
    have hcat : (⟨#[48]⟩ : ByteArray) ++ arr [UInt8.ofNat (48 + n)] = arr (two2 n) := by
      rw [show (⟨#[48]⟩ : ByteArray) = arr [48] from rfl, arr_app]
      unfold two2
      rw [Nat.div_eq_of_lt h, Nat.mod_eq_of_lt h]
      rfl
    have hsz : (arr [UInt8.ofNat (48 + n)]).size = 1 := rfl
    have D := Lib.hid (show Calls Tryz.prog 22 #[.int .i64 n] w fun e w' => e = .returned (.string (arr [UInt8.ofNat (48 + n)])) ∧ w' = w from D)
    clear hd
    generalize arr [UInt8.ofNat (48 + n)] = s0 at *
    generalize arr (two2 n) = s1 at *
    go_enter Tryz.func25, Tryz.ntmps25
    go_wp2_with (first
      | (go_at_call 22; refine D.out.mono ?_; rintro e w' ⟨rfl, hw⟩; subst hw)
      | (go_at_call 50; refine (Tryz.strings_Repeat_one ⟨#[48]⟩ _).mono ?_; rintro e w' ⟨rfl, hw⟩; subst hw))
    go_ret
    exact ⟨rfl, Below.refl _ _⟩
  · rw [if_neg h] at hd
    rw [hd] at D
    have hsz2 : (arr (two2 n)).size = 2 := rfl
    have hcat : (⟨#[]⟩ : ByteArray) ++ arr (two2 n) = arr (two2 n) := by
      rw [show (⟨#[]⟩ : ByteArray) = arr [] from rfl, arr_app]; rfl
    have D := Lib.hid (show Calls Tryz.prog 22 #[.int .i64 n] w fun e w' => e = .returned (.string (arr (two2 n))) ∧ w' = w from D)
    clear hd
    generalize arr (two2 n) = s1 at *
    go_enter Tryz.func25, Tryz.ntmps25
    go_wp2_with (first
      | (go_at_call 22; refine D.out.mono ?_; rintro e w' ⟨rfl, hw⟩; subst hw)
      | (go_at_call 50; refine (Tryz.strings_Repeat_zero ⟨#[48]⟩ _).mono ?_; rintro e w' ⟨rfl, hw⟩; subst hw))
    go_ret
    exact ⟨rfl, Below.refl _ _⟩

set_option maxRecDepth 100000 in
theorem digits_four (y : Int) (h0 : 2000 ≤ y) (h1 : y ≤ 2099) (w : World) (hT : Tbs w) : Calls Tryz.prog 25 #[.int .i64 y, .int .i64 4] w (RetB (.string (arr ([50, 48] ++ two2 (y - 2000).toNat))) w) := by
  have D : Calls Tryz.prog 22 #[.int .i64 y] w (RetB (.string (arr ([50, 48] ++ two2 (y - 2000).toNat))) w) := by
    refine (Tryz.strconv_Itoa y (by omega) (by omega) w hT.pow).mono fun e w' ⟨he, k, os, hw⟩ => ⟨?_, ?_⟩
    · rw [he]
      have e := itoa_year y.toNat (by omega) (by omega)
      rw [show ((y.toNat : Nat) : Int) = y by omega, show y.toNat - 2000 = (y - 2000).toNat by omega] at e
      rw [e]; rfl
    · rw [hw]; exact Lib.below_grow _ w (Nat.le_refl _) k os
  have hsz : (arr ([50, 48] ++ two2 (y - 2000).toNat)).size = 4 := rfl
  have hcat : (⟨#[]⟩ : ByteArray) ++ arr ([50, 48] ++ two2 (y - 2000).toNat) = arr ([50, 48] ++ two2 (y - 2000).toNat) := by
    rw [show (⟨#[]⟩ : ByteArray) = arr [] from rfl, arr_app]; rfl
  have D := Lib.hid D
  clear hT
  generalize arr ([50, 48] ++ two2 (y - 2000).toNat) = s at *
  go_enter Tryz.func25, Tryz.ntmps25
  go_wp2_with fail
  refine D.out.mono ?_
  rintro e w1 ⟨rfl, hb⟩
  have HB := Lib.hid hb
  clear hb
  go_wp2_with (go_at_call 50; refine (Tryz.strings_Repeat_zero ⟨#[48]⟩ _).mono ?_; rintro e w' ⟨rfl, hw⟩; subst hw)
  go_ret
  exact ⟨rfl, HB.out⟩

/-- a slice of texts that the call made -/
abbrev SRow (w : World) (B : Nat) (v : Value) (xs : List L8) : Prop := w.ownsRow B 9 1 v xs.length (xs.map (fun x => Value.string (arr x)))
theorem join_any (B : Nat) (v : Value) (xs : List L8) (w : World) (h : SRow w B v xs) (hN : xs.length ≤ 1000) (hlen : (Lib.join xs [44]).length ≤ 1000000) :
    Calls Tryz.prog 23 #[v, .string ⟨#[44]⟩] w (RetB (.string (arr (Lib.join xs [44]))) w) := by
  rcases h.2 with ⟨rfl, hn⟩ | ⟨g, cap, cur, rfl, hg, hb, h1, h2, h3, h4⟩
  · have : xs = [] := List.eq_nil_of_length_eq_zero hn
    subst this
    exact (Tryz.strings_Join_none none 0 ⟨#[44]⟩ w).mono fun e w' ⟨a, b⟩ => ⟨by rw [a]; rfl, by rw [b]; exact Below.refl _ _⟩
  · have hm : (xs.map arr).map (fun x => x.data.toList) = xs := by
      rw [List.map_map]; conv => rhs; rw [← List.map_id xs]
      exact List.map_congr_left fun x _ => by simp [arr]
    have hc := h.cells (g := g) rfl
    have key := Tryz.strings_Join g 0 cap (xs.map arr) ⟨#[44]⟩ w (fun j x hx => by
      have := hc j (Value.string x) (by rw [List.getElem?_map] at hx ⊢; cases hx' : xs[j]? with
        | none => rw [hx'] at hx; cases hx
        | some y => rw [hx'] at hx; simp at hx ⊢; exact hx)
      have h2 : (⟨g, 0, none⟩ : Addr).add j = ⟨g, 0 + j, none⟩ := by unfold Addr.add; by_cases hj : j = 0 <;> simp [hj]
      rw [h2] at this; exact this) (by exact lt_of_heap hb) (by simp; omega) (by simpa using h1) (by rw [hm]; exact Nat.le_trans hlen (by omega))
    rw [List.length_map, hm] at key
    exact key

end Go.Proofs.YtibigbfkokendaaGreatDoor
