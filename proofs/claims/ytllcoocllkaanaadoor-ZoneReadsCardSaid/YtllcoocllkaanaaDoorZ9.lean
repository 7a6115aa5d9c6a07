import Derived.Test.YtllcoocllkaanaaDoorZ8
import Derived.Test.YtllcoocllkaanaaDoorBuild
namespace Go.Proofs.YtllcoocllkaanaaDoor
open Go.RowKit

def two (n : Nat) : L8 := [UInt8.ofNat (48 + n / 10), UInt8.ofNat (48 + n % 10)]
theorem dec_small : ∀ i, i < 100 → Lib.decDigits i = if i < 10 then [UInt8.ofNat (48 + i)] else two i := by decide +kernel
theorem arr_app (l m : L8) : arr l ++ arr m = arr (l ++ m) := by
  apply ByteArray.ext
  simp [arr]

set_option maxRecDepth 100000 in
theorem digits_small (n : Nat) (hn : n < 100) (w : World) : Calls Tryd.prog 60 #[.int .i64 n, .int .i64 2] w (RetS (.string (arr (two n))) w) := by
  have D := Tryd.strconv_Itoa_small n hn w
  have hd := dec_small n hn
  by_cases h : n < 10
  · rw [if_pos h] at hd
    rw [hd] at D
    have hcat : (⟨#[48]⟩ : ByteArray) ++ arr [UInt8.ofNat (48 + n)] = arr (two n) := by
      rw [show (⟨#[48]⟩ : ByteArray) = arr [48] from rfl, arr_app]
      unfold two
      rw [Nat.div_eq_of_lt h, Nat.mod_eq_of_lt h]
      rfl
    have hsz : (arr [UInt8.ofNat (48 + n)]).size = 1 := rfl
    have hsz2 : (arr (two n)).size = 2 := rfl
    change Calls Tryd.prog 72 #[.int .i64 n] w fun e w' => e = .returned (.string (arr [UInt8.ofNat (48 + n)])) ∧ w' = w at D
    generalize arr [UInt8.ofNat (48 + n)] = s0 at *
    generalize arr (two n) = s1 at *
    have D := Lib.hid (same_flip (D.mono fun _ _ ⟨a, b⟩ => ⟨a, b.symm⟩))
    clear hd
    go_enter Tryd.func60, Tryd.ntmps60
    go_wp2_with (go_at_call 72; refine D.out.mono ?_; rintro e w' ⟨rfl, hw⟩; subst hw)
    refine wp_loop_rounds 2 ?_
    rw [rounds_succ]
    go_wp2
    rw [rounds_succ]
    go_wp2
    go_ret
    exact ⟨rfl, rfl⟩
  · rw [if_neg h] at hd
    rw [hd] at D
    have hsz2 : (arr (two n)).size = 2 := rfl
    change Calls Tryd.prog 72 #[.int .i64 n] w fun e w' => e = .returned (.string (arr (two n))) ∧ w' = w at D
    generalize arr (two n) = s1 at *
    have D := Lib.hid (D.mono fun _ _ ⟨a, b⟩ => (⟨a, b.symm⟩ : _ ∧ w = _))
    clear hd
    go_enter Tryd.func60, Tryd.ntmps60
    go_wp2_with (go_at_call 72; refine D.out.mono ?_; rintro e w' ⟨rfl, rfl⟩)
    refine wp_loop_rounds 1 ?_
    rw [rounds_succ]
    go_wp2
    go_ret
    exact ⟨rfl, rfl⟩

/-- An offset, written. -/
def shw (o : Int) : L8 := (if o < 0 then 45 else 43) :: (two (o.natAbs / 60) ++ two (o.natAbs % 60))

set_option maxRecDepth 100000 in
theorem shown_any (o : Int) (h1 : -840 ≤ o) (h2 : o ≤ 840) (w : World) : Calls Tryd.prog 43 #[.int .i64 o] w (RetS (.string (arr (shw o))) w) := by
  obtain ⟨n, hn, hno⟩ : ∃ n : Nat, n ≤ 840 ∧ n = o.natAbs := ⟨o.natAbs, by omega, rfl⟩
  have D1 := Lib.hid (fun w => digits_small (n / 60) (by omega) w)
  have D2 := Lib.hid (fun w => digits_small (n % 60) (by omega) w)
  have e1 : ((n / 60 : Nat) : Int) = (n : Int) / 60 := by omega
  have e2 : ((n % 60 : Nat) : Int) = (n : Int) % 60 := by omega
  rw [e1] at D1
  rw [e2] at D2
  clear e1 e2
  have hsa : (arr (two (n / 60))).size = 2 := rfl
  have hsb : (arr (two (n % 60))).size = 2 := rfl
  have hcat : ∀ c : UInt8, ((⟨#[c]⟩ : ByteArray) ++ arr (two (n / 60))) ++ arr (two (n % 60)) = arr (c :: (two (n / 60) ++ two (n % 60))) := fun c => by
    rw [show (⟨#[c]⟩ : ByteArray) = arr [c] from rfl, arr_app, arr_app]; rfl
  have F : Hid (arr (shw o) = arr ((if o < 0 then 45 else 43) :: (two (n / 60) ++ two (n % 60)))) := Lib.hid (by unfold shw; rw [hno])
  have hc1 := hcat 45
  have hc2 := hcat 43
  clear hcat
  generalize arr (two (n / 60)) = a at *
  generalize arr (two (n % 60)) = b at *
  have HC1 := Lib.hid hc1
  have HC2 := Lib.hid hc2
  clear hc1 hc2
  by_cases hneg : o < 0
  · have ho : o = -(n : Int) := by omega
    rw [if_pos hneg] at F
    subst ho
    clear hno
    go_enter Tryd.func43, Tryd.ntmps43
    go_wp2_with (go_at_call 60; first | ((with_reducible refine (D1.out _).mono ?_); rintro e w' ⟨rfl, rfl⟩) | ((with_reducible refine (D2.out _).mono ?_); rintro e w' ⟨rfl, rfl⟩))
    go_ret
    exact ⟨by rw [F.out, ← HC1.out]; rfl, rfl⟩
  · have ho : o = (n : Int) := by omega
    rw [if_neg hneg] at F
    subst ho
    clear hno
    go_enter Tryd.func43, Tryd.ntmps43
    go_wp2_with (go_at_call 60; first | ((with_reducible refine (D1.out _).mono ?_); rintro e w' ⟨rfl, rfl⟩) | ((with_reducible refine (D2.out _).mono ?_); rintro e w' ⟨rfl, rfl⟩))
    go_ret
    exact ⟨by rw [F.out, ← HC2.out]; rfl, rfl⟩

end Go.Proofs.YtllcoocllkaanaaDoor
