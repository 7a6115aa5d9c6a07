import Derived.Test.YtmnoiknpamfmoaaDoorC8
namespace Go.Proofs.YtmnoiknpamfmoaaDoor
open Go.RowKit CS

theorem prefix_marked (l : L8) : Lib.hasPrefix l [239, 187, 191] = marked l := by
  unfold marked Lib.hasPrefix
  match l with
  | [] => rfl
  | [a] => simp [List.isPrefixOf]
  | [a, b] => simp [List.isPrefixOf]
  | a :: b :: c :: t =>
    rw [Bool.eq_iff_iff]
    simp [List.getD, List.isPrefixOf, and_assoc]
    constructor
    · rintro ⟨a1, a2, a3⟩; exact ⟨a1.symm, a2.symm, a3.symm⟩
    · rintro ⟨a1, a2, a3⟩; exact ⟨a1.symm, a2.symm, a3.symm⟩

theorem has_mark (l : L8) (w : World) :
    Calls Tryd.prog 19 #[.string (arr l), .string ⟨#[239, 187, 191]⟩] w fun e w' => e = .returned (.bool (marked l)) ∧ w = w' := by
  have := Tryd.strings_HasPrefix (arr l) ⟨#[239, 187, 191]⟩ w
  have e : Lib.hasPrefix (arr l).data.toList (⟨#[239, 187, 191]⟩ : ByteArray).data.toList = marked l := prefix_marked l
  rw [e] at this
  exact this.mono fun _ _ ⟨a, b⟩ => ⟨a, b.symm⟩

set_option maxRecDepth 100000 in
theorem Decode_kind (k : Int) (hk : okKind k = false) (v : Value) (w : World) :
    Calls Tryd.prog 8 #[v, .int .i64 k] w fun e w' => e = .returned (.tuple #[.string (arr []), .slice none 0 0, .int .i64 6]) ∧ w = w' := by
  have C := Lib.hid (fun w => greatest_any k w)
  rw [hk] at C
  go_enter Tryd.func8, Tryd.ntmps8
  go_wp2_with (go_at_call 18; refine (C.out _).mono ?_; rintro e w' ⟨rfl, rfl⟩)
  go_ret3
  exact ⟨rfl, rfl⟩

set_option maxRecDepth 100000 in
theorem Decode_size (k : Int) (hk : okKind k = true) (a : Option Addr) (n cap : Nat) (h : 65536 < n) (hn : n ≤ 9223372036854775807) (w : World) :
    Calls Tryd.prog 8 #[.slice a n cap, .int .i64 k] w fun e w' => e = .returned (.tuple #[.string (arr []), .slice none 0 0, .int .i64 2]) ∧ w = w' := by
  have C := Lib.hid (fun w => greatest_any k w)
  rw [hk] at C
  go_enter Tryd.func8, Tryd.ntmps8
  go_wp2_with (go_at_call 18; refine (C.out _).mono ?_; rintro e w' ⟨rfl, rfl⟩)
  go_ret3
  exact ⟨rfl, rfl⟩

end Go.Proofs.YtmnoiknpamfmoaaDoor
