/- Records: ContainsAny answers as it should, at every string. -/
import Derived.Test.YtpiejpodaljefaaDoorN12
namespace Go.Proofs.YtpiejpodaljefaaDoor
open Go.RowKit

theorem zero108 (w : World) : (zeroValue 108).run Tryd.prog w = .ok (.agg (Array.replicate 256 (.bool false))) w := by kernel_rfl
theorem idxany_all (cs s : ByteArray) (h4 : cs.size = 4) (ha : ∀ b ∈ cs.data.toList, b.toNat < 128) (hs : s.size < 4294967281) (w : World) :
    Calls Tryd.prog 60 #[.string s, .string cs] w (AnyIdx (hasB cs.data.toList s.data.toList) w) := by
  by_cases h8 : s.size ≤ 8
  · exact idxany_short cs s h4 ha h8 w
  · refine (Tryd.strings_IndexAny_long zero108 s cs w (by omega) (by omega) hs (by omega) (fun j b hb => ha b (List.mem_of_getElem? hb))).mono fun e w' ⟨he, hw⟩ => ⟨_, he, indexAny_any _ _, ?_⟩
    rw [hw]
    exact ((Below.refl _ _).alloc (Nat.le_refl _) _).alloc (by simp) _
theorem anyOk_all (d q : UInt8) (hok : okD d q = true) (s : ByteArray) (hs : s.size < 4294967281) : AnyOk d q s := fun w => by
  have hI := Lib.hid (fun w => idxany_all (arr [d, q, 13, 10]) s rfl (fun b hb => by
    have hb' : b ∈ [d, q, 13, 10] := hb
    obtain ⟨h1, h2⟩ := okD_of hok
    simp only [List.mem_cons, List.not_mem_nil, or_false] at hb'
    rcases hb' with rfl | rfl | rfl | rfl
    · rcases h1 with rfl | rfl | rfl | rfl <;> decide
    · rcases h2 with rfl | rfl <;> decide
    · decide
    · decide) hs w)
  have HC : Hid (Lib.containsAny s.data.toList [d, q, 13, 10] = hasB (arr [d, q, 13, 10]).data.toList s.data.toList) := Lib.hid (by unfold Lib.containsAny; rw [indexAny_any]; rfl)
  clear hok hs
  generalize hasB (arr [d, q, 13, 10]).data.toList s.data.toList = B at *
  generalize arr [d, q, 13, 10] = cs at *
  go_enter Tryd.func47, Tryd.ntmps47
  go_wp2_with fail
  refine (hI.out _).mono ?_
  rintro e w1 ⟨v, rfl, hv, hb⟩
  have HV := Lib.hid hv
  have HB := Lib.hid hb
  clear hv hb
  go_wp2_with fail
  go_ret
  exact ⟨ret_bool (by rw [HC.out, ← HV.out]), HB.out⟩
end Go.Proofs.YtpiejpodaljefaaDoor
