import Derived.Test.YtllcoocllkaanaaDoorZ3
namespace Go.Proofs.YtllcoocllkaanaaDoor
open Go.RowKit

set_option maxRecDepth 100000 in
theorem valid_nil (s : ByteArray) (hs : s.size ≤ 9223372036854775807) (off : Int) (a : Option Addr) (cap : Nat) (w : World) (hc : codeOk s.data.toList = true) (ho : nearI off = true) :
    Calls Tryd.prog 20 #[.agg #[.string s, .int .i64 off, .slice a 0 cap]] w (VldP s off [] w) := by
  have C := Lib.hid (fun w => code_any s hs w)
  rw [hc] at C
  have N := Lib.hid (fun w => near_any off w)
  rw [ho] at N
  have F := Lib.hid (VldP.mk (s := s) (off := off) (xs := []) (w := w) (c := 0) (by unfold vldE; rw [if_neg (by simp [hc]), if_neg (by simp [ho]), if_neg (by simp)]; rfl) ((Below.refl w.heap.size w).alloc (Nat.le_refl _) (.cells #[.string s, .int .i64 off, .slice a 0 cap] 24)))
  clear hc ho
  go_enter Tryd.func20, Tryd.ntmps20
  go_wp2_with (first | (go_at_call 38; refine (C.out _).mono ?_; rintro e w' ⟨rfl, rfl⟩) | (go_at_call 39; refine (N.out _).mono ?_; rintro e w' ⟨rfl, rfl⟩))
  refine wp_loop_rounds 1 ?_
  rw [rounds_succ]
  go_wp2
  go_ret
  exact F.out

set_option maxRecDepth 100000 in
theorem rvalid_nil (s : ByteArray) (hs : s.size ≤ 9223372036854775807) (off : Int) (a : Option Addr) (cap : Nat) (w : World) (hc : codeOk s.data.toList = true) (ho : nearI off = true) :
    Calls Tryd.prog 21 #[.agg #[.string s, .int .i64 off, .slice a 0 cap]] w (VldP s off [] w) := by
  have C := Lib.hid (fun w => rcode_any s hs w)
  rw [hc] at C
  have F := Lib.hid (VldP.mk (s := s) (off := off) (xs := []) (w := w) (c := 0) (by unfold vldE; rw [if_neg (by simp [hc]), if_neg (by simp [ho]), if_neg (by simp)]; rfl) ((Below.refl w.heap.size w).alloc (Nat.le_refl _) (.cells #[.string s, .int .i64 off, .slice a 0 cap] 24)))
  have ho' := nearI_iff.1 ho
  obtain ⟨o1, o2⟩ := ho'
  clear hc ho
  go_enter Tryd.func21, Tryd.ntmps21
  go_wp2_with (first | (go_at_call 40; refine (C.out _).mono ?_; rintro e w' ⟨rfl, rfl⟩) | fail)
  refine wp_loop_rounds 1 ?_
  rw [rounds_succ]
  go_wp2
  go_ret
  exact F.out

/-- A value that reads as a zone. -/
def ZVal (w : World) (v : Value) (s : ByteArray) (off : Int) (xs : Prs) : Prop := ∃ sv, v = .agg #[.string s, .int .i64 off, sv] ∧ s.size ≤ 9223372036854775807 ∧ Pairs w sv xs
theorem ZVal.below {w w' : World} {v : Value} {s : ByteArray} {off : Int} {xs : Prs} (h : ZVal w v s off xs) (hb : Below w.heap.size w w') : ZVal w' v s off xs := by
  obtain ⟨sv, h1, h2, h3⟩ := h
  exact ⟨sv, h1, h2, h3.below hb⟩

theorem valid_any {v : Value} {s : ByteArray} {off : Int} {xs : Prs} (w : World) (h : ZVal w v s off xs) : Calls Tryd.prog 20 #[v] w (VldP s off xs w) := by
  obtain ⟨sv, rfl, hs, a, cap, rfl, hn, hP⟩ := h
  by_cases c : codeOk s.data.toList = false ∨ nearI off = false ∨ 64 < xs.length
  · exact valid_early s hs off a _ cap xs rfl hn w c
  · have h1 : codeOk s.data.toList = true := by cases e : codeOk s.data.toList <;> simp_all
    have h2 : nearI off = true := by cases e : nearI off <;> simp_all
    rcases hP with rfl | ⟨b, of, rfl, hP⟩
    · exact valid_nil s hs off a cap w h1 h2
    · exact valid_late s hs off b of cap xs w hP h1 h2 (by omega)
theorem rvalid_any {v : Value} {s : ByteArray} {off : Int} {xs : Prs} (w : World) (h : ZVal w v s off xs) : Calls Tryd.prog 21 #[v] w (VldP s off xs w) := by
  obtain ⟨sv, rfl, hs, a, cap, rfl, hn, hP⟩ := h
  by_cases c : codeOk s.data.toList = false ∨ nearI off = false ∨ 64 < xs.length
  · exact rvalid_early s hs off a _ cap xs rfl hn w c
  · have h1 : codeOk s.data.toList = true := by cases e : codeOk s.data.toList <;> simp_all
    have h2 : nearI off = true := by cases e : nearI off <;> simp_all
    rcases hP with rfl | ⟨b, of, rfl, hP⟩
    · exact rvalid_nil s hs off a cap w h1 h2
    · exact rvalid_late s hs off b of cap xs w hP h1 h2 (by omega)

end Go.Proofs.YtllcoocllkaanaaDoor
