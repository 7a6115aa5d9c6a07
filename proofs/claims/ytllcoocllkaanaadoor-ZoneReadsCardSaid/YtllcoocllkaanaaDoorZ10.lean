import Derived.Test.YtllcoocllkaanaaDoorZ9
import Derived.StillTailTactics
namespace Go.Proofs.YtllcoocllkaanaaDoor
open Go.RowKit

/-- The first line of a zone. -/
def headL (nm : L8) (off : Int) : L8 := nm ++ [32] ++ shw off ++ [10]

theorem shown_still (o : Int) (h1 : -840 ≤ o) (h2 : o ≤ 840) (w : World) : Calls Tryd.prog 43 #[.int .i64 o] w fun e w' => e = .returned (.string (arr (shw o))) ∧ w' = w :=
  (shown_any o h1 h2 w).mono fun _ _ ⟨a, b⟩ => ⟨a, b.symm⟩

theorem strCells_arr (l : L8) : Lib.strCells (arr l) = Lib.byteCells l := rfl

set_option maxHeartbeats 1000000 in
set_option maxRecDepth 100000 in
theorem format_nil (nm : L8) (off : Int) (a : Option Addr) (cap : Nat) (hv : vldE nm off [] = 0) (w : World) :
    Calls Tryd.prog 27 #[.agg #[.string (arr nm), .int .i64 off, .slice a 0 cap]] w (RetB (.tuple #[.string (arr (headL nm off)), .int .i64 0]) w) := by
  obtain ⟨hc, hn, _, _⟩ := vldE_ok hv
  have hc16 := (codeOk_of hc).2.1
  have hsz : (arr nm).size ≤ 16 := by rw [arr_size]; exact hc16
  have V := Lib.hid (fun w => valid_any (v := .agg #[.string (arr nm), .int .i64 off, .slice a 0 cap]) (s := arr nm) (off := off) (xs := []) w ⟨_, rfl, by omega, a, cap, rfl, by simp, Or.inl rfl⟩)
  have HV : Hid (vldE (arr nm).data.toList off [] = 0) := Lib.hid hv
  obtain ⟨n1, n2⟩ := hn
  have SS := Lib.hid (fun w => shown_still off n1 n2 w)
  have hs6 : (arr (shw off)).size = 5 := rfl
  have hcat : ((arr nm ++ ⟨#[32]⟩) ++ arr (shw off)) ++ ⟨#[10]⟩ = arr (headL nm off) := by
    rw [show (⟨#[32]⟩ : ByteArray) = arr [32] from rfl, show (⟨#[10]⟩ : ByteArray) = arr [10] from rfl, arr_app, arr_app, arr_app]; rfl
  have hlen : (arr (headL nm off)).size ≤ 30 := by rw [arr_size]; simp [headL, shw, two]; omega
  have HCAT := Lib.hid hcat
  have HLEN := Lib.hid hlen
  have hcells : Lib.strCells (arr (headL nm off)) = Lib.byteCells (headL nm off) := rfl
  have HCELLS := Lib.hid hcells
  clear hv hc hcat hlen hcells
  generalize arr (shw off) = sh at *
  generalize hh : arr (headL nm off) = hd at *
  have HH := Lib.hid hh
  clear hh
  generalize hnm : arr nm = an at *
  have B0 := Lib.hid ((Below.refl w.heap.size w).alloc (Nat.le_refl _) (.cells #[.string an, .int .i64 off, .slice a 0 cap] 24))
  go_enter Tryd.func27, Tryd.ntmps27
  go_wp2_with (first | (go_at_call 20; refine (V.out _).mono ?_) | fail)
  rintro e w1 ⟨rfl, hb⟩
  rw [HV.out]
  obtain ⟨g0, g1, g2⟩ := zbox_below hb
  have zz : w.heap.size < w1.heap.size := by have := hb.size; simp at this; omega
  have B1 := Lib.hid (B0.out.trans (hb.mono B0.out.size))
  clear hb
  go_wp2
  have hbld : Hid (Lib.IsBuilderF 63 5 w1.heap.size w1.heap.size (Lib.byteCells []) (w1.alloc (.cells #[.pointer none, .slice none 0 0] 63))) := Lib.hid (Lib.IsBuilderF.of (Lib.fresh_isBuilder 63 5 w1))
  have B2 := Lib.hid (B1.out.alloc B1.out.size (.cells #[.pointer none, .slice none 0 0] 63))
  have q0 : (w1.alloc (.cells #[.pointer none, .slice none 0 0] 63)).cell? ⟨w.heap.size, 0, none⟩ = some (.string an) := by rw [World.cell?_alloc_past _ _ _ zz]; exact g0
  have q1 : (w1.alloc (.cells #[.pointer none, .slice none 0 0] 63)).cell? ⟨w.heap.size, 1, none⟩ = some (.int .i64 off) := by rw [World.cell?_alloc_past _ _ _ zz]; exact g1
  have q2 : (w1.alloc (.cells #[.pointer none, .slice none 0 0] 63)).cell? ⟨w.heap.size, 2, none⟩ = some (.slice a 0 cap) := by rw [World.cell?_alloc_past _ _ _ zz]; exact g2
  have hz2 : w1.heap.size < (w1.alloc (.cells #[.pointer none, .slice none 0 0] 63)).heap.size := by simp
  have HB1 := B1
  generalize hb1 : w1.heap.size = b1 at *
  generalize w1.alloc (.cells #[.pointer none, .slice none 0 0] 63) = w2 at *
  clear g0 g1 g2
  have m1 : ¬ 9223372036854775807 < an.size + 1 := by omega
  have m2 : ¬ 9223372036854775807 < an.size + 1 + 5 := by omega
  have m3 : ¬ 9223372036854775807 < an.size + 6 := by omega
  have m4 : ¬ 9223372036854775807 < an.size + 1 + 5 + 1 := by omega
  have m5 : ¬ 9223372036854775807 < an.size + 7 := by omega
  go_still_tail 8, (by kernel_rfl)
  still_call (SS.out _)
  repeat still_step
  refine wpStill_nil ?_
  change wpList _ _ _ _ _ w2.drew
  have hbld2 : Hid (Lib.IsBuilderF 63 5 b1 b1 (Lib.byteCells []) w2.drew) := hbld
  have B3 : Hid (Below w.heap.size w w2.drew) := Lib.hid B2.out.drew
  have q2' : w2.drew.cell? ⟨w.heap.size, 2, none⟩ = some (.slice a 0 cap) := q2
  have hz3 : b1 < w2.drew.heap.size := hz2
  clear hbld B2 q0 q1 q2 hz2
  generalize w2.drew = w3 at *
  have WS := Lib.hid (writeString_k b1 b1 (Lib.byteCells []) (an ++ ⟨#[32]⟩ ++ sh ++ ⟨#[10]⟩) w3 hbld2.out (by rw [HCAT.out]; have := HLEN.out; simp [Lib.byteCells]; omega) (by omega))
  rw [HCAT.out] at WS
  have WS2 : Hid (Calls Tryd.prog 42 #[.pointer (some ⟨b1, 0, none⟩), .string (an ++ ⟨#[32]⟩ ++ sh ++ ⟨#[10]⟩)] w3 (Wrote b1 b1 (Lib.byteCells []) hd w3)) := by rw [HCAT.out]; exact WS
  go_wp2_with (first | (go_at_call 42; refine WS2.out.mono ?_) | fail)
  rintro e w4 ⟨rfl, hb4, hbe4, hk4⟩
  have q4 : w4.cell? ⟨w.heap.size, 2, none⟩ = some (.slice a 0 cap) := by rw [hbe4.cell (p := ⟨w.heap.size, 2, none⟩) zz]; exact q2'
  have HB4 : Hid (Lib.BuilderAtF 63 5 b1 b1 (.pointer (some ⟨b1, 0, none⟩)) (Lib.byteCells (headL nm off)) w4) := Lib.hid (by rw [HCELLS.out] at hb4; simpa [Lib.byteCells] using hb4)
  have hsz4 : b1 ≤ w4.heap.size := Nat.le_trans (Nat.le_of_lt hz3) hbe4.size
  have B4 : Hid (Below w.heap.size w w4) := Lib.hid (B3.out.trans (hbe4.mono (Nat.le_of_lt zz)))
  clear hb4 hbe4 hk4 q2'
  go_wp2
  refine wp_loop_rounds 1 ?_
  rw [rounds_succ]
  have ST := Lib.hid (Tryd.Builder_String_any_k b1 b1 (headL nm off) w4 (Or.inr HB4.out) hsz4)
  go_wp2_with (first | (go_at_call 45; refine ST.out.mono ?_) | fail)
  rintro e w5 ⟨rfl, _, hb5, _⟩
  have B5 : Hid (Below w.heap.size w w5) := Lib.hid (B4.out.trans (hb5.mono (Nat.le_of_lt zz)))
  clear hb5
  go_wp2
  go_ret2
  exact ⟨by rw [← HH.out]; rfl, B5.out⟩

end Go.Proofs.YtllcoocllkaanaaDoor
