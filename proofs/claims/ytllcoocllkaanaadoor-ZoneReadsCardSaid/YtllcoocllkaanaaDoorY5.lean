/- Zones: the text of a zone, of the reference. -/
import Derived.Test.YtllcoocllkaanaaDoorY4
import Derived.Deep.RegionHeld3
namespace Go.Proofs.YtllcoocllkaanaaDoor
open Go.RowKit TT

theorem below_cell {w w1 : World} {a : Addr} {v : Value} (hb : Below w.heap.size w w1) (h : w.cell? a = some v) : w1.cell? a = some v := by rw [hb.cell (lt_of_cell h)]; exact h
theorem bel_drew {B : Nat} {w W : World} (h : Below B w W) : Below B w W.drew := ⟨h.os, h.tape, h.output, h.size, h.block⟩
/-- what is written of a zone -/
def fmtS (z : Zn) : L8 := if vldE z.1 z.2.1 z.2.2 = 0 then fmtZ z else []
def FmtP (z : Zn) (w : World) (e : Ending) (w' : World) : Prop := e = .returned (.tuple #[.string (arr (fmtS z)), .int .i64 (vldE z.1 z.2.1 z.2.2)]) ∧ Below w.heap.size w w'
theorem headZ_len {nm : L8} {off : Int} (h : nm.length ≤ 16) : (headZ nm off).length ≤ 23 := by simp [headZ, shw, two]; omega
theorem linesZ_len : ∀ xs : Prs, (linesZ xs).length = 23 * xs.length
  | [] => rfl
  | x :: xs => by
    have ih := linesZ_len xs
    have e : (lineS x).length = 23 := rfl
    simp only [linesZ, List.length_append, List.length_cons, e, ih]; omega
theorem linesZ_app : ∀ xs ys : Prs, linesZ (xs ++ ys) = linesZ xs ++ linesZ ys
  | [], _ => rfl
  | x :: xs, ys => by simp [linesZ, linesZ_app xs ys]
theorem linesZ_take {xs : Prs} {j : Nat} (h : j < xs.length) : linesZ (xs.take (j + 1)) = linesZ (xs.take j) ++ lineS (xs.getD j (0, 0)) := by
  rw [List.take_succ_eq_append_getElem h, linesZ_app]
  simp [linesZ, List.getD, h]
theorem head_join (s : ByteArray) (off : Int) : ((s ++ ⟨#[32]⟩) ++ arr (shw off)) ++ ⟨#[10]⟩ = arr (headZ s.data.toList off) := by
  conv => lhs; rw [← arr_of s]
  rw [show (⟨#[32]⟩ : ByteArray) = arr [32] from rfl, show (⟨#[10]⟩ : ByteArray) = arr [10] from rfl]
  simp only [arr_app]
  unfold headZ
  simp
theorem line_join (o : L8) (x : Int × Int) : arr o ++ (((arr (stp x.1) ++ ⟨#[32]⟩) ++ arr (shw x.2)) ++ ⟨#[10]⟩) = arr (o ++ lineS x) := by
  rw [show (⟨#[32]⟩ : ByteArray) = arr [32] from rfl, show (⟨#[10]⟩ : ByteArray) = arr [10] from rfl]
  simp only [arr_app]
  unfold lineS
  simp

set_option maxRecDepth 100000 in
set_option maxHeartbeats 4000000 in
theorem rformat_any {v : Value} {s : ByteArray} {off : Int} {xs : Prs} (w : World) (h : ZVal w v s off xs) : Calls Tryd.prog 28 #[v] w (FmtP (s.data.toList, off, xs) w) := by
  have h0 := h
  obtain ⟨sv, rfl, hs, a, cap, rfl, hn, hP⟩ := h
  have hba : Below w.heap.size w (w.alloc (.cells #[.string s, .int .i64 off, .slice a xs.length cap] 24)) := (Below.refl _ _).alloc (Nat.le_refl _) _
  have V := Lib.hid (rvalid_any _ (h0.below hba))
  unfold VldP at V
  have HBA := Lib.hid hba
  have HP := Lib.hid hP
  clear h0 hba hP
  by_cases hv : vldE s.data.toList off xs = 0
  rotate_left
  · have hE : ((vldE s.data.toList off xs) != 0) = true := by rw [bne_iff_ne]; exact hv
    have HF : Hid (fmtS (s.data.toList, off, xs) = []) := Lib.hid (if_neg hv)
    have HE : Hid (vldE (s.data.toList, off, xs).1 (s.data.toList, off, xs).2.1 (s.data.toList, off, xs).2.2 = vldE s.data.toList off xs) := Lib.hid rfl
    clear hv
    go_enter Tryd.func28, Tryd.ntmps28
    go_wp2_with fail
    refine V.out.mono ?_
    rintro e w1 ⟨rfl, hb⟩
    have HB := Lib.hid (below3 HBA.out hb)
    clear hb
    go_wp2_with fail
    go_ret2
    exact ⟨by rw [HF.out]; rfl, HB.out⟩
  · have hE : ((vldE s.data.toList off xs) != 0) = false := by rw [hv]; rfl
    obtain ⟨hc, ⟨o0, o1⟩, hl, hsh⟩ := vldE_ok hv
    have hin := Lib.hid (shE_in _ _ _ hsh)
    have hc16 := (codeOk_of hc).2.1
    have hs16 : s.size ≤ 16 := hc16
    have HF : Hid (fmtS (s.data.toList, off, xs) = headZ s.data.toList off ++ linesZ xs) := Lib.hid (if_pos hv)
    have HE : Hid (vldE (s.data.toList, off, xs).1 (s.data.toList, off, xs).2.1 (s.data.toList, off, xs).2.2 = 0) := Lib.hid hv
    have SG := Lib.hid (fun w => rsigned_any off o0 o1 w)
    have hsg : (arr (shw off)).size = 5 := rfl
    have HH := Lib.hid (head_join s off)
    have HHL : Hid ((headZ s.data.toList off).length ≤ 23) := Lib.hid (headZ_len hc16)
    have m1 : ¬ 9223372036854775807 < s.size + 1 := by omega
    have m2 : ¬ 9223372036854775807 < s.size + 1 + 5 := by omega
    have m3 : ¬ 9223372036854775807 < s.size + 1 + 5 + 1 := by omega
    have m4 : ¬ 9223372036854775807 < s.size + 6 := by omega
    have m5 : ¬ 9223372036854775807 < s.size + 6 + 1 := by omega
    have m6 : ¬ 9223372036854775807 < s.size + 7 := by omega
    rw [hv] at V hE
    clear hv hc hsh hc16
    generalize arr (shw off) = so at *
    go_enter Tryd.func28, Tryd.ntmps28
    go_wp2_with fail
    refine V.out.mono ?_
    rintro e w1 ⟨rfl, hb⟩
    obtain ⟨g0, g1, g2⟩ := zbox_below hb
    have HB := Lib.hid (below3 HBA.out hb)
    have HBX : Hid (w.heap.size < w1.heap.size) := Lib.hid (by have := hb.size; simp at this; omega)
    clear hb V HBA
    go_wp2_with fail
    have hbr : Below w1.heap.size w1 w1 := Below.refl _ _
    go_region_held3 (fun w' => w'.cell? ⟨w.heap.size, 0, none⟩ = some (.string s) ∧ w'.cell? ⟨w.heap.size, 1, none⟩ = some (.int .i64 off) ∧ Below w1.heap.size w1 w')
      (first | (with_reducible exact ⟨k0, k1, kb⟩) | (exact ⟨g0, g1, hbr⟩) | (exact ⟨g0, g1, bel_drew hbr⟩) | go_keep)
      ((go_at_call 46; refine (SG.out _).mono ?_; rintro e w2 ⟨rfl, hb2⟩; obtain ⟨h0, h1, h2⟩ := ‹_ ∧ _ ∧ Below w1.heap.size w1 _›; have k0 := below_cell hb2 h0; have k1 := below_cell hb2 h1; have kb : Below w1.heap.size w1 w2 := Below.trans h2 (hb2.mono h2.size)))
    clear hbr
    have HB2 := Lib.hid (HB.out.trans (‹Below w1.heap.size w1 _›.mono HB.out.size))
    have HG2 := Lib.hid (below_cell ‹Below w1.heap.size w1 _› g2)
    clear g0 g1 g2 k0 k1 kb SG
    rw [HH.out]
    have H0 : Hid (headZ s.data.toList off ++ linesZ (xs.take 0) = headZ s.data.toList off) := Lib.hid (by simp [linesZ])
    have HBW : Hid (Below w2.heap.size w2 w2) := Lib.hid (Below.refl _ _)
    clear m1 m2 m3 m4 m5 m6 hsg HH
    go_wp2_with fail
    go_loopw [5, 6] (fun s5 i wr => ∃ j : Nat, i = .int .i64 j ∧ j ≤ xs.length ∧ s5 = .string (arr (headZ s.data.toList off ++ linesZ (xs.take j))) ∧ Hid (Below w2.heap.size w2 wr)) (fun _ i _ => xs.length - (intOf i).toNat)
    case atStart => exact ⟨0, rfl, by omega, by rw [H0.out], HBW⟩
    case round =>
      obtain ⟨j, rfl, hj, rfl, HW⟩ := hrel
      clear H0 HBW
      have g2 := below_cell HW.out HG2.out
      by_cases hlt : j < xs.length
      · rcases HP.out with h0 | ⟨b, of, rfl, hPC⟩
        · rw [h0] at hlt; simp at hlt
        · obtain ⟨x0, x1⟩ := hPC j hlt
          have x0 := below_cell HW.out (below_cell HB2.out x0)
          have x1 := below_cell HW.out (below_cell HB2.out x1)
          obtain ⟨⟨t0, t1⟩, q0, q1⟩ := hin.out (xs.getD j (0, 0)) (by rw [List.getD_eq_getElem?_getD, List.getElem?_eq_getElem hlt]; exact List.getElem_mem hlt)
          have HT := Lib.hid (linesZ_take hlt)
          have HJ := Lib.hid (line_join (headZ s.data.toList off ++ linesZ (xs.take j)) (xs.getD j (0, 0)))
          have hlen : (arr (headZ s.data.toList off ++ linesZ (xs.take j))).size ≤ 1495 := by
            rw [arr_size, List.length_append, linesZ_len, List.length_take]
            have := HHL.out
            omega
          have ST := Lib.hid (fun w => stamp_any (xs.getD j (0, 0)).1 t0 t1 w)
          have SG := Lib.hid (fun w => rsigned_any (xs.getD j (0, 0)).2 q0 q1 w)
          have z1 : (arr (stp (xs.getD j (0, 0)).1)).size = 16 := rfl
          have z2 : (arr (shw (xs.getD j (0, 0)).2)).size = 5 := rfl
          rw [List.append_assoc, ← HT.out] at HJ
          clear HT hPC
          generalize arr (headZ s.data.toList off ++ linesZ (xs.take j)) = so1 at *
          generalize hs2 : arr (headZ s.data.toList off ++ linesZ (xs.take (j + 1))) = so2 at *
          have HS2 := Lib.hid hs2
          clear hs2
          generalize arr (stp (xs.getD j (0, 0)).1) = st1 at *
          generalize arr (shw (xs.getD j (0, 0)).2) = sg1 at *
          generalize (xs.getD j (0, 0)).1 = tt at *
          generalize (xs.getD j (0, 0)).2 = oo at *
          have n1 : ¬ 9223372036854775807 < so1.size + 23 := by omega
          have hbr : Below wr.heap.size wr wr := Below.refl _ _
          go_wp2_with fail
          go_region_held3 (fun w' => w'.cell? ⟨w.heap.size, 2, none⟩ = some (.slice (some ⟨b, of, none⟩) xs.length cap) ∧ w'.cell? ⟨b, of + j * 2, none⟩ = some (.int .i64 tt) ∧ w'.cell? ⟨b, of + j * 2 + 1, none⟩ = some (.int .i64 oo) ∧ Below wr.heap.size wr w')
            (first | (with_reducible exact ⟨k0, k1, k2, kb⟩) | (exact ⟨g2, x0, x1, hbr⟩) | (exact ⟨g2, x0, x1, bel_drew hbr⟩) | go_keep)
            (first
              | (go_at_call 46; refine (SG.out _).mono ?_; rintro e w3 ⟨rfl, hb3⟩; obtain ⟨h0, h1, h2, h3⟩ := ‹_ ∧ _ ∧ _ ∧ Below wr.heap.size wr _›; have k0 := below_cell hb3 h0; have k1 := below_cell hb3 h1; have k2 := below_cell hb3 h2; have kb : Below wr.heap.size wr w3 := Below.trans h3 (hb3.mono h3.size))
              | (go_at_call 47; refine (ST.out _).mono ?_; rintro e w3 ⟨rfl, hb3⟩; obtain ⟨h0, h1, h2, h3⟩ := ‹_ ∧ _ ∧ _ ∧ Below wr.heap.size wr _›; have k0 := below_cell hb3 h0; have k1 := below_cell hb3 h1; have k2 := below_cell hb3 h2; have kb : Below wr.heap.size wr w3 := Below.trans h3 (hb3.mono h3.size)))
          have HW3 := Lib.hid (HW.out.trans (‹Below wr.heap.size wr _›.mono HW.out.size))
          clear k0 k1 k2 kb hbr g2 x0 x1
          rw [HJ.out]
          go_wp2_with fail
          go_roundw
          case rel => exact ⟨j + 1, by go_num, by omega, by rw [HS2.out], HW3⟩
          case measure => simp [intOf]; omega
      · obtain rfl : j = xs.length := by omega
        go_wp2_with fail
        go_ret2
        exact ⟨by rw [HF.out, HE.out, List.take_length]; rfl, HB2.out.trans (HW.out.mono HB2.out.size)⟩
end Go.Proofs.YtllcoocllkaanaaDoor
