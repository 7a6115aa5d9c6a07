/- Zones: the text of a zone, of the program. -/
import Derived.Test.YtllcoocllkaanaaDoorY5
import Derived.Deep.DeepCutAuto
namespace Go.Proofs.YtllcoocllkaanaaDoor
open Go.RowKit TT

theorem rowF_keep {w w' : World} {base : Nat} {e : TypeId} {size : Nat} {v : Value} {n : Nat} {xs : List Value} (h : w.ownsRowF base e size v n xs) (hk : ∀ g, v.ownBlock = some g → w'.heap[g]? = w.heap[g]?) : w'.ownsRowF base e size v n xs := by
  obtain ⟨h1, h2⟩ := id h
  refine ⟨h1, ?_⟩
  rcases h2 with h2 | ⟨g, cap, cur, fz, hv, hg, hh, r⟩
  · exact Or.inl h2
  · exact Or.inr ⟨g, cap, cur, fz, hv, hg, by rw [hk g (by rw [hv]; rfl)]; exact hh, r⟩
/-- a builder of texts -/
def BldW (B b : Nat) (t : L8) (w : World) : Prop := Lib.IsBuilderF 63 5 B b (Lib.byteCells t) w
theorem bldAt_keep {w w' : World} {B b : Nat} {p : Value} {bs : List Value} (h : Lib.BuilderAtF 63 5 B b p bs w) (hk : ∀ g c T fz, B ≤ g → (T = 63 ∨ T = 5) → w.heap[g]? = some (.cells c T fz) → w'.heap[g]? = w.heap[g]?) : Lib.BuilderAtF 63 5 B b p bs w' := by
  obtain ⟨hB, v, hb, hown, hne⟩ := h
  refine ⟨hB, v, ?_, ?_, hne⟩
  · rw [hk b _ 63 _ hB (Or.inl rfl) hb]; exact hb
  · refine rowF_keep hown fun g hg => ?_
    obtain ⟨c, fz, hc⟩ := Lib.ownsRowF_kind hown g hg
    exact hk g c 5 fz (hown.lt g hg).1 (Or.inr rfl) hc
theorem BldW.keep {w w' : World} {B b : Nat} {t : L8} (h : BldW B b t w) (hk : ∀ g c T fz, B ≤ g → (T = 63 ∨ T = 5) → w.heap[g]? = some (.cells c T fz) → w'.heap[g]? = w.heap[g]?) : BldW B b t w' :=
  h.elim (fun x => .inl (bldAt_keep x hk)) (fun x => .inr (bldAt_keep x hk))
theorem BldW.below {w w' : World} {B b : Nat} {t : L8} (h : BldW B b t w) (hb : Below w.heap.size w w') : BldW B b t w' := h.keep fun g _ _ _ _ _ hc => hb.block g (lt_of_heap hc)
theorem BldW.lt {w : World} {B b : Nat} {t : L8} (h : BldW B b t w) : B ≤ b ∧ b < w.heap.size := by
  rcases h with ⟨hB, v, hb, _⟩ | ⟨hB, v, hb, _⟩
  · exact ⟨hB, lt_of_heap hb⟩
  · exact ⟨hB, lt_of_heap hb⟩
theorem BldW.start (w : World) : BldW w.heap.size w.heap.size [] (w.alloc (.cells #[.pointer none, .slice none 0 0] 63)) := Lib.IsBuilderF.of (Lib.fresh_isBuilder 63 5 w)
/-- What a write to a builder leaves. -/
def WrB (bb n : Nat) (t : L8) (w : World) (e : Ending) (w' : World) : Prop := e = .returned (.tuple #[.int .i64 n, .nilIface]) ∧ BldW bb bb t w' ∧ Below bb w w'
theorem write_any {bb : Nat} {t : L8} {s : ByteArray} {w : World} (h : BldW bb bb t w) (hlen : t.length + s.size ≤ 140737488355328) : Calls Tryd.prog 42 #[.pointer (some ⟨bb, 0, none⟩), .string s] w (WrB bb s.size (t ++ s.data.toList) w) :=
  (writeString_k bb bb (Lib.byteCells t) s w h (by rw [Lib.byteCells_length]; exact hlen) (by have := h.lt; omega)).mono fun e w' ⟨he, hb, hbel, _⟩ => ⟨he, Or.inr (by rw [Lib.byteCells_append]; exact hb), hbel⟩
theorem toL_arr (l : L8) : (arr l).data.toList = l := by cases l <;> rfl

set_option maxRecDepth 100000 in
set_option maxHeartbeats 4000000 in
theorem format_any {v : Value} {s : ByteArray} {off : Int} {xs : Prs} (w : World) (h : ZVal w v s off xs) (hT : Tbs w) : Calls Tryd.prog 27 #[v] w (FmtP (s.data.toList, off, xs) w) := by
  have h0 := h
  obtain ⟨sv, rfl, hs, a, cap, rfl, hn, hP⟩ := h
  have hba : Below w.heap.size w (w.alloc (.cells #[.string s, .int .i64 off, .slice a xs.length cap] 24)) := (Below.refl _ _).alloc (Nat.le_refl _) _
  have V := Lib.hid (valid_any _ (h0.below hba))
  unfold VldP at V
  have HBA := Lib.hid hba
  have HP := Lib.hid hP
  have HT := Lib.hid hT
  clear h0 hba hP hT
  by_cases hv : vldE s.data.toList off xs = 0
  rotate_left
  · have hE : ((vldE s.data.toList off xs) != 0) = true := by rw [bne_iff_ne]; exact hv
    have HF : Hid (fmtS (s.data.toList, off, xs) = []) := Lib.hid (if_neg hv)
    clear hv
    go_enter Tryd.func27, Tryd.ntmps27
    go_wp2_with fail
    refine V.out.mono ?_
    rintro e w1 ⟨rfl, hb⟩
    have HB := Lib.hid (below3 HBA.out hb)
    clear hb
    go_wp2_with fail
    go_ret2
    exact ⟨by rw [HF.out]; rfl, HB.out⟩
  · have hE : ((vldE s.data.toList off xs) != 0) = false := by rw [hv]; rfl
    obtain ⟨hc, ⟨o0, o1⟩, hl, hsh⟩ := vldE_ok hv
    have hin := Lib.hid (shE_in _ _ _ hsh)
    have hc16 := (codeOk_of hc).2.1
    have hs16 : s.size ≤ 16 := hc16
    have HF : Hid (fmtS (s.data.toList, off, xs) = headZ s.data.toList off ++ linesZ xs) := Lib.hid (if_pos hv)
    have HE : Hid (vldE (s.data.toList, off, xs).1 (s.data.toList, off, xs).2.1 (s.data.toList, off, xs).2.2 = 0) := Lib.hid hv
    have SG := Lib.hid (fun w => shown_any off o0 o1 w)
    have hsg : (arr (shw off)).size = 5 := rfl
    have HH := Lib.hid (head_join s off)
    have HHL : Hid ((headZ s.data.toList off).length ≤ 23) := Lib.hid (headZ_len hc16)
    have m1 : ¬ 9223372036854775807 < s.size + 1 := by omega
    have m2 : ¬ 9223372036854775807 < s.size + 1 + 5 := by omega
    have m3 : ¬ 9223372036854775807 < s.size + 1 + 5 + 1 := by omega
    have m4 : ¬ 9223372036854775807 < s.size + 6 := by omega
    have m5 : ¬ 9223372036854775807 < s.size + 6 + 1 := by omega
    have m6 : ¬ 9223372036854775807 < s.size + 7 := by omega
    rw [hv] at V hE
    clear hv hc hsh hc16
    generalize arr (shw off) = so at *
    go_enter Tryd.func27, Tryd.ntmps27
    go_wp2_with fail
    refine V.out.mono ?_
    rintro e w1 ⟨rfl, hb⟩
    obtain ⟨g0, g1, g2⟩ := zbox_below hb
    have HB := Lib.hid (below3 HBA.out hb)
    have HBX : Hid (w.heap.size < w1.heap.size) := Lib.hid (by have := hb.size; simp at this; omega)
    clear hb V HBA
    go_upto_region 5 with fail
    have HG0 := Lib.hid (BldW.start w1)
    have hb1 : Below w1.heap.size w1 (w1.alloc (.cells #[.pointer none, .slice none 0 0] 63)) := (Below.refl _ _).alloc (Nat.le_refl _) _
    have q0 := below_cell hb1 g0
    have q1 := below_cell hb1 g1
    have HB2 := Lib.hid (HB.out.trans (hb1.mono HB.out.size))
    have HG2 := Lib.hid (below_cell hb1 g2)
    have HZ2 : Hid (w1.heap.size ≤ (w1.alloc (.cells #[.pointer none, .slice none 0 0] 63)).heap.size) := Lib.hid hb1.size
    have HZ1 := Lib.hid HB.out.size
    clear hb1 g0 g1 g2
    generalize w1.alloc (.cells #[.pointer none, .slice none 0 0] 63) = w2 at *
    generalize w1.heap.size = bb at *
    have WR := Lib.hid (write_any (s := s ++ ⟨#[32]⟩ ++ so ++ ⟨#[10]⟩) (HG0.out.below (show Below w2.heap.size w2 w2.drew from bel_drew (Below.refl _ _))) (by rw [HH.out, arr_size]; have := HHL.out; simp; omega))
    have HTX : Hid ([] ++ (s ++ ⟨#[32]⟩ ++ so ++ ⟨#[10]⟩ : ByteArray).data.toList = headZ s.data.toList off ++ linesZ (xs.take 0)) := Lib.hid (by rw [HH.out, toL_arr]; simp [linesZ])
    go_cut [5] (fun s5 wx => s5 = .pointer (some ⟨bb, 0, none⟩) ∧ wx.cell? ⟨w.heap.size, 2, none⟩ = some (.slice a xs.length cap) ∧ Hid (BldW bb bb (headZ s.data.toList off ++ linesZ (xs.take 0)) wx) ∧ Hid (Below w.heap.size w wx))
    case first =>
      go_region_with (first
        | (go_at_call 43; refine (SG.out _).mono ?_; rintro e w3 ⟨rfl, rfl⟩)
        | (go_at_call 42; refine WR.out.mono ?_; rintro e w3 ⟨rfl, hbw, hbl⟩; have HBW := Lib.hid hbw; have HBL := Lib.hid hbl; clear hbw hbl))
      all_goals
        go_wp2_with fail
        go_meet
        exact ⟨rfl, by rw [HBL.out.cell (p := ⟨w.heap.size, 2, none⟩) HBX.out]; exact HG2.out, Lib.hid (by rw [← HTX.out]; exact HBW.out), Lib.hid (HB2.out.drew.trans (HBL.out.mono HZ1.out))⟩
    case rest =>
      obtain ⟨rfl, g2, HBD, HBW⟩ := hcut
      clear HG0 q0 q1 WR HTX HG2 HB2 HB SG HH m1 m2 m3 m4 m5 m6 hsg
      go_wp2_with fail
      go_loopw [25] (fun i wr => ∃ j : Nat, i = .int .i64 j ∧ j ≤ xs.length ∧ Hid (BldW bb bb (headZ s.data.toList off ++ linesZ (xs.take j)) wr) ∧ Hid (Below w.heap.size w wr)) (fun i _ => xs.length - (intOf i).toNat)
      case atStart => exact ⟨0, rfl, by omega, HBD, HBW⟩
      case round =>
        obtain ⟨j, rfl, hj, HD, HW⟩ := hrel
        clear HBD HBW g2
        by_cases hlt : j < xs.length
        · rcases HP.out with h0 | ⟨b, of, rfl, hPC⟩
          · rw [h0] at hlt; simp at hlt
          · obtain ⟨x0, x1⟩ := hPC j hlt
            have x0 := below_cell HW.out x0
            have x1 := below_cell HW.out x1
            obtain ⟨⟨t0, t1⟩, q0, q1⟩ := hin.out (xs.getD j (0, 0)) (by rw [List.getD_eq_getElem?_getD, List.getElem?_eq_getElem hlt]; exact List.getElem_mem hlt)
            have HTK := Lib.hid (linesZ_take hlt)
            have hlj : ((arr (stp (xs.getD j (0, 0)).1) ++ ⟨#[32]⟩) ++ arr (shw (xs.getD j (0, 0)).2)) ++ ⟨#[10]⟩ = arr (lineS (xs.getD j (0, 0))) := by
              have h := line_join [] (xs.getD j (0, 0))
              have e : arr [] = ⟨#[]⟩ := rfl
              rw [List.nil_append] at h
              rw [← h, ← arr_of (arr (stp (xs.getD j (0, 0)).1) ++ ⟨#[32]⟩ ++ arr (shw (xs.getD j (0, 0)).2) ++ ⟨#[10]⟩), arr_app]
              rfl
            have HLJ := Lib.hid hlj
            have hbl4 : Below wr.heap.size wr (wr.alloc (.cells #[.int .i64 (xs.getD j (0, 0)).1, .int .i64 (xs.getD j (0, 0)).2] 43)) := (Below.refl _ _).alloc (Nat.le_refl _) _
            have p0 : (wr.alloc (.cells #[.int .i64 (xs.getD j (0, 0)).1, .int .i64 (xs.getD j (0, 0)).2] 43)).cell? ⟨wr.heap.size, 0, none⟩ = some (.int .i64 (xs.getD j (0, 0)).1) := by rw [World.cell?_alloc_at _ _ _ _ rfl]; rfl
            have p1 : (wr.alloc (.cells #[.int .i64 (xs.getD j (0, 0)).1, .int .i64 (xs.getD j (0, 0)).2] 43)).cell? ⟨wr.heap.size, 1, none⟩ = some (.int .i64 (xs.getD j (0, 0)).2) := by rw [World.cell?_alloc_at _ _ _ _ rfl]; rfl
            have HD4 := Lib.hid (HD.out.below hbl4)
            have HW4 := Lib.hid (HW.out.trans (hbl4.mono HW.out.size))
            have SG := Lib.hid (fun w => shown_any (xs.getD j (0, 0)).2 q0 q1 w)
            have z1 : (arr (stp (xs.getD j (0, 0)).1)).size = 16 := rfl
            have z2 : (arr (shw (xs.getD j (0, 0)).2)).size = 5 := rfl
            have WRX := Lib.hid (fun W (h : BldW bb bb (headZ s.data.toList off ++ linesZ (xs.take j)) W) => write_any (s := ((arr (stp (xs.getD j (0, 0)).1) ++ ⟨#[32]⟩) ++ arr (shw (xs.getD j (0, 0)).2)) ++ ⟨#[10]⟩) h (by
              rw [hlj, arr_size, List.length_append, linesZ_len, List.length_take]
              have := HHL.out
              have e : (lineS (xs.getD j (0, 0))).length = 23 := rfl
              omega))
            have HNX : Hid ((headZ s.data.toList off ++ linesZ (xs.take j)) ++ (((arr (stp (xs.getD j (0, 0)).1) ++ ⟨#[32]⟩) ++ arr (shw (xs.getD j (0, 0)).2)) ++ ⟨#[10]⟩ : ByteArray).data.toList = headZ s.data.toList off ++ linesZ (xs.take (j + 1))) := Lib.hid (by rw [hlj, toL_arr, HTK.out, List.append_assoc])
            have MO := Lib.hid (fun w h => moment_any (xs.getD j (0, 0)).1 t0 t1 w h)
            clear hlj hPC hbl4
            generalize arr (stp (xs.getD j (0, 0)).1) = st1 at *
            generalize arr (shw (xs.getD j (0, 0)).2) = sg1 at *
            generalize (xs.getD j (0, 0)).1 = tt at *
            generalize (xs.getD j (0, 0)).2 = oo at *
            go_upto_region 9 with fail
            generalize wr.alloc (.cells #[.int .i64 tt, .int .i64 oo] 43) = w4 at *
            have HTB := Lib.hid (HT.out.below HW4.out.drew)
            have HDd := Lib.hid (HD4.out.below (show Below w4.heap.size w4 w4.drew from bel_drew (Below.refl _ _)))
            have HWd := Lib.hid HW4.out.drew
            have p0d : w4.drew.cell? ⟨wr.heap.size, 0, none⟩ = some (.int .i64 tt) := p0
            have p1d : w4.drew.cell? ⟨wr.heap.size, 1, none⟩ = some (.int .i64 oo) := p1
            go_region_with (first
              | (go_at_call 43; refine (SG.out _).mono ?_; rintro e w5 ⟨rfl, rfl⟩)
              | (go_at_call 44; refine (MO.out _ HTB.out).mono ?_; rintro e w6 ⟨rfl, hb6⟩; have HB6 := Lib.hid (HDd.out.below hb6); have HW6 := Lib.hid (HWd.out.trans (hb6.mono HWd.out.size)); have k0 := below_cell hb6 p0d; have k1 := below_cell hb6 p1d; clear hb6)
              | (go_at_call 42; refine (WRX.out _ HB6.out).mono ?_; rintro e w7 ⟨rfl, hbw, hbl⟩; have HBW7 := Lib.hid hbw; have HBL7 := Lib.hid hbl; clear hbw hbl))
            all_goals
              go_wp2_with fail
              go_roundw
              case rel => exact ⟨j + 1, by go_num, by omega, Lib.hid (by rw [← HNX.out]; exact HBW7.out), Lib.hid (HW6.out.trans (HBL7.out.mono HZ1.out))⟩
              case measure => simp [intOf]; omega
        · obtain rfl : j = xs.length := by omega
          have ST := Lib.hid (Tryd.Builder_String_any_k bb bb (headZ s.data.toList off ++ linesZ (xs.take xs.length)) wr HD.out (Nat.le_trans (Nat.le_of_lt HD.out.lt.2) (Nat.le_refl _)))
          go_wp2_with fail
          refine ST.out.mono ?_
          rintro e w8 ⟨rfl, _, hb8, _⟩
          have HW8 := Lib.hid (HW.out.trans (hb8.mono HZ1.out))
          clear hb8
          go_wp2_with fail
          go_ret2
          exact ⟨by rw [HF.out, HE.out]; rfl, HW8.out⟩
end Go.Proofs.YtllcoocllkaanaaDoor
