import Derived.Test.YtllcoocllkaanaaDoorZ4
namespace Go.Proofs.YtllcoocllkaanaaDoor
open Go.RowKit

theorem atF_stop {xs : Prs} {j : Nat} {t po : Int} (h : j < xs.length) (hc : t < (xs.getD j (0, 0)).1) : atF t po (xs.drop j) = po := by
  rw [drop_cons h]; unfold atF; rw [if_pos hc]
theorem atF_on {xs : Prs} {j : Nat} {t po : Int} (h : j < xs.length) (hc : ¬ t < (xs.getD j (0, 0)).1) : atF t po (xs.drop j) = atF t (xs.getD j (0, 0)).2 (xs.drop (j + 1)) := by
  rw [drop_cons h]; conv => lhs; unfold atF
  rw [if_neg hc]
theorem offF_yes {xs : Prs} {j : Nat} {t po : Int} (h : j < xs.length) (hc : (xs.getD j (0, 0)).1 ≤ t) : offF t po (xs.drop j) = offF t (xs.getD j (0, 0)).2 (xs.drop (j + 1)) := by
  rw [drop_cons h]; conv => lhs; unfold offF
  rw [if_pos hc]
theorem offF_not {xs : Prs} {j : Nat} {t po : Int} (h : j < xs.length) (hc : ¬ (xs.getD j (0, 0)).1 ≤ t) : offF t po (xs.drop j) = offF t po (xs.drop (j + 1)) := by
  rw [drop_cons h]; conv => lhs; unfold offF
  rw [if_neg hc]

set_option maxHeartbeats 1000000 in
set_option maxRecDepth 100000 in
theorem at_any {v : Value} {s : ByteArray} {off : Int} {xs : Prs} (t : Int) (w : World) (h : ZVal w v s off xs) : Calls Tryd.prog 41 #[v, .int .i64 t] w (RetB (.int .i64 (atF t off xs)) w) := by
  obtain ⟨sv, rfl, hs, a, cap, rfl, hn, hP⟩ := h
  have HP := Lib.hid hP
  have HX : Hid (∀ j (h : j < xs.length), ∃ b of, a = some ⟨b, of, none⟩ ∧ PCells w b of xs) := Lib.hid (fun j h => by
    rcases HP.out with hq | ⟨b, of, hq, hq2⟩
    · rw [hq] at h; simp at h
    · exact ⟨b, of, hq, hq2⟩)
  generalize hL : xs.length = len at *
  have HL := Lib.hid hL
  clear hP hL HP
  go_enter Tryd.func41, Tryd.ntmps41
  go_wp2
  have B0 := Lib.hid ((Below.refl w.heap.size w).alloc (Nat.le_refl _) (.cells #[.string s, .int .i64 off, .slice a len cap] 24))
  generalize w.alloc (.cells #[.string s, .int .i64 off, .slice a len cap] 24) = w0 at *
  go_loopw [5, 7, 13] (fun ov _ i wr => ∃ (j : Nat) (po : Int), j ≤ len ∧ i = .int .i64 j ∧ ov = .int .i64 po ∧ Hid (atF t off xs = atF t po (xs.drop j)) ∧ Below w0.heap.size w0 wr) (fun _ _ i _ => len - (intOf i).toNat)
  case atStart => exact ⟨0, off, Nat.zero_le _, rfl, rfl, Lib.hid rfl, Below.refl _ _⟩
  case round =>
    obtain ⟨j, po, hj, rfl, rfl, HE, hb⟩ := hrel
    have HB := Lib.hid hb
    by_cases hlt : j < len
    · obtain ⟨b, of, rfl, hP⟩ := HX.out j hlt
      have hlt' : j < xs.length := by have := HL.out; omega
      obtain ⟨c1, c2⟩ := ((hP.below B0.out).below hb) j hlt'
      have HS := Lib.hid (fun h => atF_stop (t := t) (po := po) hlt' h)
      have HO := Lib.hid (fun h => atF_on (t := t) (po := po) hlt' h)
      have BN := Lib.hid (fun o => hb.alloc hb.size o)
      clear hP hb hlt'
      generalize (xs.getD j (0, 0)).1 = x at *
      generalize (xs.getD j (0, 0)).2 = o at *
      by_cases ht : t < x
      · have FF : Hid (atF t off xs = po) := Lib.hid (by rw [HE.out, HS.out ht])
        have BB := Lib.hid (B0.out.trans ((BN.out (.cells #[.int .i64 x, .int .i64 o] 43)).mono B0.out.size))
        go_wp2
        go_ret
        exact ⟨ret_int FF.out.symm, BB.out⟩
      · have FF := Lib.hid (HO.out ht)
        go_wp2
        go_round
        case rel => exact ⟨j + 1, o, by omega, by go_num, rfl, Lib.hid (by rw [HE.out, FF.out]), BN.out _⟩
        case measure => simp [intOf]; omega
    · have FF : Hid (atF t off xs = po) := Lib.hid (by rw [HE.out, List.drop_of_length_le (by have := HL.out; omega)]; rfl)
      have BB := Lib.hid (B0.out.trans (hb.mono B0.out.size))
      go_wp2
      go_ret
      exact ⟨ret_int FF.out.symm, BB.out⟩

set_option maxHeartbeats 1000000 in
set_option maxRecDepth 100000 in
theorem roff_any {v : Value} {s : ByteArray} {off : Int} {xs : Prs} (t : Int) (w : World) (h : ZVal w v s off xs) : Calls Tryd.prog 37 #[v, .int .i64 t] w (RetB (.int .i64 (offF t off xs)) w) := by
  obtain ⟨sv, rfl, hs, a, cap, rfl, hn, hP⟩ := h
  have HP := Lib.hid hP
  have HX : Hid (∀ j (h : j < xs.length), ∃ b of, a = some ⟨b, of, none⟩ ∧ PCells w b of xs) := Lib.hid (fun j h => by
    rcases HP.out with hq | ⟨b, of, hq, hq2⟩
    · rw [hq] at h; simp at h
    · exact ⟨b, of, hq, hq2⟩)
  generalize hL : xs.length = len at *
  have HL := Lib.hid hL
  clear hP hL HP
  have z0 : w.heap.size < (w.alloc (.cells #[.string s, .int .i64 off, .slice a len cap] 24)).heap.size := by simp
  have Z2 : (w.alloc (.cells #[.string s, .int .i64 off, .slice a len cap] 24)).cell? ⟨w.heap.size, 2, none⟩ = some (.slice a len cap) := by rw [World.cell?_alloc_at _ _ _ _ rfl]; rfl
  have HZ2 := Lib.hid Z2
  have Z0 := Lib.hid z0
  clear Z2 z0
  go_enter Tryd.func37, Tryd.ntmps37
  go_wp2
  have B0 := Lib.hid ((Below.refl w.heap.size w).alloc (Nat.le_refl _) (.cells #[.string s, .int .i64 off, .slice a len cap] 24))
  generalize w.alloc (.cells #[.string s, .int .i64 off, .slice a len cap] 24) = w0 at *
  go_loop [5, 6] (fun ov i => ∃ (j : Nat) (po : Int), j ≤ len ∧ i = .int .i64 j ∧ ov = .int .i64 po ∧ Hid (offF t off xs = offF t po (xs.drop j))) (fun _ i => len - (intOf i).toNat)
  case atStart => exact ⟨0, off, Nat.zero_le _, rfl, rfl, Lib.hid rfl⟩
  case round =>
    obtain ⟨j, po, hj, rfl, rfl, HE⟩ := hrel
    have z2 := HZ2.out
    by_cases hlt : j < len
    · obtain ⟨b, of, rfl, hP⟩ := HX.out j hlt
      have hlt' : j < xs.length := by have := HL.out; omega
      obtain ⟨c1, c2⟩ := (hP.below B0.out) j hlt'
      have HS := Lib.hid (fun h => offF_yes (t := t) (po := po) hlt' h)
      have HO := Lib.hid (fun h => offF_not (t := t) (po := po) hlt' h)
      clear hP hlt'
      generalize (xs.getD j (0, 0)).1 = x at *
      generalize (xs.getD j (0, 0)).2 = o at *
      by_cases ht : x ≤ t
      · have FF := Lib.hid (HS.out ht)
        go_wp2
        go_round
        case rel => exact ⟨j + 1, o, by omega, by go_num, rfl, Lib.hid (by rw [HE.out, FF.out])⟩
        case measure => simp [intOf]; omega
      · have FF := Lib.hid (HO.out ht)
        go_wp2
        go_round
        case rel => exact ⟨j + 1, po, by omega, by go_num, rfl, Lib.hid (by rw [HE.out, FF.out])⟩
        case measure => simp [intOf]; omega
    · have FF : Hid (offF t off xs = po) := Lib.hid (by rw [HE.out, List.drop_of_length_le (by have := HL.out; omega)]; rfl)
      go_wp2
      go_ret
      exact ⟨ret_int FF.out.symm, B0.out⟩

/-! ### Offset, Local -/
theorem zbox_below {w w1 : World} {s : ByteArray} {off : Int} {sv : Value} (hb : Below (w.alloc (.cells #[.string s, .int .i64 off, sv] 24)).heap.size (w.alloc (.cells #[.string s, .int .i64 off, sv] 24)) w1) :
    w1.cell? ⟨w.heap.size, 0, none⟩ = some (.string s) ∧ w1.cell? ⟨w.heap.size, 1, none⟩ = some (.int .i64 off) ∧ w1.cell? ⟨w.heap.size, 2, none⟩ = some sv := by
  have e : ∀ i, w1.cell? ⟨w.heap.size, i, none⟩ = (#[.string s, .int .i64 off, sv] : Array Value)[i]? := fun i => by
    rw [hb.cell (p := ⟨w.heap.size, i, none⟩) (by simp), World.cell?_alloc_at _ _ _ _ rfl]
  exact ⟨by rw [e]; rfl, by rw [e]; rfl, by rw [e]; rfl⟩

def OffP (s : ByteArray) (off : Int) (xs : Prs) (t : Int) (w : World) (e : Ending) (w' : World) : Prop := RetB (.tuple #[.int .i64 (offV s.data.toList off xs t), .int .i64 (offE s.data.toList off xs t)]) w e w'
def LocP (s : ByteArray) (off : Int) (xs : Prs) (t : Int) (w : World) (e : Ending) (w' : World) : Prop := RetB (.tuple #[.int .i64 (locV s.data.toList off xs t), .int .i64 (offE s.data.toList off xs t)]) w e w'

theorem offE_bad {nm : L8} {off : Int} {xs : Prs} {t : Int} (h : vldE nm off xs ≠ 0) : offE nm off xs t = vldE nm off xs ∧ offV nm off xs t = 0 ∧ locV nm off xs t = 0 := by
  have e : offE nm off xs t = vldE nm off xs := by unfold offE; rw [if_pos h]
  refine ⟨e, ?_, ?_⟩
  · unfold offV; rw [if_neg (by rw [e]; exact h)]
  · unfold locV; rw [if_neg (by rw [e]; exact h)]
theorem offE_range {nm : L8} {off : Int} {xs : Prs} {t : Int} (h : vldE nm off xs = 0) (hi : isI t = false) : offE nm off xs t = 3 ∧ offV nm off xs t = 0 ∧ locV nm off xs t = 0 := by
  have e : offE nm off xs t = 3 := by unfold offE; rw [if_neg (by simp [h]), if_pos hi]
  refine ⟨e, ?_, ?_⟩
  · unfold offV; rw [if_neg (by rw [e]; decide)]
  · unfold locV; rw [if_neg (by rw [e]; decide)]
theorem offE_fine {nm : L8} {off : Int} {xs : Prs} {t : Int} (h : vldE nm off xs = 0) (hi : isI t = true) : offE nm off xs t = 0 ∧ offV nm off xs t = atF t off xs ∧ locV nm off xs t = t + atF t off xs := by
  have e : offE nm off xs t = 0 := by unfold offE; rw [if_neg (by simp [h]), if_neg (by simp [hi])]
  refine ⟨e, ?_, ?_⟩
  · unfold offV; rw [if_pos e]
  · unfold locV; rw [if_pos e]

set_option maxRecDepth 100000 in
theorem offset_any {v : Value} {s : ByteArray} {off : Int} {xs : Prs} (t : Int) (w : World) (h : ZVal w v s off xs) : Calls Tryd.prog 22 #[v, .int .i64 t] w (OffP s off xs t w) := by
  have V := Lib.hid (fun w1 hb => valid_any (v := v) (s := s) (off := off) (xs := xs) w1 (h.below hb))
  have A := Lib.hid (fun w1 hb => at_any (v := v) (s := s) (off := off) (xs := xs) t w1 (h.below hb))
  have I := Lib.hid (fun w => instant_any t w)
  obtain ⟨sv, rfl, hs, a, cap, rfl, hn, hP⟩ := h
  clear hP
  generalize xs.length = len at *
  have B0 := Lib.hid ((Below.refl w.heap.size w).alloc (Nat.le_refl _) (.cells #[.string s, .int .i64 off, .slice a len cap] 24))
  have E := Lib.hid (fun h => offE_bad (nm := s.data.toList) (off := off) (xs := xs) (t := t) h)
  have E2 := Lib.hid (fun h hi => offE_range (nm := s.data.toList) (off := off) (xs := xs) (t := t) h hi)
  have E3 := Lib.hid (fun h hi => offE_fine (nm := s.data.toList) (off := off) (xs := xs) (t := t) h hi)
  by_cases hv : vldE s.data.toList off xs = 0
  · have HV := Lib.hid hv
    cases hi : isI t
    · have F := Lib.hid (E2.out hv hi)
      clear hv
      go_enter Tryd.func22, Tryd.ntmps22
      go_wp2_with (first | (go_at_call 20; refine (V.out _ B0.out).mono ?_) | fail)
      rintro e w1 ⟨rfl, hb⟩
      rw [HV.out]
      have BB := Lib.hid (B0.out.trans (hb.mono B0.out.size))
      clear hb
      go_wp2_with (first | (go_at_call 35; refine (I.out _).mono ?_; rintro e w' ⟨rfl, rfl⟩; rw [hi]) | fail)
      go_ret2
      exact ⟨by rw [F.out.1, F.out.2.1]; rfl, BB.out⟩
    · have F := Lib.hid (E3.out hv hi)
      clear hv
      go_enter Tryd.func22, Tryd.ntmps22
      go_wp2_with (first | (go_at_call 20; refine (V.out _ B0.out).mono ?_) | fail)
      rintro e w1 ⟨rfl, hb⟩
      rw [HV.out]
      obtain ⟨g0, g1, g2⟩ := zbox_below hb
      have BB := Lib.hid (B0.out.trans (hb.mono B0.out.size))
      clear hb
      go_wp2_with (first | (go_at_call 35; refine (I.out _).mono ?_; rintro e w' ⟨rfl, rfl⟩; rw [hi]) | (go_at_call 41; refine (A.out _ BB.out).mono ?_))
      rintro e w2 ⟨rfl, hb2⟩
      have BC := Lib.hid (BB.out.trans (hb2.mono BB.out.size))
      clear hb2
      go_wp2
      go_ret2
      exact ⟨by rw [F.out.1, F.out.2.1]; rfl, BC.out⟩
  · have F := Lib.hid (E.out hv)
    have q : (vldE s.data.toList off xs != 0) = true := by simpa using hv
    clear hv
    go_enter Tryd.func22, Tryd.ntmps22
    go_wp2_with (first | (go_at_call 20; refine (V.out _ B0.out).mono ?_) | fail)
    rintro e w1 ⟨rfl, hb⟩
    have BB := Lib.hid (B0.out.trans (hb.mono B0.out.size))
    clear hb
    go_wp2
    go_ret2
    exact ⟨by rw [F.out.1, F.out.2.1]; rfl, BB.out⟩

set_option maxRecDepth 100000 in
theorem local_any {v : Value} {s : ByteArray} {off : Int} {xs : Prs} (t : Int) (w : World) (h : ZVal w v s off xs) : Calls Tryd.prog 24 #[v, .int .i64 t] w (LocP s off xs t w) := by
  have V := Lib.hid (fun w1 hb => offset_any (v := v) (s := s) (off := off) (xs := xs) t w1 (h.below hb))
  obtain ⟨sv, rfl, hs, a, cap, rfl, hn, hP⟩ := h
  clear hP
  generalize xs.length = len at *
  have B0 := Lib.hid ((Below.refl w.heap.size w).alloc (Nat.le_refl _) (.cells #[.string s, .int .i64 off, .slice a len cap] 24))
  have E := Lib.hid (fun h => offE_bad (nm := s.data.toList) (off := off) (xs := xs) (t := t) h)
  have E2 := Lib.hid (fun h hi => offE_range (nm := s.data.toList) (off := off) (xs := xs) (t := t) h hi)
  have E3 := Lib.hid (fun h hi => offE_fine (nm := s.data.toList) (off := off) (xs := xs) (t := t) h hi)
  by_cases hv : offE s.data.toList off xs t = 0
  · have hvv : vldE s.data.toList off xs = 0 ∧ isI t = true := by
      by_cases h1 : vldE s.data.toList off xs = 0
      · cases h2 : isI t
        · have := (E2.out h1 h2).1; rw [this] at hv; cases hv
        · exact ⟨h1, rfl⟩
      · have := (E.out h1).1; rw [this] at hv; exact absurd hv h1
    obtain ⟨hvv, hi⟩ := hvv
    have F := Lib.hid (E3.out hvv hi)
    obtain ⟨_, hnn, _, hss⟩ := vldE_ok hvv
    have hat := atF_near (t := t) xs off _ hss hnn
    obtain ⟨ha1, ha2⟩ := hat
    have hti := isI_iff.1 hi
    obtain ⟨ht1, ht2⟩ := hti
    clear hv hvv hss hnn
    go_enter Tryd.func24, Tryd.ntmps24
    go_wp2_with (first | (go_at_call 22; refine (V.out _ B0.out).mono ?_) | fail)
    rintro e w1 ⟨rfl, hb⟩
    rw [F.out.1, F.out.2.1]
    have BB := Lib.hid (B0.out.trans (hb.mono B0.out.size))
    clear hb
    go_wp2
    go_ret2
    exact ⟨by rw [F.out.1, F.out.2.2]; rfl, BB.out⟩
  · have F : Hid (locV s.data.toList off xs t = 0) := Lib.hid (by unfold locV; rw [if_neg hv])
    have q : (offE s.data.toList off xs t != 0) = true := by simpa using hv
    clear hv
    go_enter Tryd.func24, Tryd.ntmps24
    go_wp2_with (first | (go_at_call 22; refine (V.out _ B0.out).mono ?_) | fail)
    rintro e w1 ⟨rfl, hb⟩
    have BB := Lib.hid (B0.out.trans (hb.mono B0.out.size))
    clear hb
    go_wp2
    go_ret2
    exact ⟨by rw [F.out]; rfl, BB.out⟩

set_option maxRecDepth 100000 in
theorem roffset_any {v : Value} {s : ByteArray} {off : Int} {xs : Prs} (t : Int) (w : World) (h : ZVal w v s off xs) : Calls Tryd.prog 23 #[v, .int .i64 t] w (OffP s off xs t w) := by
  have V := Lib.hid (fun w1 hb => rvalid_any (v := v) (s := s) (off := off) (xs := xs) w1 (h.below hb))
  have A := Lib.hid (fun w1 hb => roff_any (v := v) (s := s) (off := off) (xs := xs) t w1 (h.below hb))
  have I := Lib.hid (fun w => is_any t w)
  obtain ⟨sv, rfl, hs, a, cap, rfl, hn, hP⟩ := h
  clear hP
  generalize xs.length = len at *
  have B0 := Lib.hid ((Below.refl w.heap.size w).alloc (Nat.le_refl _) (.cells #[.string s, .int .i64 off, .slice a len cap] 24))
  have E := Lib.hid (fun h => offE_bad (nm := s.data.toList) (off := off) (xs := xs) (t := t) h)
  have E2 := Lib.hid (fun h hi => offE_range (nm := s.data.toList) (off := off) (xs := xs) (t := t) h hi)
  have E3 := Lib.hid (fun h hi => offE_fine (nm := s.data.toList) (off := off) (xs := xs) (t := t) h hi)
  by_cases hv : vldE s.data.toList off xs = 0
  · have HV := Lib.hid hv
    cases hi : isI t
    · have F := Lib.hid (E2.out hv hi)
      clear hv
      go_enter Tryd.func23, Tryd.ntmps23
      go_wp2_with (first | (go_at_call 21; refine (V.out _ B0.out).mono ?_) | fail)
      rintro e w1 ⟨rfl, hb⟩
      rw [HV.out]
      have BB := Lib.hid (B0.out.trans (hb.mono B0.out.size))
      clear hb
      go_wp2_with (first | (go_at_call 36; refine (I.out _).mono ?_; rintro e w' ⟨rfl, rfl⟩; rw [hi]) | fail)
      go_ret2
      exact ⟨by rw [F.out.1, F.out.2.1]; rfl, BB.out⟩
    · have F := Lib.hid (E3.out hv hi)
      have AO : offF t off xs = atF t off xs := (at_off xs off _ (vldE_ok hv).2.2.2).symm
      have HAO := Lib.hid AO
      clear AO
      clear hv
      go_enter Tryd.func23, Tryd.ntmps23
      go_wp2_with (first | (go_at_call 21; refine (V.out _ B0.out).mono ?_) | fail)
      rintro e w1 ⟨rfl, hb⟩
      rw [HV.out]
      obtain ⟨g0, g1, g2⟩ := zbox_below hb
      have BB := Lib.hid (B0.out.trans (hb.mono B0.out.size))
      clear hb
      go_wp2_with (first | (go_at_call 36; refine (I.out _).mono ?_; rintro e w' ⟨rfl, rfl⟩; rw [hi]) | (go_at_call 37; refine (A.out _ BB.out).mono ?_))
      rintro e w2 ⟨rfl, hb2⟩
      rw [HAO.out]
      have BC := Lib.hid (BB.out.trans (hb2.mono BB.out.size))
      clear hb2
      go_wp2
      go_ret2
      exact ⟨by rw [F.out.1, F.out.2.1]; rfl, BC.out⟩
  · have F := Lib.hid (E.out hv)
    have q : (vldE s.data.toList off xs != 0) = true := by simpa using hv
    clear hv
    go_enter Tryd.func23, Tryd.ntmps23
    go_wp2_with (first | (go_at_call 21; refine (V.out _ B0.out).mono ?_) | fail)
    rintro e w1 ⟨rfl, hb⟩
    have BB := Lib.hid (B0.out.trans (hb.mono B0.out.size))
    clear hb
    go_wp2
    go_ret2
    exact ⟨by rw [F.out.1, F.out.2.1]; rfl, BB.out⟩

set_option maxRecDepth 100000 in
theorem rlocal_any {v : Value} {s : ByteArray} {off : Int} {xs : Prs} (t : Int) (w : World) (h : ZVal w v s off xs) : Calls Tryd.prog 25 #[v, .int .i64 t] w (LocP s off xs t w) := by
  have V := Lib.hid (fun w1 hb => roffset_any (v := v) (s := s) (off := off) (xs := xs) t w1 (h.below hb))
  obtain ⟨sv, rfl, hs, a, cap, rfl, hn, hP⟩ := h
  clear hP
  generalize xs.length = len at *
  have B0 := Lib.hid ((Below.refl w.heap.size w).alloc (Nat.le_refl _) (.cells #[.string s, .int .i64 off, .slice a len cap] 24))
  have E := Lib.hid (fun h => offE_bad (nm := s.data.toList) (off := off) (xs := xs) (t := t) h)
  have E2 := Lib.hid (fun h hi => offE_range (nm := s.data.toList) (off := off) (xs := xs) (t := t) h hi)
  have E3 := Lib.hid (fun h hi => offE_fine (nm := s.data.toList) (off := off) (xs := xs) (t := t) h hi)
  by_cases hv : offE s.data.toList off xs t = 0
  · have hvv : vldE s.data.toList off xs = 0 ∧ isI t = true := by
      by_cases h1 : vldE s.data.toList off xs = 0
      · cases h2 : isI t
        · have := (E2.out h1 h2).1; rw [this] at hv; cases hv
        · exact ⟨h1, rfl⟩
      · have := (E.out h1).1; rw [this] at hv; exact absurd hv h1
    obtain ⟨hvv, hi⟩ := hvv
    have F := Lib.hid (E3.out hvv hi)
    obtain ⟨_, hnn, _, hss⟩ := vldE_ok hvv
    have hat := atF_near (t := t) xs off _ hss hnn
    obtain ⟨ha1, ha2⟩ := hat
    have hti := isI_iff.1 hi
    obtain ⟨ht1, ht2⟩ := hti
    clear hv hvv hss hnn
    go_enter Tryd.func25, Tryd.ntmps25
    go_wp2_with (first | (go_at_call 23; refine (V.out _ B0.out).mono ?_) | fail)
    rintro e w1 ⟨rfl, hb⟩
    rw [F.out.1, F.out.2.1]
    have BB := Lib.hid (B0.out.trans (hb.mono B0.out.size))
    clear hb
    go_wp2
    go_ret2
    exact ⟨by rw [F.out.1, F.out.2.2]; rfl, BB.out⟩
  · have F : Hid (locV s.data.toList off xs t = 0) := Lib.hid (by unfold locV; rw [if_neg hv])
    have q : (offE s.data.toList off xs t != 0) = true := by simpa using hv
    clear hv
    go_enter Tryd.func25, Tryd.ntmps25
    go_wp2_with (first | (go_at_call 23; refine (V.out _ B0.out).mono ?_) | fail)
    rintro e w1 ⟨rfl, hb⟩
    have BB := Lib.hid (B0.out.trans (hb.mono B0.out.size))
    clear hb
    go_wp2
    go_ret2
    exact ⟨by rw [F.out]; rfl, BB.out⟩

end Go.Proofs.YtllcoocllkaanaaDoor
