/- Records: strings.ContainsAny, of four ASCII signs, answers as it should at every string. -/
import Derived.Test.YtpiejpodaljefaaDoorN11
import Derived.Lib.TrimAscii
namespace Go.Proofs.YtpiejpodaljefaaDoor
open Go.RowKit

theorem use_set (n : Nat) (w : World) : Calls Tryd.prog 66 #[.int .i64 n] w (RetS (.bool (decide (8 < n))) w) := by
  go_enter Tryd.func66, Tryd.ntmps66
  go_wp2
  go_ret
  exact ⟨ret_bool (by simp <;> omega), rfl⟩
theorem idxByte_in (l : L8) (c : UInt8) : decide (0 ≤ Lib.indexByte l c) = l.contains c := by
  induction l with
  | nil => rfl
  | cons b l ih =>
    have hg := Lib.indexByte_ge l c
    rw [Lib.indexByte, List.contains_cons, ← ih]
    by_cases hb : b = c
    · subst hb; simp
    · have e1 : (b == c) = false := by simpa using hb
      have e2 : (c == b) = false := by simpa using fun h => hb h.symm
      rw [e1, e2]
      by_cases h1 : Lib.indexByte l c = -1
      · rw [h1]; rfl
      · rw [if_neg (by simp), if_neg (by simpa using h1)]
        rw [Bool.false_or, Bool.eq_iff_iff]
        simp only [decide_eq_true_eq]
        omega
/-- does the list have a byte of the signs? -/
def hasB (cs l : L8) : Bool := l.any (fun c => cs.contains c)
theorem hasB_hi {cs l : L8} (ha : ∀ b ∈ cs, b.toNat < 128) (hl : ∀ b ∈ l, 128 ≤ b.toNat) : hasB cs l = false := by
  unfold hasB
  rw [List.any_eq_false]
  intro x hx
  simp only [List.contains_iff_mem]
  intro h
  have := ha x h
  have := hl x hx
  omega
theorem hasB_step (cs : L8) (l : L8) (n N : Nat) : hasB cs (l.take (n + N)) = (hasB cs (l.take n) || hasB cs ((l.drop n).take N)) := by
  unfold hasB
  rw [← List.any_append, List.take_add]
theorem hasB_mono {cs l : L8} {n : Nat} (h : hasB cs (l.take n) = true) : hasB cs l = true := by
  unfold hasB at h ⊢
  rw [List.any_eq_true] at h ⊢
  obtain ⟨x, hx, h⟩ := h
  exact ⟨x, List.mem_of_mem_take hx, h⟩
theorem take_hi {l : L8} {N : Nat} (h : ∀ j, j < N → 128 ≤ (l.getD j 0).toNat) : ∀ b ∈ l.take N, 128 ≤ b.toNat := by
  intro b hb
  obtain ⟨j, hj, e⟩ := List.mem_iff_getElem.1 hb
  have hj2 : j < N ∧ j < l.length := by simp at hj; omega
  have := h j hj2.1
  rw [List.getElem_take] at e
  rw [← e]
  simpa [List.getD, hj2.2] using this

/-- What IndexAny hands back, as far as ContainsAny asks. -/
def AnyIdx (b : Bool) (w : World) (e : Ending) (w' : World) : Prop := ∃ v : Int, e = .returned (.int .i64 v) ∧ decide (0 ≤ v) = b ∧ Below w.heap.size w w'

set_option maxRecDepth 100000 in
set_option maxHeartbeats 4000000 in
theorem idxany_short (cs s : ByteArray) (h4 : cs.size = 4) (ha : ∀ b ∈ cs.data.toList, b.toNat < 128) (h8 : s.size ≤ 8) (w : World) :
    Calls Tryd.prog 60 #[.string s, .string cs] w (AnyIdx (hasB cs.data.toList s.data.toList) w) := by
  have hne : cs.toList.isEmpty = false := by
    rw [toList_data]
    cases he : cs.data.toList with
    | nil => have e : cs.data.toList.length = cs.size := rfl
             rw [he] at e; simp at e; omega
    | cons a l => rfl
  have e4 : ((cs.size : Int) == 1) = false := beq_eq_false_iff_ne.2 (by omega)
  have hd8 : decide (8 < s.size) = false := by simp; omega
  have US := Lib.hid (fun w => use_set s.size w)
  rw [hd8] at US
  have hw : ∀ n, w.iter s n = w.alloc (.stringIter s n) := fun _ => rfl
  have HI0 : Hid ((w.iter s 0).heap[w.heap.size]? = some (.stringIter s 0)) := Lib.hid (by simp only [World.iter_heap])
  have HB0 : Hid (Below w.heap.size w (w.iter s 0)) := Lib.hid (by rw [hw]; exact (Below.refl _ _).alloc (Nat.le_refl _) _)
  have HA := Lib.hid ha
  have H4 := Lib.hid h4
  have HF0 : Hid (hasB cs.data.toList (s.data.toList.take 0) = false) := Lib.hid rfl
  clear hw ha h4 hd8
  go_enter Tryd.func60, Tryd.ntmps60
  go_wp2_with (go_at_call 66; refine (US.out _).mono ?_; rintro e w' ⟨rfl, rfl⟩)
  go_loopw [9, 10] (fun _ _ wr => ∃ n : Nat, n ≤ s.size ∧ Hid (wr.heap[w.heap.size]? = some (.stringIter s n)) ∧ Hid (Below w.heap.size w wr) ∧ Hid (hasB cs.data.toList (s.data.toList.take n) = false)) (fun _ _ wr => s.size - wr.iterPos w.heap.size)
  case atStart => exact ⟨0, by omega, HI0, HB0, HF0⟩
  case round =>
    obtain ⟨n, hn, HI, HB, HF⟩ := hrel
    clear HI0 HB0 HF0
    have hpos : wr.iterPos w.heap.size = n := by unfold World.iterPos; rw [HI.out]
    have HPOS := Lib.hid hpos
    clear hpos
    by_cases hlt : n < s.size
    · have kn := fun ty => Lib.run_next_any_at (P := Tryd.prog) wr w.heap.size s n ty HI.out hlt
      have hd : Utf8.decode s n = Lib.decodeL (s.data.toList.drop n) := (Lib.decodeL_drop s n).symm
      rw [hd] at kn
      clear hd
      have hdne : s.data.toList.drop n ≠ [] := by rw [drop_at s n hlt]; simp
      have hle := Lib.decodeL_le (s.data.toList.drop n) hdne
      have hwd := Lib.decodeL_width (s.data.toList.drop n)
      have hlen : (s.data.toList.drop n).length = s.size - n := by rw [List.length_drop]; rfl
      rw [hlen] at hle
      have hst := hasB_step cs.data.toList s.data.toList n (Lib.decodeL (s.data.toList.drop n)).2
      rw [HF.out, Bool.false_or] at hst
      have hI2 := Lib.iterAt_heap wr w.heap.size s n (n + (Lib.decodeL (s.data.toList.drop n)).2) HI.out
      have hB2 := Lib.below_iterAt HB.out (Nat.le_refl _) s (n + (Lib.decodeL (s.data.toList.drop n)).2)
      have hg0 : (s.data.toList.drop n).getD 0 0 = s[n] := by rw [drop_at s n hlt]; rfl
      have HST := Lib.hid hst
      have HI2 := Lib.hid hI2; have HB2 := Lib.hid hB2
      clear hI2 hB2 hst hlen
      by_cases hasc : s[n].toNat < 128
      · have hde : Lib.decodeL (s.data.toList.drop n) = (s[n].toNat, 1) := by rw [drop_at s n hlt]; exact Lib.decodeL_ascii _ _ hasc
        rw [hde] at kn HI2 HB2 HST
        have IR := Lib.hid (fun w => same_flip ((Tryd.strings_IndexRune_ascii cs (s[n].toNat : Int) w (by omega) (by omega)).mono fun e w' ⟨a, b⟩ => (⟨a, b.symm⟩ : _ ∧ w = w')))
        have hin := idxByte_in cs.data.toList ((s[n].toNat : Int).toNat.toUInt8)
        have hh : (s[n].toNat : Int).toNat.toUInt8 = s[n] := by simp
        rw [hh] at hin IR
        have hb1 : hasB cs.data.toList ((s.data.toList.drop n).take 1) = cs.data.toList.contains s[n] := by rw [drop_at s n hlt]; simp [hasB]
        have HIN := Lib.hid hin
        have HB1 := Lib.hid hb1
        clear hin hb1 hh hde hg0 hle hwd hdne
        generalize Lib.indexByte cs.data.toList s[n] = ib at *
        dsimp only at kn HI2 HB2 HST
        generalize s[n].toNat = b at *
        generalize wr.iterAt w.heap.size s (n + 1) = wx at *
        have hp2 : wx.iterPos w.heap.size = n + 1 := by unfold World.iterPos; rw [HI2.out]
        have HP2 := Lib.hid hp2
        clear hp2
        cases hc : cs.data.toList.contains s[n]
        · have hib : decide ((0 : Int) ≤ ib) = false := by rw [HIN.out, hc]
          have HFF : Hid (hasB cs.data.toList (s.data.toList.take (n + 1)) = false) := Lib.hid (by rw [HST.out, HB1.out, hc])
          clear hc
          go_wp2_with (go_at_call 65; refine (IR.out _).mono ?_; rintro e w' ⟨rfl, rfl⟩)
          exact ⟨⟨n + 1, by omega, HI2, HB2, HFF⟩, by rw [HPOS.out, HP2.out]; omega⟩
        · have hib : decide ((0 : Int) ≤ ib) = true := by rw [HIN.out, hc]
          have HFF : Hid (hasB cs.data.toList s.data.toList = true) := Lib.hid (hasB_mono (n := n + 1) (by rw [HST.out, HB1.out, hc]))
          clear hc
          go_wp2_with (go_at_call 65; refine (IR.out _).mono ?_; rintro e w' ⟨rfl, rfl⟩)
          go_ret
          exact ⟨n, rfl, by rw [HFF.out]; simp, HB2.out⟩
      · have hhi := dec_hi (s.data.toList.drop n) (by rw [hg0]; omega)
        obtain ⟨r1, r2, r3⟩ := hhi
        have HFF : Hid (hasB cs.data.toList (s.data.toList.take (n + (Lib.decodeL (s.data.toList.drop n)).2)) = false) := Lib.hid (by rw [HST.out]; exact hasB_hi HA.out (take_hi r3))
        clear HST r3 hg0 hdne
        generalize (Lib.decodeL (s.data.toList.drop n)).1 = R at *
        generalize (Lib.decodeL (s.data.toList.drop n)).2 = N at *
        generalize wr.iterAt w.heap.size s (n + N) = wx at *
        have hp2 : wx.iterPos w.heap.size = n + N := by unfold World.iterPos; rw [HI2.out]
        have HP2 := Lib.hid hp2
        have IR : Hid (∀ w, Calls Tryd.prog 65 #[.string cs, .int .i32 R] w (NoIdx w)) := Lib.hid (fun w => by
          by_cases h : R = 65533
          · subst h; exact idx_err cs H4.out HA.out w
          · exact idx_far cs H4.out HA.out R (by omega) (by omega) (by omega) w)
        have hk : ∀ w2 : World, w2.heap[w.heap.size]? = wx.heap[w.heap.size]? → w2.iterPos w.heap.size = n + N := fun w2 h => by unfold World.iterPos; rw [h, HI2.out]
        have HKK := Lib.hid hk
        have HLT := Lib.hid (lt_of_heap HI2.out)
        clear hp2 hk r1 r2 hasc
        go_wp2_with fail
        refine (IR.out _).mono ?_
        rintro e w2 ⟨rfl, hb2⟩
        have hbk := hb2.block _ HLT.out
        have HI3 : Hid (w2.heap[w.heap.size]? = some (.stringIter s (n + N))) := Lib.hid (hbk.trans HI2.out)
        have HB3 := Lib.hid (HB2.out.trans (hb2.mono HB2.out.size))
        have HP3 := Lib.hid (HKK.out w2 hbk)
        clear hb2 hbk
        go_wp2_with fail
        exact ⟨⟨n + N, by omega, HI3, HB3, HFF⟩, by rw [HPOS.out, HP3.out]; omega⟩
    · have kn := fun ty => Lib.run_next_end_at (P := Tryd.prog) wr w.heap.size s n ty HI.out hlt
      have HFF : Hid (hasB cs.data.toList s.data.toList = false) := Lib.hid (by
        have h := HF.out
        rw [List.take_of_length_le (show s.data.toList.length ≤ n from by show s.size ≤ n; omega)] at h
        exact h)
      go_wp2
      go_ret
      exact ⟨-1, rfl, by rw [HFF.out]; rfl, HB.out⟩
end Go.Proofs.YtpiejpodaljefaaDoor
