import Derived.Test.YtpiejpodaljefaaDoorR3
namespace Go.Proofs.YtpiejpodaljefaaDoor
open Go.RowKit

/-- As it was, but for two blocks and what is new. -/
structure But2 (p f : Nat) (w w' : World) : Prop where
  os : w'.os = w.os
  tape : w'.tape = w.tape
  output : w'.output = w.output
  size : w.heap.size ≤ w'.heap.size
  block : ∀ k, k < w.heap.size → k ≠ p → k ≠ f → w'.heap[k]? = w.heap[k]?
theorem But2.of {p f : Nat} {w w' : World} (h : But p w w') : But2 p f w w' := ⟨h.os, h.tape, h.output, h.size, fun k hk hp _ => h.block k hk hp⟩
theorem But2.of2 {p f : Nat} {w w' : World} (h : But f w w') : But2 p f w w' := ⟨h.os, h.tape, h.output, h.size, fun k hk _ hp => h.block k hk hp⟩
theorem But2.refl (p f : Nat) (w : World) : But2 p f w w := .of (But.refl p w)
theorem But2.trans {p f : Nat} {a b c : World} (h : But2 p f a b) (g : But2 p f b c) : But2 p f a c :=
  ⟨g.os.trans h.os, g.tape.trans h.tape, g.output.trans h.output, Nat.le_trans h.size g.size, fun k hk hp hf => (g.block k (Nat.lt_of_lt_of_le hk h.size) hp hf).trans (h.block k hk hp hf)⟩
theorem But2.below {p f : Nat} {w w' : World} (h : Below w.heap.size w w') : But2 p f w w' := .of (But.of_below h)

/-- a field in a block of its own -/
def FAt (w : World) (f : Nat) (t : L8) (k : Nat) (qd : Bool) : Prop := w.heap[f]? = some (.cells #[.string (arr t), .int .i64 k, .bool qd] 50 (0, 0))
theorem FAt.below {w w' : World} {f : Nat} {t : L8} {k : Nat} {qd : Bool} (h : FAt w f t k qd) (hb : Below w.heap.size w w') : FAt w' f t k qd := (hb.block f (lt_of_heap h)).trans h
theorem FAt.but {w w' : World} {p f : Nat} {t : L8} {k : Nat} {qd : Bool} (h : FAt w f t k qd) (hb : But p w w') (hne : f ≠ p) : FAt w' f t k qd := (hb.block f (lt_of_heap h) hne).trans h
theorem RdAt.but {w w' : World} {p f : Nat} {s : ByteArray} {i l b : Nat} {d q : UInt8} (h : RdAt w p s i l b d q) (hb : But f w w') (hne : p ≠ f) : RdAt w' p s i l b d q := ⟨(hb.block p (lt_of_heap h.1) hne).trans h.1, h.2⟩
theorem FAt.cells {w : World} {f : Nat} {t : L8} {k : Nat} {qd : Bool} (h : FAt w f t k qd) : (w.cell? ⟨f, 0, none⟩ = some (.string (arr t)) ∧ w.cell? ⟨f, 1, none⟩ = some (.int .i64 k) ∧ w.cell? ⟨f, 2, none⟩ = some (.bool qd)) ∧ w.frozen? ⟨f, 0, none⟩ = false ∧ w.frozen? ⟨f, 1, none⟩ = false ∧ w.frozen? ⟨f, 2, none⟩ = false := by
  have h1 : w.heap[f]? = some (.cells #[.string (arr t), .int .i64 k, .bool qd] 50 (0, 0)) := h
  refine ⟨⟨?_, ?_, ?_⟩, ?_, ?_, ?_⟩ <;> simp [World.cell?, World.frozen?, h1]

/-- What became of a field. -/
def FldOut (w' : World) (g0 f : Nat) (e : Ending) : Fld ⊕ Prb → Prop
  | .inl x => e = .returned (.pointer none) ∧ FAt w' f x.1 x.2.1 x.2.2
  | .inr x => ∃ g, e = .returned (.pointer (some ⟨g, 0, none⟩)) ∧ PrAt w' g x.1 x.2.1 x.2.2 ∧ g0 ≤ g
def FieldOut (p f : Nat) (s : ByteArray) (i : Nat) (d q : UInt8) (z : (Fld ⊕ Prb) × St) (w : World) (e : Ending) (w' : World) : Prop :=
  FldOut w' w.heap.size f e z.1 ∧ (∃ j l b, RdAt w' p s j l b d q ∧ z.2 = ⟨s.data.toList.drop j, l, j - b + 1⟩ ∧ i ≤ j) ∧ But2 p f w w'

theorem plain_stop {d q : UInt8} {r : L8} (h : endL r = true ∨ r.head? = some d) : plainL d q r = ([], r, true) := by
  cases r with
  | nil => rfl
  | cons c r =>
    rw [plainL, if_pos]
    rcases h with h | h
    · rw [h]; rfl
    · simp only [List.head?_cons, Option.some.injEq] at h
      simp [h]
theorem plain_bad {d q c : UInt8} {r : L8} (h1 : endL (c :: r) = false) (h2 : (c == d) = false) (h3 : (c == q) = true) : plainL d q (c :: r) = ([], c :: r, false) := by
  rw [plainL, h1, h2, h3]; rfl
theorem plain_go {d q c : UInt8} {r : L8} (h1 : endL (c :: r) = false) (h2 : (c == d) = false) (h3 : (c == q) = false) : plainL d q (c :: r) = (c :: (plainL d q r).1, (plainL d q r).2) := by
  rw [plainL, h1, h2, h3]; rfl
theorem beq_cast2 (a c : UInt8) : ((a.toNat : Int) == (c.toNat : Int)) = (a == c) := by
  rw [Bool.eq_iff_iff]
  simp only [beq_iff_eq]
  constructor
  · intro h; exact UInt8.toNat_inj.1 (by omega)
  · intro h; rw [h]
theorem ext_mid (s : ByteArray) (i j : Nat) : (s.extract i j).data.toList = (s.data.toList.drop i).take (j - i) := by
  rw [ByteArray.data_extract, Array.toList_extract, List.extract_eq_take_drop]
theorem endL_not10 {c : UInt8} {r : L8} (h : endL (c :: r) = false) : (c == 10) = false := by
  cases r <;> simp_all [endL]

/-- the rest of a plain field, from j on -/
def PlainRest (d q : UInt8) (s : ByteArray) (i j : Nat) : Prop := plainL d q (s.data.toList.drop i) = ((s.data.toList.drop i).take (j - i) ++ (plainL d q (s.data.toList.drop j)).1, (plainL d q (s.data.toList.drop j)).2)
theorem PlainRest.next {d q : UInt8} {s : ByteArray} {i j : Nat} (h : PlainRest d q s i j) (hj : j < s.size) (hi : i ≤ j) (h1 : endL (s.data.toList.drop j) = false) (h2 : ((s[j].toNat : Int) == (d.toNat : Int)) = false) (h3 : ((s[j].toNat : Int) == (q.toNat : Int)) = false) : PlainRest d q s i (j + 1) := by
  have hd := drop_at s j hj
  rw [hd] at h1
  rw [beq_cast2] at h2 h3
  have hg := plain_go h1 h2 h3
  unfold PlainRest at h ⊢
  rw [h, hd, hg]
  have e : (s.data.toList.drop i).take (j + 1 - i) = (s.data.toList.drop i).take (j - i) ++ [s[j]] := by
    have hlt : j - i < (s.data.toList.drop i).length := by rw [List.length_drop]; have : s.data.toList.length = s.size := rfl; omega
    rw [show j + 1 - i = (j - i) + 1 by omega, List.take_succ_eq_append_getElem hlt, List.getElem_drop]
    have : i + (j - i) = j := by omega
    simp only [this]
    rfl
  rw [e]
  simp
theorem FAt.set0 {w : World} {f : Nat} {t : L8} {k : Nat} {qd : Bool} (h : FAt w f t k qd) (s : ByteArray) : FAt (w.setCell ⟨f, 0, none⟩ (.string s)) f s.data.toList k qd := by
  show (w.setCell ⟨f, 0, none⟩ (.string s)).heap[f]? = _
  rw [heap_set _ _ _ _ _ _ h, arr_of]
  rfl
theorem fieldL_plain {d q : UInt8} {r : L8} {l k : Nat} (hq : r.head? ≠ some q) : fieldL d q ⟨r, l, k⟩ = if (plainL d q r).2.2 = true then (.inl ((plainL d q r).1, k, false), ⟨(plainL d q r).2.1, l, k + (plainL d q r).1.length⟩) else (.inr (l, k + (plainL d q r).1.length, 8), ⟨(plainL d q r).2.1, l, k + (plainL d q r).1.length⟩) := by
  unfold fieldL
  rw [if_neg hq]
theorem take_len (s : ByteArray) (i j : Nat) (hj : j ≤ s.size) : ((s.data.toList.drop i).take (j - i)).length = j - i := by
  rw [List.length_take, List.length_drop]; have : s.data.toList.length = s.size := rfl; omega
theorem plain_fin {p f : Nat} {s : ByteArray} {i j l b : Nat} {d q : UInt8} {w wr W : World} (HR : RdAt wr p s j l b d q) (HF : FAt wr f [] (i - b + 1) false) (hne : p ≠ f) (hij : i ≤ j) (hbi : b ≤ i) (HP : PlainRest d q s i j) (HB : But2 p f w wr) (hq : (s.data.toList.drop i).head? ≠ some q)
    (hs : endL (s.data.toList.drop j) = true ∨ (s.data.toList.drop j).head? = some d) (hb : Below wr.heap.size wr W) :
    FieldOut p f s i d q (fieldL d q ⟨s.data.toList.drop i, l, i - b + 1⟩) w (.returned (.pointer none)) (W.setCell ⟨f, 0, none⟩ (.string (s.extract i j))) := by
  have e := plain_stop (q := q) hs
  unfold PlainRest at HP
  rw [e] at HP
  have hl := take_len s i j HR.2.2.1
  rw [fieldL_plain hq, HP]
  simp only [if_true, List.append_nil]
  have hF := (HF.below hb).set0 (s.extract i j)
  rw [ext_mid] at hF
  refine ⟨⟨rfl, hF⟩, ⟨j, l, b, (HR.below hb).but (But.setCell _ _ _ _) hne, ?_, hij⟩, (HB.trans (But2.below hb)).trans (.of2 (But.setCell _ _ _ _))⟩
  rw [hl, show i - b + 1 + (j - i) = j - b + 1 by omega]
theorem plain_err {p f : Nat} {s : ByteArray} {i j l b : Nat} {d q : UInt8} {w wr W W' : World} {e : Ending} (HR : RdAt wr p s j l b d q) (hij : i ≤ j) (hbi : b ≤ i) (HP : PlainRest d q s i j) (HB : But2 p f w wr) (hq : (s.data.toList.drop i).head? ≠ some q)
    (hj : j < s.size) (h1 : endL (s.data.toList.drop j) = false) (h2 : ((s[j].toNat : Int) == (d.toNat : Int)) = false) (h3 : ((s[j].toNat : Int) == (q.toNat : Int)) = true) (hb : Below wr.heap.size wr W) (hn : NewPr l (j - b + 1) 8 W e W') :
    FieldOut p f s i d q (fieldL d q ⟨s.data.toList.drop i, l, i - b + 1⟩) w e W' := by
  have hd := drop_at s j hj
  rw [beq_cast2] at h2 h3
  rw [hd] at h1
  have e := plain_bad h1 h2 h3
  unfold PlainRest at HP
  rw [hd, e] at HP
  have hl := take_len s i j HR.2.2.1
  rw [fieldL_plain hq, HP]
  simp only [List.append_nil]
  obtain ⟨g, he, hP, hg, hb2⟩ := hn
  have ek : i - b + 1 + (j - i) = j - b + 1 := by omega
  rw [hl, ek]
  refine ⟨⟨g, he, hP, ?_⟩, ⟨j, l, b, (HR.below hb).below hb2, ?_, hij⟩, (HB.trans (But2.below hb)).trans (But2.below hb2)⟩
  · have := HB.size; have := hb.size; omega
  · rw [hd]
    rfl
theorem But2.moved {p f : Nat} {w wr w1 w2 : World} (h : But2 p f w wr) (hb : Below wr.heap.size wr w1) (h2 : But p w1 w2) : But2 p f w w2 := (h.trans (But2.below hb)).trans (.of h2)
set_option maxHeartbeats 1000000 in
theorem plain_any (p f : Nat) (s : ByteArray) (i l b k : Nat) (d q : UInt8) (w : World) (hR : RdAt w p s i l b d q) (hF : FAt w f [] k false) (hk : k = i - b + 1) (hne : p ≠ f) (hq : (s.data.toList.drop i).head? ≠ some q) :
    Calls Tryd.prog 55 #[.pointer (some ⟨p, 0, none⟩), .pointer (some ⟨f, 0, none⟩)] w (FieldOut p f s i d q (fieldL d q ⟨s.data.toList.drop i, l, i - b + 1⟩) w) := by
  have HR := Lib.hid hR
  have HF := Lib.hid hF
  have HQ := Lib.hid hq
  have HK := Lib.hid hk
  have HBI := Lib.hid hR.2.2.2.1
  have c0 := hR.cells.1.1
  clear hR hF hq hk
  go_enter Tryd.func55, Tryd.ntmps55
  go_wp2
  clear c0
  go_loopg [] (s.size - i) (fun k wr => ∃ j, k = s.size - j ∧ i ≤ j ∧ Hid (RdAt wr p s j l b d q) ∧ Hid (FAt wr f [] (i - b + 1) false) ∧ Hid (PlainRest d q s i j) ∧ Hid (But2 p f w wr))
  case atStart => exact ⟨i, rfl, Nat.le_refl _, HR, by rw [← HK.out]; exact HF, Lib.hid (by unfold PlainRest; simp), Lib.hid (But2.refl _ _ _)⟩
  case round =>
    obtain ⟨j, hj, hij, HR, HF, HP, HB⟩ := hrel
    have HJ := Lib.hid hj
    clear hj
    obtain ⟨⟨c0, c1, c2, c3, c4, c5⟩, f0, f1, f2⟩ := HR.out.cells
    obtain ⟨⟨k0, k1, k2⟩, m0, m1, m2⟩ := HF.out.cells
    obtain ⟨_, hs, hi, hb, hl⟩ := HR.out
    cases he : endL (s.data.toList.drop j)
    · have hlt : j < s.size := by
        rcases Nat.lt_or_ge j s.size with h | h
        · exact h
        · rw [drop_end s j h] at he; simp [endL] at he
      have HE := Lib.hid he
      clear he
      cases hd : ((s[j].toNat : Int) == (d.toNat : Int))
      · cases hq : ((s[j].toNat : Int) == (q.toNat : Int))
        · have HPN := Lib.hid (HP.out.next hlt hij HE.out hd hq)
          have h10 := endL_not10 (by rw [← drop_at s j hlt]; exact HE.out)
          rw [← feed_iff s j hlt] at h10
          go_wp2_with fail
          refine (lineEnd_any p s j l b d q _ HR.out).mono ?_
          rw [HE.out]
          rintro e w1 ⟨n, rfl, rfl⟩
          go_wp2_with fail
          go_quiet (fail)
          go_wp2_with fail
          go_quiet (fail)
          go_wp2_with fail
          refine (next_else p s j l b d q _ (HR.out.below (below_drewN _ _)) hlt h10).mono ?_
          rintro e w2 ⟨rfl, hr2, hb2⟩
          have HR2 := Lib.hid hr2
          have HB2 := Lib.hid hb2
          clear hr2 hb2
          go_wp2
          go_roundg (s.size - (j + 1))
          case rel => exact ⟨j + 1, rfl, by omega, HR2, Lib.hid ((HF.out.below (below_drewN _ _)).but HB2.out (Ne.symm hne)), HPN, Lib.hid (HB.out.moved (below_drewN _ _) HB2.out)⟩
          case measure => have := HJ.out; omega
        · go_wp2_with fail
          refine (lineEnd_any p s j l b d q _ HR.out).mono ?_
          rw [HE.out]
          rintro e w1 ⟨n, rfl, rfl⟩
          go_wp2_with fail
          go_quiet (fail)
          go_wp2_with fail
          go_quiet (fail)
          go_wp2_with fail
          refine (problem_any 8 p s j l b d q _ (HR.out.below (below_drewN _ _))).mono ?_
          intro e w2 hn
          have HN := Lib.hid hn
          obtain ⟨g, rfl, _, _⟩ := hn
          go_wp2
          go_ret
          exact plain_err HR.out hij HBI.out HP.out HB.out HQ.out hlt HE.out hd hq (below_drewN _ _) HN.out
      · go_wp2_with fail
        refine (lineEnd_any p s j l b d q _ HR.out).mono ?_
        rw [HE.out]
        rintro e w1 ⟨n, rfl, rfl⟩
        go_wp2_with fail
        go_quiet (fail)
        go_wp2_with fail
        go_region
        go_wp2
        go_ret
        exact plain_fin HR.out HF.out hne hij HBI.out HP.out HB.out HQ.out (Or.inr (by rw [drop_at s j hlt, List.head?_cons]; rw [beq_cast2] at hd; simpa using hd)) (below_drewN _ _)
    · have HE := Lib.hid he
      clear he
      go_wp2_with fail
      refine (lineEnd_any p s j l b d q _ HR.out).mono ?_
      rw [HE.out]
      rintro e w1 ⟨n, rfl, rfl⟩
      go_wp2_with fail
      go_quiet (fail)
      go_wp2_with fail
      go_region
      go_wp2
      go_ret
      exact plain_fin HR.out HF.out hne hij HBI.out HP.out HB.out HQ.out (Or.inl HE.out) (below_drewN _ _)
end Go.Proofs.YtpiejpodaljefaaDoor
