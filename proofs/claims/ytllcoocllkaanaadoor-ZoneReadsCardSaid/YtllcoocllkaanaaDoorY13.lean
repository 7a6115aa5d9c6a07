/- Zones: Parse. -/
import Derived.Test.YtllcoocllkaanaaDoorY12
import Derived.Outline
namespace Go.Proofs.YtllcoocllkaanaaDoor
open Go.RowKit TT

/-- what a text is read as: the zone, and the error -/
def pZ (o : Option Zn) : Zn := o.getD ([], 0, [])
def pE' (o : Option Zn) : Int := if o.isSome then 0 else 4
def ParP (o : Option Zn) (w : World) (e : Ending) (w' : World) : Prop :=
  ∃ v, e = .returned (.tuple #[v, .int .i64 (pE' o)]) ∧ ZVal w' v (arr (pZ o).1) (pZ o).2.1 (pZ o).2.2 ∧ Below w.heap.size w w'
theorem own_below {w W : World} {B n size : Nat} {e : TypeId} {v : Value} {xs : List Value} (h : w.ownsRow B e size v n xs) (hb : Below w.heap.size w W) : W.ownsRow B e size v n xs := by
  obtain ⟨h1, h2⟩ := h
  refine ⟨h1, ?_⟩
  rcases h2 with h2 | ⟨g, c, cur, hv, hg, hh, r⟩
  · exact Or.inl h2
  · exact Or.inr ⟨g, c, cur, hv, hg, (hb.block _ (lt_of_heap hh)).trans hh, r⟩
theorem PW.grown {w wr W : World} {parts : List ByteArray} {nm : ByteArray} {o : Int} {v : Value} {row : Option Nat} (h : PW w wr parts nm o v) (hg : wr.grownBy W row) (hrow : ∀ q, row = some q → w.heap.size + 3 ≤ q) : PW w W parts nm o v := by
  have z := h.sz
  have hb : Below (w.heap.size + 3) wr W := ⟨hg.os, hg.tape, hg.output, hg.size, fun q hq => hg.block q (by omega) (fun e => by have := hrow q e.symm; omega)⟩
  refine ⟨h.be.trans (hb.mono (by omega)), (hb.block _ (by omega)).trans h.h0, (hb.block _ (by omega)).trans h.h1, fun q p hq => ?_, Nat.lt_of_lt_of_le z hb.size⟩
  rw [hb.cell (p := ⟨w.heap.size + 2, q, none⟩) (by show w.heap.size + 2 < _; omega)]
  exact h.hp q p hq
theorem bel_set {B : Nat} {w W : World} (h : Below B w W) (b i : Nat) (u : Value) (hb : B ≤ b) : Below B w (W.setCell ⟨b, i, none⟩ u) :=
  ⟨h.os, h.tape, h.output, by simpa using h.size, fun q hq => (heap_setCell_other _ _ _ _ (by show q ≠ b; omega)).trans (h.block q hq)⟩
theorem par_err {o : Option Zn} (ho : o = none) {w W : World} (h : Below w.heap.size w W) (a b c : Value) : ParP o w (.returned (.tuple #[.agg #[.string ⟨#[]⟩, .int .i64 0, .slice none 0 0], .int .i64 4])) (((W.setCell ⟨w.heap.size, 0, none⟩ a).setCell ⟨w.heap.size, 1, none⟩ b).setCell ⟨w.heap.size, 2, none⟩ c) := by
  subst ho
  exact ⟨_, rfl, ⟨_, rfl, Nat.zero_le _, none, 0, rfl, Nat.zero_le _, Or.inl rfl⟩, bel_set (bel_set (bel_set h _ _ _ (Nat.le_refl _)) _ _ _ (Nat.le_refl _)) _ _ _ (Nat.le_refl _)⟩
theorem par_ok {q : Option Zn} {nm : ByteArray} {o : Int} {xs : Prs} {a' : Option Addr} {cp : Nat} {w W : World} (ho : q = some (nm.data.toList, o, xs)) (h : Below w.heap.size w W) (hO : W.ownsRow (w.heap.size + 3) 43 2 (.slice a' xs.length cp) xs.length (pcells xs)) (hs : nm.size ≤ 9223372036854775807) (a b c : Value) :
    ParP q w (.returned (.tuple #[.agg #[.string nm, .int .i64 o, .slice a' xs.length cp], .int .i64 0])) (((W.setCell ⟨w.heap.size, 0, none⟩ a).setCell ⟨w.heap.size, 1, none⟩ b).setCell ⟨w.heap.size, 2, none⟩ c) := by
  subst ho
  have hz : ∀ i, (⟨w.heap.size, i, none⟩ : Addr).block < w.heap.size + 3 := fun i => by show w.heap.size < _; omega
  refine ⟨_, rfl, ⟨_, rfl, hs, Pairs.of_owns (ownsRow_setCell_below (ownsRow_setCell_below (ownsRow_setCell_below hO (hz 0) a) (hz 1) b) (hz 2) c)⟩, bel_set (bel_set (bel_set h _ _ _ (Nat.le_refl _)) _ _ _ (Nat.le_refl _)) _ _ _ (Nat.le_refl _)⟩
theorem two_new (w : World) (x y : Value) (T : TypeId) : ∀ j u, ([x, y] : List Value)[j]? = some u → (w.alloc (.cells #[x, y] T)).cell? ((⟨w.heap.size, 0, none⟩ : Addr).add j) = some u := fun j u hj => by
  rw [Go.WideShapes.add_plain, World.cell?_alloc_at _ _ _ _ rfl]
  match j, hj with
  | 0, hj => simpa using hj
  | 1, hj => simpa using hj
  | j + 2, hj => simp at hj
set_option maxRecDepth 100000 in
set_option maxHeartbeats 1000000 in
theorem parse_any (s : ByteArray) (w : World) (hT : Tbs w) (hs : s.size ≤ 100000) : Calls Tryd.prog 29 #[.string s] w (ParP (parZ whenC s.data.toList) w) := by
  have HT := Lib.hid hT
  have W0 : ∀ W : World, W.heap.size = w.heap.size → True := fun _ _ => trivial
  have HS : Hid (∀ (o1 o2 : Obj), Below w.heap.size w ((w.alloc o1).alloc o2)) := Lib.hid fun o1 o2 => ((Below.refl _ _).alloc (Nat.le_refl _) _).alloc (by simp) _
  have HSP := Lib.hid (fun W (h : Tbs W) => split_any s W h (by omega))
  clear hT W0
  have hnl : (⟨#[10]⟩ : ByteArray) = nl := rfl
  go_enter Tryd.func29, Tryd.ntmps29
  rw [hnl]
  go_wp2_with fail
  refine (HSP.out _ (HT.out.below (HS.out _ _))).mono ?_
  rintro e w1 ⟨rfl, rfl⟩
  have HPW : Hid (PW w (((w.alloc (.cells #[.string ⟨#[]⟩, .int .i64 0, .slice none 0 0] 24)).alloc (.cells #[.string ⟨#[]⟩, .int .i64 0, .slice none 0 0] 24)).alloc (.cells (Lib.cellsOf (pcs s) (pcs s).length) 9)) (pcs s) ⟨#[]⟩ 0 (.slice none 0 0)) := Lib.hid (by
    refine ⟨(HS.out _ _).alloc (by simp; omega) _, ?_, ?_, ?_, by simp⟩
    · rw [heap_alloc_old _ _ (by simp; omega), heap_alloc_old _ _ (by simp)]; exact heap_alloc_new _ _
    · rw [heap_alloc_old _ _ (by simp)]
      have := heap_alloc_new (w.alloc (.cells #[.string ⟨#[]⟩, .int .i64 0, .slice none 0 0] 24)) (.cells #[.string ⟨#[]⟩, .int .i64 0, .slice none 0 0] 24)
      simpa using this
    · intro q p hq
      rw [show (⟨w.heap.size + 2, q, none⟩ : Addr) = ⟨((w.alloc (.cells #[.string ⟨#[]⟩, .int .i64 0, .slice none 0 0] 24)).alloc (.cells #[.string ⟨#[]⟩, .int .i64 0, .slice none 0 0] 24)).heap.size, q, none⟩ by simp]
      rw [cell_of_row _ _ q _ 9 _ (heap_alloc_new ((w.alloc (.cells #[.string ⟨#[]⟩, .int .i64 0, .slice none 0 0] 24)).alloc (.cells #[.string ⟨#[]⟩, .int .i64 0, .slice none 0 0] 24)) (.cells (Lib.cellsOf (pcs s) (pcs s).length) 9))]
      unfold Lib.cellsOf
      have hq2 : q < (pcs s).length := (List.getElem?_eq_some_iff.1 hq).1
      rw [List.getElem?_toArray, List.getElem?_append_left (by simpa using hq2), List.getElem?_map, hq]
      rfl)
  go_wp2_with fail
  generalize (((w.alloc (.cells #[.string ⟨#[]⟩, .int .i64 0, .slice none 0 0] 24)).alloc (.cells #[.string ⟨#[]⟩, .int .i64 0, .slice none 0 0] 24)).alloc (.cells (Lib.cellsOf (pcs s) (pcs s).length) 9)) = w2 at *
  have HL0 := Lib.hid (lnP_start s)
  clear HSP HS
  generalize pcs s = parts at *
  obtain ⟨i0, hi, hz0, hz1, hz2⟩ := info_parts info43
  have HI0 := Lib.hid hi; have HZ0 := Lib.hid hz0; have HZ1 := Lib.hid hz1; have HZ2 := Lib.hid hz2
  clear hi hz0 hz1 hz2
  go_loopw [19] (fun i wr => ∃ (k : Nat) (nm : ByteArray) (o : Int) (a : Option Addr) (cp : Nat) (xs : Prs), i = .int .i64 k ∧ k ≤ 65 ∧ xs.length ≤ k ∧ Hid (k = 0 → nm = ⟨#[]⟩ ∧ o = 0 ∧ xs = []) ∧ Hid (0 < k → xs.length + 1 = k) ∧ nm.size ≤ s.size ∧ Hid (PW w wr parts nm o (.slice a xs.length cp)) ∧ Hid (wr.ownsRow (w.heap.size + 3) 43 2 (.slice a xs.length cp) xs.length (pcells xs)) ∧ Hid (LnP s parts k (nm.data.toList, o, xs))) (fun i _ => parts.length - (intOf i).toNat)
  case atStart => exact ⟨0, ⟨#[]⟩, 0, none, 0, [], rfl, by omega, Nat.zero_le _, Lib.hid (fun _ => ⟨rfl, rfl, rfl⟩), Lib.hid (fun h => by omega), Nat.zero_le _, HPW, Lib.hid (World.ownsRow_nil _ _ _ _), HL0⟩
  case round =>
    obtain ⟨k, nm, o, a, cp, xs, rfl, hk, hx, HZ, HK, hnm, HW, HO, HL⟩ := hrel
    clear HPW HL0
    have hst := ln_step HL.out (fun h => by obtain ⟨h1, h2, h3⟩ := HZ.out h; rw [h1, h2, h3])
    rcases hst with ⟨hlen, hall⟩ | ⟨p, ⟨hlt, hpk⟩, hps, ⟨hpe, hk0, hall⟩ | ⟨hpp, a1, b1, ⟨f1, hcut⟩, hts, ha1, hb1, hno, hyes⟩⟩
    · have HX0 := Lib.hid hlen
      have HA := Lib.hid hall
      obtain ⟨⟨d0, d1, d2⟩, e0, e1, e2⟩ := cells3_of HW.out.h1
      have HZV : ZVal wr (.agg #[.string nm, .int .i64 o, .slice a xs.length cp]) nm o xs := ⟨_, rfl, by omega, Pairs.of_owns HO.out⟩
      have FM := Lib.hid (format_any wr HZV (HT.out.below HW.out.be))
      clear HZV hall HL HZ HK
      have hlen2 : ¬ k < parts.length := by omega
      subst hlen
      go_wp2_with fail
      refine (FM.out).mono ?_
      rintro e w7 ⟨rfl, hb7⟩
      have HW7 := Lib.hid (HW.out.below hb7)
      have HO7 := Lib.hid (own_below HO.out hb7)
      obtain ⟨⟨c0, c1, c2⟩, f0, f1, f2⟩ := cells3_of HW7.out.h0
      obtain ⟨⟨d0, d1, d2⟩, e0, e1, e2⟩ := cells3_of HW7.out.h1
      have gl5 := lt_of_heap HW7.out.h1
      clear hb7
      by_cases hv : vldE nm.data.toList o xs = 0
      · have hv' : ((vldE nm.data.toList o xs) != 0) = false := by rw [hv]; rfl
        have hfm : fmtS (nm.data.toList, o, xs) = fmtZ (nm.data.toList, o, xs) := if_pos hv
        by_cases hq : fmtZ (nm.data.toList, o, xs) = s.data.toList
        · have hq' : ((arr (fmtS (nm.data.toList, o, xs))).toList == s.toList) = true := by rw [beq_iff_eq, Lib.toList_data, Lib.toList_data, hfm]; exact hq
          have HN : Hid (parZ whenC s.data.toList = some (nm.data.toList, o, xs)) := Lib.hid (by rw [par_some HA.out]; exact if_pos ⟨hv, hq⟩)
          have HF := Lib.hid (par_ok HN.out HW7.out.be HO7.out (by omega) (.string nm) (.int .i64 o) (.slice a xs.length cp))
          clear hfm hq hv
          generalize arr (fmtS (nm.data.toList, o, xs)) = so at *
          go_wp2_with fail
          refine bodyPost_ret (v := .tuple #[.agg #[.string nm, .int .i64 o, .slice a xs.length cp], .int .i64 0]) ?_ rfl HF.out
          simp [results, Tryd.results29, go_sem, c0, c1, c2]
        · have hq' : ((arr (fmtS (nm.data.toList, o, xs))).toList == s.toList) = false := by rw [beq_eq_false_iff_ne, Lib.toList_data, Lib.toList_data, hfm]; exact hq
          have HN : Hid (parZ whenC s.data.toList = none) := Lib.hid (by rw [par_some HA.out]; exact if_neg fun h => hq h.2)
          have HF := Lib.hid (par_err HN.out HW7.out.be (.string ⟨#[]⟩) (.int .i64 0) (.slice none 0 0))
          clear hfm hq hv
          generalize arr (fmtS (nm.data.toList, o, xs)) = so at *
          go_wp2_with fail
          refine bodyPost_ret (v := .tuple #[.agg #[.string ⟨#[]⟩, .int .i64 0, .slice none 0 0], .int .i64 4]) ?_ rfl HF.out
          simp [results, Tryd.results29, go_sem, c0, c1, c2]
      · have hv' : ((vldE nm.data.toList o xs) != 0) = true := by rw [bne_iff_ne]; exact hv
        have HN : Hid (parZ whenC s.data.toList = none) := Lib.hid (by rw [par_some HA.out]; exact if_neg fun h => hv h.1)
        clear hv
        have HF := Lib.hid (par_err HN.out HW7.out.be (.string ⟨#[]⟩) (.int .i64 0) (.slice none 0 0))
        go_wp2_with fail
        refine bodyPost_ret (v := .tuple #[.agg #[.string ⟨#[]⟩, .int .i64 0, .slice none 0 0], .int .i64 4]) ?_ rfl HF.out
        simp [results, Tryd.results29, go_sem, c0, c1, c2]
    · have hp : wr.cell? ⟨w.heap.size + 1 + 1, k, none⟩ = some (.string p) := HW.out.hp k p hpk
      have hbb : p.toList.isEmpty = true := by rw [hpe, Lib.toList_data]; rfl
      have HA := Lib.hid hall
      obtain ⟨⟨d0, d1, d2⟩, e0, e1, e2⟩ := cells3_of HW.out.h1
      have HZV : ZVal wr (.agg #[.string nm, .int .i64 o, .slice a xs.length cp]) nm o xs := ⟨_, rfl, by omega, Pairs.of_owns HO.out⟩
      have FM := Lib.hid (format_any wr HZV (HT.out.below HW.out.be))
      clear HZV hall HL HZ HK
      have dk : decide (0 < k) = true := by simpa using hk0
      clear hk0 hpe hpk
      go_wp2_with fail
      refine (FM.out).mono ?_
      rintro e w7 ⟨rfl, hb7⟩
      have HW7 := Lib.hid (HW.out.below hb7)
      have HO7 := Lib.hid (own_below HO.out hb7)
      obtain ⟨⟨c0, c1, c2⟩, f0, f1, f2⟩ := cells3_of HW7.out.h0
      obtain ⟨⟨d0, d1, d2⟩, e0, e1, e2⟩ := cells3_of HW7.out.h1
      have gl5 := lt_of_heap HW7.out.h1
      clear hb7
      by_cases hv : vldE nm.data.toList o xs = 0
      · have hv' : ((vldE nm.data.toList o xs) != 0) = false := by rw [hv]; rfl
        have hfm : fmtS (nm.data.toList, o, xs) = fmtZ (nm.data.toList, o, xs) := if_pos hv
        by_cases hq : fmtZ (nm.data.toList, o, xs) = s.data.toList
        · have hq' : ((arr (fmtS (nm.data.toList, o, xs))).toList == s.toList) = true := by rw [beq_iff_eq, Lib.toList_data, Lib.toList_data, hfm]; exact hq
          have HN : Hid (parZ whenC s.data.toList = some (nm.data.toList, o, xs)) := Lib.hid (by rw [par_some HA.out]; exact if_pos ⟨hv, hq⟩)
          have HF := Lib.hid (par_ok HN.out HW7.out.be HO7.out (by omega) (.string nm) (.int .i64 o) (.slice a xs.length cp))
          clear hfm hq hv
          generalize arr (fmtS (nm.data.toList, o, xs)) = so at *
          go_wp2_with fail
          refine bodyPost_ret (v := .tuple #[.agg #[.string nm, .int .i64 o, .slice a xs.length cp], .int .i64 0]) ?_ rfl HF.out
          simp [results, Tryd.results29, go_sem, c0, c1, c2]
        · have hq' : ((arr (fmtS (nm.data.toList, o, xs))).toList == s.toList) = false := by rw [beq_eq_false_iff_ne, Lib.toList_data, Lib.toList_data, hfm]; exact hq
          have HN : Hid (parZ whenC s.data.toList = none) := Lib.hid (by rw [par_some HA.out]; exact if_neg fun h => hq h.2)
          have HF := Lib.hid (par_err HN.out HW7.out.be (.string ⟨#[]⟩) (.int .i64 0) (.slice none 0 0))
          clear hfm hq hv
          generalize arr (fmtS (nm.data.toList, o, xs)) = so at *
          go_wp2_with fail
          refine bodyPost_ret (v := .tuple #[.agg #[.string ⟨#[]⟩, .int .i64 0, .slice none 0 0], .int .i64 4]) ?_ rfl HF.out
          simp [results, Tryd.results29, go_sem, c0, c1, c2]
      · have hv' : ((vldE nm.data.toList o xs) != 0) = true := by rw [bne_iff_ne]; exact hv
        have HN : Hid (parZ whenC s.data.toList = none) := Lib.hid (by rw [par_some HA.out]; exact if_neg fun h => hv h.1)
        clear hv
        have HF := Lib.hid (par_err HN.out HW7.out.be (.string ⟨#[]⟩) (.int .i64 0) (.slice none 0 0))
        go_wp2_with fail
        refine bodyPost_ret (v := .tuple #[.agg #[.string ⟨#[]⟩, .int .i64 0, .slice none 0 0], .int .i64 4]) ?_ rfl HF.out
        simp [results, Tryd.results29, go_sem, c0, c1, c2]
    · have hp : wr.cell? ⟨w.heap.size + 1 + 1, k, none⟩ = some (.string p) := HW.out.hp k p hpk
      have HYES := Lib.hid hyes
      have HNO := Lib.hid hno
      have TR := Lib.hid (fun w => Tryd.strings_TrimSuffix p nl w (by omega))
      obtain ⟨m, hm⟩ := (HT.out.below HW.out.be).mx
      have CT := Lib.hid (Tryd.strings_Cut ⟨(Lib.trimSuffix p.data.toList nl.data.toList).toArray⟩ ⟨#[32]⟩ m wr (by show (Lib.trimSuffix p.data.toList nl.data.toList).toArray.size < _; rw [List.size_toArray]; show (Lib.trimSuffix p.data.toList [10]).length < _; omega) hm)
      have HCT : Hid (Lib.cut (⟨(Lib.trimSuffix p.data.toList nl.data.toList).toArray⟩ : ByteArray).data.toList (⟨#[32]⟩ : ByteArray).data.toList = (a1, b1, f1)) := Lib.hid (by exact hcut)
      rw [HCT.out] at CT
      have OFS := Lib.hid (fun W => ofs_any ⟨b1.toArray⟩ W (by show b1.toArray.size ≤ _; rw [List.size_toArray]; omega))
      clear hyes hno hcut hm hpk
      rcases Nat.eq_zero_or_pos k with hk0 | hk0
      · have dk : decide (0 < k) = false := by simp; omega
        have dk2 : ((k : Int) == 0) = true := by rw [hk0]; rfl
        obtain ⟨rfl, rfl, rfl⟩ := HZ.out hk0
        have HK0 := Lib.hid hk0
        clear hk0
        generalize hbb : p.toList.isEmpty = bb
        cases bb
        all_goals
          go_wp2_with fail
          refine (TR.out _).mono ?_
          rintro e w3 ⟨rfl, rfl⟩
          go_wp2_with fail
          refine CT.out.mono ?_
          rintro e w4 ⟨rfl, nd, rfl⟩
          have HB3 : Hid (Below w3.heap.size w3 (w3.drewN nd)) := Lib.hid ⟨rfl, rfl, rfl, Nat.le_refl _, fun _ _ => rfl⟩
          go_wp2_with fail
          refine (OFS.out _).mono ?_
          rintro e w5 ⟨rfl, hb5⟩
          have HB5 : Hid (Below w3.heap.size w3 w5) := Lib.hid (HB3.out.trans hb5)
          have HW5 := Lib.hid (HW.out.below HB5.out)
          have HO5 := Lib.hid (own_below HO.out HB5.out)
          obtain ⟨⟨c0, c1, c2⟩, f0, f1, f2⟩ := cells3_of HW5.out.h0
          obtain ⟨⟨d0, d1, d2⟩, e0, e1, e2⟩ := cells3_of HW5.out.h1
          have gl5 := lt_of_heap HW5.out.h1
          clear hb5
          rw [show offP (⟨b1.toArray⟩ : ByteArray).data.toList = offP b1 from rfl]
          cases ho : offP b1 with
          | none =>
            rw [show ofsV none = .tuple #[.int .i64 0, .bool false] from rfl]
            have HF := Lib.hid (par_err (HNO.out ho) HW5.out.be (.string ⟨#[]⟩) (.int .i64 0) (.slice none 0 0))
            go_wp2_with fail
            refine bodyPost_ret (v := .tuple #[.agg #[.string ⟨#[]⟩, .int .i64 0, .slice none 0 0], .int .i64 4]) ?_ rfl HF.out
            simp [results, Tryd.results29, go_sem, c0, c1, c2]
          | some oo =>
            have HLN := Lib.hid ((HYES.out oo ho).1 HK0.out)
            rw [show ofsV (some oo) = .tuple #[.int .i64 oo, .bool true] from rfl]
            go_wp2_with fail
            go_roundw
            case rel => exact ⟨1, ⟨a1.toArray⟩, oo, a, cp, [], by have := HK0.out; congr 1; omega, by omega, Nat.zero_le _, Lib.hid (fun h => by omega), Lib.hid (fun _ => rfl), by show a1.toArray.size ≤ _; rw [List.size_toArray]; exact ha1,
              Lib.hid ((HW5.out.set 0 (.string ⟨a1.toArray⟩) rfl).set 1 (.int .i64 oo) rfl), Lib.hid (ownsRow_setCell_below (ownsRow_setCell_below HO5.out (by show w.heap.size + 1 < w.heap.size + 3; omega) _) (by show w.heap.size + 1 < w.heap.size + 3; omega) _), HLN⟩
            case measure => simp [intOf]; omega
      · have dk : decide (0 < k) = true := by simpa using hk0
        have dk2 : ((k : Int) == 0) = false := by rw [beq_eq_false_iff_ne]; omega
        have hbb : p.toList.isEmpty = false := by
          have h := hpp hk0
          rw [Lib.toList_data]
          have h2 : p.data.toList.length = p.size := rfl
          cases hl : p.data.toList with
          | nil => rw [hl] at h2; simp at h2; omega
          | cons => rfl
        have HK0 := Lib.hid hk0
        clear hk0 hpp
        have WH := Lib.hid (fun W (h : Tbs W) => when_any ⟨a1.toArray⟩ W (by show a1.toArray.size ≤ _; rw [List.size_toArray]; omega) h)
        go_wp2_with fail
        refine (TR.out _).mono ?_
        rintro e w3 ⟨rfl, rfl⟩
        go_wp2_with fail
        refine CT.out.mono ?_
        rintro e w4 ⟨rfl, nd, rfl⟩
        have HB3 : Hid (Below w3.heap.size w3 (w3.drewN nd)) := Lib.hid ⟨rfl, rfl, rfl, Nat.le_refl _, fun _ _ => rfl⟩
        go_wp2_with fail
        refine (OFS.out _).mono ?_
        rintro e w5 ⟨rfl, hb5⟩
        have HB5 : Hid (Below w3.heap.size w3 w5) := Lib.hid (HB3.out.trans hb5)
        have HW5 := Lib.hid (HW.out.below HB5.out)
        have HO5 := Lib.hid (own_below HO.out HB5.out)
        obtain ⟨⟨c0, c1, c2⟩, f0, f1, f2⟩ := cells3_of HW5.out.h0
        obtain ⟨⟨d0, d1, d2⟩, e0, e1, e2⟩ := cells3_of HW5.out.h1
        have gl5 := lt_of_heap HW5.out.h1
        clear hb5
        rw [show offP (⟨b1.toArray⟩ : ByteArray).data.toList = offP b1 from rfl]
        cases ho : offP b1 with
        | none =>
          rw [show ofsV none = .tuple #[.int .i64 0, .bool false] from rfl]
          have HF := Lib.hid (par_err (HNO.out ho) HW5.out.be (.string ⟨#[]⟩) (.int .i64 0) (.slice none 0 0))
          go_wp2_with fail
          refine bodyPost_ret (v := .tuple #[.agg #[.string ⟨#[]⟩, .int .i64 0, .slice none 0 0], .int .i64 4]) ?_ rfl HF.out
          simp [results, Tryd.results29, go_sem, c0, c1, c2]
        | some oo =>
          have HY2 := Lib.hid ((HYES.out oo ho).2 HK0.out)
          rw [show ofsV (some oo) = .tuple #[.int .i64 oo, .bool true] from rfl]
          clear HB3 c0 c1 c2 f0 f1 f2 d0 d1 d2 e0 e1 e2 gl5
          go_wp2_with fail
          refine (WH.out _ (HT.out.below HW5.out.be)).mono ?_
          rintro e w6 ⟨v6, rfl, ⟨t6, rfl, ht6⟩, hb6⟩
          have HT6 := Lib.hid ht6
          replace HW5 := Lib.hid (HW5.out.below hb6)
          replace HO5 := Lib.hid (own_below HO5.out hb6)
          obtain ⟨⟨c0, c1, c2⟩, f0, f1, f2⟩ := cells3_of HW5.out.h0
          obtain ⟨⟨d0, d1, d2⟩, e0, e1, e2⟩ := cells3_of HW5.out.h1
          have gl5 := lt_of_heap HW5.out.h1
          clear hb6 ht6
          rw [show whenC (⟨a1.toArray⟩ : ByteArray).data.toList = whenC a1 from rfl] at HT6 ⊢
          cases hw : whenC a1 with
          | none =>
            rw [show (none : Option Int).isSome = false from rfl]
            have HF := Lib.hid (par_err (HY2.out.1 hw) HW5.out.be (.string ⟨#[]⟩) (.int .i64 0) (.slice none 0 0))
            go_wp2_with fail
            refine bodyPost_ret (v := .tuple #[.agg #[.string ⟨#[]⟩, .int .i64 0, .slice none 0 0], .int .i64 4]) ?_ rfl HF.out
            simp [results, Tryd.results29, go_sem, c0, c1, c2]
          | some t =>
            have ht : t6 = t := HT6.out t hw
            subst ht
            rw [show (some t6).isSome = true from rfl]
            by_cases h64 : 64 < k
            · have HP64 := Lib.hid (HY2.out.2.1 h64)
              have HF := Lib.hid (par_err HP64.out HW5.out.be (.string ⟨#[]⟩) (.int .i64 0) (.slice none 0 0))
              go_wp2_with fail
              refine bodyPost_ret (v := .tuple #[.agg #[.string ⟨#[]⟩, .int .i64 0, .slice none 0 0], .int .i64 4]) ?_ rfl HF.out
              simp [results, Tryd.results29, go_sem, c0, c1, c2]
            · have d64 : decide (64 < k) = false := by simpa using h64
              have HLN := Lib.hid (HY2.out.2.2 t6 hw (by omega))
              have HKK := Lib.hid (HK.out HK0.out)
              clear hw HY2 HYES HNO HT6
              have hxk : xs.length ≤ 64 := by omega
              go_wp2_with (at_builtin; refine wpList_append_lies _ rfl _ _ _ rfl (w.heap.size + 3) 43 i0 (.agg #[.int .i64 0, .int .i64 0]) 2 16 Tryd.underlying22 HI0.out HZ0.out HZ1.out HZ2.out rfl (by omega) _ _ _ (by rfl) (HO5.out.alloc _) ⟨w6.heap.size, 0, none⟩ 1 1 [.int .i64 t6, .int .i64 oo] (by rfl) (by rfl) (two_new _ _ _ _) (by simp [Value.oneCell']) (by omega) (by unfold maxLen; omega) (by omega) ?m3 (w6.heap.size + 1) (by simp) ?_)
              case m3 => have := HW5.out.sz; simp; omega
              intro g7 cap7 w7 hown7 hgrow7 hat7 hlt7
              have HW7 := Lib.hid ((HW5.out.below ((Below.refl _ _).alloc (Nat.le_refl _) _)).grown hgrow7 (fun q hq => (HO5.out.lt q hq).1))
              have HO7 := Lib.hid hown7
              clear hown7 hgrow7 hat7 hlt7 c0 c1 c2 f0 f1 f2 d0 d1 d2 e0 e1 e2 gl5
              obtain ⟨⟨d0, d1, d2⟩, e0, e1, e2⟩ := cells3_of HW7.out.h1
              have gl5 := lt_of_heap HW7.out.h1
              go_wp2_with fail
              go_roundw
              case rel => exact ⟨k + 1, nm, o, some ⟨g7, 0, none⟩, cap7, xs ++ [(t6, oo)], by go_num, by omega, by simp; omega, Lib.hid (fun h => by omega), Lib.hid (fun _ => by have := HKK.out; simp; omega), hnm,
                Lib.hid (by rw [show (xs ++ [(t6, oo)]).length = xs.length + 1 by simp]; exact HW7.out.set 2 _ rfl), Lib.hid (by rw [pcells_app, show (xs ++ [(t6, oo)]).length = xs.length + 1 by simp]; exact ownsRow_setCell_below HO7.out (by show w.heap.size + 1 < w.heap.size + 3; omega) _), HLN⟩
              case measure => simp [intOf]; omega
end Go.Proofs.YtllcoocllkaanaaDoor
