/- Texts V82, V91, joined: walks and laws for the versions. -/
import Derived.Test.YtihbpggbpapcfaaGreatDoorM32
namespace Go.Proofs.YtihbpggbpapcfaaGreatDoor
open Go.RowKit

def NilOk (s : Sl) : Prop := s.1 = none → s.2.2 = 0
def RdB (w0 w : World) (b : Nat) (d : L8) : Prop := ∃ s : Sl, BX w0 w b #[.slice s.1 s.2.1 s.2.2] 121 ∧ BV w0 s d ∧ NilOk s
theorem RdB.next {w0 w w' : World} {b : Nat} {d : L8} (h : RdB w0 w b d) (hb : Below w.heap.size w w') : RdB w0 w' b d := by
  obtain ⟨s, h1, h2, h3⟩ := h
  exact ⟨s, h1.next hb, h2, h3⟩
theorem RdB.bl {w0 w : World} {b : Nat} {d : L8} (h : RdB w0 w b d) : Below w0.heap.size w0 w := by
  obtain ⟨s, h1, _⟩ := h
  exact h1.bl
theorem KC.drop8 {w : World} {b o : Nat} {d : L8} (h : KC bytC 1 w b o d) (j : Nat) : KC bytC 1 w b (o + j) (d.drop j) := by
  intro i x hx q v hv
  rw [List.getElem?_drop] at hx
  have := h (j + i) x hx q v hv
  rw [show o + j + (i * 1 + q) = o + ((j + i) * 1 + q) by omega]
  exact this
theorem BV.drop {w : World} {a : Option Addr} {n c : Nat} {d : L8} (h : BV w (a, n, c) d) (ho : NilOk (a, n, c)) {j : Nat} (hj : j ≤ n) : ∃ s : Sl, Lib.fromV a n c j = .slice s.1 s.2.1 s.2.2 ∧ BV w s (d.drop j) ∧ NilOk s := by
  obtain ⟨hc, hl, h1, h2⟩ := h
  have hc : n ≤ c := hc
  have hl : d.length = n := hl
  have hdl : (d.drop j).length = n - j := by rw [List.length_drop, hl]
  refine ⟨(if c = j then a else a.map (fun x => x.add j), n - j, c - j), rfl, ⟨by show n - j ≤ c - j; omega, hdl, by show n - j ≤ _; have : n ≤ 9223372036854775807 := h1; omega, ?_⟩, ?_⟩
  · rcases h2 with h2 | ⟨b, o, ha, hk⟩
    · have h2 : n = 0 := h2
      left; show n - j = 0; omega
    · have ha : a = some ⟨b, o, none⟩ := ha
      subst ha
      by_cases hcj : c = j
      · left; show n - j = 0; omega
      · right
        refine ⟨b, o + j, ?_, hk.drop8 j⟩
        show (if c = j then _ else _) = _
        rw [if_neg hcj]
        simp [Lib.addr_add]
  · intro h
    show c - j = 0
    have h : (if c = j then a else a.map (fun x => x.add j)) = none := h
    split at h
    · omega
    · have : a = none := by cases a <;> simp_all
      have := ho this
      have : c = 0 := this
      omega
def Keep (b : Nat) (w w' : World) : Prop := w.heap.size ≤ w'.heap.size ∧ ∀ k, k < w.heap.size → k ≠ b → w'.heap[k]? = w.heap[k]?
theorem Keep.refl (b : Nat) (w : World) : Keep b w w := ⟨Nat.le_refl _, fun _ _ _ => rfl⟩
theorem Keep.of_below {b : Nat} {w w' : World} (h : Below w.heap.size w w') : Keep b w w' := ⟨h.size, fun k hk _ => h.block k hk⟩
theorem Keep.trans {b : Nat} {w w1 w2 : World} (h : Keep b w w1) (h2 : Keep b w1 w2) : Keep b w w2 := ⟨Nat.le_trans h.1 h2.1, fun k hk hb => (h2.2 k (Nat.lt_of_lt_of_le hk h.1) hb).trans (h.2 k hk hb)⟩
theorem Keep.set {b : Nat} {w w1 : World} (h : Keep b w w1) (i : Nat) (v : Value) : Keep b w (w1.setCell ⟨b, i, none⟩ v) := ⟨by
    have : w1.heap.size ≤ (w1.setCell ⟨b, i, none⟩ v).heap.size := by rw [World.size_setCell]; exact Nat.le_refl _
    exact Nat.le_trans h.1 this, fun k hk hb => (heap_setCell_other _ _ _ _ hb).trans (h.2 k hk hb)⟩
theorem Keep.row {b : Nat} {w w' : World} (h : Keep b w w') {B : Nat} {e : TypeId} {k n : Nat} {v : Value} {xs : List Value} (hr : w.ownsRow B e k v n xs) (hb : b < B) : w'.ownsRow B e k v n xs := by
  obtain ⟨h1, h2⟩ := hr
  refine ⟨h1, ?_⟩
  rcases h2 with h2 | ⟨g, cap, cur, e1, e2, e3, e4⟩
  · exact Or.inl h2
  · exact Or.inr ⟨g, cap, cur, e1, e2, by rw [h.2 g (lt_of_heap e3) (by omega)]; exact e3, e4⟩
theorem Keep.kat {α : Type} {f : α → List Value} {k : Nat} {b : Nat} {w w' : World} (h : Keep b w w') {g o n : Nat} {xs : List α} (hk : KAt f k w (some ⟨g, o, none⟩) n xs) (hg : g ≠ b) : KAt f k w' (some ⟨g, o, none⟩) n xs := by
  obtain ⟨h1, h2, h3⟩ := hk
  refine ⟨h1, h2, ?_⟩
  rcases h3 with h3 | ⟨g', o', e, hc⟩
  · exact Or.inl h3
  · refine Or.inr ⟨g', o', e, fun j x hx q v hv => ?_⟩
    cases e
    have p := hc j x hx q v hv
    unfold World.cell? at p ⊢
    rw [h.2 g (lt_of_cell (hc j x hx q v hv)) hg]
    exact p
def LinR (r : Option (List L8 × L8)) (w0 : World) (b : Nat) (w : World) (e : Ending) (w' : World) : Prop :=
  (match r with
   | none => e = .panicked badP
   | some (ws, t) => ∃ g o c, e = .returned (.slice (some ⟨g, o, none⟩) ws.length c) ∧ KAt strC 1 w' (some ⟨g, o, none⟩) ws.length ws ∧ w.heap.size ≤ g ∧ RdB w0 w' b t ∧ Keep b w w') ∧ Below w0.heap.size w0 w' ∧ Keep b w w'

set_option maxRecDepth 100000 in
set_option maxHeartbeats 4000000 in
theorem rline_any96 (b : Nat) (d tag : L8) (n : Nat) (w0 w : World) (h : RdB w0 w b d) (hE : Env w0) (hd : d.length < 4294967281) (hn : n ≤ 1000) (hn1 : 1 ≤ n) :
    Calls Tryz.prog 96 #[.pointer (some ⟨b, 0, none⟩), .string (arr tag), .int .i64 n] w (LinR (lnP d tag n) w0 b w) := by
  obtain ⟨⟨a, m, c⟩, hx, hv, ho⟩ := h
  have HX := Lib.hid hx
  have HVV := Lib.hid hv
  have HO := Lib.hid ho
  have HE := Lib.hid hE
  have hm : d.length = m := hv.2.1
  have x0 := hx.cell 0
  simp only [List.getElem?_toArray, List.getElem?_cons_zero] at x0
  have CU := Lib.hid (fun W (h : Below w.heap.size w W) (p : Option Addr) (c2 : Nat) hy => cut_any a m c d p c2 W (hv.below (below3 hx.bl h)) ho (by omega) (hE.below (below3 hx.bl h)) hy)
  clear hx hv ho hE
  obtain ⟨r, hr⟩ : ∃ r, lnP d tag n = r := ⟨_, rfl⟩
  rw [hr]
  have HR := Lib.hid hr
  clear hr
  go_enter Tryz.func96, Tryz.ntmps96
  have HBA := Lib.hid ((Below.refl w.heap.size w).alloc (Nat.le_refl _) (.cells #[.int .u8 10] 5))
  have HYA := Lib.hid (show BAt (w.alloc (.cells #[.int .u8 10] 5)) (some ⟨w.heap.size, 0, none⟩) 1 [10] from KAt.news (f := bytC) (k := 1) (fun _ => rfl) w [10] 5 (by decide))
  have hge := Lib.index_ge d [10]
  have hlt := idx_len d
  have hci := ctl_idx d
  have HR2 : Hid (r = match ctl d with | none => none | some (l, t) => if (spl l).length = n + 1 ∧ (spl l).headD [] = tag then some ((spl l).tail, t) else none) := Lib.hid (by rw [← HR.out]; rfl)
  rw [hci] at HR2
  have CV := Lib.hid (CU.out _ HBA.out (some ⟨w.heap.size, 0, none⟩) 1 HYA.out)
  clear hci HR CU
  generalize Lib.index d [10] = I at *
  go_wp2_with fail
  by_cases hI : I = -1
  · have HR3 : Hid (r = none) := Lib.hid (by rw [HR2.out, if_pos hI])
    have hcv : Lib.cutV a m c 1 I = .tuple #[.slice a m c, .slice none 0 0, .bool false] := by unfold Lib.cutV; rw [if_neg (by omega)]
    rw [hcv] at CV
    clear hcv HR2
    refine CV.out.mono ?_
    rintro en w1 ⟨rfl, hq⟩
    have HB1 := Lib.hid (below3 HBA.out (drew_bel hq))
    clear hq
    go_wp2_with fail
    refine ⟨rfl, ?_⟩
    rw [HR3.out]
    exact ⟨rfl, below3 HX.out.bl HB1.out, Keep.of_below HB1.out⟩
  obtain ⟨j, rfl⟩ : ∃ j : Nat, I = j := ⟨I.toNat, by omega⟩
  have hjm : j < m := by omega
  have HR3 : Hid (r = if (spl (d.take j)).length = n + 1 ∧ (spl (d.take j)).headD [] = tag then some ((spl (d.take j)).tail, d.drop (j + 1)) else none) := Lib.hid (by rw [HR2.out, if_neg hI]; rfl)
  obtain ⟨⟨sa, sn, sc⟩, hfv, hsv, hso⟩ := BV.drop HVV.out HO.out (j := j + 1) (by omega)
  have hcv : Lib.cutV a m c 1 (j : Int) = .tuple #[.slice a j c, .slice sa sn sc, .bool true] := by
    unfold Lib.cutV
    rw [if_pos (by omega), show ((j : Int)).toNat = j by omega, hfv]
  rw [hcv] at CV
  have HSV := Lib.hid hsv
  have HSO := Lib.hid hso
  have hmc : m ≤ c := HVV.out.1
  have HTK := Lib.hid (HVV.out.2.take (i := j) (show j ≤ m by omega))
  clear hcv hfv hsv hso HR2 hI hge hlt
  have hLl : (d.take j).length < 4294967281 := by rw [List.length_take]; omega
  refine CV.out.mono ?_
  rintro en w1 ⟨rfl, hq⟩
  have HB1 := Lib.hid (below3 HBA.out (drew_bel hq))
  have HX1 := Lib.hid (HX.out.next HB1.out)
  clear hq CV HYA HBA x0 HX
  have CO := Lib.hid (conv_str (c := c) (HTK.out.below HX1.out.bl))
  change Hid (Sem.run _ (convert _ _ (.slice a j c)) w1 = _) at CO
  have SP := Lib.hid (split_any (d.take j) w1 hLl (HE.out.below HX1.out.bl))
  generalize d.take j = L at *
  generalize d.drop (j + 1) = t at *
  have hco := CO.out
  go_wp2_with fail
  refine SP.out.mono ?_
  rintro en w2 ⟨rfl, rfl⟩
  obtain ⟨x, xs, hxs⟩ : ∃ x xs, spl L = x :: xs := by
    cases h : spl L with
    | nil => exact absurd h (spl_ne L)
    | cons x xs => exact ⟨x, xs, rfl⟩
  rw [hxs] at HR3 ⊢
  have HB2 := Lib.hid ((Below.refl w1.heap.size w1).alloc (Nat.le_refl _) (.cells ((x :: xs).flatMap strC).toArray 9))
  have HG := Lib.hid (heap_alloc_new w1 (.cells ((x :: xs).flatMap strC).toArray 9))
  clear hxs hco CO SP
  generalize w1.alloc (.cells ((x :: xs).flatMap strC).toArray 9) = w2 at *
  obtain ⟨g, hg⟩ : ∃ g, g = w1.heap.size := ⟨_, rfl⟩
  rw [← hg] at HG ⊢
  have hgw : w.heap.size ≤ g := by rw [hg]; exact HB1.out.size
  have hbg : b < g := by rw [hg]; exact HX1.out.lt
  have HX2 := Lib.hid (HX1.out.next HB2.out)
  clear hg
  have y0 : w2.cell? ⟨g, 0, none⟩ = some (.string (arr x)) := by rw [cell_of_row _ _ 0 _ _ _ HG.out, List.getElem?_toArray]; rfl
  have hwn : IntKind.i64.wrap ((n : Int) + 1) = (n : Int) + 1 := IntWalk.i64_in _ (by omega)
  have HR5 : Hid (r = if xs.length = n ∧ x = tag then some (xs, t) else none) := Lib.hid (by
    rw [HR3.out]
    show (if xs.length + 1 = n + 1 ∧ x = tag then some (xs, t) else none) = _
    by_cases h : xs.length = n ∧ x = tag
    · rw [if_pos h, if_pos ⟨by omega, h.2⟩]
    · rw [if_neg h, if_neg (fun h2 => h ⟨by omega, h2.2⟩)])
  clear HR3
  have HR3 := HR5
  clear HR5
  simp only [List.length_cons]
  by_cases hl : xs.length = n
  rotate_left
  · have HR4 : Hid (r = none) := Lib.hid (by rw [HR3.out, if_neg (fun h => hl h.1)])
    have hne : (((xs.length + 1 : Nat) : Int) != (n : Int) + 1) = true := by simp; omega
    have hne2 : ((xs.length : Int) + 1 != (n : Int) + 1) = true := by simp; omega
    clear HR3 hl
    go_wp2_with fail
    refine ⟨rfl, ?_⟩
    rw [HR4.out]
    exact ⟨rfl, HX2.out.bl, (Keep.of_below HB1.out).trans (Keep.of_below HB2.out)⟩
  subst hl
  by_cases hx : x = tag
  rotate_left
  · have HR4 : Hid (r = none) := Lib.hid (by rw [HR3.out, if_neg (fun h => hx h.2)])
    have p1 : ((arr x).toList == (arr tag).toList) = false := by rw [arr_toList, arr_toList]; simpa using hx
    have p2 : ¬ (arr x).toList = (arr tag).toList := by rw [arr_toList, arr_toList]; exact hx
    clear HR3 hx
    go_wp2_with fail
    refine ⟨rfl, ?_⟩
    rw [HR4.out]
    exact ⟨rfl, HX2.out.bl, (Keep.of_below HB1.out).trans (Keep.of_below HB2.out)⟩
  subst hx
  have HR4 : Hid (r = some (xs, t)) := Lib.hid (by rw [HR3.out, if_pos ⟨rfl, rfl⟩])
  have z0 := HX2.out.cell 0
  have zf := HX2.out.fz 0
  simp only [List.getElem?_toArray, List.getElem?_cons_zero] at z0
  have HX3 : Hid (BX w0 (w2.setCell ⟨b, 0, none⟩ (.slice sa sn sc)) b #[.slice sa sn sc] 121) := Lib.hid (HX2.out.set 0 (.slice sa sn sc))
  have HKA : Hid (KAt strC 1 (w2.setCell ⟨b, 0, none⟩ (.slice sa sn sc)) (some ⟨g, 1, none⟩) xs.length xs) := Lib.hid (by
    refine ⟨rfl, by omega, Or.inr ⟨g, 1, rfl, fun i y hy q v hv => ?_⟩⟩
    refine set_far ?_ (show b ≠ g by omega)
    rw [cell_of_row _ _ _ _ _ _ HG.out, List.getElem?_toArray]
    have hq : q < 1 := (List.getElem?_eq_some_iff.1 hv).1
    have := flat_at strC 1 (fun _ => rfl) (x :: xs) (i + 1) q y (by simpa using hy) hq
    rw [show 1 + (i * 1 + q) = (i + 1) * 1 + q by omega, this]; exact hv)
  have hx1 : ¬ xs.length + 1 = 1 := by omega
  have hx0 : ¬ xs.length = 0 := by omega
  have hx2 : ¬ 1 = xs.length + 1 := by omega
  clear HR3
  go_wp2_with fail
  go_ret
  rw [HR4.out]
  exact ⟨⟨g, 1, xs.length, rfl, HKA.out, hgw, ⟨(sa, sn, sc), HX3.out, HSV.out, HSO.out⟩, ((Keep.of_below HB1.out).trans (Keep.of_below HB2.out)).set 0 _⟩, HX3.out.bl, ((Keep.of_below HB1.out).trans (Keep.of_below HB2.out)).set 0 _⟩
end Go.Proofs.YtihbpggbpapcfaaGreatDoor

namespace Go.Proofs.YtihbpggbpapcfaaGreatDoor
open Go.RowKit

section
variable {P : Program} {ops : Array Oper} {Q : Exit → Act → World → Prop} {md : Region.Mode}
theorem wpAny_inv {I : Nat → Array Bool → Act → World → Prop}
    (h0 : ∀ fuel listed a w, I fuel listed a w → Region.ready md ops listed = [] → Q .normal a w)
    (hz : ∀ listed a w, I 0 listed a w → Region.ready md ops listed = [])
    (hs : ∀ fuel listed a w i, I (fuel + 1) listed a w → i ∈ Region.ready md ops listed → wpOp P ops Q i (I fuel (listed.setIfInBounds i true)) a w) :
    ∀ fuel listed a w, I fuel listed a w → wpAny P md ops Q fuel listed a w
  | 0, _listed, _a, _w, h => ⟨hz _ _ _ h, h0 _ _ _ _ h (hz _ _ _ h)⟩
  | fuel + 1, listed, a, w, h => ⟨h0 _ _ _ _ h, fun i hi => wpOp_mono (fun a w => wpAny_inv h0 hz hs fuel _ a w) (hs fuel listed a w i h hi)⟩

def unl (listed : Array Bool) : Nat := (listed.toList.filter (fun b => !b)).length
theorem unl_set {listed : Array Bool} {i : Nat} (h : listed[i]? = some false) : unl listed = unl (listed.setIfInBounds i true) + 1 := by
  obtain ⟨l⟩ := listed
  unfold unl
  simp only [List.setIfInBounds_toArray, List.getElem?_toArray] at h ⊢
  induction l generalizing i with
  | nil => simp at h
  | cons b l ih =>
    cases i with
    | zero =>
      simp only [List.getElem?_cons_zero, Option.some.injEq] at h
      subst h
      simp
    | succ i =>
      simp only [List.getElem?_cons_succ] at h
      have := ih h
      simp only [List.set_cons_succ, List.filter_cons]
      cases b
      · simp only [Bool.not_false, if_true, List.length_cons]; omega
      · simpa using this

theorem ready_facts {listed : Array Bool} {i : Nat} (h : i ∈ Region.ready md ops listed) (hsz : listed.size = ops.size) : ∃ o, ops[i]? = some o ∧ listed[i]? = some false ∧ ∀ e ∈ o.after, Region.binds md e = true → listed[e.on]? = some true := by
  unfold Region.ready at h
  rw [List.mem_filter] at h
  obtain ⟨h1, h2⟩ := h
  have hi : i < ops.size := List.mem_range.1 h1
  obtain ⟨o, ho⟩ : ∃ o, ops[i]? = some o := ⟨ops[i], Array.getElem?_eq_getElem hi⟩
  rw [ho, Bool.and_eq_true] at h2
  obtain ⟨h3, h4⟩ := h2
  refine ⟨o, ho, ?_, fun e he hb => ?_⟩
  · have hl : i < listed.size := by omega
    rw [Array.getElem?_eq_getElem hl]
    rw [Array.getD_eq_getD_getElem?, Array.getElem?_eq_getElem hl] at h3
    simpa using h3
  · simp only [Option.map_some, Option.getD_some] at h4
    rw [Array.all_eq_true'] at h4
    have := h4 e he
    rw [hb] at this
    simp only [Bool.not_true, Bool.false_or] at this
    rw [Array.getD_eq_getD_getElem?] at this
    cases hx : listed[e.on]? with
    | none => rw [hx] at this; simp at this
    | some b => rw [hx] at this; simp at this; rw [this]

end
end Go.Proofs.YtihbpggbpapcfaaGreatDoor
