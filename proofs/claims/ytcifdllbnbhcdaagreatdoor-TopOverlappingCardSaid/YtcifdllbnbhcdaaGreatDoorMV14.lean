/- Texts V82, V95, joined: walks and laws. -/
import Derived.Test.YtcifdllbnbhcdaaGreatDoorMV04
import Derived.Test.YtcifdllbnbhcdaaGreatDoorMV13
set_option linter.unusedSimpArgs false
set_option linter.unusedVariables false
namespace Go.Proofs.YtcifdllbnbhcdaaGreatDoor
open Go.RowKit
def NilOk (s : Sl) : Prop := s.1 = none → s.2.2 = 0
def RdB (w0 w : World) (b : Nat) (d : L8) : Prop := ∃ s : Sl, BX w0 w b #[.slice s.1 s.2.1 s.2.2] 427 ∧ BV w0 s d ∧ NilOk s
theorem RdB.next {w0 w w' : World} {b : Nat} {d : L8} (h : RdB w0 w b d) (hb : Below w.heap.size w w') : RdB w0 w' b d := by
  obtain ⟨s, h1, h2, h3⟩ := h
  exact ⟨s, h1.next hb, h2, h3⟩
theorem RdB.bl {w0 w : World} {b : Nat} {d : L8} (h : RdB w0 w b d) : Below w0.heap.size w0 w := by
  obtain ⟨s, h1, _⟩ := h
  exact h1.bl
theorem KC.drop8 {w : World} {b o : Nat} {d : L8} (h : KC bytC 1 w b o d) (j : Nat) : KC bytC 1 w b (o + j) (d.drop j) := by
  intro i x hx q v hv
  rw [List.getElem?_drop] at hx
  have := h (j + i) x hx q v hv
  rw [show o + j + (i * 1 + q) = o + ((j + i) * 1 + q) by omega]
  exact this
theorem BV.drop {w : World} {a : Option Addr} {n c : Nat} {d : L8} (h : BV w (a, n, c) d) (ho : NilOk (a, n, c)) {j : Nat} (hj : j ≤ n) : ∃ s : Sl, Lib.fromV a n c j = .slice s.1 s.2.1 s.2.2 ∧ BV w s (d.drop j) ∧ NilOk s := by
  obtain ⟨hc, hl, h1, h2⟩ := h
  have hc : n ≤ c := hc
  have hl : d.length = n := hl
  have hdl : (d.drop j).length = n - j := by rw [List.length_drop, hl]
  refine ⟨(if c = j then a else a.map (fun x => x.add j), n - j, c - j), rfl, ⟨by show n - j ≤ c - j; omega, hdl, by show n - j ≤ _; have : n ≤ 9223372036854775807 := h1; omega, ?_⟩, ?_⟩
  · rcases h2 with h2 | ⟨b, o, ha, hk⟩
    · have h2 : n = 0 := h2
      left; show n - j = 0; omega
    · have ha : a = some ⟨b, o, none⟩ := ha
      subst ha
      by_cases hcj : c = j
      · left; show n - j = 0; omega
      · right
        refine ⟨b, o + j, ?_, hk.drop8 j⟩
        show (if c = j then _ else _) = _
        rw [if_neg hcj]
        simp [Lib.addr_add]
  · intro h
    show c - j = 0
    have h : (if c = j then a else a.map (fun x => x.add j)) = none := h
    split at h
    · omega
    · have : a = none := by cases a <;> simp_all
      have := ho this
      have : c = 0 := this
      omega
def Keep (b : Nat) (w w' : World) : Prop := w.heap.size ≤ w'.heap.size ∧ ∀ k, k < w.heap.size → k ≠ b → w'.heap[k]? = w.heap[k]?
theorem Keep.refl (b : Nat) (w : World) : Keep b w w := ⟨Nat.le_refl _, fun _ _ _ => rfl⟩
theorem Keep.of_below {b : Nat} {w w' : World} (h : Below w.heap.size w w') : Keep b w w' := ⟨h.size, fun k hk _ => h.block k hk⟩
theorem Keep.trans {b : Nat} {w w1 w2 : World} (h : Keep b w w1) (h2 : Keep b w1 w2) : Keep b w w2 := ⟨Nat.le_trans h.1 h2.1, fun k hk hb => (h2.2 k (Nat.lt_of_lt_of_le hk h.1) hb).trans (h.2 k hk hb)⟩
theorem Keep.set {b : Nat} {w w1 : World} (h : Keep b w w1) (i : Nat) (v : Value) : Keep b w (w1.setCell ⟨b, i, none⟩ v) := ⟨by
    have : w1.heap.size ≤ (w1.setCell ⟨b, i, none⟩ v).heap.size := by rw [World.size_setCell]; exact Nat.le_refl _
    exact Nat.le_trans h.1 this, fun k hk hb => (heap_setCell_other _ _ _ _ hb).trans (h.2 k hk hb)⟩
theorem Keep.row {b : Nat} {w w' : World} (h : Keep b w w') {B : Nat} {e : TypeId} {k n : Nat} {v : Value} {xs : List Value} (hr : w.ownsRow B e k v n xs) (hb : b < B) : w'.ownsRow B e k v n xs := by
  obtain ⟨h1, h2⟩ := hr
  refine ⟨h1, ?_⟩
  rcases h2 with h2 | ⟨g, cap, cur, e1, e2, e3, e4⟩
  · exact Or.inl h2
  · exact Or.inr ⟨g, cap, cur, e1, e2, by rw [h.2 g (lt_of_heap e3) (by omega)]; exact e3, e4⟩
def LinR (r : Option (List L8 × L8)) (w0 : World) (b : Nat) (w : World) (e : Ending) (w' : World) : Prop :=
  (match r with
   | none => e = .panicked badP
   | some (ws, t) => ∃ g o c, e = .returned (.slice (some ⟨g, o, none⟩) ws.length c) ∧ KAt strC 1 w' (some ⟨g, o, none⟩) ws.length ws ∧ w.heap.size ≤ g ∧ RdB w0 w' b t ∧ Keep b w w') ∧ Below w0.heap.size w0 w' ∧ Keep b w w'
set_option maxRecDepth 100000 in
set_option maxHeartbeats 4000000 in
theorem rline_any96 (b : Nat) (d tag : L8) (n : Nat) (w0 w : World) (h : RdB w0 w b d) (hE : Env w0) (hd : d.length < 4294967281) (hn : n ≤ 1000) (hn1 : 1 ≤ n) :
    Calls Tryz.prog 356 #[.pointer (some ⟨b, 0, none⟩), .string (arr tag), .int .i64 n] w (LinR (lnP d tag n) w0 b w) := by
  obtain ⟨⟨a, m, c⟩, hx, hv, ho⟩ := h
  have HX := Lib.hid hx
  have HVV := Lib.hid hv
  have HO := Lib.hid ho
  have HE := Lib.hid hE
  have hm : d.length = m := hv.2.1
  have x0 := hx.cell 0
  simp only [List.getElem?_toArray, List.getElem?_cons_zero] at x0
  have CU := Lib.hid (fun W (h : Below w.heap.size w W) (p : Option Addr) (c2 : Nat) hy => cut_any a m c d p c2 W (hv.below (below3 hx.bl h)) ho (by omega) (hE.below (below3 hx.bl h)) hy)
  clear hx hv ho hE
  obtain ⟨r, hr⟩ : ∃ r, lnP d tag n = r := ⟨_, rfl⟩
  rw [hr]
  have HR := Lib.hid hr
  clear hr
  go_enter Tryz.func356, Tryz.ntmps356
  have HBA := Lib.hid ((Below.refl w.heap.size w).alloc (Nat.le_refl _) (.cells #[.int .u8 10] 5))
  have HYA := Lib.hid (show BAt (w.alloc (.cells #[.int .u8 10] 5)) (some ⟨w.heap.size, 0, none⟩) 1 [10] from KAt.news (f := bytC) (k := 1) (fun _ => rfl) w [10] 5 (by decide))
  have hge := Lib.index_ge d [10]
  have hlt := idx_len d
  have hci := ctl_idx d
  have HR2 : Hid (r = match ctl d with | none => none | some (l, t) => if (spl l).length = n + 1 ∧ (spl l).headD [] = tag then some ((spl l).tail, t) else none) := Lib.hid (by rw [← HR.out]; rfl)
  rw [hci] at HR2
  have CV := Lib.hid (CU.out _ HBA.out (some ⟨w.heap.size, 0, none⟩) 1 HYA.out)
  clear hci HR CU
  generalize Lib.index d [10] = I at *
  go_wp2_with fail
  by_cases hI : I = -1
  · have HR3 : Hid (r = none) := Lib.hid (by rw [HR2.out, if_pos hI])
    have hcv : Lib.cutV a m c 1 I = .tuple #[.slice a m c, .slice none 0 0, .bool false] := by unfold Lib.cutV; rw [if_neg (by omega)]
    rw [hcv] at CV
    clear hcv HR2
    refine CV.out.mono ?_
    rintro en w1 ⟨rfl, hq⟩
    have HB1 := Lib.hid (below3 HBA.out (drew_bel hq))
    clear hq
    go_wp2_with fail
    refine ⟨rfl, ?_⟩
    rw [HR3.out]
    exact ⟨rfl, below3 HX.out.bl HB1.out, Keep.of_below HB1.out⟩
  obtain ⟨j, rfl⟩ : ∃ j : Nat, I = j := ⟨I.toNat, by omega⟩
  have hjm : j < m := by omega
  have HR3 : Hid (r = if (spl (d.take j)).length = n + 1 ∧ (spl (d.take j)).headD [] = tag then some ((spl (d.take j)).tail, d.drop (j + 1)) else none) := Lib.hid (by rw [HR2.out, if_neg hI]; rfl)
  obtain ⟨⟨sa, sn, sc⟩, hfv, hsv, hso⟩ := BV.drop HVV.out HO.out (j := j + 1) (by omega)
  have hcv : Lib.cutV a m c 1 (j : Int) = .tuple #[.slice a j c, .slice sa sn sc, .bool true] := by
    unfold Lib.cutV
    rw [if_pos (by omega), show ((j : Int)).toNat = j by omega, hfv]
  rw [hcv] at CV
  have HSV := Lib.hid hsv
  have HSO := Lib.hid hso
  have hmc : m ≤ c := HVV.out.1
  have HTK := Lib.hid (HVV.out.2.take (i := j) (show j ≤ m by omega))
  clear hcv hfv hsv hso HR2 hI hge hlt
  have hLl : (d.take j).length < 4294967281 := by rw [List.length_take]; omega
  refine CV.out.mono ?_
  rintro en w1 ⟨rfl, hq⟩
  have HB1 := Lib.hid (below3 HBA.out (drew_bel hq))
  have HX1 := Lib.hid (HX.out.next HB1.out)
  clear hq CV HYA HBA x0 HX
  have CO := Lib.hid (conv_str (c := c) (HTK.out.below HX1.out.bl))
  change Hid (Sem.run _ (convert _ _ (.slice a j c)) w1 = _) at CO
  have SP := Lib.hid (split_any (d.take j) w1 hLl (HE.out.below HX1.out.bl))
  generalize d.take j = L at *
  generalize d.drop (j + 1) = t at *
  have hco := CO.out
  go_wp2_with fail
  refine SP.out.mono ?_
  rintro en w2 ⟨rfl, rfl⟩
  obtain ⟨x, xs, hxs⟩ : ∃ x xs, spl L = x :: xs := by
    cases h : spl L with
    | nil => exact absurd h (spl_ne L)
    | cons x xs => exact ⟨x, xs, rfl⟩
  rw [hxs] at HR3 ⊢
  have HB2 := Lib.hid ((Below.refl w1.heap.size w1).alloc (Nat.le_refl _) (.cells ((x :: xs).flatMap strC).toArray 9))
  have HG := Lib.hid (heap_alloc_new w1 (.cells ((x :: xs).flatMap strC).toArray 9))
  clear hxs hco CO SP
  generalize w1.alloc (.cells ((x :: xs).flatMap strC).toArray 9) = w2 at *
  obtain ⟨g, hg⟩ : ∃ g, g = w1.heap.size := ⟨_, rfl⟩
  rw [← hg] at HG ⊢
  have hgw : w.heap.size ≤ g := by rw [hg]; exact HB1.out.size
  have hbg : b < g := by rw [hg]; exact HX1.out.lt
  have HX2 := Lib.hid (HX1.out.next HB2.out)
  clear hg
  have y0 : w2.cell? ⟨g, 0, none⟩ = some (.string (arr x)) := by rw [cell_of_row _ _ 0 _ _ _ HG.out, List.getElem?_toArray]; rfl
  have hwn : IntKind.i64.wrap ((n : Int) + 1) = (n : Int) + 1 := IntWalk.i64_in _ (by omega)
  have HR5 : Hid (r = if xs.length = n ∧ x = tag then some (xs, t) else none) := Lib.hid (by
    rw [HR3.out]
    show (if xs.length + 1 = n + 1 ∧ x = tag then some (xs, t) else none) = _
    by_cases h : xs.length = n ∧ x = tag
    · rw [if_pos h, if_pos ⟨by omega, h.2⟩]
    · rw [if_neg h, if_neg (fun h2 => h ⟨by omega, h2.2⟩)])
  clear HR3
  have HR3 := HR5
  clear HR5
  simp only [List.length_cons]
  by_cases hl : xs.length = n
  rotate_left
  · have HR4 : Hid (r = none) := Lib.hid (by rw [HR3.out, if_neg (fun h => hl h.1)])
    have hne : (((xs.length + 1 : Nat) : Int) != (n : Int) + 1) = true := by simp; omega
    have hne2 : ((xs.length : Int) + 1 != (n : Int) + 1) = true := by simp; omega
    clear HR3 hl
    go_wp2_with fail
    refine ⟨rfl, ?_⟩
    rw [HR4.out]
    exact ⟨rfl, HX2.out.bl, (Keep.of_below HB1.out).trans (Keep.of_below HB2.out)⟩
  subst hl
  by_cases hx : x = tag
  rotate_left
  · have HR4 : Hid (r = none) := Lib.hid (by rw [HR3.out, if_neg (fun h => hx h.2)])
    have p1 : ((arr x).toList == (arr tag).toList) = false := by rw [arr_toList, arr_toList]; simpa using hx
    have p2 : ¬ (arr x).toList = (arr tag).toList := by rw [arr_toList, arr_toList]; exact hx
    clear HR3 hx
    go_wp2_with fail
    refine ⟨rfl, ?_⟩
    rw [HR4.out]
    exact ⟨rfl, HX2.out.bl, (Keep.of_below HB1.out).trans (Keep.of_below HB2.out)⟩
  subst hx
  have HR4 : Hid (r = some (xs, t)) := Lib.hid (by rw [HR3.out, if_pos ⟨rfl, rfl⟩])
  have z0 := HX2.out.cell 0
  have zf := HX2.out.fz 0
  simp only [List.getElem?_toArray, List.getElem?_cons_zero] at z0
  have HX3 : Hid (BX w0 (w2.setCell ⟨b, 0, none⟩ (.slice sa sn sc)) b #[.slice sa sn sc] 427) := Lib.hid (HX2.out.set 0 (.slice sa sn sc))
  have HKA : Hid (KAt strC 1 (w2.setCell ⟨b, 0, none⟩ (.slice sa sn sc)) (some ⟨g, 1, none⟩) xs.length xs) := Lib.hid (by
    refine ⟨rfl, by omega, Or.inr ⟨g, 1, rfl, fun i y hy q v hv => ?_⟩⟩
    refine set_far ?_ (show b ≠ g by omega)
    rw [cell_of_row _ _ _ _ _ _ HG.out, List.getElem?_toArray]
    have hq : q < 1 := (List.getElem?_eq_some_iff.1 hv).1
    have := flat_at strC 1 (fun _ => rfl) (x :: xs) (i + 1) q y (by simpa using hy) hq
    rw [show 1 + (i * 1 + q) = (i + 1) * 1 + q by omega, this]; exact hv)
  have hx1 : ¬ xs.length + 1 = 1 := by omega
  have hx0 : ¬ xs.length = 0 := by omega
  have hx2 : ¬ 1 = xs.length + 1 := by omega
  clear HR3
  go_wp2_with fail
  go_ret
  rw [HR4.out]
  exact ⟨⟨g, 1, xs.length, rfl, HKA.out, hgw, ⟨(sa, sn, sc), HX3.out, HSV.out, HSO.out⟩, ((Keep.of_below HB1.out).trans (Keep.of_below HB2.out)).set 0 _⟩, HX3.out.bl, ((Keep.of_below HB1.out).trans (Keep.of_below HB2.out)).set 0 _⟩
end Go.Proofs.YtcifdllbnbhcdaaGreatDoor
namespace Go.Proofs.YtcifdllbnbhcdaaGreatDoor
open Go.RowKit
def AccR {α : Type} (f : L8 → Option (α × L8)) (r : Option (List α × L8)) (xs : List α) (k : Nat) (t : L8) : Prop := r = (repP f k t).map (fun p => (xs ++ p.1, p.2))
section
variable {α : Type} {f : L8 → Option (α × L8)} {r : Option (List α × L8)} {xs : List α} {k : Nat} {t t' : L8} {x : α}
theorem AccR.start (f : L8 → Option (α × L8)) (k : Nat) (t : L8) : AccR f (repP f k t) [] k t := by
  unfold AccR
  cases repP f k t with
  | none => rfl
  | some p => rfl
theorem AccR.stop (h : AccR f r xs 0 t) : r = some (xs, t) := by
  unfold AccR at h
  rw [h]; simp [repP]
theorem AccR.bad (h : AccR f r xs (k + 1) t) (hs : f t = none) : r = none := by
  unfold AccR at h
  rw [h, repP, hs]; rfl
theorem AccR.step (h : AccR f r xs (k + 1) t) (hs : f t = some (x, t')) : AccR f r (xs ++ [x]) k t' := by
  unfold AccR at h ⊢
  rw [h, repP, hs]
  simp only
  cases repP f k t' with
  | none => rfl
  | some p => simp
end
theorem spl_len : ∀ (l : L8), (spl l).length ≤ l.length + 1
  | [] => by simp [spl]
  | c :: r => by
    have h := spl_len r
    have hn := spl_ne r
    unfold spl
    split
    · rw [List.length_cons, List.length_cons]; omega
    · have : 0 < (spl r).length := List.length_pos_iff.2 hn
      rw [List.length_cons, List.length_tail, List.length_cons]; omega
theorem lnP_len4 {r w : L8} {n : Nat} {ws : List L8} {t : L8} (h : lnP r w n = some (ws, t)) : t.length + 1 + n ≤ r.length ∧ ws.length = n := by
  unfold lnP at h
  split at h
  · cases h
  · next l u hc =>
    split at h
    · next hl =>
      simp only [Option.some.injEq, Prod.mk.injEq] at h
      obtain ⟨rfl, rfl⟩ := h
      have h1 := ctl_len hc
      have h2 := spl_len l
      exact ⟨by omega, by rw [List.length_tail]; omega⟩
    · cases h
theorem stepS_len4 {num : L8 → Option Int} {cl r t : L8} {s : Ses} (h : stepS num cl r = some (s, t)) : t.length + 4 ≤ r.length := by
  unfold stepS at h
  split at h
  · cases h
  · next hl =>
    split at h
    · simp only [Option.some.injEq, Prod.mk.injEq] at h
      obtain ⟨_, rfl⟩ := h
      have := (lnP_len4 hl).1; omega
    · cases h
theorem repS_len4 {num : L8 → Option Int} {cl : L8} : ∀ (k : Nat) {r t : L8} {l : List Ses}, repP (stepS num cl) k r = some (l, t) → 4 * l.length + t.length ≤ r.length
  | 0, _, _, _, h => by cases h; simp
  | k + 1, r, t, l, h => by
    unfold repP at h
    split at h
    · cases h
    · next x u hx =>
      split at h
      · cases h
      · next m q hm =>
        simp only [Option.some.injEq, Prod.mk.injEq] at h
        obtain ⟨rfl, rfl⟩ := h
        have h1 := stepS_len4 hx
        have h2 := repS_len4 k hm
        rw [List.length_cons]; omega
theorem stepC_len4 {num : L8 → Option Int} {r t : L8} {c : Chg} (h : stepC num r = some (c, t)) : 4 * (1 + c.2.1.length + c.2.2.length) + t.length ≤ r.length := by
  unfold stepC at h
  split at h
  · cases h
  · next ws u hl =>
    split at h
    · cases h
    · next a ha =>
      split at h
      · cases h
      · next x u2 hx =>
        split at h
        · cases h
        · next b hb =>
          split at h
          · cases h
          · next y u3 hy =>
            simp only [Option.some.injEq, Prod.mk.injEq] at h
            obtain ⟨rfl, rfl⟩ := h
            have h1 := (lnP_len4 hl).1
            have h2 := repS_len4 _ hx
            have h3 := repS_len4 _ hy
            simp only
            omega
theorem repC_len4 {num : L8 → Option Int} : ∀ (k : Nat) {r t : L8} {l : List Chg}, repP (stepC num) k r = some (l, t) → 4 * cntC l + t.length ≤ r.length
  | 0, _, _, _, h => by cases h; simp [cntC]
  | k + 1, r, t, l, h => by
    unfold repP at h
    split at h
    · cases h
    · next x u hx =>
      split at h
      · cases h
      · next m q hm =>
        simp only [Option.some.injEq, Prod.mk.injEq] at h
        obtain ⟨rfl, rfl⟩ := h
        have h1 := stepC_len4 hx
        have h2 := repC_len4 k hm
        rw [cntC_cons]; omega
theorem nuP_range {s : L8} {v : Int} (h : nuP s = some v) : -9223372036854775808 ≤ v ∧ v ≤ 9223372036854775807 := by
  unfold nuP at h
  split at h
  · next u hu =>
    cases h
    unfold Lib.atoiAll at hu
    split at hu
    · cases hu
    · simp only at hu
      split at hu
      · cases hu
      · cases hu
      · split at hu
        · cases hu
        · split at hu
          · cases hu
          · injection hu with hu
            subst hu
            split <;> omega
  · cases h
theorem spl_word : ∀ (l : L8), ∀ w ∈ spl l, w.length ≤ l.length
  | [], w, h => by simp [spl] at h; subst h; simp
  | c :: r, w, h => by
    have ih := spl_word r
    unfold spl at h
    split at h
    · rcases List.mem_cons.1 h with rfl | h
      · simp
      · have := ih w h; rw [List.length_cons]; omega
    · rcases List.mem_cons.1 h with rfl | h
      · rw [List.length_cons, List.length_cons]
        cases hs : spl r with
        | nil => exact absurd hs (spl_ne r)
        | cons x xs =>
          have := ih x (by rw [hs]; exact List.mem_cons_self)
          simpa using this
      · have := ih w (List.mem_of_mem_tail h); rw [List.length_cons]; omega
theorem lnP_word {r w : L8} {n : Nat} {ws : List L8} {t : L8} (h : lnP r w n = some (ws, t)) (i : Nat) : (ws.getD i []).length ≤ r.length := by
  unfold lnP at h
  split at h
  · cases h
  · next l u hc =>
    split at h
    · simp only [Option.some.injEq, Prod.mk.injEq] at h
      obtain ⟨rfl, _⟩ := h
      have h1 := ctl_len hc
      rw [List.getD_eq_getElem?_getD]
      cases hx : (spl l).tail[i]? with
      | none => simp
      | some x =>
        have hm : x ∈ spl l := List.mem_of_mem_tail (List.mem_of_getElem? hx)
        have := spl_word l x hm
        simp only [Option.getD_some]; omega
    · cases h
theorem stepS_sok {cl r t : L8} {s : Ses} {N : Nat} (h : stepS nuP cl r = some (s, t)) (hc : cl.length ≤ N) (hr : r.length ≤ N) (hN : N ≤ 9223372036854775807) : (s.1.length ≤ 9223372036854775807 ∧ s.2.2.2.2.2.length ≤ 9223372036854775807) ∧ -9223372036854775808 ≤ s.2.2.2.1 ∧ s.2.2.2.1 ≤ 9223372036854775807 := by
  unfold stepS at h
  split at h
  · cases h
  · next ws u hl =>
    split at h
    · next a b c d ha hb hcc hd =>
      simp only [Option.some.injEq, Prod.mk.injEq] at h
      obtain ⟨rfl, _⟩ := h
      have h4 := lnP_word hl 4
      unfold mkS
      refine ⟨⟨by simp only; omega, ?_⟩, nuP_range hcc⟩
      simp only
      split
      · simp
      · omega
    · cases h
theorem repS_sok {cl : L8} {N : Nat} (hc : cl.length ≤ N) (hN : N ≤ 9223372036854775807) : ∀ (k : Nat) {r t : L8} {l : List Ses}, r.length ≤ N → repP (stepS nuP cl) k r = some (l, t) → SOk l
  | 0, _, _, _, _, h => by cases h; intro s hs; cases hs
  | k + 1, r, t, l, hr, h => by
    unfold repP at h
    split at h
    · cases h
    · next x u hx =>
      split at h
      · cases h
      · next m q hm =>
        simp only [Option.some.injEq, Prod.mk.injEq] at h
        obtain ⟨rfl, rfl⟩ := h
        have h1 := stepS_len4 hx
        have h2 := repS_sok hc hN k (by omega) hm
        intro s hs
        rcases List.mem_cons.1 hs with rfl | hs
        · exact stepS_sok hx hc hr hN
        · exact h2 s hs
theorem stepC_okP {r t : L8} {c : Chg} (h : stepC nuP r = some (c, t)) (hN : r.length ≤ 9223372036854775807) : c.1.length ≤ 9223372036854775807 ∧ SOk c.2.1 ∧ SOk c.2.2 := by
  unfold stepC at h
  split at h
  · cases h
  · next ws u hl =>
    split at h
    · cases h
    · next a ha =>
      split at h
      · cases h
      · next x u2 hx =>
        split at h
        · cases h
        · next b hb =>
          split at h
          · cases h
          · next y u3 hy =>
            simp only [Option.some.injEq, Prod.mk.injEq] at h
            obtain ⟨rfl, rfl⟩ := h
            have h0 := lnP_word hl 0
            have h1 := (lnP_len4 hl).1
            have h2 := repS_len4 _ hx
            exact ⟨by simp only; omega, repS_sok h0 hN _ (by omega) hx, repS_sok h0 hN _ (by omega) hy⟩
theorem repC_okP : ∀ (k : Nat) {r t : L8} {l : List Chg}, r.length ≤ 9223372036854775807 → repP (stepC nuP) k r = some (l, t) → ∀ c ∈ l, c.1.length ≤ 9223372036854775807 ∧ SOk c.2.1 ∧ SOk c.2.2
  | 0, _, _, _, _, h => by cases h; intro s hs; cases hs
  | k + 1, r, t, l, hr, h => by
    unfold repP at h
    split at h
    · cases h
    · next x u hx =>
      split at h
      · cases h
      · next m q hm =>
        simp only [Option.some.injEq, Prod.mk.injEq] at h
        obtain ⟨rfl, rfl⟩ := h
        have h1 := stepC_len4 hx
        have h2 := repC_okP k (by omega) hm
        intro s hs
        rcases List.mem_cons.1 hs with rfl | hs
        · exact stepC_okP hx hr
        · exact h2 s hs
def SsR (r : Option (List Ses × L8)) (w0 : World) (b : Nat) (w : World) (e : Ending) (w' : World) : Prop :=
  (match r with
   | none => e = .panicked badP
   | some (xs, t) => ∃ v, e = .returned v ∧ SRow w' w.heap.size v xs ∧ RdB w0 w' b t) ∧ Below w0.heap.size w0 w' ∧ Keep b w w'
theorem SsR.bad {r : Option (List Ses × L8)} {w0 w w' : World} {b : Nat} (h : r = none) (hb : Below w0.heap.size w0 w') (hk : Keep b w w') : SsR r w0 b w (.panicked badP) w' := by subst h; exact ⟨rfl, hb, hk⟩
theorem SsR.ok {r : Option (List Ses × L8)} {w0 w w' : World} {b : Nat} {xs : List Ses} {t : L8} {v : Value} (h : r = some (xs, t)) (hr : SRow w' w.heap.size v xs) (hd : RdB w0 w' b t) (hk : Keep b w w') : SsR r w0 b w (.returned v) w' := by
  subst h; exact ⟨⟨v, rfl, hr, hd⟩, hd.bl, hk⟩
end Go.Proofs.YtcifdllbnbhcdaaGreatDoor
