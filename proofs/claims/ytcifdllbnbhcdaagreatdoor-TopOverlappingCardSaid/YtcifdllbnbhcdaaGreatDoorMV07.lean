/- Texts V60, V61, V62, joined: walks and laws. -/
import Derived.Shelf.SlSortCmp.WholeK
import Derived.Test.YtcifdllbnbhcdaaGreatDoorMV04
import Derived.Test.YtcifdllbnbhcdaaGreatDoorMV06
set_option linter.unusedSimpArgs false
set_option linter.unusedVariables false
namespace Go.Proofs.YtcifdllbnbhcdaaGreatDoor
open Go.RowKit Go.Sort
theorem flatK_list (d : List Ses) : (flatK sesC 6 d.toArray).toList = d.flatMap sesC := by
  have hl : (d.flatMap sesC).length = d.length * 6 := flat_len sesC 6 sesC_len d
  apply List.ext_getElem?
  intro t
  by_cases h : t < d.length * 6
  · have e1 : t = t / 6 * 6 + t % 6 := by omega
    have hd : t / 6 < d.length := by omega
    have hx : d[t / 6]? = some d[t / 6] := List.getElem?_eq_getElem hd
    have h2 := flat_at sesC 6 sesC_len d (t / 6) (t % 6) _ hx (by omega)
    rw [← e1] at h2
    have hs : t < (flatK sesC 6 d.toArray).size := by rw [size_flatK]; simpa using h
    have h3 := get_flatK sesC 6 d.toArray t (by simpa using h)
    rw [getElem!_pos _ t hs] at h3
    rw [Array.getElem?_toList, h2, Array.getElem?_eq_getElem hs, h3, getElem!_pos d.toArray (t / 6) (by simpa using hd)]
    have h6 : t % 6 < (sesC d[t / 6]).length := by rw [sesC_len]; omega
    rw [List.getElem?_eq_getElem h6, show d.toArray[t / 6] = d[t / 6] by simp, getElem!_pos (sesC d[t / 6]) (t % 6) h6]
  · rw [List.getElem?_eq_none (by rw [Array.length_toList, size_flatK]; simpa using h), List.getElem?_eq_none (by omega)]
theorem sortK_heap {w : World} {g m : Nat} {os : Array Obj} {cur : Array Value} {e : TypeId} {fr : Nat × Nat} (d : Array Ses) (hb : w.heap[g]? = some (.cells cur e fr)) :
    (sortWorldK sesC 6 w g 0 m d os).heap[g]? = some (.cells (putCells id 0 (flatK sesC 6 d) cur) e fr) := by
  have hg : g < w.heap.size := (Array.getElem?_eq_some_iff.1 hb).1
  unfold sortWorldK
  rw [heap_grow_old _ _ (by simpa [putRowK] using hg)]
  simp [putRowK, putRow, mapBlock, Sort.ahead, Array.getElem?_modify, hb, onCells]
theorem sortK_grown {w : World} {g m : Nat} {os : Array Obj} (d : Array Ses) : w.grownBy (sortWorldK sesC 6 w g 0 m d os) (some g) := by
  refine ⟨rfl, rfl, rfl, by simp [sortWorldK, putRowK], fun k hk hne => ?_⟩
  unfold sortWorldK
  rw [heap_grow_old _ _ (by simpa [putRowK] using hk)]
  have : g ≠ k := fun e => hne (by rw [e])
  simp [putRowK, putRow, mapBlock, Sort.ahead, Array.getElem?_modify, this]
theorem take_putK (cur F : Array Value) (h : F.size ≤ cur.size) : (putCells id 0 F cur).toList.take F.size = F.toList := by
  apply List.ext_getElem?
  intro j
  by_cases hj : j < F.size
  · rw [List.getElem?_take_of_lt hj, Array.getElem?_toList, Array.getElem?_toList]
    simp [putCells, hj, show j < cur.size by omega]
  · rw [List.getElem?_take_eq_none (by omega), List.getElem?_eq_none (by simp; omega)]
theorem srow_sorted {w : World} {B g cap m : Nat} {xs ys : List Ses} {os : Array Obj} (h : SRow w B (.slice (some ⟨g, 0, none⟩) xs.length cap) xs) (hl : ys.length = xs.length) : SRow (sortWorldK sesC 6 w g 0 m ys.toArray os) B (.slice (some ⟨g, 0, none⟩) xs.length cap) ys := by
  rcases h.2 with ⟨h0, _⟩ | ⟨g', cap', cur, hv, hB, hg, hn, hm, hs, ht⟩
  · cases h0
  cases hv
  refine ⟨flat_len sesC 6 sesC_len ys, Or.inr ⟨g, cap, _, by rw [hl], hB, sortK_heap _ hg, by rw [hl]; exact hn, hm, by simp [putCells, hs], ?_⟩⟩
  have e : ys.length * 6 = (flatK sesC 6 ys.toArray).size := by rw [size_flatK]; simp
  rw [e, take_putK _ _ (by rw [size_flatK, hs]; simp; omega), flatK_list]
theorem srow_holds {w : World} {B g cap : Nat} {xs : List Ses} (h : SRow w B (.slice (some ⟨g, 0, none⟩) xs.length cap) xs) : HoldsK sesC 6 w g 0 xs.toArray ∧ g < w.heap.size ∧ B ≤ g := by
  rcases h.2 with ⟨h0, _⟩ | ⟨g', cap', cur, hv, hB, hg, hn, hm, hs, ht⟩
  · cases h0
  cases hv
  refine ⟨fun j hj => ?_, (Array.getElem?_eq_some_iff.1 hg).1, hB⟩
  have hf : (flatK sesC 6 xs.toArray)[j]? = some (flatK sesC 6 xs.toArray)[j]! := by rw [Array.getElem?_eq_getElem hj, getElem!_pos _ j hj]
  rw [← Array.getElem?_toList, flatK_list, ← ht, List.getElem?_take] at hf
  split at hf
  · refine ⟨?_, by simp [World.frozen?, hg]⟩
    rw [Array.getElem?_toList] at hf
    simp [World.cell?, hg, hf]
  · cases hf
set_option maxRecDepth 100000 in
set_option maxHeartbeats 2000000 in
theorem sortc_any (s t : Ses) (w : World) (hT : Tz w) : Calls Tryz.prog 273 #[.agg (sesC s).toArray, .agg (sesC t).toArray] w (fun e w' => e = .returned (.int .i64 (ordP s t)) ∧ Gr w w') := by
  obtain ⟨cl, wk, dy, st, ln, rm⟩ := s
  obtain ⟨cl', wk', dy', st', ln', rm'⟩ := t
  have HT := Lib.hid hT
  clear hT
  show Calls _ _ #[.agg #[.string (arr cl), .int .i64 wk, .int .i64 dy, .int .i64 st, .int .i64 ln, .string (arr rm)], .agg #[.string (arr cl'), .int .i64 wk', .int .i64 dy', .int .i64 st', .int .i64 ln', .string (arr rm')]] w _
  have HA := Lib.hid (BX.mk0 (vs := #[.string (arr cl), .int .i64 wk, .int .i64 dy, .int .i64 st, .int .i64 ln, .string (arr rm)]) (T := 43) w)
  have GW := Lib.hid (fun (A B : Obj) => ((Gr.refl w).alloc A).alloc B)
  go_enter Tryz.func273, Tryz.ntmps273
  go_upto_region 1 with fail
  have HGW := Lib.hid (GW.out (.cells #[.string (arr cl), .int .i64 wk, .int .i64 dy, .int .i64 st, .int .i64 ln, .string (arr rm)] 43) (.cells #[.string (arr cl'), .int .i64 wk', .int .i64 dy', .int .i64 st', .int .i64 ln', .string (arr rm')] 43))
  clear GW
  have hsa : (w.alloc (.cells #[.string (arr cl), .int .i64 wk, .int .i64 dy, .int .i64 st, .int .i64 ln, .string (arr rm)] 43)).heap.size = w.heap.size + 1 := by simp
  generalize w.alloc (.cells #[.string (arr cl), .int .i64 wk, .int .i64 dy, .int .i64 st, .int .i64 ln, .string (arr rm)] 43) = wa at *
  obtain ⟨R, hR⟩ : ∃ R, R = w.heap.size := ⟨_, rfl⟩
  rw [← hR] at HA hsa ⊢
  clear hR
  have HB := Lib.hid (BX.mk0 (vs := #[.string (arr cl'), .int .i64 wk', .int .i64 dy', .int .i64 st', .int .i64 ln', .string (arr rm')]) (T := 43) wa)
  rw [hsa] at HB
  clear hsa
  generalize wa.alloc (.cells #[.string (arr cl'), .int .i64 wk', .int .i64 dy', .int .i64 st', .int .i64 ln', .string (arr rm')] 43) = wb at *
  obtain ⟨R2, hR2⟩ : ∃ R2, R2 = R + 1 := ⟨_, rfl⟩
  rw [← hR2] at HB ⊢
  clear hR2
  have HA := Lib.hid (HA.out.next HB.out.bl)
  have xp0 := HA.out.cell 0; have xp1 := HA.out.cell 1; have xp2 := HA.out.cell 2; have xp3 := HA.out.cell 3; have xp4 := HA.out.cell 4; have xp5 := HA.out.cell 5
  have yp0 := HB.out.cell 0; have yp1 := HB.out.cell 1; have yp2 := HB.out.cell 2; have yp3 := HB.out.cell 3; have yp4 := HB.out.cell 4; have yp5 := HB.out.cell 5
  simp only [List.getElem?_toArray, List.getElem?_cons_zero, List.getElem?_cons_succ] at xp0 xp1 xp2 xp3 xp4 xp5 yp0 yp1 yp2 yp3 yp4 yp5
  have HTB := Lib.hid (HT.out.below HGW.out.bl)
  have DT := Lib.hid (fun cl wk dy st ln rm (W : World) (h : Below wb.heap.size wb W) => date_any cl wk dy st ln rm W (HTB.out.below h))
  have OR := Lib.hid (fun s t (W : World) => order_any s t W)
  have GD := Lib.hid ((Gr.refl wb).drew)
  have x0 := xp0; have x1 := xp1; have x2 := xp2; have x3 := xp3; have x4 := xp4; have x5 := xp5
  have y0 := yp0; have y1 := yp1; have y2 := yp2; have y3 := yp3; have y4 := yp4; have y5 := yp5
  go_region_held3 (fun w' => w'.cell? ⟨R, 0, none⟩ = some (.string (arr cl)) ∧ w'.cell? ⟨R, 1, none⟩ = some (.int .i64 wk) ∧ w'.cell? ⟨R, 2, none⟩ = some (.int .i64 dy) ∧ w'.cell? ⟨R, 3, none⟩ = some (.int .i64 st) ∧ w'.cell? ⟨R, 4, none⟩ = some (.int .i64 ln) ∧ w'.cell? ⟨R, 5, none⟩ = some (.string (arr rm)) ∧ w'.cell? ⟨R2, 0, none⟩ = some (.string (arr cl')) ∧ w'.cell? ⟨R2, 1, none⟩ = some (.int .i64 wk') ∧ w'.cell? ⟨R2, 2, none⟩ = some (.int .i64 dy') ∧ w'.cell? ⟨R2, 3, none⟩ = some (.int .i64 st') ∧ w'.cell? ⟨R2, 4, none⟩ = some (.int .i64 ln') ∧ w'.cell? ⟨R2, 5, none⟩ = some (.string (arr rm'))) (first | (with_reducible exact ⟨x0, x1, x2, x3, x4, x5, y0, y1, y2, y3, y4, y5⟩) | go_keep) (first | (go_at_call 275; refine (DT.out _ _ _ _ _ _ _ (by first | with_reducible exact GX.out.bl | with_reducible exact GD.out.bl)).mono ?_; rintro e9 w9 ⟨rfl, hg9⟩; have GX : Hid (Gr wb w9) := Lib.hid (by first | with_reducible exact GX.out.trans hg9 | with_reducible exact GD.out.trans hg9); clear hg9; have x0 := below_cell9 GX.out.bl xp0; have x1 := below_cell9 GX.out.bl xp1; have x2 := below_cell9 GX.out.bl xp2; have x3 := below_cell9 GX.out.bl xp3; have x4 := below_cell9 GX.out.bl xp4; have x5 := below_cell9 GX.out.bl xp5; have y0 := below_cell9 GX.out.bl yp0; have y1 := below_cell9 GX.out.bl yp1; have y2 := below_cell9 GX.out.bl yp2; have y3 := below_cell9 GX.out.bl yp3; have y4 := below_cell9 GX.out.bl yp4; have y5 := below_cell9 GX.out.bl yp5) | (go_at_call 274; refine (OR.out _ _ _).mono ?_; rintro e9 w9 ⟨rfl, hg9⟩; have GX : Hid (Gr wb w9) := Lib.hid (GX.out.trans hg9); clear hg9; have x0 := below_cell9 GX.out.bl xp0; have x1 := below_cell9 GX.out.bl xp1; have x2 := below_cell9 GX.out.bl xp2; have x3 := below_cell9 GX.out.bl xp3; have x4 := below_cell9 GX.out.bl xp4; have x5 := below_cell9 GX.out.bl xp5; have y0 := below_cell9 GX.out.bl yp0; have y1 := below_cell9 GX.out.bl yp1; have y2 := below_cell9 GX.out.bl yp2; have y3 := below_cell9 GX.out.bl yp3; have y4 := below_cell9 GX.out.bl yp4; have y5 := below_cell9 GX.out.bl yp5))
  all_goals (
    go_wp2_with fail
    go_ret
    exact ⟨rfl, HGW.out.trans GX.out⟩)
theorem Tryz.sesAgg : ∀ w, (isAgg 43).run Tryz.prog w = .ok true w := Tryz.isAgg43
theorem Tryz.sesSize : ∀ w, (Go.sizeOf 43).run Tryz.prog w = .ok 6 w := Tryz.sizeOf43
set_option maxHeartbeats 2000000 in
theorem ins_none (p : Option Addr) (cap : Nat) (fv : Value) (w : World) : Calls Tryz.prog 366 #[.slice p 0 cap, .int .i64 0, .int .i64 0, fv] w (fun e w' => e = .returned (.tuple #[]) ∧ w' = w) := by
  go_enter Tryz.func366, Tryz.ntmps366
  go_wp2
  refine wp_loop_rounds 1 ?_
  rw [rounds_succ]
  go_wp2
  go_end0
  exact ⟨rfl, rfl⟩
set_option maxHeartbeats 2000000 in
theorem pdq_none (p : Option Addr) (cap : Nat) (lim : Int) (fv : Value) (w : World) : Calls Tryz.prog 325 #[.slice p 0 cap, .int .i64 0, .int .i64 0, .int .i64 lim, fv] w (fun e w' => e = .returned (.tuple #[]) ∧ w' = w) := by
  go_enter Tryz.func325, Tryz.ntmps325
  go_wp2
  refine wp_loop_rounds 1 ?_
  rw [rounds_succ]
  go_wp2_with (go_at_call 366; refine (ins_none p cap fv _).mono ?_; rintro e w' ⟨rfl, rfl⟩)
  (try simp only [Exit.inBlock, Exit.then]); refine bodyPost_ret (results_none rfl _ _ _) rfl ?_
  exact ⟨rfl, rfl⟩
set_option maxHeartbeats 2000000 in
theorem sortf_none (p : Option Addr) (cap : Nat) (fv : Value) (w : World) : Calls Tryz.prog 272 #[.slice p 0 cap, fv] w (fun e w' => e = .returned (.tuple #[]) ∧ w' = w) := by
  have hl : ∀ W, Calls Tryz.prog 54 #[.int .u64 0] W fun e w' => e = .returned (.int .i64 (Lib.bitLen 0 : Nat)) ∧ w' = W := fun W => Any.bits_Len (SlLaysF0.n15.bits (P := Tryz.prog) (ρ := Tryz.laysSortSes_ren) { Tryz.laysSortSes with }) 0 W (by omega) (by omega)
  go_enter Tryz.func272, Tryz.ntmps272
  go_wp2_with (first | (go_at_call 54; refine (hl _).mono ?_; rintro e w' ⟨rfl, rfl⟩) | (go_at_call 325; refine (pdq_none p cap _ fv _).mono ?_; rintro e w' ⟨rfl, rfl⟩))
  go_end0
  exact ⟨rfl, rfl⟩
theorem sortf_any (w0 w : World) (hb : Below w0.heap.size w0 w) (hT : Tz w0) (v : Value) (xs : List Ses) (h : SRow w w0.heap.size v xs) (hn : xs.length ≤ 1000000) :
    Calls Tryz.prog 272 #[v, .func (.func 273) #[] #[]] w (fun e w' => e = .returned (.tuple #[]) ∧ ∃ ys : List Ses, ys.Perm xs ∧ ys.Pairwise (fun a b => ltP b a = false) ∧ SRow w' w0.heap.size v ys ∧ Below w0.heap.size w0 w') := by
  have hv : v = .slice none 0 0 ∧ xs = [] ∨ ∃ g cap, v = .slice (some ⟨g, 0, none⟩) xs.length cap := by
    rcases h.2 with ⟨h0, h1⟩ | ⟨g, cap, cur, hv, _⟩
    · exact Or.inl ⟨h0, List.eq_nil_of_length_eq_zero h1⟩
    · exact Or.inr ⟨g, cap, hv⟩
  rcases hv with ⟨rfl, rfl⟩ | ⟨g, cap, rfl⟩
  · refine (sortf_none none 0 (.func (.func 273) #[] #[]) w).mono ?_
    rintro e w' ⟨rfl, rfl⟩
    exact ⟨rfl, [], List.Perm.nil, List.Pairwise.nil, h, hb⟩
  · obtain ⟨hH, hg, hB⟩ := srow_holds h
    have hTw : Tz w := hT.below hb
    have htab : 2 < w0.heap.size := lt_of_cell (hT 0 (by decide))
    have hcmp : CmpLays Tryz.prog 273 #[] sesC 6 ordP g 0 xs.toArray.size w := by
      intro m os dk _ x y
      have hTs : Tz (sortWorldK sesC 6 w g 0 m dk os) := fun j hj => by
        have hc := hTw j hj
        have hgb := (sortK_grown (w := w) (g := g) (m := m) (os := os) dk).block 2 (lt_of_cell hc) (by intro e; have := Option.some.inj e; omega)
        rw [World.cell?_of_block (w := w) hgb]; exact hc
      refine (sortc_any x y _ hTs).mono ?_
      rintro e w' ⟨rfl, hg⟩
      exact ⟨rfl, hg.eq⟩
    refine (AnyQ.slices_SortFunc Tryz.laysSortSes 6 Tryz.sesAgg Tryz.sesSize sesC sesC_len ones_ses ordP swo_ord 273 #[] g 0 cap xs.toArray w (enters_of Tryz.func273 (by kernel_rfl) rfl) hcmp hH hg (by simp; omega)).mono ?_
    rintro e w' ⟨rfl, d', m, os, hp, hs, rfl⟩
    have hsz : d'.toList.length = xs.length := by rw [Array.length_toList]; simpa using hp.1
    have hsz2 : d'.size = xs.length := by simpa using hp.1
    refine ⟨rfl, d'.toList, ?_, ?_, ?_, ?_⟩
    · have := hp.2.2
      simp only [List.size_toArray, List.extract_toArray] at this
      have e1 : d'.extract 0 xs.length = d' := by rw [← hsz2]; exact Array.extract_size
      rw [e1] at this
      simpa using this
    · rw [List.pairwise_iff_getElem]
      intro i j hi hj hij
      rw [Array.length_toList] at hi hj
      have := hs i j (Nat.zero_le _) hij (by simp; omega)
      rw [getElem!_pos d' j hj, getElem!_pos d' i hi] at this
      simpa [ltOf, ltP] using this
    · have := srow_sorted (m := m) (os := os) h hsz
      simpa using this
    · exact hb.trans ((Below.refl _ w).grown (sortK_grown d') hb.size (fun q hq => by cases hq; exact hB))
set_option maxRecDepth 100000 in
set_option maxHeartbeats 2000000 in
theorem sorted_any (w0 w : World) (hb : Below w0.heap.size w0 w) (hT : Tz w0) (v : Value) (xs : List Ses) (h : SRow w w0.heap.size v xs) (hn : xs.length ≤ 1000000) :
    Calls Tryz.prog 197 #[v] w (fun e w' => e = .returned v ∧ ∃ ys : List Ses, ys.Perm xs ∧ ys.Pairwise (fun a b => ltP b a = false) ∧ SRow w' w0.heap.size v ys ∧ Below w0.heap.size w0 w') := by
  have SF := Lib.hid (sortf_any w0 w hb hT v xs h hn)
  have hv : ∃ a n c, v = .slice a n c := by
    obtain ⟨a, cap, e, _⟩ := h.sat
    exact ⟨a, _, cap, e⟩
  obtain ⟨a, n, c, rfl⟩ := hv
  clear h hb hT
  go_enter Tryz.func197, Tryz.ntmps197
  go_wp2_with fail
  refine SF.out.mono ?_
  rintro en w1 ⟨rfl, ys, h1, h2, h3, h4⟩
  have H1 := Lib.hid (show _ ∧ _ ∧ _ ∧ _ from ⟨h1, h2, h3, h4⟩)
  clear h1 h2 h3 h4
  go_wp2_with fail
  go_ret
  exact ⟨rfl, ys, H1.out⟩
end Go.Proofs.YtcifdllbnbhcdaaGreatDoor
namespace Go.Proofs.YtcifdllbnbhcdaaGreatDoor
open Go.RowKit Go.Sort
abbrev sesA (s : Ses) : Array Value := #[.string (arr s.1), .int .i64 s.2.1, .int .i64 s.2.2.1, .int .i64 s.2.2.2.1, .int .i64 s.2.2.2.2.1, .string (arr s.2.2.2.2.2)]
theorem BX.six {w0 w : World} {R : Nat} {T : TypeId} {s : Ses} (h : BX w0 w R (sesA s) T) : w.cell? ⟨R, 0, none⟩ = some (.string (arr s.1)) ∧ w.cell? ⟨R, 1, none⟩ = some (.int .i64 s.2.1) ∧ w.cell? ⟨R, 2, none⟩ = some (.int .i64 s.2.2.1) ∧ w.cell? ⟨R, 3, none⟩ = some (.int .i64 s.2.2.2.1) ∧ w.cell? ⟨R, 4, none⟩ = some (.int .i64 s.2.2.2.2.1) ∧ w.cell? ⟨R, 5, none⟩ = some (.string (arr s.2.2.2.2.2)) :=
  ⟨h.cell 0, h.cell 1, h.cell 2, h.cell 3, h.cell 4, h.cell 5⟩
theorem idx_hit {L : List Ses} {s : Ses} (h : idxS L s < L.length) : Lib.idxBy (fun _ y => alkS s y) (L.take L.length) default = (idxS L s : Int) := by
  refine Lib.idxBy_hit _ L L.length (idxS L s) default h (Nat.le_refl _) ?_ ?_
  · rw [getElem!_pos L _ h]; exact List.findIdx_getElem (w := h)
  · intro j hj
    rw [getElem!_pos L j (by omega)]
    have := List.not_of_lt_findIdx (p := fun t => alkS s t) (xs := L) hj
    simpa using this
theorem idx_miss {L : List Ses} {s : Ses} (h : ¬ idxS L s < L.length) : Lib.idxBy (fun _ y => alkS s y) (L.take L.length) default = -1 := by
  refine Lib.idxBy_miss _ L L.length default ?_
  intro j hj
  rw [getElem!_pos L j hj]
  have := List.not_of_lt_findIdx (p := fun t => alkS s t) (xs := L) (i := j) (by show j < idxS L s; omega)
  simpa using this
def ixI (L : List Ses) (s : Ses) : Int := if idxS L s < L.length then (idxS L s : Int) else -1
theorem ixI_by (L : List Ses) (s : Ses) : Lib.idxBy (fun _ y => alkS s y) (L.take L.length) default = ixI L s := by
  unfold ixI
  split
  · next h => exact idx_hit h
  · next h => exact idx_miss h
set_option maxRecDepth 100000 in
set_option maxHeartbeats 2000000 in
theorem nrm1_any (s x : Ses) (S : Nat) (w0 w : World) (h : BX w0 w S (sesA s) 43) : Calls Tryz.prog 376 #[.agg (sesC x).toArray, .pointer (some ⟨S, 0, none⟩)] w (fun e w' => e = .returned (.bool (alkS s x)) ∧ Below w.heap.size w w') := by
  have AL : Hid (∀ W : World, Calls Tryz.prog 329 #[sesV s.1 s.2.1 s.2.2.1 s.2.2.2.1 s.2.2.2.2.1 s.2.2.2.2.2, sesV x.1 x.2.1 x.2.2.1 x.2.2.2.1 x.2.2.2.2.1 x.2.2.2.2.2] W (RetB (.bool (alkS s x)) W)) := Lib.hid (fun W => alike_any s.1 s.2.1 s.2.2.1 s.2.2.2.1 s.2.2.2.2.1 s.2.2.2.2.2 x.1 x.2.1 x.2.2.1 x.2.2.2.1 x.2.2.2.2.1 x.2.2.2.2.2 W)
  generalize alkS s x = r at *
  have HS := Lib.hid h
  clear h
  have HX := Lib.hid (BX.mk0 (vs := sesA x) (T := 43) w)
  show Calls _ _ #[.agg #[.string (arr x.1), .int .i64 x.2.1, .int .i64 x.2.2.1, .int .i64 x.2.2.2.1, .int .i64 x.2.2.2.2.1, .string (arr x.2.2.2.2.2)], .pointer (some ⟨S, 0, none⟩)] w _
  go_enter Tryz.func376, Tryz.ntmps376
  go_upto_region 1 with fail
  change Hid (BX w (w.alloc (.cells #[.string (arr x.1), .int .i64 x.2.1, .int .i64 x.2.2.1, .int .i64 x.2.2.2.1, .int .i64 x.2.2.2.2.1, .string (arr x.2.2.2.2.2)] 43)) w.heap.size _ _) at HX
  generalize w.alloc (.cells #[.string (arr x.1), .int .i64 x.2.1, .int .i64 x.2.2.1, .int .i64 x.2.2.2.1, .int .i64 x.2.2.2.2.1, .string (arr x.2.2.2.2.2)] 43) = wb at *
  obtain ⟨R, hR⟩ : ∃ R, R = w.heap.size := ⟨_, rfl⟩
  rw [← hR] at HX ⊢
  clear hR
  obtain ⟨x0, x1, x2, x3, x4, x5⟩ := HX.out.six
  obtain ⟨y0, y1, y2, y3, y4, y5⟩ := (HS.out.next HX.out.bl).six
  go_wp2_with fail
  refine (AL.out _).mono ?_
  rintro en w2 ⟨rfl, hb2⟩
  have HB := Lib.hid (below3 HX.out.bl hb2)
  clear hb2
  go_wp2_with fail
  go_ret
  exact ⟨rfl, HB.out⟩
set_option maxRecDepth 100000 in
set_option maxHeartbeats 2000000 in
theorem nrm2_any (s x : Ses) (S : Nat) (w0 w : World) (h : BX w0 w S (sesA s) 43) : Calls Tryz.prog 378 #[.agg (sesC x).toArray, .pointer (some ⟨S, 0, none⟩)] w (fun e w' => e = .returned (.bool (metS s x)) ∧ Below w.heap.size w w') := by
  have AL : Hid (∀ W : World, Calls Tryz.prog 328 #[sesV s.1 s.2.1 s.2.2.1 s.2.2.2.1 s.2.2.2.2.1 s.2.2.2.2.2, sesV x.1 x.2.1 x.2.2.1 x.2.2.2.1 x.2.2.2.2.1 x.2.2.2.2.2] W (RetB (.bool (metS s x)) W)) := Lib.hid (fun W => meet_any s.1 s.2.1 s.2.2.1 s.2.2.2.1 s.2.2.2.2.1 s.2.2.2.2.2 x.1 x.2.1 x.2.2.1 x.2.2.2.1 x.2.2.2.2.1 x.2.2.2.2.2 W)
  generalize metS s x = r at *
  have HS := Lib.hid h
  clear h
  have HX := Lib.hid (BX.mk0 (vs := sesA x) (T := 43) w)
  show Calls _ _ #[.agg #[.string (arr x.1), .int .i64 x.2.1, .int .i64 x.2.2.1, .int .i64 x.2.2.2.1, .int .i64 x.2.2.2.2.1, .string (arr x.2.2.2.2.2)], .pointer (some ⟨S, 0, none⟩)] w _
  go_enter Tryz.func378, Tryz.ntmps378
  go_upto_region 1 with fail
  change Hid (BX w (w.alloc (.cells #[.string (arr x.1), .int .i64 x.2.1, .int .i64 x.2.2.1, .int .i64 x.2.2.2.1, .int .i64 x.2.2.2.2.1, .string (arr x.2.2.2.2.2)] 43)) w.heap.size _ _) at HX
  generalize w.alloc (.cells #[.string (arr x.1), .int .i64 x.2.1, .int .i64 x.2.2.1, .int .i64 x.2.2.2.1, .int .i64 x.2.2.2.2.1, .string (arr x.2.2.2.2.2)] 43) = wb at *
  obtain ⟨R, hR⟩ : ∃ R, R = w.heap.size := ⟨_, rfl⟩
  rw [← hR] at HX ⊢
  clear hR
  obtain ⟨x0, x1, x2, x3, x4, x5⟩ := HX.out.six
  obtain ⟨y0, y1, y2, y3, y4, y5⟩ := (HS.out.next HX.out.bl).six
  go_wp2_with fail
  refine (AL.out _).mono ?_
  rintro en w2 ⟨rfl, hb2⟩
  have HB := Lib.hid (below3 HX.out.bl hb2)
  clear hb2
  go_wp2_with fail
  go_ret
  exact ⟨rfl, HB.out⟩
set_option maxHeartbeats 2000000 in
theorem idx_nil (c : Nat) (fv : Value) (w : World) : Calls Tryz.prog 375 #[.slice none 0 c, fv] w (fun e w' => e = .returned (.int .i64 (-1)) ∧ w' = w) := by
  go_enter Tryz.func375, Tryz.ntmps375
  go_wp2
  refine wp_loop_rounds 1 ?_
  rw [rounds_succ]
  go_wp2
  go_ret
  exact ⟨rfl, rfl⟩
theorem SRow.cells_at {w : World} {B g cap : Nat} {L : List Ses} (h : SRow w B (.slice (some ⟨g, 0, none⟩) L.length cap) L) : g < w.heap.size ∧ ∀ j, j < L.length → ∀ i v, (sesC L[j]!)[i]? = some v → w.cell? ⟨g, 0 + j * 6 + i, none⟩ = some v := by
  obtain ⟨a, cp, e, _, hs⟩ := h.sat
  cases e
  have hH := srow_holds h
  refine ⟨hH.2.1, fun j hj i v hv => ?_⟩
  rcases hs.2.2 with h0 | ⟨b, off, he, hc⟩
  · omega
  · cases he
    rw [getElem!_pos L j hj] at hv
    have := hc j _ (List.getElem?_eq_getElem hj) i v hv
    rw [Nat.zero_add] at this ⊢
    exact this
theorem idx_any (s : Ses) (S : Nat) (w0 w : World) (h : BX w0 w S (sesA s) 43) (v : Value) (L : List Ses) (B : Nat) (hr : SRow w B v L) (hn : L.length ≤ 1000000) :
    Calls Tryz.prog 375 #[v, .func (.func 376) #[] #[.pointer (some ⟨S, 0, none⟩)]] w (fun e w' => e = .returned (.int .i64 (ixI L s)) ∧ Below w.heap.size w w') := by
  rcases hr.2 with ⟨rfl, h1⟩ | ⟨g, cap, cur, rfl, _⟩
  · have hL : L = [] := List.eq_nil_of_length_eq_zero h1
    subst hL
    refine (idx_nil 0 _ w).mono ?_
    rintro e w' ⟨rfl, rfl⟩
    exact ⟨rfl, Below.refl _ _⟩
  · obtain ⟨hg, hc⟩ := hr.cells_at
    refine (AnyQ.slices_IndexFunc Tryz.laysIndexSes 6 Tryz.sesAgg Tryz.sesSize sesC sesC_len (alkS s) 376 #[.pointer (some ⟨S, 0, none⟩)] (enters_of Tryz.func376 (by kernel_rfl) rfl) g 0 L.length cap L w (fun W x hb => (nrm1_any s x S w0 W (h.next hb)).mono fun e w' he => ⟨he.1, below3 hb he.2⟩) (Nat.le_refl _) (by omega) hg hc).mono ?_
    rintro e w' ⟨rfl, hb⟩
    exact ⟨by rw [ixI_by], hb⟩
theorem met_any (s : Ses) (S : Nat) (w0 w : World) (h : BX w0 w S (sesA s) 43) (g n c : Nat) (L : List Ses) (hs : SAt w (some ⟨g, 0, none⟩) n L) (hg : g < w.heap.size) (hn : n ≤ 1000000) :
    Calls Tryz.prog 377 #[.slice (some ⟨g, 0, none⟩) n c, .func (.func 378) #[] #[.pointer (some ⟨S, 0, none⟩)]] w (fun e w' => e = .returned (.bool (L.any (metS s))) ∧ Below w.heap.size w w') := by
  have hl := hs.1
  refine (AnyQ.slices_ContainsFunc Tryz.laysContainsSes 6 Tryz.sesAgg Tryz.sesSize sesC sesC_len (metS s) 378 #[.pointer (some ⟨S, 0, none⟩)] (enters_of Tryz.func378 (by kernel_rfl) rfl) g 0 n c L w (fun W x hb => (nrm2_any s x S w0 W (h.next hb)).mono fun e w' he => ⟨he.1, below3 hb he.2⟩) (by omega) (by omega) hg ?_).mono ?_
  · intro j hj i v hv
    rcases hs.2.2 with h0 | ⟨b, off, he, hc⟩
    · omega
    · cases he
      rw [getElem!_pos L j hj] at hv
      have := hc j _ (List.getElem?_eq_getElem hj) i v hv
      rw [Nat.zero_add] at this ⊢
      exact this
  · rintro e w' ⟨rfl, hb⟩
    exact ⟨by rw [List.take_of_length_le (by omega)], hb⟩
end Go.Proofs.YtcifdllbnbhcdaaGreatDoor
namespace Go.Proofs.YtcifdllbnbhcdaaGreatDoor
open Go.RowKit Go.Sort
theorem idx_props {L : List Ses} {s : Ses} (h : idxS L s < L.length) : (∀ i u, i < idxS L s → L[i]? = some u → alkS s u = false) ∧ ∃ t, L[idxS L s]? = some t ∧ alkS s t = true := by
  refine ⟨fun i u hi hu => ?_, L[idxS L s], List.getElem?_eq_getElem h, List.findIdx_getElem (w := h)⟩
  obtain ⟨hl, rfl⟩ := List.getElem?_eq_some_iff.1 hu
  have := List.not_of_lt_findIdx (p := fun t => alkS s t) (xs := L) hi
  simpa using this
theorem add_none {L : List Ses} {s : Ses} (h : ¬ idxS L s < L.length) : addS L s = L ++ [s] := by unfold addS; rw [if_neg h]
theorem joinS_le (xs : List Ses) : (joinS xs).length ≤ xs.length := by have := joinS_len xs []; unfold joinS; simpa using this
set_option maxRecDepth 100000 in
set_option maxHeartbeats 8000000 in
theorem normal_any (a : Option Addr) (n c : Nat) (xs : List Ses) (m : Int) (w : World) (hx : SAt w a n xs) (hs : SOk xs) (hT : Tz w) (hn : n ≤ 1000000) :
    Calls Tryz.prog 330 #[.slice a n c, .int .i64 m] w (ResS (nrmS m xs) w) := by
  have n1 := hx.2.1
  have hl := hx.1
  have HX := Lib.hid hx
  have HS := Lib.hid hs
  have HT := Lib.hid hT
  clear hx hs hT
  have hmf : ∀ (fn : Fn) (first cap : Array Value) (w : World), (Instr.makeFunc fn first cap).run Tryz.prog w = .ok (.func fn first cap) w := fun _ _ _ _ => rfl
  by_cases hm : m < 1 ∨ 20 < m
  · have HF : Hid (nrmS m xs = (3, [])) := Lib.hid (by unfold nrmS; rw [if_pos hm])
    rcases (show m < 1 ∨ (1 ≤ m ∧ 20 < m) by omega) with h | ⟨h, h'⟩
    all_goals
      clear hm
      go_enter Tryz.func330, Tryz.ntmps330
      go_wp2
      go_ret2
      exact ResS.err HF.out (Below.refl _ _)
  have m1 : 1 ≤ m := by omega
  have m2 : m ≤ 20 := by omega
  have HV : Hid (nrmS m xs = if chkL m xs ≠ 0 then (chkL m xs, []) else if ¬ NoMet (joinS xs) then (11, []) else if 96 < (joinS xs).length then (2, []) else (0, srtS (joinS xs))) := Lib.hid (by unfold nrmS; rw [if_neg hm])
  clear hm
  go_enter Tryz.func330, Tryz.ntmps330
  go_wp2_with fail
  go_loopw [23] (fun i wr => ∃ j : Nat, j ≤ n ∧ i = .int .i64 j ∧ Hid (chkL m (xs.drop j) = chkL m xs) ∧ Hid (∀ (i : Nat) (s : Ses), i < j → xs[i]? = some s → chkS s m = 0) ∧ Hid (Below w.heap.size w wr)) (fun i _ => n - (intOf i).toNat)
  case atStart => exact ⟨0, by omega, rfl, Lib.hid rfl, Lib.hid (fun i s h => by omega), Lib.hid (Below.refl _ _)⟩
  case round =>
    obtain ⟨j, hj, rfl, HC, HA, HB⟩ := hrel
    by_cases hlt : j < n
    · obtain ⟨b1, o1, s1, rfl, g1, z1, x0, x1, x2, x3, x4, x5⟩ := SAt.cells (HX.out.below HB.out) hlt
      have HG := Lib.hid g1
      have HSS := Lib.hid (HS.out s1 (List.mem_of_getElem? g1))
      have HD := Lib.hid (chkL_drop (n := m) g1)
      have k1 : (j : Int) < n := by omega
      have k2 : (0 : Int) ≤ j := by omega
      clear g1
      have HK : Hid (chkS s1 m = chkE s1.1 s1.2.1 s1.2.2.1 s1.2.2.2.1 s1.2.2.2.2.1 s1.2.2.2.2.2 m) := Lib.hid rfl
      have SN := Lib.hid (fun W => check_any s1.1 s1.2.1 s1.2.2.1 s1.2.2.2.1 s1.2.2.2.2.1 s1.2.2.2.2.2 m HSS.out.1.1 HSS.out.1.2 HSS.out.2.1 HSS.out.2.2 W)
      rw [← HK.out] at SN
      have HBa := Lib.hid (fun O : Obj => HB.out.alloc HB.out.size O)
      go_wp2_with fail
      refine (SN.out _).mono ?_
      rintro en w2 ⟨rfl, hb2⟩
      have HB2 := Lib.hid (below3 (HBa.out _) hb2)
      clear hb2
      by_cases hz : chkS s1 m = 0
      · have HC2 : Hid (chkL m (xs.drop (j + 1)) = chkL m xs) := Lib.hid (by rw [← HC.out, HD.out, if_pos hz])
        have HA2 : Hid (∀ (i : Nat) (s : Ses), i < j + 1 → xs[i]? = some s → chkS s m = 0) := Lib.hid (fun i s h h2 => by
          rcases Nat.lt_or_ge i j with h3 | h3
          · exact HA.out i s h3 h2
          · have : i = j := by omega
            subst this
            rw [HG.out] at h2; cases h2; exact hz)
        have hd : (chkS s1 m != 0) = false := by simpa using hz
        clear hz
        generalize chkS s1 m = e1 at *
        go_wp2_with fail
        go_roundw
        case rel => exact ⟨j + 1, by omega, by go_num, HC2, HA2, HB2⟩
        case measure => simp [intOf]; omega
      · have HF : Hid (nrmS m xs = (chkS s1 m, [])) := Lib.hid (by
          have : chkL m xs = chkS s1 m := by rw [← HC.out, HD.out, if_neg hz]
          rw [HV.out, this, if_pos hz])
        have hd : (chkS s1 m != 0) = true := by simpa using hz
        clear hz
        generalize chkS s1 m = e1 at *
        go_wp2_with fail
        go_ret2
        exact ResS.err HF.out HB2.out
    · obtain rfl : n = j := by omega
      have HOK : Hid (∀ s ∈ xs, chkS s m = 0) := Lib.hid (fun s h => by
        obtain ⟨i, hi, rfl⟩ := List.getElem_of_mem h
        exact HA.out i _ (by omega) (List.getElem?_eq_getElem hi))
      have HV2 : Hid (nrmS m xs = if ¬ NoMet (joinS xs) then (11, []) else if 96 < (joinS xs).length then (2, []) else (0, srtS (joinS xs))) := Lib.hid (by
        have h0 : chkL m xs = 0 := by rw [← HC.out, List.drop_eq_nil_of_le (by omega), chkL]
        rw [HV.out, h0]; simp)
      have HW : Hid (∀ t ∈ joinS xs, wsB t.2.1 20 = true) := Lib.hid (joinS_ws xs [] (fun t h => by simp at h) (fun s h => (chk_week (HOK.out s h)).2.2.2))
      clear HV HC HA
      obtain ⟨wo, rfl⟩ : ∃ wo : World, wo = wr := ⟨_, rfl⟩
      go_wp2_with fail
      go_loopw [9, 36] (fun v i wr => ∃ j : Nat, j ≤ n ∧ i = .int .i64 j ∧ Hid (SRow wr w.heap.size v (joinS (xs.take j))) ∧ Hid (Below w.heap.size w wr)) (fun _ i _ => n - (intOf i).toNat)
      case atStart => exact ⟨0, by omega, rfl, Lib.hid (by simp [joinS]; exact World.ownsRow_nil _ _ _ _), HB⟩
      case round =>
        clear HB
        obtain ⟨j, hj, rfl, HR, HB⟩ := hrel
        by_cases hlt : j < n
        · obtain ⟨b1, o1, s1, rfl, g1, z1, x0, x1, x2, x3, x4, x5⟩ := SAt.cells (HX.out.below HB.out) hlt
          have hJ := joinS_le (xs.take j)
          rw [List.length_take] at hJ
          have HJ : Hid (joinS (xs.take (j + 1)) = addS (joinS (xs.take j)) s1) := Lib.hid (joinS_take g1)
          have hJ2 : (joinS (xs.take j)).length ≤ j := by omega
          clear g1 hJ
          generalize joinS (xs.take j) = L at *
          obtain ⟨ao, co, rfl, hco, _⟩ := HR.out.sat
          have k1 : (j : Int) < n := by omega
          have k2 : (0 : Int) ≤ j := by omega
          have HB1 := Lib.hid (BX.mk0 (vs := sesA s1) (T := 43) wr)
          go_upto_region 14 with fail
          change Hid (BX wr (wr.alloc (.cells #[.string (arr s1.1), .int .i64 s1.2.1, .int .i64 s1.2.2.1, .int .i64 s1.2.2.2.1, .int .i64 s1.2.2.2.2.1, .string (arr s1.2.2.2.2.2)] 43)) wr.heap.size _ _) at HB1
          generalize wr.alloc (.cells #[.string (arr s1.1), .int .i64 s1.2.1, .int .i64 s1.2.2.1, .int .i64 s1.2.2.2.1, .int .i64 s1.2.2.2.2.1, .string (arr s1.2.2.2.2.2)] 43) = wb at *
          obtain ⟨S, hS⟩ : ∃ S, S = wr.heap.size := ⟨_, rfl⟩
          rw [← hS] at HB1 ⊢
          have HSS : Hid (S = wr.heap.size) := Lib.hid hS
          clear hS x0 x1 x2 x3 x4 x5
          have HR := Lib.hid (HR.out.below HB1.out.bl)
          have HB := Lib.hid (below3 HB.out HB1.out.bl)
          have IX := Lib.hid (idx_any s1 S wr wb HB1.out _ L w.heap.size HR.out (by omega))
          by_cases hi : idxS L s1 < L.length
          · have HIE : Hid (ixI L s1 = (idxS L s1 : Int)) := Lib.hid (by unfold ixI; rw [if_pos hi])
            obtain ⟨hp0, t1, ht1, hp2⟩ := idx_props hi
            rw [HIE.out] at IX
            have HN : Hid (joinS (xs.take (j + 1)) = L.set (idxS L s1) (t1.1, bits .or .i64 t1.2.1 s1.2.1, t1.2.2)) := Lib.hid (by rw [HJ.out]; exact addS_hit hp0 ht1 hp2)
            have HT1 := Lib.hid ht1
            clear HIE hp0 hp2 ht1
            generalize idxS L s1 = q at *
            go_wp2_with fail
            refine IX.out.mono ?_
            rintro en w2 ⟨rfl, hb2⟩
            have HR := Lib.hid (HR.out.below hb2)
            have HB := Lib.hid (below3 HB.out hb2)
            have HB1 := Lib.hid (HB1.out.next hb2)
            clear hb2 IX
            obtain ⟨g, cap, he, hcap, hBg, hg, hcell⟩ := SRow.open_ HR.out (by omega)
            cases he
            obtain ⟨y0, y1, y2, y3, y4, y5, yf⟩ := hcell q t1 HT1.out
            have yf := yf 1
            obtain ⟨_, z1', _, _, _, _⟩ := HB1.out.six
            have hq1 : (q : Int) < (L.length : Int) := by omega
            have hq0 : (0 : Int) ≤ q := by omega
            have HST := Lib.hid (SRow.store HR.out HT1.out (bits .or .i64 t1.2.1 s1.2.1))
            have HBS := Lib.hid (below_drw (HB.out.setCell (p := ⟨g, q * 6 + 1, none⟩) hBg (.int .i64 (bits .or .i64 t1.2.1 s1.2.1))))
            clear hcell y0 y2 y3 y4 y5
            go_wp2_with fail
            go_region
            all_goals (
              go_wp2_with fail
              go_roundw
              case rel => exact ⟨j + 1, by omega, by go_num, by rw [HN.out]; exact HST, HBS⟩
              case measure => simp [intOf]; omega)
          · have HIE : Hid (ixI L s1 = -1) := Lib.hid (by unfold ixI; rw [if_neg hi])
            rw [HIE.out] at IX
            have HN : Hid (joinS (xs.take (j + 1)) = L ++ [s1]) := Lib.hid (by rw [HJ.out]; exact add_none hi)
            clear HIE hi
            go_wp2_with fail
            refine IX.out.mono ?_
            rintro en w2 ⟨rfl, hb2⟩
            have HR := Lib.hid (HR.out.below hb2)
            have HB := Lib.hid (below3 HB.out hb2)
            have HB1 := Lib.hid (HB1.out.next hb2)
            have hbs := HB.out.size
            clear hb2 IX
            obtain ⟨x0, x1, x2, x3, x4, x5⟩ := HB1.out.six
            go_wp2_with (at_builtin; refine wpList_app elemSes encSes rfl _ _ rfl w.heap.size _ L rfl (HR.out.below ((Below.refl _ _).alloc (Nat.le_refl _) _)) _ _ _ [s1] rfl (KAt.one w2 s1 _) (by simp <;> omega) (by simp; omega) ?_)
            intro v6 w6 hr6 hb6 hg6 ho6
            have HRF : Hid (SRow w6 w.heap.size v6 (joinS (xs.take (j + 1)))) := Lib.hid (by rw [HN.out]; exact hr6)
            have HBF := Lib.hid ((HB.out.alloc hbs _).trans hb6)
            clear hr6 hb6 hg6 ho6
            go_wp2_with fail
            go_roundw
            case rel => exact ⟨j + 1, by omega, by go_num, HRF, HBF⟩
            case measure => simp [intOf]; omega
        · obtain rfl : n = j := by omega
          have HRM : Hid (SRow wr w.heap.size _ (joinS xs)) := Lib.hid (by have := HR.out; rw [List.take_of_length_le (by omega)] at this; exact this)
          have hml := joinS_le xs
          have HNM := Lib.hid (NoMet.eq (xs := joinS xs))
          clear HR
          generalize joinS xs = M at *
          obtain ⟨am, cm, rfl, hcm, hsm⟩ := HRM.out.sat
          have HSM := Lib.hid hsm
          clear hsm
          have hmc : (M.length : Int) ≤ cm := by omega
          obtain ⟨wp, rfl⟩ : ∃ wp : World, wp = wr := ⟨_, rfl⟩
          go_wp2_with fail
          go_loopw [65] (fun i wr => ∃ j : Nat, j ≤ M.length ∧ i = .int .i64 j ∧ Hid (∀ (i k : Nat) (s t : Ses), i < j → M[i]? = some s → M[k]? = some t → k < i → metS s t = false) ∧ Hid (Below wp.heap.size wp wr)) (fun i _ => M.length - (intOf i).toNat)
          case atStart => exact ⟨0, by omega, rfl, Lib.hid (fun i k s t h => by omega), Lib.hid (Below.refl _ _)⟩
          case round =>
            obtain ⟨i, hi, rfl, HA, HC⟩ := hrel
            by_cases hli : i < M.length
            · obtain ⟨g, o1, s1, rfl, g1, z1, x0, x1, x2, x3, x4, x5⟩ := SAt.cells (HSM.out.below HC.out) hli
              have ho : o1 = 0 := by
                obtain ⟨_, _, he, _⟩ := HRM.out.open_ (by omega)
                cases he; rfl
              subst ho
              simp only [Nat.zero_add] at x0 x1 x2 x3 x4 x5
              have HG1 := Lib.hid g1
              have k1 : (i : Int) < M.length := by omega
              have k2 : (0 : Int) ≤ i := by omega
              have k3 : (i : Int) ≤ cm := by omega
              have HTK := Lib.hid ((HSM.out.below HC.out).take (i := i) (by omega))
              clear g1
              have HB1 := Lib.hid (BX.mk0 (vs := sesA s1) (T := 43) wr)
              go_upto_region 22 with fail
              change Hid (BX wr (wr.alloc (.cells #[.string (arr s1.1), .int .i64 s1.2.1, .int .i64 s1.2.2.1, .int .i64 s1.2.2.2.1, .int .i64 s1.2.2.2.2.1, .string (arr s1.2.2.2.2.2)] 43)) wr.heap.size _ _) at HB1
              generalize wr.alloc (.cells #[.string (arr s1.1), .int .i64 s1.2.1, .int .i64 s1.2.2.1, .int .i64 s1.2.2.2.1, .int .i64 s1.2.2.2.2.1, .string (arr s1.2.2.2.2.2)] 43) = wb at *
              obtain ⟨S, hS⟩ : ∃ S, S = wr.heap.size := ⟨_, rfl⟩
              rw [← hS] at HB1 ⊢
              clear hS x0 x1 x2 x3 x4 x5
              have MT := Lib.hid (fun c' => met_any s1 S wr wb HB1.out g i c' (M.take i) (HTK.out.below HB1.out.bl) (Nat.lt_of_lt_of_le z1 HB1.out.bl.size) (by omega))
              have HCB := Lib.hid (below3 HC.out HB1.out.bl)
              go_wp2_with fail
              refine (MT.out _).mono ?_
              rintro en w2 ⟨rfl, hb2⟩
              have HC2 := Lib.hid (below3 HCB.out hb2)
              clear hb2 MT
              cases hany : (M.take i).any (metS s1)
              · have HA2 : Hid (∀ (i' k : Nat) (s t : Ses), i' < i + 1 → M[i']? = some s → M[k]? = some t → k < i' → metS s t = false) := Lib.hid (fun i' k s t h1 h2 h3 h4 => by
                  rcases Nat.lt_or_ge i' i with h5 | h5
                  · exact HA.out i' k s t h5 h2 h3 h4
                  · have : i' = i := by omega
                    subst this
                    rw [HG1.out] at h2; cases h2
                    have hk : (M.take i')[k]? = some t := by rw [List.getElem?_take, if_pos h4]; exact h3
                    have := List.any_eq_false.1 hany t (List.mem_of_getElem? hk)
                    simpa using this)
                clear hany
                go_wp2_with fail
                go_roundw
                case rel => exact ⟨i + 1, by omega, by go_num, HA2, HC2⟩
                case measure => simp [intOf]; omega
              · have HF : Hid (nrmS m xs = (11, [])) := Lib.hid (by
                  obtain ⟨t, ht, hm⟩ := List.any_eq_true.1 hany
                  obtain ⟨k, hk, rfl⟩ := List.getElem_of_mem ht
                  rw [List.length_take] at hk
                  have hk2 : M[k]? = some (M.take i)[k] := by rw [List.getElem_take]; exact List.getElem?_eq_getElem (by omega)
                  rw [HV2.out, if_pos (not_nomet HG1.out hk2 (by omega) hm)])
                clear hany
                go_wp2_with fail
                go_ret2
                exact ResS.err HF.out (below3 HB.out HC2.out)
            · obtain rfl : i = M.length := by omega
              have HNOM : Hid (NoMet M) := Lib.hid (nomet_of (fun i k s t h1 h2 h3 => HA.out i k s t (List.getElem?_eq_some_iff.1 h1).1 h1 h2 h3))
              have HV3 : Hid (nrmS m xs = if 96 < M.length then (2, []) else (0, srtS M)) := Lib.hid (by rw [HV2.out, if_neg (fun h => h HNOM.out)])
              have HB9 := Lib.hid (below3 HB.out HC.out)
              by_cases hbig : 96 < M.length
              · have HF : Hid (nrmS m xs = (2, [])) := Lib.hid (by rw [HV3.out, if_pos hbig])
                go_wp2_with fail
                go_ret2
                exact ResS.err HF.out HB9.out
              have HF : Hid (nrmS m xs = (0, srtS M)) := Lib.hid (by rw [HV3.out, if_neg hbig])
              have SO := Lib.hid (sorted_any w wr HB9.out HT.out _ M (HRM.out.below HC.out) (by omega))
              have HEQ := Lib.hid (fun (ys : List Ses) (h1 : ys.Perm M) (h2 : ys.Pairwise (fun a b => ltP b a = false)) => srt_unique h1 h2 (HNM.out HNOM.out HW.out))
              clear HV2 HV3 HA
              go_wp2_with fail
              refine SO.out.mono ?_
              rintro en w4 ⟨rfl, ys, h1, h2, h3, h4⟩
              have H3 := Lib.hid h3
              have H4 := Lib.hid h4
              have HY := Lib.hid (HEQ.out ys h1 h2)
              clear h1 h2 h3 h4 SO
              go_wp2_with fail
              go_ret2
              exact ResS.mk HF.out (by rw [← HY.out]; exact H3.out) H4.out
end Go.Proofs.YtcifdllbnbhcdaaGreatDoor
