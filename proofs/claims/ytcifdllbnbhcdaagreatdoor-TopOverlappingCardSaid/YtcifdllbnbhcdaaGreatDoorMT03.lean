/- Texts T5, T6, joined: walks and laws. -/
import Derived.Test.YtcifdllbnbhcdaaGreatDoorMK05
import Derived.Test.YtcifdllbnbhcdaaGreatDoorMR05
import Derived.Test.YtcifdllbnbhcdaaGreatDoorMT02
import Derived.Test.YtcifdllbnbhcdaaGreatDoorMV01
import Derived.Test.YtcifdllbnbhcdaaGreatDoorMV11
set_option linter.unusedSimpArgs false
set_option linter.unusedVariables false
namespace Go.Proofs.YtcifdllbnbhcdaaGreatDoor.Rc
open Go.RowKit TT
abbrev zS : Value := .string ⟨#[]⟩
def zeC : List Value := [zS, .int .i64 0, .bool false, .int .i64 0, .int .i64 0, .int .i64 0, .int .i64 0, .slice none 0 0, .slice none 0 0, .int .i64 0, .int .i64 0, zS, zS]
def evC (u : Value) (L : List Int) (a : Option Addr) (c : Nat) (b : Option Addr) (q : Nat) (x y : Int) (sm : Value) : List Value := [u, .int .i64 1, .bool false, .int .i64 (ofF L), .int .i64 (ofL L), .int .i64 (ofEv L), .int .i64 (ofK L), .slice a (ofX L).length c, .slice b (ofY L).length q, .int .i64 x, .int .i64 y, sm, zS]
def EvtP (L : List Int) (x y : Int) (w : World) (e : Ending) (w' : World) : Prop := Below w.heap.size w w' ∧ (ofE L ≠ 0 → e = .returned (.tuple #[.agg zeC.toArray, .bool false])) ∧ (ofE L = 0 → ∃ (u sm : ByteArray) (a : Option Addr) (c : Nat) (b : Option Addr) (q : Nat), e = .returned (.tuple #[.agg (evC (.string u) L a c b q x y (.string sm)).toArray, .bool true]) ∧ IntsAt w' a (ofX L).length (ofX L) ∧ IntsAt w' b (ofY L).length (ofY L))
def uidV (ch : UInt8) (j : Nat) : Value := .string (arr [ch] ++ ⟨#[64]⟩ ++ arr (Lib.itoa ((j : Int) + 1)))
def evV (Z S G : Nat) (ch : UInt8) (j0 : Nat) (L : List Int) (xa : Option Addr) (xc : Nat) (xb : Option Addr) (xq : Nat) (b m st ln : Int) (_ : Array Bool) (j : Nat) (v : Value) (_ : World) : Prop := match j with
  | 0 | 23 => v = .pointer (some ⟨S, 0, none⟩)
  | 1 | 24 => v = .string (arr [ch])
  | 2 => v = .string (arr [ch] ++ ⟨#[64]⟩)
  | 3 => v = .int .i64 ((j0 : Int) + 1)
  | 4 => v = .string (arr (Lib.itoa ((j0 : Int) + 1)))
  | 5 => v = uidV ch j0
  | 6 => v = .int .i64 1
  | 7 => v = .agg #[.int .i64 (ofF L), .int .i64 (ofL L), .int .i64 (ofEv L), .int .i64 (ofK L), .slice xa (ofX L).length xc, .slice xb (ofY L).length xq]
  | 8 => v = .pointer (some ⟨G, 2, none⟩)
  | 9 => v = .int .i64 b
  | 10 | 17 => v = .pointer (some ⟨S, 1, none⟩)
  | 11 => v = .pointer (some ⟨S, 3, none⟩)
  | 12 => v = .int .i64 st
  | 13 | 20 => v = .pointer (some ⟨G, 3, none⟩)
  | 14 | 21 => v = .int .i64 m
  | 15 => v = .int .i64 (st * m)
  | 16 => v = .int .i64 (b + st * m)
  | 18 => v = .pointer (some ⟨S, 4, none⟩)
  | 19 => v = .int .i64 ln
  | 22 => v = .int .i64 (ln * m)
  | 25 => v = .pointer (some ⟨S, 5, none⟩)
  | 26 => v = zS
  | 27 => v = .agg (evC (uidV ch j0) L xa xc xb xq (b + st * m) (ln * m) (.string (arr [ch]))).toArray
  | 28 => True
  | _ => v = .bool true
def evS (Z : Nat) (cs : List Value) (w6 : World) (L : Array Bool) (W : World) : Prop := (¬ L[28]? = some true → Below w6.heap.size w6 W) ∧ (L[28]? = some true → ∃ W0, Below w6.heap.size w6 W0 ∧ W = W0.setCells Z 0 cs)
theorem evS_keep {Z : Nat} {cs : List Value} {w6 W : World} {L : Array Bool} {i : Nat} (hi : i ≠ 28) (h : evS Z cs w6 L W) : evS Z cs w6 (L.setIfInBounds i true) W := by
  unfold evS at h ⊢
  rw [Array.getElem?_setIfInBounds_ne hi]
  exact h
theorem evS_next {Z : Nat} {cs : List Value} {w6 W W' : World} {L : Array Bool} {i : Nat} (hi : i ≠ 28) (hl : ¬ L[28]? = some true) (hb : Below W.heap.size W W') (h : evS Z cs w6 L W) : evS Z cs w6 (L.setIfInBounds i true) W' := by
  unfold evS at h ⊢
  rw [Array.getElem?_setIfInBounds_ne hi]
  exact ⟨fun hn => below3 (h.1 hn) hb, fun hn => absurd hn hl⟩
theorem mu_facts {d s b m ws dy st ln : Int} {n : Nat} (h : GrdOk d s b m) (ht : TimOk n d s ws dy st ln) : IntKind.i64.wrap (st * m) = st * m ∧ IntKind.i64.wrap (b + st * m) = b + st * m ∧ IntKind.i64.wrap (ln * m) = ln * m := by
  obtain ⟨h1, h2, h3, h4, h5, h6, h7⟩ := h
  obtain ⟨q1, q2, q3, q4, q5, q6, q7⟩ := ht
  have : (0 ≤ st * m ∧ st * m ≤ 480) ∧ (0 ≤ ln * m ∧ ln * m ≤ 480) := by rcases h7 with rfl | rfl | rfl <;> omega
  exact ⟨IntWalk.i64_in _ (by omega), IntWalk.i64_in _ (by omega), IntWalk.i64_in _ (by omega)⟩
theorem build_ev (u sm : ByteArray) (x1 x2 x3 x4 x y : Int) (xa : Option Addr) (xn xc : Nat) (ya : Option Addr) (yn yc : Nat) (W : World) : (Instr.build 39 #[(0, .string u), (1, .int .i64 1), (3, .agg #[.int .i64 x1, .int .i64 x2, .int .i64 x3, .int .i64 x4, .slice xa xn xc, .slice ya yn yc]), (4, .int .i64 x), (5, .int .i64 y), (6, .string sm), (7, zS)]).run Tryz.prog W = .ok (.agg #[.string u, .int .i64 1, .bool false, .int .i64 x1, .int .i64 x2, .int .i64 x3, .int .i64 x4, .slice xa xn xc, .slice ya yn yc, .int .i64 x, .int .i64 y, .string sm, zS]) W := by kernel_rfl
theorem ze_int : ∀ k : Nat, ∀ x : Int, zeC[k]? = some (.int .i64 x) → x = 0
  | 0, x, h | 2, x, h | 7, x, h | 8, x, h | 11, x, h | 12, x, h => by simp [zeC] at h
  | 1, x, h | 3, x, h | 4, x, h | 5, x, h | 6, x, h | 9, x, h | 10, x, h => by simp [zeC] at h; omega
  | k + 13, x, h => by simp [zeC] at h
theorem ints_ev {w : World} {Z n : Nat} {a : Option Addr} {xs : List Int} {cs : List Value} (h : IntsAt w a n xs) (hZ : At w Z zeC) (hx : ∀ x ∈ xs, x ≠ 0) (hc : cs.length = 13) : IntsAt (w.setCells Z 0 cs) a n xs := by
  obtain ⟨h1, h3, h2⟩ := h
  refine ⟨h1, h3, ?_⟩
  rcases h2 with h2 | ⟨b, off, ha, hi⟩
  · exact Or.inl h2
  · refine Or.inr ⟨b, off, ha, fun i hin => ?_⟩
    rw [World.cell?_setCells_out Z cs 0 w ⟨b, off + i, none⟩ (fun hb _ => ?_)]
    · exact hi i hin
    · right
      show 0 + cs.length ≤ off + i
      rw [hc]
      refine Nat.le_of_not_lt (fun hk => ?_)
      have hb : b = Z := hb
      subst hb
      have hlen : off + i < zeC.length := by show _ < 13; omega
      have h5 := hZ (off + i) _ (List.getElem?_eq_getElem hlen)
      rw [hi i hin] at h5
      have h6 := ze_int (off + i) _ (by rw [List.getElem?_eq_getElem hlen, ← Option.some.inj h5])
      have hm : xs.getD i 0 ∈ xs := by
        rw [List.getD_eq_getElem?_getD, List.getElem?_eq_getElem (by omega), Option.getD_some]
        exact List.getElem_mem _
      exact hx _ hm h6
theorem exc_pos {L : List Int} (h : ofE L = 0) (h0 : ∀ x ∈ L, 0 < x) : (∀ x ∈ ofX L, x ≠ 0) ∧ (∀ x ∈ ofY L, x ≠ 0) := by
  obtain ⟨h1, _, h3, _⟩ := ofE_inv h
  have hf := h0 _ (mem_fst h1).1
  constructor
  · intro x hx
    simp only [ofX, h, if_true] at hx
    have := (filt_reg hx).1
    omega
  · intro x hx
    simp only [ofY, h, if_true] at hx
    have := (filt_reg hx).1
    omega
theorem wp_build {P : Program} {op : Oper} {a : Act} {w : World} {K : Act → World → Prop} {Q : Exit → Act → World → Prop} {t : TypeId} {parts : Array (Nat × Operand)} {ps : Array (Nat × Value)} {v : Value} (ho : op.op = .build t parts) (hx : (parts.map fun (i, x) => (i, a.eval x)) = ps) (hb : (Instr.build t ps).run P w = .ok v w) (h : K (a.put op.dst v) w) : op.wp P a w K Q := by
  unfold Oper.wp execOp
  simp only [ho, hx, Sem.run_bind, Sem.run_pure, Result.andThen_ok, hb]
  exact h
theorem ci25 (args : Array Value) (w : World) : (callFunc 25 args).run Tryz.prog w = .ok (.enter 25 args) w := by kernel_rfl
theorem bits_none (ws : Int) (h : ∀ q, q < 8 → bitT ws q = false) (h2 : ws < 256) : ws < 1 := by
  have H0 := h 0 (by omega)
  have H1 := h 1 (by omega)
  have H2 := h 2 (by omega)
  have H3 := h 3 (by omega)
  have H4 := h 4 (by omega)
  have H5 := h 5 (by omega)
  have H6 := h 6 (by omega)
  have H7 := h 7 (by omega)
  simp only [bitT, decide_eq_false_iff_not, Int.reducePow] at H0 H1 H2 H3 H4 H5 H6 H7
  omega
set_option maxRecDepth 100000 in
set_option maxHeartbeats 16000000 in
theorem evt_any (d s b m f k : Int) (hs : List Int) (a0 : Option Addr) (n0 c0 : Nat) (kn : Nat) (ch : UInt8) (ws dy st ln : Int) (w : World) (hg : GrdOk d s b m) (hI : IntsAt w a0 n0 hs) (hf : 0 < f) (ht : termE f k hs = 0) (hk : k = kn) (k1 : 1 ≤ kn) (k8 : kn ≤ 8) (hch : codeOk [ch] = true) (hto : TimOk kn d s ws dy st ln) (hE : Env w) :
    Calls Tryz.prog 10 #[grdV d s b m, .agg #[.int .i64 f, .int .i64 k, .slice a0 n0 c0], .agg #[.string (arr [ch]), .int .i64 ws, .int .i64 dy, .int .i64 st, .int .i64 ln, zS], .int .i64 1] w (EvtP (daysL f k hs ws dy 20) (b + st * m) (ln * m) w) := by
  have hp8 : (2 : Int) ^ kn ≤ 256 := by
    have hn : kn = 1 ∨ kn = 2 ∨ kn = 3 ∨ kn = 4 ∨ kn = 5 ∨ kn = 6 ∨ kn = 7 ∨ kn = 8 := by omega
    rcases hn with rfl | rfl | rfl | rfl | rfl | rfl | rfl | rfl <;> decide
  have hw1 := hto.w1
  have hw2 : ws < 256 := by have := hto.w2; omega
  have HI := Lib.hid hI
  have Hf := Lib.hid hf
  have HE := Lib.hid hE
  have HG := Lib.hid hg
  have HT := Lib.hid hto
  subst hk
  have hco := fun W => code_l [ch] (by simp) W
  rw [hch] at hco
  have htm := fun (W : World) (h : Below w.heap.size w W) => by
    have := term_any f (kn : Int) hs a0 n0 c0 W (HI.out.below h)
    rw [ht] at this
    exact this
  have HTM := Lib.hid htm
  clear hI hE hg hto htm ht hf
  have HM := ((((Mem.start w).alloc [.int .i64 d, .int .i64 s, .int .i64 b, .int .i64 m] 28).alloc [.int .i64 f, .int .i64 kn, .slice a0 n0 c0] 31).alloc [.string (arr [ch]), .int .i64 ws, .int .i64 dy, .int .i64 st, .int .i64 ln, zS] 43).alloc zeC 39
  simp only [World.size_alloc] at HM
  go_enter Tryz.func10, Tryz.ntmps10
  go_wp2_with fail
  refine (vgrid_any d s b m HG.out _).mono ?_
  rintro e w1 ⟨rfl, hb⟩
  replace HM := HM.below hb
  clear hb
  obtain ⟨Z, hZ⟩ : ∃ n : Nat, n = w.heap.size + 1 + 1 + 1 := ⟨_, rfl⟩
  obtain ⟨S, hS⟩ : ∃ n : Nat, n = w.heap.size + 1 + 1 := ⟨_, rfl⟩
  obtain ⟨T, hT⟩ : ∃ n : Nat, n = w.heap.size + 1 := ⟨_, rfl⟩
  obtain ⟨G, hG⟩ : ∃ n : Nat, n = w.heap.size := ⟨_, rfl⟩
  rw [← hZ, ← hS, ← hT, ← hG] at HM
  rw [← hZ, ← hS, ← hT, ← hG]
  clear hZ hS hT hG
  have C := HM.facts
  simp only [facts, cellsAre, lts, apart, Nat.zero_add, Nat.reduceAdd, and_true] at C
  go_wp2_with fail
  refine (HTM.out _ HM.bl).mono ?_
  rintro e w2 ⟨rfl, hb⟩
  replace HM := HM.below hb
  clear hb C
  have C := HM.facts
  simp only [facts, cellsAre, lts, apart, Nat.zero_add, Nat.reduceAdd, and_true] at C
  go_wp2_with (go_at_call 22; refine (hco _).mono ?_; rintro e w' ⟨rfl, rfl⟩)
  refine (fits_any kn d s b m ws dy st ln HG.out k1 k8 HT.out _).mono ?_
  rintro e w3 ⟨rfl, hb⟩
  replace HM := HM.below hb
  clear hb C
  have C := HM.facts
  simp only [facts, cellsAre, lts, apart, Nat.zero_add, Nat.reduceAdd, and_true] at C
  go_wp2_with fail
  refine (days_ints ws dy st ln f kn hs a0 n0 c0 _ (HI.out.below HM.bl) (by omega)).mono ?_
  rintro e w4 ⟨da, dc, rfl, hDI, hb⟩
  replace HM := HM.below hb
  clear hb C
  have C := HM.facts
  simp only [facts, cellsAre, lts, apart, Nat.zero_add, Nat.reduceAdd, and_true] at C
  go_wp2_with fail
  have hL0 : Hid (∀ x ∈ daysL f (kn : Int) hs ws dy 20, 0 < x) := Lib.hid (fun x hx => by
    obtain ⟨j, _, _, _, rfl⟩ := (daysL_spec f (kn : Int) hs ws dy 20).1 x hx
    have := HT.out.y0
    have := Hf.out
    omega)
  generalize daysL f (kn : Int) hs ws dy 20 = L at *
  refine (of_any L da L.length dc _ hDI).mono ?_
  rintro e w5 ⟨xa, xc, xb, xq, rfl, hX, hY, hb⟩
  replace HM := HM.below hb
  clear hb hDI C
  have C := HM.facts
  simp only [facts, cellsAre, lts, apart, Nat.zero_add, Nat.reduceAdd, and_true] at C
  by_cases hof : ofE L = 0
  rotate_left
  · have k0 : (ofE L != 0) = true := by rw [bne_iff_ne]; exact hof
    have HOF := Lib.hid hof
    have C2 := HM.facts
    simp only [facts, cellsAre, lts, apart, zeC, Nat.zero_add, Nat.reduceAdd, and_true] at C2
    have F2 := HM.thaws
    simp only [thaws, Option.isSome_some, forall_const, and_true] at F2
    clear hof C
    go_wp2_with fail
    clear C2 F2
    replace HM := Mem.alloc ((((((((((((((HM.set 0 0 zS rfl rfl).set 0 1 (.int .i64 0) rfl rfl).set 0 2 (.bool false) rfl rfl).set 0 3 (.int .i64 0) rfl rfl).set 0 4 (.int .i64 0) rfl rfl).set 0 5 (.int .i64 0) rfl rfl).set 0 6 (.int .i64 0) rfl rfl).set 0 7 (.slice none 0 0) rfl rfl).set 0 8 (.slice none 0 0) rfl rfl).set 0 9 (.int .i64 0) rfl rfl).set 0 10 (.int .i64 0) rfl rfl).set 0 11 zS rfl rfl).set 0 12 zS rfl rfl)) [.int .i64 (ofF L), .int .i64 (ofL L), .int .i64 (ofEv L), .int .i64 (ofK L), .slice xa (ofX L).length xc, .slice xb (ofY L).length xq] 37
    replace HM := (HM.pick [1] (by decide) : Mem w _ [⟨Z, zeC, some 39⟩])
    refine bodyPost_ret (v := .tuple #[.agg zeC.toArray, .bool false]) (results_two Tryz.results10 rfl rfl (HM.loadV 0 rfl 0 13 39 (by kernel_rfl) rfl)) rfl ?_
    exact ⟨HM.bl, fun _ => rfl, fun h => absurd h HOF.out⟩
  · have k0 : (ofE L != 0) = false := by rw [bne_eq_false_iff_eq]; exact hof
    have HOF := Lib.hid hof
    have HX := Lib.hid hX
    have HY := Lib.hid hY
    clear hof hX hY
    go_wp2_with fail
    have HM5 := HM
    replace HM := HM.alloc [.int .i64 (ofF L), .int .i64 (ofL L), .int .i64 (ofEv L), .int .i64 (ofK L), .slice xa (ofX L).length xc, .slice xb (ofY L).length xq] 37
    obtain ⟨w6, hW, HM⟩ : ∃ W, W = _ ∧ Mem w W _ := ⟨_, rfl, HM⟩
    rw [← hW]
    obtain ⟨D, hD⟩ : ∃ n : Nat, n = w5.heap.size := ⟨_, rfl⟩
    rw [← hD] at HM ⊢
    have HX6 := HX.out.below (show Below w5.heap.size w5 w6 from hW ▸ bpush (b0 _) _)
    have HY6 := HY.out.below (show Below w5.heap.size w5 w6 from hW ▸ bpush (b0 _) _)
    have HX := Lib.hid HX6
    have HY := Lib.hid HY6
    clear hD hW C HM5 HX6 HY6
    have C := HM.facts
    simp only [facts, cellsAre, lts, apart, Nat.zero_add, Nat.reduceAdd, and_true] at C
    have F := HM.thaws
    simp only [thaws, Option.isSome_some, forall_const, and_true] at F
    go_loop [12] (fun i => ∃ j : Nat, j ≤ 7 ∧ i = .int .i64 ((j : Int) + 1) ∧ Hid (∀ q, q < j → bitT ws q = false)) (fun i => (8 - intOf i).toNat)
    case atStart => exact ⟨0, by omega, rfl, Lib.hid (fun q h => absurd h (Nat.not_lt_zero q))⟩
    case round =>
      obtain ⟨j, hj, rfl, HB⟩ := hrel
      have hbit := tbit_eq0 ws j (by omega) (by omega)
      have ej : (j : Int) + 1 - 1 = j := by omega
      by_cases hb : bitT ws j = true
      · rw [hb] at hbit
        simp only [Bool.not_true] at hbit
        clear HB
        go_wp2_with fail
        clear C F
        have HMS := Lib.hid HM
        have HE6 := Lib.hid (HE.out.below HM.bl)
        have hj64 : (j : Int) + 1 ≤ 9223372036854775807 := by omega
        have hit := itoa_le (n := (j : Int) + 1) (by omega) (by omega)
        have hsz1 : ¬ 9223372036854775807 < (arr [ch]).size + 1 := by rw [arr_size]; simp
        have hsz2 : ¬ 9223372036854775807 < (arr [ch]).size + 1 + (arr (Lib.itoa ((j : Int) + 1))).size := by rw [show (arr [ch]).size = 1 from by rw [arr_size]; rfl]; omega
        obtain ⟨hmu1, hmu2, hmu3⟩ := mu_facts HG.out HT.out
        refine wp_region_relG (N := 96) (evV Z S G ch j L xa xc xb xq b m st ln) (evS Z (evC (uidV ch j) L xa xc xb xq (b + st * m) (ln * m) (.string (arr [ch]))) w6) (by kernel_rfl) (by kernel_rfl) (by rfl) ⟨fun _ => bdrw (b0 w6), fun h => by simp at h⟩ (no_gd (by kernel_rfl)) ?_ ?_
        · intro i o L0 a' W ho hl hL hS hdf dep all fr dwn
          match i, ho with
            | 0, ho =>
              obtain rfl := so ho
              have f6 := fr 6 (by kernel_rfl)
              unfold Oper.wp
              simp [go_sem, f6]
              exact ⟨_, rfl, rfl, evS_keep (by decide) hS, fun j oj u _ _ _ _ hu => hu⟩
            | 1, ho =>
              obtain rfl := so ho
              have d0 := dv (dep 0 _ rfl (by kernel_rfl)) (fun _ h => h) rfl
              have hn : ¬ L0[28]? = some true := fun h => by have := dwn 28 _ rfl h 1 _ rfl (by kernel_rfl); rw [hl] at this; cases this
              have hB := hS.1 hn
              have hc := ((HM.at_ 2 rfl).below hB) 0 _ rfl
              unfold Oper.wp
              simp [go_sem, d0, hc]
              exact ⟨_, rfl, rfl, evS_keep (by decide) hS, fun j oj u _ _ _ _ hu => hu⟩
            | 2, ho =>
              obtain rfl := so ho
              have d1 := dv (dep 1 _ rfl (by kernel_rfl)) (fun _ h => h) rfl
              unfold Oper.wp
              simp [go_sem, d1, hsz1]
              exact ⟨_, rfl, rfl, evS_keep (by decide) hS, fun j oj u _ _ _ _ hu => hu⟩
            | 3, ho =>
              obtain rfl := so ho
              have f12 := fr 12 (by kernel_rfl)
              unfold Oper.wp
              simp [go_sem, f12]
              exact ⟨_, rfl, rfl, evS_keep (by decide) hS, fun j oj u _ _ _ _ hu => hu⟩
            | 4, ho =>
              obtain rfl := so ho
              have d3 := dv (dep 3 _ rfl (by kernel_rfl)) (fun _ h => h) rfl
              have hn : ¬ L0[28]? = some true := fun h => by have := dwn 28 _ rfl h 4 _ rfl (by kernel_rfl); rw [hl] at this; cases this
              have hB := hS.1 hn
              refine wp_call1 (args := #[.int .i64 ((j : Int) + 1)]) rfl (by simp [Act.eval, d3]) (ci25 _ _) (itoa_any _ (by omega) (by omega) W (HE6.out.below hB)) ?_
              rintro e w9 ⟨rfl, hb9⟩
              exact ⟨_, rfl, rfl, evS_next (by decide) hn hb9 hS, fun j oj u _ _ _ _ hu => hu⟩
            | 5, ho =>
              obtain rfl := so ho
              have d2 := dv (dep 2 _ rfl (by kernel_rfl)) (fun _ h => h) rfl
              have d4 := dv (dep 4 _ rfl (by kernel_rfl)) (fun _ h => h) rfl
              unfold Oper.wp
              simp [go_sem, d2, d4, hsz2]
              exact ⟨_, rfl, rfl, evS_keep (by decide) hS, fun j oj u _ _ _ _ hu => hu⟩
            | 6, ho =>
              obtain rfl := so ho
              have f3 := fr 3 (by kernel_rfl)
              unfold Oper.wp
              simp [go_sem, f3]
              exact ⟨_, rfl, rfl, evS_keep (by decide) hS, fun j oj u _ _ _ _ hu => hu⟩
            | 7, ho =>
              obtain rfl := so ho
              have f10 := fr 10 (by kernel_rfl)
              have hn : ¬ L0[28]? = some true := fun h => by have := dwn 28 _ rfl h 7 _ rfl (by kernel_rfl); rw [hl] at this; cases this
              have hB := hS.1 hn
              have h0 := ((HM.at_ 0 rfl).below hB) 0 _ rfl
              have h1 := ((HM.at_ 0 rfl).below hB) 1 _ rfl
              have h2 := ((HM.at_ 0 rfl).below hB) 2 _ rfl
              have h3 := ((HM.at_ 0 rfl).below hB) 3 _ rfl
              have h4 := ((HM.at_ 0 rfl).below hB) 4 _ rfl
              have h5 := ((HM.at_ 0 rfl).below hB) 5 _ rfl
              unfold Oper.wp
              simp [go_sem, f10, h0, h1, h2, h3, h4, h5]
              exact ⟨_, rfl, rfl, evS_keep (by decide) hS, fun j oj u _ _ _ _ hu => hu⟩
            | 8, ho =>
              obtain rfl := so ho
              have f4 := fr 4 (by kernel_rfl)
              unfold Oper.wp
              simp [go_sem, f4]
              exact ⟨_, rfl, rfl, evS_keep (by decide) hS, fun j oj u _ _ _ _ hu => hu⟩
            | 9, ho =>
              obtain rfl := so ho
              have d8 := dv (dep 8 _ rfl (by kernel_rfl)) (fun _ h => h) rfl
              have hn : ¬ L0[28]? = some true := fun h => by have := dwn 28 _ rfl h 9 _ rfl (by kernel_rfl); rw [hl] at this; cases this
              have hB := hS.1 hn
              have hc := ((HM.at_ 4 rfl).below hB) 2 _ rfl
              unfold Oper.wp
              simp [go_sem, d8, hc]
              exact ⟨_, rfl, rfl, evS_keep (by decide) hS, fun j oj u _ _ _ _ hu => hu⟩
            | 10, ho =>
              obtain rfl := so ho
              have f6 := fr 6 (by kernel_rfl)
              unfold Oper.wp
              simp [go_sem, f6]
              exact ⟨_, rfl, rfl, evS_keep (by decide) hS, fun j oj u _ _ _ _ hu => hu⟩
            | 11, ho =>
              obtain rfl := so ho
              have d10 := dv (dep 10 _ rfl (by kernel_rfl)) (fun _ h => h) rfl
              unfold Oper.wp
              simp [go_sem, d10]
              exact ⟨_, rfl, rfl, evS_keep (by decide) hS, fun j oj u _ _ _ _ hu => hu⟩
            | 12, ho =>
              obtain rfl := so ho
              have d11 := dv (dep 11 _ rfl (by kernel_rfl)) (fun _ h => h) rfl
              have hn : ¬ L0[28]? = some true := fun h => by have := dwn 28 _ rfl h 12 _ rfl (by kernel_rfl); rw [hl] at this; cases this
              have hB := hS.1 hn
              have hc := ((HM.at_ 2 rfl).below hB) 3 _ rfl
              unfold Oper.wp
              simp [go_sem, d11, hc]
              exact ⟨_, rfl, rfl, evS_keep (by decide) hS, fun j oj u _ _ _ _ hu => hu⟩
            | 13, ho =>
              obtain rfl := so ho
              have f4 := fr 4 (by kernel_rfl)
              unfold Oper.wp
              simp [go_sem, f4]
              exact ⟨_, rfl, rfl, evS_keep (by decide) hS, fun j oj u _ _ _ _ hu => hu⟩
            | 14, ho =>
              obtain rfl := so ho
              have d13 := dv (dep 13 _ rfl (by kernel_rfl)) (fun _ h => h) rfl
              have hn : ¬ L0[28]? = some true := fun h => by have := dwn 28 _ rfl h 14 _ rfl (by kernel_rfl); rw [hl] at this; cases this
              have hB := hS.1 hn
              have hc := ((HM.at_ 4 rfl).below hB) 3 _ rfl
              unfold Oper.wp
              simp [go_sem, d13, hc]
              exact ⟨_, rfl, rfl, evS_keep (by decide) hS, fun j oj u _ _ _ _ hu => hu⟩
            | 15, ho =>
              obtain rfl := so ho
              have d12 := dv (dep 12 _ rfl (by kernel_rfl)) (fun _ h => h) rfl
              have d14 := dv (dep 14 _ rfl (by kernel_rfl)) (fun _ h => h) rfl
              unfold Oper.wp
              simp [go_sem, d12, d14, hmu1]
              exact ⟨_, rfl, rfl, evS_keep (by decide) hS, fun j oj u _ _ _ _ hu => hu⟩
            | 16, ho =>
              obtain rfl := so ho
              have d9 := dv (dep 9 _ rfl (by kernel_rfl)) (fun _ h => h) rfl
              have d15 := dv (dep 15 _ rfl (by kernel_rfl)) (fun _ h => h) rfl
              unfold Oper.wp
              simp [go_sem, d9, d15, hmu2]
              exact ⟨_, rfl, rfl, evS_keep (by decide) hS, fun j oj u _ _ _ _ hu => hu⟩
            | 17, ho =>
              obtain rfl := so ho
              have f6 := fr 6 (by kernel_rfl)
              unfold Oper.wp
              simp [go_sem, f6]
              exact ⟨_, rfl, rfl, evS_keep (by decide) hS, fun j oj u _ _ _ _ hu => hu⟩
            | 18, ho =>
              obtain rfl := so ho
              have d17 := dv (dep 17 _ rfl (by kernel_rfl)) (fun _ h => h) rfl
              unfold Oper.wp
              simp [go_sem, d17]
              exact ⟨_, rfl, rfl, evS_keep (by decide) hS, fun j oj u _ _ _ _ hu => hu⟩
            | 19, ho =>
              obtain rfl := so ho
              have d18 := dv (dep 18 _ rfl (by kernel_rfl)) (fun _ h => h) rfl
              have hn : ¬ L0[28]? = some true := fun h => by have := dwn 28 _ rfl h 19 _ rfl (by kernel_rfl); rw [hl] at this; cases this
              have hB := hS.1 hn
              have hc := ((HM.at_ 2 rfl).below hB) 4 _ rfl
              unfold Oper.wp
              simp [go_sem, d18, hc]
              exact ⟨_, rfl, rfl, evS_keep (by decide) hS, fun j oj u _ _ _ _ hu => hu⟩
            | 20, ho =>
              obtain rfl := so ho
              have f4 := fr 4 (by kernel_rfl)
              unfold Oper.wp
              simp [go_sem, f4]
              exact ⟨_, rfl, rfl, evS_keep (by decide) hS, fun j oj u _ _ _ _ hu => hu⟩
            | 21, ho =>
              obtain rfl := so ho
              have d20 := dv (dep 20 _ rfl (by kernel_rfl)) (fun _ h => h) rfl
              have hn : ¬ L0[28]? = some true := fun h => by have := dwn 28 _ rfl h 21 _ rfl (by kernel_rfl); rw [hl] at this; cases this
              have hB := hS.1 hn
              have hc := ((HM.at_ 4 rfl).below hB) 3 _ rfl
              unfold Oper.wp
              simp [go_sem, d20, hc]
              exact ⟨_, rfl, rfl, evS_keep (by decide) hS, fun j oj u _ _ _ _ hu => hu⟩
            | 22, ho =>
              obtain rfl := so ho
              have d19 := dv (dep 19 _ rfl (by kernel_rfl)) (fun _ h => h) rfl
              have d21 := dv (dep 21 _ rfl (by kernel_rfl)) (fun _ h => h) rfl
              unfold Oper.wp
              simp [go_sem, d19, d21, hmu3]
              exact ⟨_, rfl, rfl, evS_keep (by decide) hS, fun j oj u _ _ _ _ hu => hu⟩
            | 23, ho =>
              obtain rfl := so ho
              have f6 := fr 6 (by kernel_rfl)
              unfold Oper.wp
              simp [go_sem, f6]
              exact ⟨_, rfl, rfl, evS_keep (by decide) hS, fun j oj u _ _ _ _ hu => hu⟩
            | 24, ho =>
              obtain rfl := so ho
              have d23 := dv (dep 23 _ rfl (by kernel_rfl)) (fun _ h => h) rfl
              have hn : ¬ L0[28]? = some true := fun h => by have := dwn 28 _ rfl h 24 _ rfl (by kernel_rfl); rw [hl] at this; cases this
              have hB := hS.1 hn
              have hc := ((HM.at_ 2 rfl).below hB) 0 _ rfl
              unfold Oper.wp
              simp [go_sem, d23, hc]
              exact ⟨_, rfl, rfl, evS_keep (by decide) hS, fun j oj u _ _ _ _ hu => hu⟩
            | 25, ho =>
              obtain rfl := so ho
              have f6 := fr 6 (by kernel_rfl)
              unfold Oper.wp
              simp [go_sem, f6]
              exact ⟨_, rfl, rfl, evS_keep (by decide) hS, fun j oj u _ _ _ _ hu => hu⟩
            | 26, ho =>
              obtain rfl := so ho
              have d25 := dv (dep 25 _ rfl (by kernel_rfl)) (fun _ h => h) rfl
              have hn : ¬ L0[28]? = some true := fun h => by have := dwn 28 _ rfl h 26 _ rfl (by kernel_rfl); rw [hl] at this; cases this
              have hB := hS.1 hn
              have hc := ((HM.at_ 2 rfl).below hB) 5 _ rfl
              unfold Oper.wp
              simp [go_sem, d25, hc]
              exact ⟨_, rfl, rfl, evS_keep (by decide) hS, fun j oj u _ _ _ _ hu => hu⟩
            | 27, ho =>
              obtain rfl := so ho
              have d5 := dv (dep 5 _ rfl (by kernel_rfl)) (fun _ h => h) rfl
              have d6 := dv (dep 6 _ rfl (by kernel_rfl)) (fun _ h => h) rfl
              have d7 := dv (dep 7 _ rfl (by kernel_rfl)) (fun _ h => h) rfl
              have d16 := dv (dep 16 _ rfl (by kernel_rfl)) (fun _ h => h) rfl
              have d22 := dv (dep 22 _ rfl (by kernel_rfl)) (fun _ h => h) rfl
              have d24 := dv (dep 24 _ rfl (by kernel_rfl)) (fun _ h => h) rfl
              have d26 := dv (dep 26 _ rfl (by kernel_rfl)) (fun _ h => h) rfl
              refine wp_build rfl (by simp only [Act.eval, Array.getD_eq_getD_getElem?, d5, d6, d7, d16, d22, d24, d26, uidV, List.map_toArray, List.map_cons, List.map_nil, Option.getD_some]; rfl) (build_ev _ _ _ _ _ _ _ _ _ _ _ _ _ _ W) ?_
              exact ⟨_, rfl, rfl, evS_keep (by decide) hS, fun j oj u _ _ _ _ hu => hu⟩
            | 28, ho =>
              obtain rfl := so ho
              have f8 := fr 8 (by kernel_rfl)
              have d27 := dv (dep 27 _ rfl (by kernel_rfl)) (fun _ h => h) rfl
              have hB := hS.1 (by rw [hl]; simp)
              refine wp_store_mid 39 _ _ rfl Z 0 (evC (uidV ch j) L xa xc xb xq (b + st * m) (ln * m) (.string (arr [ch]))).toArray (by simp [Act.eval, f8]) (by simp [Act.eval, d27]) ((HM.below hB).there 1 rfl 0 13 (Nat.le_refl _)) rfl (by kernel_rfl) ?_
              exact ⟨undef, rfl, trivial, ⟨fun h => absurd (listed_now hl) h, fun _ => ⟨W, hB, rfl⟩⟩, fun j oj u _ _ _ _ hu => hu⟩
            | 29, ho =>
              obtain rfl := so ho
              unfold Oper.wp
              simp [go_sem, ]
              exact ⟨_, rfl, rfl, evS_keep (by decide) hS, fun j oj u _ _ _ _ hu => hu⟩
        · intro us W6 hS hV
          have hu : us 29 = .bool true := hV 29 _ rfl
          obtain ⟨W0, hB, rfl⟩ := hS.2 (by rw [Array.getElem?_replicate, if_pos (by decide)])
          clear hV hS
          have hpos := exc_pos HOF.out hL0.out
          have hA := (HM.below hB).at_ 1 rfl
          have hX9 := Lib.hid (ints_ev (cs := (evC (uidV ch j) L xa xc xb xq (b + st * m) (ln * m) (.string (arr [ch])))) (HX.out.below hB) hA hpos.1 rfl)
          have hY9 := Lib.hid (ints_ev (cs := (evC (uidV ch j) L xa xc xb xq (b + st * m) (ln * m) (.string (arr [ch])))) (HY.out.below hB) hA hpos.2 rfl)
          clear hpos hA
          replace HM : Mem w (W0.setCells Z 0 (evC (uidV ch j) L xa xc xb xq (b + st * m) (ln * m) (.string (arr [ch])))) [⟨D, [.int .i64 (ofF L), .int .i64 (ofL L), .int .i64 (ofEv L), .int .i64 (ofK L), .slice xa (ofX L).length xc, .slice xb (ofY L).length xq], some 37⟩, ⟨Z, (evC (uidV ch j) L xa xc xb xq (b + st * m) (ln * m) (.string (arr [ch]))), some 39⟩] := (((HM.below hB).sets 1 rfl 0 (evC (uidV ch j) L xa xc xb xq (b + st * m) (ln * m) (.string (arr [ch]))) rfl).pick [0, 1] (by decide))
          simp only [putAll, Act.put, List.setIfInBounds_toArray, List.set_cons_zero, List.set_cons_succ, Nat.zero_add, Nat.reduceAdd]
          rw [hu]
          clear hu
          generalize us 0 = z0 at *
          generalize us 1 = z1 at *
          generalize us 2 = z2 at *
          generalize us 3 = z3 at *
          generalize us 4 = z4 at *
          generalize us 5 = z5 at *
          generalize us 6 = z6 at *
          generalize us 7 = z7 at *
          generalize us 8 = z8 at *
          generalize us 9 = z9 at *
          generalize us 10 = z10 at *
          generalize us 11 = z11 at *
          generalize us 12 = z12 at *
          generalize us 13 = z13 at *
          generalize us 14 = z14 at *
          generalize us 15 = z15 at *
          generalize us 16 = z16 at *
          generalize us 17 = z17 at *
          generalize us 18 = z18 at *
          generalize us 19 = z19 at *
          generalize us 20 = z20 at *
          generalize us 21 = z21 at *
          generalize us 22 = z22 at *
          generalize us 23 = z23 at *
          generalize us 24 = z24 at *
          generalize us 25 = z25 at *
          generalize us 26 = z26 at *
          generalize us 27 = z27 at *
          go_wp2_with fail
          refine bodyPost_ret (v := .tuple #[.agg (evC (uidV ch j) L xa xc xb xq (b + st * m) (ln * m) (.string (arr [ch]))).toArray, .bool true]) (results_two Tryz.results10 rfl rfl (HM.loadV 1 rfl 0 13 39 (by kernel_rfl) rfl)) rfl ?_
          exact ⟨HM.bl, fun h => absurd HOF.out h, fun _ => ⟨_, _, _, _, _, _, rfl, hX9.out, hY9.out⟩⟩
      · have hb' : bitT ws j = false := by simpa using hb
        rw [hb'] at hbit
        simp only [Bool.not_false] at hbit
        have hj7 : j < 7 := by
          rcases Nat.lt_or_ge j 7 with h | h
          · exact h
          · have : j = 7 := by omega
            subst this
            exact absurd (bits_none ws (fun q hq => by rcases Nat.lt_or_ge q 7 with h | h; exact HB.out q h; have : q = 7 := by omega
                                                       rw [this]; exact hb') hw2) (by omega)
        have HB2 : Hid (∀ q, q < j + 1 → bitT ws q = false) := Lib.hid (fun q hq => by
          rcases Nat.lt_or_ge q j with h | h
          · exact HB.out q h
          · have : q = j := by omega
            rw [this]; exact hb')
        clear hb hb' HB
        go_wp2_with fail
        go_round
        case rel => exact ⟨j + 1, by omega, by go_num, HB2⟩
        case measure => simp [intOf]; omega
def evG (u sm : ByteArray) (i f l e k : Int) (a : Option Addr) (n c : Nat) (b : Option Addr) (m q : Nat) (x y : Int) : List Value := [.string u, .int .i64 i, .bool false, .int .i64 f, .int .i64 l, .int .i64 e, .int .i64 k, .slice a n c, .slice b m q, .int .i64 x, .int .i64 y, .string sm, zS]
def EvtQ (L : List Int) (x y : Int) (w : World) (e : Ending) (w' : World) : Prop := ∃ (u sm : ByteArray) (i : Int) (a : Option Addr) (c : Nat) (b : Option Addr) (q : Nat) (x' y' : Int), e = .returned (.tuple #[.agg (evG u sm i (ofF L) (ofL L) (ofEv L) (ofK L) a (ofX L).length c b (ofY L).length q x' y').toArray, .bool (ofE L == 0)]) ∧ Below w.heap.size w w' ∧ IntsAt w' a (ofX L).length (ofX L) ∧ IntsAt w' b (ofY L).length (ofY L) ∧ (ofE L = 0 → x' = x ∧ y' = y)
theorem evtQ {L : List Int} {x y : Int} {w w' : World} {e : Ending} (h : EvtP L x y w e w') : EvtQ L x y w e w' := by
  obtain ⟨hb, h1, h2⟩ := h
  by_cases h0 : ofE L = 0
  · obtain ⟨u, sm, a, c, b, q, rfl, hx, hy⟩ := h2 h0
    refine ⟨u, sm, 1, a, c, b, q, x, y, ?_, hb, hx, hy, fun _ => ⟨rfl, rfl⟩⟩
    rw [h0]
    rfl
  · have e := h1 h0
    have hX : ofX L = [] := by simp [ofX, h0]
    have hY : ofY L = [] := by simp [ofY, h0]
    refine ⟨⟨#[]⟩, ⟨#[]⟩, 0, none, 0, none, 0, 0, 0, ?_, hb, by rw [hX]; exact ⟨rfl, by simp, Or.inl rfl⟩, by rw [hY]; exact ⟨rfl, by simp, Or.inl rfl⟩, fun h => absurd h h0⟩
    rw [e, hX, hY, show (ofE L == 0) = false from by rw [beq_eq_false_iff_ne]; exact h0]
    simp only [ofF, ofL, ofEv, ofK, h0, if_false]
    rfl
end Go.Proofs.YtcifdllbnbhcdaaGreatDoor.Rc
namespace Go.Proofs.YtcifdllbnbhcdaaGreatDoor.Rc
open Go.RowKit TT
theorem and_ne {a b : Int} {j : Nat} (ha : 0 ≤ a ∧ a < 256) (hb : 0 ≤ b ∧ b < 256) (h1 : bitT a j = true) (h2 : bitT b j = true) : (bits .and .i64 a b != 0) = true := by
  obtain ⟨n, rfl⟩ := Int.eq_ofNat_of_zero_le ha.1
  obtain ⟨m, rfl⟩ := Int.eq_ofNat_of_zero_le hb.1
  have e1 : (BitVec.ofInt 64 (n : Int)).toNat = n := by simp; omega
  have e2 : (BitVec.ofInt 64 (m : Int)).toNat = m := by simp; omega
  have tb : ∀ q : Nat, bitT (q : Int) j = true → q.testBit j = true := fun q h => by
    simp only [bitT, decide_eq_true_eq] at h
    rw [Nat.testBit_eq_decide_div_mod_eq, decide_eq_true_eq]
    have h3 := h.2
    have e : ((q : Int) / 2 ^ j) = ((q / 2 ^ j : Nat) : Int) := by simp
    rw [e] at h3
    omega
  have hne : n &&& m ≠ 0 := fun h => by
    have ht : (n &&& m).testBit j = true := by rw [Nat.testBit_and, tb n h1, tb m h2]; rfl
    rw [h] at ht
    simp at ht
  have hle : n &&& m ≤ n := Nat.and_le_left
  rw [bne_iff_ne]
  show IntKind.i64.wrap (((BitVec.ofInt 64 (n : Int) &&& BitVec.ofInt 64 (m : Int)).toNat : Nat) : Int) ≠ 0
  rw [BitVec.toNat_and, e1, e2, IntWalk.i64_in _ (by omega)]
  omega
theorem snd_ok {ws dy st ln : Int} (h1 : 1 ≤ ws ∧ ws < 256) (h2 : 0 ≤ dy ∧ dy ≤ 4) (h3 : 0 ≤ st ∧ 1 ≤ ln ∧ st + ln ≤ 8) : sndB ws dy st ln = true := by
  show (wsB ws 20 && decide (0 ≤ dy ∧ dy ≤ 6 ∧ 0 ≤ st ∧ st ≤ 23 ∧ 1 ≤ ln ∧ st + ln ≤ 24)) = true
  rw [Bool.and_eq_true, decide_eq_true_eq]
  refine ⟨?_, by omega⟩
  unfold wsB
  rw [decide_eq_true_eq]
  have : (2 : Int) ^ (20 : Int).toNat = 1048576 := by decide
  omega
set_option maxRecDepth 100000 in
set_option maxHeartbeats 8000000 in
theorem meet_any (ws vs dy st ln su lu : Int) (hb : (bits .and .i64 ws vs != 0) = true) (h1 : sndB ws dy st ln = true) (h2 : sndB vs dy su lu = true) (w : World) : Calls Tryz.prog 55 #[timV ws dy st ln, timV vs dy su lu] w (RetB (.bool true) w) := by
  have HM := ((Mem.start w).alloc [.int .i64 ws, .int .i64 dy, .int .i64 st, .int .i64 ln] 34).alloc [.int .i64 vs, .int .i64 dy, .int .i64 su, .int .i64 lu] 34
  simp only [World.size_alloc] at HM
  have s1 := Lib.hid (fun W => rsound_any ws dy st ln W)
  have s2 := Lib.hid (fun W => rsound_any vs dy su lu W)
  rw [h1] at s1
  rw [h2] at s2
  clear h1 h2
  go_enter Tryz.func55, Tryz.ntmps55
  go_wp2_with fail
  refine (s1.out _).mono ?_
  rintro e w1 ⟨rfl, hbl⟩
  replace HM := HM.below hbl
  clear hbl
  have C := HM.facts
  simp only [facts, cellsAre, lts, apart, Nat.zero_add, Nat.reduceAdd, and_true] at C
  go_wp2_with fail
  refine (s2.out _).mono ?_
  rintro e w2 ⟨rfl, hbl⟩
  replace HM := HM.below hbl
  clear hbl C
  have C := HM.facts
  simp only [facts, cellsAre, lts, apart, Nat.zero_add, Nat.reduceAdd, and_true] at C
  go_wp2_with fail
  go_ret
  exact ⟨rfl, HM.bl⟩
def BtwP (w : World) (e : Ending) (w' : World) : Prop := ∃ n : Int, n < 0 ∧ e = .returned (.tuple #[.int .i64 n, .bool true]) ∧ Below w.heap.size w w'
set_option maxRecDepth 100000 in
set_option maxHeartbeats 8000000 in
theorem between_any (ws vs dy st ln su lu : Int) (hb : (bits .and .i64 ws vs != 0) = true) (h1 : sndB ws dy st ln = true) (h2 : sndB vs dy su lu = true) (q1 : 0 ≤ st ∧ 1 ≤ ln ∧ st + ln ≤ 8) (q2 : 0 ≤ su ∧ 1 ≤ lu ∧ su + lu ≤ 8) (h3 : st < su + lu) (h4 : su < st + ln) (w : World) : Calls Tryz.prog 32 #[timV ws dy st ln, timV vs dy su lu] w (BtwP w) := by
  have HM := ((Mem.start w).alloc [.int .i64 ws, .int .i64 dy, .int .i64 st, .int .i64 ln] 34).alloc [.int .i64 vs, .int .i64 dy, .int .i64 su, .int .i64 lu] 34
  simp only [World.size_alloc] at HM
  obtain ⟨a1, a2, a3⟩ := q1
  obtain ⟨b1, b2, b3⟩ := q2
  go_enter Tryz.func32, Tryz.ntmps32
  go_wp2_with fail
  refine (meet_any ws vs dy st ln su lu hb h1 h2 _).mono ?_
  rintro e w1 ⟨rfl, hbl⟩
  replace HM := HM.below hbl
  clear hbl hb h1 h2
  have C := HM.facts
  simp only [facts, cellsAre, lts, apart, Nat.zero_add, Nat.reduceAdd, and_true] at C
  go_wp2_with fail
  go_ret2
  refine ⟨_, ?_, rfl, HM.bl⟩
  omega
set_option maxRecDepth 100000 in
set_option maxHeartbeats 8000000 in
theorem overlap_any (ws vs dy st ln su lu : Int) (hb : (bits .and .i64 ws vs != 0) = true) (h1 : sndB ws dy st ln = true) (h2 : sndB vs dy su lu = true) (q1 : 0 ≤ st ∧ 1 ≤ ln ∧ st + ln ≤ 8) (q2 : 0 ≤ su ∧ 1 ≤ lu ∧ su + lu ≤ 8) (h3 : st < su + lu) (h4 : su < st + ln) (w : World) : Calls Tryz.prog 14 #[timV ws dy st ln, timV vs dy su lu] w (RetB (.bool true) w) := by
  have HM := ((Mem.start w).alloc [.int .i64 ws, .int .i64 dy, .int .i64 st, .int .i64 ln] 34).alloc [.int .i64 vs, .int .i64 dy, .int .i64 su, .int .i64 lu] 34
  simp only [World.size_alloc] at HM
  go_enter Tryz.func14, Tryz.ntmps14
  go_wp2_with fail
  refine (between_any ws vs dy st ln su lu hb h1 h2 q1 q2 h3 h4 _).mono ?_
  rintro e w1 ⟨n, hn, rfl, hbl⟩
  replace HM := HM.below hbl
  clear hbl hb h1 h2
  go_wp2_with fail
  go_ret
  exact ⟨rfl, HM.bl⟩
end Go.Proofs.YtcifdllbnbhcdaaGreatDoor.Rc
