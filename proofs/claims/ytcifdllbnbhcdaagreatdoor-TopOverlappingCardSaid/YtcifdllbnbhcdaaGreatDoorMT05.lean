/- TopOverlapping: the walk of the law. -/
import Derived.Test.YtcifdllbnbhcdaaGreatDoorMT03
import Derived.Test.YtcifdllbnbhcdaaGreatDoorMT04
import Derived.Test.YtcifdllbnbhcdaaGreatDoorMK07
import Derived.Test.YtcifdllbnbhcdaaGreatDoorMR03
set_option linter.unusedSimpArgs false
set_option linter.unusedVariables false
namespace Go.Proofs.YtcifdllbnbhcdaaGreatDoor.Rc
open Go.RowKit TT

theorem rw_there {w : World} {R : Nat} {vs : List Value} {T : TypeId} (hr : Rw w R vs T) (o n : Nat) (hn : o + n ≤ vs.length) : w.there R o n := fun j hj => by
  have := hr.at_ (o + j) (vs[o + j]'(by omega)) (List.getElem?_eq_getElem (by omega))
  exact ⟨by rw [this]; rfl, hr.fz _⟩
def TmA (n : Nat) (d s : Int) (w3 W : World) (v : Value) (D : Prop) : Prop := ∃ (A : Nat) (ws dy st ln : Int), v = .pointer (some ⟨A, 0, none⟩) ∧ w3.heap.size ≤ A ∧ Rw W A [.int .i64 ws, .int .i64 dy, .int .i64 st, .int .i64 ln] 34 ∧ (D → TimOk n d s ws dy st ln)
theorem tmA_but {n p : Nat} {d s : Int} {w3 W W' : World} {v : Value} {D : Prop} (hp : p < w3.heap.size) (hb : But p W W') (h : TmA n d s w3 W v D) : TmA n d s w3 W' v D := by
  obtain ⟨A, ws, dy, st, ln, h1, h2, h3, h4⟩ := h
  exact ⟨A, ws, dy, st, ln, h1, h2, h3.but hb (by omega), h4⟩
theorem tmA_store {n X : Nat} {d s : Int} {w3 W : World} {v : Value} {D : Prop} {vs : List Value} {ws dy st ln : Int} (hX : Rw W X vs 34) (hv : vs.length = 4) (ht : TimOk n d s ws dy st ln) (h : TmA n d s w3 W v D) : TmA n d s w3 (W.setCells X 0 [.int .i64 ws, .int .i64 dy, .int .i64 st, .int .i64 ln]) v D := by
  obtain ⟨A, vs', dy', st', ln', h1, h2, h3, h4⟩ := h
  by_cases hA : A = X
  · subst hA
    exact ⟨A, ws, dy, st, ln, h1, h2, h3.setCells _ _ 0 (Nat.le_refl _), fun _ => ht⟩
  · exact ⟨A, vs', dy', st', ln', h1, h2, h3.but (But.setCells X _ 0) hA, h4⟩
def toV (p G Tm n : Nat) (d s b m : Int) (w3 : World) (L : Array Bool) (j : Nat) (v : Value) (W : World) : Prop := match j with
  | 0 | 5 => v = .pointer (some ⟨p, 0, none⟩)
  | 1 | 6 => v = grdV d s b m
  | 2 | 7 => v = .pointer (some ⟨Tm, 1, none⟩)
  | 3 | 8 => v = .int .i64 n
  | 4 | 9 => ∃ ws dy st ln : Int, v = .agg #[.int .i64 ws, .int .i64 dy, .int .i64 st, .int .i64 ln] ∧ TimOk n d s ws dy st ln
  | 10 => TmA n d s w3 W v (L[12]? = some true)
  | 11 => TmA n d s w3 W v (L[13]? = some true)
  | _ => True
theorem toV_keep {p G Tm n : Nat} {d s b m : Int} {w3 W W' : World} {L : Array Bool} {i j : Nat} {v : Value} (hi : i ≠ 12) (hi2 : i ≠ 13) (hp : p < w3.heap.size) (hb : But p W W') (h : toV p G Tm n d s b m w3 L j v W) : toV p G Tm n d s b m w3 (L.setIfInBounds i true) j v W' := by
  unfold toV at h ⊢
  split <;> simp only [Array.getElem?_setIfInBounds_ne hi, Array.getElem?_setIfInBounds_ne hi2] at h ⊢ <;> first | exact h | exact tmA_but hp hb h
theorem toV_store {p G Tm n X : Nat} {d s b m : Int} {w3 W : World} {L L' : Array Bool} {j : Nat} {v : Value} {vs : List Value} {ws dy st ln : Int} (hX : Rw W X vs 34) (hv : vs.length = 4) (ht : TimOk n d s ws dy st ln) (h10 : j = 10 → L'[12]? = L[12]?) (h11 : j = 11 → L'[13]? = L[13]?) (h : toV p G Tm n d s b m w3 L j v W) : toV p G Tm n d s b m w3 L' j v (W.setCells X 0 [.int .i64 ws, .int .i64 dy, .int .i64 st, .int .i64 ln]) := by
  unfold toV at h ⊢
  split <;> simp only at h ⊢ <;> first | (rw [h10 rfl]; exact tmA_store hX hv ht h) | (rw [h11 rfl]; exact tmA_store hX hv ht h) | exact h
def toS (p : Nat) (w3 : World) (_ : Array Bool) (W : World) : Prop := DiceAt W p ∧ But p w3 W
theorem toS_new {p : Nat} {w3 W W' : World} {L L' : Array Bool} (h : toS p w3 L W) (hb : Below W.heap.size W W') : toS p w3 L' W' := ⟨h.1.below hb, h.2.trans (But.of_below hb)⟩
theorem toS_store {p X : Nat} {w3 W : World} {L L' : Array Bool} {cs : List Value} (hp : p < w3.heap.size) (h : toS p w3 L W) (hX : w3.heap.size ≤ X) : toS p w3 L' (W.setCells X 0 cs) := by
  have hb := But.setCells X cs 0 (w := W)
  refine ⟨h.1.same (fun k hk => hb.block k (by have := h.1.lt; omega) (by omega)), ⟨hb.os.trans h.2.os, hb.tape.trans h.2.tape, hb.output.trans h.2.output, Nat.le_trans h.2.size hb.size, fun k hk hq => (hb.block k (Nat.lt_of_lt_of_le hk h.2.size) (by omega)).trans (h.2.block k hk hq)⟩⟩
theorem ci9 (args : Array Value) (w : World) : (callFunc 9 args).run Tryz.prog w = .ok (.enter 9 args) w := by kernel_rfl

theorem ints_but {p n : Nat} {w w' : World} {a : Option Addr} {xs : List Int} (h : IntsAt w a n xs) (hb : But p w w') (hne : ∀ b off, a = some ⟨b, off, none⟩ → 0 < n → b ≠ p) : IntsAt w' a n xs := by
  obtain ⟨h1, h3, h2⟩ := h
  refine ⟨h1, h3, ?_⟩
  by_cases h0 : n = 0
  · exact Or.inl h0
  · rcases h2 with h2 | ⟨b, off, ha, hi⟩
    · exact absurd h2 h0
    · refine Or.inr ⟨b, off, ha, fun i hin => ?_⟩
      rw [hb.cell (World.block_lt_of_cell? _ ⟨b, off + i, none⟩ (hi i hin)) (hne b off ha (by omega))]
      exact hi i hin
def NoDays (V : World) (e : Ending) (w' : World) : Prop := ∃ a' cap, e = .returned (.slice a' 0 cap) ∧ Below V.heap.size V w'
theorem no_days {f : Int} {kn n : Nat} {hs : List Int} {a : Option Addr} {c : Nat} {d s ws dy st ln : Int} {V : World} (ht : termE f kn hs = 0) (hto : TimOk kn d s ws dy st ln) (k8 : kn ≤ 8) (hI : IntsAt V a n hs) (h : ¬ ofE (daysL f kn hs ws dy 20) = 0) : Calls Tryz.prog 11 #[.agg #[.int .i64 f, .int .i64 kn, .slice a n c], .agg #[.int .i64 ws, .int .i64 dy, .int .i64 st, .int .i64 ln]] V (NoDays V) := by
  have hp8 : (2 : Int) ^ kn ≤ 256 := by
    have hn : kn = 0 ∨ kn = 1 ∨ kn = 2 ∨ kn = 3 ∨ kn = 4 ∨ kn = 5 ∨ kn = 6 ∨ kn = 7 ∨ kn = 8 := by omega
    rcases hn with rfl | rfl | rfl | rfl | rfl | rfl | rfl | rfl | rfl <;> decide
  refine (days_ints ws dy st ln f kn hs a n c V hI (by have := hto.w2; omega)).mono ?_
  rintro e w' ⟨a', cap, rfl, _, hb⟩
  have h0 : (daysL f kn hs ws dy 20).length = 0 := by
    by_cases h1 : (daysL f kn hs ws dy 20).length = 0
    · exact h1
    · exact absurd (days_of ht ws dy h1) h
  rw [h0]
  exact ⟨a', cap, rfl, hb⟩
def lpV (X Y : Nat) (la : Option Addr) (n lc j ba oa : Nat) (sv : Value) (c7 d1 d2 : Bool) (x1 y1 x2 y2 dd : Int) (_ : Array Bool) (i : Nat) (v : Value) (_ : World) : Prop := match i with
  | 0 => v = .pointer (some ⟨Y, 3, none⟩)
  | 1 => v = sv
  | 2 => v = .slice la n lc
  | 3 => v = .int .i64 j
  | 4 => v = .pointer (some ⟨ba, oa + j, none⟩)
  | 5 => v = .int .i64 dd
  | 6 | 7 => v = .bool c7
  | 8 => c7 = true → v = .pointer (some ⟨X, 9, none⟩)
  | 9 => c7 = true → v = .int .i64 x1
  | 10 => c7 = true → v = .pointer (some ⟨Y, 9, none⟩)
  | 11 => c7 = true → v = .int .i64 x2
  | 12 => c7 = true → v = .pointer (some ⟨Y, 10, none⟩)
  | 13 => c7 = true → v = .int .i64 y2
  | 14 => c7 = true → v = .int .i64 (x2 + y2)
  | 15 => c7 = true → v = .bool d1
  | 16 | 17 => v = .bool (c7 && d1)
  | 18 => (c7 && d1) = true → v = .pointer (some ⟨Y, 9, none⟩)
  | 19 => (c7 && d1) = true → v = .int .i64 x2
  | 20 => (c7 && d1) = true → v = .pointer (some ⟨X, 9, none⟩)
  | 21 => (c7 && d1) = true → v = .int .i64 x1
  | 22 => (c7 && d1) = true → v = .pointer (some ⟨X, 10, none⟩)
  | 23 => (c7 && d1) = true → v = .int .i64 y1
  | 24 => (c7 && d1) = true → v = .int .i64 (x1 + y1)
  | 25 => (c7 && d1) = true → v = .bool d2
  | 26 => v = .bool ((c7 && d1) && d2)
  | _ => True
def lpG (c c2 : Bool) (i : Nat) : Bool := bif Nat.blt i 16 then c else c2
theorem gd_of {c : Bool} {v : Value} (h : v = .bool c) : v = .bool (bif c then true else !true) := by
  cases c <;> exact h
theorem ci13 (args : Array Value) (w : World) : (callFunc 13 args).run Tryz.prog w = .ok (.enter 13 args) w := by kernel_rfl
theorem tb_in {n : Nat} {d s b m ws dy st ln x y : Int} (h : GrdOk d s b m) (ht : TimOk n d s ws dy st ln) (e : x = b + st * m ∧ y = ln * m) : (480 ≤ x ∧ x ≤ 1100) ∧ 0 ≤ y ∧ y ≤ 500 := by
  obtain ⟨h1, h2, h3, h4, h5, h6, h7⟩ := h
  obtain ⟨q1, q2, q3, q4, q5, q6, q7⟩ := ht
  obtain ⟨rfl, rfl⟩ := e
  rcases h7 with rfl | rfl | rfl <;> omega
theorem ovl_any {kn : Nat} {d s b m f : Int} {hs : List Int} {wa dya sta lna wb dyb stb lnb x1 x2 y1 y2 : Int} (hg : GrdOk d s b m) (k8 : kn ≤ 8) (ta : TimOk kn d s wa dya sta lna) (tb : TimOk kn d s wb dyb stb lnb) (e1 : x1 = b + sta * m ∧ y1 = lna * m) (e2 : x2 = b + stb * m ∧ y2 = lnb * m) (h : ∃ x, x ∈ daysL f kn hs wa dya 20 ∧ x ∈ daysL f kn hs wb dyb 20 ∧ x1 < x2 + y2 ∧ x2 < x1 + y1) (W : World) : Calls Tryz.prog 14 #[timV wa dya sta lna, timV wb dyb stb lnb] W (RetB (.bool true) W) := by
  have hp8 : (2 : Int) ^ kn ≤ 256 := by
    have hn : kn = 0 ∨ kn = 1 ∨ kn = 2 ∨ kn = 3 ∨ kn = 4 ∨ kn = 5 ∨ kn = 6 ∨ kn = 7 ∨ kn = 8 := by omega
    rcases hn with rfl | rfl | rfl | rfl | rfl | rfl | rfl | rfl | rfl <;> decide
  obtain ⟨x, m1, m2, h3, h4⟩ := h
  obtain ⟨rfl, rfl⟩ := e1
  obtain ⟨rfl, rfl⟩ := e2
  obtain ⟨g1, g2, g3, g4, g5, g6, g7⟩ := hg
  obtain ⟨p1, p2, p3, p4, p5, p6, p7⟩ := ta
  obtain ⟨q1, q2, q3, q4, q5, q6, q7⟩ := tb
  obtain ⟨rfl, j, _, b1, b2⟩ := days_two (by omega) (by omega) m1 m2
  refine overlap_any wa wb dya sta lna stb lnb (and_ne (by omega) (by omega) b1 b2) (snd_ok (by omega) (by omega) (by omega)) (snd_ok (by omega) (by omega) (by omega)) (by omega) (by omega) ?_ ?_ W
  · rcases g7 with rfl | rfl | rfl <;> omega
  · rcases g7 with rfl | rfl | rfl <;> omega
theorem exc_small {L : List Int} (h : ofE L = 0) : (ofX L).length + (ofY L).length ≤ 9223372036854775807 := by
  have hv := of_valid h
  unfold vlE at hv
  by_cases h0 : vl0 (ofF L) (ofL L) (ofEv L) (ofK L) ((ofX L).length + (ofY L).length) = 0
  · unfold vl0 at h0
    split at h0
    · omega
    · split at h0
      · omega
      · split at h0 <;> omega
  · rw [if_pos h0] at hv
    exact absurd hv h0
end Go.Proofs.YtcifdllbnbhcdaaGreatDoor.Rc
namespace Go.Proofs.YtcifdllbnbhcdaaGreatDoor
open Go.RowKit TT
theorem Mem.off {a w w2 : World} {l : List Blk} {p : Nat} (h : Mem a w l) (hb : But p w w2) (hp : a.heap.size ≤ p) (hn : ∀ c ∈ l, c.adr ≠ p) : Mem a w2 l := ⟨But.below h.bl hb hp h.bl.size, fun c hc => (h.ok c hc).but hb (hn c hc), h.nd⟩

end Go.Proofs.YtcifdllbnbhcdaaGreatDoor
namespace Go.Proofs.YtcifdllbnbhcdaaGreatDoor.Rc
open Go.RowKit TT
set_option maxRecDepth 100000 in
set_option maxHeartbeats 16000000 in
theorem topo_any (a : Option Addr) (n c : Nat) (T : List Int) (w : World) (hI : IntsAt w a n T) (hL : ∀ x ∈ T, -9223372036854775808 ≤ x ∧ x ≤ 9223372036854775807) (hE : Env w) : Calls Tryz.prog 3 #[.slice a n c] w (RetB (.bool true) w) := by
  by_cases hn : n ≤ 400
  rotate_left
  · have hd : decide (n ≤ 400) = false := by simpa using hn
    clear hI hL hn
    go_enter Tryz.func3, Tryz.ntmps3
    go_wp2_with (go_at_call 4; refine (light_any _ _ _ _).mono ?_; rw [hd]; rintro e w' ⟨rfl, rfl⟩)
    refine (second_any _ hE).mono ?_
    rintro e w' ⟨rfl, hb⟩
    go_wp2_with fail
    go_ret
    exact ⟨rfl, hb⟩
  have hd : decide (n ≤ 400) = true := by simpa using hn
  have HD0 := Lib.hid (DiceAt.mk0 c 82 hI hn hL)
  have HM : Mem w (w.alloc (.cells #[.slice a n c, .int .i64 0] 82)) [] := (Mem.start w).obj _
  have HE := Lib.hid hE
  clear hI hL hn hE
  go_enter Tryz.func3, Tryz.ntmps3
  go_wp2_with (first
    | (go_at_call 4; refine (light_any _ _ _ _).mono ?_; rw [hd]; rintro e w' ⟨rfl, rfl⟩)
    | (go_at_call 6; refine (roll_any _ _ _ _).mono ?_; rintro e w' ⟨rfl, rfl⟩)
    | fail)
  clear hd
  obtain ⟨w0, hW, HM, HD⟩ : ∃ W, W = _ ∧ Mem w W [] ∧ Hid (DiceAt W w.heap.size) := ⟨_, rfl, HM, HD0⟩
  rw [← hW]
  clear hW HD0
  obtain ⟨p, hP⟩ : ∃ n : Nat, n = w.heap.size := ⟨_, rfl⟩
  rw [← hP] at HD ⊢
  have hp0 : w.heap.size ≤ p := by omega
  clear hP
  refine (mgrid_any p _ HD.out).mono ?_
  rintro e w1 ⟨d, s, b, m, rfl, hd, hs, hbb, hm, hD1, hb1⟩
  have hG : GrdOk d s b m := ⟨hd.1, hd.2, hs.1, hs.2, hbb.1, hbb.2, hm⟩
  replace HM := HM.off hb1 hp0 (fun c hc => by cases hc)
  replace HD := Lib.hid hD1
  clear hb1 hD1 hd hs hbb hm
  have HG := Lib.hid hG
  clear hG
  go_wp2_with fail
  refine (mterm_any p _ HD.out).mono ?_
  rintro e w2 ⟨f, k, hs, ha, hc, rfl, ht, h1, h2, hk8, hf, hl5, hnl, hne, hT⟩
  simp only []
  obtain ⟨_, t1, t2, t3, _, _, _, _, _, t4⟩ := termE_zero ht
  obtain ⟨kn, rfl⟩ := Int.eq_ofNat_of_zero_le (show 0 ≤ k by omega)
  have k1 : 1 ≤ kn := by omega
  have k8 : kn ≤ 8 := by omega
  have f0 : 0 < f := by omega
  obtain ⟨hI, hD2, hb2⟩ := hT
  replace HM := HM.off hb2 hp0 (fun c hc => by cases hc)
  replace HD := Lib.hid hD2
  have HT := Lib.hid ht
  have HI := Lib.hid hI
  clear hb2 hD2 hI ht t1 t2 t3 t4 h1 h2 hk8 hf hl5 hnl
  go_upto_region 5 with fail
  have HM3 := (HM.alloc [.int .i64 d, .int .i64 s, .int .i64 b, .int .i64 m] 28).alloc [.int .i64 f, .int .i64 kn, .slice ha hs.length hc] 31
  have hb3 := bpush (bpush (b0 w2) (.cells #[.int .i64 d, .int .i64 s, .int .i64 b, .int .i64 m] 28)) (.cells #[.int .i64 f, .int .i64 kn, .slice ha hs.length hc] 31)
  simp only [World.size_alloc] at HM3
  have hp2 := HD.out.lt
  replace HI := Lib.hid (HI.out.below hb3)
  replace HD := Lib.hid (HD.out.below hb3)
  clear HM hb3
  obtain ⟨w3, hW, HM, HI, HD⟩ : ∃ W, W = _ ∧ Mem w W _ ∧ Hid (IntsAt W ha hs.length hs) ∧ Hid (DiceAt W p) := ⟨_, rfl, HM3, HI, HD⟩
  rw [← hW]
  clear HM3 hW
  obtain ⟨Tm, hTm⟩ : ∃ n : Nat, n = w2.heap.size + 1 := ⟨_, rfl⟩
  obtain ⟨G, hGz⟩ : ∃ n : Nat, n = w2.heap.size := ⟨_, rfl⟩
  rw [← hTm, ← hGz] at HM ⊢
  have nG : G ≠ p := by omega
  have nT : Tm ≠ p := by omega
  clear hTm hGz hp2
  have hp3 := HD.out.lt
  have RG := Lib.hid (HM.rw_ 1 rfl)
  have RT := Lib.hid (HM.rw_ 0 rfl)
  refine wp_region_relG (N := 124) (toV p G Tm kn d s b m w3) (toS p w3) (by kernel_rfl) (by kernel_rfl) (by rfl) ⟨HD.out.below (bdrw (b0 _)), But.of_below (bdrw (b0 _))⟩ (no_gd (by kernel_rfl)) ?_ ?_
  · intro i o L a' W ho hl hL hS hdf dep all fr dwn
    match i, ho with
    | 0, ho =>
      obtain rfl := so ho
      have f3 := fr 3 (by kernel_rfl)
      unfold Oper.wp
      simp [go_sem, f3]
      exact ⟨_, rfl, rfl, toS_new hS (b0 _), fun j oj u _ _ _ _ hu => toV_keep (by decide) (by decide) hp3 (But.refl _ _) hu⟩
    | 1, ho =>
      obtain rfl := so ho
      have f4 := fr 4 (by kernel_rfl)
      have RW := RG.out.but hS.2 nG
      have h0 := RW.at_ 0 _ rfl
      have h1 := RW.at_ 1 _ rfl
      have h2 := RW.at_ 2 _ rfl
      have h3 := RW.at_ 3 _ rfl
      unfold Oper.wp
      simp [go_sem, f4, h0, h1, h2, h3]
      exact ⟨_, rfl, rfl, toS_new hS (b0 _), fun j oj u _ _ _ _ hu => toV_keep (by decide) (by decide) hp3 (But.refl _ _) hu⟩
    | 2, ho =>
      obtain rfl := so ho
      have f5 := fr 5 (by kernel_rfl)
      unfold Oper.wp
      simp [go_sem, f5]
      exact ⟨_, rfl, rfl, toS_new hS (b0 _), fun j oj u _ _ _ _ hu => toV_keep (by decide) (by decide) hp3 (But.refl _ _) hu⟩
    | 3, ho =>
      obtain rfl := so ho
      have d2 := dv (dep 2 _ rfl (by kernel_rfl)) (fun _ h => h) rfl
      have RW := RT.out.but hS.2 nT
      have h1 := RW.at_ 1 _ rfl
      unfold Oper.wp
      simp [go_sem, d2, h1]
      exact ⟨_, rfl, rfl, toS_new hS (b0 _), fun j oj u _ _ _ _ hu => toV_keep (by decide) (by decide) hp3 (But.refl _ _) hu⟩
    | 4, ho =>
      obtain rfl := so ho
      have d0 := dv (dep 0 _ rfl (by kernel_rfl)) (fun _ h => h) rfl
      have d1 := dv (dep 1 _ rfl (by kernel_rfl)) (fun _ h => h) rfl
      have d3 := dv (dep 3 _ rfl (by kernel_rfl)) (fun _ h => h) rfl
      refine wp_call1 (args := #[.pointer (some ⟨p, 0, none⟩), grdV d s b m, .int .i64 kn]) rfl (by simp [Act.eval, d0, d1, d3]) (ci9 _ _) (mtime_any p kn d s b m k1 k8 ⟨HG.out.d1, HG.out.d5⟩ ⟨HG.out.s2, HG.out.s8⟩ W hS.1) ?_
      rintro e w9 ⟨ws, dy, st, ln, rfl, ⟨q1, q2⟩, ⟨q3, q4⟩, ⟨q5, _⟩, ⟨q7, q8⟩, hdx, hbx⟩
      exact ⟨_, rfl, ⟨ws, dy, st, ln, rfl, ⟨q1, q2, q3, q4, q5, q7, q8⟩⟩, ⟨hdx, hS.2.trans hbx⟩, fun j oj u _ _ _ _ hu => toV_keep (by decide) (by decide) hp3 hbx hu⟩
    | 5, ho =>
      obtain rfl := so ho
      have f3 := fr 3 (by kernel_rfl)
      unfold Oper.wp
      simp [go_sem, f3]
      exact ⟨_, rfl, rfl, toS_new hS (b0 _), fun j oj u _ _ _ _ hu => toV_keep (by decide) (by decide) hp3 (But.refl _ _) hu⟩
    | 6, ho =>
      obtain rfl := so ho
      have f4 := fr 4 (by kernel_rfl)
      have RW := RG.out.but hS.2 nG
      have h0 := RW.at_ 0 _ rfl
      have h1 := RW.at_ 1 _ rfl
      have h2 := RW.at_ 2 _ rfl
      have h3 := RW.at_ 3 _ rfl
      unfold Oper.wp
      simp [go_sem, f4, h0, h1, h2, h3]
      exact ⟨_, rfl, rfl, toS_new hS (b0 _), fun j oj u _ _ _ _ hu => toV_keep (by decide) (by decide) hp3 (But.refl _ _) hu⟩
    | 7, ho =>
      obtain rfl := so ho
      have f5 := fr 5 (by kernel_rfl)
      unfold Oper.wp
      simp [go_sem, f5]
      exact ⟨_, rfl, rfl, toS_new hS (b0 _), fun j oj u _ _ _ _ hu => toV_keep (by decide) (by decide) hp3 (But.refl _ _) hu⟩
    | 8, ho =>
      obtain rfl := so ho
      have d7 := dv (dep 7 _ rfl (by kernel_rfl)) (fun _ h => h) rfl
      have RW := RT.out.but hS.2 nT
      have h1 := RW.at_ 1 _ rfl
      unfold Oper.wp
      simp [go_sem, d7, h1]
      exact ⟨_, rfl, rfl, toS_new hS (b0 _), fun j oj u _ _ _ _ hu => toV_keep (by decide) (by decide) hp3 (But.refl _ _) hu⟩
    | 9, ho =>
      obtain rfl := so ho
      have d5 := dv (dep 5 _ rfl (by kernel_rfl)) (fun _ h => h) rfl
      have d6 := dv (dep 6 _ rfl (by kernel_rfl)) (fun _ h => h) rfl
      have d8 := dv (dep 8 _ rfl (by kernel_rfl)) (fun _ h => h) rfl
      refine wp_call1 (args := #[.pointer (some ⟨p, 0, none⟩), grdV d s b m, .int .i64 kn]) rfl (by simp [Act.eval, d5, d6, d8]) (ci9 _ _) (mtime_any p kn d s b m k1 k8 ⟨HG.out.d1, HG.out.d5⟩ ⟨HG.out.s2, HG.out.s8⟩ W hS.1) ?_
      rintro e w9 ⟨ws, dy, st, ln, rfl, ⟨q1, q2⟩, ⟨q3, q4⟩, ⟨q5, _⟩, ⟨q7, q8⟩, hdx, hbx⟩
      exact ⟨_, rfl, ⟨ws, dy, st, ln, rfl, ⟨q1, q2, q3, q4, q5, q7, q8⟩⟩, ⟨hdx, hS.2.trans hbx⟩, fun j oj u _ _ _ _ hu => toV_keep (by decide) (by decide) hp3 hbx hu⟩
    | 10, ho =>
      obtain rfl := so ho
      unfold Oper.wp
      simp [go_sem, ]
      exact ⟨_, rfl, ⟨W.heap.size, 0, 0, 0, 0, rfl, hS.2.size, Rw.mk W [.int .i64 0, .int .i64 0, .int .i64 0, .int .i64 0] #[] 34 rfl, fun h => by rw [Array.getElem?_setIfInBounds_ne (by decide)] at h; have := dwn 12 _ rfl h 10 _ rfl (by kernel_rfl); rw [hl] at this; cases this⟩, toS_new hS (bpush (b0 _) _), fun j oj u _ _ _ _ hu => toV_keep (by decide) (by decide) hp3 (But.of_below (bpush (b0 _) _)) hu⟩
    | 11, ho =>
      obtain rfl := so ho
      unfold Oper.wp
      simp [go_sem, ]
      exact ⟨_, rfl, ⟨W.heap.size, 0, 0, 0, 0, rfl, hS.2.size, Rw.mk W [.int .i64 0, .int .i64 0, .int .i64 0, .int .i64 0] #[] 34 rfl, fun h => by rw [Array.getElem?_setIfInBounds_ne (by decide)] at h; have := dwn 13 _ rfl h 11 _ rfl (by kernel_rfl); rw [hl] at this; cases this⟩, toS_new hS (bpush (b0 _) _), fun j oj u _ _ _ _ hu => toV_keep (by decide) (by decide) hp3 (But.of_below (bpush (b0 _) _)) hu⟩
    | 12, ho =>
      obtain rfl := so ho
      obtain ⟨_, va, ⟨X, x1, x2, x3, x4, rfl, hX, hR, _⟩, da⟩ := dep 10 _ rfl (by kernel_rfl)
      have d10 := da 6 rfl
      obtain ⟨_, vv, ⟨ws, dy, st, ln, rfl, htm⟩, db⟩ := dep 4 _ rfl (by kernel_rfl)
      have d4 := db 29 rfl
      refine wp_store_mid 34 _ _ rfl X 0 #[.int .i64 ws, .int .i64 dy, .int .i64 st, .int .i64 ln] (by simp [Act.eval, d10]) (by simp [Act.eval, d4]) (rw_there hR 0 4 (Nat.le_refl _)) rfl (by kernel_rfl) ?_
      exact ⟨undef, rfl, trivial, toS_store hp3 hS hX, fun j oj u hoj hne hlj hdst hu => by
        by_cases hj : j = 10
        · subst hj
          obtain rfl := so hoj
          have hu2 := hdst 6 rfl
          rw [d10] at hu2
          obtain rfl := (Option.some.inj hu2).symm
          exact ⟨X, ws, dy, st, ln, rfl, hX, hR.setCells _ _ 0 (Nat.le_refl _), fun _ => htm⟩
        · exact toV_store hR rfl htm (fun e => absurd e hj) (fun e => Array.getElem?_setIfInBounds_ne (by decide)) hu⟩
    | 13, ho =>
      obtain rfl := so ho
      obtain ⟨_, va, ⟨X, x1, x2, x3, x4, rfl, hX, hR, _⟩, da⟩ := dep 11 _ rfl (by kernel_rfl)
      have d11 := da 7 rfl
      obtain ⟨_, vv, ⟨ws, dy, st, ln, rfl, htm⟩, db⟩ := dep 9 _ rfl (by kernel_rfl)
      have d9 := db 34 rfl
      refine wp_store_mid 34 _ _ rfl X 0 #[.int .i64 ws, .int .i64 dy, .int .i64 st, .int .i64 ln] (by simp [Act.eval, d11]) (by simp [Act.eval, d9]) (rw_there hR 0 4 (Nat.le_refl _)) rfl (by kernel_rfl) ?_
      exact ⟨undef, rfl, trivial, toS_store hp3 hS hX, fun j oj u hoj hne hlj hdst hu => by
        by_cases hj : j = 11
        · subst hj
          obtain rfl := so hoj
          have hu2 := hdst 7 rfl
          rw [d11] at hu2
          obtain rfl := (Option.some.inj hu2).symm
          exact ⟨X, ws, dy, st, ln, rfl, hX, hR.setCells _ _ 0 (Nat.le_refl _), fun _ => htm⟩
        · exact toV_store hR rfl htm (fun e => Array.getElem?_setIfInBounds_ne (by decide)) (fun e => absurd e hj) hu⟩
  · intro us W hS hV
    obtain ⟨A, wa, dya, sta, lna, hu6, hA, hRA, hTA⟩ := hV 10 _ rfl
    obtain ⟨B, wb, dyb, stb, lnb, hu7, hB, hRB, hTB⟩ := hV 11 _ rfl
    replace hTA := Lib.hid (hTA (by rw [Array.getElem?_replicate, if_pos (by decide)]))
    replace hTB := Lib.hid (hTB (by rw [Array.getElem?_replicate, if_pos (by decide)]))
    have hTl := HM.lt 0 rfl
    have hGl := HM.lt 1 rfl
    have hw3 := HM.bl.size
    replace HM := HM.off hS.2 hp0 (fun c hc => by
      rcases List.mem_cons.1 hc with rfl | hc
      · exact nT
      · rcases List.mem_cons.1 hc with rfl | hc
        · exact nG
        · cases hc)
    replace HI := Lib.hid (ints_but HI.out hS.2 hne)
    have HB : Mem w W [⟨B, [.int .i64 wb, .int .i64 dyb, .int .i64 stb, .int .i64 lnb], some 34⟩] := Mem.push ⟨HM.bl, (fun _ h => nomatch h), List.Pairwise.nil⟩ (.of hRB (by omega)) (fun _ h => nomatch h)
    replace HM : Mem w W [⟨A, [.int .i64 wa, .int .i64 dya, .int .i64 sta, .int .i64 lna], some 34⟩, ⟨Tm, [.int .i64 f, .int .i64 kn, .slice ha hs.length hc], some 31⟩, ⟨G, [.int .i64 d, .int .i64 s, .int .i64 b, .int .i64 m], some 28⟩] := HM.push (.of hRA (by omega)) (fun c hc => by
      rcases List.mem_cons.1 hc with rfl | hc
      · show A ≠ Tm; omega
      · rcases List.mem_cons.1 hc with rfl | hc
        · show A ≠ G; omega
        · cases hc)
    clear hV hS RG RT HD hp3 hRA hRB hA hB hTl hGl hw3 nG nT hne
    simp only [putAll, Act.put, List.setIfInBounds_toArray, List.set_cons_zero, List.set_cons_succ, Nat.zero_add, Nat.reduceAdd]
    rw [hu6, hu7]
    clear hu6 hu7
    generalize us 0 = z0 at *
    generalize us 1 = z1 at *
    generalize us 2 = z2 at *
    generalize us 3 = z3 at *
    generalize us 4 = z4 at *
    generalize us 5 = z5 at *
    generalize us 6 = z6 at *
    generalize us 7 = z7 at *
    generalize us 8 = z8 at *
    generalize us 9 = z9 at *
    have C := HM.facts
    simp only [facts, cellsAre, lts, apart, Nat.zero_add, Nat.reduceAdd, and_true] at C
    go_wp2_with fail
    refine ((evt_any d s b m f kn hs ha hs.length hc kn 97 wa dya sta lna W HG.out HI.out f0 HT.out rfl k1 k8 (by decide) hTA.out (HE.out.below HM.bl)).mono (fun _ _ h => evtQ h)).mono ?_
    obtain ⟨La, hLa⟩ : ∃ L, L = daysL f (kn : Int) hs wa dya 20 := ⟨_, rfl⟩
    rw [← hLa]
    rintro e w4 ⟨u1, sm1, i1, xa, xc, xb, xq, x1, y1, rfl, hb, hXx, hXy, hXe⟩
    replace HM := HM.below hb
    replace HB := HB.below hb
    replace HI := Lib.hid (HI.out.below hb)
    have HXx := Lib.hid hXx
    have HXy := Lib.hid hXy
    have HXe := Lib.hid hXe
    have HLa := Lib.hid hLa
    clear hb C hXx hXy hXe hLa
    have C := HM.facts
    simp only [facts, cellsAre, lts, apart, Nat.zero_add, Nat.reduceAdd, and_true] at C
    have C2 := HB.facts
    simp only [facts, cellsAre, lts, apart, Nat.zero_add, Nat.reduceAdd, and_true] at C2
    simp only [evG]
    go_wp2_with fail
    clear C C2
    replace HM := HM.alloc [.string u1, .int .i64 i1, .bool false, .int .i64 (ofF La), .int .i64 (ofL La), .int .i64 (ofEv La), .int .i64 (ofK La), .slice xa (ofX La).length xc, .slice xb (ofY La).length xq, .int .i64 x1, .int .i64 y1, .string sm1, zS] 39
    have hb := bpush (b0 w4) (.cells ([.string u1, .int .i64 i1, .bool false, .int .i64 (ofF La), .int .i64 (ofL La), .int .i64 (ofEv La), .int .i64 (ofK La), .slice xa (ofX La).length xc, .slice xb (ofY La).length xq, .int .i64 x1, .int .i64 y1, .string sm1, zS] : List Value).toArray 39)
    replace HB := HB.below hb
    replace HI := Lib.hid (HI.out.below hb)
    replace HXx := Lib.hid (HXx.out.below hb)
    replace HXy := Lib.hid (HXy.out.below hb)
    clear hb
    obtain ⟨w5, hW, HM, HB, HI, HXx, HXy⟩ : ∃ V, V = _ ∧ Mem w V _ ∧ Mem w V _ ∧ Hid (IntsAt V ha hs.length hs) ∧ Hid (IntsAt V xa (ofX La).length (ofX La)) ∧ Hid (IntsAt V xb (ofY La).length (ofY La)) := ⟨_, rfl, HM, HB, HI, HXx, HXy⟩
    rw [← hW]
    clear hW
    obtain ⟨X, hXn⟩ : ∃ n : Nat, n = w4.heap.size := ⟨_, rfl⟩
    rw [← hXn] at HM ⊢
    clear hXn
    refine ((evt_any d s b m f kn hs ha hs.length hc kn 98 wb dyb stb lnb w5 HG.out HI.out f0 HT.out rfl k1 k8 (by decide) hTB.out (HE.out.below HM.bl)).mono (fun _ _ h => evtQ h)).mono ?_
    obtain ⟨Lb, hLb⟩ : ∃ L, L = daysL f (kn : Int) hs wb dyb 20 := ⟨_, rfl⟩
    rw [← hLb]
    rintro e w6 ⟨u2, sm2, i2, ya, yc, yb, yq, x2, y2, rfl, hb, hYx, hYy, hYe⟩
    replace HM := HM.below hb
    replace HB := HB.below hb
    replace HI := Lib.hid (HI.out.below hb)
    replace HXx := Lib.hid (HXx.out.below hb)
    replace HXy := Lib.hid (HXy.out.below hb)
    have HYx := Lib.hid hYx
    have HYy := Lib.hid hYy
    have HYe := Lib.hid hYe
    have HLb := Lib.hid hLb
    clear hb hYx hYy hYe hLb
    have C := HM.facts
    simp only [facts, cellsAre, lts, apart, Nat.zero_add, Nat.reduceAdd, and_true] at C
    have C2 := HB.facts
    simp only [facts, cellsAre, lts, apart, Nat.zero_add, Nat.reduceAdd, and_true] at C2
    simp only [evG]
    have HMz := HM.alloc zeC 39
    repeat (fail_if_success (refine wpList_store_mid rfl 39 _ _ rfl w6.heap.size 0 _ rfl rfl ?_ ?_ ?_ ?_)); go_step
    refine HMz.wpStore 0 rfl 0 39 [.string u2, .int .i64 i2, .bool false, .int .i64 (ofF Lb), .int .i64 (ofL Lb), .int .i64 (ofEv Lb), .int .i64 (ofK Lb), .slice ya (ofX Lb).length yc, .slice yb (ofY Lb).length yq, .int .i64 x2, .int .i64 y2, .string sm2, zS] (by kernel_rfl) (by kernel_rfl) rfl rfl rfl rfl rfl ?_
    have hbY : Below w6.heap.size w6 ((w6.alloc (.cells zeC.toArray 39)).setCells w6.heap.size 0 [.string u2, .int .i64 i2, .bool false, .int .i64 (ofF Lb), .int .i64 (ofL Lb), .int .i64 (ofEv Lb), .int .i64 (ofK Lb), .slice ya (ofX Lb).length yc, .slice yb (ofY Lb).length yq, .int .i64 x2, .int .i64 y2, .string sm2, zS]) := But.below (bpush (b0 w6) (.cells zeC.toArray 39)) (But.setCells w6.heap.size _ 0) (Nat.le_refl _) (by simp)
    have HMY := HMz.sets 0 rfl 0 [.string u2, .int .i64 i2, .bool false, .int .i64 (ofF Lb), .int .i64 (ofL Lb), .int .i64 (ofEv Lb), .int .i64 (ofK Lb), .slice ya (ofX Lb).length yc, .slice yb (ofY Lb).length yq, .int .i64 x2, .int .i64 y2, .string sm2, zS] rfl
    clear C C2 HMz
    replace HB := HB.below hbY
    replace HI := Lib.hid (HI.out.below hbY)
    replace HXx := Lib.hid (HXx.out.below hbY)
    replace HXy := Lib.hid (HXy.out.below hbY)
    replace HYx := Lib.hid (HYx.out.below hbY)
    replace HYy := Lib.hid (HYy.out.below hbY)
    clear hbY HM
    obtain ⟨w7, hW, HMY, HB, HI, HXx, HXy, HYx, HYy⟩ : ∃ V, V = _ ∧ Mem w V _ ∧ Mem w V _ ∧ Hid (IntsAt V ha hs.length hs) ∧ Hid (IntsAt V xa (ofX La).length (ofX La)) ∧ Hid (IntsAt V xb (ofY La).length (ofY La)) ∧ Hid (IntsAt V ya (ofX Lb).length (ofX Lb)) ∧ Hid (IntsAt V yb (ofY Lb).length (ofY Lb)) := ⟨_, rfl, HMY, HB, HI, HXx, HXy, HYx, HYy⟩
    rw [← hW]
    clear hW
    obtain ⟨Y, hYn⟩ : ∃ n : Nat, n = w6.heap.size := ⟨_, rfl⟩
    rw [← hYn] at HMY ⊢
    clear hYn
    replace HMY : Mem w _ [⟨Y, [.string u2, .int .i64 i2, .bool false, .int .i64 (ofF Lb), .int .i64 (ofL Lb), .int .i64 (ofEv Lb), .int .i64 (ofK Lb), .slice ya (ofX Lb).length yc, .slice yb (ofY Lb).length yq, .int .i64 x2, .int .i64 y2, .string sm2, zS], some 39⟩, ⟨X, [.string u1, .int .i64 i1, .bool false, .int .i64 (ofF La), .int .i64 (ofL La), .int .i64 (ofEv La), .int .i64 (ofK La), .slice xa (ofX La).length xc, .slice xb (ofY La).length xq, .int .i64 x1, .int .i64 y1, .string sm1, zS], some 39⟩, ⟨A, [.int .i64 wa, .int .i64 dya, .int .i64 sta, .int .i64 lna], some 34⟩, ⟨Tm, [.int .i64 f, .int .i64 kn, .slice ha hs.length hc], some 31⟩, ⟨G, [.int .i64 d, .int .i64 s, .int .i64 b, .int .i64 m], some 28⟩] := HMY
    obtain ⟨oka, hoka⟩ : ∃ b, b = (ofE La == 0) := ⟨_, rfl⟩
    obtain ⟨okb, hokb⟩ : ∃ b, b = (ofE Lb == 0) := ⟨_, rfl⟩
    rw [← hoka, ← hokb]
    have dzA : Hid (oka = false → ∀ (V : World), IntsAt V ha hs.length hs → Calls Tryz.prog 11 #[.agg #[.int .i64 f, .int .i64 kn, .slice ha hs.length hc], .agg #[.int .i64 wa, .int .i64 dya, .int .i64 sta, .int .i64 lna]] V (NoDays V)) := Lib.hid (fun h V hV => no_days HT.out hTA.out k8 hV (by
      intro hx
      rw [← HLa.out] at hx
      rw [h, hx] at hoka
      exact absurd hoka (by decide)))
    have dzB : Hid (okb = false → ∀ (V : World), IntsAt V ha hs.length hs → Calls Tryz.prog 11 #[.agg #[.int .i64 f, .int .i64 kn, .slice ha hs.length hc], .agg #[.int .i64 wb, .int .i64 dyb, .int .i64 stb, .int .i64 lnb]] V (NoDays V)) := Lib.hid (fun h V hV => no_days HT.out hTB.out k8 hV (by
      intro hx
      rw [← HLb.out] at hx
      rw [h, hx] at hokb
      exact absurd hokb (by decide)))
    have C := HMY.facts
    simp only [facts, cellsAre, lts, apart, Nat.zero_add, Nat.reduceAdd, and_true] at C
    have C2 := HB.facts
    simp only [facts, cellsAre, lts, apart, Nat.zero_add, Nat.reduceAdd, and_true] at C2
    cases oka
    · clear hoka hokb
      cases okb
      · go_wp2_with fail
        refine ((dzA).out (by trivial) _ HI.out).mono ?_
        rintro e v9 ⟨a9, c9, rfl, hb9⟩
        replace HMY := HMY.below hb9
        replace HB := HB.below hb9
        replace HI := Lib.hid (HI.out.below hb9)
        clear hb9 C C2
        have C := HMY.facts
        simp only [facts, cellsAre, lts, apart, Nat.zero_add, Nat.reduceAdd, and_true] at C
        have C2 := HB.facts
        simp only [facts, cellsAre, lts, apart, Nat.zero_add, Nat.reduceAdd, and_true] at C2
        go_wp2_with fail
        refine ((dzB).out (by trivial) _ HI.out).mono ?_
        rintro e v9 ⟨a9, c9, rfl, hb9⟩
        replace HMY := HMY.below hb9
        replace HB := HB.below hb9
        replace HI := Lib.hid (HI.out.below hb9)
        clear hb9 C C2
        have C := HMY.facts
        simp only [facts, cellsAre, lts, apart, Nat.zero_add, Nat.reduceAdd, and_true] at C
        have C2 := HB.facts
        simp only [facts, cellsAre, lts, apart, Nat.zero_add, Nat.reduceAdd, and_true] at C2
        go_wp2_with fail
        refine (second_any _ (HE.out.below HMY.bl)).mono ?_
        rintro e v8 ⟨rfl, hb8⟩
        replace HMY := HMY.below hb8
        clear hb8
        go_wp2_with fail
        go_ret
        exact ⟨rfl, HMY.bl⟩
      · go_wp2_with fail
        refine ((dzA).out (by trivial) _ HI.out).mono ?_
        rintro e v9 ⟨a9, c9, rfl, hb9⟩
        replace HMY := HMY.below hb9
        replace HB := HB.below hb9
        replace HI := Lib.hid (HI.out.below hb9)
        clear hb9 C C2
        have C := HMY.facts
        simp only [facts, cellsAre, lts, apart, Nat.zero_add, Nat.reduceAdd, and_true] at C
        have C2 := HB.facts
        simp only [facts, cellsAre, lts, apart, Nat.zero_add, Nat.reduceAdd, and_true] at C2
        go_wp2_with fail
        refine (second_any _ (HE.out.below HMY.bl)).mono ?_
        rintro e v8 ⟨rfl, hb8⟩
        replace HMY := HMY.below hb8
        clear hb8
        go_wp2_with fail
        go_ret
        exact ⟨rfl, HMY.bl⟩
    · cases okb
      · clear hoka hokb
        go_wp2_with fail
        refine ((dzB).out (by trivial) _ HI.out).mono ?_
        rintro e v9 ⟨a9, c9, rfl, hb9⟩
        replace HMY := HMY.below hb9
        replace HB := HB.below hb9
        replace HI := Lib.hid (HI.out.below hb9)
        clear hb9 C C2
        have C := HMY.facts
        simp only [facts, cellsAre, lts, apart, Nat.zero_add, Nat.reduceAdd, and_true] at C
        have C2 := HB.facts
        simp only [facts, cellsAre, lts, apart, Nat.zero_add, Nat.reduceAdd, and_true] at C2
        go_wp2_with fail
        refine (second_any _ (HE.out.below HMY.bl)).mono ?_
        rintro e v8 ⟨rfl, hb8⟩
        replace HMY := HMY.below hb8
        clear hb8
        go_wp2_with fail
        go_ret
        exact ⟨rfl, HMY.bl⟩
      · clear dzA dzB
        have hea : ofE La = 0 := by simpa using hoka
        have heb : ofE Lb = 0 := by simpa using hokb
        clear hoka hokb
        have HX1 := Lib.hid (HXe.out hea)
        have HY1 := Lib.hid (HYe.out heb)
        have HA0 := Lib.hid hea
        have HB0 := Lib.hid heb
        clear HXe HYe hea heb
        go_wp2_with fail
        refine (days_any _ _ _ _ _ _ _ _ _ _ (ofX La) (ofY La) _ HXx.out HXy.out (exc_small HA0.out)).mono ?_
        rw [of_days HA0.out]
        rintro e w8 ⟨v, rfl, hr, hb⟩
        obtain ⟨la, lc, rfl, hLI⟩ := IntsAt.of_owns hr
        replace HMY := HMY.below hb
        replace HB := HB.below hb
        have HLI := Lib.hid hLI
        replace HYx := Lib.hid (HYx.out.below hb)
        replace HYy := Lib.hid (HYy.out.below hb)
        clear hb hLI hr C C2 HXx HXy HI
        have HH := Lib.hid (fun (V : World) (q : Int) (h : Below w8.heap.size w8 V) => holds_any (ofF Lb) (ofL Lb) (ofEv Lb) (ofK Lb) q ya (ofX Lb).length yc yb (ofY Lb).length yq (ofX Lb) (ofY Lb) V (HYx.out.below h) (HYy.out.below h) (exc_small HB0.out))
        rw [of_days HB0.out] at HH
        clear HYx HYy
        have hbw : Below w8.heap.size w8 w8 := Below.refl _ _
        have HBW := Lib.hid hbw
        clear hbw
        go_wp2_with fail
        go_loopw [12, 14] (fun sh i wr => ∃ (j : Nat) (q : Bool), j ≤ La.length ∧ i = .int .i64 j ∧ sh = .bool q ∧ Hid (q = true → ∃ x, x ∈ La ∧ x ∈ Lb ∧ x1 < x2 + y2 ∧ x2 < x1 + y1) ∧ Hid (Below w8.heap.size w8 wr)) (fun _ i _ => La.length - (intOf i).toNat)
        case atStart => exact ⟨0, false, by omega, rfl, rfl, Lib.hid (fun h => absurd h (by decide)), HBW⟩
        case round =>
          obtain ⟨j, q, hj, rfl, rfl, HQ, HW⟩ := hrel
          have HMW := HMY.below HW.out
          have HBB := HB.below HW.out
          by_cases hlt : j < La.length
          · obtain ⟨ba, oa, rfl, _, _⟩ := HLI.out.cell hlt
            have HLJ := Lib.hid (HLI.out.below HW.out)
            have HRY := Lib.hid (HMW.rw_ 0 rfl)
            have HRX := Lib.hid (HMW.rw_ 1 rfl)
            have bx := tb_in HG.out hTA.out HX1.out
            have by_ := tb_in HG.out hTB.out HY1.out
            have j0 : (0 : Int) ≤ j := by omega
            have jn : (j : Int) < La.length := by omega
            have jt : (j : Int).toNat = j := by omega
            have jw : IntKind.i64.wrap ((j : Int) + 1) = (j : Int) + 1 := IntWalk.i64_in _ (by have := HLI.out.le; omega)
            have s1 : IntKind.i64.wrap (x1 + y1) = x1 + y1 := IntWalk.i64_in _ (by omega)
            have s2 : IntKind.i64.wrap (x2 + y2) = x2 + y2 := IntWalk.i64_in _ (by omega)
            clear bx by_
            obtain ⟨c7, hc7⟩ : ∃ c, c = hasI Lb (La.getD j 0) := ⟨_, rfl⟩
            obtain ⟨d1, hd1⟩ : ∃ c, c = decide (x1 < x2 + y2) := ⟨_, rfl⟩
            obtain ⟨d2, hd2⟩ : ∃ c, c = decide (x2 < x1 + y1) := ⟨_, rfl⟩
            replace hc7 := Lib.hid hc7
            replace hd1 := Lib.hid hd1
            replace hd2 := Lib.hid hd2
            go_upto_region 15 with fail
            refine wp_region_relM (N := 124) (lpG c7 (c7 && d1)) (lpV X Y (some ⟨ba, oa, none⟩) La.length lc j ba oa (serV (ofF Lb) (ofL Lb) (ofEv Lb) (ofK Lb) ya (ofX Lb).length yc yb (ofY Lb).length yq) c7 d1 d2 x1 y1 x2 y2 (La.getD j 0)) (fun _ W => Below wr.heap.size wr W) (by kernel_rfl) (by kernel_rfl) (by rfl) (bdrw (b0 wr)) ?_ ?_ ?_
            · intro i o g bb ho hg
              match i, ho with
              | 0, ho => obtain rfl := so ho; cases hg
              | 1, ho => obtain rfl := so ho; cases hg
              | 2, ho => obtain rfl := so ho; cases hg
              | 3, ho => obtain rfl := so ho; cases hg
              | 4, ho => obtain rfl := so ho; cases hg
              | 5, ho => obtain rfl := so ho; cases hg
              | 6, ho => obtain rfl := so ho; cases hg
              | 7, ho => obtain rfl := so ho; cases hg
              | 8, ho => obtain rfl := so ho; cases hg; intro _ _ _ h; exact gd_of h
              | 9, ho => obtain rfl := so ho; cases hg; intro _ _ _ h; exact gd_of h
              | 10, ho => obtain rfl := so ho; cases hg; intro _ _ _ h; exact gd_of h
              | 11, ho => obtain rfl := so ho; cases hg; intro _ _ _ h; exact gd_of h
              | 12, ho => obtain rfl := so ho; cases hg; intro _ _ _ h; exact gd_of h
              | 13, ho => obtain rfl := so ho; cases hg; intro _ _ _ h; exact gd_of h
              | 14, ho => obtain rfl := so ho; cases hg; intro _ _ _ h; exact gd_of h
              | 15, ho => obtain rfl := so ho; cases hg; intro _ _ _ h; exact gd_of h
              | 16, ho => obtain rfl := so ho; cases hg
              | 17, ho => obtain rfl := so ho; cases hg
              | 18, ho => obtain rfl := so ho; cases hg; intro _ _ _ h; exact gd_of h
              | 19, ho => obtain rfl := so ho; cases hg; intro _ _ _ h; exact gd_of h
              | 20, ho => obtain rfl := so ho; cases hg; intro _ _ _ h; exact gd_of h
              | 21, ho => obtain rfl := so ho; cases hg; intro _ _ _ h; exact gd_of h
              | 22, ho => obtain rfl := so ho; cases hg; intro _ _ _ h; exact gd_of h
              | 23, ho => obtain rfl := so ho; cases hg; intro _ _ _ h; exact gd_of h
              | 24, ho => obtain rfl := so ho; cases hg; intro _ _ _ h; exact gd_of h
              | 25, ho => obtain rfl := so ho; cases hg; intro _ _ _ h; exact gd_of h
              | 26, ho => obtain rfl := so ho; cases hg
            · intro i o L a' W ho hl hL hS hdf dep all fr dwn
              match i, ho with
              | 0, ho =>
                obtain rfl := so ho
                refine ⟨fun _ => ?_, fun hg => absurd rfl hg⟩
                have f10 := fr 10 (by kernel_rfl)
                unfold Oper.wp
                simp [go_sem, f10]
                exact ⟨_, rfl, rfl, hS, fun j oj u _ _ _ _ hu => hu⟩
              | 1, ho =>
                obtain rfl := so ho
                refine ⟨fun _ => ?_, fun hg => absurd rfl hg⟩
                have d0 := dv (dep 0 _ rfl (by kernel_rfl)) (fun _ h => h) rfl
                refine wp_load_mid 37 _ rfl Y 3 (by simp [Act.eval, d0]) [.int .i64 (ofF Lb), .int .i64 (ofL Lb), .int .i64 (ofEv Lb), .int .i64 (ofK Lb), .slice ya (ofX Lb).length yc, .slice yb (ofY Lb).length yq] _ ((HRY.out.below hS).at_.range 3 6 (by simp)) Tryz.underlying37 rfl (by kernel_rfl) ?_
                exact ⟨_, rfl, rfl, hS, fun j oj u _ _ _ _ hu => hu⟩
              | 2, ho =>
                obtain rfl := so ho
                refine ⟨fun _ => ?_, fun hg => absurd rfl hg⟩
                have f13 := fr 13 (by kernel_rfl)
                unfold Oper.wp
                simp [go_sem, f13]
                exact ⟨_, rfl, rfl, hS, fun j oj u _ _ _ _ hu => hu⟩
              | 3, ho =>
                obtain rfl := so ho
                refine ⟨fun _ => ?_, fun hg => absurd rfl hg⟩
                have f14 := fr 14 (by kernel_rfl)
                unfold Oper.wp
                simp [go_sem, f14]
                exact ⟨_, rfl, rfl, hS, fun j oj u _ _ _ _ hu => hu⟩
              | 4, ho =>
                obtain rfl := so ho
                refine ⟨fun _ => ?_, fun hg => absurd rfl hg⟩
                have d2 := dv (dep 2 _ rfl (by kernel_rfl)) (fun _ h => h) rfl
                have d3 := dv (dep 3 _ rfl (by kernel_rfl)) (fun _ h => h) rfl
                unfold Oper.wp
                simp [go_sem, d2, d3, j0, jn, jt]
                exact ⟨_, rfl, rfl, hS, fun j oj u _ _ _ _ hu => hu⟩
              | 5, ho =>
                obtain rfl := so ho
                refine ⟨fun _ => ?_, fun hg => absurd rfl hg⟩
                have d4 := dv (dep 4 _ rfl (by kernel_rfl)) (fun _ h => h) rfl
                have hcl : W.cell? ⟨ba, oa + j, none⟩ = some (.int .i64 (La.getD j 0)) := by
                  have := ((HLJ.out.below hS).2.2.resolve_left (by omega))
                  obtain ⟨b9, o9, he, hc9⟩ := this
                  cases he
                  exact hc9 j hlt
                unfold Oper.wp
                simp [go_sem, d4, hcl]
                exact ⟨_, rfl, rfl, hS, fun j oj u _ _ _ _ hu => hu⟩
              | 6, ho =>
                obtain rfl := so ho
                refine ⟨fun _ => ?_, fun hg => absurd rfl hg⟩
                have d1 := dv (dep 1 _ rfl (by kernel_rfl)) (fun _ h => h) rfl
                have d5 := dv (dep 5 _ rfl (by kernel_rfl)) (fun _ h => h) rfl
                refine wp_call1 (args := #[(serV (ofF Lb) (ofL Lb) (ofEv Lb) (ofK Lb) ya (ofX Lb).length yc yb (ofY Lb).length yq), .int .i64 (La.getD j 0)]) rfl (by simp [Act.eval, d1, d5]) (ci13 _ _) (HH.out W _ (below3 HW.out hS)) ?_
                rintro e w9 ⟨rfl, hb9⟩
                exact ⟨_, rfl, congrArg Value.bool hc7.out.symm, below3 hS hb9, fun j oj u _ _ _ _ hu => hu⟩
              | 7, ho =>
                obtain rfl := so ho
                refine ⟨fun _ => ?_, fun hg => absurd rfl hg⟩
                have d6 := dv (dep 6 _ rfl (by kernel_rfl)) (fun _ h => h) rfl
                unfold Oper.wp
                simp [go_sem, d6]
                exact ⟨_, rfl, rfl, hS, fun j oj u _ _ _ _ hu => hu⟩
              | 8, ho =>
                obtain rfl := so ho
                refine ⟨fun hg => ?_, fun _ hg => ⟨_, rfl, fun hc => absurd (hc.symm.trans hg) (by decide), hS, fun j oj u _ _ _ _ hu => hu⟩⟩
                have hc : (c7) = true := hg.resolve_left (by simp)
                clear hg
                have f8 := fr 8 (by kernel_rfl)
                unfold Oper.wp
                simp [go_sem, f8]
                exact ⟨_, rfl, fun _ => rfl, hS, fun j oj u _ _ _ _ hu => hu⟩
              | 9, ho =>
                obtain rfl := so ho
                refine ⟨fun hg => ?_, fun _ hg => ⟨_, rfl, fun hc => absurd (hc.symm.trans hg) (by decide), hS, fun j oj u _ _ _ _ hu => hu⟩⟩
                have hc : (c7) = true := hg.resolve_left (by simp)
                clear hg
                have d8 := dv (dep 8 _ rfl (by kernel_rfl)) (fun _ h => h hc) rfl
                have hcl := (HRX.out.below hS).at_ 9 _ rfl
                unfold Oper.wp
                simp [go_sem, d8, hcl]
                exact ⟨_, rfl, fun _ => rfl, hS, fun j oj u _ _ _ _ hu => hu⟩
              | 10, ho =>
                obtain rfl := so ho
                refine ⟨fun hg => ?_, fun _ hg => ⟨_, rfl, fun hc => absurd (hc.symm.trans hg) (by decide), hS, fun j oj u _ _ _ _ hu => hu⟩⟩
                have hc : (c7) = true := hg.resolve_left (by simp)
                clear hg
                have f10 := fr 10 (by kernel_rfl)
                unfold Oper.wp
                simp [go_sem, f10]
                exact ⟨_, rfl, fun _ => rfl, hS, fun j oj u _ _ _ _ hu => hu⟩
              | 11, ho =>
                obtain rfl := so ho
                refine ⟨fun hg => ?_, fun _ hg => ⟨_, rfl, fun hc => absurd (hc.symm.trans hg) (by decide), hS, fun j oj u _ _ _ _ hu => hu⟩⟩
                have hc : (c7) = true := hg.resolve_left (by simp)
                clear hg
                have d10 := dv (dep 10 _ rfl (by kernel_rfl)) (fun _ h => h hc) rfl
                have hcl := (HRY.out.below hS).at_ 9 _ rfl
                unfold Oper.wp
                simp [go_sem, d10, hcl]
                exact ⟨_, rfl, fun _ => rfl, hS, fun j oj u _ _ _ _ hu => hu⟩
              | 12, ho =>
                obtain rfl := so ho
                refine ⟨fun hg => ?_, fun _ hg => ⟨_, rfl, fun hc => absurd (hc.symm.trans hg) (by decide), hS, fun j oj u _ _ _ _ hu => hu⟩⟩
                have hc : (c7) = true := hg.resolve_left (by simp)
                clear hg
                have f10 := fr 10 (by kernel_rfl)
                unfold Oper.wp
                simp [go_sem, f10]
                exact ⟨_, rfl, fun _ => rfl, hS, fun j oj u _ _ _ _ hu => hu⟩
              | 13, ho =>
                obtain rfl := so ho
                refine ⟨fun hg => ?_, fun _ hg => ⟨_, rfl, fun hc => absurd (hc.symm.trans hg) (by decide), hS, fun j oj u _ _ _ _ hu => hu⟩⟩
                have hc : (c7) = true := hg.resolve_left (by simp)
                clear hg
                have d12 := dv (dep 12 _ rfl (by kernel_rfl)) (fun _ h => h hc) rfl
                have hcl := (HRY.out.below hS).at_ 10 _ rfl
                unfold Oper.wp
                simp [go_sem, d12, hcl]
                exact ⟨_, rfl, fun _ => rfl, hS, fun j oj u _ _ _ _ hu => hu⟩
              | 14, ho =>
                obtain rfl := so ho
                refine ⟨fun hg => ?_, fun _ hg => ⟨_, rfl, fun hc => absurd (hc.symm.trans hg) (by decide), hS, fun j oj u _ _ _ _ hu => hu⟩⟩
                have hc : (c7) = true := hg.resolve_left (by simp)
                clear hg
                have d11 := dv (dep 11 _ rfl (by kernel_rfl)) (fun _ h => h hc) rfl
                have d13 := dv (dep 13 _ rfl (by kernel_rfl)) (fun _ h => h hc) rfl
                unfold Oper.wp
                simp [go_sem, d11, d13, s2]
                exact ⟨_, rfl, fun _ => rfl, hS, fun j oj u _ _ _ _ hu => hu⟩
              | 15, ho =>
                obtain rfl := so ho
                refine ⟨fun hg => ?_, fun _ hg => ⟨_, rfl, fun hc => absurd (hc.symm.trans hg) (by decide), hS, fun j oj u _ _ _ _ hu => hu⟩⟩
                have hc : (c7) = true := hg.resolve_left (by simp)
                clear hg
                have d9 := dv (dep 9 _ rfl (by kernel_rfl)) (fun _ h => h hc) rfl
                have d14 := dv (dep 14 _ rfl (by kernel_rfl)) (fun _ h => h hc) rfl
                unfold Oper.wp
                simp [go_sem, d9, d14]
                exact ⟨_, rfl, fun _ => congrArg Value.bool hd1.out.symm, hS, fun j oj u _ _ _ _ hu => hu⟩
              | 16, ho =>
                obtain rfl := so ho
                refine ⟨fun _ => ?_, fun hg => absurd rfl hg⟩
                have d7 := dv (dep 7 _ rfl (by kernel_rfl)) (fun _ h => h) rfl
                rcases Bool.eq_false_or_eq_true (c7) with hc | hc
                · have d15 := dv (dep 15 _ rfl (by kernel_rfl)) (fun _ h => h hc) rfl
                  rw [hc] at d7
                  unfold Oper.wp
                  simp [go_sem, d7, d15]
                  exact ⟨_, rfl, (by simp [lpV, hc]), hS, fun j oj u _ _ _ _ hu => hu⟩
                · obtain ⟨_, v15, _, e15⟩ := dep 15 _ rfl (by kernel_rfl)
                  have d15 := e15 102 rfl
                  rw [hc] at d7
                  unfold Oper.wp
                  simp [go_sem, d7, d15]
                  exact ⟨_, rfl, (by simp [lpV, hc]), hS, fun j oj u _ _ _ _ hu => hu⟩
              | 17, ho =>
                obtain rfl := so ho
                refine ⟨fun _ => ?_, fun hg => absurd rfl hg⟩
                have d16 := dv (dep 16 _ rfl (by kernel_rfl)) (fun _ h => h) rfl
                unfold Oper.wp
                simp [go_sem, d16]
                exact ⟨_, rfl, rfl, hS, fun j oj u _ _ _ _ hu => hu⟩
              | 18, ho =>
                obtain rfl := so ho
                refine ⟨fun hg => ?_, fun _ hg => ⟨_, rfl, fun hc => absurd (hc.symm.trans hg) (by decide), hS, fun j oj u _ _ _ _ hu => hu⟩⟩
                have hc : (c7 && d1) = true := hg.resolve_left (by simp)
                clear hg
                have f10 := fr 10 (by kernel_rfl)
                unfold Oper.wp
                simp [go_sem, f10]
                exact ⟨_, rfl, fun _ => rfl, hS, fun j oj u _ _ _ _ hu => hu⟩
              | 19, ho =>
                obtain rfl := so ho
                refine ⟨fun hg => ?_, fun _ hg => ⟨_, rfl, fun hc => absurd (hc.symm.trans hg) (by decide), hS, fun j oj u _ _ _ _ hu => hu⟩⟩
                have hc : (c7 && d1) = true := hg.resolve_left (by simp)
                clear hg
                have d18 := dv (dep 18 _ rfl (by kernel_rfl)) (fun _ h => h hc) rfl
                have hcl := (HRY.out.below hS).at_ 9 _ rfl
                unfold Oper.wp
                simp [go_sem, d18, hcl]
                exact ⟨_, rfl, fun _ => rfl, hS, fun j oj u _ _ _ _ hu => hu⟩
              | 20, ho =>
                obtain rfl := so ho
                refine ⟨fun hg => ?_, fun _ hg => ⟨_, rfl, fun hc => absurd (hc.symm.trans hg) (by decide), hS, fun j oj u _ _ _ _ hu => hu⟩⟩
                have hc : (c7 && d1) = true := hg.resolve_left (by simp)
                clear hg
                have f8 := fr 8 (by kernel_rfl)
                unfold Oper.wp
                simp [go_sem, f8]
                exact ⟨_, rfl, fun _ => rfl, hS, fun j oj u _ _ _ _ hu => hu⟩
              | 21, ho =>
                obtain rfl := so ho
                refine ⟨fun hg => ?_, fun _ hg => ⟨_, rfl, fun hc => absurd (hc.symm.trans hg) (by decide), hS, fun j oj u _ _ _ _ hu => hu⟩⟩
                have hc : (c7 && d1) = true := hg.resolve_left (by simp)
                clear hg
                have d20 := dv (dep 20 _ rfl (by kernel_rfl)) (fun _ h => h hc) rfl
                have hcl := (HRX.out.below hS).at_ 9 _ rfl
                unfold Oper.wp
                simp [go_sem, d20, hcl]
                exact ⟨_, rfl, fun _ => rfl, hS, fun j oj u _ _ _ _ hu => hu⟩
              | 22, ho =>
                obtain rfl := so ho
                refine ⟨fun hg => ?_, fun _ hg => ⟨_, rfl, fun hc => absurd (hc.symm.trans hg) (by decide), hS, fun j oj u _ _ _ _ hu => hu⟩⟩
                have hc : (c7 && d1) = true := hg.resolve_left (by simp)
                clear hg
                have f8 := fr 8 (by kernel_rfl)
                unfold Oper.wp
                simp [go_sem, f8]
                exact ⟨_, rfl, fun _ => rfl, hS, fun j oj u _ _ _ _ hu => hu⟩
              | 23, ho =>
                obtain rfl := so ho
                refine ⟨fun hg => ?_, fun _ hg => ⟨_, rfl, fun hc => absurd (hc.symm.trans hg) (by decide), hS, fun j oj u _ _ _ _ hu => hu⟩⟩
                have hc : (c7 && d1) = true := hg.resolve_left (by simp)
                clear hg
                have d22 := dv (dep 22 _ rfl (by kernel_rfl)) (fun _ h => h hc) rfl
                have hcl := (HRX.out.below hS).at_ 10 _ rfl
                unfold Oper.wp
                simp [go_sem, d22, hcl]
                exact ⟨_, rfl, fun _ => rfl, hS, fun j oj u _ _ _ _ hu => hu⟩
              | 24, ho =>
                obtain rfl := so ho
                refine ⟨fun hg => ?_, fun _ hg => ⟨_, rfl, fun hc => absurd (hc.symm.trans hg) (by decide), hS, fun j oj u _ _ _ _ hu => hu⟩⟩
                have hc : (c7 && d1) = true := hg.resolve_left (by simp)
                clear hg
                have d21 := dv (dep 21 _ rfl (by kernel_rfl)) (fun _ h => h hc) rfl
                have d23 := dv (dep 23 _ rfl (by kernel_rfl)) (fun _ h => h hc) rfl
                unfold Oper.wp
                simp [go_sem, d21, d23, s1]
                exact ⟨_, rfl, fun _ => rfl, hS, fun j oj u _ _ _ _ hu => hu⟩
              | 25, ho =>
                obtain rfl := so ho
                refine ⟨fun hg => ?_, fun _ hg => ⟨_, rfl, fun hc => absurd (hc.symm.trans hg) (by decide), hS, fun j oj u _ _ _ _ hu => hu⟩⟩
                have hc : (c7 && d1) = true := hg.resolve_left (by simp)
                clear hg
                have d19 := dv (dep 19 _ rfl (by kernel_rfl)) (fun _ h => h hc) rfl
                have d24 := dv (dep 24 _ rfl (by kernel_rfl)) (fun _ h => h hc) rfl
                unfold Oper.wp
                simp [go_sem, d19, d24]
                exact ⟨_, rfl, fun _ => congrArg Value.bool hd2.out.symm, hS, fun j oj u _ _ _ _ hu => hu⟩
              | 26, ho =>
                obtain rfl := so ho
                refine ⟨fun _ => ?_, fun hg => absurd rfl hg⟩
                have d17 := dv (dep 17 _ rfl (by kernel_rfl)) (fun _ h => h) rfl
                rcases Bool.eq_false_or_eq_true (c7 && d1) with hc | hc
                · have d25 := dv (dep 25 _ rfl (by kernel_rfl)) (fun _ h => h hc) rfl
                  rw [hc] at d17
                  unfold Oper.wp
                  simp [go_sem, d17, d25]
                  exact ⟨_, rfl, (by simp only [lpV]; rw [hc]; simp), hS, fun j oj u _ _ _ _ hu => hu⟩
                · obtain ⟨_, v25, _, e25⟩ := dep 25 _ rfl (by kernel_rfl)
                  have d25 := e25 112 rfl
                  rw [hc] at d17
                  unfold Oper.wp
                  simp [go_sem, d17, d25]
                  exact ⟨_, rfl, (by simp only [lpV]; rw [hc]; simp), hS, fun j oj u _ _ _ _ hu => hu⟩
            · intro us W9 hS hV
              have hu := hV 26 _ rfl
              clear hV
              simp only [putAll, Act.put, List.setIfInBounds_toArray, List.set_cons_zero, List.set_cons_succ, Nat.zero_add, Nat.reduceAdd]
              replace hu : us 26 = .bool ((c7 && d1) && d2) := hu
              rw [hu]
              clear hu HRX HRY HLJ HMW HBB s1 s2 j0 jn jt
              have HQ2 : Hid (((c7 && d1) && d2) = true → ∃ x, x ∈ La ∧ x ∈ Lb ∧ x1 < x2 + y2 ∧ x2 < x1 + y1) := Lib.hid (fun h => by
                rw [Bool.and_eq_true, Bool.and_eq_true] at h
                obtain ⟨⟨h1, h2⟩, h3⟩ := h
                rw [hc7.out] at h1
                rw [hd1.out] at h2
                rw [hd2.out] at h3
                refine ⟨La.getD j 0, ?_, of_decide_eq_true h1, of_decide_eq_true h2, of_decide_eq_true h3⟩
                rw [List.getD_eq_getElem?_getD, List.getElem?_eq_getElem hlt, Option.getD_some]
                exact List.getElem_mem hlt)
              clear hc7 hd1 hd2
              generalize ((c7 && d1) && d2) = cc at *
              clear c7 d1 d2
              have HW9 := Lib.hid (below3 HW.out hS)
              clear hS
              generalize us 0 = z0 at *
              generalize us 1 = z1 at *
              generalize us 2 = z2 at *
              generalize us 3 = z3 at *
              generalize us 4 = z4 at *
              generalize us 5 = z5 at *
              generalize us 6 = z6 at *
              generalize us 7 = z7 at *
              generalize us 8 = z8 at *
              generalize us 9 = z9 at *
              generalize us 10 = z10 at *
              generalize us 11 = z11 at *
              generalize us 12 = z12 at *
              generalize us 13 = z13 at *
              generalize us 14 = z14 at *
              generalize us 15 = z15 at *
              generalize us 16 = z16 at *
              generalize us 17 = z17 at *
              generalize us 18 = z18 at *
              generalize us 19 = z19 at *
              generalize us 20 = z20 at *
              generalize us 21 = z21 at *
              generalize us 22 = z22 at *
              generalize us 23 = z23 at *
              generalize us 24 = z24 at *
              generalize us 25 = z25 at *
              cases cc
              · go_wp2_with fail
                go_roundw
                case rel => exact ⟨j + 1, q, by omega, by go_num, rfl, HQ, HW9⟩
                case measure => simp [intOf]; omega
              · go_wp2_with fail
                go_roundw
                case rel => exact ⟨j + 1, true, by omega, by go_num, rfl, HQ2, HW9⟩
                case measure => simp [intOf]; omega
          · have HEW := Lib.hid (HE.out.below HMW.bl)
            have C := HMW.facts
            simp only [facts, cellsAre, lts, apart, Nat.zero_add, Nat.reduceAdd, and_true] at C
            have C2 := HBB.facts
            simp only [facts, cellsAre, lts, apart, Nat.zero_add, Nat.reduceAdd, and_true] at C2
            cases q
            · clear HQ
              go_wp2_with fail
              refine (second_any _ HEW.out).mono ?_
              rintro e v8 ⟨rfl, hb8⟩
              replace HMW := HMW.below hb8
              clear hb8
              go_wp2_with fail
              go_ret
              exact ⟨rfl, HMW.bl⟩
            · have HO := Lib.hid (fun (V : World) => ovl_any HG.out k8 hTA.out hTB.out HX1.out HY1.out (by
                rw [← HLa.out, ← HLb.out]
                exact HQ.out rfl) V)
              clear HQ
              go_wp2_with fail
              refine (HO.out _).mono ?_
              rintro e v7 ⟨rfl, hb7⟩
              replace HMW := HMW.below hb7
              clear hb7 HO C C2
              go_wp2_with fail
              refine (second_any _ (HE.out.below HMW.bl)).mono ?_
              rintro e v8 ⟨rfl, hb8⟩
              replace HMW := HMW.below hb8
              clear hb8
              go_wp2_with fail
              go_ret
              exact ⟨rfl, HMW.bl⟩
end Go.Proofs.YtcifdllbnbhcdaaGreatDoor.Rc
