/- Texts T2, T3, T4, joined: walks and laws. -/
import Derived.Test.YtcifdllbnbhcdaaGreatDoorMK04
import Derived.Test.YtcifdllbnbhcdaaGreatDoorMT01
import Derived.Test.YtcifdllbnbhcdaaGreatDoorMV04
import Derived.Test.YtcifdllbnbhcdaaGreatDoorMV22
set_option linter.unusedSimpArgs false
set_option linter.unusedVariables false
namespace Go.Proofs.YtcifdllbnbhcdaaGreatDoor.Rc
open Go.RowKit TT
def SetR (p n : Nat) (w : World) (e : Ending) (w' : World) : Prop := ∃ r : Int, 1 ≤ r ∧ r < 2 ^ n ∧ e = .returned (.int .i64 r) ∧ DiceAt w' p ∧ But p w w'
set_option maxRecDepth 100000 in
set_option maxHeartbeats 8000000 in
theorem set_any (p n : Nat) (h1 : 1 ≤ n) (h8 : n ≤ 8) (w : World) (hD : DiceAt w p) : Calls Tryz.prog 19 #[.pointer (some ⟨p, 0, none⟩), .int .i64 n] w (SetR p n w) := by
  have HD := Lib.hid hD
  have N4 := Lib.hid (next_any p 4 w (by omega) (by omega) hD)
  clear hD
  have hn : n = 1 ∨ n = 2 ∨ n = 3 ∨ n = 4 ∨ n = 5 ∨ n = 6 ∨ n = 7 ∨ n = 8 := by omega
  clear h1 h8
  rcases hn with rfl | rfl | rfl | rfl | rfl | rfl | rfl | rfl
  all_goals (
    go_enter Tryz.func19, Tryz.ntmps19
    go_wp2_with (go_at_call 18; refine N4.out.mono ?_)
    rintro en w1 ⟨r, r0, r1, rfl, hd1, hb1⟩
    have HD1 := Lib.hid hd1
    have HB1 := Lib.hid hb1
    clear hd1 hb1
    have hr : r = 0 ∨ r = 1 ∨ 2 ≤ r := by omega
    rcases hr with rfl | rfl | hr
    · go_wp2_with fail
      go_ret
      exact ⟨_, by decide, by decide, rfl, HD1.out, HB1.out⟩
    · go_wp2_with fail
      go_ret
      exact ⟨_, by decide, by decide, rfl, HD1.out, HB1.out⟩
    · have NX := Lib.hid (fun (m : Int) (h : 1 ≤ m) (h2 : m ≤ 1000000000000) => next_any p m w1 h h2 HD1.out)
      have q0 : ¬ r = 0 := by omega
      have q1 : ¬ r = 1 := by omega
      go_wp2_with (go_at_call 18; refine (NX.out _ (by decide) (by decide)).mono ?_)
      rintro en w2 ⟨r2, r20, r21, rfl, hd2, hb2⟩
      have HD2 := Lib.hid hd2
      have HB2 := Lib.hid (HB1.out.trans hb2)
      clear hd2 hb2
      go_wp2_with fail
      go_ret
      exact ⟨_, by omega, by omega, rfl, HD2.out, HB2.out⟩)
theorem but_news {p g : Nat} {a w w' : World} (h : But p a w) (hb : But g w w') (hg : a.heap.size ≤ g) : But p a w' :=
  ⟨hb.os.trans h.os, hb.tape.trans h.tape, hb.output.trans h.output, Nat.le_trans h.size hb.size, fun k hk hp => (hb.block k (Nat.lt_of_lt_of_le hk h.size) (by omega)).trans (h.block k hk hp)⟩
theorem dice_news {p g : Nat} {w w' : World} (h : DiceAt w p) (hb : But g w w') (hg : p < g) : DiceAt w' p := h.same fun k hk => hb.block k (by have := h.lt; omega) (by omega)
def MGrid (p : Nat) (w : World) (e : Ending) (w' : World) : Prop := ∃ d s b m : Int, e = .returned (.agg #[.int .i64 d, .int .i64 s, .int .i64 b, .int .i64 m]) ∧ (1 ≤ d ∧ d ≤ 5) ∧ (2 ≤ s ∧ s ≤ 8) ∧ (480 ≤ b ∧ b ≤ 585) ∧ (m = 30 ∨ m = 45 ∨ m = 60) ∧ DiceAt w' p ∧ But p w w'
set_option maxRecDepth 100000 in
set_option maxHeartbeats 8000000 in
theorem mgrid_any (p : Nat) (w : World) (hD : DiceAt w p) : Calls Tryz.prog 7 #[.pointer (some ⟨p, 0, none⟩)] w (MGrid p w) := by
  have hp := hD.lt
  have HM := (Mem.start w).alloc [.int .i64 0, .int .i64 0, .int .i64 0, .int .i64 0] 28
  have HD := Lib.hid (hD.below HM.bl)
  go_enter Tryz.func7, Tryz.ntmps7
  go_wp2_with fail
  refine (next_any p 5 _ (by omega) (by omega) HD.out).mono ?_
  rintro e w1 ⟨d, d0, d1, rfl, hd1, hb1⟩
  go_wp2_with fail
  refine (next_any p 7 _ (by omega) (by omega) hd1).mono ?_
  rintro e w2 ⟨s, s0, s1, rfl, hd2, hb2⟩
  go_wp2_with fail
  refine (next_any p 8 _ (by omega) (by omega) hd2).mono ?_
  rintro e w3 ⟨b, q0, q1, rfl, hd3, hb3⟩
  go_wp2_with fail
  refine (next_any p 3 _ (by omega) (by omega) hd3).mono ?_
  rintro e w4 ⟨m, m0, m1, rfl, hd4, hb4⟩
  have hb := ((hb1.trans hb2).trans hb3).trans hb4
  have hne : w.heap.size ≠ p := by omega
  have hc := fun i => (hb.cell (b := w.heap.size) (o := i) (by simp) hne)
  have hr := HM.rw_ 0 rfl
  have HR := Lib.hid (hr.but hb hne)
  have HK := Lib.hid ((But.of_below HM.bl).trans hb)
  have HD4 := Lib.hid hd4
  have hz : w.heap.size < w4.heap.size := HR.out.lt
  clear hb1 hb2 hb3 hb4 hd1 hd2 hd3 hd4 hb hr hc HD HM
  obtain ⟨R, hR⟩ : ∃ R, R = w.heap.size := ⟨_, rfl⟩
  rw [← hR] at HR hz hne ⊢
  have hlo : w.heap.size ≤ R := by omega
  clear hR
  have k0 := HR.out.at_ 0 _ rfl
  have k1 := HR.out.at_ 1 _ rfl
  have k2 := HR.out.at_ 2 _ rfl
  have k3 := HR.out.at_ 3 _ rfl
  have f0 := HR.out.fz 0
  have f1 := HR.out.fz 1
  have f2 := HR.out.fz 2
  have f3 := HR.out.fz 3
  go_wp2_with fail
  refine bodyPost_ret (v := .agg #[.int .i64 (1 + d), .int .i64 (2 + s), .int .i64 (480 + 15 * b), .int .i64 (30 + 15 * m)]) (by simp [results, Tryz.results7, go_sem, k0, k1, k2, k3]) rfl ?_
  have hb4 : But R w4 ((((w4.setCell ⟨R, 0, none⟩ (.int .i64 (1 + d))).setCell ⟨R, 1, none⟩ (.int .i64 (2 + s))).setCell ⟨R, 2, none⟩ (.int .i64 (480 + 15 * b))).setCell ⟨R, 3, none⟩ (.int .i64 (30 + 15 * m))) := (((But.setCell _ R 0 _).trans (But.setCell _ R 1 _)).trans (But.setCell _ R 2 _)).trans (But.setCell _ R 3 _)
  exact ⟨_, _, _, _, rfl, by omega, by omega, by omega, by omega, dice_news HD4.out hb4 (by omega), but_news HK.out hb4 hlo⟩
end Go.Proofs.YtcifdllbnbhcdaaGreatDoor.Rc
namespace Go.Proofs.YtcifdllbnbhcdaaGreatDoor.Rc
open Go.RowKit TT
def MTime (p n : Nat) (d s : Int) (w : World) (e : Ending) (w' : World) : Prop := ∃ ws dy st ln : Int, e = .returned (.agg #[.int .i64 ws, .int .i64 dy, .int .i64 st, .int .i64 ln]) ∧ (1 ≤ ws ∧ ws < 2 ^ n) ∧ (0 ≤ dy ∧ dy < d) ∧ (0 ≤ st ∧ st < s) ∧ (1 ≤ ln ∧ st + ln ≤ s) ∧ DiceAt w' p ∧ But p w w'
def tmOk (n : Nat) (d s ws dy st : Int) : Prop := (1 ≤ ws ∧ ws < 2 ^ n) ∧ (0 ≤ dy ∧ dy < d) ∧ (0 ≤ st ∧ st < s)
def tmV (p G n : Nat) (d s : Int) (w1 : World) (L : Array Bool) (j : Nat) (v : Value) (W : World) : Prop := match j with
  | 0 | 3 | 7 => v = .pointer (some ⟨p, 0, none⟩)
  | 1 => v = .int .i64 n
  | 2 => ∃ x : Int, v = .int .i64 x ∧ 1 ≤ x ∧ x < 2 ^ n
  | 4 => v = .pointer (some ⟨G, 0, none⟩)
  | 8 => v = .pointer (some ⟨G, 1, none⟩)
  | 5 => v = .int .i64 d
  | 9 => v = .int .i64 s
  | 6 => ∃ x : Int, v = .int .i64 x ∧ 0 ≤ x ∧ x < d
  | 10 => ∃ x : Int, v = .int .i64 x ∧ 0 ≤ x ∧ x < s
  | 11 => ∃ x y z : Int, v = .agg #[.int .i64 x, .int .i64 y, .int .i64 z, .int .i64 0] ∧ tmOk n d s x y z
  | 12 => ∃ R, v = .pointer (some ⟨R, 0, none⟩) ∧ w1.heap.size ≤ R ∧ (¬ L[13]? = some true → Rw W R [.int .i64 0, .int .i64 0, .int .i64 0, .int .i64 0] 34) ∧ (L[13]? = some true → ∃ x y z : Int, tmOk n d s x y z ∧ Rw W R [.int .i64 x, .int .i64 y, .int .i64 z, .int .i64 0] 34)
  | _ => True
section
variable {p G n : Nat} {d s : Int} {w1 W W' : World} {L : Array Bool} {i j : Nat} {v : Value}
theorem tmV_keep (hi : i ≠ 13) (hp : p < w1.heap.size) (hb : But p W W') (h : tmV p G n d s w1 L j v W) : tmV p G n d s w1 (L.setIfInBounds i true) j v W' := by
  unfold tmV at h ⊢
  split <;> simp only at h ⊢ <;> try exact h
  obtain ⟨R, h1, h2, h3, h4⟩ := h
  refine ⟨R, h1, h2, ?_, ?_⟩ <;> rw [Array.getElem?_setIfInBounds_ne hi]
  · exact fun hn => (h3 hn).but hb (by omega)
  · intro hn
    obtain ⟨x, y, z, h5, h6⟩ := h4 hn
    exact ⟨x, y, z, h5, h6.but hb (by omega)⟩
theorem tmV_other (hj : j ≠ 12) (h : tmV p G n d s w1 L j v W) : tmV p G n d s w1 (L.setIfInBounds i true) j v W' := by
  unfold tmV at h ⊢
  split <;> simp only at h ⊢ <;> first | exact h | exact absurd rfl hj
end
theorem ciSet (args : Array Value) (w : World) : (callFunc 19 args).run Tryz.prog w = .ok (.enter 19 args) w := by kernel_rfl
theorem ciNext (args : Array Value) (w : World) : (callFunc 18 args).run Tryz.prog w = .ok (.enter 18 args) w := by kernel_rfl
set_option maxRecDepth 100000 in
set_option maxHeartbeats 8000000 in
theorem mtime_any (p n : Nat) (d s b m : Int) (h1 : 1 ≤ n) (h8 : n ≤ 8) (hd : 1 ≤ d ∧ d ≤ 5) (hs : 2 ≤ s ∧ s ≤ 8) (w : World) (hD : DiceAt w p) : Calls Tryz.prog 9 #[.pointer (some ⟨p, 0, none⟩), .agg #[.int .i64 d, .int .i64 s, .int .i64 b, .int .i64 m], .int .i64 n] w (MTime p n d s w) := by
  have hp0 := hD.lt
  obtain ⟨hd0, hd5⟩ := hd
  obtain ⟨hs0, hs8⟩ := hs
  have HM := ((Mem.start w).alloc [.int .i64 d, .int .i64 s, .int .i64 b, .int .i64 m] 28).alloc [.int .i64 0, .int .i64 0, .int .i64 0, .int .i64 0] 34
  simp only [World.size_alloc] at HM
  have HD := Lib.hid (hD.below HM.bl)
  have HK := Lib.hid (But.of_below (p := p) HM.bl)
  clear hD
  go_enter Tryz.func9, Tryz.ntmps9
  go_upto_region 1 with fail
  obtain ⟨w1, hW, HM, HD, HK⟩ : ∃ W, W = _ ∧ Mem w W _ ∧ Hid (DiceAt W p) ∧ Hid (But p w W) := ⟨_, rfl, HM, HD, HK⟩
  rw [← hW]
  clear hW
  obtain ⟨Z, hZ⟩ : ∃ n : Nat, n = w.heap.size + 1 := ⟨_, rfl⟩
  obtain ⟨G, hG⟩ : ∃ n : Nat, n = w.heap.size := ⟨_, rfl⟩
  rw [← hZ, ← hG] at HM
  rw [← hZ, ← hG]
  have hp1 : p < w1.heap.size := Nat.lt_of_lt_of_le hp0 HM.bl.size
  have nG : G ≠ p := by omega
  have nZ : Z ≠ p := by omega
  have hlo : w.heap.size ≤ Z := by omega
  clear hZ hG
  have RG := Lib.hid (HM.rw_ 1 rfl)
  have RZ := Lib.hid (HM.rw_ 0 rfl)
  have hw1 := HM.bl.size
  have hZ1 : Z < w1.heap.size := RZ.out.lt
  clear HM
  refine wp_region_relG (N := 30) (tmV p G n d s w1) (fun _ W => DiceAt W p ∧ But p w1 W) (by kernel_rfl) (by kernel_rfl) (by rfl) ⟨HD.out.below (bel_drew0 _), But.of_below (bel_drew0 _)⟩ (no_gd (by kernel_rfl)) ?_ ?_
  · intro i o L a' W ho hl hL hS hdf dep all fr dwn
    obtain ⟨hSD, hSB⟩ := id hS
    match i, ho with
    | 0, ho =>
      obtain rfl := so ho
      have f0 := fr 0 (by kernel_rfl)
      unfold Oper.wp
      simp [go_sem, f0]
      exact ⟨_, rfl, rfl, hS, fun j oj u _ _ _ _ hu => tmV_keep (by decide) hp1 (But.refl _ _) hu⟩
    | 1, ho =>
      obtain rfl := so ho
      have f2 := fr 2 (by kernel_rfl)
      unfold Oper.wp
      simp [go_sem, f2]
      exact ⟨_, rfl, rfl, hS, fun j oj u _ _ _ _ hu => tmV_keep (by decide) hp1 (But.refl _ _) hu⟩
    | 2, ho =>
      obtain rfl := so ho
      have d0 := dv (dep 0 _ rfl (by kernel_rfl)) (fun _ h => h) rfl
      have d1 := dv (dep 1 _ rfl (by kernel_rfl)) (fun _ h => h) rfl
      refine wp_call1 (args := #[.pointer (some ⟨p, 0, none⟩), .int .i64 n]) rfl (by simp [Act.eval, d0, d1]) (ciSet _ _) (set_any p n h1 h8 W hSD) ?_
      rintro e w9 ⟨x, x0, x1, rfl, hdx, hbx⟩
      exact ⟨_, rfl, ⟨x, rfl, x0, x1⟩, ⟨hdx, hSB.trans hbx⟩, fun j oj u _ _ _ _ hu => tmV_keep (by decide) hp1 hbx hu⟩
    | 3, ho =>
      obtain rfl := so ho
      have f0 := fr 0 (by kernel_rfl)
      unfold Oper.wp
      simp [go_sem, f0]
      exact ⟨_, rfl, rfl, hS, fun j oj u _ _ _ _ hu => tmV_keep (by decide) hp1 (But.refl _ _) hu⟩
    | 4, ho =>
      obtain rfl := so ho
      have f4 := fr 4 (by kernel_rfl)
      unfold Oper.wp
      simp [go_sem, f4]
      exact ⟨_, rfl, rfl, hS, fun j oj u _ _ _ _ hu => tmV_keep (by decide) hp1 (But.refl _ _) hu⟩
    | 5, ho =>
      obtain rfl := so ho
      have d4 := dv (dep 4 _ rfl (by kernel_rfl)) (fun _ h => h) rfl
      have hc := (RG.out.but hSB nG).at_ 0 _ rfl
      unfold Oper.wp
      simp [go_sem, d4, hc]
      exact ⟨_, rfl, rfl, hS, fun j oj u _ _ _ _ hu => tmV_keep (by decide) hp1 (But.refl _ _) hu⟩
    | 6, ho =>
      obtain rfl := so ho
      have d3 := dv (dep 3 _ rfl (by kernel_rfl)) (fun _ h => h) rfl
      have d5 := dv (dep 5 _ rfl (by kernel_rfl)) (fun _ h => h) rfl
      refine wp_call1 (args := #[.pointer (some ⟨p, 0, none⟩), .int .i64 d]) rfl (by simp [Act.eval, d3, d5]) (ciNext _ _) (next_any p d W (by omega) (by omega) hSD) ?_
      rintro e w9 ⟨x, x0, x1, rfl, hdx, hbx⟩
      exact ⟨_, rfl, ⟨x, rfl, x0, x1⟩, ⟨hdx, hSB.trans hbx⟩, fun j oj u _ _ _ _ hu => tmV_keep (by decide) hp1 hbx hu⟩
    | 7, ho =>
      obtain rfl := so ho
      have f0 := fr 0 (by kernel_rfl)
      unfold Oper.wp
      simp [go_sem, f0]
      exact ⟨_, rfl, rfl, hS, fun j oj u _ _ _ _ hu => tmV_keep (by decide) hp1 (But.refl _ _) hu⟩
    | 8, ho =>
      obtain rfl := so ho
      have f4 := fr 4 (by kernel_rfl)
      unfold Oper.wp
      simp [go_sem, f4]
      exact ⟨_, rfl, rfl, hS, fun j oj u _ _ _ _ hu => tmV_keep (by decide) hp1 (But.refl _ _) hu⟩
    | 9, ho =>
      obtain rfl := so ho
      have d8 := dv (dep 8 _ rfl (by kernel_rfl)) (fun _ h => h) rfl
      have hc := (RG.out.but hSB nG).at_ 1 _ rfl
      unfold Oper.wp
      simp [go_sem, d8, hc]
      exact ⟨_, rfl, rfl, hS, fun j oj u _ _ _ _ hu => tmV_keep (by decide) hp1 (But.refl _ _) hu⟩
    | 10, ho =>
      obtain rfl := so ho
      have d7 := dv (dep 7 _ rfl (by kernel_rfl)) (fun _ h => h) rfl
      have d9 := dv (dep 9 _ rfl (by kernel_rfl)) (fun _ h => h) rfl
      refine wp_call1 (args := #[.pointer (some ⟨p, 0, none⟩), .int .i64 s]) rfl (by simp [Act.eval, d7, d9]) (ciNext _ _) (next_any p s W (by omega) (by omega) hSD) ?_
      rintro e w9 ⟨x, x0, x1, rfl, hdx, hbx⟩
      exact ⟨_, rfl, ⟨x, rfl, x0, x1⟩, ⟨hdx, hSB.trans hbx⟩, fun j oj u _ _ _ _ hu => tmV_keep (by decide) hp1 hbx hu⟩
    | 11, ho =>
      obtain rfl := so ho
      obtain ⟨_, v2, ⟨x, rfl, x0, x1⟩, d2⟩ := dep 2 _ rfl (by kernel_rfl)
      have d2 := d2 10 rfl
      obtain ⟨_, v6, ⟨y, rfl, y0, y1⟩, d6⟩ := dep 6 _ rfl (by kernel_rfl)
      have d6 := d6 14 rfl
      obtain ⟨_, v10, ⟨z, rfl, z0, z1⟩, d10⟩ := dep 10 _ rfl (by kernel_rfl)
      have d10 := d10 18 rfl
      unfold Oper.wp
      simp [go_sem, d2, d6, d10]
      exact ⟨_, rfl, ⟨x, y, z, rfl, ⟨x0, x1⟩, ⟨y0, y1⟩, z0, z1⟩, hS, fun j oj u _ _ _ _ hu => tmV_keep (by decide) hp1 (But.refl _ _) hu⟩
    | 12, ho =>
      obtain rfl := so ho
      unfold Oper.wp
      simp [go_sem, ]
      exact ⟨_, rfl, ⟨W.heap.size, rfl, hSB.size, fun _ => Rw.mk W [.int .i64 0, .int .i64 0, .int .i64 0, .int .i64 0] #[] 34 rfl, fun h => by rw [Array.getElem?_setIfInBounds_ne (by decide)] at h; have := dwn 13 _ rfl h 12 _ rfl (by kernel_rfl); rw [hl] at this; cases this⟩, ⟨hSD.below (bpush (b0 _) _), hSB.trans (But.of_below (bpush (b0 _) _))⟩, fun j oj u _ _ _ _ hu => tmV_keep (by decide) hp1 (But.of_below (bpush (b0 _) _)) hu⟩
    | 13, ho =>
      obtain rfl := so ho
      obtain ⟨_, v12, ⟨R, rfl, hRl, hR0, _⟩, d12⟩ := dep 12 _ rfl (by kernel_rfl)
      have d12 := d12 7 rfl
      obtain ⟨_, v11, ⟨x, y, z, rfl, hok⟩, d11⟩ := dep 11 _ rfl (by kernel_rfl)
      have d11 := d11 19 rfl
      have hr := hR0 (by rw [hl]; simp)
      have c0 := hr.at_ 0 _ rfl
      have c1 := hr.at_ 1 _ rfl
      have c2 := hr.at_ 2 _ rfl
      have c3 := hr.at_ 3 _ rfl
      have q0 := hr.fz 0
      have q1 := hr.fz 1
      have q2 := hr.fz 2
      have q3 := hr.fz 3
      have hb4 : But R W ((((W.setCell ⟨R, 0, none⟩ (.int .i64 x)).setCell ⟨R, 1, none⟩ (.int .i64 y)).setCell ⟨R, 2, none⟩ (.int .i64 z)).setCell ⟨R, 3, none⟩ (.int .i64 0)) := (((But.setCell _ R 0 _).trans (But.setCell _ R 1 _)).trans (But.setCell _ R 2 _)).trans (But.setCell _ R 3 _)
      have hr4 := (((hr.set 0 (by decide) (.int .i64 x)).set 1 (by simp) (.int .i64 y)).set 2 (by simp) (.int .i64 z)).set 3 (by simp) (.int .i64 0)
      unfold Oper.wp
      simp [go_sem, d12, d11, c0, c1, c2, c3, q0, q1, q2, q3]
      exact ⟨undef, rfl, trivial, ⟨dice_news hSD hb4 (by omega), but_news hSB hb4 hRl⟩, fun j oj u hoj hne hlj hdst hu => by
        by_cases hj : j = 12
        · subst hj
          obtain rfl := so hoj
          have hu2 := hdst 7 rfl
          rw [d12] at hu2
          obtain rfl := (Option.some.inj hu2).symm
          exact ⟨R, rfl, hRl, fun h => absurd (listed_now hl) h, fun _ => ⟨x, y, z, hok, hr4⟩⟩
        · exact tmV_other hj hu⟩
  · intro us W6 hS hV
    obtain ⟨hSD, hSB⟩ := hS
    obtain ⟨R, hu, hRl, _, hR4⟩ := hV 12 _ rfl
    obtain ⟨ws, dy, st, ⟨⟨t0, t1⟩, ⟨t2, t3⟩, t4, t5⟩, hR⟩ := hR4 (by rw [Array.getElem?_replicate]; rfl)
    clear hV hR4
    simp only [putAll, Act.put, List.setIfInBounds_toArray, List.set_cons_zero, List.set_cons_succ, Nat.zero_add, Nat.reduceAdd]
    rw [hu]
    clear hu
    generalize us 0 = z0 at *
    generalize us 1 = z1 at *
    generalize us 2 = z2 at *
    generalize us 3 = z3 at *
    generalize us 4 = z4 at *
    generalize us 5 = z5 at *
    generalize us 6 = z6 at *
    generalize us 7 = z7 at *
    generalize us 8 = z8 at *
    generalize us 9 = z9 at *
    generalize us 10 = z10 at *
    generalize us 11 = z11 at *
    have HG := Lib.hid (RG.out.but hSB nG)
    have HZ := Lib.hid (RZ.out.but hSB nZ)
    have HR := Lib.hid hR
    have HDD := Lib.hid hSD
    have HKK := Lib.hid (HK.out.trans hSB)
    have k1 := HG.out.at_ 1 _ rfl
    have k2 := HR.out.at_ 2 _ rfl
    clear hSD hSB hR RG RZ HD HK
    go_wp2_with fail
    refine (next_any p (s - st) _ (by omega) (by omega) HDD.out).mono ?_
    rintro e W7 ⟨q, q0, q1, rfl, hd7, hb7⟩
    have nR : R ≠ p := by omega
    have nRZ : R ≠ Z := by omega
    have HZ := Lib.hid (HZ.out.but hb7 nZ)
    have HR := Lib.hid (HR.out.but hb7 nR)
    have HKK := Lib.hid (HKK.out.trans hb7)
    have HDD := Lib.hid hd7
    clear hb7 hd7 k1 k2
    have c0 := HR.out.at_ 0 _ rfl
    have c1 := HR.out.at_ 1 _ rfl
    have c2 := HR.out.at_ 2 _ rfl
    have c3 := HR.out.at_ 3 _ rfl
    have f3 := HR.out.fz 3
    have e0 := HZ.out.at_ 0 _ rfl
    have e1 := HZ.out.at_ 1 _ rfl
    have e2 := HZ.out.at_ 2 _ rfl
    have e3 := HZ.out.at_ 3 _ rfl
    have g0 := HZ.out.fz 0
    have g1 := HZ.out.fz 1
    have g2 := HZ.out.fz 2
    have g3 := HZ.out.fz 3
    go_wp2_with fail
    refine bodyPost_ret (v := .agg #[.int .i64 ws, .int .i64 dy, .int .i64 st, .int .i64 (1 + q)]) (by simp [results, Tryz.results9, go_sem, e0, e1, e2, e3, nRZ, nRZ.symm]) rfl ?_
    have b1 := But.setCell W7 R 3 (.int .i64 (1 + q))
    have b4 : But Z (W7.setCell ⟨R, 3, none⟩ (.int .i64 (1 + q))) (((((W7.setCell ⟨R, 3, none⟩ (.int .i64 (1 + q))).setCell ⟨Z, 0, none⟩ (.int .i64 ws)).setCell ⟨Z, 1, none⟩ (.int .i64 dy)).setCell ⟨Z, 2, none⟩ (.int .i64 st)).setCell ⟨Z, 3, none⟩ (.int .i64 (1 + q))) := (((But.setCell _ Z 0 _).trans (But.setCell _ Z 1 _)).trans (But.setCell _ Z 2 _)).trans (But.setCell _ Z 3 _)
    exact ⟨ws, dy, st, 1 + q, rfl, ⟨t0, t1⟩, ⟨t2, t3⟩, ⟨t4, t5⟩, by omega, dice_news (dice_news HDD.out b1 (by omega)) b4 (by omega), but_news (but_news HKK.out b1 (by omega)) b4 hlo⟩
end Go.Proofs.YtcifdllbnbhcdaaGreatDoor.Rc
namespace Go.Proofs.YtcifdllbnbhcdaaGreatDoor.Rc
open Go.RowKit TT
abbrev grdV (d s b m : Int) : Value := .agg #[.int .i64 d, .int .i64 s, .int .i64 b, .int .i64 m]
structure GrdOk (d s b m : Int) : Prop where
  d1 : 1 ≤ d
  d5 : d ≤ 5
  s2 : 2 ≤ s
  s8 : s ≤ 8
  b0 : 480 ≤ b
  b1 : b ≤ 585
  m3 : m = 30 ∨ m = 45 ∨ m = 60
set_option maxRecDepth 100000 in
set_option maxHeartbeats 4000000 in
theorem vgrid_any (d s b m : Int) (h : GrdOk d s b m) (w : World) : Calls Tryz.prog 20 #[grdV d s b m] w (RetB (.int .i64 0) w) := by
  obtain ⟨h1, h2, h3, h4, h5, h6, h7⟩ := h
  rcases h7 with rfl | rfl | rfl
  all_goals (
    go_enter Tryz.func20, Tryz.ntmps20
    go_wp2_with fail
    go_ret
    exact ⟨rfl, (Below.refl _ _).alloc (Nat.le_refl _) _⟩)
set_option maxRecDepth 100000 in
set_option maxHeartbeats 4000000 in
theorem week_any (d s b m n : Int) (h : GrdOk d s b m) (n1 : 1 ≤ n) (n8 : n ≤ 8) (w : World) : Calls Tryz.prog 43 #[grdV d s b m, .int .i64 n] w (RetB (.bool true) w) := by
  go_enter Tryz.func43, Tryz.ntmps43
  go_wp2_with (go_at_call 20; refine (vgrid_any d s b m h _).mono ?_; rintro e w' ⟨rfl, hb⟩)
  go_ret
  exact ⟨ret_bool (by simp; try omega), below2 hb⟩
structure TimOk (n : Nat) (d s ws dy st ln : Int) : Prop where
  w1 : 1 ≤ ws
  w2 : ws < 2 ^ n
  y0 : 0 ≤ dy
  y1 : dy < d
  s0 : 0 ≤ st
  l1 : 1 ≤ ln
  l2 : st + ln ≤ s
set_option maxRecDepth 100000 in
set_option maxHeartbeats 8000000 in
theorem fits_any (n : Nat) (d s b m ws dy st ln : Int) (h : GrdOk d s b m) (n1 : 1 ≤ n) (n8 : n ≤ 8) (ht : TimOk n d s ws dy st ln) (w : World) : Calls Tryz.prog 23 #[grdV d s b m, .int .i64 n, .agg #[.int .i64 ws, .int .i64 dy, .int .i64 st, .int .i64 ln]] w (RetB (.int .i64 0) w) := by
  have hp8 : (2 : Int) ^ n ≤ 256 := by
    have hn : n = 1 ∨ n = 2 ∨ n = 3 ∨ n = 4 ∨ n = 5 ∨ n = 6 ∨ n = 7 ∨ n = 8 := by omega
    rcases hn with rfl | rfl | rfl | rfl | rfl | rfl | rfl | rfl <;> decide
  have hws := fun W => ws_any ws n W
  rw [show wsB ws n = true from by
    unfold wsB
    rw [decide_eq_true_eq]
    exact ⟨by omega, by omega, ht.w1, by rw [Int.toNat_natCast]; exact ht.w2⟩] at hws
  have hso := fun W => sound_any ws dy st ln (by have := ht.s0; omega) (by have := ht.l2; have := h.s8; have := ht.l1; omega) W
  rw [show sndB ws dy st ln = true from by
    obtain ⟨t1, t2, t3, t4, t5, t6, t7⟩ := ht
    have h8 := h.s8
    have h5 := h.d5
    show (wsB ws 20 && decide (0 ≤ dy ∧ dy ≤ 6 ∧ 0 ≤ st ∧ st ≤ 23 ∧ 1 ≤ ln ∧ st + ln ≤ 24)) = true
    rw [Bool.and_eq_true, decide_eq_true_eq]
    refine ⟨?_, by omega⟩
    unfold wsB
    rw [decide_eq_true_eq]
    refine ⟨by omega, by omega, t1, ?_⟩
    have : (2 : Int) ^ (20 : Int).toNat = 1048576 := by decide
    omega] at hso
  obtain ⟨t1, t2, t3, t4, t5, t6, t7⟩ := ht
  have hs8 := h.s8
  have HM0 := ((Mem.start w).alloc [.int .i64 d, .int .i64 s, .int .i64 b, .int .i64 m] 28).alloc [.int .i64 ws, .int .i64 dy, .int .i64 st, .int .i64 ln] 34
  simp only [World.size_alloc] at HM0
  go_enter Tryz.func23, Tryz.ntmps23
  go_wp2_with fail
  refine (week_any d s b m n h (by omega) (by omega) _).mono ?_
  rintro e w1 ⟨rfl, hb⟩
  have HM := HM0.below hb
  clear hb HM0
  have C := HM.facts
  simp only [facts, cellsAre, lts, apart, Nat.zero_add, Nat.reduceAdd, and_true] at C
  go_wp2_with fail
  refine (hso _).mono ?_
  rintro e w2 ⟨rfl, hb⟩
  replace HM := HM.below hb
  clear hb hso C
  have C := HM.facts
  simp only [facts, cellsAre, lts, apart, Nat.zero_add, Nat.reduceAdd, and_true] at C
  go_wp2_with (go_at_call 45; refine (hws _).mono ?_; rintro e w' ⟨rfl, rfl⟩)
  go_ret
  exact ⟨rfl, HM.bl⟩
end Go.Proofs.YtcifdllbnbhcdaaGreatDoor.Rc
