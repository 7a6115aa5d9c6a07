/- Texts V110, V111, V112, joined: walks and laws for the versions. -/
import Derived.Test.YtihbpggbpapcfaaGreatDoorM01
import Derived.Test.YtihbpggbpapcfaaGreatDoorH45
namespace Go.Proofs.YtihbpggbpapcfaaGreatDoor
open Go.RowKit

def SetR (p : Nat) (w : World) (e : Ending) (w' : World) : Prop := ∃ r : Int, e = .returned (.int .i64 r) ∧ DiceAt w' p ∧ But p w w'

set_option maxRecDepth 100000 in
set_option maxHeartbeats 8000000 in
theorem set_any (p n : Nat) (h1 : 1 ≤ n) (h8 : n ≤ 8) (w : World) (hD : DiceAt w p) : Calls Tryz.prog 106 #[.pointer (some ⟨p, 0, none⟩), .int .i64 n] w (SetR p w) := by
 have HD := Lib.hid hD
 have N4 := Lib.hid (next_any p 4 w (by omega) (by omega) hD)
 clear hD
 have hn : n = 1 ∨ n = 2 ∨ n = 3 ∨ n = 4 ∨ n = 5 ∨ n = 6 ∨ n = 7 ∨ n = 8 := by omega
 clear h1 h8
 rcases hn with rfl | rfl | rfl | rfl | rfl | rfl | rfl | rfl
 all_goals (
  go_enter Tryz.func106, Tryz.ntmps106
  go_wp2_with (go_at_call 24; refine N4.out.mono ?_)
  rintro en w1 ⟨r, r0, r1, rfl, hd1, hb1⟩
  have HD1 := Lib.hid hd1
  have HB1 := Lib.hid hb1
  clear hd1 hb1
  have hr : r = 0 ∨ r = 1 ∨ 2 ≤ r := by omega
  rcases hr with rfl | rfl | hr
  ·
   go_wp2_with fail
   go_ret
   exact ⟨_, rfl, HD1.out, HB1.out⟩
  ·
   go_wp2_with fail
   go_ret
   exact ⟨_, rfl, HD1.out, HB1.out⟩
  ·
   have NX := Lib.hid (fun (m : Int) (h : 1 ≤ m) (h2 : m ≤ 1000000000000) => next_any p m w1 h h2 HD1.out)
   have q0 : ¬ r = 0 := by omega
   have q1 : ¬ r = 1 := by omega
   go_wp2_with (go_at_call 24; refine (NX.out _ (by decide) (by decide)).mono ?_)
   rintro en w2 ⟨r2, r20, r21, rfl, hd2, hb2⟩
   have HD2 := Lib.hid hd2
   have HB2 := Lib.hid (HB1.out.trans hb2)
   clear hd2 hb2
   go_wp2_with fail
   go_ret
   exact ⟨_, rfl, HD2.out, HB2.out⟩)
end Go.Proofs.YtihbpggbpapcfaaGreatDoor
namespace Go.Proofs.YtihbpggbpapcfaaGreatDoor
open Go.RowKit

theorem ci24 (args : Array Value) (w : World) : (callFunc 24 args).run Tryz.prog w = .ok (.enter 24 args) w := by
 kernel_rfl
def MdR (N p : Nat) (w : World) (e : Ending) (w' : World) : Prop := ∃ (v : Value) (xs : List Ses), e = .returned v ∧ SRow w' w.heap.size v xs ∧ xs.length ≤ N ∧ SOk xs ∧ DiceAt w' p ∧ But p w w'
theorem But.bel {p : Nat} {w W W' : World} (h : But p w W) (hb : Below w.heap.size W W') : But p w W' := ⟨hb.os.trans h.os, hb.tape.trans h.tape, hb.output.trans h.output, Nat.le_trans h.size hb.size, fun k hk hp => (hb.block k hk).trans (h.block k hk hp)⟩
theorem DiceAt.bel {p M : Nat} {W W' : World} (h : DiceAt W p) (hb : Below M W W') (hp : p < M) : DiceAt W' p := h.same fun k hk => hb.block k (by omega)
theorem bat_one {W : World} {G : Nat} {b : UInt8} (h : W.cell? ⟨G, 0, none⟩ = some (.int .u8 b.toNat)) : BAt W (some ⟨G, 0, none⟩) 1 [b] := by
 refine ⟨rfl, by omega, Or.inr ⟨G, 0, rfl, fun i x hx o v hv => ?_⟩⟩
 have hi : i = 0 := by have := (List.getElem?_eq_some_iff.1 hx).1; simp at this; omega
 subst hi
 simp only [List.getElem?_cons_zero, Option.some.injEq] at hx
 subst hx
 have ho : o = 0 := by have := (List.getElem?_eq_some_iff.1 hv).1; simp [bytC] at this; omega
 subst ho
 simp only [bytC, List.getElem?_cons_zero, Option.some.injEq] at hv
 subst hv
 exact h
theorem but_heap {p : Nat} {W W' : World} (h : But p W W') {B : Nat} (hB : p < B) {o : Obj} (hx : W.heap[B]? = some o) : W'.heap[B]? = some o := (h.block B (lt_of_heap hx) (by omega)).trans hx
theorem but_cell {p : Nat} {W W' : World} (h : But p W W') {B o : Nat} (hB : p < B) {v : Value} (hx : W.cell? ⟨B, o, none⟩ = some v) : W'.cell? ⟨B, o, none⟩ = some v := (h.cell (b := B) (o := o) (lt_of_cell hx) (Nat.ne_of_gt hB)).trans hx
theorem row_new {w4 W : World} {B0 B1 : Nat} {e : TypeId} {k n n' : Nat} {v : Value} {xs xs' : List Value} (h0 : w4.ownsRow B0 e k v n' xs') (h : W.ownsRow B1 e k v n xs) {B : Nat} (hB : w4.heap.size ≤ B) (i : Nat) (u : Value) : (W.setCell ⟨B, i, none⟩ u).ownsRow B1 e k v n xs := by
 obtain ⟨h1, h2⟩ := id h
 refine ⟨h1, ?_⟩
 rcases h2 with h2 | ⟨g, cap, cur, h3, h4, h5, h6⟩
 ·
  exact Or.inl h2
 ·
  have := (h0.lt g (by rw [h3]; rfl)).2
  exact Or.inr ⟨g, cap, cur, h3, h4, (heap_setCell_other _ _ _ _ (Nat.ne_of_lt (Nat.lt_of_lt_of_le this hB))).trans h5, h6⟩
def qV (p c : Nat) (bc : UInt8) (A : Int) (w5 : World) (L : Array Bool) (j : Nat) (v : Value) (W : World) : Prop := match j with
 | 0 => v = .int .i64 c
 | 1 => v = .int .i64 (49 + (c : Int))
 | 2 => v = .int .u8 (49 + (c : Int))
 | 3 => ∃ G, v = .slice (some ⟨G, 0, none⟩) 1 1 ∧ w5.heap.size ≤ G ∧ (¬ L[4]? = some true → W.cell? ⟨G, 0, none⟩ = some (.int .u8 (49 + (c : Int))))
 | 4 => v = .string (arr [bc])
 | 5 => v = .string (arr [99, bc])
 | 6 => v = .int .i64 A
 | 7 | 9 | 11 => v = .pointer (some ⟨p, 0, none⟩)
 | 8 | 10 | 12 => ∃ r : Int, 0 ≤ r ∧ r ≤ 40 ∧ v = .int .i64 r
 | 13 => ∃ r : Int, v = .int .i64 r
 | 14 => ∃ a b d : Int, (0 ≤ b ∧ b ≤ 40) ∧ v = .agg #[.int .i64 A, .int .i64 a, .int .i64 b, .int .i64 d]
 | 15 => ∃ a b d : Int, (0 ≤ b ∧ b ≤ 40) ∧ v = .agg #[.string (arr [99, bc]), .int .i64 A, .int .i64 a, .int .i64 b, .int .i64 d, .string (arr [])]
 | 16 => ∃ (B : Nat) (v0 v1 v2 v3 v4 v5 : Value), v = .pointer (some ⟨B, 0, none⟩) ∧ w5.heap.size ≤ B ∧ W.heap[B]? = some (.cells #[v0, v1, v2, v3, v4, v5] 95 (0, 0)) ∧ (L[17]? = some true → ∃ a b d : Int, (0 ≤ b ∧ b ≤ 40) ∧ #[v0, v1, v2, v3, v4, v5] = sesA ([99, bc], A, a, b, d, []))
 | 17 => L[16]? = some true
 | _ => True
section
variable {p c : Nat} {bc : UInt8} {A : Int} {w5 : World} {L : Array Bool} {i j : Nat} {v : Value} {W W' : World}
theorem qV_keep (hb : But p W W') (hp : p < w5.heap.size) (hi : i ≠ 17) (h : qV p c bc A w5 L j v W) : qV p c bc A w5 (L.setIfInBounds i true) j v W' := by
 unfold qV at h ⊢
 split <;> simp only at h ⊢ <;> try exact h
 ·
  obtain ⟨G, h1, h2, h3⟩ := h
  exact ⟨G, h1, h2, fun hn => but_cell hb (by omega) (h3 (not_more hn))⟩
 ·
  obtain ⟨B, v0, v1, v2, v3, v4, v5, h1, h2, h3, h4⟩ := h
  refine ⟨B, v0, v1, v2, v3, v4, v5, h1, h2, but_heap hb (by omega) h3, fun hl => h4 ?_⟩
  rw [Array.getElem?_setIfInBounds_ne hi] at hl
  exact hl
 ·
  exact listed_more h
theorem qV_store (hj : j ≠ 16) (h4 : L[4]? = some true) (h : qV p c bc A w5 L j v W) : qV p c bc A w5 (L.setIfInBounds i true) j v W' := by
 unfold qV at h ⊢
 split <;> simp only at h ⊢ <;> try exact h
 ·
  obtain ⟨G, h1, h2, h3⟩ := h
  exact ⟨G, h1, h2, fun hn => absurd (listed_more h4) hn⟩
 ·
  exact absurd rfl hj
 ·
  exact listed_more h
end
theorem BX.set6 {w : World} {R : Nat} {v0 v1 v2 v3 v4 v5 : Value} {T : TypeId} (h : w.heap[R]? = some (.cells #[v0, v1, v2, v3, v4, v5] T (0, 0))) (u0 u1 u2 u3 u4 u5 : Value) : ((((((w.setCell ⟨R, 0, none⟩ u0).setCell ⟨R, 1, none⟩ u1).setCell ⟨R, 2, none⟩ u2).setCell ⟨R, 3, none⟩ u3).setCell ⟨R, 4, none⟩ u4).setCell ⟨R, 5, none⟩ u5).heap[R]? = some (.cells #[u0, u1, u2, u3, u4, u5] T (0, 0)) := by
 have h0 := heap_setCell_same w R 0 _ _ u0 h
 have h1 := heap_setCell_same _ R 1 _ _ u1 h0
 have h2 := heap_setCell_same _ R 2 _ _ u2 h1
 have h3 := heap_setCell_same _ R 3 _ _ u3 h2
 have h4 := heap_setCell_same _ R 4 _ _ u4 h3
 exact heap_setCell_same _ R 5 _ _ u5 h4

set_option maxRecDepth 100000 in
set_option maxHeartbeats 16000000 in
theorem seq_any (p n : Nat) (h1 : 1 ≤ n) (h8 : n ≤ 8) (w : World) (hD : DiceAt w p) : Calls Tryz.prog 73 #[.pointer (some ⟨p, 0, none⟩), .int .i64 n] w (MdR 9 p w) := by
 have hpw : p < w.heap.size := hD.lt
 have HDa := Lib.hid hD
 have N4 := Lib.hid (next_any p 4 w (by omega) (by omega) hD)
 clear hD
 go_enter Tryz.func73, Tryz.ntmps73
 go_wp2_with (go_at_call 24; refine N4.out.mono ?_)
 rintro en w1 ⟨r, r0, r1, rfl, hd1, hb1⟩
 obtain ⟨m0, rfl⟩ : ∃ m : Nat, r = m := ⟨r.toNat, by omega⟩
 have HD1 := Lib.hid hd1
 have HB1 := Lib.hid hb1
 clear hd1 hb1 N4 HDa
 go_wp2_with fail
 go_loopw [5, 6, 7] (fun v5 v6 v7 wr => ∃ (xs : List Ses) (m c : Nat), v6 = .int .i64 m ∧ v7 = .int .i64 c ∧ Hid (SRow wr w.heap.size v5 xs) ∧ Hid (SOk xs) ∧ Hid (DiceAt wr p) ∧ Hid (But p w wr) ∧ m ≤ 3 ∧ xs.length + 3 * m ≤ 9 ∧ c + 2 * m ≤ 6) (fun _ v6 _ _ => (intOf v6).toNat)
 case atStart => exact ⟨[], m0, 0, rfl, rfl, Lib.hid (World.ownsRow_nil _ _ _ _), Lib.hid (fun s hs => by cases hs), HD1, HB1, by omega, by simp; omega, by omega⟩
 case round =>
  clear HD1 HB1
  obtain ⟨xs, m, c, rfl, rfl, HR, HO, HD, HK, hm3, hxl, hcl⟩ := hrel
  by_cases hm : m = 0
  ·
   subst hm
   go_wp2_with fail
   go_ret
   exact ⟨_, xs, rfl, HR.out, by omega, HO.out, HD.out, HK.out⟩
  have hm1 : (0 : Int) < m := by omega
  go_upto_region 5 with fail
  go_cut [8] (fun s wx => ∃ L : Int, s = .int .i64 L ∧ wx = wr)
  case first =>
   have hn : n = 1 ∨ n = 2 ∨ n = 3 ∨ n = 4 ∨ n = 5 ∨ n = 6 ∨ n = 7 ∨ n = 8 := by omega
   clear h1 h8
   rcases hn with rfl | rfl | rfl | rfl | rfl | rfl | rfl | rfl
   all_goals (
    go_wp2_with fail
    go_meet
    exact ⟨_, rfl, rfl⟩)
  case rest =>
   obtain ⟨L0, rfl, hwc⟩ := hcut
   replace hwc := hwc.symm
   subst hwc
   have N3 := Lib.hid (next_any p 3 wr (by omega) (by omega) HD.out)
   go_wp2_with (go_at_call 24; refine N3.out.mono ?_)
   rintro en w2 ⟨r, r0, r1, rfl, hd2, hb2⟩
   obtain ⟨k0, rfl⟩ : ∃ m : Nat, r = m := ⟨r.toNat, by omega⟩
   have HD2 := Lib.hid hd2
   have HK2 := Lib.hid (HK.out.trans hb2)
   have HR2 := Lib.hid (row_but HR.out hb2 hpw)
   have hk0w : IntKind.i64.wrap (1 + (k0 : Int)) = 1 + (k0 : Int) := IntWalk.i64_in _ (by omega)
   clear hd2 hb2 N3
   obtain ⟨wz, hwz⟩ : ∃ wz : World, wz = wr := ⟨_, rfl⟩
   subst hwz
   go_wp2_with fail
   go_loopw [5, 8, 9] (fun v5 v8 v9 wr2 => ∃ (ys : List Ses) (L : Int) (k : Nat), v8 = .int .i64 L ∧ v9 = .int .i64 k ∧ Hid (SRow wr2 w.heap.size v5 ys) ∧ Hid (SOk ys) ∧ Hid (DiceAt wr2 p) ∧ Hid (But p w wr2) ∧ k ≤ 3 ∧ ys.length + k + 3 * (m - 1) ≤ 9) (fun _ _ v9 _ => (intOf v9).toNat)
   case atStart => exact ⟨xs, L0, k0 + 1, rfl, by go_num, HR2, HO, HD2, HK2, by omega, by omega⟩
   case round =>
    clear HR2 HD2 HK2 HR HD HK HO
    obtain ⟨ys, L, k, rfl, rfl, HR, HO, HD, HK, hk3, hyl⟩ := hrel
    obtain ⟨w3, hw3⟩ : ∃ w3 : World, w3 = wr := ⟨_, rfl⟩
    subst hw3
    by_cases hk : k = 0
    ·
     subst hk
     have N2 := Lib.hid (next_any p 2 w3 (by omega) (by omega) HD.out)
     go_wp2_with (go_at_call 24; refine N2.out.mono ?_)
     rintro en w4 ⟨r, r0, r1, rfl, hd4, hb4⟩
     obtain ⟨q0, rfl⟩ : ∃ m : Nat, r = m := ⟨r.toNat, by omega⟩
     have HD4 := Lib.hid hd4
     have HK4 := Lib.hid (HK.out.trans hb4)
     have HR4 := Lib.hid (row_but HR.out hb4 hpw)
     have hw1 : IntKind.i64.wrap (1 + (q0 : Int)) = 1 + (q0 : Int) := IntWalk.i64_in _ (by omega)
     have hw2 : IntKind.i64.wrap ((c : Int) + (1 + (q0 : Int))) = (c : Int) + (1 + (q0 : Int)) := IntWalk.i64_in _ (by omega)
     have hw3 : IntKind.i64.wrap ((m : Int) - 1) = (m : Int) - 1 := IntWalk.i64_in _ (by omega)
     clear hd4 hb4 N2
     go_wp2_with fail
     go_roundw
     case rel => exact ⟨ys, m - 1, c + (q0 + 1), by go_num, by go_num, HR4, HO, HD4, HK4, by omega, by omega, by omega⟩
     case measure => simp [intOf]; omega
    have hk1 : (0 : Int) < k := by omega
    have hkw : IntKind.i64.wrap ((k : Int) - 1) = (k : Int) - 1 := IntWalk.i64_in _ (by omega)
    by_cases hL : L ≤ 0
    ·
     have hL1 : ¬ 0 < L := by omega
     have N2 := Lib.hid (next_any p 2 w3 (by omega) (by omega) HD.out)
     go_wp2_with (go_at_call 24; refine N2.out.mono ?_)
     rintro en w4 ⟨r, r0, r1, rfl, hd4, hb4⟩
     obtain ⟨q0, rfl⟩ : ∃ m : Nat, r = m := ⟨r.toNat, by omega⟩
     have HD4 := Lib.hid hd4
     have HK4 := Lib.hid (HK.out.trans hb4)
     have HR4 := Lib.hid (row_but HR.out hb4 hpw)
     have hw1 : IntKind.i64.wrap (1 + (q0 : Int)) = 1 + (q0 : Int) := IntWalk.i64_in _ (by omega)
     have hw2 : IntKind.i64.wrap ((c : Int) + (1 + (q0 : Int))) = (c : Int) + (1 + (q0 : Int)) := IntWalk.i64_in _ (by omega)
     have hw3 : IntKind.i64.wrap ((m : Int) - 1) = (m : Int) - 1 := IntWalk.i64_in _ (by omega)
     clear hd4 hb4 N2
     go_wp2_with fail
     go_roundw
     case rel => exact ⟨ys, m - 1, c + (q0 + 1), by go_num, by go_num, HR4, HO, HD4, HK4, by omega, by omega, by omega⟩
     case measure => simp [intOf]; omega
    have hL1 : 0 < L := by omega
    have SE := Lib.hid (set_any p n h1 h8 w3 HD.out)
    go_wp2_with (go_at_call 106; refine SE.out.mono ?_)
    rintro en w4 ⟨rs, rfl, hd4, hb4⟩
    have HD4 := Lib.hid hd4
    have HK4 := Lib.hid (HK.out.trans hb4)
    have HR4 := Lib.hid (row_but HR.out hb4 hpw)
    clear hd4 hb4 SE
    obtain ⟨A, hA⟩ : ∃ A, bits .and .i64 rs L = A := ⟨_, rfl⟩
    by_cases hA0 : A = 0
    ·
     have hA1 : bits .and .i64 rs L = 0 := by rw [hA, hA0]
     clear hA
     go_wp2_with fail
     go_roundw
     case rel => exact ⟨ys, L, k - 1, rfl, by go_num, HR4, HO, HD4, HK4, by omega, by omega⟩
     case measure => simp [intOf]; omega
    go_upto_region 12 with fail
    clear hA
    have hp5 : p < w4.heap.size := HD4.out.lt
    have hwz : w.heap.size ≤ w4.heap.size := HK4.out.size
    have hyy : ys.length ≤ 9 := by omega
    generalize bits .andNot .i64 L A = L9
    obtain ⟨bc, hbc⟩ : ∃ b : UInt8, b.toNat = 49 + c := ⟨UInt8.ofNat (49 + c), by rw [UInt8.toNat_ofNat']; omega⟩
    refine wp_region_rel (N := 80) (qV p c bc A w4) (fun _ W => DiceAt W p ∧ But p w4 W) (by kernel_rfl) (by kernel_rfl) (by rfl) ⟨HD4.out.below (bel_drew0 _), But.of_below (bel_drew0 _)⟩ ?_ ?_
    ·
     intro i o L a W ho hl hL hS hdf dep all fr
     match i, ho with
     | 0, ho =>
      obtain rfl := (Option.some.inj ho).symm
      have f8 := fr 7 (by kernel_rfl)
      unfold Oper.wp
      simp [go_sem, f8]
      exact ⟨_, rfl, rfl, hS, fun j oj u _ _ _ _ hu => qV_keep (But.refl _ _) hp5 (by decide) hu⟩
     | 1, ho =>
      obtain rfl := (Option.some.inj ho).symm
      obtain ⟨_, v0, h0, d0⟩ := dep 0 _ rfl (by kernel_rfl)
      have d0 := d0 43 rfl
      obtain rfl : v0 = .int .i64 c := h0
      have hw : IntKind.i64.wrap (49 + (c : Int)) = 49 + (c : Int) := IntWalk.i64_in _ (by omega)
      unfold Oper.wp
      simp [go_sem, d0, hw]
      exact ⟨_, rfl, rfl, hS, fun j oj u _ _ _ _ hu => qV_keep (But.refl _ _) hp5 (by decide) hu⟩
     | 2, ho =>
      obtain rfl := (Option.some.inj ho).symm
      obtain ⟨_, v1, h1, d1⟩ := dep 1 _ rfl (by kernel_rfl)
      have d1 := d1 44 rfl
      obtain rfl : v1 = .int .i64 (49 + (c : Int)) := h1
      have hw : IntKind.u8.wrap (49 + (c : Int)) = 49 + (c : Int) := by rw [IntKind.wrap_u8]; omega
      unfold Oper.wp
      simp [go_sem, d1, hw]
      exact ⟨_, rfl, rfl, hS, fun j oj u _ _ _ _ hu => qV_keep (But.refl _ _) hp5 (by decide) hu⟩
     | 3, ho =>
      obtain rfl := (Option.some.inj ho).symm
      obtain ⟨_, v2, h2, d2⟩ := dep 2 _ rfl (by kernel_rfl)
      have d2 := d2 45 rfl
      obtain rfl : v2 = .int .u8 (49 + (c : Int)) := h2
      unfold Oper.wp
      simp [go_sem, d2]
      exact ⟨_, rfl, ⟨W.heap.size, rfl, hS.2.size, fun _ => by simp⟩, ⟨hS.1.below ((Below.refl _ _).alloc (Nat.le_refl _) _), hS.2.trans (But.of_below ((Below.refl _ _).alloc (Nat.le_refl _) _))⟩, fun j oj u _ _ _ _ hu => qV_keep (But.of_below ((Below.refl _ _).alloc (Nat.le_refl _) _)) hp5 (by decide) hu⟩
     | 4, ho =>
      obtain rfl := (Option.some.inj ho).symm
      obtain ⟨_, v3, ⟨G, rfl, hG, hc⟩, d3⟩ := dep 3 _ rfl (by kernel_rfl)
      have d3 := d3 46 rfl
      have hc := hc (by rw [hl]; simp)
      have hb8 : bc.toNat = 49 + c := hbc
      have hcv := conv_str (c := 1) (bat_one (W := W) (G := G) (b := bc) (by rw [hb8, hc]; simp))
      unfold Oper.wp
      simp [go_sem, d3, hcv]
      exact ⟨_, rfl, rfl, hS, fun j oj u _ _ _ _ hu => qV_keep (But.refl _ _) hp5 (by decide) hu⟩
     | 5, ho =>
      obtain rfl := (Option.some.inj ho).symm
      obtain ⟨_, v4, h4, d4⟩ := dep 4 _ rfl (by kernel_rfl)
      have d4 := d4 47 rfl
      obtain rfl : v4 = .string (arr [bc]) := h4
      have ha : (⟨#[99]⟩ : ByteArray) ++ arr [bc] = arr [99, bc] := arr_app [99] _
      have hs1 : (arr [bc]).size = 1 := arr_size _
      have hs2 : (⟨#[99]⟩ : ByteArray).size = 1 := rfl
      unfold Oper.wp
      simp [go_sem, d4, hs1, hs2, ha]
      exact ⟨_, rfl, rfl, hS, fun j oj u _ _ _ _ hu => qV_keep (But.refl _ _) hp5 (by decide) hu⟩
     | 6, ho =>
      obtain rfl := (Option.some.inj ho).symm
      have f8 := fr 10 (by kernel_rfl)
      unfold Oper.wp
      simp [go_sem, f8]
      exact ⟨_, rfl, rfl, hS, fun j oj u _ _ _ _ hu => qV_keep (But.refl _ _) hp5 (by decide) hu⟩
     | 7, ho =>
      obtain rfl := (Option.some.inj ho).symm
      have f8 := fr 0 (by kernel_rfl)
      unfold Oper.wp
      simp [go_sem, f8]
      exact ⟨_, rfl, rfl, hS, fun j oj u _ _ _ _ hu => qV_keep (But.refl _ _) hp5 (by decide) hu⟩
     | 8, ho =>
      obtain rfl := (Option.some.inj ho).symm
      obtain ⟨_, v7, h7, d7⟩ := dep 7 _ rfl (by kernel_rfl)
      have d7 := d7 50 rfl
      obtain rfl : v7 = .pointer (some ⟨p, 0, none⟩) := h7
      refine wp_call1 (args := #[.pointer (some ⟨p, 0, none⟩), .int .i64 5]) rfl (by simp [Act.eval, d7]) (ci24 _ _) (next_any p 5 W (by omega) (by omega) hS.1) ?_
      rintro e w' ⟨r, r0, r1, rfl, hd, hb⟩
      exact ⟨_, rfl, ⟨r, r0, by omega, rfl⟩, ⟨hd, hS.2.trans hb⟩, fun j oj u _ _ _ _ hu => qV_keep hb hp5 (by decide) hu⟩
     | 9, ho =>
      obtain rfl := (Option.some.inj ho).symm
      have f8 := fr 0 (by kernel_rfl)
      unfold Oper.wp
      simp [go_sem, f8]
      exact ⟨_, rfl, rfl, hS, fun j oj u _ _ _ _ hu => qV_keep (But.refl _ _) hp5 (by decide) hu⟩
     | 10, ho =>
      obtain rfl := (Option.some.inj ho).symm
      obtain ⟨_, v9, h9, d9⟩ := dep 9 _ rfl (by kernel_rfl)
      have d9 := d9 52 rfl
      obtain rfl : v9 = .pointer (some ⟨p, 0, none⟩) := h9
      refine wp_call1 (args := #[.pointer (some ⟨p, 0, none⟩), .int .i64 6]) rfl (by simp [Act.eval, d9]) (ci24 _ _) (next_any p 6 W (by omega) (by omega) hS.1) ?_
      rintro e w' ⟨r, r0, r1, rfl, hd, hb⟩
      exact ⟨_, rfl, ⟨r, r0, by omega, rfl⟩, ⟨hd, hS.2.trans hb⟩, fun j oj u _ _ _ _ hu => qV_keep hb hp5 (by decide) hu⟩
     | 11, ho =>
      obtain rfl := (Option.some.inj ho).symm
      have f8 := fr 0 (by kernel_rfl)
      unfold Oper.wp
      simp [go_sem, f8]
      exact ⟨_, rfl, rfl, hS, fun j oj u _ _ _ _ hu => qV_keep (But.refl _ _) hp5 (by decide) hu⟩
     | 12, ho =>
      obtain rfl := (Option.some.inj ho).symm
      obtain ⟨_, v11, h11, d11⟩ := dep 11 _ rfl (by kernel_rfl)
      have d11 := d11 54 rfl
      obtain rfl : v11 = .pointer (some ⟨p, 0, none⟩) := h11
      refine wp_call1 (args := #[.pointer (some ⟨p, 0, none⟩), .int .i64 2]) rfl (by simp [Act.eval, d11]) (ci24 _ _) (next_any p 2 W (by omega) (by omega) hS.1) ?_
      rintro e w' ⟨r, r0, r1, rfl, hd, hb⟩
      exact ⟨_, rfl, ⟨r, r0, by omega, rfl⟩, ⟨hd, hS.2.trans hb⟩, fun j oj u _ _ _ _ hu => qV_keep hb hp5 (by decide) hu⟩
     | 13, ho =>
      obtain rfl := (Option.some.inj ho).symm
      obtain ⟨_, v12, ⟨r, r0, r1, rfl⟩, d12⟩ := dep 12 _ rfl (by kernel_rfl)
      have d12 := d12 55 rfl
      have hw : IntKind.i64.wrap (1 + r) = 1 + r := IntWalk.i64_in _ (by omega)
      unfold Oper.wp
      simp [go_sem, d12, hw]
      exact ⟨_, rfl, ⟨_, rfl⟩, hS, fun j oj u _ _ _ _ hu => qV_keep (But.refl _ _) hp5 (by decide) hu⟩
     | 14, ho =>
      obtain rfl := (Option.some.inj ho).symm
      obtain ⟨_, v6, h6, d6⟩ := dep 6 _ rfl (by kernel_rfl)
      have d6 := d6 49 rfl
      obtain rfl : v6 = .int .i64 A := h6
      obtain ⟨_, v8, ⟨r8, _, _, rfl⟩, d8⟩ := dep 8 _ rfl (by kernel_rfl)
      obtain ⟨_, v10, ⟨r10, x0, x1, rfl⟩, d10⟩ := dep 10 _ rfl (by kernel_rfl)
      obtain ⟨_, v13, ⟨r13, rfl⟩, d13⟩ := dep 13 _ rfl (by kernel_rfl)
      have d8 := d8 51 rfl
      have d10 := d10 53 rfl
      have d13 := d13 56 rfl
      unfold Oper.wp
      simp [go_sem, d6, d8, d10, d13]
      exact ⟨_, rfl, ⟨r8, r10, r13, ⟨x0, x1⟩, rfl⟩, hS, fun j oj u _ _ _ _ hu => qV_keep (But.refl _ _) hp5 (by decide) hu⟩
     | 15, ho =>
      obtain rfl := (Option.some.inj ho).symm
      obtain ⟨_, v5, h5, d5⟩ := dep 5 _ rfl (by kernel_rfl)
      have d5 := d5 48 rfl
      obtain rfl : v5 = .string (arr [99, bc]) := h5
      obtain ⟨_, v14, ⟨r8, r10, r13, hx, rfl⟩, d14⟩ := dep 14 _ rfl (by kernel_rfl)
      have d14 := d14 57 rfl
      unfold Oper.wp
      simp [go_sem, d5, d14]
      exact ⟨_, rfl, ⟨r8, r10, r13, hx, rfl⟩, hS, fun j oj u _ _ _ _ hu => qV_keep (But.refl _ _) hp5 (by decide) hu⟩
     | 16, ho =>
      obtain rfl := (Option.some.inj ho).symm
      have h18 : ¬ L[17]? = some true := fun h => by
       obtain ⟨v, hv⟩ := all 17 _ rfl h
       have hv : L[16]? = some true := hv
       rw [hl] at hv; cases hv
      unfold Oper.wp
      simp [go_sem]
      exact ⟨_, rfl, ⟨W.heap.size, _, _, _, _, _, _, rfl, hS.2.size, heap_alloc_new _ _, fun h => absurd h (listed_not h18 (by decide))⟩, ⟨hS.1.below ((Below.refl _ _).alloc (Nat.le_refl _) _), hS.2.trans (But.of_below ((Below.refl _ _).alloc (Nat.le_refl _) _))⟩, fun j oj u _ _ _ _ hu => qV_keep (But.of_below ((Below.refl _ _).alloc (Nat.le_refl _) _)) hp5 (by decide) hu⟩
     | 17, ho =>
      obtain rfl := (Option.some.inj ho).symm
      obtain ⟨_, v15, ⟨r8, r10, r13, hx, rfl⟩, d15⟩ := dep 15 _ rfl (by kernel_rfl)
      obtain ⟨h17, v16, ⟨B, x0, x1, x2, x3, x4, x5, rfl, hB, hbx, _⟩, d16⟩ := dep 16 _ rfl (by kernel_rfl)
      have d15 := d15 58 rfl
      have d16 := d16 11 rfl
      have e0 : W.cell? ⟨B, 0, none⟩ = some x0 := by rw [cell_of_row _ _ 0 _ _ _ hbx]; rfl
      have e1 : W.cell? ⟨B, 1, none⟩ = some x1 := by rw [cell_of_row _ _ 1 _ _ _ hbx]; rfl
      have e2 : W.cell? ⟨B, 2, none⟩ = some x2 := by rw [cell_of_row _ _ 2 _ _ _ hbx]; rfl
      have e3 : W.cell? ⟨B, 3, none⟩ = some x3 := by rw [cell_of_row _ _ 3 _ _ _ hbx]; rfl
      have e4 : W.cell? ⟨B, 4, none⟩ = some x4 := by rw [cell_of_row _ _ 4 _ _ _ hbx]; rfl
      have e5 : W.cell? ⟨B, 5, none⟩ = some x5 := by rw [cell_of_row _ _ 5 _ _ _ hbx]; rfl
      have zf : ∀ o, W.frozen? ⟨B, o, none⟩ = false := fun o => frozen_of_row _ _ _ _ _ hbx
      have hset := BX.set6 hbx (.string (arr [99, bc])) (.int .i64 A) (.int .i64 r8) (.int .i64 r10) (.int .i64 r13) (.string (arr []))
      have hbw : Below w4.heap.size W _ := ((((((Below.refl w4.heap.size W).setCell (p := ⟨B, 0, none⟩) hB (.string (arr [99, bc]))).setCell (p := ⟨B, 1, none⟩) hB (.int .i64 A)).setCell (p := ⟨B, 2, none⟩) hB (.int .i64 r8)).setCell (p := ⟨B, 3, none⟩) hB (.int .i64 r10)).setCell (p := ⟨B, 4, none⟩) hB (.int .i64 r13)).setCell (p := ⟨B, 5, none⟩) hB (.string (arr []))
      have h4l := (dep 4 _ rfl (by kernel_rfl)).1
      unfold Oper.wp
      simp [go_sem, d15, d16, e0, e1, e2, e3, e4, e5, zf]
      refine ⟨.tuple #[], rfl, listed_more h17, ⟨hS.1.bel hbw hp5, hS.2.bel hbw⟩, fun j oj u hj hne hlj hsl hu => ?_⟩
      by_cases hj17 : j = 16
      ·
       subst hj17
       obtain rfl := (Option.some.inj hj).symm
       have hu9 := hsl 11 rfl
       rw [d16] at hu9
       obtain rfl := (Option.some.inj hu9).symm
       exact ⟨B, _, _, _, _, _, _, rfl, hB, hset, fun _ => ⟨r8, r10, r13, hx, rfl⟩⟩
      ·
       exact qV_store hj17 h4l hu
    ·
     intro vs W hS hV
     obtain ⟨B, v0, v1, v2, v3, v4, v5, hv16, hB, hbx, hx⟩ := hV 16 _ rfl
     obtain ⟨r8, r10, r13, hr10, he⟩ := hx rfl
     rw [he] at hbx
     have HBX := Lib.hid hbx
     have HD5 := Lib.hid hS.1
     have HK5 := Lib.hid (HK4.out.trans hS.2)
     have HR5 := Lib.hid (row_but HR4.out hS.2 hpw)
     have hBw : w.heap.size ≤ B := by omega
     have hpB : p < B := by omega
     clear hV hS hx he hbx
     simp only [putAll, Act.put, List.setIfInBounds_toArray, List.set_cons_zero, List.set_cons_succ]
     rw [hv16]
     clear hv16
     have ON := Lib.hid (one_any p 3 W (by omega) (by omega) HD5.out)
     go_wp2_with (go_at_call 34; refine ON.out.mono ?_)
     rintro en w7 ⟨b7, rfl, hd7, hb7⟩
     have HD7 := Lib.hid hd7
     have HK7 := Lib.hid (HK5.out.trans hb7)
     have HR7 := Lib.hid (row_but HR5.out hb7 hpw)
     have HX7 := Lib.hid (but_heap hb7 hpB HBX.out)
     clear hd7 hb7 ON
     cases b7
     rotate_left
     ·
      have HBX9 := HX7
      have HSX9 := HR7
      have HD9 := HD7
      have HK9 := HK7
      obtain ⟨W9, hW9⟩ : ∃ W9 : World, W9 = w7 := ⟨_, rfl⟩
      subst hW9
      have x0 : W9.cell? ⟨B, 0, none⟩ = some (.string (arr [99, bc])) := by rw [cell_of_row _ _ 0 _ _ _ HBX9.out]; rfl
      have x1 : W9.cell? ⟨B, 1, none⟩ = some (.int .i64 A) := by rw [cell_of_row _ _ 1 _ _ _ HBX9.out]; rfl
      have x2 : W9.cell? ⟨B, 2, none⟩ = some (.int .i64 r8) := by rw [cell_of_row _ _ 2 _ _ _ HBX9.out]; rfl
      have x3 : W9.cell? ⟨B, 3, none⟩ = some (.int .i64 r10) := by rw [cell_of_row _ _ 3 _ _ _ HBX9.out]; rfl
      have x4 : W9.cell? ⟨B, 4, none⟩ = some (.int .i64 r13) := by rw [cell_of_row _ _ 4 _ _ _ HBX9.out]; rfl
      have x5 : W9.cell? ⟨B, 5, none⟩ = some (.string (arr [])) := by rw [cell_of_row _ _ 5 _ _ _ HBX9.out]; rfl
      go_wp2_with (at_builtin; refine wpList_app elemSes encSes rfl _ _ rfl w.heap.size _ ys rfl (row_below HSX9.out ((Below.refl _ _).alloc (Nat.le_refl _) _)) _ _ _ [([99, bc], A, r8, r10, r13, [])] rfl (KAt.one (f := sesC) (k := 6) W9 ([99, bc], A, r8, r10, r13, []) 95) (by simp <;> omega) (by have := HK9.out.size; simp <;> omega) ?_)
      intro v6 w6 hr6 hb6 _ _
      have HB6 : Hid (Below w.heap.size W9 w6) := Lib.hid (((Below.refl _ _).alloc HK9.out.size _).trans hb6)
      have HR6 := Lib.hid hr6
      have HD6 := Lib.hid (HD9.out.bel HB6.out hpw)
      have HK6 := Lib.hid (HK9.out.bel HB6.out)
      have HO6 : Hid (SOk (ys ++ [([99, bc], A, r8, r10, r13, [])])) := Lib.hid (by
       intro s hs
       rcases List.mem_append.1 hs with hs | hs
       ·
        exact HO.out s hs
       ·
        rw [List.mem_singleton] at hs
        subst hs
        exact ⟨⟨by simp, by simp⟩, by simp only; omega, by simp only; omega⟩)
      clear hr6 hb6 x0 x1 x2 x3 x4 x5
      go_wp2_with fail
      go_roundw
      case rel => exact ⟨ys ++ [([99, bc], A, r8, r10, r13, [])], _, k - 1, rfl, by go_num, HR6, HO6, HD6, HK6, by omega, by rw [List.length_append]; simp; omega⟩
      case measure => simp [intOf]; omega
     have N3 := Lib.hid (next_any p 3 w7 (by omega) (by omega) HD7.out)
     go_wp2_with (go_at_call 24; refine N3.out.mono ?_)
     rintro en w8 ⟨r, r0, r1, rfl, hd8, hb8⟩
     obtain ⟨q, rfl⟩ : ∃ m : Nat, r = m := ⟨r.toNat, by omega⟩
     have HD8 := Lib.hid hd8
     have HK8 := Lib.hid (HK7.out.trans hb8)
     have HR8 := Lib.hid (row_but HR7.out hb8 hpw)
     have HX8 := Lib.hid (but_heap hb8 hpB HX7.out)
     clear hd8 hb8 N3
     have hq1 : IntKind.i64.wrap (49 + (q : Int)) = 49 + (q : Int) := IntWalk.i64_in _ (by omega)
     have hq2 : IntKind.u8.wrap (49 + (q : Int)) = 49 + (q : Int) := by rw [IntKind.wrap_u8]; omega
     obtain ⟨bq, hbq⟩ : ∃ b : UInt8, b.toNat = 49 + q := ⟨UInt8.ofNat (49 + q), by rw [UInt8.toNat_ofNat']; omega⟩
     have hcv := conv_str (c := 1) (bat_one (W := w8.alloc (.cells #[.int .u8 (49 + (q : Int))] 5)) (G := w8.heap.size) (b := bq) (by rw [hbq]; simp))
     have ha : (⟨#[82]⟩ : ByteArray) ++ arr [bq] = arr [82, bq] := arr_app [82] _
     have hs1 : (arr [bq]).size = 1 := arr_size _
     have hs2 : (⟨#[82]⟩ : ByteArray).size = 1 := rfl
     have hsm : ¬ 9223372036854775807 < (⟨#[82]⟩ : ByteArray).size + (arr [bq]).size := by rw [hs1, hs2]; decide
     have HXA := Lib.hid (but_heap (p := p) (But.of_below ((Below.refl w8.heap.size w8).alloc (Nat.le_refl _) (.cells #[.int .u8 (49 + (q : Int))] 5))) hpB HX8.out)
     have x5 := cell_of_row _ _ 5 _ _ _ HXA.out
     simp only [sesA, List.getElem?_toArray, List.getElem?_cons_zero, List.getElem?_cons_succ] at x5
     have zf := frozen_of_row _ _ 5 _ _ HXA.out
     have HSB : Hid (Below w.heap.size w8 ((w8.alloc (.cells #[.int .u8 (49 + (q : Int))] 5)).setCell ⟨B, 5, none⟩ (.string (arr [82, bq])))) := Lib.hid (((Below.refl _ _).alloc HK8.out.size _).setCell (p := ⟨B, 5, none⟩) hBw _)
     have HBX9 := Lib.hid (heap_setCell_same _ B 5 _ _ (.string (arr [82, bq])) HXA.out)
     have hB8 : w.heap.size ≤ w8.heap.size := HK8.out.size
     have HSX9 := Lib.hid (row_below HR8.out ((Below.refl w8.heap.size w8).alloc (Nat.le_refl _) (.cells #[.int .u8 (49 + (q : Int))] 5)))
     have HSX9 := Lib.hid (row_new HR4.out HSX9.out hB 5 (.string (arr [82, bq])))
     have HD9 := Lib.hid (HD8.out.bel HSB.out hpw)
     have HK9 := Lib.hid (HK8.out.bel HSB.out)
     go_upto_region 15 with fail
     clear hbq hcv hq1 hq2 x5 zf
     change Hid (Below _ _ ((w8.alloc (.cells #[.int .u8 (49 + (q : Int))] 5)).setCell ⟨B, 5, none⟩ (.string (arr [82, bq])))) at HSB
     generalize (w8.alloc (.cells #[.int .u8 (49 + (q : Int))] 5)).setCell ⟨B, 5, none⟩ (.string (arr [82, bq])) = W9 at *
     have x0 : W9.cell? ⟨B, 0, none⟩ = some (.string (arr [99, bc])) := by rw [cell_of_row _ _ 0 _ _ _ HBX9.out]; rfl
     have x1 : W9.cell? ⟨B, 1, none⟩ = some (.int .i64 A) := by rw [cell_of_row _ _ 1 _ _ _ HBX9.out]; rfl
     have x2 : W9.cell? ⟨B, 2, none⟩ = some (.int .i64 r8) := by rw [cell_of_row _ _ 2 _ _ _ HBX9.out]; rfl
     have x3 : W9.cell? ⟨B, 3, none⟩ = some (.int .i64 r10) := by rw [cell_of_row _ _ 3 _ _ _ HBX9.out]; rfl
     have x4 : W9.cell? ⟨B, 4, none⟩ = some (.int .i64 r13) := by rw [cell_of_row _ _ 4 _ _ _ HBX9.out]; rfl
     have x5 : W9.cell? ⟨B, 5, none⟩ = some (.string (arr [82, bq])) := by rw [cell_of_row _ _ 5 _ _ _ HBX9.out]; rfl
     go_wp2_with (at_builtin; refine wpList_app elemSes encSes rfl _ _ rfl w.heap.size _ ys rfl (row_below HSX9.out ((Below.refl _ _).alloc (Nat.le_refl _) _)) _ _ _ [([99, bc], A, r8, r10, r13, [82, bq])] rfl (KAt.one (f := sesC) (k := 6) W9 ([99, bc], A, r8, r10, r13, [82, bq]) 95) (by simp <;> omega) (by have := HK9.out.size; simp <;> omega) ?_)
     intro v6 w6 hr6 hb6 _ _
     have HB6 : Hid (Below w.heap.size W9 w6) := Lib.hid (((Below.refl _ _).alloc HK9.out.size _).trans hb6)
     have HR6 := Lib.hid hr6
     have HD6 := Lib.hid (HD9.out.bel HB6.out hpw)
     have HK6 := Lib.hid (HK9.out.bel HB6.out)
     have HO6 : Hid (SOk (ys ++ [([99, bc], A, r8, r10, r13, [82, bq])])) := Lib.hid (by
      intro s hs
      rcases List.mem_append.1 hs with hs | hs
      ·
       exact HO.out s hs
      ·
       rw [List.mem_singleton] at hs
       subst hs
       exact ⟨⟨by simp, by simp⟩, by simp only; omega, by simp only; omega⟩)
     clear hr6 hb6 x0 x1 x2 x3 x4 x5
     go_wp2_with fail
     go_roundw
     case rel => exact ⟨ys ++ [([99, bc], A, r8, r10, r13, [82, bq])], _, k - 1, rfl, by go_num, HR6, HO6, HD6, HK6, by omega, by rw [List.length_append]; simp; omega⟩
     case measure => simp [intOf]; omega
end Go.Proofs.YtihbpggbpapcfaaGreatDoor
namespace Go.Proofs.YtihbpggbpapcfaaGreatDoor
open Go.RowKit

theorem addS_all {Q : Ses → Prop} (hQ : ∀ s t, Q s → Q (orW s t)) {out : List Ses} {s : Ses} (ho : ∀ t ∈ out, Q t) (hs : Q s) : ∀ t ∈ addS out s, Q t := by
 unfold addS
 split
 ·
  intro t ht
  obtain ⟨i, hi, rfl⟩ := List.getElem_of_mem ht
  rw [List.getElem_modify]
  split
  ·
   exact hQ _ _ (ho _ (List.getElem_mem _))
  ·
   exact ho _ (List.getElem_mem _)
 ·
  intro t ht
  rcases List.mem_append.1 ht with h | h
  ·
   exact ho t h
  ·
   rw [List.mem_singleton] at h; subst h; exact hs
theorem joinS_all {Q : Ses → Prop} (hQ : ∀ s t, Q s → Q (orW s t)) : ∀ (xs out : List Ses), (∀ t ∈ out, Q t) → (∀ s ∈ xs, Q s) → ∀ t ∈ xs.foldl addS out, Q t
 | [], _, ho, _ => ho
 | s :: xs, out, ho, hx => joinS_all hQ xs (addS out s) (addS_all hQ ho (hx s List.mem_cons_self)) (fun t h => hx t (List.mem_cons_of_mem _ h))
theorem nrm_small {m : Int} {xs : List Ses} (h : SOk xs) : SOk (nrmS m xs).2 ∧ (nrmS m xs).2.length ≤ xs.length := by
 unfold nrmS
 split
 ·
  exact ⟨(fun s hs => by cases hs), Nat.zero_le _⟩
 ·
  split
  ·
   exact ⟨(fun s hs => by cases hs), Nat.zero_le _⟩
  ·
   split
   ·
    exact ⟨(fun s hs => by cases hs), Nat.zero_le _⟩
   ·
    split
    ·
     exact ⟨(fun s hs => by cases hs), Nat.zero_le _⟩
    ·
     have hj : SOk (joinS xs) := joinS_all (Q := fun s => (s.1.length ≤ 9223372036854775807 ∧ s.2.2.2.2.2.length ≤ 9223372036854775807) ∧ -9223372036854775808 ≤ s.2.2.2.1 ∧ s.2.2.2.1 ≤ 9223372036854775807) (fun s t h => h) xs [] (fun t ht => by cases ht) h
     refine ⟨fun s hs => hj s ((List.mergeSort_perm _ _).mem_iff.1 hs), ?_⟩
     show (srtS (joinS xs)).length ≤ _
     unfold srtS
     rw [List.length_mergeSort]
     exact joinS_le xs
set_option maxRecDepth 100000 in
set_option maxHeartbeats 8000000 in
theorem list_any (p n : Nat) (h1 : 1 ≤ n) (h8 : n ≤ 8) (w : World) (hD : DiceAt w p) : Calls Tryz.prog 32 #[.pointer (some ⟨p, 0, none⟩), .int .i64 n] w (MdR 9 p w) := by
 have hpw : p < w.heap.size := hD.lt
 have HD := Lib.hid hD
 clear hD
 go_enter Tryz.func32, Tryz.ntmps32
 go_wp2_with fail
 go_loopw [5] (fun v5 wr => ∃ i : Nat, v5 = .int .i64 i ∧ i ≤ 4 ∧ Hid (DiceAt wr p) ∧ Hid (But p w wr)) (fun v5 _ => 4 - (intOf v5).toNat)
 case atStart => exact ⟨0, rfl, by omega, HD, Lib.hid (But.refl _ _)⟩
 case round =>
  clear HD
  obtain ⟨i, rfl, hi, HD, HK⟩ := hrel
  by_cases hi4 : i = 4
  ·
   subst hi4
   go_wp2_with fail
   go_ret
   exact ⟨_, [], rfl, World.ownsRow_nil _ _ _ _, Nat.zero_le _, (fun s hs => by cases hs), HD.out, HK.out⟩
  have hi1 : (i : Int) < 4 := by omega
  have SQ := Lib.hid (seq_any p n h1 h8 wr HD.out)
  go_wp2_with (go_at_call 73; refine SQ.out.mono ?_)
  rintro en w1 ⟨v1, xs, rfl, hr1, hl1, ho1, hd1, hb1⟩
  have HD1 := Lib.hid hd1
  have HK1 := Lib.hid (HK.out.trans hb1)
  obtain ⟨xa, xc, rfl, hxc, hxs⟩ := SRow.sat hr1
  have NR := Lib.hid (rnormal_any xa xs.length xc xs n w1 hxs ho1.str (by omega))
  have HNV := Lib.hid (nrm_small (m := (n : Int)) ho1)
  obtain ⟨⟨e, ys⟩, hr⟩ : ∃ r, nrmS (n : Int) xs = r := ⟨_, rfl⟩
  rw [hr] at NR HNV
  simp only at HNV
  clear hr1 hd1 hb1 hxs ho1 SQ hr
  go_wp2_with (go_at_call 72; refine NR.out.mono ?_)
  rintro en w2 ⟨v2, rfl, hr2, hb2⟩
  have HD2 := Lib.hid (HD1.out.below hb2)
  have HR2 := Lib.hid (row_base hr2 HK1.out.size)
  have HK2 := Lib.hid (HK1.out.trans (But.of_below hb2))
  clear hr2 hb2
  by_cases he : e = 0
  ·
   subst he
   go_wp2_with fail
   go_ret
   exact ⟨_, ys, rfl, HR2.out, Nat.le_trans HNV.out.2 hl1, HNV.out.1, HD2.out, HK2.out⟩
  ·
   have hiw : IntKind.i64.wrap ((i : Int) + 1) = (i : Int) + 1 := IntWalk.i64_in _ (by omega)
   go_wp2_with fail
   go_roundw
   case rel => exact ⟨i + 1, by go_num, by omega, HD2, HK2⟩
   case measure => simp [intOf]; omega
end Go.Proofs.YtihbpggbpapcfaaGreatDoor
