/- Texts V114, joined: walks and laws for the versions. -/
import Derived.Test.YtihbpggbpapcfaaGreatDoorM49
namespace Go.Proofs.YtihbpggbpapcfaaGreatDoor
open Go.RowKit

theorem KRow.one' {α : Type} {f : α → List Value} {k : Nat} (hf : Enc f k) (w : World) (x : α) (e : TypeId) {B : Nat} (hB : B ≤ w.heap.size) : KRow f k e (w.alloc (.cells (f x).toArray e)) B (.slice (some ⟨w.heap.size, 0, none⟩) 1 1) [x] :=
  ⟨by simp [hf.len], Or.inr ⟨w.heap.size, 1, (f x).toArray, rfl, hB, heap_alloc_new w _, Nat.le_refl _, by simp [maxLen], by simp [hf.len], by rw [List.take_of_length_le (by simp [hf.len])]; simp⟩⟩
theorem SRow.put {w : World} {B g n cap : Nat} {ss : List Ses} (h : SRow w B (.slice (some ⟨g, 0, none⟩) n cap) ss) (hn : n = ss.length) {k : Nat} {t : Ses} (t' : Ses) (hk : ss[k]? = some t) (o : Nat) (u : Value) (ho : o < 6) (he : sesC t' = (sesC t).set o u) : SRow (w.setCell ⟨g, k * 6 + o, none⟩ u) B (.slice (some ⟨g, 0, none⟩) n cap) (ss.set k t') := by
  subst hn
  have h1 := (World.ownsRow.stored h (k * 6 + o) u).1
  rw [flat_set sesC 6 sesC_len o u ho ss k t t' hk he] at h1
  show World.ownsRow _ _ _ _ _ (ss.set k t').length _
  rw [List.length_set]
  exact h1
theorem sok_set {xs : List Ses} (h : SOk xs) (k : Nat) (t' : Ses) (ht : (t'.1.length ≤ 9223372036854775807 ∧ t'.2.2.2.2.2.length ≤ 9223372036854775807) ∧ -9223372036854775808 ≤ t'.2.2.2.1 ∧ t'.2.2.2.1 ≤ 9223372036854775807) : SOk (xs.set k t') := by
  intro s hs
  rcases List.mem_or_eq_of_mem_set hs with h1 | h1
  · exact h s h1
  · rw [h1]; exact ht
theorem sok_app {xs ys : List Ses} (h : SOk xs) (h2 : SOk ys) : SOk (xs ++ ys) := fun s hs => (List.mem_append.1 hs).elim (h s) (h2 s)
def oV (p M : Nat) (_w5 : World) (_L : Array Bool) (j : Nat) (v : Value) (W : World) : Prop := match j with
  | 0 => ∃ G, v = .slice (some ⟨G, 0, none⟩) 2 2 ∧ p < G ∧ W.heap[G]? = some (.cells #[.string ⟨#[]⟩, .string ⟨#[99, 49]⟩] 9 (0, 0))
  | 1 | 5 => v = .pointer (some ⟨p, 0, none⟩)
  | 2 => ∃ r : Nat, r < 2 ∧ v = .int .i64 r
  | 3 => ∃ G r : Nat, r < 2 ∧ v = .pointer (some ⟨G, r, none⟩) ∧ p < G ∧ W.heap[G]? = some (.cells #[.string ⟨#[]⟩, .string ⟨#[99, 49]⟩] 9 (0, 0))
  | 4 => ∃ s : L8, s.length ≤ 2 ∧ v = .string (arr s)
  | 6 => ∃ r : Int, v = .int .i64 r
  | 7 => ∃ r : Int, v = .agg #[.int .i64 r, .int .i64 0, .int .i64 0, .int .i64 1]
  | 8 => ∃ (s : L8) (r : Int), s.length ≤ 2 ∧ v = .agg #[.string (arr s), .int .i64 r, .int .i64 0, .int .i64 0, .int .i64 1, .string (arr [])]
  | 9 | 10 => ∃ (s : L8) (r : Int), s.length ≤ 2 ∧ SRow W M v [(s, r, 0, 0, 1, [])]
  | _ => True
theorem oV_keep {p M : Nat} {w5 : World} {L : Array Bool} {i j : Nat} {v : Value} {W W' : World} (hb : But p W W') (hp : p < M) (h : oV p M w5 L j v W) : oV p M w5 (L.setIfInBounds i true) j v W' := by
  unfold oV at h ⊢
  split <;> simp only at h ⊢ <;> try exact h
  · obtain ⟨G, h1, h2, h3⟩ := h
    exact ⟨G, h1, h2, but_heap hb h2 h3⟩
  · obtain ⟨G, r, h0, h1, h2, h3⟩ := h
    exact ⟨G, r, h0, h1, h2, but_heap hb h2 h3⟩
  · obtain ⟨s, r, h1, h2⟩ := h
    exact ⟨s, r, h1, row_but h2 hb hp⟩
  · obtain ⟨s, r, h1, h2⟩ := h
    exact ⟨s, r, h1, row_but h2 hb hp⟩

set_option maxRecDepth 100000 in
set_option maxHeartbeats 16000000 in
theorem odd_ses_any (p : Nat) (a : Option Addr) (n c : Nat) (xs : List Ses) (w : World) (hx : SAt w a n xs) (hO : SOk xs) (hn : n ≤ 1000000) (hD : DiceAt w p) : Calls Tryz.prog 48 #[.pointer (some ⟨p, 0, none⟩), .slice a n c] w (MdR (n + 97) p w) := by
  have hpw : p < w.heap.size := hD.lt
  have hxl : xs.length = n := hx.1
  have HD := Lib.hid hD
  have HX := Lib.hid hx
  have HO := Lib.hid hO
  clear hD hx hO
  go_enter Tryz.func48, Tryz.ntmps48
  go_wp2_with (at_builtin; refine wpList_app elemSes encSes rfl _ _ rfl w.heap.size _ [] rfl (KRow.nil _ _ _ _ _) _ _ _ xs rfl HX.out (by simp; omega) (Nat.le_refl _) ?_)
  intro v1 w1 hr1 hb1 _ _
  have HR1 : Hid (SRow w1 w.heap.size v1 xs) := Lib.hid hr1
  have HD1 := Lib.hid (HD.out.below hb1)
  have HK1 : Hid (But p w w1) := Lib.hid (But.of_below hb1)
  clear hr1 hb1 HD HX
  obtain ⟨va, vc, rfl, hvc, _⟩ := SRow.sat HR1.out
  rw [hxl] at HR1 ⊢
  by_cases hn0 : n = 0
  · subst hn0
    go_upto_region 3 with fail
    have hz5 : w.heap.size ≤ w1.heap.size := HK1.out.size
    refine wp_region_rel (N := 104) (oV p w.heap.size w1) (fun _ W => DiceAt W p ∧ But p w1 W) (by kernel_rfl) (by kernel_rfl) (by rfl) ⟨HD1.out.below (bel_drew0 _), But.of_below (bel_drew0 _)⟩ ?_ ?_
    · intro i o L a W ho hl hL hS hdf dep all fr
      match i, ho with
      | 0, ho =>
        obtain rfl := (Option.some.inj ho).symm
        unfold Oper.wp
        simp [go_sem]
        exact ⟨_, rfl, ⟨W.heap.size, rfl, hS.1.lt, heap_alloc_new _ _⟩, ⟨hS.1.below ((Below.refl _ _).alloc (Nat.le_refl _) _), hS.2.trans (But.of_below ((Below.refl _ _).alloc (Nat.le_refl _) _))⟩, fun j oj u _ _ _ _ hu => oV_keep (But.of_below ((Below.refl _ _).alloc (Nat.le_refl _) _)) hpw hu⟩
      | 1, ho =>
        obtain rfl := (Option.some.inj ho).symm
        have f8 := fr 0 (by kernel_rfl)
        unfold Oper.wp
        simp [go_sem, f8]
        exact ⟨_, rfl, rfl, hS, fun j oj u _ _ _ _ hu => oV_keep (But.refl _ _) hpw hu⟩
      | 2, ho =>
        obtain rfl := (Option.some.inj ho).symm
        obtain ⟨_, v1, h1, d1⟩ := dep 1 _ rfl (by kernel_rfl)
        have d1 := d1 14 rfl
        obtain rfl : v1 = .pointer (some ⟨p, 0, none⟩) := h1
        refine wp_call1 (args := #[.pointer (some ⟨p, 0, none⟩), .int .i64 2]) rfl (by simp [Act.eval, d1]) (ci24 _ _) (next_any p 2 W (by omega) (by omega) hS.1) ?_
        rintro e w' ⟨r, r0, r1, rfl, hd, hb⟩
        exact ⟨_, rfl, ⟨r.toNat, by omega, by rw [Int.toNat_of_nonneg r0]⟩, ⟨hd, hS.2.trans hb⟩, fun j oj u _ _ _ _ hu => oV_keep hb hpw hu⟩
      | 3, ho =>
        obtain rfl := (Option.some.inj ho).symm
        obtain ⟨_, v0, ⟨G, rfl, hG, hh⟩, d0⟩ := dep 0 _ rfl (by kernel_rfl)
        obtain ⟨_, v2, ⟨r, hr, rfl⟩, d2⟩ := dep 2 _ rfl (by kernel_rfl)
        have d0 := d0 13 rfl
        have d2 := d2 15 rfl
        have hr' : (r : Int) < 2 := by omega
        have hr0 : (0 : Int) ≤ r := by omega
        unfold Oper.wp
        simp [go_sem, d0, d2, hr', hr0]
        exact ⟨_, rfl, ⟨G, r, hr, rfl, hG, hh⟩, hS, fun j oj u _ _ _ _ hu => oV_keep (But.refl _ _) hpw hu⟩
      | 4, ho =>
        obtain rfl := (Option.some.inj ho).symm
        obtain ⟨_, v3, ⟨G, r, hr, rfl, hG, hh⟩, d3⟩ := dep 3 _ rfl (by kernel_rfl)
        have d3 := d3 16 rfl
        have hr2 : r = 0 ∨ r = 1 := by omega
        rcases hr2 with rfl | rfl
        · have hc : W.cell? ⟨G, 0, none⟩ = some (.string (arr [])) := by rw [cell_of_row _ _ 0 _ _ _ hh]; rfl
          unfold Oper.wp
          simp [go_sem, d3, hc]
          exact ⟨_, rfl, ⟨[], by simp, rfl⟩, hS, fun j oj u _ _ _ _ hu => oV_keep (But.refl _ _) hpw hu⟩
        · have hc : W.cell? ⟨G, 1, none⟩ = some (.string (arr [99, 49])) := by rw [cell_of_row _ _ 1 _ _ _ hh]; rfl
          unfold Oper.wp
          simp [go_sem, d3, hc]
          exact ⟨_, rfl, ⟨[99, 49], by simp, rfl⟩, hS, fun j oj u _ _ _ _ hu => oV_keep (But.refl _ _) hpw hu⟩
      | 5, ho =>
        obtain rfl := (Option.some.inj ho).symm
        have f8 := fr 0 (by kernel_rfl)
        unfold Oper.wp
        simp [go_sem, f8]
        exact ⟨_, rfl, rfl, hS, fun j oj u _ _ _ _ hu => oV_keep (But.refl _ _) hpw hu⟩
      | 6, ho =>
        obtain rfl := (Option.some.inj ho).symm
        obtain ⟨_, v5, h5, d5⟩ := dep 5 _ rfl (by kernel_rfl)
        have d5 := d5 18 rfl
        obtain rfl : v5 = .pointer (some ⟨p, 0, none⟩) := h5
        refine wp_call1 (args := #[.pointer (some ⟨p, 0, none⟩), .int .i64 3]) rfl (by simp [Act.eval, d5]) (ci24 _ _) (next_any p 3 W (by omega) (by omega) hS.1) ?_
        rintro e w' ⟨r, r0, r1, rfl, hd, hb⟩
        exact ⟨_, rfl, ⟨r, rfl⟩, ⟨hd, hS.2.trans hb⟩, fun j oj u _ _ _ _ hu => oV_keep hb hpw hu⟩
      | 7, ho =>
        obtain rfl := (Option.some.inj ho).symm
        obtain ⟨_, v6, ⟨r, rfl⟩, d6⟩ := dep 6 _ rfl (by kernel_rfl)
        have d6 := d6 19 rfl
        unfold Oper.wp
        simp [go_sem, d6]
        exact ⟨_, rfl, ⟨r, rfl⟩, hS, fun j oj u _ _ _ _ hu => oV_keep (But.refl _ _) hpw hu⟩
      | 8, ho =>
        obtain rfl := (Option.some.inj ho).symm
        obtain ⟨_, v4, ⟨s, hs, rfl⟩, d4⟩ := dep 4 _ rfl (by kernel_rfl)
        obtain ⟨_, v7, ⟨r, rfl⟩, d7⟩ := dep 7 _ rfl (by kernel_rfl)
        have d4 := d4 17 rfl
        have d7 := d7 20 rfl
        unfold Oper.wp
        simp [go_sem, d4, d7]
        exact ⟨_, rfl, ⟨s, r, hs, rfl⟩, hS, fun j oj u _ _ _ _ hu => oV_keep (But.refl _ _) hpw hu⟩
      | 9, ho =>
        obtain rfl := (Option.some.inj ho).symm
        obtain ⟨_, v8, ⟨s, r, hs, rfl⟩, d8⟩ := dep 8 _ rfl (by kernel_rfl)
        have d8 := d8 21 rfl
        unfold Oper.wp
        simp [go_sem, d8]
        exact ⟨_, rfl, ⟨s, r, hs, KRow.one' encSes W ((s, r, 0, 0, 1, []) : Ses) _ (Nat.le_trans hz5 hS.2.size)⟩, ⟨hS.1.below ((Below.refl _ _).alloc (Nat.le_refl _) _), hS.2.trans (But.of_below ((Below.refl _ _).alloc (Nat.le_refl _) _))⟩, fun j oj u _ _ _ _ hu => oV_keep (But.of_below ((Below.refl _ _).alloc (Nat.le_refl _) _)) hpw hu⟩
      | 10, ho =>
        obtain rfl := (Option.some.inj ho).symm
        obtain ⟨_, v9, h9, d9⟩ := dep 9 _ rfl (by kernel_rfl)
        have d9 := d9 22 rfl
        unfold Oper.wp
        simp [go_sem, d9]
        exact ⟨_, rfl, h9, hS, fun j oj u _ _ _ _ hu => oV_keep (But.refl _ _) hpw hu⟩
    · intro vs W hS hV
      obtain ⟨s, r, hs, hr⟩ := hV 10 _ rfl
      have HR := Lib.hid hr
      have HDD := Lib.hid hS.1
      have HKK := Lib.hid (HK1.out.trans hS.2)
      clear hV hS hr
      simp only [putAll, Act.put, List.setIfInBounds_toArray, List.set_cons_zero, List.set_cons_succ]
      go_wp2_with fail
      go_ret
      refine ⟨_, _, rfl, HR.out, by simp, ?_, HDD.out, HKK.out⟩
      intro x hx
      rw [List.mem_singleton] at hx
      subst hx
      exact ⟨⟨by simp only; omega, by simp⟩, by simp only; omega, by simp only; omega⟩
  have hn1 : (n : Int) ≠ 0 := by omega
  have hn2 : ((n : Int) == 0) = false := by simpa using hn0
  have NN := Lib.hid (next_any p n w1 (by omega) (by omega) HD1.out)
  go_wp2_with (go_at_call 24; refine NN.out.mono ?_)
  rintro en w1' ⟨k', k0, k1, rfl, hd1, hb1⟩
  obtain ⟨k, rfl⟩ : ∃ k : Nat, k' = k := ⟨k'.toNat, by omega⟩
  have HD1 := Lib.hid hd1
  have HK1 := Lib.hid (HK1.out.trans hb1)
  have HR1 := Lib.hid (row_but HR1.out hb1 hpw)
  clear hd1 hb1 NN
  have N6 := Lib.hid (next_any p 6 w1' (by omega) (by omega) HD1.out)
  go_wp2_with (go_at_call 24; refine N6.out.mono ?_)
  rintro en w2 ⟨r, r0, r1, rfl, hd2, hb2⟩
  have HD2 := Lib.hid hd2
  have HK2 := Lib.hid (HK1.out.trans hb2)
  have HR2 : Hid (SRow w2 w.heap.size (.slice va n vc) xs) := Lib.hid (row_but HR1.out hb2 hpw)
  clear hd2 hb2 N6 HD1 HK1 HR1
  obtain ⟨g, cap, hv, hcap, hgB, hgl, hcells⟩ := SRow.open_ HR2.out (by omega)
  obtain ⟨rfl, _, rfl⟩ : va = some ⟨g, 0, none⟩ ∧ n = xs.length ∧ vc = cap := by
    injection hv with e1 e2 e3
    exact ⟨e1, e2, e3⟩
  obtain ⟨t, hkt⟩ : ∃ t, xs[k]? = some t := ⟨_, List.getElem?_eq_getElem (by omega)⟩
  have hto := HO.out t (List.mem_of_getElem? hkt)
  have hk2 : (k : Int) < n := k1
  have hk3 : k < n := by omega
  clear hcells hv
  subst hxl
  have hr : r = 0 ∨ r = 1 ∨ r = 2 ∨ r = 3 ∨ r = 4 ∨ r = 5 := by omega
  rcases hr with rfl | rfl | rfl | rfl | rfl | rfl
  · have NK := Lib.hid (next_any p 3 (w2.alloc (.cells #[.string ⟨#[]⟩, .string ⟨#[99, 49]⟩, .string ⟨#[122, 122]⟩] 9)) (by omega) (by omega) (HD2.out.below ((Below.refl _ _).alloc (Nat.le_refl _) _)))
    go_wp2_with (go_at_call 24; refine NK.out.mono ?_)
    rintro en w3 ⟨s, s0, s1, rfl, hd3, hb3⟩
    have HD3 := Lib.hid hd3
    have HBA := Lib.hid ((Below.refl w2.heap.size w2).alloc (Nat.le_refl _) (.cells #[.string ⟨#[]⟩, .string ⟨#[99, 49]⟩, .string ⟨#[122, 122]⟩] 9))
    have HR3 := Lib.hid (row_but (row_below HR2.out HBA.out) hb3 hpw)
    have HK3 := Lib.hid ((HK2.out.trans (But.of_below HBA.out)).trans hb3)
    have hcl : ∀ i v, (#[.string ⟨#[]⟩, .string ⟨#[99, 49]⟩, .string ⟨#[122, 122]⟩] : Array Value)[i]? = some v → w3.cell? ⟨w2.heap.size, i, none⟩ = some v := fun i v h => but_cell hb3 HD2.out.lt (by rw [cell_of_row _ _ i _ _ _ (heap_alloc_new _ _)]; exact h)
    have c0 := hcl 0 _ rfl
    have c1 := hcl 1 _ rfl
    have c2 := hcl 2 _ rfl
    clear hcl hd3 hb3 NK
    obtain ⟨_, _, hv9, _, _, _, hcells⟩ := SRow.open_ HR3.out (by omega)
    cases hv9
    obtain ⟨x0, x1, x2, x3, x4, x5, zf⟩ := hcells k t hkt
    have z := zf 0
    rw [Nat.add_zero] at z
    have hs : s = 0 ∨ s = 1 ∨ s = 2 := by omega
    clear zf hcells
    rcases hs with rfl | rfl | rfl
    · have HR4 : Hid (SRow (w3.setCell ⟨g, k * 6, none⟩ (.string (arr []))) w.heap.size (.slice (some ⟨g, 0, none⟩) xs.length vc) (xs.set k ([], t.2))) := Lib.hid (SRow.put HR3.out rfl ([], t.2) hkt 0 (.string (arr [])) (by omega) rfl)
      have HBS := Lib.hid ((Below.refl w.heap.size w3).setCell (p := ⟨g, k * 6, none⟩) hgB (.string (arr [])))
      have HO4 := Lib.hid (sok_set HO.out k ([], t.2) ⟨⟨by simp, hto.1.2⟩, hto.2⟩)
      have HD4 := Lib.hid (HD3.out.bel HBS.out hpw)
      have HK4 := Lib.hid (HK3.out.bel HBS.out)
      go_wp2_with fail
      go_ret
      exact ⟨_, _, rfl, HR4.out, by rw [List.length_set]; omega, HO4.out, HD4.out, HK4.out⟩
    · have HR4 : Hid (SRow (w3.setCell ⟨g, k * 6, none⟩ (.string (arr [99, 49]))) w.heap.size (.slice (some ⟨g, 0, none⟩) xs.length vc) (xs.set k ([99, 49], t.2))) := Lib.hid (SRow.put HR3.out rfl ([99, 49], t.2) hkt 0 (.string (arr [99, 49])) (by omega) rfl)
      have HBS := Lib.hid ((Below.refl w.heap.size w3).setCell (p := ⟨g, k * 6, none⟩) hgB (.string (arr [99, 49])))
      have HO4 := Lib.hid (sok_set HO.out k ([99, 49], t.2) ⟨⟨by simp, hto.1.2⟩, hto.2⟩)
      have HD4 := Lib.hid (HD3.out.bel HBS.out hpw)
      have HK4 := Lib.hid (HK3.out.bel HBS.out)
      go_wp2_with fail
      go_ret
      exact ⟨_, _, rfl, HR4.out, by rw [List.length_set]; omega, HO4.out, HD4.out, HK4.out⟩
    · have HR4 : Hid (SRow (w3.setCell ⟨g, k * 6, none⟩ (.string (arr [122, 122]))) w.heap.size (.slice (some ⟨g, 0, none⟩) xs.length vc) (xs.set k ([122, 122], t.2))) := Lib.hid (SRow.put HR3.out rfl ([122, 122], t.2) hkt 0 (.string (arr [122, 122])) (by omega) rfl)
      have HBS := Lib.hid ((Below.refl w.heap.size w3).setCell (p := ⟨g, k * 6, none⟩) hgB (.string (arr [122, 122])))
      have HO4 := Lib.hid (sok_set HO.out k ([122, 122], t.2) ⟨⟨by simp, hto.1.2⟩, hto.2⟩)
      have HD4 := Lib.hid (HD3.out.bel HBS.out hpw)
      have HK4 := Lib.hid (HK3.out.bel HBS.out)
      go_wp2_with fail
      go_ret
      exact ⟨_, _, rfl, HR4.out, by rw [List.length_set]; omega, HO4.out, HD4.out, HK4.out⟩
  · obtain ⟨_, _, hv9, _, _, _, hcells⟩ := SRow.open_ HR2.out (by omega)
    cases hv9
    obtain ⟨tcl, twk, tdy, tst, tln, trm⟩ := t
    obtain ⟨x0, x1, x2, x3, x4, x5, zf⟩ := hcells k _ hkt
    clear zf hcells
    simp only at x0 x1 x2 x3 x4 x5
    have OT := Lib.hid (odd_time_any p twk tdy tst tln hto.2.1 hto.2.2 w2 HD2.out)
    go_wp2_with (go_at_call 84; refine OT.out.mono ?_)
    rintro en w3 ⟨ya, yb, yc, yd, rfl, hy1, hy2, hd3, hb3⟩
    have HD3 := Lib.hid hd3
    have HR3 := Lib.hid (row_but HR2.out hb3 hpw)
    have HK3 := Lib.hid (HK2.out.trans hb3)
    clear hd3 hb3 OT x0 x1 x2 x3 x4 x5
    obtain ⟨_, _, hv9, _, _, _, hcells⟩ := SRow.open_ HR3.out (by omega)
    cases hv9
    obtain ⟨x0, x1, x2, x3, x4, x5, zf⟩ := hcells k _ hkt
    simp only at x0 x1 x2 x3 x4 x5
    have z1 := zf 1
    have z2 := zf 2
    have z3 := zf 3
    have z4 := zf 4
    clear zf hcells
    have p1 := SRow.put HR3.out rfl (tcl, ya, tdy, tst, tln, trm) hkt 1 (.int .i64 ya) (by omega) rfl
    have p2 := SRow.put (t := (tcl, ya, tdy, tst, tln, trm)) p1 (by rw [List.length_set]) (tcl, ya, yb, tst, tln, trm) (by rw [List.getElem?_set_self (by omega)]) 2 (.int .i64 yb) (by omega) rfl
    have p3 := SRow.put (t := (tcl, ya, yb, tst, tln, trm)) p2 (by rw [List.length_set, List.length_set]) (tcl, ya, yb, yc, tln, trm) (by rw [List.getElem?_set_self (by rw [List.length_set]; omega)]) 3 (.int .i64 yc) (by omega) rfl
    have p4 := SRow.put (t := (tcl, ya, yb, yc, tln, trm)) p3 (by rw [List.length_set, List.length_set, List.length_set]) (tcl, ya, yb, yc, yd, trm) (by rw [List.getElem?_set_self (by rw [List.length_set, List.length_set]; omega)]) 4 (.int .i64 yd) (by omega) rfl
    have HR4 := Lib.hid p4
    have HBS := Lib.hid (((((Below.refl w.heap.size w3).setCell (p := ⟨g, k * 6 + 1, none⟩) hgB (.int .i64 ya)).setCell (p := ⟨g, k * 6 + 2, none⟩) hgB (.int .i64 yb)).setCell (p := ⟨g, k * 6 + 3, none⟩) hgB (.int .i64 yc)).setCell (p := ⟨g, k * 6 + 4, none⟩) hgB (.int .i64 yd))
    have HO4 := Lib.hid (sok_set (sok_set (sok_set (sok_set HO.out k (tcl, ya, tdy, tst, tln, trm) hto) k (tcl, ya, yb, tst, tln, trm) hto) k (tcl, ya, yb, yc, tln, trm) ⟨hto.1, hy1, hy2⟩) k (tcl, ya, yb, yc, yd, trm) ⟨hto.1, hy1, hy2⟩)
    have HD4 := Lib.hid (HD3.out.bel HBS.out hpw)
    have HK4 := Lib.hid (HK3.out.bel HBS.out)
    clear p1 p2 p3 p4
    go_wp2_with fail
    go_ret
    exact ⟨_, _, rfl, HR4.out, by rw [List.length_set, List.length_set, List.length_set, List.length_set]; omega, HO4.out, HD4.out, HK4.out⟩
  · have NK := Lib.hid (next_any p 3 (w2.alloc (.cells #[.string ⟨#[97, 32, 98]⟩, .string ⟨#[82, 49]⟩, .string ⟨#[45]⟩] 9)) (by omega) (by omega) (HD2.out.below ((Below.refl _ _).alloc (Nat.le_refl _) _)))
    go_wp2_with (go_at_call 24; refine NK.out.mono ?_)
    rintro en w3 ⟨s, s0, s1, rfl, hd3, hb3⟩
    have HD3 := Lib.hid hd3
    have HBA := Lib.hid ((Below.refl w2.heap.size w2).alloc (Nat.le_refl _) (.cells #[.string ⟨#[97, 32, 98]⟩, .string ⟨#[82, 49]⟩, .string ⟨#[45]⟩] 9))
    have HR3 := Lib.hid (row_but (row_below HR2.out HBA.out) hb3 hpw)
    have HK3 := Lib.hid ((HK2.out.trans (But.of_below HBA.out)).trans hb3)
    have hcl : ∀ i v, (#[.string ⟨#[97, 32, 98]⟩, .string ⟨#[82, 49]⟩, .string ⟨#[45]⟩] : Array Value)[i]? = some v → w3.cell? ⟨w2.heap.size, i, none⟩ = some v := fun i v h => but_cell hb3 HD2.out.lt (by rw [cell_of_row _ _ i _ _ _ (heap_alloc_new _ _)]; exact h)
    have c0 := hcl 0 _ rfl
    have c1 := hcl 1 _ rfl
    have c2 := hcl 2 _ rfl
    clear hcl hd3 hb3 NK
    obtain ⟨_, _, hv9, _, _, _, hcells⟩ := SRow.open_ HR3.out (by omega)
    cases hv9
    obtain ⟨x0, x1, x2, x3, x4, x5, zf⟩ := hcells k t hkt
    have z := zf 5
    have _z := z
    have hs : s = 0 ∨ s = 1 ∨ s = 2 := by omega
    clear zf hcells
    rcases hs with rfl | rfl | rfl
    · have HR4 : Hid (SRow (w3.setCell ⟨g, k * 6 + 5, none⟩ (.string (arr [97, 32, 98]))) w.heap.size (.slice (some ⟨g, 0, none⟩) xs.length vc) (xs.set k (t.1, t.2.1, t.2.2.1, t.2.2.2.1, t.2.2.2.2.1, [97, 32, 98]))) := Lib.hid (SRow.put HR3.out rfl (t.1, t.2.1, t.2.2.1, t.2.2.2.1, t.2.2.2.2.1, [97, 32, 98]) hkt 5 (.string (arr [97, 32, 98])) (by omega) rfl)
      have HBS := Lib.hid ((Below.refl w.heap.size w3).setCell (p := ⟨g, k * 6 + 5, none⟩) hgB (.string (arr [97, 32, 98])))
      have HO4 := Lib.hid (sok_set HO.out k (t.1, t.2.1, t.2.2.1, t.2.2.2.1, t.2.2.2.2.1, [97, 32, 98]) ⟨⟨hto.1.1, by simp⟩, hto.2⟩)
      have HD4 := Lib.hid (HD3.out.bel HBS.out hpw)
      have HK4 := Lib.hid (HK3.out.bel HBS.out)
      go_wp2_with fail
      go_ret
      exact ⟨_, _, rfl, HR4.out, by rw [List.length_set]; omega, HO4.out, HD4.out, HK4.out⟩
    · have HR4 : Hid (SRow (w3.setCell ⟨g, k * 6 + 5, none⟩ (.string (arr [82, 49]))) w.heap.size (.slice (some ⟨g, 0, none⟩) xs.length vc) (xs.set k (t.1, t.2.1, t.2.2.1, t.2.2.2.1, t.2.2.2.2.1, [82, 49]))) := Lib.hid (SRow.put HR3.out rfl (t.1, t.2.1, t.2.2.1, t.2.2.2.1, t.2.2.2.2.1, [82, 49]) hkt 5 (.string (arr [82, 49])) (by omega) rfl)
      have HBS := Lib.hid ((Below.refl w.heap.size w3).setCell (p := ⟨g, k * 6 + 5, none⟩) hgB (.string (arr [82, 49])))
      have HO4 := Lib.hid (sok_set HO.out k (t.1, t.2.1, t.2.2.1, t.2.2.2.1, t.2.2.2.2.1, [82, 49]) ⟨⟨hto.1.1, by simp⟩, hto.2⟩)
      have HD4 := Lib.hid (HD3.out.bel HBS.out hpw)
      have HK4 := Lib.hid (HK3.out.bel HBS.out)
      go_wp2_with fail
      go_ret
      exact ⟨_, _, rfl, HR4.out, by rw [List.length_set]; omega, HO4.out, HD4.out, HK4.out⟩
    · have HR4 : Hid (SRow (w3.setCell ⟨g, k * 6 + 5, none⟩ (.string (arr [45]))) w.heap.size (.slice (some ⟨g, 0, none⟩) xs.length vc) (xs.set k (t.1, t.2.1, t.2.2.1, t.2.2.2.1, t.2.2.2.2.1, [45]))) := Lib.hid (SRow.put HR3.out rfl (t.1, t.2.1, t.2.2.1, t.2.2.2.1, t.2.2.2.2.1, [45]) hkt 5 (.string (arr [45])) (by omega) rfl)
      have HBS := Lib.hid ((Below.refl w.heap.size w3).setCell (p := ⟨g, k * 6 + 5, none⟩) hgB (.string (arr [45])))
      have HO4 := Lib.hid (sok_set HO.out k (t.1, t.2.1, t.2.2.1, t.2.2.2.1, t.2.2.2.2.1, [45]) ⟨⟨hto.1.1, by simp⟩, hto.2⟩)
      have HD4 := Lib.hid (HD3.out.bel HBS.out hpw)
      have HK4 := Lib.hid (HK3.out.bel HBS.out)
      go_wp2_with fail
      go_ret
      exact ⟨_, _, rfl, HR4.out, by rw [List.length_set]; omega, HO4.out, HD4.out, HK4.out⟩
  · obtain ⟨_, _, hv9, _, _, _, hcells⟩ := SRow.open_ HR2.out (by omega)
    cases hv9
    obtain ⟨tcl, twk, tdy, tst, tln, trm⟩ := t
    obtain ⟨x0, x1, x2, x3, x4, x5, zf⟩ := hcells k _ hkt
    clear zf hcells
    simp only at x0 x1 x2 x3 x4 x5
    go_wp2_with (at_builtin; refine wpList_app elemSes encSes rfl _ _ rfl w.heap.size _ xs rfl (row_below HR2.out ((Below.refl _ _).alloc (Nat.le_refl _) _)) _ _ _ [(tcl, twk, tdy, tst, tln, trm)] rfl (KAt.one (f := sesC) (k := 6) w2 (tcl, twk, tdy, tst, tln, trm) 95) (by simp <;> omega) (by have := HK2.out.size; simp <;> omega) ?_)
    intro v6 w6 hr6 hb6 _ _
    have HR6 := Lib.hid hr6
    have HB6 : Hid (Below w.heap.size w2 w6) := Lib.hid (((Below.refl _ _).alloc HK2.out.size _).trans hb6)
    have HO4 : Hid (SOk (xs ++ [(tcl, twk, tdy, tst, tln, trm)])) := Lib.hid (sok_app HO.out (fun s hs => by rw [List.mem_singleton] at hs; subst hs; exact hto))
    have HD4 := Lib.hid (HD2.out.bel HB6.out hpw)
    have HK4 := Lib.hid (HK2.out.bel HB6.out)
    clear hr6 hb6 x0 x1 x2 x3 x4 x5
    go_wp2_with fail
    go_ret
    exact ⟨_, _, rfl, HR6.out, by rw [List.length_append]; simp <;> omega, HO4.out, HD4.out, HK4.out⟩
  · have N40 := Lib.hid (next_any p 40 w2 (by omega) (by omega) HD2.out)
    go_wp2_with (go_at_call 24; refine N40.out.mono ?_)
    rintro en w3 ⟨s, s0, s1, rfl, hd3, hb3⟩
    have HD3 := Lib.hid hd3
    have HR3 := Lib.hid (row_but HR2.out hb3 hpw)
    have HK3 := Lib.hid (HK2.out.trans hb3)
    have hsw : IntKind.i64.wrap (1 + s) = 1 + s := IntWalk.i64_in _ (by omega)
    clear hd3 hb3 N40
    obtain ⟨_, _, hv9, _, _, _, hcells⟩ := SRow.open_ HR3.out (by omega)
    cases hv9
    obtain ⟨x0, x1, x2, x3, x4, x5, zf⟩ := hcells k t hkt
    have z := zf 1
    clear zf hcells
    have HR4 : Hid (SRow (w3.setCell ⟨g, k * 6 + 1, none⟩ (.int .i64 (1 + s))) w.heap.size (.slice (some ⟨g, 0, none⟩) xs.length vc) (xs.set k (t.1, 1 + s, t.2.2))) := Lib.hid (SRow.put HR3.out rfl (t.1, 1 + s, t.2.2) hkt 1 (.int .i64 (1 + s)) (by omega) rfl)
    have HBS := Lib.hid ((Below.refl w.heap.size w3).setCell (p := ⟨g, k * 6 + 1, none⟩) hgB (.int .i64 (1 + s)))
    have HO4 := Lib.hid (sok_set HO.out k (t.1, 1 + s, t.2.2) hto)
    have HD4 := Lib.hid (HD3.out.bel HBS.out hpw)
    have HK4 := Lib.hid (HK3.out.bel HBS.out)
    go_wp2_with fail
    go_ret
    exact ⟨_, _, rfl, HR4.out, by rw [List.length_set]; omega, HO4.out, HD4.out, HK4.out⟩
  · obtain ⟨wz, hwz⟩ : ∃ wz : World, wz = w2 := ⟨_, rfl⟩
    go_wp2_with fail
    go_loopw [5, 7] (fun v5 v7 wr => ∃ (i : Nat) (ys : List Ses), v7 = .int .i64 i ∧ i ≤ 97 ∧ ys.length = xs.length + i ∧ Hid (SRow wr w.heap.size v5 ys) ∧ Hid (SOk ys) ∧ Hid (DiceAt wr p) ∧ Hid (But p w wr)) (fun _ v7 _ => 97 - (intOf v7).toNat)
    case atStart => exact ⟨0, xs, rfl, by omega, rfl, HR2, HO, HD2, HK2⟩
    case round =>
      clear HD2 HK2 HR2
      obtain ⟨i, ys, rfl, hi, hyl, HR, HOy, HD, HK⟩ := hrel
      by_cases hi9 : i = 97
      · subst hi9
        go_wp2_with fail
        go_ret
        exact ⟨_, ys, rfl, HR.out, by omega, HOy.out, HD.out, HK.out⟩
      have hi1 : (i : Int) < 97 := by omega
      have hi0 : (0 : Int) ≤ i := by omega
      have hiw : IntKind.i64.wrap ((i : Int) + 1) = (i : Int) + 1 := IntWalk.i64_in _ (by omega)
      have e1 : (i : Int).tmod 26 = ((i % 26 : Nat) : Int) := by rw [Int.tmod_eq_emod_of_nonneg hi0]; omega
      have e2 : (i : Int).tdiv 26 = ((i / 26 : Nat) : Int) := by rw [Int.tdiv_eq_ediv_of_nonneg hi0]; omega
      obtain ⟨m, hm⟩ : ∃ m, m = i % 26 := ⟨_, rfl⟩
      obtain ⟨q, hq⟩ : ∃ q, q = i / 26 := ⟨_, rfl⟩
      rw [← hm] at e1
      rw [← hq] at e2
      have hm26 : m < 26 := by omega
      have hq4 : q < 4 := by omega
      obtain ⟨b1, hb1⟩ : ∃ b : UInt8, b.toNat = 65 + m := ⟨UInt8.ofNat (65 + m), by rw [UInt8.toNat_ofNat']; omega⟩
      obtain ⟨b2, hb2⟩ : ∃ b : UInt8, b.toNat = 97 + q := ⟨UInt8.ofNat (97 + q), by rw [UInt8.toNat_ofNat']; omega⟩
      clear hm hq
      have y1 : IntKind.i64.wrap (65 + (m : Int)) = 65 + (m : Int) := IntWalk.i64_in _ (by omega)
      have y2 : IntKind.i64.wrap (97 + (q : Int)) = 97 + (q : Int) := IntWalk.i64_in _ (by omega)
      have y3 : IntKind.u8.wrap (65 + (m : Int)) = 65 + (m : Int) := by rw [IntKind.wrap_u8]; omega
      have y4 : IntKind.u8.wrap (97 + (q : Int)) = 97 + (q : Int) := by rw [IntKind.wrap_u8]; omega
      have hbt : BAt (wr.alloc (.cells #[.int .u8 (65 + (m : Int)), .int .u8 (97 + (q : Int))] 5)) (some ⟨wr.heap.size, 0, none⟩) 2 [b1, b2] := by
        have h := KAt.news (f := bytC) (k := 1) (fun _ => rfl) wr [b1, b2] 5 (by simp)
        have e : ([b1, b2].flatMap bytC).toArray = #[.int .u8 (65 + (m : Int)), .int .u8 (97 + (q : Int))] := by
          show #[Value.int .u8 (b1.toNat : Int), Value.int .u8 (b2.toNat : Int)] = _
          rw [hb1, hb2]; simp
        rw [e] at h
        exact h
      have hcv := conv_str (c := 2) hbt
      have ha : (⟨#[122]⟩ : ByteArray) ++ arr [b1, b2] = arr [122, b1, b2] := arr_app [122] _
      have hs1 : (arr [b1, b2]).size = 2 := arr_size _
      have hs2 : (⟨#[122]⟩ : ByteArray).size = 1 := rfl
      have hsm : ¬ 9223372036854775807 < (⟨#[122]⟩ : ByteArray).size + (arr [b1, b2]).size := by rw [hs1, hs2]; decide
      clear hbt
      go_wp2_with (at_builtin; refine wpList_app elemSes encSes rfl _ _ rfl w.heap.size _ ys rfl (row_below HR.out (((Below.refl _ _).alloc (Nat.le_refl _) _).alloc (by simp) _)) _ _ _ [([122, b1, b2], 1, 0, 0, 1, [])] rfl (KAt.one2 (f := sesC) (k := 6) wr _ ([122, b1, b2], 1, 0, 0, 1, []) 95) (by simp <;> omega) (by have := HK.out.size; simp <;> omega) ?_)
      intro v6 w6 hr6 hb6 _ _
      have HR6 := Lib.hid hr6
      have HB6 : Hid (Below w.heap.size wr w6) := Lib.hid ((((Below.refl _ _).alloc HK.out.size _).alloc (by have := HK.out.size; simp; omega) _).trans hb6)
      have HO4 : Hid (SOk (ys ++ [([122, b1, b2], 1, 0, 0, 1, [])])) := Lib.hid (sok_app HOy.out (fun s hs => by rw [List.mem_singleton] at hs; subst hs; exact ⟨⟨by simp, by simp⟩, by simp, by simp⟩))
      have HD4 := Lib.hid (HD.out.bel HB6.out hpw)
      have HK4 := Lib.hid (HK.out.bel HB6.out)
      clear hr6 hb6 hcv y1 y2 y3 y4 e1 e2
      go_wp2_with fail
      go_roundw
      case rel => exact ⟨i + 1, ys ++ [([122, b1, b2], 1, 0, 0, 1, [])], by go_num, by omega, by rw [List.length_append]; simp; omega, HR6, HO4, HD4, HK4⟩
      case measure => simp [intOf]; omega
end Go.Proofs.YtihbpggbpapcfaaGreatDoor
