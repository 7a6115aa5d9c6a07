/- Texts V72, V49, V51, joined: walks and laws for the versions. -/
import Derived.Deep.CutBlock
import Derived.Laws.BytesArg
import Derived.Test.YtihbpggbpapcfaaGreatDoorM19
import Derived.Test.YtihbpggbpapcfaaGreatDoorM28
import Derived.Test.YtihbpggbpapcfaaGreatDoorM29
namespace Go.Proofs.YtihbpggbpapcfaaGreatDoor
open Go.RowKit

theorem Wr.keep {B b : Nat} {bs : L8} {w w' : World} (h : Wr B b bs w) (hb : Below w.heap.size w w') : Wr B b bs w' := by
  obtain ⟨h1, v, lr, h2, h3, h4⟩ := h
  exact ⟨h1, v, lr, h2.of_heap (hb.block b h2.lt), row_below h3 hb, h4⟩
theorem line_le {s : Ses} (h : chkS s 20 = 0) : (lineT s).length ≤ 120 := line_len h

set_option maxRecDepth 100000 in
set_option maxHeartbeats 16000000 in
theorem sesw_any (b : Nat) (bs : L8) (a : Option Addr) (n c : Nat) (xs : List Ses) (w0 w : World) (hb : Below w0.heap.size w0 w) (h : Wr w0.heap.size b bs w) (hx : SAt w0 a n xs) (hE : Env w0) (hk : ∀ s ∈ xs, chkS s 20 = 0) (hn : n ≤ 1000000) (hbs : bs.length ≤ 90000000000000) :
    Calls Tryz.prog 52 #[.pointer (some ⟨b, 0, none⟩), .slice a n c] w (fun e w' => e = .returned (.tuple #[]) ∧ Wr w0.heap.size b (bs ++ xs.flatMap lineT) w' ∧ Below w0.heap.size w0 w' ∧ Oth b w w') := by
  have hlx := hx.1
  have HX := Lib.hid hx
  have HE := Lib.hid hE
  have HK := Lib.hid hk
  have HW0 := Lib.hid h
  have HB0 := Lib.hid hb
  have HLL := Lib.hid (fun (l : List Ses) (h : ∀ s ∈ l, chkS s 20 = 0) => lines_len h)
  clear hx hE hk h hb
  go_enter Tryz.func52, Tryz.ntmps52
  go_wp2_with fail
  go_loopw [10] (fun i wr => ∃ j : Nat, j ≤ n ∧ i = .int .i64 j ∧ Hid (Wr w0.heap.size b (bs ++ (xs.take j).flatMap lineT) wr) ∧ Hid (Below w0.heap.size w0 wr) ∧ Hid (Oth b w wr)) (fun i _ => n - (intOf i).toNat)
  case atStart => exact ⟨0, by omega, rfl, Lib.hid (by simpa using HW0.out), HB0, Lib.hid (Lib.OthersKept.refl _ _ _)⟩
  case round =>
    clear HW0 HB0
    obtain ⟨j, hj, rfl, HW, HB, HO⟩ := hrel
    by_cases hlt : j < n
    · obtain ⟨b1, o1, s1, rfl, g1, z1, x0, x1, x2, x3, x4, x5⟩ := SAt.cells (HX.out.below HB.out) hlt
      have HT := Lib.hid (flat_take lineT g1)
      have hck := HK.out s1 (List.mem_of_getElem? g1)
      have HLN := Lib.hid (line_le hck)
      obtain ⟨_, ⟨hw1, hw2⟩, ⟨hd1, hd2⟩, ⟨hs1, hs2⟩, ⟨hl1, hl2⟩, _⟩ := chk_parts hck
      have hfl := HLL.out (xs.take j) (fun s hs => HK.out s (List.mem_of_mem_take hs))
      rw [List.length_take] at hfl
      have hfl2 : ((xs.take j).flatMap lineT).length ≤ 120000000 := by omega
      have q1 : (j : Int) < n := by omega
      have q2 : (0 : Int) ≤ j := by omega
      have HLT : Hid (lineT s1 = lnT [[83], Lib.itoa s1.2.1, Lib.itoa s1.2.2.1, Lib.itoa s1.2.2.2.1, Lib.itoa s1.2.2.2.2.1, if s1.2.2.2.2.2 = [] then [45] else s1.2.2.2.2.2]) := Lib.hid rfl
      clear g1 hck hfl
      generalize (xs.take j).flatMap lineT = L at *
      obtain ⟨cl, wk, dy, st, ln, rm⟩ := s1
      simp only at x0 x1 x2 x3 x4 x5 hw1 hw2 hd1 hd2 hs1 hs2 hl1 hl2 HLT
      have HB1 := Lib.hid (BX.mk0 (vs := sesA (cl, wk, dy, st, ln, rm)) (T := 95) wr)
      go_upto_region 3 with fail
      change Hid (BX wr (wr.alloc (.cells #[.string (arr cl), .int .i64 wk, .int .i64 dy, .int .i64 st, .int .i64 ln, .string (arr rm)] 95)) wr.heap.size _ _) at HB1
      generalize wr.alloc (.cells #[.string (arr cl), .int .i64 wk, .int .i64 dy, .int .i64 st, .int .i64 ln, .string (arr rm)] 95) = wb at *
      obtain ⟨S, hS⟩ : ∃ S, S = wr.heap.size := ⟨_, rfl⟩
      rw [← hS] at HB1 ⊢
      clear hS x0 x1 x2 x3 x4 x5
      obtain ⟨x0, x1, x2, x3, x4, x5⟩ := HB1.out.six
      simp only at x0 x1 x2 x3 x4 x5
      have HWb := Lib.hid (HW.out.keep HB1.out.bl)
      have HBb := Lib.hid (below3 HB.out HB1.out.bl)
      obtain ⟨r, hr⟩ : ∃ r, (if rm = [] then [45] else rm) = r := ⟨_, rfl⟩
      have he := arr_empty rm
      obtain ⟨e4, he4⟩ : ∃ e, decide (rm = []) = e := ⟨_, rfl⟩
      rw [he4] at he
      have HR1 : Hid (e4 = true → arr r = ⟨#[45]⟩) := Lib.hid (fun h => by rw [← hr, if_pos (of_decide_eq_true (he4.trans h))]; rfl)
      have HR2 : Hid (e4 = false → arr r = arr rm) := Lib.hid (fun h => by rw [← hr, if_neg (of_decide_eq_false (he4.trans h))])
      clear he4
      go_upto_if 17 with fail
      go_cut [6] (fun s6 wx => s6 = .string (arr r) ∧ wx = wb)
      case first =>
        cases e4
        · have HR := Lib.hid (HR2.out rfl)
          clear hr
          go_wp2_with fail
          go_meet
          exact ⟨by rw [HR.out], rfl⟩
        · have HR := Lib.hid (HR1.out rfl)
          clear hr
          go_wp2_with fail
          go_meet
          exact ⟨by rw [HR.out], rfl⟩
      case rest =>
        obtain ⟨rfl, hwc⟩ := hcut
        subst hwc
        rw [hr] at HLT
        clear hr he HR1 HR2
        have HB2 := Lib.hid (BX.mk0 (vs := #[.int .i64 wk, .int .i64 dy, .int .i64 st, .int .i64 ln]) (T := 93) wc)
        go_upto_region 7 with fail
        generalize wc.alloc (.cells #[.int .i64 wk, .int .i64 dy, .int .i64 st, .int .i64 ln] 93) = wd at *
        obtain ⟨D, hD⟩ : ∃ D, D = wc.heap.size := ⟨_, rfl⟩
        rw [← hD] at HB2 ⊢
        clear hD x0 x1 x2 x3 x4 x5
        obtain ⟨⟨xp0, xp1, xp2, xp3⟩, _⟩ := HB2.out.four
        have x0 := xp0; have x1 := xp1; have x2 := xp2; have x3 := xp3
        have HWd := Lib.hid (HWb.out.keep HB2.out.bl)
        have HBd := Lib.hid (below3 HBb.out HB2.out.bl)
        have HEd := Lib.hid (HE.out.below HBd.out)
        have IT := Lib.hid (fun (m : Int) (W : World) (h0 : 0 ≤ m) (h1 : m ≤ 9223372036854775807) (h : Below wd.heap.size wd W) => itoa_any m h0 h1 W (HEd.out.below h))
        have hLbs : (bs ++ L).length ≤ 95000000000000 := by rw [List.length_append]; omega
        have hz0 := HBd.out.size
        have LNW := Lib.hid (fun (W : World) (h : Below wd.heap.size wd W) => line_any w0.heap.size b (bs ++ L) W.heap.size 0 6 [[83], Lib.itoa wk, Lib.itoa dy, Lib.itoa st, Lib.itoa ln, r] w0 (W.alloc (.cells ([[83], Lib.itoa wk, Lib.itoa dy, Lib.itoa st, Lib.itoa ln, r].flatMap strC).toArray 9)) (HWd.out.keep (below3 h ((Below.refl _ _).alloc (Nat.le_refl _) _))) (by have := h.size; simp; omega) (KAt.news (f := strC) (k := 1) (fun _ => rfl) W _ _ (by simp)) (by simp) (by simp) (by simp) (by simp) (by rw [← HLT.out]; have := HLN.out; omega) (by omega))
        have BD := Lib.hid (bel_drew0 wd)
        have HTX : Hid (bs ++ (xs.take (j + 1)).flatMap lineT = bs ++ L ++ lnT [[83], Lib.itoa wk, Lib.itoa dy, Lib.itoa st, Lib.itoa ln, r]) := Lib.hid (by rw [HT.out, ← HLT.out, List.append_assoc])
        clear HT HLT HLN
        have hbD : b < D := Nat.lt_of_lt_of_le (by obtain ⟨_, _, _, h2, _, _⟩ := HWb.out; exact h2.lt) HB2.out.lo
        have HOd := Lib.hid (Lib.OthersKept.trans HO.out (oth_bel (below3 HB1.out.bl HB2.out.bl)))
        have hDp := Lib.hid HB2.out.hp
        go_region_held3 (fun w' => w'.cell? ⟨D, 0, none⟩ = some (.int .i64 wk) ∧ w'.cell? ⟨D, 1, none⟩ = some (.int .i64 dy) ∧ w'.cell? ⟨D, 2, none⟩ = some (.int .i64 st) ∧ w'.cell? ⟨D, 3, none⟩ = some (.int .i64 ln)) (first | (with_reducible exact ⟨x0, x1, x2, x3⟩) | go_keep) (first | (go_at_call 51; refine (IT.out _ _ (by omega) (by omega) (by first | with_reducible exact BQ.out | with_reducible exact BD.out)).mono ?_; rintro e9 w9 ⟨rfl, hb9⟩; have BQ : Hid (Below wd.heap.size wd w9) := Lib.hid (by first | with_reducible exact below3 BQ.out hb9 | with_reducible exact below3 BD.out hb9); have x0 := below_cell9 BQ.out xp0; have x1 := below_cell9 BQ.out xp1; have x2 := below_cell9 BQ.out xp2; have x3 := below_cell9 BQ.out xp3; clear hb9) | (go_at_call 50; refine (LNW.out _ BQ.out).mono ?_; rintro e8 w8 ⟨rfl, h8, hb8, ho8⟩; have H8 := Lib.hid h8; have BA := below3 BQ.out ((Below.refl _ _).alloc (Nat.le_refl _) (.cells ([[83], Lib.itoa wk, Lib.itoa dy, Lib.itoa st, Lib.itoa ln, r].flatMap strC).toArray 9)); have HB8 : Hid (Below w0.heap.size w0 w8) := Lib.hid ((below3 HBd.out BA).trans hb8); have HO8 : Hid (Oth b w w8) := Lib.hid (Lib.OthersKept.trans (Lib.OthersKept.trans HOd.out (oth_bel BA)) ho8); have hD8 := oth_cells (b := b) hDp.out (Lib.OthersKept.trans (oth_bel BA) ho8) (by omega) (by decide); have x0 := cell_of_row _ _ 0 _ _ _ hD8; have x1 := cell_of_row _ _ 1 _ _ _ hD8; have x2 := cell_of_row _ _ 2 _ _ _ hD8; have x3 := cell_of_row _ _ 3 _ _ _ hD8; simp only [List.getElem?_toArray, List.getElem?_cons_zero, List.getElem?_cons_succ] at x0 x1 x2 x3; clear h8 hb8 ho8 BA hD8))
        all_goals (
          have HWF : Hid (Wr w0.heap.size b (bs ++ (xs.take (j + 1)).flatMap lineT) _) := Lib.hid (by rw [HTX.out]; exact H8.out)
          go_wp2_with fail
          go_roundw
          case rel => exact ⟨j + 1, by omega, by go_num, HWF, HB8, HO8⟩
          case measure => simp [intOf]; omega)
    · obtain rfl : n = j := by omega
      have HWF : Hid (Wr w0.heap.size b (bs ++ xs.flatMap lineT) wr) := Lib.hid (by have := HW.out; rw [List.take_of_length_le (by omega)] at this; exact this)
      go_wp2_with fail
      go_end0
      exact ⟨rfl, HWF.out, HB.out, HO.out⟩
end Go.Proofs.YtihbpggbpapcfaaGreatDoor

namespace Go.Proofs.YtihbpggbpapcfaaGreatDoor
open Go.RowKit

def VOwn (w : World) (B : Nat) (rs : List RVer) (vs : List Ver) : Prop := All2 (fun r v => r.1 = v.1 ∧ r.2.1 = v.2.1 ∧ HRow w B (slV r.2.2) v.2.2) rs vs
theorem VOwn.below {w w' : World} {B : Nat} {rs : List RVer} {vs : List Ver} (h : VOwn w B rs vs) (hb : Below w.heap.size w w') : VOwn w' B rs vs := h.imp fun _ _ hr => ⟨hr.1, hr.2.1, hr.2.2.below hb⟩
theorem VOwn.base {w : World} {B B' : Nat} {rs : List RVer} {vs : List Ver} (h : VOwn w B rs vs) (hb : B' ≤ B) : VOwn w B' rs vs := h.imp fun _ _ hr => ⟨hr.1, hr.2.1, hr.2.2.base hb⟩
theorem VOwn.set {w : World} {B : Nat} {rs : List RVer} {vs : List Ver} (h : VOwn w B rs vs) {p : Addr} (hp : p.block < B) (u : Value) : VOwn (w.setCell p u) B rs vs := h.imp fun _ _ hr => ⟨hr.1, hr.2.1, hr.2.2.set hp u⟩
theorem HRow.keptV {w w' : World} {B B2 : Nat} {v v2 : Value} {cs : List Chg} {rs2 : List RVer} (h : HRow w B v cs) (h2 : KRow rveC 3 24 w B2 v2 rs2) (hg : w.grownBy w' v2.ownBlock) : HRow w' B v cs := by
  obtain ⟨rs, h3, h4⟩ := h
  exact ⟨rs, row_kept h3 h2 (by decide) hg, h4.imp fun _ _ hr => ⟨hr.1, row_kept hr.2.1 h2 (by decide) hg, row_kept hr.2.2 h2 (by decide) hg⟩⟩
theorem VOwn.kept {w w' : World} {B B2 : Nat} {rs rs2 : List RVer} {vs : List Ver} {v : Value} (h : VOwn w B rs vs) (h2 : KRow rveC 3 24 w B2 v rs2) (hg : w.grownBy w' v.ownBlock) : VOwn w' B rs vs :=
  h.imp fun _ _ hr => ⟨hr.1, hr.2.1, hr.2.2.keptV h2 hg⟩
def VRow (w : World) (B : Nat) (v : Value) (vs : List Ver) : Prop := ∃ rs, KRow rveC 3 24 w B v rs ∧ VOwn w B rs vs
theorem VRow.nil (w : World) (B : Nat) : VRow w B (.slice none 0 0) [] := ⟨[], KRow.nil _ _ _ _ _, All2.nil _⟩
theorem VRow.below {w w' : World} {B : Nat} {v : Value} {vs : List Ver} (h : VRow w B v vs) (hb : Below w.heap.size w w') : VRow w' B v vs := by
  obtain ⟨rs, h1, h2⟩ := h
  exact ⟨rs, row_below h1 hb, h2.below hb⟩
theorem VRow.base {w : World} {B B' : Nat} {v : Value} {vs : List Ver} (h : VRow w B v vs) (hb : B' ≤ B) : VRow w B' v vs := by
  obtain ⟨rs, h1, h2⟩ := h
  exact ⟨rs, row_base h1 hb, h2.base hb⟩
theorem VRow.set {w : World} {B : Nat} {v : Value} {vs : List Ver} (h : VRow w B v vs) {p : Addr} (hp : p.block < B) (u : Value) : VRow (w.setCell p u) B v vs := by
  obtain ⟨rs, h1, h2⟩ := h
  exact ⟨rs, row_set h1 hp u, h2.set hp u⟩
theorem hv_of {w : World} {B : Nat} {s : Sl} {cs : List Chg} (h : HRow w B (slV s) cs) : HV w s cs := by
  obtain ⟨s', h1, h2⟩ := h.hv
  have : s = s' := by
    obtain ⟨a, n, c⟩ := s
    obtain ⟨a', n', c'⟩ := s'
    unfold slV at h1
    cases h1; rfl
  rw [this]; exact h2
theorem VRow.vv {w : World} {B : Nat} {v : Value} {vs : List Ver} (h : VRow w B v vs) : ∃ s : Sl, v = slV s ∧ VV w s vs := by
  obtain ⟨rs, h1, h2⟩ := h
  obtain ⟨a, cap, e, hc, hk⟩ := KRow.at_ encVer h1
  exact ⟨(a, rs.length, cap), e, hc, rs, hk, h2.imp fun r x hr => ⟨hr.1, hr.2.1, hv_of hr.2.2⟩⟩
theorem RdR.two {r : Option Ver} {w : World} {e : Ending} {w' : World} (h : RdR r w e w') : ∃ (v0 v1 : Int) (s : Sl) (x : Int) (ok : Bool), e = .returned (.tuple #[.agg #[.int .i64 v0, .int .i64 v1, .slice s.1 s.2.1 s.2.2], .int .i64 x, .bool ok]) ∧ Below w.heap.size w w' ∧
    ((ok = false ∧ r = none) ∨ (ok = true ∧ ∃ v, r = some v ∧ v0 = v.1 ∧ v1 = v.2.1 ∧ x = ((encV v).length : Int) ∧ HRow w' w.heap.size (slV s) v.2.2)) := by
  rcases h with ⟨h1, h2, h3⟩ | ⟨v, s, h1, h2, h3, h4⟩
  · exact ⟨0, 0, (none, 0, 0), 0, false, h2, h3, Or.inl ⟨rfl, h1⟩⟩
  · exact ⟨v.1, v.2.1, s, _, true, h2, h4, Or.inr ⟨rfl, v, h1, rfl, rfl, rfl, h3⟩⟩
def RdC (r : Option Ver) (w : World) (s10 s11 s12 : Value) (w' : World) : Prop := ∃ (B : Nat) (v0 v1 : Int) (s : Sl) (x : Int) (ok : Bool), s10 = .pointer (some ⟨B, 0, none⟩) ∧ s11 = .int .i64 x ∧ s12 = .bool ok ∧ BX w w' B #[.int .i64 v0, .int .i64 v1, .slice s.1 s.2.1 s.2.2] 24 ∧
    ((ok = false ∧ r = none) ∨ (ok = true ∧ ∃ v, r = some v ∧ v0 = v.1 ∧ v1 = v.2.1 ∧ x = ((encV v).length : Int) ∧ HRow w' w.heap.size (slV s) v.2.2))
def LogO (w : World) (B : Nat) (v : Value) (l : Lg) : Prop := ∃ d vs ss : Sl, v = logV d l.2.1 vs ss ∧ KRow bytC 1 5 w B (slV d) l.1 ∧ VRow w B (slV vs) l.2.2.1 ∧ SRow w B (slV ss) l.2.2.2
theorem LogO.zero (w : World) (B : Nat) : LogO w B (logV (none, 0, 0) 0 (none, 0, 0) (none, 0, 0)) lgZ := ⟨(none, 0, 0), (none, 0, 0), (none, 0, 0), rfl, KRow.nil _ _ _ _ _, VRow.nil _ _, KRow.nil _ _ _ _ _⟩
theorem bv_of {w : World} {B : Nat} {d : Sl} {l : L8} (h : KRow bytC 1 5 w B (slV d) l) : BV w d l := by
  obtain ⟨a, cap, e, hc, hk⟩ := KRow.at_ encByt h
  obtain ⟨a', n', c'⟩ := d
  injection e with e1 e2 e3
  simp only at e1 e2 e3
  subst e1 e2 e3
  exact ⟨hc, hk⟩
theorem LogO.logR {w : World} {B : Nat} {v : Value} {l : Lg} (h : LogO w B v l) : LogR w v l := by
  obtain ⟨d, vs, ss, hv, h1, h2, h3⟩ := h
  obtain ⟨vs', ev, hvv⟩ := h2.vv
  obtain ⟨a1, n1, c1⟩ := vs
  obtain ⟨a2, n2, c2⟩ := vs'
  injection ev with e1 e2 e3
  simp only at e1 e2 e3
  subst e1 e2 e3
  exact ⟨d, _, ss, hv, bv_of h1, hvv, sv_of h3⟩
theorem LogO.set4 {w : World} {B : Nat} {v : Value} {l : Lg} (h : LogO w B v l) {R : Nat} (hp : R < B) (u0 u1 u2 u3 : Value) : LogO ((((w.setCell ⟨R, 0, none⟩ u0).setCell ⟨R, 1, none⟩ u1).setCell ⟨R, 2, none⟩ u2).setCell ⟨R, 3, none⟩ u3) B v l := by
  obtain ⟨d, vs, ss, hv, h1, h2, h3⟩ := h
  exact ⟨d, vs, ss, hv, row_set (row_set (row_set (row_set h1 (p := ⟨R, 0, none⟩) hp u0) (p := ⟨R, 1, none⟩) hp u1) (p := ⟨R, 2, none⟩) hp u2) (p := ⟨R, 3, none⟩) hp u3, (((h2.set (p := ⟨R, 0, none⟩) hp u0).set (p := ⟨R, 1, none⟩) hp u1).set (p := ⟨R, 2, none⟩) hp u2).set (p := ⟨R, 3, none⟩) hp u3, row_set (row_set (row_set (row_set h3 (p := ⟨R, 0, none⟩) hp u0) (p := ⟨R, 1, none⟩) hp u1) (p := ⟨R, 2, none⟩) hp u2) (p := ⟨R, 3, none⟩) hp u3⟩
theorem LogO.base {w : World} {B B' : Nat} {v : Value} {l : Lg} (h : LogO w B v l) (hb : B' ≤ B) : LogO w B' v l := by
  obtain ⟨d, vs, ss, hv, h1, h2, h3⟩ := h
  exact ⟨d, vs, ss, hv, row_base h1 hb, h2.base hb, row_base h3 hb⟩
def OpnR (r : Int × Lg × Int) (w : World) (e : Ending) (w' : World) : Prop := ∃ v, e = .returned (.tuple #[v, .int .i64 r.2.2, .int .i64 r.1]) ∧ LogO w' w.heap.size v r.2.1 ∧ Below w.heap.size w w'
theorem LogR.zero (w : World) : LogR w (logV (none, 0, 0) 0 (none, 0, 0) (none, 0, 0)) lgZ := ⟨(none, 0, 0), (none, 0, 0), (none, 0, 0), rfl, BV.nil _, VV.nil _, SV.nil _⟩
end Go.Proofs.YtihbpggbpapcfaaGreatDoor

namespace Go.Proofs.YtihbpggbpapcfaaGreatDoor
open Go.RowKit

theorem conv_str {W : World} {a : Option Addr} {n c : Nat} {d : L8} (h : BAt W a n d) : (convert 26 9 (.slice a n c)).run Tryz.prog W = .ok (.string (arr d)) W := by
  cases a with
  | some a => exact whole_str h W (fun _ => rfl)
  | none =>
    have hn : n = 0 := by
      rcases h.2.2 with h0 | ⟨_, _, e, _⟩
      · exact h0
      · cases e
    have hd : d = [] := List.eq_nil_of_length_eq_zero (by rw [h.1]; exact hn)
    subst hd
    exact run_convert_bytes_nil W 26 5 Tryz.underlying26 Tryz.underlying5 n c 9 Tryz.underlying9
def ResL (r : Int × Lg) (w : World) (e : Ending) (w' : World) : Prop := ∃ v, e = .returned (.tuple #[v, .int .i64 r.1]) ∧ LogR w' v r.2 ∧ Below w.heap.size w w'
end Go.Proofs.YtihbpggbpapcfaaGreatDoor
