/- What bytes begin with: the program and the reference. -/
import Derived.Test.YtihbpggbpapcfaaGreatDoorM52
import Derived.Test.YtihbpggbpapcfaaGreatDoorS01
namespace Go.Proofs.YtihbpggbpapcfaaGreatDoor
open Go.RowKit

def rdP (r : Option Ver) : Ver × Int × Bool := match r with
  | none => ((0, 0, []), 0, false)
  | some v => (v, (encV v).length, true)
theorem rd_vals {r : Option Ver} {w : World} {e : Ending} {w' : World} (h : RdR r w e w') : ∃ s0 s1 s2, e = .returned (.tuple #[.agg #[.int .i64 (rdP r).1.1, .int .i64 (rdP r).1.2.1, .slice s0 s1 s2], .int .i64 (rdP r).2.1, .bool (rdP r).2.2]) ∧ HV w' (s0, s1, s2) (rdP r).1.2.2 ∧ Below w.heap.size w w' := by
  rcases h with ⟨rfl, h1, h2⟩ | ⟨v, s, rfl, h1, h2, h3⟩
  · exact ⟨none, 0, 0, h1, HV.nil _, h2⟩
  · obtain ⟨s', hs, hv⟩ := h2.hv
    obtain ⟨s0, s1, s2⟩ := s
    obtain ⟨t0, t1, t2⟩ := s'
    have hs : slV (s0, s1, s2) = slV (t0, t1, t2) := hs
    injection hs with x1 x2 x3
    subst x1 x2 x3
    exact ⟨s0, s1, s2, h1, hv, h3⟩
end Go.Proofs.YtihbpggbpapcfaaGreatDoor

namespace Go.Proofs.YtihbpggbpapcfaaGreatDoor
open Go.RowKit

def MB (w : World) (g : Nat) (l : L8) : Prop := ∃ (cur : Array Value) (m : Nat), w.heap[g]? = some (.cells cur 5 (m, m + 1)) ∧ l.length ≤ m ∧ l.length ≤ cur.size ∧ ∀ (i : Nat) (x : UInt8), l[i]? = some x → cur[i]? = some (.int .u8 x.toNat)
theorem MB.cell {w : World} {g : Nat} {l : L8} (h : MB w g l) {i : Nat} {x : UInt8} (hx : l[i]? = some x) : w.cell? ⟨g, i, none⟩ = some (.int .u8 x.toNat) := by
  obtain ⟨cur, m, h1, _, _, h4⟩ := h
  rw [cell_of_row _ _ i _ _ _ h1]
  exact h4 i x hx
theorem MB.fz {w : World} {g : Nat} {l : L8} (h : MB w g l) {i : Nat} (hi : i < l.length) : w.frozen? ⟨g, i, none⟩ = false := by
  obtain ⟨cur, m, h1, h2, _, _⟩ := h
  have hm : ¬ m ≤ i := by omega
  simp [World.frozen?, h1, hm]
theorem MB.set {w : World} {g : Nat} {l : L8} (h : MB w g l) (i : Nat) (y : UInt8) : MB (w.setCell ⟨g, i, none⟩ (.int .u8 y.toNat)) g (l.set i y) := by
  obtain ⟨cur, m, h1, h2, h3, h4⟩ := h
  refine ⟨cur.setIfInBounds i (.int .u8 y.toNat), m, by simp [World.setCell, Array.getElem?_modify, h1], by rw [List.length_set]; exact h2, by rw [List.length_set, Array.size_setIfInBounds]; exact h3, fun j x hx => ?_⟩
  rw [List.getElem?_set] at hx
  split at hx
  · rename_i e
    subst e
    split at hx
    · cases hx
      rw [Array.getElem?_setIfInBounds_self_of_lt (by omega)]
    · cases hx
  · rename_i e
    rw [Array.getElem?_setIfInBounds_ne e]
    exact h4 j x hx
theorem MB.bv {w : World} {g c : Nat} {l : L8} (h : MB w g l) (hc : l.length ≤ c) (hl : l.length ≤ 9223372036854775807) : BV w (some ⟨g, 0, none⟩, l.length, c) l := by
  refine ⟨hc, rfl, hl, Or.inr ⟨g, 0, rfl, fun j x hx o u hu => ?_⟩⟩
  have ho : o = 0 := by have := (List.getElem?_eq_some_iff.1 hu).1; simp [bytC] at this; omega
  subst ho
  simp [bytC] at hu
  subst hu
  have := h.cell hx
  rw [show 0 + (j * 1 + 0) = j by omega]; exact this
theorem MB.below {w w' : World} {g : Nat} {l : L8} (h : MB w g l) (hb : Below w.heap.size w w') : MB w' g l := by
  obtain ⟨cur, m, h1, h2⟩ := h
  exact ⟨cur, m, (hb.block g (lt_of_heap h1)).trans h1, h2⟩
def ResN (r : Int × L8) (w : World) (e : Ending) (w' : World) : Prop := ∃ s : Sl, e = .returned (.tuple #[.slice s.1 s.2.1 s.2.2, .int .i64 r.1]) ∧ BV w' s r.2 ∧ Below w.heap.size w w' ∧ (s.1 = none → s.2.2 = 0) ∧ (r.1 = 0 → ∃ g c, s = (some ⟨g, 0, none⟩, r.2.length, c) ∧ w.heap.size ≤ g ∧ MB w' g r.2)
theorem conv_new (l : L8) (hl : l.length ≤ 9000000000000000) (W : World) : ∃ (c : Nat) (W' : World), (convert 9 26 (.string (arr l))).run Tryz.prog W = .ok (.slice (some ⟨W.heap.size, 0, none⟩) l.length c) W' ∧ BV W' (some ⟨W.heap.size, 0, none⟩, l.length, c) l ∧ Below W.heap.size W W' ∧ MB W' W.heap.size l := by
  obtain ⟨c, W', hr, hb, hw⟩ := conv_bytes l hl W
  refine ⟨c, W', hr, hb, hw, ?_⟩
  have h := run_bytes_of_string (P := Tryz.prog) W 9 26 5 (arr l) Tryz.underlying9 Tryz.underlying26 Tryz.underlying5
  have hge := grownCap_ge W (arr l).size 0 5
  rw [arr_size] at h hge
  generalize grownCap W l.length 0 5 = gc at *
  rw [h] at hr
  injection hr with e1 e2
  have hh := heap_alloc_new W.drew (.cells (bytesRow (arr l) gc) 5 ((bytesRow (arr l) gc).size, (bytesRow (arr l) gc).size + 1))
  rw [show W.drew.heap.size = W.heap.size from rfl] at hh
  have hsz : l.length ≤ (bytesRow (arr l) gc).size := by
    rcases Nat.eq_zero_or_pos l.length with h0 | h0
    · omega
    · have hb := bytesRow_at (arr l) gc (l.length - 1) (by show l.length - 1 < (arr l).size; rw [arr_size]; omega)
      have := (Array.getElem?_eq_some_iff.1 hb).1
      omega
  rw [← e2]
  refine ⟨_, _, hh, hsz, hsz, fun i x hx => ?_⟩
  obtain ⟨hj, rfl⟩ := List.getElem?_eq_some_iff.1 hx
  rw [bytesRow_at (arr l) gc i (by show i < (arr l).size; rw [arr_size]; exact hj)]
  rfl

set_option maxRecDepth 100000 in
set_option maxHeartbeats 8000000 in
theorem rencode_new (v : Ver) (s : Sl) (w : World) (hv : HV w s v.2.2) (hk : VOk v) (hz : frmV v = true → (encV v).length ≤ 1000000000000) :
    Calls Tryz.prog 17 #[verV v.1 v.2.1 s] w (ResN (if frmV v = true then (0, encV v) else (1, [])) w) := by
  have hl := hv.2.len.1
  have n1 := hv.2.len.2
  have HX := Lib.hid hv
  have HK := Lib.hid hk
  have HB0 := Lib.hid (Box3.mk0 (w := w) (.int .i64 v.1) (.int .i64 v.2.1) (.slice s.1 s.2.1 s.2.2) 24)
  have FR := Lib.hid (fun W (h : Below w.heap.size w W) => rformed_any v s W (hv.below h) hk)
  have FP := Lib.hid (fun h => frm_parts (v := v) h)
  have VT : Hid (encV v = verT v ++ endT (verT v)) := Lib.hid rfl
  have VU : Hid (verT v = lnT (verW v) ++ v.2.2.flatMap chgT) := Lib.hid rfl
  have VH := Lib.hid (ver_head v)
  clear hv hk
  obtain ⟨num, wk, cs⟩ := v
  obtain ⟨a, n, c⟩ := s
  try simp only at *
  cases hf : frmV (num, wk, cs)
  · rw [if_neg (by simp)]
    have FR2 : Hid (∀ W, Below w.heap.size w W → Calls Tryz.prog 56 #[verV num wk (a, n, c)] W (RetB (.bool false) W)) := Lib.hid (fun W h => by rw [← hf]; exact FR.out W h)
    clear hf FR FP hz VT VU VH
    go_enter Tryz.func17, Tryz.ntmps17
    go_wp2_with fail
    refine (FR2.out _ HB0.out.bl).mono ?_
    rintro en w1 ⟨rfl, hb1⟩
    have HB1 := Lib.hid (below3 HB0.out.bl hb1)
    clear hb1
    go_wp2_with fail
    go_ret2
    exact ⟨(none, 0, 0), rfl, BV.nil _, HB1.out, fun _ => rfl, fun h => by cases h⟩
  rw [if_pos rfl]
  have FR2 : Hid (∀ W, Below w.heap.size w W → Calls Tryz.prog 56 #[verV num wk (a, n, c)] W (RetB (.bool true) W)) := Lib.hid (fun W h => by rw [← hf]; exact FR.out W h)
  obtain ⟨⟨f1, f2, f3, f4, _⟩, _, f6⟩ := FP.out hf
  try simp only at f1 f2 f3 f4 f6
  have hz2 := hz hf
  have HC := Lib.hid f6
  have HZ : Hid (encV (num, wk, cs) = encV (num, wk, cs)) := Lib.hid rfl
  clear hf FR FP f6 hz
  rw [VT.out, List.length_append, end_len] at hz2
  have hzt : (verT (num, wk, cs)).length ≤ 1000000000000 := by omega
  have hzu := hzt
  rw [VU.out, List.length_append] at hzu
  have L1 := itoa_le (n := num) (by omega) (by omega)
  have L2 := itoa_le (n := wk) (by omega) (by omega)
  have hn8 : n ≤ 1000000000000 := by
    have h1 : ∀ cs : List Chg, cs.length ≤ (cs.flatMap chgT).length := by
      intro cs
      induction cs with
      | nil => simp
      | cons c cs ih =>
        have : 1 ≤ (chgT c).length := by unfold chgT lnT; simp; omega
        rw [List.flatMap_cons, List.length_append, List.length_cons]; omega
    have := h1 cs
    omega
  have L3 := itoa_le (n := (n : Int)) (by omega) (by omega)
  have D1 := Lib.hid (fun W => rdec num (by omega) (by omega) W)
  have D2 := Lib.hid (fun W => rdec wk (by omega) (by omega) W)
  have D3 := Lib.hid (fun W => rdec (n : Int) (by omega) (by omega) W)
  go_enter Tryz.func17, Tryz.ntmps17
  go_wp2_with fail
  refine (FR2.out _ HB0.out.bl).mono ?_
  rintro en w1 ⟨rfl, hb1⟩
  have HB1 := Lib.hid (HB0.out.next hb1)
  clear hb1 HB0 FR2
  obtain ⟨c0, c1, c2, sz, _⟩ := HB1.out
  go_upto_region 3 with fail
  go_cut [4] (fun sx wx => sx = .string (arr (lnT (verW (num, wk, cs)))) ∧ Below w1.heap.size w1 wx)
  case first =>
    rw [← hl] at D3
    rw [← hl] at L3
    generalize hA1 : arr (Lib.itoa num) = A1 at *
    generalize hA2 : arr (Lib.itoa wk) = A2 at *
    generalize hA3 : arr (Lib.itoa (cs.length : Int)) = A3 at *
    obtain ⟨T1, hT1, zT1⟩ := cat (⟨#[86, 32]⟩ : ByteArray) A1
    have sT1 : (⟨#[86, 32]⟩ : ByteArray).size = 2 := rfl
    have qT1 : ¬ 9223372036854775807 < (⟨#[86, 32]⟩ : ByteArray).size + A1.size := by omega
    have qaT1 : ¬ 9223372036854775807 < 2 + A1.size := by omega
    have qbT1 : ¬ 9223372036854775805 < A1.size := by omega
    have qcT1 : ¬ 9223372036854775807 < A1.size + 2 := by omega
    obtain ⟨T2, hT2, zT2⟩ := cat T1 (⟨#[32]⟩ : ByteArray)
    have rT2 : (⟨#[32]⟩ : ByteArray).size = 1 := rfl
    have qT2 : ¬ 9223372036854775807 < T1.size + (⟨#[32]⟩ : ByteArray).size := by omega
    have qaT2 : ¬ 9223372036854775807 < T1.size + 1 := by omega
    have qbT2 : ¬ 9223372036854775806 < T1.size := by omega
    have qcT2 : ¬ 9223372036854775807 ≤ T1.size := by omega
    obtain ⟨T3, hT3, zT3⟩ := cat T2 A2
    have qT3 : ¬ 9223372036854775807 < T2.size + A2.size := by omega
    obtain ⟨T4, hT4, zT4⟩ := cat T3 (⟨#[32]⟩ : ByteArray)
    have rT4 : (⟨#[32]⟩ : ByteArray).size = 1 := rfl
    have qT4 : ¬ 9223372036854775807 < T3.size + (⟨#[32]⟩ : ByteArray).size := by omega
    have qaT4 : ¬ 9223372036854775807 < T3.size + 1 := by omega
    have qbT4 : ¬ 9223372036854775806 < T3.size := by omega
    have qcT4 : ¬ 9223372036854775807 ≤ T3.size := by omega
    obtain ⟨T5, hT5, zT5⟩ := cat T4 A3
    have qT5 : ¬ 9223372036854775807 < T4.size + A3.size := by omega
    obtain ⟨T6, hT6, zT6⟩ := cat T5 (⟨#[10]⟩ : ByteArray)
    have rT6 : (⟨#[10]⟩ : ByteArray).size = 1 := rfl
    have qT6 : ¬ 9223372036854775807 < T5.size + (⟨#[10]⟩ : ByteArray).size := by omega
    have qaT6 : ¬ 9223372036854775807 < T5.size + 1 := by omega
    have qbT6 : ¬ 9223372036854775806 < T5.size := by omega
    have qcT6 : ¬ 9223372036854775807 ≤ T5.size := by omega
    have bdT6 : T6.size ≤ 3000000000000 := by omega
    clear zT1 zT2 zT3 zT4 zT5 zT6 sT1 rT2 rT4 rT6
    have HF : Hid (T6 = arr (lnT (verW (num, wk, cs)))) := Lib.hid (by
      rw [VH.out, ← hT6, ← hT5, ← hT4, ← hT3, ← hT2, ← hT1, ← hA1, ← hA2, ← hA3, show (⟨#[86, 32]⟩ : ByteArray) = arr [86, 32] from rfl, show (⟨#[32]⟩ : ByteArray) = arr [32] from rfl, show (⟨#[10]⟩ : ByteArray) = arr [10] from rfl]
      simp only [arr_app])
    rw [hl] at D3
    clear hA1 hA2 hA3 VT VU VH hzu hzt
    have BE := Lib.hid (bel_drew0 w1)
    have c0p := c0; have c1p := c1; have c2p := c2
    have t1 : True := trivial
    have t2 : True := trivial
    go_region_held3 (fun w' => w'.cell? ⟨w.heap.size, 0, none⟩ = some (.int .i64 num) ∧ w'.cell? ⟨w.heap.size, 1, none⟩ = some (.int .i64 wk) ∧ w'.cell? ⟨w.heap.size, 2, none⟩ = some (.slice a n c)) (first | (with_reducible exact ⟨c0, c1, c2⟩) | go_keep) (first | (go_at_call 57; have _k := t1; clear t1 _k; refine (D1.out _).mono ?_; rintro e9 w9 ⟨rfl, hb9⟩; have BQ : Below w1.heap.size w1 w9 := (by first | with_reducible exact hb9 | with_reducible exact below3 BE.out hb9); have c0 := below_cell9 BQ c0p; have c1 := below_cell9 BQ c1p; have c2 := below_cell9 BQ c2p) | (go_at_call 57; have _k := t2; clear t2 _k; refine (D2.out _).mono ?_; rintro e9 w9 ⟨rfl, hb9⟩; have BQ : Below w1.heap.size w1 w9 := (by first | with_reducible exact below3 BQ hb9 | with_reducible exact below3 (below3 BQ (bel_drew0 _)) hb9); have c0 := below_cell9 BQ c0p; have c1 := below_cell9 BQ c1p; have c2 := below_cell9 BQ c2p) | (go_at_call 57; refine (D3.out _).mono ?_; rintro e9 w9 ⟨rfl, hb9⟩; have BQ : Below w1.heap.size w1 w9 := (by first | with_reducible exact below3 BQ hb9 | with_reducible exact below3 (below3 BQ (bel_drew0 _)) hb9); have c0 := below_cell9 BQ c0p; have c1 := below_cell9 BQ c1p; have c2 := below_cell9 BQ c2p))
    all_goals (
      go_wp2_with fail
      go_meet
      exact ⟨by rw [HF.out], BQ⟩)
  case rest =>
    obtain ⟨rfl, hbc⟩ := hcut
    have HBc := Lib.hid (HB1.out.next hbc)
    clear c0 c1 c2 sz hbc HB1 D1 D2 D3 L1 L2 L3
    obtain ⟨wv, rfl⟩ : ∃ wv : World, wv = wc := ⟨_, rfl⟩
    go_wp2_with fail
    go_loopw [4, 5] (fun tx i wr => ∃ j : Nat, j ≤ n ∧ tx = .string (arr (lnT (verW (num, wk, cs)) ++ (cs.take j).flatMap chgT)) ∧ i = .int .i64 j ∧ Hid (Box3 w wr w.heap.size (.int .i64 num) (.int .i64 wk) (.slice a n c))) (fun _ i _ => n - (intOf i).toNat)
    case atStart => exact ⟨0, by omega, by simp, rfl, HBc⟩
    case round =>
      clear HBc
      obtain ⟨j, hj, rfl, rfl, HB1⟩ := hrel
      obtain ⟨wo, rfl⟩ : ∃ wo : World, wo = wr := ⟨_, rfl⟩
      obtain ⟨c0, c1, c2, sz, _⟩ := HB1.out
      by_cases hlt : j < n
      · obtain ⟨b1, o1, x, ⟨pa, pn, pc⟩, ⟨qa, qn, qc⟩, rfl, g1, z1, x0, x1, x2, sp, sq⟩ := HAt.cells (HX.out.2.below HB1.out.bl) hlt
        simp only at x1 x2
        obtain ⟨hc1, ⟨_, hc2⟩, _, hc3⟩ := chgOk_parts (HC.out x (List.mem_of_getElem? g1))
        have hcl := (codeOk_of hc1).2.1
        have hpl : x.2.1.length = pn := sp.2.1
        have hql : x.2.2.length = qn := sq.2.1
        have hpn := (vld_parts hc2).2.1
        have hqn := (vld_parts hc3).2.1
        rw [hpl] at hpn
        rw [hql] at hqn
        have HSPV := Lib.hid hc2
        have HSQV := Lib.hid hc3
        have HTK := Lib.hid (flat_take chgT g1)
        have hfl := ftake_le chgT cs (j + 1)
        rw [HTK.out, List.length_append] at hfl
        have HCT : Hid (chgT x = lnT (chgW x) ++ (x.2.1.flatMap lineT ++ x.2.2.flatMap lineT)) := Lib.hid rfl
        have hct := congrArg List.length HCT.out
        rw [List.length_append, List.length_append] at hct
        have HXN : Hid (lnT (verW (num, wk, cs)) ++ (cs.take (j + 1)).flatMap chgT = (lnT (verW (num, wk, cs)) ++ (cs.take j).flatMap chgT) ++ chgT x) := Lib.hid (by rw [HTK.out, List.append_assoc])
        have hXl : (lnT (verW (num, wk, cs)) ++ (cs.take j).flatMap chgT).length + (chgT x).length ≤ 1000000000000 := by rw [List.length_append]; omega
        generalize lnT (verW (num, wk, cs)) ++ (cs.take j).flatMap chgT = X at *
        have k1 : (j : Int) < n := by omega
        have k2 : (0 : Int) ≤ j := by omega
        have HD0 := Lib.hid (Box3.mk0 (w := wo) (.string (arr x.1)) (.slice pa pn pc) (.slice qa qn qc) 101)
        have HSP := Lib.hid sp
        have HSQ := Lib.hid sq
        have HCH := Lib.hid (chg_head x)
        have hXs : (arr X).size ≤ 1000000000000 := by rw [arr_size]; omega
        have hKs : (arr x.1).size ≤ 16 := by rw [arr_size]; exact hcl
        have L1 := itoa_le (n := (pn : Int)) (by omega) (by omega)
        have L2 := itoa_le (n := (qn : Int)) (by omega) (by omega)
        have D1 := Lib.hid (fun W => rdec (pn : Int) (by omega) (by omega) W)
        have D2 := Lib.hid (fun W => rdec (qn : Int) (by omega) (by omega) W)
        clear g1 sp sq hc1 hc2 hc3 hfl HTK hcl
        go_upto_region 8 with fail
        generalize hW : wo.alloc (.cells #[.string (arr x.1), .slice pa pn pc, .slice qa qn qc] 101) = W at *
        clear hW
        obtain ⟨e0, e1, e2, ez, _⟩ := HD0.out
        go_cut [4] (fun sx wx => sx = .string (arr (X ++ lnT (chgW x))) ∧ Below W.heap.size W wx)
        case first =>
          rw [hpl, hql] at HCH
          generalize hA1 : arr (Lib.itoa (pn : Int)) = A1 at *
          generalize hA2 : arr (Lib.itoa (qn : Int)) = A2 at *
          generalize hK0 : arr x.1 = K0 at *
          generalize hXX : arr X = XX at *
          obtain ⟨S1, hS1, zS1⟩ := cat (⟨#[67, 32]⟩ : ByteArray) K0
          have sS1 : (⟨#[67, 32]⟩ : ByteArray).size = 2 := rfl
          have qS1 : ¬ 9223372036854775807 < (⟨#[67, 32]⟩ : ByteArray).size + K0.size := by omega
          have qaS1 : ¬ 9223372036854775807 < 2 + K0.size := by omega
          have qbS1 : ¬ 9223372036854775805 < K0.size := by omega
          have qcS1 : ¬ 9223372036854775807 < K0.size + 2 := by omega
          obtain ⟨S2, hS2, zS2⟩ := cat S1 (⟨#[32]⟩ : ByteArray)
          have rS2 : (⟨#[32]⟩ : ByteArray).size = 1 := rfl
          have qS2 : ¬ 9223372036854775807 < S1.size + (⟨#[32]⟩ : ByteArray).size := by omega
          have qaS2 : ¬ 9223372036854775807 < S1.size + 1 := by omega
          have qbS2 : ¬ 9223372036854775806 < S1.size := by omega
          have qcS2 : ¬ 9223372036854775807 ≤ S1.size := by omega
          obtain ⟨S3, hS3, zS3⟩ := cat S2 A1
          have qS3 : ¬ 9223372036854775807 < S2.size + A1.size := by omega
          obtain ⟨S4, hS4, zS4⟩ := cat S3 (⟨#[32]⟩ : ByteArray)
          have rS4 : (⟨#[32]⟩ : ByteArray).size = 1 := rfl
          have qS4 : ¬ 9223372036854775807 < S3.size + (⟨#[32]⟩ : ByteArray).size := by omega
          have qaS4 : ¬ 9223372036854775807 < S3.size + 1 := by omega
          have qbS4 : ¬ 9223372036854775806 < S3.size := by omega
          have qcS4 : ¬ 9223372036854775807 ≤ S3.size := by omega
          obtain ⟨S5, hS5, zS5⟩ := cat S4 A2
          have qS5 : ¬ 9223372036854775807 < S4.size + A2.size := by omega
          obtain ⟨S6, hS6, zS6⟩ := cat S5 (⟨#[10]⟩ : ByteArray)
          have rS6 : (⟨#[10]⟩ : ByteArray).size = 1 := rfl
          have qS6 : ¬ 9223372036854775807 < S5.size + (⟨#[10]⟩ : ByteArray).size := by omega
          have qaS6 : ¬ 9223372036854775807 < S5.size + 1 := by omega
          have qbS6 : ¬ 9223372036854775806 < S5.size := by omega
          have qcS6 : ¬ 9223372036854775807 ≤ S5.size := by omega
          have bdS6 : S6.size ≤ 3000000000000 := by omega
          clear zS1 zS2 zS3 zS4 zS5 zS6 sS1 rS2 rS4 rS6
          obtain ⟨R1, hR1, zR1⟩ := cat XX S6
          have qR1 : ¬ 9223372036854775807 < XX.size + S6.size := by omega
          have bdR1 : R1.size ≤ 5000000000000 := by omega
          clear zR1
          have HF : Hid (R1 = arr (X ++ lnT (chgW x))) := Lib.hid (by
            rw [← hR1, HCH.out, ← hS6, ← hS5, ← hS4, ← hS3, ← hS2, ← hS1, ← hA1, ← hA2, ← hK0, ← hXX, show (⟨#[67, 32]⟩ : ByteArray) = arr [67, 32] from rfl, show (⟨#[32]⟩ : ByteArray) = arr [32] from rfl, show (⟨#[10]⟩ : ByteArray) = arr [10] from rfl]
            simp only [arr_app])
          clear hA1 hA2 hK0 hXX HCH
          have BE := Lib.hid (bel_drew0 W)
          have e0p := e0; have e1p := e1; have e2p := e2
          have t1 : True := trivial
          go_region_held3 (fun w' => w'.cell? ⟨wo.heap.size, 0, none⟩ = some (.string K0) ∧ w'.cell? ⟨wo.heap.size, 1, none⟩ = some (.slice pa pn pc) ∧ w'.cell? ⟨wo.heap.size, 2, none⟩ = some (.slice qa qn qc)) (first | (with_reducible exact ⟨e0, e1, e2⟩) | go_keep) (first | (go_at_call 57; have _k := t1; clear t1 _k; refine (D1.out _).mono ?_; rintro e9 w9 ⟨rfl, hb9⟩; have BQ : Below W.heap.size W w9 := (by first | with_reducible exact hb9 | with_reducible exact below3 BE.out hb9); have e0 := below_cell9 BQ e0p; have e1 := below_cell9 BQ e1p; have e2 := below_cell9 BQ e2p) | (go_at_call 57; refine (D2.out _).mono ?_; rintro e9 w9 ⟨rfl, hb9⟩; have BQ : Below W.heap.size W w9 := (by first | with_reducible exact below3 BQ hb9 | with_reducible exact below3 (below3 BQ (bel_drew0 _)) hb9); have e0 := below_cell9 BQ e0p; have e1 := below_cell9 BQ e1p; have e2 := below_cell9 BQ e2p))
          all_goals (
            go_wp2_with fail
            go_meet
            exact ⟨by rw [HF.out], BQ⟩)
        case rest =>
          obtain ⟨rfl, hbc⟩ := hcut
          obtain ⟨wd, rfl⟩ : ∃ wd : World, wd = wc := ⟨_, rfl⟩
          have HE := Lib.hid (HD0.out.next hbc)
          have HQ := Lib.hid (Below.refl wd.heap.size wd)
          have HB2 := Lib.hid ((HB1.out.next HD0.out.bl).next hbc)
          have HSP := Lib.hid (HSP.out.below (below3 HD0.out.bl hbc))
          have HSQ := Lib.hid (HSQ.out.below (below3 HD0.out.bl hbc))
          clear hbc e0 e1 e2 ez HB1 HD0 D1 D2 L1 L2 x0 x1 x2 c0 c1 c2 sz
          have HCT2 : Hid (X ++ chgT x = (X ++ lnT (chgW x)) ++ x.2.1.flatMap lineT ++ x.2.2.flatMap lineT) := Lib.hid (by rw [HCT.out]; simp)
          have hX1 : (X ++ lnT (chgW x)).length + (x.2.1.flatMap lineT).length + (x.2.2.flatMap lineT).length ≤ 1000000000000 := by rw [List.length_append]; omega
          generalize X ++ lnT (chgW x) = X1 at *
          obtain ⟨e0, e1, e2, ez, _⟩ := HE.out
          go_wp2_with fail
          clear e0 e1 e2 ez
          go_loopw [4, 7] (fun tx i wq => ∃ k : Nat, k ≤ pn ∧ tx = .string (arr (X1 ++ (x.2.1.take k).flatMap lineT)) ∧ i = .int .i64 k ∧ Hid (Box3 wo wq wo.heap.size (.string (arr x.1)) (.slice pa pn pc) (.slice qa qn qc)) ∧ Hid (Below wd.heap.size wd wq)) (fun _ i _ => pn - (intOf i).toNat)
          case atStart => exact ⟨0, by omega, by simp, rfl, HE, HQ⟩
          case round =>
            clear HE HQ
            obtain ⟨k, hk, rfl, rfl, HE, HQ⟩ := hrel
            obtain ⟨e0, e1, e2, ez, _⟩ := HE.out
            have hfl := ftake_le lineT x.2.1 k
            by_cases hlt : k < pn
            · have sx := HSP.out.2.below HQ.out
              obtain ⟨b2, o2, s2, rfl, g2, z2, y0, y1, y2, y3, y4, y5⟩ := SAt.cells sx hlt
              have ck := own_chk HSPV.out s2 (List.mem_of_getElem? g2)
              have LN := Lib.hid (fun W => rline_any s2 W ck)
              have HTK := Lib.hid (flat_take lineT g2)
              have hfl2 := ftake_le lineT x.2.1 (k + 1)
              rw [HTK.out, List.length_append] at hfl2
              have k1 : (k : Int) < pn := by omega
              have k2 : (0 : Int) ≤ k := by omega
              have HX2 : Hid (X1 ++ (x.2.1.take (k + 1)).flatMap lineT = (X1 ++ (x.2.1.take k).flatMap lineT) ++ lineT s2) := Lib.hid (by rw [HTK.out, List.append_assoc])
              have hlen : (X1 ++ (x.2.1.take k).flatMap lineT).length ≤ 1000000000000 := by rw [List.length_append]; omega
              have hlen2 : (lineT s2).length ≤ 1000000000000 := by omega
              clear sx ck g2 hfl hfl2
              generalize X1 ++ (x.2.1.take k).flatMap lineT = Y at *
              have ap := arr_app Y (lineT s2)
              have qy1 := arr_size Y
              have qy2 := arr_size (lineT s2)
              have qy3 : ¬ 9223372036854775807 < (arr Y).size + (arr (lineT s2)).size := by omega
              have qy4 : ¬ 9223372036854775807 < Y.length + (lineT s2).length := by omega
              go_wp2_with fail
              refine (LN.out _).mono ?_
              rintro en w4 ⟨rfl, hb4⟩
              have HE2 := Lib.hid (HE.out.next hb4)
              have HQ2 := Lib.hid (below3 HQ.out hb4)
              clear hb4
              go_wp2_with fail
              go_roundw
              case rel => exact ⟨k + 1, by omega, by rw [HX2.out], by go_num, HE2, HQ2⟩
              case measure => simp [intOf]; omega
            · obtain rfl : pn = k := by omega
              have hX2 : (X1 ++ (x.2.1.take x.2.1.length).flatMap lineT).length + (x.2.2.flatMap lineT).length ≤ 1000000000000 := by rw [List.take_length, List.length_append]; omega
              have HX3 : Hid (X1 ++ (x.2.1.take pn).flatMap lineT = X1 ++ x.2.1.flatMap lineT) := Lib.hid (by rw [← hpl, List.take_length])
              rw [HX3.out]
              rw [List.take_length] at hX2
              generalize X1 ++ x.2.1.flatMap lineT = X2 at *
              obtain ⟨wp, rfl⟩ : ∃ wp : World, wp = wr := ⟨_, rfl⟩
              have HSQ := Lib.hid (HSQ.out.below HQ.out)
              have HB3 := Lib.hid (HB2.out.next HQ.out)
              have HQ := Lib.hid (Below.refl wp.heap.size wp)
              clear hfl
              go_wp2_with fail
              clear e0 e1 e2 ez
              go_loopw [4, 8] (fun tx i wq => ∃ k : Nat, k ≤ qn ∧ tx = .string (arr (X2 ++ (x.2.2.take k).flatMap lineT)) ∧ i = .int .i64 k ∧ Hid (Box3 wo wq wo.heap.size (.string (arr x.1)) (.slice pa pn pc) (.slice qa qn qc)) ∧ Hid (Below wp.heap.size wp wq)) (fun _ i _ => qn - (intOf i).toNat)
              case atStart => exact ⟨0, by omega, by simp, rfl, HE, HQ⟩
              case round =>
                clear HE HQ
                obtain ⟨k, hk, rfl, rfl, HE, HQ⟩ := hrel
                obtain ⟨e0, e1, e2, ez, _⟩ := HE.out
                have hfl := ftake_le lineT x.2.2 k
                by_cases hlt : k < qn
                · have sx := HSQ.out.2.below HQ.out
                  obtain ⟨b2, o2, s2, rfl, g2, z2, y0, y1, y2, y3, y4, y5⟩ := SAt.cells sx hlt
                  have ck := own_chk HSQV.out s2 (List.mem_of_getElem? g2)
                  have LN := Lib.hid (fun W => rline_any s2 W ck)
                  have HTK := Lib.hid (flat_take lineT g2)
                  have hfl2 := ftake_le lineT x.2.2 (k + 1)
                  rw [HTK.out, List.length_append] at hfl2
                  have k1 : (k : Int) < qn := by omega
                  have k2 : (0 : Int) ≤ k := by omega
                  have HX2 : Hid (X2 ++ (x.2.2.take (k + 1)).flatMap lineT = (X2 ++ (x.2.2.take k).flatMap lineT) ++ lineT s2) := Lib.hid (by rw [HTK.out, List.append_assoc])
                  have hlen : (X2 ++ (x.2.2.take k).flatMap lineT).length ≤ 1000000000000 := by rw [List.length_append]; omega
                  have hlen2 : (lineT s2).length ≤ 1000000000000 := by omega
                  clear sx ck g2 hfl hfl2
                  generalize X2 ++ (x.2.2.take k).flatMap lineT = Y at *
                  have ap := arr_app Y (lineT s2)
                  have qy1 := arr_size Y
                  have qy2 := arr_size (lineT s2)
                  have qy3 : ¬ 9223372036854775807 < (arr Y).size + (arr (lineT s2)).size := by omega
                  have qy4 : ¬ 9223372036854775807 < Y.length + (lineT s2).length := by omega
                  go_wp2_with fail
                  refine (LN.out _).mono ?_
                  rintro en w4 ⟨rfl, hb4⟩
                  have HE2 := Lib.hid (HE.out.next hb4)
                  have HQ2 := Lib.hid (below3 HQ.out hb4)
                  clear hb4
                  go_wp2_with fail
                  go_roundw
                  case rel => exact ⟨k + 1, by omega, by rw [HX2.out], by go_num, HE2, HQ2⟩
                  case measure => simp [intOf]; omega
                · obtain rfl : qn = k := by omega
                  have HB4 := Lib.hid (HB3.out.next HQ.out)
                  have HX4 : Hid (X2 ++ (x.2.2.take qn).flatMap lineT = X2 ++ x.2.2.flatMap lineT) := Lib.hid (by rw [← hql, List.take_length])
                  rw [HX4.out]
                  go_wp2_with fail
                  go_roundw
                  case rel => exact ⟨j + 1, by omega, by rw [HXN.out, HCT2.out], by go_num, HB4⟩
                  case measure => simp [intOf]; omega
      · obtain rfl : n = j := by omega
        have HT : Hid (lnT (verW (num, wk, cs)) ++ (cs.take n).flatMap chgT = verT (num, wk, cs)) := Lib.hid (by rw [← hl, List.take_length]; exact VU.out.symm)
        rw [HT.out]
        have HET := Lib.hid (end_text (verT (num, wk, cs)))
        have hcr := crcN_lt (verT (num, wk, cs))
        have hze : (encV (num, wk, cs)).length ≤ 1000000000000 := by rw [VT.out, List.length_append, end_len]; exact hz2
        clear hz2 hzu HT
        generalize verT (num, wk, cs) = Y at *
        obtain ⟨cc, W1, hcv, hbv, hbb⟩ := conv_bytes Y (by omega) wo
        have SM := Lib.hid (rsum_any (some ⟨wo.heap.size, 0, none⟩) Y.length cc Y W1 hbv.2)
        have HXC := Lib.hid (rhex_any (crcN Y) W1 hcr)
        have HB2 := Lib.hid (below3 HB1.out.bl hbb)
        have hys : (arr Y).size ≤ 1000000000000 := by rw [arr_size]; exact hzt
        have hxs : (arr (hexK 8 (crcN Y))).size = 8 := by rw [arr_size]; exact hexK_len _ _
        clear hbv hbb hcr
        generalize crcN Y = cy at *
        generalize hYY : arr Y = YY at *
        generalize hHH : arr (hexK 8 cy) = HH at *
        obtain ⟨U1, hU1, zU1⟩ := cat YY (⟨#[69, 32]⟩ : ByteArray)
        have rU1 : (⟨#[69, 32]⟩ : ByteArray).size = 2 := rfl
        have qU1 : ¬ 9223372036854775807 < YY.size + (⟨#[69, 32]⟩ : ByteArray).size := by omega
        have qaU1 : ¬ 9223372036854775807 < YY.size + 2 := by omega
        have qbU1 : ¬ 9223372036854775805 < YY.size := by omega
        have qcU1 : ¬ 9223372036854775807 ≤ YY.size := by omega
        obtain ⟨U2, hU2, zU2⟩ := cat U1 HH
        have qU2 : ¬ 9223372036854775807 < U1.size + HH.size := by omega
        obtain ⟨U3, hU3, zU3⟩ := cat U2 (⟨#[10]⟩ : ByteArray)
        have rU3 : (⟨#[10]⟩ : ByteArray).size = 1 := rfl
        have qU3 : ¬ 9223372036854775807 < U2.size + (⟨#[10]⟩ : ByteArray).size := by omega
        have qaU3 : ¬ 9223372036854775807 < U2.size + 1 := by omega
        have qbU3 : ¬ 9223372036854775806 < U2.size := by omega
        have qcU3 : ¬ 9223372036854775807 ≤ U2.size := by omega
        have bdU3 : U3.size ≤ 3000000000000 := by omega
        clear zU1 zU2 zU3 rU1 rU3
        have HF : Hid (U3 = arr (encV (num, wk, cs))) := Lib.hid (by
          rw [VT.out, HET.out, ← hU3, ← hU2, ← hU1, ← hYY, ← hHH, show (⟨#[69, 32]⟩ : ByteArray) = arr [69, 32] from rfl, show (⟨#[10]⟩ : ByteArray) = arr [10] from rfl]
          simp only [arr_app, List.append_assoc])
        clear hxs hYY hHH VT VU HET
        go_wp2_with fail
        refine SM.out.mono ?_
        rintro en w5 ⟨rfl, hw5⟩
        subst hw5
        go_wp2_with fail
        refine HXC.out.mono ?_
        rintro en w6 ⟨rfl, hb6⟩
        obtain ⟨cd, W2, hcv2, hbv2, hbb2, hmb2⟩ := conv_new (encV (num, wk, cs)) (by omega) w6
        have HMB := Lib.hid hmb2
        have hw6 : w.heap.size ≤ w6.heap.size := (below3 HB2.out hb6).size
        rw [← HF.out] at hcv2
        have HR := Lib.hid hbv2
        have HB3 := Lib.hid (below3 (below3 HB2.out hb6) hbb2)
        clear hbv2 hb6 hbb2 hmb2
        go_wp2_with fail
        go_ret2
        exact ⟨(_, _, _), rfl, HR.out, HB3.out, (fun h => by cases h), fun _ => ⟨_, _, rfl, hw6, HMB.out⟩⟩
end Go.Proofs.YtihbpggbpapcfaaGreatDoor

namespace Go.Proofs.YtihbpggbpapcfaaGreatDoor
open Go.RowKit

set_option maxRecDepth 100000 in
set_option maxHeartbeats 16000000 in
theorem law_reads (ta : Option Addr) (tn tc : Nat) (tl : L8) (a : Option Addr) (n c : Nat) (L : List Int) (at_ : Int) (x : UInt8) (fix : Bool) (w : World) (hI : IntsAt w a n L) (hL : ∀ x ∈ L, -9223372036854775808 ≤ x ∧ x ≤ 9223372036854775807) (hat : -9223372036854775808 ≤ at_ ∧ at_ ≤ 9223372036854775807) (hT : BV w (ta, tn, tc) tl) (hTN : NilOk (ta, tn, tc)) (hE : Env w) :
    Calls Tryz.prog 4 #[.slice ta tn tc, .slice a n c, .int .i64 at_, .int .u8 x.toNat, .bool fix] w (RetB (.bool true) w) := by
  have AW := Lib.hid (fun W (h : Below w.heap.size w W) => awake_any W (hE.below h))
  by_cases hg : n ≤ 400 ∧ tn ≤ 3000
  rotate_left
  · have hcond : (!decide (n ≤ 400) || decide (3000 < tn)) = true := by
      simp only [Bool.or_eq_true, Bool.not_eq_true', decide_eq_true_eq, decide_eq_false_iff_not]
      omega
    clear hI hL hT hE hTN
    go_enter Tryz.func4, Tryz.ntmps4
    clear hcond
    go_wp2_with (first | (go_at_call 12; refine (light_any _ _ _ _).mono ?_; rintro e w' ⟨rfl, rfl⟩) | (go_at_call 13; refine (AW.out _ (Below.refl _ _)).mono ?_; rintro e w' ⟨rfl, hb⟩))
    all_goals first | (go_ret; exact ⟨rfl, hb⟩) | (exfalso; simp only [decide_eq_true_eq, decide_eq_false_iff_not, beq_iff_eq, Bool.not_eq_true, beq_eq_false_iff_ne] at *; omega)
  obtain ⟨hn, htn⟩ := hg
  have hxb : x.toNat < 256 := UInt8.toNat_lt x
  have HD0 := Lib.hid (DiceAt.mk0 c 104 hI hn hL)
  have HE := Lib.hid hE
  have HT := Lib.hid hT
  have HTN := Lib.hid hTN
  clear hI hL hT hE hTN
  go_enter Tryz.func4, Tryz.ntmps4
  have hnd : decide (n ≤ 400) = true := by simpa using hn
  go_upto_region 3 with (go_at_call 12; refine (light_any _ _ _ _).mono ?_; rintro e w' ⟨rfl, rfl⟩)
  have hb0 : Below w.heap.size w (w.alloc (.cells #[.slice a n c, .int .i64 0] 104)) := (Below.refl _ _).alloc (Nat.le_refl _) _
  go_wp2_with (go_at_call 15; refine (roll_any _ _ _ _).mono ?_; rintro e w' ⟨rfl, rfl⟩)
  have HB0 := Lib.hid hb0
  have VA := Lib.hid (version_any w.heap.size _ HD0.out)
  clear hb0
  generalize w.alloc (.cells #[.slice a n c, .int .i64 0] 104) = w1 at *
  go_wp2_with (go_at_call 14; refine VA.out.mono ?_)
  rintro en w2 ⟨num, wk, s, cs, rfl, hh, hvo, hc, hd, hb⟩
  obtain ⟨s', hs, hv⟩ := hh.hv
  have hb2 : Below w.heap.size w w2 := hb.below HB0.out (Nat.le_refl _) HB0.out.size
  have HB2 := Lib.hid hb2
  have hcl := cnt_le cs
  obtain ⟨s0, s1, s2⟩ := s
  obtain ⟨s0', s1', s2'⟩ := s'
  obtain ⟨rfl, rfl, rfl⟩ : s0 = s0' ∧ s1 = s1' ∧ s2 = s2' := by
    have : slV (s0, s1, s2) = slV (s0', s1', s2') := hs
    injection this with x1 x2 x3
    exact ⟨x1, x2, x3⟩
  have EN := Lib.hid (rencode_new (num, wk, cs) (s0, s1, s2) w2 hv hvo (fun hf => enc_small hf (by simp only; omega)))
  clear hh hvo hd hb hb2 hs hv VA HD0 HB0
  have HF := Lib.hid (fun hf : frmV (num, wk, cs) = true => enc_tiny hf (by simp only; omega))
  have HPS := Lib.hid (enc_pos (num, wk, cs))
  obtain ⟨E, hEq⟩ : ∃ E, encV (num, wk, cs) = E := ⟨_, rfl⟩
  rw [hEq] at EN HF HPS
  clear hEq hcl hc
  obtain ⟨fo, hfo⟩ : ∃ fo, frmV (num, wk, cs) = fo := ⟨_, rfl⟩
  rw [hfo] at EN HF
  clear hfo
  have SA := Lib.hid (fun W (h : Below w.heap.size w W) => sum_any ta tn tc tl W (HT.out.below h).2)
  have SB := Lib.hid (fun W (h : Below w.heap.size w W) => rsum_any ta tn tc tl W (HT.out.below h).2)
  obtain ⟨rr, hrr⟩ : ∃ rr : Int × L8, (if fo = true then ((0 : Int), E) else (1, [])) = rr := ⟨_, rfl⟩
  rw [hrr] at EN
  go_upto_region 4 with (go_at_call 17; refine EN.out.mono ?_; rintro en w3 ⟨⟨b0, b1, b2⟩, rfl, hbv, hb3, hno, hmb⟩)
  have HB3 := Lib.hid (HB2.out.trans (hb3.mono HB2.out.size))
  have h23 : w.heap.size ≤ w2.heap.size := HB2.out.size
  have HBV := Lib.hid hbv
  have HMB := Lib.hid hmb
  have HNO : Hid (NilOk (b0, b1, b2)) := Lib.hid hno
  clear EN hb3 hbv hmb hno
  go_upto_region 6 with (first | (go_at_call 20; refine (SA.out _ HB3.out).mono ?_; rintro e w' ⟨rfl, rfl⟩) | (go_at_call 21; refine (SB.out _ HB3.out).mono ?_; rintro e w' ⟨rfl, rfl⟩))
  go_upto_if 47 with fail
  go_cut [11] (fun s11 wx => ∃ (y0 : Option Addr) (y1 y2 : Nat) (l : L8), s11 = .slice y0 y1 y2 ∧ BV wx (y0, y1, y2) l ∧ l.length ≤ 200000 ∧ NilOk (y0, y1, y2) ∧ Below w.heap.size w wx)
  case first =>
    cases fo with
    | false =>
      rw [if_neg (by simp)] at hrr
      subst hrr
      go_wp2_with fail
      go_meet
      exact ⟨b0, b1, b2, [], rfl, HBV.out, by simp, HNO.out, HB3.out⟩
    | true =>
      rw [if_pos rfl] at hrr
      subst hrr
      obtain ⟨g, cp, hs, hg, hm⟩ := HMB.out rfl
      simp only [Prod.mk.injEq] at hs
      obtain ⟨rfl, rfl, rfl⟩ := hs
      have hEl := HF.out rfl
      have hEp := HPS.out
      simp only at hm hEl
      have hcp : E.length ≤ b2 := HBV.out.1
      obtain ⟨kk, hkk⟩ : ∃ kk : Nat, at_ % (E.length : Int) = (kk : Int) := ⟨(at_ % (E.length : Int)).toNat, by have := Int.emod_nonneg at_ (show (E.length : Int) ≠ 0 by omega); omega⟩
      have hkl : kk < E.length := by have := Int.emod_lt_of_pos at_ (show (0 : Int) < (E.length : Int) by omega); omega
      have MO := Lib.hid (fun W => mod_any at_ (E.length : Int) hat.1 hat.2 (by omega) (by omega) W)
      rw [hkk] at MO
      have ce := hm.cell (List.getElem?_eq_getElem hkl)
      have fe := hm.fz hkl
      have HM1 := Lib.hid (hm.set kk x)
      have hgw : w.heap.size ≤ g := by omega
      have HB4 := Lib.hid (HB3.out.setCell (p := ⟨g, kk, none⟩) hgw (.int .u8 x.toNat))
      have hkz : (0 : Int) ≤ kk := by omega
      have hkz2 : (kk : Int) < E.length := by omega
      clear hm hg hkk HBV HMB
      go_upto_region 9 with (go_at_call 22; refine (MO.out _).mono ?_; rintro e w' ⟨rfl, rfl⟩)
      clear MO ce fe
      generalize w3.setCell ⟨g, kk, none⟩ (.int .u8 x.toNat) = w4 at *
      obtain ⟨E1, hE1⟩ : ∃ E1, E.set kk x = E1 := ⟨_, rfl⟩
      have hl1 : E1.length = E.length := by rw [← hE1, List.length_set]
      rw [hE1] at HM1
      clear hE1 hkz hkz2 hkl
      by_cases hfx : fix = true ∧ 11 < E.length
      rotate_left
      · have hend : BV w4 (some ⟨g, 0, none⟩, E.length, b2) E1 := by
          have := HM1.out.bv (c := b2) (by omega) (by omega)
          rw [hl1] at this
          exact this
        have HEND := Lib.hid hend
        clear hend
        cases fix with
        | false =>
          go_wp2_with fail
          go_meet
          exact ⟨_, _, _, E1, rfl, HEND.out, by omega, (fun h => by cases h), HB4.out⟩
        | true =>
          have h11n : ¬ 11 < E.length := fun h => hfx ⟨rfl, h⟩
          have h11 : ¬ (11 : Int) < E.length := by omega
          go_wp2_with fail
          go_meet
          exact ⟨_, _, _, E1, rfl, HEND.out, by omega, (fun h => by cases h), HB4.out⟩
      obtain ⟨rfl, h11⟩ := hfx
      have h11i : (11 : Int) < E.length := by omega
      have z1 : IntKind.i64.wrap ((E.length : Int) - 11) = ((E.length - 11 : Nat) : Int) := by rw [IntWalk.i64_in _ (by omega)]; omega
      have hsub : BAt w4 (some ⟨g, 0, none⟩) (E.length - 11) (E1.take (E.length - 11)) := by
        have := (HM1.out.bv (c := b2) (by omega) (by omega)).2
        rw [hl1] at this
        exact KAt.take this (show E.length - 11 ≤ E.length by omega)
      have SC := Lib.hid (rsum_any (some ⟨g, 0, none⟩) (E.length - 11) b2 (E1.take (E.length - 11)) w4 hsub)
      obtain ⟨z, hz⟩ : ∃ z : Nat, crcN (E1.take (E.length - 11)) = z := ⟨_, rfl⟩
      have hzb : z ≤ 4294967295 := by
        have := crcN_lt (E1.take (E.length - 11))
        omega
      rw [hz] at SC
      clear hz hsub
      go_upto_region 12 with (go_at_call 21; refine SC.out.mono ?_; rintro e w' ⟨rfl, rfl⟩)
      go_wp2_with fail
      go_loopw [15, 16] (fun s15 s16 wr => ∃ (i : Nat) (y : Nat) (l : L8), i ≤ 8 ∧ s16 = .int .i64 i ∧ s15 = .int .i64 y ∧ y ≤ 4294967295 ∧ Hid (MB wr g l) ∧ l.length = E.length ∧ Hid (Below w.heap.size w wr)) (fun _ s16 _ => 8 - (intOf s16).toNat)
      case atStart => exact ⟨0, z, E1, by omega, rfl, rfl, hzb, HM1, hl1, HB4⟩
      case round =>
        obtain ⟨i, y, l, hi, rfl, rfl, y1, HM, hll, HB⟩ := hrel
        by_cases hlt : i < 8
        · obtain ⟨e2, he2⟩ : ∃ e2, E.length = e2 + 2 := ⟨E.length - 2, by omega⟩
          obtain ⟨q, hq⟩ : ∃ q, q + i = e2 := ⟨e2 - i, by omega⟩
          have z3 : IntKind.i64.wrap ((E.length : Int) - 2) = (e2 : Int) := by rw [IntWalk.i64_in _ (by omega)]; omega
          have z4 : IntKind.i64.wrap ((e2 : Int) - i) = (q : Int) := by rw [IntWalk.i64_in _ (by omega)]; omega
          have hql : q < l.length := by omega
          have hq1 : (q : Int) < E.length := by omega
          have hcell := HM.out.cell (List.getElem?_eq_getElem hql)
          have hfz := HM.out.fz hql
          have hb15 := and15 y (by omega)
          have hm16 : y % 16 < 16 := Nat.mod_lt _ (by omega)
          have hy16 : y / 16 ≤ y := Nat.div_le_self _ _
          have HSA := Lib.hid (fun u : UInt8 => HM.out.set q u)
          have HBS := Lib.hid (fun u : Value => HB.out.setCell (p := ⟨g, q, none⟩) hgw u)
          have HY : Hid (∃ y2, y2 = y / 16 ∧ y2 ≤ 4294967295) := Lib.hid ⟨_, rfl, by omega⟩
          generalize hdg : y % 16 = d at *
          clear he2 hq
          go_wp2_with fail
          go_roundw
          case rel =>
            obtain ⟨y2, hy2, hy3⟩ := HY.out
            refine ⟨i + 1, y2, l.set q (hexD d), by omega, by go_num, by rw [hy2]; go_num, hy3, Lib.hid ?_, by rw [List.length_set]; exact hll, Lib.hid (HBS.out _)⟩
            rw [hexTab d hm16]
            exact HSA.out _
          case measure => simp [intOf]; omega
        · have hni : ¬ (i : Int) < 8 := by omega
          have hend : BV wr (some ⟨g, 0, none⟩, E.length, b2) l := by
            have := HM.out.bv (c := b2) (by omega) (by omega)
            rw [hll] at this
            exact this
          have HEND := Lib.hid hend
          clear hend
          go_wp2_with fail
          go_meet
          exact ⟨_, _, _, l, rfl, HEND.out, by omega, (fun h => by cases h), HB.out⟩
  case rest =>
    obtain ⟨y0, y1, y2, l, rfl, hbv, hl, hno, hbx⟩ := hcut
    obtain ⟨w4, rfl⟩ : ∃ w4 : World, w4 = wc := ⟨_, rfl⟩
    clear hrr HPS HF SA SB HMB HBV HB3 HNO h23 hat HB2
    have HB4 := Lib.hid hbx
    have hyl : l.length = y1 := hbv.2.1
    have htl : tl.length = tn := HT.out.2.1
    have HBE := Lib.hid (KRow.empty bytC 1 5 w4)
    have HBA := Lib.hid ((Below.refl w4.heap.size w4).alloc (Nat.le_refl _) (.cells #[] 5))
    have HL := Lib.hid hbv
    have HLN := Lib.hid hno
    clear hbv hno hbx
    go_upto_region 17 with fail
    go_wp2_with (at_builtin; refine wpList_app elemByt encByt rfl _ _ rfl w4.heap.size _ [] rfl HBE.out _ _ _ l rfl (HL.out.below HBA.out).2 (by simp; omega) (by simp) ?_)
    intro v6 w6 hr6 hb6 hg6 ho6
    obtain ⟨a6, c6, hv6, hc6, hk6⟩ := KRow.at_ encByt hr6
    obtain ⟨n6, hn6⟩ : ∃ n6, l.length = n6 := ⟨_, rfl⟩
    have HR6 := Lib.hid hr6
    have HB6 := Lib.hid (HBA.out.trans hb6)
    have h46 : w4.heap.size ≤ w6.heap.size := HB6.out.size
    clear hr6 hb6 hg6 ho6 hk6 hc6 hn6
    have HT6 := Lib.hid (HT.out.below (HB4.out.trans (HB6.out.mono HB4.out.size)))
    go_wp2_with (at_builtin; refine wpList_app elemByt encByt rfl _ _ rfl w4.heap.size _ l rfl HR6.out _ _ _ tl rfl HT6.out.2 (by simp; omega) h46 ?_)
    intro v7 w7 hr7 hb7 hg7 ho7
    obtain ⟨a7, c7, hv7, hc7, hk7⟩ := KRow.at_ encByt hr7
    obtain ⟨n7, hn7⟩ : ∃ n7, (l ++ tl).length = n7 := ⟨_, rfl⟩
    have hn7l : n7 ≤ 4000000 := by rw [← hn7, List.length_append]; omega
    rw [hn7] at hv7 hc7 hk7
    subst hv7
    have hno7 := nil_row (s := (a7, n7, c7)) hr7
    have hb47 := HB6.out.trans hb7
    have HB7 := Lib.hid (HB4.out.trans (hb47.mono HB4.out.size))
    have hal : Below w7.heap.size w7 (w7.alloc (.cells #[.slice ta tn tc, .slice y0 y1 y2, .slice a7 n7 c7] 26)) := (Below.refl _ _).alloc (Nat.le_refl _) _
    have HS : Hid (∀ i, i < 3 → ∃ a n c d, (w7.alloc (.cells #[.slice ta tn tc, .slice y0 y1 y2, .slice a7 n7 c7] 26)).cell? ⟨w7.heap.size, i, none⟩ = some (.slice a n c) ∧ BV (w7.alloc (.cells #[.slice ta tn tc, .slice y0 y1 y2, .slice a7 n7 c7] 26)) (a, n, c) d ∧ NilOk (a, n, c) ∧ n ≤ 4000000) := Lib.hid (fun i hi => by
      have hc := (BX.mk0 (vs := #[.slice ta tn tc, .slice y0 y1 y2, .slice a7 n7 c7]) (T := 26) w7).cell i
      match i, hi with
      | 0, _ => exact ⟨ta, tn, tc, tl, hc, (HT.out.below HB7.out).below hal, HTN.out, by omega⟩
      | 1, _ => exact ⟨y0, y1, y2, l, hc, (HL.out.below hb47).below hal, HLN.out, by omega⟩
      | 2, _ => exact ⟨a7, n7, c7, l ++ tl, hc, BV.below ⟨hc7, hk7⟩ hal, hno7, hn7l⟩)
    have HB8 := Lib.hid (HB7.out.trans (hal.mono HB7.out.size))
    clear hr7 hb7 hg7 ho7 hc7 hk7 hno7 hb47 hal hn7 HT6 HR6 HB6 HBE HBA HL HLN hyl htl
    go_wp2_with fail
    generalize (w7.alloc (.cells #[.slice ta tn tc, .slice y0 y1 y2, .slice a7 n7 c7] 26)) = w8 at *
    generalize w7.heap.size = G at *
    go_loopw [92] (fun s92 wr => ∃ i : Nat, i ≤ 3 ∧ s92 = .int .i64 i ∧ Hid (Below w8.heap.size w8 wr)) (fun s92 _ => 3 - (intOf s92).toNat)
    case atStart => exact ⟨0, by omega, rfl, Lib.hid (Below.refl _ _)⟩
    case round =>
      obtain ⟨i, hi, rfl, HB⟩ := hrel
      by_cases hlt : i < 3
      · obtain ⟨xa, xn, xc, d, hcx, hxd, hxn, hxl⟩ := HS.out i hlt
        have hcr : wr.cell? ⟨G, i, none⟩ = some (.slice xa xn xc) := (HB.out.cell (lt_of_cell hcx)).trans hcx
        have HXD := Lib.hid (hxd.below HB.out)
        have hdl : d.length = xn := hxd.2.1
        have HBW := Lib.hid (HB8.out.trans (HB.out.mono HB8.out.size))
        have DP := Lib.hid (decode_any xa xn xc d wr HXD.out hxn (HE.out.below HBW.out) hxl)
        have DR := Lib.hid (fun W (h : Below wr.heap.size wr W) => rdecode_any xa xn xc d W (HXD.out.below h).2 HXD.out.1 (by omega))
        rw [rd_dec (by omega)] at DR
        have hii : (i : Int) < 3 := by omega
        clear hcx hxd
        obtain ⟨⟨v, nn, ok⟩, hP⟩ : ∃ p, rdP (decV d) = p := ⟨_, rfl⟩
        obtain ⟨v1, v2, cs1⟩ := v
        go_upto_region 20 with fail
        obtain ⟨wo, rfl⟩ : ∃ wo : World, wo = wr := ⟨_, rfl⟩
        go_upto_region 21 with (go_at_call 18; refine DP.out.mono ?_; refine fun en w9 h9 => ?_; obtain ⟨q0, q1, q2, rfl, hv9, hb9⟩ := rd_vals h9; rw [hP])
        rw [hP] at hv9
        have HBX := Lib.hid (BX.mk0 (vs := #[.int .i64 v1, .int .i64 v2, .slice q0 q1 q2]) (T := 24) w9)
        have HV9 := Lib.hid (hv9.below HBX.out.bl)
        have HB9 := Lib.hid (below3 hb9 HBX.out.bl)
        clear hb9 hv9
        generalize w9.alloc (.cells #[.int .i64 v1, .int .i64 v2, .slice q0 q1 q2] 24) = w10 at *
        generalize w9.heap.size = g1 at *
        go_upto_region 22 with (go_at_call 23; refine (DR.out _ HB9.out).mono ?_; refine fun en w11 h11 => ?_; obtain ⟨p0, p1, p2, rfl, hv11, hb11⟩ := rd_vals h11; rw [hP])
        rw [hP] at hv11
        have HBY := Lib.hid (BX.mk0 (vs := #[.int .i64 v1, .int .i64 v2, .slice p0 p1 p2]) (T := 24) w11)
        have HV11 := Lib.hid (hv11.below HBY.out.bl)
        have hb1011 := below3 hb11 HBY.out.bl
        have HBX2 := Lib.hid (HBX.out.next hb1011)
        have HV9b := Lib.hid (HV9.out.below hb1011)
        have HB11 := Lib.hid (below3 HB9.out hb1011)
        clear hb11 hv11 hb1011 HBX HV9 HB9 DP DR
        generalize w11.alloc (.cells #[.int .i64 v1, .int .i64 v2, .slice p0 p1 p2] 24) = w12 at *
        generalize w11.heap.size = g2 at *
        have c10 : w12.cell? ⟨g1, 0, none⟩ = some (.int .i64 v1) := HBX2.out.cell 0
        have c11 : w12.cell? ⟨g1, 1, none⟩ = some (.int .i64 v2) := HBX2.out.cell 1
        have c12 : w12.cell? ⟨g1, 2, none⟩ = some (.slice q0 q1 q2) := HBX2.out.cell 2
        have hal1 : Below w12.heap.size w12 (w12.alloc (.cells #[.int .i64 v1, .int .i64 v2, .slice q0 q1 q2] 24)) := (Below.refl _ _).alloc (Nat.le_refl _) _
        have HBY2 := Lib.hid (HBY.out.next hal1)
        have c20 : (w12.alloc (.cells #[.int .i64 v1, .int .i64 v2, .slice q0 q1 q2] 24)).cell? ⟨g2, 0, none⟩ = some (.int .i64 v1) := HBY2.out.cell 0
        have c21 : (w12.alloc (.cells #[.int .i64 v1, .int .i64 v2, .slice q0 q1 q2] 24)).cell? ⟨g2, 1, none⟩ = some (.int .i64 v2) := HBY2.out.cell 1
        have c22 : (w12.alloc (.cells #[.int .i64 v1, .int .i64 v2, .slice q0 q1 q2] 24)).cell? ⟨g2, 2, none⟩ = some (.slice p0 p1 p2) := HBY2.out.cell 2
        have hal2 : Below (w12.alloc (.cells #[.int .i64 v1, .int .i64 v2, .slice q0 q1 q2] 24)).heap.size (w12.alloc (.cells #[.int .i64 v1, .int .i64 v2, .slice q0 q1 q2] 24)) ((w12.alloc (.cells #[.int .i64 v1, .int .i64 v2, .slice q0 q1 q2] 24)).alloc (.cells #[.int .i64 v1, .int .i64 v2, .slice p0 p1 p2] 24)) := (Below.refl _ _).alloc (Nat.le_refl _) _
        have k1 : VAt (w12.alloc (.cells #[.int .i64 v1, .int .i64 v2, .slice q0 q1 q2] 24)) (some ⟨w12.heap.size, 0, none⟩) 1 [(v1, v2, cs1)] := ⟨[(v1, v2, (q0, q1, q2))], KAt.one (f := rveC) (k := 3) w12 (v1, v2, (q0, q1, q2)) _, All2.snoc (xs := []) (ys := []) (All2.nil _) ⟨rfl, rfl, HV9b.out.below hal1⟩⟩
        have k2 : VAt ((w12.alloc (.cells #[.int .i64 v1, .int .i64 v2, .slice q0 q1 q2] 24)).alloc (.cells #[.int .i64 v1, .int .i64 v2, .slice p0 p1 p2] 24)) (some ⟨(w12.alloc (.cells #[.int .i64 v1, .int .i64 v2, .slice q0 q1 q2] 24)).heap.size, 0, none⟩) 1 [(v1, v2, cs1)] := ⟨[(v1, v2, (p0, p1, p2))], KAt.one (f := rveC) (k := 3) _ (v1, v2, (p0, p1, p2)) _, All2.snoc (xs := []) (ys := []) (All2.nil _) ⟨rfl, rfl, (HV11.out.below hal1).below hal2⟩⟩
        have SV := Lib.hid (rsameV_any _ 1 1 _ 1 1 _ _ _ (k1.below hal2) k2)
        have HB14 := Lib.hid (below3 (below3 HB11.out hal1) hal2)
        clear hal1 hal2 k1 k2
        have hdd : decide ([((v1, v2, cs1) : Ver)] = [(v1, v2, cs1)]) = true := by simp
        rw [hdd] at SV
        have hsz : (w12.alloc (.cells #[.int .i64 v1, .int .i64 v2, .slice q0 q1 q2] 24)).heap.size = w12.heap.size + 1 := by simp
        rw [hsz] at SV
        have e1 : (ok != ok) = false := bne_self_eq_false _
        have e2 : (nn != nn) = false := bne_self_eq_false _
        clear hsz hdd
        have HBW8 := Lib.hid (HB.out)
        go_wp2_with (go_at_call 19; refine SV.out.mono ?_; rintro e w15 ⟨rfl, hq15⟩; have hb15 := drew_bel hq15)
        have HB15 := Lib.hid (below3 HB14.out hb15)
        clear SV HB14 hb15 hq15 c10 c11 c12 c20 c21 c22
        go_roundw
        case rel => exact ⟨i + 1, by omega, by go_num, Lib.hid (below3 HBW8.out HB15.out)⟩
        case measure => simp [intOf]; omega
      · have hni : ¬ (i : Int) < 3 := by omega
        have HBW := Lib.hid (HB8.out.trans (HB.out.mono HB8.out.size))
        go_wp2_with (go_at_call 13; refine (AW.out _ HBW.out).mono ?_; rintro e w' ⟨rfl, hb⟩)
        go_ret
        exact ⟨rfl, HBW.out.trans (hb.mono HBW.out.size)⟩
end Go.Proofs.YtihbpggbpapcfaaGreatDoor
