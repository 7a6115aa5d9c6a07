/- Texts V18, V19, joined: walks and laws for the versions. -/
import Derived.BigQuiet
import Derived.Deep.DeepCutAuto
import Derived.Deep.RegionHeld3
import Derived.Shelf.Spec.TrailingZeros
import Derived.Sort.Grow
import Derived.Test.YtihbpggbpapcfaaGreatDoorM06
namespace Go.Proofs.YtihbpggbpapcfaaGreatDoor
open Go.RowKit

theorem not_ofInt (x : Int) : BitVec.ofInt 64 (-x - 1) = ~~~ BitVec.ofInt 64 x := by
  apply BitVec.eq_of_toNat_eq
  rw [BitVec.toNat_not, BitVec.toNat_ofInt, BitVec.toNat_ofInt]
  omega
theorem andNot_compl (a m : Int) : bits .andNot .i64 a m = bits .and .i64 a (-m - 1) := by
  show IntKind.i64.wrap (((BitVec.ofInt 64 a &&& ~~~ BitVec.ofInt 64 m).toNat : Nat) : Int) = IntKind.i64.wrap (((BitVec.ofInt 64 a &&& BitVec.ofInt 64 (-m - 1)).toNat : Nat) : Int)
  rw [not_ofInt]
def inW (m : Int) (s : Ses) : Ses := (s.1, bits .and .i64 s.2.1 m, s.2.2)
def mskS (m : Int) (xs : List Ses) : List Ses := (xs.map (inW m)).filter (fun s => s.2.1 != 0)
theorem mskS_hit {m : Int} {xs : List Ses} {j : Nat} {s : Ses} (h : xs[j]? = some s) (he : (bits .and .i64 s.2.1 m != 0) = true) : mskS m (xs.take (j + 1)) = mskS m (xs.take j) ++ [inW m s] := by
  unfold mskS; rw [List.take_add_one, h]; simp [inW, he]
theorem mskS_miss {m : Int} {xs : List Ses} {j : Nat} {s : Ses} (h : xs[j]? = some s) (he : (bits .and .i64 s.2.1 m != 0) = false) : mskS m (xs.take (j + 1)) = mskS m (xs.take j) := by
  unfold mskS; rw [List.take_add_one, h]; simp [inW, he]
theorem mskS_len (m : Int) (xs : List Ses) : (mskS m xs).length ≤ xs.length := by
  unfold mskS; exact Nat.le_trans (List.length_filter_le _ _) (by simp)
def firstW (w : Int) : Int := 2 ^ (w - 1).toNat - 1
def spcS (n w : Int) (old rest : List Ses) : Int × List Ses :=
  if vldS old n ≠ 0 then (vldS old n, []) else if vldS rest n ≠ 0 then (vldS rest n, []) else if w < 1 ∨ n + 1 < w then (3, []) else nrmS n (mskS (firstW w) old ++ mskS (-(firstW w) - 1) rest)

def idxC (out : List L8) (c : L8) : Nat := out.findIdx (fun x => !Op.bytesLess x c)
def insC (out : List L8) (c : L8) : List L8 := if out[idxC out c]? = some c then out else out.take (idxC out c) ++ [c] ++ out.drop (idxC out c)
def clsL (xs : List L8) : List L8 := xs.foldl insC []
theorem clsL_take {xs : List L8} {j : Nat} {c : L8} (h : xs[j]? = some c) : clsL (xs.take (j + 1)) = insC (clsL (xs.take j)) c := by
  rw [List.take_add_one, h]; simp [clsL, List.foldl_append]
theorem cls_unique {xs ys : List L8} (hx : xs.Pairwise (· < ·)) (hy : ys.Pairwise (· < ·)) (h : ∀ k, k ∈ xs ↔ k ∈ ys) : xs = ys := by
  have nd : ∀ {zs : List L8}, zs.Pairwise (· < ·) → zs.Nodup := fun hz => hz.imp (fun hlt he => by subst he; exact absurd hlt (List.lt_irrefl _))
  refine List.Perm.eq_of_pairwise (le := (· < ·)) ?_ hx hy ((List.perm_ext_iff_of_nodup (nd hx) (nd hy)).2 h)
  intro a b _ _ h1 h2
  exact absurd (List.lt_trans h1 h2) (List.lt_irrefl _)
theorem idxC_spec (out : List L8) (c : L8) (ho : out.Pairwise (· < ·)) :
    (∀ i (h : i < out.length), i < idxC out c → out[i] < c) ∧ (∀ i (h : i < out.length), idxC out c ≤ i → c ≤ out[i]) ∧ idxC out c ≤ out.length := by
  have hle : idxC out c ≤ out.length := List.findIdx_le_length
  refine ⟨fun i h hi => ?_, fun i h hi => ?_, hle⟩
  · have := List.not_of_lt_findIdx (p := fun x => !Op.bytesLess x c) (xs := out) hi
    rw [bytesLess_lt] at this
    simpa using this
  · have hk : idxC out c < out.length := by omega
    have h2 := List.findIdx_getElem (p := fun x => !Op.bytesLess x c) (xs := out) (w := hk)
    rw [bytesLess_lt] at h2
    have h2' : ¬ out[idxC out c] < c := by
      intro h; unfold idxC at h; rw [decide_eq_true h] at h2; cases h2
    have h3 : c ≤ out[idxC out c] := List.not_lt.1 h2'
    rcases Nat.lt_or_ge (idxC out c) i with h4 | h4
    · have h5 := List.pairwise_iff_getElem.1 ho _ i hk h h4
      exact List.le_trans h3 (List.le_of_lt h5)
    · have : i = idxC out c := by omega
      subst this; exact h3
theorem insC_ok {out : List L8} {c : L8} (ho : out.Pairwise (· < ·)) : (insC out c).Pairwise (· < ·) ∧ ∀ k, k ∈ insC out c ↔ (k ∈ out ∨ k = c) := by
  obtain ⟨h1, h2, h3⟩ := idxC_spec out c ho
  unfold insC
  generalize idxC out c = q at *
  by_cases he : out[q]? = some c
  · rw [if_pos he]
    have hm : c ∈ out := List.mem_of_getElem? he
    refine ⟨ho, fun k => ⟨Or.inl, ?_⟩⟩
    rintro (h | rfl)
    · exact h
    · exact hm
  · rw [if_neg he]
    constructor
    · rw [List.append_assoc, List.pairwise_append]
      refine ⟨ho.sublist (List.take_sublist _ _), ?_, ?_⟩
      · rw [List.singleton_append, List.pairwise_cons]
        refine ⟨fun t ht => ?_, ho.sublist (List.drop_sublist _ _)⟩
        obtain ⟨i, hi, rfl⟩ := List.getElem_of_mem ht
        rw [List.length_drop] at hi
        rw [List.getElem_drop]
        have hc : c ≤ out[q + i] := h2 (q + i) (by omega) (by omega)
        rcases Nat.eq_zero_or_pos i with h0 | h0
        · subst h0
          have hne : out[q + 0] ≠ c := fun h => he (by rw [List.getElem?_eq_getElem (by omega)]; exact congrArg some h)
          exact List.not_le.1 (fun h => hne (List.le_antisymm h hc))
        · have hq : c ≤ out[q] := h2 q (by omega) (Nat.le_refl _)
          have hlt := List.pairwise_iff_getElem.1 ho q (q + i) (by omega) (by omega) (by omega)
          exact List.not_le.1 (fun h => by
            have := List.le_antisymm (List.le_trans h hq) (List.le_of_lt hlt)
            rw [this] at hlt; exact List.lt_irrefl _ hlt)
      · intro a ha b hb
        obtain ⟨i, hi, rfl⟩ := List.getElem_of_mem ha
        rw [List.length_take] at hi
        rw [List.getElem_take]
        have hac : out[i] < c := h1 i (by omega) (by omega)
        rw [List.singleton_append, List.mem_cons] at hb
        rcases hb with rfl | hb
        · exact hac
        · obtain ⟨p, hp, rfl⟩ := List.getElem_of_mem hb
          rw [List.length_drop] at hp
          rw [List.getElem_drop]
          exact List.pairwise_iff_getElem.1 ho i (q + p) (by omega) (by omega) (by omega)
    · intro k
      rw [List.mem_append, List.mem_append, List.mem_singleton]
      conv => rhs; rw [← List.take_append_drop q out, List.mem_append]
      constructor
      · rintro ((h | h) | h)
        · exact Or.inl (Or.inl h)
        · exact Or.inr h
        · exact Or.inl (Or.inr h)
      · rintro ((h | h) | h)
        · exact Or.inl (Or.inl h)
        · exact Or.inr h
        · exact Or.inl (Or.inr h)
theorem clsL_ok : ∀ (xs out : List L8), out.Pairwise (· < ·) → (xs.foldl insC out).Pairwise (· < ·) ∧ ∀ k, k ∈ xs.foldl insC out ↔ (k ∈ out ∨ k ∈ xs)
  | [], out, h => ⟨h, fun k => by simp⟩
  | c :: xs, out, h => by
    obtain ⟨a, b⟩ := insC_ok (c := c) h
    obtain ⟨p, q⟩ := clsL_ok xs (insC out c) a
    refine ⟨p, fun k => ?_⟩
    rw [List.foldl_cons, q, b, List.mem_cons]
    constructor
    · rintro ((h | h) | h)
      · exact Or.inl h
      · exact Or.inr (Or.inl h)
      · exact Or.inr (Or.inr h)
    · rintro (h | h | h)
      · exact Or.inl (Or.inl h)
      · exact Or.inl (Or.inr h)
      · exact Or.inr h
theorem clsL_sorted (xs : List L8) : (clsL xs).Pairwise (· < ·) := (clsL_ok xs [] List.Pairwise.nil).1
theorem clsL_mem (xs : List L8) (k : L8) : k ∈ clsL xs ↔ k ∈ xs := by
  have h := (clsL_ok xs [] List.Pairwise.nil).2 k
  unfold clsL
  rw [h]; simp
theorem clsL_eq {xs ys : List L8} (hy : ys.Pairwise (· < ·)) (h : ∀ k, k ∈ ys ↔ k ∈ xs) : ys = clsL xs := cls_unique hy (clsL_sorted xs) (fun k => by rw [h, clsL_mem])
theorem insC_len (out : List L8) (c : L8) : (insC out c).length ≤ out.length + 1 := by
  unfold insC; split
  · omega
  · simp only [List.length_append, List.length_take, List.length_drop, List.length_cons, List.length_nil]; omega
theorem clsL_len : ∀ (xs out : List L8), (xs.foldl insC out).length ≤ out.length + xs.length
  | [], out => by simp
  | c :: xs, out => by
    have h1 := clsL_len xs (insC out c)
    have h2 := insC_len out c
    rw [List.foldl_cons, List.length_cons]; omega
end Go.Proofs.YtihbpggbpapcfaaGreatDoor

namespace Go.Proofs.YtihbpggbpapcfaaGreatDoor
open Go.RowKit

structure Gr (w w' : World) : Prop where
  bl : Below w.heap.size w w'
  dr : w.drawn ≤ w'.drawn
theorem Gr.refl (w : World) : Gr w w := ⟨Below.refl _ _, Nat.le_refl _⟩
theorem Gr.trans {a b c : World} (h : Gr a b) (g : Gr b c) : Gr a c := ⟨below3 h.bl g.bl, Nat.le_trans h.dr g.dr⟩
theorem Gr.alloc {a b : World} (h : Gr a b) (o : Obj) : Gr a (b.alloc o) := ⟨h.bl.alloc h.bl.size o, h.dr⟩
theorem Gr.drewN {a b : World} (h : Gr a b) (n : Nat) : Gr a (b.drewN n) := ⟨below3 h.bl (below_drewN _ _), Nat.le_trans h.dr (Nat.le_add_right _ _)⟩
theorem Gr.drew {a b : World} (h : Gr a b) : Gr a b.drew := ⟨below3 h.bl (bel_drew0 _), Nat.le_trans h.dr (Nat.le_add_right _ _)⟩
theorem Gr.eq {w w' : World} (h : Gr w w') : ∃ q os, w' = Go.Sort.grow (w.drewN q) os := by
  obtain ⟨⟨h1, h2, h3, h4, h5⟩, h6⟩ := h
  refine ⟨w'.drawn - w.drawn, w'.heap.extract w.heap.size w'.heap.size, ?_⟩
  have hh : w'.heap = w.heap ++ w'.heap.extract w.heap.size w'.heap.size := by
    apply Array.ext_getElem?
    intro i
    rcases Nat.lt_or_ge i w.heap.size with h | h
    · rw [h5 i h, Array.getElem?_append_left h]
    · rw [Array.getElem?_append_right h, Array.getElem?_extract]
      split
      · congr 1; omega
      · rw [Array.getElem?_eq_none (by omega)]
  cases w'; cases w
  simp only [Go.Sort.grow, World.drewN] at *
  subst h1 h2 h3
  congr 1
  omega

def Tz (w : World) : Prop := ∀ j, j < 64 → w.cell? ⟨4, j, none⟩ = some (.int .u8 (Lib.deBruijn64tab.getD j 0 : Nat))
theorem Tz.below {w w' : World} (h : Tz w) (hb : Below w.heap.size w w') : Tz w' := fun j hj => by
  have hc := h j hj
  rw [hb.cell (lt_of_cell hc)]; exact hc

set_option maxHeartbeats 1000000 in
theorem tz64_core (x k idx : Nat) (w : World) (hx0 : ((x : Int) == 0) = false)
    (key : IntKind.u64.wrap (bits BinOp.and IntKind.u64 (x : Int) (IntKind.u64.wrap (-(x : Int))) * 285870213051353865) / 288230376151711744 = (idx : Int))
    (hi : idx < 64) (hk : k < 64) (hcell : w.cell? ⟨4, idx, none⟩ = some (.int .u8 k)) :
    Calls Tryz.prog 173 #[.int .u64 x] w (RetS (.int .i64 k) w) := by
  go_enter Tryz.func173, Tryz.ntmps173
  go_wp2_with (simp only [key])
  go_ret
  exact ⟨rfl, rfl⟩
theorem tz64_zero (w : World) : Calls Tryz.prog 173 #[.int .u64 0] w (RetS (.int .i64 64) w) := by
  go_enter Tryz.func173, Tryz.ntmps173
  go_wp2
  go_ret
  exact ⟨rfl, rfl⟩
theorem tz_any (x : Nat) (hx : x < 18446744073709551616) (w : World) (hT : Tz w) :
    Calls Tryz.prog 145 #[.int .u64 x] w (RetS (.int .i64 (Lib.ctz 64 x : Nat)) w) := by
  have c64 : Calls Tryz.prog 173 #[.int .u64 x] w (RetS (.int .i64 (Lib.ctz 64 x : Nat)) w) := by
    by_cases hx0 : x = 0
    · subst hx0
      exact tz64_zero w
    · obtain ⟨hlow, hk⟩ := Lib.lowest_bit 64 x hx0 hx
      obtain ⟨hi, htab⟩ := Lib.deBruijn64_at _ hk
      have hcell := hT _ hi
      rw [htab] at hcell
      exact tz64_core x _ _ w (by simp; omega) (tz64_key x _ hx hx0 hlow) hi hk hcell
  have hw : IntKind.u64.wrap (x : Int) = (x : Int) := by rw [IntKind.wrap_u64]; omega
  have C := Lib.hid c64
  clear c64 hT
  generalize Lib.ctz 64 x = k at *
  go_enter Tryz.func145, Tryz.ntmps145
  go_wp2_with fail
  refine C.out.mono ?_
  rintro e w1 ⟨rfl, hw1⟩
  subst hw1
  go_wp2_with fail
  go_ret
  exact ⟨rfl, rfl⟩
theorem ctz_le (x : Nat) (hx : x < 18446744073709551616) : Lib.ctz 64 x ≤ 64 := by
  by_cases h : x = 0
  · subst h; exact Nat.le_refl _
  · exact Nat.le_of_lt (Lib.lowest_bit 64 x h hx).2

def datV (s : Ses) : Value := .agg #[.string (arr s.1), .int .i64 s.2.1, .int .i64 s.2.2.1, .int .i64 s.2.2.2.1, .int .i64 s.2.2.2.2.1, .string (arr s.2.2.2.2.2), .int .i64 (lowP s.2.1)]
theorem datE (cl : L8) (wk dy st ln : Int) (rm : L8) (k : Int) (h : lowP wk = k) : datV (cl, wk, dy, st, ln, rm) = .agg #[.string (arr cl), .int .i64 wk, .int .i64 dy, .int .i64 st, .int .i64 ln, .string (arr rm), .int .i64 k] := by
  subst h; rfl

set_option maxRecDepth 100000 in
set_option maxHeartbeats 2000000 in
theorem date_any (cl : L8) (wk dy st ln : Int) (rm : L8) (w : World) (hT : Tz w) :
    Calls Tryz.prog 111 #[sesV cl wk dy st ln rm] w (fun e w' => e = .returned (datV (cl, wk, dy, st, ln, rm)) ∧ Gr w w') := by
  obtain ⟨x, hx, hxb⟩ : ∃ x : Nat, IntKind.u64.wrap wk = (x : Int) ∧ x < 18446744073709551616 := by
    refine ⟨(IntKind.u64.wrap wk).toNat, ?_, ?_⟩ <;> rw [IntKind.wrap_u64] <;> omega
  have hk := ctz_le x hxb
  have HT := Lib.hid hT
  have C := Lib.hid (fun (W : World) (hb : Below w.heap.size w W) => tz_any x hxb W (HT.out.below hb))
  have HD := Lib.hid (datE cl wk dy st ln rm ((Lib.ctz 64 x : Nat) + 1) (by unfold lowP; rw [hx]; simp))
  clear hT
  generalize Lib.ctz 64 x = k at *
  go_enter Tryz.func111, Tryz.ntmps111
  have GB := Lib.hid (fun (A B : Obj) => (((Gr.refl w).alloc A).alloc B).drew.bl)
  have GG := Lib.hid (fun (A B : Obj) => (((Gr.refl w).alloc A).alloc B).drew)
  have hwk : IntKind.i64.wrap ((k : Int) + 1) = (k : Int) + 1 := IntWalk.i64_in _ (by omega)
  go_wp2_with fail
  go_region_held3 (fun w' => w'.cell? ⟨w.heap.size, 0, none⟩ = some (.string (arr cl)) ∧ w'.cell? ⟨w.heap.size, 1, none⟩ = some (.int .i64 wk) ∧ w'.cell? ⟨w.heap.size, 2, none⟩ = some (.int .i64 dy) ∧ w'.cell? ⟨w.heap.size, 3, none⟩ = some (.int .i64 st) ∧ w'.cell? ⟨w.heap.size, 4, none⟩ = some (.int .i64 ln) ∧ w'.cell? ⟨w.heap.size, 5, none⟩ = some (.string (arr rm))) (go_keep) ((go_at_call 145; refine (C.out _ (GB.out _ _)).mono ?_; rintro e9 w9 ⟨rfl, hw9⟩; replace hw9 := hw9.symm; subst hw9))
  go_wp2_with fail
  refine bodyPost_ret (v := .agg #[.string (arr cl), .int .i64 wk, .int .i64 dy, .int .i64 st, .int .i64 ln, .string (arr rm), .int .i64 ((k : Int) + 1)]) (by simp [results, Tryz.results111, go_sem]) rfl ⟨by rw [HD.out], GG.out _ _⟩

theorem cmpI_any (x y : Int) (w : World) : Calls Tryz.prog 144 #[.int .i64 x, .int .i64 y] w (RetS (.int .i64 (cmpI x y)) w) := by
  rcases Int.lt_trichotomy x y with h | h | h
  · have HF : Hid (cmpI x y = -1) := Lib.hid (by unfold cmpI; rw [if_pos h])
    go_enter Tryz.func144, Tryz.ntmps144
    go_wp2
    go_ret
    exact ⟨ret_int (by rw [HF.out]), rfl⟩
  · subst h
    have HF : Hid (cmpI x x = 0) := Lib.hid (by unfold cmpI; rw [if_neg (by omega), if_pos rfl])
    go_enter Tryz.func144, Tryz.ntmps144
    go_wp2
    go_ret
    exact ⟨ret_int (by rw [HF.out]), rfl⟩
  · have HF : Hid (cmpI x y = 1) := Lib.hid (by unfold cmpI; rw [if_neg (by omega), if_neg (by omega)])
    go_enter Tryz.func144, Tryz.ntmps144
    go_wp2
    go_ret
    exact ⟨ret_int (by rw [HF.out]), rfl⟩

theorem ints2 {W : World} {b : Nat} {x y : Int} (h0 : W.cell? ⟨b, 0, none⟩ = some (.int .i64 x)) (h1 : W.cell? ⟨b, 1, none⟩ = some (.int .i64 y)) : IntsAt W (some ⟨b, 0, none⟩) 2 [x, y] := by
  refine ⟨rfl, by omega, Or.inr ⟨b, 0, rfl, fun i hi => ?_⟩⟩
  match i, hi with
  | 0, _ => exact h0
  | 1, _ => exact h1

theorem cellN (w : World) (A B : Obj) (x y : Value) (T : TypeId) (i : Nat) : (((w.alloc A).alloc B).alloc (.cells #[x, y] T)).drew.cell? ⟨w.heap.size + 1 + 1, i, none⟩ = #[x, y][i]? := by
  have e := heap_alloc_new ((w.alloc A).alloc B) (.cells #[x, y] T)
  rw [show ((w.alloc A).alloc B).heap.size = w.heap.size + 1 + 1 by simp] at e
  show World.cell? (((w.alloc A).alloc B).alloc (.cells #[x, y] T)) ⟨w.heap.size + 1 + 1, i, none⟩ = _
  rw [Lib.cell_of_heap e]

set_option maxRecDepth 100000 in
set_option maxHeartbeats 2000000 in
theorem order_any (s t : Ses) (w : World) : Calls Tryz.prog 110 #[datV s, datV t] w (fun e w' => e = .returned (.int .i64 (ordP s t)) ∧ Gr w w') := by
  obtain ⟨cl, wk, dy, st, ln, rm⟩ := s
  obtain ⟨cl', wk', dy', st', ln', rm'⟩ := t
  have HO : Hid (ordP (cl, wk, dy, st, ln, rm) (cl', wk', dy', st', ln', rm') = orI [cmpS cl cl', cmpI (lowP wk) (lowP wk')]) := Lib.hid rfl
  have GG := Lib.hid (fun (A B C : Obj) => (((Gr.refl w).alloc A).alloc B).drew.alloc C)
  have G2 := Lib.hid (fun (A B C : Obj) => ((((Gr.refl w).alloc A).alloc B).alloc C).drew)
  have CS := Lib.hid (fun W => cmpS_any cl cl' W)
  have CI := Lib.hid (fun W => cmpI_any (lowP wk) (lowP wk') W)
  have CO := Lib.hid (fun (W : World) (b : Nat) (h0 : W.cell? ⟨b, 0, none⟩ = some (.int .i64 (cmpS cl cl'))) (h1 : W.cell? ⟨b, 1, none⟩ = some (.int .i64 (cmpI (lowP wk) (lowP wk')))) => or_any (some ⟨b, 0, none⟩) 2 2 [cmpS cl cl', cmpI (lowP wk) (lowP wk')] W (ints2 h0 h1))
  rw [← HO.out] at CO
  rw [datE cl wk dy st ln rm _ rfl, datE cl' wk' dy' st' ln' rm' _ rfl]
  generalize lowP wk = k at *
  generalize lowP wk' = k' at *
  generalize cmpS cl cl' = c1 at *
  generalize cmpI k k' = c2 at *
  generalize ordP (cl, wk, dy, st, ln, rm) (cl', wk', dy', st', ln', rm') = r at *
  clear HO
  go_enter Tryz.func110, Tryz.ntmps110
  go_wp2_with fail
  go_region_held3 (fun w' => w'.cell? ⟨w.heap.size, 0, none⟩ = some (.string (arr cl)) ∧ w'.cell? ⟨w.heap.size, 6, none⟩ = some (.int .i64 k) ∧ w'.cell? ⟨w.heap.size + 1, 0, none⟩ = some (.string (arr cl')) ∧ w'.cell? ⟨w.heap.size + 1, 6, none⟩ = some (.int .i64 k')) (go_keep) (first | (go_at_call 143; refine (CS.out _).mono ?_; rintro e9 w9 ⟨rfl, hw9⟩; replace hw9 := hw9.symm; subst hw9) | (go_at_call 144; refine (CI.out _).mono ?_; rintro e9 w9 ⟨rfl, hw9⟩; replace hw9 := hw9.symm; subst hw9) | (go_at_call 142; refine (CO.out _ _ (cellN _ _ _ _ _ _ 0) (cellN _ _ _ _ _ _ 1)).mono ?_; rintro e9 w9 ⟨rfl, hw9⟩; replace hw9 := hw9.symm; subst hw9))
  all_goals (
    go_wp2_with fail
    go_ret
    exact ⟨rfl, by first | exact G2.out _ _ _ | exact GG.out _ _ _⟩)
end Go.Proofs.YtihbpggbpapcfaaGreatDoor
