/- Texts V33, V34, V36, ShelfH, V64, ShelfG, joined: walks and laws. -/
import Derived.Ground.Names2Prog
import Derived.Ground.SlbtProg
import Derived.Ground.SlgfProg
import Derived.Ground.SlgnProg
import Derived.Ground.SlsfProg
import Derived.Shelf.LaysC
import Derived.Shelf.LaysM
import Derived.Shelf.SlGeneric
import Derived.Shelf.SlSortCmp.WholeK
import Derived.Shelf.Slices.CompactS
import Derived.Shelf.Slices.In.SortNone
import Derived.Shelf.SlicesE.Clone
import Derived.Shelf.SlicesQ.IndexFunc
import Derived.Shelf.Sort.Plain
import Derived.Sort.OwnSorted
import Derived.Test.YtcifdllbnbhcdaaGreatDoorMV04
import Derived.Test.YtcifdllbnbhcdaaGreatDoorMV05
import Derived.Test.YtcifdllbnbhcdaaGreatDoorProg
set_option linter.unusedSimpArgs false
set_option linter.unusedVariables false
namespace Go.Proofs.YtcifdllbnbhcdaaGreatDoor
open Go.RowKit
theorem new_drew (w : World) (o : Obj) (k : Nat) : Below w.heap.size w ((w.alloc o).drewN k) := below3 ((Below.refl _ _).alloc (Nat.le_refl _) o) (below_drewN _ _)
set_option maxRecDepth 100000 in
set_option maxHeartbeats 4000000 in
theorem ordC_any (a : Option Addr) (n c : Nat) (cs : List Chg) (w : World) (hx : HAt w a n cs) :
    Calls Tryz.prog 360 #[.slice a n c] w (RetB (.bool (ordC none cs)) w) := by
  have n1 := hx.len.2
  have hl := hx.len.1
  have HX := Lib.hid hx
  clear hx
  go_enter Tryz.func360, Tryz.ntmps360
  go_wp2_with fail
  go_loopw [7] (fun i wr => ∃ j : Nat, j ≤ n ∧ i = .int .i64 j ∧ Hid (ordC (prevK cs j) (cs.drop j) = ordC none cs) ∧ Hid (Below w.heap.size w wr)) (fun i _ => n - (intOf i).toNat)
  case atStart => exact ⟨0, by omega, rfl, Lib.hid rfl, Lib.hid (Below.refl _ _)⟩
  case round =>
    obtain ⟨j, hj, rfl, HO, HB⟩ := hrel
    by_cases hlt : j < n
    · obtain ⟨b1, o1, x, p, q, rfl, g1, z1, x0, x1, x2, sp, sq⟩ := HAt.cells (HX.out.below HB.out) hlt
      have HD := Lib.hid (ordC_drop g1)
      have SQ := Lib.hid (fun k => equalq_any p.1 p.2.1 p.2.2 q.1 q.2.1 q.2.2 x.2.1 x.2.2 ((wr.alloc (.cells #[.string (arr x.1), .slice p.1 p.2.1 p.2.2, .slice q.1 q.2.1 q.2.2] 161)).drewN k) (sp.2.below (new_drew _ _ _)) (sq.2.below (new_drew _ _ _)))
      have k1 : (j : Int) < n := by omega
      have k2 : (0 : Int) ≤ j := by omega
      clear g1 sp sq
      have z1 := z1
      generalize decide (x.2.1 = x.2.2) = de at *
      go_upto_region 4 with fail
      go_cut [31] (fun s31 wx => s31 = .bool (!(aftK (prevK cs j) x.1 && !de)) ∧ Below wr.heap.size wr wx)
      case first =>
        cases j with
        | zero =>
          have HA : Hid (aftK (prevK cs 0) x.1 = true) := Lib.hid rfl
          rw [show ((0 : Nat) : Int) = 0 from rfl]
          simp only [Nat.zero_mul, Nat.add_zero] at x0 x1 x2
          have k1 : (0 : Int) < n := by omega
          cases de
          all_goals
            go_quiet ((go_at_call 186; exact Calls.quiet_of (SQ.out _)))
            go_wp2_with fail
            go_meet
            exact ⟨by rw [HA.out]; rfl, new_drew _ _ _⟩
        | succ r =>
          obtain ⟨b2, o2, y, p2, q2, he, g2, z2, y0, _, _, _, _⟩ := HAt.cells (HX.out.below HB.out) (show r < n by omega)
          cases he
          have HA : Hid (aftK (prevK cs (r + 1)) x.1 = Op.bytesLess (arr y.1).toList (arr x.1).toList) := Lib.hid (by show aftK ((cs[r]?).map (·.1)) x.1 = _; rw [g2, arr_toList, arr_toList]; rfl)
          have ec : ((r + 1 : Nat) : Int) = (r : Int) + 1 := by omega
          rw [ec]
          clear ec g2
          have q1 : (r : Int) + 1 - 1 = (r : Int) := by omega
          have q2' : IntKind.i64.wrap ((r : Int) + 1 - 1) = (r : Int) := by rw [q1]; exact IntWalk.i64_in _ (by omega)
          have q8 : IntKind.i64.wrap (r : Int) = (r : Int) := IntWalk.i64_in _ (by omega)
          have q9 : (r : Int).toNat = r := by omega
          have q3 : ((r : Int) + 1).toNat = r + 1 := by omega
          have q4 : (r : Int) + 1 < n := by omega
          have q5 : (0 : Int) < (r : Int) + 1 := by omega
          have q51 : (0 : Int) ≤ (r : Int) + 1 := by omega
          have q6 : (r : Int) < n := by omega
          have q7 : (0 : Int) ≤ (r : Int) := by omega
          clear k1 k2
          rcases tri_str (arr y.1).toList (arr x.1).toList with ⟨hb, p1, p2⟩ | ⟨hb, p1, p2⟩ | ⟨hb, p1, p2⟩
          all_goals rw [hb] at HA
          · go_quiet (fail)
            go_wp2_with fail
            go_meet
            exact ⟨by rw [HA.out]; rfl, new_drew _ _ _⟩
          · go_quiet (fail)
            go_wp2_with fail
            go_meet
            exact ⟨by rw [HA.out]; rfl, new_drew _ _ _⟩
          · cases de
            all_goals
              go_quiet ((go_at_call 186; exact Calls.quiet_of (SQ.out _)))
              go_wp2_with fail
              go_meet
              exact ⟨by rw [HA.out]; rfl, new_drew _ _ _⟩
      case rest =>
        obtain ⟨rfl, hbz⟩ := hcut
        have HB2 := Lib.hid (below3 HB.out hbz)
        clear hbz
        cases hbb : (aftK (prevK cs j) x.1 && !de)
        · have HF : Hid (ordC none cs = false) := Lib.hid (by rw [← HO.out, HD.out, hbb]; rfl)
          go_wp2_with fail
          go_ret
          exact ⟨ret_bool (by rw [HF.out]), HB2.out⟩
        · have HO2 : Hid (ordC (prevK cs (j + 1)) (cs.drop (j + 1)) = ordC none cs) := Lib.hid (by rw [← HO.out, HD.out, hbb]; rfl)
          go_wp2_with fail
          go_roundw
          case rel => exact ⟨j + 1, by omega, by go_num, HO2, HB2⟩
          case measure => simp [intOf]; omega
    · obtain rfl : n = j := by omega
      have HF : Hid (ordC none cs = true) := Lib.hid (by rw [← HO.out]; exact ordC_end (by omega))
      go_wp2_with fail
      go_ret
      exact ⟨ret_bool (by rw [HF.out]), HB.out⟩
end Go.Proofs.YtcifdllbnbhcdaaGreatDoor
namespace Go.Proofs.YtcifdllbnbhcdaaGreatDoor
open Go.RowKit
theorem chgE_drop {l : List Ses} {cs : List Chg} {j : Nat} {x : Chg} (h : cs[j]? = some x) : chgE l (cs.drop j) = if x.2.1 ≠ ofS l x.1 then 62 else if (ofS x.2.2 x.1).length ≠ x.2.2.length then 1 else chgE l (cs.drop (j + 1)) := by
  obtain ⟨hj, rfl⟩ := List.getElem?_eq_some_iff.1 h
  rw [List.drop_eq_getElem_cons hj, chgE]
theorem flat_len_mul {α β : Type} (f : α → List β) (N : Nat) (h : ∀ x, (f x).length ≤ N) : ∀ xs : List α, (xs.flatMap f).length ≤ xs.length * N
  | [] => by simp
  | x :: xs => by
    have := flat_len_mul f N h xs
    have := h x
    rw [List.flatMap_cons, List.length_append, List.length_cons, Nat.add_mul]; omega
theorem flat_mem_le {cs : List Chg} : ∀ c ∈ cs, c.2.2.length ≤ (cs.flatMap (·.2.2)).length := by
  induction cs with
  | nil => intro c hc; simp at hc
  | cons d cs ih =>
    intro c hc
    rw [List.flatMap_cons, List.length_append]
    rcases List.mem_cons.1 hc with rfl | hc
    · omega
    · have := ih c hc; omega
end Go.Proofs.YtcifdllbnbhcdaaGreatDoor
namespace Go.Proofs.YtcifdllbnbhcdaaGreatDoor
open Go.RowKit
instance (a b : List Chg) : Decidable (a = b) := decLs decChg a b
instance (a b : Chg) : Decidable (a = b) := decChg a b
instance (a b : Ver) : Decidable (a = b) := decVer a b
end Go.Proofs.YtcifdllbnbhcdaaGreatDoor
namespace Go.Proofs
open Go.Shelf
def Tryz.lays190_ren : Go.Shelf.Ren := ⟨fun | 190 => 285 | 125 => 54 | 258 => 347 | 128 => 88 | 129 => 89 | 302 => 392 | 303 => 393 | 304 => 394 | 305 => 395 | 306 => 396 | 307 => 397 | 308 => 398 | 309 => 399 | 310 => 400 | 333 => 418 | 329 => 118 | 330 => 119 | 334 => 419 | 335 => 420 | 336 => 374 | 344 => 432 | n => n, fun | 31 => 49 | 9 => 9 | 3 => 3 | 46 => 122 | 0 => 0 | 51 => 175 | 53 => 177 | 4 => 4 | 183 => 169 | 182 => 168 | 131 => 91 | 5 => 5 | 218 => 227 | 222 => 231 | 228 => 337 | 229 => 338 | n => n, fun | n => n⟩
theorem Tryz.lays190 : Go.Proofs.Lays.n190 Tryz.prog Tryz.lays190_ren := {
  mixed := by kernel_rfl
  f125 := Tryz.func54.trans (congrArg some (by kernel_rfl))
  f128 := Tryz.func88.trans (congrArg some (by kernel_rfl))
  f129 := Tryz.func89.trans (congrArg some (by kernel_rfl))
  f190 := Tryz.func285.trans (congrArg some (by kernel_rfl))
  f258 := Tryz.func347.trans (congrArg some (by kernel_rfl))
  f302 := Tryz.func392.trans (congrArg some (by kernel_rfl))
  f303 := Tryz.func393.trans (congrArg some (by kernel_rfl))
  f304 := Tryz.func394.trans (congrArg some (by kernel_rfl))
  f305 := Tryz.func395.trans (congrArg some (by kernel_rfl))
  f306 := Tryz.func396.trans (congrArg some (by kernel_rfl))
  f307 := Tryz.func397.trans (congrArg some (by kernel_rfl))
  f308 := Tryz.func398.trans (congrArg some (by kernel_rfl))
  f309 := Tryz.func399.trans (congrArg some (by kernel_rfl))
  f310 := Tryz.func400.trans (congrArg some (by kernel_rfl))
  f329 := Tryz.func118.trans (congrArg some (by kernel_rfl))
  f330 := Tryz.func119.trans (congrArg some (by kernel_rfl))
  f333 := Tryz.func418.trans (congrArg some (by kernel_rfl))
  f334 := Tryz.func419.trans (congrArg some (by kernel_rfl))
  f335 := Tryz.func420.trans (congrArg some (by kernel_rfl))
  f336 := Tryz.func374.trans (congrArg some (by kernel_rfl))
  f344 := Tryz.func432.trans (congrArg some (by kernel_rfl))
  t0 := Tryz.underlying0
  a0 := Tryz.isAgg0
  z0 := Tryz.sizeOf0
  v0 := Tryz.zeroValue0
  t3 := Tryz.underlying3
  a3 := Tryz.isAgg3
  z3 := Tryz.sizeOf3
  v3 := Tryz.zeroValue3
  t4 := Tryz.underlying4
  a4 := Tryz.isAgg4
  z4 := Tryz.sizeOf4
  v4 := Tryz.zeroValue4
  t5 := Tryz.underlying5
  a5 := Tryz.isAgg5
  z5 := Tryz.sizeOf5
  v5 := Tryz.zeroValue5
  t9 := Tryz.underlying9
  a9 := Tryz.isAgg9
  z9 := Tryz.sizeOf9
  v9 := Tryz.zeroValue9
  t31 := Tryz.underlying49
  a31 := Tryz.isAgg49
  z31 := Tryz.sizeOf49
  v31 := Tryz.zeroValue49
  t46 := Tryz.underlying122
  a46 := Tryz.isAgg122
  z46 := Tryz.sizeOf122
  v46 := Tryz.zeroValue122
  t51 := Tryz.underlying175
  a51 := Tryz.isAgg175
  z51 := Tryz.sizeOf175
  v51 := Tryz.zeroValue175
  t53 := Tryz.underlying177
  a53 := Tryz.isAgg177
  z53 := Tryz.sizeOf177
  v53 := Tryz.zeroValue177
  t131 := Tryz.underlying91
  a131 := Tryz.isAgg91
  z131 := Tryz.sizeOf91
  v131 := Tryz.zeroValue91
  t182 := Tryz.underlying168
  a182 := Tryz.isAgg168
  z182 := Tryz.sizeOf168
  v182 := Tryz.zeroValue168
  t183 := Tryz.underlying169
  a183 := Tryz.isAgg169
  z183 := Tryz.sizeOf169
  v183 := Tryz.zeroValue169
  t218 := Tryz.underlying227
  a218 := Tryz.isAgg227
  z218 := Tryz.sizeOf227
  v218 := Tryz.zeroValue227
  t222 := Tryz.underlying231
  a222 := Tryz.isAgg231
  z222 := Tryz.sizeOf231
  v222 := Tryz.zeroValue231
  t228 := Tryz.underlying337
  a228 := Tryz.isAgg337
  z228 := Tryz.sizeOf337
  v228 := Tryz.zeroValue337
  t229 := Tryz.underlying338
  a229 := Tryz.isAgg338
  z229 := Tryz.sizeOf338
  v229 := Tryz.zeroValue338 }
open Go.Sort Go.RowKit in
theorem Tryz.slices_Sort_string (blk off cap : Nat) (ss : List (List UInt8)) (w : World) (hH : Holds encStr w blk off ss.toArray) (hblk : blk < w.heap.size) (hsz : ss.length < 4611686018427387904) :
    Calls Tryz.prog 285 #[.slice (some ⟨blk, off, none⟩) ss.length cap] w fun e w' =>
      e = .returned (.tuple #[]) ∧ ∃ n os, w' = grow (putRow encStr (Sort.ahead w n) blk off (ss.mergeSort fun x y => decide (x ≤ y)).toArray) os := Any.slices_Sort_string Tryz.lays190 blk off cap ss w hH hblk hsz
def Tryz.lays194_ren : Go.Shelf.Ren := ⟨fun | 194 => 379 | n => n, fun | 31 => 49 | 9 => 9 | 3 => 3 | 4 => 4 | 0 => 0 | n => n, fun | n => n⟩
theorem Tryz.lays194 : Go.Proofs.Lays.n194 Tryz.prog Tryz.lays194_ren := {
  mixed := by kernel_rfl
  f194 := Tryz.func379.trans (congrArg some (by kernel_rfl))
  t0 := Tryz.underlying0
  a0 := Tryz.isAgg0
  z0 := Tryz.sizeOf0
  v0 := Tryz.zeroValue0
  t3 := Tryz.underlying3
  a3 := Tryz.isAgg3
  z3 := Tryz.sizeOf3
  v3 := Tryz.zeroValue3
  t4 := Tryz.underlying4
  a4 := Tryz.isAgg4
  z4 := Tryz.sizeOf4
  v4 := Tryz.zeroValue4
  t9 := Tryz.underlying9
  a9 := Tryz.isAgg9
  z9 := Tryz.sizeOf9
  v9 := Tryz.zeroValue9
  t31 := Tryz.underlying49
  a31 := Tryz.isAgg49
  z31 := Tryz.sizeOf49
  v31 := Tryz.zeroValue49 }
open Go.RowKit Go.Lib Go.Sort in
theorem Tryz.slices_Compact_string (blk off cap : Nat) (zs : List (List UInt8)) (w : World) (hH : Holds encStr w blk off zs.toArray) (hsz : zs.length ≤ 9223372036854775807) (hcap : zs.length ≤ cap) :
    Calls Tryz.prog 379 #[.slice (some ⟨blk, off, none⟩) zs.length cap] w fun e w' => e = .returned (.slice (some ⟨blk, off, none⟩) (Lib.compact zs).length cap) ∧ ∃ q, w' = putRow encStr (Sort.ahead w q) blk off (Lib.compact zs ++ List.replicate (zs.length - (Lib.compact zs).length) []).toArray := Any.slices_Compact_string Tryz.lays194 blk off cap zs w hH hsz hcap
open Go.RowKit Go.Lib Go.Sort in
theorem Tryz.slices_Compact_string_empty (a : Option Addr) (cap : Nat) (w : World) :
    Calls Tryz.prog 379 #[.slice a 0 cap] w fun e w' => e = .returned (.slice a 0 cap) ∧ w' = w := Any.slices_Compact_string_empty Tryz.lays194 a cap w
open Go.RowKit Go.Sort in
theorem Tryz.slices_Sort_string_none (p : Option Addr) (cap : Nat) (w : World) :
    Calls Tryz.prog 285 #[.slice p 0 cap] w fun e w' => e = .returned (.tuple #[]) ∧ w' = w := Any.slices_Sort_string_none Tryz.lays190 p cap w
end Go.Proofs
namespace Go.Proofs.YtcifdllbnbhcdaaGreatDoor
open Go.RowKit
theorem lt_of_le_ne {a b : L8} (h : a ≤ b) (hn : a ≠ b) : a < b := Classical.byContradiction fun h2 => hn (List.le_antisymm h (List.not_lt.1 h2))
theorem lt_of_le_lt {a b c : L8} (h : a ≤ b) (h2 : b < c) : a < c := Classical.byContradiction fun h3 => List.not_lt.2 (List.le_trans (List.not_lt.1 h3) h) h2
theorem comp_inv {zs : List L8} (hs : zs.Pairwise (· ≤ ·)) : ∀ m, m ≤ zs.length → (Lib.compactUpTo zs.toArray m).Pairwise (· < ·) ∧ (∀ k, k ∈ Lib.compactUpTo zs.toArray m ↔ k ∈ zs.take m) ∧ (Lib.compactUpTo zs.toArray m).length ≤ m
  | 0, _ => by simp [Lib.compactUpTo]
  | m + 1, hm => by
    obtain ⟨h1, h2, h3⟩ := comp_inv hs m (by omega)
    have hmz : m < zs.length := by omega
    have e0 : zs.toArray[m]! = zs[m] := by rw [getElem!_pos zs.toArray m (by simpa using hmz)]; simp
    rw [Lib.compactUpTo_succ]
    have ht : zs.take (m + 1) = zs.take m ++ [zs[m]] := by rw [List.take_add_one, List.getElem?_eq_getElem hmz]; rfl
    by_cases hk : Lib.keeps zs.toArray m = true
    · rw [if_pos hk, e0]
      refine ⟨?_, ?_, by rw [List.length_append, List.length_singleton]; omega⟩
      · rw [List.pairwise_append]
        refine ⟨h1, by simp, fun x hx y hy => ?_⟩
        rw [List.mem_singleton] at hy
        subst hy
        rw [h2] at hx
        obtain ⟨j, hj, rfl⟩ := List.getElem_of_mem hx
        rw [List.length_take] at hj
        rw [List.getElem_take]
        have hm0 : m ≠ 0 := by omega
        have hne : zs[m] ≠ zs[m - 1]'(by omega) := by
          have hk2 := of_decide_eq_true hk
          rw [e0] at hk2
          rcases hk2 with h | h
          · exact absurd h hm0
          · rw [getElem!_pos zs.toArray (m - 1) (by simp; omega)] at h
            simpa using h
        have hle : zs[m - 1]'(by omega) ≤ zs[m] := List.pairwise_iff_getElem.1 hs (m - 1) m (by omega) hmz (by omega)
        have hlt := lt_of_le_ne hle (Ne.symm hne)
        by_cases hj2 : j = m - 1
        · subst hj2; exact hlt
        · exact lt_of_le_lt (List.pairwise_iff_getElem.1 hs j (m - 1) (by omega) (by omega) (by omega)) hlt
      · intro k
        rw [ht, List.mem_append, List.mem_append, h2]
    · rw [if_neg hk, List.append_nil]
      refine ⟨h1, fun k => ?_, by omega⟩
      rw [h2, ht, List.mem_append, List.mem_singleton]
      constructor
      · exact Or.inl
      · rintro (h | rfl)
        · exact h
        · have hm0 : m ≠ 0 := by
            rintro rfl
            exact hk (by simp [Lib.keeps])
          have he : zs[m] = zs[m - 1]'(by omega) := by
            apply Classical.byContradiction
            intro h
            apply hk
            refine decide_eq_true (Or.inr ?_)
            rw [e0, getElem!_pos zs.toArray (m - 1) (by simp; omega)]
            simpa using h
          rw [he]
          have h5 : (zs.take m)[m - 1]'(by rw [List.length_take]; omega) = zs[m - 1]'(by omega) := List.getElem_take
          rw [← h5]
          exact List.getElem_mem _
theorem compact_cls (ss : List L8) : Lib.compact (ss.mergeSort fun x y => decide (x ≤ y)) = clsL ss := by
  have hs : (ss.mergeSort fun x y => decide (x ≤ y)).Pairwise (· ≤ ·) := by
    refine (List.pairwise_mergeSort (le := fun x y : L8 => decide (x ≤ y)) ?_ ?_ ss).imp (fun h => of_decide_eq_true h)
    · intro a b c h1 h2
      exact decide_eq_true (List.le_trans (of_decide_eq_true h1) (of_decide_eq_true h2))
    · intro a b
      rcases List.le_total a b with h | h
      · simp [h]
      · simp [h]
  obtain ⟨h1, h2, _⟩ := comp_inv hs _ (Nat.le_refl _)
  refine clsL_eq h1 (fun k => ?_)
  show k ∈ Lib.compactUpTo _ _ ↔ _
  rw [h2, List.take_length]
  exact (List.mergeSort_perm _ _).mem_iff
theorem compact_le (zs : List L8) : (Lib.compact zs).length ≤ zs.length := by
  unfold Lib.compact Lib.compactUpTo
  rw [List.length_map]
  refine Nat.le_trans (List.length_filter_le _ _) (by simp)
theorem flat_str (cs : List L8) : cs.flatMap strC = cs.map _root_.Go.Proofs.encStr := by
  induction cs with
  | nil => rfl
  | cons c cs ih => rw [List.flatMap_cons, ih]; rfl
theorem row_take {w : World} {B : Nat} {e : TypeId} {k : Nat} {a : Addr} {n cap m : Nat} {xs : List Value} (h : w.ownsRow B e k (.slice (some a) n cap) n xs) (hm : m ≤ n) : w.ownsRow B e k (.slice (some a) m cap) m (xs.take (m * k)) := by
  rcases h.2 with ⟨h0, _⟩ | ⟨g, cap', cur, hv, hB, hg, hn, hc, hs, ht⟩
  · cases h0
  cases hv
  have hk : m * k ≤ n * k := Nat.mul_le_mul_right _ hm
  exact ⟨by rw [List.length_take, h.1]; omega, Or.inr ⟨g, cap, cur, rfl, hB, hg, by omega, hc, hs, by rw [← ht, List.take_take, Nat.min_eq_left hk]⟩⟩
theorem sortstr_any (w0 w : World) (hb : Below w0.heap.size w0 w) (v : Value) (ss : List L8) (h : CRow w w0.heap.size v ss) (hn : ss.length ≤ 1000000000) :
    Calls Tryz.prog 285 #[v] w (fun e w' => e = .returned (.tuple #[]) ∧ CRow w' w0.heap.size v (ss.mergeSort fun x y => decide (x ≤ y)) ∧ Below w0.heap.size w0 w') := by
  rcases h.2 with ⟨rfl, h1⟩ | ⟨g, cap, cur, rfl, hB, hg, h1, h2, h3, h4⟩
  · have hL : ss = [] := List.eq_nil_of_length_eq_zero h1
    subst hL
    refine (Tryz.slices_Sort_string_none none 0 w).mono ?_
    rintro e w' ⟨rfl, rfl⟩
    exact ⟨rfl, by rw [List.mergeSort_nil]; exact h, hb⟩
  · rw [flat_str, Nat.mul_one] at h4
    refine (Tryz.slices_Sort_string g 0 cap ss w (holds_of_block hg h4) (Array.getElem?_eq_some_iff.1 hg).1 (by omega)).mono ?_
    rintro e w' ⟨rfl, m, os, rfl⟩
    refine ⟨rfl, ?_, hb.trans ((Below.refl _ w).grown (grownBy_sorted _) hb.size (fun q hq => by cases hq; exact hB))⟩
    have hl : (ss.mergeSort fun x y => decide (x ≤ y)).length = ss.length := List.length_mergeSort _
    have := ownsRow_sorted (n := m) (os := os) hl hB hg h1 h2 h3
    show World.ownsRow _ _ _ _ _ _ _
    rw [flat_str, hl]
    exact this
theorem compstr_any (w0 w : World) (hb : Below w0.heap.size w0 w) (v : Value) (ss : List L8) (h : CRow w w0.heap.size v ss) (hn : ss.length ≤ 1000000000) :
    Calls Tryz.prog 379 #[v] w (fun e w' => ∃ v', e = .returned v' ∧ CRow w' w0.heap.size v' (Lib.compact ss) ∧ Below w0.heap.size w0 w') := by
  rcases h.2 with ⟨rfl, h1⟩ | ⟨g, cap, cur, rfl, hB, hg, h1, h2, h3, h4⟩
  · have hL : ss = [] := List.eq_nil_of_length_eq_zero h1
    subst hL
    refine (Tryz.slices_Compact_string_empty none 0 w).mono ?_
    rintro e w' ⟨rfl, rfl⟩
    exact ⟨_, rfl, h, hb⟩
  · rw [flat_str, Nat.mul_one] at h4
    refine (Tryz.slices_Compact_string g 0 cap ss w (holds_of_block hg h4) (by omega) h1).mono ?_
    rintro e w' ⟨rfl, m, rfl⟩
    have hcl := compact_le ss
    have hl : (Lib.compact ss ++ List.replicate (ss.length - (Lib.compact ss).length) []).length = ss.length := by rw [List.length_append, List.length_replicate]; omega
    have key := ownsRow_sorted (n := m) (os := #[]) hl hB hg h1 h2 h3
    have gr := grownBy_sorted (w := w) (g := g) (n := m) (os := #[]) (Lib.compact ss ++ List.replicate (ss.length - (Lib.compact ss).length) []).toArray
    rw [Go.Sort.grow_empty] at key gr
    refine ⟨_, rfl, ?_, hb.trans ((Below.refl _ w).grown gr hb.size (fun q hq => by cases hq; exact hB))⟩
    have k2 := row_take key hcl
    show World.ownsRow _ _ _ _ _ _ _
    rw [flat_str]
    rw [Nat.mul_one, ← List.map_take, List.take_left] at k2
    exact k2
def slC (s : Sl) : List Value := [slV s]
def LLAt (w : World) (a : Option Addr) (n : Nat) (ls : List (List Ses)) : Prop := ∃ rs : List Sl, KAt slC 1 w a n rs ∧ All2 (SV w) rs ls
theorem LLAt.below {w w' : World} {a : Option Addr} {n : Nat} {ls : List (List Ses)} (h : LLAt w a n ls) (hb : Below w.heap.size w w') : LLAt w' a n ls := by
  obtain ⟨rs, h1, h2⟩ := h
  exact ⟨rs, h1.below hb, h2.imp fun r x hr => hr.below hb⟩
theorem LLAt.len {w : World} {a : Option Addr} {n : Nat} {ls : List (List Ses)} (h : LLAt w a n ls) : ls.length = n ∧ n ≤ 9223372036854775807 := by
  obtain ⟨rs, h1, h2⟩ := h
  exact ⟨by rw [← h2.1]; exact h1.1, h1.2.1⟩
theorem LLAt.cells {w : World} {a : Option Addr} {n : Nat} {ls : List (List Ses)} (h : LLAt w a n ls) {j : Nat} (hj : j < n) : ∃ (b off : Nat) (l : List Ses) (s : Sl), a = some ⟨b, off, none⟩ ∧ ls[j]? = some l ∧ b < w.heap.size ∧ w.cell? ⟨b, off + j, none⟩ = some (.slice s.1 s.2.1 s.2.2) ∧ SV w s l := by
  obtain ⟨rs, h1, h2⟩ := h
  obtain ⟨r, x, hr, hx, e1⟩ := h2.get (j := j) (by rw [h1.1]; exact hj)
  rcases h1.2.2 with h0 | ⟨b, off, rfl, hc⟩
  · omega
  · have c0 := hc j r hr 0 _ rfl
    rw [Nat.mul_one, Nat.add_zero] at c0
    exact ⟨b, off, x, r, rfl, hx, lt_of_cell c0, c0, e1⟩
theorem clsC_take {cs : List Chg} {j : Nat} {x : Chg} (h : cs[j]? = some x) : clsC (cs.take (j + 1)) = clsC (cs.take j) ++ [x.1] := by
  unfold clsC; rw [List.take_add_one, h, List.map_append]; rfl
set_option maxRecDepth 100000 in
set_option maxHeartbeats 8000000 in
theorem classes_any (a : Option Addr) (n c : Nat) (cs : List Chg) (b : Option Addr) (n' c' : Nat) (ls : List (List Ses)) (w : World) (hx : HAt w a n cs) (hy : LLAt w b n' ls) (hn : n ≤ 1000000) (hn' : n' ≤ 100) (hl : ∀ l ∈ ls, l.length ≤ 1000000) :
    Calls Tryz.prog 331 #[.slice a n c, .slice b n' c'] w (fun e w' => ∃ v, e = .returned v ∧ CRow w' w.heap.size v (clsL (clsC cs ++ ls.flatMap clsS)) ∧ Below w.heap.size w w') := by
  have hlx := hx.len.1
  have hly := hy.len.1
  have HX := Lib.hid hx
  have HY := Lib.hid hy
  have HLL := Lib.hid hl
  clear hx hy hl
  go_enter Tryz.func331, Tryz.ntmps331
  go_wp2_with fail
  go_loopw [5, 14] (fun v i wr => ∃ j : Nat, j ≤ n ∧ i = .int .i64 j ∧ Hid (CRow wr w.heap.size v (clsC (cs.take j))) ∧ Hid (Below w.heap.size w wr)) (fun _ i _ => n - (intOf i).toNat)
  case atStart => exact ⟨0, by omega, rfl, Lib.hid (KRow.nil _ _ _ _ _), Lib.hid (Below.refl _ _)⟩
  case round =>
    obtain ⟨j, hj, rfl, HR, HB⟩ := hrel
    by_cases hlt : j < n
    · obtain ⟨b1, o1, x, p, q, rfl, g1, z1, x0, x1, x2, _, _⟩ := HAt.cells (HX.out.below HB.out) hlt
      have HT := Lib.hid (clsC_take g1)
      have hcl : (clsC (cs.take j)).length ≤ j := by unfold clsC; rw [List.length_map, List.length_take]; omega
      have q1 : (j : Int) < n := by omega
      have q2 : (0 : Int) ≤ j := by omega
      have hbs := HB.out.size
      clear g1
      generalize clsC (cs.take j) = L at *
      have HB1 := Lib.hid (BX.mk0 (vs := #[.string (arr x.1), .slice p.1 p.2.1 p.2.2, .slice q.1 q.2.1 q.2.2]) (T := 161) wr)
      go_upto_region 5 with fail
      generalize wr.alloc (.cells #[.string (arr x.1), .slice p.1 p.2.1 p.2.2, .slice q.1 q.2.1 q.2.2] 161) = wb at *
      obtain ⟨S, hS⟩ : ∃ S, S = wr.heap.size := ⟨_, rfl⟩
      rw [← hS] at HB1 ⊢
      clear hS x0 x1 x2
      have y0 : wb.cell? ⟨S, 0, none⟩ = some (.string (arr x.1)) := HB1.out.cell 0
      have HR := Lib.hid (HR.out.below HB1.out.bl)
      have HB := Lib.hid (below3 HB.out HB1.out.bl)
      have hbs := HB.out.size
      go_wp2_with (at_builtin; refine wpList_app elemStr encStr rfl _ _ rfl w.heap.size _ L rfl (HR.out.below ((Below.refl _ _).alloc (Nat.le_refl _) _)) _ _ _ [x.1] rfl (KAt.one (f := strC) (k := 1) wb x.1 _) (by simp <;> omega) (by simp; omega) ?_)
      intro v6 w6 hr6 hb6 hg6 ho6
      have HRF : Hid (CRow w6 w.heap.size v6 (clsC (cs.take (j + 1)))) := Lib.hid (by rw [HT.out]; exact hr6)
      have HBF := Lib.hid ((HB.out.alloc hbs _).trans hb6)
      clear hr6 hb6 hg6 ho6
      go_wp2_with fail
      go_roundw
      case rel => exact ⟨j + 1, by omega, by go_num, HRF, HBF⟩
      case measure => simp [intOf]; omega
    · obtain rfl : n = j := by omega
      have HRX : Hid (CRow wr w.heap.size _ (clsC cs)) := Lib.hid (by have := HR.out; rw [List.take_of_length_le (by omega)] at this; exact this)
      have hcl : (clsC cs).length = n := by unfold clsC; rw [List.length_map]; exact hlx
      clear HR
      generalize hC0 : clsC cs = C at *
      have HC0 := Lib.hid hC0
      clear hC0
      obtain ⟨wo, rfl⟩ : ∃ wo : World, wo = wr := ⟨_, rfl⟩
      go_wp2_with fail
      go_loopw [5, 26] (fun v i wr => ∃ j : Nat, j ≤ n' ∧ i = .int .i64 j ∧ Hid (CRow wr w.heap.size v (C ++ (ls.take j).flatMap clsS)) ∧ Hid (Below w.heap.size w wr)) (fun _ i _ => n' - (intOf i).toNat)
      case atStart => exact ⟨0, by omega, rfl, Lib.hid (by have := HRX.out; simpa using this), HB⟩
      case round =>
        clear HB HRX
        obtain ⟨j, hj, rfl, HR, HB⟩ := hrel
        by_cases hlt : j < n'
        · obtain ⟨b1, o1, l, s, rfl, g1, z1, x0, sl⟩ := LLAt.cells HY.out hlt
          have x0 := below_cell9 HB.out x0
          have HT := Lib.hid (flat_take clsS g1)
          have hll := HLL.out l (List.mem_of_getElem? g1)
          have hl2 : ((ls.take j).flatMap clsS).length ≤ j * 1000000 := by
            have : ∀ (k : Nat) (L : List (List Ses)), (∀ x ∈ L, x.length ≤ 1000000) → (L.flatMap clsS).length ≤ L.length * 1000000 := by
              intro k L
              induction L with
              | nil => intro _; simp
              | cons y L ih =>
                intro h
                have h1 := h y List.mem_cons_self
                have h2 := ih (fun x hx => h x (List.mem_cons_of_mem _ hx))
                rw [List.flatMap_cons, List.length_append, List.length_cons, Nat.add_mul]
                unfold clsS at h2 ⊢
                rw [List.length_map]; omega
            have h3 := this 0 (ls.take j) (fun x hx => HLL.out x (List.mem_of_mem_take hx))
            rw [List.length_take] at h3
            refine Nat.le_trans h3 (Nat.mul_le_mul_right _ (by omega))
          have hj8 : j * 1000000 ≤ 100000000 := by omega
          have q1 : (j : Int) < n' := by omega
          have q2 : (0 : Int) ≤ j := by omega
          have SL := Lib.hid sl.2
          have hsn : l.length = s.2.1 := sl.2.1
          clear g1 sl
          obtain ⟨sa, sn, sc⟩ := s
          simp only at SL hsn x0
          generalize (ls.take j).flatMap clsS = D at *
          obtain ⟨wv, rfl⟩ : ∃ wv : World, wv = wr := ⟨_, rfl⟩
          go_wp2_with fail
          go_loopw [5, 32] (fun v i wr => ∃ r : Nat, r ≤ sn ∧ i = .int .i64 r ∧ Hid (CRow wr w.heap.size v (C ++ D ++ clsS (l.take r))) ∧ Hid (Below w.heap.size w wr)) (fun _ i _ => sn - (intOf i).toNat)
          case atStart => exact ⟨0, by omega, rfl, Lib.hid (by have := HR.out; simpa [clsS] using this), HB⟩
          case round =>
            clear HR HB
            obtain ⟨r, hr, rfl, HR, HC⟩ := hrel
            by_cases hlr : r < sn
            · obtain ⟨b2, o2, s1, rfl, g2, z2, y0, y1, y2, y3, y4, y5⟩ := SAt.cells (SL.out.below HC.out) hlr
              have HT2 := Lib.hid (clsS_take g2)
              have hcs : (clsS (l.take r)).length ≤ r := by unfold clsS; rw [List.length_map, List.length_take]; omega
              have q3 : (r : Int) < sn := by omega
              have q4 : (0 : Int) ≤ r := by omega
              clear g2
              generalize clsS (l.take r) = E at *
              have HB1 := Lib.hid (BX.mk0 (vs := #[.string (arr s1.1), .int .i64 s1.2.1, .int .i64 s1.2.2.1, .int .i64 s1.2.2.2.1, .int .i64 s1.2.2.2.2.1, .string (arr s1.2.2.2.2.2)]) (T := 43) wr)
              go_upto_region 13 with fail
              generalize wr.alloc (.cells #[.string (arr s1.1), .int .i64 s1.2.1, .int .i64 s1.2.2.1, .int .i64 s1.2.2.2.1, .int .i64 s1.2.2.2.2.1, .string (arr s1.2.2.2.2.2)] 43) = wb at *
              obtain ⟨S, hS⟩ : ∃ S, S = wr.heap.size := ⟨_, rfl⟩
              rw [← hS] at HB1 ⊢
              clear hS y0 y1 y2 y3 y4 y5
              have y0 : wb.cell? ⟨S, 0, none⟩ = some (.string (arr s1.1)) := HB1.out.cell 0
              have HR := Lib.hid (HR.out.below HB1.out.bl)
              have HC := Lib.hid (below3 HC.out HB1.out.bl)
              have hbs := HC.out.size
              go_wp2_with (at_builtin; refine wpList_app elemStr encStr rfl _ _ rfl w.heap.size _ (C ++ D ++ E) rfl (HR.out.below ((Below.refl _ _).alloc (Nat.le_refl _) _)) _ _ _ [s1.1] rfl (KAt.one (f := strC) (k := 1) wb s1.1 _) (by simp <;> omega) (by simp; omega) ?_)
              intro v6 w6 hr6 hb6 hg6 ho6
              have HRF : Hid (CRow w6 w.heap.size v6 (C ++ D ++ clsS (l.take (r + 1)))) := Lib.hid (by rw [HT2.out, ← List.append_assoc]; simpa using hr6)
              have HBF := Lib.hid ((HC.out.alloc hbs _).trans hb6)
              clear hr6 hg6 ho6 hb6
              go_wp2_with fail
              go_roundw
              case rel => exact ⟨r + 1, by omega, by go_num, HRF, HBF⟩
              case measure => simp [intOf]; omega
            · obtain rfl : sn = r := by omega
              have HRF : Hid (CRow wr w.heap.size _ (C ++ (ls.take (j + 1)).flatMap clsS)) := Lib.hid (by have := HR.out; rw [List.take_of_length_le (by omega)] at this; rw [HT.out, ← List.append_assoc]; exact this)
              go_wp2_with fail
              go_roundw
              case rel => exact ⟨j + 1, by omega, by go_num, HRF, HC⟩
              case measure => simp [intOf]; omega
        · obtain rfl : n' = j := by omega
          have HRY : Hid (CRow wr w.heap.size _ (C ++ ls.flatMap clsS)) := Lib.hid (by have := HR.out; rw [List.take_of_length_le (by omega)] at this; exact this)
          have hyl : (C ++ ls.flatMap clsS).length ≤ 200000000 := by
            have : ∀ (L : List (List Ses)), (∀ x ∈ L, x.length ≤ 1000000) → (L.flatMap clsS).length ≤ L.length * 1000000 := by
              intro L
              induction L with
              | nil => intro _; simp
              | cons y L ih =>
                intro h
                have h1 := h y List.mem_cons_self
                have h2 := ih (fun x hx => h x (List.mem_cons_of_mem _ hx))
                rw [List.flatMap_cons, List.length_append, List.length_cons, Nat.add_mul]
                unfold clsS at h2 ⊢
                rw [List.length_map]; omega
            have h3 := this ls HLL.out
            rw [List.length_append]
            have : ls.length * 1000000 ≤ 100 * 1000000 := Nat.mul_le_mul_right _ (by omega)
            omega
          clear HR
          generalize hK0 : C ++ ls.flatMap clsS = K at *
          have HK0 := Lib.hid hK0
          clear hK0
          have SS := Lib.hid (sortstr_any w wr HB.out _ K HRY.out (by omega))
          obtain ⟨av, cv, hv, _⟩ := KRow.at_ encStr HRY.out
          subst hv
          go_wp2_with fail
          refine SS.out.mono ?_
          rintro en w2 ⟨rfl, hr2, hb2⟩
          have CS := Lib.hid (compstr_any w w2 hb2 _ _ hr2 (by rw [List.length_mergeSort]; omega))
          rw [compact_cls] at CS
          clear hr2 hb2 SS
          go_wp2_with fail
          refine CS.out.mono ?_
          rintro en w3 ⟨v3, rfl, hr3, hb3⟩
          have H3 := Lib.hid (show _ ∧ _ from ⟨hr3, hb3⟩)
          clear hr3 hb3 CS
          go_wp2_with fail
          go_ret
          exact ⟨v3, rfl, by rw [HC0.out, HK0.out]; exact H3.out⟩
end Go.Proofs.YtcifdllbnbhcdaaGreatDoor
namespace Go.Proofs
open Go.Shelf
def Tryz.laysSortSes_ren : Go.Shelf.Ren := ⟨fun | 6 => 272 | 15 => 54 | 14 => 325 | 28 => 88 | 29 => 89 | 20 => 366 | 21 => 367 | 22 => 368 | 23 => 369 | 24 => 370 | 25 => 371 | 26 => 372 | 27 => 373 | 46 => 406 | 47 => 118 | 48 => 119 | 49 => 407 | 50 => 408 | 57 => 425 | n => n, fun | 22 => 66 | 24 => 43 | 25 => 395 | 3 => 3 | 39 => 122 | 0 => 0 | 53 => 175 | 55 => 177 | 4 => 4 | 46 => 169 | 45 => 168 | 50 => 91 | 5 => 5 | 9 => 9 | 66 => 227 | 70 => 231 | 76 => 337 | 77 => 338 | n => n, fun | n => n⟩
theorem Tryz.laysSortSes : Go.Proofs.SlLaysF0.n6 Tryz.prog Tryz.laysSortSes_ren := {
  mixed := by kernel_rfl
  f6 := ⟨Tryz.f272.name, by decide, Tryz.func272.trans (congrArg some (by kernel_rfl))⟩
  f14 := ⟨Tryz.f325.name, by decide, Tryz.func325.trans (congrArg some (by kernel_rfl))⟩
  f15 := Tryz.func54.trans (congrArg some (by kernel_rfl))
  f20 := ⟨Tryz.f366.name, by decide, Tryz.func366.trans (congrArg some (by kernel_rfl))⟩
  f21 := ⟨Tryz.f367.name, by decide, Tryz.func367.trans (congrArg some (by kernel_rfl))⟩
  f22 := ⟨Tryz.f368.name, by decide, Tryz.func368.trans (congrArg some (by kernel_rfl))⟩
  f23 := ⟨Tryz.f369.name, by decide, Tryz.func369.trans (congrArg some (by kernel_rfl))⟩
  f24 := ⟨Tryz.f370.name, by decide, Tryz.func370.trans (congrArg some (by kernel_rfl))⟩
  f25 := ⟨Tryz.f371.name, by decide, Tryz.func371.trans (congrArg some (by kernel_rfl))⟩
  f26 := ⟨Tryz.f372.name, by decide, Tryz.func372.trans (congrArg some (by kernel_rfl))⟩
  f27 := ⟨Tryz.f373.name, by decide, Tryz.func373.trans (congrArg some (by kernel_rfl))⟩
  f28 := Tryz.func88.trans (congrArg some (by kernel_rfl))
  f29 := Tryz.func89.trans (congrArg some (by kernel_rfl))
  f46 := ⟨Tryz.f406.name, by decide, Tryz.func406.trans (congrArg some (by kernel_rfl))⟩
  f47 := Tryz.func118.trans (congrArg some (by kernel_rfl))
  f48 := Tryz.func119.trans (congrArg some (by kernel_rfl))
  f49 := ⟨Tryz.f407.name, by decide, Tryz.func407.trans (congrArg some (by kernel_rfl))⟩
  f50 := ⟨Tryz.f408.name, by decide, Tryz.func408.trans (congrArg some (by kernel_rfl))⟩
  f57 := ⟨Tryz.f425.name, by decide, Tryz.func425.trans (congrArg some (by kernel_rfl))⟩
  t0 := Tryz.underlying0
  a0 := Tryz.isAgg0
  z0 := Tryz.sizeOf0
  v0 := Tryz.zeroValue0
  t3 := Tryz.underlying3
  a3 := Tryz.isAgg3
  z3 := Tryz.sizeOf3
  v3 := Tryz.zeroValue3
  t4 := Tryz.underlying4
  a4 := Tryz.isAgg4
  z4 := Tryz.sizeOf4
  v4 := Tryz.zeroValue4
  t5 := Tryz.underlying5
  a5 := Tryz.isAgg5
  z5 := Tryz.sizeOf5
  v5 := Tryz.zeroValue5
  t9 := Tryz.underlying9
  a9 := Tryz.isAgg9
  z9 := Tryz.sizeOf9
  v9 := Tryz.zeroValue9
  t22 := Tryz.underlying66
  a22 := Tryz.isAgg66
  z22 := Tryz.sizeOf66
  v22 := Tryz.zeroValue66
  t25 := Tryz.underlying395
  a25 := Tryz.isAgg395
  z25 := Tryz.sizeOf395
  v25 := Tryz.zeroValue395
  t39 := Tryz.underlying122
  a39 := Tryz.isAgg122
  z39 := Tryz.sizeOf122
  v39 := Tryz.zeroValue122
  t45 := Tryz.underlying168
  a45 := Tryz.isAgg168
  z45 := Tryz.sizeOf168
  v45 := Tryz.zeroValue168
  t46 := Tryz.underlying169
  a46 := Tryz.isAgg169
  z46 := Tryz.sizeOf169
  v46 := Tryz.zeroValue169
  t50 := Tryz.underlying91
  a50 := Tryz.isAgg91
  z50 := Tryz.sizeOf91
  v50 := Tryz.zeroValue91
  t53 := Tryz.underlying175
  a53 := Tryz.isAgg175
  z53 := Tryz.sizeOf175
  v53 := Tryz.zeroValue175
  t55 := Tryz.underlying177
  a55 := Tryz.isAgg177
  z55 := Tryz.sizeOf177
  v55 := Tryz.zeroValue177
  t66 := Tryz.underlying227
  a66 := Tryz.isAgg227
  z66 := Tryz.sizeOf227
  v66 := Tryz.zeroValue227
  t70 := Tryz.underlying231
  a70 := Tryz.isAgg231
  z70 := Tryz.sizeOf231
  v70 := Tryz.zeroValue231
  t76 := Tryz.underlying337
  a76 := Tryz.isAgg337
  z76 := Tryz.sizeOf337
  v76 := Tryz.zeroValue337
  t77 := Tryz.underlying338
  a77 := Tryz.isAgg338
  z77 := Tryz.sizeOf338
  v77 := Tryz.zeroValue338 }
def Tryz.laysIndexSes_ren : Go.Shelf.Ren := ⟨fun | 6 => 375 | n => n, fun | 22 => 66 | 23 => 43 | 25 => 485 | 3 => 3 | 0 => 0 | 4 => 4 | n => n, fun | n => n⟩
theorem Tryz.laysIndexSes : Go.Proofs.SlLaysH0.n6 Tryz.prog Tryz.laysIndexSes_ren := {
  mixed := by kernel_rfl
  f6 := ⟨Tryz.f375.name, by decide, Tryz.func375.trans (congrArg some (by kernel_rfl))⟩
  t0 := Tryz.underlying0
  a0 := Tryz.isAgg0
  z0 := Tryz.sizeOf0
  v0 := Tryz.zeroValue0
  t3 := Tryz.underlying3
  a3 := Tryz.isAgg3
  z3 := Tryz.sizeOf3
  v3 := Tryz.zeroValue3
  t4 := Tryz.underlying4
  a4 := Tryz.isAgg4
  z4 := Tryz.sizeOf4
  v4 := Tryz.zeroValue4
  t22 := Tryz.underlying66
  a22 := Tryz.isAgg66
  z22 := Tryz.sizeOf66
  v22 := Tryz.zeroValue66
  t25 := Tryz.underlying485
  a25 := Tryz.isAgg485
  z25 := Tryz.sizeOf485
  v25 := Tryz.zeroValue485 }
def Tryz.laysContainsSes_ren : Go.Shelf.Ren := ⟨fun | 8 => 377 | 6 => 375 | n => n, fun | 22 => 66 | 23 => 43 | 25 => 485 | 4 => 4 | 3 => 3 | 0 => 0 | n => n, fun | n => n⟩
theorem Tryz.laysContainsSes : Go.Proofs.SlLaysH0.n8 Tryz.prog Tryz.laysContainsSes_ren := {
  mixed := by kernel_rfl
  f6 := ⟨Tryz.f375.name, by decide, Tryz.func375.trans (congrArg some (by kernel_rfl))⟩
  f8 := ⟨Tryz.f377.name, by decide, Tryz.func377.trans (congrArg some (by kernel_rfl))⟩
  t0 := Tryz.underlying0
  a0 := Tryz.isAgg0
  z0 := Tryz.sizeOf0
  v0 := Tryz.zeroValue0
  t3 := Tryz.underlying3
  a3 := Tryz.isAgg3
  z3 := Tryz.sizeOf3
  v3 := Tryz.zeroValue3
  t4 := Tryz.underlying4
  a4 := Tryz.isAgg4
  z4 := Tryz.sizeOf4
  v4 := Tryz.zeroValue4
  t22 := Tryz.underlying66
  a22 := Tryz.isAgg66
  z22 := Tryz.sizeOf66
  v22 := Tryz.zeroValue66
  t25 := Tryz.underlying485
  a25 := Tryz.isAgg485
  z25 := Tryz.sizeOf485
  v25 := Tryz.zeroValue485 }
def Tryz.laysCloneSes_ren : Go.Shelf.Ren := ⟨fun | 41 => 67 | n => n, fun | 22 => 66 | 23 => 43 | 4 => 4 | n => n, fun | n => n⟩
theorem Tryz.laysCloneSes : Go.Proofs.SlLaysE0.n41 Tryz.prog Tryz.laysCloneSes_ren := {
  mixed := by kernel_rfl
  f41 := ⟨Tryz.f67.name, by decide, Tryz.func67.trans (congrArg some (by kernel_rfl))⟩
  t4 := Tryz.underlying4
  a4 := Tryz.isAgg4
  z4 := Tryz.sizeOf4
  v4 := Tryz.zeroValue4
  t22 := Tryz.underlying66
  a22 := Tryz.isAgg66
  z22 := Tryz.sizeOf66
  v22 := Tryz.zeroValue66 }
end Go.Proofs
