/- Texts VB, ShelfH, joined: walks and laws for the versions. -/
import Derived.Ground.Names2Prog
import Derived.Ground.SlbCloneProg
import Derived.Ground.SlbtProg
import Derived.Shelf.LaysC
import Derived.Shelf.LaysM
import Derived.Shelf.Slices.CompactS
import Derived.Shelf.Slices.In.SortNone
import Derived.Shelf.Sort.Plain
import Derived.Test.YtihbpggbpapcfaaGreatDoorM11
import Derived.Test.YtihbpggbpapcfaaGreatDoorProg
namespace Go.Proofs.YtihbpggbpapcfaaGreatDoor
open Go.RowKit

structure BX (w0 w : World) (R : Nat) (vs : Array Value) (T : TypeId) : Prop where
  hp : w.heap[R]? = some (.cells vs T (0, 0))
  lo : w0.heap.size ≤ R
  bl : Below w0.heap.size w0 w
section
variable {w0 w w2 : World} {R : Nat} {vs : Array Value} {T : TypeId}
theorem BX.next (h : BX w0 w R vs T) (hb : Below w.heap.size w w2) : BX w0 w2 R vs T := ⟨by rw [hb.block R (lt_of_heap h.hp)]; exact h.hp, h.lo, below3 h.bl hb⟩
theorem BX.lt (h : BX w0 w R vs T) : R < w.heap.size := lt_of_heap h.hp
theorem BX.cell (h : BX w0 w R vs T) (i : Nat) : w.cell? ⟨R, i, none⟩ = vs[i]? := cell_of_row _ _ i _ _ _ h.hp
theorem BX.fz (h : BX w0 w R vs T) (i : Nat) : w.frozen? ⟨R, i, none⟩ = false := frozen_of_row _ _ _ _ _ h.hp
theorem BX.set (h : BX w0 w R vs T) (i : Nat) (u : Value) : BX w0 (w.setCell ⟨R, i, none⟩ u) R (vs.setIfInBounds i u) T :=
  ⟨heap_setCell_same _ R i _ _ _ h.hp, h.lo, h.bl.setCell (p := ⟨R, i, none⟩) h.lo u⟩
theorem BX.mk0 (w : World) : BX w (w.alloc (.cells vs T)) w.heap.size vs T := ⟨heap_alloc_new _ _, Nat.le_refl _, (Below.refl _ _).alloc (Nat.le_refl _) _⟩
theorem BX.four {v0 v1 v2 v3 : Value} (h : BX w0 w R #[v0, v1, v2, v3] T) : (w.cell? ⟨R, 0, none⟩ = some v0 ∧ w.cell? ⟨R, 1, none⟩ = some v1 ∧ w.cell? ⟨R, 2, none⟩ = some v2 ∧ w.cell? ⟨R, 3, none⟩ = some v3) ∧ w.frozen? ⟨R, 0, none⟩ = false ∧ w.frozen? ⟨R, 1, none⟩ = false ∧ w.frozen? ⟨R, 2, none⟩ = false ∧ w.frozen? ⟨R, 3, none⟩ = false :=
  ⟨⟨h.cell 0, h.cell 1, h.cell 2, h.cell 3⟩, h.fz 0, h.fz 1, h.fz 2, h.fz 3⟩
end
theorem BX.bel {w0 w w2 : World} {R B : Nat} {vs : Array Value} {T : TypeId} (h : BX w0 w R vs T) (hb : Below B w w2) (hR : R < B) (hB : w0.heap.size ≤ B) : BX w0 w2 R vs T := ⟨by rw [hb.block R hR]; exact h.hp, h.lo, h.bl.trans (hb.mono hB)⟩
theorem BX.set4 {w0 w : World} {R : Nat} {v0 v1 v2 v3 : Value} {T : TypeId} (h : BX w0 w R #[v0, v1, v2, v3] T) (u0 u1 u2 u3 : Value) : BX w0 ((((w.setCell ⟨R, 0, none⟩ u0).setCell ⟨R, 1, none⟩ u1).setCell ⟨R, 2, none⟩ u2).setCell ⟨R, 3, none⟩ u3) R #[u0, u1, u2, u3] T := (((h.set 0 u0).set 1 u1).set 2 u2).set 3 u3
theorem BX.keep4 {w0 w : World} {R R2 : Nat} {vs : Array Value} {T : TypeId} (h : BX w0 w R vs T) (hne : R2 ≠ R) (hlo : w0.heap.size ≤ R2) (u0 u1 u2 u3 : Value) : BX w0 ((((w.setCell ⟨R2, 0, none⟩ u0).setCell ⟨R2, 1, none⟩ u1).setCell ⟨R2, 2, none⟩ u2).setCell ⟨R2, 3, none⟩ u3) R vs T := by
  have hx : ∀ (W : World) (i : Nat) (u : Value), BX w0 W R vs T → BX w0 (W.setCell ⟨R2, i, none⟩ u) R vs T := fun W i u hW => ⟨by rw [heap_setCell_other _ _ _ _ (Ne.symm hne)]; exact hW.hp, hW.lo, hW.bl.setCell (p := ⟨R2, i, none⟩) hlo u⟩
  exact hx _ _ _ (hx _ _ _ (hx _ _ _ (hx _ _ _ h)))
end Go.Proofs.YtihbpggbpapcfaaGreatDoor

namespace Go.Proofs
open Go.Shelf
def Tryz.lays190_ren : Go.Shelf.Ren := ⟨fun | 190 => 151 | 125 => 177 | 258 => 176 | 128 => 207 | 129 => 182 | 302 => 198 | 303 => 199 | 304 => 200 | 305 => 201 | 306 => 202 | 307 => 203 | 308 => 204 | 309 => 205 | 310 => 206 | 333 => 225 | 329 => 226 | 330 => 227 | 334 => 228 | 335 => 229 | 336 => 170 | 344 => 239 | n => n, fun | 31 => 91 | 9 => 9 | 3 => 3 | 46 => 42 | 0 => 0 | 51 => 125 | 53 => 202 | 4 => 4 | 183 => 237 | 182 => 236 | 131 => 173 | 5 => 5 | 218 => 257 | 222 => 261 | 228 => 269 | 229 => 270 | n => n, fun | n => n⟩
theorem Tryz.lays190 : Go.Proofs.Lays.n190 Tryz.prog Tryz.lays190_ren := {
  mixed := by kernel_rfl
  f125 := Tryz.func177.trans (congrArg some (by kernel_rfl))
  f128 := Tryz.func207.trans (congrArg some (by kernel_rfl))
  f129 := Tryz.func182.trans (congrArg some (by kernel_rfl))
  f190 := Tryz.func151.trans (congrArg some (by kernel_rfl))
  f258 := Tryz.func176.trans (congrArg some (by kernel_rfl))
  f302 := Tryz.func198.trans (congrArg some (by kernel_rfl))
  f303 := Tryz.func199.trans (congrArg some (by kernel_rfl))
  f304 := Tryz.func200.trans (congrArg some (by kernel_rfl))
  f305 := Tryz.func201.trans (congrArg some (by kernel_rfl))
  f306 := Tryz.func202.trans (congrArg some (by kernel_rfl))
  f307 := Tryz.func203.trans (congrArg some (by kernel_rfl))
  f308 := Tryz.func204.trans (congrArg some (by kernel_rfl))
  f309 := Tryz.func205.trans (congrArg some (by kernel_rfl))
  f310 := Tryz.func206.trans (congrArg some (by kernel_rfl))
  f329 := Tryz.func226.trans (congrArg some (by kernel_rfl))
  f330 := Tryz.func227.trans (congrArg some (by kernel_rfl))
  f333 := Tryz.func225.trans (congrArg some (by kernel_rfl))
  f334 := Tryz.func228.trans (congrArg some (by kernel_rfl))
  f335 := Tryz.func229.trans (congrArg some (by kernel_rfl))
  f336 := Tryz.func170.trans (congrArg some (by kernel_rfl))
  f344 := Tryz.func239.trans (congrArg some (by kernel_rfl))
  t0 := Tryz.underlying0
  a0 := Tryz.isAgg0
  z0 := Tryz.sizeOf0
  v0 := Tryz.zeroValue0
  t3 := Tryz.underlying3
  a3 := Tryz.isAgg3
  z3 := Tryz.sizeOf3
  v3 := Tryz.zeroValue3
  t4 := Tryz.underlying4
  a4 := Tryz.isAgg4
  z4 := Tryz.sizeOf4
  v4 := Tryz.zeroValue4
  t5 := Tryz.underlying5
  a5 := Tryz.isAgg5
  z5 := Tryz.sizeOf5
  v5 := Tryz.zeroValue5
  t9 := Tryz.underlying9
  a9 := Tryz.isAgg9
  z9 := Tryz.sizeOf9
  v9 := Tryz.zeroValue9
  t31 := Tryz.underlying91
  a31 := Tryz.isAgg91
  z31 := Tryz.sizeOf91
  v31 := Tryz.zeroValue91
  t46 := Tryz.underlying42
  a46 := Tryz.isAgg42
  z46 := Tryz.sizeOf42
  v46 := Tryz.zeroValue42
  t51 := Tryz.underlying125
  a51 := Tryz.isAgg125
  z51 := Tryz.sizeOf125
  v51 := Tryz.zeroValue125
  t53 := Tryz.underlying202
  a53 := Tryz.isAgg202
  z53 := Tryz.sizeOf202
  v53 := Tryz.zeroValue202
  t131 := Tryz.underlying173
  a131 := Tryz.isAgg173
  z131 := Tryz.sizeOf173
  v131 := Tryz.zeroValue173
  t182 := Tryz.underlying236
  a182 := Tryz.isAgg236
  z182 := Tryz.sizeOf236
  v182 := Tryz.zeroValue236
  t183 := Tryz.underlying237
  a183 := Tryz.isAgg237
  z183 := Tryz.sizeOf237
  v183 := Tryz.zeroValue237
  t218 := Tryz.underlying257
  a218 := Tryz.isAgg257
  z218 := Tryz.sizeOf257
  v218 := Tryz.zeroValue257
  t222 := Tryz.underlying261
  a222 := Tryz.isAgg261
  z222 := Tryz.sizeOf261
  v222 := Tryz.zeroValue261
  t228 := Tryz.underlying269
  a228 := Tryz.isAgg269
  z228 := Tryz.sizeOf269
  v228 := Tryz.zeroValue269
  t229 := Tryz.underlying270
  a229 := Tryz.isAgg270
  z229 := Tryz.sizeOf270
  v229 := Tryz.zeroValue270 }
open Go.Sort Go.RowKit in
theorem Tryz.slices_Sort_string (blk off cap : Nat) (ss : List (List UInt8)) (w : World) (hH : Holds encStr w blk off ss.toArray) (hblk : blk < w.heap.size) (hsz : ss.length < 4611686018427387904) :
    Calls Tryz.prog 151 #[.slice (some ⟨blk, off, none⟩) ss.length cap] w fun e w' =>
      e = .returned (.tuple #[]) ∧ ∃ n os, w' = grow (putRow encStr (Sort.ahead w n) blk off (ss.mergeSort fun x y => decide (x ≤ y)).toArray) os := Any.slices_Sort_string Tryz.lays190 blk off cap ss w hH hblk hsz
def Tryz.lays194_ren : Go.Shelf.Ren := ⟨fun | 194 => 152 | n => n, fun | 31 => 91 | 9 => 9 | 3 => 3 | 4 => 4 | 0 => 0 | n => n, fun | n => n⟩
theorem Tryz.lays194 : Go.Proofs.Lays.n194 Tryz.prog Tryz.lays194_ren := {
  mixed := by kernel_rfl
  f194 := Tryz.func152.trans (congrArg some (by kernel_rfl))
  t0 := Tryz.underlying0
  a0 := Tryz.isAgg0
  z0 := Tryz.sizeOf0
  v0 := Tryz.zeroValue0
  t3 := Tryz.underlying3
  a3 := Tryz.isAgg3
  z3 := Tryz.sizeOf3
  v3 := Tryz.zeroValue3
  t4 := Tryz.underlying4
  a4 := Tryz.isAgg4
  z4 := Tryz.sizeOf4
  v4 := Tryz.zeroValue4
  t9 := Tryz.underlying9
  a9 := Tryz.isAgg9
  z9 := Tryz.sizeOf9
  v9 := Tryz.zeroValue9
  t31 := Tryz.underlying91
  a31 := Tryz.isAgg91
  z31 := Tryz.sizeOf91
  v31 := Tryz.zeroValue91 }
open Go.RowKit Go.Lib Go.Sort in
theorem Tryz.slices_Compact_string (blk off cap : Nat) (zs : List (List UInt8)) (w : World) (hH : Holds encStr w blk off zs.toArray) (hsz : zs.length ≤ 9223372036854775807) (hcap : zs.length ≤ cap) :
    Calls Tryz.prog 152 #[.slice (some ⟨blk, off, none⟩) zs.length cap] w fun e w' => e = .returned (.slice (some ⟨blk, off, none⟩) (Lib.compact zs).length cap) ∧ ∃ q, w' = putRow encStr (Sort.ahead w q) blk off (Lib.compact zs ++ List.replicate (zs.length - (Lib.compact zs).length) []).toArray := Any.slices_Compact_string Tryz.lays194 blk off cap zs w hH hsz hcap
open Go.RowKit Go.Lib Go.Sort in
theorem Tryz.slices_Compact_string_empty (a : Option Addr) (cap : Nat) (w : World) :
    Calls Tryz.prog 152 #[.slice a 0 cap] w fun e w' => e = .returned (.slice a 0 cap) ∧ w' = w := Any.slices_Compact_string_empty Tryz.lays194 a cap w
open Go.RowKit Go.Sort in
theorem Tryz.slices_Sort_string_none (p : Option Addr) (cap : Nat) (w : World) :
    Calls Tryz.prog 151 #[.slice p 0 cap] w fun e w' => e = .returned (.tuple #[]) ∧ w' = w := Any.slices_Sort_string_none Tryz.lays190 p cap w
end Go.Proofs
