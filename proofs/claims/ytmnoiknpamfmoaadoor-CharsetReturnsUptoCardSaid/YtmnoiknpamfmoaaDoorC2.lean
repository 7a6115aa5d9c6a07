import Derived.Test.YtmnoiknpamfmoaaDoorC1
import Derived.Shelf.Spec.DecodeRune
import Derived.Shelf.Unicode.ValidAny
import Derived.Lib.LaidU8
namespace Go.Proofs.YtmnoiknpamfmoaaDoor
open Go.RowKit

def decL_ren : Go.Shelf.Ren := ⟨fun | 32 => 30 | 49 => 35 | n => n, fun | 0 => 0 | 3 => 3 | 4 => 4 | 5 => 5 | 21 => 21 | 25 => 64 | 30 => 22 | 33 => 56 | 66 => 60 | 68 => 62 | 69 => 63 | n => n, fun | 2 => 0 | 3 => 1 | n => n⟩
theorem decL : Go.Proofs.Lays7.n32 Tryd.prog decL_ren := {
  mixed := by kernel_rfl
  f32 := Tryd.func30.trans (congrArg some (by kernel_rfl))
  f49 := Tryd.func35.trans (congrArg some (by kernel_rfl))
  t0 := Tryd.underlying0
  a0 := Tryd.isAgg0
  z0 := Tryd.sizeOf0
  v0 := Tryd.zeroValue0
  i0 := by kernel_rfl
  t3 := Tryd.underlying3
  a3 := Tryd.isAgg3
  z3 := Tryd.sizeOf3
  v3 := Tryd.zeroValue3
  i3 := by kernel_rfl
  t4 := Tryd.underlying4
  a4 := Tryd.isAgg4
  z4 := Tryd.sizeOf4
  v4 := Tryd.zeroValue4
  i4 := by kernel_rfl
  t5 := Tryd.underlying5
  a5 := Tryd.isAgg5
  z5 := Tryd.sizeOf5
  v5 := Tryd.zeroValue5
  i5 := by kernel_rfl
  t21 := Tryd.underlying21
  a21 := Tryd.isAgg21
  z21 := Tryd.sizeOf21
  v21 := Tryd.zeroValue21
  i21 := by kernel_rfl
  t25 := Tryd.underlying64
  a25 := Tryd.isAgg64
  z25 := Tryd.sizeOf64
  v25 := Tryd.zeroValue64
  i25 := by kernel_rfl
  t30 := Tryd.underlying22
  a30 := Tryd.isAgg22
  z30 := Tryd.sizeOf22
  v30 := Tryd.zeroValue22
  i30 := by kernel_rfl
  t33 := Tryd.underlying56
  a33 := Tryd.isAgg56
  z33 := Tryd.sizeOf56
  v33 := Tryd.zeroValue56
  i33 := by kernel_rfl
  t66 := Tryd.underlying60
  a66 := Tryd.isAgg60
  z66 := Tryd.sizeOf60
  t68 := Tryd.underlying62
  a68 := Tryd.isAgg62
  z68 := Tryd.sizeOf62
  v68 := Tryd.zeroValue62
  i68 := by kernel_rfl
  t69 := Tryd.underlying63
  a69 := Tryd.isAgg63
  z69 := Tryd.sizeOf63
  v69 := Tryd.zeroValue63
  i69 := by kernel_rfl
  g2 := by kernel_rfl
  g3 := by kernel_rfl }

def valL_ren : Go.Shelf.Ren := ⟨fun | 196 => 25 | 259 => 32 | n => n, fun | 0 => 0 | 3 => 3 | 4 => 4 | 5 => 5 | 9 => 9 | 12 => 12 | 46 => 64 | 53 => 69 | 119 => 60 | 138 => 62 | 139 => 63 | n => n, fun | 3 => 0 | 4 => 1 | n => n⟩
theorem valL : Go.Proofs.Lays.n196 Tryd.prog valL_ren := {
  mixed := by kernel_rfl
  f196 := Tryd.func25.trans (congrArg some (by kernel_rfl))
  f259 := Tryd.func32.trans (congrArg some (by kernel_rfl))
  t0 := Tryd.underlying0
  a0 := Tryd.isAgg0
  z0 := Tryd.sizeOf0
  v0 := Tryd.zeroValue0
  t3 := Tryd.underlying3
  a3 := Tryd.isAgg3
  z3 := Tryd.sizeOf3
  v3 := Tryd.zeroValue3
  t4 := Tryd.underlying4
  a4 := Tryd.isAgg4
  z4 := Tryd.sizeOf4
  v4 := Tryd.zeroValue4
  t5 := Tryd.underlying5
  a5 := Tryd.isAgg5
  z5 := Tryd.sizeOf5
  v5 := Tryd.zeroValue5
  t9 := Tryd.underlying9
  a9 := Tryd.isAgg9
  z9 := Tryd.sizeOf9
  v9 := Tryd.zeroValue9
  t12 := Tryd.underlying12
  a12 := Tryd.isAgg12
  z12 := Tryd.sizeOf12
  v12 := Tryd.zeroValue12
  t46 := Tryd.underlying64
  a46 := Tryd.isAgg64
  z46 := Tryd.sizeOf64
  v46 := Tryd.zeroValue64
  t53 := Tryd.underlying69
  a53 := Tryd.isAgg69
  z53 := Tryd.sizeOf69
  v53 := Tryd.zeroValue69
  t119 := Tryd.underlying60
  a119 := Tryd.isAgg60
  z119 := Tryd.sizeOf60
  t138 := Tryd.underlying62
  a138 := Tryd.isAgg62
  z138 := Tryd.sizeOf62
  v138 := Tryd.zeroValue62
  t139 := Tryd.underlying63
  a139 := Tryd.isAgg63
  z139 := Tryd.sizeOf63
  v139 := Tryd.zeroValue63
  g3 := by kernel_rfl
  g4 := by kernel_rfl }

/-- DecodeRune of a slice that is not nil. -/
theorem decode_any (s : ByteArray) (b off cap : Nat) (w : World) (hT : Lib.Utf8Tabs 0 1 w)
    (hp : ∀ j, j < s.size → w.cell? ⟨b, off + j, none⟩ = some (.int .u8 (s.get! j).toNat)) :
    Calls Tryd.prog 30 #[.slice (some ⟨b, off, none⟩) s.size cap] w fun e w' => e = .returned (.tuple #[.int .i32 (Lib.decodeGo s).1, .int .i64 (Lib.decodeGo s).2]) ∧ Below w.heap.size w w' := Any7.utf8_DecodeRune decL s b off cap w hT hp

theorem valid_any (s : ByteArray) (w : World) (hs : s.size ≤ 9223372036854775807) (hT : Lib.Utf8Tabs 0 1 w) :
    Calls Tryd.prog 25 #[.string s] w fun e w' => e = .returned (.bool (Lib.validD s.data.toList)) ∧ Below w.heap.size w w' := Any.utf8_ValidString valL s w hs hT

end Go.Proofs.YtmnoiknpamfmoaaDoor
