/- Texts ShelfJ, V71, V41, V42, V43, V44, V45, joined: walks and laws. -/
import Derived.Ground.Names2Prog
import Derived.Ground.SlbtProg
import Derived.Ground.SlgnProg
import Derived.Lib.AppendIntMem
import Derived.Shelf.Bytes.SlCut
import Derived.Shelf.Bytes.SlSmallAll
import Derived.Shelf.Bytes.WriteStringAt
import Derived.Shelf.LaysC
import Derived.Shelf.LaysM
import Derived.Shelf.Strconv.AtoiAll
import Derived.Shelf.Strconv.Itoa3
import Derived.Shelf.Strings.OnBuilder
import Derived.Shelf.Strings.Repeat
import Derived.Shelf.Strings.Split
import Derived.Test.YtcifdllbnbhcdaaGreatDoorMV10
import Derived.Test.YtcifdllbnbhcdaaGreatDoorProg
set_option linter.unusedSimpArgs false
set_option linter.unusedVariables false
namespace Go.Proofs
open Go.Shelf
def Tryz.lays156_ren : Go.Shelf.Ren := ⟨fun | 156 => 383 | 165 => 412 | 166 => 413 | 169 => 414 | 240 => 429 | 241 => 430 | 276 => 446 | 277 => 447 | n => n, fun | 31 => 49 | 9 => 9 | 3 => 3 | 4 => 4 | 0 => 0 | 20 => 20 | 72 => 521 | 76 => 492 | 70 => 519 | 37 => 62 | 75 => 491 | 127 => 533 | 164 => 542 | 5 => 5 | 80 => 523 | n => n, fun | n => n⟩
theorem Tryz.lays156 : Go.Proofs.Lays.n156 Tryz.prog Tryz.lays156_ren := {
  mixed := by kernel_rfl
  f156 := Tryz.func383.trans (congrArg some (by kernel_rfl))
  f165 := Tryz.func412.trans (congrArg some (by kernel_rfl))
  f166 := Tryz.func413.trans (congrArg some (by kernel_rfl))
  f169 := Tryz.func414.trans (congrArg some (by kernel_rfl))
  f240 := Tryz.func429.trans (congrArg some (by kernel_rfl))
  f241 := Tryz.func430.trans (congrArg some (by kernel_rfl))
  f276 := Tryz.func446.trans (congrArg some (by kernel_rfl))
  f277 := Tryz.func447.trans (congrArg some (by kernel_rfl))
  t0 := Tryz.underlying0
  a0 := Tryz.isAgg0
  z0 := Tryz.sizeOf0
  v0 := Tryz.zeroValue0
  t3 := Tryz.underlying3
  a3 := Tryz.isAgg3
  z3 := Tryz.sizeOf3
  v3 := Tryz.zeroValue3
  t4 := Tryz.underlying4
  a4 := Tryz.isAgg4
  z4 := Tryz.sizeOf4
  v4 := Tryz.zeroValue4
  t9 := Tryz.underlying9
  a9 := Tryz.isAgg9
  z9 := Tryz.sizeOf9
  v9 := Tryz.zeroValue9
  t20 := Tryz.underlying20
  a20 := Tryz.isAgg20
  z20 := Tryz.sizeOf20
  v20 := Tryz.zeroValue20
  t31 := Tryz.underlying49
  a31 := Tryz.isAgg49
  z31 := Tryz.sizeOf49
  v31 := Tryz.zeroValue49
  t37 := Tryz.underlying62
  a37 := Tryz.isAgg62
  z37 := Tryz.sizeOf62
  v37 := Tryz.zeroValue62
  t70 := Tryz.underlying519
  a70 := Tryz.isAgg519
  z70 := Tryz.sizeOf519
  v70 := Tryz.zeroValue519
  t72 := Tryz.underlying521
  a72 := Tryz.isAgg521
  z72 := Tryz.sizeOf521
  v72 := Tryz.zeroValue521
  t75 := Tryz.underlying491
  a75 := Tryz.isAgg491
  z75 := Tryz.sizeOf491
  v75 := Tryz.zeroValue491
  t76 := Tryz.underlying492
  a76 := Tryz.isAgg492
  z76 := Tryz.sizeOf492
  v76 := Tryz.zeroValue492
  t127 := Tryz.underlying533
  a127 := Tryz.isAgg533
  z127 := Tryz.sizeOf533
  v127 := Tryz.zeroValue533
  t164 := Tryz.underlying542
  a164 := Tryz.isAgg542
  z164 := Tryz.sizeOf542
  v164 := Tryz.zeroValue542 }
theorem Tryz.Builder_Extra_156 : Builder.Extra Tryz.prog Tryz.lays156_ren := {
  sizeBuilder := by kernel_rfl
  liesBuilder := by kernel_rfl
  t5 := Tryz.underlying5
  a5 := Tryz.isAgg5
  z5 := Tryz.sizeOf5
  v5 := Tryz.zeroValue5
  infoByte := by kernel_rfl
  cellsByte := by kernel_rfl
  sizeByte := by kernel_rfl
  neB5 := by decide }
open Go.RowKit in
theorem Tryz.strings_Join (bk o c : Nat) (xs : List ByteArray) (sep : ByteArray) (w : World) (hcells : ∀ (j : Nat) x, xs[j]? = some x → w.cell? ⟨bk, o + j, none⟩ = some (.string x)) (hbk : bk < w.heap.size) (hN : xs.length ≤ 140737488355328) (hcap : xs.length ≤ c) (hlen : (Lib.join (xs.map (·.data.toList)) sep.data.toList).length ≤ 140737488355328) :
    Calls Tryz.prog 383 #[.slice (some ⟨bk, o, none⟩) xs.length c, .string sep] w fun e w' => e = .returned (.string ⟨(Lib.join (xs.map (·.data.toList)) sep.data.toList).toArray⟩) ∧ Below w.heap.size w w' := Any.strings_Join Tryz.lays156 Tryz.Builder_Extra_156 bk o c xs sep w hcells hbk hN hcap hlen
def Tryz.laysM171_ren : Go.Shelf.Ren := ⟨fun | 171 => 25 | 243 => 48 | 246 => 78 | 283 => 113 | 284 => 114 | 285 => 115 | 286 => 116 | 129 => 89 | 317 => 204 | 318 => 205 | 319 => 206 | 320 => 207 | 337 => 287 | 338 => 288 | n => n, fun | 3 => 3 | 9 => 9 | 2 => 2 | 4 => 4 | 171 => 223 | 0 => 0 | 53 => 177 | 37 => 62 | 5 => 5 | 173 => 225 | 212 => 335 | 51 => 175 | 20 => 20 | 213 => 336 | 46 => 122 | 232 => 462 | 233 => 463 | n => n, fun | 17 => 0 | 18 => 1 | 19 => 2 | n => n⟩
theorem Tryz.laysM171 : Go.Proofs.LaysM.n171 Tryz.prog Tryz.laysM171_ren := {
  mixed := by kernel_rfl
  f129 := Tryz.func89.trans (congrArg some (by kernel_rfl))
  f171 := Tryz.func25.trans (congrArg some (by kernel_rfl))
  f243 := Tryz.func48.trans (congrArg some (by kernel_rfl))
  f246 := Tryz.func78.trans (congrArg some (by kernel_rfl))
  f283 := Tryz.func113.trans (congrArg some (by kernel_rfl))
  f284 := Tryz.func114.trans (congrArg some (by kernel_rfl))
  f285 := Tryz.func115.trans (congrArg some (by kernel_rfl))
  f286 := Tryz.func116.trans (congrArg some (by kernel_rfl))
  f317 := Tryz.func204.trans (congrArg some (by kernel_rfl))
  f318 := Tryz.func205.trans (congrArg some (by kernel_rfl))
  f319 := Tryz.func206.trans (congrArg some (by kernel_rfl))
  f320 := Tryz.func207.trans (congrArg some (by kernel_rfl))
  f337 := Tryz.func287.trans (congrArg some (by kernel_rfl))
  f338 := Tryz.func288.trans (congrArg some (by kernel_rfl))
  t0 := Tryz.underlying0
  a0 := Tryz.isAgg0
  z0 := Tryz.sizeOf0
  v0 := Tryz.zeroValue0
  t2 := Tryz.underlying2
  a2 := Tryz.isAgg2
  z2 := Tryz.sizeOf2
  v2 := Tryz.zeroValue2
  t3 := Tryz.underlying3
  a3 := Tryz.isAgg3
  z3 := Tryz.sizeOf3
  v3 := Tryz.zeroValue3
  t4 := Tryz.underlying4
  a4 := Tryz.isAgg4
  z4 := Tryz.sizeOf4
  v4 := Tryz.zeroValue4
  t5 := Tryz.underlying5
  a5 := Tryz.isAgg5
  z5 := Tryz.sizeOf5
  v5 := Tryz.zeroValue5
  t9 := Tryz.underlying9
  a9 := Tryz.isAgg9
  z9 := Tryz.sizeOf9
  v9 := Tryz.zeroValue9
  t20 := Tryz.underlying20
  a20 := Tryz.isAgg20
  z20 := Tryz.sizeOf20
  v20 := Tryz.zeroValue20
  t37 := Tryz.underlying62
  a37 := Tryz.isAgg62
  z37 := Tryz.sizeOf62
  v37 := Tryz.zeroValue62
  t46 := Tryz.underlying122
  a46 := Tryz.isAgg122
  z46 := Tryz.sizeOf122
  v46 := Tryz.zeroValue122
  t51 := Tryz.underlying175
  a51 := Tryz.isAgg175
  z51 := Tryz.sizeOf175
  v51 := Tryz.zeroValue175
  t53 := Tryz.underlying177
  a53 := Tryz.isAgg177
  z53 := Tryz.sizeOf177
  v53 := Tryz.zeroValue177
  t171 := Tryz.underlying223
  a171 := Tryz.isAgg223
  z171 := Tryz.sizeOf223
  v171 := Tryz.zeroValue223
  t173 := Tryz.underlying225
  a173 := Tryz.isAgg225
  z173 := Tryz.sizeOf225
  v173 := Tryz.zeroValue225
  t212 := Tryz.underlying335
  a212 := Tryz.isAgg335
  z212 := Tryz.sizeOf335
  v212 := Tryz.zeroValue335
  t213 := Tryz.underlying336
  a213 := Tryz.isAgg336
  z213 := Tryz.sizeOf336
  t232 := Tryz.underlying462
  a232 := Tryz.isAgg462
  z232 := Tryz.sizeOf462
  v232 := Tryz.zeroValue462
  t233 := Tryz.underlying463
  a233 := Tryz.isAgg463
  z233 := Tryz.sizeOf463
  v233 := Tryz.zeroValue463
  g17 := by kernel_rfl
  g18 := by kernel_rfl
  g19 := by kernel_rfl
  i0 := by kernel_rfl
  i2 := by kernel_rfl
  i3 := by kernel_rfl
  i4 := by kernel_rfl
  i5 := by kernel_rfl
  i9 := by kernel_rfl
  i20 := by kernel_rfl
  i37 := by kernel_rfl
  i46 := by kernel_rfl
  i51 := by kernel_rfl
  i53 := by kernel_rfl
  i171 := by kernel_rfl
  i173 := by kernel_rfl
  i212 := by kernel_rfl
  i232 := by kernel_rfl
  i233 := by kernel_rfl
  m17 := by kernel_rfl
  m18 := by kernel_rfl
  m19 := by kernel_rfl }
open Go.RowKit Go.Sort Go.Lib in
theorem Tryz.strconv_Itoa (n : Int) (h0 : -9223372036854775808 ≤ n) (h1 : n ≤ 9223372036854775807) (w : World) (htab : Lib.TabIs Tryz.prog w "internal/strconv.uint64pow10" .u64 Lib.pow10Tab) :
    Calls Tryz.prog 25 #[.int .i64 n] w fun e w' => e = .returned (.string ⟨(Lib.itoa n).toArray⟩) ∧ ∃ k os, w' = grow (w.drewN k) os := Any.strconv_Itoa Tryz.laysM171 n h0 h1 w htab
def Tryz.laysC172_ren : Go.Shelf.Ren := ⟨fun | 172 => 403 | 244 => 423 | 245 => 424 | 247 => 440 | 279 => 441 | 280 => 442 | 281 => 443 | 282 => 444 | 287 => 454 | 316 => 455 | 171 => 25 | 205 => 456 | 321 => 461 | 322 => 462 | 243 => 48 | 246 => 78 | 283 => 113 | 284 => 114 | 285 => 115 | 286 => 116 | 129 => 89 | 317 => 204 | 318 => 205 | 319 => 206 | 320 => 207 | 337 => 287 | 338 => 288 | n => n, fun | 9 => 9 | 3 => 3 | 75 => 491 | 76 => 492 | 4 => 4 | 5 => 5 | 167 => 536 | 37 => 62 | 0 => 0 | 85 => 537 | 2 => 2 | 168 => 539 | 53 => 177 | 175 => 549 | 46 => 122 | 210 => 553 | 127 => 533 | 145 => 558 | 143 => 556 | 21 => 21 | 171 => 223 | 173 => 225 | 212 => 335 | 51 => 175 | 20 => 20 | 213 => 336 | 232 => 462 | 233 => 463 | 80 => 523 | n => n, fun | 15 => 5 | 16 => 6 | 17 => 0 | 18 => 1 | 19 => 2 | n => n⟩
theorem Tryz.laysC172 : Go.Proofs.LaysC.n172 Tryz.prog Tryz.laysC172_ren := {
  mixed := by kernel_rfl
  f129 := Tryz.func89.trans (congrArg some (by kernel_rfl))
  f171 := Tryz.func25.trans (congrArg some (by kernel_rfl))
  f172 := Tryz.func403.trans (congrArg some (by kernel_rfl))
  f205 := Tryz.func456.trans (congrArg some (by kernel_rfl))
  f243 := Tryz.func48.trans (congrArg some (by kernel_rfl))
  f244 := Tryz.func423.trans (congrArg some (by kernel_rfl))
  f245 := Tryz.func424.trans (congrArg some (by kernel_rfl))
  f246 := Tryz.func78.trans (congrArg some (by kernel_rfl))
  f247 := Tryz.func440.trans (congrArg some (by kernel_rfl))
  f279 := Tryz.func441.trans (congrArg some (by kernel_rfl))
  f280 := Tryz.func442.trans (congrArg some (by kernel_rfl))
  f281 := Tryz.func443.trans (congrArg some (by kernel_rfl))
  f282 := Tryz.func444.trans (congrArg some (by kernel_rfl))
  f283 := Tryz.func113.trans (congrArg some (by kernel_rfl))
  f284 := Tryz.func114.trans (congrArg some (by kernel_rfl))
  f285 := Tryz.func115.trans (congrArg some (by kernel_rfl))
  f286 := Tryz.func116.trans (congrArg some (by kernel_rfl))
  f287 := Tryz.func454.trans (congrArg some (by kernel_rfl))
  f316 := Tryz.func455.trans (congrArg some (by kernel_rfl))
  f317 := Tryz.func204.trans (congrArg some (by kernel_rfl))
  f318 := Tryz.func205.trans (congrArg some (by kernel_rfl))
  f319 := Tryz.func206.trans (congrArg some (by kernel_rfl))
  f320 := Tryz.func207.trans (congrArg some (by kernel_rfl))
  f321 := Tryz.func461.trans (congrArg some (by kernel_rfl))
  f322 := Tryz.func462.trans (congrArg some (by kernel_rfl))
  f337 := Tryz.func287.trans (congrArg some (by kernel_rfl))
  f338 := Tryz.func288.trans (congrArg some (by kernel_rfl))
  t0 := Tryz.underlying0
  a0 := Tryz.isAgg0
  z0 := Tryz.sizeOf0
  v0 := Tryz.zeroValue0
  t2 := Tryz.underlying2
  a2 := Tryz.isAgg2
  z2 := Tryz.sizeOf2
  v2 := Tryz.zeroValue2
  t3 := Tryz.underlying3
  a3 := Tryz.isAgg3
  z3 := Tryz.sizeOf3
  v3 := Tryz.zeroValue3
  t4 := Tryz.underlying4
  a4 := Tryz.isAgg4
  z4 := Tryz.sizeOf4
  v4 := Tryz.zeroValue4
  t5 := Tryz.underlying5
  a5 := Tryz.isAgg5
  z5 := Tryz.sizeOf5
  v5 := Tryz.zeroValue5
  t9 := Tryz.underlying9
  a9 := Tryz.isAgg9
  z9 := Tryz.sizeOf9
  v9 := Tryz.zeroValue9
  t20 := Tryz.underlying20
  a20 := Tryz.isAgg20
  z20 := Tryz.sizeOf20
  v20 := Tryz.zeroValue20
  t21 := Tryz.underlying21
  a21 := Tryz.isAgg21
  z21 := Tryz.sizeOf21
  v21 := Tryz.zeroValue21
  t37 := Tryz.underlying62
  a37 := Tryz.isAgg62
  z37 := Tryz.sizeOf62
  v37 := Tryz.zeroValue62
  t46 := Tryz.underlying122
  a46 := Tryz.isAgg122
  z46 := Tryz.sizeOf122
  v46 := Tryz.zeroValue122
  t51 := Tryz.underlying175
  a51 := Tryz.isAgg175
  z51 := Tryz.sizeOf175
  v51 := Tryz.zeroValue175
  t53 := Tryz.underlying177
  a53 := Tryz.isAgg177
  z53 := Tryz.sizeOf177
  v53 := Tryz.zeroValue177
  t75 := Tryz.underlying491
  a75 := Tryz.isAgg491
  z75 := Tryz.sizeOf491
  v75 := Tryz.zeroValue491
  t76 := Tryz.underlying492
  a76 := Tryz.isAgg492
  z76 := Tryz.sizeOf492
  v76 := Tryz.zeroValue492
  t85 := Tryz.underlying537
  a85 := Tryz.isAgg537
  z85 := Tryz.sizeOf537
  v85 := Tryz.zeroValue537
  t127 := Tryz.underlying533
  a127 := Tryz.isAgg533
  z127 := Tryz.sizeOf533
  v127 := Tryz.zeroValue533
  t143 := Tryz.underlying556
  a143 := Tryz.isAgg556
  z143 := Tryz.sizeOf556
  v143 := Tryz.zeroValue556
  t145 := Tryz.underlying558
  a145 := Tryz.isAgg558
  z145 := Tryz.sizeOf558
  v145 := Tryz.zeroValue558
  t167 := Tryz.underlying536
  a167 := Tryz.isAgg536
  z167 := Tryz.sizeOf536
  v167 := Tryz.zeroValue536
  t168 := Tryz.underlying539
  a168 := Tryz.isAgg539
  z168 := Tryz.sizeOf539
  v168 := Tryz.zeroValue539
  t171 := Tryz.underlying223
  a171 := Tryz.isAgg223
  z171 := Tryz.sizeOf223
  v171 := Tryz.zeroValue223
  t173 := Tryz.underlying225
  a173 := Tryz.isAgg225
  z173 := Tryz.sizeOf225
  v173 := Tryz.zeroValue225
  t175 := Tryz.underlying549
  a175 := Tryz.isAgg549
  z175 := Tryz.sizeOf549
  v175 := Tryz.zeroValue549
  t210 := Tryz.underlying553
  a210 := Tryz.isAgg553
  z210 := Tryz.sizeOf553
  v210 := Tryz.zeroValue553
  t212 := Tryz.underlying335
  a212 := Tryz.isAgg335
  z212 := Tryz.sizeOf335
  v212 := Tryz.zeroValue335
  t213 := Tryz.underlying336
  a213 := Tryz.isAgg336
  z213 := Tryz.sizeOf336
  t232 := Tryz.underlying462
  a232 := Tryz.isAgg462
  z232 := Tryz.sizeOf462
  v232 := Tryz.zeroValue462
  t233 := Tryz.underlying463
  a233 := Tryz.isAgg463
  z233 := Tryz.sizeOf463
  v233 := Tryz.zeroValue463
  g15 := by kernel_rfl
  g16 := by kernel_rfl
  g17 := by kernel_rfl
  g18 := by kernel_rfl
  g19 := by kernel_rfl
  t80 := Tryz.underlying523
  a80 := Tryz.isAgg523
  z80 := Tryz.sizeOf523
  v80 := Tryz.zeroValue523
  i0 := by kernel_rfl
  i2 := by kernel_rfl
  i3 := by kernel_rfl
  i4 := by kernel_rfl
  i5 := by kernel_rfl
  i9 := by kernel_rfl
  i20 := by kernel_rfl
  i21 := by kernel_rfl
  i37 := by kernel_rfl
  i46 := by kernel_rfl
  i51 := by kernel_rfl
  i53 := by kernel_rfl
  i75 := by kernel_rfl
  i76 := by kernel_rfl
  i80 := by kernel_rfl
  i85 := by kernel_rfl
  i127 := by kernel_rfl
  i143 := by kernel_rfl
  i145 := by kernel_rfl
  i167 := by kernel_rfl
  i168 := by kernel_rfl
  i171 := by kernel_rfl
  i173 := by kernel_rfl
  i175 := by kernel_rfl
  i210 := by kernel_rfl
  i212 := by kernel_rfl
  i232 := by kernel_rfl
  i233 := by kernel_rfl
  m15 := by kernel_rfl
  m16 := by kernel_rfl
  m17 := by kernel_rfl
  m18 := by kernel_rfl
  m19 := by kernel_rfl
  c0 := by kernel_rfl
  c2 := by kernel_rfl
  c3 := by kernel_rfl
  c4 := by kernel_rfl
  c5 := by kernel_rfl
  c9 := by kernel_rfl
  c20 := by kernel_rfl
  c21 := by kernel_rfl
  c37 := by kernel_rfl
  c46 := by kernel_rfl
  c51 := by kernel_rfl
  c53 := by kernel_rfl
  c75 := by kernel_rfl
  c76 := by kernel_rfl
  c80 := by kernel_rfl
  c85 := by kernel_rfl
  c127 := by kernel_rfl
  c143 := by kernel_rfl
  c145 := by kernel_rfl
  c167 := by kernel_rfl
  c168 := by kernel_rfl
  c171 := by kernel_rfl
  c173 := by kernel_rfl
  c175 := by kernel_rfl
  c210 := by kernel_rfl
  c212 := by kernel_rfl
  c213 := by kernel_rfl
  c232 := by kernel_rfl
  c233 := by kernel_rfl }
open Go.RowKit in
theorem Tryz.strconv_Atoi_ok (s : ByteArray) (hmax : s.size ≤ 9223372036854775806) (v : Int) (h : Lib.atoiAll s.data.toList = .ok v) (w : World) :
    Calls Tryz.prog 403 #[.string s] w fun e w' => e = .returned (.tuple #[.int .i64 v, .nilIface]) ∧ (w' = w ∨ ∃ t, w' = Lib.bytesWorld w 5 t) := Any.strconv_Atoi_ok Tryz.laysC172 s hmax v h w
open Go.RowKit in
theorem Tryz.strconv_Atoi_syntax (s : ByteArray) (hlim : s.size ≤ 281474976710656) (h : Lib.atoiAll s.data.toList = Lib.atoiAll []) (ev : Value) (w : World) (hv : w.cell? ⟨5, 0, none⟩ = some ev) (hev : ev = .nilIface ∨ ∃ te pe, ev = .iface te pe) :
    Calls Tryz.prog 403 #[.string s] w fun e w' => ∃ N, e = .returned (.tuple #[.int .i64 (0), .iface 539 (.pointer (some ⟨N, 0, none⟩))]) ∧ w.heap.size ≤ N ∧ w'.heap[N]? = some (.cells #[.string ⟨#[65, 116, 111, 105]⟩, .string s, ev] 553 (0, 0)) ∧ Below w.heap.size w w' := Any.strconv_Atoi_syntax Tryz.laysC172 s hlim h ev w hv hev
open Go.RowKit in
theorem Tryz.strconv_Atoi_range (s : ByteArray) (hlim : s.size ≤ 281474976710656) (h : Lib.atoiAll s.data.toList = .range) (ev : Value) (w : World) (hv : w.cell? ⟨6, 0, none⟩ = some ev) (hev : ev = .nilIface ∨ ∃ te pe, ev = .iface te pe) :
    Calls Tryz.prog 403 #[.string s] w fun e w' => ∃ N, e = .returned (.tuple #[.int .i64 (Lib.atoiSat s.data.toList), .iface 539 (.pointer (some ⟨N, 0, none⟩))]) ∧ w.heap.size ≤ N ∧ w'.heap[N]? = some (.cells #[.string ⟨#[65, 116, 111, 105]⟩, .string s, ev] 553 (0, 0)) ∧ Below w.heap.size w w' := Any.strconv_Atoi_range Tryz.laysC172 s hlim h ev w hv hev
def Tryz.laysM178_ren : Go.Shelf.Ren := ⟨fun | 178 => 382 | 251 => 410 | 252 => 411 | 181 => 426 | 184 => 427 | 290 => 428 | 324 => 445 | n => n, fun | 130 => 496 | 9 => 9 | 3 => 3 | 75 => 491 | 0 => 0 | 93 => 448 | 91 => 446 | 131 => 91 | 4 => 4 | 37 => 62 | 20 => 20 | 80 => 523 | 5 => 5 | n => n, fun | 14 => 3 | n => n⟩
theorem Tryz.laysM178 : Go.Proofs.LaysM.n178 Tryz.prog Tryz.laysM178_ren := {
  mixed := by kernel_rfl
  f178 := Tryz.func382.trans (congrArg some (by kernel_rfl))
  f181 := Tryz.func426.trans (congrArg some (by kernel_rfl))
  f184 := Tryz.func427.trans (congrArg some (by kernel_rfl))
  f251 := Tryz.func410.trans (congrArg some (by kernel_rfl))
  f252 := Tryz.func411.trans (congrArg some (by kernel_rfl))
  f290 := Tryz.func428.trans (congrArg some (by kernel_rfl))
  f324 := Tryz.func445.trans (congrArg some (by kernel_rfl))
  t0 := Tryz.underlying0
  a0 := Tryz.isAgg0
  z0 := Tryz.sizeOf0
  v0 := Tryz.zeroValue0
  t3 := Tryz.underlying3
  a3 := Tryz.isAgg3
  z3 := Tryz.sizeOf3
  v3 := Tryz.zeroValue3
  t4 := Tryz.underlying4
  a4 := Tryz.isAgg4
  z4 := Tryz.sizeOf4
  v4 := Tryz.zeroValue4
  t9 := Tryz.underlying9
  a9 := Tryz.isAgg9
  z9 := Tryz.sizeOf9
  v9 := Tryz.zeroValue9
  t20 := Tryz.underlying20
  a20 := Tryz.isAgg20
  z20 := Tryz.sizeOf20
  v20 := Tryz.zeroValue20
  t37 := Tryz.underlying62
  a37 := Tryz.isAgg62
  z37 := Tryz.sizeOf62
  v37 := Tryz.zeroValue62
  t75 := Tryz.underlying491
  a75 := Tryz.isAgg491
  z75 := Tryz.sizeOf491
  v75 := Tryz.zeroValue491
  t91 := Tryz.underlying446
  a91 := Tryz.isAgg446
  z91 := Tryz.sizeOf446
  v91 := Tryz.zeroValue446
  t93 := Tryz.underlying448
  a93 := Tryz.isAgg448
  z93 := Tryz.sizeOf448
  v93 := Tryz.zeroValue448
  t130 := Tryz.underlying496
  a130 := Tryz.isAgg496
  z130 := Tryz.sizeOf496
  v130 := Tryz.zeroValue496
  t131 := Tryz.underlying91
  a131 := Tryz.isAgg91
  z131 := Tryz.sizeOf91
  v131 := Tryz.zeroValue91
  g14 := by kernel_rfl
  t5 := Tryz.underlying5
  a5 := Tryz.isAgg5
  z5 := Tryz.sizeOf5
  v5 := Tryz.zeroValue5
  t80 := Tryz.underlying523
  a80 := Tryz.isAgg523
  z80 := Tryz.sizeOf523
  v80 := Tryz.zeroValue523
  i0 := by kernel_rfl
  i3 := by kernel_rfl
  i4 := by kernel_rfl
  i5 := by kernel_rfl
  i9 := by kernel_rfl
  i20 := by kernel_rfl
  i37 := by kernel_rfl
  i75 := by kernel_rfl
  i80 := by kernel_rfl
  i91 := by kernel_rfl
  i93 := by kernel_rfl
  i130 := by kernel_rfl
  i131 := by kernel_rfl
  m14 := by kernel_rfl }
open Go.RowKit in
theorem Tryz.Buffer_WriteString_at (T : TypeId) (R : Nat → Option Value) (B b q : Nat) (bs : List Value) (s : ByteArray) (w : World) (h : LibA.IsBuffer T R 5 B b q bs w) (hBw : B ≤ w.heap.size) (h1 : ∀ v ∈ bs, v.oneCell' = true) (hlim : bs.length + s.size ≤ 140737488355328) :
    Calls Tryz.prog 382 #[.pointer (some ⟨b, q, none⟩), .string s] w fun e w' => e = .returned (.tuple #[.int .i64 s.size, .nilIface]) ∧ LibA.IsBuffer T R 5 B b q (bs ++ Lib.byteCells s.data.toList) w' ∧ Below B w w' ∧ Lib.OthersKept 5 (some b) w w' := Any.Buffer_WriteString_at Tryz.laysM178 T R B b q bs s w h hBw h1 hlim
def Tryz.lays146_ren : Go.Shelf.Ren := ⟨fun | 146 => 402 | 221 => 422 | 268 => 437 | 138 => 438 | 143 => 439 | 195 => 450 | 197 => 451 | 218 => 452 | 219 => 453 | 260 => 457 | 217 => 458 | 225 => 459 | 224 => 435 | 267 => 460 | 266 => 463 | 314 => 464 | n => n, fun | 9 => 9 | 31 => 49 | 3 => 3 | 4 => 4 | 0 => 0 | 105 => 546 | 21 => 21 | 5 => 5 | 46 => 122 | 119 => 559 | 139 => 562 | 138 => 561 | 146 => 512 | 51 => 175 | n => n, fun | 1 => 4 | 3 => 7 | 4 => 8 | n => n⟩
theorem Tryz.lays146 : Go.Proofs.Lays.n146 Tryz.prog Tryz.lays146_ren := {
  mixed := by kernel_rfl
  f138 := Tryz.func438.trans (congrArg some (by kernel_rfl))
  f143 := Tryz.func439.trans (congrArg some (by kernel_rfl))
  f146 := Tryz.func402.trans (congrArg some (by kernel_rfl))
  f195 := Tryz.func450.trans (congrArg some (by kernel_rfl))
  f197 := Tryz.func451.trans (congrArg some (by kernel_rfl))
  f217 := Tryz.func458.trans (congrArg some (by kernel_rfl))
  f218 := Tryz.func452.trans (congrArg some (by kernel_rfl))
  f219 := Tryz.func453.trans (congrArg some (by kernel_rfl))
  f221 := Tryz.func422.trans (congrArg some (by kernel_rfl))
  f224 := Tryz.func435.trans (congrArg some (by kernel_rfl))
  f225 := Tryz.func459.trans (congrArg some (by kernel_rfl))
  f260 := Tryz.func457.trans (congrArg some (by kernel_rfl))
  f266 := Tryz.func463.trans (congrArg some (by kernel_rfl))
  f267 := Tryz.func460.trans (congrArg some (by kernel_rfl))
  f268 := Tryz.func437.trans (congrArg some (by kernel_rfl))
  f314 := Tryz.func464.trans (congrArg some (by kernel_rfl))
  t0 := Tryz.underlying0
  a0 := Tryz.isAgg0
  z0 := Tryz.sizeOf0
  v0 := Tryz.zeroValue0
  t3 := Tryz.underlying3
  a3 := Tryz.isAgg3
  z3 := Tryz.sizeOf3
  v3 := Tryz.zeroValue3
  t4 := Tryz.underlying4
  a4 := Tryz.isAgg4
  z4 := Tryz.sizeOf4
  v4 := Tryz.zeroValue4
  t5 := Tryz.underlying5
  a5 := Tryz.isAgg5
  z5 := Tryz.sizeOf5
  v5 := Tryz.zeroValue5
  t9 := Tryz.underlying9
  a9 := Tryz.isAgg9
  z9 := Tryz.sizeOf9
  v9 := Tryz.zeroValue9
  t21 := Tryz.underlying21
  a21 := Tryz.isAgg21
  z21 := Tryz.sizeOf21
  v21 := Tryz.zeroValue21
  t31 := Tryz.underlying49
  a31 := Tryz.isAgg49
  z31 := Tryz.sizeOf49
  v31 := Tryz.zeroValue49
  t46 := Tryz.underlying122
  a46 := Tryz.isAgg122
  z46 := Tryz.sizeOf122
  v46 := Tryz.zeroValue122
  t51 := Tryz.underlying175
  a51 := Tryz.isAgg175
  z51 := Tryz.sizeOf175
  v51 := Tryz.zeroValue175
  t105 := Tryz.underlying546
  a105 := Tryz.isAgg546
  z105 := Tryz.sizeOf546
  v105 := Tryz.zeroValue546
  t119 := Tryz.underlying559
  a119 := Tryz.isAgg559
  z119 := Tryz.sizeOf559
  t138 := Tryz.underlying561
  a138 := Tryz.isAgg561
  z138 := Tryz.sizeOf561
  v138 := Tryz.zeroValue561
  t139 := Tryz.underlying562
  a139 := Tryz.isAgg562
  z139 := Tryz.sizeOf562
  v139 := Tryz.zeroValue562
  t146 := Tryz.underlying512
  a146 := Tryz.isAgg512
  z146 := Tryz.sizeOf512
  v146 := Tryz.zeroValue512
  g1 := by kernel_rfl
  g3 := by kernel_rfl
  g4 := by kernel_rfl }
open Go.RowKit Go.Lib in
theorem Tryz.strings_Split (s sep : ByteArray) (m : Int) (w : World) (hs : s.size < 4294967281) (hm : w.cell? ⟨4, 0, none⟩ = some (.int .i64 m)) (h1 : 1 ≤ sep.size) :
    Calls Tryz.prog 402 #[.string s, .string sep] w fun e w' =>
      e = .returned (.slice (some ⟨w.heap.size, 0, none⟩) (Lib.countB s sep + 1) (Lib.countB s sep + 1)) ∧ w' = w.alloc (.cells ((Lib.splitB sep 0 (Lib.countB s sep) s).map Value.string).toArray 9) := Any.strings_Split Tryz.lays146 (by kernel_rfl) s sep m w hs hm h1
def Tryz.lays105_ren : Go.Shelf.Ren := ⟨fun | 105 => 385 | 212 => 362 | 99 => 415 | 165 => 412 | 166 => 413 | 170 => 416 | 169 => 414 | 263 => 404 | 264 => 405 | 206 => 431 | 240 => 429 | 241 => 430 | 276 => 446 | 277 => 447 | n => n, fun | 9 => 9 | 3 => 3 | 4 => 4 | 20 => 20 | 0 => 0 | 46 => 122 | 109 => 475 | 5 => 5 | 72 => 521 | 76 => 492 | 51 => 175 | 146 => 512 | 53 => 177 | 148 => 514 | 70 => 519 | 37 => 62 | 75 => 491 | 127 => 533 | 164 => 542 | 80 => 523 | n => n, fun | n => n⟩
theorem Tryz.lays105 : Go.Proofs.Lays.n105 Tryz.prog Tryz.lays105_ren := {
  mixed := by kernel_rfl
  f99 := Tryz.func415.trans (congrArg some (by kernel_rfl))
  f105 := Tryz.func385.trans (congrArg some (by kernel_rfl))
  f165 := Tryz.func412.trans (congrArg some (by kernel_rfl))
  f166 := Tryz.func413.trans (congrArg some (by kernel_rfl))
  f169 := Tryz.func414.trans (congrArg some (by kernel_rfl))
  f170 := Tryz.func416.trans (congrArg some (by kernel_rfl))
  f206 := Tryz.func431.trans (congrArg some (by kernel_rfl))
  f212 := Tryz.func362.trans (congrArg some (by kernel_rfl))
  f240 := Tryz.func429.trans (congrArg some (by kernel_rfl))
  f241 := Tryz.func430.trans (congrArg some (by kernel_rfl))
  f263 := Tryz.func404.trans (congrArg some (by kernel_rfl))
  f264 := Tryz.func405.trans (congrArg some (by kernel_rfl))
  f276 := Tryz.func446.trans (congrArg some (by kernel_rfl))
  f277 := Tryz.func447.trans (congrArg some (by kernel_rfl))
  t0 := Tryz.underlying0
  a0 := Tryz.isAgg0
  z0 := Tryz.sizeOf0
  v0 := Tryz.zeroValue0
  t3 := Tryz.underlying3
  a3 := Tryz.isAgg3
  z3 := Tryz.sizeOf3
  v3 := Tryz.zeroValue3
  t4 := Tryz.underlying4
  a4 := Tryz.isAgg4
  z4 := Tryz.sizeOf4
  v4 := Tryz.zeroValue4
  t5 := Tryz.underlying5
  a5 := Tryz.isAgg5
  z5 := Tryz.sizeOf5
  v5 := Tryz.zeroValue5
  t9 := Tryz.underlying9
  a9 := Tryz.isAgg9
  z9 := Tryz.sizeOf9
  v9 := Tryz.zeroValue9
  t20 := Tryz.underlying20
  a20 := Tryz.isAgg20
  z20 := Tryz.sizeOf20
  v20 := Tryz.zeroValue20
  t37 := Tryz.underlying62
  a37 := Tryz.isAgg62
  z37 := Tryz.sizeOf62
  v37 := Tryz.zeroValue62
  t46 := Tryz.underlying122
  a46 := Tryz.isAgg122
  z46 := Tryz.sizeOf122
  v46 := Tryz.zeroValue122
  t51 := Tryz.underlying175
  a51 := Tryz.isAgg175
  z51 := Tryz.sizeOf175
  v51 := Tryz.zeroValue175
  t53 := Tryz.underlying177
  a53 := Tryz.isAgg177
  z53 := Tryz.sizeOf177
  v53 := Tryz.zeroValue177
  t70 := Tryz.underlying519
  a70 := Tryz.isAgg519
  z70 := Tryz.sizeOf519
  v70 := Tryz.zeroValue519
  t72 := Tryz.underlying521
  a72 := Tryz.isAgg521
  z72 := Tryz.sizeOf521
  v72 := Tryz.zeroValue521
  t75 := Tryz.underlying491
  a75 := Tryz.isAgg491
  z75 := Tryz.sizeOf491
  v75 := Tryz.zeroValue491
  t76 := Tryz.underlying492
  a76 := Tryz.isAgg492
  z76 := Tryz.sizeOf492
  v76 := Tryz.zeroValue492
  t109 := Tryz.underlying475
  a109 := Tryz.isAgg475
  z109 := Tryz.sizeOf475
  v109 := Tryz.zeroValue475
  t127 := Tryz.underlying533
  a127 := Tryz.isAgg533
  z127 := Tryz.sizeOf533
  v127 := Tryz.zeroValue533
  t146 := Tryz.underlying512
  a146 := Tryz.isAgg512
  z146 := Tryz.sizeOf512
  v146 := Tryz.zeroValue512
  t148 := Tryz.underlying514
  a148 := Tryz.isAgg514
  z148 := Tryz.sizeOf514
  v148 := Tryz.zeroValue514
  t164 := Tryz.underlying542
  a164 := Tryz.isAgg542
  z164 := Tryz.sizeOf542
  v164 := Tryz.zeroValue542 }
theorem Tryz.Builder_Extra_105 : Builder.Extra Tryz.prog Tryz.lays105_ren := {
  sizeBuilder := by kernel_rfl
  liesBuilder := by kernel_rfl
  t5 := Tryz.underlying5
  a5 := Tryz.isAgg5
  z5 := Tryz.sizeOf5
  v5 := Tryz.zeroValue5
  infoByte := by kernel_rfl
  cellsByte := by kernel_rfl
  sizeByte := by kernel_rfl
  neB5 := by decide }
open Go.RowKit Go.Lib in
theorem Tryz.strings_Repeat (s : ByteArray) (c : Nat) (w : World) (hc : c ≤ 9223372036854775807) (hlen : s.size * c ≤ 140737488355328) :
    Calls Tryz.prog 385 #[.string s, .int .i64 c] w fun e w' => e = .returned (.string ⟨(Lib.repeatL s.data.toList c).toArray⟩) ∧ Below w.heap.size w w' := Any.strings_Repeat Tryz.lays105 Tryz.Builder_Extra_105 s c w hc hlen
def Tryz.laysnb116_ren : Go.Shelf.Ren := ⟨fun | 116 => 317 | 115 => 359 | n => n, fun | 37 => 62 | 4 => 4 | 3 => 3 | 9 => 9 | 5 => 5 | n => n, fun | n => n⟩
theorem Tryz.laysnb116 : Go.Proofs.Lays.nb116 Tryz.prog Tryz.laysnb116_ren := {
  mixed := by kernel_rfl
  f115 := Tryz.func359.trans (congrArg some (by kernel_rfl))
  f116 := Tryz.func317.trans (congrArg some (by kernel_rfl))
  t3 := Tryz.underlying3
  a3 := Tryz.isAgg3
  z3 := Tryz.sizeOf3
  v3 := Tryz.zeroValue3
  t4 := Tryz.underlying4
  a4 := Tryz.isAgg4
  z4 := Tryz.sizeOf4
  v4 := Tryz.zeroValue4
  t9 := Tryz.underlying9
  a9 := Tryz.isAgg9
  z9 := Tryz.sizeOf9
  v9 := Tryz.zeroValue9
  t37 := Tryz.underlying62
  a37 := Tryz.isAgg62
  z37 := Tryz.sizeOf62
  v37 := Tryz.zeroValue62
  t5 := Tryz.underlying5
  a5 := Tryz.isAgg5
  z5 := Tryz.sizeOf5
  v5 := Tryz.zeroValue5 }
theorem Tryz.bytes_HasPrefix_all (p1 p2 : Option Addr) (n c m d : Nat) (xs ys : List Int) (w : World) (hx : xs.length = n) (hy : ys.length = m) (hnc : n ≤ c) (h1 : Lib.BytesIn w p1 n xs) (h2 : Lib.BytesIn w p2 m ys) :
    Calls Tryz.prog 317 #[.slice p1 n c, .slice p2 m d] w fun e w' => e = .returned (.bool (Lib.hasPrefix (Lib.bytesOf xs) (Lib.bytesOf ys))) ∧ w' = w := Any.bytes_HasPrefix_all Tryz.laysnb116 p1 p2 n c m d xs ys w hx hy hnc h1 h2
def Tryz.laysSlT4_ren : Go.Shelf.Ren := ⟨fun | 4 => 401 | 5 => 421 | 6 => 433 | 7 => 359 | 8 => 434 | 9 => 435 | 10 => 436 | 11 => 448 | 12 => 449 | n => n, fun | 22 => 62 | 4 => 4 | 3 => 3 | 0 => 0 | 5 => 5 | 29 => 122 | 9 => 9 | 31 => 512 | 30 => 175 | n => n, fun | 0 => 4 | n => n⟩
theorem Tryz.laysSlT4 : Go.Proofs.SlLaysT.n4 Tryz.prog Tryz.laysSlT4_ren := {
  mixed := by kernel_rfl
  f4 := Tryz.func401.trans (congrArg some (by kernel_rfl))
  f5 := Tryz.func421.trans (congrArg some (by kernel_rfl))
  f6 := Tryz.func433.trans (congrArg some (by kernel_rfl))
  f7 := Tryz.func359.trans (congrArg some (by kernel_rfl))
  f8 := Tryz.func434.trans (congrArg some (by kernel_rfl))
  f9 := Tryz.func435.trans (congrArg some (by kernel_rfl))
  f10 := Tryz.func436.trans (congrArg some (by kernel_rfl))
  f11 := Tryz.func448.trans (congrArg some (by kernel_rfl))
  f12 := Tryz.func449.trans (congrArg some (by kernel_rfl))
  t0 := Tryz.underlying0
  a0 := Tryz.isAgg0
  z0 := Tryz.sizeOf0
  v0 := Tryz.zeroValue0
  t3 := Tryz.underlying3
  a3 := Tryz.isAgg3
  z3 := Tryz.sizeOf3
  v3 := Tryz.zeroValue3
  t4 := Tryz.underlying4
  a4 := Tryz.isAgg4
  z4 := Tryz.sizeOf4
  v4 := Tryz.zeroValue4
  t5 := Tryz.underlying5
  a5 := Tryz.isAgg5
  z5 := Tryz.sizeOf5
  v5 := Tryz.zeroValue5
  t9 := Tryz.underlying9
  a9 := Tryz.isAgg9
  z9 := Tryz.sizeOf9
  v9 := Tryz.zeroValue9
  t22 := Tryz.underlying62
  a22 := Tryz.isAgg62
  z22 := Tryz.sizeOf62
  v22 := Tryz.zeroValue62
  t29 := Tryz.underlying122
  a29 := Tryz.isAgg122
  z29 := Tryz.sizeOf122
  v29 := Tryz.zeroValue122
  t30 := Tryz.underlying175
  a30 := Tryz.isAgg175
  z30 := Tryz.sizeOf175
  v30 := Tryz.zeroValue175
  t31 := Tryz.underlying512
  a31 := Tryz.isAgg512
  z31 := Tryz.sizeOf512
  v31 := Tryz.zeroValue512
  g0 := by kernel_rfl }
theorem Tryz.bytes_Cut_all (p1 p2 : Option Addr) (n c1 k c2 : Nat) (xs ys : List Int) (m : Int) (w : World) (hx : xs.length = n) (hy : ys.length = k) (hr1 : ∀ x ∈ xs, 0 ≤ x ∧ x < 256) (hr2 : ∀ y ∈ ys, 0 ≤ y ∧ y < 256) (h1 : Lib.BytesIn w p1 n xs) (h2 : Lib.BytesIn w p2 k ys) (hp1 : p1 = none → c1 = 0) (hcap : n ≤ c1) (hs : n < 4294967281) (hk : k ≤ 9223372036854775807) (hm : w.cell? ⟨4, 0, none⟩ = some (.int .i64 m)) :
    Calls Tryz.prog 401 #[.slice p1 n c1, .slice p2 k c2] w fun e w' => e = .returned (Lib.cutV p1 n c1 k (Lib.index (Lib.bytesOf xs) (Lib.bytesOf ys))) ∧ ∃ q, w' = w.drewN q := Any.bytes_Cut_all Tryz.laysSlT4 p1 p2 n c1 k c2 xs ys m w hx hy hr1 hr2 h1 h2 hp1 hcap hs hk hm
end Go.Proofs
namespace Go.Proofs.YtcifdllbnbhcdaaGreatDoor
open Go.RowKit
structure Env (w : World) : Prop where
  tz : Tz w
  pow : Lib.TabIs Tryz.prog w "internal/strconv.uint64pow10" .u64 Lib.pow10Tab
  max : ∃ m : Int, w.cell? ⟨4, 0, none⟩ = some (.int .i64 m)
  syn : ∃ ev, w.cell? ⟨5, 0, none⟩ = some ev ∧ (ev = .nilIface ∨ ∃ te pe, ev = .iface te pe)
  rng : ∃ ev, w.cell? ⟨6, 0, none⟩ = some ev ∧ (ev = .nilIface ∨ ∃ te pe, ev = .iface te pe)
theorem Env.below {w w' : World} (h : Env w) (hb : Below w.heap.size w w') : Env w' := by
  refine ⟨h.tz.below hb, Lib.tabBelow_of_tabIs h.pow w' hb, ?_, ?_, ?_⟩
  · obtain ⟨m, hm⟩ := h.max
    exact ⟨m, by rw [hb.cell (lt_of_cell hm)]; exact hm⟩
  · obtain ⟨m, hm, hv⟩ := h.syn
    exact ⟨m, by rw [hb.cell (lt_of_cell hm)]; exact hm, hv⟩
  · obtain ⟨m, hm, hv⟩ := h.rng
    exact ⟨m, by rw [hb.cell (lt_of_cell hm)]; exact hm, hv⟩
theorem itoa_any (n : Int) (h0 : 0 ≤ n) (h1 : n ≤ 9223372036854775807) (w : World) (hE : Env w) : Calls Tryz.prog 25 #[.int .i64 n] w (RetB (.string (arr (Lib.itoa n))) w) := by
  refine (Tryz.strconv_Itoa n (by omega) h1 w hE.pow).mono ?_
  rintro e w' ⟨rfl, k, os, rfl⟩
  exact ⟨rfl, ⟨rfl, rfl, rfl, by simp [Go.Sort.grow], fun j hj => by rw [Go.Sort.heap_grow_old _ _ (by simpa using hj)]; rfl⟩⟩
abbrev Wr (B b : Nat) (bs : L8) (w : World) : Prop := LibA.IsBuffer 450 (fun _ => none) 5 B b 0 (bs.flatMap bytC) w
theorem byteCells_eq (l : L8) : Lib.byteCells l = l.flatMap bytC := by
  induction l with
  | nil => rfl
  | cons c l ih => rw [List.flatMap_cons, ← ih]; rfl
theorem ones_byt (l : L8) : ∀ v ∈ l.flatMap bytC, v.oneCell' = true := by
  intro u hu
  obtain ⟨x, _, hx⟩ := List.mem_flatMap.1 hu
  exact encByt.one x u hx
theorem flat_byt (l : L8) : (l.flatMap bytC).length = l.length := by rw [flat_len bytC 1 encByt.len, Nat.mul_one]
abbrev Oth (b : Nat) (w w' : World) : Prop := Lib.OthersKept 5 (some b) w w'
theorem oth_bel {b : Nat} {w w' : World} (h : Below w.heap.size w w') : Oth b w w' := fun k o hk _ _ => by rw [h.block k (Array.getElem?_eq_some_iff.1 hk).1]; exact hk
theorem oth_cells {b : Nat} {w w' : World} {D : Nat} {vs : Array Value} {T : TypeId} (h : w.heap[D]? = some (.cells vs T (0, 0))) (ho : Oth b w w') (hne : D ≠ b) (hT : T ≠ 5) : w'.heap[D]? = some (.cells vs T (0, 0)) :=
  ho D _ h (by simpa using hne) (fun c fz e => hT (by cases e; rfl))
set_option maxRecDepth 100000 in
set_option maxHeartbeats 4000000 in
theorem line_any (B b : Nat) (bs : L8) (g o c : Nat) (ws : List L8) (w0 w : World) (h : Wr B b bs w) (hBw : B ≤ w.heap.size) (hws : KAt strC 1 w (some ⟨g, o, none⟩) ws.length ws) (hg : g < w.heap.size) (hne : ws ≠ []) (hc : ws.length ≤ c) (hn : ws.length ≤ 1000) (hlen : (lnT ws).length ≤ 1000000000000) (hbs : bs.length ≤ 100000000000000) :
    Calls Tryz.prog 334 #[.pointer (some ⟨b, 0, none⟩), .slice (some ⟨g, o, none⟩) ws.length c] w (fun e w' => e = .returned (.tuple #[]) ∧ Wr B b (bs ++ lnT ws) w' ∧ Below B w w' ∧ Oth b w w') := by
  have HW := Lib.hid h
  have hjl : (Lib.join ws [32]).length ≤ 1000000000000 := by unfold lnT at hlen; rw [List.length_append] at hlen; omega
  have e1 : (ws.map arr).map (fun s => s.data.toList) = ws := by
    rw [List.map_map]
    have : ((fun s : ByteArray => s.data.toList) ∘ arr) = id := by funext x; rfl
    rw [this, List.map_id]
  have HWS := hws
  have JJ := fun (W : World) (hb : Below w.heap.size w W) => Tryz.strings_Join g o c (ws.map arr) ⟨#[32]⟩ W (fun j x hx => by
    rw [List.getElem?_map] at hx
    obtain ⟨y, hy, rfl⟩ := Option.map_eq_some_iff.1 hx
    rcases (HWS.below hb).2.2 with h0 | ⟨b', o', e, hcc⟩
    · exact absurd (List.eq_nil_of_length_eq_zero h0) hne
    · cases e
      have := hcc j y hy 0 _ rfl
      rw [Nat.mul_one, Nat.add_zero] at this
      exact this) (Nat.lt_of_lt_of_le hg hb.size) (by rw [List.length_map]; omega) (by rw [List.length_map]; exact hc) (by rw [e1]; exact Nat.le_trans hjl (by omega))
  simp only [List.length_map, e1] at JJ
  have JN : Hid (∀ W, Below w.heap.size w W → Calls Tryz.prog 383 #[.slice (some ⟨g, o, none⟩) ws.length c, .string ⟨#[32]⟩] W (fun e w' => e = .returned (.string (arr (Lib.join ws [32]))) ∧ Below W.heap.size W w')) := Lib.hid JJ
  have HT : Hid (lnT ws = Lib.join ws [32] ++ [10]) := Lib.hid rfl
  have HCAT : arr (Lib.join ws [32]) ++ ⟨#[10]⟩ = arr (lnT ws) := by rw [show (⟨#[10]⟩ : ByteArray) = arr [10] from rfl, arr_app]; rfl
  have hasz : (arr (Lib.join ws [32])).size ≤ 1000000000000 := by rw [arr_size]; exact hjl
  have hsum : ¬ 9223372036854775807 < (arr (Lib.join ws [32])).size + 1 := by omega
  have hsum2 : ¬ 9223372036854775806 < (arr (Lib.join ws [32])).size := by omega
  have WW := Lib.hid (fun (W : World) (hW : Wr B b bs W) (hB : B ≤ W.heap.size) => Tryz.Buffer_WriteString_at 450 (fun _ => none) B b 0 (bs.flatMap bytC) (arr (lnT ws)) W hW hB (ones_byt bs) (by rw [flat_byt, arr_size]; omega))
  have HKEEP := Lib.hid (fun (W : World) (hb : Below w.heap.size w W) => (show Wr B b bs W from by
    obtain ⟨h1, v, lr, h2, h3, h4⟩ := HW.out
    have hlt := h2.lt
    exact ⟨h1, v, lr, h2.of_heap (hb.block b hlt), row_below h3 hb, h4⟩))
  have BD := Lib.hid (bel_drew0 w)
  clear h hws JJ e1 hne HWS
  generalize Lib.join ws [32] = J at *
  go_enter Tryz.func334, Tryz.ntmps334
  go_wp2_with fail
  go_region_held3 (fun w' => True) (exact trivial) (first | (go_at_call 383; refine (JN.out _ BD.out).mono ?_; rintro e9 w9 ⟨rfl, hb9⟩; have BQ := Lib.hid (below3 BD.out hb9); clear hb9) | (go_at_call 382; refine (WW.out _ (HKEEP.out _ BQ.out) (Nat.le_trans hBw BQ.out.size)).mono ?_; rintro e8 w8 ⟨rfl, h8, hb8, ho8⟩; have H8 := Lib.hid h8; have HO8 : Hid (Oth b w w8) := Lib.hid (Lib.OthersKept.trans (oth_bel BQ.out) ho8); have HB8 := Lib.hid ((BQ.out.mono hBw).trans hb8); clear h8 hb8 ho8))
  all_goals (
    go_end0
    refine ⟨rfl, ?_, HB8.out, HO8.out⟩
    have h8 := H8.out
    rw [byteCells_eq, show (arr (lnT ws)).data.toList = lnT ws from rfl, ← List.flatMap_append] at h8
    exact h8)
end Go.Proofs.YtcifdllbnbhcdaaGreatDoor
namespace Go.Proofs.YtcifdllbnbhcdaaGreatDoor
open Go.RowKit
theorem itoa_le {n : Int} (h0 : 0 ≤ n) (h1 : n < 9223372036854775808) : (arr (Lib.itoa n)).size ≤ 21 := by rw [arr_size]; exact Lib.itoa_length_le n (by omega) (by omega)
end Go.Proofs.YtcifdllbnbhcdaaGreatDoor
namespace Go.Proofs.YtcifdllbnbhcdaaGreatDoor
open Go.RowKit
def ResB (r : Int × L8) (w : World) (e : Ending) (w' : World) : Prop := ∃ s : Sl, e = .returned (.tuple #[.slice s.1 s.2.1 s.2.2, .int .i64 r.1]) ∧ BV w' s r.2 ∧ Below w.heap.size w w'
theorem ver_head (v : Ver) : lnT (verW v) = [86, 32] ++ Lib.itoa v.1 ++ [32] ++ Lib.itoa v.2.1 ++ [32] ++ Lib.itoa v.2.2.length ++ [10] := by
  unfold lnT verW
  rw [join_two, join_two, join_two, Lib.join_one]
  simp
theorem chg_head (c : Chg) : lnT (chgW c) = [67, 32] ++ c.1 ++ [32] ++ Lib.itoa c.2.1.length ++ [32] ++ Lib.itoa c.2.2.length ++ [10] := by
  unfold lnT chgW
  rw [join_two, join_two, join_two, Lib.join_one]
  simp
theorem SAt.load {w : World} {a : Option Addr} {n : Nat} {ss : List Ses} (h : SAt w a n ss) {j : Nat} (hj : j < n) : ss[j]? = some (ss[j]'(by rw [h.1]; exact hj)) := List.getElem?_eq_getElem _
end Go.Proofs.YtcifdllbnbhcdaaGreatDoor
namespace Go.Proofs.YtcifdllbnbhcdaaGreatDoor
open Go.RowKit
theorem spl_snoc : ∀ (l : L8) (F : List L8) (W : L8), spl l = F ++ [W] → spl (l ++ [32]) = F ++ [W] ++ [[]] ∧ ∀ c : UInt8, c ≠ 32 → spl (l ++ [c]) = F ++ [W ++ [c]]
  | [], F, W, h => by
    have h1 : F = [] ∧ W = [] := by
      cases F with
      | nil => simp [spl] at h; exact ⟨rfl, h⟩
      | cons x F => simp [spl] at h
    obtain ⟨rfl, rfl⟩ := h1
    refine ⟨by simp [spl], fun c hc => ?_⟩
    simp [spl, hc]
  | x :: r, F, W, h => by
    unfold spl at h
    split at h
    · next hx =>
      subst hx
      cases F with
      | nil =>
        simp only [List.nil_append, List.cons.injEq] at h
        exact absurd h.2 (spl_ne r)
      | cons y F =>
        simp only [List.cons_append, List.cons.injEq] at h
        obtain ⟨rfl, h⟩ := h
        obtain ⟨h1, h2⟩ := spl_snoc r F W h
        refine ⟨by rw [List.cons_append, spl, if_pos rfl, h1]; simp, fun c hc => ?_⟩
        rw [List.cons_append, spl, if_pos rfl, h2 c hc]; simp
    · next hx =>
      cases hr : spl r with
      | nil => exact absurd hr (spl_ne r)
      | cons y t =>
        rw [hr] at h
        simp only [List.headD_cons, List.tail_cons] at h
        cases F with
        | nil =>
          simp only [List.nil_append, List.cons.injEq] at h
          obtain ⟨rfl, rfl⟩ := h
          obtain ⟨h1, h2⟩ := spl_snoc r [] y (by rw [hr]; rfl)
          refine ⟨by rw [List.cons_append, spl, if_neg hx, h1]; simp, fun c hc => ?_⟩
          rw [List.cons_append, spl, if_neg hx, h2 c hc]; simp
        | cons z F =>
          simp only [List.cons_append, List.cons.injEq] at h
          obtain ⟨rfl, h⟩ := h
          obtain ⟨h1, h2⟩ := spl_snoc r (y :: F) W (by rw [hr, h]; rfl)
          refine ⟨by rw [List.cons_append, spl, if_neg hx, h1]; simp, fun c hc => ?_⟩
          rw [List.cons_append, spl, if_neg hx, h2 c hc]; simp
theorem take_more {d : L8} {f j : Nat} {c : UInt8} (h : d[j]? = some c) (hf : f ≤ j) : (d.drop f).take (j + 1 - f) = (d.drop f).take (j - f) ++ [c] := by
  rw [show j + 1 - f = (j - f) + 1 by omega, List.take_add_one, List.getElem?_drop, show f + (j - f) = j by omega, h]; rfl
structure WdI (d : L8) (f s j : Nat) (F : List L8) (W : L8) : Prop where
  no : (10 : UInt8) ∉ (d.drop f).take (j - f)
  sp : spl ((d.drop f).take (j - f)) = F ++ [W]
  wd : W = (d.drop s).take (j - s)
  le : F.length ≤ j
theorem WdI.start (d : L8) (f : Nat) : WdI d f f f [] [] := ⟨by simp, by simp [spl], by simp, by simp⟩
theorem WdI.other {d : L8} {f s j : Nat} {F : List L8} {W : L8} {c : UInt8} (h : WdI d f s j F W) (hf : f ≤ s) (hs : s ≤ j) (hc : d[j]? = some c) (h1 : c ≠ 32) (h2 : c ≠ 10) : WdI d f s (j + 1) F (W ++ [c]) := by
  refine ⟨?_, ?_, by rw [take_more hc hs, h.wd], by have := h.le; omega⟩
  · rw [take_more hc (by omega), List.mem_append, not_or]; exact ⟨h.no, by simpa using fun e => h2 e.symm⟩
  · rw [take_more hc (by omega), (spl_snoc _ _ _ h.sp).2 c h1]
def WdsR (d : L8) (f : Nat) (w : World) (e : Ending) (w' : World) : Prop :=
  (ctl (d.drop f) = none ∧ e = .returned (.tuple #[.slice none 0 0, .int .i64 f, .bool false]) ∧ Below w.heap.size w w') ∨
  (∃ (l : L8) (k : Nat) (v : Value), ctl (d.drop f) = some (l, d.drop k) ∧ f < k ∧ k ≤ d.length ∧ e = .returned (.tuple #[v, .int .i64 k, .bool true]) ∧ CRow w' w.heap.size v (spl l) ∧ Below w.heap.size w w')
end Go.Proofs.YtcifdllbnbhcdaaGreatDoor
namespace Go.Proofs.YtcifdllbnbhcdaaGreatDoor
open Go.RowKit
theorem take_len_succ {s : L8} {j : Nat} (h : j < s.length) : s.take (j + 1) = s.take j ++ [s[j]] := by
  rw [List.take_add_one, List.getElem?_eq_getElem h]; rfl
def NumI (s : L8) (j : Nat) (z : Int) : Prop := ∃ m, Lib.decFrom 0 (s.take j) = some m ∧ (j ≤ 7 → z = (m : Int) ∧ m < 10 ^ j)
theorem NumI.step {s : L8} {j : Nat} {z z' : Int} (h : NumI s j z) (hj : j < s.length) (h1 : 48 ≤ s[j].toNat) (h2 : s[j].toNat ≤ 57) (hz : j < 7 → z' = 10 * z + ((s[j].toNat : Int) - 48)) : NumI s (j + 1) z' := by
  obtain ⟨m, hm, hv⟩ := h
  have hd : Lib.digitVal s[j] = some (s[j].toNat - 48) := by unfold Lib.digitVal; rw [if_pos ⟨h1, h2⟩]
  refine ⟨m * 10 + (s[j].toNat - 48), by rw [take_len_succ hj]; exact decFrom_snoc hd _ _ _ hm, fun h7 => ?_⟩
  obtain ⟨e, hp⟩ := hv (by omega)
  have := hz (by omega)
  exact ⟨by omega, by rw [Nat.pow_succ]; omega⟩
end Go.Proofs.YtcifdllbnbhcdaaGreatDoor
namespace Go.Proofs.YtcifdllbnbhcdaaGreatDoor
open Go.RowKit
def numR (s : L8) : Option Int := some (nuR s)
def RepI {α : Type} (f : L8 → Option (α × L8)) (N : Nat) (r0 : L8) (j : Nat) (L : List α) (r : L8) : Prop := L.length = j ∧ repP f N r0 = (repP f (N - j) r).map fun p => (L ++ p.1, p.2)
theorem RepI.start {α : Type} (f : L8 → Option (α × L8)) (N : Nat) (r0 : L8) : RepI f N r0 0 [] r0 := ⟨rfl, by rw [Nat.sub_zero]; cases repP f N r0 <;> rfl⟩
theorem RepI.step {α : Type} {f : L8 → Option (α × L8)} {N : Nat} {r0 : L8} {j : Nat} {L : List α} {r t : L8} {x : α} (h : RepI f N r0 j L r) (hj : j < N) (hx : f r = some (x, t)) : RepI f N r0 (j + 1) (L ++ [x]) t := by
  obtain ⟨h1, h2⟩ := h
  refine ⟨by rw [List.length_append, h1]; rfl, ?_⟩
  rw [h2, show N - j = (N - (j + 1)) + 1 by omega, repP, hx]
  simp only
  cases repP f (N - (j + 1)) t with
  | none => rfl
  | some p => simp
theorem RepI.done {α : Type} {f : L8 → Option (α × L8)} {N : Nat} {r0 : L8} {j : Nat} {L : List α} {r : L8} (h : RepI f N r0 j L r) (hj : N ≤ j) : repP f N r0 = some (L, r) := by
  rw [h.2, show N - j = 0 by omega, repP]; simp
def SesR (d : L8) (f : Nat) (nn : Int) (cl : L8) (w : World) (e : Ending) (w' : World) : Prop :=
  (sesP numR cl nn (d.drop f) = none ∧ ∃ x : Int, e = .returned (.tuple #[.slice none 0 0, .int .i64 x, .bool false]) ∧ Below w.heap.size w w') ∨
  (∃ (l : List Ses) (k : Nat) (v : Value), sesP numR cl nn (d.drop f) = some (l, d.drop k) ∧ f ≤ k ∧ k ≤ d.length ∧ e = .returned (.tuple #[v, .int .i64 k, .bool true]) ∧ SRow w' w.heap.size v l ∧ Below w.heap.size w w')
end Go.Proofs.YtcifdllbnbhcdaaGreatDoor
