/- The sanity check, and what a law's condition gives. -/
import Derived.Deep.DeepHandedRow
import Derived.Lib.LaidTab
import Derived.Lib.SlBytesConst
import Derived.Lib.SmallJoins
import Derived.OpenShut
import Derived.ProofKit
import Derived.Stop.LaidErr
import Derived.WalkKit
import Derived.Test.YtihbpggbpapcfaaGreatDoorH47
import Derived.Test.YtihbpggbpapcfaaGreatDoorRows
namespace Go.Proofs.YtihbpggbpapcfaaGreatDoor
open Go.RowKit

def aS : Ses := ([99], 3, 0, 0, 1, [])
def aC : Chg := ([99], [], [aS])
def aV : Ver := (1, 1, [aC])
theorem aw_sum : crcN [49, 50, 51, 52, 53, 54, 55, 56, 57] = 3421780262 := by kernel_rfl
theorem aw_vld : vldS [aS] 2 = 0 := by kernel_rfl
theorem aw_vld0 : vldS [] 2 = 0 := by kernel_rfl
theorem aw_spc : spcS 2 1 [] [aS] = (0, [aS]) := by kernel_rfl
theorem aw_dif : difS 2 [] [aS] = (0, [aC]) := by kernel_rfl
theorem aw_frm : frmV aV = true := by kernel_rfl
theorem aw_len : decide ((encV aV).length ≤ 1048576) = true := by kernel_rfl
theorem aw_pub : pubS 2 1 lgZ [aS] = (0, (encV aV, 0, [aV], [aS])) := by
 have h0 : vldL 2 lgZ = true := (pub_new (n := 2) (by decide)).vld
 have hn : nextV 2 1 lgZ [aS] = aV := by
  show ((0 : Int) + 1, (1 : Int), (difS 2 [] [aS]).2) = aV
  rw [aw_dif]; rfl
 have hl := of_decide_eq_true aw_len
 unfold pubS
 rw [if_neg (by rw [h0]; simp), if_neg (by rw [aw_vld]; simp), if_neg (by decide), if_neg (by show ¬ spcS 2 1 [] [aS] ≠ _; rw [aw_spc]; simp), if_neg (by show ¬ (difS 2 [] [aS]).2 = []; rw [aw_dif]; simp), hn, if_neg (by rw [aw_frm]; show ¬ (true = false ∨ 1048576 < 0 + _); simp; omega)]
 rfl
theorem aw_syn : synS 2 (encV aV, 0, [aV], [aS]) = (0, (encV aV, ((encV aV).length : Int), [aV], [aS])) := by
 have h := (pub_step (pub_new (n := 2) (by decide)) aw_pub).1.vld
 unfold synS
 rw [if_neg (by rw [h]; simp)]
theorem aw_shw : shwS 2 (encV aV, ((encV aV).length : Int), [aV], [aS]) = (0, 1, [aS]) := by
 have h0 := (pub_step (pub_new (n := 2) (by decide)) aw_pub).1
 have h := pub_sync h0 (syn := ((encV aV).length : Int)) (by omega) (Int.le_refl _)
 have hv := h.vld
 have he : encE aV = encV aV := by unfold encE; rw [if_pos aw_frm]
 unfold shwS
 rw [if_neg (by rw [hv]; simp)]
 have hn : shwN ((encV aV).length : Int) 0 [aV] = 1 := by
  unfold shwN
  rw [he, if_neg (by omega)]
  rfl
 show (0, shwN ((encV aV).length : Int) 0 [aV], aftS 2 ([aV].take (shwN ((encV aV).length : Int) 0 [aV]))) = _
 rw [hn]
 have := aft_chain h0.ch
 show (0, 1, aftS 2 [aV]) = _
 unfold aftS
 rw [this]
 rfl
end Go.Proofs.YtihbpggbpapcfaaGreatDoor

namespace Go.Proofs.YtihbpggbpapcfaaGreatDoor
open Go.RowKit

theorem KAt.mark {α : Type} {f : α → List Value} {k : Nat} (hk : ∀ x, (f x).length = k) (w : World) (xs : List α) (T : TypeId) (fr : Nat × Nat) (hl : xs.length ≤ 9223372036854775807) : KAt f k (w.alloc (.cells (xs.flatMap f).toArray T fr)) (some ⟨w.heap.size, 0, none⟩) xs.length xs := by
 refine ⟨rfl, hl, Or.inr ⟨_, 0, rfl, fun j x hx o v hv => ?_⟩⟩
 have ho : o < k := by rw [← hk x]; exact (List.getElem?_eq_some_iff.1 hv).1
 have p := flat_at f k hk xs j o x hx ho
 rw [World.cell?_alloc_mark, Nat.zero_add, List.getElem?_toArray, p]
 exact hv

set_option maxRecDepth 100000 in
set_option maxHeartbeats 8000000 in
theorem awake_any (w : World) (hE : Env w) : Calls Tryz.prog 13 #[] w (RetB (.bool true) w) := by
 have HE := Lib.hid hE
 clear hE
 go_enter Tryz.func13, Tryz.ntmps13
 have HS := Lib.hid (KAt.one (f := sesC) (k := 6) w aS 95)
 go_upto_region 2 with fail
 have HB1 := Lib.hid ((Below.refl w.heap.size w).alloc (Nat.le_refl _) (.cells (sesC aS).toArray 95))
 change Hid (KAt sesC 6 (w.alloc (.cells #[.string ⟨#[99]⟩, .int .i64 3, .int .i64 0, .int .i64 0, .int .i64 1, .string ⟨#[]⟩] 95)) _ _ _) at HS
 change Hid (Below _ w (w.alloc (.cells #[.string ⟨#[99]⟩, .int .i64 3, .int .i64 0, .int .i64 0, .int .i64 1, .string ⟨#[]⟩] 95))) at HB1
 generalize w.alloc (.cells #[.string ⟨#[99]⟩, .int .i64 3, .int .i64 0, .int .i64 0, .int .i64 1, .string ⟨#[]⟩] 95) = w1 at *
 obtain ⟨S, hS⟩ : ∃ S, S = w.heap.size := ⟨_, rfl⟩
 rw [← hS] at HS ⊢
 clear hS
 have PB := Lib.hid (publish_any (logV (none, 0, 0) 0 (none, 0, 0) (none, 0, 0)) lgZ 2 1 (some ⟨S, 0, none⟩) 1 1 [aS] w1 ⟨(none, 0, 0), (none, 0, 0), (none, 0, 0), rfl, BV.nil _, fun _ => rfl, VV.nil _, SV.nil _⟩ HS.out (by intro s hs; rw [List.mem_singleton] at hs; subst hs; decide) (Nat.le_refl _) (by omega) (HE.out.below HB1.out) (by omega))
 rw [aw_pub] at PB
 change Hid (Calls _ _ #[.agg #[.slice none 0 0, .int .i64 0, .slice none 0 0, .slice none 0 0], .int .i64 2, .int .i64 1, .slice (some ⟨S, 0, none⟩) 1 1] w1 _) at PB
 go_wp2_with (go_at_call 35; refine PB.out.mono ?_)
 rintro en w2 ⟨v2, rfl, hl2, hb2⟩
 have HL2 := Lib.hid hl2.logP
 obtain ⟨⟨da, dn, dc⟩, ⟨va, vn, vc⟩, ⟨sa, sn, sc⟩, hv2, _⟩ := id hl2
 replace hv2 : v2 = .agg #[.slice da dn dc, .int .i64 0, .slice va vn vc, .slice sa sn sc] := hv2
 subst hv2
 have HBw := Lib.hid (HB1.out.trans (hb2.mono HB1.out.size))
 have HS := Lib.hid (HS.out.below hb2)
 clear hl2 hb2 PB
 have HX := Lib.hid (BX.mk0 (vs := #[.slice da dn dc, .int .i64 0, .slice va vn vc, .slice sa sn sc]) (T := 55) w2)
 go_upto_region 3 with fail
 generalize w2.alloc (.cells #[.slice da dn dc, .int .i64 0, .slice va vn vc, .slice sa sn sc] 55) = w3 at *
 obtain ⟨R, hR⟩ : ∃ R, R = w2.heap.size := ⟨_, rfl⟩
 rw [← hR] at HX ⊢
 clear hR
 have HBw := Lib.hid (below3 HBw.out HX.out.bl)
 have HS := Lib.hid (HS.out.below HX.out.bl)
 have SY := Lib.hid (sync_any _ _ 2 w3 (HL2.out.below HX.out.bl) (HE.out.below HBw.out))
 rw [aw_syn] at SY
 obtain ⟨N, hN⟩ : ∃ N : Int, ((encV aV).length : Int) = N := ⟨_, rfl⟩
 have HSH := Lib.hid aw_shw
 rw [hN] at SY HSH
 clear hN HL2
 obtain ⟨⟨g0, g1, g2, g3⟩, _⟩ := HX.out.four
 go_wp2_with (go_at_call 37; refine SY.out.mono ?_)
 rintro en w4 ⟨v4, rfl, hl4, hb4⟩
 have HL4 := Lib.hid hl4.logP
 obtain ⟨⟨ea, en4, ec⟩, ⟨fa, fn, fc⟩, ⟨ha, hn, hc⟩, hv4, _⟩ := id hl4
 replace hv4 : v4 = .agg #[.slice ea en4 ec, .int .i64 N, .slice fa fn fc, .slice ha hn hc] := hv4
 subst hv4
 have HBw := Lib.hid (below3 HBw.out hb4)
 have HS := Lib.hid (HS.out.below hb4)
 clear hl4 hb4 SY g0 g1 g2 g3 HX
 have HX := Lib.hid (BX.mk0 (vs := #[.slice ea en4 ec, .int .i64 N, .slice fa fn fc, .slice ha hn hc]) (T := 55) w4)
 go_upto_region 4 with fail
 generalize w4.alloc (.cells #[.slice ea en4 ec, .int .i64 N, .slice fa fn fc, .slice ha hn hc] 55) = w5 at *
 obtain ⟨R2, hR2⟩ : ∃ R, R = w4.heap.size := ⟨_, rfl⟩
 rw [← hR2] at HX ⊢
 clear hR2
 have HBw := Lib.hid (below3 HBw.out HX.out.bl)
 have HS := Lib.hid (HS.out.below HX.out.bl)
 have SH := Lib.hid (shown_of vldP _ _ 2 w5 (HL4.out.below HX.out.bl) (HE.out.below HBw.out))
 rw [HSH.out] at SH
 clear HL4 HSH
 obtain ⟨⟨g0, g1, g2, g3⟩, _⟩ := HX.out.four
 go_wp2_with (go_at_call 42; refine SH.out.mono ?_)
 rintro en w6 ⟨v6, rfl, hr6, hb6⟩
 obtain ⟨ya, yc, hv6, hyc, hys⟩ := SRow.sat hr6
 replace hv6 : v6 = .slice ya 1 yc := hv6
 subst hv6
 have HYS := Lib.hid hys
 have HBw := Lib.hid (below3 HBw.out hb6)
 have HS := Lib.hid (HS.out.below hb6)
 clear hr6 hys hb6 SH g0 g1 g2 g3 HX
 have HSU := Lib.hid (sum_any (some ⟨w6.heap.size, 0, none⟩) 9 9 [49, 50, 51, 52, 53, 54, 55, 56, 57] (w6.alloc (.cells ([49, 50, 51, 52, 53, 54, 55, 56, 57].flatMap bytC).toArray 5 (9, 10))) (KAt.mark (f := bytC) (k := 1) (fun _ => rfl) w6 [49, 50, 51, 52, 53, 54, 55, 56, 57] _ _ (by simp)))
 rw [aw_sum] at HSU
 have HBA := Lib.hid ((Below.refl w6.heap.size w6).alloc (Nat.le_refl _) (.cells ([49, 50, 51, 52, 53, 54, 55, 56, 57].flatMap bytC).toArray 5 (9, 10)))
 change Hid (Calls _ _ _ (w6.alloc (.cells #[.int .u8 49, .int .u8 50, .int .u8 51, .int .u8 52, .int .u8 53, .int .u8 54, .int .u8 55, .int .u8 56, .int .u8 57] 5 (9, 10))) _) at HSU
 change Hid (Below _ w6 (w6.alloc (.cells #[.int .u8 49, .int .u8 50, .int .u8 51, .int .u8 52, .int .u8 53, .int .u8 54, .int .u8 55, .int .u8 56, .int .u8 57] 5 (9, 10)))) at HBA
 have SM := Lib.hid (fun W (h : Below w6.heap.size w6 W) => rsameq_any ya 1 yc (some ⟨S, 0, none⟩) 1 1 [aS] [aS] W (HYS.out.below h) (HS.out.below h))
 rw [decide_eq_true rfl] at SM
 have kc := fun (w : World) (C : Array Value) (n c : Nat) => Lib.run_convert_bytes_const (P := Tryz.prog) w 26 5 C n c Tryz.underlying26 Tryz.underlying5
 go_wp2_with (go_at_call 20; refine HSU.out.mono ?_)
 rintro en w7 ⟨rfl, rfl⟩
 go_wp2_with (go_at_call 40; refine (SM.out _ HBA.out).mono ?_)
 rintro en w8 ⟨rfl, hq8⟩
 have HB8 := Lib.hid (below3 HBw.out (below3 HBA.out (drew_bel hq8)))
 clear hq8
 go_wp2_with fail
 go_ret
 exact ⟨rfl, HB8.out⟩
end Go.Proofs.YtihbpggbpapcfaaGreatDoor

namespace Go.Proofs.YtihbpggbpapcfaaGreatDoor
open Go Go.RowKit

theorem g64 : Tryz.prog.globalNamed "math/bits.deBruijn64tab" = some 4 := by kernel_rfl
theorem g64Type : (Tryz.prog.globals[4]?).map (·.type) = some 233 := by kernel_rfl
theorem gPow : Tryz.prog.globalNamed "internal/strconv.uint64pow10" = some 1 := by kernel_rfl
theorem gPowType : (Tryz.prog.globals[1]?).map (·.type) = some 223 := by kernel_rfl
theorem gRng : Tryz.prog.globalNamed "strconv.ErrRange" = some 6 := by kernel_rfl
theorem gRngType : (Tryz.prog.globals[6]?).map (·.type) = some 149 := by kernel_rfl
theorem gSyn : Tryz.prog.globalNamed "strconv.ErrSyntax" = some 5 := by kernel_rfl
theorem gSynType : (Tryz.prog.globals[5]?).map (·.type) = some 149 := by kernel_rfl
theorem uU64 : Tryz.prog.underlying 202 = some (.int .u64) := by kernel_rfl
theorem uU8 : Tryz.prog.underlying 5 = some (.int .u8) := by kernel_rfl
theorem cU64 : Tryz.prog.cellsOf 202 = 1 := by kernel_rfl
theorem cU8 : Tryz.prog.cellsOf 5 = 1 := by kernel_rfl
theorem cPow : Tryz.prog.cellsOf 223 = 20 := by kernel_rfl
theorem c64 : Tryz.prog.cellsOf 233 = 64 := by kernel_rfl
theorem cErr : Tryz.prog.cellsOf 266 = 1 := by kernel_rfl
theorem cStr : Tryz.prog.cellsOf 9 = 1 := by kernel_rfl
theorem starErr : "*" ++ "errors.errorString" = "*errors.errorString" := by decide
theorem rowErr (u : TypeId) (h : Tryz.prog.typeName? 3 u = some "*errors.errorString") : u = 264 :=
 typeName_ptr_named (nm := "errors.errorString") (by rw [starErr]; kernel_rfl) (by kernel_rfl) (by decide) u (by rw [starErr]; exact h)
theorem pow_data : (Rows.laid_internal_strconv_uint64pow10 : DataW Unit) = Lib.tabData .u64 Lib.pow10Tab := by kernel_rfl
theorem tz_data : (Rows.laid_math_bits_deBruijn64tab : DataW Unit) = Lib.tabData .u8 (Lib.deBruijn64tab.map fun n : Nat => (n : Int)) := by kernel_rfl

theorem env_of {W : World} {a d : String × DataW Unit} {r : List (String × DataW Unit)} (h : laidMet Tryz.prog (a :: ("math/bits.deBruijn64tab", Rows.laid_math_bits_deBruijn64tab) :: ("internal/strconv.uint64pow10", Rows.laid_internal_strconv_uint64pow10) :: d :: ("strconv.ErrRange", Rows.laid_strconv_ErrRange) :: ("strconv.ErrSyntax", Rows.laid_strconv_ErrSyntax) :: r) W) (hsh : W.ShapedOpen Tryz.prog) : Env W := by
 have h1 := laidMet.tail h
 have h2 := laidMet.tail h1
 have h4 := laidMet.tail (laidMet.tail h2)
 have h5 := laidMet.tail h4
 rw [tz_data] at h1
 rw [pow_data] at h2
 have t := Lib.tabIs_of_head g64 g64Type Tryz.underlying233 uU8 cU8 c64 h1
 obtain ⟨a0, s0, hv0, _, _, _⟩ := laid_sentinel h4 gRng gRngType Tryz.underlying149 rowErr Tryz.underlying264 Tryz.underlying266 rfl rfl Tryz.underlying9 cErr cStr
 obtain ⟨a1, s1, hv1, _, _, _⟩ := laid_sentinel h5 gSyn gSynType Tryz.underlying149 rowErr Tryz.underlying264 Tryz.underlying266 rfl rfl Tryz.underlying9 cErr cStr
 refine ⟨fun i hi => ?_, Lib.tabIs_of_head gPow gPowType Tryz.underlying223 uU64 cU64 cPow h2, Tryz.laysM146.s1_3 W hsh, ⟨_, by simpa using World.var?_cell gSyn hv1 0, Or.inr ⟨_, _, rfl⟩⟩, ⟨_, by simpa using World.var?_cell gRng hv0 0, Or.inr ⟨_, _, rfl⟩⟩⟩
 have := t.cell g64 i (by rw [List.length_map]; exact hi)
 rw [this]
 rw [List.getD_eq_getElem?_getD, List.getD_eq_getElem?_getD, List.getElem?_map]
 cases hx : Lib.deBruijn64tab[i]? <;> rfl
end Go.Proofs.YtihbpggbpapcfaaGreatDoor

namespace TT.Frame
open Go Go.ChangeShapes Go.WideShapes Go.ChangeAt Go.RowKit Go.WideMaps Go.WideElems Go.Joins

variable {H : Type} {enc : TypeId × Value → H} {P : Program}

theorem trodAll_below {W W' : World} (hl : laidOutB P = true) (hb : Below W.heap.size W W') :
  ∀ (ts : List TypeId) (vs : List Value) (ds : List (DataW H)) (ps : List MemPlace), DataW.TrodAll enc P W 0 (fun _ => true) true ts vs ds ps →
   (ts.all fun t => P.readableRec t && decide (t < P.types.size)) = true → (∀ x ∈ ps, x.block < W.heap.size) →
   DataW.TrodAll enc P W' 0 (fun b => decide (b < W.heap.size)) true ts vs ds ps := by
 intro ts
 induction ts with
 | nil => intro vs ds ps h _ _; obtain ⟨rfl, rfl, rfl⟩ := trodAll_nil h; exact trodAll_mk0
 | cons t ts ih =>
  intro vs ds ps h hr hlt
  obtain ⟨v, vs', d, ds', p, q, rfl, rfl, rfl, h1, h2⟩ := trodAll_cons h
  simp only [List.all_cons, Bool.and_eq_true, decide_eq_true_eq] at hr
  exact trodAll_cons_mk (Below.trod hl hr.1.1 hr.1.2 h1 hb (fun x hx => hlt x (List.mem_append_left _ hx))) (ih _ _ _ h2 hr.2 (fun x hx => hlt x (List.mem_append_right _ hx)))

theorem post_true {f : Func} {s : ChangeSpec} {W W' : World} {args : Array Value} {ds gs : List (DataW H)} {before : List MemPlace} {tb : TypeId}
  (hW : DataW.Whole enc P f.params.toList s.vars false W args.toList ds gs before) (hvars : s.vars = [])
  (hs : s.fn H ds = { results := [.lit (.bool true)], args := ds }) (hb : Below W.heap.size W W') (hl : laidOutB P = true)
  (hr : (f.params.toList.all fun t => P.readableRec t && decide (t < P.types.size)) = true) (hres : f.resultTypes = #[tb]) (htb : P.underlying tb = some .bool) :
  s.post enc P f false true false false W args (.bool true) W' := by
 have hlt := hW.lt
 have hW' := hW
 obtain ⟨p, q, hA, hV, rfl, hfz, hnd⟩ := hW
 rw [hvars] at hV
 obtain ⟨rfl, rfl⟩ := trodVars_none hV
 simp only [List.append_nil] at hlt
 refine ⟨ds, [], p ++ [], [], p, [], hW', ?_, ?_, ?_, hb.frame _, fun h => by cases h⟩
 ·
  rw [List.append_nil, hs, hres]; exact trodAll_mk1 (shut_bool htb true)
 ·
  rw [List.append_nil, hs]; exact trodAll_below hl hb _ _ _ _ hA hr hlt
 ·
  rw [List.append_nil, hs, hvars]; exact hV
end TT.Frame

namespace Go.Proofs.YtihbpggbpapcfaaGreatDoor
open Go Go.ChangeShapes Go.WideShapes Go.ChangeAt Go.RowKit Go.WideMaps Go.WideElems Go.Joins

theorem open_ints_at {H : Type} {enc : TypeId × Value → H} {P : Program} {W : World} {base : Nat} {held : Bool} {fuel : Nat} {t e : TypeId} {v : Value} {y : DataW H × List MemPlace}
  (ht : P.underlying t = some (.slice e)) (he : P.underlying e = some (.int .i64)) (hc : P.cellsOf e = 1) (h : DataW.trod enc P W base (fun _ => true) held fuel t [v] = some y) :
  ∃ a n c hs, v = .slice a n c ∧ IntsAt W a n hs ∧ (∀ x ∈ hs, -9223372036854775808 ≤ x ∧ x ≤ 9223372036854775807) := by
 rcases open_ints ht he hc h with ⟨hcs, _⟩ | ⟨a, len, cap, zs, hcs, _, hl, hm, hz, _, hcell, hwz⟩
 ·
  simp only [List.cons.injEq, and_true] at hcs
  exact ⟨none, 0, 0, [], hcs, ⟨rfl, by omega, Or.inl rfl⟩, fun x hx => by cases hx⟩
 ·
  simp only [List.cons.injEq, and_true] at hcs
  simp only [if_true] at hz
  refine ⟨some a, len, cap, zs.take len, hcs, ⟨by simp; omega, by unfold maxLen at hm; omega, ?_⟩, fun x hx => bounds_i64 (hwz x (List.mem_of_mem_take hx))⟩
  by_cases h0 : len = 0
  ·
   exact Or.inl h0
  ·
   obtain ⟨b, off, rfl, hcl⟩ := ints_at hcell (by omega)
   refine Or.inr ⟨b, off, rfl, fun i hi => ?_⟩
   rw [hcl i (by omega)]
   simp [hi]

theorem open_bytes_at {H : Type} {enc : TypeId × Value → H} {P : Program} {W : World} {base : Nat} {held : Bool} {fuel : Nat} {t e : TypeId} {v : Value} {y : DataW H × List MemPlace}
  (ht : P.underlying t = some (.slice e)) (he : P.underlying e = some (.int .u8)) (hc : P.cellsOf e = 1) (h : DataW.trod enc P W base (fun _ => true) held fuel t [v] = some y) :
  ∃ a n c bs, v = .slice a n c ∧ BV W (a, n, c) bs ∧ NilOk (a, n, c) := by
 rcases open_ints ht he hc h with ⟨hcs, _⟩ | ⟨a, len, cap, zs, hcs, _, hl, hm, hz, _, hcell, hwz⟩
 ·
  simp only [List.cons.injEq, and_true] at hcs
  exact ⟨none, 0, 0, [], hcs, BV.nil W, fun _ => rfl⟩
 ·
  simp only [List.cons.injEq, and_true] at hcs
  simp only [if_true] at hz
  refine ⟨some a, len, cap, (zs.take len).map fun z => UInt8.ofNat z.toNat, hcs, ⟨hl, ?_, by show len ≤ _; unfold maxLen at hm; omega, ?_⟩, fun h => by cases h⟩
  ·
   rw [List.length_map, List.length_take]; show min len zs.length = len; omega
  by_cases h0 : len = 0
  ·
   exact Or.inl h0
  ·
   obtain ⟨b, off, rfl, hcl⟩ := ints_at hcell (by omega)
   refine Or.inr ⟨b, off, rfl, fun i x hx o u hu => ?_⟩
   have hi : i < len := by have := (List.getElem?_eq_some_iff.1 hx).1; rw [List.length_map, List.length_take] at this; omega
   have ho : o = 0 := by have := (List.getElem?_eq_some_iff.1 hu).1; simp [bytC] at this; omega
   subst ho
   have hb := bounds_u8 (hwz (zs.getD i 0) (by rw [List.getD_eq_getElem?_getD, List.getElem?_eq_getElem (by omega)]; exact List.getElem_mem _))
   have hxz : x = UInt8.ofNat (zs.getD i 0).toNat := by
    rw [List.getElem?_map, List.getElem?_take_of_lt hi] at hx
    cases hz2 : zs[i]? with
    | none => rw [hz2] at hx; cases hx
    | some z =>
     rw [hz2] at hx
     rw [List.getD_eq_getElem?_getD, hz2]
     exact (Option.some.inj hx).symm
   simp only [bytC, List.getElem?_cons_zero, Option.some.injEq] at hu
   subst hu
   rw [show off + (i * 1 + 0) = off + i by omega, hcl i (by omega), hxz, UInt8.toNat_ofNat']
   have e : (((zs.getD i 0).toNat % 2 ^ 8 : Nat) : Int) = zs.getD i 0 := by omega
   rw [e]
end Go.Proofs.YtihbpggbpapcfaaGreatDoor
