/- Texts V22, V23, joined: walks and laws for the versions. -/
import Derived.Deep.AppendLies
import Derived.Deep.RegionLaw
import Derived.Maps.AppendAt
import Derived.RegionTactic
import Derived.Test.YtihbpggbpapcfaaGreatDoorM08
namespace Go.Proofs.YtihbpggbpapcfaaGreatDoor
open Go.RowKit

theorem flat_set {α : Type} (f : α → List Value) (k : Nat) (hk : ∀ x, (f x).length = k) (o : Nat) (u : Value) (ho : o < k) : ∀ (xs : List α) (j : Nat) (x x' : α), xs[j]? = some x → f x' = (f x).set o u → (xs.flatMap f).set (j * k + o) u = (xs.set j x').flatMap f
  | [], j, x, _, h, _ => by simp at h
  | y :: xs, 0, x, x', h, he => by
    simp only [List.getElem?_cons_zero, Option.some.injEq] at h; subst h
    rw [List.flatMap_cons, Nat.zero_mul, Nat.zero_add, List.set_append_left _ _ (by rw [hk]; exact ho), List.set_cons_zero, List.flatMap_cons, he]
  | y :: xs, j + 1, x, x', h, he => by
    rw [List.getElem?_cons_succ] at h
    rw [List.flatMap_cons, List.set_append_right _ _ (by rw [hk, Nat.add_mul]; omega), hk, List.set_cons_succ, List.flatMap_cons, ← flat_set f k hk o u ho xs j x x' h he]
    rw [show (j + 1) * k + o - k = j * k + o by rw [Nat.add_mul]; omega]
theorem SRow.open_ {w : World} {B : Nat} {v : Value} {ss : List Ses} (h : SRow w B v ss) (hp : 0 < ss.length) : ∃ g cap, v = .slice (some ⟨g, 0, none⟩) ss.length cap ∧ ss.length ≤ cap ∧ B ≤ g ∧ g < w.heap.size ∧
    ∀ (j : Nat) (s : Ses), ss[j]? = some s → w.cell? ⟨g, j * 6, none⟩ = some (.string (arr s.1)) ∧ w.cell? ⟨g, j * 6 + 1, none⟩ = some (.int .i64 s.2.1) ∧ w.cell? ⟨g, j * 6 + 2, none⟩ = some (.int .i64 s.2.2.1) ∧
      w.cell? ⟨g, j * 6 + 3, none⟩ = some (.int .i64 s.2.2.2.1) ∧ w.cell? ⟨g, j * 6 + 4, none⟩ = some (.int .i64 s.2.2.2.2.1) ∧ w.cell? ⟨g, j * 6 + 5, none⟩ = some (.string (arr s.2.2.2.2.2)) ∧ ∀ o, w.frozen? ⟨g, j * 6 + o, none⟩ = false := by
  obtain ⟨h1, ⟨_, h2⟩ | ⟨g, cap, cur, rfl, hg, hh, hc, hm, hs, ht⟩⟩ := id h
  · omega
  · refine ⟨g, cap, rfl, hc, hg, lt_of_heap hh, fun j s hj => ?_⟩
    have hlt : j < ss.length := (List.getElem?_eq_some_iff.1 hj).1
    have key : ∀ o, o < 6 → w.cell? ⟨g, j * 6 + o, none⟩ = (sesC s)[o]? := fun o ho => by
      rw [h.cellAt _ (by omega), flat_at sesC 6 sesC_len ss j o s hj ho]
    have k0 := key 0 (by omega)
    rw [Nat.add_zero] at k0
    exact ⟨k0, key 1 (by omega), key 2 (by omega), key 3 (by omega), key 4 (by omega), key 5 (by omega), fun o => h.frozenAt _⟩
theorem SRow.sat {w : World} {B : Nat} {v : Value} {ss : List Ses} (h : SRow w B v ss) : ∃ a cap, v = .slice a ss.length cap ∧ ss.length ≤ cap ∧ SAt w a ss.length ss := by
  obtain ⟨a, cap, h1, h2⟩ := KAt.of_owns sesC_len h
  refine ⟨a, cap, h1, ?_, h2⟩
  rcases h.2 with ⟨e, hn⟩ | ⟨g, cap', cur, e, _, _, hc, _⟩
  · rw [hn]; omega
  · rw [h1] at e; cases e; exact hc
theorem SRow.below {w w' : World} {B : Nat} {v : Value} {ss : List Ses} (h : SRow w B v ss) (hb : Below w.heap.size w w') : SRow w' B v ss := row_below h hb
theorem SRow.store {w : World} {B g cap : Nat} {ss : List Ses} (h : SRow w B (.slice (some ⟨g, 0, none⟩) ss.length cap) ss) {k : Nat} {t : Ses} (hk : ss[k]? = some t) (x : Int) :
    SRow (w.setCell ⟨g, k * 6 + 1, none⟩ (.int .i64 x)) B (.slice (some ⟨g, 0, none⟩) ss.length cap) (ss.set k (t.1, x, t.2.2)) := by
  have h1 := (World.ownsRow.stored h (k * 6 + 1) (.int .i64 x)).1
  rw [flat_set sesC 6 sesC_len 1 (.int .i64 x) (by omega) ss k t (t.1, x, t.2.2) hk rfl] at h1
  show World.ownsRow _ _ _ _ _ (ss.set k (t.1, x, t.2.2)).length _
  rw [List.length_set]
  exact h1
theorem addS_hit {out : List Ses} {s t : Ses} {k : Nat} (h0 : ∀ i u, i < k → out[i]? = some u → alkS s u = false) (h1 : out[k]? = some t) (h2 : alkS s t = true) : addS out s = out.set k (t.1, bits .or .i64 t.2.1 s.2.1, t.2.2) := by
  have hlt := (List.getElem?_eq_some_iff.1 h1).1
  have ht := (List.getElem?_eq_some_iff.1 h1).2
  have hi : idxS out s = k := by
    unfold idxS
    rw [List.findIdx_eq hlt]
    refine ⟨by rw [ht]; exact h2, fun i hi => ?_⟩
    exact h0 i _ hi (List.getElem?_eq_getElem (by omega))
  unfold addS
  rw [hi, if_pos hlt]
  apply List.ext_getElem?
  intro i
  rw [List.getElem?_modify, List.getElem?_set]
  by_cases hik : k = i
  · subst hik
    rw [if_pos rfl, if_pos hlt, h1]
    show some (if k = k then orW t s else t) = _
    rw [if_pos rfl]
    rfl
  · rw [if_neg hik]
    cases out[i]? with
    | none => rfl
    | some u =>
      show some (if k = i then orW u s else u) = some u
      rw [if_neg hik]
theorem addS_new {out : List Ses} {s : Ses} (h0 : ∀ i u, i < out.length → out[i]? = some u → alkS s u = false) : addS out s = out ++ [s] := by
  unfold addS
  rw [if_neg]
  intro hlt
  have ha : alkS s out[idxS out s] = true := List.findIdx_getElem (w := hlt)
  have := h0 _ _ hlt (List.getElem?_eq_getElem hlt)
  rw [this] at ha; cases ha

theorem below_drw {B : Nat} {a w : World} (h : Below B a w) : Below B a w.drew := ⟨h.os, h.tape, h.output, h.size, h.block⟩

set_option maxRecDepth 100000 in
set_option maxHeartbeats 4000000 in
theorem rjoined_any (a : Option Addr) (n c : Nat) (xs : List Ses) (w : World) (hx : SAt w a n xs) (hn : n ≤ 1000000) :
    Calls Tryz.prog 105 #[.slice a n c] w (fun e w' => ∃ v, e = .returned v ∧ SRow w' w.heap.size v (joinS xs) ∧ Below w.heap.size w w') := by
  have HX := Lib.hid hx
  have hlen := hx.1
  obtain ⟨i0, hi, hz0, hz1, hz2⟩ := info_parts Tryz.infoSes
  have HI0 := Lib.hid hi; have HZ0 := Lib.hid hz0; have HZ1 := Lib.hid hz1; have HZ2 := Lib.hid hz2
  clear hi hz0 hz1 hz2 hx
  go_enter Tryz.func105, Tryz.ntmps105
  go_wp2_with fail
  go_loopw [3, 4] (fun v i wr => ∃ j : Nat, j ≤ n ∧ i = .int .i64 j ∧ Hid (SRow wr w.heap.size v (joinS (xs.take j))) ∧ Hid (Below w.heap.size w wr)) (fun _ i _ => n - (intOf i).toNat)
  case atStart => exact ⟨0, by omega, rfl, Lib.hid (by simp [joinS]; exact World.ownsRow_nil _ _ _ _), Lib.hid (Below.refl _ _)⟩
  case round =>
    obtain ⟨j, hj, rfl, HR, HB⟩ := hrel
    by_cases hlt : j < n
    · obtain ⟨b1, o1, s1, rfl, g1, z1, x0, x1, x2, x3, x4, x5⟩ := SAt.cells (HX.out.below HB.out) hlt
      have hJ := joinS_len (xs.take j) []
      rw [List.length_take, List.length_nil] at hJ
      have HJ : Hid (joinS (xs.take (j + 1)) = addS (joinS (xs.take j)) s1) := Lib.hid (joinS_take g1)
      have hJ2 : (joinS (xs.take j)).length ≤ j := by unfold joinS; omega
      clear g1 hJ
      generalize joinS (xs.take j) = L at *
      obtain ⟨ao, co, rfl, hco, hso⟩ := HR.out.sat
      have HSO := Lib.hid hso
      clear hso
      go_wp2_with fail
      obtain ⟨wo, rfl⟩ : ∃ wo : World, wo = wr := ⟨_, rfl⟩
      go_loopw [5] (fun i wr => ∃ q : Nat, q ≤ L.length ∧ i = .int .i64 q ∧ Hid (∀ i u, i < q → L[i]? = some u → alkS s1 u = false) ∧ Hid (Below wo.heap.size wo wr)) (fun i _ => L.length - (intOf i).toNat)
      case atStart => exact ⟨0, by omega, rfl, Lib.hid (fun i u h => by omega), Lib.hid (Below.refl _ _)⟩
      case round =>
        obtain ⟨q, hq, rfl, HA, HC⟩ := hrel
        have HR2 := Lib.hid (HR.out.below HC.out)
        have x0 := below_cell9 HC.out x0
        have x1 := below_cell9 HC.out x1
        have x2 := below_cell9 HC.out x2
        have x3 := below_cell9 HC.out x3
        have x4 := below_cell9 HC.out x4
        have x5 := below_cell9 HC.out x5
        have k1 : (j : Int) < n := by omega
        have k2 : (0 : Int) ≤ j := by omega
        have k4 : (0 : Int) ≤ q := by omega
        by_cases hlq : q < L.length
        · obtain ⟨g, cap, he, hcap, hB, hg, hcell⟩ := SRow.open_ HR2.out (by omega)
          cases he
          obtain ⟨t1, ht1⟩ : ∃ t1, L[q]? = some t1 := ⟨_, List.getElem?_eq_getElem hlq⟩
          obtain ⟨y0, y1, y2, y3, y4, y5, yf⟩ := hcell q t1 ht1
          have YF := Lib.hid (yf 1)
          have HT1 := Lib.hid ht1
          have k3 : (q : Int) < (L.length : Int) := by omega
          have AL := Lib.hid (fun W => ralike_any t1.1 t1.2.1 t1.2.2.1 t1.2.2.2.1 t1.2.2.2.2.1 t1.2.2.2.2.2 s1.1 s1.2.1 s1.2.2.1 s1.2.2.2.1 s1.2.2.2.2.1 s1.2.2.2.2.2 W)
          have HAK : Hid (alkS t1 s1 = alkB t1.1 t1.2.2.1 t1.2.2.2.1 t1.2.2.2.2.1 t1.2.2.2.2.2 s1.1 s1.2.2.1 s1.2.2.2.1 s1.2.2.2.2.1 s1.2.2.2.2.2) := Lib.hid rfl
          rw [← HAK.out] at AL
          have HCM := Lib.hid (alkS_comm s1 t1)
          clear hcell ht1 yf HAK
          generalize hal : alkS t1 s1 = al at *
          have HAL := Lib.hid hal
          clear hal
          go_upto_region 6 with fail
          go_cut [27] (fun s27 wx => s27 = .bool (!al) ∧ Below wr.heap.size wr wx)
          case first =>
            go_region_held3 (fun w' => w'.cell? ⟨b1, o1 + j * 6, none⟩ = some (.string (arr s1.1)) ∧ w'.cell? ⟨b1, o1 + j * 6 + 1, none⟩ = some (.int .i64 s1.2.1) ∧ w'.cell? ⟨b1, o1 + j * 6 + 2, none⟩ = some (.int .i64 s1.2.2.1) ∧ w'.cell? ⟨b1, o1 + j * 6 + 3, none⟩ = some (.int .i64 s1.2.2.2.1) ∧ w'.cell? ⟨b1, o1 + j * 6 + 4, none⟩ = some (.int .i64 s1.2.2.2.2.1) ∧ w'.cell? ⟨b1, o1 + j * 6 + 5, none⟩ = some (.string (arr s1.2.2.2.2.2)) ∧ w'.cell? ⟨g, q * 6, none⟩ = some (.string (arr t1.1)) ∧ w'.cell? ⟨g, q * 6 + 1, none⟩ = some (.int .i64 t1.2.1) ∧ w'.cell? ⟨g, q * 6 + 2, none⟩ = some (.int .i64 t1.2.2.1) ∧ w'.cell? ⟨g, q * 6 + 3, none⟩ = some (.int .i64 t1.2.2.2.1) ∧ w'.cell? ⟨g, q * 6 + 4, none⟩ = some (.int .i64 t1.2.2.2.2.1) ∧ w'.cell? ⟨g, q * 6 + 5, none⟩ = some (.string (arr t1.2.2.2.2.2))) (first | (with_reducible exact ⟨x0, x1, x2, x3, x4, x5, y0, y1, y2, y3, y4, y5⟩) | go_keep) ((go_at_call 108; refine (AL.out _).mono ?_; rintro e9 w9 ⟨rfl, hb9⟩; have BQ : Below wr.heap.size wr w9 := (by first | with_reducible exact hb9 | exact below3 (bel_drew0 _) hb9); have x0 := below_cell9 BQ x0; have x1 := below_cell9 BQ x1; have x2 := below_cell9 BQ x2; have x3 := below_cell9 BQ x3; have x4 := below_cell9 BQ x4; have x5 := below_cell9 BQ x5; have y0 := below_cell9 BQ y0; have y1 := below_cell9 BQ y1; have y2 := below_cell9 BQ y2; have y3 := below_cell9 BQ y3; have y4 := below_cell9 BQ y4; have y5 := below_cell9 BQ y5))
            all_goals (
              go_wp2_with fail
              go_meet
              exact ⟨rfl, by assumption⟩)
          case rest =>
            obtain ⟨rfl, hbz⟩ := hcut
            have HC2 := Lib.hid (below3 HC.out hbz)
            have HR3 := Lib.hid (HR2.out.below hbz)
            have x0 := below_cell9 hbz x0
            have x1 := below_cell9 hbz x1
            have y1 := below_cell9 hbz y1
            have hg2 := Nat.lt_of_lt_of_le hg hbz.size
            have YF2 : Hid (World.frozen? _ _ = false) := Lib.hid ((hbz.frozen (p := ⟨g, q * 6 + 1, none⟩) hg).trans YF.out)
            clear x2 x3 x4 x5 y0 y2 y3 y4 y5
            have HB2 := Lib.hid (below3 HB.out HC2.out)
            clear hbz
            cases al
            · have HA2 : Hid (∀ i u, i < q + 1 → L[i]? = some u → alkS s1 u = false) := Lib.hid (fun i u h1 h2 => by
                rcases Nat.lt_or_ge i q with h3 | h3
                · exact HA.out i u h3 h2
                · have : i = q := by omega
                  subst this
                  rw [HT1.out] at h2; cases h2; exact HCM.out)
              go_wp2_with fail
              go_roundw
              case rel => exact ⟨q + 1, by omega, by go_num, HA2, HC2⟩
              case measure => simp [intOf]; omega
            · have HN : Hid (joinS (xs.take (j + 1)) = L.set q (t1.1, bits .or .i64 t1.2.1 s1.2.1, t1.2.2)) := Lib.hid (by rw [HJ.out]; exact addS_hit HA.out HT1.out HCM.out)
              have hd : ((q : Int) == (L.length : Int)) = false := by rw [beq_eq_false_iff_ne]; omega
              have yf := YF2.out
              go_wp2_with fail
              have HST := Lib.hid (SRow.store HR3.out HT1.out (bits .or .i64 t1.2.1 s1.2.1))
              have HBS := Lib.hid (below_drw (HB2.out.setCell (p := ⟨g, q * 6 + 1, none⟩) hB (.int .i64 (bits .or .i64 t1.2.1 s1.2.1))))
              go_region
              all_goals (
                go_wp2_with fail
                go_roundw
                case rel => exact ⟨j + 1, by omega, by go_num, by rw [HN.out]; exact HST, HBS⟩
                case measure => simp [intOf]; omega)
        · obtain rfl : q = L.length := by omega
          have HN := Lib.hid (HJ.out.trans (addS_new HA.out))
          have hdq : ((L.length : Int) == (L.length : Int)) = true := by simp
          have HB2 := Lib.hid (below3 HB.out HC.out)
          have hb2 := HB2.out.size
          go_upto_region 6 with fail
          go_cut [27] (fun s27 wx => s27 = .bool false ∧ Below wr.heap.size wr wx)
          case first =>
            go_quiet (fail)
            go_wp2_with fail
            go_meet
            exact ⟨rfl, below_drewN _ _⟩
          case rest =>
            obtain ⟨rfl, hbz⟩ := hcut
            have HR3 := Lib.hid (HR2.out.below hbz)
            have HB3 := Lib.hid (below3 HB2.out hbz)
            have x0 := below_cell9 hbz x0
            have x1 := below_cell9 hbz x1
            have x2 := below_cell9 hbz x2
            have x3 := below_cell9 hbz x3
            have x4 := below_cell9 hbz x4
            have x5 := below_cell9 hbz x5
            have hb3 := HB3.out.size
            clear hbz
            go_wp2_with (at_builtin; refine wpList_append_own _ rfl _ _ 49 rfl w.heap.size 95 i0 sesZ 6 64 Tryz.underlying49 HI0.out HZ0.out HZ1.out HZ2.out rfl (by decide) _ _ _ rfl (HR3.out.alloc _) ⟨wc.heap.size, 0, none⟩ 1 1 (sesC s1) rfl rfl ?c1 ?c2 ?c3 ?c4 ?c5 ?_)
            case c1 => exact new1 _ _ _
            case c2 => exact ones_ses _
            case c3 => unfold maxLen; omega
            case c4 => omega
            case c5 => first | omega | (simp; omega)
            intro v' w2 hown' hgrow _
            have hown2 := Lib.hid (snoc_of HN.out hown')
            have hB2 : Hid (Below w.heap.size w w2) := Lib.hid ((HB3.out.alloc HB3.out.size _).grown hgrow (by simp; omega) (fun q hq => (HR3.out.lt q hq).1))
            clear hown' hgrow
            go_wp2_with fail
            go_roundw
            case rel => exact ⟨j + 1, by omega, by go_num, hown2, hB2⟩
            case measure => simp [intOf]; omega
    · obtain rfl : j = n := by omega
      have HF : Hid (joinS (xs.take j) = joinS xs) := Lib.hid (by rw [List.take_of_length_le (by omega)])
      go_wp2_with fail
      go_ret
      exact ⟨_, rfl, by rw [← HF.out]; exact HR.out, HB.out⟩
end Go.Proofs.YtihbpggbpapcfaaGreatDoor

namespace Go.Proofs.YtihbpggbpapcfaaGreatDoor
open Go.RowKit

structure ElemT (t e : TypeId) (k bytes : Nat) : Prop where
  ex : ∃ i z, Tryz.prog.underlying t = some (.slice e) ∧ Tryz.prog.info? e = some i ∧ i.zero = some z ∧ i.size = k ∧ i.bytes = bytes ∧ z.cells.size = k
  pos : 0 < k ∧ 0 < bytes
structure Enc {α : Type} (f : α → List Value) (k : Nat) : Prop where
  len : ∀ x, (f x).length = k
  one : ∀ x, ∀ u ∈ f x, u.oneCell' = true
theorem encSes : Enc sesC 6 := ⟨sesC_len, ones_ses⟩
theorem elemSes : ElemT 49 95 6 64 := by
  obtain ⟨i, h1, h2, h3, h4⟩ := info_parts Tryz.infoSes
  exact ⟨⟨i, sesZ, Tryz.underlying49, h1, h2, h3, h4, rfl⟩, by omega⟩
abbrev KRow {α : Type} (f : α → List Value) (k : Nat) (e : TypeId) (w : World) (B : Nat) (v : Value) (xs : List α) : Prop := w.ownsRow B e k v xs.length (xs.flatMap f)
theorem KRow.nil {α : Type} (f : α → List Value) (k : Nat) (e : TypeId) (w : World) (B : Nat) : KRow f k e w B (.slice none 0 0) [] := World.ownsRow_nil _ _ _ _
theorem KAt.len {α : Type} {f : α → List Value} {k : Nat} {w : World} {a : Option Addr} {n : Nat} {xs : List α} (h : KAt f k w a n xs) : xs.length = n := h.1
theorem KAt.one {α : Type} {f : α → List Value} {k : Nat} (w : World) (x : α) (T : TypeId) : KAt f k (w.alloc (.cells (f x).toArray T)) (some ⟨w.heap.size, 0, none⟩) 1 [x] := by
  refine ⟨rfl, by omega, Or.inr ⟨_, 0, rfl, fun j y hy o v hv => ?_⟩⟩
  have hj : j = 0 := by have := (List.getElem?_eq_some_iff.1 hy).1; simp at this; omega
  subst hj
  simp only [List.getElem?_cons_zero, Option.some.injEq] at hy
  subst hy
  have := new1 w (f x) T o v hv
  rw [Go.WideShapes.add_plain] at this
  simpa using this
theorem KAt.one2 {α : Type} {f : α → List Value} {k : Nat} (w : World) (O : Obj) (x : α) (T : TypeId) : KAt f k ((w.alloc O).alloc (.cells (f x).toArray T)) (some ⟨w.heap.size + 1, 0, none⟩) 1 [x] := by
  have h := KAt.one (f := f) (k := k) (w.alloc O) x T
  rw [show (w.alloc O).heap.size = w.heap.size + 1 by simp] at h
  exact h
theorem KRow.at_ {α : Type} {f : α → List Value} {k : Nat} {e : TypeId} (hf : Enc f k) {w : World} {B : Nat} {v : Value} {xs : List α} (h : KRow f k e w B v xs) : ∃ a cap, v = .slice a xs.length cap ∧ xs.length ≤ cap ∧ KAt f k w a xs.length xs := by
  obtain ⟨a, cap, h1, h2⟩ := KAt.of_owns hf.len h
  refine ⟨a, cap, h1, ?_, h2⟩
  rcases h.2 with ⟨e, hn⟩ | ⟨g, cap', cur, e, _, _, hc, _⟩
  · rw [hn]; omega
  · rw [h1] at e; cases e; exact hc

section
variable {α : Type} {f : α → List Value} {k bytes : Nat} {t e : TypeId}
theorem run_app (hE : ElemT t e k bytes) (hf : Enc f k) {w : World} (ty : TypeId) {B : Nat} {v : Value} {xs : List α} (hown : KRow f k e w B v xs) {A : Option Addr} {m : Nat} (c : Nat) {ys : List α} (hy : KAt f k w A m ys)
    (hlim : (xs.length + ys.length) * bytes ≤ 140737488355328) (hbase : B ≤ w.heap.size) :
    ∃ v' w', (Builtin.append_ #[t, t] ty #[v, .slice A m c]).run Tryz.prog w = .ok v' w' ∧ KRow f k e w' B v' (xs ++ ys) ∧ Below B w w' ∧ w.grownBy w' v.ownBlock ∧ (v'.ownBlock = v.ownBlock ∨ v'.ownBlock = some w.heap.size) := by
  obtain ⟨i, z, ht, hi, hz, hs, hb, hzs⟩ := hE.ex
  have hk := hE.pos.1
  have hbp := hE.pos.2
  have hym : ys.length = m := hy.1
  have hle : xs.length + ys.length ≤ 140737488355328 := Nat.le_trans (Nat.le_mul_of_pos_right _ hbp) hlim
  have fin : ∀ v' w', w'.ownsRow B e k v' (xs.length + m) (xs.flatMap f ++ ys.flatMap f) → KRow f k e w' B v' (xs ++ ys) := fun v' w' h => by
    show w'.ownsRow B e k v' (xs ++ ys).length ((xs ++ ys).flatMap f)
    rw [List.length_append, List.flatMap_append, hym]; exact h
  have bel : ∀ w', w.grownBy w' v.ownBlock → Below B w w' := fun w' h => (Below.refl B w).grown h hbase (fun q hq => (hown.lt q hq).1)
  cases A with
  | none =>
    have hm : m = 0 := by
      rcases hy.2.2 with h | ⟨b, off, h, _⟩
      · exact h
      · cases h
    subst hm
    have hys : ys = [] := List.eq_nil_of_length_eq_zero hym
    subst hys
    have hrun : (Builtin.append_ #[t, t] ty #[v, .slice none 0 c]).run Tryz.prog w = .ok v w := by
      rcases hown.2 with ⟨rfl, h0⟩ | ⟨g, cap, cur, rfl, _, _, hnc, _⟩
      · simp [Builtin.append_, run_underlying ht, sizeOf, typeInfo, hi, Builtin.lenOf, Builtin.firstCells]
      · simp [Builtin.append_, run_underlying ht, sizeOf, typeInfo, hi, Builtin.lenOf, Builtin.firstCells, hnc, storeCells]
    exact ⟨v, w, hrun, by rw [List.append_nil]; exact hown, Below.refl _ _, World.grownBy.refl w _, Or.inl rfl⟩
  | some ad =>
    have hl : (ys.flatMap f).length = m * k := by rw [flat_len f k hf.len, hym]
    have h1 : ∀ u ∈ ys.flatMap f, u.oneCell' = true := fun u hu => by
      obtain ⟨x, _, hx⟩ := List.mem_flatMap.1 hu
      exact hf.one x u hx
    have hnews : ∀ j u, (ys.flatMap f)[j]? = some u → w.cell? (ad.add j) = some u := by
      intro j u hj
      rcases hy.2.2 with h | ⟨b, off, h, hc⟩
      · rw [h] at hym
        have hys : ys = [] := List.eq_nil_of_length_eq_zero hym
        subst hys
        simp at hj
      · cases h
        have hlt : j < m * k := by rw [← hl]; exact (List.getElem?_eq_some_iff.1 hj).1
        have e1 : j = j / k * k + j % k := by rw [Nat.mul_comm]; exact (Nat.div_add_mod j k).symm
        have h2 : j / k < m := Nat.div_lt_of_lt_mul (by rw [Nat.mul_comm]; exact hlt)
        have h3 : j % k < k := Nat.mod_lt _ hk
        have hx : ys[j / k]? = some ys[j / k] := List.getElem?_eq_getElem (by omega)
        have e2 := flat_at f k hf.len ys (j / k) (j % k) _ hx h3
        rw [← e1, hj] at e2
        have := hc (j / k) _ hx (j % k) u e2.symm
        rw [Go.WideShapes.add_plain, e1]
        exact this
    obtain ⟨v', w', hr, h2, h3, _, h5⟩ := run_append_own_at (P := Tryz.prog) w B t ty e i z k bytes ht hi hz hs hb hzs hk v xs.length (xs.flatMap f) hown ad m c (ys.flatMap f) hl hnews h1 (by unfold maxLen; omega) (by rw [← hym]; exact hlim) hbase
    exact ⟨v', w', hr, fin v' w' h2, bel w' h3, h3, h5⟩
theorem wp_app (hE : ElemT t e k bytes) (hf : Enc f k) {w : World} {o : Oper} {a : Act} {K : Act → World → Prop} {Q : Exit → Act → World → Prop} (s x : Operand)
    (ho : o.op = .call { callee := .builtin .append, args := #[s, x], argTypes := #[t, t] })
    (B : Nat) (v : Value) (xs : List α) (hs : a.eval s = v) (hown : KRow f k e w B v xs) (A : Option Addr) (m c : Nat) (ys : List α) (hx : a.eval x = .slice A m c) (hy : KAt f k w A m ys)
    (hlim : (xs.length + ys.length) * bytes ≤ 140737488355328) (hbase : B ≤ w.heap.size)
    (h : ∀ v' w', KRow f k e w' B v' (xs ++ ys) → Below B w w' → w.grownBy w' v.ownBlock → (v'.ownBlock = v.ownBlock ∨ v'.ownBlock = some w.heap.size) → K (a.put o.dst v') w') : o.wp Tryz.prog a w K Q := by
  obtain ⟨v', w', hr, h2, h3, h4, h5⟩ := run_app hE hf o.type hown c hy hlim hbase
  unfold Oper.wp execOp
  simp only [ho, resolve, invoke, builtin, Sem.run_bind, Sem.run_pure, Result.andThen_ok, List.map_toArray, List.map_cons, List.map_nil, hs, hx, hr]
  exact h v' w' h2 h3 h4 h5
theorem wpList_app (hE : ElemT t e k bytes) (hf : Enc f k) {w : World} {ops : Array Oper} {rest : List Oper} {o : Oper} {a : Act} {Q : Exit → Act → World → Prop} (hgd : o.guard = none) (s x : Operand)
    (ho : o.op = .call { callee := .builtin .append, args := #[s, x], argTypes := #[t, t] })
    (B : Nat) (v : Value) (xs : List α) (hs : a.eval s = v) (hown : KRow f k e w B v xs) (A : Option Addr) (m c : Nat) (ys : List α) (hx : a.eval x = .slice A m c) (hy : KAt f k w A m ys)
    (hlim : (xs.length + ys.length) * bytes ≤ 140737488355328) (hbase : B ≤ w.heap.size)
    (h : ∀ v' w', KRow f k e w' B v' (xs ++ ys) → Below B w w' → w.grownBy w' v.ownBlock → (v'.ownBlock = v.ownBlock ∨ v'.ownBlock = some w.heap.size) → wpList Tryz.prog ops Q rest (a.put o.dst v') w') : wpList Tryz.prog ops Q (o :: rest) a w :=
  wpList_plain hgd fun _ hK => wp_app hE hf s x ho B v xs hs hown A m c ys hx hy hlim hbase fun v' w' h2 h3 h4 h5 => hK _ _ (h v' w' h2 h3 h4 h5)
theorem step_app (hE : ElemT t e k bytes) (hf : Enc f k) {w : World} {ops : Array Oper} {o : Oper} {a : Act} {K : Act → World → Prop} {Q : Exit → Act → World → Prop} {E : Prop} (hgd : o.guard = none) (s x : Operand)
    (ho : o.op = .call { callee := .builtin .append, args := #[s, x], argTypes := #[t, t] })
    (B : Nat) (v : Value) (xs : List α) (hs : a.eval s = v) (hown : KRow f k e w B v xs) (A : Option Addr) (m c : Nat) (ys : List α) (hx : a.eval x = .slice A m c) (hy : KAt f k w A m ys)
    (hlim : (xs.length + ys.length) * bytes ≤ 140737488355328) (hbase : B ≤ w.heap.size)
    (h : ∀ v' w', KRow f k e w' B v' (xs ++ ys) → Below B w w' → w.grownBy w' v.ownBlock → (v'.ownBlock = v.ownBlock ∨ v'.ownBlock = some w.heap.size) → K (a.put o.dst v') w') :
    if Region.wanted o (yielded ops a.tmps) = true then Oper.wp Tryz.prog o a w K Q else E := by
  have hw : Region.wanted o (yielded ops a.tmps) = true := by simp [Region.wanted, hgd]
  rw [if_pos hw]
  exact wp_app hE hf s x ho B v xs hs hown A m c ys hx hy hlim hbase h
end
theorem KAt.take {α : Type} {f : α → List Value} {k : Nat} {w : World} {a : Option Addr} {n : Nat} {xs : List α} (h : KAt f k w a n xs) {i : Nat} (hi : i ≤ n) : KAt f k w a i (xs.take i) := by
  refine ⟨by rw [List.length_take, h.1]; omega, by have := h.2.1; omega, ?_⟩
  rcases h.2.2 with h0 | ⟨b, off, ha, hc⟩
  · left; omega
  · refine Or.inr ⟨b, off, ha, fun j x hx => ?_⟩
    rw [List.getElem?_take] at hx
    split at hx
    · exact hc j x hx
    · cases hx
theorem KAt.drop {α : Type} {f : α → List Value} {k : Nat} {w : World} {b off n : Nat} {xs : List α} (h : KAt f k w (some ⟨b, off, none⟩) n xs) {i : Nat} (hi : i ≤ n) : KAt f k w (some ⟨b, off + i * k, none⟩) (n - i) (xs.drop i) := by
  refine ⟨by rw [List.length_drop, h.1], by have := h.2.1; omega, ?_⟩
  rcases h.2.2 with h0 | ⟨b', off', ha, hc⟩
  · left; omega
  · cases ha
    refine Or.inr ⟨b, _, rfl, fun j x hx o v hv => ?_⟩
    rw [List.getElem?_drop] at hx
    have := hc (i + j) x hx o v hv
    rw [show off + i * k + (j * k + o) = off + ((i + j) * k + o) by rw [Nat.add_mul]; omega]
    exact this
end Go.Proofs.YtihbpggbpapcfaaGreatDoor
