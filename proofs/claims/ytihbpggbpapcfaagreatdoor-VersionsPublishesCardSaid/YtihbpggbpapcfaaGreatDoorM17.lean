/- Texts V29, V30, joined: walks and laws for the versions. -/
import Derived.Test.YtihbpggbpapcfaaGreatDoorM16
namespace Go.Proofs.YtihbpggbpapcfaaGreatDoor
open Go.RowKit

abbrev Sl := Option Addr × Nat × Nat
def slV (s : Sl) : Value := .slice s.1 s.2.1 s.2.2
def SV (w : World) (s : Sl) (ss : List Ses) : Prop := s.2.1 ≤ s.2.2 ∧ SAt w s.1 s.2.1 ss
theorem SV.below {w w' : World} {s : Sl} {ss : List Ses} (h : SV w s ss) (hb : Below w.heap.size w w') : SV w' s ss := ⟨h.1, h.2.below hb⟩
theorem SV.nil (w : World) : SV w (none, 0, 0) [] := ⟨Nat.le_refl _, KAt.nil _ _ _⟩
theorem SRow.sv {w : World} {B : Nat} {v : Value} {ss : List Ses} (h : SRow w B v ss) : ∃ s : Sl, v = slV s ∧ SV w s ss := by
  obtain ⟨a, cap, h1, h2, h3⟩ := h.sat
  exact ⟨(a, ss.length, cap), h1, h2, h3⟩
def All2 {α β : Type} (R : α → β → Prop) (xs : List α) (ys : List β) : Prop := xs.length = ys.length ∧ ∀ (j : Nat) (x : α) (y : β), xs[j]? = some x → ys[j]? = some y → R x y
theorem All2.nil {α β : Type} (R : α → β → Prop) : All2 R [] [] := ⟨rfl, fun j x y h => by simp at h⟩
theorem All2.imp {α β : Type} {R S : α → β → Prop} {xs : List α} {ys : List β} (h : All2 R xs ys) (hi : ∀ x y, R x y → S x y) : All2 S xs ys := ⟨h.1, fun j x y hx hy => hi x y (h.2 j x y hx hy)⟩
theorem All2.snoc {α β : Type} {R : α → β → Prop} {xs : List α} {ys : List β} (h : All2 R xs ys) {x : α} {y : β} (hr : R x y) : All2 R (xs ++ [x]) (ys ++ [y]) := by
  refine ⟨by rw [List.length_append, List.length_append, h.1]; rfl, fun j a b ha hb => ?_⟩
  rcases Nat.lt_or_ge j xs.length with hl | hl
  · rw [List.getElem?_append_left hl] at ha
    rw [List.getElem?_append_left (by rw [← h.1]; exact hl)] at hb
    exact h.2 j a b ha hb
  · rw [List.getElem?_append_right hl] at ha
    rw [List.getElem?_append_right (by rw [← h.1]; exact hl), ← h.1] at hb
    have hj : j - xs.length = 0 := by have := (List.getElem?_eq_some_iff.1 ha).1; simp at this; omega
    rw [hj] at ha hb
    simp at ha hb
    rw [← ha, ← hb]; exact hr
theorem All2.get {α β : Type} {R : α → β → Prop} {xs : List α} {ys : List β} (h : All2 R xs ys) {j : Nat} (hj : j < xs.length) : ∃ x y, xs[j]? = some x ∧ ys[j]? = some y ∧ R x y := by
  have hy : j < ys.length := by rw [← h.1]; exact hj
  exact ⟨xs[j], ys[j], List.getElem?_eq_getElem hj, List.getElem?_eq_getElem hy, h.2 j _ _ (List.getElem?_eq_getElem hj) (List.getElem?_eq_getElem hy)⟩
theorem All2.take {α β : Type} {R : α → β → Prop} {xs : List α} {ys : List β} (h : All2 R xs ys) (i : Nat) : All2 R (xs.take i) (ys.take i) := by
  refine ⟨by rw [List.length_take, List.length_take, h.1], fun j x y hx hy => ?_⟩
  rw [List.getElem?_take] at hx hy
  split at hx
  · rename_i hji
    rw [if_pos hji] at hy
    exact h.2 j x y hx hy
  · cases hx

abbrev RChg := L8 × Sl × Sl
def rchC (r : RChg) : List Value := [.string (arr r.1), slV r.2.1, slV r.2.2]
theorem encChg : Enc rchC 3 := ⟨fun _ => rfl, fun r u hu => by simp [rchC] at hu; rcases hu with rfl | rfl | rfl <;> rfl⟩
def chgZ : Value := .agg #[.string .empty, .slice none 0 0, .slice none 0 0]
theorem Tryz.infoChg : (Tryz.prog.info? 101).map (fun i => (i.zero, i.size, i.bytes)) = some (some chgZ, 3, 64) := by kernel_rfl
theorem elemChg : ElemT 22 101 3 64 := by
  obtain ⟨i, h1, h2, h3, h4⟩ := info_parts Tryz.infoChg
  exact ⟨⟨i, chgZ, Tryz.underlying22, h1, h2, h3, h4, rfl⟩, by omega⟩
def ChgR (w : World) (r : RChg) (x : Chg) : Prop := r.1 = x.1 ∧ SV w r.2.1 x.2.1 ∧ SV w r.2.2 x.2.2
theorem ChgR.below {w w' : World} {r : RChg} {x : Chg} (h : ChgR w r x) (hb : Below w.heap.size w w') : ChgR w' r x := ⟨h.1, h.2.1.below hb, h.2.2.below hb⟩
def HAt (w : World) (a : Option Addr) (n : Nat) (cs : List Chg) : Prop := ∃ rs : List RChg, KAt rchC 3 w a n rs ∧ All2 (ChgR w) rs cs
theorem HAt.below {w w' : World} {a : Option Addr} {n : Nat} {cs : List Chg} (h : HAt w a n cs) (hb : Below w.heap.size w w') : HAt w' a n cs := by
  obtain ⟨rs, h1, h2⟩ := h
  exact ⟨rs, h1.below hb, h2.imp fun r x hr => hr.below hb⟩
theorem HAt.len {w : World} {a : Option Addr} {n : Nat} {cs : List Chg} (h : HAt w a n cs) : cs.length = n ∧ n ≤ 9223372036854775807 := by
  obtain ⟨rs, h1, h2⟩ := h
  exact ⟨by rw [← h2.1]; exact h1.1, h1.2.1⟩
theorem HAt.nil (w : World) : HAt w none 0 [] := ⟨[], KAt.nil _ _ _, All2.nil _⟩
theorem HAt.cells {w : World} {a : Option Addr} {n : Nat} {cs : List Chg} (h : HAt w a n cs) {j : Nat} (hj : j < n) : ∃ (b off : Nat) (x : Chg) (p q : Sl), a = some ⟨b, off, none⟩ ∧ cs[j]? = some x ∧ b < w.heap.size ∧
    w.cell? ⟨b, off + j * 3, none⟩ = some (.string (arr x.1)) ∧ w.cell? ⟨b, off + j * 3 + 1, none⟩ = some (.slice p.1 p.2.1 p.2.2) ∧ w.cell? ⟨b, off + j * 3 + 2, none⟩ = some (.slice q.1 q.2.1 q.2.2) ∧ SV w p x.2.1 ∧ SV w q x.2.2 := by
  obtain ⟨rs, h1, h2⟩ := h
  obtain ⟨r, x, hr, hx, e1, e2, e3⟩ := h2.get (j := j) (by rw [h1.1]; exact hj)
  rcases h1.2.2 with h0 | ⟨b, off, rfl, hc⟩
  · omega
  · have c := hc j r hr
    have c0 := c 0 _ rfl
    rw [Nat.add_zero] at c0
    refine ⟨b, off, x, r.2.1, r.2.2, rfl, hx, lt_of_cell c0, by rw [← e1]; exact c0, c 1 _ rfl, c 2 _ rfl, e2, e3⟩
def HV (w : World) (s : Sl) (cs : List Chg) : Prop := s.2.1 ≤ s.2.2 ∧ HAt w s.1 s.2.1 cs
theorem HV.below {w w' : World} {s : Sl} {cs : List Chg} (h : HV w s cs) (hb : Below w.heap.size w w') : HV w' s cs := ⟨h.1, h.2.below hb⟩
theorem HV.nil (w : World) : HV w (none, 0, 0) [] := ⟨Nat.le_refl _, HAt.nil _⟩

abbrev RVer := Int × Int × Sl
def rveC (r : RVer) : List Value := [.int .i64 r.1, .int .i64 r.2.1, slV r.2.2]
theorem encVer : Enc rveC 3 := ⟨fun _ => rfl, fun r u hu => by simp [rveC] at hu; rcases hu with rfl | rfl | rfl <;> rfl⟩
def verZ : Value := .agg #[.int .i64 0, .int .i64 0, .slice none 0 0]
theorem Tryz.infoVer : (Tryz.prog.info? 24).map (fun i => (i.zero, i.size, i.bytes)) = some (some verZ, 3, 40) := by kernel_rfl
theorem elemVer : ElemT 32 24 3 40 := by
  obtain ⟨i, h1, h2, h3, h4⟩ := info_parts Tryz.infoVer
  exact ⟨⟨i, verZ, Tryz.underlying32, h1, h2, h3, h4, rfl⟩, by omega⟩
def VerR (w : World) (r : RVer) (v : Ver) : Prop := r.1 = v.1 ∧ r.2.1 = v.2.1 ∧ HV w r.2.2 v.2.2
theorem VerR.below {w w' : World} {r : RVer} {v : Ver} (h : VerR w r v) (hb : Below w.heap.size w w') : VerR w' r v := ⟨h.1, h.2.1, h.2.2.below hb⟩
def VAt (w : World) (a : Option Addr) (n : Nat) (vs : List Ver) : Prop := ∃ rs : List RVer, KAt rveC 3 w a n rs ∧ All2 (VerR w) rs vs
theorem VAt.below {w w' : World} {a : Option Addr} {n : Nat} {vs : List Ver} (h : VAt w a n vs) (hb : Below w.heap.size w w') : VAt w' a n vs := by
  obtain ⟨rs, h1, h2⟩ := h
  exact ⟨rs, h1.below hb, h2.imp fun r x hr => hr.below hb⟩
theorem VAt.len {w : World} {a : Option Addr} {n : Nat} {vs : List Ver} (h : VAt w a n vs) : vs.length = n ∧ n ≤ 9223372036854775807 := by
  obtain ⟨rs, h1, h2⟩ := h
  exact ⟨by rw [← h2.1]; exact h1.1, h1.2.1⟩
theorem VAt.nil (w : World) : VAt w none 0 [] := ⟨[], KAt.nil _ _ _, All2.nil _⟩
theorem VAt.take {w : World} {a : Option Addr} {n : Nat} {vs : List Ver} (h : VAt w a n vs) {i : Nat} (hi : i ≤ n) : VAt w a i (vs.take i) := by
  obtain ⟨rs, h1, h2⟩ := h
  exact ⟨rs.take i, h1.take hi, h2.take i⟩
theorem VAt.cells {w : World} {a : Option Addr} {n : Nat} {vs : List Ver} (h : VAt w a n vs) {j : Nat} (hj : j < n) : ∃ (b off : Nat) (x : Ver) (q : Sl), a = some ⟨b, off, none⟩ ∧ vs[j]? = some x ∧ b < w.heap.size ∧
    w.cell? ⟨b, off + j * 3, none⟩ = some (.int .i64 x.1) ∧ w.cell? ⟨b, off + j * 3 + 1, none⟩ = some (.int .i64 x.2.1) ∧ w.cell? ⟨b, off + j * 3 + 2, none⟩ = some (.slice q.1 q.2.1 q.2.2) ∧ HV w q x.2.2 := by
  obtain ⟨rs, h1, h2⟩ := h
  obtain ⟨r, x, hr, hx, e1, e2, e3⟩ := h2.get (j := j) (by rw [h1.1]; exact hj)
  rcases h1.2.2 with h0 | ⟨b, off, rfl, hc⟩
  · omega
  · have c := hc j r hr
    have c0 := c 0 _ rfl
    rw [Nat.add_zero] at c0
    have c1 := c 1 _ rfl
    refine ⟨b, off, x, r.2.2, rfl, hx, lt_of_cell c0, by rw [← e1]; exact c0, by rw [← e2]; exact c1, c 2 _ rfl, e3⟩
def VV (w : World) (s : Sl) (vs : List Ver) : Prop := s.2.1 ≤ s.2.2 ∧ VAt w s.1 s.2.1 vs
theorem VV.below {w w' : World} {s : Sl} {vs : List Ver} (h : VV w s vs) (hb : Below w.heap.size w w') : VV w' s vs := ⟨h.1, h.2.below hb⟩
theorem VV.nil (w : World) : VV w (none, 0, 0) [] := ⟨Nat.le_refl _, VAt.nil _⟩

def bytC (c : UInt8) : List Value := [.int .u8 c.toNat]
theorem encByt : Enc bytC 1 := ⟨fun _ => rfl, fun c u hu => by simp [bytC] at hu; subst hu; rfl⟩
theorem Tryz.infoByt : (Tryz.prog.info? 5).map (fun i => (i.zero, i.size, i.bytes)) = some (some (.int .u8 0), 1, 1) := by kernel_rfl
theorem elemByt : ElemT 26 5 1 1 := by
  obtain ⟨i, h1, h2, h3, h4⟩ := info_parts Tryz.infoByt
  exact ⟨⟨i, .int .u8 0, Tryz.underlying26, h1, h2, h3, h4, rfl⟩, by omega⟩
abbrev BAt (w : World) (a : Option Addr) (n : Nat) (bs : L8) : Prop := KAt bytC 1 w a n bs
def BV (w : World) (s : Sl) (bs : L8) : Prop := s.2.1 ≤ s.2.2 ∧ BAt w s.1 s.2.1 bs
theorem BV.below {w w' : World} {s : Sl} {bs : L8} (h : BV w s bs) (hb : Below w.heap.size w w') : BV w' s bs := ⟨h.1, h.2.below hb⟩
theorem BV.nil (w : World) : BV w (none, 0, 0) [] := ⟨Nat.le_refl _, KAt.nil _ _ _⟩
theorem BAt.cells {w : World} {a : Option Addr} {n : Nat} {bs : L8} (h : BAt w a n bs) {j : Nat} (hj : j < n) : ∃ (b off : Nat) (c : UInt8), a = some ⟨b, off, none⟩ ∧ bs[j]? = some c ∧ b < w.heap.size ∧ w.cell? ⟨b, off + j, none⟩ = some (.int .u8 c.toNat) := by
  obtain ⟨h1, _, h3⟩ := h
  rcases h3 with h3 | ⟨b, off, rfl, hc⟩
  · omega
  · have hx : bs[j]? = some bs[j] := List.getElem?_eq_getElem (by omega)
    have c0 := hc j bs[j] hx 0 _ rfl
    rw [Nat.mul_one, Nat.add_zero] at c0
    exact ⟨b, off, bs[j], rfl, hx, lt_of_cell c0, c0⟩
def logV (d : Sl) (syn : Int) (v s : Sl) : Value := .agg #[slV d, .int .i64 syn, slV v, slV s]
def LogR (w : World) (v : Value) (l : Lg) : Prop := ∃ d vs ss : Sl, v = logV d l.2.1 vs ss ∧ BV w d l.1 ∧ VV w vs l.2.2.1 ∧ SV w ss l.2.2.2
theorem LogR.below {w w' : World} {v : Value} {l : Lg} (h : LogR w v l) (hb : Below w.heap.size w w') : LogR w' v l := by
  obtain ⟨d, vs, ss, h1, h2, h3, h4⟩ := h
  exact ⟨d, vs, ss, h1, h2.below hb, h3.below hb, h4.below hb⟩
end Go.Proofs.YtihbpggbpapcfaaGreatDoor

namespace Go.Proofs.YtihbpggbpapcfaaGreatDoor
open Go.RowKit

def HOwn (w : World) (B : Nat) (rs : List RChg) (cs : List Chg) : Prop := All2 (fun r x => r.1 = x.1 ∧ SRow w B (slV r.2.1) x.2.1 ∧ SRow w B (slV r.2.2) x.2.2) rs cs
theorem HOwn.below {w w' : World} {B : Nat} {rs : List RChg} {cs : List Chg} (h : HOwn w B rs cs) (hb : Below w.heap.size w w') : HOwn w' B rs cs := h.imp fun _ _ hr => ⟨hr.1, row_below hr.2.1 hb, row_below hr.2.2 hb⟩
theorem HOwn.base {w : World} {B B' : Nat} {rs : List RChg} {cs : List Chg} (h : HOwn w B rs cs) (hb : B' ≤ B) : HOwn w B' rs cs := h.imp fun _ _ hr => ⟨hr.1, row_base hr.2.1 hb, row_base hr.2.2 hb⟩
theorem HOwn.kept {w w' : World} {B B2 : Nat} {rs rs2 : List RChg} {cs : List Chg} {v : Value} (h : HOwn w B rs cs) (h2 : KRow rchC 3 101 w B2 v rs2) (hg : w.grownBy w' v.ownBlock) : HOwn w' B rs cs :=
  h.imp fun _ _ hr => ⟨hr.1, row_kept hr.2.1 h2 (by decide) hg, row_kept hr.2.2 h2 (by decide) hg⟩
def HRow (w : World) (B : Nat) (v : Value) (cs : List Chg) : Prop := ∃ rs, KRow rchC 3 101 w B v rs ∧ HOwn w B rs cs
theorem HRow.nil (w : World) (B : Nat) : HRow w B (.slice none 0 0) [] := ⟨[], KRow.nil _ _ _ _ _, All2.nil _⟩
theorem HRow.below {w w' : World} {B : Nat} {v : Value} {cs : List Chg} (h : HRow w B v cs) (hb : Below w.heap.size w w') : HRow w' B v cs := by
  obtain ⟨rs, h1, h2⟩ := h
  exact ⟨rs, row_below h1 hb, h2.below hb⟩
theorem HRow.base {w : World} {B B' : Nat} {v : Value} {cs : List Chg} (h : HRow w B v cs) (hb : B' ≤ B) : HRow w B' v cs := by
  obtain ⟨rs, h1, h2⟩ := h
  exact ⟨rs, row_base h1 hb, h2.base hb⟩
theorem sv_of {w : World} {B : Nat} {s : Sl} {ss : List Ses} (h : SRow w B (slV s) ss) : SV w s ss := by
  obtain ⟨s', h1, h2⟩ := SRow.sv h
  have : s = s' := by
    obtain ⟨a, n, c⟩ := s
    obtain ⟨a', n', c'⟩ := s'
    unfold slV at h1
    cases h1; rfl
  rw [this]; exact h2
theorem HRow.hv {w : World} {B : Nat} {v : Value} {cs : List Chg} (h : HRow w B v cs) : ∃ s : Sl, v = slV s ∧ HV w s cs := by
  obtain ⟨rs, h1, h2⟩ := h
  obtain ⟨a, cap, e, hc, hk⟩ := KRow.at_ encChg h1
  exact ⟨(a, rs.length, cap), e, hc, rs, hk, h2.imp fun r x hr => ⟨hr.1, sv_of hr.2.1, sv_of hr.2.2⟩⟩
def ResH (r : Int × List Chg) (w : World) (e : Ending) (w' : World) : Prop := ∃ v, e = .returned (.tuple #[v, .int .i64 r.1]) ∧ HRow w' w.heap.size v r.2 ∧ Below w.heap.size w w'
theorem ResH.err {r : Int × List Chg} {w w' : World} {x : Int} (h : r = (x, [])) (hb : Below w.heap.size w w') : ResH r w (.returned (.tuple #[.slice none 0 0, .int .i64 x])) w' := by
  subst h; exact ⟨_, rfl, HRow.nil _ _, hb⟩
theorem ResH.mk {r : Int × List Chg} {w w' : World} {v : Value} {x : Int} {cs : List Chg} (h : r = (x, cs)) (hr : HRow w' w.heap.size v cs) (hb : Below w.heap.size w w') : ResH r w (.returned (.tuple #[v, .int .i64 x])) w' := by
  subst h; exact ⟨_, rfl, hr, hb⟩
theorem flat_take {α β : Type} (f : α → List β) {xs : List α} {j : Nat} {x : α} (h : xs[j]? = some x) : (xs.take (j + 1)).flatMap f = (xs.take j).flatMap f ++ f x := by
  rw [List.take_add_one, h]; simp
theorem flat_len_le {α β : Type} (f : α → List β) (h : ∀ x, (f x).length ≤ 1) : ∀ xs : List α, (xs.flatMap f).length ≤ xs.length
  | [] => by simp
  | x :: xs => by
    have := flat_len_le f h xs
    have := h x
    rw [List.flatMap_cons, List.length_append, List.length_cons]; omega
theorem difK_le (a b : List Ses) (k : L8) : (difK a b k).length ≤ 1 := by unfold difK; split <;> simp

set_option maxRecDepth 100000 in
set_option maxHeartbeats 4000000 in
theorem rdiff_any (a : Option Addr) (n c : Nat) (xs : List Ses) (b : Option Addr) (n' c' : Nat) (ys : List Ses) (m : Int) (w : World) (hx : SAt w a n xs) (hs : StrOk xs) (hy : SAt w b n' ys) (hs' : StrOk ys) :
    Calls Tryz.prog 47 #[.slice a n c, .slice b n' c', .int .i64 m] w (ResH (difS m xs ys) w) := by
  have HX := Lib.hid hx
  have HY := Lib.hid hy
  have V1 := Lib.hid (fun W (h : Below w.heap.size w W) => rvalidS_any a n c xs m W (hx.below h) hs)
  have V2 := Lib.hid (fun W (h : Below w.heap.size w W) => rvalidS_any b n' c' ys m W (hy.below h) hs')
  have HV : Hid (difS m xs ys = if vldS xs m ≠ 0 then (vldS xs m, []) else if vldS ys m ≠ 0 then (vldS ys m, []) else (0, (clsL (clsS xs ++ clsS ys)).flatMap (difK xs ys))) := Lib.hid rfl
  have P1 := Lib.hid (fun h => vld_parts (xs := xs) (n := m) h)
  have P2 := Lib.hid (fun h => vld_parts (xs := ys) (n := m) h)
  have hlx := hx.1
  have hly := hy.1
  clear hx hy hs hs'
  generalize vldS xs m = e1 at *
  generalize vldS ys m = e2 at *
  go_enter Tryz.func47, Tryz.ntmps47
  go_wp2_with fail
  refine (V1.out _ (Below.refl _ _)).mono ?_
  rintro en w1 ⟨rfl, hb1⟩
  have HB1 := Lib.hid hb1
  clear hb1
  by_cases hz : e1 = 0
  rotate_left
  · have HF : Hid (difS m xs ys = (e1, [])) := Lib.hid (by rw [HV.out, if_pos hz])
    have hd : (e1 != 0) = true := by simpa using hz
    clear hz
    go_wp2_with fail
    go_ret2
    exact ResH.err HF.out HB1.out
  have p1 := P1.out hz
  have hd : (e1 != 0) = false := by simpa using hz
  have HZ := Lib.hid hz
  clear hz
  go_wp2_with fail
  refine (V2.out _ HB1.out).mono ?_
  rintro en w2 ⟨rfl, hb2⟩
  have HB2 := Lib.hid (below3 HB1.out hb2)
  clear hb2
  by_cases hz : e2 = 0
  rotate_left
  · have HF : Hid (difS m xs ys = (e2, [])) := Lib.hid (by rw [HV.out, if_neg (by simpa using HZ.out), if_pos hz])
    have hd : (e2 != 0) = true := by simpa using hz
    clear hz
    go_wp2_with fail
    go_ret2
    exact ResH.err HF.out HB2.out
  have p2 := P2.out hz
  have hd : (e2 != 0) = false := by simpa using hz
  have HF : Hid (difS m xs ys = (0, (clsL (clsS xs ++ clsS ys)).flatMap (difK xs ys))) := Lib.hid (by rw [HV.out, if_neg (by simpa using HZ.out), if_neg (by simpa using hz)])
  clear hz HZ
  obtain ⟨_, l1, _⟩ := p1
  obtain ⟨_, l2, _⟩ := p2
  have CL := Lib.hid (rclasses_any a n c xs b n' c' ys w2 (HX.out.below HB2.out) (HY.out.below HB2.out) (by omega) (by omega))
  have hcl := clsL_le (clsS xs ++ clsS ys)
  have hcl2 : (clsL (clsS xs ++ clsS ys)).length ≤ 200 := by
    rw [List.length_append] at hcl
    unfold clsS at hcl ⊢
    simp only [List.length_map] at hcl
    omega
  clear hcl
  go_wp2_with fail
  refine CL.out.mono ?_
  rintro en w3 ⟨v3, rfl, hr3, hb3⟩
  obtain ⟨a3, c3, rfl, hc3, hs3⟩ := KRow.at_ encStr hr3
  have HC3 := Lib.hid hs3
  have HB3 := Lib.hid (below3 HB2.out hb3)
  have HX3 := Lib.hid (HX.out.below HB3.out)
  have HY3 := Lib.hid (HY.out.below HB3.out)
  clear hr3 hb3 hs3 CL
  generalize clsL (clsS xs ++ clsS ys) = K at *
  generalize hp : K.length = p at *
  have HP := Lib.hid hp
  clear hp
  go_wp2_with fail
  go_loopw [10, 12] (fun v i wr => ∃ j : Nat, j ≤ p ∧ i = .int .i64 j ∧ Hid (HRow wr w3.heap.size v ((K.take j).flatMap (difK xs ys))) ∧ Hid (Below w3.heap.size w3 wr)) (fun _ i _ => p - (intOf i).toNat)
  case atStart => exact ⟨0, by omega, rfl, Lib.hid (HRow.nil _ _), Lib.hid (Below.refl _ _)⟩
  case round =>
    obtain ⟨j, hj, rfl, HR, HB⟩ := hrel
    by_cases hlt : j < p
    · obtain ⟨b1, o1, k1, rfl, g1, z1, x0⟩ := CAt.cells (HC3.out.below HB.out) hlt
      have HT := Lib.hid (flat_take (difK xs ys) g1)
      have hfl := flat_len_le (difK xs ys) (difK_le xs ys) (K.take j)
      rw [List.length_take] at hfl
      have q1 : (j : Int) < p := by omega
      have q2 : (0 : Int) ≤ (j : Int) := by omega
      have hbs := HB.out.size
      have xp0 := x0
      clear g1
      have OA := Lib.hid (fun W (h : Below wr.heap.size wr W) => rof_any a n c xs k1 W (HX3.out.below (below3 HB.out h)) (by omega))
      have OB := Lib.hid (fun W (h : Below wr.heap.size wr W) => rof_any b n' c' ys k1 W (HY3.out.below (below3 HB.out h)) (by omega))
      have BE := Lib.hid (bel_drew0 wr)
      have BR := Lib.hid (Below.refl wr.heap.size wr)
      have tokA : True := trivial
      have hol1 := ofS_len xs k1
      have hol2 := ofS_len ys k1
      go_upto_region 12 with fail
      go_cut [13, 14] (fun s13 s14 wx => SRow wx wr.heap.size s13 (ofS xs k1) ∧ SRow wx wr.heap.size s14 (ofS ys k1) ∧ Below wr.heap.size wr wx)
      case first =>
        go_region_held3 (fun w' => w'.cell? ⟨b1, o1 + j, none⟩ = some (.string (arr k1))) (first | (with_reducible exact x0) | go_keep) (first | (go_at_call 83; have tokB := tokA; clear tokA; refine (OA.out _ (by first | with_reducible exact BR.out | with_reducible exact BE.out)).mono ?_; rintro e9 w9 ⟨v9, rfl, hr9, hb9⟩; have BQ : Below wr.heap.size wr w9 := (by first | with_reducible exact hb9 | with_reducible exact below3 BE.out hb9); have HRA : Hid (SRow w9 wr.heap.size v9 (ofS xs k1)) := Lib.hid (by first | with_reducible exact hr9 | exact row_base hr9 BE.out.size); have x0 := below_cell9 BQ xp0; clear hr9 hb9) | (go_at_call 83; refine (OB.out _ (by first | with_reducible exact BQ | with_reducible exact below3 BQ (bel_drew0 _))).mono ?_; rintro e8 w8 ⟨v8, rfl, hr8, hb8⟩; have BP : Below wr.heap.size wr w8 := (by first | with_reducible exact below3 BQ hb8 | with_reducible exact below3 (below3 BQ (bel_drew0 _)) hb8); have HRB : Hid (SRow w8 wr.heap.size v8 (ofS ys k1)) := Lib.hid (row_base hr8 BQ.size); have HRA2 : Hid (SRow w8 wr.heap.size v9 (ofS xs k1)) := Lib.hid (by first | exact row_below HRA.out hb8 | exact row_below HRA.out (below3 (bel_drew0 _) hb8)); have x0 := below_cell9 BP xp0; clear hr8 hb8))
        all_goals (
          go_wp2_with fail
          go_meet
          exact ⟨HRA2.out, HRB.out, BP⟩)
      case rest =>
        obtain ⟨h1, h2, hbz⟩ := hcut
        obtain ⟨ax, cx, rfl, hcx, hsx⟩ := SRow.sat h1
        obtain ⟨ay, cy, rfl, hcy, hsy⟩ := SRow.sat h2
        have HR1 := Lib.hid h1
        have HR2 := Lib.hid h2
        have HO := Lib.hid (HR.out.below hbz)
        have HBz := Lib.hid (below3 HB.out hbz)
        have x0 := below_cell9 hbz xp0
        have SN := Lib.hid (rsame_any ax (ofS xs k1).length cx ay (ofS ys k1).length cy (ofS xs k1) (ofS ys k1) wc hsx hsy)
        have HDK := Lib.hid (difK_cases xs ys k1)
        have hz0 := hbz.size
        clear h1 h2 hbz hsx hsy OA OB xp0 BR BE
        generalize ofS xs k1 = X1 at *
        generalize ofS ys k1 = Y1 at *
        generalize hL : (K.take j).flatMap (difK xs ys) = L at *
        clear hL
        go_wp2_with fail
        refine SN.out.mono ?_
        rintro en w5 ⟨rfl, hb5⟩
        have HR1 := Lib.hid (row_below HR1.out hb5)
        have HR2 := Lib.hid (row_below HR2.out hb5)
        have HO := Lib.hid (HO.out.below hb5)
        have HB5 := Lib.hid (below3 HBz.out hb5)
        have x0 := below_cell9 hb5 x0
        have hz5 := HB5.out.size
        have hz6 := hb5.size
        clear hb5 SN
        by_cases he : X1 = Y1
        · have hd : decide (X1 = Y1) = true := decide_eq_true he
          rw [hd]
          have HN : Hid ((K.take (j + 1)).flatMap (difK xs ys) = L) := Lib.hid (by
            rw [HT.out]
            rcases HDK.out with ⟨_, e⟩ | ⟨h, _⟩
            · rw [e, List.append_nil]
            · exact absurd he h)
          clear hd he
          go_wp2_with fail
          go_roundw
          case rel => exact ⟨j + 1, by omega, by go_num, by rw [HN.out]; exact HO, HB5⟩
          case measure => simp [intOf]; omega
        · have hd : decide (X1 = Y1) = false := decide_eq_false he
          rw [hd]
          have HN : Hid ((K.take (j + 1)).flatMap (difK xs ys) = L ++ [(k1, X1, Y1)]) := Lib.hid (by
            rw [HT.out]
            rcases HDK.out with ⟨h, _⟩ | ⟨_, e⟩
            · exact absurd h he
            · rw [e])
          clear hd he HDK
          obtain ⟨rs, hrow, hown⟩ := HO.out
          have HRW := Lib.hid hrow
          have HOW := Lib.hid hown
          have hrl : rs.length = L.length := hown.1
          clear hrow hown HO
          go_wp2_with (at_builtin; refine wpList_app elemChg encChg rfl _ _ rfl w3.heap.size _ rs rfl (row_below HRW.out ((Below.refl _ _).alloc (Nat.le_refl _) _)) _ _ _ [(k1, (ax, X1.length, cx), (ay, Y1.length, cy))] rfl (KAt.one w5 ((k1, (ax, X1.length, cx), (ay, Y1.length, cy)) : RChg) _) (by simp; omega) (by simp; omega) ?_)
          intro v6 w6 hr6 hb6 hg6 ho6
          have HA := Lib.hid (row_below HRW.out ((Below.refl w5.heap.size w5).alloc (Nat.le_refl _) (.cells (rchC (k1, (ax, X1.length, cx), (ay, Y1.length, cy))).toArray 101)))
          have HBA := Lib.hid ((Below.refl w5.heap.size w5).alloc (Nat.le_refl _) (.cells (rchC (k1, (ax, X1.length, cx), (ay, Y1.length, cy))).toArray 101))
          have HO6 := Lib.hid ((HOW.out.below HBA.out).kept HA.out hg6)
          have HX6 := Lib.hid (row_kept (row_below HR1.out HBA.out) HA.out (by decide) hg6)
          have HY6 := Lib.hid (row_kept (row_below HR2.out HBA.out) HA.out (by decide) hg6)
          have HRF : Hid (HRow w6 w3.heap.size v6 ((K.take (j + 1)).flatMap (difK xs ys))) := Lib.hid (by
            rw [HN.out]
            exact ⟨_, hr6, HO6.out.snoc ⟨rfl, row_base HX6.out hbs, row_base HY6.out hbs⟩⟩)
          have HBF := Lib.hid ((HB5.out.alloc hz5 (.cells (rchC (k1, (ax, X1.length, cx), (ay, Y1.length, cy))).toArray 101)).trans hb6)
          clear hr6 hb6 hg6 ho6
          go_wp2_with fail
          go_roundw
          case rel => exact ⟨j + 1, by omega, by go_num, HRF, HBF⟩
          case measure => simp [intOf]; omega
    · obtain rfl : j = p := by omega
      have HN : Hid (difS m xs ys = (0, (K.take j).flatMap (difK xs ys))) := Lib.hid (by rw [HF.out, List.take_of_length_le (by have := HP.out; omega)])
      have HRF := Lib.hid (HR.out.base HB3.out.size)
      have HBF := Lib.hid (below3 HB3.out HB.out)
      go_wp2_with fail
      go_ret2
      exact ResH.mk HN.out HRF.out HBF.out
end Go.Proofs.YtihbpggbpapcfaaGreatDoor
