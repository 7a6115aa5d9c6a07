import Derived.Test.YtllcoocllkaanaaDoorZ11
import Derived.Deep.RegionHeld3
import Derived.Deep.DeepCutAuto
namespace Go.Proofs.YtllcoocllkaanaaDoor
open Go.RowKit

def nameAt (r : Int) : ByteArray := if r = 0 then ⟨#[99, 97, 109, 112, 117, 115]⟩ else if r = 1 then ⟨#[69, 97, 115, 116]⟩ else ⟨#[122, 49]⟩
theorem nameAt_cell (r : Int) (r0 : 0 ≤ r) (r1 : r < 3) (W : World) : (W.alloc (.cells #[.string ⟨#[99, 97, 109, 112, 117, 115]⟩, .string ⟨#[69, 97, 115, 116]⟩, .string ⟨#[122, 49]⟩] 9)).cell? ⟨W.heap.size, r.toNat, none⟩ = some (.string (nameAt r)) := by
  rw [World.cell?_alloc_at _ _ _ _ rfl]
  rcases (show r = 0 ∨ r = 1 ∨ r = 2 from by omega) with rfl | rfl | rfl <;> rfl

theorem nameAt_get (r : Int) (r0 : 0 ≤ r) (r1 : r < 3) : (#[.string ⟨#[99, 97, 109, 112, 117, 115]⟩, .string ⟨#[69, 97, 115, 116]⟩, .string ⟨#[122, 49]⟩] : Array Value)[r.toNat]? = some (.string (nameAt r)) := by
  rcases (show r = 0 ∨ r = 1 ∨ r = 2 from by omega) with rfl | rfl | rfl <;> rfl
theorem nameAt_el (r : Int) (r0 : 0 ≤ r) (r1 : r < 3) (h : r.toNat < ([.string ⟨#[99, 97, 109, 112, 117, 115]⟩, .string ⟨#[69, 97, 115, 116]⟩, .string ⟨#[122, 49]⟩] : List Value).length) : ([.string ⟨#[99, 97, 109, 112, 117, 115]⟩, .string ⟨#[69, 97, 115, 116]⟩, .string ⟨#[122, 49]⟩] : List Value)[r.toNat]'h = (.string (nameAt r)) := by
  rcases (show r = 0 ∨ r = 1 ∨ r = 2 from by omega) with rfl | rfl | rfl <;> rfl
theorem DiceAt.alloc {w : World} {p : Nat} (h : DiceAt w p) (o : Obj) : DiceAt (w.alloc o) p := h.below ((Below.refl _ _).alloc (Nat.le_refl _) o)
theorem DiceAt.drew {w : World} {p : Nat} (h : DiceAt w p) : DiceAt w.drew p := h.below ⟨rfl, rfl, rfl, Nat.le_refl _, fun _ _ => rfl⟩
def namesObj : Obj := .cells #[.string ⟨#[99, 97, 109, 112, 117, 115]⟩, .string ⟨#[69, 97, 115, 116]⟩, .string ⟨#[122, 49]⟩] 9
theorem name_but {p : Nat} {r : Int} {W w0 w1 : World} (h : But p w0 w1) (e : w0 = (W.alloc namesObj).drew) (hp : p < W.heap.size) (r0 : 0 ≤ r) (r1 : r < 3) : w1.cell? ⟨W.heap.size, r.toNat, none⟩ = some (.string (nameAt r)) := by
  subst e
  rw [h.cell (by show _ < (W.alloc namesObj).heap.size; simp) (by omega)]
  exact nameAt_cell r r0 r1 W
theorem But.alloc {p : Nat} {w w' : World} (h : But p w w') (o : Obj) : But p w (w'.alloc o) := h.trans (But.of_below ((Below.refl _ _).alloc (Nat.le_refl _) o))
theorem But.cells {p : Nat} {w w' : World} (h : But p w w') : ∀ b o, b < w.heap.size → b ≠ p → w'.cell? ⟨b, o, none⟩ = w.cell? ⟨b, o, none⟩ := fun _ _ h1 h2 => h.cell h1 h2
theorem But.frozens {p : Nat} {w w' : World} (h : But p w w') : ∀ b o, b < w.heap.size → b ≠ p → w'.frozen? ⟨b, o, none⟩ = w.frozen? ⟨b, o, none⟩ := fun _ _ h1 h2 => h.frozen h1 h2
theorem But.upto {p : Nat} {w0 w w' : World} (h : But p w w') (k : Nat) (hk : w0.heap.size + k < w.heap.size) : w0.heap.size + k < w'.heap.size := Nat.lt_of_lt_of_le hk h.size
theorem But.upto0 {p : Nat} {w0 w w' : World} (h : But p w w') (hk : w0.heap.size < w.heap.size) : w0.heap.size < w'.heap.size := Nat.lt_of_lt_of_le hk h.size
theorem next_go {Q : Ending → World → Prop} (p : Nat) (m : Int) (w : World) (hm : 1 ≤ m) (hm2 : m ≤ 1000000000000) (hD : DiceAt w p)
    (hk : ∀ r w', 0 ≤ r → r < m → DiceAt w' p → But p w w' → p < w'.heap.size → w.heap.size ≤ w'.heap.size → w'.heap.size ≠ p → w'.heap.size + 1 ≠ p → w'.heap.size + 1 + 1 ≠ p →
      (∀ b o, b < w.heap.size → b ≠ p → w'.cell? ⟨b, o, none⟩ = w.cell? ⟨b, o, none⟩) → (∀ b o, b < w.heap.size → b ≠ p → w'.frozen? ⟨b, o, none⟩ = w.frozen? ⟨b, o, none⟩) → (∀ k, k < w.heap.size → k < w'.heap.size) → Q (.returned (.int .i64 r)) w') :
    Calls Tryd.prog 34 #[.pointer (some ⟨p, 0, none⟩), .int .i64 m] w Q :=
  (next_any p m w hm hm2 hD).mono (fun e w' h => by
    obtain ⟨r, r0, r1, rfl, hd, hb⟩ := h
    have := hd.lt
    exact hk r w' r0 r1 hd hb hd.lt hb.size (by omega) (by omega) (by omega) hb.cells hb.frozens (fun k h => Nat.lt_of_lt_of_le h hb.size))

/-- the zone being made: its box -/
structure ZNew (p g n : Nat) (s : ByteArray) (o : Int) (v : Value) (w : World) : Prop where
  c0 : w.cell? ⟨g, 0, none⟩ = some (.string s)
  c1 : w.cell? ⟨g, 1, none⟩ = some (.int .i64 o)
  c2 : w.cell? ⟨g, 2, none⟩ = some v
  f0 : w.frozen? ⟨g, 0, none⟩ = false
  f1 : w.frozen? ⟨g, 1, none⟩ = false
  f2 : w.frozen? ⟨g, 2, none⟩ = false
  ne : g ≠ p
  lo : n < g
  lt : g < w.heap.size
theorem But.drew {p : Nat} {w w' : World} (h : But p w w') : But p w w'.drew := ⟨h.os, h.tape, h.output, h.size, h.block⟩
theorem But.setNew {p : Nat} {w w' : World} (h : But p w w') {g o : Nat} (hg : w.heap.size ≤ g) (v : Value) : But p w (w'.setCell ⟨g, o, none⟩ v) :=
  ⟨h.os, h.tape, h.output, by simpa using h.size, fun q hq hqp => by rw [heap_setCell_other _ _ _ _ (show q ≠ g from by omega)]; exact h.block q hq hqp⟩
theorem DiceAt.setNe {w : World} {p : Nat} (h : DiceAt w p) {g o : Nat} (hg : p < g) (v : Value) : DiceAt (w.setCell ⟨g, o, none⟩ v) p :=
  h.same fun k hk => heap_setCell_other _ _ _ _ (show k ≠ g from by omega)
def ZHead (p : Nat) (w : World) (s3 : Value) (wx : World) : Prop := ∃ (g : Nat) (r q : Int), 0 ≤ r ∧ r < 3 ∧ 0 ≤ q ∧ q < 5 ∧ s3 = .pointer (some ⟨g, 0, none⟩) ∧ ZNew p g w.heap.size (nameAt r) (60 * (q - 2)) (.slice none 0 0) wx ∧ DiceAt wx p ∧ But p (w.alloc (.cells #[.string ⟨#[]⟩, .int .i64 0, .slice none 0 0] 24)) wx
theorem zfin {w wx : World} {p g : Nat} {r q : Int} (r1 : r < 3) (q1 : q < 5) (r0 : 0 ≤ r) (q0 : 0 ≤ q) (hz : ZNew p g w.heap.size (nameAt r) (IntKind.i64.wrap (60 * IntKind.i64.wrap (q - 2))) (.slice none 0 0) wx) (hd : DiceAt wx p)
    (hb : But p (w.alloc (.cells #[.string ⟨#[]⟩, .int .i64 0, .slice none 0 0] 24)) wx) : ZHead p w (.pointer (some ⟨g, 0, none⟩)) wx := by
  refine ⟨g, r, q, r0, r1, q0, q1, rfl, ?_, hd, hb⟩
  rw [IntWalk.i64_in (q - 2) (by omega), IntWalk.i64_in _ (by omega)] at hz
  exact hz


/-! ### The zone while it is made -/
def zObj : Obj := .cells #[.string ⟨#[]⟩, .int .i64 0, .slice none 0 0] 24
structure ZW (w wr : World) (p g : Nat) (s : ByteArray) (o : Int) (v : Value) (xs : Prs) : Prop where
  box : ZNew p g w.heap.size s o v wr
  own : wr.ownsRow (g + 1) 43 2 v xs.length (pcells xs)
  dice : DiceAt wr p
  but : But p (w.alloc zObj) wr
theorem ZNew.but {p g n : Nat} {s : ByteArray} {o : Int} {v : Value} {w w' : World} (h : ZNew p g n s o v w) (hb : But p w w') : ZNew p g n s o v w' :=
  ⟨(hb.cell h.lt h.ne).trans h.c0, (hb.cell h.lt h.ne).trans h.c1, (hb.cell h.lt h.ne).trans h.c2, (hb.frozen h.lt h.ne).trans h.f0, (hb.frozen h.lt h.ne).trans h.f1, (hb.frozen h.lt h.ne).trans h.f2, h.ne, h.lo, Nat.lt_of_lt_of_le h.lt hb.size⟩
theorem ZW.next {w wr w2 : World} {p g : Nat} {s : ByteArray} {o : Int} {v : Value} {xs : Prs} (h : ZW w wr p g s o v xs) (hp : p < w.heap.size) (hd : DiceAt w2 p) (hb : But p wr w2) : ZW w w2 p g s o v xs :=
  ⟨h.box.but hb, row_but h.own hb (by have := h.box.lo; omega), hd, h.but.trans hb⟩
theorem ZW.alloc {w wr : World} {p g : Nat} {s : ByteArray} {o : Int} {v : Value} {xs : Prs} (h : ZW w wr p g s o v xs) (hp : p < w.heap.size) (ob : Obj) : ZW w (wr.alloc ob) p g s o v xs :=
  h.next hp (h.dice.alloc ob) ((But.refl p wr).alloc ob)
theorem ZW.base {w wr : World} {p g : Nat} {s : ByteArray} {o : Int} {v : Value} {xs : Prs} (h : ZW w wr p g s o v xs) (hp : p < w.heap.size) : wr.heap[w.heap.size]? = some zObj := by
  rw [h.but.block _ (by simp) (by omega)]
  show (w.heap.push zObj)[w.heap.size]? = _
  simp
theorem ZW.grow {w w4 w5 : World} {p g : Nat} {s : ByteArray} {o a d : Int} {v v' : Value} {xs : Prs} {ob : Obj} (h : ZW w w4 p g s o v xs) (hp : p < w.heap.size)
    (hown' : w5.ownsRow (g + 1) 43 2 v' (xs.length + 1) (pcells xs ++ [.int .i64 a, .int .i64 d])) (hgrow : (w4.alloc ob).grownBy w5 v.ownBlock) :
    ZNew p g w.heap.size s o v w5 ∧ ZW w (w5.setCell ⟨g, 2, none⟩ v') p g s o v' (xs ++ [(a, d)]) := by
  have hlo := h.box.lo
  have hlt := h.box.lt
  have hz : w4.heap.size ≤ w5.heap.size := Nat.le_trans (by simp) hgrow.size
  have hblk : ∀ q, q ≤ g → w5.heap[q]? = w4.heap[q]? := fun q hq => by
    rw [hgrow.block q (by simp; omega) (fun e => by have := h.own.lt q e.symm; omega), Below.heap_alloc _ _ _ (by omega)]
  have hB : ZNew p g w.heap.size s o v w5 := by
    have hc : ∀ k, w5.cell? ⟨g, k, none⟩ = w4.cell? ⟨g, k, none⟩ := fun k => World.cell?_of_block (hblk g (Nat.le_refl _))
    have hf : ∀ k, w5.frozen? ⟨g, k, none⟩ = w4.frozen? ⟨g, k, none⟩ := fun k => World.frozen?_of_block (hblk g (Nat.le_refl _))
    exact ⟨(hc 0).trans h.box.c0, (hc 1).trans h.box.c1, (hc 2).trans h.box.c2, (hf 0).trans h.box.f0, (hf 1).trans h.box.f1, (hf 2).trans h.box.f2, h.box.ne, hlo, by omega⟩
  refine ⟨hB, ⟨?_, ?_, ?_, ?_⟩⟩
  · refine ⟨?_, ?_, World.cell?_setCell_same _ _ _ hB.c2, ?_, ?_, ?_, hB.ne, hlo, by simpa using hB.lt⟩
    · rw [World.cell?_setCell_other _ _ _ _ (by simp)]; exact hB.c0
    · rw [World.cell?_setCell_other _ _ _ _ (by simp)]; exact hB.c1
    · simpa using hB.f0
    · simpa using hB.f1
    · simpa using hB.f2
  · have e1 : (xs ++ [(a, d)]).length = xs.length + 1 := by simp
    rw [e1, pcells_app]
    exact ownsRow_setCell_below hown' (by show g < g + 1; omega) _
  · exact h.dice.same fun q hq => by rw [heap_setCell_other _ _ _ _ (show q ≠ g from by omega), hblk q (by omega)]
  · refine ⟨hgrow.os.trans h.but.os, hgrow.tape.trans h.but.tape, hgrow.output.trans h.but.output, ?_, fun q hq hqp => ?_⟩
    · simp only [World.size_setCell]; exact Nat.le_trans h.but.size hz
    · have hq2 : q < w.heap.size + 1 := by simpa using hq
      rw [heap_setCell_other _ _ _ _ (show q ≠ g from by omega), hblk q (by omega)]; exact h.but.block q hq hqp

def byAt (r : Int) : Int := if r = 0 then 60 else if r = 1 then -60 else if r = 2 then 30 else if r = 3 then -180 else if r = 4 then 180 else 1
theorem byAt_le (r : Int) : -180 ≤ byAt r ∧ byAt r ≤ 180 ∧ byAt r ≠ 0 := by unfold byAt; repeat (first | split | omega)
theorem byAt_cell (r : Int) (r0 : 0 ≤ r) (r1 : r < 6) (W : World) : (W.alloc (.cells #[.int .i64 60, .int .i64 (-60), .int .i64 30, .int .i64 (-180), .int .i64 180, .int .i64 1] 3)).cell? ⟨W.heap.size, r.toNat, none⟩ = some (.int .i64 (byAt r)) := by
  rw [World.cell?_alloc_at _ _ _ _ rfl]
  rcases (show r = 0 ∨ r = 1 ∨ r = 2 ∨ r = 3 ∨ r = 4 ∨ r = 5 from by omega) with rfl | rfl | rfl | rfl | rfl | rfl <;> rfl
theorem by_but {p : Nat} {r : Int} {W w0 w1 : World} (h : But p w0 w1) (e : w0 = W.alloc (.cells #[.int .i64 60, .int .i64 (-60), .int .i64 30, .int .i64 (-180), .int .i64 180, .int .i64 1] 3)) (hp : p < W.heap.size) (r0 : 0 ≤ r) (r1 : r < 6) : w1.cell? ⟨W.heap.size, r.toNat, none⟩ = some (.int .i64 (byAt r)) := by
  subst e
  rw [h.cell (by simp) (by omega)]
  exact byAt_cell r r0 r1 W

/-- a made zone -/
def MadeZ (p : Nat) (w : World) (e : Ending) (w' : World) : Prop :=
  ∃ (s : ByteArray) (off : Int) (xs : Prs) (sv : Value) (B : Nat), e = .returned (.agg #[.string s, .int .i64 off, sv]) ∧ s.size ≤ 6 ∧ vldE s.data.toList off xs = 0 ∧ xs.length ≤ 3 ∧ (∀ x ∈ xs, 0 ≤ x.1 ∧ x.1 ≤ 900000) ∧ p < B ∧ w'.ownsRow B 43 2 sv xs.length (pcells xs) ∧ DiceAt w' p ∧ But p w w'
/-- the changes so far, and what may follow -/
def ShOk (off : Int) (xs : Prs) (N P : Int) : Prop := (∀ ys, shE off (-2880) (xs ++ ys) = shE N P ys) ∧ (∀ x ∈ xs, 0 ≤ x.1 ∧ x.1 ≤ 900000)
theorem ShOk.nil (off : Int) : ShOk off [] off (-2880) := ⟨fun _ => rfl, fun _ h => by cases h⟩
theorem ShOk.snoc {off N P a o : Int} {xs : Prs} (h : ShOk off xs N P) (ha : P + 2880 ≤ a) (a0 : 0 ≤ a) (a1 : a ≤ 900000) (o0 : -840 ≤ o) (o1 : o ≤ 840) (hne : o ≠ N) (hl : o ≤ N + 180) (hg : N - 180 ≤ o) : ShOk off (xs ++ [(a, o)]) o a := by
  refine ⟨fun ys => ?_, fun x hx => ?_⟩
  · rw [List.append_assoc, h.1]
    show shE N P ((a, o) :: ys) = _
    have e1 : isI a = true := isI_iff.2 (by omega)
    have e2 : nearI o = true := nearI_iff.2 (by omega)
    conv => lhs; unfold shE
    rw [if_neg (by rw [e1, e2]; simp), if_neg (by omega), if_neg (by omega)]
  · rcases List.mem_append.1 hx with hx | hx
    · exact h.2 x hx
    · simp at hx; subst hx; exact ⟨a0, a1⟩
theorem nameAt_ok (r : Int) : codeOk (nameAt r).data.toList = true ∧ (nameAt r).size ≤ 6 := by
  unfold nameAt
  split
  · exact ⟨by decide, by decide⟩
  · split
    · exact ⟨by decide, by decide⟩
    · exact ⟨by decide, by decide⟩
theorem zmade_fin {w wX : World} {p g : Nat} {r q N P : Int} {v : Value} {xs : Prs} (q0 : 0 ≤ q) (q1 : q < 5) (hlen : xs.length ≤ 3) (hp : p < w.heap.size) (hok : ShOk (60 * (q - 2)) xs N P)
    (hW : ZW w wX p g (nameAt r) (60 * (q - 2)) v xs) :
    MadeZ p w (.returned (.agg #[.string (nameAt r), .int .i64 (60 * (q - 2)), v]))
      (((wX.setCell ⟨w.heap.size, 0, none⟩ (.string (nameAt r))).setCell ⟨w.heap.size, 1, none⟩ (.int .i64 (60 * (q - 2)))).setCell ⟨w.heap.size, 2, none⟩ v) := by
  have hlo := hW.box.lo
  obtain ⟨n1, n2⟩ := nameAt_ok r
  have hblk : ∀ b, b ≠ w.heap.size → (((wX.setCell ⟨w.heap.size, 0, none⟩ (.string (nameAt r))).setCell ⟨w.heap.size, 1, none⟩ (.int .i64 (60 * (q - 2)))).setCell ⟨w.heap.size, 2, none⟩ v).heap[b]? = wX.heap[b]? := fun b hb => by
    rw [heap_setCell_other _ _ _ _ hb, heap_setCell_other _ _ _ _ hb, heap_setCell_other _ _ _ _ hb]
  refine ⟨_, _, xs, v, g + 1, rfl, n2, ?_, hlen, hok.2, by omega, ?_, hW.dice.same (fun b hb => hblk b (by omega)), ?_⟩
  · unfold vldE
    have := hok.1 []
    rw [List.append_nil] at this
    rw [if_neg (by rw [n1]; simp), if_neg (by rw [nearI_iff.2 (by omega)]; simp), if_neg (by omega), this]
    unfold shE; rfl
  · exact ownsRow_setCell_below (ownsRow_setCell_below (ownsRow_setCell_below hW.own (by show w.heap.size < g + 1; omega) _) (by show w.heap.size < g + 1; omega) _) (by show w.heap.size < g + 1; omega) _
  · have hz := hW.but.size
    simp only [World.size_alloc] at hz
    refine ⟨hW.but.os, hW.but.tape, hW.but.output, by simp only [World.size_setCell]; omega, fun b hb hbp => ?_⟩
    rw [hblk b (by omega), hW.but.block b (by simp; omega) hbp, Below.heap_alloc _ _ _ hb]

def ZMid (w : World) (p g : Nat) (s : ByteArray) (o : Int) (s4 s5 : Value) (wx : World) : Prop := ∃ A : Int, s4 = .int .i64 A ∧ 0 ≤ A ∧ A ≤ 864000 ∧ s5 = .int .i64 o ∧ ZW w wx p g s o (.slice none 0 0) []
theorem zmid {w wx : World} {p g : Nat} {s : ByteArray} {o r : Int} (r0 : 0 ≤ r) (r1 : r < 3) (h : Hid (ZW w wx p g s o (.slice none 0 0) [])) : ZMid w p g s o (.int .i64 (IntKind.i64.wrap (IntKind.i64.wrap (r * 1440) * 300))) (.int .i64 o) wx :=
  ⟨432000 * r, by rw [IntWalk.i64_in (r * 1440) (by omega), IntWalk.i64_in _ (by omega)]; congr 1; omega, by omega, by omega, rfl, h.out⟩

theorem info43 : (Tryd.prog.info? 43).map (fun i => (i.zero, i.size, i.bytes)) = some (some (.agg #[.int .i64 0, .int .i64 0]), 2, 16) := by kernel_rfl
theorem cells3_of {w : World} {b : Nat} {x0 x1 x2 : Value} {T : TypeId} (h : w.heap[b]? = some (.cells #[x0, x1, x2] T (0, 0))) :
    (w.cell? ⟨b, 0, none⟩ = some x0 ∧ w.cell? ⟨b, 1, none⟩ = some x1 ∧ w.cell? ⟨b, 2, none⟩ = some x2) ∧ w.frozen? ⟨b, 0, none⟩ = false ∧ w.frozen? ⟨b, 1, none⟩ = false ∧ w.frozen? ⟨b, 2, none⟩ = false := by
  simp [World.cell?, World.frozen?, h]
theorem row_succ {w : World} {B n size : Nat} {e : TypeId} {v : Value} {xs : List Value} (h : w.ownsRow B e size v (n + 1) xs) : ∃ g cap, v = .slice (some ⟨g, 0, none⟩) (n + 1) cap := by
  rcases h.2 with ⟨_, hn⟩ | ⟨g, cap, cur, rfl, _⟩
  · omega
  · exact ⟨g, cap, rfl⟩

end Go.Proofs.YtllcoocllkaanaaDoor
