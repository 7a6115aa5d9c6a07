/- A string with a change: what Spoil hands back is some string of nearly the same length. -/
import Derived.Test.YtpiejpodaljefaaDoorDice
import Derived.ArgAppend
import Derived.Deep.RegionLaw
import Derived.Laws.IdiomCopy
import Derived.Laws.IdiomStrings
import Derived.Laws.NewBlocks
namespace Go.Proofs.YtpiejpodaljefaaDoor
open Go.RowKit

/-- Bytes that lie in a block: n of them are known, cap cells are free. -/
structure MRow (w : World) (g n cap : Nat) : Prop where
  lt : g < w.heap.size
  nc : n ≤ cap
  cm : cap ≤ 9223372036854775807
  bt : ∀ j, j < n → ∃ c : UInt8, w.cell? ⟨g, j, none⟩ = some (.int .u8 c.toNat)
  sp : ∀ j, j < cap → (w.cell? ⟨g, j, none⟩).isSome = true ∧ w.frozen? ⟨g, j, none⟩ = false
theorem MRow.but {p g n cap : Nat} {w W : World} (h : MRow w g n cap) (hb : But p w W) (hg : g ≠ p) : MRow W g n cap :=
  ⟨Nat.lt_of_lt_of_le h.lt hb.size, h.nc, h.cm, fun j hj => by obtain ⟨c, hc⟩ := h.bt j hj; exact ⟨c, by rw [hb.cell h.lt hg]; exact hc⟩, fun j hj => by rw [hb.cell h.lt hg, hb.frozen h.lt hg]; exact h.sp j hj⟩
theorem MRow.below {g n cap : Nat} {w W : World} (h : MRow w g n cap) (hb : Below w.heap.size w W) : MRow W g n cap :=
  ⟨Nat.lt_of_lt_of_le h.lt hb.size, h.nc, h.cm, fun j hj => by obtain ⟨c, hc⟩ := h.bt j hj; exact ⟨c, by rw [hb.cell (p := ⟨g, j, none⟩) h.lt]; exact hc⟩, fun j hj => by rw [hb.cell (p := ⟨g, j, none⟩) h.lt, hb.frozen (p := ⟨g, j, none⟩) h.lt]; exact h.sp j hj⟩
theorem size_setCells (b : Nat) : ∀ (vs : List Value) (o : Nat) (w : World), (w.setCells b o vs).heap.size = w.heap.size
  | [], _, _ => rfl
  | v :: r, o, w => by rw [World.setCells, size_setCells b r]; simp
theorem but_setCells (b : Nat) : ∀ (vs : List Value) (o : Nat) (w : World), But b w (w.setCells b o vs)
  | [], _, _w => But.refl _ _
  | v :: r, o, w => (But.setCell w b o v).trans (but_setCells b r (o + 1) _)
theorem MRow.sets {w : World} {g n cap : Nat} (h : MRow w g n cap) (o : Nat) (vs : List Value) (hv : ∀ v ∈ vs, ∃ c : UInt8, v = .int .u8 c.toNat) (hr : o + vs.length ≤ cap) (m : Nat) (hm : m ≤ cap) (hm2 : m ≤ n ∨ (o ≤ n ∧ m ≤ o + vs.length)) : MRow (w.setCells g o vs) g m cap := by
  have hso : ∀ j, j < vs.length → (w.cell? ⟨g, o + j, none⟩).isSome = true := fun j hj => (h.sp (o + j) (by omega)).1
  refine ⟨by rw [size_setCells]; exact h.lt, hm, h.cm, fun j hj => ?_, fun j hj => ?_⟩
  · by_cases c : o ≤ j ∧ j < o + vs.length
    · obtain ⟨i, rfl⟩ : ∃ i, j = o + i := ⟨j - o, by omega⟩
      obtain ⟨u, hu⟩ := hv vs[i] (List.getElem_mem (by omega))
      exact ⟨u, by rw [World.cell?_setCells_in g vs o w hso i (by omega), hu]⟩
    · obtain ⟨u, hu⟩ := h.bt j (by omega)
      exact ⟨u, by rw [World.cell?_setCells_out g vs o w ⟨g, j, none⟩ (fun _ _ => by show j < o ∨ o + vs.length ≤ j; omega)]; exact hu⟩
  · refine ⟨?_, by rw [World.frozen?_setCells]; exact (h.sp j hj).2⟩
    by_cases c : o ≤ j ∧ j < o + vs.length
    · obtain ⟨i, rfl⟩ : ∃ i, j = o + i := ⟨j - o, by omega⟩
      rw [World.cell?_setCells_in g vs o w hso i (by omega)]; rfl
    · rw [World.cell?_setCells_out g vs o w ⟨g, j, none⟩ (fun _ _ => by show j < o ∨ o + vs.length ≤ j; omega)]
      exact (h.sp j hj).1
theorem mrow_new {W : World} {C : Array Value} {fz : Nat × Nat} {n cap : Nat} (hs : cap ≤ C.size) (hn : n ≤ cap) (hc : cap ≤ 9223372036854775807) (hf : ∀ j, j < cap → ¬ (fz.1 ≤ j ∧ j < fz.2)) (hb : ∀ j, j < n → ∃ c : UInt8, C[j]? = some (.int .u8 c.toNat)) : MRow (W.alloc (.cells C 5 fz)) W.heap.size n cap := by
  have hh : (W.alloc (.cells C 5 fz)).heap[W.heap.size]? = some (.cells C 5 fz) := heap_alloc_new _ _
  refine ⟨lt_of_heap hh, hn, hc, fun j hj => ?_, fun j hj => ⟨?_, ?_⟩⟩
  · obtain ⟨c, h⟩ := hb j hj
    exact ⟨c, by rw [cell_of_row _ _ j C 5 fz hh]; exact h⟩
  · rw [cell_of_row _ _ j C 5 fz hh, Array.getElem?_eq_getElem (by omega)]; rfl
  · have := hf j hj
    simp only [World.frozen?, hh, Bool.and_eq_false_iff, decide_eq_false_iff_not]
    omega
/-- cells that are bytes, as a list -/
theorem news_of {w : World} {ad : Addr} {m : Nat} (hb : ∀ j, j < m → ∃ c : UInt8, w.cell? (ad.add j) = some (.int .u8 c.toNat)) :
    ∃ news : List Value, news.length = m ∧ (∀ u ∈ news, ∃ c : UInt8, u = .int .u8 c.toNat) ∧ ∀ j u, news[j]? = some u → w.cell? (ad.add j) = some u := by
  induction m with
  | zero => exact ⟨[], rfl, by simp, by simp⟩
  | succ m ih =>
    obtain ⟨news, h1, h2, h3⟩ := ih fun j hj => hb j (by omega)
    obtain ⟨c, hc⟩ := hb m (by omega)
    refine ⟨news ++ [.int .u8 c.toNat], by simp [h1], fun u hu => ?_, fun j u hj => ?_⟩
    · rcases List.mem_append.1 hu with h | h
      · exact h2 u h
      · exact ⟨c, List.mem_singleton.1 h⟩
    · by_cases hjm : j < m
      · rw [List.getElem?_append_left (by omega)] at hj; exact h3 j u hj
      · have : j = m := by
          have := (List.getElem?_eq_some_iff.1 hj).1
          simp at this; omega
        subst this
        rw [List.getElem?_append_right (by omega), h1, Nat.sub_self] at hj
        simp at hj
        rw [← hj]; exact hc
theorem infoU : (Tryd.prog.info? 5).map (fun i => (i.zero, i.size, i.bytes)) = some (some (.int .u8 0), 1, 1) := by kernel_rfl

/-- append to bytes in a block, at a step of a region. -/
theorem step_append_m {ops : Array Oper} {o : Oper} {a : Act} {w : World} {K : Act → World → Prop} {Q : Exit → Act → World → Prop} {E : Prop}
    (hgd : o.guard = none) (s x : Operand) (hop : o.op = Op.call { callee := Callee.builtin Builtin.append, args := #[s, x], argTypes := #[61, 61] })
    (g n n0 cap : Nat) (hM : MRow w g n0 cap) (hn : n ≤ n0) (hs : a.eval s = .slice (some ⟨g, 0, none⟩) n cap)
    (ad : Addr) (m c : Nat) (hx : a.eval x = .slice (some ad) m c) (hb : ∀ j, j < m → ∃ c : UInt8, w.cell? (ad.add j) = some (.int .u8 c.toNat)) (hsz : n + m ≤ 4000000)
    (hK : ∀ g' cap' w', MRow w' g' (n + m) cap' → But g w w' → (g' = g ∨ w.heap.size ≤ g') → K (a.put o.dst (.slice (some ⟨g', 0, none⟩) (n + m) cap')) w') :
    if Region.wanted o (yielded ops a.tmps) = true then Oper.wp Tryd.prog o a w K Q else E := by
  obtain ⟨i, hi, hz, hz1, hz2⟩ := info_parts infoU
  obtain ⟨news, hl, hnb, hnews⟩ := news_of hb
  have h1c : ∀ u ∈ news, u.oneCell' = true := fun u hu => by obtain ⟨c, rfl⟩ := hnb u hu; rfl
  have hw : Region.wanted o (yielded ops a.tmps) = true := by simp [Region.wanted, hgd]
  rw [if_pos hw]
  have hnc := hM.nc
  by_cases hroom : n + m ≤ cap
  · have hrun := run_append_room_cells (P := Tryd.prog) w 61 o.type 5 i Tryd.underlying61 hi g 0 n cap ad m c news (by rw [hl, hz1, Nat.mul_one]) hnews h1c hroom
      (fun j hj => by rw [hz1, Nat.mul_one, Nat.zero_add]; exact (hM.sp (n + j) (by omega)).1) (fun j hj => by rw [hz1, Nat.mul_one, Nat.zero_add]; exact (hM.sp (n + j) (by omega)).2)
    rw [hz1, Nat.mul_one, Nat.zero_add] at hrun
    unfold Oper.wp
    simp [execOp, hop, resolve, invoke, builtin, hs, hx, hrun, Result.andThen]
    exact hK g cap _ (hM.sets n news hnb (by omega) (n + m) hroom (Or.inr ⟨hn, by omega⟩)) (but_setCells _ _ _ _) (Or.inl rfl)
  · obtain ⟨olds, hol, hob, hos⟩ := news_of (w := w) (ad := ⟨g, 0, none⟩) (m := n) (fun j hj => by
      rw [Go.WideShapes.add_plain, Nat.zero_add]
      exact hM.bt j (by omega))
    have hrun := run_append_grow (P := Tryd.prog) w 61 o.type 5 i (.int .u8 0) Tryd.underlying61 hi hz ⟨g, 0, none⟩ n cap olds (by rw [hol, hz1, Nat.mul_one]) hos ad m c news (by rw [hl, hz1, Nat.mul_one]) hnews (by omega) (by omega)
      (by rw [hz2]; exact growslice_fits (by omega) (by omega))
    have hge := grownCap_ge w (n + m) cap 5
    have hcm := grownCap_le_maxLen w (n + m) cap 5 (by unfold maxLen; omega)
    unfold maxLen at hcm
    generalize grownCap w (n + m) cap 5 = gc at *
    unfold Oper.wp
    simp [execOp, hop, resolve, invoke, builtin, hs, hx, hrun, Result.andThen, -World.alloc_eq, -World.drew_eq]
    refine hK w.heap.size gc _ (mrow_new (W := w.drew) ?_ hge (by omega) (fun j hj h => by simp at h) fun j hj => ?_) ⟨rfl, rfl, rfl, by simp, fun k hk _ => by first | exact heap_alloc_old w.drew _ k hk | exact heap_alloc_old w.drew _ hk⟩ (Or.inr (Nat.le_refl _))
    · have hz1' : (Value.int IntKind.u8 0).cells.size = 1 := rfl
      simp only [Array.size_append, List.size_toArray, size_zeroCells, hz1', hol, hl, List.length_append]
      omega
    · rw [Array.getElem?_append_left (by simp [hol, hl]; omega)]
      have hj2 : j < (olds ++ news).length := by simp [hol, hl]; omega
      have e : (olds ++ news).toArray[j]? = some (olds ++ news)[j] := by
        rw [← List.getElem?_eq_getElem hj2]; simp
      rw [e]
      have hm := List.getElem_mem hj2
      rcases List.mem_append.1 hm with h | h
      · obtain ⟨u, hu⟩ := hob _ h; exact ⟨u, by rw [hu]⟩
      · obtain ⟨u, hu⟩ := hnb _ h; exact ⟨u, by rw [hu]⟩

theorem mrow_string {w : World} {g n cap : Nat} (h : MRow w g n cap) : ∃ l : L8, l.length = n ∧ (convert 61 9 (.slice (some ⟨g, 0, none⟩) n cap)).run Tryd.prog w = .ok (.string (arr l)) w := by
  have hl : ∀ m, m ≤ n → ∃ l : L8, l.length = m ∧ ∀ j (hj : j < l.length), w.cell? ⟨g, j, none⟩ = some (.int .u8 (l[j].toNat : Int)) := by
    intro m hm
    induction m with
    | zero => exact ⟨[], rfl, by simp⟩
    | succ m ih =>
      obtain ⟨l, h1, h2⟩ := ih (by omega)
      obtain ⟨c, hc⟩ := h.bt m (by omega)
      refine ⟨l ++ [c], by simp [h1], fun j hj => ?_⟩
      by_cases hjm : j < m
      · rw [List.getElem_append_left (by omega)]; exact h2 j (by omega)
      · obtain rfl : j = m := by simp at hj; omega
        rw [List.getElem_append_right (by omega)]
        simpa [h1] using hc
  obtain ⟨l, rfl, h2⟩ := hl n (Nat.le_refl _)
  exact ⟨l, rfl, run_convert_bytes_back w 61 9 5 ⟨g, 0, none⟩ cap l Tryd.underlying61 Tryd.underlying5 Tryd.underlying9 (fun j hj => by rw [Go.WideShapes.add_plain, Nat.zero_add]; exact h2 j hj)⟩

theorem bytesRow_at (s : ByteArray) (cap j : Nat) (h : j < s.size) : (bytesRow s cap)[j]? = some (.int .u8 (s[j].toNat : Int)) := by
  unfold bytesRow
  rw [Array.getElem?_append_left (by simpa using h)]
  have h' : j < s.data.size := h
  simp
  exact ⟨s[j], by rw [Array.getElem?_eq_getElem h']; rfl, rfl⟩
theorem bytesRow_size (s : ByteArray) (cap : Nat) (h : s.size ≤ cap) : (bytesRow s cap).size = cap := by
  unfold bytesRow
  simp
  show s.size + (cap - s.size) = cap
  omega
/-- the bytes of a string, newly laid -/
theorem mrow_bytes (s : ByteArray) (w : World) (hs : s.size ≤ 2000000) :
    MRow ((w.alloc (.cells (bytesRow s (grownCap w s.size 0 5)) 5 ((bytesRow s (grownCap w s.size 0 5)).size, (bytesRow s (grownCap w s.size 0 5)).size + 1))).drew) w.heap.size s.size (grownCap w s.size 0 5) := by
  have hge := grownCap_ge w s.size 0 5
  have hcm := grownCap_le_maxLen w s.size 0 5 (by unfold maxLen; omega)
  unfold maxLen at hcm
  generalize grownCap w s.size 0 5 = gc at *
  refine mrow_new (W := w.drew) (by rw [bytesRow_size s gc hge]; exact Nat.le_refl _) hge (by omega) (fun j hj h => ?_) fun j hj => ⟨s[j], bytesRow_at s gc j hj⟩
  rw [bytesRow_size s gc hge] at h
  exact absurd h.1 (by simp; omega)
theorem But.news {p g : Nat} {a w w' : World} (h : But p a w) (hb : But g w w') (hg : a.heap.size ≤ g) : But p a w' :=
  ⟨hb.os.trans h.os, hb.tape.trans h.tape, hb.output.trans h.output, Nat.le_trans h.size hb.size, fun k hk hp => (hb.block k (Nat.lt_of_lt_of_le hk h.size) (by omega)).trans (h.block k hk hp)⟩
theorem DiceAt.news {p g : Nat} {w w' : World} (h : DiceAt w p) (hb : But g w w') (hg : p < g) : DiceAt w' p := h.same fun k hk => hb.block k (by have := h.lt; omega) (by omega)

theorem one_at (v : Value) (i : Nat) (h : i < 1) : (#[v] : Array Value)[i]? = some v := by
  obtain rfl : i = 0 := by omega
  rfl

/-- What Spoil hands back. -/
def SpoilOut (p n : Nat) (w : World) (e : Ending) (w' : World) : Prop := ∃ t : L8, e = .returned (.string (arr t)) ∧ t.length ≤ n + 1 ∧ DiceAt w' p ∧ But p w w'

set_option maxRecDepth 100000 in
set_option maxHeartbeats 4000000 in
theorem spoil_any (p : Nat) (s signs : ByteArray) (h0 : 0 < signs.size) (h1 : signs.size ≤ 100) (hs : s.size ≤ 2000000) (w : World) (hD : DiceAt w p) :
    Calls Tryd.prog 20 #[.pointer (some ⟨p, 0, none⟩), .string s, .string signs] w (SpoilOut p s.size w) := by
  have PB := Lib.hid hD.lt
  have hcv := fun w s => run_bytes_of_string (P := Tryd.prog) w 9 61 5 s Tryd.underlying9 Tryd.underlying61 Tryd.underlying5
  have HM0 := Lib.hid (mrow_bytes s w hs)
  have hb0 : Below w.heap.size w ((w.alloc (.cells (bytesRow s (grownCap w s.size 0 5)) 5 ((bytesRow s (grownCap w s.size 0 5)).size, (bytesRow s (grownCap w s.size 0 5)).size + 1))).drew) := (fun h => ⟨h.os, h.tape, h.output, h.size, h.block⟩ : ∀ {W : World}, Below w.heap.size w W → Below w.heap.size w W.drew) ((Below.refl _ _).alloc (Nat.le_refl _) _)
  have HD0 := Lib.hid (hD.below hb0)
  have HB0 : Hid (But p w _) := Lib.hid (But.of_below hb0)
  clear hD hb0
  go_enter Tryd.func20, Tryd.ntmps20
  go_wp2_with fail
  generalize (w.alloc (.cells (bytesRow s (grownCap w s.size 0 5)) 5 ((bytesRow s (grownCap w s.size 0 5)).size, (bytesRow s (grownCap w s.size 0 5)).size + 1))).drew = w1 at *
  generalize grownCap w s.size 0 5 = cap at *
  clear hcv
  have hge : s.size ≤ cap := HM0.out.nc
  refine (next_any p signs.size _ (by omega) (by omega) HD0.out).mono ?_
  rintro e w2 ⟨r, r0, r1, rfl, hd2, hb2⟩
  obtain ⟨j, rfl⟩ : ∃ j : Nat, r = j := ⟨r.toNat, by omega⟩
  have hj : j < signs.size := by omega
  have GW : w.heap.size ≠ p := by have := PB.out; omega
  have HM2 := Lib.hid (HM0.out.but hb2 GW)
  have HD2 := Lib.hid hd2
  have HB2 := Lib.hid (HB0.out.trans hb2)
  clear HM0 HD0 HB0 hd2 hb2 r0 r1
  by_cases hs0 : s.size = 0
  · obtain ⟨l, hl, hcv⟩ := mrow_string (mrow_new (W := w2) (C := #[.int .u8 signs[j].toNat]) (fz := (0, 0)) (n := 1) (cap := 1) (by simp) (by omega) (by omega) (fun j hj h => by simp at h) (fun i hi => ⟨signs[j], one_at _ i hi⟩))
    have HL : Hid (l.length ≤ s.size + 1) := Lib.hid (by omega)
    have hz : ((s.size : Int) == 0) = true := by simp [hs0]
    have HB3 := Lib.hid (HB2.out.trans (But.of_below ((Below.refl _ _).alloc (Nat.le_refl _) (.cells #[.int .u8 signs[j].toNat] 5))))
    have HD3 := Lib.hid (HD2.out.below ((Below.refl _ _).alloc (Nat.le_refl _) (.cells #[.int .u8 signs[j].toNat] 5)))
    clear hs0 hl
    go_wp2_with fail
    go_ret
    exact ⟨l, rfl, HL.out, HD3.out, HB3.out⟩
  · have hs1 : (1 : Int) ≤ (s.size : Int) := by omega
    have hz : ((s.size : Int) == 0) = false := beq_eq_false_iff_ne.2 (by omega)
    clear hs0
    go_wp2_with fail
    refine (next_any p s.size _ hs1 (by omega) HD2.out).mono ?_
    rintro e w3 ⟨r, r0, r1, rfl, hd3, hb3⟩
    obtain ⟨k, rfl⟩ : ∃ k : Nat, r = k := ⟨r.toNat, by omega⟩
    have hk : k < s.size := by omega
    have HM3 := Lib.hid (HM2.out.but hb3 GW)
    have HD3 := Lib.hid hd3
    have HB3 := Lib.hid (HB2.out.trans hb3)
    clear HM2 HD2 HB2 hd3 hb3 r0 r1
    go_wp2_with fail
    refine (next_any p 3 _ (by omega) (by omega) HD3.out).mono ?_
    rintro e w4 ⟨r, r0, r1, rfl, hd4, hb4⟩
    have HM4 := Lib.hid (HM3.out.but hb4 GW)
    have HD4 := Lib.hid hd4
    have HB4 := Lib.hid (HB3.out.trans hb4)
    clear HM3 HD3 HB3 hd4 hb4
    have hge4 : s.size ≤ cap := hge
    have hcap : cap ≤ 9223372036854775807 := HM4.out.cm
    rcases (show r = 0 ∨ r = 1 ∨ r = 2 from by omega) with rfl | rfl | rfl
    · clear r0 r1
      obtain ⟨hc, hf⟩ := HM4.out.sp k (by omega)
      obtain ⟨u, hu⟩ := Option.isSome_iff_exists.1 hc
      obtain ⟨l, hl, hcv⟩ := mrow_string (HM4.out.sets k [.int .u8 signs[j].toNat] (fun v hv => ⟨signs[j], List.mem_singleton.1 hv⟩) (by simp; omega) s.size hge4 (Or.inl (Nat.le_refl _)))
      change (convert 61 9 (.slice (some ⟨w.heap.size, 0, none⟩) s.size cap)).run Tryd.prog (w4.setCell ⟨w.heap.size, k, none⟩ (.int .u8 signs[j].toNat)) = .ok (.string (arr l)) (w4.setCell ⟨w.heap.size, k, none⟩ (.int .u8 signs[j].toNat)) at hcv
      have HL : Hid (l.length ≤ s.size + 1) := Lib.hid (by omega)
      have HB5 : Hid (But p w (w4.setCell ⟨w.heap.size, k, none⟩ (.int .u8 signs[j].toNat))) := Lib.hid (HB4.out.news (But.setCell _ _ _ _) (Nat.le_refl _))
      have HD5 : Hid (DiceAt (w4.setCell ⟨w.heap.size, k, none⟩ (.int .u8 signs[j].toNat)) p) := Lib.hid (HD4.out.news (But.setCell _ _ _ _) PB.out)
      clear hc hl
      go_wp2_with fail
      go_ret
      exact ⟨l, rfl, HL.out, HD5.out, HB5.out⟩
    · clear r0 r1
      have hbd : Below w4.heap.size w4 w4.drew := ⟨rfl, rfl, rfl, Nat.le_refl _, fun _ _ => rfl⟩
      have HMd := Lib.hid (HM4.out.below hbd)
      have HDd := Lib.hid (HD4.out.below hbd)
      have HBd := Lib.hid (HB4.out.trans (But.of_below hbd))
      obtain ⟨A, hA, HA⟩ : ∃ A : Addr, (if cap = k + 1 then some (⟨w.heap.size, 0, none⟩ : Addr) else some ⟨w.heap.size, k + 1, none⟩) = some A ∧ Hid (∀ i, i < s.size - (k + 1) → ∃ c : UInt8, w4.drew.cell? (A.add i) = some (.int .u8 c.toNat)) := by
        by_cases h : cap = k + 1
        · exact ⟨_, if_pos h, Lib.hid (fun i hi => by omega)⟩
        · exact ⟨_, if_neg h, Lib.hid (fun i hi => by rw [Go.WideShapes.add_plain]; exact HMd.out.bt _ (by omega))⟩
      have hk1 : k ≤ cap := by omega
      have y1 : IntKind.i64.wrap ((k : Int) + 1) = (k : Int) + 1 := IntWalk.i64_in _ (by omega)
      have y2 : (0 : Int) ≤ (k : Int) + 1 := by omega
      have y3 : (k : Int) + 1 ≤ (s.size : Int) := by omega
      have y4 : ((k : Int) + 1).toNat = k + 1 := by omega
      clear hbd HM4 HD4 HB4
      go_wp2_with fail
      go_region_law (refine step_append_m rfl (.tmp 50) (.tmp 54) rfl w.heap.size k s.size cap HMd.out (by omega) (by simp [Act.eval, Act.put]) A (s.size - (k + 1)) (cap - (k + 1)) (by simp [Act.eval, Act.put]) HA.out (by omega) ?_; intro g5 cap5 w5 hM5 hb5 hg5; have HB5 := Lib.hid (HBd.out.news hb5 (Nat.le_refl _)); have HD5 := Lib.hid (HDd.out.news hb5 PB.out); have HM5 := Lib.hid hM5; clear hM5 hb5 hg5)
      all_goals
        obtain ⟨l, hl, hcv⟩ := mrow_string HM5.out
        have HL : Hid (l.length ≤ s.size + 1) := Lib.hid (by omega)
        clear hl
        go_wp2_with fail
        go_ret
        exact ⟨l, rfl, HL.out, HD5.out, HB5.out⟩
    · clear r0 r1
      have hbd : Below w4.heap.size w4 w4.drew := ⟨rfl, rfl, rfl, Nat.le_refl _, fun _ _ => rfl⟩
      have hba : Below w4.heap.size w4 (w4.alloc (.cells #[.int .u8 signs[j].toNat] 5)).drew := (fun h => ⟨h.os, h.tape, h.output, h.size, h.block⟩ : ∀ {W : World}, Below w4.heap.size w4 W → Below w4.heap.size w4 W.drew) ((Below.refl _ _).alloc (Nat.le_refl _) _)
      have HMa := Lib.hid (HM4.out.below hba)
      have HDa := Lib.hid (HD4.out.below hba)
      have HBa := Lib.hid (HB4.out.trans (But.of_below hba))
      have H1 : Hid (MRow (w4.alloc (.cells #[.int .u8 signs[j].toNat] 5)).drew w4.heap.size 1 1) := Lib.hid ((mrow_new (W := w4) (C := #[.int .u8 signs[j].toNat]) (fz := (0, 0)) (n := 1) (cap := 1) (by simp) (by omega) (by omega) (fun j hj h => by simp at h) (fun i hi => ⟨signs[j], one_at _ i hi⟩)).below ⟨rfl, rfl, rfl, Nat.le_refl _, fun _ _ => rfl⟩)
      have HLT : Hid (w.heap.size < w4.heap.size) := Lib.hid HM4.out.lt
      have HA : Hid (∀ i, i < s.size - k → ∃ c : UInt8, (w4.alloc (.cells #[.int .u8 signs[j].toNat] 5)).drew.cell? ((⟨w.heap.size, k, none⟩ : Addr).add i) = some (.int .u8 c.toNat)) := Lib.hid (fun i hi => by rw [Go.WideShapes.add_plain]; exact HMa.out.bt _ (by omega))
      have hk1 : k ≤ cap := by omega
      have hk2 : ¬ cap = k := by omega
      have hk3 : k ≤ s.size := by omega
      clear hbd hba HM4 HD4 HB4
      go_wp2_with fail
      go_region_law (first
        | (refine step_append_m rfl (.tmp 34) (.tmp 37) rfl w4.heap.size 1 1 1 H1.out (by omega) (by simp [Act.eval]) ⟨w.heap.size, k, none⟩ (s.size - k) (cap - k) (by simp [Act.eval]) HA.out (by omega) ?_; intro g5 cap5 w5 hM5 hb5 hg5; have HM5 := Lib.hid hM5; have HM6 := Lib.hid (HMa.out.but hb5 (by have := HLT.out; omega)); have HB6 := Lib.hid (HBa.out.news hb5 (by have := HLT.out; omega)); have HD6 := Lib.hid (HDa.out.news hb5 (by have := HLT.out; have := PB.out; omega)); have HA5 : Hid (∀ i, i < 1 + (s.size - k) → ∃ c : UInt8, w5.cell? ((⟨g5, 0, none⟩ : Addr).add i) = some (.int .u8 c.toNat)) := Lib.hid (fun i hi => by rw [Go.WideShapes.add_plain, Nat.zero_add]; exact HM5.out.bt _ hi); clear hM5 hb5 hg5)
        | (refine step_append_m rfl (.tmp 32) (.tmp 38) rfl w.heap.size k s.size cap HM6.out (by omega) (by simp [Act.eval]) ⟨g5, 0, none⟩ (1 + (s.size - k)) cap5 (by simp [Act.eval]) HA5.out (by omega) ?_; intro g7 cap7 w7 hM7 hb7 hg7; have HM7 := Lib.hid hM7; have HB7 := Lib.hid (HB6.out.news hb7 (Nat.le_refl _)); have HD7 := Lib.hid (HD6.out.news hb7 PB.out); clear hM7 hb7 hg7))
      all_goals
        obtain ⟨l, hl, hcv⟩ := mrow_string HM7.out
        have HL : Hid (l.length ≤ s.size + 1) := Lib.hid (by omega)
        clear hl
        go_wp2_with fail
        go_ret
        exact ⟨l, rfl, HL.out, HD7.out, HB7.out⟩
end Go.Proofs.YtpiejpodaljefaaDoor
