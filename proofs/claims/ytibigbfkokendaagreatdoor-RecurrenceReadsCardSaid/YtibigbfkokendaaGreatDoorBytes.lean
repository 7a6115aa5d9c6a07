/- Bytes in a block: of a string, with a store, with an append. -/
import Derived.Test.YtibigbfkokendaaGreatDoorDice
import Derived.ArgAppend
import Derived.Deep.RegionLaw
import Derived.Laws.IdiomCopy
import Derived.Laws.IdiomStrings
import Derived.Laws.NewBlocks
namespace Go.Proofs.YtibigbfkokendaaGreatDoor
open Go.RowKit

/-- Bytes that lie in a block: n of them are known, cap cells are free. -/
structure MRow (w : World) (g n cap : Nat) : Prop where
  lt : g < w.heap.size
  nc : n ≤ cap
  cm : cap ≤ 9223372036854775807
  bt : ∀ j, j < n → ∃ c : UInt8, w.cell? ⟨g, j, none⟩ = some (.int .u8 c.toNat)
  sp : ∀ j, j < cap → (w.cell? ⟨g, j, none⟩).isSome = true ∧ w.frozen? ⟨g, j, none⟩ = false
theorem MRow.but {p g n cap : Nat} {w W : World} (h : MRow w g n cap) (hb : But p w W) (hg : g ≠ p) : MRow W g n cap :=
  ⟨Nat.lt_of_lt_of_le h.lt hb.size, h.nc, h.cm, fun j hj => by obtain ⟨c, hc⟩ := h.bt j hj; exact ⟨c, by rw [hb.cell h.lt hg]; exact hc⟩, fun j hj => by rw [hb.cell h.lt hg, hb.frozen h.lt hg]; exact h.sp j hj⟩
theorem MRow.below {g n cap : Nat} {w W : World} (h : MRow w g n cap) (hb : Below w.heap.size w W) : MRow W g n cap :=
  ⟨Nat.lt_of_lt_of_le h.lt hb.size, h.nc, h.cm, fun j hj => by obtain ⟨c, hc⟩ := h.bt j hj; exact ⟨c, by rw [hb.cell (p := ⟨g, j, none⟩) h.lt]; exact hc⟩, fun j hj => by rw [hb.cell (p := ⟨g, j, none⟩) h.lt, hb.frozen (p := ⟨g, j, none⟩) h.lt]; exact h.sp j hj⟩
theorem size_setCells (b : Nat) : ∀ (vs : List Value) (o : Nat) (w : World), (w.setCells b o vs).heap.size = w.heap.size
  | [], _, _ => rfl
  | v :: r, o, w => by rw [World.setCells, size_setCells b r]; simp
theorem but_setCells (b : Nat) : ∀ (vs : List Value) (o : Nat) (w : World), But b w (w.setCells b o vs)
  | [], _, _w => But.refl _ _
  | v :: r, o, w => (But.setCell w b o v).trans (but_setCells b r (o + 1) _)
theorem MRow.sets {w : World} {g n cap : Nat} (h : MRow w g n cap) (o : Nat) (vs : List Value) (hv : ∀ v ∈ vs, ∃ c : UInt8, v = .int .u8 c.toNat) (hr : o + vs.length ≤ cap) (m : Nat) (hm : m ≤ cap) (hm2 : m ≤ n ∨ (o ≤ n ∧ m ≤ o + vs.length)) : MRow (w.setCells g o vs) g m cap := by
  have hso : ∀ j, j < vs.length → (w.cell? ⟨g, o + j, none⟩).isSome = true := fun j hj => (h.sp (o + j) (by omega)).1
  refine ⟨by rw [size_setCells]; exact h.lt, hm, h.cm, fun j hj => ?_, fun j hj => ?_⟩
  · by_cases c : o ≤ j ∧ j < o + vs.length
    · obtain ⟨i, rfl⟩ : ∃ i, j = o + i := ⟨j - o, by omega⟩
      obtain ⟨u, hu⟩ := hv vs[i] (List.getElem_mem (by omega))
      exact ⟨u, by rw [World.cell?_setCells_in g vs o w hso i (by omega), hu]⟩
    · obtain ⟨u, hu⟩ := h.bt j (by omega)
      exact ⟨u, by rw [World.cell?_setCells_out g vs o w ⟨g, j, none⟩ (fun _ _ => by show j < o ∨ o + vs.length ≤ j; omega)]; exact hu⟩
  · refine ⟨?_, by rw [World.frozen?_setCells]; exact (h.sp j hj).2⟩
    by_cases c : o ≤ j ∧ j < o + vs.length
    · obtain ⟨i, rfl⟩ : ∃ i, j = o + i := ⟨j - o, by omega⟩
      rw [World.cell?_setCells_in g vs o w hso i (by omega)]; rfl
    · rw [World.cell?_setCells_out g vs o w ⟨g, j, none⟩ (fun _ _ => by show j < o ∨ o + vs.length ≤ j; omega)]
      exact (h.sp j hj).1
theorem mrow_new {W : World} {C : Array Value} {fz : Nat × Nat} {n cap : Nat} (hs : cap ≤ C.size) (hn : n ≤ cap) (hc : cap ≤ 9223372036854775807) (hf : ∀ j, j < cap → ¬ (fz.1 ≤ j ∧ j < fz.2)) (hb : ∀ j, j < n → ∃ c : UInt8, C[j]? = some (.int .u8 c.toNat)) : MRow (W.alloc (.cells C 5 fz)) W.heap.size n cap := by
  have hh : (W.alloc (.cells C 5 fz)).heap[W.heap.size]? = some (.cells C 5 fz) := heap_alloc_new _ _
  refine ⟨lt_of_heap hh, hn, hc, fun j hj => ?_, fun j hj => ⟨?_, ?_⟩⟩
  · obtain ⟨c, h⟩ := hb j hj
    exact ⟨c, by rw [cell_of_row _ _ j C 5 fz hh]; exact h⟩
  · rw [cell_of_row _ _ j C 5 fz hh, Array.getElem?_eq_getElem (by omega)]; rfl
  · have := hf j hj
    simp only [World.frozen?, hh, Bool.and_eq_false_iff, decide_eq_false_iff_not]
    omega
/-- cells that are bytes, as a list -/
theorem news_of {w : World} {ad : Addr} {m : Nat} (hb : ∀ j, j < m → ∃ c : UInt8, w.cell? (ad.add j) = some (.int .u8 c.toNat)) :
    ∃ news : List Value, news.length = m ∧ (∀ u ∈ news, ∃ c : UInt8, u = .int .u8 c.toNat) ∧ ∀ j u, news[j]? = some u → w.cell? (ad.add j) = some u := by
  induction m with
  | zero => exact ⟨[], rfl, by simp, by simp⟩
  | succ m ih =>
    obtain ⟨news, h1, h2, h3⟩ := ih fun j hj => hb j (by omega)
    obtain ⟨c, hc⟩ := hb m (by omega)
    refine ⟨news ++ [.int .u8 c.toNat], by simp [h1], fun u hu => ?_, fun j u hj => ?_⟩
    · rcases List.mem_append.1 hu with h | h
      · exact h2 u h
      · exact ⟨c, List.mem_singleton.1 h⟩
    · by_cases hjm : j < m
      · rw [List.getElem?_append_left (by omega)] at hj; exact h3 j u hj
      · have : j = m := by
          have := (List.getElem?_eq_some_iff.1 hj).1
          simp at this; omega
        subst this
        rw [List.getElem?_append_right (by omega), h1, Nat.sub_self] at hj
        simp at hj
        rw [← hj]; exact hc
theorem infoU : (Tryz.prog.info? 5).map (fun i => (i.zero, i.size, i.bytes)) = some (some (.int .u8 0), 1, 1) := by kernel_rfl

/-- append to bytes in a block, at a step of a region. -/
theorem step_append_m {ops : Array Oper} {o : Oper} {a : Act} {w : World} {K : Act → World → Prop} {Q : Exit → Act → World → Prop} {E : Prop}
    (hgd : o.guard = none) (s x : Operand) (hop : o.op = Op.call { callee := Callee.builtin Builtin.append, args := #[s, x], argTypes := #[39, 39] })
    (g n n0 cap : Nat) (hM : MRow w g n0 cap) (hn : n ≤ n0) (hs : a.eval s = .slice (some ⟨g, 0, none⟩) n cap)
    (ad : Addr) (m c : Nat) (hx : a.eval x = .slice (some ad) m c) (hb : ∀ j, j < m → ∃ c : UInt8, w.cell? (ad.add j) = some (.int .u8 c.toNat)) (hsz : n + m ≤ 4000000)
    (hK : ∀ g' cap' w', MRow w' g' (n + m) cap' → But g w w' → (g' = g ∨ w.heap.size ≤ g') → K (a.put o.dst (.slice (some ⟨g', 0, none⟩) (n + m) cap')) w') :
    if Region.wanted o (yielded ops a.tmps) = true then Oper.wp Tryz.prog o a w K Q else E := by
  obtain ⟨i, hi, hz, hz1, hz2⟩ := info_parts infoU
  obtain ⟨news, hl, hnb, hnews⟩ := news_of hb
  have h1c : ∀ u ∈ news, u.oneCell' = true := fun u hu => by obtain ⟨c, rfl⟩ := hnb u hu; rfl
  have hw : Region.wanted o (yielded ops a.tmps) = true := by simp [Region.wanted, hgd]
  rw [if_pos hw]
  have hnc := hM.nc
  by_cases hroom : n + m ≤ cap
  · have hrun := run_append_room_cells (P := Tryz.prog) w 39 o.type 5 i Tryz.underlying39 hi g 0 n cap ad m c news (by rw [hl, hz1, Nat.mul_one]) hnews h1c hroom
      (fun j hj => by rw [hz1, Nat.mul_one, Nat.zero_add]; exact (hM.sp (n + j) (by omega)).1) (fun j hj => by rw [hz1, Nat.mul_one, Nat.zero_add]; exact (hM.sp (n + j) (by omega)).2)
    rw [hz1, Nat.mul_one, Nat.zero_add] at hrun
    unfold Oper.wp
    simp [execOp, hop, resolve, invoke, builtin, hs, hx, hrun, Result.andThen]
    exact hK g cap _ (hM.sets n news hnb (by omega) (n + m) hroom (Or.inr ⟨hn, by omega⟩)) (but_setCells _ _ _ _) (Or.inl rfl)
  · obtain ⟨olds, hol, hob, hos⟩ := news_of (w := w) (ad := ⟨g, 0, none⟩) (m := n) (fun j hj => by
      rw [Go.WideShapes.add_plain, Nat.zero_add]
      exact hM.bt j (by omega))
    have hrun := run_append_grow (P := Tryz.prog) w 39 o.type 5 i (.int .u8 0) Tryz.underlying39 hi hz ⟨g, 0, none⟩ n cap olds (by rw [hol, hz1, Nat.mul_one]) hos ad m c news (by rw [hl, hz1, Nat.mul_one]) hnews (by omega) (by omega)
      (by rw [hz2]; exact growslice_fits (by omega) (by omega))
    have hge := grownCap_ge w (n + m) cap 5
    have hcm := grownCap_le_maxLen w (n + m) cap 5 (by unfold maxLen; omega)
    unfold maxLen at hcm
    generalize grownCap w (n + m) cap 5 = gc at *
    unfold Oper.wp
    simp [execOp, hop, resolve, invoke, builtin, hs, hx, hrun, Result.andThen, -World.alloc_eq, -World.drew_eq]
    refine hK w.heap.size gc _ (mrow_new (W := w.drew) ?_ hge (by omega) (fun j hj h => by simp at h) fun j hj => ?_) ⟨rfl, rfl, rfl, by simp, fun k hk _ => by first | exact heap_alloc_old w.drew _ k hk | exact heap_alloc_old w.drew _ hk⟩ (Or.inr (Nat.le_refl _))
    · have hz1' : (Value.int IntKind.u8 0).cells.size = 1 := rfl
      simp only [Array.size_append, List.size_toArray, size_zeroCells, hz1', hol, hl, List.length_append]
      omega
    · rw [Array.getElem?_append_left (by simp [hol, hl]; omega)]
      have hj2 : j < (olds ++ news).length := by simp [hol, hl]; omega
      have e : (olds ++ news).toArray[j]? = some (olds ++ news)[j] := by
        rw [← List.getElem?_eq_getElem hj2]; simp
      rw [e]
      have hm := List.getElem_mem hj2
      rcases List.mem_append.1 hm with h | h
      · obtain ⟨u, hu⟩ := hob _ h; exact ⟨u, by rw [hu]⟩
      · obtain ⟨u, hu⟩ := hnb _ h; exact ⟨u, by rw [hu]⟩

theorem mrow_string {w : World} {g n cap : Nat} (h : MRow w g n cap) : ∃ l : L8, l.length = n ∧ (convert 39 9 (.slice (some ⟨g, 0, none⟩) n cap)).run Tryz.prog w = .ok (.string (arr l)) w := by
  have hl : ∀ m, m ≤ n → ∃ l : L8, l.length = m ∧ ∀ j (hj : j < l.length), w.cell? ⟨g, j, none⟩ = some (.int .u8 (l[j].toNat : Int)) := by
    intro m hm
    induction m with
    | zero => exact ⟨[], rfl, by simp⟩
    | succ m ih =>
      obtain ⟨l, h1, h2⟩ := ih (by omega)
      obtain ⟨c, hc⟩ := h.bt m (by omega)
      refine ⟨l ++ [c], by simp [h1], fun j hj => ?_⟩
      by_cases hjm : j < m
      · rw [List.getElem_append_left (by omega)]; exact h2 j (by omega)
      · obtain rfl : j = m := by simp at hj; omega
        rw [List.getElem_append_right (by omega)]
        simpa [h1] using hc
  obtain ⟨l, rfl, h2⟩ := hl n (Nat.le_refl _)
  exact ⟨l, rfl, run_convert_bytes_back w 39 9 5 ⟨g, 0, none⟩ cap l Tryz.underlying39 Tryz.underlying5 Tryz.underlying9 (fun j hj => by rw [Go.WideShapes.add_plain, Nat.zero_add]; exact h2 j hj)⟩

theorem bytesRow_at (s : ByteArray) (cap j : Nat) (h : j < s.size) : (bytesRow s cap)[j]? = some (.int .u8 (s[j].toNat : Int)) := by
  unfold bytesRow
  rw [Array.getElem?_append_left (by simpa using h)]
  have h' : j < s.data.size := h
  simp
  exact ⟨s[j], by rw [Array.getElem?_eq_getElem h']; rfl, rfl⟩
theorem bytesRow_size (s : ByteArray) (cap : Nat) (h : s.size ≤ cap) : (bytesRow s cap).size = cap := by
  unfold bytesRow
  simp
  show s.size + (cap - s.size) = cap
  omega
/-- the bytes of a string, newly laid -/
theorem mrow_bytes (s : ByteArray) (w : World) (hs : s.size ≤ 2000000) :
    MRow ((w.alloc (.cells (bytesRow s (grownCap w s.size 0 5)) 5 ((bytesRow s (grownCap w s.size 0 5)).size, (bytesRow s (grownCap w s.size 0 5)).size + 1))).drew) w.heap.size s.size (grownCap w s.size 0 5) := by
  have hge := grownCap_ge w s.size 0 5
  have hcm := grownCap_le_maxLen w s.size 0 5 (by unfold maxLen; omega)
  unfold maxLen at hcm
  generalize grownCap w s.size 0 5 = gc at *
  refine mrow_new (W := w.drew) (by rw [bytesRow_size s gc hge]; exact Nat.le_refl _) hge (by omega) (fun j hj h => ?_) fun j hj => ⟨s[j], bytesRow_at s gc j hj⟩
  rw [bytesRow_size s gc hge] at h
  exact absurd h.1 (by simp; omega)
theorem But.news {p g : Nat} {a w w' : World} (h : But p a w) (hb : But g w w') (hg : a.heap.size ≤ g) : But p a w' :=
  ⟨hb.os.trans h.os, hb.tape.trans h.tape, hb.output.trans h.output, Nat.le_trans h.size hb.size, fun k hk hp => (hb.block k (Nat.lt_of_lt_of_le hk h.size) (by omega)).trans (h.block k hk hp)⟩
theorem DiceAt.news {p g : Nat} {w w' : World} (h : DiceAt w p) (hb : But g w w') (hg : p < g) : DiceAt w' p := h.same fun k hk => hb.block k (by have := h.lt; omega) (by omega)

theorem one_at (v : Value) (i : Nat) (h : i < 1) : (#[v] : Array Value)[i]? = some v := by
  obtain rfl : i = 0 := by omega
  rfl
end Go.Proofs.YtibigbfkokendaaGreatDoor
