import Derived.Test.YtpiejpodaljefaaDoorR6
namespace Go.Proofs.YtpiejpodaljefaaDoor
open Go.RowKit

def fcells (fs : List Fld) : List Value := fs.flatMap (fun x => [.string (arr x.1), .int .i64 x.2.1, .bool x.2.2])
theorem fcells_len (fs : List Fld) : (fcells fs).length = fs.length * 3 := by
  induction fs with
  | nil => rfl
  | cons d xs ih => simp only [fcells, List.flatMap_cons, List.length_append, List.length_cons, List.length_nil] at ih ⊢; omega
theorem fcells_app (xs ys : List Fld) : fcells (xs ++ ys) = fcells xs ++ fcells ys := by simp [fcells]
theorem row_keep {w w' : World} {base : Nat} {e : TypeId} {size : Nat} {v : Value} {n : Nat} {xs : List Value} (h : w.ownsRow base e size v n xs) (hk : ∀ g, v.ownBlock = some g → w'.heap[g]? = w.heap[g]?) : w'.ownsRow base e size v n xs := by
  obtain ⟨h1, h2⟩ := id h
  refine ⟨h1, ?_⟩
  rcases h2 with h2 | ⟨g, cap, cur, hv, hg, hh, r⟩
  · exact Or.inl h2
  · exact Or.inr ⟨g, cap, cur, hv, hg, by rw [hk g (by rw [hv]; rfl)]; exact hh, r⟩

theorem row_base {w : World} {B B2 : Nat} {e : TypeId} {size : Nat} {v : Value} {n : Nat} {xs : List Value} (h : w.ownsRow B e size v n xs) (hB : B2 ≤ B) : w.ownsRow B2 e size v n xs := by
  obtain ⟨h1, h2⟩ := id h
  refine ⟨h1, ?_⟩
  rcases h2 with h2 | ⟨g, cap, cur, hv, hg, r⟩
  · exact Or.inl h2
  · exact Or.inr ⟨g, cap, cur, hv, by omega, r⟩
theorem heap_oth (w : World) (p o k : Nat) (v : Value) (h : k ≠ p) : (w.setCell ⟨p, o, none⟩ v).heap[k]? = w.heap[k]? := heap_setCell_other _ _ _ _ h
theorem plain_ends (d q : UInt8) : ∀ r : L8, (plainL d q r).2.2 = true → endL (plainL d q r).2.1 = true ∨ (plainL d q r).2.1.head? = some d
  | [], _ => Or.inl rfl
  | c :: r, h => by
    rw [plainL] at h ⊢
    split at h
    · rename_i h1
      rw [if_pos h1]
      simp only [Bool.or_eq_true, beq_iff_eq] at h1
      simpa using h1
    · rename_i h1
      rw [if_neg h1]
      split at h
      · cases h
      · rename_i h2
        rw [if_neg h2]
        exact plain_ends d q r h
theorem fieldL_ends {d q : UInt8} {st st' : St} {x : Fld} (h : fieldL d q st = (.inl x, st')) : endL st'.rest = true ∨ st'.rest.head? = some d := by
  unfold fieldL at h
  split at h
  · simp only at h
    split at h
    · cases h
    · split at h
      · rename_i h1
        have e := (Prod.mk.inj h).2
        rw [← e]; exact h1
      · cases h
  · simp only at h
    split at h
    · rename_i h1
      have e := (Prod.mk.inj h).2
      rw [← e]; exact plain_ends d q _ h1
    · cases h

/-- What became of a record. -/
def RecRes (w' : World) (g0 l : Nat) (e : Ending) : List Fld ⊕ Prb → Prop
  | .inl fs => ∃ v, e = .returned (.tuple #[.agg #[.int .i64 l, v], .pointer none]) ∧ w'.ownsRow g0 50 3 v fs.length (fcells fs)
  | .inr x => ∃ g, e = .returned (.tuple #[.agg #[.int .i64 0, .slice none 0 0], .pointer (some ⟨g, 0, none⟩)]) ∧ PrAt w' g x.1 x.2.1 x.2.2 ∧ g0 ≤ g
def RecOut (p : Nat) (s : ByteArray) (i l : Nat) (d q : UInt8) (z : (List Fld ⊕ Prb) × St) (w : World) (e : Ending) (w' : World) : Prop :=
  RecRes w' w.heap.size l e z.1 ∧ (∃ j l' b, RdAt w' p s j l' b d q ∧ z.2 = ⟨s.data.toList.drop j, l', j - b + 1⟩ ∧ i ≤ j) ∧ But p w w'

/-- the memory in a record's loop -/
structure RW (p : Nat) (s : ByteArray) (i l : Nat) (d q : UInt8) (w : World) (j l' b' : Nat) (fs : List Fld) (v : Value) (wr : World) : Prop where
  rd : RdAt wr p s j l' b' d q
  res : wr.heap[w.heap.size]? = some (.cells #[.int .i64 0, .slice none 0 0] 48 (0, 0))
  out : wr.heap[w.heap.size + 1]? = some (.cells #[.int .i64 l, v] 48 (0, 0))
  row : wr.ownsRow (w.heap.size + 2) 50 3 v fs.length (fcells fs)
  but : But p w wr
  pb : p < w.heap.size
  ij : i ≤ j
theorem RW.below {p : Nat} {s : ByteArray} {i l : Nat} {d q : UInt8} {w : World} {j l' b' : Nat} {fs : List Fld} {v : Value} {wr W : World} (h : RW p s i l d q w j l' b' fs v wr) (hb : Below wr.heap.size wr W) : RW p s i l d q w j l' b' fs v W :=
  ⟨h.rd.below hb, (hb.block _ (lt_of_heap h.res)).trans h.res, (hb.block _ (lt_of_heap h.out)).trans h.out, row_below h.row hb, h.but.trans (But.of_below hb), h.pb, h.ij⟩
theorem RW.moved {p : Nat} {s : ByteArray} {i l : Nat} {d q : UInt8} {w : World} {j l' b' j2 l2 b2 : Nat} {fs : List Fld} {v : Value} {wr W : World} (h : RW p s i l d q w j l' b' fs v wr) (hb : But p wr W) (hr : RdAt W p s j2 l2 b2 d q) (hj : j ≤ j2) : RW p s i l d q w j2 l2 b2 fs v W := by
  have := h.pb
  exact ⟨hr, (hb.block _ (lt_of_heap h.res) (by omega)).trans h.res, (hb.block _ (lt_of_heap h.out) (by omega)).trans h.out, row_but h.row hb (by omega), h.but.trans hb, h.pb, by have := h.ij; omega⟩
/-- behind a field's reading: f lay behind all that counts -/
theorem RW.field {p f : Nat} {s : ByteArray} {i l : Nat} {d q : UInt8} {w : World} {j l' b' j2 l2 b2 : Nat} {fs : List Fld} {v : Value} {wr W W' : World} (h : RW p s i l d q w j l' b' fs v wr) (hb : Below wr.heap.size wr W) (hf : wr.heap.size ≤ f) (hb2 : But2 p f W W') (hr : RdAt W' p s j2 l2 b2 d q) (hj : j ≤ j2) : RW p s i l d q w j2 l2 b2 fs v W' := by
  have := h.pb
  have l1 := lt_of_heap h.res
  have l2 := lt_of_heap h.out
  have h2 := h.below hb
  refine ⟨hr, (hb2.block _ (lt_of_heap h2.res) (by omega) (by omega)).trans h2.res, (hb2.block _ (lt_of_heap h2.out) (by omega) (by omega)).trans h2.out, row_keep h2.row (fun g hg => hb2.block g (h2.row.lt g hg).2 (by have := (h2.row.lt g hg).1; omega) (by have := (h.row.lt g hg).2; omega)), ?_, h.pb, by have := h.ij; omega⟩
  exact ⟨hb2.os.trans h2.but.os, hb2.tape.trans h2.but.tape, hb2.output.trans h2.but.output, Nat.le_trans h2.but.size hb2.size, fun k hk hp => (hb2.block k (Nat.lt_of_lt_of_le hk h2.but.size) hp (by omega)).trans (h2.but.block k hk hp)⟩
/-- a field more -/
theorem RW.add {p : Nat} {s : ByteArray} {i l : Nat} {d q : UInt8} {w : World} {j l' b' : Nat} {fs : List Fld} {v v2 : Value} {wr W W' : World} {x : Fld} (h : RW p s i l d q w j l' b' fs v wr) (hb : Below wr.heap.size wr W) (hg : W.grownBy W' v.ownBlock) (hr : W'.ownsRow (w.heap.size + 2) 50 3 v2 (fs ++ [x]).length (fcells (fs ++ [x]))) :
    RW p s i l d q w j l' b' (fs ++ [x]) v2 (W'.setCell ⟨w.heap.size + 1, 1, none⟩ v2) := by
  have h2 := h.below hb
  have hlow : ∀ k, v.ownBlock = some k → w.heap.size + 2 ≤ k := fun k hk => (h2.row.lt k hk).1
  have hpb := h.pb
  have keep : ∀ k, k < w.heap.size + 2 → k < W.heap.size → W'.heap[k]? = W.heap[k]? := fun k hk hk2 => hg.block k hk2 (fun e => by have := hlow k e.symm; omega)
  refine ⟨⟨?_, h2.rd.2⟩, ?_, ?_, ?_, ?_, h.pb, h.ij⟩
  · rw [heap_oth _ _ _ _ _ (by omega), keep _ (by omega) (lt_of_heap h2.rd.1)]; exact h2.rd.1
  · rw [heap_oth _ _ _ _ _ (by omega), keep _ (by omega) (lt_of_heap h2.res)]; exact h2.res
  · rw [heap_set _ _ _ _ _ _ (by rw [keep _ (by omega) (lt_of_heap h2.out)]; exact h2.out)]; rfl
  · exact row_keep hr (fun g hg2 => heap_oth _ _ _ _ _ (by have := (hr.lt g hg2).1; omega))
  · refine ⟨hg.os.trans h2.but.os, hg.tape.trans h2.but.tape, hg.output.trans h2.but.output, by have := h2.but.size; have := hg.size; simp; omega, fun k hk hp => ?_⟩
    rw [heap_oth _ _ _ _ _ (by omega), keep k (by omega) (by have := h2.but.size; omega)]
    exact h2.but.block k hk hp
theorem recL_step {d q : UInt8} {n : Nat} {st st' : St} {fs : List Fld} {x : Fld} (h : fieldL d q st = (.inl x, st')) : recL d q (n + 1) st fs = if endL st'.rest = true then (.inl (fs ++ [x]), st') else recL d q n ⟨st'.rest.tail, st'.line, st'.col + 1⟩ (fs ++ [x]) := by
  rw [recL, h]
theorem recL_err {d q : UInt8} {n : Nat} {st st' : St} {fs : List Fld} {x : Prb} (h : fieldL d q st = (.inr x, st')) : recL d q (n + 1) st fs = (.inr x, st') := by
  rw [recL, h]
theorem cell_three_new (w : World) (x y z : Value) (T : TypeId) : ∀ j u, ([x, y, z] : List Value)[j]? = some u → (w.alloc (.cells #[x, y, z] T)).cell? ((⟨w.heap.size, 0, none⟩ : Addr).add j) = some u := fun j u hj => by
  rw [Go.WideShapes.add_plain, World.cell?_alloc_at _ _ _ _ rfl]
  match j, hj with
  | 0, hj => simpa using hj
  | 1, hj => simpa using hj
  | 2, hj => simpa using hj
  | j + 3, hj => simp at hj
theorem own_slice {w : World} {B s n : Nat} {e : TypeId} {v : Value} {xs : List Value} (h : w.ownsRow B e s v n xs) : ∃ ad cp, v = .slice ad n cp ∧ n ≤ cp ∧ cp ≤ 9223372036854775807 := by
  rcases h.2 with ⟨rfl, hn⟩ | ⟨g, cap, cur, rfl, _, hg, hle, hm, _⟩
  · exact ⟨none, 0, by rw [hn], by omega, by omega⟩
  · exact ⟨_, cap, rfl, hle, by unfold maxLen at hm; omega⟩
theorem infoF : (Tryd.prog.info? 50).map (fun i => (i.zero, i.size, i.bytes)) = some (some (.agg #[.string ⟨#[]⟩, .int .i64 0, .bool false]), 3, 32) := by kernel_rfl
end Go.Proofs.YtpiejpodaljefaaDoor
