import Derived.Test.YtpiejpodaljefaaDoorT3
import Derived.Test.YtpiejpodaljefaaDoorT2
namespace Go.Proofs.YtpiejpodaljefaaDoor
open Go.RowKit

def parT (d q : UInt8) (t : L8) : List Rcd × List Prb :=
  if okD d q = false then ([], [(0, 0, 1)]) else if 65536 < t.length then ([], [(0, 0, 2)]) else parL d q t.length t 1 [] []
theorem parL_nil {d q : UInt8} : ∀ (n l : Nat) (R : List Rcd) (P : List Prb), parL d q n [] l R P = (R, P)
  | 0, _, _, _ => rfl
  | n + 1, _, _, _ => by rw [parL]; rfl
theorem parL_skip {d q : UInt8} {n l : Nat} {r : L8} {R : List Rcd} {P : List Prb} (h0 : r ≠ []) (h : endL r = true ∨ r.head? = some 35) : parL d q (n + 1) r l R P = parL d q n (skipL r) (l + 1) R P := by
  rw [parL, if_neg h0, if_pos h]
theorem parL_full {d q : UInt8} {n l : Nat} {r : L8} {R : List Rcd} {P : List Prb} (h0 : r ≠ []) (h : ¬ (endL r = true ∨ r.head? = some 35)) (hf : R.length = 400) : parL d q (n + 1) r l R P = (R, P ++ [(l, 1, 2)]) := by
  rw [parL, if_neg h0, if_neg h, if_pos hf]
theorem parL_good {d q : UInt8} {n l : Nat} {r : L8} {R : List Rcd} {P : List Prb} {fs : List Fld} {s' : St} (h0 : r ≠ []) (h : ¬ (endL r = true ∨ r.head? = some 35)) (hf : ¬ R.length = 400) (hz : recL d q 12 ⟨r, l, 1⟩ [] = (.inl fs, s')) : parL d q (n + 1) r l R P = parL d q n (skipL s'.rest) (s'.line + 1) (R ++ [(l, fs)]) P := by
  rw [parL, if_neg h0, if_neg h, if_neg hf, hz]
theorem parL_bad {d q : UInt8} {n l : Nat} {r : L8} {R : List Rcd} {P : List Prb} {pr : Prb} {s' : St} (h0 : r ≠ []) (h : ¬ (endL r = true ∨ r.head? = some 35)) (hf : ¬ R.length = 400) (hz : recL d q 12 ⟨r, l, 1⟩ [] = (.inr pr, s')) : parL d q (n + 1) r l R P = parL d q n (skipL s'.rest) (s'.line + 1) R (P ++ [pr]) := by
  rw [parL, if_neg h0, if_neg h, if_neg hf, hz]
/-- what is still to come, said at the loop's head -/
def PTot (d q : UInt8) (s : ByteArray) (n j l : Nat) (R : List Rcd) (P : List Prb) (T : List Rcd × List Prb) : Prop := parL d q n (s.data.toList.drop j) l R P = T
theorem drop_ne (s : ByteArray) (j : Nat) (h : j < s.size) : s.data.toList.drop j ≠ [] := by rw [drop_at s j h]; simp
/-- behind a skip -/
theorem PTot.skip {d q : UInt8} {s : ByteArray} {n j2 l l2 : Nat} {r : L8} {R : List Rcd} {P : List Prb} {T : List Rcd × List Prb} (h : parL d q n (skipL r) (l + 1) R P = T) (hd : s.data.toList.drop j2 = skipL r) (hl : j2 < s.size → l2 = l + 1) : PTot d q s n j2 l2 R P T := by
  unfold PTot
  rw [hd]
  by_cases hj : j2 < s.size
  · rw [hl hj]; exact h
  · rw [← hd, drop_end s j2 (by omega)] at h ⊢
    rw [parL_nil] at h ⊢
    exact h
theorem PTot.fin {d q : UInt8} {s : ByteArray} {n j l : Nat} {R : List Rcd} {P : List Prb} {T : List Rcd × List Prb} (h : PTot d q s n j l R P T) (hj : ¬ j < s.size) : T = (R, P) := by
  unfold PTot at h
  rw [drop_end s j (by omega), parL_nil] at h
  exact h.symm

/-- the memory of a parser -/
structure PM (p : Nat) (w : World) (R : List Rcd) (P : List Prb) (vr vp : Value) (wr : World) : Prop where
  rs : RecsW wr (p + 1) vr R
  pr : ProbsW wr (p + 1) vp P
  bel : Below w.heap.size w wr
  wp : w.heap.size ≤ p
  pl : p < wr.heap.size
theorem PM.below {p : Nat} {w : World} {R : List Rcd} {P : List Prb} {vr vp : Value} {wr W : World} (h : PM p w R P vr vp wr) (hb : Below wr.heap.size wr W) : PM p w R P vr vp W :=
  ⟨h.rs.below hb, h.pr.below hb, h.bel.trans (hb.mono h.bel.size), h.wp, Nat.lt_of_lt_of_le h.pl hb.size⟩
theorem PM.but {p : Nat} {w : World} {R : List Rcd} {P : List Prb} {vr vp : Value} {wr W : World} (h : PM p w R P vr vp wr) (hb : But p wr W) : PM p w R P vr vp W :=
  ⟨h.rs.but hb (by omega), h.pr.but hb (by omega), hb.below h.bel h.wp h.bel.size, h.wp, Nat.lt_of_lt_of_le h.pl hb.size⟩
theorem below_grown {B : Nat} {w wr W : World} {row : Option Nat} (h : Below B w wr) (hg : wr.grownBy W row) (hB : B ≤ wr.heap.size) (hrow : ∀ g, row = some g → B ≤ g) : Below B w W := h.grown hg hB hrow
theorem PM.addP {p : Nat} {w : World} {R : List Rcd} {P : List Prb} {vr vp vp2 : Value} {wr W : World} {x : Prb} (h : PM p w R P vr vp wr) (hg : wr.grownBy W vp.ownBlock) (hr : W.ownsRow (p + 1) 77 4 vp2 (P.length + 1) (pcellsP P ++ [.int .i64 0, .int .i64 x.1, .int .i64 x.2.1, .int .i64 x.2.2])) : PM p w R (P ++ [x]) vr vp2 W := by
  have hlow : ∀ g, vp.ownBlock = some g → p + 1 ≤ g := fun g e => (h.pr.lt g e).1
  have hwp := h.wp
  refine ⟨h.rs.grown h.pr hg (by decide) (by decide), ?_, h.bel.grown hg h.bel.size (fun g e => by have := hlow g e; omega), h.wp, Nat.lt_of_lt_of_le h.pl hg.size⟩
  unfold ProbsW
  rw [List.length_append, pcellsP_app]
  exact hr
theorem PM.addR {p : Nat} {w : World} {R : List Rcd} {P : List Prb} {vr vp vr2 v : Value} {wr W : World} {L : List (Rcd × Value)} {l : Nat} {fs : List Fld} (h : PM p w R P vr vp wr) (hL : L.map (·.1) = R) (h1 : wr.ownsRow (p + 1) 48 2 vr L.length (rcells L)) (h2 : ∀ x ∈ L, wr.ownsRow (p + 1) 50 3 x.2 x.1.2.length (fcells x.1.2)) (hv : wr.ownsRow (p + 1) 50 3 v fs.length (fcells fs)) (hg : wr.grownBy W vr.ownBlock) (hr : W.ownsRow (p + 1) 48 2 vr2 (L.length + 1) (rcells L ++ [.int .i64 l, v])) : PM p w (R ++ [(l, fs)]) P vr2 vp W := by
  have hlow : ∀ g, vr.ownBlock = some g → p + 1 ≤ g := fun g e => (h1.lt g e).1
  have hwp := h.wp
  have keep : ∀ {v n xs}, wr.ownsRow (p + 1) 50 3 v n xs → W.ownsRow (p + 1) 50 3 v n xs := fun hh => row_keepk hh fun g c fz _ hc => hg.block g (lt_of_heap hc) (fun e1 => own_kind_ne h1 hc (by decide) e1.symm)
  refine ⟨⟨L ++ [((l, fs), v)], by simp [hL], ?_, ?_⟩, h.pr.grown h1 hg (by decide), h.bel.grown hg h.bel.size (fun g e => by have := hlow g e; omega), h.wp, Nat.lt_of_lt_of_le h.pl hg.size⟩
  · rw [List.length_append, rcells_app]; exact hr
  · intro x hx
    rcases List.mem_append.1 hx with hx | hx
    · exact keep (h2 x hx)
    · obtain rfl : x = ((l, fs), v) := by simpa using hx
      exact keep hv
/-- what Parse hands back -/
def ParseOut (T : List Rcd × List Prb) (w : World) (e : Ending) (w' : World) : Prop :=
  ∃ va vb, e = .returned (.tuple #[va, vb]) ∧ RecsW w' w.heap.size va T.1 ∧ ProbsW w' w.heap.size vb T.2 ∧ Below w.heap.size w w'
theorem PM.out {p : Nat} {w : World} {R : List Rcd} {P : List Prb} {vr vp : Value} {wr : World} (h : PM p w R P vr vp wr) {T : List Rcd × List Prb} (hT : T = (R, P)) : ParseOut T w (.returned (.tuple #[vr, vp])) wr := by
  subst hT
  have := h.wp
  exact ⟨vr, vp, rfl, h.rs.base (by omega), row_base h.pr (by omega), h.bel⟩
theorem infoR : (Tryd.prog.info? 48).map (fun i => (i.zero, i.size, i.bytes)) = some (some (.agg #[.int .i64 0, .slice none 0 0]), 2, 32) := by kernel_rfl
theorem infoP : (Tryd.prog.info? 77).map (fun i => (i.zero, i.size, i.bytes)) = some (some (.agg #[.int .i64 0, .int .i64 0, .int .i64 0, .int .i64 0]), 4, 32) := by kernel_rfl
theorem cell_two_at (w : World) (x y : Value) (T : TypeId) (H : Nat) (hH : w.heap.size = H) : ∀ j u, ([x, y] : List Value)[j]? = some u → (w.alloc (.cells #[x, y] T)).cell? ((⟨H, 0, none⟩ : Addr).add j) = some u := fun j u hj => by
  subst hH
  rw [Go.WideShapes.add_plain, World.cell?_alloc_at _ _ _ _ rfl]
  match j, hj with
  | 0, hj => simpa using hj
  | 1, hj => simpa using hj
  | j + 2, hj => simp at hj
theorem cell_four_at (w : World) (x y z u : Value) (T : TypeId) (H : Nat) (hH : w.heap.size = H) : ∀ j v, ([x, y, z, u] : List Value)[j]? = some v → (w.alloc (.cells #[x, y, z, u] T)).cell? ((⟨H, 0, none⟩ : Addr).add j) = some v := fun j v hj => by
  subst hH
  rw [Go.WideShapes.add_plain, World.cell?_alloc_at _ _ _ _ rfl]
  match j, hj with
  | 0, hj => simpa using hj
  | 1, hj => simpa using hj
  | 2, hj => simpa using hj
  | 3, hj => simpa using hj
  | j + 4, hj => simp at hj
theorem own_new {w : World} {B e s n : Nat} {cs : List Value} (cap : Nat) (hl : cs.length = n * s) (_hn : 0 < n) (hB : B ≤ w.heap.size) (hc : n = cap) (hm : cap ≤ maxLen) (hs : cs.length = cap * s) : (w.alloc (.cells cs.toArray e)).ownsRow B e s (.slice (some ⟨w.heap.size, 0, none⟩) n cap) n cs := by
  refine ⟨hl, Or.inr ⟨w.heap.size, cap, cs.toArray, rfl, hB, heap_alloc_new _ _, by omega, hm, ?_, ?_⟩⟩
  · simp [hs]
  · rw [← hl]; exact List.take_length
theorem parse_one {w w1 : World} (hb : Below w.heap.size w w1) (c : Nat) : ParseOut ([], [(0, 0, c)]) w (.returned (.tuple #[.slice none 0 0, .slice (some ⟨w1.heap.size, 0, none⟩) 1 1])) (w1.alloc (.cells #[.int .i64 0, .int .i64 0, .int .i64 0, .int .i64 c] 77)) := by
  refine ⟨_, _, rfl, RecsW.nil _ _, ?_, hb.alloc hb.size _⟩
  exact own_new (cs := [.int .i64 0, .int .i64 0, .int .i64 0, .int .i64 c]) (B := w.heap.size) (e := 77) (s := 4) (n := 1) 1 rfl (by omega) hb.size rfl (by unfold maxLen; omega) rfl
theorem RdAt.grown {w w' : World} {p : Nat} {s : ByteArray} {i l b : Nat} {d q : UInt8} {row : Option Nat} (h : RdAt w p s i l b d q) (hg : w.grownBy w' row) (hr : ∀ g, row = some g → p + 1 ≤ g) : RdAt w' p s i l b d q :=
  ⟨(hg.block p (lt_of_heap h.1) (fun e => by have := hr p e.symm; omega)).trans h.1, h.2⟩
theorem PM.start {w w1 : World} (hb : Below w.heap.size w w1) (o : Obj) : PM w1.heap.size w [] [] (.slice none 0 0) (.slice none 0 0) (w1.alloc o) :=
  ⟨RecsW.nil _ _, ProbsW.nil _ _, hb.alloc hb.size o, hb.size, by simp⟩
theorem boxD {w w1 : World} {d q : UInt8} (hb : Below (w.alloc (.cells #[.int .u8 d.toNat, .int .u8 q.toNat] 23)).heap.size (w.alloc (.cells #[.int .u8 d.toNat, .int .u8 q.toNat] 23)) w1) : w1.heap[w.heap.size]? = some (.cells #[.int .u8 d.toNat, .int .u8 q.toNat] 23 (0, 0)) ∧ Below w.heap.size w w1 ∧ w.heap.size < w1.heap.size := by
  have e := heap_alloc_new w (.cells #[.int .u8 d.toNat, .int .u8 q.toNat] 23)
  refine ⟨(hb.block _ (by simp)).trans e, below2 hb, ?_⟩
  have := hb.size
  simp at this
  omega
end Go.Proofs.YtpiejpodaljefaaDoor
