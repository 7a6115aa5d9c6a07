/- The record of a version, and that it is read again. -/
import Derived.Test.YtihbpggbpapcfaaGreatDoorM52
import Derived.Test.YtihbpggbpapcfaaGreatDoorS01
namespace Go.Proofs.YtihbpggbpapcfaaGreatDoor
open Go.RowKit

def rdP (r : Option Ver) : Ver × Int × Bool := match r with
  | none => ((0, 0, []), 0, false)
  | some v => (v, (encV v).length, true)
theorem rd_vals {r : Option Ver} {w : World} {e : Ending} {w' : World} (h : RdR r w e w') : ∃ s0 s1 s2, e = .returned (.tuple #[.agg #[.int .i64 (rdP r).1.1, .int .i64 (rdP r).1.2.1, .slice s0 s1 s2], .int .i64 (rdP r).2.1, .bool (rdP r).2.2]) ∧ HV w' (s0, s1, s2) (rdP r).1.2.2 ∧ Below w.heap.size w w' := by
  rcases h with ⟨rfl, h1, h2⟩ | ⟨v, s, rfl, h1, h2, h3⟩
  · exact ⟨none, 0, 0, h1, HV.nil _, h2⟩
  · obtain ⟨s', hs, hv⟩ := h2.hv
    obtain ⟨s0, s1, s2⟩ := s
    obtain ⟨t0, t1, t2⟩ := s'
    have hs : slV (s0, s1, s2) = slV (t0, t1, t2) := hs
    injection hs with x1 x2 x3
    subst x1 x2 x3
    exact ⟨s0, s1, s2, h1, hv, h3⟩
end Go.Proofs.YtihbpggbpapcfaaGreatDoor

namespace Go.Proofs.YtihbpggbpapcfaaGreatDoor
open Go Go.ChangeShapes Go.WideShapes Go.ChangeAt Go.RowKit Go.WideMaps Go.WideElems Go.Joins Go.Deep

section
variable {H : Type} {enc : TypeId × Value → H} {W : World} {base : Nat} {held : Bool}
theorem bulk_pos : ∀ d : DataW H, 1 ≤ Rows.uptoBulk d
  | .lit (.string _) => by simp [Rows.uptoBulk]
  | .lit (.bool _) => by simp [Rows.uptoBulk]
  | .lit (.int _ _) => by simp [Rows.uptoBulk]
  | .lit (.float _ _) => by simp [Rows.uptoBulk]
  | .lit .nil => by simp [Rows.uptoBulk]
  | .nil => by simp [Rows.uptoBulk]
  | .ptr _ => by simp [Rows.uptoBulk]
  | .slice _ _ => by simp [Rows.uptoBulk]
  | .agg _ => by simp [Rows.uptoBulk]
  | .iface _ _ => by simp [Rows.uptoBulk]
  | .map _ => by simp [Rows.uptoBulk]
  | .held _ => by simp [Rows.uptoBulk]
theorem bulk_mem {d : DataW H} : ∀ {l : List (DataW H)}, d ∈ l → Rows.uptoBulk d ≤ Rows.uptoBulkAll l
  | [], h => by cases h
  | x :: l, h => by
    rw [Rows.uptoBulkAll]
    rcases List.mem_cons.1 h with rfl | h
    · omega
    · have := bulk_mem h; omega
theorem bulk_len : ∀ l : List (DataW H), l.length ≤ Rows.uptoBulkAll l
  | [] => by simp [Rows.uptoBulkAll]
  | x :: l => by
    rw [Rows.uptoBulkAll, List.length_cons]
    have := bulk_len l
    have := bulk_pos x
    omega
theorem arr_data (s : ByteArray) : arr s.data.toList = s := by
  cases s; simp [arr]
theorem open_kat {P : Program} {α : Type} [Inhabited α] {f : α → List Value} {k : Nat} {R : α → DataW H → Prop} {t e : TypeId} {fuel : Nat} {v : Value} {y : DataW H × List MemPlace} (ht : P.underlying t = some (.slice e)) (hc : P.cellsOf e = k) (hk : 0 < k)
    (hel : ∀ (n : Nat) (cs : List Value) (z : DataW H × List MemPlace), DataW.trod enc P W base (fun _ => true) held n e cs = some z → ∃ x, cs = f x ∧ R x z.1)
    (h : DataW.trod enc P W base (fun _ => true) held fuel t [v] = some y) :
    ∃ a n c xs, v = .slice a n c ∧ n ≤ c ∧ KAt f k W a n xs ∧ n ≤ Rows.uptoBulk y.1 ∧ ∀ x ∈ xs, ∃ d, R x d ∧ Rows.uptoBulk d ≤ Rows.uptoBulk y.1 := by
  rcases open_slice ht h with ⟨hcs, hy⟩ | ⟨a, len, cap, m, n, D, Pl, hcs, _, hl, hm, hmm, hx, hcell⟩
  · simp only [List.cons.injEq, and_true] at hcs
    exact ⟨none, 0, 0, [], hcs, Nat.le_refl _, ⟨rfl, by omega, Or.inl rfl⟩, Nat.zero_le _, fun x hx => by cases hx⟩
  · simp only [List.cons.injEq, and_true] at hcs
    simp only [if_true] at hmm
    subst hmm
    have each : ∀ i, i < m → ∃ x : α, (∀ o, o < k → W.cell? (a.add (i * k + o)) = (f x)[o]?) ∧ (f x).length = k ∧ R x (D i) := by
      intro i hi
      obtain ⟨cs', h1, h2⟩ := hcell i hi
      obtain ⟨x, rfl, hR⟩ := hel n cs' _ h2
      rw [hc] at h1
      obtain ⟨_, h3, h4⟩ := World.cells?_some h1
      refine ⟨x, fun o ho => ?_, h3, hR⟩
      rw [← h4 o ho]
      by_cases hz : i * k = 0 <;> by_cases hz2 : o = 0 <;> simp [Addr.add, hz, hz2, Nat.add_assoc]
    obtain ⟨X, hX⟩ := choose_lt each
    have hb : Rows.uptoBulkAll ((List.range len).map D) + 1 ≤ Rows.uptoBulk y.1 := by rw [hx]; simp only [Rows.uptoBulk]; omega
    refine ⟨some a, len, m, (List.range len).map X, hcs, hl, ⟨by simp, by unfold maxLen at hm; omega, ?_⟩, ?_, fun x hx => ?_⟩
    · by_cases h0 : len = 0
      · exact Or.inl h0
      · have hf0 := (hX 0 (by omega)).1 0 hk
        have hl0 := (hX 0 (by omega)).2.1
        obtain ⟨b, off, spot⟩ := a
        rw [List.getElem?_eq_getElem (show 0 < (f (X 0)).length by omega)] at hf0
        have hspot : spot = none := by simpa [Addr.add] using World.cell?_spot hf0
        subst hspot
        refine Or.inr ⟨b, off, rfl, fun i x hx o u hu => ?_⟩
        have hi : i < len := by have := (List.getElem?_eq_some_iff.1 hx).1; simpa using this
        have hxe : x = X i := by rw [List.getElem?_map, List.getElem?_range hi] at hx; exact (Option.some.inj hx).symm
        subst hxe
        obtain ⟨h1, h2, _⟩ := hX i (by omega)
        have ho : o < k := by have := (List.getElem?_eq_some_iff.1 hu).1; omega
        have := h1 o ho
        rw [hu] at this
        rw [← Go.WideShapes.add_plain]
        exact this
    · have := bulk_len ((List.range len).map D)
      simp at this
      omega
    · obtain ⟨i, hi, rfl⟩ := List.mem_map.1 hx
      have hi := List.mem_range.1 hi
      refine ⟨D i, (hX i (by omega)).2.2, ?_⟩
      have := bulk_mem (d := D i) (l := (List.range len).map D) (List.mem_map.2 ⟨i, List.mem_range.2 hi, rfl⟩)
      omega
def SesS (b : Nat) (s : Ses) : Prop := (s.1.length ≤ b ∧ s.2.2.2.2.2.length ≤ b) ∧ -9223372036854775808 ≤ s.2.2.2.1 ∧ s.2.2.2.1 ≤ 9223372036854775807
theorem SesS.mono {b b' : Nat} {s : Ses} (h : SesS b s) (hb : b ≤ b') : SesS b' s := ⟨⟨Nat.le_trans h.1.1 hb, Nat.le_trans h.1.2 hb⟩, h.2⟩

set_option maxRecDepth 100000 in
theorem trod_ses {n : Nat} {cs : List Value} {z : DataW H × List MemPlace} (h : DataW.trod enc Tryz.prog W base (fun _ => true) held n 95 cs = some z) : ∃ s : Ses, cs = sesC s ∧ SesS (Rows.uptoBulk z.1) s := by
  obtain ⟨xs, m, _, rfl, hl, hlen, hf⟩ := DataW.trod_struct Tryz.underlying95 h
  rw [show Tryz.prog.cellsOf 95 = 6 by kernel_rfl] at hl
  match cs, hl, xs, hlen with
  | [c0, c1, c2, c3, c4, c5], _, [y0, y1, y2], _ =>
    have h0 := hf 0 _ rfl
    have h1 := hf 1 _ rfl
    have h2 := hf 2 _ rfl
    clear hf
    simp only [List.getElem_toArray, List.getElem_cons_zero, List.getElem_cons_succ] at h0 h1 h2
    simp only [show Tryz.prog.cellsOf 9 = 1 by kernel_rfl, show Tryz.prog.cellsOf 93 = 4 by kernel_rfl, List.drop_zero, List.drop_succ_cons, List.take_succ_cons, List.take_zero, List.getElem?_cons_zero, List.getElem?_cons_succ] at h0 h1 h2
    obtain ⟨s0, e0, rfl, _⟩ := DataW.trod_string Tryz.underlying9 h0
    obtain ⟨s2, e2, rfl, _⟩ := DataW.trod_string Tryz.underlying9 h2
    obtain ⟨xt, m2, _, rfl, _, hlt, hft⟩ := DataW.trod_struct Tryz.underlying93 h1
    match xt, hlt with
    | [t0, t1, t2, t3], _ =>
      have g0 := hft 0 _ rfl
      have g1 := hft 1 _ rfl
      have g2 := hft 2 _ rfl
      have g3 := hft 3 _ rfl
      clear hft
      simp only [List.getElem_toArray, List.getElem_cons_zero, List.getElem_cons_succ] at g0 g1 g2 g3
      simp only [show Tryz.prog.cellsOf 3 = 1 by kernel_rfl, List.drop_zero, List.drop_succ_cons, List.take_succ_cons, List.take_zero, List.getElem?_cons_zero, List.getElem?_cons_succ] at g0 g1 g2 g3
      obtain ⟨n0, f0, _, w0⟩ := DataW.trod_int Tryz.underlying3 g0
      obtain ⟨n1, f1, _, w1⟩ := DataW.trod_int Tryz.underlying3 g1
      obtain ⟨n2, f2, _, w2⟩ := DataW.trod_int Tryz.underlying3 g2
      obtain ⟨n3, f3, _, w3⟩ := DataW.trod_int Tryz.underlying3 g3
      simp only [List.cons.injEq, and_true] at e0 e2 f0 f1 f2 f3
      subst e0 e2 f0 f1 f2 f3
      refine ⟨(s0.data.toList, n0, n1, n2, n3, s2.data.toList), by simp only [sesC, arr_data], ⟨⟨?_, ?_⟩, bounds_i64 w2⟩⟩
      · simp only [List.map_cons, List.map_nil, Rows.uptoBulk, Rows.uptoBulkAll]; omega
      · simp only [List.map_cons, List.map_nil, Rows.uptoBulk, Rows.uptoBulkAll]; omega
def ChgS (W : World) (r : RChg) (d : DataW H) : Prop := r.1.length ≤ Rows.uptoBulk d ∧ ∃ xs ys, SV W r.2.1 xs ∧ SV W r.2.2 ys ∧ (xs.length ≤ Rows.uptoBulk d ∧ ys.length ≤ Rows.uptoBulk d) ∧ (∀ s ∈ xs, SesS (Rows.uptoBulk d) s) ∧ ∀ s ∈ ys, SesS (Rows.uptoBulk d) s
set_option maxRecDepth 100000 in
theorem trod_chg {n : Nat} {cs : List Value} {z : DataW H × List MemPlace} (h : DataW.trod enc Tryz.prog W base (fun _ => true) held n 101 cs = some z) : ∃ r : RChg, cs = rchC r ∧ ChgS W r z.1 := by
  obtain ⟨xs, m, _, rfl, hl, hlen, hf⟩ := DataW.trod_struct Tryz.underlying101 h
  rw [show Tryz.prog.cellsOf 101 = 3 by kernel_rfl] at hl
  match cs, hl, xs, hlen with
  | [c0, c1, c2], _, [y0, y1, y2], _ =>
    have h0 := hf 0 _ rfl
    have h1 := hf 1 _ rfl
    have h2 := hf 2 _ rfl
    clear hf
    simp only [List.getElem_toArray, List.getElem_cons_zero, List.getElem_cons_succ] at h0 h1 h2
    simp only [show Tryz.prog.cellsOf 9 = 1 by kernel_rfl, show Tryz.prog.cellsOf 49 = 1 by kernel_rfl, List.drop_zero, List.drop_succ_cons, List.take_succ_cons, List.take_zero, List.getElem?_cons_zero, List.getElem?_cons_succ] at h0 h1 h2
    obtain ⟨s0, e0, rfl, _⟩ := DataW.trod_string Tryz.underlying9 h0
    obtain ⟨a, n1, c, ss, rfl, hc1, hk1, hn1, hR1⟩ := open_kat (f := sesC) (k := 6) (R := fun s d => SesS (Rows.uptoBulk d) s) Tryz.underlying49 (by kernel_rfl) (by decide) (fun _ _ _ h => trod_ses h) h1
    obtain ⟨b, n2, c', ts, rfl, hc2, hk2, hn2, hR2⟩ := open_kat (f := sesC) (k := 6) (R := fun s d => SesS (Rows.uptoBulk d) s) Tryz.underlying49 (by kernel_rfl) (by decide) (fun _ _ _ h => trod_ses h) h2
    simp only [List.cons.injEq, and_true] at e0
    subst e0
    have hb1 : Rows.uptoBulk y1.1 ≤ Rows.uptoBulk (DataW.agg (List.map (fun x => x.1) [(DataW.lit (Lit.string s0.data.toList), []), y1, y2])) := by
      simp only [List.map_cons, List.map_nil, Rows.uptoBulk, Rows.uptoBulkAll]; omega
    have hb2 : Rows.uptoBulk y2.1 ≤ Rows.uptoBulk (DataW.agg (List.map (fun x => x.1) [(DataW.lit (Lit.string s0.data.toList), []), y1, y2])) := by
      simp only [List.map_cons, List.map_nil, Rows.uptoBulk, Rows.uptoBulkAll]; omega
    refine ⟨(s0.data.toList, (a, n1, c), (b, n2, c')), by simp only [rchC, arr_data, slV], ?_, ss, ts, ⟨hc1, hk1⟩, ⟨hc2, hk2⟩, ⟨?_, ?_⟩, fun s hs => ?_, fun s hs => ?_⟩
    · simp only [List.map_cons, List.map_nil, Rows.uptoBulk, Rows.uptoBulkAll]; omega
    · rw [hk1.1]; exact Nat.le_trans hn1 hb1
    · rw [hk2.1]; exact Nat.le_trans hn2 hb2
    · obtain ⟨d, h1, h2⟩ := hR1 s hs
      exact h1.mono (Nat.le_trans h2 hb1)
    · obtain ⟨d, h1, h2⟩ := hR2 s hs
      exact h1.mono (Nat.le_trans h2 hb2)
def VerS (b : Nat) (cs : List Chg) : Prop := cs.length ≤ b ∧ ∀ c ∈ cs, c.1.length ≤ b ∧ (c.2.1.length ≤ b ∧ c.2.2.length ≤ b) ∧ (∀ s ∈ c.2.1, SesS b s) ∧ ∀ s ∈ c.2.2, SesS b s
theorem VerS.mono {b b' : Nat} {cs : List Chg} (h : VerS b cs) (hb : b ≤ b') : VerS b' cs := ⟨Nat.le_trans h.1 hb, fun c hc => by
  obtain ⟨h1, h2, h3, h4⟩ := h.2 c hc
  exact ⟨Nat.le_trans h1 hb, ⟨Nat.le_trans h2.1 hb, Nat.le_trans h2.2 hb⟩, fun s hs => (h3 s hs).mono hb, fun s hs => (h4 s hs).mono hb⟩⟩
theorem bulk_head {d : DataW H} {ds : List (DataW H)} (h : Rows.uptoSmall H (d :: ds) = true) : Rows.uptoBulk d ≤ 1048576 := by
  have := of_decide_eq_true h
  rw [Rows.uptoBulkAll] at this
  omega
set_option maxRecDepth 100000 in
theorem open_version {r : Reach} {b0 : Nat} {v : Value} {d : DataW H} {p : List MemPlace} (hv : Value.okWide Tryz.prog W r b0 24 v) (h : DataW.Trod enc Tryz.prog W base (fun _ => true) held 24 v d p) :
    ∃ (num wk : Int) (s : Sl) (cs : List Chg), v = .agg #[.int .i64 num, .int .i64 wk, .slice s.1 s.2.1 s.2.2] ∧ HV W s cs ∧ VerS (Rows.uptoBulk d) cs := by
  obtain ⟨cs, rfl, hsz⟩ := okWide_struct Tryz.underlying24 hv
  obtain ⟨fuel, hf⟩ := h
  obtain ⟨xs, m, _, hx, hl, hlen, hf⟩ := DataW.trod_struct Tryz.underlying24 hf
  rw [show Tryz.prog.cellsOf 24 = 3 by kernel_rfl] at hsz
  obtain ⟨l⟩ := cs
  match l, hsz, xs, hlen with
  | [c0, c1, c2], _, [y0, y1, y2], _ =>
    have h0 := hf 0 _ rfl
    have h1 := hf 1 _ rfl
    have h2 := hf 2 _ rfl
    clear hf
    simp only [List.getElem_toArray, List.getElem_cons_zero, List.getElem_cons_succ] at h0 h1 h2
    simp only [Value.cells, show Tryz.prog.cellsOf 3 = 1 by kernel_rfl, show Tryz.prog.cellsOf 22 = 1 by kernel_rfl, List.drop_zero, List.drop_succ_cons, List.take_succ_cons, List.take_zero, List.getElem?_cons_zero, List.getElem?_cons_succ] at h0 h1 h2
    obtain ⟨num, e0, _, _⟩ := DataW.trod_int Tryz.underlying3 h0
    obtain ⟨wk, e1, _, _⟩ := DataW.trod_int Tryz.underlying3 h1
    obtain ⟨a, n, c, rs, rfl, hc, hk, hn, hR⟩ := open_kat (f := rchC) (k := 3) (R := fun r d => ChgS W r d) Tryz.underlying22 (by kernel_rfl) (by decide) (fun _ _ _ h => trod_chg h) h2
    simp only [List.cons.injEq, and_true] at e0 e1
    subst e0 e1
    simp only [Prod.mk.injEq] at hx
    have hb : Rows.uptoBulk y2.1 ≤ Rows.uptoBulk d := by
      rw [hx.1]; simp only [List.map_cons, List.map_nil, Rows.uptoBulk, Rows.uptoBulkAll]; omega
    have each : ∀ (rs rs0 : List RChg) (cs0 : List Chg), All2 (ChgR W) rs0 cs0 → (∀ x ∈ rs, ∃ d' : DataW H, ChgS W x d' ∧ Rows.uptoBulk d' ≤ Rows.uptoBulk y2.1) → ∃ cs : List Chg, All2 (ChgR W) (rs0 ++ rs) (cs0 ++ cs) ∧ ∀ c ∈ cs, c.1.length ≤ Rows.uptoBulk d ∧ (c.2.1.length ≤ Rows.uptoBulk d ∧ c.2.2.length ≤ Rows.uptoBulk d) ∧ (∀ s ∈ c.2.1, SesS (Rows.uptoBulk d) s) ∧ ∀ s ∈ c.2.2, SesS (Rows.uptoBulk d) s := by
      intro rs
      induction rs with
      | nil => exact fun rs0 cs0 h _ => ⟨[], by rw [List.append_nil, List.append_nil]; exact h, fun c hc => by cases hc⟩
      | cons x rs ih =>
        intro rs0 cs0 h0 h
        obtain ⟨d', ⟨q1, xs, ys, q2, q3, q4, q5, q6⟩, q7⟩ := h x List.mem_cons_self
        have hd : Rows.uptoBulk d' ≤ Rows.uptoBulk d := Nat.le_trans q7 hb
        obtain ⟨cs, h1, h2⟩ := ih (rs0 ++ [x]) (cs0 ++ [(x.1, xs, ys)]) (All2.snoc h0 ⟨rfl, q2, q3⟩) (fun y hy => h y (List.mem_cons_of_mem _ hy))
        rw [List.append_assoc, List.append_assoc, List.singleton_append, List.singleton_append] at h1
        refine ⟨(x.1, xs, ys) :: cs, h1, fun c hc => ?_⟩
        rcases List.mem_cons.1 hc with hc | hc
        · subst hc
          exact ⟨Nat.le_trans q1 hd, ⟨Nat.le_trans q4.1 hd, Nat.le_trans q4.2 hd⟩, fun s hs => (q5 s hs).mono hd, fun s hs => (q6 s hs).mono hd⟩
        · exact h2 c hc
    obtain ⟨cs, h3, h4⟩ := each rs [] [] (All2.nil _) hR
    rw [List.nil_append, List.nil_append] at h3
    refine ⟨num, wk, (a, n, c), cs, rfl, ⟨hc, rs, hk, h3⟩, ?_, h4⟩
    have : cs.length = n := by rw [← h3.1]; exact hk.1
    rw [this]
    exact Nat.le_trans hn hb
end
end Go.Proofs.YtihbpggbpapcfaaGreatDoor

namespace Go.Proofs.YtihbpggbpapcfaaGreatDoor
open Go.RowKit

theorem wp_region_rel2 {P : Program} {ops : Array Oper} {Q : Exit → Act → World → Prop} {id N : Nat} (V : Array Bool → Nat → Value → World → Prop) (S : Array Bool → World → Prop) {a0 : Act} {w0 : World} (hm : P.follows .mixedOrders = true)
    (hk0 : okOps ops N = true) (hN : N = a0.tmps.size) (hS : S (Array.replicate ops.size false) w0.drew)
    (hop : ∀ (i : Nat) (o : Oper) (L : Array Bool) (a : Act) (w : World), ops[i]? = some o → L[i]? = some false → L.size = ops.size → S L w → a.defers = a0.defers →
      (∀ (j : Nat) (oj : Oper), ops[j]? = some oj → o.after.any (fun e => e.on == j && Region.binds .any e) = true → L[j]? = some true ∧ ∃ v, V L j v w ∧ ∀ d, oj.dst = some d → a.tmps[d]? = some v) →
      (∀ (j : Nat) (oj : Oper), ops[j]? = some oj → L[j]? = some true → ∃ v, V L j v w) →
      (∀ t : Nat, ops.all (fun o => o.dst != some t) = true → a.tmps[t]? = a0.tmps[t]?) →
      (∀ (p : Nat) (op : Oper), ops[p]? = some op → L[p]? = some true → ∀ (j : Nat) (oj : Oper), ops[j]? = some oj → op.after.any (fun e => e.on == j && Region.binds .any e) = true → L[j]? = some true) →
      o.wp P a w (StepOk ops V S L i o a w) Q)
    (hfin : ∀ (vs : Nat → Value) (w : World), S (Array.replicate ops.size true) w → (∀ (j : Nat) (oj : Oper), ops[j]? = some oj → V (Array.replicate ops.size true) j (vs j) w) → Q .normal (putAll ops.toList 0 vs a0) w) :
    (Code.region id ops true).wp P Q a0 w0 := by
  refine wp_region_rel V (fun L W => (∀ (p : Nat) (op : Oper), ops[p]? = some op → L[p]? = some true → ∀ (j : Nat) (oj : Oper), ops[j]? = some oj → op.after.any (fun e => e.on == j && Region.binds .any e) = true → L[j]? = some true) ∧ S L W) hm hk0 hN ⟨fun p op hp h => ?_, hS⟩ ?_ ?_
  · rw [Array.getElem?_replicate] at h
    split at h <;> cases h
  · intro i o L a w ho hl hsz hS' hdf dep all fr
    refine Oper.wp_mono (fun a' w' h => ?_) (hop i o L a w ho hl hsz hS'.2 hdf dep all fr hS'.1)
    obtain ⟨v, e1, e2, e3, e4⟩ := h
    refine ⟨v, e1, e2, ⟨fun p op hp h j oj hj ha => ?_, e3⟩, e4⟩
    by_cases hpi : p = i
    · subst hpi
      obtain rfl := Option.some.inj (ho.symm.trans hp)
      exact listed_more (dep j oj hj ha).1
    · rw [Array.getElem?_setIfInBounds_ne (fun e => hpi e.symm)] at h
      exact listed_more (hS'.1 p op hp h j oj hj ha)
  · intro vs w hS' hV
    exact hfin vs w hS'.2 hV
end Go.Proofs.YtihbpggbpapcfaaGreatDoor

namespace Go.Proofs.YtihbpggbpapcfaaGreatDoor
open Go.RowKit

theorem ciRoll (args : Array Value) (w : World) : (callFunc 15 args).run Tryz.prog w = .ok (.enter 15 args) w := by
  kernel_rfl
theorem ciVer (args : Array Value) (w : World) : (callFunc 14 args).run Tryz.prog w = .ok (.enter 14 args) w := by
  kernel_rfl
theorem own_small {l : List Ses} {k : L8} (h : ownB l k = true) : l.length ≤ 96 := by
  unfold ownB at h
  rw [Bool.and_eq_true] at h
  exact (vld_parts (of_decide_eq_true h.2)).2.1
theorem enc_mid {v : Ver} (h : frmV v = true) (hc : v.2.2.length ≤ 100) : (encV v).length ≤ 2400000 := by
  obtain ⟨⟨h1, h2, h3, h4, _⟩, _, h5⟩ := frm_parts h
  have h6 := chgs_len h5
  have hcnt : ∀ cs : List Chg, (∀ c ∈ cs, chgOk c = true) → cntC cs ≤ 193 * cs.length := by
    intro cs
    induction cs with
    | nil => intro _; simp [cntC]
    | cons c cs ih =>
      intro h
      have := ih (fun x hx => h x (List.mem_cons_of_mem _ hx))
      obtain ⟨_, ⟨_, g1⟩, _, g2⟩ := chgOk_parts (h c List.mem_cons_self)
      have l1 := (vld_parts g1).2.1
      have l2 := (vld_parts g2).2.1
      rw [cntC_cons, List.length_cons]
      omega
  have h7 := hcnt _ h5
  have l1 := Lib.itoa_length_le v.1 (by omega) (by omega)
  have l2 := Lib.itoa_length_le v.2.1 (by omega) (by omega)
  have l3 := Lib.itoa_length_le (v.2.2.length : Int) (by omega) (by omega)
  unfold encV verT
  rw [ver_head]
  simp only [List.length_append, List.length_cons, List.length_nil, end_len]
  omega
theorem VerS.ok {num wk : Int} {cs : List Chg} (h : VerS 1048576 cs) : VOk (num, wk, cs) := fun c hc => by
  obtain ⟨h1, _, h3, h4⟩ := h.2 c hc
  exact ⟨by omega, fun s hs => by obtain ⟨⟨q1, q2⟩, q3⟩ := h3 s hs; exact ⟨⟨by omega, by omega⟩, q3⟩, fun s hs => by obtain ⟨⟨q1, q2⟩, q3⟩ := h4 s hs; exact ⟨⟨by omega, by omega⟩, q3⟩⟩
def rV (w0 : World) (r : Value) (num wk : Int) (s d : Sl) (L : Array Bool) (j : Nat) (u : Value) (W : World) : Prop := match j with
  | 0 => u = .agg #[.int .i64 num, .int .i64 wk, .slice s.1 s.2.1 s.2.2]
  | 1 => u = .slice d.1 d.2.1 d.2.2
  | 2 => ∃ p : Nat, u = .pointer (some ⟨p, 0, none⟩) ∧ w0.heap.size ≤ p ∧ (¬ L[3]? = some true → DiceAt W p)
  | 3 => ∃ (n2 k2 : Int) (t : Sl) (cs : List Chg), u = .agg #[.int .i64 n2, .int .i64 k2, .slice t.1 t.2.1 t.2.2] ∧ HV W t cs ∧ VOk (n2, k2, cs) ∧ cntC cs ≤ 1000
  | 4 => ∃ (g : Nat) (n2 k2 : Int) (t : Sl) (cs : List Chg), u = .slice (some ⟨g, 0, none⟩) 2 2 ∧ BX w0 W g #[.int .i64 num, .int .i64 wk, .slice s.1 s.2.1 s.2.2, .int .i64 n2, .int .i64 k2, .slice t.1 t.2.1 t.2.2] 24 ∧ HV W t cs ∧ VOk (n2, k2, cs) ∧ cntC cs ≤ 1000
  | 5 => u = .int .i64 2
  | 6 => u = .int .i64 0
  | _ => r = r
theorem rV_keep {w0 : World} {r : Value} {num wk : Int} {s d : Sl} {L : Array Bool} {i j : Nat} {u : Value} {W W' : World} (hb : Below W.heap.size W W') (h : rV w0 r num wk s d L j u W) : rV w0 r num wk s d (L.setIfInBounds i true) j u W' := by
  unfold rV at h ⊢
  split <;> simp only at h ⊢ <;> try exact h
  · obtain ⟨p, h1, h2, h3⟩ := h
    exact ⟨p, h1, h2, fun hn => (h3 (not_more hn)).below hb⟩
  · obtain ⟨n2, k2, t, cs, h1, h2, h3, h4⟩ := h
    exact ⟨n2, k2, t, cs, h1, h2.below hb, h3, h4⟩
  · obtain ⟨g, n2, k2, t, cs, h1, h2, h3, h4, h5⟩ := h
    exact ⟨g, n2, k2, t, cs, h1, h2.next hb, h3.below hb, h4, h5⟩
theorem rV_dice {w0 : World} {r : Value} {num wk : Int} {s d : Sl} {L : Array Bool} {j : Nat} {u : Value} {W W' : World} (hl : L[3]? = some false) (hj : j ≠ 3) (h4 : j ≠ 4) (h : rV w0 r num wk s d L j u W) : rV w0 r num wk s d (L.setIfInBounds 3 true) j u W' := by
  unfold rV at h ⊢
  split <;> simp only at h ⊢ <;> try exact h
  · obtain ⟨p, h1, h2, h3⟩ := h
    exact ⟨p, h1, h2, fun hn => absurd (listed_now hl) hn⟩
  · exact absurd rfl hj
  · exact absurd rfl h4

set_option maxRecDepth 100000 in
set_option maxHeartbeats 16000000 in
theorem law_records (num wk : Int) (s0 : Option Addr) (s1 s2 : Nat) (cs : List Chg) (a : Option Addr) (n c : Nat) (L : List Int) (ta : Option Addr) (tn tc : Nat) (tl : L8) (w : World) (hv : HV w (s0, s1, s2) cs) (hvs : VerS 1048576 cs) (hI : IntsAt w a n L) (hL : ∀ x ∈ L, -9223372036854775808 ≤ x ∧ x ≤ 9223372036854775807) (hT : BV w (ta, tn, tc) tl) (hE : Env w) :
    Calls Tryz.prog 3 #[.agg #[.int .i64 num, .int .i64 wk, .slice s0 s1 s2], .slice a n c, .slice ta tn tc] w (RetB (.bool true) w) := by
  have AW := Lib.hid (fun W (h : Below w.heap.size w W) => awake_any W (hE.below h))
  have HA := Lib.hid (BX.mk0 (vs := #[.int .i64 num, .int .i64 wk, .slice s0 s1 s2]) (T := 24) w)
  have hsl : cs.length = s1 := hv.2.len.1
  by_cases hg : n ≤ 400 ∧ s1 ≤ 100 ∧ tn ≤ 500
  rotate_left
  · have hcond : (!decide (n ≤ 400) || decide (100 < s1) || decide (500 < tn)) = true := by
      simp only [Bool.or_eq_true, Bool.not_eq_true', decide_eq_true_eq, decide_eq_false_iff_not]
      omega
    clear hI hL hT hE hv hvs
    go_enter Tryz.func3, Tryz.ntmps3
    clear hcond
    go_upto_region 1 with fail
    generalize w.alloc (.cells #[.int .i64 num, .int .i64 wk, .slice s0 s1 s2] 24) = w0 at *
    obtain ⟨R, hR⟩ : ∃ R, R = w.heap.size := ⟨_, rfl⟩
    rw [← hR] at HA ⊢
    clear hR
    obtain ⟨⟨c0, c1, c2⟩, _⟩ := HA.out.three
    go_wp2_with (first | (go_at_call 12; refine (light_any _ _ _ _).mono ?_; rintro e w' ⟨rfl, rfl⟩) | (go_at_call 13; refine (AW.out _ HA.out.bl).mono ?_; rintro e w' ⟨rfl, hb⟩))
    all_goals first | (go_ret; exact ⟨rfl, below3 HA.out.bl hb⟩) | (exfalso; simp only [decide_eq_true_eq, decide_eq_false_iff_not, beq_iff_eq, Bool.not_eq_true, beq_eq_false_iff_ne] at *; omega)
  obtain ⟨hn, hsn, htn⟩ := hg
  have HI := Lib.hid hI
  have HL := Lib.hid hL
  have HE := Lib.hid hE
  have HT := Lib.hid hT
  have HV0 := Lib.hid hv
  have HVS := Lib.hid hvs
  have hnd : decide (n ≤ 400) = true := by simpa using hn
  have htl : tl.length = tn := HT.out.2.1
  clear hI hL hT hE hv hvs
  go_enter Tryz.func3, Tryz.ntmps3
  go_upto_region 1 with fail
  generalize w.alloc (.cells #[.int .i64 num, .int .i64 wk, .slice s0 s1 s2] 24) = w0 at *
  obtain ⟨R, hR⟩ : ∃ R, R = w.heap.size := ⟨_, rfl⟩
  rw [← hR] at HA ⊢
  clear hR
  obtain ⟨⟨c0, c1, c2⟩, _⟩ := HA.out.three
  go_upto_region 3 with (go_at_call 12; refine (light_any _ _ _ _).mono ?_; rintro e w' ⟨rfl, rfl⟩)
  clear c0 c1 c2
  refine wp_region_rel2 (N := 91) (rV w0 (.bool true) num wk (s0, s1, s2) (a, n, c)) (fun _ W => Below w0.heap.size w0 W) (by kernel_rfl) (by kernel_rfl) (by rfl) (bel_drew0 _) ?_ ?_
  · intro i o L a' W ho hl hL hS hdf dep all fr dwn
    match i, ho with
    | 0, ho =>
      obtain rfl := (Option.some.inj ho).symm
      have f8 := fr 3 (by kernel_rfl)
      obtain ⟨⟨c0, c1, c2⟩, _⟩ := (HA.out.next hS).three
      unfold Oper.wp
      simp [go_sem, f8, c0, c1, c2]
      exact ⟨_, rfl, rfl, hS, fun j oj u _ _ _ _ hu => rV_keep (Below.refl _ _) hu⟩
    | 1, ho =>
      obtain rfl := (Option.some.inj ho).symm
      have f8 := fr 1 (by kernel_rfl)
      unfold Oper.wp
      simp [go_sem, f8]
      exact ⟨_, rfl, rfl, hS, fun j oj u _ _ _ _ hu => rV_keep (Below.refl _ _) hu⟩
    | 2, ho =>
      obtain rfl := (Option.some.inj ho).symm
      obtain ⟨_, v1, h1, d1⟩ := dep 1 _ rfl (by kernel_rfl)
      have d1 := d1 32 rfl
      obtain rfl : v1 = .slice a n c := h1
      refine wp_call1 (args := #[.slice a n c]) rfl (by simp [Act.eval, d1]) (ciRoll _ _) (roll_any _ _ _ _) ?_
      rintro e w' ⟨rfl, rfl⟩
      exact ⟨_, rfl, ⟨W.heap.size, rfl, hS.size, fun _ => DiceAt.mk0 c 104 (HI.out.below (below3 HA.out.bl hS)) hn HL.out⟩, below3 hS ((Below.refl _ _).alloc (Nat.le_refl _) _), fun j oj u _ _ _ _ hu => rV_keep ((Below.refl _ _).alloc (Nat.le_refl _) _) hu⟩
    | 3, ho =>
      obtain rfl := (Option.some.inj ho).symm
      obtain ⟨_, v2, ⟨p, rfl, hp, hdc⟩, d2⟩ := dep 2 _ rfl (by kernel_rfl)
      have d2 := d2 33 rfl
      refine wp_call1 (args := #[.pointer (some ⟨p, 0, none⟩)]) rfl (by simp [Act.eval, d2]) (ciVer _ _) (version_any p W (hdc (by rw [hl]; simp))) ?_
      rintro e w' ⟨n2, k2, t, cs2, rfl, hh, hvo, hcn, hd, hb⟩
      obtain ⟨t', ht, hv'⟩ := hh.hv
      obtain ⟨t0, t1, t2⟩ := t
      obtain ⟨t0', t1', t2'⟩ := t'
      obtain ⟨rfl, rfl, rfl⟩ : t0 = t0' ∧ t1 = t1' ∧ t2 = t2' := by
        have : slV (t0, t1, t2) = slV (t0', t1', t2') := ht
        injection this with x1 x2 x3
        exact ⟨x1, x2, x3⟩
      exact ⟨_, rfl, ⟨n2, k2, (t0, t1, t2), cs2, rfl, hv', hvo, hcn⟩, hb.below hS hp hS.size, fun j oj u hj hne hlj _ hu => rV_dice hl hne (fun h => by
        subst h
        have := dwn 4 _ rfl hlj 3 _ rfl (by kernel_rfl)
        rw [hl] at this
        cases this) hu⟩
    | 4, ho =>
      obtain rfl := (Option.some.inj ho).symm
      obtain ⟨_, v0, h0, d0⟩ := dep 0 _ rfl (by kernel_rfl)
      have d0 := d0 31 rfl
      obtain rfl : v0 = .agg #[.int .i64 num, .int .i64 wk, .slice s0 s1 s2] := h0
      obtain ⟨_, v3, ⟨n2, k2, t, cs2, rfl, hv', hvo, hcn⟩, d3⟩ := dep 3 _ rfl (by kernel_rfl)
      have d3 := d3 34 rfl
      unfold Oper.wp
      simp [go_sem, d0, d3]
      have hbx := BX.mk0 (vs := #[.int .i64 num, .int .i64 wk, .slice s0 s1 s2, .int .i64 n2, .int .i64 k2, .slice t.1 t.2.1 t.2.2]) (T := 24) W
      exact ⟨_, rfl, ⟨W.heap.size, n2, k2, t, cs2, rfl, ⟨hbx.hp, hS.size, below3 hS hbx.bl⟩, hv'.below hbx.bl, hvo, hcn⟩, below3 hS hbx.bl, fun j oj u _ _ _ _ hu => rV_keep hbx.bl hu⟩
    | 5, ho =>
      obtain rfl := (Option.some.inj ho).symm
      obtain ⟨_, v4, ⟨g, n2, k2, t, cs2, rfl, h4⟩, d4⟩ := dep 4 _ rfl (by kernel_rfl)
      have d4 := d4 35 rfl
      unfold Oper.wp
      simp [go_sem, d4]
      exact ⟨_, rfl, rfl, hS, fun j oj u _ _ _ _ hu => rV_keep (Below.refl _ _) hu⟩
    | 6, ho =>
      obtain rfl := (Option.some.inj ho).symm
      unfold Oper.wp
      simp [go_sem]
      exact ⟨_, rfl, rfl, hS, fun j oj u _ _ _ _ hu => rV_keep (Below.refl _ _) hu⟩
  · intro us W hS hV
    obtain ⟨g, n2, k2, ⟨t0, t1, t2⟩, cs2, h4, hbx, hv2, hvo2, hcn2⟩ := hV 4 _ rfl
    have h5 : us 5 = .int .i64 2 := hV 5 _ rfl
    have h6 : us 6 = .int .i64 0 := hV 6 _ rfl
    have hb4 := hS
    have HB4 := Lib.hid (below3 HA.out.bl hS)
    have hcl2 := cnt_le cs2
    have HS : Hid (∀ i, i < 2 → ∃ (nu wk' : Int) (x0 : Option Addr) (x1 x2 : Nat) (xs : List Chg), W.cell? ⟨g, i * 3, none⟩ = some (.int .i64 nu) ∧ W.cell? ⟨g, i * 3 + 1, none⟩ = some (.int .i64 wk') ∧ W.cell? ⟨g, i * 3 + 2, none⟩ = some (.slice x0 x1 x2) ∧ HV W (x0, x1, x2) xs ∧ VOk (nu, wk', xs) ∧ xs.length ≤ 1000000 ∧ (∀ c ∈ xs, c.2.1.length * 64 ≤ 140737488355328 ∧ c.2.2.length * 64 ≤ 140737488355328) ∧ (frmV (nu, wk', xs) = true → (encV (nu, wk', xs)).length ≤ 2400000)) := Lib.hid (fun i hi => by
      match i, hi with
      | 0, _ => exact ⟨num, wk, s0, s1, s2, cs, hbx.cell 0, hbx.cell 1, hbx.cell 2, HV0.out.below HB4.out, HVS.out.ok, by omega, fun c hc => by have := (HVS.out.2 c hc).2.1; omega, fun hf => enc_mid hf (by simp only; omega)⟩
      | 1, _ => exact ⟨n2, k2, t0, t1, t2, cs2, hbx.cell 3, hbx.cell 4, hbx.cell 5, hv2, hvo2, by omega, fun c hc => by have := hcl2.2 c hc; omega, fun hf => by have := enc_tiny hf hcn2; omega⟩)
    clear hV hbx hv2 hvo2 hcn2 hcl2 hS hb4 HA HV0 HVS HI HL
    simp only [putAll, Act.put, List.setIfInBounds_toArray, List.set_cons_zero, List.set_cons_succ, Nat.zero_add, Nat.reduceAdd]
    rw [h4, h5, h6]
    clear h4 h5 h6
    generalize us 0 = z0 at *
    generalize us 1 = z1 at *
    generalize us 2 = z2 at *
    generalize us 3 = z3 at *
    go_wp2_with fail
    go_loopw [37] (fun s37 wr => ∃ i : Nat, i ≤ 2 ∧ s37 = .int .i64 i ∧ Hid (Below W.heap.size W wr)) (fun s37 _ => 2 - (intOf s37).toNat)
    case atStart => exact ⟨0, by omega, rfl, Lib.hid (Below.refl _ _)⟩
    case round =>
      obtain ⟨i, hi, rfl, HB⟩ := hrel
      by_cases hlt : i < 2
      · obtain ⟨nu, wk', x0, x1, x2, xs, e0, e1, e2, hv, hvo, hxn, hxz, hen⟩ := HS.out i hlt
        have f0 := (HB.out.cell (lt_of_cell e0)).trans e0
        have f1 := (HB.out.cell (lt_of_cell e1)).trans e1
        have f2 := (HB.out.cell (lt_of_cell e2)).trans e2
        have hii : (i : Int) < 2 := by omega
        have HBW := Lib.hid (below3 HB4.out HB.out)
        have HX := Lib.hid (BX.mk0 (vs := #[.int .i64 nu, .int .i64 wk', .slice x0 x1 x2]) (T := 24) wr)
        have HV1 := Lib.hid (hv.below (below3 HB.out HX.out.bl))
        have HBX := Lib.hid (below3 HB.out HX.out.bl)
        have HVO := Lib.hid hvo
        have HXZ := Lib.hid hxz
        have HEN := Lib.hid hen
        have hxl : xs.length = x1 := hv.2.len.1
        clear e0 e1 e2 hv hvo hxz hen
        go_upto_region 6 with fail
        clear f0 f1 f2
        generalize wr.alloc (.cells #[.int .i64 nu, .int .i64 wk', .slice x0 x1 x2] 24) = w5 at *
        generalize wr.heap.size = q at *
        have EN := Lib.hid (encode_any (nu, wk', xs) (x0, x1, x2) w5 HV1.out HVO.out (HE.out.below (below3 HB4.out HBX.out)) hxn HXZ.out (fun hf => by have := HEN.out hf; omega))
        have RN := Lib.hid (fun W2 (h : Below w5.heap.size w5 W2) => rencode_any (nu, wk', xs) (x0, x1, x2) W2 (HV1.out.below h) HVO.out (fun hf => by have := HEN.out hf; omega))
        obtain ⟨fo, hfo⟩ : ∃ fo, frmV (nu, wk', xs) = fo := ⟨_, rfl⟩
        have HFO := Lib.hid hfo
        rw [hfo] at EN RN HEN
        clear hfo
        obtain ⟨E, hEq⟩ : ∃ E, encV (nu, wk', xs) = E := ⟨_, rfl⟩
        have HEQ := Lib.hid hEq
        rw [hEq] at EN RN HEN
        clear hEq
        obtain ⟨⟨re, rb⟩, hrr⟩ : ∃ rr : Int × L8, (if fo = true then ((0 : Int), E) else (1, [])) = rr := ⟨_, rfl⟩
        rw [hrr] at EN RN
        obtain ⟨⟨c0, c1, c2⟩, _⟩ := HX.out.three
        go_upto_region 7 with (go_at_call 16; refine EN.out.mono ?_; rintro en w6 ⟨⟨b0, b1, b2⟩, rfl, hb6, hq6⟩)
        have HX6 := Lib.hid (HX.out.next hq6)
        clear c0 c1 c2
        obtain ⟨⟨c0, c1, c2⟩, _⟩ := HX6.out.three
        go_upto_region 8 with (go_at_call 17; refine (RN.out _ hq6).mono ?_; rintro en w7 ⟨⟨d0, d1, d2⟩, rfl, hb7, hq7⟩)
        have HX7 := Lib.hid (HX6.out.next hq7)
        have HB6 := Lib.hid (hb6.below hq7)
        have HB7 := Lib.hid hb7
        have HQ7 := Lib.hid (below3 HBX.out (below3 hq6 hq7))
        have HV7 := Lib.hid (HV1.out.below (below3 hq6 hq7))
        have CB := conv_str (c := b2) HB6.out.2
        have CD := conv_str (c := d2) HB7.out.2
        have p1 : ((arr rb).toList == (arr rb).toList) = true := beq_self_eq_true _
        have p2 : (re != re) = false := bne_self_eq_false _
        clear hb6 hq6 hb7 hq7 c0 c1 c2 EN RN
        cases fo with
        | false =>
          rw [if_neg (by simp)] at hrr
          cases hrr
          have p3 : ((arr []).toList != (arr []).toList) = false := bne_self_eq_false _
          go_wp2_with fail
          go_roundw
          case rel => exact ⟨i + 1, by omega, by go_num, HQ7⟩
          case measure => simp [intOf]; omega
        | true =>
          rw [if_pos rfl] at hrr
          cases hrr
          have hel := HEN.out rfl
          have p3 : ((arr E).toList != (arr E).toList) = false := bne_self_eq_false _
          have HBE := Lib.hid (KRow.empty bytC 1 5 w7)
          have HBA := Lib.hid ((Below.refl w7.heap.size w7).alloc (Nat.le_refl _) (.cells #[] 5))
          have HTW := Lib.hid (HT.out.below (below3 HB4.out HQ7.out))
          have hbl : E.length = b1 := HB6.out.2.1
          subst hbl
          have p4 : (((E.length : Nat) : Int) != ((E.length : Nat) : Int)) = false := bne_self_eq_false _
          go_upto_region 11 with fail
          clear CB CD
          go_wp2_with (at_builtin; refine wpList_app elemByt encByt rfl _ _ rfl w7.heap.size _ [] rfl HBE.out _ _ _ E rfl (HB6.out.below HBA.out).2 (by simp; omega) (by simp) ?_)
          intro v8 w8 hr8 hb8 hg8 ho8
          have HR8 := Lib.hid hr8
          have HB8 := Lib.hid (HBA.out.trans hb8)
          have h78 : w7.heap.size ≤ w8.heap.size := HB8.out.size
          have HT8 := Lib.hid (HTW.out.below HB8.out)
          obtain ⟨a8, c8, hv8, hc8, hk8⟩ := KRow.at_ encByt hr8
          clear hr8 hb8 hg8 ho8 hk8 hc8
          go_wp2_with (at_builtin; refine wpList_app elemByt encByt rfl _ _ rfl w7.heap.size _ E rfl HR8.out _ _ _ tl rfl HT8.out.2 (by omega) h78 ?_)
          intro v9 w9 hr9 hb9 hg9 ho9
          obtain ⟨a9, c9, hv9, hc9, hk9⟩ := KRow.at_ encByt hr9
          obtain ⟨n9, hn9⟩ : ∃ n9, (E ++ tl).length = n9 := ⟨_, rfl⟩
          have hn9l : n9 ≤ 4000000 := by rw [← hn9, List.length_append]; omega
          have HDC : Hid (decV (E ++ tl) = some (nu, wk', xs)) := Lib.hid (by
            have h1 := HEQ.out
            subst h1
            exact dec_enc HFO.out (by rw [hn9]; omega))
          rw [hn9] at hv9 hc9 hk9
          subst hv9
          have hno9 := nil_row (s := (a9, n9, c9)) hr9
          have HQ79 := Lib.hid (HB8.out.trans hb9)
          have HQ9 := Lib.hid (below3 HQ7.out HQ79.out)
          have DE := Lib.hid (decode_any a9 n9 c9 (E ++ tl) w9 ⟨hc9, hk9⟩ hno9 (HE.out.below (below3 HB4.out HQ9.out)) hn9l)
          rw [HDC.out] at DE
          clear hr9 hb9 hg9 ho9 hc9 hk9 hno9 hn9 HR8 HT8 HBE HBA HTW HDC
          go_upto_region 12 with (go_at_call 18; refine DE.out.mono ?_; refine fun en w10 h10 => ?_; obtain ⟨q0, q1, q2, rfl, hv10, hb10⟩ := rd_vals h10; simp only [rdP, HEQ.out])
          have hv10 : HV w10 (q0, q1, q2) xs := hv10
          have HBX13 := Lib.hid (BX.mk0 (vs := #[.int .i64 nu, .int .i64 wk', .slice q0 q1 q2]) (T := 24) w10)
          have HQ11 := Lib.hid (HQ79.out.trans ((below3 hb10 HBX13.out.bl).mono HQ79.out.size))
          have HV10 := Lib.hid (hv10.below HBX13.out.bl)
          have HX11 := Lib.hid (HX7.out.next HQ11.out)
          have HVX := Lib.hid (HV7.out.below HQ11.out)
          clear hb10 hv10 h10 DE
          generalize w10.alloc (.cells #[.int .i64 nu, .int .i64 wk', .slice q0 q1 q2] 24) = w11 at *
          generalize w10.heap.size = g1 at *
          have c10 : w11.cell? ⟨g1, 0, none⟩ = some (.int .i64 nu) := HBX13.out.cell 0
          have c11 : w11.cell? ⟨g1, 1, none⟩ = some (.int .i64 wk') := HBX13.out.cell 1
          have c12 : w11.cell? ⟨g1, 2, none⟩ = some (.slice q0 q1 q2) := HBX13.out.cell 2
          have hal1 : Below w11.heap.size w11 (w11.alloc (.cells #[.int .i64 nu, .int .i64 wk', .slice q0 q1 q2] 24)) := (Below.refl _ _).alloc (Nat.le_refl _) _
          have HX12 := Lib.hid (HX11.out.next hal1)
          have c20 : (w11.alloc (.cells #[.int .i64 nu, .int .i64 wk', .slice q0 q1 q2] 24)).cell? ⟨q, 0, none⟩ = some (.int .i64 nu) := HX12.out.cell 0
          have c21 : (w11.alloc (.cells #[.int .i64 nu, .int .i64 wk', .slice q0 q1 q2] 24)).cell? ⟨q, 1, none⟩ = some (.int .i64 wk') := HX12.out.cell 1
          have c22 : (w11.alloc (.cells #[.int .i64 nu, .int .i64 wk', .slice q0 q1 q2] 24)).cell? ⟨q, 2, none⟩ = some (.slice x0 x1 x2) := HX12.out.cell 2
          have hal2 : Below (w11.alloc (.cells #[.int .i64 nu, .int .i64 wk', .slice q0 q1 q2] 24)).heap.size (w11.alloc (.cells #[.int .i64 nu, .int .i64 wk', .slice q0 q1 q2] 24)) ((w11.alloc (.cells #[.int .i64 nu, .int .i64 wk', .slice q0 q1 q2] 24)).alloc (.cells #[.int .i64 nu, .int .i64 wk', .slice x0 x1 x2] 24)) := (Below.refl _ _).alloc (Nat.le_refl _) _
          have k1 : VAt (w11.alloc (.cells #[.int .i64 nu, .int .i64 wk', .slice q0 q1 q2] 24)) (some ⟨w11.heap.size, 0, none⟩) 1 [(nu, wk', xs)] := ⟨[(nu, wk', (q0, q1, q2))], KAt.one (f := rveC) (k := 3) w11 (nu, wk', (q0, q1, q2)) _, All2.snoc (xs := []) (ys := []) (All2.nil _) ⟨rfl, rfl, HV10.out.below hal1⟩⟩
          have k2 : VAt ((w11.alloc (.cells #[.int .i64 nu, .int .i64 wk', .slice q0 q1 q2] 24)).alloc (.cells #[.int .i64 nu, .int .i64 wk', .slice x0 x1 x2] 24)) (some ⟨(w11.alloc (.cells #[.int .i64 nu, .int .i64 wk', .slice q0 q1 q2] 24)).heap.size, 0, none⟩) 1 [(nu, wk', xs)] := ⟨[(nu, wk', (x0, x1, x2))], KAt.one (f := rveC) (k := 3) _ (nu, wk', (x0, x1, x2)) _, All2.snoc (xs := []) (ys := []) (All2.nil _) ⟨rfl, rfl, (HVX.out.below hal1).below hal2⟩⟩
          have SV := Lib.hid (rsameV_any _ 1 1 _ 1 1 _ _ _ (k1.below hal2) k2)
          have HQ14 := Lib.hid (below3 HQ7.out (HQ11.out.trans ((below3 hal1 hal2).mono HQ11.out.size)))
          clear hal1 hal2 k1 k2
          have hdd : decide ([((nu, wk', xs) : Ver)] = [(nu, wk', xs)]) = true := by simp
          rw [hdd] at SV
          have hsz : (w11.alloc (.cells #[.int .i64 nu, .int .i64 wk', .slice q0 q1 q2] 24)).heap.size = w11.heap.size + 1 := by simp
          rw [hsz] at SV
          clear hsz hdd HX12 HX11 HV10 HVX HQ11 HQ79 HBX13
          go_wp2_with (go_at_call 19; refine SV.out.mono ?_; rintro e w15 ⟨rfl, hq15⟩; have hb15 := drew_bel hq15)
          have HQ15 := Lib.hid (below3 HQ14.out hb15)
          clear SV HQ14 hb15 hq15 c10 c11 c12 c20 c21 c22
          go_roundw
          case rel => exact ⟨i + 1, by omega, by go_num, HQ15⟩
          case measure => simp [intOf]; omega
      · have hni : ¬ (i : Int) < 2 := by omega
        have HBW := Lib.hid (below3 HB4.out HB.out)
        go_wp2_with (go_at_call 13; refine (AW.out _ HBW.out).mono ?_; rintro e w' ⟨rfl, hb⟩)
        go_ret
        exact ⟨rfl, below3 HBW.out hb⟩
end Go.Proofs.YtihbpggbpapcfaaGreatDoor
