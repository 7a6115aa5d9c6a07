/- Texts KM, K21, K22, joined: walks and laws. -/
import Derived.Test.YtcifdllbnbhcdaaGreatDoorMK02
import Derived.Test.YtcifdllbnbhcdaaGreatDoorMV04
set_option linter.unusedSimpArgs false
set_option linter.unusedVariables false
namespace Go.Proofs.YtcifdllbnbhcdaaGreatDoor
open Go.RowKit
structure Blk where
  adr : Nat
  vs : List Value
  ty : Option TypeId
structure Blk.ok (a w : World) (b : Blk) : Prop where
  at_ : At w b.adr b.vs
  lt : b.adr < w.heap.size
  rw_ : ∀ T, b.ty = some T → Rw w b.adr b.vs T ∧ a.heap.size ≤ b.adr
structure Mem (a w : World) (l : List Blk) : Prop where
  bl : Below a.heap.size a w
  ok : ∀ b ∈ l, b.ok a w
  nd : l.Pairwise (fun x y => x.adr ≠ y.adr)
section
variable {a w w2 : World} {l : List Blk} {b : Blk} {R p : Nat} {vs vs2 : List Value} {T : TypeId}
theorem Blk.ok.below (h : b.ok a w) (hb : Below w.heap.size w w2) : b.ok a w2 :=
  ⟨h.at_.below hb, Nat.lt_of_lt_of_le h.lt hb.size, fun T hT => ⟨(h.rw_ T hT).1.below hb, (h.rw_ T hT).2⟩⟩
theorem Blk.ok.but (h : b.ok a w) (hb : But p w w2) (hne : b.adr ≠ p) : b.ok a w2 :=
  ⟨h.at_.but hb hne.symm, Nat.lt_of_lt_of_le h.lt hb.size, fun T hT => ⟨(h.rw_ T hT).1.but hb hne, (h.rw_ T hT).2⟩⟩
theorem Blk.ok.of (h : Rw w R vs T) (hlo : a.heap.size ≤ R) : Blk.ok a w ⟨R, vs, some T⟩ :=
  ⟨h.at_, h.lt, fun T' hT => by simp only [Option.some.injEq] at hT; subst hT; exact ⟨h, hlo⟩⟩
theorem Blk.ok.of0 (h : At w R vs) (hlt : R < w.heap.size) : Blk.ok a w ⟨R, vs, none⟩ := ⟨h, hlt, (fun _ hT => nomatch hT)⟩
theorem Mem.start (w : World) : Mem w w [] := ⟨b0 w, (fun _ h => nomatch h), List.Pairwise.nil⟩
theorem Mem.below (h : Mem a w l) (hb : Below w.heap.size w w2) : Mem a w2 l := ⟨below3 h.bl hb, fun b hm => (h.ok b hm).below hb, h.nd⟩
theorem Mem.drew (h : Mem a w l) : Mem a w.drew l := h.below (bdrw (b0 w))
theorem Mem.obj (h : Mem a w l) (o : Obj) : Mem a (w.alloc o) l := h.below (bpush (b0 w) o)
theorem Mem.push (h : Mem a w2 l) (ho : b.ok a w2) (hn : ∀ c ∈ l, b.adr ≠ c.adr) : Mem a w2 (b :: l) :=
  ⟨h.bl, (fun c hc => (List.mem_cons.1 hc).elim (fun e => e ▸ ho) (h.ok c)), List.Pairwise.cons hn h.nd⟩
theorem Mem.add (h : Mem a w l) (hb : Below w.heap.size w w2) (hr : Rw w2 R vs T) (hlo : w.heap.size ≤ R) : Mem a w2 (⟨R, vs, some T⟩ :: l) :=
  (h.below hb).push (.of hr (Nat.le_trans h.bl.size hlo)) fun c hc e => by have := (h.ok c hc).lt; simp only at e; omega
theorem Mem.add0 (h : Mem a w l) (hb : Below w.heap.size w w2) (hr : At w2 R vs) (hlt : R < w2.heap.size) (hlo : w.heap.size ≤ R) : Mem a w2 (⟨R, vs, none⟩ :: l) :=
  (h.below hb).push (.of0 hr hlt) fun c hc e => by have := (h.ok c hc).lt; simp only at e; omega
theorem Mem.alloc (h : Mem a w l) (vs : List Value) (T : TypeId) : Mem a (w.alloc (.cells vs.toArray T)) (⟨w.heap.size, vs, some T⟩ :: l) :=
  h.add (bpush (b0 w) _) (by simpa using Rw.mk w vs #[] T rfl) (Nat.le_refl _)
theorem Mem.allocx (h : Mem a w l) (vs : List Value) (xs : Array Value) (T : TypeId) : Mem a (w.alloc (.cells (vs.toArray ++ xs) T)) (⟨w.heap.size, vs, some T⟩ :: l) :=
  h.add (bpush (b0 w) _) (Rw.mk w vs xs T rfl) (Nat.le_refl _)
theorem Mem.at_ (h : Mem a w l) (k : Nat) {ty : Option TypeId} (hk : l[k]? = some ⟨R, vs, ty⟩) : At w R vs := (h.ok _ (List.mem_of_getElem? hk)).at_
theorem Mem.lt (h : Mem a w l) (k : Nat) {ty : Option TypeId} (hk : l[k]? = some ⟨R, vs, ty⟩) : R < w.heap.size := (h.ok _ (List.mem_of_getElem? hk)).lt
theorem Mem.rw_ (h : Mem a w l) (k : Nat) (hk : l[k]? = some ⟨R, vs, some T⟩) : Rw w R vs T := ((h.ok _ (List.mem_of_getElem? hk)).rw_ T rfl).1
theorem Mem.lo (h : Mem a w l) (k : Nat) (hk : l[k]? = some ⟨R, vs, some T⟩) : a.heap.size ≤ R := ((h.ok _ (List.mem_of_getElem? hk)).rw_ T rfl).2
theorem Mem.ne (h : Mem a w l) {i k : Nat} {x y : Blk} (hi : l[i]? = some x) (hk : l[k]? = some y) (hne : i ≠ k) : x.adr ≠ y.adr := by
  obtain ⟨h1, e1⟩ := List.getElem?_eq_some_iff.1 hi
  obtain ⟨h2, e2⟩ := List.getElem?_eq_some_iff.1 hk
  have := List.pairwise_iff_getElem.1 h.nd
  rcases Nat.lt_or_gt_of_ne hne with hl | hl
  · have := this i k h1 h2 hl; rwa [e1, e2] at this
  · have := this k i h2 h1 hl; rw [e1, e2] at this; exact this.symm
theorem Mem.erase (h : Mem a w l) (k : Nat) : Mem a w (l.eraseIdx k) := ⟨h.bl, fun b hb => h.ok b (List.mem_of_mem_eraseIdx hb), h.nd.sublist (List.eraseIdx_sublist ..)⟩
theorem Mem.but (h : Mem a w l) (k : Nat) (hk : l[k]? = some ⟨R, vs, some T⟩) (hb : But R w w2) (hr : Rw w2 R vs2 T) : Mem a w2 (l.set k ⟨R, vs2, some T⟩) := by
  have hlo := h.lo k hk
  refine ⟨But.below h.bl hb hlo h.bl.size, fun c hc => ?_, ?_⟩
  · obtain ⟨i, hi⟩ := List.mem_iff_getElem?.1 hc
    by_cases he : k = i
    · subst he
      have hlt : k < l.length := (List.getElem?_eq_some_iff.1 hk).1
      rw [List.getElem?_set_self hlt] at hi
      cases hi
      exact .of hr hlo
    · rw [List.getElem?_set_ne he] at hi
      exact (h.ok c (List.mem_of_getElem? hi)).but hb (h.ne hi hk (Ne.symm he))
  · have hm : (l.set k ⟨R, vs2, some T⟩).map Blk.adr = l.map Blk.adr := by
      rw [List.map_set]
      have : (l.map Blk.adr)[k]? = some R := by rw [List.getElem?_map, hk]; rfl
      exact List.ext_getElem? fun i => by
        by_cases he : k = i
        · subst he
          obtain ⟨h1, h2⟩ := List.getElem?_eq_some_iff.1 this
          rw [List.getElem?_set_self h1, this]
        · rw [List.getElem?_set_ne he]
    have h2 : (l.map Blk.adr).Pairwise (· ≠ ·) := List.pairwise_map.2 h.nd
    rw [← hm] at h2
    exact List.pairwise_map.1 h2
theorem Mem.set (h : Mem a w l) (k i : Nat) (u : Value) (hk : l[k]? = some ⟨R, vs, some T⟩) (hi : Nat.blt i vs.length = true) : Mem a (w.setCell ⟨R, i, none⟩ u) (l.set k ⟨R, vs.set i u, some T⟩) :=
  h.but k hk (But.setCell w R i u) ((h.rw_ k hk).set i (Nat.le_of_ble_eq_true hi) u)
end
def apart (n : Nat) : List Blk → Prop
  | [] => True
  | b :: l => n ≠ b.adr ∧ b.adr ≠ n ∧ apart n l
def lts (b n : Nat) : Prop := b < n ∧ b < n + 1 ∧ b < n + 1 + 1 ∧ b < n + 1 + 1 + 1 ∧ b < n + 1 + 1 + 1 + 1 ∧ b < n + 1 + 1 + 1 + 1 + 1 ∧ b < n + 1 + 1 + 1 + 1 + 1 + 1 ∧ b < n + 1 + 1 + 1 + 1 + 1 + 1 + 1 ∧ b < n + 1 + 1 + 1 + 1 + 1 + 1 + 1 + 1
def facts (w : World) : List Blk → Prop
  | [] => True
  | b :: l => (cellsAre w b.adr 0 b.vs ∧ lts b.adr w.heap.size ∧ apart b.adr l) ∧ facts w l
def thaws (w : World) : List Blk → Prop
  | [] => True
  | b :: l => (b.ty.isSome = true → ∀ i, w.frozen? ⟨b.adr, i, none⟩ = false) ∧ thaws w l
theorem apart_of {n : Nat} : ∀ {l : List Blk}, (∀ c ∈ l, n ≠ c.adr) → apart n l
  | [], _ => trivial
  | c :: _, h => ⟨h c List.mem_cons_self, (h c List.mem_cons_self).symm, apart_of fun d hd => h d (List.mem_cons_of_mem _ hd)⟩
theorem facts_of {a w : World} : ∀ {l : List Blk}, (∀ b ∈ l, b.ok a w) → l.Pairwise (fun x y => x.adr ≠ y.adr) → facts w l
  | [], _, _ => trivial
  | _ :: _, h, hn => ⟨⟨(h _ List.mem_cons_self).at_.all, ups (h _ List.mem_cons_self).lt, apart_of (List.pairwise_cons.1 hn).1⟩, facts_of (fun d hd => h d (List.mem_cons_of_mem _ hd)) (List.pairwise_cons.1 hn).2⟩
theorem thaws_of {a w : World} : ∀ {l : List Blk}, (∀ b ∈ l, b.ok a w) → thaws w l
  | [], _ => trivial
  | b :: _, h => ⟨fun ht i => by
      obtain ⟨T, hT⟩ := Option.isSome_iff_exists.1 ht
      exact ((h b List.mem_cons_self).rw_ T hT).1.fz i, thaws_of fun d hd => h d (List.mem_cons_of_mem _ hd)⟩
theorem Mem.facts {a w : World} {l : List Blk} (h : Mem a w l) : facts w l := facts_of h.ok h.nd
theorem Mem.thaws {a w : World} {l : List Blk} (h : Mem a w l) : thaws w l := thaws_of h.ok
end Go.Proofs.YtcifdllbnbhcdaaGreatDoor
namespace Go.Proofs.YtcifdllbnbhcdaaGreatDoor
open Go.RowKit
def zrC : List Value := [.int .i64 0, .int .i64 0, .int .i64 0, .int .i64 0, .int .i64 0, .int .i64 0, .slice none 0 0, .slice none 0 0, .slice none 0 0, .slice none 0 0, .slice none 0 0, .slice none 0 0, .slice none 0 0, .slice none 0 0]
theorem At.ne {w : World} {b c : Nat} {x y : Value} {vs us : List Value} (h : At w b (x :: vs)) (g : At w c (y :: us)) (hxy : x ≠ y) : b ≠ c := fun e => by
  subst e; have := h 0 x rfl; rw [g 0 y rfl] at this; exact hxy (Option.some.inj this).symm
theorem Mem.reg {w : World} {br bc bp cp : Nat} (h1 : At w br roomC) (h2 : At w bc (claC bp cp)) (h3 : At w bp [.int .i64 1]) : Mem w w [⟨br, roomC, none⟩, ⟨bc, claC bp cp, none⟩, ⟨bp, [.int .i64 1], none⟩] := by
  have n1 : br ≠ bc := At.ne h1 h2 (by simp)
  have n2 : br ≠ bp := At.ne h1 h3 (by simp)
  have n3 : bc ≠ bp := At.ne h2 h3 (by simp)
  refine ((((Mem.start w).push (.of0 h3 (At.lt h3)) (by simp)).push (.of0 h2 (At.lt h2)) ?_).push (.of0 h1 (At.lt h1)) ?_)
  · intro c hc; simp only [List.mem_singleton] at hc; subst hc; exact n3
  · intro c hc
    simp only [List.mem_cons, List.not_mem_nil, or_false] at hc
    rcases hc with rfl | rfl
    · exact n1
    · exact n2
def RegN (w0 w : World) (v : Value) : Prop := ∃ br cr bc cc bp cp, v = regV br cr bc cc ∧ (1 ≤ cr ∧ 1 ≤ cc ∧ 1 ≤ cp) ∧ (w0.heap.size ≤ br ∧ w0.heap.size ≤ bc ∧ w0.heap.size ≤ bp) ∧ At w br roomC ∧ At w bc (claC bp cp) ∧ At w bp [.int .i64 1]
theorem RegN.reg {w0 w : World} {v : Value} (h : RegN w0 w v) : RegAt w v := by
  obtain ⟨br, cr, bc, cc, bp, cp, h1, h2, _, h3, h4, h5⟩ := h
  exact ⟨br, cr, bc, cc, bp, cp, h1, h2, h3, h4, h5⟩
theorem Mem.butAdd {a w w2 : World} {l : List Blk} {R b : Nat} {vs vs2 us : List Value} {T U : TypeId} (h : Mem a w l) (k : Nat) (hk : l[k]? = some ⟨R, vs, some T⟩) (hb : But R w w2) (hr : Rw w2 R vs2 T) (hn : Rw w2 b us U) (hlo : w.heap.size ≤ b) : Mem a w2 (⟨b, us, some U⟩ :: l.set k ⟨R, vs2, some T⟩) :=
  (h.but k hk hb hr).push (.of hn (Nat.le_trans h.bl.size hlo)) fun c hc e => by
    obtain ⟨i, hi⟩ := List.mem_iff_getElem?.1 hc
    have : c.adr < w.heap.size := by
      by_cases he : k = i
      · subst he
        rw [List.getElem?_set_self (List.getElem?_eq_some_iff.1 hk).1] at hi; cases hi; exact h.lt k hk
      · rw [List.getElem?_set_ne he] at hi; exact (h.ok c (List.mem_of_getElem? hi)).lt
    simp only at e; omega
def RetRegN (w : World) (e : Ending) (w2 : World) : Prop := ∃ v, e = .returned v ∧ RegN w w2 v ∧ Below w.heap.size w w2
def twV (rb bp cp : Nat) (w5 : World) (_ : Array Bool) (j : Nat) (v : Value) (W : World) : Prop := match j with
  | 6 | 25 => v = .pointer (some ⟨rb, 4, none⟩)
  | 11 | 28 => v = .pointer (some ⟨rb, 6, none⟩)
  | 16 | 31 => v = .pointer (some ⟨rb, 7, none⟩)
  | 21 | 34 => v = .pointer (some ⟨rb, 8, none⟩)
  | 7 => v = .slice (some ⟨bp, 0, none⟩) 1 cp
  | 8 => ∃ b c, v = .slice (some ⟨b, 0, none⟩) 1 c ∧ 1 ≤ c ∧ w5.heap.size ≤ b ∧ Rw W b [.int .i64 1] 3
  | 12 | 13 | 17 | 18 | 22 | 23 => v = nilV
  | 26 | 29 | 32 | 35 => True
  | _ => v = .pointer (some ⟨rb, 0, none⟩)
def twS (rb bp cp : Nat) (w5 : World) (L : Array Bool) (W : World) : Prop := But rb w5 W ∧ ∃ b c, Rw W rb (claC b c) 113 ∧ (¬ L[26]? = some true → b = bp ∧ c = cp) ∧ (L[26]? = some true → 1 ≤ c ∧ w5.heap.size ≤ b ∧ Rw W b [.int .i64 1] 3)
section
variable {rb bp cp : Nat} {w5 : World} {L : Array Bool} {i j : Nat} {v : Value} {W W' : World}
theorem twV_keep (hb : Below W.heap.size W W') (h : twV rb bp cp w5 L j v W) : twV rb bp cp w5 (L.setIfInBounds i true) j v W' := by
  unfold twV at h ⊢
  split <;> simp only at h ⊢ <;> try exact h
  obtain ⟨b, c, h1, h2, h3, h4⟩ := h
  exact ⟨b, c, h1, h2, h3, h4.below hb⟩
theorem twV_store (hr : rb < w5.heap.size) (o : Nat) (u : Value) (h : twV rb bp cp w5 L j v W) : twV rb bp cp w5 (L.setIfInBounds i true) j v (W.setCell ⟨rb, o, none⟩ u) := by
  unfold twV at h ⊢
  split <;> simp only at h ⊢ <;> try exact h
  obtain ⟨b, c, h1, h2, h3, h4⟩ := h
  exact ⟨b, c, h1, h2, h3, h4.other (by omega) _ _⟩
theorem twS_keep (hi : i ≠ 26) (hb : Below W.heap.size W W') (h : twS rb bp cp w5 L W) : twS rb bp cp w5 (L.setIfInBounds i true) W' := by
  obtain ⟨h1, b, c, h2, h3, h4⟩ := h
  refine ⟨h1.trans (But.of_below hb), b, c, h2.below hb, ?_, ?_⟩ <;> rw [Array.getElem?_setIfInBounds_ne hi]
  · exact h3
  · intro h; obtain ⟨a1, a2, a3⟩ := h4 h; exact ⟨a1, a2, a3.below hb⟩
theorem twS_nil (hi : i ≠ 26) (hr : rb < w5.heap.size) (o : Nat) (u : Value) (ho : o < 9) (hu : ∀ b c, (claC b c).set o u = claC b c) (h : twS rb bp cp w5 L W) : twS rb bp cp w5 (L.setIfInBounds i true) (W.setCell ⟨rb, o, none⟩ u) := by
  obtain ⟨h1, b, c, h2, h3, h4⟩ := h
  have := h2.set o (by simpa [claC] using ho) u
  rw [hu] at this
  refine ⟨h1.trans (But.setCell _ _ _ _), b, c, this, ?_, ?_⟩ <;> rw [Array.getElem?_setIfInBounds_ne hi]
  · exact h3
  · intro h; obtain ⟨a1, a2, a3⟩ := h4 h; exact ⟨a1, a2, a3.other (by omega) _ _⟩
theorem twS_pat (hl : L[26]? = some false) (hr : rb < w5.heap.size) {b c : Nat} (hc : 1 ≤ c) (hb : w5.heap.size ≤ b) (hR : Rw W b [.int .i64 1] 3) (h : twS rb bp cp w5 L W) : twS rb bp cp w5 (L.setIfInBounds 26 true) (W.setCell ⟨rb, 4, none⟩ (.slice (some ⟨b, 0, none⟩) 1 c)) := by
  obtain ⟨h1, b', c', h2, h3, h4⟩ := h
  refine ⟨h1.trans (But.setCell _ _ _ _), b, c, h2.set 4 (by simp [claC]) _, fun hn => ?_, fun _ => ⟨hc, hb, hR.other (by omega) _ _⟩⟩
  exact absurd (listed_now hl) hn
end
theorem ci28 (args : Array Value) (w : World) : (callFunc 28 args).run Tryz.prog w = .ok (.enter 28 args) w := by kernel_rfl
theorem ci63 (args : Array Value) (w : World) : (callFunc 63 args).run Tryz.prog w = .ok (.enter 63 args) w := by kernel_rfl
theorem ci176 (args : Array Value) (w : World) : (callFunc 176 args).run Tryz.prog w = .ok (.enter 176 args) w := by kernel_rfl
set_option maxRecDepth 100000 in
set_option maxHeartbeats 8000000 in
theorem twin_one (v : Value) (w : World) (h : RegAt w v) : Calls Tryz.prog 101 #[v] w (RetRegN w) := by
  obtain ⟨br, cr, bc, cc, bp, cp, rfl, hcap, h1, h2, h3⟩ := h
  have HM := ((Mem.reg h1 h2 h3).alloc (regC br cr bc cc) 58).alloc zrC 58
  simp only [World.size_alloc, World.size_drew, World.size_setCell] at HM
  clear h1 h2 h3
  go_enter Tryz.func101, Tryz.ntmps101
  go_wp2_with (first
    | (go_at_call 28; refine (clnInt_nil _).mono ?_; rintro e w' ⟨rfl, rfl⟩)
    | (go_at_call 63; refine (clnStr_nil _).mono ?_; rintro e w' ⟨rfl, rfl⟩)
    | (go_at_call 172; refine (clnRow_nil _).mono ?_; rintro e w' ⟨rfl, rfl⟩))
  refine wp_loop_rounds 1 ?_
  rw [rounds_succ]
  go_wp2_with fail
  refine (clnRoom_one br cr hcap.1 _ (HM.at_ 2 rfl)).mono ?_
  rintro e w1 ⟨ra, rc, rfl, hrc, hra, hR, hb⟩
  replace HM := HM.add hb hR hra
  clear hb hra hR
  obtain ⟨Z, hZ⟩ : ∃ n : Nat, n = w.heap.size + 1 := ⟨_, rfl⟩
  rw [← hZ] at HM ⊢
  clear hZ
  obtain ⟨R, hR⟩ : ∃ n : Nat, n = w.heap.size := ⟨_, rfl⟩
  rw [← hR] at HM ⊢
  clear hR
  have HM : Mem w w1 [⟨ra, roomC, some 110⟩, ⟨Z, zrC, some 58⟩, ⟨R, regC br cr bc cc, some 58⟩, ⟨br, roomC, none⟩, ⟨bc, claC bp cp, none⟩, ⟨bp, [.int .i64 1], none⟩] := HM
  have C := HM.facts
  simp only [facts, cellsAre, lts, apart, roomC, zrC, regC, claC, List.eraseIdx_cons_succ, List.eraseIdx_cons_zero, List.set_cons_zero, List.set_cons_succ, Nat.zero_add, Nat.reduceAdd, and_true] at C
  have F := HM.thaws
  simp only [thaws, List.eraseIdx_cons_succ, List.eraseIdx_cons_zero, List.set_cons_zero, List.set_cons_succ, Option.isSome_some, Option.isSome_none, Bool.false_eq_true, false_implies, forall_const, and_true, true_and] at F
  go_wp2_with fail
  refine wp_loop_rounds 2 ?_
  rw [rounds_succ]
  go_wp2_with fail
  replace HM : Mem w _ [⟨ra, roomC, some 110⟩, ⟨Z, zrC, some 58⟩, ⟨R, regC ra rc bc cc, some 58⟩, ⟨bc, claC bp cp, none⟩, ⟨bp, [.int .i64 1], none⟩] := (HM.set 2 7 (.slice (some ⟨ra, 0, none⟩) 1 rc) rfl rfl).erase 3
  clear C F
  obtain ⟨w2, hW, HM⟩ : ∃ W, W = _ ∧ Mem _ W _ := ⟨_, rfl, HM⟩
  rw [← hW]
  clear hW
  have RD := Lib.hid ((HM.rw_ 0 rfl).below (bdrw (b0 w2)))
  have KS : Hid (∀ W, Rw W ra roomC 110 → W.cell? ⟨ra, 3, none⟩ = some (.slice none 0 0) ∧ W.cell? ⟨ra, 4, none⟩ = some (.slice none 0 0) ∧ W.frozen? ⟨ra, 3, none⟩ = false ∧ W.frozen? ⟨ra, 4, none⟩ = false) := Lib.hid fun W h => ⟨h.at_ 3 _ rfl, h.at_ 4 _ rfl, h.fz 3, h.fz 4⟩
  obtain ⟨c3, c4, f3, f4⟩ := KS.out _ (HM.rw_ 0 rfl)
  go_region_held3 (fun w' => w'.cell? ⟨ra, 3, none⟩ = some (.slice none 0 0) ∧ w'.cell? ⟨ra, 4, none⟩ = some (.slice none 0 0) ∧ w'.frozen? ⟨ra, 3, none⟩ = false ∧ w'.frozen? ⟨ra, 4, none⟩ = false) (first | exact KS.out _ RD.out | exact KS.out _ (RD.out.set 3 (by decide) _) | exact KS.out _ (RD.out.set 4 (by decide) _) | exact KS.out _ ((RD.out.set 3 (by decide) _).set 4 (by decide) _) | exact KS.out _ ((RD.out.set 4 (by decide) _).set 3 (by decide) _) | go_keep) (first | (go_at_call 63; refine (clnStr_nil _).mono ?_; rintro e w9 ⟨rfl, rfl⟩) | (go_at_call 62; refine (clnTim_nil _).mono ?_; rintro e w9 ⟨rfl, rfl⟩))
  clear RD KS c3 c4 f3 f4
  replace HM : Mem w _ [⟨ra, roomC, some 110⟩, ⟨Z, zrC, some 58⟩, ⟨R, regC ra rc bc cc, some 58⟩, ⟨bc, claC bp cp, none⟩, ⟨bp, [.int .i64 1], none⟩] := ((HM.set 0 3 (.slice none 0 0) rfl rfl).set 0 4 (.slice none 0 0) rfl rfl).drew
  obtain ⟨w3, hW, HM⟩ : ∃ W, W = _ ∧ Mem _ W _ := ⟨_, rfl, HM⟩
  rw [← hW]
  clear hW
  go_wp2_with fail
  rw [rounds_succ]
  have C := HM.facts
  simp only [facts, cellsAre, lts, apart, roomC, zrC, regC, claC, List.eraseIdx_cons_succ, List.eraseIdx_cons_zero, List.set_cons_zero, List.set_cons_succ, Nat.zero_add, Nat.reduceAdd, and_true] at C
  have F := HM.thaws
  simp only [thaws, List.eraseIdx_cons_succ, List.eraseIdx_cons_zero, List.set_cons_zero, List.set_cons_succ, Option.isSome_some, Option.isSome_none, Bool.false_eq_true, false_implies, forall_const, and_true, true_and] at F
  go_wp2_with (go_at_call 174; refine (clnLec_nil _).mono ?_; rintro e w9 ⟨rfl, rfl⟩)
  clear C F
  replace HM : Mem w _ [⟨ra, roomC, some 110⟩, ⟨Z, zrC, some 58⟩, ⟨R, regC ra rc bc cc, some 58⟩, ⟨bc, claC bp cp, none⟩, ⟨bp, [.int .i64 1], none⟩] := HM.set 2 10 (.slice none 0 0) rfl rfl
  obtain ⟨w4, hW, HM⟩ : ∃ W, W = _ ∧ Mem _ W _ := ⟨_, rfl, HM⟩
  rw [← hW]
  clear hW
  have C := HM.facts
  simp only [facts, cellsAre, lts, apart, roomC, zrC, regC, claC, List.eraseIdx_cons_succ, List.eraseIdx_cons_zero, List.set_cons_zero, List.set_cons_succ, Nat.zero_add, Nat.reduceAdd, and_true] at C
  have F := HM.thaws
  simp only [thaws, List.eraseIdx_cons_succ, List.eraseIdx_cons_zero, List.set_cons_zero, List.set_cons_succ, Option.isSome_some, Option.isSome_none, Bool.false_eq_true, false_implies, forall_const, and_true, true_and] at F
  refine wp_loop_rounds 1 ?_
  rw [rounds_succ]
  go_wp2_with fail
  refine (clnCls_one bp cp bc cc hcap.2.1 _ (HM.at_ 3 rfl)).mono ?_
  rintro e w5 ⟨rb, rd, rfl, hrd, hrb, hC, hb⟩
  clear C F
  replace HM := (HM.add hb hC hrb).erase 4
  clear hb hrb hC
  have C := HM.facts
  simp only [facts, cellsAre, lts, apart, roomC, zrC, regC, claC, List.eraseIdx_cons_succ, List.eraseIdx_cons_zero, List.set_cons_zero, List.set_cons_succ, Nat.zero_add, Nat.reduceAdd, and_true] at C
  have F := HM.thaws
  simp only [thaws, List.eraseIdx_cons_succ, List.eraseIdx_cons_zero, List.set_cons_zero, List.set_cons_succ, Option.isSome_some, Option.isSome_none, Bool.false_eq_true, false_implies, forall_const, and_true, true_and] at F
  go_wp2_with fail
  refine wp_loop_rounds 2 ?_
  rw [rounds_succ]
  go_wp2_with fail
  clear C F
  replace HM : Mem w _ [⟨rb, claC bp cp, some 113⟩, ⟨ra, roomC, some 110⟩, ⟨Z, zrC, some 58⟩, ⟨R, regC ra rc rb rd, some 58⟩, ⟨bp, [.int .i64 1], none⟩] := HM.set 3 11 (.slice (some ⟨rb, 0, none⟩) 1 rd) rfl rfl
  obtain ⟨w5, hW, HM⟩ : ∃ W, W = _ ∧ Mem _ W _ := ⟨_, rfl, HM⟩
  rw [← hW]
  clear hW
  have hr5 : rb < w5.heap.size := HM.lt 0 rfl
  have hp5 := Lib.hid (HM.at_ 4 rfl)
  have np : rb ≠ bp := HM.ne (i := 0) (k := 4) rfl rfl (by decide)
  refine wp_region_relG (N := 195) (twV rb bp cp w5) (twS rb bp cp w5) (by kernel_rfl) (by kernel_rfl) (by rfl) ⟨But.of_below (bdrw (b0 w5)), bp, cp, (HM.rw_ 0 rfl).below (bdrw (b0 w5)), fun _ => ⟨rfl, rfl⟩, fun h => by rw [Array.getElem?_replicate] at h; split at h <;> cases h⟩ (no_gd (by kernel_rfl)) ?_ ?_
  · intro i o L a' W ho hl hL hS hdf dep all fr dwn
    match i, ho with
    | 0, ho =>
      obtain rfl := so ho
      have f9 := fr 9 (by kernel_rfl)
      unfold Oper.wp
      simp [go_sem, f9]
      exact ⟨_, rfl, rfl, twS_keep (by decide) (b0 _) hS, fun j oj u _ _ _ _ hu => twV_keep (b0 _) hu⟩
    | 1, ho =>
      obtain rfl := so ho
      have f9 := fr 9 (by kernel_rfl)
      unfold Oper.wp
      simp [go_sem, f9]
      exact ⟨_, rfl, rfl, twS_keep (by decide) (b0 _) hS, fun j oj u _ _ _ _ hu => twV_keep (b0 _) hu⟩
    | 2, ho =>
      obtain rfl := so ho
      have f9 := fr 9 (by kernel_rfl)
      unfold Oper.wp
      simp [go_sem, f9]
      exact ⟨_, rfl, rfl, twS_keep (by decide) (b0 _) hS, fun j oj u _ _ _ _ hu => twV_keep (b0 _) hu⟩
    | 3, ho =>
      obtain rfl := so ho
      have f9 := fr 9 (by kernel_rfl)
      unfold Oper.wp
      simp [go_sem, f9]
      exact ⟨_, rfl, rfl, twS_keep (by decide) (b0 _) hS, fun j oj u _ _ _ _ hu => twV_keep (b0 _) hu⟩
    | 4, ho =>
      obtain rfl := so ho
      have f9 := fr 9 (by kernel_rfl)
      unfold Oper.wp
      simp [go_sem, f9]
      exact ⟨_, rfl, rfl, twS_keep (by decide) (b0 _) hS, fun j oj u _ _ _ _ hu => twV_keep (b0 _) hu⟩
    | 5, ho =>
      obtain rfl := so ho
      have d4 := dv (dep 4 _ rfl (by kernel_rfl)) (fun _ h => h) rfl
      unfold Oper.wp
      simp [go_sem, d4]
      exact ⟨_, rfl, rfl, twS_keep (by decide) (b0 _) hS, fun j oj u _ _ _ _ hu => twV_keep (b0 _) hu⟩
    | 6, ho =>
      obtain rfl := so ho
      have d5 := dv (dep 5 _ rfl (by kernel_rfl)) (fun _ h => h) rfl
      unfold Oper.wp
      simp [go_sem, d5]
      exact ⟨_, rfl, rfl, twS_keep (by decide) (b0 _) hS, fun j oj u _ _ _ _ hu => twV_keep (b0 _) hu⟩
    | 7, ho =>
      obtain rfl := so ho
      have d6 := dv (dep 6 _ rfl (by kernel_rfl)) (fun _ h => h) rfl
      obtain ⟨hbt, b0_, c0_, hrw, hn0, hn1⟩ := id hS
      have hn : ¬ L[26]? = some true := fun h => by have := dwn 26 _ rfl h 7 _ rfl (by kernel_rfl); rw [hl] at this; cases this
      obtain ⟨rfl, rfl⟩ := hn0 hn
      have hc := hrw.at_ 4 _ rfl
      unfold Oper.wp
      simp [go_sem, d6, hc]
      exact ⟨_, rfl, rfl, twS_keep (by decide) (b0 _) hS, fun j oj u _ _ _ _ hu => twV_keep (b0 _) hu⟩
    | 8, ho =>
      obtain rfl := so ho
      have d7 := dv (dep 7 _ rfl (by kernel_rfl)) (fun _ h => h) rfl
      have hpW := hp5.out.but hS.1 np
      refine wp_call1 (args := #[.slice (some ⟨bp, 0, none⟩) 1 cp]) rfl (by simp [Act.eval, d7]) (ci28 _ _) (clnNum_one bp cp hcap.2.2 W hpW) ?_
      rintro e w9 ⟨b, c, rfl, hc, hlo, hR, hb⟩
      exact ⟨_, rfl, ⟨b, c, rfl, hc, Nat.le_trans hS.1.size hlo, hR⟩, twS_keep (by decide) hb hS, fun j oj u _ _ _ _ hu => twV_keep hb hu⟩
    | 9, ho =>
      obtain rfl := so ho
      have f9 := fr 9 (by kernel_rfl)
      unfold Oper.wp
      simp [go_sem, f9]
      exact ⟨_, rfl, rfl, twS_keep (by decide) (b0 _) hS, fun j oj u _ _ _ _ hu => twV_keep (b0 _) hu⟩
    | 10, ho =>
      obtain rfl := so ho
      have d9 := dv (dep 9 _ rfl (by kernel_rfl)) (fun _ h => h) rfl
      unfold Oper.wp
      simp [go_sem, d9]
      exact ⟨_, rfl, rfl, twS_keep (by decide) (b0 _) hS, fun j oj u _ _ _ _ hu => twV_keep (b0 _) hu⟩
    | 11, ho =>
      obtain rfl := so ho
      have d10 := dv (dep 10 _ rfl (by kernel_rfl)) (fun _ h => h) rfl
      unfold Oper.wp
      simp [go_sem, d10]
      exact ⟨_, rfl, rfl, twS_keep (by decide) (b0 _) hS, fun j oj u _ _ _ _ hu => twV_keep (b0 _) hu⟩
    | 12, ho =>
      obtain rfl := so ho
      have d11 := dv (dep 11 _ rfl (by kernel_rfl)) (fun _ h => h) rfl
      obtain ⟨hbt, b0_, c0_, hrw, hn0, hn1⟩ := id hS
      have hc := hrw.at_ 6 _ rfl
      unfold Oper.wp
      simp [go_sem, d11, hc]
      exact ⟨_, rfl, rfl, twS_keep (by decide) (b0 _) hS, fun j oj u _ _ _ _ hu => twV_keep (b0 _) hu⟩
    | 13, ho =>
      obtain rfl := so ho
      have d12 := dv (dep 12 _ rfl (by kernel_rfl)) (fun _ h => h) rfl
      refine wp_call1 (args := #[nilV]) rfl (by simp [Act.eval, d12]) (ci63 _ _) (clnStr_nil W) ?_
      rintro e w9 ⟨rfl, rfl⟩
      exact ⟨_, rfl, rfl, twS_keep (by decide) (b0 _) hS, fun j oj u _ _ _ _ hu => twV_keep (b0 _) hu⟩
    | 14, ho =>
      obtain rfl := so ho
      have f9 := fr 9 (by kernel_rfl)
      unfold Oper.wp
      simp [go_sem, f9]
      exact ⟨_, rfl, rfl, twS_keep (by decide) (b0 _) hS, fun j oj u _ _ _ _ hu => twV_keep (b0 _) hu⟩
    | 15, ho =>
      obtain rfl := so ho
      have d14 := dv (dep 14 _ rfl (by kernel_rfl)) (fun _ h => h) rfl
      unfold Oper.wp
      simp [go_sem, d14]
      exact ⟨_, rfl, rfl, twS_keep (by decide) (b0 _) hS, fun j oj u _ _ _ _ hu => twV_keep (b0 _) hu⟩
    | 16, ho =>
      obtain rfl := so ho
      have d15 := dv (dep 15 _ rfl (by kernel_rfl)) (fun _ h => h) rfl
      unfold Oper.wp
      simp [go_sem, d15]
      exact ⟨_, rfl, rfl, twS_keep (by decide) (b0 _) hS, fun j oj u _ _ _ _ hu => twV_keep (b0 _) hu⟩
    | 17, ho =>
      obtain rfl := so ho
      have d16 := dv (dep 16 _ rfl (by kernel_rfl)) (fun _ h => h) rfl
      obtain ⟨hbt, b0_, c0_, hrw, hn0, hn1⟩ := id hS
      have hc := hrw.at_ 7 _ rfl
      unfold Oper.wp
      simp [go_sem, d16, hc]
      exact ⟨_, rfl, rfl, twS_keep (by decide) (b0 _) hS, fun j oj u _ _ _ _ hu => twV_keep (b0 _) hu⟩
    | 18, ho =>
      obtain rfl := so ho
      have d17 := dv (dep 17 _ rfl (by kernel_rfl)) (fun _ h => h) rfl
      refine wp_call1 (args := #[nilV]) rfl (by simp [Act.eval, d17]) (ci63 _ _) (clnStr_nil W) ?_
      rintro e w9 ⟨rfl, rfl⟩
      exact ⟨_, rfl, rfl, twS_keep (by decide) (b0 _) hS, fun j oj u _ _ _ _ hu => twV_keep (b0 _) hu⟩
    | 19, ho =>
      obtain rfl := so ho
      have f9 := fr 9 (by kernel_rfl)
      unfold Oper.wp
      simp [go_sem, f9]
      exact ⟨_, rfl, rfl, twS_keep (by decide) (b0 _) hS, fun j oj u _ _ _ _ hu => twV_keep (b0 _) hu⟩
    | 20, ho =>
      obtain rfl := so ho
      have d19 := dv (dep 19 _ rfl (by kernel_rfl)) (fun _ h => h) rfl
      unfold Oper.wp
      simp [go_sem, d19]
      exact ⟨_, rfl, rfl, twS_keep (by decide) (b0 _) hS, fun j oj u _ _ _ _ hu => twV_keep (b0 _) hu⟩
    | 21, ho =>
      obtain rfl := so ho
      have d20 := dv (dep 20 _ rfl (by kernel_rfl)) (fun _ h => h) rfl
      unfold Oper.wp
      simp [go_sem, d20]
      exact ⟨_, rfl, rfl, twS_keep (by decide) (b0 _) hS, fun j oj u _ _ _ _ hu => twV_keep (b0 _) hu⟩
    | 22, ho =>
      obtain rfl := so ho
      have d21 := dv (dep 21 _ rfl (by kernel_rfl)) (fun _ h => h) rfl
      obtain ⟨hbt, b0_, c0_, hrw, hn0, hn1⟩ := id hS
      have hc := hrw.at_ 8 _ rfl
      unfold Oper.wp
      simp [go_sem, d21, hc]
      exact ⟨_, rfl, rfl, twS_keep (by decide) (b0 _) hS, fun j oj u _ _ _ _ hu => twV_keep (b0 _) hu⟩
    | 23, ho =>
      obtain rfl := so ho
      have d22 := dv (dep 22 _ rfl (by kernel_rfl)) (fun _ h => h) rfl
      refine wp_call1 (args := #[nilV]) rfl (by simp [Act.eval, d22]) (ci176 _ _) (clnSta_nil W) ?_
      rintro e w9 ⟨rfl, rfl⟩
      exact ⟨_, rfl, rfl, twS_keep (by decide) (b0 _) hS, fun j oj u _ _ _ _ hu => twV_keep (b0 _) hu⟩
    | 24, ho =>
      obtain rfl := so ho
      have d0 := dv (dep 0 _ rfl (by kernel_rfl)) (fun _ h => h) rfl
      unfold Oper.wp
      simp [go_sem, d0]
      exact ⟨_, rfl, rfl, twS_keep (by decide) (b0 _) hS, fun j oj u _ _ _ _ hu => twV_keep (b0 _) hu⟩
    | 25, ho =>
      obtain rfl := so ho
      have d24 := dv (dep 24 _ rfl (by kernel_rfl)) (fun _ h => h) rfl
      unfold Oper.wp
      simp [go_sem, d24]
      exact ⟨_, rfl, rfl, twS_keep (by decide) (b0 _) hS, fun j oj u _ _ _ _ hu => twV_keep (b0 _) hu⟩
    | 26, ho =>
      obtain rfl := so ho
      have d25 := dv (dep 25 _ rfl (by kernel_rfl)) (fun _ h => h) rfl
      obtain ⟨_, v8, ⟨b, c, rfl, hc, hlo, hR⟩, d8⟩ := dep 8 _ rfl (by kernel_rfl)
      have d8 := d8 123 rfl
      obtain ⟨_, b0_, c0_, hrw, _⟩ := id hS
      have hf := hrw.fz 4
      have hq := hrw.at_ 4 _ rfl
      unfold Oper.wp
      simp [go_sem, d25, d8, hf, hq]
      exact ⟨undef, rfl, trivial, twS_pat hl hr5 hc hlo hR hS, fun j oj u _ _ _ _ hu => twV_store hr5 _ _ hu⟩
    | 27, ho =>
      obtain rfl := so ho
      have d1 := dv (dep 1 _ rfl (by kernel_rfl)) (fun _ h => h) rfl
      unfold Oper.wp
      simp [go_sem, d1]
      exact ⟨_, rfl, rfl, twS_keep (by decide) (b0 _) hS, fun j oj u _ _ _ _ hu => twV_keep (b0 _) hu⟩
    | 28, ho =>
      obtain rfl := so ho
      have d27 := dv (dep 27 _ rfl (by kernel_rfl)) (fun _ h => h) rfl
      unfold Oper.wp
      simp [go_sem, d27]
      exact ⟨_, rfl, rfl, twS_keep (by decide) (b0 _) hS, fun j oj u _ _ _ _ hu => twV_keep (b0 _) hu⟩
    | 29, ho =>
      obtain rfl := so ho
      have d28 := dv (dep 28 _ rfl (by kernel_rfl)) (fun _ h => h) rfl
      have d13 := dv (dep 13 _ rfl (by kernel_rfl)) (fun _ h => h) rfl
      obtain ⟨_, b0_, c0_, hrw, _⟩ := id hS
      have hf := hrw.fz 6
      have hq := hrw.at_ 6 _ rfl
      unfold Oper.wp
      simp [go_sem, d28, d13, hf, hq]
      exact ⟨undef, rfl, trivial, twS_nil (by decide) hr5 6 _ (by decide) (fun _ _ => rfl) hS, fun j oj u _ _ _ _ hu => twV_store hr5 _ _ hu⟩
    | 30, ho =>
      obtain rfl := so ho
      have d2 := dv (dep 2 _ rfl (by kernel_rfl)) (fun _ h => h) rfl
      unfold Oper.wp
      simp [go_sem, d2]
      exact ⟨_, rfl, rfl, twS_keep (by decide) (b0 _) hS, fun j oj u _ _ _ _ hu => twV_keep (b0 _) hu⟩
    | 31, ho =>
      obtain rfl := so ho
      have d30 := dv (dep 30 _ rfl (by kernel_rfl)) (fun _ h => h) rfl
      unfold Oper.wp
      simp [go_sem, d30]
      exact ⟨_, rfl, rfl, twS_keep (by decide) (b0 _) hS, fun j oj u _ _ _ _ hu => twV_keep (b0 _) hu⟩
    | 32, ho =>
      obtain rfl := so ho
      have d31 := dv (dep 31 _ rfl (by kernel_rfl)) (fun _ h => h) rfl
      have d18 := dv (dep 18 _ rfl (by kernel_rfl)) (fun _ h => h) rfl
      obtain ⟨_, b0_, c0_, hrw, _⟩ := id hS
      have hf := hrw.fz 7
      have hq := hrw.at_ 7 _ rfl
      unfold Oper.wp
      simp [go_sem, d31, d18, hf, hq]
      exact ⟨undef, rfl, trivial, twS_nil (by decide) hr5 7 _ (by decide) (fun _ _ => rfl) hS, fun j oj u _ _ _ _ hu => twV_store hr5 _ _ hu⟩
    | 33, ho =>
      obtain rfl := so ho
      have d3 := dv (dep 3 _ rfl (by kernel_rfl)) (fun _ h => h) rfl
      unfold Oper.wp
      simp [go_sem, d3]
      exact ⟨_, rfl, rfl, twS_keep (by decide) (b0 _) hS, fun j oj u _ _ _ _ hu => twV_keep (b0 _) hu⟩
    | 34, ho =>
      obtain rfl := so ho
      have d33 := dv (dep 33 _ rfl (by kernel_rfl)) (fun _ h => h) rfl
      unfold Oper.wp
      simp [go_sem, d33]
      exact ⟨_, rfl, rfl, twS_keep (by decide) (b0 _) hS, fun j oj u _ _ _ _ hu => twV_keep (b0 _) hu⟩
    | 35, ho =>
      obtain rfl := so ho
      have d34 := dv (dep 34 _ rfl (by kernel_rfl)) (fun _ h => h) rfl
      have d23 := dv (dep 23 _ rfl (by kernel_rfl)) (fun _ h => h) rfl
      obtain ⟨_, b0_, c0_, hrw, _⟩ := id hS
      have hf := hrw.fz 8
      have hq := hrw.at_ 8 _ rfl
      unfold Oper.wp
      simp [go_sem, d34, d23, hf, hq]
      exact ⟨undef, rfl, trivial, twS_nil (by decide) hr5 8 _ (by decide) (fun _ _ => rfl) hS, fun j oj u _ _ _ _ hu => twV_store hr5 _ _ hu⟩
  · intro us W6 hS hV
    obtain ⟨hbt, b, c, hrw, _, hn1⟩ := hS
    obtain ⟨hc, hlo, hR⟩ := hn1 (by rw [Array.getElem?_replicate]; rfl)
    clear hV
    replace HM : Mem w W6 [⟨b, [.int .i64 1], some 3⟩, ⟨rb, claC b c, some 113⟩, ⟨ra, roomC, some 110⟩, ⟨Z, zrC, some 58⟩, ⟨R, regC ra rc rb rd, some 58⟩] := (HM.butAdd 0 rfl hbt hrw hR hlo).erase 5
    clear hbt hrw hlo hR hn1 hr5 hp5 np
    simp only [putAll, Act.put, List.setIfInBounds_toArray, List.set_cons_zero, List.set_cons_succ, Nat.zero_add, Nat.reduceAdd]
    generalize us 0 = z0 at *
    generalize us 1 = z1 at *
    generalize us 2 = z2 at *
    generalize us 3 = z3 at *
    generalize us 4 = z4 at *
    generalize us 5 = z5 at *
    generalize us 6 = z6 at *
    generalize us 7 = z7 at *
    generalize us 8 = z8 at *
    generalize us 9 = z9 at *
    generalize us 10 = z10 at *
    generalize us 11 = z11 at *
    generalize us 12 = z12 at *
    generalize us 13 = z13 at *
    generalize us 14 = z14 at *
    generalize us 15 = z15 at *
    generalize us 16 = z16 at *
    generalize us 17 = z17 at *
    generalize us 18 = z18 at *
    generalize us 19 = z19 at *
    generalize us 20 = z20 at *
    generalize us 21 = z21 at *
    generalize us 22 = z22 at *
    generalize us 23 = z23 at *
    generalize us 24 = z24 at *
    generalize us 25 = z25 at *
    generalize us 27 = z27 at *
    generalize us 28 = z28 at *
    generalize us 30 = z30 at *
    generalize us 31 = z31 at *
    generalize us 33 = z33 at *
    generalize us 34 = z34 at *
    go_wp2_with fail
    rw [rounds_succ]
    have C := HM.facts
    simp only [facts, cellsAre, lts, apart, roomC, zrC, regC, claC, List.eraseIdx_cons_succ, List.eraseIdx_cons_zero, List.set_cons_zero, List.set_cons_succ, Nat.zero_add, Nat.reduceAdd, and_true] at C
    have F := HM.thaws
    simp only [thaws, List.eraseIdx_cons_succ, List.eraseIdx_cons_zero, List.set_cons_zero, List.set_cons_succ, Option.isSome_some, Option.isSome_none, Bool.false_eq_true, false_implies, forall_const, and_true, true_and] at F
    go_wp2_with (go_at_call 177; refine (clnCur_nil _).mono ?_; rintro e w9 ⟨rfl, rfl⟩)
    clear C F
    replace HM : Mem w _ [⟨b, [.int .i64 1], some 3⟩, ⟨rb, claC b c, some 113⟩, ⟨ra, roomC, some 110⟩, ⟨Z, zrC, some 58⟩, ⟨R, regC ra rc rb rd, some 58⟩] := HM.set 4 12 (.slice none 0 0) rfl rfl
    obtain ⟨w7, hW, HM⟩ : ∃ W, W = _ ∧ Mem _ W _ := ⟨_, rfl, HM⟩
    rw [← hW]
    clear hW
    have C := HM.facts
    simp only [facts, cellsAre, lts, apart, roomC, zrC, regC, claC, List.eraseIdx_cons_succ, List.eraseIdx_cons_zero, List.set_cons_zero, List.set_cons_succ, Nat.zero_add, Nat.reduceAdd, and_true] at C
    have F := HM.thaws
    simp only [thaws, List.eraseIdx_cons_succ, List.eraseIdx_cons_zero, List.set_cons_zero, List.set_cons_succ, Option.isSome_some, Option.isSome_none, Bool.false_eq_true, false_implies, forall_const, and_true, true_and] at F
    refine wp_loop_rounds 1 ?_
    rw [rounds_succ]
    go_wp2_with (go_at_call 178; refine (clnReq_nil _).mono ?_; rintro e w9 ⟨rfl, rfl⟩)
    clear C F
    replace HM : Mem w _ [⟨b, [.int .i64 1], some 3⟩, ⟨rb, claC b c, some 113⟩, ⟨ra, roomC, some 110⟩, ⟨Z, zrC, some 58⟩, ⟨R, regC ra rc rb rd, some 58⟩] := HM.set 4 13 (.slice none 0 0) rfl rfl
    obtain ⟨w8, hW, HM⟩ : ∃ W, W = _ ∧ Mem _ W _ := ⟨_, rfl, HM⟩
    rw [← hW]
    clear hW
    have C := HM.facts
    simp only [facts, cellsAre, lts, apart, roomC, zrC, regC, claC, List.eraseIdx_cons_succ, List.eraseIdx_cons_zero, List.set_cons_zero, List.set_cons_succ, Nat.zero_add, Nat.reduceAdd, and_true] at C
    have F := HM.thaws
    simp only [thaws, List.eraseIdx_cons_succ, List.eraseIdx_cons_zero, List.set_cons_zero, List.set_cons_succ, Option.isSome_some, Option.isSome_none, Bool.false_eq_true, false_implies, forall_const, and_true, true_and] at F
    refine wp_loop_rounds 1 ?_
    rw [rounds_succ]
    go_wp2_with fail
    clear C F
    replace HM : Mem w _ [⟨b, [.int .i64 1], some 3⟩, ⟨rb, claC b c, some 113⟩, ⟨ra, roomC, some 110⟩, ⟨Z, regC ra rc rb rd, some 58⟩] := (((((((((((((((HM.set 3 0 (.int .i64 1) rfl rfl).set 3 1 (.int .i64 1) rfl rfl).set 3 2 (.int .i64 480) rfl rfl).set 3 3 (.int .i64 45) rfl rfl).set 3 4 (.int .i64 2) rfl rfl).set 3 5 (.int .i64 1) rfl rfl).set 3 6 (.slice none 0 0) rfl rfl).set 3 7 (.slice (some ⟨ra, 0, none⟩) 1 rc) rfl rfl).set 3 8 (.slice none 0 0) rfl rfl).set 3 9 (.slice none 0 0) rfl rfl).set 3 10 (.slice none 0 0) rfl rfl).set 3 11 (.slice (some ⟨rb, 0, none⟩) 1 rd) rfl rfl).set 3 12 (.slice none 0 0) rfl rfl).set 3 13 (.slice none 0 0) rfl rfl)).erase 4
    obtain ⟨w9, hW, HM⟩ : ∃ W, W = _ ∧ Mem _ W _ := ⟨_, rfl, HM⟩
    rw [← hW]
    clear hW
    have C := HM.facts
    simp only [facts, cellsAre, lts, apart, roomC, zrC, regC, claC, List.eraseIdx_cons_succ, List.eraseIdx_cons_zero, List.set_cons_zero, List.set_cons_succ, Nat.zero_add, Nat.reduceAdd, and_true] at C
    have F := HM.thaws
    simp only [thaws, List.eraseIdx_cons_succ, List.eraseIdx_cons_zero, List.set_cons_zero, List.set_cons_succ, Option.isSome_some, Option.isSome_none, Bool.false_eq_true, false_implies, forall_const, and_true, true_and] at F
    refine bodyPost_ret (v := regV ra rc rb rd) (by simp [results, Tryz.results101, go_sem, C]) rfl ?_
    exact ⟨_, rfl, ⟨ra, rc, rb, rd, b, c, rfl, ⟨hrc, hrd, hc⟩, ⟨HM.lo 2 rfl, HM.lo 1 rfl, HM.lo 0 rfl⟩, HM.at_ 2 rfl, HM.at_ 1 rfl, HM.at_ 0 rfl⟩, HM.bl⟩
end Go.Proofs.YtcifdllbnbhcdaaGreatDoor
namespace Go.Proofs.YtcifdllbnbhcdaaGreatDoor
open Go.RowKit
theorem Mem.addReg {a w w2 : World} {l : List Blk} {br bc bp cp : Nat} (h : Mem a w l) (hb : Below w.heap.size w w2) (hlo : w.heap.size ≤ br ∧ w.heap.size ≤ bc ∧ w.heap.size ≤ bp) (h1 : At w2 br roomC) (h2 : At w2 bc (claC bp cp)) (h3 : At w2 bp [.int .i64 1]) : Mem a w2 (⟨br, roomC, none⟩ :: ⟨bc, claC bp cp, none⟩ :: ⟨bp, [.int .i64 1], none⟩ :: l) := by
  have hl := h.below hb
  have key : ∀ {b : Nat}, w.heap.size ≤ b → ∀ c ∈ l, b ≠ c.adr := fun hb c hc e => by have := (h.ok c hc).lt; omega
  refine ((hl.push (.of0 h3 (At.lt h3)) (key hlo.2.2)).push (.of0 h2 (At.lt h2)) ?_).push (.of0 h1 (At.lt h1)) ?_
  · intro c hc
    rcases List.mem_cons.1 hc with rfl | hc
    · exact At.ne h2 h3 (by simp)
    · exact key hlo.2.1 c hc
  · intro c hc
    rcases List.mem_cons.1 hc with rfl | hc
    · exact At.ne h1 h2 (by simp)
    · rcases List.mem_cons.1 hc with rfl | hc
      · exact At.ne h1 h3 (by simp)
      · exact key hlo.1 c hc
def RetRE (w : World) (e : Ending) (w2 : World) : Prop := ∃ v, e = .returned (.tuple #[v, .int .i64 0]) ∧ RegN w w2 v ∧ Below w.heap.size w w2
set_option maxRecDepth 100000 in
set_option maxHeartbeats 8000000 in
theorem appl_one (v : Value) (w : World) (h : RegAt w v) : Calls Tryz.prog 59 #[v, nilV] w (RetRE w) := by
  obtain ⟨br, cr, bc, cc, bp, cp, rfl, hcap, h1, h2, h3⟩ := h
  have HM := ((Mem.reg h1 h2 h3).alloc (regC br cr bc cc) 58).alloc zrC 58
  simp only [World.size_alloc, World.size_drew, World.size_setCell] at HM
  clear h1 h2 h3
  go_enter Tryz.func59, Tryz.ntmps59
  go_wp2_with fail
  refine (reg_ok _ _ ⟨br, cr, bc, cc, bp, cp, rfl, hcap, HM.at_ 2 rfl, HM.at_ 3 rfl, HM.at_ 4 rfl⟩).mono ?_
  rintro e w1 ⟨rfl, hb⟩
  replace HM := HM.below hb
  clear hb
  obtain ⟨Z, hZ⟩ : ∃ n : Nat, n = w.heap.size + 1 := ⟨_, rfl⟩
  rw [← hZ] at HM ⊢
  clear hZ
  obtain ⟨R, hR⟩ : ∃ n : Nat, n = w.heap.size := ⟨_, rfl⟩
  rw [← hR] at HM ⊢
  clear hR
  have HM : Mem w w1 [⟨Z, zrC, some 58⟩, ⟨R, regC br cr bc cc, some 58⟩, ⟨br, roomC, none⟩, ⟨bc, claC bp cp, none⟩, ⟨bp, [.int .i64 1], none⟩] := HM
  have C := HM.facts
  simp only [facts, cellsAre, lts, apart, roomC, zrC, regC, claC, List.eraseIdx_cons_succ, List.eraseIdx_cons_zero, List.set_cons_zero, List.set_cons_succ, Nat.zero_add, Nat.reduceAdd, and_true] at C
  have F := HM.thaws
  simp only [thaws, List.eraseIdx_cons_succ, List.eraseIdx_cons_zero, List.set_cons_zero, List.set_cons_succ, Option.isSome_some, Option.isSome_none, Bool.false_eq_true, false_implies, forall_const, and_true, true_and] at F
  go_wp2_with fail
  refine (twin_one _ _ ⟨br, cr, bc, cc, bp, cp, rfl, hcap, HM.at_ 2 rfl, HM.at_ 3 rfl, HM.at_ 4 rfl⟩).mono ?_
  rintro e w2 ⟨v2, rfl, ⟨b2, c2, d2, e2, f2, g2, rfl, hcap2, hlo, q1, q2, q3⟩, hb⟩
  have hs1 := HM.bl.size
  have HM : Mem w w2 [⟨b2, roomC, none⟩, ⟨d2, claC f2 g2, none⟩, ⟨f2, [.int .i64 1], none⟩, ⟨Z, zrC, some 58⟩] := (((HM.addReg hb hlo q1 q2 q3).erase 7).erase 6 |>.erase 5).erase 4
  have hl2 : w.heap.size ≤ b2 ∧ w.heap.size ≤ d2 ∧ w.heap.size ≤ f2 := by omega
  clear hb q1 q2 q3 C F
  have C := HM.facts
  simp only [facts, cellsAre, lts, apart, roomC, zrC, regC, claC, List.eraseIdx_cons_succ, List.eraseIdx_cons_zero, List.set_cons_zero, List.set_cons_succ, Nat.zero_add, Nat.reduceAdd, and_true] at C
  have F := HM.thaws
  simp only [thaws, List.eraseIdx_cons_succ, List.eraseIdx_cons_zero, List.set_cons_zero, List.set_cons_succ, Option.isSome_some, Option.isSome_none, Bool.false_eq_true, false_implies, forall_const, and_true, true_and] at F
  go_wp2_with fail
  refine wp_loop_rounds 1 ?_
  rw [rounds_succ]
  go_wp2_with fail
  clear C F
  replace HM := Mem.alloc ((((((((((((((HM.set 3 0 (.int .i64 1) rfl rfl).set 3 1 (.int .i64 1) rfl rfl).set 3 2 (.int .i64 480) rfl rfl).set 3 3 (.int .i64 45) rfl rfl).set 3 4 (.int .i64 2) rfl rfl).set 3 5 (.int .i64 1) rfl rfl).set 3 6 (.slice none 0 0) rfl rfl).set 3 7 (.slice (some ⟨b2, 0, none⟩) 1 c2) rfl rfl).set 3 8 (.slice none 0 0) rfl rfl).set 3 9 (.slice none 0 0) rfl rfl).set 3 10 (.slice none 0 0) rfl rfl).set 3 11 (.slice (some ⟨d2, 0, none⟩) 1 e2) rfl rfl).set 3 12 (.slice none 0 0) rfl rfl).set 3 13 (.slice none 0 0) rfl rfl) (regC b2 c2 d2 e2) 58
  simp only [World.size_alloc, World.size_drew, World.size_setCell] at HM
  replace HM : Mem w _ [⟨w2.heap.size, regC b2 c2 d2 e2, some 58⟩, ⟨b2, roomC, none⟩, ⟨d2, claC f2 g2, none⟩, ⟨f2, [.int .i64 1], none⟩, ⟨Z, regC b2 c2 d2 e2, some 58⟩] := HM
  obtain ⟨w3, hW, HM⟩ : ∃ W, W = _ ∧ Mem _ W _ := ⟨_, rfl, HM⟩
  simp only [regC] at hW
  rw [← hW]
  clear hW
  have C := HM.facts
  simp only [facts, cellsAre, lts, apart, roomC, zrC, regC, claC, List.eraseIdx_cons_succ, List.eraseIdx_cons_zero, List.set_cons_zero, List.set_cons_succ, Nat.zero_add, Nat.reduceAdd, and_true] at C
  have F := HM.thaws
  simp only [thaws, List.eraseIdx_cons_succ, List.eraseIdx_cons_zero, List.set_cons_zero, List.set_cons_succ, Option.isSome_some, Option.isSome_none, Bool.false_eq_true, false_implies, forall_const, and_true, true_and] at F
  refine bodyPost_ret (v := .tuple #[regV b2 c2 d2 e2, .int .i64 0]) (by simp [results, Tryz.results59, go_sem, C]) rfl ?_
  exact ⟨_, rfl, ⟨b2, c2, d2, e2, f2, g2, rfl, hcap2, hl2, HM.at_ 1 rfl, HM.at_ 2 rfl, HM.at_ 3 rfl⟩, HM.bl⟩
end Go.Proofs.YtcifdllbnbhcdaaGreatDoor
