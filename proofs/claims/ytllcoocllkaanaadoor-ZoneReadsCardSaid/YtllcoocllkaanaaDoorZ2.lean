import Derived.Test.YtllcoocllkaanaaDoorZ1
namespace Go.Proofs.YtllcoocllkaanaaDoor
open Go.RowKit

/-- The cells of a zone in its box. -/
def ZBox (wr : World) (b : Nat) (s : ByteArray) (off : Int) (sv : Value) : Prop := wr.cell? ⟨b, 0, none⟩ = some (.string s) ∧ wr.cell? ⟨b, 1, none⟩ = some (.int .i64 off) ∧ wr.cell? ⟨b, 2, none⟩ = some sv

def VldP (s : ByteArray) (off : Int) (xs : Prs) (w : World) (e : Ending) (w' : World) : Prop := RetB (.int .i64 (vldE s.data.toList off xs)) w e w'

theorem VldP.mk {s : ByteArray} {off : Int} {xs : Prs} {w w' : World} {c : Int} (h : vldE s.data.toList off xs = c) (hb : Below w.heap.size w w') : VldP s off xs w (.returned (.int .i64 c)) w' := ⟨by rw [h], hb⟩

set_option maxRecDepth 100000 in
theorem valid_early (s : ByteArray) (hs : s.size ≤ 9223372036854775807) (off : Int) (a : Option Addr) (n cap : Nat) (xs : Prs) (hn : n = xs.length) (hn2 : n ≤ 9223372036854775807) (w : World)
    (h : codeOk s.data.toList = false ∨ nearI off = false ∨ 64 < n) :
    Calls Tryd.prog 20 #[.agg #[.string s, .int .i64 off, .slice a n cap]] w (VldP s off xs w) := by
  have C := Lib.hid (fun w => code_any s hs w)
  have N := Lib.hid (fun w => near_any off w)
  have B := Lib.hid (fun o => ((Below.refl w.heap.size w).alloc (Nat.le_refl _) o))
  cases hc : codeOk s.data.toList
  · rw [hc] at C
    have F := Lib.hid (fun w' => VldP.mk (s := s) (off := off) (xs := xs) (w := w) (w' := w') (c := 10) (by unfold vldE; rw [if_pos hc]))
    clear h hc
    go_enter Tryd.func20, Tryd.ntmps20
    go_wp2_with (first | (go_at_call 38; refine (C.out _).mono ?_; rintro e w' ⟨rfl, rfl⟩) | fail)
    go_ret
    exact F.out _ (B.out _)
  · rw [hc] at C
    cases ho : nearI off
    · rw [ho] at N
      have F := Lib.hid (fun w' => VldP.mk (s := s) (off := off) (xs := xs) (w := w) (w' := w') (c := 3) (by unfold vldE; rw [if_neg (by simp [hc]), if_pos ho]))
      clear h hc ho
      go_enter Tryd.func20, Tryd.ntmps20
      go_wp2_with (first | (go_at_call 38; refine (C.out _).mono ?_; rintro e w' ⟨rfl, rfl⟩) | (go_at_call 39; refine (N.out _).mono ?_; rintro e w' ⟨rfl, rfl⟩))
      go_ret
      exact F.out _ (B.out _)
    · rw [ho] at N
      have h64 : 64 < n := by rcases h with h | h | h; rw [hc] at h; cases h; rw [ho] at h; cases h; exact h
      have F := Lib.hid (fun w' => VldP.mk (s := s) (off := off) (xs := xs) (w := w) (w' := w') (c := 2) (by unfold vldE; rw [if_neg (by simp [hc]), if_neg (by simp [ho]), if_pos (by omega)]))
      clear h hc ho hn
      go_enter Tryd.func20, Tryd.ntmps20
      go_wp2_with (first | (go_at_call 38; refine (C.out _).mono ?_; rintro e w' ⟨rfl, rfl⟩) | (go_at_call 39; refine (N.out _).mono ?_; rintro e w' ⟨rfl, rfl⟩))
      go_ret
      exact F.out _ (B.out _)

/-- The loop of the shifts: the state at j. -/
def paAt (xs : Prs) (j : Nat) : Int := if j = 0 then -2880 else (xs.getD (j - 1) (0, 0)).1
def poAt (off : Int) (xs : Prs) (j : Nat) : Int := if j = 0 then off else (xs.getD (j - 1) (0, 0)).2

set_option maxHeartbeats 2000000 in
set_option maxRecDepth 100000 in
theorem valid_late (s : ByteArray) (hs : s.size ≤ 9223372036854775807) (off : Int) (b of cap : Nat) (xs : Prs) (w : World) (hP : PCells w b of xs)
    (hc : codeOk s.data.toList = true) (ho : nearI off = true) (hn : xs.length ≤ 64) :
    Calls Tryd.prog 20 #[.agg #[.string s, .int .i64 off, .slice (some ⟨b, of, none⟩) xs.length cap]] w (VldP s off xs w) := by
  have C := Lib.hid (fun w => code_any s hs w)
  rw [hc] at C
  have N := Lib.hid (fun o w => near_any o w)
  have NO := Lib.hid (fun w => near_any off w)
  rw [ho] at NO
  have I := Lib.hid (fun n w => instant_any n w)
  have B := Lib.hid (fun o => ((Below.refl w.heap.size w).alloc (Nat.le_refl _) o))
  have F := Lib.hid (fun c w' (h : shE off (-2880) xs = c) => VldP.mk (s := s) (off := off) (xs := xs) (w := w) (w' := w') (c := c) (by unfold vldE; rw [if_neg (by simp [hc]), if_neg (by simp [ho]), if_neg (by omega)]; exact h))
  have HP := Lib.hid hP
  rw [nearI_iff] at ho
  obtain ⟨ho1, ho2⟩ := ho
  have hbw : ∀ j, j < xs.length → b < w.heap.size := fun j hj => lt_of_cell (hP j hj).1
  have HBW := Lib.hid hbw
  generalize hL : xs.length = len at *
  have HL := Lib.hid hL
  clear hc hP hbw hL
  go_enter Tryd.func20, Tryd.ntmps20
  go_wp2_with (first | (go_at_call 38; refine (C.out _).mono ?_; rintro e w' ⟨rfl, rfl⟩) | (go_at_call 39; refine (NO.out _).mono ?_; rintro e w' ⟨rfl, rfl⟩))
  have z0 : w.heap.size < (w.alloc (.cells #[.string s, .int .i64 off, .slice (some ⟨b, of, none⟩) len cap] 24)).heap.size := by simp
  have B0 := Lib.hid ((Below.refl w.heap.size w).alloc (Nat.le_refl _) (.cells #[.string s, .int .i64 off, .slice (some ⟨b, of, none⟩) len cap] 24))
  have Z2 : (w.alloc (.cells #[.string s, .int .i64 off, .slice (some ⟨b, of, none⟩) len cap] 24)).cell? ⟨w.heap.size, 2, none⟩ = some (.slice (some ⟨b, of, none⟩) len cap) := by rw [World.cell?_alloc_at _ _ _ _ rfl]; rfl
  have HZ2 := Lib.hid Z2
  have HP0 := Lib.hid (HP.out.below B0.out)
  clear Z2
  generalize (w.alloc (.cells #[.string s, .int .i64 off, .slice (some ⟨b, of, none⟩) len cap] 24)) = w0 at *
  go_loopw [3, 4, 5, 26] (fun ov _ _ i wr => ∃ j : Nat, j ≤ len ∧ i = .int .i64 j ∧ ov = .int .i64 (poAt off xs j) ∧ (-840 ≤ poAt off xs j ∧ poAt off xs j ≤ 840) ∧ (-2880 ≤ paAt xs j ∧ paAt xs j ≤ 52596000) ∧ Hid (shE off (-2880) xs = shE (poAt off xs j) (paAt xs j) (xs.drop j)) ∧ Below w0.heap.size w0 wr) (fun _ _ _ i _ => len - (intOf i).toNat)
  case atStart => exact ⟨0, Nat.zero_le _, rfl, rfl, ⟨ho1, ho2⟩, by simp [paAt], Lib.hid rfl, Below.refl _ _⟩
  case round =>
    obtain ⟨j, hj, rfl, rfl, ⟨p1, p2⟩, ⟨a1, a2⟩, HE, hb⟩ := hrel
    have HB := Lib.hid hb
    by_cases hlt : j < len
    · obtain ⟨c1, c2⟩ := (HP0.out.below hb) j (by rw [HL.out]; exact hlt)
      have hlt' : j < xs.length := by have := HL.out; omega
      have e3 := Lib.hid (fun h => shE_bad (po := poAt off xs j) (pa := paAt xs j) hlt' h)
      have e63 := Lib.hid (fun h1 h2 h => shE_order (po := poAt off xs j) (pa := paAt xs j) hlt' h1 h2 h)
      have e1 := Lib.hid (fun h1 h2 h3 h => shE_step (po := poAt off xs j) (pa := paAt xs j) hlt' h1 h2 h3 h)
      have eo := Lib.hid (fun h1 h2 h3 h => shE_on (po := poAt off xs j) (pa := paAt xs j) hlt' h1 h2 h3 h)
      have npo : poAt off xs (j + 1) = (xs.getD j (0, 0)).2 := by simp [poAt]
      have npa : paAt xs (j + 1) = (xs.getD j (0, 0)).1 := by simp [paAt]
      have FR : Hid (∀ c w', shE (poAt off xs j) (paAt xs j) (xs.drop j) = c → Below w0.heap.size w0 w' → VldP s off xs w (.returned (.int .i64 c)) w') := Lib.hid (fun c w' h hb' => F.out c w' (by rw [HE.out]; exact h) (B0.out.trans (hb'.mono (by omega))))
      have hbs := hb.size
      have BN := Lib.hid (fun o => hb.alloc hb.size o)
      have hpa : 0 < j → wr.cell? ⟨b, of + (j - 1) * 2, none⟩ = some (.int .i64 (paAt xs j)) ∧ b < wr.heap.size := fun h => by
        obtain ⟨d1, _⟩ := (HP0.out.below hb) (j - 1) (by omega)
        unfold paAt
        rw [if_neg (by omega)]
        exact ⟨d1, lt_of_cell d1⟩
      have hz2 : wr.cell? ⟨w.heap.size, 2, none⟩ = some (.slice (some ⟨b, of, none⟩) len cap) := by rw [hb.cell z0]; exact HZ2.out
      have HPA := Lib.hid hpa
      have hzw : w.heap.size < wr.heap.size := by omega
      have hpa0 : Hid (j ≤ 0 → paAt xs j = -2880) := Lib.hid (fun h => by unfold paAt; rw [if_pos (by omega)])
      clear hpa hb hlt'
      generalize (xs.getD j (0, 0)).1 = x at *
      generalize (xs.getD j (0, 0)).2 = o at *
      generalize poAt off xs j = po at *
      generalize hpaj : paAt xs j = pa at *
      have NPO := Lib.hid npo
      have NPA := Lib.hid npa
      clear npo npa hpaj
      cases hi : isI x
      · have FF := Lib.hid (FR.out 3 _ (e3.out (Or.inl hi)) (BN.out (.cells #[.int .i64 x, .int .i64 o] 43)))
        go_wp2_with (first | (go_at_call 35; refine (I.out _ _).mono ?_; rintro e w' ⟨rfl, rfl⟩; rw [hi]) | (go_at_call 39; refine (N.out _ _).mono ?_; rintro e w' ⟨rfl, rfl⟩))
        go_ret
        exact FF.out
      cases hn2 : nearI o
      · have FF := Lib.hid (FR.out 3 _ (e3.out (Or.inr hn2)) (BN.out (.cells #[.int .i64 x, .int .i64 o] 43)))
        go_wp2_with (first | (go_at_call 35; refine (I.out _ _).mono ?_; rintro e w' ⟨rfl, rfl⟩; rw [hi]) | (go_at_call 39; refine (N.out _ _).mono ?_; rintro e w' ⟨rfl, rfl⟩; rw [hn2]))
        go_ret
        exact FF.out
      have hxi0 := isI_iff.1 hi
      obtain ⟨x0, x1⟩ := hxi0
      have BNW : Hid (∀ nq, Below w0.heap.size w0 ((wr.alloc (.cells #[.int .i64 x, .int .i64 o] 43)).drewN nq)) := Lib.hid (fun nq => (BN.out _).trans ⟨rfl, rfl, rfl, Nat.le_refl _, fun _ _ => rfl⟩)
      rcases (show j ≤ 0 ∨ 0 < j from by omega) with h0 | h0
      · have hord : ¬ x < pa + 2880 := by rw [hpa0.out h0]; omega
        have HO := Lib.hid hord
        have d0 : decide (0 < j) = false := by simp; omega
        clear hord
        go_wp2_with (first | (go_at_call 35; refine (I.out _ _).mono ?_; rintro e w' ⟨rfl, rfl⟩; rw [hi]) | (go_at_call 39; refine (N.out _ _).mono ?_; rintro e w' ⟨rfl, rfl⟩; rw [hn2]))
        go_quiet (fail)
        have BW := Lib.hid (BNW.out nq)
        have BW0 := BW
        have hord := HO.out
        by_cases t1 : o = po
        · have q1 : (o == po) = true := by simpa using t1
          have FF := Lib.hid (FR.out 1 _ (e1.out hi hn2 hord (Or.inl t1)) BW.out)
          clear t1
          go_wp2
          go_ret
          exact FF.out
        have q1 : (o == po) = false := by simpa using t1
        by_cases t2 : po + 180 < o
        · have FF := Lib.hid (FR.out 1 _ (e1.out hi hn2 hord (Or.inr (Or.inl t2))) BW.out)
          go_wp2
          go_ret
          exact FF.out
        by_cases t3 : o < po - 180
        · have FF := Lib.hid (FR.out 1 _ (e1.out hi hn2 hord (Or.inr (Or.inr t3))) BW.out)
          go_wp2
          go_ret
          exact FF.out
        have hxi := isI_iff.1 hi
        have hon := nearI_iff.1 hn2
        have EN := Lib.hid (eo.out hi hn2 hord (by rintro (h | h | h); exact t1 h; exact t2 h; exact t3 h))
        clear t1
        go_wp2
        go_round
        case rel =>
          refine ⟨j + 1, by omega, by go_num, by rw [NPO.out], by rw [NPO.out]; exact hon, by rw [NPA.out]; omega, Lib.hid ?_, BW0.out⟩
          rw [HE.out, EN.out, NPO.out, NPA.out]
        case measure => simp [intOf]; omega
      · obtain ⟨k2, kb⟩ := HPA.out h0
        have k1 : (wr.alloc (.cells #[.int .i64 x, .int .i64 o] 43)).cell? ⟨w.heap.size, 2, none⟩ = some (.slice (some ⟨b, of, none⟩) len cap) := by rw [World.cell?_alloc_past _ _ _ hzw]; exact hz2
        have y1 : IntKind.i64.wrap ((j : Int) - 1) = (j : Int) - 1 := IntWalk.i64_in _ (by omega)
        have y2 : IntKind.i64.wrap (pa + 2880) = pa + 2880 := IntWalk.i64_in _ (by omega)
        have y3 : (0 : Int) ≤ (j : Int) - 1 := by omega
        have y4 : (j : Int) - 1 < len := by omega
        by_cases hord : x < pa + 2880
        · have d1 : decide (x < pa + 2880) = true := by simpa using hord
          have E63 := Lib.hid (e63.out hi hn2 hord)
          clear hord
          go_wp2_with (first | (go_at_call 35; refine (I.out _ _).mono ?_; rintro e w' ⟨rfl, rfl⟩; rw [hi]) | (go_at_call 39; refine (N.out _ _).mono ?_; rintro e w' ⟨rfl, rfl⟩; rw [hn2]))
          go_quiet (fail)
          have BW := Lib.hid (BNW.out nq)
          have FF := Lib.hid (FR.out 63 _ E63.out BW.out)
          clear y1 y2 y3 y4
          go_wp2
          go_ret
          exact FF.out
        · have d1 : decide (x < pa + 2880) = false := by simpa using hord
          have HO := Lib.hid hord
          clear hord
          go_wp2_with (first | (go_at_call 35; refine (I.out _ _).mono ?_; rintro e w' ⟨rfl, rfl⟩; rw [hi]) | (go_at_call 39; refine (N.out _ _).mono ?_; rintro e w' ⟨rfl, rfl⟩; rw [hn2]))
          go_quiet (fail)
          have BW := Lib.hid (BNW.out nq)
          have BW0 := BW
          have hord := HO.out
          clear y1 y2 y3 y4 d1
          by_cases t1 : o = po
          · have q1 : (o == po) = true := by simpa using t1
            have FF := Lib.hid (FR.out 1 _ (e1.out hi hn2 hord (Or.inl t1)) BW.out)
            clear t1
            go_wp2
            go_ret
            exact FF.out
          have q1 : (o == po) = false := by simpa using t1
          by_cases t2 : po + 180 < o
          · have FF := Lib.hid (FR.out 1 _ (e1.out hi hn2 hord (Or.inr (Or.inl t2))) BW.out)
            go_wp2
            go_ret
            exact FF.out
          by_cases t3 : o < po - 180
          · have FF := Lib.hid (FR.out 1 _ (e1.out hi hn2 hord (Or.inr (Or.inr t3))) BW.out)
            go_wp2
            go_ret
            exact FF.out
          have hxi := isI_iff.1 hi
          have hon := nearI_iff.1 hn2
          have EN := Lib.hid (eo.out hi hn2 hord (by rintro (h | h | h); exact t1 h; exact t2 h; exact t3 h))
          clear t1
          go_wp2
          go_round
          case rel =>
            refine ⟨j + 1, by omega, by go_num, by rw [NPO.out], by rw [NPO.out]; exact hon, by rw [NPA.out]; omega, Lib.hid ?_, BW0.out⟩
            rw [HE.out, EN.out, NPO.out, NPA.out]
          case measure => simp [intOf]; omega
    · have FF := Lib.hid (F.out 0 wr (by rw [HE.out, List.drop_of_length_le (by have := HL.out; omega)]; rfl) (B0.out.trans (HB.out.mono (by omega))))
      go_wp2
      go_ret
      exact FF.out

end Go.Proofs.YtllcoocllkaanaaDoor
