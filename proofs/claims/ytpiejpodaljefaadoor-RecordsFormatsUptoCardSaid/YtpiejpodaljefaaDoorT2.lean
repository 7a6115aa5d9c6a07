import Derived.Test.YtpiejpodaljefaaDoorT1
import Derived.Test.YtpiejpodaljefaaDoorS1
import Derived.Test.YtpiejpodaljefaaDoorS3
namespace Go.Proofs.YtpiejpodaljefaaDoor
open Go.RowKit

/-- a row that is not empty lies in a block -/
theorem row_at {w : World} {B e s n : Nat} {v : Value} {xs : List Value} (h : w.ownsRow B e s v n xs) (hn : 0 < n) : ∃ g cap, v = .slice (some ⟨g, 0, none⟩) n cap ∧ n ≤ cap ∧ cap ≤ 9223372036854775807 ∧ ∀ i x, xs[i]? = some x → w.cell? ⟨g, i, none⟩ = some x := by
  have h' := h
  rcases h.2 with ⟨rfl, h0⟩ | ⟨g, cap, cur, rfl, _, hg, hle, hm, _⟩
  · omega
  · refine ⟨g, cap, rfl, hle, by unfold maxLen at hm; omega, fun i x hx => ?_⟩
    have hi : i < xs.length := (List.getElem?_eq_some_iff.1 hx).1
    rw [h'.cellAt i (by rw [← h.1]; exact hi)]
    exact hx
theorem probs_len {w : World} {B : Nat} {v : Value} {P : List Prb} (h : ProbsW w B v P) : ∃ a c, v = .slice a P.length c ∧ P.length ≤ c ∧ c ≤ 9223372036854775807 := own_slice h

set_option maxRecDepth 100000 in
set_option maxHeartbeats 2000000 in
theorem sameProblems_any (va vb : Value) (B1 B2 : Nat) (P : List Prb) (w : World) (h1 : ProbsW w B1 va P) (h2 : ProbsW w B2 vb P) :
    Calls Tryd.prog 30 #[va, vb] w (RetQ (.bool true) w) := by
  have H1 := Lib.hid h1
  have H2 := Lib.hid h2
  obtain ⟨a1, c1, rfl, hc1, hc2⟩ := probs_len h1
  obtain ⟨a2, c2, rfl, hd1, hd2⟩ := probs_len h2
  clear h1 h2
  go_enter Tryd.func30, Tryd.ntmps30
  go_wp2
  go_loopw [5] (fun i wr => ∃ k n : Nat, k ≤ P.length ∧ i = .int .i64 k ∧ wr = w.drewN n) (fun i _ => P.length - (intOf i).toNat)
  case atStart => exact ⟨0, 0, by omega, rfl, rfl⟩
  case round =>
    obtain ⟨k, n, hk, rfl, rfl⟩ := hrel
    by_cases hlt : k < P.length
    · obtain ⟨g1, p1, e1, _, _, r1⟩ := row_at H1.out (by omega)
      obtain ⟨g2, p2, e2, _, _, r2⟩ := row_at H2.out (by omega)
      obtain ⟨u0, u1, u2, u3⟩ := pcellsP_at P k hlt
      have x0 := r1 _ _ u0; have x1 := r1 _ _ u1; have x2 := r1 _ _ u2; have x3 := r1 _ _ u3
      have y0 := r2 _ _ u0; have y1 := r2 _ _ u1; have y2 := r2 _ _ u2; have y3 := r2 _ _ u3
      clear r1 r2 u0 u1 u2 u3
      cases e1
      cases e2
      generalize (P[k]).1 = z1 at *
      generalize (P[k]).2.1 = z2 at *
      generalize (P[k]).2.2 = z3 at *
      go_wp2_with fail
      go_quiet (fail)
      go_wp2_with fail
      go_roundw
      case rel => exact ⟨k + 1, _, by omega, by go_num, rfl⟩
      case measure => simp [intOf]; omega
    · go_wp2
      go_ret
      exact ⟨rfl, _, rfl⟩

set_option maxRecDepth 100000 in
set_option maxHeartbeats 4000000 in
theorem same_any (va vb : Value) (B1 B2 : Nat) (R : List Rcd) (w : World) (h1 : RecsW w B1 va R) (h2 : RecsW w B2 vb R) :
    Calls Tryd.prog 29 #[va, vb] w (RetQ (.bool true) w) := by
  obtain ⟨L1, rfl, h1, f1⟩ := h1
  obtain ⟨L2, hL, h2, f2⟩ := h2
  have hlen : L2.length = L1.length := by have := congrArg List.length hL; simpa using this
  rw [hlen] at h2
  have H1 := Lib.hid h1
  have H2 := Lib.hid h2
  have F1 := Lib.hid f1
  have F2 := Lib.hid f2
  have HL := Lib.hid hL
  have HLEN := Lib.hid hlen
  obtain ⟨a1, c1, rfl, hc1, hc2⟩ := own_slice h1
  obtain ⟨a2, c2, rfl, hd1, hd2⟩ := own_slice h2
  clear h1 h2 f1 f2 hL hlen
  go_enter Tryd.func29, Tryd.ntmps29
  go_wp2
  go_loopw [5] (fun i wr => ∃ k n : Nat, k ≤ L1.length ∧ i = .int .i64 k ∧ wr = w.drewN n) (fun i _ => L1.length - (intOf i).toNat)
  case atStart => exact ⟨0, 0, by omega, rfl, rfl⟩
  case round =>
    obtain ⟨k, n, hk, rfl, rfl⟩ := hrel
    by_cases hlt : k < L1.length
    · have hlt2 : k < L2.length := by rw [HLEN.out]; exact hlt
      have hR : (L2[k]).1 = (L1[k]).1 := by
        have e : (L2.map (·.1))[k]? = (L1.map (·.1))[k]? := by rw [HL.out]
        simpa [List.getElem?_eq_getElem hlt, List.getElem?_eq_getElem hlt2] using e
      obtain ⟨g1, p1, e1, _, _, r1⟩ := row_at H1.out (by omega)
      obtain ⟨g2, p2, e2, _, _, r2⟩ := row_at H2.out (by omega)
      cases e1
      cases e2
      obtain ⟨u0, u1⟩ := rcells_at L1 k hlt
      obtain ⟨v0, v1⟩ := rcells_at L2 k hlt2
      have x0 := r1 _ _ u0; have x1 := r1 _ _ u1
      have y0 := r2 _ _ v0; have y1 := r2 _ _ v1
      have FA := F1.out _ (List.getElem_mem hlt)
      have FB := F2.out _ (List.getElem_mem hlt2)
      rw [hR] at y0 FB
      clear r1 r2 u0 u1 v0 v1 hR
      generalize (L1[k]).2 = va at *
      generalize (L2[k]).2 = vb at *
      generalize (L1[k]).1.1 = z at *
      generalize (L1[k]).1.2 = fs at *
      have HA := Lib.hid FA
      have HB := Lib.hid FB
      obtain ⟨b1, c3, rfl, hc3, hc4⟩ := own_slice FA
      obtain ⟨b2, c4, rfl, hd3, hd4⟩ := own_slice FB
      clear FA FB
      go_wp2_with fail
      go_quiet (fail)
      rename_i nq
      go_wp2_with fail
      go_loopw [6] (fun i wr => ∃ j m : Nat, j ≤ fs.length ∧ i = .int .i64 j ∧ wr = w.drewN m) (fun i _ => fs.length - (intOf i).toNat)
      case atStart => exact ⟨0, n + nq, by omega, rfl, World.drewN_drewN ..⟩
      case round =>
        obtain ⟨j, m, hj, rfl, rfl⟩ := hrel
        by_cases hlt3 : j < fs.length
        · obtain ⟨g3, p3, e3, _, _, r3⟩ := row_at HA.out (by omega)
          obtain ⟨g4, p4, e4, _, _, r4⟩ := row_at HB.out (by omega)
          cases e3
          cases e4
          obtain ⟨u0, u1, u2⟩ := fcells_at fs j hlt3
          have s0 := r3 _ _ u0; have s1 := r3 _ _ u1; have s2 := r3 _ _ u2
          have t0 := r4 _ _ u0; have t1 := r4 _ _ u1; have t2 := r4 _ _ u2
          clear r3 r4 u0 u1 u2
          generalize arr (fs[j]).1 = q1 at *
          generalize (fs[j]).2.1 = q2 at *
          generalize (fs[j]).2.2 = q3 at *
          go_wp2_with fail
          go_quiet (fail)
          go_wp2_with fail
          go_roundw
          case rel => exact ⟨j + 1, _, by omega, by go_num, rfl⟩
          case measure => simp [intOf]; omega
        · go_wp2_with fail
          go_roundw
          case rel => exact ⟨k + 1, _, by omega, by go_num, rfl⟩
          case measure => simp [intOf]; omega
    · go_wp2
      go_ret
      exact ⟨rfl, _, rfl⟩
end Go.Proofs.YtpiejpodaljefaaDoor
