/- Zones: two zones that are alike. -/
import Derived.Test.YtllcoocllkaanaaDoorY5
import Derived.BigQuiet
namespace Go.Proofs.YtllcoocllkaanaaDoor
open Go.RowKit TT

theorem pc_alloc {w : World} {b of : Nat} {xs : Prs} (h : xs = [] ∨ PCells w b of xs) (ob : Obj) : xs = [] ∨ PCells (w.alloc ob) b of xs := by
  rcases h with h | h
  · exact Or.inl h
  · exact Or.inr fun j hj => ⟨below_cell ((Below.refl _ _).alloc (Nat.le_refl _) _) (h j hj).1, below_cell ((Below.refl _ _).alloc (Nat.le_refl _) _) (h j hj).2⟩
set_option maxRecDepth 100000 in
set_option maxHeartbeats 1000000 in
theorem zsame_some {s : ByteArray} {off : Int} {xs : Prs} (a1 a2 : Option Addr) (c1 c2 : Nat) (w : World) (hl : xs.length ≤ 64)
    (h1 : xs = [] ∨ ∃ b o, a1 = some ⟨b, o, none⟩ ∧ PCells w b o xs) (h2 : xs = [] ∨ ∃ b o, a2 = some ⟨b, o, none⟩ ∧ PCells w b o xs) :
    Calls Tryd.prog 30 #[.agg #[.string s, .int .i64 off, .slice a1 xs.length c1], .agg #[.string s, .int .i64 off, .slice a2 xs.length c2]] w (RetB (.bool true) w) := by
  have hba : ∀ o1 o2, Below w.heap.size w ((w.alloc o1).alloc o2) := fun o1 o2 => ((Below.refl _ _).alloc (Nat.le_refl _) _).alloc (by simp) _
  have H1 := Lib.hid h1
  have H2 := Lib.hid h2
  have HBA := Lib.hid hba
  clear h1 h2 hba
  go_enter Tryd.func30, Tryd.ntmps30
  go_wp2
  have HB := Lib.hid (HBA.out (.cells #[.string s, .int .i64 off, .slice a1 xs.length c1] 24) (.cells #[.string s, .int .i64 off, .slice a2 xs.length c2] 24))
  have G1 : ((w.alloc (.cells #[.string s, .int .i64 off, .slice a1 xs.length c1] 24)).alloc (.cells #[.string s, .int .i64 off, .slice a2 xs.length c2] 24)).cell? ⟨w.heap.size, 2, none⟩ = some (.slice a1 xs.length c1) := by
    rw [World.cell?_alloc_past _ _ _ (by simp), World.cell?_alloc_at _ _ _ _ rfl]; rfl
  have G2 : ((w.alloc (.cells #[.string s, .int .i64 off, .slice a1 xs.length c1] 24)).alloc (.cells #[.string s, .int .i64 off, .slice a2 xs.length c2] 24)).cell? ⟨w.heap.size + 1, 2, none⟩ = some (.slice a2 xs.length c2) := by
    rw [World.cell?_alloc_at _ _ _ _ (by simp)]; rfl
  generalize ((w.alloc (.cells #[.string s, .int .i64 off, .slice a1 xs.length c1] 24)).alloc (.cells #[.string s, .int .i64 off, .slice a2 xs.length c2] 24)) = w2 at *
  have HG1 := Lib.hid G1
  have HG2 := Lib.hid G2
  clear G1 G2 HBA
  go_loopw [5] (fun i wr => ∃ j : Nat, j ≤ xs.length ∧ i = .int .i64 j ∧ ∃ nd, wr = w2.drewN nd) (fun i _ => xs.length - (intOf i).toNat)
  case atStart => exact ⟨0, by omega, rfl, 0, rfl⟩
  case round =>
    obtain ⟨j, hj, rfl, nd, rfl⟩ := hrel
    have g1 : (w2.drewN nd).cell? ⟨w.heap.size, 2, none⟩ = some (.slice a1 xs.length c1) := HG1.out
    have g2 : (w2.drewN nd).cell? ⟨w.heap.size + 1, 2, none⟩ = some (.slice a2 xs.length c2) := HG2.out
    by_cases hlt : j < xs.length
    · rcases H1.out with h0 | ⟨b1, o1, rfl, hP1⟩
      · rw [h0] at hlt; simp at hlt
      rcases H2.out with h0 | ⟨b2, o2, rfl, hP2⟩
      · rw [h0] at hlt; simp at hlt
      have HBD : Below w.heap.size w (w2.drewN nd) := HB.out.trans ⟨rfl, rfl, rfl, Nat.le_refl _, fun _ _ => rfl⟩
      have p1 : (w2.drewN nd).cell? ⟨b1, o1 + j * 2, none⟩ = _ := below_cell HBD (hP1 j hlt).1
      have p2 : (w2.drewN nd).cell? ⟨b1, o1 + j * 2 + 1, none⟩ = _ := below_cell HBD (hP1 j hlt).2
      have p3 : (w2.drewN nd).cell? ⟨b2, o2 + j * 2, none⟩ = _ := below_cell HBD (hP2 j hlt).1
      have p4 : (w2.drewN nd).cell? ⟨b2, o2 + j * 2 + 1, none⟩ = _ := below_cell HBD (hP2 j hlt).2
      clear hP1 hP2 HBD
      generalize (xs.getD j (0, 0)).1 = x at *
      generalize (xs.getD j (0, 0)).2 = y at *
      generalize hwr : w2.drewN nd = wr at *
      have HWR := Lib.hid hwr
      clear hwr
      go_wp2
      go_quiet (fail)
      go_wp2_with fail
      exact ⟨⟨j + 1, by omega, by go_num, nd + nq, by rw [← HWR.out]; simp⟩, by simp [intOf]; omega⟩
    · obtain rfl : j = xs.length := by omega
      go_wp2
      go_ret
      exact ⟨rfl, HB.out.trans ⟨rfl, rfl, rfl, Nat.le_refl _, fun _ _ => rfl⟩⟩
theorem zsame_any {v1 v2 : Value} {s : ByteArray} {off : Int} {xs : Prs} (w : World) (hl : xs.length ≤ 64) (h1 : ZVal w v1 s off xs) (h2 : ZVal w v2 s off xs) : Calls Tryd.prog 30 #[v1, v2] w (RetB (.bool true) w) := by
  obtain ⟨_, rfl, _, a1, c1, rfl, _, h1⟩ := h1
  obtain ⟨_, rfl, _, a2, c2, rfl, _, h2⟩ := h2
  exact zsame_some a1 a2 c1 c2 w hl h1 h2
end Go.Proofs.YtllcoocllkaanaaDoor
