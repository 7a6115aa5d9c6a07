import Derived.Test.YtpiejpodaljefaaDoorS1
namespace Go.Proofs.YtpiejpodaljefaaDoor
open Go.RowKit

theorem rskip_fin {p : Nat} {s : ByteArray} {i j j2 l b : Nat} {w wr W W' : World} (HR : RrAt wr p s j l b) (HB : But p w wr) (hij : i ≤ j) (hW : RrAt W p s j2 l b) (hb : But p wr W) (hW' : W' = ((W.setCell ⟨p, 2, none⟩ (.int .i64 (l + 1 : Nat))).setCell ⟨p, 3, none⟩ (.int .i64 j2)).drew ∨ W' = (W.setCell ⟨p, 2, none⟩ (.int .i64 (l + 1 : Nat))).setCell ⟨p, 3, none⟩ (.int .i64 j2))
    (hs : s.data.toList.drop j2 = skipL (s.data.toList.drop i)) (hjj : j ≤ j2) (hlt : j2 < s.size → j < j2) (hlt2 : i < s.size → i < j2) : RSkipped p s i l w (.returned (.tuple #[])) W' := by
  have h1 : ((W.setCell ⟨p, 2, none⟩ (.int .i64 (l + 1 : Nat))).setCell ⟨p, 3, none⟩ (.int .i64 j2)).heap[p]? = some (.cells #[.string s, .int .i64 j2, .int .i64 (l + 1 : Nat), .int .i64 j2] 90 (0, 0)) := by
    rw [heap_set _ _ _ _ _ _ (heap_set _ _ _ _ _ _ hW.1)]; rfl
  have h2 := ((HB.trans hb).trans (But.setCell W p 2 (.int .i64 (l + 1 : Nat)))).trans (But.setCell _ p 3 (.int .i64 j2))
  rcases hW' with rfl | rfl
  all_goals refine ⟨rfl, ⟨j2, h1, hW.2.2.1, fun h => ⟨h1, hW.2.1, hW.2.2.1, Nat.le_refl _, ?_⟩, hs, by omega, hlt2⟩, ⟨h2.os, h2.tape, h2.output, h2.size, h2.block⟩⟩
  all_goals
    have := HR.2.2.2.2
    have := hlt h
    omega

set_option maxHeartbeats 2000000 in
theorem rnext_any (p : Nat) (s : ByteArray) (i l b : Nat) (w : World) (hR : RrAt w p s i l b) :
    Calls Tryd.prog 45 #[.pointer (some ⟨p, 0, none⟩)] w (RSkipped p s i l w) := by
  have HR := Lib.hid hR
  clear hR
  go_enter Tryd.func45, Tryd.ntmps45
  go_wp2
  go_loopg [] (s.size - i) (fun k wr => ∃ j, k = s.size - j ∧ i ≤ j ∧ Hid (RrAt wr p s j l b) ∧ Hid (skipL (s.data.toList.drop j) = skipL (s.data.toList.drop i)) ∧ Hid (But p w wr))
  case atStart => exact ⟨i, rfl, Nat.le_refl _, HR, Lib.hid rfl, Lib.hid (But.refl _ _)⟩
  case round =>
    obtain ⟨j, hk, hij, HR, HS, HB⟩ := hrel
    have HK := Lib.hid hk
    clear hk
    obtain ⟨⟨c0, c1, c2, c3⟩, f1, f2, f3⟩ := HR.out.cells
    obtain ⟨_, hs, hi, hb, hl⟩ := HR.out
    by_cases hlt : j < s.size
    · have hsk := skip_at s j hlt
      have hlt' : decide (j < s.size) = true := by simpa using hlt
      cases hc : ((s[j].toNat : Int) == 10)
      · rw [hc, if_neg (by simp)] at hsk
        have HSK := Lib.hid hsk
        have hn : ((s[j].toNat : Int) != 10) = true := by simp [bne, hc]
        clear hsk
        go_wp2_with fail
        go_quiet (fail)
        go_wp2_with fail
        go_roundg (s.size - (j + 1))
        case rel => exact ⟨j + 1, rfl, by omega, Lib.hid ((HR.out.below (below_drewN _ _)).set1 (j + 1) (by omega) (by omega)), Lib.hid (by rw [← HSK.out]; exact HS.out), Lib.hid ((HB.out.trans (But.drewN _ _)).trans (But.setCell _ _ _ _))⟩
        case measure => have := HK.out; omega
      · rw [hc, if_pos rfl] at hsk
        have HSK := Lib.hid hsk
        have hn : ((s[j].toNat : Int) != 10) = false := by simp [bne, hc]
        clear hsk
        go_wp2_with fail
        go_quiet (fail)
        go_wp2_with fail
        go_quiet (fail)
        go_wp2_with fail
        go_region
        go_wp2
        go_end0
        exact rskip_fin HR.out HB.out hij ((HR.out.below (below_drewN _ _)).set1 (j + 1) (by omega) (by omega)) ((But.drewN _ _).trans (But.setCell _ _ _ _)) (Or.inl rfl) (by rw [← HSK.out]; exact HS.out) (by omega) (fun _ => by omega) (fun _ => by omega)
    · have hlt' : decide (j < s.size) = false := by simp; omega
      go_wp2_with fail
      go_quiet (fail)
      go_wp2_with fail
      go_quiet (fail)
      go_wp2_with fail
      go_region
      go_wp2
      go_end0
      exact rskip_fin HR.out HB.out hij (HR.out.below (below_drewN _ _)) (But.drewN _ _) (Or.inr rfl) (by rw [← HS.out, drop_end s j (by omega)]; rfl) (by omega) (fun h => absurd h hlt) (fun h => by omega)
end Go.Proofs.YtpiejpodaljefaaDoor
