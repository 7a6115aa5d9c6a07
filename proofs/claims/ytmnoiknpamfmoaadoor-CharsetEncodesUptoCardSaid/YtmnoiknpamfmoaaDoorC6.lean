import Derived.Test.YtmnoiknpamfmoaaDoorC5
namespace Go.Proofs.YtmnoiknpamfmoaaDoor
open Go.RowKit CS

theorem conv_zero (w : World) (a : Option Addr) (cap : Nat) : (convert 22 9 (.slice a 0 cap)).run Tryd.prog w = .ok (.string (arr [])) w := by
  rw [run_convert_bytes_string w 22 9 5 a 0 cap Tryd.underlying22 Tryd.underlying5 Tryd.underlying9]
  cases a with
  | none => rfl
  | some a => exact run_bytesToString w a 0 cap [] (by rfl)

theorem conv_str (w : World) (l : L8) (b off n cap : Nat) (hn : n = l.length) (hp : Bytes w b off l) :
    (convert 22 9 (.slice (some ⟨b, off, none⟩) n cap)).run Tryd.prog w = .ok (.string (arr l)) w := by
  subst hn
  refine run_convert_bytes_back (P := Tryd.prog) w 22 9 5 ⟨b, off, none⟩ cap l Tryd.underlying22 Tryd.underlying5 Tryd.underlying9 (fun j hj => ?_)
  have := hp j hj
  have e : (⟨b, off, none⟩ : Addr).add j = ⟨b, off + j, none⟩ := by simp only [Addr.add]; split <;> simp_all
  rw [e, this]
  simp [List.getD, hj]

theorem Bytes.take {w : World} {b off : Nat} {l : L8} (h : Bytes w b off l) (n : Nat) : Bytes w b off (l.take n) := by
  intro j hj
  rw [List.length_take] at hj
  rw [take_getD l n j (by omega)]
  exact h j (by omega)

set_option maxRecDepth 100000 in
theorem step_at (l : L8) (hne : l ≠ []) (b off cap : Nat) (w : World) (hcap : l.length ≤ cap) (hp : Bytes w b off l) :
    Calls Tryd.prog 24 #[.slice (some ⟨b, off, none⟩) l.length cap] w fun e w' => e = .returned (.int .i64 (stepL l)) ∧ Below w.heap.size w w' := by
  have hlen : 0 < l.length := List.length_pos_iff.2 hne
  have S := Lib.hid (stepL_le l hne)
  have OK := Lib.hid (okStep_iff l)
  have HP := Lib.hid hp
  clear hne
  generalize hL : l.length = len at *
  go_enter Tryd.func24, Tryd.ntmps24
  go_wp2
  go_loopw [3, 4, 5] (fun i _ _ wr => ∃ j : Nat, 1 ≤ j ∧ j ≤ 5 ∧ i = .int .i64 j ∧ Hid (∀ m, 1 ≤ m → m < j → stepL l ≠ m) ∧ Below w.heap.size w wr) (fun i _ _ _ => 5 - (intOf i).toNat)
  case atStart => exact ⟨1, by omega, by omega, rfl, Lib.hid (fun m h1 h2 => by omega), Below.refl _ _⟩
  case round =>
    obtain ⟨j, j1, j5, rfl, hno, hb⟩ := hrel
    by_cases hj : j ≤ 4 ∧ j ≤ len
    · obtain ⟨h4, hle⟩ := hj
      have k1 := conv_str wr (l.take j) b off j cap (by rw [List.length_take]; omega) ((HP.out.below hb).take j)
      have k2 := conv_runes wr (l.take j) (by rw [List.length_take]; omega)
      have k3 : ∀ cap, (convert 52 9 (.slice (some ⟨wr.heap.size, 0, none⟩) (runesL (l.take j)).length cap)).run Tryd.prog (wr.alloc (.cells (runeRow (l.take j) cap) 21)).drew = .ok (.string (arr (mend (l.take j)))) (wr.alloc (.cells (runeRow (l.take j) cap) 21)).drew := by
        intro cap
        refine conv_back _ (l.take j) wr.heap.size cap (fun q hq => ?_)
        show (wr.alloc _).cell? _ = _
        rw [World.cell?_alloc_mark]
        exact runeRow_at _ cap q hq
      have hk := Lib.hid (OK.out j (by omega) hle)
      have hbd := runesL_length (l.take j)
      have hbd2 : (l.take j).length ≤ 4 := by rw [List.length_take]; omega
      have O : Hid (okStep l j = ((runesL (l.take j)).length == 1 && (arr (mend (l.take j))).toList == (arr (l.take j)).toList)) := Lib.hid (by rw [arr_toList, arr_toList]; rfl)
      have HB : ∀ o, Below w.heap.size w (wr.alloc o).drew := fun o => (hb.alloc hb.size _).drew
      have HB := Lib.hid HB
      have hnx : Hid (stepL l ≠ j → ∀ m, 1 ≤ m → m < j + 1 → stepL l ≠ m) := Lib.hid (fun h m h1 h2 => by
        rcases Nat.lt_or_ge m j with h3 | h3
        · exact hno.out m h1 h3
        · have : m = j := by omega
          rw [this]; exact h)
      by_cases hn1 : (runesL (l.take j)).length = 1
      · rw [hn1] at k2 k3
        cases hq : ((arr (mend (l.take j))).toList == (arr (l.take j)).toList)
        · have hs : Hid (stepL l ≠ j) := Lib.hid (fun h => by have := hk.out.2 h; rw [O.out, hq] at this; simp at this)
          go_wp2
          go_round
          case rel => exact ⟨j + 1, by omega, by omega, by go_num, Lib.hid (hnx.out hs.out), HB.out _⟩
          case measure => simp [intOf]; omega
        · have hs : Hid (stepL l = j) := Lib.hid (hk.out.1 (by rw [O.out, hq, hn1]; rfl))
          go_wp2
          go_ret
          exact ⟨ret_int (by rw [hs.out]), HB.out _⟩
      · have hs : Hid (stepL l ≠ j) := Lib.hid (fun h => by have := hk.out.2 h; rw [O.out] at this; simp at this; exact hn1 this.1)
        go_wp2
        go_round
        case rel => exact ⟨j + 1, by omega, by omega, by go_num, Lib.hid (hnx.out hs.out), HB.out _⟩
        case measure => simp [intOf]; omega
    · have hs : Hid (stepL l = 0) := Lib.hid (by
        have := S.out
        rcases Nat.eq_zero_or_pos (stepL l) with h | h
        · exact h
        · exact absurd rfl (hno.out (stepL l) h (by omega)))
      rcases (show 4 < j ∨ (j ≤ 4 ∧ len < j) from by omega) with h | ⟨h, h'⟩
      all_goals (
        go_wp2
        go_ret
        exact ⟨ret_int (by rw [hs.out]; rfl), hb⟩)

end Go.Proofs.YtmnoiknpamfmoaaDoor
