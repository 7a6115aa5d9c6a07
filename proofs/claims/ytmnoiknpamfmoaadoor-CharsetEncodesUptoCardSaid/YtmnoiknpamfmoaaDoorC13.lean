import Derived.Test.YtmnoiknpamfmoaaDoorC12
namespace Go.Proofs.YtmnoiknpamfmoaaDoor
open Go.RowKit CS

set_option maxRecDepth 100000 in
theorem rDecode_nil (k : Int) (hk1 : 1 ≤ k) (hk3 : k ≤ 3) (a : Option Addr) (cap : Nat) (w : World) :
    Calls Tryd.prog 9 #[.slice a 0 cap, .int .i64 k] w (DecQ w k []) := by
  have hs : CS.start k [] = 0 := by unfold CS.start; rw [if_neg]; rintro ⟨_, h⟩; cases h
  have k1 := fun w => conv_zero w none 0
  have HM := Lib.hid (marked_nil a cap w)
  have HF := Lib.hid (RefW.finish (RefW.start (w := w) (k := k) (l := []) hs (Below.refl _ _)))
  clear hs
  cases q3 : (k == 3)
  all_goals
    go_enter Tryd.func9, Tryd.ntmps9
    go_wp2_with (first | (go_at_call 23; refine HM.out.mono ?_; rintro e w' ⟨rfl, rfl⟩) | fail)
    refine wp_loop_rounds 1 ?_
    rw [rounds_succ]
    go_wp2
    go_ret3
    exact HF.out

set_option maxRecDepth 100000 in
theorem rDecode_kind (k : Int) (hk : k < 1 ∨ 3 < k) (v : Value) (w : World) :
    Calls Tryd.prog 9 #[v, .int .i64 k] w fun e w' => e = .returned (.tuple #[.string (arr []), .slice none 0 0, .int .i64 6]) ∧ w = w' := by
  rcases (show k < 1 ∨ (1 ≤ k ∧ 3 < k) from by omega) with h | ⟨h1, h2⟩
  all_goals
    clear hk
    go_enter Tryd.func9, Tryd.ntmps9
    go_wp2
    go_ret3
    exact ⟨rfl, rfl⟩

set_option maxRecDepth 100000 in
theorem rDecode_size (k : Int) (hk1 : 1 ≤ k) (hk3 : k ≤ 3) (a : Option Addr) (n cap : Nat) (h : 65536 < n) (hn : n ≤ 9223372036854775807) (w : World) :
    Calls Tryd.prog 9 #[.slice a n cap, .int .i64 k] w fun e w' => e = .returned (.tuple #[.string (arr []), .slice none 0 0, .int .i64 2]) ∧ w = w' := by
  go_enter Tryd.func9, Tryd.ntmps9
  go_wp2
  go_ret3
  exact ⟨rfl, rfl⟩

/-- What both Decodes return. -/
def DecP (w : World) (k : Int) (l : L8) (e : Ending) (w' : World) : Prop :=
  ∃ dv, e = .returned (.tuple #[.string (arr (decR k l).1), dv, .int .i64 (decE k l)]) ∧ Dam w' dv (decR k l).2 ∧ Below w.heap.size w w'

theorem below2 {w w1 : World} {o : Obj} (hb : Below (w.alloc o).heap.size (w.alloc o) w1) : Below w.heap.size w w1 := ((Below.refl _ _).alloc (Nat.le_refl _) o).trans (hb.mono (by simp))
theorem dam_none (w : World) : Dam w (.slice none 0 0) [] := ⟨none, 0, rfl, Nat.le_refl _, fun h => absurd rfl h⟩
theorem okKind_iff {k : Int} : okKind k = true ↔ 1 ≤ k ∧ k ≤ 3 := by unfold okKind; simp
theorem DecP.kind {w : World} {k : Int} {l : L8} (hk : k < 1 ∨ 3 < k) : DecP w k l (.returned (.tuple #[.string (arr []), .slice none 0 0, .int .i64 6])) w := by
  have e1 : decR k l = ([], []) := by unfold decR; rw [if_pos (by omega)]
  have e2 : decE k l = 6 := by unfold decE; rw [if_pos hk]
  exact ⟨_, by rw [e1, e2], by rw [e1]; exact dam_none w, Below.refl _ _⟩
theorem DecP.big {w : World} {k : Int} {l : L8} (hk : 1 ≤ k ∧ k ≤ 3) (h : 65536 < l.length) : DecP w k l (.returned (.tuple #[.string (arr []), .slice none 0 0, .int .i64 2])) w := by
  have e1 : decR k l = ([], []) := by unfold decR; rw [if_pos (by omega)]
  have e2 : decE k l = 2 := by unfold decE; rw [if_neg (by omega), if_pos h]
  exact ⟨_, by rw [e1, e2], by rw [e1]; exact dam_none w, Below.refl _ _⟩
theorem DecP.of {w w' : World} {k : Int} {l : L8} {e : Ending} (hk : 1 ≤ k ∧ k ≤ 3) (h : l.length ≤ 65536) (q : DecQ w k l e w') : DecP w k l e w' := by
  have e1 : decR k l = dec k (l.drop (CS.start k l)) (CS.start k l) := by unfold decR; rw [if_neg (by omega)]
  have e2 : decE k l = 0 := by unfold decE; rw [if_neg (by omega), if_neg (by omega)]
  obtain ⟨dv, h1, h2, h3⟩ := q
  exact ⟨dv, by rw [e1, e2]; exact h1, by rw [e1]; exact h2, h3⟩

theorem Decode_any (k : Int) (v : Value) (l : L8) (w : World) (hB : BSlice w v l) (hl : l.length ≤ 9223372036854775807) (hT : Lib.Utf8Tabs 0 1 w) :
    Calls Tryd.prog 8 #[v, .int .i64 k] w (DecP w k l) := by
  cases hk : okKind k
  · refine (Decode_kind k hk v w).mono ?_
    rintro e w' ⟨rfl, rfl⟩
    exact DecP.kind (by unfold okKind at hk; simp at hk; omega)
  · have hk' := okKind_iff.1 hk
    rcases hB with ⟨a, cap, rfl, rfl⟩ | ⟨b, off, cap, rfl, hcap, hp⟩
    · exact (Decode_nil k hk a cap w).mono fun _ _ q => DecP.of hk' (Nat.zero_le _) q
    · by_cases h : 65536 < l.length
      · refine (Decode_size k hk _ _ _ h hl w).mono ?_
        rintro e w' ⟨rfl, rfl⟩
        exact DecP.big hk' h
      · exact (Decode_main k hk l b off cap (by omega) hcap w hp hT).mono fun _ _ q => DecP.of hk' (by omega) q

theorem rDecode_any (k : Int) (v : Value) (l : L8) (w : World) (hB : BSlice w v l) (hl : l.length ≤ 9223372036854775807) :
    Calls Tryd.prog 9 #[v, .int .i64 k] w (DecP w k l) := by
  by_cases hk : k < 1 ∨ 3 < k
  · refine (rDecode_kind k hk v w).mono ?_
    rintro e w' ⟨rfl, rfl⟩
    exact DecP.kind hk
  · have hk' : 1 ≤ k ∧ k ≤ 3 := by omega
    rcases hB with ⟨a, cap, rfl, rfl⟩ | ⟨b, off, cap, rfl, hcap, hp⟩
    · exact (rDecode_nil k hk'.1 hk'.2 a cap w).mono fun _ _ q => DecP.of hk' (Nat.zero_le _) q
    · by_cases h : 65536 < l.length
      · refine (rDecode_size k hk'.1 hk'.2 _ _ _ h hl w).mono ?_
        rintro e w' ⟨rfl, rfl⟩
        exact DecP.big hk' h
      · by_cases h3 : k = 3
        · subst h3
          exact (rDecode_utf8 l b off cap (by omega) hcap w hp).mono fun _ _ q => DecP.of hk' (by omega) q
        · exact (rDecode_plain k (by omega) l b off cap (by omega) hcap w hp).mono fun _ _ q => DecP.of hk' (by omega) q

theorem decR_len (k : Int) (l : L8) : (decR k l).1.length ≤ 262144 ∧ (decR k l).2.length ≤ 65536 := by
  unfold decR
  split
  · exact ⟨by simp, by simp⟩
  · rename_i h
    have h1 := dec_len k (l.drop (CS.start k l)) (CS.start k l)
    rw [List.length_drop] at h1
    omega

theorem awk1 : (decR 2 [233]) = ([195, 169], []) := by kernel_rfl
theorem awk2 : (decR 3 [97, 233]) = ([97, 239, 191, 189], [(1, 233)]) := by kernel_rfl
theorem awk3 : decE 2 [233] = 0 := by kernel_rfl
theorem awk4 : decE 3 [97, 233] = 0 := by kernel_rfl

def AwP (w : World) (s : ByteArray) (xs : Dmg) (e : Ending) (w' : World) : Prop :=
  ∃ dv, e = .returned (.tuple #[.string s, dv, .int .i64 0]) ∧ Dam w' dv xs ∧ Below w.heap.size w w'

theorem awake_1 (w : World) (hT : Lib.Utf8Tabs 0 1 w) (b : Nat) (h : w.cell? ⟨b, 0, none⟩ = some (.int .u8 233)) :
    Calls Tryd.prog 8 #[.slice (some ⟨b, 0, none⟩) 1 1, .int .i64 2] w (AwP w ⟨#[195, 169]⟩ []) := by
  refine (Decode_any 2 (.slice (some ⟨b, 0, none⟩) 1 1) [233] w (Or.inr ⟨b, 0, 1, rfl, Nat.le_refl _, fun j hj => ?_⟩) (by simp) hT).mono ?_
  · match j, hj with
    | 0, _ => exact h
  · rintro e w' ⟨dv, h1, h2, h3⟩
    rw [awk1] at h1 h2; rw [awk3] at h1
    exact ⟨dv, h1, h2, h3⟩
theorem awake_2 (w : World) (hT : Lib.Utf8Tabs 0 1 w) (b : Nat) (h : w.cell? ⟨b, 0, none⟩ = some (.int .u8 97)) (h' : w.cell? ⟨b, 1, none⟩ = some (.int .u8 233)) :
    Calls Tryd.prog 8 #[.slice (some ⟨b, 0, none⟩) 2 2, .int .i64 3] w (AwP w ⟨#[97, 239, 191, 189]⟩ [(1, 233)]) := by
  refine (Decode_any 3 (.slice (some ⟨b, 0, none⟩) 2 2) [97, 233] w (Or.inr ⟨b, 0, 2, rfl, Nat.le_refl _, fun j hj => ?_⟩) (by simp) hT).mono ?_
  · match j, hj with
    | 0, _ => exact h
    | 1, _ => exact h'
  · rintro e w' ⟨dv, h1, h2, h3⟩
    rw [awk2] at h1 h2; rw [awk4] at h1
    exact ⟨dv, h1, h2, h3⟩

theorem dam_one {w : World} {v : Value} {x y : Int} (h : Dam w v [(x, y)]) : ∃ g cap, v = .slice (some ⟨g, 0, none⟩) 1 cap ∧ w.cell? ⟨g, 0, none⟩ = some (.int .i64 x) := by
  obtain ⟨a, cap, h1, h2, h3⟩ := h
  obtain ⟨g, rfl, hc⟩ := h3 (by simp)
  exact ⟨g, cap, h1, (hc 0 (by simp)).1⟩

set_option maxHeartbeats 1000000 in
set_option maxRecDepth 100000 in
theorem awake_any (w : World) (hT : Lib.Utf8Tabs 0 1 w) :
    Calls Tryd.prog 10 #[] w fun e w' => e = .returned (.bool true) ∧ Below w.heap.size w w' := by
  have B0 : ∀ o, Below w.heap.size w (w.alloc o) := fun o => (Below.refl _ _).alloc (Nat.le_refl _) o
  have HT := Lib.hid hT
  have HB0 := Lib.hid B0
  clear hT B0
  go_enter Tryd.func10, Tryd.ntmps10
  go_wp2_with (first | (go_at_call 8; refine (awake_1 _ (Utf8Tabs_below HT.out (HB0.out _)) _ ?c1).mono ?_) | fail)
  case c1 => rw [World.cell?_alloc_at _ _ _ _ rfl]; rfl
  rintro e w1 ⟨dv, rfl, hd, hb1⟩
  have HB1 := Lib.hid (below2 hb1)
  have HB2 := Lib.hid (fun o => (HB1.out.alloc HB1.out.size o))
  obtain ⟨a1, cap1, rfl, _, _⟩ := hd
  clear hb1
  go_wp2_with (first | (go_at_call 8; refine (awake_2 _ (Utf8Tabs_below HT.out (HB2.out _)) _ ?c2 ?c3).mono ?_) | fail)
  case c2 => rw [World.cell?_alloc_at _ _ _ _ rfl]; rfl
  case c3 => rw [World.cell?_alloc_at _ _ _ _ rfl]; rfl
  rintro e w2 ⟨dv2, rfl, hd2, hb2⟩
  obtain ⟨g, cap2, rfl, hc⟩ := dam_one hd2
  have HB3 := Lib.hid ((HB2.out _).trans (hb2.mono (by have := HB1.out.size; simp; omega)))
  clear hd2 hb2
  go_wp2
  go_ret
  exact ⟨rfl, HB3.out⟩

end Go.Proofs.YtmnoiknpamfmoaaDoor
