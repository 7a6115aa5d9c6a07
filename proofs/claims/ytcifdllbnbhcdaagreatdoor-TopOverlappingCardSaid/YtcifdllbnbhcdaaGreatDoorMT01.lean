/- Texts T1, joined: walks and laws. -/
import Derived.Test.YtcifdllbnbhcdaaGreatDoorMR01
import Derived.Test.YtcifdllbnbhcdaaGreatDoorMR03
import Derived.Test.YtcifdllbnbhcdaaGreatDoorMV02
set_option linter.unusedSimpArgs false
set_option linter.unusedVariables false
namespace Go.Proofs.YtcifdllbnbhcdaaGreatDoor.Rc
open Go.RowKit TT
theorem wday_any (n : Int) (w : World) :
    Calls Tryz.prog 38 #[.int .i64 n] w fun e w' => e = .returned (.int .i64 (wday n)) ∧ w = w' := by
  by_cases h : okDay n = true
  · have h' : 0 ≤ n ∧ n ≤ 36524 := by simpa [okDay] using h
    obtain ⟨h1, h2⟩ := h'
    go_enter Tryz.func38, Tryz.ntmps38
    go_wp2_with (go_at_call 39; refine (Cal.valid_any _ _).mono ?_; rintro e w' ⟨rfl, rfl⟩)
    go_ret
    exact ⟨ret_int (by simp [wday, h]), rfl⟩
  · have h' : okDay n = false := by simpa using h
    go_enter Tryz.func38, Tryz.ntmps38
    go_wp2_with (go_at_call 39; refine (Cal.valid_any _ _).mono ?_; rintro e w' ⟨rfl, rfl⟩)
    go_ret
    exact ⟨ret_int (by simp [wday, h']), rfl⟩
theorem last_any (f k : Int) (h1 : 0 ≤ f) (h2 : f ≤ 36524) (h3 : 1 ≤ k) (h4 : k ≤ 20) (a : Option Addr) (n c : Nat) (w : World) :
    Calls Tryz.prog 40 #[.agg #[.int .i64 f, .int .i64 k, .slice a n c]] w fun e w' => e = .returned (.int .i64 (lastD f k)) ∧ Below w.heap.size w w' := by
  go_enter Tryz.func40, Tryz.ntmps40
  go_wp2
  go_ret
  exact ⟨ret_int (by unfold lastD; omega), (Below.refl _ _).alloc (Nat.le_refl _) _⟩
theorem wday_zero {f : Int} (h : wday f = 0) : 0 ≤ f ∧ f ≤ 36524 := by
  by_cases c : okDay f = true
  · exact okDay_of c
  · simp [wday, c] at h
def ValidPost (f k : Int) (hs : List Int) (w : World) (e : Ending) (w' : World) : Prop := e = .returned (.int .i64 (termE f k hs)) ∧ Below w.heap.size w w'
set_option maxHeartbeats 400000 in
theorem tvalA (f k : Int) (hs : List Int) (a : Option Addr) (n c : Nat) (w : World) (hI : IntsAt w a n hs)
    (h : wday f ≠ 0 ∨ k < 1 ∨ 20 < k ∨ okDay (lastD f k) = false ∨ 64 < n ∨ n = 0) :
    Calls Tryz.prog 21 #[.agg #[.int .i64 f, .int .i64 k, .slice a n c]] w (ValidPost f k hs w) := by
  obtain ⟨hlen, hn, hI⟩ := hI
  by_cases c1 : wday f = 0
  rotate_left
  · have hE := Lib.hid (show 13 = termE f k hs by simp [termE, c1])
    have k1 : (wday f != 0) = true := by rw [bne_iff_ne]; exact c1
    clear c1 hI hlen h
    go_enter Tryz.func21, Tryz.ntmps21
    go_wp2_with (go_at_call 38; refine (wday_any _ _).mono ?_; rintro e w' ⟨rfl, rfl⟩)
    go_ret
    exact ⟨ret_int hE.out, (Below.refl _ _).alloc (Nat.le_refl _) _⟩
  obtain ⟨f1, f2⟩ := wday_zero c1
  have C1 := Lib.hid c1
  have k1 : (wday f != 0) = false := by rw [bne_eq_false_iff_eq]; exact c1
  have h' : k < 1 ∨ 20 < k ∨ okDay (lastD f k) = false ∨ 64 < n ∨ n = 0 := by rcases h with h | h; exact absurd c1 h; exact h
  clear c1 h
  by_cases c2 : k < 1
  · have hE := Lib.hid (show 3 = termE f k hs by simp [termE, C1.out, c2])
    clear hI hlen h'
    go_enter Tryz.func21, Tryz.ntmps21
    go_wp2_with (go_at_call 38; refine (wday_any _ _).mono ?_; rintro e w' ⟨rfl, rfl⟩)
    go_ret
    exact ⟨ret_int hE.out, (Below.refl _ _).alloc (Nat.le_refl _) _⟩
  by_cases c3 : 20 < k
  · have hE := Lib.hid (show 3 = termE f k hs by simp [termE, C1.out, c3])
    clear hI hlen h'
    go_enter Tryz.func21, Tryz.ntmps21
    go_wp2_with (go_at_call 38; refine (wday_any _ _).mono ?_; rintro e w' ⟨rfl, rfl⟩)
    go_ret
    exact ⟨ret_int hE.out, (Below.refl _ _).alloc (Nat.le_refl _) _⟩
  by_cases c4 : okDay (lastD f k) = false
  · have hE := Lib.hid (show 13 = termE f k hs by simp [termE, C1.out, c2, c3, c4])
    clear hI hlen h'
    go_enter Tryz.func21, Tryz.ntmps21
    go_wp2_with (first | (go_at_call 38; refine (wday_any _ _).mono ?_; rintro e w' ⟨rfl, rfl⟩) | (go_at_call 40; refine (last_any f k f1 f2 (by omega) (by omega) a n c _).mono ?_; rintro e w1 ⟨rfl, hb⟩) | (go_at_call 39; refine (Cal.valid_any _ _).mono ?_; rintro e w' ⟨rfl, rfl⟩))
    go_ret
    exact ⟨ret_int hE.out, ((Below.refl _ _).alloc (Nat.le_refl _) _).trans (hb.mono (by simp))⟩
  have c4' : okDay (lastD f k) = true := by simpa using c4
  clear c4
  by_cases c5 : 64 < n
  · have hE := Lib.hid (show 2 = termE f k hs by simp [termE, C1.out, c2, c3, c4', hlen, c5])
    clear hI hlen h'
    go_enter Tryz.func21, Tryz.ntmps21
    go_wp2_with (first | (go_at_call 38; refine (wday_any _ _).mono ?_; rintro e w' ⟨rfl, rfl⟩) | (go_at_call 40; refine (last_any f k f1 f2 (by omega) (by omega) a n c _).mono ?_; rintro e w1 ⟨rfl, hb⟩; obtain ⟨hc, hf⟩ := bcell hb; simp only [World.size_alloc] at hc hf) | (go_at_call 39; refine (Cal.valid_any _ _).mono ?_; rintro e w' ⟨rfl, rfl⟩))
    go_ret
    exact ⟨ret_int hE.out, ((Below.refl _ _).alloc (Nat.le_refl _) _).trans (hb.mono (by simp))⟩
  have c6 : n = 0 := by
    rcases h' with h | h | h | h | h
    · omega
    · omega
    · rw [c4'] at h; cases h
    · omega
    · exact h
  subst c6
  obtain rfl : hs = [] := List.eq_nil_of_length_eq_zero hlen
  have hE := Lib.hid (show 0 = termE f k [] by simp [termE, C1.out, c2, c3, c4', holE])
  clear hI hlen h' c5
  go_enter Tryz.func21, Tryz.ntmps21
  go_wp2_with (first | (go_at_call 38; refine (wday_any _ _).mono ?_; rintro e w' ⟨rfl, rfl⟩) | (go_at_call 40; refine (last_any f k f1 f2 (by omega) (by omega) a 0 c _).mono ?_; rintro e w1 ⟨rfl, hb⟩; obtain ⟨hc, hf⟩ := bcell hb; simp only [World.size_alloc] at hc hf) | (go_at_call 39; refine (Cal.valid_any _ _).mono ?_; rintro e w' ⟨rfl, rfl⟩))
  go_loop [3, 4, 32] (fun _ _ i => i = .int .i64 0) (fun _ _ _ => 0)
  case atStart => rfl
  case round =>
    obtain rfl := hrel
    go_wp2
    go_ret
    exact ⟨ret_int hE.out, ((Below.refl _ _).alloc (Nat.le_refl _) _).trans (hb.mono (by simp))⟩
structure HolW (w wr : World) (f k : Int) (b off n c : Nat) (hs : List Int) : Prop where
  c0 : wr.cell? ⟨w.heap.size, 0, none⟩ = some (.int .i64 f)
  c1 : wr.cell? ⟨w.heap.size, 1, none⟩ = some (.int .i64 k)
  c2 : wr.cell? ⟨w.heap.size, 2, none⟩ = some (.slice (some ⟨b, off, none⟩) n c)
  hh : ∀ i, i < n → wr.cell? ⟨b, off + i, none⟩ = some (.int .i64 (hs.getD i 0))
  sz : w.heap.size < wr.heap.size
  bb : b < w.heap.size
  bl : Below w.heap.size w wr
theorem HolW.next {w wr w2 : World} {f k : Int} {b off n c : Nat} {hs : List Int} (h : HolW w wr f k b off n c hs) (hb : Below wr.heap.size wr w2) : HolW w w2 f k b off n c hs :=
  ⟨by rw [hb.cell (p := ⟨w.heap.size, 0, none⟩) h.sz]; exact h.c0, by rw [hb.cell (p := ⟨w.heap.size, 1, none⟩) h.sz]; exact h.c1, by rw [hb.cell (p := ⟨w.heap.size, 2, none⟩) h.sz]; exact h.c2,
   fun i hi => by rw [hb.cell (p := ⟨b, off + i, none⟩) (Nat.lt_trans h.bb h.sz)]; exact h.hh i hi, Nat.lt_of_lt_of_le h.sz hb.size, h.bb, h.bl.trans (hb.mono (Nat.le_of_lt h.sz))⟩
set_option maxHeartbeats 1000000 in
theorem tvalB (f k : Int) (hs : List Int) (b off n c : Nat) (w : World) (hlen : hs.length = n) (hn0 : 0 < n) (hn : n ≤ 64)
    (hh : ∀ i, i < n → w.cell? ⟨b, off + i, none⟩ = some (.int .i64 (hs.getD i 0)))
    (c1 : wday f = 0) (k1 : 1 ≤ k) (k2 : k ≤ 20) (c4 : okDay (lastD f k) = true) :
    Calls Tryz.prog 21 #[.agg #[.int .i64 f, .int .i64 k, .slice (some ⟨b, off, none⟩) n c]] w (ValidPost f k hs w) := by
  obtain ⟨f1, f2⟩ := wday_zero c1
  have hE := Lib.hid (show holE f (lastD f k) none hs = termE f k hs by simp [termE, c1, c4]; omega)
  have kk : (wday f != 0) = false := by rw [bne_eq_false_iff_eq]; exact c1
  have hbb : b < w.heap.size := World.block_lt_of_cell? _ ⟨b, off + 0, none⟩ (hh 0 hn0)
  have HH := Lib.hid hh
  have HL := Lib.hid hlen
  clear c1 hh hlen
  go_enter Tryz.func21, Tryz.ntmps21
  go_wp2_with (first | (go_at_call 38; refine (wday_any _ _).mono ?_; rintro e w' ⟨rfl, rfl⟩) | (go_at_call 40; refine (last_any f k f1 f2 k1 k2 _ n c _).mono ?_; rintro e w1 ⟨rfl, hb⟩; obtain ⟨hc, hf⟩ := bcell hb; simp only [World.size_alloc] at hc hf) | (go_at_call 39; refine (Cal.valid_any _ _).mono ?_; rintro e w' ⟨rfl, rfl⟩))
  have hW : HolW w w1 f k b off n c hs := by
    have hz := hb.size
    simp only [World.size_alloc] at hz
    refine ⟨?_, ?_, ?_, ?_, by omega, hbb, ((Below.refl _ _).alloc (Nat.le_refl _) _).trans (hb.mono (by simp))⟩
    · rw [hc _ _ (by omega)]; simp
    · rw [hc _ _ (by omega)]; simp
    · rw [hc _ _ (by omega)]; simp
    · intro i hi; rw [hc _ _ (by omega), World.cell?_alloc_past _ _ _ hbb]; exact HH.out i hi
  clear hc hf hb
  go_loopw [3, 4, 32] (fun _ _ i wr => ∃ j : Nat, j ≤ n ∧ i = .int .i64 j ∧ Hid (holE f (lastD f k) none hs = holE f (lastD f k) (pv hs j) (hs.drop j)) ∧ HolW w wr f k b off n c hs) (fun _ _ i _ => n - (intOf i).toNat)
  case atStart => exact ⟨0, by omega, rfl, Lib.hid (by rw [holE_start]), hW⟩
  case round =>
    clear hW
    obtain ⟨j, hj, rfl, hR, hW⟩ := hrel
    by_cases hlt : j < n
    · have hstep := Lib.hid (holE_step f (lastD f k) hs j (by rw [HL.out]; exact hlt))
      obtain ⟨g0, g1, g2, gh, gz, gb, gB⟩ := id hW
      have gj := gh j hlt
      have gj1 : 0 < j → wr.cell? ⟨b, off + (j - 1), none⟩ = some (.int .i64 (hs.getD (j - 1) 0)) := fun _ => gh (j - 1) (by omega)
      have gbz : b < wr.heap.size := Nat.lt_trans gb gz
      clear gh gB
      generalize hs.getD j 0 = h at *
      generalize hs.getD (j - 1) 0 = h0 at *
      have HW := Lib.hid hW
      clear hW
      by_cases t1 : h < f
      · have hfin : Hid (13 = termE f k hs) := Lib.hid (by rw [← hE.out, hR.out, hstep.out, if_pos (Or.inl t1)])
        clear gj1
        go_wp2_with fail
        go_ret
        exact ⟨ret_int hfin.out, HW.out.bl⟩
      have t1' : f ≤ h := by omega
      clear t1
      by_cases t2 : lastD f k < h
      · have hfin : Hid (13 = termE f k hs) := Lib.hid (by rw [← hE.out, hR.out, hstep.out, if_pos (Or.inr t2)])
        clear gj1
        go_wp2_with (go_at_call 40; refine (last_any f k f1 f2 k1 k2 _ n c _).mono ?_; rintro e w2 ⟨rfl, hb⟩; obtain ⟨hc, hf⟩ := bcell hb)
        go_ret
        exact ⟨ret_int hfin.out, (HW.out.next hb).bl⟩
      have t2' : h ≤ lastD f k := by omega
      clear t2
      by_cases t3 : 0 < j
      · have gk := gj1 t3
        have gk' : wr.cell? ⟨b, off + ((j : Int) - 1).toNat, none⟩ = some (.int .i64 h0) := by rw [show ((j : Int) - 1).toNat = j - 1 by omega]; exact gk
        clear gj1
        by_cases t4 : h ≤ h0
        · have hfin : Hid (11 = termE f k hs) := Lib.hid (by rw [← hE.out, hR.out, hstep.out, if_neg (by omega), if_pos ⟨t3, t4⟩])
          go_wp2_with (go_at_call 40; refine (last_any f k f1 f2 k1 k2 _ n c _).mono ?_; rintro e w2 ⟨rfl, hb⟩; obtain ⟨hc, hf⟩ := bcell hb)
          go_ret
          exact ⟨ret_int hfin.out, (HW.out.next hb).bl⟩
        · have hnx : Hid (holE f (lastD f k) none hs = holE f (lastD f k) (pv hs (j + 1)) (hs.drop (j + 1))) := Lib.hid (by rw [hR.out, hstep.out, if_neg (by omega), if_neg (fun h => t4 h.2)])
          go_wp2_with (go_at_call 40; refine (last_any f k f1 f2 k1 k2 _ n c _).mono ?_; rintro e w2 ⟨rfl, hb⟩; obtain ⟨hc, hf⟩ := bcell hb)
          go_roundw
          case rel => exact ⟨j + 1, by omega, by go_num, hnx, HW.out.next hb⟩
          case measure => simp [intOf]; omega
      · clear gj1
        have hnx : Hid (holE f (lastD f k) none hs = holE f (lastD f k) (pv hs (j + 1)) (hs.drop (j + 1))) := Lib.hid (by rw [hR.out, hstep.out, if_neg (by omega), if_neg (fun h => t3 h.1)])
        go_wp2_with (go_at_call 40; refine (last_any f k f1 f2 k1 k2 _ n c _).mono ?_; rintro e w2 ⟨rfl, hb⟩; obtain ⟨hc, hf⟩ := bcell hb)
        go_roundw
        case rel => exact ⟨j + 1, by omega, by go_num, hnx, HW.out.next hb⟩
        case measure => simp [intOf]; omega
    · obtain rfl : j = n := by omega
      have hfin : Hid (0 = termE f k hs) := Lib.hid (by have := HL.out; subst this; rw [← hE.out, hR.out, holE_end])
      have hB := hW.bl
      clear hW
      go_wp2
      go_ret
      exact ⟨ret_int hfin.out, hB⟩
theorem term_any (f k : Int) (hs : List Int) (a : Option Addr) (n c : Nat) (w : World) (hI : IntsAt w a n hs) :
    Calls Tryz.prog 21 #[.agg #[.int .i64 f, .int .i64 k, .slice a n c]] w fun e w' => e = .returned (.int .i64 (termE f k hs)) ∧ Below w.heap.size w w' := by
  by_cases h : wday f ≠ 0 ∨ k < 1 ∨ 20 < k ∨ okDay (lastD f k) = false ∨ 64 < n ∨ n = 0
  · exact tvalA f k hs a n c w hI h
  · have h' : wday f = 0 ∧ 1 ≤ k ∧ k ≤ 20 ∧ okDay (lastD f k) = true ∧ n ≤ 64 ∧ 0 < n := by
      simp only [not_or, Decidable.not_not] at h
      obtain ⟨h1, h2, h3, h4, h5, h6⟩ := h
      exact ⟨h1, by omega, by omega, by simpa using h4, by omega, by omega⟩
    obtain ⟨h1, h2, h3, h4, h5, h6⟩ := h'
    obtain ⟨hl, _, h0 | ⟨b, off, rfl, hc⟩⟩ := hI
    · omega
    · exact tvalB f k hs b off n c w hl h6 h5 hc h1 h2 h3 h4
set_option maxHeartbeats 400000 in
theorem free_any (f k d : Int) (hs : List Int) (a : Option Addr) (n c : Nat) (w : World) (hI : IntsAt w a n hs) :
    Calls Tryz.prog 49 #[.agg #[.int .i64 f, .int .i64 k, .slice a n c], .int .i64 d] w fun e w' => e = .returned (.bool (!(hasI hs d))) ∧ Below w.heap.size w w' := by
  obtain ⟨hlen, hn, h0 | ⟨b, off, rfl, hh⟩⟩ := hI
  · subst h0
    obtain rfl : hs = [] := List.eq_nil_of_length_eq_zero hlen
    go_enter Tryz.func49, Tryz.ntmps49
    go_wp2
    go_loop [6, 10] (fun _ i => i = .int .i64 0) (fun _ _ => 0)
    case atStart => rfl
    case round =>
      obtain rfl := hrel
      go_wp2
      go_ret
      exact ⟨ret_bool (by rw [hasI_nil]; try rfl), (Below.refl _ _).alloc (Nat.le_refl _) _⟩
  · have HH := Lib.hid hh
    have HL := Lib.hid hlen
    clear hh hlen
    go_enter Tryz.func49, Tryz.ntmps49
    go_wp2
    go_loop [6, 10] (fun _ i => ∃ j : Nat, j ≤ n ∧ i = .int .i64 j ∧ Hid (hasI (hs.take j) d = false)) (fun _ i => n - (intOf i).toNat)
    case atStart => exact ⟨0, by omega, rfl, Lib.hid (by rw [List.take_zero, hasI_nil])⟩
    case round =>
      obtain ⟨j, hj, rfl, hR⟩ := hrel
      by_cases hlt : j < n
      · have gj := HH.out j hlt
        have gb : b < w.heap.size := World.block_lt_of_cell? _ ⟨b, off + j, none⟩ gj
        have hcn := Lib.hid (contains_take_succ hs j (by rw [HL.out]; exact hlt) d)
        have hcg := Lib.hid (contains_of_get hs j (by rw [HL.out]; exact hlt) d)
        generalize hs.getD j 0 = h at *
        by_cases t : h = d
        · have hf := Lib.hid (hcg.out t)
          have t' : (h == d) = true := by simpa using t
          clear t
          go_wp2
          go_ret
          exact ⟨ret_bool (by rw [hf.out]; rfl), (Below.refl _ _).alloc (Nat.le_refl _) _⟩
        · have t' : (h == d) = false := by simpa using t
          have hnx : Hid (hasI (hs.take (j + 1)) d = false) := Lib.hid (by rw [hcn.out, hR.out, t']; rfl)
          go_wp2
          go_round
          case rel => exact ⟨j + 1, by omega, by go_num, hnx⟩
          case measure => simp [intOf]; omega
      · obtain rfl : j = n := by omega
        have hf : Hid (hasI hs d = false) := Lib.hid (by have h1 := hR.out; rw [List.take_of_length_le (by rw [HL.out]; exact Nat.le_refl _)] at h1; exact h1)
        go_wp2
        go_ret
        exact ⟨ret_bool (by rw [hf.out]; rfl), (Below.refl _ _).alloc (Nat.le_refl _) _⟩
end Go.Proofs.YtcifdllbnbhcdaaGreatDoor.Rc
namespace Go.Proofs.YtcifdllbnbhcdaaGreatDoor
open Go.RowKit TT
theorem IntsAt.alloc {w : World} {a : Option Addr} {n : Nat} {hs : List Int} (h : IntsAt w a n hs) (o : Obj) : IntsAt (w.alloc o) a n hs := h.below ((Below.refl _ _).alloc (Nat.le_refl _) o)
end Go.Proofs.YtcifdllbnbhcdaaGreatDoor
namespace Go.Proofs.YtcifdllbnbhcdaaGreatDoor.Rc
open Go.RowKit TT
theorem ret_ib {a b : Int} {c d : Bool} (h : a = b) (h' : c = d) : Ending.returned (.tuple #[.int .i64 a, .bool c]) = .returned (.tuple #[.int .i64 b, .bool d]) := by rw [h, h']
set_option maxHeartbeats 1000000 in
theorem at_any (f k week wd : Int) (hs : List Int) (a : Option Addr) (n c : Nat) (w : World) (hI : IntsAt w a n hs) :
    Calls Tryz.prog 26 #[.agg #[.int .i64 f, .int .i64 k, .slice a n c], .int .i64 week, .int .i64 wd] w fun e w' => e = .returned (.tuple #[.int .i64 (atV f k hs week wd), .bool (atB f k hs week wd)]) ∧ Below w.heap.size w w' := by
  have HI := Lib.hid hI
  clear hI
  by_cases c0 : termE f k hs = 0
  rotate_left
  · have hB : Hid (false = atB f k hs week wd) := Lib.hid (by simp [atB, c0])
    have hV : Hid (0 = atV f k hs week wd) := Lib.hid (by unfold atV; rw [← hB.out]; rfl)
    have d0 : (termE f k hs != 0) = true := by rw [bne_iff_ne]; exact c0
    clear c0
    go_enter Tryz.func26, Tryz.ntmps26
    go_wp2_with (go_at_call 21; refine (term_any f k hs a n c _ (HI.out.alloc _)).mono ?_; rintro e w1 ⟨rfl, hb⟩; obtain ⟨hc, hf⟩ := bcell hb; simp only [World.size_alloc] at hc hf)
    go_ret2
    exact ⟨ret_ib hV.out hB.out, below2 hb⟩
  have Z := termE_zero c0
  obtain ⟨_, z1, z2, z3, z4, _, _, _, _, _⟩ := Z
  have C0 := Lib.hid c0
  have d0 : (termE f k hs != 0) = false := by rw [bne_eq_false_iff_eq]; exact c0
  clear c0
  by_cases c1 : 1 ≤ week ∧ week ≤ k ∧ 0 ≤ wd ∧ wd ≤ 6
  rotate_left
  · have hB : Hid (false = atB f k hs week wd) := Lib.hid (by simp [atB]; intro _ h1 h2 h3 h4; exact absurd ⟨h1, h2, h3, h4⟩ c1)
    have hV : Hid (0 = atV f k hs week wd) := Lib.hid (by unfold atV; rw [← hB.out]; rfl)
    by_cases e1 : week < 1
    · clear c1
      go_enter Tryz.func26, Tryz.ntmps26
      go_wp2_with (go_at_call 21; refine (term_any f k hs a n c _ (HI.out.alloc _)).mono ?_; rintro e w1 ⟨rfl, hb⟩; obtain ⟨hc, hf⟩ := bcell hb; simp only [World.size_alloc] at hc hf)
      go_ret2
      exact ⟨ret_ib hV.out hB.out, below2 hb⟩
    by_cases e2 : k < week
    · clear c1
      go_enter Tryz.func26, Tryz.ntmps26
      go_wp2_with (go_at_call 21; refine (term_any f k hs a n c _ (HI.out.alloc _)).mono ?_; rintro e w1 ⟨rfl, hb⟩; obtain ⟨hc, hf⟩ := bcell hb; simp only [World.size_alloc] at hc hf)
      go_ret2
      exact ⟨ret_ib hV.out hB.out, below2 hb⟩
    by_cases e3 : wd < 0
    · clear c1
      go_enter Tryz.func26, Tryz.ntmps26
      go_wp2_with (go_at_call 21; refine (term_any f k hs a n c _ (HI.out.alloc _)).mono ?_; rintro e w1 ⟨rfl, hb⟩; obtain ⟨hc, hf⟩ := bcell hb; simp only [World.size_alloc] at hc hf)
      go_ret2
      exact ⟨ret_ib hV.out hB.out, below2 hb⟩
    have e4 : 7 ≤ wd := by omega
    clear c1
    go_enter Tryz.func26, Tryz.ntmps26
    go_wp2_with (go_at_call 21; refine (term_any f k hs a n c _ (HI.out.alloc _)).mono ?_; rintro e w1 ⟨rfl, hb⟩; obtain ⟨hc, hf⟩ := bcell hb; simp only [World.size_alloc] at hc hf)
    go_ret2
    exact ⟨ret_ib hV.out hB.out, below2 hb⟩
  obtain ⟨e1, e2, e3, e4⟩ := c1
  have hB : Hid ((!(hasI hs (f + 7 * (week - 1) + wd))) = atB f k hs week wd) := Lib.hid (by simp [atB, C0.out, e1, e2, e3, e4])
  cases hh : hasI hs (f + 7 * (week - 1) + wd)
  · have hV : Hid (f + 7 * (week - 1) + wd = atV f k hs week wd) := Lib.hid (by unfold atV; rw [← hB.out, hh]; rfl)
    rw [hh] at hB
    go_enter Tryz.func26, Tryz.ntmps26
    go_wp2_with (first | (go_at_call 21; refine (term_any f k hs a n c _ (HI.out.alloc _)).mono ?_; rintro e w1 ⟨rfl, hb⟩; obtain ⟨hc, hf⟩ := bcell hb; simp only [World.size_alloc] at hc hf) | (go_at_call 49; refine (free_any f k _ hs a n c _ ((HI.out.alloc _).below hb)).mono ?_; rintro e w2 ⟨rfl, hb2⟩))
    go_ret2
    exact ⟨ret_ib hV.out hB.out, (below2 hb).trans (hb2.mono (Nat.le_trans (Nat.le_succ _) (by simpa using hb.size)))⟩
  · have hV : Hid (0 = atV f k hs week wd) := Lib.hid (by unfold atV; rw [← hB.out, hh]; rfl)
    rw [hh] at hB
    go_enter Tryz.func26, Tryz.ntmps26
    go_wp2_with (first | (go_at_call 21; refine (term_any f k hs a n c _ (HI.out.alloc _)).mono ?_; rintro e w1 ⟨rfl, hb⟩; obtain ⟨hc, hf⟩ := bcell hb; simp only [World.size_alloc] at hc hf) | (go_at_call 49; refine (free_any f k _ hs a n c _ ((HI.out.alloc _).below hb)).mono ?_; rintro e w2 ⟨rfl, hb2⟩))
    go_ret2
    exact ⟨ret_ib hV.out hB.out, (below2 hb).trans (hb2.mono (Nat.le_trans (Nat.le_succ _) (by simpa using hb.size)))⟩
theorem tbits_one (x : Int) (h0 : 0 ≤ x) (h1 : x ≤ 9223372036854775807) : bits .and .i64 x 1 = x % 2 := by
  obtain ⟨n, rfl⟩ := Int.eq_ofNat_of_zero_le h0
  have hn : n < 2 ^ 64 := by omega
  have hb : (BitVec.ofInt 64 (n : Int) &&& BitVec.ofInt 64 1).toNat = n % 2 := by
    rw [BitVec.toNat_and]
    have e1 : (BitVec.ofInt 64 (n : Int)).toNat = n := by simp; omega
    have e2 : (BitVec.ofInt 64 (1 : Int)).toNat = 1 := by decide
    rw [e1, e2, Nat.and_one_is_mod]
  show IntKind.i64.wrap (((BitVec.ofInt 64 (n : Int) &&& BitVec.ofInt 64 1).toNat : Nat) : Int) = _
  rw [hb]
  rw [IntWalk.i64_in _ (by omega)]
  omega
theorem tshr_bd (ws : Int) (j : Nat) (h0 : 0 ≤ ws) (h1 : ws ≤ 9223372036854775807) : 0 ≤ ws / 2 ^ j ∧ ws / 2 ^ j ≤ 9223372036854775807 := by
  have hp : (0 : Int) < 2 ^ j := Int.pow_pos (by decide)
  refine ⟨Int.ediv_nonneg h0 (Int.le_of_lt hp), Int.le_trans (Int.ediv_le_self _ h0) h1⟩
theorem tbit_eq0 (ws : Int) (j : Nat) (h0 : 0 ≤ ws) (h1 : ws ≤ 9223372036854775807) : (bits .and .i64 (ws / 2 ^ j) 1 == 0) = !bitT ws j := by
  obtain ⟨a, b⟩ := tshr_bd ws j h0 h1
  rw [tbits_one _ a b]
  unfold bitT
  rw [Bool.eq_iff_iff]
  simp only [beq_iff_eq, Bool.not_eq_true', decide_eq_false_iff_not]
  omega
structure DayW (w wr : World) (f k ws d s l : Int) (a : Option Addr) (n c : Nat) : Prop where
  c0 : wr.cell? ⟨w.heap.size, 0, none⟩ = some (.int .i64 f)
  c1 : wr.cell? ⟨w.heap.size, 1, none⟩ = some (.int .i64 k)
  c2 : wr.cell? ⟨w.heap.size, 2, none⟩ = some (.slice a n c)
  t0 : wr.cell? ⟨w.heap.size + 1, 0, none⟩ = some (.int .i64 ws)
  t1 : wr.cell? ⟨w.heap.size + 1, 1, none⟩ = some (.int .i64 d)
  sz : w.heap.size + 1 < wr.heap.size
  bl : Below w.heap.size w wr
theorem DayW.next {w wr w2 : World} {f k ws d s l : Int} {a : Option Addr} {n c : Nat} (h : DayW w wr f k ws d s l a n c) (hb : Below (w.heap.size + 2) wr w2) : DayW w w2 f k ws d s l a n c :=
  ⟨by rw [hb.cell (p := ⟨w.heap.size, 0, none⟩) (by simp)]; exact h.c0, by rw [hb.cell (p := ⟨w.heap.size, 1, none⟩) (by simp)]; exact h.c1, by rw [hb.cell (p := ⟨w.heap.size, 2, none⟩) (by simp)]; exact h.c2,
   by rw [hb.cell (p := ⟨w.heap.size + 1, 0, none⟩) (by simp)]; exact h.t0, by rw [hb.cell (p := ⟨w.heap.size + 1, 1, none⟩) (by simp)]; exact h.t1, Nat.lt_of_lt_of_le h.sz hb.size, h.bl.trans (hb.mono (by omega))⟩
theorem DayW.mk0 (w : World) (f k ws d s l : Int) (a : Option Addr) (n c : Nat) (T U : TypeId) :
    DayW w ((w.alloc (.cells #[.int .i64 f, .int .i64 k, .slice a n c] T)).alloc (.cells #[.int .i64 ws, .int .i64 d, .int .i64 s, .int .i64 l] U)) f k ws d s l a n c :=
  ⟨by simp, by simp, by simp, by simp, by simp, by simp, ((Below.refl _ _).alloc (Nat.le_refl _) _).alloc (by simp) _⟩
theorem Tryz.info_int : (Tryz.prog.info? 3).map (fun i => (i.zero, i.size, i.bytes)) = some (some (.int .i64 0), 1, 8) := by kernel_rfl
theorem daysRow {w w2 : World} {v' : Value} {L : List Int} {x : Int}
    (hown' : w2.ownsRow (w.heap.size + 2) 3 1 v' (L.length + 1) (L.map (Value.int .i64) ++ [.int .i64 x])) : w2.ownsRow (w.heap.size + 2) 3 1 v' (L ++ [x]).length ((L ++ [x]).map (Value.int .i64)) := by
  simpa using hown'
theorem ownsRow_below {w w' : World} {base : Nat} {e : TypeId} {size : Nat} {v : Value} {n : Nat} {xs : List Value} (h : w.ownsRow base e size v n xs) (hb : Below w.heap.size w w') : w'.ownsRow base e size v n xs := by
  obtain ⟨h1, h2⟩ := id h
  refine ⟨h1, ?_⟩
  rcases h2 with h2 | ⟨g, cap, cur, hv, hg, hh, r⟩
  · exact Or.inl h2
  · have hlt := h.lt g (by rw [hv]; rfl)
    exact Or.inr ⟨g, cap, cur, hv, hg, by rw [hb.block g hlt.2]; exact hh, r⟩
set_option maxRecDepth 100000 in
set_option maxHeartbeats 1600000 in
theorem days_any' (ws d s l f k : Int) (hs : List Int) (a : Option Addr) (n c : Nat) (w : World) (hI : IntsAt w a n hs) (hws2 : ws ≤ 9223372036854775807) :
    Calls Tryz.prog 11 #[.agg #[.int .i64 f, .int .i64 k, .slice a n c], .agg #[.int .i64 ws, .int .i64 d, .int .i64 s, .int .i64 l]] w fun e w' =>
      ∃ v, e = .returned v ∧ w'.ownsRow (w.heap.size + 2) 3 1 v (daysL f k hs ws d 20).length ((daysL f k hs ws d 20).map (Value.int .i64)) ∧ Below w.heap.size w w' := by
  have HI := Lib.hid hI
  clear hI
  obtain ⟨i0, hi, hz0, hz1, hz2⟩ := info_parts Tryz.info_int
  have HI0 := Lib.hid hi; have HZ0 := Lib.hid hz0; have HZ1 := Lib.hid hz1; have HZ2 := Lib.hid hz2
  clear hi hz0 hz1 hz2
  go_enter Tryz.func11, Tryz.ntmps11
  go_wp2
  go_loopw [5, 6, 7, 8, 9] (fun v _ _ _ i wr => ∃ j : Nat, j ≤ 20 ∧ i = .int .i64 j ∧ wr.ownsRow (w.heap.size + 2) 3 1 v (daysL f k hs ws d j).length ((daysL f k hs ws d j).map (Value.int .i64)) ∧ DayW w wr f k ws d s l a n c) (fun _ _ _ _ i _ => 20 - (intOf i).toNat)
  case atStart => exact ⟨0, by omega, rfl, World.ownsRow_nil _ _ _ _, DayW.mk0 ..⟩
  case round =>
    obtain ⟨j, hj, rfl, hown, hW⟩ := hrel
    obtain ⟨c0, c1, c2, t0, t1, sz, bl⟩ := id hW
    have sz' : w.heap.size < wr.heap.size := by omega
    have HW := Lib.hid hW
    have HO := Lib.hid hown
    have BL := Lib.hid bl
    clear hW hown bl
    by_cases hlt : j < 20
    · by_cases hb : bitT ws j = true
      · have h0 : 0 ≤ ws := by have := hb; simp [bitT] at this; exact this.1
        have hbit := tbit_eq0 ws j h0 hws2
        rw [hb] at hbit
        simp only [Bool.not_true] at hbit
        have HB := Lib.hid hb
        clear hb
        cases hA : atB f k hs (j + 1) d
        · have hm : Hid (daysL f k hs ws d (j + 1) = daysL f k hs ws d j) := Lib.hid (daysL_miss (Or.inr hA))
          go_wp2_with (go_at_call 26; refine (at_any f k _ _ hs a n c _ (HI.out.below BL.out)).mono ?_; rintro e w1 ⟨rfl, hb1⟩; rw [hA])
          go_roundw
          case rel => exact ⟨j + 1, by omega, by go_num, by rw [hm.out]; exact ownsRow_below HO.out hb1, HW.out.next (hb1.mono sz)⟩
          case measure => simp [intOf]; omega
        · have hm : Hid (daysL f k hs ws d (j + 1) = daysL f k hs ws d j ++ [atV f k hs (j + 1) d]) := Lib.hid (daysL_hit HB.out hA)
          have hlen := daysL_len f k hs ws d j
          go_wp2_with (first | (go_at_call 26; refine (at_any f k _ _ hs a n c _ (HI.out.below BL.out)).mono ?_; rintro e w1 ⟨rfl, hb1⟩; rw [hA]) | (at_builtin; refine wpList_append_own _ rfl _ _ 22 rfl (w.heap.size + 2) 3 i0 (.int .i64 0) 1 8 Tryz.underlying22 HI0.out HZ0.out HZ1.out HZ2.out rfl (by decide) _ _ _ rfl ((ownsRow_below HO.out hb1).alloc _) ⟨w1.heap.size, 0, none⟩ 1 1 [.int .i64 (atV f k hs (j + 1) d)] rfl rfl ?c1 ?c2 ?c3 ?c4 ?c5 ?_))
          case c1 =>
            intro j u hj
            match j, hj with
            | 0, hj => simp at hj; subst hj; simp [Addr.add]
          case c2 => intro u hu; simp at hu; subst hu; rfl
          case c3 => unfold maxLen; omega
          case c4 => omega
          case c5 => have := hb1.size; simp; omega
          intro v' w2 hown' hgrow _
          have hown2 := Lib.hid (daysRow hown')
          have hB2 : Hid (Below (w.heap.size + 2) wr w2) := Lib.hid (((hb1.mono sz).alloc (by have := hb1.size; omega) _).grown hgrow (by have := hb1.size; simp; omega) (fun q hq => ((ownsRow_below HO.out hb1).lt q hq).1))
          clear hown' hgrow hb1
          go_wp2
          go_roundw
          case rel => exact ⟨j + 1, by omega, by go_num, by rw [hm.out]; exact hown2.out, HW.out.next hB2.out⟩
          case measure => simp [intOf]; omega
      · have hb' : bitT ws j = false := by simpa using hb
        have hm : Hid (daysL f k hs ws d (j + 1) = daysL f k hs ws d j) := Lib.hid (daysL_miss (Or.inl hb'))
        by_cases h0 : 0 ≤ ws
        · have hbit := tbit_eq0 ws j h0 hws2
          rw [hb'] at hbit
          simp only [Bool.not_false] at hbit
          clear hb hb'
          go_wp2
          go_roundw
          case rel => exact ⟨j + 1, by omega, by go_num, by rw [hm.out]; exact HO.out, HW.out⟩
          case measure => simp [intOf]; omega
        · clear hb hb'
          go_wp2
          go_roundw
          case rel => exact ⟨j + 1, by omega, by go_num, by rw [hm.out]; exact HO.out, HW.out⟩
          case measure => simp [intOf]; omega
    · obtain rfl : j = 20 := by omega
      go_wp2
      go_ret
      exact ⟨_, rfl, HO.out, BL.out⟩
theorem days_ints (ws d s l f k : Int) (hs : List Int) (a : Option Addr) (n c : Nat) (w : World) (hI : IntsAt w a n hs) (hws2 : ws ≤ 9223372036854775807) :
    Calls Tryz.prog 11 #[.agg #[.int .i64 f, .int .i64 k, .slice a n c], .agg #[.int .i64 ws, .int .i64 d, .int .i64 s, .int .i64 l]] w fun e w' =>
      ∃ a' cap, e = .returned (.slice a' (daysL f k hs ws d 20).length cap) ∧ IntsAt w' a' (daysL f k hs ws d 20).length (daysL f k hs ws d 20) ∧ Below w.heap.size w w' :=
  (days_any' ws d s l f k hs a n c w hI hws2).mono fun e w' ⟨v, he, ho, hb⟩ => by
    obtain ⟨a', cap, rfl, hi⟩ := IntsAt.of_owns ho
    exact ⟨a', cap, he, hi, hb⟩
theorem ownsRow_but {p : Nat} {w w' : World} {base : Nat} {e : TypeId} {size : Nat} {v : Value} {n : Nat} {xs : List Value} (h : w.ownsRow base e size v n xs) (hb : But p w w') (hp : p < base) : w'.ownsRow base e size v n xs := by
  obtain ⟨h1, h2⟩ := id h
  refine ⟨h1, ?_⟩
  rcases h2 with h2 | ⟨g, cap, cur, hv, hg, hh, r⟩
  · exact Or.inl h2
  · have hlt := h.lt g (by rw [hv]; rfl)
    exact Or.inr ⟨g, cap, cur, hv, hg, by rw [hb.block g hlt.2 (by omega)]; exact hh, r⟩
structure TermW (w wr : World) (p b3 : Nat) (f k : Int) (v : Value) (hs : List Int) : Prop where
  h3 : wr.heap[b3]? = some (.cells #[.int .i64 f, .int .i64 k, v] 31 (0, 0))
  h2 : wr.heap[w.heap.size]? = some (.cells #[.int .i64 0, .int .i64 0, .slice none 0 0] 31 (0, 0))
  own : wr.ownsRow (b3 + 1) 3 1 v hs.length (hs.map (Value.int .i64))
  dice : DiceAt wr p
  but : But p w wr
  lt : w.heap.size < b3
theorem TermW.but_next {w wr w2 : World} {p b3 : Nat} {f k : Int} {v : Value} {hs : List Int} (h : TermW w wr p b3 f k v hs) (hp : p < w.heap.size) (hd : DiceAt w2 p) (hb : But p wr w2) : TermW w w2 p b3 f k v hs :=
  ⟨(hb.block b3 (lt_of_heap h.h3) (by have := h.lt; omega)).trans h.h3, (hb.block _ (lt_of_heap h.h2) (by omega)).trans h.h2, ownsRow_but h.own hb (by have := h.lt; omega), hd, h.but.trans hb, h.lt⟩
theorem cells3_of {w : World} {b : Nat} {x0 x1 x2 : Value} {T : TypeId} (h : w.heap[b]? = some (.cells #[x0, x1, x2] T (0, 0))) :
    (w.cell? ⟨b, 0, none⟩ = some x0 ∧ w.cell? ⟨b, 1, none⟩ = some x1 ∧ w.cell? ⟨b, 2, none⟩ = some x2) ∧ w.frozen? ⟨b, 0, none⟩ = false ∧ w.frozen? ⟨b, 1, none⟩ = false ∧ w.frozen? ⟨b, 2, none⟩ = false := by
  simp [World.cell?, World.frozen?, h]
def MadeTerm (p : Nat) (w : World) (e : Ending) (w' : World) : Prop :=
  ∃ (f k : Int) (hs : List Int) (a : Option Addr) (c : Nat), e = .returned (.agg #[.int .i64 f, .int .i64 k, .slice a hs.length c]) ∧ termE f k hs = 0 ∧ List.Pairwise (· < ·) hs ∧ (∀ h ∈ hs, f ≤ h ∧ h ≤ lastD f k) ∧ k ≤ 8 ∧ f ≤ 36000 ∧ hs.length ≤ 5 ∧ (hs = [] → a = none ∧ c = 0) ∧ (∀ b off, a = some ⟨b, off, none⟩ → 0 < hs.length → b ≠ p) ∧ IntsAt w' a hs.length hs ∧ DiceAt w' p ∧ But p w w'
end Go.Proofs.YtcifdllbnbhcdaaGreatDoor.Rc
namespace Go.Proofs.YtcifdllbnbhcdaaGreatDoor
open Go.RowKit TT
theorem IntsAt.of_owns' {w : World} {base : Nat} {e : TypeId} {a : Option Addr} {n c : Nat} {L : List Int} (h : w.ownsRow base e 1 (.slice a n c) L.length (L.map (Value.int .i64))) : IntsAt w a L.length L := by
  obtain ⟨a', cap, e, hi⟩ := IntsAt.of_owns h
  cases e; exact hi
end Go.Proofs.YtcifdllbnbhcdaaGreatDoor
namespace Go.Proofs.YtcifdllbnbhcdaaGreatDoor.Rc
open Go.RowKit TT
theorem made_fin {w wX : World} {p b3 : Nat} {r k : Int} {a : Option Addr} {c : Nat} {hs : List Int} (r0 : 0 ≤ r) (r1 : r < 5000) (k0 : 0 ≤ k) (k1 : k < 8) (hlen : hs.length ≤ 5) (hnl : hs = [] → a = none ∧ c = 0) (hp : p < w.heap.size)
    (hok : okHol (2 + 7 * r) (lastD (2 + 7 * r) (1 + k)) hs) (hW : TermW w wX p b3 (2 + 7 * r) (1 + k) (.slice a hs.length c) hs) :
    MadeTerm p w (.returned (.agg #[.int .i64 (2 + 7 * r), .int .i64 (1 + k), .slice a hs.length c]))
      (((wX.setCell ⟨w.heap.size, 0, none⟩ (.int .i64 (2 + 7 * r))).setCell ⟨w.heap.size, 1, none⟩ (.int .i64 (1 + k))).setCell ⟨w.heap.size, 2, none⟩ (.slice a hs.length c)) := by
  have hlt := hW.lt
  have hblk : ∀ q, q ≠ w.heap.size → (((wX.setCell ⟨w.heap.size, 0, none⟩ (.int .i64 (2 + 7 * r))).setCell ⟨w.heap.size, 1, none⟩ (.int .i64 (1 + k))).setCell ⟨w.heap.size, 2, none⟩ (.slice a hs.length c)).heap[q]? = wX.heap[q]? := fun q hq => by
    rw [heap_setCell_other _ _ _ _ hq, heap_setCell_other _ _ _ _ hq, heap_setCell_other _ _ _ _ hq]
  refine ⟨2 + 7 * r, 1 + k, hs, a, c, rfl, termE_made r0 r1 (by omega) (by omega) hlen hok, hok.1, hok.2, by omega, by omega, hlen, hnl, (fun b off ha _ => by have := (hW.own.lt b (by rw [ha]; rfl)).1; omega), ?_, hW.dice.same (fun q hq => hblk q (by omega)), ?_⟩
  · refine IntsAt.of_owns' (base := b3 + 1) (e := 3) (n := hs.length) (c := c) ?_
    exact ownsRow_setCell_below (ownsRow_setCell_below (ownsRow_setCell_below hW.own (by show w.heap.size < b3 + 1; omega) _) (by show w.heap.size < b3 + 1; omega) _) (by show w.heap.size < b3 + 1; omega) _
  · refine ⟨hW.but.os, hW.but.tape, hW.but.output, by simpa using hW.but.size, fun q hq hqp => ?_⟩
    rw [hblk q (by omega)]; exact hW.but.block q hq hqp
theorem TermW.grow {w w4 w5 : World} {p b3 g cap : Nat} {f k x : Int} {v : Value} {hs : List Int} {o : Obj} (h : TermW w w4 p b3 f k v hs) (hp : p < w.heap.size)
    (hown' : w5.ownsRow (b3 + 1) 3 1 (.slice (some ⟨g, 0, none⟩) (hs.length + 1) cap) (hs.length + 1) (hs.map (Value.int .i64) ++ [.int .i64 x])) (hgrow : (w4.alloc o).grownBy w5 v.ownBlock) :
    w5.heap[b3]? = some (.cells #[.int .i64 f, .int .i64 k, v] 31 (0, 0)) ∧
    TermW w (w5.setCell ⟨b3, 2, none⟩ (.slice (some ⟨g, 0, none⟩) (hs.length + 1) cap)) p b3 f k (.slice (some ⟨g, 0, none⟩) (hs ++ [x]).length cap) (hs ++ [x]) := by
  have hlt := h.lt
  have hb3 := lt_of_heap h.h3
  have hne : ∀ q, q ≤ b3 → some q ≠ v.ownBlock := fun q hq e => by have := h.own.lt q e.symm; omega
  have hblk : ∀ q, q ≤ b3 → w5.heap[q]? = w4.heap[q]? := fun q hq => by
    rw [hgrow.block q (by simp; omega) (hne q hq), Below.heap_alloc _ _ _ (by omega)]
  have hblk' : ∀ q, q ≤ b3 → q ≠ b3 → (w5.setCell ⟨b3, 2, none⟩ (.slice (some ⟨g, 0, none⟩) (hs.length + 1) cap)).heap[q]? = w4.heap[q]? := fun q hq hn => by
    rw [heap_setCell_other _ _ _ _ hn, hblk q hq]
  refine ⟨(hblk b3 (Nat.le_refl _)).trans h.h3, ?_, ?_, ?_, h.dice.same (fun q hq => hblk' q (by omega) (by omega)), ?_, hlt⟩
  · rw [heap_setCell_same _ b3 2 _ _ _ ((hblk b3 (Nat.le_refl _)).trans h.h3)]
    simp
  · rw [hblk' _ (by omega) (by omega)]; exact h.h2
  · refine ownsRow_setCell_below ?_ (by show b3 < b3 + 1; omega) _
    simpa using hown'
  · have hz : w4.heap.size ≤ w5.heap.size := Nat.le_trans (by simp) hgrow.size
    have h1 : But p w4 (w4.alloc o) := But.of_below ((Below.refl _ _).alloc (Nat.le_refl _) o)
    refine ⟨hgrow.os.trans h.but.os, hgrow.tape.trans h.but.tape, hgrow.output.trans h.but.output, ?_, fun q hq hqp => ?_⟩
    · simp only [World.size_setCell]; exact Nat.le_trans h.but.size hz
    · rw [hblk' q (by omega) (by omega)]; exact h.but.block q hq hqp
set_option maxRecDepth 100000 in
set_option maxHeartbeats 2000000 in
theorem mterm_any (p : Nat) (w : World) (hD : DiceAt w p) : Calls Tryz.prog 8 #[.pointer (some ⟨p, 0, none⟩)] w (MadeTerm p w) := by
  have hp := hD.lt
  have HD := Lib.hid (hD.below ((Below.refl _ _).alloc (Nat.le_refl _) (.cells #[.int .i64 0, .int .i64 0, .slice none 0 0] 31)))
  clear hD
  obtain ⟨i0, hi, hz0, hz1, hz2⟩ := info_parts Tryz.info_int
  have HI0 := Lib.hid hi; have HZ0 := Lib.hid hz0; have HZ1 := Lib.hid hz1; have HZ2 := Lib.hid hz2
  clear hi hz0 hz1 hz2
  go_enter Tryz.func8, Tryz.ntmps8
  go_wp2_with fail
  refine (next_any p 5000 _ (by omega) (by omega) HD.out).mono ?_
  rintro e w1 ⟨r, r0, r1, rfl, hd1, hb1⟩
  go_wp2_with fail
  refine (next_any p 8 _ (by omega) (by omega) hd1).mono ?_
  rintro e w2 ⟨k, k0, k1, rfl, hd2, hb2⟩
  go_wp2_with fail
  have hT : TermW w (w2.alloc (.cells #[.int .i64 (2 + 7 * r), .int .i64 (1 + k), .slice none 0 0] 31)) p w2.heap.size (2 + 7 * r) (1 + k) (.slice none ([] : List Int).length 0) [] := by
    have z1 := hb1.size
    have z2 := hb2.size
    simp only [World.size_alloc] at z1
    refine ⟨?_, ?_, World.ownsRow_nil _ _ _ _, hd2.below ((Below.refl _ _).alloc (Nat.le_refl _) _), ?_, by omega⟩
    · show (w2.heap.push _)[w2.heap.size]? = _
      simp
    · rw [Below.heap_alloc _ _ _ (by omega), hb2.block _ (by omega) (by omega), hb1.block _ (by simp) (by omega)]
      show (w.heap.push _)[w.heap.size]? = _
      simp
    · exact (((But.of_below ((Below.refl _ _).alloc (Nat.le_refl _) _)).trans hb1).trans hb2).trans (But.of_below ((Below.refl _ _).alloc (Nat.le_refl _) _))
  refine (next_any p 5 _ (by omega) (by omega) hT.dice).mono ?_
  rintro e w3 ⟨j0, j00, j01, rfl, hd3, hb3⟩
  have hT3 := Lib.hid (hT.but_next hp hd3 hb3)
  clear hT hd3 hb3 hd2 hb2 hd1 hb1
  generalize w2.heap.size = b3 at *
  obtain ⟨j0, rfl⟩ := Int.eq_ofNat_of_zero_le j00
  go_wp2_with fail
  go_loopw [4, 5] (fun day q wr => ∃ (hs : List Int) (a : Option Addr) (c j : Nat) (dy : Int), q = .int .i64 j ∧ hs.length + j ≤ 5 ∧ Hid (hs = [] → a = none ∧ c = 0) ∧ day = .int .i64 dy ∧ 2 + 7 * r ≤ dy ∧ dy ≤ 2 + 7 * r + 7 * (1 + k) ∧ okHol (2 + 7 * r) (lastD (2 + 7 * r) (1 + k)) hs ∧ Hid (∀ x ∈ hs, x < dy) ∧ TermW w wr p b3 (2 + 7 * r) (1 + k) (.slice a hs.length c) hs) (fun _ q _ => (intOf q).toNat)
  case atStart => exact ⟨[], none, 0, j0, _, rfl, by simp; omega, Lib.hid (fun _ => ⟨rfl, rfl⟩), rfl, by omega, by omega, okHol_nil _ _, Lib.hid (fun x hx => by cases hx), hT3.out⟩
  case round =>
    obtain ⟨hs, a, c, j, dy, rfl, hlen, hnl, rfl, y1, y2, hok, hlt, hW⟩ := hrel
    have HOK := Lib.hid hok
    have HW := Lib.hid hW
    have e3 := hW.h3
    have c0 : wr.cell? ⟨b3, 0, none⟩ = some (.int .i64 (2 + 7 * r)) := by simp [World.cell?, e3]
    have c1 : wr.cell? ⟨b3, 1, none⟩ = some (.int .i64 (1 + k)) := by simp [World.cell?, e3]
    have c2 : wr.cell? ⟨b3, 2, none⟩ = some (.slice a hs.length c) := by simp [World.cell?, e3]
    clear hok hW e3
    by_cases hj : 0 < j
    · go_wp2_with fail
      refine (next_any p 20 _ (by omega) (by omega) HW.out.dice).mono ?_
      rintro e w4 ⟨x, x0, x1, rfl, hd4, hb4⟩
      have hW4 := HW.out.but_next hp hd4 hb4
      have HW4 := Lib.hid hW4
      have e3 := hW4.h3
      have c0' : w4.cell? ⟨b3, 0, none⟩ = some (.int .i64 (2 + 7 * r)) := by simp [World.cell?, e3]
      have c1' : w4.cell? ⟨b3, 1, none⟩ = some (.int .i64 (1 + k)) := by simp [World.cell?, e3]
      have c2' : w4.cell? ⟨b3, 2, none⟩ = some (.slice a hs.length c) := by simp [World.cell?, e3]
      clear hW4 e3 hd4 hb4 c0 c1 c2
      by_cases hbr : 2 + 7 * r + 7 * (1 + k) ≤ dy + x
      · obtain ⟨⟨d0, d1, d2⟩, g0, g1, g2⟩ := cells3_of HW4.out.h2
        go_wp2_with fail
        refine bodyPost_ret (v := .agg #[.int .i64 (2 + 7 * r), .int .i64 (1 + k), .slice a hs.length c]) ?_ rfl (made_fin r0 r1 k0 k1 (by omega) hnl.out hp HOK.out HW4.out)
        have hne : w.heap.size < w4.heap.size := lt_of_heap HW4.out.h2
        simp [results, Tryz.results8, go_sem, d0, d1, d2]
      · have y3 : dy + x ≤ lastD (2 + 7 * r) (1 + k) := by unfold lastD; omega
        have hnx : Hid (okHol (2 + 7 * r) (lastD (2 + 7 * r) (1 + k)) (hs ++ [dy + x])) := Lib.hid (okHol_snoc HOK.out (by omega) y3 (fun q hq => by have := hlt.out q hq; omega))
        have hlx : Hid (∀ q ∈ hs ++ [dy + x], q < dy + x + 1) := Lib.hid (fun q hq => by
          rcases List.mem_append.1 hq with hq | hq
          · have := hlt.out q hq; omega
          · simp at hq; omega)
        clear y3
        go_wp2_with (at_builtin; refine wpList_append_own _ rfl _ _ 22 rfl (b3 + 1) 3 i0 (.int .i64 0) 1 8 Tryz.underlying22 HI0.out HZ0.out HZ1.out HZ2.out rfl (by decide) _ _ _ rfl (HW4.out.own.alloc _) ⟨w4.heap.size, 0, none⟩ 1 1 [.int .i64 (dy + x)] rfl rfl ?c1 ?c2 ?c3 ?c4 ?c5 ?_)
        case c1 =>
          intro j u hj
          match j, hj with
          | 0, hj => simp at hj; subst hj; simp [Addr.add]
        case c2 => intro u hu; simp at hu; subst hu; rfl
        case c3 => unfold maxLen; omega
        case c4 => omega
        case c5 => have := lt_of_heap HW4.out.h3; simp; omega
        intro v' w5 hown' hgrow _
        obtain ⟨g, cap, hv⟩ := ownsRow_succ hown'
        subst hv
        obtain ⟨h5, hT5⟩ := HW4.out.grow hp hown' hgrow
        obtain ⟨⟨d0, d1, d2⟩, g0, g1, g2⟩ := cells3_of h5
        have HT5 := Lib.hid hT5
        clear hown' hgrow hT5 h5 c0' c1' c2'
        go_wp2_with fail
        go_roundw
        case rel => exact ⟨hs ++ [dy + x], some ⟨g, 0, none⟩, cap, j - 1, dy + x + 1, by rw [show ((j - 1 : Nat) : Int) = (j : Int) - 1 by omega], by simp; omega, Lib.hid (fun h => by simp at h), by go_num, by omega, by omega, hnx.out, hlx, HT5.out⟩
        case measure => simp [intOf]; omega
    · obtain rfl : j = 0 := by omega
      obtain ⟨⟨d0, d1, d2⟩, g0, g1, g2⟩ := cells3_of HW.out.h2
      go_wp2_with fail
      refine bodyPost_ret (v := .agg #[.int .i64 (2 + 7 * r), .int .i64 (1 + k), .slice a hs.length c]) ?_ rfl (made_fin r0 r1 k0 k1 (by omega) hnl.out hp HOK.out HW.out)
      have hne : w.heap.size < wr.heap.size := lt_of_heap HW.out.h2
      simp [results, Tryz.results8, go_sem, d0, d1, d2]
end Go.Proofs.YtcifdllbnbhcdaaGreatDoor.Rc
