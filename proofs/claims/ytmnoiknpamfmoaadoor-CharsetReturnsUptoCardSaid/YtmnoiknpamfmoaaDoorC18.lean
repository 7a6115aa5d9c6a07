import Derived.Test.YtmnoiknpamfmoaaDoorC17
namespace Go.Proofs.YtmnoiknpamfmoaaDoor
open Go.RowKit CS

/-! ### IndexFunc -/

def above (x : Nat) : Bool := decide (127 < x)

theorem idx_plain (s : ByteArray) : ∀ (f pos : Nat), s.size - pos ≤ f → decide (Lib.idxFuncFrom above true s f pos < 0) = plainL (s.data.toList.drop pos)
  | 0, pos, h => by
    have : s.data.toList.drop pos = [] := List.drop_eq_nil_iff.2 (by have e : s.data.toList.length = s.size := rfl; omega)
    rw [this]; rfl
  | f + 1, pos, h => by
    unfold Lib.idxFuncFrom
    by_cases hp : pos < s.size
    · have hne : s.data.toList.drop pos ≠ [] := by intro e; have := List.drop_eq_nil_iff.1 e; have e : s.data.toList.length = s.size := rfl; omega
      rw [if_pos hp, ← Lib.decodeL_drop]
      obtain ⟨x, t, hxt⟩ : ∃ x t, s.data.toList.drop pos = x :: t := by
        cases hc : s.data.toList.drop pos with
        | nil => exact absurd hc hne
        | cons x t => exact ⟨x, t, rfl⟩
      by_cases hx : x.toNat < 128
      · have e1 : Lib.decodeL (s.data.toList.drop pos) = (x.toNat, 1) := by
          rw [hxt, Lib.decodeL_N]
          simp only [getD_at]
          unfold Lib.decodeN
          rw [if_pos hx]
        rw [e1]
        have e2 : above x.toNat = false := by unfold above; simp; omega
        simp only [e2, Bool.false_eq_true, if_false]
        rw [idx_plain s f (pos + 1) (by omega), ← List.drop_drop, hxt]
        simp [plainL, hx]
      · have e2 : 128 ≤ (Lib.decodeL (s.data.toList.drop pos)).1 := by
          rw [Lib.decodeL_drop]
          have hb : (s[pos]'hp) = x := by
            have hp' : pos < s.data.toList.length := hp
            have h1 : s.data.toList[pos]'hp' = x := by
              have := List.drop_eq_getElem_cons hp'
              rw [hxt] at this
              exact (List.cons.inj this).1.symm
            exact h1
          exact (decode_high s pos hp (by rw [hb]; omega)).1
        have e3 : above (Lib.decodeL (s.data.toList.drop pos)).1 = true := by unfold above; simp; omega
        simp only [e3, if_true]
        rw [hxt]
        have : ¬ ((pos : Int) < 0) := by omega
        simp [plainL, hx, this]
    · rw [if_neg hp]
      have : s.data.toList.drop pos = [] := List.drop_eq_nil_iff.2 (by have e : s.data.toList.length = s.size := rfl; omega)
      rw [this]; rfl

theorem idx_all (l : L8) : decide (Lib.idxFunc above true (arr l) < 0) = plainL l := by
  have := idx_plain (arr l) (arr l).size 0 (by omega)
  exact this

theorem enters28 (args : Array Value) (w : World) : (callFunc 28 args).run Tryd.prog w = .ok (.enter 28 args) w := enters_of Tryd.func28 (by kernel_rfl) rfl args w

/-- It hands back a value; all that lay, lies. -/
def RetB (v : Value) (w : World) (e : Ending) (w' : World) : Prop := e = .returned v ∧ Below w.heap.size w w'

theorem index_any (l : L8) (w : World) :
    Calls Tryd.prog 27 #[.string (arr l), .func (.func 28) #[] #[]] w (RetB (.int .i64 (Lib.idxFunc above true (arr l))) w) := by
  refine Tryd.strings_IndexFunc_runes 28 #[] enters28 above (arr l) w (fun W x hx _ => ?_)
  refine (above_any (x : Int) W).mono ?_
  rintro e w' ⟨rfl, rfl⟩
  refine ⟨?_, 0, rfl⟩
  refine ret_bool ?_
  unfold above
  rw [Bool.eq_iff_iff]
  simp
  omega

/-! ### Detect -/

set_option maxHeartbeats 1000000 in
set_option maxRecDepth 100000 in
theorem Detect_any (v : Value) (l : L8) (w : World) (hB : BSlice w v l) (hl : l.length ≤ 9223372036854775807) (hT : Lib.Utf8Tabs 0 1 w) :
    Calls Tryd.prog 16 #[v] w fun e w' => e = .returned (.int .i64 (detR l)) ∧ Below w.heap.size w w' := by
  have k1 := conv_bslice hB
  have HI := Lib.hid (index_any l w)
  have HM := Lib.hid (fun w => has_mark l w)
  have HV := Lib.hid (fun w1 (hb : Below w.heap.size w w1) => valid_any (arr l) w1 (by rw [arr_size]; exact hl) (Utf8Tabs_below hT hb))
  have HX := idx_all l
  have D : Hid (detR l = if marked l then 3 else if plainL l then 1 else if Lib.validD l then 3 else 2) := Lib.hid rfl
  clear hB hT hl
  generalize Lib.idxFunc above true (arr l) = ix at *
  cases hm : marked l <;> cases hp : plainL l
  all_goals
    rw [hm] at D
    rw [hm] at HM
    rw [hp] at D HX
  · cases hv : Lib.validD l
    all_goals
      have HVV : Lib.validD (arr l).data.toList = Lib.validD l := rfl
      rw [hv] at D HVV
      go_enter Tryd.func16, Tryd.ntmps16
      go_wp2_with (first | (go_at_call 27; refine HI.out.mono ?_) | fail)
      rintro e w1 ⟨rfl, hb1⟩
      have HV1 := Lib.hid (HV.out w1 hb1)
      rw [HVV] at HV1
      clear HVV
      have HB1 := Lib.hid hb1
      clear hb1
      go_wp2_with (first | (go_at_call 19; refine (HM.out _).mono ?_; rintro e w' ⟨rfl, rfl⟩) | (go_at_call 25; refine HV1.out.mono ?_))
      rintro e w2 ⟨rfl, hb2⟩
      have HB2 := Lib.hid (HB1.out.trans (hb2.mono HB1.out.size))
      clear hb2
      go_wp2
      go_ret
      exact ⟨ret_int (by rw [D.out]; rfl), HB2.out⟩
  all_goals
    go_enter Tryd.func16, Tryd.ntmps16
    go_wp2_with (first | (go_at_call 27; refine HI.out.mono ?_) | fail)
    rintro e w1 ⟨rfl, hb1⟩
    have HB1 := Lib.hid hb1
    clear hb1
    go_wp2_with (first | (go_at_call 19; refine (HM.out _).mono ?_; rintro e w' ⟨rfl, rfl⟩) | fail)
    go_ret
    exact ⟨ret_int (by rw [D.out]; rfl), HB1.out⟩

theorem plain_snoc (l : L8) (j : Nat) (h : j < l.length) : plainL (l.take (j + 1)) = (plainL (l.take j) && decide (((l.getD j 0).toNat : Int) < 128)) := by
  have e : l.getD j 0 = l[j] := by simp [List.getD, h]
  rw [List.take_succ_eq_append_getElem h, e]
  generalize l[j] = x
  unfold plainL
  rw [List.all_append]
  have e2 : decide (x.toNat < 128) = decide ((x.toNat : Int) < 128) := by rw [Bool.eq_iff_iff]; simp; omega
  simp only [List.all_cons, List.all_nil, Bool.and_true, e2]

set_option maxHeartbeats 1000000 in
set_option maxRecDepth 100000 in
theorem rDetect_any (v : Value) (l : L8) (w : World) (hB : BSlice w v l) (hl : l.length ≤ 1048576) :
    Calls Tryd.prog 17 #[v] w fun e w' => e = .returned (.int .i64 (detR l)) ∧ Below w.heap.size w w' := by
  have k1 := conv_bslice hB
  have HM := Lib.hid (marked_any l v w hB (by omega))
  have HP : Hid (Calls Tryd.prog 13 #[.string (arr l)] w (RetB (.bool (Lib.validD l)) w)) := Lib.hid (proper_any l (by omega) w)
  have HBS := Lib.hid hB
  have D : Hid (detR l = if marked l then 3 else if plainL l then 1 else if Lib.validD l then 3 else 2) := Lib.hid rfl
  obtain ⟨a, n, cap, rfl, hn⟩ : ∃ a n cap, v = .slice a n cap ∧ n = l.length := by
    rcases hB with ⟨a, cap, rfl, rfl⟩ | ⟨b, off, cap, rfl, _, _⟩
    · exact ⟨_, _, _, rfl, rfl⟩
    · exact ⟨_, _, _, rfl, rfl⟩
  have HN := Lib.hid hn
  have hn2 : n ≤ 1048576 := by omega
  clear hB hl hn
  cases hm : marked l
  · rw [hm] at HM D
    go_enter Tryd.func17, Tryd.ntmps17
    go_wp2_with (first | (go_at_call 23; refine HM.out.mono ?_; rintro e w' ⟨rfl, rfl⟩) | fail)
    go_loop [3, 4] (fun p i => ∃ j : Nat, j ≤ n ∧ i = .int .i64 j ∧ p = .bool (plainL (l.take j))) (fun _ i => n - (intOf i).toNat)
    case atStart => exact ⟨0, Nat.zero_le _, rfl, rfl⟩
    case round =>
      obtain ⟨j, hj, rfl, rfl⟩ := hrel
      by_cases hlt : j < n
      · have hlt' : j < l.length := by have := HN.out; omega
        have hne : l ≠ [] := by
          intro e
          have : l.length = 0 := by rw [e]; rfl
          omega
        have hs := Lib.hid (plain_snoc l j hlt')
        obtain ⟨b, off, hav, hp⟩ : ∃ b off, a = some ⟨b, off, none⟩ ∧ Bytes w b off l := by
          rcases HBS.out with ⟨_, _, _, h⟩ | ⟨b, off, cap', h, _, hp⟩
          · exact absurd h hne
          · injection h with h1 h2 h3
            exact ⟨b, off, h1, hp⟩
        subst hav
        have c1 := hp j hlt'
        have hx : ((l.getD j 0).toNat : Int) < 256 := by have := (l.getD j 0).toNat_lt; omega
        have hx0 : 0 ≤ ((l.getD j 0).toNat : Int) := by omega
        clear hp hne hlt'
        generalize ((l.getD j 0).toNat : Int) = x at *
        cases hp : plainL (l.take j)
        · rw [hp] at hs
          go_wp2
          go_round
          case rel => exact ⟨j + 1, by omega, by go_num, by rw [hs.out]; rfl⟩
          case measure => simp [intOf]; omega
        · rw [hp] at hs
          go_wp2
          go_round
          case rel => exact ⟨j + 1, by omega, by go_num, by rw [hs.out]; rfl⟩
          case measure => simp [intOf]; omega
      · have e : l.take j = l := List.take_of_length_le (by have := HN.out; omega)
        rw [e]
        cases hp : plainL l
        · rw [hp] at D
          cases hv : Lib.validD l
          all_goals
            rw [hv] at HP D
            go_wp2_with (first | (go_at_call 13; refine HP.out.mono ?_) | fail)
            rintro e w2 ⟨rfl, hb2⟩
            go_wp2
            go_ret
            exact ⟨ret_int (by rw [D.out]; rfl), hb2⟩
        · rw [hp] at D
          go_wp2
          go_ret
          exact ⟨ret_int (by rw [D.out]; rfl), Below.refl _ _⟩
  · rw [hm] at HM D
    go_enter Tryd.func17, Tryd.ntmps17
    go_wp2_with (first | (go_at_call 23; refine HM.out.mono ?_; rintro e w' ⟨rfl, rfl⟩) | fail)
    go_ret
    exact ⟨ret_int (by rw [D.out]; rfl), Below.refl _ _⟩

end Go.Proofs.YtmnoiknpamfmoaaDoor
