/- Records: strings.IndexRune finds no rune of several bytes among ASCII bytes. -/
import Derived.Test.YtpiejpodaljefaaDoorF2
import Derived.Lib.MapLaws
import Derived.Lib.OthersKept
import Derived.Lib.TrimUEq
import Derived.Outline
import Derived.WalkMore
namespace Go.Proofs.YtpiejpodaljefaaDoor
open Go.RowKit

theorem dec_hi (l : L8) (h : 128 ≤ (l.getD 0 0).toNat) : 128 ≤ (Lib.decodeL l).1 ∧ ((Lib.decodeL l).1 < 55296 ∨ (57343 < (Lib.decodeL l).1 ∧ (Lib.decodeL l).1 ≤ 1114111)) ∧ ∀ j, j < (Lib.decodeL l).2 → 128 ≤ (l.getD j 0).toNat := by
  rw [Lib.decodeL_N]
  have k0 := (l.getD 0 0).toNat_lt
  rcases Lib.decodeN_shape l.length (l.getD 0 0).toNat (l.getD 1 0).toNat (l.getD 2 0).toNat (l.getD 3 0).toNat with ⟨a, e⟩ | ⟨a1, a2, a3, a4, e⟩ | ⟨a1, a2, a3, a4, a5, a6, e⟩ | ⟨a1, a2, a3, a4, a5, a6, a7, e⟩ | e
  · omega
  · rw [e]
    refine ⟨a4, by dsimp only; omega, fun j hj => ?_⟩
    rcases (show j = 0 ∨ j = 1 from by dsimp only at hj; omega) with rfl | rfl <;> omega
  · rw [e]
    refine ⟨by dsimp only; omega, by dsimp only; omega, fun j hj => ?_⟩
    rcases (show j = 0 ∨ j = 1 ∨ j = 2 from by dsimp only at hj; omega) with rfl | rfl | rfl <;> omega
  · rw [e]
    refine ⟨by dsimp only; omega, by dsimp only; omega, fun j hj => ?_⟩
    rcases (show j = 0 ∨ j = 1 ∨ j = 2 ∨ j = 3 from by dsimp only at hj; omega) with rfl | rfl | rfl | rfl <;> omega
  · rw [e]
    refine ⟨by decide, by dsimp only; omega, fun j hj => ?_⟩
    obtain rfl : j = 0 := by dsimp only at hj; omega
    exact h
/-- a rune of several bytes ends with a byte that is no ASCII -/
theorem enc_hi (r : Int) (h1 : 128 ≤ r) (hv : r < 55296 ∨ (57343 < r ∧ r ≤ 1114111)) : ∃ last : Nat, (last = 1 ∨ last = 2 ∨ last = 3) ∧ (Utf8.encode r).size = last + 1 ∧ ∀ h : last < (Utf8.encode r).size, 128 ≤ ((Utf8.encode r)[last]).toNat := by
  have e : Utf8.valid r = true := by unfold Utf8.valid; simp; omega
  obtain ⟨c, rfl⟩ : ∃ c : Nat, r = c := ⟨r.toNat, by omega⟩
  have ht : ∀ n : Nat, n < 128 → 128 ≤ (UInt8.ofNat (0x80 + n)).toNat := fun n hn => by
    rw [UInt8.toNat_ofNat']; omega
  have E : Utf8.encode (c : Int) = if c < 0x80 then ⟨#[UInt8.ofNat c]⟩ else if c < 0x800 then ⟨#[UInt8.ofNat (0xC0 + c / 64), UInt8.ofNat (0x80 + c % 64)]⟩ else if c < 0x10000 then ⟨#[UInt8.ofNat (0xE0 + c / 4096), UInt8.ofNat (0x80 + c / 64 % 64), UInt8.ofNat (0x80 + c % 64)]⟩
      else ⟨#[UInt8.ofNat (0xF0 + c / 262144), UInt8.ofNat (0x80 + c / 4096 % 64), UInt8.ofNat (0x80 + c / 64 % 64), UInt8.ofNat (0x80 + c % 64)]⟩ := by
    unfold Utf8.encode
    simp only [e, if_true, Int.toNat_natCast]
  rw [if_neg (by omega)] at E
  by_cases h2 : c < 0x800
  · rw [if_pos h2] at E
    rw [E]
    exact ⟨1, by simp, rfl, fun _ => ht _ (by omega)⟩
  · rw [if_neg h2] at E
    by_cases h3 : c < 0x10000
    · rw [if_pos h3] at E
      rw [E]
      exact ⟨2, by simp, rfl, fun _ => ht _ (by omega)⟩
    · rw [if_neg h3] at E
      rw [E]
      exact ⟨3, by simp, rfl, fun _ => ht _ (by omega)⟩
theorem indexByte_hi {l : L8} {c : UInt8} (ha : ∀ b ∈ l, b.toNat < 128) (hc : 128 ≤ c.toNat) : Lib.indexByte l c = -1 := by
  induction l with
  | nil => rfl
  | cons b l ih =>
    have hb := ha b (by simp)
    have hne : (b == c) = false := by simp; intro e; rw [e] at hb; omega
    rw [Lib.indexByte, hne, ih fun x hx => ha x (by simp [hx])]
    rfl

/-- It returns -1; all that lay, lies. -/
def NoIdx (w : World) (e : Ending) (w' : World) : Prop := e = .returned (.int .i64 (-1)) ∧ Below w.heap.size w w'

theorem quiet_qs {P : Program} {f : FuncId} {args : Array Value} {w : World} {a n : Nat} {v : Value} (h : Calls P f args (w.drewN (a + n)) fun e w' => e = .returned v ∧ w' = w.drewN (a + n)) : Calls P f args (w.drewN (a + n)) fun e w'' => e = .returned v ∧ ∃ m, w'' = w.drewN (a + m) :=
  h.mono fun _ _ ⟨he, hm⟩ => ⟨he, n, hm⟩

set_option maxRecDepth 100000 in
set_option maxHeartbeats 4000000 in
theorem idx_err (cs : ByteArray) (h4 : cs.size = 4) (ha : ∀ b ∈ cs.data.toList, b.toNat < 128) (w : World) :
    Calls Tryd.prog 65 #[.string cs, .int .i32 65533] w (NoIdx w) := by
  have HA := Lib.hid ha
  have hw : ∀ n, w.iter cs n = w.alloc (.stringIter cs n) := fun _ => rfl
  have H4 := Lib.hid h4
  have HI0 : Hid ((w.iter cs 0).heap[w.heap.size]? = some (.stringIter cs 0)) := Lib.hid (by simp only [World.iter_heap])
  have HB0 : Hid (Below w.heap.size w (w.iter cs 0)) := Lib.hid (by rw [hw]; exact (Below.refl _ _).alloc (Nat.le_refl _) _)
  clear ha h4 hw
  go_enter Tryd.func65, Tryd.ntmps65
  go_wp2
  go_loopw [5, 6] (fun _ _ wr => ∃ n : Nat, n ≤ 4 ∧ Hid (wr.heap[w.heap.size]? = some (.stringIter cs n)) ∧ Hid (Below w.heap.size w wr)) (fun _ _ wr => 4 - wr.iterPos w.heap.size)
  case atStart => exact ⟨0, by omega, HI0, HB0⟩
  case round =>
    obtain ⟨n, hn, HI, HB⟩ := hrel
    clear HI0 HB0
    have hpos : wr.iterPos w.heap.size = n := by unfold World.iterPos; rw [HI.out]
    have HPOS := Lib.hid hpos
    clear hpos
    by_cases hlt : n < 4
    · have hl2 : n < cs.size := by rw [H4.out]; exact hlt
      have hb := HA.out cs[n] (List.getElem_mem (l := cs.data.toList) hl2)
      have kn := fun ty => Lib.run_next_ascii_at (P := Tryd.prog) wr w.heap.size cs n ty HI.out hl2 hb
      have hI2 := Lib.iterAt_heap wr w.heap.size cs n (n + 1) HI.out
      have hB2 := Lib.below_iterAt HB.out (Nat.le_refl _) cs (n + 1)
      have e5 : ((cs[n].toNat : Int) == 65533) = false := beq_eq_false_iff_ne.2 (by omega)
      have HI2 := Lib.hid hI2; have HB2 := Lib.hid hB2
      clear hI2 hB2 hb
      generalize cs[n].toNat = b at *
      generalize wr.iterAt w.heap.size cs (n + 1) = wx at *
      have hp2 : wx.iterPos w.heap.size = n + 1 := by unfold World.iterPos; rw [HI2.out]
      have HP2 := Lib.hid hp2
      clear hp2
      go_wp2
      exact ⟨⟨n + 1, by omega, HI2, HB2⟩, by rw [HPOS.out, HP2.out]; omega⟩
    · have kn := fun ty => Lib.run_next_end_at (P := Tryd.prog) wr w.heap.size cs n ty HI.out (by rw [H4.out]; exact hlt)
      go_wp2
      go_ret
      exact ⟨rfl, HB.out⟩

set_option maxRecDepth 100000 in
set_option maxHeartbeats 4000000 in
theorem idx_far (cs : ByteArray) (h4 : cs.size = 4) (ha : ∀ b ∈ cs.data.toList, b.toNat < 128) (r : Int) (h1 : 128 ≤ r) (hv : r < 55296 ∨ (57343 < r ∧ r ≤ 1114111)) (hne : r ≠ 65533) (w : World) :
    Calls Tryd.prog 65 #[.string cs, .int .i32 r] w (NoIdx w) := by
  obtain ⟨pat, last, hP, hl, hsz, hlast⟩ : ∃ (pat : ByteArray) (last : Nat), Utf8.encode r = pat ∧ (last = 1 ∨ last = 2 ∨ last = 3) ∧ pat.size = last + 1 ∧ ∀ h : last < pat.size, 128 ≤ (pat[last]).toNat := by
    obtain ⟨last, a, b, c⟩ := enc_hi r h1 hv
    exact ⟨_, last, rfl, a, b, c⟩
  have hcv := fun w => run_convert_int_string (P := Tryd.prog) w 21 9 .i32 r (by rw [Tryd.underlying21]; rfl) Tryd.underlying9
  rw [hP] at hcv
  clear hP
  have hp := hlast (by omega)
  have hvr : Lib.validRune r = true := by unfold Lib.validRune; simp; omega
  have V := Lib.hid (fun w => same_flip ((Tryd.utf8_ValidRune r w).mono fun e w' ⟨a, b⟩ => (⟨a, b.symm⟩ : _ ∧ w = w')))
  rw [hvr] at V
  have e1 : (r == 65533) = false := beq_eq_false_iff_ne.2 hne
  have e2 : decide (r < 128) = false := by simp; omega
  have e3 : (0 : Int) ≤ r := by omega
  have hll : last < cs.size := by omega
  have hx := ha cs[last] (List.getElem_mem (l := cs.data.toList) hll)
  have IB := Lib.hid (fun (x : ByteArray) (hx : ∀ b ∈ x.data.toList, b.toNat < 128) (w : World) => by
    have h := Tryd.strings_IndexByte x ((pat[last]'(by omega)).toNat : Int) w
    rw [indexByte_hi hx (by simpa using hp)] at h
    exact h)
  have E1 : Hid (∀ a c, ∀ b ∈ (cs.extract a c).data.toList, b.toNat < 128) := Lib.hid (fun a c b hb => ha b (by
    rw [ByteArray.data_extract, Array.toList_extract, List.extract_eq_take_drop] at hb
    exact List.mem_of_mem_drop (List.mem_of_mem_take hb)))
  have E2 : Hid (∀ b ∈ ByteArray.empty.data.toList, b.toNat < 128) := Lib.hid (by intro b hb; simp at hb)
  have e6 : (((cs[last].toNat : Nat) : Int) != ((pat[last]'(by omega)).toNat : Int)) = true := by
    rw [bne_iff_ne]; omega
  have H4 := Lib.hid h4
  clear hvr ha h1 hv hne hlast hp
  have es : ((cs.size : Nat) : Int) = 4 := by rw [H4.out]; rfl
  generalize hpl : pat[last]'(by omega) = pb at *
  generalize hcl : cs[last] = cb at *
  rcases hl with rfl | rfl | rfl
  all_goals
    have y1 : IntKind.i64.wrap ((pat.size : Int) - 1) = (pat.size : Int) - 1 := IntWalk.i64_in _ (by omega)
    have y2 : IntKind.i64.wrap 2 = 2 := IntWalk.i64_in _ (by omega)
    have y3 : IntKind.i64.wrap 3 = 3 := IntWalk.i64_in _ (by omega)
    have y4 : IntKind.i64.wrap 4 = 4 := IntWalk.i64_in _ (by omega)
    go_enter Tryd.func65, Tryd.ntmps65
    go_wp2_with (go_at_call 73; refine (V.out _).mono ?_; rintro e w' ⟨rfl, rfl⟩)
    go_step3
    go_wp2
    refine wp_loop_rounds 1 ?_
    rw [rounds_succ]
    go_wp2_with fail
    go_step3
    go_wp2_with fail
    go_quiet (fail)
    go_wp2_with fail
    go_quiet ((go_at_call 27; refine quiet_qs (IB.out _ ?_ _); first | (with_reducible exact E1.out _ _) | (with_reducible exact E2.out)))
    go_wp2_with fail
    (try rw [Exit.noGoto_ret])
    go_ret
    exact ⟨rfl, below_drewN _ _⟩
end Go.Proofs.YtpiejpodaljefaaDoor
