/- Records: the reference's word on quoting; where a line begins; equal lists of strings. -/
import Derived.Test.YtpiejpodaljefaaDoorF3
namespace Go.Proofs.YtpiejpodaljefaaDoor
open Go.RowKit

def spcB (d q c : UInt8) : Bool := c == d || c == q || c == 13 || c == 10
theorem qtd_spc (d q : UInt8) (first only : Bool) (l : L8) : qtd d q first only l = (l.any (spcB d q) || (first && l.head? == some 35) || (only && l.isEmpty)) := rfl
theorem any_snoc (f : UInt8 → Bool) (s : ByteArray) (k : Nat) (h : k < s.size) : (s.data.toList.take (k + 1)).any f = ((s.data.toList.take k).any f || f s[k]) := by
  have h' : k < s.data.toList.length := h
  rw [List.take_succ_eq_append_getElem h', List.any_append, List.any_cons, List.any_nil, Bool.or_false]
  rfl
theorem any_hit (f : UInt8 → Bool) (s : ByteArray) (k : Nat) (h : k < s.size) (hf : f s[k] = true) : s.data.toList.any f = true :=
  List.any_eq_true.2 ⟨s[k], List.getElem_mem (l := s.data.toList) h, hf⟩
theorem spc_of {d q c : UInt8} {b1 b2 b3 b4 : Bool} (h1 : ((c.toNat : Int) == (d.toNat : Int)) = b1) (h2 : ((c.toNat : Int) == (q.toNat : Int)) = b2) (h3 : ((c.toNat : Int) == 10) = b3) (h4 : ((c.toNat : Int) == 13) = b4) :
    spcB d q c = (b1 || b2 || b4 || b3) := by
  rw [beq_cast2] at h1 h2
  rw [show (10 : Int) = ((10 : Nat) : Int) from rfl, beq_cast _ 10 (by decide)] at h3
  rw [show (13 : Int) = ((13 : Nat) : Int) from rfl, beq_cast _ 13 (by decide)] at h4
  unfold spcB
  rw [h1, h2]
  show ((b1 || b2 || c == UInt8.ofNat 13) || c == UInt8.ofNat 10) = _
  rw [h3, h4]
theorem below_q {w wr : World} (h : Below w.heap.size w wr) (n : Nat) : Below w.heap.size w (wr.drewN n) := h.trans ((below_drewN wr n).mono h.size)

set_option maxRecDepth 100000 in
set_option maxHeartbeats 4000000 in
theorem rquoted_any (s : ByteArray) (d q : UInt8) (first only : Bool) (w : World) (hs : s.size ≤ 9223372036854775806) :
    Calls Tryd.prog 32 #[.string s, .agg #[.int .u8 d.toNat, .int .u8 q.toNat], .bool first, .bool only] w (RetB (.bool (qtd d q first only s.data.toList)) w) := by
  by_cases h0 : s.size = 0
  · have hl : s.data.toList = [] := List.eq_nil_of_length_eq_zero h0
    have E : Hid (qtd d q first only s.data.toList = only) := Lib.hid (by rw [hl]; cases first <;> cases only <;> rfl)
    have e1 : s.toList.isEmpty = true := by rw [toList_data, hl]; rfl
    have e2 : s.toList = [] := by rw [toList_data, hl]
    clear hl h0
    go_enter Tryd.func32, Tryd.ntmps32
    go_wp2
    go_ret
    exact ⟨ret_bool (by rw [E.out]), (Below.refl _ _).alloc (Nat.le_refl _) _⟩
  · have hp : 0 < s.size := by omega
    have hne : s.toList.isEmpty = false := by
      rw [toList_data]
      cases he : s.data.toList with
      | nil => exact absurd (by simpa using congrArg List.length he) h0
      | cons a l => rfl
    have HH : Hid (s.data.toList.head? = some s[0]) := Lib.hid (by
      have h' := drop_at s 0 hp
      rw [List.drop_zero] at h'
      rw [h']; rfl)
    have HE : Hid (s.data.toList.isEmpty = false) := Lib.hid (by rw [toList_data] at hne; exact hne)
    have DX0 : Hid (DxAt (w.alloc (.cells #[.int .u8 d.toNat, .int .u8 q.toNat] 23)) w.heap.size d q) := Lib.hid (heap_alloc_new _ _)
    have BB0 : Hid (Below w.heap.size w (w.alloc (.cells #[.int .u8 d.toNat, .int .u8 q.toNat] 23))) := Lib.hid ((Below.refl _ _).alloc (Nat.le_refl _) _)
    clear h0
    cases h35 : (first && ((s[0].toNat : Int) == 35))
    · have E : Hid (qtd d q first only s.data.toList = s.data.toList.any (spcB d q)) := Lib.hid (by
        rw [qtd_spc, HH.out, HE.out]
        have e : (first && (some s[0] == some (35 : UInt8))) = false := by
          rw [show (35 : Int) = ((35 : Nat) : Int) from rfl, beq_cast _ 35 (by decide)] at h35
          exact h35
        rw [e]; simp)
      have hway : first = false ∨ first = true ∧ ((s[0].toNat : Int) == 35) = false := by
        cases first
        · exact Or.inl rfl
        · exact Or.inr ⟨rfl, h35⟩
      clear h35
      rcases hway with rfl | ⟨rfl, h35⟩
      all_goals
        go_enter Tryd.func32, Tryd.ntmps32
        go_wp2
        generalize w.alloc (.cells #[.int .u8 d.toNat, .int .u8 q.toNat] 23) = w1 at *
        go_loopw [9] (fun i wr => ∃ k : Nat, k ≤ s.size ∧ i = .int .i64 k ∧ Hid (Below w.heap.size w wr) ∧ Hid (DxAt wr w.heap.size d q) ∧ Hid ((s.data.toList.take k).any (spcB d q) = false)) (fun i _ => s.size - (intOf i).toNat)
        case atStart => exact ⟨0, by omega, rfl, BB0, DX0, Lib.hid rfl⟩
        case round =>
          obtain ⟨k, hk, rfl, HB, HX, HN⟩ := hrel
          clear BB0 DX0
          by_cases hlt : k < s.size
          · obtain ⟨e0, e1⟩ := cells2_of HX.out
            have SN := Lib.hid (any_snoc (spcB d q) s k hlt)
            have HIT := Lib.hid (any_hit (spcB d q) s k hlt)
            cases a1 : ((s[k].toNat : Int) == (d.toNat : Int))
            · cases a2 : ((s[k].toNat : Int) == (q.toNat : Int))
              · cases a3 : ((s[k].toNat : Int) == 10)
                · cases a4 : ((s[k].toNat : Int) == 13)
                  · have SP := Lib.hid (spc_of a1 a2 a3 a4)
                    go_wp2_with fail
                    go_quiet (fail)
                    go_wp2_with fail
                    go_roundw
                    case rel => exact ⟨k + 1, by omega, by go_num, Lib.hid (below_q HB.out _), Lib.hid (HX.out.below (below_drewN _ _)), Lib.hid (by rw [SN.out, HN.out, SP.out]; rfl)⟩
                    case measure => simp [intOf]; omega
                  · have SP := Lib.hid (HIT.out (by rw [spc_of a1 a2 a3 a4]; rfl))
                    go_wp2_with fail
                    go_quiet (fail)
                    go_wp2_with fail
                    go_ret
                    exact ⟨ret_bool (by rw [E.out, SP.out]), below_q HB.out _⟩
                · have SP := Lib.hid (HIT.out (by rw [spc_of a1 a2 a3 rfl]; simp))
                  go_wp2_with fail
                  go_quiet (fail)
                  go_wp2_with fail
                  go_ret
                  exact ⟨ret_bool (by rw [E.out, SP.out]), below_q HB.out _⟩
              · have SP := Lib.hid (HIT.out (by rw [spc_of a1 a2 rfl rfl]; simp))
                go_wp2_with fail
                go_quiet (fail)
                go_wp2_with fail
                go_ret
                exact ⟨ret_bool (by rw [E.out, SP.out]), below_q HB.out _⟩
            · have SP := Lib.hid (HIT.out (by rw [spc_of a1 rfl rfl rfl]; simp))
              go_wp2_with fail
              go_quiet (fail)
              go_wp2_with fail
              go_ret
              exact ⟨ret_bool (by rw [E.out, SP.out]), below_q HB.out _⟩
          · obtain rfl : k = s.size := by omega
            have HT : Hid (s.data.toList.any (spcB d q) = false) := Lib.hid (by
              have h := HN.out
              rw [List.take_of_length_le (show s.data.toList.length ≤ s.size from Nat.le_refl _)] at h
              exact h)
            go_wp2_with fail
            go_ret
            exact ⟨ret_bool (by rw [E.out, HT.out]), HB.out⟩
    · have E : Hid (qtd d q first only s.data.toList = true) := Lib.hid (by
        rw [qtd_spc, HH.out, HE.out]
        have e : (first && (some s[0] == some (35 : UInt8))) = true := by
          rw [show (35 : Int) = ((35 : Nat) : Int) from rfl, beq_cast _ 35 (by decide)] at h35
          exact h35
        rw [e]; simp)
      obtain ⟨rfl, h35⟩ : first = true ∧ ((s[0].toNat : Int) == 35) = true := by
        cases first
        · cases h35
        · exact ⟨rfl, h35⟩
      go_enter Tryd.func32, Tryd.ntmps32
      go_wp2
      go_ret
      exact ⟨ret_bool (by rw [E.out]), BB0.out⟩

/-- where a line begins, n line feeds from here -/
def begP : L8 → Nat → Nat
  | _, 0 => 0
  | l, n + 1 => (l.takeWhile (· != 10)).length + 1 + begP (l.drop ((l.takeWhile (· != 10)).length + 1)) n
theorem drop_takeWhile (s : ByteArray) (a k : Nat) (h : a + k ≤ s.size) (hn : ∀ j, a ≤ j → (hj : j < a + k) → s[j]'(by omega) ≠ 10) (he : a + k < s.size → ∀ hx : a + k < s.size, s[a + k] = 10) :
    ((s.data.toList.drop a).takeWhile (· != 10)).length = k := by
  induction k generalizing a with
  | zero =>
    by_cases hx : a < s.size
    · rw [drop_at s a hx]
      have e := he hx hx
      have e' : s[a] = 10 := e
      simp [e']
    · rw [drop_end s a (by omega)]; rfl
  | succ k ih =>
    rw [drop_at s a (by omega)]
    have h1 := hn a (Nat.le_refl _) (by omega)
    rw [List.takeWhile_cons, if_pos (by simpa using h1), List.length_cons]
    rw [ih (a + 1) (by omega) (fun j h1 h2 => hn j (by omega) (by omega)) (fun _ hx => by
      have e := he (by omega) (by omega)
      have e2 : a + 1 + k = a + (k + 1) := by omega
      simp only [e2]; exact e)]

set_option maxRecDepth 100000 in
set_option maxHeartbeats 4000000 in
theorem begin_any (s : ByteArray) (n : Nat) (w : World) (hs : s.size ≤ 1000000) (hn : n ≤ 1000000) :
    Calls Tryd.prog 25 #[.string s, .int .i64 ((n : Int) + 1)] w (RetS (.int .i64 (begP s.data.toList n)) w) := by
  go_enter Tryd.func25, Tryd.ntmps25
  go_wp2
  go_loop [5, 6] (fun at_ m => ∃ a k : Nat, at_ = .int .i64 a ∧ m = .int .i64 ((k : Int) + 1) ∧ k ≤ n ∧ a ≤ s.size + k ∧ Hid (a + begP (s.data.toList.drop a) (n - k) = begP s.data.toList n)) (fun _ m => n + 1 - (intOf m).toNat)
  case atStart => exact ⟨0, 0, rfl, by simp, by omega, by omega, Lib.hid (by simp)⟩
  case round =>
    obtain ⟨a, k, rfl, rfl, hk, ha, HA⟩ := hrel
    by_cases hlt : k < n
    · go_wp2_with fail
      go_loop [5] (fun at_ => ∃ j : Nat, at_ = .int .i64 ((a : Int) + (j : Int)) ∧ (a + j ≤ s.size ∨ j = 0) ∧ Hid (∀ i, a ≤ i → i < a + j → ∀ hi : i < s.size, s[i] ≠ 10)) (fun at_ => s.size - (intOf at_).toNat)
      case atStart => exact ⟨0, by simp, Or.inr rfl, Lib.hid (fun i h1 h2 => by omega)⟩
      case round =>
        obtain ⟨j, rfl, hj, HJ⟩ := hrel
        by_cases hl2 : a + j < s.size
        · cases h10 : ((s[a + j].toNat : Int) == 10)
          · have h10' : ((s[a + j].toNat : Int) != 10) = true := by rw [bne, h10]; rfl
            have NE : Hid (s[a + j] ≠ 10) := Lib.hid (by
              rw [show (10 : Int) = ((10 : Nat) : Int) from rfl, beq_cast _ 10 (by decide)] at h10
              simpa using h10)
            go_wp2_with fail
            go_round
            case rel => exact ⟨j + 1, by go_num, Or.inl (by omega), Lib.hid (fun i h1 h2 hi => by
              by_cases e : i = a + j
              · subst e; exact NE.out
              · exact HJ.out i h1 (by omega) hi)⟩
            case measure => simp [intOf]; omega
          · have h10' : ((s[a + j].toNat : Int) != 10) = false := by rw [bne, h10]; rfl
            have EQ : s[a + j] = 10 := by
              rw [show (10 : Int) = ((10 : Nat) : Int) from rfl, beq_cast _ 10 (by decide)] at h10
              simpa using h10
            have T := Lib.hid (drop_takeWhile s a j (by omega) (fun i h1 h2 => HJ.out i h1 h2 (by omega)) (fun _ _ => EQ))
            clear EQ
            go_wp2_with fail
            go_round
            case rel => exact ⟨a + j + 1, k + 1, by go_num, by go_num, by omega, by omega, Lib.hid (by
              have h := HA.out
              obtain ⟨m, hm⟩ : ∃ m, n - k = m + 1 := ⟨n - k - 1, by omega⟩
              rw [hm, begP, T.out, List.drop_drop] at h
              rw [show n - (k + 1) = m by omega, ← h, show a + j + 1 = a + (j + 1) by omega]
              omega)⟩
            case measure => simp [intOf]; omega
        · have T : Hid (((s.data.toList.drop a).takeWhile (· != 10)).length = j) := Lib.hid (by
            rcases hj with hj | rfl
            · exact drop_takeWhile s a j hj (fun i h1 h2 => HJ.out i h1 h2 (by omega)) (fun _ _ => by omega)
            · rw [drop_end s a (by omega)]; rfl)
          go_wp2_with fail
          go_round
          case rel => exact ⟨a + j + 1, k + 1, by go_num, by go_num, by omega, by omega, Lib.hid (by
              have h := HA.out
              obtain ⟨m, hm⟩ : ∃ m, n - k = m + 1 := ⟨n - k - 1, by omega⟩
              rw [hm, begP, T.out, List.drop_drop] at h
              rw [show n - (k + 1) = m by omega, ← h, show a + j + 1 = a + (j + 1) by omega]
              omega)⟩
          case measure => simp [intOf]; omega
    · obtain rfl : k = n := by omega
      have HF : Hid (a = begP s.data.toList k) := Lib.hid (by
        have h := HA.out
        rw [Nat.sub_self, begP] at h
        omega)
      go_wp2_with fail
      go_ret
      exact ⟨ret_int (by rw [HF.out]), rfl⟩

/-- equal lists of strings -/
theorem same_strings (a b : Option Addr) (c1 c2 n : Nat) (xs : List ByteArray) (w : World) (hx : xs.length = n) (hn : n ≤ 1000000)
    (ha : ∀ _h : 0 < n, ∃ g o, a = some ⟨g, o, none⟩ ∧ ∀ j (h : j < xs.length), w.cell? ⟨g, o + j, none⟩ = some (.string xs[j]))
    (hb : ∀ _h : 0 < n, ∃ g o, b = some ⟨g, o, none⟩ ∧ ∀ j (h : j < xs.length), w.cell? ⟨g, o + j, none⟩ = some (.string xs[j])) (_m1 : n ≤ c1) (_m2 : n ≤ c2) :
    Calls Tryd.prog 23 #[.slice a n c1, .slice b n c2] w (RetB (.bool true) w) := by
  have HA := Lib.hid ha; have HB := Lib.hid hb; have HX := Lib.hid hx
  clear ha hb hx
  have HS : Hid (Below w.heap.size w w) := Lib.hid (Below.refl _ _)
  go_enter Tryd.func23, Tryd.ntmps23
  go_wp2
  go_loopw [5] (fun i wr => ∃ k : Nat, i = .int .i64 k ∧ k ≤ n ∧ Hid (Below w.heap.size w wr)) (fun i _ => n - (intOf i).toNat)
  case atStart => exact ⟨0, rfl, by omega, HS⟩
  case round =>
    obtain ⟨k, rfl, hk, HW⟩ := hrel
    clear HS
    by_cases hlt : k < n
    · obtain ⟨g, o, rfl, hc⟩ := HA.out (by omega)
      obtain ⟨g2, o2, rfl, hc2⟩ := HB.out (by omega)
      have hk' : k < xs.length := by rw [HX.out]; exact hlt
      have y1 := hc k hk'
      have y2 := hc2 k hk'
      have z1 : wr.cell? ⟨g, o + k, none⟩ = some (.string xs[k]) := by rw [HW.out.cell (p := ⟨g, o + k, none⟩) (lt_of_cell y1)]; exact y1
      have z2 : wr.cell? ⟨g2, o2 + k, none⟩ = some (.string xs[k]) := by rw [HW.out.cell (p := ⟨g2, o2 + k, none⟩) (lt_of_cell y2)]; exact y2
      clear hc hc2 y1 y2
      generalize xs[k] = x at *
      go_wp2_with fail
      go_quiet (fail)
      go_wp2_with fail
      go_roundw
      case rel => exact ⟨k + 1, by go_num, by omega, Lib.hid (below_q HW.out _)⟩
      case measure => simp [intOf]; omega
    · go_wp2_with fail
      go_ret
      exact ⟨rfl, HW.out⟩
end Go.Proofs.YtpiejpodaljefaaDoor
