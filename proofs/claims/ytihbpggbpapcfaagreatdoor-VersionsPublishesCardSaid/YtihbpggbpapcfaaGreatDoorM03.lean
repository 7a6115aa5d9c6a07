/- Texts V3, V4, V5, V6, joined: walks and laws for the versions. -/
import Derived.BigQuiet
import Derived.Test.YtihbpggbpapcfaaGreatDoorM02
namespace Go.Proofs.YtihbpggbpapcfaaGreatDoor
open Go.RowKit

abbrev sesV (cl : L8) (wk dy st ln : Int) (rm : L8) : Value := .agg #[.string (arr cl), .int .i64 wk, .int .i64 dy, .int .i64 st, .int .i64 ln, .string (arr rm)]
def chkE (cl : L8) (wk dy st ln : Int) (rm : L8) (n : Int) : Int :=
  if codeOk cl = false then 10 else if (sndB wk dy st ln && wsB wk n) = false then 14 else if (decide (rm ≠ []) && !codeOk rm) = true then 10 else 0
structure SB (w0 w : World) (B : Nat) (cl : L8) (wk dy st ln : Int) (rm : L8) : Prop where
  c0 : w.cell? ⟨B, 0, none⟩ = some (.string (arr cl))
  c1 : w.cell? ⟨B, 1, none⟩ = some (.int .i64 wk)
  c2 : w.cell? ⟨B, 2, none⟩ = some (.int .i64 dy)
  c3 : w.cell? ⟨B, 3, none⟩ = some (.int .i64 st)
  c4 : w.cell? ⟨B, 4, none⟩ = some (.int .i64 ln)
  c5 : w.cell? ⟨B, 5, none⟩ = some (.string (arr rm))
  sz : B < w.heap.size
  bl : Below w0.heap.size w0 w
section
variable {w0 w w2 : World} {B : Nat} {cl : L8} {wk dy st ln : Int} {rm : L8}
theorem SB.next (h : SB w0 w B cl wk dy st ln rm) (hb : Below w.heap.size w w2) : SB w0 w2 B cl wk dy st ln rm := by
  have ce : ∀ o, w2.cell? ⟨B, o, none⟩ = w.cell? ⟨B, o, none⟩ := fun o => hb.cell (p := ⟨B, o, none⟩) h.sz
  exact ⟨(ce 0).trans h.c0, (ce 1).trans h.c1, (ce 2).trans h.c2, (ce 3).trans h.c3, (ce 4).trans h.c4, (ce 5).trans h.c5, Nat.lt_of_lt_of_le h.sz hb.size, below3 h.bl hb⟩
theorem SB.mk0 (T : TypeId) : SB w (w.alloc (.cells #[.string (arr cl), .int .i64 wk, .int .i64 dy, .int .i64 st, .int .i64 ln, .string (arr rm)] T)) w.heap.size cl wk dy st ln rm :=
  ⟨by simp, by simp, by simp, by simp, by simp, by simp, by simp, (Below.refl _ _).alloc (Nat.le_refl _) _⟩
end
theorem arr_empty (rm : L8) : (arr rm).toList.isEmpty = decide (rm = []) := by
  rw [arr_toList]; cases rm <;> simp
theorem code_l (l : L8) (h : l.length ≤ 9223372036854775807) (w : World) : Calls Tryz.prog 86 #[.string (arr l)] w (RetS (.bool (codeOk l)) w) := code_any (arr l) (by rw [arr_size]; exact h) w
theorem rcode_l (l : L8) (h : l.length ≤ 9223372036854775807) (w : World) : Calls Tryz.prog 94 #[.string (arr l)] w (RetS (.bool (codeOk l)) w) := rcode_any (arr l) (by rw [arr_size]; exact h) w

set_option maxRecDepth 100000 in
set_option maxHeartbeats 2000000 in
theorem check_any (cl : L8) (wk dy st ln : Int) (rm : L8) (n : Int) (hc : cl.length ≤ 9223372036854775807) (hr : rm.length ≤ 9223372036854775807) (s1 : -9223372036854775808 ≤ st) (s2 : st ≤ 9223372036854775807) (w : World) :
    Calls Tryz.prog 109 #[sesV cl wk dy st ln rm, .int .i64 n] w (RetB (.int .i64 (chkE cl wk dy st ln rm n)) w) := by
  have HS := Lib.hid (SB.mk0 (w := w) (cl := cl) (wk := wk) (dy := dy) (st := st) (ln := ln) (rm := rm) 95)
  have C1 := Lib.hid (fun W => code_l cl hc W)
  have C2 := Lib.hid (fun W => code_l rm hr W)
  have C3 := Lib.hid (fun W => sound_any wk dy st ln s1 s2 W)
  have C4 := Lib.hid (fun W => ws_any wk n W)
  have HE : Hid (∀ b1 b2 b3 b4 b5, codeOk cl = b1 → sndB wk dy st ln = b2 → wsB wk n = b3 → decide (rm = []) = b4 → codeOk rm = b5 → chkE cl wk dy st ln rm n = if b1 = false then 10 else if (b2 && b3) = false then 14 else if (!b4 && !b5) = true then 10 else 0) := Lib.hid (by
    rintro b1 b2 b3 b4 b5 rfl rfl rfl rfl rfl
    unfold chkE
    simp)
  have he := arr_empty rm
  generalize h1 : codeOk cl = b1 at *
  generalize h2 : sndB wk dy st ln = b2 at *
  generalize h3 : wsB wk n = b3 at *
  generalize h4 : decide (rm = []) = b4 at *
  generalize h5 : codeOk rm = b5 at *
  have HE := Lib.hid (HE.out b1 b2 b3 b4 b5 rfl rfl rfl rfl rfl)
  clear h1 h2 h3 h4 h5 hc hr
  go_enter Tryz.func109, Tryz.ntmps109
  go_wp2_with fail
  obtain ⟨c0, c1, c2, c3, c4, c5, sz, _⟩ := HS.out
  go_wp2_with fail
  refine (C1.out _).mono ?_
  rintro en w1 ⟨rfl, hw⟩
  subst hw
  cases b1
  · go_wp2_with fail
    go_ret
    exact ⟨ret_int (by rw [HE.out]; rfl), HS.out.bl⟩
  go_wp2_with fail
  refine (C3.out _).mono ?_
  rintro en w2 ⟨rfl, hb2⟩
  have HS2 := Lib.hid (HS.out.next hb2)
  clear hb2 c0 c1 c2 c3 c4 c5 sz HS C1 C3
  obtain ⟨c0, c1, c2, c3, c4, c5, sz, _⟩ := HS2.out
  cases b2
  · go_wp2_with fail
    go_ret
    exact ⟨ret_int (by rw [HE.out]; rfl), HS2.out.bl⟩
  go_wp2_with fail
  refine (C4.out _).mono ?_
  rintro en w3 ⟨rfl, hw⟩
  replace hw := hw.symm
  subst hw
  cases b3
  · go_wp2_with fail
    go_ret
    exact ⟨ret_int (by rw [HE.out]; rfl), HS2.out.bl⟩
  cases b4
  rotate_left
  · go_wp2_with fail
    go_ret
    exact ⟨ret_int (by rw [HE.out]; rfl), HS2.out.bl⟩
  go_wp2_with fail
  refine (C2.out _).mono ?_
  rintro en w4 ⟨rfl, hw⟩
  replace hw := hw.symm
  subst hw
  cases b5
  all_goals
    go_wp2_with fail
    go_ret
    exact ⟨ret_int (by rw [HE.out]; rfl), HS2.out.bl⟩

set_option maxRecDepth 100000 in
set_option maxHeartbeats 2000000 in
theorem single_any (cl : L8) (wk dy st ln : Int) (rm : L8) (n : Int) (hc : cl.length ≤ 9223372036854775807) (hr : rm.length ≤ 9223372036854775807) (w : World) :
    Calls Tryz.prog 103 #[sesV cl wk dy st ln rm, .int .i64 n] w (RetB (.int .i64 (chkE cl wk dy st ln rm n)) w) := by
  have HS := Lib.hid (SB.mk0 (w := w) (cl := cl) (wk := wk) (dy := dy) (st := st) (ln := ln) (rm := rm) 95)
  have C1 := Lib.hid (fun W => rcode_l cl hc W)
  have C2 := Lib.hid (fun W => rcode_l rm hr W)
  have C3 := Lib.hid (fun W => rsound_any wk dy st ln W)
  have C4 := Lib.hid (fun W => rws_any wk n W)
  have HE : Hid (∀ b1 b2 b3 b4 b5, codeOk cl = b1 → sndB wk dy st ln = b2 → wsB wk n = b3 → decide (rm = []) = b4 → codeOk rm = b5 → chkE cl wk dy st ln rm n = if b1 = false then 10 else if (b2 && b3) = false then 14 else if (!b4 && !b5) = true then 10 else 0) := Lib.hid (by
    rintro b1 b2 b3 b4 b5 rfl rfl rfl rfl rfl
    unfold chkE
    simp)
  have he := arr_empty rm
  generalize h1 : codeOk cl = b1 at *
  generalize h2 : sndB wk dy st ln = b2 at *
  generalize h3 : wsB wk n = b3 at *
  generalize h4 : decide (rm = []) = b4 at *
  generalize h5 : codeOk rm = b5 at *
  have HE := Lib.hid (HE.out b1 b2 b3 b4 b5 rfl rfl rfl rfl rfl)
  clear h1 h2 h3 h4 h5 hc hr
  go_enter Tryz.func103, Tryz.ntmps103
  go_wp2_with fail
  obtain ⟨c0, c1, c2, c3, c4, c5, sz, _⟩ := HS.out
  go_wp2_with fail
  refine (C1.out _).mono ?_
  rintro en w1 ⟨rfl, hw⟩
  subst hw
  cases b1
  · go_wp2_with fail
    go_ret
    exact ⟨ret_int (by rw [HE.out]; rfl), HS.out.bl⟩
  go_wp2_with fail
  refine (C3.out _).mono ?_
  rintro en w2 ⟨rfl, hb2⟩
  have HS2 := Lib.hid (HS.out.next hb2)
  clear hb2 c0 c1 c2 c3 c4 c5 sz HS C1 C3
  obtain ⟨c0, c1, c2, c3, c4, c5, sz, _⟩ := HS2.out
  cases b2
  · go_wp2_with fail
    go_ret
    exact ⟨ret_int (by rw [HE.out]; rfl), HS2.out.bl⟩
  go_wp2_with fail
  refine (C4.out _).mono ?_
  rintro en w3 ⟨rfl, hw⟩
  replace hw := hw.symm
  subst hw
  cases b3
  · go_wp2_with fail
    go_ret
    exact ⟨ret_int (by rw [HE.out]; rfl), HS2.out.bl⟩
  cases b4
  rotate_left
  · go_wp2_with fail
    go_ret
    exact ⟨ret_int (by rw [HE.out]; rfl), HS2.out.bl⟩
  go_wp2_with fail
  refine (C2.out _).mono ?_
  rintro en w4 ⟨rfl, hw⟩
  replace hw := hw.symm
  subst hw
  cases b5
  all_goals
    go_wp2_with fail
    go_ret
    exact ⟨ret_int (by rw [HE.out]; rfl), HS2.out.bl⟩
end Go.Proofs.YtihbpggbpapcfaaGreatDoor

namespace Go.Proofs.YtihbpggbpapcfaaGreatDoor
open Go.RowKit

def alkB (cl : L8) (dy st ln : Int) (rm : L8) (cl' : L8) (dy' st' ln' : Int) (rm' : L8) : Bool := decide (cl = cl' ∧ dy = dy' ∧ st = st' ∧ ln = ln' ∧ rm = rm')

set_option maxRecDepth 100000 in
set_option maxHeartbeats 1000000 in
theorem alike_any (cl : L8) (wk dy st ln : Int) (rm : L8) (cl' : L8) (wk' dy' st' ln' : Int) (rm' : L8) (w : World) :
    Calls Tryz.prog 113 #[sesV cl wk dy st ln rm, sesV cl' wk' dy' st' ln' rm'] w (RetB (.bool (alkB cl dy st ln rm cl' dy' st' ln' rm')) w) := by
  have HB := Lib.hid (fun (A B : Obj) => ((Below.refl w.heap.size w).alloc (Nat.le_refl _) A).alloc (by simp) B)
  go_enter Tryz.func113, Tryz.ntmps113
  go_wp2
  all_goals go_ret
  all_goals (
    refine ⟨ret_bool ?_, HB.out _ _⟩
    simp_all [alkB, arr_toList])

set_option maxRecDepth 100000 in
set_option maxHeartbeats 1000000 in
theorem ralike_any (cl : L8) (wk dy st ln : Int) (rm : L8) (cl' : L8) (wk' dy' st' ln' : Int) (rm' : L8) (w : World) :
    Calls Tryz.prog 108 #[sesV cl wk dy st ln rm, sesV cl' wk' dy' st' ln' rm'] w (RetB (.bool (alkB cl dy st ln rm cl' dy' st' ln' rm')) w) := by
  have HB := Lib.hid (fun (A B : Obj) => ((Below.refl w.heap.size w).alloc (Nat.le_refl _) A).alloc (by simp) B)
  go_enter Tryz.func108, Tryz.ntmps108
  go_wp2
  all_goals go_ret
  all_goals (
    refine ⟨ret_bool ?_, HB.out _ _⟩
    simp_all [alkB, arr_toList])
end Go.Proofs.YtihbpggbpapcfaaGreatDoor

namespace Go.Proofs.YtihbpggbpapcfaaGreatDoor
open Go.RowKit

theorem flat_len {α : Type} (f : α → List Value) (k : Nat) (hk : ∀ x, (f x).length = k) : ∀ xs : List α, (xs.flatMap f).length = xs.length * k
  | [] => by simp
  | x :: xs => by rw [List.flatMap_cons, List.length_append, hk, flat_len f k hk xs, List.length_cons, Nat.add_mul]; omega
theorem flat_at {α : Type} (f : α → List Value) (k : Nat) (hk : ∀ x, (f x).length = k) : ∀ (xs : List α) (j o : Nat) (x : α), xs[j]? = some x → o < k → (xs.flatMap f)[j * k + o]? = (f x)[o]?
  | [], j, o, x, h, _ => by simp at h
  | y :: xs, 0, o, x, h, ho => by
    simp at h; subst h
    rw [List.flatMap_cons, Nat.zero_mul, Nat.zero_add, List.getElem?_append_left (by rw [hk]; exact ho)]
  | y :: xs, j + 1, o, x, h, ho => by
    have ih := flat_at f k hk xs j o x (by simpa using h) ho
    rw [List.flatMap_cons, List.getElem?_append_right (by rw [hk, Nat.add_mul]; omega), hk]
    rw [show (j + 1) * k + o - k = j * k + o by rw [Nat.add_mul]; omega]
    exact ih
def KC {α : Type} (f : α → List Value) (k : Nat) (w : World) (b off : Nat) (xs : List α) : Prop := ∀ (j : Nat) (x : α), xs[j]? = some x → ∀ (o : Nat) (v : Value), (f x)[o]? = some v → w.cell? ⟨b, off + (j * k + o), none⟩ = some v
theorem KC.below {α : Type} {f : α → List Value} {k : Nat} {w w' : World} {b off : Nat} {xs : List α} (h : KC f k w b off xs) (hb : Below w.heap.size w w') : KC f k w' b off xs := fun j x hx o v hv => by
  have p := h j x hx o v hv
  rw [hb.cell (lt_of_cell p)]; exact p
def KAt {α : Type} (f : α → List Value) (k : Nat) (w : World) (a : Option Addr) (n : Nat) (xs : List α) : Prop := xs.length = n ∧ n ≤ 9223372036854775807 ∧ (n = 0 ∨ ∃ b off, a = some ⟨b, off, none⟩ ∧ KC f k w b off xs)
theorem KAt.below {α : Type} {f : α → List Value} {k : Nat} {w w' : World} {a : Option Addr} {n : Nat} {xs : List α} (h : KAt f k w a n xs) (hb : Below w.heap.size w w') : KAt f k w' a n xs := by
  obtain ⟨h1, h2, h3⟩ := h
  refine ⟨h1, h2, ?_⟩
  rcases h3 with h3 | ⟨b, off, ha, hc⟩
  · exact Or.inl h3
  · exact Or.inr ⟨b, off, ha, hc.below hb⟩
theorem KAt.nil {α : Type} (f : α → List Value) (k : Nat) (w : World) : KAt f k w none 0 ([] : List α) := ⟨rfl, by omega, Or.inl rfl⟩
theorem KAt.of_owns {α : Type} {f : α → List Value} {k : Nat} (hk : ∀ x, (f x).length = k) {w : World} {B : Nat} {e : TypeId} {v : Value} {xs : List α} (h : w.ownsRow B e k v xs.length (xs.flatMap f)) : ∃ a cap, v = .slice a xs.length cap ∧ KAt f k w a xs.length xs := by
  rcases h.2 with ⟨rfl, hn⟩ | ⟨g, cap, cur, rfl, _, hg, hle, hm, hs, htake⟩
  · have : xs = [] := List.eq_nil_of_length_eq_zero hn
    subst this
    exact ⟨none, 0, rfl, KAt.nil _ _ _⟩
  · refine ⟨_, cap, rfl, rfl, by unfold maxLen at hm; omega, Or.inr ⟨g, 0, rfl, fun j x hx o u hu => ?_⟩⟩
    have ho : o < k := by rw [← hk x]; exact (List.getElem?_eq_some_iff.1 hu).1
    have p := flat_at f k hk xs j o x hx ho
    rw [hu] at p
    rw [Nat.zero_add]
    have hc : ∀ i : Nat, w.cell? ⟨g, i, none⟩ = cur[i]? := fun i => by simp [World.cell?, hg]
    rw [← htake, List.getElem?_take] at p
    split at p
    · rw [hc, ← Array.getElem?_toList]; exact p
    · cases p

abbrev Ses := L8 × Int × Int × Int × Int × L8
def sesC (s : Ses) : List Value := [.string (arr s.1), .int .i64 s.2.1, .int .i64 s.2.2.1, .int .i64 s.2.2.2.1, .int .i64 s.2.2.2.2.1, .string (arr s.2.2.2.2.2)]
theorem sesC_len (s : Ses) : (sesC s).length = 6 := rfl
abbrev SAt (w : World) (a : Option Addr) (n : Nat) (ss : List Ses) : Prop := KAt sesC 6 w a n ss
theorem SAt.cells {w : World} {a : Option Addr} {n : Nat} {ss : List Ses} (h : SAt w a n ss) {j : Nat} (hj : j < n) : ∃ (b off : Nat) (s : Ses), a = some ⟨b, off, none⟩ ∧ ss[j]? = some s ∧ b < w.heap.size ∧
    w.cell? ⟨b, off + j * 6, none⟩ = some (.string (arr s.1)) ∧ w.cell? ⟨b, off + j * 6 + 1, none⟩ = some (.int .i64 s.2.1) ∧ w.cell? ⟨b, off + j * 6 + 2, none⟩ = some (.int .i64 s.2.2.1) ∧
    w.cell? ⟨b, off + j * 6 + 3, none⟩ = some (.int .i64 s.2.2.2.1) ∧ w.cell? ⟨b, off + j * 6 + 4, none⟩ = some (.int .i64 s.2.2.2.2.1) ∧ w.cell? ⟨b, off + j * 6 + 5, none⟩ = some (.string (arr s.2.2.2.2.2)) := by
  obtain ⟨h1, _, h3⟩ := h
  rcases h3 with h3 | ⟨b, off, rfl, hc⟩
  · omega
  · have hx : ss[j]? = some ss[j] := List.getElem?_eq_getElem (by omega)
    have c := hc j ss[j] hx
    have c0 := c 0 _ rfl
    exact ⟨b, off, ss[j], rfl, hx, lt_of_cell c0, c0, c 1 _ rfl, c 2 _ rfl, c 3 _ rfl, c 4 _ rfl, c 5 _ rfl⟩
end Go.Proofs.YtihbpggbpapcfaaGreatDoor

namespace Go.Proofs.YtihbpggbpapcfaaGreatDoor
open Go.RowKit

theorem take_next {α : Type} {xs ys : List α} {j : Nat} {x : α} (h : xs.take j = ys.take j) (hx : xs[j]? = some x) (hy : ys[j]? = some x) : xs.take (j + 1) = ys.take (j + 1) := by
  rw [List.take_add_one, List.take_add_one, h, hx, hy]
theorem ne_at {α : Type} {xs ys : List α} {j : Nat} {x y : α} (hx : xs[j]? = some x) (hy : ys[j]? = some y) (hn : x ≠ y) : xs ≠ ys := by
  rintro rfl; rw [hx] at hy; exact hn (by cases hy; rfl)

set_option maxRecDepth 100000 in
set_option maxHeartbeats 2000000 in
theorem rsame_any (a : Option Addr) (n c : Nat) (b : Option Addr) (m q : Nat) (xs ys : List Ses) (w : World) (hx : SAt w a n xs) (hy : SAt w b m ys) :
    Calls Tryz.prog 40 #[.slice a n c, .slice b m q] w (RetB (.bool (decide (xs = ys))) w) := by
  have n1 := hx.2.1
  have n2 := hy.2.1
  by_cases hnm : n = m
  rotate_left
  · have HF : Hid (decide (xs = ys) = false) := Lib.hid (decide_eq_false (by rintro rfl; exact hnm (hx.1.symm.trans hy.1)))
    have hd : ((n : Int) != (m : Int)) = true := by simpa using fun h => hnm (by omega)
    clear hx hy hnm
    go_enter Tryz.func40, Tryz.ntmps40
    go_wp2
    all_goals go_ret
    all_goals exact ⟨ret_bool (by rw [HF.out]), Below.refl _ _⟩
  subst hnm
  have HX := Lib.hid hx
  have HY := Lib.hid hy
  clear hx hy
  go_enter Tryz.func40, Tryz.ntmps40
  go_wp2
  go_loopw [5] (fun i wr => ∃ j : Nat, j ≤ n ∧ i = .int .i64 j ∧ Hid (xs.take j = ys.take j) ∧ Hid (Below w.heap.size w wr)) (fun i _ => n - (intOf i).toNat)
  case atStart => exact ⟨0, by omega, rfl, Lib.hid (by simp), Lib.hid (Below.refl _ _)⟩
  case round =>
    obtain ⟨j, hj, rfl, HT, HB⟩ := hrel
    by_cases hlt : j < n
    · obtain ⟨b1, o1, s1, rfl, g1, z1, x0, x1, x2, x3, x4, x5⟩ := SAt.cells (HX.out.below HB.out) hlt
      obtain ⟨b2, o2, s2, rfl, g2, z2, y0, y1, y2, y3, y4, y5⟩ := SAt.cells (HY.out.below HB.out) hlt
      have HG1 := Lib.hid g1
      have HG2 := Lib.hid g2
      clear g1 g2
      obtain ⟨cl, wk, dy, st, ln, rm⟩ := s1
      obtain ⟨cl', wk', dy', st', ln', rm'⟩ := s2
      simp only at x0 x1 x2 x3 x4 x5 y0 y1 y2 y3 y4 y5
      have k1 : (j : Int) < n := by omega
      have k2 : (0 : Int) ≤ j := by omega
      by_cases he : (cl, wk, dy, st, ln, rm) = (cl', wk', dy', st', ln', rm')
      · have HT2 : Hid (xs.take (j + 1) = ys.take (j + 1)) := Lib.hid (take_next HT.out HG1.out (by rw [HG2.out, he]))
        simp only [Prod.mk.injEq] at he
        obtain ⟨rfl, rfl, rfl, rfl, rfl, rfl⟩ := he
        clear HT
        go_wp2
        go_quiet (fail)
        go_wp2
        go_roundw
        case rel => exact ⟨j + 1, by omega, by go_num, HT2, Lib.hid (below3 HB.out (below_drewN _ _))⟩
        case measure => simp [intOf]; omega
      · have HF : Hid (decide (xs = ys) = false) := Lib.hid (decide_eq_false (ne_at HG1.out HG2.out he))
        have hs : ∀ l l' : L8, l ≠ l' → ((arr l).toList == (arr l').toList) = false ∧ ¬ (arr l).toList = (arr l').toList := fun l l' h => by
          rw [arr_toList, arr_toList]; exact ⟨by simpa using h, h⟩
        have hq : cl ≠ cl' ∨ (cl = cl' ∧ wk ≠ wk') ∨ (cl = cl' ∧ wk = wk' ∧ dy ≠ dy') ∨ (cl = cl' ∧ wk = wk' ∧ dy = dy' ∧ st ≠ st') ∨ (cl = cl' ∧ wk = wk' ∧ dy = dy' ∧ st = st' ∧ ln ≠ ln') ∨ (cl = cl' ∧ wk = wk' ∧ dy = dy' ∧ st = st' ∧ ln = ln' ∧ rm ≠ rm') := by
          simp only [Prod.mk.injEq] at he
          by_cases e1 : cl = cl' <;> by_cases e2 : wk = wk' <;> by_cases e3 : dy = dy' <;> by_cases e4 : st = st' <;> by_cases e5 : ln = ln' <;> simp_all
        clear he
        rcases hq with h | ⟨rfl, h⟩ | ⟨rfl, rfl, h⟩ | ⟨rfl, rfl, rfl, h⟩ | ⟨rfl, rfl, rfl, rfl, h⟩ | ⟨rfl, rfl, rfl, rfl, rfl, h⟩
        · obtain ⟨h5, h6⟩ := hs _ _ h
          clear hs h
          go_wp2
          go_quiet (fail)
          go_wp2
          go_ret
          exact ⟨ret_bool (by rw [HF.out]), below3 HB.out (below_drewN _ _)⟩
        · have h5 : (wk == wk') = false := by simpa using h
          clear hs
          go_wp2
          go_quiet (fail)
          go_wp2
          go_ret
          exact ⟨ret_bool (by rw [HF.out]), below3 HB.out (below_drewN _ _)⟩
        · have h5 : (dy == dy') = false := by simpa using h
          clear hs
          go_wp2
          go_quiet (fail)
          go_wp2
          go_ret
          exact ⟨ret_bool (by rw [HF.out]), below3 HB.out (below_drewN _ _)⟩
        · have h5 : (st == st') = false := by simpa using h
          clear hs
          go_wp2
          go_quiet (fail)
          go_wp2
          go_ret
          exact ⟨ret_bool (by rw [HF.out]), below3 HB.out (below_drewN _ _)⟩
        · have h5 : (ln == ln') = false := by simpa using h
          clear hs
          go_wp2
          go_quiet (fail)
          go_wp2
          go_ret
          exact ⟨ret_bool (by rw [HF.out]), below3 HB.out (below_drewN _ _)⟩
        · obtain ⟨h5, h6⟩ := hs _ _ h
          clear hs h
          go_wp2
          go_quiet (fail)
          go_wp2
          go_ret
          exact ⟨ret_bool (by rw [HF.out]), below3 HB.out (below_drewN _ _)⟩
    · obtain rfl : j = n := by omega
      have HF : Hid (decide (xs = ys) = true) := Lib.hid (decide_eq_true (by
        have := HT.out
        rw [List.take_of_length_le (by have := HX.out.1; omega), List.take_of_length_le (by have := HY.out.1; omega)] at this
        exact this))
      go_wp2
      go_ret
      exact ⟨ret_bool (by rw [HF.out]), HB.out⟩
end Go.Proofs.YtihbpggbpapcfaaGreatDoor
