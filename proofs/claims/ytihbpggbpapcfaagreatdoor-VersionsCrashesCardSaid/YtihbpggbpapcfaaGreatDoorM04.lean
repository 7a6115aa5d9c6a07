/- Texts V7, V8, V9, V10, V11, V12, joined: walks and laws for the versions. -/
import Derived.Test.YtihbpggbpapcfaaGreatDoorM03
namespace Go.Proofs.YtihbpggbpapcfaaGreatDoor
open Go.RowKit

def ofS (ss : List Ses) (k : L8) : List Ses := ss.filter (fun s => decide (s.1 = k))
theorem ofS_hit {xs : List Ses} {j : Nat} {s : Ses} {k : L8} (h : xs[j]? = some s) (he : s.1 = k) : ofS (xs.take (j + 1)) k = ofS (xs.take j) k ++ [s] := by
  unfold ofS; rw [List.take_add_one, h, List.filter_append]; simp [he]
theorem ofS_miss {xs : List Ses} {j : Nat} {s : Ses} {k : L8} (h : xs[j]? = some s) (he : s.1 ≠ k) : ofS (xs.take (j + 1)) k = ofS (xs.take j) k := by
  unfold ofS; rw [List.take_add_one, h, List.filter_append]; simp [he]
theorem ofS_len (xs : List Ses) (k : L8) : (ofS xs k).length ≤ xs.length := List.length_filter_le _ _
def sesZ : Value := .agg #[.string .empty, .int .i64 0, .int .i64 0, .int .i64 0, .int .i64 0, .string .empty]
theorem Tryz.infoSes : (Tryz.prog.info? 95).map (fun i => (i.zero, i.size, i.bytes)) = some (some sesZ, 6, 64) := by kernel_rfl
abbrev SRow (w : World) (B : Nat) (v : Value) (ss : List Ses) : Prop := w.ownsRow B 95 6 v ss.length (ss.flatMap sesC)
theorem srow_snoc {w2 : World} {B : Nat} {v' : Value} {L : List Ses} {s : Ses} (h : w2.ownsRow B 95 6 v' (L.length + 1) (L.flatMap sesC ++ sesC s)) : SRow w2 B v' (L ++ [s]) := by
  unfold SRow; rw [List.flatMap_append, List.length_append]; simpa using h
theorem ones_ses (s : Ses) : ∀ u ∈ sesC s, u.oneCell' = true := by
  intro u hu; simp [sesC] at hu; rcases hu with rfl | rfl | rfl | rfl | rfl | rfl <;> rfl

set_option maxRecDepth 100000 in
set_option maxHeartbeats 2000000 in
theorem rof_any (a : Option Addr) (n c : Nat) (xs : List Ses) (k : L8) (w : World) (hx : SAt w a n xs) (hn : n ≤ 1000000) :
    Calls Tryz.prog 83 #[.slice a n c, .string (arr k)] w (fun e w' => ∃ v, e = .returned v ∧ SRow w' w.heap.size v (ofS xs k) ∧ Below w.heap.size w w') := by
  have HX := Lib.hid hx
  have hlen := hx.1
  obtain ⟨i0, hi, hz0, hz1, hz2⟩ := info_parts Tryz.infoSes
  have HI0 := Lib.hid hi; have HZ0 := Lib.hid hz0; have HZ1 := Lib.hid hz1; have HZ2 := Lib.hid hz2
  clear hi hz0 hz1 hz2 hx
  go_enter Tryz.func83, Tryz.ntmps83
  go_wp2
  go_loopw [5, 6] (fun v i wr => ∃ j : Nat, j ≤ n ∧ i = .int .i64 j ∧ Hid (SRow wr w.heap.size v (ofS (xs.take j) k)) ∧ Hid (Below w.heap.size w wr)) (fun _ i _ => n - (intOf i).toNat)
  case atStart => exact ⟨0, by omega, rfl, Lib.hid (by simp [ofS]; exact World.ownsRow_nil _ _ _ _), Lib.hid (Below.refl _ _)⟩
  case round =>
    obtain ⟨j, hj, rfl, HR, HB⟩ := hrel
    by_cases hlt : j < n
    · obtain ⟨b1, o1, s1, rfl, g1, z1, x0, x1, x2, x3, x4, x5⟩ := SAt.cells (HX.out.below HB.out) hlt
      have hfl := ofS_len (xs.take j) k
      rw [List.length_take] at hfl
      have k1 : (j : Int) < n := by omega
      have k2 : (0 : Int) ≤ j := by omega
      have hb1 := HB.out.size
      by_cases he : s1.1 = k
      · have HT := Lib.hid (ofS_hit g1 he)
        have HC : Hid (((arr s1.1).toList == (arr k).toList) = true ∧ (arr s1.1).toList = (arr k).toList) := Lib.hid (by rw [he]; simp)
        obtain ⟨q1, q2⟩ := HC.out
        generalize ofS (xs.take j) k = L at *
        clear g1 he
        obtain ⟨cl, wk, dy, st, ln, rm⟩ := s1
        simp only at x0 x1 x2 x3 x4 x5 q1 q2
        go_wp2_with (at_builtin; refine wpList_append_own _ rfl _ _ 49 rfl w.heap.size 95 i0 sesZ 6 64 Tryz.underlying49 HI0.out HZ0.out HZ1.out HZ2.out rfl (by decide) _ _ _ rfl (HR.out.alloc _) ⟨wr.heap.size, 0, none⟩ 1 1 (sesC (cl, wk, dy, st, ln, rm)) rfl rfl ?c1 ?c2 ?c3 ?c4 ?c5 ?_)
        case c1 => exact fun j u h => h
        case c2 => exact ones_ses _
        case c3 => unfold maxLen; omega
        case c4 => omega
        case c5 => first | omega | (simp; omega)
        intro v' w2 hown' hgrow _
        have hown2 := Lib.hid (srow_snoc hown')
        have hB2 : Hid (Below w.heap.size w w2) := Lib.hid ((HB.out.alloc HB.out.size _).grown hgrow (by simp; omega) (fun q hq => (HR.out.lt q hq).1))
        clear hown' hgrow
        go_wp2
        go_roundw
        case rel => exact ⟨j + 1, by omega, by go_num, by rw [HT.out]; exact hown2, hB2⟩
        case measure => simp [intOf]; omega
      · have HT := Lib.hid (ofS_miss g1 he)
        have HC : Hid (((arr s1.1).toList == (arr k).toList) = false ∧ ¬ (arr s1.1).toList = (arr k).toList) := Lib.hid (by rw [arr_toList, arr_toList]; exact ⟨by simpa using he, he⟩)
        obtain ⟨q1, q2⟩ := HC.out
        clear g1 he
        obtain ⟨cl, wk, dy, st, ln, rm⟩ := s1
        simp only at x0 x1 x2 x3 x4 x5 q1 q2
        go_wp2
        go_roundw
        case rel => exact ⟨j + 1, by omega, by go_num, by rw [HT.out]; exact HR, HB⟩
        case measure => simp [intOf]; omega
    · obtain rfl : j = n := by omega
      have HF : Hid (ofS (xs.take j) k = ofS xs k) := Lib.hid (by rw [List.take_of_length_le (by omega)])
      go_wp2
      go_ret
      exact ⟨_, rfl, by rw [← HF.out]; exact HR.out, HB.out⟩

set_option maxRecDepth 100000 in
set_option maxHeartbeats 2000000 in
theorem of_any (a : Option Addr) (n c : Nat) (xs : List Ses) (k : L8) (w : World) (hx : SAt w a n xs) (hn : n ≤ 1000000) :
    Calls Tryz.prog 116 #[.slice a n c, .string (arr k)] w (fun e w' => ∃ v, e = .returned v ∧ SRow w' w.heap.size v (ofS xs k) ∧ Below w.heap.size w w') := by
  have HX := Lib.hid hx
  have hlen := hx.1
  obtain ⟨i0, hi, hz0, hz1, hz2⟩ := info_parts Tryz.infoSes
  have HI0 := Lib.hid hi; have HZ0 := Lib.hid hz0; have HZ1 := Lib.hid hz1; have HZ2 := Lib.hid hz2
  clear hi hz0 hz1 hz2 hx
  go_enter Tryz.func116, Tryz.ntmps116
  go_wp2
  go_loopw [5, 10] (fun v i wr => ∃ j : Nat, j ≤ n ∧ i = .int .i64 j ∧ Hid (SRow wr w.heap.size v (ofS (xs.take j) k)) ∧ Hid (Below w.heap.size w wr)) (fun _ i _ => n - (intOf i).toNat)
  case atStart => exact ⟨0, by omega, rfl, Lib.hid (by simp [ofS]; exact World.ownsRow_nil _ _ _ _), Lib.hid (Below.refl _ _)⟩
  case round =>
    obtain ⟨j, hj, rfl, HR, HB⟩ := hrel
    by_cases hlt : j < n
    · obtain ⟨b1, o1, s1, rfl, g1, z1, x0, x1, x2, x3, x4, x5⟩ := SAt.cells (HX.out.below HB.out) hlt
      have hfl := ofS_len (xs.take j) k
      rw [List.length_take] at hfl
      have k1 : (j : Int) < n := by omega
      have k2 : (0 : Int) ≤ j := by omega
      have hb1 := HB.out.size
      by_cases he : s1.1 = k
      · have HT := Lib.hid (ofS_hit g1 he)
        have HC : Hid (((arr s1.1).toList == (arr k).toList) = true ∧ (arr s1.1).toList = (arr k).toList) := Lib.hid (by rw [he]; simp)
        obtain ⟨q1, q2⟩ := HC.out
        generalize ofS (xs.take j) k = L at *
        clear g1 he
        obtain ⟨cl, wk, dy, st, ln, rm⟩ := s1
        simp only at x0 x1 x2 x3 x4 x5 q1 q2
        go_wp2_with (at_builtin; refine wpList_append_own _ rfl _ _ 49 rfl w.heap.size 95 i0 sesZ 6 64 Tryz.underlying49 HI0.out HZ0.out HZ1.out HZ2.out rfl (by decide) _ _ _ rfl ((HR.out.alloc _).alloc _) ⟨wr.heap.size + 1, 0, none⟩ 1 1 (sesC (cl, wk, dy, st, ln, rm)) rfl rfl ?c1 ?c2 ?c3 ?c4 ?c5 ?_)
        case c1 => exact fun j u h => h
        case c2 => exact ones_ses _
        case c3 => unfold maxLen; omega
        case c4 => omega
        case c5 => first | omega | (simp; omega)
        intro v' w2 hown' hgrow _
        have hown2 := Lib.hid (srow_snoc hown')
        have hB2 : Hid (Below w.heap.size w w2) := Lib.hid (((HB.out.alloc HB.out.size _).alloc (by simp; omega) _).grown hgrow (by simp; omega) (fun q hq => (HR.out.lt q hq).1))
        clear hown' hgrow
        go_wp2
        go_roundw
        case rel => exact ⟨j + 1, by omega, by go_num, by rw [HT.out]; exact hown2, hB2⟩
        case measure => simp [intOf]; omega
      · have HT := Lib.hid (ofS_miss g1 he)
        have HC : Hid (((arr s1.1).toList == (arr k).toList) = false ∧ ¬ (arr s1.1).toList = (arr k).toList) := Lib.hid (by rw [arr_toList, arr_toList]; exact ⟨by simpa using he, he⟩)
        obtain ⟨q1, q2⟩ := HC.out
        clear g1 he
        obtain ⟨cl, wk, dy, st, ln, rm⟩ := s1
        simp only at x0 x1 x2 x3 x4 x5 q1 q2
        go_wp2
        go_roundw
        case rel => exact ⟨j + 1, by omega, by go_num, by rw [HT.out]; exact Lib.hid (HR.out.alloc _), Lib.hid (HB.out.alloc HB.out.size _)⟩
        case measure => simp [intOf]; omega
    · obtain rfl : j = n := by omega
      have HF : Hid (ofS (xs.take j) k = ofS xs k) := Lib.hid (by rw [List.take_of_length_le (by omega)])
      go_wp2
      go_ret
      exact ⟨_, rfl, by rw [← HF.out]; exact HR.out, HB.out⟩
end Go.Proofs.YtihbpggbpapcfaaGreatDoor

namespace Go.Proofs.YtihbpggbpapcfaaGreatDoor
open Go.RowKit

def metB (cl : L8) (wk : Int) (cl' : L8) (wk' : Int) : Bool := decide (cl = cl') && (bits .and .i64 wk wk' != 0)

set_option maxRecDepth 100000 in
theorem meet_any (cl : L8) (wk dy st ln : Int) (rm : L8) (cl' : L8) (wk' dy' st' ln' : Int) (rm' : L8) (w : World) :
    Calls Tryz.prog 112 #[sesV cl wk dy st ln rm, sesV cl' wk' dy' st' ln' rm'] w (RetB (.bool (metB cl wk cl' wk')) w) := by
  have HB := Lib.hid (fun (A B : Obj) => ((Below.refl w.heap.size w).alloc (Nat.le_refl _) A).alloc (by simp) B)
  by_cases h : cl = cl'
  · subst h
    have HF : Hid (metB cl wk cl wk' = (bits .and .i64 wk wk' != 0)) := Lib.hid (by simp [metB])
    go_enter Tryz.func112, Tryz.ntmps112
    go_wp2
    all_goals go_ret
    all_goals exact ⟨ret_bool (by rw [HF.out]), HB.out _ _⟩
  · have HF : Hid (metB cl wk cl' wk' = false) := Lib.hid (by simp [metB, h])
    have q1 : ((arr cl).toList == (arr cl').toList) = false := by rw [arr_toList, arr_toList]; simpa using h
    have q2 : ¬ (arr cl).toList = (arr cl').toList := by rw [arr_toList, arr_toList]; exact h
    clear h
    go_enter Tryz.func112, Tryz.ntmps112
    go_wp2
    all_goals go_ret
    all_goals exact ⟨ret_bool (by rw [HF.out]), HB.out _ _⟩
end Go.Proofs.YtihbpggbpapcfaaGreatDoor

namespace Go.Proofs.YtihbpggbpapcfaaGreatDoor
open Go.RowKit

def cmpS (a b : L8) : Int := if Op.bytesLess a b = true then -1 else if a = b then 0 else 1

theorem cmpS_any (a b : L8) (w : World) : Calls Tryz.prog 143 #[.string (arr a), .string (arr b)] w (RetS (.int .i64 (cmpS a b)) w) := by
  have ea := arr_toList a
  have eb := arr_toList b
  cases hl : Op.bytesLess a b
  · by_cases he : a = b
    · subst he
      have HF : Hid (cmpS a a = 0) := Lib.hid (by simp [cmpS, hl])
      have q1 : ((arr a).toList == (arr a).toList) = true := by simp
      have q2 : Op.bytesLess (arr a).toList (arr a).toList = false := by rw [ea]; exact hl
      clear ea eb hl
      generalize arr a = A at *
      go_enter Tryz.func143, Tryz.ntmps143
      go_wp2
      all_goals go_ret
      all_goals exact ⟨ret_int (by rw [HF.out]), rfl⟩
    · have HF : Hid (cmpS a b = 1) := Lib.hid (by simp [cmpS, hl, he])
      have q1 : ((arr a).toList == (arr a).toList) = true := by simp
      have q1' : ((arr b).toList == (arr b).toList) = true := by simp
      have q2 : Op.bytesLess (arr a).toList (arr b).toList = false := by rw [ea, eb]; exact hl
      have q3 : ((arr a).toList == (arr b).toList) = false := by rw [ea, eb]; simpa using he
      clear ea eb hl he
      generalize arr a = A at *
      generalize arr b = B at *
      go_enter Tryz.func143, Tryz.ntmps143
      go_wp2
      all_goals go_ret
      all_goals exact ⟨ret_int (by rw [HF.out]), rfl⟩
  · have HF : Hid (cmpS a b = -1) := Lib.hid (by simp [cmpS, hl])
    have q1 : ((arr a).toList == (arr a).toList) = true := by simp
    have q1' : ((arr b).toList == (arr b).toList) = true := by simp
    have q2 : Op.bytesLess (arr a).toList (arr b).toList = true := by rw [ea, eb]; exact hl
    clear ea eb hl
    generalize arr a = A at *
    generalize arr b = B at *
    go_enter Tryz.func143, Tryz.ntmps143
    go_wp2
    all_goals go_ret
    all_goals exact ⟨ret_int (by rw [HF.out]), rfl⟩
end Go.Proofs.YtihbpggbpapcfaaGreatDoor

namespace Go.Proofs.YtihbpggbpapcfaaGreatDoor
open Go.RowKit

theorem IntsAt.cell {w : World} {a : Option Addr} {n : Nat} {hs : List Int} (h : IntsAt w a n hs) {j : Nat} (hj : j < n) :
    ∃ b off, a = some ⟨b, off, none⟩ ∧ b < w.heap.size ∧ ∀ i, i < n → w.cell? ⟨b, off + i, none⟩ = some (.int .i64 (hs.getD i 0)) := by
  obtain ⟨_, _, h0 | ⟨b, off, ha, hc⟩⟩ := h
  · omega
  · exact ⟨b, off, ha, lt_of_cell (hc j hj), hc⟩
theorem IntsAt.len {w : World} {a : Option Addr} {n : Nat} {hs : List Int} (h : IntsAt w a n hs) : hs.length = n := h.1
theorem IntsAt.le {w : World} {a : Option Addr} {n : Nat} {hs : List Int} (h : IntsAt w a n hs) : n ≤ 9223372036854775807 := h.2.1

def orI : List Int → Int
  | [] => 0
  | x :: r => if x = 0 then orI r else x
theorem orI_drop {xs : List Int} {j : Nat} (h : j < xs.length) : orI (xs.drop j) = if xs.getD j 0 = 0 then orI (xs.drop (j + 1)) else xs.getD j 0 := by
  rw [List.drop_eq_getElem_cons h, orI, List.getD_eq_getElem?_getD, List.getElem?_eq_getElem h]; rfl

set_option maxRecDepth 100000 in
theorem or_any (a : Option Addr) (n c : Nat) (xs : List Int) (w : World) (hx : IntsAt w a n xs) : Calls Tryz.prog 142 #[.slice a n c] w (RetS (.int .i64 (orI xs)) w) := by
  have HX := Lib.hid hx
  have hl := hx.1
  have hm := hx.2.1
  clear hx
  go_enter Tryz.func142, Tryz.ntmps142
  go_wp2
  go_loop [8] (fun i => ∃ j : Nat, j ≤ n ∧ i = .int .i64 j ∧ Hid (orI (xs.drop j) = orI xs)) (fun i => n - (intOf i).toNat)
  case atStart => exact ⟨0, by omega, rfl, Lib.hid rfl⟩
  case round =>
    obtain ⟨j, hj, rfl, HO⟩ := hrel
    by_cases hlt : j < n
    · obtain ⟨b, off, rfl, hb, hc⟩ := HX.out.cell (j := j) hlt
      have hcj := hc j hlt
      have HD := Lib.hid (orI_drop (xs := xs) (j := j) (by omega))
      clear hc
      generalize xs.getD j 0 = x at *
      have k1 : (j : Int) < n := by omega
      by_cases hz : x = 0
      · subst hz
        have HO2 : Hid (orI (xs.drop (j + 1)) = orI xs) := Lib.hid (by rw [← HO.out, HD.out, if_pos rfl])
        go_wp2
        refine ⟨⟨j + 1, by omega, by go_num, HO2⟩, by simp [intOf]; omega⟩
      · have HF : Hid (orI xs = x) := Lib.hid (by rw [← HO.out, HD.out, if_neg hz])
        have hd : (x != 0) = true := by simpa using hz
        go_wp2
        go_ret
        exact ⟨ret_int (by rw [HF.out]), rfl⟩
    · obtain rfl : j = n := by omega
      have HF : Hid (orI xs = 0) := Lib.hid (by rw [← HO.out, List.drop_eq_nil_of_le (by omega), orI])
      go_wp2
      go_ret
      exact ⟨ret_int (by rw [HF.out]), rfl⟩
end Go.Proofs.YtihbpggbpapcfaaGreatDoor

namespace Go.Proofs.YtihbpggbpapcfaaGreatDoor
open Go.RowKit

theorem bits_one (x : Int) (h0 : 0 ≤ x) (h1 : x ≤ 9223372036854775807) : bits .and .i64 x 1 = x % 2 := by
  obtain ⟨n, rfl⟩ := Int.eq_ofNat_of_zero_le h0
  have hn : n < 2 ^ 64 := by omega
  have hb : (BitVec.ofInt 64 (n : Int) &&& BitVec.ofInt 64 1).toNat = n % 2 := by
    rw [BitVec.toNat_and]
    have e1 : (BitVec.ofInt 64 (n : Int)).toNat = n := by simp; omega
    have e2 : (BitVec.ofInt 64 (1 : Int)).toNat = 1 := by decide
    rw [e1, e2, Nat.and_one_is_mod]
  show IntKind.i64.wrap (((BitVec.ofInt 64 (n : Int) &&& BitVec.ofInt 64 1).toNat : Nat) : Int) = _
  rw [hb]
  rw [IntWalk.i64_in _ (by omega)]
  omega
theorem shr_bd (ws : Int) (j : Nat) (h0 : 0 ≤ ws) (h1 : ws ≤ 9223372036854775807) : 0 ≤ ws / 2 ^ j ∧ ws / 2 ^ j ≤ 9223372036854775807 := by
  have hp : (0 : Int) < 2 ^ j := Int.pow_pos (by decide)
  refine ⟨Int.ediv_nonneg h0 (Int.le_of_lt hp), Int.le_trans (Int.ediv_le_self _ h0) h1⟩
theorem rowSnoc {w2 : World} {B : Nat} {v' : Value} {L : List Int} {x : Int}
    (hown' : w2.ownsRow B 3 1 v' (L.length + 1) (L.map (Value.int .i64) ++ [.int .i64 x])) : w2.ownsRow B 3 1 v' (L ++ [x]).length ((L ++ [x]).map (Value.int .i64)) := by
  simpa using hown'
abbrev Row (w : World) (B : Nat) (v : Value) (L : List Int) : Prop := w.ownsRow B 3 1 v L.length (L.map (Value.int .i64))
theorem Row.ints {w : World} {B : Nat} {v : Value} {L : List Int} (h : Row w B v L) : Ints w v L := by
  obtain ⟨a, cap, h1, h2⟩ := IntsAt.of_owns h
  exact ⟨a, cap, h1, h2⟩
theorem Tryz.infoInt : (Tryz.prog.info? 3).map (fun i => (i.zero, i.size, i.bytes)) = some (some (.int .i64 0), 1, 8) := by kernel_rfl
def wkB (set : Int) (t : Nat) : Bool := decide (set / 2 ^ t % 2 = 1)
def wksL (set : Int) : Nat → List Int
  | 0 => []
  | t + 1 => wksL set t ++ (bif wkB set t then [(t : Int) + 1] else [])
theorem wksL_hit {set : Int} {t : Nat} (h : wkB set t = true) : wksL set (t + 1) = wksL set t ++ [(t : Int) + 1] := by simp [wksL, h]
theorem wksL_miss {set : Int} {t : Nat} (h : wkB set t = false) : wksL set (t + 1) = wksL set t := by simp [wksL, h]
theorem wksL_len (set : Int) : ∀ t, (wksL set t).length ≤ t
  | 0 => by simp [wksL]
  | t + 1 => by
    have ih := wksL_len set t
    simp only [wksL, List.length_append]; cases wkB set t <;> simp <;> omega
theorem wk_bit (set : Int) (t : Nat) (h0 : 0 ≤ set) (h1 : set ≤ 9223372036854775807) : (bits .and .i64 (set / 2 ^ t) 1 == 1) = wkB set t := by
  obtain ⟨a, b⟩ := shr_bd set t h0 h1
  rw [bits_one _ a b]
  unfold wkB
  rw [Bool.eq_iff_iff]
  simp only [beq_iff_eq, decide_eq_true_eq]

set_option maxRecDepth 100000 in
set_option maxHeartbeats 2000000 in
theorem weeks_any (set : Int) (hv : wsB set 20 = true) (w : World) : Calls Tryz.prog 169 #[.int .i64 set] w (fun e w' => ∃ v, e = .returned v ∧ Row w' w.heap.size v (wksL set 20) ∧ Below w.heap.size w w') := by
  have h20 : 1 ≤ set ∧ set < 1048576 := by rw [wsB_20] at hv; exact of_decide_eq_true hv
  have HW := Lib.hid (fun W => by have h := rws_any set 20 W; rw [hv] at h; exact h)
  obtain ⟨s1, s2⟩ := h20
  obtain ⟨i0, hi, hz0, hz1, hz2⟩ := info_parts Tryz.infoInt
  have HI0 := Lib.hid hi; have HZ0 := Lib.hid hz0; have HZ1 := Lib.hid hz1; have HZ2 := Lib.hid hz2
  clear hi hz0 hz1 hz2 hv
  go_enter Tryz.func169, Tryz.ntmps169
  go_wp2_with fail
  refine (HW.out _).mono ?_
  rintro en w1 ⟨rfl, hw⟩
  subst hw
  go_wp2_with fail
  go_loopw [3, 4] (fun v i wr => ∃ t : Nat, t ≤ 20 ∧ i = .int .i64 ((t : Int) + 1) ∧ Hid (Row wr w.heap.size v (wksL set t)) ∧ Hid (Below w.heap.size w wr)) (fun _ i _ => 21 - (intOf i).toNat)
  case atStart => exact ⟨0, by omega, rfl, Lib.hid (World.ownsRow_nil _ _ _ _), Lib.hid (Below.refl _ _)⟩
  case round =>
    obtain ⟨t, ht, rfl, HR, HB⟩ := hrel
    by_cases hlt : t < 20
    · have hbit := wk_bit set t (by omega) (by omega)
      have hlen := wksL_len set t
      have q1 : (t : Int) + 1 - 1 = (t : Int) := by omega
      have hb1 := HB.out.size
      cases hbb : wkB set t
      · have HT := Lib.hid (wksL_miss hbb)
        rw [hbb] at hbit
        clear hbb
        go_wp2_with fail
        go_roundw
        case rel => exact ⟨t + 1, by omega, by go_num, by rw [HT.out]; exact HR, HB⟩
        case measure => simp [intOf]; omega
      · have HT := Lib.hid (wksL_hit hbb)
        rw [hbb] at hbit
        clear hbb
        generalize wksL set t = L at *
        go_wp2_with (at_builtin; refine wpList_append_own _ rfl _ _ 25 rfl w.heap.size 3 i0 (.int .i64 0) 1 8 Tryz.underlying25 HI0.out HZ0.out HZ1.out HZ2.out rfl (by decide) _ _ _ rfl (HR.out.alloc _) ⟨wr.heap.size, 0, none⟩ 1 1 [.int .i64 ((t : Int) + 1)] rfl rfl ?c1 ?c2 ?c3 ?c4 ?c5 ?_)
        case c1 =>
          intro j u hj
          match j, hj with
          | 0, hj => simp at hj; subst hj; simp [Addr.add]
        case c2 => intro u hu; simp at hu; subst hu; rfl
        case c3 => unfold maxLen; omega
        case c4 => omega
        case c5 => first | omega | (simp; omega)
        intro v' w2 hown' hgrow _
        have hown2 := Lib.hid (rowSnoc hown')
        have hB2 : Hid (Below w.heap.size w w2) := Lib.hid ((HB.out.alloc HB.out.size _).grown hgrow (by simp; omega) (fun q hq => (HR.out.lt q hq).1))
        clear hown' hgrow
        go_wp2_with fail
        go_roundw
        case rel => exact ⟨t + 1, by omega, by go_num, by rw [HT.out]; exact hown2, hB2⟩
        case measure => simp [intOf]; omega
    · obtain rfl : t = 20 := by omega
      go_wp2_with fail
      go_ret
      exact ⟨_, rfl, HR.out, HB.out⟩
end Go.Proofs.YtihbpggbpapcfaaGreatDoor

namespace Go.Proofs.YtihbpggbpapcfaaGreatDoor
open Go.RowKit

def lowW (set : Int) : Int := (wksL set 20).getD 0 0
theorem wks_none {set : Int} (h0 : 0 ≤ set) : ∀ t, wksL set t = [] → set % 2 ^ t = 0
  | 0, _ => by simp
  | t + 1, h => by
    cases hb : wkB set t
    · rw [wksL_miss hb] at h
      have ih := wks_none h0 t h
      have hb' : set / 2 ^ t % 2 ≠ 1 := of_decide_eq_false hb
      have hp : (0 : Int) < 2 ^ t := Int.pow_pos (by decide)
      rw [Int.pow_succ]
      generalize (2 : Int) ^ t = p at *
      have e1 := Int.mul_ediv_add_emod set p
      rw [ih, Int.add_zero] at e1
      have e2 : set / p = 2 * (set / p / 2) := by omega
      rw [e2] at e1
      have e3 : set = p * 2 * (set / p / 2) := by rw [Int.mul_assoc]; exact e1.symm
      rw [e3]; exact Int.mul_emod_right _ _
    · rw [wksL_hit hb] at h; simp at h
theorem wks_some {set : Int} (hv : wsB set 20 = true) : 0 < (wksL set 20).length := by
  have h20 : 1 ≤ set ∧ set < 1048576 := by rw [wsB_20] at hv; exact of_decide_eq_true hv
  rcases Nat.eq_zero_or_pos (wksL set 20).length with h | h
  · have := wks_none (set := set) (by omega) 20 (List.eq_nil_of_length_eq_zero h)
    rw [show (2 : Int) ^ 20 = 1048576 from rfl] at this
    omega
  · exact h

set_option maxRecDepth 100000 in
theorem low_any (set : Int) (hv : wsB set 20 = true) (w : World) : Calls Tryz.prog 139 #[.int .i64 set] w (RetB (.int .i64 (lowW set)) w) := by
  have HW := Lib.hid (weeks_any set hv w)
  have hl := wks_some hv
  have HL : Hid (lowW set = (wksL set 20).getD 0 0) := Lib.hid rfl
  have h20 := wksL_len set 20
  clear hv
  go_enter Tryz.func139, Tryz.ntmps139
  go_wp2_with fail
  refine HW.out.mono ?_
  rintro en w1 ⟨v, rfl, hr, hb⟩
  obtain ⟨a, cap, rfl, hi⟩ := Row.ints hr
  obtain ⟨b, off, rfl, hlt, hc⟩ := hi.cell hl
  have hc0 : w1.cell? ⟨b, off, none⟩ = some (.int .i64 ((wksL set 20).getD 0 0)) := by have := hc 0 hl; rw [Nat.add_zero] at this; exact this
  rw [← HL.out] at hc0
  have HB := Lib.hid hb
  clear hc hr hi hb HW HL
  generalize (wksL set 20).length = n at *
  have k1 : (0 : Int) < (n : Int) := by omega
  go_wp2_with fail
  go_ret
  exact ⟨rfl, HB.out⟩
end Go.Proofs.YtihbpggbpapcfaaGreatDoor
