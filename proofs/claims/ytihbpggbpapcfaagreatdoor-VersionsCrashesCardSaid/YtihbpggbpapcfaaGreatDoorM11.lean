/- Texts V25, W1, W2, joined: walks and laws for the versions. -/
import Derived.Test.YtihbpggbpapcfaaGreatDoorM07
import Derived.Test.YtihbpggbpapcfaaGreatDoorM10
namespace Go.Proofs.YtihbpggbpapcfaaGreatDoor
open Go.RowKit

def ResS (r : Int × List Ses) (w : World) (e : Ending) (w' : World) : Prop := ∃ v, e = .returned (.tuple #[v, .int .i64 r.1]) ∧ SRow w' w.heap.size v r.2 ∧ Below w.heap.size w w'
theorem ResS.err {r : Int × List Ses} {w w' : World} {x : Int} (h : r = (x, [])) (hb : Below w.heap.size w w') : ResS r w (.returned (.tuple #[.slice none 0 0, .int .i64 x])) w' := by
  subst h; exact ⟨_, rfl, World.ownsRow_nil _ _ _ _, hb⟩
theorem ResS.mk {r : Int × List Ses} {w w' : World} {v : Value} {x : Int} {ss : List Ses} (h : r = (x, ss)) (hr : SRow w' w.heap.size v ss) (hb : Below w.heap.size w w') : ResS r w (.returned (.tuple #[v, .int .i64 x])) w' := by
  subst h; exact ⟨_, rfl, hr, hb⟩
theorem nomet_of {xs : List Ses} (h : ∀ (i k : Nat) (s t : Ses), xs[i]? = some s → xs[k]? = some t → k < i → metS s t = false) : NoMet xs := by
  unfold NoMet
  rw [List.pairwise_iff_getElem]
  intro i j hi hj hij
  rw [metS_comm]
  exact h j i _ _ (List.getElem?_eq_getElem hj) (List.getElem?_eq_getElem hi) hij
theorem not_nomet {xs : List Ses} {i k : Nat} {s t : Ses} (hs : xs[i]? = some s) (ht : xs[k]? = some t) (hk : k < i) (hm : metS s t = true) : ¬ NoMet xs := by
  intro h
  unfold NoMet at h
  obtain ⟨hi, rfl⟩ := List.getElem?_eq_some_iff.1 hs
  obtain ⟨hk', rfl⟩ := List.getElem?_eq_some_iff.1 ht
  have := List.pairwise_iff_getElem.1 h k i hk' hi hk
  rw [metS_comm, this] at hm; cases hm

set_option maxRecDepth 100000 in
set_option maxHeartbeats 4000000 in
theorem rnormal_any (a : Option Addr) (n c : Nat) (xs : List Ses) (m : Int) (w : World) (hx : SAt w a n xs) (hs : StrOk xs) (hn : n ≤ 1000000) :
    Calls Tryz.prog 72 #[.slice a n c, .int .i64 m] w (ResS (nrmS m xs) w) := by
  have n1 := hx.2.1
  have hl := hx.1
  have HX := Lib.hid hx
  have HS := Lib.hid hs
  clear hx hs
  by_cases hm : m < 1 ∨ 20 < m
  · have HF : Hid (nrmS m xs = (3, [])) := Lib.hid (by unfold nrmS; rw [if_pos hm])
    rcases (show m < 1 ∨ (1 ≤ m ∧ 20 < m) by omega) with h | ⟨h, h'⟩
    all_goals
      clear hm
      go_enter Tryz.func72, Tryz.ntmps72
      go_wp2
      go_ret2
      exact ResS.err HF.out (Below.refl _ _)
  have m1 : 1 ≤ m := by omega
  have m2 : m ≤ 20 := by omega
  have HV : Hid (nrmS m xs = if chkL m xs ≠ 0 then (chkL m xs, []) else if ¬ NoMet (joinS xs) then (11, []) else if 96 < (joinS xs).length then (2, []) else (0, srtS (joinS xs))) := Lib.hid (by unfold nrmS; rw [if_neg hm])
  clear hm
  go_enter Tryz.func72, Tryz.ntmps72
  go_wp2_with fail
  go_loopw [6] (fun i wr => ∃ j : Nat, j ≤ n ∧ i = .int .i64 j ∧ Hid (chkL m (xs.drop j) = chkL m xs) ∧ Hid (∀ (i : Nat) (s : Ses), i < j → xs[i]? = some s → chkS s m = 0) ∧ Hid (Below w.heap.size w wr)) (fun i _ => n - (intOf i).toNat)
  case atStart => exact ⟨0, by omega, rfl, Lib.hid rfl, Lib.hid (fun i s h => by omega), Lib.hid (Below.refl _ _)⟩
  case round =>
    obtain ⟨j, hj, rfl, HC, HA, HB⟩ := hrel
    by_cases hlt : j < n
    · obtain ⟨b1, o1, s1, rfl, g1, z1, x0, x1, x2, x3, x4, x5⟩ := SAt.cells (HX.out.below HB.out) hlt
      have HG := Lib.hid g1
      have HSS := Lib.hid (HS.out s1 (List.mem_of_getElem? g1))
      have HD := Lib.hid (chkL_drop (n := m) g1)
      have k1 : (j : Int) < n := by omega
      have k2 : (0 : Int) ≤ j := by omega
      clear g1
      have HK : Hid (chkS s1 m = chkE s1.1 s1.2.1 s1.2.2.1 s1.2.2.2.1 s1.2.2.2.2.1 s1.2.2.2.2.2 m) := Lib.hid rfl
      have SN := Lib.hid (fun W => single_any s1.1 s1.2.1 s1.2.2.1 s1.2.2.2.1 s1.2.2.2.2.1 s1.2.2.2.2.2 m HSS.out.1 HSS.out.2 W)
      rw [← HK.out] at SN
      go_wp2_with fail
      refine (SN.out _).mono ?_
      rintro en w2 ⟨rfl, hb2⟩
      have HB2 := Lib.hid (below3 HB.out hb2)
      clear hb2
      by_cases hz : chkS s1 m = 0
      · have HC2 : Hid (chkL m (xs.drop (j + 1)) = chkL m xs) := Lib.hid (by rw [← HC.out, HD.out, if_pos hz])
        have HA2 : Hid (∀ (i : Nat) (s : Ses), i < j + 1 → xs[i]? = some s → chkS s m = 0) := Lib.hid (fun i s h h2 => by
          rcases Nat.lt_or_ge i j with h3 | h3
          · exact HA.out i s h3 h2
          · have : i = j := by omega
            subst this
            rw [HG.out] at h2; cases h2; exact hz)
        have hd : (chkS s1 m != 0) = false := by simpa using hz
        clear hz
        generalize chkS s1 m = e1 at *
        go_wp2_with fail
        go_roundw
        case rel => exact ⟨j + 1, by omega, by go_num, HC2, HA2, HB2⟩
        case measure => simp [intOf]; omega
      · have HF : Hid (nrmS m xs = (chkS s1 m, [])) := Lib.hid (by
          have : chkL m xs = chkS s1 m := by rw [← HC.out, HD.out, if_neg hz]
          rw [HV.out, this, if_pos hz])
        have hd : (chkS s1 m != 0) = true := by simpa using hz
        clear hz
        generalize chkS s1 m = e1 at *
        go_wp2_with fail
        go_ret2
        exact ResS.err HF.out HB2.out
    · obtain rfl : n = j := by omega
      have HOK : Hid (∀ s ∈ xs, chkS s m = 0) := Lib.hid (fun s h => by
        obtain ⟨i, hi, rfl⟩ := List.getElem_of_mem h
        exact HA.out i _ (by omega) (List.getElem?_eq_getElem hi))
      have HV2 : Hid (nrmS m xs = if ¬ NoMet (joinS xs) then (11, []) else if 96 < (joinS xs).length then (2, []) else (0, srtS (joinS xs))) := Lib.hid (by
        have h0 : chkL m xs = 0 := by rw [← HC.out, List.drop_eq_nil_of_le (by omega), chkL]
        rw [HV.out, h0]; simp)
      have HW : Hid (∀ t ∈ joinS xs, wsB t.2.1 20 = true) := Lib.hid (joinS_ws xs [] (fun t h => by simp at h) (fun s h => (chk_week (HOK.out s h)).2.2.2))
      have HP : Hid ((ordS (joinS xs)).Perm (joinS xs)) := Lib.hid (by have := ordS_perm (joinS xs) []; rw [List.append_nil] at this; exact this)
      have HSR := Lib.hid (ordS_srt (xs := joinS xs) HW.out)
      have HJL : Hid ((joinS xs).length ≤ n) := Lib.hid (by have := joinS_len xs []; unfold joinS; simp at this; omega)
      clear HV HC HA
      have JN := Lib.hid (rjoined_any a n c xs wr (HX.out.below HB.out) hn)
      go_wp2_with fail
      refine JN.out.mono ?_
      rintro en w2 ⟨v2, rfl, hr2, hb2⟩
      obtain ⟨a2, c2, rfl, hc2, hs2⟩ := hr2.sat
      have hjl := HJL.out
      have ON := Lib.hid (rordered_any a2 (joinS xs).length c2 (joinS xs) w2 hs2 (by omega) HW.out)
      have HB2 := Lib.hid (below3 HB.out hb2)
      clear hr2 hb2 hs2 JN
      generalize joinS xs = M at *
      go_wp2_with fail
      refine ON.out.mono ?_
      rintro en w3 ⟨v3, rfl, hr3, hb3⟩
      have hpl : (ordS M).length = M.length := HP.out.length_eq
      have HR3 := Lib.hid (row_base hr3 HB2.out.size)
      have HB3 := Lib.hid (below3 HB2.out hb3)
      have HNM : Hid (NoMet (ordS M) ↔ NoMet M) := Lib.hid (NoMet.perm HP.out)
      clear hr3 hb3 ON
      generalize ordS M = L at *
      obtain ⟨a3, c3, rfl, hc3, hs3⟩ := SRow.sat HR3.out
      have HS3 := Lib.hid hs3
      have hLM : L.length = M.length := hpl
      rw [hLM] at HS3 HR3
      have HL := Lib.hid hLM
      clear hs3 hpl
      rw [hLM]
      clear hLM
      generalize M.length = p at *
      go_wp2_with fail
      obtain ⟨wo, rfl⟩ : ∃ wo : World, wo = w3 := ⟨_, rfl⟩
      go_loopw [9] (fun i wr => ∃ i2 : Nat, i2 ≤ p ∧ i = .int .i64 i2 ∧ Hid (∀ (i k : Nat) (s t : Ses), L[i]? = some s → L[k]? = some t → k < i → i < i2 → metS s t = false) ∧ Hid (Below wo.heap.size wo wr)) (fun i _ => p - (intOf i).toNat)
      case atStart => exact ⟨0, by omega, rfl, Lib.hid (fun i k s t _ _ _ h => by omega), Lib.hid (Below.refl _ _)⟩
      case round =>
        obtain ⟨i2, hi2, rfl, HN, HB4⟩ := hrel
        by_cases hl3 : i2 < p
        · obtain ⟨wq, rfl⟩ : ∃ wq : World, wq = wr := ⟨_, rfl⟩
          go_wp2_with fail
          go_loopw [10] (fun i wr => ∃ k2 : Nat, k2 ≤ i2 ∧ i = .int .i64 k2 ∧ Hid (∀ (k : Nat) (s t : Ses), L[i2]? = some s → L[k]? = some t → k < k2 → metS s t = false) ∧ Hid (Below wo.heap.size wo wr)) (fun i _ => i2 - (intOf i).toNat)
          case atStart => exact ⟨0, by omega, rfl, Lib.hid (fun k s t _ _ h => by omega), HB4⟩
          case round =>
            clear HB4
            obtain ⟨k2, hk2, rfl, HM, HB4⟩ := hrel
            by_cases hl4 : k2 < i2
            · obtain ⟨b1, o1, s1, rfl, g1, z1, x0, x1, x2, x3, x4, x5⟩ := SAt.cells (HS3.out.below HB4.out) hl3
              obtain ⟨b2, o2, s2, he2, g2, z2, y0, y1, y2, y3, y4, y5⟩ := SAt.cells (HS3.out.below HB4.out) (show k2 < p by omega)
              cases he2
              have q1 : (i2 : Int) < p := by omega
              have q2 : (0 : Int) ≤ (i2 : Int) := by omega
              have q3 : (k2 : Int) < p := by omega
              have q4 : (0 : Int) ≤ (k2 : Int) := by omega
              have G1 := Lib.hid g1
              have G2 := Lib.hid g2
              have HM2 : Hid (metS s1 s2 = false → ∀ (k : Nat) (s t : Ses), L[i2]? = some s → L[k]? = some t → k < k2 + 1 → metS s t = false) := Lib.hid (fun hd k s t h1 h2 h3 => by
                rcases Nat.lt_or_ge k k2 with h | h
                · exact HM.out k s t h1 h2 h
                · have : k = k2 := by omega
                  subst this
                  rw [G1.out] at h1; rw [G2.out] at h2; cases h1; cases h2; exact hd)
              have HY : Hid (metS s1 s2 = true → nrmS m xs = (11, [])) := Lib.hid (fun hd => by rw [HV2.out, if_pos (fun h => not_nomet G1.out G2.out hl4 hd (HNM.out.2 h))])
              have HDS : Hid (metS s1 s2 = (decide (s1.1 = s2.1) && (bits .and .i64 s1.2.1 s2.2.1 != 0))) := Lib.hid rfl
              clear g1 g2 x2 x3 x4 x5 y2 y3 y4 y5
              go_upto_region 16 with fail
              go_cut [72] (fun s72 wx => s72 = .bool (metS s1 s2) ∧ Below wr.heap.size wr wx)
              case first =>
                by_cases hc : s1.1 = s2.1
                · have p1 : ((arr s1.1).toList == (arr s2.1).toList) = true := by rw [hc]; simp
                  cases hb : (bits .and .i64 s1.2.1 s2.2.1 != 0)
                  all_goals
                    have HE := Lib.hid (HDS.out.trans (by rw [decide_eq_true hc, hb]; rfl : _ = (bits .and .i64 s1.2.1 s2.2.1 != 0)))
                    clear hc
                    go_quiet (fail)
                    go_wp2_with fail
                    go_meet
                    exact ⟨by rw [HE.out, hb], below_drewN _ _⟩
                · have p1 : ((arr s1.1).toList == (arr s2.1).toList) = false := by rw [arr_toList, arr_toList]; simpa using hc
                  have HE : Hid (metS s1 s2 = false) := Lib.hid (by rw [HDS.out, decide_eq_false hc]; simp)
                  clear hc
                  go_quiet (fail)
                  go_wp2_with fail
                  go_meet
                  exact ⟨by rw [HE.out], below_drewN _ _⟩
              case rest =>
                obtain ⟨rfl, hbz⟩ := hcut
                have HB5 := Lib.hid (below3 HB4.out hbz)
                clear hbz q1 q2 q3 q4
                cases hdd : metS s1 s2
                · have HM3 := Lib.hid (HM2.out hdd)
                  clear HM2 HY HDS
                  go_wp2_with fail
                  go_roundw
                  case rel => exact ⟨k2 + 1, by omega, by go_num, HM3, HB5⟩
                  case measure => simp [intOf]; omega
                · have HF := Lib.hid (HY.out hdd)
                  clear HM2 HY HDS
                  go_wp2_with fail
                  go_ret2
                  exact ResS.err HF.out (below3 HB3.out HB5.out)
            · obtain rfl : i2 = k2 := by omega
              have HN2 : Hid (∀ (i k : Nat) (s t : Ses), L[i]? = some s → L[k]? = some t → k < i → i < i2 + 1 → metS s t = false) := Lib.hid (fun i k s t h1 h2 h3 h4 => by
                rcases Nat.lt_or_ge i i2 with h | h
                · exact HN.out i k s t h1 h2 h3 h
                · have : i = i2 := by omega
                  subst this
                  exact HM.out k s t h1 h2 h3)
              go_wp2_with fail
              go_roundw
              case rel => exact ⟨i2 + 1, by omega, by go_num, HN2, HB4⟩
              case measure => simp [intOf]; omega
        · obtain rfl : p = i2 := by omega
          have hno : NoMet M := HNM.out.1 (nomet_of (fun i k s t h1 h2 h3 => HN.out i k s t h1 h2 h3 (by have := (List.getElem?_eq_some_iff.1 h1).1; have := HL.out; omega)))
          have HBF := Lib.hid (below3 HB3.out HB4.out)
          by_cases h96 : 96 < p
          · have HF : Hid (nrmS m xs = (2, [])) := Lib.hid (by rw [HV2.out, if_neg (by simpa using hno), if_pos h96])
            clear hno
            go_wp2_with fail
            go_ret2
            exact ResS.err HF.out HBF.out
          · have HF : Hid (nrmS m xs = (0, L)) := Lib.hid (by rw [HV2.out, if_neg (by simpa using hno), if_neg h96, HSR.out hno])
            have HRF := Lib.hid (row_below HR3.out HB4.out)
            clear hno
            go_wp2_with fail
            go_ret2
            exact ResS.mk HF.out (by show World.ownsRow _ _ _ _ _ L.length _; rw [HL.out]; exact HRF.out) HBF.out
end Go.Proofs.YtihbpggbpapcfaaGreatDoor

namespace Go.Proofs.YtihbpggbpapcfaaGreatDoor
open Go.RowKit

abbrev Chg := L8 × List Ses × List Ses
def aftK (p : Option L8) (k : L8) : Bool := match p with | none => true | some q => Op.bytesLess q k
def ordC (p : Option L8) : List Chg → Bool
  | [] => true
  | x :: r => aftK p x.1 && !decide (x.2.1 = x.2.2) && ordC (some x.1) r
def clsS (ss : List Ses) : List L8 := ss.map (·.1)
def clsC (cs : List Chg) : List L8 := cs.map (·.1)
def chgE (l : List Ses) : List Chg → Int
  | [] => 0
  | x :: r => if x.2.1 ≠ ofS l x.1 then 62 else if (ofS x.2.2 x.1).length ≠ x.2.2.length then 1 else chgE l r
def pickS (l : List Ses) (cs : List Chg) (k : L8) : List Ses := match cs.find? (fun x => decide (x.1 = k)) with | some x => x.2.2 | none => ofS l k
def appS (n : Int) (l : List Ses) (cs : List Chg) : Int × List Ses :=
  if vldS l n ≠ 0 then (vldS l n, []) else if ordC none cs = false then (63, []) else if chgE l cs ≠ 0 then (chgE l cs, [])
  else if vldS ((clsL (clsC cs ++ clsS l)).flatMap (pickS l cs)) n ≠ 0 then (vldS ((clsL (clsC cs ++ clsS l)).flatMap (pickS l cs)) n, []) else (0, (clsL (clsC cs ++ clsS l)).flatMap (pickS l cs))
def difK (a b : List Ses) (k : L8) : List Chg := if ofS a k = ofS b k then [] else [(k, ofS a k, ofS b k)]
def difS (n : Int) (a b : List Ses) : Int × List Chg :=
  if vldS a n ≠ 0 then (vldS a n, []) else if vldS b n ≠ 0 then (vldS b n, []) else (0, (clsL (clsS a ++ clsS b)).flatMap (difK a b))

theorem ofS_app (xs ys : List Ses) (k : L8) : ofS (xs ++ ys) k = ofS xs k ++ ofS ys k := by simp [ofS]
theorem ofS_none {xs : List Ses} {k : L8} (h : k ∉ clsS xs) : ofS xs k = [] := by
  unfold ofS; rw [List.filter_eq_nil_iff]
  intro s hs
  simp only [decide_eq_true_eq]
  rintro rfl
  exact h (List.mem_map_of_mem hs)
theorem ofS_some {xs : List Ses} {k : L8} (h : k ∈ clsS xs) : ofS xs k ≠ [] := by
  obtain ⟨s, hs, rfl⟩ := List.mem_map.1 h
  intro h0
  have : s ∈ ofS xs s.1 := List.mem_filter.2 ⟨hs, by simp⟩
  rw [h0] at this; simp at this
theorem ofS_all {xs : List Ses} {k : L8} (h : ∀ s ∈ xs, s.1 = k) : ofS xs k = xs := by
  unfold ofS; rw [List.filter_eq_self]; intro s hs; simpa using h s hs
theorem ofS_cls {xs : List Ses} {k : L8} : ∀ s ∈ ofS xs k, s.1 = k := fun s hs => by simpa using (List.mem_filter.1 hs).2
theorem ofS_of (xs : List Ses) (k q : L8) : ofS (ofS xs k) q = if q = k then ofS xs k else [] := by
  split
  · next h => subst h; exact ofS_all ofS_cls
  · next h => exact ofS_none (fun hm => by
      obtain ⟨s, hs, rfl⟩ := List.mem_map.1 hm
      exact h (ofS_cls s hs))

theorem flat_congr {α β : Type} {f g : α → List β} : ∀ {L : List α}, (∀ k ∈ L, f k = g k) → L.flatMap f = L.flatMap g
  | [], _ => rfl
  | k :: L, h => by rw [List.flatMap_cons, List.flatMap_cons, h k List.mem_cons_self, flat_congr (fun q hq => h q (List.mem_cons_of_mem _ hq))]
theorem sorted_parts : ∀ (cs : List L8) (xs : List Ses), cs.Pairwise (· < ·) → xs.Pairwise (fun a b => ¬ b.1 < a.1) → (∀ s ∈ xs, s.1 ∈ cs) → cs.flatMap (ofS xs) = xs
  | [], xs, _, _, hm => by
    cases xs with
    | nil => rfl
    | cons s xs => exact absurd (hm s List.mem_cons_self) (by simp)
  | c :: cs, xs, hc, hx, hm => by
    obtain ⟨hc1, hc2⟩ := List.pairwise_cons.1 hc
    have split : ∀ (ys : List Ses), ys.Pairwise (fun a b => ¬ b.1 < a.1) → (∀ s ∈ ys, s.1 ∈ c :: cs) → ys = ofS ys c ++ ys.filter (fun s => !decide (s.1 = c)) := by
      intro ys
      induction ys with
      | nil => intro _ _; rfl
      | cons y ys ih =>
        intro hp hmm
        obtain ⟨h1, h2⟩ := List.pairwise_cons.1 hp
        have ih' := ih h2 (fun s hs => hmm s (List.mem_cons_of_mem _ hs))
        by_cases hy : y.1 = c
        · have e1 : ofS (y :: ys) c = y :: ofS ys c := by simp [ofS, hy]
          have e2 : (y :: ys).filter (fun s => !decide (s.1 = c)) = ys.filter (fun s => !decide (s.1 = c)) := by simp [hy]
          rw [e1, e2, List.cons_append, ← ih']
        · have hyc : c < y.1 := by
            rcases List.mem_cons.1 (hmm y List.mem_cons_self) with h | h
            · exact absurd h hy
            · exact hc1 _ h
          have hno : ofS (y :: ys) c = [] := ofS_none (fun hmem => by
            obtain ⟨s, hs, he⟩ := List.mem_map.1 hmem
            rcases List.mem_cons.1 hs with rfl | hs
            · exact hy he
            · exact h1 s hs (by rw [he]; exact hyc))
          rw [hno, List.nil_append]
          symm
          rw [List.filter_eq_self]
          intro s hs
          simp only [Bool.not_eq_true', decide_eq_false_iff_not]
          rintro he
          have : c ∈ clsS (y :: ys) := by rw [← he]; exact List.mem_map_of_mem hs
          exact ofS_some this hno
    have hxs := split xs hx hm
    have hrest : ∀ k, k ≠ c → ofS xs k = ofS (xs.filter (fun s => !decide (s.1 = c))) k := by
      intro k hk
      unfold ofS
      rw [List.filter_filter]
      apply List.filter_congr
      intro s _
      by_cases h : s.1 = k
      · simp [h, hk]
      · simp [h]
    have ih := sorted_parts cs (xs.filter (fun s => !decide (s.1 = c))) hc2 (hx.sublist List.filter_sublist) (fun s hs => by
      obtain ⟨h1, h2⟩ := List.mem_filter.1 hs
      rcases List.mem_cons.1 (hm s h1) with h | h
      · simp [h] at h2
      · exact h)
    rw [List.flatMap_cons]
    conv => rhs; rw [hxs]
    congr 1
    rw [← ih]
    apply flat_congr
    intro k hk
    exact hrest k (fun h => by subst h; exact absurd (hc1 _ hk) (List.lt_irrefl _))
theorem flat_more {f : L8 → List Ses} {A B : List L8} (h : ∀ k ∈ B, k ∈ A) (hz : ∀ k ∈ A, k ∉ B → f k = []) : (clsL A).flatMap f = (clsL B).flatMap f := by
  have e : clsL B = (clsL A).filter (fun k => decide (k ∈ B)) := by
    refine (cls_unique ((clsL_sorted A).sublist List.filter_sublist) (clsL_sorted B) (fun k => ?_)).symm
    rw [List.mem_filter, clsL_mem, clsL_mem]
    simp only [decide_eq_true_eq]
    exact ⟨fun h => h.2, fun hb => ⟨h k hb, hb⟩⟩
  rw [e]
  have hA : ∀ k ∈ clsL A, k ∉ B → f k = [] := fun k hk hb => hz k ((clsL_mem A k).1 hk) hb
  generalize clsL A = L at *
  clear e h hz
  induction L with
  | nil => rfl
  | cons k L ih =>
    have ih' := ih (fun q hq => hA q (List.mem_cons_of_mem _ hq))
    by_cases hk : k ∈ B
    · rw [List.flatMap_cons, List.filter_cons, if_pos (by simpa using hk), List.flatMap_cons, ih']
    · rw [List.flatMap_cons, List.filter_cons, if_neg (by simpa using hk), hA k List.mem_cons_self hk, List.nil_append, ih']
end Go.Proofs.YtihbpggbpapcfaaGreatDoor

namespace Go.Proofs.YtihbpggbpapcfaaGreatDoor
open Go.RowKit

theorem vld_parts {xs : List Ses} {n : Int} (h : vldS xs n = 0) : (1 ≤ n ∧ n ≤ 20) ∧ xs.length ≤ 96 ∧ chkL n xs = 0 ∧ ordL xs = true ∧ dupL xs = false := by
  unfold vldS at h
  split at h
  · cases h
  next h1 =>
  split at h
  · cases h
  next h2 =>
  split at h
  · next h3 => exact absurd h h3
  next h3 =>
  split at h
  · cases h
  next h4 =>
  split at h
  · cases h
  next h5 =>
  exact ⟨by omega, by omega, by simpa using h3, by simpa using h4, by simpa using h5⟩
theorem bef_cls {s t : Ses} (h : befS s t = true) : s.1 ≤ t.1 := by
  unfold befS befB at h
  rw [bytesLess_lt, Bool.or_eq_true] at h
  rcases h with h | h
  · exact List.le_of_lt (of_decide_eq_true h)
  · rw [Bool.and_eq_true] at h
    rw [of_decide_eq_true h.1]; exact List.le_refl _
theorem ord_pairwise : ∀ {xs : List Ses}, ordL xs = true → xs.Pairwise (fun a b => ¬ b.1 < a.1)
  | [], _ => List.Pairwise.nil
  | [a], _ => List.pairwise_singleton _ _
  | a :: b :: r, h => by
    unfold ordL at h
    rw [Bool.and_eq_true] at h
    have ih := ord_pairwise h.2
    have hab := bef_cls h.1
    rw [List.pairwise_cons]
    refine ⟨fun t ht => ?_, ih⟩
    rcases List.mem_cons.1 ht with rfl | ht
    · exact List.not_lt.2 hab
    · exact List.not_lt.2 (List.le_trans hab (List.not_lt.1 ((List.pairwise_cons.1 ih).1 t ht)))
theorem difK_cases (a b : List Ses) (k : L8) : (ofS a k = ofS b k ∧ difK a b k = []) ∨ (ofS a k ≠ ofS b k ∧ difK a b k = [(k, ofS a k, ofS b k)]) := by
  unfold difK
  by_cases h : ofS a k = ofS b k
  · exact Or.inl ⟨h, if_pos h⟩
  · exact Or.inr ⟨h, if_neg h⟩
theorem dif_ord (a b : List Ses) : ∀ (L : List L8) (p : Option L8), L.Pairwise (· < ·) → (∀ q, p = some q → ∀ k ∈ L, q < k) → ordC p (L.flatMap (difK a b)) = true
  | [], p, _, _ => by simp [ordC]
  | k :: L, p, hL, hp => by
    obtain ⟨h1, h2⟩ := List.pairwise_cons.1 hL
    rw [List.flatMap_cons]
    rcases difK_cases a b k with ⟨_, e⟩ | ⟨hn, e⟩
    · rw [e, List.nil_append]
      exact dif_ord a b L p h2 (fun q hq x hx => hp q hq x (List.mem_cons_of_mem _ hx))
    · rw [e, List.singleton_append]
      have ih := dif_ord a b L (some k) h2 (fun q hq x hx => by cases hq; exact h1 x hx)
      show (aftK p k && !decide (ofS a k = ofS b k) && ordC (some k) (L.flatMap (difK a b))) = true
      rw [ih]
      have hd : decide (ofS a k = ofS b k) = false := decide_eq_false hn
      simp only [hd, Bool.not_false, Bool.and_true]
      cases p with
      | none => rfl
      | some q => show Op.bytesLess q k = true; rw [bytesLess_lt]; exact decide_eq_true (hp q rfl k List.mem_cons_self)
theorem dif_mem {a b : List Ses} {L : List L8} {x : Chg} (h : x ∈ L.flatMap (difK a b)) : x.1 ∈ L ∧ x = (x.1, ofS a x.1, ofS b x.1) ∧ ofS a x.1 ≠ ofS b x.1 := by
  obtain ⟨k, hk, hx⟩ := List.mem_flatMap.1 h
  rcases difK_cases a b k with ⟨_, e⟩ | ⟨hn, e⟩
  · rw [e] at hx; simp at hx
  · rw [e, List.mem_singleton] at hx
    subst hx
    exact ⟨hk, rfl, hn⟩
theorem chg_none {l : List Ses} : ∀ {cs : List Chg}, (∀ x ∈ cs, x.2.1 = ofS l x.1 ∧ (ofS x.2.2 x.1).length = x.2.2.length) → chgE l cs = 0
  | [], _ => rfl
  | x :: r, h => by
    obtain ⟨h1, h2⟩ := h x List.mem_cons_self
    unfold chgE
    rw [if_neg (by simpa using h1), if_neg (by simpa using h2)]
    exact chg_none (fun y hy => h y (List.mem_cons_of_mem _ hy))
theorem dif_pick {a b : List Ses} {L : List L8} (hL : ∀ k, k ∈ L ↔ k ∈ clsS a ++ clsS b) (k : L8) : pickS a (L.flatMap (difK a b)) k = ofS b k := by
  unfold pickS
  cases hf : (L.flatMap (difK a b)).find? (fun x => decide (x.1 = k)) with
  | some x =>
    have hx := List.mem_of_find?_eq_some hf
    have hk := List.find?_some hf
    simp only [decide_eq_true_eq] at hk
    obtain ⟨_, e, _⟩ := dif_mem hx
    rw [hk] at e
    simp only
    rw [e]
  | none =>
    simp only
    rw [List.find?_eq_none] at hf
    by_cases he : ofS a k = ofS b k
    · exact he
    · exfalso
      have hk : k ∈ L := by
        rw [hL, List.mem_append]
        by_cases ha : k ∈ clsS a
        · exact Or.inl ha
        · by_cases hb : k ∈ clsS b
          · exact Or.inr hb
          · exact absurd ((ofS_none ha).trans (ofS_none hb).symm) he
      have hm : (k, ofS a k, ofS b k) ∈ L.flatMap (difK a b) := List.mem_flatMap.2 ⟨k, hk, by unfold difK; rw [if_neg he]; simp⟩
      have := hf _ hm
      simp at this
theorem app_dif {n : Int} {a b : List Ses} (ha : vldS a n = 0) (hb : vldS b n = 0) : appS n a (difS n a b).2 = (0, b) := by
  have e : (difS n a b).2 = (clsL (clsS a ++ clsS b)).flatMap (difK a b) := by
    unfold difS; rw [if_neg (by simp [ha]), if_neg (by simp [hb])]
  rw [e]
  have hL : ∀ k, k ∈ clsL (clsS a ++ clsS b) ↔ k ∈ clsS a ++ clsS b := fun k => clsL_mem _ k
  have hS := clsL_sorted (clsS a ++ clsS b)
  generalize clsL (clsS a ++ clsS b) = L at *
  have ho : ordC none (L.flatMap (difK a b)) = true := dif_ord a b L none hS (fun q hq => by cases hq)
  have hc : chgE a (L.flatMap (difK a b)) = 0 := chg_none (fun x hx => by
    obtain ⟨_, e, _⟩ := dif_mem hx
    rw [e]
    exact ⟨rfl, by simp only; rw [ofS_of, if_pos rfl]⟩)
  have hp : (clsL (clsC (L.flatMap (difK a b)) ++ clsS a)).flatMap (pickS a (L.flatMap (difK a b))) = b := by
    have e2 : pickS a (L.flatMap (difK a b)) = ofS b := funext (dif_pick hL)
    rw [e2]
    refine sorted_parts _ b (clsL_sorted _) (ord_pairwise (vld_parts hb).2.2.2.1) (fun s hs => ?_)
    rw [clsL_mem, List.mem_append]
    by_cases he : ofS a s.1 = ofS b s.1
    · refine Or.inr ?_
      have hb' : s.1 ∈ clsS b := List.mem_map_of_mem hs
      by_cases hA : s.1 ∈ clsS a
      · exact hA
      · exact absurd (he.symm.trans (ofS_none hA)) (ofS_some hb')
    · refine Or.inl (List.mem_map.2 ⟨(s.1, ofS a s.1, ofS b s.1), List.mem_flatMap.2 ⟨s.1, (hL _).2 (List.mem_append.2 (Or.inr (List.mem_map_of_mem hs))), by unfold difK; rw [if_neg he]; simp⟩, rfl⟩)
  unfold appS
  rw [if_neg (by simp [ha]), if_neg (by simp [ho]), if_neg (by simp [hc]), hp, if_neg (by simp [hb])]
theorem dif_ne {n : Int} {a b : List Ses} (h : (difS n a b).2 ≠ []) : a ≠ b := by
  rintro rfl
  apply h
  unfold difS
  split
  · rfl
  · show List.flatMap (difK a a) (clsL (clsS a ++ clsS a)) = []
    rw [List.flatMap_eq_nil_iff]
    intro k _
    simp [difK]
theorem dif_ok {n : Int} {a b : List Ses} (ha : vldS a n = 0) (hb : vldS b n = 0) : (difS n a b).1 = 0 := by
  unfold difS; rw [if_neg (by simp [ha]), if_neg (by simp [hb])]
end Go.Proofs.YtihbpggbpapcfaaGreatDoor
