/- Each version has the sessions of the one before it in the weeks before its own. -/
import Derived.Test.YtihbpggbpapcfaaGreatDoorX02
import Derived.Test.YtihbpggbpapcfaaGreatDoorY03
namespace Go.Proofs.YtihbpggbpapcfaaGreatDoor
open Go.RowKit

def HasW (ss : List Ses) (c : L8) (k : Nat) (d : Int × Int × Int × L8) : Prop := ∃ s ∈ ss, s.1 = c ∧ wkB s.2.1 k = true ∧ s.2.2 = d
theorem has_app (xs ys : List Ses) (c : L8) (k : Nat) (d : Int × Int × Int × L8) : HasW (xs ++ ys) c k d ↔ HasW xs c k d ∨ HasW ys c k d := by
 unfold HasW
 constructor
 ·
  rintro ⟨s, hs, h⟩
  rcases List.mem_append.1 hs with hs | hs
  ·
   exact Or.inl ⟨s, hs, h⟩
  ·
   exact Or.inr ⟨s, hs, h⟩
 ·
  rintro (⟨s, hs, h⟩ | ⟨s, hs, h⟩)
  ·
   exact ⟨s, List.mem_append.2 (Or.inl hs), h⟩
  ·
   exact ⟨s, List.mem_append.2 (Or.inr hs), h⟩
theorem has_one (s : Ses) (c : L8) (k : Nat) (d : Int × Int × Int × L8) : HasW [s] c k d ↔ (s.1 = c ∧ wkB s.2.1 k = true ∧ s.2.2 = d) := by
 unfold HasW
 constructor
 ·
  rintro ⟨t, ht, h⟩
  rw [List.mem_singleton] at ht; subst ht; exact h
 ·
  intro h; exact ⟨s, List.mem_singleton.2 rfl, h⟩
theorem has_perm {xs ys : List Ses} (h : xs.Perm ys) (c : L8) (k : Nat) (d : Int × Int × Int × L8) : HasW xs c k d ↔ HasW ys c k d :=
 ⟨fun ⟨s, hs, r⟩ => ⟨s, h.mem_iff.1 hs, r⟩, fun ⟨s, hs, r⟩ => ⟨s, h.mem_iff.2 hs, r⟩⟩
theorem alk_eq {s t : Ses} (h : alkS s t = true) : s.1 = t.1 ∧ s.2.2 = t.2.2 := by
 unfold alkS alkB at h
 obtain ⟨h1, h2, h3, h4, h5⟩ := of_decide_eq_true h
 obtain ⟨a, b, c, d, e, f⟩ := s
 obtain ⟨a', b', c', d', e', f'⟩ := t
 simp only at *
 subst h1 h2 h3 h4 h5
 exact ⟨rfl, rfl⟩
theorem ws_bd {a n : Int} (h : wsB a n = true) : 0 ≤ a ∧ a < 1048576 := by
 obtain ⟨n1, n2, a1, a2⟩ := of_decide_eq_true h
 have hp : (2 : Int) ^ n.toNat ≤ 2 ^ 20 := by
  have := Nat.pow_le_pow_right (n := 2) (by decide) (show n.toNat ≤ 20 by omega)
  exact_mod_cast this
 have e : (2 : Int) ^ 20 = 1048576 := rfl
 omega
theorem has_add {n : Int} {out : List Ses} {s : Ses} (ho : ∀ t ∈ out, wsB t.2.1 n = true) (hs : wsB s.2.1 n = true) (c : L8) (k : Nat) (d : Int × Int × Int × L8) : HasW (addS out s) c k d ↔ HasW out c k d ∨ HasW [s] c k d := by
 unfold addS
 split
 ·
  next hi =>
  have ha : alkS s out[idxS out s] = true := List.findIdx_getElem (w := hi)
  obtain ⟨e1, e2⟩ := alk_eq ha
  have ht := ho _ (List.getElem_mem hi)
  rw [List.modify_eq_take_cons_drop hi]
  have ho' : out = out.take (idxS out s) ++ out[idxS out s] :: out.drop (idxS out s + 1) := by
   rw [List.getElem_cons_drop hi, List.take_append_drop]
  conv => rhs; rw [ho']
  rw [has_app, has_app, ← List.singleton_append, has_app, ← List.singleton_append (x := out[idxS out s]), has_app, has_one, has_one, has_one]
  have hor : wkB (orW out[idxS out s] s).2.1 k = (wkB out[idxS out s].2.1 k || wkB s.2.1 k) := wkB_or (ws_bd ht) (ws_bd hs) k
  rw [hor, Bool.or_eq_true]
  show (_ ∨ (out[idxS out s].1 = c ∧ _ ∧ out[idxS out s].2.2 = d) ∨ _) ↔ _
  rw [← e1, ← e2]
  constructor
  ·
   rintro (h | ⟨h1, (h2 | h2), h3⟩ | h)
   ·
    exact Or.inl (Or.inl h)
   ·
    exact Or.inl (Or.inr (Or.inl ⟨h1, h2, h3⟩))
   ·
    exact Or.inr ⟨h1, h2, h3⟩
   ·
    exact Or.inl (Or.inr (Or.inr h))
  ·
   rintro ((h | ⟨h1, h2, h3⟩ | h) | ⟨h1, h2, h3⟩)
   ·
    exact Or.inl h
   ·
    exact Or.inr (Or.inl ⟨h1, Or.inl h2, h3⟩)
   ·
    exact Or.inr (Or.inr h)
   ·
    exact Or.inr (Or.inl ⟨h1, Or.inr h2, h3⟩)
 ·
  exact has_app _ _ _ _ _
theorem has_join {n : Int} (c : L8) (k : Nat) (d : Int × Int × Int × L8) : ∀ (xs out : List Ses), (∀ t ∈ out, wsB t.2.1 n = true) → (∀ t ∈ xs, wsB t.2.1 n = true) → (HasW (xs.foldl addS out) c k d ↔ HasW out c k d ∨ HasW xs c k d)
 | [], out, _, _ => by
  rw [List.foldl_nil]
  exact ⟨Or.inl, fun h => h.elim id (fun ⟨s, hs, _⟩ => by simp at hs)⟩
 | s :: xs, out, ho, hx => by
  have hs := hx s List.mem_cons_self
  have e : HasW (s :: xs) c k d ↔ HasW [s] c k d ∨ HasW xs c k d := has_app [s] xs c k d
  rw [List.foldl_cons, has_join c k d xs (addS out s) (addS_ws ho hs) (fun t ht => hx t (List.mem_cons_of_mem _ ht)), has_add ho hs, e, or_assoc]
theorem has_msk {m : Int} {xs : List Ses} (hx : ∀ s ∈ xs, 0 ≤ s.2.1 ∧ s.2.1 < 9223372036854775808) {k : Nat} {q : Bool} (hq : ∀ a : Int, 0 ≤ a ∧ a < 9223372036854775808 → wkB (bits .and .i64 a m) k = (wkB a k && q)) (c : L8) (d : Int × Int × Int × L8) :
  HasW (mskS m xs) c k d ↔ (q = true ∧ HasW xs c k d) := by
 unfold HasW mskS
 constructor
 ·
  rintro ⟨s, hs, h1, h2, h3⟩
  obtain ⟨hs, _⟩ := List.mem_filter.1 hs
  obtain ⟨t, ht, rfl⟩ := List.mem_map.1 hs
  have h2' : wkB (bits .and .i64 t.2.1 m) k = true := h2
  rw [hq _ (hx t ht), Bool.and_eq_true] at h2'
  exact ⟨h2'.2, t, ht, h1, h2'.1, h3⟩
 ·
  rintro ⟨rfl, t, ht, h1, h2, h3⟩
  have h2' : wkB (bits .and .i64 t.2.1 m) k = true := by rw [hq _ (hx t ht), h2]; rfl
  refine ⟨inW m t, List.mem_filter.2 ⟨List.mem_map_of_mem ht, ?_⟩, h1, h2', h3⟩
  show (bits .and .i64 t.2.1 m != 0) = true
  rw [bne_iff_ne]
  intro h0
  rw [h0] at h2'
  simp [wkB] at h2'
theorem dup_false {xs : List Ses} (h : dupL xs = false) {i k : Nat} {s t : Ses} (hs : xs[i]? = some s) (ht : xs[k]? = some t) (hk : k < i) : dupS s t = false := by
 cases hd : dupS s t
 ·
  rfl
 ·
  exfalso
  rw [dupL_yes hs ht hk hd] at h; cases h
theorem dup_met {s t : Ses} (h : dupS s t = false) : metS s t = false := by
 unfold dupS at h
 unfold metS metB
 cases h1 : decide (s.1 = t.1)
 ·
  rfl
 ·
  rw [h1] at h
  simp only [Bool.true_and, Bool.or_eq_false_iff] at h
  rw [h.1]; rfl
theorem vld_nomet {xs : List Ses} (h : dupL xs = false) : NoMet xs := by
 unfold NoMet
 rw [List.pairwise_iff_getElem]
 intro i j hi hj hij
 rw [metS_comm]
 exact dup_met (dup_false h (List.getElem?_eq_getElem hj) (List.getElem?_eq_getElem hi) hij)
theorem vld_ws {xs : List Ses} {n : Int} (h : vldS xs n = 0) : ∀ s ∈ xs, wsB s.2.1 n = true := fun s hs => (chk_week (chkL_all (vld_parts h).2.2.1 s hs)).2.2.1
theorem has_unique {xs : List Ses} {n : Int} (h : vldS xs n = 0) {c : L8} {k : Nat} {d d' : Int × Int × Int × L8} (h1 : HasW xs c k d) (h2 : HasW xs c k d') : d = d' := by
 obtain ⟨s, hs, e1, b1, rfl⟩ := h1
 obtain ⟨t, ht, e2, b2, rfl⟩ := h2
 have hn := vld_nomet (vld_parts h).2.2.2.2
 have hm : metS s t = true := by
  unfold metS metB
  rw [decide_eq_true (e1.trans e2.symm), Bool.true_and, bne_iff_ne]
  intro h0
  have ws := ws_bd (vld_ws h s hs)
  have wt := ws_bd (vld_ws h t ht)
  have := wkB_and (a := s.2.1) (m := t.2.1) ⟨ws.1, by omega⟩ ⟨wt.1, by omega⟩ k
  rw [h0, b1, b2] at this
  simp [wkB] at this
 obtain ⟨i, hi, rfl⟩ := List.getElem_of_mem hs
 obtain ⟨j, hj, rfl⟩ := List.getElem_of_mem ht
 rcases Nat.lt_trichotomy i j with h3 | h3 | h3
 ·
  rw [List.pairwise_iff_getElem.1 hn i j hi hj h3] at hm; cases hm
 ·
  subst h3; rfl
 ·
  rw [metS_comm, List.pairwise_iff_getElem.1 hn j i hj hi h3] at hm; cases hm
theorem srt_perm (xs : List Ses) : (srtS xs).Perm xs := List.mergeSort_perm _ _
theorem spc_held {n w : Int} {a b : List Ses} (h : spcS n w a b = (0, b)) {k : Nat} (hk : k < (w - 1).toNat) (c : L8) (d : Int × Int × Int × L8) : HasW b c k d ↔ HasW a c k d := by
 unfold spcS at h
 split at h
 ·
  next h1 => exact absurd (congrArg Prod.fst h) h1
 next h1 =>
 split at h
 ·
  next h2 => exact absurd (congrArg Prod.fst h) h2
 next h2 =>
 split at h
 ·
  cases h
 next h3 =>
 have ha : vldS a n = 0 := by simpa using h1
 have hb : vldS b n = 0 := by simpa using h2
 have hn := (vld_parts ha).1
 unfold nrmS at h
 split at h
 ·
  cases h
 split at h
 ·
  next h5 => exact absurd (congrArg Prod.fst h) h5
 next h5 =>
 split at h
 ·
  cases h
 split at h
 ·
  cases h
 have hp : b.Perm (joinS (mskS (firstW w) a ++ mskS (-(firstW w) - 1) b)) := by
  have := congrArg Prod.snd h
  simp only at this
  have hq := srt_perm (joinS (mskS (firstW w) a ++ mskS (-(firstW w) - 1) b))
  rw [this] at hq
  exact hq
 have hc : chkL n (mskS (firstW w) a ++ mskS (-(firstW w) - 1) b) = 0 := by simpa using h5
 have hw : ∀ s ∈ mskS (firstW w) a ++ mskS (-(firstW w) - 1) b, wsB s.2.1 n = true := fun s hs => (chk_week (chkL_all hc s hs)).2.2.1
 have hf0 : 0 ≤ firstW w ∧ firstW w < 9223372036854775808 := by
  unfold firstW
  have h20 : (w - 1).toNat ≤ 20 := by omega
  have hp1 : 1 ≤ 2 ^ (w - 1).toNat := Nat.one_le_two_pow
  have hp2 := Nat.pow_le_pow_right (n := 2) (by decide) h20
  have e : ((2 : Int) ^ (w - 1).toNat) = ((2 ^ (w - 1).toNat : Nat) : Int) := by simp
  rw [e]; omega
 have hk20 : k < 64 := by omega
 have hbit := wkB_first w k
 rw [decide_eq_true hk] at hbit
 have hA : ∀ s ∈ a, 0 ≤ s.2.1 ∧ s.2.1 < 9223372036854775808 := fun s hs => by have := ws_bd (vld_ws ha s hs); omega
 have hB : ∀ s ∈ b, 0 ≤ s.2.1 ∧ s.2.1 < 9223372036854775808 := fun s hs => by have := ws_bd (vld_ws hb s hs); omega
 rw [has_perm hp]
 unfold joinS
 rw [has_join c k d _ [] (fun t ht => by simp at ht) hw, has_app, has_msk hA (q := true) (fun x hx => by rw [wkB_and hx hf0, hbit]) c d, has_msk hB (q := false) (fun x hx => by rw [wkB_not hx hf0 k hk20, hbit]; rfl) c d]
 constructor
 ·
  rintro (⟨s, hs, _⟩ | ⟨_, h⟩ | ⟨h, _⟩)
  ·
   simp at hs
  ·
   exact h
  ·
   cases h
 ·
  intro h; exact Or.inr (Or.inl ⟨rfl, h⟩)
def atS (ss : List Ses) (c : L8) (k : Nat) : Option Ses := ss.find? (fun s => decide (s.1 = c) && wkB s.2.1 k)
theorem at_has {ss : List Ses} {c : L8} {k : Nat} {s : Ses} (h : atS ss c k = some s) : s.1 = c ∧ HasW ss c k s.2.2 := by
 have hm := List.mem_of_find?_eq_some h
 have hp := List.find?_some h
 rw [Bool.and_eq_true] at hp
 exact ⟨of_decide_eq_true hp.1, s, hm, of_decide_eq_true hp.1, hp.2, rfl⟩
theorem at_none {ss : List Ses} {c : L8} {k : Nat} (h : atS ss c k = none) (d : Int × Int × Int × L8) : ¬ HasW ss c k d := by
 rintro ⟨s, hs, h1, h2, _⟩
 have := List.find?_eq_none.1 h s hs
 rw [h1, h2] at this
 simp at this
theorem at_held {n w : Int} {a b : List Ses} (h : spcS n w a b = (0, b)) (hb : vldS b n = 0) {k : Nat} (hk : k < (w - 1).toNat) (c : L8) :
  (∃ s t, atS a c k = some s ∧ atS b c k = some t ∧ s.1 = t.1 ∧ s.2.2 = t.2.2) ∨ (atS a c k = none ∧ atS b c k = none) := by
 have key := fun d => spc_held h hk c d
 cases h1 : atS a c k with
 | none =>
  cases h2 : atS b c k with
  | none => exact Or.inr ⟨rfl, rfl⟩
  | some t => exact absurd ((key _).1 (at_has h2).2) (at_none h1 _)
 | some s =>
  obtain ⟨e1, g1⟩ := at_has h1
  cases h2 : atS b c k with
  | none => exact absurd ((key _).2 g1) (at_none h2 _)
  | some t =>
   obtain ⟨e2, g2⟩ := at_has h2
   exact Or.inl ⟨s, t, rfl, rfl, e1.trans e2.symm, has_unique hb ((key _).2 g1) g2⟩
end Go.Proofs.YtihbpggbpapcfaaGreatDoor

namespace Go.Proofs.YtihbpggbpapcfaaGreatDoor
open Go.RowKit

set_option maxRecDepth 100000 in
set_option maxHeartbeats 4000000 in
theorem state_of (HVL : VldP) (va : Value) (l : Lg) (m k : Int) (w : World) (ha : LogP w va l) (hE : Env w) : Calls Tryz.prog 39 #[va, .int .i64 m, .int .i64 k] w (ResS (staS m l k) w) := by
 have HV := Lib.hid (fun W (h : Below w.heap.size w W) => HVL va l m W (ha.below h) (hE.below h))
 have AF := Lib.hid (fun W (h : Below w.heap.size w W) (kn : Nat) h1 h2 h3 => after_any va l m kn W (ha.below h).logR (hE.below h).tz h1 h2 h3)
 obtain ⟨⟨da, dn, dc⟩, ⟨va, vn, vc⟩, ⟨sa, sn, sc⟩, rfl, hd, _, hv, hs⟩ := ha
 obtain ⟨l1, l2, l3, l4⟩ := l
 simp only at hd hv hs
 have hlv : l3.length = vn := hv.2.len.1
 have hn1 : vn ≤ 9223372036854775807 := hv.2.len.2
 have HF : Hid (staS m (l1, l2, l3, l4) k = if vldL m (l1, l2, l3, l4) = false then (1, []) else if k < 0 ∨ (l3.length : Int) < k then (60, []) else (0, aftS m (l3.take k.toNat))) := Lib.hid rfl
 have HLK : Hid (vldL m (l1, l2, l3, l4) = true → _) := Lib.hid (fun h => vld_log h)
 have HA := Lib.hid (BX.mk0 (vs := #[.slice da dn dc, .int .i64 l2, .slice va vn vc, .slice sa sn sc]) (T := 55) w)
 clear hd hv hs hE
 change Hid (∀ W, Below w.heap.size w W → Calls _ _ #[.agg #[.slice da dn dc, .int .i64 l2, .slice va vn vc, .slice sa sn sc], .int .i64 m] W _) at HV
 change Hid (∀ W, Below w.heap.size w W → ∀ kn : Nat, kn ≤ l3.length → l3.length ≤ 1048576 → (∀ v ∈ l3, frmV v = true ∧ (encV v).length ≤ 1048576) → Calls _ _ #[.agg #[.slice da dn dc, .int .i64 l2, .slice va vn vc, .slice sa sn sc], .int .i64 kn, .int .i64 m] W _) at AF
 show Calls _ _ #[.agg #[.slice da dn dc, .int .i64 l2, .slice va vn vc, .slice sa sn sc], .int .i64 m, .int .i64 k] w _
 generalize vldL m (l1, l2, l3, l4) = q at *
 generalize staS m (l1, l2, l3, l4) k = pr at *
 go_enter Tryz.func39, Tryz.ntmps39
 go_upto_region 1 with fail
 generalize w.alloc (.cells #[.slice da dn dc, .int .i64 l2, .slice va vn vc, .slice sa sn sc] 55) = wa at *
 obtain ⟨R, hR⟩ : ∃ R, R = w.heap.size := ⟨_, rfl⟩
 rw [← hR] at HA ⊢
 clear hR
 obtain ⟨⟨g0, g1, g2, g3⟩, _⟩ := HA.out.four
 go_wp2_with fail
 refine (HV.out _ HA.out.bl).mono ?_
 rintro en w1 ⟨rfl, hb1⟩
 have HA := Lib.hid (HA.out.next hb1)
 clear hb1 HV g0 g1 g2 g3
 obtain ⟨⟨g0, g1, g2, g3⟩, _⟩ := HA.out.four
 cases q
 ·
  have HF2 : Hid (pr = (1, [])) := Lib.hid (by rw [HF.out, if_pos rfl])
  go_wp2_with fail
  go_ret2
  exact ResS.err HF2.out HA.out.bl
 have HF1 : Hid (pr = if k < 0 ∨ (l3.length : Int) < k then (60, []) else (0, aftS m (l3.take k.toNat))) := Lib.hid (by rw [HF.out, if_neg (by simp)])
 obtain ⟨_, hl1, _, HLF, _, hvl⟩ := HLK.out rfl
 have HLF := Lib.hid HLF
 have hvn8 : l3.length ≤ 1048576 := by omega
 clear hvl HLK HF hl1
 by_cases hk0 : k < 0
 ·
  have HF2 : Hid (pr = (60, [])) := Lib.hid (by rw [HF1.out, if_pos (Or.inl hk0)])
  go_wp2_with fail
  go_ret2
  exact ResS.err HF2.out HA.out.bl
 obtain ⟨kn, rfl⟩ : ∃ kn : Nat, k = kn := ⟨k.toNat, by omega⟩
 clear hk0
 have hk0 : (0 : Int) ≤ kn := by omega
 by_cases hk1 : (vn : Int) < kn
 ·
  have HF2 : Hid (pr = (60, [])) := Lib.hid (by rw [HF1.out, if_pos (Or.inr (by rw [hlv]; exact hk1))])
  go_wp2_with fail
  go_ret2
  exact ResS.err HF2.out HA.out.bl
 have HF2 : Hid (pr = (0, aftS m (l3.take kn))) := Lib.hid (by rw [HF1.out, if_neg (by rw [hlv]; omega)]; rfl)
 clear HF1
 have hk2 : (kn : Int) ≤ vn := by omega
 clear hk1
 have AF1 := Lib.hid (AF.out w1 HA.out.bl kn (by omega) hvn8 HLF.out)
 go_wp2_with fail
 refine AF1.out.mono ?_
 rintro en w2 ⟨v2, rfl, hr2, hb2⟩
 have HR2 := Lib.hid (row_base hr2 HA.out.bl.size)
 have HB2 := Lib.hid (below3 HA.out.bl hb2)
 clear hr2 hb2
 go_wp2_with fail
 go_ret2
 exact ResS.mk HF2.out HR2.out HB2.out
end Go.Proofs.YtihbpggbpapcfaaGreatDoor

namespace Go.Proofs.YtihbpggbpapcfaaGreatDoor
open Go.RowKit

def AtV (s : Ses) : Value := .agg #[.string (arr s.1), .int .i64 s.2.1, .int .i64 s.2.2.1, .int .i64 s.2.2.2.1, .int .i64 s.2.2.2.2.1, .string (arr s.2.2.2.2.2)]
def AtR (r : Option Ses) (w : World) (e : Ending) (w' : World) : Prop := e = .returned (.tuple #[AtV (r.getD sesD), .bool r.isSome]) ∧ Below w.heap.size w w'
theorem BX.cells6 {w0 w : World} {R : Nat} {v0 v1 v2 v3 v4 v5 : Value} {T : TypeId} (h : BX w0 w R #[v0, v1, v2, v3, v4, v5] T) :
  (w.cell? ⟨R, 0, none⟩ = some v0 ∧ w.cell? ⟨R, 1, none⟩ = some v1 ∧ w.cell? ⟨R, 2, none⟩ = some v2 ∧ w.cell? ⟨R, 3, none⟩ = some v3 ∧ w.cell? ⟨R, 4, none⟩ = some v4 ∧ w.cell? ⟨R, 5, none⟩ = some v5) ∧
  w.frozen? ⟨R, 0, none⟩ = false ∧ w.frozen? ⟨R, 1, none⟩ = false ∧ w.frozen? ⟨R, 2, none⟩ = false ∧ w.frozen? ⟨R, 3, none⟩ = false ∧ w.frozen? ⟨R, 4, none⟩ = false ∧ w.frozen? ⟨R, 5, none⟩ = false :=
 ⟨⟨h.cell 0, h.cell 1, h.cell 2, h.cell 3, h.cell 4, h.cell 5⟩, h.fz 0, h.fz 1, h.fz 2, h.fz 3, h.fz 4, h.fz 5⟩
theorem BX.put6 {w0 w : World} {R : Nat} {v0 v1 v2 v3 v4 v5 : Value} {T : TypeId} (h : BX w0 w R #[v0, v1, v2, v3, v4, v5] T) (u0 u1 u2 u3 u4 u5 : Value) :
  BX w0 ((((((w.setCell ⟨R, 0, none⟩ u0).setCell ⟨R, 1, none⟩ u1).setCell ⟨R, 2, none⟩ u2).setCell ⟨R, 3, none⟩ u3).setCell ⟨R, 4, none⟩ u4).setCell ⟨R, 5, none⟩ u5) R #[u0, u1, u2, u3, u4, u5] T :=
 (((((h.set 0 u0).set 1 u1).set 2 u2).set 3 u3).set 4 u4).set 5 u5
theorem atS_hit {xs : List Ses} {j t : Nat} {s : Ses} {cl : L8} (h : xs[j]? = some s) (h1 : s.1 = cl) (h2 : wkB s.2.1 t = true) : atS (xs.drop j) cl t = some s := by
 obtain ⟨hj, rfl⟩ := List.getElem?_eq_some_iff.1 h
 rw [List.drop_eq_getElem_cons hj]
 unfold atS
 rw [List.find?_cons_of_pos]
 simp [h1, h2]
theorem atS_miss {xs : List Ses} {j t : Nat} {s : Ses} {cl : L8} (h : xs[j]? = some s) (h1 : ¬ (s.1 = cl ∧ wkB s.2.1 t = true)) : atS (xs.drop j) cl t = atS (xs.drop (j + 1)) cl t := by
 obtain ⟨hj, rfl⟩ := List.getElem?_eq_some_iff.1 h
 rw [List.drop_eq_getElem_cons hj]
 unfold atS
 rw [List.find?_cons_of_neg]
 simpa using h1

set_option maxRecDepth 100000 in
set_option maxHeartbeats 8000000 in
theorem at_any (a : Option Addr) (n c : Nat) (xs : List Ses) (cl : L8) (t : Nat) (w : World) (hx : SAt w a n xs) (hw : ∀ s ∈ xs, 0 ≤ s.2.1 ∧ s.2.1 ≤ 9223372036854775807) (ht : t < 20) :
  Calls Tryz.prog 46 #[.slice a n c, .string (arr cl), .int .i64 ((t : Int) + 1)] w (AtR (atS xs cl t) w) := by
 have HX := Lib.hid hx
 have HW := Lib.hid hw
 have hlen := hx.1
 have hn9 := hx.2.1
 have q1 : (t : Int) + 1 - 1 = (t : Int) := by omega
 clear hx hw
 have HA := Lib.hid (BX.mk0 (vs := #[.string ⟨#[]⟩, .int .i64 0, .int .i64 0, .int .i64 0, .int .i64 0, .string ⟨#[]⟩]) (T := 95) w)
 go_enter Tryz.func46, Tryz.ntmps46
 go_upto_region 1 with fail
 generalize w.alloc (.cells #[.string ⟨#[]⟩, .int .i64 0, .int .i64 0, .int .i64 0, .int .i64 0, .string ⟨#[]⟩] 95) = wa at *
 obtain ⟨R, hR⟩ : ∃ R, R = w.heap.size := ⟨_, rfl⟩
 rw [← hR] at HA ⊢
 clear hR
 go_wp2_with fail
 go_loopw [19] (fun s19 wr => ∃ j : Nat, j ≤ n ∧ s19 = .int .i64 j ∧ Hid (atS xs cl t = atS (xs.drop j) cl t) ∧ Hid (BX w wr R #[.string ⟨#[]⟩, .int .i64 0, .int .i64 0, .int .i64 0, .int .i64 0, .string ⟨#[]⟩] 95)) (fun s19 _ => n - (intOf s19).toNat)
 case atStart => exact ⟨0, by omega, rfl, Lib.hid rfl, HA⟩
 case round =>
  clear HA
  obtain ⟨j, hj, rfl, HT, HA⟩ := hrel
  by_cases hlt : j < n
  ·
   obtain ⟨b1, o1, s1, rfl, g1, z1, x0, x1, x2, x3, x4, x5⟩ := SAt.cells (HX.out.below HA.out.bl) hlt
   obtain ⟨hw0, hw1⟩ := HW.out s1 (List.mem_of_getElem? g1)
   have k1 : (j : Int) < n := by omega
   have HG := Lib.hid g1
   clear g1
   obtain ⟨c1, wk, dy, st, ln, rm⟩ := s1
   simp only at x0 x1 x2 x3 x4 x5 hw0 hw1
   have HQ := Lib.hid (BX.mk0 (vs := #[.string (arr c1), .int .i64 wk, .int .i64 dy, .int .i64 st, .int .i64 ln, .string (arr rm)]) (T := 95) wr)
   go_upto_region 6 with fail
   generalize wr.alloc (.cells #[.string (arr c1), .int .i64 wk, .int .i64 dy, .int .i64 st, .int .i64 ln, .string (arr rm)] 95) = w5 at *
   generalize wr.heap.size = Q at *
   have HA5 := Lib.hid (HA.out.next HQ.out.bl)
   obtain ⟨⟨y0, y1, y2, y3, y4, y5⟩, _⟩ := HQ.out.cells6
   clear x0 x1 x2 x3 x4 x5
   by_cases he : c1 = cl
   ·
    have HC : Hid (((arr c1).toList == (arr cl).toList) = true ∧ (arr c1).toList = (arr cl).toList) := Lib.hid (by rw [he]; simp)
    obtain ⟨p1, p2⟩ := HC.out
    have hbit := wk_bit wk t (by omega) (by omega)
    cases hbb : wkB wk t
    ·
     have HT2 : Hid (atS xs cl t = atS (xs.drop (j + 1)) cl t) := Lib.hid (HT.out.trans (atS_miss HG.out (by simp [hbb])))
     rw [hbb] at hbit
     clear hbb he
     go_wp2_with fail
     go_roundw
     case rel => exact ⟨j + 1, by omega, by go_num, HT2, HA5⟩
     case measure => simp [intOf]; omega
    ·
     have HT2 : Hid (atS xs cl t = some (c1, wk, dy, st, ln, rm)) := Lib.hid (HT.out.trans (atS_hit HG.out he hbb))
     rw [hbb] at hbit
     obtain ⟨⟨r0, r1, r2, r3, r4, r5⟩, f0, f1, f2, f3, f4, f5⟩ := HA5.out.cells6
     have HA6 := Lib.hid (HA5.out.put6 (.string (arr c1)) (.int .i64 wk) (.int .i64 dy) (.int .i64 st) (.int .i64 ln) (.string (arr rm)))
     clear hbb he
     go_wp2_with fail
     generalize (((((World.setCell w5 ⟨R, 0, none⟩ (.string (arr c1))).setCell ⟨R, 1, none⟩ (.int .i64 wk)).setCell ⟨R, 2, none⟩ (.int .i64 dy)).setCell ⟨R, 3, none⟩ (.int .i64 st)).setCell ⟨R, 4, none⟩ (.int .i64 ln)).setCell ⟨R, 5, none⟩ (.string (arr rm)) = w9 at *
     clear r0 r1 r2 r3 r4 r5 f0 f1 f2 f3 f4 f5
     obtain ⟨⟨r0, r1, r2, r3, r4, r5⟩, _⟩ := HA6.out.cells6
     refine bodyPost_ret (v := .tuple #[.agg #[.string (arr c1), .int .i64 wk, .int .i64 dy, .int .i64 st, .int .i64 ln, .string (arr rm)], .bool true]) (by simp [results, Tryz.results46, go_sem, r0, r1, r2, r3, r4, r5]) rfl ?_
     exact ⟨by rw [HT2.out]; rfl, HA6.out.bl⟩
   ·
    have HC : Hid (((arr c1).toList == (arr cl).toList) = false ∧ ¬ (arr c1).toList = (arr cl).toList) := Lib.hid (by rw [arr_toList, arr_toList]; exact ⟨by simpa using he, he⟩)
    obtain ⟨p1, p2⟩ := HC.out
    have HT2 : Hid (atS xs cl t = atS (xs.drop (j + 1)) cl t) := Lib.hid (HT.out.trans (atS_miss HG.out (fun h => he h.1)))
    clear he
    go_wp2_with fail
    go_roundw
    case rel => exact ⟨j + 1, by omega, by go_num, HT2, HA5⟩
    case measure => simp [intOf]; omega
  ·
   have hni : ¬ (j : Int) < n := by omega
   have HT2 : Hid (atS xs cl t = none) := Lib.hid (by rw [HT.out, List.drop_eq_nil_of_le (by omega)]; rfl)
   obtain ⟨⟨r0, r1, r2, r3, r4, r5⟩, f0, f1, f2, f3, f4, f5⟩ := HA.out.cells6
   have HA6 := Lib.hid (HA.out.put6 (.string ⟨#[]⟩) (.int .i64 0) (.int .i64 0) (.int .i64 0) (.int .i64 0) (.string ⟨#[]⟩))
   go_wp2_with fail
   generalize (((((World.setCell wr ⟨R, 0, none⟩ (.string ⟨#[]⟩)).setCell ⟨R, 1, none⟩ (.int .i64 0)).setCell ⟨R, 2, none⟩ (.int .i64 0)).setCell ⟨R, 3, none⟩ (.int .i64 0)).setCell ⟨R, 4, none⟩ (.int .i64 0)).setCell ⟨R, 5, none⟩ (.string ⟨#[]⟩) = w9 at *
   clear r0 r1 r2 r3 r4 r5 f0 f1 f2 f3 f4 f5
   obtain ⟨⟨r0, r1, r2, r3, r4, r5⟩, _⟩ := HA6.out.cells6
   refine bodyPost_ret (v := .tuple #[.agg #[.string ⟨#[]⟩, .int .i64 0, .int .i64 0, .int .i64 0, .int .i64 0, .string ⟨#[]⟩], .bool false]) (by simp [results, Tryz.results46, go_sem, r0, r1, r2, r3, r4, r5]) rfl ?_
   exact ⟨by rw [HT2.out]; rfl, HA6.out.bl⟩
end Go.Proofs.YtihbpggbpapcfaaGreatDoor

namespace Go.Proofs.YtihbpggbpapcfaaGreatDoor
open Go.RowKit

theorem LLX.ll {φ : Nat → Prop} {w : World} {s : Sl} {ls : List (List Ses)} (h : LLX φ w s ls) : LLAt w s.1 s.2.1 ls := by
 obtain ⟨_, _, rs, h1, h2⟩ := h
 exact ⟨rs, h1, h2.imp fun _ _ hr => hr.1⟩
theorem LLX.below {φ : Nat → Prop} {w w' : World} {s : Sl} {ls : List (List Ses)} (h : LLX φ w s ls) (hb : Below w.heap.size w w') : LLX φ w' s ls := by
 obtain ⟨h1, h2, rs, h3, h4⟩ := h
 exact ⟨h1, h2, rs, KAt.same h3 h2 (SameB.of_below (φ := φ) hb), h4.imp fun _ _ hr => hr.below hb⟩
theorem LLX.len {φ : Nat → Prop} {w : World} {s : Sl} {ls : List (List Ses)} (h : LLX φ w s ls) : s.2.1 = ls.length := by
 obtain ⟨_, _, rs, h3, h4⟩ := h
 rw [← h4.1]
 exact h3.1.symm
theorem at_pair {n w : Int} {a b : List Ses} (h : spcS n w a b = (0, b)) (hb : vldS b n = 0) {k : Nat} (hk : k < (w - 1).toNat) (c : L8) :
  ∃ (x : Ses) (y z : Int) (o : Bool), (atS a c k).getD sesD = (x.1, y, x.2.2) ∧ (atS b c k).getD sesD = (x.1, z, x.2.2) ∧ (atS a c k).isSome = o ∧ (atS b c k).isSome = o := by
 rcases at_held h hb hk c with ⟨s, t, h1, h2, h3, h4⟩ | ⟨h1, h2⟩
 ·
  refine ⟨s, s.2.1, t.2.1, true, by rw [h1]; rfl, ?_, by rw [h1]; rfl, by rw [h2]; rfl⟩
  rw [h2, h3, h4]; rfl
 ·
  exact ⟨sesD, 0, 0, false, by rw [h1]; rfl, by rw [h2]; rfl, by rw [h1]; rfl, by rw [h2]; rfl⟩
theorem vld_wk {n : Int} {xs : List Ses} (h : vldS xs n = 0) : ∀ s ∈ xs, 0 ≤ s.2.1 ∧ s.2.1 ≤ 9223372036854775807 := fun s hs => by
 have := ws_bd (chk_week (chkL_all (vld_parts h).2.2.1 s hs)).2.2.1
 omega

set_option maxRecDepth 100000 in
set_option maxHeartbeats 16000000 in
theorem law_held (a : Option Addr) (n c : Nat) (L : List Int) (w : World) (hI : IntsAt w a n L) (hL : ∀ x ∈ L, -9223372036854775808 ≤ x ∧ x ≤ 9223372036854775807) (hE : Env w) :
  Calls Tryz.prog 11 #[.slice a n c] w (RetB (.bool true) w) := by
 have AW := Lib.hid (fun W (h : Below w.heap.size w W) => awake_any W (hE.below h))
 by_cases hg : n ≤ 400
 rotate_left
 ·
  have hnd : decide (n ≤ 400) = false := by simpa using hg
  clear hI hL hE
  go_enter Tryz.func11, Tryz.ntmps11
  go_wp2_with (first | (go_at_call 12; refine (light_any _ _ _ _).mono ?_; rintro e w' ⟨rfl, rfl⟩) | (go_at_call 13; refine (AW.out _ (Below.refl _ _)).mono ?_; rintro e w' ⟨rfl, hb⟩))
  go_ret
  exact ⟨rfl, hb⟩
 have hnd : decide (n ≤ 400) = true := by simpa using hg
 have HD0 := Lib.hid (DiceAt.mk0 c 104 hI hg hL)
 have HE := Lib.hid hE
 clear hI hL hE
 go_enter Tryz.func11, Tryz.ntmps11
 go_upto_region 3 with (go_at_call 12; refine (light_any _ _ _ _).mono ?_; rintro e w' ⟨rfl, rfl⟩)
 have HB1 := Lib.hid ((Below.refl w.heap.size w).alloc (Nat.le_refl _) (.cells #[.slice a n c, .int .i64 0] 104))
 go_upto_region 4 with (go_at_call 15; refine (roll_any _ _ _ _).mono ?_; rintro e w' ⟨rfl, rfl⟩)
 generalize w.alloc (.cells #[.slice a n c, .int .i64 0] 104) = w1 at *
 obtain ⟨p, hp⟩ : ∃ p, p = w.heap.size := ⟨_, rfl⟩
 rw [← hp] at HD0 ⊢
 have hpw : w.heap.size ≤ p := Nat.le_of_eq hp.symm
 clear hp
 have N8 := Lib.hid (next_any p 8 w1 (by omega) (by omega) HD0.out)
 go_upto_region 5 with (go_at_call 24; refine N8.out.mono ?_; rintro en w2 ⟨r, r0, r8, rfl, hd2, hb2⟩)
 have HB2 := Lib.hid (But.below HB1.out hb2 hpw HB1.out.size)
 obtain ⟨m, hm⟩ : ∃ m : Nat, 1 + r = (m : Int) := ⟨(1 + r).toNat, by omega⟩
 have hm1 : 1 ≤ m := by omega
 have hm8 : m ≤ 8 := by omega
 rw [hm]
 have FL := Lib.hid (filled_any p m hm1 hm8 w2 hd2)
 have hp2 : p < w2.heap.size := hd2.lt
 clear N8 HD0 hd2 hb2 hm r0 r8
 go_upto_region 6 with (go_at_call 25; refine FL.out.mono ?_; rintro en w3 ⟨_, ⟨s0, s1, s2⟩, l, ss, rfl, ⟨⟨d0, d1, d2⟩, ⟨v0, v1, v2⟩, ⟨x0, x1, x2⟩, rfl, hlq⟩, hll, hpu, hs4, hd3, hb3⟩; rw [show (logV (d0, d1, d2) l.2.1 (v0, v1, v2) (x0, x1, x2)) = .agg #[.slice d0 d1 d2, .int .i64 l.2.1, .slice v0 v1 v2, .slice x0 x1 x2] from rfl])
 have hlx : LogX (fun b => w2.heap.size ≤ b ∧ b < w3.heap.size) w3 (logV (d0, d1, d2) l.2.1 (v0, v1, v2) (x0, x1, x2)) l := LogX.lt (φ := fun b => w2.heap.size ≤ b) ⟨_, _, _, rfl, hlq⟩
 have hal : Below w3.heap.size w3 (w3.alloc (.cells #[.slice d0 d1 d2, .int .i64 l.2.1, .slice v0 v1 v2, .slice x0 x1 x2] 51)) := (Below.refl _ _).alloc (Nat.le_refl _) _
 have HX : Hid ((w3.alloc (.cells #[.slice d0 d1 d2, .int .i64 l.2.1, .slice v0 v1 v2, .slice x0 x1 x2] 51)).heap[w3.heap.size]? = some (.cells #[.slice d0 d1 d2, .int .i64 l.2.1, .slice v0 v1 v2, .slice x0 x1 x2] 51 (0, 0))) := Lib.hid (heap_alloc_new _ _)
 have HLX := Lib.hid (hlx.below hal)
 have HLL := Lib.hid (hll.below hal)
 have HPU := Lib.hid hpu
 have HD4 := Lib.hid (hd3.below hal)
 have HB3 := Lib.hid (But.below HB2.out hb3 hpw HB2.out.size)
 have HB4 := Lib.hid (HB3.out.trans (hal.mono HB3.out.size))
 have HPR : Hid (p < w3.heap.size) := Lib.hid (Nat.lt_of_lt_of_le hp2 hb3.size)
 have hs1 : s1 = ss.length + 1 := hll.len
 have hs5 : s1 ≤ 5 := by omega
 have HS1 := Lib.hid hs1
 clear hs1
 have HVL := Lib.hid (chn_len hpu.ch)
 have hdl : l.1.length = d1 := by
  obtain ⟨a, b, c, e, g1, _⟩ := hlx
  obtain ⟨a1, a2, a3⟩ := a
  simp only [logV, Value.agg.injEq, Array.mk.injEq, List.cons.injEq, slV, Value.slice.injEq] at e
  obtain ⟨⟨rfl, rfl, rfl⟩, _⟩ := e
  exact g1.2.1
 have HDL := Lib.hid hdl
 have HD1 : Hid (d1 ≤ 9223372036854775806) := Lib.hid (by have := hpu.sz; omega)
 have HRB : Hid (∀ b, (w2.heap.size ≤ b ∧ b < w3.heap.size) → b ≠ w3.heap.size) := Lib.hid (fun b hb => Nat.ne_of_lt hb.2)
 clear hdl hs4
 clear FL hlq hlx hll hpu hd3 hb3 hal HB3 HB2 HB1
 generalize w3.alloc (.cells #[.slice d0 d1 d2, .int .i64 l.2.1, .slice v0 v1 v2, .slice x0 x1 x2] 51) = w4 at *
 generalize w3.heap.size = R at *
 have hss : ss.length ≤ 4 := by have := HS1.out; omega
 clear HD4 HDL hp2 HPR HD1 HRB HLL HS1
 have HVX : Hid (VV w4 (v0, v1, v2) l.2.2.1) := Lib.hid (by
  obtain ⟨a, b, c, e, _, _, _, g, _⟩ := HLX.out
  obtain ⟨a1, a2, a3⟩ := a
  obtain ⟨b1, b2, b3⟩ := b
  simp only [logV, Value.agg.injEq, Array.mk.injEq, List.cons.injEq, slV, Value.slice.injEq] at e
  obtain ⟨_, _, ⟨rfl, rfl, rfl⟩, _⟩ := e
  exact g.vv)
 have hvn : l.2.2.1.length = v1 := HVX.out.2.len.1
 have hv5 : v1 ≤ 4 := by have := HVL.out; omega
 obtain ⟨⟨c0, c1, c2, c3⟩, _⟩ := box4_cells HX.out
 go_upto_region 7 with fail
 clear c0 c1 c2 c3
 have hal : Below w4.heap.size w4 (w4.alloc (.cells #[.slice d0 d1 d2, .int .i64 l.2.1, .slice v0 v1 v2, .slice x0 x1 x2] 55)) := (Below.refl _ _).alloc (Nat.le_refl _) _
 have HX2 : Hid ((w4.alloc (.cells #[.slice d0 d1 d2, .int .i64 l.2.1, .slice v0 v1 v2, .slice x0 x1 x2] 55)).heap[w4.heap.size]? = some (.cells #[.slice d0 d1 d2, .int .i64 l.2.1, .slice v0 v1 v2, .slice x0 x1 x2] 55 (0, 0))) := Lib.hid (heap_alloc_new _ _)
 have HB5 := Lib.hid (HB4.out.trans (hal.mono HB4.out.size))
 have HVX5 := Lib.hid (HVX.out.below hal)
 have hlp := HLX.out.logP.below hal
 have HP0 := Lib.hid hlp
 clear hal HX HLX HVX hlp
 generalize w4.alloc (.cells #[.slice d0 d1 d2, .int .i64 l.2.1, .slice v0 v1 v2, .slice x0 x1 x2] 55) = w5 at *
 have HP := Lib.hid (fun W (h : Below w5.heap.size w5 W) => (HP0.out.below h))
 clear HP0
 generalize hR2 : w4.heap.size = R2 at *
 clear hR2
 go_wp2_with fail
 go_loopw [8] (fun s8 wr => ∃ i : Nat, i ≤ v1 ∧ s8 = .int .i64 i ∧ Hid (Below w5.heap.size w5 wr)) (fun s8 _ => v1 - (intOf s8).toNat)
 case atStart => exact ⟨0, by omega, rfl, Lib.hid (Below.refl _ _)⟩
 case round =>
  obtain ⟨i, hi, rfl, HB⟩ := hrel
  have HBW := Lib.hid (HB5.out.trans (HB.out.mono HB5.out.size))
  have HXR := Lib.hid ((HB.out.block R2 (lt_of_heap HX2.out)).trans HX2.out)
  obtain ⟨⟨c0, c1, c2, c3⟩, _⟩ := box4_cells HXR.out
  by_cases hlt : i < v1
  ·
   have hii : (i : Int) < v1 := by omega
   obtain ⟨v, hv⟩ : ∃ v, l.2.2.1[i]? = some v := ⟨_, List.getElem?_eq_getElem (by omega)⟩
   have STP := Lib.hid (ver_pub HPU.out hv)
   have hs1 := sta_pub HPU.out (i := i) (by omega)
   have hs2 := sta_pub HPU.out (i := i + 1) (by omega)
   rw [show (((i + 1 : Nat) : Int)) = (i : Int) + 1 from by omega] at hs2
   obtain ⟨A, hA⟩ : ∃ A, ([] :: ss).getD i [] = A := ⟨_, rfl⟩
   obtain ⟨B, hB⟩ : ∃ B, ([] :: ss).getD (i + 1) [] = B := ⟨_, rfl⟩
   rw [hA, hB] at STP
   rw [hA] at hs1
   rw [hB] at hs2
   have HV := Lib.hid hv
   have S1 := Lib.hid (state_of vldP (logV (d0, d1, d2) l.2.1 (v0, v1, v2) (x0, x1, x2)) l m i wr (HP.out wr HB.out) (HE.out.below HBW.out))
   have S2 := Lib.hid (fun W (h : Below wr.heap.size wr W) => state_of vldP (logV (d0, d1, d2) l.2.1 (v0, v1, v2) (x0, x1, x2)) l m ((i : Int) + 1) W (HP.out W (below3 HB.out h)) (HE.out.below (HBW.out.trans (h.mono HBW.out.size))))
   rw [hs1] at S1
   rw [hs2] at S2
   clear hs1 hs2 hA hB hv
   go_upto_region 11 with (go_at_call 39; refine S1.out.mono ?_; rintro en w6 ⟨v6, rfl, hr6, hb6⟩; obtain ⟨a6, q6, rfl, hc6, hk6⟩ := SRow.sat hr6)
   have HX6 := Lib.hid ((hb6.block R2 (lt_of_heap HXR.out)).trans HXR.out)
   clear c0 c1 c2 c3 S1
   obtain ⟨⟨c0, c1, c2, c3⟩, _⟩ := box4_cells HX6.out
   go_upto_region 12 with (go_at_call 39; refine (S2.out w6 hb6).mono ?_; rintro en w7 ⟨v7, rfl, hr7, hb7⟩; obtain ⟨a7, q7, rfl, hc7, hk7⟩ := SRow.sat hr7)
   have HX7 := Lib.hid ((hb7.block R2 (lt_of_heap HX6.out)).trans HX6.out)
   clear c0 c1 c2 c3 S2
   have SMM := Lib.hid (rsameq_any a6 A.length q6 a7 B.length q7 A B w7 (hk6.below hb7) hk7)
   have hdd : decide (A = B) = false := decide_eq_false (dif_ne (n := m) (by rw [← STP.out.dif]; exact STP.out.ne))
   rw [hdd] at SMM
   have HKA := Lib.hid (fun W (h : Below w7.heap.size w7 W) => at_any a6 A.length q6 A)
   have HA7 := Lib.hid (hk6.below hb7)
   have HB7 := Lib.hid hk7
   have HBX7 := Lib.hid (below3 HB.out (below3 hb6 hb7))
   clear hdd hr6 hr7 hb6 hb7 hk6 hk7 hc6 hc7 HKA
   go_upto_region 14 with (go_at_call 40; refine SMM.out.mono ?_; rintro e w8 ⟨rfl, hq8⟩; have hb8 := drew_bel hq8; clear hq8; simp only [])
   have HA8 := Lib.hid (HA7.out.below hb8)
   have HB8 := Lib.hid (HB7.out.below hb8)
   have HBX8 := Lib.hid (below3 HBX7.out hb8)
   have HX8 := Lib.hid ((hb8.block R2 (lt_of_heap HX7.out)).trans HX7.out)
   clear SMM hb8 HA7 HB7 HBX7 HX7 HX6
   have HWA := Lib.hid (vld_wk STP.out.va)
   have HWB := Lib.hid (vld_wk STP.out.vs)
   have hw1 := STP.out.wk1
   have hw2 : v.2.1 ≤ 20 := by have := STP.out.wk2; omega
   obtain ⟨vb, vo, vx, vr, rfl, gx, vz, y0, y1, y2, _⟩ := VAt.cells (HVX5.out.below HBX8.out).2 hlt
   obtain rfl : vx = v := Option.some.inj (gx.symm.trans HV.out)
   have HY1 := Lib.hid y1
   obtain ⟨wo, rfl⟩ : ∃ wo : World, wo = wr := ⟨_, rfl⟩
   clear y0 y1 y2 gx
   go_wp2_with fail
   go_loopw [13] (fun s13 wr => ∃ k : Nat, (k : Int) + 1 ≤ vx.2.1 ∧ s13 = .int .i64 ((k : Int) + 1) ∧ Hid (Below w8.heap.size w8 wr)) (fun s13 _ => 21 - (intOf s13).toNat)
   case atStart => exact ⟨0, by omega, rfl, Lib.hid (Below.refl _ _)⟩
   case round =>
    obtain ⟨k, hk, rfl, HC⟩ := hrel
    have HX9 := Lib.hid ((HC.out.block R2 (lt_of_heap HX8.out)).trans HX8.out)
    obtain ⟨⟨c0, c1, c2, c3⟩, _⟩ := box4_cells HX9.out
    have f1 := (HC.out.cell (lt_of_cell HY1.out)).trans HY1.out
    by_cases hkw : (k : Int) + 1 < vx.2.1
    ·
     have hk20 : k < 20 := by omega
     have HAT := Lib.hid (fun cl => at_pair STP.out.spc STP.out.vs (k := k) (by omega) cl)
     have HG := Lib.hid (BX.mk0 (vs := #[.string ⟨#[99, 49]⟩, .string ⟨#[99, 50]⟩, .string ⟨#[99, 51]⟩, .string ⟨#[99, 52]⟩]) (T := 9) wr)
     go_upto_region 18 with fail
     generalize wr.alloc (.cells #[.string ⟨#[99, 49]⟩, .string ⟨#[99, 50]⟩, .string ⟨#[99, 51]⟩, .string ⟨#[99, 52]⟩] 9) = w9 at *
     generalize wr.heap.size = G at *
     have CS : Hid (∀ q, q < 4 → ∃ cl : L8, w9.cell? ⟨G, q, none⟩ = some (.string (arr cl))) := Lib.hid (fun q hq => by
      match q, hq with
      | 0, _ => exact ⟨[99, 49], HG.out.cell 0⟩
      | 1, _ => exact ⟨[99, 50], HG.out.cell 1⟩
      | 2, _ => exact ⟨[99, 51], HG.out.cell 2⟩
      | 3, _ => exact ⟨[99, 52], HG.out.cell 3⟩)
     have HB9 := Lib.hid (below3 HC.out HG.out.bl)
     clear HG f1 c0 c1 c2 c3
     obtain ⟨wi, rfl⟩ : ∃ wi : World, wi = wr := ⟨_, rfl⟩
     go_loopw [81] (fun s81 wr => ∃ q : Nat, q ≤ 4 ∧ s81 = .int .i64 q ∧ Hid (Below w9.heap.size w9 wr)) (fun s81 _ => 4 - (intOf s81).toNat)
     case atStart => exact ⟨0, by omega, rfl, Lib.hid (Below.refl _ _)⟩
     case round =>
      obtain ⟨q, hq, rfl, HD⟩ := hrel
      by_cases hqt : q < 4
      ·
       obtain ⟨cl, hcl⟩ := CS.out q hqt
       have g0 := (HD.out.cell (lt_of_cell hcl)).trans hcl
       have hqi : (q : Int) < 4 := by omega
       have A1 := Lib.hid (at_any a6 A.length q6 A cl k wr (HA8.out.below (below3 HB9.out HD.out)) HWA.out hk20)
       have A2 := Lib.hid (fun W (h : Below wr.heap.size wr W) => at_any a7 B.length q7 B cl k W (HB8.out.below (below3 HB9.out (below3 HD.out h))) HWB.out hk20)
       obtain ⟨⟨x1, x2, x3, x4, x5, x6⟩, y, z, ok, e1, e2, e3, e4⟩ := HAT.out cl
       have A1 : Hid (Calls _ _ _ wr (fun e w' => e = .returned (.tuple #[.agg #[.string (arr x1), .int .i64 y, .int .i64 x3, .int .i64 x4, .int .i64 x5, .string (arr x6)], .bool ok]) ∧ Below wr.heap.size wr w')) := Lib.hid (A1.out.mono fun e w' h => by
        obtain ⟨h1, h2⟩ := h
        rw [e1, e3] at h1
        exact ⟨h1, h2⟩)
       have A2 : Hid (∀ W, Below wr.heap.size wr W → Calls _ _ _ W (fun e w' => e = .returned (.tuple #[.agg #[.string (arr x1), .int .i64 z, .int .i64 x3, .int .i64 x4, .int .i64 x5, .string (arr x6)], .bool ok]) ∧ Below W.heap.size W w')) := Lib.hid (fun W h => (A2.out W h).mono fun e w' h => by
        obtain ⟨h1, h2⟩ := h
        rw [e2, e4] at h1
        exact ⟨h1, h2⟩)
       clear e1 e2 e3 e4 hcl
       go_upto_region 21 with (go_at_call 46; refine A1.out.mono ?_; rintro en w10 ⟨rfl, hb10⟩; clear A1)
       have HQ1 := Lib.hid (BX.mk0 (vs := #[.string (arr x1), .int .i64 y, .int .i64 x3, .int .i64 x4, .int .i64 x5, .string (arr x6)]) (T := 95) w10)
       have HQ1 : Hid (BX wr _ _ _ _) := Lib.hid ⟨HQ1.out.hp, hb10.size, below3 hb10 HQ1.out.bl⟩
       clear g0 hb10
       generalize w10.alloc (.cells #[.string (arr x1), .int .i64 y, .int .i64 x3, .int .i64 x4, .int .i64 x5, .string (arr x6)] 95) = w11 at *
       generalize w10.heap.size = Q1 at *
       go_upto_region 22 with (go_at_call 46; refine (A2.out w11 HQ1.out.bl).mono ?_; rintro en w12 ⟨rfl, hb12⟩; clear A2)
       have HQ2 := Lib.hid (BX.mk0 (vs := #[.string (arr x1), .int .i64 z, .int .i64 x3, .int .i64 x4, .int .i64 x5, .string (arr x6)]) (T := 95) w12)
       have hb13 := below3 hb12 HQ2.out.bl
       have HQ1 := Lib.hid (HQ1.out.next hb13)
       have hlt2 : Q1 < w12.heap.size := Nat.lt_of_lt_of_le (lt_of_heap (Hid.out ‹Hid (BX wr w11 Q1 _ _)›).hp) hb12.size
       have HQ2 : Hid (BX wr _ _ _ _) := Lib.hid ⟨HQ2.out.hp, Nat.le_trans HQ1.out.lo (Nat.le_of_lt hlt2), HQ1.out.bl⟩
       clear hb12 hb13
       generalize w12.alloc (.cells #[.string (arr x1), .int .i64 z, .int .i64 x3, .int .i64 x4, .int .i64 x5, .string (arr x6)] 95) = w13 at *
       generalize w12.heap.size = Q2 at *
       have hne : Q1 ≠ Q2 := Nat.ne_of_lt hlt2
       obtain ⟨_, _, r1, _⟩ := HQ1.out.cells6
       obtain ⟨⟨_, k1, _⟩, _, r2, _⟩ := HQ2.out.cells6
       obtain ⟨⟨_, k0, _⟩, _⟩ := HQ1.out.cells6
       have HQ1 : Hid (BX wr _ Q1 #[.string (arr x1), .int .i64 0, .int .i64 x3, .int .i64 x4, .int .i64 x5, .string (arr x6)] _) := Lib.hid ((HQ1.out.set 1 (.int .i64 0)).oth hne.symm HQ2.out.lo 1 (.int .i64 0))
       have HQ2b := Lib.hid (HQ2.out.oth hne HQ1.out.lo 1 (.int .i64 0))
       obtain ⟨⟨_, k3, _⟩, _, r3, _⟩ := HQ2b.out.cells6
       have HQ2 : Hid (BX wr _ Q2 #[.string (arr x1), .int .i64 0, .int .i64 x3, .int .i64 x4, .int .i64 x5, .string (arr x6)] _) := Lib.hid (HQ2b.out.set 1 (.int .i64 0))
       clear hlt2
       go_upto_region 23 with fail
       clear r1 r2 r3 k0 k1 k3 HQ2b
       generalize (w13.setCell ⟨Q1, 1, none⟩ (.int .i64 0)).setCell ⟨Q2, 1, none⟩ (.int .i64 0) = w15 at *
       obtain ⟨⟨m0, m1, m2, m3, m4, m5⟩, _⟩ := HQ1.out.cells6
       obtain ⟨⟨n0, n1, n2, n3, n4, n5⟩, _⟩ := HQ2.out.cells6
       have p1 : ((arr x1).toList == (arr x1).toList) = true := beq_self_eq_true _
       have p2 : ((arr x6).toList == (arr x6).toList) = true := beq_self_eq_true _
       have p3 : (ok != ok) = false := bne_self_eq_false _
       have HBq := Lib.hid (below3 HD.out HQ1.out.bl)
       go_wp2_with fail
       go_roundw
       case rel => exact ⟨q + 1, by omega, by go_num, HBq⟩
       case measure => simp [intOf]; omega
      ·
       have hnq : ¬ (q : Int) < 4 := by omega
       have HBk := Lib.hid (below3 HB9.out HD.out)
       go_wp2_with fail
       go_roundw
       case rel => exact ⟨k + 1, by omega, by go_num, HBk⟩
       case measure => simp [intOf]; omega
    ·
     go_wp2_with fail
     go_roundw
     case rel => exact ⟨i + 1, by omega, by go_num, Lib.hid (below3 HBX8.out HC.out)⟩
     case measure => simp [intOf]; omega
  ·
   have hni : ¬ (i : Int) < v1 := by omega
   go_wp2_with (go_at_call 13; refine (AW.out _ HBW.out).mono ?_; rintro e w' ⟨rfl, hb⟩)
   go_ret
   exact ⟨rfl, HBW.out.trans (hb.mono HBW.out.size)⟩
end Go.Proofs.YtihbpggbpapcfaaGreatDoor
