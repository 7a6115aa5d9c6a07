/- Zones: the reference reads a text. -/
import Derived.Test.YtllcoocllkaanaaDoorY13
import Derived.Test.YtllcoocllkaanaaDoorY18
import Derived.Test.YtllcoocllkaanaaDoorY19
namespace Go.Proofs.YtllcoocllkaanaaDoor
open Go.RowKit TT

theorem up_lt {c : UInt8} {s : ByteArray} {a e : Nat} (h1 : a ≤ e) (h2 : e < a + upto c s a) : ∃ h : e < s.size, s[e] ≠ c := by
  obtain ⟨j, rfl⟩ : ∃ j, e = a + j := ⟨e - a, by omega⟩
  exact upto_lt (by omega)
theorem up_at {c : UInt8} {s : ByteArray} {a e : Nat} (he : e = a + upto c s a) (h : e < s.size) : s[e] = c := by
  subst he
  exact upto_at h
/-- a text while the reference reads it: the result's box and the zone's box -/
structure QW (w wr : World) (nm : ByteArray) (o : Int) (v : Value) : Prop where
  be : Below w.heap.size w wr
  h0 : wr.heap[w.heap.size]? = some (.cells #[.string ⟨#[]⟩, .int .i64 0, .slice none 0 0] 24 (0, 0))
  h1 : wr.heap[w.heap.size + 1]? = some (.cells #[.string nm, .int .i64 o, v] 24 (0, 0))
theorem QW.below {w wr W : World} {nm : ByteArray} {o : Int} {v : Value} (h : QW w wr nm o v) (hb : Below wr.heap.size wr W) : QW w W nm o v :=
  ⟨h.be.trans (hb.mono h.be.size), (hb.block _ (lt_of_heap h.h0)).trans h.h0, (hb.block _ (lt_of_heap h.h1)).trans h.h1⟩
theorem QW.set {w wr : World} {nm nm' : ByteArray} {o o' : Int} {v v' : Value} (h : QW w wr nm o v) (i : Nat) (x : Value) (he : (#[.string nm, .int .i64 o, v] : Array Value).setIfInBounds i x = #[.string nm', .int .i64 o', v']) :
    QW w (wr.setCell ⟨w.heap.size + 1, i, none⟩ x) nm' o' v' := by
  refine ⟨bel_set h.be _ _ _ (by omega), ?_, ?_⟩
  · rw [heap_setCell_other _ _ _ _ (by show w.heap.size ≠ w.heap.size + 1; omega)]; exact h.h0
  · rw [heap_setCell_same _ _ _ _ _ _ h.h1, he]
theorem QW.grown {w wr W : World} {nm : ByteArray} {o : Int} {v : Value} {row : Option Nat} (h : QW w wr nm o v) (hg : wr.grownBy W row) (hrow : ∀ q, row = some q → w.heap.size + 2 ≤ q) : QW w W nm o v := by
  have z := lt_of_heap h.h1
  have hb : Below (w.heap.size + 2) wr W := ⟨hg.os, hg.tape, hg.output, hg.size, fun q hq => hg.block q (by omega) (fun e => by have := hrow q e.symm; omega)⟩
  exact ⟨h.be.trans (hb.mono (by omega)), (hb.block _ (by omega)).trans h.h0, (hb.block _ (by omega)).trans h.h1⟩
theorem rpar_ok {q : Option Zn} {nm : ByteArray} {o : Int} {xs : Prs} {a' : Option Addr} {cp : Nat} {w W : World} (ho : q = some (nm.data.toList, o, xs)) (h : Below w.heap.size w W) (hO : W.ownsRow (w.heap.size + 2) 43 2 (.slice a' xs.length cp) xs.length (pcells xs)) (hs : nm.size ≤ 9223372036854775807) (a b c : Value) :
    ParP q w (.returned (.tuple #[.agg #[.string nm, .int .i64 o, .slice a' xs.length cp], .int .i64 0])) (((W.setCell ⟨w.heap.size, 0, none⟩ a).setCell ⟨w.heap.size, 1, none⟩ b).setCell ⟨w.heap.size, 2, none⟩ c) := by
  subst ho
  have hz : ∀ i, (⟨w.heap.size, i, none⟩ : Addr).block < w.heap.size + 2 := fun i => by show w.heap.size < _; omega
  refine ⟨_, rfl, ⟨_, rfl, hs, Pairs.of_owns (ownsRow_setCell_below (ownsRow_setCell_below (ownsRow_setCell_below hO (hz 0) a) (hz 1) b) (hz 2) c)⟩, bel_set (bel_set (bel_set h _ _ _ (Nat.le_refl _)) _ _ _ (Nat.le_refl _)) _ _ _ (Nat.le_refl _)⟩
set_option maxRecDepth 100000 in
set_option maxHeartbeats 4000000 in
theorem rparse_any (s : ByteArray) (w : World) (hs : s.size ≤ 100000) : Calls Tryd.prog 31 #[.string s] w (ParP (parZ whenR s.data.toList) w) := by
  have HS : Hid (∀ (o1 o2 : Obj), Below w.heap.size w ((w.alloc o1).alloc o2)) := Lib.hid fun o1 o2 => ((Below.refl _ _).alloc (Nat.le_refl _) _).alloc (by simp) _
  have HPW : Hid (QW w ((w.alloc (.cells #[.string ⟨#[]⟩, .int .i64 0, .slice none 0 0] 24)).alloc (.cells #[.string ⟨#[]⟩, .int .i64 0, .slice none 0 0] 24)) ⟨#[]⟩ 0 (.slice none 0 0)) := Lib.hid (by
    refine ⟨HS.out _ _, ?_, ?_⟩
    · rw [heap_alloc_old _ _ (by simp)]; exact heap_alloc_new _ _
    · have := heap_alloc_new (w.alloc (.cells #[.string ⟨#[]⟩, .int .i64 0, .slice none 0 0] 24)) (.cells #[.string ⟨#[]⟩, .int .i64 0, .slice none 0 0] 24)
      simpa using this)
  clear HS
  have HL0 := Lib.hid (rfP_start s)
  obtain ⟨i0, hi, hz0, hz1, hz2⟩ := info_parts info43
  have HI0 := Lib.hid hi; have HZ0 := Lib.hid hz0; have HZ1 := Lib.hid hz1; have HZ2 := Lib.hid hz2
  clear hi hz0 hz1 hz2
  go_enter Tryd.func31, Tryd.ntmps31
  go_wp2_with fail
  generalize ((w.alloc (.cells #[.string ⟨#[]⟩, .int .i64 0, .slice none 0 0] 24)).alloc (.cells #[.string ⟨#[]⟩, .int .i64 0, .slice none 0 0] 24)) = w2 at *
  go_loopw [5, 6] (fun av i wr => ∃ (at' k : Nat) (nm : ByteArray) (o : Int) (a : Option Addr) (cp : Nat) (xs : Prs), av = .int .i64 at' ∧ i = .int .i64 k ∧ at' ≤ s.size + 1 ∧ k ≤ 65 ∧ xs.length ≤ k ∧ Hid (k = 0 → nm = ⟨#[]⟩ ∧ o = 0 ∧ xs = []) ∧ Hid (0 < k → xs.length + 1 = k) ∧ nm.size ≤ s.size ∧ Hid (QW w wr nm o (.slice a xs.length cp)) ∧ Hid (wr.ownsRow (w.heap.size + 2) 43 2 (.slice a xs.length cp) xs.length (pcells xs)) ∧ Hid (RfP s at' k (nm.data.toList, o, xs))) (fun av _ _ => s.size + 1 - (intOf av).toNat)
  case atStart => exact ⟨0, 0, ⟨#[]⟩, 0, none, 0, [], rfl, rfl, by omega, by omega, Nat.zero_le _, Lib.hid (fun _ => ⟨rfl, rfl, rfl⟩), Lib.hid (fun h => by omega), Nat.zero_le _, HPW, Lib.hid (World.ownsRow_nil _ _ _ _), HL0⟩
  case round =>
    obtain ⟨at', k, nm, o, a, cp, xs, rfl, rfl, hat, hk, hx, HZ, HK, hnm, HW, HO, HL⟩ := hrel
    clear HPW HL0
    by_cases hlt : at' < s.size
    rotate_left
    · have HA := Lib.hid (rfP_end HL.out (by omega))
      obtain ⟨⟨d0, d1, d2⟩, e0, e1, e2⟩ := cells3_of HW.out.h1
      have HZV : ZVal wr (.agg #[.string nm, .int .i64 o, .slice a xs.length cp]) nm o xs := ⟨_, rfl, by omega, Pairs.of_owns HO.out⟩
      have FM := Lib.hid (rformat_any wr HZV)
      clear HZV HL HZ HK
      go_wp2_with fail
      refine (FM.out).mono ?_
      rintro e w7 ⟨rfl, hb7⟩
      have HW7 := Lib.hid (HW.out.below hb7)
      have HO7 := Lib.hid (own_below HO.out hb7)
      obtain ⟨⟨c0, c1, c2⟩, f0, f1, f2⟩ := cells3_of HW7.out.h0
      obtain ⟨⟨d0, d1, d2⟩, e0, e1, e2⟩ := cells3_of HW7.out.h1
      have gl5 := lt_of_heap HW7.out.h1
      clear hb7
      by_cases hv : vldE nm.data.toList o xs = 0
      · have hv' : ((vldE nm.data.toList o xs) != 0) = false := by rw [hv]; rfl
        have hfm : fmtS (nm.data.toList, o, xs) = fmtZ (nm.data.toList, o, xs) := if_pos hv
        by_cases hq : fmtZ (nm.data.toList, o, xs) = s.data.toList
        · have hq' : ((arr (fmtS (nm.data.toList, o, xs))).toList == s.toList) = true := by rw [beq_iff_eq, Lib.toList_data, Lib.toList_data, hfm]; exact hq
          have HN : Hid (parZ whenR s.data.toList = some (nm.data.toList, o, xs)) := Lib.hid (by rw [rpar_some HA.out]; exact if_pos ⟨hv, hq⟩)
          have HF := Lib.hid (rpar_ok HN.out HW7.out.be HO7.out (by omega) (.string nm) (.int .i64 o) (.slice a xs.length cp))
          clear hfm hq hv
          generalize arr (fmtS (nm.data.toList, o, xs)) = so at *
          go_wp2_with fail
          refine bodyPost_ret (v := .tuple #[.agg #[.string nm, .int .i64 o, .slice a xs.length cp], .int .i64 0]) ?_ rfl HF.out
          simp [results, Tryd.results31, go_sem, c0, c1, c2]
        · have hq' : ((arr (fmtS (nm.data.toList, o, xs))).toList == s.toList) = false := by rw [beq_eq_false_iff_ne, Lib.toList_data, Lib.toList_data, hfm]; exact hq
          have HN : Hid (parZ whenR s.data.toList = none) := Lib.hid (by rw [rpar_some HA.out]; exact if_neg fun h => hq h.2)
          have HF := Lib.hid (par_err HN.out HW7.out.be (.string ⟨#[]⟩) (.int .i64 0) (.slice none 0 0))
          clear hfm hq hv
          generalize arr (fmtS (nm.data.toList, o, xs)) = so at *
          go_wp2_with fail
          refine bodyPost_ret (v := .tuple #[.agg #[.string ⟨#[]⟩, .int .i64 0, .slice none 0 0], .int .i64 4]) ?_ rfl HF.out
          simp [results, Tryd.results31, go_sem, c0, c1, c2]
      · have hv' : ((vldE nm.data.toList o xs) != 0) = true := by rw [bne_iff_ne]; exact hv
        have HN : Hid (parZ whenR s.data.toList = none) := Lib.hid (by rw [rpar_some HA.out]; exact if_neg fun h => hv h.1)
        clear hv
        have HF := Lib.hid (par_err HN.out HW7.out.be (.string ⟨#[]⟩) (.int .i64 0) (.slice none 0 0))
        go_wp2_with fail
        refine bodyPost_ret (v := .tuple #[.agg #[.string ⟨#[]⟩, .int .i64 0, .slice none 0 0], .int .i64 4]) ?_ rfl HF.out
        simp [results, Tryd.results31, go_sem, c0, c1, c2]
    · have HUP := Lib.hid (upto_le 10 s at')
      go_wp2_with fail
      go_loop [7] (fun v => ∃ e : Nat, v = .int .i64 e ∧ at' ≤ e ∧ Hid (e ≤ at' + upto 10 s at') ∧ e ≤ s.size) (fun v => at' + upto 10 s at' - (intOf v).toNat)
      case atStart => exact ⟨at', rfl, Nat.le_refl _, Lib.hid (by omega), by omega⟩
      case round =>
        obtain ⟨e, rfl, he1, HE, hes⟩ := hrel
        by_cases hlt2 : e < at' + upto 10 s at'
        · obtain ⟨he, hne⟩ := up_lt he1 hlt2
          have hq : ((s[e].toNat : Int) != 10) = true := by
            rw [bne_iff_ne]; intro h; apply hne; apply UInt8.toNat_inj.1; show s[e].toNat = 10; omega
          have HLT := Lib.hid hlt2
          clear hne hlt2
          go_wp2
          refine ⟨⟨e + 1, by go_num, by omega, Lib.hid (by have := HLT.out; omega), by omega⟩, ?_⟩
          have := HLT.out
          simp [intOf]; omega
        · have hee : e = at' + upto 10 s at' := by have := HE.out; omega
          have HEE := Lib.hid hee
          have HLN := Lib.hid (line_ext s at')
          rw [← hee] at HLN
          have hqq : (e < s.size ∧ ∀ h : e < s.size, s[e] = 10) ∨ ¬ e < s.size := by
            by_cases h : e < s.size
            · exact Or.inl ⟨h, fun h => up_at hee h⟩
            · exact Or.inr h
          clear hee hlt2 HE
          have hle : (at' : Int) ≤ (e : Int) := by omega
          have hls : (e : Int) ≤ (s.size : Int) := by omega
          rcases hqq with ⟨h1, h2⟩ | h1
          · have hq : ((s[e].toNat : Int) != 10) = false := by rw [h2 h1]; decide
            clear h2
            go_wp2_with fail
            have hlsz : (s.extract at' e).size ≤ s.size := by rw [ByteArray.size_extract]; omega
            generalize s.extract at' e = ln at *
            have ST := Lib.hid (rln_step HL.out hlt HLN.out)
            rw [← HEE.out] at ST
            go_loop [9] (fun v => ∃ q : Nat, v = .int .i64 q ∧ Hid (q ≤ upto 32 ln 0) ∧ q ≤ ln.size) (fun v => upto 32 ln 0 - (intOf v).toNat)
            case atStart => exact ⟨0, rfl, Lib.hid (Nat.zero_le _), Nat.zero_le _⟩
            case round =>
              obtain ⟨q, rfl, HQ, hqs⟩ := hrel
              by_cases hlt3 : q < upto 32 ln 0
              · obtain ⟨hq1, hne⟩ := up_lt (a := 0) (Nat.zero_le _) (show q < 0 + upto 32 ln 0 by omega)
                have hq3 : ((ln[q].toNat : Int) != 32) = true := by
                  rw [bne_iff_ne]; intro h; apply hne; apply UInt8.toNat_inj.1; show ln[q].toNat = 32; omega
                have HLT := Lib.hid hlt3
                clear hne hlt3
                go_wp2
                refine ⟨⟨q + 1, by go_num, Lib.hid (by have := HLT.out; omega), by omega⟩, ?_⟩
                have := HLT.out
                simp [intOf]; omega
              · have hqe : q = 0 + upto 32 ln 0 := by have := HQ.out; omega
                have HQE : Hid (upto 32 ln 0 = q) := Lib.hid (by omega)
                rw [HQE.out] at ST
                by_cases hqz : q < ln.size
                · have hq32 := up_at hqe hqz
                  have hq3 : ((ln[q].toNat : Int) != 32) = false := by rw [hq32]; decide
                  have hqn : ((q : Int) == (ln.size : Int)) = false := by rw [beq_eq_false_iff_ne]; omega
                  have hq4 : (q : Int) + 1 ≤ (ln.size : Int) := by omega
                  have RSH := Lib.hid (fun W => rshown_any (ln.extract (q + 1) ln.size) W)
                  have HXE : Hid (q ≠ ln.size) := Lib.hid (by omega)
                  have HNS : Hid ((ln.extract 0 q).size ≤ s.size) := Lib.hid (by rw [ByteArray.size_extract]; omega)
                  have RST := Lib.hid (fun W => rstamped_any (ln.extract 0 q) W)
                  clear hqe hlt3 hq32 HQ HLN
                  go_wp2_with fail
                  refine (RSH.out _).mono ?_
                  rintro ee w5 ⟨rfl, hb5⟩
                  have HW5 := Lib.hid (HW.out.below hb5)
                  have HO5 := Lib.hid (own_below HO.out hb5)
                  clear hb5
                  rw [show ofsV (offP (ln.extract (q + 1) ln.size).data.toList) = .tuple #[.int .i64 ((offP (ln.extract (q + 1) ln.size).data.toList).getD 0), .bool (offP (ln.extract (q + 1) ln.size).data.toList).isSome] from rfl]
                  generalize offP (ln.extract (q + 1) ln.size).data.toList = oo at *
                  clear RSH
                  rcases Nat.eq_zero_or_pos k with hk0 | hk0
                  · have dk2 : ((k : Int) == 0) = true := by rw [hk0]; rfl
                    have h64 : k ≤ 64 := by omega
                    obtain ⟨rfl, rfl, rfl⟩ := HZ.out hk0
                    have HK0 := Lib.hid hk0
                    clear hk0
                    obtain ⟨⟨d0, d1, d2⟩, e0, e1, e2⟩ := cells3_of HW5.out.h1
                    have gl5 := lt_of_heap HW5.out.h1
                    have HW6 := Lib.hid ((HW5.out.set 0 (.string (ln.extract 0 q)) rfl).set 1 (.int .i64 (oo.getD 0)) rfl)
                    obtain ⟨⟨c0, c1, c2⟩, f0, f1, f2⟩ := cells3_of HW5.out.h0
                    rcases oo with _ | o1
                    · have HN := Lib.hid (ST.out.2.1 rfl)
                      have HF := Lib.hid (par_err HN.out HW6.out.be (.string ⟨#[]⟩) (.int .i64 0) (.slice none 0 0))
                      rw [show (none : Option Int).isSome = false from rfl]
                      go_wp2_with fail
                      refine bodyPost_ret (v := .tuple #[.agg #[.string ⟨#[]⟩, .int .i64 0, .slice none 0 0], .int .i64 4]) ?_ rfl HF.out
                      simp [results, Tryd.results31, go_sem, c0, c1, c2]
                    · have HLN2 := Lib.hid ((ST.out.2.2 o1 rfl HXE.out).1 HK0.out)
                      rw [show (some o1).isSome = true from rfl]
                      go_wp2_with fail
                      go_roundw
                      case rel => exact ⟨e + 1, 1, (ln.extract 0 q), o1, a, cp, [], by go_num, by have := HK0.out; congr 1; omega, by omega, by omega, Nat.zero_le _, Lib.hid (fun h => by omega), Lib.hid (fun _ => rfl), HNS.out, HW6,
                        Lib.hid (ownsRow_setCell_below (ownsRow_setCell_below HO5.out (by show w.heap.size + 1 < w.heap.size + 2; omega) _) (by show w.heap.size + 1 < w.heap.size + 2; omega) _), HLN2⟩
                      case measure => simp [intOf]; omega
                  · have dk2 : ((k : Int) == 0) = false := by rw [beq_eq_false_iff_ne]; omega
                    have HK0 := Lib.hid hk0
                    clear hk0
                    go_wp2_with fail
                    refine (RST.out _).mono ?_
                    rintro ee w6 ⟨v6, rfl, ⟨t6, rfl, ht6⟩, hb6⟩
                    have HT6 := Lib.hid ht6
                    replace HW5 := Lib.hid (HW5.out.below hb6)
                    replace HO5 := Lib.hid (own_below HO5.out hb6)
                    clear hb6 ht6 RST
                    generalize whenR (ln.extract 0 q).data.toList = wh at *
                    generalize ln.extract 0 q = kn at *
                    obtain ⟨⟨d0, d1, d2⟩, e0, e1, e2⟩ := cells3_of HW5.out.h1
                    have gl5 := lt_of_heap HW5.out.h1
                    have hxk : xs.length ≤ 65 := by omega
                    go_wp2_with (at_builtin; refine wpList_append_lies _ rfl _ _ _ rfl (w.heap.size + 2) 43 i0 (.agg #[.int .i64 0, .int .i64 0]) 2 16 Tryd.underlying22 HI0.out HZ0.out HZ1.out HZ2.out rfl (by omega) _ _ _ (by rfl) (HO5.out.alloc _) ⟨w6.heap.size, 0, none⟩ 1 1 [.int .i64 t6, .int .i64 (oo.getD 0)] (by rfl) (by rfl) (two_new _ _ _ _) (by simp [Value.oneCell']) (by omega) (by unfold maxLen; omega) (by omega) ?m3 (w6.heap.size + 1) (by simp) ?_)
                    case m3 => have := lt_of_heap HW5.out.h1; simp; omega
                    intro g7 cap7 w7 hown7 hgrow7 hat7 hlt7
                    have HW7 := Lib.hid ((HW5.out.below ((Below.refl _ _).alloc (Nat.le_refl _) _)).grown hgrow7 (fun q hq => (HO5.out.lt q hq).1))
                    have HO7 := Lib.hid hown7
                    clear hown7 hgrow7 hat7 hlt7 d0 d1 d2 e0 e1 e2 gl5
                    obtain ⟨⟨d0, d1, d2⟩, e0, e1, e2⟩ := cells3_of HW7.out.h1
                    have gl5 := lt_of_heap HW7.out.h1
                    have HW8 := Lib.hid (HW7.out.set 2 (.slice (some ⟨g7, 0, none⟩) (xs.length + 1) cap7) rfl)
                    obtain ⟨⟨c0, c1, c2⟩, f0, f1, f2⟩ := cells3_of HW8.out.h0
                    cases hb1 : oo.isSome
                    all_goals cases hb2 : wh.isSome
                    all_goals cases hb3 : decide (64 < k)
                    case true.true.false =>
                      obtain ⟨o1, rfl⟩ := Option.isSome_iff_exists.1 hb1
                      obtain ⟨t1, rfl⟩ := Option.isSome_iff_exists.1 hb2
                      have ht : t6 = t1 := HT6.out t1 rfl
                      subst ht
                      have HLN2 := Lib.hid (((ST.out.2.2 o1 rfl HXE.out).2 HK0.out).2.2 t6 rfl (by simpa using hb3))
                      have HKK := Lib.hid (HK.out HK0.out)
                      have h64 : k ≤ 64 := by simpa using hb3
                      go_wp2_with fail
                      go_roundw
                      case rel => exact ⟨e + 1, k + 1, nm, o, some ⟨g7, 0, none⟩, cap7, xs ++ [(t6, o1)], by go_num, by go_num, by omega, by omega, by simp; omega, Lib.hid (fun h => by omega), Lib.hid (fun _ => by have := HKK.out; simp; omega), hnm,
                        Lib.hid (by rw [show (xs ++ [(t6, o1)]).length = xs.length + 1 by simp]; exact HW8.out), Lib.hid (by rw [pcells_app, show (xs ++ [(t6, o1)]).length = xs.length + 1 by simp]; exact ownsRow_setCell_below HO7.out (by show w.heap.size + 1 < w.heap.size + 2; omega) _), HLN2⟩
                      case measure => simp [intOf]; omega
                    all_goals
                      have HN : Hid (parZ whenR s.data.toList = none) := Lib.hid (by
                        rcases oo with _ | o1
                        · exact ST.out.2.1 rfl
                        · have h := (ST.out.2.2 o1 rfl HXE.out).2 HK0.out
                          rcases wh with _ | t1
                          · exact h.1 rfl
                          · by_cases h3 : 64 < k
                            · exact h.2.1 h3
                            · exfalso; revert hb1 hb2 hb3; simp [h3])
                      try have h64 : 64 < k := of_decide_eq_true hb3
                      have HF := Lib.hid (par_err HN.out HW8.out.be (.string ⟨#[]⟩) (.int .i64 0) (.slice none 0 0))
                      go_wp2_with fail
                      refine bodyPost_ret (v := .tuple #[.agg #[.string ⟨#[]⟩, .int .i64 0, .slice none 0 0], .int .i64 4]) ?_ rfl HF.out
                      simp [results, Tryd.results31, go_sem, c0, c1, c2]
                · have hqq2 : q = ln.size := by omega
                  have HN := Lib.hid (ST.out.1 hqq2)
                  have HF := Lib.hid (par_err HN.out HW.out.be (.string ⟨#[]⟩) (.int .i64 0) (.slice none 0 0))
                  obtain ⟨⟨c0, c1, c2⟩, f0, f1, f2⟩ := cells3_of HW.out.h0
                  have hqn : ((q : Int) == (ln.size : Int)) = true := by rw [beq_iff_eq]; omega
                  clear hqe hlt3 HQ hqq2 ST HQE
                  go_wp2_with fail
                  refine bodyPost_ret (v := .tuple #[.agg #[.string ⟨#[]⟩, .int .i64 0, .slice none 0 0], .int .i64 4]) ?_ rfl HF.out
                  simp [results, Tryd.results31, go_sem, c0, c1, c2]
          · go_wp2_with fail
            have hlsz : (s.extract at' e).size ≤ s.size := by rw [ByteArray.size_extract]; omega
            generalize s.extract at' e = ln at *
            have ST := Lib.hid (rln_step HL.out hlt HLN.out)
            rw [← HEE.out] at ST
            go_loop [9] (fun v => ∃ q : Nat, v = .int .i64 q ∧ Hid (q ≤ upto 32 ln 0) ∧ q ≤ ln.size) (fun v => upto 32 ln 0 - (intOf v).toNat)
            case atStart => exact ⟨0, rfl, Lib.hid (Nat.zero_le _), Nat.zero_le _⟩
            case round =>
              obtain ⟨q, rfl, HQ, hqs⟩ := hrel
              by_cases hlt3 : q < upto 32 ln 0
              · obtain ⟨hq1, hne⟩ := up_lt (a := 0) (Nat.zero_le _) (show q < 0 + upto 32 ln 0 by omega)
                have hq3 : ((ln[q].toNat : Int) != 32) = true := by
                  rw [bne_iff_ne]; intro h; apply hne; apply UInt8.toNat_inj.1; show ln[q].toNat = 32; omega
                have HLT := Lib.hid hlt3
                clear hne hlt3
                go_wp2
                refine ⟨⟨q + 1, by go_num, Lib.hid (by have := HLT.out; omega), by omega⟩, ?_⟩
                have := HLT.out
                simp [intOf]; omega
              · have hqe : q = 0 + upto 32 ln 0 := by have := HQ.out; omega
                have HQE : Hid (upto 32 ln 0 = q) := Lib.hid (by omega)
                rw [HQE.out] at ST
                by_cases hqz : q < ln.size
                · have hq32 := up_at hqe hqz
                  have hq3 : ((ln[q].toNat : Int) != 32) = false := by rw [hq32]; decide
                  have hqn : ((q : Int) == (ln.size : Int)) = false := by rw [beq_eq_false_iff_ne]; omega
                  have hq4 : (q : Int) + 1 ≤ (ln.size : Int) := by omega
                  have RSH := Lib.hid (fun W => rshown_any (ln.extract (q + 1) ln.size) W)
                  have HXE : Hid (q ≠ ln.size) := Lib.hid (by omega)
                  have HNS : Hid ((ln.extract 0 q).size ≤ s.size) := Lib.hid (by rw [ByteArray.size_extract]; omega)
                  have RST := Lib.hid (fun W => rstamped_any (ln.extract 0 q) W)
                  clear hqe hlt3 hq32 HQ HLN
                  go_wp2_with fail
                  refine (RSH.out _).mono ?_
                  rintro ee w5 ⟨rfl, hb5⟩
                  have HW5 := Lib.hid (HW.out.below hb5)
                  have HO5 := Lib.hid (own_below HO.out hb5)
                  clear hb5
                  rw [show ofsV (offP (ln.extract (q + 1) ln.size).data.toList) = .tuple #[.int .i64 ((offP (ln.extract (q + 1) ln.size).data.toList).getD 0), .bool (offP (ln.extract (q + 1) ln.size).data.toList).isSome] from rfl]
                  generalize offP (ln.extract (q + 1) ln.size).data.toList = oo at *
                  clear RSH
                  rcases Nat.eq_zero_or_pos k with hk0 | hk0
                  · have dk2 : ((k : Int) == 0) = true := by rw [hk0]; rfl
                    have h64 : k ≤ 64 := by omega
                    obtain ⟨rfl, rfl, rfl⟩ := HZ.out hk0
                    have HK0 := Lib.hid hk0
                    clear hk0
                    obtain ⟨⟨d0, d1, d2⟩, e0, e1, e2⟩ := cells3_of HW5.out.h1
                    have gl5 := lt_of_heap HW5.out.h1
                    have HW6 := Lib.hid ((HW5.out.set 0 (.string (ln.extract 0 q)) rfl).set 1 (.int .i64 (oo.getD 0)) rfl)
                    obtain ⟨⟨c0, c1, c2⟩, f0, f1, f2⟩ := cells3_of HW5.out.h0
                    rcases oo with _ | o1
                    · have HN := Lib.hid (ST.out.2.1 rfl)
                      have HF := Lib.hid (par_err HN.out HW6.out.be (.string ⟨#[]⟩) (.int .i64 0) (.slice none 0 0))
                      rw [show (none : Option Int).isSome = false from rfl]
                      go_wp2_with fail
                      refine bodyPost_ret (v := .tuple #[.agg #[.string ⟨#[]⟩, .int .i64 0, .slice none 0 0], .int .i64 4]) ?_ rfl HF.out
                      simp [results, Tryd.results31, go_sem, c0, c1, c2]
                    · have HLN2 := Lib.hid ((ST.out.2.2 o1 rfl HXE.out).1 HK0.out)
                      rw [show (some o1).isSome = true from rfl]
                      go_wp2_with fail
                      go_roundw
                      case rel => exact ⟨e + 1, 1, (ln.extract 0 q), o1, a, cp, [], by go_num, by have := HK0.out; congr 1; omega, by omega, by omega, Nat.zero_le _, Lib.hid (fun h => by omega), Lib.hid (fun _ => rfl), HNS.out, HW6,
                        Lib.hid (ownsRow_setCell_below (ownsRow_setCell_below HO5.out (by show w.heap.size + 1 < w.heap.size + 2; omega) _) (by show w.heap.size + 1 < w.heap.size + 2; omega) _), HLN2⟩
                      case measure => simp [intOf]; omega
                  · have dk2 : ((k : Int) == 0) = false := by rw [beq_eq_false_iff_ne]; omega
                    have HK0 := Lib.hid hk0
                    clear hk0
                    go_wp2_with fail
                    refine (RST.out _).mono ?_
                    rintro ee w6 ⟨v6, rfl, ⟨t6, rfl, ht6⟩, hb6⟩
                    have HT6 := Lib.hid ht6
                    replace HW5 := Lib.hid (HW5.out.below hb6)
                    replace HO5 := Lib.hid (own_below HO5.out hb6)
                    clear hb6 ht6 RST
                    generalize whenR (ln.extract 0 q).data.toList = wh at *
                    generalize ln.extract 0 q = kn at *
                    obtain ⟨⟨d0, d1, d2⟩, e0, e1, e2⟩ := cells3_of HW5.out.h1
                    have gl5 := lt_of_heap HW5.out.h1
                    have hxk : xs.length ≤ 65 := by omega
                    go_wp2_with (at_builtin; refine wpList_append_lies _ rfl _ _ _ rfl (w.heap.size + 2) 43 i0 (.agg #[.int .i64 0, .int .i64 0]) 2 16 Tryd.underlying22 HI0.out HZ0.out HZ1.out HZ2.out rfl (by omega) _ _ _ (by rfl) (HO5.out.alloc _) ⟨w6.heap.size, 0, none⟩ 1 1 [.int .i64 t6, .int .i64 (oo.getD 0)] (by rfl) (by rfl) (two_new _ _ _ _) (by simp [Value.oneCell']) (by omega) (by unfold maxLen; omega) (by omega) ?m3 (w6.heap.size + 1) (by simp) ?_)
                    case m3 => have := lt_of_heap HW5.out.h1; simp; omega
                    intro g7 cap7 w7 hown7 hgrow7 hat7 hlt7
                    have HW7 := Lib.hid ((HW5.out.below ((Below.refl _ _).alloc (Nat.le_refl _) _)).grown hgrow7 (fun q hq => (HO5.out.lt q hq).1))
                    have HO7 := Lib.hid hown7
                    clear hown7 hgrow7 hat7 hlt7 d0 d1 d2 e0 e1 e2 gl5
                    obtain ⟨⟨d0, d1, d2⟩, e0, e1, e2⟩ := cells3_of HW7.out.h1
                    have gl5 := lt_of_heap HW7.out.h1
                    have HW8 := Lib.hid (HW7.out.set 2 (.slice (some ⟨g7, 0, none⟩) (xs.length + 1) cap7) rfl)
                    obtain ⟨⟨c0, c1, c2⟩, f0, f1, f2⟩ := cells3_of HW8.out.h0
                    cases hb1 : oo.isSome
                    all_goals cases hb2 : wh.isSome
                    all_goals cases hb3 : decide (64 < k)
                    case true.true.false =>
                      obtain ⟨o1, rfl⟩ := Option.isSome_iff_exists.1 hb1
                      obtain ⟨t1, rfl⟩ := Option.isSome_iff_exists.1 hb2
                      have ht : t6 = t1 := HT6.out t1 rfl
                      subst ht
                      have HLN2 := Lib.hid (((ST.out.2.2 o1 rfl HXE.out).2 HK0.out).2.2 t6 rfl (by simpa using hb3))
                      have HKK := Lib.hid (HK.out HK0.out)
                      have h64 : k ≤ 64 := by simpa using hb3
                      go_wp2_with fail
                      go_roundw
                      case rel => exact ⟨e + 1, k + 1, nm, o, some ⟨g7, 0, none⟩, cap7, xs ++ [(t6, o1)], by go_num, by go_num, by omega, by omega, by simp; omega, Lib.hid (fun h => by omega), Lib.hid (fun _ => by have := HKK.out; simp; omega), hnm,
                        Lib.hid (by rw [show (xs ++ [(t6, o1)]).length = xs.length + 1 by simp]; exact HW8.out), Lib.hid (by rw [pcells_app, show (xs ++ [(t6, o1)]).length = xs.length + 1 by simp]; exact ownsRow_setCell_below HO7.out (by show w.heap.size + 1 < w.heap.size + 2; omega) _), HLN2⟩
                      case measure => simp [intOf]; omega
                    all_goals
                      have HN : Hid (parZ whenR s.data.toList = none) := Lib.hid (by
                        rcases oo with _ | o1
                        · exact ST.out.2.1 rfl
                        · have h := (ST.out.2.2 o1 rfl HXE.out).2 HK0.out
                          rcases wh with _ | t1
                          · exact h.1 rfl
                          · by_cases h3 : 64 < k
                            · exact h.2.1 h3
                            · exfalso; revert hb1 hb2 hb3; simp [h3])
                      try have h64 : 64 < k := of_decide_eq_true hb3
                      have HF := Lib.hid (par_err HN.out HW8.out.be (.string ⟨#[]⟩) (.int .i64 0) (.slice none 0 0))
                      go_wp2_with fail
                      refine bodyPost_ret (v := .tuple #[.agg #[.string ⟨#[]⟩, .int .i64 0, .slice none 0 0], .int .i64 4]) ?_ rfl HF.out
                      simp [results, Tryd.results31, go_sem, c0, c1, c2]
                · have hqq2 : q = ln.size := by omega
                  have HN := Lib.hid (ST.out.1 hqq2)
                  have HF := Lib.hid (par_err HN.out HW.out.be (.string ⟨#[]⟩) (.int .i64 0) (.slice none 0 0))
                  obtain ⟨⟨c0, c1, c2⟩, f0, f1, f2⟩ := cells3_of HW.out.h0
                  have hqn : ((q : Int) == (ln.size : Int)) = true := by rw [beq_iff_eq]; omega
                  clear hqe hlt3 HQ hqq2 ST HQE
                  go_wp2_with fail
                  refine bodyPost_ret (v := .tuple #[.agg #[.string ⟨#[]⟩, .int .i64 0, .slice none 0 0], .int .i64 4]) ?_ rfl HF.out
                  simp [results, Tryd.results31, go_sem, c0, c1, c2]
end Go.Proofs.YtllcoocllkaanaaDoor
