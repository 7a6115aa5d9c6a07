import Derived.Test.YtpiejpodaljefaaDoorR7
namespace Go.Proofs.YtpiejpodaljefaaDoor
open Go.RowKit

theorem RW.start {p : Nat} {s : ByteArray} {i l b : Nat} {d q : UInt8} {w : World} (hR : RdAt w p s i l b d q) :
    RW p s i l d q w i l b [] (.slice none 0 0) ((w.alloc (.cells #[.int .i64 0, .slice none 0 0] 48)).alloc (.cells #[.int .i64 l, .slice none 0 0] 48)) := by
  have hp := lt_of_heap hR.1
  have hb : Below w.heap.size w ((w.alloc (.cells #[.int .i64 0, .slice none 0 0] 48)).alloc (.cells #[.int .i64 l, .slice none 0 0] 48)) := ((Below.refl _ _).alloc (Nat.le_refl _) _).alloc (by simp) _
  refine ⟨hR.below hb, ?_, ?_, World.ownsRow_nil _ _ _ _, But.of_below hb, hp, Nat.le_refl _⟩
  · rw [Lib.alloc_old _ _ _ (by simp)]; exact heap_alloc_new _ _
  · have e := heap_alloc_new (w.alloc (.cells #[.int .i64 0, .slice none 0 0] 48)) (.cells #[.int .i64 l, .slice none 0 0] 48)
    rw [show (w.alloc (.cells #[.int .i64 0, .slice none 0 0] 48)).heap.size = w.heap.size + 1 by simp] at e
    exact e

theorem rec_bad {p : Nat} {s : ByteArray} {i l j l' b' g : Nat} {d q : UInt8} {w w1 W : World} {fs : List Fld} {v : Value} {z : (List Fld ⊕ Prb) × St} {pr : Prb} (h : RW p s i l d q w j l' b' fs v w1) (hz : z = (.inr pr, ⟨s.data.toList.drop j, l', j - b' + 1⟩)) (hP : PrAt w1 g pr.1 pr.2.1 pr.2.2) (hg : w.heap.size < g) (hW : But w.heap.size w1 W) :
    RecOut p s i l d q z w (.returned (.tuple #[.agg #[.int .i64 0, .slice none 0 0], .pointer (some ⟨g, 0, none⟩)])) W := by
  subst hz
  have := h.pb
  refine ⟨⟨g, rfl, hP.but hW (by omega), by omega⟩, ⟨j, l', b', h.rd.but hW (by omega), rfl, h.ij⟩, ?_⟩
  exact ⟨hW.os.trans h.but.os, hW.tape.trans h.but.tape, hW.output.trans h.but.output, Nat.le_trans h.but.size hW.size, fun k hk hp => (hW.block k (Nat.lt_of_lt_of_le hk h.but.size) (by omega)).trans (h.but.block k hk hp)⟩
theorem rec_good {p : Nat} {s : ByteArray} {i l j l' b' : Nat} {d q : UInt8} {w w1 W : World} {fs : List Fld} {v : Value} {z : (List Fld ⊕ Prb) × St} (h : RW p s i l d q w j l' b' fs v w1) (hz : z = (.inl fs, ⟨s.data.toList.drop j, l', j - b' + 1⟩)) (hW : But w.heap.size w1 W) :
    RecOut p s i l d q z w (.returned (.tuple #[.agg #[.int .i64 l, v], .pointer none])) W := by
  subst hz
  have := h.pb
  have hr : W.ownsRow w.heap.size 50 3 v fs.length (fcells fs) := by
    have h1 := row_keep h.row (w' := W) (fun g hg => hW.block g (h.row.lt g hg).2 (by have := (h.row.lt g hg).1; omega))
    exact row_base h1 (by omega)
  refine ⟨⟨v, rfl, hr⟩, ⟨j, l', b', h.rd.but hW (by omega), rfl, h.ij⟩, ?_⟩
  exact ⟨hW.os.trans h.but.os, hW.tape.trans h.but.tape, hW.output.trans h.but.output, Nat.le_trans h.but.size hW.size, fun k hk hp => (hW.block k (Nat.lt_of_lt_of_le hk h.but.size) (by omega)).trans (h.but.block k hk hp)⟩
theorem out_cells {w : World} {g : Nat} {x y : Value} {T : TypeId} (h : w.heap[g]? = some (.cells #[x, y] T (0, 0))) : w.cell? ⟨g, 0, none⟩ = some x ∧ w.cell? ⟨g, 1, none⟩ = some y ∧ w.frozen? ⟨g, 0, none⟩ = false ∧ w.frozen? ⟨g, 1, none⟩ = false := by
  refine ⟨?_, ?_, ?_, ?_⟩ <;> simp [World.cell?, World.frozen?, h]
theorem RW.slice {p : Nat} {s : ByteArray} {i l : Nat} {d q : UInt8} {w : World} {j l' b' : Nat} {fs : List Fld} {v : Value} {wr : World} (h : RW p s i l d q w j l' b' fs v wr) : ∃ cp, (∃ ad, v = .slice ad fs.length cp) ∧ fs.length ≤ cp := by
  rcases h.row.2 with ⟨rfl, hn⟩ | ⟨g, cap, cur, rfl, _, hg, hle, _⟩
  · exact ⟨0, ⟨none, by rw [hn]⟩, by omega⟩
  · exact ⟨cap, ⟨_, rfl⟩, hle⟩

set_option maxRecDepth 100000 in
set_option maxHeartbeats 4000000 in
theorem record_any (p : Nat) (s : ByteArray) (i l b : Nat) (d q : UInt8) (w : World) (hR : RdAt w p s i l b d q) (hd10 : (d == 10) = false) (hq10 : (q == 10) = false) :
    Calls Tryd.prog 42 #[.pointer (some ⟨p, 0, none⟩)] w (RecOut p s i l d q (recL d q 12 ⟨s.data.toList.drop i, l, i - b + 1⟩ []) w) := by
  have HR := Lib.hid hR
  have HW0 := Lib.hid (RW.start hR)
  obtain ⟨⟨c0, c1, c2, c3, c4, c5⟩, f0, f1, f2⟩ := hR.cells
  have pb := lt_of_heap hR.1
  have hmf : ∀ (fn : Fn) (first cap : Array Value) (w : World), (Instr.makeFunc fn first cap).run Tryd.prog w = .ok (.func fn first cap) w := fun _ _ _ _ => rfl
  obtain ⟨i0, hii, hz0, hz1, hz2⟩ := info_parts infoF
  have HI0 := Lib.hid hii; have HZ0 := Lib.hid hz0; have HZ1 := Lib.hid hz1; have HZ2 := Lib.hid hz2
  have HMF := Lib.hid hmf
  clear hR hii hz0 hz1 hz2 hmf
  go_enter Tryd.func42, Tryd.ntmps42
  go_wp2
  clear c0 c1 c2 c3 c4 c5 f0 f1 f2
  go_loopg [] 13 (fun k wr => ∃ j l' b' fs v, k = 13 - fs.length ∧ fs.length ≤ 12 ∧ Hid (RW p s i l d q w j l' b' fs v wr) ∧ Hid (recL d q (12 - fs.length) ⟨s.data.toList.drop j, l', j - b' + 1⟩ fs = recL d q 12 ⟨s.data.toList.drop i, l, i - b + 1⟩ []))
  case atStart => exact ⟨i, l, b, [], .slice none 0 0, rfl, by simp, HW0, Lib.hid rfl⟩
  case round =>
    obtain ⟨j, l', b', fs, v, hk, hfl, HW, HT⟩ := hrel
    have HK := Lib.hid hk
    clear hk HW0
    obtain ⟨⟨c0, c1, c2, c3, c4, c5⟩, f0, f1, f2⟩ := HW.out.rd.cells
    obtain ⟨o0, o1, o2, o3⟩ := out_cells HW.out.out
    obtain ⟨r0, r1, r2, r3⟩ := out_cells HW.out.res
    obtain ⟨cp, hv, hcp⟩ := RW.slice HW.out
    have hs := HW.out.rd.2.1
    have hb := HW.out.rd.2.2.2.1
    have hl := HW.out.rd.2.2.2.2
    obtain ⟨ad, rfl⟩ := hv
    by_cases hfull : fs.length = 12
    · have hfe : ((fs.length : Int) == 12) = true := by simp; omega
      have HFU := Lib.hid hfull
      clear hfull
      go_wp2_with fail
      refine (problem_any 9 p s j l' b' d q _ HW.out.rd).mono ?_
      rintro e w1 ⟨g, rfl, hP, hg, hb1⟩
      have HP := Lib.hid hP
      have HB1 := Lib.hid hb1
      obtain ⟨x0, x1, x2, x3⟩ := out_cells (HW.out.below hb1).res
      have xl := lt_of_heap (HW.out.below hb1).res
      have gl := lt_of_heap HW.out.res
      clear hP hb1 c0 c1 c2 c3 c4 c5 f0 f1 f2 o0 o1 o2 o3 r0 r1 r2 r3
      go_wp2_with fail
      refine bodyPost_ret (v := .tuple #[.agg #[.int .i64 0, .slice none 0 0], .pointer (some ⟨g, 0, none⟩)]) ?_ rfl (rec_bad (HW.out.below HB1.out) (pr := (l', j - b' + 1, 9)) (by rw [← HT.out, HFU.out]; rfl) HP.out (by omega) ((But.setCell _ _ _ _).trans (But.setCell _ _ _ _)))
      simp [results, Tryd.results42, go_sem, x0, x1]
    · have hfe : ((fs.length : Int) == 12) = false := by simp; omega
      have hlt12 : fs.length < 12 := by omega
      have HMF' := HMF.out
      clear hfull
      go_wp2_with fail
      refine (column_any j b' l' (by omega) (by omega) (by have := HW.out.rd.2.2.1; omega) _).mono ?_
      rintro e w1 ⟨rfl, hb1⟩
      have HW1 := Lib.hid (HW.out.below hb1)
      have HB1 := Lib.hid hb1
      clear hb1 c0 c1 c2 c3 c4 c5 f0 f1 f2 o0 o1 o2 o3 r0 r1 r2 r3
      go_wp2_with fail
      have HF : Hid (FAt (w1.alloc (.cells #[.string ⟨#[]⟩, .int .i64 ((j : Int) - (b' : Int) + 1), .bool false] 50)) w1.heap.size [] (j - b' + 1) false) := Lib.hid (by
        unfold FAt
        rw [show ((j - b' + 1 : Nat) : Int) = (j : Int) - (b' : Int) + 1 by omega]
        exact heap_alloc_new _ _)
      have HW2 := Lib.hid (HW1.out.below ((Below.refl _ _).alloc (Nat.le_refl _) (.cells #[.string ⟨#[]⟩, .int .i64 ((j : Int) - (b' : Int) + 1), .bool false] 50)))
      have HB2 := Lib.hid (HB1.out.trans (((Below.refl _ _).alloc (Nat.le_refl _) (.cells #[.string ⟨#[]⟩, .int .i64 ((j : Int) - (b' : Int) + 1), .bool false] 50)).mono HB1.out.size))
      have hf1 := HB1.out.size
      clear HW1 HB1
      generalize w1.alloc (.cells #[.string ⟨#[]⟩, .int .i64 ((j : Int) - (b' : Int) + 1), .bool false] 50) = W2 at *
      generalize w1.heap.size = f at *
      obtain ⟨⟨c0, c1, c2, c3, c4, c5⟩, f0, f1, f2⟩ := HW2.out.rd.cells
      have hjs := HW2.out.rd.2.2.1
      have hpf : p ≠ f := by have := HW2.out.pb; have := HW.out.but.size; omega
      by_cases hlt : j < s.size
      · cases hq : ((s[j].toNat : Int) == (q.toNat : Int))
        · have NQ : Hid ((s.data.toList.drop j).head? ≠ some q) := Lib.hid (by rw [drop_at s j hlt]; have hq' := hq; rw [beq_cast2] at hq'; simpa using hq')
          go_quiet ((go_at_call 39; exact quiet_q (ended_qno p s j l' b' d q _ (HW2.out.rd.below (below_drewN _ _)) hlt)))
          rename_i nq
          go_wp2_with fail
          refine (plain_any p f s j l' b' (j - b' + 1) d q (W2.drewN nq) (HW2.out.rd.below (below_drewN _ _)) (HF.out.below (below_drewN _ _)) rfl hpf NQ.out).mono ?_
          intro e W3 ho
          obtain ⟨hres, ⟨j2, l2, b2, hr2, hst, hjj⟩, hbb⟩ := ho
          have HW3 := Lib.hid (HW.out.field (W := W2.drewN nq) (HB2.out.trans ((below_drewN _ _).mono HB2.out.size)) hf1 hbb hr2 hjj)
          have hbs : W2.heap.size ≤ W3.heap.size := hbb.size
          have HST := Lib.hid hst
          clear hbb hr2 hst c0 c1 c2 c3 c4 c5 f0 f1 f2
          cases hz : (fieldL d q ⟨s.data.toList.drop j, l', j - b' + 1⟩).1 with
          | inr pr =>
            rw [hz] at hres
            obtain ⟨g, rfl, hP, hg⟩ := hres
            have hg : W2.heap.size ≤ g := hg
            have HP := Lib.hid hP
            have HZ := Lib.hid (Prod.ext hz HST.out : fieldL d q ⟨s.data.toList.drop j, l', j - b' + 1⟩ = (.inr pr, ⟨s.data.toList.drop j2, l2, j2 - b2 + 1⟩))
            obtain ⟨x0, x1, x2, x3⟩ := out_cells HW3.out.res
            have xl := lt_of_heap HW.out.res
            have xl2 := HB2.out.size
            have xl3 := lt_of_heap HW3.out.res
            clear hP hz
            go_wp2_with fail
            refine bodyPost_ret (v := .tuple #[.agg #[.int .i64 0, .slice none 0 0], .pointer (some ⟨g, 0, none⟩)]) ?_ rfl (rec_bad HW3.out (by rw [← HT.out, show 12 - fs.length = (11 - fs.length) + 1 by omega, recL_err HZ.out]) HP.out (by omega) ((But.setCell _ _ _ _).trans (But.setCell _ _ _ _)))
            simp [results, Tryd.results42, go_sem, x0, x1]
          | inl x =>
            rw [hz] at hres
            obtain ⟨rfl, hfx⟩ := hres
            have HZ := Lib.hid (Prod.ext hz HST.out : fieldL d q ⟨s.data.toList.drop j, l', j - b' + 1⟩ = (.inl x, ⟨s.data.toList.drop j2, l2, j2 - b2 + 1⟩))
            obtain ⟨⟨k0, k1, k2⟩, _⟩ := hfx.cells
            obtain ⟨o0, o1, o2, o3⟩ := out_cells HW3.out.out
            have xl3 := lt_of_heap HW3.out.out
            clear hfx hz
            go_upto_region 12 with (at_builtin; refine wpList_append_own _ rfl _ _ 46 rfl (w.heap.size + 2) 50 i0 (.agg #[.string ⟨#[]⟩, .int .i64 0, .bool false]) 3 32 Tryd.underlying46 HI0.out HZ0.out HZ1.out HZ2.out rfl (by decide) _ _ _ rfl (HW3.out.row.alloc _) ⟨_, 0, none⟩ 1 1 [.string (arr x.1), .int .i64 x.2.1, .bool x.2.2] rfl rfl ?a1 ?a2 ?a3 ?a4 ?a5 ?_)
            case a1 => exact cell_three_new _ _ _ _ _
            case a2 => simp [Value.oneCell']
            case a3 => unfold maxLen; omega
            case a4 => omega
            case a5 => simp; omega
            intro v2 w5 hown hgr _
            have hO5 : w5.heap[w.heap.size + 1]? = some (.cells #[.int .i64 l, .slice ad fs.length cp] 48 (0, 0)) := (hgr.block _ (by simp; omega) (fun e => by have := (HW3.out.row.lt _ e.symm).1; omega)).trans (by rw [Lib.alloc_old _ _ _ xl3]; exact HW3.out.out)
            have HW6 := Lib.hid (HW3.out.add (x := x) ((Below.refl _ _).alloc (Nat.le_refl _) _) hgr (by rw [List.length_append, fcells_app]; exact hown))
            obtain ⟨y0, y1, y2, y3⟩ := out_cells hO5
            obtain ⟨ad2, cp2, rfl, hcp2, hcp3⟩ := own_slice hown
            clear hown hgr hO5 k0 k1 k2 o0 o1 o2 o3
            go_upto_region 12 with fail
            clear y0 y1 y2 y3
            generalize w5.setCell ⟨w.heap.size + 1, 1, none⟩ (.slice ad2 (fs.length + 1) cp2) = w6 at *
            obtain ⟨⟨c0, c1, c2, c3, c4, c5⟩, f0, f1, f2⟩ := HW6.out.rd.cells
            have hj2 := HW6.out.rd.2.2.1
            go_wp2_with fail
            refine (lineEnd_any p s j2 l2 b2 d q _ HW6.out.rd).mono ?_
            cases he : endL (s.data.toList.drop j2)
            · rintro e w7 ⟨n, rfl, rfl⟩
              have hlt2 : j2 < s.size := by
                rcases Nat.lt_or_ge j2 s.size with h | h
                · exact h
                · rw [drop_end s j2 h] at he; simp [endL] at he
              have hdel : (s.data.toList.drop j2).head? = some d := (fieldL_ends HZ.out).resolve_left (by simp [he])
              have h10 : ((s[j2].toNat : Int) == 10) = false := by
                rw [feed_iff s j2 hlt2]
                rw [drop_at s j2 hlt2] at hdel
                rw [show s[j2] = d by simpa using hdel]; exact hd10
              have HE := Lib.hid he
              clear he hdel
              go_wp2_with fail
              refine (next_else p s j2 l2 b2 d q _ HW6.out.rd hlt2 h10).mono ?_
              rintro e w8 ⟨rfl, hr8, hb8⟩
              have HW8 := Lib.hid (HW6.out.moved hb8 hr8 (by omega))
              clear hr8 hb8 c0 c1 c2 c3 c4 c5 f0 f1 f2
              go_wp2
              go_roundg (13 - (fs ++ [x]).length)
              case rel =>
                refine ⟨j2 + 1, l2, b2, fs ++ [x], .slice ad2 (fs.length + 1) cp2, rfl, by simp; omega, HW8, Lib.hid ?_⟩
                rw [← HT.out, show 12 - fs.length = (12 - (fs ++ [x]).length) + 1 by simp; omega, recL_step HZ.out, if_neg (by rw [HE.out]; simp), drop_at s j2 hlt2, List.tail_cons, show j2 + 1 - b2 + 1 = j2 - b2 + 1 + 1 by have := HW6.out.rd.2.2.2.1; omega]
              case measure => have := HK.out; simp; omega
            · rintro e w7 ⟨n, rfl, rfl⟩
              have HE := Lib.hid he
              obtain ⟨y0, y1, y2, y3⟩ := out_cells HW6.out.out
              obtain ⟨x0, x1, x2, x3⟩ := out_cells HW6.out.res
              have xl := lt_of_heap HW6.out.res
              clear he
              go_wp2_with fail
              refine bodyPost_ret (v := .tuple #[.agg #[.int .i64 l, .slice ad2 (fs.length + 1) cp2], .pointer none]) ?_ rfl (rec_good HW6.out (by rw [← HT.out, show 12 - fs.length = (11 - fs.length) + 1 by omega, recL_step HZ.out, if_pos HE.out]) ((But.setCell _ _ _ _).trans (But.setCell _ _ _ _)))
              simp [results, Tryd.results42, go_sem, x0, x1]
        · go_quiet ((go_at_call 39; exact quiet_q (ended_qno p s j l' b' d q _ (HW2.out.rd.below (below_drewN _ _)) hlt)))
          rename_i nq
          go_wp2_with fail
          refine (quoted_any p f s j l' b' d q (W2.drewN nq) (HW2.out.rd.below (below_drewN _ _)) (HF.out.below (below_drewN _ _)) hpf hlt hq hq10).mono ?_
          intro e W3 ho
          obtain ⟨hres, ⟨j2, l2, b2, hr2, hst, hjj⟩, hbb⟩ := ho
          have HW3 := Lib.hid (HW.out.field (W := W2.drewN nq) (HB2.out.trans ((below_drewN _ _).mono HB2.out.size)) hf1 hbb hr2 hjj)
          have hbs : W2.heap.size ≤ W3.heap.size := hbb.size
          have HST := Lib.hid hst
          clear hbb hr2 hst c0 c1 c2 c3 c4 c5 f0 f1 f2
          cases hz : (fieldL d q ⟨s.data.toList.drop j, l', j - b' + 1⟩).1 with
          | inr pr =>
            rw [hz] at hres
            obtain ⟨g, rfl, hP, hg⟩ := hres
            have hg : W2.heap.size ≤ g := hg
            have HP := Lib.hid hP
            have HZ := Lib.hid (Prod.ext hz HST.out : fieldL d q ⟨s.data.toList.drop j, l', j - b' + 1⟩ = (.inr pr, ⟨s.data.toList.drop j2, l2, j2 - b2 + 1⟩))
            obtain ⟨x0, x1, x2, x3⟩ := out_cells HW3.out.res
            have xl := lt_of_heap HW.out.res
            have xl2 := HB2.out.size
            have xl3 := lt_of_heap HW3.out.res
            clear hP hz
            go_wp2_with fail
            refine bodyPost_ret (v := .tuple #[.agg #[.int .i64 0, .slice none 0 0], .pointer (some ⟨g, 0, none⟩)]) ?_ rfl (rec_bad HW3.out (by rw [← HT.out, show 12 - fs.length = (11 - fs.length) + 1 by omega, recL_err HZ.out]) HP.out (by omega) ((But.setCell _ _ _ _).trans (But.setCell _ _ _ _)))
            simp [results, Tryd.results42, go_sem, x0, x1]
          | inl x =>
            rw [hz] at hres
            obtain ⟨rfl, hfx⟩ := hres
            have HZ := Lib.hid (Prod.ext hz HST.out : fieldL d q ⟨s.data.toList.drop j, l', j - b' + 1⟩ = (.inl x, ⟨s.data.toList.drop j2, l2, j2 - b2 + 1⟩))
            obtain ⟨⟨k0, k1, k2⟩, _⟩ := hfx.cells
            obtain ⟨o0, o1, o2, o3⟩ := out_cells HW3.out.out
            have xl3 := lt_of_heap HW3.out.out
            clear hfx hz
            go_upto_region 12 with (at_builtin; refine wpList_append_own _ rfl _ _ 46 rfl (w.heap.size + 2) 50 i0 (.agg #[.string ⟨#[]⟩, .int .i64 0, .bool false]) 3 32 Tryd.underlying46 HI0.out HZ0.out HZ1.out HZ2.out rfl (by decide) _ _ _ rfl (HW3.out.row.alloc _) ⟨_, 0, none⟩ 1 1 [.string (arr x.1), .int .i64 x.2.1, .bool x.2.2] rfl rfl ?b1 ?b2 ?b3 ?b4 ?b5 ?_)
            case b1 => exact cell_three_new _ _ _ _ _
            case b2 => simp [Value.oneCell']
            case b3 => unfold maxLen; omega
            case b4 => omega
            case b5 => simp; omega
            intro v2 w5 hown hgr _
            have hO5 : w5.heap[w.heap.size + 1]? = some (.cells #[.int .i64 l, .slice ad fs.length cp] 48 (0, 0)) := (hgr.block _ (by simp; omega) (fun e => by have := (HW3.out.row.lt _ e.symm).1; omega)).trans (by rw [Lib.alloc_old _ _ _ xl3]; exact HW3.out.out)
            have HW6 := Lib.hid (HW3.out.add (x := x) ((Below.refl _ _).alloc (Nat.le_refl _) _) hgr (by rw [List.length_append, fcells_app]; exact hown))
            obtain ⟨y0, y1, y2, y3⟩ := out_cells hO5
            obtain ⟨ad2, cp2, rfl, hcp2, hcp3⟩ := own_slice hown
            clear hown hgr hO5 k0 k1 k2 o0 o1 o2 o3
            go_upto_region 12 with fail
            clear y0 y1 y2 y3
            generalize w5.setCell ⟨w.heap.size + 1, 1, none⟩ (.slice ad2 (fs.length + 1) cp2) = w6 at *
            obtain ⟨⟨c0, c1, c2, c3, c4, c5⟩, f0, f1, f2⟩ := HW6.out.rd.cells
            have hj2 := HW6.out.rd.2.2.1
            go_wp2_with fail
            refine (lineEnd_any p s j2 l2 b2 d q _ HW6.out.rd).mono ?_
            cases he : endL (s.data.toList.drop j2)
            · rintro e w7 ⟨n, rfl, rfl⟩
              have hlt2 : j2 < s.size := by
                rcases Nat.lt_or_ge j2 s.size with h | h
                · exact h
                · rw [drop_end s j2 h] at he; simp [endL] at he
              have hdel : (s.data.toList.drop j2).head? = some d := (fieldL_ends HZ.out).resolve_left (by simp [he])
              have h10 : ((s[j2].toNat : Int) == 10) = false := by
                rw [feed_iff s j2 hlt2]
                rw [drop_at s j2 hlt2] at hdel
                rw [show s[j2] = d by simpa using hdel]; exact hd10
              have HE := Lib.hid he
              clear he hdel
              go_wp2_with fail
              refine (next_else p s j2 l2 b2 d q _ HW6.out.rd hlt2 h10).mono ?_
              rintro e w8 ⟨rfl, hr8, hb8⟩
              have HW8 := Lib.hid (HW6.out.moved hb8 hr8 (by omega))
              clear hr8 hb8 c0 c1 c2 c3 c4 c5 f0 f1 f2
              go_wp2
              go_roundg (13 - (fs ++ [x]).length)
              case rel =>
                refine ⟨j2 + 1, l2, b2, fs ++ [x], .slice ad2 (fs.length + 1) cp2, rfl, by simp; omega, HW8, Lib.hid ?_⟩
                rw [← HT.out, show 12 - fs.length = (12 - (fs ++ [x]).length) + 1 by simp; omega, recL_step HZ.out, if_neg (by rw [HE.out]; simp), drop_at s j2 hlt2, List.tail_cons, show j2 + 1 - b2 + 1 = j2 - b2 + 1 + 1 by have := HW6.out.rd.2.2.2.1; omega]
              case measure => have := HK.out; simp; omega
            · rintro e w7 ⟨n, rfl, rfl⟩
              have HE := Lib.hid he
              obtain ⟨y0, y1, y2, y3⟩ := out_cells HW6.out.out
              obtain ⟨x0, x1, x2, x3⟩ := out_cells HW6.out.res
              have xl := lt_of_heap HW6.out.res
              clear he
              go_wp2_with fail
              refine bodyPost_ret (v := .tuple #[.agg #[.int .i64 l, .slice ad2 (fs.length + 1) cp2], .pointer none]) ?_ rfl (rec_good HW6.out (by rw [← HT.out, show 12 - fs.length = (11 - fs.length) + 1 by omega, recL_step HZ.out, if_pos HE.out]) ((But.setCell _ _ _ _).trans (But.setCell _ _ _ _)))
              simp [results, Tryd.results42, go_sem, x0, x1]
      · have NQ : Hid ((s.data.toList.drop j).head? ≠ some q) := Lib.hid (by rw [drop_end s j (by omega)]; simp)
        go_quiet ((go_at_call 39; exact quiet_q (ended_qyes p s j l' b' d q _ (HW2.out.rd.below (below_drewN _ _)) hlt)))
        rename_i nq
        go_wp2_with fail
        refine (plain_any p f s j l' b' (j - b' + 1) d q (W2.drewN nq) (HW2.out.rd.below (below_drewN _ _)) (HF.out.below (below_drewN _ _)) rfl hpf NQ.out).mono ?_
        intro e W3 ho
        obtain ⟨hres, ⟨j2, l2, b2, hr2, hst, hjj⟩, hbb⟩ := ho
        have HW3 := Lib.hid (HW.out.field (W := W2.drewN nq) (HB2.out.trans ((below_drewN _ _).mono HB2.out.size)) hf1 hbb hr2 hjj)
        have hbs : W2.heap.size ≤ W3.heap.size := hbb.size
        have HST := Lib.hid hst
        clear hbb hr2 hst c0 c1 c2 c3 c4 c5 f0 f1 f2
        cases hz : (fieldL d q ⟨s.data.toList.drop j, l', j - b' + 1⟩).1 with
        | inr pr =>
          rw [hz] at hres
          obtain ⟨g, rfl, hP, hg⟩ := hres
          have hg : W2.heap.size ≤ g := hg
          have HP := Lib.hid hP
          have HZ := Lib.hid (Prod.ext hz HST.out : fieldL d q ⟨s.data.toList.drop j, l', j - b' + 1⟩ = (.inr pr, ⟨s.data.toList.drop j2, l2, j2 - b2 + 1⟩))
          obtain ⟨x0, x1, x2, x3⟩ := out_cells HW3.out.res
          have xl := lt_of_heap HW.out.res
          have xl2 := HB2.out.size
          have xl3 := lt_of_heap HW3.out.res
          clear hP hz
          go_wp2_with fail
          refine bodyPost_ret (v := .tuple #[.agg #[.int .i64 0, .slice none 0 0], .pointer (some ⟨g, 0, none⟩)]) ?_ rfl (rec_bad HW3.out (by rw [← HT.out, show 12 - fs.length = (11 - fs.length) + 1 by omega, recL_err HZ.out]) HP.out (by omega) ((But.setCell _ _ _ _).trans (But.setCell _ _ _ _)))
          simp [results, Tryd.results42, go_sem, x0, x1]
        | inl x =>
          rw [hz] at hres
          obtain ⟨rfl, hfx⟩ := hres
          have HZ := Lib.hid (Prod.ext hz HST.out : fieldL d q ⟨s.data.toList.drop j, l', j - b' + 1⟩ = (.inl x, ⟨s.data.toList.drop j2, l2, j2 - b2 + 1⟩))
          obtain ⟨⟨k0, k1, k2⟩, _⟩ := hfx.cells
          obtain ⟨o0, o1, o2, o3⟩ := out_cells HW3.out.out
          have xl3 := lt_of_heap HW3.out.out
          clear hfx hz
          go_upto_region 12 with (at_builtin; refine wpList_append_own _ rfl _ _ 46 rfl (w.heap.size + 2) 50 i0 (.agg #[.string ⟨#[]⟩, .int .i64 0, .bool false]) 3 32 Tryd.underlying46 HI0.out HZ0.out HZ1.out HZ2.out rfl (by decide) _ _ _ rfl (HW3.out.row.alloc _) ⟨_, 0, none⟩ 1 1 [.string (arr x.1), .int .i64 x.2.1, .bool x.2.2] rfl rfl ?c1 ?c2 ?c3 ?c4 ?c5 ?_)
          case c1 => exact cell_three_new _ _ _ _ _
          case c2 => simp [Value.oneCell']
          case c3 => unfold maxLen; omega
          case c4 => omega
          case c5 => simp; omega
          intro v2 w5 hown hgr _
          have hO5 : w5.heap[w.heap.size + 1]? = some (.cells #[.int .i64 l, .slice ad fs.length cp] 48 (0, 0)) := (hgr.block _ (by simp; omega) (fun e => by have := (HW3.out.row.lt _ e.symm).1; omega)).trans (by rw [Lib.alloc_old _ _ _ xl3]; exact HW3.out.out)
          have HW6 := Lib.hid (HW3.out.add (x := x) ((Below.refl _ _).alloc (Nat.le_refl _) _) hgr (by rw [List.length_append, fcells_app]; exact hown))
          obtain ⟨y0, y1, y2, y3⟩ := out_cells hO5
          obtain ⟨ad2, cp2, rfl, hcp2, hcp3⟩ := own_slice hown
          clear hown hgr hO5 k0 k1 k2 o0 o1 o2 o3
          go_upto_region 12 with fail
          clear y0 y1 y2 y3
          generalize w5.setCell ⟨w.heap.size + 1, 1, none⟩ (.slice ad2 (fs.length + 1) cp2) = w6 at *
          obtain ⟨⟨c0, c1, c2, c3, c4, c5⟩, f0, f1, f2⟩ := HW6.out.rd.cells
          have hj2 := HW6.out.rd.2.2.1
          go_wp2_with fail
          refine (lineEnd_any p s j2 l2 b2 d q _ HW6.out.rd).mono ?_
          cases he : endL (s.data.toList.drop j2)
          · rintro e w7 ⟨n, rfl, rfl⟩
            have hlt2 : j2 < s.size := by
              rcases Nat.lt_or_ge j2 s.size with h | h
              · exact h
              · rw [drop_end s j2 h] at he; simp [endL] at he
            have hdel : (s.data.toList.drop j2).head? = some d := (fieldL_ends HZ.out).resolve_left (by simp [he])
            have h10 : ((s[j2].toNat : Int) == 10) = false := by
              rw [feed_iff s j2 hlt2]
              rw [drop_at s j2 hlt2] at hdel
              rw [show s[j2] = d by simpa using hdel]; exact hd10
            have HE := Lib.hid he
            clear he hdel
            go_wp2_with fail
            refine (next_else p s j2 l2 b2 d q _ HW6.out.rd hlt2 h10).mono ?_
            rintro e w8 ⟨rfl, hr8, hb8⟩
            have HW8 := Lib.hid (HW6.out.moved hb8 hr8 (by omega))
            clear hr8 hb8 c0 c1 c2 c3 c4 c5 f0 f1 f2
            go_wp2
            go_roundg (13 - (fs ++ [x]).length)
            case rel =>
              refine ⟨j2 + 1, l2, b2, fs ++ [x], .slice ad2 (fs.length + 1) cp2, rfl, by simp; omega, HW8, Lib.hid ?_⟩
              rw [← HT.out, show 12 - fs.length = (12 - (fs ++ [x]).length) + 1 by simp; omega, recL_step HZ.out, if_neg (by rw [HE.out]; simp), drop_at s j2 hlt2, List.tail_cons, show j2 + 1 - b2 + 1 = j2 - b2 + 1 + 1 by have := HW6.out.rd.2.2.2.1; omega]
            case measure => have := HK.out; simp; omega
          · rintro e w7 ⟨n, rfl, rfl⟩
            have HE := Lib.hid he
            obtain ⟨y0, y1, y2, y3⟩ := out_cells HW6.out.out
            obtain ⟨x0, x1, x2, x3⟩ := out_cells HW6.out.res
            have xl := lt_of_heap HW6.out.res
            clear he
            go_wp2_with fail
            refine bodyPost_ret (v := .tuple #[.agg #[.int .i64 l, .slice ad2 (fs.length + 1) cp2], .pointer none]) ?_ rfl (rec_good HW6.out (by rw [← HT.out, show 12 - fs.length = (11 - fs.length) + 1 by omega, recL_step HZ.out, if_pos HE.out]) ((But.setCell _ _ _ _).trans (But.setCell _ _ _ _)))
            simp [results, Tryd.results42, go_sem, x0, x1]
end Go.Proofs.YtpiejpodaljefaaDoor
