import Derived.Test.YtllcoocllkaanaaDoorZ19
namespace Go.Proofs.YtllcoocllkaanaaDoor
open Go.RowKit

theorem zo_one {w wF : World} {p g : Nat} {s : ByteArray} {off x y : Int} (hs : s.size ≤ 6) (hpg : p < g) (c0 : wF.cell? ⟨g, 0, none⟩ = some (.int .i64 x)) (c1 : wF.cell? ⟨g, 1, none⟩ = some (.int .i64 y)) (hd : DiceAt wF p) (hb : But p w wF) :
    SomeZ p w (.returned (.agg #[.string s, .int .i64 off, .slice (some ⟨g, 0, none⟩) 1 1])) wF := by
  refine ⟨s, off, _, 1, [(x, y)], rfl, hs, by simp, Or.inr ⟨g, 0, rfl, hpg, fun j hj => ?_⟩, hd, hb⟩
  obtain rfl : j = 0 := by simpa using hj
  exact ⟨c0, c1⟩
theorem hapA (cap : Nat) (a : Option Addr) : ∀ W, (Builtin.append_ #[22, 22] 22 #[.slice none 0 0, .slice a 0 cap]).run Tryd.prog W = .ok (.slice none 0 0) W := fun W => by
  cases a <;> simp [Builtin.append_, Builtin.lenOf, Builtin.firstCells, go_sem]
def tab4 (a b c d r : Int) : Int := if r = 0 then a else if r = 1 then b else if r = 2 then c else d
theorem tab4_el (a b c d r : Int) (r0 : 0 ≤ r) (r1 : r < 4) (h : r.toNat < ([.int .i64 a, .int .i64 b, .int .i64 c, .int .i64 d] : List Value).length) : ([.int .i64 a, .int .i64 b, .int .i64 c, .int .i64 d] : List Value)[r.toNat]'h = .int .i64 (tab4 a b c d r) := by
  rcases (show r = 0 ∨ r = 1 ∨ r = 2 ∨ r = 3 from by omega) with rfl | rfl | rfl | rfl <;> rfl
theorem tab4_cell (a b c d r : Int) (T : TypeId) (r0 : 0 ≤ r) (r1 : r < 4) (W : World) : (W.alloc (.cells #[.int .i64 a, .int .i64 b, .int .i64 c, .int .i64 d] T)).cell? ⟨W.heap.size, r.toNat, none⟩ = some (.int .i64 (tab4 a b c d r)) := by
  rw [World.cell?_alloc_at _ _ _ _ rfl]
  rcases (show r = 0 ∨ r = 1 ∨ r = 2 ∨ r = 3 from by omega) with rfl | rfl | rfl | rfl <;> rfl
theorem tab4_but {p : Nat} {a b c d r : Int} {T : TypeId} {W w1 : World} (h : But p (W.alloc (.cells #[.int .i64 a, .int .i64 b, .int .i64 c, .int .i64 d] T)) w1) (hp : p < W.heap.size) (r0 : 0 ≤ r) (r1 : r < 4) : w1.cell? ⟨W.heap.size, r.toNat, none⟩ = some (.int .i64 (tab4 a b c d r)) := by
  rw [h.cell (by simp) (by omega)]
  exact tab4_cell a b c d r T r0 r1 W
theorem But.undrew {p : Nat} {w w' : World} (h : But p w.drew w') : But p w w' := (But.refl p w).drew.trans h

set_option maxRecDepth 100000 in
set_option maxHeartbeats 4000000 in
theorem odd_nilN (p : Nat) (s : ByteArray) (off : Int)  (cap : Nat) (w : World) (hs : s.size ≤ 6) (o1 : -840 ≤ off) (o2 : off ≤ 840) (hD : DiceAt w p) :
    Calls Tryd.prog 33 #[.pointer (some ⟨p, 0, none⟩), .agg #[.string s, .int .i64 off, .slice none 0 cap]] w (SomeZ p w) := by
  have hp := hD.lt
  have hW0 := zo_start s off (.slice none 0 0) hD
  have HW0 := Lib.hid hW0
  have z0 := lt_of_heap hW0.h2
  have z00 := lt_of_heap hW0.h3
  have hap := hapA cap none
  clear hD hW0
  go_enter Tryd.func33, Tryd.ntmps33
  go_wp2_with fail
  clear hap
  generalize hw0 : (w.alloc (.cells #[.string s, .int .i64 off, .slice none 0 0] 24)).alloc (.cells #[.string ⟨#[]⟩, .int .i64 0, .slice none 0 0] 24) = w0 at *
  clear hw0
  obtain ⟨⟨c0, c1, c2⟩, g0, g1, g2⟩ := cells3_of HW0.out.h3
  have t1 : IntKind.i64.wrap (off + 60) = off + 60 := IntWalk.i64_in _ (by omega)
  have zp : w0.heap.size ≠ p := by omega
  go_region_with (go_at_call 34; refine next_go p 4 _ (by decide) (by decide) ?_ ?_; (repeat (first | exact HW0.out.dice | apply DiceAt.alloc | apply DiceAt.drew)); intro r w1 r0 r1 hd1 hb1 hl1 hs1 hn1 hn2 hn3 hc1 hf1 hz1; have hg1 := tab4_el (-1) 0 52595999 52596000 r r0 r1; (try have hg2 := tab4_but hb1.undrew (by omega) r0 r1); have BN : But p w0 w1 := (by first | exact hb1 | exact hb1.undrew | exact ((But.refl p w0).alloc _).trans hb1 | exact ((But.refl p w0).alloc _).trans hb1.undrew); have HW1 := Lib.hid (HW0.out.next hp hd1 BN); obtain ⟨⟨k0, k1, k2⟩, f0, f1, f2⟩ := cells3_of HW1.out.h3; obtain ⟨⟨e0, e1, e2⟩, m0, m1, m2⟩ := cells3_of HW1.out.h2; have zl := lt_of_heap HW1.out.h2; have zl0 := lt_of_heap HW1.out.h3; clear hc1 hf1 hz1 hb1)
  all_goals (
    go_wp2_with fail
    first
      | (refine bodyPost_ret (v := .agg #[.string s, .int .i64 off, .slice (some ⟨w1.heap.size, 0, none⟩) 1 1]) ?res rfl (zo_one (x := tab4 (-1) 0 52595999 52596000 r) (y := off + 60) hs ?lt ?c0 ?c1 ?hd ?hb); case res => (simp [results, Tryd.results33, go_sem, e0, e1, e2, zl, zl0]; done))
      | (refine bodyPost_ret (v := .agg #[.string s, .int .i64 off, .slice (some ⟨w1.heap.size + 1, 0, none⟩) 1 1]) ?res rfl (zo_one (x := tab4 (-1) 0 52595999 52596000 r) (y := off + 60) hs ?lt ?c0 ?c1 ?hd ?hb); case res => (simp [results, Tryd.results33, go_sem, e0, e1, e2, zl, zl0]; done))
    case lt => omega
    case c0 => first | (go_simp; done) | (simp [k0, e0, zl, zl0]; done)
    case c1 => first | (go_simp; done) | (simp [k0, e0, zl, zl0]; done)
    case hd => repeat (first | (with_reducible exact HW1.out.dice) | (with_reducible apply DiceAt.alloc) | (with_reducible refine DiceAt.setNe ?_ (by omega) _))
    case hb => repeat (first | (with_reducible exact HW1.out.but) | (with_reducible apply But.alloc) | (with_reducible refine But.setNew ?_ (by omega) _)))
set_option maxRecDepth 100000 in
set_option maxHeartbeats 4000000 in
theorem odd_nilS (p : Nat) (s : ByteArray) (off : Int) (x : Addr) (cap : Nat) (w : World) (hs : s.size ≤ 6) (o1 : -840 ≤ off) (o2 : off ≤ 840) (hD : DiceAt w p) :
    Calls Tryd.prog 33 #[.pointer (some ⟨p, 0, none⟩), .agg #[.string s, .int .i64 off, .slice (some x) 0 cap]] w (SomeZ p w) := by
  have hp := hD.lt
  have hW0 := zo_start s off (.slice none 0 0) hD
  have HW0 := Lib.hid hW0
  have z0 := lt_of_heap hW0.h2
  have z00 := lt_of_heap hW0.h3
  have hap := hapA cap (some x)
  clear hD hW0
  go_enter Tryd.func33, Tryd.ntmps33
  go_wp2_with fail
  clear hap
  generalize hw0 : (w.alloc (.cells #[.string s, .int .i64 off, .slice none 0 0] 24)).alloc (.cells #[.string ⟨#[]⟩, .int .i64 0, .slice none 0 0] 24) = w0 at *
  clear hw0
  obtain ⟨⟨c0, c1, c2⟩, g0, g1, g2⟩ := cells3_of HW0.out.h3
  have t1 : IntKind.i64.wrap (off + 60) = off + 60 := IntWalk.i64_in _ (by omega)
  have zp : w0.heap.size ≠ p := by omega
  go_region_with (go_at_call 34; refine next_go p 4 _ (by decide) (by decide) ?_ ?_; (repeat (first | exact HW0.out.dice | apply DiceAt.alloc | apply DiceAt.drew)); intro r w1 r0 r1 hd1 hb1 hl1 hs1 hn1 hn2 hn3 hc1 hf1 hz1; have hg1 := tab4_el (-1) 0 52595999 52596000 r r0 r1; (try have hg2 := tab4_but hb1.undrew (by omega) r0 r1); have BN : But p w0 w1 := (by first | exact hb1 | exact hb1.undrew | exact ((But.refl p w0).alloc _).trans hb1 | exact ((But.refl p w0).alloc _).trans hb1.undrew); have HW1 := Lib.hid (HW0.out.next hp hd1 BN); obtain ⟨⟨k0, k1, k2⟩, f0, f1, f2⟩ := cells3_of HW1.out.h3; obtain ⟨⟨e0, e1, e2⟩, m0, m1, m2⟩ := cells3_of HW1.out.h2; have zl := lt_of_heap HW1.out.h2; have zl0 := lt_of_heap HW1.out.h3; clear hc1 hf1 hz1 hb1)
  all_goals (
    go_wp2_with fail
    first
      | (refine bodyPost_ret (v := .agg #[.string s, .int .i64 off, .slice (some ⟨w1.heap.size, 0, none⟩) 1 1]) ?res rfl (zo_one (x := tab4 (-1) 0 52595999 52596000 r) (y := off + 60) hs ?lt ?c0 ?c1 ?hd ?hb); case res => (simp [results, Tryd.results33, go_sem, e0, e1, e2, zl, zl0]; done))
      | (refine bodyPost_ret (v := .agg #[.string s, .int .i64 off, .slice (some ⟨w1.heap.size + 1, 0, none⟩) 1 1]) ?res rfl (zo_one (x := tab4 (-1) 0 52595999 52596000 r) (y := off + 60) hs ?lt ?c0 ?c1 ?hd ?hb); case res => (simp [results, Tryd.results33, go_sem, e0, e1, e2, zl, zl0]; done))
    case lt => omega
    case c0 => first | (go_simp; done) | (simp [k0, e0, zl, zl0]; done)
    case c1 => first | (go_simp; done) | (simp [k0, e0, zl, zl0]; done)
    case hd => repeat (first | (with_reducible exact HW1.out.dice) | (with_reducible apply DiceAt.alloc) | (with_reducible refine DiceAt.setNe ?_ (by omega) _))
    case hb => repeat (first | (with_reducible exact HW1.out.but) | (with_reducible apply But.alloc) | (with_reducible refine But.setNew ?_ (by omega) _)))
theorem odd_nil (p : Nat) (s : ByteArray) (off : Int) (a : Option Addr) (cap : Nat) (w : World) (hs : s.size ≤ 6) (o1 : -840 ≤ off) (o2 : off ≤ 840) (hD : DiceAt w p) :
    Calls Tryd.prog 33 #[.pointer (some ⟨p, 0, none⟩), .agg #[.string s, .int .i64 off, .slice a 0 cap]] w (SomeZ p w) := by
  cases a with
  | none => exact odd_nilN p s off cap w hs o1 o2 hD
  | some x => exact odd_nilS p s off x cap w hs o1 o2 hD
end Go.Proofs.YtllcoocllkaanaaDoor
