/- Texts V24, joined: walks and laws for the versions. -/
import Derived.Deep.RegionHeld3
import Derived.Test.YtihbpggbpapcfaaGreatDoorM09
namespace Go.Proofs.YtihbpggbpapcfaaGreatDoor
open Go.RowKit

theorem row_base {w : World} {B B' : Nat} {e : TypeId} {k n : Nat} {v : Value} {xs : List Value} (h : w.ownsRow B e k v n xs) (hb : B' ≤ B) : w.ownsRow B' e k v n xs := by
  obtain ⟨h1, h2⟩ := h
  refine ⟨h1, ?_⟩
  rcases h2 with h2 | ⟨g, cap, cur, h3, h4, h5⟩
  · exact Or.inl h2
  · exact Or.inr ⟨g, cap, cur, h3, by omega, h5⟩
theorem insK_step (s : Ses) (L : List Ses) (p : Nat) : insK s L (p + 1) = if befS s (L.getD p sesD) = true then insK s L p else p + 1 := rfl
theorem getD_of {L : List Ses} {p : Nat} {t : Ses} (h : L[p]? = some t) : L.getD p sesD = t := by rw [List.getD_eq_getElem?_getD, h]; rfl

theorem new_bel (w : World) (o : Obj) : Below w.heap.size w (w.alloc o).drew := below_drw ((Below.refl _ _).alloc (Nat.le_refl _) o)
theorem KAt.one' {α : Type} {f : α → List Value} {k : Nat} (w : World) (x : α) (T : TypeId) : KAt f k (w.alloc (.cells (f x).toArray T)).drew (some ⟨w.heap.size, 0, none⟩) 1 [x] := KAt.one w x T
theorem new_tr {w w' : World} {B : Nat} (o : Obj) (h : B ≤ w.heap.size) (hb : Below B (w.alloc o).drew w') : Below B w w' := (below_drw ((Below.refl _ _).alloc h o)).trans hb
theorem tail_at {w : World} {g co q : Nat} {L : List Ses} (h : SAt w (some ⟨g, 0, none⟩) L.length L) (hq : q ≤ L.length) (hc : L.length ≤ co) : SAt w (if co = q then some ⟨g, 0, none⟩ else some ⟨g, q * 6, none⟩) (L.length - q) (L.drop q) := by
  by_cases hcq : co = q
  · rw [if_pos hcq]
    exact ⟨by rw [List.length_drop], by have := h.2.1; omega, Or.inl (by omega)⟩
  · rw [if_neg hcq]
    have := KAt.drop h hq
    rw [Nat.zero_add] at this
    exact this

set_option maxRecDepth 100000 in
set_option maxHeartbeats 4000000 in
theorem rordered_any (a : Option Addr) (n c : Nat) (xs : List Ses) (w : World) (hx : SAt w a n xs) (hn : n ≤ 1000000) (hw : ∀ t ∈ xs, wsB t.2.1 20 = true) :
    Calls Tryz.prog 104 #[.slice a n c] w (fun e w' => ∃ v, e = .returned v ∧ SRow w' w.heap.size v (ordS xs) ∧ Below w.heap.size w w') := by
  have HX := Lib.hid hx
  have hlen := hx.1
  have HW := Lib.hid hw
  clear hx hw
  go_enter Tryz.func104, Tryz.ntmps104
  go_wp2_with fail
  go_loopw [3, 4] (fun v i wr => ∃ j : Nat, j ≤ n ∧ i = .int .i64 j ∧ Hid (SRow wr w.heap.size v (ordS (xs.take j))) ∧ Hid (Below w.heap.size w wr)) (fun _ i _ => n - (intOf i).toNat)
  case atStart => exact ⟨0, by omega, rfl, Lib.hid (by simp [ordS]; exact World.ownsRow_nil _ _ _ _), Lib.hid (Below.refl _ _)⟩
  case round =>
    obtain ⟨j, hj, rfl, HR, HB⟩ := hrel
    by_cases hlt : j < n
    · obtain ⟨b1, o1, s1, rfl, g1, z1, x0, x1, x2, x3, x4, x5⟩ := SAt.cells (HX.out.below HB.out) hlt
      have hpm := (ordS_perm (xs.take j) [])
      rw [List.append_nil] at hpm
      have hJ2 : (ordS (xs.take j)).length ≤ j := by
        have h1 : (ordS (xs.take j)).length = (xs.take j).length := hpm.length_eq
        rw [h1, List.length_take]; omega
      have HJ : Hid (ordS (xs.take (j + 1)) = insS (ordS (xs.take j)) s1) := Lib.hid (ordS_take g1)
      have HWL : Hid (∀ t ∈ ordS (xs.take j), wsB t.2.1 20 = true) := Lib.hid (fun t ht => HW.out t (List.mem_of_mem_take (hpm.mem_iff.1 ht)))
      have HWS := Lib.hid (HW.out s1 (List.mem_of_getElem? g1))
      clear g1 hpm
      generalize ordS (xs.take j) = L at *
      obtain ⟨ao, co, rfl, hco, hso⟩ := HR.out.sat
      have HSO := Lib.hid hso
      clear hso
      go_wp2_with fail
      obtain ⟨wo, rfl⟩ : ∃ wo : World, wo = wr := ⟨_, rfl⟩
      go_loopw [5] (fun i wr => ∃ q : Nat, q ≤ L.length ∧ i = .int .i64 q ∧ Hid (insK s1 L q = insK s1 L L.length) ∧ Hid (Below wo.heap.size wo wr)) (fun i _ => (intOf i).toNat)
      case atStart => exact ⟨L.length, by omega, rfl, Lib.hid rfl, Lib.hid (Below.refl _ _)⟩
      case round =>
        obtain ⟨q, hq, rfl, HA, HC⟩ := hrel
        have HR2 := Lib.hid (HR.out.below HC.out)
        have x0 := below_cell9 HC.out x0
        have x1 := below_cell9 HC.out x1
        have x2 := below_cell9 HC.out x2
        have x3 := below_cell9 HC.out x3
        have x4 := below_cell9 HC.out x4
        have x5 := below_cell9 HC.out x5
        have k1 : (j : Int) < n := by omega
        have k2 : (0 : Int) ≤ j := by omega
        have k4 : (0 : Int) ≤ q := by omega
        have HBB : Hid (∀ b, (decide (0 < q) && befS s1 (L.getD (q - 1) sesD)) = b → (b = true → 0 < q ∧ insK s1 L (q - 1) = insK s1 L L.length) ∧ (b = false → insK s1 L L.length = q)) := Lib.hid (fun b hb => by
          cases q with
          | zero => simp at hb; subst hb; exact ⟨fun h => (by cases h), fun _ => HA.out.symm⟩
          | succ p =>
            have e := insK_step s1 L p
            rw [HA.out] at e
            rw [show p + 1 - 1 = p from rfl] at hb ⊢
            rw [decide_eq_true (by omega), Bool.true_and] at hb
            rw [hb] at e
            refine ⟨fun h => ⟨by omega, ?_⟩, fun h => ?_⟩
            · rw [h, if_pos rfl] at e; exact e.symm
            · rw [h, if_neg (by simp)] at e; exact e)
        generalize hbb : (decide (0 < q) && befS s1 (L.getD (q - 1) sesD)) = bb at *
        have HB0 := Lib.hid hbb
        have HB1 := Lib.hid (HBB.out bb rfl)
        clear HBB hbb
        go_upto_region 6 with fail
        go_cut [28] (fun s28 wx => s28 = .bool bb ∧ Below wr.heap.size wr wx)
        case first =>
          cases q with
          | zero =>
            have e : bb = false := by rw [← HB0.out]; simp
            subst e
            go_quiet (fail)
            go_wp2_with fail
            go_meet
            exact ⟨rfl, below_drewN _ _⟩
          | succ p =>
            obtain ⟨g, cap, he, hcap, hB, hg, hcell⟩ := SRow.open_ HR2.out (by omega)
            cases he
            obtain ⟨t1, ht1⟩ : ∃ t1, L[p]? = some t1 := ⟨_, List.getElem?_eq_getElem (by omega)⟩
            obtain ⟨y0, y1, y2, y3, y4, y5, yf⟩ := hcell p t1 ht1
            have e : bb = befS s1 t1 := by
              rw [← HB0.out, decide_eq_true (by omega), Bool.true_and, show p + 1 - 1 = p from rfl, getD_of ht1]
            have hwt := HWL.out t1 (List.mem_of_getElem? ht1)
            have SN := Lib.hid (fun W => before_any s1.1 s1.2.1 s1.2.2.1 s1.2.2.2.1 s1.2.2.2.2.1 s1.2.2.2.2.2 t1.1 t1.2.1 t1.2.2.1 t1.2.2.2.1 t1.2.2.2.2.1 t1.2.2.2.2.2 HWS.out hwt W)
            have HBF : Hid (befS s1 t1 = befB s1.1 s1.2.1 t1.1 t1.2.1) := Lib.hid rfl
            rw [← HBF.out, ← e] at SN
            clear hcell ht1 yf HBF e hwt HB0 HB1 HA
            have ec : ((p + 1 : Nat) : Int) = (p : Int) + 1 := by omega
            rw [ec]
            clear ec k4
            have q1 : (p : Int) + 1 - 1 = (p : Int) := by omega
            have q2 : IntKind.i64.wrap ((p : Int) + 1 - 1) = (p : Int) := by rw [q1]; exact IntWalk.i64_in _ (by omega)
            have q8 : IntKind.i64.wrap (p : Int) = (p : Int) := IntWalk.i64_in _ (by omega)
            have q9 : (p : Int).toNat = p := by omega
            have q5 : (0 : Int) < (p : Int) + 1 := by omega
            have q6 : (p : Int) < (L.length : Int) := by omega
            have q7 : (0 : Int) ≤ (p : Int) := by omega
            go_region_held3 (fun w' => w'.cell? ⟨b1, o1 + j * 6, none⟩ = some (.string (arr s1.1)) ∧ w'.cell? ⟨b1, o1 + j * 6 + 1, none⟩ = some (.int .i64 s1.2.1) ∧ w'.cell? ⟨b1, o1 + j * 6 + 2, none⟩ = some (.int .i64 s1.2.2.1) ∧ w'.cell? ⟨b1, o1 + j * 6 + 3, none⟩ = some (.int .i64 s1.2.2.2.1) ∧ w'.cell? ⟨b1, o1 + j * 6 + 4, none⟩ = some (.int .i64 s1.2.2.2.2.1) ∧ w'.cell? ⟨b1, o1 + j * 6 + 5, none⟩ = some (.string (arr s1.2.2.2.2.2)) ∧ w'.cell? ⟨g, p * 6, none⟩ = some (.string (arr t1.1)) ∧ w'.cell? ⟨g, p * 6 + 1, none⟩ = some (.int .i64 t1.2.1) ∧ w'.cell? ⟨g, p * 6 + 2, none⟩ = some (.int .i64 t1.2.2.1) ∧ w'.cell? ⟨g, p * 6 + 3, none⟩ = some (.int .i64 t1.2.2.2.1) ∧ w'.cell? ⟨g, p * 6 + 4, none⟩ = some (.int .i64 t1.2.2.2.2.1) ∧ w'.cell? ⟨g, p * 6 + 5, none⟩ = some (.string (arr t1.2.2.2.2.2))) (first | (with_reducible exact ⟨x0, x1, x2, x3, x4, x5, y0, y1, y2, y3, y4, y5⟩) | go_keep) ((go_at_call 107; refine (SN.out _).mono ?_; rintro e9 w9 ⟨rfl, hb9⟩; have BQ : Below wr.heap.size wr w9 := (by first | with_reducible exact hb9 | exact below3 (bel_drew0 _) hb9); have x0 := below_cell9 BQ x0; have x1 := below_cell9 BQ x1; have x2 := below_cell9 BQ x2; have x3 := below_cell9 BQ x3; have x4 := below_cell9 BQ x4; have x5 := below_cell9 BQ x5; have y0 := below_cell9 BQ y0; have y1 := below_cell9 BQ y1; have y2 := below_cell9 BQ y2; have y3 := below_cell9 BQ y3; have y4 := below_cell9 BQ y4; have y5 := below_cell9 BQ y5))
            all_goals (
              go_wp2_with fail
              go_meet
              exact ⟨rfl, by assumption⟩)
        case rest =>
          obtain ⟨rfl, hbz⟩ := hcut
          have HC2 := Lib.hid (below3 HC.out hbz)
          have HR3 := Lib.hid (HR2.out.below hbz)
          have x0 := below_cell9 hbz x0
          have x1 := below_cell9 hbz x1
          have x2 := below_cell9 hbz x2
          have x3 := below_cell9 hbz x3
          have x4 := below_cell9 hbz x4
          have x5 := below_cell9 hbz x5
          have HB2 := Lib.hid (below3 HB.out HC2.out)
          clear hbz HB0
          cases bb
          rotate_left
          · obtain ⟨h1, h2⟩ := HB1.out.1 rfl
            obtain ⟨p, rfl⟩ : ∃ p, q = p + 1 := ⟨q - 1, by omega⟩
            have H2 := Lib.hid h2
            clear h2 HB1 HA
            have ec : ((p + 1 : Nat) : Int) = (p : Int) + 1 := by omega
            rw [ec]
            clear ec
            go_wp2_with fail
            go_roundw
            case rel => exact ⟨p, by omega, by go_num, H2, HC2⟩
            case measure => simp [intOf]; try omega
          · have HK := Lib.hid (HB1.out.2 rfl)
            have HN : Hid (ordS (xs.take (j + 1)) = L.take q ++ [s1] ++ L.drop q) := Lib.hid (by rw [HJ.out]; unfold insS; rw [HK.out])
            clear HB1 HA
            have hb2 := HB2.out.size
            have hs1 := HSO.out
            have HS0 := Lib.hid (HSO.out.below HC2.out)
            obtain ⟨wv, rfl⟩ : ∃ wv : World, wv = wc := ⟨_, rfl⟩
            have KN := Lib.hid (KRow.nil sesC 6 95 wv wv.heap.size)
            rcases HR3.out.2 with ⟨he, h0⟩ | ⟨g, cap, cur, he, hB, hh, hcap, _⟩
            · have hL : L = [] := List.eq_nil_of_length_eq_zero h0
              subst hL
              cases he
              obtain rfl : q = 0 := by simpa using hq
              have KD := Lib.hid (KAt.nil sesC 6 wv)
              clear hs1 HSO HS0 h0
              rw [show ((([] : List Ses).length : Nat) : Int) = 0 from rfl]
              go_upto_region 8 with fail
              go_cut [6] (fun s6 wx => KRow sesC 6 95 wx wv.heap.size s6 [] ∧ Below wv.heap.size wv wx)
              case first =>
                go_wp2_with fail
                go_meet
                exact ⟨KN.out, Below.refl _ _⟩
              case rest =>
                have HR6 := Lib.hid hcut.1
                have HB6 := Lib.hid hcut.2
                clear hcut
                have xp0 := x0; have xp1 := x1; have xp2 := x2; have xp3 := x3; have xp4 := x4; have xp5 := x5
                have x0 := below_cell9 HB6.out x0; have x1 := below_cell9 HB6.out x1; have x2 := below_cell9 HB6.out x2; have x3 := below_cell9 HB6.out x3; have x4 := below_cell9 HB6.out x4; have x5 := below_cell9 HB6.out x5
                have hz6 := HB6.out.size
                go_wp2_with fail
                go_region_held3 (fun w' => w'.cell? ⟨b1, o1 + j * 6, none⟩ = some (.string (arr s1.1)) ∧ w'.cell? ⟨b1, o1 + j * 6 + 1, none⟩ = some (.int .i64 s1.2.1) ∧ w'.cell? ⟨b1, o1 + j * 6 + 2, none⟩ = some (.int .i64 s1.2.2.1) ∧ w'.cell? ⟨b1, o1 + j * 6 + 3, none⟩ = some (.int .i64 s1.2.2.2.1) ∧ w'.cell? ⟨b1, o1 + j * 6 + 4, none⟩ = some (.int .i64 s1.2.2.2.2.1) ∧ w'.cell? ⟨b1, o1 + j * 6 + 5, none⟩ = some (.string (arr s1.2.2.2.2.2))) (first | (with_reducible exact ⟨x0, x1, x2, x3, x4, x5⟩) | go_keep) (first | (refine step_app elemSes encSes (by rfl) (.tmp 35) (.tmp 40) (by rfl) wv.heap.size u6 [] (by rfl) (row_below HR6.out (new_bel _ _)) _ _ _ [s1] (by rfl) (KAt.one' wc s1 _) (by simp <;> omega) (by simp <;> omega) ?_; intro v7 w7 hr7 hb7 hg7 ho7; have HR7 := Lib.hid hr7; have HB7 := Lib.hid (HB6.out.trans (new_tr _ hz6 hb7)); have x0 := below_cell9 HB7.out xp0; have x1 := below_cell9 HB7.out xp1; have x2 := below_cell9 HB7.out xp2; have x3 := below_cell9 HB7.out xp3; have x4 := below_cell9 HB7.out xp4; have x5 := below_cell9 HB7.out xp5; have hz7 := HB7.out.size; clear hr7 hb7 hg7 ho7) | (refine step_app elemSes encSes (by rfl) (.tmp 41) (.tmp 44) (by rfl) wv.heap.size v7 (([]) ++ [s1]) (by rfl) HR7.out _ _ _ ([]) (by rfl) (KD.out.below HB7.out) (by simp <;> omega) hz7 ?_; intro v8 w8 hr8 hb8 hg8 ho8; have HR8 := Lib.hid hr8; have HB8 := Lib.hid (HB7.out.trans hb8); have x0 := below_cell9 HB8.out xp0; have x1 := below_cell9 HB8.out xp1; have x2 := below_cell9 HB8.out xp2; have x3 := below_cell9 HB8.out xp3; have x4 := below_cell9 HB8.out xp4; have x5 := below_cell9 HB8.out xp5; clear hr8 hb8 hg8 ho8))
                have HRF : Hid (SRow _ w.heap.size _ (ordS (xs.take (j + 1)))) := Lib.hid (by rw [HN.out]; exact row_base HR8.out hb2)
                have HBF := Lib.hid (HB2.out.trans (HB8.out.mono hb2))
                go_wp2_with fail
                go_roundw
                case rel => exact ⟨j + 1, by omega, by go_num, HRF, HBF⟩
                case measure => simp [intOf]; omega
            · cases he
              have KT := Lib.hid (HS0.out.take (i := q) hq)
              have KD := Lib.hid (tail_at HS0.out hq hco)
              clear hs1 HSO
              go_upto_region 8 with fail
              go_cut [6] (fun s6 wx => KRow sesC 6 95 wx wv.heap.size s6 (L.take q) ∧ Below wv.heap.size wv wx)
              case first =>
                go_wp2_with (at_builtin; refine wpList_app elemSes encSes rfl _ _ rfl wv.heap.size _ [] rfl KN.out _ _ _ (L.take q) rfl KT.out (by simp <;> omega) (Nat.le_refl _) ?_)
                intro v6 w6 hr6 hb6 hg6 ho6
                have HR6 := Lib.hid hr6
                have HB6 := Lib.hid hb6
                clear hr6 hb6 hg6 ho6
                go_wp2_with fail
                go_meet
                exact ⟨HR6.out, HB6.out⟩
              case rest =>
                have HR6 := Lib.hid hcut.1
                have HB6 := Lib.hid hcut.2
                clear hcut
                have xp0 := x0; have xp1 := x1; have xp2 := x2; have xp3 := x3; have xp4 := x4; have xp5 := x5
                have x0 := below_cell9 HB6.out x0; have x1 := below_cell9 HB6.out x1; have x2 := below_cell9 HB6.out x2; have x3 := below_cell9 HB6.out x3; have x4 := below_cell9 HB6.out x4; have x5 := below_cell9 HB6.out x5
                have hz6 := HB6.out.size
                go_wp2_with fail
                go_region_held3 (fun w' => w'.cell? ⟨b1, o1 + j * 6, none⟩ = some (.string (arr s1.1)) ∧ w'.cell? ⟨b1, o1 + j * 6 + 1, none⟩ = some (.int .i64 s1.2.1) ∧ w'.cell? ⟨b1, o1 + j * 6 + 2, none⟩ = some (.int .i64 s1.2.2.1) ∧ w'.cell? ⟨b1, o1 + j * 6 + 3, none⟩ = some (.int .i64 s1.2.2.2.1) ∧ w'.cell? ⟨b1, o1 + j * 6 + 4, none⟩ = some (.int .i64 s1.2.2.2.2.1) ∧ w'.cell? ⟨b1, o1 + j * 6 + 5, none⟩ = some (.string (arr s1.2.2.2.2.2))) (first | (with_reducible exact ⟨x0, x1, x2, x3, x4, x5⟩) | go_keep) (first | (refine step_app elemSes encSes (by rfl) (.tmp 35) (.tmp 40) (by rfl) wv.heap.size u6 (L.take q) (by rfl) (row_below HR6.out (new_bel _ _)) _ _ _ [s1] (by rfl) (KAt.one' wc s1 _) (by simp <;> omega) (by simp <;> omega) ?_; intro v7 w7 hr7 hb7 hg7 ho7; have HR7 := Lib.hid hr7; have HB7 := Lib.hid (HB6.out.trans (new_tr _ hz6 hb7)); have x0 := below_cell9 HB7.out xp0; have x1 := below_cell9 HB7.out xp1; have x2 := below_cell9 HB7.out xp2; have x3 := below_cell9 HB7.out xp3; have x4 := below_cell9 HB7.out xp4; have x5 := below_cell9 HB7.out xp5; have hz7 := HB7.out.size; clear hr7 hb7 hg7 ho7) | (refine step_app elemSes encSes (by rfl) (.tmp 41) (.tmp 44) (by rfl) wv.heap.size v7 ((L.take q) ++ [s1]) (by rfl) HR7.out _ _ _ (L.drop q) (by rfl) (KD.out.below HB7.out) (by simp <;> omega) hz7 ?_; intro v8 w8 hr8 hb8 hg8 ho8; have HR8 := Lib.hid hr8; have HB8 := Lib.hid (HB7.out.trans hb8); have x0 := below_cell9 HB8.out xp0; have x1 := below_cell9 HB8.out xp1; have x2 := below_cell9 HB8.out xp2; have x3 := below_cell9 HB8.out xp3; have x4 := below_cell9 HB8.out xp4; have x5 := below_cell9 HB8.out xp5; clear hr8 hb8 hg8 ho8))
                have HRF : Hid (SRow _ w.heap.size _ (ordS (xs.take (j + 1)))) := Lib.hid (by rw [HN.out]; exact row_base HR8.out hb2)
                have HBF := Lib.hid (HB2.out.trans (HB8.out.mono hb2))
                go_wp2_with fail
                go_roundw
                case rel => exact ⟨j + 1, by omega, by go_num, HRF, HBF⟩
                case measure => simp [intOf]; omega
    · obtain rfl : j = n := by omega
      have HF : Hid (ordS (xs.take j) = ordS xs) := Lib.hid (by rw [List.take_of_length_le (by omega)])
      go_wp2_with fail
      go_ret
      exact ⟨_, rfl, by rw [← HF.out]; exact HR.out, HB.out⟩
end Go.Proofs.YtihbpggbpapcfaaGreatDoor
