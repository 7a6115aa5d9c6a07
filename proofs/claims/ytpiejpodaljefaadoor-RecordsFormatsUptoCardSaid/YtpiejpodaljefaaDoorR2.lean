import Derived.Test.YtpiejpodaljefaaDoorR1
import Derived.Test.YtpiejpodaljefaaDoorShelf
namespace Go.Proofs.YtpiejpodaljefaaDoor
open Go.RowKit

theorem toList_data (s : ByteArray) : s.toList = s.data.toList := ByteArray.toList_eq s
theorem ext_list (s : ByteArray) (i : Nat) : (s.extract i s.size).data.toList = s.data.toList.drop i := by
  rw [ByteArray.data_extract, Array.toList_extract, List.extract_eq_take_drop]
  exact List.take_of_length_le (by rw [List.length_drop]; exact Nat.le_refl _)
theorem drop_at (s : ByteArray) (i : Nat) (h : i < s.size) : s.data.toList.drop i = s[i] :: s.data.toList.drop (i + 1) := by
  have h' : i < s.data.toList.length := h
  rw [List.drop_eq_getElem_cons h']
  rfl
theorem drop_end (s : ByteArray) (i : Nat) (h : s.size ≤ i) : s.data.toList.drop i = [] := List.drop_eq_nil_of_le h

/-- what lineEnd hands back -/
def LEnd (v : Bool) (w : World) (e : Ending) (w' : World) : Prop := ∃ n : Int, e = .returned (.tuple #[.int .i64 n, .bool v]) ∧ w = w'

theorem lineEnd_x (x : ByteArray) (p : Nat) (s : ByteArray) (i l b : Nat) (d q : UInt8) (w : World) (hR : RdAt w p s i l b d q) (hx : s.extract i s.size = x) (hne : x.toList.isEmpty = false) (_t1 : 0 < s.size - i) (t2 : 0 < x.size) (b1 b2 b3 : Bool)
    (h1 : ((x[0].toNat : Int) == 10) = b1) (h2 : (x.toList == [13]) = b2) (h3 : Lib.hasPrefix x.data.toList [13, 10] = b3) :
    Calls Tryd.prog 40 #[.pointer (some ⟨p, 0, none⟩), .int .i64 i] w (LEnd (b1 || b2 || b3) w) := by
  obtain ⟨⟨c0, c1, c2, c3, c4, c5⟩, f0, f1, f2⟩ := hR.cells
  obtain ⟨_, hs, hi, hb, hl⟩ := hR
  have hxs : x.size = s.size - i := by rw [← hx]; simp
  have P := Tryd.strings_HasPrefix x ⟨#[13, 10]⟩ w
  change Calls _ _ _ _ (fun e w' => e = .returned (.bool (Lib.hasPrefix x.data.toList [13, 10])) ∧ w' = w) at P
  rw [h3] at P
  have HP := Lib.hid (same_flip (P.mono fun _ _ ⟨a, b⟩ => (⟨a, b.symm⟩ : _ ∧ w = _)))
  have HX := Lib.hid hxs
  clear P hxs
  cases b1 <;> cases b2 <;> cases b3 <;> (
    go_enter Tryd.func40, Tryd.ntmps40
    go_wp2_with (go_at_call 48; refine HP.out.mono ?_; rintro e w' ⟨rfl, rfl⟩)
    go_ret2
    exact ⟨_, rfl, rfl⟩)

theorem lineEnd_0 (p : Nat) (s : ByteArray) (l b : Nat) (d q : UInt8) (w : World) (hR : RdAt w p s s.size l b d q) (_hx : (s.extract s.size s.size).toList.isEmpty = true) :
    Calls Tryd.prog 40 #[.pointer (some ⟨p, 0, none⟩), .int .i64 s.size] w (LEnd true w) := by
  obtain ⟨⟨c0, c1, c2, c3, c4, c5⟩, f0, f1, f2⟩ := hR.cells
  obtain ⟨_, hs, hi, hb, hl⟩ := hR
  go_enter Tryd.func40, Tryd.ntmps40
  go_wp2
  go_ret2
  exact ⟨_, rfl, rfl⟩
theorem beq_cast (a : UInt8) (n : Nat) (hn : n < 256) : ((a.toNat : Int) == (n : Int)) = (a == UInt8.ofNat n) := by
  rw [Bool.eq_iff_iff]
  simp only [beq_iff_eq]
  constructor
  · intro h
    apply UInt8.toNat_inj.1
    rw [UInt8.toNat_ofNat_of_lt' (by exact hn)]
    omega
  · intro h
    rw [h, UInt8.toNat_ofNat_of_lt' (by exact hn)]
theorem endL_one (a : UInt8) : ((a == 10) || ([a] == [13]) || Lib.hasPrefix [a] [13, 10]) = endL [a] := by
  unfold Lib.hasPrefix
  rw [Bool.eq_iff_iff]
  simp [endL, List.isPrefixOf]
theorem endL_two (a c : UInt8) (r : L8) : ((a == 10) || ((a :: c :: r) == [13]) || Lib.hasPrefix (a :: c :: r) [13, 10]) = endL (a :: c :: r) := by
  unfold Lib.hasPrefix
  rw [Bool.eq_iff_iff]
  simp [endL, List.isPrefixOf, @eq_comm _ (13 : UInt8), @eq_comm _ (10 : UInt8)]
theorem ext_head (s : ByteArray) (i : Nat) (h : i < s.size) (h2 : 0 < (s.extract i s.size).size) : (s.extract i s.size)[0] = s[i] := by
  have e := ext_list s i
  have h3 : 0 < (s.extract i s.size).data.toList.length := h2
  have e2 : (s.extract i s.size)[0] = (s.extract i s.size).data.toList[0] := rfl
  rw [e2]
  simp only [e, List.getElem_drop]
  rfl
theorem lineEnd_any (p : Nat) (s : ByteArray) (i l b : Nat) (d q : UInt8) (w : World) (hR : RdAt w p s i l b d q) :
    Calls Tryd.prog 40 #[.pointer (some ⟨p, 0, none⟩), .int .i64 i] w (LEnd (endL (s.data.toList.drop i)) w) := by
  have hi := hR.2.2.1
  by_cases h : i < s.size
  · have hd := drop_at s i h
    have he := ext_list s i
    have h2 : 0 < (s.extract i s.size).size := by simp; omega
    have h0 := ext_head s i h h2
    have hl : (s.extract i s.size).toList = s[i] :: s.data.toList.drop (i + 1) := by rw [toList_data, he, hd]
    have C := lineEnd_x (s.extract i s.size) p s i l b d q w hR rfl (by rw [hl]; rfl) (by omega) h2 _ _ _ rfl rfl rfl
    have e : ((((s.extract i s.size)[0].toNat : Int) == 10) || ((s.extract i s.size).toList == [13]) || Lib.hasPrefix (s.extract i s.size).data.toList [13, 10]) = endL (s.data.toList.drop i) := by
      rw [h0, show (10 : Int) = ((10 : Nat) : Int) from rfl, beq_cast _ 10 (by decide), hl, he, hd]
      cases s.data.toList.drop (i + 1) with
      | nil => exact endL_one _
      | cons c r => exact endL_two _ _ _
    rw [e] at C
    exact C
  · obtain rfl : i = s.size := by omega
    rw [drop_end s _ (Nat.le_refl _)]
    exact lineEnd_0 p s l b d q w hR (by rw [toList_data, ext_list, drop_end s _ (Nat.le_refl _)]; rfl)
end Go.Proofs.YtpiejpodaljefaaDoor
