/- What the law's condition gives: the tables and the errors that lie in memory; a list of numbers that came in. -/
import Derived.KernelRfl
import Derived.Stop.LaidErr
import Derived.Lib.LaidTab
import Derived.Shelf.Vars
import Derived.Test.YtcifdllbnbhcdaaGreatDoorFrame
import Derived.Test.YtcifdllbnbhcdaaGreatDoorRows
import Derived.Test.YtcifdllbnbhcdaaGreatDoorCards
import Derived.Test.YtcifdllbnbhcdaaGreatDoorMV11
set_option linter.unusedSimpArgs false
set_option linter.unusedVariables false
namespace Go.Proofs.YtcifdllbnbhcdaaGreatDoor
open Go Go.ChangeShapes Go.WideShapes Go.ChangeAt Go.RowKit Go.WideMaps Go.WideElems Go.Joins

theorem g64 : Tryz.prog.globalNamed "math/bits.deBruijn64tab" = some 2 := by kernel_rfl
theorem g64Type : (Tryz.prog.globals[2]?).map (·.type) = some 463 := by kernel_rfl
theorem gPow : Tryz.prog.globalNamed "internal/strconv.uint64pow10" = some 0 := by kernel_rfl
theorem gPowType : (Tryz.prog.globals[0]?).map (·.type) = some 335 := by kernel_rfl
theorem gRng : Tryz.prog.globalNamed "strconv.ErrRange" = some 6 := by kernel_rfl
theorem gRngType : (Tryz.prog.globals[6]?).map (·.type) = some 491 := by kernel_rfl
theorem gSyn : Tryz.prog.globalNamed "strconv.ErrSyntax" = some 5 := by kernel_rfl
theorem gSynType : (Tryz.prog.globals[5]?).map (·.type) = some 491 := by kernel_rfl
theorem uU64 : Tryz.prog.underlying 177 = some (.int .u64) := by kernel_rfl
theorem uU8 : Tryz.prog.underlying 5 = some (.int .u8) := by kernel_rfl
theorem cU64 : Tryz.prog.cellsOf 177 = 1 := by kernel_rfl
theorem cU8 : Tryz.prog.cellsOf 5 = 1 := by kernel_rfl
theorem cPow : Tryz.prog.cellsOf 335 = 20 := by kernel_rfl
theorem c64 : Tryz.prog.cellsOf 463 = 64 := by kernel_rfl
theorem cErr : Tryz.prog.cellsOf 558 = 1 := by kernel_rfl
theorem cStr : Tryz.prog.cellsOf 9 = 1 := by kernel_rfl
theorem starErr : "*" ++ "errors.errorString" = "*errors.errorString" := by decide
theorem rowErr (u : TypeId) (h : Tryz.prog.typeName? 3 u = some "*errors.errorString") : u = 556 :=
  typeName_ptr_named (nm := "errors.errorString") (by rw [starErr]; kernel_rfl) (by kernel_rfl) (by decide) u (by rw [starErr]; exact h)
theorem pow_data : (Rows.laid_internal_strconv_uint64pow10 : DataW Unit) = Lib.tabData .u64 Lib.pow10Tab := by kernel_rfl
theorem tz_data : (Rows.laid_math_bits_deBruijn64tab : DataW Unit) = Lib.tabData .u8 (Lib.deBruijn64tab.map fun n : Nat => (n : Int)) := by kernel_rfl

theorem max_of {W : World} (h : W.ShapedOpen Tryz.prog) : ∃ m : Int, W.cell? ⟨4, 0, none⟩ = some (.int .i64 m) := Go.Proofs.cell_of_shapedOpen_int (g := 4) (zero := #[.int .i64 0]) (t := 3) h (of_decide_eq_true (by kernel_rfl)) (by kernel_rfl) rfl (by kernel_rfl) (by kernel_rfl) Tryz.underlying3
theorem env_of {W : World} {a d : String × DataW Unit} {r : List (String × DataW Unit)} (h : laidMet Tryz.prog (a :: ("math/bits.deBruijn64tab", Rows.laid_math_bits_deBruijn64tab) :: ("internal/strconv.uint64pow10", Rows.laid_internal_strconv_uint64pow10) :: d :: ("strconv.ErrRange", Rows.laid_strconv_ErrRange) :: ("strconv.ErrSyntax", Rows.laid_strconv_ErrSyntax) :: r) W) (hsh : W.ShapedOpen Tryz.prog) : Env W := by
  have h1 := laidMet.tail h
  have h2 := laidMet.tail h1
  have h4 := laidMet.tail (laidMet.tail h2)
  have h5 := laidMet.tail h4
  rw [tz_data] at h1
  rw [pow_data] at h2
  have t := Lib.tabIs_of_head g64 g64Type Tryz.underlying463 uU8 cU8 c64 h1
  obtain ⟨a0, s0, hv0, _, _, _⟩ := laid_sentinel h4 gRng gRngType Tryz.underlying491 rowErr Tryz.underlying556 Tryz.underlying558 rfl rfl Tryz.underlying9 cErr cStr
  obtain ⟨a1, s1, hv1, _, _, _⟩ := laid_sentinel h5 gSyn gSynType Tryz.underlying491 rowErr Tryz.underlying556 Tryz.underlying558 rfl rfl Tryz.underlying9 cErr cStr
  refine ⟨fun i hi => ?_, Lib.tabIs_of_head gPow gPowType Tryz.underlying335 uU64 cU64 cPow h2, max_of hsh, ⟨_, by simpa using World.var?_cell gSyn hv1 0, Or.inr ⟨_, _, rfl⟩⟩, ⟨_, by simpa using World.var?_cell gRng hv0 0, Or.inr ⟨_, _, rfl⟩⟩⟩
  have := t.cell g64 i (by rw [List.length_map]; exact hi)
  rw [this]
  rw [List.getD_eq_getElem?_getD, List.getD_eq_getElem?_getD, List.getElem?_map]
  cases hx : Lib.deBruijn64tab[i]? <;> rfl

theorem open_ints_at {H : Type} {enc : TypeId × Value → H} {P : Program} {W : World} {base : Nat} {held : Bool} {fuel : Nat} {t e : TypeId} {v : Value} {y : DataW H × List MemPlace}
    (ht : P.underlying t = some (.slice e)) (he : P.underlying e = some (.int .i64)) (hc : P.cellsOf e = 1) (h : DataW.trod enc P W base (fun _ => true) held fuel t [v] = some y) :
    ∃ a n c hs, v = .slice a n c ∧ IntsAt W a n hs ∧ (∀ x ∈ hs, -9223372036854775808 ≤ x ∧ x ≤ 9223372036854775807) := by
  rcases open_ints ht he hc h with ⟨hcs, _⟩ | ⟨a, len, cap, zs, hcs, _, hl, hm, hz, _, hcell, hwz⟩
  · simp only [List.cons.injEq, and_true] at hcs
    exact ⟨none, 0, 0, [], hcs, ⟨rfl, by omega, Or.inl rfl⟩, fun x hx => by cases hx⟩
  · simp only [List.cons.injEq, and_true] at hcs
    simp only [if_true] at hz
    refine ⟨some a, len, cap, zs.take len, hcs, ⟨by simp; omega, by unfold maxLen at hm; omega, ?_⟩, fun x hx => bounds_i64 (hwz x (List.mem_of_mem_take hx))⟩
    by_cases h0 : len = 0
    · exact Or.inl h0
    · obtain ⟨b, off, rfl, hcl⟩ := ints_at hcell (by omega)
      refine Or.inr ⟨b, off, rfl, fun i hi => ?_⟩
      rw [hcl i (by omega)]
      simp [hi]
end Go.Proofs.YtcifdllbnbhcdaaGreatDoor
namespace Go.Proofs.YtcifdllbnbhcdaaGreatDoor
open Go
theorem still : Tryz.prog.funcs.any Func.goes = false := by kernel_rfl
theorem goes_of (P : Program) (h : P.funcs.any Func.goes = false) (f : FuncId) : P.goes f = false := by
  have h1 : ∀ g : Nat, (P.funcs[g]?).any Func.goes = false := by
    intro g
    cases e : P.funcs[g]? with
    | none => rfl
    | some x =>
      have hm : x ∈ P.funcs := Array.mem_of_getElem? e
      rw [Array.any_eq_false'] at h
      simpa using h x hm
  unfold Program.goes
  rw [h, Bool.and_false, Bool.or_false, List.any_eq_false]
  intro g _
  rw [h1 g]; decide
theorem goesBy_of (P : Program) (h : P.funcs.any Func.goes = false) (c : OpenClaim) (hs : c.start = .entering) : c.goesBy P = false := by
  unfold OpenClaim.goesBy Program.goesAt Program.goesFrom
  rw [hs]
  cases P.funcNamed c.func with
  | none => rfl
  | some f => simp [goes_of P h f]
end Go.Proofs.YtcifdllbnbhcdaaGreatDoor
