import Derived.Test.YtmnoiknpamfmoaaDoorC20
import Derived.Test.YtmnoiknpamfmoaaDoorC15
namespace Go.Proofs.YtmnoiknpamfmoaaDoor
open Go Go.ChangeShapes Go.WideShapes Go.ChangeAt Go.RowKit Go.WideMaps Go.WideElems Go.Joins CS

theorem bulk_one {H : Type} (d : DataW H) : 1 ≤ Rows.uptoBulk d := by
  cases d with
  | lit l => cases l <;> simp [Rows.uptoBulk]
  | nil => simp [Rows.uptoBulk]
  | ptr d => simp [Rows.uptoBulk]
  | slice elems spare => simp [Rows.uptoBulk]
  | agg parts => simp [Rows.uptoBulk]
  | iface t d => simp [Rows.uptoBulk]
  | map entries => simp [Rows.uptoBulk]
  | held h => simp [Rows.uptoBulk]
theorem bulk_len {H : Type} (l : List (DataW H)) : l.length ≤ Rows.uptoBulkAll l := by
  induction l with
  | nil => simp [Rows.uptoBulkAll]
  | cons x r ih =>
    have := bulk_one x
    simp only [Rows.uptoBulkAll, List.length_cons]
    omega
theorem bulk_small {H : Type} {ds : List (DataW H)} (h : Rows.uptoSmall H ds = true) : Rows.uptoBulkAll ds ≤ 1048576 := of_decide_eq_true h

theorem bytes_small {H : Type} {d : DataW H} {r : List (DataW H)} {l : L8} (h : Rows.uptoSmall H (d :: r) = true) (hd : d = .nil ∧ l = [] ∨ ∃ elems spare, d = .slice elems spare ∧ elems.length = l.length) : l.length ≤ 1048576 := by
  have h1 := bulk_small h
  simp only [Rows.uptoBulkAll] at h1
  rcases hd with ⟨_, rfl⟩ | ⟨elems, spare, rfl, hl⟩
  · simp
  · have h2 := bulk_len elems
    simp only [Rows.uptoBulk] at h1
    omega
theorem text_small {H : Type} {s : ByteArray} {r : List (DataW H)} (h : Rows.uptoSmall H (.lit (.string s.data.toList) :: r) = true) : s.data.toList.length ≤ 1048576 := by
  have h1 := bulk_small h
  simp only [Rows.uptoBulkAll, Rows.uptoBulk] at h1
  omega

end Go.Proofs.YtmnoiknpamfmoaaDoor
