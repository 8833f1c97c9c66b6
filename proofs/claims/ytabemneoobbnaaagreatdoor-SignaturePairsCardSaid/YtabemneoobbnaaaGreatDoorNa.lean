/- Contracts of the reference's checks of tables, at valid ones. -/
import Derived.Test.YtabemneoobbnaaaGreatDoorMc
import Derived.Test.YtabemneoobbnaaaGreatDoorVa
import Derived.Test.YtabemneoobbnaaaGreatDoorGa
namespace Go.Proofs.YtabemneoobbnaaaGreatDoor
open Go.RowKit

/-- a valid table -/
def TabV (t : Ta) : Prop := 0 ≤ t.id ∧ t.id ≤ 1073741824 ∧ TextOk 1024 t.name ∧ t.cols.length ≤ 64 ∧ ∃ n, n ≤ 4096 ∧ ∀ x ∈ t.cols, TextOk 1024 x.name ∧ x.cells.length = n ∧ ∀ c ∈ x.cells, CellOk c
theorem tabV_of {c r : Nat} {t : Ta} (h : TabOk c r t) (hc : c ≤ 64) (hr : r ≤ 4096) (h0 : 0 ≤ t.id) (h1 : t.id ≤ 1073741824) : TabV t := by
  obtain ⟨h2, h3, n, h4, h5⟩ := h
  exact ⟨h0, h1, h2.more (by omega), by omega, n, by omega, fun x hx => ⟨(h5 x hx).1.more (by omega), (h5 x hx).2.1, (h5 x hx).2.2⟩⟩
/-- an element of a list -/
theorem getD_mem {α : Type} {l : List α} {i : Nat} (h : i < l.length) (d : α) : l.getD i d ∈ l := by simp [List.getD, h]

end Go.Proofs.YtabemneoobbnaaaGreatDoor
