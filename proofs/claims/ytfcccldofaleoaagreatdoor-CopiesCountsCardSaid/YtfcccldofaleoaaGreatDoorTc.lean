/- Words for tables: valid texts, cells, tables; what the types look like. No program in sight. -/
import Derived.Test.YtfcccldofaleoaaGreatDoorTs
import Derived.Test.YtfcccldofaleoaaGreatDoorTb
import Derived.Lib.ValidU
namespace Go.Proofs.YtfcccldofaleoaaGreatDoor
open Go.RowKit

/-- a valid short text -/
def TextOk (n : Nat) (s : ByteArray) : Prop := s.size ≤ n ∧ Lib.validD s.data.toList = true
def CellOk (c : Cl) : Prop := (c.null = true → c.text = ⟨#[]⟩) ∧ TextOk 8 c.text
theorem cellOk_null : CellOk ⟨true, ⟨#[]⟩⟩ := by unfold CellOk TextOk; decide +kernel
theorem cellOk_text {s : ByteArray} (h : TextOk 8 s) : CellOk ⟨false, s⟩ := ⟨(fun h => by cases h), h⟩
theorem TextOk.more {m n : Nat} {s : ByteArray} (h : TextOk m s) (hn : m ≤ n) : TextOk n s := ⟨Nat.le_trans h.1 hn, h.2⟩

theorem info_cell : (Tryz.prog.info? 58).map (fun i => (i.zero, i.size, i.bytes)) = some (some (.agg #[.bool false, .string ⟨#[]⟩]), 2, 24) := by kernel_rfl
theorem info_col : (Tryz.prog.info? 30).map (fun i => (i.zero, i.size, i.bytes)) = some (some (.agg #[.string ⟨#[]⟩, .slice none 0 0]), 2, 40) := by kernel_rfl
theorem info_tab : (Tryz.prog.info? 24).map (fun i => (i.zero, i.size, i.bytes)) = some (some (.agg #[.int .i64 0, .string ⟨#[]⟩, .slice none 0 0]), 3, 48) := by kernel_rfl
/-- a valid table -/
def TabV (t : Ta) : Prop := 0 ≤ t.id ∧ t.id ≤ 1073741824 ∧ TextOk 1024 t.name ∧ t.cols.length ≤ 64 ∧ ∃ n, n ≤ 4096 ∧ ∀ x ∈ t.cols, TextOk 1024 x.name ∧ x.cells.length = n ∧ ∀ c ∈ x.cells, CellOk c
/-- an element of a list -/
theorem getD_mem {α : Type} {l : List α} {i : Nat} (h : i < l.length) (d : α) : l.getD i d ∈ l := by simp [List.getD, h]
def ListV (ts : List Ta) : Prop := ts.length ≤ 1024 ∧ (∀ t ∈ ts, TabV t) ∧ ts.Pairwise (fun a b => a.id < b.id)
theorem ids_up {ts : List Ta} (h : ts.Pairwise (fun a b => a.id < b.id)) {i j : Nat} (hij : i < j) (hj : j < ts.length) : (ts.getD i Ta.z).id < (ts.getD j Ta.z).id := by
  have h1 := List.pairwise_iff_getElem.1 h i j (by omega) hj hij
  simpa [List.getD, hj, show i < ts.length by omega] using h1

/-- how many rows columns have -/
def rowsC (xs : List Co) : Nat := (xs.getD 0 Co.z).cells.length

end Go.Proofs.YtfcccldofaleoaaGreatDoor
