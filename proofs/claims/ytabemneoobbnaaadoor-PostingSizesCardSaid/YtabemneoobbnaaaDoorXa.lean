/- Plain: columns by their sizes. No program in sight. -/
import Derived.Test.YtabemneoobbnaaaDoorBs
namespace Go.Proofs.YtabemneoobbnaaaDoor
open Go.RowKit

/-- the numbers of the columns of some sizes -/
def sizesL (zs : List Int) (low high : Int) : List Nat := (List.range zs.length).filter fun i => decide (low ≤ zs.getD i 0) && decide (zs.getD i 0 ≤ high)
theorem sizes_mem {zs : List Int} {low high : Int} {i : Nat} : i ∈ sizesL zs low high ↔ i < zs.length ∧ low ≤ zs.getD i 0 ∧ zs.getD i 0 ≤ high := by
  simp [sizesL, List.mem_filter]
theorem sizes_asc (zs : List Int) (low high : Int) : (sizesL zs low high).Pairwise (· < ·) := List.Pairwise.sublist List.filter_sublist List.pairwise_lt_range
theorem sizes_lt {zs : List Int} {low high : Int} {i : Nat} (h : i < (sizesL zs low high).length) : (sizesL zs low high).getD i 0 < zs.length := by
  have : (sizesL zs low high).getD i 0 ∈ sizesL zs low high := by simp [List.getD, h]
  exact (sizes_mem.1 this).1
theorem sizes_up {zs : List Int} {low high : Int} {i : Nat} (h : i + 1 < (sizesL zs low high).length) : (sizesL zs low high).getD i 0 < (sizesL zs low high).getD (i + 1) 0 := by
  have h1 := List.pairwise_iff_getElem.1 (sizes_asc zs low high) i (i + 1) (by omega) h (by omega)
  simpa [List.getD, h, show i < (sizesL zs low high).length by omega] using h1
theorem sizes_count (zs : List Int) (low high : Int) (i : Nat) : (sizesL zs low high).count i = if i < zs.length ∧ low ≤ zs.getD i 0 ∧ zs.getD i 0 ≤ high then 1 else 0 := by
  have hn : (sizesL zs low high).Nodup := (sizes_asc zs low high).imp fun h => Nat.ne_of_lt h
  split
  · rename_i h
    have h1 := List.nodup_iff_count.1 hn i
    have h2 := List.count_pos_iff.2 (sizes_mem.2 h)
    omega
  · rename_i h
    exact List.count_eq_zero.2 fun hm => h (sizes_mem.1 hm)
theorem sizes_len (zs : List Int) (low high : Int) : (sizesL zs low high).length ≤ zs.length := by
  have := List.length_filter_le (fun i => decide (low ≤ zs.getD i 0) && decide (zs.getD i 0 ≤ high)) (List.range zs.length)
  simpa [sizesL] using this
theorem sizes_none (zs : List Int) {low high : Int} (h : high < low) : sizesL zs low high = [] := by
  unfold sizesL
  rw [List.filter_eq_nil_iff]
  intro i _
  simp
  omega
/-- the first columns' part -/
def sizesK (zs : List Int) (low high : Int) (k : Nat) : List Nat := (List.range k).filter fun i => decide (low ≤ zs.getD i 0) && decide (zs.getD i 0 ≤ high)
theorem sizesK_succ (zs : List Int) (low high : Int) (k : Nat) : sizesK zs low high (k + 1) = sizesK zs low high k ++ if low ≤ zs.getD k 0 ∧ zs.getD k 0 ≤ high then [k] else [] := by
  unfold sizesK
  rw [List.range_succ, List.filter_append]
  congr 1
  by_cases h1 : low ≤ zs.getD k 0 <;> by_cases h2 : zs.getD k 0 ≤ high <;> simp [List.filter_cons, h1, h2]
theorem sizesK_all (zs : List Int) (low high : Int) : sizesK zs low high zs.length = sizesL zs low high := rfl
theorem sizesK_len (zs : List Int) (low high : Int) (k : Nat) : (sizesK zs low high k).length ≤ k := by
  have := List.length_filter_le (fun i => decide (low ≤ zs.getD i 0) && decide (zs.getD i 0 ≤ high)) (List.range k)
  simpa [sizesK] using this
/-- ranges that lie side by side -/
theorem sizes_divide {zs : List Int} {low high top : Int} (hz : ∀ i, i < zs.length → 0 ≤ zs.getD i 0 ∧ zs.getD i 0 ≤ top) (hlh : low ≤ high) {i : Nat} (hi : i < zs.length) :
    (sizesL zs 0 (low - 1)).count i + (sizesL zs low high).count i + (sizesL zs (high + 1) top).count i = 1 := by
  have := hz i hi
  rw [sizes_count, sizes_count, sizes_count]
  rcases Int.lt_or_le (zs.getD i 0) low with h1 | h1
  · rw [if_pos ⟨hi, by omega, by omega⟩, if_neg (by omega), if_neg (by omega)]
  · rcases Int.lt_or_le high (zs.getD i 0) with h2 | h2
    · rw [if_neg (by omega), if_neg (by omega), if_pos ⟨hi, by omega, by omega⟩]
    · rw [if_neg (by omega), if_pos ⟨hi, by omega, by omega⟩, if_neg (by omega)]
theorem count_take (xs : List Nat) {k : Nat} (h : k < xs.length) (j : Nat) : (xs.take (k + 1)).count j = (xs.take k).count j + if xs.getD k 0 = j then 1 else 0 := by
  rw [List.take_succ_eq_append_getElem h, List.count_append]
  congr 1
  have e : xs.getD k 0 = xs[k] := by simp [List.getD, h]
  rw [e, List.count_singleton]
  by_cases h1 : xs[k] = j <;> simp [h1]

end Go.Proofs.YtabemneoobbnaaaDoor
