/- Plain: what an index of columns has. No program in sight. -/
import Derived.Test.YtabemneoobbnaaaGreatDoorNo
import Derived.Test.YtabemneoobbnaaaGreatDoorSk
namespace Go.Proofs.YtabemneoobbnaaaGreatDoor
open Go.RowKit

def refZ (c : Cv) : Int × Int := (c.1.1, (c.1.2 : Int))
/-- columns in order, each with a set of values -/
structure CvsOk (cs : List Cv) : Prop where
  up : cs.Pairwise (fun a b => rlt (refZ a) (refZ b) = true)
  ids : ∀ c ∈ cs, 0 ≤ c.1.1 ∧ c.1.1 ≤ 1073741824
  sets : ∀ c ∈ cs, Asc c.2
  len : ∀ c ∈ cs, c.2.length ≤ 4096
  many : cs.length ≤ 65536

theorem asc_filter {xs : List ByteArray} (h : Asc xs) (p : ByteArray → Bool) : Asc (xs.filter p) := List.Pairwise.sublist List.filter_sublist h
theorem all_mem {cs : List Cv} {v : ByteArray} : v ∈ allOf cs ↔ ∃ c ∈ cs, v ∈ c.2 := by simp [allOf, List.mem_flatMap]
theorem vals_filter {cs : List Cv} (h : CvsOk cs) {i : Nat} (hi : i < cs.length) : (setOfL (allOf cs)).filter (hasL (cs.getD i Cv.z).2) = (cs.getD i Cv.z).2 := by
  refine asc_unique (asc_filter (setOfL_asc _) _) (h.sets _ (getD_mem hi _)) fun x => ?_
  rw [List.mem_filter, setOfL_mem_iff, hasL_iff, all_mem]
  exact ⟨fun h => h.2, fun hx => ⟨⟨_, getD_mem hi _, hx⟩, hx⟩⟩
theorem listOfV_mem {cs : List Cv} {v : ByteArray} {i : Nat} : i ∈ listOfV cs v ↔ i < cs.length ∧ hasL (cs.getD i Cv.z).2 v = true := by
  simp [listOfV, List.mem_filter]
theorem listOfV_asc (cs : List Cv) (v : ByteArray) : (listOfV cs v).Pairwise (· < ·) := List.Pairwise.sublist List.filter_sublist List.pairwise_lt_range
theorem listOfV_lt {cs : List Cv} {v : ByteArray} {k : Nat} (h : k < (listOfV cs v).length) : (listOfV cs v).getD k 0 < cs.length := (listOfV_mem.1 (getD_mem h 0)).1
theorem listOfV_up {cs : List Cv} {v : ByteArray} {k : Nat} (h : k + 1 < (listOfV cs v).length) : (listOfV cs v).getD k 0 < (listOfV cs v).getD (k + 1) 0 := by
  have h1 := List.pairwise_iff_getElem.1 (listOfV_asc cs v) k (k + 1) (by omega) h (by omega)
  simpa [List.getD, h, show k < (listOfV cs v).length by omega] using h1
theorem listOfV_len (cs : List Cv) (v : ByteArray) : (listOfV cs v).length ≤ cs.length := by
  have := listK_len cs v cs.length
  exact this
theorem listOfV_count {cs : List Cv} {v : ByteArray} {j : Nat} (hj : j < cs.length) : (listOfV cs v).count j = if hasL (cs.getD j Cv.z).2 v = true then 1 else 0 := by
  have hn : (listOfV cs v).Nodup := (listOfV_asc cs v).imp fun h => Nat.ne_of_lt h
  split
  · rename_i h
    have h1 := List.nodup_iff_count.1 hn j
    have h2 := List.count_pos_iff.2 (listOfV_mem.2 ⟨hj, h⟩)
    omega
  · rename_i h
    exact List.count_eq_zero.2 fun hm => h (listOfV_mem.1 hm).2
theorem listOfV_pos {cs : List Cv} {v : ByteArray} (h : v ∈ setOfL (allOf cs)) : 0 < (listOfV cs v).length := by
  rw [setOfL_mem_iff, all_mem] at h
  obtain ⟨c, hc, hv⟩ := h
  obtain ⟨i, hi, e⟩ := List.mem_iff_getElem.1 hc
  refine List.length_pos_of_mem (a := i) (listOfV_mem.2 ⟨hi, ?_⟩)
  rw [hasL_iff]
  simpa [List.getD, hi, e] using hv
/-- how often a column has been met in the lists of values -/
def cntV (cs : List Cv) (vs : List ByteArray) (j : Nat) : Nat := (vs.flatMap (listOfV cs)).count j
theorem cntV_snoc (cs : List Cv) (vs : List ByteArray) (v : ByteArray) (j : Nat) : cntV cs (vs ++ [v]) j = cntV cs vs j + (listOfV cs v).count j := by
  simp [cntV, List.flatMap_append, List.count_append]
theorem cntV_eq {cs : List Cv} {j : Nat} (hj : j < cs.length) : ∀ vs, cntV cs vs j = (vs.filter (hasL (cs.getD j Cv.z).2)).length
  | [] => rfl
  | v :: vs => by
    have ih := cntV_eq hj vs
    unfold cntV at ih ⊢
    rw [List.flatMap_cons, List.count_append, ih, listOfV_count hj, List.filter_cons]
    split <;> simp <;> omega
theorem cntV_all {cs : List Cv} (h : CvsOk cs) {j : Nat} (hj : j < cs.length) : cntV cs (setOfL (allOf cs)) j = (cs.getD j Cv.z).2.length := by
  rw [cntV_eq hj, vals_filter h hj]
theorem cntV_le (cs : List Cv) (vs : List ByteArray) (j : Nat) (hj : j < cs.length) : cntV cs vs j ≤ vs.length := by
  rw [cntV_eq hj]; exact List.length_filter_le _ _

end Go.Proofs.YtabemneoobbnaaaGreatDoor
