/- Plain: what an index of columns holds. No program in sight. -/
import Derived.Test.YtabemneoobbnaaaGreatDoorOg
import Derived.Test.YtabemneoobbnaaaGreatDoorNj
namespace Go.Proofs.YtabemneoobbnaaaGreatDoor
open Go.RowKit

/-- the sum of the columns' sizes -/
def sizesSum (cs : List Cv) (q : Nat) : Nat := ((cs.take q).map fun c => c.2.length).sum
theorem sizesSum_zero (cs : List Cv) : sizesSum cs 0 = 0 := by simp [sizesSum]
theorem sizesSum_succ (cs : List Cv) {q : Nat} (h : q < cs.length) : sizesSum cs (q + 1) = sizesSum cs q + (cs.getD q Cv.z).2.length := by
  unfold sizesSum
  rw [List.take_succ_eq_append_getElem h, List.map_append, List.sum_append]
  simp [List.getD, h]
theorem sizesSum_le {cs : List Cv} {m : Nat} (h : ∀ c ∈ cs, c.2.length ≤ m) (q : Nat) : sizesSum cs q ≤ q * m := by
  induction q with
  | zero => simp [sizesSum]
  | succ q ih =>
    by_cases hq : q < cs.length
    · rw [sizesSum_succ cs hq, Nat.succ_mul]
      have := h _ (getD_mem hq Cv.z)
      omega
    · have e : sizesSum cs (q + 1) = sizesSum cs q := by
        unfold sizesSum
        rw [List.take_of_length_le (by omega), List.take_of_length_le (by omega)]
      rw [e, Nat.succ_mul]
      omega
theorem zeros_sum (n : Nat) : ((List.range n).map fun _ => 0).sum = 0 := by
  induction n with
  | zero => rfl
  | succ n ih => rw [List.range_succ, List.map_append, List.sum_append, ih]; rfl
/-- a list of small numbers, counted -/
theorem length_counts (n : Nat) : ∀ l : List Nat, (∀ x ∈ l, x < n) → l.length = ((List.range n).map fun j => l.count j).sum
  | [], _ => by
    have : ((List.range n).map fun j => ([] : List Nat).count j) = (List.range n).map fun _ => 0 := by simp
    rw [this, zeros_sum]
    rfl
  | x :: l, h => by
    have ih := length_counts n l fun y hy => h y (by simp [hy])
    have hx := h x (by simp)
    have e : ((List.range n).map fun j => (x :: l).count j) = (List.range n).map fun j => l.count j + if x = j then 1 else 0 := by
      apply List.map_congr_left
      intro j _
      rw [List.count_cons]
      by_cases e : x = j
      · simp [e]
      · simp [e]
    rw [e, List.length_cons, ih]
    clear e ih h
    induction n with
    | zero => omega
    | succ n ihn =>
      rw [List.range_succ, List.map_append, List.sum_append, List.map_append, List.sum_append]
      simp only [List.map_cons, List.map_nil, List.sum_cons, List.sum_nil]
      by_cases e : x = n
      · subst e
        have h0 : ∀ m, m ≤ x → ((List.range m).map fun j => l.count j + if x = j then 1 else 0).sum = ((List.range m).map fun j => l.count j).sum := by
          intro m hm
          congr 1
          apply List.map_congr_left
          intro j hj
          have := List.mem_range.1 hj
          rw [if_neg (by omega)]
          simp
        rw [h0 x (Nat.le_refl _), if_pos rfl]
        omega
      · have := ihn (by omega)
        rw [if_neg e]
        omega
theorem sum_map_range (cs : List Cv) : ((List.range cs.length).map fun j => (cs.getD j Cv.z).2.length).sum = sizesSum cs cs.length := by
  unfold sizesSum
  rw [List.take_length]
  congr 1
  apply List.ext_getElem
  · simp
  · intro i h1 h2
    have : i < cs.length := by simpa using h1
    simp [List.getD, this]
/-- sizes and entries add up -/
theorem lists_sum {cs : List Cv} (h : CvsOk cs) : ((indexOf cs).lists.map List.length).sum = sizesSum cs cs.length := by
  have e1 : ((indexOf cs).lists.map List.length).sum = ((setOfL (allOf cs)).flatMap (listOfV cs)).length := by
    show (((setOfL (allOf cs)).map (listOfV cs)).map List.length).sum = _
    rw [List.map_map, List.length_flatMap]
    rfl
  rw [e1, length_counts cs.length _ (fun x hx => by
    obtain ⟨v, _, hv⟩ := List.mem_flatMap.1 hx
    exact (listOfV_mem.1 hv).1), ← sum_map_range]
  congr 1
  apply List.map_congr_left
  intro j hj
  exact cntV_all h (List.mem_range.1 hj)

/-- the place of a value -/
theorem idx_of_mem {vs : List ByteArray} {s : ByteArray} (h : s ∈ vs) : ∃ i, i < vs.length ∧ Lib.idxOfS vs s = (i : Int) ∧ vs.getD i ⟨#[]⟩ = s := by
  have hx : ∃ x ∈ vs, (fun x => decide (x = s)) x = true := ⟨s, h, by simp⟩
  have hlt : vs.findIdx (fun x => decide (x = s)) < vs.length := List.findIdx_lt_length_of_exists hx
  have hat : vs.getD (vs.findIdx fun x => decide (x = s)) ⟨#[]⟩ = s := by
    have := List.findIdx_getElem (p := fun x => decide (x = s)) (w := hlt)
    simpa [List.getD, hlt] using this
  refine ⟨_, hlt, ?_, hat⟩
  have hh := Lib.idxOfS_hit vs vs.length (vs.findIdx fun x => decide (x = s)) s hlt (Nat.le_refl _) hat (fun j hj e => by
    have := List.not_of_lt_findIdx (p := fun x => decide (x = s)) hj
    have hjl : j < vs.length := by omega
    have e2 : vs[j] = s := by simpa [List.getD, hjl] using e
    simp [e2] at this)
  rwa [List.take_of_length_le (Nat.le_refl _)] at hh
theorem val_mem {cs : List Cv} {i : Nat} (hi : i < cs.length) {s : ByteArray} (hs : s ∈ (cs.getD i Cv.z).2) : s ∈ setOfL (allOf cs) := by
  rw [setOfL_mem_iff, all_mem]
  exact ⟨_, getD_mem hi _, hs⟩
theorem list_has {cs : List Cv} {i : Nat} (hi : i < cs.length) {s : ByteArray} (hs : s ∈ (cs.getD i Cv.z).2) : i ∈ listOfV cs s := listOfV_mem.2 ⟨hi, (hasL_iff _ _).2 hs⟩
theorem ents_at {cs : List Cv} {i : Nat} (hi : i < cs.length) : (entsOf cs).getD i ((0, 0), 0) = ((cs.getD i Cv.z).1, (cs.getD i Cv.z).2.length) := by simp [entsOf, List.getD, hi]
theorem sizes_has {cs : List Cv} {i : Nat} (hi : i < cs.length) : i ∈ sizesL (sizeZ (entsOf cs)) ((cs.getD i Cv.z).2.length : Int) ((cs.getD i Cv.z).2.length : Int) := by
  have hi2 : i < (entsOf cs).length := by rw [ents_len]; exact hi
  rw [sizes_mem]
  refine ⟨by simp [sizeZ]; exact hi2, ?_⟩
  rw [sizeZ_at hi2, ents_at hi]
  exact ⟨Int.le_refl _, Int.le_refl _⟩

end Go.Proofs.YtabemneoobbnaaaGreatDoor
