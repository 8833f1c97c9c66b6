/- Plain: a sorted list of texts without repetitions is the set of its texts; two sets with the same texts are one. No program in sight. -/
import Derived.Lib.SlicesCompact
import Derived.Sort.EncStr
import Derived.Sort.Walk0
import Derived.Test.YtfcccldofaleoaaGreatDoorSt
namespace Go.Proofs.YtfcccldofaleoaaGreatDoor
open Go.Lib

theorem sl_lt (a b : ByteArray) : sl a b = decide (a.toList < b.toList) := by unfold sl; exact bytesLess_eq _ _

theorem asc_unique : ∀ {xs ys : List ByteArray}, Asc xs → Asc ys → (∀ x, x ∈ xs ↔ x ∈ ys) → xs = ys
  | [], [], _, _, _ => rfl
  | [], y :: ys, _, _, h => by have := (h y).2 (by simp); simp at this
  | x :: xs, [], _, _, h => by have := (h x).1 (by simp); simp at this
  | x :: xs, y :: ys, hx, hy, h => by
    have hx' := List.pairwise_cons.1 hx
    have hy' := List.pairwise_cons.1 hy
    have hxy : x = y := by
      rcases List.mem_cons.1 ((h x).1 (by simp)) with e | h1
      · exact e
      · rcases List.mem_cons.1 ((h y).2 (by simp)) with e | h2
        · exact e.symm
        · have h3 := sl_trans (hy'.1 x h1) (hx'.1 y h2)
          rw [sl_irrefl] at h3
          cases h3
    subst hxy
    have : xs = ys := asc_unique hx'.2 hy'.2 (fun z => by
      constructor
      · intro hz
        rcases List.mem_cons.1 ((h z).1 (by simp [hz])) with e | h1
        · subst e
          have h3 := hx'.1 z hz
          rw [sl_irrefl] at h3
          cases h3
        · exact h1
      · intro hz
        rcases List.mem_cons.1 ((h z).2 (by simp [hz])) with e | h1
        · subst e
          have h3 := hy'.1 z hz
          rw [sl_irrefl] at h3
          cases h3
        · exact h1)
    rw [this]

theorem put1_mem_iff {xs : List ByteArray} {s x : ByteArray} : x ∈ put1 xs s ↔ x = s ∨ x ∈ xs := by
  refine ⟨put1_mem, fun h => ?_⟩
  have hk := before_le s xs
  unfold put1
  simp only
  split
  · rw [List.mem_append, List.mem_cons]
    rcases h with rfl | h
    · exact .inr (.inl rfl)
    · rw [← List.take_append_drop (before s xs) xs, List.mem_append] at h
      rcases h with h | h
      · exact .inl h
      · exact .inr (.inr h)
  · rename_i hc
    rcases h with rfl | h
    · have h1 : before x xs ≠ xs.length := fun e => hc (.inl e)
      have h2 : xs.getD (before x xs) ⟨#[]⟩ = x := by
        apply Classical.byContradiction
        exact fun e => hc (.inr e)
      have h3 : before x xs < xs.length := by omega
      rw [List.getD, List.getElem?_eq_getElem h3] at h2
      simp at h2
      rw [← h2]
      exact List.getElem_mem _
    · exact h
theorem foldl_put1_mem (l : List ByteArray) : ∀ (acc : List ByteArray) (x : ByteArray), x ∈ l.foldl put1 acc ↔ x ∈ acc ∨ x ∈ l := by
  induction l with
  | nil => simp
  | cons a l ih =>
    intro acc x
    rw [List.foldl_cons, ih, put1_mem_iff, List.mem_cons]
    constructor
    · rintro ((h | h) | h)
      · exact .inr (.inl h)
      · exact .inl h
      · exact .inr (.inr h)
    · rintro (h | h | h)
      · exact .inl (.inr h)
      · exact .inl (.inl h)
      · exact .inr h
theorem setOfL_mem_iff (l : List ByteArray) (x : ByteArray) : x ∈ setOfL l ↔ x ∈ l := by
  unfold setOfL
  rw [foldl_put1_mem]
  simp

/-- what is kept of a sorted row -/
theorem compactUpTo_spec (d : Array (List UInt8)) (hs : ∀ i j, i < j → j < d.size → d[i]! ≤ d[j]!) : ∀ m, m ≤ d.size →
    (compactUpTo d m).Pairwise (· < ·) ∧ (∀ y ∈ compactUpTo d m, ∃ i, i < m ∧ y = d[i]!) ∧ (∀ i, i < m → d[i]! ∈ compactUpTo d m) := by
  intro m
  induction m with
  | zero => intro _; exact ⟨by simp [compactUpTo], by simp [compactUpTo], fun i h => by omega⟩
  | succ m ih =>
    intro hm
    obtain ⟨h1, h2, h3⟩ := ih (by omega)
    rw [compactUpTo_succ]
    by_cases hk : keeps d m = true
    · rw [if_pos hk]
      refine ⟨?_, ?_, ?_⟩
      · rw [List.pairwise_append]
        refine ⟨h1, List.pairwise_singleton _ _, fun y hy z hz => ?_⟩
        rw [List.mem_singleton] at hz
        subst hz
        obtain ⟨i, hi, rfl⟩ := h2 y hy
        have hne : d[m]! ≠ d[m - 1]! := by
          unfold keeps at hk
          rcases of_decide_eq_true hk with h | h
          · omega
          · exact h
        have hle : d[m - 1]! ≤ d[m]! := hs _ _ (by omega) (by omega)
        have hlt : d[m - 1]! < d[m]! := Classical.byContradiction fun h => hne (List.le_antisymm (show d[m]! ≤ d[m - 1]! from h) hle)
        rcases Nat.lt_or_ge i (m - 1) with h | h
        · exact List.lt_of_le_of_lt (hs i (m - 1) h (by omega)) hlt
        · obtain rfl : i = m - 1 := by omega
          exact hlt
      · intro y hy
        rcases List.mem_append.1 hy with hy | hy
        · obtain ⟨i, hi, e⟩ := h2 y hy
          exact ⟨i, by omega, e⟩
        · exact ⟨m, by omega, by simpa using hy⟩
      · intro i hi
        rw [List.mem_append]
        rcases Nat.lt_or_ge i m with h | h
        · exact .inl (h3 i h)
        · obtain rfl : i = m := by omega
          exact .inr (by simp)
    · rw [if_neg hk, List.append_nil]
      refine ⟨h1, fun y hy => ?_, fun i hi => ?_⟩
      · obtain ⟨i, hi, e⟩ := h2 y hy
        exact ⟨i, by omega, e⟩
      · rcases Nat.lt_or_ge i m with h | h
        · exact h3 i h
        · obtain rfl : i = m := by omega
          have hn : ¬ (i = 0 ∨ d[i]! ≠ d[i - 1]!) := fun e => hk (by unfold keeps; exact decide_eq_true e)
          have he : d[i]! = d[i - 1]! := Classical.byContradiction fun e => hn (.inr e)
          rw [he]
          exact h3 (i - 1) (by have : i ≠ 0 := fun e => hn (.inl e); omega)

def bytesOf (l : List UInt8) : ByteArray := ⟨l.toArray⟩
def listOf (a : ByteArray) : List UInt8 := a.data.toList
theorem bytesOf_listOf (a : ByteArray) : bytesOf (listOf a) = a := by cases a; rfl
theorem listOf_bytesOf (l : List UInt8) : listOf (bytesOf l) = l := by simp [listOf, bytesOf]

/-- sorted and compacted it is the set -/
theorem compact_sorted (xs : List ByteArray) : (compact ((xs.map listOf).mergeSort fun x y => decide (x ≤ y))).map bytesOf = setOfL xs := by
  generalize hZ : (xs.map listOf).mergeSort (fun x y => decide (x ≤ y)) = zs
  have hperm : zs.Perm (xs.map listOf) := by rw [← hZ]; exact List.mergeSort_perm _ _
  have hsort : zs.Pairwise (fun x y => x ≤ y) := by
    rw [← hZ]
    have := List.pairwise_mergeSort (le := fun (x y : List UInt8) => decide (x ≤ y)) (fun a b c h1 h2 => by
      simp only [decide_eq_true_eq] at *
      exact List.le_trans h1 h2) (fun a b => by
      simp only [Bool.or_eq_true, decide_eq_true_eq]
      exact List.le_total a b) (xs.map listOf)
    exact this.imp (fun h => by simpa using h)
  have hs : ∀ i j, i < j → j < zs.toArray.size → zs.toArray[i]! ≤ zs.toArray[j]! := by
    intro i j hij hj
    have hj' : j < zs.length := by simpa using hj
    rw [getElem!_pos zs.toArray i (by simp; omega), getElem!_pos zs.toArray j (by simpa using hj')]
    simpa using List.pairwise_iff_getElem.1 hsort i j (by omega) hj' hij
  obtain ⟨h1, h2, h3⟩ := compactUpTo_spec zs.toArray hs zs.length (by simp)
  refine asc_unique ?_ (setOfL_asc xs) ?_
  · unfold Asc
    rw [List.pairwise_map]
    refine h1.imp (fun {a b} h => ?_)
    rw [sl_lt, toList_data, toList_data]
    exact decide_eq_true (by simpa [bytesOf] using h)
  · intro x
    rw [setOfL_mem_iff, List.mem_map]
    constructor
    · rintro ⟨y, hy, rfl⟩
      obtain ⟨i, hi, rfl⟩ := h2 y hy
      have : zs.toArray[i]! ∈ zs := by rw [getElem!_pos zs.toArray i (by simpa using hi)]; simp
      obtain ⟨z, hz, e⟩ := List.mem_map.1 (hperm.mem_iff.1 this)
      rw [← e, bytesOf_listOf]
      exact hz
    · intro hx
      have : listOf x ∈ zs := hperm.mem_iff.2 (List.mem_map.2 ⟨x, hx, rfl⟩)
      obtain ⟨i, hi, e⟩ := List.mem_iff_getElem.1 this
      refine ⟨listOf x, ?_, bytesOf_listOf x⟩
      have h4 := h3 i hi
      rw [getElem!_pos zs.toArray i (by simpa using hi)] at h4
      rw [← e]
      simpa [compact] using h4
theorem compact_len (xs : List ByteArray) : (compact ((xs.map listOf).mergeSort fun x y => decide (x ≤ y))).length = (setOfL xs).length := by
  rw [← compact_sorted, List.length_map]

end Go.Proofs.YtfcccldofaleoaaGreatDoor
