/- slices.Sorted(maps.Keys(m)) laid at this program (the form of the text that lay-iter.mjs writes). The keys of a map of groups, in order. -/
import Derived.Test.YtabemneoobbnaaaDoorOb
import Derived.Shelf.SlIter.Nil
import Derived.Shelf.SortM.Plain
import Derived.Shelf.SortM.SortNone
import Derived.Maps.GroupsBeside
namespace Go.Proofs.YtabemneoobbnaaaDoor
open Go.RowKit Go.Shelf

theorem sortsM (m : Nat) : Go.Proofs.AnyZ.SortsIn Tryd.prog Tryd.sortedM_ren Fence.wide m :=
  ⟨fun blk off cap ss W hH hblk hsz => callsIn_wide.2 (AnyM.slices_Sort_string Tryd.sortM blk off cap ss W hH hblk hsz),
   fun p cap W => callsIn_wide.2 (AnyM.slices_Sort_string_none Tryd.sortM p cap W)⟩

theorem lib_Keys (mb : Option Nat) (W : World) : Calls Tryd.prog 35 #[.map mb] W fun e w' => e = .returned (.func (.func 47) #[] #[.pointer (some ⟨W.heap.size, 0, none⟩)]) ∧ w' = W.alloc (.cells #[.map mb] 84) :=
  callsIn_wide.1 (AnyZ.keys_in Tryd.keysM Fence.wide 5 trivial rfl mb W)

set_option maxHeartbeats 1000000 in
theorem lib_Sorted (b nn : Nat) (D0 : DataW Unit) (R : Value → Option (DataW Unit × List MemPlace)) (w : World) (hown : w.ownsMap Tryd.prog 9 R b nn D0) (hmax : Go.Maps.size D0 ≤ 268435456) :
    Calls Tryd.prog 34 #[.func (.func 47) #[] #[.pointer (some ⟨w.heap.size, 0, none⟩)]] (w.alloc (.cells #[.map (some b)] 84)) fun e w' => ∃ (v : Value) (ss : List (List UInt8)), e = .returned v ∧ ss.Perm (strKeys D0) ∧
      w'.ownsRow (w.alloc (.cells #[.map (some b)] 84)).heap.size 9 1 v ss.length ((ss.mergeSort (fun x y => decide (x ≤ y))).map encStr) ∧ Below (w.alloc (.cells #[.map (some b)] 84)).heap.size (w.alloc (.cells #[.map (some b)] 84)) w' := by
  have hbl := hown.lt
  have hseq : SeqGives Fence.wide 2 Tryd.prog 47 #[.pointer (some ⟨w.heap.size, 0, none⟩)] encStr (fun ss => ss.Perm (strKeys D0)) (Go.Maps.size D0) (w.alloc (.cells #[.map (some b)] 84)) :=
    AnyZ.keys_gives (ρ := Tryd.keysM_ren) { Tryd.keysM with } Fence.wide _ trivial rfl (by omega) w.heap.size b nn D0 _ (by simp) (by simp) (by
      obtain ⟨es, clock, hb, Ft, hs, hD⟩ := hown
      exact ⟨es, clock, (Below.heap_alloc _ _ b hbl).trans hb, Ft, hs, hD⟩)
  refine (callsIn_wide.1 (AnyZ.sorted_in Tryd.sortedM Fence.wide 5 trivial trivial trivial trivial rfl (by omega) (sortsM _) (enters_of Tryd.func46 (by kernel_rfl) rfl) 47 #[.pointer (some ⟨w.heap.size, 0, none⟩)] trivial (enters_of Tryd.func47 (by kernel_rfl) rfl) _ _ (by unfold maxLen; omega) (by omega) _ hseq)).mono ?_
  rintro e w' ⟨v, ss, h1, h2, h3, -, h4⟩
  exact ⟨v, ss, h1, h2, h3, h4⟩

end Go.Proofs.YtabemneoobbnaaaDoor

namespace Go.Proofs.YtabemneoobbnaaaDoor
open Go.RowKit

theorem law_str : Go.Maps.Keyed Tryd.prog 9 := Go.Maps.string_keyed Tryd.underlying9
theorem keys_sorted {D : DataW Unit} {F : ByteArray → List Nat} (hg : GrpOk D F) {w : World} {R : Value → Option (DataW Unit × List MemPlace)} {b nn : Nat} (hown : w.ownsMap Tryd.prog 9 R b nn D) (X : List ByteArray) (hX : ∀ s, F s ≠ [] ↔ s ∈ X) {ss : List (List UInt8)} (hp : ss.Perm (strKeys D)) :
    ss.mergeSort (fun x y => decide (x ≤ y)) = (setOfL X).map listOf := by
  obtain ⟨es, hD, hpw, -⟩ := hown.entries law_str
  obtain ⟨es', hD', hko⟩ := hown.keysOf
  obtain rfl : es = es' := by rw [hD] at hD'; simpa using hD'
  subst hD
  have hasc := setOfL_asc X
  have hpair : ((setOfL X).map listOf).Pairwise (fun x y => x < y) := by
    refine List.pairwise_map.2 (hasc.imp fun {a b} h => ?_)
    rw [sl_lt, ByteArray.toList_eq, ByteArray.toList_eq] at h
    simpa [listOf] using h
  have hperm : ((setOfL X).map listOf).Perm (strKeys (.map es)) := perm_strKeys hpw (fun p hp => by obtain ⟨v, hv⟩ := hko p hp; obtain ⟨x, _, hx, _⟩ := Maps.keyOf_str Tryd.underlying9 hv; exact ⟨x, hx⟩)
    (hpair.imp fun h => fun e => by subst e; exact List.lt_irrefl _ h) (fun x => by
      have h1 := (hg.has ⟨⟨x⟩⟩).trans (hX ⟨⟨x⟩⟩)
      have h2 : keyL ⟨⟨x⟩⟩ = .string x := rfl
      rw [h2] at h1
      rw [h1, ← setOfL_mem_iff, List.mem_map]
      constructor
      · rintro ⟨a, ha, rfl⟩
        exact ha
      · intro h
        exact ⟨⟨⟨x⟩⟩, h, rfl⟩)
  have h3 := mergeSort_of_perm (hp.trans hperm.symm)
  refine h3.trans (List.mergeSort_of_pairwise (hpair.imp fun h => by simp only [leB, decide_eq_true_eq]; exact List.le_of_lt h))
theorem keys_len {D : DataW Unit} {F : ByteArray → List Nat} (hg : GrpOk D F) {w : World} {R : Value → Option (DataW Unit × List MemPlace)} {b nn : Nat} (hown : w.ownsMap Tryd.prog 9 R b nn D) (X : List ByteArray) (hX : ∀ s, F s ≠ [] ↔ s ∈ X) {ss : List (List UInt8)} (hp : ss.Perm (strKeys D)) :
    ss.length = (setOfL X).length := by
  have h1 := congrArg List.length (keys_sorted hg hown X hX hp)
  simpa using h1

/-- rows of another type are no group's row -/
theorem groups_apart {P : Program} {k e e' : TypeId} {base base' b n size n' : Nat} {w : World} {D : DataW Unit} {v : Value} {L : List Value} (h : w.ownsGroups P k base e .i64 b n D) (h' : w.ownsRow base' e' size v n' L) (he : e ≠ e') :
    ∀ es clock, w.heap[b]? = some (.map es clock) → ∀ x ∈ es.toList, x.val.ownBlock = none ∨ x.val.ownBlock ≠ v.ownBlock := by
  obtain ⟨es, clock, hb, F, -, -, -, -, -⟩ := h
  intro es' clock' hb' x hx
  rw [hb] at hb'
  cases hb'
  obtain ⟨y, hy⟩ := F.reads x hx
  obtain ⟨z, hz, _⟩ := Go.WideElems.rd_val hy
  obtain ⟨zs, ho, _⟩ := rowElem_inv hz
  exact own_apart ho.1 h' he
theorem groups_map {P : Program} {k e : TypeId} {base b n : Nat} {w : World} {D : DataW Unit} (h : w.ownsGroups P k base e .i64 b n D) : w.ownsMap P k (rowElem w base e .i64) b n D := by
  obtain ⟨es, clock, hb, F, hs, hD, -⟩ := h
  exact ⟨es, clock, hb, F, hs, hD⟩

/-- columns' places by value, so far -/
def pgF (cs : List Cv) (q j : Nat) (s : ByteArray) : List Nat := listK cs s q ++ if hasL ((cs.getD q Cv.z).2.take j) s = true then [q] else []
theorem pgF_zero (cs : List Cv) (s : ByteArray) : pgF cs 0 0 s = [] := by simp [pgF, listK, hasL]
theorem pgF_step {cs : List Cv} {q j : Nat} (ha : Asc (cs.getD q Cv.z).2) (hj : j < (cs.getD q Cv.z).2.length) (s : ByteArray) :
    (if s = (cs.getD q Cv.z).2.getD j ⟨#[]⟩ then pgF cs q j ((cs.getD q Cv.z).2.getD j ⟨#[]⟩) ++ [q] else pgF cs q j s) = pgF cs q (j + 1) s := by
  unfold pgF
  generalize (cs.getD q Cv.z).2 = X at *
  have e1 : X.getD j ⟨#[]⟩ = X[j] := by simp [List.getD, hj]
  have hno : ¬ hasL (X.take j) X[j] = true := by
    rw [hasL_iff]
    intro h
    obtain ⟨i, hi, e⟩ := List.mem_iff_getElem.1 h
    rw [List.length_take] at hi
    rw [List.getElem_take] at e
    have h1 := List.pairwise_iff_getElem.1 ha i j (by omega) hj (by omega)
    rw [e, sl_irrefl] at h1
    cases h1
  have e2 : hasL (X.take (j + 1)) s = true ↔ (hasL (X.take j) s = true ∨ s = X[j]) := by
    rw [hasL_iff, hasL_iff, List.take_succ_eq_append_getElem hj, List.mem_append, List.mem_singleton]
  rw [e1]
  by_cases e : s = X[j]
  · subst e
    rw [if_pos rfl, if_neg hno, if_pos (e2.2 (.inr rfl))]
    simp
  · rw [if_neg e]
    by_cases h : hasL (X.take j) s = true
    · rw [if_pos h, if_pos (e2.2 (.inl h))]
    · rw [if_neg h, if_neg (fun h2 => (e2.1 h2).elim h e)]
theorem pgF_end {cs : List Cv} {q : Nat} (s : ByteArray) : pgF cs q (cs.getD q Cv.z).2.length s = pgF cs (q + 1) 0 s := by
  unfold pgF
  have e0 : ¬ hasL (((cs.getD (q + 1) Cv.z).2).take 0) s = true := by rw [hasL_iff]; simp
  rw [listK_succ, List.take_length, if_neg e0]
  by_cases h : hasL (cs.getD q Cv.z).2 s = true
  · rw [if_pos h, if_pos h]; simp
  · rw [if_neg h, if_neg h]

end Go.Proofs.YtabemneoobbnaaaDoor
