/- Plain: a sorted list of texts without repetitions is the set of its texts; two sets with the same texts are one. No program in sight. DERIVED: THE SHELF's CONTRACTS AT THIS DUMP, IN PLAIN WORDS (tools/lay-plain.mjs out of 'YtfmlpaplnkohpaaGreatDoorShEL.lean', which tools/lay-shelf.mjs wrote): THE SAME DECLARATIONS UNDER THE SAME NAMES: 'import', 'namespace', 'open', 'def', 'theorem' AND NOTHING ELSE: no command of the shelf's: FOR A HAND-IN. Each laying: the table of numbers ('.._ren') and one theorem, a field a fact of the dump's own or the kernel's comparison; each contract: ONE APPLICATION. Sets of texts as maps; slices.Sorted(maps.Keys(m)) at such a set. A map with numbers as keys that is known whole: laid entry by entry, asked. No program in sight. Contract of explain.actions: the map of what operations do. -/
import Derived.Lib.SlicesCompact
import Derived.Sort.EncStr
import Derived.Sort.Walk0
import Derived.Test.YtfmlpaplnkohpaaGreatDoorLnRtaa
import Derived.Shelf.SlIter.Nil
import Derived.Shelf.SortM.Plain
import Derived.Shelf.SortM.SortNone
import Derived.Shelf.Strconv.Clone
import Derived.Ground.GgzProg
import Derived.Ground.SlgmProg
import Derived.Test.YtfmlpaplnkohpaaGreatDoorProg
import Derived.Maps.OwnSet
import Derived.Maps.GroupsBeside
import Derived.ChangeMaps4
import Derived.MapKept
import Derived.Test.YtfmlpaplnkohpaaGreatDoorLnRtab
import Derived.Carry
set_option linter.unusedVariables false
set_option linter.unusedSimpArgs false
namespace Go.Proofs.YtfmlpaplnkohpaaGreatDoor
open Go.Lib

theorem sl_lt (a b : ByteArray) : sl a b = decide (a.toList < b.toList) := by unfold sl; exact bytesLess_eq _ _

theorem asc_unique : ∀ {xs ys : List ByteArray}, Asc xs → Asc ys → (∀ x, x ∈ xs ↔ x ∈ ys) → xs = ys
  | [], [], _, _, _ => rfl
  | [], y :: ys, _, _, h => by have := (h y).2 (by simp); simp at this
  | x :: xs, [], _, _, h => by have := (h x).1 (by simp); simp at this
  | x :: xs, y :: ys, hx, hy, h => by
    have hx' := List.pairwise_cons.1 hx
    have hy' := List.pairwise_cons.1 hy
    have hxy : x = y := by
      rcases List.mem_cons.1 ((h x).1 (by simp)) with e | h1
      · exact e
      · rcases List.mem_cons.1 ((h y).2 (by simp)) with e | h2
        · exact e.symm
        · have h3 := sl_trans (hy'.1 x h1) (hx'.1 y h2)
          rw [sl_irrefl] at h3
          cases h3
    subst hxy
    have : xs = ys := asc_unique hx'.2 hy'.2 (fun z => by
      constructor
      · intro hz
        rcases List.mem_cons.1 ((h z).1 (by simp [hz])) with e | h1
        · subst e
          have h3 := hx'.1 z hz
          rw [sl_irrefl] at h3
          cases h3
        · exact h1
      · intro hz
        rcases List.mem_cons.1 ((h z).2 (by simp [hz])) with e | h1
        · subst e
          have h3 := hy'.1 z hz
          rw [sl_irrefl] at h3
          cases h3
        · exact h1)
    rw [this]

theorem put1_mem_iff {xs : List ByteArray} {s x : ByteArray} : x ∈ put1 xs s ↔ x = s ∨ x ∈ xs := by
  refine ⟨put1_mem, fun h => ?_⟩
  have hk := before_le s xs
  unfold put1
  simp only
  split
  · rw [List.mem_append, List.mem_cons]
    rcases h with rfl | h
    · exact .inr (.inl rfl)
    · rw [← List.take_append_drop (before s xs) xs, List.mem_append] at h
      rcases h with h | h
      · exact .inl h
      · exact .inr (.inr h)
  · rename_i hc
    rcases h with rfl | h
    · have h1 : before x xs ≠ xs.length := fun e => hc (.inl e)
      have h2 : xs.getD (before x xs) ⟨#[]⟩ = x := by
        apply Classical.byContradiction
        exact fun e => hc (.inr e)
      have h3 : before x xs < xs.length := by omega
      rw [List.getD, List.getElem?_eq_getElem h3] at h2
      simp at h2
      rw [← h2]
      exact List.getElem_mem _
    · exact h
theorem foldl_put1_mem (l : List ByteArray) : ∀ (acc : List ByteArray) (x : ByteArray), x ∈ l.foldl put1 acc ↔ x ∈ acc ∨ x ∈ l := by
  induction l with
  | nil => simp
  | cons a l ih =>
    intro acc x
    rw [List.foldl_cons, ih, put1_mem_iff, List.mem_cons]
    constructor
    · rintro ((h | h) | h)
      · exact .inr (.inl h)
      · exact .inl h
      · exact .inr (.inr h)
    · rintro (h | h | h)
      · exact .inl (.inr h)
      · exact .inl (.inl h)
      · exact .inr h
theorem setOfL_mem_iff (l : List ByteArray) (x : ByteArray) : x ∈ setOfL l ↔ x ∈ l := by
  unfold setOfL
  rw [foldl_put1_mem]
  simp

/-- what is kept of a sorted row -/
theorem compactUpTo_spec (d : Array (List UInt8)) (hs : ∀ i j, i < j → j < d.size → d[i]! ≤ d[j]!) : ∀ m, m ≤ d.size →
    (compactUpTo d m).Pairwise (· < ·) ∧ (∀ y ∈ compactUpTo d m, ∃ i, i < m ∧ y = d[i]!) ∧ (∀ i, i < m → d[i]! ∈ compactUpTo d m) := by
  intro m
  induction m with
  | zero => intro _; exact ⟨by simp [compactUpTo], by simp [compactUpTo], fun i h => by omega⟩
  | succ m ih =>
    intro hm
    obtain ⟨h1, h2, h3⟩ := ih (by omega)
    rw [compactUpTo_succ]
    by_cases hk : keeps d m = true
    · rw [if_pos hk]
      refine ⟨?_, ?_, ?_⟩
      · rw [List.pairwise_append]
        refine ⟨h1, List.pairwise_singleton _ _, fun y hy z hz => ?_⟩
        rw [List.mem_singleton] at hz
        subst hz
        obtain ⟨i, hi, rfl⟩ := h2 y hy
        have hne : d[m]! ≠ d[m - 1]! := by
          unfold keeps at hk
          rcases of_decide_eq_true hk with h | h
          · omega
          · exact h
        have hle : d[m - 1]! ≤ d[m]! := hs _ _ (by omega) (by omega)
        have hlt : d[m - 1]! < d[m]! := Classical.byContradiction fun h => hne (List.le_antisymm (show d[m]! ≤ d[m - 1]! from h) hle)
        rcases Nat.lt_or_ge i (m - 1) with h | h
        · exact List.lt_of_le_of_lt (hs i (m - 1) h (by omega)) hlt
        · obtain rfl : i = m - 1 := by omega
          exact hlt
      · intro y hy
        rcases List.mem_append.1 hy with hy | hy
        · obtain ⟨i, hi, e⟩ := h2 y hy
          exact ⟨i, by omega, e⟩
        · exact ⟨m, by omega, by simpa using hy⟩
      · intro i hi
        rw [List.mem_append]
        rcases Nat.lt_or_ge i m with h | h
        · exact .inl (h3 i h)
        · obtain rfl : i = m := by omega
          exact .inr (by simp)
    · rw [if_neg hk, List.append_nil]
      refine ⟨h1, fun y hy => ?_, fun i hi => ?_⟩
      · obtain ⟨i, hi, e⟩ := h2 y hy
        exact ⟨i, by omega, e⟩
      · rcases Nat.lt_or_ge i m with h | h
        · exact h3 i h
        · obtain rfl : i = m := by omega
          have hn : ¬ (i = 0 ∨ d[i]! ≠ d[i - 1]!) := fun e => hk (by unfold keeps; exact decide_eq_true e)
          have he : d[i]! = d[i - 1]! := Classical.byContradiction fun e => hn (.inr e)
          rw [he]
          exact h3 (i - 1) (by have : i ≠ 0 := fun e => hn (.inl e); omega)

def bytesOf (l : List UInt8) : ByteArray := ⟨l.toArray⟩
def listOf (a : ByteArray) : List UInt8 := a.data.toList
theorem bytesOf_listOf (a : ByteArray) : bytesOf (listOf a) = a := by cases a; rfl
theorem listOf_bytesOf (l : List UInt8) : listOf (bytesOf l) = l := by simp [listOf, bytesOf]

/-- sorted and compacted it is the set -/
theorem compact_sorted (xs : List ByteArray) : (compact ((xs.map listOf).mergeSort fun x y => decide (x ≤ y))).map bytesOf = setOfL xs := by
  generalize hZ : (xs.map listOf).mergeSort (fun x y => decide (x ≤ y)) = zs
  have hperm : zs.Perm (xs.map listOf) := by rw [← hZ]; exact List.mergeSort_perm _ _
  have hsort : zs.Pairwise (fun x y => x ≤ y) := by
    rw [← hZ]
    have := List.pairwise_mergeSort (le := fun (x y : List UInt8) => decide (x ≤ y)) (fun a b c h1 h2 => by
      simp only [decide_eq_true_eq] at *
      exact List.le_trans h1 h2) (fun a b => by
      simp only [Bool.or_eq_true, decide_eq_true_eq]
      exact List.le_total a b) (xs.map listOf)
    exact this.imp (fun h => by simpa using h)
  have hs : ∀ i j, i < j → j < zs.toArray.size → zs.toArray[i]! ≤ zs.toArray[j]! := by
    intro i j hij hj
    have hj' : j < zs.length := by simpa using hj
    rw [getElem!_pos zs.toArray i (by simp; omega), getElem!_pos zs.toArray j (by simpa using hj')]
    simpa using List.pairwise_iff_getElem.1 hsort i j (by omega) hj' hij
  obtain ⟨h1, h2, h3⟩ := compactUpTo_spec zs.toArray hs zs.length (by simp)
  refine asc_unique ?_ (setOfL_asc xs) ?_
  · unfold Asc
    rw [List.pairwise_map]
    refine h1.imp (fun {a b} h => ?_)
    rw [sl_lt, toList_data, toList_data]
    exact decide_eq_true (by simpa [bytesOf] using h)
  · intro x
    rw [setOfL_mem_iff, List.mem_map]
    constructor
    · rintro ⟨y, hy, rfl⟩
      obtain ⟨i, hi, rfl⟩ := h2 y hy
      have : zs.toArray[i]! ∈ zs := by rw [getElem!_pos zs.toArray i (by simpa using hi)]; simp
      obtain ⟨z, hz, e⟩ := List.mem_map.1 (hperm.mem_iff.1 this)
      rw [← e, bytesOf_listOf]
      exact hz
    · intro hx
      have : listOf x ∈ zs := hperm.mem_iff.2 (List.mem_map.2 ⟨x, hx, rfl⟩)
      obtain ⟨i, hi, e⟩ := List.mem_iff_getElem.1 this
      refine ⟨listOf x, ?_, bytesOf_listOf x⟩
      have h4 := h3 i hi
      rw [getElem!_pos zs.toArray i (by simpa using hi)] at h4
      rw [← e]
      simpa [compact] using h4
theorem compact_len (xs : List ByteArray) : (compact ((xs.map listOf).mergeSort fun x y => decide (x ≤ y))).length = (setOfL xs).length := by
  rw [← compact_sorted, List.length_map]

end Go.Proofs.YtfmlpaplnkohpaaGreatDoor

namespace Go.Proofs
open Go.Shelf
def Tryz.keysB_ren : Go.Shelf.Ren := ⟨fun | 7 => 110 | 10 => 153 | n => n, fun | 23 => 131 | 26 => 9 | 3 => 4 | 28 => 134 | 0 => 0 | 27 => 133 | 33 => 101 | 4 => 4 | n => n, fun | n => n⟩
theorem Tryz.keysB : Go.Proofs.SlLaysZ.n7 Tryz.prog Tryz.keysB_ren := {
  mixed := by kernel_rfl
  f7 := ⟨Tryz.f110.name, by decide, Tryz.func110.trans (congrArg some (by kernel_rfl))⟩
  f10 := ⟨Tryz.f153.name, by decide, Tryz.func153.trans (congrArg some (by kernel_rfl))⟩
  t0 := Tryz.underlying0
  a0 := Tryz.isAgg0
  z0 := Tryz.sizeOf0
  v0 := Tryz.zeroValue0
  t4 := Tryz.underlying4
  a4 := Tryz.isAgg4
  z4 := Tryz.sizeOf4
  v4 := Tryz.zeroValue4
  t23 := Tryz.underlying131
  a23 := Tryz.isAgg131
  z23 := Tryz.sizeOf131
  v23 := Tryz.zeroValue131
  t26 := Tryz.underlying9
  a26 := Tryz.isAgg9
  z26 := Tryz.sizeOf9
  v26 := Tryz.zeroValue9
  t27 := Tryz.underlying133
  a27 := Tryz.isAgg133
  z27 := Tryz.sizeOf133
  v27 := Tryz.zeroValue133
  t28 := Tryz.underlying134
  a28 := Tryz.isAgg134
  z28 := Tryz.sizeOf134
  v28 := Tryz.zeroValue134
  t33 := Tryz.underlying101
  a33 := Tryz.isAgg101
  z33 := Tryz.sizeOf101
  v33 := Tryz.zeroValue101 }
def Tryz.sortedB_ren : Go.Shelf.Ren := ⟨fun | 6 => 109 | 8 => 151 | 9 => 152 | 11 => 177 | 13 => 93 | 12 => 178 | 23 => 131 | 24 => 132 | 14 => 187 | 15 => 188 | 16 => 189 | 17 => 190 | 18 => 191 | 19 => 192 | 20 => 193 | 21 => 194 | 22 => 195 | 25 => 201 | 26 => 163 | 27 => 164 | 28 => 202 | 29 => 203 | 30 => 198 | 31 => 205 | n => n, fun | 26 => 9 | 28 => 134 | 24 => 44 | 0 => 0 | 3 => 3 | 37 => 122 | 48 => 151 | 50 => 153 | 4 => 4 | 40 => 144 | 39 => 143 | 45 => 148 | 5 => 5 | 9 => 9 | 51 => 173 | 55 => 177 | 57 => 195 | 58 => 196 | 33 => 101 | n => n, fun | n => n⟩
theorem Tryz.sortedB : Go.Proofs.SlLaysZ.n6 Tryz.prog Tryz.sortedB_ren := {
  mixed := by kernel_rfl
  f6 := ⟨Tryz.f109.name, by decide, Tryz.func109.trans (congrArg some (by kernel_rfl))⟩
  f8 := ⟨Tryz.f151.name, by decide, Tryz.func151.trans (congrArg some (by kernel_rfl))⟩
  f11 := ⟨Tryz.f177.name, by decide, Tryz.func177.trans (congrArg some (by kernel_rfl))⟩
  t0 := Tryz.underlying0
  a0 := Tryz.isAgg0
  z0 := Tryz.sizeOf0
  v0 := Tryz.zeroValue0
  t24 := Tryz.underlying44
  a24 := Tryz.isAgg44
  z24 := Tryz.sizeOf44
  v24 := Tryz.zeroValue44
  t26 := Tryz.underlying9
  a26 := Tryz.isAgg9
  z26 := Tryz.sizeOf9
  v26 := Tryz.zeroValue9
  t28 := Tryz.underlying134
  a28 := Tryz.isAgg134
  z28 := Tryz.sizeOf134
  v28 := Tryz.zeroValue134
  i26 := by kernel_rfl }
def Tryz.sortB_ren : Go.Shelf.Ren := ⟨fun | 6 => 152 | 8 => 93 | 9 => 178 | 19 => 131 | 20 => 132 | 21 => 187 | 22 => 188 | 23 => 189 | 24 => 190 | 25 => 191 | 26 => 192 | 27 => 193 | 28 => 194 | 29 => 195 | 36 => 201 | 31 => 163 | 32 => 164 | 37 => 202 | 38 => 203 | 39 => 198 | 41 => 205 | n => n, fun | 27 => 44 | 29 => 9 | 3 => 3 | 32 => 122 | 26 => 44 | 0 => 0 | 44 => 151 | 46 => 153 | 4 => 4 | 36 => 144 | 35 => 143 | 41 => 148 | 5 => 5 | 9 => 9 | 53 => 173 | 57 => 177 | 63 => 195 | 64 => 196 | n => n, fun | n => n⟩
theorem Tryz.sortB : Go.Proofs.SlLaysM.n6 Tryz.prog Tryz.sortB_ren := {
  mixed := by kernel_rfl
  f6 := ⟨Tryz.f152.name, by decide, Tryz.func152.trans (congrArg some (by kernel_rfl))⟩
  f8 := Tryz.func93.trans (congrArg some (by kernel_rfl))
  f9 := ⟨Tryz.f178.name, by decide, Tryz.func178.trans (congrArg some (by kernel_rfl))⟩
  f19 := Tryz.func131.trans (congrArg some (by kernel_rfl))
  f20 := Tryz.func132.trans (congrArg some (by kernel_rfl))
  f21 := ⟨Tryz.f187.name, by decide, Tryz.func187.trans (congrArg some (by kernel_rfl))⟩
  f22 := ⟨Tryz.f188.name, by decide, Tryz.func188.trans (congrArg some (by kernel_rfl))⟩
  f23 := ⟨Tryz.f189.name, by decide, Tryz.func189.trans (congrArg some (by kernel_rfl))⟩
  f24 := ⟨Tryz.f190.name, by decide, Tryz.func190.trans (congrArg some (by kernel_rfl))⟩
  f25 := ⟨Tryz.f191.name, by decide, Tryz.func191.trans (congrArg some (by kernel_rfl))⟩
  f26 := ⟨Tryz.f192.name, by decide, Tryz.func192.trans (congrArg some (by kernel_rfl))⟩
  f27 := ⟨Tryz.f193.name, by decide, Tryz.func193.trans (congrArg some (by kernel_rfl))⟩
  f28 := ⟨Tryz.f194.name, by decide, Tryz.func194.trans (congrArg some (by kernel_rfl))⟩
  f29 := ⟨Tryz.f195.name, by decide, Tryz.func195.trans (congrArg some (by kernel_rfl))⟩
  f31 := Tryz.func163.trans (congrArg some (by kernel_rfl))
  f32 := Tryz.func164.trans (congrArg some (by kernel_rfl))
  f36 := ⟨Tryz.f201.name, by decide, Tryz.func201.trans (congrArg some (by kernel_rfl))⟩
  f37 := ⟨Tryz.f202.name, by decide, Tryz.func202.trans (congrArg some (by kernel_rfl))⟩
  f38 := ⟨Tryz.f203.name, by decide, Tryz.func203.trans (congrArg some (by kernel_rfl))⟩
  f39 := ⟨Tryz.f198.name, by decide, Tryz.func198.trans (congrArg some (by kernel_rfl))⟩
  f41 := ⟨Tryz.f205.name, by decide, Tryz.func205.trans (congrArg some (by kernel_rfl))⟩
  t0 := Tryz.underlying0
  a0 := Tryz.isAgg0
  z0 := Tryz.sizeOf0
  v0 := Tryz.zeroValue0
  t3 := Tryz.underlying3
  a3 := Tryz.isAgg3
  z3 := Tryz.sizeOf3
  v3 := Tryz.zeroValue3
  t4 := Tryz.underlying4
  a4 := Tryz.isAgg4
  z4 := Tryz.sizeOf4
  v4 := Tryz.zeroValue4
  t5 := Tryz.underlying5
  a5 := Tryz.isAgg5
  z5 := Tryz.sizeOf5
  v5 := Tryz.zeroValue5
  t9 := Tryz.underlying9
  a9 := Tryz.isAgg9
  z9 := Tryz.sizeOf9
  v9 := Tryz.zeroValue9
  t26 := Tryz.underlying44
  a26 := Tryz.isAgg44
  z26 := Tryz.sizeOf44
  v26 := Tryz.zeroValue44
  t27 := Tryz.underlying44
  a27 := Tryz.isAgg44
  z27 := Tryz.sizeOf44
  v27 := Tryz.zeroValue44
  t29 := Tryz.underlying9
  a29 := Tryz.isAgg9
  z29 := Tryz.sizeOf9
  v29 := Tryz.zeroValue9
  t32 := Tryz.underlying122
  a32 := Tryz.isAgg122
  z32 := Tryz.sizeOf122
  v32 := Tryz.zeroValue122
  t35 := Tryz.underlying143
  a35 := Tryz.isAgg143
  z35 := Tryz.sizeOf143
  v35 := Tryz.zeroValue143
  t36 := Tryz.underlying144
  a36 := Tryz.isAgg144
  z36 := Tryz.sizeOf144
  v36 := Tryz.zeroValue144
  t41 := Tryz.underlying148
  a41 := Tryz.isAgg148
  z41 := Tryz.sizeOf148
  v41 := Tryz.zeroValue148
  t44 := Tryz.underlying151
  a44 := Tryz.isAgg151
  z44 := Tryz.sizeOf151
  v44 := Tryz.zeroValue151
  t46 := Tryz.underlying153
  a46 := Tryz.isAgg153
  z46 := Tryz.sizeOf153
  v46 := Tryz.zeroValue153
  t53 := Tryz.underlying173
  a53 := Tryz.isAgg173
  z53 := Tryz.sizeOf173
  v53 := Tryz.zeroValue173
  t57 := Tryz.underlying177
  a57 := Tryz.isAgg177
  z57 := Tryz.sizeOf177
  v57 := Tryz.zeroValue177
  t63 := Tryz.underlying195
  a63 := Tryz.isAgg195
  z63 := Tryz.sizeOf195
  v63 := Tryz.zeroValue195
  t64 := Tryz.underlying196
  a64 := Tryz.isAgg196
  z64 := Tryz.sizeOf196
  v64 := Tryz.zeroValue196 }
def Tryz.layCloneT_ren : Go.Shelf.Ren := ⟨fun | 316 => 114 | n => n, fun | 9 => 9 | 3 => 3 | 4 => 4 | 37 => 168 | 0 => 0 | 127 => 169 | 5 => 5 | n => n, fun | n => n⟩
theorem Tryz.layCloneT : Go.Proofs.LaysM.n316 Tryz.prog Tryz.layCloneT_ren := {
  mixed := by kernel_rfl
  f316 := Tryz.func114.trans (congrArg some (by kernel_rfl))
  t0 := Tryz.underlying0
  a0 := Tryz.isAgg0
  z0 := Tryz.sizeOf0
  v0 := Tryz.zeroValue0
  t3 := Tryz.underlying3
  a3 := Tryz.isAgg3
  z3 := Tryz.sizeOf3
  v3 := Tryz.zeroValue3
  t4 := Tryz.underlying4
  a4 := Tryz.isAgg4
  z4 := Tryz.sizeOf4
  v4 := Tryz.zeroValue4
  t9 := Tryz.underlying9
  a9 := Tryz.isAgg9
  z9 := Tryz.sizeOf9
  v9 := Tryz.zeroValue9
  t37 := Tryz.underlying168
  a37 := Tryz.isAgg168
  z37 := Tryz.sizeOf168
  v37 := Tryz.zeroValue168
  t127 := Tryz.underlying169
  a127 := Tryz.isAgg169
  z127 := Tryz.sizeOf169
  v127 := Tryz.zeroValue169
  t5 := Tryz.underlying5
  a5 := Tryz.isAgg5
  z5 := Tryz.sizeOf5
  v5 := Tryz.zeroValue5
  i0 := by kernel_rfl
  i3 := by kernel_rfl
  i4 := by kernel_rfl
  i5 := by kernel_rfl
  i9 := by kernel_rfl
  i37 := by kernel_rfl
  i127 := by kernel_rfl }
end Go.Proofs

namespace Go.Proofs.YtfmlpaplnkohpaaGreatDoor
open Go.RowKit Go.Shelf

def keyB (s : ByteArray) : Lit := .string s.data.toList
theorem keyB_inj {s t : ByteArray} (h : keyB s = keyB t) : s = t := by
  obtain ⟨⟨s⟩⟩ := s
  obtain ⟨⟨t⟩⟩ := t
  simp [keyB] at h
  subst h
  rfl
theorem law_strB : Go.Maps.Keyed Tryz.prog 9 := Go.Maps.string_keyed Tryz.underlying9
theorem key_strB {s : ByteArray} (hs : s.size ≤ maxLen) : keyOf Tryz.prog 9 (.string s) = some (keyB s) := Go.WideMaps.keyOf_string_mk Tryz.underlying9 hs
theorem sortsB (m : Nat) : Go.Proofs.AnyZ.SortsIn Tryz.prog Tryz.sortedB_ren Fence.wide m :=
  ⟨fun blk off cap ss W hH hblk hsz => callsIn_wide.2 (AnyM.slices_Sort_string Tryz.sortB blk off cap ss W hH hblk hsz),
   fun p cap W => callsIn_wide.2 (AnyM.slices_Sort_string_none Tryz.sortB p cap W)⟩
/-- a map's datum is the set of the texts X -/
structure SetOk (D : DataW Unit) (X : List ByteArray) : Prop where
  map : Go.Maps.IsMap D
  has : ∀ s, Go.Maps.has D (keyB s) = true ↔ s ∈ X
theorem SetOk.start : SetOk (.map []) [] := ⟨Go.Maps.isMap_empty, fun s => by simp [Go.Maps.has]⟩
theorem SetOk.put {D : DataW Unit} {X : List ByteArray} (h : SetOk D X) (s : ByteArray) (d : DataW Unit) : SetOk (D.put (keyB s) d) (X ++ [s]) := by
  have hk : Go.WideAt.IsKeyLit (keyB s) := by unfold keyB Go.WideAt.IsKeyLit; trivial
  refine ⟨h.map.put _ _, fun t => ?_⟩
  by_cases e : t = s
  · subst e
    rw [Go.Maps.has_put_same h.map hk]
    simp
  · rw [Go.Maps.has_put_other (fun e2 => e (keyB_inj e2)), h.has t]
    simp [e]
def MapS (w : World) (b n : Nat) (X : List ByteArray) : Prop := ∃ D : DataW Unit, w.ownsMap Tryz.prog 9 (plainElem (H := Unit) Tryz.prog 4) b n D ∧ SetOk D X
section
variable {w w' : World} {b n : Nat} {X : List ByteArray}
theorem MapS.later (h : MapS w b n X) (hk : w'.heap[b]? = w.heap[b]?) : MapS w' b n X := by
  obtain ⟨D, ⟨es, clock, hb, Ft, hs, hD⟩, ho⟩ := h
  exact ⟨D, ⟨es, clock, hk.trans hb, Ft, hs, hD⟩, ho⟩
theorem MapS.lt (h : MapS w b n X) : b < w.heap.size := by
  obtain ⟨D, hown, ho⟩ := h
  exact hown.lt
theorem MapS.made (w : World) : MapS (w.alloc (.map #[] 0)) w.heap.size 0 [] := ⟨_, World.ownsMap_made w Tryz.prog 9 _, SetOk.start⟩
theorem MapS.put (h : MapS w b n X) {s : ByteArray} (hs : s.size ≤ maxLen) (hn : n < maxLen) : ∃ w', (Instr.mapUpdate 131 (.map (some b)) (.string s) (.bool true)).run Tryz.prog w = .ok () w' ∧ MapS w' b (n + 1) (X ++ [s]) ∧ w.grownBy w' (some b) := by
  obtain ⟨D, hown, ho⟩ := h
  obtain ⟨w', h1, h2, h3⟩ := hown.update law_strB Tryz.underlying131 hn (key_strB hs) (plainElem_bool Tryz.underlying4 true)
  exact ⟨w', h1, ⟨_, h2, ho.put s _⟩, h3⟩
end
theorem lib_KeysB (mb : Option Nat) (W : World) : Calls Tryz.prog 110 #[.map mb] W fun e w' => e = .returned (.func (.func 153) #[] #[.pointer (some ⟨W.heap.size, 0, none⟩)]) ∧ w' = W.alloc (.cells #[.map mb] 131) :=
  callsIn_wide.1 (AnyZ.keys_in Tryz.keysB Fence.wide 5 trivial rfl mb W)

set_option maxHeartbeats 1000000 in
theorem lib_SortedB (b nn : Nat) (D0 : DataW Unit) (R : Value → Option (DataW Unit × List MemPlace)) (w : World) (hown : w.ownsMap Tryz.prog 9 R b nn D0) (hmax : Go.Maps.size D0 ≤ 268435456) :
    Calls Tryz.prog 109 #[.func (.func 153) #[] #[.pointer (some ⟨w.heap.size, 0, none⟩)]] (w.alloc (.cells #[.map (some b)] 131)) fun e w' => ∃ (v : Value) (ss : List (List UInt8)), e = .returned v ∧ ss.Perm (strKeys D0) ∧
      w'.ownsRow (w.alloc (.cells #[.map (some b)] 131)).heap.size 9 1 v ss.length ((ss.mergeSort (fun x y => decide (x ≤ y))).map encStr) ∧ Below (w.alloc (.cells #[.map (some b)] 131)).heap.size (w.alloc (.cells #[.map (some b)] 131)) w' := by
  have hbl := hown.lt
  have hseq : SeqGives Fence.wide 2 Tryz.prog 153 #[.pointer (some ⟨w.heap.size, 0, none⟩)] encStr (fun ss => ss.Perm (strKeys D0)) (Go.Maps.size D0) (w.alloc (.cells #[.map (some b)] 131)) :=
    AnyZ.keys_gives (ρ := Tryz.keysB_ren) { Tryz.keysB with } Fence.wide _ trivial rfl (by omega) w.heap.size b nn D0 _ (by simp) (by simp) (by
      obtain ⟨es, clock, hb, Ft, hs, hD⟩ := hown
      exact ⟨es, clock, (Below.heap_alloc _ _ b hbl).trans hb, Ft, hs, hD⟩)
  refine (callsIn_wide.1 (AnyZ.sorted_in Tryz.sortedB Fence.wide 5 trivial trivial trivial trivial rfl (by omega) (sortsB _) (enters_of Tryz.func152 (by kernel_rfl) rfl) 153 #[.pointer (some ⟨w.heap.size, 0, none⟩)] trivial (enters_of Tryz.func153 (by kernel_rfl) rfl) _ _ (by unfold maxLen; omega) (by omega) _ hseq)).mono ?_
  rintro e w' ⟨v, ss, h1, h2, h3, -, h4⟩
  exact ⟨v, ss, h1, h2, h3, h4⟩

theorem set_sorted {D : DataW Unit} {X : List ByteArray} (hg : SetOk D X) {w : World} {R : Value → Option (DataW Unit × List MemPlace)} {b nn : Nat} (hown : w.ownsMap Tryz.prog 9 R b nn D) {ss : List (List UInt8)} (hp : ss.Perm (strKeys D)) :
    ss.mergeSort (fun x y => decide (x ≤ y)) = (setOfL X).map listOf := by
  obtain ⟨es, hD, hpw, -⟩ := hown.entries law_strB
  obtain ⟨es', hD', hko⟩ := hown.keysOf
  obtain rfl : es = es' := by rw [hD] at hD'; simpa using hD'
  subst hD
  have hasc := setOfL_asc X
  have hpair : ((setOfL X).map listOf).Pairwise (fun x y => x < y) := by
    refine List.pairwise_map.2 (hasc.imp fun {a b} h => ?_)
    rw [sl_lt, ByteArray.toList_eq, ByteArray.toList_eq] at h
    simpa [listOf] using h
  have hperm : ((setOfL X).map listOf).Perm (strKeys (.map es)) := perm_strKeys hpw (fun p hp => by obtain ⟨v, hv⟩ := hko p hp; obtain ⟨x, _, hx, _⟩ := Maps.keyOf_str Tryz.underlying9 hv; exact ⟨x, hx⟩)
    (hpair.imp fun h => fun e => by subst e; exact List.lt_irrefl _ h) (fun x => by
      have h1 := hg.has ⟨⟨x⟩⟩
      have h2 : keyB ⟨⟨x⟩⟩ = .string x := rfl
      rw [h2] at h1
      rw [h1, ← setOfL_mem_iff, List.mem_map]
      constructor
      · rintro ⟨a, ha, rfl⟩
        exact ha
      · intro h
        exact ⟨⟨⟨x⟩⟩, h, rfl⟩)
  have h3 := mergeSort_of_perm (hp.trans hperm.symm)
  refine h3.trans (List.mergeSort_of_pairwise (hpair.imp fun h => by simp only [leB, decide_eq_true_eq]; exact List.le_of_lt h))

/-- the sorted keys of a set of texts -/
theorem set_Sorted (b nn : Nat) (X : List ByteArray) (w : World) (h : MapS w b nn X) (hn : nn ≤ 268435456) :
    Calls Tryz.prog 109 #[.func (.func 153) #[] #[.pointer (some ⟨w.heap.size, 0, none⟩)]] (w.alloc (.cells #[.map (some b)] 131)) (GivesS (w.alloc (.cells #[.map (some b)] 131)) (setOfL X)) := by
  obtain ⟨D, hown, ho⟩ := h
  refine (lib_SortedB b nn D _ w hown (Nat.le_trans hown.size_le hn)).mono ?_
  rintro e w' ⟨v, ss, rfl, hp, hrow, hb⟩
  have h1 := set_sorted ho hown hp
  have hl : ss.length = (setOfL X).length := by simpa using congrArg List.length h1
  have h2 : ((setOfL X).map listOf).map encStr = (setOfL X).map Value.string := by
    rw [List.map_map]
    rfl
  rw [h1, hl, h2] at hrow
  obtain ⟨a, c, rfl⟩ := own_slice hrow
  exact ⟨a, c, rfl, hrow, hb⟩
end Go.Proofs.YtfmlpaplnkohpaaGreatDoor

namespace Go.Proofs.YtfmlpaplnkohpaaGreatDoor
open Go.RowKit Go.ChangeMaps

section
variable {P : Program} {w : World} {t k e : TypeId} {q : IntKind} {b : Nat} {es : Array MapEntry} {clock : Nat} {z : Int}

/-- the entry of a number -/
def findI (q : IntKind) (z : Int) (es : Array MapEntry) : Option (Option (Nat × Value)) := Instr.findNow (.int q) (.int q z) es.toList 0
/-- a new entry -/
theorem known_update (ht : P.underlying t = some (.map k e)) (hk : P.underlying k = some (.int q)) (hb : w.heap[b]? = some (.map es clock)) (h1 : findI q z es = some none) (v : Value) :
    (Instr.mapUpdate t (.map (some b)) (.int q z) v).run P w = .ok () (setBlock w b (.map (es.push ⟨.int q z, v, clock⟩) (clock + 1))) := by
  have hkey : MapKept.IsKey (.int q) (.int q z) := rfl
  simp [Instr.mapUpdate, run_underlying ht, MapKept.run_getObj_map hb, MapKept.run_checkKey hk hkey, MapKept.run_findKey hk h1, MapKept.run_setObj_map _ hb, Result.andThen, setBlock]
/-- an entry that is there -/
theorem known_look {i : Nat} {v : Value} (ok : Bool) (ht : P.underlying t = some (.map k e)) (hk : P.underlying k = some (.int q)) (hb : w.heap[b]? = some (.map es clock)) (h1 : findI q z es = some (some (i, v))) :
    (Instr.lookup t (.map (some b)) (.int q z) ok).run P w = .ok (if ok then .tuple #[v, .bool true] else v) w := by
  have hkey : MapKept.IsKey (.int q) (.int q z) := rfl
  simp [Instr.lookup, run_underlying ht, MapKept.run_getObj_map hb, MapKept.run_checkKey hk hkey, MapKept.run_findKey hk h1, Result.andThen]
/-- an entry that is missing -/
theorem known_none {zv : Value} (ok : Bool) (ht : P.underlying t = some (.map k e)) (hk : P.underlying k = some (.int q)) (hz : (zeroValue e).run P w = .ok zv w) (hb : w.heap[b]? = some (.map es clock)) (h1 : findI q z es = some none) :
    (Instr.lookup t (.map (some b)) (.int q z) ok).run P w = .ok (if ok then .tuple #[zv, .bool false] else zv) w := by
  have hkey : MapKept.IsKey (.int q) (.int q z) := rfl
  simp [Instr.lookup, run_underlying ht, MapKept.run_getObj_map hb, MapKept.run_checkKey hk hkey, MapKept.run_findKey hk h1, hz, Result.andThen]
/-- a new entry, in words -/
theorem known_put (ht : P.underlying t = some (.map k e)) (hk : P.underlying k = some (.int q)) (hb : w.heap[b]? = some (.map es clock)) (h1 : findI q z es = some none) (v : Value) :
    ∃ w', (Instr.mapUpdate t (.map (some b)) (.int q z) v).run P w = .ok () w' ∧ w'.heap[b]? = some (.map (es.push ⟨.int q z, v, clock⟩) (clock + 1)) ∧ w'.heap.size = w.heap.size ∧ ∀ B w0, B ≤ b → Below B w0 w → Below B w0 w' := by
  have hlt : b < w.heap.size := (Array.getElem?_eq_some_iff.1 hb).1
  refine ⟨_, known_update ht hk hb h1 v, by simp [setBlock, hlt], by simp [setBlock], fun B w0 hB h => ⟨h.os, h.tape, h.output, by simpa [setBlock] using h.size, fun i hi => ?_⟩⟩
  rw [show (setBlock w b (.map (es.push ⟨.int q z, v, clock⟩) (clock + 1))).heap[i]? = w.heap[i]? from by simp [setBlock, Array.getElem?_setIfInBounds, show ¬ b = i by omega]]
  exact h.block i hi
theorem setBlock_new (hb : b < w.heap.size) (o : Obj) : (setBlock w b o).heap[b]? = some o := by simp [setBlock, hb]
theorem setBlock_other {i : Nat} (hi : i ≠ b) (o : Obj) : (setBlock w b o).heap[i]? = w.heap[i]? := by simp [setBlock, Array.getElem?_setIfInBounds, Ne.symm hi]
theorem setBlock_size (o : Obj) : (setBlock w b o).heap.size = w.heap.size := by simp [setBlock]
theorem Below.setBlock {B : Nat} {w0 : World} (h : Below B w0 w) (hb : B ≤ b) (o : Obj) : Below B w0 (setBlock w b o) :=
  ⟨h.os, h.tape, h.output, by rw [setBlock_size]; exact h.size, fun i hi => (setBlock_other (by omega) o).trans (h.block i hi)⟩
end
end Go.Proofs.YtfmlpaplnkohpaaGreatDoor

namespace Go.Proofs.YtfmlpaplnkohpaaGreatDoor
open Go.RowKit

def actV (c : Bool) (t m : Int) (f : Nat) : Value := .agg #[.bool c, .int .i64 t, .int .i64 m, .func (.func f) #[] #[]]
def actE (k : Int) (v : Value) (n : Nat) : MapEntry := ⟨.int .i64 k, v, n⟩
def actM : Array MapEntry := #[actE 1 (actV true 1024 0 115) 0, actE 2 (actV true 0 0 115) 1, actE 3 (actV false 0 64 116) 2, actE 4 (actV false 0 0 117) 3, actE 5 (actV true 0 0 120) 4]
def Acts (w w' : World) (b : Nat) : Prop := w.heap.size ≤ b ∧ w'.heap[b]? = some (.map actM 5) ∧ Below w.heap.size w w'

set_option maxRecDepth 100000 in
set_option maxHeartbeats 1000000 in
theorem expl_actions (w : World) : Calls Tryz.prog 86 #[] w (fun e w' => ∃ b, e = .returned (.map (some b)) ∧ Acts w w' b) := by
  have hm0 : (w.alloc (.map #[] 0)).heap[w.heap.size]? = some (.map #[] 0) := heap_alloc_new w _
  have hb0 : Below w.heap.size w (w.alloc (.map #[] 0)) := (Below.refl _ _).alloc (Nat.le_refl _) _
  have ht := Tryz.underlying116
  have hk := Tryz.underlying3
  obtain ⟨W1, r1, m1, -, b1⟩ := known_put (z := 1) ht hk hm0 rfl (actV true 1024 0 115)
  have hb1 := b1 _ _ (Nat.le_refl _) hb0
  obtain ⟨W2, r2, m2, -, b2⟩ := known_put (z := 2) ht hk m1 rfl (actV true 0 0 115)
  have hb2 := b2 _ _ (Nat.le_refl _) hb1
  obtain ⟨W3, r3, m3, -, b3⟩ := known_put (z := 3) ht hk m2 rfl (actV false 0 64 116)
  have hb3 := b3 _ _ (Nat.le_refl _) hb2
  obtain ⟨W4, r4, m4, -, b4⟩ := known_put (z := 4) ht hk m3 rfl (actV false 0 0 117)
  have hb4 := b4 _ _ (Nat.le_refl _) hb3
  obtain ⟨W5, r5, m5, -, b5⟩ := known_put (z := 5) ht hk m4 rfl (actV true 0 0 120)
  have HB5 := hid (b5 _ _ (Nat.le_refl _) hb4)
  have HM5 := hid m5
  clear b1 b2 b3 b4 b5 m1 m2 m3 m4 m5 hb0 hb1 hb2 hb3 hb4 ht hk hm0
  unfold actV at r1 r2 r3 r4 r5
  have hmm := @run_makeMap Tryz.prog
  go_enter Tryz.func86, Tryz.ntmps86
  go_wp2
  go_ret
  exact ⟨_, rfl, Nat.le_refl _, HM5.out, HB5.out⟩
end Go.Proofs.YtfmlpaplnkohpaaGreatDoor
