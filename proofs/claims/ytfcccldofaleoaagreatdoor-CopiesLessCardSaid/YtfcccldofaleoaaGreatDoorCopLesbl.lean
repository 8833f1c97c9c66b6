/- DERIVED: THE SHELF's CONTRACTS AT THIS DUMP, IN PLAIN WORDS (tools/lay-plain.mjs out of 'YtfcccldofaleoaaGreatDoorShCL.lean', which tools/lay-shelf.mjs wrote): THE SAME DECLARATIONS UNDER THE SAME NAMES: 'import', 'namespace', 'open', 'def', 'theorem' AND NOTHING ELSE: no command of the shelf's: FOR A HAND-IN. Each laying: the table of numbers ('.._ren') and one theorem, a field a fact of the dump's own or the kernel's comparison; each contract: ONE APPLICATION. Plain: a sorted list of texts without repetitions is the set of its texts; two sets with the same texts are one. No program in sight. Plain: tables with their rows and columns in another order have as much in common. No program in sight. Plain: sorted names. No program in sight. -/
import Derived.Shelf.SlicesG.Clone
import Derived.Shelf.SlicesG.CompactS
import Derived.Shelf.SlicesG.Equal
import Derived.Shelf.SortM.Plain
import Derived.Shelf.SortM.SortNone
import Derived.Shelf.Strconv.Itoa3
import Derived.Shelf.SlicesQ.IndexFunc
import Derived.Ground.SlgnProg
import Derived.Ground.SlgmProg
import Derived.Test.YtfcccldofaleoaaGreatDoorProg
import Derived.Lib.SlicesCompact
import Derived.Sort.EncStr
import Derived.Sort.Walk0
import Derived.Test.YtfcccldofaleoaaGreatDoorCopLesaa
import Derived.Test.YtfcccldofaleoaaGreatDoorCopLesad
namespace Go.Proofs
open Go.Shelf
def Tryz.sortC_ren : Go.Shelf.Ren := ⟨fun | 6 => 42 | 8 => 72 | 9 => 71 | 19 => 113 | 20 => 114 | 21 => 104 | 22 => 105 | 23 => 106 | 24 => 107 | 25 => 108 | 26 => 109 | 27 => 110 | 28 => 111 | 29 => 112 | 36 => 130 | 31 => 131 | 32 => 132 | 37 => 133 | 38 => 134 | 39 => 135 | 41 => 159 | n => n, fun | 27 => 37 | 29 => 9 | 3 => 3 | 32 => 119 | 26 => 37 | 0 => 0 | 44 => 133 | 46 => 156 | 4 => 4 | 36 => 147 | 35 => 146 | 41 => 152 | 5 => 5 | 9 => 9 | 53 => 166 | 57 => 170 | 63 => 189 | 64 => 190 | n => n, fun | n => n⟩
theorem Tryz.sortC : Go.Proofs.SlLaysM.n6 Tryz.prog Tryz.sortC_ren := {
  mixed := by kernel_rfl
  f6 := ⟨Tryz.f42.name, by decide, Tryz.func42.trans (congrArg some (by kernel_rfl))⟩
  f8 := Tryz.func72.trans (congrArg some (by kernel_rfl))
  f9 := ⟨Tryz.f71.name, by decide, Tryz.func71.trans (congrArg some (by kernel_rfl))⟩
  f19 := Tryz.func113.trans (congrArg some (by kernel_rfl))
  f20 := Tryz.func114.trans (congrArg some (by kernel_rfl))
  f21 := ⟨Tryz.f104.name, by decide, Tryz.func104.trans (congrArg some (by kernel_rfl))⟩
  f22 := ⟨Tryz.f105.name, by decide, Tryz.func105.trans (congrArg some (by kernel_rfl))⟩
  f23 := ⟨Tryz.f106.name, by decide, Tryz.func106.trans (congrArg some (by kernel_rfl))⟩
  f24 := ⟨Tryz.f107.name, by decide, Tryz.func107.trans (congrArg some (by kernel_rfl))⟩
  f25 := ⟨Tryz.f108.name, by decide, Tryz.func108.trans (congrArg some (by kernel_rfl))⟩
  f26 := ⟨Tryz.f109.name, by decide, Tryz.func109.trans (congrArg some (by kernel_rfl))⟩
  f27 := ⟨Tryz.f110.name, by decide, Tryz.func110.trans (congrArg some (by kernel_rfl))⟩
  f28 := ⟨Tryz.f111.name, by decide, Tryz.func111.trans (congrArg some (by kernel_rfl))⟩
  f29 := ⟨Tryz.f112.name, by decide, Tryz.func112.trans (congrArg some (by kernel_rfl))⟩
  f31 := Tryz.func131.trans (congrArg some (by kernel_rfl))
  f32 := Tryz.func132.trans (congrArg some (by kernel_rfl))
  f36 := ⟨Tryz.f130.name, by decide, Tryz.func130.trans (congrArg some (by kernel_rfl))⟩
  f37 := ⟨Tryz.f133.name, by decide, Tryz.func133.trans (congrArg some (by kernel_rfl))⟩
  f38 := ⟨Tryz.f134.name, by decide, Tryz.func134.trans (congrArg some (by kernel_rfl))⟩
  f39 := ⟨Tryz.f135.name, by decide, Tryz.func135.trans (congrArg some (by kernel_rfl))⟩
  f41 := ⟨Tryz.f159.name, by decide, Tryz.func159.trans (congrArg some (by kernel_rfl))⟩
  t0 := Tryz.underlying0
  a0 := Tryz.isAgg0
  z0 := Tryz.sizeOf0
  v0 := Tryz.zeroValue0
  t3 := Tryz.underlying3
  a3 := Tryz.isAgg3
  z3 := Tryz.sizeOf3
  v3 := Tryz.zeroValue3
  t4 := Tryz.underlying4
  a4 := Tryz.isAgg4
  z4 := Tryz.sizeOf4
  v4 := Tryz.zeroValue4
  t5 := Tryz.underlying5
  a5 := Tryz.isAgg5
  z5 := Tryz.sizeOf5
  v5 := Tryz.zeroValue5
  t9 := Tryz.underlying9
  a9 := Tryz.isAgg9
  z9 := Tryz.sizeOf9
  v9 := Tryz.zeroValue9
  t26 := Tryz.underlying37
  a26 := Tryz.isAgg37
  z26 := Tryz.sizeOf37
  v26 := Tryz.zeroValue37
  t27 := Tryz.underlying37
  a27 := Tryz.isAgg37
  z27 := Tryz.sizeOf37
  v27 := Tryz.zeroValue37
  t29 := Tryz.underlying9
  a29 := Tryz.isAgg9
  z29 := Tryz.sizeOf9
  v29 := Tryz.zeroValue9
  t32 := Tryz.underlying119
  a32 := Tryz.isAgg119
  z32 := Tryz.sizeOf119
  v32 := Tryz.zeroValue119
  t35 := Tryz.underlying146
  a35 := Tryz.isAgg146
  z35 := Tryz.sizeOf146
  v35 := Tryz.zeroValue146
  t36 := Tryz.underlying147
  a36 := Tryz.isAgg147
  z36 := Tryz.sizeOf147
  v36 := Tryz.zeroValue147
  t41 := Tryz.underlying152
  a41 := Tryz.isAgg152
  z41 := Tryz.sizeOf152
  v41 := Tryz.zeroValue152
  t44 := Tryz.underlying133
  a44 := Tryz.isAgg133
  z44 := Tryz.sizeOf133
  v44 := Tryz.zeroValue133
  t46 := Tryz.underlying156
  a46 := Tryz.isAgg156
  z46 := Tryz.sizeOf156
  v46 := Tryz.zeroValue156
  t53 := Tryz.underlying166
  a53 := Tryz.isAgg166
  z53 := Tryz.sizeOf166
  v53 := Tryz.zeroValue166
  t57 := Tryz.underlying170
  a57 := Tryz.isAgg170
  z57 := Tryz.sizeOf170
  v57 := Tryz.zeroValue170
  t63 := Tryz.underlying189
  a63 := Tryz.isAgg189
  z63 := Tryz.sizeOf189
  v63 := Tryz.zeroValue189
  t64 := Tryz.underlying190
  a64 := Tryz.isAgg190
  z64 := Tryz.sizeOf190
  v64 := Tryz.zeroValue190 }
def Tryz.cloneC_ren : Go.Shelf.Ren := ⟨fun | 42 => 44 | n => n, fun | 25 => 37 | 26 => 9 | 4 => 4 | n => n, fun | n => n⟩
theorem Tryz.cloneC : Go.Proofs.SlLaysN.n42 Tryz.prog Tryz.cloneC_ren := {
  mixed := by kernel_rfl
  f42 := ⟨Tryz.f44.name, by decide, Tryz.func44.trans (congrArg some (by kernel_rfl))⟩
  t4 := Tryz.underlying4
  a4 := Tryz.isAgg4
  z4 := Tryz.sizeOf4
  v4 := Tryz.zeroValue4
  t25 := Tryz.underlying37
  a25 := Tryz.isAgg37
  z25 := Tryz.sizeOf37
  v25 := Tryz.zeroValue37
  t26 := Tryz.underlying9
  a26 := Tryz.isAgg9
  z26 := Tryz.sizeOf9
  v26 := Tryz.zeroValue9
  i26 := by kernel_rfl }
def Tryz.compactC_ren : Go.Shelf.Ren := ⟨fun | 44 => 43 | n => n, fun | 25 => 37 | 26 => 9 | 3 => 3 | 4 => 4 | 0 => 0 | n => n, fun | n => n⟩
theorem Tryz.compactC : Go.Proofs.SlLaysN.n44 Tryz.prog Tryz.compactC_ren := {
  mixed := by kernel_rfl
  f44 := ⟨Tryz.f43.name, by decide, Tryz.func43.trans (congrArg some (by kernel_rfl))⟩
  t0 := Tryz.underlying0
  a0 := Tryz.isAgg0
  z0 := Tryz.sizeOf0
  v0 := Tryz.zeroValue0
  t3 := Tryz.underlying3
  a3 := Tryz.isAgg3
  z3 := Tryz.sizeOf3
  v3 := Tryz.zeroValue3
  t4 := Tryz.underlying4
  a4 := Tryz.isAgg4
  z4 := Tryz.sizeOf4
  v4 := Tryz.zeroValue4
  t25 := Tryz.underlying37
  a25 := Tryz.isAgg37
  z25 := Tryz.sizeOf37
  v25 := Tryz.zeroValue37
  t26 := Tryz.underlying9
  a26 := Tryz.isAgg9
  z26 := Tryz.sizeOf9
  v26 := Tryz.zeroValue9
  i26 := by kernel_rfl }
def Tryz.equalC_ren : Go.Shelf.Ren := ⟨fun | 34 => 45 | n => n, fun | 25 => 37 | 26 => 9 | 4 => 4 | 3 => 3 | 0 => 0 | n => n, fun | n => n⟩
theorem Tryz.equalC : Go.Proofs.SlLaysN.n34 Tryz.prog Tryz.equalC_ren := {
  mixed := by kernel_rfl
  f34 := ⟨Tryz.f45.name, by decide, Tryz.func45.trans (congrArg some (by kernel_rfl))⟩
  t0 := Tryz.underlying0
  a0 := Tryz.isAgg0
  z0 := Tryz.sizeOf0
  v0 := Tryz.zeroValue0
  t3 := Tryz.underlying3
  a3 := Tryz.isAgg3
  z3 := Tryz.sizeOf3
  v3 := Tryz.zeroValue3
  t4 := Tryz.underlying4
  a4 := Tryz.isAgg4
  z4 := Tryz.sizeOf4
  v4 := Tryz.zeroValue4
  t25 := Tryz.underlying37
  a25 := Tryz.isAgg37
  z25 := Tryz.sizeOf37
  v25 := Tryz.zeroValue37
  t26 := Tryz.underlying9
  a26 := Tryz.isAgg9
  z26 := Tryz.sizeOf9
  v26 := Tryz.zeroValue9 }
end Go.Proofs

namespace Go.Proofs.YtfcccldofaleoaaGreatDoor
open Go.Lib

theorem sl_lt (a b : ByteArray) : sl a b = decide (a.toList < b.toList) := by unfold sl; exact bytesLess_eq _ _

theorem asc_unique : ∀ {xs ys : List ByteArray}, Asc xs → Asc ys → (∀ x, x ∈ xs ↔ x ∈ ys) → xs = ys
  | [], [], _, _, _ => rfl
  | [], y :: ys, _, _, h => by have := (h y).2 (by simp); simp at this
  | x :: xs, [], _, _, h => by have := (h x).1 (by simp); simp at this
  | x :: xs, y :: ys, hx, hy, h => by
    have hx' := List.pairwise_cons.1 hx
    have hy' := List.pairwise_cons.1 hy
    have hxy : x = y := by
      rcases List.mem_cons.1 ((h x).1 (by simp)) with e | h1
      · exact e
      · rcases List.mem_cons.1 ((h y).2 (by simp)) with e | h2
        · exact e.symm
        · have h3 := sl_trans (hy'.1 x h1) (hx'.1 y h2)
          rw [sl_irrefl] at h3
          cases h3
    subst hxy
    have : xs = ys := asc_unique hx'.2 hy'.2 (fun z => by
      constructor
      · intro hz
        rcases List.mem_cons.1 ((h z).1 (by simp [hz])) with e | h1
        · subst e
          have h3 := hx'.1 z hz
          rw [sl_irrefl] at h3
          cases h3
        · exact h1
      · intro hz
        rcases List.mem_cons.1 ((h z).2 (by simp [hz])) with e | h1
        · subst e
          have h3 := hy'.1 z hz
          rw [sl_irrefl] at h3
          cases h3
        · exact h1)
    rw [this]

theorem put1_mem_iff {xs : List ByteArray} {s x : ByteArray} : x ∈ put1 xs s ↔ x = s ∨ x ∈ xs := by
  refine ⟨put1_mem, fun h => ?_⟩
  have hk := before_le s xs
  unfold put1
  simp only
  split
  · rw [List.mem_append, List.mem_cons]
    rcases h with rfl | h
    · exact .inr (.inl rfl)
    · rw [← List.take_append_drop (before s xs) xs, List.mem_append] at h
      rcases h with h | h
      · exact .inl h
      · exact .inr (.inr h)
  · rename_i hc
    rcases h with rfl | h
    · have h1 : before x xs ≠ xs.length := fun e => hc (.inl e)
      have h2 : xs.getD (before x xs) ⟨#[]⟩ = x := by
        apply Classical.byContradiction
        exact fun e => hc (.inr e)
      have h3 : before x xs < xs.length := by omega
      rw [List.getD, List.getElem?_eq_getElem h3] at h2
      simp at h2
      rw [← h2]
      exact List.getElem_mem _
    · exact h
theorem foldl_put1_mem (l : List ByteArray) : ∀ (acc : List ByteArray) (x : ByteArray), x ∈ l.foldl put1 acc ↔ x ∈ acc ∨ x ∈ l := by
  induction l with
  | nil => simp
  | cons a l ih =>
    intro acc x
    rw [List.foldl_cons, ih, put1_mem_iff, List.mem_cons]
    constructor
    · rintro ((h | h) | h)
      · exact .inr (.inl h)
      · exact .inl h
      · exact .inr (.inr h)
    · rintro (h | h | h)
      · exact .inl (.inr h)
      · exact .inl (.inl h)
      · exact .inr h
theorem setOfL_mem_iff (l : List ByteArray) (x : ByteArray) : x ∈ setOfL l ↔ x ∈ l := by
  unfold setOfL
  rw [foldl_put1_mem]
  simp

/-- what is kept of a sorted row -/
theorem compactUpTo_spec (d : Array (List UInt8)) (hs : ∀ i j, i < j → j < d.size → d[i]! ≤ d[j]!) : ∀ m, m ≤ d.size →
    (compactUpTo d m).Pairwise (· < ·) ∧ (∀ y ∈ compactUpTo d m, ∃ i, i < m ∧ y = d[i]!) ∧ (∀ i, i < m → d[i]! ∈ compactUpTo d m) := by
  intro m
  induction m with
  | zero => intro _; exact ⟨by simp [compactUpTo], by simp [compactUpTo], fun i h => by omega⟩
  | succ m ih =>
    intro hm
    obtain ⟨h1, h2, h3⟩ := ih (by omega)
    rw [compactUpTo_succ]
    by_cases hk : keeps d m = true
    · rw [if_pos hk]
      refine ⟨?_, ?_, ?_⟩
      · rw [List.pairwise_append]
        refine ⟨h1, List.pairwise_singleton _ _, fun y hy z hz => ?_⟩
        rw [List.mem_singleton] at hz
        subst hz
        obtain ⟨i, hi, rfl⟩ := h2 y hy
        have hne : d[m]! ≠ d[m - 1]! := by
          unfold keeps at hk
          rcases of_decide_eq_true hk with h | h
          · omega
          · exact h
        have hle : d[m - 1]! ≤ d[m]! := hs _ _ (by omega) (by omega)
        have hlt : d[m - 1]! < d[m]! := Classical.byContradiction fun h => hne (List.le_antisymm (show d[m]! ≤ d[m - 1]! from h) hle)
        rcases Nat.lt_or_ge i (m - 1) with h | h
        · exact List.lt_of_le_of_lt (hs i (m - 1) h (by omega)) hlt
        · obtain rfl : i = m - 1 := by omega
          exact hlt
      · intro y hy
        rcases List.mem_append.1 hy with hy | hy
        · obtain ⟨i, hi, e⟩ := h2 y hy
          exact ⟨i, by omega, e⟩
        · exact ⟨m, by omega, by simpa using hy⟩
      · intro i hi
        rw [List.mem_append]
        rcases Nat.lt_or_ge i m with h | h
        · exact .inl (h3 i h)
        · obtain rfl : i = m := by omega
          exact .inr (by simp)
    · rw [if_neg hk, List.append_nil]
      refine ⟨h1, fun y hy => ?_, fun i hi => ?_⟩
      · obtain ⟨i, hi, e⟩ := h2 y hy
        exact ⟨i, by omega, e⟩
      · rcases Nat.lt_or_ge i m with h | h
        · exact h3 i h
        · obtain rfl : i = m := by omega
          have hn : ¬ (i = 0 ∨ d[i]! ≠ d[i - 1]!) := fun e => hk (by unfold keeps; exact decide_eq_true e)
          have he : d[i]! = d[i - 1]! := Classical.byContradiction fun e => hn (.inr e)
          rw [he]
          exact h3 (i - 1) (by have : i ≠ 0 := fun e => hn (.inl e); omega)

def bytesOf (l : List UInt8) : ByteArray := ⟨l.toArray⟩
def listOf (a : ByteArray) : List UInt8 := a.data.toList
theorem bytesOf_listOf (a : ByteArray) : bytesOf (listOf a) = a := by cases a; rfl
theorem listOf_bytesOf (l : List UInt8) : listOf (bytesOf l) = l := by simp [listOf, bytesOf]

/-- sorted and compacted it is the set -/
theorem compact_sorted (xs : List ByteArray) : (compact ((xs.map listOf).mergeSort fun x y => decide (x ≤ y))).map bytesOf = setOfL xs := by
  generalize hZ : (xs.map listOf).mergeSort (fun x y => decide (x ≤ y)) = zs
  have hperm : zs.Perm (xs.map listOf) := by rw [← hZ]; exact List.mergeSort_perm _ _
  have hsort : zs.Pairwise (fun x y => x ≤ y) := by
    rw [← hZ]
    have := List.pairwise_mergeSort (le := fun (x y : List UInt8) => decide (x ≤ y)) (fun a b c h1 h2 => by
      simp only [decide_eq_true_eq] at *
      exact List.le_trans h1 h2) (fun a b => by
      simp only [Bool.or_eq_true, decide_eq_true_eq]
      exact List.le_total a b) (xs.map listOf)
    exact this.imp (fun h => by simpa using h)
  have hs : ∀ i j, i < j → j < zs.toArray.size → zs.toArray[i]! ≤ zs.toArray[j]! := by
    intro i j hij hj
    have hj' : j < zs.length := by simpa using hj
    rw [getElem!_pos zs.toArray i (by simp; omega), getElem!_pos zs.toArray j (by simpa using hj')]
    simpa using List.pairwise_iff_getElem.1 hsort i j (by omega) hj' hij
  obtain ⟨h1, h2, h3⟩ := compactUpTo_spec zs.toArray hs zs.length (by simp)
  refine asc_unique ?_ (setOfL_asc xs) ?_
  · unfold Asc
    rw [List.pairwise_map]
    refine h1.imp (fun {a b} h => ?_)
    rw [sl_lt, toList_data, toList_data]
    exact decide_eq_true (by simpa [bytesOf] using h)
  · intro x
    rw [setOfL_mem_iff, List.mem_map]
    constructor
    · rintro ⟨y, hy, rfl⟩
      obtain ⟨i, hi, rfl⟩ := h2 y hy
      have : zs.toArray[i]! ∈ zs := by rw [getElem!_pos zs.toArray i (by simpa using hi)]; simp
      obtain ⟨z, hz, e⟩ := List.mem_map.1 (hperm.mem_iff.1 this)
      rw [← e, bytesOf_listOf]
      exact hz
    · intro hx
      have : listOf x ∈ zs := hperm.mem_iff.2 (List.mem_map.2 ⟨x, hx, rfl⟩)
      obtain ⟨i, hi, e⟩ := List.mem_iff_getElem.1 this
      refine ⟨listOf x, ?_, bytesOf_listOf x⟩
      have h4 := h3 i hi
      rw [getElem!_pos zs.toArray i (by simpa using hi)] at h4
      rw [← e]
      simpa [compact] using h4
theorem compact_len (xs : List ByteArray) : (compact ((xs.map listOf).mergeSort fun x y => decide (x ≤ y))).length = (setOfL xs).length := by
  rw [← compact_sorted, List.length_map]

end Go.Proofs.YtfcccldofaleoaaGreatDoor

namespace Go.Proofs.YtfcccldofaleoaaGreatDoor
open Go.RowKit

theorem perm_of_sub {α : Type} [DecidableEq α] : ∀ {l m : List α}, l.Nodup → (∀ x ∈ l, x ∈ m) → m.length ≤ l.length → l.Perm m
  | [], m, _, _, h => by
    rw [List.eq_nil_of_length_eq_zero (l := m) (by simpa using h)]
  | x :: l, m, hn, hs, h => by
    have hx := hs x (by simp)
    have hp := List.perm_cons_erase hx
    have hl : m.length = (m.erase x).length + 1 := by rw [hp.length_eq]; rfl
    have hn2 := List.nodup_cons.1 hn
    refine ((perm_of_sub hn2.2 (fun y hy => ?_) (by rw [List.length_cons] at h; omega)).cons x).trans hp.symm
    exact (List.mem_erase_of_ne (fun e : y = x => hn2.1 (by rw [← e]; exact hy))).2 (hs y (by simp [hy]))
/-- b has the columns of a in the order p (q: the way back) and the rows in the order s -/
structure Turned (a b : List Co) (n : Nat) (p q : List Nat) (s : Nat → Nat) : Prop where
  len : b.length = a.length
  plen : p.length = a.length
  qlen : q.length = a.length
  plt : ∀ i ∈ p, i < a.length
  back : ∀ i, i < a.length → p.getD (q.getD i 0) 0 = i ∧ q.getD i 0 < a.length
  names : namesL b = p.map fun k => (a.getD k Co.z).name
  cells : ∀ k i, k < a.length → i < n → cellAt b k i = cellAt a (p.getD k 0) (s i)
  rows : ((List.range n).map s).Perm (List.range n)
section
variable {a b : List Co} {n : Nat} {p q : List Nat} {s : Nat → Nat}
theorem Turned.pp (h : Turned a b n p q s) : p.Perm (List.range a.length) := by
  have hsub : ∀ i ∈ List.range a.length, i ∈ p := fun i hi => by
    obtain ⟨h1, h2⟩ := h.back i (List.mem_range.1 hi)
    have h3 : q.getD i 0 < p.length := by rw [h.plen]; exact h2
    have : p.getD (q.getD i 0) 0 = p[q.getD i 0] := by rw [List.getD, List.getElem?_eq_getElem h3, Option.getD_some]
    rw [← h1, this]
    exact List.getElem_mem h3
  exact (perm_of_sub List.nodup_range hsub (by rw [h.plen, List.length_range]; exact Nat.le_refl _)).symm
theorem Turned.namesP (h : Turned a b n p q s) : (namesL b).Perm (namesL a) := by
  rw [h.names]
  refine (h.pp.map _).trans (List.Perm.of_eq ?_)
  apply List.ext_getElem
  · simp [namesL]
  · intro i h1 h2
    have hi : i < a.length := by simpa using h1
    simp [namesL, List.getD, hi]
theorem Turned.own (h : Turned a b n p q s) : (rowsOf b (ownL b) n).Perm (rowsOf a p n) := by
  have e : rowsOf b (ownL b) n = ((List.range n).map s).map (rowAt a p) := by
    unfold rowsOf
    rw [List.map_map]
    refine List.map_congr_left fun i hi => ?_
    refine row_ext (xs := a) (al := p) (by rw [rowAt_len]; simp [ownL, h.len, h.plen]) (rowAt_len _ _ _) fun k hk => ?_
    have hka : k < a.length := by rw [← h.plen]; exact hk
    have h1 := h.cells k i hka (List.mem_range.1 hi)
    have e1 : (rowAt b (ownL b) i).getD k Cl.z = cellAt b k i := by simp [rowAt, ownL, List.getD, h.len, hka]
    have e2 : (rowAt a p (s i)).getD k Cl.z = cellAt a (p.getD k 0) (s i) := by simp [rowAt, List.getD, hk]
    rw [e1, Function.comp, e2, h1]
  rw [e]
  exact h.rows.map _
theorem Turned.aligned (h : Turned a b n p q s) (hn : (namesL a).Nodup) : Aligns a b := ⟨hn, h.namesP.nodup_iff.2 hn, h.namesP.symm⟩
theorem Turned.same (h : Turned a b n p q s) (hn : (namesL a).Nodup) (h1 : rowsN a = n) (h2 : rowsN b = n) : commonL a b = n := by
  unfold commonL
  rw [if_pos (h.aligned hn), h1, h2]
  have hb := (h.aligned hn).2.1
  have e : rowsOf b (alignL a b) n = ((List.range n).map s).map (rowAt a (ownL a)) := by
    unfold rowsOf
    rw [List.map_map]
    refine List.map_congr_left fun i hi => ?_
    refine row_ext (xs := a) (al := ownL a) (by rw [rowAt_len, alignL_len]; simp [ownL]) (rowAt_len _ _ _) fun k hk => ?_
    have hka : k < a.length := by simpa [ownL] using hk
    obtain ⟨hq1, hq2⟩ := h.back k hka
    have hq3 : q.getD k 0 < b.length := by rw [h.len]; exact hq2
    have e0 : (b.getD (q.getD k 0) Co.z).name = (a.getD k Co.z).name := by
      have h4 : (namesL b).getD (q.getD k 0) ⟨#[]⟩ = (b.getD (q.getD k 0) Co.z).name := namesL_getD _ _
      rw [← h4, h.names]
      have h5 : q.getD k 0 < p.length := by rw [h.plen]; exact hq2
      rw [List.getD, List.getElem?_map, List.getElem?_eq_getElem h5]
      have h6 : p.getD (q.getD k 0) 0 = p[q.getD k 0] := by rw [List.getD, List.getElem?_eq_getElem h5, Option.getD_some]
      rw [h6] at hq1
      simp only [Option.map_some, Option.getD_some]
      rw [hq1]
    have e1 : (rowAt b (alignL a b) i).getD k Cl.z = cellAt b ((alignL a b).getD k 0) i := by
      have : k < (alignL a b).length := by rw [alignL_len]; exact hka
      simp [rowAt, List.getD, this]
    have e2 : (rowAt a (ownL a) (s i)).getD k Cl.z = cellAt a k (s i) := by simp [rowAt, ownL, List.getD, hka]
    rw [e1, Function.comp, e2, alignL_at hka, ← e0, idxN_at hb hq3, h.cells _ _ hq2 (List.mem_range.1 hi), hq1]
  rw [e, comL_perm_right (h.rows.map _)]
  have : comL (rowsOf a (ownL a) n) (rowsOf a (ownL a) n) = n := by rw [comL_self, rowsOf_len]
  exact this
theorem Turned.other (h : Turned a b n p q s) (h1 : rowsN a = n) (h2 : rowsN b = n) (c : List Co) : commonL b c = commonL a c := by
  unfold commonL
  have hP := h.namesP
  by_cases hc : Aligns a c
  · have hbc : Aligns b c := ⟨hP.nodup_iff.2 hc.1, hc.2.1, hP.trans hc.2.2⟩
    rw [if_pos hc, if_pos hbc, h1, h2, comL_perm_left h.own]
    have e1 : alignL b c = p.map fun k => (alignL a c).getD k 0 := by
      unfold alignL
      rw [h.names, List.map_map]
      refine List.map_congr_left fun k hk => ?_
      have hka := h.plt k hk
      have := alignL_at (b := c) hka
      unfold alignL at this
      rw [this]
      rfl
    have e2 : p = p.map fun k => (ownL a).getD k 0 := by
      have : ∀ k ∈ p, (ownL a).getD k 0 = k := fun k hk => by simp [ownL, List.getD, h.plt k hk]
      symm
      exact (List.map_congr_left this).trans (List.map_id' _)
    have key := com_per (xs := a) (ys := c) (al := ownL a) (bl := alignL a c) (p := p) (q := q) (m := n) (n := rowsN c) (k := a.length) (by simp [ownL]) (alignL_len _ _) h.plt h.qlen (fun i hi => ⟨(h.back i hi).1, by rw [h.plen]; exact (h.back i hi).2⟩)
    rw [← e1, ← e2] at key
    exact key
  · rw [if_neg hc, if_neg (fun h' => hc ⟨hP.nodup_iff.1 h'.1, h'.2.1, hP.symm.trans h'.2.2⟩)]
end
theorem rot_perm (n t : Nat) : ((List.range n).map fun i => (i + t) % n).Perm (List.range n) := by
  have inj : ∀ i j, i < n → j < n → (i + t) % n = (j + t) % n → i = j := fun i j hi hj e => by
    have h1 := Nat.div_add_mod (i + t) n
    have h2 := Nat.div_add_mod (j + t) n
    rw [e] at h1
    rcases Nat.lt_trichotomy ((i + t) / n) ((j + t) / n) with h | h | h
    · have : n * ((i + t) / n) + n ≤ n * ((j + t) / n) := by rw [← Nat.mul_succ]; exact Nat.mul_le_mul_left _ h
      omega
    · rw [h] at h1; omega
    · have : n * ((j + t) / n) + n ≤ n * ((i + t) / n) := by rw [← Nat.mul_succ]; exact Nat.mul_le_mul_left _ h
      omega
  have hnd : ((List.range n).map fun i => (i + t) % n).Nodup := by
    rw [List.Nodup, List.pairwise_map]
    exact List.Pairwise.imp_of_mem (fun {a b} ha hb hne e => hne (inj a b (List.mem_range.1 ha) (List.mem_range.1 hb) e)) List.nodup_range
  exact perm_of_sub hnd (fun x hx => by
    obtain ⟨i, hi, rfl⟩ := List.mem_map.1 hx
    have := List.mem_range.1 hi
    exact List.mem_range.2 (Nat.mod_lt _ (by omega))) (by simp)
theorem rot_back {k s i : Nat} (hi : i < k) : ((i + (k - s % k)) % k + s) % k = i := by
  have hs : s % k < k := Nat.mod_lt _ (by omega)
  rw [Nat.mod_add_mod]
  have h1 := Nat.div_add_mod s k
  have : i + (k - s % k) + s = i + k * (s / k + 1) := by rw [Nat.mul_succ]; omega
  rw [this, Nat.add_mul_mod_self_left, Nat.mod_eq_of_lt hi]
def rotL (k s : Nat) : List Nat := (List.range k).map fun i => (i + s) % k
def rotB (k s : Nat) : List Nat := (List.range k).map fun i => (i + (k - s % k)) % k
/-- the table that CopiesOrder makes: column i is column i + s, row r is row r + t -/
theorem turned_rot {a b : List Co} {n s t : Nat} (hl : b.length = a.length) (hn : namesL b = (rotL a.length s).map fun k => (a.getD k Co.z).name)
    (hc : ∀ k i, k < a.length → i < n → cellAt b k i = cellAt a ((k + s) % a.length) ((i + t) % n)) : Turned a b n (rotL a.length s) (rotB a.length s) (fun i => (i + t) % n) where
  len := hl
  plen := by simp [rotL]
  qlen := by simp [rotB]
  plt i hi := by
    obtain ⟨j, hj, rfl⟩ := List.mem_map.1 hi
    have := List.mem_range.1 hj
    exact Nat.mod_lt _ (by omega)
  back i hi := by
    have hq : (rotB a.length s).getD i 0 = (i + (a.length - s % a.length)) % a.length := by simp [rotB, List.getD, hi]
    have hlt : (i + (a.length - s % a.length)) % a.length < a.length := Nat.mod_lt _ (by omega)
    rw [hq]
    refine ⟨?_, hlt⟩
    have : (rotL a.length s).getD ((i + (a.length - s % a.length)) % a.length) 0 = ((i + (a.length - s % a.length)) % a.length + s) % a.length := by simp [rotL, List.getD, hlt]
    rw [this, rot_back hi]
  names := hn
  cells k i hk hi := by
    have : (rotL a.length s).getD k 0 = (k + s) % a.length := by simp [rotL, List.getD, hk]
    rw [this]
    exact hc k i hk hi
  rows := rot_perm n t

end Go.Proofs.YtfcccldofaleoaaGreatDoor

namespace Go.Proofs.YtfcccldofaleoaaGreatDoor
open Go.RowKit

def sortL (xs : List ByteArray) : List ByteArray := ((xs.map listOf).mergeSort fun x y => decide (x ≤ y)).map bytesOf
theorem sortL_perm (xs : List ByteArray) : (sortL xs).Perm xs := by
  have h : ((xs.map listOf).mergeSort fun x y => decide (x ≤ y)).Perm (xs.map listOf) := List.mergeSort_perm _ _
  have h2 := h.map bytesOf
  have e : (xs.map listOf).map bytesOf = xs := by
    rw [List.map_map]
    exact (List.map_congr_left fun x _ => bytesOf_listOf x).trans (List.map_id' _)
  rw [e] at h2
  exact h2
theorem sortL_len (xs : List ByteArray) : (sortL xs).length = xs.length := (sortL_perm xs).length_eq
theorem sortL_pair (xs : List ByteArray) : ((xs.map listOf).mergeSort fun x y => decide (x ≤ y)).Pairwise (fun x y => x ≤ y) := by
  have := List.pairwise_mergeSort (le := fun (x y : List UInt8) => decide (x ≤ y)) (fun a b c h1 h2 => by
    simp only [decide_eq_true_eq] at *
    exact List.le_trans h1 h2) (fun a b => by
    simp only [Bool.or_eq_true, decide_eq_true_eq]
    exact List.le_total a b) (xs.map listOf)
  exact this.imp (fun h => by simpa using h)
theorem sortL_eq {xs ys : List ByteArray} : sortL xs = sortL ys ↔ xs.Perm ys := by
  constructor
  · intro h
    exact (sortL_perm xs).symm.trans ((List.Perm.of_eq h).trans (sortL_perm ys))
  · intro h
    unfold sortL
    congr 1
    refine List.Perm.eq_of_pairwise (le := fun x y : List UInt8 => x ≤ y) (fun a b _ _ h1 h2 => List.le_antisymm h1 h2) (sortL_pair xs) (sortL_pair ys) ?_
    exact (List.mergeSort_perm _ _).trans ((h.map listOf).trans (List.mergeSort_perm _ _).symm)
theorem set_nodup (xs : List ByteArray) : (setOfL xs).length = xs.length ↔ xs.Nodup := by
  have hs : (setOfL xs).Nodup := (setOfL_asc xs).imp fun {a b} h e => by subst e; rw [sl_irrefl] at h; cases h
  constructor
  · intro h
    exact (perm_of_sub hs (fun x hx => (setOfL_mem_iff xs x).1 hx) (by omega)).nodup_iff.1 hs
  · intro h
    exact ((List.perm_ext_iff_of_nodup hs h).2 fun x => setOfL_mem_iff xs x).length_eq
theorem sort_set (xs : List ByteArray) : (setOfL (sortL xs)).length = (setOfL xs).length := by
  have h : setOfL (sortL xs) = setOfL xs := asc_unique (setOfL_asc _) (setOfL_asc _) fun x => by
    rw [setOfL_mem_iff, setOfL_mem_iff]; exact (sortL_perm xs).mem_iff
  rw [h]

end Go.Proofs.YtfcccldofaleoaaGreatDoor
